/-
  DERIVED. GIVEN WITH THE SEED: THE CARDS: each row of YtgklmpooonnmiaaGreatDoorRows.lean that lists a variable, with what it lists TIED to the program's text (the seventh form; the later family's looks); each row that meets fmt, with fmt's text TOLD by the authors' own Lean function (tested against real Go, not proved from fmt's source: count such statements apart). THE CARD IS WHAT COUNTS. Prove the row's statement (the work); the ties are given (YtgklmpooonnmiaaGreatDoorTie.lean); close each card by the builder's one call (the guide's Derived/Test/ToyasCard.lean, 'card_holds'). Laid BY PROGRAM, IN A SANDBOX (cutbox-door.mjs). By AI agents, Wed Nov 11 2026. No macro, syntax, notation, axiom, sorry.
-/
import Derived.Test.YtgklmpooonnmiaaGreatDoorRows
import GoSem.ClaimSeven
namespace Go.Proofs.YtgklmpooonnmiaaGreatDoor
namespace Rows

/-- THE TIED CARD OF 'warrantlaw12.PolParses'. -/
def polParsesCard : Claim7 := { stood := { row := polParsesRow, standIns := [], harness := (true, "f86795989425d06f0b6630f2068dc8aaaa877d8ff745a68a2628e50f0479da04"), looks := true }, kinds := [], alts := [], laidByText := true, laidKinds := [.handle, .data], laidTests := true, laidLooks := .later }
def PolParsesCardSaid : Prop := Claim7.holds Tryz.pinned (.plain (OpenSpec.ofChange polParsesSpec)) polParsesCard

/-- THE TIED CARD OF 'warrantlaw12.PolPrints'. -/
def polPrintsCard : Claim7 := { stood := { row := polPrintsRow, standIns := [], harness := (true, "f86795989425d06f0b6630f2068dc8aaaa877d8ff745a68a2628e50f0479da04"), looks := true }, kinds := [], alts := [], laidByText := true, laidKinds := [.handle, .data], laidTests := true, laidLooks := .later }
def PolPrintsCardSaid : Prop := Claim7.holds Tryz.pinned (.plain (OpenSpec.ofChange polPrintsSpec)) polPrintsCard

/-- THE SECOND FORM's CARD OF 'warrantlaw12.PolParses'. -/
def polParsesUptoCard : Claim7 := { stood := { row := polParsesUptoRow, standIns := [], harness := (true, "f86795989425d06f0b6630f2068dc8aaaa877d8ff745a68a2628e50f0479da04"), looks := true }, kinds := [], alts := [], laidByText := true, laidKinds := [.handle, .data], laidTests := true, laidLooks := .later }
def PolParsesUptoCardSaid : Prop := Claim7.holds Tryz.pinned (.plain (OpenSpec.upto polParsesSpec)) polParsesUptoCard

/-- THE SECOND FORM's CARD OF 'warrantlaw12.PolPrints'. -/
def polPrintsUptoCard : Claim7 := { stood := { row := polPrintsUptoRow, standIns := [], harness := (true, "f86795989425d06f0b6630f2068dc8aaaa877d8ff745a68a2628e50f0479da04"), looks := true }, kinds := [], alts := [], laidByText := true, laidKinds := [.handle, .data], laidTests := true, laidLooks := .later }
def PolPrintsUptoCardSaid : Prop := Claim7.holds Tryz.pinned (.plain (OpenSpec.upto polPrintsSpec)) polPrintsUptoCard
end Rows
end Go.Proofs.YtgklmpooonnmiaaGreatDoor
