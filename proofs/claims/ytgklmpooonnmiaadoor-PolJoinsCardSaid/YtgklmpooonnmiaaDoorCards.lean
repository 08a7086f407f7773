/-
  DERIVED. GIVEN WITH THE SEED: THE CARDS: each row of YtgklmpooonnmiaaDoorRows.lean that lists a variable, with what it lists TIED to the program's text (the seventh form; the later family's looks); each row that meets fmt, with fmt's text TOLD by the authors' own Lean function (tested against real Go, not proved from fmt's source: count such statements apart). THE CARD IS WHAT COUNTS. Prove the row's statement (the work); the ties are given (YtgklmpooonnmiaaDoorTie.lean); close each card by the builder's one call (the guide's Derived/Test/ToyasCard.lean, 'card_holds'). Laid BY PROGRAM, IN A SANDBOX (cutbox-door.mjs). By AI agents, Wed Nov 11 2026. No macro, syntax, notation, axiom, sorry.
-/
import Derived.Test.YtgklmpooonnmiaaDoorRows
import GoSem.ClaimSeven
namespace Go.Proofs.YtgklmpooonnmiaaDoor
namespace Rows

/-- THE TIED CARD OF 'warrantlaw11.LexSpells'. -/
def lexSpellsCard : Claim7 := { stood := { row := lexSpellsRow, standIns := [], harness := (true, "f4ecaeb6b3ec75ccc75ae419ded5f1df07c8c78158b1ae06f9c295ffefa37fb8"), looks := true }, kinds := [], alts := [], laidByText := true, laidKinds := [.data], laidTests := true, laidLooks := .later }
def LexSpellsCardSaid : Prop := Claim7.holds Tryd.pinned (.plain (OpenSpec.ofChange lexSpellsSpec)) lexSpellsCard

/-- THE TIED CARD OF 'warrantlaw11.LexBack'. -/
def lexBackCard : Claim7 := { stood := { row := lexBackRow, standIns := [], harness := (true, "f4ecaeb6b3ec75ccc75ae419ded5f1df07c8c78158b1ae06f9c295ffefa37fb8"), looks := true }, kinds := [], alts := [], laidByText := true, laidKinds := [.data], laidTests := true, laidLooks := .later }
def LexBackCardSaid : Prop := Claim7.holds Tryd.pinned (.plain (OpenSpec.ofChange lexBackSpec)) lexBackCard

/-- THE TIED CARD OF 'warrantlaw11.LexBlanks'. -/
def lexBlanksCard : Claim7 := { stood := { row := lexBlanksRow, standIns := [], harness := (true, "f4ecaeb6b3ec75ccc75ae419ded5f1df07c8c78158b1ae06f9c295ffefa37fb8"), looks := true }, kinds := [], alts := [], laidByText := true, laidKinds := [.data], laidTests := true, laidLooks := .later }
def LexBlanksCardSaid : Prop := Claim7.holds Tryd.pinned (.plain (OpenSpec.ofChange lexBlanksSpec)) lexBlanksCard

/-- THE TIED CARD OF 'warrantlaw11.LexScans'. -/
def lexScansCard : Claim7 := { stood := { row := lexScansRow, standIns := [], harness := (true, "f4ecaeb6b3ec75ccc75ae419ded5f1df07c8c78158b1ae06f9c295ffefa37fb8"), looks := true }, kinds := [], alts := [], laidByText := true, laidKinds := [.handle, .data], laidTests := true, laidLooks := .later }
def LexScansCardSaid : Prop := Claim7.holds Tryd.pinned (.plain (OpenSpec.ofChange lexScansSpec)) lexScansCard

/-- THE TIED CARD OF 'warrantlaw12.PolSame'. -/
def polSameCard : Claim7 := { stood := { row := polSameRow, standIns := [], harness := (true, "f4ecaeb6b3ec75ccc75ae419ded5f1df07c8c78158b1ae06f9c295ffefa37fb8"), looks := true }, kinds := [], alts := [], laidByText := true, laidKinds := [.data], laidTests := true, laidLooks := .later }
def PolSameCardSaid : Prop := Claim7.holds Tryd.pinned (.plain (OpenSpec.ofChange polSameSpec)) polSameCard

/-- THE TIED CARD OF 'warrantlaw12.PolJoins'. -/
def polJoinsCard : Claim7 := { stood := { row := polJoinsRow, standIns := [], harness := (true, "f4ecaeb6b3ec75ccc75ae419ded5f1df07c8c78158b1ae06f9c295ffefa37fb8"), looks := true }, kinds := [], alts := [], laidByText := true, laidKinds := [.handle, .data], laidTests := true, laidLooks := .later }
def PolJoinsCardSaid : Prop := Claim7.holds Tryd.pinned (.plain (OpenSpec.ofChange polJoinsSpec)) polJoinsCard

/-- THE SECOND FORM's CARD OF 'warrantlaw11.LexSpells'. -/
def lexSpellsUptoCard : Claim7 := { stood := { row := lexSpellsUptoRow, standIns := [], harness := (true, "f4ecaeb6b3ec75ccc75ae419ded5f1df07c8c78158b1ae06f9c295ffefa37fb8"), looks := true }, kinds := [], alts := [], laidByText := true, laidKinds := [.data], laidTests := true, laidLooks := .later }
def LexSpellsUptoCardSaid : Prop := Claim7.holds Tryd.pinned (.plain (OpenSpec.upto lexSpellsSpec)) lexSpellsUptoCard

/-- THE SECOND FORM's CARD OF 'warrantlaw11.LexBack'. -/
def lexBackUptoCard : Claim7 := { stood := { row := lexBackUptoRow, standIns := [], harness := (true, "f4ecaeb6b3ec75ccc75ae419ded5f1df07c8c78158b1ae06f9c295ffefa37fb8"), looks := true }, kinds := [], alts := [], laidByText := true, laidKinds := [.data], laidTests := true, laidLooks := .later }
def LexBackUptoCardSaid : Prop := Claim7.holds Tryd.pinned (.plain (OpenSpec.upto lexBackSpec)) lexBackUptoCard

/-- THE SECOND FORM's CARD OF 'warrantlaw11.LexBlanks'. -/
def lexBlanksUptoCard : Claim7 := { stood := { row := lexBlanksUptoRow, standIns := [], harness := (true, "f4ecaeb6b3ec75ccc75ae419ded5f1df07c8c78158b1ae06f9c295ffefa37fb8"), looks := true }, kinds := [], alts := [], laidByText := true, laidKinds := [.data], laidTests := true, laidLooks := .later }
def LexBlanksUptoCardSaid : Prop := Claim7.holds Tryd.pinned (.plain (OpenSpec.upto lexBlanksSpec)) lexBlanksUptoCard

/-- THE SECOND FORM's CARD OF 'warrantlaw11.LexScans'. -/
def lexScansUptoCard : Claim7 := { stood := { row := lexScansUptoRow, standIns := [], harness := (true, "f4ecaeb6b3ec75ccc75ae419ded5f1df07c8c78158b1ae06f9c295ffefa37fb8"), looks := true }, kinds := [], alts := [], laidByText := true, laidKinds := [.handle, .data], laidTests := true, laidLooks := .later }
def LexScansUptoCardSaid : Prop := Claim7.holds Tryd.pinned (.plain (OpenSpec.upto lexScansSpec)) lexScansUptoCard

/-- THE SECOND FORM's CARD OF 'warrantlaw12.PolSame'. -/
def polSameUptoCard : Claim7 := { stood := { row := polSameUptoRow, standIns := [], harness := (true, "f4ecaeb6b3ec75ccc75ae419ded5f1df07c8c78158b1ae06f9c295ffefa37fb8"), looks := true }, kinds := [], alts := [], laidByText := true, laidKinds := [.data], laidTests := true, laidLooks := .later }
def PolSameUptoCardSaid : Prop := Claim7.holds Tryd.pinned (.plain (OpenSpec.upto polSameSpec)) polSameUptoCard

/-- THE SECOND FORM's CARD OF 'warrantlaw12.PolJoins'. -/
def polJoinsUptoCard : Claim7 := { stood := { row := polJoinsUptoRow, standIns := [], harness := (true, "f4ecaeb6b3ec75ccc75ae419ded5f1df07c8c78158b1ae06f9c295ffefa37fb8"), looks := true }, kinds := [], alts := [], laidByText := true, laidKinds := [.handle, .data], laidTests := true, laidLooks := .later }
def PolJoinsUptoCardSaid : Prop := Claim7.holds Tryd.pinned (.plain (OpenSpec.upto polJoinsSpec)) polJoinsUptoCard
end Rows
end Go.Proofs.YtgklmpooonnmiaaDoor
