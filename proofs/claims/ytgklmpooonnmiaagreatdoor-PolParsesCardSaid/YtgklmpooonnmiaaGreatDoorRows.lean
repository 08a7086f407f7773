/-
  NARROWER THAN 'FOR EVERY INPUT', by the rows' own cells (each row's printed sentence says how): PolParses: laid · PolPrints: loops, laid.
  DERIVED. THE GIVEN ROWS OF THIS SEAT. 2 by the template 'for every input the law returns true; each argument reads behind the call as it read before'; 0 by the template 'total and deterministic' (their statements: YtgklmpooonnmiaaGreatDoorTotals.lean).
  GIVEN WITH THE SEED: the statements are not yours to turn. If you find one false, say at which input.
  Laid BY PROGRAM, IN A SANDBOX (cutbox-rows.mjs): the forced cells as the released guide's own fill.sh prints them over the translation f7bac9b318dc3833… (all of the seat's roots in one cut). By AI agents, Wed Nov 11 2026. No macro, syntax, notation, axiom, sorry.
-/
import Derived.Test.YtgklmpooonnmiaaGreatDoorChecked
import GoSem.Claim
import GoSem.ClaimJoined
import GoSem.ClaimMapViews
import Derived.JoinedTies
import Derived.KernelRfl
namespace Go.Proofs.YtgklmpooonnmiaaGreatDoor
/- THE CELL 'sum', in the pinned program and in every row, IS THE sha256 OF THE DUMP (.gsa) THAT YtgklmpooonnmiaaGreatDoorProg.lean LOADS. Nothing in Lean hashes anything: it is a label: what it is worth is what the hold of that sum in a sandbox is worth. -/
noncomputable def Tryz.pinned : Pinned := { name := "ytgklmpooonnmiaagreatdoor", sum := "f7bac9b318dc38335e04301d80ea15d1d11efdc2c7bc169eb691c61002097a9c", checked := Tryz.checked }
namespace Rows
def none {H : Type} : Left H := { results := [], args := [] }

/- WHAT THE LISTED PACKAGE-LEVEL VARIABLES READ AS WHEN THE CALL BEGINS. Each datum BY PROGRAM (the guide's laid-datum.mjs) off the statement by which the dump's own 'gosem.cut.vars' lays the variable. In a bare row this is a premise. The card (YtgklmpooonnmiaaGreatDoorCards.lean) ties it to the program's text. -/
def laid_errors_errorType {H : Type} : DataW H := .iface "internal/reflectlite.rtype" (.agg [.ptr (.lit (.string [101, 114, 114, 111, 114]))])
def laid_warrant_utf_least {H : Type} : DataW H := .agg [.lit (.int .i64 0), .lit (.int .i64 0), .lit (.int .i64 128), .lit (.int .i64 2048), .lit (.int .i64 65536)]

/-- 'warrantlaw12.PolParses': WHATEVER THE INPUT: true; the input reads as it did. -/
def polParsesSpec : ChangeSpec := { name := "polParses", fn := fun _ => fun
  | [d] => { results := [.lit (.bool true)], args := [d] }
  | _ => none }
def polParsesRow : OpenClaim := { program := "ytgklmpooonnmiaagreatdoor", sum := "f7bac9b318dc38335e04301d80ea15d1d11efdc2c7bc169eb691c61002097a9c", func := "warrant/warrantlaw12.PolParses", spec := "polParses", inPlace := ["internal/bytealg.IndexByteString", "internal/abi.NoEscape", "internal/reflectlite.ValueOf", "(internal/reflectlite.Value).Type", "(internal/reflectlite.Value).IsNil", "internal/reflectlite.TypeOf", "(internal/reflectlite.Value).Elem", "(internal/reflectlite.Value).Set"], unfollowed := true, recurses := true, named := ["warrant/utf.least", "errors.errorType"], apart := false, laid := [("errors.errorType", laid_errors_errorType), ("warrant/utf.least", laid_warrant_utf_least)] }
def PolParsesSaid : Prop := polParsesRow.holds Tryz.pinned (OpenSpec.ofChange polParsesSpec)

/-- ITS FALSE NEIGHBOUR: 'it returns false'. Refute it at one input. -/
def polParsesWrong : ChangeSpec := { name := "polParses", fn := fun _ => fun
  | [d] => { results := [.lit (.bool false)], args := [d] }
  | _ => none }
def PolParsesWrongFalsely : Prop := polParsesRow.holds Tryz.pinned (OpenSpec.ofChange polParsesWrong)

/-- 'warrantlaw12.PolPrints': WHATEVER THE INPUT: true; the input reads as it did. -/
def polPrintsSpec : ChangeSpec := { name := "polPrints", fn := fun _ => fun
  | [d] => { results := [.lit (.bool true)], args := [d] }
  | _ => none }
def polPrintsRow : OpenClaim := { program := "ytgklmpooonnmiaagreatdoor", sum := "f7bac9b318dc38335e04301d80ea15d1d11efdc2c7bc169eb691c61002097a9c", func := "warrant/warrantlaw12.PolPrints", spec := "polPrints", inPlace := ["internal/bytealg.IndexByteString", "internal/abi.NoEscape", "internal/reflectlite.ValueOf", "(internal/reflectlite.Value).Type", "(internal/reflectlite.Value).IsNil", "internal/reflectlite.TypeOf", "(internal/reflectlite.Value).Elem", "(internal/reflectlite.Value).Set"], unfollowed := true, recurses := true, named := ["warrant/utf.least", "errors.errorType"], loops := true, apart := false, laid := [("errors.errorType", laid_errors_errorType), ("warrant/utf.least", laid_warrant_utf_least)] }
def PolPrintsSaid : Prop := polPrintsRow.holds Tryz.pinned (OpenSpec.ofChange polPrintsSpec)

/-- ITS FALSE NEIGHBOUR: 'it returns false'. Refute it at one input. -/
def polPrintsWrong : ChangeSpec := { name := "polPrints", fn := fun _ => fun
  | [d] => { results := [.lit (.bool false)], args := [d] }
  | _ => none }
def PolPrintsWrongFalsely : Prop := polPrintsRow.holds Tryz.pinned (OpenSpec.ofChange polPrintsWrong)

/- THE SECOND FORM. 'bulk': how many values and letters a reading holds, each counted each time it is reached (what is shared counts as often as it is met; a slice's spare places count too). A statement '..UptoSaid' is the law's where the arguments, and the package variables that the reading takes, are together of bulk at most 1048576: NARROWER than '..Said'. Prove '..Said' where nothing that the law and all that it calls make is longer than what came in: it says more and counts as full. Else prove '..UptoSaid'. A law counts once. -/
mutual
def uptoBulk {H : Type} : DataW H → Nat
  | .lit (.string bytes) => bytes.length + 1
  | .lit _ => 1
  | .nil => 1
  | .ptr d => uptoBulk d + 1
  | .slice elems spare => uptoBulkAll elems + uptoBulkAll spare + 1
  | .agg parts => uptoBulkAll parts + 1
  | .iface _ d => uptoBulk d + 1
  | .map entries => uptoBulkEntries entries + 1
  | .held _ => 1
def uptoBulkAll {H : Type} : List (DataW H) → Nat
  | [] => 0
  | d :: r => uptoBulk d + uptoBulkAll r
def uptoBulkEntries {H : Type} : List (Lit × DataW H) → Nat
  | [] => 0
  | x :: r => uptoBulkEntry x + uptoBulkEntries r
def uptoBulkEntry {H : Type} : Lit × DataW H → Nat
  | (.string bytes, d) => bytes.length + uptoBulk d + 1
  | (_, d) => uptoBulk d + 1
 end
def uptoSmall : (H : Type) → List (DataW H) → Bool := fun _ ds => decide (uptoBulkAll ds ≤ 1048576)
def OpenSpec.upto (s : _root_.Go.ChangeSpec) : _root_.Go.OpenSpec := { _root_.Go.OpenSpec.ofChange s with cond := some uptoSmall }

/-- 'warrantlaw12.PolParses', WHERE WHAT IT READS IS OF BULK AT MOST 1048576: true; the input reads as it did. -/
def polParsesUptoRow : OpenClaim := { program := "ytgklmpooonnmiaagreatdoor", sum := "f7bac9b318dc38335e04301d80ea15d1d11efdc2c7bc169eb691c61002097a9c", func := "warrant/warrantlaw12.PolParses", spec := "polParses", inPlace := ["internal/bytealg.IndexByteString", "internal/abi.NoEscape", "internal/reflectlite.ValueOf", "(internal/reflectlite.Value).Type", "(internal/reflectlite.Value).IsNil", "internal/reflectlite.TypeOf", "(internal/reflectlite.Value).Elem", "(internal/reflectlite.Value).Set"], unfollowed := true, recurses := true, named := ["warrant/utf.least", "errors.errorType"], apart := false, laid := [("errors.errorType", laid_errors_errorType), ("warrant/utf.least", laid_warrant_utf_least)], narrowed := true }
def PolParsesUptoSaid : Prop := polParsesUptoRow.holds Tryz.pinned (OpenSpec.upto polParsesSpec)

/-- 'warrantlaw12.PolPrints', WHERE WHAT IT READS IS OF BULK AT MOST 1048576: true; the input reads as it did. -/
def polPrintsUptoRow : OpenClaim := { program := "ytgklmpooonnmiaagreatdoor", sum := "f7bac9b318dc38335e04301d80ea15d1d11efdc2c7bc169eb691c61002097a9c", func := "warrant/warrantlaw12.PolPrints", spec := "polPrints", inPlace := ["internal/bytealg.IndexByteString", "internal/abi.NoEscape", "internal/reflectlite.ValueOf", "(internal/reflectlite.Value).Type", "(internal/reflectlite.Value).IsNil", "internal/reflectlite.TypeOf", "(internal/reflectlite.Value).Elem", "(internal/reflectlite.Value).Set"], unfollowed := true, recurses := true, named := ["warrant/utf.least", "errors.errorType"], loops := true, apart := false, laid := [("errors.errorType", laid_errors_errorType), ("warrant/utf.least", laid_warrant_utf_least)], narrowed := true }
def PolPrintsUptoSaid : Prop := polPrintsUptoRow.holds Tryz.pinned (OpenSpec.upto polPrintsSpec)

end Rows
end Go.Proofs.YtgklmpooonnmiaaGreatDoor
