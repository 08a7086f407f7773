/-
  NARROWER THAN 'FOR EVERY INPUT', by the rows' own cells (each row's printed sentence says how): LexSpells: laid · LexBack: laid · LexBlanks: laid · LexScans: laid · PolSame: loops, laid · PolJoins: laid.
  DERIVED. THE GIVEN ROWS OF THIS SEAT. 6 by the template 'for every input the law returns true; each argument reads behind the call as it read before'; 0 by the template 'total and deterministic' (their statements: YtgklmpooonnmiaaDoorTotals.lean).
  GIVEN WITH THE SEED: the statements are not yours to turn. If you find one false, say at which input.
  Laid BY PROGRAM, IN A SANDBOX (cutbox-rows.mjs): the forced cells as the released guide's own fill.sh prints them over the translation 02150a424c09ce5b… (all of the seat's roots in one cut). By AI agents, Wed Nov 11 2026. No macro, syntax, notation, axiom, sorry.
-/
import Derived.Test.YtgklmpooonnmiaaDoorChecked
import GoSem.Claim
import GoSem.ClaimJoined
import GoSem.ClaimMapViews
import Derived.JoinedTies
import Derived.KernelRfl
namespace Go.Proofs.YtgklmpooonnmiaaDoor
/- THE CELL 'sum', in the pinned program and in every row, IS THE sha256 OF THE DUMP (.gsa) THAT YtgklmpooonnmiaaDoorProg.lean LOADS. Nothing in Lean hashes anything: it is a label: what it is worth is what the hold of that sum in a sandbox is worth. -/
noncomputable def Tryd.pinned : Pinned := { name := "ytgklmpooonnmiaadoor", sum := "02150a424c09ce5bb1282027de1fcfb98f0d44a603db497ffa5e8d4b77224f56", checked := Tryd.checked }
namespace Rows
def none {H : Type} : Left H := { results := [], args := [] }

/- WHAT THE LISTED PACKAGE-LEVEL VARIABLES READ AS WHEN THE CALL BEGINS. Each datum BY PROGRAM (the guide's laid-datum.mjs) off the statement by which the dump's own 'gosem.cut.vars' lays the variable. In a bare row this is a premise. The card (YtgklmpooonnmiaaDoorCards.lean) ties it to the program's text. -/
def laid_warrant_utf_least {H : Type} : DataW H := .agg [.lit (.int .i64 0), .lit (.int .i64 0), .lit (.int .i64 128), .lit (.int .i64 2048), .lit (.int .i64 65536)]
def laid_errors_errorType {H : Type} : DataW H := .iface "internal/reflectlite.rtype" (.agg [.ptr (.lit (.string [101, 114, 114, 111, 114]))])

/-- 'warrantlaw11.LexSpells': WHATEVER THE INPUT: true; the input reads as it did. -/
def lexSpellsSpec : ChangeSpec := { name := "lexSpells", fn := fun _ => fun
  | [d1, d2] => { results := [.lit (.bool true)], args := [d1, d2] }
  | _ => none }
def lexSpellsRow : OpenClaim := { program := "ytgklmpooonnmiaadoor", sum := "02150a424c09ce5bb1282027de1fcfb98f0d44a603db497ffa5e8d4b77224f56", func := "warrant/warrantlaw11.LexSpells", spec := "lexSpells", inPlace := ["internal/bytealg.IndexByteString", "internal/abi.NoEscape", "internal/bytealg.MakeNoZero"], recurses := true, named := ["warrant/utf.least"], apart := false, laid := [("warrant/utf.least", laid_warrant_utf_least)] }
def LexSpellsSaid : Prop := lexSpellsRow.holds Tryd.pinned (OpenSpec.ofChange lexSpellsSpec)

/-- ITS FALSE NEIGHBOUR: 'it returns false'. Refute it at one input. -/
def lexSpellsWrong : ChangeSpec := { name := "lexSpells", fn := fun _ => fun
  | [d1, d2] => { results := [.lit (.bool false)], args := [d1, d2] }
  | _ => none }
def LexSpellsWrongFalsely : Prop := lexSpellsRow.holds Tryd.pinned (OpenSpec.ofChange lexSpellsWrong)

/-- 'warrantlaw11.LexBack': WHATEVER THE INPUT: true; the input reads as it did. -/
def lexBackSpec : ChangeSpec := { name := "lexBack", fn := fun _ => fun
  | [d] => { results := [.lit (.bool true)], args := [d] }
  | _ => none }
def lexBackRow : OpenClaim := { program := "ytgklmpooonnmiaadoor", sum := "02150a424c09ce5bb1282027de1fcfb98f0d44a603db497ffa5e8d4b77224f56", func := "warrant/warrantlaw11.LexBack", spec := "lexBack", inPlace := ["internal/bytealg.IndexByteString", "internal/abi.NoEscape", "internal/bytealg.MakeNoZero"], named := ["warrant/utf.least"], apart := false, laid := [("warrant/utf.least", laid_warrant_utf_least)] }
def LexBackSaid : Prop := lexBackRow.holds Tryd.pinned (OpenSpec.ofChange lexBackSpec)

/-- ITS FALSE NEIGHBOUR: 'it returns false'. Refute it at one input. -/
def lexBackWrong : ChangeSpec := { name := "lexBack", fn := fun _ => fun
  | [d] => { results := [.lit (.bool false)], args := [d] }
  | _ => none }
def LexBackWrongFalsely : Prop := lexBackRow.holds Tryd.pinned (OpenSpec.ofChange lexBackWrong)

/-- 'warrantlaw11.LexBlanks': WHATEVER THE INPUT: true; the input reads as it did. -/
def lexBlanksSpec : ChangeSpec := { name := "lexBlanks", fn := fun _ => fun
  | [d1, d2] => { results := [.lit (.bool true)], args := [d1, d2] }
  | _ => none }
def lexBlanksRow : OpenClaim := { program := "ytgklmpooonnmiaadoor", sum := "02150a424c09ce5bb1282027de1fcfb98f0d44a603db497ffa5e8d4b77224f56", func := "warrant/warrantlaw11.LexBlanks", spec := "lexBlanks", inPlace := ["internal/bytealg.IndexByteString", "internal/abi.NoEscape", "internal/bytealg.MakeNoZero"], named := ["warrant/utf.least"], apart := false, laid := [("warrant/utf.least", laid_warrant_utf_least)] }
def LexBlanksSaid : Prop := lexBlanksRow.holds Tryd.pinned (OpenSpec.ofChange lexBlanksSpec)

/-- ITS FALSE NEIGHBOUR: 'it returns false'. Refute it at one input. -/
def lexBlanksWrong : ChangeSpec := { name := "lexBlanks", fn := fun _ => fun
  | [d1, d2] => { results := [.lit (.bool false)], args := [d1, d2] }
  | _ => none }
def LexBlanksWrongFalsely : Prop := lexBlanksRow.holds Tryd.pinned (OpenSpec.ofChange lexBlanksWrong)

/-- 'warrantlaw11.LexScans': WHATEVER THE INPUT: true; the input reads as it did. -/
def lexScansSpec : ChangeSpec := { name := "lexScans", fn := fun _ => fun
  | [d] => { results := [.lit (.bool true)], args := [d] }
  | _ => none }
def lexScansRow : OpenClaim := { program := "ytgklmpooonnmiaadoor", sum := "02150a424c09ce5bb1282027de1fcfb98f0d44a603db497ffa5e8d4b77224f56", func := "warrant/warrantlaw11.LexScans", spec := "lexScans", inPlace := ["internal/bytealg.IndexByteString", "internal/abi.NoEscape", "internal/reflectlite.ValueOf", "(internal/reflectlite.Value).Type", "(internal/reflectlite.Value).IsNil", "internal/reflectlite.TypeOf", "(internal/reflectlite.Value).Elem", "(internal/reflectlite.Value).Set"], unfollowed := true, recurses := true, named := ["warrant/utf.least", "errors.errorType"], apart := false, laid := [("errors.errorType", laid_errors_errorType), ("warrant/utf.least", laid_warrant_utf_least)] }
def LexScansSaid : Prop := lexScansRow.holds Tryd.pinned (OpenSpec.ofChange lexScansSpec)

/-- ITS FALSE NEIGHBOUR: 'it returns false'. Refute it at one input. -/
def lexScansWrong : ChangeSpec := { name := "lexScans", fn := fun _ => fun
  | [d] => { results := [.lit (.bool false)], args := [d] }
  | _ => none }
def LexScansWrongFalsely : Prop := lexScansRow.holds Tryd.pinned (OpenSpec.ofChange lexScansWrong)

/-- 'warrantlaw12.PolSame': WHATEVER THE INPUT: true; the input reads as it did. -/
def polSameSpec : ChangeSpec := { name := "polSame", fn := fun _ => fun
  | [d1, d2] => { results := [.lit (.bool true)], args := [d1, d2] }
  | _ => none }
def polSameRow : OpenClaim := { program := "ytgklmpooonnmiaadoor", sum := "02150a424c09ce5bb1282027de1fcfb98f0d44a603db497ffa5e8d4b77224f56", func := "warrant/warrantlaw12.PolSame", spec := "polSame", inPlace := ["internal/bytealg.IndexByteString", "internal/abi.NoEscape"], unfollowed := true, recurses := true, named := ["warrant/utf.least"], loops := true, apart := false, laid := [("warrant/utf.least", laid_warrant_utf_least)] }
def PolSameSaid : Prop := polSameRow.holds Tryd.pinned (OpenSpec.ofChange polSameSpec)

/-- ITS FALSE NEIGHBOUR: 'it returns false'. Refute it at one input. -/
def polSameWrong : ChangeSpec := { name := "polSame", fn := fun _ => fun
  | [d1, d2] => { results := [.lit (.bool false)], args := [d1, d2] }
  | _ => none }
def PolSameWrongFalsely : Prop := polSameRow.holds Tryd.pinned (OpenSpec.ofChange polSameWrong)

/-- 'warrantlaw12.PolJoins': WHATEVER THE INPUT: true; the input reads as it did. -/
def polJoinsSpec : ChangeSpec := { name := "polJoins", fn := fun _ => fun
  | [d1, d2] => { results := [.lit (.bool true)], args := [d1, d2] }
  | _ => none }
def polJoinsRow : OpenClaim := { program := "ytgklmpooonnmiaadoor", sum := "02150a424c09ce5bb1282027de1fcfb98f0d44a603db497ffa5e8d4b77224f56", func := "warrant/warrantlaw12.PolJoins", spec := "polJoins", inPlace := ["internal/bytealg.IndexByteString", "internal/abi.NoEscape", "internal/reflectlite.ValueOf", "(internal/reflectlite.Value).Type", "(internal/reflectlite.Value).IsNil", "internal/reflectlite.TypeOf", "(internal/reflectlite.Value).Elem", "(internal/reflectlite.Value).Set"], unfollowed := true, recurses := true, named := ["warrant/utf.least", "errors.errorType"], apart := false, laid := [("errors.errorType", laid_errors_errorType), ("warrant/utf.least", laid_warrant_utf_least)] }
def PolJoinsSaid : Prop := polJoinsRow.holds Tryd.pinned (OpenSpec.ofChange polJoinsSpec)

/-- ITS FALSE NEIGHBOUR: 'it returns false'. Refute it at one input. -/
def polJoinsWrong : ChangeSpec := { name := "polJoins", fn := fun _ => fun
  | [d1, d2] => { results := [.lit (.bool false)], args := [d1, d2] }
  | _ => none }
def PolJoinsWrongFalsely : Prop := polJoinsRow.holds Tryd.pinned (OpenSpec.ofChange polJoinsWrong)

/- THE SECOND FORM. 'bulk': how many values and letters a reading holds, each counted each time it is reached (what is shared counts as often as it is met; a slice's spare places count too). A statement '..UptoSaid' is the law's where the arguments, and the package variables that the reading takes, are together of bulk at most 1048576: NARROWER than '..Said'. Prove '..Said' where nothing that the law and all that it calls make is longer than what came in: it says more and counts as full. Else prove '..UptoSaid'. A law counts once. -/
mutual
def uptoBulk {H : Type} : DataW H → Nat
  | .lit (.string bytes) => bytes.length + 1
  | .lit _ => 1
  | .nil => 1
  | .ptr d => uptoBulk d + 1
  | .slice elems spare => uptoBulkAll elems + uptoBulkAll spare + 1
  | .agg parts => uptoBulkAll parts + 1
  | .iface _ d => uptoBulk d + 1
  | .map entries => uptoBulkEntries entries + 1
  | .held _ => 1
def uptoBulkAll {H : Type} : List (DataW H) → Nat
  | [] => 0
  | d :: r => uptoBulk d + uptoBulkAll r
def uptoBulkEntries {H : Type} : List (Lit × DataW H) → Nat
  | [] => 0
  | x :: r => uptoBulkEntry x + uptoBulkEntries r
def uptoBulkEntry {H : Type} : Lit × DataW H → Nat
  | (.string bytes, d) => bytes.length + uptoBulk d + 1
  | (_, d) => uptoBulk d + 1
 end
def uptoSmall : (H : Type) → List (DataW H) → Bool := fun _ ds => decide (uptoBulkAll ds ≤ 1048576)
def OpenSpec.upto (s : _root_.Go.ChangeSpec) : _root_.Go.OpenSpec := { _root_.Go.OpenSpec.ofChange s with cond := some uptoSmall }

/-- 'warrantlaw11.LexSpells', WHERE WHAT IT READS IS OF BULK AT MOST 1048576: true; the input reads as it did. -/
def lexSpellsUptoRow : OpenClaim := { program := "ytgklmpooonnmiaadoor", sum := "02150a424c09ce5bb1282027de1fcfb98f0d44a603db497ffa5e8d4b77224f56", func := "warrant/warrantlaw11.LexSpells", spec := "lexSpells", inPlace := ["internal/bytealg.IndexByteString", "internal/abi.NoEscape", "internal/bytealg.MakeNoZero"], recurses := true, named := ["warrant/utf.least"], apart := false, laid := [("warrant/utf.least", laid_warrant_utf_least)], narrowed := true }
def LexSpellsUptoSaid : Prop := lexSpellsUptoRow.holds Tryd.pinned (OpenSpec.upto lexSpellsSpec)

/-- 'warrantlaw11.LexBack', WHERE WHAT IT READS IS OF BULK AT MOST 1048576: true; the input reads as it did. -/
def lexBackUptoRow : OpenClaim := { program := "ytgklmpooonnmiaadoor", sum := "02150a424c09ce5bb1282027de1fcfb98f0d44a603db497ffa5e8d4b77224f56", func := "warrant/warrantlaw11.LexBack", spec := "lexBack", inPlace := ["internal/bytealg.IndexByteString", "internal/abi.NoEscape", "internal/bytealg.MakeNoZero"], named := ["warrant/utf.least"], apart := false, laid := [("warrant/utf.least", laid_warrant_utf_least)], narrowed := true }
def LexBackUptoSaid : Prop := lexBackUptoRow.holds Tryd.pinned (OpenSpec.upto lexBackSpec)

/-- 'warrantlaw11.LexBlanks', WHERE WHAT IT READS IS OF BULK AT MOST 1048576: true; the input reads as it did. -/
def lexBlanksUptoRow : OpenClaim := { program := "ytgklmpooonnmiaadoor", sum := "02150a424c09ce5bb1282027de1fcfb98f0d44a603db497ffa5e8d4b77224f56", func := "warrant/warrantlaw11.LexBlanks", spec := "lexBlanks", inPlace := ["internal/bytealg.IndexByteString", "internal/abi.NoEscape", "internal/bytealg.MakeNoZero"], named := ["warrant/utf.least"], apart := false, laid := [("warrant/utf.least", laid_warrant_utf_least)], narrowed := true }
def LexBlanksUptoSaid : Prop := lexBlanksUptoRow.holds Tryd.pinned (OpenSpec.upto lexBlanksSpec)

/-- 'warrantlaw11.LexScans', WHERE WHAT IT READS IS OF BULK AT MOST 1048576: true; the input reads as it did. -/
def lexScansUptoRow : OpenClaim := { program := "ytgklmpooonnmiaadoor", sum := "02150a424c09ce5bb1282027de1fcfb98f0d44a603db497ffa5e8d4b77224f56", func := "warrant/warrantlaw11.LexScans", spec := "lexScans", inPlace := ["internal/bytealg.IndexByteString", "internal/abi.NoEscape", "internal/reflectlite.ValueOf", "(internal/reflectlite.Value).Type", "(internal/reflectlite.Value).IsNil", "internal/reflectlite.TypeOf", "(internal/reflectlite.Value).Elem", "(internal/reflectlite.Value).Set"], unfollowed := true, recurses := true, named := ["warrant/utf.least", "errors.errorType"], apart := false, laid := [("errors.errorType", laid_errors_errorType), ("warrant/utf.least", laid_warrant_utf_least)], narrowed := true }
def LexScansUptoSaid : Prop := lexScansUptoRow.holds Tryd.pinned (OpenSpec.upto lexScansSpec)

/-- 'warrantlaw12.PolSame', WHERE WHAT IT READS IS OF BULK AT MOST 1048576: true; the input reads as it did. -/
def polSameUptoRow : OpenClaim := { program := "ytgklmpooonnmiaadoor", sum := "02150a424c09ce5bb1282027de1fcfb98f0d44a603db497ffa5e8d4b77224f56", func := "warrant/warrantlaw12.PolSame", spec := "polSame", inPlace := ["internal/bytealg.IndexByteString", "internal/abi.NoEscape"], unfollowed := true, recurses := true, named := ["warrant/utf.least"], loops := true, apart := false, laid := [("warrant/utf.least", laid_warrant_utf_least)], narrowed := true }
def PolSameUptoSaid : Prop := polSameUptoRow.holds Tryd.pinned (OpenSpec.upto polSameSpec)

/-- 'warrantlaw12.PolJoins', WHERE WHAT IT READS IS OF BULK AT MOST 1048576: true; the input reads as it did. -/
def polJoinsUptoRow : OpenClaim := { program := "ytgklmpooonnmiaadoor", sum := "02150a424c09ce5bb1282027de1fcfb98f0d44a603db497ffa5e8d4b77224f56", func := "warrant/warrantlaw12.PolJoins", spec := "polJoins", inPlace := ["internal/bytealg.IndexByteString", "internal/abi.NoEscape", "internal/reflectlite.ValueOf", "(internal/reflectlite.Value).Type", "(internal/reflectlite.Value).IsNil", "internal/reflectlite.TypeOf", "(internal/reflectlite.Value).Elem", "(internal/reflectlite.Value).Set"], unfollowed := true, recurses := true, named := ["warrant/utf.least", "errors.errorType"], apart := false, laid := [("errors.errorType", laid_errors_errorType), ("warrant/utf.least", laid_warrant_utf_least)], narrowed := true }
def PolJoinsUptoSaid : Prop := polJoinsUptoRow.holds Tryd.pinned (OpenSpec.upto polJoinsSpec)

end Rows
end Go.Proofs.YtgklmpooonnmiaaDoor
