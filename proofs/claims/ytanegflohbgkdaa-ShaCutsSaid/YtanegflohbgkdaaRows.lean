/-
  No cell of these rows narrows 'for every input' (looked for: loops, veiled, ifaces, maps, wideKeys, modest, calm, conditions, laid).
  DERIVED. THE GIVEN ROWS OF THIS SEAT. 5 by the template 'for every input the law returns true; each argument reads behind the call as it read before'; 0 by the template 'total and deterministic' (their statements: YtanegflohbgkdaaTotals.lean).
  GIVEN WITH THE SEED: the statements are not yours to turn. If you find one false, say at which input.
  Laid BY PROGRAM, IN A SANDBOX (cutbox-rows.mjs): the forced cells as the released guide's own fill.sh prints them over the translation a249004b3fe2a466… (all of the seat's roots in one cut). By AI agents, Wed Nov 11 2026. No macro, syntax, notation, axiom, sorry.
-/
import Derived.Test.YtanegflohbgkdaaChecked
import GoSem.Claim
import GoSem.ClaimJoined
import GoSem.ClaimMapViews
import Derived.JoinedTies
import Derived.KernelRfl
namespace Go.Proofs.Ytanegflohbgkdaa
/- THE CELL 'sum', in the pinned program and in every row, IS THE sha256 OF THE DUMP (.gsa) THAT YtanegflohbgkdaaProg.lean LOADS. Nothing in Lean hashes anything: it is a label: what it is worth is what the hold of that sum in a sandbox is worth. -/
noncomputable def Try.pinned : Pinned := { name := "ytanegflohbgkdaa", sum := "a249004b3fe2a466621e5101b6191f847ce3fd84503ee58f928a605cf7f988f9", checked := Try.checked }
namespace Rows
def none {H : Type} : Left H := { results := [], args := [] }

/-- 'warrantlaw01.ShaSums': WHATEVER THE INPUT: true; the input reads as it did. -/
def shaSumsSpec : ChangeSpec := { name := "shaSums", fn := fun _ => fun
  | [d] => { results := [.lit (.bool true)], args := [d] }
  | _ => none }
def shaSumsRow : OpenClaim := { program := "ytanegflohbgkdaa", sum := "a249004b3fe2a466621e5101b6191f847ce3fd84503ee58f928a605cf7f988f9", func := "warrant/warrantlaw01.ShaSums", spec := "shaSums", apart := false }
def ShaSumsSaid : Prop := shaSumsRow.holds Try.pinned (OpenSpec.ofChange shaSumsSpec)

/-- ITS FALSE NEIGHBOUR: 'it returns false'. Refute it at one input. -/
def shaSumsWrong : ChangeSpec := { name := "shaSums", fn := fun _ => fun
  | [d] => { results := [.lit (.bool false)], args := [d] }
  | _ => none }
def ShaSumsWrongFalsely : Prop := shaSumsRow.holds Try.pinned (OpenSpec.ofChange shaSumsWrong)

/-- 'warrantlaw01.ShaMacs': WHATEVER THE INPUT: true; the input reads as it did. -/
def shaMacsSpec : ChangeSpec := { name := "shaMacs", fn := fun _ => fun
  | [d1, d2] => { results := [.lit (.bool true)], args := [d1, d2] }
  | _ => none }
def shaMacsRow : OpenClaim := { program := "ytanegflohbgkdaa", sum := "a249004b3fe2a466621e5101b6191f847ce3fd84503ee58f928a605cf7f988f9", func := "warrant/warrantlaw01.ShaMacs", spec := "shaMacs", apart := false }
def ShaMacsSaid : Prop := shaMacsRow.holds Try.pinned (OpenSpec.ofChange shaMacsSpec)

/-- ITS FALSE NEIGHBOUR: 'it returns false'. Refute it at one input. -/
def shaMacsWrong : ChangeSpec := { name := "shaMacs", fn := fun _ => fun
  | [d1, d2] => { results := [.lit (.bool false)], args := [d1, d2] }
  | _ => none }
def ShaMacsWrongFalsely : Prop := shaMacsRow.holds Try.pinned (OpenSpec.ofChange shaMacsWrong)

/-- 'warrantlaw01.ShaCuts': WHATEVER THE INPUT: true; the input reads as it did. -/
def shaCutsSpec : ChangeSpec := { name := "shaCuts", fn := fun _ => fun
  | [d] => { results := [.lit (.bool true)], args := [d] }
  | _ => none }
def shaCutsRow : OpenClaim := { program := "ytanegflohbgkdaa", sum := "a249004b3fe2a466621e5101b6191f847ce3fd84503ee58f928a605cf7f988f9", func := "warrant/warrantlaw01.ShaCuts", spec := "shaCuts", apart := false }
def ShaCutsSaid : Prop := shaCutsRow.holds Try.pinned (OpenSpec.ofChange shaCutsSpec)

/-- ITS FALSE NEIGHBOUR: 'it returns false'. Refute it at one input. -/
def shaCutsWrong : ChangeSpec := { name := "shaCuts", fn := fun _ => fun
  | [d] => { results := [.lit (.bool false)], args := [d] }
  | _ => none }
def ShaCutsWrongFalsely : Prop := shaCutsRow.holds Try.pinned (OpenSpec.ofChange shaCutsWrong)

/-- 'warrantlaw01.ShaSame': WHATEVER THE INPUT: true; the input reads as it did. -/
def shaSameSpec : ChangeSpec := { name := "shaSame", fn := fun _ => fun
  | [d1, d2] => { results := [.lit (.bool true)], args := [d1, d2] }
  | _ => none }
def shaSameRow : OpenClaim := { program := "ytanegflohbgkdaa", sum := "a249004b3fe2a466621e5101b6191f847ce3fd84503ee58f928a605cf7f988f9", func := "warrant/warrantlaw01.ShaSame", spec := "shaSame", apart := false }
def ShaSameSaid : Prop := shaSameRow.holds Try.pinned (OpenSpec.ofChange shaSameSpec)

/-- ITS FALSE NEIGHBOUR: 'it returns false'. Refute it at one input. -/
def shaSameWrong : ChangeSpec := { name := "shaSame", fn := fun _ => fun
  | [d1, d2] => { results := [.lit (.bool false)], args := [d1, d2] }
  | _ => none }
def ShaSameWrongFalsely : Prop := shaSameRow.holds Try.pinned (OpenSpec.ofChange shaSameWrong)

/-- 'warrantlaw01.ShaKeys': WHATEVER THE INPUT: true; the input reads as it did. -/
def shaKeysSpec : ChangeSpec := { name := "shaKeys", fn := fun _ => fun
  | [d1, d2] => { results := [.lit (.bool true)], args := [d1, d2] }
  | _ => none }
def shaKeysRow : OpenClaim := { program := "ytanegflohbgkdaa", sum := "a249004b3fe2a466621e5101b6191f847ce3fd84503ee58f928a605cf7f988f9", func := "warrant/warrantlaw01.ShaKeys", spec := "shaKeys", apart := false }
def ShaKeysSaid : Prop := shaKeysRow.holds Try.pinned (OpenSpec.ofChange shaKeysSpec)

/-- ITS FALSE NEIGHBOUR: 'it returns false'. Refute it at one input. -/
def shaKeysWrong : ChangeSpec := { name := "shaKeys", fn := fun _ => fun
  | [d1, d2] => { results := [.lit (.bool false)], args := [d1, d2] }
  | _ => none }
def ShaKeysWrongFalsely : Prop := shaKeysRow.holds Try.pinned (OpenSpec.ofChange shaKeysWrong)

/- THE SECOND FORM. 'bulk': how many values and letters a reading holds, each counted each time it is reached (what is shared counts as often as it is met; a slice's spare places count too). A statement '..UptoSaid' is the law's where the arguments, and the package variables that the reading takes, are together of bulk at most 1048576: NARROWER than '..Said'. Prove '..Said' where nothing that the law and all that it calls make is longer than what came in: it says more and counts as full. Else prove '..UptoSaid'. A law counts once. -/
mutual
def uptoBulk {H : Type} : DataW H → Nat
  | .lit (.string bytes) => bytes.length + 1
  | .lit _ => 1
  | .nil => 1
  | .ptr d => uptoBulk d + 1
  | .slice elems spare => uptoBulkAll elems + uptoBulkAll spare + 1
  | .agg parts => uptoBulkAll parts + 1
  | .iface _ d => uptoBulk d + 1
  | .map entries => uptoBulkEntries entries + 1
  | .held _ => 1
def uptoBulkAll {H : Type} : List (DataW H) → Nat
  | [] => 0
  | d :: r => uptoBulk d + uptoBulkAll r
def uptoBulkEntries {H : Type} : List (Lit × DataW H) → Nat
  | [] => 0
  | x :: r => uptoBulkEntry x + uptoBulkEntries r
def uptoBulkEntry {H : Type} : Lit × DataW H → Nat
  | (.string bytes, d) => bytes.length + uptoBulk d + 1
  | (_, d) => uptoBulk d + 1
 end
def uptoSmall : (H : Type) → List (DataW H) → Bool := fun _ ds => decide (uptoBulkAll ds ≤ 1048576)
def OpenSpec.upto (s : _root_.Go.ChangeSpec) : _root_.Go.OpenSpec := { _root_.Go.OpenSpec.ofChange s with cond := some uptoSmall }

/-- 'warrantlaw01.ShaSums', WHERE WHAT IT READS IS OF BULK AT MOST 1048576: true; the input reads as it did. -/
def shaSumsUptoRow : OpenClaim := { program := "ytanegflohbgkdaa", sum := "a249004b3fe2a466621e5101b6191f847ce3fd84503ee58f928a605cf7f988f9", func := "warrant/warrantlaw01.ShaSums", spec := "shaSums", apart := false, narrowed := true }
def ShaSumsUptoSaid : Prop := shaSumsUptoRow.holds Try.pinned (OpenSpec.upto shaSumsSpec)

/-- 'warrantlaw01.ShaMacs', WHERE WHAT IT READS IS OF BULK AT MOST 1048576: true; the input reads as it did. -/
def shaMacsUptoRow : OpenClaim := { program := "ytanegflohbgkdaa", sum := "a249004b3fe2a466621e5101b6191f847ce3fd84503ee58f928a605cf7f988f9", func := "warrant/warrantlaw01.ShaMacs", spec := "shaMacs", apart := false, narrowed := true }
def ShaMacsUptoSaid : Prop := shaMacsUptoRow.holds Try.pinned (OpenSpec.upto shaMacsSpec)

/-- 'warrantlaw01.ShaCuts', WHERE WHAT IT READS IS OF BULK AT MOST 1048576: true; the input reads as it did. -/
def shaCutsUptoRow : OpenClaim := { program := "ytanegflohbgkdaa", sum := "a249004b3fe2a466621e5101b6191f847ce3fd84503ee58f928a605cf7f988f9", func := "warrant/warrantlaw01.ShaCuts", spec := "shaCuts", apart := false, narrowed := true }
def ShaCutsUptoSaid : Prop := shaCutsUptoRow.holds Try.pinned (OpenSpec.upto shaCutsSpec)

/-- 'warrantlaw01.ShaSame', WHERE WHAT IT READS IS OF BULK AT MOST 1048576: true; the input reads as it did. -/
def shaSameUptoRow : OpenClaim := { program := "ytanegflohbgkdaa", sum := "a249004b3fe2a466621e5101b6191f847ce3fd84503ee58f928a605cf7f988f9", func := "warrant/warrantlaw01.ShaSame", spec := "shaSame", apart := false, narrowed := true }
def ShaSameUptoSaid : Prop := shaSameUptoRow.holds Try.pinned (OpenSpec.upto shaSameSpec)

/-- 'warrantlaw01.ShaKeys', WHERE WHAT IT READS IS OF BULK AT MOST 1048576: true; the input reads as it did. -/
def shaKeysUptoRow : OpenClaim := { program := "ytanegflohbgkdaa", sum := "a249004b3fe2a466621e5101b6191f847ce3fd84503ee58f928a605cf7f988f9", func := "warrant/warrantlaw01.ShaKeys", spec := "shaKeys", apart := false, narrowed := true }
def ShaKeysUptoSaid : Prop := shaKeysUptoRow.holds Try.pinned (OpenSpec.upto shaKeysSpec)

end Rows
end Go.Proofs.Ytanegflohbgkdaa
