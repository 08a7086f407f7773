/-
  Lemmas and contracts that the proofs over this seat use (part Err); no statement of the seat is claimed in this text, and nothing is assumed in it.
-/
import Derived.Test.YtgklmpooonnmiaaDoorBase
set_option linter.unusedVariables false
set_option linter.unusedSimpArgs false
namespace Go.Proofs.YtgklmpooonnmiaaDoor
open Go.RowKit
/-- an error: none, a number, a number at a place. -/
inductive Er where
  | ok
  | no (n : Nat)
  | pl (pos n : Nat)
deriving DecidableEq
/-- the value of an error; an error at a place stands in a block of its own, from base on. -/
def ErV (w : World) (base : Nat) : Er → Value → Prop
  | .ok, v => v = .nilIface
  | .no n, v => v = .iface 57 (.int .i64 (n : Nat))
  | .pl p n, v => ∃ b, base ≤ b ∧ v = .iface 70 (.pointer (some ⟨b, 0, none⟩)) ∧ w.heap[b]? = some (.cells #[.int .i64 (p : Nat), .iface 57 (.int .i64 (n : Nat))] 73 (0, 0))
theorem ErV.fr {w w' : World} {base : Nat} {e : Er} {v : Value} (h : ErV w base e v) (hF : Fr [] w w') : ErV w' base e v := by
  cases e with
  | ok => exact h
  | no n => exact h
  | pl p n => obtain ⟨b, hb, hv, hr⟩ := h; exact ⟨b, hb, hv, hF.row hr (by simp)⟩
theorem ErV.base {w : World} {base base' : Nat} {e : Er} {v : Value} (h : ErV w base e v) (hb : base' ≤ base) : ErV w base' e v := by
  cases e with
  | ok => exact h
  | no n => exact h
  | pl p n => obtain ⟨b, h1, hv, hr⟩ := h; exact ⟨b, Nat.le_trans hb h1, hv, hr⟩
/-- a new error at a place. -/
theorem ErV.new (w : World) (base p n : Nat) (h : base ≤ w.heap.size) : ErV (w.alloc (.cells #[.int .i64 (p : Nat), .iface 57 (.int .i64 (n : Nat))] 73)) base (.pl p n) (.iface 70 (.pointer (some ⟨w.heap.size, 0, none⟩))) :=
  ⟨_, h, rfl, heap_alloc_last _ _⟩
theorem lex_fault (w : World) (p n : Nat) :
    Calls Tryd.prog 38 #[.int .i64 p, .int .i64 n] w fun e w' => ∃ v, e = .returned v ∧ ErV w' w.heap.size (.pl p n) v ∧ Fr [] w w' := by
  go_enter Tryd.func38, Tryd.ntmps38
  go_wp2
  refine bodyPost_ret (results_tmp rfl _ _ _) rfl ?_
  exact ⟨_, rfl, ErV.new w _ p n (Nat.le_refl _), (Fr.refl _ _).alloc _⟩
end Go.Proofs.YtgklmpooonnmiaaDoor
