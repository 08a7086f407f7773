/-
  Lemmas and contracts that the proofs over this seat use (Err, UtfCheck); no statement of the seat is claimed in this text, and nothing is assumed in it.
-/
import Derived.Test.YtgklmpooonnmiaaDoorJ2
set_option linter.unusedVariables false
set_option linter.unusedSimpArgs false
namespace Go.Proofs.YtgklmpooonnmiaaDoor
open Go.RowKit
inductive Er where
 | ok
 | no (n : Nat)
 | pl (pos n : Nat)
deriving DecidableEq
def ErV (w : World) (base : Nat) : Er → Value → Prop
 | .ok, v => v = .nilIface
 | .no n, v => v = .iface 57 (.int .i64 (n : Nat))
 | .pl p n, v => ∃ b, base ≤ b ∧ v = .iface 70 (.pointer (some ⟨b, 0, none⟩)) ∧ w.heap[b]? = some (.cells #[.int .i64 (p : Nat), .iface 57 (.int .i64 (n : Nat))] 73 (0, 0))
theorem ErV.fr {w w' : World} {base : Nat} {e : Er} {v : Value} (h : ErV w base e v) (hF : Fr [] w w') : ErV w' base e v := by
 cases e with
 | ok => exact h
 | no n => exact h
 | pl p n => obtain ⟨b, hb, hv, hr⟩ := h; exact ⟨b, hb, hv, hF.row hr (by simp)⟩
theorem ErV.base {w : World} {base base' : Nat} {e : Er} {v : Value} (h : ErV w base e v) (hb : base' ≤ base) : ErV w base' e v := by
 cases e with
 | ok => exact h
 | no n => exact h
 | pl p n => obtain ⟨b, h1, hv, hr⟩ := h; exact ⟨b, Nat.le_trans hb h1, hv, hr⟩
theorem ErV.new (w : World) (base p n : Nat) (h : base ≤ w.heap.size) : ErV (w.alloc (.cells #[.int .i64 (p : Nat), .iface 57 (.int .i64 (n : Nat))] 73)) base (.pl p n) (.iface 70 (.pointer (some ⟨w.heap.size, 0, none⟩))) :=
 ⟨_, h, rfl, heap_alloc_last _ _⟩
theorem lex_fault (w : World) (p n : Nat) :
  Calls Tryd.prog 38 #[.int .i64 p, .int .i64 n] w fun e w' => ∃ v, e = .returned v ∧ ErV w' w.heap.size (.pl p n) v ∧ Fr [] w w' := by
 go_enter Tryd.func38, Tryd.ntmps38
 go_wp2
 refine bodyPost_ret (results_tmp rfl _ _ _) rfl ?_
 exact ⟨_, rfl, ErV.new w _ p n (Nat.le_refl _), (Fr.refl _ _).alloc _⟩
end Go.Proofs.YtgklmpooonnmiaaDoor

namespace Go.Proofs.YtgklmpooonnmiaaDoor
open Go.RowKit
namespace Utf
theorem next_size (f : Nat → Nat) (len n k : Nat) (h : next f len = (some n, k)) : 1 ≤ k ∧ k ≤ len ∧ k ≤ 4 := by
 unfold next at h
 split at h
 ·cases h
 ·split at h
  ·cases h; omega
  ·split at h
   ·cases h
   ·split at h
    ·cases h
     have : wide (f 0) ≤ 4 := by unfold wide; split; omega; split; omega; split; omega; split; omega; split <;> omega
     omega
    ·cases h
def bad (f : Nat → Nat) (n at_ : Nat) : Option Nat :=
 if at_ < n then
  match next (fun i => f (at_ + i)) (n - at_) with
  | (none, _) => some at_
  | (some _, k) => bad f n (at_ + max k 1)
 else none
termination_by n - at_
decreasing_by omega
end Utf
theorem RB.cut {w : World} {g o n : Nat} {f : Nat → Nat} (h : RB w (some ⟨g, o, none⟩) n f) (k : Nat) : RB w (some ⟨g, o + k, none⟩) (n - k) (fun i => f (k + i)) :=
 ⟨fun hn => by
  obtain ⟨g', o', e, hc⟩ := h.at_ (by omega)
  cases e
  exact ⟨g, o + k, rfl, fun i hi => by have := hc (k + i) (by omega); rwa [← Nat.add_assoc] at this⟩, fun i => h.lt _, by have := h.len; omega⟩
def utfEr : Option Nat → Er
 | none => .ok
 | some p => .pl p 30
set_option maxHeartbeats 4000000 in
set_option maxRecDepth 100000 in
theorem utf_check (w : World) (p : Option Addr) (n cap : Nat) (f : Nat → Nat) (hR : RB w p n f) (hcap : n ≤ cap) (hcm : cap ≤ maxLen) (hL : Least w) :
  Calls Tryd.prog 33 #[.slice p n cap] w fun e w' => ∃ v, e = .returned v ∧ ErV w' w.heap.size (utfEr (Utf.bad f n 0)) v ∧ Fr [] w w' := by
 have hl := hR.len
 unfold maxLen at hl hcm
 go_enter Tryd.func33, Tryd.ntmps33
 go_wp2
 go_loop [3] (fun t => ∃ k : Nat, k ≤ n ∧ t = .int .i64 k ∧ Utf.bad f n k = Utf.bad f n 0) (fun t => n - (intOf t).toNat)
 case atStart => exact ⟨0, by omega, rfl, rfl⟩
 case round =>
  obtain ⟨k, hk, rfl, hb⟩ := hrel
  by_cases hlt : k < n
  ·obtain ⟨g, o, rfl, _⟩ := hR.at_ (by omega)
   have hR2 := hR.cut k
   rw [Utf.bad, if_pos hlt] at hb
   obtain ⟨x, m, hx⟩ : ∃ x m, Utf.next (fun i => f (k + i)) (n - k) = (x, m) := ⟨_, _, rfl⟩
   have hc := utf_next w (some ⟨g, o + k, none⟩) (n - k) (cap - k) _ hR2 (by omega) (by unfold maxLen; omega) hL
   rw [hx] at hb hc
   have HB := Lib.hid hb
   have HX := Lib.hid hx
   have hlt' : (k : Int) < (n : Int) := by omega
   have hkc : ¬ cap = k := by omega
   have hkn : k ≤ n := hk
   clear hx hb
   cases x with
   | none =>
    have HB2 : Hid (Utf.bad f n 0 = some k) := HB.out.symm
    clear HB
    go_wp2_with (go_at_call 59; refine hc.mono ?_; rintro e w' ⟨rfl, rfl⟩)
    refine bodyPost_ret (results_tmp rfl _ _ _) rfl ?_
    refine ⟨_, rfl, ?_, (Fr.refl _ _).alloc _⟩
    rw [HB2.out]
    exact ErV.new w _ k 30 (Nat.le_refl _)
   | some x =>
    obtain ⟨hm1, hm2, hm3⟩ := Utf.next_size _ _ _ _ HX.out
    have e : k + max m 1 = k + m := by omega
    simp only [e] at HB
    have hx0 : ¬ (x : Int) < 0 := by omega
    go_wp2_with (go_at_call 59; refine hc.mono ?_; rintro e w' ⟨rfl, rfl⟩)
    go_round
    case rel => exact ⟨k + m, by omega, by go_num, HB.out⟩
    case measure => simp [intOf]; omega
  ·obtain rfl : k = n := by omega
   rw [Utf.bad, if_neg (by omega)] at hb
   have HB2 := Lib.hid hb
   clear hb
   go_wp2
   refine bodyPost_ret (results_tmp rfl _ _ _) rfl ?_
   refine ⟨_, rfl, ?_, Fr.refl _ _⟩
   rw [← HB2.out]
   rfl
end Go.Proofs.YtgklmpooonnmiaaDoor
