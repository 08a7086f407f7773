/-
  Lemmas and contracts that the proofs over this seat use (part ShaText); no statement of the seat is claimed in this text, and nothing is assumed in it.
-/
import Derived.Test.YtanegflohbgkdaaOwn
set_option linter.unusedVariables false
set_option linter.unusedSimpArgs false
namespace Go.Proofs.Ytanegflohbgkdaa
open Go.RowKit
set_option maxHeartbeats 4000000 in
set_option maxRecDepth 100000 in
theorem text (w : World) (D : List Nat) (hl : D.length = 32) (hb : ∀ x ∈ D, x < 256) :
    Calls Try.prog 9 #[.agg (u8s D).toArray] w fun e w' => e = .returned (.string (ba D)) ∧ Fr [] w w' := by
  have HL := Lib.hid hl
  clear hl
  go_enter Try.func9, Try.ntmps9
  go_wp2_with fail
  obtain ⟨w1, hw1⟩ : ∃ w1, w1 = w.alloc (.cells (u8s D).toArray 24) := ⟨_, rfl⟩
  have hs : w.heap.size + 1 = w1.heap.size := by rw [hw1]; simp
  have hrow : w1.heap[w.heap.size]? = some (.cells (u8s D).toArray 24 (0, 0)) := by rw [hw1]; exact heap_alloc_last w _
  have hF1 : Fr [] w w1 := by rw [hw1]; exact (Fr.refl _ _).alloc _
  rw [← hw1, hs]
  have hge : w.heap.size < w1.heap.size := by omega
  have os : ∀ (W : World) (v : Value) (n : Nat) (E : List Nat), W.ownsRow w1.heap.size 5 1 v n (u8s E) → (convert 26 9 v).run Try.prog W = .ok (.string (ba E)) W := fun W v n E h => owns_str h
  clear hw1 hs
  generalize w.heap.size = g at *
  have HROW := Lib.hid hrow
  have HF1 := Lib.hid hF1
  clear hrow hF1
  have hown0 : (w1.alloc (.cells #[] 5)).ownsRow w1.heap.size 5 1 (.slice (some ⟨w1.heap.size, 0, none⟩) 0 0) 0 (u8s (D.take 0)) := ⟨by simp, Or.inr ⟨_, 0, #[], rfl, Nat.le_refl _, heap_alloc_last w1 _, by omega, by decide, rfl, by simp [u8s]⟩⟩
  refine wp_fresh (fun W => W.ownsRow w1.heap.size 5 1 (.slice (some ⟨w1.heap.size, 0, none⟩) 0 0) 0 (u8s (D.take 0)) ∧ Fr [] w1 W) ⟨hown0, (Fr.refl _ _).alloc _⟩ ?_
  rintro W ⟨hown, hF⟩
  clear hown0
  go_loopw [3, 4] (fun v t W => ∃ k : Nat, k ≤ 32 ∧ t = .int .i64 k ∧ W.ownsRow w1.heap.size 5 1 v k (u8s (D.take k)) ∧ Fr [] w1 W) (fun _ t _ => 32 - (intOf t).toNat)
  case atStart => exact ⟨0, by omega, rfl, hown, hF⟩
  case round =>
    clear hown hF
    obtain ⟨k, hk, rfl, hown, hF⟩ := hrel
    by_cases hlt : k < 32
    · have hr := hF.row HROW.out (by simp)
      obtain ⟨x, hx⟩ : ∃ x, D[k]? = some x := ⟨D[k]'(by rw [HL.out]; omega), by simp⟩
      have hc : wr.cell? ⟨g, k, none⟩ = some (.int .u8 (x : Int)) := by
        rw [cell_of_row wr g k _ _ (0, 0) hr]
        simp [u8s, hx]
      have htk : D.take (k + 1) = D.take k ++ [x] := by
        rw [List.take_add_one, hx]; rfl
      have HTK := Lib.hid htk
      have HOWN := Lib.hid hown
      have HF := Lib.hid hF
      have hlt' : (k : Int) < 32 := by omega
      clear hx htk hown hF hr
      go_wp2_with (at_builtin; refine app8 rfl (.tmp 10) (.tmp 14) rfl w1 _ k (D.take k) x rfl rfl HOWN.out HF.out (by omega) ?_)
      intro v' w2 hown2 hF2
      rw [← HTK.out] at hown2
      have HO2 := Lib.hid hown2
      have HF2 := Lib.hid hF2
      clear hown2 hF2 hc
      go_wp2_with fail
      go_roundw
      case rel => first | exact ⟨k + 1, by omega, by go_num, HO2.out, HF2.out⟩ | ((repeat apply Exists.intro); exact ⟨⟨k + 1, by omega, by go_num, HO2.out, HF2.out⟩, rfl⟩)
      case measure => simp [intOf]; omega
    · obtain rfl : k = 32 := by omega
      rw [List.take_of_length_le (by rw [HL.out]; omega)] at hown
      have o2 := os _ _ _ _ hown
      have HF := Lib.hid hF
      clear hown hF
      go_wp2_with fail
      refine bodyPost_ret (results_tmp rfl _ _ _) rfl ⟨rfl, HF1.out.trans0 HF.out⟩
end Go.Proofs.Ytanegflohbgkdaa
