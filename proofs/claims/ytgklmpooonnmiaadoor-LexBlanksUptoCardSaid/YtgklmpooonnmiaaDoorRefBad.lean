/-
  Lemmas and contracts that the proofs over this seat use (part RefBad); no statement of the seat is claimed in this text, and nothing is assumed in it.
-/
import Derived.Test.YtgklmpooonnmiaaDoorRefNext
import Derived.Test.YtgklmpooonnmiaaDoorLexTextP
set_option linter.unusedVariables false
set_option linter.unusedSimpArgs false
namespace Go.Proofs.YtgklmpooonnmiaaDoor
open Go.RowKit
theorem bn_drop (s : ByteArray) (k i : Nat) : bn (s.extract k s.size) i = bn s (k + i) := by
  have hd : (s.extract k s.size).data.toList = s.data.toList.drop k := by
    simp [List.extract]
    rw [List.take_of_length_le (by simp)]
  unfold bn nats
  rw [hd]
  simp [List.getD_eq_getElem?_getD, List.getElem?_map, List.getElem?_drop]
theorem next_congr2 {f g : Nat → Nat} {n : Nat} (h : ∀ i, i < n → f i = g i) : Utf.next f n = Utf.next g n :=
  (Utf.next_congr (f := f) (g := f) (n := min n 4) (m := n) (fun _ _ => rfl) rfl).symm.trans (Utf.next_congr (f := f) (g := g) (n := min n 4) (m := n) (fun i hi => h i (by omega)) rfl)
set_option maxHeartbeats 4000000 in
set_option maxRecDepth 100000 in
theorem ref_bad (w : World) (s : ByteArray) (hs : s.size ≤ maxLen) :
    Calls Tryd.prog 34 #[.string s] w fun e w' => e = .returned (.int .i64 (letZ (Utf.bad (bn s) s.size 0))) ∧ Fr [] w w' := by
  unfold maxLen at hs
  obtain ⟨R, hR⟩ : ∃ R, Hid (Utf.bad (bn s) s.size 0 = R) := ⟨_, rfl⟩
  rw [hR.out]
  go_enter Tryd.func34, Tryd.ntmps34
  go_wp2_with fail
  go_loopg [3] s.size (fun q t W => ∃ k : Nat, k ≤ s.size ∧ q = s.size - k ∧ t = .int .i64 k ∧ Hid (Utf.bad (bn s) s.size k = R) ∧ Hid (Fr [] w W))
  case atStart => exact ⟨0, Nat.zero_le _, rfl, rfl, hR, Fr.refl _ _⟩
  case round =>
    obtain ⟨k, hk, hq, rfl, HE, HF⟩ := hrel
    have HQ := Lib.hid hq
    clear hq
    by_cases hlt : k < s.size
    · have hlt' : (k : Int) < (s.size : Int) := by omega
      have hk2 : (k : Int) ≤ (s.size : Int) := by omega
      obtain ⟨T, hT⟩ : ∃ T, s.extract k s.size = T := ⟨_, rfl⟩
      obtain ⟨x, hx⟩ : ∃ x, Utf.next (fun i => bn s (k + i)) (s.size - k) = x := ⟨_, rfl⟩
      have hTs : T.size = s.size - k := by rw [← hT]; simp
      have HN : Hid (∀ W, Calls Tryd.prog 60 #[.string T] W fun e w' => e = .returned (.tuple #[.int .i64 (letZ x.1), .int .i64 (x.2 : Nat)]) ∧ Fr [] W w') := fun W => by
        have h := ref_next W T (by unfold maxLen; omega)
        rw [hTs, next_congr2 (g := fun i => bn s (k + i)) (fun i hi => by rw [← hT]; exact bn_drop s k i), hx] at h
        exact h
      obtain ⟨x, m⟩ := x
      have hR2 : R = (match (x, m) with | (none, _) => some k | (some _, j) => Utf.bad (bn s) s.size (k + max j 1)) := by
        rw [← HE.out]; conv => lhs; rw [Utf.bad, if_pos hlt, hx]
        cases x <;> rfl
      have HX := Lib.hid hx
      clear hx hTs HE
      have HT := hT
      cases x with
      | none =>
        have HX2 : Hid (R = some k) := hR2
        clear hR2 hR
        go_wp2_with fail
        refine (HN.out _).mono ?_
        rintro e w1 ⟨rfl, hf⟩
        have HF1 := Lib.hid (HF.out.trans0 hf)
        clear hf
        simp only [letZ]
        go_wp2_with fail
        go_ret
        rw [HX2.out]
        exact ⟨rfl, HF1.out⟩
      | some v =>
        obtain ⟨hm1, hm2, hm3⟩ := Utf.next_size _ _ _ _ HX.out
        have HX2 : Hid (Utf.bad (bn s) s.size (k + m) = R) := by
          show _ = _
          rw [hR2]
          show _ = Utf.bad (bn s) s.size (k + max m 1)
          rw [show max m 1 = m by omega]
        clear hR2 hR
        have hv0 : ¬ (v : Int) < 0 := by omega
        go_wp2_with fail
        refine (HN.out _).mono ?_
        rintro e w1 ⟨rfl, hf⟩
        have HF1 := Lib.hid (HF.out.trans0 hf)
        clear hf
        simp only [letZ]
        go_wp2_with fail
        go_roundg (s.size - (k + m))
        case measure => have := HQ.out; omega
        case rel => exact ⟨k + m, by omega, rfl, by go_num, HX2.out, HF1.out⟩
    · obtain rfl : k = s.size := by omega
      have HX2 : Hid (R = none) := by show _ = _; rw [← HE.out, Utf.bad, if_neg hlt]
      go_wp2_with fail
      go_ret
      rw [HX2.out]
      exact ⟨rfl, HF.out⟩
end Go.Proofs.YtgklmpooonnmiaaDoor
