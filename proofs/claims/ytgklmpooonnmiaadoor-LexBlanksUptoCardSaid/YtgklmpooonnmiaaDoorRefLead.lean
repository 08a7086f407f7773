/-
  Lemmas and contracts that the proofs over this seat use (part RefLead); no statement of the seat is claimed in this text, and nothing is assumed in it.
-/
import Derived.Test.YtgklmpooonnmiaaDoorRefDec
set_option linter.unusedVariables false
set_option linter.unusedSimpArgs false
namespace Go.Proofs.YtgklmpooonnmiaaDoor
open Go.RowKit
set_option maxHeartbeats 4000000 in
set_option maxRecDepth 100000 in
theorem ref_lead (w : World) (s : ByteArray) (hs : s.size ≤ 1000000000) :
    Calls Tryd.prog 40 #[.string s] w fun e w' => e = .returned (.int .i64 (Dec.lead (bn s) s.size : Nat)) ∧ w = w' := by
  have hbn := Lib.hid (bn_at s)
  go_enter Tryd.func40, Tryd.ntmps40
  go_wp2_with fail
  go_loop [3, 4] (fun b t => ∃ k : Nat, k ≤ s.size ∧ t = .int .i64 (k + 1 : Nat) ∧ b = .int .i64 (Dec.best (bn s) k : Nat) ∧ Hid (∀ i, 1 ≤ i → i < k → Dec.dig (bn s i) = true)) (fun _ t => s.size + 1 - (intOf t).toNat)
  case atStart => exact ⟨0, by omega, rfl, rfl, fun i hi => by omega⟩
  case round =>
    obtain ⟨k, hk, rfl, rfl, HD⟩ := hrel
    have hcast : ((k + 1 : Nat) : Int) = (k : Int) + 1 := by omega
    simp only [hcast]
    clear hcast
    by_cases hlt : k < s.size
    · have hlt' : (k : Int) + 1 ≤ (s.size : Int) := by omega
      obtain ⟨B, hB⟩ : ∃ B, Hid (Dec.best (bn s) k = B) := ⟨_, rfl⟩
      rw [hB.out]
      obtain ⟨T, hT⟩ : ∃ T, s.extract 0 (k + 1) = T := ⟨_, rfl⟩
      have hTs : T.size = k + 1 := by rw [← hT]; simp; omega
      have hTf : Dec.form (bn T) T.size = Dec.form (bn s) (k + 1) := by
        rw [hTs]
        refine Dec.form_congr fun i hi => ?_
        have := bn_ext s 0 (k + 1) i (by omega) (by omega)
        rw [hT, Nat.zero_add] at this
        exact this
      have HFM : Hid (∀ W, Calls Tryd.prog 68 #[.string T] W fun e w' => e = .returned (.bool (Dec.form (bn s) (k + 1))) ∧ W = w') := fun W => by
        rw [← hTf]; exact ref_form W T (by unfold maxLen; omega)
      have t1 : ((k : Int) + 1).toNat = k + 1 := by omega
      have hTT := Lib.hid hT
      have hex : s.extract 0 (k + 1) = T := hT
      clear hTf hT hTs
      by_cases hk0 : k = 0
      · subst hk0
        have HBN : Hid (Dec.best (bn s) (0 + 1) = if Dec.form (bn s) (0 + 1) = true then 0 + 1 else B) := by show _ = _; rw [Dec.best, hB.out]
        obtain ⟨b, hb⟩ : ∃ b, Hid (Dec.form (bn s) (0 + 1) = b) := ⟨_, rfl⟩
        simp only [hb.out] at HFM
        rw [hb.out] at HBN
        have HD2 : Hid (∀ i, 1 ≤ i → i < 0 + 1 → Dec.dig (bn s i) = true) := fun i h1 h2 => by omega
        cases b
        all_goals
          go_wp2_with fail
          refine (HFM.out _).mono ?_
          rintro e w' ⟨rfl, rfl⟩
          go_wp2_with fail
          go_round
          case rel => exact ⟨0 + 1, by omega, by first | rfl | go_num, by rw [HBN.out]; first | rfl | simp, HD2⟩
          case measure => simp [intOf]; omega
      · have hzk := hbn.out k hlt
        obtain ⟨c, hc⟩ : ∃ c, Hid (bn s k = c) := ⟨_, rfl⟩
        rw [hc.out] at hzk
        have g1 : (k : Int) + 1 > 1 := by omega
        have g0 : 0 ≤ (k : Int) := by omega
        have g2 : (k : Int) < (s.size : Int) := by omega
        have HE : Hid (Dec.dig c = false → B = Dec.lead (bn s) s.size) := fun h => by
          rw [← hB.out]
          exact Dec.best_lead _ _ k hk HD.out (Or.inr ⟨by omega, by rw [hc.out]; exact h⟩)
        by_cases h1 : c < 48
        · have h1' : (c : Int) < 48 := by omega
          have HX : Hid (B = Dec.lead (bn s) s.size) := HE.out (by simp [Dec.dig]; omega)
          go_wp2_with fail
          go_ret
          rw [HX.out]
          exact ⟨rfl, rfl⟩
        · have h1' : ¬ (c : Int) < 48 := by omega
          by_cases h2 : 57 < c
          · have h2' : (c : Int) > 57 := by omega
            have HX : Hid (B = Dec.lead (bn s) s.size) := HE.out (by simp [Dec.dig]; omega)
            go_wp2_with fail
            go_ret
            rw [HX.out]
            exact ⟨rfl, rfl⟩
          · have h2' : ¬ (c : Int) > 57 := by omega
            have HD2 : Hid (∀ i, 1 ≤ i → i < k + 1 → Dec.dig (bn s i) = true) := fun i hi1 hi => by
              by_cases e : i = k
              · rw [e, hc.out]; simp [Dec.dig]; omega
              · exact HD.out i hi1 (by omega)
            have HBN : Hid (Dec.best (bn s) (k + 1) = if Dec.form (bn s) (k + 1) = true then k + 1 else B) := by show _ = _; rw [Dec.best, hB.out]
            obtain ⟨b, hb⟩ : ∃ b, Hid (Dec.form (bn s) (k + 1) = b) := ⟨_, rfl⟩
            simp only [hb.out] at HFM
            rw [hb.out] at HBN
            cases b
            all_goals
              go_wp2_with fail
              refine (HFM.out _).mono ?_
              rintro e w' ⟨rfl, rfl⟩
              go_wp2_with fail
              go_round
              case rel => exact ⟨k + 1, by omega, by go_num, by rw [HBN.out]; first | rfl | go_num, HD2⟩
              case measure => simp [intOf]; omega
    · obtain rfl : k = s.size := by omega
      have hlt' : ¬ (s.size : Int) + 1 ≤ (s.size : Int) := by omega
      have HX : Hid (Dec.best (bn s) s.size = Dec.lead (bn s) s.size) := Dec.best_lead _ _ _ (Nat.le_refl _) HD.out (Or.inl rfl)
      go_wp2_with fail
      go_ret
      rw [HX.out]
      exact ⟨rfl, rfl⟩
end Go.Proofs.YtgklmpooonnmiaaDoor
