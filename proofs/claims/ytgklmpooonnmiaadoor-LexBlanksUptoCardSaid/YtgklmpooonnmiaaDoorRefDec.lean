/-
  Lemmas and contracts that the proofs over this seat use (part RefDec); no statement of the seat is claimed in this text, and nothing is assumed in it.
-/
import Derived.Test.YtgklmpooonnmiaaDoorRefDecP
import Derived.WalkLawsBesides
set_option linter.unusedVariables false
set_option linter.unusedSimpArgs false
namespace Go.Proofs.YtgklmpooonnmiaaDoor
open Go.RowKit
set_option maxHeartbeats 4000000 in
set_option maxRecDepth 100000 in
theorem ref_form0 (w : World) (s : ByteArray) (hs : s.size ≤ maxLen) (hm : 0 < s.size → ¬ bn s 0 = 45) :
    Calls Tryd.prog 68 #[.string s] w fun e w' => e = .returned (.bool (Dec.form (bn s) s.size)) ∧ w = w' := by
  unfold maxLen at hs
  obtain ⟨c0, hc0⟩ : ∃ c0, bn s 0 = c0 := ⟨_, rfl⟩
  have hsg : Dec.sgn (bn s) s.size = 0 := by unfold Dec.sgn; rw [if_neg (fun h => hm h.1 h.2)]
  obtain ⟨b, hb⟩ : ∃ b, b = (decide (s.size = 1) || (decide (1 < s.size) && !decide (c0 = 48))) := ⟨_, rfl⟩
  have HB : Hid ((∀ i, i < s.size → Dec.dig (bn s i) = true) → Dec.form (bn s) s.size = b) := fun h => by
    rw [hb, Bool.eq_iff_iff]
    by_cases h0 : s.size = 0
    · simp [h0, Dec.form]
    · rw [Dec.form_iff _ _ (by omega), hsg, hc0]
      simp only [Bool.or_eq_true, Bool.and_eq_true, decide_eq_true_eq, Bool.not_eq_true', decide_eq_false_iff_not]
      constructor
      · rintro ⟨h1, h2, h3⟩
        by_cases e : s.size = 1
        · exact Or.inl e
        · exact Or.inr ⟨by omega, fun h4 => e (h2 h4).1⟩
      · intro h1
        exact ⟨by omega, fun h4 => ⟨by rcases h1 with h1 | h1; exact h1; exact absurd h4 h1.2, trivial⟩, fun i _ h5 => h i h5⟩
  have HN : Hid (∀ i, i < s.size → Dec.dig (bn s i) = false → Dec.form (bn s) s.size = false) := fun i hi hd => by
    rw [← Bool.not_eq_true]
    intro h
    have := ((Dec.form_iff _ _ (by omega)).1 h).2.2 i (by rw [hsg]; omega) hi
    rw [hd] at this; cases this
  have HCASE : (¬ (s.size : Int) > 0 ∧ ((s.size : Int) == 1) = false ∧ ¬ (s.size : Int) > 1 ∧ b = false) ∨
      ((s.size : Int) > 0 ∧ ((c0 : Int) == 45) = false ∧ ((s.size : Int) == 1) = true ∧ b = true) ∨
      ((s.size : Int) > 0 ∧ ((c0 : Int) == 45) = false ∧ ((s.size : Int) == 1) = false ∧ (s.size : Int) > 1 ∧ (((c0 : Int) == 48) = true ∧ ((c0 : Int) != 48) = false) ∧ b = false) ∨
      ((s.size : Int) > 0 ∧ ((c0 : Int) == 45) = false ∧ ((s.size : Int) == 1) = false ∧ (s.size : Int) > 1 ∧ (((c0 : Int) == 48) = false ∧ ((c0 : Int) != 48) = true) ∧ b = true) := by
    by_cases h0 : s.size = 0
    · exact Or.inl ⟨by omega, by simp [h0], by omega, by simp [hb, h0]⟩
    · have h45 : ¬ c0 = 45 := fun h => hm (by omega) (hc0.trans h)
      have e45 : ((c0 : Int) == 45) = false := beq_eq_false_iff_ne.2 (by omega)
      by_cases h1 : s.size = 1
      · exact Or.inr (Or.inl ⟨by omega, e45, by simp [h1], by simp [hb, h1]⟩)
      · by_cases h48 : c0 = 48
        · exact Or.inr (Or.inr (Or.inl ⟨by omega, e45, beq_eq_false_iff_ne.2 (by omega), by omega, ⟨by simp [h48], by simp [h48]⟩, by simp [hb, h1, h48]⟩))
        · exact Or.inr (Or.inr (Or.inr ⟨by omega, e45, beq_eq_false_iff_ne.2 (by omega), by omega, ⟨beq_eq_false_iff_ne.2 (by omega), bne_iff_ne.2 (by omega)⟩, by simp [hb, h48]; omega⟩))
  have hz0 : ∀ h : 0 < s.size, (s[0]'h).toNat = c0 := fun h => by rw [← hc0]; exact bn_at s 0 h
  have HC0 := Lib.hid hc0
  have hbn := Lib.hid (bn_at s)
  clear hb hc0 hm hsg
  rcases HCASE with ⟨p1, p2, p3, hbv⟩ | ⟨p1, p2, p3, hbv⟩ | ⟨p1, p2, p3, p4, ⟨p5, p6⟩, hbv⟩ | ⟨p1, p2, p3, p4, ⟨p5, p6⟩, hbv⟩
  all_goals
    have HBV := Lib.hid hbv
    clear hbv
    go_enter Tryd.func68, Tryd.ntmps68
    go_wp2_with fail
    go_loop [3] (fun t => ∃ k : Nat, k ≤ s.size ∧ t = .int .i64 k ∧ Hid (∀ i, i < k → Dec.dig (bn s i) = true)) (fun t => s.size - (intOf t).toNat)
    case atStart => exact ⟨0, by omega, rfl, fun i hi => by omega⟩
    case round =>
      obtain ⟨k, hk, rfl, HD⟩ := hrel
      by_cases hlt : k < s.size
      · have hlt' : (k : Int) < (s.size : Int) := by omega
        have hzk := hbn.out k hlt
        obtain ⟨c, hc⟩ : ∃ c, Hid (bn s k = c) := ⟨_, rfl⟩
        rw [hc.out] at hzk
        by_cases h1 : c < 48
        · have h1' : (c : Int) < 48 := by omega
          have HX : Hid (Dec.form (bn s) s.size = false) := HN.out k hlt (by rw [hc.out]; simp [Dec.dig]; omega)
          go_wp2_with fail
          go_ret
          rw [HX.out]
          exact ⟨rfl, rfl⟩
        · have h1' : ¬ (c : Int) < 48 := by omega
          by_cases h2 : 57 < c
          · have h2' : (c : Int) > 57 := by omega
            have HX : Hid (Dec.form (bn s) s.size = false) := HN.out k hlt (by rw [hc.out]; simp [Dec.dig]; omega)
            go_wp2_with fail
            go_ret
            rw [HX.out]
            exact ⟨rfl, rfl⟩
          · have h2' : ¬ (c : Int) > 57 := by omega
            have HD2 : Hid (∀ i, i < k + 1 → Dec.dig (bn s i) = true) := fun i hi => by
              by_cases e : i = k
              · rw [e, hc.out]; simp [Dec.dig]; omega
              · exact HD.out i (by omega)
            go_wp2_with fail
            go_round
            case rel => exact ⟨k + 1, by omega, by go_num, HD2⟩
            case measure => simp [intOf]; omega
      · obtain rfl : k = s.size := by omega
        have HX : Hid (Dec.form (bn s) s.size = b) := HB.out HD.out
        go_wp2_with fail
        go_ret
        rw [HX.out, HBV.out]
        exact ⟨rfl, rfl⟩
set_option maxHeartbeats 4000000 in
set_option maxRecDepth 100000 in
theorem ref_form (w : World) (s : ByteArray) (hs : s.size ≤ maxLen) :
    Calls Tryd.prog 68 #[.string s] w fun e w' => e = .returned (.bool (Dec.form (bn s) s.size)) ∧ w = w' := by
  by_cases hm : 0 < s.size ∧ bn s 0 = 45
  case neg => exact ref_form0 w s hs (fun h1 h2 => hm ⟨h1, h2⟩)
  have hs2 := hs
  unfold maxLen at hs
  obtain ⟨h0, h45⟩ := hm
  have hsg : Dec.sgn (bn s) s.size = 1 := by unfold Dec.sgn; rw [if_pos ⟨h0, h45⟩]
  have p1 : (s.size : Int) > 0 := by omega
  have p2 : ((45 : Int) == 45) = true := rfl
  have hz0 : (s[0]'h0).toNat = 45 := by rw [bn_at s 0 h0]; exact h45
  by_cases h1 : s.size = 1
  · have p3 : ¬ (s.size : Int) > 1 := by omega
    have HX : Hid (Dec.form (bn s) s.size = false) := by
      show _ = _
      rw [← Bool.not_eq_true]
      intro h
      have := ((Dec.form_iff _ _ h0).1 h).1
      omega
    clear h45 hsg h1
    go_enter Tryd.func68, Tryd.ntmps68
    go_wp2_with fail
    go_ret
    rw [HX.out]
    exact ⟨rfl, rfl⟩
  have p3 : (s.size : Int) > 1 := by omega
  have h1' : 1 < s.size := by omega
  have hz1 : (s[1]'h1').toNat = bn s 1 := bn_at s 1 h1'
  obtain ⟨c1, hc1⟩ : ∃ c1, bn s 1 = c1 := ⟨_, rfl⟩
  rw [hc1] at hz1
  have HF : Hid (∀ b : Bool, (b = true ↔ c1 ≠ 48 ∧ ∀ i, 1 ≤ i → i < s.size → Dec.dig (bn s i) = true) → Dec.form (bn s) s.size = b) := fun b h => by
    rw [Bool.eq_iff_iff, h, Dec.form_iff _ _ h0, hsg, hc1]
    constructor
    · rintro ⟨_, h3, h4⟩
      exact ⟨fun h5 => by have := (h3 h5).2; omega, h4⟩
    · rintro ⟨h3, h4⟩
      exact ⟨h1', fun h5 => absurd h5 h3, h4⟩
  by_cases h48 : c1 = 48
  · have p4 : ((c1 : Int) == 48) = true := by simp [h48]
    have p4' : ((c1 : Int) != 48) = false := by simp [h48]
    have HX : Hid (Dec.form (bn s) s.size = false) := HF.out false (by simp [h48])
    clear h45 hsg h1 hc1 h48
    go_enter Tryd.func68, Tryd.ntmps68
    go_wp2_with fail
    go_ret
    rw [HX.out]
    exact ⟨rfl, rfl⟩
  have p4 : ((c1 : Int) == 48) = false := beq_eq_false_iff_ne.2 (by omega)
  have p4' : ((c1 : Int) != 48) = true := bne_iff_ne.2 (by omega)
  by_cases hc45 : c1 = 45
  · have p5 : ((c1 : Int) == 45) = true := by simp [hc45]
    have p5' : ((c1 : Int) != 45) = false := by simp [hc45]
    have HX : Hid (Dec.form (bn s) s.size = false) := HF.out false (by
      simp only [Bool.false_eq_true, false_iff]
      rintro ⟨_, h⟩
      have := h 1 (Nat.le_refl _) h1'
      rw [hc1, hc45] at this
      simp [Dec.dig] at this)
    clear h45 hsg h1 hc1 h48 hc45
    go_enter Tryd.func68, Tryd.ntmps68
    go_wp2_with fail
    go_ret
    rw [HX.out]
    exact ⟨rfl, rfl⟩
  have p5 : ((c1 : Int) == 45) = false := beq_eq_false_iff_ne.2 (by omega)
  have p5' : ((c1 : Int) != 45) = true := bne_iff_ne.2 (by omega)
  obtain ⟨T, hT⟩ : ∃ T, s.extract 1 s.size = T := ⟨_, rfl⟩
  have hTs : T.size = s.size - 1 := by rw [← hT]; simp
  have hTb : ∀ i, i < s.size - 1 → bn T i = bn s (1 + i) := fun i hi => by rw [← hT]; exact bn_ext s 1 s.size i (Nat.le_refl _) hi
  have HT0 : Hid (∀ W, Calls Tryd.prog 68 #[.string T] W fun e w' => e = .returned (.bool (Dec.form (bn T) T.size)) ∧ W = w') := fun W =>
    ref_form0 W T (by unfold maxLen; omega) (fun _ h => by rw [hTb 0 (by omega)] at h; exact hc45 (hc1.symm.trans h))
  have HX : Hid (Dec.form (bn s) s.size = Dec.form (bn T) T.size) := HF.out _ (by
    have hsT : Dec.sgn (bn T) T.size = 0 := by unfold Dec.sgn; rw [if_neg]; rintro ⟨_, h⟩; rw [hTb 0 (by omega)] at h; exact hc45 (hc1.symm.trans h)
    rw [Dec.form_iff _ _ (by omega), hsT, hTb 0 (by omega), hc1]
    constructor
    · rintro ⟨_, h3, h4⟩
      refine ⟨h48, fun i hi hi2 => ?_⟩
      have := h4 (i - 1) (by omega) (by omega)
      rw [hTb _ (by omega), show 1 + (i - 1) = i by omega] at this
      exact this
    · rintro ⟨h3, h4⟩
      refine ⟨by omega, fun h5 => absurd h5 h48, fun i _ hi2 => ?_⟩
      rw [hTb _ (by omega)]
      exact h4 (1 + i) (by omega) (by omega))
  obtain ⟨b, hb⟩ : ∃ b, Hid (Dec.form (bn T) T.size = b) := ⟨_, rfl⟩
  have p6 : (1 : Int) ≤ (s.size : Int) := by omega
  simp only [hb.out] at HT0
  rw [hb.out] at HX
  have HTS := Lib.hid hTs
  clear h45 hsg h1 hc1 h48 hc45 hTs hTb
  go_enter Tryd.func68, Tryd.ntmps68
  go_wp2_with fail
  refine (HT0.out _).mono ?_
  rintro e w' ⟨rfl, rfl⟩
  go_wp2_with fail
  go_ret
  rw [HX.out]
  exact ⟨rfl, rfl⟩
theorem ref_less (w : World) (a b : ByteArray) :
    Calls Tryd.prog 69 #[.string a, .string b] w fun e w' => e = .returned (.bool (Dec.lessB a b)) ∧ w = w' := by
  by_cases h : a.size = b.size
  · have HX : Hid (Dec.lessB a b = Op.bytesLess a.toList b.toList) := by show _ = _; unfold Dec.lessB; rw [if_pos h]
    have h1 : ((a.size : Int) == (b.size : Int)) = true := beq_iff_eq.2 (by omega)
    have h2 : (a.size == b.size) = true := beq_iff_eq.2 h
    clear h
    go_enter Tryd.func69, Tryd.ntmps69
    go_wp2_with fail
    go_ret
    rw [HX.out]
    exact ⟨rfl, rfl⟩
  · have HX : Hid (Dec.lessB a b = decide (a.size < b.size)) := by show _ = _; unfold Dec.lessB; rw [if_neg h]
    have h1 : ((a.size : Int) == (b.size : Int)) = false := beq_eq_false_iff_ne.2 (by omega)
    have h2 : (a.size == b.size) = false := beq_eq_false_iff_ne.2 h
    clear h
    go_enter Tryd.func69, Tryd.ntmps69
    go_wp2_with fail
    go_ret
    rw [HX.out]
    refine ⟨?_, rfl⟩
    first | rfl | simp
end Go.Proofs.YtgklmpooonnmiaaDoor
