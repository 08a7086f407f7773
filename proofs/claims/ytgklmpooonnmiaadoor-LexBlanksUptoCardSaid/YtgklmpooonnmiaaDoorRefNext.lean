/-
  Lemmas and contracts that the proofs over this seat use (part RefNext); no statement of the seat is claimed in this text, and nothing is assumed in it.
-/
import Derived.Test.YtgklmpooonnmiaaDoorRefNextP
import Derived.Test.YtgklmpooonnmiaaDoorLexQuote
import Derived.Test.YtgklmpooonnmiaaDoorLexSmall
set_option linter.unusedVariables false
set_option linter.unusedSimpArgs false
namespace Go.Proofs.YtgklmpooonnmiaaDoor
open Go.RowKit
theorem ba_take (s : ByteArray) (k : Nat) (h : k ≤ s.size) : s.extract 0 k = ba ((List.range k).map (bn s)) := by
  apply nats_inj.1
  rw [nats_ba _ (by intro x hx; simp only [List.mem_map] at hx; obtain ⟨i, _, rfl⟩ := hx; exact bn_lt s i)]
  apply List.ext_getElem?
  intro i
  by_cases hi : i < k
  · have h2 : i < (nats s).length := by rw [nats_length]; omega
    have e1 : (nats (s.extract 0 k))[i]? = (nats s)[i]? := by
      simp only [nats, List.getElem?_map]
      simp [hi]
    rw [e1, List.getElem?_map, List.getElem?_range hi]
    simp only [Option.map_some, bn, List.getD_eq_getElem?_getD]
    rw [List.getElem?_eq_getElem h2]; rfl
  · rw [List.getElem?_eq_none (by rw [nats_length]; simp; omega), List.getElem?_eq_none (by simp; omega)]
theorem put_lt (n : Nat) : ∀ x ∈ Utf.put n, x < 256 := by
  unfold Utf.put
  intro x hx
  split at hx
  · rename_i hr
    rw [Utf.right_iff] at hr
    split at hx
    · simp at hx; omega
    · split at hx
      · simp at hx; omega
      · split at hx
        · simp at hx; omega
        · simp at hx; omega
  · cases hx
theorem ba_inj {a b : List Nat} (ha : ∀ x ∈ a, x < 256) (hb : ∀ x ∈ b, x < 256) : ba a = ba b ↔ a = b :=
  ⟨fun h => by rw [← nats_ba a ha, ← nats_ba b hb, h], fun h => by rw [h]⟩
theorem toList_inj {a b : ByteArray} : a.toList = b.toList ↔ a = b := by
  constructor
  · intro h
    rw [ByteArray.toList_eq, ByteArray.toList_eq] at h
    exact ByteArray.ext (Array.toList_inj.mp h)
  · rintro rfl; rfl
/-- the letter's bytes against the text's. -/
theorem hit_str (s : ByteArray) (k : Nat) (h : k ≤ s.size) : (ba (Utf.put (Utf.val (bn s) k))).toList = (s.extract 0 k).toList ↔ Utf.hit (bn s) k := by
  rw [toList_inj, ba_take s k h, ba_inj (put_lt _) (by intro x hx; simp only [List.mem_map] at hx; obtain ⟨i, _, rfl⟩ := hx; exact bn_lt s i)]
  rfl
theorem val_le (f : Nat → Nat) (hf : ∀ i, f i < 256) (k : Nat) (h1 : 1 ≤ k) (h4 : k ≤ 4) : Utf.val f k ≤ 2097151 := by
  have h0 := hf 0
  obtain rfl | rfl | rfl | rfl : k = 1 ∨ k = 2 ∨ k = 3 ∨ k = 4 := by omega
  all_goals
    simp [Utf.val, Utf.acc, Utf.mod0]
    omega
theorem val1 (f : Nat → Nat) : ((f 0 : Nat) : Int) = (Utf.val f 1 : Nat) := by simp [Utf.val, Utf.acc, Utf.mod0]
theorem val2 (f : Nat → Nat) : ((f 0 : Nat) : Int) % 32 * 64 + (f 1 : Nat) % 64 = (Utf.val f 2 : Nat) := by simp [Utf.val, Utf.acc, Utf.mod0]
theorem val3 (f : Nat → Nat) : (((f 0 : Nat) : Int) % 16 * 64 + (f 1 : Nat) % 64) * 64 + (f 2 : Nat) % 64 = (Utf.val f 3 : Nat) := by simp [Utf.val, Utf.acc, Utf.mod0]
theorem val4 (f : Nat → Nat) : ((((f 0 : Nat) : Int) % 8 * 64 + (f 1 : Nat) % 64) * 64 + (f 2 : Nat) % 64) * 64 + (f 3 : Nat) % 64 = (Utf.val f 4 : Nat) := by simp [Utf.val, Utf.acc, Utf.mod0]
set_option maxHeartbeats 4000000 in
set_option maxRecDepth 100000 in
theorem ref_next (w : World) (s : ByteArray) (hs : s.size ≤ maxLen) :
    Calls Tryd.prog 60 #[.string s] w fun e w' => e = .returned (.tuple #[.int .i64 (letZ (Utf.next (bn s) s.size).1), .int .i64 ((Utf.next (bn s) s.size).2 : Nat)]) ∧ Fr [] w w' := by
  unfold maxLen at hs
  have hlt := bn_lt s
  obtain ⟨R, hR⟩ : ∃ R, Hid (Utf.next (bn s) s.size = R) := ⟨_, rfl⟩
  rw [hR.out]
  by_cases h0 : s.size = 0
  · have hX : R = (none, 0) := by rw [← hR.out, Utf.next, if_pos h0]
    subst hX
    have h0' : ((s.size : Int) == 0) = true := beq_iff_eq.2 (by omega)
    go_enter Tryd.func60, Tryd.ntmps60
    go_wp2
    go_ret2
    exact ⟨rfl, Fr.refl _ _⟩
  have h0' : ((s.size : Int) == 0) = false := beq_eq_false_iff_ne.2 (by omega)
  have HLT := Lib.hid hlt
  clear hlt
  go_enter Tryd.func60, Tryd.ntmps60
  go_wp2_with fail
  go_loopg [4] 5 (fun q t W => ∃ k : Nat, 1 ≤ k ∧ k ≤ 5 ∧ q = 6 - k ∧ t = .int .i64 k ∧ Hid (∀ j, 1 ≤ j → j < k → j ≤ s.size → ¬ Utf.hit (bn s) j) ∧ Hid (Fr [] w W))
  case atStart => exact ⟨1, Nat.le_refl _, by decide, rfl, rfl, Lib.hid (fun j h1 h2 => absurd h2 (by omega)), Fr.refl _ _⟩
  case round =>
    obtain ⟨k, hk1, hk5, hq, rfl, HM, HF⟩ := hrel
    have HQ := Lib.hid hq
    clear hq
    by_cases hend : k ≤ 4 ∧ k ≤ s.size
    · obtain ⟨hk4, hks⟩ := hend
      have g1 : (k : Int) ≤ 4 := by omega
      have g2 : (k : Int) ≤ (s.size : Int) := by omega
      have hz := bn_at s 0 (by omega)
      have l0 := HLT.out 0
      have hn0 : 0 < s.size := by omega
      have HPUT : Hid (∀ (x : Int), x = (Utf.val (bn s) k : Nat) → ∀ W, Calls Tryd.prog 85 #[.int .i64 x] W fun e w' => e = .returned (.string (ba (Utf.put (Utf.val (bn s) k)))) ∧ Fr [] W w') := fun x hx W => by
        subst hx
        refine ref_put _ ?_ W
        exact val_le _ (bn_lt s) k hk1 hk4
      obtain ⟨P, hP⟩ : ∃ P, ba (Utf.put (Utf.val (bn s) k)) = P := ⟨_, rfl⟩
      obtain ⟨T, hT⟩ : ∃ T, s.extract 0 k = T := ⟨_, rfl⟩
      have hit_iff := hit_str s k hks
      rw [hP, hT] at hit_iff
      rw [hP] at HPUT
      have HDEC : (Utf.hit (bn s) k ∧ (P.toList == T.toList) = true) ∨ (¬ Utf.hit (bn s) k ∧ (P.toList == T.toList) = false) := by
        by_cases h : P.toList = T.toList
        · exact Or.inl ⟨hit_iff.1 h, beq_iff_eq.2 h⟩
        · exact Or.inr ⟨fun h2 => h (hit_iff.2 h2), beq_eq_false_iff_ne.2 h⟩
      clear hit_iff
      have HHIT : Hid (Utf.hit (bn s) k → R = (some (Utf.val (bn s) k), k)) := fun h => by rw [← hR.out]; exact Utf.next_hit _ (bn_lt s) _ _ hk1 hk4 hks h
      have HMIS : Hid (¬ Utf.hit (bn s) k → ∀ j, 1 ≤ j → j < k + 1 → j ≤ s.size → ¬ Utf.hit (bn s) j) := fun h j h1 h2 h3 => by
        by_cases e : j = k
        · rw [e]; exact h
        · exact HM.out j h1 (by omega) h3
      have HK := Lib.hid (And.intro hk1 hk4)
      clear HM hP
      obtain ⟨KK, hKK⟩ : ∃ K, Hid (K = k) := ⟨k, rfl⟩
      obtain ⟨V, hVV⟩ : ∃ V, Hid (Utf.val (bn s) k = V) := ⟨_, rfl⟩
      rw [hVV.out] at HPUT HHIT
      obtain rfl | rfl | rfl | rfl : k = 1 ∨ k = 2 ∨ k = 3 ∨ k = 4 := by omega
      case' inl =>
        have HVAL := Lib.hid (val1 (bn s))
        rw [hVV.out] at HVAL
        go_wp2_with fail
        refine wp_loop_rounds 1 ?_
        rw [rounds_succ]
        go_wp2_with fail
      case' inr.inl =>
        have HVAL := Lib.hid (val2 (bn s))
        rw [hVV.out] at HVAL
        have hz1 := bn_at s 1 (by omega)
        have l1 := HLT.out 1
        have hn1 : 1 < s.size := by omega
        go_wp2_with fail
        refine wp_loop_rounds 2 ?_
        rw [rounds_succ]
        go_wp2_with fail
        rw [rounds_succ]
        go_wp2_with fail
      case' inr.inr.inl =>
        have HVAL := Lib.hid (val3 (bn s))
        rw [hVV.out] at HVAL
        have hz1 := bn_at s 1 (by omega)
        have l1 := HLT.out 1
        have hn1 : 1 < s.size := by omega
        have hz2 := bn_at s 2 (by omega)
        have l2 := HLT.out 2
        have hn2 : 2 < s.size := by omega
        go_wp2_with fail
        refine wp_loop_rounds 3 ?_
        rw [rounds_succ]
        go_wp2_with fail
        rw [rounds_succ]
        go_wp2_with fail
        rw [rounds_succ]
        go_wp2_with fail
      case' inr.inr.inr =>
        have HVAL := Lib.hid (val4 (bn s))
        rw [hVV.out] at HVAL
        have hz1 := bn_at s 1 (by omega)
        have l1 := HLT.out 1
        have hn1 : 1 < s.size := by omega
        have hz2 := bn_at s 2 (by omega)
        have l2 := HLT.out 2
        have hn2 : 2 < s.size := by omega
        have hz3 := bn_at s 3 (by omega)
        have l3 := HLT.out 3
        have hn3 : 3 < s.size := by omega
        go_wp2_with fail
        refine wp_loop_rounds 4 ?_
        rw [rounds_succ]
        go_wp2_with fail
        rw [rounds_succ]
        go_wp2_with fail
        rw [rounds_succ]
        go_wp2_with fail
        rw [rounds_succ]
        go_wp2_with fail
      all_goals
        rcases HDEC with ⟨hh, hb⟩ | ⟨hh, hb⟩
        · have HX := Lib.hid (HHIT.out hh)
          clear hh HMIS HHIT
          go_region_held3 (fun _ => True) (first | go_keep | trivial)
            ((go_at_call 85; refine (HPUT.out _ HVAL.out _).mono ?_; rintro e w' ⟨rfl, hf⟩))
          all_goals
            have HFN : Hid (Fr [] w w') := by
              show Fr _ _ _
              first | exact HF.out.trans0 hf | exact HF.out.drew.trans0 hf
            clear hf HF
            go_wp2_with fail
            go_ret2
            rw [HX.out]
            exact ⟨by rw [HVAL.out]; rfl, HFN.out⟩
        · have HX := Lib.hid (HMIS.out hh)
          clear hh HMIS HHIT
          go_region_held3 (fun _ => True) (first | go_keep | trivial)
            ((go_at_call 85; refine (HPUT.out _ HVAL.out _).mono ?_; rintro e w' ⟨rfl, hf⟩))
          all_goals
            have HFN : Hid (Fr [] w w') := by
              show Fr _ _ _
              first | exact HF.out.trans0 hf | exact HF.out.drew.trans0 hf
            clear hf HF
            go_wp2_with fail
            go_roundg (6 - (KK + 1))
            case measure => have := HQ.out; have := hKK.out; omega
            case rel => exact ⟨KK + 1, by omega, by have := hKK.out; omega, rfl, by rw [hKK.out]; rfl, Lib.hid (fun j h1 h2 h3 => HX.out j h1 (by have := hKK.out; omega) h3), HFN.out⟩
    · have HX : Hid (R = (none, 1)) := by
        show _ = _
        rw [← hR.out]
        exact Utf.next_miss _ (bn_lt s) _ (by omega) (fun j h1 h2 h3 => HM.out j h1 (by omega) h3)
      clear HM
      by_cases hk4 : k ≤ 4
      · have g1 : (k : Int) ≤ 4 := by omega
        have g2 : ¬ (k : Int) ≤ (s.size : Int) := by omega
        go_wp2_with fail
        go_ret2
        rw [HX.out]
        exact ⟨rfl, HF.out⟩
      · have g1 : ¬ (k : Int) ≤ 4 := by omega
        go_wp2_with fail
        go_ret2
        rw [HX.out]
        exact ⟨rfl, HF.out⟩
end Go.Proofs.YtgklmpooonnmiaaDoor
