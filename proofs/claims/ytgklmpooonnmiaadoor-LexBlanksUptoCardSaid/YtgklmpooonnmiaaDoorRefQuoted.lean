/-
  Lemmas and contracts that the proofs over this seat use (part RefQuoted); no statement of the seat is claimed in this text, and nothing is assumed in it.
-/
import Derived.Test.YtgklmpooonnmiaaDoorRefNext
import Derived.Test.YtgklmpooonnmiaaDoorLexTextP
set_option linter.unusedVariables false
set_option linter.unusedSimpArgs false
namespace Go.Proofs.YtgklmpooonnmiaaDoor
open Go.RowKit
theorem bn_over (s : ByteArray) (i : Nat) (h : s.size ≤ i) : bn s i = 0 := by
  unfold bn
  rw [List.getD_eq_getElem?_getD, List.getElem?_eq_none (by rw [nats_length]; exact h)]
  rfl
theorem bn_tail (s : ByteArray) (j : Nat) (hj : j ≤ s.size) : bn (s.extract j s.size) = fun i => bn s (j + i) := by
  funext i
  by_cases h : i < s.size - j
  · exact bn_ext s j s.size i (Nat.le_refl _) h
  · rw [bn_over _ i (by simp; omega), bn_over s (j + i) (by omega)]
theorem ba_append (a b : List Nat) : ba (a ++ b) = ba a ++ ba b := by
  apply ByteArray.ext
  simp [ba]
theorem ext_ba (s : ByteArray) (a b : Nat) : s.extract a b = ba (((nats s).drop a).take (b - a)) := by rw [← nats_ext, ba_nats]
theorem drop_take1 (s : ByteArray) (j : Nat) (h : j < s.size) : ((nats s).drop j).take 1 = [bn s j] := by
  have h2 : j < (nats s).length := by rw [nats_length]; exact h
  rw [List.drop_eq_getElem_cons h2, List.take_succ_cons, List.take_zero]
  unfold bn
  rw [List.getD_eq_getElem?_getD, List.getElem?_eq_getElem h2]
  rfl
def textNx (s : ByteArray) (j : Nat) (out : List Nat) : Option Nat × Nat → Option (List Nat) × Nat
  | (none, _) => (none, j)
  | (some _, m) => Lex.text s (j + max m 1) (out ++ ((nats s).drop j).take m)
set_option maxHeartbeats 4000000 in
set_option maxRecDepth 100000 in
theorem ref_quoted (w : World) (s : ByteArray) (k : Nat) (hs : s.size ≤ 1000000) (hk : k < s.size) :
    Calls Tryd.prog 39 #[.string s, .int .i64 k] w fun e w' => e = .returned (.tuple #[.string (ba ((Lex.text s (k + 1) []).1.getD [])), .int .i64 ((Lex.text s (k + 1) []).2 : Nat), .bool (Lex.text s (k + 1) []).1.isSome]) ∧ Fr [] w w' := by
  obtain ⟨R, hR⟩ : ∃ R, Hid (Lex.text s (k + 1) [] = R) := ⟨_, rfl⟩
  rw [hR.out]
  have hbn := Lib.hid (bn_at s)
  go_enter Tryd.func39, Tryd.ntmps39
  go_wp2_with fail
  go_loopg [1, 7] (s.size - (k + 1)) (fun q t v W => ∃ (j : Nat) (O : ByteArray) (out : List Nat), j ≤ s.size ∧ q = s.size - j ∧ t = .int .i64 j ∧ v = .string O ∧ O.size ≤ j ∧ Hid (O = ba out) ∧ Hid (Lex.text s j out = R) ∧ Hid (Fr [] w W))
  case atStart => exact ⟨k + 1, ⟨#[]⟩, [], by omega, rfl, by go_num, rfl, by show 0 ≤ _; omega, rfl, hR, Fr.refl _ _⟩
  case round =>
    clear hR
    obtain ⟨j, O, out, hj, hq, rfl, rfl, hO, HO, HE, HF⟩ := hrel
    have HQ := Lib.hid hq
    clear hq
    have e1 : (0 : Int) ≤ (j : Int) := by omega
    by_cases hlt : j < s.size
    · have hlt' : (j : Int) < (s.size : Int) := by omega
      have hzj := hbn.out j hlt
      obtain ⟨c, hc⟩ : ∃ c, Hid (bn s j = c) := ⟨_, rfl⟩
      have hcl := bn_lt s j
      rw [hc.out] at hzj hcl
      by_cases h32 : c < 32
      · have h32' : (c : Int) < 32 := by omega
        have HX : Hid (R = (none, j)) := by show _ = _; rw [← HE.out, Lex.text, if_pos hlt, hc.out, if_pos h32]
        go_wp2_with fail
        go_ret3
        rw [HX.out]
        exact ⟨rfl, HF.out⟩
      have h32' : ¬ (c : Int) < 32 := by omega
      by_cases h34 : c = 34
      · have t34 : ((c : Int) == 34) = true := by simp [h34]
        have HX : Hid (R = (some out, j + 1)) := by show _ = _; rw [← HE.out, Lex.text, if_pos hlt, hc.out, if_neg h32, if_pos h34]
        clear h34
        go_wp2_with fail
        go_ret3
        rw [HX.out]
        refine ⟨?_, HF.out⟩
        show Ending.returned (.tuple #[.string O, _, _]) = _
        rw [HO.out]
        first | rfl | (congr 2; first | rfl | (congr 1; omega))
      have t34 : ((c : Int) == 34) = false := beq_eq_false_iff_ne.2 (by omega)
      by_cases h92 : c = 92
      · have t92 : ((c : Int) == 92) = true := by simp [h92]
        have HX0 : Hid (R = if j + 1 < s.size ∧ (bn s (j + 1) = 34 ∨ bn s (j + 1) = 92) then Lex.text s (j + 2) (out ++ [bn s (j + 1)]) else (none, j + 1)) := by
          show _ = _; rw [← HE.out]; conv => lhs; rw [Lex.text, if_pos hlt, hc.out, if_neg h32, if_neg h34, if_pos h92]
        clear h92 h34 h32
        by_cases hj1 : j + 1 < s.size
        · have hj1' : (j : Int) + 1 < (s.size : Int) := by omega
          have hz1 := hbn.out (j + 1) hj1
          have e2 : (0 : Int) ≤ (j : Int) + 1 := by omega
          have e3 : ((j : Int) + 1).toNat = j + 1 := by omega
          obtain ⟨d, hd⟩ : ∃ d, Hid (bn s (j + 1) = d) := ⟨_, rfl⟩
          rw [hd.out] at hz1 HX0
          by_cases hd2 : d = 34 ∨ d = 92
          · have HX : Hid (R = Lex.text s (j + 2) (out ++ [d])) := by show _ = _; rw [HX0.out, if_pos ⟨hj1, hd2⟩]
            obtain ⟨U, hU⟩ : ∃ U, s.extract (j + 1) (j + 2) = U := ⟨_, rfl⟩
            have hUs : U.size = 1 := by rw [← hU]; simp; omega
            have HN : Hid (O ++ U = ba (out ++ [d])) := by show _ = _; rw [ba_append, HO.out, ← hU, ext_ba, show j + 2 - (j + 1) = 1 by omega, drop_take1 s (j + 1) hj1, hd.out]
            have hsz : ¬ 9223372036854775807 < O.size + U.size := by omega
            have HOU : Hid ((O ++ U).size ≤ j + 2) := by show _ ≤ _; rw [ByteArray.size_append]; omega
            have e4 : (j : Int) + 2 ≤ (s.size : Int) := by omega
            have e5 : (j : Int) + 1 ≤ (j : Int) + 2 := by omega
            have e6 : ((j : Int) + 2).toNat = j + 2 := by omega
            have hex : s.extract (j + 1) (j + 2) = U := hU
            have ce : ((d : Int) == 34) = true ∨ ((d : Int) == 34) = false ∧ ((d : Int) == 92) = true := by
              by_cases e : d = 34
              · exact Or.inl (by simp [e])
              · exact Or.inr ⟨beq_eq_false_iff_ne.2 (by omega), by rw [hd2.resolve_left e]; rfl⟩
            clear hU hUs hd2 hd
            rcases ce with ce | ⟨ce, ce2⟩
            all_goals
              go_wp2_with fail
              go_roundg (s.size - (j + 2))
              case measure => have := HQ.out; omega
              case rel => exact ⟨j + 2, O ++ U, out ++ [d], by omega, rfl, by go_num, rfl, HOU.out, HN, HX.out.symm, HF⟩
          · have HX : Hid (R = (none, j + 1)) := by show _ = _; rw [HX0.out, if_neg (fun h => hd2 h.2)]
            have ce : ((d : Int) == 34) = false := beq_eq_false_iff_ne.2 (by omega)
            have ce2 : ((d : Int) == 92) = false := beq_eq_false_iff_ne.2 (by omega)
            clear hd2 hd
            go_wp2_with fail
            go_ret3
            rw [HX.out]
            exact ⟨by first | rfl | (congr 2; first | rfl | (congr 1; omega)), HF.out⟩
        · have hj1' : ¬ (j : Int) + 1 < (s.size : Int) := by omega
          have HX : Hid (R = (none, j + 1)) := by show _ = _; rw [HX0.out, if_neg (fun h => hj1 h.1)]
          go_wp2_with fail
          go_ret3
          rw [HX.out]
          exact ⟨by first | rfl | (congr 2; first | rfl | (congr 1; omega)), HF.out⟩
      have t92 : ((c : Int) == 92) = false := beq_eq_false_iff_ne.2 (by omega)
      obtain ⟨T, hT⟩ : ∃ T, s.extract j s.size = T := ⟨_, rfl⟩
      have hTs : T.size = s.size - j := by rw [← hT]; simp
      have hTn : Utf.next (bn T) T.size = Utf.next (fun i => bn s (j + i)) (s.size - j) := by rw [hTs, ← hT, bn_tail s j hj]
      obtain ⟨x, m, hx⟩ : ∃ x m, Utf.next (fun i => bn s (j + i)) (s.size - j) = (x, m) := ⟨_, _, rfl⟩
      rw [hx] at hTn
      have HNX : Hid (∀ W, Calls Tryd.prog 60 #[.string T] W fun e w' => e = .returned (.tuple #[.int .i64 (letZ x), .int .i64 (m : Nat)]) ∧ Fr [] W w') := fun W => by
        have := ref_next W T (by unfold maxLen; omega)
        rw [hTn] at this
        exact this
      have HX0 : Hid (R = textNx s j out (x, m)) := by
        show _ = _; rw [← HE.out]; conv => lhs; rw [Lex.text, if_pos hlt, hc.out, if_neg h32, if_neg h34, if_neg h92, hx]
        cases x <;> rfl
      have hxT := Lib.hid hTn
      have hex : s.extract j s.size = T := hT
      have hjle : (j : Int) ≤ (s.size : Int) := by omega
      have HTS := Lib.hid hTs
      clear hx hTn hT h92 h34 h32 hTs
      cases x with
      | none =>
        have HX : Hid (R = (none, j)) := HX0.out
        clear HX0
        go_wp2_with fail
        refine (HNX.out _).mono ?_
        rintro e w1 ⟨rfl, hf⟩
        have HF1 := Lib.hid (HF.out.trans0 hf)
        clear hf
        simp only [letZ]
        go_wp2_with fail
        go_ret3
        rw [HX.out]
        exact ⟨rfl, HF1.out⟩
      | some x =>
        have hsz2 := Utf.next_size _ _ _ _ hxT.out
        have hTS := HTS.out
        have hjm : j + m ≤ s.size := by omega
        have HX : Hid (R = Lex.text s (j + m) (out ++ ((nats s).drop j).take m)) := by
          show _ = _; rw [HX0.out]
          show Lex.text s (j + max m 1) _ = _
          rw [show max m 1 = m by omega]
        obtain ⟨U, hU⟩ : ∃ U, s.extract j (j + m) = U := ⟨_, rfl⟩
        have hUs : U.size = m := by rw [← hU]; simp; omega
        have HN : Hid (O ++ U = ba (out ++ ((nats s).drop j).take m)) := by show _ = _; rw [ba_append, HO.out, ← hU, ext_ba, show j + m - j = m by omega]
        have hsz : ¬ 9223372036854775807 < O.size + U.size := by omega
        have HOU : Hid ((O ++ U).size ≤ j + m) := by show _ ≤ _; rw [ByteArray.size_append]; omega
        have HMP : Hid (0 < m) := by show _ < _; omega
        have wj : IntKind.i64.wrap ((j : Int) + (m : Int)) = (j : Int) + (m : Int) := IntWalk.i64_in _ (by omega)
        have e2 : (j : Int) + (m : Int) ≤ (s.size : Int) := by omega
        have e3 : (j : Int) ≤ (j : Int) + (m : Int) := by omega
        have e4 : ((j : Int) + (m : Int)).toNat = j + m := by omega
        have hex2 : s.extract j (j + m) = U := hU
        have hx0 : ¬ (x : Int) < 0 := by omega
        clear hsz2 hU hUs HX0 hTS
        go_wp2_with fail
        refine (HNX.out _).mono ?_
        rintro e w1 ⟨rfl, hf⟩
        have HF1 := Lib.hid (HF.out.trans0 hf)
        clear hf
        simp only [letZ]
        go_wp2_with fail
        go_roundg (s.size - (j + m))
        case measure => have := HQ.out; have := HMP.out; omega
        case rel => exact ⟨j + m, O ++ U, _, by omega, rfl, by go_num, rfl, HOU.out, HN, HX.out.symm, HF1⟩
    · have hlt' : ¬ (j : Int) < (s.size : Int) := by omega
      have HX : Hid (R = (none, j)) := by show _ = _; rw [← HE.out, Lex.text, if_neg hlt]
      go_wp2_with fail
      go_ret3
      rw [HX.out]
      exact ⟨rfl, HF.out⟩
end Go.Proofs.YtgklmpooonnmiaaDoor
