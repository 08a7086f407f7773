/-
  Lemmas and contracts that the proofs over this seat use (part LexBlanksLaw); no statement of the seat is claimed in this text, and nothing is assumed in it.
-/
import Derived.Test.YtgklmpooonnmiaaDoorLexBlankP
import Derived.Test.YtgklmpooonnmiaaDoorLexAlive
import Derived.Test.YtgklmpooonnmiaaDoorRefSame
import Derived.Test.YtgklmpooonnmiaaDoorLexBackMap
import Derived.Test.YtgklmpooonnmiaaDoorToksOpen
import Derived.BigQuiet
set_option linter.unusedVariables false
set_option linter.unusedSimpArgs false
namespace Go.Proofs.YtgklmpooonnmiaaDoor
open Go.RowKit
/-- the bytes of the seeds stand. -/
def Seeds (w : World) (A : Option Addr) (m : Nat) (f : Nat → Nat) : Prop :=
  ∀ j, j < m → ∃ ad, A = some ad ∧ w.cell? (ad.add j) = some (.int .u8 (f j : Nat)) ∧ f j < 256
theorem Seeds.fr {w w' : World} {A : Option Addr} {m : Nat} {f : Nat → Nat} (h : Seeds w A m f) (hF : Fr [] w w') : Seeds w' A m f := fun j hj => by
  obtain ⟨ad, hA, hc, hb⟩ := h j hj
  exact ⟨ad, hA, hF.cells hc, hb⟩
def blankS : Nat → ByteArray
  | 1 => ⟨#[9, 10]⟩
  | 2 => ⟨#[32, 35, 32, 112, 101, 114, 109, 105, 116, 32, 34, 10]⟩
  | 3 => ⟨#[13, 10, 10]⟩
  | 4 => ⟨#[35, 10]⟩
  | _ => ⟨#[32]⟩
theorem blankS_sep (z : Nat) : Lex.Sep (nats (blankS z)) := by
  unfold blankS
  split
  · exact Lex.sep1
  · exact Lex.sep2
  · exact Lex.sep3
  · exact Lex.sep4
  · exact Lex.sep0
theorem blankS_size (z : Nat) : (blankS z).size ≤ 12 := by
  unfold blankS
  split <;> decide
/-- a round in which a token is written. -/
theorem blank_step (l : List TI) (k z : Nat) (t : TI) (O y : ByteArray) (ps : List (List Nat × TI)) (hy : t.spell = y) (h0 : 0 < y.size) (ht : l.take (k + 1) = l.take k ++ [t]) (hO : nats O = Lex.body ps) (hps : ∀ a ∈ ps, Lex.Sep a.1 ∧ 0 < a.2.spell.size) (hm : ps.map (·.2) = Lex.told (l.take k)) :
    nats ((O ++ blankS z) ++ y) = Lex.body (ps ++ [(nats (blankS z), t)]) ∧ (∀ a ∈ ps ++ [(nats (blankS z), t)], Lex.Sep a.1 ∧ 0 < a.2.spell.size) ∧ (ps ++ [(nats (blankS z), t)]).map (·.2) = Lex.told (l.take (k + 1)) := by
  refine ⟨by rw [nats_append, nats_append, Lex.body_snoc, hO, hy]; simp, fun a ha => ?_, ?_⟩
  · rcases List.mem_append.1 ha with ha | ha
    · exact hps a ha
    · simp at ha; subst ha
      exact ⟨blankS_sep z, by rw [hy]; exact h0⟩
  · rw [List.map_append, hm, ht, Lex.told_snoc, if_pos (by rw [hy]; exact h0)]
    rfl
theorem blank_skip (l : List TI) (k : Nat) (t : TI) (h0 : t.spell.size = 0) (ht : l.take (k + 1) = l.take k ++ [t]) : Lex.told (l.take (k + 1)) = Lex.told (l.take k) := by
  rw [ht, Lex.told_snoc, if_neg (by omega), List.append_nil]
set_option maxHeartbeats 16000000 in
set_option maxRecDepth 100000 in
theorem blanks_law (w : World) (A SA : Option Addr) (c m d : Nat) (l : List TI) (f : Nat → Nat) (hT : Toks w A l) (hc : l.length ≤ c) (hcm : c ≤ maxLen) (hi : ∀ t ∈ l, t.ints) (hs : ∀ t ∈ l, t.s.size ≤ 100000000)
    (hS : Seeds w SA m f) (hd : m ≤ d) (hdm : d ≤ maxLen) (hL : Least w) :
    Calls Tryd.prog 5 #[.slice A l.length c, .slice SA m d] w fun e w' => e = .returned (.bool true) ∧ Fr [] w w' := by
  have hu := Tryd.underlying25
  have hu37 := Tryd.underlying37
  have HT := Lib.hid hT
  have HI := Lib.hid hi
  have HS := Lib.hid hs
  have HSD := Lib.hid hS
  have HL := Lib.hid hL
  have HAL := Lib.hid (lex_alive w hL)
  unfold maxLen at hcm hdm
  clear hT hi hs hL hS
  by_cases h60 : l.length > 60
  · have a1 : (l.length : Int) > 60 := by omega
    go_enter Tryd.func5, Tryd.ntmps5
    go_wp2_with fail
    refine HAL.out.mono ?_
    rintro e w1 ⟨rfl, hF⟩
    have HF := Lib.hid hF
    clear hF
    go_wp2_with fail
    go_ret
    exact ⟨rfl, HF.out⟩
  have a1 : ¬ (l.length : Int) > 60 := by omega
  have hl60 : l.length ≤ 60 := by omega
  clear h60
  go_enter Tryd.func5, Tryd.ntmps5
  go_wp2_with fail
  refine HAL.out.mono ?_
  rintro e w1 ⟨rfl, hF⟩
  have HF0 := Lib.hid hF
  clear hF
  go_wp2_with fail
  go_loopg [5, 6, 7] l.length (fun q v n t W => ∃ (k : Nat) (O : ByteArray) (ps : List (List Nat × TI)), k ≤ l.length ∧ q = l.length - k ∧ t = .int .i64 k ∧ v = .string O ∧ n = .int .i64 (ps.length : Nat) ∧ O.size ≤ 212 * k ∧ ps.length ≤ k ∧ Hid (nats O = Lex.body ps) ∧ Hid (∀ a ∈ ps, Lex.Sep a.1 ∧ 0 < a.2.spell.size) ∧ Hid (ps.map (·.2) = Lex.told (l.take k)) ∧ Hid (∀ t ∈ l.take k, t.spell.size ≤ 200) ∧ Hid (Fr [] w W))
  case atStart => exact ⟨0, ⟨#[]⟩, [], by omega, by omega, rfl, rfl, rfl, Nat.zero_le _, Nat.le_refl _, rfl, (fun a ha => by cases ha), rfl, (fun t ht => by simp at ht), HF0.out⟩
  case round =>
    clear HF0
    obtain ⟨k, O, ps, hk, hq, rfl, rfl, rfl, hO, hpk, HO, HPS, HM, HY, HF⟩ := hrel
    have HQ := Lib.hid hq
    clear hq
    by_cases hlt : k < l.length
    · have hlt' : (k : Int) < (l.length : Int) := by omega
      have hk0 : (0 : Int) ≤ (k : Int) := by omega
      obtain ⟨t, ht⟩ : ∃ t, l[k]? = some t := ⟨_, List.getElem?_eq_getElem hlt⟩
      obtain ⟨ad, hA, c0, c1, c2, c3⟩ := HT.out.fr HF.out k t ht
      subst hA
      have hti := HI.out t (List.mem_of_getElem? ht)
      have hts := HS.out t (List.mem_of_getElem? ht)
      have htk : l.take (k + 1) = l.take k ++ [t] := by rw [List.take_add_one, ht]; rfl
      have HTK := Lib.hid htk
      obtain ⟨y, hy⟩ : ∃ y, t.spell = y := ⟨_, rfl⟩
      have hy' : Lex.spell t.k t.s t.n = y := hy
      have HSP : Hid (∀ W, Least W → Calls Tryd.prog 10 #[.agg #[.int .i64 t.k, .string t.s, .int .i64 t.n, .int .i64 t.p]] W fun e w' => e = .returned (.string y) ∧ Fr [] W w') := fun W hW => by
        rw [← hy']; exact lex_spell W t.k t.s t.n t.p hts hti hW
      have HYY := Lib.hid hy
      have HL2 := Lib.hid (HL.out.fr (bs := []) HF.out (by simp))
      clear hti hts htk hy hy' ht
      by_cases h200 : y.size > 200
      · have l2 : (y.size : Int) > 200 := by omega
        go_wp2_with fail
        refine (HSP.out _ HL2.out).mono ?_
        rintro e w2 ⟨rfl, hf⟩
        have HF2 := Lib.hid (HF.out.trans0 hf)
        clear hf
        go_wp2_with fail
        go_ret
        exact ⟨rfl, HF2.out⟩
      have l2 : ¬ (y.size : Int) > 200 := by omega
      have HY2 : Hid (∀ t ∈ l.take (k + 1), t.spell.size ≤ 200) := fun u hu => by
        rw [HTK.out] at hu
        rcases List.mem_append.1 hu with hu | hu
        · exact HY.out u hu
        · simp at hu; subst hu; rw [HYY.out]; omega
      by_cases hy0 : y.size = 0
      · have e1 := toList_nil hy0
        have HM2 : Hid (ps.map (·.2) = Lex.told (l.take (k + 1))) := by
          show _ = _
          rw [blank_skip l k t (by rw [HYY.out]; exact hy0) HTK.out]; exact HM.out
        have HY0 := Lib.hid hy0
        have ee : (y.toList == []) = true := by rw [e1]; rfl
        have ei : y.toList.isEmpty = true := by rw [e1]; rfl
        clear hy0
        go_wp2_with fail
        refine (HSP.out _ HL2.out).mono ?_
        rintro e w2 ⟨rfl, hf⟩
        have HF2 := Lib.hid (HF.out.trans0 hf)
        clear hf
        go_wp2_with fail
        go_roundg (l.length - (k + 1))
        case measure => have := HQ.out; omega
        case rel => exact ⟨k + 1, O, ps, by omega, rfl, by go_num, rfl, rfl, by omega, by omega, HO, HPS, HM2, HY2, HF2⟩
      · obtain ⟨hne, hie⟩ := toList_ne (by omega : 0 < y.size)
        have hyp : 0 < y.size := by omega
        obtain ⟨z, hz5, hzc⟩ : ∃ z, z < 5 ∧ ((m = 0 ∧ z = 0) ∨ (0 < m ∧ f (k % m) % 5 = z)) := by
          by_cases h0 : m = 0
          · exact ⟨0, by decide, Or.inl ⟨h0, rfl⟩⟩
          · exact ⟨f (k % m) % 5, Nat.mod_lt _ (by decide), Or.inr ⟨by omega, rfl⟩⟩
        have hst := blank_step l k z t O y ps HYY.out hyp HTK.out HO.out HPS.out HM.out
        have hbz := blankS_size z
        obtain ⟨B, hB⟩ : ∃ B, blankS z = B := ⟨_, rfl⟩
        have HZ := Lib.hid hB
        rw [hB] at hst hbz
        have HST := Lib.hid hst
        have hz1 : ¬ 9223372036854775807 < O.size + B.size := by omega
        have hz2 : ¬ 9223372036854775807 < (O ++ B).size + y.size := by rw [ByteArray.size_append]; omega
        have HSZ : Hid (((O ++ B) ++ y).size ≤ 212 * (k + 1)) := by show _ ≤ _; rw [ByteArray.size_append, ByteArray.size_append]; omega
        have hpl : (ps ++ [(nats B, t)]).length = ps.length + 1 := by simp
        have HPL := Lib.hid hpl
        have HFA := Lib.hid (fun o => HF.out.alloc o)
        clear hst hB hpl hne h200
        rcases hzc with ⟨hm0, hz0⟩ | ⟨hm0, hzz⟩
        case' inl =>
          have m1 : ¬ (m : Int) > 0 := by omega
          have m2 : ¬ 0 < m := by omega
          have m3 : decide ((m : Int) > 0) = false := decide_eq_false m1
          subst hz0
          have hBv : Hid (B = ⟨#[32]⟩) := HZ.out.symm
          clear hm0 hz5
          obtain rfl : B = ⟨#[32]⟩ := hBv.out
          clear hBv HZ
        case' inr =>
          obtain ⟨sd, hsd, hcell, hb⟩ := HSD.out.fr HF.out (k % m) (Nat.mod_lt _ hm0)
          subst hsd
          have m1 : (m : Int) > 0 := by omega
          have r1 : (k : Int) % (m : Int) = ((k % m : Nat) : Int) := by omega
          have r2 : (k : Int).tmod (m : Int) = ((k % m : Nat) : Int) := by rw [Int.tmod_eq_emod_of_nonneg (by omega)]; omega
          have r0 : (0 : Int) ≤ ((k % m : Nat) : Int) := by omega
          have r3 : ((k % m : Nat) : Int) < (m : Int) := by have := Nat.mod_lt k hm0; omega
          have m4 : ((m : Int) == 0) = false := beq_eq_false_iff_ne.2 (by omega)
          have m5 : ¬ m = 0 := by omega
          obtain ⟨x, hx⟩ : ∃ x, f (k % m) = x := ⟨_, rfl⟩
          obtain ⟨r, hr⟩ : ∃ r, k % m = r := ⟨_, rfl⟩
          rw [hx] at hcell hb hzz
          rw [hr] at hcell r0 r1 r2 r3
          have hz := hz5
          have x5 : (x : Int) % 5 = (z : Int) := by omega
          clear hm0 hx hr hzz hz5
          obtain rfl | rfl | rfl | rfl | rfl : z = 0 ∨ z = 1 ∨ z = 2 ∨ z = 3 ∨ z = 4 := by omega
          case' inr.inl =>
            obtain rfl : B = ⟨#[32]⟩ := HZ.out.symm
            clear HZ hz
          case' inr.inr.inl =>
            obtain rfl : B = ⟨#[9, 10]⟩ := HZ.out.symm
            clear HZ hz
          case' inr.inr.inr.inl =>
            obtain rfl : B = ⟨#[32, 35, 32, 112, 101, 114, 109, 105, 116, 32, 34, 10]⟩ := HZ.out.symm
            clear HZ hz
          case' inr.inr.inr.inr.inl =>
            obtain rfl : B = ⟨#[13, 10, 10]⟩ := HZ.out.symm
            clear HZ hz
          case' inr.inr.inr.inr.inr =>
            obtain rfl : B = ⟨#[35, 10]⟩ := HZ.out.symm
            clear HZ hz
        all_goals
          go_wp2_with fail
          refine (HSP.out _ HL2.out).mono ?_
          rintro e w2 ⟨rfl, hf⟩
          have HF2 := Lib.hid (HF.out.trans0 hf)
          first
            | (have hcell := hf.cells hcell; clear hf c0 c1 c2 c3; go_wp2_with fail)
            | (clear hf c0 c1 c2 c3; go_wp2_with fail)
          have HF3 := Lib.hid (HF2.out.alloc (.cells #[.string ⟨#[32]⟩, .string ⟨#[9, 10]⟩, .string ⟨#[32, 35, 32, 112, 101, 114, 109, 105, 116, 32, 34, 10]⟩, .string ⟨#[13, 10, 10]⟩, .string ⟨#[35, 10]⟩] 9))
          go_roundg (l.length - (k + 1))
          case measure => have := HQ.out; omega
          case rel => exact ⟨k + 1, _, _, by omega, rfl, by go_num, rfl, by rw [HPL.out]; go_num, HSZ.out, by rw [HPL.out]; omega, HST.out.1, HST.out.2.1, HST.out.2.2, HY2, HF3⟩
    · obtain rfl : k = l.length := by omega
      have htl : l.take l.length = l := List.take_length
      rw [htl] at HM HY
      clear htl
      have hlt' : ¬ (l.length : Int) < (l.length : Int) := by omega
      by_cases h2048 : O.size > 2048
      · have l3 : (O.size : Int) > 2048 := by omega
        go_wp2_with fail
        go_ret
        exact ⟨rfl, HF.out⟩
      have l3 : ¬ (O.size : Int) > 2048 := by omega
      obtain ⟨U, hU⟩ : ∃ U, Hid (O ++ ⟨#[32, 35, 101, 110, 100]⟩ = U) := ⟨_, rfl⟩
      have hUs : U.size = O.size + 5 := by rw [← hU.out, ByteArray.size_append]; rfl
      have hUn : nats U = Lex.body ps ++ [32, 35, 101, 110, 100] := by rw [← hU.out, nats_append, HO.out]; rfl
      have hz1 : ¬ 9223372036854775807 < O.size + 5 := by omega
      have HSU := Lib.hid (fun W hW => lex_scan W U (by unfold maxLen; omega) hW)
      have hjl := Lex.join_len l HY.out
      obtain ⟨J, hJ⟩ : ∃ J, Hid (Lex.join l = J) := ⟨_, rfl⟩
      have HJ : Hid (∀ W, Fr [] wr W → Calls Tryd.prog 14 #[.slice A l.length c] W fun e w' => e = .returned (.string J) ∧ Fr [] W w') := fun W hW => by
        have := lex_join_any W A c l (HT.out.fr (HF.out.trans0 hW)) hc (by omega) (fun t ht => ⟨HS.out t ht, HI.out t ht⟩) (by omega) (HL.out.fr (HF.out.trans0 hW) (by simp))
        rwa [hJ.out] at this
      rw [hJ.out] at hjl
      have HSJ := Lib.hid (fun W hW => lex_scan W J (by unfold maxLen; omega) hW)
      have HUS := Lib.hid hUs
      have HUN := Lib.hid hUn
      have HLW : Hid (∀ W, Fr [] wr W → Least W) := fun W hW => HL.out.fr (bs := []) (HF.out.trans0 hW) (by simp)
      clear hUn hUs
      go_wp2_with fail
      have hU' := hU.out
      rw [hU']
      clear hU'
      refine (HSU.out _ (HLW.out _ (Fr.refl _ _))).mono ?_
      rintro e w2 ⟨v1, ev1, rfl, ho1, hev1, hf⟩
      have HF2 := Lib.hid hf
      obtain ⟨P, c1, rfl, hc1, hcm1, hT1⟩ := toks_of_own ho1
      have HEV1 := Lib.hid hev1
      have HT1 := Lib.hid hT1
      clear ho1 hf hev1 hT1
      go_wp2_with fail
      refine (HJ.out _ HF2.out).mono ?_
      rintro e w3 ⟨rfl, hf⟩
      have HF3 := Lib.hid (HF2.out.trans0 hf)
      have HT1 := Lib.hid (HT1.out.fr hf)
      have HEV1 := Lib.hid (HEV1.out.fr hf)
      clear hf
      go_wp2_with fail
      refine (HSJ.out _ (HLW.out _ HF3.out)).mono ?_
      rintro e w4 ⟨v2, ev2, rfl, ho2, hev2, hf⟩
      have HF4 := Lib.hid (HF3.out.trans0 hf)
      have HT1 := Lib.hid (HT1.out.fr hf)
      have HEV1 := Lib.hid (HEV1.out.fr hf)
      obtain ⟨Q, c2, rfl, hc2, hcm2, hT2⟩ := toks_of_own ho2
      have HEV2 := Lib.hid hev2
      have HT2 := Lib.hid hT2
      clear ho2 hf hev2 hT2
      by_cases h5 : O.size + 5 > 2048
      · have l4 : (O.size : Int) + 5 > 2048 := by omega
        go_wp2_with fail
        go_ret
        exact ⟨rfl, HF.out.trans0 HF4.out⟩
      have l4 : ¬ (O.size : Int) + 5 > 2048 := by omega
      by_cases hj5 : J.size > 2048
      · have l5 : (J.size : Int) > 2048 := by omega
        go_wp2_with fail
        refine (HJ.out _ HF4.out).mono ?_
        rintro e w5 ⟨rfl, hf⟩
        have HF5 := Lib.hid (HF4.out.trans0 hf)
        clear hf
        go_wp2_with fail
        go_ret
        exact ⟨rfl, HF.out.trans0 HF5.out⟩
      have l5 : ¬ (J.size : Int) > 2048 := by omega
      have hsu := Lex.scan_seps U ps HPS.out HUN.out (by omega) (by have := HUS.out; omega)
      have htl : (Lex.told l).length = ps.length := by rw [← HM.out, List.length_map]
      have hsj := Lex.scan_join l (by omega) (by rw [hJ.out]; omega)
      rw [hJ.out] at hsj
      have hsame := Lex.toks_same ps (Lex.told l) HM.out ⟨5, ⟨#[]⟩, 0, U.size⟩ ⟨5, ⟨#[]⟩, 0, J.size⟩ rfl 0 0
      obtain ⟨X, hX⟩ : ∃ X, Lex.toksAt 0 ps ++ [(⟨5, ⟨#[]⟩, 0, U.size⟩ : Tk)] = X := ⟨_, rfl⟩
      obtain ⟨Y, hY⟩ : ∃ Y, Lex.toksAt 0 (Lex.pieces (Lex.told l)) ++ [(⟨5, ⟨#[]⟩, 0, J.size⟩ : Tk)] = Y := ⟨_, rfl⟩
      have hXl : X.length = ps.length + 1 := by rw [← hX, List.length_append, Lex.toksAt_length]; rfl
      have hYl : Y.length = ps.length + 1 := by rw [← hY, List.length_append, Lex.toksAt_length, Lex.pieces_len, htl]; rfl
      rw [hX] at hsu hsame
      rw [hY] at hsj hsame
      rw [hsu] at hc1 HT1 HEV1 ⊢
      rw [hsj] at hc2 HT2 HEV2
      simp only [hsj]
      obtain rfl : ev1 = .nilIface := HEV1.out
      obtain rfl : ev2 = .nilIface := HEV2.out
      simp only [] at hc1 hc2 HT1 HT2 ⊢
      rw [hXl] at hc1 ⊢
      rw [hYl] at hc2 ⊢
      have HSAME := Lib.hid hsame
      have HXL := Lib.hid hXl
      unfold maxLen at hcm1 hcm2
      have p1 : (((ps.length + 1 : Nat) : Int) == (ps.length : Int) + 1) = true := beq_iff_eq.2 (by omega)
      have p2 : (((ps.length + 1 : Nat) : Int) != (ps.length : Int) + 1) = false := by simp
      clear hX hY hXl hYl hsame hsu hsj htl
      go_wp2_with fail
      refine (HJ.out _ HF4.out).mono ?_
      rintro e w5 ⟨rfl, hf⟩
      have HF5 := Lib.hid (HF4.out.trans0 hf)
      have HT1 := Lib.hid (HT1.out.fr hf)
      have HT2 := Lib.hid (HT2.out.fr hf)
      clear hf
      go_wp2_with fail
      clear l3 l4 l5 hz1 p1 p2 a1
      have HF5A := Lib.hid (HF.out.trans0 HF5.out)
      go_loopg [14] ps.length (fun q t W => ∃ k : Nat, k ≤ ps.length ∧ q = ps.length - k ∧ t = .int .i64 k ∧ Hid (Fr [] w5 W))
      case atStart => exact ⟨0, by omega, by omega, rfl, Fr.refl _ _⟩
      case round =>
        rename_i wq
        obtain ⟨j, hj, hq, rfl, HG⟩ := hrel
        have HQ2 := Lib.hid hq
        clear hq
        by_cases hjl : j < ps.length
        · have hjl' : (j : Int) < (ps.length : Int) := by omega
          have hj0 : (0 : Int) ≤ (j : Int) := by omega
          have hjc : (j : Int) < ((ps.length : Int) + 1) := by omega
          have hxj : j < X.length := by rw [HXL.out]; omega
          have hgt : (X.map Tk.ti)[j]? = some X[j].ti := by rw [List.getElem?_map, List.getElem?_eq_getElem hxj]; rfl
          obtain ⟨ad, hP, a0, a1, a2, a3⟩ := HT1.out.fr HG.out j _ hgt
          subst hP
          obtain ⟨q, hq⟩ := map_at HSAME.out j _ hgt
          obtain ⟨bd, hQ, b0, b1, b2, b3⟩ := HT2.out.fr HG.out j _ hq
          subst hQ
          obtain ⟨⟨tk, ts, tn, tp⟩, htk⟩ : ∃ t, X[j] = t := ⟨_, rfl⟩
          rw [htk] at a0 a1 a2 a3
          simp only [htk] at b0 b1 b2 b3
          simp only [Tk.ti] at a0 a1 a2 a3 b0 b1 b2
          clear htk hq hgt hxj
          go_wp2_with fail
          go_quiet (fail)
          refine then_fresh (fun W => Fr [] w5 W) (HG.out.drewN _) ?_
          intro W1 hf1
          have HG1 := Lib.hid hf1
          clear hf1 a0 a1 a2 a3 b0 b1 b2 b3
          go_wp2_with fail
          go_roundg (ps.length - (j + 1))
          case measure => have := HQ2.out; omega
          case rel => exact ⟨j + 1, by omega, rfl, by go_num, HG1⟩
        · obtain rfl : j = ps.length := by omega
          go_wp2_with fail
          go_ret
          exact ⟨rfl, HF5A.out.trans0 HG.out⟩
end Go.Proofs.YtgklmpooonnmiaaDoor
