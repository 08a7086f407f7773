/-
  Lemmas and contracts that the proofs over this seat use (part LexSpellsLaw); no statement of the seat is claimed in this text, and nothing is assumed in it.
-/
import Derived.Test.YtgklmpooonnmiaaDoorRefJoin
import Derived.Test.YtgklmpooonnmiaaDoorRefQuote
import Derived.Deep.RegionHeld3
import Derived.Test.YtgklmpooonnmiaaDoorToksOpen
set_option linter.unusedVariables false
set_option linter.unusedSimpArgs false
namespace Go.Proofs.YtgklmpooonnmiaaDoor
open Go.RowKit
set_option maxHeartbeats 4000000 in
set_option maxRecDepth 100000 in
theorem spells_law (w : World) (A : Option Addr) (c : Nat) (l : List TI) (s : ByteArray) (hT : Toks w A l) (hc : l.length ≤ c) (hi : ∀ t ∈ l, t.ints) (hw : ∀ t ∈ l, t.s.size ≤ maxLen) (hL : Least w) (hcm : c ≤ maxLen) :
    Calls Tryd.prog 3 #[.slice A l.length c, .string s] w fun e w' => e = .returned (.bool true) ∧ Fr [] w w' := by
  have hu := Tryd.underlying25
  have HT := Lib.hid hT
  have HI := Lib.hid hi
  have HW := Lib.hid hw
  have HL := Lib.hid hL
  have HAL := Lib.hid (lex_alive w hL)
  clear hT hi hL hw
  by_cases h600 : l.length > 600
  · have a1 : (l.length : Int) > 600 := by omega
    go_enter Tryd.func3, Tryd.ntmps3
    go_wp2_with fail
    refine HAL.out.mono ?_
    rintro e w1 ⟨rfl, hF⟩
    have HF := Lib.hid hF
    clear hF
    go_wp2_with fail
    go_ret
    exact ⟨rfl, HF.out⟩
  have a1 : ¬ (l.length : Int) > 600 := by omega
  by_cases h3000 : s.size > 3000
  · have a2 : (s.size : Int) > 3000 := by omega
    go_enter Tryd.func3, Tryd.ntmps3
    go_wp2_with fail
    refine HAL.out.mono ?_
    rintro e w1 ⟨rfl, hF⟩
    have HF := Lib.hid hF
    clear hF
    go_wp2_with fail
    go_ret
    exact ⟨rfl, HF.out⟩
  have a2 : ¬ (s.size : Int) > 3000 := by omega
  have hl6 : l.length ≤ 600 := by omega
  have hs3 : s.size ≤ 3000 := by omega
  go_enter Tryd.func3, Tryd.ntmps3
  go_wp2_with fail
  refine HAL.out.mono ?_
  rintro e w1 ⟨rfl, hF⟩
  have HF0 := Lib.hid hF
  clear hF
  go_wp2_with fail
  go_loopg [5] l.length (fun q t W => ∃ k : Nat, k ≤ l.length ∧ q = l.length - k ∧ t = .int .i64 k ∧ Hid (Fr [] w W) ∧ Hid (∀ j < k, ∀ t, l[j]? = some t → t.fits))
  case atStart => exact ⟨0, by omega, by omega, rfl, HF0.out, fun j hj => by omega⟩
  case round =>
    clear HF0
    obtain ⟨k, hk, hq, rfl, HF, HFT⟩ := hrel
    have HQ := Lib.hid hq
    clear hq
    by_cases hlt : k < l.length
    · have hlt' : (k : Int) < (l.length : Int) := by omega
      have hk0 : (0 : Int) ≤ (k : Int) := by omega
      obtain ⟨t, ht⟩ : ∃ t, l[k]? = some t := ⟨_, List.getElem?_eq_getElem hlt⟩
      obtain ⟨ad, rfl, c0, c1, c2, c3⟩ := HT.out.fr HF.out k t ht
      have hti := HI.out t (List.mem_of_getElem? ht)
      have htw := HW.out t (List.mem_of_getElem? ht)
      unfold maxLen at htw
      by_cases hts : t.s.size ≤ 3000
      · have hts' : ¬ (t.s.size : Int) > 3000 := by omega
        have HFN : Hid (∀ j < k + 1, ∀ t, l[j]? = some t → t.fits) := by
          intro j hj u hu
          by_cases h : j < k
          · exact HFT.out j h u hu
          · obtain rfl : j = k := by omega
            rw [ht] at hu
            cases hu
            exact ⟨hts, hti⟩
        obtain ⟨y, hy⟩ : ∃ y, Lex.spell t.k t.s t.n = y := ⟨_, rfl⟩
        have HSL : Hid (∀ W, Least W → Calls Tryd.prog 10 #[.agg #[.int .i64 t.k, .string t.s, .int .i64 t.n, .int .i64 t.p]] W fun e w' => e = .returned (.string y) ∧ Fr [] W w') := fun W hW => by
          rw [← hy]; exact lex_spell W t.k t.s t.n t.p (by omega) hti hW
        have HSR : Hid (∀ W, Calls Tryd.prog 11 #[.agg #[.int .i64 t.k, .string t.s, .int .i64 t.n, .int .i64 t.p]] W fun e w' => e = .returned (.string y) ∧ Fr [] W w') := fun W => by
          rw [← hy]; exact ref_spell W t.k t.s t.n t.p (by omega) hti
        have HLA : Hid (∀ W, Fr [] wr W → Least W) := fun W h => HL.out.fr (bs := []) (HF.out.trans0 h) (by simp)
        clear hy hti
        go_wp2_with fail
        go_region_held3 (fun W' => W'.cell? (ad.add (k * 4)) = some (.int .i64 t.k) ∧ W'.cell? ⟨(ad.add (k * 4)).block, (ad.add (k * 4)).off + 1, none⟩ = some (.string t.s) ∧ W'.cell? ⟨(ad.add (k * 4)).block, (ad.add (k * 4)).off + 2, none⟩ = some (.int .i64 t.n) ∧ W'.cell? ⟨(ad.add (k * 4)).block, (ad.add (k * 4)).off + 3, none⟩ = some (.int .i64 t.p))
          (first | go_keep | exact ⟨hFb.cells (hFa.cells (show _ from c0)), hFb.cells (hFa.cells (show _ from c1)), hFb.cells (hFa.cells (show _ from c2)), hFb.cells (hFa.cells (show _ from c3))⟩ | exact ⟨hFa.cells (show _ from c0), hFa.cells (show _ from c1), hFa.cells (show _ from c2), hFa.cells (show _ from c3)⟩)
          (first
            | (go_at_call 10; refine (HSL.out _ (by first | exact HLA.out _ (Fr.refl _ _) | exact HLA.out _ (Fr.refl _ _).drew | exact HLA.out _ hFb | exact HLA.out _ ((Fr.refl _ _).drew.trans0 hFb))).mono ?_; rintro e w2 ⟨rfl, hFa⟩)
            | (go_at_call 11; refine (HSR.out _).mono ?_; rintro e w2 ⟨rfl, hFb⟩))
        have HF2 := Lib.hid ((HF.out.drew.trans0 hFa).trans0 hFb)
        clear hFa hFb HSL HSR HLA c0 c1 c2 c3
        go_wp2_with fail
        go_roundg (l.length - (k + 1))
        case measure => have := HQ.out; omega
        case rel => exact ⟨k + 1, by omega, rfl, by go_num, HF2.out, HFN.out⟩
      · have hts' : (t.s.size : Int) > 3000 := by omega
        go_wp2_with fail
        go_ret
        exact ⟨rfl, HF.out⟩
    · obtain rfl : k = l.length := by omega
      have HFT2 : Hid (∀ t ∈ l, t.fits) := by
        intro t ht
        obtain ⟨j, hj, rfl⟩ := List.mem_iff_getElem.1 ht
        exact HFT.out j hj _ (List.getElem?_eq_getElem hj)
      have hjs := Lex.join_size l HFT2.out
      have HLA : Hid (∀ W, Fr [] wr W → Least W) := fun W h => HL.out.fr (bs := []) (HF.out.trans0 h) (by simp)
      have HTA : Hid (∀ W, Fr [] wr W → Toks W A l) := fun W h => HT.out.fr (HF.out.trans0 h)
      obtain ⟨J, hJ⟩ : ∃ J, Lex.join l = J := ⟨_, rfl⟩
      obtain ⟨Q, hQ⟩ : ∃ Q, ba ((Lex.quote s).getD []) = Q := ⟨_, rfl⟩
      obtain ⟨b, hb⟩ : ∃ b, (Lex.quote s).isSome = b := ⟨_, rfl⟩
      have HQL : Hid (∀ W, Least W → Calls Tryd.prog 12 #[.string s] W fun e w' => e = .returned (.tuple #[.string Q, .bool b]) ∧ Fr [] W w') := fun W hW => by
        rw [← hQ, ← hb]; exact lex_quote W s (by omega) hW
      have HQR : Hid (∀ W, Calls Tryd.prog 13 #[.string s] W fun e w' => e = .returned (.tuple #[.string Q, .bool b]) ∧ Fr [] W w') := fun W => by
        rw [← hQ, ← hb]; exact ref_quote W s (by omega)
      have HJL : Hid (∀ W, Fr [] wr W → Calls Tryd.prog 14 #[.slice A l.length c] W fun e w' => e = .returned (.string J) ∧ Fr [] W w') := fun W hW => by
        rw [← hJ]; exact lex_join W A c l (HTA.out W hW) hc (by omega) HFT2.out (by omega) (HLA.out W hW)
      have HJR : Hid (∀ W, Fr [] wr W → Calls Tryd.prog 15 #[.slice A l.length c] W fun e w' => e = .returned (.string J) ∧ Fr [] W w') := fun W hW => by
        rw [← hJ]; exact ref_join W A c l (HTA.out W hW) hc (by omega) HFT2.out
      clear hJ hQ hb hjs
      go_wp2_with fail
      refine (HQL.out _ (HLA.out _ (Fr.refl _ _))).mono ?_
      rintro e w1 ⟨rfl, hF1⟩
      have HF1 := Lib.hid hF1
      clear hF1
      go_wp2_with fail
      refine (HQR.out _).mono ?_
      rintro e w2 ⟨rfl, hF2⟩
      have HF2 := Lib.hid (HF1.out.trans0 hF2)
      clear hF2
      go_wp2_with fail
      refine (HJL.out _ HF2.out).mono ?_
      rintro e w3 ⟨rfl, hF3⟩
      have HF3 := Lib.hid (HF2.out.trans0 hF3)
      clear hF3
      go_wp2_with fail
      refine (HJR.out _ HF3.out).mono ?_
      rintro e w4 ⟨rfl, hF4⟩
      have HF4 := Lib.hid (HF3.out.trans0 hF4)
      clear hF4
      go_wp2_with fail
      go_ret
      exact ⟨by simp, HF.out.trans0 HF4.out⟩
end Go.Proofs.YtgklmpooonnmiaaDoor
