/-
  Lemmas and contracts that the proofs over this seat use (part LexBackLaw); no statement of the seat is claimed in this text, and nothing is assumed in it.
-/
import Derived.Test.YtgklmpooonnmiaaDoorLexBackP4
import Derived.Test.YtgklmpooonnmiaaDoorLexAlive
import Derived.BigQuiet
set_option linter.unusedVariables false
set_option linter.unusedSimpArgs false
namespace Go.Proofs.YtgklmpooonnmiaaDoor
open Go.RowKit
theorem map_at {L M : List Tk} (h : M.map (fun t => (t.k, t.s, t.n)) = L.map (fun t => (t.k, t.s, t.n))) (i : Nat) (t : TI) (ht : (L.map Tk.ti)[i]? = some t) : ∃ q : Nat, (M.map Tk.ti)[i]? = some ⟨t.k, t.s, t.n, q⟩ := by
  rw [List.getElem?_map] at ht ⊢
  obtain ⟨u, hu, rfl⟩ := Option.map_eq_some_iff.1 ht
  have h2 := congrArg (fun l => l[i]?) h
  simp only [List.getElem?_map, hu, Option.map_some] at h2
  obtain ⟨v, hv, he⟩ := Option.map_eq_some_iff.1 h2
  rw [hv]
  simp only [Prod.mk.injEq] at he
  refine ⟨v.p, ?_⟩
  simp only [Option.map_some, Tk.ti]
  rw [he.1, he.2.1, he.2.2]
theorem fits_of {s : ByteArray} {R : List Tk} (h : Lex.scan s = (.ok, R)) : ∀ t ∈ R.map Tk.ti, t.fits := by
  intro t ht
  obtain ⟨u, hu, rfl⟩ := List.mem_map.1 ht
  obtain ⟨L, hR, hg, _, _⟩ := Lex.scan_good s R h
  rw [hR] at hu
  rcases List.mem_append.1 hu with hu | hu
  · have g := hg u hu
    have h1 := g.sz
    have h2 := g.lo
    have h3 := g.hi
    exact ⟨by show u.s.size ≤ 3000; omega, by show -9223372036854775808 ≤ u.n; omega, by show u.n ≤ 9223372036854775807; omega⟩
  · simp at hu; subst hu
    exact ⟨Nat.zero_le _, by show (-9223372036854775808 : Int) ≤ 0; decide, by show (0 : Int) ≤ 9223372036854775807; decide⟩
theorem len_of {s : ByteArray} {R : List Tk} (h : Lex.scan s = (.ok, R)) : R.length ≤ 513 := by
  obtain ⟨L, hR, _, _, hl⟩ := Lex.scan_good s R h
  rw [hR]; simp; omega
set_option maxHeartbeats 8000000 in
set_option maxRecDepth 100000 in
theorem back_law (w : World) (s : ByteArray) (hs : s.size ≤ maxLen) (hL : Least w) :
    Calls Tryd.prog 4 #[.string s] w fun e w' => e = .returned (.bool true) ∧ Fr [] w w' := by
  have HL := Lib.hid hL
  have HAL := Lib.hid (lex_alive w hL)
  have hu := Tryd.underlying25
  clear hL
  go_enter Tryd.func4, Tryd.ntmps4
  go_wp2_with fail
  refine HAL.out.mono ?_
  rintro e w1 ⟨rfl, hF⟩
  have HF := Lib.hid hF
  clear hF
  go_wp2_with fail
  refine (lex_scan w1 s hs (HL.out.fr HF.out (by simp))).mono ?_
  rintro e w2 ⟨v, ev, rfl, ho, hev, hf⟩
  have HF2 := Lib.hid (HF.out.trans0 hf)
  obtain ⟨A, c, rfl, hc, hcm, hT⟩ := toks_of_own ho
  have HT := Lib.hid hT
  clear ho hf hT
  obtain ⟨⟨E, R⟩, hR⟩ : ∃ R, Lex.scan s = R := ⟨_, rfl⟩
  simp only [hR] at hc hcm HT hev ⊢
  have HR := Lib.hid hR
  clear hR
  cases E
  case no n =>
    obtain rfl := hev
    have hr0 : R = [] := Lex.scan_err s R _ HR.out (by simp)
    subst hr0
    go_wp2_with fail
    go_ret
    exact ⟨rfl, HF2.out⟩
  case pl p n =>
    obtain ⟨b, hb, rfl, hrow⟩ := hev
    have hr0 : R = [] := Lex.scan_err s R _ HR.out (by simp)
    subst hr0
    clear hrow hb
    go_wp2_with fail
    go_ret
    exact ⟨rfl, HF2.out⟩
  obtain rfl := hev
  have hlen := len_of HR.out
  have HFT := Lib.hid (fits_of HR.out)
  have hjs := Lex.join_size (R.map Tk.ti) HFT.out
  rw [List.length_map] at hjs
  have HJ : Hid (∀ W, Fr [] w2 W → Calls Tryd.prog 14 #[.slice A R.length c] W fun e w' => e = .returned (.string (Lex.join (R.map Tk.ti))) ∧ Fr [] W w') := fun W hW => by
    have := lex_join W A c (R.map Tk.ti) (HT.out.fr hW) (by simpa using hc) (by simp; omega) HFT.out (by omega) (HL.out.fr (HF2.out.trans0 hW) (by simp))
    rwa [List.length_map] at this
  obtain ⟨J, hJ⟩ : ∃ J, Hid (Lex.join (R.map Tk.ti) = J) := ⟨_, rfl⟩
  simp only [hJ.out] at HJ
  rw [hJ.out] at hjs
  by_cases hlong : J.size > 2048
  · have l1 : (J.size : Int) > 2048 := by omega
    go_wp2_with fail
    refine (HJ.out _ (Fr.refl _ _)).mono ?_
    rintro e w3 ⟨rfl, hf⟩
    have HF3 := Lib.hid (HF2.out.trans0 hf)
    clear hf
    go_wp2_with fail
    go_ret
    exact ⟨rfl, HF3.out⟩
  have l1 : ¬ (J.size : Int) > 2048 := by omega
  obtain ⟨M, hM, hMap, hMJ⟩ := Lex.scan_back s R HR.out (by rw [hJ.out]; omega)
  rw [hJ.out] at hM hMJ
  have HMP := Lib.hid hMap
  have HMM := Lib.hid hM
  have HMJ := Lib.hid hMJ
  have hml : M.length = R.length := by have := congrArg List.length hMap; simpa using this
  have HML := Lib.hid hml
  have HSC := Lib.hid (fun W hW => lex_scan W J (by unfold maxLen; omega) hW)
  rw [hM] at HSC
  clear hM hMap hMJ hml
  go_wp2_with fail
  refine (HJ.out _ (Fr.refl _ _)).mono ?_
  rintro e w3 ⟨rfl, hf⟩
  have HF3 := Lib.hid (HF2.out.trans0 hf)
  have HT3 := Lib.hid (HT.out.fr hf)
  clear hf
  go_wp2_with fail
  refine (HSC.out _ (HL.out.fr HF3.out (by simp))).mono ?_
  rintro e w4 ⟨v2, ev2, rfl, ho, hev2, hf⟩
  obtain rfl : ev2 = .nilIface := hev2
  obtain ⟨B, d, rfl, hd, hdm, hT4⟩ := toks_of_own ho
  have HF4 := Lib.hid (HF3.out.trans0 hf)
  have HT4 := Lib.hid (HT3.out.fr hf)
  have HU4 := Lib.hid hT4
  rw [HML.out] at hd ⊢
  have q0 : ((R.length : Int) == (R.length : Int)) = true := beq_iff_eq.2 rfl
  have q1 : (R.length == R.length) = true := beq_iff_eq.2 rfl
  have q2 : (R.length != R.length) = false := by simp
  have q3 : ((R.length : Int) != (R.length : Int)) = false := by simp
  clear ho hf hT4 HT3 HSC
  unfold maxLen at hcm hdm
  go_wp2_with fail
  go_loopg [8] R.length (fun q t W => ∃ k : Nat, k ≤ R.length ∧ q = R.length - k ∧ t = .int .i64 k ∧ Hid (Fr [] w4 W))
  case atStart => exact ⟨0, by omega, by omega, rfl, Fr.refl _ _⟩
  case round =>
    obtain ⟨k, hk, hq, rfl, HF⟩ := hrel
    have HQ := Lib.hid hq
    clear hq
    by_cases hlt : k < R.length
    · have hlt' : (k : Int) < (R.length : Int) := by omega
      have hk0 : (0 : Int) ≤ (k : Int) := by omega
      have hgr : R[k]? = some R[k] := List.getElem?_eq_getElem hlt
      have hgt : (R.map Tk.ti)[k]? = some R[k].ti := by rw [List.getElem?_map, hgr]; rfl
      obtain ⟨ad, rfl, a0, a1, a2, a3⟩ := HT4.out.fr HF.out k _ hgt
      obtain ⟨q, hq⟩ := map_at HMP.out k _ hgt
      obtain ⟨bd, rfl, b0, b1, b2, b3⟩ := HU4.out.fr HF.out k _ hq
      simp only [] at b0 b1 b2 b3
      have hinc : ∀ j, (hj : j + 1 < R.length) → (R[j]).p ≤ (R[j + 1]).p := fun j hj => by
        obtain ⟨L, _, _, hI, _⟩ := Lex.scan_good s R HR.out
        exact hI.at_ j hj
      have HINC := Lib.hid hinc
      obtain ⟨⟨tk, ts, tn, tp⟩, htk⟩ : ∃ t, R[k] = t := ⟨_, rfl⟩
      rw [htk] at a0 a1 a2 a3 b0 b1 b2
      simp only [Tk.ti] at a0 a1 a2 a3 b0 b1 b2
      have HTK := Lib.hid htk
      clear htk hq hgt hgr hinc
      by_cases hz : k = 0
      · have z1 : ¬ (k : Int) > 0 := by omega
        have z2 : decide ((k : Int) > 0) = false := decide_eq_false z1
        have z3 : decide (0 < (k : Int)) = false := z2
        have z4 : decide (0 < k) = false := decide_eq_false (by omega)
        clear hz
        go_wp2_with fail
        go_quiet (fail)
        refine then_fresh (fun W => Fr [] w4 W) (HF.out.drewN _) ?_
        intro W1 hf1
        have HF1 := Lib.hid hf1
        clear hf1 a0 a1 a2 a3 b0 b1 b2 b3
        go_wp2_with fail
        go_roundg (R.length - (k + 1))
        case measure => have := HQ.out; omega
        case rel => exact ⟨k + 1, by omega, rfl, by go_num, HF1⟩
      · obtain ⟨j, rfl⟩ : ∃ j, k = j + 1 := ⟨k - 1, by omega⟩
        have hjl : j < R.length := by omega
        have hgr : R[j]? = some R[j] := List.getElem?_eq_getElem hjl
        have hgt : (R.map Tk.ti)[j]? = some R[j].ti := by rw [List.getElem?_map, hgr]; rfl
        obtain ⟨ad2, had, _, _, _, c3⟩ := HT4.out.fr HF.out j _ hgt
        cases had
        have hle := HINC.out j hlt
        rw [HTK.out] at hle
        simp only [Tk.ti] at c3
        obtain ⟨sp, hsp⟩ : ∃ sp, (R[j]).p = sp := ⟨_, rfl⟩
        rw [hsp] at c3 hle
        simp only [] at hle
        have l2 : ¬ (tp : Int) < (sp : Int) := by omega
        have l3 : decide ((tp : Int) < (sp : Int)) = false := decide_eq_false l2
        have g1 : ((j + 1 : Nat) : Int) = (j : Int) + 1 := by omega
        simp only [g1]
        rw [g1] at hlt' hk0
        have g2 : (j : Int) + 1 > 0 := by omega
        have g3 : IntKind.i64.wrap ((j : Int) + 1 - 1) = (j : Int) := by rw [IntWalk.i64_in _ (by omega)]; omega
        have g4 : (j : Int) + 1 - 1 = (j : Int) := by omega
        have g5 : (j : Int) < (R.length : Int) := by omega
        have g6 : (0 : Int) ≤ (j : Int) := by omega
        have g7 : ((j : Int) + 1).toNat = j + 1 := by omega
        have g8 : decide ((j : Int) + 1 > 0) = true := decide_eq_true g2
        clear hsp hgr hgt hle hz g1
        go_wp2_with fail
        go_quiet (fail)
        refine then_fresh (fun W => Fr [] w4 W) (HF.out.drewN _) ?_
        intro W1 hf1
        have HF1 := Lib.hid hf1
        clear hf1 a0 a1 a2 a3 b0 b1 b2 b3 c3
        go_wp2_with fail
        go_roundg (R.length - (j + 1 + 1))
        case measure => have := HQ.out; omega
        case rel => exact ⟨j + 1 + 1, by omega, rfl, by go_num, HF1⟩
    · obtain rfl : k = R.length := by omega
      have HJ2 : Calls Tryd.prog 14 #[.slice B R.length d] wr fun e w' => e = .returned (.string J) ∧ Fr [] wr w' := by
        have hfm : ∀ t ∈ M.map Tk.ti, t.fits := fits_of HMM.out
        have := lex_join wr B d (M.map Tk.ti) (HU4.out.fr HF.out) (by rw [List.length_map, HML.out]; exact hd) (by rw [List.length_map, HML.out]; omega) hfm (by rw [HMJ.out]; omega) (HL.out.fr (HF4.out.trans0 HF.out) (by simp))
        rwa [List.length_map, HML.out, HMJ.out] at this
      have HJJ := Lib.hid HJ2
      clear HJ2
      go_wp2_with fail
      refine HJJ.out.mono ?_
      rintro e w6 ⟨rfl, hf⟩
      have HF6 := Lib.hid ((HF4.out.trans0 HF.out).trans0 hf)
      clear hf
      go_wp2_with fail
      go_ret
      exact ⟨by simp, HF6.out⟩
end Go.Proofs.YtgklmpooonnmiaaDoor
