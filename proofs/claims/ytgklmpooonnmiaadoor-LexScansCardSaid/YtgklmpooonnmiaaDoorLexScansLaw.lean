/-
  Lemmas and contracts that the proofs over this seat use (part LexScansLaw); no statement of the seat is claimed in this text, and nothing is assumed in it.
-/
import Derived.Test.YtgklmpooonnmiaaDoorRefScan
import Derived.Test.YtgklmpooonnmiaaDoorRefSame
import Derived.Test.YtgklmpooonnmiaaDoorLexScan
import Derived.Test.YtgklmpooonnmiaaDoorNum
set_option linter.unusedVariables false
set_option linter.unusedSimpArgs false
namespace Go.Proofs.YtgklmpooonnmiaaDoor
open Go.RowKit
set_option maxHeartbeats 4000000 in
set_option maxRecDepth 100000 in
theorem scans_law (w : World) (s : ByteArray) (hs : s.size ≤ maxLen) (hL : Least w) (hE : ErrT w) (hlt : 0 < w.heap.size) :
    Calls Tryd.prog 6 #[.string s] w fun e w' => e = .returned (.bool true) ∧ Fr [] w w' := by
  have HL := Lib.hid hL
  have HE := Lib.hid hE
  have HLT := Lib.hid hlt
  have HAL := Lib.hid (lex_alive w hL)
  clear hL hE hlt
  by_cases h3000 : s.size > 3000
  · have a2 : (s.size : Int) > 3000 := by omega
    go_enter Tryd.func6, Tryd.ntmps6
    go_wp2_with fail
    refine HAL.out.mono ?_
    rintro e w1 ⟨rfl, hF⟩
    have HF := Lib.hid hF
    clear hF
    go_wp2_with fail
    go_ret
    exact ⟨rfl, HF.out⟩
  have a2 : ¬ (s.size : Int) > 3000 := by omega
  go_enter Tryd.func6, Tryd.ntmps6
  go_wp2_with fail
  refine HAL.out.mono ?_
  rintro e w1 ⟨rfl, hF⟩
  have HF := Lib.hid hF
  clear hF
  go_wp2_with fail
  refine (lex_scan w1 s hs (HL.out.fr HF.out (by simp))).mono ?_
  rintro e w2 ⟨v, ev, rfl, ho, hev, hf⟩
  have HF2 := Lib.hid (HF.out.trans0 hf)
  have HEV := Lib.hid hev
  obtain ⟨A, c, rfl, hc, hcm, hT⟩ := toks_of_own ho
  have HT := Lib.hid hT
  clear ho hev hf hT
  go_wp2_with fail
  refine (ref_scan w2 s hs).mono ?_
  rintro e w3 ⟨v, rfl, ho, hf⟩
  obtain ⟨B, d, rfl, hd, hdm, hT⟩ := toks_of_own ho
  have HF3 := Lib.hid (HF2.out.trans0 hf)
  have HT1 := Lib.hid (HT.out.fr hf)
  have HEV3 := Lib.hid (HEV.out.fr hf)
  have HT2 := Lib.hid hT
  clear ho hf hT HT HEV
  obtain ⟨⟨E, L⟩, hR⟩ : ∃ R, Lex.scan s = R := ⟨_, rfl⟩
  simp only [hR] at hc hcm hd hdm HT1 HT2 HEV3 ⊢
  clear hR
  have n0 : (E.num == E.num) = true := beq_iff_eq.2 rfl
  have p0 : (E.pos == E.pos) = true := beq_iff_eq.2 rfl
  go_wp2_with fail
  refine (law_num w3 _ E ev HEV3.out (HE.out.fr HLT.out HF3.out (by simp)) (Nat.lt_of_lt_of_le HLT.out HF3.out.size)).mono ?_
  rintro e w4 ⟨rfl, hf⟩
  have HF4 := Lib.hid (HF3.out.trans0 hf)
  have HEV4 := Lib.hid (HEV3.out.fr hf)
  have HT1 := Lib.hid (HT1.out.fr hf)
  have HT2 := Lib.hid (HT2.out.fr hf)
  clear hf
  go_wp2_with fail
  refine (law_pos w4 _ E ev HEV4.out (HE.out.fr HLT.out HF4.out (by simp)) (Nat.lt_of_lt_of_le HLT.out HF4.out.size)).mono ?_
  rintro e w5 ⟨rfl, hf⟩
  have HF5 := Lib.hid (HF4.out.trans0 hf)
  have HT1 := Lib.hid (HT1.out.fr hf)
  have HT2 := Lib.hid (HT2.out.fr hf)
  clear hf
  go_wp2_with fail
  have hSM := ref_same_eq w5 A B c d (L.map Tk.ti) HT1.out HT2.out (by simpa using hc) (by simpa using hd) (by simp; omega)
  rw [List.length_map] at hSM
  refine hSM.mono ?_
  rintro e w6 ⟨rfl, hf⟩
  have HF6 := Lib.hid (HF5.out.trans0 hf)
  clear hf
  go_wp2_with fail
  go_ret
  exact ⟨rfl, HF6.out⟩
end Go.Proofs.YtgklmpooonnmiaaDoor
