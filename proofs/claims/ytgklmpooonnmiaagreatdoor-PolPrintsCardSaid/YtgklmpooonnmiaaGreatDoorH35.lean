/-
  Lemmas and contracts that the proofs over this seat use (PolPrintsLaw, Laid2); no statement of the seat is claimed in this text, and nothing is assumed in it.
-/
import Derived.Test.YtgklmpooonnmiaaGreatDoorH15
import Derived.Test.YtgklmpooonnmiaaGreatDoorH18
import Derived.Test.YtgklmpooonnmiaaGreatDoorH24
import Derived.Test.YtgklmpooonnmiaaGreatDoorH31
import Derived.Test.YtgklmpooonnmiaaGreatDoorH32
import Derived.Test.YtgklmpooonnmiaaGreatDoorH34
import Derived.Test.YtgklmpooonnmiaaGreatDoorH33
import Derived.LaidHandle
set_option linter.unusedVariables false
set_option linter.unusedSimpArgs false
namespace Go.Proofs.YtgklmpooonnmiaaGreatDoor
open Go.RowKit
set_option maxHeartbeats 8000000 in
set_option maxRecDepth 100000 in
theorem prints_law (w : World) (q : Option Addr) (c : Nat) (f : Nat → List Value) (L : List Ru) (h : RsA w q c f L) (hL : Least w) (hE : ErrT w) (hlt : 0 < w.heap.size) :
  Calls Tryz.prog 4 #[.slice q L.length c] w fun e w' => e = .returned (.bool true) ∧ Fr [] w w' := by
 have HA := Lib.hid (pol_alive w hL)
 have HL := Lib.hid h
 have HLE := Lib.hid hL
 have HET := Lib.hid hE
 have HLT := Lib.hid hlt
 clear h hL hE hlt
 go_enter Tryz.func4, Tryz.ntmps4
 go_wp2_with fail
 refine HA.out.mono ?_
 rintro e w1 ⟨rfl, hF⟩
 have HF := Lib.hid hF
 have H1 := Lib.hid (HL.out.fr hF)
 clear hF HA HL
 have HG := Lib.hid (ref_Great w1 q c f L H1.out)
 obtain ⟨z, hz⟩ : ∃ z, Ru.great L = z := ⟨_, rfl⟩
 rw [hz] at HG
 cases z with
 | true =>
  go_wp2_with fail
  refine HG.out.mono ?_
  rintro e w2 ⟨rfl, rfl⟩
  go_wp2_with fail
  go_ret
  exact ⟨rfl, HF.out⟩
 | false =>
  have HW := Lib.hid (Ru.great_wt hz)
  clear hz
  go_wp2_with fail
  refine HG.out.mono ?_
  rintro e w2 ⟨rfl, rfl⟩
  clear HG
  have HLE1 := Lib.hid (HLE.out.fr HF.out (by simp))
  cases hr : Ru.rights L with
  | false =>
   have HC := Lib.hid (pol_Print_no w1 q c f L H1.out HW.out.2.1 HLE1.out hr)
   have HR := Lib.hid hr
   clear hr
   go_wp2_with fail
   refine HC.out.mono ?_
   rintro e w2 ⟨v, rfl, hv, hF⟩
   have HV := Lib.hid hv
   have HF2 := Lib.hid (HF.out.trans0 hF)
   have H2 := Lib.hid (H1.out.fr hF)
   have HC2 := Lib.hid (ref_Right w2 q c f L H2.out HW.out.2.1)
   rw [HR.out] at HC2
   clear hv hF HC H1
   go_wp2_with fail
   refine HC2.out.mono ?_
   rintro e w3 ⟨rfl, hF⟩
   have HV3 := Lib.hid (HV.out.fr hF)
   have HF3 := Lib.hid (HF2.out.trans0 hF)
   have H3 := Lib.hid (H2.out.fr hF)
   clear hF HC2 H2 HV HF2
   have HLT3 := Lib.hid (Nat.lt_of_lt_of_le HLT.out HF3.out.size)
   have HNU := Lib.hid (law_num w3 _ (.no 1) v HV3.out (HET.out.fr HLT.out HF3.out (by simp)) HLT3.out)
   go_wp2_with fail
   refine HNU.out.mono ?_
   rintro e w4 ⟨rfl, hF⟩
   have HF4 := Lib.hid (HF3.out.trans0 hF)
   have H4 := Lib.hid (H3.out.fr hF)
   clear hF HNU H3 HV3
   have e1 : Er.num (.no 1) = 1 := rfl
   rw [e1]
   have HC4 := Lib.hid (pol_Right w4 q c f L H4.out HW.out.2.1 (HLE.out.fr HF4.out (by simp)))
   rw [HR.out] at HC4
   go_wp2_with fail
   refine HC4.out.mono ?_
   rintro e w5 ⟨rfl, hF⟩
   have HF5 := Lib.hid (HF4.out.trans0 hF)
   clear hF HC4
   go_wp2_with fail
   refine bodyPost_ret (results_tmp rfl _ _ _) rfl ?_
   exact ⟨rfl, HF5.out⟩
  | true =>
   have HLN := Lib.hid (HW.out.2.2 hr)
   have HC := Lib.hid (pol_Print_yes w1 q c f L H1.out HW.out.2.1 HLE1.out hr HLN.out)
   have HR := Lib.hid hr
   obtain ⟨T, hT⟩ : ∃ T, ba (Pol.text L) = T := ⟨_, rfl⟩
   rw [hT] at HC
   clear hr
   go_wp2_with fail
   refine HC.out.mono ?_
   rintro e w2 ⟨rfl, hF⟩
   have HF2 := Lib.hid (HF.out.trans0 hF)
   have H2 := Lib.hid (H1.out.fr hF)
   have HC2 := Lib.hid (ref_Right w2 q c f L H2.out HW.out.2.1)
   rw [HR.out] at HC2
   clear hF HC H1
   go_wp2_with fail
   refine HC2.out.mono ?_
   rintro e w3 ⟨rfl, hF⟩
   have HF3 := Lib.hid (HF2.out.trans0 hF)
   have H3 := Lib.hid (H2.out.fr hF)
   clear hF HC2 H2 HF2
   have HC3 := Lib.hid (pol_Right w3 q c f L H3.out HW.out.2.1 (HLE.out.fr HF3.out (by simp)))
   rw [HR.out] at HC3
   go_wp2_with fail
   refine HC3.out.mono ?_
   rintro e w4 ⟨rfl, hF⟩
   have HF4 := Lib.hid (HF3.out.trans0 hF)
   have H4 := Lib.hid (H3.out.fr hF)
   clear hF HC3 H3
   have HC4 := Lib.hid (ref_PrintL w4 q c f L H4.out HW.out.2.1 HR.out HLN.out)
   rw [hT] at HC4
   clear hT
   go_wp2_with fail
   refine HC4.out.mono ?_
   rintro e w5 ⟨rfl, hF⟩
   have HF5 := Lib.hid (HF4.out.trans0 hF)
   clear hF HC4
   go_wp2_with fail
   refine bodyPost_ret (results_tmp rfl _ _ _) rfl ?_
   exact ⟨by simp, HF5.out⟩
end Go.Proofs.YtgklmpooonnmiaaGreatDoor

namespace Go.Proofs.YtgklmpooonnmiaaGreatDoor
open Go.ChangeShapes Go.WideShapes Go.ChangeAt Go.RowKit
theorem gErrT : Tryz.prog.globalNamed "errors.errorType" = some 0 := by kernel_rfl
theorem rtRow : (Tryz.prog.cutTypes.find? (·.1 == "internal/reflectlite.rtype")).map (·.2) = some 137 := by kernel_rfl
theorem oneRow : ((List.range 189).filter fun t => Tryz.prog.rowNamed t [101, 114, 114, 111, 114]) = [25] := by kernel_rfl
theorem typesSize : Tryz.prog.types.size = 189 := by kernel_rfl
set_option maxRecDepth 100000 in
theorem errT_of_laid {W : World} (h : handlesMet Tryz.prog [("errors.errorType", Rows.laid_errors_errorType)] W) : ErrT W ∧ 0 < W.heap.size := by
 obtain ⟨name, u, ty, e1, e2, e3, e4, e5⟩ := h _ (List.mem_singleton.2 rfl)
 have en : name = [101, 114, 114, 111, 114] := (Option.some.inj e1).symm
 subst en
 obtain rfl := Option.some.inj (rtRow.symm.trans e2)
 have hm : ty ∈ (List.range 189).filter fun t => Tryz.prog.rowNamed t [101, 114, 114, 111, 114] := List.mem_filter.2 ⟨List.mem_range.2 (by rw [← typesSize]; exact e3), e4⟩
 rw [oneRow] at hm
 obtain rfl := List.mem_singleton.1 hm
 have hh : typeHandle Tryz.prog 25 = .pointer (some ⟨3, 25, none⟩) := by kernel_rfl
 rw [hh] at e5
 have hc : ErrT W := by
  have := World.var?_cell gErrT e5 0
  unfold ErrT
  simpa using this
 exact ⟨hc, World.block_lt_of_cell? W _ hc⟩
theorem laid2_parts {W : World} (h : laidMetH Tryz.prog [("errors.errorType", Rows.laid_errors_errorType), ("warrant/utf.least", Rows.laid_warrant_utf_least)] W) :
  Least W ∧ ErrT W ∧ 0 < W.heap.size := by
 have h' : laidMet Tryz.prog [("warrant/utf.least", Rows.laid_warrant_utf_least)] W ∧ handlesMet Tryz.prog [("errors.errorType", Rows.laid_errors_errorType)] W := h
 exact ⟨least_of_laid h'.1, errT_of_laid h'.2⟩
end Go.Proofs.YtgklmpooonnmiaaGreatDoor
