/-
  Lemmas and contracts that the proofs over this seat use (part Laid2); no statement of the seat is claimed in this text, and nothing is assumed in it.
-/
import Derived.Test.YtgklmpooonnmiaaDoorLaid
import Derived.Test.YtgklmpooonnmiaaDoorErrAs2
import Derived.LaidHandle
set_option linter.unusedVariables false
set_option linter.unusedSimpArgs false
namespace Go.Proofs.YtgklmpooonnmiaaDoor
open Go.ChangeShapes Go.WideShapes Go.ChangeAt Go.RowKit
theorem gErrT : Tryd.prog.globalNamed "errors.errorType" = some 0 := by kernel_rfl
theorem rtRow : (Tryd.prog.cutTypes.find? (·.1 == "internal/reflectlite.rtype")).map (·.2) = some 140 := by kernel_rfl
theorem oneRow : ((List.range 193).filter fun t => Tryd.prog.rowNamed t [101, 114, 114, 111, 114]) = [32] := by kernel_rfl
theorem typesSize : Tryd.prog.types.size = 193 := by kernel_rfl
set_option maxRecDepth 100000 in
/-- what the condition on the handle of the errors gives a walk. -/
theorem errT_of_laid {W : World} (h : handlesMet Tryd.prog [("errors.errorType", Rows.laid_errors_errorType)] W) : ErrT W ∧ 0 < W.heap.size := by
  obtain ⟨name, u, ty, e1, e2, e3, e4, e5⟩ := h _ (List.mem_singleton.2 rfl)
  have en : name = [101, 114, 114, 111, 114] := (Option.some.inj e1).symm
  subst en
  obtain rfl := Option.some.inj (rtRow.symm.trans e2)
  have hm : ty ∈ (List.range 193).filter fun t => Tryd.prog.rowNamed t [101, 114, 114, 111, 114] := List.mem_filter.2 ⟨List.mem_range.2 (by rw [← typesSize]; exact e3), e4⟩
  rw [oneRow] at hm
  obtain rfl := List.mem_singleton.1 hm
  have hh : typeHandle Tryd.prog 32 = .pointer (some ⟨3, 32, none⟩) := by kernel_rfl
  rw [hh] at e5
  have hc : ErrT W := by
    have := World.var?_cell gErrT e5 0
    unfold ErrT
    simpa using this
  exact ⟨hc, World.block_lt_of_cell? W _ hc⟩
/-- the condition on both variables, in its halves. -/
theorem laid2_parts {W : World} (h : laidMetH Tryd.prog [("errors.errorType", Rows.laid_errors_errorType), ("warrant/utf.least", Rows.laid_warrant_utf_least)] W) :
    Least W ∧ ErrT W ∧ 0 < W.heap.size := by
  have h' : laidMet Tryd.prog [("warrant/utf.least", Rows.laid_warrant_utf_least)] W ∧ handlesMet Tryd.prog [("errors.errorType", Rows.laid_errors_errorType)] W := h
  exact ⟨least_of_laid h'.1, errT_of_laid h'.2⟩
end Go.Proofs.YtgklmpooonnmiaaDoor
