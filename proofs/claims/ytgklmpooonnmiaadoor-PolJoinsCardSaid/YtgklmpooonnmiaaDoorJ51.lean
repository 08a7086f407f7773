/-
  Lemmas and contracts that the proofs over this seat use (Laid, Laid2); no statement of the seat is claimed in this text, and nothing is assumed in it.
-/
import Derived.Test.YtgklmpooonnmiaaDoorRows
import Derived.Test.YtgklmpooonnmiaaDoorJ1
import Derived.ProofKit
import Derived.LaidMore
import Derived.OpenShut
import Derived.Carry
import Derived.MakeChecks
import Derived.Test.YtgklmpooonnmiaaDoorJ49
import Derived.LaidHandle
set_option linter.unusedVariables false
set_option linter.unusedSimpArgs false
namespace Go.Proofs.YtgklmpooonnmiaaDoor
open Go.ChangeShapes Go.WideShapes Go.ChangeAt Go.RowKit
theorem own : ownKnob Tryd.prog.godebug = none := by kernel_rfl
theorem gLeast : Tryd.prog.globalNamed "warrant/utf.least" = some 1 := by kernel_rfl
theorem tLeast : (Tryd.prog.globals[1]?).map (·.type) = some 135 := by kernel_rfl
theorem laidOut : laidOutB Tryd.prog = true := by kernel_rfl
theorem row_of_var {P : Program} {W : World} {n : String} {g : Nat} {cs : Array Value} (hg : P.globalNamed n = some g) (h : W.var? P n = some cs) : ∃ t fr, W.heap[g]? = some (.cells cs t fr) := by
 unfold World.var? at h
 rw [hg] at h
 simp only [Option.bind_some] at h
 split at h
 ·rename_i cs' t fr hh
  cases h
  exact ⟨t, fr, hh⟩
 ·cases h
set_option maxRecDepth 100000 in
theorem least_of_laid {W : World} (h : laidMet Tryd.prog [("warrant/utf.least", Rows.laid_warrant_utf_least)] W) : Least W := by
 obtain ⟨ps, ⟨g0, t0, cs0, f0, p0, q0, hg0, ht0, hv0, hd0, _, _⟩, _⟩ := h
 obtain rfl := Option.some.inj (gLeast.symm.trans hg0)
 obtain rfl := Option.some.inj (tLeast.symm.trans ht0)
 obtain ⟨xs, m1, rfl, hx1, hlen, hn3, hel⟩ := DataW.trod_array Tryd.underlying135 hd0
 have c3 : Tryd.prog.cellsOf 3 = 1 := by kernel_rfl
 have c24 : Tryd.prog.cellsOf 135 = 5 := by kernel_rfl
 have h0 := hel 0 (by decide)
 have h1 := hel 1 (by decide)
 have h2 := hel 2 (by decide)
 have h3 := hel 3 (by decide)
 have h4 := hel 4 (by decide)
 simp only [Rows.laid_warrant_utf_least, Prod.mk.injEq, DataW.agg.injEq] at hx1
 rw [c24] at hlen
 rw [c3] at h0 h1 h2 h3 h4
 obtain ⟨l1⟩ := cs0
 match xs, hn3, hx1, h0, h1, h2, h3, h4 with
 | [x0, x1, x2, x3, x4], _, hx1, h0, h1, h2, h3, h4 =>
  match l1, hlen with
  | [v0, v1, v2, v3, v4], _ =>
   simp only [List.map_cons, List.map_nil, List.cons.injEq] at hx1
   obtain ⟨k0, a0, b0, _⟩ := DataW.trod_int Tryd.underlying3 (show DataW.trod _ Tryd.prog W 0 _ false m1 3 _ = some x0 from h0)
   obtain ⟨k1, a1, b1, _⟩ := DataW.trod_int Tryd.underlying3 (show DataW.trod _ Tryd.prog W 0 _ false m1 3 _ = some x1 from h1)
   obtain ⟨k2, a2, b2, _⟩ := DataW.trod_int Tryd.underlying3 (show DataW.trod _ Tryd.prog W 0 _ false m1 3 _ = some x2 from h2)
   obtain ⟨k3, a3, b3, _⟩ := DataW.trod_int Tryd.underlying3 (show DataW.trod _ Tryd.prog W 0 _ false m1 3 _ = some x3 from h3)
   obtain ⟨k4, a4, b4, _⟩ := DataW.trod_int Tryd.underlying3 (show DataW.trod _ Tryd.prog W 0 _ false m1 3 _ = some x4 from h4)
   subst b0 b1 b2 b3 b4
   simp at a0 a1 a2 a3 a4 hx1
   obtain ⟨⟨e0, e1, e2, e3, e4⟩, _⟩ := hx1
   subst a0 a1 a2 a3 a4 e0 e1 e2 e3 e4
   exact row_of_var gLeast hv0
theorem trodAll_kept {H : Type} {enc : TypeId × Value → H} {P : Program} (hl : laidOutB P = true) {W W' : World} (hb : Below W.heap.size W W') (ts : List TypeId) :
  ∀ {vs : List Value} {ds : List (DataW H)} {ps : List MemPlace}, (ts.all fun t => P.readableRec t && decide (t < P.types.size)) = true → DataW.TrodAll enc P W 0 (fun _ => true) true ts vs ds ps →
    (∀ x ∈ ps, x.block < W.heap.size) → DataW.TrodAll enc P W' 0 (fun b => decide (b < W.heap.size)) true ts vs ds ps := by
 induction ts with
 | nil =>
  intro vs ds ps _ h _
  obtain ⟨rfl, rfl, rfl⟩ := trodAll_nil h
  exact trodAll_mk0
 | cons t ts ih =>
  intro vs ds ps ht h hlt
  obtain ⟨v, vs', d, ds', p, q, rfl, rfl, rfl, hd, hrest⟩ := trodAll_cons h
  rw [List.all_cons, Bool.and_eq_true, Bool.and_eq_true] at ht
  exact trodAll_cons_mk (Below.trod hl ht.1.1 (of_decide_eq_true ht.1.2) hd hb (fun x hx => hlt x (by simp [hx]))) (ih ht.2 hrest (fun x hx => hlt x (by simp [hx])))
end Go.Proofs.YtgklmpooonnmiaaDoor

namespace Go.Proofs.YtgklmpooonnmiaaDoor
open Go.ChangeShapes Go.WideShapes Go.ChangeAt Go.RowKit
theorem gErrT : Tryd.prog.globalNamed "errors.errorType" = some 0 := by kernel_rfl
theorem rtRow : (Tryd.prog.cutTypes.find? (·.1 == "internal/reflectlite.rtype")).map (·.2) = some 140 := by kernel_rfl
theorem oneRow : ((List.range 193).filter fun t => Tryd.prog.rowNamed t [101, 114, 114, 111, 114]) = [32] := by kernel_rfl
theorem typesSize : Tryd.prog.types.size = 193 := by kernel_rfl
set_option maxRecDepth 100000 in
theorem errT_of_laid {W : World} (h : handlesMet Tryd.prog [("errors.errorType", Rows.laid_errors_errorType)] W) : ErrT W ∧ 0 < W.heap.size := by
 obtain ⟨name, u, ty, e1, e2, e3, e4, e5⟩ := h _ (List.mem_singleton.2 rfl)
 have en : name = [101, 114, 114, 111, 114] := (Option.some.inj e1).symm
 subst en
 obtain rfl := Option.some.inj (rtRow.symm.trans e2)
 have hm : ty ∈ (List.range 193).filter fun t => Tryd.prog.rowNamed t [101, 114, 114, 111, 114] := List.mem_filter.2 ⟨List.mem_range.2 (by rw [← typesSize]; exact e3), e4⟩
 rw [oneRow] at hm
 obtain rfl := List.mem_singleton.1 hm
 have hh : typeHandle Tryd.prog 32 = .pointer (some ⟨3, 32, none⟩) := by kernel_rfl
 rw [hh] at e5
 have hc : ErrT W := by
  have := World.var?_cell gErrT e5 0
  unfold ErrT
  simpa using this
 exact ⟨hc, World.block_lt_of_cell? W _ hc⟩
theorem laid2_parts {W : World} (h : laidMetH Tryd.prog [("errors.errorType", Rows.laid_errors_errorType), ("warrant/utf.least", Rows.laid_warrant_utf_least)] W) :
  Least W ∧ ErrT W ∧ 0 < W.heap.size := by
 have h' : laidMet Tryd.prog [("warrant/utf.least", Rows.laid_warrant_utf_least)] W ∧ handlesMet Tryd.prog [("errors.errorType", Rows.laid_errors_errorType)] W := h
 exact ⟨least_of_laid h'.1, errT_of_laid h'.2⟩
end Go.Proofs.YtgklmpooonnmiaaDoor
