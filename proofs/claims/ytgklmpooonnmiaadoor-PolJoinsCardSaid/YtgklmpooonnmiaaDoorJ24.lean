/-
  Lemmas and contracts that the proofs over this seat use (PolCmp); no statement of the seat is claimed in this text, and nothing is assumed in it.
-/
import Derived.Test.YtgklmpooonnmiaaDoorJ23
set_option linter.unusedVariables false
set_option linter.unusedSimpArgs false
namespace Go.Proofs.YtgklmpooonnmiaaDoor
open Go.RowKit
structure Cmp (w : World) (b1 T A F5 R0 r g o c : Nat) (l : List TI) (nest : Nat) (t : TI) (ca : List Value) (a : Ex) (W : World) : Prop where
 cls : Cls (fun i => w.heap.size ≤ i ∧ i ≠ R0) w.heap.size b1 T A r g o c l nest t ca a W
 res : W.heap[R0]? = some (.cells z5 80 (0, 0))
 fn : W.heap[F5]? = some (.cells #[.func (.func 111) #[] #[.pointer (some ⟨b1, 0, none⟩), .pointer (some ⟨T, 0, none⟩), .pointer (some ⟨A, 0, none⟩)]] 163 (0, 0))
 f : Fr [r] w W
 RT : R0 ≠ T ∧ R0 ≠ A ∧ R0 ≠ b1 ∧ R0 ≠ F5
 Rw : w.heap.size ≤ R0
 Fw : w.heap.size ≤ F5
theorem Cmp.step {w : World} {b1 T A F5 R0 r g o c : Nat} {l : List TI} {nest : Nat} {t : TI} {ca : List Value} {a : Ex} {W W' : World} {o' c' : Nat} {l' : List TI} {nest' : Nat} (h : Cmp w b1 T A F5 R0 r g o c l nest t ca a W) (hf : Fr [r] W W') (hr : Rd W' r g o' c' l' nest') : Cmp w b1 T A F5 R0 r g o' c' l' nest' t ca a W' := by
 have h1 := h.cls.rB; have h2 := h.Rw; have h3 := h.Fw
 exact ⟨h.cls.step hf hr, hf.row h.res (by simp; omega), hf.row h.fn (by simp; omega), h.f.trans hf (fun y hy => .inl hy), h.RT, h2, h3⟩
theorem Cmp.fr {w : World} {b1 T A F5 R0 r g o c : Nat} {l : List TI} {nest : Nat} {t : TI} {ca : List Value} {a : Ex} {W W' : World} (h : Cmp w b1 T A F5 R0 r g o c l nest t ca a W) (hf : Fr [] W W') : Cmp w b1 T A F5 R0 r g o c l nest t ca a W' :=
 ⟨h.cls.fr hf, hf.row h.res (by simp), hf.row h.fn (by simp), h.f.trans0 hf, h.RT, h.Rw, h.Fw⟩
theorem Cmp.give {w : World} {b1 T A F5 R0 r g o c : Nat} {l : List TI} {nest : Nat} {t : TI} {ca : List Value} {a : Ex} {W : World} (h : Cmp w b1 T A F5 R0 r g o c l nest t ca a W) {v0 v1 v2 v3 v4 : Value} {x : Ex} (hx : Rep W (fun i => w.heap.size ≤ i ∧ i ≠ R0) [v0, v1, v2, v3, v4] x) :
  Done r g nest w (.ok (x, l)) (.returned (.agg #[v0, v1, v2, v3, v4])) (((((W.setCell ⟨R0, 0, none⟩ v0).setCell ⟨R0, 1, none⟩ v1).setCell ⟨R0, 2, none⟩ v2).setCell ⟨R0, 3, none⟩ v3).setCell ⟨R0, 4, none⟩ v4) := by
 have hff := fr_five W [R0] R0 v0 v1 v2 v3 v4 (by simp)
 have h1 := h.cls.rB; have h2 := h.Rw; have h3 := h.cls.gB
 have hr := (hx.fr hff (fun y hy _ => by simp at hy; rw [hy]; simp)).mono (fun i _ h => h.1)
 exact Done.ok (cs := [v0, v1, v2, v3, v4]) rfl hr (h.f.trans hff (fun y hy => .inr (by simp at hy; omega))) (h.cls.rd.fr hff (by simp; omega) (by simp; omega))
set_option maxHeartbeats 4000000 in
set_option maxRecDepth 100000 in
theorem cmp_stop (w : World) (r g o c : Nat) (l : List TI) (nest : Nat) (h : Rd w r g o c l nest) (hr : r < w.heap.size) (pp pn : Int)
  (hC : ∀ W o c, Rd W r g o c l nest → r < W.heap.size → Calls Tryd.prog 110 #[.pointer (some ⟨r, 0, none⟩)] W (Done r g nest W (.error (pp, pn)))) :
  Calls Tryd.prog 108 #[.pointer (some ⟨r, 0, none⟩)] w (Done r g nest w (.error (pp, pn))) := by
 have HRD := Lib.hid h
 have HC := Lib.hid hC
 have HR := Lib.hid (alloc2 w (.cells #[.pointer (some ⟨r, 0, none⟩)] 94) (.cells z5 80))
 have hg := h.gl
 have HA0 : Hid (Fr [] w ((w.alloc (.cells #[.pointer (some ⟨r, 0, none⟩)] 94)).alloc (.cells z5 80))) := ((Fr.refl [] w).alloc _).alloc _
 have HN := Lib.hid (HC.out _ o c (HRD.out.fr HA0.out (by simp) (by simp)) (by simp; omega))
 clear h hC
 go_enter Tryd.func108, Tryd.ntmps108
 go_wp2_with fail
 refine HN.out.mono ?_
 intro e w1 hd
 have hs : Stops [r] _ pp pn e w1 := hd
 obtain ⟨b9, hb9, rfl, hrow9, hf9⟩ := hs.from (bs := [r]) HA0.out.sub (fun y hy => .inl (by simpa using hy))
 show _
 exact ⟨rfl, Done.stop ⟨b9, hb9, rfl, hrow9, hf9⟩⟩
theorem Cmp.below {w : World} {b1 T A F5 R0 r g o c : Nat} {l : List TI} {nest : Nat} {t : TI} {ca : List Value} {a : Ex} {W : World} (h : Cmp w b1 T A F5 R0 r g o c l nest t ca a W) : ∀ i, W.heap.size ≤ i → w.heap.size ≤ i ∧ i ≠ R0 := fun i hi => by
 have h1 := h.f.size; have h2 := row_lt h.res
 exact ⟨by omega, by omega⟩
theorem rep_two {D : Nat → Prop} {U : World} {rb : Nat} {ca cb : List Value} {a b : Ex} (hy : Rep U (fun i => D i ∧ i ≠ rb) ca a) (hz : Rep U (fun i => D i ∧ i ≠ rb) cb b) (hrow : U.heap[rb]? = some (.cells (ca ++ cb).toArray 80 (0, 0))) (hD : D rb) (op p : Int) :
  Rep U D [.int .i64 op, .string ⟨#[]⟩, .int .i64 0, .slice (some ⟨rb, 0, none⟩) 2 2, .int .i64 p] (.mk op Pol.none_ 0 [a, b] p) := by
 refine Rep.of_row op ⟨#[]⟩ 0 p [a, b] [ca, cb] rb hD 80 2 rfl (by simpa using hrow) (Nat.le_refl _) (by decide) ?_
 intro i z cs' hi hc
 have h0 : i = 0 ∨ i = 1 := by have := (List.getElem?_eq_some_iff.1 hi).1; simp at this; omega
 rcases h0 with rfl | rfl
 ·simp at hi hc
  subst hi hc
  exact hy.mono (fun i _ h => h.1)
 ·simp at hi hc
  subst hi hc
  exact hz.mono (fun i _ h => h.1)
set_option maxHeartbeats 4000000 in
set_option maxRecDepth 100000 in
theorem cmp_none (w : World) (r g o c : Nat) (l : List TI) (nest : Nat) (h : Rd w r g o c l nest) (hr : r < w.heap.size) (a : Ex) (t : TI) (m : List TI)
  (hC : ∀ W o c, Rd W r g o c l nest → r < W.heap.size → Calls Tryd.prog 110 #[.pointer (some ⟨r, 0, none⟩)] W (Done r g nest W (.ok (a, t :: m))))
  (hk : t.k = 4) (hs : Pol.sign t.s.toList = none) :
  Calls Tryd.prog 108 #[.pointer (some ⟨r, 0, none⟩)] w (Done r g nest w (.ok (a, t :: m))) := by
 have HK := Lib.hid hk
 clear hk
 have HRD := Lib.hid h
 have HC := Lib.hid hC
 have HR := Lib.hid (alloc2 w (.cells #[.pointer (some ⟨r, 0, none⟩)] 94) (.cells z5 80))
 have hg := h.gl
 have HA0 : Hid (Fr [] w ((w.alloc (.cells #[.pointer (some ⟨r, 0, none⟩)] 94)).alloc (.cells z5 80))) := ((Fr.refl [] w).alloc _).alloc _
 have HN := Lib.hid (HC.out _ o c (HRD.out.fr HA0.out (by simp) (by simp)) (by simp; omega))
 clear h hC
 go_enter Tryd.func108, Tryd.ntmps108
 go_wp2_with fail
 refine HN.out.mono ?_
 intro e w1 hd
 obtain ⟨cs, rfl, hrep, hf3, o3, c3, hr3⟩ := hd
 obtain ⟨op0, s9, n9, q9, k9, c9, p9, rfl⟩ := hrep.form
 obtain ⟨tk, ts, tn, tp⟩ := t
 skip
 have hbx := hf3.row HR.out.1 (by simp; omega)
 have hrs := hf3.row HR.out.2 (by simp; omega)
 have hz1 : w.heap.size + 1 < w1.heap.size := row_lt hrs
 obtain ⟨a0, a1, a2, a3⟩ := hr3.tk 0 _ rfl
 have c0 := hr3.c0
 have hlc := hr3.lc
 have hm := hr3.cm
 have hne := hr3.ne
 have x0 : w1.cell? ⟨w.heap.size, 0, none⟩ = some (.pointer (some ⟨r, 0, none⟩)) := by rw [Lib.cell_of_heap hbx]; rfl
 rw [List.length_cons] at c0 hlc
 unfold maxLen at hm
 simp only [Nat.mul_zero, Nat.add_zero] at a0 a1 a2 a3
 have hg1 := hr3.gl
 have hr1 : r < w1.heap.size := row_lt hr3.row
 have hmf : ∀ fn first cap w, (Instr.makeFunc fn first cap).run Tryd.prog w = .ok (.func fn first cap) w := fun _ _ _ _ => rfl
 have HRP := Lib.hid (hrep.mono (E := fun i => w.heap.size ≤ i ∧ i ≠ w.heap.size + 1) (fun i hi h => by
  have h9 : ((w.alloc (.cells #[.pointer (some ⟨r, 0, none⟩)] 94)).alloc (.cells z5 80)).heap.size ≤ i := h
  simp at h9
  exact ⟨by omega, by omega⟩))
 have HR3 := Lib.hid hr3
 have HBX := Lib.hid hbx
 have HRS := Lib.hid hrs
 have HF3 : Hid (Fr [r] w w1) := HA0.out.sub.trans hf3 (fun y hy => .inl hy)
 clear hrep hf3 hr3 hbx hrs HN HR HA0
 have hz0 : w.heap.size < w1.heap.size := by omega
 go_upto_region 5 with fail
 refine wp_fresh (fun W => Cmp w w.heap.size (w1.heap.size + 1) w1.heap.size (w1.heap.size + 1 + 1) (w.heap.size + 1) r g o3 c3 (⟨tk, ts, tn, tp⟩ :: m) nest ⟨tk, ts, tn, tp⟩ [.int .i64 op0, .string s9, .int .i64 n9, .slice q9 k9 c9, .int .i64 p9] a W) ?_ ?_
 ·have hal := alloc3 w1 (.cells #[.int .i64 op0, .string s9, .int .i64 n9, .slice q9 k9 c9, .int .i64 p9] 80) (.cells #[.int .i64 tk, .string ts, .int .i64 tn, .int .i64 tp] 25) (.cells #[.func (.func 111) #[] #[.pointer (some ⟨w.heap.size, 0, none⟩), .pointer (some ⟨w1.heap.size + 1, 0, none⟩), .pointer (some ⟨w1.heap.size, 0, none⟩)]] 163)
  have hf : Fr [] w1 _ := (((Fr.refl [] w1).alloc (.cells #[.int .i64 op0, .string s9, .int .i64 n9, .slice q9 k9 c9, .int .i64 p9] 80)).alloc (.cells #[.int .i64 tk, .string ts, .int .i64 tn, .int .i64 tp] 25)).alloc (.cells #[.func (.func 111) #[] #[.pointer (some ⟨w.heap.size, 0, none⟩), .pointer (some ⟨w1.heap.size + 1, 0, none⟩), .pointer (some ⟨w1.heap.size, 0, none⟩)]] 163)
  have h1 := HR3.out.fr hf (by simp) (by simp)
  have h2 := hf.row HBX.out (by simp)
  have h3 := hf.row HRS.out (by simp)
  have h4 := HRP.out.fr hf (fun y hy _ => by cases hy)
  have h5 := HF3.out.trans0 hf
  exact ⟨⟨h1, h2, hal.2.1, hal.1, h4, fun i hi => hi.1, hr, hg, Nat.le_refl _, by omega, by omega⟩, h3, hal.2.2, h5, ⟨by omega, by omega, by omega, by omega⟩, by omega, by omega⟩
 intro W h1
 have H := Lib.hid h1
 clear h1 a0 a1 a2 a3 c0 hlc hm hne x0 HBX HRS HRP HR3
 have hrW := row_lt H.out.cls.rd.row
 have hresW := row_lt H.out.res
 have hAW := row_lt H.out.cls.av
 have hTW := row_lt H.out.cls.tok
 have hFW := row_lt H.out.fn
 have kf : ∀ i, W.frozen? ⟨(w1.heap.size + 1), i, none⟩ = false := fun i => Lib.frozen_of_heap H.out.cls.tok i
 have k0 : W.cell? ⟨(w1.heap.size + 1), 0, none⟩ = some (.int .i64 tk) := by rw [Lib.cell_of_heap H.out.cls.tok]; rfl
 have k1 : W.cell? ⟨(w1.heap.size + 1), 1, none⟩ = some (.string ts) := by rw [Lib.cell_of_heap H.out.cls.tok]; rfl
 have k2 : W.cell? ⟨(w1.heap.size + 1), 2, none⟩ = some (.int .i64 tn) := by rw [Lib.cell_of_heap H.out.cls.tok]; rfl
 have k3 : W.cell? ⟨(w1.heap.size + 1), 3, none⟩ = some (.int .i64 tp) := by rw [Lib.cell_of_heap H.out.cls.tok]; rfl
 have ef : ∀ i, W.frozen? ⟨w1.heap.size, i, none⟩ = false := fun i => Lib.frozen_of_heap H.out.cls.av i
 have e0 : W.cell? ⟨w1.heap.size, 0, none⟩ = some (.int .i64 op0) := by rw [Lib.cell_of_heap H.out.cls.av]; rfl
 have e1 : W.cell? ⟨w1.heap.size, 1, none⟩ = some (.string s9) := by rw [Lib.cell_of_heap H.out.cls.av]; rfl
 have e2 : W.cell? ⟨w1.heap.size, 2, none⟩ = some (.int .i64 n9) := by rw [Lib.cell_of_heap H.out.cls.av]; rfl
 have e3 : W.cell? ⟨w1.heap.size, 3, none⟩ = some (.slice q9 k9 c9) := by rw [Lib.cell_of_heap H.out.cls.av]; rfl
 have e4 : W.cell? ⟨w1.heap.size, 4, none⟩ = some (.int .i64 p9) := by rw [Lib.cell_of_heap H.out.cls.av]; rfl
 have xf : ∀ i, W.frozen? ⟨w.heap.size, i, none⟩ = false := fun i => Lib.frozen_of_heap H.out.cls.box i
 have x0 : W.cell? ⟨w.heap.size, 0, none⟩ = some (.pointer (some ⟨r, 0, none⟩)) := by rw [Lib.cell_of_heap H.out.cls.box]; rfl
 have yf : ∀ i, W.frozen? ⟨(w1.heap.size + 1 + 1), i, none⟩ = false := fun i => Lib.frozen_of_heap H.out.fn i
 have y0 : W.cell? ⟨(w1.heap.size + 1 + 1), 0, none⟩ = some (.func (.func 111) #[] #[.pointer (some ⟨w.heap.size, 0, none⟩), .pointer (some ⟨w1.heap.size + 1, 0, none⟩), .pointer (some ⟨w1.heap.size, 0, none⟩)]) := by rw [Lib.cell_of_heap H.out.fn]; rfl
 have d4 : (tk == 4) = true := by simpa using HK.out
 have q0 : (ts.toList == [61]) = false := by
  cases h9 : (ts.toList == [61]) with
  | false => rfl
  | true => rw [beq_iff_eq] at h9; rw [h9] at hs; exact absurd hs (by decide)
 have q1 : (ts.toList == [33, 61]) = false := by
  cases h9 : (ts.toList == [33, 61]) with
  | false => rfl
  | true => rw [beq_iff_eq] at h9; rw [h9] at hs; exact absurd hs (by decide)
 have q2 : (ts.toList == [60]) = false := by
  cases h9 : (ts.toList == [60]) with
  | false => rfl
  | true => rw [beq_iff_eq] at h9; rw [h9] at hs; exact absurd hs (by decide)
 have q3 : (ts.toList == [60, 61]) = false := by
  cases h9 : (ts.toList == [60, 61]) with
  | false => rfl
  | true => rw [beq_iff_eq] at h9; rw [h9] at hs; exact absurd hs (by decide)
 have q4 : (ts.toList == [62]) = false := by
  cases h9 : (ts.toList == [62]) with
  | false => rfl
  | true => rw [beq_iff_eq] at h9; rw [h9] at hs; exact absurd hs (by decide)
 have q5 : (ts.toList == [62, 61]) = false := by
  cases h9 : (ts.toList == [62, 61]) with
  | false => rfl
  | true => rw [beq_iff_eq] at h9; rw [h9] at hs; exact absurd hs (by decide)
 clear hs
 have zf : ∀ i, W.frozen? ⟨(w.heap.size + 1), i, none⟩ = false := fun i => Lib.frozen_of_heap H.out.res i
 have z0 : W.cell? ⟨(w.heap.size + 1), 0, none⟩ = some (.int .i64 0) := by rw [Lib.cell_of_heap H.out.res]; rfl
 have z1 : W.cell? ⟨(w.heap.size + 1), 1, none⟩ = some (.string ⟨#[]⟩) := by rw [Lib.cell_of_heap H.out.res]; rfl
 have z2 : W.cell? ⟨(w.heap.size + 1), 2, none⟩ = some (.int .i64 0) := by rw [Lib.cell_of_heap H.out.res]; rfl
 have z3 : W.cell? ⟨(w.heap.size + 1), 3, none⟩ = some (.slice none 0 0) := by rw [Lib.cell_of_heap H.out.res]; rfl
 have z4 : W.cell? ⟨(w.heap.size + 1), 4, none⟩ = some (.int .i64 0) := by rw [Lib.cell_of_heap H.out.res]; rfl
 have HG := Lib.hid (H.out.give H.out.cls.rep)
 have HT := Lib.hid (heap_five H.out.res (.int .i64 op0) (.string s9) (.int .i64 n9) (.slice q9 k9 c9) (.int .i64 p9))
 go_wp2_with fail
 refine bodyPost_ret (v := .agg #[.int .i64 op0, .string s9, .int .i64 n9, .slice q9 k9 c9, .int .i64 p9]) (results_cell_row rfl _ _ (w.heap.size + 1) _ _ (0, 0) _ rfl HT.out Tryd.underlying80 rfl (by kernel_rfl)) rfl ?_
 exact HG.out
def Pol.twoOf (op p : Int) (turned : Bool) (a : Ex) : Pol.PR Ex → Pol.PR Ex
 | .error e => .error e
 | .ok (y, m) => .ok (.mk op Pol.none_ 0 (if turned = true then [y, a] else [a, y]) p, m)
set_option maxHeartbeats 4000000 in
set_option maxRecDepth 100000 in
theorem cmp_eq (w : World) (r g o c : Nat) (l : List TI) (nest : Nat) (h : Rd w r g o c l nest) (hr : r < w.heap.size) (a : Ex) (t : TI) (m : List TI)
  (hC : ∀ W o c, Rd W r g o c l nest → r < W.heap.size → Calls Tryd.prog 110 #[.pointer (some ⟨r, 0, none⟩)] W (Done r g nest W (.ok (a, t :: m))))
  (hm : 0 < m.length) (q : Pol.PR Ex) (hC2 : ∀ W o c, Rd W r g o c m nest → r < W.heap.size → Calls Tryd.prog 110 #[.pointer (some ⟨r, 0, none⟩)] W (Done r g nest W q))
  (hk : t.k = 4) (hs : t.s.toList = [61]) :
  Calls Tryd.prog 108 #[.pointer (some ⟨r, 0, none⟩)] w (Done r g nest w (Pol.twoOf 9 t.p false a q)) := by
 have HK := Lib.hid hk
 clear hk
 have HRD := Lib.hid h
 have HC := Lib.hid hC
 have HR := Lib.hid (alloc2 w (.cells #[.pointer (some ⟨r, 0, none⟩)] 94) (.cells z5 80))
 have hg := h.gl
 have HA0 : Hid (Fr [] w ((w.alloc (.cells #[.pointer (some ⟨r, 0, none⟩)] 94)).alloc (.cells z5 80))) := ((Fr.refl [] w).alloc _).alloc _
 have HN := Lib.hid (HC.out _ o c (HRD.out.fr HA0.out (by simp) (by simp)) (by simp; omega))
 clear h hC
 go_enter Tryd.func108, Tryd.ntmps108
 go_wp2_with fail
 refine HN.out.mono ?_
 intro e w1 hd
 obtain ⟨cs, rfl, hrep, hf3, o3, c3, hr3⟩ := hd
 obtain ⟨op0, s9, n9, q9, k9, c9, p9, rfl⟩ := hrep.form
 obtain ⟨tk, ts, tn, tp⟩ := t
 skip
 have hbx := hf3.row HR.out.1 (by simp; omega)
 have hrs := hf3.row HR.out.2 (by simp; omega)
 have hz1 : w.heap.size + 1 < w1.heap.size := row_lt hrs
 obtain ⟨a0, a1, a2, a3⟩ := hr3.tk 0 _ rfl
 have c0 := hr3.c0
 have hlc := hr3.lc
 have hm := hr3.cm
 have hne := hr3.ne
 have x0 : w1.cell? ⟨w.heap.size, 0, none⟩ = some (.pointer (some ⟨r, 0, none⟩)) := by rw [Lib.cell_of_heap hbx]; rfl
 rw [List.length_cons] at c0 hlc
 unfold maxLen at hm
 simp only [Nat.mul_zero, Nat.add_zero] at a0 a1 a2 a3
 have hg1 := hr3.gl
 have hr1 : r < w1.heap.size := row_lt hr3.row
 have hmf : ∀ fn first cap w, (Instr.makeFunc fn first cap).run Tryd.prog w = .ok (.func fn first cap) w := fun _ _ _ _ => rfl
 have HRP := Lib.hid (hrep.mono (E := fun i => w.heap.size ≤ i ∧ i ≠ w.heap.size + 1) (fun i hi h => by
  have h9 : ((w.alloc (.cells #[.pointer (some ⟨r, 0, none⟩)] 94)).alloc (.cells z5 80)).heap.size ≤ i := h
  simp at h9
  exact ⟨by omega, by omega⟩))
 have HR3 := Lib.hid hr3
 have HBX := Lib.hid hbx
 have HRS := Lib.hid hrs
 have HF3 : Hid (Fr [r] w w1) := HA0.out.sub.trans hf3 (fun y hy => .inl hy)
 clear hrep hf3 hr3 hbx hrs HN HR HA0
 have hz0 : w.heap.size < w1.heap.size := by omega
 go_upto_region 5 with fail
 refine wp_fresh (fun W => Cmp w w.heap.size (w1.heap.size + 1) w1.heap.size (w1.heap.size + 1 + 1) (w.heap.size + 1) r g o3 c3 (⟨tk, ts, tn, tp⟩ :: m) nest ⟨tk, ts, tn, tp⟩ [.int .i64 op0, .string s9, .int .i64 n9, .slice q9 k9 c9, .int .i64 p9] a W) ?_ ?_
 ·have hal := alloc3 w1 (.cells #[.int .i64 op0, .string s9, .int .i64 n9, .slice q9 k9 c9, .int .i64 p9] 80) (.cells #[.int .i64 tk, .string ts, .int .i64 tn, .int .i64 tp] 25) (.cells #[.func (.func 111) #[] #[.pointer (some ⟨w.heap.size, 0, none⟩), .pointer (some ⟨w1.heap.size + 1, 0, none⟩), .pointer (some ⟨w1.heap.size, 0, none⟩)]] 163)
  have hf : Fr [] w1 _ := (((Fr.refl [] w1).alloc (.cells #[.int .i64 op0, .string s9, .int .i64 n9, .slice q9 k9 c9, .int .i64 p9] 80)).alloc (.cells #[.int .i64 tk, .string ts, .int .i64 tn, .int .i64 tp] 25)).alloc (.cells #[.func (.func 111) #[] #[.pointer (some ⟨w.heap.size, 0, none⟩), .pointer (some ⟨w1.heap.size + 1, 0, none⟩), .pointer (some ⟨w1.heap.size, 0, none⟩)]] 163)
  have h1 := HR3.out.fr hf (by simp) (by simp)
  have h2 := hf.row HBX.out (by simp)
  have h3 := hf.row HRS.out (by simp)
  have h4 := HRP.out.fr hf (fun y hy _ => by cases hy)
  have h5 := HF3.out.trans0 hf
  exact ⟨⟨h1, h2, hal.2.1, hal.1, h4, fun i hi => hi.1, hr, hg, Nat.le_refl _, by omega, by omega⟩, h3, hal.2.2, h5, ⟨by omega, by omega, by omega, by omega⟩, by omega, by omega⟩
 intro W h1
 have H := Lib.hid h1
 clear h1 a0 a1 a2 a3 c0 hlc hm hne x0 HBX HRS HRP HR3
 have hrW := row_lt H.out.cls.rd.row
 have hresW := row_lt H.out.res
 have hAW := row_lt H.out.cls.av
 have hTW := row_lt H.out.cls.tok
 have hFW := row_lt H.out.fn
 have kf : ∀ i, W.frozen? ⟨(w1.heap.size + 1), i, none⟩ = false := fun i => Lib.frozen_of_heap H.out.cls.tok i
 have k0 : W.cell? ⟨(w1.heap.size + 1), 0, none⟩ = some (.int .i64 tk) := by rw [Lib.cell_of_heap H.out.cls.tok]; rfl
 have k1 : W.cell? ⟨(w1.heap.size + 1), 1, none⟩ = some (.string ts) := by rw [Lib.cell_of_heap H.out.cls.tok]; rfl
 have k2 : W.cell? ⟨(w1.heap.size + 1), 2, none⟩ = some (.int .i64 tn) := by rw [Lib.cell_of_heap H.out.cls.tok]; rfl
 have k3 : W.cell? ⟨(w1.heap.size + 1), 3, none⟩ = some (.int .i64 tp) := by rw [Lib.cell_of_heap H.out.cls.tok]; rfl
 have ef : ∀ i, W.frozen? ⟨w1.heap.size, i, none⟩ = false := fun i => Lib.frozen_of_heap H.out.cls.av i
 have e0 : W.cell? ⟨w1.heap.size, 0, none⟩ = some (.int .i64 op0) := by rw [Lib.cell_of_heap H.out.cls.av]; rfl
 have e1 : W.cell? ⟨w1.heap.size, 1, none⟩ = some (.string s9) := by rw [Lib.cell_of_heap H.out.cls.av]; rfl
 have e2 : W.cell? ⟨w1.heap.size, 2, none⟩ = some (.int .i64 n9) := by rw [Lib.cell_of_heap H.out.cls.av]; rfl
 have e3 : W.cell? ⟨w1.heap.size, 3, none⟩ = some (.slice q9 k9 c9) := by rw [Lib.cell_of_heap H.out.cls.av]; rfl
 have e4 : W.cell? ⟨w1.heap.size, 4, none⟩ = some (.int .i64 p9) := by rw [Lib.cell_of_heap H.out.cls.av]; rfl
 have xf : ∀ i, W.frozen? ⟨w.heap.size, i, none⟩ = false := fun i => Lib.frozen_of_heap H.out.cls.box i
 have x0 : W.cell? ⟨w.heap.size, 0, none⟩ = some (.pointer (some ⟨r, 0, none⟩)) := by rw [Lib.cell_of_heap H.out.cls.box]; rfl
 have yf : ∀ i, W.frozen? ⟨(w1.heap.size + 1 + 1), i, none⟩ = false := fun i => Lib.frozen_of_heap H.out.fn i
 have y0 : W.cell? ⟨(w1.heap.size + 1 + 1), 0, none⟩ = some (.func (.func 111) #[] #[.pointer (some ⟨w.heap.size, 0, none⟩), .pointer (some ⟨w1.heap.size + 1, 0, none⟩), .pointer (some ⟨w1.heap.size, 0, none⟩)]) := by rw [Lib.cell_of_heap H.out.fn]; rfl
 have d4 : (tk == 4) = true := by simpa using HK.out
 have q0 : (ts.toList == [61]) = true := by rw [hs]; rfl
 clear hs
 have HTWO := Lib.hid (two_reads _ _ _ _ _ r g _ _ _ m nest _ _ a W H.out.cls H.out.below hm 9 q hC2)
 clear hC2
 go_wp2_with fail
 refine HTWO.out.mono ?_
 intro e w2 hd
 cases q with
 | error pe =>
  obtain ⟨pp, pn⟩ := pe
  have hs9 : Stops [r] W pp pn e w2 := hd
  obtain ⟨b9, hb9, rfl, hrow9, hf9⟩ := hs9.from (bs := [r]) H.out.f (fun y hy => .inl (by simpa using hy))
  show _
  exact ⟨rfl, Done.stop ⟨b9, hb9, rfl, hrow9, hf9⟩⟩
 | ok ym =>
  obtain ⟨y, m2⟩ := ym
  obtain ⟨ca, cb, rb, rfl, hrb, hrbz, hra, hry, hf3, o4, c4, hr4⟩ := hd
  have hrp := rep_two hra hry hrb (H.out.below _ hrbz) 9 tp
  have H := Lib.hid (H.out.step hf3 hr4)
  have HRP := Lib.hid hrp
  clear hrb hrbz hra hry hf3 hr4 hrp HTWO k0 k1 k2 k3 kf e0 e1 e2 e3 e4 ef x0 xf y0 yf
  have zf : ∀ i, w2.frozen? ⟨(w.heap.size + 1), i, none⟩ = false := fun i => Lib.frozen_of_heap H.out.res i
  have z0 : w2.cell? ⟨(w.heap.size + 1), 0, none⟩ = some (.int .i64 0) := by rw [Lib.cell_of_heap H.out.res]; rfl
  have z1 : w2.cell? ⟨(w.heap.size + 1), 1, none⟩ = some (.string ⟨#[]⟩) := by rw [Lib.cell_of_heap H.out.res]; rfl
  have z2 : w2.cell? ⟨(w.heap.size + 1), 2, none⟩ = some (.int .i64 0) := by rw [Lib.cell_of_heap H.out.res]; rfl
  have z3 : w2.cell? ⟨(w.heap.size + 1), 3, none⟩ = some (.slice none 0 0) := by rw [Lib.cell_of_heap H.out.res]; rfl
  have z4 : w2.cell? ⟨(w.heap.size + 1), 4, none⟩ = some (.int .i64 0) := by rw [Lib.cell_of_heap H.out.res]; rfl
  have HG := Lib.hid (H.out.give HRP.out)
  have HT := Lib.hid (heap_five H.out.res (.int .i64 9) (.string ⟨#[]⟩) (.int .i64 0) (.slice (some ⟨rb, 0, none⟩) 2 2) (.int .i64 tp))
  go_wp2_with fail
  refine bodyPost_ret (v := .agg #[.int .i64 9, .string ⟨#[]⟩, .int .i64 0, .slice (some ⟨rb, 0, none⟩) 2 2, .int .i64 tp]) (results_cell_row rfl _ _ (w.heap.size + 1) _ _ (0, 0) _ rfl HT.out Tryd.underlying80 rfl (by kernel_rfl)) rfl ?_
  exact HG.out
set_option maxHeartbeats 4000000 in
set_option maxRecDepth 100000 in
theorem cmp_ne (w : World) (r g o c : Nat) (l : List TI) (nest : Nat) (h : Rd w r g o c l nest) (hr : r < w.heap.size) (a : Ex) (t : TI) (m : List TI)
  (hC : ∀ W o c, Rd W r g o c l nest → r < W.heap.size → Calls Tryd.prog 110 #[.pointer (some ⟨r, 0, none⟩)] W (Done r g nest W (.ok (a, t :: m))))
  (hm : 0 < m.length) (q : Pol.PR Ex) (hC2 : ∀ W o c, Rd W r g o c m nest → r < W.heap.size → Calls Tryd.prog 110 #[.pointer (some ⟨r, 0, none⟩)] W (Done r g nest W q))
  (hk : t.k = 4) (hs : t.s.toList = [33, 61]) :
  Calls Tryd.prog 108 #[.pointer (some ⟨r, 0, none⟩)] w (Done r g nest w (Pol.twoOf 10 t.p false a q)) := by
 have HK := Lib.hid hk
 clear hk
 have HRD := Lib.hid h
 have HC := Lib.hid hC
 have HR := Lib.hid (alloc2 w (.cells #[.pointer (some ⟨r, 0, none⟩)] 94) (.cells z5 80))
 have hg := h.gl
 have HA0 : Hid (Fr [] w ((w.alloc (.cells #[.pointer (some ⟨r, 0, none⟩)] 94)).alloc (.cells z5 80))) := ((Fr.refl [] w).alloc _).alloc _
 have HN := Lib.hid (HC.out _ o c (HRD.out.fr HA0.out (by simp) (by simp)) (by simp; omega))
 clear h hC
 go_enter Tryd.func108, Tryd.ntmps108
 go_wp2_with fail
 refine HN.out.mono ?_
 intro e w1 hd
 obtain ⟨cs, rfl, hrep, hf3, o3, c3, hr3⟩ := hd
 obtain ⟨op0, s9, n9, q9, k9, c9, p9, rfl⟩ := hrep.form
 obtain ⟨tk, ts, tn, tp⟩ := t
 skip
 have hbx := hf3.row HR.out.1 (by simp; omega)
 have hrs := hf3.row HR.out.2 (by simp; omega)
 have hz1 : w.heap.size + 1 < w1.heap.size := row_lt hrs
 obtain ⟨a0, a1, a2, a3⟩ := hr3.tk 0 _ rfl
 have c0 := hr3.c0
 have hlc := hr3.lc
 have hm := hr3.cm
 have hne := hr3.ne
 have x0 : w1.cell? ⟨w.heap.size, 0, none⟩ = some (.pointer (some ⟨r, 0, none⟩)) := by rw [Lib.cell_of_heap hbx]; rfl
 rw [List.length_cons] at c0 hlc
 unfold maxLen at hm
 simp only [Nat.mul_zero, Nat.add_zero] at a0 a1 a2 a3
 have hg1 := hr3.gl
 have hr1 : r < w1.heap.size := row_lt hr3.row
 have hmf : ∀ fn first cap w, (Instr.makeFunc fn first cap).run Tryd.prog w = .ok (.func fn first cap) w := fun _ _ _ _ => rfl
 have HRP := Lib.hid (hrep.mono (E := fun i => w.heap.size ≤ i ∧ i ≠ w.heap.size + 1) (fun i hi h => by
  have h9 : ((w.alloc (.cells #[.pointer (some ⟨r, 0, none⟩)] 94)).alloc (.cells z5 80)).heap.size ≤ i := h
  simp at h9
  exact ⟨by omega, by omega⟩))
 have HR3 := Lib.hid hr3
 have HBX := Lib.hid hbx
 have HRS := Lib.hid hrs
 have HF3 : Hid (Fr [r] w w1) := HA0.out.sub.trans hf3 (fun y hy => .inl hy)
 clear hrep hf3 hr3 hbx hrs HN HR HA0
 have hz0 : w.heap.size < w1.heap.size := by omega
 go_upto_region 5 with fail
 refine wp_fresh (fun W => Cmp w w.heap.size (w1.heap.size + 1) w1.heap.size (w1.heap.size + 1 + 1) (w.heap.size + 1) r g o3 c3 (⟨tk, ts, tn, tp⟩ :: m) nest ⟨tk, ts, tn, tp⟩ [.int .i64 op0, .string s9, .int .i64 n9, .slice q9 k9 c9, .int .i64 p9] a W) ?_ ?_
 ·have hal := alloc3 w1 (.cells #[.int .i64 op0, .string s9, .int .i64 n9, .slice q9 k9 c9, .int .i64 p9] 80) (.cells #[.int .i64 tk, .string ts, .int .i64 tn, .int .i64 tp] 25) (.cells #[.func (.func 111) #[] #[.pointer (some ⟨w.heap.size, 0, none⟩), .pointer (some ⟨w1.heap.size + 1, 0, none⟩), .pointer (some ⟨w1.heap.size, 0, none⟩)]] 163)
  have hf : Fr [] w1 _ := (((Fr.refl [] w1).alloc (.cells #[.int .i64 op0, .string s9, .int .i64 n9, .slice q9 k9 c9, .int .i64 p9] 80)).alloc (.cells #[.int .i64 tk, .string ts, .int .i64 tn, .int .i64 tp] 25)).alloc (.cells #[.func (.func 111) #[] #[.pointer (some ⟨w.heap.size, 0, none⟩), .pointer (some ⟨w1.heap.size + 1, 0, none⟩), .pointer (some ⟨w1.heap.size, 0, none⟩)]] 163)
  have h1 := HR3.out.fr hf (by simp) (by simp)
  have h2 := hf.row HBX.out (by simp)
  have h3 := hf.row HRS.out (by simp)
  have h4 := HRP.out.fr hf (fun y hy _ => by cases hy)
  have h5 := HF3.out.trans0 hf
  exact ⟨⟨h1, h2, hal.2.1, hal.1, h4, fun i hi => hi.1, hr, hg, Nat.le_refl _, by omega, by omega⟩, h3, hal.2.2, h5, ⟨by omega, by omega, by omega, by omega⟩, by omega, by omega⟩
 intro W h1
 have H := Lib.hid h1
 clear h1 a0 a1 a2 a3 c0 hlc hm hne x0 HBX HRS HRP HR3
 have hrW := row_lt H.out.cls.rd.row
 have hresW := row_lt H.out.res
 have hAW := row_lt H.out.cls.av
 have hTW := row_lt H.out.cls.tok
 have hFW := row_lt H.out.fn
 have kf : ∀ i, W.frozen? ⟨(w1.heap.size + 1), i, none⟩ = false := fun i => Lib.frozen_of_heap H.out.cls.tok i
 have k0 : W.cell? ⟨(w1.heap.size + 1), 0, none⟩ = some (.int .i64 tk) := by rw [Lib.cell_of_heap H.out.cls.tok]; rfl
 have k1 : W.cell? ⟨(w1.heap.size + 1), 1, none⟩ = some (.string ts) := by rw [Lib.cell_of_heap H.out.cls.tok]; rfl
 have k2 : W.cell? ⟨(w1.heap.size + 1), 2, none⟩ = some (.int .i64 tn) := by rw [Lib.cell_of_heap H.out.cls.tok]; rfl
 have k3 : W.cell? ⟨(w1.heap.size + 1), 3, none⟩ = some (.int .i64 tp) := by rw [Lib.cell_of_heap H.out.cls.tok]; rfl
 have ef : ∀ i, W.frozen? ⟨w1.heap.size, i, none⟩ = false := fun i => Lib.frozen_of_heap H.out.cls.av i
 have e0 : W.cell? ⟨w1.heap.size, 0, none⟩ = some (.int .i64 op0) := by rw [Lib.cell_of_heap H.out.cls.av]; rfl
 have e1 : W.cell? ⟨w1.heap.size, 1, none⟩ = some (.string s9) := by rw [Lib.cell_of_heap H.out.cls.av]; rfl
 have e2 : W.cell? ⟨w1.heap.size, 2, none⟩ = some (.int .i64 n9) := by rw [Lib.cell_of_heap H.out.cls.av]; rfl
 have e3 : W.cell? ⟨w1.heap.size, 3, none⟩ = some (.slice q9 k9 c9) := by rw [Lib.cell_of_heap H.out.cls.av]; rfl
 have e4 : W.cell? ⟨w1.heap.size, 4, none⟩ = some (.int .i64 p9) := by rw [Lib.cell_of_heap H.out.cls.av]; rfl
 have xf : ∀ i, W.frozen? ⟨w.heap.size, i, none⟩ = false := fun i => Lib.frozen_of_heap H.out.cls.box i
 have x0 : W.cell? ⟨w.heap.size, 0, none⟩ = some (.pointer (some ⟨r, 0, none⟩)) := by rw [Lib.cell_of_heap H.out.cls.box]; rfl
 have yf : ∀ i, W.frozen? ⟨(w1.heap.size + 1 + 1), i, none⟩ = false := fun i => Lib.frozen_of_heap H.out.fn i
 have y0 : W.cell? ⟨(w1.heap.size + 1 + 1), 0, none⟩ = some (.func (.func 111) #[] #[.pointer (some ⟨w.heap.size, 0, none⟩), .pointer (some ⟨w1.heap.size + 1, 0, none⟩), .pointer (some ⟨w1.heap.size, 0, none⟩)]) := by rw [Lib.cell_of_heap H.out.fn]; rfl
 have d4 : (tk == 4) = true := by simpa using HK.out
 have q0 : (ts.toList == [61]) = false := by rw [hs]; rfl
 have q1 : (ts.toList == [33, 61]) = true := by rw [hs]; rfl
 clear hs
 have HTWO := Lib.hid (two_reads _ _ _ _ _ r g _ _ _ m nest _ _ a W H.out.cls H.out.below hm 10 q hC2)
 clear hC2
 go_wp2_with fail
 refine HTWO.out.mono ?_
 intro e w2 hd
 cases q with
 | error pe =>
  obtain ⟨pp, pn⟩ := pe
  have hs9 : Stops [r] W pp pn e w2 := hd
  obtain ⟨b9, hb9, rfl, hrow9, hf9⟩ := hs9.from (bs := [r]) H.out.f (fun y hy => .inl (by simpa using hy))
  show _
  exact ⟨rfl, Done.stop ⟨b9, hb9, rfl, hrow9, hf9⟩⟩
 | ok ym =>
  obtain ⟨y, m2⟩ := ym
  obtain ⟨ca, cb, rb, rfl, hrb, hrbz, hra, hry, hf3, o4, c4, hr4⟩ := hd
  have hrp := rep_two hra hry hrb (H.out.below _ hrbz) 10 tp
  have H := Lib.hid (H.out.step hf3 hr4)
  have HRP := Lib.hid hrp
  clear hrb hrbz hra hry hf3 hr4 hrp HTWO k0 k1 k2 k3 kf e0 e1 e2 e3 e4 ef x0 xf y0 yf
  have zf : ∀ i, w2.frozen? ⟨(w.heap.size + 1), i, none⟩ = false := fun i => Lib.frozen_of_heap H.out.res i
  have z0 : w2.cell? ⟨(w.heap.size + 1), 0, none⟩ = some (.int .i64 0) := by rw [Lib.cell_of_heap H.out.res]; rfl
  have z1 : w2.cell? ⟨(w.heap.size + 1), 1, none⟩ = some (.string ⟨#[]⟩) := by rw [Lib.cell_of_heap H.out.res]; rfl
  have z2 : w2.cell? ⟨(w.heap.size + 1), 2, none⟩ = some (.int .i64 0) := by rw [Lib.cell_of_heap H.out.res]; rfl
  have z3 : w2.cell? ⟨(w.heap.size + 1), 3, none⟩ = some (.slice none 0 0) := by rw [Lib.cell_of_heap H.out.res]; rfl
  have z4 : w2.cell? ⟨(w.heap.size + 1), 4, none⟩ = some (.int .i64 0) := by rw [Lib.cell_of_heap H.out.res]; rfl
  have HG := Lib.hid (H.out.give HRP.out)
  have HT := Lib.hid (heap_five H.out.res (.int .i64 10) (.string ⟨#[]⟩) (.int .i64 0) (.slice (some ⟨rb, 0, none⟩) 2 2) (.int .i64 tp))
  go_wp2_with fail
  refine bodyPost_ret (v := .agg #[.int .i64 10, .string ⟨#[]⟩, .int .i64 0, .slice (some ⟨rb, 0, none⟩) 2 2, .int .i64 tp]) (results_cell_row rfl _ _ (w.heap.size + 1) _ _ (0, 0) _ rfl HT.out Tryd.underlying80 rfl (by kernel_rfl)) rfl ?_
  exact HG.out
set_option maxHeartbeats 4000000 in
set_option maxRecDepth 100000 in
theorem cmp_lt (w : World) (r g o c : Nat) (l : List TI) (nest : Nat) (h : Rd w r g o c l nest) (hr : r < w.heap.size) (a : Ex) (t : TI) (m : List TI)
  (hC : ∀ W o c, Rd W r g o c l nest → r < W.heap.size → Calls Tryd.prog 110 #[.pointer (some ⟨r, 0, none⟩)] W (Done r g nest W (.ok (a, t :: m))))
  (hm : 0 < m.length) (q : Pol.PR Ex) (hC2 : ∀ W o c, Rd W r g o c m nest → r < W.heap.size → Calls Tryd.prog 110 #[.pointer (some ⟨r, 0, none⟩)] W (Done r g nest W q))
  (hk : t.k = 4) (hs : t.s.toList = [60]) :
  Calls Tryd.prog 108 #[.pointer (some ⟨r, 0, none⟩)] w (Done r g nest w (Pol.twoOf 11 t.p false a q)) := by
 have HK := Lib.hid hk
 clear hk
 have HRD := Lib.hid h
 have HC := Lib.hid hC
 have HR := Lib.hid (alloc2 w (.cells #[.pointer (some ⟨r, 0, none⟩)] 94) (.cells z5 80))
 have hg := h.gl
 have HA0 : Hid (Fr [] w ((w.alloc (.cells #[.pointer (some ⟨r, 0, none⟩)] 94)).alloc (.cells z5 80))) := ((Fr.refl [] w).alloc _).alloc _
 have HN := Lib.hid (HC.out _ o c (HRD.out.fr HA0.out (by simp) (by simp)) (by simp; omega))
 clear h hC
 go_enter Tryd.func108, Tryd.ntmps108
 go_wp2_with fail
 refine HN.out.mono ?_
 intro e w1 hd
 obtain ⟨cs, rfl, hrep, hf3, o3, c3, hr3⟩ := hd
 obtain ⟨op0, s9, n9, q9, k9, c9, p9, rfl⟩ := hrep.form
 obtain ⟨tk, ts, tn, tp⟩ := t
 skip
 have hbx := hf3.row HR.out.1 (by simp; omega)
 have hrs := hf3.row HR.out.2 (by simp; omega)
 have hz1 : w.heap.size + 1 < w1.heap.size := row_lt hrs
 obtain ⟨a0, a1, a2, a3⟩ := hr3.tk 0 _ rfl
 have c0 := hr3.c0
 have hlc := hr3.lc
 have hm := hr3.cm
 have hne := hr3.ne
 have x0 : w1.cell? ⟨w.heap.size, 0, none⟩ = some (.pointer (some ⟨r, 0, none⟩)) := by rw [Lib.cell_of_heap hbx]; rfl
 rw [List.length_cons] at c0 hlc
 unfold maxLen at hm
 simp only [Nat.mul_zero, Nat.add_zero] at a0 a1 a2 a3
 have hg1 := hr3.gl
 have hr1 : r < w1.heap.size := row_lt hr3.row
 have hmf : ∀ fn first cap w, (Instr.makeFunc fn first cap).run Tryd.prog w = .ok (.func fn first cap) w := fun _ _ _ _ => rfl
 have HRP := Lib.hid (hrep.mono (E := fun i => w.heap.size ≤ i ∧ i ≠ w.heap.size + 1) (fun i hi h => by
  have h9 : ((w.alloc (.cells #[.pointer (some ⟨r, 0, none⟩)] 94)).alloc (.cells z5 80)).heap.size ≤ i := h
  simp at h9
  exact ⟨by omega, by omega⟩))
 have HR3 := Lib.hid hr3
 have HBX := Lib.hid hbx
 have HRS := Lib.hid hrs
 have HF3 : Hid (Fr [r] w w1) := HA0.out.sub.trans hf3 (fun y hy => .inl hy)
 clear hrep hf3 hr3 hbx hrs HN HR HA0
 have hz0 : w.heap.size < w1.heap.size := by omega
 go_upto_region 5 with fail
 refine wp_fresh (fun W => Cmp w w.heap.size (w1.heap.size + 1) w1.heap.size (w1.heap.size + 1 + 1) (w.heap.size + 1) r g o3 c3 (⟨tk, ts, tn, tp⟩ :: m) nest ⟨tk, ts, tn, tp⟩ [.int .i64 op0, .string s9, .int .i64 n9, .slice q9 k9 c9, .int .i64 p9] a W) ?_ ?_
 ·have hal := alloc3 w1 (.cells #[.int .i64 op0, .string s9, .int .i64 n9, .slice q9 k9 c9, .int .i64 p9] 80) (.cells #[.int .i64 tk, .string ts, .int .i64 tn, .int .i64 tp] 25) (.cells #[.func (.func 111) #[] #[.pointer (some ⟨w.heap.size, 0, none⟩), .pointer (some ⟨w1.heap.size + 1, 0, none⟩), .pointer (some ⟨w1.heap.size, 0, none⟩)]] 163)
  have hf : Fr [] w1 _ := (((Fr.refl [] w1).alloc (.cells #[.int .i64 op0, .string s9, .int .i64 n9, .slice q9 k9 c9, .int .i64 p9] 80)).alloc (.cells #[.int .i64 tk, .string ts, .int .i64 tn, .int .i64 tp] 25)).alloc (.cells #[.func (.func 111) #[] #[.pointer (some ⟨w.heap.size, 0, none⟩), .pointer (some ⟨w1.heap.size + 1, 0, none⟩), .pointer (some ⟨w1.heap.size, 0, none⟩)]] 163)
  have h1 := HR3.out.fr hf (by simp) (by simp)
  have h2 := hf.row HBX.out (by simp)
  have h3 := hf.row HRS.out (by simp)
  have h4 := HRP.out.fr hf (fun y hy _ => by cases hy)
  have h5 := HF3.out.trans0 hf
  exact ⟨⟨h1, h2, hal.2.1, hal.1, h4, fun i hi => hi.1, hr, hg, Nat.le_refl _, by omega, by omega⟩, h3, hal.2.2, h5, ⟨by omega, by omega, by omega, by omega⟩, by omega, by omega⟩
 intro W h1
 have H := Lib.hid h1
 clear h1 a0 a1 a2 a3 c0 hlc hm hne x0 HBX HRS HRP HR3
 have hrW := row_lt H.out.cls.rd.row
 have hresW := row_lt H.out.res
 have hAW := row_lt H.out.cls.av
 have hTW := row_lt H.out.cls.tok
 have hFW := row_lt H.out.fn
 have kf : ∀ i, W.frozen? ⟨(w1.heap.size + 1), i, none⟩ = false := fun i => Lib.frozen_of_heap H.out.cls.tok i
 have k0 : W.cell? ⟨(w1.heap.size + 1), 0, none⟩ = some (.int .i64 tk) := by rw [Lib.cell_of_heap H.out.cls.tok]; rfl
 have k1 : W.cell? ⟨(w1.heap.size + 1), 1, none⟩ = some (.string ts) := by rw [Lib.cell_of_heap H.out.cls.tok]; rfl
 have k2 : W.cell? ⟨(w1.heap.size + 1), 2, none⟩ = some (.int .i64 tn) := by rw [Lib.cell_of_heap H.out.cls.tok]; rfl
 have k3 : W.cell? ⟨(w1.heap.size + 1), 3, none⟩ = some (.int .i64 tp) := by rw [Lib.cell_of_heap H.out.cls.tok]; rfl
 have ef : ∀ i, W.frozen? ⟨w1.heap.size, i, none⟩ = false := fun i => Lib.frozen_of_heap H.out.cls.av i
 have e0 : W.cell? ⟨w1.heap.size, 0, none⟩ = some (.int .i64 op0) := by rw [Lib.cell_of_heap H.out.cls.av]; rfl
 have e1 : W.cell? ⟨w1.heap.size, 1, none⟩ = some (.string s9) := by rw [Lib.cell_of_heap H.out.cls.av]; rfl
 have e2 : W.cell? ⟨w1.heap.size, 2, none⟩ = some (.int .i64 n9) := by rw [Lib.cell_of_heap H.out.cls.av]; rfl
 have e3 : W.cell? ⟨w1.heap.size, 3, none⟩ = some (.slice q9 k9 c9) := by rw [Lib.cell_of_heap H.out.cls.av]; rfl
 have e4 : W.cell? ⟨w1.heap.size, 4, none⟩ = some (.int .i64 p9) := by rw [Lib.cell_of_heap H.out.cls.av]; rfl
 have xf : ∀ i, W.frozen? ⟨w.heap.size, i, none⟩ = false := fun i => Lib.frozen_of_heap H.out.cls.box i
 have x0 : W.cell? ⟨w.heap.size, 0, none⟩ = some (.pointer (some ⟨r, 0, none⟩)) := by rw [Lib.cell_of_heap H.out.cls.box]; rfl
 have yf : ∀ i, W.frozen? ⟨(w1.heap.size + 1 + 1), i, none⟩ = false := fun i => Lib.frozen_of_heap H.out.fn i
 have y0 : W.cell? ⟨(w1.heap.size + 1 + 1), 0, none⟩ = some (.func (.func 111) #[] #[.pointer (some ⟨w.heap.size, 0, none⟩), .pointer (some ⟨w1.heap.size + 1, 0, none⟩), .pointer (some ⟨w1.heap.size, 0, none⟩)]) := by rw [Lib.cell_of_heap H.out.fn]; rfl
 have d4 : (tk == 4) = true := by simpa using HK.out
 have q0 : (ts.toList == [61]) = false := by rw [hs]; rfl
 have q1 : (ts.toList == [33, 61]) = false := by rw [hs]; rfl
 have q2 : (ts.toList == [60]) = true := by rw [hs]; rfl
 clear hs
 have HTWO := Lib.hid (two_reads _ _ _ _ _ r g _ _ _ m nest _ _ a W H.out.cls H.out.below hm 11 q hC2)
 clear hC2
 go_wp2_with fail
 refine HTWO.out.mono ?_
 intro e w2 hd
 cases q with
 | error pe =>
  obtain ⟨pp, pn⟩ := pe
  have hs9 : Stops [r] W pp pn e w2 := hd
  obtain ⟨b9, hb9, rfl, hrow9, hf9⟩ := hs9.from (bs := [r]) H.out.f (fun y hy => .inl (by simpa using hy))
  show _
  exact ⟨rfl, Done.stop ⟨b9, hb9, rfl, hrow9, hf9⟩⟩
 | ok ym =>
  obtain ⟨y, m2⟩ := ym
  obtain ⟨ca, cb, rb, rfl, hrb, hrbz, hra, hry, hf3, o4, c4, hr4⟩ := hd
  have hrp := rep_two hra hry hrb (H.out.below _ hrbz) 11 tp
  have H := Lib.hid (H.out.step hf3 hr4)
  have HRP := Lib.hid hrp
  clear hrb hrbz hra hry hf3 hr4 hrp HTWO k0 k1 k2 k3 kf e0 e1 e2 e3 e4 ef x0 xf y0 yf
  have zf : ∀ i, w2.frozen? ⟨(w.heap.size + 1), i, none⟩ = false := fun i => Lib.frozen_of_heap H.out.res i
  have z0 : w2.cell? ⟨(w.heap.size + 1), 0, none⟩ = some (.int .i64 0) := by rw [Lib.cell_of_heap H.out.res]; rfl
  have z1 : w2.cell? ⟨(w.heap.size + 1), 1, none⟩ = some (.string ⟨#[]⟩) := by rw [Lib.cell_of_heap H.out.res]; rfl
  have z2 : w2.cell? ⟨(w.heap.size + 1), 2, none⟩ = some (.int .i64 0) := by rw [Lib.cell_of_heap H.out.res]; rfl
  have z3 : w2.cell? ⟨(w.heap.size + 1), 3, none⟩ = some (.slice none 0 0) := by rw [Lib.cell_of_heap H.out.res]; rfl
  have z4 : w2.cell? ⟨(w.heap.size + 1), 4, none⟩ = some (.int .i64 0) := by rw [Lib.cell_of_heap H.out.res]; rfl
  have HG := Lib.hid (H.out.give HRP.out)
  have HT := Lib.hid (heap_five H.out.res (.int .i64 11) (.string ⟨#[]⟩) (.int .i64 0) (.slice (some ⟨rb, 0, none⟩) 2 2) (.int .i64 tp))
  go_wp2_with fail
  refine bodyPost_ret (v := .agg #[.int .i64 11, .string ⟨#[]⟩, .int .i64 0, .slice (some ⟨rb, 0, none⟩) 2 2, .int .i64 tp]) (results_cell_row rfl _ _ (w.heap.size + 1) _ _ (0, 0) _ rfl HT.out Tryd.underlying80 rfl (by kernel_rfl)) rfl ?_
  exact HG.out
set_option maxHeartbeats 4000000 in
set_option maxRecDepth 100000 in
theorem cmp_le (w : World) (r g o c : Nat) (l : List TI) (nest : Nat) (h : Rd w r g o c l nest) (hr : r < w.heap.size) (a : Ex) (t : TI) (m : List TI)
  (hC : ∀ W o c, Rd W r g o c l nest → r < W.heap.size → Calls Tryd.prog 110 #[.pointer (some ⟨r, 0, none⟩)] W (Done r g nest W (.ok (a, t :: m))))
  (hm : 0 < m.length) (q : Pol.PR Ex) (hC2 : ∀ W o c, Rd W r g o c m nest → r < W.heap.size → Calls Tryd.prog 110 #[.pointer (some ⟨r, 0, none⟩)] W (Done r g nest W q))
  (hk : t.k = 4) (hs : t.s.toList = [60, 61]) :
  Calls Tryd.prog 108 #[.pointer (some ⟨r, 0, none⟩)] w (Done r g nest w (Pol.twoOf 12 t.p false a q)) := by
 have HK := Lib.hid hk
 clear hk
 have HRD := Lib.hid h
 have HC := Lib.hid hC
 have HR := Lib.hid (alloc2 w (.cells #[.pointer (some ⟨r, 0, none⟩)] 94) (.cells z5 80))
 have hg := h.gl
 have HA0 : Hid (Fr [] w ((w.alloc (.cells #[.pointer (some ⟨r, 0, none⟩)] 94)).alloc (.cells z5 80))) := ((Fr.refl [] w).alloc _).alloc _
 have HN := Lib.hid (HC.out _ o c (HRD.out.fr HA0.out (by simp) (by simp)) (by simp; omega))
 clear h hC
 go_enter Tryd.func108, Tryd.ntmps108
 go_wp2_with fail
 refine HN.out.mono ?_
 intro e w1 hd
 obtain ⟨cs, rfl, hrep, hf3, o3, c3, hr3⟩ := hd
 obtain ⟨op0, s9, n9, q9, k9, c9, p9, rfl⟩ := hrep.form
 obtain ⟨tk, ts, tn, tp⟩ := t
 skip
 have hbx := hf3.row HR.out.1 (by simp; omega)
 have hrs := hf3.row HR.out.2 (by simp; omega)
 have hz1 : w.heap.size + 1 < w1.heap.size := row_lt hrs
 obtain ⟨a0, a1, a2, a3⟩ := hr3.tk 0 _ rfl
 have c0 := hr3.c0
 have hlc := hr3.lc
 have hm := hr3.cm
 have hne := hr3.ne
 have x0 : w1.cell? ⟨w.heap.size, 0, none⟩ = some (.pointer (some ⟨r, 0, none⟩)) := by rw [Lib.cell_of_heap hbx]; rfl
 rw [List.length_cons] at c0 hlc
 unfold maxLen at hm
 simp only [Nat.mul_zero, Nat.add_zero] at a0 a1 a2 a3
 have hg1 := hr3.gl
 have hr1 : r < w1.heap.size := row_lt hr3.row
 have hmf : ∀ fn first cap w, (Instr.makeFunc fn first cap).run Tryd.prog w = .ok (.func fn first cap) w := fun _ _ _ _ => rfl
 have HRP := Lib.hid (hrep.mono (E := fun i => w.heap.size ≤ i ∧ i ≠ w.heap.size + 1) (fun i hi h => by
  have h9 : ((w.alloc (.cells #[.pointer (some ⟨r, 0, none⟩)] 94)).alloc (.cells z5 80)).heap.size ≤ i := h
  simp at h9
  exact ⟨by omega, by omega⟩))
 have HR3 := Lib.hid hr3
 have HBX := Lib.hid hbx
 have HRS := Lib.hid hrs
 have HF3 : Hid (Fr [r] w w1) := HA0.out.sub.trans hf3 (fun y hy => .inl hy)
 clear hrep hf3 hr3 hbx hrs HN HR HA0
 have hz0 : w.heap.size < w1.heap.size := by omega
 go_upto_region 5 with fail
 refine wp_fresh (fun W => Cmp w w.heap.size (w1.heap.size + 1) w1.heap.size (w1.heap.size + 1 + 1) (w.heap.size + 1) r g o3 c3 (⟨tk, ts, tn, tp⟩ :: m) nest ⟨tk, ts, tn, tp⟩ [.int .i64 op0, .string s9, .int .i64 n9, .slice q9 k9 c9, .int .i64 p9] a W) ?_ ?_
 ·have hal := alloc3 w1 (.cells #[.int .i64 op0, .string s9, .int .i64 n9, .slice q9 k9 c9, .int .i64 p9] 80) (.cells #[.int .i64 tk, .string ts, .int .i64 tn, .int .i64 tp] 25) (.cells #[.func (.func 111) #[] #[.pointer (some ⟨w.heap.size, 0, none⟩), .pointer (some ⟨w1.heap.size + 1, 0, none⟩), .pointer (some ⟨w1.heap.size, 0, none⟩)]] 163)
  have hf : Fr [] w1 _ := (((Fr.refl [] w1).alloc (.cells #[.int .i64 op0, .string s9, .int .i64 n9, .slice q9 k9 c9, .int .i64 p9] 80)).alloc (.cells #[.int .i64 tk, .string ts, .int .i64 tn, .int .i64 tp] 25)).alloc (.cells #[.func (.func 111) #[] #[.pointer (some ⟨w.heap.size, 0, none⟩), .pointer (some ⟨w1.heap.size + 1, 0, none⟩), .pointer (some ⟨w1.heap.size, 0, none⟩)]] 163)
  have h1 := HR3.out.fr hf (by simp) (by simp)
  have h2 := hf.row HBX.out (by simp)
  have h3 := hf.row HRS.out (by simp)
  have h4 := HRP.out.fr hf (fun y hy _ => by cases hy)
  have h5 := HF3.out.trans0 hf
  exact ⟨⟨h1, h2, hal.2.1, hal.1, h4, fun i hi => hi.1, hr, hg, Nat.le_refl _, by omega, by omega⟩, h3, hal.2.2, h5, ⟨by omega, by omega, by omega, by omega⟩, by omega, by omega⟩
 intro W h1
 have H := Lib.hid h1
 clear h1 a0 a1 a2 a3 c0 hlc hm hne x0 HBX HRS HRP HR3
 have hrW := row_lt H.out.cls.rd.row
 have hresW := row_lt H.out.res
 have hAW := row_lt H.out.cls.av
 have hTW := row_lt H.out.cls.tok
 have hFW := row_lt H.out.fn
 have kf : ∀ i, W.frozen? ⟨(w1.heap.size + 1), i, none⟩ = false := fun i => Lib.frozen_of_heap H.out.cls.tok i
 have k0 : W.cell? ⟨(w1.heap.size + 1), 0, none⟩ = some (.int .i64 tk) := by rw [Lib.cell_of_heap H.out.cls.tok]; rfl
 have k1 : W.cell? ⟨(w1.heap.size + 1), 1, none⟩ = some (.string ts) := by rw [Lib.cell_of_heap H.out.cls.tok]; rfl
 have k2 : W.cell? ⟨(w1.heap.size + 1), 2, none⟩ = some (.int .i64 tn) := by rw [Lib.cell_of_heap H.out.cls.tok]; rfl
 have k3 : W.cell? ⟨(w1.heap.size + 1), 3, none⟩ = some (.int .i64 tp) := by rw [Lib.cell_of_heap H.out.cls.tok]; rfl
 have ef : ∀ i, W.frozen? ⟨w1.heap.size, i, none⟩ = false := fun i => Lib.frozen_of_heap H.out.cls.av i
 have e0 : W.cell? ⟨w1.heap.size, 0, none⟩ = some (.int .i64 op0) := by rw [Lib.cell_of_heap H.out.cls.av]; rfl
 have e1 : W.cell? ⟨w1.heap.size, 1, none⟩ = some (.string s9) := by rw [Lib.cell_of_heap H.out.cls.av]; rfl
 have e2 : W.cell? ⟨w1.heap.size, 2, none⟩ = some (.int .i64 n9) := by rw [Lib.cell_of_heap H.out.cls.av]; rfl
 have e3 : W.cell? ⟨w1.heap.size, 3, none⟩ = some (.slice q9 k9 c9) := by rw [Lib.cell_of_heap H.out.cls.av]; rfl
 have e4 : W.cell? ⟨w1.heap.size, 4, none⟩ = some (.int .i64 p9) := by rw [Lib.cell_of_heap H.out.cls.av]; rfl
 have xf : ∀ i, W.frozen? ⟨w.heap.size, i, none⟩ = false := fun i => Lib.frozen_of_heap H.out.cls.box i
 have x0 : W.cell? ⟨w.heap.size, 0, none⟩ = some (.pointer (some ⟨r, 0, none⟩)) := by rw [Lib.cell_of_heap H.out.cls.box]; rfl
 have yf : ∀ i, W.frozen? ⟨(w1.heap.size + 1 + 1), i, none⟩ = false := fun i => Lib.frozen_of_heap H.out.fn i
 have y0 : W.cell? ⟨(w1.heap.size + 1 + 1), 0, none⟩ = some (.func (.func 111) #[] #[.pointer (some ⟨w.heap.size, 0, none⟩), .pointer (some ⟨w1.heap.size + 1, 0, none⟩), .pointer (some ⟨w1.heap.size, 0, none⟩)]) := by rw [Lib.cell_of_heap H.out.fn]; rfl
 have d4 : (tk == 4) = true := by simpa using HK.out
 have q0 : (ts.toList == [61]) = false := by rw [hs]; rfl
 have q1 : (ts.toList == [33, 61]) = false := by rw [hs]; rfl
 have q2 : (ts.toList == [60]) = false := by rw [hs]; rfl
 have q3 : (ts.toList == [60, 61]) = true := by rw [hs]; rfl
 clear hs
 have HTWO := Lib.hid (two_reads _ _ _ _ _ r g _ _ _ m nest _ _ a W H.out.cls H.out.below hm 12 q hC2)
 clear hC2
 go_wp2_with fail
 refine HTWO.out.mono ?_
 intro e w2 hd
 cases q with
 | error pe =>
  obtain ⟨pp, pn⟩ := pe
  have hs9 : Stops [r] W pp pn e w2 := hd
  obtain ⟨b9, hb9, rfl, hrow9, hf9⟩ := hs9.from (bs := [r]) H.out.f (fun y hy => .inl (by simpa using hy))
  show _
  exact ⟨rfl, Done.stop ⟨b9, hb9, rfl, hrow9, hf9⟩⟩
 | ok ym =>
  obtain ⟨y, m2⟩ := ym
  obtain ⟨ca, cb, rb, rfl, hrb, hrbz, hra, hry, hf3, o4, c4, hr4⟩ := hd
  have hrp := rep_two hra hry hrb (H.out.below _ hrbz) 12 tp
  have H := Lib.hid (H.out.step hf3 hr4)
  have HRP := Lib.hid hrp
  clear hrb hrbz hra hry hf3 hr4 hrp HTWO k0 k1 k2 k3 kf e0 e1 e2 e3 e4 ef x0 xf y0 yf
  have zf : ∀ i, w2.frozen? ⟨(w.heap.size + 1), i, none⟩ = false := fun i => Lib.frozen_of_heap H.out.res i
  have z0 : w2.cell? ⟨(w.heap.size + 1), 0, none⟩ = some (.int .i64 0) := by rw [Lib.cell_of_heap H.out.res]; rfl
  have z1 : w2.cell? ⟨(w.heap.size + 1), 1, none⟩ = some (.string ⟨#[]⟩) := by rw [Lib.cell_of_heap H.out.res]; rfl
  have z2 : w2.cell? ⟨(w.heap.size + 1), 2, none⟩ = some (.int .i64 0) := by rw [Lib.cell_of_heap H.out.res]; rfl
  have z3 : w2.cell? ⟨(w.heap.size + 1), 3, none⟩ = some (.slice none 0 0) := by rw [Lib.cell_of_heap H.out.res]; rfl
  have z4 : w2.cell? ⟨(w.heap.size + 1), 4, none⟩ = some (.int .i64 0) := by rw [Lib.cell_of_heap H.out.res]; rfl
  have HG := Lib.hid (H.out.give HRP.out)
  have HT := Lib.hid (heap_five H.out.res (.int .i64 12) (.string ⟨#[]⟩) (.int .i64 0) (.slice (some ⟨rb, 0, none⟩) 2 2) (.int .i64 tp))
  go_wp2_with fail
  refine bodyPost_ret (v := .agg #[.int .i64 12, .string ⟨#[]⟩, .int .i64 0, .slice (some ⟨rb, 0, none⟩) 2 2, .int .i64 tp]) (results_cell_row rfl _ _ (w.heap.size + 1) _ _ (0, 0) _ rfl HT.out Tryd.underlying80 rfl (by kernel_rfl)) rfl ?_
  exact HG.out
set_option maxHeartbeats 4000000 in
set_option maxRecDepth 100000 in
theorem cmp_gt (w : World) (r g o c : Nat) (l : List TI) (nest : Nat) (h : Rd w r g o c l nest) (hr : r < w.heap.size) (a : Ex) (t : TI) (m : List TI)
  (hC : ∀ W o c, Rd W r g o c l nest → r < W.heap.size → Calls Tryd.prog 110 #[.pointer (some ⟨r, 0, none⟩)] W (Done r g nest W (.ok (a, t :: m))))
  (hm : 0 < m.length) (q : Pol.PR Ex) (hC2 : ∀ W o c, Rd W r g o c m nest → r < W.heap.size → Calls Tryd.prog 110 #[.pointer (some ⟨r, 0, none⟩)] W (Done r g nest W q))
  (hk : t.k = 4) (hs : t.s.toList = [62]) :
  Calls Tryd.prog 108 #[.pointer (some ⟨r, 0, none⟩)] w (Done r g nest w (Pol.twoOf 11 t.p true a q)) := by
 have HK := Lib.hid hk
 clear hk
 have HRD := Lib.hid h
 have HC := Lib.hid hC
 have HR := Lib.hid (alloc2 w (.cells #[.pointer (some ⟨r, 0, none⟩)] 94) (.cells z5 80))
 have hg := h.gl
 have HA0 : Hid (Fr [] w ((w.alloc (.cells #[.pointer (some ⟨r, 0, none⟩)] 94)).alloc (.cells z5 80))) := ((Fr.refl [] w).alloc _).alloc _
 have HN := Lib.hid (HC.out _ o c (HRD.out.fr HA0.out (by simp) (by simp)) (by simp; omega))
 clear h hC
 go_enter Tryd.func108, Tryd.ntmps108
 go_wp2_with fail
 refine HN.out.mono ?_
 intro e w1 hd
 obtain ⟨cs, rfl, hrep, hf3, o3, c3, hr3⟩ := hd
 obtain ⟨op0, s9, n9, q9, k9, c9, p9, rfl⟩ := hrep.form
 obtain ⟨tk, ts, tn, tp⟩ := t
 skip
 have hbx := hf3.row HR.out.1 (by simp; omega)
 have hrs := hf3.row HR.out.2 (by simp; omega)
 have hz1 : w.heap.size + 1 < w1.heap.size := row_lt hrs
 obtain ⟨a0, a1, a2, a3⟩ := hr3.tk 0 _ rfl
 have c0 := hr3.c0
 have hlc := hr3.lc
 have hm := hr3.cm
 have hne := hr3.ne
 have x0 : w1.cell? ⟨w.heap.size, 0, none⟩ = some (.pointer (some ⟨r, 0, none⟩)) := by rw [Lib.cell_of_heap hbx]; rfl
 rw [List.length_cons] at c0 hlc
 unfold maxLen at hm
 simp only [Nat.mul_zero, Nat.add_zero] at a0 a1 a2 a3
 have hg1 := hr3.gl
 have hr1 : r < w1.heap.size := row_lt hr3.row
 have hmf : ∀ fn first cap w, (Instr.makeFunc fn first cap).run Tryd.prog w = .ok (.func fn first cap) w := fun _ _ _ _ => rfl
 have HRP := Lib.hid (hrep.mono (E := fun i => w.heap.size ≤ i ∧ i ≠ w.heap.size + 1) (fun i hi h => by
  have h9 : ((w.alloc (.cells #[.pointer (some ⟨r, 0, none⟩)] 94)).alloc (.cells z5 80)).heap.size ≤ i := h
  simp at h9
  exact ⟨by omega, by omega⟩))
 have HR3 := Lib.hid hr3
 have HBX := Lib.hid hbx
 have HRS := Lib.hid hrs
 have HF3 : Hid (Fr [r] w w1) := HA0.out.sub.trans hf3 (fun y hy => .inl hy)
 clear hrep hf3 hr3 hbx hrs HN HR HA0
 have hz0 : w.heap.size < w1.heap.size := by omega
 go_upto_region 5 with fail
 refine wp_fresh (fun W => Cmp w w.heap.size (w1.heap.size + 1) w1.heap.size (w1.heap.size + 1 + 1) (w.heap.size + 1) r g o3 c3 (⟨tk, ts, tn, tp⟩ :: m) nest ⟨tk, ts, tn, tp⟩ [.int .i64 op0, .string s9, .int .i64 n9, .slice q9 k9 c9, .int .i64 p9] a W) ?_ ?_
 ·have hal := alloc3 w1 (.cells #[.int .i64 op0, .string s9, .int .i64 n9, .slice q9 k9 c9, .int .i64 p9] 80) (.cells #[.int .i64 tk, .string ts, .int .i64 tn, .int .i64 tp] 25) (.cells #[.func (.func 111) #[] #[.pointer (some ⟨w.heap.size, 0, none⟩), .pointer (some ⟨w1.heap.size + 1, 0, none⟩), .pointer (some ⟨w1.heap.size, 0, none⟩)]] 163)
  have hf : Fr [] w1 _ := (((Fr.refl [] w1).alloc (.cells #[.int .i64 op0, .string s9, .int .i64 n9, .slice q9 k9 c9, .int .i64 p9] 80)).alloc (.cells #[.int .i64 tk, .string ts, .int .i64 tn, .int .i64 tp] 25)).alloc (.cells #[.func (.func 111) #[] #[.pointer (some ⟨w.heap.size, 0, none⟩), .pointer (some ⟨w1.heap.size + 1, 0, none⟩), .pointer (some ⟨w1.heap.size, 0, none⟩)]] 163)
  have h1 := HR3.out.fr hf (by simp) (by simp)
  have h2 := hf.row HBX.out (by simp)
  have h3 := hf.row HRS.out (by simp)
  have h4 := HRP.out.fr hf (fun y hy _ => by cases hy)
  have h5 := HF3.out.trans0 hf
  exact ⟨⟨h1, h2, hal.2.1, hal.1, h4, fun i hi => hi.1, hr, hg, Nat.le_refl _, by omega, by omega⟩, h3, hal.2.2, h5, ⟨by omega, by omega, by omega, by omega⟩, by omega, by omega⟩
 intro W h1
 have H := Lib.hid h1
 clear h1 a0 a1 a2 a3 c0 hlc hm hne x0 HBX HRS HRP HR3
 have hrW := row_lt H.out.cls.rd.row
 have hresW := row_lt H.out.res
 have hAW := row_lt H.out.cls.av
 have hTW := row_lt H.out.cls.tok
 have hFW := row_lt H.out.fn
 have kf : ∀ i, W.frozen? ⟨(w1.heap.size + 1), i, none⟩ = false := fun i => Lib.frozen_of_heap H.out.cls.tok i
 have k0 : W.cell? ⟨(w1.heap.size + 1), 0, none⟩ = some (.int .i64 tk) := by rw [Lib.cell_of_heap H.out.cls.tok]; rfl
 have k1 : W.cell? ⟨(w1.heap.size + 1), 1, none⟩ = some (.string ts) := by rw [Lib.cell_of_heap H.out.cls.tok]; rfl
 have k2 : W.cell? ⟨(w1.heap.size + 1), 2, none⟩ = some (.int .i64 tn) := by rw [Lib.cell_of_heap H.out.cls.tok]; rfl
 have k3 : W.cell? ⟨(w1.heap.size + 1), 3, none⟩ = some (.int .i64 tp) := by rw [Lib.cell_of_heap H.out.cls.tok]; rfl
 have ef : ∀ i, W.frozen? ⟨w1.heap.size, i, none⟩ = false := fun i => Lib.frozen_of_heap H.out.cls.av i
 have e0 : W.cell? ⟨w1.heap.size, 0, none⟩ = some (.int .i64 op0) := by rw [Lib.cell_of_heap H.out.cls.av]; rfl
 have e1 : W.cell? ⟨w1.heap.size, 1, none⟩ = some (.string s9) := by rw [Lib.cell_of_heap H.out.cls.av]; rfl
 have e2 : W.cell? ⟨w1.heap.size, 2, none⟩ = some (.int .i64 n9) := by rw [Lib.cell_of_heap H.out.cls.av]; rfl
 have e3 : W.cell? ⟨w1.heap.size, 3, none⟩ = some (.slice q9 k9 c9) := by rw [Lib.cell_of_heap H.out.cls.av]; rfl
 have e4 : W.cell? ⟨w1.heap.size, 4, none⟩ = some (.int .i64 p9) := by rw [Lib.cell_of_heap H.out.cls.av]; rfl
 have xf : ∀ i, W.frozen? ⟨w.heap.size, i, none⟩ = false := fun i => Lib.frozen_of_heap H.out.cls.box i
 have x0 : W.cell? ⟨w.heap.size, 0, none⟩ = some (.pointer (some ⟨r, 0, none⟩)) := by rw [Lib.cell_of_heap H.out.cls.box]; rfl
 have yf : ∀ i, W.frozen? ⟨(w1.heap.size + 1 + 1), i, none⟩ = false := fun i => Lib.frozen_of_heap H.out.fn i
 have y0 : W.cell? ⟨(w1.heap.size + 1 + 1), 0, none⟩ = some (.func (.func 111) #[] #[.pointer (some ⟨w.heap.size, 0, none⟩), .pointer (some ⟨w1.heap.size + 1, 0, none⟩), .pointer (some ⟨w1.heap.size, 0, none⟩)]) := by rw [Lib.cell_of_heap H.out.fn]; rfl
 have d4 : (tk == 4) = true := by simpa using HK.out
 have q0 : (ts.toList == [61]) = false := by rw [hs]; rfl
 have q1 : (ts.toList == [33, 61]) = false := by rw [hs]; rfl
 have q2 : (ts.toList == [60]) = false := by rw [hs]; rfl
 have q3 : (ts.toList == [60, 61]) = false := by rw [hs]; rfl
 have q4 : (ts.toList == [62]) = true := by rw [hs]; rfl
 clear hs
 have HTWO := Lib.hid (turn_reads _ _ _ _ _ _ r g _ _ _ m nest _ _ a W H.out.cls H.out.fn H.out.below hm 11 q hC2)
 clear hC2
 go_wp2_with fail
 refine HTWO.out.mono ?_
 intro e w2 hd
 cases q with
 | error pe =>
  obtain ⟨pp, pn⟩ := pe
  have hs9 : Stops [r] W pp pn e w2 := hd
  obtain ⟨b9, hb9, rfl, hrow9, hf9⟩ := hs9.from (bs := [r]) H.out.f (fun y hy => .inl (by simpa using hy))
  show _
  exact ⟨rfl, Done.stop ⟨b9, hb9, rfl, hrow9, hf9⟩⟩
 | ok ym =>
  obtain ⟨y, m2⟩ := ym
  obtain ⟨cs2, rfl, hrp, hf3, o4, c4, hr4⟩ := hd
  obtain ⟨op2, s2, n2, q2, k2', c2, p2, rfl⟩ := hrp.form
  have H := Lib.hid (H.out.step hf3 hr4)
  have HRP := Lib.hid hrp
  clear hf3 hr4 hrp HTWO k0 k1 k2 k3 kf e0 e1 e2 e3 e4 ef x0 xf y0 yf
  have zf : ∀ i, w2.frozen? ⟨(w.heap.size + 1), i, none⟩ = false := fun i => Lib.frozen_of_heap H.out.res i
  have z0 : w2.cell? ⟨(w.heap.size + 1), 0, none⟩ = some (.int .i64 0) := by rw [Lib.cell_of_heap H.out.res]; rfl
  have z1 : w2.cell? ⟨(w.heap.size + 1), 1, none⟩ = some (.string ⟨#[]⟩) := by rw [Lib.cell_of_heap H.out.res]; rfl
  have z2 : w2.cell? ⟨(w.heap.size + 1), 2, none⟩ = some (.int .i64 0) := by rw [Lib.cell_of_heap H.out.res]; rfl
  have z3 : w2.cell? ⟨(w.heap.size + 1), 3, none⟩ = some (.slice none 0 0) := by rw [Lib.cell_of_heap H.out.res]; rfl
  have z4 : w2.cell? ⟨(w.heap.size + 1), 4, none⟩ = some (.int .i64 0) := by rw [Lib.cell_of_heap H.out.res]; rfl
  have HG := Lib.hid (H.out.give HRP.out)
  have HT := Lib.hid (heap_five H.out.res (.int .i64 op2) (.string s2) (.int .i64 n2) (.slice q2 k2' c2) (.int .i64 p2))
  go_wp2_with fail
  refine bodyPost_ret (v := .agg #[.int .i64 op2, .string s2, .int .i64 n2, .slice q2 k2' c2, .int .i64 p2]) (results_cell_row rfl _ _ (w.heap.size + 1) _ _ (0, 0) _ rfl HT.out Tryd.underlying80 rfl (by kernel_rfl)) rfl ?_
  exact HG.out
set_option maxHeartbeats 4000000 in
set_option maxRecDepth 100000 in
theorem cmp_ge (w : World) (r g o c : Nat) (l : List TI) (nest : Nat) (h : Rd w r g o c l nest) (hr : r < w.heap.size) (a : Ex) (t : TI) (m : List TI)
  (hC : ∀ W o c, Rd W r g o c l nest → r < W.heap.size → Calls Tryd.prog 110 #[.pointer (some ⟨r, 0, none⟩)] W (Done r g nest W (.ok (a, t :: m))))
  (hm : 0 < m.length) (q : Pol.PR Ex) (hC2 : ∀ W o c, Rd W r g o c m nest → r < W.heap.size → Calls Tryd.prog 110 #[.pointer (some ⟨r, 0, none⟩)] W (Done r g nest W q))
  (hk : t.k = 4) (hs : t.s.toList = [62, 61]) :
  Calls Tryd.prog 108 #[.pointer (some ⟨r, 0, none⟩)] w (Done r g nest w (Pol.twoOf 12 t.p true a q)) := by
 have HK := Lib.hid hk
 clear hk
 have HRD := Lib.hid h
 have HC := Lib.hid hC
 have HR := Lib.hid (alloc2 w (.cells #[.pointer (some ⟨r, 0, none⟩)] 94) (.cells z5 80))
 have hg := h.gl
 have HA0 : Hid (Fr [] w ((w.alloc (.cells #[.pointer (some ⟨r, 0, none⟩)] 94)).alloc (.cells z5 80))) := ((Fr.refl [] w).alloc _).alloc _
 have HN := Lib.hid (HC.out _ o c (HRD.out.fr HA0.out (by simp) (by simp)) (by simp; omega))
 clear h hC
 go_enter Tryd.func108, Tryd.ntmps108
 go_wp2_with fail
 refine HN.out.mono ?_
 intro e w1 hd
 obtain ⟨cs, rfl, hrep, hf3, o3, c3, hr3⟩ := hd
 obtain ⟨op0, s9, n9, q9, k9, c9, p9, rfl⟩ := hrep.form
 obtain ⟨tk, ts, tn, tp⟩ := t
 skip
 have hbx := hf3.row HR.out.1 (by simp; omega)
 have hrs := hf3.row HR.out.2 (by simp; omega)
 have hz1 : w.heap.size + 1 < w1.heap.size := row_lt hrs
 obtain ⟨a0, a1, a2, a3⟩ := hr3.tk 0 _ rfl
 have c0 := hr3.c0
 have hlc := hr3.lc
 have hm := hr3.cm
 have hne := hr3.ne
 have x0 : w1.cell? ⟨w.heap.size, 0, none⟩ = some (.pointer (some ⟨r, 0, none⟩)) := by rw [Lib.cell_of_heap hbx]; rfl
 rw [List.length_cons] at c0 hlc
 unfold maxLen at hm
 simp only [Nat.mul_zero, Nat.add_zero] at a0 a1 a2 a3
 have hg1 := hr3.gl
 have hr1 : r < w1.heap.size := row_lt hr3.row
 have hmf : ∀ fn first cap w, (Instr.makeFunc fn first cap).run Tryd.prog w = .ok (.func fn first cap) w := fun _ _ _ _ => rfl
 have HRP := Lib.hid (hrep.mono (E := fun i => w.heap.size ≤ i ∧ i ≠ w.heap.size + 1) (fun i hi h => by
  have h9 : ((w.alloc (.cells #[.pointer (some ⟨r, 0, none⟩)] 94)).alloc (.cells z5 80)).heap.size ≤ i := h
  simp at h9
  exact ⟨by omega, by omega⟩))
 have HR3 := Lib.hid hr3
 have HBX := Lib.hid hbx
 have HRS := Lib.hid hrs
 have HF3 : Hid (Fr [r] w w1) := HA0.out.sub.trans hf3 (fun y hy => .inl hy)
 clear hrep hf3 hr3 hbx hrs HN HR HA0
 have hz0 : w.heap.size < w1.heap.size := by omega
 go_upto_region 5 with fail
 refine wp_fresh (fun W => Cmp w w.heap.size (w1.heap.size + 1) w1.heap.size (w1.heap.size + 1 + 1) (w.heap.size + 1) r g o3 c3 (⟨tk, ts, tn, tp⟩ :: m) nest ⟨tk, ts, tn, tp⟩ [.int .i64 op0, .string s9, .int .i64 n9, .slice q9 k9 c9, .int .i64 p9] a W) ?_ ?_
 ·have hal := alloc3 w1 (.cells #[.int .i64 op0, .string s9, .int .i64 n9, .slice q9 k9 c9, .int .i64 p9] 80) (.cells #[.int .i64 tk, .string ts, .int .i64 tn, .int .i64 tp] 25) (.cells #[.func (.func 111) #[] #[.pointer (some ⟨w.heap.size, 0, none⟩), .pointer (some ⟨w1.heap.size + 1, 0, none⟩), .pointer (some ⟨w1.heap.size, 0, none⟩)]] 163)
  have hf : Fr [] w1 _ := (((Fr.refl [] w1).alloc (.cells #[.int .i64 op0, .string s9, .int .i64 n9, .slice q9 k9 c9, .int .i64 p9] 80)).alloc (.cells #[.int .i64 tk, .string ts, .int .i64 tn, .int .i64 tp] 25)).alloc (.cells #[.func (.func 111) #[] #[.pointer (some ⟨w.heap.size, 0, none⟩), .pointer (some ⟨w1.heap.size + 1, 0, none⟩), .pointer (some ⟨w1.heap.size, 0, none⟩)]] 163)
  have h1 := HR3.out.fr hf (by simp) (by simp)
  have h2 := hf.row HBX.out (by simp)
  have h3 := hf.row HRS.out (by simp)
  have h4 := HRP.out.fr hf (fun y hy _ => by cases hy)
  have h5 := HF3.out.trans0 hf
  exact ⟨⟨h1, h2, hal.2.1, hal.1, h4, fun i hi => hi.1, hr, hg, Nat.le_refl _, by omega, by omega⟩, h3, hal.2.2, h5, ⟨by omega, by omega, by omega, by omega⟩, by omega, by omega⟩
 intro W h1
 have H := Lib.hid h1
 clear h1 a0 a1 a2 a3 c0 hlc hm hne x0 HBX HRS HRP HR3
 have hrW := row_lt H.out.cls.rd.row
 have hresW := row_lt H.out.res
 have hAW := row_lt H.out.cls.av
 have hTW := row_lt H.out.cls.tok
 have hFW := row_lt H.out.fn
 have kf : ∀ i, W.frozen? ⟨(w1.heap.size + 1), i, none⟩ = false := fun i => Lib.frozen_of_heap H.out.cls.tok i
 have k0 : W.cell? ⟨(w1.heap.size + 1), 0, none⟩ = some (.int .i64 tk) := by rw [Lib.cell_of_heap H.out.cls.tok]; rfl
 have k1 : W.cell? ⟨(w1.heap.size + 1), 1, none⟩ = some (.string ts) := by rw [Lib.cell_of_heap H.out.cls.tok]; rfl
 have k2 : W.cell? ⟨(w1.heap.size + 1), 2, none⟩ = some (.int .i64 tn) := by rw [Lib.cell_of_heap H.out.cls.tok]; rfl
 have k3 : W.cell? ⟨(w1.heap.size + 1), 3, none⟩ = some (.int .i64 tp) := by rw [Lib.cell_of_heap H.out.cls.tok]; rfl
 have ef : ∀ i, W.frozen? ⟨w1.heap.size, i, none⟩ = false := fun i => Lib.frozen_of_heap H.out.cls.av i
 have e0 : W.cell? ⟨w1.heap.size, 0, none⟩ = some (.int .i64 op0) := by rw [Lib.cell_of_heap H.out.cls.av]; rfl
 have e1 : W.cell? ⟨w1.heap.size, 1, none⟩ = some (.string s9) := by rw [Lib.cell_of_heap H.out.cls.av]; rfl
 have e2 : W.cell? ⟨w1.heap.size, 2, none⟩ = some (.int .i64 n9) := by rw [Lib.cell_of_heap H.out.cls.av]; rfl
 have e3 : W.cell? ⟨w1.heap.size, 3, none⟩ = some (.slice q9 k9 c9) := by rw [Lib.cell_of_heap H.out.cls.av]; rfl
 have e4 : W.cell? ⟨w1.heap.size, 4, none⟩ = some (.int .i64 p9) := by rw [Lib.cell_of_heap H.out.cls.av]; rfl
 have xf : ∀ i, W.frozen? ⟨w.heap.size, i, none⟩ = false := fun i => Lib.frozen_of_heap H.out.cls.box i
 have x0 : W.cell? ⟨w.heap.size, 0, none⟩ = some (.pointer (some ⟨r, 0, none⟩)) := by rw [Lib.cell_of_heap H.out.cls.box]; rfl
 have yf : ∀ i, W.frozen? ⟨(w1.heap.size + 1 + 1), i, none⟩ = false := fun i => Lib.frozen_of_heap H.out.fn i
 have y0 : W.cell? ⟨(w1.heap.size + 1 + 1), 0, none⟩ = some (.func (.func 111) #[] #[.pointer (some ⟨w.heap.size, 0, none⟩), .pointer (some ⟨w1.heap.size + 1, 0, none⟩), .pointer (some ⟨w1.heap.size, 0, none⟩)]) := by rw [Lib.cell_of_heap H.out.fn]; rfl
 have d4 : (tk == 4) = true := by simpa using HK.out
 have q0 : (ts.toList == [61]) = false := by rw [hs]; rfl
 have q1 : (ts.toList == [33, 61]) = false := by rw [hs]; rfl
 have q2 : (ts.toList == [60]) = false := by rw [hs]; rfl
 have q3 : (ts.toList == [60, 61]) = false := by rw [hs]; rfl
 have q4 : (ts.toList == [62]) = false := by rw [hs]; rfl
 have q5 : (ts.toList == [62, 61]) = true := by rw [hs]; rfl
 clear hs
 have HTWO := Lib.hid (turn_reads _ _ _ _ _ _ r g _ _ _ m nest _ _ a W H.out.cls H.out.fn H.out.below hm 12 q hC2)
 clear hC2
 go_wp2_with fail
 refine HTWO.out.mono ?_
 intro e w2 hd
 cases q with
 | error pe =>
  obtain ⟨pp, pn⟩ := pe
  have hs9 : Stops [r] W pp pn e w2 := hd
  obtain ⟨b9, hb9, rfl, hrow9, hf9⟩ := hs9.from (bs := [r]) H.out.f (fun y hy => .inl (by simpa using hy))
  show _
  exact ⟨rfl, Done.stop ⟨b9, hb9, rfl, hrow9, hf9⟩⟩
 | ok ym =>
  obtain ⟨y, m2⟩ := ym
  obtain ⟨cs2, rfl, hrp, hf3, o4, c4, hr4⟩ := hd
  obtain ⟨op2, s2, n2, q2, k2', c2, p2, rfl⟩ := hrp.form
  have H := Lib.hid (H.out.step hf3 hr4)
  have HRP := Lib.hid hrp
  clear hf3 hr4 hrp HTWO k0 k1 k2 k3 kf e0 e1 e2 e3 e4 ef x0 xf y0 yf
  have zf : ∀ i, w2.frozen? ⟨(w.heap.size + 1), i, none⟩ = false := fun i => Lib.frozen_of_heap H.out.res i
  have z0 : w2.cell? ⟨(w.heap.size + 1), 0, none⟩ = some (.int .i64 0) := by rw [Lib.cell_of_heap H.out.res]; rfl
  have z1 : w2.cell? ⟨(w.heap.size + 1), 1, none⟩ = some (.string ⟨#[]⟩) := by rw [Lib.cell_of_heap H.out.res]; rfl
  have z2 : w2.cell? ⟨(w.heap.size + 1), 2, none⟩ = some (.int .i64 0) := by rw [Lib.cell_of_heap H.out.res]; rfl
  have z3 : w2.cell? ⟨(w.heap.size + 1), 3, none⟩ = some (.slice none 0 0) := by rw [Lib.cell_of_heap H.out.res]; rfl
  have z4 : w2.cell? ⟨(w.heap.size + 1), 4, none⟩ = some (.int .i64 0) := by rw [Lib.cell_of_heap H.out.res]; rfl
  have HG := Lib.hid (H.out.give HRP.out)
  have HT := Lib.hid (heap_five H.out.res (.int .i64 op2) (.string s2) (.int .i64 n2) (.slice q2 k2' c2) (.int .i64 p2))
  go_wp2_with fail
  refine bodyPost_ret (v := .agg #[.int .i64 op2, .string s2, .int .i64 n2, .slice q2 k2' c2, .int .i64 p2]) (results_cell_row rfl _ _ (w.heap.size + 1) _ _ (0, 0) _ rfl HT.out Tryd.underlying80 rfl (by kernel_rfl)) rfl ?_
  exact HG.out
set_option maxHeartbeats 4000000 in
set_option maxRecDepth 100000 in
theorem cmp_has (w : World) (r g o c : Nat) (l : List TI) (nest : Nat) (h : Rd w r g o c l nest) (hr : r < w.heap.size) (a : Ex) (t : TI) (m : List TI)
  (hC : ∀ W o c, Rd W r g o c l nest → r < W.heap.size → Calls Tryd.prog 110 #[.pointer (some ⟨r, 0, none⟩)] W (Done r g nest W (.ok (a, t :: m))))
  (hm : 0 < m.length) (q : Pol.PR Ex) (hC2 : ∀ W o c, Rd W r g o c m nest → r < W.heap.size → Calls Tryd.prog 110 #[.pointer (some ⟨r, 0, none⟩)] W (Done r g nest W q))
  (hk : t.k ≠ 4) (hs : Pol.is (t :: m) 1 [104, 97, 115] = true) :
  Calls Tryd.prog 108 #[.pointer (some ⟨r, 0, none⟩)] w (Done r g nest w (Pol.twoOf 14 t.p false a q)) := by
 have HK := Lib.hid hk
 have HS := Lib.hid hs
 clear hk hs
 have HRD := Lib.hid h
 have HC := Lib.hid hC
 have HR := Lib.hid (alloc2 w (.cells #[.pointer (some ⟨r, 0, none⟩)] 94) (.cells z5 80))
 have hg := h.gl
 have HA0 : Hid (Fr [] w ((w.alloc (.cells #[.pointer (some ⟨r, 0, none⟩)] 94)).alloc (.cells z5 80))) := ((Fr.refl [] w).alloc _).alloc _
 have HN := Lib.hid (HC.out _ o c (HRD.out.fr HA0.out (by simp) (by simp)) (by simp; omega))
 clear h hC
 go_enter Tryd.func108, Tryd.ntmps108
 go_wp2_with fail
 refine HN.out.mono ?_
 intro e w1 hd
 obtain ⟨cs, rfl, hrep, hf3, o3, c3, hr3⟩ := hd
 obtain ⟨op0, s9, n9, q9, k9, c9, p9, rfl⟩ := hrep.form
 obtain ⟨tk, ts, tn, tp⟩ := t
 skip
 have hbx := hf3.row HR.out.1 (by simp; omega)
 have hrs := hf3.row HR.out.2 (by simp; omega)
 have hz1 : w.heap.size + 1 < w1.heap.size := row_lt hrs
 obtain ⟨a0, a1, a2, a3⟩ := hr3.tk 0 _ rfl
 have c0 := hr3.c0
 have hlc := hr3.lc
 have hm := hr3.cm
 have hne := hr3.ne
 have x0 : w1.cell? ⟨w.heap.size, 0, none⟩ = some (.pointer (some ⟨r, 0, none⟩)) := by rw [Lib.cell_of_heap hbx]; rfl
 rw [List.length_cons] at c0 hlc
 unfold maxLen at hm
 simp only [Nat.mul_zero, Nat.add_zero] at a0 a1 a2 a3
 have hg1 := hr3.gl
 have hr1 : r < w1.heap.size := row_lt hr3.row
 have hmf : ∀ fn first cap w, (Instr.makeFunc fn first cap).run Tryd.prog w = .ok (.func fn first cap) w := fun _ _ _ _ => rfl
 have HRP := Lib.hid (hrep.mono (E := fun i => w.heap.size ≤ i ∧ i ≠ w.heap.size + 1) (fun i hi h => by
  have h9 : ((w.alloc (.cells #[.pointer (some ⟨r, 0, none⟩)] 94)).alloc (.cells z5 80)).heap.size ≤ i := h
  simp at h9
  exact ⟨by omega, by omega⟩))
 have HR3 := Lib.hid hr3
 have HBX := Lib.hid hbx
 have HRS := Lib.hid hrs
 have HF3 : Hid (Fr [r] w w1) := HA0.out.sub.trans hf3 (fun y hy => .inl hy)
 clear hrep hf3 hr3 hbx hrs HN HR HA0
 have hz0 : w.heap.size < w1.heap.size := by omega
 go_upto_region 5 with fail
 refine wp_fresh (fun W => Cmp w w.heap.size (w1.heap.size + 1) w1.heap.size (w1.heap.size + 1 + 1) (w.heap.size + 1) r g o3 c3 (⟨tk, ts, tn, tp⟩ :: m) nest ⟨tk, ts, tn, tp⟩ [.int .i64 op0, .string s9, .int .i64 n9, .slice q9 k9 c9, .int .i64 p9] a W) ?_ ?_
 ·have hal := alloc3 w1 (.cells #[.int .i64 op0, .string s9, .int .i64 n9, .slice q9 k9 c9, .int .i64 p9] 80) (.cells #[.int .i64 tk, .string ts, .int .i64 tn, .int .i64 tp] 25) (.cells #[.func (.func 111) #[] #[.pointer (some ⟨w.heap.size, 0, none⟩), .pointer (some ⟨w1.heap.size + 1, 0, none⟩), .pointer (some ⟨w1.heap.size, 0, none⟩)]] 163)
  have hf : Fr [] w1 _ := (((Fr.refl [] w1).alloc (.cells #[.int .i64 op0, .string s9, .int .i64 n9, .slice q9 k9 c9, .int .i64 p9] 80)).alloc (.cells #[.int .i64 tk, .string ts, .int .i64 tn, .int .i64 tp] 25)).alloc (.cells #[.func (.func 111) #[] #[.pointer (some ⟨w.heap.size, 0, none⟩), .pointer (some ⟨w1.heap.size + 1, 0, none⟩), .pointer (some ⟨w1.heap.size, 0, none⟩)]] 163)
  have h1 := HR3.out.fr hf (by simp) (by simp)
  have h2 := hf.row HBX.out (by simp)
  have h3 := hf.row HRS.out (by simp)
  have h4 := HRP.out.fr hf (fun y hy _ => by cases hy)
  have h5 := HF3.out.trans0 hf
  exact ⟨⟨h1, h2, hal.2.1, hal.1, h4, fun i hi => hi.1, hr, hg, Nat.le_refl _, by omega, by omega⟩, h3, hal.2.2, h5, ⟨by omega, by omega, by omega, by omega⟩, by omega, by omega⟩
 intro W h1
 have H := Lib.hid h1
 clear h1 a0 a1 a2 a3 c0 hlc hm hne x0 HBX HRS HRP HR3
 have hrW := row_lt H.out.cls.rd.row
 have hresW := row_lt H.out.res
 have hAW := row_lt H.out.cls.av
 have hTW := row_lt H.out.cls.tok
 have hFW := row_lt H.out.fn
 have kf : ∀ i, W.frozen? ⟨(w1.heap.size + 1), i, none⟩ = false := fun i => Lib.frozen_of_heap H.out.cls.tok i
 have k0 : W.cell? ⟨(w1.heap.size + 1), 0, none⟩ = some (.int .i64 tk) := by rw [Lib.cell_of_heap H.out.cls.tok]; rfl
 have k1 : W.cell? ⟨(w1.heap.size + 1), 1, none⟩ = some (.string ts) := by rw [Lib.cell_of_heap H.out.cls.tok]; rfl
 have k2 : W.cell? ⟨(w1.heap.size + 1), 2, none⟩ = some (.int .i64 tn) := by rw [Lib.cell_of_heap H.out.cls.tok]; rfl
 have k3 : W.cell? ⟨(w1.heap.size + 1), 3, none⟩ = some (.int .i64 tp) := by rw [Lib.cell_of_heap H.out.cls.tok]; rfl
 have ef : ∀ i, W.frozen? ⟨w1.heap.size, i, none⟩ = false := fun i => Lib.frozen_of_heap H.out.cls.av i
 have e0 : W.cell? ⟨w1.heap.size, 0, none⟩ = some (.int .i64 op0) := by rw [Lib.cell_of_heap H.out.cls.av]; rfl
 have e1 : W.cell? ⟨w1.heap.size, 1, none⟩ = some (.string s9) := by rw [Lib.cell_of_heap H.out.cls.av]; rfl
 have e2 : W.cell? ⟨w1.heap.size, 2, none⟩ = some (.int .i64 n9) := by rw [Lib.cell_of_heap H.out.cls.av]; rfl
 have e3 : W.cell? ⟨w1.heap.size, 3, none⟩ = some (.slice q9 k9 c9) := by rw [Lib.cell_of_heap H.out.cls.av]; rfl
 have e4 : W.cell? ⟨w1.heap.size, 4, none⟩ = some (.int .i64 p9) := by rw [Lib.cell_of_heap H.out.cls.av]; rfl
 have xf : ∀ i, W.frozen? ⟨w.heap.size, i, none⟩ = false := fun i => Lib.frozen_of_heap H.out.cls.box i
 have x0 : W.cell? ⟨w.heap.size, 0, none⟩ = some (.pointer (some ⟨r, 0, none⟩)) := by rw [Lib.cell_of_heap H.out.cls.box]; rfl
 have yf : ∀ i, W.frozen? ⟨(w1.heap.size + 1 + 1), i, none⟩ = false := fun i => Lib.frozen_of_heap H.out.fn i
 have y0 : W.cell? ⟨(w1.heap.size + 1 + 1), 0, none⟩ = some (.func (.func 111) #[] #[.pointer (some ⟨w.heap.size, 0, none⟩), .pointer (some ⟨w1.heap.size + 1, 0, none⟩), .pointer (some ⟨w1.heap.size, 0, none⟩)]) := by rw [Lib.cell_of_heap H.out.fn]; rfl
 have d4 : (tk == 4) = false := beq_eq_false_iff_ne.2 HK.out
 have HNX := Lib.hid (rd_next_is W r g _ _ _ _ nest 1 ⟨#[104, 97, 115]⟩ true H.out.cls.rd HS.out)
 go_wp2_with fail
 refine HNX.out.mono ?_
 rintro e w2 ⟨rfl, rfl⟩
 clear HNX
 have HTWO := Lib.hid (two_reads _ _ _ _ _ r g _ _ _ m nest _ _ a W H.out.cls H.out.below hm 14 q hC2)
 clear hC2
 go_wp2_with fail
 refine HTWO.out.mono ?_
 intro e w2 hd
 cases q with
 | error pe =>
  obtain ⟨pp, pn⟩ := pe
  have hs9 : Stops [r] W pp pn e w2 := hd
  obtain ⟨b9, hb9, rfl, hrow9, hf9⟩ := hs9.from (bs := [r]) H.out.f (fun y hy => .inl (by simpa using hy))
  show _
  exact ⟨rfl, Done.stop ⟨b9, hb9, rfl, hrow9, hf9⟩⟩
 | ok ym =>
  obtain ⟨y, m2⟩ := ym
  obtain ⟨ca, cb, rb, rfl, hrb, hrbz, hra, hry, hf3, o4, c4, hr4⟩ := hd
  have hrp := rep_two hra hry hrb (H.out.below _ hrbz) 14 tp
  have H := Lib.hid (H.out.step hf3 hr4)
  have HRP := Lib.hid hrp
  clear hrb hrbz hra hry hf3 hr4 hrp HTWO k0 k1 k2 k3 kf e0 e1 e2 e3 e4 ef x0 xf y0 yf
  have zf : ∀ i, w2.frozen? ⟨(w.heap.size + 1), i, none⟩ = false := fun i => Lib.frozen_of_heap H.out.res i
  have z0 : w2.cell? ⟨(w.heap.size + 1), 0, none⟩ = some (.int .i64 0) := by rw [Lib.cell_of_heap H.out.res]; rfl
  have z1 : w2.cell? ⟨(w.heap.size + 1), 1, none⟩ = some (.string ⟨#[]⟩) := by rw [Lib.cell_of_heap H.out.res]; rfl
  have z2 : w2.cell? ⟨(w.heap.size + 1), 2, none⟩ = some (.int .i64 0) := by rw [Lib.cell_of_heap H.out.res]; rfl
  have z3 : w2.cell? ⟨(w.heap.size + 1), 3, none⟩ = some (.slice none 0 0) := by rw [Lib.cell_of_heap H.out.res]; rfl
  have z4 : w2.cell? ⟨(w.heap.size + 1), 4, none⟩ = some (.int .i64 0) := by rw [Lib.cell_of_heap H.out.res]; rfl
  have HG := Lib.hid (H.out.give HRP.out)
  have HT := Lib.hid (heap_five H.out.res (.int .i64 14) (.string ⟨#[]⟩) (.int .i64 0) (.slice (some ⟨rb, 0, none⟩) 2 2) (.int .i64 tp))
  go_wp2_with fail
  refine bodyPost_ret (v := .agg #[.int .i64 14, .string ⟨#[]⟩, .int .i64 0, .slice (some ⟨rb, 0, none⟩) 2 2, .int .i64 tp]) (results_cell_row rfl _ _ (w.heap.size + 1) _ _ (0, 0) _ rfl HT.out Tryd.underlying80 rfl (by kernel_rfl)) rfl ?_
  exact HG.out
set_option maxHeartbeats 4000000 in
set_option maxRecDepth 100000 in
theorem cmp_else (w : World) (r g o c : Nat) (l : List TI) (nest : Nat) (h : Rd w r g o c l nest) (hr : r < w.heap.size) (a : Ex) (t : TI) (m : List TI)
  (hC : ∀ W o c, Rd W r g o c l nest → r < W.heap.size → Calls Tryd.prog 110 #[.pointer (some ⟨r, 0, none⟩)] W (Done r g nest W (.ok (a, t :: m))))
  (hk : t.k ≠ 4) (hs : Pol.is (t :: m) 1 [104, 97, 115] = false) (hi : Pol.is (t :: m) 1 [105, 110] = false) :
  Calls Tryd.prog 108 #[.pointer (some ⟨r, 0, none⟩)] w (Done r g nest w (.ok (a, t :: m))) := by
 have HK := Lib.hid hk
 have HS := Lib.hid hs
 have HI := Lib.hid hi
 clear hk hs hi
 have HRD := Lib.hid h
 have HC := Lib.hid hC
 have HR := Lib.hid (alloc2 w (.cells #[.pointer (some ⟨r, 0, none⟩)] 94) (.cells z5 80))
 have hg := h.gl
 have HA0 : Hid (Fr [] w ((w.alloc (.cells #[.pointer (some ⟨r, 0, none⟩)] 94)).alloc (.cells z5 80))) := ((Fr.refl [] w).alloc _).alloc _
 have HN := Lib.hid (HC.out _ o c (HRD.out.fr HA0.out (by simp) (by simp)) (by simp; omega))
 clear h hC
 go_enter Tryd.func108, Tryd.ntmps108
 go_wp2_with fail
 refine HN.out.mono ?_
 intro e w1 hd
 obtain ⟨cs, rfl, hrep, hf3, o3, c3, hr3⟩ := hd
 obtain ⟨op0, s9, n9, q9, k9, c9, p9, rfl⟩ := hrep.form
 obtain ⟨tk, ts, tn, tp⟩ := t
 skip
 have hbx := hf3.row HR.out.1 (by simp; omega)
 have hrs := hf3.row HR.out.2 (by simp; omega)
 have hz1 : w.heap.size + 1 < w1.heap.size := row_lt hrs
 obtain ⟨a0, a1, a2, a3⟩ := hr3.tk 0 _ rfl
 have c0 := hr3.c0
 have hlc := hr3.lc
 have hm := hr3.cm
 have hne := hr3.ne
 have x0 : w1.cell? ⟨w.heap.size, 0, none⟩ = some (.pointer (some ⟨r, 0, none⟩)) := by rw [Lib.cell_of_heap hbx]; rfl
 rw [List.length_cons] at c0 hlc
 unfold maxLen at hm
 simp only [Nat.mul_zero, Nat.add_zero] at a0 a1 a2 a3
 have hg1 := hr3.gl
 have hr1 : r < w1.heap.size := row_lt hr3.row
 have hmf : ∀ fn first cap w, (Instr.makeFunc fn first cap).run Tryd.prog w = .ok (.func fn first cap) w := fun _ _ _ _ => rfl
 have HRP := Lib.hid (hrep.mono (E := fun i => w.heap.size ≤ i ∧ i ≠ w.heap.size + 1) (fun i hi h => by
  have h9 : ((w.alloc (.cells #[.pointer (some ⟨r, 0, none⟩)] 94)).alloc (.cells z5 80)).heap.size ≤ i := h
  simp at h9
  exact ⟨by omega, by omega⟩))
 have HR3 := Lib.hid hr3
 have HBX := Lib.hid hbx
 have HRS := Lib.hid hrs
 have HF3 : Hid (Fr [r] w w1) := HA0.out.sub.trans hf3 (fun y hy => .inl hy)
 clear hrep hf3 hr3 hbx hrs HN HR HA0
 have hz0 : w.heap.size < w1.heap.size := by omega
 go_upto_region 5 with fail
 refine wp_fresh (fun W => Cmp w w.heap.size (w1.heap.size + 1) w1.heap.size (w1.heap.size + 1 + 1) (w.heap.size + 1) r g o3 c3 (⟨tk, ts, tn, tp⟩ :: m) nest ⟨tk, ts, tn, tp⟩ [.int .i64 op0, .string s9, .int .i64 n9, .slice q9 k9 c9, .int .i64 p9] a W) ?_ ?_
 ·have hal := alloc3 w1 (.cells #[.int .i64 op0, .string s9, .int .i64 n9, .slice q9 k9 c9, .int .i64 p9] 80) (.cells #[.int .i64 tk, .string ts, .int .i64 tn, .int .i64 tp] 25) (.cells #[.func (.func 111) #[] #[.pointer (some ⟨w.heap.size, 0, none⟩), .pointer (some ⟨w1.heap.size + 1, 0, none⟩), .pointer (some ⟨w1.heap.size, 0, none⟩)]] 163)
  have hf : Fr [] w1 _ := (((Fr.refl [] w1).alloc (.cells #[.int .i64 op0, .string s9, .int .i64 n9, .slice q9 k9 c9, .int .i64 p9] 80)).alloc (.cells #[.int .i64 tk, .string ts, .int .i64 tn, .int .i64 tp] 25)).alloc (.cells #[.func (.func 111) #[] #[.pointer (some ⟨w.heap.size, 0, none⟩), .pointer (some ⟨w1.heap.size + 1, 0, none⟩), .pointer (some ⟨w1.heap.size, 0, none⟩)]] 163)
  have h1 := HR3.out.fr hf (by simp) (by simp)
  have h2 := hf.row HBX.out (by simp)
  have h3 := hf.row HRS.out (by simp)
  have h4 := HRP.out.fr hf (fun y hy _ => by cases hy)
  have h5 := HF3.out.trans0 hf
  exact ⟨⟨h1, h2, hal.2.1, hal.1, h4, fun i hi => hi.1, hr, hg, Nat.le_refl _, by omega, by omega⟩, h3, hal.2.2, h5, ⟨by omega, by omega, by omega, by omega⟩, by omega, by omega⟩
 intro W h1
 have H := Lib.hid h1
 clear h1 a0 a1 a2 a3 c0 hlc hm hne x0 HBX HRS HRP HR3
 have hrW := row_lt H.out.cls.rd.row
 have hresW := row_lt H.out.res
 have hAW := row_lt H.out.cls.av
 have hTW := row_lt H.out.cls.tok
 have hFW := row_lt H.out.fn
 have kf : ∀ i, W.frozen? ⟨(w1.heap.size + 1), i, none⟩ = false := fun i => Lib.frozen_of_heap H.out.cls.tok i
 have k0 : W.cell? ⟨(w1.heap.size + 1), 0, none⟩ = some (.int .i64 tk) := by rw [Lib.cell_of_heap H.out.cls.tok]; rfl
 have k1 : W.cell? ⟨(w1.heap.size + 1), 1, none⟩ = some (.string ts) := by rw [Lib.cell_of_heap H.out.cls.tok]; rfl
 have k2 : W.cell? ⟨(w1.heap.size + 1), 2, none⟩ = some (.int .i64 tn) := by rw [Lib.cell_of_heap H.out.cls.tok]; rfl
 have k3 : W.cell? ⟨(w1.heap.size + 1), 3, none⟩ = some (.int .i64 tp) := by rw [Lib.cell_of_heap H.out.cls.tok]; rfl
 have ef : ∀ i, W.frozen? ⟨w1.heap.size, i, none⟩ = false := fun i => Lib.frozen_of_heap H.out.cls.av i
 have e0 : W.cell? ⟨w1.heap.size, 0, none⟩ = some (.int .i64 op0) := by rw [Lib.cell_of_heap H.out.cls.av]; rfl
 have e1 : W.cell? ⟨w1.heap.size, 1, none⟩ = some (.string s9) := by rw [Lib.cell_of_heap H.out.cls.av]; rfl
 have e2 : W.cell? ⟨w1.heap.size, 2, none⟩ = some (.int .i64 n9) := by rw [Lib.cell_of_heap H.out.cls.av]; rfl
 have e3 : W.cell? ⟨w1.heap.size, 3, none⟩ = some (.slice q9 k9 c9) := by rw [Lib.cell_of_heap H.out.cls.av]; rfl
 have e4 : W.cell? ⟨w1.heap.size, 4, none⟩ = some (.int .i64 p9) := by rw [Lib.cell_of_heap H.out.cls.av]; rfl
 have xf : ∀ i, W.frozen? ⟨w.heap.size, i, none⟩ = false := fun i => Lib.frozen_of_heap H.out.cls.box i
 have x0 : W.cell? ⟨w.heap.size, 0, none⟩ = some (.pointer (some ⟨r, 0, none⟩)) := by rw [Lib.cell_of_heap H.out.cls.box]; rfl
 have yf : ∀ i, W.frozen? ⟨(w1.heap.size + 1 + 1), i, none⟩ = false := fun i => Lib.frozen_of_heap H.out.fn i
 have y0 : W.cell? ⟨(w1.heap.size + 1 + 1), 0, none⟩ = some (.func (.func 111) #[] #[.pointer (some ⟨w.heap.size, 0, none⟩), .pointer (some ⟨w1.heap.size + 1, 0, none⟩), .pointer (some ⟨w1.heap.size, 0, none⟩)]) := by rw [Lib.cell_of_heap H.out.fn]; rfl
 have d4 : (tk == 4) = false := beq_eq_false_iff_ne.2 HK.out
 have HNX := Lib.hid (rd_next_is W r g _ _ _ _ nest 1 ⟨#[104, 97, 115]⟩ false H.out.cls.rd HS.out)
 go_wp2_with fail
 refine HNX.out.mono ?_
 rintro e w2 ⟨rfl, rfl⟩
 clear HNX
 have HNX := Lib.hid (rd_took_no W r g _ _ _ _ nest 1 ⟨#[105, 110]⟩ H.out.cls.rd HI.out)
 go_wp2_with fail
 refine HNX.out.mono ?_
 rintro e w2 ⟨rfl, rfl⟩
 clear HNX
 have zf : ∀ i, W.frozen? ⟨(w.heap.size + 1), i, none⟩ = false := fun i => Lib.frozen_of_heap H.out.res i
 have z0 : W.cell? ⟨(w.heap.size + 1), 0, none⟩ = some (.int .i64 0) := by rw [Lib.cell_of_heap H.out.res]; rfl
 have z1 : W.cell? ⟨(w.heap.size + 1), 1, none⟩ = some (.string ⟨#[]⟩) := by rw [Lib.cell_of_heap H.out.res]; rfl
 have z2 : W.cell? ⟨(w.heap.size + 1), 2, none⟩ = some (.int .i64 0) := by rw [Lib.cell_of_heap H.out.res]; rfl
 have z3 : W.cell? ⟨(w.heap.size + 1), 3, none⟩ = some (.slice none 0 0) := by rw [Lib.cell_of_heap H.out.res]; rfl
 have z4 : W.cell? ⟨(w.heap.size + 1), 4, none⟩ = some (.int .i64 0) := by rw [Lib.cell_of_heap H.out.res]; rfl
 have HG := Lib.hid (H.out.give H.out.cls.rep)
 have HT := Lib.hid (heap_five H.out.res (.int .i64 op0) (.string s9) (.int .i64 n9) (.slice q9 k9 c9) (.int .i64 p9))
 go_wp2_with fail
 refine bodyPost_ret (v := .agg #[.int .i64 op0, .string s9, .int .i64 n9, .slice q9 k9 c9, .int .i64 p9]) (results_cell_row rfl _ _ (w.heap.size + 1) _ _ (0, 0) _ rfl HT.out Tryd.underlying80 rfl (by kernel_rfl)) rfl ?_
 exact HG.out
end Go.Proofs.YtgklmpooonnmiaaDoor
