/-
  Lemmas and contracts that the proofs over this seat use (PolTurn); no statement of the seat is claimed in this text, and nothing is assumed in it.
-/
import Derived.Test.YtgklmpooonnmiaaDoorJ22
import Derived.BigRegion
import Derived.Laws.EntriesVeiled
set_option linter.unusedVariables false
set_option linter.unusedSimpArgs false
namespace Go.Proofs.YtgklmpooonnmiaaDoor
open Go.RowKit
def TurnDone (D : Nat → Prop) (r g nest : Nat) (op p : Int) (a : Ex) (w : World) (q : Pol.PR Ex) (e : Ending) (w' : World) : Prop :=
 match q with
 | .error (p, n) => Stops [r] w p n e w'
 | .ok (y, m) => ∃ cs, e = .returned (.agg cs.toArray) ∧ Rep w' D cs (.mk op Pol.none_ 0 [y, a] p) ∧ Fr [r] w w' ∧ ∃ o c, Rd w' r g o c m nest
theorem TurnDone.stop {D : Nat → Prop} {r g nest : Nat} {op p0 : Int} {a : Ex} {w w' : World} {p n : Int} {e : Ending} (h : Stops [r] w p n e w') : TurnDone D r g nest op p0 a w (.error (p, n)) e w' := h
theorem heap_ten {W : World} {b : Nat} {u0 u1 u2 u3 u4 u5 u6 u7 u8 u9 : Value} {t : TypeId} (h : W.heap[b]? = some (.cells #[u0, u1, u2, u3, u4, u5, u6, u7, u8, u9] t (0, 0))) (v0 v1 v2 v3 v4 v5 v6 v7 v8 v9 : Value) :
  ((((((((((W.setCell ⟨b, 0, none⟩ v0).setCell ⟨b, 1, none⟩ v1).setCell ⟨b, 2, none⟩ v2).setCell ⟨b, 3, none⟩ v3).setCell ⟨b, 4, none⟩ v4).setCell ⟨b, 5, none⟩ v5).setCell ⟨b, 6, none⟩ v6).setCell ⟨b, 7, none⟩ v7).setCell ⟨b, 8, none⟩ v8).setCell ⟨b, 9, none⟩ v9).heap[b]? = some (.cells #[v0, v1, v2, v3, v4, v5, v6, v7, v8, v9] t (0, 0)) := by
 have h0 : (W.setCell ⟨b, 0, none⟩ v0).heap[b]? = some (.cells #[v0, u1, u2, u3, u4, u5, u6, u7, u8, u9] t (0, 0)) := heap_set_row h 0 v0
 have h1 : ((W.setCell ⟨b, 0, none⟩ v0).setCell ⟨b, 1, none⟩ v1).heap[b]? = some (.cells #[v0, v1, u2, u3, u4, u5, u6, u7, u8, u9] t (0, 0)) := heap_set_row h0 1 v1
 have h2 : (((W.setCell ⟨b, 0, none⟩ v0).setCell ⟨b, 1, none⟩ v1).setCell ⟨b, 2, none⟩ v2).heap[b]? = some (.cells #[v0, v1, v2, u3, u4, u5, u6, u7, u8, u9] t (0, 0)) := heap_set_row h1 2 v2
 have h3 : ((((W.setCell ⟨b, 0, none⟩ v0).setCell ⟨b, 1, none⟩ v1).setCell ⟨b, 2, none⟩ v2).setCell ⟨b, 3, none⟩ v3).heap[b]? = some (.cells #[v0, v1, v2, v3, u4, u5, u6, u7, u8, u9] t (0, 0)) := heap_set_row h2 3 v3
 have h4 : (((((W.setCell ⟨b, 0, none⟩ v0).setCell ⟨b, 1, none⟩ v1).setCell ⟨b, 2, none⟩ v2).setCell ⟨b, 3, none⟩ v3).setCell ⟨b, 4, none⟩ v4).heap[b]? = some (.cells #[v0, v1, v2, v3, v4, u5, u6, u7, u8, u9] t (0, 0)) := heap_set_row h3 4 v4
 have h5 : ((((((W.setCell ⟨b, 0, none⟩ v0).setCell ⟨b, 1, none⟩ v1).setCell ⟨b, 2, none⟩ v2).setCell ⟨b, 3, none⟩ v3).setCell ⟨b, 4, none⟩ v4).setCell ⟨b, 5, none⟩ v5).heap[b]? = some (.cells #[v0, v1, v2, v3, v4, v5, u6, u7, u8, u9] t (0, 0)) := heap_set_row h4 5 v5
 have h6 : (((((((W.setCell ⟨b, 0, none⟩ v0).setCell ⟨b, 1, none⟩ v1).setCell ⟨b, 2, none⟩ v2).setCell ⟨b, 3, none⟩ v3).setCell ⟨b, 4, none⟩ v4).setCell ⟨b, 5, none⟩ v5).setCell ⟨b, 6, none⟩ v6).heap[b]? = some (.cells #[v0, v1, v2, v3, v4, v5, v6, u7, u8, u9] t (0, 0)) := heap_set_row h5 6 v6
 have h7 : ((((((((W.setCell ⟨b, 0, none⟩ v0).setCell ⟨b, 1, none⟩ v1).setCell ⟨b, 2, none⟩ v2).setCell ⟨b, 3, none⟩ v3).setCell ⟨b, 4, none⟩ v4).setCell ⟨b, 5, none⟩ v5).setCell ⟨b, 6, none⟩ v6).setCell ⟨b, 7, none⟩ v7).heap[b]? = some (.cells #[v0, v1, v2, v3, v4, v5, v6, v7, u8, u9] t (0, 0)) := heap_set_row h6 7 v7
 have h8 : (((((((((W.setCell ⟨b, 0, none⟩ v0).setCell ⟨b, 1, none⟩ v1).setCell ⟨b, 2, none⟩ v2).setCell ⟨b, 3, none⟩ v3).setCell ⟨b, 4, none⟩ v4).setCell ⟨b, 5, none⟩ v5).setCell ⟨b, 6, none⟩ v6).setCell ⟨b, 7, none⟩ v7).setCell ⟨b, 8, none⟩ v8).heap[b]? = some (.cells #[v0, v1, v2, v3, v4, v5, v6, v7, v8, u9] t (0, 0)) := heap_set_row h7 8 v8
 have h9 : ((((((((((W.setCell ⟨b, 0, none⟩ v0).setCell ⟨b, 1, none⟩ v1).setCell ⟨b, 2, none⟩ v2).setCell ⟨b, 3, none⟩ v3).setCell ⟨b, 4, none⟩ v4).setCell ⟨b, 5, none⟩ v5).setCell ⟨b, 6, none⟩ v6).setCell ⟨b, 7, none⟩ v7).setCell ⟨b, 8, none⟩ v8).setCell ⟨b, 9, none⟩ v9).heap[b]? = some (.cells #[v0, v1, v2, v3, v4, v5, v6, v7, v8, v9] t (0, 0)) := heap_set_row h8 9 v9
 exact h9
theorem fr_ten (W : World) (b : Nat) (v0 v1 v2 v3 v4 v5 v6 v7 v8 v9 : Value) (i0 i1 i2 i3 i4 i5 i6 i7 i8 i9 : Nat) : Fr [b] W ((((((((((W.setCell ⟨b, i0, none⟩ v0).setCell ⟨b, i1, none⟩ v1).setCell ⟨b, i2, none⟩ v2).setCell ⟨b, i3, none⟩ v3).setCell ⟨b, i4, none⟩ v4).setCell ⟨b, i5, none⟩ v5).setCell ⟨b, i6, none⟩ v6).setCell ⟨b, i7, none⟩ v7).setCell ⟨b, i8, none⟩ v8).setCell ⟨b, i9, none⟩ v9) :=
 ((((((((((Fr.refl [b] W).setCell (p := ⟨b, i0, none⟩) (.inl (by simp)) v0).setCell (p := ⟨b, i1, none⟩) (.inl (by simp)) v1).setCell (p := ⟨b, i2, none⟩) (.inl (by simp)) v2).setCell (p := ⟨b, i3, none⟩) (.inl (by simp)) v3).setCell (p := ⟨b, i4, none⟩) (.inl (by simp)) v4).setCell (p := ⟨b, i5, none⟩) (.inl (by simp)) v5).setCell (p := ⟨b, i6, none⟩) (.inl (by simp)) v6).setCell (p := ⟨b, i7, none⟩) (.inl (by simp)) v7).setCell (p := ⟨b, i8, none⟩) (.inl (by simp)) v8).setCell (p := ⟨b, i9, none⟩) (.inl (by simp)) v9
theorem two_rep {D : Nat → Prop} {X : Nat} {U : World} {rb : Nat} {ca cb : List Value} {a b : Ex} (hy : Rep U.drew (fun i => (D i ∧ i ≠ X) ∧ i ≠ rb) ca a) (hz : Rep U.drew (fun i => (D i ∧ i ≠ X) ∧ i ≠ rb) cb b) (hrow : U.heap[rb]? = some (.cells (ca ++ cb).toArray 80 (0, 0))) (hX : rb ≠ X) (hD : D rb) (op p : Int) :
  Rep U.drew (fun i => D i ∧ i ≠ X) [.int .i64 op, .string ⟨#[]⟩, .int .i64 0, .slice (some ⟨rb, 0, none⟩) 2 2, .int .i64 p] (.mk op Pol.none_ 0 [a, b] p) := by
 have hrow' : U.drew.heap[rb]? = some (.cells (ca ++ cb).toArray 80 (0, 0)) := hrow
 refine Rep.of_row op ⟨#[]⟩ 0 p [a, b] [ca, cb] rb ⟨hD, hX⟩ 80 2 rfl (by simpa using hrow') (Nat.le_refl _) (by decide) ?_
 intro i z cs' hi hc
 have h0 : i = 0 ∨ i = 1 := by have := (List.getElem?_eq_some_iff.1 hi).1; simp at this; omega
 rcases h0 with rfl | rfl
 ·simp at hi hc
  subst hi hc
  exact hy.mono (fun i _ h => h.1)
 ·simp at hi hc
  subst hi hc
  exact hz.mono (fun i _ h => h.1)
set_option maxHeartbeats 1000000 in
set_option maxRecDepth 100000 in
theorem turn_reads (D : Nat → Prop) (B b1 T A F5 r g o c : Nat) (u : TI) (l : List TI) (nest : Nat) (t : TI) (ca : List Value) (a : Ex) (w : World) (h : Cls D B b1 T A r g o c (u :: l) nest t ca a w) (hF5 : w.heap[F5]? = some (.cells #[.func (.func 111) #[] #[.pointer (some ⟨b1, 0, none⟩), .pointer (some ⟨T, 0, none⟩), .pointer (some ⟨A, 0, none⟩)]] 163 (0, 0)))
  (hDw : ∀ i, w.heap.size ≤ i → D i) (hl : 0 < l.length) (op : Int) (q : Pol.PR Ex)
  (hC : ∀ W o c, Rd W r g o c l nest → r < W.heap.size → Calls Tryd.prog 110 #[.pointer (some ⟨r, 0, none⟩)] W (Done r g nest W q)) :
  Calls Tryd.prog 112 #[.int .i64 op, .pointer (some ⟨F5, 0, none⟩)] w (TurnDone D r g nest op t.p a w q) := by
 have hA := h.fr ((Fr.refl [] w).alloc (.cells z5 80))
 have HN := Lib.hid (two_reads (fun i => D i ∧ i ≠ w.heap.size) B b1 T A r g o c u l nest t ca a _ ⟨hA.rd, hA.box, hA.tok, hA.av, (h.rep.mono (fun i hi hd => ⟨hd, by omega⟩)).fr ((Fr.refl [] w).alloc (.cells z5 80)) (fun y hy _ => by cases hy), fun i hi => h.dB i hi.1, h.rB, h.gB, h.Bb, h.BT, h.BA⟩ (fun i hi => by simp at hi; exact ⟨hDw i (by omega), by omega⟩) hl op q hC)
 clear hA
 have HR := Lib.hid (heap_alloc_last w (.cells z5 80))
 have hrw := row_lt h.rd.row
 have hBb := h.Bb
 have hb1 := row_lt h.box
 have hrB := h.rB
 have hgB := h.gB
 obtain ⟨tk, ts, tn, tp⟩ := t
 have ff : ∀ i, w.frozen? ⟨F5, i, none⟩ = false := fun i => Lib.frozen_of_heap hF5 i
 have f0 : w.cell? ⟨F5, 0, none⟩ = some (.func (.func 111) #[] #[.pointer (some ⟨b1, 0, none⟩), .pointer (some ⟨T, 0, none⟩), .pointer (some ⟨A, 0, none⟩)]) := by rw [Lib.cell_of_heap hF5]; rfl
 have hF5w := row_lt hF5
 clear h hC hF5
 go_enter Tryd.func112, Tryd.ntmps112
 go_wp2_with fail
 refine HN.out.mono ?_
 intro e w1 hd
 cases q with
 | error pe =>
  obtain ⟨pp, pn⟩ := pe
  have hs : Stops [r] _ pp pn e w1 := hd
  obtain ⟨b9, hb9, rfl, hrow9, hf9⟩ := hs.from (bs := [r]) ((Fr.refl [r] w).alloc (.cells z5 80)) (fun y hy => .inl (by simpa using hy))
  show _
  exact ⟨rfl, TurnDone.stop ⟨b9, hb9, rfl, hrow9, hf9⟩⟩
 | ok ym =>
  obtain ⟨y, m⟩ := ym
  obtain ⟨ca, cb, rb, rfl, hrb, hrbz, hra, hry, hf3, o3, c3, hr3⟩ := hd
  obtain ⟨op0, s9, n9, q9, k9, c9, p9, rfl⟩ := hra.form
  obtain ⟨op1, s1, n1, q1, k1, c1, p1, rfl⟩ := hry.form
  simp at hrbz
  have hrb' : w1.heap[rb]? = some (.cells #[.int .i64 op0, .string s9, .int .i64 n9, .slice q9 k9 c9, .int .i64 p9, .int .i64 op1, .string s1, .int .i64 n1, .slice q1 k1 c1, .int .i64 p1] 80 (0, 0)) := hrb
  have HRB := Lib.hid hrb'
  have HRA := Lib.hid hra
  have HRY := Lib.hid hry
  have HF3 : Hid (Fr [r] w w1) := ((Fr.refl [r] w).alloc _).trans hf3 (fun y hy => .inl hy)
  have HRD := Lib.hid hr3
  have HR1 : Hid (w1.heap[w.heap.size]? = some (.cells z5 80 (0, 0))) := hf3.row HR.out (by simp; omega)
  clear hrb hrb' hra hry hf3 hr3 f0 ff HN HR
  have hw1 : w.heap.size < w1.heap.size := row_lt HR1.out
  have hrb1 : rb < w1.heap.size := row_lt HRB.out
  go_wp2_with fail
  refine wp_fresh (fun W => Rd W r g o3 c3 m nest ∧ W.heap[w.heap.size]? = some (.cells z5 80 (0, 0)) ∧ W.heap[w1.heap.size]? = some (.cells #[.int .i64 op, .string ⟨#[]⟩, .int .i64 0, .slice (some ⟨rb, 0, none⟩) 2 2, .int .i64 tp] 80 (0, 0))
    ∧ W.heap[rb]? = some (.cells #[.int .i64 op0, .string s9, .int .i64 n9, .slice q9 k9 c9, .int .i64 p9, .int .i64 op1, .string s1, .int .i64 n1, .slice q1 k1 c1, .int .i64 p1] 80 (0, 0)) ∧ Fr [] w1 W) ⟨HRD.out.fr ((Fr.refl [] _).alloc _) (by simp) (by simp), ((Fr.refl [] _).alloc _).row HR1.out (by simp), heap_alloc_last _ _, ((Fr.refl [] _).alloc _).row HRB.out (by simp), (Fr.refl [] _).alloc _⟩ ?_
  rintro W ⟨h1, h2, h3, h4, h5⟩
  have HRD := Lib.hid h1
  have HR1 := Lib.hid h2
  have HE1 := Lib.hid h3
  have HRB := Lib.hid h4
  have HF := Lib.hid h5
  clear h1 h2 h3 h4 h5
  have ef : ∀ i, W.frozen? ⟨w1.heap.size, i, none⟩ = false := fun i => Lib.frozen_of_heap HE1.out i
  have e0 : W.cell? ⟨w1.heap.size, 0, none⟩ = some (.int .i64 op) := by rw [Lib.cell_of_heap HE1.out]; rfl
  have e1 : W.cell? ⟨w1.heap.size, 1, none⟩ = some (.string ⟨#[]⟩) := by rw [Lib.cell_of_heap HE1.out]; rfl
  have e2 : W.cell? ⟨w1.heap.size, 2, none⟩ = some (.int .i64 0) := by rw [Lib.cell_of_heap HE1.out]; rfl
  have e3 : W.cell? ⟨w1.heap.size, 3, none⟩ = some (.slice (some ⟨rb, 0, none⟩) 2 2) := by rw [Lib.cell_of_heap HE1.out]; rfl
  have e4 : W.cell? ⟨w1.heap.size, 4, none⟩ = some (.int .i64 tp) := by rw [Lib.cell_of_heap HE1.out]; rfl
  have xf : ∀ i, W.frozen? ⟨rb, i, none⟩ = false := fun i => Lib.frozen_of_heap HRB.out i
  have x0 : W.cell? ⟨rb, 0, none⟩ = some (.int .i64 op0) := by rw [Lib.cell_of_heap HRB.out]; rfl
  have x1 : W.cell? ⟨rb, 1, none⟩ = some (.string s9) := by rw [Lib.cell_of_heap HRB.out]; rfl
  have x2 : W.cell? ⟨rb, 2, none⟩ = some (.int .i64 n9) := by rw [Lib.cell_of_heap HRB.out]; rfl
  have x3 : W.cell? ⟨rb, 3, none⟩ = some (.slice q9 k9 c9) := by rw [Lib.cell_of_heap HRB.out]; rfl
  have x4 : W.cell? ⟨rb, 4, none⟩ = some (.int .i64 p9) := by rw [Lib.cell_of_heap HRB.out]; rfl
  have x5 : W.cell? ⟨rb, 5, none⟩ = some (.int .i64 op1) := by rw [Lib.cell_of_heap HRB.out]; rfl
  have x6 : W.cell? ⟨rb, 6, none⟩ = some (.string s1) := by rw [Lib.cell_of_heap HRB.out]; rfl
  have x7 : W.cell? ⟨rb, 7, none⟩ = some (.int .i64 n1) := by rw [Lib.cell_of_heap HRB.out]; rfl
  have x8 : W.cell? ⟨rb, 8, none⟩ = some (.slice q1 k1 c1) := by rw [Lib.cell_of_heap HRB.out]; rfl
  have x9 : W.cell? ⟨rb, 9, none⟩ = some (.int .i64 p1) := by rw [Lib.cell_of_heap HRB.out]; rfl
  go_region
  all_goals
   have hff0 := fr_ten W rb (.int .i64 op1) (.string s1) (.int .i64 n1) (.slice q1 k1 c1) (.int .i64 p1) (.int .i64 op0) (.string s9) (.int .i64 n9) (.slice q9 k9 c9) (.int .i64 p9) 0 1 2 3 4 5 6 7 8 9
   have hff := hff0.drew
   have hne1 : w1.heap.size ≠ rb := by omega
   have hne2 : w.heap.size ≠ rb := by omega
   have g1 := HRD.out.fr hff (by simp; omega) (by simp; omega)
   have g2 := hff.row HR1.out (by simpa using hne2)
   have g3 := hff.row HE1.out (by simpa using hne1)
   have g5 := (HF3.out.trans0 HF.out).trans hff (fun y hy => .inr (by simp at hy; omega))
   have hry := ((HRY.out.fr HF.out (fun y hy _ => by cases hy)).fr hff (fun y hy _ => by simp at hy; rw [hy]; simp))
   have hra := ((HRA.out.fr HF.out (fun y hy _ => by cases hy)).fr hff (fun y hy _ => by simp at hy; rw [hy]; simp))
   have hrow := heap_ten HRB.out (.int .i64 op1) (.string s1) (.int .i64 n1) (.slice q1 k1 c1) (.int .i64 p1) (.int .i64 op0) (.string s9) (.int .i64 n9) (.slice q9 k9 c9) (.int .i64 p9)
   have g4 := two_rep hry hra hrow (by omega) (hDw _ (by omega)) op tp
   refine then_fresh (fun V => Rd V r g o3 c3 m nest ∧ V.heap[w.heap.size]? = some (.cells z5 80 (0, 0)) ∧ V.heap[w1.heap.size]? = some (.cells #[.int .i64 op, .string ⟨#[]⟩, .int .i64 0, .slice (some ⟨rb, 0, none⟩) 2 2, .int .i64 tp] 80 (0, 0))
    ∧ Rep V (fun i => D i ∧ i ≠ w.heap.size) [.int .i64 op, .string ⟨#[]⟩, .int .i64 0, .slice (some ⟨rb, 0, none⟩) 2 2, .int .i64 tp] (.mk op Pol.none_ 0 [y, a] tp) ∧ Fr [r] w V) ⟨g1, g2, g3, g4, g5⟩ ?_
   rintro V ⟨h1, h2, h3, h4, h5⟩
   have HRD := Lib.hid h1
   have HR1 := Lib.hid h2
   have HE1 := Lib.hid h3
   have HP := Lib.hid h4
   have HF := Lib.hid h5
   clear h1 h2 h3 h4 h5 hff hff0 g1 g2 g3 g4 g5 hry hra hrow
   clear e0 e1 e2 e3 e4 ef
   have ef : ∀ i, V.frozen? ⟨w1.heap.size, i, none⟩ = false := fun i => Lib.frozen_of_heap HE1.out i
   have e0 : V.cell? ⟨w1.heap.size, 0, none⟩ = some (.int .i64 op) := by rw [Lib.cell_of_heap HE1.out]; rfl
   have e1 : V.cell? ⟨w1.heap.size, 1, none⟩ = some (.string ⟨#[]⟩) := by rw [Lib.cell_of_heap HE1.out]; rfl
   have e2 : V.cell? ⟨w1.heap.size, 2, none⟩ = some (.int .i64 0) := by rw [Lib.cell_of_heap HE1.out]; rfl
   have e3 : V.cell? ⟨w1.heap.size, 3, none⟩ = some (.slice (some ⟨rb, 0, none⟩) 2 2) := by rw [Lib.cell_of_heap HE1.out]; rfl
   have e4 : V.cell? ⟨w1.heap.size, 4, none⟩ = some (.int .i64 tp) := by rw [Lib.cell_of_heap HE1.out]; rfl
   have zf : ∀ i, V.frozen? ⟨w.heap.size, i, none⟩ = false := fun i => Lib.frozen_of_heap HR1.out i
   have z0 : V.cell? ⟨w.heap.size, 0, none⟩ = some (.int .i64 0) := by rw [Lib.cell_of_heap HR1.out]; rfl
   have z1 : V.cell? ⟨w.heap.size, 1, none⟩ = some (.string ⟨#[]⟩) := by rw [Lib.cell_of_heap HR1.out]; rfl
   have z2 : V.cell? ⟨w.heap.size, 2, none⟩ = some (.int .i64 0) := by rw [Lib.cell_of_heap HR1.out]; rfl
   have z3 : V.cell? ⟨w.heap.size, 3, none⟩ = some (.slice none 0 0) := by rw [Lib.cell_of_heap HR1.out]; rfl
   have z4 : V.cell? ⟨w.heap.size, 4, none⟩ = some (.int .i64 0) := by rw [Lib.cell_of_heap HR1.out]; rfl
   have hff := fr_five V [w.heap.size] w.heap.size (.int .i64 op) (.string ⟨#[]⟩) (.int .i64 0) (.slice (some ⟨rb, 0, none⟩) 2 2) (.int .i64 tp) (by simp)
   have HT := Lib.hid (heap_five HR1.out (.int .i64 op) (.string ⟨#[]⟩) (.int .i64 0) (.slice (some ⟨rb, 0, none⟩) 2 2) (.int .i64 tp))
   have HEND : Hid (TurnDone D r g nest op tp a w (.ok (y, m)) (.returned (.agg #[.int .i64 op, .string ⟨#[]⟩, .int .i64 0, .slice (some ⟨rb, 0, none⟩) 2 2, .int .i64 tp])) _) :=
    ⟨[.int .i64 op, .string ⟨#[]⟩, .int .i64 0, .slice (some ⟨rb, 0, none⟩) 2 2, .int .i64 tp], rfl, (HP.out.fr hff (fun y hy _ => by simp at hy; rw [hy]; simp)).mono (fun i _ h => h.1), HF.out.trans hff (fun y hy => .inr (by simp at hy; omega)), _, _, HRD.out.fr hff (by simp; omega) (by simp; omega)⟩
   clear hff
   go_wp2_with fail
   refine bodyPost_ret (v := .agg #[.int .i64 op, .string ⟨#[]⟩, .int .i64 0, .slice (some ⟨rb, 0, none⟩) 2 2, .int .i64 tp]) (results_cell_row rfl _ _ w.heap.size _ _ (0, 0) _ rfl HT.out Tryd.underlying80 rfl (by kernel_rfl)) rfl ?_
   exact HEND.out
end Go.Proofs.YtgklmpooonnmiaaDoor
