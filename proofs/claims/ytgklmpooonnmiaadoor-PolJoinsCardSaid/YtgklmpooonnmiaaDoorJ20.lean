/-
  Lemmas and contracts that the proofs over this seat use (PolNot); no statement of the seat is claimed in this text, and nothing is assumed in it.
-/
import Derived.Test.YtgklmpooonnmiaaDoorJ19
import Derived.Deep.CutRange
import Derived.Deep.DeepCutAuto
import Derived.Test.YtgklmpooonnmiaaDoorJ7
set_option linter.unusedVariables false
set_option linter.unusedSimpArgs false
namespace Go.Proofs.YtgklmpooonnmiaaDoor
open Go.RowKit
structure Tk2 (w : World) (r g o c : Nat) (l : List TI) (nest : Nat) (t : TI) (b : Nat) (rs : Array Value) (W : World) : Prop where
 rd : Rd W r g o c l nest
 res : W.heap[b]? = some (.cells rs 80 (0, 0))
 tok : W.heap[b + 1]? = some (.cells #[.int .i64 t.k, .string t.s, .int .i64 t.n, .int .i64 t.p] 25 (0, 0))
 f : Fr [r] w W
 rl : r < w.heap.size
 gl : g < w.heap.size
 bw : b = w.heap.size
theorem Tk2.step {w : World} {r g o c : Nat} {l : List TI} {nest : Nat} {t : TI} {b : Nat} {rs : Array Value} {W W' : World} {o' c' : Nat} {l' : List TI} {nest' : Nat} (h : Tk2 w r g o c l nest t b rs W) (hf : Fr [r] W W') (hr : Rd W' r g o' c' l' nest') : Tk2 w r g o' c' l' nest' t b rs W' := by
 have h1 := h.rl; have h2 := h.bw
 exact ⟨hr, hf.row h.res (by simp; omega), hf.row h.tok (by simp; omega), h.f.trans hf (fun y hy => .inl hy), h1, h.gl, h2⟩
theorem Tk2.fr {w : World} {r g o c : Nat} {l : List TI} {nest : Nat} {t : TI} {b : Nat} {rs : Array Value} {W W' : World} (h : Tk2 w r g o c l nest t b rs W) (hf : Fr [] W W') : Tk2 w r g o c l nest t b rs W' :=
 ⟨h.rd.fr hf (by simp) (by simp), hf.row h.res (by simp), hf.row h.tok (by simp), h.f.trans0 hf, h.rl, h.gl, h.bw⟩
theorem Tk2.setr {w : World} {r g o c : Nat} {l : List TI} {nest : Nat} {t : TI} {b : Nat} {rs : Array Value} {W : World} (h : Tk2 w r g o c l nest t b rs W) (i : Nat) (u : Value) : Tk2 w r g o c l nest t b (rs.setIfInBounds i u) (W.setCell ⟨b, i, none⟩ u) := by
 have h1 := h.rl; have h2 := h.bw; have h3 := h.gl
 have hf : Fr [b] W (W.setCell ⟨b, i, none⟩ u) := (Fr.refl _ _).setCell (p := ⟨b, i, none⟩) (.inl (by simp)) _
 exact ⟨h.rd.fr hf (by simp; omega) (by simp; omega), heap_set_row h.res i u, hf.row h.tok (by simp), h.f.setCell (p := ⟨b, i, none⟩) (.inr (by show _ ≤ b; omega)) _, h1, h3, h2⟩
theorem Tk2.cut {w : World} {r g o c : Nat} {l : List TI} {nest : Nat} {t u : TI} {b : Nat} {rs : Array Value} {W : World} (h : Tk2 w r g o c (u :: l) nest t b rs W) : Tk2 w r g (o + 4) (c - 1) l nest t b rs (W.setCell ⟨r, 0, none⟩ (.slice (some ⟨g, o + 4, none⟩) l.length (c - 1))) :=
 h.step ((Fr.refl [r] W).setCell (p := ⟨r, 0, none⟩) (.inl (by simp)) _) h.rd.cut
theorem Tk2.less {w : World} {r g o c : Nat} {l : List TI} {nest : Nat} {t : TI} {b : Nat} {rs : Array Value} {W : World} (h : Tk2 w r g o c l (nest + 1) t b rs W) : Tk2 w r g o c l nest t b rs (W.setCell ⟨r, 1, none⟩ (.int .i64 (nest : Int))) :=
 h.step ((Fr.refl [r] W).setCell (p := ⟨r, 1, none⟩) (.inl (by simp)) _) h.rd.less
def NotEnd (w : World) (r g : Nat) (m : List TI) (nest : Nat) (t : TI) (b be : Nat) (x : Ex) (U : World) : Prop :=
 ∃ o c rb, Tk2 w r g o c m (nest + 1) t b z5 U ∧ U.heap[be]? = some (.cells #[.int .i64 6, .string ⟨#[]⟩, .int .i64 0, .slice (some ⟨rb, 0, none⟩) 1 1, .int .i64 t.p] 80 (0, 0)) ∧ b + 1 < be ∧
  Rep U (fun g => w.heap.size ≤ g ∧ g ≠ b ∧ g ≠ be ∧ g ≠ r) [.int .i64 6, .string ⟨#[]⟩, .int .i64 0, .slice (some ⟨rb, 0, none⟩) 1 1, .int .i64 t.p] (.mk 6 Pol.none_ 0 [x] t.p)
theorem fr_five (W : World) (bs : List Nat) (b : Nat) (v0 v1 v2 v3 v4 : Value) (hb : b ∈ bs) : Fr bs W (((((W.setCell ⟨b, 0, none⟩ v0).setCell ⟨b, 1, none⟩ v1).setCell ⟨b, 2, none⟩ v2).setCell ⟨b, 3, none⟩ v3).setCell ⟨b, 4, none⟩ v4) :=
 (((((Fr.refl bs W).setCell (p := ⟨b, 0, none⟩) (.inl hb) v0).setCell (p := ⟨b, 1, none⟩) (.inl hb) v1).setCell (p := ⟨b, 2, none⟩) (.inl hb) v2).setCell (p := ⟨b, 3, none⟩) (.inl hb) v3).setCell (p := ⟨b, 4, none⟩) (.inl hb) v4
theorem Tk2.other {w : World} {r g o c : Nat} {l : List TI} {nest : Nat} {t : TI} {b be : Nat} {rs : Array Value} {W W' : World} (h : Tk2 w r g o c l nest t b rs W) (hf : Fr [be] W W') (hb : b + 1 < be) : Tk2 w r g o c l nest t b rs W' := by
 have h1 := h.rl; have h2 := h.bw; have h3 := h.gl
 exact ⟨h.rd.fr hf (by simp; omega) (by simp; omega), hf.row h.res (by simp; omega), hf.row h.tok (by simp; omega), h.f.trans hf (fun y hy => .inr (by simp at hy; omega)), h1, h3, h2⟩
theorem heap_five {W : World} {b : Nat} {u0 u1 u2 u3 u4 : Value} {t : TypeId} (h : W.heap[b]? = some (.cells #[u0, u1, u2, u3, u4] t (0, 0))) (v0 v1 v2 v3 v4 : Value) :
  (((((W.setCell ⟨b, 0, none⟩ v0).setCell ⟨b, 1, none⟩ v1).setCell ⟨b, 2, none⟩ v2).setCell ⟨b, 3, none⟩ v3).setCell ⟨b, 4, none⟩ v4).heap[b]? = some (.cells #[v0, v1, v2, v3, v4] t (0, 0)) :=
 heap_set_row (heap_set_row (heap_set_row (heap_set_row (heap_set_row h 0 v0) 1 v1) 2 v2) 3 v3) 4 v4
theorem not_end {w : World} {r g o c : Nat} {m : List TI} {nest : Nat} {t : TI} {b be rb : Nat} {x : Ex} {cs : List Value} {U : World} (hT : Tk2 w r g o c m (nest + 1) t b z5 U) (he : U.heap[be]? = some (.cells z5 80 (0, 0))) (hb : b + 1 < be)
  (hr : U.heap[rb]? = some (.cells cs.toArray 80 (0, 0))) (hrb : b + 1 < rb) (hne : rb ≠ be) (hx : Rep U (fun g => w.heap.size ≤ g ∧ g ≠ be ∧ g ≠ b) cs x) :
  NotEnd w r g m nest t b be x (((((U.setCell ⟨be, 0, none⟩ (.int .i64 6)).setCell ⟨be, 1, none⟩ (.string ⟨#[]⟩)).setCell ⟨be, 2, none⟩ (.int .i64 0)).setCell ⟨be, 3, none⟩ (.slice (some ⟨rb, 0, none⟩) 1 1)).setCell ⟨be, 4, none⟩ (.int .i64 t.p)) := by
 have hf := fr_five U [be] be (.int .i64 6) (.string ⟨#[]⟩) (.int .i64 0) (.slice (some ⟨rb, 0, none⟩) 1 1) (.int .i64 t.p) (by simp)
 have h1 := hT.rl; have h2 := hT.bw
 have hx' := hx.fr hf (fun y hy _ => by simp only [List.mem_singleton] at hy; rw [hy]; simp)
 refine ⟨o, c, rb, hT.other hf hb, heap_five he _ _ _ _ _, hb, ?_⟩
 refine Rep.of_row 6 ⟨#[]⟩ 0 t.p [x] [cs] rb ⟨by omega, by omega, hne, by omega⟩ 80 1 rfl ?_ (Nat.le_refl _) (by decide) ?_
 ·rw [show [cs].flatten = cs by simp]; exact hf.row hr (by simpa using hne)
 ·intro i y cs' hi hc
  have h0 : i = 0 := by have := (List.getElem?_eq_some_iff.1 hi).1; simp at this; exact this
  subst h0
  simp at hi hc
  subst hi hc
  exact hx'.mono (fun g _ h => ⟨h.1, h.2.2, h.2.1, by omega⟩)
theorem wpAnyH_fresh {P : Program} {md : Region.Mode} {ops : Array Oper} {Q : Exit → Act → World → Prop} {T : World → Prop} {fuel : Nat} {listed : Array Bool} {a : Act} {w : World} (S : World → Prop) (hS : S w) (h : ∀ w, S w → wpAnyH P md ops Q T fuel listed a w) : wpAnyH P md ops Q T fuel listed a w := h w hS
def Pol.notOf (p : Int) : Pol.PR Ex → Pol.PR Ex
 | .error e => .error e
 | .ok (x, m) => .ok (.mk 6 Pol.none_ 0 [x] p, m)
theorem alloc2 (w : World) (a b : Obj) : ((w.alloc a).alloc b).heap[w.heap.size]? = some a ∧ ((w.alloc a).alloc b).heap[w.heap.size + 1]? = some b := by
 have e1 : (w.alloc a).heap.size = w.heap.size + 1 := by simp
 refine ⟨?_, ?_⟩
 ·rw [Below.heap_alloc _ _ _ (by rw [e1]; omega)]; exact heap_alloc_last _ _
 ·rw [← e1]; exact heap_alloc_last _ _
set_option maxHeartbeats 2000000 in
set_option maxRecDepth 100000 in
theorem not_no (q : Pol.PR Ex) (w : World) (r g o c : Nat) (t : TI) (l : List TI) (nest : Nat) (h : Rd w r g o c (t :: l) nest) (hr : r < w.heap.size) (hp : Pol.is (t :: l) 1 [110, 111, 116] = false)
  (hC : ∀ W o c, Rd W r g o c (t :: l) nest → r < W.heap.size → Calls Tryd.prog 108 #[.pointer (some ⟨r, 0, none⟩)] W (Done r g nest W q)) :
  Calls Tryd.prog 107 #[.pointer (some ⟨r, 0, none⟩)] w (Done r g nest w q) := by
 have HC := Lib.hid hC
 have HP0 := Lib.hid hp
 clear hp hC
 have hR := Lib.hid h
 obtain ⟨a0, a1, a2, a3⟩ := h.tk 0 t rfl
 have c0 := h.c0
 have hlc := h.lc
 have hm := h.cm
 have hg := h.gl
 have hne := h.ne
 rw [List.length_cons] at c0 hlc
 unfold maxLen at hm
 simp only [Nat.mul_zero, Nat.add_zero] at a0 a1 a2 a3
 clear h
 obtain ⟨tk, ts, tn, tp⟩ := t
 go_enter Tryd.func107, Tryd.ntmps107
 go_wp2_with fail
 refine calls_fresh (fun W => Tk2 w r g o c (⟨tk, ts, tn, tp⟩ :: l) nest ⟨tk, ts, tn, tp⟩ w.heap.size z5 W) ?_ ?_
 ·have hF : Fr [] w ((w.alloc (.cells z5 80)).alloc (.cells #[.int .i64 tk, .string ts, .int .i64 tn, .int .i64 tp] 25)) := ((Fr.refl _ _).alloc _).alloc _
  exact ⟨hR.out.fr hF List.not_mem_nil List.not_mem_nil, (alloc2 _ _ _).1, (alloc2 _ _ _).2, hF.sub, hr, hg, rfl⟩
 intro W h1
 clear a0 a1 a2 a3 c0 hlc hR hm
 obtain ⟨b, hb⟩ : ∃ b, w.heap.size = b := ⟨_, rfl⟩
 rw [hb] at h1 ⊢
 have H := Lib.hid h1
 have HB := Lib.hid hb
 have hrb : r < b := by omega
 have hgb : g < b := by omega
 clear h1 hb
 have HN := Lib.hid (rd_next_is W r g o c ⟨_, ts, tn, tp⟩ l nest 1 ⟨#[110, 111, 116]⟩ false H.out.rd HP0.out)
 go_wp2_with fail
 refine HN.out.mono ?_
 rintro e w1 ⟨rfl, rfl⟩
 clear HN
 have hr2 : r < W.heap.size := Nat.lt_of_lt_of_le hr H.out.f.size
 have HN := Lib.hid (HC.out W _ _ H.out.rd hr2)
 have hbW : b < W.heap.size := row_lt H.out.res
 go_wp2_with fail
 refine HN.out.mono ?_
 intro e W3 hd
 obtain ⟨qq, hq⟩ : ∃ qq, q = qq := ⟨_, rfl⟩
 rw [hq] at hd
 have HP := Lib.hid hq
 clear hq
 cases qq with
 | error pe =>
  obtain ⟨pp, pn⟩ := pe
  have hs : Stops [r] W pp pn e W3 := hd
  obtain ⟨b9, hb9, rfl, hrow9, hf9⟩ := hs.from (bs := [r]) H.out.f (fun y hy => .inl (by simpa using hy))
  show _
  exact ⟨rfl, by rw [HP.out]; exact Done.stop ⟨b9, hb9, rfl, hrow9, hf9⟩⟩
 | ok xm =>
  obtain ⟨x, m⟩ := xm
  obtain ⟨cs, rfl, hrep, hf3, o3, c3, hr3⟩ := hd
  obtain ⟨op, s9, n9, q9, k9, c9, p9, rfl⟩ := hrep.form
  have H := Lib.hid (H.out.step hf3 hr3)
  have hrb2 : W.heap.size ≤ W3.heap.size := hf3.size
  have HREP5 : Hid (Rep _ _ _ _) := Rep.fr (fr_five W3 [b] b (.int .i64 op) (.string s9) (.int .i64 n9) (.slice q9 k9 c9) (.int .i64 p9) (by simp)) (fun y hy _ => by simp only [List.mem_singleton] at hy; rw [hy]; show ¬ W.heap.size ≤ b; omega) hrep
  clear hf3 hr3 hrep HN
  have zf : ∀ i, W3.frozen? ⟨b, i, none⟩ = false := fun i => Lib.frozen_of_heap H.out.res i
  have z0 : W3.cell? ⟨b, 0, none⟩ = some (.int .i64 0) := by rw [Lib.cell_of_heap H.out.res]; rfl
  have z1 : W3.cell? ⟨b, 1, none⟩ = some (.string ⟨#[]⟩) := by rw [Lib.cell_of_heap H.out.res]; rfl
  have z2 : W3.cell? ⟨b, 2, none⟩ = some (.int .i64 0) := by rw [Lib.cell_of_heap H.out.res]; rfl
  have z3 : W3.cell? ⟨b, 3, none⟩ = some (.slice none 0 0) := by rw [Lib.cell_of_heap H.out.res]; rfl
  have z4 : W3.cell? ⟨b, 4, none⟩ = some (.int .i64 0) := by rw [Lib.cell_of_heap H.out.res]; rfl
  have HT := Lib.hid (((((H.out.setr 0 (.int .i64 op)).setr 1 (.string s9)).setr 2 (.int .i64 n9)).setr 3 (.slice q9 k9 c9)).setr 4 (.int .i64 p9))
  go_wp2_with fail
  refine bodyPost_ret (v := .agg #[.int .i64 op, .string s9, .int .i64 n9, .slice q9 k9 c9, .int .i64 p9]) (results_cell_row rfl _ _ b _ _ (0, 0) _ rfl HT.out.res Tryd.underlying80 rfl (by kernel_rfl)) rfl ?_
  rw [HP.out]
  exact Done.ok rfl (HREP5.out.mono (fun g _ h => by have := HB.out; have h : W.heap.size ≤ g := h; omega)) HT.out.f HT.out.rd
set_option maxHeartbeats 2000000 in
set_option maxRecDepth 100000 in
theorem not_deep (w : World) (r g o c : Nat) (t : TI) (l : List TI) (nest : Nat) (h : Rd w r g o c (t :: l) nest) (hr : r < w.heap.size) (hp : Pol.is (t :: l) 1 [110, 111, 116] = true) (hn : ¬ nest < 12) (h12 : nest ≤ 12) :
  Calls Tryd.prog 107 #[.pointer (some ⟨r, 0, none⟩)] w (Done r g nest w (.error (t.p, 121))) := by
 have HP0 := Lib.hid hp
 have HN2 := Lib.hid hn
 clear hp hn
 have hR := Lib.hid h
 obtain ⟨a0, a1, a2, a3⟩ := h.tk 0 t rfl
 have c0 := h.c0
 have hlc := h.lc
 have hm := h.cm
 have hg := h.gl
 have hne := h.ne
 rw [List.length_cons] at c0 hlc
 unfold maxLen at hm
 simp only [Nat.mul_zero, Nat.add_zero] at a0 a1 a2 a3
 clear h
 obtain ⟨tk, ts, tn, tp⟩ := t
 go_enter Tryd.func107, Tryd.ntmps107
 go_wp2_with fail
 refine calls_fresh (fun W => Tk2 w r g o c (⟨tk, ts, tn, tp⟩ :: l) nest ⟨tk, ts, tn, tp⟩ w.heap.size z5 W) ?_ ?_
 ·have hF : Fr [] w ((w.alloc (.cells z5 80)).alloc (.cells #[.int .i64 tk, .string ts, .int .i64 tn, .int .i64 tp] 25)) := ((Fr.refl _ _).alloc _).alloc _
  exact ⟨hR.out.fr hF List.not_mem_nil List.not_mem_nil, (alloc2 _ _ _).1, (alloc2 _ _ _).2, hF.sub, hr, hg, rfl⟩
 intro W h1
 clear a0 a1 a2 a3 c0 hlc hR hm
 obtain ⟨b, hb⟩ : ∃ b, w.heap.size = b := ⟨_, rfl⟩
 rw [hb] at h1 ⊢
 have H := Lib.hid h1
 have HB := Lib.hid hb
 have hrb : r < b := by omega
 have hgb : g < b := by omega
 clear h1 hb
 have HN := Lib.hid (rd_next_is W r g o c ⟨_, ts, tn, tp⟩ l nest 1 ⟨#[110, 111, 116]⟩ true H.out.rd HP0.out)
 go_wp2_with fail
 refine HN.out.mono ?_
 rintro e w1 ⟨rfl, rfl⟩
 clear HN
 have HN := Lib.hid (rd_deeper_no W r g o c _ l nest H.out.rd HN2.out h12)
 go_wp2_with fail
 refine HN.out.mono ?_
 intro e w1 hs
 have HP : Hid (True = True) := rfl
 obtain ⟨b9, hb9, rfl, hrow9, hf9⟩ := hs.from (bs := [r]) H.out.f (fun y hy => .inl (by simpa using hy))
 show _
 exact ⟨rfl, Done.stop ⟨b9, hb9, rfl, hrow9, hf9⟩⟩
set_option maxHeartbeats 2000000 in
set_option maxRecDepth 100000 in
theorem not_yes (q : Pol.PR Ex) (w : World) (r g o c : Nat) (t : TI) (l : List TI) (nest : Nat) (h : Rd w r g o c (t :: l) nest) (hr : r < w.heap.size) (hE : Ends l) (hp : Pol.is (t :: l) 1 [110, 111, 116] = true) (hn : nest < 12)
  (hC : ∀ W o c, Rd W r g o c l (nest + 1) → r < W.heap.size → Calls Tryd.prog 107 #[.pointer (some ⟨r, 0, none⟩)] W (Done r g (nest + 1) W q)) :
  Calls Tryd.prog 107 #[.pointer (some ⟨r, 0, none⟩)] w (Done r g nest w (Pol.notOf t.p q)) := by
 have HC := Lib.hid hC
 have HP0 := Lib.hid hp
 have hl := hE.pos
 have HN2 := Lib.hid hn
 clear hp hE hC
 have hR := Lib.hid h
 obtain ⟨a0, a1, a2, a3⟩ := h.tk 0 t rfl
 have c0 := h.c0
 have hlc := h.lc
 have hm := h.cm
 have hg := h.gl
 have hne := h.ne
 rw [List.length_cons] at c0 hlc
 unfold maxLen at hm
 simp only [Nat.mul_zero, Nat.add_zero] at a0 a1 a2 a3
 clear h
 obtain ⟨tk, ts, tn, tp⟩ := t
 go_enter Tryd.func107, Tryd.ntmps107
 go_wp2_with fail
 refine calls_fresh (fun W => Tk2 w r g o c (⟨tk, ts, tn, tp⟩ :: l) nest ⟨tk, ts, tn, tp⟩ w.heap.size z5 W) ?_ ?_
 ·have hF : Fr [] w ((w.alloc (.cells z5 80)).alloc (.cells #[.int .i64 tk, .string ts, .int .i64 tn, .int .i64 tp] 25)) := ((Fr.refl _ _).alloc _).alloc _
  exact ⟨hR.out.fr hF List.not_mem_nil List.not_mem_nil, (alloc2 _ _ _).1, (alloc2 _ _ _).2, hF.sub, hr, hg, rfl⟩
 intro W h1
 clear a0 a1 a2 a3 c0 hlc hR hm
 obtain ⟨b, hb⟩ : ∃ b, w.heap.size = b := ⟨_, rfl⟩
 rw [hb] at h1 ⊢
 have H := Lib.hid h1
 have HB := Lib.hid hb
 have hrb : r < b := by omega
 have hgb : g < b := by omega
 clear h1 hb
 have HN := Lib.hid (rd_next_is W r g o c ⟨_, ts, tn, tp⟩ l nest 1 ⟨#[110, 111, 116]⟩ true H.out.rd HP0.out)
 go_wp2_with fail
 refine HN.out.mono ?_
 rintro e w1 ⟨rfl, rfl⟩
 clear HN
 have HN := Lib.hid (rd_deeper_yes W r g o c _ l nest H.out.rd HN2.out)
 go_wp2_with fail
 refine HN.out.mono ?_
 rintro e W1 ⟨rfl, hf1, hr1⟩
 have H := Lib.hid (H.out.step hf1 hr1)
 clear HN hf1 hr1
 have c0 := H.out.rd.c0
 have f0 := frozen_of_row _ _ 0 _ _ H.out.rd.row
 have hlc := H.out.rd.lc
 have hm := H.out.rd.cm
 have hne := H.out.rd.ne
 rw [List.length_cons] at c0 hlc
 unfold maxLen at hm
 go_wp2_with fail
 refine wp_fresh (fun V => Tk2 w r g (o + 4) (c - 1) l (nest + 1) ⟨tk, ts, tn, tp⟩ b z5 V) H.out.cut ?_
 intro V h1
 have H := Lib.hid h1
 clear h1 c0 f0 hlc hm
 have hr2 : r < V.heap.size := Nat.lt_of_lt_of_le hr H.out.f.size
 have hbV : b + 1 < V.heap.size := row_lt H.out.tok
 have kf : ∀ i, V.frozen? ⟨(b + 1), i, none⟩ = false := fun i => Lib.frozen_of_heap H.out.tok i
 have k0 : V.cell? ⟨(b + 1), 0, none⟩ = some (.int .i64 tk) := by rw [Lib.cell_of_heap H.out.tok]; rfl
 have k1 : V.cell? ⟨(b + 1), 1, none⟩ = some (.string ts) := by rw [Lib.cell_of_heap H.out.tok]; rfl
 have k2 : V.cell? ⟨(b + 1), 2, none⟩ = some (.int .i64 tn) := by rw [Lib.cell_of_heap H.out.tok]; rfl
 have k3 : V.cell? ⟨(b + 1), 3, none⟩ = some (.int .i64 tp) := by rw [Lib.cell_of_heap H.out.tok]; rfl
 have HS : Hid (∀ (U : World) o c l nest, Tk2 w r g o c l nest ⟨tk, ts, tn, tp⟩ b z5 U → U.cell? ⟨b + 1, 3, none⟩ = some (.int .i64 tp)) := fun U _ _ _ _ h => by rw [Lib.cell_of_heap h.tok]; rfl
 have HT0 : Hid (Tk2 w r g (o + 4) (c - 1) l (nest + 1) ⟨tk, ts, tn, tp⟩ b z5 V.drew) := H.out.fr (Fr.refl [] _).drew
 have HBV : Hid (b + 1 < V.heap.size) := hbV
 have HCC : Hid (∀ (U : World) o c, Tk2 w r g o c l (nest + 1) ⟨tk, ts, tn, tp⟩ b z5 U → Calls Tryd.prog 107 #[.pointer (some ⟨r, 0, none⟩)] U (Done r g (nest + 1) U q)) := fun U o c h => HC.out U o c h.rd (Nat.lt_of_lt_of_le h.rl h.f.size)
 cases q with
 | error pe =>
  obtain ⟨pp, pn⟩ := pe
  have HP : Hid (Pol.notOf tp (.error (pp, pn)) = .error (pp, pn)) := rfl
  have HX : Hid (∀ (U : World) o c, Tk2 w r g o c l (nest + 1) ⟨tk, ts, tn, tp⟩ b z5 U → Calls Tryd.prog 107 #[.pointer (some ⟨r, 0, none⟩)] U (Stops [r] w pp pn)) := fun U o c h => (HCC.out U o c h).mono (fun x W' (hs : Stops [r] U pp pn x W') => hs.from h.f (fun y hy => .inl (by simpa using hy)))
  refine wp_region_held_drew (S := (fun W' => W'.cell? ⟨b + 1, 3, none⟩ = some (.int .i64 tp))) (by kernel_rfl) (show World.cell? _ _ = _ from k3) (fun hHeld => ?_)
  refine held_take (i := 0) (v := ?_) 26 rfl rfl (by kernel_rfl) (by kernel_rfl) (by kernel_rfl) (fun _ _ _ h => h) (Or.inl ⟨by rfl, ?_⟩) (by assumption) ?_
  rotate_left 1
  ·intro w hSw; (try dsimp only at hSw); go_simp; try (with_reducible rfl)
  try simp only [Act.put, List.setIfInBounds_toArray, List.set_cons_zero, List.set_cons_succ]
  refine held_take (i := 1) (v := ?_) 27 rfl rfl (by kernel_rfl) (by kernel_rfl) (by kernel_rfl) (fun _ _ _ h => h) (Or.inl ⟨by rfl, ?_⟩) (by assumption) ?_
  rotate_left 1
  ·intro w hSw; (try dsimp only at hSw); go_simp; try (with_reducible rfl)
  try simp only [Act.put, List.setIfInBounds_toArray, List.set_cons_zero, List.set_cons_succ]
  refine held_take (i := 2) (v := ?_) 28 rfl rfl (by kernel_rfl) (by kernel_rfl) (by kernel_rfl) (fun _ _ _ h => h) (Or.inl ⟨by rfl, ?_⟩) (by assumption) ?_
  rotate_left 1
  ·intro w hSw; (try dsimp only at hSw); go_simp; try (with_reducible rfl)
  try simp only [Act.put, List.setIfInBounds_toArray, List.set_cons_zero, List.set_cons_succ]
  refine wpAnyH_ready (rs := [3, 6]) (by kernel_rfl) (by simp) ?_
  refine AllReadyH.cons rfl (fun K hK => ?_) (AllReadyH.cons rfl (fun K hK => ?_) AllReadyH.nil)
  ·go_simp
   go_at_call 107
   refine (HX.out _ _ _ HT0.out).mono ?_
   rintro e w2 ⟨b9, hb9, rfl, hrow9, hf9⟩
   show _
   exact ⟨rfl, by rw [HP.out]; exact Done.stop ⟨b9, hb9, rfl, hrow9, hf9⟩⟩
  ·have HT1 := Lib.hid (HT0.out.fr ((Fr.refl [] _).alloc (.cells z5 80)))
   go_simp
   refine hK.out _ _ (HS.out _ _ _ _ _ HT1.out) (fun hHeld => ?_)
   clear hK K
   refine wpAnyH_ready (rs := [3]) (by kernel_rfl) (by simp) ?_
   refine AllReadyH.cons rfl (fun K hK => ?_) AllReadyH.nil
   go_simp
   go_at_call 107
   refine (HX.out _ _ _ HT1.out).mono ?_
   rintro e w2 ⟨b9, hb9, rfl, hrow9, hf9⟩
   show _
   exact ⟨rfl, by rw [HP.out]; exact Done.stop ⟨b9, hb9, rfl, hrow9, hf9⟩⟩
 | ok xm =>
  obtain ⟨x, m⟩ := xm
  go_cut [4] from 26 to 31 (fun s4 wx => ∃ be, s4 = .pointer (some ⟨be, 0, none⟩) ∧ NotEnd w r g m nest ⟨tk, ts, tn, tp⟩ b be x wx)
  case rest =>
   obtain ⟨be, rfl, o9, c9, rb, hT9, hE9, hb9, hP9⟩ := hcut
   have H := Lib.hid hT9
   have HE := Lib.hid hE9
   have HB9 := Lib.hid hb9
   have hbe1 : b < be := by omega
   have hbe2 : be ≠ r := by omega
   have hbe3 : r ≠ be := by omega
   have hbe4 : b ≠ be := by omega
   have HREP5 : Hid (Rep _ _ _ _) := Rep.fr (bs := [r, b]) ((((((Fr.refl [r, b] wc).setCell (p := ⟨r, 1, none⟩) (.inl (by simp)) (.int .i64 (nest : Int))).setCell (p := ⟨b, 0, none⟩) (.inl (by simp)) (.int .i64 6)).setCell (p := ⟨b, 1, none⟩) (.inl (by simp)) (.string ⟨#[]⟩)).setCell (p := ⟨b, 2, none⟩) (.inl (by simp)) (.int .i64 0)).setCell (p := ⟨b, 3, none⟩) (.inl (by simp)) (.slice (some ⟨rb, 0, none⟩) 1 1) |>.setCell (p := ⟨b, 4, none⟩) (.inl (by simp)) (.int .i64 tp)) (fun y hy _ => by simp only [List.mem_cons, List.not_mem_nil, or_false] at hy; rcases hy with rfl | rfl <;> simp) hP9
   clear hT9 hE9 hP9 hb9 k0 k1 k2 k3 kf
   have c1 := H.out.rd.c1
   have f1 := frozen_of_row _ _ 1 _ _ H.out.rd.row
   rw [show ((nest + 1 : Nat) : Int) = (nest : Int) + 1 by omega] at c1
   have hn0 : (0 : Int) ≤ nest := by omega
   have hn12 : (nest : Int) ≤ 12 := by omega
   have ef : ∀ i, wc.frozen? ⟨(be), i, none⟩ = false := fun i => Lib.frozen_of_heap HE.out i
   have e0 : wc.cell? ⟨(be), 0, none⟩ = some (.int .i64 6) := by rw [Lib.cell_of_heap HE.out]; rfl
   have e1 : wc.cell? ⟨(be), 1, none⟩ = some (.string ⟨#[]⟩) := by rw [Lib.cell_of_heap HE.out]; rfl
   have e2 : wc.cell? ⟨(be), 2, none⟩ = some (.int .i64 0) := by rw [Lib.cell_of_heap HE.out]; rfl
   have e3 : wc.cell? ⟨(be), 3, none⟩ = some (.slice (some ⟨rb, 0, none⟩) 1 1) := by rw [Lib.cell_of_heap HE.out]; rfl
   have e4 : wc.cell? ⟨(be), 4, none⟩ = some (.int .i64 tp) := by rw [Lib.cell_of_heap HE.out]; rfl
   have zf : ∀ i, wc.frozen? ⟨b, i, none⟩ = false := fun i => Lib.frozen_of_heap H.out.res i
   have z0 : wc.cell? ⟨b, 0, none⟩ = some (.int .i64 0) := by rw [Lib.cell_of_heap H.out.res]; rfl
   have z1 : wc.cell? ⟨b, 1, none⟩ = some (.string ⟨#[]⟩) := by rw [Lib.cell_of_heap H.out.res]; rfl
   have z2 : wc.cell? ⟨b, 2, none⟩ = some (.int .i64 0) := by rw [Lib.cell_of_heap H.out.res]; rfl
   have z3 : wc.cell? ⟨b, 3, none⟩ = some (.slice none 0 0) := by rw [Lib.cell_of_heap H.out.res]; rfl
   have z4 : wc.cell? ⟨b, 4, none⟩ = some (.int .i64 0) := by rw [Lib.cell_of_heap H.out.res]; rfl
   have HT := Lib.hid ((((((H.out.less).setr 0 (.int .i64 6)).setr 1 (.string ⟨#[]⟩)).setr 2 (.int .i64 0)).setr 3 (.slice (some ⟨rb, 0, none⟩) 1 1)).setr 4 (.int .i64 tp))
   go_wp2_with fail
   refine bodyPost_ret (v := .agg #[.int .i64 6, .string ⟨#[]⟩, .int .i64 0, .slice (some ⟨rb, 0, none⟩) 1 1, .int .i64 tp]) (results_cell_row rfl _ _ b _ _ (0, 0) _ rfl HT.out.res Tryd.underlying80 rfl (by kernel_rfl)) rfl ?_
   exact Done.ok (x := .mk 6 Pol.none_ 0 [x] tp) rfl (HREP5.out.mono (fun g _ h => h.1)) HT.out.f HT.out.rd
  case first =>
   refine wp_region_held_drew (S := (fun W' => W'.cell? ⟨b + 1, 3, none⟩ = some (.int .i64 tp))) (by kernel_rfl) (show World.cell? _ _ = _ from k3) (fun hHeld => ?_)
   refine held_take (i := 0) (v := ?_) 26 rfl rfl (by kernel_rfl) (by kernel_rfl) (by kernel_rfl) (fun _ _ _ h => h) (Or.inl ⟨by rfl, ?_⟩) (by assumption) ?_
   rotate_left 1
   ·intro w hSw; (try dsimp only at hSw); go_simp; try (with_reducible rfl)
   try simp only [Act.put, List.setIfInBounds_toArray, List.set_cons_zero, List.set_cons_succ]
   refine held_take (i := 1) (v := ?_) 27 rfl rfl (by kernel_rfl) (by kernel_rfl) (by kernel_rfl) (fun _ _ _ h => h) (Or.inl ⟨by rfl, ?_⟩) (by assumption) ?_
   rotate_left 1
   ·intro w hSw; (try dsimp only at hSw); go_simp; try (with_reducible rfl)
   try simp only [Act.put, List.setIfInBounds_toArray, List.set_cons_zero, List.set_cons_succ]
   refine held_take (i := 2) (v := ?_) 28 rfl rfl (by kernel_rfl) (by kernel_rfl) (by kernel_rfl) (fun _ _ _ h => h) (Or.inl ⟨by rfl, ?_⟩) (by assumption) ?_
   rotate_left 1
   ·intro w hSw; (try dsimp only at hSw); go_simp; try (with_reducible rfl)
   try simp only [Act.put, List.setIfInBounds_toArray, List.set_cons_zero, List.set_cons_succ]
   refine wpAnyH_ready (rs := [3, 6]) (by kernel_rfl) (by simp) ?_
   refine AllReadyH.cons rfl (fun K hK => ?_) (AllReadyH.cons rfl (fun K hK => ?_) AllReadyH.nil)
   ·have HT1 := HT0
    go_simp
    go_at_call 107
    refine (HCC.out _ _ _ HT1.out).mono ?_
    rintro e w2 ⟨cs, rfl, hrep, hFb, o3, c3, hr3⟩
    obtain ⟨op, s9, n9, q9, k9, c9, p9, rfl⟩ := hrep.form
    have HT2 := Lib.hid (HT1.out.step hFb hr3)
    have HREP := Lib.hid hrep
    have HFB := Lib.hid hFb
    refine hK.out _ _ (HS.out _ _ _ _ _ HT2.out) (fun hHeld => ?_)
    clear hK K hrep hFb hr3
    try simp only [Act.put, List.setIfInBounds_toArray, List.set_cons_zero, List.set_cons_succ]
    refine wpAnyH_ready (rs := [4, 6]) (by kernel_rfl) (by simp) ?_
    refine AllReadyH.cons rfl (fun K hK => ?_) (AllReadyH.cons rfl (fun K hK => ?_) AllReadyH.nil)
    ·-- the row first
     have HT3 := Lib.hid (HT2.out.fr ((Fr.refl [] _).alloc (.cells #[.int .i64 op, .string s9, .int .i64 n9, .slice q9 k9 c9, .int .i64 p9] 80)))
     go_simp
     refine hK.out _ _ (HS.out _ _ _ _ _ HT3.out) (fun hHeld => ?_)
     clear hK K
     try simp only [Act.put, List.setIfInBounds_toArray, List.set_cons_zero, List.set_cons_succ]
     refine held_take (i := 5) (v := ?_) 31 rfl rfl (by kernel_rfl) (by kernel_rfl) (by kernel_rfl) (fun _ _ _ h => h) (Or.inl ⟨by rfl, ?_⟩) (by assumption) ?_
     rotate_left 1
     ·intro w hSw; (try dsimp only at hSw); go_simp; try (with_reducible rfl)
     try simp only [Act.put, List.setIfInBounds_toArray, List.set_cons_zero, List.set_cons_succ]
     refine wpAnyH_ready (rs := [6]) (by kernel_rfl) (by simp) ?_
     refine AllReadyH.cons rfl (fun K hK => ?_) AllReadyH.nil
     have HT4 := Lib.hid (HT3.out.fr ((Fr.refl [] _).alloc (.cells z5 80)))
     go_simp
     refine hK.out _ _ (HS.out _ _ _ _ _ HT4.out) (fun hHeld => ?_)
     clear hK K
     try simp only [Act.put, List.setIfInBounds_toArray, List.set_cons_zero, List.set_cons_succ]
     have hbb : b + 1 < w2.heap.size := row_lt HT2.out.tok
     refine wpAnyH_fresh (fun U => Tk2 w r g o3 c3 m (nest + 1) ⟨tk, ts, tn, tp⟩ b z5 U ∧ U.heap[w2.heap.size + 1]? = some (.cells z5 80 (0, 0)) ∧ U.heap[w2.heap.size]? = some (.cells [.int .i64 op, .string s9, .int .i64 n9, .slice q9 k9 c9, .int .i64 p9].toArray 80 (0, 0)) ∧ Rep U (fun g => w.heap.size ≤ g ∧ g ≠ w2.heap.size + 1 ∧ g ≠ b) [.int .i64 op, .string s9, .int .i64 n9, .slice q9 k9 c9, .int .i64 p9] x) ⟨HT4.out, (alloc2 _ _ _).2, (alloc2 _ _ _).1, Rep.fr (((Fr.refl [] _).alloc _).alloc _) (fun y hy => by cases hy) (HREP.out.mono (fun g hg h => by have h2 : V.heap.size ≤ g := h; have h9 := HBV.out; have := HB.out; exact ⟨by omega, by omega, by have := HBV.out; omega⟩))⟩ ?_
     rintro U ⟨t5, e5, r5, p5⟩
     have HT5 := Lib.hid t5
     have HE5 := Lib.hid e5
     have HR5 := Lib.hid r5
     have HP5 := Lib.hid p5
     have hSU := HS.out _ _ _ _ _ t5
     clear t5 e5 r5 p5
     have ef : ∀ i, U.frozen? ⟨(w2.heap.size + 1), i, none⟩ = false := fun i => Lib.frozen_of_heap HE5.out i
     have e0 : U.cell? ⟨(w2.heap.size + 1), 0, none⟩ = some (.int .i64 0) := by rw [Lib.cell_of_heap HE5.out]; rfl
     have e1 : U.cell? ⟨(w2.heap.size + 1), 1, none⟩ = some (.string ⟨#[]⟩) := by rw [Lib.cell_of_heap HE5.out]; rfl
     have e2 : U.cell? ⟨(w2.heap.size + 1), 2, none⟩ = some (.int .i64 0) := by rw [Lib.cell_of_heap HE5.out]; rfl
     have e3 : U.cell? ⟨(w2.heap.size + 1), 3, none⟩ = some (.slice none 0 0) := by rw [Lib.cell_of_heap HE5.out]; rfl
     have e4 : U.cell? ⟨(w2.heap.size + 1), 4, none⟩ = some (.int .i64 0) := by rw [Lib.cell_of_heap HE5.out]; rfl
     have HEND := Lib.hid (not_end HT5.out HE5.out (by omega) HR5.out (by omega) (by omega) HP5.out)
     have HS9 := Lib.hid (HS.out _ _ _ _ _ (HT5.out.other (fr_five U [w2.heap.size + 1] (w2.heap.size + 1) (.int .i64 6) (.string ⟨#[]⟩) (.int .i64 0) (.slice (some ⟨w2.heap.size, 0, none⟩) 1 1) (.int .i64 tp) (by simp)) (by omega)))
     have hne0 : w2.heap.size + 1 ≠ b + 1 := by omega
     have hne1 : b + 1 ≠ w2.heap.size + 1 := by omega
     refine wpAnyH_ready (rs := [7]) (by kernel_rfl) (by simp) ?_
     refine AllReadyH.cons rfl (fun K hK => ?_) AllReadyH.nil
     go_simp
     refine hK.out _ _ HS9.out (fun hHeld => ?_)
     clear hK K
     try simp only [Act.put, List.setIfInBounds_toArray, List.set_cons_zero, List.set_cons_succ]
     refine wpAnyH_done (by kernel_rfl) ?_ _
     go_wp2_with fail
     go_meet
     exact ⟨_, rfl, HEND.out⟩
    ·-- the variable first
     have HT3 := Lib.hid (HT2.out.fr ((Fr.refl [] _).alloc (.cells z5 80)))
     go_simp
     refine hK.out _ _ (HS.out _ _ _ _ _ HT3.out) (fun hHeld => ?_)
     clear hK K
     try simp only [Act.put, List.setIfInBounds_toArray, List.set_cons_zero, List.set_cons_succ]
     refine wpAnyH_ready (rs := [4]) (by kernel_rfl) (by simp) ?_
     refine AllReadyH.cons rfl (fun K hK => ?_) AllReadyH.nil
     have HT4 := Lib.hid (HT3.out.fr ((Fr.refl [] _).alloc (.cells #[.int .i64 op, .string s9, .int .i64 n9, .slice q9 k9 c9, .int .i64 p9] 80)))
     go_simp
     refine hK.out _ _ (HS.out _ _ _ _ _ HT4.out) (fun hHeld => ?_)
     clear hK K
     try simp only [Act.put, List.setIfInBounds_toArray, List.set_cons_zero, List.set_cons_succ]
     refine held_take (i := 5) (v := ?_) 31 rfl rfl (by kernel_rfl) (by kernel_rfl) (by kernel_rfl) (fun _ _ _ h => h) (Or.inl ⟨by rfl, ?_⟩) (by assumption) ?_
     rotate_left 1
     ·intro w hSw; (try dsimp only at hSw); go_simp; try (with_reducible rfl)
     try simp only [Act.put, List.setIfInBounds_toArray, List.set_cons_zero, List.set_cons_succ]
     have hbb : b + 1 < w2.heap.size := row_lt HT2.out.tok
     refine wpAnyH_fresh (fun U => Tk2 w r g o3 c3 m (nest + 1) ⟨tk, ts, tn, tp⟩ b z5 U ∧ U.heap[w2.heap.size]? = some (.cells z5 80 (0, 0)) ∧ U.heap[w2.heap.size + 1]? = some (.cells [.int .i64 op, .string s9, .int .i64 n9, .slice q9 k9 c9, .int .i64 p9].toArray 80 (0, 0)) ∧ Rep U (fun g => w.heap.size ≤ g ∧ g ≠ w2.heap.size ∧ g ≠ b) [.int .i64 op, .string s9, .int .i64 n9, .slice q9 k9 c9, .int .i64 p9] x) ⟨HT4.out, (alloc2 _ _ _).1, (alloc2 _ _ _).2, Rep.fr (((Fr.refl [] _).alloc _).alloc _) (fun y hy => by cases hy) (HREP.out.mono (fun g hg h => by have h2 : V.heap.size ≤ g := h; have h9 := HBV.out; have := HB.out; exact ⟨by omega, by omega, by have := HBV.out; omega⟩))⟩ ?_
     rintro U ⟨t5, e5, r5, p5⟩
     have HT5 := Lib.hid t5
     have HE5 := Lib.hid e5
     have HR5 := Lib.hid r5
     have HP5 := Lib.hid p5
     have hSU := HS.out _ _ _ _ _ t5
     clear t5 e5 r5 p5
     have ef : ∀ i, U.frozen? ⟨(w2.heap.size), i, none⟩ = false := fun i => Lib.frozen_of_heap HE5.out i
     have e0 : U.cell? ⟨(w2.heap.size), 0, none⟩ = some (.int .i64 0) := by rw [Lib.cell_of_heap HE5.out]; rfl
     have e1 : U.cell? ⟨(w2.heap.size), 1, none⟩ = some (.string ⟨#[]⟩) := by rw [Lib.cell_of_heap HE5.out]; rfl
     have e2 : U.cell? ⟨(w2.heap.size), 2, none⟩ = some (.int .i64 0) := by rw [Lib.cell_of_heap HE5.out]; rfl
     have e3 : U.cell? ⟨(w2.heap.size), 3, none⟩ = some (.slice none 0 0) := by rw [Lib.cell_of_heap HE5.out]; rfl
     have e4 : U.cell? ⟨(w2.heap.size), 4, none⟩ = some (.int .i64 0) := by rw [Lib.cell_of_heap HE5.out]; rfl
     have HEND := Lib.hid (not_end HT5.out HE5.out (by omega) HR5.out (by omega) (by omega) HP5.out)
     have HS9 := Lib.hid (HS.out _ _ _ _ _ (HT5.out.other (fr_five U [w2.heap.size] (w2.heap.size) (.int .i64 6) (.string ⟨#[]⟩) (.int .i64 0) (.slice (some ⟨w2.heap.size + 1, 0, none⟩) 1 1) (.int .i64 tp) (by simp)) (by omega)))
     have hne0 : w2.heap.size ≠ b + 1 := by omega
     have hne1 : b + 1 ≠ w2.heap.size := by omega
     refine wpAnyH_ready (rs := [7]) (by kernel_rfl) (by simp) ?_
     refine AllReadyH.cons rfl (fun K hK => ?_) AllReadyH.nil
     go_simp
     refine hK.out _ _ HS9.out (fun hHeld => ?_)
     clear hK K
     try simp only [Act.put, List.setIfInBounds_toArray, List.set_cons_zero, List.set_cons_succ]
     refine wpAnyH_done (by kernel_rfl) ?_ _
     go_wp2_with fail
     go_meet
     exact ⟨_, rfl, HEND.out⟩
   ·have HT1 := Lib.hid (HT0.out.fr ((Fr.refl [] _).alloc (.cells z5 80)))
    have HV1 := Lib.hid (heap_alloc_last V.drew (.cells z5 80))
    go_simp
    refine hK.out _ _ (HS.out _ _ _ _ _ HT1.out) (fun hHeld => ?_)
    clear hK K
    try simp only [Act.put, List.setIfInBounds_toArray, List.set_cons_zero, List.set_cons_succ]
    refine wpAnyH_ready (rs := [3]) (by kernel_rfl) (by simp) ?_
    refine AllReadyH.cons rfl (fun K hK => ?_) AllReadyH.nil
    go_simp
    go_at_call 107
    refine (HCC.out _ _ _ HT1.out).mono ?_
    rintro e w2 ⟨cs, rfl, hrep, hFb, o3, c3, hr3⟩
    obtain ⟨op, s9, n9, q9, k9, c9, p9, rfl⟩ := hrep.form
    have HT2 := Lib.hid (HT1.out.step hFb hr3)
    have HREP := Lib.hid hrep
    have HFB := Lib.hid hFb
    refine hK.out _ _ (HS.out _ _ _ _ _ HT2.out) (fun hHeld => ?_)
    clear hK K hrep hFb hr3
    try simp only [Act.put, List.setIfInBounds_toArray, List.set_cons_zero, List.set_cons_succ]
    refine wpAnyH_ready (rs := [4]) (by kernel_rfl) (by simp) ?_
    refine AllReadyH.cons rfl (fun K hK => ?_) AllReadyH.nil
    have HT3 := Lib.hid (HT2.out.fr ((Fr.refl [] _).alloc (.cells #[.int .i64 op, .string s9, .int .i64 n9, .slice q9 k9 c9, .int .i64 p9] 80)))
    go_simp
    refine hK.out _ _ (HS.out _ _ _ _ _ HT3.out) (fun hHeld => ?_)
    clear hK K
    try simp only [Act.put, List.setIfInBounds_toArray, List.set_cons_zero, List.set_cons_succ]
    refine held_take (i := 5) (v := ?_) 31 rfl rfl (by kernel_rfl) (by kernel_rfl) (by kernel_rfl) (fun _ _ _ h => h) (Or.inl ⟨by rfl, ?_⟩) (by assumption) ?_
    rotate_left 1
    ·intro w hSw; (try dsimp only at hSw); go_simp; try (with_reducible rfl)
    try simp only [Act.put, List.setIfInBounds_toArray, List.set_cons_zero, List.set_cons_succ]
    have hVr : V.heap.size ≠ r := by omega
    have hVw : V.heap.size < w2.heap.size := by have := HFB.out.size; simp at this; omega
    have hVE : w2.heap[V.heap.size]? = some (.cells z5 80 (0, 0)) := HFB.out.row HV1.out (by simpa using hVr)
    have hbb : b + 1 < w2.heap.size := row_lt HT2.out.tok
    refine wpAnyH_fresh (fun U => Tk2 w r g o3 c3 m (nest + 1) ⟨tk, ts, tn, tp⟩ b z5 U ∧ U.heap[V.heap.size]? = some (.cells z5 80 (0, 0)) ∧ U.heap[w2.heap.size]? = some (.cells [.int .i64 op, .string s9, .int .i64 n9, .slice q9 k9 c9, .int .i64 p9].toArray 80 (0, 0)) ∧ Rep U (fun g => w.heap.size ≤ g ∧ g ≠ V.heap.size ∧ g ≠ b) [.int .i64 op, .string s9, .int .i64 n9, .slice q9 k9 c9, .int .i64 p9] x) ⟨HT3.out, (Below.heap_alloc _ _ _ hVw).trans hVE, heap_alloc_last _ _, Rep.fr ((Fr.refl [] _).alloc _) (fun y hy => by cases hy) (HREP.out.mono (fun g hg h => by have h2 : V.heap.size + 1 ≤ g := by {have h3 : ((V.drew.alloc (.cells z5 80)).heap.size) ≤ g := h; simpa using h3}; have := HB.out; exact ⟨by omega, by omega, by omega⟩))⟩ ?_
    rintro U ⟨t5, e5, r5, p5⟩
    have HT5 := Lib.hid t5
    have HE5 := Lib.hid e5
    have HR5 := Lib.hid r5
    have HP5 := Lib.hid p5
    have hSU := HS.out _ _ _ _ _ t5
    clear t5 e5 r5 p5
    have ef : ∀ i, U.frozen? ⟨(V.heap.size), i, none⟩ = false := fun i => Lib.frozen_of_heap HE5.out i
    have e0 : U.cell? ⟨(V.heap.size), 0, none⟩ = some (.int .i64 0) := by rw [Lib.cell_of_heap HE5.out]; rfl
    have e1 : U.cell? ⟨(V.heap.size), 1, none⟩ = some (.string ⟨#[]⟩) := by rw [Lib.cell_of_heap HE5.out]; rfl
    have e2 : U.cell? ⟨(V.heap.size), 2, none⟩ = some (.int .i64 0) := by rw [Lib.cell_of_heap HE5.out]; rfl
    have e3 : U.cell? ⟨(V.heap.size), 3, none⟩ = some (.slice none 0 0) := by rw [Lib.cell_of_heap HE5.out]; rfl
    have e4 : U.cell? ⟨(V.heap.size), 4, none⟩ = some (.int .i64 0) := by rw [Lib.cell_of_heap HE5.out]; rfl
    have HEND := Lib.hid (not_end HT5.out HE5.out (by omega) HR5.out (by omega) (by omega) HP5.out)
    have HS9 := Lib.hid (HS.out _ _ _ _ _ (HT5.out.other (fr_five U [V.heap.size] (V.heap.size) (.int .i64 6) (.string ⟨#[]⟩) (.int .i64 0) (.slice (some ⟨w2.heap.size, 0, none⟩) 1 1) (.int .i64 tp) (by simp)) (by omega)))
    have hne0 : V.heap.size ≠ b + 1 := by omega
    have hne1 : b + 1 ≠ V.heap.size := by omega
    refine wpAnyH_ready (rs := [7]) (by kernel_rfl) (by simp) ?_
    refine AllReadyH.cons rfl (fun K hK => ?_) AllReadyH.nil
    go_simp
    refine hK.out _ _ HS9.out (fun hHeld => ?_)
    clear hK K
    try simp only [Act.put, List.setIfInBounds_toArray, List.set_cons_zero, List.set_cons_succ]
    refine wpAnyH_done (by kernel_rfl) ?_ _
    go_wp2_with fail
    go_meet
    exact ⟨_, rfl, HEND.out⟩
end Go.Proofs.YtgklmpooonnmiaaDoor
