/-
  Lemmas and contracts that the proofs over this seat use (PolIn, PolAll); no statement of the seat is claimed in this text, and nothing is assumed in it.
-/
import Derived.Test.YtgklmpooonnmiaaDoorJ24
import Derived.Test.YtgklmpooonnmiaaDoorJ7
set_option linter.unusedVariables false
set_option linter.unusedSimpArgs false
namespace Go.Proofs.YtgklmpooonnmiaaDoor
open Go.RowKit
theorem Rep.of_own {w : World} {D : Nat → Prop} (op : Int) (s : ByteArray) (n : Int) (p : Int) (L : List Ex) (css : List (List Value)) (g B c : Nat) (hgr : D g) (hlen : css.length = L.length)
  (hown : w.ownsRow B 80 5 (.slice (some ⟨g, 0, none⟩) L.length c) L.length css.flatten) (hx : ∀ (i : Nat) (x : Ex) (cs : List Value), L[i]? = some x → css[i]? = some cs → Rep w D cs x) :
  Rep w D [.int .i64 op, .string s, .int .i64 n, .slice (some ⟨g, 0, none⟩) L.length c, .int .i64 p] (.mk op s n L p) := by
 rcases hown.2 with ⟨hv, _⟩ | ⟨g', cap, cur, hv, hb, hrow, h1, h2, h3, h4⟩
 ·cases hv
 ·cases hv
  have h5 : ∀ (i : Nat) (cs : List Value), css[i]? = some cs → cs.length = 5 := fun i cs hi => by
   obtain ⟨h1, rfl⟩ := List.getElem?_eq_some_iff.1 hi
   exact (hx i _ _ (List.getElem?_eq_getElem (by omega)) hi).len
  have hat := flat_at css h5
  refine .mk op s n L p _ c (fun i => css.getD i []) h1 h2 (fun i x hi => ⟨g, rfl, row_lt hrow, hgr, fun j v hj => ?_⟩) (fun i x hi => ?_)
  ·have hi2 : i < css.length := by have := (List.getElem?_eq_some_iff.1 hi).1; omega
   have e : css.getD i [] = css[i] := by simp [List.getD, List.getElem?_eq_getElem hi2]
   simp only [e] at hj
   have h9 := hat i _ j v (List.getElem?_eq_getElem hi2) hj
   rw [← h4, List.getElem?_take] at h9
   split at h9
   ·rw [cell_of_row _ _ _ _ _ _ hrow]; simpa using h9
   ·cases h9
  ·have hi2 : i < css.length := by have := (List.getElem?_eq_some_iff.1 hi).1; omega
   have e : css.getD i [] = css[i] := by simp [List.getD, List.getElem?_eq_getElem hi2]
   simp only [e]
   exact hx i x _ hi (List.getElem?_eq_getElem hi2)
theorem own5_cells {w : World} {B n c : Nat} {g : Nat} {xs : List Value} (h : w.ownsRow B 80 5 (.slice (some ⟨g, 0, none⟩) n c) n xs) : ∀ j u, xs[j]? = some u → w.cell? ((⟨g, 0, none⟩ : Addr).add j) = some u := by
 intro j u hj
 rcases h.2 with ⟨hv, _⟩ | ⟨g', cap, cur, hv, hb, hrow, h1, h2, h3, h4⟩
 ·cases hv
 ·cases hv
  have hadd : (⟨g, 0, none⟩ : Addr).add j = ⟨g, j, none⟩ := by unfold Addr.add; split <;> simp_all
  rw [hadd, cell_of_row _ _ _ _ _ _ hrow]
  rw [← h4, List.getElem?_take] at hj
  split at hj
  ·simpa using hj
  ·cases hj
theorem own_form5 {w : World} {B n : Nat} {v : Value} {xs : List Value} (h : w.ownsRow B 80 5 v n xs) (hn : 0 < n) : ∃ g c, v = .slice (some ⟨g, 0, none⟩) n c ∧ B ≤ g := by
 rcases h.2 with ⟨_, h0⟩ | ⟨g', cap, cur, hv, hb, _⟩
 ·omega
 ·exact ⟨g', cap, hv, hb⟩
theorem exs_one {w : World} {D : Nat → Prop} {css : List (List Value)} {L : List Ex} (h : Exs w D css L) : ∀ v ∈ css.flatten, v.oneCell' = true := by
 intro v hv
 obtain ⟨cs, hcs, hv⟩ := List.mem_flatten.1 hv
 obtain ⟨i, hi, rfl⟩ := List.mem_iff_getElem.1 hcs
 have hl := h.len
 exact (h.rep i (L[i]'(by omega)) _ (List.getElem?_eq_getElem (by omega)) (List.getElem?_eq_getElem hi)).one v hv
theorem Exs.cons {w : World} {D : Nat → Prop} {cs : List Value} {x : Ex} {css : List (List Value)} {L : List Ex} (hx : Rep w D cs x) (h : Exs w D css L) : Exs w D (cs :: css) (x :: L) := by
 refine ⟨by simp [h.len], fun i y ds hi hc => ?_⟩
 cases i with
 | zero => simp at hi hc; subst hi hc; exact hx
 | succ i => simp at hi hc; exact h.rep i y ds hi hc
theorem Cmp.other {w : World} {b1 T A F5 R0 r g o c X : Nat} {l : List TI} {nest : Nat} {t : TI} {ca : List Value} {a : Ex} {W W' : World} (h : Cmp w b1 T A F5 R0 r g o c l nest t ca a W) (hf : Fr [X] W W') (hX : X ≠ b1 ∧ X ≠ T ∧ X ≠ A ∧ X ≠ R0 ∧ X ≠ F5) (hw : w.heap.size ≤ X)
  (hrep : Rep W' (fun i => w.heap.size ≤ i ∧ i ≠ R0) ca a) : Cmp w b1 T A F5 R0 r g o c l nest t ca a W' := by
 have h1 := h.cls.rB; have h2 := h.cls.gB
 obtain ⟨x1, x2, x3, x4, x5⟩ := hX
 exact ⟨⟨h.cls.rd.fr hf (by simp; omega) (by simp; omega), hf.row h.cls.box (by simpa using x1.symm), hf.row h.cls.tok (by simpa using x2.symm), hf.row h.cls.av (by simpa using x3.symm), hrep, h.cls.dB, h1, h2, h.cls.Bb, h.cls.BT, h.cls.BA⟩, hf.row h.res (by simpa using x4.symm), hf.row h.fn (by simpa using x5.symm), h.f.trans hf (fun y hy => .inr (by simp at hy; omega)), h.RT, h.Rw, h.Fw⟩
theorem Pol.row_pos {f nest : Nat} {l m : List TI} {L : List Ex} (h : Pol.row f nest l = .ok (L, m)) : 0 < L.length := by
 cases f with
 | zero => simp [Pol.row] at h
 | succ f =>
  rw [Pol.row] at h
  split at h
  ·cases h
  ·split at h
   ·split at h
    ·cases h
    ·cases h; simp
   ·cases h; simp
theorem Pol.row_few {f nest : Nat} : ∀ {l m : List TI} {L : List Ex} (h : Pol.row f nest l = .ok (L, m)), L.length + m.length ≤ l.length := by
 induction f with
 | zero => intro l m L h; simp [Pol.row] at h
 | succ f ih =>
  intro l m L h
  rw [Pol.row] at h
  split at h
  ·cases h
  ·rename_i x m1 hx
   have h1 : m1.length < l.length := (Pol.all_shrink f).1 _ _ _ _ hx
   split at h
   ·rename_i hi
    have h3 := Pol.is_len hi
    split at h
    ·cases h
    ·rename_i L1 m2 hr
     have h2 := ih hr
     cases h
     simp only [List.length_cons]
     omega
   ·cases h
    simp only [List.length_cons, List.length_nil]
    omega
def Pol.inOf (f nest : Nat) (p : Int) (a : Ex) (m : List TI) : Pol.PR Ex :=
 match Pol.must m [91] with
 | .error e => .error e
 | .ok (_, m) => match Pol.row f nest m with
   | .error e => .error e
   | .ok (L, m) => match Pol.must m [93] with
     | .error e => .error e
     | .ok (_, m) => .ok (.mk 13 Pol.none_ 0 (a :: L) p, m)
set_option maxHeartbeats 4000000 in
set_option maxRecDepth 100000 in
theorem cmp_in (f : Nat) (hO : ∀ f' ≤ f, ReadsEx 110 (Pol.operand f')) (w : World) (r g o c : Nat) (l : List TI) (nest : Nat) (h : Rd w r g o c l nest) (hr : r < w.heap.size) (a : Ex) (t : TI) (m : List TI)
  (hC : ∀ W o c, Rd W r g o c l nest → r < W.heap.size → Calls Tryd.prog 110 #[.pointer (some ⟨r, 0, none⟩)] W (Done r g nest W (.ok (a, t :: m))))
  (hE : Ends m) (hn : nest ≤ 12) (hk : t.k ≠ 4) (hs : Pol.is (t :: m) 1 [104, 97, 115] = false) (hi : Pol.is (t :: m) 1 [105, 110] = true) (hfed : Pol.Fed (Pol.inOf (f + 1) nest t.p a m)) :
  Calls Tryd.prog 108 #[.pointer (some ⟨r, 0, none⟩)] w (Done r g nest w (Pol.inOf (f + 1) nest t.p a m)) := by
 have HK := Lib.hid hk
 have HS := Lib.hid hs
 have HI := Lib.hid hi
 have HE := Lib.hid hE
 have HO := Lib.hid hO
 have HFD := Lib.hid hfed
 have hm9 := hE.pos
 clear hk hs hi hE hO hfed
 have HRD := Lib.hid h
 have HC := Lib.hid hC
 have HR := Lib.hid (alloc2 w (.cells #[.pointer (some ⟨r, 0, none⟩)] 94) (.cells z5 80))
 have hg := h.gl
 have HA0 : Hid (Fr [] w ((w.alloc (.cells #[.pointer (some ⟨r, 0, none⟩)] 94)).alloc (.cells z5 80))) := ((Fr.refl [] w).alloc _).alloc _
 have HN := Lib.hid (HC.out _ o c (HRD.out.fr HA0.out (by simp) (by simp)) (by simp; omega))
 clear h hC
 go_enter Tryd.func108, Tryd.ntmps108
 go_wp2_with fail
 refine HN.out.mono ?_
 intro e w1 hd
 obtain ⟨cs, rfl, hrep, hf3, o3, c3, hr3⟩ := hd
 obtain ⟨op0, s9, n9, q9, k9, c9, p9, rfl⟩ := hrep.form
 obtain ⟨tk, ts, tn, tp⟩ := t
 skip
 have hbx := hf3.row HR.out.1 (by simp; omega)
 have hrs := hf3.row HR.out.2 (by simp; omega)
 have hz1 : w.heap.size + 1 < w1.heap.size := row_lt hrs
 obtain ⟨a0, a1, a2, a3⟩ := hr3.tk 0 _ rfl
 have c0 := hr3.c0
 have hlc := hr3.lc
 have hm := hr3.cm
 have hne := hr3.ne
 have x0 : w1.cell? ⟨w.heap.size, 0, none⟩ = some (.pointer (some ⟨r, 0, none⟩)) := by rw [Lib.cell_of_heap hbx]; rfl
 rw [List.length_cons] at c0 hlc
 unfold maxLen at hm
 simp only [Nat.mul_zero, Nat.add_zero] at a0 a1 a2 a3
 have hg1 := hr3.gl
 have hr1 : r < w1.heap.size := row_lt hr3.row
 have hmf : ∀ fn first cap w, (Instr.makeFunc fn first cap).run Tryd.prog w = .ok (.func fn first cap) w := fun _ _ _ _ => rfl
 have HRP := Lib.hid (hrep.mono (E := fun i => w.heap.size ≤ i ∧ i ≠ w.heap.size + 1) (fun i hi h => by
  have h9 : ((w.alloc (.cells #[.pointer (some ⟨r, 0, none⟩)] 94)).alloc (.cells z5 80)).heap.size ≤ i := h
  simp at h9
  exact ⟨by omega, by omega⟩))
 have HR3 := Lib.hid hr3
 have HBX := Lib.hid hbx
 have HRS := Lib.hid hrs
 have HF3 : Hid (Fr [r] w w1) := HA0.out.sub.trans hf3 (fun y hy => .inl hy)
 clear hrep hf3 hr3 hbx hrs HN HR HA0
 have hz0 : w.heap.size < w1.heap.size := by omega
 go_upto_region 5 with fail
 refine wp_fresh (fun W => Cmp w w.heap.size (w1.heap.size + 1) w1.heap.size (w1.heap.size + 1 + 1) (w.heap.size + 1) r g o3 c3 (⟨tk, ts, tn, tp⟩ :: m) nest ⟨tk, ts, tn, tp⟩ [.int .i64 op0, .string s9, .int .i64 n9, .slice q9 k9 c9, .int .i64 p9] a W) ?_ ?_
 ·have hal := alloc3 w1 (.cells #[.int .i64 op0, .string s9, .int .i64 n9, .slice q9 k9 c9, .int .i64 p9] 80) (.cells #[.int .i64 tk, .string ts, .int .i64 tn, .int .i64 tp] 25) (.cells #[.func (.func 111) #[] #[.pointer (some ⟨w.heap.size, 0, none⟩), .pointer (some ⟨w1.heap.size + 1, 0, none⟩), .pointer (some ⟨w1.heap.size, 0, none⟩)]] 163)
  have hf : Fr [] w1 _ := (((Fr.refl [] w1).alloc (.cells #[.int .i64 op0, .string s9, .int .i64 n9, .slice q9 k9 c9, .int .i64 p9] 80)).alloc (.cells #[.int .i64 tk, .string ts, .int .i64 tn, .int .i64 tp] 25)).alloc (.cells #[.func (.func 111) #[] #[.pointer (some ⟨w.heap.size, 0, none⟩), .pointer (some ⟨w1.heap.size + 1, 0, none⟩), .pointer (some ⟨w1.heap.size, 0, none⟩)]] 163)
  have h1 := HR3.out.fr hf (by simp) (by simp)
  have h2 := hf.row HBX.out (by simp)
  have h3 := hf.row HRS.out (by simp)
  have h4 := HRP.out.fr hf (fun y hy _ => by cases hy)
  have h5 := HF3.out.trans0 hf
  exact ⟨⟨h1, h2, hal.2.1, hal.1, h4, fun i hi => hi.1, hr, hg, Nat.le_refl _, by omega, by omega⟩, h3, hal.2.2, h5, ⟨by omega, by omega, by omega, by omega⟩, by omega, by omega⟩
 intro W h1
 have H := Lib.hid h1
 clear h1 a0 a1 a2 a3 c0 hlc hm hne x0 HBX HRS HRP HR3
 have hrW := row_lt H.out.cls.rd.row
 have hresW := row_lt H.out.res
 have hAW := row_lt H.out.cls.av
 have hTW := row_lt H.out.cls.tok
 have hFW := row_lt H.out.fn
 have kf : ∀ i, W.frozen? ⟨(w1.heap.size + 1), i, none⟩ = false := fun i => Lib.frozen_of_heap H.out.cls.tok i
 have k0 : W.cell? ⟨(w1.heap.size + 1), 0, none⟩ = some (.int .i64 tk) := by rw [Lib.cell_of_heap H.out.cls.tok]; rfl
 have k1 : W.cell? ⟨(w1.heap.size + 1), 1, none⟩ = some (.string ts) := by rw [Lib.cell_of_heap H.out.cls.tok]; rfl
 have k2 : W.cell? ⟨(w1.heap.size + 1), 2, none⟩ = some (.int .i64 tn) := by rw [Lib.cell_of_heap H.out.cls.tok]; rfl
 have k3 : W.cell? ⟨(w1.heap.size + 1), 3, none⟩ = some (.int .i64 tp) := by rw [Lib.cell_of_heap H.out.cls.tok]; rfl
 have ef : ∀ i, W.frozen? ⟨w1.heap.size, i, none⟩ = false := fun i => Lib.frozen_of_heap H.out.cls.av i
 have e0 : W.cell? ⟨w1.heap.size, 0, none⟩ = some (.int .i64 op0) := by rw [Lib.cell_of_heap H.out.cls.av]; rfl
 have e1 : W.cell? ⟨w1.heap.size, 1, none⟩ = some (.string s9) := by rw [Lib.cell_of_heap H.out.cls.av]; rfl
 have e2 : W.cell? ⟨w1.heap.size, 2, none⟩ = some (.int .i64 n9) := by rw [Lib.cell_of_heap H.out.cls.av]; rfl
 have e3 : W.cell? ⟨w1.heap.size, 3, none⟩ = some (.slice q9 k9 c9) := by rw [Lib.cell_of_heap H.out.cls.av]; rfl
 have e4 : W.cell? ⟨w1.heap.size, 4, none⟩ = some (.int .i64 p9) := by rw [Lib.cell_of_heap H.out.cls.av]; rfl
 have xf : ∀ i, W.frozen? ⟨w.heap.size, i, none⟩ = false := fun i => Lib.frozen_of_heap H.out.cls.box i
 have x0 : W.cell? ⟨w.heap.size, 0, none⟩ = some (.pointer (some ⟨r, 0, none⟩)) := by rw [Lib.cell_of_heap H.out.cls.box]; rfl
 have yf : ∀ i, W.frozen? ⟨(w1.heap.size + 1 + 1), i, none⟩ = false := fun i => Lib.frozen_of_heap H.out.fn i
 have y0 : W.cell? ⟨(w1.heap.size + 1 + 1), 0, none⟩ = some (.func (.func 111) #[] #[.pointer (some ⟨w.heap.size, 0, none⟩), .pointer (some ⟨w1.heap.size + 1, 0, none⟩), .pointer (some ⟨w1.heap.size, 0, none⟩)]) := by rw [Lib.cell_of_heap H.out.fn]; rfl
 have d4 : (tk == 4) = false := beq_eq_false_iff_ne.2 HK.out
 have HNX := Lib.hid (rd_next_is W r g _ _ _ _ nest 1 ⟨#[104, 97, 115]⟩ false H.out.cls.rd HS.out)
 go_wp2_with fail
 refine HNX.out.mono ?_
 rintro e w2 ⟨rfl, rfl⟩
 clear HNX
 have HNX := Lib.hid (rd_took_yes W r g _ _ _ _ nest 1 ⟨#[105, 110]⟩ H.out.cls.rd hm9 HI.out)
 go_wp2_with fail
 refine HNX.out.mono ?_
 rintro e W2 ⟨rfl, hf1, hr1⟩
 have H := Lib.hid (H.out.step hf1 hr1)
 clear HNX hf1 hr1 HI HS HK d4 hm9 x0 xf y0 yf e0 e1 e2 e3 e4 ef k0 k1 k2 k3 kf
 obtain ⟨t1, l1, rfl⟩ := HE.out.cons
 have xf : ∀ i, W2.frozen? ⟨w.heap.size, i, none⟩ = false := fun i => Lib.frozen_of_heap H.out.cls.box i
 have x0 : W2.cell? ⟨w.heap.size, 0, none⟩ = some (.pointer (some ⟨r, 0, none⟩)) := by rw [Lib.cell_of_heap H.out.cls.box]; rfl
 cases hp : Pol.is (t1 :: l1) 4 [91] with
 | false =>
  have HP : Hid (Pol.inOf (f + 1) nest tp a (t1 :: l1) = .error (t1.p, 120)) := by show _ = _; unfold Pol.inOf; rw [must_neg hp]
  have HP0 := Lib.hid hp
  clear hp
  have HNX := Lib.hid (rd_must_no W2 r g _ _ t1 l1 nest ⟨#[91]⟩ H.out.cls.rd HP0.out)
  go_wp2_with fail
  refine HNX.out.mono ?_
  intro e w2 hs9
  obtain ⟨b9, hb9, rfl, hrow9, hf9⟩ := hs9.from (bs := [r]) H.out.f (fun y hy => .inl (by simpa using hy))
  show _
  exact ⟨rfl, by rw [HP.out]; exact Done.stop ⟨b9, hb9, rfl, hrow9, hf9⟩⟩
 | true =>
  have hE1 : Ends l1 := Pol.is_tail hp (by decide) HE.out
  have hl1 := hE1.pos
  have HP0 := Lib.hid hp
  have HE1 := Lib.hid hE1
  clear hp hE1
  have HNX := Lib.hid (rd_must_yes W2 r g _ _ t1 l1 nest ⟨#[91]⟩ H.out.cls.rd hl1 HP0.out)
  have hmf : ∀ fn first cap w, (Instr.makeFunc fn first cap).run Tryd.prog w = .ok (.func fn first cap) w := fun _ _ _ _ => rfl
  go_wp2_with fail
  refine HNX.out.mono ?_
  rintro e W3 ⟨rfl, hf1, hr1⟩
  have H := Lib.hid (H.out.step hf1 hr1)
  clear HNX hf1 hr1 hl1 x0 xf
  have HL1 : Hid (l1.length ≤ 1000000) := H.out.cls.rd.few
  have hr3 : r < W3.heap.size := row_lt H.out.cls.rd.row
  have hz3 : w.heap.size + 1 < W3.heap.size := row_lt H.out.res
  have HRW := Lib.hid (row_reads f HO.out W3 r g _ _ l1 nest H.out.cls.rd HE1.out hn hr3 (fun p hp => HFD.out p (by show Pol.inOf (f + 1) nest tp a (t1 :: l1) = _; unfold Pol.inOf; rw [must_pos HP0.out]; simp only [hp])))
  have HP : Hid (Pol.inOf (f + 1) nest tp a (t1 :: l1) = match Pol.row (f + 1) nest l1 with
   | .error e => .error e
   | .ok (L, m) => match Pol.must m [93] with
     | .error e => .error e
     | .ok (_, m) => .ok (.mk 13 Pol.none_ 0 (a :: L) tp, m)) := by show _ = _; unfold Pol.inOf; rw [must_pos HP0.out]
  obtain ⟨q, hq⟩ : ∃ q, Pol.row (f + 1) nest l1 = q := ⟨_, rfl⟩
  rw [hq] at HRW HP
  have Hq := Lib.hid hq
  clear hq
  have xf : ∀ i, W3.frozen? ⟨w.heap.size, i, none⟩ = false := fun i => Lib.frozen_of_heap H.out.cls.box i
  have x0 : W3.cell? ⟨w.heap.size, 0, none⟩ = some (.pointer (some ⟨r, 0, none⟩)) := by rw [Lib.cell_of_heap H.out.cls.box]; rfl
  go_wp2_with fail
  refine HRW.out.mono ?_
  intro e W4 hd
  cases q with
  | error pe =>
   obtain ⟨pp, pn⟩ := pe
   have HPP : Hid (Pol.inOf (f + 1) nest tp a (t1 :: l1) = .error (pp, pn)) := HP.out
   have hs9 : Stops [r] W3 pp pn e W4 := hd
   obtain ⟨b9, hb9, rfl, hrow9, hf9⟩ := hs9.from (bs := [r]) H.out.f (fun y hy => .inl (by simpa using hy))
   show _
   exact ⟨rfl, by rw [HPP.out]; exact Done.stop ⟨b9, hb9, rfl, hrow9, hf9⟩⟩
  | ok xm =>
   obtain ⟨L, m2⟩ := xm
   obtain ⟨v, css, rfl, hown, hexs, hf4, o4, c4, hr4⟩ := hd
   have H := Lib.hid (H.out.step hf4 hr4)
   have hEm : Ends m2 := (Pol.all_keep (f + 1)).2.2.1 _ _ _ _ Hq.out HE1.out
   obtain ⟨t3, l3, rfl⟩ := hEm.cons
   have HEM := Lib.hid hEm
   have HOWN := Lib.hid hown
   have HEXS := Lib.hid hexs
   have HF4 := Lib.hid hf4
   clear hown hexs hf4 hr4 hEm HRW x0 xf
   have xf : ∀ i, W4.frozen? ⟨w.heap.size, i, none⟩ = false := fun i => Lib.frozen_of_heap H.out.cls.box i
   have x0 : W4.cell? ⟨w.heap.size, 0, none⟩ = some (.pointer (some ⟨r, 0, none⟩)) := by rw [Lib.cell_of_heap H.out.cls.box]; rfl
   cases hp : Pol.is (t3 :: l3) 4 [93] with
   | false =>
    have HPP : Hid (Pol.inOf (f + 1) nest tp a (t1 :: l1) = .error (t3.p, 120)) := by show _ = _; rw [HP.out]; simp only [must_neg hp]
    have HP0 := Lib.hid hp
    clear hp
    have HNX := Lib.hid (rd_must_no W4 r g _ _ t3 l3 nest ⟨#[93]⟩ H.out.cls.rd HP0.out)
    go_wp2_with fail
    refine HNX.out.mono ?_
    intro e w2 hs9
    obtain ⟨b9, hb9, rfl, hrow9, hf9⟩ := hs9.from (bs := [r]) H.out.f (fun y hy => .inl (by simpa using hy))
    show _
    exact ⟨rfl, by rw [HPP.out]; exact Done.stop ⟨b9, hb9, rfl, hrow9, hf9⟩⟩
   | true =>
    have HPP : Hid (Pol.inOf (f + 1) nest tp a (t1 :: l1) = .ok (.mk 13 Pol.none_ 0 (a :: L) tp, l3)) := by show _ = _; rw [HP.out]; simp only [must_pos hp]
    have hl3 : 0 < l3.length := (Pol.is_tail hp (by decide) HEM.out : Ends l3).pos
    have HP1 := Lib.hid hp
    have hLp := Lib.hid (Pol.row_pos (f := f + 1) Hq.out)
    have hsh := Lib.hid (Pol.row_few (f := f + 1) Hq.out)
    clear hp
    have HNX := Lib.hid (rd_must_yes W4 r g _ _ t3 l3 nest ⟨#[93]⟩ H.out.cls.rd hl3 HP1.out)
    go_wp2_with fail
    refine HNX.out.mono ?_
    rintro e W5 ⟨rfl, hf1, hr1⟩
    have H := Lib.hid (H.out.step hf1 hr1)
    clear HNX hl3 x0 xf
    go_wp2_with fail
    obtain ⟨g5, c5, rfl, hg5⟩ := own_form5 HOWN.out hLp.out
    have hg5n : g5 ≠ r := by omega
    have HOWN : Hid (W5.ownsRow W3.heap.size 80 5 (.slice (some ⟨g5, 0, none⟩) L.length c5) L.length css.flatten) := ownsRow_blk HOWN.out (hf1.block _ (ownsRow_lt HOWN.out) (by simpa using hg5n))
    have HEXS : Hid (Exs W5 (fun i => w.heap.size ≤ i ∧ i ≠ w.heap.size + 1 ∧ i < W5.heap.size) css L) := ((HEXS.out.mono (E := fun i => w.heap.size ≤ i ∧ i ≠ w.heap.size + 1 ∧ i < W5.heap.size) (fun i hi h => ⟨by have := h.1; omega, by have := h.1; omega, Nat.lt_of_lt_of_le hi hf1.size⟩)).fr hf1 (fun y hy _ hc => by simp at hy; have := hc.1; omega))
    clear hf1 hr1
    have HS : Hid (∀ (U : World), U.heap[w1.heap.size + 1]? = some (.cells #[.int .i64 tk, .string ts, .int .i64 tn, .int .i64 tp] 25 (0, 0)) → U.heap[w1.heap.size]? = some (.cells #[.int .i64 op0, .string s9, .int .i64 n9, .slice q9 k9 c9, .int .i64 p9] 80 (0, 0)) → ((fun W' => W'.cell? ⟨w1.heap.size + 1, 3, none⟩ = some (.int .i64 tp) ∧ W'.cell? ⟨w1.heap.size, 0, none⟩ = some (.int .i64 op0) ∧ W'.cell? ⟨w1.heap.size, 1, none⟩ = some (.string s9) ∧ W'.cell? ⟨w1.heap.size, 2, none⟩ = some (.int .i64 n9) ∧ W'.cell? ⟨w1.heap.size, 3, none⟩ = some (.slice q9 k9 c9) ∧ W'.cell? ⟨w1.heap.size, 4, none⟩ = some (.int .i64 p9)) : World → Prop) U) := fun U h1 h2 =>
     ⟨by rw [Lib.cell_of_heap h1]; rfl, by rw [Lib.cell_of_heap h2]; rfl, by rw [Lib.cell_of_heap h2]; rfl, by rw [Lib.cell_of_heap h2]; rfl, by rw [Lib.cell_of_heap h2]; rfl, by rw [Lib.cell_of_heap h2]; rfl⟩
    have H0 := Lib.hid (H.out.fr (Fr.refl [] _).drew)
    have hS0 := HS.out _ H0.out.cls.tok H0.out.cls.av
    refine wp_region_held_drew (S := (fun W' => W'.cell? ⟨w1.heap.size + 1, 3, none⟩ = some (.int .i64 tp) ∧ W'.cell? ⟨w1.heap.size, 0, none⟩ = some (.int .i64 op0) ∧ W'.cell? ⟨w1.heap.size, 1, none⟩ = some (.string s9) ∧ W'.cell? ⟨w1.heap.size, 2, none⟩ = some (.int .i64 n9) ∧ W'.cell? ⟨w1.heap.size, 3, none⟩ = some (.slice q9 k9 c9) ∧ W'.cell? ⟨w1.heap.size, 4, none⟩ = some (.int .i64 p9))) (by kernel_rfl) (hS0) (fun hHeld => ?_)
    refine held_take (i := 0) (v := ?_) 64 rfl rfl (by kernel_rfl) (by kernel_rfl) (by kernel_rfl) (fun _ _ _ h => h) (Or.inl ⟨by rfl, ?_⟩) (by assumption) ?_
    rotate_left 1
    ·intro w hSw; (try dsimp only at hSw); go_simp; try (with_reducible rfl)
    try simp only [Act.put, List.setIfInBounds_toArray, List.set_cons_zero, List.set_cons_succ]
    refine held_take (i := 1) (v := ?_) 65 rfl rfl (by kernel_rfl) (by kernel_rfl) (by kernel_rfl) (fun _ _ _ h => h) (Or.inl ⟨by rfl, ?_⟩) (by assumption) ?_
    rotate_left 1
    ·intro w hSw; (try dsimp only at hSw); go_simp; try (with_reducible rfl)
    try simp only [Act.put, List.setIfInBounds_toArray, List.set_cons_zero, List.set_cons_succ]
    refine held_take (i := 2) (v := ?_) 66 rfl rfl (by kernel_rfl) (by kernel_rfl) (by kernel_rfl) (fun _ _ _ h => h) (Or.inl ⟨by rfl, ?_⟩) (by assumption) ?_
    rotate_left 1
    ·intro w hSw; (try dsimp only at hSw); go_simp; try (with_reducible rfl)
    try simp only [Act.put, List.setIfInBounds_toArray, List.set_cons_zero, List.set_cons_succ]
    refine held_take (i := 4) (v := ?_) 68 rfl rfl (by kernel_rfl) (by kernel_rfl) (by kernel_rfl) (fun _ _ _ h => h) (Or.inl ⟨by rfl, ?_⟩) (by assumption) ?_
    rotate_left 1
    ·intro w hSw; (try dsimp only at hSw); go_simp; try (with_reducible rfl)
    try simp only [Act.put, List.setIfInBounds_toArray, List.set_cons_zero, List.set_cons_succ]
    refine wpAnyH_ready (rs := [3]) (by kernel_rfl) (by simp) ?_
    refine AllReadyH.cons rfl (fun K hK => ?_) AllReadyH.nil
    have H1 := Lib.hid (H0.out.fr ((Fr.refl [] _).alloc (.cells #[.int .i64 op0, .string s9, .int .i64 n9, .slice q9 k9 c9, .int .i64 p9] 80)))
    go_simp
    refine hK.out _ _ (HS.out _ H1.out.cls.tok H1.out.cls.av) (fun hHeld => ?_)
    clear hK K
    try simp only [Act.put, List.setIfInBounds_toArray, List.set_cons_zero, List.set_cons_succ]
    have hA5 : w1.heap.size < W5.heap.size := row_lt H.out.cls.av
    have hT5 : w1.heap.size + 1 < W5.heap.size := row_lt H.out.cls.tok
    have hF5 : w1.heap.size + 1 + 1 < W5.heap.size := row_lt H.out.fn
    have hR5 : w.heap.size + 1 < W5.heap.size := row_lt H.out.res
    have hB5 : w.heap.size < W5.heap.size := by omega
    have hg55 : g5 < W5.heap.size := ownsRow_lt HOWN.out
    have hAL : Fr [] W5 (World.alloc W5.drew (.cells #[.int .i64 op0, .string s9, .int .i64 n9, .slice q9 k9 c9, .int .i64 p9] 80)) := (Fr.refl [] W5).drew.alloc _
    have hrp1 := (H.out.cls.rep.mono (E := fun i => (w.heap.size ≤ i ∧ i ≠ w.heap.size + 1) ∧ i ≠ W5.heap.size) (fun i hi h => ⟨h, by omega⟩)).fr hAL (fun y hy _ => by cases hy)
    have hex1 := HEXS.out.fr hAL (fun y hy _ => by cases hy)
    have how1 := ownsRow_fr HOWN.out hAL
    refine wpAnyH_fresh (fun U => Cmp w w.heap.size (w1.heap.size + 1) w1.heap.size (w1.heap.size + 1 + 1) (w.heap.size + 1) r g _ _ l3 nest ⟨tk, ts, tn, tp⟩ [.int .i64 op0, .string s9, .int .i64 n9, .slice q9 k9 c9, .int .i64 p9] a U ∧ U.heap[W5.heap.size]? = some (.cells #[.int .i64 op0, .string s9, .int .i64 n9, .slice q9 k9 c9, .int .i64 p9] 80 (0, 0))
     ∧ U.ownsRow W3.heap.size 80 5 (.slice (some ⟨g5, 0, none⟩) L.length c5) L.length css.flatten ∧ Exs U (fun i => w.heap.size ≤ i ∧ i ≠ w.heap.size + 1 ∧ i < W5.heap.size) css L ∧ Rep U (fun i => (w.heap.size ≤ i ∧ i ≠ w.heap.size + 1) ∧ i ≠ W5.heap.size) [.int .i64 op0, .string s9, .int .i64 n9, .slice q9 k9 c9, .int .i64 p9] a ∧ W5.heap.size + 1 ≤ U.heap.size)
     ⟨H1.out, heap_alloc_last W5.drew _, how1, hex1, hrp1, by simp⟩ ?_
    rintro U ⟨hu1, hu2, hu3, hu4, hu5, hu6⟩
    have HU1 := Lib.hid hu1
    have HU4 := Lib.hid hu4
    have HU5 := Lib.hid hu5
    have HROW := Lib.hid hu2
    have hownA : U.ownsRow W5.heap.size 80 5 (.slice (some ⟨W5.heap.size, 0, none⟩) 1 1) 1 [.int .i64 op0, .string s9, .int .i64 n9, .slice q9 k9 c9, .int .i64 p9] := ⟨rfl, Or.inr ⟨W5.heap.size, 1, _, rfl, Nat.le_refl _, hu2, Nat.le_refl _, by decide, rfl, rfl⟩⟩
    have hnews := own5_cells hu3
    have hlen5 : css.flatten.length = L.length * 5 := by have := hu3.1; simpa using this
    have honeL := exs_one hu4
    have hLp2 := hLp.out
    have hL9 : L.length ≤ 1000000 := by have h9 := hsh.out; have h8 := HL1.out; simp only [List.length_cons] at h9; omega
    obtain ⟨i0, hi, hz0, hz1', hz2⟩ := info_parts infoEx
    refine wpAnyH_ready (rs := [5]) (by kernel_rfl) (by simp) ?_
    refine AllReadyH.cons rfl (fun K hK => ?_) AllReadyH.nil
    refine step_append_lies U (by rfl) (.tmp 67) (.tmp 68) _ (by rfl) W5.heap.size 80 i0 _ 5 64 Tryd.underlying76 hi hz0 hz1' hz2 rfl (by decide) _ 1 _ (by rfl) hownA _ L.length c5 css.flatten (by rfl) hlen5 hnews honeL hLp2 (by unfold maxLen; omega) (by omega) (by omega) _ rfl ?_
    intro g9 cap9 w9 ho hg hgg hgl
    have hf9 : Fr [W5.heap.size] U w9 := Fr.of_grown hg
    have hrp9 : Rep w9 (fun i => w.heap.size ≤ i ∧ i ≠ w.heap.size + 1) [.int .i64 op0, .string s9, .int .i64 n9, .slice q9 k9 c9, .int .i64 p9] a := (HU5.out.fr hf9 (fun y hy _ hc => hc.2 (by simpa using hy))).mono (fun i _ h => h.1)
    have hex9 : Exs w9 (fun i => w.heap.size ≤ i ∧ i ≠ w.heap.size + 1) css L := (HU4.out.fr hf9 (fun y hy _ hc => by simp at hy; omega)).mono (fun i _ h => ⟨h.1, h.2.1⟩)
    have H9 := Lib.hid (HU1.out.other hf9 ⟨by omega, by omega, by omega, by omega, by omega⟩ (by omega) hrp9)
    have hD9 : w.heap.size ≤ g9 ∧ g9 ≠ w.heap.size + 1 := by
     rcases hgg with h9 | h9
     ·simp [Value.ownBlock] at h9; omega
     ·omega
    have hnode : Rep w9 (fun i => w.heap.size ≤ i ∧ i ≠ w.heap.size + 1) [.int .i64 13, .string ⟨#[]⟩, .int .i64 0, .slice (some ⟨g9, 0, none⟩) (1 + L.length) cap9, .int .i64 tp] (.mk 13 Pol.none_ 0 (a :: L) tp) := by
     have e9 : (a :: L).length = 1 + L.length := by simp; omega
     have h8 := Rep.of_own (w := w9) (D := fun i => w.heap.size ≤ i ∧ i ≠ w.heap.size + 1) 13 ⟨#[]⟩ 0 tp (a :: L) ([.int .i64 op0, .string s9, .int .i64 n9, .slice q9 k9 c9, .int .i64 p9] :: css) g9 W5.heap.size cap9 hD9 (by simp [hex9.len]) (by rw [e9]; exact ho) (Exs.cons hrp9 hex9).rep
     rw [e9] at h8
     exact h8
    have HN9 := Lib.hid hnode
    refine hK.out _ _ (HS.out _ H9.out.cls.tok H9.out.cls.av) (fun hHeld => ?_)
    clear hK K hnode hrp9 hex9 hf9 ho hg hgg hu1 hu2 hu3 hu4 hu5 hownA hnews hlen5 honeL hrp1 hex1 how1 hAL hS0
    try simp only [Act.put, List.setIfInBounds_toArray, List.set_cons_zero, List.set_cons_succ]
    refine held_take (i := 6) (v := ?_) 70 rfl rfl (by kernel_rfl) (by kernel_rfl) (by kernel_rfl) (fun _ _ _ h => h) (Or.inl ⟨by rfl, ?_⟩) (by assumption) ?_
    rotate_left 1
    ·intro w hSw; (try dsimp only at hSw); go_simp; try (with_reducible rfl)
    try simp only [Act.put, List.setIfInBounds_toArray, List.set_cons_zero, List.set_cons_succ]
    have zf : ∀ i, w9.frozen? ⟨(w.heap.size + 1), i, none⟩ = false := fun i => Lib.frozen_of_heap H9.out.res i
    have z0 : w9.cell? ⟨(w.heap.size + 1), 0, none⟩ = some (.int .i64 0) := by rw [Lib.cell_of_heap H9.out.res]; rfl
    have z1 : w9.cell? ⟨(w.heap.size + 1), 1, none⟩ = some (.string ⟨#[]⟩) := by rw [Lib.cell_of_heap H9.out.res]; rfl
    have z2 : w9.cell? ⟨(w.heap.size + 1), 2, none⟩ = some (.int .i64 0) := by rw [Lib.cell_of_heap H9.out.res]; rfl
    have z3 : w9.cell? ⟨(w.heap.size + 1), 3, none⟩ = some (.slice none 0 0) := by rw [Lib.cell_of_heap H9.out.res]; rfl
    have z4 : w9.cell? ⟨(w.heap.size + 1), 4, none⟩ = some (.int .i64 0) := by rw [Lib.cell_of_heap H9.out.res]; rfl
    have HG := Lib.hid (H9.out.give HN9.out)
    have HT := Lib.hid (heap_five H9.out.res (.int .i64 13) (.string ⟨#[]⟩) (.int .i64 0) (.slice (some ⟨g9, 0, none⟩) (1 + L.length) cap9) (.int .i64 tp))
    have hff := fr_five w9 [w.heap.size + 1] (w.heap.size + 1) (.int .i64 13) (.string ⟨#[]⟩) (.int .i64 0) (.slice (some ⟨g9, 0, none⟩) (1 + L.length) cap9) (.int .i64 tp) (by simp)
    have HS2 := Lib.hid (HS.out _ (hff.row H9.out.cls.tok (by simp; omega)) (hff.row H9.out.cls.av (by simp; omega)))
    clear hff
    refine wpAnyH_ready (rs := [7]) (by kernel_rfl) (by simp) ?_
    refine AllReadyH.cons rfl (fun K hK => ?_) AllReadyH.nil
    go_simp
    refine hK.out _ _ (HS2.out) (fun hHeld => ?_)
    clear hK K
    try simp only [Act.put, List.setIfInBounds_toArray, List.set_cons_zero, List.set_cons_succ]
    refine wpAnyH_done (by kernel_rfl) ?_ _
    go_wp2_with fail
    refine bodyPost_ret (v := .agg #[.int .i64 13, .string ⟨#[]⟩, .int .i64 0, .slice (some ⟨g9, 0, none⟩) (1 + L.length) cap9, .int .i64 tp]) (results_cell_row rfl _ _ (w.heap.size + 1) _ _ (0, 0) _ rfl HT.out Tryd.underlying80 rfl (by kernel_rfl)) rfl ?_
    rw [HPP.out]
    exact HG.out
end Go.Proofs.YtgklmpooonnmiaaDoor

namespace Go.Proofs.YtgklmpooonnmiaaDoor
open Go.RowKit
theorem opd_all (f : Nat) (hO : ReadsEx 82 (Pol.or_ f)) : ReadsEx 110 (Pol.operand (f + 1)) := by
 intro w r g o c l nest h hE hn hr hfed
 obtain ⟨t, m, rfl⟩ := hE.cons
 cases hp : Pol.is (t :: m) 4 [40] with
 | true =>
  have hEm : Ends m := Pol.is_tail hp (by decide) hE
  have e : Pol.operand (f + 1) nest (t :: m) = Pol.within f nest t.p m := by
   rw [Pol.operand, if_pos hp]
   unfold Pol.within
   split
   ·rfl
   ·rcases Pol.or_ f (nest + 1) m with e | ⟨x, m2⟩
    ·rfl
    ·rfl
  rw [e] at hfed ⊢
  exact opd_paren f hO w r g o c t m nest h hr hEm hn hp hfed
 | false =>
  by_cases h3 : t.k = 3
  ·have hEm : Ends m := hE.tail (by omega)
   have e : Pol.operand (f + 1) nest (t :: m) = .ok (.mk 2 Pol.none_ t.n [] t.p, m) := by
    rw [Pol.operand, if_neg (by rw [hp]; simp), if_pos h3]
   rw [e]
   exact opd_int w r g o c t m nest h hr hEm.pos h3
  by_cases h2 : t.k = 2
  ·have hEm : Ends m := hE.tail (by omega)
   have e : Pol.operand (f + 1) nest (t :: m) = .ok (.mk 3 t.s 0 [] t.p, m) := by
    rw [Pol.operand, if_neg (by rw [hp]; simp), if_neg h3, if_pos h2]
   rw [e]
   exact opd_text w r g o c t m nest h hr hEm.pos h2
  by_cases h1 : t.k = 1
  ·have hEm : Ends m := hE.tail (by omega)
   cases ht : Pol.is (t :: m) 1 [116, 114, 117, 101] with
   | true =>
    have e : Pol.operand (f + 1) nest (t :: m) = .ok (.mk 1 Pol.none_ 1 [] t.p, m) := by
     rw [Pol.operand, if_neg (by rw [hp]; simp), if_neg h3, if_neg h2, if_pos ht]
    rw [e]
    exact opd_true w r g o c t m nest h hr hEm.pos h1 ht
   | false =>
    cases hf : Pol.is (t :: m) 1 [102, 97, 108, 115, 101] with
    | true =>
     have e : Pol.operand (f + 1) nest (t :: m) = .ok (.mk 1 Pol.none_ 0 [] t.p, m) := by
      rw [Pol.operand, if_neg (by rw [hp]; simp), if_neg h3, if_neg h2, if_neg (by rw [ht]; simp), if_pos hf]
     rw [e]
     exact opd_false w r g o c t m nest h hr hEm.pos h1 ht hf
    | false =>
     cases hc : Pol.is (t :: m) 1 [99, 108, 97, 105, 109] with
     | true =>
      have e : Pol.operand (f + 1) nest (t :: m) = Pol.claimed t.p m := by
       rw [Pol.operand, if_neg (by rw [hp]; simp), if_neg h3, if_neg h2, if_neg (by rw [ht]; simp), if_neg (by rw [hf]; simp), if_pos hc]
       unfold Pol.claimed
       rcases Pol.must m [40] with e | ⟨u, m2⟩
       ·rfl
       ·rcases h9 : Pol.take m2 2 with e | ⟨u, m3⟩
        ·simp only [h9]
        ·simp only [h9]
         rcases Pol.must m3 [41] with e | ⟨u, m4⟩ <;> rfl
      rw [e]
      exact opd_claim w r g o c t m nest h hr hEm h1 ht hf hc
     | false =>
      cases hw : Pol.kept t.s with
      | false =>
       have e : Pol.operand (f + 1) nest (t :: m) = .ok (.mk 4 t.s 0 [] t.p, m) := by
        rw [Pol.operand, if_neg (by rw [hp]; simp), if_neg h3, if_neg h2, if_neg (by rw [ht]; simp), if_neg (by rw [hf]; simp), if_neg (by rw [hc]; simp), if_pos ⟨h1, hw⟩]
       rw [e]
       exact opd_var w r g o c t m nest h hr hEm.pos h1 ht hf hc hw
      | true =>
       have e : Pol.operand (f + 1) nest (t :: m) = .error (t.p, 120) := by
        rw [Pol.operand, if_neg (by rw [hp]; simp), if_neg h3, if_neg h2, if_neg (by rw [ht]; simp), if_neg (by rw [hf]; simp), if_neg (by rw [hc]; simp), if_neg (by rw [hw]; simp)]
       rw [e]
       exact opd_kept w r g o c t m nest h hr hEm.pos h1 ht hf hc hw
  ·have e : Pol.operand (f + 1) nest (t :: m) = .error (t.p, 120) := by
    have hk : (t.k == 1) = false := beq_eq_false_iff_ne.2 h1
    have hi : ∀ b, Pol.is (t :: m) 1 b = false := fun b => by simp only [Pol.is, hk, Bool.false_and]
    rw [Pol.operand, if_neg (by rw [hp]; simp), if_neg h3, if_neg h2, if_neg (by rw [hi]; simp), if_neg (by rw [hi]; simp), if_neg (by rw [hi]; simp), if_neg (fun h => h1 h.1)]
   rw [e]
   exact opd_else w r g o c t m nest h hr hp h1 h2 h3
theorem cmp_all (f : Nat) (hO : ∀ f' ≤ f, ReadsEx 110 (Pol.operand f')) : ReadsEx 108 (Pol.compare (f + 1)) := by
 intro w r g o c l nest h hE hn hr hfed
 have hC : ∀ q, Pol.operand f nest l = q → (∀ p, q = .error (p, 0) → Pol.compare (f + 1) nest l = .error (p, 0)) → ∀ W o c, Rd W r g o c l nest → r < W.heap.size → Calls Tryd.prog 110 #[.pointer (some ⟨r, 0, none⟩)] W (Done r g nest W q) := by
  intro q hq hf W o c h1 h2
  rw [← hq]
  exact hO f (Nat.le_refl _) W r g o c l nest h1 hE hn h2 (fun p hp => hfed p (hf p (by rw [← hq]; exact hp)))
 rcases hq : Pol.operand f nest l with ⟨pp, pn⟩ | ⟨a, m0⟩
 ·have e : Pol.compare (f + 1) nest l = .error (pp, pn) := by rw [Pol.compare, hq]
  rw [e]
  exact cmp_stop w r g o c l nest h hr pp pn (hC _ hq (fun p hp => by rw [e, hp]))
 ·have hE0 : Ends m0 := (Pol.all_keep f).1 _ _ _ _ hq hE
  obtain ⟨t, m, rfl⟩ := hE0.cons
  have hC1 := hC _ hq (fun p hp => by cases hp)
  have hE4 : t.k ≠ 5 → Ends m := fun hk => hE0.tail hk
  by_cases h4 : t.k = 4
  ·have hEm := hE4 (by omega)
   rcases hs : Pol.sign t.s.toList with _ | ⟨op, turned⟩
   ·have e : Pol.compare (f + 1) nest l = .ok (a, t :: m) := by
     rw [Pol.compare, hq]; simp only []; rw [if_pos h4, hs]
    rw [e]
    exact cmp_none w r g o c l nest h hr a t m hC1 h4 hs
   ·have e : Pol.compare (f + 1) nest l = Pol.twoOf op t.p turned a (Pol.operand f nest m) := by
     rw [Pol.compare, hq]; simp only []; rw [if_pos h4, hs]
     unfold Pol.twoOf
     rcases Pol.operand f nest m with e | ⟨b, m2⟩ <;> rfl
    rw [e] at hfed ⊢
    have hC2 : ∀ W o c, Rd W r g o c m nest → r < W.heap.size → Calls Tryd.prog 110 #[.pointer (some ⟨r, 0, none⟩)] W (Done r g nest W (Pol.operand f nest m)) := fun W o c h1 h2 =>
     hO f (Nat.le_refl _) W r g o c m nest h1 hEm hn h2 (fun p hp => hfed p (by rw [hp]; rfl))
    unfold Pol.sign at hs
    split at hs
    ·rename_i hb; cases hs; exact cmp_eq w r g o c l nest h hr a t m hC1 hEm.pos _ hC2 h4 hb
    ·split at hs
     ·rename_i hb; cases hs; exact cmp_ne w r g o c l nest h hr a t m hC1 hEm.pos _ hC2 h4 hb
     ·split at hs
      ·rename_i hb; cases hs; exact cmp_lt w r g o c l nest h hr a t m hC1 hEm.pos _ hC2 h4 hb
      ·split at hs
       ·rename_i hb; cases hs; exact cmp_le w r g o c l nest h hr a t m hC1 hEm.pos _ hC2 h4 hb
       ·split at hs
        ·rename_i hb; cases hs; exact cmp_gt w r g o c l nest h hr a t m hC1 hEm.pos _ hC2 h4 hb
        ·split at hs
         ·rename_i hb; cases hs; exact cmp_ge w r g o c l nest h hr a t m hC1 hEm.pos _ hC2 h4 hb
         ·cases hs
  ·cases hs : Pol.is (t :: m) 1 [104, 97, 115] with
   | true =>
    have hEm : Ends m := Pol.is_tail hs (by decide) hE0
    have e : Pol.compare (f + 1) nest l = Pol.twoOf 14 t.p false a (Pol.operand f nest m) := by
     rw [Pol.compare, hq]; simp only []; rw [if_neg h4, if_pos hs]
     unfold Pol.twoOf
     rcases Pol.operand f nest m with e | ⟨b, m2⟩ <;> rfl
    rw [e] at hfed ⊢
    have hC2 : ∀ W o c, Rd W r g o c m nest → r < W.heap.size → Calls Tryd.prog 110 #[.pointer (some ⟨r, 0, none⟩)] W (Done r g nest W (Pol.operand f nest m)) := fun W o c h1 h2 =>
     hO f (Nat.le_refl _) W r g o c m nest h1 hEm hn h2 (fun p hp => hfed p (by rw [hp]; rfl))
    exact cmp_has w r g o c l nest h hr a t m hC1 hEm.pos _ hC2 h4 hs
   | false =>
    cases hi : Pol.is (t :: m) 1 [105, 110] with
    | true =>
     have hEm : Ends m := Pol.is_tail hi (by decide) hE0
     have e : Pol.compare (f + 1) nest l = Pol.inOf f nest t.p a m := by
      rw [Pol.compare, hq]; simp only []; rw [if_neg h4, if_neg (by rw [hs]; simp), if_pos hi]
      unfold Pol.inOf
      rcases Pol.must m [91] with e | ⟨u, m2⟩
      ·rfl
      ·rcases h9 : Pol.row f nest m2 with e | ⟨L, m3⟩
       ·simp only [h9]
       ·simp only [h9]
        rcases Pol.must m3 [93] with e | ⟨u, m4⟩ <;> rfl
     rw [e] at hfed ⊢
     cases f with
     | zero => rw [Pol.operand] at hq; cases hq
     | succ j => exact cmp_in j (fun f' h' => hO f' (by omega)) w r g o c l nest h hr a t m hC1 hEm hn h4 hs hi hfed
    | false =>
     have e : Pol.compare (f + 1) nest l = .ok (a, t :: m) := by
      rw [Pol.compare, hq]; simp only []; rw [if_neg h4, if_neg (by rw [hs]; simp), if_neg (by rw [hi]; simp)]
     rw [e]
     exact cmp_else w r g o c l nest h hr a t m hC1 h4 hs hi
theorem not_all (f : Nat) (hN : ReadsEx 107 (Pol.not_ f)) (hC : ReadsEx 108 (Pol.compare f)) : ReadsEx 107 (Pol.not_ (f + 1)) := by
 intro w r g o c l nest h hE hn hr hfed
 obtain ⟨t, m, rfl⟩ := hE.cons
 cases hp : Pol.is (t :: m) 1 [110, 111, 116] with
 | true =>
  have hEm : Ends m := Pol.is_tail hp (by decide) hE
  by_cases h12 : nest < 12
  ·have e : Pol.not_ (f + 1) nest (t :: m) = Pol.notOf t.p (Pol.not_ f (nest + 1) m) := by
    rw [Pol.not_, if_pos hp, if_neg (by omega)]
    rcases h9 : Pol.not_ f (nest + 1) m with e | ⟨x, m2⟩ <;> simp only [List.tail_cons, h9] <;> rfl
   rw [e] at hfed ⊢
   exact not_yes _ w r g o c t m nest h hr hEm hp h12 (fun W o c h1 h2 => hN W r g o c m (nest + 1) h1 hEm (by omega) h2 (fun p hp => hfed p (by rw [hp]; rfl)))
  ·have e : Pol.not_ (f + 1) nest (t :: m) = .error (t.p, 121) := by
    rw [Pol.not_, if_pos hp, if_pos (by omega)]; rfl
   rw [e]
   exact not_deep w r g o c t m nest h hr hp h12 hn
 | false =>
  have e : Pol.not_ (f + 1) nest (t :: m) = Pol.compare f nest (t :: m) := by
   rw [Pol.not_, if_neg (by rw [hp]; simp)]
  rw [e] at hfed ⊢
  exact not_no _ w r g o c t m nest h hr hp (fun W o c h1 h2 => hC W r g o c (t :: m) nest h1 hE hn h2 hfed)
theorem reads_all : ∀ f : Nat, ∀ f' ≤ f, ReadsEx 110 (Pol.operand f') ∧ ReadsEx 108 (Pol.compare f') ∧ ReadsEx 107 (Pol.not_ f') ∧ ReadsEx 101 (Pol.and_ f') ∧ ReadsEx 82 (Pol.or_ f') := by
 intro f
 induction f with
 | zero =>
  intro f' hf'
  obtain rfl : f' = 0 := by omega
  refine ⟨?_, ?_, ?_, ?_, ?_⟩ <;> (intro w r g o c l nest h hE hn hr hfed; exact absurd (by first | rw [Pol.operand] | rw [Pol.compare] | rw [Pol.not_] | rw [Pol.and_] | rw [Pol.or_]) (hfed (Pol.place l)))
 | succ f ih =>
  intro f' hf'
  by_cases hl : f' ≤ f
  ·exact ih f' hl
  obtain rfl : f' = f + 1 := by omega
  exact ⟨opd_all f (ih f (Nat.le_refl _)).2.2.2.2, cmp_all f (fun f' h' => (ih f' h').1), not_all f (ih f (Nat.le_refl _)).2.2.1 (ih f (Nat.le_refl _)).2.1,
   and_reads f (fun f' h' => (ih f' h').2.2.1), or_reads f (fun f' h' => (ih f' h').2.2.2.1)⟩
theorem or_reads_all (f : Nat) : ReadsEx 82 (Pol.or_ f) := (reads_all f f (Nat.le_refl _)).2.2.2.2
end Go.Proofs.YtgklmpooonnmiaaDoor
