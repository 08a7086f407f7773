/-
  Lemmas and contracts that the proofs over this seat use (PolIn, PolAll, PolTexts, PolRule); no statement of the seat is claimed in this text, and nothing is assumed in it.
-/
import Derived.Test.YtgklmpooonnmiaaDoorG13
import Derived.Test.YtgklmpooonnmiaaDoorG4
import Derived.Deep.CutBlock
set_option linter.unusedVariables false
set_option linter.unusedSimpArgs false
namespace Go.Proofs.YtgklmpooonnmiaaDoor
open Go.RowKit
/-- an expression of parts that stand one behind the other. -/
theorem Rep.of_own {w : World} {D : Nat → Prop} (op : Int) (s : ByteArray) (n : Int) (p : Int) (L : List Ex) (css : List (List Value)) (g B c : Nat) (hgr : D g) (hlen : css.length = L.length)
    (hown : w.ownsRow B 80 5 (.slice (some ⟨g, 0, none⟩) L.length c) L.length css.flatten) (hx : ∀ (i : Nat) (x : Ex) (cs : List Value), L[i]? = some x → css[i]? = some cs → Rep w D cs x) :
    Rep w D [.int .i64 op, .string s, .int .i64 n, .slice (some ⟨g, 0, none⟩) L.length c, .int .i64 p] (.mk op s n L p) := by
  rcases hown.2 with ⟨hv, _⟩ | ⟨g', cap, cur, hv, hb, hrow, h1, h2, h3, h4⟩
  · cases hv
  · cases hv
    have h5 : ∀ (i : Nat) (cs : List Value), css[i]? = some cs → cs.length = 5 := fun i cs hi => by
      obtain ⟨h1, rfl⟩ := List.getElem?_eq_some_iff.1 hi
      exact (hx i _ _ (List.getElem?_eq_getElem (by omega)) hi).len
    have hat := flat_at css h5
    refine .mk op s n L p _ c (fun i => css.getD i []) h1 h2 (fun i x hi => ⟨g, rfl, row_lt hrow, hgr, fun j v hj => ?_⟩) (fun i x hi => ?_)
    · have hi2 : i < css.length := by have := (List.getElem?_eq_some_iff.1 hi).1; omega
      have e : css.getD i [] = css[i] := by simp [List.getD, List.getElem?_eq_getElem hi2]
      simp only [e] at hj
      have h9 := hat i _ j v (List.getElem?_eq_getElem hi2) hj
      rw [← h4, List.getElem?_take] at h9
      split at h9
      · rw [cell_of_row _ _ _ _ _ _ hrow]; simpa using h9
      · cases h9
    · have hi2 : i < css.length := by have := (List.getElem?_eq_some_iff.1 hi).1; omega
      have e : css.getD i [] = css[i] := by simp [List.getD, List.getElem?_eq_getElem hi2]
      simp only [e]
      exact hx i x _ hi (List.getElem?_eq_getElem hi2)
/-- the cells of a row of expressions. -/
theorem own5_cells {w : World} {B n c : Nat} {g : Nat} {xs : List Value} (h : w.ownsRow B 80 5 (.slice (some ⟨g, 0, none⟩) n c) n xs) : ∀ j u, xs[j]? = some u → w.cell? ((⟨g, 0, none⟩ : Addr).add j) = some u := by
  intro j u hj
  rcases h.2 with ⟨hv, _⟩ | ⟨g', cap, cur, hv, hb, hrow, h1, h2, h3, h4⟩
  · cases hv
  · cases hv
    have hadd : (⟨g, 0, none⟩ : Addr).add j = ⟨g, j, none⟩ := by unfold Addr.add; split <;> simp_all
    rw [hadd, cell_of_row _ _ _ _ _ _ hrow]
    rw [← h4, List.getElem?_take] at hj
    split at hj
    · simpa using hj
    · cases hj
theorem own_form5 {w : World} {B n : Nat} {v : Value} {xs : List Value} (h : w.ownsRow B 80 5 v n xs) (hn : 0 < n) : ∃ g c, v = .slice (some ⟨g, 0, none⟩) n c ∧ B ≤ g := by
  rcases h.2 with ⟨_, h0⟩ | ⟨g', cap, cur, hv, hb, _⟩
  · omega
  · exact ⟨g', cap, hv, hb⟩
theorem exs_one {w : World} {D : Nat → Prop} {css : List (List Value)} {L : List Ex} (h : Exs w D css L) : ∀ v ∈ css.flatten, v.oneCell' = true := by
  intro v hv
  obtain ⟨cs, hcs, hv⟩ := List.mem_flatten.1 hv
  obtain ⟨i, hi, rfl⟩ := List.mem_iff_getElem.1 hcs
  have hl := h.len
  exact (h.rep i (L[i]'(by omega)) _ (List.getElem?_eq_getElem (by omega)) (List.getElem?_eq_getElem hi)).one v hv
theorem Exs.cons {w : World} {D : Nat → Prop} {cs : List Value} {x : Ex} {css : List (List Value)} {L : List Ex} (hx : Rep w D cs x) (h : Exs w D css L) : Exs w D (cs :: css) (x :: L) := by
  refine ⟨by simp [h.len], fun i y ds hi hc => ?_⟩
  cases i with
  | zero => simp at hi hc; subst hi hc; exact hx
  | succ i => simp at hi hc; exact h.rep i y ds hi hc
theorem Cmp.other {w : World} {b1 T A F5 R0 r g o c X : Nat} {l : List TI} {nest : Nat} {t : TI} {ca : List Value} {a : Ex} {W W' : World} (h : Cmp w b1 T A F5 R0 r g o c l nest t ca a W) (hf : Fr [X] W W') (hX : X ≠ b1 ∧ X ≠ T ∧ X ≠ A ∧ X ≠ R0 ∧ X ≠ F5) (hw : w.heap.size ≤ X)
    (hrep : Rep W' (fun i => w.heap.size ≤ i ∧ i ≠ R0) ca a) : Cmp w b1 T A F5 R0 r g o c l nest t ca a W' := by
  have h1 := h.cls.rB; have h2 := h.cls.gB
  obtain ⟨x1, x2, x3, x4, x5⟩ := hX
  exact ⟨⟨h.cls.rd.fr hf (by simp; omega) (by simp; omega), hf.row h.cls.box (by simpa using x1.symm), hf.row h.cls.tok (by simpa using x2.symm), hf.row h.cls.av (by simpa using x3.symm), hrep, h.cls.dB, h1, h2, h.cls.Bb, h.cls.BT, h.cls.BA⟩, hf.row h.res (by simpa using x4.symm), hf.row h.fn (by simpa using x5.symm), h.f.trans hf (fun y hy => .inr (by simp at hy; omega)), h.RT, h.Rw, h.Fw⟩
theorem Pol.row_pos {f nest : Nat} {l m : List TI} {L : List Ex} (h : Pol.row f nest l = .ok (L, m)) : 0 < L.length := by
  cases f with
  | zero => simp [Pol.row] at h
  | succ f =>
    rw [Pol.row] at h
    split at h
    · cases h
    · split at h
      · split at h
        · cases h
        · cases h; simp
      · cases h; simp
theorem Pol.row_few {f nest : Nat} : ∀ {l m : List TI} {L : List Ex} (h : Pol.row f nest l = .ok (L, m)), L.length + m.length ≤ l.length := by
  induction f with
  | zero => intro l m L h; simp [Pol.row] at h
  | succ f ih =>
    intro l m L h
    rw [Pol.row] at h
    split at h
    · cases h
    · rename_i x m1 hx
      have h1 : m1.length < l.length := (Pol.all_shrink f).1 _ _ _ _ hx
      split at h
      · rename_i hi
        have h3 := Pol.is_len hi
        split at h
        · cases h
        · rename_i L1 m2 hr
          have h2 := ih hr
          cases h
          simp only [List.length_cons]
          omega
      · cases h
        simp only [List.length_cons, List.length_nil]
        omega
/-- what stands behind 'in'. -/
def Pol.inOf (f nest : Nat) (p : Int) (a : Ex) (m : List TI) : Pol.PR Ex :=
  match Pol.must m [91] with
  | .error e => .error e
  | .ok (_, m) => match Pol.row f nest m with
    | .error e => .error e
    | .ok (L, m) => match Pol.must m [93] with
      | .error e => .error e
      | .ok (_, m) => .ok (.mk 13 Pol.none_ 0 (a :: L) p, m)
set_option maxHeartbeats 4000000 in
set_option maxRecDepth 100000 in
theorem cmp_in (f : Nat) (hO : ∀ f' ≤ f, ReadsEx 110 (Pol.operand f')) (w : World) (r g o c : Nat) (l : List TI) (nest : Nat) (h : Rd w r g o c l nest) (hr : r < w.heap.size) (a : Ex) (t : TI) (m : List TI)
    (hC : ∀ W o c, Rd W r g o c l nest → r < W.heap.size → Calls Tryd.prog 110 #[.pointer (some ⟨r, 0, none⟩)] W (Done r g nest W (.ok (a, t :: m))))
    (hE : Ends m) (hn : nest ≤ 12) (hk : t.k ≠ 4) (hs : Pol.is (t :: m) 1 [104, 97, 115] = false) (hi : Pol.is (t :: m) 1 [105, 110] = true) (hfed : Pol.Fed (Pol.inOf (f + 1) nest t.p a m)) :
    Calls Tryd.prog 108 #[.pointer (some ⟨r, 0, none⟩)] w (Done r g nest w (Pol.inOf (f + 1) nest t.p a m)) := by
  have HK := Lib.hid hk
  have HS := Lib.hid hs
  have HI := Lib.hid hi
  have HE := Lib.hid hE
  have HO := Lib.hid hO
  have HFD := Lib.hid hfed
  have hm9 := hE.pos
  clear hk hs hi hE hO hfed
  have HRD := Lib.hid h
  have HC := Lib.hid hC
  have HR := Lib.hid (alloc2 w (.cells #[.pointer (some ⟨r, 0, none⟩)] 94) (.cells z5 80))
  have hg := h.gl
  have HA0 : Hid (Fr [] w ((w.alloc (.cells #[.pointer (some ⟨r, 0, none⟩)] 94)).alloc (.cells z5 80))) := ((Fr.refl [] w).alloc _).alloc _
  have HN := Lib.hid (HC.out _ o c (HRD.out.fr HA0.out (by simp) (by simp)) (by simp; omega))
  clear h hC
  go_enter Tryd.func108, Tryd.ntmps108
  go_wp2_with fail
  refine HN.out.mono ?_
  intro e w1 hd
  obtain ⟨cs, rfl, hrep, hf3, o3, c3, hr3⟩ := hd
  obtain ⟨op0, s9, n9, q9, k9, c9, p9, rfl⟩ := hrep.form
  obtain ⟨tk, ts, tn, tp⟩ := t
  skip
  have hbx := hf3.row HR.out.1 (by simp; omega)
  have hrs := hf3.row HR.out.2 (by simp; omega)
  have hz1 : w.heap.size + 1 < w1.heap.size := row_lt hrs
  obtain ⟨a0, a1, a2, a3⟩ := hr3.tk 0 _ rfl
  have c0 := hr3.c0
  have hlc := hr3.lc
  have hm := hr3.cm
  have hne := hr3.ne
  have x0 : w1.cell? ⟨w.heap.size, 0, none⟩ = some (.pointer (some ⟨r, 0, none⟩)) := by rw [Lib.cell_of_heap hbx]; rfl
  rw [List.length_cons] at c0 hlc
  unfold maxLen at hm
  simp only [Nat.mul_zero, Nat.add_zero] at a0 a1 a2 a3
  have hg1 := hr3.gl
  have hr1 : r < w1.heap.size := row_lt hr3.row
  have hmf : ∀ fn first cap w, (Instr.makeFunc fn first cap).run Tryd.prog w = .ok (.func fn first cap) w := fun _ _ _ _ => rfl
  have HRP := Lib.hid (hrep.mono (E := fun i => w.heap.size ≤ i ∧ i ≠ w.heap.size + 1) (fun i hi h => by
    have h9 : ((w.alloc (.cells #[.pointer (some ⟨r, 0, none⟩)] 94)).alloc (.cells z5 80)).heap.size ≤ i := h
    simp at h9
    exact ⟨by omega, by omega⟩))
  have HR3 := Lib.hid hr3
  have HBX := Lib.hid hbx
  have HRS := Lib.hid hrs
  have HF3 : Hid (Fr [r] w w1) := HA0.out.sub.trans hf3 (fun y hy => .inl hy)
  clear hrep hf3 hr3 hbx hrs HN HR HA0
  have hz0 : w.heap.size < w1.heap.size := by omega
  go_upto_region 5 with fail
  refine wp_fresh (fun W => Cmp w w.heap.size (w1.heap.size + 1) w1.heap.size (w1.heap.size + 1 + 1) (w.heap.size + 1) r g o3 c3 (⟨tk, ts, tn, tp⟩ :: m) nest ⟨tk, ts, tn, tp⟩ [.int .i64 op0, .string s9, .int .i64 n9, .slice q9 k9 c9, .int .i64 p9] a W) ?_ ?_
  · have hal := alloc3 w1 (.cells #[.int .i64 op0, .string s9, .int .i64 n9, .slice q9 k9 c9, .int .i64 p9] 80) (.cells #[.int .i64 tk, .string ts, .int .i64 tn, .int .i64 tp] 25) (.cells #[.func (.func 111) #[] #[.pointer (some ⟨w.heap.size, 0, none⟩), .pointer (some ⟨w1.heap.size + 1, 0, none⟩), .pointer (some ⟨w1.heap.size, 0, none⟩)]] 163)
    have hf : Fr [] w1 _ := (((Fr.refl [] w1).alloc (.cells #[.int .i64 op0, .string s9, .int .i64 n9, .slice q9 k9 c9, .int .i64 p9] 80)).alloc (.cells #[.int .i64 tk, .string ts, .int .i64 tn, .int .i64 tp] 25)).alloc (.cells #[.func (.func 111) #[] #[.pointer (some ⟨w.heap.size, 0, none⟩), .pointer (some ⟨w1.heap.size + 1, 0, none⟩), .pointer (some ⟨w1.heap.size, 0, none⟩)]] 163)
    have h1 := HR3.out.fr hf (by simp) (by simp)
    have h2 := hf.row HBX.out (by simp)
    have h3 := hf.row HRS.out (by simp)
    have h4 := HRP.out.fr hf (fun y hy _ => by cases hy)
    have h5 := HF3.out.trans0 hf
    exact ⟨⟨h1, h2, hal.2.1, hal.1, h4, fun i hi => hi.1, hr, hg, Nat.le_refl _, by omega, by omega⟩, h3, hal.2.2, h5, ⟨by omega, by omega, by omega, by omega⟩, by omega, by omega⟩
  intro W h1
  have H := Lib.hid h1
  clear h1 a0 a1 a2 a3 c0 hlc hm hne x0 HBX HRS HRP HR3
  have hrW := row_lt H.out.cls.rd.row
  have hresW := row_lt H.out.res
  have hAW := row_lt H.out.cls.av
  have hTW := row_lt H.out.cls.tok
  have hFW := row_lt H.out.fn
  have kf : ∀ i, W.frozen? ⟨(w1.heap.size + 1), i, none⟩ = false := fun i => Lib.frozen_of_heap H.out.cls.tok i
  have k0 : W.cell? ⟨(w1.heap.size + 1), 0, none⟩ = some (.int .i64 tk) := by rw [Lib.cell_of_heap H.out.cls.tok]; rfl
  have k1 : W.cell? ⟨(w1.heap.size + 1), 1, none⟩ = some (.string ts) := by rw [Lib.cell_of_heap H.out.cls.tok]; rfl
  have k2 : W.cell? ⟨(w1.heap.size + 1), 2, none⟩ = some (.int .i64 tn) := by rw [Lib.cell_of_heap H.out.cls.tok]; rfl
  have k3 : W.cell? ⟨(w1.heap.size + 1), 3, none⟩ = some (.int .i64 tp) := by rw [Lib.cell_of_heap H.out.cls.tok]; rfl
  have ef : ∀ i, W.frozen? ⟨w1.heap.size, i, none⟩ = false := fun i => Lib.frozen_of_heap H.out.cls.av i
  have e0 : W.cell? ⟨w1.heap.size, 0, none⟩ = some (.int .i64 op0) := by rw [Lib.cell_of_heap H.out.cls.av]; rfl
  have e1 : W.cell? ⟨w1.heap.size, 1, none⟩ = some (.string s9) := by rw [Lib.cell_of_heap H.out.cls.av]; rfl
  have e2 : W.cell? ⟨w1.heap.size, 2, none⟩ = some (.int .i64 n9) := by rw [Lib.cell_of_heap H.out.cls.av]; rfl
  have e3 : W.cell? ⟨w1.heap.size, 3, none⟩ = some (.slice q9 k9 c9) := by rw [Lib.cell_of_heap H.out.cls.av]; rfl
  have e4 : W.cell? ⟨w1.heap.size, 4, none⟩ = some (.int .i64 p9) := by rw [Lib.cell_of_heap H.out.cls.av]; rfl
  have xf : ∀ i, W.frozen? ⟨w.heap.size, i, none⟩ = false := fun i => Lib.frozen_of_heap H.out.cls.box i
  have x0 : W.cell? ⟨w.heap.size, 0, none⟩ = some (.pointer (some ⟨r, 0, none⟩)) := by rw [Lib.cell_of_heap H.out.cls.box]; rfl
  have yf : ∀ i, W.frozen? ⟨(w1.heap.size + 1 + 1), i, none⟩ = false := fun i => Lib.frozen_of_heap H.out.fn i
  have y0 : W.cell? ⟨(w1.heap.size + 1 + 1), 0, none⟩ = some (.func (.func 111) #[] #[.pointer (some ⟨w.heap.size, 0, none⟩), .pointer (some ⟨w1.heap.size + 1, 0, none⟩), .pointer (some ⟨w1.heap.size, 0, none⟩)]) := by rw [Lib.cell_of_heap H.out.fn]; rfl
  have d4 : (tk == 4) = false := beq_eq_false_iff_ne.2 HK.out
  have HNX := Lib.hid (rd_next_is W r g _ _ _ _ nest 1 ⟨#[104, 97, 115]⟩ false H.out.cls.rd HS.out)
  go_wp2_with fail
  refine HNX.out.mono ?_
  rintro e w2 ⟨rfl, rfl⟩
  clear HNX
  have HNX := Lib.hid (rd_took_yes W r g _ _ _ _ nest 1 ⟨#[105, 110]⟩ H.out.cls.rd hm9 HI.out)
  go_wp2_with fail
  refine HNX.out.mono ?_
  rintro e W2 ⟨rfl, hf1, hr1⟩
  have H := Lib.hid (H.out.step hf1 hr1)
  clear HNX hf1 hr1 HI HS HK d4 hm9 x0 xf y0 yf e0 e1 e2 e3 e4 ef k0 k1 k2 k3 kf
  obtain ⟨t1, l1, rfl⟩ := HE.out.cons
  have xf : ∀ i, W2.frozen? ⟨w.heap.size, i, none⟩ = false := fun i => Lib.frozen_of_heap H.out.cls.box i
  have x0 : W2.cell? ⟨w.heap.size, 0, none⟩ = some (.pointer (some ⟨r, 0, none⟩)) := by rw [Lib.cell_of_heap H.out.cls.box]; rfl
  cases hp : Pol.is (t1 :: l1) 4 [91] with
  | false =>
    have HP : Hid (Pol.inOf (f + 1) nest tp a (t1 :: l1) = .error (t1.p, 120)) := by show _ = _; unfold Pol.inOf; rw [must_neg hp]
    have HP0 := Lib.hid hp
    clear hp
    have HNX := Lib.hid (rd_must_no W2 r g _ _ t1 l1 nest ⟨#[91]⟩ H.out.cls.rd HP0.out)
    go_wp2_with fail
    refine HNX.out.mono ?_
    intro e w2 hs9
    obtain ⟨b9, hb9, rfl, hrow9, hf9⟩ := hs9.from (bs := [r]) H.out.f (fun y hy => .inl (by simpa using hy))
    show _
    exact ⟨rfl, by rw [HP.out]; exact Done.stop ⟨b9, hb9, rfl, hrow9, hf9⟩⟩
  | true =>
    have hE1 : Ends l1 := Pol.is_tail hp (by decide) HE.out
    have hl1 := hE1.pos
    have HP0 := Lib.hid hp
    have HE1 := Lib.hid hE1
    clear hp hE1
    have HNX := Lib.hid (rd_must_yes W2 r g _ _ t1 l1 nest ⟨#[91]⟩ H.out.cls.rd hl1 HP0.out)
    have hmf : ∀ fn first cap w, (Instr.makeFunc fn first cap).run Tryd.prog w = .ok (.func fn first cap) w := fun _ _ _ _ => rfl
    go_wp2_with fail
    refine HNX.out.mono ?_
    rintro e W3 ⟨rfl, hf1, hr1⟩
    have H := Lib.hid (H.out.step hf1 hr1)
    clear HNX hf1 hr1 hl1 x0 xf
    have HL1 : Hid (l1.length ≤ 1000000) := H.out.cls.rd.few
    have hr3 : r < W3.heap.size := row_lt H.out.cls.rd.row
    have hz3 : w.heap.size + 1 < W3.heap.size := row_lt H.out.res
    have HRW := Lib.hid (row_reads f HO.out W3 r g _ _ l1 nest H.out.cls.rd HE1.out hn hr3 (fun p hp => HFD.out p (by show Pol.inOf (f + 1) nest tp a (t1 :: l1) = _; unfold Pol.inOf; rw [must_pos HP0.out]; simp only [hp])))
    have HP : Hid (Pol.inOf (f + 1) nest tp a (t1 :: l1) = match Pol.row (f + 1) nest l1 with
      | .error e => .error e
      | .ok (L, m) => match Pol.must m [93] with
        | .error e => .error e
        | .ok (_, m) => .ok (.mk 13 Pol.none_ 0 (a :: L) tp, m)) := by show _ = _; unfold Pol.inOf; rw [must_pos HP0.out]
    obtain ⟨q, hq⟩ : ∃ q, Pol.row (f + 1) nest l1 = q := ⟨_, rfl⟩
    rw [hq] at HRW HP
    have Hq := Lib.hid hq
    clear hq
    have xf : ∀ i, W3.frozen? ⟨w.heap.size, i, none⟩ = false := fun i => Lib.frozen_of_heap H.out.cls.box i
    have x0 : W3.cell? ⟨w.heap.size, 0, none⟩ = some (.pointer (some ⟨r, 0, none⟩)) := by rw [Lib.cell_of_heap H.out.cls.box]; rfl
    go_wp2_with fail
    refine HRW.out.mono ?_
    intro e W4 hd
    cases q with
    | error pe =>
      obtain ⟨pp, pn⟩ := pe
      have HPP : Hid (Pol.inOf (f + 1) nest tp a (t1 :: l1) = .error (pp, pn)) := HP.out
      have hs9 : Stops [r] W3 pp pn e W4 := hd
      obtain ⟨b9, hb9, rfl, hrow9, hf9⟩ := hs9.from (bs := [r]) H.out.f (fun y hy => .inl (by simpa using hy))
      show _
      exact ⟨rfl, by rw [HPP.out]; exact Done.stop ⟨b9, hb9, rfl, hrow9, hf9⟩⟩
    | ok xm =>
      obtain ⟨L, m2⟩ := xm
      obtain ⟨v, css, rfl, hown, hexs, hf4, o4, c4, hr4⟩ := hd
      have H := Lib.hid (H.out.step hf4 hr4)
      have hEm : Ends m2 := (Pol.all_keep (f + 1)).2.2.1 _ _ _ _ Hq.out HE1.out
      obtain ⟨t3, l3, rfl⟩ := hEm.cons
      have HEM := Lib.hid hEm
      have HOWN := Lib.hid hown
      have HEXS := Lib.hid hexs
      have HF4 := Lib.hid hf4
      clear hown hexs hf4 hr4 hEm HRW x0 xf
      have xf : ∀ i, W4.frozen? ⟨w.heap.size, i, none⟩ = false := fun i => Lib.frozen_of_heap H.out.cls.box i
      have x0 : W4.cell? ⟨w.heap.size, 0, none⟩ = some (.pointer (some ⟨r, 0, none⟩)) := by rw [Lib.cell_of_heap H.out.cls.box]; rfl
      cases hp : Pol.is (t3 :: l3) 4 [93] with
      | false =>
        have HPP : Hid (Pol.inOf (f + 1) nest tp a (t1 :: l1) = .error (t3.p, 120)) := by show _ = _; rw [HP.out]; simp only [must_neg hp]
        have HP0 := Lib.hid hp
        clear hp
        have HNX := Lib.hid (rd_must_no W4 r g _ _ t3 l3 nest ⟨#[93]⟩ H.out.cls.rd HP0.out)
        go_wp2_with fail
        refine HNX.out.mono ?_
        intro e w2 hs9
        obtain ⟨b9, hb9, rfl, hrow9, hf9⟩ := hs9.from (bs := [r]) H.out.f (fun y hy => .inl (by simpa using hy))
        show _
        exact ⟨rfl, by rw [HPP.out]; exact Done.stop ⟨b9, hb9, rfl, hrow9, hf9⟩⟩
      | true =>
        have HPP : Hid (Pol.inOf (f + 1) nest tp a (t1 :: l1) = .ok (.mk 13 Pol.none_ 0 (a :: L) tp, l3)) := by show _ = _; rw [HP.out]; simp only [must_pos hp]
        have hl3 : 0 < l3.length := (Pol.is_tail hp (by decide) HEM.out : Ends l3).pos
        have HP1 := Lib.hid hp
        have hLp := Lib.hid (Pol.row_pos (f := f + 1) Hq.out)
        have hsh := Lib.hid (Pol.row_few (f := f + 1) Hq.out)
        clear hp
        have HNX := Lib.hid (rd_must_yes W4 r g _ _ t3 l3 nest ⟨#[93]⟩ H.out.cls.rd hl3 HP1.out)
        go_wp2_with fail
        refine HNX.out.mono ?_
        rintro e W5 ⟨rfl, hf1, hr1⟩
        have H := Lib.hid (H.out.step hf1 hr1)
        clear HNX hl3 x0 xf
        go_wp2_with fail
        obtain ⟨g5, c5, rfl, hg5⟩ := own_form5 HOWN.out hLp.out
        have hg5n : g5 ≠ r := by omega
        have HOWN : Hid (W5.ownsRow W3.heap.size 80 5 (.slice (some ⟨g5, 0, none⟩) L.length c5) L.length css.flatten) := ownsRow_blk HOWN.out (hf1.block _ (ownsRow_lt HOWN.out) (by simpa using hg5n))
        have HEXS : Hid (Exs W5 (fun i => w.heap.size ≤ i ∧ i ≠ w.heap.size + 1 ∧ i < W5.heap.size) css L) := ((HEXS.out.mono (E := fun i => w.heap.size ≤ i ∧ i ≠ w.heap.size + 1 ∧ i < W5.heap.size) (fun i hi h => ⟨by have := h.1; omega, by have := h.1; omega, Nat.lt_of_lt_of_le hi hf1.size⟩)).fr hf1 (fun y hy _ hc => by simp at hy; have := hc.1; omega))
        clear hf1 hr1
        have HS : Hid (∀ (U : World), U.heap[w1.heap.size + 1]? = some (.cells #[.int .i64 tk, .string ts, .int .i64 tn, .int .i64 tp] 25 (0, 0)) → U.heap[w1.heap.size]? = some (.cells #[.int .i64 op0, .string s9, .int .i64 n9, .slice q9 k9 c9, .int .i64 p9] 80 (0, 0)) → ((fun W' => W'.cell? ⟨w1.heap.size + 1, 3, none⟩ = some (.int .i64 tp) ∧ W'.cell? ⟨w1.heap.size, 0, none⟩ = some (.int .i64 op0) ∧ W'.cell? ⟨w1.heap.size, 1, none⟩ = some (.string s9) ∧ W'.cell? ⟨w1.heap.size, 2, none⟩ = some (.int .i64 n9) ∧ W'.cell? ⟨w1.heap.size, 3, none⟩ = some (.slice q9 k9 c9) ∧ W'.cell? ⟨w1.heap.size, 4, none⟩ = some (.int .i64 p9)) : World → Prop) U) := fun U h1 h2 =>
          ⟨by rw [Lib.cell_of_heap h1]; rfl, by rw [Lib.cell_of_heap h2]; rfl, by rw [Lib.cell_of_heap h2]; rfl, by rw [Lib.cell_of_heap h2]; rfl, by rw [Lib.cell_of_heap h2]; rfl, by rw [Lib.cell_of_heap h2]; rfl⟩
        have H0 := Lib.hid (H.out.fr (Fr.refl [] _).drew)
        have hS0 := HS.out _ H0.out.cls.tok H0.out.cls.av
        refine wp_region_held_drew (S := (fun W' => W'.cell? ⟨w1.heap.size + 1, 3, none⟩ = some (.int .i64 tp) ∧ W'.cell? ⟨w1.heap.size, 0, none⟩ = some (.int .i64 op0) ∧ W'.cell? ⟨w1.heap.size, 1, none⟩ = some (.string s9) ∧ W'.cell? ⟨w1.heap.size, 2, none⟩ = some (.int .i64 n9) ∧ W'.cell? ⟨w1.heap.size, 3, none⟩ = some (.slice q9 k9 c9) ∧ W'.cell? ⟨w1.heap.size, 4, none⟩ = some (.int .i64 p9))) (by kernel_rfl) (hS0) (fun hHeld => ?_)
        refine held_take (i := 0) (v := ?_) 64 rfl rfl (by kernel_rfl) (by kernel_rfl) (by kernel_rfl) (fun _ _ _ h => h) (Or.inl ⟨by rfl, ?_⟩) (by assumption) ?_
        rotate_left 1
        · intro w hSw; (try dsimp only at hSw); go_simp; try (with_reducible rfl)
        try simp only [Act.put, List.setIfInBounds_toArray, List.set_cons_zero, List.set_cons_succ]
        refine held_take (i := 1) (v := ?_) 65 rfl rfl (by kernel_rfl) (by kernel_rfl) (by kernel_rfl) (fun _ _ _ h => h) (Or.inl ⟨by rfl, ?_⟩) (by assumption) ?_
        rotate_left 1
        · intro w hSw; (try dsimp only at hSw); go_simp; try (with_reducible rfl)
        try simp only [Act.put, List.setIfInBounds_toArray, List.set_cons_zero, List.set_cons_succ]
        refine held_take (i := 2) (v := ?_) 66 rfl rfl (by kernel_rfl) (by kernel_rfl) (by kernel_rfl) (fun _ _ _ h => h) (Or.inl ⟨by rfl, ?_⟩) (by assumption) ?_
        rotate_left 1
        · intro w hSw; (try dsimp only at hSw); go_simp; try (with_reducible rfl)
        try simp only [Act.put, List.setIfInBounds_toArray, List.set_cons_zero, List.set_cons_succ]
        refine held_take (i := 4) (v := ?_) 68 rfl rfl (by kernel_rfl) (by kernel_rfl) (by kernel_rfl) (fun _ _ _ h => h) (Or.inl ⟨by rfl, ?_⟩) (by assumption) ?_
        rotate_left 1
        · intro w hSw; (try dsimp only at hSw); go_simp; try (with_reducible rfl)
        try simp only [Act.put, List.setIfInBounds_toArray, List.set_cons_zero, List.set_cons_succ]
        refine wpAnyH_ready (rs := [3]) (by kernel_rfl) (by simp) ?_
        refine AllReadyH.cons rfl (fun K hK => ?_) AllReadyH.nil
        have H1 := Lib.hid (H0.out.fr ((Fr.refl [] _).alloc (.cells #[.int .i64 op0, .string s9, .int .i64 n9, .slice q9 k9 c9, .int .i64 p9] 80)))
        go_simp
        refine hK.out _ _ (HS.out _ H1.out.cls.tok H1.out.cls.av) (fun hHeld => ?_)
        clear hK K
        try simp only [Act.put, List.setIfInBounds_toArray, List.set_cons_zero, List.set_cons_succ]
        have hA5 : w1.heap.size < W5.heap.size := row_lt H.out.cls.av
        have hT5 : w1.heap.size + 1 < W5.heap.size := row_lt H.out.cls.tok
        have hF5 : w1.heap.size + 1 + 1 < W5.heap.size := row_lt H.out.fn
        have hR5 : w.heap.size + 1 < W5.heap.size := row_lt H.out.res
        have hB5 : w.heap.size < W5.heap.size := by omega
        have hg55 : g5 < W5.heap.size := ownsRow_lt HOWN.out
        have hAL : Fr [] W5 (World.alloc W5.drew (.cells #[.int .i64 op0, .string s9, .int .i64 n9, .slice q9 k9 c9, .int .i64 p9] 80)) := (Fr.refl [] W5).drew.alloc _
        have hrp1 := (H.out.cls.rep.mono (E := fun i => (w.heap.size ≤ i ∧ i ≠ w.heap.size + 1) ∧ i ≠ W5.heap.size) (fun i hi h => ⟨h, by omega⟩)).fr hAL (fun y hy _ => by cases hy)
        have hex1 := HEXS.out.fr hAL (fun y hy _ => by cases hy)
        have how1 := ownsRow_fr HOWN.out hAL
        refine wpAnyH_fresh (fun U => Cmp w w.heap.size (w1.heap.size + 1) w1.heap.size (w1.heap.size + 1 + 1) (w.heap.size + 1) r g _ _ l3 nest ⟨tk, ts, tn, tp⟩ [.int .i64 op0, .string s9, .int .i64 n9, .slice q9 k9 c9, .int .i64 p9] a U ∧ U.heap[W5.heap.size]? = some (.cells #[.int .i64 op0, .string s9, .int .i64 n9, .slice q9 k9 c9, .int .i64 p9] 80 (0, 0))
          ∧ U.ownsRow W3.heap.size 80 5 (.slice (some ⟨g5, 0, none⟩) L.length c5) L.length css.flatten ∧ Exs U (fun i => w.heap.size ≤ i ∧ i ≠ w.heap.size + 1 ∧ i < W5.heap.size) css L ∧ Rep U (fun i => (w.heap.size ≤ i ∧ i ≠ w.heap.size + 1) ∧ i ≠ W5.heap.size) [.int .i64 op0, .string s9, .int .i64 n9, .slice q9 k9 c9, .int .i64 p9] a ∧ W5.heap.size + 1 ≤ U.heap.size)
          ⟨H1.out, heap_alloc_last W5.drew _, how1, hex1, hrp1, by simp⟩ ?_
        rintro U ⟨hu1, hu2, hu3, hu4, hu5, hu6⟩
        have HU1 := Lib.hid hu1
        have HU4 := Lib.hid hu4
        have HU5 := Lib.hid hu5
        have HROW := Lib.hid hu2
        have hownA : U.ownsRow W5.heap.size 80 5 (.slice (some ⟨W5.heap.size, 0, none⟩) 1 1) 1 [.int .i64 op0, .string s9, .int .i64 n9, .slice q9 k9 c9, .int .i64 p9] := ⟨rfl, Or.inr ⟨W5.heap.size, 1, _, rfl, Nat.le_refl _, hu2, Nat.le_refl _, by decide, rfl, rfl⟩⟩
        have hnews := own5_cells hu3
        have hlen5 : css.flatten.length = L.length * 5 := by have := hu3.1; simpa using this
        have honeL := exs_one hu4
        have hLp2 := hLp.out
        have hL9 : L.length ≤ 1000000 := by have h9 := hsh.out; have h8 := HL1.out; simp only [List.length_cons] at h9; omega
        obtain ⟨i0, hi, hz0, hz1', hz2⟩ := info_parts infoEx
        refine wpAnyH_ready (rs := [5]) (by kernel_rfl) (by simp) ?_
        refine AllReadyH.cons rfl (fun K hK => ?_) AllReadyH.nil
        refine step_append_lies U (by rfl) (.tmp 67) (.tmp 68) _ (by rfl) W5.heap.size 80 i0 _ 5 64 Tryd.underlying76 hi hz0 hz1' hz2 rfl (by decide) _ 1 _ (by rfl) hownA _ L.length c5 css.flatten (by rfl) hlen5 hnews honeL hLp2 (by unfold maxLen; omega) (by omega) (by omega) _ rfl ?_
        intro g9 cap9 w9 ho hg hgg hgl
        have hf9 : Fr [W5.heap.size] U w9 := Fr.of_grown hg
        have hrp9 : Rep w9 (fun i => w.heap.size ≤ i ∧ i ≠ w.heap.size + 1) [.int .i64 op0, .string s9, .int .i64 n9, .slice q9 k9 c9, .int .i64 p9] a := (HU5.out.fr hf9 (fun y hy _ hc => hc.2 (by simpa using hy))).mono (fun i _ h => h.1)
        have hex9 : Exs w9 (fun i => w.heap.size ≤ i ∧ i ≠ w.heap.size + 1) css L := (HU4.out.fr hf9 (fun y hy _ hc => by simp at hy; omega)).mono (fun i _ h => ⟨h.1, h.2.1⟩)
        have H9 := Lib.hid (HU1.out.other hf9 ⟨by omega, by omega, by omega, by omega, by omega⟩ (by omega) hrp9)
        have hD9 : w.heap.size ≤ g9 ∧ g9 ≠ w.heap.size + 1 := by
          rcases hgg with h9 | h9
          · simp [Value.ownBlock] at h9; omega
          · omega
        have hnode : Rep w9 (fun i => w.heap.size ≤ i ∧ i ≠ w.heap.size + 1) [.int .i64 13, .string ⟨#[]⟩, .int .i64 0, .slice (some ⟨g9, 0, none⟩) (1 + L.length) cap9, .int .i64 tp] (.mk 13 Pol.none_ 0 (a :: L) tp) := by
          have e9 : (a :: L).length = 1 + L.length := by simp; omega
          have h8 := Rep.of_own (w := w9) (D := fun i => w.heap.size ≤ i ∧ i ≠ w.heap.size + 1) 13 ⟨#[]⟩ 0 tp (a :: L) ([.int .i64 op0, .string s9, .int .i64 n9, .slice q9 k9 c9, .int .i64 p9] :: css) g9 W5.heap.size cap9 hD9 (by simp [hex9.len]) (by rw [e9]; exact ho) (Exs.cons hrp9 hex9).rep
          rw [e9] at h8
          exact h8
        have HN9 := Lib.hid hnode
        refine hK.out _ _ (HS.out _ H9.out.cls.tok H9.out.cls.av) (fun hHeld => ?_)
        clear hK K hnode hrp9 hex9 hf9 ho hg hgg hu1 hu2 hu3 hu4 hu5 hownA hnews hlen5 honeL hrp1 hex1 how1 hAL hS0
        try simp only [Act.put, List.setIfInBounds_toArray, List.set_cons_zero, List.set_cons_succ]
        refine held_take (i := 6) (v := ?_) 70 rfl rfl (by kernel_rfl) (by kernel_rfl) (by kernel_rfl) (fun _ _ _ h => h) (Or.inl ⟨by rfl, ?_⟩) (by assumption) ?_
        rotate_left 1
        · intro w hSw; (try dsimp only at hSw); go_simp; try (with_reducible rfl)
        try simp only [Act.put, List.setIfInBounds_toArray, List.set_cons_zero, List.set_cons_succ]
        have zf : ∀ i, w9.frozen? ⟨(w.heap.size + 1), i, none⟩ = false := fun i => Lib.frozen_of_heap H9.out.res i
        have z0 : w9.cell? ⟨(w.heap.size + 1), 0, none⟩ = some (.int .i64 0) := by rw [Lib.cell_of_heap H9.out.res]; rfl
        have z1 : w9.cell? ⟨(w.heap.size + 1), 1, none⟩ = some (.string ⟨#[]⟩) := by rw [Lib.cell_of_heap H9.out.res]; rfl
        have z2 : w9.cell? ⟨(w.heap.size + 1), 2, none⟩ = some (.int .i64 0) := by rw [Lib.cell_of_heap H9.out.res]; rfl
        have z3 : w9.cell? ⟨(w.heap.size + 1), 3, none⟩ = some (.slice none 0 0) := by rw [Lib.cell_of_heap H9.out.res]; rfl
        have z4 : w9.cell? ⟨(w.heap.size + 1), 4, none⟩ = some (.int .i64 0) := by rw [Lib.cell_of_heap H9.out.res]; rfl
        have HG := Lib.hid (H9.out.give HN9.out)
        have HT := Lib.hid (heap_five H9.out.res (.int .i64 13) (.string ⟨#[]⟩) (.int .i64 0) (.slice (some ⟨g9, 0, none⟩) (1 + L.length) cap9) (.int .i64 tp))
        have hff := fr_five w9 [w.heap.size + 1] (w.heap.size + 1) (.int .i64 13) (.string ⟨#[]⟩) (.int .i64 0) (.slice (some ⟨g9, 0, none⟩) (1 + L.length) cap9) (.int .i64 tp) (by simp)
        have HS2 := Lib.hid (HS.out _ (hff.row H9.out.cls.tok (by simp; omega)) (hff.row H9.out.cls.av (by simp; omega)))
        clear hff
        refine wpAnyH_ready (rs := [7]) (by kernel_rfl) (by simp) ?_
        refine AllReadyH.cons rfl (fun K hK => ?_) AllReadyH.nil
        go_simp
        refine hK.out _ _ (HS2.out) (fun hHeld => ?_)
        clear hK K
        try simp only [Act.put, List.setIfInBounds_toArray, List.set_cons_zero, List.set_cons_succ]
        refine wpAnyH_done (by kernel_rfl) ?_ _
        go_wp2_with fail
        refine bodyPost_ret (v := .agg #[.int .i64 13, .string ⟨#[]⟩, .int .i64 0, .slice (some ⟨g9, 0, none⟩) (1 + L.length) cap9, .int .i64 tp]) (results_cell_row rfl _ _ (w.heap.size + 1) _ _ (0, 0) _ rfl HT.out Tryd.underlying80 rfl (by kernel_rfl)) rfl ?_
        rw [HPP.out]
        exact HG.out
end Go.Proofs.YtgklmpooonnmiaaDoor

namespace Go.Proofs.YtgklmpooonnmiaaDoor
open Go.RowKit
/-- operand, given what 'or' reads. -/
theorem opd_all (f : Nat) (hO : ReadsEx 82 (Pol.or_ f)) : ReadsEx 110 (Pol.operand (f + 1)) := by
  intro w r g o c l nest h hE hn hr hfed
  obtain ⟨t, m, rfl⟩ := hE.cons
  cases hp : Pol.is (t :: m) 4 [40] with
  | true =>
    have hEm : Ends m := Pol.is_tail hp (by decide) hE
    have e : Pol.operand (f + 1) nest (t :: m) = Pol.within f nest t.p m := by
      rw [Pol.operand, if_pos hp]
      unfold Pol.within
      split
      · rfl
      · rcases Pol.or_ f (nest + 1) m with e | ⟨x, m2⟩
        · rfl
        · rfl
    rw [e] at hfed ⊢
    exact opd_paren f hO w r g o c t m nest h hr hEm hn hp hfed
  | false =>
    by_cases h3 : t.k = 3
    · have hEm : Ends m := hE.tail (by omega)
      have e : Pol.operand (f + 1) nest (t :: m) = .ok (.mk 2 Pol.none_ t.n [] t.p, m) := by
        rw [Pol.operand, if_neg (by rw [hp]; simp), if_pos h3]
      rw [e]
      exact opd_int w r g o c t m nest h hr hEm.pos h3
    by_cases h2 : t.k = 2
    · have hEm : Ends m := hE.tail (by omega)
      have e : Pol.operand (f + 1) nest (t :: m) = .ok (.mk 3 t.s 0 [] t.p, m) := by
        rw [Pol.operand, if_neg (by rw [hp]; simp), if_neg h3, if_pos h2]
      rw [e]
      exact opd_text w r g o c t m nest h hr hEm.pos h2
    by_cases h1 : t.k = 1
    · have hEm : Ends m := hE.tail (by omega)
      cases ht : Pol.is (t :: m) 1 [116, 114, 117, 101] with
      | true =>
        have e : Pol.operand (f + 1) nest (t :: m) = .ok (.mk 1 Pol.none_ 1 [] t.p, m) := by
          rw [Pol.operand, if_neg (by rw [hp]; simp), if_neg h3, if_neg h2, if_pos ht]
        rw [e]
        exact opd_true w r g o c t m nest h hr hEm.pos h1 ht
      | false =>
        cases hf : Pol.is (t :: m) 1 [102, 97, 108, 115, 101] with
        | true =>
          have e : Pol.operand (f + 1) nest (t :: m) = .ok (.mk 1 Pol.none_ 0 [] t.p, m) := by
            rw [Pol.operand, if_neg (by rw [hp]; simp), if_neg h3, if_neg h2, if_neg (by rw [ht]; simp), if_pos hf]
          rw [e]
          exact opd_false w r g o c t m nest h hr hEm.pos h1 ht hf
        | false =>
          cases hc : Pol.is (t :: m) 1 [99, 108, 97, 105, 109] with
          | true =>
            have e : Pol.operand (f + 1) nest (t :: m) = Pol.claimed t.p m := by
              rw [Pol.operand, if_neg (by rw [hp]; simp), if_neg h3, if_neg h2, if_neg (by rw [ht]; simp), if_neg (by rw [hf]; simp), if_pos hc]
              unfold Pol.claimed
              rcases Pol.must m [40] with e | ⟨u, m2⟩
              · rfl
              · rcases h9 : Pol.take m2 2 with e | ⟨u, m3⟩
                · simp only [h9]
                · simp only [h9]
                  rcases Pol.must m3 [41] with e | ⟨u, m4⟩ <;> rfl
            rw [e]
            exact opd_claim w r g o c t m nest h hr hEm h1 ht hf hc
          | false =>
            cases hw : Pol.kept t.s with
            | false =>
              have e : Pol.operand (f + 1) nest (t :: m) = .ok (.mk 4 t.s 0 [] t.p, m) := by
                rw [Pol.operand, if_neg (by rw [hp]; simp), if_neg h3, if_neg h2, if_neg (by rw [ht]; simp), if_neg (by rw [hf]; simp), if_neg (by rw [hc]; simp), if_pos ⟨h1, hw⟩]
              rw [e]
              exact opd_var w r g o c t m nest h hr hEm.pos h1 ht hf hc hw
            | true =>
              have e : Pol.operand (f + 1) nest (t :: m) = .error (t.p, 120) := by
                rw [Pol.operand, if_neg (by rw [hp]; simp), if_neg h3, if_neg h2, if_neg (by rw [ht]; simp), if_neg (by rw [hf]; simp), if_neg (by rw [hc]; simp), if_neg (by rw [hw]; simp)]
              rw [e]
              exact opd_kept w r g o c t m nest h hr hEm.pos h1 ht hf hc hw
    · have e : Pol.operand (f + 1) nest (t :: m) = .error (t.p, 120) := by
        have hk : (t.k == 1) = false := beq_eq_false_iff_ne.2 h1
        have hi : ∀ b, Pol.is (t :: m) 1 b = false := fun b => by simp only [Pol.is, hk, Bool.false_and]
        rw [Pol.operand, if_neg (by rw [hp]; simp), if_neg h3, if_neg h2, if_neg (by rw [hi]; simp), if_neg (by rw [hi]; simp), if_neg (by rw [hi]; simp), if_neg (fun h => h1 h.1)]
      rw [e]
      exact opd_else w r g o c t m nest h hr hp h1 h2 h3
/-- what stands behind an operand, of all that compare asks. -/
theorem cmp_all (f : Nat) (hO : ∀ f' ≤ f, ReadsEx 110 (Pol.operand f')) : ReadsEx 108 (Pol.compare (f + 1)) := by
  intro w r g o c l nest h hE hn hr hfed
  have hC : ∀ q, Pol.operand f nest l = q → (∀ p, q = .error (p, 0) → Pol.compare (f + 1) nest l = .error (p, 0)) → ∀ W o c, Rd W r g o c l nest → r < W.heap.size → Calls Tryd.prog 110 #[.pointer (some ⟨r, 0, none⟩)] W (Done r g nest W q) := by
    intro q hq hf W o c h1 h2
    rw [← hq]
    exact hO f (Nat.le_refl _) W r g o c l nest h1 hE hn h2 (fun p hp => hfed p (hf p (by rw [← hq]; exact hp)))
  rcases hq : Pol.operand f nest l with ⟨pp, pn⟩ | ⟨a, m0⟩
  · have e : Pol.compare (f + 1) nest l = .error (pp, pn) := by rw [Pol.compare, hq]
    rw [e]
    exact cmp_stop w r g o c l nest h hr pp pn (hC _ hq (fun p hp => by rw [e, hp]))
  · have hE0 : Ends m0 := (Pol.all_keep f).1 _ _ _ _ hq hE
    obtain ⟨t, m, rfl⟩ := hE0.cons
    have hC1 := hC _ hq (fun p hp => by cases hp)
    have hE4 : t.k ≠ 5 → Ends m := fun hk => hE0.tail hk
    by_cases h4 : t.k = 4
    · have hEm := hE4 (by omega)
      rcases hs : Pol.sign t.s.toList with _ | ⟨op, turned⟩
      · have e : Pol.compare (f + 1) nest l = .ok (a, t :: m) := by
          rw [Pol.compare, hq]; simp only []; rw [if_pos h4, hs]
        rw [e]
        exact cmp_none w r g o c l nest h hr a t m hC1 h4 hs
      · have e : Pol.compare (f + 1) nest l = Pol.twoOf op t.p turned a (Pol.operand f nest m) := by
          rw [Pol.compare, hq]; simp only []; rw [if_pos h4, hs]
          unfold Pol.twoOf
          rcases Pol.operand f nest m with e | ⟨b, m2⟩ <;> rfl
        rw [e] at hfed ⊢
        have hC2 : ∀ W o c, Rd W r g o c m nest → r < W.heap.size → Calls Tryd.prog 110 #[.pointer (some ⟨r, 0, none⟩)] W (Done r g nest W (Pol.operand f nest m)) := fun W o c h1 h2 =>
          hO f (Nat.le_refl _) W r g o c m nest h1 hEm hn h2 (fun p hp => hfed p (by rw [hp]; rfl))
        unfold Pol.sign at hs
        split at hs
        · rename_i hb; cases hs; exact cmp_eq w r g o c l nest h hr a t m hC1 hEm.pos _ hC2 h4 hb
        · split at hs
          · rename_i hb; cases hs; exact cmp_ne w r g o c l nest h hr a t m hC1 hEm.pos _ hC2 h4 hb
          · split at hs
            · rename_i hb; cases hs; exact cmp_lt w r g o c l nest h hr a t m hC1 hEm.pos _ hC2 h4 hb
            · split at hs
              · rename_i hb; cases hs; exact cmp_le w r g o c l nest h hr a t m hC1 hEm.pos _ hC2 h4 hb
              · split at hs
                · rename_i hb; cases hs; exact cmp_gt w r g o c l nest h hr a t m hC1 hEm.pos _ hC2 h4 hb
                · split at hs
                  · rename_i hb; cases hs; exact cmp_ge w r g o c l nest h hr a t m hC1 hEm.pos _ hC2 h4 hb
                  · cases hs
    · cases hs : Pol.is (t :: m) 1 [104, 97, 115] with
      | true =>
        have hEm : Ends m := Pol.is_tail hs (by decide) hE0
        have e : Pol.compare (f + 1) nest l = Pol.twoOf 14 t.p false a (Pol.operand f nest m) := by
          rw [Pol.compare, hq]; simp only []; rw [if_neg h4, if_pos hs]
          unfold Pol.twoOf
          rcases Pol.operand f nest m with e | ⟨b, m2⟩ <;> rfl
        rw [e] at hfed ⊢
        have hC2 : ∀ W o c, Rd W r g o c m nest → r < W.heap.size → Calls Tryd.prog 110 #[.pointer (some ⟨r, 0, none⟩)] W (Done r g nest W (Pol.operand f nest m)) := fun W o c h1 h2 =>
          hO f (Nat.le_refl _) W r g o c m nest h1 hEm hn h2 (fun p hp => hfed p (by rw [hp]; rfl))
        exact cmp_has w r g o c l nest h hr a t m hC1 hEm.pos _ hC2 h4 hs
      | false =>
        cases hi : Pol.is (t :: m) 1 [105, 110] with
        | true =>
          have hEm : Ends m := Pol.is_tail hi (by decide) hE0
          have e : Pol.compare (f + 1) nest l = Pol.inOf f nest t.p a m := by
            rw [Pol.compare, hq]; simp only []; rw [if_neg h4, if_neg (by rw [hs]; simp), if_pos hi]
            unfold Pol.inOf
            rcases Pol.must m [91] with e | ⟨u, m2⟩
            · rfl
            · rcases h9 : Pol.row f nest m2 with e | ⟨L, m3⟩
              · simp only [h9]
              · simp only [h9]
                rcases Pol.must m3 [93] with e | ⟨u, m4⟩ <;> rfl
          rw [e] at hfed ⊢
          cases f with
          | zero => rw [Pol.operand] at hq; cases hq
          | succ j => exact cmp_in j (fun f' h' => hO f' (by omega)) w r g o c l nest h hr a t m hC1 hEm hn h4 hs hi hfed
        | false =>
          have e : Pol.compare (f + 1) nest l = .ok (a, t :: m) := by
            rw [Pol.compare, hq]; simp only []; rw [if_neg h4, if_neg (by rw [hs]; simp), if_neg (by rw [hi]; simp)]
          rw [e]
          exact cmp_else w r g o c l nest h hr a t m hC1 h4 hs hi
theorem not_all (f : Nat) (hN : ReadsEx 107 (Pol.not_ f)) (hC : ReadsEx 108 (Pol.compare f)) : ReadsEx 107 (Pol.not_ (f + 1)) := by
  intro w r g o c l nest h hE hn hr hfed
  obtain ⟨t, m, rfl⟩ := hE.cons
  cases hp : Pol.is (t :: m) 1 [110, 111, 116] with
  | true =>
    have hEm : Ends m := Pol.is_tail hp (by decide) hE
    by_cases h12 : nest < 12
    · have e : Pol.not_ (f + 1) nest (t :: m) = Pol.notOf t.p (Pol.not_ f (nest + 1) m) := by
        rw [Pol.not_, if_pos hp, if_neg (by omega)]
        rcases h9 : Pol.not_ f (nest + 1) m with e | ⟨x, m2⟩ <;> simp only [List.tail_cons, h9] <;> rfl
      rw [e] at hfed ⊢
      exact not_yes _ w r g o c t m nest h hr hEm hp h12 (fun W o c h1 h2 => hN W r g o c m (nest + 1) h1 hEm (by omega) h2 (fun p hp => hfed p (by rw [hp]; rfl)))
    · have e : Pol.not_ (f + 1) nest (t :: m) = .error (t.p, 121) := by
        rw [Pol.not_, if_pos hp, if_pos (by omega)]; rfl
      rw [e]
      exact not_deep w r g o c t m nest h hr hp h12 hn
  | false =>
    have e : Pol.not_ (f + 1) nest (t :: m) = Pol.compare f nest (t :: m) := by
      rw [Pol.not_, if_neg (by rw [hp]; simp)]
    rw [e] at hfed ⊢
    exact not_no _ w r g o c t m nest h hr hp (fun W o c h1 h2 => hC W r g o c (t :: m) nest h1 hE hn h2 hfed)
/-- all of them. -/
theorem reads_all : ∀ f : Nat, ∀ f' ≤ f, ReadsEx 110 (Pol.operand f') ∧ ReadsEx 108 (Pol.compare f') ∧ ReadsEx 107 (Pol.not_ f') ∧ ReadsEx 101 (Pol.and_ f') ∧ ReadsEx 82 (Pol.or_ f') := by
  intro f
  induction f with
  | zero =>
    intro f' hf'
    obtain rfl : f' = 0 := by omega
    refine ⟨?_, ?_, ?_, ?_, ?_⟩ <;> (intro w r g o c l nest h hE hn hr hfed; exact absurd (by first | rw [Pol.operand] | rw [Pol.compare] | rw [Pol.not_] | rw [Pol.and_] | rw [Pol.or_]) (hfed (Pol.place l)))
  | succ f ih =>
    intro f' hf'
    by_cases hl : f' ≤ f
    · exact ih f' hl
    obtain rfl : f' = f + 1 := by omega
    exact ⟨opd_all f (ih f (Nat.le_refl _)).2.2.2.2, cmp_all f (fun f' h' => (ih f' h').1), not_all f (ih f (Nat.le_refl _)).2.2.1 (ih f (Nat.le_refl _)).2.1,
      and_reads f (fun f' h' => (ih f' h').2.2.1), or_reads f (fun f' h' => (ih f' h').2.2.2.1)⟩
theorem or_reads_all (f : Nat) : ReadsEx 82 (Pol.or_ f) := (reads_all f f (Nat.le_refl _)).2.2.2.2
end Go.Proofs.YtgklmpooonnmiaaDoor

namespace Go.Proofs.YtgklmpooonnmiaaDoor
open Go.RowKit
/-- one text of a rule's scopes. -/
theorem text_one (W : World) (b1 r g o c : Nat) (t : TI) (l : List TI) (nest : Nat) (h : Rd W r g o c (t :: l) nest) (hb : W.heap[b1]? = some (.cells #[.pointer (some ⟨r, 0, none⟩)] 94 (0, 0))) (hE : Ends (t :: l)) :
    Calls Tryd.prog 80 #[.pointer (some ⟨b1, 0, none⟩)] W fun e w' => match Pol.take (t :: l) 2 with
      | .error (p, n) => Stops [r] W p n e w'
      | .ok (u, m) => e = .returned (.string u.s) ∧ Fr [r] W w' ∧ ∃ o c, Rd w' r g o c m nest := by
  have hr := row_lt h.row
  have xf : ∀ i, W.frozen? ⟨b1, i, none⟩ = false := fun i => Lib.frozen_of_heap hb i
  have x0 : W.cell? ⟨b1, 0, none⟩ = some (.pointer (some ⟨r, 0, none⟩)) := by rw [Lib.cell_of_heap hb]; rfl
  by_cases hk : t.k = 2
  · rw [take_pos hk]
    have HE : Ends l := hE.tail (by omega)
    have HT := Lib.hid (rd_take_yes W r g o c t l nest 2 h HE.pos hr hk)
    have hu := tok_text
    clear h hE hb HE hk hr
    go_enter Tryd.func80, Tryd.ntmps80
    go_wp2_with fail
    refine HT.out.mono ?_
    rintro e w1 ⟨rfl, hf, hR⟩
    have HF := Lib.hid hf
    have HR := Lib.hid hR
    clear hf hR
    go_wp2_with fail
    refine bodyPost_ret (results_tmp rfl _ _ _) rfl ?_
    exact ⟨rfl, HF.out, _, _, HR.out⟩
  · rw [take_neg hk]
    have HT := Lib.hid (rd_take_no W r g o c t l nest 2 h hr hk)
    clear h hE hb hk hr
    go_enter Tryd.func80, Tryd.ntmps80
    go_wp2_with fail
    refine HT.out.mono ?_
    intro e w1 hs
    obtain ⟨b9, hb9, rfl, hrow9, hf9⟩ := hs
    show _
    exact ⟨rfl, b9, hb9, rfl, hrow9, hf9⟩
/-- texts were read. -/
def TextsDone (r g nest : Nat) (w : World) (q : Pol.PR (List ByteArray)) (e : Ending) (w' : World) : Prop :=
  match q with
  | .ok (A, m) => ∃ v, e = .returned v ∧ w'.ownsRow w.heap.size 9 1 v A.length (strs A) ∧ Fr [r] w w' ∧ ∃ o c, Rd w' r g o c m nest
  | .error (p, n) => Stops [r] w p n e w'
theorem TextsDone.stop {r g nest : Nat} {w w' : World} {p n : Int} {e : Ending} (h : Stops [r] w p n e w') : TextsDone r g nest w (.error (p, n)) e w' := h
def Pol.textsK (A : List ByteArray) : Pol.PR (List ByteArray) → Pol.PR (List ByteArray)
  | .error e => .error e
  | .ok (L, m) => .ok (A ++ L, m)
/-- what 'append' of one text asks of the program. -/
theorem appTx {ops : Array Oper} {rest : List Oper} {o : Oper} {a : Act} {w : World} {Q : Exit → Act → World → Prop} (hgd : o.guard = none) (s x : Operand)
    (ho : o.op = .call { callee := .builtin .append, args := #[s, x], argTypes := #[37, 37] })
    (B : Nat) (v : Value) (n : Nat) (l : List ByteArray) (y : ByteArray) (hs : a.eval s = v) (hx : a.eval x = .slice (some ⟨w.heap.size, 0, none⟩) 1 1)
    (hown : w.ownsRow B 9 1 v n (strs l)) (hB : B ≤ w.heap.size) (hn : n < 1000000000)
    (h : ∀ g c w', w'.ownsRow B 9 1 (.slice (some ⟨g, 0, none⟩) (n + 1) c) (n + 1) (strs (l ++ [y])) → w.grownBy w' v.ownBlock → (v.ownBlock = some g ∨ w.heap.size ≤ g) → wpList Tryd.prog ops Q rest (a.put o.dst (.slice (some ⟨g, 0, none⟩) (n + 1) c)) w') : wpList Tryd.prog ops Q (o :: rest) a (w.alloc (.cells #[.string y] 9)) := by
  obtain ⟨i, hi, hz0, hz1, hz2⟩ := info_parts infoStr
  refine wpList_append_lies (w.alloc _) hgd s x _ ho B 9 i (.string ⟨#[]⟩) 1 16 Tryd.underlying37 hi hz0 hz1 hz2 rfl (by decide) v n (strs l) hs (ownsRow_fr hown ((Fr.refl _ _).alloc _)) _ 1 1 [.string y] hx rfl (cell_one_new w _ _) (by simp [Value.oneCell']) (by decide) (by unfold maxLen; omega) (by omega) (Nat.le_trans hB (by simp)) _ rfl ?_
  intro g cap w' h1 h2 h3 _
  have hg := World.grownBy_alloc w (.cells #[.string y] 9) v.ownBlock
  have e : strs (l ++ [y]) = strs l ++ [.string y] := by simp [strs]
  exact h g cap w' (by rw [e]; exact h1) (hg.trans_ h2) (h3.imp id (fun h => by rw [h]; simp))
/-- what the loop holds. -/
structure TxSt (w : World) (b1 r g o c : Nat) (m : List TI) (nest : Nat) (v : Value) (A : List ByteArray) (W : World) : Prop where
  rd : Rd W r g o c m nest
  box : W.heap[b1]? = some (.cells #[.pointer (some ⟨r, 0, none⟩)] 94 (0, 0))
  own : W.ownsRow w.heap.size 9 1 v A.length (strs A)
  f : Fr [r] w W
  rl : r < w.heap.size
  gl : g < w.heap.size
  bl : b1 < w.heap.size
  br : b1 ≠ r
theorem TxSt.step {w : World} {b1 r g o c : Nat} {m : List TI} {nest : Nat} {v : Value} {A : List ByteArray} {W W' : World} {o' c' : Nat} {m' : List TI} {nest' : Nat} (h : TxSt w b1 r g o c m nest v A W) (hf : Fr [r] W W') (hr : Rd W' r g o' c' m' nest') : TxSt w b1 r g o' c' m' nest' v A W' := by
  have h1 := h.rl; have h2 := h.br
  refine ⟨hr, hf.row h.box (by simpa using h2), ?_, h.f.trans hf (fun y hy => .inl hy), h1, h.gl, h.bl, h2⟩
  refine ⟨h.own.1, ?_⟩
  rcases h.own.2 with h | ⟨g0, cap, cur, hv, hb, hg, hr⟩
  · exact Or.inl h
  · exact Or.inr ⟨g0, cap, cur, hv, hb, hf.row hg (by simp; omega), hr⟩
theorem TxSt.grow {w : World} {b1 r g o c : Nat} {m : List TI} {nest : Nat} {v : Value} {A : List ByteArray} {W U : World} {x : ByteArray} (h : TxSt w b1 r g o c m nest v A W)
    {g1 c1 : Nat} (ho : U.ownsRow w.heap.size 9 1 (.slice (some ⟨g1, 0, none⟩) (A.length + 1) c1) (A.length + 1) (strs (A ++ [x]))) (hg : W.grownBy U v.ownBlock) :
    TxSt w b1 r g o c m nest (.slice (some ⟨g1, 0, none⟩) (A.length + 1) c1) (A ++ [x]) U := by
  have h1 := h.rl; have h2 := h.gl; have h3 := h.bl
  have hf := Fr.of_grown hg
  have hbase : ∀ y ∈ v.ownBlock.toList, w.heap.size ≤ y := fun y hy => by
    rcases h.own.2 with ⟨hv, _⟩ | ⟨g0, cap, cur, hv, hb, _⟩
    · rw [hv] at hy; simp [Value.ownBlock] at hy
    · rw [hv] at hy; simp [Value.ownBlock] at hy; omega
  exact ⟨h.rd.fr hf (fun hc => by have := hbase _ hc; omega) (fun hc => by have := hbase _ hc; omega), hf.row h.box (fun hc => by have := hbase _ hc; omega), by rw [List.length_append]; exact ho, h.f.trans hf (fun y hy => .inr (hbase y hy)), h1, h2, h3, h.br⟩
theorem Pol.take_ends2 {l m : List TI} {t : TI} (h : Pol.take l 2 = .ok (t, m)) (hE : Ends l) : Ends m := Pol.take_ends h (by decide) hE
theorem Pol.take_len2 {l m : List TI} {t : TI} {k : Int} (h : Pol.take l k = .ok (t, m)) : m.length < l.length := by
  cases l with
  | nil => simp [Pol.take] at h
  | cons u r =>
    simp only [Pol.take] at h
    split at h
    · cases h; simp
    · cases h
set_option maxHeartbeats 4000000 in
set_option maxRecDepth 100000 in
theorem texts_read (f : Nat) (w : World) (b1 r g o c : Nat) (l : List TI) (nest : Nat) (h : Rd w r g o c l nest) (hb : w.heap[b1]? = some (.cells #[.pointer (some ⟨r, 0, none⟩)] 94 (0, 0))) (hbr : b1 ≠ r) (hE : Ends l)
    (hfed : Pol.Fed (Pol.texts (f + 1) l)) :
    Calls Tryd.prog 79 #[.pointer (some ⟨r, 0, none⟩), .func (.func 80) #[] #[.pointer (some ⟨b1, 0, none⟩)]] w (TextsDone r g nest w (Pol.texts (f + 1) l)) := by
  obtain ⟨Q, hQ⟩ : ∃ Q, Pol.texts (f + 1) l = Q := ⟨_, rfl⟩
  rw [hQ] at hfed ⊢
  rw [Pol.texts] at hQ
  obtain ⟨t0, l0, rfl⟩ := hE.cons
  have HRD := Lib.hid h
  have HB := Lib.hid hb
  have HE := Lib.hid hE
  have HFD := Lib.hid hfed
  have hg := h.gl
  have hr := row_lt h.row
  have hbl := row_lt hb
  have HQ := Lib.hid hQ
  have HC := Lib.hid (text_one w b1 r g o c t0 l0 nest h hb hE)
  obtain ⟨q, hq⟩ : ∃ q, Pol.take (t0 :: l0) 2 = q := ⟨_, rfl⟩
  rw [hq] at HC HQ
  have Hq := Lib.hid hq
  clear h hE hfed hQ hq hb
  go_enter Tryd.func79, Tryd.ntmps79
  go_wp2_with fail
  refine HC.out.mono ?_
  intro e w1 hd
  cases q with
  | error pe =>
    obtain ⟨pp, pn⟩ := pe
    have HQ2 : Hid (.error (pp, pn) = Q) := HQ.out
    have hs : Stops [r] _ pp pn e w1 := hd
    obtain ⟨b9, hb9, rfl, hrow9, hf9⟩ := hs
    show _
    exact ⟨rfl, by rw [← HQ2.out]; exact TextsDone.stop ⟨b9, hb9, rfl, hrow9, hf9⟩⟩
  | ok xm =>
    obtain ⟨x, m⟩ := xm
    obtain ⟨rfl, hf3, o3, c3, hr3⟩ := hd
    have HEM : Hid (Ends m) := Pol.take_ends2 Hq.out HE.out
    have HQ2 : Hid (Q = if Pol.is m 4 [44] = true then Pol.textsK [x.s] (Pol.texts f m.tail) else .ok ([x.s], m)) := by
      show _ = _
      rw [← HQ.out]
      simp only []
      split
      · cases Pol.texts f m.tail <;> rfl
      · rfl
    have hA : Fr [] w1 (w1.alloc (.cells #[.string x.s] 9)) := (Fr.refl _ _).alloc _
    have hwz := hf3.size
    have HST : Hid (TxSt w b1 r g o3 c3 m nest (.slice (some ⟨w1.heap.size, 0, none⟩) 1 1) [x.s] (w1.alloc (.cells #[.string x.s] 9))) :=
      ⟨hr3.fr hA (by simp) (by simp), hA.row (hf3.row HB.out (by simpa using hbr)) (by simp), ⟨rfl, Or.inr ⟨w1.heap.size, 1, _, rfl, hwz, heap_alloc_last _ _, Nat.le_refl _, by decide, rfl, rfl⟩⟩, hf3.trans0 hA, hr, hg, hbl, hbr⟩
    have hsh := Pol.take_len2 Hq.out
    clear hf3 hr3 HQ HC hA
    go_wp2_with fail
    have hfew := HRD.out.few
    go_loopg [5] f (fun q s5 W => ∃ (o c : Nat) (m : List TI) (A : List ByteArray) (c5 : Nat) (g5 : Nat), q ≤ f ∧ s5 = .slice (some ⟨g5, 0, none⟩) A.length c5 ∧ Hid (Q = if Pol.is m 4 [44] = true then Pol.textsK A (Pol.texts q m.tail) else .ok (A, m)) ∧ Hid (Ends m) ∧ Hid (TxSt w b1 r g o c m nest (.slice (some ⟨g5, 0, none⟩) A.length c5) A W) ∧ Hid (A.length + m.length ≤ 1000000))
    case atStart => exact ⟨_, _, _, [x.s], _, _, Nat.le_refl _, rfl, HQ2.out, HEM.out, HST.out, by show 1 + _ ≤ _; omega⟩
    case round =>
      clear HST HQ2 HEM Hq HRD hsh hfew HB
      obtain ⟨o, c, m, A, c5, g5, hq, rfl, HQ, HE, H, HA⟩ := hrel
      have HQL := Lib.hid hq
      clear hq
      obtain ⟨t, l1, rfl⟩ := HE.out.cons
      cases hp : Pol.is (t :: l1) 4 [44] with
      | false =>
        have HQ2 : Hid (Q = .ok (A, t :: l1)) := by show _ = _; rw [HQ.out, hp]; rfl
        have HP := Lib.hid hp
        clear hp HQ
        have HN := Lib.hid (rd_took_no wr r g _ _ _ _ nest 4 ⟨#[44]⟩ H.out.rd HP.out)
        go_wp2_with fail
        refine HN.out.mono ?_
        rintro e w2 ⟨rfl, rfl⟩
        go_wp2_with fail
        refine bodyPost_ret (results_tmp rfl _ _ _) rfl ?_
        rw [HQ2.out]
        exact ⟨_, rfl, H.out.own, H.out.f, _, _, H.out.rd⟩
      | true =>
        have hE1 : Ends l1 := Pol.is_tail hp (by decide) HE.out
        have HQ2 : Hid (Q = Pol.textsK A (Pol.texts gk l1)) := by show _ = _; rw [HQ.out, hp]; rfl
        have HP := Lib.hid hp
        have HE1 := Lib.hid hE1
        have hl1 := hE1.pos
        clear hp HQ hE1
        have HN := Lib.hid (rd_took_yes wr r g _ _ _ _ nest 4 ⟨#[44]⟩ H.out.rd hl1 HP.out)
        obtain ⟨t1, l2, rfl⟩ := HE1.out.cons
        cases gk with
        | zero =>
          exact absurd (HQ2.out.trans (by rw [Pol.texts]; rfl)) (HFD.out (Pol.place (t1 :: l2)))
        | succ j =>
          have hjf : j + 1 ≤ f := HQL.out
          go_wp2_with fail
          refine HN.out.mono ?_
          rintro e w2 ⟨rfl, hf1, hr1⟩
          have H := Lib.hid (H.out.step hf1 hr1)
          clear HN hf1 hr1
          have HC := Lib.hid (text_one w2 b1 r g _ _ t1 l2 nest H.out.rd H.out.box HE1.out)
          have HQ3 : Hid (Q = Pol.textsK A (match Pol.take (t1 :: l2) 2 with | .error e => .error e | .ok (x, m) => if Pol.is m 4 [44] = true then (match Pol.texts j m.tail with | .error e => .error e | .ok (L, m) => .ok (x.s :: L, m)) else .ok ([x.s], m))) := by
            show _ = _
            rw [HQ2.out, Pol.texts]
            congr 1
          obtain ⟨q, hq⟩ : ∃ q, Pol.take (t1 :: l2) 2 = q := ⟨_, rfl⟩
          rw [hq] at HC HQ3
          have Hq := Lib.hid hq
          clear hq HQ2
          go_wp2_with fail
          refine HC.out.mono ?_
          intro e w3 hd
          cases q with
          | error pe =>
            obtain ⟨pp, pn⟩ := pe
            have HQ4 : Hid (Q = .error (pp, pn)) := HQ3.out
            have hs : Stops [r] _ pp pn e w3 := hd
            obtain ⟨b9, hb9, rfl, hrow9, hf9⟩ := hs.from (bs := [r]) H.out.f (fun y hy => .inl (by simpa using hy))
            show _
            exact ⟨rfl, by rw [HQ4.out]; exact TextsDone.stop ⟨b9, hb9, rfl, hrow9, hf9⟩⟩
          | ok xm =>
            obtain ⟨y, m⟩ := xm
            obtain ⟨rfl, hf3, o3, c3, hr3⟩ := hd
            have HEM : Hid (Ends m) := Pol.take_ends2 Hq.out HE1.out
            have hsh := Pol.take_len2 Hq.out
            have HQ4 : Hid (Q = if Pol.is m 4 [44] = true then Pol.textsK (A ++ [y.s]) (Pol.texts j m.tail) else .ok (A ++ [y.s], m)) := by
              show _ = _
              rw [HQ3.out]
              simp only []
              split
              · cases Pol.texts j m.tail with
                | error e => rfl
                | ok p => show Except.ok _ = Except.ok _; simp
              · rfl
            have hA9 := HA.out
            rw [List.length_cons] at hA9
            have H := Lib.hid (H.out.step hf3 hr3)
            have HA2 : Hid ((A ++ [y.s]).length + m.length ≤ 1000000) := by show _ ≤ _; rw [List.length_append]; simp; omega
            have hAl : A.length < 1000000000 := by omega
            have hw3 : w.heap.size ≤ w3.heap.size := H.out.f.size
            clear hf3 hr3 HC HQ3 hA9 hsh
            go_wp2_with (at_builtin; refine appTx rfl (.tmp 11) (.tmp 14) rfl w.heap.size _ _ A y.s rfl rfl H.out.own hw3 hAl ?_)
            intro g1 c1 w4 ho hg1 hgg
            have H := Lib.hid (H.out.grow ho hg1)
            clear ho hg1 hgg
            go_wp2_with fail
            go_roundg j
            case measure => omega
            case rel => exact ⟨_, _, _, A ++ [y.s], c1, g1, by omega, by simp, HQ4.out, HEM.out, by show TxSt _ _ _ _ _ _ _ _ _ _ _; rw [List.length_append]; exact H.out, HA2.out⟩
end Go.Proofs.YtgklmpooonnmiaaDoor

namespace Go.Proofs.YtgklmpooonnmiaaDoor
open Go.RowKit
/-- a slice of texts. -/
def SRep (w : World) (D : Nat → Prop) (v : Value) (A : List ByteArray) : Prop :=
  ∃ q c, v = .slice q A.length c ∧ A.length ≤ c ∧ c ≤ maxLen ∧ ∀ (j : Nat) (s : ByteArray), A[j]? = some s → ∃ g, q = some ⟨g, 0, none⟩ ∧ g < w.heap.size ∧ D g ∧ w.cell? ⟨g, j, none⟩ = some (.string s)
theorem SRep.fr {bs : List Nat} {w w' : World} {D : Nat → Prop} (hf : Fr bs w w') (hb : ∀ y ∈ bs, y < w.heap.size → ¬ D y) {v : Value} {A : List ByteArray} (h : SRep w D v A) : SRep w' D v A := by
  obtain ⟨q, c, hv, hc, hm, hr⟩ := h
  refine ⟨q, c, hv, hc, hm, fun j s hj => ?_⟩
  obtain ⟨g, hq, hg, hd, hcell⟩ := hr j s hj
  have hn : g ∉ bs := fun hm => hb g hm hg hd
  exact ⟨g, hq, Nat.lt_of_lt_of_le hg hf.size, hd, (hf.cell (p := ⟨g, _, none⟩) hg hn).trans hcell⟩
theorem SRep.mono {w : World} {D E : Nat → Prop} (hd : ∀ g, g < w.heap.size → D g → E g) {v : Value} {A : List ByteArray} (h : SRep w D v A) : SRep w E v A := by
  obtain ⟨q, c, hv, hc, hm, hr⟩ := h
  refine ⟨q, c, hv, hc, hm, fun j s hj => ?_⟩
  obtain ⟨g, hq, hg, hd', hcell⟩ := hr j s hj
  exact ⟨g, hq, hg, hd g hg hd', hcell⟩
theorem SRep.none_ (w : World) (D : Nat → Prop) : SRep w D (.slice none 0 0) [] := ⟨none, 0, rfl, Nat.le_refl _, by decide, fun j s hj => by simp at hj⟩
theorem SRep.own {w : World} {B : Nat} {v : Value} {A : List ByteArray} (h : w.ownsRow B 9 1 v A.length (strs A)) : SRep w (fun i => B ≤ i) v A := by
  rcases h.2 with ⟨hv, h0⟩ | ⟨g, cap, cur, hv, hb, hrow, h1, h2, h3, h4⟩
  · have : A = [] := List.eq_nil_of_length_eq_zero h0
    subst this
    rw [hv]; exact SRep.none_ _ _
  · refine ⟨some ⟨g, 0, none⟩, cap, hv, h1, h2, fun j s hj => ⟨g, rfl, row_lt hrow, hb, ?_⟩⟩
    have h9 : (strs A)[j]? = some (.string s) := by simp [strs, hj]
    rw [← h4, List.getElem?_take] at h9
    split at h9
    · rw [cell_of_row _ _ _ _ _ _ hrow]; simpa using h9
    · cases h9
/-- a slice of expressions: as the parts of one. -/
def LRep (w : World) (D : Nat → Prop) (v : Value) (L : List Ex) : Prop := Rep w D [.int .i64 0, .string ⟨#[]⟩, .int .i64 0, v, .int .i64 0] (.mk 0 ⟨#[]⟩ 0 L 0)
/-- a rule's cells. -/
def RuRep (w : World) (D : Nat → Prop) (cs : List Value) (u : Ru) : Prop :=
  ∃ v1 v2, cs = [.bool u.deny, v1, v2, .int .i64 u.p] ∧ SRep w D v1 u.scopes ∧ LRep w D v2 u.when_
theorem RuRep.fr {bs : List Nat} {w w' : World} {D : Nat → Prop} (hf : Fr bs w w') (hb : ∀ y ∈ bs, y < w.heap.size → ¬ D y) {cs : List Value} {u : Ru} (h : RuRep w D cs u) : RuRep w' D cs u := by
  obtain ⟨v1, v2, h1, h2, h3⟩ := h
  exact ⟨v1, v2, h1, h2.fr hf hb, Rep.fr hf hb h3⟩
theorem RuRep.mono {w : World} {D E : Nat → Prop} (hd : ∀ g, g < w.heap.size → D g → E g) {cs : List Value} {u : Ru} (h : RuRep w D cs u) : RuRep w E cs u := by
  obtain ⟨v1, v2, h1, h2, h3⟩ := h
  exact ⟨v1, v2, h1, h2.mono hd, Rep.mono hd h3⟩
/-- a rule was read. -/
def RuleDone (r g nest : Nat) (w : World) (q : Pol.PR Ru) (e : Ending) (w' : World) : Prop :=
  match q with
  | .ok (u, m) => ∃ cs, e = .returned (.agg cs.toArray) ∧ RuRep w' (fun i => w.heap.size ≤ i) cs u ∧ Fr [r] w w' ∧ ∃ o c, Rd w' r g o c m nest
  | .error (p, n) => Stops [r] w p n e w'
theorem RuleDone.stop {r g nest : Nat} {w w' : World} {p n : Int} {e : Ending} (h : Stops [r] w p n e w') : RuleDone r g nest w (.error (p, n)) e w' := h
/-- rule's own blocks. -/
structure RuSt (w : World) (r g o c : Nat) (l : List TI) (b1 : Nat) (d : Bool) (v1 v2 : Value) (p : Int) (S : List ByteArray) (L : List Ex) (W : World) : Prop where
  rd : Rd W r g o c l 0
  box : W.heap[b1]? = some (.cells #[.pointer (some ⟨r, 0, none⟩)] 94 (0, 0))
  res : W.heap[b1 + 1]? = some (.cells #[.bool false, .slice none 0 0, .slice none 0 0, .int .i64 0] 78 (0, 0))
  ex : W.heap[b1 + 1 + 1]? = some (.cells #[.bool d, v1, v2, .int .i64 p] 78 (0, 0))
  s1 : SRep W (fun i => w.heap.size ≤ i ∧ i ≠ b1 + 1 ∧ i ≠ b1 + 1 + 1) v1 S
  s2 : LRep W (fun i => w.heap.size ≤ i ∧ i ≠ b1 + 1 ∧ i ≠ b1 + 1 + 1) v2 L
  f : Fr [r] w W
  rl : r < w.heap.size
  gl : g < w.heap.size
  bw : b1 = w.heap.size
theorem RuSt.step {w : World} {r g o c : Nat} {l : List TI} {b1 : Nat} {d : Bool} {v1 v2 : Value} {p : Int} {S : List ByteArray} {L : List Ex} {W W' : World} {o' c' : Nat} {l' : List TI} (h : RuSt w r g o c l b1 d v1 v2 p S L W) (hf : Fr [r] W W') (hr : Rd W' r g o' c' l' 0) : RuSt w r g o' c' l' b1 d v1 v2 p S L W' := by
  have h1 := h.rl; have h2 := h.bw
  exact ⟨hr, hf.row h.box (by simp; omega), hf.row h.res (by simp; omega), hf.row h.ex (by simp; omega), h.s1.fr hf (fun y hy _ => by simp at hy; omega), Rep.fr hf (fun y hy _ => by simp at hy; omega) h.s2, h.f.trans hf (fun y hy => .inl hy), h1, h.gl, h2⟩
theorem alloc3r (w : World) (a b c : Obj) : (((w.alloc a).alloc b).alloc c).heap[w.heap.size]? = some a ∧ (((w.alloc a).alloc b).alloc c).heap[w.heap.size + 1]? = some b ∧ (((w.alloc a).alloc b).alloc c).heap[w.heap.size + 1 + 1]? = some c := alloc3 w a b c
theorem RuSt.deny {w : World} {r g o c : Nat} {l : List TI} {b1 : Nat} {d : Bool} {v1 v2 : Value} {p : Int} {S : List ByteArray} {L : List Ex} {W : World} (h : RuSt w r g o c l b1 d v1 v2 p S L W) (i : Nat) (u : Value) (cs : Array Value)
    (hcs : (#[Value.bool d, v1, v2, Value.int .i64 p]).setIfInBounds i u = cs) :
    Rd (W.setCell ⟨b1 + 1 + 1, i, none⟩ u) r g o c l 0 ∧ (W.setCell ⟨b1 + 1 + 1, i, none⟩ u).heap[b1]? = some (.cells #[.pointer (some ⟨r, 0, none⟩)] 94 (0, 0)) ∧ (W.setCell ⟨b1 + 1 + 1, i, none⟩ u).heap[b1 + 1]? = some (.cells #[.bool false, .slice none 0 0, .slice none 0 0, .int .i64 0] 78 (0, 0))
      ∧ (W.setCell ⟨b1 + 1 + 1, i, none⟩ u).heap[b1 + 1 + 1]? = some (.cells cs 78 (0, 0)) ∧ SRep (W.setCell ⟨b1 + 1 + 1, i, none⟩ u) (fun i => w.heap.size ≤ i ∧ i ≠ b1 + 1 ∧ i ≠ b1 + 1 + 1) v1 S ∧ LRep (W.setCell ⟨b1 + 1 + 1, i, none⟩ u) (fun i => w.heap.size ≤ i ∧ i ≠ b1 + 1 ∧ i ≠ b1 + 1 + 1) v2 L ∧ Fr [r] w (W.setCell ⟨b1 + 1 + 1, i, none⟩ u) := by
  have h1 := h.rl; have h2 := h.bw; have h3 := h.gl
  have hf : Fr [b1 + 1 + 1] W (W.setCell ⟨b1 + 1 + 1, i, none⟩ u) := (Fr.refl _ _).setCell (p := ⟨b1 + 1 + 1, i, none⟩) (.inl (by simp)) _
  refine ⟨h.rd.fr hf (by simp; omega) (by simp; omega), hf.row h.box (by simp; omega), hf.row h.res (by simp), by rw [← hcs]; exact heap_set_row h.ex i u, h.s1.fr hf (fun y hy _ => by simp at hy; rw [hy]; simp), Rep.fr hf (fun y hy _ => by simp at hy; rw [hy]; simp) h.s2, h.f.trans hf (fun y hy => .inr (by simp at hy; omega))⟩
theorem heap_four {W : World} {b : Nat} {u0 u1 u2 u3 : Value} {t : TypeId} (h : W.heap[b]? = some (.cells #[u0, u1, u2, u3] t (0, 0))) (v0 v1 v2 v3 : Value) :
    ((((W.setCell ⟨b, 0, none⟩ v0).setCell ⟨b, 1, none⟩ v1).setCell ⟨b, 2, none⟩ v2).setCell ⟨b, 3, none⟩ v3).heap[b]? = some (.cells #[v0, v1, v2, v3] t (0, 0)) :=
  heap_set_row (heap_set_row (heap_set_row (heap_set_row h 0 v0) 1 v1) 2 v2) 3 v3
theorem fr_four (W : World) (b : Nat) (v0 v1 v2 v3 : Value) : Fr [b] W ((((W.setCell ⟨b, 0, none⟩ v0).setCell ⟨b, 1, none⟩ v1).setCell ⟨b, 2, none⟩ v2).setCell ⟨b, 3, none⟩ v3) :=
  ((((Fr.refl [b] W).setCell (p := ⟨b, 0, none⟩) (.inl (by simp)) v0).setCell (p := ⟨b, 1, none⟩) (.inl (by simp)) v1).setCell (p := ⟨b, 2, none⟩) (.inl (by simp)) v2).setCell (p := ⟨b, 3, none⟩) (.inl (by simp)) v3
theorem RuSt.denied {w : World} {r g o c : Nat} {l : List TI} {b1 : Nat} {v1 v2 : Value} {p : Int} {S : List ByteArray} {L : List Ex} {W : World} (h : RuSt w r g o c l b1 false v1 v2 p S L W) : RuSt w r g o c l b1 true v1 v2 p S L (W.setCell ⟨b1 + 1 + 1, 0, none⟩ (.bool true)) := by
  obtain ⟨g1, g2, g3, g4, g5, g6, g7⟩ := h.deny 0 (.bool true) #[.bool true, v1, v2, .int .i64 p] rfl
  exact ⟨g1, g2, g3, g4, g5, g6, g7, h.rl, h.gl, h.bw⟩
theorem Pol.texts_ends {f : Nat} : ∀ {l m : List TI} {A : List ByteArray}, Pol.texts f l = .ok (A, m) → Ends l → Ends m := by
  induction f with
  | zero => intro l m A h; simp [Pol.texts] at h
  | succ f ih =>
    intro l m A h hE
    rw [Pol.texts] at h
    split at h
    · cases h
    · rename_i t m1 ht
      have h1 := Pol.take_ends2 ht hE
      split at h
      · rename_i hi
        split at h
        · cases h
        · rename_i L m2 hr
          cases h
          exact ih hr (Pol.is_tail hi (by decide) h1)
      · cases h
        exact h1
/-- scopes, in a new row. -/
theorem RuSt.scope {w : World} {r g o c : Nat} {l : List TI} {b1 : Nat} {d : Bool} {v1 v2 : Value} {p : Int} {S : List ByteArray} {L : List Ex} {W : World} {B : Nat} (h : RuSt w r g o c l b1 d v1 v2 p S L W) {v : Value} {A : List ByteArray} (ho : W.ownsRow B 9 1 v A.length (strs A)) (hX : b1 + 1 + 1 < B) :
    RuSt w r g o c l b1 d v v2 p A L (W.setCell ⟨b1 + 1 + 1, 1, none⟩ v) := by
  have h1 := h.rl; have h2 := h.bw; have h3 := h.gl
  obtain ⟨g1, g2, g3, g4, g5, g6, g7⟩ := h.deny 1 v #[.bool d, v, v2, .int .i64 p] rfl
  have hf : Fr [b1 + 1 + 1] W (W.setCell ⟨b1 + 1 + 1, 1, none⟩ v) := (Fr.refl _ _).setCell (p := ⟨b1 + 1 + 1, 1, none⟩) (.inl (by simp)) _
  exact ⟨g1, g2, g3, g4, ((SRep.own ho).mono (E := fun i => w.heap.size ≤ i ∧ i ≠ b1 + 1 ∧ i ≠ b1 + 1 + 1) (fun i hi h => by have h9 : B ≤ i := h; exact ⟨by omega, by omega, by omega⟩)).fr hf (fun y hy _ => by simp at hy; rw [hy]; simp), g6, g7, h1, h3, h2⟩
/-- a condition more, in a new row. -/
theorem RuSt.when {w : World} {r g o c : Nat} {l : List TI} {b1 : Nat} {d : Bool} {v1 v2 : Value} {p : Int} {S : List ByteArray} {W W0 : World} (h : RuSt w r g o c l b1 d v1 v2 p S [] W) {cs : List Value} {x : Ex} (hx : Rep W (fun i => W0.heap.size ≤ i) cs x) (hw : w.heap.size ≤ W.heap.size) (hX : b1 + 1 + 1 < W0.heap.size) (hw0 : w.heap.size ≤ W0.heap.size) :
    RuSt w r g o c l b1 d v1 (.slice (some ⟨W.heap.size, 0, none⟩) 1 1) p S [x] ((W.setCell ⟨b1 + 1 + 1, 2, none⟩ (.slice (some ⟨W.heap.size, 0, none⟩) 1 1)).alloc (.cells cs.toArray 80)) := by
  have h1 := h.rl; have h2 := h.bw; have h3 := h.gl
  have hXW := row_lt h.ex
  obtain ⟨g1, g2, g3, g4, g5, g6, g7⟩ := h.deny 2 (.slice (some ⟨W.heap.size, 0, none⟩) 1 1) #[.bool d, v1, .slice (some ⟨W.heap.size, 0, none⟩) 1 1, .int .i64 p] rfl
  have hf : Fr [b1 + 1 + 1] W (W.setCell ⟨b1 + 1 + 1, 2, none⟩ (.slice (some ⟨W.heap.size, 0, none⟩) 1 1)) := (Fr.refl _ _).setCell (p := ⟨b1 + 1 + 1, 2, none⟩) (.inl (by simp)) _
  have hA : Fr [] (W.setCell ⟨b1 + 1 + 1, 2, none⟩ (.slice (some ⟨W.heap.size, 0, none⟩) 1 1)) ((W.setCell ⟨b1 + 1 + 1, 2, none⟩ (.slice (some ⟨W.heap.size, 0, none⟩) 1 1)).alloc (.cells cs.toArray 80)) := (Fr.refl _ _).alloc _
  have hsz : (W.setCell ⟨b1 + 1 + 1, 2, none⟩ (.slice (some ⟨W.heap.size, 0, none⟩) 1 1)).heap.size = W.heap.size := by simp [World.setCell]
  have hrow := heap_alloc_last (W.setCell ⟨b1 + 1 + 1, 2, none⟩ (.slice (some ⟨W.heap.size, 0, none⟩) 1 1)) (.cells cs.toArray 80)
  rw [hsz] at hrow
  refine ⟨g1.fr hA (by simp) (by simp), hA.row g2 (by simp), hA.row g3 (by simp), hA.row g4 (by simp), g5.fr hA (fun y hy _ => by cases hy), ?_, g7.trans0 hA, h1, h3, h2⟩
  have hx2 := ((hx.mono (E := fun i => w.heap.size ≤ i ∧ i ≠ b1 + 1 ∧ i ≠ b1 + 1 + 1) (fun i hi h => by have h9 : W0.heap.size ≤ i := h; exact ⟨by omega, by omega, by omega⟩)).fr hf (fun y hy _ => by simp at hy; rw [hy]; simp)).fr hA (fun y hy _ => by cases hy)
  refine Rep.of_row 0 ⟨#[]⟩ 0 0 [x] [cs] W.heap.size ⟨hw, by omega, by omega⟩ 80 1 rfl (by simpa using hrow) (Nat.le_refl _) (by decide) ?_
  intro i y cs' hi hc
  have h0 : i = 0 := by have := (List.getElem?_eq_some_iff.1 hi).1; simp at this; exact this
  subst h0
  simp at hi hc
  subst hi hc
  exact hx2
/-- the rule, laid into the result's block. -/
theorem RuSt.give {w : World} {r g o c : Nat} {l : List TI} {b1 : Nat} {d : Bool} {v1 v2 : Value} {p : Int} {S : List ByteArray} {L : List Ex} {W : World} (h : RuSt w r g o c l b1 d v1 v2 p S L W) :
    RuleDone r g 0 w (.ok (⟨d, S, L, p⟩, l)) (.returned (.agg #[.bool d, v1, v2, .int .i64 p])) ((((W.setCell ⟨b1 + 1, 0, none⟩ (.bool d)).setCell ⟨b1 + 1, 1, none⟩ v1).setCell ⟨b1 + 1, 2, none⟩ v2).setCell ⟨b1 + 1, 3, none⟩ (.int .i64 p)) := by
  have h1 := h.rl; have h2 := h.bw; have h3 := h.gl
  have hf := fr_four W (b1 + 1) (.bool d) v1 v2 (.int .i64 p)
  exact ⟨[.bool d, v1, v2, .int .i64 p], rfl, ⟨v1, v2, rfl, (h.s1.fr hf (fun y hy _ => by simp at hy; rw [hy]; simp)).mono (fun i _ h => h.1), Rep.mono (fun i _ h => h.1) (Rep.fr hf (fun y hy _ => by simp at hy; rw [hy]; simp) h.s2)⟩, h.f.trans hf (fun y hy => .inr (by simp at hy; omega)), _, _, h.rd.fr hf (by simp; omega) (by simp; omega)⟩
set_option maxHeartbeats 4000000 in
set_option maxRecDepth 100000 in
theorem rule_none (w : World) (r g o c : Nat) (t : TI) (m : List TI) (h : Rd w r g o c (t :: m) 0) (hE : Ends (t :: m)) (h1 : Pol.is (t :: m) 1 [112, 101, 114, 109, 105, 116] = false) (h2 : Pol.is (t :: m) 1 [100, 101, 110, 121] = false) :
    Calls Tryd.prog 57 #[.pointer (some ⟨r, 0, none⟩)] w (RuleDone r g 0 w (.error (t.p, 120))) := by
  have H1 := Lib.hid h1
  have H2 := Lib.hid h2
  clear h1 h2
  obtain ⟨tk, ts, tn, tp⟩ := t
  have hR := Lib.hid h
  obtain ⟨a0, a1, a2, a3⟩ := h.tk 0 _ rfl
  have hr := row_lt h.row
  have c0 := h.c0
  have hlc := h.lc
  have hm := h.cm
  have hg := h.gl
  have hne := h.ne
  rw [List.length_cons] at c0 hlc
  unfold maxLen at hm
  simp only [Nat.mul_zero, Nat.add_zero] at a0 a1 a2 a3
  have HE := Lib.hid hE
  clear h hE
  go_enter Tryd.func57, Tryd.ntmps57
  go_upto_region 3 with fail
  refine wp_fresh (fun W => RuSt w r g o c (⟨tk, ts, tn, tp⟩ :: m) w.heap.size false (.slice none 0 0) (.slice none 0 0) tp [] [] W) ?_ ?_
  · have hal := alloc3r w (.cells #[.pointer (some ⟨r, 0, none⟩)] 94) (.cells #[.bool false, .slice none 0 0, .slice none 0 0, .int .i64 0] 78) (.cells #[.bool false, .slice none 0 0, .slice none 0 0, .int .i64 tp] 78)
    have hF : Fr [] w _ := (((Fr.refl [] w).alloc (.cells #[.pointer (some ⟨r, 0, none⟩)] 94)).alloc (.cells #[.bool false, .slice none 0 0, .slice none 0 0, .int .i64 0] 78)).alloc (.cells #[.bool false, .slice none 0 0, .slice none 0 0, .int .i64 tp] 78)
    have h1 := hR.out.fr hF (by simp) (by simp)
    exact ⟨h1, hal.1, hal.2.1, hal.2.2, SRep.none_ _ _, Rep.leaf _ _ _ _ _ _, hF.sub, hr, hg, rfl⟩
  intro W h1
  clear a0 a1 a2 a3 c0 hlc hR hm
  obtain ⟨b, hb⟩ : ∃ b, w.heap.size = b := ⟨_, rfl⟩
  rw [hb] at h1 ⊢
  have H := Lib.hid h1
  have HB := Lib.hid hb
  clear h1 hb hne
  have hrW := row_lt H.out.rd.row
  have hXW := row_lt H.out.ex
  have hbb : b < W.heap.size := row_lt H.out.box
  have xf : ∀ i, W.frozen? ⟨b, i, none⟩ = false := fun i => Lib.frozen_of_heap H.out.box i
  have x0 : W.cell? ⟨b, 0, none⟩ = some (.pointer (some ⟨r, 0, none⟩)) := by rw [Lib.cell_of_heap H.out.box]; rfl
  have HN1 := Lib.hid (rd_took_no W r g _ _ _ _ 0 1 ⟨#[112, 101, 114, 109, 105, 116]⟩ H.out.rd H1.out)
  have HN2 := Lib.hid (rd_took_no W r g _ _ _ _ 0 1 ⟨#[100, 101, 110, 121]⟩ H.out.rd H2.out)
  have HN3 := Lib.hid (rd_fail W r g _ _ _ _ 0 120 H.out.rd)
  go_wp2_with fail
  refine HN1.out.mono ?_
  rintro e w2 ⟨rfl, rfl⟩
  go_wp2_with fail
  refine HN2.out.mono ?_
  rintro e w2 ⟨rfl, rfl⟩
  go_wp2_with fail
  refine HN3.out.mono ?_
  intro e w1 hs
  obtain ⟨b9, hb9, rfl, hrow9, hf9⟩ := hs.from (bs := [r]) H.out.f (fun y hy => by cases hy)
  show _
  exact ⟨rfl, RuleDone.stop ⟨b9, hb9, rfl, hrow9, hf9⟩⟩
set_option maxHeartbeats 4000000 in
set_option maxRecDepth 100000 in
theorem rule_permit (f : Nat) (w : World) (r g o c : Nat) (t : TI) (m : List TI) (h : Rd w r g o c (t :: m) 0) (hE : Ends (t :: m)) (h1 : Pol.is (t :: m) 1 [112, 101, 114, 109, 105, 116] = true) (Q : Pol.PR Ru) (hQ : Q = Pol.ruleTail (f + 1) false t.p m) (hfed : Pol.Fed Q) :
    Calls Tryd.prog 57 #[.pointer (some ⟨r, 0, none⟩)] w (RuleDone r g 0 w Q) := by
  have H1 := Lib.hid h1
  have HQ := Lib.hid hQ
  have HFD := Lib.hid hfed
  have hEm : Ends m := Pol.is_tail h1 (by decide) hE
  have HEm := Lib.hid hEm
  have hml := hEm.pos
  clear h1 hQ hfed hEm
  obtain ⟨tk, ts, tn, tp⟩ := t
  have hR := Lib.hid h
  obtain ⟨a0, a1, a2, a3⟩ := h.tk 0 _ rfl
  have hr := row_lt h.row
  have c0 := h.c0
  have hlc := h.lc
  have hm := h.cm
  have hg := h.gl
  have hne := h.ne
  rw [List.length_cons] at c0 hlc
  unfold maxLen at hm
  simp only [Nat.mul_zero, Nat.add_zero] at a0 a1 a2 a3
  have HE := Lib.hid hE
  clear h hE
  go_enter Tryd.func57, Tryd.ntmps57
  go_upto_region 3 with fail
  refine wp_fresh (fun W => RuSt w r g o c (⟨tk, ts, tn, tp⟩ :: m) w.heap.size false (.slice none 0 0) (.slice none 0 0) tp [] [] W) ?_ ?_
  · have hal := alloc3r w (.cells #[.pointer (some ⟨r, 0, none⟩)] 94) (.cells #[.bool false, .slice none 0 0, .slice none 0 0, .int .i64 0] 78) (.cells #[.bool false, .slice none 0 0, .slice none 0 0, .int .i64 tp] 78)
    have hF : Fr [] w _ := (((Fr.refl [] w).alloc (.cells #[.pointer (some ⟨r, 0, none⟩)] 94)).alloc (.cells #[.bool false, .slice none 0 0, .slice none 0 0, .int .i64 0] 78)).alloc (.cells #[.bool false, .slice none 0 0, .slice none 0 0, .int .i64 tp] 78)
    have h1 := hR.out.fr hF (by simp) (by simp)
    exact ⟨h1, hal.1, hal.2.1, hal.2.2, SRep.none_ _ _, Rep.leaf _ _ _ _ _ _, hF.sub, hr, hg, rfl⟩
  intro W h1
  clear a0 a1 a2 a3 c0 hlc hR hm
  obtain ⟨b, hb⟩ : ∃ b, w.heap.size = b := ⟨_, rfl⟩
  rw [hb] at h1 ⊢
  have H := Lib.hid h1
  have HB := Lib.hid hb
  clear h1 hb hne
  have hrW := row_lt H.out.rd.row
  have hXW := row_lt H.out.ex
  have hbb : b < W.heap.size := row_lt H.out.box
  have xf : ∀ i, W.frozen? ⟨b, i, none⟩ = false := fun i => Lib.frozen_of_heap H.out.box i
  have x0 : W.cell? ⟨b, 0, none⟩ = some (.pointer (some ⟨r, 0, none⟩)) := by rw [Lib.cell_of_heap H.out.box]; rfl
  have HNX := Lib.hid (rd_took_yes W r g _ _ _ _ 0 1 ⟨#[112, 101, 114, 109, 105, 116]⟩ H.out.rd hml H1.out)
  go_wp2_with fail
  refine HNX.out.mono ?_
  rintro e W2 ⟨rfl, hf1, hr1⟩
  have H := Lib.hid (H.out.step hf1 hr1)
  clear HNX hf1 hr1 x0 xf hrW hXW hbb hml
  obtain ⟨t4, l4, rfl⟩ := HEm.out.cons
  have hrW := row_lt H.out.rd.row
  have hXW := row_lt H.out.ex
  have hbb : b < W2.heap.size := row_lt H.out.box
  have xf : ∀ i, W2.frozen? ⟨b, i, none⟩ = false := fun i => Lib.frozen_of_heap H.out.box i
  have x0 : W2.cell? ⟨b, 0, none⟩ = some (.pointer (some ⟨r, 0, none⟩)) := by rw [Lib.cell_of_heap H.out.box]; rfl
  cases hp4 : Pol.is (t4 :: l4) 1 [115, 99, 111, 112, 101] with
  | false =>
    have HQ5 : Hid (Q = Pol.ruleWhen (f + 1) false tp [] (t4 :: l4)) := by show _ = _; rw [HQ.out]; unfold Pol.ruleTail Pol.scopesOf; rw [if_neg (by rw [hp4]; simp)]
    have HP4 := Lib.hid hp4
    clear hp4 HQ
    have HNX := Lib.hid (rd_took_no W2 r g _ _ _ _ 0 1 ⟨#[115, 99, 111, 112, 101]⟩ H.out.rd HP4.out)
    go_wp2_with fail
    refine HNX.out.mono ?_
    rintro e w2 ⟨rfl, rfl⟩
    clear HNX x0 xf hrW hXW hbb
    have HE5 := HEm
    obtain ⟨m5, hm5⟩ : ∃ m5, t4 :: l4 = m5 := ⟨_, rfl⟩
    rw [hm5] at H HQ5 HE5
    clear hm5 HEm HP4
    obtain ⟨t5, l5, rfl⟩ := HE5.out.cons
    have hrW := row_lt H.out.rd.row
    have hXW := row_lt H.out.ex
    have hbb : b < W2.heap.size := row_lt H.out.box
    have xf : ∀ i, W2.frozen? ⟨b, i, none⟩ = false := fun i => Lib.frozen_of_heap H.out.box i
    have x0 : W2.cell? ⟨b, 0, none⟩ = some (.pointer (some ⟨r, 0, none⟩)) := by rw [Lib.cell_of_heap H.out.box]; rfl
    cases hp5 : Pol.is (t5 :: l5) 1 [119, 104, 101, 110] with
    | false =>
      have HQ : Hid (Q = match Pol.must (t5 :: l5) [59] with | .error e => .error e | .ok (_, m) => .ok (⟨false, [], [], tp⟩, m)) := by show _ = _; rw [HQ5.out]; unfold Pol.ruleWhen Pol.whenOf; rw [if_neg (by rw [hp5]; simp)]; simp only []; rcases Pol.must (t5 :: l5) [59] with e | ⟨u, m⟩ <;> rfl
      have HP5 := Lib.hid hp5
      clear hp5
      have HNX := Lib.hid (rd_took_no W2 r g _ _ _ _ 0 1 ⟨#[119, 104, 101, 110]⟩ H.out.rd HP5.out)
      go_wp2_with fail
      refine HNX.out.mono ?_
      rintro e w2 ⟨rfl, rfl⟩
      clear HNX hrW hXW hbb x0 xf
      have HE9 := HE5
      obtain ⟨m9, hm9⟩ : ∃ m9, t5 :: l5 = m9 := ⟨_, rfl⟩
      rw [hm9] at H HQ HE9
      clear hm9 HE5 HP5 HQ5
      obtain ⟨t9, l9, rfl⟩ := HE9.out.cons
      have hrW := row_lt H.out.rd.row
      have hXW := row_lt H.out.ex
      have hbb : b < W2.heap.size := row_lt H.out.box
      have xf : ∀ i, W2.frozen? ⟨b, i, none⟩ = false := fun i => Lib.frozen_of_heap H.out.box i
      have x0 : W2.cell? ⟨b, 0, none⟩ = some (.pointer (some ⟨r, 0, none⟩)) := by rw [Lib.cell_of_heap H.out.box]; rfl
      cases hp9 : Pol.is (t9 :: l9) 4 [59] with
      | false =>
        have HPP : Hid (Q = .error (t9.p, 120)) := by show _ = _; rw [HQ.out]; simp only [must_neg hp9]
        have HP0 := Lib.hid hp9
        clear hp9
        have HNX := Lib.hid (rd_must_no W2 r g _ _ t9 l9 0 ⟨#[59]⟩ H.out.rd HP0.out)
        go_wp2_with fail
        refine HNX.out.mono ?_
        intro e w1 hs
        obtain ⟨b9, hb9, rfl, hrow9, hf9⟩ := hs.from (bs := [r]) H.out.f (fun y hy => .inl (by simpa using hy))
        show _
        exact ⟨rfl, by rw [HPP.out]; exact RuleDone.stop ⟨b9, hb9, rfl, hrow9, hf9⟩⟩
      | true =>
        have HPP : Hid (Q = .ok (⟨false, [], [], tp⟩, l9)) := by show _ = _; rw [HQ.out]; simp only [must_pos hp9]
        have hl9 : 0 < l9.length := (Pol.is_tail hp9 (by decide) HE9.out : Ends l9).pos
        have HP0 := Lib.hid hp9
        clear hp9
        have HNX := Lib.hid (rd_must_yes W2 r g _ _ t9 l9 0 ⟨#[59]⟩ H.out.rd hl9 HP0.out)
        go_wp2_with fail
        refine HNX.out.mono ?_
        rintro e W9 ⟨rfl, hf1, hr1⟩
        have H := Lib.hid (H.out.step hf1 hr1)
        clear HNX hf1 hr1 hl9 x0 xf hrW hXW hbb
        have hXW := row_lt H.out.ex
        have ef : ∀ i, W9.frozen? ⟨(b + 1 + 1), i, none⟩ = false := fun i => Lib.frozen_of_heap H.out.ex i
        have e0 : W9.cell? ⟨(b + 1 + 1), 0, none⟩ = some (.bool false) := by rw [Lib.cell_of_heap H.out.ex]; rfl
        have e1 : W9.cell? ⟨(b + 1 + 1), 1, none⟩ = some (.slice none 0 0) := by rw [Lib.cell_of_heap H.out.ex]; rfl
        have e2 : W9.cell? ⟨(b + 1 + 1), 2, none⟩ = some (.slice none 0 0) := by rw [Lib.cell_of_heap H.out.ex]; rfl
        have e3 : W9.cell? ⟨(b + 1 + 1), 3, none⟩ = some (.int .i64 tp) := by rw [Lib.cell_of_heap H.out.ex]; rfl
        have zf : ∀ i, W9.frozen? ⟨(b + 1), i, none⟩ = false := fun i => Lib.frozen_of_heap H.out.res i
        have z0 : W9.cell? ⟨(b + 1), 0, none⟩ = some (.bool false) := by rw [Lib.cell_of_heap H.out.res]; rfl
        have z1 : W9.cell? ⟨(b + 1), 1, none⟩ = some (.slice none 0 0) := by rw [Lib.cell_of_heap H.out.res]; rfl
        have z2 : W9.cell? ⟨(b + 1), 2, none⟩ = some (.slice none 0 0) := by rw [Lib.cell_of_heap H.out.res]; rfl
        have z3 : W9.cell? ⟨(b + 1), 3, none⟩ = some (.int .i64 0) := by rw [Lib.cell_of_heap H.out.res]; rfl
        have HG := Lib.hid H.out.give
        have HT := Lib.hid (heap_four H.out.res (.bool false) (.slice none 0 0) (.slice none 0 0) (.int .i64 tp))
        go_wp2_with fail
        refine bodyPost_ret (v := .agg #[.bool false, .slice none 0 0, .slice none 0 0, .int .i64 tp]) (results_cell_row rfl _ _ (b + 1) _ _ (0, 0) _ rfl HT.out Tryd.underlying78 rfl (by kernel_rfl)) rfl ?_
        rw [HPP.out]
        exact HG.out
    | true =>
      have hE6 : Ends l5 := Pol.is_tail hp5 (by decide) HE5.out
      have hl5 := hE6.pos
      have HQ6 : Hid (Q = match Pol.or_ (f + 1) 0 l5 with | .error e => .error e | .ok (x, m) => (match Pol.must m [59] with | .error e => .error e | .ok (_, m) => .ok (⟨false, [], [x], tp⟩, m))) := by
        show _ = _; rw [HQ5.out]; unfold Pol.ruleWhen Pol.whenOf; rw [if_pos hp5, List.tail_cons]
        rcases Pol.or_ (f + 1) 0 l5 with e | ⟨x, m⟩ <;> rfl
      have HP5 := Lib.hid hp5
      have HE6 := Lib.hid hE6
      clear hp5 hE6
      have HNX := Lib.hid (rd_took_yes W2 r g _ _ _ _ 0 1 ⟨#[119, 104, 101, 110]⟩ H.out.rd hl5 HP5.out)
      go_wp2_with fail
      refine HNX.out.mono ?_
      rintro e W6 ⟨rfl, hf1, hr1⟩
      have H := Lib.hid (H.out.step hf1 hr1)
      clear HNX hf1 hr1 hl5 x0 xf hrW hXW hbb
      have HOR := Lib.hid (or_reads_all (f + 1) W6 r g _ _ l5 0 H.out.rd HE6.out (by omega) (row_lt H.out.rd.row) (fun p hp => HFD.out p (by rw [HQ6.out, hp])))
      obtain ⟨q, hq⟩ : ∃ q, Pol.or_ (f + 1) 0 l5 = q := ⟨_, rfl⟩
      rw [hq] at HOR HQ6
      have Hq := Lib.hid hq
      clear hq
      have hrW := row_lt H.out.rd.row
      have hXW := row_lt H.out.ex
      have hbb : b < W6.heap.size := row_lt H.out.box
      have xf : ∀ i, W6.frozen? ⟨b, i, none⟩ = false := fun i => Lib.frozen_of_heap H.out.box i
      have x0 : W6.cell? ⟨b, 0, none⟩ = some (.pointer (some ⟨r, 0, none⟩)) := by rw [Lib.cell_of_heap H.out.box]; rfl
      go_wp2_with fail
      refine HOR.out.mono ?_
      intro e W7 hd
      cases q with
      | error pe =>
        obtain ⟨pp, pn⟩ := pe
        have HPP : Hid (Q = .error (pp, pn)) := HQ6.out
        have hs : Stops [r] W6 pp pn e W7 := hd
        obtain ⟨b9, hb9, rfl, hrow9, hf9⟩ := hs.from (bs := [r]) H.out.f (fun y hy => .inl (by simpa using hy))
        show _
        exact ⟨rfl, by rw [HPP.out]; exact RuleDone.stop ⟨b9, hb9, rfl, hrow9, hf9⟩⟩
      | ok xm =>
        obtain ⟨x, m9⟩ := xm
        obtain ⟨cs, rfl, hrep, hf3, o3, c3, hr3⟩ := hd
        obtain ⟨op0, s9, n9, q9, k9, c9, p9, rfl⟩ := hrep.form
        have HQ : Hid (Q = match Pol.must m9 [59] with | .error e => .error e | .ok (_, m) => .ok (⟨false, [], [x], tp⟩, m)) := HQ6.out
        have hE9 : Ends m9 := (Pol.all_keep (f + 1)).2.2.2.2.2.2.2 0 l5 x m9 Hq.out HE6.out
        have HE9 := Lib.hid hE9
        have HX := Lib.hid (H.out.step hf3 hr3 |>.when hrep (Nat.le_trans H.out.f.size hf3.size) (row_lt H.out.ex) (Nat.le_trans H.out.f.size (Nat.le_refl _)))
        have H := Lib.hid (H.out.step hf3 hr3)
        clear hrep hf3 hr3 hE9 HOR HQ6 x0 xf hrW hXW hbb
        have hrW := row_lt H.out.rd.row
        have hXW := row_lt H.out.ex
        have hbb : b < W7.heap.size := row_lt H.out.box
        have xf : ∀ i, W7.frozen? ⟨b, i, none⟩ = false := fun i => Lib.frozen_of_heap H.out.box i
        have x0 : W7.cell? ⟨b, 0, none⟩ = some (.pointer (some ⟨r, 0, none⟩)) := by rw [Lib.cell_of_heap H.out.box]; rfl
        have ef : ∀ i, W7.frozen? ⟨(b + 1 + 1), i, none⟩ = false := fun i => Lib.frozen_of_heap H.out.ex i
        have e0 : W7.cell? ⟨(b + 1 + 1), 0, none⟩ = some (.bool false) := by rw [Lib.cell_of_heap H.out.ex]; rfl
        have e1 : W7.cell? ⟨(b + 1 + 1), 1, none⟩ = some (.slice none 0 0) := by rw [Lib.cell_of_heap H.out.ex]; rfl
        have e2 : W7.cell? ⟨(b + 1 + 1), 2, none⟩ = some (.slice none 0 0) := by rw [Lib.cell_of_heap H.out.ex]; rfl
        have e3 : W7.cell? ⟨(b + 1 + 1), 3, none⟩ = some (.int .i64 tp) := by rw [Lib.cell_of_heap H.out.ex]; rfl
        go_upto_region 10 with fail
        refine wp_fresh (fun U => RuSt w r g o3 c3 m9 b false (.slice none 0 0) (.slice (some ⟨W7.heap.size, 0, none⟩) 1 1) tp [] [x] U) HX.out ?_
        intro U hu
        have H := Lib.hid hu
        clear hu HX e0 e1 e2 e3 ef hrW hXW hbb
        obtain ⟨t9, l9, rfl⟩ := HE9.out.cons
        have hrW := row_lt H.out.rd.row
        have hXW := row_lt H.out.ex
        have hbb : b < U.heap.size := row_lt H.out.box
        have xf : ∀ i, U.frozen? ⟨b, i, none⟩ = false := fun i => Lib.frozen_of_heap H.out.box i
        have x0 : U.cell? ⟨b, 0, none⟩ = some (.pointer (some ⟨r, 0, none⟩)) := by rw [Lib.cell_of_heap H.out.box]; rfl
        cases hp9 : Pol.is (t9 :: l9) 4 [59] with
        | false =>
          have HPP : Hid (Q = .error (t9.p, 120)) := by show _ = _; rw [HQ.out]; simp only [must_neg hp9]
          have HP0 := Lib.hid hp9
          clear hp9
          have HNX := Lib.hid (rd_must_no U r g _ _ t9 l9 0 ⟨#[59]⟩ H.out.rd HP0.out)
          go_wp2_with fail
          refine HNX.out.mono ?_
          intro e w1 hs
          obtain ⟨b9, hb9, rfl, hrow9, hf9⟩ := hs.from (bs := [r]) H.out.f (fun y hy => .inl (by simpa using hy))
          show _
          exact ⟨rfl, by rw [HPP.out]; exact RuleDone.stop ⟨b9, hb9, rfl, hrow9, hf9⟩⟩
        | true =>
          have HPP : Hid (Q = .ok (⟨false, [], [x], tp⟩, l9)) := by show _ = _; rw [HQ.out]; simp only [must_pos hp9]
          have hl9 : 0 < l9.length := (Pol.is_tail hp9 (by decide) HE9.out : Ends l9).pos
          have HP0 := Lib.hid hp9
          clear hp9
          have HNX := Lib.hid (rd_must_yes U r g _ _ t9 l9 0 ⟨#[59]⟩ H.out.rd hl9 HP0.out)
          go_wp2_with fail
          refine HNX.out.mono ?_
          rintro e W9 ⟨rfl, hf1, hr1⟩
          have H := Lib.hid (H.out.step hf1 hr1)
          clear HNX hf1 hr1 hl9 x0 xf hrW hXW hbb
          have hXW := row_lt H.out.ex
          have ef : ∀ i, W9.frozen? ⟨(b + 1 + 1), i, none⟩ = false := fun i => Lib.frozen_of_heap H.out.ex i
          have e0 : W9.cell? ⟨(b + 1 + 1), 0, none⟩ = some (.bool false) := by rw [Lib.cell_of_heap H.out.ex]; rfl
          have e1 : W9.cell? ⟨(b + 1 + 1), 1, none⟩ = some (.slice none 0 0) := by rw [Lib.cell_of_heap H.out.ex]; rfl
          have e2 : W9.cell? ⟨(b + 1 + 1), 2, none⟩ = some (.slice (some ⟨W7.heap.size, 0, none⟩) 1 1) := by rw [Lib.cell_of_heap H.out.ex]; rfl
          have e3 : W9.cell? ⟨(b + 1 + 1), 3, none⟩ = some (.int .i64 tp) := by rw [Lib.cell_of_heap H.out.ex]; rfl
          have zf : ∀ i, W9.frozen? ⟨(b + 1), i, none⟩ = false := fun i => Lib.frozen_of_heap H.out.res i
          have z0 : W9.cell? ⟨(b + 1), 0, none⟩ = some (.bool false) := by rw [Lib.cell_of_heap H.out.res]; rfl
          have z1 : W9.cell? ⟨(b + 1), 1, none⟩ = some (.slice none 0 0) := by rw [Lib.cell_of_heap H.out.res]; rfl
          have z2 : W9.cell? ⟨(b + 1), 2, none⟩ = some (.slice none 0 0) := by rw [Lib.cell_of_heap H.out.res]; rfl
          have z3 : W9.cell? ⟨(b + 1), 3, none⟩ = some (.int .i64 0) := by rw [Lib.cell_of_heap H.out.res]; rfl
          have HG := Lib.hid H.out.give
          have HT := Lib.hid (heap_four H.out.res (.bool false) (.slice none 0 0) (.slice (some ⟨W7.heap.size, 0, none⟩) 1 1) (.int .i64 tp))
          go_wp2_with fail
          refine bodyPost_ret (v := .agg #[.bool false, .slice none 0 0, .slice (some ⟨W7.heap.size, 0, none⟩) 1 1, .int .i64 tp]) (results_cell_row rfl _ _ (b + 1) _ _ (0, 0) _ rfl HT.out Tryd.underlying78 rfl (by kernel_rfl)) rfl ?_
          rw [HPP.out]
          exact HG.out
  | true =>
    have hE4 : Ends l4 := Pol.is_tail hp4 (by decide) HEm.out
    have hl4 := hE4.pos
    have HP4 := Lib.hid hp4
    have HE4 := Lib.hid hE4
    have HQ4 : Hid (Q = match Pol.texts (f + 1) l4 with | .error e => .error e | .ok (S, m) => Pol.ruleWhen (f + 1) false tp S m) := by show _ = _; rw [HQ.out]; unfold Pol.ruleTail Pol.scopesOf; rw [if_pos hp4, List.tail_cons]; rcases Pol.texts (f + 1) l4 with e | ⟨S, m⟩ <;> rfl
    clear hp4 hE4 HQ
    have HNX := Lib.hid (rd_took_yes W2 r g _ _ _ _ 0 1 ⟨#[115, 99, 111, 112, 101]⟩ H.out.rd hl4 HP4.out)
    go_wp2_with fail
    refine HNX.out.mono ?_
    rintro e W3 ⟨rfl, hf1, hr1⟩
    have H := Lib.hid (H.out.step hf1 hr1)
    clear HNX hf1 hr1 hl4 x0 xf hrW hXW hbb HEm
    have HTX := Lib.hid (texts_read f W3 b r g _ _ l4 0 H.out.rd H.out.box (by have := H.out.bw; have := H.out.rl; omega) HE4.out (fun p hp => HFD.out p (by rw [HQ4.out, hp])))
    obtain ⟨q, hq⟩ : ∃ q, Pol.texts (f + 1) l4 = q := ⟨_, rfl⟩
    rw [hq] at HTX HQ4
    have Hq := Lib.hid hq
    clear hq
    have hmf : ∀ fn first cap w, (Instr.makeFunc fn first cap).run Tryd.prog w = .ok (.func fn first cap) w := fun _ _ _ _ => rfl
    have hrW := row_lt H.out.rd.row
    have hXW := row_lt H.out.ex
    have hbb : b < W3.heap.size := row_lt H.out.box
    have xf : ∀ i, W3.frozen? ⟨b, i, none⟩ = false := fun i => Lib.frozen_of_heap H.out.box i
    have x0 : W3.cell? ⟨b, 0, none⟩ = some (.pointer (some ⟨r, 0, none⟩)) := by rw [Lib.cell_of_heap H.out.box]; rfl
    go_wp2_with fail
    refine HTX.out.mono ?_
    intro e W4 hd
    cases q with
    | error pe =>
      obtain ⟨pp, pn⟩ := pe
      have HPP : Hid (Q = .error (pp, pn)) := HQ4.out
      have hs : Stops [r] W3 pp pn e W4 := hd
      obtain ⟨b9, hb9, rfl, hrow9, hf9⟩ := hs.from (bs := [r]) H.out.f (fun y hy => .inl (by simpa using hy))
      show _
      exact ⟨rfl, by rw [HPP.out]; exact RuleDone.stop ⟨b9, hb9, rfl, hrow9, hf9⟩⟩
    | ok xm =>
      obtain ⟨A, m5⟩ := xm
      obtain ⟨v, rfl, hown, hf3, o5, c5, hr3⟩ := hd
      obtain ⟨qa, qc, rfl⟩ := own_form hown
      have HQ5 : Hid (Q = Pol.ruleWhen (f + 1) false tp A m5) := HQ4.out
      have hE5 : Ends m5 := Pol.texts_ends Hq.out HE4.out
      have HE5 := Lib.hid hE5
      have HX := Lib.hid ((H.out.step hf3 hr3).scope hown (row_lt H.out.ex))
      have H := Lib.hid (H.out.step hf3 hr3)
      clear hown hf3 hr3 hE5 HTX HQ4 x0 xf hrW hXW hbb HE4
      have hrW := row_lt H.out.rd.row
      have hXW := row_lt H.out.ex
      have hbb : b < W4.heap.size := row_lt H.out.box
      have xf : ∀ i, W4.frozen? ⟨b, i, none⟩ = false := fun i => Lib.frozen_of_heap H.out.box i
      have x0 : W4.cell? ⟨b, 0, none⟩ = some (.pointer (some ⟨r, 0, none⟩)) := by rw [Lib.cell_of_heap H.out.box]; rfl
      have ef : ∀ i, W4.frozen? ⟨(b + 1 + 1), i, none⟩ = false := fun i => Lib.frozen_of_heap H.out.ex i
      have e0 : W4.cell? ⟨(b + 1 + 1), 0, none⟩ = some (.bool false) := by rw [Lib.cell_of_heap H.out.ex]; rfl
      have e1 : W4.cell? ⟨(b + 1 + 1), 1, none⟩ = some (.slice none 0 0) := by rw [Lib.cell_of_heap H.out.ex]; rfl
      have e2 : W4.cell? ⟨(b + 1 + 1), 2, none⟩ = some (.slice none 0 0) := by rw [Lib.cell_of_heap H.out.ex]; rfl
      have e3 : W4.cell? ⟨(b + 1 + 1), 3, none⟩ = some (.int .i64 tp) := by rw [Lib.cell_of_heap H.out.ex]; rfl
      go_upto_region 8 with fail
      refine wp_fresh (fun U => RuSt w r g o5 c5 m5 b false (.slice qa A.length qc) (.slice none 0 0) tp A [] U) HX.out ?_
      intro U hu
      have H := Lib.hid hu
      clear hu HX e0 e1 e2 e3 ef hrW hXW hbb x0 xf
      obtain ⟨t5, l5, rfl⟩ := HE5.out.cons
      have hrW := row_lt H.out.rd.row
      have hXW := row_lt H.out.ex
      have hbb : b < U.heap.size := row_lt H.out.box
      have xf : ∀ i, U.frozen? ⟨b, i, none⟩ = false := fun i => Lib.frozen_of_heap H.out.box i
      have x0 : U.cell? ⟨b, 0, none⟩ = some (.pointer (some ⟨r, 0, none⟩)) := by rw [Lib.cell_of_heap H.out.box]; rfl
      cases hp5 : Pol.is (t5 :: l5) 1 [119, 104, 101, 110] with
      | false =>
        have HQ : Hid (Q = match Pol.must (t5 :: l5) [59] with | .error e => .error e | .ok (_, m) => .ok (⟨false, A, [], tp⟩, m)) := by show _ = _; rw [HQ5.out]; unfold Pol.ruleWhen Pol.whenOf; rw [if_neg (by rw [hp5]; simp)]; simp only []; rcases Pol.must (t5 :: l5) [59] with e | ⟨u, m⟩ <;> rfl
        have HP5 := Lib.hid hp5
        clear hp5
        have HNX := Lib.hid (rd_took_no U r g _ _ _ _ 0 1 ⟨#[119, 104, 101, 110]⟩ H.out.rd HP5.out)
        go_wp2_with fail
        refine HNX.out.mono ?_
        rintro e w2 ⟨rfl, rfl⟩
        clear HNX hrW hXW hbb x0 xf
        have HE9 := HE5
        obtain ⟨m9, hm9⟩ : ∃ m9, t5 :: l5 = m9 := ⟨_, rfl⟩
        rw [hm9] at H HQ HE9
        clear hm9 HE5 HP5 HQ5
        obtain ⟨t9, l9, rfl⟩ := HE9.out.cons
        have hrW := row_lt H.out.rd.row
        have hXW := row_lt H.out.ex
        have hbb : b < U.heap.size := row_lt H.out.box
        have xf : ∀ i, U.frozen? ⟨b, i, none⟩ = false := fun i => Lib.frozen_of_heap H.out.box i
        have x0 : U.cell? ⟨b, 0, none⟩ = some (.pointer (some ⟨r, 0, none⟩)) := by rw [Lib.cell_of_heap H.out.box]; rfl
        cases hp9 : Pol.is (t9 :: l9) 4 [59] with
        | false =>
          have HPP : Hid (Q = .error (t9.p, 120)) := by show _ = _; rw [HQ.out]; simp only [must_neg hp9]
          have HP0 := Lib.hid hp9
          clear hp9
          have HNX := Lib.hid (rd_must_no U r g _ _ t9 l9 0 ⟨#[59]⟩ H.out.rd HP0.out)
          go_wp2_with fail
          refine HNX.out.mono ?_
          intro e w1 hs
          obtain ⟨b9, hb9, rfl, hrow9, hf9⟩ := hs.from (bs := [r]) H.out.f (fun y hy => .inl (by simpa using hy))
          show _
          exact ⟨rfl, by rw [HPP.out]; exact RuleDone.stop ⟨b9, hb9, rfl, hrow9, hf9⟩⟩
        | true =>
          have HPP : Hid (Q = .ok (⟨false, A, [], tp⟩, l9)) := by show _ = _; rw [HQ.out]; simp only [must_pos hp9]
          have hl9 : 0 < l9.length := (Pol.is_tail hp9 (by decide) HE9.out : Ends l9).pos
          have HP0 := Lib.hid hp9
          clear hp9
          have HNX := Lib.hid (rd_must_yes U r g _ _ t9 l9 0 ⟨#[59]⟩ H.out.rd hl9 HP0.out)
          go_wp2_with fail
          refine HNX.out.mono ?_
          rintro e W9 ⟨rfl, hf1, hr1⟩
          have H := Lib.hid (H.out.step hf1 hr1)
          clear HNX hf1 hr1 hl9 x0 xf hrW hXW hbb
          have hXW := row_lt H.out.ex
          have ef : ∀ i, W9.frozen? ⟨(b + 1 + 1), i, none⟩ = false := fun i => Lib.frozen_of_heap H.out.ex i
          have e0 : W9.cell? ⟨(b + 1 + 1), 0, none⟩ = some (.bool false) := by rw [Lib.cell_of_heap H.out.ex]; rfl
          have e1 : W9.cell? ⟨(b + 1 + 1), 1, none⟩ = some (.slice qa A.length qc) := by rw [Lib.cell_of_heap H.out.ex]; rfl
          have e2 : W9.cell? ⟨(b + 1 + 1), 2, none⟩ = some (.slice none 0 0) := by rw [Lib.cell_of_heap H.out.ex]; rfl
          have e3 : W9.cell? ⟨(b + 1 + 1), 3, none⟩ = some (.int .i64 tp) := by rw [Lib.cell_of_heap H.out.ex]; rfl
          have zf : ∀ i, W9.frozen? ⟨(b + 1), i, none⟩ = false := fun i => Lib.frozen_of_heap H.out.res i
          have z0 : W9.cell? ⟨(b + 1), 0, none⟩ = some (.bool false) := by rw [Lib.cell_of_heap H.out.res]; rfl
          have z1 : W9.cell? ⟨(b + 1), 1, none⟩ = some (.slice none 0 0) := by rw [Lib.cell_of_heap H.out.res]; rfl
          have z2 : W9.cell? ⟨(b + 1), 2, none⟩ = some (.slice none 0 0) := by rw [Lib.cell_of_heap H.out.res]; rfl
          have z3 : W9.cell? ⟨(b + 1), 3, none⟩ = some (.int .i64 0) := by rw [Lib.cell_of_heap H.out.res]; rfl
          have HG := Lib.hid H.out.give
          have HT := Lib.hid (heap_four H.out.res (.bool false) (.slice qa A.length qc) (.slice none 0 0) (.int .i64 tp))
          go_wp2_with fail
          refine bodyPost_ret (v := .agg #[.bool false, .slice qa A.length qc, .slice none 0 0, .int .i64 tp]) (results_cell_row rfl _ _ (b + 1) _ _ (0, 0) _ rfl HT.out Tryd.underlying78 rfl (by kernel_rfl)) rfl ?_
          rw [HPP.out]
          exact HG.out
      | true =>
        have hE6 : Ends l5 := Pol.is_tail hp5 (by decide) HE5.out
        have hl5 := hE6.pos
        have HQ6 : Hid (Q = match Pol.or_ (f + 1) 0 l5 with | .error e => .error e | .ok (x, m) => (match Pol.must m [59] with | .error e => .error e | .ok (_, m) => .ok (⟨false, A, [x], tp⟩, m))) := by
          show _ = _; rw [HQ5.out]; unfold Pol.ruleWhen Pol.whenOf; rw [if_pos hp5, List.tail_cons]
          rcases Pol.or_ (f + 1) 0 l5 with e | ⟨x, m⟩ <;> rfl
        have HP5 := Lib.hid hp5
        have HE6 := Lib.hid hE6
        clear hp5 hE6
        have HNX := Lib.hid (rd_took_yes U r g _ _ _ _ 0 1 ⟨#[119, 104, 101, 110]⟩ H.out.rd hl5 HP5.out)
        go_wp2_with fail
        refine HNX.out.mono ?_
        rintro e W6 ⟨rfl, hf1, hr1⟩
        have H := Lib.hid (H.out.step hf1 hr1)
        clear HNX hf1 hr1 hl5 x0 xf hrW hXW hbb
        have HOR := Lib.hid (or_reads_all (f + 1) W6 r g _ _ l5 0 H.out.rd HE6.out (by omega) (row_lt H.out.rd.row) (fun p hp => HFD.out p (by rw [HQ6.out, hp])))
        obtain ⟨q, hq⟩ : ∃ q, Pol.or_ (f + 1) 0 l5 = q := ⟨_, rfl⟩
        rw [hq] at HOR HQ6
        have Hq := Lib.hid hq
        clear hq
        have hrW := row_lt H.out.rd.row
        have hXW := row_lt H.out.ex
        have hbb : b < W6.heap.size := row_lt H.out.box
        have xf : ∀ i, W6.frozen? ⟨b, i, none⟩ = false := fun i => Lib.frozen_of_heap H.out.box i
        have x0 : W6.cell? ⟨b, 0, none⟩ = some (.pointer (some ⟨r, 0, none⟩)) := by rw [Lib.cell_of_heap H.out.box]; rfl
        go_wp2_with fail
        refine HOR.out.mono ?_
        intro e W7 hd
        cases q with
        | error pe =>
          obtain ⟨pp, pn⟩ := pe
          have HPP : Hid (Q = .error (pp, pn)) := HQ6.out
          have hs : Stops [r] W6 pp pn e W7 := hd
          obtain ⟨b9, hb9, rfl, hrow9, hf9⟩ := hs.from (bs := [r]) H.out.f (fun y hy => .inl (by simpa using hy))
          show _
          exact ⟨rfl, by rw [HPP.out]; exact RuleDone.stop ⟨b9, hb9, rfl, hrow9, hf9⟩⟩
        | ok xm =>
          obtain ⟨x, m9⟩ := xm
          obtain ⟨cs, rfl, hrep, hf3, o3, c3, hr3⟩ := hd
          obtain ⟨op0, s9, n9, q9, k9, c9, p9, rfl⟩ := hrep.form
          have HQ : Hid (Q = match Pol.must m9 [59] with | .error e => .error e | .ok (_, m) => .ok (⟨false, A, [x], tp⟩, m)) := HQ6.out
          have hE9 : Ends m9 := (Pol.all_keep (f + 1)).2.2.2.2.2.2.2 0 l5 x m9 Hq.out HE6.out
          have HE9 := Lib.hid hE9
          have HX := Lib.hid (H.out.step hf3 hr3 |>.when hrep (Nat.le_trans H.out.f.size hf3.size) (row_lt H.out.ex) (Nat.le_trans H.out.f.size (Nat.le_refl _)))
          have H := Lib.hid (H.out.step hf3 hr3)
          clear hrep hf3 hr3 hE9 HOR HQ6 x0 xf hrW hXW hbb
          have hrW := row_lt H.out.rd.row
          have hXW := row_lt H.out.ex
          have hbb : b < W7.heap.size := row_lt H.out.box
          have xf : ∀ i, W7.frozen? ⟨b, i, none⟩ = false := fun i => Lib.frozen_of_heap H.out.box i
          have x0 : W7.cell? ⟨b, 0, none⟩ = some (.pointer (some ⟨r, 0, none⟩)) := by rw [Lib.cell_of_heap H.out.box]; rfl
          have ef : ∀ i, W7.frozen? ⟨(b + 1 + 1), i, none⟩ = false := fun i => Lib.frozen_of_heap H.out.ex i
          have e0 : W7.cell? ⟨(b + 1 + 1), 0, none⟩ = some (.bool false) := by rw [Lib.cell_of_heap H.out.ex]; rfl
          have e1 : W7.cell? ⟨(b + 1 + 1), 1, none⟩ = some (.slice qa A.length qc) := by rw [Lib.cell_of_heap H.out.ex]; rfl
          have e2 : W7.cell? ⟨(b + 1 + 1), 2, none⟩ = some (.slice none 0 0) := by rw [Lib.cell_of_heap H.out.ex]; rfl
          have e3 : W7.cell? ⟨(b + 1 + 1), 3, none⟩ = some (.int .i64 tp) := by rw [Lib.cell_of_heap H.out.ex]; rfl
          go_upto_region 10 with fail
          refine wp_fresh (fun U => RuSt w r g o3 c3 m9 b false (.slice qa A.length qc) (.slice (some ⟨W7.heap.size, 0, none⟩) 1 1) tp A [x] U) HX.out ?_
          intro U hu
          have H := Lib.hid hu
          clear hu HX e0 e1 e2 e3 ef hrW hXW hbb
          obtain ⟨t9, l9, rfl⟩ := HE9.out.cons
          have hrW := row_lt H.out.rd.row
          have hXW := row_lt H.out.ex
          have hbb : b < U.heap.size := row_lt H.out.box
          have xf : ∀ i, U.frozen? ⟨b, i, none⟩ = false := fun i => Lib.frozen_of_heap H.out.box i
          have x0 : U.cell? ⟨b, 0, none⟩ = some (.pointer (some ⟨r, 0, none⟩)) := by rw [Lib.cell_of_heap H.out.box]; rfl
          cases hp9 : Pol.is (t9 :: l9) 4 [59] with
          | false =>
            have HPP : Hid (Q = .error (t9.p, 120)) := by show _ = _; rw [HQ.out]; simp only [must_neg hp9]
            have HP0 := Lib.hid hp9
            clear hp9
            have HNX := Lib.hid (rd_must_no U r g _ _ t9 l9 0 ⟨#[59]⟩ H.out.rd HP0.out)
            go_wp2_with fail
            refine HNX.out.mono ?_
            intro e w1 hs
            obtain ⟨b9, hb9, rfl, hrow9, hf9⟩ := hs.from (bs := [r]) H.out.f (fun y hy => .inl (by simpa using hy))
            show _
            exact ⟨rfl, by rw [HPP.out]; exact RuleDone.stop ⟨b9, hb9, rfl, hrow9, hf9⟩⟩
          | true =>
            have HPP : Hid (Q = .ok (⟨false, A, [x], tp⟩, l9)) := by show _ = _; rw [HQ.out]; simp only [must_pos hp9]
            have hl9 : 0 < l9.length := (Pol.is_tail hp9 (by decide) HE9.out : Ends l9).pos
            have HP0 := Lib.hid hp9
            clear hp9
            have HNX := Lib.hid (rd_must_yes U r g _ _ t9 l9 0 ⟨#[59]⟩ H.out.rd hl9 HP0.out)
            go_wp2_with fail
            refine HNX.out.mono ?_
            rintro e W9 ⟨rfl, hf1, hr1⟩
            have H := Lib.hid (H.out.step hf1 hr1)
            clear HNX hf1 hr1 hl9 x0 xf hrW hXW hbb
            have hXW := row_lt H.out.ex
            have ef : ∀ i, W9.frozen? ⟨(b + 1 + 1), i, none⟩ = false := fun i => Lib.frozen_of_heap H.out.ex i
            have e0 : W9.cell? ⟨(b + 1 + 1), 0, none⟩ = some (.bool false) := by rw [Lib.cell_of_heap H.out.ex]; rfl
            have e1 : W9.cell? ⟨(b + 1 + 1), 1, none⟩ = some (.slice qa A.length qc) := by rw [Lib.cell_of_heap H.out.ex]; rfl
            have e2 : W9.cell? ⟨(b + 1 + 1), 2, none⟩ = some (.slice (some ⟨W7.heap.size, 0, none⟩) 1 1) := by rw [Lib.cell_of_heap H.out.ex]; rfl
            have e3 : W9.cell? ⟨(b + 1 + 1), 3, none⟩ = some (.int .i64 tp) := by rw [Lib.cell_of_heap H.out.ex]; rfl
            have zf : ∀ i, W9.frozen? ⟨(b + 1), i, none⟩ = false := fun i => Lib.frozen_of_heap H.out.res i
            have z0 : W9.cell? ⟨(b + 1), 0, none⟩ = some (.bool false) := by rw [Lib.cell_of_heap H.out.res]; rfl
            have z1 : W9.cell? ⟨(b + 1), 1, none⟩ = some (.slice none 0 0) := by rw [Lib.cell_of_heap H.out.res]; rfl
            have z2 : W9.cell? ⟨(b + 1), 2, none⟩ = some (.slice none 0 0) := by rw [Lib.cell_of_heap H.out.res]; rfl
            have z3 : W9.cell? ⟨(b + 1), 3, none⟩ = some (.int .i64 0) := by rw [Lib.cell_of_heap H.out.res]; rfl
            have HG := Lib.hid H.out.give
            have HT := Lib.hid (heap_four H.out.res (.bool false) (.slice qa A.length qc) (.slice (some ⟨W7.heap.size, 0, none⟩) 1 1) (.int .i64 tp))
            go_wp2_with fail
            refine bodyPost_ret (v := .agg #[.bool false, .slice qa A.length qc, .slice (some ⟨W7.heap.size, 0, none⟩) 1 1, .int .i64 tp]) (results_cell_row rfl _ _ (b + 1) _ _ (0, 0) _ rfl HT.out Tryd.underlying78 rfl (by kernel_rfl)) rfl ?_
            rw [HPP.out]
            exact HG.out
set_option maxHeartbeats 4000000 in
set_option maxRecDepth 100000 in
theorem rule_deny (f : Nat) (w : World) (r g o c : Nat) (t : TI) (m : List TI) (h : Rd w r g o c (t :: m) 0) (hE : Ends (t :: m)) (h0 : Pol.is (t :: m) 1 [112, 101, 114, 109, 105, 116] = false) (h1 : Pol.is (t :: m) 1 [100, 101, 110, 121] = true) (Q : Pol.PR Ru) (hQ : Q = Pol.ruleTail (f + 1) true t.p m) (hfed : Pol.Fed Q) :
    Calls Tryd.prog 57 #[.pointer (some ⟨r, 0, none⟩)] w (RuleDone r g 0 w Q) := by
  have H1 := Lib.hid h1
  have H0 := Lib.hid h0
  have HQ := Lib.hid hQ
  have HFD := Lib.hid hfed
  have hEm : Ends m := Pol.is_tail h1 (by decide) hE
  have HEm := Lib.hid hEm
  have hml := hEm.pos
  clear h1 hQ hfed hEm h0
  obtain ⟨tk, ts, tn, tp⟩ := t
  have hR := Lib.hid h
  obtain ⟨a0, a1, a2, a3⟩ := h.tk 0 _ rfl
  have hr := row_lt h.row
  have c0 := h.c0
  have hlc := h.lc
  have hm := h.cm
  have hg := h.gl
  have hne := h.ne
  rw [List.length_cons] at c0 hlc
  unfold maxLen at hm
  simp only [Nat.mul_zero, Nat.add_zero] at a0 a1 a2 a3
  have HE := Lib.hid hE
  clear h hE
  go_enter Tryd.func57, Tryd.ntmps57
  go_upto_region 3 with fail
  refine wp_fresh (fun W => RuSt w r g o c (⟨tk, ts, tn, tp⟩ :: m) w.heap.size false (.slice none 0 0) (.slice none 0 0) tp [] [] W) ?_ ?_
  · have hal := alloc3r w (.cells #[.pointer (some ⟨r, 0, none⟩)] 94) (.cells #[.bool false, .slice none 0 0, .slice none 0 0, .int .i64 0] 78) (.cells #[.bool false, .slice none 0 0, .slice none 0 0, .int .i64 tp] 78)
    have hF : Fr [] w _ := (((Fr.refl [] w).alloc (.cells #[.pointer (some ⟨r, 0, none⟩)] 94)).alloc (.cells #[.bool false, .slice none 0 0, .slice none 0 0, .int .i64 0] 78)).alloc (.cells #[.bool false, .slice none 0 0, .slice none 0 0, .int .i64 tp] 78)
    have h1 := hR.out.fr hF (by simp) (by simp)
    exact ⟨h1, hal.1, hal.2.1, hal.2.2, SRep.none_ _ _, Rep.leaf _ _ _ _ _ _, hF.sub, hr, hg, rfl⟩
  intro W h1
  clear a0 a1 a2 a3 c0 hlc hR hm
  obtain ⟨b, hb⟩ : ∃ b, w.heap.size = b := ⟨_, rfl⟩
  rw [hb] at h1 ⊢
  have H := Lib.hid h1
  have HB := Lib.hid hb
  clear h1 hb hne
  have hrW := row_lt H.out.rd.row
  have hXW := row_lt H.out.ex
  have hbb : b < W.heap.size := row_lt H.out.box
  have xf : ∀ i, W.frozen? ⟨b, i, none⟩ = false := fun i => Lib.frozen_of_heap H.out.box i
  have x0 : W.cell? ⟨b, 0, none⟩ = some (.pointer (some ⟨r, 0, none⟩)) := by rw [Lib.cell_of_heap H.out.box]; rfl
  have HN0 := Lib.hid (rd_took_no W r g _ _ _ _ 0 1 ⟨#[112, 101, 114, 109, 105, 116]⟩ H.out.rd H0.out)
  have HNX := Lib.hid (rd_took_yes W r g _ _ _ _ 0 1 ⟨#[100, 101, 110, 121]⟩ H.out.rd hml H1.out)
  go_wp2_with fail
  refine HN0.out.mono ?_
  rintro e w2 ⟨rfl, rfl⟩
  go_wp2_with fail
  refine HNX.out.mono ?_
  rintro e W1 ⟨rfl, hf1, hr1⟩
  have H := Lib.hid (H.out.step hf1 hr1)
  clear HNX HN0 hf1 hr1 x0 xf hrW hXW hbb hml
  have hrW := row_lt H.out.rd.row
  have hXW := row_lt H.out.ex
  have hbb : b < W1.heap.size := row_lt H.out.box
  have xf : ∀ i, W1.frozen? ⟨b, i, none⟩ = false := fun i => Lib.frozen_of_heap H.out.box i
  have x0 : W1.cell? ⟨b, 0, none⟩ = some (.pointer (some ⟨r, 0, none⟩)) := by rw [Lib.cell_of_heap H.out.box]; rfl
  have ef : ∀ i, W1.frozen? ⟨(b + 1 + 1), i, none⟩ = false := fun i => Lib.frozen_of_heap H.out.ex i
  have e0 : W1.cell? ⟨(b + 1 + 1), 0, none⟩ = some (.bool false) := by rw [Lib.cell_of_heap H.out.ex]; rfl
  have e1 : W1.cell? ⟨(b + 1 + 1), 1, none⟩ = some (.slice none 0 0) := by rw [Lib.cell_of_heap H.out.ex]; rfl
  have e2 : W1.cell? ⟨(b + 1 + 1), 2, none⟩ = some (.slice none 0 0) := by rw [Lib.cell_of_heap H.out.ex]; rfl
  have e3 : W1.cell? ⟨(b + 1 + 1), 3, none⟩ = some (.int .i64 tp) := by rw [Lib.cell_of_heap H.out.ex]; rfl
  have HX : Hid (RuSt _ _ _ _ _ _ _ true _ _ _ _ _ _) := RuSt.denied H.out
  go_upto_region 6 with fail
  refine wp_fresh (fun U => RuSt w r g _ _ m b true (.slice none 0 0) (.slice none 0 0) tp [] [] U) HX.out ?_
  intro W2 hu
  have H := Lib.hid hu
  clear hu HX e0 e1 e2 e3 ef hrW hXW hbb x0 xf
  obtain ⟨t4, l4, rfl⟩ := HEm.out.cons
  have hrW := row_lt H.out.rd.row
  have hXW := row_lt H.out.ex
  have hbb : b < W2.heap.size := row_lt H.out.box
  have xf : ∀ i, W2.frozen? ⟨b, i, none⟩ = false := fun i => Lib.frozen_of_heap H.out.box i
  have x0 : W2.cell? ⟨b, 0, none⟩ = some (.pointer (some ⟨r, 0, none⟩)) := by rw [Lib.cell_of_heap H.out.box]; rfl
  cases hp4 : Pol.is (t4 :: l4) 1 [115, 99, 111, 112, 101] with
  | false =>
    have HQ5 : Hid (Q = Pol.ruleWhen (f + 1) true tp [] (t4 :: l4)) := by show _ = _; rw [HQ.out]; unfold Pol.ruleTail Pol.scopesOf; rw [if_neg (by rw [hp4]; simp)]
    have HP4 := Lib.hid hp4
    clear hp4 HQ
    have HNX := Lib.hid (rd_took_no W2 r g _ _ _ _ 0 1 ⟨#[115, 99, 111, 112, 101]⟩ H.out.rd HP4.out)
    go_wp2_with fail
    refine HNX.out.mono ?_
    rintro e w2 ⟨rfl, rfl⟩
    clear HNX x0 xf hrW hXW hbb
    have HE5 := HEm
    obtain ⟨m5, hm5⟩ : ∃ m5, t4 :: l4 = m5 := ⟨_, rfl⟩
    rw [hm5] at H HQ5 HE5
    clear hm5 HEm HP4
    obtain ⟨t5, l5, rfl⟩ := HE5.out.cons
    have hrW := row_lt H.out.rd.row
    have hXW := row_lt H.out.ex
    have hbb : b < W2.heap.size := row_lt H.out.box
    have xf : ∀ i, W2.frozen? ⟨b, i, none⟩ = false := fun i => Lib.frozen_of_heap H.out.box i
    have x0 : W2.cell? ⟨b, 0, none⟩ = some (.pointer (some ⟨r, 0, none⟩)) := by rw [Lib.cell_of_heap H.out.box]; rfl
    cases hp5 : Pol.is (t5 :: l5) 1 [119, 104, 101, 110] with
    | false =>
      have HQ : Hid (Q = match Pol.must (t5 :: l5) [59] with | .error e => .error e | .ok (_, m) => .ok (⟨true, [], [], tp⟩, m)) := by show _ = _; rw [HQ5.out]; unfold Pol.ruleWhen Pol.whenOf; rw [if_neg (by rw [hp5]; simp)]; simp only []; rcases Pol.must (t5 :: l5) [59] with e | ⟨u, m⟩ <;> rfl
      have HP5 := Lib.hid hp5
      clear hp5
      have HNX := Lib.hid (rd_took_no W2 r g _ _ _ _ 0 1 ⟨#[119, 104, 101, 110]⟩ H.out.rd HP5.out)
      go_wp2_with fail
      refine HNX.out.mono ?_
      rintro e w2 ⟨rfl, rfl⟩
      clear HNX hrW hXW hbb x0 xf
      have HE9 := HE5
      obtain ⟨m9, hm9⟩ : ∃ m9, t5 :: l5 = m9 := ⟨_, rfl⟩
      rw [hm9] at H HQ HE9
      clear hm9 HE5 HP5 HQ5
      obtain ⟨t9, l9, rfl⟩ := HE9.out.cons
      have hrW := row_lt H.out.rd.row
      have hXW := row_lt H.out.ex
      have hbb : b < W2.heap.size := row_lt H.out.box
      have xf : ∀ i, W2.frozen? ⟨b, i, none⟩ = false := fun i => Lib.frozen_of_heap H.out.box i
      have x0 : W2.cell? ⟨b, 0, none⟩ = some (.pointer (some ⟨r, 0, none⟩)) := by rw [Lib.cell_of_heap H.out.box]; rfl
      cases hp9 : Pol.is (t9 :: l9) 4 [59] with
      | false =>
        have HPP : Hid (Q = .error (t9.p, 120)) := by show _ = _; rw [HQ.out]; simp only [must_neg hp9]
        have HP0 := Lib.hid hp9
        clear hp9
        have HNX := Lib.hid (rd_must_no W2 r g _ _ t9 l9 0 ⟨#[59]⟩ H.out.rd HP0.out)
        go_wp2_with fail
        refine HNX.out.mono ?_
        intro e w1 hs
        obtain ⟨b9, hb9, rfl, hrow9, hf9⟩ := hs.from (bs := [r]) H.out.f (fun y hy => .inl (by simpa using hy))
        show _
        exact ⟨rfl, by rw [HPP.out]; exact RuleDone.stop ⟨b9, hb9, rfl, hrow9, hf9⟩⟩
      | true =>
        have HPP : Hid (Q = .ok (⟨true, [], [], tp⟩, l9)) := by show _ = _; rw [HQ.out]; simp only [must_pos hp9]
        have hl9 : 0 < l9.length := (Pol.is_tail hp9 (by decide) HE9.out : Ends l9).pos
        have HP0 := Lib.hid hp9
        clear hp9
        have HNX := Lib.hid (rd_must_yes W2 r g _ _ t9 l9 0 ⟨#[59]⟩ H.out.rd hl9 HP0.out)
        go_wp2_with fail
        refine HNX.out.mono ?_
        rintro e W9 ⟨rfl, hf1, hr1⟩
        have H := Lib.hid (H.out.step hf1 hr1)
        clear HNX hf1 hr1 hl9 x0 xf hrW hXW hbb
        have hXW := row_lt H.out.ex
        have ef : ∀ i, W9.frozen? ⟨(b + 1 + 1), i, none⟩ = false := fun i => Lib.frozen_of_heap H.out.ex i
        have e0 : W9.cell? ⟨(b + 1 + 1), 0, none⟩ = some (.bool true) := by rw [Lib.cell_of_heap H.out.ex]; rfl
        have e1 : W9.cell? ⟨(b + 1 + 1), 1, none⟩ = some (.slice none 0 0) := by rw [Lib.cell_of_heap H.out.ex]; rfl
        have e2 : W9.cell? ⟨(b + 1 + 1), 2, none⟩ = some (.slice none 0 0) := by rw [Lib.cell_of_heap H.out.ex]; rfl
        have e3 : W9.cell? ⟨(b + 1 + 1), 3, none⟩ = some (.int .i64 tp) := by rw [Lib.cell_of_heap H.out.ex]; rfl
        have zf : ∀ i, W9.frozen? ⟨(b + 1), i, none⟩ = false := fun i => Lib.frozen_of_heap H.out.res i
        have z0 : W9.cell? ⟨(b + 1), 0, none⟩ = some (.bool false) := by rw [Lib.cell_of_heap H.out.res]; rfl
        have z1 : W9.cell? ⟨(b + 1), 1, none⟩ = some (.slice none 0 0) := by rw [Lib.cell_of_heap H.out.res]; rfl
        have z2 : W9.cell? ⟨(b + 1), 2, none⟩ = some (.slice none 0 0) := by rw [Lib.cell_of_heap H.out.res]; rfl
        have z3 : W9.cell? ⟨(b + 1), 3, none⟩ = some (.int .i64 0) := by rw [Lib.cell_of_heap H.out.res]; rfl
        have HG := Lib.hid H.out.give
        have HT := Lib.hid (heap_four H.out.res (.bool true) (.slice none 0 0) (.slice none 0 0) (.int .i64 tp))
        go_wp2_with fail
        refine bodyPost_ret (v := .agg #[.bool true, .slice none 0 0, .slice none 0 0, .int .i64 tp]) (results_cell_row rfl _ _ (b + 1) _ _ (0, 0) _ rfl HT.out Tryd.underlying78 rfl (by kernel_rfl)) rfl ?_
        rw [HPP.out]
        exact HG.out
    | true =>
      have hE6 : Ends l5 := Pol.is_tail hp5 (by decide) HE5.out
      have hl5 := hE6.pos
      have HQ6 : Hid (Q = match Pol.or_ (f + 1) 0 l5 with | .error e => .error e | .ok (x, m) => (match Pol.must m [59] with | .error e => .error e | .ok (_, m) => .ok (⟨true, [], [x], tp⟩, m))) := by
        show _ = _; rw [HQ5.out]; unfold Pol.ruleWhen Pol.whenOf; rw [if_pos hp5, List.tail_cons]
        rcases Pol.or_ (f + 1) 0 l5 with e | ⟨x, m⟩ <;> rfl
      have HP5 := Lib.hid hp5
      have HE6 := Lib.hid hE6
      clear hp5 hE6
      have HNX := Lib.hid (rd_took_yes W2 r g _ _ _ _ 0 1 ⟨#[119, 104, 101, 110]⟩ H.out.rd hl5 HP5.out)
      go_wp2_with fail
      refine HNX.out.mono ?_
      rintro e W6 ⟨rfl, hf1, hr1⟩
      have H := Lib.hid (H.out.step hf1 hr1)
      clear HNX hf1 hr1 hl5 x0 xf hrW hXW hbb
      have HOR := Lib.hid (or_reads_all (f + 1) W6 r g _ _ l5 0 H.out.rd HE6.out (by omega) (row_lt H.out.rd.row) (fun p hp => HFD.out p (by rw [HQ6.out, hp])))
      obtain ⟨q, hq⟩ : ∃ q, Pol.or_ (f + 1) 0 l5 = q := ⟨_, rfl⟩
      rw [hq] at HOR HQ6
      have Hq := Lib.hid hq
      clear hq
      have hrW := row_lt H.out.rd.row
      have hXW := row_lt H.out.ex
      have hbb : b < W6.heap.size := row_lt H.out.box
      have xf : ∀ i, W6.frozen? ⟨b, i, none⟩ = false := fun i => Lib.frozen_of_heap H.out.box i
      have x0 : W6.cell? ⟨b, 0, none⟩ = some (.pointer (some ⟨r, 0, none⟩)) := by rw [Lib.cell_of_heap H.out.box]; rfl
      go_wp2_with fail
      refine HOR.out.mono ?_
      intro e W7 hd
      cases q with
      | error pe =>
        obtain ⟨pp, pn⟩ := pe
        have HPP : Hid (Q = .error (pp, pn)) := HQ6.out
        have hs : Stops [r] W6 pp pn e W7 := hd
        obtain ⟨b9, hb9, rfl, hrow9, hf9⟩ := hs.from (bs := [r]) H.out.f (fun y hy => .inl (by simpa using hy))
        show _
        exact ⟨rfl, by rw [HPP.out]; exact RuleDone.stop ⟨b9, hb9, rfl, hrow9, hf9⟩⟩
      | ok xm =>
        obtain ⟨x, m9⟩ := xm
        obtain ⟨cs, rfl, hrep, hf3, o3, c3, hr3⟩ := hd
        obtain ⟨op0, s9, n9, q9, k9, c9, p9, rfl⟩ := hrep.form
        have HQ : Hid (Q = match Pol.must m9 [59] with | .error e => .error e | .ok (_, m) => .ok (⟨true, [], [x], tp⟩, m)) := HQ6.out
        have hE9 : Ends m9 := (Pol.all_keep (f + 1)).2.2.2.2.2.2.2 0 l5 x m9 Hq.out HE6.out
        have HE9 := Lib.hid hE9
        have HX := Lib.hid (H.out.step hf3 hr3 |>.when hrep (Nat.le_trans H.out.f.size hf3.size) (row_lt H.out.ex) (Nat.le_trans H.out.f.size (Nat.le_refl _)))
        have H := Lib.hid (H.out.step hf3 hr3)
        clear hrep hf3 hr3 hE9 HOR HQ6 x0 xf hrW hXW hbb
        have hrW := row_lt H.out.rd.row
        have hXW := row_lt H.out.ex
        have hbb : b < W7.heap.size := row_lt H.out.box
        have xf : ∀ i, W7.frozen? ⟨b, i, none⟩ = false := fun i => Lib.frozen_of_heap H.out.box i
        have x0 : W7.cell? ⟨b, 0, none⟩ = some (.pointer (some ⟨r, 0, none⟩)) := by rw [Lib.cell_of_heap H.out.box]; rfl
        have ef : ∀ i, W7.frozen? ⟨(b + 1 + 1), i, none⟩ = false := fun i => Lib.frozen_of_heap H.out.ex i
        have e0 : W7.cell? ⟨(b + 1 + 1), 0, none⟩ = some (.bool true) := by rw [Lib.cell_of_heap H.out.ex]; rfl
        have e1 : W7.cell? ⟨(b + 1 + 1), 1, none⟩ = some (.slice none 0 0) := by rw [Lib.cell_of_heap H.out.ex]; rfl
        have e2 : W7.cell? ⟨(b + 1 + 1), 2, none⟩ = some (.slice none 0 0) := by rw [Lib.cell_of_heap H.out.ex]; rfl
        have e3 : W7.cell? ⟨(b + 1 + 1), 3, none⟩ = some (.int .i64 tp) := by rw [Lib.cell_of_heap H.out.ex]; rfl
        go_upto_region 10 with fail
        refine wp_fresh (fun U => RuSt w r g o3 c3 m9 b true (.slice none 0 0) (.slice (some ⟨W7.heap.size, 0, none⟩) 1 1) tp [] [x] U) HX.out ?_
        intro U hu
        have H := Lib.hid hu
        clear hu HX e0 e1 e2 e3 ef hrW hXW hbb
        obtain ⟨t9, l9, rfl⟩ := HE9.out.cons
        have hrW := row_lt H.out.rd.row
        have hXW := row_lt H.out.ex
        have hbb : b < U.heap.size := row_lt H.out.box
        have xf : ∀ i, U.frozen? ⟨b, i, none⟩ = false := fun i => Lib.frozen_of_heap H.out.box i
        have x0 : U.cell? ⟨b, 0, none⟩ = some (.pointer (some ⟨r, 0, none⟩)) := by rw [Lib.cell_of_heap H.out.box]; rfl
        cases hp9 : Pol.is (t9 :: l9) 4 [59] with
        | false =>
          have HPP : Hid (Q = .error (t9.p, 120)) := by show _ = _; rw [HQ.out]; simp only [must_neg hp9]
          have HP0 := Lib.hid hp9
          clear hp9
          have HNX := Lib.hid (rd_must_no U r g _ _ t9 l9 0 ⟨#[59]⟩ H.out.rd HP0.out)
          go_wp2_with fail
          refine HNX.out.mono ?_
          intro e w1 hs
          obtain ⟨b9, hb9, rfl, hrow9, hf9⟩ := hs.from (bs := [r]) H.out.f (fun y hy => .inl (by simpa using hy))
          show _
          exact ⟨rfl, by rw [HPP.out]; exact RuleDone.stop ⟨b9, hb9, rfl, hrow9, hf9⟩⟩
        | true =>
          have HPP : Hid (Q = .ok (⟨true, [], [x], tp⟩, l9)) := by show _ = _; rw [HQ.out]; simp only [must_pos hp9]
          have hl9 : 0 < l9.length := (Pol.is_tail hp9 (by decide) HE9.out : Ends l9).pos
          have HP0 := Lib.hid hp9
          clear hp9
          have HNX := Lib.hid (rd_must_yes U r g _ _ t9 l9 0 ⟨#[59]⟩ H.out.rd hl9 HP0.out)
          go_wp2_with fail
          refine HNX.out.mono ?_
          rintro e W9 ⟨rfl, hf1, hr1⟩
          have H := Lib.hid (H.out.step hf1 hr1)
          clear HNX hf1 hr1 hl9 x0 xf hrW hXW hbb
          have hXW := row_lt H.out.ex
          have ef : ∀ i, W9.frozen? ⟨(b + 1 + 1), i, none⟩ = false := fun i => Lib.frozen_of_heap H.out.ex i
          have e0 : W9.cell? ⟨(b + 1 + 1), 0, none⟩ = some (.bool true) := by rw [Lib.cell_of_heap H.out.ex]; rfl
          have e1 : W9.cell? ⟨(b + 1 + 1), 1, none⟩ = some (.slice none 0 0) := by rw [Lib.cell_of_heap H.out.ex]; rfl
          have e2 : W9.cell? ⟨(b + 1 + 1), 2, none⟩ = some (.slice (some ⟨W7.heap.size, 0, none⟩) 1 1) := by rw [Lib.cell_of_heap H.out.ex]; rfl
          have e3 : W9.cell? ⟨(b + 1 + 1), 3, none⟩ = some (.int .i64 tp) := by rw [Lib.cell_of_heap H.out.ex]; rfl
          have zf : ∀ i, W9.frozen? ⟨(b + 1), i, none⟩ = false := fun i => Lib.frozen_of_heap H.out.res i
          have z0 : W9.cell? ⟨(b + 1), 0, none⟩ = some (.bool false) := by rw [Lib.cell_of_heap H.out.res]; rfl
          have z1 : W9.cell? ⟨(b + 1), 1, none⟩ = some (.slice none 0 0) := by rw [Lib.cell_of_heap H.out.res]; rfl
          have z2 : W9.cell? ⟨(b + 1), 2, none⟩ = some (.slice none 0 0) := by rw [Lib.cell_of_heap H.out.res]; rfl
          have z3 : W9.cell? ⟨(b + 1), 3, none⟩ = some (.int .i64 0) := by rw [Lib.cell_of_heap H.out.res]; rfl
          have HG := Lib.hid H.out.give
          have HT := Lib.hid (heap_four H.out.res (.bool true) (.slice none 0 0) (.slice (some ⟨W7.heap.size, 0, none⟩) 1 1) (.int .i64 tp))
          go_wp2_with fail
          refine bodyPost_ret (v := .agg #[.bool true, .slice none 0 0, .slice (some ⟨W7.heap.size, 0, none⟩) 1 1, .int .i64 tp]) (results_cell_row rfl _ _ (b + 1) _ _ (0, 0) _ rfl HT.out Tryd.underlying78 rfl (by kernel_rfl)) rfl ?_
          rw [HPP.out]
          exact HG.out
  | true =>
    have hE4 : Ends l4 := Pol.is_tail hp4 (by decide) HEm.out
    have hl4 := hE4.pos
    have HP4 := Lib.hid hp4
    have HE4 := Lib.hid hE4
    have HQ4 : Hid (Q = match Pol.texts (f + 1) l4 with | .error e => .error e | .ok (S, m) => Pol.ruleWhen (f + 1) true tp S m) := by show _ = _; rw [HQ.out]; unfold Pol.ruleTail Pol.scopesOf; rw [if_pos hp4, List.tail_cons]; rcases Pol.texts (f + 1) l4 with e | ⟨S, m⟩ <;> rfl
    clear hp4 hE4 HQ
    have HNX := Lib.hid (rd_took_yes W2 r g _ _ _ _ 0 1 ⟨#[115, 99, 111, 112, 101]⟩ H.out.rd hl4 HP4.out)
    go_wp2_with fail
    refine HNX.out.mono ?_
    rintro e W3 ⟨rfl, hf1, hr1⟩
    have H := Lib.hid (H.out.step hf1 hr1)
    clear HNX hf1 hr1 hl4 x0 xf hrW hXW hbb HEm
    have HTX := Lib.hid (texts_read f W3 b r g _ _ l4 0 H.out.rd H.out.box (by have := H.out.bw; have := H.out.rl; omega) HE4.out (fun p hp => HFD.out p (by rw [HQ4.out, hp])))
    obtain ⟨q, hq⟩ : ∃ q, Pol.texts (f + 1) l4 = q := ⟨_, rfl⟩
    rw [hq] at HTX HQ4
    have Hq := Lib.hid hq
    clear hq
    have hmf : ∀ fn first cap w, (Instr.makeFunc fn first cap).run Tryd.prog w = .ok (.func fn first cap) w := fun _ _ _ _ => rfl
    have hrW := row_lt H.out.rd.row
    have hXW := row_lt H.out.ex
    have hbb : b < W3.heap.size := row_lt H.out.box
    have xf : ∀ i, W3.frozen? ⟨b, i, none⟩ = false := fun i => Lib.frozen_of_heap H.out.box i
    have x0 : W3.cell? ⟨b, 0, none⟩ = some (.pointer (some ⟨r, 0, none⟩)) := by rw [Lib.cell_of_heap H.out.box]; rfl
    go_wp2_with fail
    refine HTX.out.mono ?_
    intro e W4 hd
    cases q with
    | error pe =>
      obtain ⟨pp, pn⟩ := pe
      have HPP : Hid (Q = .error (pp, pn)) := HQ4.out
      have hs : Stops [r] W3 pp pn e W4 := hd
      obtain ⟨b9, hb9, rfl, hrow9, hf9⟩ := hs.from (bs := [r]) H.out.f (fun y hy => .inl (by simpa using hy))
      show _
      exact ⟨rfl, by rw [HPP.out]; exact RuleDone.stop ⟨b9, hb9, rfl, hrow9, hf9⟩⟩
    | ok xm =>
      obtain ⟨A, m5⟩ := xm
      obtain ⟨v, rfl, hown, hf3, o5, c5, hr3⟩ := hd
      obtain ⟨qa, qc, rfl⟩ := own_form hown
      have HQ5 : Hid (Q = Pol.ruleWhen (f + 1) true tp A m5) := HQ4.out
      have hE5 : Ends m5 := Pol.texts_ends Hq.out HE4.out
      have HE5 := Lib.hid hE5
      have HX := Lib.hid ((H.out.step hf3 hr3).scope hown (row_lt H.out.ex))
      have H := Lib.hid (H.out.step hf3 hr3)
      clear hown hf3 hr3 hE5 HTX HQ4 x0 xf hrW hXW hbb HE4
      have hrW := row_lt H.out.rd.row
      have hXW := row_lt H.out.ex
      have hbb : b < W4.heap.size := row_lt H.out.box
      have xf : ∀ i, W4.frozen? ⟨b, i, none⟩ = false := fun i => Lib.frozen_of_heap H.out.box i
      have x0 : W4.cell? ⟨b, 0, none⟩ = some (.pointer (some ⟨r, 0, none⟩)) := by rw [Lib.cell_of_heap H.out.box]; rfl
      have ef : ∀ i, W4.frozen? ⟨(b + 1 + 1), i, none⟩ = false := fun i => Lib.frozen_of_heap H.out.ex i
      have e0 : W4.cell? ⟨(b + 1 + 1), 0, none⟩ = some (.bool true) := by rw [Lib.cell_of_heap H.out.ex]; rfl
      have e1 : W4.cell? ⟨(b + 1 + 1), 1, none⟩ = some (.slice none 0 0) := by rw [Lib.cell_of_heap H.out.ex]; rfl
      have e2 : W4.cell? ⟨(b + 1 + 1), 2, none⟩ = some (.slice none 0 0) := by rw [Lib.cell_of_heap H.out.ex]; rfl
      have e3 : W4.cell? ⟨(b + 1 + 1), 3, none⟩ = some (.int .i64 tp) := by rw [Lib.cell_of_heap H.out.ex]; rfl
      go_upto_region 8 with fail
      refine wp_fresh (fun U => RuSt w r g o5 c5 m5 b true (.slice qa A.length qc) (.slice none 0 0) tp A [] U) HX.out ?_
      intro U hu
      have H := Lib.hid hu
      clear hu HX e0 e1 e2 e3 ef hrW hXW hbb x0 xf
      obtain ⟨t5, l5, rfl⟩ := HE5.out.cons
      have hrW := row_lt H.out.rd.row
      have hXW := row_lt H.out.ex
      have hbb : b < U.heap.size := row_lt H.out.box
      have xf : ∀ i, U.frozen? ⟨b, i, none⟩ = false := fun i => Lib.frozen_of_heap H.out.box i
      have x0 : U.cell? ⟨b, 0, none⟩ = some (.pointer (some ⟨r, 0, none⟩)) := by rw [Lib.cell_of_heap H.out.box]; rfl
      cases hp5 : Pol.is (t5 :: l5) 1 [119, 104, 101, 110] with
      | false =>
        have HQ : Hid (Q = match Pol.must (t5 :: l5) [59] with | .error e => .error e | .ok (_, m) => .ok (⟨true, A, [], tp⟩, m)) := by show _ = _; rw [HQ5.out]; unfold Pol.ruleWhen Pol.whenOf; rw [if_neg (by rw [hp5]; simp)]; simp only []; rcases Pol.must (t5 :: l5) [59] with e | ⟨u, m⟩ <;> rfl
        have HP5 := Lib.hid hp5
        clear hp5
        have HNX := Lib.hid (rd_took_no U r g _ _ _ _ 0 1 ⟨#[119, 104, 101, 110]⟩ H.out.rd HP5.out)
        go_wp2_with fail
        refine HNX.out.mono ?_
        rintro e w2 ⟨rfl, rfl⟩
        clear HNX hrW hXW hbb x0 xf
        have HE9 := HE5
        obtain ⟨m9, hm9⟩ : ∃ m9, t5 :: l5 = m9 := ⟨_, rfl⟩
        rw [hm9] at H HQ HE9
        clear hm9 HE5 HP5 HQ5
        obtain ⟨t9, l9, rfl⟩ := HE9.out.cons
        have hrW := row_lt H.out.rd.row
        have hXW := row_lt H.out.ex
        have hbb : b < U.heap.size := row_lt H.out.box
        have xf : ∀ i, U.frozen? ⟨b, i, none⟩ = false := fun i => Lib.frozen_of_heap H.out.box i
        have x0 : U.cell? ⟨b, 0, none⟩ = some (.pointer (some ⟨r, 0, none⟩)) := by rw [Lib.cell_of_heap H.out.box]; rfl
        cases hp9 : Pol.is (t9 :: l9) 4 [59] with
        | false =>
          have HPP : Hid (Q = .error (t9.p, 120)) := by show _ = _; rw [HQ.out]; simp only [must_neg hp9]
          have HP0 := Lib.hid hp9
          clear hp9
          have HNX := Lib.hid (rd_must_no U r g _ _ t9 l9 0 ⟨#[59]⟩ H.out.rd HP0.out)
          go_wp2_with fail
          refine HNX.out.mono ?_
          intro e w1 hs
          obtain ⟨b9, hb9, rfl, hrow9, hf9⟩ := hs.from (bs := [r]) H.out.f (fun y hy => .inl (by simpa using hy))
          show _
          exact ⟨rfl, by rw [HPP.out]; exact RuleDone.stop ⟨b9, hb9, rfl, hrow9, hf9⟩⟩
        | true =>
          have HPP : Hid (Q = .ok (⟨true, A, [], tp⟩, l9)) := by show _ = _; rw [HQ.out]; simp only [must_pos hp9]
          have hl9 : 0 < l9.length := (Pol.is_tail hp9 (by decide) HE9.out : Ends l9).pos
          have HP0 := Lib.hid hp9
          clear hp9
          have HNX := Lib.hid (rd_must_yes U r g _ _ t9 l9 0 ⟨#[59]⟩ H.out.rd hl9 HP0.out)
          go_wp2_with fail
          refine HNX.out.mono ?_
          rintro e W9 ⟨rfl, hf1, hr1⟩
          have H := Lib.hid (H.out.step hf1 hr1)
          clear HNX hf1 hr1 hl9 x0 xf hrW hXW hbb
          have hXW := row_lt H.out.ex
          have ef : ∀ i, W9.frozen? ⟨(b + 1 + 1), i, none⟩ = false := fun i => Lib.frozen_of_heap H.out.ex i
          have e0 : W9.cell? ⟨(b + 1 + 1), 0, none⟩ = some (.bool true) := by rw [Lib.cell_of_heap H.out.ex]; rfl
          have e1 : W9.cell? ⟨(b + 1 + 1), 1, none⟩ = some (.slice qa A.length qc) := by rw [Lib.cell_of_heap H.out.ex]; rfl
          have e2 : W9.cell? ⟨(b + 1 + 1), 2, none⟩ = some (.slice none 0 0) := by rw [Lib.cell_of_heap H.out.ex]; rfl
          have e3 : W9.cell? ⟨(b + 1 + 1), 3, none⟩ = some (.int .i64 tp) := by rw [Lib.cell_of_heap H.out.ex]; rfl
          have zf : ∀ i, W9.frozen? ⟨(b + 1), i, none⟩ = false := fun i => Lib.frozen_of_heap H.out.res i
          have z0 : W9.cell? ⟨(b + 1), 0, none⟩ = some (.bool false) := by rw [Lib.cell_of_heap H.out.res]; rfl
          have z1 : W9.cell? ⟨(b + 1), 1, none⟩ = some (.slice none 0 0) := by rw [Lib.cell_of_heap H.out.res]; rfl
          have z2 : W9.cell? ⟨(b + 1), 2, none⟩ = some (.slice none 0 0) := by rw [Lib.cell_of_heap H.out.res]; rfl
          have z3 : W9.cell? ⟨(b + 1), 3, none⟩ = some (.int .i64 0) := by rw [Lib.cell_of_heap H.out.res]; rfl
          have HG := Lib.hid H.out.give
          have HT := Lib.hid (heap_four H.out.res (.bool true) (.slice qa A.length qc) (.slice none 0 0) (.int .i64 tp))
          go_wp2_with fail
          refine bodyPost_ret (v := .agg #[.bool true, .slice qa A.length qc, .slice none 0 0, .int .i64 tp]) (results_cell_row rfl _ _ (b + 1) _ _ (0, 0) _ rfl HT.out Tryd.underlying78 rfl (by kernel_rfl)) rfl ?_
          rw [HPP.out]
          exact HG.out
      | true =>
        have hE6 : Ends l5 := Pol.is_tail hp5 (by decide) HE5.out
        have hl5 := hE6.pos
        have HQ6 : Hid (Q = match Pol.or_ (f + 1) 0 l5 with | .error e => .error e | .ok (x, m) => (match Pol.must m [59] with | .error e => .error e | .ok (_, m) => .ok (⟨true, A, [x], tp⟩, m))) := by
          show _ = _; rw [HQ5.out]; unfold Pol.ruleWhen Pol.whenOf; rw [if_pos hp5, List.tail_cons]
          rcases Pol.or_ (f + 1) 0 l5 with e | ⟨x, m⟩ <;> rfl
        have HP5 := Lib.hid hp5
        have HE6 := Lib.hid hE6
        clear hp5 hE6
        have HNX := Lib.hid (rd_took_yes U r g _ _ _ _ 0 1 ⟨#[119, 104, 101, 110]⟩ H.out.rd hl5 HP5.out)
        go_wp2_with fail
        refine HNX.out.mono ?_
        rintro e W6 ⟨rfl, hf1, hr1⟩
        have H := Lib.hid (H.out.step hf1 hr1)
        clear HNX hf1 hr1 hl5 x0 xf hrW hXW hbb
        have HOR := Lib.hid (or_reads_all (f + 1) W6 r g _ _ l5 0 H.out.rd HE6.out (by omega) (row_lt H.out.rd.row) (fun p hp => HFD.out p (by rw [HQ6.out, hp])))
        obtain ⟨q, hq⟩ : ∃ q, Pol.or_ (f + 1) 0 l5 = q := ⟨_, rfl⟩
        rw [hq] at HOR HQ6
        have Hq := Lib.hid hq
        clear hq
        have hrW := row_lt H.out.rd.row
        have hXW := row_lt H.out.ex
        have hbb : b < W6.heap.size := row_lt H.out.box
        have xf : ∀ i, W6.frozen? ⟨b, i, none⟩ = false := fun i => Lib.frozen_of_heap H.out.box i
        have x0 : W6.cell? ⟨b, 0, none⟩ = some (.pointer (some ⟨r, 0, none⟩)) := by rw [Lib.cell_of_heap H.out.box]; rfl
        go_wp2_with fail
        refine HOR.out.mono ?_
        intro e W7 hd
        cases q with
        | error pe =>
          obtain ⟨pp, pn⟩ := pe
          have HPP : Hid (Q = .error (pp, pn)) := HQ6.out
          have hs : Stops [r] W6 pp pn e W7 := hd
          obtain ⟨b9, hb9, rfl, hrow9, hf9⟩ := hs.from (bs := [r]) H.out.f (fun y hy => .inl (by simpa using hy))
          show _
          exact ⟨rfl, by rw [HPP.out]; exact RuleDone.stop ⟨b9, hb9, rfl, hrow9, hf9⟩⟩
        | ok xm =>
          obtain ⟨x, m9⟩ := xm
          obtain ⟨cs, rfl, hrep, hf3, o3, c3, hr3⟩ := hd
          obtain ⟨op0, s9, n9, q9, k9, c9, p9, rfl⟩ := hrep.form
          have HQ : Hid (Q = match Pol.must m9 [59] with | .error e => .error e | .ok (_, m) => .ok (⟨true, A, [x], tp⟩, m)) := HQ6.out
          have hE9 : Ends m9 := (Pol.all_keep (f + 1)).2.2.2.2.2.2.2 0 l5 x m9 Hq.out HE6.out
          have HE9 := Lib.hid hE9
          have HX := Lib.hid (H.out.step hf3 hr3 |>.when hrep (Nat.le_trans H.out.f.size hf3.size) (row_lt H.out.ex) (Nat.le_trans H.out.f.size (Nat.le_refl _)))
          have H := Lib.hid (H.out.step hf3 hr3)
          clear hrep hf3 hr3 hE9 HOR HQ6 x0 xf hrW hXW hbb
          have hrW := row_lt H.out.rd.row
          have hXW := row_lt H.out.ex
          have hbb : b < W7.heap.size := row_lt H.out.box
          have xf : ∀ i, W7.frozen? ⟨b, i, none⟩ = false := fun i => Lib.frozen_of_heap H.out.box i
          have x0 : W7.cell? ⟨b, 0, none⟩ = some (.pointer (some ⟨r, 0, none⟩)) := by rw [Lib.cell_of_heap H.out.box]; rfl
          have ef : ∀ i, W7.frozen? ⟨(b + 1 + 1), i, none⟩ = false := fun i => Lib.frozen_of_heap H.out.ex i
          have e0 : W7.cell? ⟨(b + 1 + 1), 0, none⟩ = some (.bool true) := by rw [Lib.cell_of_heap H.out.ex]; rfl
          have e1 : W7.cell? ⟨(b + 1 + 1), 1, none⟩ = some (.slice qa A.length qc) := by rw [Lib.cell_of_heap H.out.ex]; rfl
          have e2 : W7.cell? ⟨(b + 1 + 1), 2, none⟩ = some (.slice none 0 0) := by rw [Lib.cell_of_heap H.out.ex]; rfl
          have e3 : W7.cell? ⟨(b + 1 + 1), 3, none⟩ = some (.int .i64 tp) := by rw [Lib.cell_of_heap H.out.ex]; rfl
          go_upto_region 10 with fail
          refine wp_fresh (fun U => RuSt w r g o3 c3 m9 b true (.slice qa A.length qc) (.slice (some ⟨W7.heap.size, 0, none⟩) 1 1) tp A [x] U) HX.out ?_
          intro U hu
          have H := Lib.hid hu
          clear hu HX e0 e1 e2 e3 ef hrW hXW hbb
          obtain ⟨t9, l9, rfl⟩ := HE9.out.cons
          have hrW := row_lt H.out.rd.row
          have hXW := row_lt H.out.ex
          have hbb : b < U.heap.size := row_lt H.out.box
          have xf : ∀ i, U.frozen? ⟨b, i, none⟩ = false := fun i => Lib.frozen_of_heap H.out.box i
          have x0 : U.cell? ⟨b, 0, none⟩ = some (.pointer (some ⟨r, 0, none⟩)) := by rw [Lib.cell_of_heap H.out.box]; rfl
          cases hp9 : Pol.is (t9 :: l9) 4 [59] with
          | false =>
            have HPP : Hid (Q = .error (t9.p, 120)) := by show _ = _; rw [HQ.out]; simp only [must_neg hp9]
            have HP0 := Lib.hid hp9
            clear hp9
            have HNX := Lib.hid (rd_must_no U r g _ _ t9 l9 0 ⟨#[59]⟩ H.out.rd HP0.out)
            go_wp2_with fail
            refine HNX.out.mono ?_
            intro e w1 hs
            obtain ⟨b9, hb9, rfl, hrow9, hf9⟩ := hs.from (bs := [r]) H.out.f (fun y hy => .inl (by simpa using hy))
            show _
            exact ⟨rfl, by rw [HPP.out]; exact RuleDone.stop ⟨b9, hb9, rfl, hrow9, hf9⟩⟩
          | true =>
            have HPP : Hid (Q = .ok (⟨true, A, [x], tp⟩, l9)) := by show _ = _; rw [HQ.out]; simp only [must_pos hp9]
            have hl9 : 0 < l9.length := (Pol.is_tail hp9 (by decide) HE9.out : Ends l9).pos
            have HP0 := Lib.hid hp9
            clear hp9
            have HNX := Lib.hid (rd_must_yes U r g _ _ t9 l9 0 ⟨#[59]⟩ H.out.rd hl9 HP0.out)
            go_wp2_with fail
            refine HNX.out.mono ?_
            rintro e W9 ⟨rfl, hf1, hr1⟩
            have H := Lib.hid (H.out.step hf1 hr1)
            clear HNX hf1 hr1 hl9 x0 xf hrW hXW hbb
            have hXW := row_lt H.out.ex
            have ef : ∀ i, W9.frozen? ⟨(b + 1 + 1), i, none⟩ = false := fun i => Lib.frozen_of_heap H.out.ex i
            have e0 : W9.cell? ⟨(b + 1 + 1), 0, none⟩ = some (.bool true) := by rw [Lib.cell_of_heap H.out.ex]; rfl
            have e1 : W9.cell? ⟨(b + 1 + 1), 1, none⟩ = some (.slice qa A.length qc) := by rw [Lib.cell_of_heap H.out.ex]; rfl
            have e2 : W9.cell? ⟨(b + 1 + 1), 2, none⟩ = some (.slice (some ⟨W7.heap.size, 0, none⟩) 1 1) := by rw [Lib.cell_of_heap H.out.ex]; rfl
            have e3 : W9.cell? ⟨(b + 1 + 1), 3, none⟩ = some (.int .i64 tp) := by rw [Lib.cell_of_heap H.out.ex]; rfl
            have zf : ∀ i, W9.frozen? ⟨(b + 1), i, none⟩ = false := fun i => Lib.frozen_of_heap H.out.res i
            have z0 : W9.cell? ⟨(b + 1), 0, none⟩ = some (.bool false) := by rw [Lib.cell_of_heap H.out.res]; rfl
            have z1 : W9.cell? ⟨(b + 1), 1, none⟩ = some (.slice none 0 0) := by rw [Lib.cell_of_heap H.out.res]; rfl
            have z2 : W9.cell? ⟨(b + 1), 2, none⟩ = some (.slice none 0 0) := by rw [Lib.cell_of_heap H.out.res]; rfl
            have z3 : W9.cell? ⟨(b + 1), 3, none⟩ = some (.int .i64 0) := by rw [Lib.cell_of_heap H.out.res]; rfl
            have HG := Lib.hid H.out.give
            have HT := Lib.hid (heap_four H.out.res (.bool true) (.slice qa A.length qc) (.slice (some ⟨W7.heap.size, 0, none⟩) 1 1) (.int .i64 tp))
            go_wp2_with fail
            refine bodyPost_ret (v := .agg #[.bool true, .slice qa A.length qc, .slice (some ⟨W7.heap.size, 0, none⟩) 1 1, .int .i64 tp]) (results_cell_row rfl _ _ (b + 1) _ _ (0, 0) _ rfl HT.out Tryd.underlying78 rfl (by kernel_rfl)) rfl ?_
            rw [HPP.out]
            exact HG.out
end Go.Proofs.YtgklmpooonnmiaaDoor
