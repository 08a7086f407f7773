/-
  Lemmas and contracts that the proofs over this seat use (PolChain, PolAnd); no statement of the seat is claimed in this text, and nothing is assumed in it.
-/
import Derived.Test.YtgklmpooonnmiaaDoorJ20
import Derived.Test.YtgklmpooonnmiaaDoorJ7
set_option linter.unusedVariables false
set_option linter.unusedSimpArgs false
namespace Go.Proofs.YtgklmpooonnmiaaDoor
open Go.RowKit
structure Chn (w : World) (r g o c : Nat) (l : List TI) (nest : Nat) (b k : Nat) (e : Array Value) (x : Ex) (W : World) : Prop where
 rd : Rd W r g o c l nest
 res : W.heap[b]? = some (.cells z5 80 (0, 0))
 ex : W.heap[k]? = some (.cells e 80 (0, 0))
 rep : Rep W (fun i => w.heap.size ≤ i ∧ i ≠ k ∧ i ≠ b) e.toList x
 f : Fr [r] w W
 rl : r < w.heap.size
 gl : g < w.heap.size
 bw : b = w.heap.size
 kb : b < k
theorem Chn.step {w : World} {r g o c : Nat} {l : List TI} {nest : Nat} {b k : Nat} {e : Array Value} {x : Ex} {W W' : World} {o' c' : Nat} {l' : List TI} {nest' : Nat} (h : Chn w r g o c l nest b k e x W) (hf : Fr [r] W W') (hr : Rd W' r g o' c' l' nest') : Chn w r g o' c' l' nest' b k e x W' := by
 have h1 := h.rl; have h2 := h.bw; have h3 := h.kb
 exact ⟨hr, hf.row h.res (by simp; omega), hf.row h.ex (by simp; omega), h.rep.fr hf (fun y hy _ => by simp at hy; omega), h.f.trans hf (fun y hy => .inl hy), h1, h.gl, h2, h3⟩
theorem Chn.fr {w : World} {r g o c : Nat} {l : List TI} {nest : Nat} {b k : Nat} {e : Array Value} {x : Ex} {W W' : World} (h : Chn w r g o c l nest b k e x W) (hf : Fr [] W W') : Chn w r g o c l nest b k e x W' :=
 ⟨h.rd.fr hf (by simp) (by simp), hf.row h.res (by simp), hf.row h.ex (by simp), h.rep.fr hf (fun y hy _ => by cases hy), h.f.trans0 hf, h.rl, h.gl, h.bw, h.kb⟩
theorem Chn.more {w : World} {r g o c : Nat} {l : List TI} {nest : Nat} {b k rb : Nat} {cs ds : List Value} {x y : Ex} {U : World} (h : Chn w r g o c l nest b k cs.toArray x U) (hrow : U.heap[rb]? = some (.cells (cs ++ ds).toArray 80 (0, 0))) (hrb : w.heap.size ≤ rb ∧ rb ≠ k ∧ rb ≠ b)
  (hy : Rep U (fun i => w.heap.size ≤ i ∧ i ≠ k ∧ i ≠ b) ds y) (op p : Int) :
  Chn w r g o c l nest b k #[.int .i64 op, .string ⟨#[]⟩, .int .i64 0, .slice (some ⟨rb, 0, none⟩) 2 2, .int .i64 p] (.mk op Pol.none_ 0 [x, y] p)
   (((((U.setCell ⟨k, 0, none⟩ (.int .i64 op)).setCell ⟨k, 1, none⟩ (.string ⟨#[]⟩)).setCell ⟨k, 2, none⟩ (.int .i64 0)).setCell ⟨k, 3, none⟩ (.slice (some ⟨rb, 0, none⟩) 2 2)).setCell ⟨k, 4, none⟩ (.int .i64 p)) := by
 have h1 := h.rl; have h2 := h.bw; have h3 := h.kb; have h4 := h.gl
 have hf := fr_five U [k] k (.int .i64 op) (.string ⟨#[]⟩) (.int .i64 0) (.slice (some ⟨rb, 0, none⟩) 2 2) (.int .i64 p) (by simp)
 have hx5 := h.rep.fr hf (fun y hy _ => by simp only [List.mem_singleton] at hy; rw [hy]; simp)
 have hy5 := hy.fr hf (fun y hy _ => by simp only [List.mem_singleton] at hy; rw [hy]; simp)
 have hrow := hf.row hrow (by simp; omega)
 obtain ⟨o0, s0, n0, q0, k0, c0, p0, hcs⟩ := h.rep.form
 have he := h.ex
 rw [show cs.toArray = #[.int .i64 o0, .string s0, .int .i64 n0, .slice q0 k0 c0, .int .i64 p0] by have h9 : cs = _ := hcs; rw [h9]] at he
 refine ⟨h.rd.fr hf (by simp; omega) (by simp; omega), hf.row h.res (by simp; omega), heap_five he _ _ _ _ _, ?_, h.f.trans hf (fun y hy => .inr (by simp at hy; omega)), h1, h4, h2, h3⟩
 refine Rep.of_row op ⟨#[]⟩ 0 p [x, y] [cs, ds] rb hrb 80 2 rfl ?_ (Nat.le_refl _) (by decide) ?_
 ·rw [show [cs, ds].flatten = cs ++ ds by simp]; exact hrow
 ·intro i z cs' hi hc
  have h0 : i = 0 ∨ i = 1 := by have := (List.getElem?_eq_some_iff.1 hi).1; simp at this; omega
  rcases h0 with rfl | rfl
  ·simp at hi hc
   subst hi hc
   exact hx5
  ·simp at hi hc
   subst hi hc
   exact hy5
set_option maxHeartbeats 8000000 in
set_option maxRecDepth 100000 in
theorem chain_reads (F : FuncId) (hcf : ∀ args w, (callFunc F args).run Tryd.prog w = .ok (.enter F args) w) (one : Nat → Nat → List TI → Pol.PR Ex) (more : Nat → Nat → Ex → List TI → Pol.PR Ex) (word : ByteArray) (op : Int)
  (hm0 : ∀ nest e l, more 0 nest e l = .error (Pol.place l, 0))
  (hm : ∀ f nest e l, more (f + 1) nest e l = if Pol.is l 1 word.data.toList = true then (match one f nest l.tail with | .error x => .error x | .ok (x, m) => more f nest (.mk op Pol.none_ 0 [e, x] (Pol.place l)) m) else .ok (e, l))
  (hk : ∀ f nest l x m, one f nest l = .ok (x, m) → Ends l → Ends m)
  (f : Nat) (hF : ∀ f' ≤ f, ReadsEx F (one f')) (w : World) (r g o c : Nat) (l : List TI) (nest : Nat) (h : Rd w r g o c l nest) (hE : Ends l) (hn : nest ≤ 12) (hr : r < w.heap.size)
  (Q : Pol.PR Ex) (hQ : Q = match one f nest l with | .error e => .error e | .ok (x, m) => more f nest x m) (hfed : Pol.Fed Q) :
  Calls Tryd.prog 100 #[.pointer (some ⟨r, 0, none⟩), .string word, .int .i64 op, .func (.func F) #[.pointer (some ⟨r, 0, none⟩)] #[]] w (Done r g nest w Q) := by
 have hR := Lib.hid h
 have HE := Lib.hid hE
 have HFD := Lib.hid hfed
 have HM := Lib.hid hm
 have HM0 := Lib.hid hm0
 have HK := Lib.hid hk
 have HF := Lib.hid hF
 have hg := h.gl
 have HQ := Lib.hid hQ
 have HC : Hid (∀ W, Rd W r g o c l nest → r < W.heap.size → Calls Tryd.prog F #[.pointer (some ⟨r, 0, none⟩)] W (Done r g nest W (one f nest l))) := fun W h1 h2 =>
  HF.out f (Nat.le_refl _) W r g o c l nest h1 HE.out hn h2 (fun p hp => HFD.out p (by rw [HQ.out, hp]))
 obtain ⟨q, hq⟩ : ∃ q, one f nest l = q := ⟨_, rfl⟩
 rw [hq] at HC HQ
 have Hq := Lib.hid hq
 clear h hE hfed hm hm0 hk hF hQ hq
 have HN := Lib.hid (HC.out _ (hR.out.fr ((Fr.refl _ w).alloc (.cells z5 80)) List.not_mem_nil List.not_mem_nil) (by simp; omega))
 have HR1 := Lib.hid (heap_alloc_last w (.cells z5 80))
 go_enter Tryd.func100, Tryd.ntmps100
 go_wp2_with fail
 refine HN.out.mono ?_
 intro e w1 hd
 cases q with
 | error pe =>
  obtain ⟨pp, pn⟩ := pe
  have hs : Stops [r] _ pp pn e w1 := hd
  obtain ⟨b9, hb9, rfl, hrow9, hf9⟩ := hs.from (bs := [r]) ((Fr.refl _ w).alloc (.cells z5 80)) (fun y hy => .inl (by simpa using hy))
  show _
  exact ⟨rfl, by rw [HQ.out]; exact Done.stop ⟨b9, hb9, rfl, hrow9, hf9⟩⟩
 | ok xm =>
  obtain ⟨x, m⟩ := xm
  obtain ⟨cs, rfl, hrep, hf3, o3, c3, hr3⟩ := hd
  obtain ⟨op0, s9, n9, q9, k9, c9, p9, rfl⟩ := hrep.form
  have hE3 : Ends m := HK.out _ _ _ _ _ Hq.out HE.out
  have HE3 := Lib.hid hE3
  have HQ3 : Hid (Q = more f nest x m) := HQ.out
  have HF3 := Lib.hid hf3
  have HR3 := Lib.hid hr3
  have HREP := Lib.hid hrep
  clear hf3 hr3 hrep hE3 HQ HN HC Hq
  go_wp2_with fail
  have hz : w.heap.size + 1 ≤ w1.heap.size := by have := HF3.out.size; simpa using this
  have HCH : Hid (Chn w r g o3 c3 m nest w.heap.size w1.heap.size #[.int .i64 op0, .string s9, .int .i64 n9, .slice q9 k9 c9, .int .i64 p9] x (w1.alloc (.cells #[.int .i64 op0, .string s9, .int .i64 n9, .slice q9 k9 c9, .int .i64 p9] 80))) := by
   have hA : Fr [] w1 (w1.alloc (.cells #[.int .i64 op0, .string s9, .int .i64 n9, .slice q9 k9 c9, .int .i64 p9] 80)) := (Fr.refl _ _).alloc _
   refine ⟨HR3.out.fr hA (by simp) (by simp), hA.row (HF3.out.row HR1.out (by simp; omega)) (by simp), heap_alloc_last _ _, ?_, ((Fr.refl [r] w).alloc _).trans (HF3.out.trans0 hA) (fun y hy => .inl hy), hr, hg, rfl, by omega⟩
   exact (HREP.out.mono (fun g hg h => by
    have h2 : (w.alloc (.cells z5 80)).heap.size ≤ g := h
    simp at h2
    exact ⟨by omega, by omega, by omega⟩)).fr hA (fun y hy _ => by cases hy)
  clear hz HF3 HR3 HREP HR1 hR
  obtain ⟨k, hk⟩ : ∃ k, w1.heap.size = k := ⟨_, rfl⟩
  obtain ⟨b, hb⟩ : ∃ b, w.heap.size = b := ⟨_, rfl⟩
  rw [hk, hb] at HCH ⊢
  clear hk hb
  go_loopg [10] f (fun q s10 W => ∃ (op0 : Int) (s9 : ByteArray) (n9 : Int) (q9 : Option Addr) (k9 c9 : Nat) (p9 : Int) (x : Ex) (o c : Nat) (m : List TI), q ≤ f ∧ Hid (Q = more q nest x m) ∧ Hid (Ends m) ∧ Hid (Chn w r g o c m nest b k #[.int .i64 op0, .string s9, .int .i64 n9, .slice q9 k9 c9, .int .i64 p9] x W))
  case atStart => exact ⟨_, _, _, _, _, _, _, _, _, _, _, Nat.le_refl _, HQ3.out, HE3.out, HCH.out⟩
  case round =>
   clear HCH HQ3 HE3
   obtain ⟨op0, s9, n9, q9, k9, c9, p9, x, o, c, m, hq, HQ, HE, H⟩ := hrel
   have HQL := Lib.hid hq
   clear hq
   obtain ⟨t, l1, rfl⟩ := HE.out.cons
   cases gk with
   | zero =>
    exact absurd (HQ.out.trans (HM0.out _ _ _)) (HFD.out _)
   | succ j =>
    have hjf : j + 1 ≤ f := HQL.out
    have hr2 : r < wr.heap.size := Nat.lt_of_lt_of_le hr H.out.f.size
    obtain ⟨tk, ts, tn, tp⟩ := t
    cases hp : Pol.is (⟨tk, ts, tn, tp⟩ :: l1) 1 word.data.toList with
    | false =>
     have HQ2 : Hid (Q = .ok (x, ⟨tk, ts, tn, tp⟩ :: l1)) := by show _ = _; rw [HQ.out, HM.out]; simp only [hp]; rfl
     have HP := Lib.hid hp
     clear hp HQ
     have HN := Lib.hid (rd_next_is wr r g _ _ _ _ nest 1 word false H.out.rd HP.out)
     have hkb : b < k := H.out.kb
     have hkb2 : b ≠ k := by omega
     have hkb3 : k ≠ b := by omega
     have HREP5 : Hid (Rep _ _ _ _) := Rep.fr (fr_five wr [b] b (.int .i64 op0) (.string s9) (.int .i64 n9) (.slice q9 k9 c9) (.int .i64 p9) (by simp)) (fun y hy _ => by simp only [List.mem_singleton] at hy; rw [hy]; simp) H.out.rep
     have HRD5 : Hid (Rd _ _ _ _ _ _ _) := H.out.rd.fr (fr_five wr [b] b (.int .i64 op0) (.string s9) (.int .i64 n9) (.slice q9 k9 c9) (.int .i64 p9) (by simp)) (by have := H.out.bw; simp; omega) (by have := H.out.bw; have := H.out.gl; simp; omega)
     have HF5 : Hid (Fr [r] w _) := H.out.f.trans (fr_five wr [b] b (.int .i64 op0) (.string s9) (.int .i64 n9) (.slice q9 k9 c9) (.int .i64 p9) (by simp)) (fun y hy => .inr (by have := H.out.bw; simp at hy; omega))
     have HT5 := Lib.hid (heap_five H.out.res (.int .i64 op0) (.string s9) (.int .i64 n9) (.slice q9 k9 c9) (.int .i64 p9))
     have ef : ∀ i, wr.frozen? ⟨k, i, none⟩ = false := fun i => Lib.frozen_of_heap H.out.ex i
     have e0 : wr.cell? ⟨k, 0, none⟩ = some (.int .i64 op0) := by rw [Lib.cell_of_heap H.out.ex]; rfl
     have e1 : wr.cell? ⟨k, 1, none⟩ = some (.string s9) := by rw [Lib.cell_of_heap H.out.ex]; rfl
     have e2 : wr.cell? ⟨k, 2, none⟩ = some (.int .i64 n9) := by rw [Lib.cell_of_heap H.out.ex]; rfl
     have e3 : wr.cell? ⟨k, 3, none⟩ = some (.slice q9 k9 c9) := by rw [Lib.cell_of_heap H.out.ex]; rfl
     have e4 : wr.cell? ⟨k, 4, none⟩ = some (.int .i64 p9) := by rw [Lib.cell_of_heap H.out.ex]; rfl
     have zf : ∀ i, wr.frozen? ⟨b, i, none⟩ = false := fun i => Lib.frozen_of_heap H.out.res i
     have z0 : wr.cell? ⟨b, 0, none⟩ = some (.int .i64 0) := by rw [Lib.cell_of_heap H.out.res]; rfl
     have z1 : wr.cell? ⟨b, 1, none⟩ = some (.string ⟨#[]⟩) := by rw [Lib.cell_of_heap H.out.res]; rfl
     have z2 : wr.cell? ⟨b, 2, none⟩ = some (.int .i64 0) := by rw [Lib.cell_of_heap H.out.res]; rfl
     have z3 : wr.cell? ⟨b, 3, none⟩ = some (.slice none 0 0) := by rw [Lib.cell_of_heap H.out.res]; rfl
     have z4 : wr.cell? ⟨b, 4, none⟩ = some (.int .i64 0) := by rw [Lib.cell_of_heap H.out.res]; rfl
     go_wp2_with fail
     refine HN.out.mono ?_
     rintro e w2 ⟨rfl, rfl⟩
     go_wp2_with fail
     refine bodyPost_ret (v := .agg #[.int .i64 op0, .string s9, .int .i64 n9, .slice q9 k9 c9, .int .i64 p9]) (results_cell_row rfl _ _ b _ _ (0, 0) _ rfl HT5.out Tryd.underlying80 rfl (by kernel_rfl)) rfl ?_
     rw [HQ2.out]
     exact Done.ok rfl (HREP5.out.mono (fun g _ h => h.1)) HF5.out HRD5.out
    | true =>
     have hE1 : Ends l1 := Pol.is_tail hp (by decide) HE.out
     have HQ2 : Hid (Q = match one j nest l1 with | .error x => .error x | .ok (y, m) => more j nest (.mk op Pol.none_ 0 [x, y] tp) m) := by show _ = _; rw [HQ.out, HM.out]; simp only [hp]; rfl
     have htk : tk = 1 := by
      have h9 := hp
      simp only [Pol.is, Bool.and_eq_true, beq_iff_eq] at h9
      exact h9.1
     have HP := Lib.hid hp
     clear hp HQ
     subst htk
     have hl1 := hE1.pos
     have HE1 := Lib.hid hE1
     clear hE1
     have HN := Lib.hid (rd_next_is wr r g _ _ _ _ nest 1 word true H.out.rd HP.out)
     have HTK := Lib.hid (rd_take_yes wr r g _ _ _ l1 nest 1 H.out.rd hl1 hr2 rfl)
     have hu := tok_pos
     go_wp2_with fail
     refine HN.out.mono ?_
     rintro e w2 ⟨rfl, rfl⟩
     go_wp2_with fail
     refine HTK.out.mono ?_
     rintro e w2 ⟨rfl, hf1, hr1⟩
     have H := Lib.hid (H.out.step hf1 hr1)
     clear HN HTK hf1 hr1 hr2
     have hr2 : r < w2.heap.size := Nat.lt_of_lt_of_le hr H.out.f.size
     have HC : Hid (∀ U o c, Chn w r g o c l1 nest b k #[.int .i64 op0, .string s9, .int .i64 n9, .slice q9 k9 c9, .int .i64 p9] x U → Calls Tryd.prog F #[.pointer (some ⟨r, 0, none⟩)] U (Done r g nest U (one j nest l1))) := fun U o c h =>
      HF.out j (by omega) U r g o c l1 nest h.rd HE1.out hn (Nat.lt_of_lt_of_le h.rl h.f.size) (fun p hp => HFD.out p (by rw [HQ2.out, hp]))
     obtain ⟨q, hq⟩ : ∃ q, one j nest l1 = q := ⟨_, rfl⟩
     rw [hq] at HC HQ2
     have Hq := Lib.hid hq
     clear hq
     have ef : ∀ i, w2.frozen? ⟨k, i, none⟩ = false := fun i => Lib.frozen_of_heap H.out.ex i
     have e0 : w2.cell? ⟨k, 0, none⟩ = some (.int .i64 op0) := by rw [Lib.cell_of_heap H.out.ex]; rfl
     have e1 : w2.cell? ⟨k, 1, none⟩ = some (.string s9) := by rw [Lib.cell_of_heap H.out.ex]; rfl
     have e2 : w2.cell? ⟨k, 2, none⟩ = some (.int .i64 n9) := by rw [Lib.cell_of_heap H.out.ex]; rfl
     have e3 : w2.cell? ⟨k, 3, none⟩ = some (.slice q9 k9 c9) := by rw [Lib.cell_of_heap H.out.ex]; rfl
     have e4 : w2.cell? ⟨k, 4, none⟩ = some (.int .i64 p9) := by rw [Lib.cell_of_heap H.out.ex]; rfl
     go_wp2_with fail
     cases q with
     | error pe =>
      obtain ⟨pp, pn⟩ := pe
      have HQ3 : Hid (Q = .error (pp, pn)) := HQ2.out
      have HX : Hid (∀ (U : World) o c, Chn w r g o c l1 nest b k #[.int .i64 op0, .string s9, .int .i64 n9, .slice q9 k9 c9, .int .i64 p9] x U → Calls Tryd.prog F #[.pointer (some ⟨r, 0, none⟩)] U (Stops [r] w pp pn)) := fun U o c h => (HC.out U o c h).mono (fun x W' (hs : Stops [r] U pp pn x W') => hs.from h.f (fun y hy => .inl (by simpa using hy)))
      refine wp_region_held_drew (S := fun _ => True) (by kernel_rfl) (trivial) (fun hHeld => ?_)
      refine held_take (i := 0) (v := ?_) 19 rfl rfl (by kernel_rfl) (by kernel_rfl) (by kernel_rfl) (fun _ _ _ h => h) (Or.inl ⟨by rfl, ?_⟩) (by assumption) ?_
      rotate_left 1
      ·intro w hSw; (try dsimp only at hSw); go_simp; try (with_reducible rfl)
      try simp only [Act.put, List.setIfInBounds_toArray, List.set_cons_zero, List.set_cons_succ]
      refine held_take (i := 1) (v := ?_) 20 rfl rfl (by kernel_rfl) (by kernel_rfl) (by kernel_rfl) (fun _ _ _ h => h) (Or.inl ⟨by rfl, ?_⟩) (by assumption) ?_
      rotate_left 1
      ·intro w hSw; (try dsimp only at hSw); go_simp; try (with_reducible rfl)
      try simp only [Act.put, List.setIfInBounds_toArray, List.set_cons_zero, List.set_cons_succ]
      refine held_take (i := 3) (v := ?_) 22 rfl rfl (by kernel_rfl) (by kernel_rfl) (by kernel_rfl) (fun _ _ _ h => h) (Or.inl ⟨by rfl, ?_⟩) (by assumption) ?_
      rotate_left 1
      ·intro w hSw; (try dsimp only at hSw); go_simp; try (with_reducible rfl)
      try simp only [Act.put, List.setIfInBounds_toArray, List.set_cons_zero, List.set_cons_succ]
      refine wpAnyH_ready (rs := [2, 4]) (by kernel_rfl) (by simp) ?_
      refine AllReadyH.cons rfl (fun K hK => ?_) (AllReadyH.cons rfl (fun K hK => ?_) AllReadyH.nil)
      ·go_simp
       refine hK.out _ _ (trivial) (fun hHeld => ?_)
       clear hK K
       try simp only [Act.put, List.setIfInBounds_toArray, List.set_cons_zero, List.set_cons_succ]
       refine wpAnyH_ready (rs := [4]) (by kernel_rfl) (by simp) ?_
       refine AllReadyH.cons rfl (fun K hK => ?_) AllReadyH.nil
       go_simp
       refine (HX.out _ _ _ (H.out.fr (Fr.refl [] _).drew)).mono ?_
       rintro e w3 ⟨b9, hb9, rfl, hrow9, hf9⟩
       show _
       exact ⟨rfl, by rw [HQ3.out]; exact Done.stop ⟨b9, hb9, rfl, hrow9, hf9⟩⟩
      ·go_simp
       refine (HX.out _ _ _ (H.out.fr (Fr.refl [] _).drew)).mono ?_
       rintro e w3 ⟨b9, hb9, rfl, hrow9, hf9⟩
       show _
       exact ⟨rfl, by rw [HQ3.out]; exact Done.stop ⟨b9, hb9, rfl, hrow9, hf9⟩⟩
     | ok xm =>
      obtain ⟨y, m⟩ := xm
      have HQ3 : Hid (Q = more j nest (.mk op Pol.none_ 0 [x, y] tp) m) := HQ2.out
      have HEM : Hid (Ends m) := HK.out _ _ _ _ _ Hq.out HE1.out
      have hk2 : k < w2.heap.size := row_lt H.out.ex
      have hw2 : w.heap.size ≤ w2.heap.size := H.out.f.size
      refine wp_region_held_drew (S := fun _ => True) (by kernel_rfl) (trivial) (fun hHeld => ?_)
      refine held_take (i := 0) (v := ?_) 19 rfl rfl (by kernel_rfl) (by kernel_rfl) (by kernel_rfl) (fun _ _ _ h => h) (Or.inl ⟨by rfl, ?_⟩) (by assumption) ?_
      rotate_left 1
      ·intro w hSw; (try dsimp only at hSw); go_simp; try (with_reducible rfl)
      try simp only [Act.put, List.setIfInBounds_toArray, List.set_cons_zero, List.set_cons_succ]
      refine held_take (i := 1) (v := ?_) 20 rfl rfl (by kernel_rfl) (by kernel_rfl) (by kernel_rfl) (fun _ _ _ h => h) (Or.inl ⟨by rfl, ?_⟩) (by assumption) ?_
      rotate_left 1
      ·intro w hSw; (try dsimp only at hSw); go_simp; try (with_reducible rfl)
      try simp only [Act.put, List.setIfInBounds_toArray, List.set_cons_zero, List.set_cons_succ]
      refine held_take (i := 3) (v := ?_) 22 rfl rfl (by kernel_rfl) (by kernel_rfl) (by kernel_rfl) (fun _ _ _ h => h) (Or.inl ⟨by rfl, ?_⟩) (by assumption) ?_
      rotate_left 1
      ·intro w hSw; (try dsimp only at hSw); go_simp; try (with_reducible rfl)
      try simp only [Act.put, List.setIfInBounds_toArray, List.set_cons_zero, List.set_cons_succ]
      refine wpAnyH_ready (rs := [2, 4]) (by kernel_rfl) (by simp) ?_
      refine AllReadyH.cons rfl (fun K hK => ?_) (AllReadyH.cons rfl (fun K hK => ?_) AllReadyH.nil)
      ·go_simp
       refine hK.out _ _ (trivial) (fun hHeld => ?_)
       clear hK K
       try simp only [Act.put, List.setIfInBounds_toArray, List.set_cons_zero, List.set_cons_succ]
       refine wpAnyH_ready (rs := [4]) (by kernel_rfl) (by simp) ?_
       refine AllReadyH.cons rfl (fun K hK => ?_) AllReadyH.nil
       go_simp
       refine (HC.out _ _ _ (H.out.fr (Fr.refl [] _).drew)).mono ?_
       rintro e w3 ⟨ds, rfl, hrep, hFb, o3, c3, hr3⟩
       obtain ⟨op1, s1, n1, q1, k1, c1, p1, rfl⟩ := hrep.form
       have H := Lib.hid ((H.out.fr (Fr.refl [] _).drew).step hFb hr3)
       have HY := Lib.hid hrep
       clear hrep hFb hr3
       refine hK.out _ _ (trivial) (fun hHeld => ?_)
       clear hK K
       try simp only [Act.put, List.setIfInBounds_toArray, List.set_cons_zero, List.set_cons_succ]
       have hk3 : k < w3.heap.size := row_lt H.out.ex
       refine wpAnyH_ready (rs := [5]) (by kernel_rfl) (by simp) ?_
       refine AllReadyH.cons rfl (fun K hK => ?_) AllReadyH.nil
       go_simp
       refine hK.out _ _ (trivial) (fun hHeld => ?_)
       clear hK K
       try simp only [Act.put, List.setIfInBounds_toArray, List.set_cons_zero, List.set_cons_succ]
       refine held_take (i := 6) (v := ?_) 25 rfl rfl (by kernel_rfl) (by kernel_rfl) (by kernel_rfl) (fun _ _ _ h => h) (Or.inl ⟨by rfl, ?_⟩) (by assumption) ?_
       rotate_left 1
       ·intro w hSw; (try dsimp only at hSw); go_simp; try (with_reducible rfl)
       try simp only [Act.put, List.setIfInBounds_toArray, List.set_cons_zero, List.set_cons_succ]
       refine wpAnyH_fresh (fun U => Chn w r g o3 c3 m nest b k #[.int .i64 op0, .string s9, .int .i64 n9, .slice q9 k9 c9, .int .i64 p9] x U ∧ U.heap[w3.heap.size]? = some (.cells #[.int .i64 op0, .string s9, .int .i64 n9, .slice q9 k9 c9, .int .i64 p9, .int .i64 op1, .string s1, .int .i64 n1, .slice q1 k1 c1, .int .i64 p1] 80 (0, 0)) ∧ Rep U (fun i => w.heap.size ≤ i ∧ i ≠ k ∧ i ≠ b) [.int .i64 op1, .string s1, .int .i64 n1, .slice q1 k1 c1, .int .i64 p1] y)
        ⟨H.out.fr ((Fr.refl [] _).alloc _), heap_alloc_last _ _, (HY.out.mono (fun g hg h => by have h9 : w2.heap.size ≤ g := h; have := H.out.kb; exact ⟨by omega, by omega, by omega⟩)).fr ((Fr.refl [] _).alloc _) (fun y hy _ => by cases hy)⟩ ?_
       rintro U ⟨hu1, hu2, hu3⟩
       have HEND := Lib.hid (Chn.more (rb := w3.heap.size) (cs := [.int .i64 op0, .string s9, .int .i64 n9, .slice q9 k9 c9, .int .i64 p9]) (ds := [.int .i64 op1, .string s1, .int .i64 n1, .slice q1 k1 c1, .int .i64 p1]) hu1 hu2 ⟨by have := hu1.bw; have := hu1.kb; omega, by omega, by have := hu1.kb; omega⟩ hu3 op tp)
       have HU := Lib.hid hu1
       clear hu1 hu2 hu3
       have yf : ∀ i, U.frozen? ⟨k, i, none⟩ = false := fun i => Lib.frozen_of_heap HU.out.ex i
       have y0 : U.cell? ⟨k, 0, none⟩ = some (.int .i64 op0) := by rw [Lib.cell_of_heap HU.out.ex]; rfl
       have y1 : U.cell? ⟨k, 1, none⟩ = some (.string s9) := by rw [Lib.cell_of_heap HU.out.ex]; rfl
       have y2 : U.cell? ⟨k, 2, none⟩ = some (.int .i64 n9) := by rw [Lib.cell_of_heap HU.out.ex]; rfl
       have y3 : U.cell? ⟨k, 3, none⟩ = some (.slice q9 k9 c9) := by rw [Lib.cell_of_heap HU.out.ex]; rfl
       have y4 : U.cell? ⟨k, 4, none⟩ = some (.int .i64 p9) := by rw [Lib.cell_of_heap HU.out.ex]; rfl
       refine wpAnyH_ready (rs := [7]) (by kernel_rfl) (by simp) ?_
       refine AllReadyH.cons rfl (fun K hK => ?_) AllReadyH.nil
       go_simp
       refine hK.out _ _ (trivial) (fun hHeld => ?_)
       clear hK K
       try simp only [Act.put, List.setIfInBounds_toArray, List.set_cons_zero, List.set_cons_succ]
       refine wpAnyH_done (by kernel_rfl) ?_ _
       go_wp2_with fail
       go_roundg j
       case measure => omega
       case rel => exact ⟨_, _, _, _, _, _, _, _, _, _, _, by omega, HQ3.out, HEM.out, HEND.out⟩
      ·go_simp
       refine (HC.out _ _ _ (H.out.fr (Fr.refl [] _).drew)).mono ?_
       rintro e w3 ⟨ds, rfl, hrep, hFb, o3, c3, hr3⟩
       obtain ⟨op1, s1, n1, q1, k1, c1, p1, rfl⟩ := hrep.form
       have H := Lib.hid ((H.out.fr (Fr.refl [] _).drew).step hFb hr3)
       have HY := Lib.hid hrep
       clear hrep hFb hr3
       refine hK.out _ _ (trivial) (fun hHeld => ?_)
       clear hK K
       try simp only [Act.put, List.setIfInBounds_toArray, List.set_cons_zero, List.set_cons_succ]
       clear e0 e1 e2 e3 e4 ef
       have ef : ∀ i, w3.frozen? ⟨k, i, none⟩ = false := fun i => Lib.frozen_of_heap H.out.ex i
       have e0 : w3.cell? ⟨k, 0, none⟩ = some (.int .i64 op0) := by rw [Lib.cell_of_heap H.out.ex]; rfl
       have e1 : w3.cell? ⟨k, 1, none⟩ = some (.string s9) := by rw [Lib.cell_of_heap H.out.ex]; rfl
       have e2 : w3.cell? ⟨k, 2, none⟩ = some (.int .i64 n9) := by rw [Lib.cell_of_heap H.out.ex]; rfl
       have e3 : w3.cell? ⟨k, 3, none⟩ = some (.slice q9 k9 c9) := by rw [Lib.cell_of_heap H.out.ex]; rfl
       have e4 : w3.cell? ⟨k, 4, none⟩ = some (.int .i64 p9) := by rw [Lib.cell_of_heap H.out.ex]; rfl
       refine wpAnyH_ready (rs := [2]) (by kernel_rfl) (by simp) ?_
       refine AllReadyH.cons rfl (fun K hK => ?_) AllReadyH.nil
       go_simp
       refine hK.out _ _ (trivial) (fun hHeld => ?_)
       clear hK K
       try simp only [Act.put, List.setIfInBounds_toArray, List.set_cons_zero, List.set_cons_succ]
       clear e0 e1 e2 e3 e4 ef
       have hk3 : k < w3.heap.size := row_lt H.out.ex
       refine wpAnyH_ready (rs := [5]) (by kernel_rfl) (by simp) ?_
       refine AllReadyH.cons rfl (fun K hK => ?_) AllReadyH.nil
       go_simp
       refine hK.out _ _ (trivial) (fun hHeld => ?_)
       clear hK K
       try simp only [Act.put, List.setIfInBounds_toArray, List.set_cons_zero, List.set_cons_succ]
       refine held_take (i := 6) (v := ?_) 25 rfl rfl (by kernel_rfl) (by kernel_rfl) (by kernel_rfl) (fun _ _ _ h => h) (Or.inl ⟨by rfl, ?_⟩) (by assumption) ?_
       rotate_left 1
       ·intro w hSw; (try dsimp only at hSw); go_simp; try (with_reducible rfl)
       try simp only [Act.put, List.setIfInBounds_toArray, List.set_cons_zero, List.set_cons_succ]
       refine wpAnyH_fresh (fun U => Chn w r g o3 c3 m nest b k #[.int .i64 op0, .string s9, .int .i64 n9, .slice q9 k9 c9, .int .i64 p9] x U ∧ U.heap[w3.heap.size]? = some (.cells #[.int .i64 op0, .string s9, .int .i64 n9, .slice q9 k9 c9, .int .i64 p9, .int .i64 op1, .string s1, .int .i64 n1, .slice q1 k1 c1, .int .i64 p1] 80 (0, 0)) ∧ Rep U (fun i => w.heap.size ≤ i ∧ i ≠ k ∧ i ≠ b) [.int .i64 op1, .string s1, .int .i64 n1, .slice q1 k1 c1, .int .i64 p1] y)
        ⟨H.out.fr ((Fr.refl [] _).alloc _), heap_alloc_last _ _, (HY.out.mono (fun g hg h => by have h9 : w2.heap.size ≤ g := h; have := H.out.kb; exact ⟨by omega, by omega, by omega⟩)).fr ((Fr.refl [] _).alloc _) (fun y hy _ => by cases hy)⟩ ?_
       rintro U ⟨hu1, hu2, hu3⟩
       have HEND := Lib.hid (Chn.more (rb := w3.heap.size) (cs := [.int .i64 op0, .string s9, .int .i64 n9, .slice q9 k9 c9, .int .i64 p9]) (ds := [.int .i64 op1, .string s1, .int .i64 n1, .slice q1 k1 c1, .int .i64 p1]) hu1 hu2 ⟨by have := hu1.bw; have := hu1.kb; omega, by omega, by have := hu1.kb; omega⟩ hu3 op tp)
       have HU := Lib.hid hu1
       clear hu1 hu2 hu3
       have yf : ∀ i, U.frozen? ⟨k, i, none⟩ = false := fun i => Lib.frozen_of_heap HU.out.ex i
       have y0 : U.cell? ⟨k, 0, none⟩ = some (.int .i64 op0) := by rw [Lib.cell_of_heap HU.out.ex]; rfl
       have y1 : U.cell? ⟨k, 1, none⟩ = some (.string s9) := by rw [Lib.cell_of_heap HU.out.ex]; rfl
       have y2 : U.cell? ⟨k, 2, none⟩ = some (.int .i64 n9) := by rw [Lib.cell_of_heap HU.out.ex]; rfl
       have y3 : U.cell? ⟨k, 3, none⟩ = some (.slice q9 k9 c9) := by rw [Lib.cell_of_heap HU.out.ex]; rfl
       have y4 : U.cell? ⟨k, 4, none⟩ = some (.int .i64 p9) := by rw [Lib.cell_of_heap HU.out.ex]; rfl
       refine wpAnyH_ready (rs := [7]) (by kernel_rfl) (by simp) ?_
       refine AllReadyH.cons rfl (fun K hK => ?_) AllReadyH.nil
       go_simp
       refine hK.out _ _ (trivial) (fun hHeld => ?_)
       clear hK K
       try simp only [Act.put, List.setIfInBounds_toArray, List.set_cons_zero, List.set_cons_succ]
       refine wpAnyH_done (by kernel_rfl) ?_ _
       go_wp2_with fail
       go_roundg j
       case measure => omega
       case rel => exact ⟨_, _, _, _, _, _, _, _, _, _, _, by omega, HQ3.out, HEM.out, HEND.out⟩
end Go.Proofs.YtgklmpooonnmiaaDoor

namespace Go.Proofs.YtgklmpooonnmiaaDoor
open Go.RowKit
set_option maxHeartbeats 2000000 in
set_option maxRecDepth 100000 in
theorem and_reads (f : Nat) (hF : ∀ f' ≤ f, ReadsEx 107 (Pol.not_ f')) : ReadsEx 101 (Pol.and_ (f + 1)) := by
 intro w r g o c l nest h hE hn hr hfed
 have hcf : ∀ args w, (callFunc 107 args).run Tryd.prog w = .ok (.enter 107 args) w := fun args w => by kernel_rfl
 have HCH := Lib.hid (chain_reads 107 hcf Pol.not_ Pol.andMore ⟨#[97, 110, 100]⟩ 7 (fun _ _ _ => by simp [Pol.andMore]) (fun _ _ _ _ => by rw [Pol.andMore]; rfl)
  (fun f1 n1 l1 x1 m1 => ((Pol.all_keep f1).2.2.2.1 n1 l1 x1 m1)) f hF (w.alloc (.cells z5 80)) r g o c l nest (h.fr ((Fr.refl [] w).alloc _) List.not_mem_nil List.not_mem_nil) hE hn (by simp; omega) (Pol.and_ (f + 1) nest l) (by rw [Pol.and_]; rcases Pol.not_ f nest l with e | ⟨x, m⟩ <;> rfl) hfed)
 have HRD := Lib.hid h
 have HR1 := Lib.hid (heap_alloc_last w (.cells z5 80))
 have hg := h.gl
 have hmf : ∀ fn first cap w, (Instr.makeFunc fn first cap).run Tryd.prog w = .ok (.func fn first cap) w := fun _ _ _ _ => rfl
 obtain ⟨q, hq⟩ : ∃ q, Pol.and_ (f + 1) nest l = q := ⟨_, rfl⟩
 rw [hq] at HCH ⊢
 clear h hE hfed hF hq
 go_enter Tryd.func101, Tryd.ntmps101
 go_wp2_with fail
 refine HCH.out.mono ?_
 intro e w1 hd
 cases q with
 | error pe =>
  obtain ⟨pp, pn⟩ := pe
  have hs : Stops [r] _ pp pn e w1 := hd
  obtain ⟨b9, hb9, rfl, hrow9, hf9⟩ := hs.from (bs := [r]) ((Fr.refl _ w).alloc (.cells z5 80)) (fun y hy => .inl (by simpa using hy))
  show _
  exact ⟨rfl, Done.stop ⟨b9, hb9, rfl, hrow9, hf9⟩⟩
 | ok xm =>
  obtain ⟨x, m⟩ := xm
  obtain ⟨cs, rfl, hrep, hf3, o3, c3, hr3⟩ := hd
  obtain ⟨op0, s9, n9, q9, k9, c9, p9, rfl⟩ := hrep.form
  have HZ := Lib.hid (hf3.row HR1.out (by simp; omega))
  have HT := Lib.hid (heap_five HZ.out (.int .i64 op0) (.string s9) (.int .i64 n9) (.slice q9 k9 c9) (.int .i64 p9))
  have hff := fr_five w1 [w.heap.size] w.heap.size (.int .i64 op0) (.string s9) (.int .i64 n9) (.slice q9 k9 c9) (.int .i64 p9) (by simp)
  have HREP := Lib.hid (hrep.fr hff (fun y hy _ => by simp only [List.mem_singleton] at hy; rw [hy]; show ¬ (w.alloc (.cells z5 80)).heap.size ≤ _; simp))
  have HRD9 := Lib.hid (hr3.fr hff (by simp; omega) (by simp; omega))
  have HF9 : Hid (Fr [r] w _) := (((Fr.refl [r] w).alloc _).trans hf3 (fun y hy => .inl hy)).trans hff (fun y hy => .inr (by simp at hy; omega))
  clear hrep hff hf3 hr3 HR1 HCH HRD
  have zf : ∀ i, w1.frozen? ⟨w.heap.size, i, none⟩ = false := fun i => Lib.frozen_of_heap HZ.out i
  have z0 : w1.cell? ⟨w.heap.size, 0, none⟩ = some (.int .i64 0) := by rw [Lib.cell_of_heap HZ.out]; rfl
  have z1 : w1.cell? ⟨w.heap.size, 1, none⟩ = some (.string ⟨#[]⟩) := by rw [Lib.cell_of_heap HZ.out]; rfl
  have z2 : w1.cell? ⟨w.heap.size, 2, none⟩ = some (.int .i64 0) := by rw [Lib.cell_of_heap HZ.out]; rfl
  have z3 : w1.cell? ⟨w.heap.size, 3, none⟩ = some (.slice none 0 0) := by rw [Lib.cell_of_heap HZ.out]; rfl
  have z4 : w1.cell? ⟨w.heap.size, 4, none⟩ = some (.int .i64 0) := by rw [Lib.cell_of_heap HZ.out]; rfl
  go_wp2_with fail
  refine bodyPost_ret (v := .agg #[.int .i64 op0, .string s9, .int .i64 n9, .slice q9 k9 c9, .int .i64 p9]) (results_cell_row rfl _ _ w.heap.size _ _ (0, 0) _ rfl HT.out Tryd.underlying80 rfl (by kernel_rfl)) rfl ?_
  exact Done.ok rfl (HREP.out.mono (fun g _ h => by have h9 : (w.alloc (.cells z5 80)).heap.size ≤ g := h; simp at h9; show w.heap.size ≤ g; omega)) HF9.out HRD9.out
set_option maxHeartbeats 2000000 in
set_option maxRecDepth 100000 in
theorem or_reads (f : Nat) (hF : ∀ f' ≤ f, ReadsEx 101 (Pol.and_ f')) : ReadsEx 82 (Pol.or_ (f + 1)) := by
 intro w r g o c l nest h hE hn hr hfed
 have hcf : ∀ args w, (callFunc 101 args).run Tryd.prog w = .ok (.enter 101 args) w := fun args w => by kernel_rfl
 have HCH := Lib.hid (chain_reads 101 hcf Pol.and_ Pol.orMore ⟨#[111, 114]⟩ 8 (fun _ _ _ => by simp [Pol.orMore]) (fun _ _ _ _ => by rw [Pol.orMore]; rfl)
  (fun f1 n1 l1 x1 m1 => ((Pol.all_keep f1).2.2.2.2.2.1 n1 l1 x1 m1)) f hF (w.alloc (.cells z5 80)) r g o c l nest (h.fr ((Fr.refl [] w).alloc _) List.not_mem_nil List.not_mem_nil) hE hn (by simp; omega) (Pol.or_ (f + 1) nest l) (by rw [Pol.or_]; rcases Pol.and_ f nest l with e | ⟨x, m⟩ <;> rfl) hfed)
 have HRD := Lib.hid h
 have HR1 := Lib.hid (heap_alloc_last w (.cells z5 80))
 have hg := h.gl
 have hmf : ∀ fn first cap w, (Instr.makeFunc fn first cap).run Tryd.prog w = .ok (.func fn first cap) w := fun _ _ _ _ => rfl
 obtain ⟨q, hq⟩ : ∃ q, Pol.or_ (f + 1) nest l = q := ⟨_, rfl⟩
 rw [hq] at HCH ⊢
 clear h hE hfed hF hq
 go_enter Tryd.func82, Tryd.ntmps82
 go_wp2_with fail
 refine HCH.out.mono ?_
 intro e w1 hd
 cases q with
 | error pe =>
  obtain ⟨pp, pn⟩ := pe
  have hs : Stops [r] _ pp pn e w1 := hd
  obtain ⟨b9, hb9, rfl, hrow9, hf9⟩ := hs.from (bs := [r]) ((Fr.refl _ w).alloc (.cells z5 80)) (fun y hy => .inl (by simpa using hy))
  show _
  exact ⟨rfl, Done.stop ⟨b9, hb9, rfl, hrow9, hf9⟩⟩
 | ok xm =>
  obtain ⟨x, m⟩ := xm
  obtain ⟨cs, rfl, hrep, hf3, o3, c3, hr3⟩ := hd
  obtain ⟨op0, s9, n9, q9, k9, c9, p9, rfl⟩ := hrep.form
  have HZ := Lib.hid (hf3.row HR1.out (by simp; omega))
  have HT := Lib.hid (heap_five HZ.out (.int .i64 op0) (.string s9) (.int .i64 n9) (.slice q9 k9 c9) (.int .i64 p9))
  have hff := fr_five w1 [w.heap.size] w.heap.size (.int .i64 op0) (.string s9) (.int .i64 n9) (.slice q9 k9 c9) (.int .i64 p9) (by simp)
  have HREP := Lib.hid (hrep.fr hff (fun y hy _ => by simp only [List.mem_singleton] at hy; rw [hy]; show ¬ (w.alloc (.cells z5 80)).heap.size ≤ _; simp))
  have HRD9 := Lib.hid (hr3.fr hff (by simp; omega) (by simp; omega))
  have HF9 : Hid (Fr [r] w _) := (((Fr.refl [r] w).alloc _).trans hf3 (fun y hy => .inl hy)).trans hff (fun y hy => .inr (by simp at hy; omega))
  clear hrep hff hf3 hr3 HR1 HCH HRD
  have zf : ∀ i, w1.frozen? ⟨w.heap.size, i, none⟩ = false := fun i => Lib.frozen_of_heap HZ.out i
  have z0 : w1.cell? ⟨w.heap.size, 0, none⟩ = some (.int .i64 0) := by rw [Lib.cell_of_heap HZ.out]; rfl
  have z1 : w1.cell? ⟨w.heap.size, 1, none⟩ = some (.string ⟨#[]⟩) := by rw [Lib.cell_of_heap HZ.out]; rfl
  have z2 : w1.cell? ⟨w.heap.size, 2, none⟩ = some (.int .i64 0) := by rw [Lib.cell_of_heap HZ.out]; rfl
  have z3 : w1.cell? ⟨w.heap.size, 3, none⟩ = some (.slice none 0 0) := by rw [Lib.cell_of_heap HZ.out]; rfl
  have z4 : w1.cell? ⟨w.heap.size, 4, none⟩ = some (.int .i64 0) := by rw [Lib.cell_of_heap HZ.out]; rfl
  go_wp2_with fail
  refine bodyPost_ret (v := .agg #[.int .i64 op0, .string s9, .int .i64 n9, .slice q9 k9 c9, .int .i64 p9]) (results_cell_row rfl _ _ w.heap.size _ _ (0, 0) _ rfl HT.out Tryd.underlying80 rfl (by kernel_rfl)) rfl ?_
  exact Done.ok rfl (HREP.out.mono (fun g _ h => by have h9 : (w.alloc (.cells z5 80)).heap.size ≤ g := h; simp at h9; show w.heap.size ≤ g; omega)) HF9.out HRD9.out
end Go.Proofs.YtgklmpooonnmiaaDoor
