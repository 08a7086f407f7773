/-
  Lemmas and contracts that the proofs over this seat use (PolOpd3, PolNot, PolChain, PolAnd); no statement of the seat is claimed in this text, and nothing is assumed in it.
-/
import Derived.Test.YtgklmpooonnmiaaDoorG11
import Derived.Deep.CutRange
import Derived.Deep.DeepCutAuto
import Derived.Test.YtgklmpooonnmiaaDoorG4
set_option linter.unusedVariables false
set_option linter.unusedSimpArgs false
namespace Go.Proofs.YtgklmpooonnmiaaDoor
open Go.RowKit
theorem rd_deeper_yes (w : World) (r g o c : Nat) (t : TI) (l : List TI) (nest : Nat) (h : Rd w r g o c (t :: l) nest) (hn : nest < 12) :
    Calls Tryd.prog 109 #[.pointer (some ⟨r, 0, none⟩)] w fun e w' => e = .returned (.tuple #[]) ∧ Fr [r] w w' ∧ Rd w' r g o c (t :: l) (nest + 1) := by
  have := rd_deeper w r g o c t l nest h (by omega)
  simp only [if_pos hn] at this
  exact this
theorem rd_deeper_no (w : World) (r g o c : Nat) (t : TI) (l : List TI) (nest : Nat) (h : Rd w r g o c (t :: l) nest) (hn : ¬ nest < 12) (h12 : nest ≤ 12) :
    Calls Tryd.prog 109 #[.pointer (some ⟨r, 0, none⟩)] w fun e w' => Stops [r] w t.p 121 e w' := by
  have := rd_deeper w r g o c t l nest h h12
  simp only [if_neg hn] at this
  exact this
/-- nest one less. -/
theorem Rd.less {w : World} {r g o c : Nat} {l : List TI} {nest : Nat} (h : Rd w r g o c l (nest + 1)) : Rd (w.setCell ⟨r, 1, none⟩ (.int .i64 (nest : Int))) r g o c l nest := by
  have hf : Fr [r] w (w.setCell ⟨r, 1, none⟩ (.int .i64 (nest : Int))) := (Fr.refl [r] w).setCell (p := ⟨r, 1, none⟩) (.inl (by simp)) _
  exact ⟨(heap_setCell_same _ _ _ _ _ _ h.row).trans rfl, h.tk.fr hf h.gl (by simp; exact h.ne), Nat.lt_of_lt_of_le h.gl hf.size, h.ne, h.lc, h.cm, h.few⟩
theorem Opd.less {w : World} {r g o c : Nat} {l : List TI} {nest : Nat} {t : TI} {b : Nat} {rs e : Array Value} {W : World} (h : Opd w r g o c l (nest + 1) t b rs e W) : Opd w r g o c l nest t b rs e (W.setCell ⟨r, 1, none⟩ (.int .i64 (nest : Int))) :=
  h.step ((Fr.refl [r] W).setCell (p := ⟨r, 1, none⟩) (.inl (by simp)) _) h.rd.less
/-- what stands within ( and ). -/
def Pol.within (f nest : Nat) (p : Int) (l : List TI) : Pol.PR Ex :=
  if 12 ≤ nest then .error (p, 121)
  else match Pol.or_ f (nest + 1) l with
    | .error e => .error e
    | .ok (x, m) => match Pol.must m [41] with
      | .error e => .error e
      | .ok (_, m) => .ok (x, m)
theorem Rep.form {w : World} {D : Nat → Prop} {cs : List Value} {x : Ex} (h : Rep w D cs x) : ∃ (op : Int) (s : ByteArray) (n : Int) (q : Option Addr) (k c : Nat) (p : Int), cs = [.int .i64 op, .string s, .int .i64 n, .slice q k c, .int .i64 p] := by
  cases h
  exact ⟨_, _, _, _, _, _, _, rfl⟩
set_option maxHeartbeats 4000000 in
set_option maxRecDepth 100000 in
/-- an operand within ( and ). -/
theorem opd_paren (f : Nat) (hO : ReadsEx 82 (Pol.or_ f)) (w : World) (r g o c : Nat) (t : TI) (l : List TI) (nest : Nat) (h : Rd w r g o c (t :: l) nest) (hr : r < w.heap.size) (hE : Ends l) (hn : nest ≤ 12) (hp : Pol.is (t :: l) 4 [40] = true) (hfed : Pol.Fed (Pol.within f nest t.p l)) :
    Calls Tryd.prog 110 #[.pointer (some ⟨r, 0, none⟩)] w (Done r g nest w (Pol.within f nest t.p l)) := by
  have HO := Lib.hid hO
  have HE := Lib.hid hE
  have HP0 := Lib.hid hp
  have HFD := Lib.hid hfed
  have hl := hE.pos
  clear hE hp hO hfed
  have hR := Lib.hid h
  obtain ⟨a0, a1, a2, a3⟩ := h.tk 0 t rfl
  have c0 := h.c0
  have hlc := h.lc
  have hm := h.cm
  have hg := h.gl
  have hne := h.ne
  rw [List.length_cons] at c0 hlc
  unfold maxLen at hm
  simp only [Nat.mul_zero, Nat.add_zero] at a0 a1 a2 a3
  clear h
  obtain ⟨tk, ts, tn, tp⟩ := t
  skip
  go_enter Tryd.func110, Tryd.ntmps110
  go_wp2_with fail
  refine calls_fresh (fun W => Opd w r g o c (⟨tk, ts, tn, tp⟩ :: l) nest ⟨tk, ts, tn, tp⟩ w.heap.size z5 #[.int .i64 0, .string ⟨#[]⟩, .int .i64 0, .slice none 0 0, .int .i64 tp] W) ?_ ?_
  · have hF : Fr [] w (((w.alloc (.cells z5 80)).alloc (.cells #[.int .i64 (tk), .string ts, .int .i64 tn, .int .i64 tp] 25)).alloc (.cells #[.int .i64 0, .string ⟨#[]⟩, .int .i64 0, .slice none 0 0, .int .i64 tp] 80)) := (((Fr.refl _ _).alloc _).alloc _).alloc _
    exact ⟨hR.out.fr hF List.not_mem_nil List.not_mem_nil, (alloc3 _ _ _ _).1, (alloc3 _ _ _ _).2.1, (alloc3 _ _ _ _).2.2, hF.sub, hr, hg, rfl⟩
  intro W h1
  clear a0 a1 a2 a3 c0 hlc hR hm
  obtain ⟨b, hb⟩ : ∃ b, w.heap.size = b := ⟨_, rfl⟩
  rw [hb] at h1 ⊢
  have H := Lib.hid h1
  have HB := Lib.hid hb
  have hrb : r < b := by omega
  have hgb : g < b := by omega
  clear h1 hb
  have HN := Lib.hid (rd_next_is W r g o c ⟨_, ts, tn, tp⟩ l nest 4 ⟨#[40]⟩ true H.out.rd HP0.out)
  go_wp2_with fail
  refine HN.out.mono ?_
  rintro e w1 ⟨rfl, rfl⟩
  clear HN
  by_cases hn2 : nest < 12
  · have HN2 := Lib.hid hn2
    have HP : Hid (Pol.within f nest tp l = match Pol.or_ f (nest + 1) l with
      | .error e => .error e
      | .ok (x, m) => match Pol.must m [41] with
        | .error e => .error e
        | .ok (_, m) => .ok (x, m)) := by show _ = _; unfold Pol.within; rw [if_neg (by omega)]
    clear hn2
    have HN := Lib.hid (rd_deeper_yes W r g o c _ l nest H.out.rd HN2.out)
    go_wp2_with fail
    refine HN.out.mono ?_
    rintro e W1 ⟨rfl, hf1, hr1⟩
    have H := Lib.hid (H.out.step hf1 hr1)
    clear HN hf1 hr1
    have HN := Lib.hid (rd_must_yes W1 r g _ _ _ l (nest + 1) ⟨#[40]⟩ H.out.rd hl HP0.out)
    go_wp2_with fail
    refine HN.out.mono ?_
    rintro e W2 ⟨rfl, hf1, hr1⟩
    have H := Lib.hid (H.out.step hf1 hr1)
    clear HN hf1 hr1
    have hr2 : r < W2.heap.size := Nat.lt_of_lt_of_le hr H.out.f.size
    have hb2 : b + 1 + 1 < W2.heap.size := row_lt H.out.ex
    have HN := Lib.hid (HO.out W2 r g _ _ l (nest + 1) H.out.rd HE.out HN2.out hr2 (fun p hp => HFD.out p (by show Pol.within f nest tp l = _; rw [HP.out, hp])))
    obtain ⟨q, hq⟩ : ∃ q, Pol.or_ f (nest + 1) l = q := ⟨_, rfl⟩
    rw [hq] at HN HP
    have Hq := Lib.hid hq
    clear hq HO
    have ef : ∀ i, W2.frozen? ⟨(b + 1 + 1), i, none⟩ = false := fun i => Lib.frozen_of_heap H.out.ex i
    have e0 : W2.cell? ⟨(b + 1 + 1), 0, none⟩ = some (.int .i64 0) := by rw [Lib.cell_of_heap H.out.ex]; rfl
    have e1 : W2.cell? ⟨(b + 1 + 1), 1, none⟩ = some (.string ⟨#[]⟩) := by rw [Lib.cell_of_heap H.out.ex]; rfl
    have e2 : W2.cell? ⟨(b + 1 + 1), 2, none⟩ = some (.int .i64 0) := by rw [Lib.cell_of_heap H.out.ex]; rfl
    have e3 : W2.cell? ⟨(b + 1 + 1), 3, none⟩ = some (.slice none 0 0) := by rw [Lib.cell_of_heap H.out.ex]; rfl
    have e4 : W2.cell? ⟨(b + 1 + 1), 4, none⟩ = some (.int .i64 tp) := by rw [Lib.cell_of_heap H.out.ex]; rfl
    go_wp2_with fail
    refine HN.out.mono ?_
    intro e W3 hd
    cases q with
    | error pe =>
      obtain ⟨pp, pn⟩ := pe
      have HPP : Hid (Pol.within f nest tp l = .error (pp, pn)) := HP.out
      have hs : Stops [r] W2 pp pn e W3 := hd
      obtain ⟨b9, hb9, rfl, hrow9, hf9⟩ := hs.from (bs := [r]) H.out.f (fun y hy => .inl (by simpa using hy))
      show _
      exact ⟨rfl, by rw [HPP.out]; exact Done.stop ⟨b9, hb9, rfl, hrow9, hf9⟩⟩
    | ok xm =>
      obtain ⟨x, m⟩ := xm
      obtain ⟨cs, rfl, hrep, hf3, o3, c3, hr3⟩ := hd
      obtain ⟨op, s9, n9, q9, k9, c9, p9, rfl⟩ := hrep.form
      have H := Lib.hid (H.out.step hf3 hr3)
      have hEm : Ends m := (Pol.all_keep f).2.2.2.2.2.2.2 (nest + 1) l x m Hq.out HE.out
      have hrb2 : W2.heap.size ≤ W3.heap.size := hf3.size
      have HREP := Lib.hid hrep
      have HEM := Lib.hid hEm
      clear e0 e1 e2 e3 e4 ef hf3 hr3 hrep hEm HN
      have ef : ∀ i, W3.frozen? ⟨(b + 1 + 1), i, none⟩ = false := fun i => Lib.frozen_of_heap H.out.ex i
      have e0 : W3.cell? ⟨(b + 1 + 1), 0, none⟩ = some (.int .i64 0) := by rw [Lib.cell_of_heap H.out.ex]; rfl
      have e1 : W3.cell? ⟨(b + 1 + 1), 1, none⟩ = some (.string ⟨#[]⟩) := by rw [Lib.cell_of_heap H.out.ex]; rfl
      have e2 : W3.cell? ⟨(b + 1 + 1), 2, none⟩ = some (.int .i64 0) := by rw [Lib.cell_of_heap H.out.ex]; rfl
      have e3 : W3.cell? ⟨(b + 1 + 1), 3, none⟩ = some (.slice none 0 0) := by rw [Lib.cell_of_heap H.out.ex]; rfl
      have e4 : W3.cell? ⟨(b + 1 + 1), 4, none⟩ = some (.int .i64 tp) := by rw [Lib.cell_of_heap H.out.ex]; rfl
      have H := Lib.hid (((((H.out.sete 0 (.int .i64 op)).sete 1 (.string s9)).sete 2 (.int .i64 n9)).sete 3 (.slice q9 k9 c9)).sete 4 (.int .i64 p9))
      obtain ⟨t3, l3, rfl⟩ := HEM.out.cons
      cases hq4 : Pol.is (t3 :: l3) 4 [41] with
      | false =>
        have HPP : Hid (Pol.within f nest tp l = .error (t3.p, 120)) := by show _ = _; rw [HP.out]; simp only [must_neg hq4]
        have HP1 := Lib.hid hq4
        clear hq4 HP
        have HP := HPP
        have HN := Lib.hid (rd_must_no _ r g _ _ t3 l3 (nest + 1) ⟨#[41]⟩ H.out.rd HP1.out)
        go_wp2_with fail
        refine HN.out.mono ?_
        intro e w1 hs
        obtain ⟨b9, hb9, rfl, hrow9, hf9⟩ := hs.from (bs := [r]) H.out.f (fun y hy => .inl (by simpa using hy))
        show _
        exact ⟨rfl, by first | exact Done.stop ⟨b9, hb9, rfl, hrow9, hf9⟩ | (rw [HP.out]; exact Done.stop ⟨b9, hb9, rfl, hrow9, hf9⟩)⟩
      | true =>
        have HPP : Hid (Pol.within f nest tp l = .ok (x, l3)) := by show _ = _; rw [HP.out]; simp only [must_pos hq4]
        have hE3 : Ends l3 := Pol.is_tail hq4 (by decide) HEM.out
        have hl3 := hE3.pos
        have HP1 := Lib.hid hq4
        clear hq4 HP hE3
        have HN := Lib.hid (rd_must_yes _ r g _ _ t3 l3 (nest + 1) ⟨#[41]⟩ H.out.rd hl3 HP1.out)
        go_wp2_with fail
        refine HN.out.mono ?_
        rintro e W4 ⟨rfl, hf1, hr1⟩
        have HREP4 : Hid (Rep W4 (fun g => w.heap.size ≤ g ∧ g ≠ b ∧ g ≠ b + 1 + 1 ∧ g ≠ r) [.int .i64 op, .string s9, .int .i64 n9, .slice q9 k9 c9, .int .i64 p9] x) := by
          show Rep _ _ _ _
          have h0 : Rep W3 (fun g => w.heap.size ≤ g ∧ g ≠ b ∧ g ≠ b + 1 + 1 ∧ g ≠ r) _ x := HREP.out.mono (fun g _ h => by have := HB.out; have h : W2.heap.size ≤ g := h; omega)
          refine Rep.fr hf1 (fun y hy _ => by simp only [List.mem_singleton] at hy; subst hy; simp) (Rep.fr (bs := [b + 1 + 1]) ((((((Fr.refl _ _).setCell (p := ⟨b + 1 + 1, 0, none⟩) (.inl (by simp)) _).setCell (p := ⟨b + 1 + 1, 1, none⟩) (.inl (by simp)) _).setCell (p := ⟨b + 1 + 1, 2, none⟩) (.inl (by simp)) _).setCell (p := ⟨b + 1 + 1, 3, none⟩) (.inl (by simp)) _).setCell (p := ⟨b + 1 + 1, 4, none⟩) (.inl (by simp)) _) (fun y hy _ => by simp only [List.mem_singleton] at hy; subst hy; simp) h0)
        have H := Lib.hid (H.out.step hf1 hr1)
        clear HN hf1 hr1 e0 e1 e2 e3 e4 ef HREP hrb2 hb2 hr2
        have c1 := H.out.rd.c1
        have f1 := frozen_of_row _ _ 1 _ _ H.out.rd.row
        have e9 : ((nest + 1 : Nat) : Int) - 1 = (nest : Int) := by omega
        rw [show ((nest + 1 : Nat) : Int) = (nest : Int) + 1 by omega] at c1
        have hn0 : (0 : Int) ≤ nest := by omega
        have hn12 : (nest : Int) ≤ 12 := by omega
        have ef : ∀ i, W4.frozen? ⟨(b + 1 + 1), i, none⟩ = false := fun i => Lib.frozen_of_heap H.out.ex i
        have e0 : W4.cell? ⟨(b + 1 + 1), 0, none⟩ = some (.int .i64 op) := by rw [Lib.cell_of_heap H.out.ex]; rfl
        have e1 : W4.cell? ⟨(b + 1 + 1), 1, none⟩ = some (.string s9) := by rw [Lib.cell_of_heap H.out.ex]; rfl
        have e2 : W4.cell? ⟨(b + 1 + 1), 2, none⟩ = some (.int .i64 n9) := by rw [Lib.cell_of_heap H.out.ex]; rfl
        have e3 : W4.cell? ⟨(b + 1 + 1), 3, none⟩ = some (.slice q9 k9 c9) := by rw [Lib.cell_of_heap H.out.ex]; rfl
        have e4 : W4.cell? ⟨(b + 1 + 1), 4, none⟩ = some (.int .i64 p9) := by rw [Lib.cell_of_heap H.out.ex]; rfl
        have zf : ∀ i, W4.frozen? ⟨b, i, none⟩ = false := fun i => Lib.frozen_of_heap H.out.res i
        have z0 : W4.cell? ⟨b, 0, none⟩ = some (.int .i64 0) := by rw [Lib.cell_of_heap H.out.res]; rfl
        have z1 : W4.cell? ⟨b, 1, none⟩ = some (.string ⟨#[]⟩) := by rw [Lib.cell_of_heap H.out.res]; rfl
        have z2 : W4.cell? ⟨b, 2, none⟩ = some (.int .i64 0) := by rw [Lib.cell_of_heap H.out.res]; rfl
        have z3 : W4.cell? ⟨b, 3, none⟩ = some (.slice none 0 0) := by rw [Lib.cell_of_heap H.out.res]; rfl
        have z4 : W4.cell? ⟨b, 4, none⟩ = some (.int .i64 0) := by rw [Lib.cell_of_heap H.out.res]; rfl
        have HT := Lib.hid ((((((H.out.less).setr 0 (.int .i64 op)).setr 1 (.string s9)).setr 2 (.int .i64 n9)).setr 3 (.slice q9 k9 c9)).setr 4 (.int .i64 p9))
        have HREP5 : Hid (Rep _ _ _ _) := Rep.fr (bs := [r, b]) (((((((Fr.refl [r, b] W4).setCell (p := ⟨r, 1, none⟩) (.inl (by simp)) (.int .i64 (nest : Int))).setCell (p := ⟨b, 0, none⟩) (.inl (by simp)) (.int .i64 op)).setCell (p := ⟨b, 1, none⟩) (.inl (by simp)) (.string s9)).setCell (p := ⟨b, 2, none⟩) (.inl (by simp)) (.int .i64 n9)).setCell (p := ⟨b, 3, none⟩) (.inl (by simp)) (.slice q9 k9 c9)).setCell (p := ⟨b, 4, none⟩) (.inl (by simp)) (.int .i64 p9)) (fun y hy _ => by simp only [List.mem_cons, List.not_mem_nil, or_false] at hy; rcases hy with rfl | rfl <;> simp) HREP4.out
        go_wp2_with fail
        refine bodyPost_ret (v := .agg #[.int .i64 op, .string s9, .int .i64 n9, .slice q9 k9 c9, .int .i64 p9]) (results_cell_row rfl _ _ b _ _ (0, 0) _ rfl HT.out.res Tryd.underlying80 rfl (by kernel_rfl)) rfl ?_
        rw [HPP.out]
        exact Done.ok rfl (HREP5.out.mono (fun g _ h => h.1)) HT.out.f HT.out.rd
  · have HN2 := Lib.hid hn2
    have HP : Hid (Pol.within f nest tp l = .error (tp, 121)) := by show _ = _; unfold Pol.within; rw [if_pos (by omega)]
    clear hn2
    have HN := Lib.hid (rd_deeper_no W r g o c _ l nest H.out.rd HN2.out hn)
    go_wp2_with fail
    refine HN.out.mono ?_
    intro e w1 hs
    obtain ⟨b9, hb9, rfl, hrow9, hf9⟩ := hs.from (bs := [r]) H.out.f (fun y hy => .inl (by simpa using hy))
    show _
    exact ⟨rfl, by first | exact Done.stop ⟨b9, hb9, rfl, hrow9, hf9⟩ | (rw [HP.out]; exact Done.stop ⟨b9, hb9, rfl, hrow9, hf9⟩)⟩
end Go.Proofs.YtgklmpooonnmiaaDoor

namespace Go.Proofs.YtgklmpooonnmiaaDoor
open Go.RowKit
/-- not's own blocks: what it hands back, the token. -/
structure Tk2 (w : World) (r g o c : Nat) (l : List TI) (nest : Nat) (t : TI) (b : Nat) (rs : Array Value) (W : World) : Prop where
  rd : Rd W r g o c l nest
  res : W.heap[b]? = some (.cells rs 80 (0, 0))
  tok : W.heap[b + 1]? = some (.cells #[.int .i64 t.k, .string t.s, .int .i64 t.n, .int .i64 t.p] 25 (0, 0))
  f : Fr [r] w W
  rl : r < w.heap.size
  gl : g < w.heap.size
  bw : b = w.heap.size
theorem Tk2.step {w : World} {r g o c : Nat} {l : List TI} {nest : Nat} {t : TI} {b : Nat} {rs : Array Value} {W W' : World} {o' c' : Nat} {l' : List TI} {nest' : Nat} (h : Tk2 w r g o c l nest t b rs W) (hf : Fr [r] W W') (hr : Rd W' r g o' c' l' nest') : Tk2 w r g o' c' l' nest' t b rs W' := by
  have h1 := h.rl; have h2 := h.bw
  exact ⟨hr, hf.row h.res (by simp; omega), hf.row h.tok (by simp; omega), h.f.trans hf (fun y hy => .inl hy), h1, h.gl, h2⟩
theorem Tk2.fr {w : World} {r g o c : Nat} {l : List TI} {nest : Nat} {t : TI} {b : Nat} {rs : Array Value} {W W' : World} (h : Tk2 w r g o c l nest t b rs W) (hf : Fr [] W W') : Tk2 w r g o c l nest t b rs W' :=
  ⟨h.rd.fr hf (by simp) (by simp), hf.row h.res (by simp), hf.row h.tok (by simp), h.f.trans0 hf, h.rl, h.gl, h.bw⟩
theorem Tk2.setr {w : World} {r g o c : Nat} {l : List TI} {nest : Nat} {t : TI} {b : Nat} {rs : Array Value} {W : World} (h : Tk2 w r g o c l nest t b rs W) (i : Nat) (u : Value) : Tk2 w r g o c l nest t b (rs.setIfInBounds i u) (W.setCell ⟨b, i, none⟩ u) := by
  have h1 := h.rl; have h2 := h.bw; have h3 := h.gl
  have hf : Fr [b] W (W.setCell ⟨b, i, none⟩ u) := (Fr.refl _ _).setCell (p := ⟨b, i, none⟩) (.inl (by simp)) _
  exact ⟨h.rd.fr hf (by simp; omega) (by simp; omega), heap_set_row h.res i u, hf.row h.tok (by simp), h.f.setCell (p := ⟨b, i, none⟩) (.inr (by show _ ≤ b; omega)) _, h1, h3, h2⟩
theorem Tk2.cut {w : World} {r g o c : Nat} {l : List TI} {nest : Nat} {t u : TI} {b : Nat} {rs : Array Value} {W : World} (h : Tk2 w r g o c (u :: l) nest t b rs W) : Tk2 w r g (o + 4) (c - 1) l nest t b rs (W.setCell ⟨r, 0, none⟩ (.slice (some ⟨g, o + 4, none⟩) l.length (c - 1))) :=
  h.step ((Fr.refl [r] W).setCell (p := ⟨r, 0, none⟩) (.inl (by simp)) _) h.rd.cut
theorem Tk2.less {w : World} {r g o c : Nat} {l : List TI} {nest : Nat} {t : TI} {b : Nat} {rs : Array Value} {W : World} (h : Tk2 w r g o c l (nest + 1) t b rs W) : Tk2 w r g o c l nest t b rs (W.setCell ⟨r, 1, none⟩ (.int .i64 (nest : Int))) :=
  h.step ((Fr.refl [r] W).setCell (p := ⟨r, 1, none⟩) (.inl (by simp)) _) h.rd.less
/-- what stands behind 'not': the new expression's block be. -/
def NotEnd (w : World) (r g : Nat) (m : List TI) (nest : Nat) (t : TI) (b be : Nat) (x : Ex) (U : World) : Prop :=
  ∃ o c rb, Tk2 w r g o c m (nest + 1) t b z5 U ∧ U.heap[be]? = some (.cells #[.int .i64 6, .string ⟨#[]⟩, .int .i64 0, .slice (some ⟨rb, 0, none⟩) 1 1, .int .i64 t.p] 80 (0, 0)) ∧ b + 1 < be ∧
    Rep U (fun g => w.heap.size ≤ g ∧ g ≠ b ∧ g ≠ be ∧ g ≠ r) [.int .i64 6, .string ⟨#[]⟩, .int .i64 0, .slice (some ⟨rb, 0, none⟩) 1 1, .int .i64 t.p] (.mk 6 Pol.none_ 0 [x] t.p)
/-- five cells into the block b. -/
theorem fr_five (W : World) (bs : List Nat) (b : Nat) (v0 v1 v2 v3 v4 : Value) (hb : b ∈ bs) : Fr bs W (((((W.setCell ⟨b, 0, none⟩ v0).setCell ⟨b, 1, none⟩ v1).setCell ⟨b, 2, none⟩ v2).setCell ⟨b, 3, none⟩ v3).setCell ⟨b, 4, none⟩ v4) :=
  (((((Fr.refl bs W).setCell (p := ⟨b, 0, none⟩) (.inl hb) v0).setCell (p := ⟨b, 1, none⟩) (.inl hb) v1).setCell (p := ⟨b, 2, none⟩) (.inl hb) v2).setCell (p := ⟨b, 3, none⟩) (.inl hb) v3).setCell (p := ⟨b, 4, none⟩) (.inl hb) v4
theorem Tk2.other {w : World} {r g o c : Nat} {l : List TI} {nest : Nat} {t : TI} {b be : Nat} {rs : Array Value} {W W' : World} (h : Tk2 w r g o c l nest t b rs W) (hf : Fr [be] W W') (hb : b + 1 < be) : Tk2 w r g o c l nest t b rs W' := by
  have h1 := h.rl; have h2 := h.bw; have h3 := h.gl
  exact ⟨h.rd.fr hf (by simp; omega) (by simp; omega), hf.row h.res (by simp; omega), hf.row h.tok (by simp; omega), h.f.trans hf (fun y hy => .inr (by simp at hy; omega)), h1, h3, h2⟩
theorem heap_five {W : World} {b : Nat} {u0 u1 u2 u3 u4 : Value} {t : TypeId} (h : W.heap[b]? = some (.cells #[u0, u1, u2, u3, u4] t (0, 0))) (v0 v1 v2 v3 v4 : Value) :
    (((((W.setCell ⟨b, 0, none⟩ v0).setCell ⟨b, 1, none⟩ v1).setCell ⟨b, 2, none⟩ v2).setCell ⟨b, 3, none⟩ v3).setCell ⟨b, 4, none⟩ v4).heap[b]? = some (.cells #[v0, v1, v2, v3, v4] t (0, 0)) :=
  heap_set_row (heap_set_row (heap_set_row (heap_set_row (heap_set_row h 0 v0) 1 v1) 2 v2) 3 v3) 4 v4
theorem not_end {w : World} {r g o c : Nat} {m : List TI} {nest : Nat} {t : TI} {b be rb : Nat} {x : Ex} {cs : List Value} {U : World} (hT : Tk2 w r g o c m (nest + 1) t b z5 U) (he : U.heap[be]? = some (.cells z5 80 (0, 0))) (hb : b + 1 < be)
    (hr : U.heap[rb]? = some (.cells cs.toArray 80 (0, 0))) (hrb : b + 1 < rb) (hne : rb ≠ be) (hx : Rep U (fun g => w.heap.size ≤ g ∧ g ≠ be ∧ g ≠ b) cs x) :
    NotEnd w r g m nest t b be x (((((U.setCell ⟨be, 0, none⟩ (.int .i64 6)).setCell ⟨be, 1, none⟩ (.string ⟨#[]⟩)).setCell ⟨be, 2, none⟩ (.int .i64 0)).setCell ⟨be, 3, none⟩ (.slice (some ⟨rb, 0, none⟩) 1 1)).setCell ⟨be, 4, none⟩ (.int .i64 t.p)) := by
  have hf := fr_five U [be] be (.int .i64 6) (.string ⟨#[]⟩) (.int .i64 0) (.slice (some ⟨rb, 0, none⟩) 1 1) (.int .i64 t.p) (by simp)
  have h1 := hT.rl; have h2 := hT.bw
  have hx' := hx.fr hf (fun y hy _ => by simp only [List.mem_singleton] at hy; rw [hy]; simp)
  refine ⟨o, c, rb, hT.other hf hb, heap_five he _ _ _ _ _, hb, ?_⟩
  refine Rep.of_row 6 ⟨#[]⟩ 0 t.p [x] [cs] rb ⟨by omega, by omega, hne, by omega⟩ 80 1 rfl ?_ (Nat.le_refl _) (by decide) ?_
  · rw [show [cs].flatten = cs by simp]; exact hf.row hr (by simpa using hne)
  · intro i y cs' hi hc
    have h0 : i = 0 := by have := (List.getElem?_eq_some_iff.1 hi).1; simp at this; exact this
    subst h0
    simp at hi hc
    subst hi hc
    exact hx'.mono (fun g _ h => ⟨h.1, h.2.2, h.2.1, by omega⟩)
theorem wpAnyH_fresh {P : Program} {md : Region.Mode} {ops : Array Oper} {Q : Exit → Act → World → Prop} {T : World → Prop} {fuel : Nat} {listed : Array Bool} {a : Act} {w : World} (S : World → Prop) (hS : S w) (h : ∀ w, S w → wpAnyH P md ops Q T fuel listed a w) : wpAnyH P md ops Q T fuel listed a w := h w hS
def Pol.notOf (p : Int) : Pol.PR Ex → Pol.PR Ex
  | .error e => .error e
  | .ok (x, m) => .ok (.mk 6 Pol.none_ 0 [x] p, m)
theorem alloc2 (w : World) (a b : Obj) : ((w.alloc a).alloc b).heap[w.heap.size]? = some a ∧ ((w.alloc a).alloc b).heap[w.heap.size + 1]? = some b := by
  have e1 : (w.alloc a).heap.size = w.heap.size + 1 := by simp
  refine ⟨?_, ?_⟩
  · rw [Below.heap_alloc _ _ _ (by rw [e1]; omega)]; exact heap_alloc_last _ _
  · rw [← e1]; exact heap_alloc_last _ _
set_option maxHeartbeats 2000000 in
set_option maxRecDepth 100000 in
/-- no 'not': a comparison. -/
theorem not_no (q : Pol.PR Ex) (w : World) (r g o c : Nat) (t : TI) (l : List TI) (nest : Nat) (h : Rd w r g o c (t :: l) nest) (hr : r < w.heap.size) (hp : Pol.is (t :: l) 1 [110, 111, 116] = false)
    (hC : ∀ W o c, Rd W r g o c (t :: l) nest → r < W.heap.size → Calls Tryd.prog 108 #[.pointer (some ⟨r, 0, none⟩)] W (Done r g nest W q)) :
    Calls Tryd.prog 107 #[.pointer (some ⟨r, 0, none⟩)] w (Done r g nest w q) := by
  have HC := Lib.hid hC
  have HP0 := Lib.hid hp
  clear hp hC
  have hR := Lib.hid h
  obtain ⟨a0, a1, a2, a3⟩ := h.tk 0 t rfl
  have c0 := h.c0
  have hlc := h.lc
  have hm := h.cm
  have hg := h.gl
  have hne := h.ne
  rw [List.length_cons] at c0 hlc
  unfold maxLen at hm
  simp only [Nat.mul_zero, Nat.add_zero] at a0 a1 a2 a3
  clear h
  obtain ⟨tk, ts, tn, tp⟩ := t
  go_enter Tryd.func107, Tryd.ntmps107
  go_wp2_with fail
  refine calls_fresh (fun W => Tk2 w r g o c (⟨tk, ts, tn, tp⟩ :: l) nest ⟨tk, ts, tn, tp⟩ w.heap.size z5 W) ?_ ?_
  · have hF : Fr [] w ((w.alloc (.cells z5 80)).alloc (.cells #[.int .i64 tk, .string ts, .int .i64 tn, .int .i64 tp] 25)) := ((Fr.refl _ _).alloc _).alloc _
    exact ⟨hR.out.fr hF List.not_mem_nil List.not_mem_nil, (alloc2 _ _ _).1, (alloc2 _ _ _).2, hF.sub, hr, hg, rfl⟩
  intro W h1
  clear a0 a1 a2 a3 c0 hlc hR hm
  obtain ⟨b, hb⟩ : ∃ b, w.heap.size = b := ⟨_, rfl⟩
  rw [hb] at h1 ⊢
  have H := Lib.hid h1
  have HB := Lib.hid hb
  have hrb : r < b := by omega
  have hgb : g < b := by omega
  clear h1 hb
  have HN := Lib.hid (rd_next_is W r g o c ⟨_, ts, tn, tp⟩ l nest 1 ⟨#[110, 111, 116]⟩ false H.out.rd HP0.out)
  go_wp2_with fail
  refine HN.out.mono ?_
  rintro e w1 ⟨rfl, rfl⟩
  clear HN
  have hr2 : r < W.heap.size := Nat.lt_of_lt_of_le hr H.out.f.size
  have HN := Lib.hid (HC.out W _ _ H.out.rd hr2)
  have hbW : b < W.heap.size := row_lt H.out.res
  go_wp2_with fail
  refine HN.out.mono ?_
  intro e W3 hd
  obtain ⟨qq, hq⟩ : ∃ qq, q = qq := ⟨_, rfl⟩
  rw [hq] at hd
  have HP := Lib.hid hq
  clear hq
  cases qq with
  | error pe =>
    obtain ⟨pp, pn⟩ := pe
    have hs : Stops [r] W pp pn e W3 := hd
    obtain ⟨b9, hb9, rfl, hrow9, hf9⟩ := hs.from (bs := [r]) H.out.f (fun y hy => .inl (by simpa using hy))
    show _
    exact ⟨rfl, by rw [HP.out]; exact Done.stop ⟨b9, hb9, rfl, hrow9, hf9⟩⟩
  | ok xm =>
    obtain ⟨x, m⟩ := xm
    obtain ⟨cs, rfl, hrep, hf3, o3, c3, hr3⟩ := hd
    obtain ⟨op, s9, n9, q9, k9, c9, p9, rfl⟩ := hrep.form
    have H := Lib.hid (H.out.step hf3 hr3)
    have hrb2 : W.heap.size ≤ W3.heap.size := hf3.size
    have HREP5 : Hid (Rep _ _ _ _) := Rep.fr (fr_five W3 [b] b (.int .i64 op) (.string s9) (.int .i64 n9) (.slice q9 k9 c9) (.int .i64 p9) (by simp)) (fun y hy _ => by simp only [List.mem_singleton] at hy; rw [hy]; show ¬ W.heap.size ≤ b; omega) hrep
    clear hf3 hr3 hrep HN
    have zf : ∀ i, W3.frozen? ⟨b, i, none⟩ = false := fun i => Lib.frozen_of_heap H.out.res i
    have z0 : W3.cell? ⟨b, 0, none⟩ = some (.int .i64 0) := by rw [Lib.cell_of_heap H.out.res]; rfl
    have z1 : W3.cell? ⟨b, 1, none⟩ = some (.string ⟨#[]⟩) := by rw [Lib.cell_of_heap H.out.res]; rfl
    have z2 : W3.cell? ⟨b, 2, none⟩ = some (.int .i64 0) := by rw [Lib.cell_of_heap H.out.res]; rfl
    have z3 : W3.cell? ⟨b, 3, none⟩ = some (.slice none 0 0) := by rw [Lib.cell_of_heap H.out.res]; rfl
    have z4 : W3.cell? ⟨b, 4, none⟩ = some (.int .i64 0) := by rw [Lib.cell_of_heap H.out.res]; rfl
    have HT := Lib.hid (((((H.out.setr 0 (.int .i64 op)).setr 1 (.string s9)).setr 2 (.int .i64 n9)).setr 3 (.slice q9 k9 c9)).setr 4 (.int .i64 p9))
    go_wp2_with fail
    refine bodyPost_ret (v := .agg #[.int .i64 op, .string s9, .int .i64 n9, .slice q9 k9 c9, .int .i64 p9]) (results_cell_row rfl _ _ b _ _ (0, 0) _ rfl HT.out.res Tryd.underlying80 rfl (by kernel_rfl)) rfl ?_
    rw [HP.out]
    exact Done.ok rfl (HREP5.out.mono (fun g _ h => by have := HB.out; have h : W.heap.size ≤ g := h; omega)) HT.out.f HT.out.rd
set_option maxHeartbeats 2000000 in
set_option maxRecDepth 100000 in
/-- 'not' within too many. -/
theorem not_deep (w : World) (r g o c : Nat) (t : TI) (l : List TI) (nest : Nat) (h : Rd w r g o c (t :: l) nest) (hr : r < w.heap.size) (hp : Pol.is (t :: l) 1 [110, 111, 116] = true) (hn : ¬ nest < 12) (h12 : nest ≤ 12) :
    Calls Tryd.prog 107 #[.pointer (some ⟨r, 0, none⟩)] w (Done r g nest w (.error (t.p, 121))) := by
  have HP0 := Lib.hid hp
  have HN2 := Lib.hid hn
  clear hp hn
  have hR := Lib.hid h
  obtain ⟨a0, a1, a2, a3⟩ := h.tk 0 t rfl
  have c0 := h.c0
  have hlc := h.lc
  have hm := h.cm
  have hg := h.gl
  have hne := h.ne
  rw [List.length_cons] at c0 hlc
  unfold maxLen at hm
  simp only [Nat.mul_zero, Nat.add_zero] at a0 a1 a2 a3
  clear h
  obtain ⟨tk, ts, tn, tp⟩ := t
  go_enter Tryd.func107, Tryd.ntmps107
  go_wp2_with fail
  refine calls_fresh (fun W => Tk2 w r g o c (⟨tk, ts, tn, tp⟩ :: l) nest ⟨tk, ts, tn, tp⟩ w.heap.size z5 W) ?_ ?_
  · have hF : Fr [] w ((w.alloc (.cells z5 80)).alloc (.cells #[.int .i64 tk, .string ts, .int .i64 tn, .int .i64 tp] 25)) := ((Fr.refl _ _).alloc _).alloc _
    exact ⟨hR.out.fr hF List.not_mem_nil List.not_mem_nil, (alloc2 _ _ _).1, (alloc2 _ _ _).2, hF.sub, hr, hg, rfl⟩
  intro W h1
  clear a0 a1 a2 a3 c0 hlc hR hm
  obtain ⟨b, hb⟩ : ∃ b, w.heap.size = b := ⟨_, rfl⟩
  rw [hb] at h1 ⊢
  have H := Lib.hid h1
  have HB := Lib.hid hb
  have hrb : r < b := by omega
  have hgb : g < b := by omega
  clear h1 hb
  have HN := Lib.hid (rd_next_is W r g o c ⟨_, ts, tn, tp⟩ l nest 1 ⟨#[110, 111, 116]⟩ true H.out.rd HP0.out)
  go_wp2_with fail
  refine HN.out.mono ?_
  rintro e w1 ⟨rfl, rfl⟩
  clear HN
  have HN := Lib.hid (rd_deeper_no W r g o c _ l nest H.out.rd HN2.out h12)
  go_wp2_with fail
  refine HN.out.mono ?_
  intro e w1 hs
  have HP : Hid (True = True) := rfl
  obtain ⟨b9, hb9, rfl, hrow9, hf9⟩ := hs.from (bs := [r]) H.out.f (fun y hy => .inl (by simpa using hy))
  show _
  exact ⟨rfl, Done.stop ⟨b9, hb9, rfl, hrow9, hf9⟩⟩
set_option maxHeartbeats 2000000 in
set_option maxRecDepth 100000 in
/-- 'not' of one. -/
theorem not_yes (q : Pol.PR Ex) (w : World) (r g o c : Nat) (t : TI) (l : List TI) (nest : Nat) (h : Rd w r g o c (t :: l) nest) (hr : r < w.heap.size) (hE : Ends l) (hp : Pol.is (t :: l) 1 [110, 111, 116] = true) (hn : nest < 12)
    (hC : ∀ W o c, Rd W r g o c l (nest + 1) → r < W.heap.size → Calls Tryd.prog 107 #[.pointer (some ⟨r, 0, none⟩)] W (Done r g (nest + 1) W q)) :
    Calls Tryd.prog 107 #[.pointer (some ⟨r, 0, none⟩)] w (Done r g nest w (Pol.notOf t.p q)) := by
  have HC := Lib.hid hC
  have HP0 := Lib.hid hp
  have hl := hE.pos
  have HN2 := Lib.hid hn
  clear hp hE hC
  have hR := Lib.hid h
  obtain ⟨a0, a1, a2, a3⟩ := h.tk 0 t rfl
  have c0 := h.c0
  have hlc := h.lc
  have hm := h.cm
  have hg := h.gl
  have hne := h.ne
  rw [List.length_cons] at c0 hlc
  unfold maxLen at hm
  simp only [Nat.mul_zero, Nat.add_zero] at a0 a1 a2 a3
  clear h
  obtain ⟨tk, ts, tn, tp⟩ := t
  go_enter Tryd.func107, Tryd.ntmps107
  go_wp2_with fail
  refine calls_fresh (fun W => Tk2 w r g o c (⟨tk, ts, tn, tp⟩ :: l) nest ⟨tk, ts, tn, tp⟩ w.heap.size z5 W) ?_ ?_
  · have hF : Fr [] w ((w.alloc (.cells z5 80)).alloc (.cells #[.int .i64 tk, .string ts, .int .i64 tn, .int .i64 tp] 25)) := ((Fr.refl _ _).alloc _).alloc _
    exact ⟨hR.out.fr hF List.not_mem_nil List.not_mem_nil, (alloc2 _ _ _).1, (alloc2 _ _ _).2, hF.sub, hr, hg, rfl⟩
  intro W h1
  clear a0 a1 a2 a3 c0 hlc hR hm
  obtain ⟨b, hb⟩ : ∃ b, w.heap.size = b := ⟨_, rfl⟩
  rw [hb] at h1 ⊢
  have H := Lib.hid h1
  have HB := Lib.hid hb
  have hrb : r < b := by omega
  have hgb : g < b := by omega
  clear h1 hb
  have HN := Lib.hid (rd_next_is W r g o c ⟨_, ts, tn, tp⟩ l nest 1 ⟨#[110, 111, 116]⟩ true H.out.rd HP0.out)
  go_wp2_with fail
  refine HN.out.mono ?_
  rintro e w1 ⟨rfl, rfl⟩
  clear HN
  have HN := Lib.hid (rd_deeper_yes W r g o c _ l nest H.out.rd HN2.out)
  go_wp2_with fail
  refine HN.out.mono ?_
  rintro e W1 ⟨rfl, hf1, hr1⟩
  have H := Lib.hid (H.out.step hf1 hr1)
  clear HN hf1 hr1
  have c0 := H.out.rd.c0
  have f0 := frozen_of_row _ _ 0 _ _ H.out.rd.row
  have hlc := H.out.rd.lc
  have hm := H.out.rd.cm
  have hne := H.out.rd.ne
  rw [List.length_cons] at c0 hlc
  unfold maxLen at hm
  go_wp2_with fail
  refine wp_fresh (fun V => Tk2 w r g (o + 4) (c - 1) l (nest + 1) ⟨tk, ts, tn, tp⟩ b z5 V) H.out.cut ?_
  intro V h1
  have H := Lib.hid h1
  clear h1 c0 f0 hlc hm
  have hr2 : r < V.heap.size := Nat.lt_of_lt_of_le hr H.out.f.size
  have hbV : b + 1 < V.heap.size := row_lt H.out.tok
  have kf : ∀ i, V.frozen? ⟨(b + 1), i, none⟩ = false := fun i => Lib.frozen_of_heap H.out.tok i
  have k0 : V.cell? ⟨(b + 1), 0, none⟩ = some (.int .i64 tk) := by rw [Lib.cell_of_heap H.out.tok]; rfl
  have k1 : V.cell? ⟨(b + 1), 1, none⟩ = some (.string ts) := by rw [Lib.cell_of_heap H.out.tok]; rfl
  have k2 : V.cell? ⟨(b + 1), 2, none⟩ = some (.int .i64 tn) := by rw [Lib.cell_of_heap H.out.tok]; rfl
  have k3 : V.cell? ⟨(b + 1), 3, none⟩ = some (.int .i64 tp) := by rw [Lib.cell_of_heap H.out.tok]; rfl
  have HS : Hid (∀ (U : World) o c l nest, Tk2 w r g o c l nest ⟨tk, ts, tn, tp⟩ b z5 U → U.cell? ⟨b + 1, 3, none⟩ = some (.int .i64 tp)) := fun U _ _ _ _ h => by rw [Lib.cell_of_heap h.tok]; rfl
  have HT0 : Hid (Tk2 w r g (o + 4) (c - 1) l (nest + 1) ⟨tk, ts, tn, tp⟩ b z5 V.drew) := H.out.fr (Fr.refl [] _).drew
  have HBV : Hid (b + 1 < V.heap.size) := hbV
  have HCC : Hid (∀ (U : World) o c, Tk2 w r g o c l (nest + 1) ⟨tk, ts, tn, tp⟩ b z5 U → Calls Tryd.prog 107 #[.pointer (some ⟨r, 0, none⟩)] U (Done r g (nest + 1) U q)) := fun U o c h => HC.out U o c h.rd (Nat.lt_of_lt_of_le h.rl h.f.size)
  cases q with
  | error pe =>
    obtain ⟨pp, pn⟩ := pe
    have HP : Hid (Pol.notOf tp (.error (pp, pn)) = .error (pp, pn)) := rfl
    have HX : Hid (∀ (U : World) o c, Tk2 w r g o c l (nest + 1) ⟨tk, ts, tn, tp⟩ b z5 U → Calls Tryd.prog 107 #[.pointer (some ⟨r, 0, none⟩)] U (Stops [r] w pp pn)) := fun U o c h => (HCC.out U o c h).mono (fun x W' (hs : Stops [r] U pp pn x W') => hs.from h.f (fun y hy => .inl (by simpa using hy)))
    refine wp_region_held_drew (S := (fun W' => W'.cell? ⟨b + 1, 3, none⟩ = some (.int .i64 tp))) (by kernel_rfl) (show World.cell? _ _ = _ from k3) (fun hHeld => ?_)
    refine held_take (i := 0) (v := ?_) 26 rfl rfl (by kernel_rfl) (by kernel_rfl) (by kernel_rfl) (fun _ _ _ h => h) (Or.inl ⟨by rfl, ?_⟩) (by assumption) ?_
    rotate_left 1
    · intro w hSw; (try dsimp only at hSw); go_simp; try (with_reducible rfl)
    try simp only [Act.put, List.setIfInBounds_toArray, List.set_cons_zero, List.set_cons_succ]
    refine held_take (i := 1) (v := ?_) 27 rfl rfl (by kernel_rfl) (by kernel_rfl) (by kernel_rfl) (fun _ _ _ h => h) (Or.inl ⟨by rfl, ?_⟩) (by assumption) ?_
    rotate_left 1
    · intro w hSw; (try dsimp only at hSw); go_simp; try (with_reducible rfl)
    try simp only [Act.put, List.setIfInBounds_toArray, List.set_cons_zero, List.set_cons_succ]
    refine held_take (i := 2) (v := ?_) 28 rfl rfl (by kernel_rfl) (by kernel_rfl) (by kernel_rfl) (fun _ _ _ h => h) (Or.inl ⟨by rfl, ?_⟩) (by assumption) ?_
    rotate_left 1
    · intro w hSw; (try dsimp only at hSw); go_simp; try (with_reducible rfl)
    try simp only [Act.put, List.setIfInBounds_toArray, List.set_cons_zero, List.set_cons_succ]
    refine wpAnyH_ready (rs := [3, 6]) (by kernel_rfl) (by simp) ?_
    refine AllReadyH.cons rfl (fun K hK => ?_) (AllReadyH.cons rfl (fun K hK => ?_) AllReadyH.nil)
    · go_simp
      go_at_call 107
      refine (HX.out _ _ _ HT0.out).mono ?_
      rintro e w2 ⟨b9, hb9, rfl, hrow9, hf9⟩
      show _
      exact ⟨rfl, by rw [HP.out]; exact Done.stop ⟨b9, hb9, rfl, hrow9, hf9⟩⟩
    · have HT1 := Lib.hid (HT0.out.fr ((Fr.refl [] _).alloc (.cells z5 80)))
      go_simp
      refine hK.out _ _ (HS.out _ _ _ _ _ HT1.out) (fun hHeld => ?_)
      clear hK K
      refine wpAnyH_ready (rs := [3]) (by kernel_rfl) (by simp) ?_
      refine AllReadyH.cons rfl (fun K hK => ?_) AllReadyH.nil
      go_simp
      go_at_call 107
      refine (HX.out _ _ _ HT1.out).mono ?_
      rintro e w2 ⟨b9, hb9, rfl, hrow9, hf9⟩
      show _
      exact ⟨rfl, by rw [HP.out]; exact Done.stop ⟨b9, hb9, rfl, hrow9, hf9⟩⟩
  | ok xm =>
    obtain ⟨x, m⟩ := xm
    go_cut [4] from 26 to 31 (fun s4 wx => ∃ be, s4 = .pointer (some ⟨be, 0, none⟩) ∧ NotEnd w r g m nest ⟨tk, ts, tn, tp⟩ b be x wx)
    case rest =>
      obtain ⟨be, rfl, o9, c9, rb, hT9, hE9, hb9, hP9⟩ := hcut
      have H := Lib.hid hT9
      have HE := Lib.hid hE9
      have HB9 := Lib.hid hb9
      have hbe1 : b < be := by omega
      have hbe2 : be ≠ r := by omega
      have hbe3 : r ≠ be := by omega
      have hbe4 : b ≠ be := by omega
      have HREP5 : Hid (Rep _ _ _ _) := Rep.fr (bs := [r, b]) ((((((Fr.refl [r, b] wc).setCell (p := ⟨r, 1, none⟩) (.inl (by simp)) (.int .i64 (nest : Int))).setCell (p := ⟨b, 0, none⟩) (.inl (by simp)) (.int .i64 6)).setCell (p := ⟨b, 1, none⟩) (.inl (by simp)) (.string ⟨#[]⟩)).setCell (p := ⟨b, 2, none⟩) (.inl (by simp)) (.int .i64 0)).setCell (p := ⟨b, 3, none⟩) (.inl (by simp)) (.slice (some ⟨rb, 0, none⟩) 1 1) |>.setCell (p := ⟨b, 4, none⟩) (.inl (by simp)) (.int .i64 tp)) (fun y hy _ => by simp only [List.mem_cons, List.not_mem_nil, or_false] at hy; rcases hy with rfl | rfl <;> simp) hP9
      clear hT9 hE9 hP9 hb9 k0 k1 k2 k3 kf
      have c1 := H.out.rd.c1
      have f1 := frozen_of_row _ _ 1 _ _ H.out.rd.row
      rw [show ((nest + 1 : Nat) : Int) = (nest : Int) + 1 by omega] at c1
      have hn0 : (0 : Int) ≤ nest := by omega
      have hn12 : (nest : Int) ≤ 12 := by omega
      have ef : ∀ i, wc.frozen? ⟨(be), i, none⟩ = false := fun i => Lib.frozen_of_heap HE.out i
      have e0 : wc.cell? ⟨(be), 0, none⟩ = some (.int .i64 6) := by rw [Lib.cell_of_heap HE.out]; rfl
      have e1 : wc.cell? ⟨(be), 1, none⟩ = some (.string ⟨#[]⟩) := by rw [Lib.cell_of_heap HE.out]; rfl
      have e2 : wc.cell? ⟨(be), 2, none⟩ = some (.int .i64 0) := by rw [Lib.cell_of_heap HE.out]; rfl
      have e3 : wc.cell? ⟨(be), 3, none⟩ = some (.slice (some ⟨rb, 0, none⟩) 1 1) := by rw [Lib.cell_of_heap HE.out]; rfl
      have e4 : wc.cell? ⟨(be), 4, none⟩ = some (.int .i64 tp) := by rw [Lib.cell_of_heap HE.out]; rfl
      have zf : ∀ i, wc.frozen? ⟨b, i, none⟩ = false := fun i => Lib.frozen_of_heap H.out.res i
      have z0 : wc.cell? ⟨b, 0, none⟩ = some (.int .i64 0) := by rw [Lib.cell_of_heap H.out.res]; rfl
      have z1 : wc.cell? ⟨b, 1, none⟩ = some (.string ⟨#[]⟩) := by rw [Lib.cell_of_heap H.out.res]; rfl
      have z2 : wc.cell? ⟨b, 2, none⟩ = some (.int .i64 0) := by rw [Lib.cell_of_heap H.out.res]; rfl
      have z3 : wc.cell? ⟨b, 3, none⟩ = some (.slice none 0 0) := by rw [Lib.cell_of_heap H.out.res]; rfl
      have z4 : wc.cell? ⟨b, 4, none⟩ = some (.int .i64 0) := by rw [Lib.cell_of_heap H.out.res]; rfl
      have HT := Lib.hid ((((((H.out.less).setr 0 (.int .i64 6)).setr 1 (.string ⟨#[]⟩)).setr 2 (.int .i64 0)).setr 3 (.slice (some ⟨rb, 0, none⟩) 1 1)).setr 4 (.int .i64 tp))
      go_wp2_with fail
      refine bodyPost_ret (v := .agg #[.int .i64 6, .string ⟨#[]⟩, .int .i64 0, .slice (some ⟨rb, 0, none⟩) 1 1, .int .i64 tp]) (results_cell_row rfl _ _ b _ _ (0, 0) _ rfl HT.out.res Tryd.underlying80 rfl (by kernel_rfl)) rfl ?_
      exact Done.ok (x := .mk 6 Pol.none_ 0 [x] tp) rfl (HREP5.out.mono (fun g _ h => h.1)) HT.out.f HT.out.rd
    case first =>
      refine wp_region_held_drew (S := (fun W' => W'.cell? ⟨b + 1, 3, none⟩ = some (.int .i64 tp))) (by kernel_rfl) (show World.cell? _ _ = _ from k3) (fun hHeld => ?_)
      refine held_take (i := 0) (v := ?_) 26 rfl rfl (by kernel_rfl) (by kernel_rfl) (by kernel_rfl) (fun _ _ _ h => h) (Or.inl ⟨by rfl, ?_⟩) (by assumption) ?_
      rotate_left 1
      · intro w hSw; (try dsimp only at hSw); go_simp; try (with_reducible rfl)
      try simp only [Act.put, List.setIfInBounds_toArray, List.set_cons_zero, List.set_cons_succ]
      refine held_take (i := 1) (v := ?_) 27 rfl rfl (by kernel_rfl) (by kernel_rfl) (by kernel_rfl) (fun _ _ _ h => h) (Or.inl ⟨by rfl, ?_⟩) (by assumption) ?_
      rotate_left 1
      · intro w hSw; (try dsimp only at hSw); go_simp; try (with_reducible rfl)
      try simp only [Act.put, List.setIfInBounds_toArray, List.set_cons_zero, List.set_cons_succ]
      refine held_take (i := 2) (v := ?_) 28 rfl rfl (by kernel_rfl) (by kernel_rfl) (by kernel_rfl) (fun _ _ _ h => h) (Or.inl ⟨by rfl, ?_⟩) (by assumption) ?_
      rotate_left 1
      · intro w hSw; (try dsimp only at hSw); go_simp; try (with_reducible rfl)
      try simp only [Act.put, List.setIfInBounds_toArray, List.set_cons_zero, List.set_cons_succ]
      refine wpAnyH_ready (rs := [3, 6]) (by kernel_rfl) (by simp) ?_
      refine AllReadyH.cons rfl (fun K hK => ?_) (AllReadyH.cons rfl (fun K hK => ?_) AllReadyH.nil)
      · have HT1 := HT0
        go_simp
        go_at_call 107
        refine (HCC.out _ _ _ HT1.out).mono ?_
        rintro e w2 ⟨cs, rfl, hrep, hFb, o3, c3, hr3⟩
        obtain ⟨op, s9, n9, q9, k9, c9, p9, rfl⟩ := hrep.form
        have HT2 := Lib.hid (HT1.out.step hFb hr3)
        have HREP := Lib.hid hrep
        have HFB := Lib.hid hFb
        refine hK.out _ _ (HS.out _ _ _ _ _ HT2.out) (fun hHeld => ?_)
        clear hK K hrep hFb hr3
        try simp only [Act.put, List.setIfInBounds_toArray, List.set_cons_zero, List.set_cons_succ]
        refine wpAnyH_ready (rs := [4, 6]) (by kernel_rfl) (by simp) ?_
        refine AllReadyH.cons rfl (fun K hK => ?_) (AllReadyH.cons rfl (fun K hK => ?_) AllReadyH.nil)
        · -- the row first
          have HT3 := Lib.hid (HT2.out.fr ((Fr.refl [] _).alloc (.cells #[.int .i64 op, .string s9, .int .i64 n9, .slice q9 k9 c9, .int .i64 p9] 80)))
          go_simp
          refine hK.out _ _ (HS.out _ _ _ _ _ HT3.out) (fun hHeld => ?_)
          clear hK K
          try simp only [Act.put, List.setIfInBounds_toArray, List.set_cons_zero, List.set_cons_succ]
          refine held_take (i := 5) (v := ?_) 31 rfl rfl (by kernel_rfl) (by kernel_rfl) (by kernel_rfl) (fun _ _ _ h => h) (Or.inl ⟨by rfl, ?_⟩) (by assumption) ?_
          rotate_left 1
          · intro w hSw; (try dsimp only at hSw); go_simp; try (with_reducible rfl)
          try simp only [Act.put, List.setIfInBounds_toArray, List.set_cons_zero, List.set_cons_succ]
          refine wpAnyH_ready (rs := [6]) (by kernel_rfl) (by simp) ?_
          refine AllReadyH.cons rfl (fun K hK => ?_) AllReadyH.nil
          have HT4 := Lib.hid (HT3.out.fr ((Fr.refl [] _).alloc (.cells z5 80)))
          go_simp
          refine hK.out _ _ (HS.out _ _ _ _ _ HT4.out) (fun hHeld => ?_)
          clear hK K
          try simp only [Act.put, List.setIfInBounds_toArray, List.set_cons_zero, List.set_cons_succ]
          have hbb : b + 1 < w2.heap.size := row_lt HT2.out.tok
          refine wpAnyH_fresh (fun U => Tk2 w r g o3 c3 m (nest + 1) ⟨tk, ts, tn, tp⟩ b z5 U ∧ U.heap[w2.heap.size + 1]? = some (.cells z5 80 (0, 0)) ∧ U.heap[w2.heap.size]? = some (.cells [.int .i64 op, .string s9, .int .i64 n9, .slice q9 k9 c9, .int .i64 p9].toArray 80 (0, 0)) ∧ Rep U (fun g => w.heap.size ≤ g ∧ g ≠ w2.heap.size + 1 ∧ g ≠ b) [.int .i64 op, .string s9, .int .i64 n9, .slice q9 k9 c9, .int .i64 p9] x) ⟨HT4.out, (alloc2 _ _ _).2, (alloc2 _ _ _).1, Rep.fr (((Fr.refl [] _).alloc _).alloc _) (fun y hy => by cases hy) (HREP.out.mono (fun g hg h => by have h2 : V.heap.size ≤ g := h; have h9 := HBV.out; have := HB.out; exact ⟨by omega, by omega, by have := HBV.out; omega⟩))⟩ ?_
          rintro U ⟨t5, e5, r5, p5⟩
          have HT5 := Lib.hid t5
          have HE5 := Lib.hid e5
          have HR5 := Lib.hid r5
          have HP5 := Lib.hid p5
          have hSU := HS.out _ _ _ _ _ t5
          clear t5 e5 r5 p5
          have ef : ∀ i, U.frozen? ⟨(w2.heap.size + 1), i, none⟩ = false := fun i => Lib.frozen_of_heap HE5.out i
          have e0 : U.cell? ⟨(w2.heap.size + 1), 0, none⟩ = some (.int .i64 0) := by rw [Lib.cell_of_heap HE5.out]; rfl
          have e1 : U.cell? ⟨(w2.heap.size + 1), 1, none⟩ = some (.string ⟨#[]⟩) := by rw [Lib.cell_of_heap HE5.out]; rfl
          have e2 : U.cell? ⟨(w2.heap.size + 1), 2, none⟩ = some (.int .i64 0) := by rw [Lib.cell_of_heap HE5.out]; rfl
          have e3 : U.cell? ⟨(w2.heap.size + 1), 3, none⟩ = some (.slice none 0 0) := by rw [Lib.cell_of_heap HE5.out]; rfl
          have e4 : U.cell? ⟨(w2.heap.size + 1), 4, none⟩ = some (.int .i64 0) := by rw [Lib.cell_of_heap HE5.out]; rfl
          have HEND := Lib.hid (not_end HT5.out HE5.out (by omega) HR5.out (by omega) (by omega) HP5.out)
          have HS9 := Lib.hid (HS.out _ _ _ _ _ (HT5.out.other (fr_five U [w2.heap.size + 1] (w2.heap.size + 1) (.int .i64 6) (.string ⟨#[]⟩) (.int .i64 0) (.slice (some ⟨w2.heap.size, 0, none⟩) 1 1) (.int .i64 tp) (by simp)) (by omega)))
          have hne0 : w2.heap.size + 1 ≠ b + 1 := by omega
          have hne1 : b + 1 ≠ w2.heap.size + 1 := by omega
          refine wpAnyH_ready (rs := [7]) (by kernel_rfl) (by simp) ?_
          refine AllReadyH.cons rfl (fun K hK => ?_) AllReadyH.nil
          go_simp
          refine hK.out _ _ HS9.out (fun hHeld => ?_)
          clear hK K
          try simp only [Act.put, List.setIfInBounds_toArray, List.set_cons_zero, List.set_cons_succ]
          refine wpAnyH_done (by kernel_rfl) ?_ _
          go_wp2_with fail
          go_meet
          exact ⟨_, rfl, HEND.out⟩
        · -- the variable first
          have HT3 := Lib.hid (HT2.out.fr ((Fr.refl [] _).alloc (.cells z5 80)))
          go_simp
          refine hK.out _ _ (HS.out _ _ _ _ _ HT3.out) (fun hHeld => ?_)
          clear hK K
          try simp only [Act.put, List.setIfInBounds_toArray, List.set_cons_zero, List.set_cons_succ]
          refine wpAnyH_ready (rs := [4]) (by kernel_rfl) (by simp) ?_
          refine AllReadyH.cons rfl (fun K hK => ?_) AllReadyH.nil
          have HT4 := Lib.hid (HT3.out.fr ((Fr.refl [] _).alloc (.cells #[.int .i64 op, .string s9, .int .i64 n9, .slice q9 k9 c9, .int .i64 p9] 80)))
          go_simp
          refine hK.out _ _ (HS.out _ _ _ _ _ HT4.out) (fun hHeld => ?_)
          clear hK K
          try simp only [Act.put, List.setIfInBounds_toArray, List.set_cons_zero, List.set_cons_succ]
          refine held_take (i := 5) (v := ?_) 31 rfl rfl (by kernel_rfl) (by kernel_rfl) (by kernel_rfl) (fun _ _ _ h => h) (Or.inl ⟨by rfl, ?_⟩) (by assumption) ?_
          rotate_left 1
          · intro w hSw; (try dsimp only at hSw); go_simp; try (with_reducible rfl)
          try simp only [Act.put, List.setIfInBounds_toArray, List.set_cons_zero, List.set_cons_succ]
          have hbb : b + 1 < w2.heap.size := row_lt HT2.out.tok
          refine wpAnyH_fresh (fun U => Tk2 w r g o3 c3 m (nest + 1) ⟨tk, ts, tn, tp⟩ b z5 U ∧ U.heap[w2.heap.size]? = some (.cells z5 80 (0, 0)) ∧ U.heap[w2.heap.size + 1]? = some (.cells [.int .i64 op, .string s9, .int .i64 n9, .slice q9 k9 c9, .int .i64 p9].toArray 80 (0, 0)) ∧ Rep U (fun g => w.heap.size ≤ g ∧ g ≠ w2.heap.size ∧ g ≠ b) [.int .i64 op, .string s9, .int .i64 n9, .slice q9 k9 c9, .int .i64 p9] x) ⟨HT4.out, (alloc2 _ _ _).1, (alloc2 _ _ _).2, Rep.fr (((Fr.refl [] _).alloc _).alloc _) (fun y hy => by cases hy) (HREP.out.mono (fun g hg h => by have h2 : V.heap.size ≤ g := h; have h9 := HBV.out; have := HB.out; exact ⟨by omega, by omega, by have := HBV.out; omega⟩))⟩ ?_
          rintro U ⟨t5, e5, r5, p5⟩
          have HT5 := Lib.hid t5
          have HE5 := Lib.hid e5
          have HR5 := Lib.hid r5
          have HP5 := Lib.hid p5
          have hSU := HS.out _ _ _ _ _ t5
          clear t5 e5 r5 p5
          have ef : ∀ i, U.frozen? ⟨(w2.heap.size), i, none⟩ = false := fun i => Lib.frozen_of_heap HE5.out i
          have e0 : U.cell? ⟨(w2.heap.size), 0, none⟩ = some (.int .i64 0) := by rw [Lib.cell_of_heap HE5.out]; rfl
          have e1 : U.cell? ⟨(w2.heap.size), 1, none⟩ = some (.string ⟨#[]⟩) := by rw [Lib.cell_of_heap HE5.out]; rfl
          have e2 : U.cell? ⟨(w2.heap.size), 2, none⟩ = some (.int .i64 0) := by rw [Lib.cell_of_heap HE5.out]; rfl
          have e3 : U.cell? ⟨(w2.heap.size), 3, none⟩ = some (.slice none 0 0) := by rw [Lib.cell_of_heap HE5.out]; rfl
          have e4 : U.cell? ⟨(w2.heap.size), 4, none⟩ = some (.int .i64 0) := by rw [Lib.cell_of_heap HE5.out]; rfl
          have HEND := Lib.hid (not_end HT5.out HE5.out (by omega) HR5.out (by omega) (by omega) HP5.out)
          have HS9 := Lib.hid (HS.out _ _ _ _ _ (HT5.out.other (fr_five U [w2.heap.size] (w2.heap.size) (.int .i64 6) (.string ⟨#[]⟩) (.int .i64 0) (.slice (some ⟨w2.heap.size + 1, 0, none⟩) 1 1) (.int .i64 tp) (by simp)) (by omega)))
          have hne0 : w2.heap.size ≠ b + 1 := by omega
          have hne1 : b + 1 ≠ w2.heap.size := by omega
          refine wpAnyH_ready (rs := [7]) (by kernel_rfl) (by simp) ?_
          refine AllReadyH.cons rfl (fun K hK => ?_) AllReadyH.nil
          go_simp
          refine hK.out _ _ HS9.out (fun hHeld => ?_)
          clear hK K
          try simp only [Act.put, List.setIfInBounds_toArray, List.set_cons_zero, List.set_cons_succ]
          refine wpAnyH_done (by kernel_rfl) ?_ _
          go_wp2_with fail
          go_meet
          exact ⟨_, rfl, HEND.out⟩
      · have HT1 := Lib.hid (HT0.out.fr ((Fr.refl [] _).alloc (.cells z5 80)))
        have HV1 := Lib.hid (heap_alloc_last V.drew (.cells z5 80))
        go_simp
        refine hK.out _ _ (HS.out _ _ _ _ _ HT1.out) (fun hHeld => ?_)
        clear hK K
        try simp only [Act.put, List.setIfInBounds_toArray, List.set_cons_zero, List.set_cons_succ]
        refine wpAnyH_ready (rs := [3]) (by kernel_rfl) (by simp) ?_
        refine AllReadyH.cons rfl (fun K hK => ?_) AllReadyH.nil
        go_simp
        go_at_call 107
        refine (HCC.out _ _ _ HT1.out).mono ?_
        rintro e w2 ⟨cs, rfl, hrep, hFb, o3, c3, hr3⟩
        obtain ⟨op, s9, n9, q9, k9, c9, p9, rfl⟩ := hrep.form
        have HT2 := Lib.hid (HT1.out.step hFb hr3)
        have HREP := Lib.hid hrep
        have HFB := Lib.hid hFb
        refine hK.out _ _ (HS.out _ _ _ _ _ HT2.out) (fun hHeld => ?_)
        clear hK K hrep hFb hr3
        try simp only [Act.put, List.setIfInBounds_toArray, List.set_cons_zero, List.set_cons_succ]
        refine wpAnyH_ready (rs := [4]) (by kernel_rfl) (by simp) ?_
        refine AllReadyH.cons rfl (fun K hK => ?_) AllReadyH.nil
        have HT3 := Lib.hid (HT2.out.fr ((Fr.refl [] _).alloc (.cells #[.int .i64 op, .string s9, .int .i64 n9, .slice q9 k9 c9, .int .i64 p9] 80)))
        go_simp
        refine hK.out _ _ (HS.out _ _ _ _ _ HT3.out) (fun hHeld => ?_)
        clear hK K
        try simp only [Act.put, List.setIfInBounds_toArray, List.set_cons_zero, List.set_cons_succ]
        refine held_take (i := 5) (v := ?_) 31 rfl rfl (by kernel_rfl) (by kernel_rfl) (by kernel_rfl) (fun _ _ _ h => h) (Or.inl ⟨by rfl, ?_⟩) (by assumption) ?_
        rotate_left 1
        · intro w hSw; (try dsimp only at hSw); go_simp; try (with_reducible rfl)
        try simp only [Act.put, List.setIfInBounds_toArray, List.set_cons_zero, List.set_cons_succ]
        have hVr : V.heap.size ≠ r := by omega
        have hVw : V.heap.size < w2.heap.size := by have := HFB.out.size; simp at this; omega
        have hVE : w2.heap[V.heap.size]? = some (.cells z5 80 (0, 0)) := HFB.out.row HV1.out (by simpa using hVr)
        have hbb : b + 1 < w2.heap.size := row_lt HT2.out.tok
        refine wpAnyH_fresh (fun U => Tk2 w r g o3 c3 m (nest + 1) ⟨tk, ts, tn, tp⟩ b z5 U ∧ U.heap[V.heap.size]? = some (.cells z5 80 (0, 0)) ∧ U.heap[w2.heap.size]? = some (.cells [.int .i64 op, .string s9, .int .i64 n9, .slice q9 k9 c9, .int .i64 p9].toArray 80 (0, 0)) ∧ Rep U (fun g => w.heap.size ≤ g ∧ g ≠ V.heap.size ∧ g ≠ b) [.int .i64 op, .string s9, .int .i64 n9, .slice q9 k9 c9, .int .i64 p9] x) ⟨HT3.out, (Below.heap_alloc _ _ _ hVw).trans hVE, heap_alloc_last _ _, Rep.fr ((Fr.refl [] _).alloc _) (fun y hy => by cases hy) (HREP.out.mono (fun g hg h => by have h2 : V.heap.size + 1 ≤ g := by {have h3 : ((V.drew.alloc (.cells z5 80)).heap.size) ≤ g := h; simpa using h3}; have := HB.out; exact ⟨by omega, by omega, by omega⟩))⟩ ?_
        rintro U ⟨t5, e5, r5, p5⟩
        have HT5 := Lib.hid t5
        have HE5 := Lib.hid e5
        have HR5 := Lib.hid r5
        have HP5 := Lib.hid p5
        have hSU := HS.out _ _ _ _ _ t5
        clear t5 e5 r5 p5
        have ef : ∀ i, U.frozen? ⟨(V.heap.size), i, none⟩ = false := fun i => Lib.frozen_of_heap HE5.out i
        have e0 : U.cell? ⟨(V.heap.size), 0, none⟩ = some (.int .i64 0) := by rw [Lib.cell_of_heap HE5.out]; rfl
        have e1 : U.cell? ⟨(V.heap.size), 1, none⟩ = some (.string ⟨#[]⟩) := by rw [Lib.cell_of_heap HE5.out]; rfl
        have e2 : U.cell? ⟨(V.heap.size), 2, none⟩ = some (.int .i64 0) := by rw [Lib.cell_of_heap HE5.out]; rfl
        have e3 : U.cell? ⟨(V.heap.size), 3, none⟩ = some (.slice none 0 0) := by rw [Lib.cell_of_heap HE5.out]; rfl
        have e4 : U.cell? ⟨(V.heap.size), 4, none⟩ = some (.int .i64 0) := by rw [Lib.cell_of_heap HE5.out]; rfl
        have HEND := Lib.hid (not_end HT5.out HE5.out (by omega) HR5.out (by omega) (by omega) HP5.out)
        have HS9 := Lib.hid (HS.out _ _ _ _ _ (HT5.out.other (fr_five U [V.heap.size] (V.heap.size) (.int .i64 6) (.string ⟨#[]⟩) (.int .i64 0) (.slice (some ⟨w2.heap.size, 0, none⟩) 1 1) (.int .i64 tp) (by simp)) (by omega)))
        have hne0 : V.heap.size ≠ b + 1 := by omega
        have hne1 : b + 1 ≠ V.heap.size := by omega
        refine wpAnyH_ready (rs := [7]) (by kernel_rfl) (by simp) ?_
        refine AllReadyH.cons rfl (fun K hK => ?_) AllReadyH.nil
        go_simp
        refine hK.out _ _ HS9.out (fun hHeld => ?_)
        clear hK K
        try simp only [Act.put, List.setIfInBounds_toArray, List.set_cons_zero, List.set_cons_succ]
        refine wpAnyH_done (by kernel_rfl) ?_ _
        go_wp2_with fail
        go_meet
        exact ⟨_, rfl, HEND.out⟩
end Go.Proofs.YtgklmpooonnmiaaDoor

namespace Go.Proofs.YtgklmpooonnmiaaDoor
open Go.RowKit
/-- what a word between two has made. -/
structure Chn (w : World) (r g o c : Nat) (l : List TI) (nest : Nat) (b k : Nat) (e : Array Value) (x : Ex) (W : World) : Prop where
  rd : Rd W r g o c l nest
  res : W.heap[b]? = some (.cells z5 80 (0, 0))
  ex : W.heap[k]? = some (.cells e 80 (0, 0))
  rep : Rep W (fun i => w.heap.size ≤ i ∧ i ≠ k ∧ i ≠ b) e.toList x
  f : Fr [r] w W
  rl : r < w.heap.size
  gl : g < w.heap.size
  bw : b = w.heap.size
  kb : b < k
theorem Chn.step {w : World} {r g o c : Nat} {l : List TI} {nest : Nat} {b k : Nat} {e : Array Value} {x : Ex} {W W' : World} {o' c' : Nat} {l' : List TI} {nest' : Nat} (h : Chn w r g o c l nest b k e x W) (hf : Fr [r] W W') (hr : Rd W' r g o' c' l' nest') : Chn w r g o' c' l' nest' b k e x W' := by
  have h1 := h.rl; have h2 := h.bw; have h3 := h.kb
  exact ⟨hr, hf.row h.res (by simp; omega), hf.row h.ex (by simp; omega), h.rep.fr hf (fun y hy _ => by simp at hy; omega), h.f.trans hf (fun y hy => .inl hy), h1, h.gl, h2, h3⟩
theorem Chn.fr {w : World} {r g o c : Nat} {l : List TI} {nest : Nat} {b k : Nat} {e : Array Value} {x : Ex} {W W' : World} (h : Chn w r g o c l nest b k e x W) (hf : Fr [] W W') : Chn w r g o c l nest b k e x W' :=
  ⟨h.rd.fr hf (by simp) (by simp), hf.row h.res (by simp), hf.row h.ex (by simp), h.rep.fr hf (fun y hy _ => by cases hy), h.f.trans0 hf, h.rl, h.gl, h.bw, h.kb⟩
/-- the next one made: a row of two, the expression over it. -/
theorem Chn.more {w : World} {r g o c : Nat} {l : List TI} {nest : Nat} {b k rb : Nat} {cs ds : List Value} {x y : Ex} {U : World} (h : Chn w r g o c l nest b k cs.toArray x U) (hrow : U.heap[rb]? = some (.cells (cs ++ ds).toArray 80 (0, 0))) (hrb : w.heap.size ≤ rb ∧ rb ≠ k ∧ rb ≠ b)
    (hy : Rep U (fun i => w.heap.size ≤ i ∧ i ≠ k ∧ i ≠ b) ds y) (op p : Int) :
    Chn w r g o c l nest b k #[.int .i64 op, .string ⟨#[]⟩, .int .i64 0, .slice (some ⟨rb, 0, none⟩) 2 2, .int .i64 p] (.mk op Pol.none_ 0 [x, y] p)
      (((((U.setCell ⟨k, 0, none⟩ (.int .i64 op)).setCell ⟨k, 1, none⟩ (.string ⟨#[]⟩)).setCell ⟨k, 2, none⟩ (.int .i64 0)).setCell ⟨k, 3, none⟩ (.slice (some ⟨rb, 0, none⟩) 2 2)).setCell ⟨k, 4, none⟩ (.int .i64 p)) := by
  have h1 := h.rl; have h2 := h.bw; have h3 := h.kb; have h4 := h.gl
  have hf := fr_five U [k] k (.int .i64 op) (.string ⟨#[]⟩) (.int .i64 0) (.slice (some ⟨rb, 0, none⟩) 2 2) (.int .i64 p) (by simp)
  have hx5 := h.rep.fr hf (fun y hy _ => by simp only [List.mem_singleton] at hy; rw [hy]; simp)
  have hy5 := hy.fr hf (fun y hy _ => by simp only [List.mem_singleton] at hy; rw [hy]; simp)
  have hrow := hf.row hrow (by simp; omega)
  obtain ⟨o0, s0, n0, q0, k0, c0, p0, hcs⟩ := h.rep.form
  have he := h.ex
  rw [show cs.toArray = #[.int .i64 o0, .string s0, .int .i64 n0, .slice q0 k0 c0, .int .i64 p0] by have h9 : cs = _ := hcs; rw [h9]] at he
  refine ⟨h.rd.fr hf (by simp; omega) (by simp; omega), hf.row h.res (by simp; omega), heap_five he _ _ _ _ _, ?_, h.f.trans hf (fun y hy => .inr (by simp at hy; omega)), h1, h4, h2, h3⟩
  refine Rep.of_row op ⟨#[]⟩ 0 p [x, y] [cs, ds] rb hrb 80 2 rfl ?_ (Nat.le_refl _) (by decide) ?_
  · rw [show [cs, ds].flatten = cs ++ ds by simp]; exact hrow
  · intro i z cs' hi hc
    have h0 : i = 0 ∨ i = 1 := by have := (List.getElem?_eq_some_iff.1 hi).1; simp at this; omega
    rcases h0 with rfl | rfl
    · simp at hi hc
      subst hi hc
      exact hx5
    · simp at hi hc
      subst hi hc
      exact hy5
set_option maxHeartbeats 8000000 in
set_option maxRecDepth 100000 in
theorem chain_reads (F : FuncId) (hcf : ∀ args w, (callFunc F args).run Tryd.prog w = .ok (.enter F args) w) (one : Nat → Nat → List TI → Pol.PR Ex) (more : Nat → Nat → Ex → List TI → Pol.PR Ex) (word : ByteArray) (op : Int)
    (hm0 : ∀ nest e l, more 0 nest e l = .error (Pol.place l, 0))
    (hm : ∀ f nest e l, more (f + 1) nest e l = if Pol.is l 1 word.data.toList = true then (match one f nest l.tail with | .error x => .error x | .ok (x, m) => more f nest (.mk op Pol.none_ 0 [e, x] (Pol.place l)) m) else .ok (e, l))
    (hk : ∀ f nest l x m, one f nest l = .ok (x, m) → Ends l → Ends m)
    (f : Nat) (hF : ∀ f' ≤ f, ReadsEx F (one f')) (w : World) (r g o c : Nat) (l : List TI) (nest : Nat) (h : Rd w r g o c l nest) (hE : Ends l) (hn : nest ≤ 12) (hr : r < w.heap.size)
    (Q : Pol.PR Ex) (hQ : Q = match one f nest l with | .error e => .error e | .ok (x, m) => more f nest x m) (hfed : Pol.Fed Q) :
    Calls Tryd.prog 100 #[.pointer (some ⟨r, 0, none⟩), .string word, .int .i64 op, .func (.func F) #[.pointer (some ⟨r, 0, none⟩)] #[]] w (Done r g nest w Q) := by
  have hR := Lib.hid h
  have HE := Lib.hid hE
  have HFD := Lib.hid hfed
  have HM := Lib.hid hm
  have HM0 := Lib.hid hm0
  have HK := Lib.hid hk
  have HF := Lib.hid hF
  have hg := h.gl
  have HQ := Lib.hid hQ
  have HC : Hid (∀ W, Rd W r g o c l nest → r < W.heap.size → Calls Tryd.prog F #[.pointer (some ⟨r, 0, none⟩)] W (Done r g nest W (one f nest l))) := fun W h1 h2 =>
    HF.out f (Nat.le_refl _) W r g o c l nest h1 HE.out hn h2 (fun p hp => HFD.out p (by rw [HQ.out, hp]))
  obtain ⟨q, hq⟩ : ∃ q, one f nest l = q := ⟨_, rfl⟩
  rw [hq] at HC HQ
  have Hq := Lib.hid hq
  clear h hE hfed hm hm0 hk hF hQ hq
  have HN := Lib.hid (HC.out _ (hR.out.fr ((Fr.refl _ w).alloc (.cells z5 80)) List.not_mem_nil List.not_mem_nil) (by simp; omega))
  have HR1 := Lib.hid (heap_alloc_last w (.cells z5 80))
  go_enter Tryd.func100, Tryd.ntmps100
  go_wp2_with fail
  refine HN.out.mono ?_
  intro e w1 hd
  cases q with
  | error pe =>
    obtain ⟨pp, pn⟩ := pe
    have hs : Stops [r] _ pp pn e w1 := hd
    obtain ⟨b9, hb9, rfl, hrow9, hf9⟩ := hs.from (bs := [r]) ((Fr.refl _ w).alloc (.cells z5 80)) (fun y hy => .inl (by simpa using hy))
    show _
    exact ⟨rfl, by rw [HQ.out]; exact Done.stop ⟨b9, hb9, rfl, hrow9, hf9⟩⟩
  | ok xm =>
    obtain ⟨x, m⟩ := xm
    obtain ⟨cs, rfl, hrep, hf3, o3, c3, hr3⟩ := hd
    obtain ⟨op0, s9, n9, q9, k9, c9, p9, rfl⟩ := hrep.form
    have hE3 : Ends m := HK.out _ _ _ _ _ Hq.out HE.out
    have HE3 := Lib.hid hE3
    have HQ3 : Hid (Q = more f nest x m) := HQ.out
    have HF3 := Lib.hid hf3
    have HR3 := Lib.hid hr3
    have HREP := Lib.hid hrep
    clear hf3 hr3 hrep hE3 HQ HN HC Hq
    go_wp2_with fail
    have hz : w.heap.size + 1 ≤ w1.heap.size := by have := HF3.out.size; simpa using this
    have HCH : Hid (Chn w r g o3 c3 m nest w.heap.size w1.heap.size #[.int .i64 op0, .string s9, .int .i64 n9, .slice q9 k9 c9, .int .i64 p9] x (w1.alloc (.cells #[.int .i64 op0, .string s9, .int .i64 n9, .slice q9 k9 c9, .int .i64 p9] 80))) := by
      have hA : Fr [] w1 (w1.alloc (.cells #[.int .i64 op0, .string s9, .int .i64 n9, .slice q9 k9 c9, .int .i64 p9] 80)) := (Fr.refl _ _).alloc _
      refine ⟨HR3.out.fr hA (by simp) (by simp), hA.row (HF3.out.row HR1.out (by simp; omega)) (by simp), heap_alloc_last _ _, ?_, ((Fr.refl [r] w).alloc _).trans (HF3.out.trans0 hA) (fun y hy => .inl hy), hr, hg, rfl, by omega⟩
      exact (HREP.out.mono (fun g hg h => by
        have h2 : (w.alloc (.cells z5 80)).heap.size ≤ g := h
        simp at h2
        exact ⟨by omega, by omega, by omega⟩)).fr hA (fun y hy _ => by cases hy)
    clear hz HF3 HR3 HREP HR1 hR
    obtain ⟨k, hk⟩ : ∃ k, w1.heap.size = k := ⟨_, rfl⟩
    obtain ⟨b, hb⟩ : ∃ b, w.heap.size = b := ⟨_, rfl⟩
    rw [hk, hb] at HCH ⊢
    clear hk hb
    go_loopg [10] f (fun q s10 W => ∃ (op0 : Int) (s9 : ByteArray) (n9 : Int) (q9 : Option Addr) (k9 c9 : Nat) (p9 : Int) (x : Ex) (o c : Nat) (m : List TI), q ≤ f ∧ Hid (Q = more q nest x m) ∧ Hid (Ends m) ∧ Hid (Chn w r g o c m nest b k #[.int .i64 op0, .string s9, .int .i64 n9, .slice q9 k9 c9, .int .i64 p9] x W))
    case atStart => exact ⟨_, _, _, _, _, _, _, _, _, _, _, Nat.le_refl _, HQ3.out, HE3.out, HCH.out⟩
    case round =>
      clear HCH HQ3 HE3
      obtain ⟨op0, s9, n9, q9, k9, c9, p9, x, o, c, m, hq, HQ, HE, H⟩ := hrel
      have HQL := Lib.hid hq
      clear hq
      obtain ⟨t, l1, rfl⟩ := HE.out.cons
      cases gk with
      | zero =>
        exact absurd (HQ.out.trans (HM0.out _ _ _)) (HFD.out _)
      | succ j =>
        have hjf : j + 1 ≤ f := HQL.out
        have hr2 : r < wr.heap.size := Nat.lt_of_lt_of_le hr H.out.f.size
        obtain ⟨tk, ts, tn, tp⟩ := t
        cases hp : Pol.is (⟨tk, ts, tn, tp⟩ :: l1) 1 word.data.toList with
        | false =>
          have HQ2 : Hid (Q = .ok (x, ⟨tk, ts, tn, tp⟩ :: l1)) := by show _ = _; rw [HQ.out, HM.out]; simp only [hp]; rfl
          have HP := Lib.hid hp
          clear hp HQ
          have HN := Lib.hid (rd_next_is wr r g _ _ _ _ nest 1 word false H.out.rd HP.out)
          have hkb : b < k := H.out.kb
          have hkb2 : b ≠ k := by omega
          have hkb3 : k ≠ b := by omega
          have HREP5 : Hid (Rep _ _ _ _) := Rep.fr (fr_five wr [b] b (.int .i64 op0) (.string s9) (.int .i64 n9) (.slice q9 k9 c9) (.int .i64 p9) (by simp)) (fun y hy _ => by simp only [List.mem_singleton] at hy; rw [hy]; simp) H.out.rep
          have HRD5 : Hid (Rd _ _ _ _ _ _ _) := H.out.rd.fr (fr_five wr [b] b (.int .i64 op0) (.string s9) (.int .i64 n9) (.slice q9 k9 c9) (.int .i64 p9) (by simp)) (by have := H.out.bw; simp; omega) (by have := H.out.bw; have := H.out.gl; simp; omega)
          have HF5 : Hid (Fr [r] w _) := H.out.f.trans (fr_five wr [b] b (.int .i64 op0) (.string s9) (.int .i64 n9) (.slice q9 k9 c9) (.int .i64 p9) (by simp)) (fun y hy => .inr (by have := H.out.bw; simp at hy; omega))
          have HT5 := Lib.hid (heap_five H.out.res (.int .i64 op0) (.string s9) (.int .i64 n9) (.slice q9 k9 c9) (.int .i64 p9))
          have ef : ∀ i, wr.frozen? ⟨k, i, none⟩ = false := fun i => Lib.frozen_of_heap H.out.ex i
          have e0 : wr.cell? ⟨k, 0, none⟩ = some (.int .i64 op0) := by rw [Lib.cell_of_heap H.out.ex]; rfl
          have e1 : wr.cell? ⟨k, 1, none⟩ = some (.string s9) := by rw [Lib.cell_of_heap H.out.ex]; rfl
          have e2 : wr.cell? ⟨k, 2, none⟩ = some (.int .i64 n9) := by rw [Lib.cell_of_heap H.out.ex]; rfl
          have e3 : wr.cell? ⟨k, 3, none⟩ = some (.slice q9 k9 c9) := by rw [Lib.cell_of_heap H.out.ex]; rfl
          have e4 : wr.cell? ⟨k, 4, none⟩ = some (.int .i64 p9) := by rw [Lib.cell_of_heap H.out.ex]; rfl
          have zf : ∀ i, wr.frozen? ⟨b, i, none⟩ = false := fun i => Lib.frozen_of_heap H.out.res i
          have z0 : wr.cell? ⟨b, 0, none⟩ = some (.int .i64 0) := by rw [Lib.cell_of_heap H.out.res]; rfl
          have z1 : wr.cell? ⟨b, 1, none⟩ = some (.string ⟨#[]⟩) := by rw [Lib.cell_of_heap H.out.res]; rfl
          have z2 : wr.cell? ⟨b, 2, none⟩ = some (.int .i64 0) := by rw [Lib.cell_of_heap H.out.res]; rfl
          have z3 : wr.cell? ⟨b, 3, none⟩ = some (.slice none 0 0) := by rw [Lib.cell_of_heap H.out.res]; rfl
          have z4 : wr.cell? ⟨b, 4, none⟩ = some (.int .i64 0) := by rw [Lib.cell_of_heap H.out.res]; rfl
          go_wp2_with fail
          refine HN.out.mono ?_
          rintro e w2 ⟨rfl, rfl⟩
          go_wp2_with fail
          refine bodyPost_ret (v := .agg #[.int .i64 op0, .string s9, .int .i64 n9, .slice q9 k9 c9, .int .i64 p9]) (results_cell_row rfl _ _ b _ _ (0, 0) _ rfl HT5.out Tryd.underlying80 rfl (by kernel_rfl)) rfl ?_
          rw [HQ2.out]
          exact Done.ok rfl (HREP5.out.mono (fun g _ h => h.1)) HF5.out HRD5.out
        | true =>
          have hE1 : Ends l1 := Pol.is_tail hp (by decide) HE.out
          have HQ2 : Hid (Q = match one j nest l1 with | .error x => .error x | .ok (y, m) => more j nest (.mk op Pol.none_ 0 [x, y] tp) m) := by show _ = _; rw [HQ.out, HM.out]; simp only [hp]; rfl
          have htk : tk = 1 := by
            have h9 := hp
            simp only [Pol.is, Bool.and_eq_true, beq_iff_eq] at h9
            exact h9.1
          have HP := Lib.hid hp
          clear hp HQ
          subst htk
          have hl1 := hE1.pos
          have HE1 := Lib.hid hE1
          clear hE1
          have HN := Lib.hid (rd_next_is wr r g _ _ _ _ nest 1 word true H.out.rd HP.out)
          have HTK := Lib.hid (rd_take_yes wr r g _ _ _ l1 nest 1 H.out.rd hl1 hr2 rfl)
          have hu := tok_pos
          go_wp2_with fail
          refine HN.out.mono ?_
          rintro e w2 ⟨rfl, rfl⟩
          go_wp2_with fail
          refine HTK.out.mono ?_
          rintro e w2 ⟨rfl, hf1, hr1⟩
          have H := Lib.hid (H.out.step hf1 hr1)
          clear HN HTK hf1 hr1 hr2
          have hr2 : r < w2.heap.size := Nat.lt_of_lt_of_le hr H.out.f.size
          have HC : Hid (∀ U o c, Chn w r g o c l1 nest b k #[.int .i64 op0, .string s9, .int .i64 n9, .slice q9 k9 c9, .int .i64 p9] x U → Calls Tryd.prog F #[.pointer (some ⟨r, 0, none⟩)] U (Done r g nest U (one j nest l1))) := fun U o c h =>
            HF.out j (by omega) U r g o c l1 nest h.rd HE1.out hn (Nat.lt_of_lt_of_le h.rl h.f.size) (fun p hp => HFD.out p (by rw [HQ2.out, hp]))
          obtain ⟨q, hq⟩ : ∃ q, one j nest l1 = q := ⟨_, rfl⟩
          rw [hq] at HC HQ2
          have Hq := Lib.hid hq
          clear hq
          have ef : ∀ i, w2.frozen? ⟨k, i, none⟩ = false := fun i => Lib.frozen_of_heap H.out.ex i
          have e0 : w2.cell? ⟨k, 0, none⟩ = some (.int .i64 op0) := by rw [Lib.cell_of_heap H.out.ex]; rfl
          have e1 : w2.cell? ⟨k, 1, none⟩ = some (.string s9) := by rw [Lib.cell_of_heap H.out.ex]; rfl
          have e2 : w2.cell? ⟨k, 2, none⟩ = some (.int .i64 n9) := by rw [Lib.cell_of_heap H.out.ex]; rfl
          have e3 : w2.cell? ⟨k, 3, none⟩ = some (.slice q9 k9 c9) := by rw [Lib.cell_of_heap H.out.ex]; rfl
          have e4 : w2.cell? ⟨k, 4, none⟩ = some (.int .i64 p9) := by rw [Lib.cell_of_heap H.out.ex]; rfl
          go_wp2_with fail
          cases q with
          | error pe =>
            obtain ⟨pp, pn⟩ := pe
            have HQ3 : Hid (Q = .error (pp, pn)) := HQ2.out
            have HX : Hid (∀ (U : World) o c, Chn w r g o c l1 nest b k #[.int .i64 op0, .string s9, .int .i64 n9, .slice q9 k9 c9, .int .i64 p9] x U → Calls Tryd.prog F #[.pointer (some ⟨r, 0, none⟩)] U (Stops [r] w pp pn)) := fun U o c h => (HC.out U o c h).mono (fun x W' (hs : Stops [r] U pp pn x W') => hs.from h.f (fun y hy => .inl (by simpa using hy)))
            refine wp_region_held_drew (S := fun _ => True) (by kernel_rfl) (trivial) (fun hHeld => ?_)
            refine held_take (i := 0) (v := ?_) 19 rfl rfl (by kernel_rfl) (by kernel_rfl) (by kernel_rfl) (fun _ _ _ h => h) (Or.inl ⟨by rfl, ?_⟩) (by assumption) ?_
            rotate_left 1
            · intro w hSw; (try dsimp only at hSw); go_simp; try (with_reducible rfl)
            try simp only [Act.put, List.setIfInBounds_toArray, List.set_cons_zero, List.set_cons_succ]
            refine held_take (i := 1) (v := ?_) 20 rfl rfl (by kernel_rfl) (by kernel_rfl) (by kernel_rfl) (fun _ _ _ h => h) (Or.inl ⟨by rfl, ?_⟩) (by assumption) ?_
            rotate_left 1
            · intro w hSw; (try dsimp only at hSw); go_simp; try (with_reducible rfl)
            try simp only [Act.put, List.setIfInBounds_toArray, List.set_cons_zero, List.set_cons_succ]
            refine held_take (i := 3) (v := ?_) 22 rfl rfl (by kernel_rfl) (by kernel_rfl) (by kernel_rfl) (fun _ _ _ h => h) (Or.inl ⟨by rfl, ?_⟩) (by assumption) ?_
            rotate_left 1
            · intro w hSw; (try dsimp only at hSw); go_simp; try (with_reducible rfl)
            try simp only [Act.put, List.setIfInBounds_toArray, List.set_cons_zero, List.set_cons_succ]
            refine wpAnyH_ready (rs := [2, 4]) (by kernel_rfl) (by simp) ?_
            refine AllReadyH.cons rfl (fun K hK => ?_) (AllReadyH.cons rfl (fun K hK => ?_) AllReadyH.nil)
            · go_simp
              refine hK.out _ _ (trivial) (fun hHeld => ?_)
              clear hK K
              try simp only [Act.put, List.setIfInBounds_toArray, List.set_cons_zero, List.set_cons_succ]
              refine wpAnyH_ready (rs := [4]) (by kernel_rfl) (by simp) ?_
              refine AllReadyH.cons rfl (fun K hK => ?_) AllReadyH.nil
              go_simp
              refine (HX.out _ _ _ (H.out.fr (Fr.refl [] _).drew)).mono ?_
              rintro e w3 ⟨b9, hb9, rfl, hrow9, hf9⟩
              show _
              exact ⟨rfl, by rw [HQ3.out]; exact Done.stop ⟨b9, hb9, rfl, hrow9, hf9⟩⟩
            · go_simp
              refine (HX.out _ _ _ (H.out.fr (Fr.refl [] _).drew)).mono ?_
              rintro e w3 ⟨b9, hb9, rfl, hrow9, hf9⟩
              show _
              exact ⟨rfl, by rw [HQ3.out]; exact Done.stop ⟨b9, hb9, rfl, hrow9, hf9⟩⟩
          | ok xm =>
            obtain ⟨y, m⟩ := xm
            have HQ3 : Hid (Q = more j nest (.mk op Pol.none_ 0 [x, y] tp) m) := HQ2.out
            have HEM : Hid (Ends m) := HK.out _ _ _ _ _ Hq.out HE1.out
            have hk2 : k < w2.heap.size := row_lt H.out.ex
            have hw2 : w.heap.size ≤ w2.heap.size := H.out.f.size
            refine wp_region_held_drew (S := fun _ => True) (by kernel_rfl) (trivial) (fun hHeld => ?_)
            refine held_take (i := 0) (v := ?_) 19 rfl rfl (by kernel_rfl) (by kernel_rfl) (by kernel_rfl) (fun _ _ _ h => h) (Or.inl ⟨by rfl, ?_⟩) (by assumption) ?_
            rotate_left 1
            · intro w hSw; (try dsimp only at hSw); go_simp; try (with_reducible rfl)
            try simp only [Act.put, List.setIfInBounds_toArray, List.set_cons_zero, List.set_cons_succ]
            refine held_take (i := 1) (v := ?_) 20 rfl rfl (by kernel_rfl) (by kernel_rfl) (by kernel_rfl) (fun _ _ _ h => h) (Or.inl ⟨by rfl, ?_⟩) (by assumption) ?_
            rotate_left 1
            · intro w hSw; (try dsimp only at hSw); go_simp; try (with_reducible rfl)
            try simp only [Act.put, List.setIfInBounds_toArray, List.set_cons_zero, List.set_cons_succ]
            refine held_take (i := 3) (v := ?_) 22 rfl rfl (by kernel_rfl) (by kernel_rfl) (by kernel_rfl) (fun _ _ _ h => h) (Or.inl ⟨by rfl, ?_⟩) (by assumption) ?_
            rotate_left 1
            · intro w hSw; (try dsimp only at hSw); go_simp; try (with_reducible rfl)
            try simp only [Act.put, List.setIfInBounds_toArray, List.set_cons_zero, List.set_cons_succ]
            refine wpAnyH_ready (rs := [2, 4]) (by kernel_rfl) (by simp) ?_
            refine AllReadyH.cons rfl (fun K hK => ?_) (AllReadyH.cons rfl (fun K hK => ?_) AllReadyH.nil)
            · go_simp
              refine hK.out _ _ (trivial) (fun hHeld => ?_)
              clear hK K
              try simp only [Act.put, List.setIfInBounds_toArray, List.set_cons_zero, List.set_cons_succ]
              refine wpAnyH_ready (rs := [4]) (by kernel_rfl) (by simp) ?_
              refine AllReadyH.cons rfl (fun K hK => ?_) AllReadyH.nil
              go_simp
              refine (HC.out _ _ _ (H.out.fr (Fr.refl [] _).drew)).mono ?_
              rintro e w3 ⟨ds, rfl, hrep, hFb, o3, c3, hr3⟩
              obtain ⟨op1, s1, n1, q1, k1, c1, p1, rfl⟩ := hrep.form
              have H := Lib.hid ((H.out.fr (Fr.refl [] _).drew).step hFb hr3)
              have HY := Lib.hid hrep
              clear hrep hFb hr3
              refine hK.out _ _ (trivial) (fun hHeld => ?_)
              clear hK K
              try simp only [Act.put, List.setIfInBounds_toArray, List.set_cons_zero, List.set_cons_succ]
              have hk3 : k < w3.heap.size := row_lt H.out.ex
              refine wpAnyH_ready (rs := [5]) (by kernel_rfl) (by simp) ?_
              refine AllReadyH.cons rfl (fun K hK => ?_) AllReadyH.nil
              go_simp
              refine hK.out _ _ (trivial) (fun hHeld => ?_)
              clear hK K
              try simp only [Act.put, List.setIfInBounds_toArray, List.set_cons_zero, List.set_cons_succ]
              refine held_take (i := 6) (v := ?_) 25 rfl rfl (by kernel_rfl) (by kernel_rfl) (by kernel_rfl) (fun _ _ _ h => h) (Or.inl ⟨by rfl, ?_⟩) (by assumption) ?_
              rotate_left 1
              · intro w hSw; (try dsimp only at hSw); go_simp; try (with_reducible rfl)
              try simp only [Act.put, List.setIfInBounds_toArray, List.set_cons_zero, List.set_cons_succ]
              refine wpAnyH_fresh (fun U => Chn w r g o3 c3 m nest b k #[.int .i64 op0, .string s9, .int .i64 n9, .slice q9 k9 c9, .int .i64 p9] x U ∧ U.heap[w3.heap.size]? = some (.cells #[.int .i64 op0, .string s9, .int .i64 n9, .slice q9 k9 c9, .int .i64 p9, .int .i64 op1, .string s1, .int .i64 n1, .slice q1 k1 c1, .int .i64 p1] 80 (0, 0)) ∧ Rep U (fun i => w.heap.size ≤ i ∧ i ≠ k ∧ i ≠ b) [.int .i64 op1, .string s1, .int .i64 n1, .slice q1 k1 c1, .int .i64 p1] y)
                ⟨H.out.fr ((Fr.refl [] _).alloc _), heap_alloc_last _ _, (HY.out.mono (fun g hg h => by have h9 : w2.heap.size ≤ g := h; have := H.out.kb; exact ⟨by omega, by omega, by omega⟩)).fr ((Fr.refl [] _).alloc _) (fun y hy _ => by cases hy)⟩ ?_
              rintro U ⟨hu1, hu2, hu3⟩
              have HEND := Lib.hid (Chn.more (rb := w3.heap.size) (cs := [.int .i64 op0, .string s9, .int .i64 n9, .slice q9 k9 c9, .int .i64 p9]) (ds := [.int .i64 op1, .string s1, .int .i64 n1, .slice q1 k1 c1, .int .i64 p1]) hu1 hu2 ⟨by have := hu1.bw; have := hu1.kb; omega, by omega, by have := hu1.kb; omega⟩ hu3 op tp)
              have HU := Lib.hid hu1
              clear hu1 hu2 hu3
              have yf : ∀ i, U.frozen? ⟨k, i, none⟩ = false := fun i => Lib.frozen_of_heap HU.out.ex i
              have y0 : U.cell? ⟨k, 0, none⟩ = some (.int .i64 op0) := by rw [Lib.cell_of_heap HU.out.ex]; rfl
              have y1 : U.cell? ⟨k, 1, none⟩ = some (.string s9) := by rw [Lib.cell_of_heap HU.out.ex]; rfl
              have y2 : U.cell? ⟨k, 2, none⟩ = some (.int .i64 n9) := by rw [Lib.cell_of_heap HU.out.ex]; rfl
              have y3 : U.cell? ⟨k, 3, none⟩ = some (.slice q9 k9 c9) := by rw [Lib.cell_of_heap HU.out.ex]; rfl
              have y4 : U.cell? ⟨k, 4, none⟩ = some (.int .i64 p9) := by rw [Lib.cell_of_heap HU.out.ex]; rfl
              refine wpAnyH_ready (rs := [7]) (by kernel_rfl) (by simp) ?_
              refine AllReadyH.cons rfl (fun K hK => ?_) AllReadyH.nil
              go_simp
              refine hK.out _ _ (trivial) (fun hHeld => ?_)
              clear hK K
              try simp only [Act.put, List.setIfInBounds_toArray, List.set_cons_zero, List.set_cons_succ]
              refine wpAnyH_done (by kernel_rfl) ?_ _
              go_wp2_with fail
              go_roundg j
              case measure => omega
              case rel => exact ⟨_, _, _, _, _, _, _, _, _, _, _, by omega, HQ3.out, HEM.out, HEND.out⟩
            · go_simp
              refine (HC.out _ _ _ (H.out.fr (Fr.refl [] _).drew)).mono ?_
              rintro e w3 ⟨ds, rfl, hrep, hFb, o3, c3, hr3⟩
              obtain ⟨op1, s1, n1, q1, k1, c1, p1, rfl⟩ := hrep.form
              have H := Lib.hid ((H.out.fr (Fr.refl [] _).drew).step hFb hr3)
              have HY := Lib.hid hrep
              clear hrep hFb hr3
              refine hK.out _ _ (trivial) (fun hHeld => ?_)
              clear hK K
              try simp only [Act.put, List.setIfInBounds_toArray, List.set_cons_zero, List.set_cons_succ]
              clear e0 e1 e2 e3 e4 ef
              have ef : ∀ i, w3.frozen? ⟨k, i, none⟩ = false := fun i => Lib.frozen_of_heap H.out.ex i
              have e0 : w3.cell? ⟨k, 0, none⟩ = some (.int .i64 op0) := by rw [Lib.cell_of_heap H.out.ex]; rfl
              have e1 : w3.cell? ⟨k, 1, none⟩ = some (.string s9) := by rw [Lib.cell_of_heap H.out.ex]; rfl
              have e2 : w3.cell? ⟨k, 2, none⟩ = some (.int .i64 n9) := by rw [Lib.cell_of_heap H.out.ex]; rfl
              have e3 : w3.cell? ⟨k, 3, none⟩ = some (.slice q9 k9 c9) := by rw [Lib.cell_of_heap H.out.ex]; rfl
              have e4 : w3.cell? ⟨k, 4, none⟩ = some (.int .i64 p9) := by rw [Lib.cell_of_heap H.out.ex]; rfl
              refine wpAnyH_ready (rs := [2]) (by kernel_rfl) (by simp) ?_
              refine AllReadyH.cons rfl (fun K hK => ?_) AllReadyH.nil
              go_simp
              refine hK.out _ _ (trivial) (fun hHeld => ?_)
              clear hK K
              try simp only [Act.put, List.setIfInBounds_toArray, List.set_cons_zero, List.set_cons_succ]
              clear e0 e1 e2 e3 e4 ef
              have hk3 : k < w3.heap.size := row_lt H.out.ex
              refine wpAnyH_ready (rs := [5]) (by kernel_rfl) (by simp) ?_
              refine AllReadyH.cons rfl (fun K hK => ?_) AllReadyH.nil
              go_simp
              refine hK.out _ _ (trivial) (fun hHeld => ?_)
              clear hK K
              try simp only [Act.put, List.setIfInBounds_toArray, List.set_cons_zero, List.set_cons_succ]
              refine held_take (i := 6) (v := ?_) 25 rfl rfl (by kernel_rfl) (by kernel_rfl) (by kernel_rfl) (fun _ _ _ h => h) (Or.inl ⟨by rfl, ?_⟩) (by assumption) ?_
              rotate_left 1
              · intro w hSw; (try dsimp only at hSw); go_simp; try (with_reducible rfl)
              try simp only [Act.put, List.setIfInBounds_toArray, List.set_cons_zero, List.set_cons_succ]
              refine wpAnyH_fresh (fun U => Chn w r g o3 c3 m nest b k #[.int .i64 op0, .string s9, .int .i64 n9, .slice q9 k9 c9, .int .i64 p9] x U ∧ U.heap[w3.heap.size]? = some (.cells #[.int .i64 op0, .string s9, .int .i64 n9, .slice q9 k9 c9, .int .i64 p9, .int .i64 op1, .string s1, .int .i64 n1, .slice q1 k1 c1, .int .i64 p1] 80 (0, 0)) ∧ Rep U (fun i => w.heap.size ≤ i ∧ i ≠ k ∧ i ≠ b) [.int .i64 op1, .string s1, .int .i64 n1, .slice q1 k1 c1, .int .i64 p1] y)
                ⟨H.out.fr ((Fr.refl [] _).alloc _), heap_alloc_last _ _, (HY.out.mono (fun g hg h => by have h9 : w2.heap.size ≤ g := h; have := H.out.kb; exact ⟨by omega, by omega, by omega⟩)).fr ((Fr.refl [] _).alloc _) (fun y hy _ => by cases hy)⟩ ?_
              rintro U ⟨hu1, hu2, hu3⟩
              have HEND := Lib.hid (Chn.more (rb := w3.heap.size) (cs := [.int .i64 op0, .string s9, .int .i64 n9, .slice q9 k9 c9, .int .i64 p9]) (ds := [.int .i64 op1, .string s1, .int .i64 n1, .slice q1 k1 c1, .int .i64 p1]) hu1 hu2 ⟨by have := hu1.bw; have := hu1.kb; omega, by omega, by have := hu1.kb; omega⟩ hu3 op tp)
              have HU := Lib.hid hu1
              clear hu1 hu2 hu3
              have yf : ∀ i, U.frozen? ⟨k, i, none⟩ = false := fun i => Lib.frozen_of_heap HU.out.ex i
              have y0 : U.cell? ⟨k, 0, none⟩ = some (.int .i64 op0) := by rw [Lib.cell_of_heap HU.out.ex]; rfl
              have y1 : U.cell? ⟨k, 1, none⟩ = some (.string s9) := by rw [Lib.cell_of_heap HU.out.ex]; rfl
              have y2 : U.cell? ⟨k, 2, none⟩ = some (.int .i64 n9) := by rw [Lib.cell_of_heap HU.out.ex]; rfl
              have y3 : U.cell? ⟨k, 3, none⟩ = some (.slice q9 k9 c9) := by rw [Lib.cell_of_heap HU.out.ex]; rfl
              have y4 : U.cell? ⟨k, 4, none⟩ = some (.int .i64 p9) := by rw [Lib.cell_of_heap HU.out.ex]; rfl
              refine wpAnyH_ready (rs := [7]) (by kernel_rfl) (by simp) ?_
              refine AllReadyH.cons rfl (fun K hK => ?_) AllReadyH.nil
              go_simp
              refine hK.out _ _ (trivial) (fun hHeld => ?_)
              clear hK K
              try simp only [Act.put, List.setIfInBounds_toArray, List.set_cons_zero, List.set_cons_succ]
              refine wpAnyH_done (by kernel_rfl) ?_ _
              go_wp2_with fail
              go_roundg j
              case measure => omega
              case rel => exact ⟨_, _, _, _, _, _, _, _, _, _, _, by omega, HQ3.out, HEM.out, HEND.out⟩
end Go.Proofs.YtgklmpooonnmiaaDoor

namespace Go.Proofs.YtgklmpooonnmiaaDoor
open Go.RowKit
set_option maxHeartbeats 2000000 in
set_option maxRecDepth 100000 in
theorem and_reads (f : Nat) (hF : ∀ f' ≤ f, ReadsEx 107 (Pol.not_ f')) : ReadsEx 101 (Pol.and_ (f + 1)) := by
  intro w r g o c l nest h hE hn hr hfed
  have hcf : ∀ args w, (callFunc 107 args).run Tryd.prog w = .ok (.enter 107 args) w := fun args w => by kernel_rfl
  have HCH := Lib.hid (chain_reads 107 hcf Pol.not_ Pol.andMore ⟨#[97, 110, 100]⟩ 7 (fun _ _ _ => by simp [Pol.andMore]) (fun _ _ _ _ => by rw [Pol.andMore]; rfl)
    (fun f1 n1 l1 x1 m1 => ((Pol.all_keep f1).2.2.2.1 n1 l1 x1 m1)) f hF (w.alloc (.cells z5 80)) r g o c l nest (h.fr ((Fr.refl [] w).alloc _) List.not_mem_nil List.not_mem_nil) hE hn (by simp; omega) (Pol.and_ (f + 1) nest l) (by rw [Pol.and_]; rcases Pol.not_ f nest l with e | ⟨x, m⟩ <;> rfl) hfed)
  have HRD := Lib.hid h
  have HR1 := Lib.hid (heap_alloc_last w (.cells z5 80))
  have hg := h.gl
  have hmf : ∀ fn first cap w, (Instr.makeFunc fn first cap).run Tryd.prog w = .ok (.func fn first cap) w := fun _ _ _ _ => rfl
  obtain ⟨q, hq⟩ : ∃ q, Pol.and_ (f + 1) nest l = q := ⟨_, rfl⟩
  rw [hq] at HCH ⊢
  clear h hE hfed hF hq
  go_enter Tryd.func101, Tryd.ntmps101
  go_wp2_with fail
  refine HCH.out.mono ?_
  intro e w1 hd
  cases q with
  | error pe =>
    obtain ⟨pp, pn⟩ := pe
    have hs : Stops [r] _ pp pn e w1 := hd
    obtain ⟨b9, hb9, rfl, hrow9, hf9⟩ := hs.from (bs := [r]) ((Fr.refl _ w).alloc (.cells z5 80)) (fun y hy => .inl (by simpa using hy))
    show _
    exact ⟨rfl, Done.stop ⟨b9, hb9, rfl, hrow9, hf9⟩⟩
  | ok xm =>
    obtain ⟨x, m⟩ := xm
    obtain ⟨cs, rfl, hrep, hf3, o3, c3, hr3⟩ := hd
    obtain ⟨op0, s9, n9, q9, k9, c9, p9, rfl⟩ := hrep.form
    have HZ := Lib.hid (hf3.row HR1.out (by simp; omega))
    have HT := Lib.hid (heap_five HZ.out (.int .i64 op0) (.string s9) (.int .i64 n9) (.slice q9 k9 c9) (.int .i64 p9))
    have hff := fr_five w1 [w.heap.size] w.heap.size (.int .i64 op0) (.string s9) (.int .i64 n9) (.slice q9 k9 c9) (.int .i64 p9) (by simp)
    have HREP := Lib.hid (hrep.fr hff (fun y hy _ => by simp only [List.mem_singleton] at hy; rw [hy]; show ¬ (w.alloc (.cells z5 80)).heap.size ≤ _; simp))
    have HRD9 := Lib.hid (hr3.fr hff (by simp; omega) (by simp; omega))
    have HF9 : Hid (Fr [r] w _) := (((Fr.refl [r] w).alloc _).trans hf3 (fun y hy => .inl hy)).trans hff (fun y hy => .inr (by simp at hy; omega))
    clear hrep hff hf3 hr3 HR1 HCH HRD
    have zf : ∀ i, w1.frozen? ⟨w.heap.size, i, none⟩ = false := fun i => Lib.frozen_of_heap HZ.out i
    have z0 : w1.cell? ⟨w.heap.size, 0, none⟩ = some (.int .i64 0) := by rw [Lib.cell_of_heap HZ.out]; rfl
    have z1 : w1.cell? ⟨w.heap.size, 1, none⟩ = some (.string ⟨#[]⟩) := by rw [Lib.cell_of_heap HZ.out]; rfl
    have z2 : w1.cell? ⟨w.heap.size, 2, none⟩ = some (.int .i64 0) := by rw [Lib.cell_of_heap HZ.out]; rfl
    have z3 : w1.cell? ⟨w.heap.size, 3, none⟩ = some (.slice none 0 0) := by rw [Lib.cell_of_heap HZ.out]; rfl
    have z4 : w1.cell? ⟨w.heap.size, 4, none⟩ = some (.int .i64 0) := by rw [Lib.cell_of_heap HZ.out]; rfl
    go_wp2_with fail
    refine bodyPost_ret (v := .agg #[.int .i64 op0, .string s9, .int .i64 n9, .slice q9 k9 c9, .int .i64 p9]) (results_cell_row rfl _ _ w.heap.size _ _ (0, 0) _ rfl HT.out Tryd.underlying80 rfl (by kernel_rfl)) rfl ?_
    exact Done.ok rfl (HREP.out.mono (fun g _ h => by have h9 : (w.alloc (.cells z5 80)).heap.size ≤ g := h; simp at h9; show w.heap.size ≤ g; omega)) HF9.out HRD9.out
set_option maxHeartbeats 2000000 in
set_option maxRecDepth 100000 in
theorem or_reads (f : Nat) (hF : ∀ f' ≤ f, ReadsEx 101 (Pol.and_ f')) : ReadsEx 82 (Pol.or_ (f + 1)) := by
  intro w r g o c l nest h hE hn hr hfed
  have hcf : ∀ args w, (callFunc 101 args).run Tryd.prog w = .ok (.enter 101 args) w := fun args w => by kernel_rfl
  have HCH := Lib.hid (chain_reads 101 hcf Pol.and_ Pol.orMore ⟨#[111, 114]⟩ 8 (fun _ _ _ => by simp [Pol.orMore]) (fun _ _ _ _ => by rw [Pol.orMore]; rfl)
    (fun f1 n1 l1 x1 m1 => ((Pol.all_keep f1).2.2.2.2.2.1 n1 l1 x1 m1)) f hF (w.alloc (.cells z5 80)) r g o c l nest (h.fr ((Fr.refl [] w).alloc _) List.not_mem_nil List.not_mem_nil) hE hn (by simp; omega) (Pol.or_ (f + 1) nest l) (by rw [Pol.or_]; rcases Pol.and_ f nest l with e | ⟨x, m⟩ <;> rfl) hfed)
  have HRD := Lib.hid h
  have HR1 := Lib.hid (heap_alloc_last w (.cells z5 80))
  have hg := h.gl
  have hmf : ∀ fn first cap w, (Instr.makeFunc fn first cap).run Tryd.prog w = .ok (.func fn first cap) w := fun _ _ _ _ => rfl
  obtain ⟨q, hq⟩ : ∃ q, Pol.or_ (f + 1) nest l = q := ⟨_, rfl⟩
  rw [hq] at HCH ⊢
  clear h hE hfed hF hq
  go_enter Tryd.func82, Tryd.ntmps82
  go_wp2_with fail
  refine HCH.out.mono ?_
  intro e w1 hd
  cases q with
  | error pe =>
    obtain ⟨pp, pn⟩ := pe
    have hs : Stops [r] _ pp pn e w1 := hd
    obtain ⟨b9, hb9, rfl, hrow9, hf9⟩ := hs.from (bs := [r]) ((Fr.refl _ w).alloc (.cells z5 80)) (fun y hy => .inl (by simpa using hy))
    show _
    exact ⟨rfl, Done.stop ⟨b9, hb9, rfl, hrow9, hf9⟩⟩
  | ok xm =>
    obtain ⟨x, m⟩ := xm
    obtain ⟨cs, rfl, hrep, hf3, o3, c3, hr3⟩ := hd
    obtain ⟨op0, s9, n9, q9, k9, c9, p9, rfl⟩ := hrep.form
    have HZ := Lib.hid (hf3.row HR1.out (by simp; omega))
    have HT := Lib.hid (heap_five HZ.out (.int .i64 op0) (.string s9) (.int .i64 n9) (.slice q9 k9 c9) (.int .i64 p9))
    have hff := fr_five w1 [w.heap.size] w.heap.size (.int .i64 op0) (.string s9) (.int .i64 n9) (.slice q9 k9 c9) (.int .i64 p9) (by simp)
    have HREP := Lib.hid (hrep.fr hff (fun y hy _ => by simp only [List.mem_singleton] at hy; rw [hy]; show ¬ (w.alloc (.cells z5 80)).heap.size ≤ _; simp))
    have HRD9 := Lib.hid (hr3.fr hff (by simp; omega) (by simp; omega))
    have HF9 : Hid (Fr [r] w _) := (((Fr.refl [r] w).alloc _).trans hf3 (fun y hy => .inl hy)).trans hff (fun y hy => .inr (by simp at hy; omega))
    clear hrep hff hf3 hr3 HR1 HCH HRD
    have zf : ∀ i, w1.frozen? ⟨w.heap.size, i, none⟩ = false := fun i => Lib.frozen_of_heap HZ.out i
    have z0 : w1.cell? ⟨w.heap.size, 0, none⟩ = some (.int .i64 0) := by rw [Lib.cell_of_heap HZ.out]; rfl
    have z1 : w1.cell? ⟨w.heap.size, 1, none⟩ = some (.string ⟨#[]⟩) := by rw [Lib.cell_of_heap HZ.out]; rfl
    have z2 : w1.cell? ⟨w.heap.size, 2, none⟩ = some (.int .i64 0) := by rw [Lib.cell_of_heap HZ.out]; rfl
    have z3 : w1.cell? ⟨w.heap.size, 3, none⟩ = some (.slice none 0 0) := by rw [Lib.cell_of_heap HZ.out]; rfl
    have z4 : w1.cell? ⟨w.heap.size, 4, none⟩ = some (.int .i64 0) := by rw [Lib.cell_of_heap HZ.out]; rfl
    go_wp2_with fail
    refine bodyPost_ret (v := .agg #[.int .i64 op0, .string s9, .int .i64 n9, .slice q9 k9 c9, .int .i64 p9]) (results_cell_row rfl _ _ w.heap.size _ _ (0, 0) _ rfl HT.out Tryd.underlying80 rfl (by kernel_rfl)) rfl ?_
    exact Done.ok rfl (HREP.out.mono (fun g _ h => by have h9 : (w.alloc (.cells z5 80)).heap.size ≤ g := h; simp at h9; show w.heap.size ≤ g; omega)) HF9.out HRD9.out
end Go.Proofs.YtgklmpooonnmiaaDoor
