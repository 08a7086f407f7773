/-
  Lemmas and contracts that the proofs over this seat use (PolOpd3); no statement of the seat is claimed in this text, and nothing is assumed in it.
-/
import Derived.Test.YtgklmpooonnmiaaDoorJ18
set_option linter.unusedVariables false
set_option linter.unusedSimpArgs false
namespace Go.Proofs.YtgklmpooonnmiaaDoor
open Go.RowKit
theorem rd_deeper_yes (w : World) (r g o c : Nat) (t : TI) (l : List TI) (nest : Nat) (h : Rd w r g o c (t :: l) nest) (hn : nest < 12) :
  Calls Tryd.prog 109 #[.pointer (some ⟨r, 0, none⟩)] w fun e w' => e = .returned (.tuple #[]) ∧ Fr [r] w w' ∧ Rd w' r g o c (t :: l) (nest + 1) := by
 have := rd_deeper w r g o c t l nest h (by omega)
 simp only [if_pos hn] at this
 exact this
theorem rd_deeper_no (w : World) (r g o c : Nat) (t : TI) (l : List TI) (nest : Nat) (h : Rd w r g o c (t :: l) nest) (hn : ¬ nest < 12) (h12 : nest ≤ 12) :
  Calls Tryd.prog 109 #[.pointer (some ⟨r, 0, none⟩)] w fun e w' => Stops [r] w t.p 121 e w' := by
 have := rd_deeper w r g o c t l nest h h12
 simp only [if_neg hn] at this
 exact this
theorem Rd.less {w : World} {r g o c : Nat} {l : List TI} {nest : Nat} (h : Rd w r g o c l (nest + 1)) : Rd (w.setCell ⟨r, 1, none⟩ (.int .i64 (nest : Int))) r g o c l nest := by
 have hf : Fr [r] w (w.setCell ⟨r, 1, none⟩ (.int .i64 (nest : Int))) := (Fr.refl [r] w).setCell (p := ⟨r, 1, none⟩) (.inl (by simp)) _
 exact ⟨(heap_setCell_same _ _ _ _ _ _ h.row).trans rfl, h.tk.fr hf h.gl (by simp; exact h.ne), Nat.lt_of_lt_of_le h.gl hf.size, h.ne, h.lc, h.cm, h.few⟩
theorem Opd.less {w : World} {r g o c : Nat} {l : List TI} {nest : Nat} {t : TI} {b : Nat} {rs e : Array Value} {W : World} (h : Opd w r g o c l (nest + 1) t b rs e W) : Opd w r g o c l nest t b rs e (W.setCell ⟨r, 1, none⟩ (.int .i64 (nest : Int))) :=
 h.step ((Fr.refl [r] W).setCell (p := ⟨r, 1, none⟩) (.inl (by simp)) _) h.rd.less
def Pol.within (f nest : Nat) (p : Int) (l : List TI) : Pol.PR Ex :=
 if 12 ≤ nest then .error (p, 121)
 else match Pol.or_ f (nest + 1) l with
  | .error e => .error e
  | .ok (x, m) => match Pol.must m [41] with
    | .error e => .error e
    | .ok (_, m) => .ok (x, m)
theorem Rep.form {w : World} {D : Nat → Prop} {cs : List Value} {x : Ex} (h : Rep w D cs x) : ∃ (op : Int) (s : ByteArray) (n : Int) (q : Option Addr) (k c : Nat) (p : Int), cs = [.int .i64 op, .string s, .int .i64 n, .slice q k c, .int .i64 p] := by
 cases h
 exact ⟨_, _, _, _, _, _, _, rfl⟩
set_option maxHeartbeats 4000000 in
set_option maxRecDepth 100000 in
theorem opd_paren (f : Nat) (hO : ReadsEx 82 (Pol.or_ f)) (w : World) (r g o c : Nat) (t : TI) (l : List TI) (nest : Nat) (h : Rd w r g o c (t :: l) nest) (hr : r < w.heap.size) (hE : Ends l) (hn : nest ≤ 12) (hp : Pol.is (t :: l) 4 [40] = true) (hfed : Pol.Fed (Pol.within f nest t.p l)) :
  Calls Tryd.prog 110 #[.pointer (some ⟨r, 0, none⟩)] w (Done r g nest w (Pol.within f nest t.p l)) := by
 have HO := Lib.hid hO
 have HE := Lib.hid hE
 have HP0 := Lib.hid hp
 have HFD := Lib.hid hfed
 have hl := hE.pos
 clear hE hp hO hfed
 have hR := Lib.hid h
 obtain ⟨a0, a1, a2, a3⟩ := h.tk 0 t rfl
 have c0 := h.c0
 have hlc := h.lc
 have hm := h.cm
 have hg := h.gl
 have hne := h.ne
 rw [List.length_cons] at c0 hlc
 unfold maxLen at hm
 simp only [Nat.mul_zero, Nat.add_zero] at a0 a1 a2 a3
 clear h
 obtain ⟨tk, ts, tn, tp⟩ := t
 skip
 go_enter Tryd.func110, Tryd.ntmps110
 go_wp2_with fail
 refine calls_fresh (fun W => Opd w r g o c (⟨tk, ts, tn, tp⟩ :: l) nest ⟨tk, ts, tn, tp⟩ w.heap.size z5 #[.int .i64 0, .string ⟨#[]⟩, .int .i64 0, .slice none 0 0, .int .i64 tp] W) ?_ ?_
 ·have hF : Fr [] w (((w.alloc (.cells z5 80)).alloc (.cells #[.int .i64 (tk), .string ts, .int .i64 tn, .int .i64 tp] 25)).alloc (.cells #[.int .i64 0, .string ⟨#[]⟩, .int .i64 0, .slice none 0 0, .int .i64 tp] 80)) := (((Fr.refl _ _).alloc _).alloc _).alloc _
  exact ⟨hR.out.fr hF List.not_mem_nil List.not_mem_nil, (alloc3 _ _ _ _).1, (alloc3 _ _ _ _).2.1, (alloc3 _ _ _ _).2.2, hF.sub, hr, hg, rfl⟩
 intro W h1
 clear a0 a1 a2 a3 c0 hlc hR hm
 obtain ⟨b, hb⟩ : ∃ b, w.heap.size = b := ⟨_, rfl⟩
 rw [hb] at h1 ⊢
 have H := Lib.hid h1
 have HB := Lib.hid hb
 have hrb : r < b := by omega
 have hgb : g < b := by omega
 clear h1 hb
 have HN := Lib.hid (rd_next_is W r g o c ⟨_, ts, tn, tp⟩ l nest 4 ⟨#[40]⟩ true H.out.rd HP0.out)
 go_wp2_with fail
 refine HN.out.mono ?_
 rintro e w1 ⟨rfl, rfl⟩
 clear HN
 by_cases hn2 : nest < 12
 ·have HN2 := Lib.hid hn2
  have HP : Hid (Pol.within f nest tp l = match Pol.or_ f (nest + 1) l with
   | .error e => .error e
   | .ok (x, m) => match Pol.must m [41] with
     | .error e => .error e
     | .ok (_, m) => .ok (x, m)) := by show _ = _; unfold Pol.within; rw [if_neg (by omega)]
  clear hn2
  have HN := Lib.hid (rd_deeper_yes W r g o c _ l nest H.out.rd HN2.out)
  go_wp2_with fail
  refine HN.out.mono ?_
  rintro e W1 ⟨rfl, hf1, hr1⟩
  have H := Lib.hid (H.out.step hf1 hr1)
  clear HN hf1 hr1
  have HN := Lib.hid (rd_must_yes W1 r g _ _ _ l (nest + 1) ⟨#[40]⟩ H.out.rd hl HP0.out)
  go_wp2_with fail
  refine HN.out.mono ?_
  rintro e W2 ⟨rfl, hf1, hr1⟩
  have H := Lib.hid (H.out.step hf1 hr1)
  clear HN hf1 hr1
  have hr2 : r < W2.heap.size := Nat.lt_of_lt_of_le hr H.out.f.size
  have hb2 : b + 1 + 1 < W2.heap.size := row_lt H.out.ex
  have HN := Lib.hid (HO.out W2 r g _ _ l (nest + 1) H.out.rd HE.out HN2.out hr2 (fun p hp => HFD.out p (by show Pol.within f nest tp l = _; rw [HP.out, hp])))
  obtain ⟨q, hq⟩ : ∃ q, Pol.or_ f (nest + 1) l = q := ⟨_, rfl⟩
  rw [hq] at HN HP
  have Hq := Lib.hid hq
  clear hq HO
  have ef : ∀ i, W2.frozen? ⟨(b + 1 + 1), i, none⟩ = false := fun i => Lib.frozen_of_heap H.out.ex i
  have e0 : W2.cell? ⟨(b + 1 + 1), 0, none⟩ = some (.int .i64 0) := by rw [Lib.cell_of_heap H.out.ex]; rfl
  have e1 : W2.cell? ⟨(b + 1 + 1), 1, none⟩ = some (.string ⟨#[]⟩) := by rw [Lib.cell_of_heap H.out.ex]; rfl
  have e2 : W2.cell? ⟨(b + 1 + 1), 2, none⟩ = some (.int .i64 0) := by rw [Lib.cell_of_heap H.out.ex]; rfl
  have e3 : W2.cell? ⟨(b + 1 + 1), 3, none⟩ = some (.slice none 0 0) := by rw [Lib.cell_of_heap H.out.ex]; rfl
  have e4 : W2.cell? ⟨(b + 1 + 1), 4, none⟩ = some (.int .i64 tp) := by rw [Lib.cell_of_heap H.out.ex]; rfl
  go_wp2_with fail
  refine HN.out.mono ?_
  intro e W3 hd
  cases q with
  | error pe =>
   obtain ⟨pp, pn⟩ := pe
   have HPP : Hid (Pol.within f nest tp l = .error (pp, pn)) := HP.out
   have hs : Stops [r] W2 pp pn e W3 := hd
   obtain ⟨b9, hb9, rfl, hrow9, hf9⟩ := hs.from (bs := [r]) H.out.f (fun y hy => .inl (by simpa using hy))
   show _
   exact ⟨rfl, by rw [HPP.out]; exact Done.stop ⟨b9, hb9, rfl, hrow9, hf9⟩⟩
  | ok xm =>
   obtain ⟨x, m⟩ := xm
   obtain ⟨cs, rfl, hrep, hf3, o3, c3, hr3⟩ := hd
   obtain ⟨op, s9, n9, q9, k9, c9, p9, rfl⟩ := hrep.form
   have H := Lib.hid (H.out.step hf3 hr3)
   have hEm : Ends m := (Pol.all_keep f).2.2.2.2.2.2.2 (nest + 1) l x m Hq.out HE.out
   have hrb2 : W2.heap.size ≤ W3.heap.size := hf3.size
   have HREP := Lib.hid hrep
   have HEM := Lib.hid hEm
   clear e0 e1 e2 e3 e4 ef hf3 hr3 hrep hEm HN
   have ef : ∀ i, W3.frozen? ⟨(b + 1 + 1), i, none⟩ = false := fun i => Lib.frozen_of_heap H.out.ex i
   have e0 : W3.cell? ⟨(b + 1 + 1), 0, none⟩ = some (.int .i64 0) := by rw [Lib.cell_of_heap H.out.ex]; rfl
   have e1 : W3.cell? ⟨(b + 1 + 1), 1, none⟩ = some (.string ⟨#[]⟩) := by rw [Lib.cell_of_heap H.out.ex]; rfl
   have e2 : W3.cell? ⟨(b + 1 + 1), 2, none⟩ = some (.int .i64 0) := by rw [Lib.cell_of_heap H.out.ex]; rfl
   have e3 : W3.cell? ⟨(b + 1 + 1), 3, none⟩ = some (.slice none 0 0) := by rw [Lib.cell_of_heap H.out.ex]; rfl
   have e4 : W3.cell? ⟨(b + 1 + 1), 4, none⟩ = some (.int .i64 tp) := by rw [Lib.cell_of_heap H.out.ex]; rfl
   have H := Lib.hid (((((H.out.sete 0 (.int .i64 op)).sete 1 (.string s9)).sete 2 (.int .i64 n9)).sete 3 (.slice q9 k9 c9)).sete 4 (.int .i64 p9))
   obtain ⟨t3, l3, rfl⟩ := HEM.out.cons
   cases hq4 : Pol.is (t3 :: l3) 4 [41] with
   | false =>
    have HPP : Hid (Pol.within f nest tp l = .error (t3.p, 120)) := by show _ = _; rw [HP.out]; simp only [must_neg hq4]
    have HP1 := Lib.hid hq4
    clear hq4 HP
    have HP := HPP
    have HN := Lib.hid (rd_must_no _ r g _ _ t3 l3 (nest + 1) ⟨#[41]⟩ H.out.rd HP1.out)
    go_wp2_with fail
    refine HN.out.mono ?_
    intro e w1 hs
    obtain ⟨b9, hb9, rfl, hrow9, hf9⟩ := hs.from (bs := [r]) H.out.f (fun y hy => .inl (by simpa using hy))
    show _
    exact ⟨rfl, by first | exact Done.stop ⟨b9, hb9, rfl, hrow9, hf9⟩ | (rw [HP.out]; exact Done.stop ⟨b9, hb9, rfl, hrow9, hf9⟩)⟩
   | true =>
    have HPP : Hid (Pol.within f nest tp l = .ok (x, l3)) := by show _ = _; rw [HP.out]; simp only [must_pos hq4]
    have hE3 : Ends l3 := Pol.is_tail hq4 (by decide) HEM.out
    have hl3 := hE3.pos
    have HP1 := Lib.hid hq4
    clear hq4 HP hE3
    have HN := Lib.hid (rd_must_yes _ r g _ _ t3 l3 (nest + 1) ⟨#[41]⟩ H.out.rd hl3 HP1.out)
    go_wp2_with fail
    refine HN.out.mono ?_
    rintro e W4 ⟨rfl, hf1, hr1⟩
    have HREP4 : Hid (Rep W4 (fun g => w.heap.size ≤ g ∧ g ≠ b ∧ g ≠ b + 1 + 1 ∧ g ≠ r) [.int .i64 op, .string s9, .int .i64 n9, .slice q9 k9 c9, .int .i64 p9] x) := by
     show Rep _ _ _ _
     have h0 : Rep W3 (fun g => w.heap.size ≤ g ∧ g ≠ b ∧ g ≠ b + 1 + 1 ∧ g ≠ r) _ x := HREP.out.mono (fun g _ h => by have := HB.out; have h : W2.heap.size ≤ g := h; omega)
     refine Rep.fr hf1 (fun y hy _ => by simp only [List.mem_singleton] at hy; subst hy; simp) (Rep.fr (bs := [b + 1 + 1]) ((((((Fr.refl _ _).setCell (p := ⟨b + 1 + 1, 0, none⟩) (.inl (by simp)) _).setCell (p := ⟨b + 1 + 1, 1, none⟩) (.inl (by simp)) _).setCell (p := ⟨b + 1 + 1, 2, none⟩) (.inl (by simp)) _).setCell (p := ⟨b + 1 + 1, 3, none⟩) (.inl (by simp)) _).setCell (p := ⟨b + 1 + 1, 4, none⟩) (.inl (by simp)) _) (fun y hy _ => by simp only [List.mem_singleton] at hy; subst hy; simp) h0)
    have H := Lib.hid (H.out.step hf1 hr1)
    clear HN hf1 hr1 e0 e1 e2 e3 e4 ef HREP hrb2 hb2 hr2
    have c1 := H.out.rd.c1
    have f1 := frozen_of_row _ _ 1 _ _ H.out.rd.row
    have e9 : ((nest + 1 : Nat) : Int) - 1 = (nest : Int) := by omega
    rw [show ((nest + 1 : Nat) : Int) = (nest : Int) + 1 by omega] at c1
    have hn0 : (0 : Int) ≤ nest := by omega
    have hn12 : (nest : Int) ≤ 12 := by omega
    have ef : ∀ i, W4.frozen? ⟨(b + 1 + 1), i, none⟩ = false := fun i => Lib.frozen_of_heap H.out.ex i
    have e0 : W4.cell? ⟨(b + 1 + 1), 0, none⟩ = some (.int .i64 op) := by rw [Lib.cell_of_heap H.out.ex]; rfl
    have e1 : W4.cell? ⟨(b + 1 + 1), 1, none⟩ = some (.string s9) := by rw [Lib.cell_of_heap H.out.ex]; rfl
    have e2 : W4.cell? ⟨(b + 1 + 1), 2, none⟩ = some (.int .i64 n9) := by rw [Lib.cell_of_heap H.out.ex]; rfl
    have e3 : W4.cell? ⟨(b + 1 + 1), 3, none⟩ = some (.slice q9 k9 c9) := by rw [Lib.cell_of_heap H.out.ex]; rfl
    have e4 : W4.cell? ⟨(b + 1 + 1), 4, none⟩ = some (.int .i64 p9) := by rw [Lib.cell_of_heap H.out.ex]; rfl
    have zf : ∀ i, W4.frozen? ⟨b, i, none⟩ = false := fun i => Lib.frozen_of_heap H.out.res i
    have z0 : W4.cell? ⟨b, 0, none⟩ = some (.int .i64 0) := by rw [Lib.cell_of_heap H.out.res]; rfl
    have z1 : W4.cell? ⟨b, 1, none⟩ = some (.string ⟨#[]⟩) := by rw [Lib.cell_of_heap H.out.res]; rfl
    have z2 : W4.cell? ⟨b, 2, none⟩ = some (.int .i64 0) := by rw [Lib.cell_of_heap H.out.res]; rfl
    have z3 : W4.cell? ⟨b, 3, none⟩ = some (.slice none 0 0) := by rw [Lib.cell_of_heap H.out.res]; rfl
    have z4 : W4.cell? ⟨b, 4, none⟩ = some (.int .i64 0) := by rw [Lib.cell_of_heap H.out.res]; rfl
    have HT := Lib.hid ((((((H.out.less).setr 0 (.int .i64 op)).setr 1 (.string s9)).setr 2 (.int .i64 n9)).setr 3 (.slice q9 k9 c9)).setr 4 (.int .i64 p9))
    have HREP5 : Hid (Rep _ _ _ _) := Rep.fr (bs := [r, b]) (((((((Fr.refl [r, b] W4).setCell (p := ⟨r, 1, none⟩) (.inl (by simp)) (.int .i64 (nest : Int))).setCell (p := ⟨b, 0, none⟩) (.inl (by simp)) (.int .i64 op)).setCell (p := ⟨b, 1, none⟩) (.inl (by simp)) (.string s9)).setCell (p := ⟨b, 2, none⟩) (.inl (by simp)) (.int .i64 n9)).setCell (p := ⟨b, 3, none⟩) (.inl (by simp)) (.slice q9 k9 c9)).setCell (p := ⟨b, 4, none⟩) (.inl (by simp)) (.int .i64 p9)) (fun y hy _ => by simp only [List.mem_cons, List.not_mem_nil, or_false] at hy; rcases hy with rfl | rfl <;> simp) HREP4.out
    go_wp2_with fail
    refine bodyPost_ret (v := .agg #[.int .i64 op, .string s9, .int .i64 n9, .slice q9 k9 c9, .int .i64 p9]) (results_cell_row rfl _ _ b _ _ (0, 0) _ rfl HT.out.res Tryd.underlying80 rfl (by kernel_rfl)) rfl ?_
    rw [HPP.out]
    exact Done.ok rfl (HREP5.out.mono (fun g _ h => h.1)) HT.out.f HT.out.rd
 ·have HN2 := Lib.hid hn2
  have HP : Hid (Pol.within f nest tp l = .error (tp, 121)) := by show _ = _; unfold Pol.within; rw [if_pos (by omega)]
  clear hn2
  have HN := Lib.hid (rd_deeper_no W r g o c _ l nest H.out.rd HN2.out hn)
  go_wp2_with fail
  refine HN.out.mono ?_
  intro e w1 hs
  obtain ⟨b9, hb9, rfl, hrow9, hf9⟩ := hs.from (bs := [r]) H.out.f (fun y hy => .inl (by simpa using hy))
  show _
  exact ⟨rfl, by first | exact Done.stop ⟨b9, hb9, rfl, hrow9, hf9⟩ | (rw [HP.out]; exact Done.stop ⟨b9, hb9, rfl, hrow9, hf9⟩)⟩
end Go.Proofs.YtgklmpooonnmiaaDoor
