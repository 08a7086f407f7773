/-
  Lemmas and contracts that the proofs over this seat use (PolOpd, PolOpd2); no statement of the seat is claimed in this text, and nothing is assumed in it.
-/
import Derived.Test.YtgklmpooonnmiaaDoorJ17
import Derived.Deep.RegionHeld3
import Derived.RegionTactic
import Derived.ChangeAlike
set_option linter.unusedVariables false
set_option linter.unusedSimpArgs false
namespace Go.Proofs.YtgklmpooonnmiaaDoor
open Go.RowKit
theorem heap_set_row {w : World} {g : Nat} {cs : Array Value} {t : TypeId} (h : w.heap[g]? = some (.cells cs t (0, 0))) (i : Nat) (u : Value) : (w.setCell ⟨g, i, none⟩ u).heap[g]? = some (.cells (cs.setIfInBounds i u) t (0, 0)) :=
 (heap_setCell_same _ _ _ _ _ _ h).trans rfl
theorem alloc3 (w : World) (a b c : Obj) : (((w.alloc a).alloc b).alloc c).heap[w.heap.size]? = some a ∧ (((w.alloc a).alloc b).alloc c).heap[w.heap.size + 1]? = some b ∧ (((w.alloc a).alloc b).alloc c).heap[w.heap.size + 1 + 1]? = some c := by
 have e1 : (w.alloc a).heap.size = w.heap.size + 1 := by simp
 have e2 : ((w.alloc a).alloc b).heap.size = w.heap.size + 1 + 1 := by simp
 refine ⟨?_, ?_, ?_⟩
 ·rw [Below.heap_alloc _ _ _ (by rw [e2]; omega), Below.heap_alloc _ _ _ (by rw [e1]; omega)]; exact heap_alloc_last _ _
 ·rw [Below.heap_alloc _ _ _ (by rw [e2]; omega), ← e1]; exact heap_alloc_last _ _
 ·rw [← e2]; exact heap_alloc_last _ _
structure Opd (w : World) (r g o c : Nat) (l : List TI) (nest : Nat) (t : TI) (b : Nat) (rs e : Array Value) (W : World) : Prop where
 rd : Rd W r g o c l nest
 res : W.heap[b]? = some (.cells rs 80 (0, 0))
 tok : W.heap[b + 1]? = some (.cells #[.int .i64 t.k, .string t.s, .int .i64 t.n, .int .i64 t.p] 25 (0, 0))
 ex : W.heap[b + 1 + 1]? = some (.cells e 80 (0, 0))
 f : Fr [r] w W
 rl : r < w.heap.size
 gl : g < w.heap.size
 bw : b = w.heap.size
theorem Opd.step {w : World} {r g o c : Nat} {l : List TI} {nest : Nat} {t : TI} {b : Nat} {rs e : Array Value} {W W' : World} {o' c' : Nat} {l' : List TI} {nest' : Nat} (h : Opd w r g o c l nest t b rs e W) (hf : Fr [r] W W') (hr : Rd W' r g o' c' l' nest') : Opd w r g o' c' l' nest' t b rs e W' := by
 have h1 := h.rl; have h2 := h.bw
 exact ⟨hr, hf.row h.res (by simp; omega), hf.row h.tok (by simp; omega), hf.row h.ex (by simp; omega), h.f.trans hf (fun y hy => .inl hy), h1, h.gl, h2⟩
theorem Opd.fr {w : World} {r g o c : Nat} {l : List TI} {nest : Nat} {t : TI} {b : Nat} {rs e : Array Value} {W W' : World} (h : Opd w r g o c l nest t b rs e W) (hf : Fr [] W W') : Opd w r g o c l nest t b rs e W' :=
 ⟨h.rd.fr hf (by simp) (by simp), hf.row h.res (by simp), hf.row h.tok (by simp), hf.row h.ex (by simp), h.f.trans0 hf, h.rl, h.gl, h.bw⟩
theorem Opd.sete {w : World} {r g o c : Nat} {l : List TI} {nest : Nat} {t : TI} {b : Nat} {rs e : Array Value} {W : World} (h : Opd w r g o c l nest t b rs e W) (i : Nat) (u : Value) : Opd w r g o c l nest t b rs (e.setIfInBounds i u) (W.setCell ⟨b + 1 + 1, i, none⟩ u) := by
 have h1 := h.rl; have h2 := h.bw; have h3 := h.gl
 have hf : Fr [b + 1 + 1] W (W.setCell ⟨b + 1 + 1, i, none⟩ u) := (Fr.refl _ _).setCell (p := ⟨b + 1 + 1, i, none⟩) (.inl (by simp)) _
 exact ⟨h.rd.fr hf (by simp; omega) (by simp; omega), hf.row h.res (by simp; omega), hf.row h.tok (by simp), heap_set_row h.ex i u, h.f.setCell (p := ⟨b + 1 + 1, i, none⟩) (.inr (by show _ ≤ b + 1 + 1; omega)) _, h1, h3, h2⟩
theorem Opd.setr {w : World} {r g o c : Nat} {l : List TI} {nest : Nat} {t : TI} {b : Nat} {rs e : Array Value} {W : World} (h : Opd w r g o c l nest t b rs e W) (i : Nat) (u : Value) : Opd w r g o c l nest t b (rs.setIfInBounds i u) e (W.setCell ⟨b, i, none⟩ u) := by
 have h1 := h.rl; have h2 := h.bw; have h3 := h.gl
 have hf : Fr [b] W (W.setCell ⟨b, i, none⟩ u) := (Fr.refl _ _).setCell (p := ⟨b, i, none⟩) (.inl (by simp)) _
 exact ⟨h.rd.fr hf (by simp; omega) (by simp; omega), heap_set_row h.res i u, hf.row h.tok (by simp), hf.row h.ex (by simp; omega), h.f.setCell (p := ⟨b, i, none⟩) (.inr (by show _ ≤ b; omega)) _, h1, h3, h2⟩
theorem Opd.cut {w : World} {r g o c : Nat} {l : List TI} {nest : Nat} {t u : TI} {b : Nat} {rs e : Array Value} {W : World} (h : Opd w r g o c (u :: l) nest t b rs e W) : Opd w r g (o + 4) (c - 1) l nest t b rs e (W.setCell ⟨r, 0, none⟩ (.slice (some ⟨g, o + 4, none⟩) l.length (c - 1))) :=
 h.step ((Fr.refl [r] W).setCell (p := ⟨r, 0, none⟩) (.inl (by simp)) _) h.rd.cut
abbrev z5 : Array Value := #[.int .i64 0, .string ⟨#[]⟩, .int .i64 0, .slice none 0 0, .int .i64 0]
theorem is_cons (t : TI) (l : List TI) (k : Int) (s : ByteArray) : (t.k == k && t.s.toList == s.toList) = Pol.is (t :: l) k s.data.toList := by
 show _ = (t.k == k && t.s.toList == s.data.toList)
 rw [ByteArray.toList_eq s]
theorem rd_next_is (w : World) (r g o c : Nat) (t : TI) (l : List TI) (nest : Nat) (k : Int) (s : ByteArray) (q : Bool) (h : Rd w r g o c (t :: l) nest) (hq : Pol.is (t :: l) k s.data.toList = q) :
  Calls Tryd.prog 55 #[.pointer (some ⟨r, 0, none⟩), .int .i64 k, .string s] w fun e w' => e = .returned (.bool q) ∧ w = w' := by
 have := rd_next w r g o c t l nest k s h
 rw [is_cons t l k s, hq] at this
 exact this
theorem rd_took_yes (w : World) (r g o c : Nat) (t : TI) (l : List TI) (nest : Nat) (k : Int) (s : ByteArray) (h : Rd w r g o c (t :: l) nest) (hl : 0 < l.length) (hq : Pol.is (t :: l) k s.data.toList = true) :
  Calls Tryd.prog 78 #[.pointer (some ⟨r, 0, none⟩), .int .i64 k, .string s] w fun e w' => e = .returned (.bool true) ∧ Fr [r] w w' ∧ Rd w' r g (o + 4) (c - 1) l nest := by
 have := rd_took w r g o c t l nest k s h (fun _ => hl)
 simp only [is_cons t l k s, hq, if_true] at this
 exact this
theorem rd_took_no (w : World) (r g o c : Nat) (t : TI) (l : List TI) (nest : Nat) (k : Int) (s : ByteArray) (h : Rd w r g o c (t :: l) nest) (hq : Pol.is (t :: l) k s.data.toList = false) :
  Calls Tryd.prog 78 #[.pointer (some ⟨r, 0, none⟩), .int .i64 k, .string s] w fun e w' => e = .returned (.bool false) ∧ w = w' := by
 have := rd_took w r g o c t l nest k s h (fun hc => by rw [is_cons t l k s, hq] at hc; cases hc)
 simp only [is_cons t l k s, hq] at this
 exact this.mono (fun e w' h => ⟨h.1, by simpa using h.2.2⟩)
theorem rd_must_yes (w : World) (r g o c : Nat) (t : TI) (l : List TI) (nest : Nat) (s : ByteArray) (h : Rd w r g o c (t :: l) nest) (hl : 0 < l.length) (hq : Pol.is (t :: l) 4 s.data.toList = true) :
  Calls Tryd.prog 83 #[.pointer (some ⟨r, 0, none⟩), .string s] w fun e w' => e = .returned (.tuple #[]) ∧ Fr [r] w w' ∧ Rd w' r g (o + 4) (c - 1) l nest := by
 have := rd_must w r g o c t l nest s h (fun _ => hl)
 simp only [is_cons t l 4 s, hq, if_true] at this
 exact this
theorem rd_must_no (w : World) (r g o c : Nat) (t : TI) (l : List TI) (nest : Nat) (s : ByteArray) (h : Rd w r g o c (t :: l) nest) (hq : Pol.is (t :: l) 4 s.data.toList = false) :
  Calls Tryd.prog 83 #[.pointer (some ⟨r, 0, none⟩), .string s] w fun e w' => Stops [r] w t.p 120 e w' := by
 have := rd_must w r g o c t l nest s h (fun hc => by rw [is_cons t l 4 s, hq] at hc; cases hc)
 simp only [is_cons t l 4 s, hq] at this
 exact this
theorem Done.stop {r g nest : Nat} {w w' : World} {p n : Int} {e : Ending} (h : Stops [r] w p n e w') : Done r g nest w (.error (p, n)) e w' := h
theorem Done.ok {r g nest : Nat} {w w' : World} {x : Ex} {m : List TI} {cs : List Value} {e : Ending} {o c : Nat} (he : e = .returned (.agg cs.toArray)) (hr : Rep w' (fun g => w.heap.size ≤ g) cs x) (hf : Fr [r] w w') (hR : Rd w' r g o c m nest) : Done r g nest w (.ok (x, m)) e w' :=
 ⟨cs, he, hr, hf, o, c, hR⟩
theorem Fr.sub {bs : List Nat} {w w' : World} (h : Fr [] w w') : Fr bs w w' := ⟨h.os, h.tape, h.output, h.size, fun k hk _ => h.block k hk (by simp)⟩
set_option maxHeartbeats 1000000 in
set_option maxRecDepth 100000 in
theorem opd_int (w : World) (r g o c : Nat) (t : TI) (l : List TI) (nest : Nat) (h : Rd w r g o c (t :: l) nest) (hr : r < w.heap.size) (hl : 0 < l.length) (hk : t.k = 3) :
  Calls Tryd.prog 110 #[.pointer (some ⟨r, 0, none⟩)] w (Done r g nest w (.ok (.mk 2 Pol.none_ t.n [] t.p, l))) := by
 have hR := Lib.hid h
 obtain ⟨a0, a1, a2, a3⟩ := h.tk 0 t rfl
 have c0 := h.c0
 have hlc := h.lc
 have hm := h.cm
 have hg := h.gl
 have hne := h.ne
 rw [List.length_cons] at c0 hlc
 unfold maxLen at hm
 simp only [Nat.mul_zero, Nat.add_zero] at a0 a1 a2 a3
 clear h
 obtain ⟨tk, ts, tn, tp⟩ := t
 obtain rfl : tk = 3 := hk
 go_enter Tryd.func110, Tryd.ntmps110
 go_wp2_with fail
 refine calls_fresh (fun W => Opd w r g o c (⟨3, ts, tn, tp⟩ :: l) nest ⟨3, ts, tn, tp⟩ w.heap.size z5 #[.int .i64 0, .string ⟨#[]⟩, .int .i64 0, .slice none 0 0, .int .i64 tp] W) ?_ ?_
 ·have hF : Fr [] w (((w.alloc (.cells z5 80)).alloc (.cells #[  .int .i64 (3), .string ts, .int .i64 tn, .int .i64 tp] 25)).alloc (.cells #[.int .i64 0, .string ⟨#[]⟩, .int .i64 0, .slice none 0 0, .int .i64 tp] 80)) := (((Fr.refl _ _).alloc _).alloc _).alloc _
  exact ⟨hR.out.fr hF List.not_mem_nil List.not_mem_nil, (alloc3 _ _ _ _).1, (alloc3 _ _ _ _).2.1, (alloc3 _ _ _ _).2.2, hF.sub, hr, hg, rfl⟩
 intro W h1
 clear a0 a1 a2 a3 c0 hlc hR hm
 obtain ⟨b, hb⟩ : ∃ b, w.heap.size = b := ⟨_, rfl⟩
 rw [hb] at h1 ⊢
 have H := Lib.hid h1
 have HB := Lib.hid hb
 have hrb : r < b := by omega
 have hgb : g < b := by omega
 clear h1 hb
 have HN := Lib.hid (rd_next_is W r g o c ⟨_, ts, tn, tp⟩ l nest 4 ⟨#[40]⟩ false H.out.rd rfl)
 go_wp2_with fail
 refine HN.out.mono ?_
 rintro e w1 ⟨rfl, rfl⟩
 clear HN
 have a1 : ((3 : Int) == 3) = true := rfl
 have kf : ∀ i, W.frozen? ⟨(b + 1), i, none⟩ = false := fun i => Lib.frozen_of_heap H.out.tok i
 have k0 : W.cell? ⟨(b + 1), 0, none⟩ = some (.int .i64 (3)) := by rw [Lib.cell_of_heap H.out.tok]; rfl
 have k1 : W.cell? ⟨(b + 1), 1, none⟩ = some (.string ts) := by rw [Lib.cell_of_heap H.out.tok]; rfl
 have k2 : W.cell? ⟨(b + 1), 2, none⟩ = some (.int .i64 tn) := by rw [Lib.cell_of_heap H.out.tok]; rfl
 have k3 : W.cell? ⟨(b + 1), 3, none⟩ = some (.int .i64 tp) := by rw [Lib.cell_of_heap H.out.tok]; rfl
 have ef : ∀ i, W.frozen? ⟨(b + 1 + 1), i, none⟩ = false := fun i => Lib.frozen_of_heap H.out.ex i
 have e0 : W.cell? ⟨(b + 1 + 1), 0, none⟩ = some (.int .i64 0) := by rw [Lib.cell_of_heap H.out.ex]; rfl
 have e1 : W.cell? ⟨(b + 1 + 1), 1, none⟩ = some (.string ⟨#[]⟩) := by rw [Lib.cell_of_heap H.out.ex]; rfl
 have e2 : W.cell? ⟨(b + 1 + 1), 2, none⟩ = some (.int .i64 0) := by rw [Lib.cell_of_heap H.out.ex]; rfl
 have e3 : W.cell? ⟨(b + 1 + 1), 3, none⟩ = some (.slice none 0 0) := by rw [Lib.cell_of_heap H.out.ex]; rfl
 have e4 : W.cell? ⟨(b + 1 + 1), 4, none⟩ = some (.int .i64 tp) := by rw [Lib.cell_of_heap H.out.ex]; rfl
 go_wp2_with fail
 go_region
 all_goals
  refine then_fresh (fun V => Opd w r g o c (⟨3, ts, tn, tp⟩ :: l) nest ⟨3, ts, tn, tp⟩ b z5 #[.int .i64 2, .string ⟨#[]⟩, .int .i64 tn, .slice none 0 0, .int .i64 tp] V) ?_ ?_
  ·first
    | exact ((H.out.sete 0 (.int .i64 2)).sete 2 (.int .i64 tn)).fr (Fr.refl [] _).drew
    | exact ((H.out.sete 2 (.int .i64 tn)).sete 0 (.int .i64 2)).fr (Fr.refl [] _).drew
  intro V h1
  have H := Lib.hid h1
  clear h1 k0 k1 k2 k3 e0 e1 e2 e3 e4 kf ef
  have c0 := H.out.rd.c0
  have f0 := frozen_of_row _ _ 0 _ _ H.out.rd.row
  have hlc := H.out.rd.lc
  have hm := H.out.rd.cm
  have hne := H.out.rd.ne
  rw [List.length_cons] at c0 hlc
  unfold maxLen at hm
  have zf : ∀ i, V.frozen? ⟨b, i, none⟩ = false := fun i => Lib.frozen_of_heap H.out.res i
  have z0 : V.cell? ⟨b, 0, none⟩ = some (.int .i64 0) := by rw [Lib.cell_of_heap H.out.res]; rfl
  have z1 : V.cell? ⟨b, 1, none⟩ = some (.string ⟨#[]⟩) := by rw [Lib.cell_of_heap H.out.res]; rfl
  have z2 : V.cell? ⟨b, 2, none⟩ = some (.int .i64 0) := by rw [Lib.cell_of_heap H.out.res]; rfl
  have z3 : V.cell? ⟨b, 3, none⟩ = some (.slice none 0 0) := by rw [Lib.cell_of_heap H.out.res]; rfl
  have z4 : V.cell? ⟨b, 4, none⟩ = some (.int .i64 0) := by rw [Lib.cell_of_heap H.out.res]; rfl
  have ef : ∀ i, V.frozen? ⟨(b + 1 + 1), i, none⟩ = false := fun i => Lib.frozen_of_heap H.out.ex i
  have e0 : V.cell? ⟨(b + 1 + 1), 0, none⟩ = some (.int .i64 2) := by rw [Lib.cell_of_heap H.out.ex]; rfl
  have e1 : V.cell? ⟨(b + 1 + 1), 1, none⟩ = some (.string ⟨#[]⟩) := by rw [Lib.cell_of_heap H.out.ex]; rfl
  have e2 : V.cell? ⟨(b + 1 + 1), 2, none⟩ = some (.int .i64 tn) := by rw [Lib.cell_of_heap H.out.ex]; rfl
  have e3 : V.cell? ⟨(b + 1 + 1), 3, none⟩ = some (.slice none 0 0) := by rw [Lib.cell_of_heap H.out.ex]; rfl
  have e4 : V.cell? ⟨(b + 1 + 1), 4, none⟩ = some (.int .i64 tp) := by rw [Lib.cell_of_heap H.out.ex]; rfl
  have HT := Lib.hid ((((((H.out.cut).setr 0 (.int .i64 2)).setr 1 (.string ⟨#[]⟩)).setr 2 (.int .i64 tn)).setr 3 (.slice none 0 0)).setr 4 (.int .i64 tp))
  go_wp2_with fail
  refine bodyPost_ret (v := .agg #[.int .i64 2, .string ⟨#[]⟩, .int .i64 tn, .slice none 0 0, .int .i64 tp]) (results_cell_row rfl _ _ b _ _ (0, 0) _ rfl HT.out.res Tryd.underlying80 rfl (by kernel_rfl)) rfl ?_
  exact ⟨[_, _, _, _, _], rfl, Rep.leaf _ _ _ _ _ _, HT.out.f, _, _, HT.out.rd⟩
set_option maxHeartbeats 1000000 in
set_option maxRecDepth 100000 in
theorem opd_text (w : World) (r g o c : Nat) (t : TI) (l : List TI) (nest : Nat) (h : Rd w r g o c (t :: l) nest) (hr : r < w.heap.size) (hl : 0 < l.length) (hk : t.k = 2) :
  Calls Tryd.prog 110 #[.pointer (some ⟨r, 0, none⟩)] w (Done r g nest w (.ok (.mk 3 t.s 0 [] t.p, l))) := by
 have hR := Lib.hid h
 obtain ⟨a0, a1, a2, a3⟩ := h.tk 0 t rfl
 have c0 := h.c0
 have hlc := h.lc
 have hm := h.cm
 have hg := h.gl
 have hne := h.ne
 rw [List.length_cons] at c0 hlc
 unfold maxLen at hm
 simp only [Nat.mul_zero, Nat.add_zero] at a0 a1 a2 a3
 clear h
 obtain ⟨tk, ts, tn, tp⟩ := t
 obtain rfl : tk = 2 := hk
 go_enter Tryd.func110, Tryd.ntmps110
 go_wp2_with fail
 refine calls_fresh (fun W => Opd w r g o c (⟨2, ts, tn, tp⟩ :: l) nest ⟨2, ts, tn, tp⟩ w.heap.size z5 #[.int .i64 0, .string ⟨#[]⟩, .int .i64 0, .slice none 0 0, .int .i64 tp] W) ?_ ?_
 ·have hF : Fr [] w (((w.alloc (.cells z5 80)).alloc (.cells #[  .int .i64 (2), .string ts, .int .i64 tn, .int .i64 tp] 25)).alloc (.cells #[.int .i64 0, .string ⟨#[]⟩, .int .i64 0, .slice none 0 0, .int .i64 tp] 80)) := (((Fr.refl _ _).alloc _).alloc _).alloc _
  exact ⟨hR.out.fr hF List.not_mem_nil List.not_mem_nil, (alloc3 _ _ _ _).1, (alloc3 _ _ _ _).2.1, (alloc3 _ _ _ _).2.2, hF.sub, hr, hg, rfl⟩
 intro W h1
 clear a0 a1 a2 a3 c0 hlc hR hm
 obtain ⟨b, hb⟩ : ∃ b, w.heap.size = b := ⟨_, rfl⟩
 rw [hb] at h1 ⊢
 have H := Lib.hid h1
 have HB := Lib.hid hb
 have hrb : r < b := by omega
 have hgb : g < b := by omega
 clear h1 hb
 have HN := Lib.hid (rd_next_is W r g o c ⟨_, ts, tn, tp⟩ l nest 4 ⟨#[40]⟩ false H.out.rd rfl)
 go_wp2_with fail
 refine HN.out.mono ?_
 rintro e w1 ⟨rfl, rfl⟩
 clear HN
 have a1 : ((2 : Int) == 3) = false := rfl
 have a2 : ((2 : Int) == 2) = true := rfl
 have kf : ∀ i, W.frozen? ⟨(b + 1), i, none⟩ = false := fun i => Lib.frozen_of_heap H.out.tok i
 have k0 : W.cell? ⟨(b + 1), 0, none⟩ = some (.int .i64 (2)) := by rw [Lib.cell_of_heap H.out.tok]; rfl
 have k1 : W.cell? ⟨(b + 1), 1, none⟩ = some (.string ts) := by rw [Lib.cell_of_heap H.out.tok]; rfl
 have k2 : W.cell? ⟨(b + 1), 2, none⟩ = some (.int .i64 tn) := by rw [Lib.cell_of_heap H.out.tok]; rfl
 have k3 : W.cell? ⟨(b + 1), 3, none⟩ = some (.int .i64 tp) := by rw [Lib.cell_of_heap H.out.tok]; rfl
 have ef : ∀ i, W.frozen? ⟨(b + 1 + 1), i, none⟩ = false := fun i => Lib.frozen_of_heap H.out.ex i
 have e0 : W.cell? ⟨(b + 1 + 1), 0, none⟩ = some (.int .i64 0) := by rw [Lib.cell_of_heap H.out.ex]; rfl
 have e1 : W.cell? ⟨(b + 1 + 1), 1, none⟩ = some (.string ⟨#[]⟩) := by rw [Lib.cell_of_heap H.out.ex]; rfl
 have e2 : W.cell? ⟨(b + 1 + 1), 2, none⟩ = some (.int .i64 0) := by rw [Lib.cell_of_heap H.out.ex]; rfl
 have e3 : W.cell? ⟨(b + 1 + 1), 3, none⟩ = some (.slice none 0 0) := by rw [Lib.cell_of_heap H.out.ex]; rfl
 have e4 : W.cell? ⟨(b + 1 + 1), 4, none⟩ = some (.int .i64 tp) := by rw [Lib.cell_of_heap H.out.ex]; rfl
 go_wp2_with fail
 go_region
 all_goals
  refine then_fresh (fun V => Opd w r g o c (⟨2, ts, tn, tp⟩ :: l) nest ⟨2, ts, tn, tp⟩ b z5 #[.int .i64 3, .string ts, .int .i64 0, .slice none 0 0, .int .i64 tp] V) ?_ ?_
  ·first
    | exact ((H.out.sete 0 (.int .i64 3)).sete 1 (.string ts)).fr (Fr.refl [] _).drew
    | exact ((H.out.sete 1 (.string ts)).sete 0 (.int .i64 3)).fr (Fr.refl [] _).drew
  intro V h1
  have H := Lib.hid h1
  clear h1 k0 k1 k2 k3 e0 e1 e2 e3 e4 kf ef
  have c0 := H.out.rd.c0
  have f0 := frozen_of_row _ _ 0 _ _ H.out.rd.row
  have hlc := H.out.rd.lc
  have hm := H.out.rd.cm
  have hne := H.out.rd.ne
  rw [List.length_cons] at c0 hlc
  unfold maxLen at hm
  have zf : ∀ i, V.frozen? ⟨b, i, none⟩ = false := fun i => Lib.frozen_of_heap H.out.res i
  have z0 : V.cell? ⟨b, 0, none⟩ = some (.int .i64 0) := by rw [Lib.cell_of_heap H.out.res]; rfl
  have z1 : V.cell? ⟨b, 1, none⟩ = some (.string ⟨#[]⟩) := by rw [Lib.cell_of_heap H.out.res]; rfl
  have z2 : V.cell? ⟨b, 2, none⟩ = some (.int .i64 0) := by rw [Lib.cell_of_heap H.out.res]; rfl
  have z3 : V.cell? ⟨b, 3, none⟩ = some (.slice none 0 0) := by rw [Lib.cell_of_heap H.out.res]; rfl
  have z4 : V.cell? ⟨b, 4, none⟩ = some (.int .i64 0) := by rw [Lib.cell_of_heap H.out.res]; rfl
  have ef : ∀ i, V.frozen? ⟨(b + 1 + 1), i, none⟩ = false := fun i => Lib.frozen_of_heap H.out.ex i
  have e0 : V.cell? ⟨(b + 1 + 1), 0, none⟩ = some (.int .i64 3) := by rw [Lib.cell_of_heap H.out.ex]; rfl
  have e1 : V.cell? ⟨(b + 1 + 1), 1, none⟩ = some (.string ts) := by rw [Lib.cell_of_heap H.out.ex]; rfl
  have e2 : V.cell? ⟨(b + 1 + 1), 2, none⟩ = some (.int .i64 0) := by rw [Lib.cell_of_heap H.out.ex]; rfl
  have e3 : V.cell? ⟨(b + 1 + 1), 3, none⟩ = some (.slice none 0 0) := by rw [Lib.cell_of_heap H.out.ex]; rfl
  have e4 : V.cell? ⟨(b + 1 + 1), 4, none⟩ = some (.int .i64 tp) := by rw [Lib.cell_of_heap H.out.ex]; rfl
  have HT := Lib.hid ((((((H.out.cut).setr 0 (.int .i64 3)).setr 1 (.string ts)).setr 2 (.int .i64 0)).setr 3 (.slice none 0 0)).setr 4 (.int .i64 tp))
  go_wp2_with fail
  refine bodyPost_ret (v := .agg #[.int .i64 3, .string ts, .int .i64 0, .slice none 0 0, .int .i64 tp]) (results_cell_row rfl _ _ b _ _ (0, 0) _ rfl HT.out.res Tryd.underlying80 rfl (by kernel_rfl)) rfl ?_
  exact ⟨[_, _, _, _, _], rfl, Rep.leaf _ _ _ _ _ _, HT.out.f, _, _, HT.out.rd⟩
theorem is_kind {k k' : Int} {s : ByteArray} {n p : Int} {l : List TI} {b : List UInt8} (h : (k == k') = false) : Pol.is (⟨k, s, n, p⟩ :: l) k' b = false := by
 simp only [Pol.is, h, Bool.false_and]
set_option maxHeartbeats 1000000 in
set_option maxRecDepth 100000 in
theorem opd_true (w : World) (r g o c : Nat) (t : TI) (l : List TI) (nest : Nat) (h : Rd w r g o c (t :: l) nest) (hr : r < w.heap.size) (hl : 0 < l.length) (hk : t.k = 1) (ht : Pol.is (t :: l) 1 [116, 114, 117, 101] = true) :
  Calls Tryd.prog 110 #[.pointer (some ⟨r, 0, none⟩)] w (Done r g nest w (.ok (.mk 1 Pol.none_ 1 [] t.p, l))) := by
 have HT0 := Lib.hid ht
 clear ht
 have hR := Lib.hid h
 obtain ⟨a0, a1, a2, a3⟩ := h.tk 0 t rfl
 have c0 := h.c0
 have hlc := h.lc
 have hm := h.cm
 have hg := h.gl
 have hne := h.ne
 rw [List.length_cons] at c0 hlc
 unfold maxLen at hm
 simp only [Nat.mul_zero, Nat.add_zero] at a0 a1 a2 a3
 clear h
 obtain ⟨tk, ts, tn, tp⟩ := t
 obtain rfl : tk = 1 := hk
 go_enter Tryd.func110, Tryd.ntmps110
 go_wp2_with fail
 refine calls_fresh (fun W => Opd w r g o c (⟨1, ts, tn, tp⟩ :: l) nest ⟨1, ts, tn, tp⟩ w.heap.size z5 #[.int .i64 0, .string ⟨#[]⟩, .int .i64 0, .slice none 0 0, .int .i64 tp] W) ?_ ?_
 ·have hF : Fr [] w (((w.alloc (.cells z5 80)).alloc (.cells #[  .int .i64 (1), .string ts, .int .i64 tn, .int .i64 tp] 25)).alloc (.cells #[.int .i64 0, .string ⟨#[]⟩, .int .i64 0, .slice none 0 0, .int .i64 tp] 80)) := (((Fr.refl _ _).alloc _).alloc _).alloc _
  exact ⟨hR.out.fr hF List.not_mem_nil List.not_mem_nil, (alloc3 _ _ _ _).1, (alloc3 _ _ _ _).2.1, (alloc3 _ _ _ _).2.2, hF.sub, hr, hg, rfl⟩
 intro W h1
 clear a0 a1 a2 a3 c0 hlc hR hm
 obtain ⟨b, hb⟩ : ∃ b, w.heap.size = b := ⟨_, rfl⟩
 rw [hb] at h1 ⊢
 have H := Lib.hid h1
 have HB := Lib.hid hb
 have hrb : r < b := by omega
 have hgb : g < b := by omega
 clear h1 hb
 have HN := Lib.hid (rd_next_is W r g o c ⟨_, ts, tn, tp⟩ l nest 4 ⟨#[40]⟩ false H.out.rd rfl)
 go_wp2_with fail
 refine HN.out.mono ?_
 rintro e w1 ⟨rfl, rfl⟩
 clear HN
 have a1 : ((1 : Int) == 3) = false := rfl
 have a2 : ((1 : Int) == 2) = false := rfl
 have kf : ∀ i, W.frozen? ⟨(b + 1), i, none⟩ = false := fun i => Lib.frozen_of_heap H.out.tok i
 have k0 : W.cell? ⟨(b + 1), 0, none⟩ = some (.int .i64 (1)) := by rw [Lib.cell_of_heap H.out.tok]; rfl
 have k1 : W.cell? ⟨(b + 1), 1, none⟩ = some (.string ts) := by rw [Lib.cell_of_heap H.out.tok]; rfl
 have k2 : W.cell? ⟨(b + 1), 2, none⟩ = some (.int .i64 tn) := by rw [Lib.cell_of_heap H.out.tok]; rfl
 have k3 : W.cell? ⟨(b + 1), 3, none⟩ = some (.int .i64 tp) := by rw [Lib.cell_of_heap H.out.tok]; rfl
 have ef : ∀ i, W.frozen? ⟨(b + 1 + 1), i, none⟩ = false := fun i => Lib.frozen_of_heap H.out.ex i
 have e0 : W.cell? ⟨(b + 1 + 1), 0, none⟩ = some (.int .i64 0) := by rw [Lib.cell_of_heap H.out.ex]; rfl
 have e1 : W.cell? ⟨(b + 1 + 1), 1, none⟩ = some (.string ⟨#[]⟩) := by rw [Lib.cell_of_heap H.out.ex]; rfl
 have e2 : W.cell? ⟨(b + 1 + 1), 2, none⟩ = some (.int .i64 0) := by rw [Lib.cell_of_heap H.out.ex]; rfl
 have e3 : W.cell? ⟨(b + 1 + 1), 3, none⟩ = some (.slice none 0 0) := by rw [Lib.cell_of_heap H.out.ex]; rfl
 have e4 : W.cell? ⟨(b + 1 + 1), 4, none⟩ = some (.int .i64 tp) := by rw [Lib.cell_of_heap H.out.ex]; rfl
 have HN := Lib.hid (rd_next_is W r g o c ⟨_, ts, tn, tp⟩ l nest 1 ⟨#[116, 114, 117, 101]⟩ true H.out.rd HT0.out)
 go_wp2_with fail
 refine HN.out.mono ?_
 rintro e w1 ⟨rfl, rfl⟩
 clear HN
 have c0 := H.out.rd.c0
 have f0 := frozen_of_row _ _ 0 _ _ H.out.rd.row
 have hlc := H.out.rd.lc
 have hm := H.out.rd.cm
 have hne := H.out.rd.ne
 rw [List.length_cons] at c0 hlc
 unfold maxLen at hm
 have zf : ∀ i, W.frozen? ⟨b, i, none⟩ = false := fun i => Lib.frozen_of_heap H.out.res i
 have z0 : W.cell? ⟨b, 0, none⟩ = some (.int .i64 0) := by rw [Lib.cell_of_heap H.out.res]; rfl
 have z1 : W.cell? ⟨b, 1, none⟩ = some (.string ⟨#[]⟩) := by rw [Lib.cell_of_heap H.out.res]; rfl
 have z2 : W.cell? ⟨b, 2, none⟩ = some (.int .i64 0) := by rw [Lib.cell_of_heap H.out.res]; rfl
 have z3 : W.cell? ⟨b, 3, none⟩ = some (.slice none 0 0) := by rw [Lib.cell_of_heap H.out.res]; rfl
 have z4 : W.cell? ⟨b, 4, none⟩ = some (.int .i64 0) := by rw [Lib.cell_of_heap H.out.res]; rfl
 have HT := Lib.hid (((((((H.out.sete 2 (.int .i64 1)).sete 0 (.int .i64 1)).cut.setr 0 (.int .i64 1)).setr 1 (.string ⟨#[]⟩)).setr 2 (.int .i64 1)).setr 3 (.slice none 0 0)).setr 4 (.int .i64 tp))
 go_wp2_with fail
 refine bodyPost_ret (v := .agg #[.int .i64 1, .string ⟨#[]⟩, .int .i64 1, .slice none 0 0, .int .i64 tp]) (results_cell_row rfl _ _ b _ _ (0, 0) _ rfl HT.out.res Tryd.underlying80 rfl (by kernel_rfl)) rfl ?_
 exact ⟨[_, _, _, _, _], rfl, Rep.leaf _ _ _ _ _ _, HT.out.f, _, _, HT.out.rd⟩
set_option maxHeartbeats 1000000 in
set_option maxRecDepth 100000 in
theorem opd_false (w : World) (r g o c : Nat) (t : TI) (l : List TI) (nest : Nat) (h : Rd w r g o c (t :: l) nest) (hr : r < w.heap.size) (hl : 0 < l.length) (hk : t.k = 1) (ht : Pol.is (t :: l) 1 [116, 114, 117, 101] = false) (hf : Pol.is (t :: l) 1 [102, 97, 108, 115, 101] = true) :
  Calls Tryd.prog 110 #[.pointer (some ⟨r, 0, none⟩)] w (Done r g nest w (.ok (.mk 1 Pol.none_ 0 [] t.p, l))) := by
 have HT0 := Lib.hid ht
 have HF0 := Lib.hid hf
 clear ht hf
 have hR := Lib.hid h
 obtain ⟨a0, a1, a2, a3⟩ := h.tk 0 t rfl
 have c0 := h.c0
 have hlc := h.lc
 have hm := h.cm
 have hg := h.gl
 have hne := h.ne
 rw [List.length_cons] at c0 hlc
 unfold maxLen at hm
 simp only [Nat.mul_zero, Nat.add_zero] at a0 a1 a2 a3
 clear h
 obtain ⟨tk, ts, tn, tp⟩ := t
 obtain rfl : tk = 1 := hk
 go_enter Tryd.func110, Tryd.ntmps110
 go_wp2_with fail
 refine calls_fresh (fun W => Opd w r g o c (⟨1, ts, tn, tp⟩ :: l) nest ⟨1, ts, tn, tp⟩ w.heap.size z5 #[.int .i64 0, .string ⟨#[]⟩, .int .i64 0, .slice none 0 0, .int .i64 tp] W) ?_ ?_
 ·have hF : Fr [] w (((w.alloc (.cells z5 80)).alloc (.cells #[  .int .i64 (1), .string ts, .int .i64 tn, .int .i64 tp] 25)).alloc (.cells #[.int .i64 0, .string ⟨#[]⟩, .int .i64 0, .slice none 0 0, .int .i64 tp] 80)) := (((Fr.refl _ _).alloc _).alloc _).alloc _
  exact ⟨hR.out.fr hF List.not_mem_nil List.not_mem_nil, (alloc3 _ _ _ _).1, (alloc3 _ _ _ _).2.1, (alloc3 _ _ _ _).2.2, hF.sub, hr, hg, rfl⟩
 intro W h1
 clear a0 a1 a2 a3 c0 hlc hR hm
 obtain ⟨b, hb⟩ : ∃ b, w.heap.size = b := ⟨_, rfl⟩
 rw [hb] at h1 ⊢
 have H := Lib.hid h1
 have HB := Lib.hid hb
 have hrb : r < b := by omega
 have hgb : g < b := by omega
 clear h1 hb
 have HN := Lib.hid (rd_next_is W r g o c ⟨_, ts, tn, tp⟩ l nest 4 ⟨#[40]⟩ false H.out.rd rfl)
 go_wp2_with fail
 refine HN.out.mono ?_
 rintro e w1 ⟨rfl, rfl⟩
 clear HN
 have a1 : ((1 : Int) == 3) = false := rfl
 have a2 : ((1 : Int) == 2) = false := rfl
 have kf : ∀ i, W.frozen? ⟨(b + 1), i, none⟩ = false := fun i => Lib.frozen_of_heap H.out.tok i
 have k0 : W.cell? ⟨(b + 1), 0, none⟩ = some (.int .i64 (1)) := by rw [Lib.cell_of_heap H.out.tok]; rfl
 have k1 : W.cell? ⟨(b + 1), 1, none⟩ = some (.string ts) := by rw [Lib.cell_of_heap H.out.tok]; rfl
 have k2 : W.cell? ⟨(b + 1), 2, none⟩ = some (.int .i64 tn) := by rw [Lib.cell_of_heap H.out.tok]; rfl
 have k3 : W.cell? ⟨(b + 1), 3, none⟩ = some (.int .i64 tp) := by rw [Lib.cell_of_heap H.out.tok]; rfl
 have ef : ∀ i, W.frozen? ⟨(b + 1 + 1), i, none⟩ = false := fun i => Lib.frozen_of_heap H.out.ex i
 have e0 : W.cell? ⟨(b + 1 + 1), 0, none⟩ = some (.int .i64 0) := by rw [Lib.cell_of_heap H.out.ex]; rfl
 have e1 : W.cell? ⟨(b + 1 + 1), 1, none⟩ = some (.string ⟨#[]⟩) := by rw [Lib.cell_of_heap H.out.ex]; rfl
 have e2 : W.cell? ⟨(b + 1 + 1), 2, none⟩ = some (.int .i64 0) := by rw [Lib.cell_of_heap H.out.ex]; rfl
 have e3 : W.cell? ⟨(b + 1 + 1), 3, none⟩ = some (.slice none 0 0) := by rw [Lib.cell_of_heap H.out.ex]; rfl
 have e4 : W.cell? ⟨(b + 1 + 1), 4, none⟩ = some (.int .i64 tp) := by rw [Lib.cell_of_heap H.out.ex]; rfl
 have HN := Lib.hid (rd_next_is W r g o c ⟨_, ts, tn, tp⟩ l nest 1 ⟨#[116, 114, 117, 101]⟩ false H.out.rd HT0.out)
 go_wp2_with fail
 refine HN.out.mono ?_
 rintro e w1 ⟨rfl, rfl⟩
 clear HN
 have HN := Lib.hid (rd_next_is W r g o c ⟨_, ts, tn, tp⟩ l nest 1 ⟨#[102, 97, 108, 115, 101]⟩ true H.out.rd HF0.out)
 go_wp2_with fail
 refine HN.out.mono ?_
 rintro e w1 ⟨rfl, rfl⟩
 clear HN
 have c0 := H.out.rd.c0
 have f0 := frozen_of_row _ _ 0 _ _ H.out.rd.row
 have hlc := H.out.rd.lc
 have hm := H.out.rd.cm
 have hne := H.out.rd.ne
 rw [List.length_cons] at c0 hlc
 unfold maxLen at hm
 have zf : ∀ i, W.frozen? ⟨b, i, none⟩ = false := fun i => Lib.frozen_of_heap H.out.res i
 have z0 : W.cell? ⟨b, 0, none⟩ = some (.int .i64 0) := by rw [Lib.cell_of_heap H.out.res]; rfl
 have z1 : W.cell? ⟨b, 1, none⟩ = some (.string ⟨#[]⟩) := by rw [Lib.cell_of_heap H.out.res]; rfl
 have z2 : W.cell? ⟨b, 2, none⟩ = some (.int .i64 0) := by rw [Lib.cell_of_heap H.out.res]; rfl
 have z3 : W.cell? ⟨b, 3, none⟩ = some (.slice none 0 0) := by rw [Lib.cell_of_heap H.out.res]; rfl
 have z4 : W.cell? ⟨b, 4, none⟩ = some (.int .i64 0) := by rw [Lib.cell_of_heap H.out.res]; rfl
 have HT := Lib.hid ((((((H.out.sete 0 (.int .i64 1)).cut.setr 0 (.int .i64 1)).setr 1 (.string ⟨#[]⟩)).setr 2 (.int .i64 0)).setr 3 (.slice none 0 0)).setr 4 (.int .i64 tp))
 go_wp2_with fail
 refine bodyPost_ret (v := .agg #[.int .i64 1, .string ⟨#[]⟩, .int .i64 0, .slice none 0 0, .int .i64 tp]) (results_cell_row rfl _ _ b _ _ (0, 0) _ rfl HT.out.res Tryd.underlying80 rfl (by kernel_rfl)) rfl ?_
 exact ⟨[_, _, _, _, _], rfl, Rep.leaf _ _ _ _ _ _, HT.out.f, _, _, HT.out.rd⟩
set_option maxHeartbeats 1000000 in
set_option maxRecDepth 100000 in
theorem opd_var (w : World) (r g o c : Nat) (t : TI) (l : List TI) (nest : Nat) (h : Rd w r g o c (t :: l) nest) (hr : r < w.heap.size) (hl : 0 < l.length) (hk : t.k = 1) (ht : Pol.is (t :: l) 1 [116, 114, 117, 101] = false) (hf : Pol.is (t :: l) 1 [102, 97, 108, 115, 101] = false) (hc : Pol.is (t :: l) 1 [99, 108, 97, 105, 109] = false) (hw : Pol.kept t.s = false) :
  Calls Tryd.prog 110 #[.pointer (some ⟨r, 0, none⟩)] w (Done r g nest w (.ok (.mk 4 t.s 0 [] t.p, l))) := by
 have HT0 := Lib.hid ht
 have HF0 := Lib.hid hf
 have HC0 := Lib.hid hc
 have HKP := Lib.hid (fun w => pol_kept w t.s)
 rw [hw] at HKP
 clear ht hf hc hw
 have hR := Lib.hid h
 obtain ⟨a0, a1, a2, a3⟩ := h.tk 0 t rfl
 have c0 := h.c0
 have hlc := h.lc
 have hm := h.cm
 have hg := h.gl
 have hne := h.ne
 rw [List.length_cons] at c0 hlc
 unfold maxLen at hm
 simp only [Nat.mul_zero, Nat.add_zero] at a0 a1 a2 a3
 clear h
 obtain ⟨tk, ts, tn, tp⟩ := t
 obtain rfl : tk = 1 := hk
 go_enter Tryd.func110, Tryd.ntmps110
 go_wp2_with fail
 refine calls_fresh (fun W => Opd w r g o c (⟨1, ts, tn, tp⟩ :: l) nest ⟨1, ts, tn, tp⟩ w.heap.size z5 #[.int .i64 0, .string ⟨#[]⟩, .int .i64 0, .slice none 0 0, .int .i64 tp] W) ?_ ?_
 ·have hF : Fr [] w (((w.alloc (.cells z5 80)).alloc (.cells #[  .int .i64 (1), .string ts, .int .i64 tn, .int .i64 tp] 25)).alloc (.cells #[.int .i64 0, .string ⟨#[]⟩, .int .i64 0, .slice none 0 0, .int .i64 tp] 80)) := (((Fr.refl _ _).alloc _).alloc _).alloc _
  exact ⟨hR.out.fr hF List.not_mem_nil List.not_mem_nil, (alloc3 _ _ _ _).1, (alloc3 _ _ _ _).2.1, (alloc3 _ _ _ _).2.2, hF.sub, hr, hg, rfl⟩
 intro W h1
 clear a0 a1 a2 a3 c0 hlc hR hm
 obtain ⟨b, hb⟩ : ∃ b, w.heap.size = b := ⟨_, rfl⟩
 rw [hb] at h1 ⊢
 have H := Lib.hid h1
 have HB := Lib.hid hb
 have hrb : r < b := by omega
 have hgb : g < b := by omega
 clear h1 hb
 have HN := Lib.hid (rd_next_is W r g o c ⟨_, ts, tn, tp⟩ l nest 4 ⟨#[40]⟩ false H.out.rd rfl)
 go_wp2_with fail
 refine HN.out.mono ?_
 rintro e w1 ⟨rfl, rfl⟩
 clear HN
 have a1 : ((1 : Int) == 3) = false := rfl
 have a2 : ((1 : Int) == 2) = false := rfl
 have kf : ∀ i, W.frozen? ⟨(b + 1), i, none⟩ = false := fun i => Lib.frozen_of_heap H.out.tok i
 have k0 : W.cell? ⟨(b + 1), 0, none⟩ = some (.int .i64 (1)) := by rw [Lib.cell_of_heap H.out.tok]; rfl
 have k1 : W.cell? ⟨(b + 1), 1, none⟩ = some (.string ts) := by rw [Lib.cell_of_heap H.out.tok]; rfl
 have k2 : W.cell? ⟨(b + 1), 2, none⟩ = some (.int .i64 tn) := by rw [Lib.cell_of_heap H.out.tok]; rfl
 have k3 : W.cell? ⟨(b + 1), 3, none⟩ = some (.int .i64 tp) := by rw [Lib.cell_of_heap H.out.tok]; rfl
 have ef : ∀ i, W.frozen? ⟨(b + 1 + 1), i, none⟩ = false := fun i => Lib.frozen_of_heap H.out.ex i
 have e0 : W.cell? ⟨(b + 1 + 1), 0, none⟩ = some (.int .i64 0) := by rw [Lib.cell_of_heap H.out.ex]; rfl
 have e1 : W.cell? ⟨(b + 1 + 1), 1, none⟩ = some (.string ⟨#[]⟩) := by rw [Lib.cell_of_heap H.out.ex]; rfl
 have e2 : W.cell? ⟨(b + 1 + 1), 2, none⟩ = some (.int .i64 0) := by rw [Lib.cell_of_heap H.out.ex]; rfl
 have e3 : W.cell? ⟨(b + 1 + 1), 3, none⟩ = some (.slice none 0 0) := by rw [Lib.cell_of_heap H.out.ex]; rfl
 have e4 : W.cell? ⟨(b + 1 + 1), 4, none⟩ = some (.int .i64 tp) := by rw [Lib.cell_of_heap H.out.ex]; rfl
 have HN := Lib.hid (rd_next_is W r g o c ⟨_, ts, tn, tp⟩ l nest 1 ⟨#[116, 114, 117, 101]⟩ false H.out.rd HT0.out)
 go_wp2_with fail
 refine HN.out.mono ?_
 rintro e w1 ⟨rfl, rfl⟩
 clear HN
 have HN := Lib.hid (rd_next_is W r g o c ⟨_, ts, tn, tp⟩ l nest 1 ⟨#[102, 97, 108, 115, 101]⟩ false H.out.rd HF0.out)
 go_wp2_with fail
 refine HN.out.mono ?_
 rintro e w1 ⟨rfl, rfl⟩
 clear HN
 have HN := Lib.hid (rd_took_no W r g o c ⟨_, ts, tn, tp⟩ l nest 1 ⟨#[99, 108, 97, 105, 109]⟩ H.out.rd HC0.out)
 go_wp2_with fail
 refine HN.out.mono ?_
 rintro e w1 ⟨rfl, rfl⟩
 clear HN
 have a3 : ((1 : Int) == 1) = true := rfl
 go_wp2_with fail
 refine (HKP.out _).mono ?_
 rintro e w1 ⟨rfl, rfl⟩
 go_wp2_with fail
 go_region
 all_goals
  refine then_fresh (fun V => Opd w r g o c (⟨1, ts, tn, tp⟩ :: l) nest ⟨1, ts, tn, tp⟩ b z5 #[.int .i64 4, .string ts, .int .i64 0, .slice none 0 0, .int .i64 tp] V) ?_ ?_
  ·first
    | exact ((H.out.sete 0 (.int .i64 4)).sete 1 (.string ts)).fr (Fr.refl [] _).drew
    | exact ((H.out.sete 1 (.string ts)).sete 0 (.int .i64 4)).fr (Fr.refl [] _).drew
  intro V h1
  have H := Lib.hid h1
  clear h1 k0 k1 k2 k3 e0 e1 e2 e3 e4 kf ef
  have c0 := H.out.rd.c0
  have f0 := frozen_of_row _ _ 0 _ _ H.out.rd.row
  have hlc := H.out.rd.lc
  have hm := H.out.rd.cm
  have hne := H.out.rd.ne
  rw [List.length_cons] at c0 hlc
  unfold maxLen at hm
  have zf : ∀ i, V.frozen? ⟨b, i, none⟩ = false := fun i => Lib.frozen_of_heap H.out.res i
  have z0 : V.cell? ⟨b, 0, none⟩ = some (.int .i64 0) := by rw [Lib.cell_of_heap H.out.res]; rfl
  have z1 : V.cell? ⟨b, 1, none⟩ = some (.string ⟨#[]⟩) := by rw [Lib.cell_of_heap H.out.res]; rfl
  have z2 : V.cell? ⟨b, 2, none⟩ = some (.int .i64 0) := by rw [Lib.cell_of_heap H.out.res]; rfl
  have z3 : V.cell? ⟨b, 3, none⟩ = some (.slice none 0 0) := by rw [Lib.cell_of_heap H.out.res]; rfl
  have z4 : V.cell? ⟨b, 4, none⟩ = some (.int .i64 0) := by rw [Lib.cell_of_heap H.out.res]; rfl
  have ef : ∀ i, V.frozen? ⟨(b + 1 + 1), i, none⟩ = false := fun i => Lib.frozen_of_heap H.out.ex i
  have e0 : V.cell? ⟨(b + 1 + 1), 0, none⟩ = some (.int .i64 4) := by rw [Lib.cell_of_heap H.out.ex]; rfl
  have e1 : V.cell? ⟨(b + 1 + 1), 1, none⟩ = some (.string ts) := by rw [Lib.cell_of_heap H.out.ex]; rfl
  have e2 : V.cell? ⟨(b + 1 + 1), 2, none⟩ = some (.int .i64 0) := by rw [Lib.cell_of_heap H.out.ex]; rfl
  have e3 : V.cell? ⟨(b + 1 + 1), 3, none⟩ = some (.slice none 0 0) := by rw [Lib.cell_of_heap H.out.ex]; rfl
  have e4 : V.cell? ⟨(b + 1 + 1), 4, none⟩ = some (.int .i64 tp) := by rw [Lib.cell_of_heap H.out.ex]; rfl
  have HT := Lib.hid ((((((H.out.cut).setr 0 (.int .i64 4)).setr 1 (.string ts)).setr 2 (.int .i64 0)).setr 3 (.slice none 0 0)).setr 4 (.int .i64 tp))
  go_wp2_with fail
  refine bodyPost_ret (v := .agg #[.int .i64 4, .string ts, .int .i64 0, .slice none 0 0, .int .i64 tp]) (results_cell_row rfl _ _ b _ _ (0, 0) _ rfl HT.out.res Tryd.underlying80 rfl (by kernel_rfl)) rfl ?_
  exact ⟨[_, _, _, _, _], rfl, Rep.leaf _ _ _ _ _ _, HT.out.f, _, _, HT.out.rd⟩
set_option maxHeartbeats 1000000 in
set_option maxRecDepth 100000 in
theorem opd_kept (w : World) (r g o c : Nat) (t : TI) (l : List TI) (nest : Nat) (h : Rd w r g o c (t :: l) nest) (hr : r < w.heap.size) (hl : 0 < l.length) (hk : t.k = 1) (ht : Pol.is (t :: l) 1 [116, 114, 117, 101] = false) (hf : Pol.is (t :: l) 1 [102, 97, 108, 115, 101] = false) (hc : Pol.is (t :: l) 1 [99, 108, 97, 105, 109] = false) (hw : Pol.kept t.s = true) :
  Calls Tryd.prog 110 #[.pointer (some ⟨r, 0, none⟩)] w (Done r g nest w (.error (t.p, 120))) := by
 have HT0 := Lib.hid ht
 have HF0 := Lib.hid hf
 have HC0 := Lib.hid hc
 have HKP := Lib.hid (fun w => pol_kept w t.s)
 rw [hw] at HKP
 clear ht hf hc hw
 have hR := Lib.hid h
 obtain ⟨a0, a1, a2, a3⟩ := h.tk 0 t rfl
 have c0 := h.c0
 have hlc := h.lc
 have hm := h.cm
 have hg := h.gl
 have hne := h.ne
 rw [List.length_cons] at c0 hlc
 unfold maxLen at hm
 simp only [Nat.mul_zero, Nat.add_zero] at a0 a1 a2 a3
 clear h
 obtain ⟨tk, ts, tn, tp⟩ := t
 obtain rfl : tk = 1 := hk
 go_enter Tryd.func110, Tryd.ntmps110
 go_wp2_with fail
 refine calls_fresh (fun W => Opd w r g o c (⟨1, ts, tn, tp⟩ :: l) nest ⟨1, ts, tn, tp⟩ w.heap.size z5 #[.int .i64 0, .string ⟨#[]⟩, .int .i64 0, .slice none 0 0, .int .i64 tp] W) ?_ ?_
 ·have hF : Fr [] w (((w.alloc (.cells z5 80)).alloc (.cells #[  .int .i64 (1), .string ts, .int .i64 tn, .int .i64 tp] 25)).alloc (.cells #[.int .i64 0, .string ⟨#[]⟩, .int .i64 0, .slice none 0 0, .int .i64 tp] 80)) := (((Fr.refl _ _).alloc _).alloc _).alloc _
  exact ⟨hR.out.fr hF List.not_mem_nil List.not_mem_nil, (alloc3 _ _ _ _).1, (alloc3 _ _ _ _).2.1, (alloc3 _ _ _ _).2.2, hF.sub, hr, hg, rfl⟩
 intro W h1
 clear a0 a1 a2 a3 c0 hlc hR hm
 obtain ⟨b, hb⟩ : ∃ b, w.heap.size = b := ⟨_, rfl⟩
 rw [hb] at h1 ⊢
 have H := Lib.hid h1
 have HB := Lib.hid hb
 have hrb : r < b := by omega
 have hgb : g < b := by omega
 clear h1 hb
 have HN := Lib.hid (rd_next_is W r g o c ⟨_, ts, tn, tp⟩ l nest 4 ⟨#[40]⟩ false H.out.rd rfl)
 go_wp2_with fail
 refine HN.out.mono ?_
 rintro e w1 ⟨rfl, rfl⟩
 clear HN
 have a1 : ((1 : Int) == 3) = false := rfl
 have a2 : ((1 : Int) == 2) = false := rfl
 have kf : ∀ i, W.frozen? ⟨(b + 1), i, none⟩ = false := fun i => Lib.frozen_of_heap H.out.tok i
 have k0 : W.cell? ⟨(b + 1), 0, none⟩ = some (.int .i64 (1)) := by rw [Lib.cell_of_heap H.out.tok]; rfl
 have k1 : W.cell? ⟨(b + 1), 1, none⟩ = some (.string ts) := by rw [Lib.cell_of_heap H.out.tok]; rfl
 have k2 : W.cell? ⟨(b + 1), 2, none⟩ = some (.int .i64 tn) := by rw [Lib.cell_of_heap H.out.tok]; rfl
 have k3 : W.cell? ⟨(b + 1), 3, none⟩ = some (.int .i64 tp) := by rw [Lib.cell_of_heap H.out.tok]; rfl
 have ef : ∀ i, W.frozen? ⟨(b + 1 + 1), i, none⟩ = false := fun i => Lib.frozen_of_heap H.out.ex i
 have e0 : W.cell? ⟨(b + 1 + 1), 0, none⟩ = some (.int .i64 0) := by rw [Lib.cell_of_heap H.out.ex]; rfl
 have e1 : W.cell? ⟨(b + 1 + 1), 1, none⟩ = some (.string ⟨#[]⟩) := by rw [Lib.cell_of_heap H.out.ex]; rfl
 have e2 : W.cell? ⟨(b + 1 + 1), 2, none⟩ = some (.int .i64 0) := by rw [Lib.cell_of_heap H.out.ex]; rfl
 have e3 : W.cell? ⟨(b + 1 + 1), 3, none⟩ = some (.slice none 0 0) := by rw [Lib.cell_of_heap H.out.ex]; rfl
 have e4 : W.cell? ⟨(b + 1 + 1), 4, none⟩ = some (.int .i64 tp) := by rw [Lib.cell_of_heap H.out.ex]; rfl
 have HN := Lib.hid (rd_next_is W r g o c ⟨_, ts, tn, tp⟩ l nest 1 ⟨#[116, 114, 117, 101]⟩ false H.out.rd HT0.out)
 go_wp2_with fail
 refine HN.out.mono ?_
 rintro e w1 ⟨rfl, rfl⟩
 clear HN
 have HN := Lib.hid (rd_next_is W r g o c ⟨_, ts, tn, tp⟩ l nest 1 ⟨#[102, 97, 108, 115, 101]⟩ false H.out.rd HF0.out)
 go_wp2_with fail
 refine HN.out.mono ?_
 rintro e w1 ⟨rfl, rfl⟩
 clear HN
 have HN := Lib.hid (rd_took_no W r g o c ⟨_, ts, tn, tp⟩ l nest 1 ⟨#[99, 108, 97, 105, 109]⟩ H.out.rd HC0.out)
 go_wp2_with fail
 refine HN.out.mono ?_
 rintro e w1 ⟨rfl, rfl⟩
 clear HN
 have a3 : ((1 : Int) == 1) = true := rfl
 go_wp2_with fail
 refine (HKP.out _).mono ?_
 rintro e w1 ⟨rfl, rfl⟩
 have HFL := Lib.hid (rd_fail W r g o c ⟨_, ts, tn, tp⟩ l nest 120 H.out.rd)
 go_wp2_with fail
 refine HFL.out.mono ?_
 intro e w1 hs
 obtain ⟨b9, hb9, rfl, hrow9, hf9⟩ := hs.from (bs := [r]) H.out.f (fun y hy => by cases hy)
 show _
 exact ⟨rfl, Done.stop ⟨b9, hb9, rfl, hrow9, hf9⟩⟩
set_option maxHeartbeats 1000000 in
set_option maxRecDepth 100000 in
theorem opd_else (w : World) (r g o c : Nat) (t : TI) (l : List TI) (nest : Nat) (h : Rd w r g o c (t :: l) nest) (hr : r < w.heap.size) (hp : Pol.is (t :: l) 4 [40] = false) (hk1 : t.k ≠ 1) (hk2 : t.k ≠ 2) (hk3 : t.k ≠ 3) :
  Calls Tryd.prog 110 #[.pointer (some ⟨r, 0, none⟩)] w (Done r g nest w (.error (t.p, 120))) := by
 have HP0 := Lib.hid hp
 have a1 : (t.k == 1) = false := beq_eq_false_iff_ne.2 hk1
 have a2 : (t.k == 2) = false := beq_eq_false_iff_ne.2 hk2
 have a3 : (t.k == 3) = false := beq_eq_false_iff_ne.2 hk3
 clear hp hk1 hk2 hk3
 have hR := Lib.hid h
 obtain ⟨a0, a1, a2, a3⟩ := h.tk 0 t rfl
 have c0 := h.c0
 have hlc := h.lc
 have hm := h.cm
 have hg := h.gl
 have hne := h.ne
 rw [List.length_cons] at c0 hlc
 unfold maxLen at hm
 simp only [Nat.mul_zero, Nat.add_zero] at a0 a1 a2 a3
 clear h
 obtain ⟨tk, ts, tn, tp⟩ := t
 dsimp only at a1 a2 a3
 go_enter Tryd.func110, Tryd.ntmps110
 go_wp2_with fail
 refine calls_fresh (fun W => Opd w r g o c (⟨tk, ts, tn, tp⟩ :: l) nest ⟨tk, ts, tn, tp⟩ w.heap.size z5 #[.int .i64 0, .string ⟨#[]⟩, .int .i64 0, .slice none 0 0, .int .i64 tp] W) ?_ ?_
 ·have hF : Fr [] w (((w.alloc (.cells z5 80)).alloc (.cells #[  .int .i64 (tk), .string ts, .int .i64 tn, .int .i64 tp] 25)).alloc (.cells #[.int .i64 0, .string ⟨#[]⟩, .int .i64 0, .slice none 0 0, .int .i64 tp] 80)) := (((Fr.refl _ _).alloc _).alloc _).alloc _
  exact ⟨hR.out.fr hF List.not_mem_nil List.not_mem_nil, (alloc3 _ _ _ _).1, (alloc3 _ _ _ _).2.1, (alloc3 _ _ _ _).2.2, hF.sub, hr, hg, rfl⟩
 intro W h1
 clear a0 a1 a2 a3 c0 hlc hR hm
 obtain ⟨b, hb⟩ : ∃ b, w.heap.size = b := ⟨_, rfl⟩
 rw [hb] at h1 ⊢
 have H := Lib.hid h1
 have HB := Lib.hid hb
 have hrb : r < b := by omega
 have hgb : g < b := by omega
 clear h1 hb
 have HN := Lib.hid (rd_next_is W r g o c ⟨_, ts, tn, tp⟩ l nest 4 ⟨#[40]⟩ false H.out.rd HP0.out)
 go_wp2_with fail
 refine HN.out.mono ?_
 rintro e w1 ⟨rfl, rfl⟩
 clear HN
 have kf : ∀ i, W.frozen? ⟨(b + 1), i, none⟩ = false := fun i => Lib.frozen_of_heap H.out.tok i
 have k0 : W.cell? ⟨(b + 1), 0, none⟩ = some (.int .i64 (tk)) := by rw [Lib.cell_of_heap H.out.tok]; rfl
 have k1 : W.cell? ⟨(b + 1), 1, none⟩ = some (.string ts) := by rw [Lib.cell_of_heap H.out.tok]; rfl
 have k2 : W.cell? ⟨(b + 1), 2, none⟩ = some (.int .i64 tn) := by rw [Lib.cell_of_heap H.out.tok]; rfl
 have k3 : W.cell? ⟨(b + 1), 3, none⟩ = some (.int .i64 tp) := by rw [Lib.cell_of_heap H.out.tok]; rfl
 have HN := Lib.hid (rd_next_is W r g o c ⟨_, ts, tn, tp⟩ l nest 1 ⟨#[116, 114, 117, 101]⟩ false H.out.rd (is_kind a1))
 go_wp2_with fail
 refine HN.out.mono ?_
 rintro e w1 ⟨rfl, rfl⟩
 clear HN
 have HN := Lib.hid (rd_next_is W r g o c ⟨_, ts, tn, tp⟩ l nest 1 ⟨#[102, 97, 108, 115, 101]⟩ false H.out.rd (is_kind a1))
 go_wp2_with fail
 refine HN.out.mono ?_
 rintro e w1 ⟨rfl, rfl⟩
 clear HN
 have HN := Lib.hid (rd_took_no W r g o c ⟨_, ts, tn, tp⟩ l nest 1 ⟨#[99, 108, 97, 105, 109]⟩ H.out.rd (is_kind a1))
 go_wp2_with fail
 refine HN.out.mono ?_
 rintro e w1 ⟨rfl, rfl⟩
 clear HN
 have HFL := Lib.hid (rd_fail W r g o c ⟨_, ts, tn, tp⟩ l nest 120 H.out.rd)
 go_wp2_with fail
 refine HFL.out.mono ?_
 intro e w1 hs
 obtain ⟨b9, hb9, rfl, hrow9, hf9⟩ := hs.from (bs := [r]) H.out.f (fun y hy => by cases hy)
 show _
 exact ⟨rfl, Done.stop ⟨b9, hb9, rfl, hrow9, hf9⟩⟩
end Go.Proofs.YtgklmpooonnmiaaDoor

namespace Go.Proofs.YtgklmpooonnmiaaDoor
open Go.RowKit
theorem tok_text (a0 a2 a3 : Value) (s : ByteArray) (w : World) : (Instr.field 25 (.agg #[a0, .string s, a2, a3]) 1).run Tryd.prog w = .ok (.string s) w := by kernel_rfl
theorem tok_pos (a0 a1 a2 : Value) (n : Int) (w : World) : (Instr.field 25 (.agg #[a0, a1, a2, .int .i64 n]) 3).run Tryd.prog w = .ok (.int .i64 n) w := by kernel_rfl
theorem rd_take_yes (w : World) (r g o c : Nat) (t : TI) (l : List TI) (nest : Nat) (k : Int) (h : Rd w r g o c (t :: l) nest) (hl : 0 < l.length) (hr : r < w.heap.size) (hk : t.k = k) :
  Calls Tryd.prog 81 #[.pointer (some ⟨r, 0, none⟩), .int .i64 k] w fun e w' => e = .returned (.agg #[.int .i64 t.k, .string t.s, .int .i64 t.n, .int .i64 t.p]) ∧ Fr [r] w w' ∧ Rd w' r g (o + 4) (c - 1) l nest := by
 have := rd_take w r g o c t l nest k h (fun _ => hl) hr
 simp only [if_pos hk] at this
 exact this
theorem rd_take_no (w : World) (r g o c : Nat) (t : TI) (l : List TI) (nest : Nat) (k : Int) (h : Rd w r g o c (t :: l) nest) (hr : r < w.heap.size) (hk : ¬ t.k = k) :
  Calls Tryd.prog 81 #[.pointer (some ⟨r, 0, none⟩), .int .i64 k] w fun e w' => Stops [r] w t.p 120 e w' := by
 have := rd_take w r g o c t l nest k h (fun hc => absurd hc hk) hr
 simp only [if_neg hk] at this
 exact this
theorem Ends.cons {l : List TI} (h : Ends l) : ∃ t m, l = t :: m := by
 cases l with
 | nil => exact absurd rfl h.ne
 | cons t m => exact ⟨t, m, rfl⟩
theorem Ends.pos {l : List TI} (h : Ends l) : 0 < l.length := List.length_pos_iff.2 h.ne
theorem must_pos {t : TI} {l : List TI} {s : List UInt8} (h : Pol.is (t :: l) 4 s = true) : Pol.must (t :: l) s = .ok ((), l) := by simp [Pol.must, h]
theorem must_neg {t : TI} {l : List TI} {s : List UInt8} (h : Pol.is (t :: l) 4 s = false) : Pol.must (t :: l) s = .error (t.p, 120) := by simp [Pol.must, h, Pol.place]
theorem take_pos {t : TI} {l : List TI} {k : Int} (h : t.k = k) : Pol.take (t :: l) k = .ok (t, l) := by simp [Pol.take, h]
theorem take_neg {t : TI} {l : List TI} {k : Int} (h : ¬ t.k = k) : Pol.take (t :: l) k = .error (t.p, 120) := by simp [Pol.take, h]
def Pol.claimed (p : Int) (l : List TI) : Pol.PR Ex :=
 match Pol.must l [40] with
 | .error e => .error e
 | .ok (_, m) => match Pol.take m 2 with
   | .error e => .error e
   | .ok (u, m) => match Pol.must m [41] with
     | .error e => .error e
     | .ok (_, m) => .ok (.mk 5 u.s 0 [] p, m)
set_option maxHeartbeats 2000000 in
set_option maxRecDepth 100000 in
theorem opd_claim (w : World) (r g o c : Nat) (t : TI) (l : List TI) (nest : Nat) (h : Rd w r g o c (t :: l) nest) (hr : r < w.heap.size) (hE : Ends l) (hk : t.k = 1) (ht : Pol.is (t :: l) 1 [116, 114, 117, 101] = false) (hf : Pol.is (t :: l) 1 [102, 97, 108, 115, 101] = false) (hc : Pol.is (t :: l) 1 [99, 108, 97, 105, 109] = true) :
  Calls Tryd.prog 110 #[.pointer (some ⟨r, 0, none⟩)] w (Done r g nest w (Pol.claimed t.p l)) := by
 have HT0 := Lib.hid ht
 have HF0 := Lib.hid hf
 have HC0 := Lib.hid hc
 have HE := Lib.hid hE
 have hl := hE.pos
 clear ht hf hc hE
 have hR := Lib.hid h
 obtain ⟨a0, a1, a2, a3⟩ := h.tk 0 t rfl
 have c0 := h.c0
 have hlc := h.lc
 have hm := h.cm
 have hg := h.gl
 have hne := h.ne
 rw [List.length_cons] at c0 hlc
 unfold maxLen at hm
 simp only [Nat.mul_zero, Nat.add_zero] at a0 a1 a2 a3
 clear h
 obtain ⟨tk, ts, tn, tp⟩ := t
 obtain rfl : tk = 1 := hk
 go_enter Tryd.func110, Tryd.ntmps110
 go_wp2_with fail
 refine calls_fresh (fun W => Opd w r g o c (⟨1, ts, tn, tp⟩ :: l) nest ⟨1, ts, tn, tp⟩ w.heap.size z5 #[.int .i64 0, .string ⟨#[]⟩, .int .i64 0, .slice none 0 0, .int .i64 tp] W) ?_ ?_
 ·have hF : Fr [] w (((w.alloc (.cells z5 80)).alloc (.cells #[.int .i64 (1), .string ts, .int .i64 tn, .int .i64 tp] 25)).alloc (.cells #[.int .i64 0, .string ⟨#[]⟩, .int .i64 0, .slice none 0 0, .int .i64 tp] 80)) := (((Fr.refl _ _).alloc _).alloc _).alloc _
  exact ⟨hR.out.fr hF List.not_mem_nil List.not_mem_nil, (alloc3 _ _ _ _).1, (alloc3 _ _ _ _).2.1, (alloc3 _ _ _ _).2.2, hF.sub, hr, hg, rfl⟩
 intro W h1
 clear a0 a1 a2 a3 c0 hlc hR hm
 obtain ⟨b, hb⟩ : ∃ b, w.heap.size = b := ⟨_, rfl⟩
 rw [hb] at h1 ⊢
 have H := Lib.hid h1
 have HB := Lib.hid hb
 have hrb : r < b := by omega
 have hgb : g < b := by omega
 clear h1 hb
 have HN := Lib.hid (rd_next_is W r g o c ⟨_, ts, tn, tp⟩ l nest 4 ⟨#[40]⟩ false H.out.rd rfl)
 go_wp2_with fail
 refine HN.out.mono ?_
 rintro e w1 ⟨rfl, rfl⟩
 clear HN
 have a1 : ((1 : Int) == 3) = false := rfl
 have a2 : ((1 : Int) == 2) = false := rfl
 have kf : ∀ i, W.frozen? ⟨(b + 1), i, none⟩ = false := fun i => Lib.frozen_of_heap H.out.tok i
 have k0 : W.cell? ⟨(b + 1), 0, none⟩ = some (.int .i64 (1)) := by rw [Lib.cell_of_heap H.out.tok]; rfl
 have k1 : W.cell? ⟨(b + 1), 1, none⟩ = some (.string ts) := by rw [Lib.cell_of_heap H.out.tok]; rfl
 have k2 : W.cell? ⟨(b + 1), 2, none⟩ = some (.int .i64 tn) := by rw [Lib.cell_of_heap H.out.tok]; rfl
 have k3 : W.cell? ⟨(b + 1), 3, none⟩ = some (.int .i64 tp) := by rw [Lib.cell_of_heap H.out.tok]; rfl
 have HN := Lib.hid (rd_next_is W r g o c ⟨_, ts, tn, tp⟩ l nest 1 ⟨#[116, 114, 117, 101]⟩ false H.out.rd HT0.out)
 go_wp2_with fail
 refine HN.out.mono ?_
 rintro e w1 ⟨rfl, rfl⟩
 clear HN
 have HN := Lib.hid (rd_next_is W r g o c ⟨_, ts, tn, tp⟩ l nest 1 ⟨#[102, 97, 108, 115, 101]⟩ false H.out.rd HF0.out)
 go_wp2_with fail
 refine HN.out.mono ?_
 rintro e w1 ⟨rfl, rfl⟩
 clear HN
 have HN := Lib.hid (rd_took_yes W r g o c ⟨_, ts, tn, tp⟩ l nest 1 ⟨#[99, 108, 97, 105, 109]⟩ H.out.rd hl HC0.out)
 go_wp2_with fail
 refine HN.out.mono ?_
 rintro e W1 ⟨rfl, hf1, hr1⟩
 have H := Lib.hid (H.out.step hf1 hr1)
 clear HN hf1 hr1 HC0 HT0 HF0 k0 k1 k2 k3 kf hl
 obtain ⟨t1, l1, rfl⟩ := HE.out.cons
 cases hp : Pol.is (t1 :: l1) 4 [40] with
 | false =>
  have HP : Hid (Pol.claimed tp (t1 :: l1) = .error (t1.p, 120)) := by show _ = _; unfold Pol.claimed; rw [must_neg hp]
  have HP0 := Lib.hid hp
  clear hp
  have HN := Lib.hid (rd_must_no W1 r g _ _ t1 l1 nest ⟨#[40]⟩ H.out.rd HP0.out)
  go_wp2_with fail
  refine HN.out.mono ?_
  intro e w1 hs
  obtain ⟨b9, hb9, rfl, hrow9, hf9⟩ := hs.from (bs := [r]) H.out.f (fun y hy => .inl (by simpa using hy))
  show _
  exact ⟨rfl, by first | exact Done.stop ⟨b9, hb9, rfl, hrow9, hf9⟩ | (rw [HP.out]; exact Done.stop ⟨b9, hb9, rfl, hrow9, hf9⟩)⟩
 | true =>
  have hE1 : Ends l1 := Pol.is_tail hp (by decide) HE.out
  have hl1 := hE1.pos
  have HP0 := Lib.hid hp
  have HE1 := Lib.hid hE1
  clear hp hE1
  have HN := Lib.hid (rd_must_yes W1 r g _ _ t1 l1 nest ⟨#[40]⟩ H.out.rd hl1 HP0.out)
  go_wp2_with fail
  refine HN.out.mono ?_
  rintro e W2 ⟨rfl, hf1, hr1⟩
  have H := Lib.hid (H.out.step hf1 hr1)
  clear HN hf1 hr1
  clear hl1
  obtain ⟨t2, l2, rfl⟩ := HE1.out.cons
  by_cases hk2 : t2.k = 2
  ·have hE2 : Ends l2 := HE1.out.tail (by rw [hk2]; decide)
   have HE2 := Lib.hid hE2
   have HK2 := Lib.hid hk2
   obtain ⟨t3, l3, rfl⟩ := hE2.cons
   clear hE2 hk2
   have hr2 : r < W2.heap.size := Nat.lt_of_lt_of_le hr H.out.f.size
   have hu := tok_text
   have HN := Lib.hid (rd_take_yes W2 r g _ _ t2 (t3 :: l3) nest 2 H.out.rd (by simp) hr2 HK2.out)
   go_wp2_with fail
   refine HN.out.mono ?_
   rintro e W3 ⟨rfl, hf1, hr1⟩
   have H := Lib.hid (H.out.step hf1 hr1)
   clear HN hf1 hr1 hr2
   have ef : ∀ i, W3.frozen? ⟨(b + 1 + 1), i, none⟩ = false := fun i => Lib.frozen_of_heap H.out.ex i
   have e0 : W3.cell? ⟨(b + 1 + 1), 0, none⟩ = some (.int .i64 0) := by rw [Lib.cell_of_heap H.out.ex]; rfl
   have e1 : W3.cell? ⟨(b + 1 + 1), 1, none⟩ = some (.string ⟨#[]⟩) := by rw [Lib.cell_of_heap H.out.ex]; rfl
   have e2 : W3.cell? ⟨(b + 1 + 1), 2, none⟩ = some (.int .i64 0) := by rw [Lib.cell_of_heap H.out.ex]; rfl
   have e3 : W3.cell? ⟨(b + 1 + 1), 3, none⟩ = some (.slice none 0 0) := by rw [Lib.cell_of_heap H.out.ex]; rfl
   have e4 : W3.cell? ⟨(b + 1 + 1), 4, none⟩ = some (.int .i64 tp) := by rw [Lib.cell_of_heap H.out.ex]; rfl
   cases hp : Pol.is (t3 :: l3) 4 [41] with
   | false =>
    have HP : Hid (Pol.claimed tp (t1 :: t2 :: t3 :: l3) = .error (t3.p, 120)) := by
     show _ = _; unfold Pol.claimed; rw [must_pos HP0.out]; simp only [take_pos HK2.out, must_neg hp]
    have HP1 := Lib.hid hp
    clear hp
    have H := Lib.hid ((H.out.sete 0 (.int .i64 5)).sete 1 (.string t2.s))
    have HN := Lib.hid (rd_must_no _ r g _ _ t3 l3 nest ⟨#[41]⟩ H.out.rd HP1.out)
    go_wp2_with fail
    refine HN.out.mono ?_
    intro e w1 hs
    obtain ⟨b9, hb9, rfl, hrow9, hf9⟩ := hs.from (bs := [r]) H.out.f (fun y hy => .inl (by simpa using hy))
    show _
    exact ⟨rfl, by first | exact Done.stop ⟨b9, hb9, rfl, hrow9, hf9⟩ | (rw [HP.out]; exact Done.stop ⟨b9, hb9, rfl, hrow9, hf9⟩)⟩
   | true =>
    have hE3 : Ends l3 := Pol.is_tail hp (by decide) HE2.out
    have HP : Hid (Pol.claimed tp (t1 :: t2 :: t3 :: l3) = .ok (.mk 5 t2.s 0 [] tp, l3)) := by
     show _ = _; unfold Pol.claimed; rw [must_pos HP0.out]; simp only [take_pos HK2.out, must_pos hp]
    have hl3 := hE3.pos
    have HP1 := Lib.hid hp
    clear hp hE3
    have H := Lib.hid ((H.out.sete 0 (.int .i64 5)).sete 1 (.string t2.s))
    have HN := Lib.hid (rd_must_yes _ r g _ _ t3 l3 nest ⟨#[41]⟩ H.out.rd hl3 HP1.out)
    go_wp2_with fail
    refine HN.out.mono ?_
    rintro e W4 ⟨rfl, hf1, hr1⟩
    have H := Lib.hid (H.out.step hf1 hr1)
    clear HN hf1 hr1
    clear e0 e1 e2 e3 e4 ef
    have ef : ∀ i, W4.frozen? ⟨(b + 1 + 1), i, none⟩ = false := fun i => Lib.frozen_of_heap H.out.ex i
    have e0 : W4.cell? ⟨(b + 1 + 1), 0, none⟩ = some (.int .i64 5) := by rw [Lib.cell_of_heap H.out.ex]; rfl
    have e1 : W4.cell? ⟨(b + 1 + 1), 1, none⟩ = some (.string t2.s) := by rw [Lib.cell_of_heap H.out.ex]; rfl
    have e2 : W4.cell? ⟨(b + 1 + 1), 2, none⟩ = some (.int .i64 0) := by rw [Lib.cell_of_heap H.out.ex]; rfl
    have e3 : W4.cell? ⟨(b + 1 + 1), 3, none⟩ = some (.slice none 0 0) := by rw [Lib.cell_of_heap H.out.ex]; rfl
    have e4 : W4.cell? ⟨(b + 1 + 1), 4, none⟩ = some (.int .i64 tp) := by rw [Lib.cell_of_heap H.out.ex]; rfl
    have zf : ∀ i, W4.frozen? ⟨b, i, none⟩ = false := fun i => Lib.frozen_of_heap H.out.res i
    have z0 : W4.cell? ⟨b, 0, none⟩ = some (.int .i64 0) := by rw [Lib.cell_of_heap H.out.res]; rfl
    have z1 : W4.cell? ⟨b, 1, none⟩ = some (.string ⟨#[]⟩) := by rw [Lib.cell_of_heap H.out.res]; rfl
    have z2 : W4.cell? ⟨b, 2, none⟩ = some (.int .i64 0) := by rw [Lib.cell_of_heap H.out.res]; rfl
    have z3 : W4.cell? ⟨b, 3, none⟩ = some (.slice none 0 0) := by rw [Lib.cell_of_heap H.out.res]; rfl
    have z4 : W4.cell? ⟨b, 4, none⟩ = some (.int .i64 0) := by rw [Lib.cell_of_heap H.out.res]; rfl
    have HT := Lib.hid (((((H.out.setr 0 (.int .i64 5)).setr 1 (.string t2.s)).setr 2 (.int .i64 0)).setr 3 (.slice none 0 0)).setr 4 (.int .i64 tp))
    go_wp2_with fail
    refine bodyPost_ret (v := .agg #[.int .i64 5, .string t2.s, .int .i64 0, .slice none 0 0, .int .i64 tp]) (results_cell_row rfl _ _ b _ _ (0, 0) _ rfl HT.out.res Tryd.underlying80 rfl (by kernel_rfl)) rfl ?_
    rw [HP.out]
    exact ⟨[_, _, _, _, _], rfl, Rep.leaf _ _ _ _ _ _, HT.out.f, _, _, HT.out.rd⟩
  ·have HP : Hid (Pol.claimed tp (t1 :: t2 :: l2) = .error (t2.p, 120)) := by
    show _ = _; unfold Pol.claimed; rw [must_pos HP0.out]; simp only [take_neg hk2]
   have HK2 := Lib.hid hk2
   clear hk2
   have hr2 : r < W2.heap.size := Nat.lt_of_lt_of_le hr H.out.f.size
   have HN := Lib.hid (rd_take_no W2 r g _ _ t2 l2 nest 2 H.out.rd hr2 HK2.out)
   go_wp2_with fail
   refine HN.out.mono ?_
   intro e w1 hs
   obtain ⟨b9, hb9, rfl, hrow9, hf9⟩ := hs.from (bs := [r]) H.out.f (fun y hy => .inl (by simpa using hy))
   show _
   exact ⟨rfl, by first | exact Done.stop ⟨b9, hb9, rfl, hrow9, hf9⟩ | (rw [HP.out]; exact Done.stop ⟨b9, hb9, rfl, hrow9, hf9⟩)⟩
end Go.Proofs.YtgklmpooonnmiaaDoor
