/-
  Lemmas and contracts that the proofs over this seat use (PolParse); no statement of the seat is claimed in this text, and nothing is assumed in it.
-/
import Derived.Test.YtgklmpooonnmiaaDoorJ27
import Derived.Test.YtgklmpooonnmiaaDoorJ30
import Derived.Test.YtgklmpooonnmiaaDoorJ12
set_option linter.unusedVariables false
set_option linter.unusedSimpArgs false
namespace Go.Proofs.YtgklmpooonnmiaaDoor
open Go.RowKit
theorem rule_all (f : Nat) (w : World) (r g o c : Nat) (l : List TI) (h : Rd w r g o c l 0) (hE : Ends l) (hfed : Pol.Fed (Pol.rule (f + 1) l)) :
  Calls Tryd.prog 57 #[.pointer (some ⟨r, 0, none⟩)] w (RuleDone r g 0 w (Pol.rule (f + 1) l)) := by
 obtain ⟨t, m, rfl⟩ := hE.cons
 cases h1 : Pol.is (t :: m) 1 [112, 101, 114, 109, 105, 116] with
 | true =>
  have h2 : Pol.is (t :: m) 1 [100, 101, 110, 121] = false := by
   simp only [Pol.is, Bool.and_eq_true, beq_iff_eq] at h1
   simp only [Pol.is, h1.2]
   rw [show (([112, 101, 114, 109, 105, 116] : List UInt8) == [100, 101, 110, 121]) = false from rfl, Bool.and_false]
  have e : Pol.rule (f + 1) (t :: m) = Pol.ruleTail (f + 1) false t.p m := by
   unfold Pol.rule; rw [if_pos (Or.inl h1), h2]; rfl
  exact rule_permit f w r g o c t m h hE h1 _ e hfed
 | false =>
  cases h2 : Pol.is (t :: m) 1 [100, 101, 110, 121] with
  | true =>
   have e : Pol.rule (f + 1) (t :: m) = Pol.ruleTail (f + 1) true t.p m := by
    unfold Pol.rule; rw [if_pos (Or.inr h2), h2]; rfl
   exact rule_deny f w r g o c t m h hE h1 h2 _ e hfed
  | false =>
   have e : Pol.rule (f + 1) (t :: m) = .error (t.p, 120) := by
    unfold Pol.rule; rw [if_neg (by rw [h1, h2]; simp)]; rfl
   rw [e]
   exact rule_none w r g o c t m h hE h1 h2
def RsRep (w : World) (D : Nat → Prop) (v : Value) (L : List Ru) : Prop :=
 ∃ (q : Option Addr) (c : Nat) (f : Nat → List Value), v = .slice q L.length c ∧ L.length ≤ c ∧ c ≤ maxLen ∧ (∀ (i : Nat) (u : Ru), L[i]? = some u → ∃ g, q = some ⟨g, 0, none⟩ ∧ g < w.heap.size ∧ D g ∧ w.rangeAt g (4 * i) (f i)) ∧ (∀ (i : Nat) (u : Ru), L[i]? = some u → RuRep w D (f i) u) ∧ (q = none → c = 0)
theorem tk_of_own {w : World} {B : Nat} {v : Value} {l : List Tk} (h : w.ownsRow B 25 4 v l.length (toks l)) (hl : 0 < l.length) : ∃ g c, v = .slice (some ⟨g, 0, none⟩) l.length c ∧ B ≤ g ∧ g < w.heap.size ∧ l.length ≤ c ∧ c ≤ maxLen ∧ TK w g 0 (l.map Tk.ti) := by
 rcases h.2 with ⟨_, h0⟩ | ⟨g, cap, cur, hv, hb, hrow, h1, h2, h3, h4⟩
 ·omega
 ·refine ⟨g, cap, hv, hb, row_lt hrow, h1, h2, fun j t hj => ?_⟩
  have hat : ∀ (k : Nat) (u : Value), (toks l)[k]? = some u → w.cell? ⟨g, k, none⟩ = some u := fun k u hk => by
   rw [← h4, List.getElem?_take] at hk
   split at hk
   ·rw [cell_of_row _ _ _ _ _ _ hrow]; simpa using hk
   ·cases hk
  have hf : ∀ (l : List Tk) (j : Nat) (t : Tk), l[j]? = some t → (toks l)[4 * j]? = some (.int .i64 (t.k : Nat)) ∧ (toks l)[4 * j + 1]? = some (.string t.s) ∧ (toks l)[4 * j + 2]? = some (.int .i64 t.n) ∧ (toks l)[4 * j + 3]? = some (.int .i64 (t.p : Nat)) := by
   intro l
   induction l with
   | nil => intro j t hj; simp at hj
   | cons a r ih =>
    intro j t hj
    cases j with
    | zero => simp at hj; subst hj; simp [toks, Tk.c]
    | succ j =>
     have h9 := ih j t (by simpa using hj)
     have e : toks (a :: r) = a.c ++ toks r := rfl
     rw [e, show 4 * (j + 1) = 4 * j + 4 by omega]
     have hc : a.c.length = 4 := rfl
     refine ⟨?_, ?_, ?_, ?_⟩
     ·rw [List.getElem?_append_right (by omega), hc]; simpa using h9.1
     ·rw [List.getElem?_append_right (by omega), hc, show 4 * j + 4 + 1 - 4 = 4 * j + 1 by omega]; exact h9.2.1
     ·rw [List.getElem?_append_right (by omega), hc, show 4 * j + 4 + 2 - 4 = 4 * j + 2 by omega]; exact h9.2.2.1
     ·rw [List.getElem?_append_right (by omega), hc, show 4 * j + 4 + 3 - 4 = 4 * j + 3 by omega]; exact h9.2.2.2
  rw [List.getElem?_map] at hj
  cases hq : l[j]? with
  | none => rw [hq] at hj; cases hj
  | some u =>
   rw [hq] at hj
   simp at hj
   subst hj
   obtain ⟨a0, a1, a2, a3⟩ := hf l j u hq
   simp only [Nat.zero_add]
   exact ⟨hat _ _ a0, hat _ _ a1, hat _ _ a2, hat _ _ a3⟩
theorem scanFrom_ok (s : ByteArray) (k : Nat) (l : List Tk) (hl : l.length ≤ 512) (R : List Tk) (h : Lex.scanFrom s k l = (.ok, R)) : R.length ≤ 513 ∧ ∃ t, R.getLast? = some t ∧ t.k = 5 := by
 fun_induction Lex.scanFrom s k l with
 | case1 => cases h
 | case2 => cases h
 | case3 k l _ t m _ hn ih => exact ih (by simp; omega) h
 | case4 k l _ => cases h; exact ⟨by simp; omega, _, by simp; rfl, rfl⟩
theorem scan_ok (s : ByteArray) (l : List Tk) (h : Lex.scan s = (.ok, l)) : Ends (l.map Tk.ti) ∧ l.length ≤ 513 := by
 unfold Lex.scan at h
 split at h
 ·cases h
 ·obtain ⟨h1, t, h2, h3⟩ := scanFrom_ok s _ [] (by simp) l h
  exact ⟨⟨t.ti, by rw [List.getLast?_map, h2]; rfl, by show ((t.k : Nat) : Int) = 5; omega⟩, h1⟩
theorem ErV.fr2 {bs : List Nat} {w w' : World} {base : Nat} {e : Er} {v : Value} (h : ErV w base e v) (hF : Fr bs w w') (hb : ∀ y ∈ bs, y < base) : ErV w' base e v := by
 cases e with
 | ok => exact h
 | no n => exact h
 | pl p n => obtain ⟨b, h1, hv, hr⟩ := h; exact ⟨b, h1, hv, hF.row hr (fun hc => by have := hb b hc; omega)⟩
theorem infoRu : (Tryd.prog.info? 78).map (fun i => (i.zero, i.size, i.bytes)) = some (some (.agg #[.bool false, .slice none 0 0, .slice none 0 0, .int .i64 0]), 4, 64) := by kernel_rfl
structure Rus (w : World) (D : Nat → Prop) (css : List (List Value)) (L : List Ru) : Prop where
 len : css.length = L.length
 rep : ∀ (i : Nat) (x : Ru) (cs : List Value), L[i]? = some x → css[i]? = some cs → RuRep w D cs x
theorem Rus.fr {bs : List Nat} {w w' : World} {D : Nat → Prop} (hf : Fr bs w w') (hb : ∀ y ∈ bs, y < w.heap.size → ¬ D y) {css : List (List Value)} {L : List Ru} (h : Rus w D css L) : Rus w' D css L :=
 ⟨h.len, fun i x cs hi hc => (h.rep i x cs hi hc).fr hf hb⟩
theorem Rus.mono {w : World} {D E : Nat → Prop} (hd : ∀ g, g < w.heap.size → D g → E g) {css : List (List Value)} {L : List Ru} (h : Rus w D css L) : Rus w E css L :=
 ⟨h.len, fun i x cs hi hc => (h.rep i x cs hi hc).mono hd⟩
theorem Rus.snoc {w : World} {D : Nat → Prop} {css : List (List Value)} {L : List Ru} {cs : List Value} {x : Ru} (h : Rus w D css L) (hx : RuRep w D cs x) : Rus w D (css ++ [cs]) (L ++ [x]) := by
 refine ⟨by simp [h.len], fun i y ds hi hc => ?_⟩
 by_cases hl : i < L.length
 ·rw [List.getElem?_append_left hl] at hi
  rw [List.getElem?_append_left (by rw [h.len]; exact hl)] at hc
  exact h.rep i y ds hi hc
 ·have h0 : i = L.length := by have := (List.getElem?_eq_some_iff.1 hi).1; simp at this; omega
  subst h0
  simp at hi
  rw [← h.len] at hc
  simp at hc
  subst hi hc
  exact hx
theorem RuRep.form {w : World} {D : Nat → Prop} {cs : List Value} {u : Ru} (h : RuRep w D cs u) : ∃ q1 k1 c1 q2 k2 c2, cs = [.bool u.deny, .slice q1 k1 c1, .slice q2 k2 c2, .int .i64 u.p] := by
 obtain ⟨v1, v2, rfl, ⟨q, c, rfl, _⟩, h3⟩ := h
 obtain ⟨op, s, n, q2, k2, c2, p, h9⟩ := Rep.form h3
 simp only [List.cons.injEq, and_true] at h9
 obtain ⟨_, _, _, rfl, _⟩ := h9
 exact ⟨_, _, _, _, _, _, rfl⟩
theorem flat_at4 : ∀ (css : List (List Value)), (∀ (i : Nat) (cs : List Value), css[i]? = some cs → cs.length = 4) → ∀ (i : Nat) (cs : List Value) (j : Nat) (v : Value), css[i]? = some cs → cs[j]? = some v → css.flatten[4 * i + j]? = some v := by
 intro css
 induction css with
 | nil => intro _ i cs j v hi; simp at hi
 | cons a r ih =>
  intro h i cs j v hi hj
  have ha := h 0 a rfl
  cases i with
  | zero =>
   simp at hi; subst hi
   have := (List.getElem?_eq_some_iff.1 hj).1
   rw [List.flatten_cons, List.getElem?_append_left (by omega)]
   simpa using hj
  | succ i =>
   rw [List.flatten_cons, List.getElem?_append_right (by omega), ha, show 4 * (i + 1) + j - 4 = 4 * i + j by omega]
   exact ih (fun k cs hk => h (k + 1) cs (by simpa using hk)) i cs j v (by simpa using hi) hj
structure PaSt (w : World) (b R g o c : Nat) (m : List TI) (v : Value) (css : List (List Value)) (A : List Ru) (W : World) : Prop where
 rd : Rd W R g o c m 0
 b2 : W.heap[b]? = some (.cells #[v] 43 (0, 0))
 b3 : W.heap[b + 1]? = some (.cells #[.nilIface] 32 (0, 0))
 own : W.ownsRow (R + 1) 78 4 v A.length css.flatten
 rus : Rus W (fun i => R + 1 ≤ i ∧ v.ownBlock ≠ some i) css A
 f : Fr [] w W
 bw : b = w.heap.size
 bR : b + 1 < R
 bg : b + 1 < g
 gR : g < R
theorem PaSt.own_base {w : World} {b R g o c : Nat} {m : List TI} {v : Value} {css : List (List Value)} {A : List Ru} {W : World} (h : PaSt w b R g o c m v css A W) : ∀ y, v.ownBlock = some y → R + 1 ≤ y := fun y hy => by
 rcases h.own.2 with ⟨hv, _⟩ | ⟨g0, cap, cur, hv, hb, _⟩
 ·rw [hv] at hy; simp [Value.ownBlock] at hy
 ·rw [hv] at hy; simp [Value.ownBlock] at hy; omega
theorem PaSt.step {w : World} {b R g o c : Nat} {m : List TI} {v : Value} {css : List (List Value)} {A : List Ru} {W W' : World} {o' c' : Nat} {m' : List TI} (h : PaSt w b R g o c m v css A W) (hf : Fr [R] W W') (hr : Rd W' R g o' c' m' 0) : PaSt w b R g o' c' m' v css A W' := by
 have h1 := h.bR; have h2 := h.bw
 refine ⟨hr, hf.row h.b2 (by simp; omega), hf.row h.b3 (by simp; omega), ?_, h.rus.fr hf (fun y hy _ => by simp at hy; omega), (h.f.sub (bs := [R])).trans hf (fun y hy => .inl hy) |>.new (by omega), h2, h1, h.bg, h.gR⟩
 refine ⟨h.own.1, ?_⟩
 rcases h.own.2 with h | ⟨g0, cap, cur, hv, hb, hg, hr⟩
 ·exact Or.inl h
 ·exact Or.inr ⟨g0, cap, cur, hv, hb, hf.row hg (by simp; omega), hr⟩
theorem PaSt.fr {w : World} {b R g o c : Nat} {m : List TI} {v : Value} {css : List (List Value)} {A : List Ru} {W W' : World} (h : PaSt w b R g o c m v css A W) (hf : Fr [] W W') : PaSt w b R g o c m v css A W' :=
 ⟨h.rd.fr hf (by simp) (by simp), hf.row h.b2 (by simp), hf.row h.b3 (by simp), ownsRow_fr h.own hf, h.rus.fr hf (fun y hy _ => by cases hy), h.f.trans0 hf, h.bw, h.bR, h.bg, h.gR⟩
theorem PaSt.laid {w : World} {b R g o c : Nat} {m : List TI} {v : Value} {css : List (List Value)} {A : List Ru} {W : World} (h : PaSt w b R g o c m v css A W) : PaSt w b R g o c m v css A ((W.setCell ⟨b, 0, none⟩ v).setCell ⟨b + 1, 0, none⟩ .nilIface) := by
 have h1 := h.bR; have h2 := h.bw; have h3 := h.bg
 have hf : Fr [b, b + 1] W ((W.setCell ⟨b, 0, none⟩ v).setCell ⟨b + 1, 0, none⟩ .nilIface) := ((Fr.refl _ W).setCell (p := ⟨b, 0, none⟩) (.inl (by simp)) _).setCell (p := ⟨b + 1, 0, none⟩) (.inl (by simp)) _
 have hf1 : Fr [b] W (W.setCell ⟨b, 0, none⟩ v) := (Fr.refl _ W).setCell (p := ⟨b, 0, none⟩) (.inl (by simp)) _
 have hf2 : Fr [b + 1] (W.setCell ⟨b, 0, none⟩ v) ((W.setCell ⟨b, 0, none⟩ v).setCell ⟨b + 1, 0, none⟩ .nilIface) := (Fr.refl _ _).setCell (p := ⟨b + 1, 0, none⟩) (.inl (by simp)) _
 refine ⟨h.rd.fr hf (by simp; omega) (by simp; omega), hf2.row (heap_set_row h.b2 0 v) (by simp), heap_set_row (hf1.row h.b3 (by simp)) 0 _, ?_, h.rus.fr hf (fun y hy _ => by simp at hy; omega), ?_, h2, h1, h3, h.gR⟩
 ·refine ⟨h.own.1, ?_⟩
  rcases h.own.2 with h | ⟨g0, cap, cur, hv, hb, hg, hr⟩
  ·exact Or.inl h
  ·exact Or.inr ⟨g0, cap, cur, hv, hb, hf.row hg (by simp; omega), hr⟩
 ·have h9 := (h.f.sub (bs := [b, b + 1])).trans hf (fun y hy => .inl hy)
  exact ⟨h9.os, h9.tape, h9.output, h9.size, fun k hk _ => h9.block k hk (by simp; omega)⟩
theorem parse_res (tmps : Array Value) (Z : World) (b : Nat) (q : Option Addr) (n c : Nat) (ev : Value) (h2 : tmps[2]? = some (.pointer (some ⟨b, 0, none⟩))) (h3 : tmps[3]? = some (.pointer (some ⟨b + 1, 0, none⟩))) (hb : Z.heap[b]? = some (.cells #[.slice q n c] 43 (0, 0))) (hb3 : Z.heap[b + 1]? = some (.cells #[ev] 32 (0, 0))) :
  (results Tryd.f26 tmps).run Tryd.prog Z = .ok (.tuple #[.slice q n c, ev]) Z := by
 have c0 : Z.cell? ⟨b, 0, none⟩ = some (.slice q n c) := by rw [Lib.cell_of_heap hb]; rfl
 have c1 : Z.cell? ⟨b + 1, 0, none⟩ = some ev := by rw [Lib.cell_of_heap hb3]; rfl
 simp [results, Tryd.results26, go_sem, h2, h3, c0, c1]
theorem PaSt.out {w : World} {b R g o c : Nat} {m : List TI} {v : Value} {css : List (List Value)} {A : List Ru} {W : World} (h : PaSt w b R g o c m v css A W) : RsRep W (fun i => w.heap.size ≤ i) v A := by
 have h1 := h.bR; have h2 := h.bw
 rcases h.own.2 with ⟨hv, h0⟩ | ⟨g0, cap, cur, hv, hb, hrow, k1, k2, k3, k4⟩
 ·have : A = [] := List.eq_nil_of_length_eq_zero h0
  subst this
  exact ⟨none, 0, fun _ => [], hv, Nat.le_refl _, by decide, fun i u hi => by simp at hi, fun i u hi => by simp at hi, fun _ => rfl⟩
 ·have h5 : ∀ (i : Nat) (cs : List Value), css[i]? = some cs → cs.length = 4 := fun i cs hi => by
   obtain ⟨h1, rfl⟩ := List.getElem?_eq_some_iff.1 hi
   have hl := h.rus.len
   obtain ⟨v1, v2, e, _⟩ := h.rus.rep i _ _ (List.getElem?_eq_getElem (by omega)) hi
   rw [e]; rfl
  have hat := flat_at4 css h5
  refine ⟨some ⟨g0, 0, none⟩, cap, fun i => css.getD i [], hv, k1, k2, fun i u hi => ⟨g0, rfl, row_lt hrow, by show w.heap.size ≤ g0; omega, fun j x hj => ?_⟩, fun i u hi => ?_, fun h => by cases h⟩
  ·have hl := h.rus.len
   have hi2 : i < css.length := by have := (List.getElem?_eq_some_iff.1 hi).1; omega
   have e : css.getD i [] = css[i] := by simp [List.getD, List.getElem?_eq_getElem hi2]
   simp only [e] at hj
   have h9 := hat i _ j x (List.getElem?_eq_getElem hi2) hj
   rw [← k4, List.getElem?_take] at h9
   split at h9
   ·rw [cell_of_row _ _ _ _ _ _ hrow]; simpa using h9
   ·cases h9
  ·have hl := h.rus.len
   have hi2 : i < css.length := by have := (List.getElem?_eq_some_iff.1 hi).1; omega
   have e : css.getD i [] = css[i] := by simp [List.getD, List.getElem?_eq_getElem hi2]
   simp only [e]
   exact (h.rus.rep i u _ hi (List.getElem?_eq_getElem hi2)).mono (fun k _ hk => by have := hk.1; show w.heap.size ≤ k; omega)
theorem own_lt {w : World} {B n size : Nat} {e : TypeId} {v : Value} {xs : List Value} (h : w.ownsRow B e size v n xs) : ∀ y, v.ownBlock = some y → y < w.heap.size := fun y hy => by
 rcases h.2 with ⟨hv, _⟩ | ⟨g0, cap, cur, hv, hb, hrow, _⟩
 ·rw [hv] at hy; simp [Value.ownBlock] at hy
 ·rw [hv] at hy; simp [Value.ownBlock] at hy; subst hy; exact row_lt hrow
theorem PaSt.stopped {w : World} {b R g o c : Nat} {m : List TI} {v : Value} {css : List (List Value)} {A : List Ru} {W W9 Z : World} {b9 : Nat} {p n : Int} (h : PaSt w b R g o c m v css A W) (hb9 : W.heap.size ≤ b9) (hr : W9.heap[b9]? = some (.cells #[.int .i64 p, .iface 57 (.int .i64 n)] 73 (0, 0))) (hf : Fr [R] W W9)
  (k4 : Fr [b, b + 1] W9 Z) (hp : 0 ≤ p ∧ 0 ≤ n) :
  RsRep Z (fun i => w.heap.size ≤ i) (.slice none 0 0) (Pol.told (.error (p, n))).2 ∧ ErV Z w.heap.size (Pol.told (.error (p, n))).1 (.iface 70 (.pointer (some ⟨b9, 0, none⟩))) ∧ Fr [] w Z := by
 have h1 := h.bR; have h2 := h.bw; have h3 := row_lt h.rd.row
 refine ⟨⟨none, 0, fun _ => [], rfl, Nat.le_refl _, by decide, fun i u hi => by simp [Pol.told] at hi, fun i u hi => by simp [Pol.told] at hi, fun _ => rfl⟩, ⟨b9, by omega, rfl, ?_⟩, ?_⟩
 ·have h9 := k4.row hr (by simp; omega)
  rw [show ((p.toNat : Nat) : Int) = p by omega, show ((n.toNat : Nat) : Int) = n by omega]
  exact h9
 ·have h9 := ((h.f.sub (bs := [R])).trans hf (fun y hy => .inl hy)).new (by omega)
  have h8 := (h9.sub (bs := [b, b + 1])).trans k4 (fun y hy => .inl hy)
  exact ⟨h8.os, h8.tape, h8.output, h8.size, fun k hk _ => h8.block k hk (by simp; omega)⟩
theorem PaSt.grow {w : World} {b R g o c : Nat} {m : List TI} {v : Value} {css : List (List Value)} {A : List Ru} {W U : World} {cs : List Value} {x : Ru} (h : PaSt w b R g o c m v css A W) (hx : RuRep W (fun i => R + 1 ≤ i ∧ v.ownBlock ≠ some i) cs x)
  {g1 c1 : Nat} (ho : U.ownsRow (R + 1) 78 4 (.slice (some ⟨g1, 0, none⟩) (A.length + 1) c1) (A.length + 1) (css.flatten ++ cs)) (hg : W.grownBy U v.ownBlock) (hgg : v.ownBlock = some g1 ∨ W.heap.size ≤ g1) :
  PaSt w b R g o c m (.slice (some ⟨g1, 0, none⟩) (A.length + 1) c1) (css ++ [cs]) (A ++ [x]) (U.setCell ⟨b, 0, none⟩ (.slice (some ⟨g1, 0, none⟩) (A.length + 1) c1)) := by
 have h1 := h.bR; have h2 := h.bw; have h3 := h.bg; have h4 := h.gR
 have hf := Fr.of_grown hg
 have hbase : ∀ y ∈ v.ownBlock.toList, R + 1 ≤ y := fun y hy => h.own_base y (by simpa using hy)
 have hg1 : R + 1 ≤ g1 := by
  rcases hgg with h9 | h9
  ·exact h.own_base _ h9
  ·have := row_lt h.rd.row; omega
 have hD : ∀ i, i < W.heap.size → (R + 1 ≤ i ∧ v.ownBlock ≠ some i) → (R + 1 ≤ i ∧ v.ownBlock ≠ some i ∧ i ≠ g1) := fun i hi hc => ⟨hc.1, hc.2, fun h9 => by
  subst h9
  rcases hgg with h8 | h8
  ·exact hc.2 h8
  ·omega⟩
 have hE : ∀ i, i < U.heap.size → (R + 1 ≤ i ∧ v.ownBlock ≠ some i ∧ i ≠ g1) → (R + 1 ≤ i ∧ (Value.slice (some ⟨g1, 0, none⟩) (A.length + 1) c1).ownBlock ≠ some i) := fun i _ hc => ⟨hc.1, fun h9 => by
  simp [Value.ownBlock] at h9
  exact hc.2.2 h9.symm⟩
 have h5 := (((h.rus.snoc hx).mono hD).fr hf (fun y hy hl hc => hc.2.1 (by simpa using hy))).mono hE
 have hs : Fr [b] U (U.setCell ⟨b, 0, none⟩ (.slice (some ⟨g1, 0, none⟩) (A.length + 1) c1)) := (Fr.refl _ _).setCell (p := ⟨b, 0, none⟩) (.inl (by simp)) _
 have k0 := h.rd.fr hf (fun hc => by have := hbase _ hc; omega) (fun hc => by have := hbase _ hc; omega)
 have k2 := hf.row h.b2 (fun hc => by have := hbase _ hc; omega)
 have k3 := hf.row h.b3 (fun hc => by have := hbase _ hc; omega)
 refine ⟨k0.fr hs (by simp; omega) (by simp; omega), heap_set_row k2 0 _, hs.row k3 (by simp), ?_, h5.fr hs (fun y hy _ => by simp at hy; omega), ?_, h2, h1, h3, h4⟩
 ·have ho' : U.ownsRow (R + 1) 78 4 (.slice (some ⟨g1, 0, none⟩) (A.length + 1) c1) (A.length + 1) (css.flatten ++ cs) := ho
  rw [List.length_append, List.flatten_append]
  have h9 := ownsRow_blk ho' (hs.block g1 (ownsRow_lt ho') (by simp; omega))
  simpa using h9
 ·have h8 : Fr v.ownBlock.toList w U := (h.f.sub (bs := v.ownBlock.toList)).trans hf (fun y hy => .inl hy)
  have h9 : Fr (b :: v.ownBlock.toList) w (U.setCell ⟨b, 0, none⟩ (.slice (some ⟨g1, 0, none⟩) (A.length + 1) c1)) := by
   refine Fr.trans (b := U) ⟨h8.os, h8.tape, h8.output, h8.size, fun k hk hn => h8.block k hk (fun hc => hn (List.mem_cons_of_mem _ hc))⟩ hs (fun y hy => .inl (by simp at hy; simp [hy]))
  exact ⟨h9.os, h9.tape, h9.output, h9.size, fun k hk _ => h9.block k hk (fun hc => by
   rcases List.mem_cons.1 hc with h | h
   ·omega
   ·have := hbase _ h; omega)⟩
set_option maxHeartbeats 4000000 in
set_option maxRecDepth 100000 in
theorem pol_parse (w : World) (s : ByteArray) (hs : s.size ≤ maxLen) (hL : Least w) :
  Calls Tryd.prog 26 #[.string s] w fun e w' => ∃ v ev, e = .returned (.tuple #[v, ev]) ∧ RsRep w' (fun i => w.heap.size ≤ i) v (Pol.parse s).2 ∧ ErV w' w.heap.size (Pol.parse s).1 ev ∧ Fr [] w w' := by
 have hmf : ∀ fn first cap w, (Instr.makeFunc fn first cap).run Tryd.prog w = .ok (.func fn first cap) w := fun _ _ _ _ => rfl
 have HA0 : Hid (Fr [] w ((w.alloc (.cells #[.slice none 0 0] 43)).alloc (.cells #[.nilIface] 32))) := ((Fr.refl [] w).alloc _).alloc _
 have HAL := Lib.hid (alloc2 w (.cells #[.slice none 0 0] 43) (.cells #[.nilIface] 32))
 have HSC := Lib.hid (lex_scan _ s hs (hL.fr (bs := []) HA0.out (by simp)))
 obtain ⟨er, hq⟩ : ∃ q, Lex.scan s = q := ⟨_, rfl⟩
 obtain ⟨er, tks⟩ := er
 rw [hq] at HSC
 have Hq := Lib.hid hq
 clear hL hq
 go_enter_defers Tryd.func26, Tryd.ntmps26
 go_wp2_with fail
 refine HSC.out.mono ?_
 rintro e w1 ⟨v, ev, rfl, hown, hev, hf1⟩
 have HB2 := Lib.hid (hf1.row HAL.out.1 (by simp))
 have HB3 := Lib.hid (hf1.row HAL.out.2 (by simp))
 have HOWN := Lib.hid hown
 have HEV := Lib.hid hev
 have HF1 := Lib.hid (HA0.out.trans0 hf1)
 have hz2 := row_lt HB2.out
 have hz3 := row_lt HB3.out
 clear hown hev hf1 HSC HAL HA0
 have xf : ∀ i, w1.frozen? ⟨w.heap.size, i, none⟩ = false := fun i => Lib.frozen_of_heap HB2.out i
 have x0 : w1.cell? ⟨w.heap.size, 0, none⟩ = some (.slice none 0 0) := by rw [Lib.cell_of_heap HB2.out]; rfl
 have yf : ∀ i, w1.frozen? ⟨(w.heap.size + 1), i, none⟩ = false := fun i => Lib.frozen_of_heap HB3.out i
 have y0 : w1.cell? ⟨(w.heap.size + 1), 0, none⟩ = some (.nilIface) := by rw [Lib.cell_of_heap HB3.out]; rfl
 by_cases her : er = .ok
 ·subst her
  obtain rfl : ev = .nilIface := HEV.out
  have hsc := scan_ok s tks Hq.out
  have hE0 := hsc.1
  have hlp : 0 < tks.length := by have := hE0.pos; simpa using this
  obtain ⟨g, c, rfl, hgb, hgl, hlc, hcm, htk⟩ := tk_of_own HOWN.out hlp
  have HTK := Lib.hid htk
  have HE := Lib.hid hE0
  have hfew := hsc.2
  clear htk hE0 hsc
  go_wp2_with fail
  have hwz : w.heap.size + 1 < w1.heap.size := hz3
  have hST : Hid (PaSt w w.heap.size w1.heap.size g 0 c (tks.map Tk.ti) (.slice none 0 0) [] [] ((w1.setCell ⟨w.heap.size + 1, 0, none⟩ .nilIface).alloc (.cells #[.slice (some ⟨g, 0, none⟩) tks.length c, .int .i64 0] 96))) := by
   have hs : Fr [w.heap.size + 1] w1 (w1.setCell ⟨w.heap.size + 1, 0, none⟩ .nilIface) := (Fr.refl _ _).setCell (p := ⟨w.heap.size + 1, 0, none⟩) (.inl (by simp)) _
   have hA : Fr [] (w1.setCell ⟨w.heap.size + 1, 0, none⟩ .nilIface) ((w1.setCell ⟨w.heap.size + 1, 0, none⟩ .nilIface).alloc (.cells #[.slice (some ⟨g, 0, none⟩) tks.length c, .int .i64 0] 96)) := (Fr.refl _ _).alloc _
   have hsz : (w1.setCell ⟨w.heap.size + 1, 0, none⟩ .nilIface).heap.size = w1.heap.size := by simp [World.setCell]
   have hrow := heap_alloc_last (w1.setCell ⟨w.heap.size + 1, 0, none⟩ .nilIface) (.cells #[.slice (some ⟨g, 0, none⟩) tks.length c, .int .i64 0] 96)
   rw [hsz] at hrow
   have hgb2 : w.heap.size + 1 < g := by simp at hgb; omega
   refine ⟨⟨by simpa using hrow, (HTK.out.fr hs hgl (by simp; omega)).fr hA (by rw [hsz]; exact hgl) (by simp), by have := hA.size; rw [hsz] at this; omega, by omega, by simpa using hlc, hcm, by simp; omega⟩, hA.row (hs.row HB2.out (by simp)) (by simp), hA.row (heap_set_row HB3.out 0 .nilIface) (by simp), ownsRow_nil _ _ _ _, ⟨rfl, fun i x cs hi => by simp at hi⟩, ?_, rfl, hwz, hgb2, hgl⟩
   exact ((HF1.out.sub (bs := [w.heap.size + 1])).trans hs (fun y hy => .inl hy) |>.trans0 hA).new (by omega)
  obtain ⟨b, hb⟩ : ∃ b, w.heap.size = b := ⟨_, rfl⟩
  obtain ⟨R, hR⟩ : ∃ R, w1.heap.size = R := ⟨_, rfl⟩
  rw [hb, hR] at hST ⊢
  obtain ⟨K, hK⟩ : ∃ K, Pol.rules (tks.length + 1) (6 * tks.length + 7) [] (tks.map Tk.ti) = K := ⟨_, rfl⟩
  have HK := Lib.hid hK
  have HPP : Hid (Pol.parse s = Pol.told K) := by show _ = _; unfold Pol.parse; rw [Hq.out]; simp only [hK]
  have HNN : Hid (Pol.NN (tks.map Tk.ti)) := fun t ht => by
   obtain ⟨u, _, rfl⟩ := List.mem_map.1 ht
   exact Int.natCast_nonneg _
  obtain ⟨N, hN⟩ : ∃ N, tks.length = N := ⟨_, rfl⟩
  have HLN : Hid ((tks.map Tk.ti).length = N) := by show _ = _; simp [hN]
  rw [hN] at HK hST hfew ⊢
  clear hK hb hR hN HTK hgb hgl hlc hcm x0 xf y0 yf HOWN HEV HB2 HB3 HF1 hz2 hz3 hwz Hq
  go_loopg [] (N + 1) (fun q W => ∃ (o c : Nat) (m : List TI) (v : Value) (css : List (List Value)) (A : List Ru), Hid (PaSt w b R g o c m v css A W) ∧ Hid (Ends m) ∧ Hid (Pol.NN m) ∧ Hid (m.length < q ∧ A.length + m.length ≤ N) ∧ Hid (K = Pol.rules q (6 * N + 7) A m))
  case atStart => exact ⟨_, _, _, _, _, _, hST.out, HE.out, HNN.out, ⟨by have := HLN.out; omega, by have := HLN.out; simp only [List.length_nil]; omega⟩, HK.out.symm⟩
  case round =>
   clear hST HE HNN HLN HK
   obtain ⟨o, c, m, v, css, A, H, HE, HNN, HLL, HK⟩ := hrel
   obtain ⟨t, l1, rfl⟩ := HE.out.cons
   cases gk with
   | zero => exact absurd HLL.out.1 (by omega)
   | succ q =>
    obtain ⟨tk, ts, tn, tp⟩ := t
    obtain ⟨qv, qc, rfl⟩ := own_form H.out.own
    have a0 : wr.cell? ⟨g, o, none⟩ = some (.int .i64 tk) := by have h9 := (H.out.rd.tk 0 _ rfl).1; simpa using h9
    have c0 := H.out.rd.c0
    have hlc := H.out.rd.lc
    have hm := H.out.rd.cm
    have hne := H.out.rd.ne
    rw [List.length_cons] at c0 hlc
    unfold maxLen at hm
    have xf : ∀ i, wr.frozen? ⟨b, i, none⟩ = false := fun i => Lib.frozen_of_heap H.out.b2 i
    have x0 : wr.cell? ⟨b, 0, none⟩ = some (.slice qv A.length qc) := by rw [Lib.cell_of_heap H.out.b2]; rfl
    have yf : ∀ i, wr.frozen? ⟨(b + 1), i, none⟩ = false := fun i => Lib.frozen_of_heap H.out.b3 i
    have y0 : wr.cell? ⟨(b + 1), 0, none⟩ = some (.nilIface) := by rw [Lib.cell_of_heap H.out.b3]; rfl
    by_cases h5 : tk = 5
    ·have HK5 : Hid (K = .ok A) := by show _ = _; rw [HK.out, Pol.rules, if_pos h5]
     subst h5
     have h55 : ((5 : Int) != 5) = false := rfl
     have hx2 := H.out.b2
     have hx3 := H.out.b3
     clear hx2 hx3
     have HZ := Lib.hid H.out.laid
     go_wp2_with fail
     obtain ⟨Z, hZ⟩ : ∃ Z, (wr.setCell ⟨b, 0, none⟩ (.slice qv A.length qc)).setCell ⟨b + 1, 0, none⟩ .nilIface = Z := ⟨_, rfl⟩
     rw [hZ] at HZ ⊢
     clear hZ
     refine leaves_cons (f := 54) (args := #[.pointer (some ⟨b, 0, none⟩), .pointer (some ⟨b + 1, 0, none⟩)]) (by simp) (by simp [go_sem]) ?_
     refine (catch_idle b (b + 1) Z).mono ?_
     rintro e u' w'' ⟨rfl, rfl, rfl⟩
     refine ⟨.tuple #[.slice qv A.length qc, .nilIface], parse_res _ _ b qv A.length qc .nilIface rfl rfl HZ.out.b2 HZ.out.b3, _, _, rfl, ?_⟩
     rw [HPP.out, HK5.out]
     exact ⟨HZ.out.out, rfl, HZ.out.f⟩
    ·have h55 : (tk != 5) = true := by simpa using h5
     have HN5 := Lib.hid h5
     clear h5
     by_cases h16 : A.length = 16
     ·have e16 : ((A.length : Int) == 16) = true := beq_iff_eq.2 (by omega)
      have H16 := Lib.hid h16
      clear h16
      cases hp1 : Pol.is (⟨tk, ts, tn, tp⟩ :: l1) 1 [112, 101, 114, 109, 105, 116] with
      | true =>
       have HK5 : Hid (K = .error (tp, 132)) := by show _ = _; rw [HK.out, Pol.rules, if_neg HN5.out, if_pos ⟨H16.out, Or.inl hp1⟩]
       have HP1 := Lib.hid hp1
       clear hp1
       have HN1 := Lib.hid (rd_next_is wr R g _ _ _ _ 0 1 ⟨#[112, 101, 114, 109, 105, 116]⟩ true H.out.rd HP1.out)
       have HN3 := Lib.hid (rd_fail wr R g _ _ _ _ 0 132 H.out.rd)
       go_wp2_with fail
       refine HN1.out.mono ?_
       rintro e w2 ⟨rfl, rfl⟩
       go_wp2_with fail
       refine HN3.out.mono ?_
       intro e W9 hs
       obtain ⟨b9, hb9, rfl, hrow9, hf9⟩ := hs
       show _
       go_wp2_with fail
       have hk2 := hf9.row H.out.b2 (by have := H.out.bR; simp <;> omega)
       have hk3 := hf9.row H.out.b3 (by have := H.out.bR; simp <;> omega)
       refine leaves_cons (f := 54) (args := #[.pointer (some ⟨b, 0, none⟩), .pointer (some ⟨b + 1, 0, none⟩)]) (by simp) (by simp [go_sem]) ?_
       refine (catch_stop b (b + 1) b9 [] _ W9 hk2 hk3 (by omega)).mono ?_
       rintro e u' Z ⟨rfl, rfl, k2, k3, k4⟩
       refine ⟨.tuple #[.slice none 0 0, .iface 70 (.pointer (some ⟨b9, 0, none⟩))], parse_res _ _ b none 0 0 _ rfl rfl k2 k3, _, _, rfl, ?_⟩
       rw [HPP.out, HK5.out]
       exact H.out.stopped hb9 hrow9 (hf9.sub) k4 (⟨HNN.out ⟨tk, ts, tn, tp⟩ (by simp), by decide⟩)
      | false =>
       have HP1 := Lib.hid hp1
       clear hp1
       have HN1 := Lib.hid (rd_next_is wr R g _ _ _ _ 0 1 ⟨#[112, 101, 114, 109, 105, 116]⟩ false H.out.rd HP1.out)
       cases hp2 : Pol.is (⟨tk, ts, tn, tp⟩ :: l1) 1 [100, 101, 110, 121] with
       | true =>
        have HK5 : Hid (K = .error (tp, 132)) := by show _ = _; rw [HK.out, Pol.rules, if_neg HN5.out, if_pos ⟨H16.out, Or.inr hp2⟩]
        have HP2 := Lib.hid hp2
        clear hp2
        have HN2 := Lib.hid (rd_next_is wr R g _ _ _ _ 0 1 ⟨#[100, 101, 110, 121]⟩ true H.out.rd HP2.out)
        have HN3 := Lib.hid (rd_fail wr R g _ _ _ _ 0 132 H.out.rd)
        go_wp2_with fail
        refine HN1.out.mono ?_
        rintro e w2 ⟨rfl, rfl⟩
        go_wp2_with fail
        refine HN2.out.mono ?_
        rintro e w2 ⟨rfl, rfl⟩
        go_wp2_with fail
        refine HN3.out.mono ?_
        intro e W9 hs
        obtain ⟨b9, hb9, rfl, hrow9, hf9⟩ := hs
        show _
        go_wp2_with fail
        have hk2 := hf9.row H.out.b2 (by have := H.out.bR; simp <;> omega)
        have hk3 := hf9.row H.out.b3 (by have := H.out.bR; simp <;> omega)
        refine leaves_cons (f := 54) (args := #[.pointer (some ⟨b, 0, none⟩), .pointer (some ⟨b + 1, 0, none⟩)]) (by simp) (by simp [go_sem]) ?_
        refine (catch_stop b (b + 1) b9 [] _ W9 hk2 hk3 (by omega)).mono ?_
        rintro e u' Z ⟨rfl, rfl, k2, k3, k4⟩
        refine ⟨.tuple #[.slice none 0 0, .iface 70 (.pointer (some ⟨b9, 0, none⟩))], parse_res _ _ b none 0 0 _ rfl rfl k2 k3, _, _, rfl, ?_⟩
        rw [HPP.out, HK5.out]
        exact H.out.stopped hb9 hrow9 (hf9.sub) k4 (⟨HNN.out ⟨tk, ts, tn, tp⟩ (by simp), by decide⟩)
       | false =>
        have HK5 : Hid (K = match Pol.rule (6 * N + 7) (⟨tk, ts, tn, tp⟩ :: l1) with | .error e => .error e | .ok (x, m) => Pol.rules q (6 * N + 7) (A ++ [x]) m) := by show _ = _; rw [HK.out, Pol.rules, if_neg HN5.out, if_neg (by rw [HP1.out, hp2]; simp)]; try (rcases Pol.rule (6 * N + 7) (⟨tk, ts, tn, tp⟩ :: l1) with e | ⟨x, m⟩ <;> rfl)
        have HP2 := Lib.hid hp2
        clear hp2
        have HN2 := Lib.hid (rd_next_is wr R g _ _ _ _ 0 1 ⟨#[100, 101, 110, 121]⟩ false H.out.rd HP2.out)
        go_wp2_with fail
        refine HN1.out.mono ?_
        rintro e w2 ⟨rfl, rfl⟩
        go_wp2_with fail
        refine HN2.out.mono ?_
        rintro e w2 ⟨rfl, rfl⟩
        clear HN1 HN2
        go_wp2_with fail
        have HLN := Lib.hid HLL.out.2
        have HRL : Hid (∀ U o c, PaSt w b R g o c (⟨tk, ts, tn, tp⟩ :: l1) (.slice qv A.length qc) css A U → Calls Tryd.prog 57 #[.pointer (some ⟨R, 0, none⟩)] U (RuleDone R g 0 U (Pol.rule (6 * N + 7) (⟨tk, ts, tn, tp⟩ :: l1)))) := fun U o c h =>
         rule_all (6 * N + 6) U R g o c _ h.rd HE.out (Pol.rule_fed (by have := HLN.out; simp only [List.length_cons] at this ⊢; omega))
        have HNT := Lib.hid (Pol.rule_nat (6 * N + 7) (⟨tk, ts, tn, tp⟩ :: l1) HNN.out)
        have HLE : Hid (∀ x m, Pol.rule (6 * N + 7) (⟨tk, ts, tn, tp⟩ :: l1) = .ok (x, m) → m.length < (⟨tk, ts, tn, tp⟩ :: l1).length ∧ Ends m) := fun x m h => ⟨(Pol.rule_len h).1, (Pol.rule_len h).2 HE.out⟩
        obtain ⟨qq, hqq⟩ : ∃ qq, Pol.rule (6 * N + 7) (⟨tk, ts, tn, tp⟩ :: l1) = qq := ⟨_, rfl⟩
        rw [hqq] at HRL HNT HLE HK5
        clear hqq
        have H0 := Lib.hid (H.out.fr (Fr.refl [] _).drew)
        cases qq with
        | error pe =>
         obtain ⟨pp, pn⟩ := pe
         have HK5 : Hid (K = .error (pp, pn)) := HK5.out
         have HPN := Lib.hid (HNT.out.2 pp pn rfl)
         have H := H0
         refine wp_region_held_drew (S := fun _ => True) (by kernel_rfl) (trivial) (fun hHeld => ?_)
         refine wpAnyH_ready (rs := [0, 1]) (by kernel_rfl) (by simp) ?_
         refine AllReadyH.cons rfl (fun K hK => ?_) (AllReadyH.cons rfl (fun K hK => ?_) AllReadyH.nil)
         ·go_simp
          refine hK.out _ _ (trivial) (fun hHeld => ?_)
          clear hK K
          try simp only [Act.put, List.setIfInBounds_toArray, List.set_cons_zero, List.set_cons_succ]
          refine wpAnyH_ready (rs := [1]) (by kernel_rfl) (by simp) ?_
          refine AllReadyH.cons rfl (fun K hK => ?_) AllReadyH.nil
          go_simp
          refine hK.out _ _ (trivial) (fun hHeld => ?_)
          clear hK K
          try simp only [Act.put, List.setIfInBounds_toArray, List.set_cons_zero, List.set_cons_succ]
          refine wpAnyH_ready (rs := [2]) (by kernel_rfl) (by simp) ?_
          refine AllReadyH.cons rfl (fun K hK => ?_) AllReadyH.nil
          go_simp
          go_at_call 57
          refine (HRL.out _ _ _ H0.out).mono ?_
          intro e W9 hd
          have hs : Stops [R] _ pp pn e W9 := hd
          obtain ⟨b9, hb9, rfl, hrow9, hf9⟩ := hs
          show _
          go_wp2_with fail
          have hk2 := hf9.row H.out.b2 (by have := H.out.bR; simp <;> omega)
          have hk3 := hf9.row H.out.b3 (by have := H.out.bR; simp <;> omega)
          refine leaves_cons (f := 54) (args := #[.pointer (some ⟨b, 0, none⟩), .pointer (some ⟨b + 1, 0, none⟩)]) (by simp) (by simp [go_sem]) ?_
          refine (catch_stop b (b + 1) b9 [] _ W9 hk2 hk3 (by omega)).mono ?_
          rintro e u' Z ⟨rfl, rfl, k2, k3, k4⟩
          refine ⟨.tuple #[.slice none 0 0, .iface 70 (.pointer (some ⟨b9, 0, none⟩))], parse_res _ _ b none 0 0 _ rfl rfl k2 k3, _, _, rfl, ?_⟩
          rw [HPP.out, HK5.out]
          exact H.out.stopped hb9 hrow9 (hf9) k4 (HPN.out)
         ·go_simp
          refine hK.out _ _ (trivial) (fun hHeld => ?_)
          clear hK K
          try simp only [Act.put, List.setIfInBounds_toArray, List.set_cons_zero, List.set_cons_succ]
          refine wpAnyH_ready (rs := [0, 2]) (by kernel_rfl) (by simp) ?_
          refine AllReadyH.cons rfl (fun K hK => ?_) (AllReadyH.cons rfl (fun K hK => ?_) AllReadyH.nil)
          ·go_simp
           refine hK.out _ _ (trivial) (fun hHeld => ?_)
           clear hK K
           try simp only [Act.put, List.setIfInBounds_toArray, List.set_cons_zero, List.set_cons_succ]
           refine wpAnyH_ready (rs := [2]) (by kernel_rfl) (by simp) ?_
           refine AllReadyH.cons rfl (fun K hK => ?_) AllReadyH.nil
           go_simp
           go_at_call 57
           refine (HRL.out _ _ _ H0.out).mono ?_
           intro e W9 hd
           have hs : Stops [R] _ pp pn e W9 := hd
           obtain ⟨b9, hb9, rfl, hrow9, hf9⟩ := hs
           show _
           go_wp2_with fail
           have hk2 := hf9.row H.out.b2 (by have := H.out.bR; simp <;> omega)
           have hk3 := hf9.row H.out.b3 (by have := H.out.bR; simp <;> omega)
           refine leaves_cons (f := 54) (args := #[.pointer (some ⟨b, 0, none⟩), .pointer (some ⟨b + 1, 0, none⟩)]) (by simp) (by simp [go_sem]) ?_
           refine (catch_stop b (b + 1) b9 [] _ W9 hk2 hk3 (by omega)).mono ?_
           rintro e u' Z ⟨rfl, rfl, k2, k3, k4⟩
           refine ⟨.tuple #[.slice none 0 0, .iface 70 (.pointer (some ⟨b9, 0, none⟩))], parse_res _ _ b none 0 0 _ rfl rfl k2 k3, _, _, rfl, ?_⟩
           rw [HPP.out, HK5.out]
           exact H.out.stopped hb9 hrow9 (hf9) k4 (HPN.out)
          ·go_simp
           go_at_call 57
           refine (HRL.out _ _ _ H0.out).mono ?_
           intro e W9 hd
           have hs : Stops [R] _ pp pn e W9 := hd
           obtain ⟨b9, hb9, rfl, hrow9, hf9⟩ := hs
           show _
           go_wp2_with fail
           have hk2 := hf9.row H.out.b2 (by have := H.out.bR; simp <;> omega)
           have hk3 := hf9.row H.out.b3 (by have := H.out.bR; simp <;> omega)
           refine leaves_cons (f := 54) (args := #[.pointer (some ⟨b, 0, none⟩), .pointer (some ⟨b + 1, 0, none⟩)]) (by simp) (by simp [go_sem]) ?_
           refine (catch_stop b (b + 1) b9 [] _ W9 hk2 hk3 (by omega)).mono ?_
           rintro e u' Z ⟨rfl, rfl, k2, k3, k4⟩
           refine ⟨.tuple #[.slice none 0 0, .iface 70 (.pointer (some ⟨b9, 0, none⟩))], parse_res _ _ b none 0 0 _ rfl rfl k2 k3, _, _, rfl, ?_⟩
           rw [HPP.out, HK5.out]
           exact H.out.stopped hb9 hrow9 (hf9) k4 (HPN.out)
        | ok xm =>
         obtain ⟨x9, m9⟩ := xm
         have HK6 : Hid (K = Pol.rules q (6 * N + 7) (A ++ [x9]) m9) := HK5.out
         have HEM := Lib.hid (HLE.out x9 m9 rfl)
         have HNM := Lib.hid (HNT.out.1 x9 m9 rfl)
         refine wp_region_held_drew (S := fun _ => True) (by kernel_rfl) (trivial) (fun hHeld => ?_)
         refine wpAnyH_ready (rs := [0, 1]) (by kernel_rfl) (by simp) ?_
         refine AllReadyH.cons rfl (fun K hK => ?_) (AllReadyH.cons rfl (fun K hK => ?_) AllReadyH.nil)
         ·go_simp
          refine hK.out _ _ (trivial) (fun hHeld => ?_)
          clear hK K
          try simp only [Act.put, List.setIfInBounds_toArray, List.set_cons_zero, List.set_cons_succ]
          refine wpAnyH_ready (rs := [1]) (by kernel_rfl) (by simp) ?_
          refine AllReadyH.cons rfl (fun K hK => ?_) AllReadyH.nil
          go_simp
          refine hK.out _ _ (trivial) (fun hHeld => ?_)
          clear hK K
          try simp only [Act.put, List.setIfInBounds_toArray, List.set_cons_zero, List.set_cons_succ]
          refine wpAnyH_ready (rs := [2]) (by kernel_rfl) (by simp) ?_
          refine AllReadyH.cons rfl (fun K hK => ?_) AllReadyH.nil
          go_simp
          go_at_call 57
          refine (HRL.out _ _ _ H0.out).mono ?_
          rintro e w3 ⟨cs, rfl, hrep, hf3, o3, c3, hr3⟩
          obtain ⟨q1, k1, c1, q2, k2, c2, rfl⟩ := hrep.form
          have H3 := Lib.hid (H0.out.step hf3 hr3)
          have HX3 : Hid (RuRep w3 (fun i => R + 1 ≤ i ∧ (Value.slice qv A.length qc).ownBlock ≠ some i) [.bool x9.deny, .slice q1 k1 c1, .slice q2 k2 c2, .int .i64 x9.p] x9) := hrep.mono (fun i hi h => by
           have h9 : wr.heap.size ≤ i := h
           have h8 := row_lt H.out.rd.row
           exact ⟨by omega, fun h7 => by have := own_lt H.out.own _ h7; omega⟩)
          clear hrep hf3 hr3 x0 xf
          refine hK.out _ _ (trivial) (fun hHeld => ?_)
          clear hK K
          try simp only [Act.put, List.setIfInBounds_toArray, List.set_cons_zero, List.set_cons_succ]
          refine wpAnyH_ready (rs := [3]) (by kernel_rfl) (by simp) ?_
          refine AllReadyH.cons rfl (fun K hK => ?_) AllReadyH.nil
          go_simp
          refine hK.out _ _ (trivial) (fun hHeld => ?_)
          clear hK K
          try simp only [Act.put, List.setIfInBounds_toArray, List.set_cons_zero, List.set_cons_succ]
          have hbw4 : b < w3.heap.size := row_lt H3.out.b2
          refine wpAnyH_fresh (fun U => PaSt w b R g o3 c3 m9 (.slice qv A.length qc) css A U ∧ U.heap[w3.heap.size]? = some (.cells #[.bool x9.deny, .slice q1 k1 c1, .slice q2 k2 c2, .int .i64 x9.p] 78 (0, 0)) ∧ RuRep U (fun i => R + 1 ≤ i ∧ (Value.slice qv A.length qc).ownBlock ≠ some i) [.bool x9.deny, .slice q1 k1 c1, .slice q2 k2 c2, .int .i64 x9.p] x9) ⟨H3.out.fr ((Fr.refl [] _).alloc _), heap_alloc_last _ _, HX3.out.fr ((Fr.refl [] _).alloc _) (fun y hy _ => by cases hy)⟩ ?_
          rintro U ⟨hu1, hu2, hu3⟩
          have HU1 := Lib.hid hu1
          have hownA := hu1.own
          have hnews := World.news_of_block hu2
          have hR9 := row_lt hu1.rd.row
          have hA9 : A.length ≤ 513 := by have := HLN.out; omega
          obtain ⟨i0, hi, hz0, hz1', hz2'⟩ := info_parts infoRu
          refine wpAnyH_ready (rs := [4]) (by kernel_rfl) (by simp) ?_
          refine AllReadyH.cons rfl (fun K hK => ?_) AllReadyH.nil
          refine step_append_lies U (by rfl) (.tmp 39) (.tmp 42) _ (by rfl) (R + 1) 78 i0 _ 4 64 Tryd.underlying43 hi hz0 hz1' hz2' rfl (by decide) _ A.length _ (by rfl) hownA _ 1 1 [.bool x9.deny, .slice q1 k1 c1, .slice q2 k2 c2, .int .i64 x9.p] (by rfl) rfl hnews (by simp [Value.oneCell']) (by decide) (by unfold maxLen; omega) (by omega) (by omega) _ rfl ?_
          intro g9 cap9 w9 ho hg hgg hgl
          have HG := Lib.hid (hu1.grow hu3 ho hg (hgg.imp id (fun h => by rw [h]; exact Nat.le_refl _)))
          have hb9 := (Fr.of_grown hg).row hu1.b2 (fun hc => by have := hu1.own_base b (by simpa using hc); have := hu1.bR; omega)
          have HB9 := Lib.hid hb9
          clear hu1 hu2 hu3 hownA hnews ho hg hgg hb9 hR9 hz0 hz1' hz2' hi
          refine hK.out _ _ (trivial) (fun hHeld => ?_)
          clear hK K
          try simp only [Act.put, List.setIfInBounds_toArray, List.set_cons_zero, List.set_cons_succ]
          have uf : ∀ i, w9.frozen? ⟨b, i, none⟩ = false := fun i => Lib.frozen_of_heap HB9.out i
          have u0 : w9.cell? ⟨b, 0, none⟩ = some (.slice qv A.length qc) := by rw [Lib.cell_of_heap HB9.out]; rfl
          refine wpAnyH_ready (rs := [5]) (by kernel_rfl) (by simp) ?_
          refine AllReadyH.cons rfl (fun K hK => ?_) AllReadyH.nil
          go_simp
          refine hK.out _ _ (trivial) (fun hHeld => ?_)
          clear hK K
          try simp only [Act.put, List.setIfInBounds_toArray, List.set_cons_zero, List.set_cons_succ]
          refine wpAnyH_done (by kernel_rfl) ?_ _
          go_wp2_with fail
          go_roundg q
          case measure => omega
          case rel => exact ⟨o3, c3, m9, _, _, A ++ [x9], HG.out, HEM.out.2, HNM.out, ⟨by have := HEM.out.1; have := HLL.out.1; simp only [List.length_cons] at *; omega, by have := HEM.out.1; have := HLN.out; simp only [List.length_cons, List.length_append, List.length_nil] at *; omega⟩, HK6.out⟩
         ·go_simp
          refine hK.out _ _ (trivial) (fun hHeld => ?_)
          clear hK K
          try simp only [Act.put, List.setIfInBounds_toArray, List.set_cons_zero, List.set_cons_succ]
          refine wpAnyH_ready (rs := [0, 2]) (by kernel_rfl) (by simp) ?_
          refine AllReadyH.cons rfl (fun K hK => ?_) (AllReadyH.cons rfl (fun K hK => ?_) AllReadyH.nil)
          ·go_simp
           refine hK.out _ _ (trivial) (fun hHeld => ?_)
           clear hK K
           try simp only [Act.put, List.setIfInBounds_toArray, List.set_cons_zero, List.set_cons_succ]
           refine wpAnyH_ready (rs := [2]) (by kernel_rfl) (by simp) ?_
           refine AllReadyH.cons rfl (fun K hK => ?_) AllReadyH.nil
           go_simp
           go_at_call 57
           refine (HRL.out _ _ _ H0.out).mono ?_
           rintro e w3 ⟨cs, rfl, hrep, hf3, o3, c3, hr3⟩
           obtain ⟨q1, k1, c1, q2, k2, c2, rfl⟩ := hrep.form
           have H3 := Lib.hid (H0.out.step hf3 hr3)
           have HX3 : Hid (RuRep w3 (fun i => R + 1 ≤ i ∧ (Value.slice qv A.length qc).ownBlock ≠ some i) [.bool x9.deny, .slice q1 k1 c1, .slice q2 k2 c2, .int .i64 x9.p] x9) := hrep.mono (fun i hi h => by
            have h9 : wr.heap.size ≤ i := h
            have h8 := row_lt H.out.rd.row
            exact ⟨by omega, fun h7 => by have := own_lt H.out.own _ h7; omega⟩)
           clear hrep hf3 hr3 x0 xf
           refine hK.out _ _ (trivial) (fun hHeld => ?_)
           clear hK K
           try simp only [Act.put, List.setIfInBounds_toArray, List.set_cons_zero, List.set_cons_succ]
           refine wpAnyH_ready (rs := [3]) (by kernel_rfl) (by simp) ?_
           refine AllReadyH.cons rfl (fun K hK => ?_) AllReadyH.nil
           go_simp
           refine hK.out _ _ (trivial) (fun hHeld => ?_)
           clear hK K
           try simp only [Act.put, List.setIfInBounds_toArray, List.set_cons_zero, List.set_cons_succ]
           have hbw4 : b < w3.heap.size := row_lt H3.out.b2
           refine wpAnyH_fresh (fun U => PaSt w b R g o3 c3 m9 (.slice qv A.length qc) css A U ∧ U.heap[w3.heap.size]? = some (.cells #[.bool x9.deny, .slice q1 k1 c1, .slice q2 k2 c2, .int .i64 x9.p] 78 (0, 0)) ∧ RuRep U (fun i => R + 1 ≤ i ∧ (Value.slice qv A.length qc).ownBlock ≠ some i) [.bool x9.deny, .slice q1 k1 c1, .slice q2 k2 c2, .int .i64 x9.p] x9) ⟨H3.out.fr ((Fr.refl [] _).alloc _), heap_alloc_last _ _, HX3.out.fr ((Fr.refl [] _).alloc _) (fun y hy _ => by cases hy)⟩ ?_
           rintro U ⟨hu1, hu2, hu3⟩
           have HU1 := Lib.hid hu1
           have hownA := hu1.own
           have hnews := World.news_of_block hu2
           have hR9 := row_lt hu1.rd.row
           have hA9 : A.length ≤ 513 := by have := HLN.out; omega
           obtain ⟨i0, hi, hz0, hz1', hz2'⟩ := info_parts infoRu
           refine wpAnyH_ready (rs := [4]) (by kernel_rfl) (by simp) ?_
           refine AllReadyH.cons rfl (fun K hK => ?_) AllReadyH.nil
           refine step_append_lies U (by rfl) (.tmp 39) (.tmp 42) _ (by rfl) (R + 1) 78 i0 _ 4 64 Tryd.underlying43 hi hz0 hz1' hz2' rfl (by decide) _ A.length _ (by rfl) hownA _ 1 1 [.bool x9.deny, .slice q1 k1 c1, .slice q2 k2 c2, .int .i64 x9.p] (by rfl) rfl hnews (by simp [Value.oneCell']) (by decide) (by unfold maxLen; omega) (by omega) (by omega) _ rfl ?_
           intro g9 cap9 w9 ho hg hgg hgl
           have HG := Lib.hid (hu1.grow hu3 ho hg (hgg.imp id (fun h => by rw [h]; exact Nat.le_refl _)))
           have hb9 := (Fr.of_grown hg).row hu1.b2 (fun hc => by have := hu1.own_base b (by simpa using hc); have := hu1.bR; omega)
           have HB9 := Lib.hid hb9
           clear hu1 hu2 hu3 hownA hnews ho hg hgg hb9 hR9 hz0 hz1' hz2' hi
           refine hK.out _ _ (trivial) (fun hHeld => ?_)
           clear hK K
           try simp only [Act.put, List.setIfInBounds_toArray, List.set_cons_zero, List.set_cons_succ]
           have uf : ∀ i, w9.frozen? ⟨b, i, none⟩ = false := fun i => Lib.frozen_of_heap HB9.out i
           have u0 : w9.cell? ⟨b, 0, none⟩ = some (.slice qv A.length qc) := by rw [Lib.cell_of_heap HB9.out]; rfl
           refine wpAnyH_ready (rs := [5]) (by kernel_rfl) (by simp) ?_
           refine AllReadyH.cons rfl (fun K hK => ?_) AllReadyH.nil
           go_simp
           refine hK.out _ _ (trivial) (fun hHeld => ?_)
           clear hK K
           try simp only [Act.put, List.setIfInBounds_toArray, List.set_cons_zero, List.set_cons_succ]
           refine wpAnyH_done (by kernel_rfl) ?_ _
           go_wp2_with fail
           go_roundg q
           case measure => omega
           case rel => exact ⟨o3, c3, m9, _, _, A ++ [x9], HG.out, HEM.out.2, HNM.out, ⟨by have := HEM.out.1; have := HLL.out.1; simp only [List.length_cons] at *; omega, by have := HEM.out.1; have := HLN.out; simp only [List.length_cons, List.length_append, List.length_nil] at *; omega⟩, HK6.out⟩
          ·go_simp
           go_at_call 57
           refine (HRL.out _ _ _ H0.out).mono ?_
           rintro e w3 ⟨cs, rfl, hrep, hf3, o3, c3, hr3⟩
           obtain ⟨q1, k1, c1, q2, k2, c2, rfl⟩ := hrep.form
           have H3 := Lib.hid (H0.out.step hf3 hr3)
           have HX3 : Hid (RuRep w3 (fun i => R + 1 ≤ i ∧ (Value.slice qv A.length qc).ownBlock ≠ some i) [.bool x9.deny, .slice q1 k1 c1, .slice q2 k2 c2, .int .i64 x9.p] x9) := hrep.mono (fun i hi h => by
            have h9 : wr.heap.size ≤ i := h
            have h8 := row_lt H.out.rd.row
            exact ⟨by omega, fun h7 => by have := own_lt H.out.own _ h7; omega⟩)
           clear hrep hf3 hr3 x0 xf
           refine hK.out _ _ (trivial) (fun hHeld => ?_)
           clear hK K
           try simp only [Act.put, List.setIfInBounds_toArray, List.set_cons_zero, List.set_cons_succ]
           have xf : ∀ i, w3.frozen? ⟨b, i, none⟩ = false := fun i => Lib.frozen_of_heap H3.out.b2 i
           have x0 : w3.cell? ⟨b, 0, none⟩ = some (.slice qv A.length qc) := by rw [Lib.cell_of_heap H3.out.b2]; rfl
           refine wpAnyH_ready (rs := [0, 3]) (by kernel_rfl) (by simp) ?_
           refine AllReadyH.cons rfl (fun K hK => ?_) (AllReadyH.cons rfl (fun K hK => ?_) AllReadyH.nil)
           ·go_simp
            refine hK.out _ _ (trivial) (fun hHeld => ?_)
            clear hK K
            try simp only [Act.put, List.setIfInBounds_toArray, List.set_cons_zero, List.set_cons_succ]
            refine wpAnyH_ready (rs := [3]) (by kernel_rfl) (by simp) ?_
            refine AllReadyH.cons rfl (fun K hK => ?_) AllReadyH.nil
            go_simp
            refine hK.out _ _ (trivial) (fun hHeld => ?_)
            clear hK K
            try simp only [Act.put, List.setIfInBounds_toArray, List.set_cons_zero, List.set_cons_succ]
            have hbw4 : b < w3.heap.size := row_lt H3.out.b2
            refine wpAnyH_fresh (fun U => PaSt w b R g o3 c3 m9 (.slice qv A.length qc) css A U ∧ U.heap[w3.heap.size]? = some (.cells #[.bool x9.deny, .slice q1 k1 c1, .slice q2 k2 c2, .int .i64 x9.p] 78 (0, 0)) ∧ RuRep U (fun i => R + 1 ≤ i ∧ (Value.slice qv A.length qc).ownBlock ≠ some i) [.bool x9.deny, .slice q1 k1 c1, .slice q2 k2 c2, .int .i64 x9.p] x9) ⟨H3.out.fr ((Fr.refl [] _).alloc _), heap_alloc_last _ _, HX3.out.fr ((Fr.refl [] _).alloc _) (fun y hy _ => by cases hy)⟩ ?_
            rintro U ⟨hu1, hu2, hu3⟩
            have HU1 := Lib.hid hu1
            have hownA := hu1.own
            have hnews := World.news_of_block hu2
            have hR9 := row_lt hu1.rd.row
            have hA9 : A.length ≤ 513 := by have := HLN.out; omega
            obtain ⟨i0, hi, hz0, hz1', hz2'⟩ := info_parts infoRu
            refine wpAnyH_ready (rs := [4]) (by kernel_rfl) (by simp) ?_
            refine AllReadyH.cons rfl (fun K hK => ?_) AllReadyH.nil
            refine step_append_lies U (by rfl) (.tmp 39) (.tmp 42) _ (by rfl) (R + 1) 78 i0 _ 4 64 Tryd.underlying43 hi hz0 hz1' hz2' rfl (by decide) _ A.length _ (by rfl) hownA _ 1 1 [.bool x9.deny, .slice q1 k1 c1, .slice q2 k2 c2, .int .i64 x9.p] (by rfl) rfl hnews (by simp [Value.oneCell']) (by decide) (by unfold maxLen; omega) (by omega) (by omega) _ rfl ?_
            intro g9 cap9 w9 ho hg hgg hgl
            have HG := Lib.hid (hu1.grow hu3 ho hg (hgg.imp id (fun h => by rw [h]; exact Nat.le_refl _)))
            have hb9 := (Fr.of_grown hg).row hu1.b2 (fun hc => by have := hu1.own_base b (by simpa using hc); have := hu1.bR; omega)
            have HB9 := Lib.hid hb9
            clear hu1 hu2 hu3 hownA hnews ho hg hgg hb9 hR9 hz0 hz1' hz2' hi
            refine hK.out _ _ (trivial) (fun hHeld => ?_)
            clear hK K
            try simp only [Act.put, List.setIfInBounds_toArray, List.set_cons_zero, List.set_cons_succ]
            have uf : ∀ i, w9.frozen? ⟨b, i, none⟩ = false := fun i => Lib.frozen_of_heap HB9.out i
            have u0 : w9.cell? ⟨b, 0, none⟩ = some (.slice qv A.length qc) := by rw [Lib.cell_of_heap HB9.out]; rfl
            refine wpAnyH_ready (rs := [5]) (by kernel_rfl) (by simp) ?_
            refine AllReadyH.cons rfl (fun K hK => ?_) AllReadyH.nil
            go_simp
            refine hK.out _ _ (trivial) (fun hHeld => ?_)
            clear hK K
            try simp only [Act.put, List.setIfInBounds_toArray, List.set_cons_zero, List.set_cons_succ]
            refine wpAnyH_done (by kernel_rfl) ?_ _
            go_wp2_with fail
            go_roundg q
            case measure => omega
            case rel => exact ⟨o3, c3, m9, _, _, A ++ [x9], HG.out, HEM.out.2, HNM.out, ⟨by have := HEM.out.1; have := HLL.out.1; simp only [List.length_cons] at *; omega, by have := HEM.out.1; have := HLN.out; simp only [List.length_cons, List.length_append, List.length_nil] at *; omega⟩, HK6.out⟩
           ·go_simp
            refine hK.out _ _ (trivial) (fun hHeld => ?_)
            clear hK K
            try simp only [Act.put, List.setIfInBounds_toArray, List.set_cons_zero, List.set_cons_succ]
            have hbw3 : b < w3.heap.size := row_lt H3.out.b2
            refine wpAnyH_ready (rs := [0]) (by kernel_rfl) (by simp) ?_
            refine AllReadyH.cons rfl (fun K hK => ?_) AllReadyH.nil
            go_simp
            refine hK.out _ _ (trivial) (fun hHeld => ?_)
            clear hK K
            try simp only [Act.put, List.setIfInBounds_toArray, List.set_cons_zero, List.set_cons_succ]
            have hbw4 : b < w3.heap.size := row_lt H3.out.b2
            refine wpAnyH_fresh (fun U => PaSt w b R g o3 c3 m9 (.slice qv A.length qc) css A U ∧ U.heap[w3.heap.size]? = some (.cells #[.bool x9.deny, .slice q1 k1 c1, .slice q2 k2 c2, .int .i64 x9.p] 78 (0, 0)) ∧ RuRep U (fun i => R + 1 ≤ i ∧ (Value.slice qv A.length qc).ownBlock ≠ some i) [.bool x9.deny, .slice q1 k1 c1, .slice q2 k2 c2, .int .i64 x9.p] x9) ⟨H3.out.fr ((Fr.refl [] _).alloc _), heap_alloc_last _ _, HX3.out.fr ((Fr.refl [] _).alloc _) (fun y hy _ => by cases hy)⟩ ?_
            rintro U ⟨hu1, hu2, hu3⟩
            have HU1 := Lib.hid hu1
            have hownA := hu1.own
            have hnews := World.news_of_block hu2
            have hR9 := row_lt hu1.rd.row
            have hA9 : A.length ≤ 513 := by have := HLN.out; omega
            obtain ⟨i0, hi, hz0, hz1', hz2'⟩ := info_parts infoRu
            refine wpAnyH_ready (rs := [4]) (by kernel_rfl) (by simp) ?_
            refine AllReadyH.cons rfl (fun K hK => ?_) AllReadyH.nil
            refine step_append_lies U (by rfl) (.tmp 39) (.tmp 42) _ (by rfl) (R + 1) 78 i0 _ 4 64 Tryd.underlying43 hi hz0 hz1' hz2' rfl (by decide) _ A.length _ (by rfl) hownA _ 1 1 [.bool x9.deny, .slice q1 k1 c1, .slice q2 k2 c2, .int .i64 x9.p] (by rfl) rfl hnews (by simp [Value.oneCell']) (by decide) (by unfold maxLen; omega) (by omega) (by omega) _ rfl ?_
            intro g9 cap9 w9 ho hg hgg hgl
            have HG := Lib.hid (hu1.grow hu3 ho hg (hgg.imp id (fun h => by rw [h]; exact Nat.le_refl _)))
            have hb9 := (Fr.of_grown hg).row hu1.b2 (fun hc => by have := hu1.own_base b (by simpa using hc); have := hu1.bR; omega)
            have HB9 := Lib.hid hb9
            clear hu1 hu2 hu3 hownA hnews ho hg hgg hb9 hR9 hz0 hz1' hz2' hi
            refine hK.out _ _ (trivial) (fun hHeld => ?_)
            clear hK K
            try simp only [Act.put, List.setIfInBounds_toArray, List.set_cons_zero, List.set_cons_succ]
            have uf : ∀ i, w9.frozen? ⟨b, i, none⟩ = false := fun i => Lib.frozen_of_heap HB9.out i
            have u0 : w9.cell? ⟨b, 0, none⟩ = some (.slice qv A.length qc) := by rw [Lib.cell_of_heap HB9.out]; rfl
            refine wpAnyH_ready (rs := [5]) (by kernel_rfl) (by simp) ?_
            refine AllReadyH.cons rfl (fun K hK => ?_) AllReadyH.nil
            go_simp
            refine hK.out _ _ (trivial) (fun hHeld => ?_)
            clear hK K
            try simp only [Act.put, List.setIfInBounds_toArray, List.set_cons_zero, List.set_cons_succ]
            refine wpAnyH_done (by kernel_rfl) ?_ _
            go_wp2_with fail
            go_roundg q
            case measure => omega
            case rel => exact ⟨o3, c3, m9, _, _, A ++ [x9], HG.out, HEM.out.2, HNM.out, ⟨by have := HEM.out.1; have := HLL.out.1; simp only [List.length_cons] at *; omega, by have := HEM.out.1; have := HLN.out; simp only [List.length_cons, List.length_append, List.length_nil] at *; omega⟩, HK6.out⟩
     ·have e16 : ((A.length : Int) == 16) = false := beq_eq_false_iff_ne.2 (by omega)
      have HK5 : Hid (K = match Pol.rule (6 * N + 7) (⟨tk, ts, tn, tp⟩ :: l1) with | .error e => .error e | .ok (x, m) => Pol.rules q (6 * N + 7) (A ++ [x]) m) := by show _ = _; rw [HK.out, Pol.rules, if_neg HN5.out, if_neg (fun h => h16 h.1)]; try (rcases Pol.rule (6 * N + 7) (⟨tk, ts, tn, tp⟩ :: l1) with e | ⟨x, m⟩ <;> rfl)
      clear h16
      go_wp2_with fail
      have HLN := Lib.hid HLL.out.2
      have HRL : Hid (∀ U o c, PaSt w b R g o c (⟨tk, ts, tn, tp⟩ :: l1) (.slice qv A.length qc) css A U → Calls Tryd.prog 57 #[.pointer (some ⟨R, 0, none⟩)] U (RuleDone R g 0 U (Pol.rule (6 * N + 7) (⟨tk, ts, tn, tp⟩ :: l1)))) := fun U o c h =>
       rule_all (6 * N + 6) U R g o c _ h.rd HE.out (Pol.rule_fed (by have := HLN.out; simp only [List.length_cons] at this ⊢; omega))
      have HNT := Lib.hid (Pol.rule_nat (6 * N + 7) (⟨tk, ts, tn, tp⟩ :: l1) HNN.out)
      have HLE : Hid (∀ x m, Pol.rule (6 * N + 7) (⟨tk, ts, tn, tp⟩ :: l1) = .ok (x, m) → m.length < (⟨tk, ts, tn, tp⟩ :: l1).length ∧ Ends m) := fun x m h => ⟨(Pol.rule_len h).1, (Pol.rule_len h).2 HE.out⟩
      obtain ⟨qq, hqq⟩ : ∃ qq, Pol.rule (6 * N + 7) (⟨tk, ts, tn, tp⟩ :: l1) = qq := ⟨_, rfl⟩
      rw [hqq] at HRL HNT HLE HK5
      clear hqq
      have H0 := Lib.hid (H.out.fr (Fr.refl [] _).drew)
      cases qq with
      | error pe =>
       obtain ⟨pp, pn⟩ := pe
       have HK5 : Hid (K = .error (pp, pn)) := HK5.out
       have HPN := Lib.hid (HNT.out.2 pp pn rfl)
       have H := H0
       refine wp_region_held_drew (S := fun _ => True) (by kernel_rfl) (trivial) (fun hHeld => ?_)
       refine wpAnyH_ready (rs := [0, 1]) (by kernel_rfl) (by simp) ?_
       refine AllReadyH.cons rfl (fun K hK => ?_) (AllReadyH.cons rfl (fun K hK => ?_) AllReadyH.nil)
       ·go_simp
        refine hK.out _ _ (trivial) (fun hHeld => ?_)
        clear hK K
        try simp only [Act.put, List.setIfInBounds_toArray, List.set_cons_zero, List.set_cons_succ]
        refine wpAnyH_ready (rs := [1]) (by kernel_rfl) (by simp) ?_
        refine AllReadyH.cons rfl (fun K hK => ?_) AllReadyH.nil
        go_simp
        refine hK.out _ _ (trivial) (fun hHeld => ?_)
        clear hK K
        try simp only [Act.put, List.setIfInBounds_toArray, List.set_cons_zero, List.set_cons_succ]
        refine wpAnyH_ready (rs := [2]) (by kernel_rfl) (by simp) ?_
        refine AllReadyH.cons rfl (fun K hK => ?_) AllReadyH.nil
        go_simp
        go_at_call 57
        refine (HRL.out _ _ _ H0.out).mono ?_
        intro e W9 hd
        have hs : Stops [R] _ pp pn e W9 := hd
        obtain ⟨b9, hb9, rfl, hrow9, hf9⟩ := hs
        show _
        go_wp2_with fail
        have hk2 := hf9.row H.out.b2 (by have := H.out.bR; simp <;> omega)
        have hk3 := hf9.row H.out.b3 (by have := H.out.bR; simp <;> omega)
        refine leaves_cons (f := 54) (args := #[.pointer (some ⟨b, 0, none⟩), .pointer (some ⟨b + 1, 0, none⟩)]) (by simp) (by simp [go_sem]) ?_
        refine (catch_stop b (b + 1) b9 [] _ W9 hk2 hk3 (by omega)).mono ?_
        rintro e u' Z ⟨rfl, rfl, k2, k3, k4⟩
        refine ⟨.tuple #[.slice none 0 0, .iface 70 (.pointer (some ⟨b9, 0, none⟩))], parse_res _ _ b none 0 0 _ rfl rfl k2 k3, _, _, rfl, ?_⟩
        rw [HPP.out, HK5.out]
        exact H.out.stopped hb9 hrow9 (hf9) k4 (HPN.out)
       ·go_simp
        refine hK.out _ _ (trivial) (fun hHeld => ?_)
        clear hK K
        try simp only [Act.put, List.setIfInBounds_toArray, List.set_cons_zero, List.set_cons_succ]
        refine wpAnyH_ready (rs := [0, 2]) (by kernel_rfl) (by simp) ?_
        refine AllReadyH.cons rfl (fun K hK => ?_) (AllReadyH.cons rfl (fun K hK => ?_) AllReadyH.nil)
        ·go_simp
         refine hK.out _ _ (trivial) (fun hHeld => ?_)
         clear hK K
         try simp only [Act.put, List.setIfInBounds_toArray, List.set_cons_zero, List.set_cons_succ]
         refine wpAnyH_ready (rs := [2]) (by kernel_rfl) (by simp) ?_
         refine AllReadyH.cons rfl (fun K hK => ?_) AllReadyH.nil
         go_simp
         go_at_call 57
         refine (HRL.out _ _ _ H0.out).mono ?_
         intro e W9 hd
         have hs : Stops [R] _ pp pn e W9 := hd
         obtain ⟨b9, hb9, rfl, hrow9, hf9⟩ := hs
         show _
         go_wp2_with fail
         have hk2 := hf9.row H.out.b2 (by have := H.out.bR; simp <;> omega)
         have hk3 := hf9.row H.out.b3 (by have := H.out.bR; simp <;> omega)
         refine leaves_cons (f := 54) (args := #[.pointer (some ⟨b, 0, none⟩), .pointer (some ⟨b + 1, 0, none⟩)]) (by simp) (by simp [go_sem]) ?_
         refine (catch_stop b (b + 1) b9 [] _ W9 hk2 hk3 (by omega)).mono ?_
         rintro e u' Z ⟨rfl, rfl, k2, k3, k4⟩
         refine ⟨.tuple #[.slice none 0 0, .iface 70 (.pointer (some ⟨b9, 0, none⟩))], parse_res _ _ b none 0 0 _ rfl rfl k2 k3, _, _, rfl, ?_⟩
         rw [HPP.out, HK5.out]
         exact H.out.stopped hb9 hrow9 (hf9) k4 (HPN.out)
        ·go_simp
         go_at_call 57
         refine (HRL.out _ _ _ H0.out).mono ?_
         intro e W9 hd
         have hs : Stops [R] _ pp pn e W9 := hd
         obtain ⟨b9, hb9, rfl, hrow9, hf9⟩ := hs
         show _
         go_wp2_with fail
         have hk2 := hf9.row H.out.b2 (by have := H.out.bR; simp <;> omega)
         have hk3 := hf9.row H.out.b3 (by have := H.out.bR; simp <;> omega)
         refine leaves_cons (f := 54) (args := #[.pointer (some ⟨b, 0, none⟩), .pointer (some ⟨b + 1, 0, none⟩)]) (by simp) (by simp [go_sem]) ?_
         refine (catch_stop b (b + 1) b9 [] _ W9 hk2 hk3 (by omega)).mono ?_
         rintro e u' Z ⟨rfl, rfl, k2, k3, k4⟩
         refine ⟨.tuple #[.slice none 0 0, .iface 70 (.pointer (some ⟨b9, 0, none⟩))], parse_res _ _ b none 0 0 _ rfl rfl k2 k3, _, _, rfl, ?_⟩
         rw [HPP.out, HK5.out]
         exact H.out.stopped hb9 hrow9 (hf9) k4 (HPN.out)
      | ok xm =>
       obtain ⟨x9, m9⟩ := xm
       have HK6 : Hid (K = Pol.rules q (6 * N + 7) (A ++ [x9]) m9) := HK5.out
       have HEM := Lib.hid (HLE.out x9 m9 rfl)
       have HNM := Lib.hid (HNT.out.1 x9 m9 rfl)
       refine wp_region_held_drew (S := fun _ => True) (by kernel_rfl) (trivial) (fun hHeld => ?_)
       refine wpAnyH_ready (rs := [0, 1]) (by kernel_rfl) (by simp) ?_
       refine AllReadyH.cons rfl (fun K hK => ?_) (AllReadyH.cons rfl (fun K hK => ?_) AllReadyH.nil)
       ·go_simp
        refine hK.out _ _ (trivial) (fun hHeld => ?_)
        clear hK K
        try simp only [Act.put, List.setIfInBounds_toArray, List.set_cons_zero, List.set_cons_succ]
        refine wpAnyH_ready (rs := [1]) (by kernel_rfl) (by simp) ?_
        refine AllReadyH.cons rfl (fun K hK => ?_) AllReadyH.nil
        go_simp
        refine hK.out _ _ (trivial) (fun hHeld => ?_)
        clear hK K
        try simp only [Act.put, List.setIfInBounds_toArray, List.set_cons_zero, List.set_cons_succ]
        refine wpAnyH_ready (rs := [2]) (by kernel_rfl) (by simp) ?_
        refine AllReadyH.cons rfl (fun K hK => ?_) AllReadyH.nil
        go_simp
        go_at_call 57
        refine (HRL.out _ _ _ H0.out).mono ?_
        rintro e w3 ⟨cs, rfl, hrep, hf3, o3, c3, hr3⟩
        obtain ⟨q1, k1, c1, q2, k2, c2, rfl⟩ := hrep.form
        have H3 := Lib.hid (H0.out.step hf3 hr3)
        have HX3 : Hid (RuRep w3 (fun i => R + 1 ≤ i ∧ (Value.slice qv A.length qc).ownBlock ≠ some i) [.bool x9.deny, .slice q1 k1 c1, .slice q2 k2 c2, .int .i64 x9.p] x9) := hrep.mono (fun i hi h => by
         have h9 : wr.heap.size ≤ i := h
         have h8 := row_lt H.out.rd.row
         exact ⟨by omega, fun h7 => by have := own_lt H.out.own _ h7; omega⟩)
        clear hrep hf3 hr3 x0 xf
        refine hK.out _ _ (trivial) (fun hHeld => ?_)
        clear hK K
        try simp only [Act.put, List.setIfInBounds_toArray, List.set_cons_zero, List.set_cons_succ]
        refine wpAnyH_ready (rs := [3]) (by kernel_rfl) (by simp) ?_
        refine AllReadyH.cons rfl (fun K hK => ?_) AllReadyH.nil
        go_simp
        refine hK.out _ _ (trivial) (fun hHeld => ?_)
        clear hK K
        try simp only [Act.put, List.setIfInBounds_toArray, List.set_cons_zero, List.set_cons_succ]
        have hbw4 : b < w3.heap.size := row_lt H3.out.b2
        refine wpAnyH_fresh (fun U => PaSt w b R g o3 c3 m9 (.slice qv A.length qc) css A U ∧ U.heap[w3.heap.size]? = some (.cells #[.bool x9.deny, .slice q1 k1 c1, .slice q2 k2 c2, .int .i64 x9.p] 78 (0, 0)) ∧ RuRep U (fun i => R + 1 ≤ i ∧ (Value.slice qv A.length qc).ownBlock ≠ some i) [.bool x9.deny, .slice q1 k1 c1, .slice q2 k2 c2, .int .i64 x9.p] x9) ⟨H3.out.fr ((Fr.refl [] _).alloc _), heap_alloc_last _ _, HX3.out.fr ((Fr.refl [] _).alloc _) (fun y hy _ => by cases hy)⟩ ?_
        rintro U ⟨hu1, hu2, hu3⟩
        have HU1 := Lib.hid hu1
        have hownA := hu1.own
        have hnews := World.news_of_block hu2
        have hR9 := row_lt hu1.rd.row
        have hA9 : A.length ≤ 513 := by have := HLN.out; omega
        obtain ⟨i0, hi, hz0, hz1', hz2'⟩ := info_parts infoRu
        refine wpAnyH_ready (rs := [4]) (by kernel_rfl) (by simp) ?_
        refine AllReadyH.cons rfl (fun K hK => ?_) AllReadyH.nil
        refine step_append_lies U (by rfl) (.tmp 39) (.tmp 42) _ (by rfl) (R + 1) 78 i0 _ 4 64 Tryd.underlying43 hi hz0 hz1' hz2' rfl (by decide) _ A.length _ (by rfl) hownA _ 1 1 [.bool x9.deny, .slice q1 k1 c1, .slice q2 k2 c2, .int .i64 x9.p] (by rfl) rfl hnews (by simp [Value.oneCell']) (by decide) (by unfold maxLen; omega) (by omega) (by omega) _ rfl ?_
        intro g9 cap9 w9 ho hg hgg hgl
        have HG := Lib.hid (hu1.grow hu3 ho hg (hgg.imp id (fun h => by rw [h]; exact Nat.le_refl _)))
        have hb9 := (Fr.of_grown hg).row hu1.b2 (fun hc => by have := hu1.own_base b (by simpa using hc); have := hu1.bR; omega)
        have HB9 := Lib.hid hb9
        clear hu1 hu2 hu3 hownA hnews ho hg hgg hb9 hR9 hz0 hz1' hz2' hi
        refine hK.out _ _ (trivial) (fun hHeld => ?_)
        clear hK K
        try simp only [Act.put, List.setIfInBounds_toArray, List.set_cons_zero, List.set_cons_succ]
        have uf : ∀ i, w9.frozen? ⟨b, i, none⟩ = false := fun i => Lib.frozen_of_heap HB9.out i
        have u0 : w9.cell? ⟨b, 0, none⟩ = some (.slice qv A.length qc) := by rw [Lib.cell_of_heap HB9.out]; rfl
        refine wpAnyH_ready (rs := [5]) (by kernel_rfl) (by simp) ?_
        refine AllReadyH.cons rfl (fun K hK => ?_) AllReadyH.nil
        go_simp
        refine hK.out _ _ (trivial) (fun hHeld => ?_)
        clear hK K
        try simp only [Act.put, List.setIfInBounds_toArray, List.set_cons_zero, List.set_cons_succ]
        refine wpAnyH_done (by kernel_rfl) ?_ _
        go_wp2_with fail
        go_roundg q
        case measure => omega
        case rel => exact ⟨o3, c3, m9, _, _, A ++ [x9], HG.out, HEM.out.2, HNM.out, ⟨by have := HEM.out.1; have := HLL.out.1; simp only [List.length_cons] at *; omega, by have := HEM.out.1; have := HLN.out; simp only [List.length_cons, List.length_append, List.length_nil] at *; omega⟩, HK6.out⟩
       ·go_simp
        refine hK.out _ _ (trivial) (fun hHeld => ?_)
        clear hK K
        try simp only [Act.put, List.setIfInBounds_toArray, List.set_cons_zero, List.set_cons_succ]
        refine wpAnyH_ready (rs := [0, 2]) (by kernel_rfl) (by simp) ?_
        refine AllReadyH.cons rfl (fun K hK => ?_) (AllReadyH.cons rfl (fun K hK => ?_) AllReadyH.nil)
        ·go_simp
         refine hK.out _ _ (trivial) (fun hHeld => ?_)
         clear hK K
         try simp only [Act.put, List.setIfInBounds_toArray, List.set_cons_zero, List.set_cons_succ]
         refine wpAnyH_ready (rs := [2]) (by kernel_rfl) (by simp) ?_
         refine AllReadyH.cons rfl (fun K hK => ?_) AllReadyH.nil
         go_simp
         go_at_call 57
         refine (HRL.out _ _ _ H0.out).mono ?_
         rintro e w3 ⟨cs, rfl, hrep, hf3, o3, c3, hr3⟩
         obtain ⟨q1, k1, c1, q2, k2, c2, rfl⟩ := hrep.form
         have H3 := Lib.hid (H0.out.step hf3 hr3)
         have HX3 : Hid (RuRep w3 (fun i => R + 1 ≤ i ∧ (Value.slice qv A.length qc).ownBlock ≠ some i) [.bool x9.deny, .slice q1 k1 c1, .slice q2 k2 c2, .int .i64 x9.p] x9) := hrep.mono (fun i hi h => by
          have h9 : wr.heap.size ≤ i := h
          have h8 := row_lt H.out.rd.row
          exact ⟨by omega, fun h7 => by have := own_lt H.out.own _ h7; omega⟩)
         clear hrep hf3 hr3 x0 xf
         refine hK.out _ _ (trivial) (fun hHeld => ?_)
         clear hK K
         try simp only [Act.put, List.setIfInBounds_toArray, List.set_cons_zero, List.set_cons_succ]
         refine wpAnyH_ready (rs := [3]) (by kernel_rfl) (by simp) ?_
         refine AllReadyH.cons rfl (fun K hK => ?_) AllReadyH.nil
         go_simp
         refine hK.out _ _ (trivial) (fun hHeld => ?_)
         clear hK K
         try simp only [Act.put, List.setIfInBounds_toArray, List.set_cons_zero, List.set_cons_succ]
         have hbw4 : b < w3.heap.size := row_lt H3.out.b2
         refine wpAnyH_fresh (fun U => PaSt w b R g o3 c3 m9 (.slice qv A.length qc) css A U ∧ U.heap[w3.heap.size]? = some (.cells #[.bool x9.deny, .slice q1 k1 c1, .slice q2 k2 c2, .int .i64 x9.p] 78 (0, 0)) ∧ RuRep U (fun i => R + 1 ≤ i ∧ (Value.slice qv A.length qc).ownBlock ≠ some i) [.bool x9.deny, .slice q1 k1 c1, .slice q2 k2 c2, .int .i64 x9.p] x9) ⟨H3.out.fr ((Fr.refl [] _).alloc _), heap_alloc_last _ _, HX3.out.fr ((Fr.refl [] _).alloc _) (fun y hy _ => by cases hy)⟩ ?_
         rintro U ⟨hu1, hu2, hu3⟩
         have HU1 := Lib.hid hu1
         have hownA := hu1.own
         have hnews := World.news_of_block hu2
         have hR9 := row_lt hu1.rd.row
         have hA9 : A.length ≤ 513 := by have := HLN.out; omega
         obtain ⟨i0, hi, hz0, hz1', hz2'⟩ := info_parts infoRu
         refine wpAnyH_ready (rs := [4]) (by kernel_rfl) (by simp) ?_
         refine AllReadyH.cons rfl (fun K hK => ?_) AllReadyH.nil
         refine step_append_lies U (by rfl) (.tmp 39) (.tmp 42) _ (by rfl) (R + 1) 78 i0 _ 4 64 Tryd.underlying43 hi hz0 hz1' hz2' rfl (by decide) _ A.length _ (by rfl) hownA _ 1 1 [.bool x9.deny, .slice q1 k1 c1, .slice q2 k2 c2, .int .i64 x9.p] (by rfl) rfl hnews (by simp [Value.oneCell']) (by decide) (by unfold maxLen; omega) (by omega) (by omega) _ rfl ?_
         intro g9 cap9 w9 ho hg hgg hgl
         have HG := Lib.hid (hu1.grow hu3 ho hg (hgg.imp id (fun h => by rw [h]; exact Nat.le_refl _)))
         have hb9 := (Fr.of_grown hg).row hu1.b2 (fun hc => by have := hu1.own_base b (by simpa using hc); have := hu1.bR; omega)
         have HB9 := Lib.hid hb9
         clear hu1 hu2 hu3 hownA hnews ho hg hgg hb9 hR9 hz0 hz1' hz2' hi
         refine hK.out _ _ (trivial) (fun hHeld => ?_)
         clear hK K
         try simp only [Act.put, List.setIfInBounds_toArray, List.set_cons_zero, List.set_cons_succ]
         have uf : ∀ i, w9.frozen? ⟨b, i, none⟩ = false := fun i => Lib.frozen_of_heap HB9.out i
         have u0 : w9.cell? ⟨b, 0, none⟩ = some (.slice qv A.length qc) := by rw [Lib.cell_of_heap HB9.out]; rfl
         refine wpAnyH_ready (rs := [5]) (by kernel_rfl) (by simp) ?_
         refine AllReadyH.cons rfl (fun K hK => ?_) AllReadyH.nil
         go_simp
         refine hK.out _ _ (trivial) (fun hHeld => ?_)
         clear hK K
         try simp only [Act.put, List.setIfInBounds_toArray, List.set_cons_zero, List.set_cons_succ]
         refine wpAnyH_done (by kernel_rfl) ?_ _
         go_wp2_with fail
         go_roundg q
         case measure => omega
         case rel => exact ⟨o3, c3, m9, _, _, A ++ [x9], HG.out, HEM.out.2, HNM.out, ⟨by have := HEM.out.1; have := HLL.out.1; simp only [List.length_cons] at *; omega, by have := HEM.out.1; have := HLN.out; simp only [List.length_cons, List.length_append, List.length_nil] at *; omega⟩, HK6.out⟩
        ·go_simp
         go_at_call 57
         refine (HRL.out _ _ _ H0.out).mono ?_
         rintro e w3 ⟨cs, rfl, hrep, hf3, o3, c3, hr3⟩
         obtain ⟨q1, k1, c1, q2, k2, c2, rfl⟩ := hrep.form
         have H3 := Lib.hid (H0.out.step hf3 hr3)
         have HX3 : Hid (RuRep w3 (fun i => R + 1 ≤ i ∧ (Value.slice qv A.length qc).ownBlock ≠ some i) [.bool x9.deny, .slice q1 k1 c1, .slice q2 k2 c2, .int .i64 x9.p] x9) := hrep.mono (fun i hi h => by
          have h9 : wr.heap.size ≤ i := h
          have h8 := row_lt H.out.rd.row
          exact ⟨by omega, fun h7 => by have := own_lt H.out.own _ h7; omega⟩)
         clear hrep hf3 hr3 x0 xf
         refine hK.out _ _ (trivial) (fun hHeld => ?_)
         clear hK K
         try simp only [Act.put, List.setIfInBounds_toArray, List.set_cons_zero, List.set_cons_succ]
         have xf : ∀ i, w3.frozen? ⟨b, i, none⟩ = false := fun i => Lib.frozen_of_heap H3.out.b2 i
         have x0 : w3.cell? ⟨b, 0, none⟩ = some (.slice qv A.length qc) := by rw [Lib.cell_of_heap H3.out.b2]; rfl
         refine wpAnyH_ready (rs := [0, 3]) (by kernel_rfl) (by simp) ?_
         refine AllReadyH.cons rfl (fun K hK => ?_) (AllReadyH.cons rfl (fun K hK => ?_) AllReadyH.nil)
         ·go_simp
          refine hK.out _ _ (trivial) (fun hHeld => ?_)
          clear hK K
          try simp only [Act.put, List.setIfInBounds_toArray, List.set_cons_zero, List.set_cons_succ]
          refine wpAnyH_ready (rs := [3]) (by kernel_rfl) (by simp) ?_
          refine AllReadyH.cons rfl (fun K hK => ?_) AllReadyH.nil
          go_simp
          refine hK.out _ _ (trivial) (fun hHeld => ?_)
          clear hK K
          try simp only [Act.put, List.setIfInBounds_toArray, List.set_cons_zero, List.set_cons_succ]
          have hbw4 : b < w3.heap.size := row_lt H3.out.b2
          refine wpAnyH_fresh (fun U => PaSt w b R g o3 c3 m9 (.slice qv A.length qc) css A U ∧ U.heap[w3.heap.size]? = some (.cells #[.bool x9.deny, .slice q1 k1 c1, .slice q2 k2 c2, .int .i64 x9.p] 78 (0, 0)) ∧ RuRep U (fun i => R + 1 ≤ i ∧ (Value.slice qv A.length qc).ownBlock ≠ some i) [.bool x9.deny, .slice q1 k1 c1, .slice q2 k2 c2, .int .i64 x9.p] x9) ⟨H3.out.fr ((Fr.refl [] _).alloc _), heap_alloc_last _ _, HX3.out.fr ((Fr.refl [] _).alloc _) (fun y hy _ => by cases hy)⟩ ?_
          rintro U ⟨hu1, hu2, hu3⟩
          have HU1 := Lib.hid hu1
          have hownA := hu1.own
          have hnews := World.news_of_block hu2
          have hR9 := row_lt hu1.rd.row
          have hA9 : A.length ≤ 513 := by have := HLN.out; omega
          obtain ⟨i0, hi, hz0, hz1', hz2'⟩ := info_parts infoRu
          refine wpAnyH_ready (rs := [4]) (by kernel_rfl) (by simp) ?_
          refine AllReadyH.cons rfl (fun K hK => ?_) AllReadyH.nil
          refine step_append_lies U (by rfl) (.tmp 39) (.tmp 42) _ (by rfl) (R + 1) 78 i0 _ 4 64 Tryd.underlying43 hi hz0 hz1' hz2' rfl (by decide) _ A.length _ (by rfl) hownA _ 1 1 [.bool x9.deny, .slice q1 k1 c1, .slice q2 k2 c2, .int .i64 x9.p] (by rfl) rfl hnews (by simp [Value.oneCell']) (by decide) (by unfold maxLen; omega) (by omega) (by omega) _ rfl ?_
          intro g9 cap9 w9 ho hg hgg hgl
          have HG := Lib.hid (hu1.grow hu3 ho hg (hgg.imp id (fun h => by rw [h]; exact Nat.le_refl _)))
          have hb9 := (Fr.of_grown hg).row hu1.b2 (fun hc => by have := hu1.own_base b (by simpa using hc); have := hu1.bR; omega)
          have HB9 := Lib.hid hb9
          clear hu1 hu2 hu3 hownA hnews ho hg hgg hb9 hR9 hz0 hz1' hz2' hi
          refine hK.out _ _ (trivial) (fun hHeld => ?_)
          clear hK K
          try simp only [Act.put, List.setIfInBounds_toArray, List.set_cons_zero, List.set_cons_succ]
          have uf : ∀ i, w9.frozen? ⟨b, i, none⟩ = false := fun i => Lib.frozen_of_heap HB9.out i
          have u0 : w9.cell? ⟨b, 0, none⟩ = some (.slice qv A.length qc) := by rw [Lib.cell_of_heap HB9.out]; rfl
          refine wpAnyH_ready (rs := [5]) (by kernel_rfl) (by simp) ?_
          refine AllReadyH.cons rfl (fun K hK => ?_) AllReadyH.nil
          go_simp
          refine hK.out _ _ (trivial) (fun hHeld => ?_)
          clear hK K
          try simp only [Act.put, List.setIfInBounds_toArray, List.set_cons_zero, List.set_cons_succ]
          refine wpAnyH_done (by kernel_rfl) ?_ _
          go_wp2_with fail
          go_roundg q
          case measure => omega
          case rel => exact ⟨o3, c3, m9, _, _, A ++ [x9], HG.out, HEM.out.2, HNM.out, ⟨by have := HEM.out.1; have := HLL.out.1; simp only [List.length_cons] at *; omega, by have := HEM.out.1; have := HLN.out; simp only [List.length_cons, List.length_append, List.length_nil] at *; omega⟩, HK6.out⟩
         ·go_simp
          refine hK.out _ _ (trivial) (fun hHeld => ?_)
          clear hK K
          try simp only [Act.put, List.setIfInBounds_toArray, List.set_cons_zero, List.set_cons_succ]
          have hbw3 : b < w3.heap.size := row_lt H3.out.b2
          refine wpAnyH_ready (rs := [0]) (by kernel_rfl) (by simp) ?_
          refine AllReadyH.cons rfl (fun K hK => ?_) AllReadyH.nil
          go_simp
          refine hK.out _ _ (trivial) (fun hHeld => ?_)
          clear hK K
          try simp only [Act.put, List.setIfInBounds_toArray, List.set_cons_zero, List.set_cons_succ]
          have hbw4 : b < w3.heap.size := row_lt H3.out.b2
          refine wpAnyH_fresh (fun U => PaSt w b R g o3 c3 m9 (.slice qv A.length qc) css A U ∧ U.heap[w3.heap.size]? = some (.cells #[.bool x9.deny, .slice q1 k1 c1, .slice q2 k2 c2, .int .i64 x9.p] 78 (0, 0)) ∧ RuRep U (fun i => R + 1 ≤ i ∧ (Value.slice qv A.length qc).ownBlock ≠ some i) [.bool x9.deny, .slice q1 k1 c1, .slice q2 k2 c2, .int .i64 x9.p] x9) ⟨H3.out.fr ((Fr.refl [] _).alloc _), heap_alloc_last _ _, HX3.out.fr ((Fr.refl [] _).alloc _) (fun y hy _ => by cases hy)⟩ ?_
          rintro U ⟨hu1, hu2, hu3⟩
          have HU1 := Lib.hid hu1
          have hownA := hu1.own
          have hnews := World.news_of_block hu2
          have hR9 := row_lt hu1.rd.row
          have hA9 : A.length ≤ 513 := by have := HLN.out; omega
          obtain ⟨i0, hi, hz0, hz1', hz2'⟩ := info_parts infoRu
          refine wpAnyH_ready (rs := [4]) (by kernel_rfl) (by simp) ?_
          refine AllReadyH.cons rfl (fun K hK => ?_) AllReadyH.nil
          refine step_append_lies U (by rfl) (.tmp 39) (.tmp 42) _ (by rfl) (R + 1) 78 i0 _ 4 64 Tryd.underlying43 hi hz0 hz1' hz2' rfl (by decide) _ A.length _ (by rfl) hownA _ 1 1 [.bool x9.deny, .slice q1 k1 c1, .slice q2 k2 c2, .int .i64 x9.p] (by rfl) rfl hnews (by simp [Value.oneCell']) (by decide) (by unfold maxLen; omega) (by omega) (by omega) _ rfl ?_
          intro g9 cap9 w9 ho hg hgg hgl
          have HG := Lib.hid (hu1.grow hu3 ho hg (hgg.imp id (fun h => by rw [h]; exact Nat.le_refl _)))
          have hb9 := (Fr.of_grown hg).row hu1.b2 (fun hc => by have := hu1.own_base b (by simpa using hc); have := hu1.bR; omega)
          have HB9 := Lib.hid hb9
          clear hu1 hu2 hu3 hownA hnews ho hg hgg hb9 hR9 hz0 hz1' hz2' hi
          refine hK.out _ _ (trivial) (fun hHeld => ?_)
          clear hK K
          try simp only [Act.put, List.setIfInBounds_toArray, List.set_cons_zero, List.set_cons_succ]
          have uf : ∀ i, w9.frozen? ⟨b, i, none⟩ = false := fun i => Lib.frozen_of_heap HB9.out i
          have u0 : w9.cell? ⟨b, 0, none⟩ = some (.slice qv A.length qc) := by rw [Lib.cell_of_heap HB9.out]; rfl
          refine wpAnyH_ready (rs := [5]) (by kernel_rfl) (by simp) ?_
          refine AllReadyH.cons rfl (fun K hK => ?_) AllReadyH.nil
          go_simp
          refine hK.out _ _ (trivial) (fun hHeld => ?_)
          clear hK K
          try simp only [Act.put, List.setIfInBounds_toArray, List.set_cons_zero, List.set_cons_succ]
          refine wpAnyH_done (by kernel_rfl) ?_ _
          go_wp2_with fail
          go_roundg q
          case measure => omega
          case rel => exact ⟨o3, c3, m9, _, _, A ++ [x9], HG.out, HEM.out.2, HNM.out, ⟨by have := HEM.out.1; have := HLL.out.1; simp only [List.length_cons] at *; omega, by have := HEM.out.1; have := HLN.out; simp only [List.length_cons, List.length_append, List.length_nil] at *; omega⟩, HK6.out⟩
 ·have HPP : Hid (Pol.parse s = (er, [])) := by
   show _ = _
   unfold Pol.parse
   rw [Hq.out]
   cases er with
   | ok => exact absurd rfl her
   | no n => rfl
   | pl p n => rfl
  cases er with
  | ok => exact absurd rfl her
  | no n =>
   obtain rfl : ev = .iface 57 (.int .i64 (n : Nat)) := HEV.out
   obtain ⟨qv, qc, rfl⟩ := own_form HOWN.out
   go_wp2_with fail
   go_region
   all_goals
    have hs : Fr [w.heap.size, w.heap.size + 1] w1 (((w1.setCell ⟨w.heap.size + 1, 0, none⟩ (.iface 57 (.int .i64 (n : Nat)))).setCell ⟨w.heap.size, 0, none⟩ (.slice none 0 0)).setCell ⟨w.heap.size + 1, 0, none⟩ (.iface 57 (.int .i64 (n : Nat)))).drew :=
     ((((Fr.refl _ w1).setCell (p := ⟨w.heap.size + 1, 0, none⟩) (.inl (by simp)) _).setCell (p := ⟨w.heap.size, 0, none⟩) (.inl (by simp)) _).setCell (p := ⟨w.heap.size + 1, 0, none⟩) (.inl (by simp)) _).drew
    have f1 : Fr [w.heap.size + 1] w1 (w1.setCell ⟨w.heap.size + 1, 0, none⟩ (.iface 57 (.int .i64 (n : Nat)))) := (Fr.refl _ _).setCell (p := ⟨w.heap.size + 1, 0, none⟩) (.inl (by simp)) _
    have f2 : Fr [w.heap.size] (w1.setCell ⟨w.heap.size + 1, 0, none⟩ (.iface 57 (.int .i64 (n : Nat)))) ((w1.setCell ⟨w.heap.size + 1, 0, none⟩ (.iface 57 (.int .i64 (n : Nat)))).setCell ⟨w.heap.size, 0, none⟩ (.slice none 0 0)) := (Fr.refl _ _).setCell (p := ⟨w.heap.size, 0, none⟩) (.inl (by simp)) _
    have f3 : Fr [w.heap.size + 1] ((w1.setCell ⟨w.heap.size + 1, 0, none⟩ (.iface 57 (.int .i64 (n : Nat)))).setCell ⟨w.heap.size, 0, none⟩ (.slice none 0 0)) (((w1.setCell ⟨w.heap.size + 1, 0, none⟩ (.iface 57 (.int .i64 (n : Nat)))).setCell ⟨w.heap.size, 0, none⟩ (.slice none 0 0)).setCell ⟨w.heap.size + 1, 0, none⟩ (.iface 57 (.int .i64 (n : Nat)))).drew := ((Fr.refl _ _).setCell (p := ⟨w.heap.size + 1, 0, none⟩) (.inl (by simp)) _).drew
    have r2 := f3.row (heap_set_row (f1.row HB2.out (by simp)) 0 (.slice none 0 0)) (by simp)
    have r3 := heap_set_row (f2.row (heap_set_row HB3.out 0 (.iface 57 (.int .i64 (n : Nat)))) (by simp)) 0 (.iface 57 (.int .i64 (n : Nat)))
    have r4 := HEV.out.fr2 hs (fun y hy => by simp at hy ⊢; omega)
    have r5 := (HF1.out.sub (bs := [w.heap.size, w.heap.size + 1])).trans hs (fun y hy => .inl hy)
    obtain ⟨Z, hZ⟩ : ∃ Z, (((w1.setCell ⟨w.heap.size + 1, 0, none⟩ (.iface 57 (.int .i64 (n : Nat)))).setCell ⟨w.heap.size, 0, none⟩ (.slice none 0 0)).setCell ⟨w.heap.size + 1, 0, none⟩ (.iface 57 (.int .i64 (n : Nat)))).drew = Z := ⟨_, rfl⟩
    have r3' : Z.heap[w.heap.size + 1]? = some (.cells #[.iface 57 (.int .i64 (n : Nat))] 32 (0, 0)) := by rw [← hZ]; exact r3
    rw [hZ] at r2 r4 r5 ⊢
    have R2 := Lib.hid r2
    have R3 := Lib.hid r3'
    have R4 := Lib.hid r4
    have R5 := Lib.hid r5
    clear r2 r3 r3' r4 r5 f1 f2 f3 hs hZ x0 xf y0 yf
    go_wp2_with fail
    refine ⟨.tuple #[.slice none 0 0, .iface 57 (.int .i64 (n : Nat))], parse_res _ _ w.heap.size none 0 0 _ rfl rfl R2.out R3.out, _, _, rfl, ?_⟩
    rw [HPP.out]
    exact ⟨⟨none, 0, fun _ => [], rfl, Nat.le_refl _, by decide, fun i u hi => by simp at hi, fun i u hi => by simp at hi, fun _ => rfl⟩, R4.out.base (by simp; omega), R5.out.os, R5.out.tape, R5.out.output, R5.out.size, fun k hk _ => R5.out.block k hk (by simp; omega)⟩
  | pl p n =>
   obtain ⟨b8, hb8, rfl, hrow8⟩ := HEV.out
   obtain ⟨qv, qc, rfl⟩ := own_form HOWN.out
   clear hrow8
   go_wp2_with fail
   go_region
   all_goals
    have hs : Fr [w.heap.size, w.heap.size + 1] w1 (((w1.setCell ⟨w.heap.size + 1, 0, none⟩ (.iface 70 (.pointer (some ⟨b8, 0, none⟩)))).setCell ⟨w.heap.size, 0, none⟩ (.slice none 0 0)).setCell ⟨w.heap.size + 1, 0, none⟩ (.iface 70 (.pointer (some ⟨b8, 0, none⟩)))).drew :=
     ((((Fr.refl _ w1).setCell (p := ⟨w.heap.size + 1, 0, none⟩) (.inl (by simp)) _).setCell (p := ⟨w.heap.size, 0, none⟩) (.inl (by simp)) _).setCell (p := ⟨w.heap.size + 1, 0, none⟩) (.inl (by simp)) _).drew
    have f1 : Fr [w.heap.size + 1] w1 (w1.setCell ⟨w.heap.size + 1, 0, none⟩ (.iface 70 (.pointer (some ⟨b8, 0, none⟩)))) := (Fr.refl _ _).setCell (p := ⟨w.heap.size + 1, 0, none⟩) (.inl (by simp)) _
    have f2 : Fr [w.heap.size] (w1.setCell ⟨w.heap.size + 1, 0, none⟩ (.iface 70 (.pointer (some ⟨b8, 0, none⟩)))) ((w1.setCell ⟨w.heap.size + 1, 0, none⟩ (.iface 70 (.pointer (some ⟨b8, 0, none⟩)))).setCell ⟨w.heap.size, 0, none⟩ (.slice none 0 0)) := (Fr.refl _ _).setCell (p := ⟨w.heap.size, 0, none⟩) (.inl (by simp)) _
    have f3 : Fr [w.heap.size + 1] ((w1.setCell ⟨w.heap.size + 1, 0, none⟩ (.iface 70 (.pointer (some ⟨b8, 0, none⟩)))).setCell ⟨w.heap.size, 0, none⟩ (.slice none 0 0)) (((w1.setCell ⟨w.heap.size + 1, 0, none⟩ (.iface 70 (.pointer (some ⟨b8, 0, none⟩)))).setCell ⟨w.heap.size, 0, none⟩ (.slice none 0 0)).setCell ⟨w.heap.size + 1, 0, none⟩ (.iface 70 (.pointer (some ⟨b8, 0, none⟩)))).drew := ((Fr.refl _ _).setCell (p := ⟨w.heap.size + 1, 0, none⟩) (.inl (by simp)) _).drew
    have r2 := f3.row (heap_set_row (f1.row HB2.out (by simp)) 0 (.slice none 0 0)) (by simp)
    have r3 := heap_set_row (f2.row (heap_set_row HB3.out 0 (.iface 70 (.pointer (some ⟨b8, 0, none⟩)))) (by simp)) 0 (.iface 70 (.pointer (some ⟨b8, 0, none⟩)))
    have r4 := HEV.out.fr2 hs (fun y hy => by simp at hy ⊢; omega)
    have r5 := (HF1.out.sub (bs := [w.heap.size, w.heap.size + 1])).trans hs (fun y hy => .inl hy)
    obtain ⟨Z, hZ⟩ : ∃ Z, (((w1.setCell ⟨w.heap.size + 1, 0, none⟩ (.iface 70 (.pointer (some ⟨b8, 0, none⟩)))).setCell ⟨w.heap.size, 0, none⟩ (.slice none 0 0)).setCell ⟨w.heap.size + 1, 0, none⟩ (.iface 70 (.pointer (some ⟨b8, 0, none⟩)))).drew = Z := ⟨_, rfl⟩
    have r3' : Z.heap[w.heap.size + 1]? = some (.cells #[.iface 70 (.pointer (some ⟨b8, 0, none⟩))] 32 (0, 0)) := by rw [← hZ]; exact r3
    rw [hZ] at r2 r4 r5 ⊢
    have R2 := Lib.hid r2
    have R3 := Lib.hid r3'
    have R4 := Lib.hid r4
    have R5 := Lib.hid r5
    clear r2 r3 r3' r4 r5 f1 f2 f3 hs hZ x0 xf y0 yf
    go_wp2_with fail
    refine ⟨.tuple #[.slice none 0 0, .iface 70 (.pointer (some ⟨b8, 0, none⟩))], parse_res _ _ w.heap.size none 0 0 _ rfl rfl R2.out R3.out, _, _, rfl, ?_⟩
    rw [HPP.out]
    exact ⟨⟨none, 0, fun _ => [], rfl, Nat.le_refl _, by decide, fun i u hi => by simp at hi, fun i u hi => by simp at hi, fun _ => rfl⟩, R4.out.base (by simp; omega), R5.out.os, R5.out.tape, R5.out.output, R5.out.size, fun k hk _ => R5.out.block k hk (by simp; omega)⟩
end Go.Proofs.YtgklmpooonnmiaaDoor
