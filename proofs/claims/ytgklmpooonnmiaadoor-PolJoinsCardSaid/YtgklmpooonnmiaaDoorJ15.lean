/-
  Lemmas and contracts that the proofs over this seat use (PolP, PolRd); no statement of the seat is claimed in this text, and nothing is assumed in it.
-/
import Derived.Test.YtgklmpooonnmiaaDoorJ13
import Derived.Test.YtgklmpooonnmiaaDoorJ14
import Derived.BigQuiet
import Derived.Deep.RegionHeld3
set_option linter.unusedVariables false
set_option linter.unusedSimpArgs false
namespace Go.Proofs.YtgklmpooonnmiaaDoor
open Go.RowKit
inductive Ex
 | mk (op : Int) (s : ByteArray) (n : Int) (l : List Ex) (p : Int)
structure Ru where
 deny : Bool
 scopes : List ByteArray
 when_ : List Ex
 p : Int
namespace Pol
def place : List TI → Int
 | t :: _ => t.p
 | [] => 0
def is (l : List TI) (k : Int) (s : List UInt8) : Bool :=
 match l with
 | t :: _ => t.k == k && t.s.toList == s
 | [] => false
abbrev PR (α : Type) := Except (Int × Int) (α × List TI)
def none_ : ByteArray := ⟨#[]⟩
def must (l : List TI) (s : List UInt8) : PR Unit := if is l 4 s = true then .ok ((), l.tail) else .error (place l, 120)
def take (l : List TI) (k : Int) : PR TI :=
 match l with
 | t :: r => if t.k = k then .ok (t, r) else .error (t.p, 120)
 | [] => .error (0, 120)
def sign (s : List UInt8) : Option (Int × Bool) :=
 if s = [61] then some (9, false) else if s = [33, 61] then some (10, false) else if s = [60] then some (11, false)
 else if s = [60, 61] then some (12, false) else if s = [62] then some (11, true) else if s = [62, 61] then some (12, true) else none
mutual
def operand : Nat → Nat → List TI → PR Ex
 | 0, _, l => .error (place l, 0)
 | _ + 1, _, [] => .error (0, 120)
 | f + 1, nest, t :: l =>
  if is (t :: l) 4 [40] = true then
   if 12 ≤ nest then .error (t.p, 121)
   else match or_ f (nest + 1) l with
    | .error e => .error e
    | .ok (x, m) => match must m [41] with
      | .error e => .error e
      | .ok (_, m) => .ok (x, m)
  else if t.k = 3 then .ok (.mk 2 none_ t.n [] t.p, l)
  else if t.k = 2 then .ok (.mk 3 t.s 0 [] t.p, l)
  else if is (t :: l) 1 [116, 114, 117, 101] = true then .ok (.mk 1 none_ 1 [] t.p, l)
  else if is (t :: l) 1 [102, 97, 108, 115, 101] = true then .ok (.mk 1 none_ 0 [] t.p, l)
  else if is (t :: l) 1 [99, 108, 97, 105, 109] = true then
   match must l [40] with
   | .error e => .error e
   | .ok (_, m) => match take m 2 with
     | .error e => .error e
     | .ok (u, m) => match must m [41] with
       | .error e => .error e
       | .ok (_, m) => .ok (.mk 5 u.s 0 [] t.p, m)
  else if t.k = 1 ∧ kept t.s = false then .ok (.mk 4 t.s 0 [] t.p, l)
  else .error (t.p, 120)
def compare : Nat → Nat → List TI → PR Ex
 | 0, _, l => .error (place l, 0)
 | f + 1, nest, l =>
  match operand f nest l with
  | .error e => .error e
  | .ok (_, []) => .error (0, 120)
  | .ok (a, t :: m) =>
   if t.k = 4 then
    match sign t.s.toList with
    | none => .ok (a, t :: m)
    | some (op, turned) => match operand f nest m with
      | .error e => .error e
      | .ok (b, m) => .ok (.mk op none_ 0 (if turned = true then [b, a] else [a, b]) t.p, m)
   else if is (t :: m) 1 [104, 97, 115] = true then
    match operand f nest m with
    | .error e => .error e
    | .ok (b, m) => .ok (.mk 14 none_ 0 [a, b] t.p, m)
   else if is (t :: m) 1 [105, 110] = true then
    match must m [91] with
    | .error e => .error e
    | .ok (_, m) => match row f nest m with
      | .error e => .error e
      | .ok (L, m) => match must m [93] with
        | .error e => .error e
        | .ok (_, m) => .ok (.mk 13 none_ 0 (a :: L) t.p, m)
   else .ok (a, t :: m)
def row : Nat → Nat → List TI → PR (List Ex)
 | 0, _, l => .error (place l, 0)
 | f + 1, nest, l =>
  match operand f nest l with
  | .error e => .error e
  | .ok (x, m) => if is m 4 [44] = true then
    match row f nest m.tail with
    | .error e => .error e
    | .ok (L, m) => .ok (x :: L, m)
   else .ok ([x], m)
def not_ : Nat → Nat → List TI → PR Ex
 | 0, _, l => .error (place l, 0)
 | f + 1, nest, l =>
  if is l 1 [110, 111, 116] = true then
   if 12 ≤ nest then .error (place l, 121)
   else match not_ f (nest + 1) l.tail with
    | .error e => .error e
    | .ok (x, m) => .ok (.mk 6 none_ 0 [x] (place l), m)
  else compare f nest l
def andMore : Nat → Nat → Ex → List TI → PR Ex
 | 0, _, _, l => .error (place l, 0)
 | f + 1, nest, e, l =>
  if is l 1 [97, 110, 100] = true then
   match not_ f nest l.tail with
   | .error x => .error x
   | .ok (x, m) => andMore f nest (.mk 7 none_ 0 [e, x] (place l)) m
  else .ok (e, l)
def and_ : Nat → Nat → List TI → PR Ex
 | 0, _, l => .error (place l, 0)
 | f + 1, nest, l => match not_ f nest l with
   | .error e => .error e
   | .ok (x, m) => andMore f nest x m
def orMore : Nat → Nat → Ex → List TI → PR Ex
 | 0, _, _, l => .error (place l, 0)
 | f + 1, nest, e, l =>
  if is l 1 [111, 114] = true then
   match and_ f nest l.tail with
   | .error x => .error x
   | .ok (x, m) => orMore f nest (.mk 8 none_ 0 [e, x] (place l)) m
  else .ok (e, l)
def or_ : Nat → Nat → List TI → PR Ex
 | 0, _, l => .error (place l, 0)
 | f + 1, nest, l => match and_ f nest l with
   | .error e => .error e
   | .ok (x, m) => orMore f nest x m
end
def texts : Nat → List TI → PR (List ByteArray)
 | 0, l => .error (place l, 0)
 | f + 1, l => match take l 2 with
   | .error e => .error e
   | .ok (t, m) => if is m 4 [44] = true then
     match texts f m.tail with
     | .error e => .error e
     | .ok (L, m) => .ok (t.s :: L, m)
    else .ok ([t.s], m)
def scopesOf (f : Nat) (m : List TI) : PR (List ByteArray) := if is m 1 [115, 99, 111, 112, 101] = true then texts f m.tail else .ok ([], m)
def whenOf (f : Nat) (m : List TI) : PR (List Ex) :=
 if is m 1 [119, 104, 101, 110] = true then (match or_ f 0 m.tail with
  | .error e => .error e
  | .ok (x, m) => .ok ([x], m)) else .ok ([], m)
def ruleWhen (f : Nat) (deny : Bool) (p : Int) (S : List ByteArray) (m : List TI) : PR Ru :=
 match whenOf f m with
 | .error e => .error e
 | .ok (W, m) => match must m [59] with
   | .error e => .error e
   | .ok (_, m) => .ok (⟨deny, S, W, p⟩, m)
def ruleTail (f : Nat) (deny : Bool) (p : Int) (m : List TI) : PR Ru :=
 match scopesOf f m with
 | .error e => .error e
 | .ok (S, m) => ruleWhen f deny p S m
def rule (f : Nat) (l : List TI) : PR Ru :=
 if is l 1 [112, 101, 114, 109, 105, 116] = true ∨ is l 1 [100, 101, 110, 121] = true then ruleTail f (is l 1 [100, 101, 110, 121]) (place l) l.tail
 else .error (place l, 120)
end Pol
end Go.Proofs.YtgklmpooonnmiaaDoor

namespace Go.Proofs.YtgklmpooonnmiaaDoor
open Go.RowKit
def TK (w : World) (g o : Nat) (l : List TI) : Prop :=
 ∀ j t, l[j]? = some t → w.cell? ⟨g, o + 4 * j, none⟩ = some (.int .i64 t.k) ∧ w.cell? ⟨g, o + 4 * j + 1, none⟩ = some (.string t.s) ∧ w.cell? ⟨g, o + 4 * j + 2, none⟩ = some (.int .i64 t.n) ∧ w.cell? ⟨g, o + 4 * j + 3, none⟩ = some (.int .i64 t.p)
theorem TK.fr {bs : List Nat} {w w' : World} {g o : Nat} {l : List TI} (h : TK w g o l) (hf : Fr bs w w') (hg : g < w.heap.size) (hn : g ∉ bs) : TK w' g o l := fun j t hj => by
 obtain ⟨a, b, c, d⟩ := h j t hj
 exact ⟨(hf.cell (p := ⟨g, _, none⟩) hg hn).trans a, (hf.cell (p := ⟨g, _, none⟩) hg hn).trans b, (hf.cell (p := ⟨g, _, none⟩) hg hn).trans c, (hf.cell (p := ⟨g, _, none⟩) hg hn).trans d⟩
theorem TK.tail {w : World} {g o : Nat} {t : TI} {l : List TI} (h : TK w g o (t :: l)) : TK w g (o + 4) l := fun j u hj => by
 have := h (j + 1) u (by simpa using hj)
 have e : o + 4 + 4 * j = o + 4 * (j + 1) := by omega
 rw [e]; exact this
def stopC (b : Nat) : List PanicEntry := [{ v := .iface 92 (.agg #[.pointer (some ⟨b, 0, none⟩)]), recovered := false }]
def Stops (bs : List Nat) (w : World) (p e : Int) (x : Ending) (w' : World) : Prop :=
 ∃ b, w.heap.size ≤ b ∧ x = .panicked (stopC b) ∧ w'.heap[b]? = some (.cells #[.int .i64 p, .iface 57 (.int .i64 e)] 73 (0, 0)) ∧ Fr bs w w'
theorem Stops.from {bs cs : List Nat} {w0 w w' : World} {p e : Int} {x : Ending} (h : Stops cs w p e x w') (hf : Fr bs w0 w) (hs : ∀ y ∈ cs, y ∈ bs ∨ w0.heap.size ≤ y) : Stops bs w0 p e x w' := by
 obtain ⟨b, hb, hx, hr, hf2⟩ := h
 exact ⟨b, Nat.le_trans hf.size hb, hx, hr, hf.trans hf2 hs⟩
structure Rd (w : World) (r g o c : Nat) (l : List TI) (nest : Nat) : Prop where
 row : w.heap[r]? = some (.cells #[.slice (some ⟨g, o, none⟩) l.length c, .int .i64 nest] 96 (0, 0))
 tk : TK w g o l
 gl : g < w.heap.size
 ne : g ≠ r
 lc : l.length ≤ c
 cm : c ≤ maxLen
 few : l.length ≤ 1000000
theorem Rd.fr {bs : List Nat} {w w' : World} {r g o c : Nat} {l : List TI} {nest : Nat} (h : Rd w r g o c l nest) (hf : Fr bs w w') (hr : r ∉ bs) (hg : g ∉ bs) : Rd w' r g o c l nest :=
 ⟨hf.row h.row hr, h.tk.fr hf h.gl hg, Nat.lt_of_lt_of_le h.gl hf.size, h.ne, h.lc, h.cm, h.few⟩
theorem Rd.c0 {w : World} {r g o c : Nat} {l : List TI} {nest : Nat} (h : Rd w r g o c l nest) : w.cell? ⟨r, 0, none⟩ = some (.slice (some ⟨g, o, none⟩) l.length c) := by rw [cell_of_row _ _ _ _ _ _ h.row]; rfl
theorem Rd.c1 {w : World} {r g o c : Nat} {l : List TI} {nest : Nat} (h : Rd w r g o c l nest) : w.cell? ⟨r, 1, none⟩ = some (.int .i64 nest) := by rw [cell_of_row _ _ _ _ _ _ h.row]; rfl
set_option maxHeartbeats 4000000 in
set_option maxRecDepth 100000 in
theorem rd_next (w : World) (r g o c : Nat) (t : TI) (l : List TI) (nest : Nat) (k : Int) (s : ByteArray) (h : Rd w r g o c (t :: l) nest) :
  Calls Tryd.prog 55 #[.pointer (some ⟨r, 0, none⟩), .int .i64 k, .string s] w fun e w' => e = .returned (.bool (t.k == k && t.s.toList == s.toList)) ∧ w = w' := by
 obtain ⟨a0, a1, a2, a3⟩ := h.tk 0 t rfl
 have c0 := h.c0
 have hl := h.lc
 have hm := h.cm
 rw [List.length_cons] at c0 hl
 unfold maxLen at hm
 clear h
 simp only [Nat.mul_zero, Nat.add_zero] at a0 a1 a2 a3
 obtain ⟨tk, ts, tn, tp⟩ := t
 simp only [] at a0 a1 a2 a3 ⊢
 by_cases hk : tk = k
 ·obtain rfl : k = tk := hk.symm
  have d1 : decide (k = k) = true := decide_eq_true rfl
  have d2 : (k == k) = true := by simp
  go_enter Tryd.func55, Tryd.ntmps55
  go_wp2_with fail
  refine bodyPost_ret (results_tmp rfl _ _ _) rfl ?_
  simp
 ·have d1 : decide (tk = k) = false := decide_eq_false (by omega)
  have d2 : (tk == k) = false := by simp; omega
  go_enter Tryd.func55, Tryd.ntmps55
  go_wp2_with fail
  refine bodyPost_ret (results_tmp rfl _ _ _) rfl ?_
  simp [hk]
theorem Rd.cut {w : World} {r g o c : Nat} {t : TI} {l : List TI} {nest : Nat} (h : Rd w r g o c (t :: l) nest) :
  Rd (w.setCell ⟨r, 0, none⟩ (.slice (some ⟨g, o + 4, none⟩) l.length (c - 1))) r g (o + 4) (c - 1) l nest := by
 have hf : Fr [r] w (w.setCell ⟨r, 0, none⟩ (.slice (some ⟨g, o + 4, none⟩) l.length (c - 1))) := (Fr.refl [r] w).setCell (p := ⟨r, 0, none⟩) (.inl (by simp)) _
 have hl := h.lc
 rw [List.length_cons] at hl
 refine ⟨?_, (h.tk.tail).fr hf h.gl (by simp; exact h.ne), Nat.lt_of_lt_of_le h.gl hf.size, h.ne, by omega, by have := h.cm; omega, by have := h.few; rw [List.length_cons] at this; omega⟩
 exact (heap_setCell_same _ _ _ _ _ _ h.row).trans rfl
set_option maxHeartbeats 4000000 in
set_option maxRecDepth 100000 in
theorem rd_fail (w : World) (r g o c : Nat) (t : TI) (l : List TI) (nest : Nat) (e : Int) (h : Rd w r g o c (t :: l) nest) :
  Calls Tryd.prog 56 #[.pointer (some ⟨r, 0, none⟩), .int .i64 e] w fun x w' => Stops [] w t.p e x w' := by
 obtain ⟨a0, a1, a2, a3⟩ := h.tk 0 t rfl
 have c0 := h.c0
 have hl := h.lc
 have hm := h.cm
 rw [List.length_cons] at c0 hl
 unfold maxLen at hm
 clear h
 simp only [Nat.mul_zero, Nat.add_zero] at a0 a1 a2 a3
 obtain ⟨tk, ts, tn, tp⟩ := t
 simp only [] at a0 a1 a2 a3 ⊢
 go_enter Tryd.func56, Tryd.ntmps56
 go_wp2_with fail
 exact ⟨rfl, w.heap.size, Nat.le_refl _, rfl, heap_alloc_last _ _, (Fr.refl _ _).alloc _⟩
set_option maxHeartbeats 4000000 in
set_option maxRecDepth 100000 in
theorem rd_took (w : World) (r g o c : Nat) (t : TI) (l : List TI) (nest : Nat) (k : Int) (s : ByteArray) (h : Rd w r g o c (t :: l) nest) (hl : (t.k == k && t.s.toList == s.toList) = true → 0 < l.length) :
  Calls Tryd.prog 78 #[.pointer (some ⟨r, 0, none⟩), .int .i64 k, .string s] w fun e w' => e = .returned (.bool (t.k == k && t.s.toList == s.toList)) ∧ Fr [r] w w' ∧ if (t.k == k && t.s.toList == s.toList) = true then Rd w' r g (o + 4) (c - 1) l nest else w = w' := by
 have hR := Lib.hid h
 have c0 := h.c0
 have hlc := h.lc
 have hm := h.cm
 have f0 := frozen_of_row _ _ 0 _ _ h.row
 rw [List.length_cons] at c0 hlc
 unfold maxLen at hm
 clear h
 have HN := Lib.hid (rd_next w r g o c t l nest k s hR.out)
 obtain ⟨q, hq⟩ : ∃ q, (t.k == k && t.s.toList == s.toList) = q := ⟨_, rfl⟩
 rw [hq] at HN hl ⊢
 clear hq
 cases q
 ·clear hl
  go_enter Tryd.func78, Tryd.ntmps78
  go_wp2_with fail
  refine HN.out.mono ?_
  rintro e w1 ⟨rfl, rfl⟩
  show _
  go_wp2_with fail
  refine bodyPost_ret (results_tmp rfl _ _ _) rfl ?_
  simp; exact Fr.refl _ _
 ·have hl := hl rfl
  go_enter Tryd.func78, Tryd.ntmps78
  go_wp2_with fail
  refine HN.out.mono ?_
  rintro e w1 ⟨rfl, rfl⟩
  show _
  go_wp2_with fail
  refine bodyPost_ret (results_tmp rfl _ _ _) rfl ?_
  simp
  exact ⟨(Fr.refl [r] w).setCell (p := ⟨r, 0, none⟩) (.inl (by simp)) _, hR.out.cut⟩
set_option maxHeartbeats 4000000 in
set_option maxRecDepth 100000 in
theorem rd_must (w : World) (r g o c : Nat) (t : TI) (l : List TI) (nest : Nat) (s : ByteArray) (h : Rd w r g o c (t :: l) nest) (hl : (t.k == 4 && t.s.toList == s.toList) = true → 0 < l.length) :
  Calls Tryd.prog 83 #[.pointer (some ⟨r, 0, none⟩), .string s] w fun e w' => if (t.k == 4 && t.s.toList == s.toList) = true then e = .returned (.tuple #[]) ∧ Fr [r] w w' ∧ Rd w' r g (o + 4) (c - 1) l nest else Stops [r] w t.p 120 e w' := by
 have hR := Lib.hid h
 clear h
 have HK := Lib.hid (rd_took w r g o c t l nest 4 s hR.out hl)
 have HF := Lib.hid (fun w' (hw : Rd w' r g o c (t :: l) nest) => rd_fail w' r g o c t l nest 120 hw)
 obtain ⟨q, hq⟩ : ∃ q, (t.k == 4 && t.s.toList == s.toList) = q := ⟨_, rfl⟩
 rw [hq] at HK ⊢
 clear hq hl
 cases q
 ·go_enter Tryd.func83, Tryd.ntmps83
  go_wp2_with fail
  refine HK.out.mono ?_
  rintro e w1 ⟨rfl, hf, hw⟩
  simp at hw
  subst hw
  show _
  go_wp2_with fail
  refine (HF.out w hR.out).mono ?_
  intro e w1 hs
  obtain ⟨b, hb, rfl, hr, hf2⟩ := hs
  show _
  first | exact ⟨rfl, by simp; exact ⟨b, hb, rfl, hr, (Fr.refl [r] w).trans0 hf2⟩⟩ | (simp; exact ⟨b, hb, rfl, hr, (Fr.refl [r] w).trans0 hf2⟩)
 ·go_enter Tryd.func83, Tryd.ntmps83
  go_wp2_with fail
  refine HK.out.mono ?_
  rintro e w1 ⟨rfl, hf, hw⟩
  simp at hw
  have HW := Lib.hid hw
  have HF1 := Lib.hid hf
  clear hw hf
  show _
  go_wp2_with fail
  go_end0
  simp
  exact ⟨HF1.out, HW.out⟩
def TI.v (t : TI) : Value := .agg #[.int .i64 t.k, .string t.s, .int .i64 t.n, .int .i64 t.p]
set_option maxHeartbeats 4000000 in
set_option maxRecDepth 100000 in
theorem rd_take (w : World) (r g o c : Nat) (t : TI) (l : List TI) (nest : Nat) (k : Int) (h : Rd w r g o c (t :: l) nest) (hl : t.k = k → 0 < l.length) (hr : r < w.heap.size) :
  Calls Tryd.prog 81 #[.pointer (some ⟨r, 0, none⟩), .int .i64 k] w fun e w' => if t.k = k then e = .returned t.v ∧ Fr [r] w w' ∧ Rd w' r g (o + 4) (c - 1) l nest else Stops [r] w t.p 120 e w' := by
 have zT := (zero_of_info (P := Tryd.prog) (t := 25) (v := .agg #[.int .i64 0, .string ⟨#[]⟩, .int .i64 0, .int .i64 0]) (n := 4) (by kernel_rfl)).1
 have hR := Lib.hid h
 obtain ⟨a0, a1, a2, a3⟩ := h.tk 0 t rfl
 have c0 := h.c0
 have hlc := h.lc
 have hm := h.cm
 have f0 := frozen_of_row _ _ 0 _ _ h.row
 have hg := h.gl
 have hne := h.ne
 rw [List.length_cons] at c0 hlc
 unfold maxLen at hm
 simp only [Nat.mul_zero, Nat.add_zero] at a0 a1 a2 a3
 clear h
 have HF := Lib.hid (fun w' (hw : Rd w' r g o c (t :: l) nest) => rd_fail w' r g o c t l nest 120 hw)
 obtain ⟨tk, ts, tn, tp⟩ := t
 simp only [TI.v] at a0 a1 a2 a3 ⊢
 by_cases hk : tk = k
 ·obtain rfl : k = tk := hk.symm
  have hl := hl rfl
  simp only [if_true]
  have hsz : (w.setCell ⟨r, 0, none⟩ (.slice (some ⟨g, o + 4, none⟩) l.length (c - 1))).heap.size = w.heap.size := by simp [World.setCell]
  have h2 := heap_alloc2_old (w.setCell ⟨r, 0, none⟩ (.slice (some ⟨g, o + 4, none⟩) l.length (c - 1))) (.cells #[.int .i64 k, .string ts, .int .i64 tn, .int .i64 tp] 25) (.cells #[.int .i64 k, .string ts, .int .i64 tn, .int .i64 tp] 25)
  rw [hsz] at h2
  have H2 := Lib.hid h2
  clear h2 hsz
  go_enter Tryd.func81, Tryd.ntmps81
  go_wp2_with fail
  refine bodyPost_ret (v := .agg #[.int .i64 k, .string ts, .int .i64 tn, .int .i64 tp]) (results_cell_row rfl _ _ w.heap.size 25 _ (0, 0) _ rfl H2.out Tryd.underlying25 rfl ?_) rfl ⟨rfl, ?_, ?_⟩
  ·have : (Tryd.prog.info? 25).map (·.size) = some 4 := by kernel_rfl
   rw [this]; rfl
  ·exact (((Fr.refl [r] w).setCell (p := ⟨r, 0, none⟩) (.inl (by simp)) _).alloc _).alloc _
  ·exact hR.out.cut.fr (((Fr.refl [] _).alloc _).alloc _) (by simp) (by simp)
 ·simp only [if_neg hk]
  have d1 : (tk != k) = true := by simpa using hk
  clear hl
  go_enter Tryd.func81, Tryd.ntmps81
  go_wp2_with fail
  refine (HF.out _ (hR.out.fr (((Fr.refl [] w).alloc _).alloc _) (by simp) (by simp))).mono ?_
  intro e w1 hs
  obtain ⟨b, hb, rfl, hr, hf2⟩ := hs.from (((Fr.refl [r] w).alloc _).alloc _) (fun y hy => by cases hy)
  show _
  exact ⟨rfl, b, hb, rfl, hr, hf2⟩
set_option maxHeartbeats 4000000 in
set_option maxRecDepth 100000 in
theorem rd_deeper (w : World) (r g o c : Nat) (t : TI) (l : List TI) (nest : Nat) (h : Rd w r g o c (t :: l) nest) (hn : nest ≤ 12) :
  Calls Tryd.prog 109 #[.pointer (some ⟨r, 0, none⟩)] w fun e w' => if nest < 12 then e = .returned (.tuple #[]) ∧ Fr [r] w w' ∧ Rd w' r g o c (t :: l) (nest + 1) else Stops [r] w t.p 121 e w' := by
 have hR := Lib.hid h
 have c1 := h.c1
 have f1 := frozen_of_row _ _ 1 _ _ h.row
 have hS : Rd (w.setCell ⟨r, 1, none⟩ (.int .i64 ((nest : Int) + 1))) r g o c (t :: l) (nest + 1) := by
  have hf : Fr [r] w (w.setCell ⟨r, 1, none⟩ (.int .i64 ((nest : Int) + 1))) := (Fr.refl [r] w).setCell (p := ⟨r, 1, none⟩) (.inl (by simp)) _
  exact ⟨(heap_setCell_same _ _ _ _ _ _ h.row).trans rfl, h.tk.fr hf h.gl (by simp; exact h.ne), Nat.lt_of_lt_of_le h.gl hf.size, h.ne, h.lc, h.cm, h.few⟩
 have HS := Lib.hid hS
 have HFS : Hid (Fr [r] w (w.setCell ⟨r, 1, none⟩ (.int .i64 ((nest : Int) + 1)))) := (Fr.refl [r] w).setCell (p := ⟨r, 1, none⟩) (.inl (by simp)) _
 have HF := Lib.hid (fun w' (hw : Rd w' r g o c (t :: l) (nest + 1)) => rd_fail w' r g o c t l (nest + 1) 121 hw)
 clear h hS
 by_cases hk : nest < 12
 ·simp only [if_pos hk]
  have d1 : ¬ (12 : Int) < (nest : Int) + 1 := by omega
  go_enter Tryd.func109, Tryd.ntmps109
  go_wp2_with fail
  go_end0
  exact ⟨rfl, HFS.out, HS.out⟩
 ·simp only [if_neg hk]
  have d1 : (12 : Int) < (nest : Int) + 1 := by omega
  go_enter Tryd.func109, Tryd.ntmps109
  go_wp2_with fail
  refine (HF.out _ HS.out).mono ?_
  intro e w1 hs
  obtain ⟨b, hb, rfl, hr, hf2⟩ := hs.from HFS.out (fun y hy => by cases hy)
  show _
  exact ⟨rfl, b, hb, rfl, hr, hf2⟩
end Go.Proofs.YtgklmpooonnmiaaDoor
