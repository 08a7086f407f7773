/-
  Lemmas and contracts that the proofs over this seat use (LexSmall, LexTokP); no statement of the seat is claimed in this text, and nothing is assumed in it.
-/
import Derived.Test.YtgklmpooonnmiaaDoorJ8
set_option linter.unusedVariables false
set_option linter.unusedSimpArgs false
namespace Go.Proofs.YtgklmpooonnmiaaDoor
open Go.RowKit
namespace Lex
def small (c : Nat) : Bool := (decide (97 ≤ c) && decide (c ≤ 122)) || decide (c = 95)
def smalls (f : Nat → Nat) (n k : Nat) : Nat := if k < n then (if small (f k) = true then smalls f n (k + 1) else k) else k
termination_by n - k
decreasing_by omega
theorem smalls_yes {f : Nat → Nat} {n k : Nat} (h : k < n) (hd : small (f k) = true) : smalls f n k = smalls f n (k + 1) := by
 conv => lhs; rw [smalls]
 rw [if_pos h, if_pos hd]
theorem smalls_no {f : Nat → Nat} {n k : Nat} (hd : ¬ small (f k) = true) : smalls f n k = k := by rw [smalls, if_neg hd, ite_self]
theorem smalls_end {f : Nat → Nat} {n k : Nat} (h : ¬ k < n) : smalls f n k = k := by rw [smalls, if_neg h]
theorem smalls_ge (f : Nat → Nat) (n k : Nat) : k ≤ smalls f n k := by
 fun_induction smalls f n k <;> omega
theorem smalls_le (f : Nat → Nat) (n k : Nat) (h : k ≤ n) : smalls f n k ≤ n := by
 fun_induction smalls f n k <;> omega
def isOne (c : Nat) : Bool := c == 40 || c == 41 || c == 91 || c == 93 || c == 44 || c == 59 || c == 61
def sign (f : Nat → Nat) (n : Nat) : Nat :=
 if n = 0 then 0
 else if f 0 = 33 then (if 1 < n ∧ f 1 = 61 then 2 else 0)
 else if f 0 = 60 ∨ f 0 = 62 then (if 1 < n ∧ f 1 = 61 then 2 else 1)
 else if isOne (f 0) = true then 1 else 0
theorem sign_le (f : Nat → Nat) (n : Nat) : sign f n ≤ n := by
 unfold sign
 split
 ·omega
 ·split
  ·split <;> omega
  ·split
   ·split <;> omega
   ·split <;> omega
end Lex
theorem ext_none (s : ByteArray) (k : Nat) : s.extract k k = ⟨#[]⟩ := by
 ext1
 simp
theorem lex_small (c : Nat) (w : World) :
  Calls Tryd.prog 58 #[.int .u8 c] w fun e w' => e = .returned (.bool (Lex.small c)) ∧ w = w' := by
 by_cases h1 : 97 ≤ c
 ·have h1' : (c : Int) ≥ 97 := by omega
  by_cases h2 : c ≤ 122
  ·have h2' : (c : Int) ≤ 122 := by omega
   have e : Lex.small c = true := by simp [Lex.small, h1, h2]
   rw [e]
   clear e h1 h2
   go_enter Tryd.func58, Tryd.ntmps58
   go_wp2
   go_ret
   exact ⟨rfl, rfl⟩
  ·have h2' : ¬ (c : Int) ≤ 122 := by omega
   have e : Lex.small c = false := by simp [Lex.small, h2]; omega
   have q : ((c : Int) == 95) = false := beq_eq_false_iff_ne.2 (by omega)
   rw [e]
   clear e h1 h2
   go_enter Tryd.func58, Tryd.ntmps58
   go_wp2
   go_ret
   exact ⟨rfl, rfl⟩
 ·have h1' : ¬ (c : Int) ≥ 97 := by omega
  by_cases h2 : c = 95
  ·have e : Lex.small c = true := by simp [Lex.small, h2]
   have q : ((c : Int) == 95) = true := beq_iff_eq.2 (by omega)
   rw [e]
   clear e h1 h2
   go_enter Tryd.func58, Tryd.ntmps58
   go_wp2
   go_ret
   exact ⟨rfl, rfl⟩
  ·have e : Lex.small c = false := by simp [Lex.small, h1, h2]
   have q : ((c : Int) == 95) = false := beq_eq_false_iff_ne.2 (by omega)
   rw [e]
   clear e h1 h2
   go_enter Tryd.func58, Tryd.ntmps58
   go_wp2
   go_ret
   exact ⟨rfl, rfl⟩
theorem toList_ne {s : ByteArray} (h : 0 < s.size) : ¬ s.toList = [] ∧ s.toList.isEmpty = false := by
 have h1 : ¬ s.toList = [] := fun h0 => by
  rw [ByteArray.toList_eq] at h0
  have h2 := congrArg List.length h0
  have h3 : s.data.toList.length = s.size := by simp
  rw [List.length_nil] at h2
  omega
 exact ⟨h1, by cases hq : s.toList with | nil => exact absurd hq h1 | cons => rfl⟩
theorem toList_nil {s : ByteArray} (h : s.size = 0) : s.toList = [] := by
 rw [ByteArray.toList_eq]; exact List.eq_nil_of_length_eq_zero (by simpa using h)
set_option maxHeartbeats 4000000 in
theorem lex_sign (w : World) (s : ByteArray) (hs : s.size ≤ maxLen) :
  Calls Tryd.prog 29 #[.string s] w fun e w' => e = .returned (.string (s.extract 0 (Lex.sign (bn s) s.size))) ∧ w = w' := by
 unfold maxLen at hs
 by_cases h0 : s.size = 0
 ·have e1 := toList_nil h0
  have hE : Hid (s.extract 0 (Lex.sign (bn s) s.size) = ⟨#[]⟩) := by
   show _ = _; unfold Lex.sign; rw [if_pos h0, ext_none]
  rw [hE.out]
  go_enter Tryd.func29, Tryd.ntmps29
  go_wp2
  go_ret
  exact ⟨rfl, rfl⟩
 obtain ⟨hne, hie⟩ := toList_ne (by omega : 0 < s.size)
 have hn0 : 0 < s.size := by omega
 have hz0 := bn_at s 0 hn0
 have hz1 := Lib.hid (bn_at s 1)
 obtain ⟨c, hc⟩ : ∃ c, Hid (bn s 0 = c) := ⟨_, rfl⟩
 obtain ⟨d, hd⟩ : ∃ d, Hid (bn s 1 = d) := ⟨_, rfl⟩
 rw [hc.out] at hz0
 rw [hd.out] at hz1
 have HSG : Hid (Lex.sign (bn s) s.size = if c = 33 then (if 1 < s.size ∧ d = 61 then 2 else 0) else if c = 60 ∨ c = 62 then (if 1 < s.size ∧ d = 61 then 2 else 1) else if Lex.isOne c = true then 1 else 0) := by
  show _ = _; unfold Lex.sign; rw [if_neg h0, hc.out, hd.out]
 have hcases : c = 33 ∨ (c = 60 ∨ c = 62) ∨ (c = 40 ∨ c = 41 ∨ c = 91 ∨ c = 93 ∨ c = 44 ∨ c = 59 ∨ c = 61) ∨ (c ≠ 33 ∧ c ≠ 60 ∧ c ≠ 62 ∧ Lex.isOne c = false) := by
  simp [Lex.isOne]; omega
 have hex0 := ext_none s 0
 have HTWO : (1 < s.size ∧ d = 61 ∧ (s.size : Int) > 1) ∨ (1 < s.size ∧ d ≠ 61 ∧ (s.size : Int) > 1 ∧ ((d : Int) == 61) = false) ∨ (¬ 1 < s.size ∧ ¬ (s.size : Int) > 1) := by
  by_cases h1 : 1 < s.size
  ·by_cases h2 : d = 61
   ·exact Or.inl ⟨h1, h2, by omega⟩
   ·exact Or.inr (Or.inl ⟨h1, h2, by omega, beq_eq_false_iff_ne.2 (by omega)⟩)
  ·exact Or.inr (Or.inr ⟨h1, by omega⟩)
 have HEX0 := Lib.hid hex0
 clear hex0
 obtain ⟨K, hK⟩ : ∃ K, Hid (Lex.sign (bn s) s.size = K) := ⟨_, rfl⟩
 rw [hK.out]
 rw [hK.out] at HSG
 have fin : ∀ (j : Nat) (v : ByteArray), K = j → s.extract 0 j = v → Hid (s.extract 0 K = v) := fun j v h1 h2 => by rw [h1]; exact h2
 rcases HTWO with ⟨h1, h2, h3⟩ | ⟨h1, h2, h3, h4⟩ | ⟨h1, h3⟩
 case' inl => have hz1' := hz1.out h1
 case' inr.inl => have hz1' := hz1.out h1
 all_goals
  rcases hcases with rfl | (rfl | rfl) | (rfl | rfl | rfl | rfl | rfl | rfl | rfl) | ⟨n1, n2, n3, n4⟩
 all_goals
  have hk : K = _ := HSG.out
  first
   | (simp only [n1, n2, n3, n4, if_false, false_or, Bool.false_eq_true] at hk
      have q1 : ((c : Int) == 33) = false := beq_eq_false_iff_ne.2 (by omega)
      have q2 : ((c : Int) == 60) = false := beq_eq_false_iff_ne.2 (by omega)
      have q3 : ((c : Int) == 62) = false := beq_eq_false_iff_ne.2 (by omega)
      simp [Lex.isOne] at n4
      have q4 : ((c : Int) == 40) = false := beq_eq_false_iff_ne.2 (by omega)
      have q5 : ((c : Int) == 41) = false := beq_eq_false_iff_ne.2 (by omega)
      have q6 : ((c : Int) == 91) = false := beq_eq_false_iff_ne.2 (by omega)
      have q7 : ((c : Int) == 93) = false := beq_eq_false_iff_ne.2 (by omega)
      have q8 : ((c : Int) == 44) = false := beq_eq_false_iff_ne.2 (by omega)
      have q9 : ((c : Int) == 59) = false := beq_eq_false_iff_ne.2 (by omega)
      have q10 : ((c : Int) == 61) = false := beq_eq_false_iff_ne.2 (by omega)
      clear n1 n2 n3 n4)
   | simp [h1, h2, Lex.isOne] at hk
   | simp [h1, Lex.isOne] at hk
  subst hk
  have h6 : (1 : Int) ≤ (s.size : Int) := by omega
  try (have h7 : (2 : Int) ≤ (s.size : Int) := by omega)
  clear fin hK HSG h0 hc hd hz1
  try rw [HEX0.out]
  go_enter Tryd.func29, Tryd.ntmps29
  go_wp2
  go_ret
  exact ⟨rfl, rfl⟩
end Go.Proofs.YtgklmpooonnmiaaDoor

namespace Go.Proofs.YtgklmpooonnmiaaDoor
open Go.RowKit
structure Tk where
 k : Nat
 s : ByteArray
 n : Int
 p : Nat
def Tk.c (t : Tk) : List Value := [.int .i64 (t.k : Nat), .string t.s, .int .i64 t.n, .int .i64 (t.p : Nat)]
inductive TR where
 | ok (t : Tk) (m : Nat)
 | bad (p n : Nat)
namespace Lex
def tokSmall (T : ByteArray) (k n : Nat) : TR := if 32 < n then .bad k 110 else .ok ⟨1, T.extract 0 n, 0, k⟩ (k + n)
def tokText (k : Nat) : Option (List Nat) × Nat → TR
 | (some o, e) => .ok ⟨2, ba o, 0, k⟩ e
 | (none, p) => .bad p 110
def tokRead (k n : Nat) : Int × Er → TR
 | (v, .ok) => .ok ⟨3, ⟨#[]⟩, v, k⟩ (k + n)
 | _ => .bad k 41
def tokNum (T : ByteArray) (k n : Nat) : TR := if n = 0 then .bad k 110 else tokRead k n (Dec.read (bn (T.extract 0 n)) (T.extract 0 n).size (-9007199254740991) 9007199254740991)
def tokSign (T : ByteArray) (k n : Nat) : TR := if n = 0 then .bad k 110 else .ok ⟨4, T.extract 0 n, 0, k⟩ (k + n)
def tokR (s T : ByteArray) (k c : Nat) : TR :=
 if small c = true then tokSmall T k (smalls (bn T) T.size 0)
 else if c = 34 then tokText k (text s (k + 1) [])
 else if c = 45 ∨ Dec.dig c = true then tokNum T k (Dec.lead (bn T) T.size)
 else tokSign T k (sign (bn T) T.size)
def token (s : ByteArray) (k : Nat) : TR := tokR s (s.extract k s.size) k (bn (s.extract k s.size) 0)
end Lex
def zTk : Array Value := #[.int .i64 0, .string ⟨#[]⟩, .int .i64 0, .int .i64 0]
structure TT (w : World) (b g : Nat) (s : ByteArray) (lv : Value) (k : Nat) (r t : Array Value) (W : World) : Prop where
 sc : Sc W b s k lv
 r : W.heap[g]? = some (.cells r 25 (0, 0))
 t : W.heap[g + 1]? = some (.cells t 25 (0, 0))
 f : Fr [b] w W
 ge : g = w.heap.size
theorem TT.fr {w : World} {b g : Nat} {s : ByteArray} {lv : Value} {k : Nat} {r t : Array Value} {W W' : World} (h : TT w b g s lv k r t W) (hF : Fr [] W W') : TT w b g s lv k r t W' :=
 ⟨h.sc.fr hF, hF.row h.r (by simp), hF.row h.t (by simp), h.f.trans0 hF, h.ge⟩
theorem TT.lt {w : World} {b g : Nat} {s : ByteArray} {lv : Value} {k : Nat} {r t : Array Value} {W : World} (h : TT w b g s lv k r t W) (hb : b < w.heap.size) : b ≠ g ∧ b ≠ g + 1 := by have := h.ge; omega
theorem TT.put {w : World} {b g : Nat} {s : ByteArray} {lv : Value} {k : Nat} {r t : Array Value} {W : World} (h : TT w b g s lv k r t W) (hb : b < w.heap.size) (m : Nat) : TT w b g s lv m r t (W.setCell ⟨b, 1, none⟩ (.int .i64 (m : Nat))) :=
 ⟨h.sc.put m, by rw [Below.heap_setCell _ _ _ _ (by have := h.ge; show g ≠ b; omega)]; exact h.r, by rw [Below.heap_setCell _ _ _ _ (by have := h.ge; show g + 1 ≠ b; omega)]; exact h.t, h.f.setCell (.inl (by simp)) _, h.ge⟩
theorem TT.sett {w : World} {b g : Nat} {s : ByteArray} {lv : Value} {k : Nat} {r t : Array Value} {W : World} (h : TT w b g s lv k r t W) (hb : b < w.heap.size) (i : Nat) (v : Value) : TT w b g s lv k r (t.setIfInBounds i v) (W.setCell ⟨g + 1, i, none⟩ v) :=
 ⟨by unfold Sc; rw [Below.heap_setCell _ _ _ _ (by have := h.ge; show b ≠ g + 1; omega)]; exact h.sc, by rw [Below.heap_setCell _ _ _ _ (by show g ≠ g + 1; omega)]; exact h.r, heap_setCell_same _ _ _ _ _ _ h.t, h.f.setCell (.inr (by have := h.ge; show w.heap.size ≤ g + 1; omega)) _, h.ge⟩
theorem TT.setr {w : World} {b g : Nat} {s : ByteArray} {lv : Value} {k : Nat} {r t : Array Value} {W : World} (h : TT w b g s lv k r t W) (hb : b < w.heap.size) (i : Nat) (v : Value) : TT w b g s lv k (r.setIfInBounds i v) t (W.setCell ⟨g, i, none⟩ v) :=
 ⟨by unfold Sc; rw [Below.heap_setCell _ _ _ _ (by have := h.ge; show b ≠ g; omega)]; exact h.sc, heap_setCell_same _ _ _ _ _ _ h.r, by rw [Below.heap_setCell _ _ _ _ (by show g + 1 ≠ g; omega)]; exact h.t, h.f.setCell (.inr (by have := h.ge; show w.heap.size ≤ g; omega)) _, h.ge⟩
theorem TT.step {w : World} {b g : Nat} {s : ByteArray} {lv : Value} {k m : Nat} {r t : Array Value} {W W' : World} (h : TT w b g s lv k r t W) (hb : b < w.heap.size) (hF : Fr [b] W W') (hS : Sc W' b s m lv) : TT w b g s lv m r t W' :=
 ⟨hS, hF.row h.r (by have := h.ge; simp; omega), hF.row h.t (by have := h.ge; simp; omega), h.f.trans1 hF (.inl (by simp)), h.ge⟩
theorem TT.least {w : World} {b g : Nat} {s : ByteArray} {lv : Value} {k : Nat} {r t : Array Value} {W : World} (h : TT w b g s lv k r t W) (hL : Least w) (hb : 1 ≠ b) : Least W := hL.fr h.f (by simpa using hb)
theorem results_cell_tmp {P : Program} {fn : Func} {p q : Tmp} {ty : TypeId} (h : fn.results = #[.cell p ty, .tmp q]) (tmps : Array Value) (w : World) (g : Nat) (t : TypeId) (cs : Array Value) (fr : Nat × Nat) (d : TypeDesc)
  (hp : tmps.getD p undef = .pointer (some ⟨g, 0, none⟩)) (hg : w.heap[g]? = some (.cells cs t fr))
  (hu : P.underlying ty = some d) (hd : (match d with | .struct _ | .array _ _ => true | _ => false) = true) (hi : (P.info? ty).map (·.size) = some cs.size) :
  (results fn tmps).run P w = .ok (.tuple #[.agg cs, tmps.getD q undef]) w := by
 have hp' : tmps[p]?.getD undef = .pointer (some ⟨g, 0, none⟩) := by simpa using hp
 simp [results, h, hp', asAddr, run_loadVar_row w g t ty cs fr d hg hu hd hi]
theorem ErV.set {w : World} {B c i : Nat} {u : Value} {e : Er} {v : Value} (h : ErV w B e v) (hc : c < B) : ErV (w.setCell ⟨c, i, none⟩ u) B e v := by
 cases e with
 | ok => exact h
 | no n => exact h
 | pl p n => obtain ⟨b, hb, hv, hr⟩ := h; exact ⟨b, hb, hv, by rw [Below.heap_setCell _ _ _ _ (by show b ≠ c; omega)]; exact hr⟩
def TokTold (w : World) (b : Nat) (s : ByteArray) (lv : Value) : TR → Array Value → Value → World → Prop
 | .ok t m, tv, ev, w' => tv = t.c.toArray ∧ ev = .nilIface ∧ Sc w' b s m lv ∧ Fr [b] w w'
 | .bad p n, tv, ev, w' => (∃ t : Tk, tv = t.c.toArray) ∧ ErV w' w.heap.size (.pl p n) ev ∧ Fr [b] w w'
end Go.Proofs.YtgklmpooonnmiaaDoor
