/-
  Lemmas and contracts that the proofs over this seat use (LexTextP, Held); no statement of the seat is claimed in this text, and nothing is assumed in it.
-/
import Derived.Test.YtgklmpooonnmiaaDoorJ6
import Derived.Deep.RegionHeld3
set_option linter.unusedVariables false
set_option linter.unusedSimpArgs false
namespace Go.Proofs.YtgklmpooonnmiaaDoor
open Go.RowKit
namespace Utf
theorem pre_congr {f g : Nat → Nat} (k : Nat) (h : ∀ i, i ≤ k → f i = g i) : pre f k = pre g k := by
 induction k with
 | zero => simp [pre, h 0 (by omega)]
 | succ k ih => simp only [pre]; rw [ih (fun i hi => h i (by omega)), h (k + 1) (by omega)]
theorem cont_congr {f g : Nat → Nat} (k : Nat) (h : ∀ i, i ≤ k → f i = g i) : cont f k = cont g k := by
 induction k with
 | zero => rfl
 | succ k ih => simp only [cont]; rw [ih (fun i hi => h i (by omega)), h (k + 1) (by omega)]
theorem wide_le (c : Nat) : wide c ≤ 4 := by unfold wide; split; omega; split; omega; split; omega; split; omega; split <;> omega
theorem next_congr {f g : Nat → Nat} {n m : Nat} (h : ∀ i, i < n → f i = g i) (hm : n = min m 4) : next f n = next g m := by
 have hw := wide_le (f 0)
 unfold next
 by_cases h0 : m = 0
 ·rw [if_pos (by omega), if_pos h0]
 ·have e0 := h 0 (by omega)
  rw [if_neg (by omega), if_neg h0, ← e0]
  split
  ·rfl
  ·by_cases h1 : wide (f 0) = 0 ∨ n < wide (f 0)
   ·rw [if_pos h1, if_pos (by omega)]
   ·rw [if_neg h1, if_neg (show ¬ (wide (f 0) = 0 ∨ m < wide (f 0)) by omega), pre_congr (f := f) (g := g) (wide (f 0) - 1) (fun i hi => h i (by omega)), cont_congr (f := f) (g := g) (wide (f 0) - 1) (fun i hi => h i (by omega))]
end Utf
theorem bn_ext (s : ByteArray) (a b i : Nat) (hb : b ≤ s.size) (hi : i < b - a) : bn (s.extract a b) i = bn s (a + i) := by
 have h1 : i < (s.extract a b).size := by simp; omega
 rw [← bn_at _ i h1, ← bn_at s (a + i) (by omega)]
 congr 1
 exact ByteArray.getElem_extract _
theorem nats_ext (s : ByteArray) (a b : Nat) : nats (s.extract a b) = ((nats s).drop a).take (b - a) := by
 simp [nats, List.map_take, List.map_drop, List.extract]
namespace Lex
def text (s : ByteArray) (k : Nat) (out : List Nat) : Option (List Nat) × Nat :=
 if k < s.size then
  (if bn s k < 32 then (none, k)
  else if bn s k = 34 then (some out, k + 1)
  else if bn s k = 92 then (if k + 1 < s.size ∧ (bn s (k + 1) = 34 ∨ bn s (k + 1) = 92) then text s (k + 2) (out ++ [bn s (k + 1)]) else (none, k + 1))
  else match Utf.next (fun i => bn s (k + i)) (s.size - k) with
   | (none, _) => (none, k)
   | (some _, m) => text s (k + max m 1) (out ++ ((nats s).drop k).take m))
 else (none, k)
termination_by s.size - k
decreasing_by all_goals omega
end Lex
def textEr : Option (List Nat) × Nat → Er
 | (some _, _) => .ok
 | (none, p) => .pl p 110
theorem Bld.keep {B b : Nat} {D : List Nat} {w w' : World} (h : Bld B b D w) (hk : ∀ k, B ≤ k → k < w.heap.size → w'.heap[k]? = w.heap[k]?) : Bld B b D w' := by
 have key : ∀ p, BldAt B b p D w → BldAt B b p D w' := fun p hp => by
  obtain ⟨hB, v, hb, ho, hne⟩ := hp
  refine ⟨hB, v, (hk b hB (row_lt hb)).trans hb, ⟨ho.1, ?_⟩, hne⟩
  rcases ho.2 with h1 | ⟨g, cap, cur, hv, hg, hgg, r⟩
  ·exact Or.inl h1
  ·exact Or.inr ⟨g, cap, cur, hv, hg, (hk g hg (row_lt hgg)).trans hgg, r⟩
 rcases h with h | h
 ·exact Or.inl (key _ h)
 ·exact Or.inr (key _ h)
theorem Bld.fr {B b : Nat} {D : List Nat} {w w' : World} (h : Bld B b D w) (hF : Fr [] w w') : Bld B b D w' := h.keep (fun k _ hk => hF.block k hk (by simp))
theorem Bld.set {B b c o : Nat} {u : Value} {D : List Nat} {w : World} (h : Bld B b D w) (hc : c < B) : Bld B b D (w.setCell ⟨c, o, none⟩ u) := h.keep (fun k hB _ => Below.heap_setCell _ _ _ _ (by show k ≠ c; omega))
theorem fresh_bld (w : World) : Bld w.heap.size w.heap.size [] (w.alloc (.cells #[.pointer none, .slice none 0 0] 106)) := Lib.fresh_isBuilder _ _ w
theorem Fr.step {bs : List Nat} {a w w' : World} (h : Fr bs a w) (hb : Below a.heap.size w w') : Fr bs a w' :=
 ⟨hb.os.trans h.os, hb.tape.trans h.tape, hb.output.trans h.output, Nat.le_trans h.size hb.size, fun k hk hn => (hb.block k hk).trans (h.block k hk hn)⟩
theorem Sc.below {w w' : World} {b B : Nat} {s : ByteArray} {k : Nat} {lv : Value} (h : Sc w b s k lv) (hb : Below B w w') (hB : b < B) : Sc w' b s k lv := (hb.block b hB).trans h
theorem next_conv (V : World) (T : ByteArray) (x : Option Nat) (m : Nat) (hT : T.size ≤ maxLen) (hL : Least V) (hx : Utf.next (bn T) T.size = (x, m)) :
  Calls Tryd.prog 59 #[.slice (some ⟨V.heap.size, 0, none⟩) T.size (grownCap V T.size 0 5)] (Lib.bytesWorld V 5 T) fun e w' => e = .returned (.tuple #[.int .i64 (letZ x), .int .i64 (m : Nat)]) ∧ Lib.bytesWorld V 5 T = w' := by
 have h := utf_next _ _ _ _ _ (rb_bytes V T hT) (grownCap_ge V T.size 5) (grownCap_le V T.size 5 hT) (hL.fr (fr_bytes V _ T) (by simp))
 rw [hx] at h
 exact h
theorem bld_string (B b : Nat) (D : List Nat) (w : World) (h : Bld B b D w) (hD : ∀ x ∈ D, x < 256) (hB : B ≤ w.heap.size) :
  Calls Tryd.prog 63 #[.pointer (some ⟨b, 0, none⟩)] w fun e w' => e = .returned (.string (ba D)) ∧ Below B w w' := by
 unfold Bld at h
 rw [u8s_byteCells D hD] at h
 exact Tryd.Builder_String_any B b _ w h hB
end Go.Proofs.YtgklmpooonnmiaaDoor

namespace Go.Proofs.YtgklmpooonnmiaaDoor
theorem held_take {P : Program} {md : Region.Mode} {ops : Array Oper} {Q : Exit → Act → World → Prop} {S : World → Prop} {i : Nat} {oi : Oper} {v : Value} {fuel : Nat} {listed : Array Bool} {a : Act} {w : World} (d : Tmp) (hi : ops[i]? = some oi) (hd : oi.dst = some d)
  (hs : Region.noSelect ops = true) (hf : Region.free md ops listed i = true) (hr : (Region.ready md ops listed).contains i = true)
  (hQ : ∀ c a w, Q (.panic c) (a.put oi.dst v) w → Q (.panic c) a w) (hy : YieldsIf P ops S oi v a) (hS : S w)
  (h : wpAnyH P md ops Q S fuel (listed.setIfInBounds i true) (a.put (some d) v) w) : wpAnyH P md ops Q S (fuel + 1) listed a w :=
 wpAnyH_take hi hs hf hr hQ hy hS (by rw [hd]; exact h)
end Go.Proofs.YtgklmpooonnmiaaDoor
