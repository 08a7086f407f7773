/-
  Lemmas and contracts that the proofs over this seat use (Lib, Utf); no statement of the seat is claimed in this text, and nothing is assumed in it.
-/
import Derived.WalkKit
import Derived.WalkSpells
import Derived.WalkLawsBesides
import Derived.Lib.Hide
import Derived.Deep.MidRow
import Derived.Deep.WholeRow
import Derived.BigQuiet
import Derived.Deep.QuietTactic
import Derived.StillTailTactics
import Derived.Test.YtgklmpooonnmiaaDoorProg
set_option linter.unusedVariables false
set_option linter.unusedSimpArgs false
namespace Go.Proofs.YtgklmpooonnmiaaDoor
open Go.RowKit
structure Fr (bs : List Nat) (w w' : World) : Prop where
 os : w'.os = w.os
 tape : w'.tape = w.tape
 output : w'.output = w.output
 size : w.heap.size ≤ w'.heap.size
 block : ∀ k, k < w.heap.size → k ∉ bs → w'.heap[k]? = w.heap[k]?
theorem Fr.refl (bs : List Nat) (w : World) : Fr bs w w := ⟨rfl, rfl, rfl, Nat.le_refl _, fun _ _ _ => rfl⟩
theorem Fr.trans {bs cs : List Nat} {a b c : World} (h : Fr bs a b) (k : Fr cs b c) (hs : ∀ x ∈ cs, x ∈ bs ∨ a.heap.size ≤ x) : Fr bs a c :=
 ⟨k.os.trans h.os, k.tape.trans h.tape, k.output.trans h.output, Nat.le_trans h.size k.size, fun i hi hn =>
  (k.block i (Nat.lt_of_lt_of_le hi h.size) (fun hc => by rcases hs i hc with h1 | h1; exact hn h1; omega)).trans (h.block i hi hn)⟩
theorem Fr.trans0 {bs : List Nat} {a b c : World} (h : Fr bs a b) (k : Fr [] b c) : Fr bs a c := h.trans k (fun _ h => by cases h)
theorem Fr.trans1 {bs : List Nat} {x : Nat} {a b c : World} (h : Fr bs a b) (k : Fr [x] b c) (hs : x ∈ bs ∨ a.heap.size ≤ x) : Fr bs a c :=
 h.trans k (fun y hy => by simp at hy; subst hy; exact hs)
theorem Fr.drew {bs : List Nat} {a w : World} (h : Fr bs a w) : Fr bs a w.drew := ⟨h.os, h.tape, h.output, h.size, h.block⟩
theorem heap_drewN (w : World) (n : Nat) : (w.drewN n).heap = w.heap := by
 induction n generalizing w with
 | zero => rfl
 | succ n ih => first | exact ih _ | simp [World.drewN, ih]
theorem Fr.alloc {bs : List Nat} {a w : World} (h : Fr bs a w) (o : Obj) : Fr bs a (w.alloc o) :=
 h.trans0 ⟨rfl, rfl, rfl, by simp, fun k hk _ => Below.heap_alloc _ _ _ hk⟩
theorem Fr.setCell {bs : List Nat} {a w : World} (h : Fr bs a w) {p : Addr} (hp : p.block ∈ bs ∨ a.heap.size ≤ p.block) (u : Value) : Fr bs a (w.setCell p u) :=
 h.trans1 (x := p.block) ⟨rfl, rfl, rfl, by simp [World.setCell], fun k _ hn => Below.heap_setCell _ _ _ _ (by simpa using hn)⟩ hp
theorem Fr.new {x : Nat} {bs : List Nat} {w w' : World} (h : Fr (x :: bs) w w') (hx : w.heap.size ≤ x) : Fr bs w w' :=
 ⟨h.os, h.tape, h.output, h.size, fun k hk hn => h.block k hk (by simp; exact ⟨by omega, hn⟩)⟩
theorem Fr.below {w w' : World} (h : Fr [] w w') : Below w.heap.size w w' := ⟨h.os, h.tape, h.output, h.size, fun k hk => h.block k hk (by simp)⟩
theorem Fr.of_below {w w' : World} (h : Below w.heap.size w w') : Fr [] w w' := ⟨h.os, h.tape, h.output, h.size, fun k hk _ => h.block k hk⟩
theorem Fr.row {bs : List Nat} {w w' : World} (h : Fr bs w w') {g : Nat} {o : Obj} (hg : w.heap[g]? = some o) (hn : g ∉ bs) : w'.heap[g]? = some o := by
 have hl : g < w.heap.size := (Array.getElem?_eq_some_iff.1 hg).1
 rw [h.block g hl hn]; exact hg
theorem row_lt {w : World} {g : Nat} {o : Obj} (hg : w.heap[g]? = some o) : g < w.heap.size := (Array.getElem?_eq_some_iff.1 hg).1
theorem Fr.cell {bs : List Nat} {w w' : World} (h : Fr bs w w') {p : Addr} (hl : p.block < w.heap.size) (hn : p.block ∉ bs) : w'.cell? p = w.cell? p :=
 World.cell?_of_block (w := w) (h.block p.block hl hn)
theorem Fr.frozen {bs : List Nat} {w w' : World} (h : Fr bs w w') {p : Addr} (hl : p.block < w.heap.size) (hn : p.block ∉ bs) : w'.frozen? p = w.frozen? p :=
 World.frozen?_of_block (w := w) (h.block p.block hl hn)
theorem Fr.cells {w w' : World} (h : Fr [] w w') {a : Addr} {v : Value} (hc : w.cell? a = some v) : w'.cell? a = some v :=
 (h.cell (block_lt_of_cell hc) (by simp)).trans hc
theorem Fr.drewN {bs : List Nat} {a w : World} (h : Fr bs a w) (n : Nat) : Fr bs a (w.drewN n) := by
 have e := heap_drewN w n
 induction n generalizing w with
 | zero => exact h
 | succ n ih => first | exact ih h.drew (heap_drewN _ _) | (rw [World.drewN]; exact (ih h (heap_drewN _ _)).drew)
theorem wp_fresh {P : Program} {c : Code} {Q : Exit → Act → World → Prop} {a : Act} {w : World} (S : World → Prop) (hS : S w) (h : ∀ w, S w → c.wp P Q a w) : c.wp P Q a w := h w hS
theorem calls_fresh {P : Program} {f : FuncId} {args : Array Value} {R : Ending → World → Prop} {w : World} (S : World → Prop) (hS : S w) (h : ∀ w, S w → Calls P f args w R) : Calls P f args w R := h w hS
end Go.Proofs.YtgklmpooonnmiaaDoor

namespace Go.Proofs.YtgklmpooonnmiaaDoor
open Go.RowKit
namespace Utf
def right (n : Nat) : Bool := decide (n ≤ 1114111) && (decide (n < 55296) || decide (57343 < n))
def least : Nat → Nat
 | 2 => 128
 | 3 => 2048
 | 4 => 65536
 | _ => 0
def wide (c : Nat) : Nat := if c < 128 then 1 else if c < 192 then 0 else if c < 224 then 2 else if c < 240 then 3 else if c < 248 then 4 else 0
def first (c : Nat) : Nat := if c < 224 then c % 32 else if c < 240 then c % 16 else c % 8
def pre (f : Nat → Nat) : Nat → Nat
 | 0 => first (f 0)
 | i + 1 => pre f i * 64 + f (i + 1) % 64
def cont (f : Nat → Nat) : Nat → Bool
 | 0 => true
 | i + 1 => cont f i && decide (f (i + 1) / 64 = 2)
def next (f : Nat → Nat) (len : Nat) : Option Nat × Nat :=
 if len = 0 then (none, 0)
 else if f 0 < 128 then (some (f 0), 1)
 else if wide (f 0) = 0 ∨ len < wide (f 0) then (none, 1)
 else if cont f (wide (f 0) - 1) = true ∧ least (wide (f 0)) ≤ pre f (wide (f 0) - 1) ∧ right (pre f (wide (f 0) - 1)) = true then (some (pre f (wide (f 0) - 1)), wide (f 0))
 else (none, 1)
end Utf
def letZ : Option Nat → Int
 | some n => n
 | none => -1
def leastCells : Array Value := #[.int .i64 0, .int .i64 0, .int .i64 128, .int .i64 2048, .int .i64 65536]
def Least (w : World) : Prop := ∃ t fr, w.heap[1]? = some (.cells leastCells t fr)
theorem Least.fr {bs : List Nat} {w w' : World} (h : Least w) (hF : Fr bs w w') (hn : 1 ∉ bs) : Least w' := by
 obtain ⟨t, fr, h⟩ := h
 exact ⟨t, fr, hF.row h hn⟩
theorem Least.cell {w : World} (h : Least w) (i : Nat) : w.cell? ⟨1, i, none⟩ = leastCells[i]? := by
 obtain ⟨t, fr, h⟩ := h
 exact cell_of_row _ _ _ _ _ _ h
theorem utf_right (n : Nat) (w : World) :
  Calls Tryd.prog 84 #[.int .i64 n] w fun e w' => e = .returned (.bool (Utf.right n)) ∧ w = w' := by
 have h0 : (n : Int) ≥ 0 := by omega
 by_cases h1 : n ≤ 1114111
 ·have h1' : (n : Int) ≤ 1114111 := by omega
  by_cases h2 : n < 55296
  ·have h2' : (n : Int) < 55296 := by omega
   have : Utf.right n = true := by simp [Utf.right, h1, h2]
   rw [this]
   clear this h1 h2
   go_enter Tryd.func84, Tryd.ntmps84
   go_wp2
   go_ret
   exact ⟨rfl, rfl⟩
  ·have h2' : ¬ (n : Int) < 55296 := by omega
   have : Utf.right n = decide ((n : Int) > 57343) := by
    simp only [Utf.right, h1, h2, decide_true, decide_false, Bool.true_and, Bool.false_or]
    exact decide_eq_decide.2 (by omega)
   rw [this]
   clear this h1 h2
   go_enter Tryd.func84, Tryd.ntmps84
   go_wp2
   all_goals (go_ret; refine ⟨?_, rfl⟩; simp_all)
 ·have h1' : ¬ (n : Int) ≤ 1114111 := by omega
  have : Utf.right n = false := by simp [Utf.right, h1]
  rw [this]
  clear this h1
  go_enter Tryd.func84, Tryd.ntmps84
  go_wp2
  go_ret
  exact ⟨rfl, rfl⟩
end Go.Proofs.YtgklmpooonnmiaaDoor
