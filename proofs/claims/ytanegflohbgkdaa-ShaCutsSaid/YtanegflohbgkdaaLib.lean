/-
  Lemmas and contracts that the proofs over this seat use (part Lib); no statement of the seat is claimed in this text, and nothing is assumed in it.
-/
import Derived.WalkKit
import Derived.WalkSpells
import Derived.WalkLawsBesides
import Derived.Lib.Hide
import Derived.Deep.MidRow
import Derived.Deep.WholeRow
import Derived.BigQuiet
import Derived.Deep.QuietTactic
import Derived.StillTailTactics
set_option linter.unusedVariables false
set_option linter.unusedSimpArgs false
namespace Go.Proofs.Ytanegflohbgkdaa
open Go.RowKit

/-- The world w' is w with new blocks, and with the blocks bs written. -/
structure Fr (bs : List Nat) (w w' : World) : Prop where
  os : w'.os = w.os
  tape : w'.tape = w.tape
  output : w'.output = w.output
  size : w.heap.size ≤ w'.heap.size
  block : ∀ k, k < w.heap.size → k ∉ bs → w'.heap[k]? = w.heap[k]?
theorem Fr.refl (bs : List Nat) (w : World) : Fr bs w w := ⟨rfl, rfl, rfl, Nat.le_refl _, fun _ _ _ => rfl⟩
theorem Fr.trans {bs cs : List Nat} {a b c : World} (h : Fr bs a b) (k : Fr cs b c) (hs : ∀ x ∈ cs, x ∈ bs ∨ a.heap.size ≤ x) : Fr bs a c :=
  ⟨k.os.trans h.os, k.tape.trans h.tape, k.output.trans h.output, Nat.le_trans h.size k.size, fun i hi hn =>
    (k.block i (Nat.lt_of_lt_of_le hi h.size) (fun hc => by rcases hs i hc with h1 | h1; exact hn h1; omega)).trans (h.block i hi hn)⟩
theorem Fr.trans0 {bs : List Nat} {a b c : World} (h : Fr bs a b) (k : Fr [] b c) : Fr bs a c := h.trans k (fun _ h => by cases h)
theorem Fr.trans1 {bs : List Nat} {x : Nat} {a b c : World} (h : Fr bs a b) (k : Fr [x] b c) (hs : x ∈ bs ∨ a.heap.size ≤ x) : Fr bs a c :=
  h.trans k (fun y hy => by simp at hy; subst hy; exact hs)
theorem Fr.drew {bs : List Nat} {a w : World} (h : Fr bs a w) : Fr bs a w.drew := ⟨h.os, h.tape, h.output, h.size, h.block⟩
theorem heap_drewN (w : World) (n : Nat) : (w.drewN n).heap = w.heap := by
  induction n generalizing w with
  | zero => rfl
  | succ n ih => first | exact ih _ | simp [World.drewN, ih]
theorem Fr.alloc {bs : List Nat} {a w : World} (h : Fr bs a w) (o : Obj) : Fr bs a (w.alloc o) :=
  h.trans0 ⟨rfl, rfl, rfl, by simp, fun k hk _ => Below.heap_alloc _ _ _ hk⟩
theorem Fr.setCell {bs : List Nat} {a w : World} (h : Fr bs a w) {p : Addr} (hp : p.block ∈ bs ∨ a.heap.size ≤ p.block) (u : Value) : Fr bs a (w.setCell p u) :=
  h.trans1 (x := p.block) ⟨rfl, rfl, rfl, by simp [World.setCell], fun k _ hn => Below.heap_setCell _ _ _ _ (by simpa using hn)⟩ hp
theorem Fr.setRow {bs : List Nat} {a w : World} (h : Fr bs a w) {g : Nat} (hp : g ∈ bs ∨ a.heap.size ≤ g) (cs : Array Value) : Fr bs a (w.setRow g cs) :=
  h.trans1 (x := g) ⟨rfl, rfl, rfl, by simp, fun k _ hn => setRow_other _ _ _ _ (by simpa using hn)⟩ hp
theorem Fr.new {x : Nat} {bs : List Nat} {w w' : World} (h : Fr (x :: bs) w w') (hx : w.heap.size ≤ x) : Fr bs w w' :=
  ⟨h.os, h.tape, h.output, h.size, fun k hk hn => h.block k hk (by simp; exact ⟨by omega, hn⟩)⟩
theorem Fr.below {w w' : World} (h : Fr [] w w') : Below w.heap.size w w' := ⟨h.os, h.tape, h.output, h.size, fun k hk => h.block k hk (by simp)⟩
theorem Fr.of_below {w w' : World} (h : Below w.heap.size w w') : Fr [] w w' := ⟨h.os, h.tape, h.output, h.size, fun k hk _ => h.block k hk⟩
theorem Fr.row {bs : List Nat} {w w' : World} (h : Fr bs w w') {g : Nat} {o : Obj} (hg : w.heap[g]? = some o) (hn : g ∉ bs) : w'.heap[g]? = some o := by
  have hl : g < w.heap.size := (Array.getElem?_eq_some_iff.1 hg).1
  rw [h.block g hl hn]; exact hg
theorem row_lt {w : World} {g : Nat} {o : Obj} (hg : w.heap[g]? = some o) : g < w.heap.size := (Array.getElem?_eq_some_iff.1 hg).1
theorem Fr.cell {bs : List Nat} {w w' : World} (h : Fr bs w w') {p : Addr} (hl : p.block < w.heap.size) (hn : p.block ∉ bs) : w'.cell? p = w.cell? p :=
  World.cell?_of_block (w := w) (h.block p.block hl hn)
theorem Fr.frozen {bs : List Nat} {w w' : World} (h : Fr bs w w') {p : Addr} (hl : p.block < w.heap.size) (hn : p.block ∉ bs) : w'.frozen? p = w.frozen? p :=
  World.frozen?_of_block (w := w) (h.block p.block hl hn)

theorem Fr.cells {w w' : World} (h : Fr [] w w') {a : Addr} {v : Value} (hc : w.cell? a = some v) : w'.cell? a = some v :=
  (h.cell (block_lt_of_cell hc) (by simp)).trans hc
theorem Fr.drewN {bs : List Nat} {a w : World} (h : Fr bs a w) (n : Nat) : Fr bs a (w.drewN n) := by
  have e := heap_drewN w n
  induction n generalizing w with
  | zero => exact h
  | succ n ih => first | exact ih h.drew (heap_drewN _ _) | (rw [World.drewN]; exact (ih h (heap_drewN _ _)).drew)
/-- Of the world nothing but S is kept. -/
theorem wp_fresh {P : Program} {c : Code} {Q : Exit → Act → World → Prop} {a : Act} {w : World} (S : World → Prop) (hS : S w) (h : ∀ w, S w → c.wp P Q a w) : c.wp P Q a w := h w hS

theorem calls_fresh {P : Program} {f : FuncId} {args : Array Value} {R : Ending → World → Prop} {w : World} (S : World → Prop) (hS : S w) (h : ∀ w, S w → Calls P f args w R) : Calls P f args w R := h w hS
/-- An operation that only reckons, by its run. -/
theorem wpList_run {P : Program} {ops : Array Oper} {rest : List Oper} {op : Oper} {a : Act} {w : World} {Q : Exit → Act → World → Prop} (hgd : op.guard = none) (v : Value)
    (hr : (execOp a.eval op).run P w = .ok (.value v) w) (h : wpList P ops Q rest (a.put op.dst v) w) : wpList P ops Q (op :: rest) a w :=
  wpList_plain hgd fun _ hK => by
    unfold Oper.wp; rw [hr]; exact hK _ _ h
/-- A value built of its parts, by its run. -/
theorem wpList_built {P : Program} {ops : Array Oper} {rest : List Oper} {op : Oper} {a : Act} {w : World} {Q : Exit → Act → World → Prop} (hgd : op.guard = none) (t : TypeId) (parts : Array (Nat × Operand)) (_ho : op.op = .build t parts) (v : Value)
    (hr : (execOp a.eval op).run P w = .ok (.value v) w) (h : wpList P ops Q rest (a.put op.dst v) w) : wpList P ops Q (op :: rest) a w :=
  wpList_run hgd v hr h
/-- A whole value into the block that was made last. -/
theorem wpList_store_new {P : Program} {ops : Array Oper} {rest : List Oper} {op : Oper} {a : Act} {w : World} {Q : Exit → Act → World → Prop} (hgd : op.guard = none) (ty : TypeId) (x y : Operand) (ho : op.op = .store ty x y)
    (c cells : Array Value) (t : TypeId) (hx : a.eval x = .pointer (some ⟨w.heap.size, 0, none⟩)) (hy : a.eval y = .agg cells)
    (ht : c.size = cells.size) (hi : (P.info? ty).map (·.size) = some cells.size) (h1 : cells.all (·.oneCell') = true)
    (h : wpList P ops Q rest (a.put op.dst undef) (w.alloc (.cells cells t))) : wpList P ops Q (op :: rest) a (w.alloc (.cells c t)) :=
  wpList_plain hgd fun _ hK => by
    unfold Oper.wp execOp
    simp only [ho, hx, hy, Instr.storeAt, Instr.sureAddr, Sem.run_bind, Sem.run_pure, Result.andThen_ok, run_storeVar_row _ _ t ty c cells (heap_alloc_last w _) hi ht h1, World.setRow_alloc_new]
    exact hK _ _ h
/-- A value of some cells into the middle of a row. -/
theorem wpList_store_part {P : Program} {ops : Array Oper} {rest : List Oper} {op : Oper} {a : Act} {w : World} {Q : Exit → Act → World → Prop} (hgd : op.guard = none) (ty : TypeId) (x y : Operand) (ho : op.op = .store ty x y)
    (g o : Nat) (cur : Array Value) (t : TypeId) (vs : List Value) (hg : w.heap[g]? = some (.cells cur t (0, 0))) (hx : a.eval x = .pointer (some ⟨g, o, none⟩)) (hy : a.eval y = .agg vs.toArray)
    (ht : o + vs.length ≤ cur.size) (hi : (P.info? ty).map (·.size) = some vs.length) (h1 : ∀ v ∈ vs, v.oneCell' = true)
    (h : wpList P ops Q rest (a.put op.dst undef) (w.setRow g (cur.toList.take o ++ vs ++ cur.toList.drop (o + vs.length)).toArray)) : wpList P ops Q (op :: rest) a w :=
  wpList_plain hgd fun _ hK => by
    have := run_storeCells_at P g o t vs 0 cur w hg (by simpa using ht) h1
    cases hq : P.info? ty with
    | none => simp [hq] at hi
    | some i =>
      have hs : vs.length = i.size := by simp [hq] at hi; omega
      simp only [Nat.add_zero] at this
      unfold Oper.wp execOp
      simp only [ho, hx, hy, Instr.storeAt, Instr.sureAddr, Sem.run_bind, Sem.run_pure, Result.andThen_ok, storeVar, sizeOf, typeInfo, Value.cells]
      simp [hq, hs, this]
      rw [hs, List.append_assoc] at h
      exact hK _ _ h
end Go.Proofs.Ytanegflohbgkdaa
