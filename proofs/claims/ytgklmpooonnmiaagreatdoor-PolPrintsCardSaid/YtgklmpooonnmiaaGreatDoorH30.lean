/-
  Lemmas and contracts that the proofs over this seat use (RefGood, RefRight); no statement of the seat is claimed in this text, and nothing is assumed in it.
-/
import Derived.Test.YtgklmpooonnmiaaGreatDoorH29
import Derived.Test.YtgklmpooonnmiaaGreatDoorH13
import Derived.Test.YtgklmpooonnmiaaGreatDoorH14
set_option linter.unusedVariables false
set_option linter.unusedSimpArgs false
namespace Go.Proofs.YtgklmpooonnmiaaGreatDoor
open Go.RowKit
theorem Ex.head_other {op : Int} {s : ByteArray} {n : Int} {k : Nat} (h : op < 1 ∨ 14 < op) : Ex.head op s n k = false := by
 unfold Ex.head
 rw [if_neg (by omega), if_neg (by omega), if_neg (by omega), if_neg (by omega), if_neg (by omega), if_neg (by omega), if_neg (by omega)]
theorem Ex.head_leaf {op : Int} {s : ByteArray} {n : Int} {k : Nat} (h1 : 1 ≤ op) (h5 : op ≤ 5) : Ex.head op s n k = (decide (k = 0) && Ex.head op s n 0) := by
 by_cases hk : k = 0
 ·subst hk; simp
 ·rw [decide_eq_false hk, Bool.false_and]
  have h0 : (k == 0) = false := beq_eq_false_iff_ne.2 hk
  unfold Ex.head
  by_cases e1 : op = 1
  ·rw [if_pos e1, h0, Bool.and_false]
  rw [if_neg e1]
  by_cases e2 : op = 2
  ·rw [if_pos e2, h0, Bool.and_false]
  rw [if_neg e2]
  by_cases e3 : op = 3 ∨ op = 5
  ·rw [if_pos e3, h0, Bool.and_false]
  rw [if_neg e3, if_pos (by omega), h0, Bool.and_false]
set_option maxHeartbeats 4000000 in
set_option maxRecDepth 100000 in
theorem good_deep (w : World) (op : Int) (s : ByteArray) (n : Int) (L : List Ex) (p : Int) (q : Option Addr) (c : Nat) (deep : Nat) (hd : 200 < deep) :
  Calls Tryz.prog 33 #[.agg #[.int .i64 op, .string s, .int .i64 n, .slice q L.length c, .int .i64 p], .int .i64 deep] w fun e w' => e = .returned (.bool (Ex.right (.mk op s n L p) deep)) ∧ Fr [] w w' := by
 have HE : Hid (Ex.right (.mk op s n L p) deep = false) := by show _ = _; rw [Ex.right, if_pos hd]
 have hd' : (deep : Int) > 200 := by omega
 go_enter Tryz.func33, Tryz.ntmps33
 go_upto_region 1 with fail
 refine wp_fresh (fun V => V.heap[w.heap.size]? = some (.cells #[.int .i64 op, .string s, .int .i64 n, .slice q L.length c, .int .i64 p] 42 (0, 0)) ∧ Fr [] w V) ⟨heap_alloc_last _ _, (Fr.refl _ _).alloc _⟩ ?_
 rintro V ⟨hr, hF⟩
 have HF := Lib.hid hF
 have HB := Lib.hid hr
 have cf : ∀ i, V.frozen? ⟨(w.heap.size), i, none⟩ = false := fun i => Lib.frozen_of_heap hr i
 have c0 : V.cell? ⟨(w.heap.size), 0, none⟩ = some (.int .i64 op) := by rw [Lib.cell_of_heap hr]; rfl
 have c1 : V.cell? ⟨(w.heap.size), 1, none⟩ = some (.string s) := by rw [Lib.cell_of_heap hr]; rfl
 have c2 : V.cell? ⟨(w.heap.size), 2, none⟩ = some (.int .i64 n) := by rw [Lib.cell_of_heap hr]; rfl
 have c3 : V.cell? ⟨(w.heap.size), 3, none⟩ = some (.slice q L.length c) := by rw [Lib.cell_of_heap hr]; rfl
 have c4 : V.cell? ⟨(w.heap.size), 4, none⟩ = some (.int .i64 p) := by rw [Lib.cell_of_heap hr]; rfl
 have hlt0 : w.heap.size < V.heap.size := row_lt hr
 clear hr hF
 go_wp2_with fail
 go_ret
 rw [HE.out]
 exact ⟨rfl, HF.out⟩
set_option maxHeartbeats 4000000 in
set_option maxRecDepth 100000 in
theorem good_low (w : World) (op : Int) (s : ByteArray) (n : Int) (L : List Ex) (p : Int) (q : Option Addr) (c : Nat) (deep : Nat) (hd : deep ≤ 200) (ho : op < 1) :
  Calls Tryz.prog 33 #[.agg #[.int .i64 op, .string s, .int .i64 n, .slice q L.length c, .int .i64 p], .int .i64 deep] w fun e w' => e = .returned (.bool (Ex.right (.mk op s n L p) deep)) ∧ Fr [] w w' := by
 have HE : Hid (Ex.right (.mk op s n L p) deep = false) := by show _ = _; rw [Ex.right, if_neg (by omega), Ex.head_other (Or.inl ho), Bool.false_and]
 have hd' : ¬ (deep : Int) > 200 := by omega
 go_enter Tryz.func33, Tryz.ntmps33
 go_upto_region 1 with fail
 refine wp_fresh (fun V => V.heap[w.heap.size]? = some (.cells #[.int .i64 op, .string s, .int .i64 n, .slice q L.length c, .int .i64 p] 42 (0, 0)) ∧ Fr [] w V) ⟨heap_alloc_last _ _, (Fr.refl _ _).alloc _⟩ ?_
 rintro V ⟨hr, hF⟩
 have HF := Lib.hid hF
 have HB := Lib.hid hr
 have cf : ∀ i, V.frozen? ⟨(w.heap.size), i, none⟩ = false := fun i => Lib.frozen_of_heap hr i
 have c0 : V.cell? ⟨(w.heap.size), 0, none⟩ = some (.int .i64 op) := by rw [Lib.cell_of_heap hr]; rfl
 have c1 : V.cell? ⟨(w.heap.size), 1, none⟩ = some (.string s) := by rw [Lib.cell_of_heap hr]; rfl
 have c2 : V.cell? ⟨(w.heap.size), 2, none⟩ = some (.int .i64 n) := by rw [Lib.cell_of_heap hr]; rfl
 have c3 : V.cell? ⟨(w.heap.size), 3, none⟩ = some (.slice q L.length c) := by rw [Lib.cell_of_heap hr]; rfl
 have c4 : V.cell? ⟨(w.heap.size), 4, none⟩ = some (.int .i64 p) := by rw [Lib.cell_of_heap hr]; rfl
 have hlt0 : w.heap.size < V.heap.size := row_lt hr
 clear hr hF
 go_wp2_with fail
 go_ret
 rw [HE.out]
 exact ⟨rfl, HF.out⟩
set_option maxHeartbeats 4000000 in
set_option maxRecDepth 100000 in
theorem good_high (w : World) (op : Int) (s : ByteArray) (n : Int) (L : List Ex) (p : Int) (q : Option Addr) (c : Nat) (deep : Nat) (hd : deep ≤ 200) (ho : op > 14) :
  Calls Tryz.prog 33 #[.agg #[.int .i64 op, .string s, .int .i64 n, .slice q L.length c, .int .i64 p], .int .i64 deep] w fun e w' => e = .returned (.bool (Ex.right (.mk op s n L p) deep)) ∧ Fr [] w w' := by
 have HE : Hid (Ex.right (.mk op s n L p) deep = false) := by show _ = _; rw [Ex.right, if_neg (by omega), Ex.head_other (Or.inr ho), Bool.false_and]
 have hd' : ¬ (deep : Int) > 200 := by omega
 have ho2 : ¬ op < 1 := by omega
 go_enter Tryz.func33, Tryz.ntmps33
 go_upto_region 1 with fail
 refine wp_fresh (fun V => V.heap[w.heap.size]? = some (.cells #[.int .i64 op, .string s, .int .i64 n, .slice q L.length c, .int .i64 p] 42 (0, 0)) ∧ Fr [] w V) ⟨heap_alloc_last _ _, (Fr.refl _ _).alloc _⟩ ?_
 rintro V ⟨hr, hF⟩
 have HF := Lib.hid hF
 have HB := Lib.hid hr
 have cf : ∀ i, V.frozen? ⟨(w.heap.size), i, none⟩ = false := fun i => Lib.frozen_of_heap hr i
 have c0 : V.cell? ⟨(w.heap.size), 0, none⟩ = some (.int .i64 op) := by rw [Lib.cell_of_heap hr]; rfl
 have c1 : V.cell? ⟨(w.heap.size), 1, none⟩ = some (.string s) := by rw [Lib.cell_of_heap hr]; rfl
 have c2 : V.cell? ⟨(w.heap.size), 2, none⟩ = some (.int .i64 n) := by rw [Lib.cell_of_heap hr]; rfl
 have c3 : V.cell? ⟨(w.heap.size), 3, none⟩ = some (.slice q L.length c) := by rw [Lib.cell_of_heap hr]; rfl
 have c4 : V.cell? ⟨(w.heap.size), 4, none⟩ = some (.int .i64 p) := by rw [Lib.cell_of_heap hr]; rfl
 have hlt0 : w.heap.size < V.heap.size := row_lt hr
 clear hr hF
 go_wp2_with fail
 go_ret
 rw [HE.out]
 exact ⟨rfl, HF.out⟩
set_option maxHeartbeats 4000000 in
set_option maxRecDepth 100000 in
theorem good_leaf (w : World) (op : Int) (s : ByteArray) (n : Int) (L : List Ex) (p : Int) (q : Option Addr) (c : Nat) (deep : Nat) (hs : s.size ≤ 100000000) (hd : deep ≤ 200) (h1 : 1 ≤ op) (h5 : op ≤ 5) :
  Calls Tryz.prog 33 #[.agg #[.int .i64 op, .string s, .int .i64 n, .slice q L.length c, .int .i64 p], .int .i64 deep] w fun e w' => e = .returned (.bool (Ex.right (.mk op s n L p) deep)) ∧ Fr [] w w' := by
 have hd' : ¬ (deep : Int) > 200 := by omega
 have ho2 : ¬ op < 1 := by omega
 have ho3 : ¬ op > 14 := by omega
 have HLF := Lib.hid (fun W => ref_leaf W op s n p q L.length c hs h1 h5)
 have HR : Hid (Ex.right (.mk op s n L p) deep = ((decide (L.length = 0) && Ex.head op s n 0) && Ex.rights L (deep + 1))) := by show _ = _; rw [Ex.right, if_neg (by omega), Ex.head_leaf h1 h5]
 by_cases hk : L.length = 0
 ·have hk2 : ((L.length : Int) == 0) = true := beq_iff_eq.2 (by omega)
  have HE : Hid (Ex.right (.mk op s n L p) deep = Ex.head op s n 0) := by
   show _ = _
   rw [HR.out, decide_eq_true hk, List.eq_nil_of_length_eq_zero hk, Ex.rights]
   simp
  obtain ⟨z, hz⟩ : ∃ z, Ex.head op s n 0 = z := ⟨_, rfl⟩
  simp only [hz] at HLF
  rw [hz] at HE
  clear hz HR hk
  go_enter Tryz.func33, Tryz.ntmps33
  go_upto_region 1 with fail
  refine wp_fresh (fun V => V.heap[w.heap.size]? = some (.cells #[.int .i64 op, .string s, .int .i64 n, .slice q L.length c, .int .i64 p] 42 (0, 0)) ∧ Fr [] w V) ⟨heap_alloc_last _ _, (Fr.refl _ _).alloc _⟩ ?_
  rintro V ⟨hr, hF⟩
  have HF := Lib.hid hF
  have HB := Lib.hid hr
  have cf : ∀ i, V.frozen? ⟨(w.heap.size), i, none⟩ = false := fun i => Lib.frozen_of_heap hr i
  have c0 : V.cell? ⟨(w.heap.size), 0, none⟩ = some (.int .i64 op) := by rw [Lib.cell_of_heap hr]; rfl
  have c1 : V.cell? ⟨(w.heap.size), 1, none⟩ = some (.string s) := by rw [Lib.cell_of_heap hr]; rfl
  have c2 : V.cell? ⟨(w.heap.size), 2, none⟩ = some (.int .i64 n) := by rw [Lib.cell_of_heap hr]; rfl
  have c3 : V.cell? ⟨(w.heap.size), 3, none⟩ = some (.slice q L.length c) := by rw [Lib.cell_of_heap hr]; rfl
  have c4 : V.cell? ⟨(w.heap.size), 4, none⟩ = some (.int .i64 p) := by rw [Lib.cell_of_heap hr]; rfl
  have hlt0 : w.heap.size < V.heap.size := row_lt hr
  clear hr hF
  go_wp2_with fail
  refine (HLF.out _).mono ?_
  rintro e w1 ⟨rfl, hF⟩
  have HF := Lib.hid (HF.out.trans0 hF)
  clear hF HLF
  go_wp2_with fail
  refine bodyPost_ret (results_tmp rfl _ _ _) rfl ?_
  rw [HE.out]
  exact ⟨rfl, HF.out⟩
 ·have hk2 : ((L.length : Int) == 0) = false := beq_eq_false_iff_ne.2 (by omega)
  have HE : Hid (Ex.right (.mk op s n L p) deep = false) := by show _ = _; rw [HR.out, decide_eq_false hk]; rfl
  clear HR hk
  go_enter Tryz.func33, Tryz.ntmps33
  go_upto_region 1 with fail
  refine wp_fresh (fun V => V.heap[w.heap.size]? = some (.cells #[.int .i64 op, .string s, .int .i64 n, .slice q L.length c, .int .i64 p] 42 (0, 0)) ∧ Fr [] w V) ⟨heap_alloc_last _ _, (Fr.refl _ _).alloc _⟩ ?_
  rintro V ⟨hr, hF⟩
  have HF := Lib.hid hF
  have HB := Lib.hid hr
  have cf : ∀ i, V.frozen? ⟨(w.heap.size), i, none⟩ = false := fun i => Lib.frozen_of_heap hr i
  have c0 : V.cell? ⟨(w.heap.size), 0, none⟩ = some (.int .i64 op) := by rw [Lib.cell_of_heap hr]; rfl
  have c1 : V.cell? ⟨(w.heap.size), 1, none⟩ = some (.string s) := by rw [Lib.cell_of_heap hr]; rfl
  have c2 : V.cell? ⟨(w.heap.size), 2, none⟩ = some (.int .i64 n) := by rw [Lib.cell_of_heap hr]; rfl
  have c3 : V.cell? ⟨(w.heap.size), 3, none⟩ = some (.slice q L.length c) := by rw [Lib.cell_of_heap hr]; rfl
  have c4 : V.cell? ⟨(w.heap.size), 4, none⟩ = some (.int .i64 p) := by rw [Lib.cell_of_heap hr]; rfl
  have hlt0 : w.heap.size < V.heap.size := row_lt hr
  clear hr hF
  go_wp2_with fail
  refine bodyPost_ret (results_tmp rfl _ _ _) rfl ?_
  rw [HE.out]
  exact ⟨rfl, HF.out⟩
set_option maxHeartbeats 4000000 in
set_option maxRecDepth 100000 in
theorem good_two (w : World) (op : Int) (s : ByteArray) (n : Int) (L : List Ex) (p : Int) (q : Option Addr) (c : Nat) (deep : Nat) (f : Nat → List Value) (h : LA w q c f L) (hd : deep ≤ 200) (ho : (7 ≤ op ∧ op ≤ 12) ∨ op = 14) (hS : ∀ (U : World) (i : Nat) (x : Ex), Fr [] w U → L[i]? = some x → Calls Tryz.prog 33 #[.agg (f i).toArray, .int .i64 ((deep : Int) + 1)] U fun e w' => e = .returned (.bool (Ex.right x (deep + 1))) ∧ Fr [] U w') :
  Calls Tryz.prog 33 #[.agg #[.int .i64 op, .string s, .int .i64 n, .slice q L.length c, .int .i64 p], .int .i64 deep] w fun e w' => e = .returned (.bool (Ex.right (.mk op s n L p) deep)) ∧ Fr [] w w' := by
 have hd' : ¬ (deep : Int) > 200 := by omega
 have HL := Lib.hid h
 have HS := Lib.hid hS
 have hb : L.length ≤ 9223372036854775807 := by have h1 := h.hc; have h2 := h.hm; unfold maxLen at h2; omega
 clear h hS
 have o1 : ¬ op < 1 := (by omega); have o2 : ¬ op > 14 := (by omega); have o3 : ¬ op ≤ 5 := (by omega); have o4 : (op == 6) = false := beq_eq_false_iff_ne.2 (by omega); have o5 : (op != 6) = true := (by rw [bne, o4]; rfl); have o6 : (op == 13) = false := beq_eq_false_iff_ne.2 (by omega); have o7 : (op != 13) = true := (by rw [bne, o6]; rfl)
 have HR : Hid (Ex.right (.mk op s n L p) deep = ((n == 0 && s.toList == [] && L.length == 2) && Ex.rights L (deep + 1))) := by
  show _ = _
  rw [Ex.right, if_neg (by omega), Ex.head, if_neg (by omega), if_neg (by omega), if_neg (by omega), if_neg (by omega), if_neg (by omega), if_pos ho]
 cases hn : (n == 0) with
 | false =>
  have HE : Hid (Ex.right (.mk op s n L p) deep = false) := by show _ = _; rw [HR.out, hn]; rfl
  have hn2 : (n != 0) = true := by rw [bne, hn]; rfl
  clear HR
  go_enter Tryz.func33, Tryz.ntmps33
  go_upto_region 1 with fail
  refine wp_fresh (fun V => V.heap[w.heap.size]? = some (.cells #[.int .i64 op, .string s, .int .i64 n, .slice q L.length c, .int .i64 p] 42 (0, 0)) ∧ Fr [] w V) ⟨heap_alloc_last _ _, (Fr.refl _ _).alloc _⟩ ?_
  rintro V ⟨hr, hF⟩
  have HF := Lib.hid hF
  have HB := Lib.hid hr
  have cf : ∀ i, V.frozen? ⟨(w.heap.size), i, none⟩ = false := fun i => Lib.frozen_of_heap hr i
  have c0 : V.cell? ⟨(w.heap.size), 0, none⟩ = some (.int .i64 op) := by rw [Lib.cell_of_heap hr]; rfl
  have c1 : V.cell? ⟨(w.heap.size), 1, none⟩ = some (.string s) := by rw [Lib.cell_of_heap hr]; rfl
  have c2 : V.cell? ⟨(w.heap.size), 2, none⟩ = some (.int .i64 n) := by rw [Lib.cell_of_heap hr]; rfl
  have c3 : V.cell? ⟨(w.heap.size), 3, none⟩ = some (.slice q L.length c) := by rw [Lib.cell_of_heap hr]; rfl
  have c4 : V.cell? ⟨(w.heap.size), 4, none⟩ = some (.int .i64 p) := by rw [Lib.cell_of_heap hr]; rfl
  have hlt0 : w.heap.size < V.heap.size := row_lt hr
  clear hr hF
  go_wp2_with fail
  go_ret
  rw [HE.out]
  exact ⟨rfl, HF.out⟩
 | true =>
  have hn2 : (n != 0) = false := by rw [bne, hn]; rfl
  cases he : s.toList.isEmpty with
  | false =>
   have HE : Hid (Ex.right (.mk op s n L p) deep = false) := by show _ = _; rw [HR.out, emp_no he, Bool.and_false]; rfl
   clear HR
   go_enter Tryz.func33, Tryz.ntmps33
   go_upto_region 1 with fail
   refine wp_fresh (fun V => V.heap[w.heap.size]? = some (.cells #[.int .i64 op, .string s, .int .i64 n, .slice q L.length c, .int .i64 p] 42 (0, 0)) ∧ Fr [] w V) ⟨heap_alloc_last _ _, (Fr.refl _ _).alloc _⟩ ?_
   rintro V ⟨hr, hF⟩
   have HF := Lib.hid hF
   have HB := Lib.hid hr
   have cf : ∀ i, V.frozen? ⟨(w.heap.size), i, none⟩ = false := fun i => Lib.frozen_of_heap hr i
   have c0 : V.cell? ⟨(w.heap.size), 0, none⟩ = some (.int .i64 op) := by rw [Lib.cell_of_heap hr]; rfl
   have c1 : V.cell? ⟨(w.heap.size), 1, none⟩ = some (.string s) := by rw [Lib.cell_of_heap hr]; rfl
   have c2 : V.cell? ⟨(w.heap.size), 2, none⟩ = some (.int .i64 n) := by rw [Lib.cell_of_heap hr]; rfl
   have c3 : V.cell? ⟨(w.heap.size), 3, none⟩ = some (.slice q L.length c) := by rw [Lib.cell_of_heap hr]; rfl
   have c4 : V.cell? ⟨(w.heap.size), 4, none⟩ = some (.int .i64 p) := by rw [Lib.cell_of_heap hr]; rfl
   have hlt0 : w.heap.size < V.heap.size := row_lt hr
   clear hr hF
   go_wp2_with fail
   go_ret
   rw [HE.out]
   exact ⟨rfl, HF.out⟩
  | true =>
   by_cases hk : L.length = 2
   ·have k1 : ((L.length : Int) != 2) = false := by rw [bne, beq_iff_eq.2 (show (L.length : Int) = 2 by omega)]; rfl
    have HE : Hid (Ex.right (.mk op s n L p) deep = Ex.rights L (deep + 1)) := by show _ = _; rw [HR.out, hn, emp_of he]; simp [hk]
    clear HR hk
    go_enter Tryz.func33, Tryz.ntmps33
    go_upto_region 1 with fail
    refine wp_fresh (fun V => V.heap[w.heap.size]? = some (.cells #[.int .i64 op, .string s, .int .i64 n, .slice q L.length c, .int .i64 p] 42 (0, 0)) ∧ Fr [] w V) ⟨heap_alloc_last _ _, (Fr.refl _ _).alloc _⟩ ?_
    rintro V ⟨hr, hF⟩
    have HF := Lib.hid hF
    have HB := Lib.hid hr
    have cf : ∀ i, V.frozen? ⟨(w.heap.size), i, none⟩ = false := fun i => Lib.frozen_of_heap hr i
    have c0 : V.cell? ⟨(w.heap.size), 0, none⟩ = some (.int .i64 op) := by rw [Lib.cell_of_heap hr]; rfl
    have c1 : V.cell? ⟨(w.heap.size), 1, none⟩ = some (.string s) := by rw [Lib.cell_of_heap hr]; rfl
    have c2 : V.cell? ⟨(w.heap.size), 2, none⟩ = some (.int .i64 n) := by rw [Lib.cell_of_heap hr]; rfl
    have c3 : V.cell? ⟨(w.heap.size), 3, none⟩ = some (.slice q L.length c) := by rw [Lib.cell_of_heap hr]; rfl
    have c4 : V.cell? ⟨(w.heap.size), 4, none⟩ = some (.int .i64 p) := by rw [Lib.cell_of_heap hr]; rfl
    have hlt0 : w.heap.size < V.heap.size := row_lt hr
    clear hr hF
    go_wp2_with fail
    go_loopg [5] L.length (fun m s5 W => ∃ k : Nat, k ≤ L.length ∧ m = L.length - k ∧ s5 = .int .i64 k ∧ Hid (Fr [] V W) ∧ Hid (Ex.rights L (deep + 1) = Ex.rights (L.drop k) (deep + 1)))
    case atStart => exact ⟨0, by omega, by omega, rfl, Fr.refl _ _, rfl⟩
    case round =>
     obtain ⟨k, hk, hm, rfl, HFW, HEK⟩ := hrel
     have HM := Lib.hid hm
     have hr := HFW.out.row HB.out (by simp)
     have df : ∀ i, wr.frozen? ⟨(w.heap.size), i, none⟩ = false := fun i => Lib.frozen_of_heap hr i
     have d3 : wr.cell? ⟨(w.heap.size), 3, none⟩ = some (.slice q L.length c) := by rw [Lib.cell_of_heap hr]; rfl
     clear hm hr
     by_cases hlt : k < L.length
     ·have hlt' : (k : Int) < (L.length : Int) := by omega
      have hk0 : (0 : Int) ≤ (k : Int) := by omega
      obtain ⟨x, hx⟩ : ∃ x, L[k]? = some x := ⟨_, List.getElem?_eq_getElem hlt⟩
      obtain ⟨ad, rfl, h5⟩ := (HL.out.fr (HF.out.trans0 HFW.out)).hr k x hx
      obtain ⟨v0, v1, v2, v3, v4, hf0, a0, a1, a2, a3, a4⟩ := h5
      obtain ⟨xo, xs, xn, xq, xk, xc, xp, hf2⟩ := (HL.out.hx k x hx).form
      rw [hf0] at hf2
      simp only [List.cons.injEq, and_true] at hf2
      obtain ⟨rfl, rfl, rfl, rfl, rfl⟩ := hf2
      have HCL : Hid (Calls Tryz.prog 33 #[.agg #[.int .i64 xo, .string xs, .int .i64 xn, .slice xq xk xc, .int .i64 xp], .int .i64 ((deep : Int) + 1)] wr fun e w' => e = .returned (.bool (Ex.right x (deep + 1))) ∧ Fr [] wr w') := by
       have h9 := HS.out wr k x (HF.out.trans0 HFW.out) hx
       rw [hf0] at h9
       exact h9
      have HSD := Lib.hid (Ex.rights_drop (deep := deep + 1) hx)
      obtain ⟨z, hz⟩ : ∃ z, Ex.right x (deep + 1) = z := ⟨_, rfl⟩
      rw [hz] at HCL HSD
      clear hf0 hx hz
      go_wp2_with fail
      refine HCL.out.mono ?_
      rintro e w2 ⟨rfl, hF2⟩
      have HFW2 := Lib.hid (HFW.out.trans0 hF2)
      clear hF2 HCL
      cases z
      ·have HEF : Hid (Ex.right (.mk op s n L p) deep = false) := by show _ = _; rw [HE.out, HEK.out, HSD.out, Bool.false_and]
       go_wp2_with fail
       go_ret
       rw [HEF.out]
       exact ⟨rfl, HF.out.trans0 HFW2.out⟩
      ·have HEF : Hid (Ex.rights L (deep + 1) = Ex.rights (L.drop (k + 1)) (deep + 1)) := by show _ = _; rw [HEK.out, HSD.out, Bool.true_and]
       go_wp2_with fail
       go_roundg (L.length - (k + 1))
       case measure => have := HM.out; omega
       case rel => exact ⟨k + 1, by omega, rfl, by go_num, HFW2.out, HEF.out⟩
     ·have hlt' : ¬ (k : Int) < (L.length : Int) := by omega
      have HEF : Hid (Ex.right (.mk op s n L p) deep = true) := by show _ = _; rw [HE.out, HEK.out, List.drop_eq_nil_of_le (by omega), Ex.rights]
      go_wp2_with fail
      go_ret
      rw [HEF.out]
      exact ⟨rfl, HF.out.trans0 HFW.out⟩
   ·have k1 : ((L.length : Int) != 2) = true := by rw [bne, beq_eq_false_iff_ne.2 (show ¬ (L.length : Int) = 2 by omega)]; rfl
    have HE : Hid (Ex.right (.mk op s n L p) deep = false) := by show _ = _; rw [HR.out, hn, emp_of he]; simp [hk]
    clear HR hk
    go_enter Tryz.func33, Tryz.ntmps33
    go_upto_region 1 with fail
    refine wp_fresh (fun V => V.heap[w.heap.size]? = some (.cells #[.int .i64 op, .string s, .int .i64 n, .slice q L.length c, .int .i64 p] 42 (0, 0)) ∧ Fr [] w V) ⟨heap_alloc_last _ _, (Fr.refl _ _).alloc _⟩ ?_
    rintro V ⟨hr, hF⟩
    have HF := Lib.hid hF
    have HB := Lib.hid hr
    have cf : ∀ i, V.frozen? ⟨(w.heap.size), i, none⟩ = false := fun i => Lib.frozen_of_heap hr i
    have c0 : V.cell? ⟨(w.heap.size), 0, none⟩ = some (.int .i64 op) := by rw [Lib.cell_of_heap hr]; rfl
    have c1 : V.cell? ⟨(w.heap.size), 1, none⟩ = some (.string s) := by rw [Lib.cell_of_heap hr]; rfl
    have c2 : V.cell? ⟨(w.heap.size), 2, none⟩ = some (.int .i64 n) := by rw [Lib.cell_of_heap hr]; rfl
    have c3 : V.cell? ⟨(w.heap.size), 3, none⟩ = some (.slice q L.length c) := by rw [Lib.cell_of_heap hr]; rfl
    have c4 : V.cell? ⟨(w.heap.size), 4, none⟩ = some (.int .i64 p) := by rw [Lib.cell_of_heap hr]; rfl
    have hlt0 : w.heap.size < V.heap.size := row_lt hr
    clear hr hF
    go_wp2_with fail
    go_ret
    rw [HE.out]
    exact ⟨rfl, HF.out⟩
set_option maxHeartbeats 4000000 in
set_option maxRecDepth 100000 in
theorem good_six (w : World) (op : Int) (s : ByteArray) (n : Int) (L : List Ex) (p : Int) (q : Option Addr) (c : Nat) (deep : Nat) (f : Nat → List Value) (h : LA w q c f L) (hd : deep ≤ 200) (ho : op = 6) (hS : ∀ (U : World) (i : Nat) (x : Ex), Fr [] w U → L[i]? = some x → Calls Tryz.prog 33 #[.agg (f i).toArray, .int .i64 ((deep : Int) + 1)] U fun e w' => e = .returned (.bool (Ex.right x (deep + 1))) ∧ Fr [] U w') :
  Calls Tryz.prog 33 #[.agg #[.int .i64 op, .string s, .int .i64 n, .slice q L.length c, .int .i64 p], .int .i64 deep] w fun e w' => e = .returned (.bool (Ex.right (.mk op s n L p) deep)) ∧ Fr [] w w' := by
 have hd' : ¬ (deep : Int) > 200 := by omega
 have HL := Lib.hid h
 have HS := Lib.hid hS
 have hb : L.length ≤ 9223372036854775807 := by have h1 := h.hc; have h2 := h.hm; unfold maxLen at h2; omega
 clear h hS
 skip
 have HR : Hid (Ex.right (.mk op s n L p) deep = ((n == 0 && s.toList == [] && L.length == 1) && Ex.rights L (deep + 1))) := by
  show _ = _
  rw [Ex.right, if_neg (by omega), Ex.head, if_neg (by omega), if_neg (by omega), if_neg (by omega), if_neg (by omega), if_pos ho]
 subst ho
 cases hn : (n == 0) with
 | false =>
  have HE : Hid (Ex.right (.mk 6 s n L p) deep = false) := by show _ = _; rw [HR.out, hn]; rfl
  have hn2 : (n != 0) = true := by rw [bne, hn]; rfl
  clear HR
  go_enter Tryz.func33, Tryz.ntmps33
  go_upto_region 1 with fail
  refine wp_fresh (fun V => V.heap[w.heap.size]? = some (.cells #[.int .i64 6, .string s, .int .i64 n, .slice q L.length c, .int .i64 p] 42 (0, 0)) ∧ Fr [] w V) ⟨heap_alloc_last _ _, (Fr.refl _ _).alloc _⟩ ?_
  rintro V ⟨hr, hF⟩
  have HF := Lib.hid hF
  have HB := Lib.hid hr
  have cf : ∀ i, V.frozen? ⟨(w.heap.size), i, none⟩ = false := fun i => Lib.frozen_of_heap hr i
  have c0 : V.cell? ⟨(w.heap.size), 0, none⟩ = some (.int .i64 6) := by rw [Lib.cell_of_heap hr]; rfl
  have c1 : V.cell? ⟨(w.heap.size), 1, none⟩ = some (.string s) := by rw [Lib.cell_of_heap hr]; rfl
  have c2 : V.cell? ⟨(w.heap.size), 2, none⟩ = some (.int .i64 n) := by rw [Lib.cell_of_heap hr]; rfl
  have c3 : V.cell? ⟨(w.heap.size), 3, none⟩ = some (.slice q L.length c) := by rw [Lib.cell_of_heap hr]; rfl
  have c4 : V.cell? ⟨(w.heap.size), 4, none⟩ = some (.int .i64 p) := by rw [Lib.cell_of_heap hr]; rfl
  have hlt0 : w.heap.size < V.heap.size := row_lt hr
  clear hr hF
  go_wp2_with fail
  go_ret
  rw [HE.out]
  exact ⟨rfl, HF.out⟩
 | true =>
  have hn2 : (n != 0) = false := by rw [bne, hn]; rfl
  cases he : s.toList.isEmpty with
  | false =>
   have HE : Hid (Ex.right (.mk 6 s n L p) deep = false) := by show _ = _; rw [HR.out, emp_no he, Bool.and_false]; rfl
   clear HR
   go_enter Tryz.func33, Tryz.ntmps33
   go_upto_region 1 with fail
   refine wp_fresh (fun V => V.heap[w.heap.size]? = some (.cells #[.int .i64 6, .string s, .int .i64 n, .slice q L.length c, .int .i64 p] 42 (0, 0)) ∧ Fr [] w V) ⟨heap_alloc_last _ _, (Fr.refl _ _).alloc _⟩ ?_
   rintro V ⟨hr, hF⟩
   have HF := Lib.hid hF
   have HB := Lib.hid hr
   have cf : ∀ i, V.frozen? ⟨(w.heap.size), i, none⟩ = false := fun i => Lib.frozen_of_heap hr i
   have c0 : V.cell? ⟨(w.heap.size), 0, none⟩ = some (.int .i64 6) := by rw [Lib.cell_of_heap hr]; rfl
   have c1 : V.cell? ⟨(w.heap.size), 1, none⟩ = some (.string s) := by rw [Lib.cell_of_heap hr]; rfl
   have c2 : V.cell? ⟨(w.heap.size), 2, none⟩ = some (.int .i64 n) := by rw [Lib.cell_of_heap hr]; rfl
   have c3 : V.cell? ⟨(w.heap.size), 3, none⟩ = some (.slice q L.length c) := by rw [Lib.cell_of_heap hr]; rfl
   have c4 : V.cell? ⟨(w.heap.size), 4, none⟩ = some (.int .i64 p) := by rw [Lib.cell_of_heap hr]; rfl
   have hlt0 : w.heap.size < V.heap.size := row_lt hr
   clear hr hF
   go_wp2_with fail
   go_ret
   rw [HE.out]
   exact ⟨rfl, HF.out⟩
  | true =>
   by_cases hk : L.length = 1
   ·have k1 : ((L.length : Int) != 1) = false := by rw [bne, beq_iff_eq.2 (show (L.length : Int) = 1 by omega)]; rfl
    have HE : Hid (Ex.right (.mk 6 s n L p) deep = Ex.rights L (deep + 1)) := by show _ = _; rw [HR.out, hn, emp_of he]; simp [hk]
    clear HR hk
    go_enter Tryz.func33, Tryz.ntmps33
    go_upto_region 1 with fail
    refine wp_fresh (fun V => V.heap[w.heap.size]? = some (.cells #[.int .i64 6, .string s, .int .i64 n, .slice q L.length c, .int .i64 p] 42 (0, 0)) ∧ Fr [] w V) ⟨heap_alloc_last _ _, (Fr.refl _ _).alloc _⟩ ?_
    rintro V ⟨hr, hF⟩
    have HF := Lib.hid hF
    have HB := Lib.hid hr
    have cf : ∀ i, V.frozen? ⟨(w.heap.size), i, none⟩ = false := fun i => Lib.frozen_of_heap hr i
    have c0 : V.cell? ⟨(w.heap.size), 0, none⟩ = some (.int .i64 6) := by rw [Lib.cell_of_heap hr]; rfl
    have c1 : V.cell? ⟨(w.heap.size), 1, none⟩ = some (.string s) := by rw [Lib.cell_of_heap hr]; rfl
    have c2 : V.cell? ⟨(w.heap.size), 2, none⟩ = some (.int .i64 n) := by rw [Lib.cell_of_heap hr]; rfl
    have c3 : V.cell? ⟨(w.heap.size), 3, none⟩ = some (.slice q L.length c) := by rw [Lib.cell_of_heap hr]; rfl
    have c4 : V.cell? ⟨(w.heap.size), 4, none⟩ = some (.int .i64 p) := by rw [Lib.cell_of_heap hr]; rfl
    have hlt0 : w.heap.size < V.heap.size := row_lt hr
    clear hr hF
    go_wp2_with fail
    go_loopg [5] L.length (fun m s5 W => ∃ k : Nat, k ≤ L.length ∧ m = L.length - k ∧ s5 = .int .i64 k ∧ Hid (Fr [] V W) ∧ Hid (Ex.rights L (deep + 1) = Ex.rights (L.drop k) (deep + 1)))
    case atStart => exact ⟨0, by omega, by omega, rfl, Fr.refl _ _, rfl⟩
    case round =>
     obtain ⟨k, hk, hm, rfl, HFW, HEK⟩ := hrel
     have HM := Lib.hid hm
     have hr := HFW.out.row HB.out (by simp)
     have df : ∀ i, wr.frozen? ⟨(w.heap.size), i, none⟩ = false := fun i => Lib.frozen_of_heap hr i
     have d3 : wr.cell? ⟨(w.heap.size), 3, none⟩ = some (.slice q L.length c) := by rw [Lib.cell_of_heap hr]; rfl
     clear hm hr
     by_cases hlt : k < L.length
     ·have hlt' : (k : Int) < (L.length : Int) := by omega
      have hk0 : (0 : Int) ≤ (k : Int) := by omega
      obtain ⟨x, hx⟩ : ∃ x, L[k]? = some x := ⟨_, List.getElem?_eq_getElem hlt⟩
      obtain ⟨ad, rfl, h5⟩ := (HL.out.fr (HF.out.trans0 HFW.out)).hr k x hx
      obtain ⟨v0, v1, v2, v3, v4, hf0, a0, a1, a2, a3, a4⟩ := h5
      obtain ⟨xo, xs, xn, xq, xk, xc, xp, hf2⟩ := (HL.out.hx k x hx).form
      rw [hf0] at hf2
      simp only [List.cons.injEq, and_true] at hf2
      obtain ⟨rfl, rfl, rfl, rfl, rfl⟩ := hf2
      have HCL : Hid (Calls Tryz.prog 33 #[.agg #[.int .i64 xo, .string xs, .int .i64 xn, .slice xq xk xc, .int .i64 xp], .int .i64 ((deep : Int) + 1)] wr fun e w' => e = .returned (.bool (Ex.right x (deep + 1))) ∧ Fr [] wr w') := by
       have h9 := HS.out wr k x (HF.out.trans0 HFW.out) hx
       rw [hf0] at h9
       exact h9
      have HSD := Lib.hid (Ex.rights_drop (deep := deep + 1) hx)
      obtain ⟨z, hz⟩ : ∃ z, Ex.right x (deep + 1) = z := ⟨_, rfl⟩
      rw [hz] at HCL HSD
      clear hf0 hx hz
      go_wp2_with fail
      refine HCL.out.mono ?_
      rintro e w2 ⟨rfl, hF2⟩
      have HFW2 := Lib.hid (HFW.out.trans0 hF2)
      clear hF2 HCL
      cases z
      ·have HEF : Hid (Ex.right (.mk 6 s n L p) deep = false) := by show _ = _; rw [HE.out, HEK.out, HSD.out, Bool.false_and]
       go_wp2_with fail
       go_ret
       rw [HEF.out]
       exact ⟨rfl, HF.out.trans0 HFW2.out⟩
      ·have HEF : Hid (Ex.rights L (deep + 1) = Ex.rights (L.drop (k + 1)) (deep + 1)) := by show _ = _; rw [HEK.out, HSD.out, Bool.true_and]
       go_wp2_with fail
       go_roundg (L.length - (k + 1))
       case measure => have := HM.out; omega
       case rel => exact ⟨k + 1, by omega, rfl, by go_num, HFW2.out, HEF.out⟩
     ·have hlt' : ¬ (k : Int) < (L.length : Int) := by omega
      have HEF : Hid (Ex.right (.mk 6 s n L p) deep = true) := by show _ = _; rw [HE.out, HEK.out, List.drop_eq_nil_of_le (by omega), Ex.rights]
      go_wp2_with fail
      go_ret
      rw [HEF.out]
      exact ⟨rfl, HF.out.trans0 HFW.out⟩
   ·have k1 : ((L.length : Int) != 1) = true := by rw [bne, beq_eq_false_iff_ne.2 (show ¬ (L.length : Int) = 1 by omega)]; rfl
    have HE : Hid (Ex.right (.mk 6 s n L p) deep = false) := by show _ = _; rw [HR.out, hn, emp_of he]; simp [hk]
    clear HR hk
    go_enter Tryz.func33, Tryz.ntmps33
    go_upto_region 1 with fail
    refine wp_fresh (fun V => V.heap[w.heap.size]? = some (.cells #[.int .i64 6, .string s, .int .i64 n, .slice q L.length c, .int .i64 p] 42 (0, 0)) ∧ Fr [] w V) ⟨heap_alloc_last _ _, (Fr.refl _ _).alloc _⟩ ?_
    rintro V ⟨hr, hF⟩
    have HF := Lib.hid hF
    have HB := Lib.hid hr
    have cf : ∀ i, V.frozen? ⟨(w.heap.size), i, none⟩ = false := fun i => Lib.frozen_of_heap hr i
    have c0 : V.cell? ⟨(w.heap.size), 0, none⟩ = some (.int .i64 6) := by rw [Lib.cell_of_heap hr]; rfl
    have c1 : V.cell? ⟨(w.heap.size), 1, none⟩ = some (.string s) := by rw [Lib.cell_of_heap hr]; rfl
    have c2 : V.cell? ⟨(w.heap.size), 2, none⟩ = some (.int .i64 n) := by rw [Lib.cell_of_heap hr]; rfl
    have c3 : V.cell? ⟨(w.heap.size), 3, none⟩ = some (.slice q L.length c) := by rw [Lib.cell_of_heap hr]; rfl
    have c4 : V.cell? ⟨(w.heap.size), 4, none⟩ = some (.int .i64 p) := by rw [Lib.cell_of_heap hr]; rfl
    have hlt0 : w.heap.size < V.heap.size := row_lt hr
    clear hr hF
    go_wp2_with fail
    go_ret
    rw [HE.out]
    exact ⟨rfl, HF.out⟩
set_option maxHeartbeats 4000000 in
set_option maxRecDepth 100000 in
theorem good_in (w : World) (op : Int) (s : ByteArray) (n : Int) (L : List Ex) (p : Int) (q : Option Addr) (c : Nat) (deep : Nat) (f : Nat → List Value) (h : LA w q c f L) (hd : deep ≤ 200) (ho : op = 13) (hS : ∀ (U : World) (i : Nat) (x : Ex), Fr [] w U → L[i]? = some x → Calls Tryz.prog 33 #[.agg (f i).toArray, .int .i64 ((deep : Int) + 1)] U fun e w' => e = .returned (.bool (Ex.right x (deep + 1))) ∧ Fr [] U w') :
  Calls Tryz.prog 33 #[.agg #[.int .i64 op, .string s, .int .i64 n, .slice q L.length c, .int .i64 p], .int .i64 deep] w fun e w' => e = .returned (.bool (Ex.right (.mk op s n L p) deep)) ∧ Fr [] w w' := by
 have hd' : ¬ (deep : Int) > 200 := by omega
 have HL := Lib.hid h
 have HS := Lib.hid hS
 have hb : L.length ≤ 9223372036854775807 := by have h1 := h.hc; have h2 := h.hm; unfold maxLen at h2; omega
 clear h hS
 skip
 have HR : Hid (Ex.right (.mk op s n L p) deep = ((n == 0 && s.toList == [] && decide (2 ≤ L.length)) && Ex.rights L (deep + 1))) := by
  show _ = _
  rw [Ex.right, if_neg (by omega), Ex.head, if_neg (by omega), if_neg (by omega), if_neg (by omega), if_neg (by omega), if_neg (by omega), if_neg (by omega), if_pos ho]
 subst ho
 cases hn : (n == 0) with
 | false =>
  have HE : Hid (Ex.right (.mk 13 s n L p) deep = false) := by show _ = _; rw [HR.out, hn]; rfl
  have hn2 : (n != 0) = true := by rw [bne, hn]; rfl
  clear HR
  go_enter Tryz.func33, Tryz.ntmps33
  go_upto_region 1 with fail
  refine wp_fresh (fun V => V.heap[w.heap.size]? = some (.cells #[.int .i64 13, .string s, .int .i64 n, .slice q L.length c, .int .i64 p] 42 (0, 0)) ∧ Fr [] w V) ⟨heap_alloc_last _ _, (Fr.refl _ _).alloc _⟩ ?_
  rintro V ⟨hr, hF⟩
  have HF := Lib.hid hF
  have HB := Lib.hid hr
  have cf : ∀ i, V.frozen? ⟨(w.heap.size), i, none⟩ = false := fun i => Lib.frozen_of_heap hr i
  have c0 : V.cell? ⟨(w.heap.size), 0, none⟩ = some (.int .i64 13) := by rw [Lib.cell_of_heap hr]; rfl
  have c1 : V.cell? ⟨(w.heap.size), 1, none⟩ = some (.string s) := by rw [Lib.cell_of_heap hr]; rfl
  have c2 : V.cell? ⟨(w.heap.size), 2, none⟩ = some (.int .i64 n) := by rw [Lib.cell_of_heap hr]; rfl
  have c3 : V.cell? ⟨(w.heap.size), 3, none⟩ = some (.slice q L.length c) := by rw [Lib.cell_of_heap hr]; rfl
  have c4 : V.cell? ⟨(w.heap.size), 4, none⟩ = some (.int .i64 p) := by rw [Lib.cell_of_heap hr]; rfl
  have hlt0 : w.heap.size < V.heap.size := row_lt hr
  clear hr hF
  go_wp2_with fail
  go_ret
  rw [HE.out]
  exact ⟨rfl, HF.out⟩
 | true =>
  have hn2 : (n != 0) = false := by rw [bne, hn]; rfl
  cases he : s.toList.isEmpty with
  | false =>
   have HE : Hid (Ex.right (.mk 13 s n L p) deep = false) := by show _ = _; rw [HR.out, emp_no he, Bool.and_false]; rfl
   clear HR
   go_enter Tryz.func33, Tryz.ntmps33
   go_upto_region 1 with fail
   refine wp_fresh (fun V => V.heap[w.heap.size]? = some (.cells #[.int .i64 13, .string s, .int .i64 n, .slice q L.length c, .int .i64 p] 42 (0, 0)) ∧ Fr [] w V) ⟨heap_alloc_last _ _, (Fr.refl _ _).alloc _⟩ ?_
   rintro V ⟨hr, hF⟩
   have HF := Lib.hid hF
   have HB := Lib.hid hr
   have cf : ∀ i, V.frozen? ⟨(w.heap.size), i, none⟩ = false := fun i => Lib.frozen_of_heap hr i
   have c0 : V.cell? ⟨(w.heap.size), 0, none⟩ = some (.int .i64 13) := by rw [Lib.cell_of_heap hr]; rfl
   have c1 : V.cell? ⟨(w.heap.size), 1, none⟩ = some (.string s) := by rw [Lib.cell_of_heap hr]; rfl
   have c2 : V.cell? ⟨(w.heap.size), 2, none⟩ = some (.int .i64 n) := by rw [Lib.cell_of_heap hr]; rfl
   have c3 : V.cell? ⟨(w.heap.size), 3, none⟩ = some (.slice q L.length c) := by rw [Lib.cell_of_heap hr]; rfl
   have c4 : V.cell? ⟨(w.heap.size), 4, none⟩ = some (.int .i64 p) := by rw [Lib.cell_of_heap hr]; rfl
   have hlt0 : w.heap.size < V.heap.size := row_lt hr
   clear hr hF
   go_wp2_with fail
   go_ret
   rw [HE.out]
   exact ⟨rfl, HF.out⟩
  | true =>
   by_cases hk : 2 ≤ L.length
   ·have k1 : ¬ (L.length : Int) < 2 := by omega
    have HE : Hid (Ex.right (.mk 13 s n L p) deep = Ex.rights L (deep + 1)) := by show _ = _; rw [HR.out, hn, emp_of he]; simp [hk]
    clear HR hk
    go_enter Tryz.func33, Tryz.ntmps33
    go_upto_region 1 with fail
    refine wp_fresh (fun V => V.heap[w.heap.size]? = some (.cells #[.int .i64 13, .string s, .int .i64 n, .slice q L.length c, .int .i64 p] 42 (0, 0)) ∧ Fr [] w V) ⟨heap_alloc_last _ _, (Fr.refl _ _).alloc _⟩ ?_
    rintro V ⟨hr, hF⟩
    have HF := Lib.hid hF
    have HB := Lib.hid hr
    have cf : ∀ i, V.frozen? ⟨(w.heap.size), i, none⟩ = false := fun i => Lib.frozen_of_heap hr i
    have c0 : V.cell? ⟨(w.heap.size), 0, none⟩ = some (.int .i64 13) := by rw [Lib.cell_of_heap hr]; rfl
    have c1 : V.cell? ⟨(w.heap.size), 1, none⟩ = some (.string s) := by rw [Lib.cell_of_heap hr]; rfl
    have c2 : V.cell? ⟨(w.heap.size), 2, none⟩ = some (.int .i64 n) := by rw [Lib.cell_of_heap hr]; rfl
    have c3 : V.cell? ⟨(w.heap.size), 3, none⟩ = some (.slice q L.length c) := by rw [Lib.cell_of_heap hr]; rfl
    have c4 : V.cell? ⟨(w.heap.size), 4, none⟩ = some (.int .i64 p) := by rw [Lib.cell_of_heap hr]; rfl
    have hlt0 : w.heap.size < V.heap.size := row_lt hr
    clear hr hF
    go_wp2_with fail
    go_loopg [5] L.length (fun m s5 W => ∃ k : Nat, k ≤ L.length ∧ m = L.length - k ∧ s5 = .int .i64 k ∧ Hid (Fr [] V W) ∧ Hid (Ex.rights L (deep + 1) = Ex.rights (L.drop k) (deep + 1)))
    case atStart => exact ⟨0, by omega, by omega, rfl, Fr.refl _ _, rfl⟩
    case round =>
     obtain ⟨k, hk, hm, rfl, HFW, HEK⟩ := hrel
     have HM := Lib.hid hm
     have hr := HFW.out.row HB.out (by simp)
     have df : ∀ i, wr.frozen? ⟨(w.heap.size), i, none⟩ = false := fun i => Lib.frozen_of_heap hr i
     have d3 : wr.cell? ⟨(w.heap.size), 3, none⟩ = some (.slice q L.length c) := by rw [Lib.cell_of_heap hr]; rfl
     clear hm hr
     by_cases hlt : k < L.length
     ·have hlt' : (k : Int) < (L.length : Int) := by omega
      have hk0 : (0 : Int) ≤ (k : Int) := by omega
      obtain ⟨x, hx⟩ : ∃ x, L[k]? = some x := ⟨_, List.getElem?_eq_getElem hlt⟩
      obtain ⟨ad, rfl, h5⟩ := (HL.out.fr (HF.out.trans0 HFW.out)).hr k x hx
      obtain ⟨v0, v1, v2, v3, v4, hf0, a0, a1, a2, a3, a4⟩ := h5
      obtain ⟨xo, xs, xn, xq, xk, xc, xp, hf2⟩ := (HL.out.hx k x hx).form
      rw [hf0] at hf2
      simp only [List.cons.injEq, and_true] at hf2
      obtain ⟨rfl, rfl, rfl, rfl, rfl⟩ := hf2
      have HCL : Hid (Calls Tryz.prog 33 #[.agg #[.int .i64 xo, .string xs, .int .i64 xn, .slice xq xk xc, .int .i64 xp], .int .i64 ((deep : Int) + 1)] wr fun e w' => e = .returned (.bool (Ex.right x (deep + 1))) ∧ Fr [] wr w') := by
       have h9 := HS.out wr k x (HF.out.trans0 HFW.out) hx
       rw [hf0] at h9
       exact h9
      have HSD := Lib.hid (Ex.rights_drop (deep := deep + 1) hx)
      obtain ⟨z, hz⟩ : ∃ z, Ex.right x (deep + 1) = z := ⟨_, rfl⟩
      rw [hz] at HCL HSD
      clear hf0 hx hz
      go_wp2_with fail
      refine HCL.out.mono ?_
      rintro e w2 ⟨rfl, hF2⟩
      have HFW2 := Lib.hid (HFW.out.trans0 hF2)
      clear hF2 HCL
      cases z
      ·have HEF : Hid (Ex.right (.mk 13 s n L p) deep = false) := by show _ = _; rw [HE.out, HEK.out, HSD.out, Bool.false_and]
       go_wp2_with fail
       go_ret
       rw [HEF.out]
       exact ⟨rfl, HF.out.trans0 HFW2.out⟩
      ·have HEF : Hid (Ex.rights L (deep + 1) = Ex.rights (L.drop (k + 1)) (deep + 1)) := by show _ = _; rw [HEK.out, HSD.out, Bool.true_and]
       go_wp2_with fail
       go_roundg (L.length - (k + 1))
       case measure => have := HM.out; omega
       case rel => exact ⟨k + 1, by omega, rfl, by go_num, HFW2.out, HEF.out⟩
     ·have hlt' : ¬ (k : Int) < (L.length : Int) := by omega
      have HEF : Hid (Ex.right (.mk 13 s n L p) deep = true) := by show _ = _; rw [HE.out, HEK.out, List.drop_eq_nil_of_le (by omega), Ex.rights]
      go_wp2_with fail
      go_ret
      rw [HEF.out]
      exact ⟨rfl, HF.out.trans0 HFW.out⟩
   ·have k1 : (L.length : Int) < 2 := by omega
    have HE : Hid (Ex.right (.mk 13 s n L p) deep = false) := by show _ = _; rw [HR.out, hn, emp_of he]; simp [hk]
    clear HR hk
    go_enter Tryz.func33, Tryz.ntmps33
    go_upto_region 1 with fail
    refine wp_fresh (fun V => V.heap[w.heap.size]? = some (.cells #[.int .i64 13, .string s, .int .i64 n, .slice q L.length c, .int .i64 p] 42 (0, 0)) ∧ Fr [] w V) ⟨heap_alloc_last _ _, (Fr.refl _ _).alloc _⟩ ?_
    rintro V ⟨hr, hF⟩
    have HF := Lib.hid hF
    have HB := Lib.hid hr
    have cf : ∀ i, V.frozen? ⟨(w.heap.size), i, none⟩ = false := fun i => Lib.frozen_of_heap hr i
    have c0 : V.cell? ⟨(w.heap.size), 0, none⟩ = some (.int .i64 13) := by rw [Lib.cell_of_heap hr]; rfl
    have c1 : V.cell? ⟨(w.heap.size), 1, none⟩ = some (.string s) := by rw [Lib.cell_of_heap hr]; rfl
    have c2 : V.cell? ⟨(w.heap.size), 2, none⟩ = some (.int .i64 n) := by rw [Lib.cell_of_heap hr]; rfl
    have c3 : V.cell? ⟨(w.heap.size), 3, none⟩ = some (.slice q L.length c) := by rw [Lib.cell_of_heap hr]; rfl
    have c4 : V.cell? ⟨(w.heap.size), 4, none⟩ = some (.int .i64 p) := by rw [Lib.cell_of_heap hr]; rfl
    have hlt0 : w.heap.size < V.heap.size := row_lt hr
    clear hr hF
    go_wp2_with fail
    go_ret
    rw [HE.out]
    exact ⟨rfl, HF.out⟩
theorem ref_good {w : World} {cs : List Value} {x : Ex} (h : RepA w cs x) : ∀ (W : World) (deep : Nat), Fr [] w W → x.short →
  Calls Tryz.prog 33 #[.agg cs.toArray, .int .i64 deep] W fun e w' => e = .returned (.bool (Ex.right x deep)) ∧ Fr [] W w' := by
 induction h with
 | mk op s n L p q c f hc hm hr hx ih =>
  intro W deep hW hsh
  rw [Ex.short] at hsh
  have hLA : LA W q c f L := (LA.mk hc hm hr hx).fr hW
  have hS : ∀ (U : World) (i : Nat) (x : Ex), Fr [] W U → L[i]? = some x → Calls Tryz.prog 33 #[.agg (f i).toArray, .int .i64 ((deep : Int) + 1)] U fun e w' => e = .returned (.bool (Ex.right x (deep + 1))) ∧ Fr [] U w' := fun U i x hU hi => by
   have := ih i x hi U (deep + 1) (hW.trans0 hU) (Ex.shorts_at hsh.2 hi)
   rwa [show ((deep + 1 : Nat) : Int) = (deep : Int) + 1 by omega] at this
  by_cases hd : 200 < deep
  ·exact good_deep W op s n L p q c deep hd
  by_cases h1 : op < 1
  ·exact good_low W op s n L p q c deep (by omega) h1
  by_cases h14 : op > 14
  ·exact good_high W op s n L p q c deep (by omega) h14
  by_cases h5 : op ≤ 5
  ·exact good_leaf W op s n L p q c deep hsh.1 (by omega) (by omega) h5
  by_cases h6 : op = 6
  ·exact good_six W op s n L p q c deep f hLA (by omega) h6 hS
  by_cases h13 : op = 13
  ·exact good_in W op s n L p q c deep f hLA (by omega) h13 hS
  exact good_two W op s n L p q c deep f hLA (by omega) (by omega) hS
end Go.Proofs.YtgklmpooonnmiaaGreatDoor

namespace Go.Proofs.YtgklmpooonnmiaaGreatDoor
open Go.RowKit
set_option maxHeartbeats 4000000 in
set_option maxRecDepth 100000 in
theorem ref_Right (w : World) (q : Option Addr) (c : Nat) (f : Nat → List Value) (L : List Ru) (h : RsA w q c f L) (hn : ∀ u ∈ L, u.short) :
  Calls Tryz.prog 13 #[.slice q L.length c] w fun e w' => e = .returned (.bool (Ru.rights L)) ∧ Fr [] w w' := by
 have HL := Lib.hid h
 have HN := Lib.hid hn
 have hb : L.length ≤ 9223372036854775807 := by have h1 := h.hc; have h2 := h.hm; unfold maxLen at h2; omega
 clear h hn
 by_cases h16 : 16 < L.length
 ·have h16' : (L.length : Int) > 16 := by omega
  have HG : Hid (Ru.rights L = false) := by show _ = _; unfold Ru.rights; rw [decide_eq_false (by omega)]; rfl
  clear h16
  go_enter Tryz.func13, Tryz.ntmps13
  go_wp2_with fail
  go_ret
  rw [HG.out]
  exact ⟨rfl, Fr.refl _ _⟩
 have h16' : ¬ (L.length : Int) > 16 := by omega
 have HG : Hid (Ru.rights L = L.all Ru.right) := by show _ = _; unfold Ru.rights; rw [decide_eq_true (by omega)]; rfl
 clear h16
 go_enter Tryz.func13, Tryz.ntmps13
 go_wp2_with fail
 go_loopg [3] L.length (fun m s3 W => ∃ (k : Nat), k ≤ L.length ∧ m = L.length - k ∧ s3 = .int .i64 k ∧ Hid (Fr [] w W) ∧ Hid (Ru.rights L = (L.drop k).all Ru.right))
 case atStart => exact ⟨0, by omega, by omega, rfl, Fr.refl _ _, HG.out⟩
 case round =>
  clear HG
  obtain ⟨k, hk, hm, rfl, HF, HE⟩ := hrel
  have HM := Lib.hid hm
  clear hm
  by_cases hlt : k < L.length
  ·have hlt' : (k : Int) < (L.length : Int) := by omega
   have hk0 : (0 : Int) ≤ (k : Int) := by omega
   obtain ⟨u, hx⟩ : ∃ x, L[k]? = some x := ⟨_, List.getElem?_eq_getElem hlt⟩
   obtain ⟨ad, rfl, h5⟩ := HL.out.hr k u hx
   obtain ⟨q1, c1, q2, c2, g, hA⟩ := HL.out.hx k u hx
   obtain ⟨v0, v1, v2, v3, hf0, a0, a1, a2, a3⟩ := h5
   have hf2 := hA.e
   rw [hf0] at hf2
   simp only [List.cons.injEq, and_true] at hf2
   obtain ⟨rfl, rfl, rfl, rfl⟩ := hf2
   have HS := Lib.hid hA.s
   have HX := Lib.hid hA.l
   have HSH := Lib.hid (HN.out u (List.mem_of_getElem? hx))
   have HD := Lib.hid (Ru.all_drop hx)
   obtain ⟨ud, us, uw, up⟩ := u
   have hs1 : us.length ≤ 9223372036854775807 := by have h1 := HS.out.hc; have h2 := HS.out.hm; unfold maxLen at h2; simp only [] at h1; omega
   have hs2 : uw.length ≤ 9223372036854775807 := by have h1 := HX.out.hc; have h2 := HX.out.hm; unfold maxLen at h2; simp only [] at h1; omega
   have A1 := Lib.hid a1
   have A2 := Lib.hid a2
   clear hf0 hx hA a0 a1 a2 a3
   dsimp only at A1 A2 HS HX HD HSH
   have a1 := HF.out.cells A1.out
   have a2 := HF.out.cells A2.out
   by_cases hs4 : 16 < us.length
   ·have hs4' : (us.length : Int) > 16 := by omega
    have HEE : Hid (Ru.rights L = false) := by show _ = _; rw [HE.out, HD.out]; unfold Ru.right; rw [decide_eq_false (by show ¬ us.length ≤ 16; omega)]; rfl
    go_wp2_with fail
    go_ret
    rw [HEE.out]
    exact ⟨rfl, HF.out⟩
   ·have hs4' : ¬ (us.length : Int) > 16 := by omega
    by_cases hs5 : 1 < uw.length
    ·have hs5' : (uw.length : Int) > 1 := by omega
     have HEE : Hid (Ru.rights L = false) := by show _ = _; rw [HE.out, HD.out]; unfold Ru.right; rw [decide_eq_false (p := uw.length ≤ 1) (by omega)]; simp
     go_wp2_with fail
     go_ret
     rw [HEE.out]
     exact ⟨rfl, HF.out⟩
    ·have hs5' : ¬ (uw.length : Int) > 1 := by omega
     have HU : Hid (Ru.rights L = ((!unq us && Ex.rights uw 1) && (L.drop (k + 1)).all Ru.right)) := by
      show _ = _; rw [HE.out, HD.out]; unfold Ru.right; rw [decide_eq_true (p := us.length ≤ 16) (by omega), decide_eq_true (p := uw.length ≤ 1) (by omega)]; simp
     clear HE HD
     obtain ⟨wo, rfl⟩ : ∃ wo : World, wo = wr := ⟨_, rfl⟩
     go_wp2_with fail
     go_loopg [4] us.length (fun m s4 W => ∃ (j : Nat), j ≤ us.length ∧ m = us.length - j ∧ s4 = .int .i64 j ∧ Hid (Fr [] w W) ∧ Hid (unq us = unq (us.drop j)))
     case atStart => exact ⟨0, by omega, by omega, rfl, HF.out, rfl⟩
     case round =>
      clear a1 a2
      obtain ⟨j, hj, hm, rfl, HFJ, HEJ⟩ := hrel
      have HMJ := Lib.hid hm
      clear hm
      have a1 := HFJ.out.cells A1.out
      by_cases hjl : j < us.length
      ·have hjl' : (j : Int) < (us.length : Int) := by omega
       have hj0 : (0 : Int) ≤ (j : Int) := by omega
       obtain ⟨s, hs⟩ : ∃ s, us[j]? = some s := ⟨_, List.getElem?_eq_getElem hjl⟩
       obtain ⟨sb, so, rfl, sc⟩ := (HS.out.fr HFJ.out).hr j s hs
       have HSD := Lib.hid (unq_drop hs)
       have HCL := Lib.hid (ref_quoted12 wr s (HSH.out.1 s (List.mem_of_getElem? hs)))
       obtain ⟨z, hz⟩ : ∃ z, (Lex.quote s).isSome = z := ⟨_, rfl⟩
       rw [hz] at HCL HSD
       clear hs hz
       go_wp2_with fail
       refine HCL.out.mono ?_
       rintro e w2 ⟨rfl, hF2⟩
       have HF3 := Lib.hid (HFJ.out.trans0 hF2)
       clear hF2 HCL
       cases z
       ·have HEF : Hid (Ru.rights L = false) := by show _ = _; rw [HU.out, HEJ.out, HSD.out]; rfl
        go_wp2_with fail
        go_ret
        rw [HEF.out]
        exact ⟨rfl, HF3.out⟩
       ·have HEF : Hid (unq us = unq (us.drop (j + 1))) := by show _ = _; rw [HEJ.out, HSD.out]; rfl
        go_wp2_with fail
        go_roundg (us.length - (j + 1))
        case measure => have := HMJ.out; omega
        case rel => exact ⟨j + 1, by omega, rfl, by go_num, HF3.out, HEF.out⟩
      ·have hjl' : ¬ (j : Int) < (us.length : Int) := by omega
       have HU2 : Hid (Ru.rights L = (Ex.rights uw 1 && (L.drop (k + 1)).all Ru.right)) := by show _ = _; rw [HU.out, HEJ.out, List.drop_eq_nil_of_le (by omega)]; rfl
       clear HU HEJ
       have a2 := HFJ.out.cells A2.out
       obtain ⟨wp, rfl⟩ : ∃ wo : World, wo = wr := ⟨_, rfl⟩
       go_wp2_with fail
       go_loopg [5] uw.length (fun m s5 W => ∃ (i : Nat), i ≤ uw.length ∧ m = uw.length - i ∧ s5 = .int .i64 i ∧ Hid (Fr [] w W) ∧ Hid (Ex.rights uw 1 = Ex.rights (uw.drop i) 1))
       case atStart => exact ⟨0, by omega, by omega, rfl, HFJ.out, rfl⟩
       case round =>
        clear a1 a2
        obtain ⟨i, hi, hm, rfl, HFI, HEI⟩ := hrel
        have HMI := Lib.hid hm
        clear hm
        have a2 := HFI.out.cells A2.out
        by_cases hil : i < uw.length
        ·have hil' : (i : Int) < (uw.length : Int) := by omega
         have hi0 : (0 : Int) ≤ (i : Int) := by omega
         obtain ⟨x, hx⟩ : ∃ s, uw[i]? = some s := ⟨_, List.getElem?_eq_getElem hil⟩
         obtain ⟨ae, rfl, h5⟩ := (HX.out.fr HFI.out).hr i x hx
         obtain ⟨u0, u1, u2, u3, u4, hf0, b0, b1, b2, b3, b4⟩ := h5
         obtain ⟨xo, xs, xn, xq, xk, xc, xp, hf2⟩ := (HX.out.hx i x hx).form
         rw [hf0] at hf2
         simp only [List.cons.injEq, and_true] at hf2
         obtain ⟨rfl, rfl, rfl, rfl, rfl⟩ := hf2
         have HSD := Lib.hid (Ex.rights_drop (deep := 1) hx)
         have HCL : Hid (Calls Tryz.prog 33 #[.agg #[.int .i64 xo, .string xs, .int .i64 xn, .slice xq xk xc, .int .i64 xp], .int .i64 1] wr fun e w' => e = .returned (.bool (Ex.right x 1)) ∧ Fr [] wr w') := by
          have h9 := ref_good (HX.out.hx i x hx) wr 1 HFI.out (Ex.shorts_at HSH.out.2 hx)
          rw [hf0] at h9
          exact h9
         obtain ⟨z, hz⟩ : ∃ z, Ex.right x 1 = z := ⟨_, rfl⟩
         rw [hz] at HCL HSD
         clear hx hz hf0
         go_wp2_with fail
         refine HCL.out.mono ?_
         rintro e w2 ⟨rfl, hF2⟩
         have HF3 := Lib.hid (HFI.out.trans0 hF2)
         clear hF2 HCL
         cases z
         ·have HEF : Hid (Ru.rights L = false) := by show _ = _; rw [HU2.out, HEI.out, HSD.out]; rfl
          go_wp2_with fail
          go_ret
          rw [HEF.out]
          exact ⟨rfl, HF3.out⟩
         ·have HEF : Hid (Ex.rights uw 1 = Ex.rights (uw.drop (i + 1)) 1) := by show _ = _; rw [HEI.out, HSD.out, Bool.true_and]
          go_wp2_with fail
          go_roundg (uw.length - (i + 1))
          case measure => have := HMI.out; omega
          case rel => exact ⟨i + 1, by omega, rfl, by go_num, HF3.out, HEF.out⟩
        ·have hil' : ¬ (i : Int) < (uw.length : Int) := by omega
         have HEF : Hid (Ru.rights L = (L.drop (k + 1)).all Ru.right) := by show _ = _; rw [HU2.out, HEI.out, List.drop_eq_nil_of_le (by omega), Ex.rights, Bool.true_and]
         go_wp2_with fail
         go_roundg (L.length - (k + 1))
         case measure => have := HM.out; omega
         case rel => exact ⟨k + 1, by omega, rfl, by go_num, HFI.out, HEF.out⟩
  ·have hlt' : ¬ (k : Int) < (L.length : Int) := by omega
   have HEE : Hid (Ru.rights L = true) := by show _ = _; rw [HE.out, List.drop_eq_nil_of_le (by omega)]; rfl
   go_wp2_with fail
   go_ret
   rw [HEE.out]
   exact ⟨rfl, HF.out⟩
end Go.Proofs.YtgklmpooonnmiaaGreatDoor
