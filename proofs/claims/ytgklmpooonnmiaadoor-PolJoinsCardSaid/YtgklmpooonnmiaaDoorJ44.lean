/-
  Lemmas and contracts that the proofs over this seat use (PolRightA, PolWrite); no statement of the seat is claimed in this text, and nothing is assumed in it.
-/
import Derived.Test.YtgklmpooonnmiaaDoorJ39
import Derived.Test.YtgklmpooonnmiaaDoorJ40
import Derived.Test.YtgklmpooonnmiaaDoorJ41
import Derived.Test.YtgklmpooonnmiaaDoorJ42
import Derived.Test.YtgklmpooonnmiaaDoorJ43
import Derived.Test.YtgklmpooonnmiaaDoorJ37
set_option linter.unusedVariables false
set_option linter.unusedSimpArgs false
namespace Go.Proofs.YtgklmpooonnmiaaDoor
open Go.RowKit
theorem pol_right {w : World} {cs : List Value} {x : Ex} (h : RepA w cs x) : ∀ (W : World) (ad : Addr) (deep : Nat), Fr [] w W → Five W ad cs → x.short → Least W →
  Calls Tryd.prog 96 #[.pointer (some ad), .int .i64 deep] W fun e w' => e = .returned (.bool (Ex.right x deep)) ∧ Fr [] W w' := by
 induction h with
 | mk op s n L p q c f hc hm hr hx ih =>
  intro W ad deep hW h5 hsh hL
  rw [Ex.short] at hsh
  by_cases hd : deep ≤ 200
  ·have hLA : LA W q c f L := (LA.mk hc hm hr hx).fr hW
   have hS : ∀ (V : World) (i : Nat) (x : Ex) (ae : Addr), Fr [] W V → L[i]? = some x → Five V ae (f i) → Calls Tryd.prog 96 #[.pointer (some ae), .int .i64 ((deep : Int) + 1)] V fun e w' => e = .returned (.bool (Ex.right x (deep + 1))) ∧ Fr [] V w' := fun V i x ae hV hi h5' => by
    have := ih i x hi V ae (deep + 1) (hW.trans0 hV) h5' (Ex.shorts_at hsh.2 hi) (hL.fr hV (by simp))
    rwa [show ((deep + 1 : Nat) : Int) = (deep : Int) + 1 by omega] at this
   by_cases e1 : op = 1
   ·exact right_1 W ad op s n p q c f L hLA deep hd h5 e1 hS
   by_cases e2 : op = 2
   ·exact right_2 W ad op s n p q c f L hLA deep hd h5 e2 hS
   by_cases e3 : op = 3
   ·exact right_3 W ad op s n p q c f L hLA deep hd hsh.1 hL h5 e3
   by_cases e4 : op = 4
   ·exact right_4 W ad op s n p q c f L hLA deep hd hsh.1 hL h5 e4
   by_cases e5 : op = 5
   ·exact right_5 W ad op s n p q c f L hLA deep hd hsh.1 hL h5 e5
   by_cases e6 : op = 6
   ·exact right_6 W ad op s n p q c f L hLA deep hd h5 e6 hS
   by_cases e7 : op = 7
   ·exact right_two W ad op s n p q c f L hLA deep hd h5 e7 hS
   by_cases e8 : op = 8
   ·exact right_8 W ad op s n p q c f L hLA deep hd h5 e8 hS
   by_cases e9 : op = 9
   ·exact right_9 W ad op s n p q c f L hLA deep hd h5 e9 hS
   by_cases e10 : op = 10
   ·exact right_10 W ad op s n p q c f L hLA deep hd h5 e10 hS
   by_cases e11 : op = 11
   ·exact right_11 W ad op s n p q c f L hLA deep hd h5 e11 hS
   by_cases e12 : op = 12
   ·exact right_12 W ad op s n p q c f L hLA deep hd h5 e12 hS
   by_cases e13 : op = 13
   ·exact right_13 W ad op s n p q c f L hLA deep hd h5 e13 hS
   by_cases e14 : op = 14
   ·exact right_14 W ad op s n p q c f L hLA deep hd h5 e14 hS
   exact right_other W ad op s n p q c f L hLA deep hd h5 (fun k h1 h2 => by omega) hS
  ·have := right_deep W (.pointer (some ad)) deep (by omega)
   rw [show Ex.right (.mk op s n L p) deep = false by rw [Ex.right, if_pos (by omega)]]
   exact this
end Go.Proofs.YtgklmpooonnmiaaDoor

namespace Go.Proofs.YtgklmpooonnmiaaDoor
open Go.RowKit
set_option maxHeartbeats 1000000 in
set_option maxRecDepth 100000 in
theorem write_paren (w0 W : World) (b : Nat) (adE : Addr) (op : Int) (s : ByteArray) (n p : Int) (q : Option Addr) (L : List Ex) (c : Nat) (D : List Nat) (asked : Int)
  (h5 : Five w0 adE [.int .i64 op, .string s, .int .i64 n, .slice q L.length c, .int .i64 p]) (hW : Below w0.heap.size w0 W) (hB : Bld w0.heap.size b D W) (hl : Pol.level op < asked)
  (hb : ∀ (W : World) (D : List Nat), Below w0.heap.size w0 W → Bld w0.heap.size b D W → D.length + (Ex.body op s n L).length < 1000000000 →
   Calls Tryd.prog 76 #[.pointer (some ⟨b, 0, none⟩), .pointer (some adE), .int .i64 1] W fun e w' => e = .returned (.tuple #[]) ∧ Bld w0.heap.size b (D ++ Ex.body op s n L) w' ∧ Below w0.heap.size W w' ∧ BFr b W w')
  (hlen : D.length + (Ex.body op s n L).length + 2 < 1000000000) :
  Calls Tryd.prog 76 #[.pointer (some ⟨b, 0, none⟩), .pointer (some adE), .int .i64 asked] W fun e w' => e = .returned (.tuple #[]) ∧ Bld w0.heap.size b (D ++ (40 :: (Ex.body op s n L ++ [41]))) w' ∧ Below w0.heap.size W w' ∧ BFr b W w' := by
 obtain ⟨v0, v1, v2, v3, v4, hv, a0, a1, a2, a3, a4⟩ := h5
 simp only [List.cons.injEq, and_true] at hv
 obtain ⟨rfl, rfl, rfl, rfl, rfl⟩ := hv
 have HW := Lib.hid hW
 have HB := Lib.hid hB
 have HBD := Lib.hid hb
 have HLEN := Lib.hid hlen
 obtain ⟨M, hM⟩ : ∃ M, Ex.body op s n L = M := ⟨_, rfl⟩
 simp only [hM] at HBD HLEN ⊢
 clear hW hB a1 a2 a3 a4 hb hlen hM
 have e0 := (Fr.of_below HW.out).cells a0
 have hbl := World.block_lt_of_cell? W _ e0
 go_enter Tryd.func76, Tryd.ntmps76
 go_wp2_with fail
 refine calls_fresh (fun V => WSt w0 W b W.heap.size (W.heap.size + 1) adE D V) (WSt.start HW.out HB.out) ?_
 intro V hV
 have H := Lib.hid hV
 have c1 := hV.c1
 have c2 := hV.c2
 clear e0 hbl
 have e0 := (Fr.of_below hV.w0V).cells a0
 clear hV
 refine (pol_level _ _).mono ?_
 rintro e w1 ⟨rfl, rfl⟩
 go_wp2_with fail
 have HS := Lib.hid H.out.size
 have h1 : D.length < 1000000000 := by have := HLEN.out; omega
 have HC := bld_byteF w0.heap.size b _ 40 _ H.out.bl h1 HS.out
 clear h1
 refine HC.mono ?_
 rintro e w1 ⟨rfl, hbl, hbw, hbf⟩
 have H := Lib.hid (H.out.step hbl hbw hbf)
 clear HC hbl hbw hbf c1 c2 e0
 have c1 := H.out.c1
 have c2 := H.out.c2
 go_wp2_with fail
 have h1 : (D ++ [40]).length + M.length < 1000000000 := by rw [List.length_append]; have := HLEN.out; simp only [List.length_cons, List.length_nil]; omega
 have HC := HBD.out _ _ H.out.w0V H.out.bl h1
 clear h1
 refine HC.mono ?_
 rintro e w2 ⟨rfl, hbl, hbw, hbf⟩
 have H := Lib.hid (H.out.step hbl hbw hbf)
 clear HC hbl hbw hbf c1 c2
 have c1 := H.out.c1
 have c2 := H.out.c2
 go_wp2_with fail
 have HS := Lib.hid H.out.size
 have h1 : (D ++ [40] ++ M).length < 1000000000 := by rw [List.length_append, List.length_append]; have := HLEN.out; simp only [List.length_cons, List.length_nil]; omega
 have HC := bld_byteF w0.heap.size b _ 41 _ H.out.bl h1 HS.out
 clear h1
 refine HC.mono ?_
 rintro e w3 ⟨rfl, hbl, hbw, hbf⟩
 have H := Lib.hid (H.out.step hbl hbw hbf)
 clear HC hbl hbw hbf c1 c2
 go_wp2_with fail
 refine bodyPost_ret (results_none rfl _ _ _) rfl ?_
 refine ⟨rfl, ?_, H.out.bw, H.out.bf⟩
 have h := H.out.bl
 simp only [List.append_assoc] at h
 exact h
theorem Pol.level_pos (op : Int) : 1 ≤ Pol.level op := by
 unfold Pol.level
 repeat' (split; omega)
 omega
theorem Ex.rights_at : ∀ {L : List Ex} {i : Nat} {x : Ex} {deep : Nat}, Ex.rights L deep = true → L[i]? = some x → Ex.right x deep = true
 | [], i, x, _, _, h => by simp at h
 | y :: r, 0, x, deep, h, e => by
  rw [Ex.rights, Bool.and_eq_true] at h
  simp at e
  subst e
  exact h.1
 | y :: r, i + 1, x, deep, h, e => by
  rw [Ex.rights, Bool.and_eq_true] at h
  exact Ex.rights_at h.2 (by simpa using e)
theorem Ex.head_cases {op : Int} {s : ByteArray} {n : Int} {k : Nat} (h : Ex.head op s n k = true) :
  (op = 1 ∧ k = 0 ∧ (n = 0 ∨ n = 1)) ∨ (op = 2 ∧ k = 0 ∧ -9007199254740991 ≤ n ∧ n ≤ 9007199254740991) ∨ (op = 3 ∧ k = 0) ∨ (op = 5 ∧ k = 0) ∨ (op = 4 ∧ k = 0) ∨ (op = 6 ∧ k = 1) ∨ (((7 ≤ op ∧ op ≤ 12) ∨ op = 14) ∧ k = 2) ∨ (op = 13 ∧ 2 ≤ k) := by
 unfold Ex.head at h
 by_cases e1 : op = 1
 ·rw [if_pos e1] at h
  simp only [Bool.and_eq_true, Bool.or_eq_true, beq_iff_eq] at h
  exact Or.inl ⟨e1, h.2, h.1.1⟩
 rw [if_neg e1] at h
 by_cases e2 : op = 2
 ·rw [if_pos e2] at h
  simp only [Bool.and_eq_true, decide_eq_true_eq, beq_iff_eq] at h
  exact Or.inr (Or.inl ⟨e2, h.2, h.1.1.1, h.1.1.2⟩)
 rw [if_neg e2] at h
 by_cases e3 : op = 3 ∨ op = 5
 ·rw [if_pos e3] at h
  simp only [Bool.and_eq_true, beq_iff_eq] at h
  rcases e3 with e | e
  ·exact Or.inr (Or.inr (Or.inl ⟨e, h.2⟩))
  ·exact Or.inr (Or.inr (Or.inr (Or.inl ⟨e, h.2⟩)))
 rw [if_neg e3] at h
 by_cases e4 : op = 4
 ·rw [if_pos e4] at h
  simp only [Bool.and_eq_true, beq_iff_eq] at h
  exact Or.inr (Or.inr (Or.inr (Or.inr (Or.inl ⟨e4, h.2⟩))))
 rw [if_neg e4] at h
 by_cases e6 : op = 6
 ·rw [if_pos e6] at h
  simp only [Bool.and_eq_true, beq_iff_eq] at h
  exact Or.inr (Or.inr (Or.inr (Or.inr (Or.inr (Or.inl ⟨e6, h.2⟩)))))
 rw [if_neg e6] at h
 by_cases e7 : (7 ≤ op ∧ op ≤ 12) ∨ op = 14
 ·rw [if_pos e7] at h
  simp only [Bool.and_eq_true, beq_iff_eq] at h
  exact Or.inr (Or.inr (Or.inr (Or.inr (Or.inr (Or.inr (Or.inl ⟨e7, h.2⟩))))))
 rw [if_neg e7] at h
 by_cases e13 : op = 13
 ·rw [if_pos e13] at h
  simp only [Bool.and_eq_true, beq_iff_eq, decide_eq_true_eq] at h
  exact Or.inr (Or.inr (Or.inr (Or.inr (Or.inr (Or.inr (Or.inr ⟨e13, h.2⟩))))))
 rw [if_neg e13] at h
 cases h
theorem one_of {L : List Ex} (h : L.length = 1) : ∃ x, L = [x] := by
 cases L with
 | nil => simp at h
 | cons x r => cases r with
   | nil => exact ⟨x, rfl⟩
   | cons _ _ => simp at h
theorem two_of {L : List Ex} (h : L.length = 2) : ∃ x y, L = [x, y] := by
 cases L with
 | nil => simp at h
 | cons x r =>
  obtain ⟨y, rfl⟩ := one_of (L := r) (by simpa using h)
  exact ⟨x, y, rfl⟩
theorem add0 {w0 : World} {b : Nat} {x : Ex} {a : Addr} (h : Writes w0 b x (a.add (0 * 5))) : Writes w0 b x a := by
 have e : a.add (0 * 5) = a := by unfold Addr.add; split <;> simp_all
 rw [e] at h
 exact h
theorem pol_write {w0 : World} {cs : List Value} {x : Ex} (h : RepA w0 cs x) : ∀ (deep : Nat) (b : Nat) (ad : Addr), Ex.right x deep = true → x.short → Five w0 ad cs → Least w0 → Writes w0 b x ad := by
 induction h with
 | mk op s n L p q c f hc hm hr hx ih =>
  intro deep b ad hright hsh h5 hLe
  rw [Ex.short] at hsh
  have hd : ¬ 200 < deep := by
   intro hd
   rw [Ex.right, if_pos hd] at hright
   cases hright
  rw [Ex.right, if_neg hd, Bool.and_eq_true] at hright
  have hch : ∀ i y, L[i]? = some y → ∃ a, q = some a ∧ Writes w0 b y (a.add (i * 5)) := fun i y hi => by
   obtain ⟨a, hq, hf⟩ := hr i y hi
   exact ⟨a, hq, ih i y hi (deep + 1) b (a.add (i * 5)) (Ex.rights_at hright.2 hi) (Ex.shorts_at hsh.2 hi) hf hLe⟩
  have body : ∀ (W : World) (D : List Nat) (asked : Int), ¬ Pol.level op < asked → Below w0.heap.size w0 W → Bld w0.heap.size b D W → D.length + (Ex.body op s n L).length < 1000000000 →
    Calls Tryd.prog 76 #[.pointer (some ⟨b, 0, none⟩), .pointer (some ad), .int .i64 asked] W fun e w' => e = .returned (.tuple #[]) ∧ Bld w0.heap.size b (D ++ Ex.body op s n L) w' ∧ Below w0.heap.size W w' ∧ BFr b W w' := by
   intro W D asked hl hW hB hlen
   rcases Ex.head_cases hright.1 with ⟨e, k, hn⟩ | ⟨e, k, hn⟩ | ⟨e, k⟩ | ⟨e, k⟩ | ⟨e, k⟩ | ⟨e, k⟩ | ⟨e, k⟩ | ⟨e, k⟩
   ·have hL := List.eq_nil_of_length_eq_zero k
    rcases hn with hn | hn
    ·exact write_1_0 w0 W b ad op s n p q L c D asked h5 hW hB hl e hL hn hlen
    ·exact write_1_1 w0 W b ad op s n p q L c D asked h5 hW hB hl e hL hn hlen
   ·exact write_2 w0 W b ad op s n p q L c D asked h5 hW hB hl e (List.eq_nil_of_length_eq_zero k) ⟨by omega, by omega⟩ hlen
   ·exact write_3 w0 W b ad op s n p q L c D asked h5 hW hB hl e (List.eq_nil_of_length_eq_zero k) hsh.1 hLe hlen
   ·exact write_5 w0 W b ad op s n p q L c D asked h5 hW hB hl e (List.eq_nil_of_length_eq_zero k) hsh.1 hLe hlen
   ·exact write_4 w0 W b ad op s n p q L c D asked h5 hW hB hl e (List.eq_nil_of_length_eq_zero k) hlen
   ·obtain ⟨x, hL⟩ := one_of k
    obtain ⟨a, hq, h0⟩ := hch 0 x (by rw [hL]; rfl)
    exact write_6 w0 W b ad _ op s n p q x L c D asked h5 hW hB hl e hL hq (add0 h0) hlen
   ·obtain ⟨x, y, hL⟩ := two_of k
    obtain ⟨a, hq, h0⟩ := hch 0 x (by rw [hL]; rfl)
    obtain ⟨a', hq', h1⟩ := hch 1 y (by rw [hL]; rfl)
    have ha : a' = a := by rw [hq] at hq'; exact (Option.some.inj hq').symm
    subst ha
    by_cases e7 : op = 7
    ·exact write_7 w0 W b ad _ op s n p q x y L c D asked h5 hW hB hl e7 hL hq (add0 h0) h1 hlen
    by_cases e8 : op = 8
    ·exact write_8 w0 W b ad _ op s n p q x y L c D asked h5 hW hB hl e8 hL hq (add0 h0) h1 hlen
    by_cases e9 : op = 9
    ·exact write_9 w0 W b ad _ op s n p q x y L c D asked h5 hW hB hl e9 hL hq (add0 h0) h1 hlen
    by_cases e10 : op = 10
    ·exact write_10 w0 W b ad _ op s n p q x y L c D asked h5 hW hB hl e10 hL hq (add0 h0) h1 hlen
    by_cases e11 : op = 11
    ·exact write_11 w0 W b ad _ op s n p q x y L c D asked h5 hW hB hl e11 hL hq (add0 h0) h1 hlen
    by_cases e12 : op = 12
    ·exact write_12 w0 W b ad _ op s n p q x y L c D asked h5 hW hB hl e12 hL hq (add0 h0) h1 hlen
    exact write_14 w0 W b ad _ op s n p q x y L c D asked h5 hW hB hl (by omega) hL hq (add0 h0) h1 hlen
   ·obtain ⟨x, r, hL⟩ : ∃ x r, L = x :: r := by
     cases L with
     | nil => simp at k
     | cons x r => exact ⟨x, r, rfl⟩
    obtain ⟨a, hq, h0⟩ := hch 0 x (by rw [hL]; rfl)
    refine write_13 w0 W b ad a op s n p q x r L c D asked h5 hW hB hl e hL (by rw [hL] at k; simp at k; omega) hc hm hq (add0 h0) (fun i y hi => ?_) hlen
    obtain ⟨a', hq', h1⟩ := hch (i + 1) y (by rw [hL]; simpa using hi)
    have ha : a' = a := by rw [hq] at hq'; exact (Option.some.inj hq').symm
    rw [← ha]
    exact h1
  intro W D asked hW hB hlen
  rw [Ex.text] at hlen ⊢
  by_cases hl : Pol.level op < asked
  ·rw [if_pos hl] at hlen ⊢
   refine write_paren w0 W b ad op s n p q L c D asked h5 hW hB hl (fun W' D' hW' hB' hlen' => body W' D' 1 (by have := Pol.level_pos op; omega) hW' hB' hlen') ?_
   simp only [List.length_cons, List.length_append, List.length_nil] at hlen
   omega
  ·rw [if_neg hl] at hlen ⊢
   exact body W D asked hl hW hB hlen
end Go.Proofs.YtgklmpooonnmiaaDoor
