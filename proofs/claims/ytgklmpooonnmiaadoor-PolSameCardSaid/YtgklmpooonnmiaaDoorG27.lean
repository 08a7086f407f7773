/-
  Lemmas and contracts that the proofs over this seat use (PolWrite, PolRightL, PolPrintP, PolPrintL); no statement of the seat is claimed in this text, and nothing is assumed in it.
-/
import Derived.Test.YtgklmpooonnmiaaDoorG22
import Derived.Test.YtgklmpooonnmiaaDoorG26
import Derived.Test.YtgklmpooonnmiaaDoorG18
import Derived.Test.YtgklmpooonnmiaaDoorG4
set_option linter.unusedVariables false
set_option linter.unusedSimpArgs false
namespace Go.Proofs.YtgklmpooonnmiaaDoor
open Go.RowKit

set_option maxHeartbeats 1000000 in
set_option maxRecDepth 100000 in
/-- within ( and ). -/
theorem write_paren (w0 W : World) (b : Nat) (adE : Addr) (op : Int) (s : ByteArray) (n p : Int) (q : Option Addr) (L : List Ex) (c : Nat) (D : List Nat) (asked : Int)
    (h5 : Five w0 adE [.int .i64 op, .string s, .int .i64 n, .slice q L.length c, .int .i64 p]) (hW : Below w0.heap.size w0 W) (hB : Bld w0.heap.size b D W) (hl : Pol.level op < asked)
    (hb : ∀ (W : World) (D : List Nat), Below w0.heap.size w0 W → Bld w0.heap.size b D W → D.length + (Ex.body op s n L).length < 1000000000 →
      Calls Tryd.prog 76 #[.pointer (some ⟨b, 0, none⟩), .pointer (some adE), .int .i64 1] W fun e w' => e = .returned (.tuple #[]) ∧ Bld w0.heap.size b (D ++ Ex.body op s n L) w' ∧ Below w0.heap.size W w' ∧ BFr b W w')
    (hlen : D.length + (Ex.body op s n L).length + 2 < 1000000000) :
    Calls Tryd.prog 76 #[.pointer (some ⟨b, 0, none⟩), .pointer (some adE), .int .i64 asked] W fun e w' => e = .returned (.tuple #[]) ∧ Bld w0.heap.size b (D ++ (40 :: (Ex.body op s n L ++ [41]))) w' ∧ Below w0.heap.size W w' ∧ BFr b W w' := by
  obtain ⟨v0, v1, v2, v3, v4, hv, a0, a1, a2, a3, a4⟩ := h5
  simp only [List.cons.injEq, and_true] at hv
  obtain ⟨rfl, rfl, rfl, rfl, rfl⟩ := hv
  have HW := Lib.hid hW
  have HB := Lib.hid hB
  have HBD := Lib.hid hb
  have HLEN := Lib.hid hlen
  obtain ⟨M, hM⟩ : ∃ M, Ex.body op s n L = M := ⟨_, rfl⟩
  simp only [hM] at HBD HLEN ⊢
  clear hW hB a1 a2 a3 a4 hb hlen hM
  have e0 := (Fr.of_below HW.out).cells a0
  have hbl := World.block_lt_of_cell? W _ e0
  go_enter Tryd.func76, Tryd.ntmps76
  go_wp2_with fail
  refine calls_fresh (fun V => WSt w0 W b W.heap.size (W.heap.size + 1) adE D V) (WSt.start HW.out HB.out) ?_
  intro V hV
  have H := Lib.hid hV
  have c1 := hV.c1
  have c2 := hV.c2
  clear e0 hbl
  have e0 := (Fr.of_below hV.w0V).cells a0
  clear hV
  refine (pol_level _ _).mono ?_
  rintro e w1 ⟨rfl, rfl⟩
  go_wp2_with fail
  have HS := Lib.hid H.out.size
  have h1 : D.length < 1000000000 := by have := HLEN.out; omega
  have HC := bld_byteF w0.heap.size b _ 40 _ H.out.bl h1 HS.out
  clear h1
  refine HC.mono ?_
  rintro e w1 ⟨rfl, hbl, hbw, hbf⟩
  have H := Lib.hid (H.out.step hbl hbw hbf)
  clear HC hbl hbw hbf c1 c2 e0
  have c1 := H.out.c1
  have c2 := H.out.c2
  go_wp2_with fail
  have h1 : (D ++ [40]).length + M.length < 1000000000 := by rw [List.length_append]; have := HLEN.out; simp only [List.length_cons, List.length_nil]; omega
  have HC := HBD.out _ _ H.out.w0V H.out.bl h1
  clear h1
  refine HC.mono ?_
  rintro e w2 ⟨rfl, hbl, hbw, hbf⟩
  have H := Lib.hid (H.out.step hbl hbw hbf)
  clear HC hbl hbw hbf c1 c2
  have c1 := H.out.c1
  have c2 := H.out.c2
  go_wp2_with fail
  have HS := Lib.hid H.out.size
  have h1 : (D ++ [40] ++ M).length < 1000000000 := by rw [List.length_append, List.length_append]; have := HLEN.out; simp only [List.length_cons, List.length_nil]; omega
  have HC := bld_byteF w0.heap.size b _ 41 _ H.out.bl h1 HS.out
  clear h1
  refine HC.mono ?_
  rintro e w3 ⟨rfl, hbl, hbw, hbf⟩
  have H := Lib.hid (H.out.step hbl hbw hbf)
  clear HC hbl hbw hbf c1 c2
  go_wp2_with fail
  refine bodyPost_ret (results_none rfl _ _ _) rfl ?_
  refine ⟨rfl, ?_, H.out.bw, H.out.bf⟩
  have h := H.out.bl
  simp only [List.append_assoc] at h
  exact h
theorem Pol.level_pos (op : Int) : 1 ≤ Pol.level op := by
  unfold Pol.level
  repeat' (split; omega)
  omega
theorem Ex.rights_at : ∀ {L : List Ex} {i : Nat} {x : Ex} {deep : Nat}, Ex.rights L deep = true → L[i]? = some x → Ex.right x deep = true
  | [], i, x, _, _, h => by simp at h
  | y :: r, 0, x, deep, h, e => by
    rw [Ex.rights, Bool.and_eq_true] at h
    simp at e
    subst e
    exact h.1
  | y :: r, i + 1, x, deep, h, e => by
    rw [Ex.rights, Bool.and_eq_true] at h
    exact Ex.rights_at h.2 (by simpa using e)
/-- what a right head is. -/
theorem Ex.head_cases {op : Int} {s : ByteArray} {n : Int} {k : Nat} (h : Ex.head op s n k = true) :
    (op = 1 ∧ k = 0 ∧ (n = 0 ∨ n = 1)) ∨ (op = 2 ∧ k = 0 ∧ -9007199254740991 ≤ n ∧ n ≤ 9007199254740991) ∨ (op = 3 ∧ k = 0) ∨ (op = 5 ∧ k = 0) ∨ (op = 4 ∧ k = 0) ∨ (op = 6 ∧ k = 1) ∨ (((7 ≤ op ∧ op ≤ 12) ∨ op = 14) ∧ k = 2) ∨ (op = 13 ∧ 2 ≤ k) := by
  unfold Ex.head at h
  by_cases e1 : op = 1
  · rw [if_pos e1] at h
    simp only [Bool.and_eq_true, Bool.or_eq_true, beq_iff_eq] at h
    exact Or.inl ⟨e1, h.2, h.1.1⟩
  rw [if_neg e1] at h
  by_cases e2 : op = 2
  · rw [if_pos e2] at h
    simp only [Bool.and_eq_true, decide_eq_true_eq, beq_iff_eq] at h
    exact Or.inr (Or.inl ⟨e2, h.2, h.1.1.1, h.1.1.2⟩)
  rw [if_neg e2] at h
  by_cases e3 : op = 3 ∨ op = 5
  · rw [if_pos e3] at h
    simp only [Bool.and_eq_true, beq_iff_eq] at h
    rcases e3 with e | e
    · exact Or.inr (Or.inr (Or.inl ⟨e, h.2⟩))
    · exact Or.inr (Or.inr (Or.inr (Or.inl ⟨e, h.2⟩)))
  rw [if_neg e3] at h
  by_cases e4 : op = 4
  · rw [if_pos e4] at h
    simp only [Bool.and_eq_true, beq_iff_eq] at h
    exact Or.inr (Or.inr (Or.inr (Or.inr (Or.inl ⟨e4, h.2⟩))))
  rw [if_neg e4] at h
  by_cases e6 : op = 6
  · rw [if_pos e6] at h
    simp only [Bool.and_eq_true, beq_iff_eq] at h
    exact Or.inr (Or.inr (Or.inr (Or.inr (Or.inr (Or.inl ⟨e6, h.2⟩)))))
  rw [if_neg e6] at h
  by_cases e7 : (7 ≤ op ∧ op ≤ 12) ∨ op = 14
  · rw [if_pos e7] at h
    simp only [Bool.and_eq_true, beq_iff_eq] at h
    exact Or.inr (Or.inr (Or.inr (Or.inr (Or.inr (Or.inr (Or.inl ⟨e7, h.2⟩))))))
  rw [if_neg e7] at h
  by_cases e13 : op = 13
  · rw [if_pos e13] at h
    simp only [Bool.and_eq_true, beq_iff_eq, decide_eq_true_eq] at h
    exact Or.inr (Or.inr (Or.inr (Or.inr (Or.inr (Or.inr (Or.inr ⟨e13, h.2⟩))))))
  rw [if_neg e13] at h
  cases h
theorem one_of {L : List Ex} (h : L.length = 1) : ∃ x, L = [x] := by
  cases L with
  | nil => simp at h
  | cons x r => cases r with
    | nil => exact ⟨x, rfl⟩
    | cons _ _ => simp at h
theorem two_of {L : List Ex} (h : L.length = 2) : ∃ x y, L = [x, y] := by
  cases L with
  | nil => simp at h
  | cons x r =>
    obtain ⟨y, rfl⟩ := one_of (L := r) (by simpa using h)
    exact ⟨x, y, rfl⟩
theorem add0 {w0 : World} {b : Nat} {x : Ex} {a : Addr} (h : Writes w0 b x (a.add (0 * 5))) : Writes w0 b x a := by
  have e : a.add (0 * 5) = a := by unfold Addr.add; split <;> simp_all
  rw [e] at h
  exact h
/-- any right expression is written as its text. -/
theorem pol_write {w0 : World} {cs : List Value} {x : Ex} (h : RepA w0 cs x) : ∀ (deep : Nat) (b : Nat) (ad : Addr), Ex.right x deep = true → x.short → Five w0 ad cs → Least w0 → Writes w0 b x ad := by
  induction h with
  | mk op s n L p q c f hc hm hr hx ih =>
    intro deep b ad hright hsh h5 hLe
    rw [Ex.short] at hsh
    have hd : ¬ 200 < deep := by
      intro hd
      rw [Ex.right, if_pos hd] at hright
      cases hright
    rw [Ex.right, if_neg hd, Bool.and_eq_true] at hright
    have hch : ∀ i y, L[i]? = some y → ∃ a, q = some a ∧ Writes w0 b y (a.add (i * 5)) := fun i y hi => by
      obtain ⟨a, hq, hf⟩ := hr i y hi
      exact ⟨a, hq, ih i y hi (deep + 1) b (a.add (i * 5)) (Ex.rights_at hright.2 hi) (Ex.shorts_at hsh.2 hi) hf hLe⟩
    have body : ∀ (W : World) (D : List Nat) (asked : Int), ¬ Pol.level op < asked → Below w0.heap.size w0 W → Bld w0.heap.size b D W → D.length + (Ex.body op s n L).length < 1000000000 →
        Calls Tryd.prog 76 #[.pointer (some ⟨b, 0, none⟩), .pointer (some ad), .int .i64 asked] W fun e w' => e = .returned (.tuple #[]) ∧ Bld w0.heap.size b (D ++ Ex.body op s n L) w' ∧ Below w0.heap.size W w' ∧ BFr b W w' := by
      intro W D asked hl hW hB hlen
      rcases Ex.head_cases hright.1 with ⟨e, k, hn⟩ | ⟨e, k, hn⟩ | ⟨e, k⟩ | ⟨e, k⟩ | ⟨e, k⟩ | ⟨e, k⟩ | ⟨e, k⟩ | ⟨e, k⟩
      · have hL := List.eq_nil_of_length_eq_zero k
        rcases hn with hn | hn
        · exact write_1_0 w0 W b ad op s n p q L c D asked h5 hW hB hl e hL hn hlen
        · exact write_1_1 w0 W b ad op s n p q L c D asked h5 hW hB hl e hL hn hlen
      · exact write_2 w0 W b ad op s n p q L c D asked h5 hW hB hl e (List.eq_nil_of_length_eq_zero k) ⟨by omega, by omega⟩ hlen
      · exact write_3 w0 W b ad op s n p q L c D asked h5 hW hB hl e (List.eq_nil_of_length_eq_zero k) hsh.1 hLe hlen
      · exact write_5 w0 W b ad op s n p q L c D asked h5 hW hB hl e (List.eq_nil_of_length_eq_zero k) hsh.1 hLe hlen
      · exact write_4 w0 W b ad op s n p q L c D asked h5 hW hB hl e (List.eq_nil_of_length_eq_zero k) hlen
      · obtain ⟨x, hL⟩ := one_of k
        obtain ⟨a, hq, h0⟩ := hch 0 x (by rw [hL]; rfl)
        exact write_6 w0 W b ad _ op s n p q x L c D asked h5 hW hB hl e hL hq (add0 h0) hlen
      · obtain ⟨x, y, hL⟩ := two_of k
        obtain ⟨a, hq, h0⟩ := hch 0 x (by rw [hL]; rfl)
        obtain ⟨a', hq', h1⟩ := hch 1 y (by rw [hL]; rfl)
        have ha : a' = a := by rw [hq] at hq'; exact (Option.some.inj hq').symm
        subst ha
        by_cases e7 : op = 7
        · exact write_7 w0 W b ad _ op s n p q x y L c D asked h5 hW hB hl e7 hL hq (add0 h0) h1 hlen
        by_cases e8 : op = 8
        · exact write_8 w0 W b ad _ op s n p q x y L c D asked h5 hW hB hl e8 hL hq (add0 h0) h1 hlen
        by_cases e9 : op = 9
        · exact write_9 w0 W b ad _ op s n p q x y L c D asked h5 hW hB hl e9 hL hq (add0 h0) h1 hlen
        by_cases e10 : op = 10
        · exact write_10 w0 W b ad _ op s n p q x y L c D asked h5 hW hB hl e10 hL hq (add0 h0) h1 hlen
        by_cases e11 : op = 11
        · exact write_11 w0 W b ad _ op s n p q x y L c D asked h5 hW hB hl e11 hL hq (add0 h0) h1 hlen
        by_cases e12 : op = 12
        · exact write_12 w0 W b ad _ op s n p q x y L c D asked h5 hW hB hl e12 hL hq (add0 h0) h1 hlen
        exact write_14 w0 W b ad _ op s n p q x y L c D asked h5 hW hB hl (by omega) hL hq (add0 h0) h1 hlen
      · obtain ⟨x, r, hL⟩ : ∃ x r, L = x :: r := by
          cases L with
          | nil => simp at k
          | cons x r => exact ⟨x, r, rfl⟩
        obtain ⟨a, hq, h0⟩ := hch 0 x (by rw [hL]; rfl)
        refine write_13 w0 W b ad a op s n p q x r L c D asked h5 hW hB hl e hL (by rw [hL] at k; simp at k; omega) hc hm hq (add0 h0) (fun i y hi => ?_) hlen
        obtain ⟨a', hq', h1⟩ := hch (i + 1) y (by rw [hL]; simpa using hi)
        have ha : a' = a := by rw [hq] at hq'; exact (Option.some.inj hq').symm
        rw [← ha]
        exact h1
    intro W D asked hW hB hlen
    rw [Ex.text] at hlen ⊢
    by_cases hl : Pol.level op < asked
    · rw [if_pos hl] at hlen ⊢
      refine write_paren w0 W b ad op s n p q L c D asked h5 hW hB hl (fun W' D' hW' hB' hlen' => body W' D' 1 (by have := Pol.level_pos op; omega) hW' hB' hlen') ?_
      simp only [List.length_cons, List.length_append, List.length_nil] at hlen
      omega
    · rw [if_neg hl] at hlen ⊢
      exact body W D asked hl hW hB hlen
end Go.Proofs.YtgklmpooonnmiaaDoor

namespace Go.Proofs.YtgklmpooonnmiaaDoor
open Go.RowKit
/-- is a rule right? -/
def Ru.right (u : Ru) : Bool := decide (u.scopes.length ≤ 16) && decide (u.when_.length ≤ 1) && !unq u.scopes && Ex.rights u.when_ 1
def Ru.rights (L : List Ru) : Bool := decide (L.length ≤ 16) && L.all Ru.right
def Ru.short (u : Ru) : Prop := (∀ s ∈ u.scopes, s.size ≤ 100000000) ∧ Ex.shorts u.when_
theorem Ru.all_drop {L : List Ru} {k : Nat} {u : Ru} (h : L[k]? = some u) : (L.drop k).all Ru.right = (u.right && (L.drop (k + 1)).all Ru.right) := by
  obtain ⟨h1, rfl⟩ := List.getElem?_eq_some_iff.1 h
  rw [List.drop_eq_getElem_cons h1, List.all_cons]
set_option maxHeartbeats 4000000 in
set_option maxRecDepth 100000 in
theorem pol_Right (w : World) (q : Option Addr) (c : Nat) (f : Nat → List Value) (L : List Ru) (h : RsA w q c f L) (hn : ∀ u ∈ L, u.short) (hLe : Least w) :
    Calls Tryd.prog 74 #[.slice q L.length c] w fun e w' => e = .returned (.bool (Ru.rights L)) ∧ Fr [] w w' := by
  have HL := Lib.hid h
  have HN := Lib.hid hn
  have HLE := Lib.hid hLe
  have hb : L.length ≤ 9223372036854775807 := by have h1 := h.hc; have h2 := h.hm; unfold maxLen at h2; omega
  clear h hn hLe
  by_cases h16 : 16 < L.length
  · have h16' : (L.length : Int) > 16 := by omega
    have HG : Hid (Ru.rights L = false) := by show _ = _; unfold Ru.rights; rw [decide_eq_false (by omega)]; rfl
    clear h16
    go_enter Tryd.func74, Tryd.ntmps74
    go_wp2_with fail
    go_ret
    rw [HG.out]
    exact ⟨rfl, Fr.refl _ _⟩
  have h16' : ¬ (L.length : Int) > 16 := by omega
  have HG : Hid (Ru.rights L = L.all Ru.right) := by show _ = _; unfold Ru.rights; rw [decide_eq_true (by omega)]; rfl
  clear h16
  go_enter Tryd.func74, Tryd.ntmps74
  go_wp2_with fail
  go_loopg [4, 11] L.length (fun m s4 s11 W => ∃ (k : Nat), k ≤ L.length ∧ m = L.length - k ∧ s11 = .int .i64 k ∧ Hid (Fr [] w W) ∧ Hid (Ru.rights L = (L.drop k).all Ru.right))
  case atStart => exact ⟨0, by omega, by omega, rfl, Fr.refl _ _, HG.out⟩
  case round =>
    clear HG
    obtain ⟨k, hk, hm, rfl, HF, HE⟩ := hrel
    have HM := Lib.hid hm
    clear hm
    by_cases hlt : k < L.length
    · have hlt' : (k : Int) < (L.length : Int) := by omega
      have hk0 : (0 : Int) ≤ (k : Int) := by omega
      obtain ⟨u, hx⟩ : ∃ x, L[k]? = some x := ⟨_, List.getElem?_eq_getElem hlt⟩
      obtain ⟨ad, rfl, h5⟩ := (HL.out.fr HF.out).hr k u hx
      obtain ⟨q1, c1, q2, c2, g, hA⟩ := (HL.out.fr HF.out).hx k u hx
      obtain ⟨v0, v1, v2, v3, hf0, a0, a1, a2, a3⟩ := h5
      have hf2 := hA.e
      rw [hf0] at hf2
      simp only [List.cons.injEq, and_true] at hf2
      obtain ⟨rfl, rfl, rfl, rfl⟩ := hf2
      have HS := Lib.hid hA.s
      have HX := Lib.hid hA.l
      have HSH := Lib.hid (HN.out u (List.mem_of_getElem? hx))
      have HD := Lib.hid (Ru.all_drop hx)
      obtain ⟨ud, us, uw, up⟩ := u
      have hs1 : us.length ≤ 9223372036854775807 := by have h1 := HS.out.hc; have h2 := HS.out.hm; unfold maxLen at h2; simp only [] at h1; omega
      have hs2 : uw.length ≤ 9223372036854775807 := by have h1 := HX.out.hc; have h2 := HX.out.hm; unfold maxLen at h2; simp only [] at h1; omega
      have hbl := World.block_lt_of_cell? wr _ a0
      clear hf0 hx hA
      dsimp only at a0 a1 a2 a3 HS HX HD HSH
      by_cases hs4 : 16 < us.length
      · have hs4' : (us.length : Int) > 16 := by omega
        have HEE : Hid (Ru.rights L = false) := by show _ = _; rw [HE.out, HD.out]; unfold Ru.right; rw [decide_eq_false (by show ¬ us.length ≤ 16; omega)]; rfl
        go_wp2_with fail
        go_ret
        rw [HEE.out]
        exact ⟨rfl, HF.out.alloc _⟩
      · have hs4' : ¬ (us.length : Int) > 16 := by omega
        by_cases hs5 : 1 < uw.length
        · have hs5' : (uw.length : Int) > 1 := by omega
          have HEE : Hid (Ru.rights L = false) := by show _ = _; rw [HE.out, HD.out]; unfold Ru.right; rw [decide_eq_false (p := uw.length ≤ 1) (by omega)]; simp
          go_wp2_with fail
          go_ret
          rw [HEE.out]
          exact ⟨rfl, HF.out.alloc _⟩
        · have hs5' : ¬ (uw.length : Int) > 1 := by omega
          have HU : Hid (Ru.rights L = ((!unq us && Ex.rights uw 1) && (L.drop (k + 1)).all Ru.right)) := by
            show _ = _; rw [HE.out, HD.out]; unfold Ru.right; rw [decide_eq_true (p := us.length ≤ 16) (by omega), decide_eq_true (p := uw.length ≤ 1) (by omega)]; simp
          go_upto_region 6 with fail
          refine wp_fresh (fun V => V.heap[wr.heap.size]? = some (.cells #[.bool ud, .slice q1 us.length c1, .slice q2 uw.length c2, .int .i64 up] 78 (0, 0)) ∧ Fr [] wr V) ⟨heap_alloc_last _ _, (Fr.refl _ _).alloc _⟩ ?_
          rintro V ⟨hbx, hFV⟩
          have HBX := Lib.hid hbx
          have HFV := Lib.hid hFV
          have zf : ∀ i, V.frozen? ⟨(wr.heap.size), i, none⟩ = false := fun i => Lib.frozen_of_heap hbx i
          have z1 : V.cell? ⟨(wr.heap.size), 1, none⟩ = some (.slice q1 us.length c1) := by rw [Lib.cell_of_heap hbx]; rfl
          have z2 : V.cell? ⟨(wr.heap.size), 2, none⟩ = some (.slice q2 uw.length c2) := by rw [Lib.cell_of_heap hbx]; rfl
          clear hbx hFV a0 a1 a2 a3 hbl
          have HC := Lib.hid (contains_f V q1 c1 us (HS.out.fr HFV.out) HSH.out.1 (HLE.out.fr (HF.out.trans0 HFV.out) (by simp)))
          obtain ⟨y, hy⟩ : ∃ y, unq us = y := ⟨_, rfl⟩
          rw [hy] at HC HU
          clear hy HE HD
          go_wp2_with fail
          refine HC.out.mono ?_
          rintro e V2 ⟨rfl, hF2⟩
          have HF2 := Lib.hid (HF.out.trans0 (HFV.out.trans0 hF2))
          have HX2 := Lib.hid (HX.out.fr (HFV.out.trans0 hF2))
          have hbx := hF2.row HBX.out (by simp)
          have HBX2 := Lib.hid hbx
          have yf : ∀ i, V2.frozen? ⟨(wr.heap.size), i, none⟩ = false := fun i => Lib.frozen_of_heap hbx i
          have y2 : V2.cell? ⟨(wr.heap.size), 2, none⟩ = some (.slice q2 uw.length c2) := by rw [Lib.cell_of_heap hbx]; rfl
          clear hF2 HC z1 z2 zf HBX hbx
          cases y with
          | true =>
            have HEE : Hid (Ru.rights L = false) := by show _ = _; rw [HU.out]; rfl
            go_wp2_with fail
            go_ret
            rw [HEE.out]
            exact ⟨rfl, HF2.out⟩
          | false =>
            have HU2 : Hid (Ru.rights L = (Ex.rights uw 1 && (L.drop (k + 1)).all Ru.right)) := by show _ = _; rw [HU.out]; rfl
            clear HU
            go_wp2_with fail
            obtain ⟨wo, rfl⟩ : ∃ wo : World, wo = wr := ⟨_, rfl⟩
            go_loopg [5, 33] uw.length (fun m s5 s33 W => ∃ (j : Nat), j ≤ uw.length ∧ m = uw.length - j ∧ s33 = .int .i64 j ∧ Hid (Fr [] V2 W) ∧ Hid (Ex.rights uw 1 = Ex.rights (uw.drop j) 1))
            case atStart => exact ⟨0, by omega, by omega, rfl, Fr.refl _ _, rfl⟩
            case round =>
              obtain ⟨j, hj, hm, rfl, HFJ, HEJ⟩ := hrel
              have HMJ := Lib.hid hm
              clear hm
              have hbx := HFJ.out.row HBX2.out (by simp)
              have xf : ∀ i, wr.frozen? ⟨(wo.heap.size), i, none⟩ = false := fun i => Lib.frozen_of_heap hbx i
              have x2 : wr.cell? ⟨(wo.heap.size), 2, none⟩ = some (.slice q2 uw.length c2) := by rw [Lib.cell_of_heap hbx]; rfl
              clear hbx y2 yf
              by_cases hjl : j < uw.length
              · have hjl' : (j : Int) < (uw.length : Int) := by omega
                have hj0 : (0 : Int) ≤ (j : Int) := by omega
                obtain ⟨x, hx⟩ : ∃ s, uw[j]? = some s := ⟨_, List.getElem?_eq_getElem hjl⟩
                obtain ⟨ae, rfl, h5⟩ := (HX2.out.fr HFJ.out).hr j x hx
                have HSD := Lib.hid (Ex.rights_drop (deep := 1) hx)
                have HCL := Lib.hid (pol_right (HX2.out.hx j x hx) wr _ 1 HFJ.out h5 (Ex.shorts_at HSH.out.2 hx) (HLE.out.fr (HF2.out.trans0 HFJ.out) (by simp)))
                obtain ⟨z, hz⟩ : ∃ z, Ex.right x 1 = z := ⟨_, rfl⟩
                rw [hz] at HCL HSD
                clear hx hz h5
                go_wp2_with fail
                refine HCL.out.mono ?_
                rintro e w2 ⟨rfl, hF2⟩
                have HF3 := Lib.hid (HFJ.out.trans0 hF2)
                clear hF2 HCL
                cases z
                · have HEF : Hid (Ru.rights L = false) := by show _ = _; rw [HU2.out, HEJ.out, HSD.out]; rfl
                  go_wp2_with fail
                  go_ret
                  rw [HEF.out]
                  exact ⟨rfl, HF2.out.trans0 HF3.out⟩
                · have HEF : Hid (Ex.rights uw 1 = Ex.rights (uw.drop (j + 1)) 1) := by show _ = _; rw [HEJ.out, HSD.out, Bool.true_and]
                  go_wp2_with fail
                  go_roundg (uw.length - (j + 1))
                  case measure => have := HMJ.out; omega
                  case rel => exact ⟨j + 1, by omega, rfl, by go_num, HF3.out, HEF.out⟩
              · have hjl' : ¬ (j : Int) < (uw.length : Int) := by omega
                have HEF : Hid (Ru.rights L = (L.drop (k + 1)).all Ru.right) := by show _ = _; rw [HU2.out, HEJ.out, List.drop_eq_nil_of_le (by omega), Ex.rights, Bool.true_and]
                go_wp2_with fail
                go_roundg (L.length - (k + 1))
                case measure => have := HM.out; omega
                case rel => exact ⟨k + 1, by omega, rfl, by go_num, HF2.out.trans0 HFJ.out, HEF.out⟩
    · have hlt' : ¬ (k : Int) < (L.length : Int) := by omega
      have HEE : Hid (Ru.rights L = true) := by show _ = _; rw [HE.out, List.drop_eq_nil_of_le (by omega)]; rfl
      go_wp2_with fail
      go_ret
      rw [HEE.out]
      exact ⟨rfl, HF.out⟩
end Go.Proofs.YtgklmpooonnmiaaDoor

namespace Go.Proofs.YtgklmpooonnmiaaDoor
open Go.RowKit
/-- a text that grows at its end. -/
theorem grows_le {α : Type} (F : List α → List Nat) (hF : ∀ l x, ∃ X, F (l ++ [x]) = F l ++ X) (b : List α) : ∀ a, (F a).length ≤ (F (a ++ b)).length := by
  induction b with
  | nil => intro a; rw [List.append_nil]; exact Nat.le_refl _
  | cons x b ih =>
    intro a
    have h1 := ih (a ++ [x])
    obtain ⟨X, hX⟩ := hF a x
    rw [hX, List.length_append, List.append_assoc] at h1
    have : a ++ ([x] ++ b) = a ++ x :: b := rfl
    rw [this] at h1
    omega
theorem grows_take {α : Type} (F : List α → List Nat) (hF : ∀ l x, ∃ X, F (l ++ [x]) = F l ++ X) (l : List α) (k : Nat) : (F (l.take k)).length ≤ (F l).length := by
  have := grows_le F hF (l.drop k) (l.take k)
  rwa [List.take_append_drop] at this
def Ru.hd (u : Ru) : ByteArray := if u.deny = true then ⟨#[100, 101, 110, 121]⟩ else ⟨#[112, 101, 114, 109, 105, 116]⟩
def scSign (j : Nat) : ByteArray := if j = 0 then ⟨#[32, 115, 99, 111, 112, 101, 32]⟩ else ⟨#[44, 32]⟩
theorem scSign_size (j : Nat) : (scSign j).size ≤ 7 := by unfold scSign; split <;> decide
def Ru.scsMore : List ByteArray → List Nat
  | [] => []
  | s :: r => nats (⟨#[44, 32]⟩ ++ qt s) ++ Ru.scsMore r
/-- the scopes' text. -/
def Ru.scs : List ByteArray → List Nat
  | [] => []
  | s :: r => nats (⟨#[32, 115, 99, 111, 112, 101, 32]⟩ ++ qt s) ++ Ru.scsMore r
theorem Ru.scsMore_snoc : ∀ (r : List ByteArray) (s : ByteArray), Ru.scsMore (r ++ [s]) = Ru.scsMore r ++ nats (⟨#[44, 32]⟩ ++ qt s)
  | [], s => by simp [Ru.scsMore]
  | y :: r, s => by rw [List.cons_append, Ru.scsMore, Ru.scsMore, Ru.scsMore_snoc r s, List.append_assoc]
theorem Ru.scs_snoc (r : List ByteArray) (s : ByteArray) : Ru.scs (r ++ [s]) = Ru.scs r ++ nats (scSign r.length ++ qt s) := by
  cases r with
  | nil => simp [Ru.scs, Ru.scsMore, scSign]
  | cons y r => rw [List.cons_append, Ru.scs, Ru.scs, Ru.scsMore_snoc, List.append_assoc]; rfl
theorem Ru.scs_take {A : List ByteArray} {k : Nat} {s : ByteArray} (h : A[k]? = some s) : Ru.scs (A.take (k + 1)) = Ru.scs (A.take k) ++ nats (scSign k ++ qt s) := by
  obtain ⟨h1, rfl⟩ := List.getElem?_eq_some_iff.1 h
  rw [List.take_succ_eq_append_getElem h1, Ru.scs_snoc, List.length_take, Nat.min_eq_left (by omega)]
/-- the text of its When. -/
def Ru.whs : List Ex → List Nat
  | [] => []
  | x :: r => nats ⟨#[32, 119, 104, 101, 110, 32]⟩ ++ (x.text 1 ++ Ru.whs r)
theorem Ru.whs_snoc : ∀ (r : List Ex) (x : Ex), Ru.whs (r ++ [x]) = Ru.whs r ++ (nats ⟨#[32, 119, 104, 101, 110, 32]⟩ ++ x.text 1)
  | [], x => by simp [Ru.whs]
  | y :: r, x => by rw [List.cons_append, Ru.whs, Ru.whs, Ru.whs_snoc r x]; simp only [List.append_assoc]
theorem Ru.whs_take {L : List Ex} {k : Nat} {x : Ex} (h : L[k]? = some x) : Ru.whs (L.take (k + 1)) = Ru.whs (L.take k) ++ (nats ⟨#[32, 119, 104, 101, 110, 32]⟩ ++ x.text 1) := by
  obtain ⟨h1, rfl⟩ := List.getElem?_eq_some_iff.1 h
  rw [List.take_succ_eq_append_getElem h1, Ru.whs_snoc]
/-- the text of a rule. -/
def Ru.text (u : Ru) : List Nat := nats u.hd ++ (Ru.scs u.scopes ++ (Ru.whs u.when_ ++ [59]))
def Pol.textMore : List Ru → List Nat
  | [] => []
  | u :: r => 10 :: (u.text ++ Pol.textMore r)
/-- the text of a policy. -/
def Pol.text : List Ru → List Nat
  | [] => []
  | u :: r => u.text ++ Pol.textMore r
def lfOf (k : Nat) : List Nat := if k = 0 then [] else [10]
theorem Pol.textMore_snoc : ∀ (r : List Ru) (u : Ru), Pol.textMore (r ++ [u]) = Pol.textMore r ++ (10 :: u.text)
  | [], u => by simp [Pol.textMore]
  | y :: r, u => by rw [List.cons_append, Pol.textMore, Pol.textMore, Pol.textMore_snoc r u]; simp
theorem Pol.text_snoc (r : List Ru) (u : Ru) : Pol.text (r ++ [u]) = Pol.text r ++ (lfOf r.length ++ u.text) := by
  cases r with
  | nil => simp [Pol.text, Pol.textMore, lfOf]
  | cons y r => rw [List.cons_append, Pol.text, Pol.text, Pol.textMore_snoc, List.append_assoc]; rfl
theorem Pol.text_take {L : List Ru} {k : Nat} {u : Ru} (h : L[k]? = some u) : Pol.text (L.take (k + 1)) = Pol.text (L.take k) ++ (lfOf k ++ u.text) := by
  obtain ⟨h1, rfl⟩ := List.getElem?_eq_some_iff.1 h
  rw [List.take_succ_eq_append_getElem h1, Pol.text_snoc, List.length_take, Nat.min_eq_left (by omega)]
mutual
theorem Ex.text_lt : ∀ (x : Ex) (a : Int), ∀ y ∈ Ex.text x a, y < 256
  | .mk op s n L p, a, y, hy => by
    rw [Ex.text] at hy
    split at hy
    · simp only [List.mem_cons, List.mem_append, List.not_mem_nil, or_false] at hy
      rcases hy with rfl | hy | rfl
      · omega
      · exact Ex.body_lt op s n L y hy
      · omega
    · exact Ex.body_lt op s n L y hy
theorem Ex.body_lt (op : Int) (s : ByteArray) (n : Int) : ∀ (L : List Ex), ∀ y ∈ Ex.body op s n L, y < 256
  | [], y, hy => by rw [Ex.body] at hy; exact nats_lt _ y hy
  | x :: l, y, hy => by
    rw [Ex.body] at hy
    refine Ex.rest_lt op _ ?_ l y hy
    intro z hz
    split at hz
    · simp only [List.mem_append, List.mem_cons, List.not_mem_nil, or_false] at hz
      rcases hz with hz | hz
      · omega
      · exact Ex.text_lt x 3 z hz
    · split at hz
      · exact Ex.text_lt x 5 z hz
      · exact Ex.text_lt x _ z hz
theorem Ex.rest_lt (op : Int) (A : List Nat) (hA : ∀ y ∈ A, y < 256) : ∀ (L : List Ex), ∀ y ∈ Ex.rest op A L, y < 256
  | [], y, hy => by rw [Ex.rest] at hy; exact hA y hy
  | x :: r, y, hy => by
    rw [Ex.rest] at hy
    split at hy
    · simp only [List.mem_append, List.mem_cons, List.not_mem_nil, or_false] at hy
      rcases hy with hy | hy | hy | hy | hy
      · exact hA y hy
      · omega
      · exact Ex.text_lt x 5 y hy
      · exact Ex.more_lt r y hy
      · omega
    · simp only [List.mem_append] at hy
      rcases hy with hy | hy | hy
      · exact hA y hy
      · exact nats_lt _ y hy
      · exact Ex.text_lt x _ y hy
theorem Ex.more_lt : ∀ (L : List Ex), ∀ y ∈ Ex.more L, y < 256
  | [], y, hy => by rw [Ex.more] at hy; simp at hy
  | x :: r, y, hy => by
    rw [Ex.more] at hy
    simp only [List.mem_append, List.mem_cons, List.not_mem_nil, or_false] at hy
    rcases hy with hy | hy | hy
    · omega
    · exact Ex.text_lt x 5 y hy
    · exact Ex.more_lt r y hy
end
theorem Ru.scs_lt : ∀ (A : List ByteArray), ∀ y ∈ Ru.scs A, y < 256 := by
  have more : ∀ (A : List ByteArray), ∀ y ∈ Ru.scsMore A, y < 256 := by
    intro A
    induction A with
    | nil => intro y hy; rw [Ru.scsMore] at hy; simp at hy
    | cons s r ih =>
      intro y hy
      rw [Ru.scsMore, List.mem_append] at hy
      exact hy.elim (nats_lt _ y) (ih y)
  intro A
  cases A with
  | nil => intro y hy; rw [Ru.scs] at hy; simp at hy
  | cons s r =>
    intro y hy
    rw [Ru.scs, List.mem_append] at hy
    exact hy.elim (nats_lt _ y) (more r y)
theorem Ru.whs_lt : ∀ (A : List Ex), ∀ y ∈ Ru.whs A, y < 256 := by
  intro A
  induction A with
  | nil => intro y hy; rw [Ru.whs] at hy; simp at hy
  | cons x r ih =>
    intro y hy
    rw [Ru.whs, List.mem_append, List.mem_append] at hy
    rcases hy with hy | hy | hy
    · exact nats_lt _ y hy
    · exact Ex.text_lt x 1 y hy
    · exact ih y hy
theorem Ru.text_lt (u : Ru) : ∀ y ∈ u.text, y < 256 := by
  intro y hy
  unfold Ru.text at hy
  rw [List.mem_append, List.mem_append, List.mem_append] at hy
  rcases hy with hy | hy | hy | hy
  · exact nats_lt _ y hy
  · exact Ru.scs_lt _ y hy
  · exact Ru.whs_lt _ y hy
  · simp only [List.mem_cons, List.not_mem_nil, or_false] at hy; omega
theorem Pol.text_lt (L : List Ru) : ∀ y ∈ Pol.text L, y < 256 := by
  have more : ∀ (A : List Ru), ∀ y ∈ Pol.textMore A, y < 256 := by
    intro A
    induction A with
    | nil => intro y hy; rw [Pol.textMore] at hy; simp at hy
    | cons u r ih =>
      intro y hy
      rw [Pol.textMore, List.mem_cons, List.mem_append] at hy
      rcases hy with hy | hy | hy
      · omega
      · exact Ru.text_lt u y hy
      · exact ih y hy
  cases L with
  | nil => intro y hy; rw [Pol.text] at hy; simp at hy
  | cons u r =>
    intro y hy
    rw [Pol.text, List.mem_append] at hy
    exact hy.elim (Ru.text_lt u y) (more r y)
end Go.Proofs.YtgklmpooonnmiaaDoor

namespace Go.Proofs.YtgklmpooonnmiaaDoor
open Go.RowKit
/-- what stands while a rule is printed. -/
structure PrS (w1 : World) (D : List Nat) (bx : Nat) (cs : Array Value) (V : World) : Prop where
  nb : bx ≠ w1.heap.size
  bl : Bld w1.heap.size w1.heap.size D V
  bw : Below w1.heap.size w1 V
  bx : V.heap[bx]? = some (.cells cs 78 (0, 0))
theorem PrS.step {w1 : World} {D D' : List Nat} {bx : Nat} {cs : Array Value} {V V' : World} (h : PrS w1 D bx cs V) (hb : Bld w1.heap.size w1.heap.size D' V') (hw : Below w1.heap.size V V') (hf : BFr w1.heap.size V V') : PrS w1 D' bx cs V' :=
  ⟨h.nb, hb, h.bw.trans hw, hf.row h.bx h.nb (by decide)⟩
theorem PrS.fr {w1 : World} {D : List Nat} {bx : Nat} {cs : Array Value} {V V' : World} (h : PrS w1 D bx cs V) (hF : Fr [] V V') : PrS w1 D bx cs V' :=
  h.step (h.bl.fr hF) (hF.below.mono h.bw.size) (BFr.of_fr hF)
theorem bld_at {B b : Nat} {D : List Nat} {w : World} (h : Bld B b D w) : b < w.heap.size := by
  rcases h with ⟨_, v, h, _⟩ | ⟨_, v, h, _⟩
  · exact row_lt h
  · exact row_lt h
theorem PrS.start {w1 : World} {D : List Nat} {cs : Array Value} {V : World} (hb : Bld w1.heap.size w1.heap.size D V) (hw : Below w1.heap.size w1 V) : PrS w1 D V.heap.size cs (V.alloc (.cells cs 78)) := by
  have hF : Fr [] V (V.alloc (.cells cs 78)) := (Fr.refl _ _).alloc _
  have := bld_at hb
  exact ⟨by omega, hb.fr hF, hw.trans (hF.below.mono hw.size), heap_alloc_last _ _⟩
theorem lex_quote2 (w : World) (s : ByteArray) (hs : s.size ≤ 100000000) (hL : Least w) :
    Calls Tryd.prog 12 #[.string s] w fun e w' => e = .returned (.tuple #[.string (qt s), .bool (Lex.quote s).isSome]) ∧ Fr [] w w' := lex_quote w s hs hL
set_option maxHeartbeats 8000000 in
set_option maxRecDepth 100000 in
theorem pol_Print_yes (w : World) (q : Option Addr) (c : Nat) (f : Nat → List Value) (L : List Ru) (h : RsA w q c f L) (hn : ∀ u ∈ L, u.short) (hLe : Least w) (hr : Ru.rights L = true) (hlen : (Pol.text L).length < 1000000000) :
    Calls Tryd.prog 43 #[.slice q L.length c] w fun e w' => e = .returned (.tuple #[.string (ba (Pol.text L)), .nilIface]) ∧ Fr [] w w' := by
  have HC := Lib.hid (pol_Right w q c f L h hn hLe)
  rw [hr] at HC
  have hra : ∀ u ∈ L, Ru.right u = true := by
    unfold Ru.rights at hr
    rw [Bool.and_eq_true] at hr
    exact List.all_eq_true.1 hr.2
  have HRT := Lib.hid hra
  have HN := Lib.hid hn
  have HL0 := Lib.hid h
  have HLE0 := Lib.hid hLe
  have HLEN := Lib.hid hlen
  have hb : L.length ≤ 9223372036854775807 := by have h1 := h.hc; have h2 := h.hm; unfold maxLen at h2; omega
  clear h hn hLe hr hra hlen
  go_enter Tryd.func43, Tryd.ntmps43
  go_wp2_with fail
  refine HC.out.mono ?_
  rintro e w1 ⟨rfl, hF⟩
  have HL := Lib.hid (HL0.out.fr hF)
  have HLE := Lib.hid (HLE0.out.fr hF (by simp))
  have HF0 := Lib.hid hF
  clear HL0 HLE0 hF HC
  go_wp2_with fail
  go_loopg [19] L.length (fun m s19 W => ∃ (k : Nat), k ≤ L.length ∧ m = L.length - k ∧ s19 = .int .i64 k ∧ Hid (Below w1.heap.size w1 W) ∧ Hid (Bld w1.heap.size w1.heap.size (Pol.text (L.take k)) W))
  case atStart => exact ⟨0, by omega, by omega, rfl, (Below.refl _ _).alloc (Nat.le_refl _) _, fresh_bld w1⟩
  case round =>
    obtain ⟨k, hk, hm, rfl, HW, HB⟩ := hrel
    have HM := Lib.hid hm
    clear hm
    by_cases hlt : k < L.length
    · have hlt' : (k : Int) < (L.length : Int) := by omega
      have hk0 : (0 : Int) ≤ (k : Int) := by omega
      have HTL := Lib.hid (grows_take Pol.text (fun l x => ⟨_, Pol.text_snoc l x⟩) L (k + 1))
      obtain ⟨u, hx⟩ : ∃ x, L[k]? = some x := ⟨_, List.getElem?_eq_getElem hlt⟩
      obtain ⟨wo, rfl⟩ : ∃ wo : World, wo = wr := ⟨_, rfl⟩
      obtain ⟨ad, rfl, h5⟩ := (HL.out.fr (Fr.of_below HW.out)).hr k u hx
      obtain ⟨q1, c1, q2, c2, g, hA⟩ := HL.out.hx k u hx
      obtain ⟨v0, v1, v2, v3, hf0, a0, a1, a2, a3⟩ := h5
      have hf2 := hA.e
      rw [hf0] at hf2
      simp only [List.cons.injEq, and_true] at hf2
      obtain ⟨rfl, rfl, rfl, rfl⟩ := hf2
      have HS := Lib.hid hA.s
      have HX := Lib.hid hA.l
      have HSH := Lib.hid (HN.out u (List.mem_of_getElem? hx))
      have HRI := Lib.hid (HRT.out u (List.mem_of_getElem? hx))
      have HD := Lib.hid (Pol.text_take hx)
      obtain ⟨ud, us, uw, up⟩ := u
      have hs1 : us.length ≤ 9223372036854775807 := by have h1 := HS.out.hc; have h2 := HS.out.hm; unfold maxLen at h2; simp only [] at h1; omega
      have hs2 : uw.length ≤ 9223372036854775807 := by have h1 := HX.out.hc; have h2 := HX.out.hm; unfold maxLen at h2; simp only [] at h1; omega
      have hbl := World.block_lt_of_cell? wo _ a0
      clear hf0 hx hA
      dsimp only at a0 a1 a2 a3 HS HX HD HSH HRI
      have HTOT : Hid ((Pol.text (L.take k)).length + (lfOf k).length + (Ru.hd ⟨ud, us, uw, up⟩).size + (Ru.scs us).length + (Ru.whs uw).length + 1 < 1000000000) := by
        have h1 := HTL.out
        have h2 := HLEN.out
        rw [HD.out] at h1
        unfold Ru.text at h1
        simp only [List.length_append, List.length_cons, List.length_nil, nats_length] at h1
        show _ < _
        omega
      have HD2 : Hid (Pol.text (L.take (k + 1)) = Pol.text (L.take k) ++ (lfOf k ++ (nats (Ru.hd ⟨ud, us, uw, up⟩) ++ (Ru.scs us ++ (Ru.whs uw ++ [59]))))) := HD.out
      obtain ⟨hdv, hhd⟩ : ∃ X, Hid (Ru.hd ⟨ud, us, uw, up⟩ = X) := ⟨_, rfl⟩
      rw [hhd.out] at HTOT HD2
      clear HD HTL
      go_upto_region 7 with fail
      refine wp_fresh (fun V => PrS w1 (Pol.text (L.take k)) wo.heap.size #[.bool ud, .slice q1 us.length c1, .slice q2 uw.length c2, .int .i64 up] V) (PrS.start HB.out HW.out) ?_
      rintro V hV
      have H := Lib.hid hV
      clear hV a0 a1 a2 a3 hbl
      have hbx := H.out.bx
      have zf : ∀ i, V.frozen? ⟨(wo.heap.size), i, none⟩ = false := fun i => Lib.frozen_of_heap hbx i
      have z0 : V.cell? ⟨(wo.heap.size), 0, none⟩ = some (.bool ud) := by rw [Lib.cell_of_heap hbx]; rfl
      have z1 : V.cell? ⟨(wo.heap.size), 1, none⟩ = some (.slice q1 us.length c1) := by rw [Lib.cell_of_heap hbx]; rfl
      have z2 : V.cell? ⟨(wo.heap.size), 2, none⟩ = some (.slice q2 uw.length c2) := by rw [Lib.cell_of_heap hbx]; rfl
      have z3 : V.cell? ⟨(wo.heap.size), 3, none⟩ = some (.int .i64 up) := by rw [Lib.cell_of_heap hbx]; rfl
      clear hbx
      refine (Classical.em (k = 0)).elim (fun hk9 => ?k0) (fun hk9 => ?k1)
      case k0 =>
        have hk8 : ¬ (k : Int) > 0 := by omega
        have HLF : Hid (lfOf k = []) := by show _ = _; rw [lfOf, if_pos hk9]
        have HDD : Hid (Pol.text (L.take k) = Pol.text (L.take k) ++ lfOf k) := by show _ = _; rw [HLF.out, List.append_nil]
        clear hk9
        cases ud with
        | true =>
          have hh9 : (⟨#[100, 101, 110, 121]⟩ : ByteArray) = hdv := hhd.out
          subst hh9
          go_wp2_with fail
          have HSZ := Lib.hid H.out.bw.size
          obtain ⟨D0, hD0⟩ : ∃ D0, D0 = Pol.text (L.take k) ++ lfOf k := ⟨_, rfl⟩
          have HX0 := H.out
          rw [HDD.out, ← hD0] at HX0
          have H := Lib.hid HX0
          have HDL : Hid (D0.length = (Pol.text (L.take k)).length + (lfOf k).length) := by show _ = _; rw [hD0, List.length_append]
          have HD3 : Hid (Pol.text (L.take (k + 1)) = D0 ++ (nats ⟨#[100, 101, 110, 121]⟩ ++ (Ru.scs us ++ (Ru.whs uw ++ [59])))) := by show _ = _; rw [HD2.out, hD0, List.append_assoc]
          have h1 : D0.length + (⟨#[100, 101, 110, 121]⟩ : ByteArray).size < 1000000000 := by have := HTOT.out; have := HDL.out; omega
          clear HX0 hD0 HDD HD2
          have HC := bld_strF w1.heap.size w1.heap.size D0 ⟨#[100, 101, 110, 121]⟩ _ H.out.bl h1 HSZ.out
          clear h1
          refine HC.mono ?_
          rintro e V2 ⟨rfl, hbl, hbw, hbf⟩
          have H := Lib.hid (H.out.step hbl hbw hbf)
          clear HC hbl hbw hbf z0 z1 z2 z3 zf
          obtain ⟨D1, hD1⟩ : ∃ D1, D0 ++ nats ⟨#[100, 101, 110, 121]⟩ = D1 := ⟨_, rfl⟩
          have HX0 := H.out
          rw [hD1] at HX0
          have H := Lib.hid HX0
          have HDL1 : Hid (D1.length + (Ru.scs us).length + (Ru.whs uw).length + 1 < 1000000000) := by have := HTOT.out; have := HDL.out; show _ < _; rw [← hD1, List.length_append, nats_length]; omega
          have HD4 : Hid (Pol.text (L.take (k + 1)) = D1 ++ (Ru.scs us ++ (Ru.whs uw ++ [59]))) := by show _ = _; rw [HD3.out, ← hD1, List.append_assoc]
          clear HX0 hD1 HD3 HDL HTOT
          have hbx := H.out.bx
          have zf : ∀ i, V2.frozen? ⟨(wo.heap.size), i, none⟩ = false := fun i => Lib.frozen_of_heap hbx i
          have z1 : V2.cell? ⟨(wo.heap.size), 1, none⟩ = some (.slice q1 us.length c1) := by rw [Lib.cell_of_heap hbx]; rfl
          clear hbx
          go_wp2_with fail
          go_loopg [7, 34] us.length (fun m s7 s34 W => ∃ (j : Nat) (S : ByteArray), j ≤ us.length ∧ m = us.length - j ∧ s34 = .int .i64 j ∧ s7 = .string S ∧ Hid (S = scSign j) ∧ Hid (PrS w1 (D1 ++ Ru.scs (us.take j)) wo.heap.size #[.bool true, .slice q1 us.length c1, .slice q2 uw.length c2, .int .i64 up] W))
          case atStart => exact ⟨0, scSign 0, by omega, by omega, rfl, rfl, rfl, by
            show PrS _ _ _ _ _
            rw [List.take_zero, Ru.scs, List.append_nil]
            exact H.out⟩
          case round =>
            clear H z1 zf
            obtain ⟨j, S, hj, hm, rfl, rfl, HSG, H⟩ := hrel
            have HMJ := Lib.hid hm
            clear hm
            by_cases hjl : j < us.length
            · have hjl' : (j : Int) < (us.length : Int) := by omega
              have hj0 : (0 : Int) ≤ (j : Int) := by omega
              obtain ⟨s, hs⟩ : ∃ s, us[j]? = some s := ⟨_, List.getElem?_eq_getElem hjl⟩
              obtain ⟨sb, so, rfl, sc⟩ := (HS.out.fr (Fr.of_below H.out.bw)).hr j s hs
              have HT := Lib.hid (Ru.scs_take hs)
              have HTL := Lib.hid (grows_take Ru.scs (fun l x => ⟨_, Ru.scs_snoc l x⟩) us (j + 1))
              have HQ := Lib.hid (lex_quote2 wr s (HSH.out.1 s (List.mem_of_getElem? hs)) (HLE.out.fr (Fr.of_below H.out.bw) (by simp)))
              have hS7 : S.size ≤ 7 := by rw [HSG.out]; exact scSign_size j
              have hNL : D1.length + (Ru.scs (us.take j)).length + (S.size + (qt s).size) < 1000000000 := by
                have h1 := HTL.out
                have h2 := HDL1.out
                rw [HT.out, List.length_append, nats_length, ByteArray.size_append, ← HSG.out] at h1
                omega
              have hq9 : (qt s).size ≤ 1000000000 := by omega
              have HNL := Lib.hid hNL
              clear hs hNL
              go_wp2_with fail
              refine HQ.out.mono ?_
              rintro e V3 ⟨rfl, hF⟩
              have H := Lib.hid (H.out.fr hF)
              clear hF HQ sc
              go_wp2_with fail
              have HSZ := Lib.hid H.out.bw.size
              have h1 : (D1 ++ Ru.scs (us.take j)).length + (S ++ qt s).size < 1000000000 := by rw [List.length_append, ByteArray.size_append]; have := HNL.out; omega
              have HC := bld_strF w1.heap.size w1.heap.size _ (S ++ qt s) _ H.out.bl h1 HSZ.out
              clear h1
              refine HC.mono ?_
              rintro e V4 ⟨rfl, hbl, hbw, hbf⟩
              have H := Lib.hid (H.out.step hbl hbw hbf)
              clear HC hbl hbw hbf
              go_wp2_with fail
              go_roundg (us.length - (j + 1))
              case measure => have := HMJ.out; omega
              case rel => exact ⟨j + 1, ⟨#[44, 32]⟩, by omega, rfl, by go_num, rfl, by show _ = scSign (j + 1); rw [scSign, if_neg (by omega)], by
                have h := H.out
                show PrS _ _ _ _ _
                rw [HT.out, ← HSG.out]
                simp only [List.append_assoc] at h ⊢
                exact h⟩
            · have hjl' : ¬ (j : Int) < (us.length : Int) := by omega
              have hje : j = us.length := by omega
              have HX0 := H.out
              rw [hje, List.take_length] at HX0
              have H := Lib.hid HX0
              have hbx := H.out.bx
              have zf : ∀ i, wr.frozen? ⟨(wo.heap.size), i, none⟩ = false := fun i => Lib.frozen_of_heap hbx i
              have z2 : wr.cell? ⟨(wo.heap.size), 2, none⟩ = some (.slice q2 uw.length c2) := by rw [Lib.cell_of_heap hbx]; rfl
              obtain ⟨D2, hD2⟩ : ∃ D2, D1 ++ Ru.scs us = D2 := ⟨_, rfl⟩
              rw [hD2] at HX0
              have H := Lib.hid HX0
              have HDL2 : Hid (D2.length + (Ru.whs uw).length + 1 < 1000000000) := by have := HDL1.out; show _ < _; rw [← hD2, List.length_append]; omega
              have HD5 : Hid (Pol.text (L.take (k + 1)) = D2 ++ (Ru.whs uw ++ [59])) := by show _ = _; rw [HD4.out, ← hD2, List.append_assoc]
              clear hbx HX0 hje hD2 HD4 HDL1
              obtain ⟨wp, rfl⟩ : ∃ wp : World, wp = wr := ⟨_, rfl⟩
              go_wp2_with fail
              go_loopg [51] uw.length (fun m s51 W => ∃ (i : Nat), i ≤ uw.length ∧ m = uw.length - i ∧ s51 = .int .i64 i ∧ Hid (PrS w1 (D2 ++ Ru.whs (uw.take i)) wo.heap.size #[.bool true, .slice q1 us.length c1, .slice q2 uw.length c2, .int .i64 up] W))
              case atStart => exact ⟨0, by omega, by omega, rfl, by
                show PrS _ _ _ _ _
                rw [List.take_zero, Ru.whs, List.append_nil]
                exact H.out⟩
              case round =>
                clear H z2 zf
                obtain ⟨i, hi, hm, rfl, H⟩ := hrel
                have HMI := Lib.hid hm
                clear hm
                by_cases hil : i < uw.length
                · have hil' : (i : Int) < (uw.length : Int) := by omega
                  have hi0 : (0 : Int) ≤ (i : Int) := by omega
                  obtain ⟨x, hx⟩ : ∃ s, uw[i]? = some s := ⟨_, List.getElem?_eq_getElem hil⟩
                  obtain ⟨ae, rfl, h5⟩ := HX.out.hr i x hx
                  have HT := Lib.hid (Ru.whs_take hx)
                  have HTL := Lib.hid (grows_take Ru.whs (fun l x => ⟨_, Ru.whs_snoc l x⟩) uw (i + 1))
                  have hri : Ex.right x 1 = true := by
                    have h1 := HRI.out
                    unfold Ru.right at h1
                    rw [Bool.and_eq_true] at h1
                    exact Ex.rights_at h1.2 hx
                  have HPW := Lib.hid (pol_write (HX.out.hx i x hx) 1 w1.heap.size (ae.add (i * 5)) hri (Ex.shorts_at HSH.out.2 hx) h5 HLE.out)
                  have hNL : D2.length + (Ru.whs (uw.take i)).length + (6 + (x.text 1).length) < 1000000000 := by
                    have h1 := HTL.out
                    have h2 := HDL2.out
                    rw [HT.out, List.length_append, List.length_append, nats_length] at h1
                    have h3 : (⟨#[32, 119, 104, 101, 110, 32]⟩ : ByteArray).size = 6 := rfl
                    omega
                  have HNL := Lib.hid hNL
                  clear hx hNL hri h5
                  go_wp2_with fail
                  have HSZ := Lib.hid H.out.bw.size
                  have h1 : (D2 ++ Ru.whs (uw.take i)).length + (⟨#[32, 119, 104, 101, 110, 32]⟩ : ByteArray).size < 1000000000 := by rw [List.length_append]; show _ + 6 < _; have := HNL.out; omega
                  have HC := bld_strF w1.heap.size w1.heap.size _ ⟨#[32, 119, 104, 101, 110, 32]⟩ _ H.out.bl h1 HSZ.out
                  clear h1
                  refine HC.mono ?_
                  rintro e V3 ⟨rfl, hbl, hbw, hbf⟩
                  have H := Lib.hid (H.out.step hbl hbw hbf)
                  clear HC hbl hbw hbf
                  have hbx := H.out.bx
                  have zf : ∀ i, V3.frozen? ⟨(wo.heap.size), i, none⟩ = false := fun i => Lib.frozen_of_heap hbx i
                  have z2 : V3.cell? ⟨(wo.heap.size), 2, none⟩ = some (.slice (some ae) uw.length c2) := by rw [Lib.cell_of_heap hbx]; rfl
                  clear hbx
                  go_wp2_with fail
                  have h1 : (D2 ++ Ru.whs (uw.take i) ++ nats ⟨#[32, 119, 104, 101, 110, 32]⟩).length + (x.text 1).length < 1000000000 := by rw [List.length_append, List.length_append, nats_length]; show _ + 6 + _ < _; have := HNL.out; omega
                  have HC := HPW.out _ _ 1 H.out.bw H.out.bl h1
                  clear h1
                  refine HC.mono ?_
                  rintro e V4 ⟨rfl, hbl, hbw, hbf⟩
                  have H := Lib.hid (H.out.step hbl hbw hbf)
                  clear HC hbl hbw hbf z2 zf
                  go_wp2_with fail
                  go_roundg (uw.length - (i + 1))
                  case measure => have := HMI.out; omega
                  case rel => exact ⟨i + 1, by omega, rfl, by go_num, by
                    have h := H.out
                    show PrS _ _ _ _ _
                    rw [HT.out]
                    simp only [List.append_assoc] at h ⊢
                    exact h⟩
                · have hil' : ¬ (i : Int) < (uw.length : Int) := by omega
                  have hie : i = uw.length := by omega
                  have HX0 := H.out
                  rw [hie, List.take_length] at HX0
                  have H := Lib.hid HX0
                  clear HX0 hie
                  go_wp2_with fail
                  have HSZ := Lib.hid H.out.bw.size
                  have h1 : (D2 ++ Ru.whs uw).length < 1000000000 := by rw [List.length_append]; have := HDL2.out; omega
                  have HC := bld_byteF w1.heap.size w1.heap.size _ 59 _ H.out.bl h1 HSZ.out
                  clear h1
                  refine HC.mono ?_
                  rintro e V3 ⟨rfl, hbl, hbw, hbf⟩
                  have H := Lib.hid (H.out.step hbl hbw hbf)
                  clear HC hbl hbw hbf
                  go_wp2_with fail
                  go_roundg (L.length - (k + 1))
                  case measure => have := HM.out; omega
                  case rel => exact ⟨k + 1, by omega, rfl, by go_num, H.out.bw, by
                    have h := H.out.bl
                    show Bld _ _ _ _
                    rw [HD5.out]
                    simp only [List.append_assoc] at h ⊢
                    exact h⟩
        | false =>
          have hh9 : (⟨#[112, 101, 114, 109, 105, 116]⟩ : ByteArray) = hdv := hhd.out
          subst hh9
          go_wp2_with fail
          have HSZ := Lib.hid H.out.bw.size
          obtain ⟨D0, hD0⟩ : ∃ D0, D0 = Pol.text (L.take k) ++ lfOf k := ⟨_, rfl⟩
          have HX0 := H.out
          rw [HDD.out, ← hD0] at HX0
          have H := Lib.hid HX0
          have HDL : Hid (D0.length = (Pol.text (L.take k)).length + (lfOf k).length) := by show _ = _; rw [hD0, List.length_append]
          have HD3 : Hid (Pol.text (L.take (k + 1)) = D0 ++ (nats ⟨#[112, 101, 114, 109, 105, 116]⟩ ++ (Ru.scs us ++ (Ru.whs uw ++ [59])))) := by show _ = _; rw [HD2.out, hD0, List.append_assoc]
          have h1 : D0.length + (⟨#[112, 101, 114, 109, 105, 116]⟩ : ByteArray).size < 1000000000 := by have := HTOT.out; have := HDL.out; omega
          clear HX0 hD0 HDD HD2
          have HC := bld_strF w1.heap.size w1.heap.size D0 ⟨#[112, 101, 114, 109, 105, 116]⟩ _ H.out.bl h1 HSZ.out
          clear h1
          refine HC.mono ?_
          rintro e V2 ⟨rfl, hbl, hbw, hbf⟩
          have H := Lib.hid (H.out.step hbl hbw hbf)
          clear HC hbl hbw hbf z0 z1 z2 z3 zf
          obtain ⟨D1, hD1⟩ : ∃ D1, D0 ++ nats ⟨#[112, 101, 114, 109, 105, 116]⟩ = D1 := ⟨_, rfl⟩
          have HX0 := H.out
          rw [hD1] at HX0
          have H := Lib.hid HX0
          have HDL1 : Hid (D1.length + (Ru.scs us).length + (Ru.whs uw).length + 1 < 1000000000) := by have := HTOT.out; have := HDL.out; show _ < _; rw [← hD1, List.length_append, nats_length]; omega
          have HD4 : Hid (Pol.text (L.take (k + 1)) = D1 ++ (Ru.scs us ++ (Ru.whs uw ++ [59]))) := by show _ = _; rw [HD3.out, ← hD1, List.append_assoc]
          clear HX0 hD1 HD3 HDL HTOT
          have hbx := H.out.bx
          have zf : ∀ i, V2.frozen? ⟨(wo.heap.size), i, none⟩ = false := fun i => Lib.frozen_of_heap hbx i
          have z1 : V2.cell? ⟨(wo.heap.size), 1, none⟩ = some (.slice q1 us.length c1) := by rw [Lib.cell_of_heap hbx]; rfl
          clear hbx
          go_wp2_with fail
          go_loopg [7, 34] us.length (fun m s7 s34 W => ∃ (j : Nat) (S : ByteArray), j ≤ us.length ∧ m = us.length - j ∧ s34 = .int .i64 j ∧ s7 = .string S ∧ Hid (S = scSign j) ∧ Hid (PrS w1 (D1 ++ Ru.scs (us.take j)) wo.heap.size #[.bool false, .slice q1 us.length c1, .slice q2 uw.length c2, .int .i64 up] W))
          case atStart => exact ⟨0, scSign 0, by omega, by omega, rfl, rfl, rfl, by
            show PrS _ _ _ _ _
            rw [List.take_zero, Ru.scs, List.append_nil]
            exact H.out⟩
          case round =>
            clear H z1 zf
            obtain ⟨j, S, hj, hm, rfl, rfl, HSG, H⟩ := hrel
            have HMJ := Lib.hid hm
            clear hm
            by_cases hjl : j < us.length
            · have hjl' : (j : Int) < (us.length : Int) := by omega
              have hj0 : (0 : Int) ≤ (j : Int) := by omega
              obtain ⟨s, hs⟩ : ∃ s, us[j]? = some s := ⟨_, List.getElem?_eq_getElem hjl⟩
              obtain ⟨sb, so, rfl, sc⟩ := (HS.out.fr (Fr.of_below H.out.bw)).hr j s hs
              have HT := Lib.hid (Ru.scs_take hs)
              have HTL := Lib.hid (grows_take Ru.scs (fun l x => ⟨_, Ru.scs_snoc l x⟩) us (j + 1))
              have HQ := Lib.hid (lex_quote2 wr s (HSH.out.1 s (List.mem_of_getElem? hs)) (HLE.out.fr (Fr.of_below H.out.bw) (by simp)))
              have hS7 : S.size ≤ 7 := by rw [HSG.out]; exact scSign_size j
              have hNL : D1.length + (Ru.scs (us.take j)).length + (S.size + (qt s).size) < 1000000000 := by
                have h1 := HTL.out
                have h2 := HDL1.out
                rw [HT.out, List.length_append, nats_length, ByteArray.size_append, ← HSG.out] at h1
                omega
              have hq9 : (qt s).size ≤ 1000000000 := by omega
              have HNL := Lib.hid hNL
              clear hs hNL
              go_wp2_with fail
              refine HQ.out.mono ?_
              rintro e V3 ⟨rfl, hF⟩
              have H := Lib.hid (H.out.fr hF)
              clear hF HQ sc
              go_wp2_with fail
              have HSZ := Lib.hid H.out.bw.size
              have h1 : (D1 ++ Ru.scs (us.take j)).length + (S ++ qt s).size < 1000000000 := by rw [List.length_append, ByteArray.size_append]; have := HNL.out; omega
              have HC := bld_strF w1.heap.size w1.heap.size _ (S ++ qt s) _ H.out.bl h1 HSZ.out
              clear h1
              refine HC.mono ?_
              rintro e V4 ⟨rfl, hbl, hbw, hbf⟩
              have H := Lib.hid (H.out.step hbl hbw hbf)
              clear HC hbl hbw hbf
              go_wp2_with fail
              go_roundg (us.length - (j + 1))
              case measure => have := HMJ.out; omega
              case rel => exact ⟨j + 1, ⟨#[44, 32]⟩, by omega, rfl, by go_num, rfl, by show _ = scSign (j + 1); rw [scSign, if_neg (by omega)], by
                have h := H.out
                show PrS _ _ _ _ _
                rw [HT.out, ← HSG.out]
                simp only [List.append_assoc] at h ⊢
                exact h⟩
            · have hjl' : ¬ (j : Int) < (us.length : Int) := by omega
              have hje : j = us.length := by omega
              have HX0 := H.out
              rw [hje, List.take_length] at HX0
              have H := Lib.hid HX0
              have hbx := H.out.bx
              have zf : ∀ i, wr.frozen? ⟨(wo.heap.size), i, none⟩ = false := fun i => Lib.frozen_of_heap hbx i
              have z2 : wr.cell? ⟨(wo.heap.size), 2, none⟩ = some (.slice q2 uw.length c2) := by rw [Lib.cell_of_heap hbx]; rfl
              obtain ⟨D2, hD2⟩ : ∃ D2, D1 ++ Ru.scs us = D2 := ⟨_, rfl⟩
              rw [hD2] at HX0
              have H := Lib.hid HX0
              have HDL2 : Hid (D2.length + (Ru.whs uw).length + 1 < 1000000000) := by have := HDL1.out; show _ < _; rw [← hD2, List.length_append]; omega
              have HD5 : Hid (Pol.text (L.take (k + 1)) = D2 ++ (Ru.whs uw ++ [59])) := by show _ = _; rw [HD4.out, ← hD2, List.append_assoc]
              clear hbx HX0 hje hD2 HD4 HDL1
              obtain ⟨wp, rfl⟩ : ∃ wp : World, wp = wr := ⟨_, rfl⟩
              go_wp2_with fail
              go_loopg [51] uw.length (fun m s51 W => ∃ (i : Nat), i ≤ uw.length ∧ m = uw.length - i ∧ s51 = .int .i64 i ∧ Hid (PrS w1 (D2 ++ Ru.whs (uw.take i)) wo.heap.size #[.bool false, .slice q1 us.length c1, .slice q2 uw.length c2, .int .i64 up] W))
              case atStart => exact ⟨0, by omega, by omega, rfl, by
                show PrS _ _ _ _ _
                rw [List.take_zero, Ru.whs, List.append_nil]
                exact H.out⟩
              case round =>
                clear H z2 zf
                obtain ⟨i, hi, hm, rfl, H⟩ := hrel
                have HMI := Lib.hid hm
                clear hm
                by_cases hil : i < uw.length
                · have hil' : (i : Int) < (uw.length : Int) := by omega
                  have hi0 : (0 : Int) ≤ (i : Int) := by omega
                  obtain ⟨x, hx⟩ : ∃ s, uw[i]? = some s := ⟨_, List.getElem?_eq_getElem hil⟩
                  obtain ⟨ae, rfl, h5⟩ := HX.out.hr i x hx
                  have HT := Lib.hid (Ru.whs_take hx)
                  have HTL := Lib.hid (grows_take Ru.whs (fun l x => ⟨_, Ru.whs_snoc l x⟩) uw (i + 1))
                  have hri : Ex.right x 1 = true := by
                    have h1 := HRI.out
                    unfold Ru.right at h1
                    rw [Bool.and_eq_true] at h1
                    exact Ex.rights_at h1.2 hx
                  have HPW := Lib.hid (pol_write (HX.out.hx i x hx) 1 w1.heap.size (ae.add (i * 5)) hri (Ex.shorts_at HSH.out.2 hx) h5 HLE.out)
                  have hNL : D2.length + (Ru.whs (uw.take i)).length + (6 + (x.text 1).length) < 1000000000 := by
                    have h1 := HTL.out
                    have h2 := HDL2.out
                    rw [HT.out, List.length_append, List.length_append, nats_length] at h1
                    have h3 : (⟨#[32, 119, 104, 101, 110, 32]⟩ : ByteArray).size = 6 := rfl
                    omega
                  have HNL := Lib.hid hNL
                  clear hx hNL hri h5
                  go_wp2_with fail
                  have HSZ := Lib.hid H.out.bw.size
                  have h1 : (D2 ++ Ru.whs (uw.take i)).length + (⟨#[32, 119, 104, 101, 110, 32]⟩ : ByteArray).size < 1000000000 := by rw [List.length_append]; show _ + 6 < _; have := HNL.out; omega
                  have HC := bld_strF w1.heap.size w1.heap.size _ ⟨#[32, 119, 104, 101, 110, 32]⟩ _ H.out.bl h1 HSZ.out
                  clear h1
                  refine HC.mono ?_
                  rintro e V3 ⟨rfl, hbl, hbw, hbf⟩
                  have H := Lib.hid (H.out.step hbl hbw hbf)
                  clear HC hbl hbw hbf
                  have hbx := H.out.bx
                  have zf : ∀ i, V3.frozen? ⟨(wo.heap.size), i, none⟩ = false := fun i => Lib.frozen_of_heap hbx i
                  have z2 : V3.cell? ⟨(wo.heap.size), 2, none⟩ = some (.slice (some ae) uw.length c2) := by rw [Lib.cell_of_heap hbx]; rfl
                  clear hbx
                  go_wp2_with fail
                  have h1 : (D2 ++ Ru.whs (uw.take i) ++ nats ⟨#[32, 119, 104, 101, 110, 32]⟩).length + (x.text 1).length < 1000000000 := by rw [List.length_append, List.length_append, nats_length]; show _ + 6 + _ < _; have := HNL.out; omega
                  have HC := HPW.out _ _ 1 H.out.bw H.out.bl h1
                  clear h1
                  refine HC.mono ?_
                  rintro e V4 ⟨rfl, hbl, hbw, hbf⟩
                  have H := Lib.hid (H.out.step hbl hbw hbf)
                  clear HC hbl hbw hbf z2 zf
                  go_wp2_with fail
                  go_roundg (uw.length - (i + 1))
                  case measure => have := HMI.out; omega
                  case rel => exact ⟨i + 1, by omega, rfl, by go_num, by
                    have h := H.out
                    show PrS _ _ _ _ _
                    rw [HT.out]
                    simp only [List.append_assoc] at h ⊢
                    exact h⟩
                · have hil' : ¬ (i : Int) < (uw.length : Int) := by omega
                  have hie : i = uw.length := by omega
                  have HX0 := H.out
                  rw [hie, List.take_length] at HX0
                  have H := Lib.hid HX0
                  clear HX0 hie
                  go_wp2_with fail
                  have HSZ := Lib.hid H.out.bw.size
                  have h1 : (D2 ++ Ru.whs uw).length < 1000000000 := by rw [List.length_append]; have := HDL2.out; omega
                  have HC := bld_byteF w1.heap.size w1.heap.size _ 59 _ H.out.bl h1 HSZ.out
                  clear h1
                  refine HC.mono ?_
                  rintro e V3 ⟨rfl, hbl, hbw, hbf⟩
                  have H := Lib.hid (H.out.step hbl hbw hbf)
                  clear HC hbl hbw hbf
                  go_wp2_with fail
                  go_roundg (L.length - (k + 1))
                  case measure => have := HM.out; omega
                  case rel => exact ⟨k + 1, by omega, rfl, by go_num, H.out.bw, by
                    have h := H.out.bl
                    show Bld _ _ _ _
                    rw [HD5.out]
                    simp only [List.append_assoc] at h ⊢
                    exact h⟩
      case k1 =>
        have hk8 : (k : Int) > 0 := by omega
        have HLF : Hid (lfOf k = [10]) := by show _ = _; rw [lfOf, if_neg hk9]
        clear hk9
        go_wp2_with fail
        have HSZ := Lib.hid H.out.bw.size
        have h1 : (Pol.text (L.take k)).length < 1000000000 := by have := HTOT.out; omega
        have HC := bld_byteF w1.heap.size w1.heap.size _ 10 _ H.out.bl h1 HSZ.out
        clear h1
        refine HC.mono ?_
        rintro e V1 ⟨rfl, hbl, hbw, hbf⟩
        have H := Lib.hid (H.out.step hbl hbw hbf)
        clear HC hbl hbw hbf z0 z1 z2 z3 zf
        have hbx := H.out.bx
        have zf : ∀ i, V1.frozen? ⟨(wo.heap.size), i, none⟩ = false := fun i => Lib.frozen_of_heap hbx i
        have z0 : V1.cell? ⟨(wo.heap.size), 0, none⟩ = some (.bool ud) := by rw [Lib.cell_of_heap hbx]; rfl
        have z1 : V1.cell? ⟨(wo.heap.size), 1, none⟩ = some (.slice q1 us.length c1) := by rw [Lib.cell_of_heap hbx]; rfl
        have z2 : V1.cell? ⟨(wo.heap.size), 2, none⟩ = some (.slice q2 uw.length c2) := by rw [Lib.cell_of_heap hbx]; rfl
        have z3 : V1.cell? ⟨(wo.heap.size), 3, none⟩ = some (.int .i64 up) := by rw [Lib.cell_of_heap hbx]; rfl
        clear hbx
        have HDD : Hid (Pol.text (L.take k) ++ [10] = Pol.text (L.take k) ++ lfOf k) := by show _ = _; rw [HLF.out]
        cases ud with
        | true =>
          have hh9 : (⟨#[100, 101, 110, 121]⟩ : ByteArray) = hdv := hhd.out
          subst hh9
          go_wp2_with fail
          have HSZ := Lib.hid H.out.bw.size
          obtain ⟨D0, hD0⟩ : ∃ D0, D0 = Pol.text (L.take k) ++ lfOf k := ⟨_, rfl⟩
          have HX0 := H.out
          rw [HDD.out, ← hD0] at HX0
          have H := Lib.hid HX0
          have HDL : Hid (D0.length = (Pol.text (L.take k)).length + (lfOf k).length) := by show _ = _; rw [hD0, List.length_append]
          have HD3 : Hid (Pol.text (L.take (k + 1)) = D0 ++ (nats ⟨#[100, 101, 110, 121]⟩ ++ (Ru.scs us ++ (Ru.whs uw ++ [59])))) := by show _ = _; rw [HD2.out, hD0, List.append_assoc]
          have h1 : D0.length + (⟨#[100, 101, 110, 121]⟩ : ByteArray).size < 1000000000 := by have := HTOT.out; have := HDL.out; omega
          clear HX0 hD0 HDD HD2
          have HC := bld_strF w1.heap.size w1.heap.size D0 ⟨#[100, 101, 110, 121]⟩ _ H.out.bl h1 HSZ.out
          clear h1
          refine HC.mono ?_
          rintro e V2 ⟨rfl, hbl, hbw, hbf⟩
          have H := Lib.hid (H.out.step hbl hbw hbf)
          clear HC hbl hbw hbf z0 z1 z2 z3 zf
          obtain ⟨D1, hD1⟩ : ∃ D1, D0 ++ nats ⟨#[100, 101, 110, 121]⟩ = D1 := ⟨_, rfl⟩
          have HX0 := H.out
          rw [hD1] at HX0
          have H := Lib.hid HX0
          have HDL1 : Hid (D1.length + (Ru.scs us).length + (Ru.whs uw).length + 1 < 1000000000) := by have := HTOT.out; have := HDL.out; show _ < _; rw [← hD1, List.length_append, nats_length]; omega
          have HD4 : Hid (Pol.text (L.take (k + 1)) = D1 ++ (Ru.scs us ++ (Ru.whs uw ++ [59]))) := by show _ = _; rw [HD3.out, ← hD1, List.append_assoc]
          clear HX0 hD1 HD3 HDL HTOT
          have hbx := H.out.bx
          have zf : ∀ i, V2.frozen? ⟨(wo.heap.size), i, none⟩ = false := fun i => Lib.frozen_of_heap hbx i
          have z1 : V2.cell? ⟨(wo.heap.size), 1, none⟩ = some (.slice q1 us.length c1) := by rw [Lib.cell_of_heap hbx]; rfl
          clear hbx
          go_wp2_with fail
          go_loopg [7, 34] us.length (fun m s7 s34 W => ∃ (j : Nat) (S : ByteArray), j ≤ us.length ∧ m = us.length - j ∧ s34 = .int .i64 j ∧ s7 = .string S ∧ Hid (S = scSign j) ∧ Hid (PrS w1 (D1 ++ Ru.scs (us.take j)) wo.heap.size #[.bool true, .slice q1 us.length c1, .slice q2 uw.length c2, .int .i64 up] W))
          case atStart => exact ⟨0, scSign 0, by omega, by omega, rfl, rfl, rfl, by
            show PrS _ _ _ _ _
            rw [List.take_zero, Ru.scs, List.append_nil]
            exact H.out⟩
          case round =>
            clear H z1 zf
            obtain ⟨j, S, hj, hm, rfl, rfl, HSG, H⟩ := hrel
            have HMJ := Lib.hid hm
            clear hm
            by_cases hjl : j < us.length
            · have hjl' : (j : Int) < (us.length : Int) := by omega
              have hj0 : (0 : Int) ≤ (j : Int) := by omega
              obtain ⟨s, hs⟩ : ∃ s, us[j]? = some s := ⟨_, List.getElem?_eq_getElem hjl⟩
              obtain ⟨sb, so, rfl, sc⟩ := (HS.out.fr (Fr.of_below H.out.bw)).hr j s hs
              have HT := Lib.hid (Ru.scs_take hs)
              have HTL := Lib.hid (grows_take Ru.scs (fun l x => ⟨_, Ru.scs_snoc l x⟩) us (j + 1))
              have HQ := Lib.hid (lex_quote2 wr s (HSH.out.1 s (List.mem_of_getElem? hs)) (HLE.out.fr (Fr.of_below H.out.bw) (by simp)))
              have hS7 : S.size ≤ 7 := by rw [HSG.out]; exact scSign_size j
              have hNL : D1.length + (Ru.scs (us.take j)).length + (S.size + (qt s).size) < 1000000000 := by
                have h1 := HTL.out
                have h2 := HDL1.out
                rw [HT.out, List.length_append, nats_length, ByteArray.size_append, ← HSG.out] at h1
                omega
              have hq9 : (qt s).size ≤ 1000000000 := by omega
              have HNL := Lib.hid hNL
              clear hs hNL
              go_wp2_with fail
              refine HQ.out.mono ?_
              rintro e V3 ⟨rfl, hF⟩
              have H := Lib.hid (H.out.fr hF)
              clear hF HQ sc
              go_wp2_with fail
              have HSZ := Lib.hid H.out.bw.size
              have h1 : (D1 ++ Ru.scs (us.take j)).length + (S ++ qt s).size < 1000000000 := by rw [List.length_append, ByteArray.size_append]; have := HNL.out; omega
              have HC := bld_strF w1.heap.size w1.heap.size _ (S ++ qt s) _ H.out.bl h1 HSZ.out
              clear h1
              refine HC.mono ?_
              rintro e V4 ⟨rfl, hbl, hbw, hbf⟩
              have H := Lib.hid (H.out.step hbl hbw hbf)
              clear HC hbl hbw hbf
              go_wp2_with fail
              go_roundg (us.length - (j + 1))
              case measure => have := HMJ.out; omega
              case rel => exact ⟨j + 1, ⟨#[44, 32]⟩, by omega, rfl, by go_num, rfl, by show _ = scSign (j + 1); rw [scSign, if_neg (by omega)], by
                have h := H.out
                show PrS _ _ _ _ _
                rw [HT.out, ← HSG.out]
                simp only [List.append_assoc] at h ⊢
                exact h⟩
            · have hjl' : ¬ (j : Int) < (us.length : Int) := by omega
              have hje : j = us.length := by omega
              have HX0 := H.out
              rw [hje, List.take_length] at HX0
              have H := Lib.hid HX0
              have hbx := H.out.bx
              have zf : ∀ i, wr.frozen? ⟨(wo.heap.size), i, none⟩ = false := fun i => Lib.frozen_of_heap hbx i
              have z2 : wr.cell? ⟨(wo.heap.size), 2, none⟩ = some (.slice q2 uw.length c2) := by rw [Lib.cell_of_heap hbx]; rfl
              obtain ⟨D2, hD2⟩ : ∃ D2, D1 ++ Ru.scs us = D2 := ⟨_, rfl⟩
              rw [hD2] at HX0
              have H := Lib.hid HX0
              have HDL2 : Hid (D2.length + (Ru.whs uw).length + 1 < 1000000000) := by have := HDL1.out; show _ < _; rw [← hD2, List.length_append]; omega
              have HD5 : Hid (Pol.text (L.take (k + 1)) = D2 ++ (Ru.whs uw ++ [59])) := by show _ = _; rw [HD4.out, ← hD2, List.append_assoc]
              clear hbx HX0 hje hD2 HD4 HDL1
              obtain ⟨wp, rfl⟩ : ∃ wp : World, wp = wr := ⟨_, rfl⟩
              go_wp2_with fail
              go_loopg [51] uw.length (fun m s51 W => ∃ (i : Nat), i ≤ uw.length ∧ m = uw.length - i ∧ s51 = .int .i64 i ∧ Hid (PrS w1 (D2 ++ Ru.whs (uw.take i)) wo.heap.size #[.bool true, .slice q1 us.length c1, .slice q2 uw.length c2, .int .i64 up] W))
              case atStart => exact ⟨0, by omega, by omega, rfl, by
                show PrS _ _ _ _ _
                rw [List.take_zero, Ru.whs, List.append_nil]
                exact H.out⟩
              case round =>
                clear H z2 zf
                obtain ⟨i, hi, hm, rfl, H⟩ := hrel
                have HMI := Lib.hid hm
                clear hm
                by_cases hil : i < uw.length
                · have hil' : (i : Int) < (uw.length : Int) := by omega
                  have hi0 : (0 : Int) ≤ (i : Int) := by omega
                  obtain ⟨x, hx⟩ : ∃ s, uw[i]? = some s := ⟨_, List.getElem?_eq_getElem hil⟩
                  obtain ⟨ae, rfl, h5⟩ := HX.out.hr i x hx
                  have HT := Lib.hid (Ru.whs_take hx)
                  have HTL := Lib.hid (grows_take Ru.whs (fun l x => ⟨_, Ru.whs_snoc l x⟩) uw (i + 1))
                  have hri : Ex.right x 1 = true := by
                    have h1 := HRI.out
                    unfold Ru.right at h1
                    rw [Bool.and_eq_true] at h1
                    exact Ex.rights_at h1.2 hx
                  have HPW := Lib.hid (pol_write (HX.out.hx i x hx) 1 w1.heap.size (ae.add (i * 5)) hri (Ex.shorts_at HSH.out.2 hx) h5 HLE.out)
                  have hNL : D2.length + (Ru.whs (uw.take i)).length + (6 + (x.text 1).length) < 1000000000 := by
                    have h1 := HTL.out
                    have h2 := HDL2.out
                    rw [HT.out, List.length_append, List.length_append, nats_length] at h1
                    have h3 : (⟨#[32, 119, 104, 101, 110, 32]⟩ : ByteArray).size = 6 := rfl
                    omega
                  have HNL := Lib.hid hNL
                  clear hx hNL hri h5
                  go_wp2_with fail
                  have HSZ := Lib.hid H.out.bw.size
                  have h1 : (D2 ++ Ru.whs (uw.take i)).length + (⟨#[32, 119, 104, 101, 110, 32]⟩ : ByteArray).size < 1000000000 := by rw [List.length_append]; show _ + 6 < _; have := HNL.out; omega
                  have HC := bld_strF w1.heap.size w1.heap.size _ ⟨#[32, 119, 104, 101, 110, 32]⟩ _ H.out.bl h1 HSZ.out
                  clear h1
                  refine HC.mono ?_
                  rintro e V3 ⟨rfl, hbl, hbw, hbf⟩
                  have H := Lib.hid (H.out.step hbl hbw hbf)
                  clear HC hbl hbw hbf
                  have hbx := H.out.bx
                  have zf : ∀ i, V3.frozen? ⟨(wo.heap.size), i, none⟩ = false := fun i => Lib.frozen_of_heap hbx i
                  have z2 : V3.cell? ⟨(wo.heap.size), 2, none⟩ = some (.slice (some ae) uw.length c2) := by rw [Lib.cell_of_heap hbx]; rfl
                  clear hbx
                  go_wp2_with fail
                  have h1 : (D2 ++ Ru.whs (uw.take i) ++ nats ⟨#[32, 119, 104, 101, 110, 32]⟩).length + (x.text 1).length < 1000000000 := by rw [List.length_append, List.length_append, nats_length]; show _ + 6 + _ < _; have := HNL.out; omega
                  have HC := HPW.out _ _ 1 H.out.bw H.out.bl h1
                  clear h1
                  refine HC.mono ?_
                  rintro e V4 ⟨rfl, hbl, hbw, hbf⟩
                  have H := Lib.hid (H.out.step hbl hbw hbf)
                  clear HC hbl hbw hbf z2 zf
                  go_wp2_with fail
                  go_roundg (uw.length - (i + 1))
                  case measure => have := HMI.out; omega
                  case rel => exact ⟨i + 1, by omega, rfl, by go_num, by
                    have h := H.out
                    show PrS _ _ _ _ _
                    rw [HT.out]
                    simp only [List.append_assoc] at h ⊢
                    exact h⟩
                · have hil' : ¬ (i : Int) < (uw.length : Int) := by omega
                  have hie : i = uw.length := by omega
                  have HX0 := H.out
                  rw [hie, List.take_length] at HX0
                  have H := Lib.hid HX0
                  clear HX0 hie
                  go_wp2_with fail
                  have HSZ := Lib.hid H.out.bw.size
                  have h1 : (D2 ++ Ru.whs uw).length < 1000000000 := by rw [List.length_append]; have := HDL2.out; omega
                  have HC := bld_byteF w1.heap.size w1.heap.size _ 59 _ H.out.bl h1 HSZ.out
                  clear h1
                  refine HC.mono ?_
                  rintro e V3 ⟨rfl, hbl, hbw, hbf⟩
                  have H := Lib.hid (H.out.step hbl hbw hbf)
                  clear HC hbl hbw hbf
                  go_wp2_with fail
                  go_roundg (L.length - (k + 1))
                  case measure => have := HM.out; omega
                  case rel => exact ⟨k + 1, by omega, rfl, by go_num, H.out.bw, by
                    have h := H.out.bl
                    show Bld _ _ _ _
                    rw [HD5.out]
                    simp only [List.append_assoc] at h ⊢
                    exact h⟩
        | false =>
          have hh9 : (⟨#[112, 101, 114, 109, 105, 116]⟩ : ByteArray) = hdv := hhd.out
          subst hh9
          go_wp2_with fail
          have HSZ := Lib.hid H.out.bw.size
          obtain ⟨D0, hD0⟩ : ∃ D0, D0 = Pol.text (L.take k) ++ lfOf k := ⟨_, rfl⟩
          have HX0 := H.out
          rw [HDD.out, ← hD0] at HX0
          have H := Lib.hid HX0
          have HDL : Hid (D0.length = (Pol.text (L.take k)).length + (lfOf k).length) := by show _ = _; rw [hD0, List.length_append]
          have HD3 : Hid (Pol.text (L.take (k + 1)) = D0 ++ (nats ⟨#[112, 101, 114, 109, 105, 116]⟩ ++ (Ru.scs us ++ (Ru.whs uw ++ [59])))) := by show _ = _; rw [HD2.out, hD0, List.append_assoc]
          have h1 : D0.length + (⟨#[112, 101, 114, 109, 105, 116]⟩ : ByteArray).size < 1000000000 := by have := HTOT.out; have := HDL.out; omega
          clear HX0 hD0 HDD HD2
          have HC := bld_strF w1.heap.size w1.heap.size D0 ⟨#[112, 101, 114, 109, 105, 116]⟩ _ H.out.bl h1 HSZ.out
          clear h1
          refine HC.mono ?_
          rintro e V2 ⟨rfl, hbl, hbw, hbf⟩
          have H := Lib.hid (H.out.step hbl hbw hbf)
          clear HC hbl hbw hbf z0 z1 z2 z3 zf
          obtain ⟨D1, hD1⟩ : ∃ D1, D0 ++ nats ⟨#[112, 101, 114, 109, 105, 116]⟩ = D1 := ⟨_, rfl⟩
          have HX0 := H.out
          rw [hD1] at HX0
          have H := Lib.hid HX0
          have HDL1 : Hid (D1.length + (Ru.scs us).length + (Ru.whs uw).length + 1 < 1000000000) := by have := HTOT.out; have := HDL.out; show _ < _; rw [← hD1, List.length_append, nats_length]; omega
          have HD4 : Hid (Pol.text (L.take (k + 1)) = D1 ++ (Ru.scs us ++ (Ru.whs uw ++ [59]))) := by show _ = _; rw [HD3.out, ← hD1, List.append_assoc]
          clear HX0 hD1 HD3 HDL HTOT
          have hbx := H.out.bx
          have zf : ∀ i, V2.frozen? ⟨(wo.heap.size), i, none⟩ = false := fun i => Lib.frozen_of_heap hbx i
          have z1 : V2.cell? ⟨(wo.heap.size), 1, none⟩ = some (.slice q1 us.length c1) := by rw [Lib.cell_of_heap hbx]; rfl
          clear hbx
          go_wp2_with fail
          go_loopg [7, 34] us.length (fun m s7 s34 W => ∃ (j : Nat) (S : ByteArray), j ≤ us.length ∧ m = us.length - j ∧ s34 = .int .i64 j ∧ s7 = .string S ∧ Hid (S = scSign j) ∧ Hid (PrS w1 (D1 ++ Ru.scs (us.take j)) wo.heap.size #[.bool false, .slice q1 us.length c1, .slice q2 uw.length c2, .int .i64 up] W))
          case atStart => exact ⟨0, scSign 0, by omega, by omega, rfl, rfl, rfl, by
            show PrS _ _ _ _ _
            rw [List.take_zero, Ru.scs, List.append_nil]
            exact H.out⟩
          case round =>
            clear H z1 zf
            obtain ⟨j, S, hj, hm, rfl, rfl, HSG, H⟩ := hrel
            have HMJ := Lib.hid hm
            clear hm
            by_cases hjl : j < us.length
            · have hjl' : (j : Int) < (us.length : Int) := by omega
              have hj0 : (0 : Int) ≤ (j : Int) := by omega
              obtain ⟨s, hs⟩ : ∃ s, us[j]? = some s := ⟨_, List.getElem?_eq_getElem hjl⟩
              obtain ⟨sb, so, rfl, sc⟩ := (HS.out.fr (Fr.of_below H.out.bw)).hr j s hs
              have HT := Lib.hid (Ru.scs_take hs)
              have HTL := Lib.hid (grows_take Ru.scs (fun l x => ⟨_, Ru.scs_snoc l x⟩) us (j + 1))
              have HQ := Lib.hid (lex_quote2 wr s (HSH.out.1 s (List.mem_of_getElem? hs)) (HLE.out.fr (Fr.of_below H.out.bw) (by simp)))
              have hS7 : S.size ≤ 7 := by rw [HSG.out]; exact scSign_size j
              have hNL : D1.length + (Ru.scs (us.take j)).length + (S.size + (qt s).size) < 1000000000 := by
                have h1 := HTL.out
                have h2 := HDL1.out
                rw [HT.out, List.length_append, nats_length, ByteArray.size_append, ← HSG.out] at h1
                omega
              have hq9 : (qt s).size ≤ 1000000000 := by omega
              have HNL := Lib.hid hNL
              clear hs hNL
              go_wp2_with fail
              refine HQ.out.mono ?_
              rintro e V3 ⟨rfl, hF⟩
              have H := Lib.hid (H.out.fr hF)
              clear hF HQ sc
              go_wp2_with fail
              have HSZ := Lib.hid H.out.bw.size
              have h1 : (D1 ++ Ru.scs (us.take j)).length + (S ++ qt s).size < 1000000000 := by rw [List.length_append, ByteArray.size_append]; have := HNL.out; omega
              have HC := bld_strF w1.heap.size w1.heap.size _ (S ++ qt s) _ H.out.bl h1 HSZ.out
              clear h1
              refine HC.mono ?_
              rintro e V4 ⟨rfl, hbl, hbw, hbf⟩
              have H := Lib.hid (H.out.step hbl hbw hbf)
              clear HC hbl hbw hbf
              go_wp2_with fail
              go_roundg (us.length - (j + 1))
              case measure => have := HMJ.out; omega
              case rel => exact ⟨j + 1, ⟨#[44, 32]⟩, by omega, rfl, by go_num, rfl, by show _ = scSign (j + 1); rw [scSign, if_neg (by omega)], by
                have h := H.out
                show PrS _ _ _ _ _
                rw [HT.out, ← HSG.out]
                simp only [List.append_assoc] at h ⊢
                exact h⟩
            · have hjl' : ¬ (j : Int) < (us.length : Int) := by omega
              have hje : j = us.length := by omega
              have HX0 := H.out
              rw [hje, List.take_length] at HX0
              have H := Lib.hid HX0
              have hbx := H.out.bx
              have zf : ∀ i, wr.frozen? ⟨(wo.heap.size), i, none⟩ = false := fun i => Lib.frozen_of_heap hbx i
              have z2 : wr.cell? ⟨(wo.heap.size), 2, none⟩ = some (.slice q2 uw.length c2) := by rw [Lib.cell_of_heap hbx]; rfl
              obtain ⟨D2, hD2⟩ : ∃ D2, D1 ++ Ru.scs us = D2 := ⟨_, rfl⟩
              rw [hD2] at HX0
              have H := Lib.hid HX0
              have HDL2 : Hid (D2.length + (Ru.whs uw).length + 1 < 1000000000) := by have := HDL1.out; show _ < _; rw [← hD2, List.length_append]; omega
              have HD5 : Hid (Pol.text (L.take (k + 1)) = D2 ++ (Ru.whs uw ++ [59])) := by show _ = _; rw [HD4.out, ← hD2, List.append_assoc]
              clear hbx HX0 hje hD2 HD4 HDL1
              obtain ⟨wp, rfl⟩ : ∃ wp : World, wp = wr := ⟨_, rfl⟩
              go_wp2_with fail
              go_loopg [51] uw.length (fun m s51 W => ∃ (i : Nat), i ≤ uw.length ∧ m = uw.length - i ∧ s51 = .int .i64 i ∧ Hid (PrS w1 (D2 ++ Ru.whs (uw.take i)) wo.heap.size #[.bool false, .slice q1 us.length c1, .slice q2 uw.length c2, .int .i64 up] W))
              case atStart => exact ⟨0, by omega, by omega, rfl, by
                show PrS _ _ _ _ _
                rw [List.take_zero, Ru.whs, List.append_nil]
                exact H.out⟩
              case round =>
                clear H z2 zf
                obtain ⟨i, hi, hm, rfl, H⟩ := hrel
                have HMI := Lib.hid hm
                clear hm
                by_cases hil : i < uw.length
                · have hil' : (i : Int) < (uw.length : Int) := by omega
                  have hi0 : (0 : Int) ≤ (i : Int) := by omega
                  obtain ⟨x, hx⟩ : ∃ s, uw[i]? = some s := ⟨_, List.getElem?_eq_getElem hil⟩
                  obtain ⟨ae, rfl, h5⟩ := HX.out.hr i x hx
                  have HT := Lib.hid (Ru.whs_take hx)
                  have HTL := Lib.hid (grows_take Ru.whs (fun l x => ⟨_, Ru.whs_snoc l x⟩) uw (i + 1))
                  have hri : Ex.right x 1 = true := by
                    have h1 := HRI.out
                    unfold Ru.right at h1
                    rw [Bool.and_eq_true] at h1
                    exact Ex.rights_at h1.2 hx
                  have HPW := Lib.hid (pol_write (HX.out.hx i x hx) 1 w1.heap.size (ae.add (i * 5)) hri (Ex.shorts_at HSH.out.2 hx) h5 HLE.out)
                  have hNL : D2.length + (Ru.whs (uw.take i)).length + (6 + (x.text 1).length) < 1000000000 := by
                    have h1 := HTL.out
                    have h2 := HDL2.out
                    rw [HT.out, List.length_append, List.length_append, nats_length] at h1
                    have h3 : (⟨#[32, 119, 104, 101, 110, 32]⟩ : ByteArray).size = 6 := rfl
                    omega
                  have HNL := Lib.hid hNL
                  clear hx hNL hri h5
                  go_wp2_with fail
                  have HSZ := Lib.hid H.out.bw.size
                  have h1 : (D2 ++ Ru.whs (uw.take i)).length + (⟨#[32, 119, 104, 101, 110, 32]⟩ : ByteArray).size < 1000000000 := by rw [List.length_append]; show _ + 6 < _; have := HNL.out; omega
                  have HC := bld_strF w1.heap.size w1.heap.size _ ⟨#[32, 119, 104, 101, 110, 32]⟩ _ H.out.bl h1 HSZ.out
                  clear h1
                  refine HC.mono ?_
                  rintro e V3 ⟨rfl, hbl, hbw, hbf⟩
                  have H := Lib.hid (H.out.step hbl hbw hbf)
                  clear HC hbl hbw hbf
                  have hbx := H.out.bx
                  have zf : ∀ i, V3.frozen? ⟨(wo.heap.size), i, none⟩ = false := fun i => Lib.frozen_of_heap hbx i
                  have z2 : V3.cell? ⟨(wo.heap.size), 2, none⟩ = some (.slice (some ae) uw.length c2) := by rw [Lib.cell_of_heap hbx]; rfl
                  clear hbx
                  go_wp2_with fail
                  have h1 : (D2 ++ Ru.whs (uw.take i) ++ nats ⟨#[32, 119, 104, 101, 110, 32]⟩).length + (x.text 1).length < 1000000000 := by rw [List.length_append, List.length_append, nats_length]; show _ + 6 + _ < _; have := HNL.out; omega
                  have HC := HPW.out _ _ 1 H.out.bw H.out.bl h1
                  clear h1
                  refine HC.mono ?_
                  rintro e V4 ⟨rfl, hbl, hbw, hbf⟩
                  have H := Lib.hid (H.out.step hbl hbw hbf)
                  clear HC hbl hbw hbf z2 zf
                  go_wp2_with fail
                  go_roundg (uw.length - (i + 1))
                  case measure => have := HMI.out; omega
                  case rel => exact ⟨i + 1, by omega, rfl, by go_num, by
                    have h := H.out
                    show PrS _ _ _ _ _
                    rw [HT.out]
                    simp only [List.append_assoc] at h ⊢
                    exact h⟩
                · have hil' : ¬ (i : Int) < (uw.length : Int) := by omega
                  have hie : i = uw.length := by omega
                  have HX0 := H.out
                  rw [hie, List.take_length] at HX0
                  have H := Lib.hid HX0
                  clear HX0 hie
                  go_wp2_with fail
                  have HSZ := Lib.hid H.out.bw.size
                  have h1 : (D2 ++ Ru.whs uw).length < 1000000000 := by rw [List.length_append]; have := HDL2.out; omega
                  have HC := bld_byteF w1.heap.size w1.heap.size _ 59 _ H.out.bl h1 HSZ.out
                  clear h1
                  refine HC.mono ?_
                  rintro e V3 ⟨rfl, hbl, hbw, hbf⟩
                  have H := Lib.hid (H.out.step hbl hbw hbf)
                  clear HC hbl hbw hbf
                  go_wp2_with fail
                  go_roundg (L.length - (k + 1))
                  case measure => have := HM.out; omega
                  case rel => exact ⟨k + 1, by omega, rfl, by go_num, H.out.bw, by
                    have h := H.out.bl
                    show Bld _ _ _ _
                    rw [HD5.out]
                    simp only [List.append_assoc] at h ⊢
                    exact h⟩
    · have hlt' : ¬ (k : Int) < (L.length : Int) := by omega
      have hke : k = L.length := by omega
      have h9 : Bld w1.heap.size w1.heap.size (Pol.text L) wr := by have := HB.out; rwa [hke, List.take_length] at this
      have HC := Lib.hid (bld_string w1.heap.size w1.heap.size _ wr h9 (Pol.text_lt L) HW.out.size)
      clear h9 hke
      go_wp2_with fail
      refine HC.out.mono ?_
      rintro e w2 ⟨rfl, hbw⟩
      have HF2 := Lib.hid (HF0.out.trans0 ((Fr.of_below HW.out).step hbw))
      clear hbw HC
      go_wp2_with fail
      go_ret2
      exact ⟨rfl, HF2.out⟩
end Go.Proofs.YtgklmpooonnmiaaDoor
