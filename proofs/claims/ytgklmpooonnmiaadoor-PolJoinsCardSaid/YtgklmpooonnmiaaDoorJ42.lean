/-
  Lemmas and contracts that the proofs over this seat use (PolRight8, PolRight9); no statement of the seat is claimed in this text, and nothing is assumed in it.
-/
import Derived.Test.YtgklmpooonnmiaaDoorJ38
set_option linter.unusedVariables false
set_option linter.unusedSimpArgs false
namespace Go.Proofs.YtgklmpooonnmiaaDoor
open Go.RowKit
set_option maxHeartbeats 4000000 in
set_option maxRecDepth 100000 in
theorem right_2 (w : World) (ad : Addr) (op : Int) (s : ByteArray) (n p : Int) (q : Option Addr) (c : Nat) (f : Nat → List Value) (L : List Ex) (h : LA w q c f L) (deep : Nat) (hd : deep ≤ 200)
  (h5 : Five w ad [.int .i64 op, .string s, .int .i64 n, .slice q L.length c, .int .i64 p]) (hop : op = 2)
  (hS : ∀ (W : World) (i : Nat) (x : Ex) (ae : Addr), Fr [] w W → L[i]? = some x → Five W ae (f i) → Calls Tryd.prog 96 #[.pointer (some ae), .int .i64 ((deep : Int) + 1)] W fun e w' => e = .returned (.bool (Ex.right x (deep + 1))) ∧ Fr [] W w') :
  Calls Tryd.prog 96 #[.pointer (some ad), .int .i64 deep] w fun e w' => e = .returned (.bool (Ex.right (.mk op s n L p) deep)) ∧ Fr [] w w' := by
 obtain ⟨v0, v1, v2, v3, v4, hv, a0, a1, a2, a3, a4⟩ := h5
 simp only [List.cons.injEq, and_true] at hv
 obtain ⟨rfl, rfl, rfl, rfl, rfl⟩ := hv
 have hd' : ¬ (deep : Int) > 200 := by omega
 subst hop
 have HL := Lib.hid h
 have HS := Lib.hid hS
 have A3 := Lib.hid a3
 have hb : L.length ≤ 9223372036854775807 := by have h1 := h.hc; have h2 := h.hm; unfold maxLen at h2; omega
 clear h hS
 go_enter Tryd.func96, Tryd.ntmps96
 by_cases hn0 : n ≥ -9007199254740991
 ·have hn0' : -9007199254740991 ≤ n := hn0
  by_cases hn1 : n ≤ 9007199254740991
  ·cases he : s.toList.isEmpty with
   | false =>
    have HEE : Hid (Ex.right (.mk 2 s n L p) deep = false) := by
     show _ = _
     rw [Ex.right, if_neg (by omega), Ex.head, if_neg (by decide), if_pos rfl]
     have h1 : (s.toList == []) = false := by cases hs : s.toList with | nil => rw [hs] at he; cases he | cons _ _ => rfl
     rw [h1]; simp
    go_wp2_with fail
    go_ret
    rw [HEE.out]
    exact ⟨rfl, Fr.refl [] w⟩
   | true =>
    by_cases hk2 : L.length > 0
    ·have hk2' : (L.length : Int) > 0 := by omega
     have HEE : Hid (Ex.right (.mk 2 s n L p) deep = false) := by
      show _ = _
      rw [Ex.right, if_neg (by omega), Ex.head, if_neg (by decide), if_pos rfl]
      have h1 : (L.length == 0) = false := by rw [beq_eq_false_iff_ne]; omega
      rw [h1, Bool.and_false, Bool.false_and]
     go_wp2_with fail
     go_ret
     rw [HEE.out]
     exact ⟨rfl, Fr.refl [] w⟩
    ·have hk2' : ¬ (L.length : Int) > 0 := by omega
     have HEE : Hid (Ex.right (.mk 2 s n L p) deep = Ex.rights L (deep + 1)) := by
      show _ = _
      rw [Ex.right, if_neg (by omega), Ex.head, if_neg (by decide), if_pos rfl]
      have h1 : (L.length == 0) = true := by rw [beq_iff_eq]; omega
      have h2 : (s.toList == []) = true := by cases hs : s.toList with | nil => rfl | cons _ _ => rw [hs] at he; cases he
      rw [h1, h2, decide_eq_true hn0', decide_eq_true hn1]
      simp
     go_wp2_with fail
     go_loopg [9, 147] L.length (fun m s9 s147 W => ∃ k : Nat, k ≤ L.length ∧ m = L.length - k ∧ s147 = .int .i64 k ∧ Hid (Fr [] w W) ∧ Hid (Ex.rights L (deep + 1) = Ex.rights (L.drop k) (deep + 1)))
     case atStart => exact ⟨0, by omega, by omega, rfl, Fr.refl [] w, rfl⟩
     case round =>
      obtain ⟨k, hk, hm, rfl, HF, HE⟩ := hrel
      have HM := Lib.hid hm
      clear hm
      by_cases hlt : k < L.length
      ·exact absurd hlt (by omega)
      ·have hlt' : ¬ (k : Int) < (L.length : Int) := by omega
       have HEF : Hid (Ex.rights L (deep + 1) = true) := by show _ = _; rw [HE.out, List.drop_eq_nil_of_le (by omega), Ex.rights]
       go_wp2_with fail
       go_ret
       rw [HEE.out, HEF.out]
       exact ⟨rfl, HF.out⟩
  ·have HEE : Hid (Ex.right (.mk 2 s n L p) deep = false) := by
    show _ = _
    rw [Ex.right, if_neg (by omega), Ex.head, if_neg (by decide), if_pos rfl, decide_eq_false hn1]
    simp
   go_wp2_with fail
   go_ret
   rw [HEE.out]
   exact ⟨rfl, Fr.refl [] w⟩
 ·have HEE : Hid (Ex.right (.mk 2 s n L p) deep = false) := by
   show _ = _
   rw [Ex.right, if_neg (by omega), Ex.head, if_neg (by decide), if_pos rfl, decide_eq_false (fun h => hn0 h)]
   simp
  go_wp2_with fail
  go_ret
  rw [HEE.out]
  exact ⟨rfl, Fr.refl [] w⟩
end Go.Proofs.YtgklmpooonnmiaaDoor

namespace Go.Proofs.YtgklmpooonnmiaaDoor
open Go.RowKit
set_option maxHeartbeats 4000000 in
set_option maxRecDepth 100000 in
theorem right_3 (w : World) (ad : Addr) (op : Int) (s : ByteArray) (n p : Int) (q : Option Addr) (c : Nat) (f : Nat → List Value) (L : List Ex) (h : LA w q c f L) (deep : Nat) (hd : deep ≤ 200) (hs : s.size ≤ 100000000) (hLe : Least w)
  (h5 : Five w ad [.int .i64 op, .string s, .int .i64 n, .slice q L.length c, .int .i64 p]) (hop : op = 3) :
  Calls Tryd.prog 96 #[.pointer (some ad), .int .i64 deep] w fun e w' => e = .returned (.bool (Ex.right (.mk op s n L p) deep)) ∧ Fr [] w w' := by
 obtain ⟨v0, v1, v2, v3, v4, hv, a0, a1, a2, a3, a4⟩ := h5
 simp only [List.cons.injEq, and_true] at hv
 obtain ⟨rfl, rfl, rfl, rfl, rfl⟩ := hv
 have hd' : ¬ (deep : Int) > 200 := by omega
 subst hop
 have HQ : Hid (∀ W, Fr [] w W → Calls Tryd.prog 95 #[.string s] W fun e w' => e = .returned (.bool (Lex.quote s).isSome) ∧ Fr [] W w') := fun W hW => pol_quoted W s hs (hLe.fr hW (by simp))
 have HR : Hid (Ex.right (.mk 3 s n L p) deep = (((n == 0) && (Lex.quote s).isSome && (L.length == 0)) && Ex.rights L (deep + 1))) := by
  show _ = _
  rw [Ex.right, if_neg (by omega), Ex.head, if_neg (by decide), if_neg (by decide), if_pos (by decide)]
 obtain ⟨z, hz⟩ : ∃ z, (Lex.quote s).isSome = z := ⟨_, rfl⟩
 rw [hz] at HQ HR
 have hb : L.length ≤ 9223372036854775807 := by have h1 := h.hc; have h2 := h.hm; unfold maxLen at h2; omega
 clear h hz hLe hs
 go_enter Tryd.func96, Tryd.ntmps96
 cases hn : (n == 0) with
 | false =>
  have HEE : Hid (Ex.right (.mk 3 s n L p) deep = false) := by show _ = _; rw [HR.out, hn]; rfl
  clear HR
  go_wp2_with fail
  go_region_held3 (fun W' => W'.cell? ⟨ad.block, ad.off + 2, none⟩ = some (.int .i64 n) ∧ W'.cell? ⟨ad.block, ad.off + 1, none⟩ = some (.string s))
   (first | go_keep | exact ⟨hF.cells a2, hF.cells a1⟩ | ((try dsimp only) <;> (repeat' apply And.intro) <;> go_keep))
   ((go_at_call 95; refine (HQ.out _ (by first | exact Fr.refl _ _ | exact (Fr.refl _ _).drew)).mono ?_; rintro e w1 ⟨rfl, hF⟩))
  have HF1 := Lib.hid (((Fr.refl [] w).drew).trans0 hF)
  have b1 := hF.cells (show _ from a1)
  have b2 := hF.cells (show _ from a2)
  have b3 := hF.cells (show _ from a3)
  clear hF HQ
  go_wp2_with fail
  go_ret
  rw [HEE.out]
  exact ⟨rfl, HF1.out⟩
 | true =>
  cases z with
  | false =>
   have HEE : Hid (Ex.right (.mk 3 s n L p) deep = false) := by show _ = _; rw [HR.out, hn]; rfl
   clear HR
   go_wp2_with fail
   go_region_held3 (fun W' => W'.cell? ⟨ad.block, ad.off + 2, none⟩ = some (.int .i64 n) ∧ W'.cell? ⟨ad.block, ad.off + 1, none⟩ = some (.string s))
    (first | go_keep | exact ⟨hF.cells a2, hF.cells a1⟩ | ((try dsimp only) <;> (repeat' apply And.intro) <;> go_keep))
    ((go_at_call 95; refine (HQ.out _ (by first | exact Fr.refl _ _ | exact (Fr.refl _ _).drew)).mono ?_; rintro e w1 ⟨rfl, hF⟩))
   have HF1 := Lib.hid (((Fr.refl [] w).drew).trans0 hF)
   have b1 := hF.cells (show _ from a1)
   have b2 := hF.cells (show _ from a2)
   have b3 := hF.cells (show _ from a3)
   clear hF HQ
   go_wp2_with fail
   go_ret
   rw [HEE.out]
   exact ⟨rfl, HF1.out⟩
  | true =>
   by_cases hk2 : L.length > 0
   ·have hk2' : (L.length : Int) > 0 := by omega
    have HEE : Hid (Ex.right (.mk 3 s n L p) deep = false) := by
     show _ = _
     have h1 : (L.length == 0) = false := by rw [beq_eq_false_iff_ne]; omega
     rw [HR.out, hn, h1]; rfl
    clear HR
    go_wp2_with fail
    go_region_held3 (fun W' => W'.cell? ⟨ad.block, ad.off + 2, none⟩ = some (.int .i64 n) ∧ W'.cell? ⟨ad.block, ad.off + 1, none⟩ = some (.string s))
     (first | go_keep | exact ⟨hF.cells a2, hF.cells a1⟩ | ((try dsimp only) <;> (repeat' apply And.intro) <;> go_keep))
     ((go_at_call 95; refine (HQ.out _ (by first | exact Fr.refl _ _ | exact (Fr.refl _ _).drew)).mono ?_; rintro e w1 ⟨rfl, hF⟩))
    have HF1 := Lib.hid (((Fr.refl [] w).drew).trans0 hF)
    have b1 := hF.cells (show _ from a1)
    have b2 := hF.cells (show _ from a2)
    have b3 := hF.cells (show _ from a3)
    clear hF HQ
    go_wp2_with fail
    go_ret
    rw [HEE.out]
    exact ⟨rfl, HF1.out⟩
   ·have hk2' : ¬ (L.length : Int) > 0 := by omega
    have HEE : Hid (Ex.right (.mk 3 s n L p) deep = Ex.rights L (deep + 1)) := by
     show _ = _
     have h1 : (L.length == 0) = true := by rw [beq_iff_eq]; omega
     rw [HR.out, hn, h1]; rfl
    clear HR
    go_wp2_with fail
    go_region_held3 (fun W' => W'.cell? ⟨ad.block, ad.off + 2, none⟩ = some (.int .i64 n) ∧ W'.cell? ⟨ad.block, ad.off + 1, none⟩ = some (.string s))
     (first | go_keep | exact ⟨hF.cells a2, hF.cells a1⟩ | ((try dsimp only) <;> (repeat' apply And.intro) <;> go_keep))
     ((go_at_call 95; refine (HQ.out _ (by first | exact Fr.refl _ _ | exact (Fr.refl _ _).drew)).mono ?_; rintro e w1 ⟨rfl, hF⟩))
    have HF1 := Lib.hid (((Fr.refl [] w).drew).trans0 hF)
    have b1 := hF.cells (show _ from a1)
    have b2 := hF.cells (show _ from a2)
    have b3 := hF.cells (show _ from a3)
    clear hF HQ
    go_wp2_with fail
    go_loopg [9, 147] L.length (fun m s9 s147 W => ∃ k : Nat, k ≤ L.length ∧ m = L.length - k ∧ s147 = .int .i64 k ∧ Hid (Fr [] w W) ∧ Hid (Ex.rights L (deep + 1) = Ex.rights (L.drop k) (deep + 1)))
    case atStart => exact ⟨0, by omega, by omega, rfl, HF1.out, rfl⟩
    case round =>
     obtain ⟨k, hk, hm, rfl, HF, HE⟩ := hrel
     have HM := Lib.hid hm
     clear hm
     by_cases hlt : k < L.length
     ·exact absurd hlt (by omega)
     ·have hlt' : ¬ (k : Int) < (L.length : Int) := by omega
      have HEF : Hid (Ex.rights L (deep + 1) = true) := by show _ = _; rw [HE.out, List.drop_eq_nil_of_le (by omega), Ex.rights]
      go_wp2_with fail
      go_ret
      rw [HEE.out, HEF.out]
      exact ⟨rfl, HF.out⟩
set_option maxHeartbeats 4000000 in
set_option maxRecDepth 100000 in
theorem right_5 (w : World) (ad : Addr) (op : Int) (s : ByteArray) (n p : Int) (q : Option Addr) (c : Nat) (f : Nat → List Value) (L : List Ex) (h : LA w q c f L) (deep : Nat) (hd : deep ≤ 200) (hs : s.size ≤ 100000000) (hLe : Least w)
  (h5 : Five w ad [.int .i64 op, .string s, .int .i64 n, .slice q L.length c, .int .i64 p]) (hop : op = 5) :
  Calls Tryd.prog 96 #[.pointer (some ad), .int .i64 deep] w fun e w' => e = .returned (.bool (Ex.right (.mk op s n L p) deep)) ∧ Fr [] w w' := by
 obtain ⟨v0, v1, v2, v3, v4, hv, a0, a1, a2, a3, a4⟩ := h5
 simp only [List.cons.injEq, and_true] at hv
 obtain ⟨rfl, rfl, rfl, rfl, rfl⟩ := hv
 have hd' : ¬ (deep : Int) > 200 := by omega
 subst hop
 have HQ : Hid (∀ W, Fr [] w W → Calls Tryd.prog 95 #[.string s] W fun e w' => e = .returned (.bool (Lex.quote s).isSome) ∧ Fr [] W w') := fun W hW => pol_quoted W s hs (hLe.fr hW (by simp))
 have HR : Hid (Ex.right (.mk 5 s n L p) deep = (((n == 0) && (Lex.quote s).isSome && (L.length == 0)) && Ex.rights L (deep + 1))) := by
  show _ = _
  rw [Ex.right, if_neg (by omega), Ex.head, if_neg (by decide), if_neg (by decide), if_pos (by decide)]
 obtain ⟨z, hz⟩ : ∃ z, (Lex.quote s).isSome = z := ⟨_, rfl⟩
 rw [hz] at HQ HR
 have hb : L.length ≤ 9223372036854775807 := by have h1 := h.hc; have h2 := h.hm; unfold maxLen at h2; omega
 clear h hz hLe hs
 go_enter Tryd.func96, Tryd.ntmps96
 cases hn : (n == 0) with
 | false =>
  have HEE : Hid (Ex.right (.mk 5 s n L p) deep = false) := by show _ = _; rw [HR.out, hn]; rfl
  clear HR
  go_wp2_with fail
  go_region_held3 (fun W' => W'.cell? ⟨ad.block, ad.off + 2, none⟩ = some (.int .i64 n) ∧ W'.cell? ⟨ad.block, ad.off + 1, none⟩ = some (.string s))
   (first | go_keep | exact ⟨hF.cells a2, hF.cells a1⟩ | ((try dsimp only) <;> (repeat' apply And.intro) <;> go_keep))
   ((go_at_call 95; refine (HQ.out _ (by first | exact Fr.refl _ _ | exact (Fr.refl _ _).drew)).mono ?_; rintro e w1 ⟨rfl, hF⟩))
  have HF1 := Lib.hid (((Fr.refl [] w).drew).trans0 hF)
  have b1 := hF.cells (show _ from a1)
  have b2 := hF.cells (show _ from a2)
  have b3 := hF.cells (show _ from a3)
  clear hF HQ
  go_wp2_with fail
  go_ret
  rw [HEE.out]
  exact ⟨rfl, HF1.out⟩
 | true =>
  cases z with
  | false =>
   have HEE : Hid (Ex.right (.mk 5 s n L p) deep = false) := by show _ = _; rw [HR.out, hn]; rfl
   clear HR
   go_wp2_with fail
   go_region_held3 (fun W' => W'.cell? ⟨ad.block, ad.off + 2, none⟩ = some (.int .i64 n) ∧ W'.cell? ⟨ad.block, ad.off + 1, none⟩ = some (.string s))
    (first | go_keep | exact ⟨hF.cells a2, hF.cells a1⟩ | ((try dsimp only) <;> (repeat' apply And.intro) <;> go_keep))
    ((go_at_call 95; refine (HQ.out _ (by first | exact Fr.refl _ _ | exact (Fr.refl _ _).drew)).mono ?_; rintro e w1 ⟨rfl, hF⟩))
   have HF1 := Lib.hid (((Fr.refl [] w).drew).trans0 hF)
   have b1 := hF.cells (show _ from a1)
   have b2 := hF.cells (show _ from a2)
   have b3 := hF.cells (show _ from a3)
   clear hF HQ
   go_wp2_with fail
   go_ret
   rw [HEE.out]
   exact ⟨rfl, HF1.out⟩
  | true =>
   by_cases hk2 : L.length > 0
   ·have hk2' : (L.length : Int) > 0 := by omega
    have HEE : Hid (Ex.right (.mk 5 s n L p) deep = false) := by
     show _ = _
     have h1 : (L.length == 0) = false := by rw [beq_eq_false_iff_ne]; omega
     rw [HR.out, hn, h1]; rfl
    clear HR
    go_wp2_with fail
    go_region_held3 (fun W' => W'.cell? ⟨ad.block, ad.off + 2, none⟩ = some (.int .i64 n) ∧ W'.cell? ⟨ad.block, ad.off + 1, none⟩ = some (.string s))
     (first | go_keep | exact ⟨hF.cells a2, hF.cells a1⟩ | ((try dsimp only) <;> (repeat' apply And.intro) <;> go_keep))
     ((go_at_call 95; refine (HQ.out _ (by first | exact Fr.refl _ _ | exact (Fr.refl _ _).drew)).mono ?_; rintro e w1 ⟨rfl, hF⟩))
    have HF1 := Lib.hid (((Fr.refl [] w).drew).trans0 hF)
    have b1 := hF.cells (show _ from a1)
    have b2 := hF.cells (show _ from a2)
    have b3 := hF.cells (show _ from a3)
    clear hF HQ
    go_wp2_with fail
    go_ret
    rw [HEE.out]
    exact ⟨rfl, HF1.out⟩
   ·have hk2' : ¬ (L.length : Int) > 0 := by omega
    have HEE : Hid (Ex.right (.mk 5 s n L p) deep = Ex.rights L (deep + 1)) := by
     show _ = _
     have h1 : (L.length == 0) = true := by rw [beq_iff_eq]; omega
     rw [HR.out, hn, h1]; rfl
    clear HR
    go_wp2_with fail
    go_region_held3 (fun W' => W'.cell? ⟨ad.block, ad.off + 2, none⟩ = some (.int .i64 n) ∧ W'.cell? ⟨ad.block, ad.off + 1, none⟩ = some (.string s))
     (first | go_keep | exact ⟨hF.cells a2, hF.cells a1⟩ | ((try dsimp only) <;> (repeat' apply And.intro) <;> go_keep))
     ((go_at_call 95; refine (HQ.out _ (by first | exact Fr.refl _ _ | exact (Fr.refl _ _).drew)).mono ?_; rintro e w1 ⟨rfl, hF⟩))
    have HF1 := Lib.hid (((Fr.refl [] w).drew).trans0 hF)
    have b1 := hF.cells (show _ from a1)
    have b2 := hF.cells (show _ from a2)
    have b3 := hF.cells (show _ from a3)
    clear hF HQ
    go_wp2_with fail
    go_loopg [9, 147] L.length (fun m s9 s147 W => ∃ k : Nat, k ≤ L.length ∧ m = L.length - k ∧ s147 = .int .i64 k ∧ Hid (Fr [] w W) ∧ Hid (Ex.rights L (deep + 1) = Ex.rights (L.drop k) (deep + 1)))
    case atStart => exact ⟨0, by omega, by omega, rfl, HF1.out, rfl⟩
    case round =>
     obtain ⟨k, hk, hm, rfl, HF, HE⟩ := hrel
     have HM := Lib.hid hm
     clear hm
     by_cases hlt : k < L.length
     ·exact absurd hlt (by omega)
     ·have hlt' : ¬ (k : Int) < (L.length : Int) := by omega
      have HEF : Hid (Ex.rights L (deep + 1) = true) := by show _ = _; rw [HE.out, List.drop_eq_nil_of_le (by omega), Ex.rights]
      go_wp2_with fail
      go_ret
      rw [HEE.out, HEF.out]
      exact ⟨rfl, HF.out⟩
end Go.Proofs.YtgklmpooonnmiaaDoor
