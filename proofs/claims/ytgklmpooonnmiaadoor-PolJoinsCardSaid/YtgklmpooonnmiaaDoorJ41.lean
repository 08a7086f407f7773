/-
  Lemmas and contracts that the proofs over this seat use (PolRight6, PolRight7); no statement of the seat is claimed in this text, and nothing is assumed in it.
-/
import Derived.Test.YtgklmpooonnmiaaDoorJ38
set_option linter.unusedVariables false
set_option linter.unusedSimpArgs false
namespace Go.Proofs.YtgklmpooonnmiaaDoor
open Go.RowKit
set_option maxHeartbeats 4000000 in
set_option maxRecDepth 100000 in
theorem right_other (w : World) (ad : Addr) (op : Int) (s : ByteArray) (n p : Int) (q : Option Addr) (c : Nat) (f : Nat → List Value) (L : List Ex) (h : LA w q c f L) (deep : Nat) (hd : deep ≤ 200)
  (h5 : Five w ad [.int .i64 op, .string s, .int .i64 n, .slice q L.length c, .int .i64 p]) (hop : ∀ k : Int, 1 ≤ k → k ≤ 14 → op ≠ k)
  (hS : ∀ (W : World) (i : Nat) (x : Ex) (ae : Addr), Fr [] w W → L[i]? = some x → Five W ae (f i) → Calls Tryd.prog 96 #[.pointer (some ae), .int .i64 ((deep : Int) + 1)] W fun e w' => e = .returned (.bool (Ex.right x (deep + 1))) ∧ Fr [] W w') :
  Calls Tryd.prog 96 #[.pointer (some ad), .int .i64 deep] w fun e w' => e = .returned (.bool (Ex.right (.mk op s n L p) deep)) ∧ Fr [] w w' := by
 obtain ⟨v0, v1, v2, v3, v4, hv, a0, a1, a2, a3, a4⟩ := h5
 simp only [List.cons.injEq, and_true] at hv
 obtain ⟨rfl, rfl, rfl, rfl, rfl⟩ := hv
 have hd' : ¬ (deep : Int) > 200 := by omega
 have HL := Lib.hid h
 have HS := Lib.hid hS
 have A3 := Lib.hid a3
 have hb : L.length ≤ 9223372036854775807 := by have h1 := h.hc; have h2 := h.hm; unfold maxLen at h2; omega
 clear h hS
 have HO := Lib.hid hop
 have e1 : op ≠ 1 := hop 1 (by omega) (by omega)
 have e2 : op ≠ 2 := hop 2 (by omega) (by omega)
 have e3 : op ≠ 3 := hop 3 (by omega) (by omega)
 have e4 : op ≠ 4 := hop 4 (by omega) (by omega)
 have e5 : op ≠ 5 := hop 5 (by omega) (by omega)
 have e6 : op ≠ 6 := hop 6 (by omega) (by omega)
 have e7 : op ≠ 7 := hop 7 (by omega) (by omega)
 have e8 : op ≠ 8 := hop 8 (by omega) (by omega)
 have e9 : op ≠ 9 := hop 9 (by omega) (by omega)
 have e10 : op ≠ 10 := hop 10 (by omega) (by omega)
 have e11 : op ≠ 11 := hop 11 (by omega) (by omega)
 have e12 : op ≠ 12 := hop 12 (by omega) (by omega)
 have e13 : op ≠ 13 := hop 13 (by omega) (by omega)
 have e14 : op ≠ 14 := hop 14 (by omega) (by omega)
 have HEE : Hid (Ex.right (.mk op s n L p) deep = false) := by
  show _ = _
  rw [Ex.right, if_neg (by omega), Ex.head, if_neg e1, if_neg e2, if_neg (by omega), if_neg e4, if_neg e6, if_neg (by omega), if_neg e13]
  rfl
 clear hop
 go_enter Tryd.func96, Tryd.ntmps96
 go_wp2_with fail
 go_ret
 rw [HEE.out]
 exact ⟨rfl, Fr.refl [] w⟩
end Go.Proofs.YtgklmpooonnmiaaDoor

namespace Go.Proofs.YtgklmpooonnmiaaDoor
open Go.RowKit
set_option maxHeartbeats 4000000 in
set_option maxRecDepth 100000 in
theorem right_1 (w : World) (ad : Addr) (op : Int) (s : ByteArray) (n p : Int) (q : Option Addr) (c : Nat) (f : Nat → List Value) (L : List Ex) (h : LA w q c f L) (deep : Nat) (hd : deep ≤ 200)
  (h5 : Five w ad [.int .i64 op, .string s, .int .i64 n, .slice q L.length c, .int .i64 p]) (hop : op = 1)
  (hS : ∀ (W : World) (i : Nat) (x : Ex) (ae : Addr), Fr [] w W → L[i]? = some x → Five W ae (f i) → Calls Tryd.prog 96 #[.pointer (some ae), .int .i64 ((deep : Int) + 1)] W fun e w' => e = .returned (.bool (Ex.right x (deep + 1))) ∧ Fr [] W w') :
  Calls Tryd.prog 96 #[.pointer (some ad), .int .i64 deep] w fun e w' => e = .returned (.bool (Ex.right (.mk op s n L p) deep)) ∧ Fr [] w w' := by
 obtain ⟨v0, v1, v2, v3, v4, hv, a0, a1, a2, a3, a4⟩ := h5
 simp only [List.cons.injEq, and_true] at hv
 obtain ⟨rfl, rfl, rfl, rfl, rfl⟩ := hv
 have hd' : ¬ (deep : Int) > 200 := by omega
 subst hop
 have HL := Lib.hid h
 have HS := Lib.hid hS
 have A3 := Lib.hid a3
 have hb : L.length ≤ 9223372036854775807 := by have h1 := h.hc; have h2 := h.hm; unfold maxLen at h2; omega
 clear h hS
 go_enter Tryd.func96, Tryd.ntmps96
 by_cases hn0 : n = 0
 ·subst hn0
  cases he : s.toList.isEmpty with
  | false =>
   have HEE : Hid (Ex.right (.mk 1 s 0 L p) deep = false) := by
    show _ = _
    rw [Ex.right, if_neg (by omega), Ex.head]
    have h1 : (s.toList == []) = false := by cases hs : s.toList with | nil => rw [hs] at he; cases he | cons _ _ => rfl
    simp [h1]
   go_wp2_with fail
   go_ret
   rw [HEE.out]
   exact ⟨rfl, Fr.refl [] w⟩
  | true =>
   by_cases hk2 : L.length > 0
   ·have hk2' : (L.length : Int) > 0 := by omega
    have HEE : Hid (Ex.right (.mk 1 s 0 L p) deep = false) := by
     show _ = _
     rw [Ex.right, if_neg (by omega), Ex.head]
     have h1 : (L.length == 0) = false := by rw [beq_eq_false_iff_ne]; omega
     simp only [h1, Bool.and_false, if_true, Bool.false_and]
    go_wp2_with fail
    go_ret
    rw [HEE.out]
    exact ⟨rfl, Fr.refl [] w⟩
   ·have hk2' : ¬ (L.length : Int) > 0 := by omega
    have HEE : Hid (Ex.right (.mk 1 s 0 L p) deep = Ex.rights L (deep + 1)) := by
     show _ = _
     rw [Ex.right, if_neg (by omega), Ex.head]
     have h1 : L.length = 0 := by omega
     have h2 : s.toList = [] := by simpa using he
     simp [h1, h2]
    go_wp2_with fail
    go_loopg [9, 147] L.length (fun m s9 s147 W => ∃ k : Nat, k ≤ L.length ∧ m = L.length - k ∧ s147 = .int .i64 k ∧ Hid (Fr [] w W) ∧ Hid (Ex.rights L (deep + 1) = Ex.rights (L.drop k) (deep + 1)))
    case atStart => exact ⟨0, by omega, by omega, rfl, Fr.refl [] w, rfl⟩
    case round =>
     obtain ⟨k, hk, hm, rfl, HF, HE⟩ := hrel
     have HM := Lib.hid hm
     clear hm
     by_cases hlt : k < L.length
     ·exact absurd hlt (by omega)
     ·have hlt' : ¬ (k : Int) < (L.length : Int) := by omega
      have HEF : Hid (Ex.rights L (deep + 1) = true) := by show _ = _; rw [HE.out, List.drop_eq_nil_of_le (by omega), Ex.rights]
      go_wp2_with fail
      go_ret
      rw [HEE.out, HEF.out]
      exact ⟨rfl, HF.out⟩
 ·by_cases hn1 : n = 1
  ·subst hn1
   cases he : s.toList.isEmpty with
   | false =>
    have HEE : Hid (Ex.right (.mk 1 s 1 L p) deep = false) := by
     show _ = _
     rw [Ex.right, if_neg (by omega), Ex.head]
     have h1 : (s.toList == []) = false := by cases hs : s.toList with | nil => rw [hs] at he; cases he | cons _ _ => rfl
     simp [h1]
    go_wp2_with fail
    go_ret
    rw [HEE.out]
    exact ⟨rfl, Fr.refl [] w⟩
   | true =>
    by_cases hk2 : L.length > 0
    ·have hk2' : (L.length : Int) > 0 := by omega
     have HEE : Hid (Ex.right (.mk 1 s 1 L p) deep = false) := by
      show _ = _
      rw [Ex.right, if_neg (by omega), Ex.head]
      have h1 : (L.length == 0) = false := by rw [beq_eq_false_iff_ne]; omega
      simp only [h1, Bool.and_false, if_true, Bool.false_and]
     go_wp2_with fail
     go_ret
     rw [HEE.out]
     exact ⟨rfl, Fr.refl [] w⟩
    ·have hk2' : ¬ (L.length : Int) > 0 := by omega
     have HEE : Hid (Ex.right (.mk 1 s 1 L p) deep = Ex.rights L (deep + 1)) := by
      show _ = _
      rw [Ex.right, if_neg (by omega), Ex.head]
      have h1 : L.length = 0 := by omega
      have h2 : s.toList = [] := by simpa using he
      simp [h1, h2]
     go_wp2_with fail
     go_loopg [9, 147] L.length (fun m s9 s147 W => ∃ k : Nat, k ≤ L.length ∧ m = L.length - k ∧ s147 = .int .i64 k ∧ Hid (Fr [] w W) ∧ Hid (Ex.rights L (deep + 1) = Ex.rights (L.drop k) (deep + 1)))
     case atStart => exact ⟨0, by omega, by omega, rfl, Fr.refl [] w, rfl⟩
     case round =>
      obtain ⟨k, hk, hm, rfl, HF, HE⟩ := hrel
      have HM := Lib.hid hm
      clear hm
      by_cases hlt : k < L.length
      ·exact absurd hlt (by omega)
      ·have hlt' : ¬ (k : Int) < (L.length : Int) := by omega
       have HEF : Hid (Ex.rights L (deep + 1) = true) := by show _ = _; rw [HE.out, List.drop_eq_nil_of_le (by omega), Ex.rights]
       go_wp2_with fail
       go_ret
       rw [HEE.out, HEF.out]
       exact ⟨rfl, HF.out⟩
  ·have HEE : Hid (Ex.right (.mk 1 s n L p) deep = false) := by
    show _ = _
    rw [Ex.right, if_neg (by omega), Ex.head]
    simp [hn0, hn1]
   go_wp2_with fail
   go_ret
   rw [HEE.out]
   exact ⟨rfl, Fr.refl [] w⟩
end Go.Proofs.YtgklmpooonnmiaaDoor
