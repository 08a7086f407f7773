/-
  Lemmas and contracts that the proofs over this seat use (PolRight4, PolRight5); no statement of the seat is claimed in this text, and nothing is assumed in it.
-/
import Derived.Test.YtgklmpooonnmiaaDoorJ38
set_option linter.unusedVariables false
set_option linter.unusedSimpArgs false
namespace Go.Proofs.YtgklmpooonnmiaaDoor
open Go.RowKit
set_option maxHeartbeats 4000000 in
set_option maxRecDepth 100000 in
theorem right_6 (w : World) (ad : Addr) (op : Int) (s : ByteArray) (n p : Int) (q : Option Addr) (c : Nat) (f : Nat → List Value) (L : List Ex) (h : LA w q c f L) (deep : Nat) (hd : deep ≤ 200)
  (h5 : Five w ad [.int .i64 op, .string s, .int .i64 n, .slice q L.length c, .int .i64 p]) (hop : op = 6)
  (hS : ∀ (W : World) (i : Nat) (x : Ex) (ae : Addr), Fr [] w W → L[i]? = some x → Five W ae (f i) → Calls Tryd.prog 96 #[.pointer (some ae), .int .i64 ((deep : Int) + 1)] W fun e w' => e = .returned (.bool (Ex.right x (deep + 1))) ∧ Fr [] W w') :
  Calls Tryd.prog 96 #[.pointer (some ad), .int .i64 deep] w fun e w' => e = .returned (.bool (Ex.right (.mk op s n L p) deep)) ∧ Fr [] w w' := by
 obtain ⟨v0, v1, v2, v3, v4, hv, a0, a1, a2, a3, a4⟩ := h5
 simp only [List.cons.injEq, and_true] at hv
 obtain ⟨rfl, rfl, rfl, rfl, rfl⟩ := hv
 have hd' : ¬ (deep : Int) > 200 := by omega
 subst hop
 have HL := Lib.hid h
 have HS := Lib.hid hS
 have A3 := Lib.hid a3
 have hb : L.length ≤ 9223372036854775807 := by have h1 := h.hc; have h2 := h.hm; unfold maxLen at h2; omega
 clear h hS
 go_enter Tryd.func96, Tryd.ntmps96
 cases hn : (n == 0) with
 | false =>
  have HEE : Hid (Ex.right (.mk 6 s n L p) deep = false) := by show _ = _; rw [Ex.right, if_neg (by omega), Ex.head]; simp [hn]
  go_upto_region 30 with fail
  go_wp2_with fail
  go_region
  go_wp2_with fail
  go_ret
  rw [HEE.out]
  exact ⟨rfl, (Fr.refl [] w).drew⟩
 | true =>
  cases he : s.toList.isEmpty with
  | false =>
   have HEE : Hid (Ex.right (.mk 6 s n L p) deep = false) := by
    show _ = _
    rw [Ex.right, if_neg (by omega), Ex.head]
    have h1 : (s.toList == []) = false := by cases hs : s.toList with | nil => rw [hs] at he; cases he | cons _ _ => rfl
    simp [h1]
   go_upto_region 30 with fail
   go_wp2_with fail
   go_region
   go_wp2_with fail
   go_ret
   rw [HEE.out]
   exact ⟨rfl, (Fr.refl [] w).drew⟩
  | true =>
   by_cases hk1 : L.length < 1
   ·have hk1' : (L.length : Int) < 1 := by omega
    have HEE : Hid (Ex.right (.mk 6 s n L p) deep = false) := by
     show _ = _
     rw [Ex.right, if_neg (by omega), Ex.head]
     have h1 : (L.length == 1) = false := by simp; omega
     simp [h1]
    go_upto_region 30 with fail
    go_wp2_with fail
    go_region
    go_wp2_with fail
    go_ret
    rw [HEE.out]
    exact ⟨rfl, (Fr.refl [] w).drew⟩
   ·by_cases hk2 : L.length > 1
    ·have hk2' : (L.length : Int) > 1 := by omega
     have hk1' : ¬ (L.length : Int) < 1 := by omega
     have HEE : Hid (Ex.right (.mk 6 s n L p) deep = false) := by
      show _ = _
      rw [Ex.right, if_neg (by omega), Ex.head]
      have h1 : (L.length == 1) = false := by simp; omega
      simp [h1]
     go_upto_region 30 with fail
     go_wp2_with fail
     go_region
     go_wp2_with fail
     go_ret
     rw [HEE.out]
     exact ⟨rfl, (Fr.refl [] w).drew⟩
    ·have hk2' : ¬ (L.length : Int) > 1 := by omega
     have hk1' : ¬ (L.length : Int) < 1 := by omega
     have HEE : Hid (Ex.right (.mk 6 s n L p) deep = Ex.rights L (deep + 1)) := by
      show _ = _
      rw [Ex.right, if_neg (by omega), Ex.head]
      have h1 : L.length = 1 := by omega
      have h2 : s.toList = [] := by simpa using he
      have h3 : n = 0 := by simpa using hn
      simp [h1, h2, h3]
     go_upto_region 30 with fail
     go_wp2_with fail
     go_region
     go_wp2_with fail
     go_loopg [9, 147] L.length (fun m s9 s147 W => ∃ k : Nat, k ≤ L.length ∧ m = L.length - k ∧ s147 = .int .i64 k ∧ Hid (Fr [] w W) ∧ Hid (Ex.rights L (deep + 1) = Ex.rights (L.drop k) (deep + 1)))
     case atStart => exact ⟨0, by omega, by omega, rfl, (Fr.refl [] w).drew, rfl⟩
     case round =>
      obtain ⟨k, hk, hm, rfl, HF, HE⟩ := hrel
      have HM := Lib.hid hm
      clear hm
      by_cases hlt : k < L.length
      ·have hlt' : (k : Int) < (L.length : Int) := by omega
       have hk0 : (0 : Int) ≤ (k : Int) := by omega
       have b3 := HF.out.cells A3.out
       obtain ⟨x, hx⟩ : ∃ x, L[k]? = some x := ⟨_, List.getElem?_eq_getElem hlt⟩
       obtain ⟨ae, rfl, h5⟩ := (HL.out.fr HF.out).hr k x hx
       have HSD := Lib.hid (Ex.rights_drop (deep := deep + 1) hx)
       have HCL := Lib.hid (HS.out wr k x _ HF.out hx h5)
       obtain ⟨z, hz⟩ : ∃ z, Ex.right x (deep + 1) = z := ⟨_, rfl⟩
       rw [hz] at HCL HSD
       clear hx hz h5
       go_wp2_with fail
       refine HCL.out.mono ?_
       rintro e w2 ⟨rfl, hF2⟩
       have HF2 := Lib.hid (HF.out.trans0 hF2)
       clear hF2 HCL
       cases z
       ·have HEF : Hid (Ex.rights L (deep + 1) = false) := by show _ = _; rw [HE.out, HSD.out, Bool.false_and]
        go_wp2_with fail
        go_ret
        rw [HEE.out, HEF.out]
        exact ⟨rfl, HF2.out⟩
       ·have HEF : Hid (Ex.rights L (deep + 1) = Ex.rights (L.drop (k + 1)) (deep + 1)) := by show _ = _; rw [HE.out, HSD.out, Bool.true_and]
        go_wp2_with fail
        go_roundg (L.length - (k + 1))
        case measure => have := HM.out; omega
        case rel => exact ⟨k + 1, by omega, rfl, by go_num, HF2.out, HEF.out⟩
      ·have hlt' : ¬ (k : Int) < (L.length : Int) := by omega
       have HEF : Hid (Ex.rights L (deep + 1) = true) := by show _ = _; rw [HE.out, List.drop_eq_nil_of_le (by omega), Ex.rights]
       go_wp2_with fail
       go_ret
       rw [HEE.out, HEF.out]
       exact ⟨rfl, HF.out⟩
end Go.Proofs.YtgklmpooonnmiaaDoor

namespace Go.Proofs.YtgklmpooonnmiaaDoor
open Go.RowKit
set_option maxHeartbeats 4000000 in
set_option maxRecDepth 100000 in
theorem right_13 (w : World) (ad : Addr) (op : Int) (s : ByteArray) (n p : Int) (q : Option Addr) (c : Nat) (f : Nat → List Value) (L : List Ex) (h : LA w q c f L) (deep : Nat) (hd : deep ≤ 200)
  (h5 : Five w ad [.int .i64 op, .string s, .int .i64 n, .slice q L.length c, .int .i64 p]) (hop : op = 13)
  (hS : ∀ (W : World) (i : Nat) (x : Ex) (ae : Addr), Fr [] w W → L[i]? = some x → Five W ae (f i) → Calls Tryd.prog 96 #[.pointer (some ae), .int .i64 ((deep : Int) + 1)] W fun e w' => e = .returned (.bool (Ex.right x (deep + 1))) ∧ Fr [] W w') :
  Calls Tryd.prog 96 #[.pointer (some ad), .int .i64 deep] w fun e w' => e = .returned (.bool (Ex.right (.mk op s n L p) deep)) ∧ Fr [] w w' := by
 obtain ⟨v0, v1, v2, v3, v4, hv, a0, a1, a2, a3, a4⟩ := h5
 simp only [List.cons.injEq, and_true] at hv
 obtain ⟨rfl, rfl, rfl, rfl, rfl⟩ := hv
 have hd' : ¬ (deep : Int) > 200 := by omega
 subst hop
 have HL := Lib.hid h
 have HS := Lib.hid hS
 have A3 := Lib.hid a3
 have hb : L.length ≤ 9223372036854775807 := by have h1 := h.hc; have h2 := h.hm; unfold maxLen at h2; omega
 clear h hS
 go_enter Tryd.func96, Tryd.ntmps96
 by_cases hz : L.length > 0
 ·have hz' : (L.length : Int) > 0 := by omega
  cases hn : (n == 0) with
  | false =>
   have HEE : Hid (Ex.right (.mk 13 s n L p) deep = false) := by show _ = _; rw [Ex.right, if_neg (by omega), Ex.head]; simp [hn]
   go_upto_region 29 with fail
   go_region
   go_upto_region 30 with fail
   go_wp2_with fail
   go_region
   go_wp2_with fail
   go_ret
   rw [HEE.out]
   exact ⟨rfl, (Fr.refl [] w).drew.drew⟩
  | true =>
   cases he : s.toList.isEmpty with
   | false =>
    have HEE : Hid (Ex.right (.mk 13 s n L p) deep = false) := by
     show _ = _
     rw [Ex.right, if_neg (by omega), Ex.head]
     have h1 : (s.toList == []) = false := by cases hs : s.toList with | nil => rw [hs] at he; cases he | cons _ _ => rfl
     simp [h1]
    go_upto_region 29 with fail
    go_region
    go_upto_region 30 with fail
    go_wp2_with fail
    go_region
    go_wp2_with fail
    go_ret
    rw [HEE.out]
    exact ⟨rfl, (Fr.refl [] w).drew.drew⟩
   | true =>
    have hk2' : ¬ (L.length : Int) > (L.length : Int) := by omega
    by_cases hk1 : L.length < 2
    ·have hk1' : (L.length : Int) < 2 := by omega
     have HEE : Hid (Ex.right (.mk 13 s n L p) deep = false) := by
      show _ = _
      rw [Ex.right, if_neg (by omega), Ex.head]
      have h1 : decide (2 ≤ L.length) = false := by simp; omega
      simp [h1]
     go_upto_region 29 with fail
     go_region
     go_upto_region 30 with fail
     go_wp2_with fail
     go_region
     go_wp2_with fail
     go_ret
     rw [HEE.out]
     exact ⟨rfl, (Fr.refl [] w).drew.drew⟩
    ·have hk1' : ¬ (L.length : Int) < 2 := by omega
     have HEE : Hid (Ex.right (.mk 13 s n L p) deep = Ex.rights L (deep + 1)) := by
      show _ = _
      rw [Ex.right, if_neg (by omega), Ex.head]
      have h1 : decide (2 ≤ L.length) = true := by simp; omega
      have h2 : s.toList = [] := by simpa using he
      have h3 : n = 0 := by simpa using hn
      simp [h1, h2, h3]
     go_upto_region 29 with fail
     go_region
     go_upto_region 30 with fail
     go_wp2_with fail
     go_region
     go_wp2_with fail
     go_loopg [9, 147] L.length (fun m s9 s147 W => ∃ k : Nat, k ≤ L.length ∧ m = L.length - k ∧ s147 = .int .i64 k ∧ Hid (Fr [] w W) ∧ Hid (Ex.rights L (deep + 1) = Ex.rights (L.drop k) (deep + 1)))
     case atStart => exact ⟨0, by omega, by omega, rfl, (Fr.refl [] w).drew.drew, rfl⟩
     case round =>
      obtain ⟨k, hk, hm, rfl, HF, HE⟩ := hrel
      have HM := Lib.hid hm
      clear hm
      by_cases hlt : k < L.length
      ·have hlt' : (k : Int) < (L.length : Int) := by omega
       have hk0 : (0 : Int) ≤ (k : Int) := by omega
       have b3 := HF.out.cells A3.out
       obtain ⟨x, hx⟩ : ∃ x, L[k]? = some x := ⟨_, List.getElem?_eq_getElem hlt⟩
       obtain ⟨ae, rfl, h5⟩ := (HL.out.fr HF.out).hr k x hx
       have HSD := Lib.hid (Ex.rights_drop (deep := deep + 1) hx)
       have HCL := Lib.hid (HS.out wr k x _ HF.out hx h5)
       obtain ⟨z, hz⟩ : ∃ z, Ex.right x (deep + 1) = z := ⟨_, rfl⟩
       rw [hz] at HCL HSD
       clear hx hz h5
       go_wp2_with fail
       refine HCL.out.mono ?_
       rintro e w2 ⟨rfl, hF2⟩
       have HF2 := Lib.hid (HF.out.trans0 hF2)
       clear hF2 HCL
       cases z
       ·have HEF : Hid (Ex.rights L (deep + 1) = false) := by show _ = _; rw [HE.out, HSD.out, Bool.false_and]
        go_wp2_with fail
        go_ret
        rw [HEE.out, HEF.out]
        exact ⟨rfl, HF2.out⟩
       ·have HEF : Hid (Ex.rights L (deep + 1) = Ex.rights (L.drop (k + 1)) (deep + 1)) := by show _ = _; rw [HE.out, HSD.out, Bool.true_and]
        go_wp2_with fail
        go_roundg (L.length - (k + 1))
        case measure => have := HM.out; omega
        case rel => exact ⟨k + 1, by omega, rfl, by go_num, HF2.out, HEF.out⟩
      ·have hlt' : ¬ (k : Int) < (L.length : Int) := by omega
       have HEF : Hid (Ex.rights L (deep + 1) = true) := by show _ = _; rw [HE.out, List.drop_eq_nil_of_le (by omega), Ex.rights]
       go_wp2_with fail
       go_ret
       rw [HEE.out, HEF.out]
       exact ⟨rfl, HF.out⟩
 ·have hz' : ¬ (L.length : Int) > 0 := by omega
  have HEE : Hid (Ex.right (.mk 13 s n L p) deep = false) := by
   show _ = _
   rw [Ex.right, if_neg (by omega), Ex.head]
   have h1 : decide (2 ≤ L.length) = false := by simp; omega
   simp [h1]
  go_upto_region 29 with fail
  go_region
  go_wp2_with fail
  go_ret
  rw [HEE.out]
  exact ⟨rfl, (Fr.refl [] w).drew⟩
end Go.Proofs.YtgklmpooonnmiaaDoor
