/-
  Lemmas and contracts that the proofs over this seat use (PolRight2); no statement of the seat is claimed in this text, and nothing is assumed in it.
-/
import Derived.Test.YtgklmpooonnmiaaDoorJ28
import Derived.Test.YtgklmpooonnmiaaDoorJ37
import Derived.Test.YtgklmpooonnmiaaDoorJ14
import Derived.Deep.RegionHeld3
import Derived.RegionTactic
import Derived.ChangeAlike
import Derived.Deep.CutRange
import Derived.Test.YtgklmpooonnmiaaDoorJ13
set_option linter.unusedVariables false
set_option linter.unusedSimpArgs false
namespace Go.Proofs.YtgklmpooonnmiaaDoor
open Go.RowKit
def Ex.head (op : Int) (s : ByteArray) (n : Int) (k : Nat) : Bool :=
 if op = 1 then (n == 0 || n == 1) && s.toList == [] && k == 0
 else if op = 2 then decide (-9007199254740991 ≤ n) && decide (n ≤ 9007199254740991) && s.toList == [] && k == 0
 else if op = 3 ∨ op = 5 then n == 0 && (Lex.quote s).isSome && k == 0
 else if op = 4 then n == 0 && ((Lex.spell 1 s 0).toList != [] && !Pol.kept s) && k == 0
 else if op = 6 then n == 0 && s.toList == [] && k == 1
 else if (7 ≤ op ∧ op ≤ 12) ∨ op = 14 then n == 0 && s.toList == [] && k == 2
 else if op = 13 then n == 0 && s.toList == [] && decide (2 ≤ k)
 else false
mutual
def Ex.right : Ex → Nat → Bool
 | .mk op s n L _, deep => if 200 < deep then false else Ex.head op s n L.length && Ex.rights L (deep + 1)
def Ex.rights : List Ex → Nat → Bool
 | [], _ => true
 | x :: r, deep => Ex.right x deep && Ex.rights r deep
end
theorem Ex.rights_drop {L : List Ex} {k : Nat} {x : Ex} {deep : Nat} (h : L[k]? = some x) : Ex.rights (L.drop k) deep = (Ex.right x deep && Ex.rights (L.drop (k + 1)) deep) := by
 obtain ⟨h1, rfl⟩ := List.getElem?_eq_some_iff.1 h
 rw [List.drop_eq_getElem_cons h1, Ex.rights]
set_option maxHeartbeats 4000000 in
set_option maxRecDepth 100000 in
theorem right_deep (w : World) (v : Value) (deep : Int) (hd : deep > 200) : Calls Tryd.prog 96 #[v, .int .i64 deep] w fun e w' => e = .returned (.bool false) ∧ Fr [] w w' := by
 go_enter Tryd.func96, Tryd.ntmps96
 go_wp2_with fail
 go_ret
 exact ⟨rfl, Fr.refl _ _⟩
set_option maxHeartbeats 4000000 in
set_option maxRecDepth 100000 in
theorem right_two (w : World) (ad : Addr) (op : Int) (s : ByteArray) (n p : Int) (q : Option Addr) (c : Nat) (f : Nat → List Value) (L : List Ex) (h : LA w q c f L) (deep : Nat) (hd : deep ≤ 200)
  (h5 : Five w ad [.int .i64 op, .string s, .int .i64 n, .slice q L.length c, .int .i64 p]) (hop : op = 7)
  (hS : ∀ (W : World) (i : Nat) (x : Ex) (ae : Addr), Fr [] w W → L[i]? = some x → Five W ae (f i) → Calls Tryd.prog 96 #[.pointer (some ae), .int .i64 ((deep : Int) + 1)] W fun e w' => e = .returned (.bool (Ex.right x (deep + 1))) ∧ Fr [] W w') :
  Calls Tryd.prog 96 #[.pointer (some ad), .int .i64 deep] w fun e w' => e = .returned (.bool (Ex.right (.mk op s n L p) deep)) ∧ Fr [] w w' := by
 obtain ⟨v0, v1, v2, v3, v4, hv, a0, a1, a2, a3, a4⟩ := h5
 simp only [List.cons.injEq, and_true] at hv
 obtain ⟨rfl, rfl, rfl, rfl, rfl⟩ := hv
 have hd' : ¬ (deep : Int) > 200 := by omega
 subst hop
 have HL := Lib.hid h
 have HS := Lib.hid hS
 have A3 := Lib.hid a3
 have hb : L.length ≤ 9223372036854775807 := by have h1 := h.hc; have h2 := h.hm; unfold maxLen at h2; omega
 clear h hS
 go_enter Tryd.func96, Tryd.ntmps96
 cases hn : (n == 0) with
 | false =>
  have HEE : Hid (Ex.right (.mk 7 s n L p) deep = false) := by show _ = _; rw [Ex.right, if_neg (by omega), Ex.head]; simp [hn]
  go_upto_region 30 with fail
  go_wp2_with fail
  go_region
  go_wp2_with fail
  go_ret
  rw [HEE.out]
  exact ⟨rfl, (Fr.refl [] w).drew⟩
 | true =>
  cases he : s.toList.isEmpty with
  | false =>
   have HEE : Hid (Ex.right (.mk 7 s n L p) deep = false) := by
    show _ = _
    rw [Ex.right, if_neg (by omega), Ex.head]
    have h1 : (s.toList == []) = false := by cases hs : s.toList with | nil => rw [hs] at he; cases he | cons _ _ => rfl
    simp [h1]
   go_upto_region 30 with fail
   go_wp2_with fail
   go_region
   go_wp2_with fail
   go_ret
   rw [HEE.out]
   exact ⟨rfl, (Fr.refl [] w).drew⟩
  | true =>
   by_cases hk1 : L.length < 2
   ·have hk1' : (L.length : Int) < 2 := by omega
    have HEE : Hid (Ex.right (.mk 7 s n L p) deep = false) := by
     show _ = _
     rw [Ex.right, if_neg (by omega), Ex.head]
     have h1 : (L.length == 2) = false := by simp; omega
     simp [h1]
    go_upto_region 30 with fail
    go_wp2_with fail
    go_region
    go_wp2_with fail
    go_ret
    rw [HEE.out]
    exact ⟨rfl, (Fr.refl [] w).drew⟩
   ·by_cases hk2 : L.length > 2
    ·have hk2' : (L.length : Int) > 2 := by omega
     have hk1' : ¬ (L.length : Int) < 2 := by omega
     have HEE : Hid (Ex.right (.mk 7 s n L p) deep = false) := by
      show _ = _
      rw [Ex.right, if_neg (by omega), Ex.head]
      have h1 : (L.length == 2) = false := by simp; omega
      simp [h1]
     go_upto_region 30 with fail
     go_wp2_with fail
     go_region
     go_wp2_with fail
     go_ret
     rw [HEE.out]
     exact ⟨rfl, (Fr.refl [] w).drew⟩
    ·have hk2' : ¬ (L.length : Int) > 2 := by omega
     have hk1' : ¬ (L.length : Int) < 2 := by omega
     have HEE : Hid (Ex.right (.mk 7 s n L p) deep = Ex.rights L (deep + 1)) := by
      show _ = _
      rw [Ex.right, if_neg (by omega), Ex.head]
      have h1 : L.length = 2 := by omega
      have h2 : s.toList = [] := by simpa using he
      have h3 : n = 0 := by simpa using hn
      simp [h1, h2, h3]
     go_upto_region 30 with fail
     go_wp2_with fail
     go_region
     go_wp2_with fail
     go_loopg [9, 147] L.length (fun m s9 s147 W => ∃ k : Nat, k ≤ L.length ∧ m = L.length - k ∧ s147 = .int .i64 k ∧ Hid (Fr [] w W) ∧ Hid (Ex.rights L (deep + 1) = Ex.rights (L.drop k) (deep + 1)))
     case atStart => exact ⟨0, by omega, by omega, rfl, (Fr.refl [] w).drew, rfl⟩
     case round =>
      obtain ⟨k, hk, hm, rfl, HF, HE⟩ := hrel
      have HM := Lib.hid hm
      clear hm
      by_cases hlt : k < L.length
      ·have hlt' : (k : Int) < (L.length : Int) := by omega
       have hk0 : (0 : Int) ≤ (k : Int) := by omega
       have b3 := HF.out.cells A3.out
       obtain ⟨x, hx⟩ : ∃ x, L[k]? = some x := ⟨_, List.getElem?_eq_getElem hlt⟩
       obtain ⟨ae, rfl, h5⟩ := (HL.out.fr HF.out).hr k x hx
       have HSD := Lib.hid (Ex.rights_drop (deep := deep + 1) hx)
       have HCL := Lib.hid (HS.out wr k x _ HF.out hx h5)
       obtain ⟨z, hz⟩ : ∃ z, Ex.right x (deep + 1) = z := ⟨_, rfl⟩
       rw [hz] at HCL HSD
       clear hx hz h5
       go_wp2_with fail
       refine HCL.out.mono ?_
       rintro e w2 ⟨rfl, hF2⟩
       have HF2 := Lib.hid (HF.out.trans0 hF2)
       clear hF2 HCL
       cases z
       ·have HEF : Hid (Ex.rights L (deep + 1) = false) := by show _ = _; rw [HE.out, HSD.out, Bool.false_and]
        go_wp2_with fail
        go_ret
        rw [HEE.out, HEF.out]
        exact ⟨rfl, HF2.out⟩
       ·have HEF : Hid (Ex.rights L (deep + 1) = Ex.rights (L.drop (k + 1)) (deep + 1)) := by show _ = _; rw [HE.out, HSD.out, Bool.true_and]
        go_wp2_with fail
        go_roundg (L.length - (k + 1))
        case measure => have := HM.out; omega
        case rel => exact ⟨k + 1, by omega, rfl, by go_num, HF2.out, HEF.out⟩
      ·have hlt' : ¬ (k : Int) < (L.length : Int) := by omega
       have HEF : Hid (Ex.rights L (deep + 1) = true) := by show _ = _; rw [HE.out, List.drop_eq_nil_of_le (by omega), Ex.rights]
       go_wp2_with fail
       go_ret
       rw [HEE.out, HEF.out]
       exact ⟨rfl, HF.out⟩
end Go.Proofs.YtgklmpooonnmiaaDoor
