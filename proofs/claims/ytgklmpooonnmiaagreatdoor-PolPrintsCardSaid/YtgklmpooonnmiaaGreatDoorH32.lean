/-
  Lemmas and contracts that the proofs over this seat use (PolGreat, PolBound, ErrAs); no statement of the seat is claimed in this text, and nothing is assumed in it.
-/
import Derived.Test.YtgklmpooonnmiaaGreatDoorH14
import Derived.Test.YtgklmpooonnmiaaGreatDoorH17
import Derived.Test.YtgklmpooonnmiaaGreatDoorH2
import Derived.LaidEql
import Derived.Stop.Asserts
import Derived.RowKitTokens
set_option linter.unusedVariables false
set_option linter.unusedSimpArgs false
namespace Go.Proofs.YtgklmpooonnmiaaGreatDoor
open Go.RowKit
mutual
def Ex.muchE : Ex → Int → Nat → Int
 | .mk _ s _ L _, left, deep => if 3000 < s.size then -1 else if 250 < deep + 1 then -1 else Ex.muchL L (left - 1 - min (s.size : Int) 5000 / 100) (deep + 1)
def Ex.muchL : List Ex → Int → Nat → Int
 | [], left, _ => left
 | x :: r, left, deep => if 0 ≤ left then Ex.muchL r (Ex.muchE x left deep) deep else left
end
theorem Ex.muchL_low (L : List Ex) (left : Int) (deep : Nat) (h : left < 0) : Ex.muchL L left deep = left := by
 cases L with
 | nil => rfl
 | cons x r => rw [Ex.muchL, if_neg (by omega)]
mutual
theorem Ex.muchE_bd : ∀ (x : Ex) (left : Int) (deep : Nat), 0 ≤ left → left ≤ 1500 → -100 ≤ Ex.muchE x left deep ∧ Ex.muchE x left deep ≤ 1500
 | .mk _ s _ L _, left, deep, h0, h1 => by
  rw [Ex.muchE]
  split
  ·omega
  ·split
   ·omega
   ·have h2 : 0 ≤ min (s.size : Int) 5000 / 100 ∧ min (s.size : Int) 5000 / 100 ≤ 50 := by omega
    exact Ex.muchL_bd L _ _ (by omega) (by omega)
theorem Ex.muchL_bd : ∀ (L : List Ex) (left : Int) (deep : Nat), -100 ≤ left → left ≤ 1500 → -100 ≤ Ex.muchL L left deep ∧ Ex.muchL L left deep ≤ 1500
 | [], left, deep, h0, h1 => by rw [Ex.muchL]; omega
 | x :: r, left, deep, h0, h1 => by
  rw [Ex.muchL]
  split
  ·have h2 := Ex.muchE_bd x left deep (by omega) h1
   exact Ex.muchL_bd r _ _ h2.1 h2.2
  ·omega
end
theorem Ex.muchL_drop {L : List Ex} {k : Nat} {x : Ex} (hx : L[k]? = some x) (left : Int) (deep : Nat) (h : 0 ≤ left) : Ex.muchL (L.drop k) left deep = Ex.muchL (L.drop (k + 1)) (Ex.muchE x left deep) deep := by
 obtain ⟨h1, rfl⟩ := List.getElem?_eq_some_iff.1 hx
 rw [List.drop_eq_getElem_cons h1, Ex.muchL, if_pos h]
set_option maxHeartbeats 4000000 in
set_option maxRecDepth 100000 in
theorem much_step (w : World) (q : Option Addr) (c : Nat) (f : Nat → List Value) (L : List Ex) (h : LA w q c f L) (left : Int) (deep : Nat) (h0 : -100 ≤ left) (h1 : left ≤ 1500) (hd : deep ≤ 250)
  (hS : ∀ (i : Nat) (op : Int) (s : ByteArray) (n : Int) (M : List Ex) (p : Int) (q' : Option Addr) (c' : Nat) (lf : Int), L[i]? = some (.mk op s n M p) → f i = [.int .i64 op, .string s, .int .i64 n, .slice q' M.length c', .int .i64 p] → -100 ≤ lf → lf ≤ 1500 →
   Calls Tryz.prog 26 #[.slice q' M.length c', .int .i64 lf, .int .i64 ((deep : Int) + 1)] w fun e w' => e = .returned (.int .i64 (if 250 < deep + 1 then -1 else Ex.muchL M lf (deep + 1))) ∧ w = w') :
  Calls Tryz.prog 26 #[.slice q L.length c, .int .i64 left, .int .i64 (deep : Int)] w fun e w' => e = .returned (.int .i64 (Ex.muchL L left deep)) ∧ w = w' := by
 have HL := Lib.hid h
 have HS := Lib.hid hS
 have hb : L.length ≤ 9223372036854775807 := by have h1 := h.hc; have h2 := h.hm; unfold maxLen at h2; omega
 have hd' : ¬ (deep : Int) > 250 := by omega
 clear h hS
 go_enter Tryz.func26, Tryz.ntmps26
 go_wp2_with fail
 go_loopg [1, 7] L.length (fun m s1 s7 W => ∃ (k : Nat) (lf : Int), k ≤ L.length ∧ m = L.length - k ∧ s1 = .int .i64 lf ∧ s7 = .int .i64 k ∧ -100 ≤ lf ∧ lf ≤ 1500 ∧ w = W ∧ Hid (Ex.muchL L left deep = Ex.muchL (L.drop k) lf deep))
 case atStart => exact ⟨0, left, by omega, by omega, rfl, rfl, h0, h1, rfl, rfl⟩
 case round =>
  obtain ⟨k, lf, hk, hm, rfl, rfl, hl0, hl1, rfl, HE⟩ := hrel
  have HM := Lib.hid hm
  clear hm
  by_cases hlt : k < L.length
  ·have hlt' : (k : Int) < (L.length : Int) := by omega
   have hk0 : (0 : Int) ≤ (k : Int) := by omega
   by_cases hp : 0 ≤ lf
   ·have hp' : lf ≥ 0 := hp
    obtain ⟨x, hx⟩ : ∃ x, L[k]? = some x := ⟨_, List.getElem?_eq_getElem hlt⟩
    obtain ⟨ad, rfl, h5⟩ := HL.out.hr k x hx
    have hRA := HL.out.hx k x hx
    have HD := Lib.hid (Ex.muchL_drop hx lf deep hp)
    obtain ⟨fk, hfk⟩ : ∃ fk, f k = fk := ⟨_, rfl⟩
    rw [hfk] at hRA h5
    cases hRA with
    | mk op s n M p q' c' g hc hm hr hx2 =>
     obtain ⟨v0, v1, v2, v3, v4, hf0, a0, a1, a2, a3, a4⟩ := h5
     simp only [List.cons.injEq, and_true] at hf0
     obtain ⟨rfl, rfl, rfl, rfl, rfl⟩ := hf0
     have hcst : 0 ≤ min (s.size : Int) 5000 / 100 ∧ min (s.size : Int) 5000 / 100 ≤ 50 := by omega
     have HCL := Lib.hid (HS.out k op s n M p q' c' (lf - 1 - min (s.size : Int) 5000 / 100) hx hfk (by omega) (by omega))
     have HME : Hid (Ex.muchE (.mk op s n M p) lf deep = if 3000 < s.size then -1 else if 250 < deep + 1 then -1 else Ex.muchL M (lf - 1 - min (s.size : Int) 5000 / 100) (deep + 1)) := by show _ = _; rw [Ex.muchE]
     clear hc hm hr hx2 hx hfk
     by_cases h3 : 3000 < s.size
     ·have h3' : (s.size : Int) > 3000 := by omega
      have HEE : Hid (Ex.muchL L left deep = -1) := by show _ = _; rw [HE.out, HD.out, HME.out, if_pos h3, Ex.muchL_low _ _ _ (by omega)]
      go_wp2_with fail
      go_ret
      rw [HEE.out]
      exact ⟨rfl, rfl⟩
     ·have h3' : ¬ (s.size : Int) > 3000 := by omega
      have hmb := Ex.muchE_bd (.mk op s n M p) lf deep hp hl1
      have HME2 : Hid (Ex.muchE (.mk op s n M p) lf deep = if 250 < deep + 1 then -1 else Ex.muchL M (lf - 1 - min (s.size : Int) 5000 / 100) (deep + 1)) := by show _ = _; rw [HME.out, if_neg h3]
      rw [← HME2.out] at HCL
      obtain ⟨y, hy⟩ : ∃ y, Ex.muchE (.mk op s n M p) lf deep = y := ⟨_, rfl⟩
      rw [hy] at HCL HD hmb
      clear hy HME HME2
      go_wp2_with fail
      refine HCL.out.mono ?_
      rintro e w2 ⟨rfl, rfl⟩
      go_wp2_with fail
      go_roundg (L.length - (k + 1))
      case measure => have := HM.out; omega
      case rel => exact ⟨k + 1, y, by omega, rfl, rfl, by go_num, hmb.1, hmb.2, rfl, HE.out.trans HD.out⟩
   ·have hp' : ¬ lf ≥ 0 := hp
    have HEE : Hid (Ex.muchL L left deep = lf) := by show _ = _; rw [HE.out, Ex.muchL_low _ _ _ (by omega)]
    go_wp2_with fail
    go_ret
    rw [HEE.out]
    exact ⟨rfl, rfl⟩
  ·have hlt' : ¬ (k : Int) < (L.length : Int) := by omega
   have HEE : Hid (Ex.muchL L left deep = lf) := by show _ = _; rw [HE.out, List.drop_eq_nil_of_le (by omega), Ex.muchL]
   go_wp2_with fail
   go_ret
   rw [HEE.out]
   exact ⟨rfl, rfl⟩
set_option maxHeartbeats 4000000 in
theorem much_deep (w : World) (q : Option Addr) (n c : Nat) (left deep : Int) (hd : deep > 250) :
  Calls Tryz.prog 26 #[.slice q n c, .int .i64 left, .int .i64 deep] w fun e w' => e = .returned (.int .i64 (-1)) ∧ w = w' := by
 go_enter Tryz.func26, Tryz.ntmps26
 go_wp2_with fail
 go_ret
 exact ⟨rfl, rfl⟩
theorem much_of {w : World} {cs : List Value} {x : Ex} (h : RepA w cs x) : ∀ (op : Int) (s : ByteArray) (n : Int) (M : List Ex) (p : Int) (q : Option Addr) (c : Nat) (lf : Int) (deep : Nat), x = .mk op s n M p → cs = [.int .i64 op, .string s, .int .i64 n, .slice q M.length c, .int .i64 p] → -100 ≤ lf → lf ≤ 1500 → deep ≤ 250 →
  Calls Tryz.prog 26 #[.slice q M.length c, .int .i64 lf, .int .i64 ((deep : Int) + 1)] w fun e w' => e = .returned (.int .i64 (if 250 < deep + 1 then -1 else Ex.muchL M lf (deep + 1))) ∧ w = w' := by
 induction h with
 | mk op s n L p q c f hc hm hr hx ih =>
  intro op' s' n' M p' q' c' lf deep hx0 hcs h0 h1 hd
  cases hx0
  simp only [List.cons.injEq, and_true, Value.slice.injEq, true_and] at hcs
  obtain ⟨rfl, rfl⟩ := hcs
  by_cases h2 : 250 < deep + 1
  ·rw [if_pos h2]
   exact much_deep w q L.length c lf _ (by omega)
  ·rw [if_neg h2]
   have h9 := much_step w q c f L ⟨hc, hm, hr, hx⟩ lf (deep + 1) h0 h1 (by omega) (fun i op s n M p q' c' lf' hi hf h3 h4 => by
    have := ih i _ hi op s n M p q' c' lf' (deep + 1) rfl hf h3 h4 (by omega)
    exact this)
   rw [show ((deep + 1 : Nat) : Int) = (deep : Int) + 1 by omega] at h9
   exact h9
theorem ref_much (w : World) (q : Option Addr) (c : Nat) (f : Nat → List Value) (L : List Ex) (h : LA w q c f L) (left : Int) (h0 : -100 ≤ left) (h1 : left ≤ 1500) :
  Calls Tryz.prog 26 #[.slice q L.length c, .int .i64 left, .int .i64 1] w fun e w' => e = .returned (.int .i64 (Ex.muchL L left 1)) ∧ w = w' :=
 much_step w q c f L h left 1 h0 h1 (by omega) (fun i op s n M p q' c' lf hi hf h3 h4 => much_of (h.hx i _ hi) op s n M p q' c' lf 1 rfl hf h3 h4 (by omega))
def Ru.greatL : List Ru → Int → Bool
 | [], _ => false
 | u :: r, left => if 40 < u.scopes.length then true else if u.scopes.any (fun s => decide (1000 < s.size)) = true then true else if Ex.muchL u.when_ left 1 < 0 then true else Ru.greatL r (Ex.muchL u.when_ left 1)
def Ru.great (L : List Ru) : Bool := if 40 < L.length then true else Ru.greatL L 1500
theorem Ru.greatL_drop {L : List Ru} {k : Nat} {u : Ru} (hx : L[k]? = some u) (left : Int) : Ru.greatL (L.drop k) left = if 40 < u.scopes.length then true else if u.scopes.any (fun s => decide (1000 < s.size)) = true then true else if Ex.muchL u.when_ left 1 < 0 then true else Ru.greatL (L.drop (k + 1)) (Ex.muchL u.when_ left 1) := by
 obtain ⟨h1, rfl⟩ := List.getElem?_eq_some_iff.1 hx
 rw [List.drop_eq_getElem_cons h1, Ru.greatL]
set_option maxHeartbeats 8000000 in
set_option maxRecDepth 100000 in
theorem ref_Great (w : World) (q : Option Addr) (c : Nat) (f : Nat → List Value) (L : List Ru) (h : RsA w q c f L) :
  Calls Tryz.prog 11 #[.slice q L.length c] w fun e w' => e = .returned (.bool (Ru.great L)) ∧ w = w' := by
 have HL := Lib.hid h
 have hb : L.length ≤ 9223372036854775807 := by have h1 := h.hc; have h2 := h.hm; unfold maxLen at h2; omega
 clear h
 by_cases h40 : 40 < L.length
 ·have h40' : (L.length : Int) > 40 := by omega
  have HG : Hid (Ru.great L = true) := by show _ = _; unfold Ru.great; rw [if_pos h40]
  clear h40
  go_enter Tryz.func11, Tryz.ntmps11
  go_wp2_with fail
  go_ret
  rw [HG.out]
  exact ⟨rfl, rfl⟩
 have h40' : ¬ (L.length : Int) > 40 := by omega
 have HG : Hid (Ru.great L = Ru.greatL L 1500) := by show _ = _; unfold Ru.great; rw [if_neg h40]
 clear h40
 go_enter Tryz.func11, Tryz.ntmps11
 go_wp2_with fail
 go_loopg [3, 4] L.length (fun m s3 s4 W => ∃ (k : Nat) (lf : Int), k ≤ L.length ∧ m = L.length - k ∧ s3 = .int .i64 lf ∧ s4 = .int .i64 k ∧ 0 ≤ lf ∧ lf ≤ 1500 ∧ w = W ∧ Hid (Ru.great L = Ru.greatL (L.drop k) lf))
 case atStart => exact ⟨0, 1500, by omega, by omega, rfl, rfl, by omega, by omega, rfl, HG.out⟩
 case round =>
  clear HG
  obtain ⟨k, lf, hk, hm, rfl, rfl, hl0, hl1, rfl, HE⟩ := hrel
  have HM := Lib.hid hm
  clear hm
  by_cases hlt : k < L.length
  ·have hlt' : (k : Int) < (L.length : Int) := by omega
   have hk0 : (0 : Int) ≤ (k : Int) := by omega
   obtain ⟨u, hx⟩ : ∃ x, L[k]? = some x := ⟨_, List.getElem?_eq_getElem hlt⟩
   obtain ⟨ad, rfl, h5⟩ := HL.out.hr k u hx
   obtain ⟨q1, c1, q2, c2, g, hA⟩ := HL.out.hx k u hx
   obtain ⟨v0, v1, v2, v3, hf0, a0, a1, a2, a3⟩ := h5
   have hf2 := hA.e
   rw [hf0] at hf2
   simp only [List.cons.injEq, and_true] at hf2
   obtain ⟨rfl, rfl, rfl, rfl⟩ := hf2
   have HS := Lib.hid hA.s
   have HD := Lib.hid (Ru.greatL_drop hx lf)
   have HMU := Lib.hid (ref_much w q2 c2 g u.when_ hA.l lf (by omega) hl1)
   have hmb := Ex.muchL_bd u.when_ lf 1 (by omega) hl1
   obtain ⟨ud, us, uw, up⟩ := u
   have hs1 : us.length ≤ 9223372036854775807 := by have h1 := HS.out.hc; have h2 := HS.out.hm; unfold maxLen at h2; simp only [] at h1; omega
   clear hf0 hx hA
   dsimp only at a0 a1 a2 a3 HS HD HMU hmb
   by_cases hs4 : 40 < us.length
   ·have hs4' : (us.length : Int) > 40 := by omega
    have HEE : Hid (Ru.great L = true) := by show _ = _; rw [HE.out, HD.out, if_pos hs4]
    go_wp2_with fail
    go_ret
    rw [HEE.out]
    exact ⟨rfl, rfl⟩
   ·have hs4' : ¬ (us.length : Int) > 40 := by omega
    have HD2 : Hid (Ru.great L = if us.any (fun s => decide (1000 < s.size)) = true then true else if Ex.muchL uw lf 1 < 0 then true else Ru.greatL (L.drop (k + 1)) (Ex.muchL uw lf 1)) := by show _ = _; rw [HE.out, HD.out, if_neg hs4]
    clear HE HD
    obtain ⟨y, hy⟩ : ∃ y, Ex.muchL uw lf 1 = y := ⟨_, rfl⟩
    rw [hy] at HD2 HMU hmb
    clear hy
    go_wp2_with fail
    go_loopg [5] us.length (fun m s5 W => ∃ (j : Nat), j ≤ us.length ∧ m = us.length - j ∧ s5 = .int .i64 j ∧ w = W ∧ Hid (∀ i, i < j → ∀ s, us[i]? = some s → ¬ 1000 < s.size))
    case atStart => exact ⟨0, by omega, by omega, rfl, rfl, fun i hi => by omega⟩
    case round =>
     obtain ⟨j, hj, hm, rfl, rfl, HN⟩ := hrel
     have HMJ := Lib.hid hm
     clear hm
     by_cases hjl : j < us.length
     ·have hjl' : (j : Int) < (us.length : Int) := by omega
      have hj0 : (0 : Int) ≤ (j : Int) := by omega
      obtain ⟨s, hs⟩ : ∃ s, us[j]? = some s := ⟨_, List.getElem?_eq_getElem hjl⟩
      obtain ⟨sb, so, rfl, sc⟩ := HS.out.hr j s hs
      by_cases hs3 : 1000 < s.size
      ·have hs3' : (s.size : Int) > 1000 := by omega
       have HEE : Hid (Ru.great L = true) := by
        show _ = _
        rw [HD2.out, if_pos]
        rw [List.any_eq_true]
        exact ⟨s, List.mem_of_getElem? hs, by simpa using hs3⟩
       clear hs
       go_wp2_with fail
       go_ret
       rw [HEE.out]
       exact ⟨rfl, rfl⟩
      ·have hs3' : ¬ (s.size : Int) > 1000 := by omega
       have HN2 : Hid (∀ i, i < j + 1 → ∀ s, us[i]? = some s → ¬ 1000 < s.size) := fun i hi t ht => by
        by_cases h : i < j
        ·exact HN.out i h t ht
        ·obtain rfl : i = j := by omega
         rw [hs] at ht
         cases ht
         exact hs3
       clear hs
       go_wp2_with fail
       go_roundg (us.length - (j + 1))
       case measure => have := HMJ.out; omega
       case rel => exact ⟨j + 1, by omega, rfl, by go_num, rfl, HN2.out⟩
     ·have hjn : ¬ (j : Int) < (us.length : Int) := by omega
      have HD3 : Hid (Ru.great L = if y < 0 then true else Ru.greatL (L.drop (k + 1)) y) := by
       show _ = _
       rw [HD2.out, if_neg]
       intro h
       rw [List.any_eq_true] at h
       obtain ⟨s, hs, h9⟩ := h
       obtain ⟨i, hi, rfl⟩ := List.mem_iff_getElem.1 hs
       exact HN.out i (by omega) _ (List.getElem?_eq_getElem hi) (by simpa using h9)
      by_cases hy0 : y < 0
      ·have HEE : Hid (Ru.great L = true) := by show _ = _; rw [HD3.out, if_pos hy0]
       go_wp2_with fail
       refine HMU.out.mono ?_
       rintro e w2 ⟨rfl, rfl⟩
       go_wp2_with fail
       go_ret
       rw [HEE.out]
       exact ⟨rfl, rfl⟩
      ·have HEE : Hid (Ru.great L = Ru.greatL (L.drop (k + 1)) y) := by show _ = _; rw [HD3.out, if_neg hy0]
       have hy1 : 0 ≤ y := by omega
       go_wp2_with fail
       refine HMU.out.mono ?_
       rintro e w2 ⟨rfl, rfl⟩
       go_wp2_with fail
       go_roundg (L.length - (k + 1))
       case measure => have := HM.out; omega
       case rel => exact ⟨k + 1, y, by omega, rfl, rfl, by go_num, hy1, hmb.2, rfl, HEE.out⟩
  ·have hlt' : ¬ (k : Int) < (L.length : Int) := by omega
   have HEE : Hid (Ru.great L = false) := by show _ = _; rw [HE.out, List.drop_eq_nil_of_le (by omega), Ru.greatL]
   go_wp2_with fail
   go_ret
   rw [HEE.out]
   exact ⟨rfl, rfl⟩
end Go.Proofs.YtgklmpooonnmiaaGreatDoor

namespace Go.Proofs.YtgklmpooonnmiaaGreatDoor
open Go.RowKit
mutual
def Ex.wt : Ex → Nat
 | .mk _ s _ L _ => 2 * s.size + 40 + Ex.wts L
def Ex.wts : List Ex → Nat
 | [] => 0
 | x :: r => Ex.wt x + Ex.wts r
end
theorem digs_le (v : Nat) : ∀ k, v < 10 ^ (k + 1) → (Dec.digs v).length ≤ k + 1 := by
 intro k
 induction k generalizing v with
 | zero => intro h; rw [Dec.digs, if_pos (by simpa using h)]; simp
 | succ k ih =>
  intro h
  rw [Dec.digs]
  split
  ·simp
  ·have := ih (v / 10) (by rw [Nat.div_lt_iff_lt_mul (by decide)]; rw [← Nat.pow_succ]; exact h)
   simp only [List.length_append, List.length_cons, List.length_nil]
   omega
theorem print_le {n : Int} (h1 : -9007199254740991 ≤ n) (h2 : n ≤ 9007199254740991) : (Dec.print n).length ≤ 20 := by
 have h := digs_le n.natAbs 15 (by omega)
 unfold Dec.print
 split
 ·simp only [List.length_cons]; omega
 ·omega
theorem qt_le (s : ByteArray) : (qt s).size ≤ 2 * s.size + 2 := by
 unfold qt Lex.quote
 split
 ·rw [ba_size]
  have := Lex.esc_length (nats s)
  rw [nats_length] at this
  simp only [Option.getD_some, List.length_cons, List.length_append, List.length_nil]
  omega
 ·rw [ba_size]; simp
theorem leaf_le {op : Int} {s : ByteArray} {n : Int} (h : op = 2 → -9007199254740991 ≤ n ∧ n ≤ 9007199254740991) : (Ex.leaf op s n).size ≤ 2 * s.size + 20 := by
 have hq := qt_le s
 unfold Ex.leaf
 split
 ·split
  ·show 4 ≤ _; omega
  ·show 5 ≤ _; omega
 ·split
  ·rename_i h2
   rw [ba_size]
   have := print_le (h h2).1 (h h2).2
   omega
  ·split
   ·omega
   ·split
    ·omega
    ·rw [ByteArray.size_append, ByteArray.size_append]
     show 6 + _ + 1 ≤ _
     omega
theorem sgn_le (op : Int) : (Ex.sgn op).size ≤ 3 := by
 unfold Ex.sgn
 repeat' split
 all_goals decide
mutual
theorem Ex.text_wt : ∀ (x : Ex) (deep : Nat) (a : Int), Ex.right x deep = true → (Ex.text x a).length + 10 ≤ x.wt
 | .mk op s n L p, deep, a, h => by
  have hd : ¬ 200 < deep := by
   intro hd
   rw [Ex.right, if_pos hd] at h
   cases h
  rw [Ex.right, if_neg hd, Bool.and_eq_true] at h
  have hb := Ex.body_wt op s n L (deep + 1) (fun h2 => by
   rcases Ex.head_cases h.1 with h3 | h3 | h3 | h3 | h3 | h3 | h3 | h3 <;> first | exact ⟨h3.2.2.1, h3.2.2.2⟩ | omega) h.2
  rw [Ex.text, Ex.wt]
  split
  ·simp only [List.length_cons, List.length_append, List.length_nil]; omega
  ·omega
theorem Ex.body_wt (op : Int) (s : ByteArray) (n : Int) : ∀ (L : List Ex) (deep : Nat), (op = 2 → -9007199254740991 ≤ n ∧ n ≤ 9007199254740991) → Ex.rights L deep = true → (Ex.body op s n L).length ≤ 2 * s.size + 28 + Ex.wts L
 | [], deep, hn, _ => by
  rw [Ex.body, nats_length]
  have := leaf_le (s := s) hn
  omega
 | x :: r, deep, hn, h => by
  rw [Ex.rights, Bool.and_eq_true] at h
  rw [Ex.body, Ex.wts]
  have hA : (if op = 6 then [110, 111, 116, 32] ++ Ex.text x 3 else if op = 13 then Ex.text x 5 else Ex.text x (Ex.lo op)).length + 6 ≤ x.wt := by
   split
   ·have := Ex.text_wt x deep 3 h.1
    simp only [List.length_append, List.length_cons, List.length_nil]; omega
   ·split
    ·have := Ex.text_wt x deep 5 h.1; omega
    ·have := Ex.text_wt x deep (Ex.lo op) h.1; omega
  refine Nat.le_trans (Ex.rest_wt op _ r deep h.2) ?_
  omega
theorem Ex.rest_wt (op : Int) (A : List Nat) : ∀ (L : List Ex) (deep : Nat), Ex.rights L deep = true → (Ex.rest op A L).length ≤ A.length + 8 + Ex.wts L
 | [], deep, _ => by rw [Ex.rest]; omega
 | x :: r, deep, h => by
  rw [Ex.rights, Bool.and_eq_true] at h
  rw [Ex.rest, Ex.wts]
  split
  ·have h1 := Ex.text_wt x deep 5 h.1
   have h2 := Ex.more_wt r deep h.2
   simp only [List.length_append, List.length_cons, List.length_nil]
   omega
  ·have h1 := Ex.text_wt x deep (Ex.hi op) h.1
   have h2 := sgn_le op
   rw [List.length_append, List.length_append, nats_length, ByteArray.size_append, ByteArray.size_append]
   show _ + (1 + _ + 1 + _) ≤ _
   omega
theorem Ex.more_wt : ∀ (L : List Ex) (deep : Nat), Ex.rights L deep = true → (Ex.more L).length ≤ Ex.wts L
 | [], deep, _ => by rw [Ex.more]; simp
 | x :: r, deep, h => by
  rw [Ex.rights, Bool.and_eq_true] at h
  rw [Ex.more, Ex.wts]
  have h1 := Ex.text_wt x deep 5 h.1
  have h2 := Ex.more_wt r deep h.2
  simp only [List.length_append, List.length_cons, List.length_nil]
  omega
end
mutual
theorem Ex.muchE_wt : ∀ (x : Ex) (left : Int) (deep : Nat), left ≤ 1500 → 0 ≤ Ex.muchE x left deep → x.short ∧ (x.wt : Int) ≤ 240 * (left - Ex.muchE x left deep)
 | .mk op s n L p, left, deep, hl, h0 => by
  rw [Ex.muchE] at h0 ⊢
  by_cases h1 : 3000 < s.size
  ·rw [if_pos h1] at h0; omega
  ·rw [if_neg h1] at h0 ⊢
   by_cases h2 : 250 < deep + 1
   ·rw [if_pos h2] at h0; omega
   ·rw [if_neg h2] at h0 ⊢
    have h4 := Ex.muchL_wt L _ (deep + 1) (by omega) h0
    rw [Ex.short, Ex.wt]
    refine ⟨⟨by omega, h4.1⟩, ?_⟩
    have h5 := h4.2
    omega
theorem Ex.muchL_wt : ∀ (L : List Ex) (left : Int) (deep : Nat), left ≤ 1500 → 0 ≤ Ex.muchL L left deep → Ex.shorts L ∧ (Ex.wts L : Int) ≤ 240 * (left - Ex.muchL L left deep)
 | [], left, deep, hl, h0 => by rw [Ex.muchL, Ex.shorts, Ex.wts]; simp
 | x :: r, left, deep, hl, h0 => by
  rw [Ex.muchL] at h0 ⊢
  by_cases h1 : 0 ≤ left
  ·rw [if_pos h1] at h0 ⊢
   have hb := Ex.muchE_bd x left deep h1 hl
   have h2 := Ex.muchL_wt r (Ex.muchE x left deep) deep hb.2 h0
   have h3 := Ex.muchE_wt x left deep hl (by
    rcases Int.lt_or_le (Ex.muchE x left deep) 0 with h9 | h9
    ·rw [Ex.muchL_low _ _ _ h9] at h0; exact h0
    ·exact h9)
   rw [Ex.shorts, Ex.wts]
   exact ⟨⟨h3.1, h2.1⟩, by have := h2.2; have := h3.2; push_cast; omega⟩
  ·rw [if_neg h1] at h0; omega
end
theorem scs_le : ∀ (A : List ByteArray), (∀ s ∈ A, s.size ≤ 1000) → (Ru.scs A).length ≤ 3000 * A.length := by
 have more : ∀ (A : List ByteArray), (∀ s ∈ A, s.size ≤ 1000) → (Ru.scsMore A).length ≤ 3000 * A.length := by
  intro A
  induction A with
  | nil => intro _; rw [Ru.scsMore]; simp
  | cons s r ih =>
   intro h
   have h1 := ih (fun t ht => h t (List.mem_cons_of_mem _ ht))
   have h2 := h s List.mem_cons_self
   have h3 := qt_le s
   rw [Ru.scsMore, List.length_append, nats_length, ByteArray.size_append, List.length_cons]
   show 2 + _ + _ ≤ _
   omega
 intro A h
 cases A with
 | nil => rw [Ru.scs]; simp
 | cons s r =>
  have h1 := more r (fun t ht => h t (List.mem_cons_of_mem _ ht))
  have h2 := h s List.mem_cons_self
  have h3 := qt_le s
  rw [Ru.scs, List.length_append, nats_length, ByteArray.size_append, List.length_cons]
  show 7 + _ + _ ≤ _
  omega
theorem whs_le : ∀ (L : List Ex) (deep : Nat), deep = 1 → Ex.rights L deep = true → (Ru.whs L).length ≤ Ex.wts L
 | [], _, _, _ => by rw [Ru.whs]; simp
 | x :: r, deep, hd, h => by
  rw [Ex.rights, Bool.and_eq_true] at h
  rw [Ru.whs, Ex.wts, List.length_append, List.length_append, nats_length]
  have h1 := Ex.text_wt x deep 1 h.1
  have h2 := whs_le r deep hd h.2
  show 6 + _ ≤ _
  omega
theorem Ru.greatL_wt : ∀ (L : List Ru) (left : Int), 0 ≤ left → left ≤ 1500 → Ru.greatL L left = false → (∀ u ∈ L, u.short) ∧ ((∀ u ∈ L, Ru.right u = true) → ∃ W : Nat, (W : Int) ≤ 240 * left ∧ (Pol.textMore L).length ≤ 130000 * L.length + W)
 | [], left, h0, _, _ => ⟨fun u hu => absurd hu List.not_mem_nil, fun _ => ⟨0, by omega, by rw [Pol.textMore]; simp⟩⟩
 | v :: r, left, h0, h1, h => by
  rw [Ru.greatL] at h
  split at h
  ·cases h
  ·rename_i h2
   split at h
   ·cases h
   ·rename_i h3
    split at h
    ·cases h
    ·rename_i h4
     have h5 := Ex.muchL_wt v.when_ left 1 h1 (by omega)
     have hs : ∀ s ∈ v.scopes, s.size ≤ 1000 := fun s hs => by
      by_cases h6 : 1000 < s.size
      ·exact absurd (List.any_eq_true.2 ⟨s, hs, by simp [h6]⟩) h3
      ·omega
     have hb := Ex.muchL_bd v.when_ left 1 (by omega) h1
     have h7 := Ru.greatL_wt r _ (by omega) hb.2 h
     refine ⟨fun u hu => ?_, fun hr => ?_⟩
     ·rcases List.mem_cons.1 hu with rfl | hu
      ·exact ⟨fun s hs2 => by have := hs s hs2; omega, h5.1⟩
      ·exact h7.1 u hu
     ·obtain ⟨W, hW, hT⟩ := h7.2 (fun u hu => hr u (List.mem_cons_of_mem _ hu))
      have h8 := hr v List.mem_cons_self
      unfold Ru.right at h8
      simp only [Bool.and_eq_true, decide_eq_true_eq] at h8
      have h9 := scs_le v.scopes hs
      have h10 := whs_le v.when_ 1 rfl h8.2
      have h11 : (Ru.hd v).size ≤ 6 := by unfold Ru.hd; split <;> decide
      refine ⟨Ex.wts v.when_ + W, by have := h5.2; push_cast; omega, ?_⟩
      rw [Pol.textMore, Ru.text]
      simp only [List.length_cons, List.length_append, List.length_nil, nats_length]
      omega
theorem Ru.great_wt {L : List Ru} (h : Ru.great L = false) : L.length ≤ 40 ∧ (∀ u ∈ L, u.short) ∧ (Ru.rights L = true → (Pol.text L).length < 1000000000) := by
 unfold Ru.great at h
 split at h
 ·cases h
 ·rename_i h40
  have h1 := Ru.greatL_wt L 1500 (by omega) (by omega) h
  refine ⟨by omega, h1.1, fun hr => ?_⟩
  unfold Ru.rights at hr
  rw [Bool.and_eq_true] at hr
  obtain ⟨W, hW, hT⟩ := h1.2 (fun u hu => List.all_eq_true.1 hr.2 u hu)
  have h2 : (Pol.text L).length ≤ (Pol.textMore L).length := by
   cases L with
   | nil => exact Nat.le_refl _
   | cons u r => rw [Pol.text, Pol.textMore, List.length_cons]; omega
  omega
end Go.Proofs.YtgklmpooonnmiaaGreatDoor

namespace Go.Proofs.YtgklmpooonnmiaaGreatDoor
open Go.RowKit Go.Extern.Stop Go.Stop Go.Extern
theorem as_nil (t : Value) (w : World) :
  Calls Tryz.prog 24 #[.nilIface, t] w fun e w' => e = .returned (.bool false) ∧ w' = w := by
 go_enter Tryz.func24, Tryz.ntmps24
 go_wp2
 go_ret
 exact ⟨rfl, rfl⟩
theorem methodKind (h : Value) (w : World) : (Go.method 289 137 (.agg #[h]) "Kind").run Tryz.prog w = .ok (122, h) w := by kernel_rfl
theorem methodElem (h : Value) (w : World) : (Go.method 289 137 (.agg #[h]) "Elem").run Tryz.prog w = .ok (135, .agg #[h]) w := by kernel_rfl
theorem methodImplements (h : Value) (w : World) : (Go.method 289 137 (.agg #[h]) "Implements").run Tryz.prog w = .ok (136, .agg #[h]) w := by kernel_rfl
theorem methodAssignableTo (h : Value) (w : World) : (Go.method 289 137 (.agg #[h]) "AssignableTo").run Tryz.prog w = .ok (133, .agg #[h]) w := by kernel_rfl
theorem methodUnwrap (v : Value) (w : World) : (Go.method 289 46 v "Unwrap").run Tryz.prog w = .ok (126, v) w := by kernel_rfl
theorem rlm (z : Sem Value) (f : TypeId → Addr → Nat → Nat → Sem Value) (v : Value) :
  ReflectliteValue.method z f #[v] = (do match ← ReflectliteValue.parts v with | none => z | some (t, a, fl) => f t a fl (fl % 32)) := rfl
theorem rls (v x : Value) : ReflectliteValue.set #[v, x] = (do
  let (some (dst, a, fl), some (src, b, _)) := (← ReflectliteValue.parts v, ← ReflectliteValue.parts x)
   | unsupported (.noEntry "extern/(internal/reflectlite.Value).Set.zeroValue")
  if fl / ReflectliteValue.flagAddr % 2 == 0 then unsupported (.noEntry "extern/(internal/reflectlite.Value).Set.unaddressable")
  let val ← loadVar src b
  if ← Rtype.directlyAssignable dst src then storeVar dst a val
  else if ← Rtype.implements dst src then
   if (← Rtype.kind src) == 20 then
    match val with
    | .nilIface => unsupported (.noEntry "extern/reflectlite: a nil value of one interface type handed on as a value of another")
    | _ => storeVar dst a val
   else storeVar dst a (.iface src val)
  else panicString ("reflectlite.Set: value of type " ++ (← Rtype.spelt src) ++ " is not assignable to type " ++ (← Rtype.spelt dst))
  pure (.tuple #[])) := rfl
/-! the target N -/
theorem valueOfTN (t : Addr) (w : World) : (ReflectliteValue.unpack (.iface 65 (.pointer (some t)))).run Tryz.prog w
  = .ok (.agg #[.pointer (some ⟨3, 65, none⟩), .pointer (some ⟨w.heap.size, 0, none⟩), .int .u64 150]) (w.alloc (.cells #[.pointer (some t)] 65)) := by kernel_rfl
theorem typeTN (a : Addr) (w : World) : (ReflectliteValue.methodAny (ReflectliteValue.valueError "reflectlite.Value.Type" 0) (fun t _ _ _ => ReflectliteType.toType t) #[.agg #[.pointer (some ⟨3, 65, none⟩), .pointer (some a), .int .u64 150]]).run Tryz.prog w
  = .ok (.iface 137 (.agg #[.pointer (some ⟨3, 65, none⟩)])) w := by kernel_rfl
theorem kindTN (w : World) : ((ReflectliteType.abiMethod fun t => (fun a : Nat => Value.int IntKind.u8 (a : Int)) <$> Rtype.kind t) #[.pointer (some ⟨3, 65, none⟩)]).run Tryz.prog w = .ok (.int .u8 22) w := by kernel_rfl
theorem kindEN (w : World) : ((ReflectliteType.abiMethod fun t => (fun a : Nat => Value.int IntKind.u8 (a : Int)) <$> Rtype.kind t) #[.pointer (some ⟨3, 57, none⟩)]).run Tryz.prog w = .ok (.int .u8 2) w := by kernel_rfl
theorem partsTN (a : Addr) (w : World) : (ReflectliteValue.parts (.agg #[.pointer (some ⟨3, 65, none⟩), .pointer (some a), .int .u64 150])).run Tryz.prog w = .ok (some (65, a, 150)) w := by kernel_rfl
theorem isNilTN (a p : Addr) (W : World) (ha : W.cell? a = some (.pointer (some p))) :
  (ReflectliteValue.method (ReflectliteValue.valueError "reflectlite.Value.IsNil" 0) ReflectliteValue.isNil #[.agg #[.pointer (some ⟨3, 65, none⟩), .pointer (some a), .int .u64 150]]).run Tryz.prog W = .ok (.bool false) W := by
 rw [rlm]
 simp only [Sem.run_bind, partsTN, Result.andThen]
 simp [ReflectliteValue.isNil, loadVar, isAgg, underlying, Tryz.underlying65, ha, Result.andThen]
theorem elemTN (w : World) : (ReflectliteType.method ReflectliteType.elem #[.agg #[.pointer (some ⟨3, 65, none⟩)]]).run Tryz.prog w = .ok (.iface 137 (.agg #[.pointer (some ⟨3, 57, none⟩)])) w := by kernel_rfl
theorem assignN (w : World) : (ReflectliteType.relation "AssignableTo" ReflectliteType.assignableTo #[.agg #[.pointer (some ⟨3, 57, none⟩)], .iface 137 (.agg #[.pointer (some ⟨3, 57, none⟩)])]).run Tryz.prog w = .ok (.bool true) w := by kernel_rfl
theorem elemOfN (w : World) : (Rtype.elem? 65).run Tryz.prog w = .ok (some 57) w := by kernel_rfl
theorem mkEN (p : Addr) (w : World) : (ReflectliteValue.mk 57 p ReflectliteValue.flagAddr).run Tryz.prog w = .ok (.agg #[.pointer (some ⟨3, 57, none⟩), .pointer (some p), .int .u64 386]) w := by kernel_rfl
theorem elemVN (a p : Addr) (W : World) (ha : W.cell? a = some (.pointer (some p))) :
  (ReflectliteValue.method (ReflectliteValue.valueError "reflectlite.Value.Elem" 0) ReflectliteValue.elem #[.agg #[.pointer (some ⟨3, 65, none⟩), .pointer (some a), .int .u64 150]]).run Tryz.prog W
   = .ok (.agg #[.pointer (some ⟨3, 57, none⟩), .pointer (some p), .int .u64 386]) W := by
 rw [rlm]
 simp only [Sem.run_bind, partsTN, Result.andThen]
 simp [ReflectliteValue.elem, loadVar, isAgg, underlying, Tryz.underlying65, ha, Result.andThen, elemOfN, mkEN]
theorem valueOfEN (n : Int) (w : World) : (ReflectliteValue.unpack (.iface 57 (.int .i64 n))).run Tryz.prog w
  = .ok (.agg #[.pointer (some ⟨3, 57, none⟩), .pointer (some ⟨w.heap.size, 0, none⟩), .int .u64 130]) (w.alloc (.cells #[.int .i64 n] 57)) := by kernel_rfl
theorem partsAN (a : Addr) (w : World) : (ReflectliteValue.parts (.agg #[.pointer (some ⟨3, 57, none⟩), .pointer (some a), .int .u64 386])).run Tryz.prog w = .ok (some (57, a, 386)) w := by kernel_rfl
theorem partsEN (a : Addr) (w : World) : (ReflectliteValue.parts (.agg #[.pointer (some ⟨3, 57, none⟩), .pointer (some a), .int .u64 130])).run Tryz.prog w = .ok (some (57, a, 130)) w := by kernel_rfl
theorem directN (w : World) : (Rtype.directlyAssignable 57 57).run Tryz.prog w = .ok true w := by kernel_rfl
theorem sizeEN (w : World) : (sizeOf 57).run Tryz.prog w = .ok 1 w := by kernel_rfl
theorem setN (ta b : Addr) (n : Int) (old : Value) (W : World) (hb : W.cell? b = some (.int .i64 n)) (ht : W.cell? ta = some old) (hf : W.frozen? ta = false) :
  (ReflectliteValue.set #[.agg #[.pointer (some ⟨3, 57, none⟩), .pointer (some ta), .int .u64 386], .agg #[.pointer (some ⟨3, 57, none⟩), .pointer (some b), .int .u64 130]]).run Tryz.prog W
   = .ok (.tuple #[]) (W.setCell ta (.int .i64 n)) := by
 rw [rls]
 simp only [Sem.run_bind, partsAN, partsEN, Result.andThen]
 simp [ReflectliteValue.flagAddr, loadVar, isAgg, underlying, Tryz.underlying57, hb, Result.andThen, directN, storeVar, Value.cells, storeCells, Addr.add, sizeEN]
 rw [run_store Tryz.prog W ta _ _ (by rfl)]
 simp [ht, hf]
/-! the target A -/
theorem valueOfTA (t : Addr) (w : World) : (ReflectliteValue.unpack (.iface 66 (.pointer (some t)))).run Tryz.prog w
  = .ok (.agg #[.pointer (some ⟨3, 66, none⟩), .pointer (some ⟨w.heap.size, 0, none⟩), .int .u64 150]) (w.alloc (.cells #[.pointer (some t)] 66)) := by kernel_rfl
theorem typeTA (a : Addr) (w : World) : (ReflectliteValue.methodAny (ReflectliteValue.valueError "reflectlite.Value.Type" 0) (fun t _ _ _ => ReflectliteType.toType t) #[.agg #[.pointer (some ⟨3, 66, none⟩), .pointer (some a), .int .u64 150]]).run Tryz.prog w
  = .ok (.iface 137 (.agg #[.pointer (some ⟨3, 66, none⟩)])) w := by kernel_rfl
theorem kindTA (w : World) : ((ReflectliteType.abiMethod fun t => (fun a : Nat => Value.int IntKind.u8 (a : Int)) <$> Rtype.kind t) #[.pointer (some ⟨3, 66, none⟩)]).run Tryz.prog w = .ok (.int .u8 22) w := by kernel_rfl
theorem kindEA (w : World) : ((ReflectliteType.abiMethod fun t => (fun a : Nat => Value.int IntKind.u8 (a : Int)) <$> Rtype.kind t) #[.pointer (some ⟨3, 46, none⟩)]).run Tryz.prog w = .ok (.int .u8 22) w := by kernel_rfl
theorem partsTA (a : Addr) (w : World) : (ReflectliteValue.parts (.agg #[.pointer (some ⟨3, 66, none⟩), .pointer (some a), .int .u64 150])).run Tryz.prog w = .ok (some (66, a, 150)) w := by kernel_rfl
theorem isNilTA (a p : Addr) (W : World) (ha : W.cell? a = some (.pointer (some p))) :
  (ReflectliteValue.method (ReflectliteValue.valueError "reflectlite.Value.IsNil" 0) ReflectliteValue.isNil #[.agg #[.pointer (some ⟨3, 66, none⟩), .pointer (some a), .int .u64 150]]).run Tryz.prog W = .ok (.bool false) W := by
 rw [rlm]
 simp only [Sem.run_bind, partsTA, Result.andThen]
 simp [ReflectliteValue.isNil, loadVar, isAgg, underlying, Tryz.underlying66, ha, Result.andThen]
theorem elemTA (w : World) : (ReflectliteType.method ReflectliteType.elem #[.agg #[.pointer (some ⟨3, 66, none⟩)]]).run Tryz.prog w = .ok (.iface 137 (.agg #[.pointer (some ⟨3, 46, none⟩)])) w := by kernel_rfl
theorem assignA (w : World) : (ReflectliteType.relation "AssignableTo" ReflectliteType.assignableTo #[.agg #[.pointer (some ⟨3, 46, none⟩)], .iface 137 (.agg #[.pointer (some ⟨3, 46, none⟩)])]).run Tryz.prog w = .ok (.bool true) w := by kernel_rfl
theorem elemOfA (w : World) : (Rtype.elem? 66).run Tryz.prog w = .ok (some 46) w := by kernel_rfl
theorem mkEA (p : Addr) (w : World) : (ReflectliteValue.mk 46 p ReflectliteValue.flagAddr).run Tryz.prog w = .ok (.agg #[.pointer (some ⟨3, 46, none⟩), .pointer (some p), .int .u64 406]) w := by kernel_rfl
theorem elemVA (a p : Addr) (W : World) (ha : W.cell? a = some (.pointer (some p))) :
  (ReflectliteValue.method (ReflectliteValue.valueError "reflectlite.Value.Elem" 0) ReflectliteValue.elem #[.agg #[.pointer (some ⟨3, 66, none⟩), .pointer (some a), .int .u64 150]]).run Tryz.prog W
   = .ok (.agg #[.pointer (some ⟨3, 46, none⟩), .pointer (some p), .int .u64 406]) W := by
 rw [rlm]
 simp only [Sem.run_bind, partsTA, Result.andThen]
 simp [ReflectliteValue.elem, loadVar, isAgg, underlying, Tryz.underlying66, ha, Result.andThen, elemOfA, mkEA]
theorem valueOfEA (n : Addr) (w : World) : (ReflectliteValue.unpack (.iface 46 (.pointer (some n)))).run Tryz.prog w
  = .ok (.agg #[.pointer (some ⟨3, 46, none⟩), .pointer (some ⟨w.heap.size, 0, none⟩), .int .u64 150]) (w.alloc (.cells #[.pointer (some n)] 46)) := by kernel_rfl
theorem partsAA (a : Addr) (w : World) : (ReflectliteValue.parts (.agg #[.pointer (some ⟨3, 46, none⟩), .pointer (some a), .int .u64 406])).run Tryz.prog w = .ok (some (46, a, 406)) w := by kernel_rfl
theorem partsEA (a : Addr) (w : World) : (ReflectliteValue.parts (.agg #[.pointer (some ⟨3, 46, none⟩), .pointer (some a), .int .u64 150])).run Tryz.prog w = .ok (some (46, a, 150)) w := by kernel_rfl
theorem directA (w : World) : (Rtype.directlyAssignable 46 46).run Tryz.prog w = .ok true w := by kernel_rfl
theorem sizeEA (w : World) : (sizeOf 46).run Tryz.prog w = .ok 1 w := by kernel_rfl
theorem setA (ta b : Addr) (n : Addr) (old : Value) (W : World) (hb : W.cell? b = some (.pointer (some n))) (ht : W.cell? ta = some old) (hf : W.frozen? ta = false) :
  (ReflectliteValue.set #[.agg #[.pointer (some ⟨3, 46, none⟩), .pointer (some ta), .int .u64 406], .agg #[.pointer (some ⟨3, 46, none⟩), .pointer (some b), .int .u64 150]]).run Tryz.prog W
   = .ok (.tuple #[]) (W.setCell ta (.pointer (some n))) := by
 rw [rls]
 simp only [Sem.run_bind, partsAA, partsEA, Result.andThen]
 simp [ReflectliteValue.flagAddr, loadVar, isAgg, underlying, Tryz.underlying46, hb, Result.andThen, directA, storeVar, Value.cells, storeCells, Addr.add, sizeEA]
 rw [run_store Tryz.prog W ta _ _ (by rfl)]
 simp [ht, hf]
/-! the errors' own types -/
theorem typeOfNo (v : Value) (w : World) : (ReflectliteType.typeOf #[.iface 57 v]).run Tryz.prog w = .ok (.iface 137 (.agg #[.pointer (some ⟨3, 57, none⟩)])) w := by kernel_rfl
theorem typeOfAt (v : Value) (w : World) : (ReflectliteType.typeOf #[.iface 46 v]).run Tryz.prog w = .ok (.iface 137 (.agg #[.pointer (some ⟨3, 46, none⟩)])) w := by kernel_rfl
theorem implementsAt (w : World) : (ReflectliteType.relation "Implements" ReflectliteType.implements_ #[.agg #[.pointer (some ⟨3, 46, none⟩)], .iface 137 (.agg #[.pointer (some ⟨3, 25, none⟩)])]).run Tryz.prog w = .ok (.bool true) w := by kernel_rfl
theorem assignAtN (w : World) : (ReflectliteType.relation "AssignableTo" ReflectliteType.assignableTo #[.agg #[.pointer (some ⟨3, 46, none⟩)], .iface 137 (.agg #[.pointer (some ⟨3, 57, none⟩)])]).run Tryz.prog w = .ok (.bool false) w := by kernel_rfl
theorem assignNA (w : World) : (ReflectliteType.relation "AssignableTo" ReflectliteType.assignableTo #[.agg #[.pointer (some ⟨3, 57, none⟩)], .iface 137 (.agg #[.pointer (some ⟨3, 46, none⟩)])]).run Tryz.prog w = .ok (.bool false) w := by kernel_rfl
theorem noAsAt (v : Value) (xT : TypeId) (w : World) : (Instr.typeAssert (.iface 46 v) xT 142 true).run Tryz.prog w = .ok (.tuple #[.nilIface, .bool false]) w :=
 run_typeAssert_lacksB Tryz.underlying142 (by kernel_rfl) (by kernel_rfl) v xT w
theorem noAsNo (v : Value) (xT : TypeId) (w : World) : (Instr.typeAssert (.iface 57 v) xT 142 true).run Tryz.prog w = .ok (.tuple #[.nilIface, .bool false]) w :=
 run_typeAssert_lacksB Tryz.underlying142 (by kernel_rfl) (by kernel_rfl) v xT w
theorem unwAt (v : Value) (xT : TypeId) (w : World) : (Instr.typeAssert (.iface 46 v) xT 145 true).run Tryz.prog w = .ok (.tuple #[.iface 46 v, .bool true]) w :=
 run_typeAssert_hasB Tryz.underlying145 (by kernel_rfl) v xT w
theorem noUnwNo (v : Value) (xT : TypeId) (w : World) : (Instr.typeAssert (.iface 57 v) xT 145 true).run Tryz.prog w = .ok (.tuple #[.nilIface, .bool false]) w :=
 run_typeAssert_lacksB Tryz.underlying145 (by kernel_rfl) (by kernel_rfl) v xT w
theorem noUnwsNo (v : Value) (xT : TypeId) (w : World) : (Instr.typeAssert (.iface 57 v) xT 147 true).run Tryz.prog w = .ok (.tuple #[.nilIface, .bool false]) w :=
 run_typeAssert_lacksB Tryz.underlying147 (by kernel_rfl) (by kernel_rfl) v xT w
end Go.Proofs.YtgklmpooonnmiaaGreatDoor
