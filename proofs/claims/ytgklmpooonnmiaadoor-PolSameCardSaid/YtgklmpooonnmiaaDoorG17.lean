/-
  Lemmas and contracts that the proofs over this seat use (PolGreat, PolClone, PolPlain, PolClone2); no statement of the seat is claimed in this text, and nothing is assumed in it.
-/
import Derived.Test.YtgklmpooonnmiaaDoorG16
import Derived.Lib.SliceRun
set_option linter.unusedVariables false
set_option linter.unusedSimpArgs false
namespace Go.Proofs.YtgklmpooonnmiaaDoor
open Go.RowKit
mutual
/-- what is left behind an expression. -/
def Ex.muchE : Ex → Int → Nat → Int
  | .mk _ s _ L _, left, deep => if 3000 < s.size then -1 else if 250 < deep + 1 then -1 else Ex.muchL L (left - 1 - min (s.size : Int) 5000 / 100) (deep + 1)
/-- what is left behind some. -/
def Ex.muchL : List Ex → Int → Nat → Int
  | [], left, _ => left
  | x :: r, left, deep => if 0 ≤ left then Ex.muchL r (Ex.muchE x left deep) deep else left
end
theorem Ex.muchL_low (L : List Ex) (left : Int) (deep : Nat) (h : left < 0) : Ex.muchL L left deep = left := by
  cases L with
  | nil => rfl
  | cons x r => rw [Ex.muchL, if_neg (by omega)]
mutual
theorem Ex.muchE_bd : ∀ (x : Ex) (left : Int) (deep : Nat), 0 ≤ left → left ≤ 1500 → -100 ≤ Ex.muchE x left deep ∧ Ex.muchE x left deep ≤ 1500
  | .mk _ s _ L _, left, deep, h0, h1 => by
    rw [Ex.muchE]
    split
    · omega
    · split
      · omega
      · have h2 : 0 ≤ min (s.size : Int) 5000 / 100 ∧ min (s.size : Int) 5000 / 100 ≤ 50 := by omega
        exact Ex.muchL_bd L _ _ (by omega) (by omega)
theorem Ex.muchL_bd : ∀ (L : List Ex) (left : Int) (deep : Nat), -100 ≤ left → left ≤ 1500 → -100 ≤ Ex.muchL L left deep ∧ Ex.muchL L left deep ≤ 1500
  | [], left, deep, h0, h1 => by rw [Ex.muchL]; omega
  | x :: r, left, deep, h0, h1 => by
    rw [Ex.muchL]
    split
    · have h2 := Ex.muchE_bd x left deep (by omega) h1
      exact Ex.muchL_bd r _ _ h2.1 h2.2
    · omega
end
theorem Ex.muchL_drop {L : List Ex} {k : Nat} {x : Ex} (hx : L[k]? = some x) (left : Int) (deep : Nat) (h : 0 ≤ left) : Ex.muchL (L.drop k) left deep = Ex.muchL (L.drop (k + 1)) (Ex.muchE x left deep) deep := by
  obtain ⟨h1, rfl⟩ := List.getElem?_eq_some_iff.1 hx
  rw [List.drop_eq_getElem_cons h1, Ex.muchL, if_pos h]
set_option maxHeartbeats 4000000 in
set_option maxRecDepth 100000 in
/-- one level of much. -/
theorem much_step (w : World) (q : Option Addr) (c : Nat) (f : Nat → List Value) (L : List Ex) (h : LA w q c f L) (left : Int) (deep : Nat) (h0 : -100 ≤ left) (h1 : left ≤ 1500) (hd : deep ≤ 250)
    (hS : ∀ (i : Nat) (op : Int) (s : ByteArray) (n : Int) (M : List Ex) (p : Int) (q' : Option Addr) (c' : Nat) (lf : Int), L[i]? = some (.mk op s n M p) → f i = [.int .i64 op, .string s, .int .i64 n, .slice q' M.length c', .int .i64 p] → -100 ≤ lf → lf ≤ 1500 →
      Calls Tryd.prog 44 #[.slice q' M.length c', .int .i64 lf, .int .i64 ((deep : Int) + 1)] w fun e w' => e = .returned (.int .i64 (if 250 < deep + 1 then -1 else Ex.muchL M lf (deep + 1))) ∧ w = w') :
    Calls Tryd.prog 44 #[.slice q L.length c, .int .i64 left, .int .i64 (deep : Int)] w fun e w' => e = .returned (.int .i64 (Ex.muchL L left deep)) ∧ w = w' := by
  have HL := Lib.hid h
  have HS := Lib.hid hS
  have hb : L.length ≤ 9223372036854775807 := by have h1 := h.hc; have h2 := h.hm; unfold maxLen at h2; omega
  have hd' : ¬ (deep : Int) > 250 := by omega
  clear h hS
  go_enter Tryd.func44, Tryd.ntmps44
  go_wp2_with fail
  go_loopg [1, 7] L.length (fun m s1 s7 W => ∃ (k : Nat) (lf : Int), k ≤ L.length ∧ m = L.length - k ∧ s1 = .int .i64 lf ∧ s7 = .int .i64 k ∧ -100 ≤ lf ∧ lf ≤ 1500 ∧ w = W ∧ Hid (Ex.muchL L left deep = Ex.muchL (L.drop k) lf deep))
  case atStart => exact ⟨0, left, by omega, by omega, rfl, rfl, h0, h1, rfl, rfl⟩
  case round =>
    obtain ⟨k, lf, hk, hm, rfl, rfl, hl0, hl1, rfl, HE⟩ := hrel
    have HM := Lib.hid hm
    clear hm
    by_cases hlt : k < L.length
    · have hlt' : (k : Int) < (L.length : Int) := by omega
      have hk0 : (0 : Int) ≤ (k : Int) := by omega
      by_cases hp : 0 ≤ lf
      · have hp' : lf ≥ 0 := hp
        obtain ⟨x, hx⟩ : ∃ x, L[k]? = some x := ⟨_, List.getElem?_eq_getElem hlt⟩
        obtain ⟨ad, rfl, h5⟩ := HL.out.hr k x hx
        have hRA := HL.out.hx k x hx
        have HD := Lib.hid (Ex.muchL_drop hx lf deep hp)
        obtain ⟨fk, hfk⟩ : ∃ fk, f k = fk := ⟨_, rfl⟩
        rw [hfk] at hRA h5
        cases hRA with
        | mk op s n M p q' c' g hc hm hr hx2 =>
          obtain ⟨v0, v1, v2, v3, v4, hf0, a0, a1, a2, a3, a4⟩ := h5
          simp only [List.cons.injEq, and_true] at hf0
          obtain ⟨rfl, rfl, rfl, rfl, rfl⟩ := hf0
          have hcst : 0 ≤ min (s.size : Int) 5000 / 100 ∧ min (s.size : Int) 5000 / 100 ≤ 50 := by omega
          have HCL := Lib.hid (HS.out k op s n M p q' c' (lf - 1 - min (s.size : Int) 5000 / 100) hx hfk (by omega) (by omega))
          have HME : Hid (Ex.muchE (.mk op s n M p) lf deep = if 3000 < s.size then -1 else if 250 < deep + 1 then -1 else Ex.muchL M (lf - 1 - min (s.size : Int) 5000 / 100) (deep + 1)) := by show _ = _; rw [Ex.muchE]
          clear hc hm hr hx2 hx hfk
          by_cases h3 : 3000 < s.size
          · have h3' : (s.size : Int) > 3000 := by omega
            have HEE : Hid (Ex.muchL L left deep = -1) := by show _ = _; rw [HE.out, HD.out, HME.out, if_pos h3, Ex.muchL_low _ _ _ (by omega)]
            go_wp2_with fail
            go_ret
            rw [HEE.out]
            exact ⟨rfl, rfl⟩
          · have h3' : ¬ (s.size : Int) > 3000 := by omega
            have hmb := Ex.muchE_bd (.mk op s n M p) lf deep hp hl1
            have HME2 : Hid (Ex.muchE (.mk op s n M p) lf deep = if 250 < deep + 1 then -1 else Ex.muchL M (lf - 1 - min (s.size : Int) 5000 / 100) (deep + 1)) := by show _ = _; rw [HME.out, if_neg h3]
            rw [← HME2.out] at HCL
            obtain ⟨y, hy⟩ : ∃ y, Ex.muchE (.mk op s n M p) lf deep = y := ⟨_, rfl⟩
            rw [hy] at HCL HD hmb
            clear hy HME HME2
            go_wp2_with fail
            refine HCL.out.mono ?_
            rintro e w2 ⟨rfl, rfl⟩
            go_wp2_with fail
            go_roundg (L.length - (k + 1))
            case measure => have := HM.out; omega
            case rel => exact ⟨k + 1, y, by omega, rfl, rfl, by go_num, hmb.1, hmb.2, rfl, HE.out.trans HD.out⟩
      · have hp' : ¬ lf ≥ 0 := hp
        have HEE : Hid (Ex.muchL L left deep = lf) := by show _ = _; rw [HE.out, Ex.muchL_low _ _ _ (by omega)]
        go_wp2_with fail
        go_ret
        rw [HEE.out]
        exact ⟨rfl, rfl⟩
    · have hlt' : ¬ (k : Int) < (L.length : Int) := by omega
      have HEE : Hid (Ex.muchL L left deep = lf) := by show _ = _; rw [HE.out, List.drop_eq_nil_of_le (by omega), Ex.muchL]
      go_wp2_with fail
      go_ret
      rw [HEE.out]
      exact ⟨rfl, rfl⟩
set_option maxHeartbeats 4000000 in
/-- too deep. -/
theorem much_deep (w : World) (q : Option Addr) (n c : Nat) (left deep : Int) (hd : deep > 250) :
    Calls Tryd.prog 44 #[.slice q n c, .int .i64 left, .int .i64 deep] w fun e w' => e = .returned (.int .i64 (-1)) ∧ w = w' := by
  go_enter Tryd.func44, Tryd.ntmps44
  go_wp2_with fail
  go_ret
  exact ⟨rfl, rfl⟩
theorem much_of {w : World} {cs : List Value} {x : Ex} (h : RepA w cs x) : ∀ (op : Int) (s : ByteArray) (n : Int) (M : List Ex) (p : Int) (q : Option Addr) (c : Nat) (lf : Int) (deep : Nat), x = .mk op s n M p → cs = [.int .i64 op, .string s, .int .i64 n, .slice q M.length c, .int .i64 p] → -100 ≤ lf → lf ≤ 1500 → deep ≤ 250 →
    Calls Tryd.prog 44 #[.slice q M.length c, .int .i64 lf, .int .i64 ((deep : Int) + 1)] w fun e w' => e = .returned (.int .i64 (if 250 < deep + 1 then -1 else Ex.muchL M lf (deep + 1))) ∧ w = w' := by
  induction h with
  | mk op s n L p q c f hc hm hr hx ih =>
    intro op' s' n' M p' q' c' lf deep hx0 hcs h0 h1 hd
    cases hx0
    simp only [List.cons.injEq, and_true, Value.slice.injEq, true_and] at hcs
    obtain ⟨rfl, rfl⟩ := hcs
    by_cases h2 : 250 < deep + 1
    · rw [if_pos h2]
      exact much_deep w q L.length c lf _ (by omega)
    · rw [if_neg h2]
      have h9 := much_step w q c f L ⟨hc, hm, hr, hx⟩ lf (deep + 1) h0 h1 (by omega) (fun i op s n M p q' c' lf' hi hf h3 h4 => by
        have := ih i _ hi op s n M p q' c' lf' (deep + 1) rfl hf h3 h4 (by omega)
        exact this)
      rw [show ((deep + 1 : Nat) : Int) = (deep : Int) + 1 by omega] at h9
      exact h9
/-- much, of a slice at the top. -/
theorem ref_much (w : World) (q : Option Addr) (c : Nat) (f : Nat → List Value) (L : List Ex) (h : LA w q c f L) (left : Int) (h0 : -100 ≤ left) (h1 : left ≤ 1500) :
    Calls Tryd.prog 44 #[.slice q L.length c, .int .i64 left, .int .i64 1] w fun e w' => e = .returned (.int .i64 (Ex.muchL L left 1)) ∧ w = w' :=
  much_step w q c f L h left 1 h0 h1 (by omega) (fun i op s n M p q' c' lf hi hf h3 h4 => much_of (h.hx i _ hi) op s n M p q' c' lf 1 rfl hf h3 h4 (by omega))
def Ru.greatL : List Ru → Int → Bool
  | [], _ => false
  | u :: r, left => if 40 < u.scopes.length then true else if u.scopes.any (fun s => decide (1000 < s.size)) = true then true else if Ex.muchL u.when_ left 1 < 0 then true else Ru.greatL r (Ex.muchL u.when_ left 1)
/-- is a policy more than is looked at? -/
def Ru.great (L : List Ru) : Bool := if 40 < L.length then true else Ru.greatL L 1500
theorem Ru.greatL_drop {L : List Ru} {k : Nat} {u : Ru} (hx : L[k]? = some u) (left : Int) : Ru.greatL (L.drop k) left = if 40 < u.scopes.length then true else if u.scopes.any (fun s => decide (1000 < s.size)) = true then true else if Ex.muchL u.when_ left 1 < 0 then true else Ru.greatL (L.drop (k + 1)) (Ex.muchL u.when_ left 1) := by
  obtain ⟨h1, rfl⟩ := List.getElem?_eq_some_iff.1 hx
  rw [List.drop_eq_getElem_cons h1, Ru.greatL]
set_option maxHeartbeats 8000000 in
set_option maxRecDepth 100000 in
theorem ref_Great (w : World) (q : Option Addr) (c : Nat) (f : Nat → List Value) (L : List Ru) (h : RsA w q c f L) :
    Calls Tryd.prog 22 #[.slice q L.length c] w fun e w' => e = .returned (.bool (Ru.great L)) ∧ w = w' := by
  have HL := Lib.hid h
  have hb : L.length ≤ 9223372036854775807 := by have h1 := h.hc; have h2 := h.hm; unfold maxLen at h2; omega
  clear h
  by_cases h40 : 40 < L.length
  · have h40' : (L.length : Int) > 40 := by omega
    have HG : Hid (Ru.great L = true) := by show _ = _; unfold Ru.great; rw [if_pos h40]
    clear h40
    go_enter Tryd.func22, Tryd.ntmps22
    go_wp2_with fail
    go_ret
    rw [HG.out]
    exact ⟨rfl, rfl⟩
  have h40' : ¬ (L.length : Int) > 40 := by omega
  have HG : Hid (Ru.great L = Ru.greatL L 1500) := by show _ = _; unfold Ru.great; rw [if_neg h40]
  clear h40
  go_enter Tryd.func22, Tryd.ntmps22
  go_wp2_with fail
  go_loopg [3, 4] L.length (fun m s3 s4 W => ∃ (k : Nat) (lf : Int), k ≤ L.length ∧ m = L.length - k ∧ s3 = .int .i64 lf ∧ s4 = .int .i64 k ∧ 0 ≤ lf ∧ lf ≤ 1500 ∧ w = W ∧ Hid (Ru.great L = Ru.greatL (L.drop k) lf))
  case atStart => exact ⟨0, 1500, by omega, by omega, rfl, rfl, by omega, by omega, rfl, HG.out⟩
  case round =>
    clear HG
    obtain ⟨k, lf, hk, hm, rfl, rfl, hl0, hl1, rfl, HE⟩ := hrel
    have HM := Lib.hid hm
    clear hm
    by_cases hlt : k < L.length
    · have hlt' : (k : Int) < (L.length : Int) := by omega
      have hk0 : (0 : Int) ≤ (k : Int) := by omega
      obtain ⟨u, hx⟩ : ∃ x, L[k]? = some x := ⟨_, List.getElem?_eq_getElem hlt⟩
      obtain ⟨ad, rfl, h5⟩ := HL.out.hr k u hx
      obtain ⟨q1, c1, q2, c2, g, hA⟩ := HL.out.hx k u hx
      obtain ⟨v0, v1, v2, v3, hf0, a0, a1, a2, a3⟩ := h5
      have hf2 := hA.e
      rw [hf0] at hf2
      simp only [List.cons.injEq, and_true] at hf2
      obtain ⟨rfl, rfl, rfl, rfl⟩ := hf2
      have HS := Lib.hid hA.s
      have HD := Lib.hid (Ru.greatL_drop hx lf)
      have HMU := Lib.hid (ref_much w q2 c2 g u.when_ hA.l lf (by omega) hl1)
      have hmb := Ex.muchL_bd u.when_ lf 1 (by omega) hl1
      obtain ⟨ud, us, uw, up⟩ := u
      have hs1 : us.length ≤ 9223372036854775807 := by have h1 := HS.out.hc; have h2 := HS.out.hm; unfold maxLen at h2; simp only [] at h1; omega
      clear hf0 hx hA
      dsimp only at a0 a1 a2 a3 HS HD HMU hmb
      by_cases hs4 : 40 < us.length
      · have hs4' : (us.length : Int) > 40 := by omega
        have HEE : Hid (Ru.great L = true) := by show _ = _; rw [HE.out, HD.out, if_pos hs4]
        go_wp2_with fail
        go_ret
        rw [HEE.out]
        exact ⟨rfl, rfl⟩
      · have hs4' : ¬ (us.length : Int) > 40 := by omega
        have HD2 : Hid (Ru.great L = if us.any (fun s => decide (1000 < s.size)) = true then true else if Ex.muchL uw lf 1 < 0 then true else Ru.greatL (L.drop (k + 1)) (Ex.muchL uw lf 1)) := by show _ = _; rw [HE.out, HD.out, if_neg hs4]
        clear HE HD
        obtain ⟨y, hy⟩ : ∃ y, Ex.muchL uw lf 1 = y := ⟨_, rfl⟩
        rw [hy] at HD2 HMU hmb
        clear hy
        go_wp2_with fail
        go_loopg [5] us.length (fun m s5 W => ∃ (j : Nat), j ≤ us.length ∧ m = us.length - j ∧ s5 = .int .i64 j ∧ w = W ∧ Hid (∀ i, i < j → ∀ s, us[i]? = some s → ¬ 1000 < s.size))
        case atStart => exact ⟨0, by omega, by omega, rfl, rfl, fun i hi => by omega⟩
        case round =>
          obtain ⟨j, hj, hm, rfl, rfl, HN⟩ := hrel
          have HMJ := Lib.hid hm
          clear hm
          by_cases hjl : j < us.length
          · have hjl' : (j : Int) < (us.length : Int) := by omega
            have hj0 : (0 : Int) ≤ (j : Int) := by omega
            obtain ⟨s, hs⟩ : ∃ s, us[j]? = some s := ⟨_, List.getElem?_eq_getElem hjl⟩
            obtain ⟨sb, so, rfl, sc⟩ := HS.out.hr j s hs
            by_cases hs3 : 1000 < s.size
            · have hs3' : (s.size : Int) > 1000 := by omega
              have HEE : Hid (Ru.great L = true) := by
                show _ = _
                rw [HD2.out, if_pos]
                rw [List.any_eq_true]
                exact ⟨s, List.mem_of_getElem? hs, by simpa using hs3⟩
              clear hs
              go_wp2_with fail
              go_ret
              rw [HEE.out]
              exact ⟨rfl, rfl⟩
            · have hs3' : ¬ (s.size : Int) > 1000 := by omega
              have HN2 : Hid (∀ i, i < j + 1 → ∀ s, us[i]? = some s → ¬ 1000 < s.size) := fun i hi t ht => by
                by_cases h : i < j
                · exact HN.out i h t ht
                · obtain rfl : i = j := by omega
                  rw [hs] at ht
                  cases ht
                  exact hs3
              clear hs
              go_wp2_with fail
              go_roundg (us.length - (j + 1))
              case measure => have := HMJ.out; omega
              case rel => exact ⟨j + 1, by omega, rfl, by go_num, rfl, HN2.out⟩
          · have hjn : ¬ (j : Int) < (us.length : Int) := by omega
            have HD3 : Hid (Ru.great L = if y < 0 then true else Ru.greatL (L.drop (k + 1)) y) := by
              show _ = _
              rw [HD2.out, if_neg]
              intro h
              rw [List.any_eq_true] at h
              obtain ⟨s, hs, h9⟩ := h
              obtain ⟨i, hi, rfl⟩ := List.mem_iff_getElem.1 hs
              exact HN.out i (by omega) _ (List.getElem?_eq_getElem hi) (by simpa using h9)
            by_cases hy0 : y < 0
            · have HEE : Hid (Ru.great L = true) := by show _ = _; rw [HD3.out, if_pos hy0]
              go_wp2_with fail
              refine HMU.out.mono ?_
              rintro e w2 ⟨rfl, rfl⟩
              go_wp2_with fail
              go_ret
              rw [HEE.out]
              exact ⟨rfl, rfl⟩
            · have HEE : Hid (Ru.great L = Ru.greatL (L.drop (k + 1)) y) := by show _ = _; rw [HD3.out, if_neg hy0]
              have hy1 : 0 ≤ y := by omega
              go_wp2_with fail
              refine HMU.out.mono ?_
              rintro e w2 ⟨rfl, rfl⟩
              go_wp2_with fail
              go_roundg (L.length - (k + 1))
              case measure => have := HM.out; omega
              case rel => exact ⟨k + 1, y, by omega, rfl, rfl, by go_num, hy1, hmb.2, rfl, HEE.out⟩
    · have hlt' : ¬ (k : Int) < (L.length : Int) := by omega
      have HEE : Hid (Ru.great L = false) := by show _ = _; rw [HE.out, List.drop_eq_nil_of_le (by omega), Ru.greatL]
      go_wp2_with fail
      go_ret
      rw [HEE.out]
      exact ⟨rfl, rfl⟩
end Go.Proofs.YtgklmpooonnmiaaDoor

namespace Go.Proofs.YtgklmpooonnmiaaDoor
open Go.RowKit
theorem ownsRow_empty5 (w : World) : (w.alloc (.cells #[] 80)).ownsRow w.heap.size 80 5 (.slice (some ⟨w.heap.size, 0, none⟩) 0 0) 0 [] :=
  ⟨by simp, Or.inr ⟨_, 0, #[], rfl, Nat.le_refl _, heap_alloc_last w _, by omega, by decide, rfl, by simp⟩⟩
/-- the cells of expressions in a slice, one behind the other. -/
theorem LA.news {w : World} {ad : Addr} {c : Nat} {f : Nat → List Value} {L : List Ex} (h : LA w (some ad) c f L) :
    ∃ css : List (List Value), css.length = L.length ∧ (∀ i, i < L.length → css[i]? = some (f i)) ∧ css.flatten.length = L.length * 5 ∧ (∀ j u, css.flatten[j]? = some u → w.cell? (ad.add j) = some u) ∧ ∀ u ∈ css.flatten, u.oneCell' = true := by
  have h5 : ∀ i, i < L.length → (f i).length = 5 ∧ (∀ u ∈ f i, u.oneCell' = true) ∧ ∀ k u, (f i)[k]? = some u → w.cell? (ad.add (i * 5 + k)) = some u := fun i hi => by
    obtain ⟨a', ha, v0, v1, v2, v3, v4, hf, c0, c1, c2, c3, c4⟩ := h.hr i L[i] (List.getElem?_eq_getElem hi)
    obtain ⟨op, s, n, q, k9, c9, p, hf2⟩ := (h.hx i L[i] (List.getElem?_eq_getElem hi)).form
    cases ha
    refine ⟨by rw [hf]; rfl, ?_, fun k u hk => ?_⟩
    · rw [hf2]; intro u hu; simp only [List.mem_cons, List.not_mem_nil, or_false] at hu; rcases hu with rfl | rfl | rfl | rfl | rfl <;> rfl
    · rw [hf] at hk
      have hadd : ∀ m, 0 < m → ad.add (i * 5 + m) = ⟨(ad.add (i * 5)).block, (ad.add (i * 5)).off + m, none⟩ := fun m hm => by
        unfold Addr.add
        rw [if_neg (by omega)]
        split
        · rename_i h0; rw [h0]; simp
        · simp; omega
      match k, hk with
      | 0, hk => simp at hk; subst hk; exact c0
      | 1, hk => simp at hk; subst hk; rw [hadd 1 (by omega)]; exact c1
      | 2, hk => simp at hk; subst hk; rw [hadd 2 (by omega)]; exact c2
      | 3, hk => simp at hk; subst hk; rw [hadd 3 (by omega)]; exact c3
      | 4, hk => simp at hk; subst hk; rw [hadd 4 (by omega)]; exact c4
      | k + 5, hk => simp at hk
  refine ⟨(List.range L.length).map f, by simp, fun i hi => by simp [hi], ?_, fun j u hj => ?_, fun u hu => ?_⟩
  · have : ∀ (l : List Nat), (∀ i ∈ l, (f i).length = 5) → (l.map f).flatten.length = l.length * 5 := by
      intro l
      induction l with
      | nil => intro _; rfl
      | cons a r ih => intro hl; rw [List.map_cons, List.flatten_cons, List.length_append, ih (fun i hi => hl i (List.mem_cons_of_mem _ hi)), hl a (by simp), List.length_cons]; omega
    rw [this _ (fun i hi => (h5 i (List.mem_range.1 hi)).1)]
    simp
  · have hcs : ∀ (i : Nat) (cs : List Value), ((List.range L.length).map f)[i]? = some cs → cs.length = 5 := fun i cs hi => by
      rw [List.getElem?_map] at hi
      cases hr : (List.range L.length)[i]? with
      | none => rw [hr] at hi; cases hi
      | some k =>
        rw [hr] at hi
        obtain ⟨h1, h2⟩ := List.getElem?_eq_some_iff.1 hr
        simp at h1 h2 hi
        subst h2 hi
        exact (h5 i h1).1
    have hjl : j < ((List.range L.length).map f).flatten.length := (List.getElem?_eq_some_iff.1 hj).1
    have hlen : ((List.range L.length).map f).flatten.length = L.length * 5 := by
      have : ∀ (l : List Nat), (∀ i ∈ l, (f i).length = 5) → (l.map f).flatten.length = l.length * 5 := by
        intro l
        induction l with
        | nil => intro _; rfl
        | cons a r ih => intro hl; rw [List.map_cons, List.flatten_cons, List.length_append, ih (fun i hi => hl i (List.mem_cons_of_mem _ hi)), hl a (by simp), List.length_cons]; omega
      rw [this _ (fun i hi => (h5 i (List.mem_range.1 hi)).1)]
      simp
    have hi : j / 5 < L.length := by omega
    have hk : j % 5 < (f (j / 5)).length := by rw [(h5 _ hi).1]; omega
    have h9 := flat_at _ hcs (j / 5) (f (j / 5)) (j % 5) _ (by simp [hi]) (List.getElem?_eq_getElem hk)
    rw [show 5 * (j / 5) + j % 5 = j by omega, hj] at h9
    have h8 := (h5 _ hi).2.2 (j % 5) u (by rw [List.getElem?_eq_getElem hk]; exact h9.symm)
    rw [show j / 5 * 5 + j % 5 = j by omega] at h8
    exact h8
  · obtain ⟨cs, hcs, hu⟩ := List.mem_flatten.1 hu
    obtain ⟨i, hi, rfl⟩ := List.mem_map.1 hcs
    exact (h5 i (List.mem_range.1 hi)).2.1 u hu
/-- what 'slices.Clone' gives: a row of its own with the same cells. -/
def Cloned (w : World) (f : Nat → List Value) (n : Nat) (ty : TypeId) (k : Nat) (v : Value) (w' : World) : Prop :=
  ∃ css : List (List Value), css.length = n ∧ (∀ i, i < n → css[i]? = some (f i)) ∧ css.flatten.length = n * k ∧ w'.ownsRow w.heap.size ty k v n css.flatten ∧ Fr [] w w'
set_option maxHeartbeats 4000000 in
set_option maxRecDepth 100000 in
theorem clone_ex (w : World) (q : Option Addr) (c : Nat) (f : Nat → List Value) (L : List Ex) (h : LA w q c f L) (hn : L.length ≤ 1000000) :
    Calls Tryd.prog 77 #[.slice q L.length c] w fun e w' => ∃ v, e = .returned v ∧ Cloned w f L.length 80 5 v w' := by
  have hnil : ∀ (w : World) (a : Option Addr) (n c n' c' : Nat), (binOp .eql 76 (.slice a n c) (.slice none n' c')).run Tryd.prog w = .ok (.bool a.isNone) w := fun w a n c n' c' => Lib.run_eql_slice_nil w _ _ a n c n' c' Tryd.underlying76
  obtain ⟨i0, hi, hz0, hz1, hz2⟩ := info_parts infoEx
  cases q with
  | none =>
    have h0 : L.length = 0 := by
      by_cases hl : 0 < L.length
      · obtain ⟨ad, hq, _⟩ := h.hr 0 L[0] (List.getElem?_eq_getElem hl)
        cases hq
      · omega
    rw [h0]
    go_enter Tryd.func77, Tryd.ntmps77
    go_wp2
    go_ret
    exact ⟨_, rfl, [], rfl, fun i hi => by omega, rfl, ⟨rfl, Or.inl ⟨rfl, rfl⟩⟩, Fr.refl _ _⟩
  | some ad =>
    obtain ⟨css, hl, hcs, hfl, hcells, hone⟩ := h.news
    have HC : Hid (∀ j u, css.flatten[j]? = some u → w.cell? (ad.add j) = some u) := hcells
    have HO : Hid (∀ u ∈ css.flatten, u.oneCell' = true) := hone
    have HI : Hid (Tryd.prog.info? 80 = some i0) := hi
    have HZ : Hid (i0.zero = some (.agg #[.int .i64 0, .string ⟨#[]⟩, .int .i64 0, .slice none 0 0, .int .i64 0]) ∧ i0.size = 5 ∧ i0.bytes = 64) := ⟨hz0, hz1, hz2⟩
    clear hcells hone h hi hz0 hz1 hz2
    generalize L.length = n at *
    go_enter Tryd.func77, Tryd.ntmps77
    go_wp2_with (at_builtin; refine wpList_append_own (w.alloc _) rfl (.tmp 5) (.tmp 6) 76 rfl w.heap.size 80 i0 _ 5 64 Tryd.underlying76 HI.out HZ.out.1 HZ.out.2.1 HZ.out.2.2 rfl (by decide) _ _ _ rfl (World.ownsRow_made w #[] 0 (Nat.le_refl _) (Nat.zero_le _) rfl) ad n c css.flatten rfl hfl (fun j u hj => Lib.cell?_alloc_some _ (HC.out j u hj)) HO.out (by unfold maxLen; omega) (by omega) (by simp) ?_)
    intro v' w1 hown hgrow _
    go_wp2
    go_ret
    refine ⟨v', rfl, css, hl, hcs, hfl, by simpa using hown, ?_⟩
    exact ((Fr.refl [] w).alloc _).trans (Fr.of_grown hgrow) (fun y hy => .inr (by simp [Value.ownBlock] at hy; omega))
end Go.Proofs.YtgklmpooonnmiaaDoor

namespace Go.Proofs.YtgklmpooonnmiaaDoor
open Go.RowKit
mutual
/-- an expression without its places. -/
def Ex.plain : Ex → Ex
  | .mk op s n L _ => .mk op s n (Ex.plains L) 0
def Ex.plains : List Ex → List Ex
  | [] => []
  | x :: r => Ex.plain x :: Ex.plains r
end
mutual
/-- no list is long. -/
def Ex.few : Ex → Prop
  | .mk _ _ _ L _ => L.length ≤ 1000000 ∧ Ex.fews L
def Ex.fews : List Ex → Prop
  | [] => True
  | x :: r => Ex.few x ∧ Ex.fews r
end
theorem Ex.plains_len : ∀ L, (Ex.plains L).length = L.length
  | [] => rfl
  | x :: r => by rw [Ex.plains, List.length_cons, List.length_cons, Ex.plains_len r]
theorem Ex.plains_at : ∀ (L : List Ex) (i : Nat), (Ex.plains L)[i]? = (L[i]?).map Ex.plain
  | [], i => by simp [Ex.plains]
  | x :: r, 0 => by simp [Ex.plains]
  | x :: r, i + 1 => by rw [Ex.plains, List.getElem?_cons_succ, List.getElem?_cons_succ]; exact Ex.plains_at r i
theorem Ex.fews_at : ∀ {L : List Ex} {i : Nat} {x : Ex}, Ex.fews L → L[i]? = some x → Ex.few x
  | [], i, x, _, h => by simp at h
  | y :: r, 0, x, h, hx => by simp at hx; subst hx; rw [Ex.fews] at h; exact h.1
  | y :: r, i + 1, x, h, hx => by rw [Ex.fews] at h; exact Ex.fews_at h.2 (by simpa using hx)
theorem flat_set : ∀ (css : List (List Value)) (k : Nat), (∀ (i : Nat) (cs : List Value), css[i]? = some cs → cs.length = k) → ∀ (i : Nat) (cs : List Value) (j : Nat) (u : Value), css[i]? = some cs → j < k → css.flatten.set (k * i + j) u = (css.set i (cs.set j u)).flatten := by
  intro css k
  induction css with
  | nil => intro _ i cs j u hi; simp at hi
  | cons a r ih =>
    intro h i cs j u hi hj
    have ha := h 0 a rfl
    cases i with
    | zero =>
      simp at hi; subst hi
      rw [Nat.mul_zero, Nat.zero_add, List.flatten_cons, List.set_append_left _ _ (by omega)]
      rfl
    | succ i =>
      rw [List.flatten_cons, List.set_append_right _ _ (by rw [ha, Nat.mul_succ]; omega), ha, show k * (i + 1) + j - k = k * i + j by rw [Nat.mul_succ]; omega]
      rw [ih (fun q cs hq => h (q + 1) cs (by simpa using hq)) i cs j u (by simpa using hi) hj]
      rfl
/-- what plain's loop holds: the first k are without places. -/
structure PlSt (w : World) (v : Value) (f : Nat → List Value) (L : List Ex) (k : Nat) (css : List (List Value)) (W : World) : Prop where
  own : W.ownsRow w.heap.size 80 5 v L.length css.flatten
  len : css.length = L.length
  five : ∀ (i : Nat) (cs : List Value), css[i]? = some cs → cs.length = 5
  old : ∀ i, k ≤ i → i < L.length → css[i]? = some (f i)
  new : ∀ (i : Nat) (x : Ex) (cs : List Value), i < k → L[i]? = some x → css[i]? = some cs → Rep W (fun b => w.heap.size ≤ b ∧ v.ownBlock ≠ some b) cs x.plain
  fr : Fr [] w W
theorem LRep.head {w : World} {D : Nat → Prop} {v : Value} {L : List Ex} (h : LRep w D v L) (op : Int) (s : ByteArray) (n p : Int) : Rep w D [.int .i64 op, .string s, .int .i64 n, v, .int .i64 p] (.mk op s n L p) := by
  unfold LRep at h
  cases h with
  | mk _ _ _ _ _ q c f hc hm hr hx => exact .mk op s n L p q c f hc hm hr hx
theorem LRep.shape {w : World} {D : Nat → Prop} {v : Value} {L : List Ex} (h : LRep w D v L) : ∃ q c, v = .slice q L.length c := by
  unfold LRep at h
  cases h with
  | mk _ _ _ _ _ q c f hc hm hr hx => exact ⟨_, _, rfl⟩
/-- in the middle of a round: the cells of number k are under way. -/
structure PlMid (w : World) (g c0 : Nat) (f : Nat → List Value) (L : List Ex) (k : Nat) (cs : List Value) (css : List (List Value)) (W : World) : Prop where
  own : W.ownsRow w.heap.size 80 5 (.slice (some ⟨g, 0, none⟩) L.length c0) L.length css.flatten
  len : css.length = L.length
  five : ∀ (i : Nat) (cs : List Value), css[i]? = some cs → cs.length = 5
  at_ : css[k]? = some cs
  old : ∀ i, k < i → i < L.length → css[i]? = some (f i)
  new : ∀ (i : Nat) (x : Ex) (cs : List Value), i < k → L[i]? = some x → css[i]? = some cs → Rep W (fun b => w.heap.size ≤ b ∧ b ≠ g) cs x.plain
  fr : Fr [] w W
  bg : w.heap.size ≤ g
theorem PlSt.mid {w : World} {g c0 : Nat} {f : Nat → List Value} {L : List Ex} {k : Nat} {css : List (List Value)} {W : World} (h : PlSt w (.slice (some ⟨g, 0, none⟩) L.length c0) f L k css W) (hk : k < L.length) (hg : w.heap.size ≤ g) : PlMid w g c0 f L k (f k) css W :=
  ⟨h.own, h.len, h.five, h.old k (Nat.le_refl _) hk, fun i hi hl => h.old i (by omega) hl, fun i x cs hi hx hc => (h.new i x cs hi hx hc).mono (fun b _ hb => ⟨hb.1, fun h9 => hb.2 (by simp [Value.ownBlock, h9])⟩), h.fr, hg⟩
theorem PlMid.done {w : World} {g c0 : Nat} {f : Nat → List Value} {L : List Ex} {k : Nat} {cs : List Value} {css : List (List Value)} {W : World} (h : PlMid w g c0 f L k cs css W) {x : Ex} (hx : L[k]? = some x) (hr : Rep W (fun b => w.heap.size ≤ b ∧ b ≠ g) cs x.plain) : PlSt w (.slice (some ⟨g, 0, none⟩) L.length c0) f L (k + 1) css W := by
  have hm : ∀ b, b < W.heap.size → (w.heap.size ≤ b ∧ b ≠ g) → (w.heap.size ≤ b ∧ (Value.slice (some ⟨g, 0, none⟩) L.length c0).ownBlock ≠ some b) := fun b _ hb => ⟨hb.1, fun h9 => hb.2 (by simp [Value.ownBlock] at h9; exact h9.symm)⟩
  refine ⟨h.own, h.len, h.five, fun i hi hl => h.old i (by omega) hl, fun i y ds hi hy hd => ?_, h.fr⟩
  by_cases he : i = k
  · subst he
    rw [hx] at hy
    rw [h.at_] at hd
    cases hy; cases hd
    exact hr.mono hm
  · exact (h.new i y ds (by omega) hy hd).mono hm
theorem PlMid.store {w : World} {g c0 : Nat} {f : Nat → List Value} {L : List Ex} {k : Nat} {cs : List Value} {css : List (List Value)} {W : World} (h : PlMid w g c0 f L k cs css W) (j : Nat) (hj : j < 5) (u : Value) : PlMid w g c0 f L k (cs.set j u) (css.set k (cs.set j u)) (W.setCell ⟨g, k * 5 + j, none⟩ u) := by
  have hkl : k < css.length := (List.getElem?_eq_some_iff.1 h.at_).1
  have hs := h.own.stored (k * 5 + j) u
  have he : css.flatten.set (k * 5 + j) u = (css.set k (cs.set j u)).flatten := by rw [Nat.mul_comm]; exact flat_set css 5 h.five k cs j u h.at_ hj
  rw [he] at hs
  have hf := Fr.of_grown hs.2
  refine ⟨hs.1, by rw [List.length_set]; exact h.len, fun i ds hi => ?_, by rw [List.getElem?_set_self hkl], fun i hi hl => ?_, fun i x ds hi hx hd => ?_, h.fr.trans hf (fun y hy => .inr (by have := h.bg; simp at hy; omega)), h.bg⟩
  · by_cases he : i = k
    · subst he; rw [List.getElem?_set_self hkl] at hi; cases hi; rw [List.length_set]; exact h.five _ _ h.at_
    · rw [List.getElem?_set_ne (by omega)] at hi; exact h.five _ _ hi
  · rw [List.getElem?_set_ne (by omega)]; exact h.old i hi hl
  · rw [List.getElem?_set_ne (by omega)] at hd
    exact (h.new i x ds hi hx hd).fr hf (fun y hy _ hc => hc.2 (by simpa using hy))
theorem PlMid.step {w : World} {g c0 : Nat} {f : Nat → List Value} {L : List Ex} {k : Nat} {cs : List Value} {css : List (List Value)} {W W' : World} (h : PlMid w g c0 f L k cs css W) (hf : Fr [] W W') : PlMid w g c0 f L k cs css W' :=
  ⟨ownsRow_fr h.own hf, h.len, h.five, h.at_, h.old, fun i x cs hi hx hc => (h.new i x cs hi hx hc).fr hf (fun y hy => by cases hy), h.fr.trans0 hf, h.bg⟩
theorem PlMid.cell {w : World} {g c0 : Nat} {f : Nat → List Value} {L : List Ex} {k : Nat} {cs : List Value} {css : List (List Value)} {W : World} (h : PlMid w g c0 f L k cs css W) (j : Nat) (u : Value) (hu : cs[j]? = some u) : W.cell? ⟨g, k * 5 + j, none⟩ = some u ∧ W.frozen? ⟨g, k * 5 + j, none⟩ = false := by
  have hkl : k < L.length := by rw [← h.len]; exact (List.getElem?_eq_some_iff.1 h.at_).1
  have hj : j < 5 := by rw [← h.five k cs h.at_]; exact (List.getElem?_eq_some_iff.1 hu).1
  refine ⟨?_, h.own.frozenAt _⟩
  rw [h.own.cellAt _ (by omega), Nat.mul_comm]
  exact flat_at css h.five k cs j u h.at_ hu
set_option maxHeartbeats 4000000 in
set_option maxRecDepth 100000 in
/-- one level of plain. -/
theorem plain_step (w : World) (q : Option Addr) (c : Nat) (f : Nat → List Value) (L : List Ex) (h : LA w q c f L) (hn : L.length ≤ 1000000)
    (hS : ∀ (W : World) (i : Nat) (op : Int) (s : ByteArray) (n : Int) (M : List Ex) (p : Int) (q' : Option Addr) (c' : Nat), Fr [] w W → L[i]? = some (.mk op s n M p) → f i = [.int .i64 op, .string s, .int .i64 n, .slice q' M.length c', .int .i64 p] →
      Calls Tryd.prog 47 #[.slice q' M.length c'] W fun e w' => ∃ v, e = .returned v ∧ LRep w' (fun b => W.heap.size ≤ b) v (Ex.plains M) ∧ Fr [] W w') :
    Calls Tryd.prog 47 #[.slice q L.length c] w fun e w' => ∃ v, e = .returned v ∧ LRep w' (fun b => w.heap.size ≤ b) v (Ex.plains L) ∧ Fr [] w w' := by
  have HL := Lib.hid h
  have HS := Lib.hid hS
  have HCL := Lib.hid (clone_ex w q c f L h hn)
  clear h hS
  go_enter Tryd.func47, Tryd.ntmps47
  go_wp2_with fail
  refine HCL.out.mono ?_
  rintro e W ⟨v, rfl, css, hl, hcs, hfl, hown, hF⟩
  have hbn : L.length ≤ 9223372036854775807 := by omega
  obtain ⟨q0, c0, hv⟩ : ∃ q0 c0, v = .slice q0 L.length c0 := by
    rcases hown.2 with ⟨hv, h0⟩ | ⟨g, cap, cur, hv, _⟩
    · exact ⟨none, 0, by rw [hv, h0]⟩
    · exact ⟨_, _, hv⟩
  subst hv
  have H0 : Hid (PlSt w (.slice q0 L.length c0) f L 0 css W) := ⟨hown, hl, fun i cs hi => by
    have h1 : i < L.length := by have := (List.getElem?_eq_some_iff.1 hi).1; omega
    rw [hcs i h1] at hi
    cases hi
    obtain ⟨op, s1, n1, q1, k1, c1, p1, hf2⟩ := (HL.out.hx i _ (List.getElem?_eq_getElem h1)).form
    rw [hf2]; rfl, fun i _ hi => hcs i hi, fun i x cs hi => by omega, hF⟩
  clear hl hcs hfl hown hF
  go_wp2_with fail
  go_loopg [9] L.length (fun m s9 W => ∃ (k : Nat) (css : List (List Value)), k ≤ L.length ∧ m = L.length - k ∧ s9 = .int .i64 k ∧ Hid (PlSt w (.slice q0 L.length c0) f L k css W))
  case atStart => exact ⟨0, css, by omega, by omega, rfl, H0.out⟩
  case round =>
    obtain ⟨k, css1, hk, hm, rfl, H⟩ := hrel
    have HM := Lib.hid hm
    clear hm
    by_cases hlt : k < L.length
    · have hlt' : (k : Int) < (L.length : Int) := by omega
      have hk0 : (0 : Int) ≤ (k : Int) := by omega
      obtain ⟨g, hv, hbg, hgl⟩ : ∃ g, (Value.slice q0 L.length c0) = .slice (some ⟨g, 0, none⟩) L.length c0 ∧ w.heap.size ≤ g ∧ g < wr.heap.size := by
        obtain ⟨g, cap, h1, h2, h3⟩ := H.out.own.form (by omega)
        cases h1
        exact ⟨g, rfl, h2, h3⟩
      cases hv
      have HMID := Lib.hid (H.out.mid hlt hbg)
      clear H
      obtain ⟨x, hx⟩ : ∃ x, L[k]? = some x := ⟨_, List.getElem?_eq_getElem hlt⟩
      have hRA := HL.out.hx k x hx
      obtain ⟨fk, hfk⟩ : ∃ fk, f k = fk := ⟨_, rfl⟩
      rw [hfk] at hRA HMID
      cases hRA with
      | mk op s n M p q' c' g' hc hm hr hx2 =>
        clear hc hm hr hx2
        have h3 := HMID.out.cell 3 _ rfl
        have h4 := HMID.out.cell 4 _ rfl
        obtain ⟨h3a, h3b⟩ := h3
        obtain ⟨h4a, h4b⟩ := h4
        have HM1 := Lib.hid (HMID.out.store 4 (by omega) (.int .i64 0))
        clear HMID
        have HX := Lib.hid hx
        have HFK := Lib.hid hfk
        clear hx hfk
        go_wp2_with fail
        refine (HS.out _ k op s n M p q' c' HM1.out.fr HX.out HFK.out).mono ?_
        rintro e W2 ⟨v2, rfl, hR2, hF2⟩
        have HM2 := Lib.hid (HM1.out.step hF2)
        have HR2 := Lib.hid hR2
        obtain ⟨q2, c2, hv2⟩ := hR2.shape
        subst hv2
        have hgz := HM1.out.own.form (by omega)
        have HG := Lib.hid (show g < (wr.setCell ⟨g, k * 5 + 4, none⟩ (.int .i64 0)).heap.size by simpa using hgl)
        clear hgz hR2 HM1
        obtain ⟨h5a, h5b⟩ := HM2.out.cell 3 _ rfl
        have HM3 := Lib.hid (HM2.out.store 3 (by omega) (.slice q2 (Ex.plains M).length c2))
        go_wp2_with fail
        go_roundg (L.length - (k + 1))
        case measure => have := HM.out; omega
        case rel =>
          refine ⟨k + 1, _, by omega, rfl, by go_num, HM3.out.done HX.out ?_⟩
          have h9 := (((HR2.out.head op s n 0).mono (E := fun b => w.heap.size ≤ b ∧ b ≠ g) (fun b _ hb => ⟨Nat.le_trans hbg (Nat.le_of_lt (Nat.lt_of_lt_of_le HG.out hb)), fun h9 => by have := HG.out; omega⟩)).fr (Fr.of_grown (HM2.out.own.stored (k * 5 + 3) (.slice q2 (Ex.plains M).length c2)).2) (fun y hy _ hc => hc.2 (by simpa using hy)))
          exact h9
    · have hlt' : ¬ (k : Int) < (L.length : Int) := by omega
      go_wp2_with fail
      go_ret
      refine ⟨_, rfl, ?_, H.out.fr⟩
      have hke : k = L.length := by omega
      subst hke
      have H1 := H.out
      by_cases hz : 0 < L.length
      · obtain ⟨g, cap, hv, hbg, hgl⟩ := H1.own.form hz
        cases hv
        have h9 := Rep.of_own (w := wr) (D := fun b => w.heap.size ≤ b) 0 ⟨#[]⟩ 0 0 (Ex.plains L) css1 g w.heap.size c0 hbg (by rw [Ex.plains_len]; exact H1.len) (by rw [Ex.plains_len]; exact H1.own) (fun i y cs hy hc => by
          rw [Ex.plains_at] at hy
          cases hL : L[i]? with
          | none => rw [hL] at hy; cases hy
          | some x =>
            rw [hL] at hy
            cases hy
            exact (H1.new i x cs (List.getElem?_eq_some_iff.1 hL).1 hL hc).mono (fun b _ hb => hb.1))
        rw [Ex.plains_len] at h9
        exact h9
      · have hz0 : L = [] := List.length_eq_zero_iff.1 (by omega)
        subst hz0
        rcases H1.own.2 with ⟨hv, _⟩ | ⟨g, cap, cur, hv, hb, hrow, h1, h2, _⟩
        · cases hv
          exact Rep.leaf _ _ 0 _ 0 0
        · cases hv
          exact .mk 0 _ 0 [] 0 _ c0 (fun _ => []) (Nat.zero_le _) h2 (fun i x hi => by simp at hi) (fun i x hi => by simp at hi)
theorem plain_of {w : World} {cs : List Value} {x : Ex} (h : RepA w cs x) : ∀ (W : World) (op : Int) (s : ByteArray) (n : Int) (M : List Ex) (p : Int) (q : Option Addr) (c : Nat), Fr [] w W → x.few → x = .mk op s n M p → cs = [.int .i64 op, .string s, .int .i64 n, .slice q M.length c, .int .i64 p] →
    Calls Tryd.prog 47 #[.slice q M.length c] W fun e w' => ∃ v, e = .returned v ∧ LRep w' (fun b => W.heap.size ≤ b) v (Ex.plains M) ∧ Fr [] W w' := by
  induction h with
  | mk op s n L p q c f hc hm hr hx ih =>
    intro W op' s' n' M p' q' c' hW hfew hx0 hcs
    cases hx0
    simp only [List.cons.injEq, and_true, Value.slice.injEq, true_and] at hcs
    obtain ⟨rfl, rfl⟩ := hcs
    rw [Ex.few] at hfew
    have h1 : LA w q c f L := ⟨hc, hm, hr, hx⟩
    exact plain_step W q c f L (h1.fr hW) hfew.1 (fun V i op s n M p q' c' hV hi hf => ih i _ hi V op s n M p q' c' (hW.trans0 hV) (Ex.fews_at hfew.2 hi) rfl hf)
/-- plain, of a slice. -/
theorem pol_plain (w : World) (q : Option Addr) (c : Nat) (f : Nat → List Value) (L : List Ex) (h : LA w q c f L) (hn : L.length ≤ 1000000) (hf : Ex.fews L) :
    Calls Tryd.prog 47 #[.slice q L.length c] w fun e w' => ∃ v, e = .returned v ∧ LRep w' (fun b => w.heap.size ≤ b) v (Ex.plains L) ∧ Fr [] w w' :=
  plain_step w q c f L h hn (fun V i op s n M p q' c' hV hi hfi => plain_of (h.hx i _ hi) V op s n M p q' c' hV (Ex.fews_at hf hi) rfl hfi)
end Go.Proofs.YtgklmpooonnmiaaDoor

namespace Go.Proofs.YtgklmpooonnmiaaDoor
open Go.RowKit
theorem flatk_at (k : Nat) : ∀ (css : List (List Value)), (∀ (i : Nat) (cs : List Value), css[i]? = some cs → cs.length = k) → ∀ (i : Nat) (cs : List Value) (j : Nat) (v : Value), css[i]? = some cs → cs[j]? = some v → css.flatten[k * i + j]? = some v := by
  intro css
  induction css with
  | nil => intro _ i cs j v hi; simp at hi
  | cons a r ih =>
    intro h i cs j v hi hj
    have ha := h 0 a rfl
    cases i with
    | zero =>
      simp at hi; subst hi
      have := (List.getElem?_eq_some_iff.1 hj).1
      rw [List.flatten_cons, List.getElem?_append_left (by omega)]
      simpa using hj
    | succ i =>
      have e1 : k * (i + 1) + j - k = k * i + j := by rw [Nat.mul_succ]; omega
      rw [List.flatten_cons, List.getElem?_append_right (by rw [ha, Nat.mul_succ]; omega), ha, e1]
      exact ih (fun k cs hk => h (k + 1) cs (by simpa using hk)) i cs j v (by simpa using hi) hj
theorem flatk_len (k : Nat) : ∀ (css : List (List Value)), (∀ (i : Nat) (cs : List Value), css[i]? = some cs → cs.length = k) → css.flatten.length = css.length * k
  | [], _ => by simp
  | a :: r, h => by rw [List.flatten_cons, List.length_append, flatk_len k r (fun i cs hi => h (i + 1) cs (by simpa using hi)), h 0 a rfl, List.length_cons, Nat.succ_mul]; omega
/-- the cells of n things of k cells, one behind the other. -/
theorem news_of {w : World} {ad : Addr} {k n : Nat} {f : Nat → List Value} (hk : 0 < k) (h5 : ∀ i, i < n → (f i).length = k ∧ (∀ u ∈ f i, u.oneCell' = true) ∧ ∀ j u, (f i)[j]? = some u → w.cell? (ad.add (i * k + j)) = some u) :
    ∃ css : List (List Value), css.length = n ∧ (∀ i, i < n → css[i]? = some (f i)) ∧ css.flatten.length = n * k ∧ (∀ j u, css.flatten[j]? = some u → w.cell? (ad.add j) = some u) ∧ ∀ u ∈ css.flatten, u.oneCell' = true := by
  have hcs : ∀ (i : Nat) (cs : List Value), ((List.range n).map f)[i]? = some cs → cs.length = k := fun i cs hi => by
    rw [List.getElem?_map] at hi
    cases hr : (List.range n)[i]? with
    | none => rw [hr] at hi; cases hi
    | some q =>
      rw [hr] at hi
      obtain ⟨h1, h2⟩ := List.getElem?_eq_some_iff.1 hr
      simp at h1 h2 hi
      subst h2 hi
      exact (h5 i h1).1
  have hlen := flatk_len k _ hcs
  rw [List.length_map, List.length_range] at hlen
  refine ⟨(List.range n).map f, by simp, fun i hi => by simp [hi], hlen, fun j u hj => ?_, fun u hu => ?_⟩
  · have hjl := (List.getElem?_eq_some_iff.1 hj).1
    rw [hlen] at hjl
    have hi : j / k < n := (Nat.div_lt_iff_lt_mul hk).2 hjl
    have hm := Nat.mod_lt j hk
    have hd := Nat.div_add_mod j k
    have hkk : j % k < (f (j / k)).length := by rw [(h5 _ hi).1]; exact hm
    have h9 := flatk_at k _ hcs (j / k) (f (j / k)) (j % k) _ (by simp [hi]) (List.getElem?_eq_getElem hkk)
    rw [hd, hj] at h9
    have h8 := (h5 _ hi).2.2 (j % k) u (by rw [List.getElem?_eq_getElem hkk]; exact h9.symm)
    rw [Nat.mul_comm, hd] at h8
    exact h8
  · obtain ⟨cs, hcs, hu⟩ := List.mem_flatten.1 hu
    obtain ⟨i, hi, rfl⟩ := List.mem_map.1 hcs
    exact (h5 i (List.mem_range.1 hi)).2.1 u hu
theorem add_two {ad : Addr} (i m : Nat) (hm : 0 < m) : ad.add (i + m) = ⟨(ad.add i).block, (ad.add i).off + m, none⟩ := by
  unfold Addr.add
  rw [if_neg (by omega)]
  split
  · rename_i h0; rw [h0]; simp
  · simp; omega
/-- the cells of rules in a slice. -/
theorem RsA.news {w : World} {ad : Addr} {c : Nat} {f : Nat → List Value} {L : List Ru} (h : RsA w (some ad) c f L) :
    ∃ css : List (List Value), css.length = L.length ∧ (∀ i, i < L.length → css[i]? = some (f i)) ∧ css.flatten.length = L.length * 4 ∧ (∀ j u, css.flatten[j]? = some u → w.cell? (ad.add j) = some u) ∧ ∀ u ∈ css.flatten, u.oneCell' = true := by
  refine news_of (by decide) fun i hi => ?_
  obtain ⟨a', ha, v0, v1, v2, v3, hf, c0, c1, c2, c3⟩ := h.hr i L[i] (List.getElem?_eq_getElem hi)
  obtain ⟨q1, k1, q2, k2, g, hru⟩ := h.hx i L[i] (List.getElem?_eq_getElem hi)
  cases ha
  refine ⟨by rw [hf]; rfl, ?_, fun k u hk => ?_⟩
  · rw [hru.e]; intro u hu; simp only [List.mem_cons, List.not_mem_nil, or_false] at hu; rcases hu with rfl | rfl | rfl | rfl <;> rfl
  · rw [hf] at hk
    match k, hk with
    | 0, hk => simp at hk; subst hk; exact c0
    | 1, hk => simp at hk; subst hk; rw [add_two _ 1 (by omega)]; exact c1
    | 2, hk => simp at hk; subst hk; rw [add_two _ 2 (by omega)]; exact c2
    | 3, hk => simp at hk; subst hk; rw [add_two _ 3 (by omega)]; exact c3
    | k + 4, hk => simp at hk
set_option maxHeartbeats 4000000 in
set_option maxRecDepth 100000 in
theorem clone_ru (w : World) (q : Option Addr) (c : Nat) (f : Nat → List Value) (L : List Ru) (h : RsA w q c f L) (hn : L.length ≤ 1000000) :
    Calls Tryd.prog 45 #[.slice q L.length c] w fun e w' => ∃ v, e = .returned v ∧ Cloned w f L.length 78 4 v w' := by
  have hnil : ∀ (w : World) (a : Option Addr) (n c n' c' : Nat), (binOp .eql 43 (.slice a n c) (.slice none n' c')).run Tryd.prog w = .ok (.bool a.isNone) w := fun w a n c n' c' => Lib.run_eql_slice_nil w _ _ a n c n' c' Tryd.underlying43
  obtain ⟨i0, hi, hz0, hz1, hz2⟩ := info_parts infoRu
  cases q with
  | none =>
    have h0 : L.length = 0 := by
      by_cases hl : 0 < L.length
      · obtain ⟨ad, hq, _⟩ := h.hr 0 L[0] (List.getElem?_eq_getElem hl)
        cases hq
      · omega
    rw [h0]
    go_enter Tryd.func45, Tryd.ntmps45
    go_wp2
    go_ret
    exact ⟨_, rfl, [], rfl, fun i hi => by omega, rfl, ⟨rfl, Or.inl ⟨rfl, rfl⟩⟩, Fr.refl _ _⟩
  | some ad =>
    obtain ⟨css, hl, hcs, hfl, hcells, hone⟩ := h.news
    have HC : Hid (∀ j u, css.flatten[j]? = some u → w.cell? (ad.add j) = some u) := hcells
    have HO : Hid (∀ u ∈ css.flatten, u.oneCell' = true) := hone
    have HI : Hid (Tryd.prog.info? 78 = some i0) := hi
    have HZ : Hid (i0.zero = some (.agg #[.bool false, .slice none 0 0, .slice none 0 0, .int .i64 0]) ∧ i0.size = 4 ∧ i0.bytes = 64) := ⟨hz0, hz1, hz2⟩
    clear hcells hone h hi hz0 hz1 hz2
    generalize L.length = n at *
    go_enter Tryd.func45, Tryd.ntmps45
    go_wp2_with (at_builtin; refine wpList_append_own (w.alloc _) rfl (.tmp 5) (.tmp 6) 43 rfl w.heap.size 78 i0 _ 4 64 Tryd.underlying43 HI.out HZ.out.1 HZ.out.2.1 HZ.out.2.2 rfl (by decide) _ _ _ rfl (World.ownsRow_made w #[] 0 (Nat.le_refl _) (Nat.zero_le _) rfl) ad n c css.flatten rfl hfl (fun j u hj => Lib.cell?_alloc_some _ (HC.out j u hj)) HO.out (by unfold maxLen; omega) (by omega) (by simp) ?_)
    intro v' w1 hown hgrow _
    go_wp2
    go_ret
    refine ⟨v', rfl, css, hl, hcs, hfl, by simpa using hown, ?_⟩
    exact ((Fr.refl [] w).alloc _).trans (Fr.of_grown hgrow) (fun y hy => .inr (by simp [Value.ownBlock] at hy; omega))
theorem addr_add (b o j : Nat) : (⟨b, o, none⟩ : Addr).add j = ⟨b, o + j, none⟩ := by
  unfold Addr.add
  split <;> simp_all
set_option maxHeartbeats 4000000 in
set_option maxRecDepth 100000 in
theorem clone_str (w : World) (q : Option Addr) (c : Nat) (A : List ByteArray) (h : SA w q c A) (hn : A.length ≤ 1000000) :
    Calls Tryd.prog 46 #[.slice q A.length c] w fun e w' => ∃ v, e = .returned v ∧ SRep w' (fun b => w.heap.size ≤ b) v A ∧ Fr [] w w' := by
  have hnil : ∀ (w : World) (a : Option Addr) (n c n' c' : Nat), (binOp .eql 37 (.slice a n c) (.slice none n' c')).run Tryd.prog w = .ok (.bool a.isNone) w := fun w a n c n' c' => Lib.run_eql_slice_nil w _ _ a n c n' c' Tryd.underlying37
  obtain ⟨i0, hi, hz0, hz1, hz2⟩ := info_parts infoStr
  cases q with
  | none =>
    have h0 : A = [] := by
      by_cases hl : 0 < A.length
      · obtain ⟨b, o, hq, _⟩ := h.hr 0 A[0] (List.getElem?_eq_getElem hl)
        cases hq
      · exact List.eq_nil_of_length_eq_zero (by omega)
    subst h0
    go_enter Tryd.func46, Tryd.ntmps46
    go_wp2
    go_ret
    exact ⟨_, rfl, SRep.none_ _ _, Fr.refl _ _⟩
  | some ad =>
    have HC : Hid (∀ j u, (strs A)[j]? = some u → w.cell? (ad.add j) = some u) := fun j u hj => by
      have hjl : j < A.length := by have := (List.getElem?_eq_some_iff.1 hj).1; simpa [strs] using this
      obtain ⟨b, o, hq, hc⟩ := h.hr j A[j] (List.getElem?_eq_getElem hjl)
      cases hq
      rw [addr_add]
      simp [strs, hjl] at hj
      rw [← hj]; exact hc
    have HO : Hid (∀ u ∈ strs A, u.oneCell' = true) := fun u hu => by
      obtain ⟨x, _, rfl⟩ := List.mem_map.1 hu; rfl
    have hfl : (strs A).length = A.length * 1 := by simp [strs]
    have HI : Hid (Tryd.prog.info? 9 = some i0) := hi
    have HZ : Hid (i0.zero = some (.string ⟨#[]⟩) ∧ i0.size = 1 ∧ i0.bytes = 16) := ⟨hz0, hz1, hz2⟩
    clear h hi hz0 hz1 hz2
    go_enter Tryd.func46, Tryd.ntmps46
    go_wp2_with (at_builtin; refine wpList_append_own (w.alloc _) rfl (.tmp 5) (.tmp 6) 37 rfl w.heap.size 9 i0 _ 1 16 Tryd.underlying37 HI.out HZ.out.1 HZ.out.2.1 HZ.out.2.2 rfl (by decide) _ _ _ rfl (World.ownsRow_made w #[] 0 (Nat.le_refl _) (Nat.zero_le _) rfl) ad A.length c (strs A) rfl hfl (fun j u hj => Lib.cell?_alloc_some _ (HC.out j u hj)) HO.out (by unfold maxLen; omega) (by omega) (by simp) ?_)
    intro v' w1 hown hgrow _
    go_wp2
    go_ret
    refine ⟨v', rfl, SRep.own (by simpa using hown), ?_⟩
    exact ((Fr.refl [] w).alloc _).trans (Fr.of_grown hgrow) (fun y hy => .inr (by simp [Value.ownBlock] at hy; omega))
end Go.Proofs.YtgklmpooonnmiaaDoor
