/-
  Lemmas and contracts that the proofs over this seat use (part ShaSame); no statement of the seat is claimed in this text, and nothing is assumed in it.
-/
import Derived.Test.YtanegflohbgkdaaShaMac2
set_option linter.unusedVariables false
set_option linter.unusedSimpArgs false
namespace Go.Proofs.Ytanegflohbgkdaa
open Go.RowKit
theorem or_zero (v a b : Nat) : v ||| (a ^^^ b) = 0 ↔ v = 0 ∧ a = b := by
  rw [Nat.or_eq_zero_iff]
  refine and_congr_right fun _ => ?_
  constructor
  · intro h
    apply Nat.eq_of_testBit_eq
    intro i
    have := congrArg (fun n => n.testBit i) h
    simp at this
    exact this
  · rintro rfl; exact Nat.xor_self a
theorem take_eq (l m : List Nat) (h : l.length = m.length) (k : Nat) (hk : k < l.length) : l.take (k + 1) = m.take (k + 1) ↔ l.take k = m.take k ∧ l.getD k 0 = m.getD k 0 := by
  have hk' : k < m.length := by omega
  rw [List.take_succ_eq_append_getElem hk, List.take_succ_eq_append_getElem hk']
  have e1 : l.getD k 0 = l[k] := by rw [List.getD_eq_getElem?_getD, List.getElem?_eq_getElem hk]; rfl
  have e2 : m.getD k 0 = m[k] := by rw [List.getD_eq_getElem?_getD, List.getElem?_eq_getElem hk']; rfl
  rw [e1, e2]
  constructor
  · intro h
    have := List.append_inj h (by simp; omega)
    exact ⟨this.1, by simpa using this.2⟩
  · rintro ⟨h1, h2⟩; rw [h1, h2]
set_option maxHeartbeats 4000000 in
theorem same_len (w : World) (x y : Pt) (h : x.len ≠ y.len) (hx : x.len ≤ maxLen) (hy : y.len ≤ maxLen) :
    Calls Try.prog 17 #[.slice x.p x.len x.cap, .slice y.p y.len y.cap] w fun e w' => e = .returned (.bool false) ∧ Fr [] w w' := by
  have h1 : ((x.len : Int) != (y.len : Int)) = true := by rw [bne_iff_ne]; omega
  clear h
  unfold maxLen at hx hy
  go_enter Try.func17, Try.ntmps17
  go_wp2_with fail
  go_ret
  exact ⟨rfl, Fr.refl _ _⟩
set_option maxHeartbeats 4000000 in
theorem same_eq (w : World) (x y : Pt) (hx : x.Ok w) (hy : y.Ok w) (h : x.len = y.len) :
    Calls Try.prog 17 #[.slice x.p x.len x.cap, .slice y.p y.len y.cap] w fun e w' => e = .returned (.bool (x.d == y.d)) ∧ Fr [] w w' := by
  have hxl := hx.sl.hlen
  have hyl := hy.sl.hlen
  have hxc := hx.sl.hcap
  have hxc2 := hx.lenb
  have hyc := hy.sl.hcap
  have hyc2 := hy.lenb
  unfold maxLen at hxc2 hyc2
  have h1 : ((x.len : Int) != (y.len : Int)) = false := by rw [bne_eq_false_iff_eq]; omega
  have HX := Lib.hid hxl
  have HY := Lib.hid hyl
  have HH := Lib.hid h
  clear h hxl hyl
  go_enter Try.func17, Try.ntmps17
  go_wp2_with fail
  go_loopw [5, 6, 14] (fun v _ t W => ∃ (k m : Nat), k ≤ x.len ∧ t = .int .i64 k ∧ v = .int .u8 (m : Int) ∧ m < 256 ∧ (m = 0 ↔ x.d.take k = y.d.take k) ∧ Fr [] w W) (fun _ _ t _ => x.len - (intOf t).toNat)
  case atStart => exact ⟨0, 0, by omega, rfl, rfl, by omega, by simp, Fr.refl _ _⟩
  case round =>
    obtain ⟨k, m, hk, rfl, rfl, hm, hiff, hF⟩ := hrel
    by_cases hlt : k < x.len
    · obtain ⟨q1, o1, hp1, hq1, hb1⟩ := hx.sl.pos (by omega)
      obtain ⟨q2, o2, hp2, hq2, hb2⟩ := hy.sl.pos (by have := HH.out; omega)
      have c1 := (hF.cell (p := ⟨q1, o1 + k, none⟩) hq1 (by simp)).trans (hb1 k (by have := HX.out; omega))
      have c2 := (hF.cell (p := ⟨q2, o2 + k, none⟩) hq2 (by simp)).trans (hb2 k (by have := HY.out; have := HH.out; omega))
      have g1 : x.d.getD k 0 < 256 := getD_lt hx.byt k (by have := HX.out; omega)
      have g2 : y.d.getD k 0 < 256 := getD_lt hy.byt k (by have := HY.out; have := HH.out; omega)
      have ht := take_eq x.d y.d (by have := HX.out; have := HY.out; have := HH.out; omega) k (by have := HX.out; omega)
      have HI : Hid ((m ||| (x.d.getD k 0 ^^^ y.d.getD k 0) = 0) ↔ x.d.take (k + 1) = y.d.take (k + 1)) := by
        show _ ↔ _
        rw [or_zero, ht, hiff]
      generalize x.d.getD k 0 = a at *
      generalize y.d.getD k 0 = b at *
      have hxor : a ^^^ b < 2 ^ 8 := Nat.xor_lt_two_pow g1 g2
      have x1 : bits .or .u8 (m : Int) (bits .xor .u8 (a : Int) (b : Int)) = ((m ||| (a ^^^ b) : Nat) : Int) := by
        rw [u8_xor_nat _ _ g1 g2, u8_or_nat _ _ hm hxor]
      have hor : Hid (m ||| (a ^^^ b) < 256) := Nat.or_lt_two_pow (n := 8) hm hxor
      have klt : (k : Int) < (x.len : Int) := by omega
      have klt2 : (k : Int) < (y.len : Int) := by have := HH.out; omega
      clear ht hiff hb1 hb2 hxor g1 g2
      rw [hp1, hp2]
      go_wp2_with fail
      go_quiet (fail)
      go_wp2_with fail
      go_roundw
      case rel =>
        first | refine ⟨k + 1, m ||| (a ^^^ b), by omega, by go_num, rfl, hor.out, HI.out, hF.drewN _⟩ | ((repeat apply Exists.intro); refine ⟨⟨k + 1, m ||| (a ^^^ b), by omega, by go_num, rfl, hor.out, HI.out, hF.drewN _⟩, rfl⟩)
      case measure => simp [intOf]; omega
    · obtain rfl : k = x.len := by omega
      rw [List.take_of_length_le (by have := HX.out; omega), List.take_of_length_le (by have := HY.out; have := HH.out; omega)] at hiff
      go_wp2_with fail
      go_ret
      have e : ((m : Int) == 0) = (x.d == y.d) := by
        rw [Bool.eq_iff_iff, beq_iff_eq, beq_iff_eq, ← hiff]; omega
      exact ⟨congrArg (fun b => Ending.returned (.bool b)) e, hF⟩
theorem same_any (w : World) (x y : Pt) (hx : x.Ok w) (hy : y.Ok w) :
    Calls Try.prog 17 #[.slice x.p x.len x.cap, .slice y.p y.len y.cap] w fun e w' => e = .returned (.bool (x.d == y.d)) ∧ Fr [] w w' := by
  by_cases h : x.len = y.len
  · exact same_eq w x y hx hy h
  · have e : (x.d == y.d) = false := by
      rw [beq_eq_false_iff_ne]
      intro hd
      have := hx.sl.hlen; have := hy.sl.hlen
      rw [hd] at *; omega
    rw [e]
    exact same_len w x y h hx.lenb hy.lenb
end Go.Proofs.Ytanegflohbgkdaa
