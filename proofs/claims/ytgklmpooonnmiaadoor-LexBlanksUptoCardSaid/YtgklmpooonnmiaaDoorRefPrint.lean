/-
  Lemmas and contracts that the proofs over this seat use (part RefPrint); no statement of the seat is claimed in this text, and nothing is assumed in it.
-/
import Derived.Test.YtgklmpooonnmiaaDoorRefUtf
import Derived.Test.YtgklmpooonnmiaaDoorDecPrint
import Derived.Deep.LoopGhost
set_option linter.unusedVariables false
set_option linter.unusedSimpArgs false
namespace Go.Proofs.YtgklmpooonnmiaaDoor
open Go.RowKit
theorem ba_cons (c : Nat) (l : List Nat) : ba [c] ++ ba l = ba (c :: l) := by
  simp [ba, ByteArray.append_eq, ByteArray.append]
  ext1
  simp
theorem Dec.digs_len (v : Nat) (h : v < 10 ^ 19) : (Dec.digs v).length ≤ 19 := by
  have : ∀ k v, v < 10 ^ (k + 1) → (Dec.digs v).length ≤ k + 1 := by
    intro k
    induction k with
    | zero => intro v h; rw [Dec.digs, if_pos (by omega)]; simp
    | succ k ih =>
      intro v h
      rw [Dec.digs]
      split
      · simp
      · rw [List.length_append]
        have := ih (v / 10) (by rw [Nat.pow_succ] at h; omega)
        simp only [List.length_singleton]; omega
  exact this 18 v h
set_option maxHeartbeats 4000000 in
set_option maxRecDepth 100000 in
theorem ref_print_nat (w : World) (v : Nat) (hv : v ≤ 9223372036854775807) :
    Calls Tryd.prog 31 #[.int .i64 v] w fun e w' => e = .returned (.string (ba (Dec.digs v))) ∧ Fr [] w w' := by
  have h0 : ¬ (v : Int) < 0 := by omega
  have h0' : ((v : Int) == -9223372036854775808) = false := beq_eq_false_iff_ne.2 (by omega)
  have HV := Lib.hid hv
  go_enter Tryd.func31, Tryd.ntmps31
  go_wp2_with fail
  go_loopg [0, 3] 20 (fun q n t W => ∃ j x : Nat, j ≤ 18 ∧ q = 20 - j ∧ n = .int .i64 x ∧ t = .string (ba (Dec.low v j)) ∧ Hid (x = v / 10 ^ j) ∧ (j = 0 ∨ 0 < x) ∧ Hid (Fr [] w W))
  case atStart => exact ⟨0, v, by omega, rfl, rfl, rfl, by show _ = _; simp, Or.inl rfl, Fr.refl _ _⟩
  case round =>
    obtain ⟨j, x, hj, hq, rfl, rfl, HX, hjx, HF⟩ := hrel
    have HQ := Lib.hid hq
    clear hq
    have hxv : x ≤ 9223372036854775807 := by rw [HX.out]; exact Nat.le_trans (Nat.div_le_self _ _) HV.out
    have HX2 : Hid (x / 10 = v / 10 ^ (j + 1)) := by show _ = _; rw [HX.out, Nat.div_div_eq_div_mul, Nat.pow_succ]
    have hLL : (Dec.low v j).length = j := Dec.low_length v j
    have cv := str_new wr #[.int .u8 (48 + (x : Int) % 10)] [48 + x % 10] (by simp [u8s]) 1 rfl (by decide)
    have HC : Hid (ba [48 + x % 10] ++ ba (Dec.low v j) = ba (Dec.low v (j + 1))) := by show _ = _; rw [ba_cons, HX.out]; rfl
    obtain ⟨A, hA⟩ : ∃ A, Hid (ba [48 + x % 10] = A) := ⟨_, rfl⟩
    obtain ⟨B, hB⟩ : ∃ B, Hid (ba (Dec.low v j) = B) := ⟨_, rfl⟩
    have hAs : A.size = 1 := by rw [← hA.out]; simp
    have hBs : B.size = j := by rw [← hB.out, ba_size, hLL]
    rw [hA.out] at cv HC
    rw [hB.out] at HC
    have hsz : ¬ 9223372036854775807 < A.size + B.size := by omega
    have HJX := Lib.hid hjx
    clear hjx hLL
    simp only [hB.out]
    by_cases hx0 : x / 10 = 0
    · have hx0' : ((x : Int) / 10 == 0) = true := beq_iff_eq.2 (by omega)
      have HDG := Lib.hid (Dec.digs_low j v (by rw [← HX2.out]; exact hx0) (by have h1 := HJX.out; rw [HX.out] at h1; exact h1))
      go_wp2_with fail
      go_ret
      rw [HDG.out]
      exact ⟨by rw [HC.out]; rfl, HF.out.alloc _⟩
    · have hx0' : ((x : Int) / 10 == 0) = false := beq_eq_false_iff_ne.2 (by omega)
      have hj18 : Hid (j + 1 ≤ 18) := by
        show _ ≤ _
        rcases Nat.lt_or_ge j 18 with h | h
        · omega
        · exfalso
          obtain rfl : j = 18 := by omega
          have h2 := HX2.out
          have h3 := HV.out
          omega
      have HFA := Lib.hid (HF.out.alloc (.cells #[.int .u8 (48 + (x : Int) % 10)] 5))
      go_wp2_with fail
      go_roundg (20 - (j + 1))
      case measure => have := HQ.out; omega
      case rel => exact ⟨j + 1, x / 10, hj18.out, rfl, by go_num, by rw [HC.out], HX2.out, Or.inr (by omega), HFA.out⟩
set_option maxHeartbeats 4000000 in
set_option maxRecDepth 100000 in
theorem ref_print (w : World) (n : Int) (hn : -9223372036854775807 ≤ n ∧ n ≤ 9223372036854775807) :
    Calls Tryd.prog 31 #[.int .i64 n] w fun e w' => e = .returned (.string (ba (Dec.print n))) ∧ Fr [] w w' := by
  by_cases h : n < 0
  · obtain ⟨v, rfl⟩ : ∃ v : Nat, n = -(v : Int) := ⟨n.natAbs, by omega⟩
    have HD : Hid (Dec.print (-(v : Int)) = 45 :: Dec.digs v) := by show _ = _; rw [Dec.print, if_pos h, Int.natAbs_neg, Int.natAbs_natCast]
    have HP := Lib.hid (fun W => ref_print_nat W v (by omega))
    have h0' : (-(v : Int) == -9223372036854775808) = false := beq_eq_false_iff_ne.2 (by omega)
    obtain ⟨B, hB⟩ : ∃ B, Hid (ba (Dec.digs v) = B) := ⟨_, rfl⟩
    have hBs : B.size ≤ 100 := by
      rw [← hB.out, ba_size]
      have hl := Dec.digs_len v (by omega)
      omega
    have HC : Hid (ba (Dec.print (-(v : Int))) = ⟨#[45]⟩ ++ B) := by show _ = _; rw [HD.out, ← ba_cons, hB.out]; rfl
    have hsz : ¬ 9223372036854775807 < 1 + B.size := by omega
    have hn2 : - -(v : Int) = v := by omega
    rw [HC.out]
    simp only [hB.out] at HP
    clear HD hB
    go_enter Tryd.func31, Tryd.ntmps31
    go_wp2_with fail
    refine (HP.out _).mono ?_
    rintro e w1 ⟨rfl, hf⟩
    have hf2 := hf
    go_wp2_with fail
    go_ret
    exact ⟨rfl, hf2⟩
  · obtain ⟨v, rfl⟩ : ∃ v : Nat, n = (v : Int) := ⟨n.toNat, by omega⟩
    have HD : Dec.print (v : Int) = Dec.digs v := by rw [Dec.print, if_neg h, Int.natAbs_natCast]
    rw [HD]
    exact ref_print_nat w v (by omega)
end Go.Proofs.YtgklmpooonnmiaaDoor
