/-
  Lemmas and contracts that the proofs over this seat use (part ShaRot); no statement of the seat is claimed in this text, and nothing is assumed in it.
-/
import Derived.Test.YtanegflohbgkdaaProg
import Derived.Test.YtanegflohbgkdaaShaPure
import Derived.Test.YtanegflohbgkdaaLib
set_option linter.unusedVariables false
set_option linter.unusedSimpArgs false
namespace Go.Proofs.Ytanegflohbgkdaa
open Go.RowKit
theorem ret_u32 {a b : Int} (h : a = b) : Ending.returned (.int .u32 a) = .returned (.int .u32 b) := by rw [h]
theorem pow_split (x n : Nat) : x * 2 ^ n = x <<< n := (Nat.shiftLeft_eq x n).symm
set_option maxRecDepth 10000 in
theorem and31 (c : Nat) (h1 : 1 ≤ c) (h2 : c ≤ 31) : bits BinOp.and IntKind.u64 (IntKind.u64.wrap (-(c : Int))) 31 = 32 - (c : Int) := by
  have : ∀ d : Fin 31, bits BinOp.and IntKind.u64 (IntKind.u64.wrap (-((d.val + 1 : Nat) : Int))) 31 = 32 - ((d.val + 1 : Nat) : Int) := by decide +kernel
  have h := this ⟨c - 1, by omega⟩
  simpa [show c - 1 + 1 = c by omega] using h
theorem rotr_eq (x c : Nat) (hx : x < 4294967296) (h1 : 1 ≤ c) (h2 : c ≤ 31) :
    bits .or .u32 (IntKind.u32.wrap ((x : Int) * 2 ^ (32 - c))) ((x : Int) / 2 ^ c) = (Sha.rotr x c : Nat) := by
  have e1 : IntKind.u32.wrap ((x : Int) * 2 ^ (32 - c)) = (((x <<< (32 - c)) % 4294967296 : Nat) : Int) := by
    rw [IntKind.wrap_u32', Nat.shiftLeft_eq, Int.natCast_emod, Int.natCast_mul, Int.natCast_pow]; rfl
  have e2 : (x : Int) / 2 ^ c = ((x >>> c : Nat) : Int) := by
    rw [Nat.shiftRight_eq_div_pow, Int.natCast_ediv, Int.natCast_pow]; rfl
  rw [e1, e2, u32_or_nat _ _ (Nat.mod_lt _ (by decide)) (by rw [Nat.shiftRight_eq_div_pow]; exact Nat.lt_of_le_of_lt (Nat.div_le_self _ _) hx)]
  rw [Nat.or_comm]; rfl
set_option maxHeartbeats 400000 in
theorem rotl (x c : Nat) (hx : x < 4294967296) (h1 : 1 ≤ c) (h2 : c ≤ 31) (w : World) :
    Calls Try.prog 25 #[.int .u32 x, .int .i64 (-(c : Int))] w fun e w' => e = .returned (.int .u32 (Sha.rotr x c : Nat)) ∧ w = w' := by
  have h := and31 c h1 h2
  have h3 : min (32 - (c:Int)).toNat IntKind.u32.bits = 32 - c := by simp [IntKind.bits]
  have h4 : (IntKind.u64.wrap (32 - (32 - (c:Int)))) = c := by rw [IntKind.wrap_u64]; omega
  have h5 : min c IntKind.u32.bits = c := by simp [IntKind.bits]; omega
  have h6 : 0 ≤ 32 - (c : Int) := by omega
  have h7 := Lib.hid (rotr_eq x c hx h1 h2)
  clear hx 
  go_enter Try.func25, Try.ntmps25
  go_wp2
  go_ret
  exact ⟨ret_u32 h7.out, rfl⟩
theorem rotr_lt (x c : Nat) (hx : x < 4294967296) : Sha.rotr x c < 4294967296 := by
  unfold Sha.rotr Sha.m32
  have h1 : x >>> c < 2 ^ 32 := by rw [Nat.shiftRight_eq_div_pow]; exact Nat.lt_of_le_of_lt (Nat.div_le_self _ _) hx
  have h2 : (x <<< (32 - c)) % 4294967296 < 2 ^ 32 := Nat.mod_lt _ (by decide)
  exact Nat.or_lt_two_pow h1 h2
theorem xor3 (x y z : Nat) (hx : x < 4294967296) (hy : y < 4294967296) (hz : z < 4294967296) :
    bits .xor .u32 (bits .xor .u32 (x : Int) (y : Int)) (z : Int) = ((x ^^^ y ^^^ z : Nat) : Int) := by
  have h : x ^^^ y < 2 ^ 32 := Nat.xor_lt_two_pow (by simpa using hx) (by simpa using hy)
  rw [u32_xor_nat _ _ hx hy, u32_xor_nat _ _ h hz]
set_option maxHeartbeats 400000 in
theorem rot3_f (x a b c : Nat) (hx : x < 4294967296) (ha : 1 ≤ a) (ha' : a ≤ 31) (hb : 1 ≤ b) (hb' : b ≤ 31) (hc : 1 ≤ c) (hc' : c ≤ 31) (w : World) :
    Calls Try.prog 23 #[.int .u32 x, .int .i64 a, .int .i64 b, .int .i64 c, .bool false] w fun e w' => e = .returned (.int .u32 (Sha.rotr x a ^^^ Sha.rotr x b ^^^ Sha.rotr x c : Nat)) ∧ w = w' := by
  have h7 := Lib.hid (xor3 _ _ _ (rotr_lt x a hx) (rotr_lt x b hx) (rotr_lt x c hx))
  go_enter Try.func23, Try.ntmps23
  go_wp2_with fail
  refine (rotl x c hx hc hc' _).mono ?_; rintro e w' ⟨rfl, rfl⟩
  go_wp2_with fail
  refine (rotl x a hx ha ha' _).mono ?_; rintro e w' ⟨rfl, rfl⟩
  go_wp2_with fail
  refine (rotl x b hx hb hb' _).mono ?_; rintro e w' ⟨rfl, rfl⟩
  go_wp2_with fail
  go_ret
  exact ⟨ret_u32 h7.out, rfl⟩
set_option maxHeartbeats 400000 in
theorem rot3_t (x a b c : Nat) (hx : x < 4294967296) (ha : 1 ≤ a) (ha' : a ≤ 31) (hb : 1 ≤ b) (hb' : b ≤ 31) (hc : 1 ≤ c) (hc' : c ≤ 31) (w : World) :
    Calls Try.prog 23 #[.int .u32 x, .int .i64 a, .int .i64 b, .int .i64 c, .bool true] w fun e w' => e = .returned (.int .u32 (Sha.rotr x a ^^^ Sha.rotr x b ^^^ (x >>> c) : Nat)) ∧ w = w' := by
  have hs : x >>> c < 4294967296 := by rw [Nat.shiftRight_eq_div_pow]; exact Nat.lt_of_le_of_lt (Nat.div_le_self _ _) hx
  have h7 := Lib.hid (xor3 _ _ _ (rotr_lt x a hx) (rotr_lt x b hx) hs)
  have h8 : (x : Int) / 2 ^ c = ((x >>> c : Nat) : Int) := by rw [Nat.shiftRight_eq_div_pow, Int.natCast_ediv, Int.natCast_pow]; rfl
  have h9 : min c IntKind.u32.bits = c := by simp [IntKind.bits]; omega
  go_enter Try.func23, Try.ntmps23
  go_wp2_with fail
  refine (rotl x c hx hc hc' _).mono ?_; rintro e w' ⟨rfl, rfl⟩
  go_wp2_with fail
  refine (rotl x a hx ha ha' _).mono ?_; rintro e w' ⟨rfl, rfl⟩
  go_wp2_with fail
  refine (rotl x b hx hb hb' _).mono ?_; rintro e w' ⟨rfl, rfl⟩
  go_wp2_with fail
  go_ret
  exact ⟨ret_u32 h7.out, rfl⟩
end Go.Proofs.Ytanegflohbgkdaa
