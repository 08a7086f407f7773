/-
  Lemmas and contracts that the proofs over this seat use (part ShaRef); no statement of the seat is claimed in this text, and nothing is assumed in it.
-/
import Derived.Test.YtanegflohbgkdaaOwn
import Derived.Great.BuildSlice
set_option linter.unusedVariables false
set_option linter.unusedSimpArgs false
namespace Go.Proofs.Ytanegflohbgkdaa
open Go.RowKit
set_option maxHeartbeats 400000 in
theorem turn (x n : Nat) (hx : x < 4294967296) (h1 : 1 ≤ n) (h2 : n ≤ 31) (w : World) :
    Calls Try.prog 22 #[.int .u32 x, .int .u64 n] w fun e w' => e = .returned (.int .u32 (Sha.rotr x n : Nat)) ∧ w = w' := by
  have h3 : min n IntKind.u32.bits = n := by simp [IntKind.bits]; omega
  have h4 : min (32 - (n : Int)).toNat IntKind.u32.bits = 32 - n := by simp [IntKind.bits]
  have h5 : 0 ≤ 32 - (n : Int) := by omega
  have h6 : IntKind.u64.wrap (32 - (n : Int)) = 32 - (n : Int) := by rw [IntKind.wrap_u64]; omega
  have h7 : bits .or .u32 ((x : Int) / 2 ^ n) ((x : Int) * 2 ^ (32 - n) % 4294967296) = (Sha.rotr x n : Nat) := by
    have e1 : (x : Int) * 2 ^ (32 - n) % 4294967296 = (((x <<< (32 - n)) % 4294967296 : Nat) : Int) := by
      rw [Nat.shiftLeft_eq, Int.natCast_emod, Int.natCast_mul, Int.natCast_pow]; rfl
    have e2 : (x : Int) / 2 ^ n = ((x >>> n : Nat) : Int) := by
      rw [Nat.shiftRight_eq_div_pow, Int.natCast_ediv, Int.natCast_pow]; rfl
    rw [e1, e2, u32_or_nat _ _ (by rw [Nat.shiftRight_eq_div_pow]; exact Nat.lt_of_le_of_lt (Nat.div_le_self _ _) hx) (Nat.mod_lt _ (by decide))]
    rfl
  have h8 := Lib.hid h7
  clear h7
  go_enter Try.func22, Try.ntmps22
  go_wp2_with fail
  go_ret
  refine ⟨?_, rfl⟩
  rw [← h8.out]
  rfl
set_option maxRecDepth 100000 in
theorem words (w : World) :
    Calls Try.prog 21 #[] w fun e w' => ∃ b, w.heap.size ≤ b ∧ e = .returned (.slice (some ⟨b, 0, none⟩) 64 64) ∧ w'.heap[b]? = some (.cells (u32s Sha.ks).toArray 33 (0, 0)) ∧ Fr [] w w' := by
  go_enter Try.func21, Try.ntmps21
  go_wp2_with (refine wpList_buildFlat rfl 47 33 64 _ rfl .u32 (Sha.ks.map fun (x : Nat) => (x : Int)) Try.underlying47 (by kernel_rfl) (by kernel_rfl) (by kernel_rfl) (by decide) (by decide) (by kernel_rfl) ?_)
  refine bodyPost_ret (results_tmp rfl _ _ _) rfl ⟨w.heap.size, Nat.le_refl _, rfl, ?_, (Fr.refl _ _).alloc _⟩
  rw [heap_alloc_last w _]
  rfl
end Go.Proofs.Ytanegflohbgkdaa
