/-
  Lemmas and contracts that the proofs over this seat use (part ShaEq); no statement of the seat is claimed in this text, and nothing is assumed in it.
-/
import Derived.Test.YtanegflohbgkdaaShaStr
import Derived.Stop.BytesEq
import Derived.Deep.RegionHeld3
set_option linter.unusedVariables false
set_option linter.unusedSimpArgs false
namespace Go.Proofs.Ytanegflohbgkdaa
open Go.RowKit
theorem u8s_cell (l : List Nat) (h : ∀ x ∈ l, x < 256) : u8s l = (l.map UInt8.ofNat).map Extern.Stop.cell := by
  rw [u8s, List.map_map]
  apply List.map_congr_left
  intro x hx
  have := h x hx
  simp only [Function.comp, Extern.Stop.cell, UInt8.toNat_ofNat']
  rw [Nat.mod_eq_of_lt (by simpa using this)]
  rfl
theorem ofNat_beq (x y : List Nat) (hx : ∀ a ∈ x, a < 256) (hy : ∀ a ∈ y, a < 256) : (x.map UInt8.ofNat == y.map UInt8.ofNat) = (x == y) := by
  rw [Bool.eq_iff_iff, beq_iff_eq, beq_iff_eq]
  constructor
  · intro h
    have h2 := congrArg (List.map UInt8.toNat) h
    rw [List.map_map, List.map_map] at h2
    have e : ∀ l : List Nat, (∀ a ∈ l, a < 256) → l.map (UInt8.toNat ∘ UInt8.ofNat) = l := fun l hl => by
      conv => rhs; rw [← List.map_id l]
      apply List.map_congr_left
      intro a ha
      have := hl a ha
      simp only [Function.comp, UInt8.toNat_ofNat', id]
      exact Nat.mod_eq_of_lt (by simpa using this)
    rw [e x hx, e y hy] at h2
    exact h2
  · rintro rfl; rfl
theorem size8 (w : World) : (sizeOf 5).run Try.prog w = .ok 1 w := by
  have he : (Try.prog.info? 5).map (·.size) = some 1 := by kernel_rfl
  cases hq : Try.prog.info? 5 with
  | none => simp [hq] at he
  | some i => simp [hq] at he; simp [sizeOf, typeInfo, hq, he]
theorem eql32 (x y : List Nat) (hx : x.length = 32) (hy : y.length = 32) (hx2 : ∀ a ∈ x, a < 256) (hy2 : ∀ a ∈ y, a < 256) (w : World) :
    (binOp .eql 24 (.agg (u8s x).toArray) (.agg (u8s y).toArray)).run Try.prog w = .ok (.bool (x == y)) w := by
  rw [u8s_cell x hx2, u8s_cell y hy2, run_eql_bytes w 24 5 32 Try.underlying24 Try.underlying5 size8 _ _ (by simpa using hx) (by simpa using hy), ofNat_beq x y hx2 hy2]
theorem neq32 (x y : List Nat) (hx : x.length = 32) (hy : y.length = 32) (hx2 : ∀ a ∈ x, a < 256) (hy2 : ∀ a ∈ y, a < 256) (w : World) :
    (binOp .neq 24 (.agg (u8s x).toArray) (.agg (u8s y).toArray)).run Try.prog w = .ok (.bool (!(x == y))) w := by
  rw [u8s_cell x hx2, u8s_cell y hy2, run_neq_struct, run_equalIn_bytes w 9998 24 5 32 Try.underlying24 Try.underlying5 size8 _ _ (by simpa using hx) (by simpa using hy), ofNat_beq x y hx2 hy2]
  rfl
theorem mac_lt (k l : List Nat) : ∀ x ∈ Sha.mac k l, x < 256 := sum_lt _
theorem mac_key (k l : List Nat) (h : 64 < k.length) : Sha.mac (Sha.sum k) l = Sha.mac k l := by
  have e1 : Sha.key k = Sha.sum k := if_pos h
  have e2 : Sha.key (Sha.sum k) = Sha.sum k := if_neg (by rw [sum_length]; omega)
  simp only [Sha.mac, e1, e2]
theorem mac_nought (k l : List Nat) (h : k.length < 64) : Sha.mac (k ++ [0]) l = Sha.mac k l := by
  have e1 : Sha.key k = k := if_neg (by omega)
  have e2 : Sha.key (k ++ [0]) = k ++ [0] := if_neg (by simp; omega)
  have e3 : ∀ x, Sha.mix x (k ++ [0]) = Sha.mix x k := fun x => by
    unfold Sha.mix
    apply List.map_congr_left
    intro i _
    congr 1
    unfold Sha.g
    by_cases hi : i < k.length
    · simp [List.getD, List.getElem?_append, hi]
    · by_cases h2 : i = k.length
      · subst h2; simp [List.getD, List.getElem?_append]
      · have : k.length < i := by omega
        simp [List.getD, List.getElem?_append, hi, List.getElem?_cons, show i - k.length ≠ 0 by omega]
  simp only [Sha.mac, e1, e2, e3]
end Go.Proofs.Ytanegflohbgkdaa
