/-
  Lemmas and contracts that the proofs over this seat use (part RefNextP); no statement of the seat is claimed in this text, and nothing is assumed in it.
-/
import Derived.Test.YtgklmpooonnmiaaDoorRefUtf
set_option linter.unusedVariables false
set_option linter.unusedSimpArgs false
namespace Go.Proofs.YtgklmpooonnmiaaDoor
open Go.RowKit
namespace Utf
/-- the first byte's part, a letter having so many bytes. -/
def mod0 (k c : Nat) : Nat := if k = 2 then c % 32 else if k = 3 then c % 16 else if k = 4 then c % 8 else c
/-- the first byte's part and i more bytes'. -/
def acc (f : Nat → Nat) (k : Nat) : Nat → Nat
  | 0 => mod0 k (f 0)
  | i + 1 => acc f k i * 64 + f (i + 1) % 64
def val (f : Nat → Nat) (k : Nat) : Nat := acc f k (k - 1)
def hit (f : Nat → Nat) (k : Nat) : Prop := put (val f k) = (List.range k).map f
instance (f : Nat → Nat) (k : Nat) : Decidable (hit f k) := by unfold hit; infer_instance
theorem right_iff (n : Nat) : right n = true ↔ n ≤ 1114111 ∧ (n < 55296 ∨ 57343 < n) := by simp [right]
theorem put_len (n : Nat) : (put n).length = if right n = true then (if n < 128 then 1 else if n < 2048 then 2 else if n < 65536 then 3 else 4) else 0 := by
  unfold put
  split
  · split
    · rfl
    · split
      · rfl
      · split <;> rfl
  · rfl
theorem acc_lt (f : Nat → Nat) (k : Nat) (hf : ∀ i, f i < 256) : ∀ i, i ≤ 3 → acc f k i < 256 * 64 ^ i := by
  intro i
  induction i with
  | zero => intro _; simp only [acc, mod0]; have := hf 0; split; omega; split; omega; split <;> omega
  | succ i ih => intro h; have := ih (by omega); simp only [acc]; rw [Nat.pow_succ]; have h2 := Nat.mod_lt (f (i + 1)) (by decide : 0 < 64); omega
theorem hit1 (f : Nat → Nat) (hf : ∀ i, f i < 256) : hit f 1 ↔ f 0 < 128 := by
  have h0 := hf 0
  have e : val f 1 = f 0 := by simp [val, acc, mod0]
  unfold hit
  rw [e, show (List.range 1).map f = [f 0] by simp [List.range_succ]]
  have hr : right (f 0) = true := by rw [right_iff]; omega
  unfold put
  rw [if_pos hr]
  by_cases h : f 0 < 128
  · rw [if_pos h]; simp [h]
  · rw [if_neg h, if_pos (by omega)]; simp [h]
theorem hit2 (f : Nat → Nat) (hf : ∀ i, f i < 256) : hit f 2 ↔ (192 ≤ f 0 ∧ f 0 < 224) ∧ f 1 / 64 = 2 ∧ 128 ≤ val f 2 := by
  have h0 := hf 0
  have h1 := hf 1
  have e : val f 2 = f 0 % 32 * 64 + f 1 % 64 := by simp [val, acc, mod0]
  unfold hit
  rw [e, show (List.range 2).map f = [f 0, f 1] by simp [List.range_succ]]
  have hr : right (f 0 % 32 * 64 + f 1 % 64) = true := by rw [right_iff]; omega
  unfold put
  rw [if_pos hr]
  by_cases h : f 0 % 32 * 64 + f 1 % 64 < 128
  · rw [if_pos h]; simp; omega
  · rw [if_neg h, if_pos (by omega)]
    simp only [List.cons.injEq, and_true]
    omega
theorem hit3 (f : Nat → Nat) (hf : ∀ i, f i < 256) : hit f 3 ↔ (224 ≤ f 0 ∧ f 0 < 240) ∧ (f 1 / 64 = 2 ∧ f 2 / 64 = 2) ∧ 2048 ≤ val f 3 ∧ right (val f 3) = true := by
  have h0 := hf 0
  have h1 := hf 1
  have h2 := hf 2
  have e : val f 3 = (f 0 % 16 * 64 + f 1 % 64) * 64 + f 2 % 64 := by simp [val, acc, mod0]
  unfold hit
  rw [show (List.range 3).map f = [f 0, f 1, f 2] by simp [List.range_succ]]
  obtain ⟨v, hv⟩ : ∃ v, v = val f 3 := ⟨_, rfl⟩
  rw [← hv] at e ⊢
  unfold put
  by_cases hr : right v = true
  · rw [if_pos hr]
    by_cases h : v < 128
    · rw [if_pos h]; simp; omega
    · rw [if_neg h]
      by_cases h' : v < 2048
      · rw [if_pos h']; simp; omega
      · rw [if_neg h', if_pos (by omega)]
        simp only [List.cons.injEq, and_true, hr]
        omega
  · rw [if_neg hr]; simp [hr]
theorem hit4 (f : Nat → Nat) (hf : ∀ i, f i < 256) : hit f 4 ↔ (240 ≤ f 0 ∧ f 0 < 248) ∧ ((f 1 / 64 = 2 ∧ f 2 / 64 = 2) ∧ f 3 / 64 = 2) ∧ 65536 ≤ val f 4 ∧ right (val f 4) = true := by
  have h0 := hf 0
  have h1 := hf 1
  have h2 := hf 2
  have h3 := hf 3
  have e : val f 4 = ((f 0 % 8 * 64 + f 1 % 64) * 64 + f 2 % 64) * 64 + f 3 % 64 := by simp [val, acc, mod0]
  unfold hit
  rw [show (List.range 4).map f = [f 0, f 1, f 2, f 3] by simp [List.range_succ]]
  obtain ⟨v, hv⟩ : ∃ v, v = val f 4 := ⟨_, rfl⟩
  rw [← hv] at e ⊢
  unfold put
  by_cases hr : right v = true
  · rw [if_pos hr]
    by_cases h : v < 128
    · rw [if_pos h]; simp; omega
    · rw [if_neg h]
      by_cases h' : v < 2048
      · rw [if_pos h']; simp; omega
      · rw [if_neg h']
        by_cases h'' : v < 65536
        · rw [if_pos h'']; simp; omega
        · rw [if_neg h'']
          simp only [List.cons.injEq, and_true, hr]
          omega
  · rw [if_neg hr]; simp [hr]
theorem next_hit (f : Nat → Nat) (hf : ∀ i, f i < 256) (len k : Nat) (h1 : 1 ≤ k) (h4 : k ≤ 4) (hl : k ≤ len) (h : hit f k) : next f len = (some (val f k), k) := by
  unfold next
  rw [if_neg (by omega)]
  obtain rfl | rfl | rfl | rfl : k = 1 ∨ k = 2 ∨ k = 3 ∨ k = 4 := by omega
  · rw [hit1 f hf] at h
    rw [if_pos h]; simp [val, acc, mod0]
  · rw [hit2 f hf] at h
    obtain ⟨⟨a, b⟩, c, d⟩ := h
    have hw : wide (f 0) = 2 := by unfold wide; rw [if_neg (by omega), if_neg (by omega), if_pos (by omega)]
    have hv : val f 2 = pre f 1 := by simp [val, acc, mod0, pre, first, b]
    rw [if_neg (by omega), hw, if_neg (by omega), hv, if_pos]
    refine ⟨by simp [cont, c], by rw [← hv]; exact d, ?_⟩
    rw [← hv, right_iff]
    have : val f 2 = f 0 % 32 * 64 + f 1 % 64 := by simp [val, acc, mod0]
    omega
  · rw [hit3 f hf] at h
    obtain ⟨⟨a, b⟩, ⟨c, c2⟩, d, g⟩ := h
    have hw : wide (f 0) = 3 := by unfold wide; rw [if_neg (by omega), if_neg (by omega), if_neg (by omega), if_pos (by omega)]
    have hv : val f 3 = pre f 2 := by simp [val, acc, mod0, pre, first, b, show ¬ f 0 < 224 by omega]
    rw [if_neg (by omega), hw, if_neg (by omega), hv, if_pos]
    exact ⟨by simp [cont, c, c2], by rw [← hv]; exact d, by rw [← hv]; exact g⟩
  · rw [hit4 f hf] at h
    obtain ⟨⟨a, b⟩, ⟨⟨c, c2⟩, c3⟩, d, g⟩ := h
    have hw : wide (f 0) = 4 := by unfold wide; rw [if_neg (by omega), if_neg (by omega), if_neg (by omega), if_neg (by omega), if_pos (by omega)]
    have hv : val f 4 = pre f 3 := by simp [val, acc, mod0, pre, first, show ¬ f 0 < 224 by omega, show ¬ f 0 < 240 by omega]
    rw [if_neg (by omega), hw, if_neg (by omega), hv, if_pos]
    exact ⟨by simp [cont, c, c2, c3], by rw [← hv]; exact d, by rw [← hv]; exact g⟩
theorem next_miss (f : Nat → Nat) (hf : ∀ i, f i < 256) (len : Nat) (hl : 0 < len) (h : ∀ k, 1 ≤ k → k ≤ 4 → k ≤ len → ¬ hit f k) : next f len = (none, 1) := by
  unfold next
  rw [if_neg (by omega)]
  have n1 := h 1 (by omega) (by omega) (by omega)
  rw [hit1 f hf] at n1
  rw [if_neg n1]
  by_cases hb : wide (f 0) = 0 ∨ len < wide (f 0)
  · rw [if_pos hb]
  · rw [if_neg hb, if_neg]
    rintro ⟨c, d, g⟩
    have hw : wide (f 0) = 2 ∧ (192 ≤ f 0 ∧ f 0 < 224) ∨ wide (f 0) = 3 ∧ (224 ≤ f 0 ∧ f 0 < 240) ∨ wide (f 0) = 4 ∧ (240 ≤ f 0 ∧ f 0 < 248) := by
      have : wide (f 0) ≠ 0 := fun e => hb (Or.inl e)
      unfold wide at this ⊢
      rw [if_neg n1] at this ⊢
      split at this
      · omega
      · split at this
        · left; rw [if_neg (by omega), if_pos (by omega)]; omega
        · split at this
          · right; left; rw [if_neg (by omega), if_neg (by omega), if_pos (by omega)]; omega
          · split at this
            · right; right; rw [if_neg (by omega), if_neg (by omega), if_neg (by omega), if_pos (by omega)]; omega
            · omega
    rcases hw with ⟨e, h2, h3⟩ | ⟨e, h2, h3⟩ | ⟨e, h2, h3⟩ <;> rw [e] at c d g hb
    · refine h 2 (by omega) (by omega) (by omega) ((hit2 f hf).2 ⟨⟨h2, h3⟩, ?_, ?_⟩)
      · simpa [cont] using c
      · have hv : val f 2 = pre f 1 := by simp [val, acc, mod0, pre, first, h3]
        rw [hv]; exact d
    · have hv : val f 3 = pre f 2 := by simp [val, acc, mod0, pre, first, h3, show ¬ f 0 < 224 by omega]
      refine h 3 (by omega) (by omega) (by omega) ((hit3 f hf).2 ⟨⟨h2, h3⟩, ?_, by rw [hv]; exact d, by rw [hv]; exact g⟩)
      simpa [cont] using c
    · have hv : val f 4 = pre f 3 := by simp [val, acc, mod0, pre, first, show ¬ f 0 < 224 by omega, show ¬ f 0 < 240 by omega]
      refine h 4 (by omega) (by omega) (by omega) ((hit4 f hf).2 ⟨⟨h2, h3⟩, ?_, by rw [hv]; exact d, by rw [hv]; exact g⟩)
      simpa [cont] using c
end Utf
end Go.Proofs.YtgklmpooonnmiaaDoor
