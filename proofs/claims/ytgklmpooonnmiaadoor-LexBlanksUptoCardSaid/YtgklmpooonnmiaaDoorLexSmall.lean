/-
  Lemmas and contracts that the proofs over this seat use (part LexSmall); no statement of the seat is claimed in this text, and nothing is assumed in it.
-/
import Derived.Test.YtgklmpooonnmiaaDoorLexText
set_option linter.unusedVariables false
set_option linter.unusedSimpArgs false
namespace Go.Proofs.YtgklmpooonnmiaaDoor
open Go.RowKit
namespace Lex
def small (c : Nat) : Bool := (decide (97 ≤ c) && decide (c ≤ 122)) || decide (c = 95)
/-- how many bytes of a word from a place on. -/
def smalls (f : Nat → Nat) (n k : Nat) : Nat := if k < n then (if small (f k) = true then smalls f n (k + 1) else k) else k
termination_by n - k
decreasing_by omega
theorem smalls_yes {f : Nat → Nat} {n k : Nat} (h : k < n) (hd : small (f k) = true) : smalls f n k = smalls f n (k + 1) := by
  conv => lhs; rw [smalls]
  rw [if_pos h, if_pos hd]
theorem smalls_no {f : Nat → Nat} {n k : Nat} (hd : ¬ small (f k) = true) : smalls f n k = k := by rw [smalls, if_neg hd, ite_self]
theorem smalls_end {f : Nat → Nat} {n k : Nat} (h : ¬ k < n) : smalls f n k = k := by rw [smalls, if_neg h]
theorem smalls_ge (f : Nat → Nat) (n k : Nat) : k ≤ smalls f n k := by
  fun_induction smalls f n k <;> omega
theorem smalls_le (f : Nat → Nat) (n k : Nat) (h : k ≤ n) : smalls f n k ≤ n := by
  fun_induction smalls f n k <;> omega
def isOne (c : Nat) : Bool := c == 40 || c == 41 || c == 91 || c == 93 || c == 44 || c == 59 || c == 61
/-- how many bytes at the beginning are a sign. -/
def sign (f : Nat → Nat) (n : Nat) : Nat :=
  if n = 0 then 0
  else if f 0 = 33 then (if 1 < n ∧ f 1 = 61 then 2 else 0)
  else if f 0 = 60 ∨ f 0 = 62 then (if 1 < n ∧ f 1 = 61 then 2 else 1)
  else if isOne (f 0) = true then 1 else 0
theorem sign_le (f : Nat → Nat) (n : Nat) : sign f n ≤ n := by
  unfold sign
  split
  · omega
  · split
    · split <;> omega
    · split
      · split <;> omega
      · split <;> omega
end Lex
theorem ext_none (s : ByteArray) (k : Nat) : s.extract k k = ⟨#[]⟩ := by
  ext1
  simp
theorem lex_small (c : Nat) (w : World) :
    Calls Tryd.prog 58 #[.int .u8 c] w fun e w' => e = .returned (.bool (Lex.small c)) ∧ w = w' := by
  by_cases h1 : 97 ≤ c
  · have h1' : (c : Int) ≥ 97 := by omega
    by_cases h2 : c ≤ 122
    · have h2' : (c : Int) ≤ 122 := by omega
      have e : Lex.small c = true := by simp [Lex.small, h1, h2]
      rw [e]
      clear e h1 h2
      go_enter Tryd.func58, Tryd.ntmps58
      go_wp2
      go_ret
      exact ⟨rfl, rfl⟩
    · have h2' : ¬ (c : Int) ≤ 122 := by omega
      have e : Lex.small c = false := by simp [Lex.small, h2]; omega
      have q : ((c : Int) == 95) = false := beq_eq_false_iff_ne.2 (by omega)
      rw [e]
      clear e h1 h2
      go_enter Tryd.func58, Tryd.ntmps58
      go_wp2
      go_ret
      exact ⟨rfl, rfl⟩
  · have h1' : ¬ (c : Int) ≥ 97 := by omega
    by_cases h2 : c = 95
    · have e : Lex.small c = true := by simp [Lex.small, h2]
      have q : ((c : Int) == 95) = true := beq_iff_eq.2 (by omega)
      rw [e]
      clear e h1 h2
      go_enter Tryd.func58, Tryd.ntmps58
      go_wp2
      go_ret
      exact ⟨rfl, rfl⟩
    · have e : Lex.small c = false := by simp [Lex.small, h1, h2]
      have q : ((c : Int) == 95) = false := beq_eq_false_iff_ne.2 (by omega)
      rw [e]
      clear e h1 h2
      go_enter Tryd.func58, Tryd.ntmps58
      go_wp2
      go_ret
      exact ⟨rfl, rfl⟩
theorem toList_ne {s : ByteArray} (h : 0 < s.size) : ¬ s.toList = [] ∧ s.toList.isEmpty = false := by
  have h1 : ¬ s.toList = [] := fun h0 => by
    rw [ByteArray.toList_eq] at h0
    have h2 := congrArg List.length h0
    have h3 : s.data.toList.length = s.size := by simp
    rw [List.length_nil] at h2
    omega
  exact ⟨h1, by cases hq : s.toList with | nil => exact absurd hq h1 | cons => rfl⟩
theorem toList_nil {s : ByteArray} (h : s.size = 0) : s.toList = [] := by
  rw [ByteArray.toList_eq]; exact List.eq_nil_of_length_eq_zero (by simpa using h)
set_option maxHeartbeats 4000000 in
theorem lex_sign (w : World) (s : ByteArray) (hs : s.size ≤ maxLen) :
    Calls Tryd.prog 29 #[.string s] w fun e w' => e = .returned (.string (s.extract 0 (Lex.sign (bn s) s.size))) ∧ w = w' := by
  unfold maxLen at hs
  by_cases h0 : s.size = 0
  · have e1 := toList_nil h0
    have hE : Hid (s.extract 0 (Lex.sign (bn s) s.size) = ⟨#[]⟩) := by
      show _ = _; unfold Lex.sign; rw [if_pos h0, ext_none]
    rw [hE.out]
    go_enter Tryd.func29, Tryd.ntmps29
    go_wp2
    go_ret
    exact ⟨rfl, rfl⟩
  obtain ⟨hne, hie⟩ := toList_ne (by omega : 0 < s.size)
  have hn0 : 0 < s.size := by omega
  have hz0 := bn_at s 0 hn0
  have hz1 := Lib.hid (bn_at s 1)
  obtain ⟨c, hc⟩ : ∃ c, Hid (bn s 0 = c) := ⟨_, rfl⟩
  obtain ⟨d, hd⟩ : ∃ d, Hid (bn s 1 = d) := ⟨_, rfl⟩
  rw [hc.out] at hz0
  rw [hd.out] at hz1
  have HSG : Hid (Lex.sign (bn s) s.size = if c = 33 then (if 1 < s.size ∧ d = 61 then 2 else 0) else if c = 60 ∨ c = 62 then (if 1 < s.size ∧ d = 61 then 2 else 1) else if Lex.isOne c = true then 1 else 0) := by
    show _ = _; unfold Lex.sign; rw [if_neg h0, hc.out, hd.out]
  have hcases : c = 33 ∨ (c = 60 ∨ c = 62) ∨ (c = 40 ∨ c = 41 ∨ c = 91 ∨ c = 93 ∨ c = 44 ∨ c = 59 ∨ c = 61) ∨ (c ≠ 33 ∧ c ≠ 60 ∧ c ≠ 62 ∧ Lex.isOne c = false) := by
    simp [Lex.isOne]; omega
  have hex0 := ext_none s 0
  have HTWO : (1 < s.size ∧ d = 61 ∧ (s.size : Int) > 1) ∨ (1 < s.size ∧ d ≠ 61 ∧ (s.size : Int) > 1 ∧ ((d : Int) == 61) = false) ∨ (¬ 1 < s.size ∧ ¬ (s.size : Int) > 1) := by
    by_cases h1 : 1 < s.size
    · by_cases h2 : d = 61
      · exact Or.inl ⟨h1, h2, by omega⟩
      · exact Or.inr (Or.inl ⟨h1, h2, by omega, beq_eq_false_iff_ne.2 (by omega)⟩)
    · exact Or.inr (Or.inr ⟨h1, by omega⟩)
  have HEX0 := Lib.hid hex0
  clear hex0
  obtain ⟨K, hK⟩ : ∃ K, Hid (Lex.sign (bn s) s.size = K) := ⟨_, rfl⟩
  rw [hK.out]
  rw [hK.out] at HSG
  have fin : ∀ (j : Nat) (v : ByteArray), K = j → s.extract 0 j = v → Hid (s.extract 0 K = v) := fun j v h1 h2 => by rw [h1]; exact h2
  rcases HTWO with ⟨h1, h2, h3⟩ | ⟨h1, h2, h3, h4⟩ | ⟨h1, h3⟩
  case' inl => have hz1' := hz1.out h1
  case' inr.inl => have hz1' := hz1.out h1
  all_goals
    rcases hcases with rfl | (rfl | rfl) | (rfl | rfl | rfl | rfl | rfl | rfl | rfl) | ⟨n1, n2, n3, n4⟩
  all_goals
    have hk : K = _ := HSG.out
    first
      | (simp only [n1, n2, n3, n4, if_false, false_or, Bool.false_eq_true] at hk
         have q1 : ((c : Int) == 33) = false := beq_eq_false_iff_ne.2 (by omega)
         have q2 : ((c : Int) == 60) = false := beq_eq_false_iff_ne.2 (by omega)
         have q3 : ((c : Int) == 62) = false := beq_eq_false_iff_ne.2 (by omega)
         simp [Lex.isOne] at n4
         have q4 : ((c : Int) == 40) = false := beq_eq_false_iff_ne.2 (by omega)
         have q5 : ((c : Int) == 41) = false := beq_eq_false_iff_ne.2 (by omega)
         have q6 : ((c : Int) == 91) = false := beq_eq_false_iff_ne.2 (by omega)
         have q7 : ((c : Int) == 93) = false := beq_eq_false_iff_ne.2 (by omega)
         have q8 : ((c : Int) == 44) = false := beq_eq_false_iff_ne.2 (by omega)
         have q9 : ((c : Int) == 59) = false := beq_eq_false_iff_ne.2 (by omega)
         have q10 : ((c : Int) == 61) = false := beq_eq_false_iff_ne.2 (by omega)
         clear n1 n2 n3 n4)
      | simp [h1, h2, Lex.isOne] at hk
      | simp [h1, Lex.isOne] at hk
    subst hk
    have h6 : (1 : Int) ≤ (s.size : Int) := by omega
    try (have h7 : (2 : Int) ≤ (s.size : Int) := by omega)
    clear fin hK HSG h0 hc hd hz1
    try rw [HEX0.out]
    go_enter Tryd.func29, Tryd.ntmps29
    go_wp2
    go_ret
    exact ⟨rfl, rfl⟩
end Go.Proofs.YtgklmpooonnmiaaDoor
