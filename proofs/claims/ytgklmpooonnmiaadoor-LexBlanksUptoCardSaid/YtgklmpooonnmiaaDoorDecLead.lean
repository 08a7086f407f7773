/-
  Lemmas and contracts that the proofs over this seat use (part DecLead); no statement of the seat is claimed in this text, and nothing is assumed in it.
-/
import Derived.Test.YtgklmpooonnmiaaDoorLexQuote
set_option linter.unusedVariables false
set_option linter.unusedSimpArgs false
namespace Go.Proofs.YtgklmpooonnmiaaDoor
open Go.RowKit
namespace Dec
def dig (c : Nat) : Bool := decide (48 ≤ c) && decide (c ≤ 57)
/-- where the digits from a place on end. -/
def digits (f : Nat → Nat) (n at_ : Nat) : Nat :=
  if at_ < n then (if dig (f at_) = true then digits f n (at_ + 1) else at_) else at_
termination_by n - at_
decreasing_by omega
theorem digits_yes {f : Nat → Nat} {n k : Nat} (h : k < n) (hd : dig (f k) = true) : digits f n k = digits f n (k + 1) := by
  conv => lhs; rw [digits]
  rw [if_pos h, if_pos hd]
theorem digits_no {f : Nat → Nat} {n k : Nat} (hd : ¬ dig (f k) = true) : digits f n k = k := by
  rw [digits, if_neg hd, ite_self]
theorem digits_end {f : Nat → Nat} {n k : Nat} (h : ¬ k < n) : digits f n k = k := by rw [digits, if_neg h]
theorem digits_ge (f : Nat → Nat) (n at_ : Nat) : at_ ≤ digits f n at_ := by
  fun_induction digits f n at_ <;> omega
theorem digits_le (f : Nat → Nat) (n at_ : Nat) (h : at_ ≤ n) : digits f n at_ ≤ n := by
  fun_induction digits f n at_ <;> omega
def sgn (f : Nat → Nat) (n : Nat) : Nat := if 0 < n ∧ f 0 = 45 then 1 else 0
/-- how many bytes at the beginning are a number's. -/
def lead (f : Nat → Nat) (n : Nat) : Nat :=
  if n ≤ sgn f n then 0 else if dig (f (sgn f n)) = false then 0 else if f (sgn f n) = 48 then 1 - sgn f n else digits f n (sgn f n)
theorem lead_le (f : Nat → Nat) (n : Nat) : lead f n ≤ n := by
  unfold lead
  split
  · omega
  · split
    · omega
    · split
      · have : sgn f n ≤ 1 := by unfold sgn; split <;> omega
        omega
      · exact digits_le _ _ _ (by omega)
end Dec
theorem dec_digit (c : Nat) (w : World) :
    Calls Tryd.prog 89 #[.int .u8 c] w fun e w' => e = .returned (.bool (Dec.dig c)) ∧ w = w' := by
  by_cases h1 : 48 ≤ c
  · have h1' : (c : Int) ≥ 48 := by omega
    have e : Dec.dig c = decide ((c : Int) ≤ 57) := by
      simp only [Dec.dig, h1, decide_true, Bool.true_and]
      exact decide_eq_decide.2 (by omega)
    rw [e]
    clear e h1
    go_enter Tryd.func89, Tryd.ntmps89
    go_wp2
    go_ret
    refine ⟨?_, rfl⟩
    first | rfl | simp
  · have h1' : ¬ (c : Int) ≥ 48 := by omega
    have e : Dec.dig c = false := by simp [Dec.dig, h1]
    rw [e]
    clear e h1
    go_enter Tryd.func89, Tryd.ntmps89
    go_wp2
    go_ret
    exact ⟨rfl, rfl⟩
set_option maxHeartbeats 4000000 in
theorem dec_lead (w : World) (s : ByteArray) (hs : s.size ≤ maxLen) :
    Calls Tryd.prog 66 #[.string s] w fun e w' => e = .returned (.int .i64 (Dec.lead (bn s) s.size : Nat)) ∧ w = w' := by
  unfold maxLen at hs
  obtain ⟨f, hf⟩ : ∃ f, Hid (f = bn s) := ⟨_, rfl⟩
  rw [← hf.out]
  have hbv : Hid (∀ i, ∀ h : i < s.size, (s[i]'h).toNat = f i) := by rw [hf.out]; exact fun i h => bn_at s i h
  have hlt : ∀ i, f i < 256 := by rw [hf.out]; exact bn_lt s
  by_cases h0 : s.size = 0
  · have e1 : s.toList = [] := by rw [ByteArray.toList_eq]; exact List.eq_nil_of_length_eq_zero (by simpa using h0)
    have e2 : (!s.toList.isEmpty) = false := by rw [e1]; rfl
    have e3 : Dec.lead f s.size = 0 := by unfold Dec.lead; rw [if_pos (by omega)]
    rw [e3]
    have h0' : (s.size : Int) = 0 := by omega
    clear e3 hlt
    go_enter Tryd.func66, Tryd.ntmps66
    go_wp2
    go_ret
    exact ⟨rfl, rfl⟩
  have hne : ¬ s.toList = [] := fun h => by
    rw [ByteArray.toList_eq] at h
    have h2 := congrArg List.length h
    have h3 : s.data.toList.length = s.size := by simp
    rw [List.length_nil] at h2
    omega
  have e2 : (!s.toList.isEmpty) = true := by cases hq : s.toList with | nil => exact absurd hq hne | cons => rfl
  have hz0 : (s[0]'(by omega)).toNat = f 0 := hbv.out 0 (by omega)
  have h0' : 0 < s.size := by omega
  obtain ⟨c0, hc0⟩ : ∃ c0, f 0 = c0 := ⟨_, rfl⟩
  have hl0 := hlt 0
  have HLT := Lib.hid hlt
  rw [hc0] at hz0 hl0
  clear hlt
  have hst : ∀ a : Nat, Dec.sgn f s.size = a → Hid (a = Dec.sgn f s.size) := fun a h => h.symm
  by_cases h45 : c0 = 45
  case' pos =>
    have HA := hst 1 (by unfold Dec.sgn; rw [if_pos ⟨h0', hc0.trans h45⟩])
    have q45 : ((c0 : Int) == 45) = true := by rw [h45]; rfl
    have hza := fun h => hbv.out 1 h
    have hcz : ∀ c, f 1 = c → True := fun _ _ => trivial
    have hsz : s.size ≤ Dec.sgn f s.size → ((1 : Int) == (s.size : Int)) = true := by rw [← HA.out]; intro h; simp; omega
    have hsz2 : ¬ s.size ≤ Dec.sgn f s.size → 1 < s.size := by rw [← HA.out]; omega
    have hsz3 : ¬ s.size ≤ Dec.sgn f s.size → ((1 : Int) == (s.size : Int)) = false := by rw [← HA.out]; intro h; simp; omega
  case' neg =>
    have HA := hst 0 (by unfold Dec.sgn; rw [if_neg (fun h => h45 (hc0 ▸ h.2))])
    have q45 : ((c0 : Int) == 45) = false := by simp; omega
    have hza := fun h => hbv.out 0 h
    have hcz : ∀ c, f 0 = c → c = c0 := fun _ h => h.symm.trans hc0
    have hsz : s.size ≤ Dec.sgn f s.size → ((0 : Int) == (s.size : Int)) = true := by rw [← HA.out]; intro h; simp; omega
    have hsz2 : ¬ s.size ≤ Dec.sgn f s.size → 0 < s.size := by rw [← HA.out]; omega
    have hsz3 : ¬ s.size ≤ Dec.sgn f s.size → ((0 : Int) == (s.size : Int)) = false := by rw [← HA.out]; intro h; simp; omega
  all_goals
    have HZA := Lib.hid hza
    clear hza hst h45
    by_cases ha : s.size ≤ Dec.sgn f s.size
    · have hsz' := hsz ha
      have HE : Hid (Dec.lead f s.size = 0) := by show _ = _; unfold Dec.lead; rw [if_pos ha]
      clear hsz hsz2 hsz3 HA ha hc0
      go_enter Tryd.func66, Tryd.ntmps66
      go_wp2
      go_ret
      rw [HE.out]
      exact ⟨rfl, rfl⟩
    have hsz' := hsz2 ha
    have hsz3' := hsz3 ha
    have hz1 := HZA.out hsz'
    obtain ⟨c, hc⟩ : ∃ c, Hid (f (Dec.sgn f s.size) = c) := ⟨_, rfl⟩
    have hc' := hc.out
    rw [← HA.out] at hc'
    rw [hc'] at hz1
    have hcq := hcz c hc'
    try subst hcq
    clear hcz
    have HC' := Lib.hid hc'
    have HC0 := Lib.hid hc0
    clear hc' hc0 hsz hsz2 hsz3 HZA
    have hdc := fun w => dec_digit c w
    by_cases hd : Dec.dig c = false
    · have HE : Hid (Dec.lead f s.size = 0) := by show _ = _; unfold Dec.lead; rw [if_neg ha, hc.out, if_pos hd]
      rw [hd] at hdc
      have HD := Lib.hid hdc
      clear hdc hd HA ha hc HC0 HC'
      go_enter Tryd.func66, Tryd.ntmps66
      go_wp2_with (go_at_call 89; with_reducible refine (HD.out _).mono ?_; rintro e w' ⟨rfl, rfl⟩)
      all_goals
        go_ret
        rw [HE.out]
        exact ⟨rfl, rfl⟩
    have hd' : Dec.dig c = true := by simpa using hd
    rw [hd'] at hdc
    have HD := Lib.hid hdc
    clear hdc
    by_cases h48 : c = 48
    · have HE : Hid (Dec.lead f s.size = 1 - Dec.sgn f s.size) := by show _ = _; unfold Dec.lead; rw [if_neg ha, hc.out, if_neg hd, if_pos h48]
      rw [← HA.out] at HE
      have q48 : ((c : Int) == 48) = true := by rw [h48]; rfl
      clear hd hd' HA ha hc HC0 HC' h48
      go_enter Tryd.func66, Tryd.ntmps66
      go_wp2_with (go_at_call 89; with_reducible refine (HD.out _).mono ?_; rintro e w' ⟨rfl, rfl⟩)
      all_goals
        go_ret
        rw [HE.out]
        exact ⟨rfl, rfl⟩
    have q48 : ((c : Int) == 48) = false := by simp; omega
    have HE : Hid (Dec.lead f s.size = Dec.digits f s.size (Dec.sgn f s.size)) := by show _ = _; unfold Dec.lead; rw [if_neg ha, hc.out, if_neg hd, if_neg h48]
    have HG := Dec.digits_ge f s.size (Dec.sgn f s.size)
    rw [← HA.out] at HE HG
    have HGH := Lib.hid HG
    clear hd hd' HA ha hc HC0 HC' h48 HG
    go_enter Tryd.func66, Tryd.ntmps66
    go_wp2_with (go_at_call 89; with_reducible refine (HD.out _).mono ?_; rintro e w' ⟨rfl, rfl⟩)
    go_loop [3] (fun t => ∃ k : Nat, k ≤ s.size ∧ t = .int .i64 k ∧ Dec.digits f s.size k = Dec.lead f s.size) (fun t => s.size - (intOf t).toNat)
    case atStart => first | exact ⟨0, by omega, rfl, HE.out.symm⟩ | exact ⟨1, by omega, rfl, HE.out.symm⟩
    case round =>
      clear HE HGH
      obtain ⟨k, hk, rfl, hb⟩ := hrel
      have HB := Lib.hid hb
      clear hb hz0 hz1
      by_cases hlt : k < s.size
      · have hlt' : (k : Int) < (s.size : Int) := by omega
        have hzk := hbv.out k hlt
        obtain ⟨x, hx⟩ : ∃ x, Hid (f k = x) := ⟨_, rfl⟩
        rw [hx.out] at hzk
        have hdx := fun w => dec_digit x w
        by_cases hd : Dec.dig x = true
        · rw [hd] at hdx
          have HDX := Lib.hid hdx
          have HS : Hid (Dec.digits f s.size (k + 1) = Dec.lead f s.size) := by
            show _ = _
            rw [← HB.out, Dec.digits_yes hlt (by rw [hx.out]; exact hd)]
          clear hdx hd
          go_wp2_with (go_at_call 89; with_reducible refine (HDX.out _).mono ?_; rintro e w' ⟨rfl, rfl⟩)
          go_round
          case rel => exact ⟨k + 1, by omega, by go_num, HS.out⟩
          case measure => simp [intOf]; omega
        · have hd' : Dec.dig x = false := by simpa using hd
          rw [hd'] at hdx
          have HDX := Lib.hid hdx
          have HS : Hid (Dec.lead f s.size = k) := by
            show _ = _
            rw [← HB.out, Dec.digits_no (by rw [hx.out]; exact hd)]
          clear hdx hd hd'
          go_wp2_with (go_at_call 89; with_reducible refine (HDX.out _).mono ?_; rintro e w' ⟨rfl, rfl⟩)
          go_ret
          rw [HS.out]
          exact ⟨rfl, rfl⟩
      · obtain rfl : k = s.size := by omega
        have HS : Hid (Dec.lead f s.size = s.size) := by
          show _ = _
          rw [← HB.out, Dec.digits_end (by omega)]
        go_wp2
        go_ret
        rw [HS.out]
        exact ⟨rfl, rfl⟩
end Go.Proofs.YtgklmpooonnmiaaDoor
