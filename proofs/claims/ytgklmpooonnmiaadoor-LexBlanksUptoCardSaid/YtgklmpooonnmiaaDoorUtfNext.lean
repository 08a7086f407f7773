/-
  Lemmas and contracts that the proofs over this seat use (part UtfNext); no statement of the seat is claimed in this text, and nothing is assumed in it.
-/
import Derived.Test.YtgklmpooonnmiaaDoorUtf
set_option linter.unusedVariables false
set_option linter.unusedSimpArgs false
namespace Go.Proofs.YtgklmpooonnmiaaDoor
open Go.RowKit
/-- a slice that reads as the bytes f 0, f 1, .. -/
structure RB (w : World) (p : Option Addr) (n : Nat) (f : Nat → Nat) : Prop where
  at_ : 0 < n → ∃ g o, p = some ⟨g, o, none⟩ ∧ ∀ i, i < n → w.cell? ⟨g, o + i, none⟩ = some (.int .u8 (f i : Nat))
  lt : ∀ i, f i < 256
  len : n ≤ maxLen
theorem RB.fr {w w' : World} {p : Option Addr} {n : Nat} {f : Nat → Nat} (h : RB w p n f) (hF : Fr [] w w') : RB w' p n f :=
  ⟨fun hn => by obtain ⟨g, o, e, hc⟩ := h.at_ hn; exact ⟨g, o, e, fun i hi => hF.cells (hc i hi)⟩, h.lt, h.len⟩
theorem wraps_i64 (n : Int) (h₀ : 0 ≤ n) (h₁ : n < 2 ^ 31) : IntKind.i64.wrap n = n := by rw [IntKind.wrap_i64]; omega
theorem wraps_i64b (n : Int) (h₀ : 0 ≤ n) (h₁ : n < 2 ^ 8) : IntKind.i64.wrap n = n := by rw [IntKind.wrap_i64]; omega
theorem i64_and31 {x : Int} (h₀ : 0 ≤ x) (h₁ : x < 256) : bits .and .i64 x 31 = x % 32 := bits_mask .i64 8 (by decide) wraps_i64b 5 (by decide) x h₀ h₁
theorem i64_and15 {x : Int} (h₀ : 0 ≤ x) (h₁ : x < 256) : bits .and .i64 x 15 = x % 16 := bits_mask .i64 8 (by decide) wraps_i64b 4 (by decide) x h₀ h₁
theorem i64_and7 {x : Int} (h₀ : 0 ≤ x) (h₁ : x < 256) : bits .and .i64 x 7 = x % 8 := bits_mask .i64 8 (by decide) wraps_i64b 3 (by decide) x h₀ h₁
theorem i64_or6 {x y : Int} (hx₀ : 0 ≤ x) (hx : x % 64 = 0) (hx₁ : x < 2147483648) (h₀ : 0 ≤ y) (h₁ : y < 64) : bits .or .i64 x y = x + y :=
  bits_join .i64 31 (by decide) wraps_i64 6 x y hx₀ hx hx₁ h₀ h₁ (by omega)
theorem u8_and192 (x : Nat) (h : x < 256) : bits .and .u8 (x : Int) 192 = ((x / 64 * 64 : Nat) : Int) := by
  have h2 := bits_nat .u8 8 (by decide) wraps_u8 x 192 h (by decide)
  have h3 : ∀ y : Fin 256, y.1 &&& 192 = y.1 / 64 * 64 := by decide +kernel
  have h4 := h3 ⟨x, h⟩
  simp only at h4
  rw [← h4]
  exact h2.1
theorem wide_none {c : Nat} (h1 : ¬ c < 128) (h : c < 192 ∨ 248 ≤ c) : Utf.wide c = 0 := by
  unfold Utf.wide
  rw [if_neg h1]
  rcases h with h | h
  · rw [if_pos h]
  · rw [if_neg (by omega), if_neg (by omega), if_neg (by omega), if_neg (by omega)]
theorem wide_two {c : Nat} (h1 : 192 ≤ c) (h : c < 224) : Utf.wide c = 2 := by
  unfold Utf.wide; rw [if_neg (by omega), if_neg (by omega), if_pos h]
theorem wide_three {c : Nat} (h1 : 224 ≤ c) (h : c < 240) : Utf.wide c = 3 := by
  unfold Utf.wide; rw [if_neg (by omega), if_neg (by omega), if_neg (by omega), if_pos h]
theorem wide_four {c : Nat} (h1 : 240 ≤ c) (h : c < 248) : Utf.wide c = 4 := by
  unfold Utf.wide; rw [if_neg (by omega), if_neg (by omega), if_neg (by omega), if_neg (by omega), if_pos h]
theorem first_lt (c : Nat) : Utf.first c < 32 := by
  unfold Utf.first
  split
  · omega
  · split <;> omega
theorem pre_lt (f : Nat → Nat) (k : Nat) : Utf.pre f k < 32 * 64 ^ k := by
  induction k with
  | zero => simpa [Utf.pre] using first_lt (f 0)
  | succ k ih => simp only [Utf.pre, Nat.pow_succ]; omega
theorem next_ok {f : Nat → Nat} {n c S : Nat} (hn : ¬ n = 0) (hc : f 0 = c) (h1 : ¬ c < 128) (hS : Utf.wide c = S) (h2 : 2 ≤ S) (hl : ¬ n < S) :
    Utf.next f n = if Utf.cont f (S - 1) = true ∧ Utf.least S ≤ Utf.pre f (S - 1) ∧ Utf.right (Utf.pre f (S - 1)) = true then (some (Utf.pre f (S - 1)), S) else (none, 1) := by
  unfold Utf.next
  rw [if_neg hn, hc, if_neg h1, hS, if_neg (by omega)]
theorem cont_false {f : Nat → Nat} {k m : Nat} (hk : k < m) (h : ¬ f (k + 1) / 64 = 2) : ¬ Utf.cont f m = true := by
  induction m with
  | zero => omega
  | succ m ih =>
    simp only [Utf.cont, Bool.and_eq_true, decide_eq_true_eq]
    rintro ⟨h1, h2⟩
    by_cases e : k = m
    · subst e; exact h h2
    · exact ih (by omega) h1
theorem Least.at_ {w : World} (h : Least w) (S : Nat) (h2 : 2 ≤ S) (h4 : S ≤ 4) : w.cell? ⟨1, S, none⟩ = some (.int .i64 (Utf.least S : Nat)) := by
  rw [h.cell]
  match S, h2, h4 with
  | 2, _, _ => rfl
  | 3, _, _ => rfl
  | 4, _, _ => rfl
set_option maxHeartbeats 4000000 in
set_option maxRecDepth 100000 in
theorem utf_next (w : World) (p : Option Addr) (n cap : Nat) (f : Nat → Nat) (hR : RB w p n f) (hcap : n ≤ cap) (hcm : cap ≤ maxLen) (hL : Least w) :
    Calls Tryd.prog 59 #[.slice p n cap] w fun e w' => e = .returned (.tuple #[.int .i64 (letZ (Utf.next f n).1), .int .i64 ((Utf.next f n).2 : Nat)]) ∧ w = w' := by
  have hl := hR.len
  unfold maxLen at hl hcm
  by_cases hn : n = 0
  · have e : Utf.next f n = (none, 0) := by simp [Utf.next, hn]
    rw [e]
    subst hn
    clear e
    go_enter Tryd.func59, Tryd.ntmps59
    go_wp2
    go_ret2
    exact ⟨rfl, rfl⟩
  obtain ⟨g, o, rfl, hc⟩ := hR.at_ (by omega)
  have hc0 := hc 0 (by omega)
  obtain ⟨c, hcc⟩ : ∃ c, f 0 = c := ⟨_, rfl⟩
  have hclt := hR.lt 0
  rw [hcc] at hc0 hclt
  rw [Nat.add_zero] at hc0
  have hn' : 0 < n := by omega
  have hn2 : ¬ (n : Int) = 0 := by omega
  by_cases h1 : c < 128
  · have e : Utf.next f n = (some c, 1) := by simp [Utf.next, hn, hcc, h1]
    rw [e]
    have h1' : (c : Int) < 128 := by omega
    clear e hcc hc hL hR
    go_enter Tryd.func59, Tryd.ntmps59
    go_wp2
    go_ret2
    exact ⟨rfl, rfl⟩
  have h1' : ¬ (c : Int) < 128 := by omega
  by_cases h2 : c < 192 ∨ 248 ≤ c
  · have e : Utf.next f n = (none, 1) := by
      simp [Utf.next, hn, hcc, h1, wide_none h1 h2]
    rw [e]
    clear e hcc hc hL hR hn
    rcases h2 with h2 | h2
    · have a1 : ¬ (c : Int) ≥ 192 := by omega
      have a2 : ¬ (c : Int) ≥ 224 := by omega
      have a3 : ¬ (c : Int) ≥ 240 := by omega
      go_enter Tryd.func59, Tryd.ntmps59
      go_wp2
      go_ret2
      exact ⟨rfl, rfl⟩
    · have a1 : (c : Int) ≥ 192 := by omega
      have a2 : (c : Int) ≥ 224 := by omega
      have a3 : (c : Int) ≥ 240 := by omega
      have b1 : ¬ (c : Int) < 224 := by omega
      have b2 : ¬ (c : Int) < 240 := by omega
      have b3 : ¬ (c : Int) < 248 := by omega
      go_enter Tryd.func59, Tryd.ntmps59
      go_wp2
      go_ret2
      exact ⟨rfl, rfl⟩
  have HR := Lib.hid hR
  have HC := Lib.hid hc
  have HCC := Lib.hid hcc
  clear hc hcc hR
  have g1 : (c : Int) ≥ 192 := by omega
  by_cases h3 : c < 224
  case' pos =>
    have a1 : (c : Int) < 224 := by omega
    have hw : Utf.wide c = 2 := wide_two (by omega) h3
    have hfi : bits .and .i64 (c : Int) 31 = ((Utf.first c : Nat) : Int) := by rw [i64_and31 (by omega) (by omega)]; unfold Utf.first; simp [h3]
    have hn3 : ¬ n < Utf.wide c → ¬ (n : Int) < 2 := by rw [hw]; omega
    have hn4 : n < Utf.wide c → (n : Int) < 2 := by rw [hw]; omega
    have hk3 : Hid (∀ k : Nat, k < Utf.wide c - 1 → (k : Int) < 1) := fun k => by rw [hw]; omega
    have hk4 : Hid (∀ k : Nat, ¬ k < Utf.wide c - 1 → ¬ (k : Int) < 1) := fun k => by rw [hw]; omega
  case' neg =>
    have a1 : ¬ (c : Int) < 224 := by omega
    have a2 : (c : Int) ≥ 224 := by omega
    by_cases h4 : c < 240
    case' pos =>
      have a3 : (c : Int) < 240 := by omega
      have hw : Utf.wide c = 3 := wide_three (by omega) h4
      have hfi : bits .and .i64 (c : Int) 15 = ((Utf.first c : Nat) : Int) := by rw [i64_and15 (by omega) (by omega)]; unfold Utf.first; simp [h3, h4]
      have hn3 : ¬ n < Utf.wide c → ¬ (n : Int) < 3 := by rw [hw]; omega
      have hn4 : n < Utf.wide c → (n : Int) < 3 := by rw [hw]; omega
      have hk3 : Hid (∀ k : Nat, k < Utf.wide c - 1 → (k : Int) < 2) := fun k => by rw [hw]; omega
      have hk4 : Hid (∀ k : Nat, ¬ k < Utf.wide c - 1 → ¬ (k : Int) < 2) := fun k => by rw [hw]; omega
    case' neg =>
      have a3 : ¬ (c : Int) < 240 := by omega
      have a4 : (c : Int) ≥ 240 := by omega
      have a5 : (c : Int) < 248 := by omega
      have hw : Utf.wide c = 4 := wide_four (by omega) (by omega)
      have hfi : bits .and .i64 (c : Int) 7 = ((Utf.first c : Nat) : Int) := by rw [i64_and7 (by omega) (by omega)]; unfold Utf.first; simp [h3, h4]
      have hn3 : ¬ n < Utf.wide c → ¬ (n : Int) < 4 := by rw [hw]; omega
      have hn4 : n < Utf.wide c → (n : Int) < 4 := by rw [hw]; omega
      have hk3 : Hid (∀ k : Nat, k < Utf.wide c - 1 → (k : Int) < 3) := fun k => by rw [hw]; omega
      have hk4 : Hid (∀ k : Nat, ¬ k < Utf.wide c - 1 → ¬ (k : Int) < 3) := fun k => by rw [hw]; omega
  all_goals
    have HFI := Lib.hid hfi
    have hfl := first_lt c
    have hw2 : 2 ≤ Utf.wide c := by omega
    by_cases h5 : n < Utf.wide c
    · have h5' := hn4 h5
      have e : Utf.next f n = (none, 1) := by simp [Utf.next, hn, HCC.out, h1, h5]
      rw [e]
      clear e hn hL h5 hw2 hw hn3 hn4 h1 h2
      go_enter Tryd.func59, Tryd.ntmps59
      go_wp2
      go_ret2
      exact ⟨rfl, rfl⟩
    have h5' := hn3 h5
    have HW := Lib.hid hw
    have HN := Lib.hid hn
    have h1n := Lib.hid h1
    generalize hp : Utf.first c = P0 at *
    have HP := Lib.hid hp
    clear hn3 hn4 hw hn h1 h2 HFI hw2 hp
    go_enter Tryd.func59, Tryd.ntmps59
    go_wp2
    obtain ⟨S, hS⟩ : ∃ S, Hid (S = Utf.wide c) := ⟨_, rfl⟩
    have HN5 := Lib.hid h5
    have HEQ := Lib.hid (next_ok HN.out HCC.out h1n.out hS.out.symm (by rw [hS.out, HW.out]; decide) (by rw [hS.out]; exact h5))
    go_loop [2, 3, 57] (fun l z t => ∃ k : Nat, k ≤ S - 1 ∧ t = .int .i64 k ∧ z = .int .i64 (S : Nat) ∧ l = .int .i64 (Utf.pre f k : Nat) ∧ Utf.cont f k = true) (fun _ _ t => 3 - (intOf t).toNat)
    case atStart => exact ⟨0, by omega, rfl, by rw [hS.out, HW.out]; rfl, by rw [← HP.out, ← HCC.out]; rfl, rfl⟩
    case round =>
      obtain ⟨k, hk, rfl, rfl, rfl, hcont⟩ := hrel
      have hS4 : S ≤ 4 := by rw [hS.out, HW.out]; decide
      have hpl := pre_lt f k
      have hpl2 : 32 * 64 ^ k ≤ 32 * 64 ^ 3 := Nat.mul_le_mul_left _ (Nat.pow_le_pow_right (by decide) (by omega))
      have hpl3 : Utf.pre f k < 8388608 := by omega
      clear hpl hpl2
      have HCO := Lib.hid hcont
      clear hcont
      by_cases hlt : k < S - 1
      · have hlt' := hk3.out k (by rw [← hS.out]; exact hlt)
        have hx := HC.out (k + 1) (by have := hS.out; omega)
        rw [show o + (k + 1) = o + 1 + k by omega] at hx
        obtain ⟨x, hxx⟩ : ∃ x, Hid (f (k + 1) = x) := ⟨_, rfl⟩
        have hxl := HR.out.lt (k + 1)
        rw [hxx.out] at hx hxl
        have hx1 := u8_and192 x hxl
        by_cases h64 : x / 64 = 2
        · have hx2 : ((x / 64 * 64 : Nat) : Int) = 128 := by rw [h64]; rfl
          rw [hx2] at hx1
          have y1 : bits .and .u8 (x : Int) 63 = (x : Int) % 64 := u8_and63 (x := (x : Int)) (by omega) (by omega)
          have y2 : bits .or .i64 ((Utf.pre f k : Int) * 64) ((x : Int) % 64) = ((Utf.pre f (k + 1) : Nat) : Int) := by
            rw [i64_or6 (by omega) (by omega) (by omega) (by omega) (by omega)]
            simp only [Utf.pre, hxx.out]; omega
          have hcs : Hid (Utf.cont f (k + 1) = true) := by show _ = _; simp only [Utf.cont, HCO.out, hxx.out, h64]; rfl
          clear hx2
          go_wp2
          go_round
          case rel => exact ⟨k + 1, by omega, by go_num, rfl, rfl, hcs.out⟩
          case measure => simp [intOf]; omega
        · have hx2 : ¬ ((x / 64 * 64 : Nat) : Int) = 128 := by omega
          have e : Utf.next f n = (none, 1) := by
            rw [HEQ.out, if_neg]
            exact fun h => cont_false hlt (by rw [hxx.out]; exact h64) h.1
          have HE := Lib.hid e
          clear e HEQ hlt
          go_wp2
          go_ret2
          rw [HE.out]
          exact ⟨rfl, rfl⟩
      · obtain rfl : k = S - 1 := by omega
        have hlt' := hk4.out (S - 1) (by rw [← hS.out]; exact hlt)
        have hLc := hL.at_ (Utf.wide c) (by rw [HW.out]; decide) (by rw [HW.out]; decide)
        have hml : Utf.least (Utf.wide c) = Utf.least S := by rw [hS.out]
        obtain ⟨L, hL'⟩ : ∃ L, Hid (Utf.least S = L) := ⟨_, rfl⟩
        rw [hml, HW.out, hL'.out] at hLc
        clear hml
        obtain ⟨P, hP⟩ : ∃ P, Hid (Utf.pre f (S - 1) = P) := ⟨_, rfl⟩
        have hE := HEQ.out
        rw [HCO.out, hP.out, hL'.out] at hE
        rw [hP.out] at hpl3 ⊢
        have e2 : S = Utf.wide c := hS.out
        rw [HW.out] at e2
        clear hS HEQ hlt hlt' hL' hP HCO hk3 hk4 h5 HN5
        subst e2
        by_cases hm : P < L
        · have hm' : (P : Int) < (L : Int) := by omega
          have e : Utf.next f n = (none, 1) := by rw [hE, if_neg (fun h => by omega)]
          have HE := Lib.hid e
          clear e hE
          go_wp2_with fail
          go_ret2
          rw [HE.out]
          exact ⟨rfl, rfl⟩
        · have hm' : ¬ (P : Int) < (L : Int) := by omega
          by_cases hr : Utf.right P = true
          · have e := hE
            rw [if_pos ⟨rfl, by omega, hr⟩] at e
            have HE := Lib.hid e
            clear e hE
            have hc2 : Calls Tryd.prog 84 #[.int .i64 P] w fun e w' => e = .returned (.bool true) ∧ w = w' := by have := utf_right P w; rw [hr] at this; exact this
            clear hr
            go_wp2_with (go_at_call 84; refine hc2.mono ?_; rintro e w' ⟨rfl, rfl⟩)
            go_ret2
            rw [HE.out]
            exact ⟨rfl, rfl⟩
          · have e : Utf.next f n = (none, 1) := by rw [hE, if_neg (fun h => hr h.2.2)]
            have HE := Lib.hid e
            have hr' : Utf.right P = false := by simpa using hr
            clear e hE
            have hc2 : Calls Tryd.prog 84 #[.int .i64 P] w fun e w' => e = .returned (.bool false) ∧ w = w' := by have := utf_right P w; rw [hr'] at this; exact this
            clear hr hr'
            go_wp2_with (go_at_call 84; refine hc2.mono ?_; rintro e w' ⟨rfl, rfl⟩)
            go_ret2
            rw [HE.out]
            exact ⟨rfl, rfl⟩
end Go.Proofs.YtgklmpooonnmiaaDoor
