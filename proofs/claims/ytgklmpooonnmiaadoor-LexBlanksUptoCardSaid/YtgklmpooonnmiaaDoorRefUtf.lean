/-
  Lemmas and contracts that the proofs over this seat use (part RefUtf); no statement of the seat is claimed in this text, and nothing is assumed in it.
-/
import Derived.Test.YtgklmpooonnmiaaDoorUtfCheck
set_option linter.unusedVariables false
set_option linter.unusedSimpArgs false
namespace Go.Proofs.YtgklmpooonnmiaaDoor
open Go.RowKit
namespace Utf
/-- a letter's bytes. -/
def put (n : Nat) : List Nat :=
  if right n = true then
    (if n < 128 then [n] else if n < 2048 then [192 + n / 64, 128 + n % 64]
     else if n < 65536 then [224 + n / 4096, 128 + n / 64 % 64, 128 + n % 64]
     else [240 + n / 262144, 128 + n / 4096 % 64, 128 + n / 64 % 64, 128 + n % 64])
  else []
end Utf
/-- 'string(b)' of a slice just built. -/
theorem str_new (w : World) (cs : Array Value) (D : List Nat) (hc : cs = (u8s D).toArray) (n : Nat) (hn : D.length = n) (hl : n ≤ maxLen) :
    (convert 36 9 (.slice (some ⟨w.heap.size, 0, none⟩) n n)).run Tryd.prog (w.alloc (.cells cs 5)) = .ok (.string (ba D)) (w.alloc (.cells cs 5)) := by
  subst hc
  refine owns_str (b := 0) (n := n) ⟨by rw [u8s_length, hn, Nat.mul_one], Or.inr ⟨_, n, _, rfl, Nat.zero_le _, heap_alloc_last _ _, Nat.le_refl _, hl, by simp only [List.size_toArray, u8s_length, hn, Nat.mul_one], ?_⟩⟩
  rw [Nat.mul_one, List.take_of_length_le (by simp [hn])]
set_option maxHeartbeats 4000000 in
set_option maxRecDepth 100000 in
theorem ref_put (n : Nat) (hn : n ≤ 2097151) (w : World) :
    Calls Tryd.prog 85 #[.int .i64 n] w fun e w' => e = .returned (.string (ba (Utf.put n))) ∧ Fr [] w w' := by
  have h0 : ¬ (n : Int) < 0 := by omega
  have h0' : decide ((n : Int) < 0) = false := decide_eq_false h0
  by_cases hr : Utf.right n = true
  · have hr2 : n ≤ 1114111 ∧ (n < 55296 ∨ 57343 < n) := by simpa [Utf.right] using hr
    have hg : ¬ (n : Int) > 1114111 := by omega
    have hd : (¬ (n : Int) ≥ 55296) ∨ ((n : Int) ≥ 55296 ∧ ¬ (n : Int) ≤ 57343) := by omega
    have HR := Lib.hid hr
    clear hr hr2
    by_cases h1 : n < 128
    · have hP : Hid (Utf.put n = [n]) := by show _ = _; rw [Utf.put, if_pos HR.out, if_pos h1]
      have h1' : (n : Int) < 128 := by omega
      have hd2 : ¬ (n : Int) ≥ 55296 := by omega
      have cv := str_new w #[.int .u8 (n : Int)] [n] rfl 1 rfl (by decide)
      have hw : IntKind.u8.wrap (n : Int) = n := by rw [wrap8]; omega
      clear hd
      go_enter Tryd.func85, Tryd.ntmps85
      go_wp2
      go_ret
      rw [hP.out]
      exact ⟨rfl, (Fr.refl _ _).alloc _⟩
    have h1' : ¬ (n : Int) < 128 := by omega
    by_cases h2 : n < 2048
    · have hP : Hid (Utf.put n = [192 + n / 64, 128 + n % 64]) := by show _ = _; rw [Utf.put, if_pos HR.out, if_neg h1, if_pos h2]
      have h2' : (n : Int) < 2048 := by omega
      have hd2 : ¬ (n : Int) ≥ 55296 := by omega
      have cv := str_new w #[.int .u8 (192 + (n : Int) / 64), .int .u8 (128 + (n : Int) % 64)] [192 + n / 64, 128 + n % 64] (by simp [u8s]) 2 rfl (by decide)
      clear hd
      go_enter Tryd.func85, Tryd.ntmps85
      go_wp2
      go_ret
      rw [hP.out]
      exact ⟨rfl, (Fr.refl _ _).alloc _⟩
    have h2' : ¬ (n : Int) < 2048 := by omega
    by_cases h3 : n < 65536
    · have hP : Hid (Utf.put n = [224 + n / 4096, 128 + n / 64 % 64, 128 + n % 64]) := by show _ = _; rw [Utf.put, if_pos HR.out, if_neg h1, if_neg h2, if_pos h3]
      have h3' : (n : Int) < 65536 := by omega
      have cv := str_new w #[.int .u8 (224 + (n : Int) / 4096), .int .u8 (128 + (n : Int) / 64 % 64), .int .u8 (128 + (n : Int) % 64)] [224 + n / 4096, 128 + n / 64 % 64, 128 + n % 64] (by simp [u8s]) 3 rfl (by decide)
      rcases hd with hd2 | ⟨hd2, hd3⟩
      all_goals
        go_enter Tryd.func85, Tryd.ntmps85
        go_wp2
        go_ret
        rw [hP.out]
        exact ⟨rfl, (Fr.refl _ _).alloc _⟩
    · have hP : Hid (Utf.put n = [240 + n / 262144, 128 + n / 4096 % 64, 128 + n / 64 % 64, 128 + n % 64]) := by show _ = _; rw [Utf.put, if_pos HR.out, if_neg h1, if_neg h2, if_neg h3]
      have h3' : ¬ (n : Int) < 65536 := by omega
      have hd2 : (n : Int) ≥ 55296 := by omega
      have hd3 : ¬ (n : Int) ≤ 57343 := by omega
      have cv := str_new w #[.int .u8 (240 + (n : Int) / 262144), .int .u8 (128 + (n : Int) / 4096 % 64), .int .u8 (128 + (n : Int) / 64 % 64), .int .u8 (128 + (n : Int) % 64)] [240 + n / 262144, 128 + n / 4096 % 64, 128 + n / 64 % 64, 128 + n % 64] (by simp [u8s]) 4 rfl (by decide)
      clear hd
      go_enter Tryd.func85, Tryd.ntmps85
      go_wp2
      go_ret
      rw [hP.out]
      exact ⟨rfl, (Fr.refl _ _).alloc _⟩
  · have hP : Hid (Utf.put n = []) := by show _ = _; rw [Utf.put, if_neg hr]
    by_cases hg : (n : Int) > 1114111
    · go_enter Tryd.func85, Tryd.ntmps85
      go_wp2
      go_ret
      rw [hP.out]
      exact ⟨rfl, Fr.refl _ _⟩
    · have hd2 : (n : Int) ≥ 55296 ∧ (n : Int) ≤ 57343 := by
        have : ¬ (n ≤ 1114111 ∧ (n < 55296 ∨ 57343 < n)) := by simpa [Utf.right] using hr
        omega
      obtain ⟨hd3, hd4⟩ := hd2
      go_enter Tryd.func85, Tryd.ntmps85
      go_wp2
      go_ret
      rw [hP.out]
      exact ⟨rfl, Fr.refl _ _⟩
end Go.Proofs.YtgklmpooonnmiaaDoor
