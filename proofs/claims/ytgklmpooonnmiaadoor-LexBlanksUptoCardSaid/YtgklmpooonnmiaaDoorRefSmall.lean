/-
  Lemmas and contracts that the proofs over this seat use (part RefSmall); no statement of the seat is claimed in this text, and nothing is assumed in it.
-/
import Derived.Test.YtgklmpooonnmiaaDoorLexSmall
set_option linter.unusedVariables false
set_option linter.unusedSimpArgs false
namespace Go.Proofs.YtgklmpooonnmiaaDoor
open Go.RowKit
theorem ref11_small (c : Nat) (w : World) :
    Calls Tryd.prog 30 #[.int .u8 c] w fun e w' => e = .returned (.bool (Lex.small c)) ∧ w = w' := by
  by_cases h1 : 97 ≤ c
  · have h1' : (c : Int) ≥ 97 := by omega
    by_cases h2 : c ≤ 122
    · have h2' : (c : Int) ≤ 122 := by omega
      have e : Lex.small c = true := by simp [Lex.small, h1, h2]
      rw [e]
      clear e h1 h2
      go_enter Tryd.func30, Tryd.ntmps30
      go_wp2
      go_ret
      exact ⟨rfl, rfl⟩
    · have h2' : ¬ (c : Int) ≤ 122 := by omega
      have e : Lex.small c = false := by simp [Lex.small, h2]; omega
      have q : ((c : Int) == 95) = false := beq_eq_false_iff_ne.2 (by omega)
      rw [e]
      clear e h1 h2
      go_enter Tryd.func30, Tryd.ntmps30
      go_wp2
      go_ret
      exact ⟨rfl, rfl⟩
  · have h1' : ¬ (c : Int) ≥ 97 := by omega
    by_cases h2 : c = 95
    · have e : Lex.small c = true := by simp [Lex.small, h2]
      have q : ((c : Int) == 95) = true := beq_iff_eq.2 (by omega)
      rw [e]
      clear e h1 h2
      go_enter Tryd.func30, Tryd.ntmps30
      go_wp2
      go_ret
      exact ⟨rfl, rfl⟩
    · have e : Lex.small c = false := by simp [Lex.small, h1, h2]
      have q : ((c : Int) == 95) = false := beq_eq_false_iff_ne.2 (by omega)
      rw [e]
      clear e h1 h2
      go_enter Tryd.func30, Tryd.ntmps30
      go_wp2
      go_ret
      exact ⟨rfl, rfl⟩
end Go.Proofs.YtgklmpooonnmiaaDoor
