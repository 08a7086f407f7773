/-
  Lemmas and contracts that the proofs over this seat use (part RefSpell4); no statement of the seat is claimed in this text, and nothing is assumed in it.
-/
import Derived.Test.YtgklmpooonnmiaaDoorLexSpell
import Derived.Test.YtgklmpooonnmiaaDoorRefSign
import Derived.Deep.RegionHeld3
set_option linter.unusedVariables false
set_option linter.unusedSimpArgs false
namespace Go.Proofs.YtgklmpooonnmiaaDoor
open Go.RowKit
set_option maxHeartbeats 4000000 in
set_option maxRecDepth 100000 in
theorem ref_spell4 (w : World) (s : ByteArray) (n p : Int) (hs2 : s.size ≤ maxLen) (h0 : 0 < s.size) :
    Calls Tryd.prog 11 #[.agg #[.int .i64 4, .string s, .int .i64 n, .int .i64 p]] w fun e w' => e = .returned (.string (Lex.spell 4 s n)) ∧ Fr [] w w' := by
  have HS2 := Lib.hid hs2
  have HSG := Lib.hid (fun W => ref_sign W s HS2.out)
  obtain ⟨K, hK⟩ : ∃ K, Hid (Lex.sign (bn s) s.size = K) := ⟨_, rfl⟩
  simp only [hK.out] at HSG
  have HD : (((K : Int) == (s.size : Int)) = true ∧ Lex.spell 4 s n = s) ∨ (((K : Int) == (s.size : Int)) = false ∧ Lex.spell 4 s n = ⟨#[]⟩) := by
    by_cases h : K = s.size
    · refine Or.inl ⟨beq_iff_eq.2 (by omega), ?_⟩
      show (if 0 < s.size ∧ Lex.sign (bn s) s.size = s.size then s else ⟨#[]⟩) = _
      rw [if_pos ⟨by omega, by rw [hK.out]; exact h⟩]
    · refine Or.inr ⟨beq_eq_false_iff_ne.2 (by omega), ?_⟩
      show (if 0 < s.size ∧ Lex.sign (bn s) s.size = s.size then s else ⟨#[]⟩) = _
      rw [if_neg (by rw [hK.out]; omega)]
  have d1 : decide ((s.size : Int) > 0) = true := decide_eq_true (by omega)
  have d2 : decide (0 < s.size) = true := decide_eq_true (by omega)
  have HH0 := Lib.hid h0
  clear h0
  rcases HD with ⟨hd, hsp⟩ | ⟨hd, hsp⟩
  all_goals
    have HSP := Lib.hid hsp
    clear hsp
    go_enter Tryd.func11, Tryd.ntmps11
    go_wp2_with fail
    refine wp_fresh (fun W => W.heap[w.heap.size]? = some (.cells #[.int .i64 4, .string s, .int .i64 n, .int .i64 p] 25 (0, 0)) ∧ Fr [] w W) ⟨heap_alloc_last _ _, (Fr.refl _ _).alloc _⟩ ?_
    rintro W0 ⟨hr0, hf0⟩
    have c1 : W0.cell? ⟨w.heap.size, 1, none⟩ = some (.string s) := cell_of_row W0 _ 1 _ _ (0, 0) hr0
    have HF0 := Lib.hid hf0
    clear hr0 hf0
    go_region_held3 (fun W' => W'.cell? ⟨w.heap.size, 1, none⟩ = some (.string s)) (first | go_keep | exact hF.cells c1) ((go_at_call 32; refine (HSG.out _).mono ?_; rintro e w1 ⟨rfl, hF⟩))
    have HF1 := Lib.hid ((HF0.out.drew).trans0 hF)
    have c2 := hF.cells (by simpa using c1)
    clear hF c1
    go_wp2_with fail
    go_ret
    rw [HSP.out]
    exact ⟨rfl, HF1.out⟩
end Go.Proofs.YtgklmpooonnmiaaDoor
