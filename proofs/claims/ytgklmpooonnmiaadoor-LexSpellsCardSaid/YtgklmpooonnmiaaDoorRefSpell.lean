/-
  Lemmas and contracts that the proofs over this seat use (part RefSpell); no statement of the seat is claimed in this text, and nothing is assumed in it.
-/
import Derived.Test.YtgklmpooonnmiaaDoorLexSpell
import Derived.Test.YtgklmpooonnmiaaDoorRefQuote
import Derived.Test.YtgklmpooonnmiaaDoorRefPrint
import Derived.Test.YtgklmpooonnmiaaDoorRefSmall
import Derived.Test.YtgklmpooonnmiaaDoorRefSign
import Derived.Test.YtgklmpooonnmiaaDoorRefSpell4
set_option linter.unusedVariables false
set_option linter.unusedSimpArgs false
namespace Go.Proofs.YtgklmpooonnmiaaDoor
open Go.RowKit
set_option maxHeartbeats 4000000 in
set_option maxRecDepth 100000 in
theorem ref_spell (w : World) (k : Int) (s : ByteArray) (n p : Int) (hs : s.size ≤ 100000000) (hn : -9223372036854775808 ≤ n ∧ n ≤ 9223372036854775807) :
    Calls Tryd.prog 11 #[.agg #[.int .i64 k, .string s, .int .i64 n, .int .i64 p]] w fun e w' => e = .returned (.string (Lex.spell k s n)) ∧ Fr [] w w' := by
  have hs2 : s.size ≤ maxLen := by unfold maxLen; omega
  have HS := Lib.hid hs
  have HS2 := Lib.hid hs2
  clear hs2
  by_cases k1 : k = 1
  · subst k1
    have HSP : Hid (Lex.spell 1 s n = if Lex.wordB s = true then s else ⟨#[]⟩) := rfl
    obtain ⟨R, hR⟩ : ∃ R, Hid (Lex.spell 1 s n = R) := ⟨_, rfl⟩
    rw [hR.out] at HSP
    rw [hR.out]
    have h100 : s.size ≤ 100000000 := hs
    go_enter Tryd.func11, Tryd.ntmps11
    go_wp2_with fail
    refine wp_fresh (fun W => W.heap[w.heap.size]? = some (.cells #[.int .i64 1, .string s, .int .i64 n, .int .i64 p] 25 (0, 0)) ∧ Fr [] w W) ⟨heap_alloc_last _ _, (Fr.refl _ _).alloc _⟩ ?_
    rintro W0 ⟨hr0, hf0⟩
    have HR0 := Lib.hid hr0
    have HF0 := Lib.hid hf0
    clear hr0 hf0
    go_loopg [3] s.size (fun q t W => ∃ i : Nat, i ≤ s.size ∧ q = s.size - i ∧ t = .int .i64 i ∧ Hid (Lex.smalls (bn s) s.size i = Lex.smalls (bn s) s.size 0) ∧ Hid (W.heap[w.heap.size]? = some (.cells #[.int .i64 1, .string s, .int .i64 n, .int .i64 p] 25 (0, 0))) ∧ Hid (Fr [] w W))
    case atStart => exact ⟨0, Nat.zero_le _, rfl, rfl, rfl, HR0, HF0⟩
    case round =>
      clear HR0 HF0
      obtain ⟨i, hi, hq, rfl, HL, HR0, HF⟩ := hrel
      have HQ := Lib.hid hq
      clear hq
      have c1 : wr.cell? ⟨w.heap.size, 1, none⟩ = some (.string s) := cell_of_row wr _ 1 _ _ (0, 0) HR0.out
      by_cases hlt : i < s.size
      · have hlt' : (i : Int) < (s.size : Int) := by omega
        have hz := bn_at s i hlt
        have HSM := Lib.hid (fun v => ref11_small (bn s i) v)
        by_cases hd : Lex.small (bn s i) = true
        · simp only [hd] at HSM
          have HL2 : Hid (Lex.smalls (bn s) s.size (i + 1) = Lex.smalls (bn s) s.size 0) := by show _ = _; rw [← HL.out, Lex.smalls_yes hlt hd]
          clear HL hd
          go_wp2_with fail
          refine (HSM.out _).mono ?_
          rintro e w1 ⟨rfl, rfl⟩
          go_wp2_with fail
          go_roundg (s.size - (i + 1))
          case measure => have := HQ.out; omega
          case rel => exact ⟨i + 1, by omega, rfl, by go_num, HL2, HR0, HF⟩
        · have hd' : Lex.small (bn s i) = false := by simpa using hd
          simp only [hd'] at HSM
          have HX : Hid (R = ⟨#[]⟩) := by show _ = _; rw [HSP.out, Lex.wordB_no (by rw [← HL.out, Lex.smalls_no hd]; omega)]; rfl
          clear HL hd hd'
          go_wp2_with fail
          refine (HSM.out _).mono ?_
          rintro e w1 ⟨rfl, rfl⟩
          go_wp2_with fail
          go_ret
          rw [HX.out]
          exact ⟨rfl, HF.out⟩
      · obtain rfl : i = s.size := by omega
        have hE : Lex.smalls (bn s) s.size 0 = s.size := by rw [← HL.out, Lex.smalls_end hlt]
        clear HL
        by_cases h32 : s.size ≤ 32
        · have h32' : (s.size : Int) ≤ 32 := by omega
          have HX : Hid (R = s) := by
            show _ = _
            rw [HSP.out]
            by_cases h0 : s.size = 0
            · have e0 : s = ⟨#[]⟩ := toList_inj.1 (by rw [toList_nil h0, ByteArray.toList_eq])
              split
              · rfl
              · exact e0.symm
            · rw [if_pos (show Lex.wordB s = true from decide_eq_true ⟨hE, by omega, h32⟩)]
          clear hE
          go_wp2_with fail
          go_ret
          rw [HX.out]
          exact ⟨rfl, HF.out⟩
        · have h32' : ¬ (s.size : Int) ≤ 32 := by omega
          have HX : Hid (R = ⟨#[]⟩) := by
            show _ = _
            rw [HSP.out, if_neg]
            simp [Lex.wordB]; omega
          clear hE
          go_wp2_with fail
          go_ret
          rw [HX.out]
          exact ⟨rfl, HF.out⟩
  have q1 : (k == 1) = false := beq_eq_false_iff_ne.2 k1
  by_cases k2 : k = 2
  · subst k2
    have HSP : Hid (Lex.spell 2 s n = ba ((Lex.quote s).getD [])) := rfl
    have HQU := Lib.hid (fun W => ref_quote W s HS.out)
    clear k1 q1
    go_enter Tryd.func11, Tryd.ntmps11
    go_wp2_with fail
    refine (HQU.out _).mono ?_
    rintro e w1 ⟨rfl, hF⟩
    have HF := Lib.hid (((Fr.refl [] w).alloc _).trans0 hF)
    clear hF
    go_wp2_with fail
    go_ret
    rw [HSP.out]
    exact ⟨rfl, HF.out⟩
  have q2 : (k == 2) = false := beq_eq_false_iff_ne.2 k2
  by_cases k3 : k = 3
  · subst k3
    clear k1 k2 q1 q2 hn
    by_cases g1 : -9007199254740991 ≤ n
    · by_cases g2 : n ≤ 9007199254740991
      · have HPR := Lib.hid (fun W => ref_print W n (by omega))
        have HSP : Hid (Lex.spell 3 s n = ba (Dec.print n)) := by show (if -9007199254740991 ≤ n ∧ n ≤ 9007199254740991 then ba (Dec.print n) else ⟨#[]⟩) = _; rw [if_pos ⟨g1, g2⟩]
        have g1' : n ≥ -9007199254740991 := g1
        go_enter Tryd.func11, Tryd.ntmps11
        go_wp2_with fail
        refine (HPR.out _).mono ?_
        rintro e w1 ⟨rfl, hF⟩
        have HF := Lib.hid (((Fr.refl [] w).alloc _).trans0 hF)
        clear hF
        go_wp2_with fail
        go_ret
        rw [HSP.out]
        exact ⟨rfl, HF.out⟩
      · have HSP : Hid (Lex.spell 3 s n = ⟨#[]⟩) := by show (if -9007199254740991 ≤ n ∧ n ≤ 9007199254740991 then ba (Dec.print n) else ⟨#[]⟩) = _; rw [if_neg (by omega)]
        have g1' : n ≥ -9007199254740991 := g1
        go_enter Tryd.func11, Tryd.ntmps11
        go_wp2_with fail
        go_ret
        rw [HSP.out]
        exact ⟨rfl, (Fr.refl _ _).alloc _⟩
    · have HSP : Hid (Lex.spell 3 s n = ⟨#[]⟩) := by show (if -9007199254740991 ≤ n ∧ n ≤ 9007199254740991 then ba (Dec.print n) else ⟨#[]⟩) = _; rw [if_neg (by omega)]
      have g1' : ¬ n ≥ -9007199254740991 := g1
      go_enter Tryd.func11, Tryd.ntmps11
      go_wp2_with fail
      go_ret
      rw [HSP.out]
      exact ⟨rfl, (Fr.refl _ _).alloc _⟩
  have q3 : (k == 3) = false := beq_eq_false_iff_ne.2 k3
  by_cases k4 : k = 4
  · subst k4
    have h100 : s.size ≤ 100000000 := hs
    by_cases h0 : s.size = 0
    · have HSP : Hid (Lex.spell 4 s n = ⟨#[]⟩) := by show (if 0 < s.size ∧ Lex.sign (bn s) s.size = s.size then s else ⟨#[]⟩) = _; rw [if_neg (by omega)]
      have d1 : decide ((s.size : Int) > 0) = false := decide_eq_false (by omega)
      have d2 : decide (0 < s.size) = false := decide_eq_false (by omega)
      go_enter Tryd.func11, Tryd.ntmps11
      go_wp2_with fail
      go_quiet (fail)
      refine then_fresh (fun W => Fr [] w W) ((Fr.refl _ _).alloc _ |>.drewN _) ?_
      intro W1 HF1
      go_wp2_with fail
      go_ret
      rw [HSP.out]
      exact ⟨rfl, HF1⟩
    · exact ref_spell4 w s n p HS2.out (by omega)
  have q4 : (k == 4) = false := beq_eq_false_iff_ne.2 k4
  have HSP : Hid (Lex.spell k s n = ⟨#[]⟩) := by show _ = _; unfold Lex.spell; rw [if_neg k1, if_neg k2, if_neg k3, if_neg k4]
  clear k1 k2 k3 k4
  go_enter Tryd.func11, Tryd.ntmps11
  go_wp2_with fail
  go_ret
  rw [HSP.out]
  exact ⟨rfl, (Fr.refl _ _).alloc _⟩
end Go.Proofs.YtgklmpooonnmiaaDoor
