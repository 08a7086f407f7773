/-
  Lemmas and contracts that the proofs over this seat use (PolKept, LexWord); no statement of the seat is claimed in this text, and nothing is assumed in it.
-/
import Derived.Test.YtgklmpooonnmiaaDoorJ2
import Derived.Test.YtgklmpooonnmiaaDoorJ9
set_option linter.unusedVariables false
set_option linter.unusedSimpArgs false
namespace Go.Proofs.YtgklmpooonnmiaaDoor
open Go.RowKit
def Pol.words : List (List UInt8) := [[112, 101, 114, 109, 105, 116], [100, 101, 110, 121], [119, 104, 101, 110], [97, 110, 100], [111, 114], [110, 111, 116], [105, 110], [104, 97, 115], [116, 114, 117, 101], [102, 97, 108, 115, 101], [99, 108, 97, 105, 109]]
def Pol.kept (s : ByteArray) : Bool := Pol.words.contains s.toList
set_option maxHeartbeats 4000000 in
set_option maxRecDepth 100000 in
theorem pol_kept (w : World) (s : ByteArray) : Calls Tryd.prog 106 #[.string s] w fun e w' => e = .returned (.bool (Pol.kept s)) ∧ w = w' := by
 go_enter Tryd.func106, Tryd.ntmps106
 go_wp2_with fail
 all_goals (refine bodyPost_ret (results_tmp rfl _ _ _) rfl ?_; simp_all [Pol.kept, Pol.words])
end Go.Proofs.YtgklmpooonnmiaaDoor

namespace Go.Proofs.YtgklmpooonnmiaaDoor
open Go.RowKit
namespace Lex
def wordB (s : ByteArray) : Bool := decide (smalls (bn s) s.size 0 = s.size ∧ 0 < s.size ∧ s.size ≤ 32)
theorem wordB_no {s : ByteArray} (h : smalls (bn s) s.size 0 ≠ s.size) : wordB s = false := decide_eq_false fun ⟨h1, _⟩ => h h1
end Lex
set_option maxHeartbeats 4000000 in
set_option maxRecDepth 100000 in
theorem lex_word (w : World) (s : ByteArray) (hs : s.size ≤ maxLen) :
  Calls Tryd.prog 27 #[.string s] w fun e w' => e = .returned (.bool (Lex.wordB s)) ∧ w = w' := by
 unfold maxLen at hs
 go_enter Tryd.func27, Tryd.ntmps27
 go_wp2_with fail
 go_loopg [3, 6] s.size (fun q _ t W => ∃ k : Nat, k ≤ s.size ∧ q = s.size - k ∧ t = .int .i64 k ∧ Hid (Lex.smalls (bn s) s.size k = Lex.smalls (bn s) s.size 0) ∧ W = w)
 case atStart => exact ⟨0, by omega, by omega, rfl, rfl, rfl⟩
 case round =>
  obtain ⟨k, hk, hq, rfl, HL, rfl⟩ := hrel
  by_cases hlt : k < s.size
  ·have hlt' : (k : Int) < (s.size : Int) := by omega
   have hz := bn_at s k hlt
   have HSM := Lib.hid (fun v => lex_small (bn s k) v)
   by_cases hd : Lex.small (bn s k) = true
   ·simp only [hd] at HSM
    have HL2 : Hid (Lex.smalls (bn s) s.size (k + 1) = Lex.smalls (bn s) s.size 0) := by show _ = _; rw [← HL.out, Lex.smalls_yes hlt hd]
    clear HL hd
    go_wp2_with fail
    refine (HSM.out _).mono ?_
    rintro e w1 ⟨rfl, rfl⟩
    go_wp2_with fail
    go_roundg (s.size - (k + 1))
    case measure => omega
    case rel => exact ⟨k + 1, by omega, rfl, by go_num, HL2.out, rfl⟩
   ·have hd' : Lex.small (bn s k) = false := by simpa using hd
    simp only [hd'] at HSM
    have HW : Hid (Lex.wordB s = false) := Lex.wordB_no (by rw [← HL.out, Lex.smalls_no hd]; omega)
    clear HL hd hd'
    go_wp2_with fail
    refine (HSM.out _).mono ?_
    rintro e w1 ⟨rfl, rfl⟩
    go_wp2_with fail
    go_ret
    rw [HW.out]
    exact ⟨rfl, rfl⟩
  ·obtain rfl : k = s.size := by omega
   have HE : Hid (Lex.smalls (bn s) s.size 0 = s.size) := by show _ = _; rw [← HL.out, Lex.smalls_end hlt]
   clear HL
   by_cases h0 : s.size = 0
   ·have e1 := toList_nil h0
    have HW : Hid (Lex.wordB s = false) := decide_eq_false (by omega)
    go_wp2_with fail
    go_ret
    rw [HW.out]
    exact ⟨rfl, rfl⟩
   ·obtain ⟨hne, hie⟩ := toList_ne (by omega : 0 < s.size)
    by_cases h32 : s.size ≤ 32
    ·have h32' : (s.size : Int) ≤ 32 := by omega
     have HW : Hid (Lex.wordB s = true) := decide_eq_true ⟨HE.out, by omega, h32⟩
     go_wp2_with fail
     go_ret
     rw [HW.out]
     exact ⟨rfl, rfl⟩
    ·have h32' : ¬ (s.size : Int) ≤ 32 := by omega
     have HW : Hid (Lex.wordB s = false) := decide_eq_false (by omega)
     go_wp2_with fail
     go_ret
     rw [HW.out]
     exact ⟨rfl, rfl⟩
end Go.Proofs.YtgklmpooonnmiaaDoor
