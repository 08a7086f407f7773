/-
  Lemmas and contracts that the proofs over this seat use (LexSpell, TokI); no statement of the seat is claimed in this text, and nothing is assumed in it.
-/
import Derived.Test.YtgklmpooonnmiaaDoorJ13
import Derived.Test.YtgklmpooonnmiaaDoorJ5
import Derived.Test.YtgklmpooonnmiaaDoorJ4
import Derived.Test.YtgklmpooonnmiaaDoorJ11
set_option linter.unusedVariables false
set_option linter.unusedSimpArgs false
namespace Go.Proofs.YtgklmpooonnmiaaDoor
open Go.RowKit
namespace Lex
def spell (k : Int) (s : ByteArray) (n : Int) : ByteArray :=
 if k = 1 then (if wordB s = true then s else ⟨#[]⟩)
 else if k = 2 then ba ((quote s).getD [])
 else if k = 3 then (if -9007199254740991 ≤ n ∧ n ≤ 9007199254740991 then ba (Dec.print n) else ⟨#[]⟩)
 else if k = 4 then (if 0 < s.size ∧ sign (bn s) s.size = s.size then s else ⟨#[]⟩)
 else ⟨#[]⟩
end Lex
set_option maxHeartbeats 4000000 in
set_option maxRecDepth 100000 in
theorem lex_spell (w : World) (k : Int) (s : ByteArray) (n p : Int) (hs : s.size ≤ 100000000) (hn : -9223372036854775808 ≤ n ∧ n ≤ 9223372036854775807) (hL : Least w) :
  Calls Tryd.prog 10 #[.agg #[.int .i64 k, .string s, .int .i64 n, .int .i64 p]] w fun e w' => e = .returned (.string (Lex.spell k s n)) ∧ Fr [] w w' := by
 have hs2 : s.size ≤ maxLen := by unfold maxLen; omega
 have HL := Lib.hid hL
 have HS := Lib.hid hs
 have HS2 := Lib.hid hs2
 clear hL hs hs2
 by_cases k1 : k = 1
 ·subst k1
  have HSP : Hid (Lex.spell 1 s n = if Lex.wordB s = true then s else ⟨#[]⟩) := rfl
  have HWD := Lib.hid (fun W => lex_word W s HS2.out)
  obtain ⟨b, hb⟩ : ∃ b, Hid (Lex.wordB s = b) := ⟨_, rfl⟩
  simp only [hb.out] at HWD
  rw [hb.out] at HSP
  clear hb
  go_enter Tryd.func10, Tryd.ntmps10
  go_wp2_with fail
  refine (HWD.out _).mono ?_
  rintro e w1 ⟨rfl, rfl⟩
  cases b
  all_goals
   go_wp2_with fail
   go_ret
   rw [HSP.out]
   exact ⟨rfl, (Fr.refl _ _).alloc _⟩
 have q1 : (k == 1) = false := beq_eq_false_iff_ne.2 k1
 by_cases k2 : k = 2
 ·subst k2
  have HSP : Hid (Lex.spell 2 s n = ba ((Lex.quote s).getD [])) := rfl
  have HQU := Lib.hid (fun W h => lex_quote W s HS.out h)
  clear k1 q1
  go_enter Tryd.func10, Tryd.ntmps10
  go_wp2_with fail
  refine (HQU.out _ (HL.out.fr (bs := []) ((Fr.refl _ _).alloc _) (by simp))).mono ?_
  rintro e w1 ⟨rfl, hF⟩
  have HF := Lib.hid (((Fr.refl [] w).alloc _).trans0 hF)
  clear hF
  go_wp2_with fail
  go_ret
  rw [HSP.out]
  exact ⟨rfl, HF.out⟩
 have q2 : (k == 2) = false := beq_eq_false_iff_ne.2 k2
 by_cases k3 : k = 3
 ·subst k3
  have HPR := Lib.hid (fun W => dec_print W n hn)
  clear k1 k2 q1 q2 hn
  by_cases g1 : -9007199254740991 ≤ n
  ·by_cases g2 : n ≤ 9007199254740991
   ·have HSP : Hid (Lex.spell 3 s n = ba (Dec.print n)) := by show (if -9007199254740991 ≤ n ∧ n ≤ 9007199254740991 then ba (Dec.print n) else ⟨#[]⟩) = _; rw [if_pos ⟨g1, g2⟩]
    have g1' : n ≥ -9007199254740991 := g1
    go_enter Tryd.func10, Tryd.ntmps10
    go_wp2_with fail
    refine (HPR.out _).mono ?_
    rintro e w1 ⟨rfl, hF⟩
    have HF := Lib.hid (((Fr.refl [] w).alloc _).trans0 hF)
    clear hF
    go_wp2_with fail
    go_ret
    rw [HSP.out]
    exact ⟨rfl, HF.out⟩
   ·have HSP : Hid (Lex.spell 3 s n = ⟨#[]⟩) := by show (if -9007199254740991 ≤ n ∧ n ≤ 9007199254740991 then ba (Dec.print n) else ⟨#[]⟩) = _; rw [if_neg (by omega)]
    have g1' : n ≥ -9007199254740991 := g1
    go_enter Tryd.func10, Tryd.ntmps10
    go_wp2_with fail
    go_ret
    rw [HSP.out]
    exact ⟨rfl, (Fr.refl _ _).alloc _⟩
  ·have HSP : Hid (Lex.spell 3 s n = ⟨#[]⟩) := by show (if -9007199254740991 ≤ n ∧ n ≤ 9007199254740991 then ba (Dec.print n) else ⟨#[]⟩) = _; rw [if_neg (by omega)]
   have g1' : ¬ n ≥ -9007199254740991 := g1
   go_enter Tryd.func10, Tryd.ntmps10
   go_wp2_with fail
   go_ret
   rw [HSP.out]
   exact ⟨rfl, (Fr.refl _ _).alloc _⟩
 have q3 : (k == 3) = false := beq_eq_false_iff_ne.2 k3
 by_cases k4 : k = 4
 ·subst k4
  clear k1 k2 q1 q2 hn k3 q3
  by_cases h0 : s.size = 0
  ·have e1 := toList_nil h0
   have HSP : Hid (Lex.spell 4 s n = ⟨#[]⟩) := by show (if 0 < s.size ∧ Lex.sign (bn s) s.size = s.size then s else ⟨#[]⟩) = _; rw [if_neg (by omega)]
   go_enter Tryd.func10, Tryd.ntmps10
   go_wp2_with fail
   go_quiet (fail)
   refine then_fresh (fun W => Fr [] w W) ((Fr.refl _ _).alloc _ |>.drewN _) ?_
   intro W1 HF1
   go_wp2_with fail
   go_ret
   rw [HSP.out]
   exact ⟨rfl, HF1⟩
  ·obtain ⟨hne, hie⟩ := toList_ne (by omega : 0 < s.size)
   have HSG := Lib.hid (fun W => lex_sign W s HS2.out)
   by_cases hk : Lex.sign (bn s) s.size = s.size
   ·have HSP : Hid (Lex.spell 4 s n = s) := by show (if 0 < s.size ∧ Lex.sign (bn s) s.size = s.size then s else ⟨#[]⟩) = _; rw [if_pos ⟨by omega, hk⟩]
    have HX : Hid (∀ W, Calls Tryd.prog 29 #[.string s] W fun e w' => e = .returned (.string s) ∧ w' = W) := fun W => by
     refine (HSG.out W).mono ?_
     rintro e w' ⟨rfl, rfl⟩
     refine ⟨?_, rfl⟩
     rw [hk, show s.extract 0 s.size = s by simp]
    clear HSG hk
    go_enter Tryd.func10, Tryd.ntmps10
    go_wp2_with fail
    go_quiet ((go_at_call 29; exact Calls.quiet_of_same (HX.out _)))
    refine then_fresh (fun W => ∃ g, W.heap[g]? = some (.cells #[.int .i64 4, .string s, .int .i64 n, .int .i64 p] 25 (0, 0)) ∧ g = w.heap.size ∧ Fr [] w W) ⟨_, heap_alloc_last w _, rfl, (Fr.refl _ _).alloc _ |>.drewN _⟩ ?_
    rintro W1 ⟨g, hg, rfl, HF1⟩
    have c1 := cell_of_row W1 _ 1 _ _ (0, 0) hg
    go_wp2_with fail
    go_ret
    rw [HSP.out]
    exact ⟨rfl, HF1⟩
   ·have HSP : Hid (Lex.spell 4 s n = ⟨#[]⟩) := by show (if 0 < s.size ∧ Lex.sign (bn s) s.size = s.size then s else ⟨#[]⟩) = _; rw [if_neg (fun h => hk h.2)]
    obtain ⟨U, hU⟩ : ∃ U, s.extract 0 (Lex.sign (bn s) s.size) = U := ⟨_, rfl⟩
    have hUs : ¬ U.toList = s.toList := fun h => by
     have h1 : U.size = s.size := by
      have := congrArg List.length h
      simpa [ByteArray.toList_eq] using this
     have h2 : U.size = Lex.sign (bn s) s.size := by rw [← hU]; have := Lex.sign_le (bn s) s.size; simp; omega
     omega
    have hUb : (U.toList == s.toList) = false := beq_eq_false_iff_ne.2 hUs
    have HX : Hid (∀ W, Calls Tryd.prog 29 #[.string s] W fun e w' => e = .returned (.string U) ∧ w' = W) := fun W => by
     refine (HSG.out W).mono ?_
     rintro e w' ⟨rfl, rfl⟩
     refine ⟨?_, rfl⟩
     rw [hU]
    clear HSG hk hU
    go_enter Tryd.func10, Tryd.ntmps10
    go_wp2_with fail
    go_quiet ((go_at_call 29; exact Calls.quiet_of_same (HX.out _)))
    refine then_fresh (fun W => Fr [] w W) ((Fr.refl _ _).alloc _ |>.drewN _) ?_
    intro W1 HF1
    go_wp2_with fail
    go_ret
    rw [HSP.out]
    exact ⟨rfl, HF1⟩
 have q4 : (k == 4) = false := beq_eq_false_iff_ne.2 k4
 have HSP : Hid (Lex.spell k s n = ⟨#[]⟩) := by show _ = _; unfold Lex.spell; rw [if_neg k1, if_neg k2, if_neg k3, if_neg k4]
 clear k1 k2 k3 k4
 go_enter Tryd.func10, Tryd.ntmps10
 go_wp2_with fail
 go_ret
 rw [HSP.out]
 exact ⟨rfl, (Fr.refl _ _).alloc _⟩
end Go.Proofs.YtgklmpooonnmiaaDoor

namespace Go.Proofs.YtgklmpooonnmiaaDoor
open Go.RowKit
structure TI where
 k : Int
 s : ByteArray
 n : Int
 p : Int
def TI.spell (t : TI) : ByteArray := Lex.spell t.k t.s t.n
def TI.fits (t : TI) : Prop := t.s.size ≤ 3000 ∧ -9223372036854775808 ≤ t.n ∧ t.n ≤ 9223372036854775807
def Toks (w : World) (A : Option Addr) (l : List TI) : Prop :=
 ∀ (j : Nat) (t : TI), l[j]? = some t → ∃ ad, A = some ad ∧ w.cell? (ad.add (j * 4)) = some (.int .i64 t.k) ∧ w.cell? ⟨(ad.add (j * 4)).block, (ad.add (j * 4)).off + 1, none⟩ = some (.string t.s) ∧ w.cell? ⟨(ad.add (j * 4)).block, (ad.add (j * 4)).off + 2, none⟩ = some (.int .i64 t.n) ∧ w.cell? ⟨(ad.add (j * 4)).block, (ad.add (j * 4)).off + 3, none⟩ = some (.int .i64 t.p)
theorem Toks.fr {w w' : World} {A : Option Addr} {l : List TI} (h : Toks w A l) (hF : Fr [] w w') : Toks w' A l := by
 intro j t hj
 obtain ⟨ad, hA, h0, h1, h2, h3⟩ := h j t hj
 have fr : ∀ {p : Addr} {v : Value}, w.cell? p = some v → w'.cell? p = some v := fun {p v} hp => by
  rw [hF.cell (World.block_lt_of_cell? w _ hp) (by simp)]; exact hp
 exact ⟨ad, hA, fr h0, fr h1, fr h2, fr h3⟩
def strs (l : List ByteArray) : List Value := l.map .string
theorem infoStr : (Tryd.prog.info? 9).map (fun i => (i.zero, i.size, i.bytes)) = some (some (.string ⟨#[]⟩), 1, 16) := by kernel_rfl
end Go.Proofs.YtgklmpooonnmiaaDoor
