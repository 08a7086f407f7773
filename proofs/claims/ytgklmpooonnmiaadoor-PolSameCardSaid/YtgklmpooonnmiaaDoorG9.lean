/-
  Lemmas and contracts that the proofs over this seat use (LexWord, LexSpell, LexJoin, PolRd); no statement of the seat is claimed in this text, and nothing is assumed in it.
-/
import Derived.Test.YtgklmpooonnmiaaDoorG6
import Derived.Test.YtgklmpooonnmiaaDoorG3
import Derived.Test.YtgklmpooonnmiaaDoorG2
import Derived.Test.YtgklmpooonnmiaaDoorG8
import Derived.Test.YtgklmpooonnmiaaDoorShelf
import Derived.BigQuiet
import Derived.Deep.RegionHeld3
set_option linter.unusedVariables false
set_option linter.unusedSimpArgs false
namespace Go.Proofs.YtgklmpooonnmiaaDoor
open Go.RowKit
namespace Lex
/-- is it a word? -/
def wordB (s : ByteArray) : Bool := decide (smalls (bn s) s.size 0 = s.size ∧ 0 < s.size ∧ s.size ≤ 32)
theorem wordB_no {s : ByteArray} (h : smalls (bn s) s.size 0 ≠ s.size) : wordB s = false := decide_eq_false fun ⟨h1, _⟩ => h h1
end Lex
set_option maxHeartbeats 4000000 in
set_option maxRecDepth 100000 in
theorem lex_word (w : World) (s : ByteArray) (hs : s.size ≤ maxLen) :
    Calls Tryd.prog 27 #[.string s] w fun e w' => e = .returned (.bool (Lex.wordB s)) ∧ w = w' := by
  unfold maxLen at hs
  go_enter Tryd.func27, Tryd.ntmps27
  go_wp2_with fail
  go_loopg [3, 6] s.size (fun q _ t W => ∃ k : Nat, k ≤ s.size ∧ q = s.size - k ∧ t = .int .i64 k ∧ Hid (Lex.smalls (bn s) s.size k = Lex.smalls (bn s) s.size 0) ∧ W = w)
  case atStart => exact ⟨0, by omega, by omega, rfl, rfl, rfl⟩
  case round =>
    obtain ⟨k, hk, hq, rfl, HL, rfl⟩ := hrel
    by_cases hlt : k < s.size
    · have hlt' : (k : Int) < (s.size : Int) := by omega
      have hz := bn_at s k hlt
      have HSM := Lib.hid (fun v => lex_small (bn s k) v)
      by_cases hd : Lex.small (bn s k) = true
      · simp only [hd] at HSM
        have HL2 : Hid (Lex.smalls (bn s) s.size (k + 1) = Lex.smalls (bn s) s.size 0) := by show _ = _; rw [← HL.out, Lex.smalls_yes hlt hd]
        clear HL hd
        go_wp2_with fail
        refine (HSM.out _).mono ?_
        rintro e w1 ⟨rfl, rfl⟩
        go_wp2_with fail
        go_roundg (s.size - (k + 1))
        case measure => omega
        case rel => exact ⟨k + 1, by omega, rfl, by go_num, HL2.out, rfl⟩
      · have hd' : Lex.small (bn s k) = false := by simpa using hd
        simp only [hd'] at HSM
        have HW : Hid (Lex.wordB s = false) := Lex.wordB_no (by rw [← HL.out, Lex.smalls_no hd]; omega)
        clear HL hd hd'
        go_wp2_with fail
        refine (HSM.out _).mono ?_
        rintro e w1 ⟨rfl, rfl⟩
        go_wp2_with fail
        go_ret
        rw [HW.out]
        exact ⟨rfl, rfl⟩
    · obtain rfl : k = s.size := by omega
      have HE : Hid (Lex.smalls (bn s) s.size 0 = s.size) := by show _ = _; rw [← HL.out, Lex.smalls_end hlt]
      clear HL
      by_cases h0 : s.size = 0
      · have e1 := toList_nil h0
        have HW : Hid (Lex.wordB s = false) := decide_eq_false (by omega)
        go_wp2_with fail
        go_ret
        rw [HW.out]
        exact ⟨rfl, rfl⟩
      · obtain ⟨hne, hie⟩ := toList_ne (by omega : 0 < s.size)
        by_cases h32 : s.size ≤ 32
        · have h32' : (s.size : Int) ≤ 32 := by omega
          have HW : Hid (Lex.wordB s = true) := decide_eq_true ⟨HE.out, by omega, h32⟩
          go_wp2_with fail
          go_ret
          rw [HW.out]
          exact ⟨rfl, rfl⟩
        · have h32' : ¬ (s.size : Int) ≤ 32 := by omega
          have HW : Hid (Lex.wordB s = false) := decide_eq_false (by omega)
          go_wp2_with fail
          go_ret
          rw [HW.out]
          exact ⟨rfl, rfl⟩
end Go.Proofs.YtgklmpooonnmiaaDoor

namespace Go.Proofs.YtgklmpooonnmiaaDoor
open Go.RowKit
namespace Lex
/-- the text of a token. -/
def spell (k : Int) (s : ByteArray) (n : Int) : ByteArray :=
  if k = 1 then (if wordB s = true then s else ⟨#[]⟩)
  else if k = 2 then ba ((quote s).getD [])
  else if k = 3 then (if -9007199254740991 ≤ n ∧ n ≤ 9007199254740991 then ba (Dec.print n) else ⟨#[]⟩)
  else if k = 4 then (if 0 < s.size ∧ sign (bn s) s.size = s.size then s else ⟨#[]⟩)
  else ⟨#[]⟩
end Lex
set_option maxHeartbeats 4000000 in
set_option maxRecDepth 100000 in
theorem lex_spell (w : World) (k : Int) (s : ByteArray) (n p : Int) (hs : s.size ≤ 100000000) (hn : -9223372036854775808 ≤ n ∧ n ≤ 9223372036854775807) (hL : Least w) :
    Calls Tryd.prog 10 #[.agg #[.int .i64 k, .string s, .int .i64 n, .int .i64 p]] w fun e w' => e = .returned (.string (Lex.spell k s n)) ∧ Fr [] w w' := by
  have hs2 : s.size ≤ maxLen := by unfold maxLen; omega
  have HL := Lib.hid hL
  have HS := Lib.hid hs
  have HS2 := Lib.hid hs2
  clear hL hs hs2
  by_cases k1 : k = 1
  · subst k1
    have HSP : Hid (Lex.spell 1 s n = if Lex.wordB s = true then s else ⟨#[]⟩) := rfl
    have HWD := Lib.hid (fun W => lex_word W s HS2.out)
    obtain ⟨b, hb⟩ : ∃ b, Hid (Lex.wordB s = b) := ⟨_, rfl⟩
    simp only [hb.out] at HWD
    rw [hb.out] at HSP
    clear hb
    go_enter Tryd.func10, Tryd.ntmps10
    go_wp2_with fail
    refine (HWD.out _).mono ?_
    rintro e w1 ⟨rfl, rfl⟩
    cases b
    all_goals
      go_wp2_with fail
      go_ret
      rw [HSP.out]
      exact ⟨rfl, (Fr.refl _ _).alloc _⟩
  have q1 : (k == 1) = false := beq_eq_false_iff_ne.2 k1
  by_cases k2 : k = 2
  · subst k2
    have HSP : Hid (Lex.spell 2 s n = ba ((Lex.quote s).getD [])) := rfl
    have HQU := Lib.hid (fun W h => lex_quote W s HS.out h)
    clear k1 q1
    go_enter Tryd.func10, Tryd.ntmps10
    go_wp2_with fail
    refine (HQU.out _ (HL.out.fr (bs := []) ((Fr.refl _ _).alloc _) (by simp))).mono ?_
    rintro e w1 ⟨rfl, hF⟩
    have HF := Lib.hid (((Fr.refl [] w).alloc _).trans0 hF)
    clear hF
    go_wp2_with fail
    go_ret
    rw [HSP.out]
    exact ⟨rfl, HF.out⟩
  have q2 : (k == 2) = false := beq_eq_false_iff_ne.2 k2
  by_cases k3 : k = 3
  · subst k3
    have HPR := Lib.hid (fun W => dec_print W n hn)
    clear k1 k2 q1 q2 hn
    by_cases g1 : -9007199254740991 ≤ n
    · by_cases g2 : n ≤ 9007199254740991
      · have HSP : Hid (Lex.spell 3 s n = ba (Dec.print n)) := by show (if -9007199254740991 ≤ n ∧ n ≤ 9007199254740991 then ba (Dec.print n) else ⟨#[]⟩) = _; rw [if_pos ⟨g1, g2⟩]
        have g1' : n ≥ -9007199254740991 := g1
        go_enter Tryd.func10, Tryd.ntmps10
        go_wp2_with fail
        refine (HPR.out _).mono ?_
        rintro e w1 ⟨rfl, hF⟩
        have HF := Lib.hid (((Fr.refl [] w).alloc _).trans0 hF)
        clear hF
        go_wp2_with fail
        go_ret
        rw [HSP.out]
        exact ⟨rfl, HF.out⟩
      · have HSP : Hid (Lex.spell 3 s n = ⟨#[]⟩) := by show (if -9007199254740991 ≤ n ∧ n ≤ 9007199254740991 then ba (Dec.print n) else ⟨#[]⟩) = _; rw [if_neg (by omega)]
        have g1' : n ≥ -9007199254740991 := g1
        go_enter Tryd.func10, Tryd.ntmps10
        go_wp2_with fail
        go_ret
        rw [HSP.out]
        exact ⟨rfl, (Fr.refl _ _).alloc _⟩
    · have HSP : Hid (Lex.spell 3 s n = ⟨#[]⟩) := by show (if -9007199254740991 ≤ n ∧ n ≤ 9007199254740991 then ba (Dec.print n) else ⟨#[]⟩) = _; rw [if_neg (by omega)]
      have g1' : ¬ n ≥ -9007199254740991 := g1
      go_enter Tryd.func10, Tryd.ntmps10
      go_wp2_with fail
      go_ret
      rw [HSP.out]
      exact ⟨rfl, (Fr.refl _ _).alloc _⟩
  have q3 : (k == 3) = false := beq_eq_false_iff_ne.2 k3
  by_cases k4 : k = 4
  · subst k4
    clear k1 k2 q1 q2 hn k3 q3
    by_cases h0 : s.size = 0
    · have e1 := toList_nil h0
      have HSP : Hid (Lex.spell 4 s n = ⟨#[]⟩) := by show (if 0 < s.size ∧ Lex.sign (bn s) s.size = s.size then s else ⟨#[]⟩) = _; rw [if_neg (by omega)]
      go_enter Tryd.func10, Tryd.ntmps10
      go_wp2_with fail
      go_quiet (fail)
      refine then_fresh (fun W => Fr [] w W) ((Fr.refl _ _).alloc _ |>.drewN _) ?_
      intro W1 HF1
      go_wp2_with fail
      go_ret
      rw [HSP.out]
      exact ⟨rfl, HF1⟩
    · obtain ⟨hne, hie⟩ := toList_ne (by omega : 0 < s.size)
      have HSG := Lib.hid (fun W => lex_sign W s HS2.out)
      by_cases hk : Lex.sign (bn s) s.size = s.size
      · have HSP : Hid (Lex.spell 4 s n = s) := by show (if 0 < s.size ∧ Lex.sign (bn s) s.size = s.size then s else ⟨#[]⟩) = _; rw [if_pos ⟨by omega, hk⟩]
        have HX : Hid (∀ W, Calls Tryd.prog 29 #[.string s] W fun e w' => e = .returned (.string s) ∧ w' = W) := fun W => by
          refine (HSG.out W).mono ?_
          rintro e w' ⟨rfl, rfl⟩
          refine ⟨?_, rfl⟩
          rw [hk, show s.extract 0 s.size = s by simp]
        clear HSG hk
        go_enter Tryd.func10, Tryd.ntmps10
        go_wp2_with fail
        go_quiet ((go_at_call 29; exact Calls.quiet_of_same (HX.out _)))
        refine then_fresh (fun W => ∃ g, W.heap[g]? = some (.cells #[.int .i64 4, .string s, .int .i64 n, .int .i64 p] 25 (0, 0)) ∧ g = w.heap.size ∧ Fr [] w W) ⟨_, heap_alloc_last w _, rfl, (Fr.refl _ _).alloc _ |>.drewN _⟩ ?_
        rintro W1 ⟨g, hg, rfl, HF1⟩
        have c1 := cell_of_row W1 _ 1 _ _ (0, 0) hg
        go_wp2_with fail
        go_ret
        rw [HSP.out]
        exact ⟨rfl, HF1⟩
      · have HSP : Hid (Lex.spell 4 s n = ⟨#[]⟩) := by show (if 0 < s.size ∧ Lex.sign (bn s) s.size = s.size then s else ⟨#[]⟩) = _; rw [if_neg (fun h => hk h.2)]
        obtain ⟨U, hU⟩ : ∃ U, s.extract 0 (Lex.sign (bn s) s.size) = U := ⟨_, rfl⟩
        have hUs : ¬ U.toList = s.toList := fun h => by
          have h1 : U.size = s.size := by
            have := congrArg List.length h
            simpa [ByteArray.toList_eq] using this
          have h2 : U.size = Lex.sign (bn s) s.size := by rw [← hU]; have := Lex.sign_le (bn s) s.size; simp; omega
          omega
        have hUb : (U.toList == s.toList) = false := beq_eq_false_iff_ne.2 hUs
        have HX : Hid (∀ W, Calls Tryd.prog 29 #[.string s] W fun e w' => e = .returned (.string U) ∧ w' = W) := fun W => by
          refine (HSG.out W).mono ?_
          rintro e w' ⟨rfl, rfl⟩
          refine ⟨?_, rfl⟩
          rw [hU]
        clear HSG hk hU
        go_enter Tryd.func10, Tryd.ntmps10
        go_wp2_with fail
        go_quiet ((go_at_call 29; exact Calls.quiet_of_same (HX.out _)))
        refine then_fresh (fun W => Fr [] w W) ((Fr.refl _ _).alloc _ |>.drewN _) ?_
        intro W1 HF1
        go_wp2_with fail
        go_ret
        rw [HSP.out]
        exact ⟨rfl, HF1⟩
  have q4 : (k == 4) = false := beq_eq_false_iff_ne.2 k4
  have HSP : Hid (Lex.spell k s n = ⟨#[]⟩) := by show _ = _; unfold Lex.spell; rw [if_neg k1, if_neg k2, if_neg k3, if_neg k4]
  clear k1 k2 k3 k4
  go_enter Tryd.func10, Tryd.ntmps10
  go_wp2_with fail
  go_ret
  rw [HSP.out]
  exact ⟨rfl, (Fr.refl _ _).alloc _⟩
end Go.Proofs.YtgklmpooonnmiaaDoor

namespace Go.Proofs.YtgklmpooonnmiaaDoor
open Go.RowKit
/-- a token of any numbers. -/
structure TI where
  k : Int
  s : ByteArray
  n : Int
  p : Int
def TI.spell (t : TI) : ByteArray := Lex.spell t.k t.s t.n
def TI.fits (t : TI) : Prop := t.s.size ≤ 3000 ∧ -9223372036854775808 ≤ t.n ∧ t.n ≤ 9223372036854775807
/-- the tokens' cells stand. -/
def Toks (w : World) (A : Option Addr) (l : List TI) : Prop :=
  ∀ (j : Nat) (t : TI), l[j]? = some t → ∃ ad, A = some ad ∧ w.cell? (ad.add (j * 4)) = some (.int .i64 t.k) ∧ w.cell? ⟨(ad.add (j * 4)).block, (ad.add (j * 4)).off + 1, none⟩ = some (.string t.s) ∧ w.cell? ⟨(ad.add (j * 4)).block, (ad.add (j * 4)).off + 2, none⟩ = some (.int .i64 t.n) ∧ w.cell? ⟨(ad.add (j * 4)).block, (ad.add (j * 4)).off + 3, none⟩ = some (.int .i64 t.p)
theorem Toks.fr {w w' : World} {A : Option Addr} {l : List TI} (h : Toks w A l) (hF : Fr [] w w') : Toks w' A l := by
  intro j t hj
  obtain ⟨ad, hA, h0, h1, h2, h3⟩ := h j t hj
  have fr : ∀ {p : Addr} {v : Value}, w.cell? p = some v → w'.cell? p = some v := fun {p v} hp => by
    rw [hF.cell (World.block_lt_of_cell? w _ hp) (by simp)]; exact hp
  exact ⟨ad, hA, fr h0, fr h1, fr h2, fr h3⟩
namespace Lex
def parts (l : List TI) : List ByteArray := (l.map TI.spell).filter fun x => !x.toList.isEmpty
theorem parts_snoc (l : List TI) (t : TI) : parts (l ++ [t]) = parts l ++ if t.spell.toList = [] then [] else [t.spell] := by
  unfold parts
  rw [List.map_append, List.filter_append]
  congr 1
  by_cases h : t.spell.toList = []
  · simp [h]
  · simp [h]
theorem parts_length (l : List TI) : (parts l).length ≤ l.length := by
  unfold parts
  exact Nat.le_trans (List.length_filter_le _ _) (by simp)
/-- the tokens' text. -/
def join (l : List TI) : ByteArray := ⟨(Lib.join ((parts l).map (·.data.toList)) [32]).toArray⟩
end Lex
def strs (l : List ByteArray) : List Value := l.map .string
theorem infoStr : (Tryd.prog.info? 9).map (fun i => (i.zero, i.size, i.bytes)) = some (some (.string ⟨#[]⟩), 1, 16) := by kernel_rfl
/-- what 'append' of one text asks of the program. -/
theorem appStr {ops : Array Oper} {rest : List Oper} {o : Oper} {a : Act} {w : World} {Q : Exit → Act → World → Prop} (hgd : o.guard = none) (s x : Operand)
    (ho : o.op = .call { callee := .builtin .append, args := #[s, x], argTypes := #[37, 37] })
    (w0 : World) (v : Value) (n : Nat) (l : List ByteArray) (y : ByteArray) (hs : a.eval s = v) (hx : a.eval x = .slice (some ⟨w.heap.size, 0, none⟩) 1 1)
    (hown : w.ownsRow w0.heap.size 9 1 v n (strs l)) (hF : Fr [] w0 w) (hn : n < 1000000000)
    (h : ∀ v' w', w'.ownsRow w0.heap.size 9 1 v' (n + 1) (strs (l ++ [y])) → Fr [] w0 w' → wpList Tryd.prog ops Q rest (a.put o.dst v') w') : wpList Tryd.prog ops Q (o :: rest) a (w.alloc (.cells #[.string y] 9)) := by
  obtain ⟨i, hi, hz0, hz1, hz2⟩ := info_parts infoStr
  refine wpList_append_lies (w.alloc _) hgd s x _ ho w0.heap.size 9 i (.string ⟨#[]⟩) 1 16 Tryd.underlying37 hi hz0 hz1 hz2 rfl (by decide) v n (strs l) hs (ownsRow_fr hown ((Fr.refl _ _).alloc _)) _ 1 1 [.string y] hx rfl (cell_one_new w _ _) (by simp [Value.oneCell']) (by decide) (by unfold maxLen; omega) (by omega) (Nat.le_trans hF.size (by simp)) _ rfl ?_
  intro g cap w' h1 h2 _ _
  have e : strs (l ++ [y]) = strs l ++ [.string y] := by simp [strs]
  exact h _ _ (by rw [e]; exact h1) ((hF.alloc _).grown (ownsRow_fr hown ((Fr.refl _ _).alloc _)) h2)
set_option maxHeartbeats 4000000 in
set_option maxRecDepth 100000 in
theorem lex_join_any (w : World) (A : Option Addr) (c : Nat) (l : List TI) (hT : Toks w A l) (hc : l.length ≤ c) (hl : l.length ≤ 10000) (hf : ∀ t ∈ l, t.s.size ≤ 100000000 ∧ -9223372036854775808 ≤ t.n ∧ t.n ≤ 9223372036854775807) (hlen : (Lex.join l).size ≤ 1000000000) (hL : Least w) :
    Calls Tryd.prog 14 #[.slice A l.length c] w fun e w' => e = .returned (.string (Lex.join l)) ∧ Fr [] w w' := by
  have hu := Tryd.underlying25
  have HT := Lib.hid hT
  have HL := Lib.hid hL
  have HFT := Lib.hid hf
  have HLEN := Lib.hid hlen
  clear hT hL hf hlen
  go_enter Tryd.func14, Tryd.ntmps14
  go_wp2_with fail
  go_loopg [3, 9] l.length (fun q v t W => ∃ k : Nat, k ≤ l.length ∧ q = l.length - k ∧ t = .int .i64 k ∧ Hid (W.ownsRow w.heap.size 9 1 v (Lex.parts (l.take k)).length (strs (Lex.parts (l.take k)))) ∧ Hid (Fr [] w W))
  case atStart => exact ⟨0, by omega, by omega, rfl, ownsRow_nil _ _ _ _, Fr.refl _ _⟩
  case round =>
    obtain ⟨k, hk, hq, rfl, HO, HF⟩ := hrel
    have HQ := Lib.hid hq
    clear hq
    by_cases hlt : k < l.length
    · have hlt' : (k : Int) < (l.length : Int) := by omega
      obtain ⟨t, ht⟩ : ∃ t, l[k]? = some t := ⟨_, List.getElem?_eq_getElem hlt⟩
      obtain ⟨ad, rfl, c0, c1, c2, c3⟩ := HT.out.fr HF.out k t ht
      have hft := HFT.out t (List.mem_of_getElem? ht)
      have HTK : Hid (l.take (k + 1) = l.take k ++ [t]) := by
        show _ = _
        rw [List.take_add_one, ht]; rfl
      obtain ⟨h1, h2⟩ := hft
      obtain ⟨y, hy⟩ : ∃ y, t.spell = y := ⟨_, rfl⟩
      have hys : Lex.spell t.k t.s t.n = y := hy
      have HSP : Hid (∀ W, Least W → Calls Tryd.prog 10 #[.agg #[.int .i64 t.k, .string t.s, .int .i64 t.n, .int .i64 t.p]] W fun e w' => e = .returned (.string y) ∧ Fr [] W w') := fun W hW => by
        rw [← hys]; exact lex_spell W t.k t.s t.n t.p (by omega) h2 hW
      have HP := Lib.hid (Lex.parts_snoc (l.take k) t)
      rw [hy, ← HTK.out] at HP
      have HPL : Hid ((Lex.parts (l.take k)).length ≤ 10000) := by show _ ≤ _; have h8 := Lex.parts_length (l.take k); rw [List.length_take] at h8; omega
      have HFA := Lib.hid (fun o => HF.out.alloc o)
      have HOA := Lib.hid (fun o => ownsRow_fr HO.out ((Fr.refl [] wr).alloc o))
      clear h1 h2 hys
      go_wp2_with fail
      refine (HSP.out _ (HL.out.fr (bs := []) (HFA.out _) (by simp))).mono ?_
      rintro e w1 ⟨rfl, hf1⟩
      have HF1 := Lib.hid ((HFA.out _).trans0 hf1)
      have HO1 := Lib.hid (ownsRow_fr (HOA.out _) hf1)
      clear hf1 HFA HOA HSP HO HF c0 c1 c2 c3 hy
      by_cases hy0 : y.toList = []
      · have hy1 : y.toList.isEmpty = true := by rw [hy0]; rfl
        rw [if_pos hy0, List.append_nil] at HP
        have hyb : (y.toList == []) = true := by rw [hy0]; rfl
        go_wp2_with fail
        go_roundg (l.length - (k + 1))
        case measure => have := HQ.out; omega
        case rel => exact ⟨k + 1, by omega, rfl, by go_num, by show World.ownsRow _ _ _ _ _ _ _; rw [HP.out]; exact HO1.out, HF1.out⟩
      · have hy1 : y.toList.isEmpty = false := by cases hq : y.toList with | nil => exact absurd hq hy0 | cons => rfl
        rw [if_neg hy0] at HP
        go_wp2_with (at_builtin; refine appStr rfl (.tmp 17) (.tmp 19) rfl w _ _ _ y rfl rfl HO1.out HF1.out (by have := HPL.out; omega) ?_)
        intro v2 w3 ho2 hf2
        have HO2 := Lib.hid ho2
        have HF2 := Lib.hid hf2
        clear ho2 hf2
        go_wp2_with fail
        go_roundg (l.length - (k + 1))
        case measure => have := HQ.out; omega
        case rel => exact ⟨k + 1, by omega, rfl, by go_num, by show World.ownsRow _ _ _ _ _ _ _; rw [HP.out, List.length_append]; exact HO2.out, HF2.out⟩
    · obtain rfl : k = l.length := by omega
      have ht : l.take l.length = l := List.take_length
      rw [ht] at HO
      obtain ⟨P, hP⟩ : ∃ P, Hid (Lex.parts l = P) := ⟨_, rfl⟩
      have hPL := Lex.parts_length l
      have hJ : Lex.join l = ⟨(Lib.join (P.map (·.data.toList)) [32]).toArray⟩ := by unfold Lex.join; rw [hP.out]
      rw [hP.out] at HO hPL
      have hlen := HLEN.out
      rw [hJ] at hlen
      have hj2 : (Lib.join (P.map (·.data.toList)) [32]).length ≤ 1000000000 := by simpa [ByteArray.size] using hlen
      have HJ := Lib.hid hJ
      by_cases h0 : P = []
      · subst h0
        obtain ⟨a, c9, hv⟩ := own_form HO.out
        subst hv
        have HC := Lib.hid (Tryd.strings_Join_none a c9 ⟨#[32]⟩ wr)
        clear hJ hlen hj2 ht hPL
        go_wp2_with fail
        refine HC.out.mono ?_
        rintro e w1 ⟨rfl, rfl⟩
        go_wp2_with fail
        go_ret
        rw [HJ.out]
        exact ⟨rfl, HF.out⟩
      · have hpos : 0 < P.length := List.length_pos_iff.2 h0
        obtain ⟨g, c9, rfl, hg1, hg2, hc1, hc2, hcell⟩ := own_at HO.out hpos
        have HC := Lib.hid (Tryd.strings_Join g 0 c9 P ⟨#[32]⟩ wr (fun j x hj => by rw [Nat.zero_add]; exact hcell j _ (by simp [strs, hj])) hg2 (by omega) hc1 (by simpa using (by omega : (Lib.join (P.map (·.data.toList)) [32]).length ≤ 140737488355328)))
        clear hJ hlen hj2 ht hPL hcell hg1 hg2 hc1 hc2
        go_wp2_with fail
        refine HC.out.mono ?_
        rintro e w1 ⟨rfl, hB⟩
        have HF1 := Lib.hid (HF.out.trans0 (Fr.of_below hB))
        clear hB HC
        go_wp2_with fail
        go_ret
        rw [HJ.out]
        exact ⟨rfl, HF1.out⟩
theorem lex_join (w : World) (A : Option Addr) (c : Nat) (l : List TI) (hT : Toks w A l) (hc : l.length ≤ c) (hl : l.length ≤ 10000) (hf : ∀ t ∈ l, t.fits) (hlen : (Lex.join l).size ≤ 1000000000) (hL : Least w) :
    Calls Tryd.prog 14 #[.slice A l.length c] w fun e w' => e = .returned (.string (Lex.join l)) ∧ Fr [] w w' :=
  lex_join_any w A c l hT hc hl (fun t ht => ⟨by have := (hf t ht).1; omega, (hf t ht).2⟩) hlen hL
end Go.Proofs.YtgklmpooonnmiaaDoor

namespace Go.Proofs.YtgklmpooonnmiaaDoor
open Go.RowKit
/-- tokens from a cell on. -/
def TK (w : World) (g o : Nat) (l : List TI) : Prop :=
  ∀ j t, l[j]? = some t → w.cell? ⟨g, o + 4 * j, none⟩ = some (.int .i64 t.k) ∧ w.cell? ⟨g, o + 4 * j + 1, none⟩ = some (.string t.s) ∧ w.cell? ⟨g, o + 4 * j + 2, none⟩ = some (.int .i64 t.n) ∧ w.cell? ⟨g, o + 4 * j + 3, none⟩ = some (.int .i64 t.p)
theorem TK.fr {bs : List Nat} {w w' : World} {g o : Nat} {l : List TI} (h : TK w g o l) (hf : Fr bs w w') (hg : g < w.heap.size) (hn : g ∉ bs) : TK w' g o l := fun j t hj => by
  obtain ⟨a, b, c, d⟩ := h j t hj
  exact ⟨(hf.cell (p := ⟨g, _, none⟩) hg hn).trans a, (hf.cell (p := ⟨g, _, none⟩) hg hn).trans b, (hf.cell (p := ⟨g, _, none⟩) hg hn).trans c, (hf.cell (p := ⟨g, _, none⟩) hg hn).trans d⟩
theorem TK.tail {w : World} {g o : Nat} {t : TI} {l : List TI} (h : TK w g o (t :: l)) : TK w g (o + 4) l := fun j u hj => by
  have := h (j + 1) u (by simpa using hj)
  have e : o + 4 + 4 * j = o + 4 * (j + 1) := by omega
  rw [e]; exact this
/-- the chain of a stop. -/
def stopC (b : Nat) : List PanicEntry := [{ v := .iface 92 (.agg #[.pointer (some ⟨b, 0, none⟩)]), recovered := false }]
/-- it stops: where, and why. -/
def Stops (bs : List Nat) (w : World) (p e : Int) (x : Ending) (w' : World) : Prop :=
  ∃ b, w.heap.size ≤ b ∧ x = .panicked (stopC b) ∧ w'.heap[b]? = some (.cells #[.int .i64 p, .iface 57 (.int .i64 e)] 73 (0, 0)) ∧ Fr bs w w'
theorem Stops.from {bs cs : List Nat} {w0 w w' : World} {p e : Int} {x : Ending} (h : Stops cs w p e x w') (hf : Fr bs w0 w) (hs : ∀ y ∈ cs, y ∈ bs ∨ w0.heap.size ≤ y) : Stops bs w0 p e x w' := by
  obtain ⟨b, hb, hx, hr, hf2⟩ := h
  exact ⟨b, Nat.le_trans hf.size hb, hx, hr, hf.trans hf2 hs⟩
/-- the reader: what is left to be read, and how deep it stands. -/
structure Rd (w : World) (r g o c : Nat) (l : List TI) (nest : Nat) : Prop where
  row : w.heap[r]? = some (.cells #[.slice (some ⟨g, o, none⟩) l.length c, .int .i64 nest] 96 (0, 0))
  tk : TK w g o l
  gl : g < w.heap.size
  ne : g ≠ r
  lc : l.length ≤ c
  cm : c ≤ maxLen
  few : l.length ≤ 1000000
theorem Rd.fr {bs : List Nat} {w w' : World} {r g o c : Nat} {l : List TI} {nest : Nat} (h : Rd w r g o c l nest) (hf : Fr bs w w') (hr : r ∉ bs) (hg : g ∉ bs) : Rd w' r g o c l nest :=
  ⟨hf.row h.row hr, h.tk.fr hf h.gl hg, Nat.lt_of_lt_of_le h.gl hf.size, h.ne, h.lc, h.cm, h.few⟩
theorem Rd.c0 {w : World} {r g o c : Nat} {l : List TI} {nest : Nat} (h : Rd w r g o c l nest) : w.cell? ⟨r, 0, none⟩ = some (.slice (some ⟨g, o, none⟩) l.length c) := by rw [cell_of_row _ _ _ _ _ _ h.row]; rfl
theorem Rd.c1 {w : World} {r g o c : Nat} {l : List TI} {nest : Nat} (h : Rd w r g o c l nest) : w.cell? ⟨r, 1, none⟩ = some (.int .i64 nest) := by rw [cell_of_row _ _ _ _ _ _ h.row]; rfl
set_option maxHeartbeats 4000000 in
set_option maxRecDepth 100000 in
theorem rd_next (w : World) (r g o c : Nat) (t : TI) (l : List TI) (nest : Nat) (k : Int) (s : ByteArray) (h : Rd w r g o c (t :: l) nest) :
    Calls Tryd.prog 55 #[.pointer (some ⟨r, 0, none⟩), .int .i64 k, .string s] w fun e w' => e = .returned (.bool (t.k == k && t.s.toList == s.toList)) ∧ w = w' := by
  obtain ⟨a0, a1, a2, a3⟩ := h.tk 0 t rfl
  have c0 := h.c0
  have hl := h.lc
  have hm := h.cm
  rw [List.length_cons] at c0 hl
  unfold maxLen at hm
  clear h
  simp only [Nat.mul_zero, Nat.add_zero] at a0 a1 a2 a3
  obtain ⟨tk, ts, tn, tp⟩ := t
  simp only [] at a0 a1 a2 a3 ⊢
  by_cases hk : tk = k
  · obtain rfl : k = tk := hk.symm
    have d1 : decide (k = k) = true := decide_eq_true rfl
    have d2 : (k == k) = true := by simp
    go_enter Tryd.func55, Tryd.ntmps55
    go_wp2_with fail
    refine bodyPost_ret (results_tmp rfl _ _ _) rfl ?_
    simp
  · have d1 : decide (tk = k) = false := decide_eq_false (by omega)
    have d2 : (tk == k) = false := by simp; omega
    go_enter Tryd.func55, Tryd.ntmps55
    go_wp2_with fail
    refine bodyPost_ret (results_tmp rfl _ _ _) rfl ?_
    simp [hk]
theorem Rd.cut {w : World} {r g o c : Nat} {t : TI} {l : List TI} {nest : Nat} (h : Rd w r g o c (t :: l) nest) :
    Rd (w.setCell ⟨r, 0, none⟩ (.slice (some ⟨g, o + 4, none⟩) l.length (c - 1))) r g (o + 4) (c - 1) l nest := by
  have hf : Fr [r] w (w.setCell ⟨r, 0, none⟩ (.slice (some ⟨g, o + 4, none⟩) l.length (c - 1))) := (Fr.refl [r] w).setCell (p := ⟨r, 0, none⟩) (.inl (by simp)) _
  have hl := h.lc
  rw [List.length_cons] at hl
  refine ⟨?_, (h.tk.tail).fr hf h.gl (by simp; exact h.ne), Nat.lt_of_lt_of_le h.gl hf.size, h.ne, by omega, by have := h.cm; omega, by have := h.few; rw [List.length_cons] at this; omega⟩
  exact (heap_setCell_same _ _ _ _ _ _ h.row).trans rfl
set_option maxHeartbeats 4000000 in
set_option maxRecDepth 100000 in
theorem rd_fail (w : World) (r g o c : Nat) (t : TI) (l : List TI) (nest : Nat) (e : Int) (h : Rd w r g o c (t :: l) nest) :
    Calls Tryd.prog 56 #[.pointer (some ⟨r, 0, none⟩), .int .i64 e] w fun x w' => Stops [] w t.p e x w' := by
  obtain ⟨a0, a1, a2, a3⟩ := h.tk 0 t rfl
  have c0 := h.c0
  have hl := h.lc
  have hm := h.cm
  rw [List.length_cons] at c0 hl
  unfold maxLen at hm
  clear h
  simp only [Nat.mul_zero, Nat.add_zero] at a0 a1 a2 a3
  obtain ⟨tk, ts, tn, tp⟩ := t
  simp only [] at a0 a1 a2 a3 ⊢
  go_enter Tryd.func56, Tryd.ntmps56
  go_wp2_with fail
  exact ⟨rfl, w.heap.size, Nat.le_refl _, rfl, heap_alloc_last _ _, (Fr.refl _ _).alloc _⟩
set_option maxHeartbeats 4000000 in
set_option maxRecDepth 100000 in
theorem rd_took (w : World) (r g o c : Nat) (t : TI) (l : List TI) (nest : Nat) (k : Int) (s : ByteArray) (h : Rd w r g o c (t :: l) nest) (hl : (t.k == k && t.s.toList == s.toList) = true → 0 < l.length) :
    Calls Tryd.prog 78 #[.pointer (some ⟨r, 0, none⟩), .int .i64 k, .string s] w fun e w' => e = .returned (.bool (t.k == k && t.s.toList == s.toList)) ∧ Fr [r] w w' ∧ if (t.k == k && t.s.toList == s.toList) = true then Rd w' r g (o + 4) (c - 1) l nest else w = w' := by
  have hR := Lib.hid h
  have c0 := h.c0
  have hlc := h.lc
  have hm := h.cm
  have f0 := frozen_of_row _ _ 0 _ _ h.row
  rw [List.length_cons] at c0 hlc
  unfold maxLen at hm
  clear h
  have HN := Lib.hid (rd_next w r g o c t l nest k s hR.out)
  obtain ⟨q, hq⟩ : ∃ q, (t.k == k && t.s.toList == s.toList) = q := ⟨_, rfl⟩
  rw [hq] at HN hl ⊢
  clear hq
  cases q
  · clear hl
    go_enter Tryd.func78, Tryd.ntmps78
    go_wp2_with fail
    refine HN.out.mono ?_
    rintro e w1 ⟨rfl, rfl⟩
    show _
    go_wp2_with fail
    refine bodyPost_ret (results_tmp rfl _ _ _) rfl ?_
    simp; exact Fr.refl _ _
  · have hl := hl rfl
    go_enter Tryd.func78, Tryd.ntmps78
    go_wp2_with fail
    refine HN.out.mono ?_
    rintro e w1 ⟨rfl, rfl⟩
    show _
    go_wp2_with fail
    refine bodyPost_ret (results_tmp rfl _ _ _) rfl ?_
    simp
    exact ⟨(Fr.refl [r] w).setCell (p := ⟨r, 0, none⟩) (.inl (by simp)) _, hR.out.cut⟩
set_option maxHeartbeats 4000000 in
set_option maxRecDepth 100000 in
theorem rd_must (w : World) (r g o c : Nat) (t : TI) (l : List TI) (nest : Nat) (s : ByteArray) (h : Rd w r g o c (t :: l) nest) (hl : (t.k == 4 && t.s.toList == s.toList) = true → 0 < l.length) :
    Calls Tryd.prog 83 #[.pointer (some ⟨r, 0, none⟩), .string s] w fun e w' => if (t.k == 4 && t.s.toList == s.toList) = true then e = .returned (.tuple #[]) ∧ Fr [r] w w' ∧ Rd w' r g (o + 4) (c - 1) l nest else Stops [r] w t.p 120 e w' := by
  have hR := Lib.hid h
  clear h
  have HK := Lib.hid (rd_took w r g o c t l nest 4 s hR.out hl)
  have HF := Lib.hid (fun w' (hw : Rd w' r g o c (t :: l) nest) => rd_fail w' r g o c t l nest 120 hw)
  obtain ⟨q, hq⟩ : ∃ q, (t.k == 4 && t.s.toList == s.toList) = q := ⟨_, rfl⟩
  rw [hq] at HK ⊢
  clear hq hl
  cases q
  · go_enter Tryd.func83, Tryd.ntmps83
    go_wp2_with fail
    refine HK.out.mono ?_
    rintro e w1 ⟨rfl, hf, hw⟩
    simp at hw
    subst hw
    show _
    go_wp2_with fail
    refine (HF.out w hR.out).mono ?_
    intro e w1 hs
    obtain ⟨b, hb, rfl, hr, hf2⟩ := hs
    show _
    first | exact ⟨rfl, by simp; exact ⟨b, hb, rfl, hr, (Fr.refl [r] w).trans0 hf2⟩⟩ | (simp; exact ⟨b, hb, rfl, hr, (Fr.refl [r] w).trans0 hf2⟩)
  · go_enter Tryd.func83, Tryd.ntmps83
    go_wp2_with fail
    refine HK.out.mono ?_
    rintro e w1 ⟨rfl, hf, hw⟩
    simp at hw
    have HW := Lib.hid hw
    have HF1 := Lib.hid hf
    clear hw hf
    show _
    go_wp2_with fail
    go_end0
    simp
    exact ⟨HF1.out, HW.out⟩
/-- a token as one value. -/
def TI.v (t : TI) : Value := .agg #[.int .i64 t.k, .string t.s, .int .i64 t.n, .int .i64 t.p]
set_option maxHeartbeats 4000000 in
set_option maxRecDepth 100000 in
theorem rd_take (w : World) (r g o c : Nat) (t : TI) (l : List TI) (nest : Nat) (k : Int) (h : Rd w r g o c (t :: l) nest) (hl : t.k = k → 0 < l.length) (hr : r < w.heap.size) :
    Calls Tryd.prog 81 #[.pointer (some ⟨r, 0, none⟩), .int .i64 k] w fun e w' => if t.k = k then e = .returned t.v ∧ Fr [r] w w' ∧ Rd w' r g (o + 4) (c - 1) l nest else Stops [r] w t.p 120 e w' := by
  have zT := (zero_of_info (P := Tryd.prog) (t := 25) (v := .agg #[.int .i64 0, .string ⟨#[]⟩, .int .i64 0, .int .i64 0]) (n := 4) (by kernel_rfl)).1
  have hR := Lib.hid h
  obtain ⟨a0, a1, a2, a3⟩ := h.tk 0 t rfl
  have c0 := h.c0
  have hlc := h.lc
  have hm := h.cm
  have f0 := frozen_of_row _ _ 0 _ _ h.row
  have hg := h.gl
  have hne := h.ne
  rw [List.length_cons] at c0 hlc
  unfold maxLen at hm
  simp only [Nat.mul_zero, Nat.add_zero] at a0 a1 a2 a3
  clear h
  have HF := Lib.hid (fun w' (hw : Rd w' r g o c (t :: l) nest) => rd_fail w' r g o c t l nest 120 hw)
  obtain ⟨tk, ts, tn, tp⟩ := t
  simp only [TI.v] at a0 a1 a2 a3 ⊢
  by_cases hk : tk = k
  · obtain rfl : k = tk := hk.symm
    have hl := hl rfl
    simp only [if_true]
    have hsz : (w.setCell ⟨r, 0, none⟩ (.slice (some ⟨g, o + 4, none⟩) l.length (c - 1))).heap.size = w.heap.size := by simp [World.setCell]
    have h2 := heap_alloc2_old (w.setCell ⟨r, 0, none⟩ (.slice (some ⟨g, o + 4, none⟩) l.length (c - 1))) (.cells #[.int .i64 k, .string ts, .int .i64 tn, .int .i64 tp] 25) (.cells #[.int .i64 k, .string ts, .int .i64 tn, .int .i64 tp] 25)
    rw [hsz] at h2
    have H2 := Lib.hid h2
    clear h2 hsz
    go_enter Tryd.func81, Tryd.ntmps81
    go_wp2_with fail
    refine bodyPost_ret (v := .agg #[.int .i64 k, .string ts, .int .i64 tn, .int .i64 tp]) (results_cell_row rfl _ _ w.heap.size 25 _ (0, 0) _ rfl H2.out Tryd.underlying25 rfl ?_) rfl ⟨rfl, ?_, ?_⟩
    · have : (Tryd.prog.info? 25).map (·.size) = some 4 := by kernel_rfl
      rw [this]; rfl
    · exact (((Fr.refl [r] w).setCell (p := ⟨r, 0, none⟩) (.inl (by simp)) _).alloc _).alloc _
    · exact hR.out.cut.fr (((Fr.refl [] _).alloc _).alloc _) (by simp) (by simp)
  · simp only [if_neg hk]
    have d1 : (tk != k) = true := by simpa using hk
    clear hl
    go_enter Tryd.func81, Tryd.ntmps81
    go_wp2_with fail
    refine (HF.out _ (hR.out.fr (((Fr.refl [] w).alloc _).alloc _) (by simp) (by simp))).mono ?_
    intro e w1 hs
    obtain ⟨b, hb, rfl, hr, hf2⟩ := hs.from (((Fr.refl [r] w).alloc _).alloc _) (fun y hy => by cases hy)
    show _
    exact ⟨rfl, b, hb, rfl, hr, hf2⟩
set_option maxHeartbeats 4000000 in
set_option maxRecDepth 100000 in
theorem rd_deeper (w : World) (r g o c : Nat) (t : TI) (l : List TI) (nest : Nat) (h : Rd w r g o c (t :: l) nest) (hn : nest ≤ 12) :
    Calls Tryd.prog 109 #[.pointer (some ⟨r, 0, none⟩)] w fun e w' => if nest < 12 then e = .returned (.tuple #[]) ∧ Fr [r] w w' ∧ Rd w' r g o c (t :: l) (nest + 1) else Stops [r] w t.p 121 e w' := by
  have hR := Lib.hid h
  have c1 := h.c1
  have f1 := frozen_of_row _ _ 1 _ _ h.row
  have hS : Rd (w.setCell ⟨r, 1, none⟩ (.int .i64 ((nest : Int) + 1))) r g o c (t :: l) (nest + 1) := by
    have hf : Fr [r] w (w.setCell ⟨r, 1, none⟩ (.int .i64 ((nest : Int) + 1))) := (Fr.refl [r] w).setCell (p := ⟨r, 1, none⟩) (.inl (by simp)) _
    exact ⟨(heap_setCell_same _ _ _ _ _ _ h.row).trans rfl, h.tk.fr hf h.gl (by simp; exact h.ne), Nat.lt_of_lt_of_le h.gl hf.size, h.ne, h.lc, h.cm, h.few⟩
  have HS := Lib.hid hS
  have HFS : Hid (Fr [r] w (w.setCell ⟨r, 1, none⟩ (.int .i64 ((nest : Int) + 1)))) := (Fr.refl [r] w).setCell (p := ⟨r, 1, none⟩) (.inl (by simp)) _
  have HF := Lib.hid (fun w' (hw : Rd w' r g o c (t :: l) (nest + 1)) => rd_fail w' r g o c t l (nest + 1) 121 hw)
  clear h hS
  by_cases hk : nest < 12
  · simp only [if_pos hk]
    have d1 : ¬ (12 : Int) < (nest : Int) + 1 := by omega
    go_enter Tryd.func109, Tryd.ntmps109
    go_wp2_with fail
    go_end0
    exact ⟨rfl, HFS.out, HS.out⟩
  · simp only [if_neg hk]
    have d1 : (12 : Int) < (nest : Int) + 1 := by omega
    go_enter Tryd.func109, Tryd.ntmps109
    go_wp2_with fail
    refine (HF.out _ HS.out).mono ?_
    intro e w1 hs
    obtain ⟨b, hb, rfl, hr, hf2⟩ := hs.from HFS.out (fun y hy => by cases hy)
    show _
    exact ⟨rfl, b, hb, rfl, hr, hf2⟩
end Go.Proofs.YtgklmpooonnmiaaDoor
