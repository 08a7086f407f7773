/-
  Lemmas and contracts that the proofs over this seat use (LexQuote, DecLead); no statement of the seat is claimed in this text, and nothing is assumed in it.
-/
import Derived.Test.YtgklmpooonnmiaaDoorJ3
set_option linter.unusedVariables false
set_option linter.unusedSimpArgs false
namespace Go.Proofs.YtgklmpooonnmiaaDoor
open Go.RowKit
def bn (s : ByteArray) (i : Nat) : Nat := (nats s).getD i 0
theorem bn_lt (s : ByteArray) (i : Nat) : bn s i < 256 := by
 unfold bn
 by_cases h : i < (nats s).length
 ·rw [List.getD_eq_getElem?_getD, List.getElem?_eq_getElem h]; exact nats_lt s _ (List.getElem_mem _)
 ·rw [List.getD_eq_getElem?_getD, List.getElem?_eq_none (by omega)]; exact (by decide : 0 < 256)
theorem bn_at (s : ByteArray) (i : Nat) : ∀ h : i < s.size, (s[i]'h).toNat = bn s i := fun h => by
 have h1 := bn_lt s i
 unfold bn at h1 ⊢
 rw [show s[i]'h = UInt8.ofNat ((nats s).getD i 0) from nats_at s i h, UInt8.toNat_ofNat', Nat.mod_eq_of_lt h1]
theorem bn_cons (s : ByteArray) (k : Nat) (h : k < s.size) : (nats s).take (k + 1) = (nats s).take k ++ [bn s k] := by
 have h2 : k < (nats s).length := by rw [nats_length]; exact h
 rw [List.take_succ_eq_append_getElem h2]
 unfold bn
 rw [List.getD_eq_getElem?_getD, List.getElem?_eq_getElem h2]; rfl
theorem bn_data (s : ByteArray) (i : Nat) : (s.data.toList.getD i 0).toNat = bn s i := by
 simp only [bn, nats, List.getD_eq_getElem?_getD, List.getElem?_map]
 cases s.data.toList[i]? <;> rfl
theorem rb_bytes (w : World) (s : ByteArray) (h : s.size ≤ maxLen) : RB (Lib.bytesWorld w 5 s) (some ⟨w.heap.size, 0, none⟩) s.size (bn s) :=
 ⟨fun _ => ⟨w.heap.size, 0, rfl, fun i hi => by rw [Nat.zero_add, Lib.bytesWorld_cell w 5 s i hi, ← bn_data s i]⟩, bn_lt s, h⟩
namespace Lex
def esc (l : List Nat) : List Nat := l.flatMap fun c => if c = 34 ∨ c = 92 then [92, c] else [c]
theorem esc_snoc (l : List Nat) (c : Nat) : esc (l ++ [c]) = esc l ++ if c = 34 ∨ c = 92 then [92, c] else [c] := by simp [esc]
theorem esc_length (l : List Nat) : (esc l).length ≤ 2 * l.length := by
 induction l with
 | nil => simp [esc]
 | cons c l ih =>
  have e : esc (c :: l) = (if c = 34 ∨ c = 92 then [92, c] else [c]) ++ esc l := by simp [esc]
  rw [e, List.length_append]
  simp only [List.length_cons]
  split <;> simp <;> omega
def quote (s : ByteArray) : Option (List Nat) :=
 if Utf.bad (bn s) s.size 0 = none ∧ (nats s).all (fun c => 32 ≤ c) = true then some (34 :: (esc (nats s) ++ [34])) else none
end Lex
set_option maxHeartbeats 4000000 in
set_option maxRecDepth 100000 in
theorem lex_quote (w : World) (s : ByteArray) (hs : s.size ≤ 100000000) (hL : Least w) :
  Calls Tryd.prog 12 #[.string s] w fun e w' => e = .returned (.tuple #[.string (ba ((Lex.quote s).getD [])), .bool (Lex.quote s).isSome]) ∧ Fr [] w w' := by
 have hs2 : s.size ≤ maxLen := by unfold maxLen; omega
 have cv := conv w s
 have HCH := Lib.hid (utf_check (Lib.bytesWorld w 5 s) _ s.size (grownCap w s.size 0 5) _ (rb_bytes w s hs2) (grownCap_ge _ _ _) (grownCap_le _ _ _ hs2) (hL.fr (fr_bytes w _ s) (by simp)))
 have HFB := Lib.hid (fr_bytes w 5 s)
 obtain ⟨b, hb⟩ : ∃ b, Hid (Utf.bad (bn s) s.size 0 = b) := ⟨_, rfl⟩
 clear hs2
 go_enter Tryd.func12, Tryd.ntmps12
 go_wp2_with fail
 refine HCH.out.mono ?_
 rintro e w1 ⟨v, rfl, hv, hF⟩
 rw [hb.out] at hv
 have HF1 := Lib.hid (HFB.out.trans0 hF)
 clear hF HCH HFB cv
 cases b with
 | some p =>
  obtain ⟨_, _, rfl, _⟩ := hv
  have HQ : Hid (Lex.quote s = none) := by show _ = _; unfold Lex.quote; rw [hb.out]; simp
  clear hb
  go_wp2_with fail
  go_ret2
  rw [HQ.out]
  exact ⟨rfl, HF1.out⟩
 | none =>
  obtain rfl : v = .nilIface := hv
  go_wp2_with fail
  have hle := HF1.out.size
  have hown0 : (w1.alloc (.cells #[.int .u8 34] 5)).ownsRow w.heap.size 5 1 (.slice (some ⟨w1.heap.size, 0, none⟩) 1 1) (1 + (Lex.esc ((nats s).take 0)).length) (u8s (34 :: Lex.esc ((nats s).take 0))) :=
   ⟨rfl, Or.inr ⟨_, 1, _, rfl, hle, heap_alloc_last _ _, by simp [Lex.esc], by decide, rfl, rfl⟩⟩
  refine wp_fresh (fun W => W.ownsRow w.heap.size 5 1 (.slice (some ⟨w1.heap.size, 0, none⟩) 1 1) (1 + (Lex.esc ((nats s).take 0)).length) (u8s (34 :: Lex.esc ((nats s).take 0))) ∧ Fr [] w W) ⟨hown0, HF1.out.alloc _⟩ ?_
  rintro W0 ⟨ho0, hF0⟩
  have HO0 := Lib.hid ho0
  have HF0 := Lib.hid hF0
  clear hown0 ho0 hF0 HF1 hle hL
  go_loopw [4, 14] (fun v t W => ∃ k : Nat, k ≤ s.size ∧ t = .int .i64 k ∧ W.ownsRow w.heap.size 5 1 v (1 + (Lex.esc ((nats s).take k)).length) (u8s (34 :: Lex.esc ((nats s).take k))) ∧ Fr [] w W ∧ ((nats s).take k).all (fun c => 32 ≤ c) = true) (fun _ t _ => s.size - (intOf t).toNat)
  case atStart => exact ⟨0, by omega, rfl, HO0.out, HF0.out, rfl⟩
  case round =>
   clear HO0 HF0
   obtain ⟨k, hk, rfl, ho, hF, hall⟩ := hrel
   have HO := Lib.hid ho
   have HF := Lib.hid hF
   have HA := Lib.hid hall
   clear ho hF hall
   have HEL := Lib.hid (Lex.esc_length ((nats s).take k))
   have HTL : Hid (((nats s).take k).length ≤ 100000000) := by show _ ≤ _; rw [List.length_take, nats_length]; omega
   by_cases hlt : k < s.size
   ·have hlt' : (k : Int) < (s.size : Int) := by omega
    have hbv := Lib.hid (bn_at s k)
    have hbl := bn_lt s k
    have HC := Lib.hid (bn_cons s k hlt)
    obtain ⟨c, hc⟩ : ∃ c, Hid (bn s k = c) := ⟨_, rfl⟩
    rw [hc.out] at hbv hbl HC
    have hz : (s[k]'hlt).toNat = c := hbv.out hlt
    clear hbv
    by_cases h32 : c < 32
    ·have h32' : (c : Int) < 32 := by omega
     have HQ : Hid (Lex.quote s = none) := by
      show _ = _
      unfold Lex.quote
      rw [if_neg]
      rintro ⟨_, h⟩
      have h2 := List.all_eq_true.1 h c (by
       have hm : c ∈ (nats s).take (k + 1) := by rw [HC.out]; simp
       exact List.mem_of_mem_take hm)
      simp at h2; omega
     clear hc hb
     go_wp2_with fail
     go_ret2
     rw [HQ.out]
     exact ⟨rfl, HF.out⟩
    ·have h32' : ¬ (c : Int) < 32 := by omega
     have HA2 : Hid (((nats s).take (k + 1)).all (fun c => 32 ≤ c) = true) := by show _ = _; rw [HC.out, List.all_append, HA.out]; simp; omega
     by_cases hq : c = 34 ∨ c = 92
     ·have HE : Hid (Lex.esc ((nats s).take (k + 1)) = Lex.esc ((nats s).take k) ++ [92, c]) := by show _ = _; rw [HC.out, Lex.esc_snoc, if_pos hq]
      have hlen : 1 + (Lex.esc ((nats s).take k)).length < 300000000 := by have := HEL.out; have := HTL.out; omega
      have ce1 : ((c : Int) == 34) = true ∨ ((c : Int) == 34) = false ∧ ((c : Int) == 92) = true := by
       by_cases e : c = 34
       ·exact Or.inl (by rw [e]; rfl)
       ·refine Or.inr ⟨by simp; omega, by simp; omega⟩
      have HLEN := Lib.hid hlen
      clear hlen
      rcases ce1 with ce1 | ⟨ce1, ce2⟩
      all_goals
       go_wp2_with (at_builtin; refine app8 rfl (.tmp 28) (.tmp 29) rfl w _ _ _ 92 rfl rfl HO.out HF.out (by have := HLEN.out; omega) ?_)
       intro v1 w2 ho1 hf1
       have HO1 := Lib.hid ho1
       have HF1 := Lib.hid hf1
       clear ho1 hf1
       go_wp2_with (at_builtin; refine app8 rfl (.tmp 31) (.tmp 33) rfl w _ _ _ c rfl rfl HO1.out HF1.out (by have := HLEN.out; omega) ?_)
       intro v2 w3 ho2 hf2
       rw [← HE.out, show 1 + (Lex.esc ((nats s).take k)).length + 1 + 1 = 1 + (Lex.esc ((nats s).take (k + 1))).length by rw [HE.out]; simp; omega] at ho2
       have HO2 := Lib.hid ho2
       have HF2 := Lib.hid hf2
       clear ho2 hf2
       go_wp2_with fail
       go_roundw
       case rel => first | exact ⟨k + 1, by omega, by go_num, HO2.out, HF2.out, HA2.out⟩ | ((repeat apply Exists.intro); exact ⟨⟨k + 1, by omega, by go_num, HO2.out, HF2.out, HA2.out⟩, rfl⟩)
       case measure => simp [intOf]; omega
     ·have HE : Hid (Lex.esc ((nats s).take (k + 1)) = Lex.esc ((nats s).take k) ++ [c]) := by show _ = _; rw [HC.out, Lex.esc_snoc, if_neg hq]
      have hlen : 1 + (Lex.esc ((nats s).take k)).length < 300000000 := by have := HEL.out; have := HTL.out; omega
      have ce1 : ((c : Int) == 34) = false := by simp; omega
      have ce2 : ((c : Int) == 92) = false := by simp; omega
      have HLEN := Lib.hid hlen
      clear hlen hq
      go_wp2_with (at_builtin; refine app8 rfl (.tmp 31) (.tmp 33) rfl w _ _ _ c rfl rfl HO.out HF.out (by have := HLEN.out; omega) ?_)
      intro v2 w3 ho2 hf2
      rw [← HE.out, show 1 + (Lex.esc ((nats s).take k)).length + 1 = 1 + (Lex.esc ((nats s).take (k + 1))).length by rw [HE.out]; simp; omega] at ho2
      have HO2 := Lib.hid ho2
      have HF2 := Lib.hid hf2
      clear ho2 hf2
      go_wp2_with fail
      go_roundw
      case rel => first | exact ⟨k + 1, by omega, by go_num, HO2.out, HF2.out, HA2.out⟩ | ((repeat apply Exists.intro); exact ⟨⟨k + 1, by omega, by go_num, HO2.out, HF2.out, HA2.out⟩, rfl⟩)
      case measure => simp [intOf]; omega
   ·obtain rfl : k = s.size := by omega
    have ht : (nats s).take s.size = nats s := List.take_of_length_le (by rw [nats_length]; exact Nat.le_refl _)
    rw [ht] at HO HA HEL HTL
    have HQ : Hid (Lex.quote s = some (34 :: (Lex.esc (nats s) ++ [34]))) := by
     show _ = _
     unfold Lex.quote
     rw [if_pos ⟨hb.out, HA.out⟩]
    clear ht hb
    go_wp2_with (at_builtin; refine app8 rfl (.tmp 36) (.tmp 37) rfl w _ _ _ 34 rfl rfl HO.out HF.out (by have := HEL.out; have := HTL.out; omega) ?_)
    intro v2 w3 ho2 hf2
    have cv2 := owns_str ho2
    have HF2 := Lib.hid hf2
    clear ho2 hf2
    go_wp2_with fail
    go_ret2
    rw [HQ.out]
    exact ⟨rfl, HF2.out⟩
end Go.Proofs.YtgklmpooonnmiaaDoor

namespace Go.Proofs.YtgklmpooonnmiaaDoor
open Go.RowKit
namespace Dec
def dig (c : Nat) : Bool := decide (48 ≤ c) && decide (c ≤ 57)
def digits (f : Nat → Nat) (n at_ : Nat) : Nat :=
 if at_ < n then (if dig (f at_) = true then digits f n (at_ + 1) else at_) else at_
termination_by n - at_
decreasing_by omega
theorem digits_yes {f : Nat → Nat} {n k : Nat} (h : k < n) (hd : dig (f k) = true) : digits f n k = digits f n (k + 1) := by
 conv => lhs; rw [digits]
 rw [if_pos h, if_pos hd]
theorem digits_no {f : Nat → Nat} {n k : Nat} (hd : ¬ dig (f k) = true) : digits f n k = k := by
 rw [digits, if_neg hd, ite_self]
theorem digits_end {f : Nat → Nat} {n k : Nat} (h : ¬ k < n) : digits f n k = k := by rw [digits, if_neg h]
theorem digits_ge (f : Nat → Nat) (n at_ : Nat) : at_ ≤ digits f n at_ := by
 fun_induction digits f n at_ <;> omega
theorem digits_le (f : Nat → Nat) (n at_ : Nat) (h : at_ ≤ n) : digits f n at_ ≤ n := by
 fun_induction digits f n at_ <;> omega
def sgn (f : Nat → Nat) (n : Nat) : Nat := if 0 < n ∧ f 0 = 45 then 1 else 0
def lead (f : Nat → Nat) (n : Nat) : Nat :=
 if n ≤ sgn f n then 0 else if dig (f (sgn f n)) = false then 0 else if f (sgn f n) = 48 then 1 - sgn f n else digits f n (sgn f n)
theorem lead_le (f : Nat → Nat) (n : Nat) : lead f n ≤ n := by
 unfold lead
 split
 ·omega
 ·split
  ·omega
  ·split
   ·have : sgn f n ≤ 1 := by unfold sgn; split <;> omega
    omega
   ·exact digits_le _ _ _ (by omega)
end Dec
theorem dec_digit (c : Nat) (w : World) :
  Calls Tryd.prog 89 #[.int .u8 c] w fun e w' => e = .returned (.bool (Dec.dig c)) ∧ w = w' := by
 by_cases h1 : 48 ≤ c
 ·have h1' : (c : Int) ≥ 48 := by omega
  have e : Dec.dig c = decide ((c : Int) ≤ 57) := by
   simp only [Dec.dig, h1, decide_true, Bool.true_and]
   exact decide_eq_decide.2 (by omega)
  rw [e]
  clear e h1
  go_enter Tryd.func89, Tryd.ntmps89
  go_wp2
  go_ret
  refine ⟨?_, rfl⟩
  first | rfl | simp
 ·have h1' : ¬ (c : Int) ≥ 48 := by omega
  have e : Dec.dig c = false := by simp [Dec.dig, h1]
  rw [e]
  clear e h1
  go_enter Tryd.func89, Tryd.ntmps89
  go_wp2
  go_ret
  exact ⟨rfl, rfl⟩
set_option maxHeartbeats 4000000 in
theorem dec_lead (w : World) (s : ByteArray) (hs : s.size ≤ maxLen) :
  Calls Tryd.prog 66 #[.string s] w fun e w' => e = .returned (.int .i64 (Dec.lead (bn s) s.size : Nat)) ∧ w = w' := by
 unfold maxLen at hs
 obtain ⟨f, hf⟩ : ∃ f, Hid (f = bn s) := ⟨_, rfl⟩
 rw [← hf.out]
 have hbv : Hid (∀ i, ∀ h : i < s.size, (s[i]'h).toNat = f i) := by rw [hf.out]; exact fun i h => bn_at s i h
 have hlt : ∀ i, f i < 256 := by rw [hf.out]; exact bn_lt s
 by_cases h0 : s.size = 0
 ·have e1 : s.toList = [] := by rw [ByteArray.toList_eq]; exact List.eq_nil_of_length_eq_zero (by simpa using h0)
  have e2 : (!s.toList.isEmpty) = false := by rw [e1]; rfl
  have e3 : Dec.lead f s.size = 0 := by unfold Dec.lead; rw [if_pos (by omega)]
  rw [e3]
  have h0' : (s.size : Int) = 0 := by omega
  clear e3 hlt
  go_enter Tryd.func66, Tryd.ntmps66
  go_wp2
  go_ret
  exact ⟨rfl, rfl⟩
 have hne : ¬ s.toList = [] := fun h => by
  rw [ByteArray.toList_eq] at h
  have h2 := congrArg List.length h
  have h3 : s.data.toList.length = s.size := by simp
  rw [List.length_nil] at h2
  omega
 have e2 : (!s.toList.isEmpty) = true := by cases hq : s.toList with | nil => exact absurd hq hne | cons => rfl
 have hz0 : (s[0]'(by omega)).toNat = f 0 := hbv.out 0 (by omega)
 have h0' : 0 < s.size := by omega
 obtain ⟨c0, hc0⟩ : ∃ c0, f 0 = c0 := ⟨_, rfl⟩
 have hl0 := hlt 0
 have HLT := Lib.hid hlt
 rw [hc0] at hz0 hl0
 clear hlt
 have hst : ∀ a : Nat, Dec.sgn f s.size = a → Hid (a = Dec.sgn f s.size) := fun a h => h.symm
 by_cases h45 : c0 = 45
 case' pos =>
  have HA := hst 1 (by unfold Dec.sgn; rw [if_pos ⟨h0', hc0.trans h45⟩])
  have q45 : ((c0 : Int) == 45) = true := by rw [h45]; rfl
  have hza := fun h => hbv.out 1 h
  have hcz : ∀ c, f 1 = c → True := fun _ _ => trivial
  have hsz : s.size ≤ Dec.sgn f s.size → ((1 : Int) == (s.size : Int)) = true := by rw [← HA.out]; intro h; simp; omega
  have hsz2 : ¬ s.size ≤ Dec.sgn f s.size → 1 < s.size := by rw [← HA.out]; omega
  have hsz3 : ¬ s.size ≤ Dec.sgn f s.size → ((1 : Int) == (s.size : Int)) = false := by rw [← HA.out]; intro h; simp; omega
 case' neg =>
  have HA := hst 0 (by unfold Dec.sgn; rw [if_neg (fun h => h45 (hc0 ▸ h.2))])
  have q45 : ((c0 : Int) == 45) = false := by simp; omega
  have hza := fun h => hbv.out 0 h
  have hcz : ∀ c, f 0 = c → c = c0 := fun _ h => h.symm.trans hc0
  have hsz : s.size ≤ Dec.sgn f s.size → ((0 : Int) == (s.size : Int)) = true := by rw [← HA.out]; intro h; simp; omega
  have hsz2 : ¬ s.size ≤ Dec.sgn f s.size → 0 < s.size := by rw [← HA.out]; omega
  have hsz3 : ¬ s.size ≤ Dec.sgn f s.size → ((0 : Int) == (s.size : Int)) = false := by rw [← HA.out]; intro h; simp; omega
 all_goals
  have HZA := Lib.hid hza
  clear hza hst h45
  by_cases ha : s.size ≤ Dec.sgn f s.size
  ·have hsz' := hsz ha
   have HE : Hid (Dec.lead f s.size = 0) := by show _ = _; unfold Dec.lead; rw [if_pos ha]
   clear hsz hsz2 hsz3 HA ha hc0
   go_enter Tryd.func66, Tryd.ntmps66
   go_wp2
   go_ret
   rw [HE.out]
   exact ⟨rfl, rfl⟩
  have hsz' := hsz2 ha
  have hsz3' := hsz3 ha
  have hz1 := HZA.out hsz'
  obtain ⟨c, hc⟩ : ∃ c, Hid (f (Dec.sgn f s.size) = c) := ⟨_, rfl⟩
  have hc' := hc.out
  rw [← HA.out] at hc'
  rw [hc'] at hz1
  have hcq := hcz c hc'
  try subst hcq
  clear hcz
  have HC' := Lib.hid hc'
  have HC0 := Lib.hid hc0
  clear hc' hc0 hsz hsz2 hsz3 HZA
  have hdc := fun w => dec_digit c w
  by_cases hd : Dec.dig c = false
  ·have HE : Hid (Dec.lead f s.size = 0) := by show _ = _; unfold Dec.lead; rw [if_neg ha, hc.out, if_pos hd]
   rw [hd] at hdc
   have HD := Lib.hid hdc
   clear hdc hd HA ha hc HC0 HC'
   go_enter Tryd.func66, Tryd.ntmps66
   go_wp2_with (go_at_call 89; with_reducible refine (HD.out _).mono ?_; rintro e w' ⟨rfl, rfl⟩)
   all_goals
    go_ret
    rw [HE.out]
    exact ⟨rfl, rfl⟩
  have hd' : Dec.dig c = true := by simpa using hd
  rw [hd'] at hdc
  have HD := Lib.hid hdc
  clear hdc
  by_cases h48 : c = 48
  ·have HE : Hid (Dec.lead f s.size = 1 - Dec.sgn f s.size) := by show _ = _; unfold Dec.lead; rw [if_neg ha, hc.out, if_neg hd, if_pos h48]
   rw [← HA.out] at HE
   have q48 : ((c : Int) == 48) = true := by rw [h48]; rfl
   clear hd hd' HA ha hc HC0 HC' h48
   go_enter Tryd.func66, Tryd.ntmps66
   go_wp2_with (go_at_call 89; with_reducible refine (HD.out _).mono ?_; rintro e w' ⟨rfl, rfl⟩)
   all_goals
    go_ret
    rw [HE.out]
    exact ⟨rfl, rfl⟩
  have q48 : ((c : Int) == 48) = false := by simp; omega
  have HE : Hid (Dec.lead f s.size = Dec.digits f s.size (Dec.sgn f s.size)) := by show _ = _; unfold Dec.lead; rw [if_neg ha, hc.out, if_neg hd, if_neg h48]
  have HG := Dec.digits_ge f s.size (Dec.sgn f s.size)
  rw [← HA.out] at HE HG
  have HGH := Lib.hid HG
  clear hd hd' HA ha hc HC0 HC' h48 HG
  go_enter Tryd.func66, Tryd.ntmps66
  go_wp2_with (go_at_call 89; with_reducible refine (HD.out _).mono ?_; rintro e w' ⟨rfl, rfl⟩)
  go_loop [3] (fun t => ∃ k : Nat, k ≤ s.size ∧ t = .int .i64 k ∧ Dec.digits f s.size k = Dec.lead f s.size) (fun t => s.size - (intOf t).toNat)
  case atStart => first | exact ⟨0, by omega, rfl, HE.out.symm⟩ | exact ⟨1, by omega, rfl, HE.out.symm⟩
  case round =>
   clear HE HGH
   obtain ⟨k, hk, rfl, hb⟩ := hrel
   have HB := Lib.hid hb
   clear hb hz0 hz1
   by_cases hlt : k < s.size
   ·have hlt' : (k : Int) < (s.size : Int) := by omega
    have hzk := hbv.out k hlt
    obtain ⟨x, hx⟩ : ∃ x, Hid (f k = x) := ⟨_, rfl⟩
    rw [hx.out] at hzk
    have hdx := fun w => dec_digit x w
    by_cases hd : Dec.dig x = true
    ·rw [hd] at hdx
     have HDX := Lib.hid hdx
     have HS : Hid (Dec.digits f s.size (k + 1) = Dec.lead f s.size) := by
      show _ = _
      rw [← HB.out, Dec.digits_yes hlt (by rw [hx.out]; exact hd)]
     clear hdx hd
     go_wp2_with (go_at_call 89; with_reducible refine (HDX.out _).mono ?_; rintro e w' ⟨rfl, rfl⟩)
     go_round
     case rel => exact ⟨k + 1, by omega, by go_num, HS.out⟩
     case measure => simp [intOf]; omega
    ·have hd' : Dec.dig x = false := by simpa using hd
     rw [hd'] at hdx
     have HDX := Lib.hid hdx
     have HS : Hid (Dec.lead f s.size = k) := by
      show _ = _
      rw [← HB.out, Dec.digits_no (by rw [hx.out]; exact hd)]
     clear hdx hd hd'
     go_wp2_with (go_at_call 89; with_reducible refine (HDX.out _).mono ?_; rintro e w' ⟨rfl, rfl⟩)
     go_ret
     rw [HS.out]
     exact ⟨rfl, rfl⟩
   ·obtain rfl : k = s.size := by omega
    have HS : Hid (Dec.lead f s.size = s.size) := by
     show _ = _
     rw [← HB.out, Dec.digits_end (by omega)]
    go_wp2
    go_ret
    rw [HS.out]
    exact ⟨rfl, rfl⟩
end Go.Proofs.YtgklmpooonnmiaaDoor
