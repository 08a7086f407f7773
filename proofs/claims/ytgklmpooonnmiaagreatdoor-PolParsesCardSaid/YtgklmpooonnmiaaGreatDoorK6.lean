/-
  Lemmas and contracts that the proofs over this seat use (LexSmall, LexWord, LexSpell, OwnAt); no statement of the seat is claimed in this text, and nothing is assumed in it.
-/
import Derived.Test.YtgklmpooonnmiaaGreatDoorK5
import Derived.Test.YtgklmpooonnmiaaGreatDoorK3
import Derived.Test.YtgklmpooonnmiaaGreatDoorK2
import Derived.Test.YtgklmpooonnmiaaGreatDoorK1
set_option linter.unusedVariables false
set_option linter.unusedSimpArgs false
namespace Go.Proofs.YtgklmpooonnmiaaGreatDoor
open Go.RowKit
namespace Lex
def small (c:Nat):Bool:=(decide (97 ≤ c) && decide (c ≤ 122)) || decide (c=95)
def smalls (f:Nat → Nat) (n k:Nat):Nat:=if k < n then (if small (f k)=true then smalls f n (k+1) else k) else k
termination_by n - k
decreasing_by omega
theorem smalls_yes {f:Nat → Nat} {n k:Nat} (h:k < n) (hd:small (f k)=true):smalls f n k=smalls f n (k+1):=by
 conv=>lhs;rw [smalls]
 rw [if_pos h,if_pos hd]
theorem smalls_no {f:Nat → Nat} {n k:Nat} (hd:¬ small (f k)=true):smalls f n k=k:=by rw [smalls,if_neg hd,ite_self]
theorem smalls_end {f:Nat → Nat} {n k:Nat} (h:¬ k < n):smalls f n k=k:=by rw [smalls,if_neg h]
theorem smalls_ge (f:Nat → Nat) (n k:Nat):k ≤ smalls f n k:=by
 fun_induction smalls f n k <;> omega
theorem smalls_le (f:Nat → Nat) (n k:Nat) (h:k ≤ n):smalls f n k ≤ n:=by
 fun_induction smalls f n k <;> omega
def isOne (c:Nat):Bool:=c == 40 || c == 41 || c == 91 || c == 93 || c == 44 || c == 59 || c == 61
def sign (f:Nat → Nat) (n:Nat):Nat :=
 if n=0 then 0
 else if f 0=33 then (if 1 < n ∧ f 1=61 then 2 else 0)
 else if f 0=60 ∨ f 0=62 then (if 1 < n ∧ f 1=61 then 2 else 1)
 else if isOne (f 0)=true then 1 else 0
theorem sign_le (f:Nat → Nat) (n:Nat):sign f n ≤ n:=by
 unfold sign
 split
 ·omega
 ·split
  ·split <;> omega
  ·split
   ·split <;> omega
   ·split <;> omega
end Lex
theorem ext_none (s:ByteArray) (k:Nat):s.extract k k=⟨#[]⟩:=by
 ext1
 simp
theorem lex_small (c:Nat) (w:World) :
  Calls Tryz.prog 73 #[.int .u8 c] w fun e w'=>e=.returned (.bool (Lex.small c)) ∧ w=w':=by
 by_cases h1:97 ≤ c
 ·have h1':(c:Int) ≥ 97:=by omega
  by_cases h2:c ≤ 122
  ·have h2':(c:Int) ≤ 122:=by omega
   have e:Lex.small c=true:=by simp [Lex.small,h1,h2]
   rw [e]
   clear e h1 h2
   go_enter Tryz.func73,Tryz.ntmps73
   go_wp2
   go_ret
   exact ⟨rfl,rfl⟩
  ·have h2':¬ (c:Int) ≤ 122:=by omega
   have e:Lex.small c=false:=by simp [Lex.small,h2];omega
   have q:((c:Int) == 95)=false:=beq_eq_false_iff_ne.2 (by omega)
   rw [e]
   clear e h1 h2
   go_enter Tryz.func73,Tryz.ntmps73
   go_wp2
   go_ret
   exact ⟨rfl,rfl⟩
 ·have h1':¬ (c:Int) ≥ 97:=by omega
  by_cases h2:c=95
  ·have e:Lex.small c=true:=by simp [Lex.small,h2]
   have q:((c:Int) == 95)=true:=beq_iff_eq.2 (by omega)
   rw [e]
   clear e h1 h2
   go_enter Tryz.func73,Tryz.ntmps73
   go_wp2
   go_ret
   exact ⟨rfl,rfl⟩
  ·have e:Lex.small c=false:=by simp [Lex.small,h1,h2]
   have q:((c:Int) == 95)=false:=beq_eq_false_iff_ne.2 (by omega)
   rw [e]
   clear e h1 h2
   go_enter Tryz.func73,Tryz.ntmps73
   go_wp2
   go_ret
   exact ⟨rfl,rfl⟩
theorem toList_ne {s:ByteArray} (h:0 < s.size):¬ s.toList=[] ∧ s.toList.isEmpty=false:=by
 have h1:¬ s.toList=[]:=fun h0=>by
  rw [ByteArray.toList_eq] at h0
  have h2:=congrArg List.length h0
  have h3:s.data.toList.length=s.size:=by simp
  rw [List.length_nil] at h2
  omega
 exact ⟨h1,by cases hq:s.toList with | nil=>exact absurd hq h1 | cons=>rfl⟩
theorem toList_nil {s:ByteArray} (h:s.size=0):s.toList=[]:=by
 rw [ByteArray.toList_eq];exact List.eq_nil_of_length_eq_zero (by simpa using h)
set_option maxHeartbeats 4000000 in
theorem lex_sign (w:World) (s:ByteArray) (hs:s.size ≤ maxLen) :
  Calls Tryz.prog 77 #[.string s] w fun e w'=>e=.returned (.string (s.extract 0 (Lex.sign (bn s) s.size))) ∧ w=w':=by
 unfold maxLen at hs
 by_cases h0:s.size=0
 ·have e1:=toList_nil h0
  have hE:Hid (s.extract 0 (Lex.sign (bn s) s.size)=⟨#[]⟩):=by
   show _=_;unfold Lex.sign;rw [if_pos h0,ext_none]
  rw [hE.out]
  go_enter Tryz.func77,Tryz.ntmps77
  go_wp2
  go_ret
  exact ⟨rfl,rfl⟩
 obtain ⟨hne,hie⟩:=toList_ne (by omega:0 < s.size)
 have hn0:0 < s.size:=by omega
 have hz0:=bn_at s 0 hn0
 have hz1:=Lib.hid (bn_at s 1)
 obtain ⟨c,hc⟩:∃ c,Hid (bn s 0=c):=⟨_,rfl⟩
 obtain ⟨d,hd⟩:∃ d,Hid (bn s 1=d):=⟨_,rfl⟩
 rw [hc.out] at hz0
 rw [hd.out] at hz1
 have HSG:Hid (Lex.sign (bn s) s.size=if c=33 then (if 1 < s.size ∧ d=61 then 2 else 0) else if c=60 ∨ c=62 then (if 1 < s.size ∧ d=61 then 2 else 1) else if Lex.isOne c=true then 1 else 0):=by
  show _=_;unfold Lex.sign;rw [if_neg h0,hc.out,hd.out]
 have hcases:c=33 ∨ (c=60 ∨ c=62) ∨ (c=40 ∨ c=41 ∨ c=91 ∨ c=93 ∨ c=44 ∨ c=59 ∨ c=61) ∨ (c ≠ 33 ∧ c ≠ 60 ∧ c ≠ 62 ∧ Lex.isOne c=false):=by
  simp [Lex.isOne];omega
 have hex0:=ext_none s 0
 have HTWO:(1 < s.size ∧ d=61 ∧ (s.size:Int) > 1) ∨ (1 < s.size ∧ d ≠ 61 ∧ (s.size:Int) > 1 ∧ ((d:Int) == 61)=false) ∨ (¬ 1 < s.size ∧ ¬ (s.size:Int) > 1):=by
  by_cases h1:1 < s.size
  ·by_cases h2:d=61
   ·exact Or.inl ⟨h1,h2,by omega⟩
   ·exact Or.inr (Or.inl ⟨h1,h2,by omega,beq_eq_false_iff_ne.2 (by omega)⟩)
  ·exact Or.inr (Or.inr ⟨h1,by omega⟩)
 have HEX0:=Lib.hid hex0
 clear hex0
 obtain ⟨K,hK⟩:∃ K,Hid (Lex.sign (bn s) s.size=K):=⟨_,rfl⟩
 rw [hK.out]
 rw [hK.out] at HSG
 have fin:∀ (j:Nat) (v:ByteArray),K=j → s.extract 0 j=v → Hid (s.extract 0 K=v):=fun j v h1 h2=>by rw [h1];exact h2
 rcases HTWO with ⟨h1,h2,h3⟩ | ⟨h1,h2,h3,h4⟩ | ⟨h1,h3⟩
 case' inl=>have hz1':=hz1.out h1
 case' inr.inl=>have hz1':=hz1.out h1
 all_goals
  rcases hcases with rfl | (rfl | rfl) | (rfl | rfl | rfl | rfl | rfl | rfl | rfl) | ⟨n1,n2,n3,n4⟩
 all_goals
  have hk:K=_:=HSG.out
  first
   | (simp only [n1, n2, n3, n4, if_false, false_or, Bool.false_eq_true] at hk
      have q1:((c:Int) == 33)=false:=beq_eq_false_iff_ne.2 (by omega)
      have q2:((c:Int) == 60)=false:=beq_eq_false_iff_ne.2 (by omega)
      have q3:((c:Int) == 62)=false:=beq_eq_false_iff_ne.2 (by omega)
      simp [Lex.isOne] at n4
      have q4:((c:Int) == 40)=false:=beq_eq_false_iff_ne.2 (by omega)
      have q5:((c:Int) == 41)=false:=beq_eq_false_iff_ne.2 (by omega)
      have q6:((c:Int) == 91)=false:=beq_eq_false_iff_ne.2 (by omega)
      have q7:((c:Int) == 93)=false:=beq_eq_false_iff_ne.2 (by omega)
      have q8:((c:Int) == 44)=false:=beq_eq_false_iff_ne.2 (by omega)
      have q9:((c:Int) == 59)=false:=beq_eq_false_iff_ne.2 (by omega)
      have q10:((c:Int) == 61)=false:=beq_eq_false_iff_ne.2 (by omega)
      clear n1 n2 n3 n4)
   | simp [h1,h2,Lex.isOne] at hk
   | simp [h1,Lex.isOne] at hk
  subst hk
  have h6:(1:Int) ≤ (s.size:Int):=by omega
  try (have h7:(2:Int) ≤ (s.size:Int):=by omega)
  clear fin hK HSG h0 hc hd hz1
  try rw [HEX0.out]
  go_enter Tryz.func77,Tryz.ntmps77
  go_wp2
  go_ret
  exact ⟨rfl,rfl⟩
end Go.Proofs.YtgklmpooonnmiaaGreatDoor

namespace Go.Proofs.YtgklmpooonnmiaaGreatDoor
open Go.RowKit
namespace Lex
def wordB (s:ByteArray):Bool:=decide (smalls (bn s) s.size 0=s.size ∧ 0 < s.size ∧ s.size ≤ 32)
theorem wordB_no {s:ByteArray} (h:smalls (bn s) s.size 0 ≠ s.size):wordB s=false:=decide_eq_false fun ⟨h1,_⟩=>h h1
end Lex
set_option maxHeartbeats 4000000 in
set_option maxRecDepth 100000 in
theorem lex_word (w:World) (s:ByteArray) (hs:s.size ≤ maxLen) :
  Calls Tryz.prog 91 #[.string s] w fun e w'=>e=.returned (.bool (Lex.wordB s)) ∧ w=w':=by
 unfold maxLen at hs
 go_enter Tryz.func91,Tryz.ntmps91
 go_wp2_with fail
 go_loopg [3,6] s.size (fun q _ t W=>∃ k:Nat,k ≤ s.size ∧ q=s.size - k ∧ t=.int .i64 k ∧ Hid (Lex.smalls (bn s) s.size k=Lex.smalls (bn s) s.size 0) ∧ W=w)
 case atStart=>exact ⟨0,by omega,by omega,rfl,rfl,rfl⟩
 case round =>
  obtain ⟨k,hk,hq,rfl,HL,rfl⟩:=hrel
  by_cases hlt:k < s.size
  ·have hlt':(k:Int) < (s.size:Int):=by omega
   have hz:=bn_at s k hlt
   have HSM:=Lib.hid (fun v=>lex_small (bn s k) v)
   by_cases hd:Lex.small (bn s k)=true
   ·simp only [hd] at HSM
    have HL2:Hid (Lex.smalls (bn s) s.size (k+1)=Lex.smalls (bn s) s.size 0):=by show _=_;rw [← HL.out,Lex.smalls_yes hlt hd]
    clear HL hd
    go_wp2_with fail
    refine (HSM.out _).mono ?_
    rintro e w1 ⟨rfl,rfl⟩
    go_wp2_with fail
    go_roundg (s.size - (k+1))
    case measure=>omega
    case rel=>exact ⟨k+1,by omega,rfl,by go_num,HL2.out,rfl⟩
   ·have hd':Lex.small (bn s k)=false:=by simpa using hd
    simp only [hd'] at HSM
    have HW:Hid (Lex.wordB s=false):=Lex.wordB_no (by rw [← HL.out,Lex.smalls_no hd];omega)
    clear HL hd hd'
    go_wp2_with fail
    refine (HSM.out _).mono ?_
    rintro e w1 ⟨rfl,rfl⟩
    go_wp2_with fail
    go_ret
    rw [HW.out]
    exact ⟨rfl,rfl⟩
  ·obtain rfl:k=s.size:=by omega
   have HE:Hid (Lex.smalls (bn s) s.size 0=s.size):=by show _=_;rw [← HL.out,Lex.smalls_end hlt]
   clear HL
   by_cases h0:s.size=0
   ·have e1:=toList_nil h0
    have HW:Hid (Lex.wordB s=false):=decide_eq_false (by omega)
    go_wp2_with fail
    go_ret
    rw [HW.out]
    exact ⟨rfl,rfl⟩
   ·obtain ⟨hne,hie⟩:=toList_ne (by omega:0 < s.size)
    by_cases h32:s.size ≤ 32
    ·have h32':(s.size:Int) ≤ 32:=by omega
     have HW:Hid (Lex.wordB s=true):=decide_eq_true ⟨HE.out,by omega,h32⟩
     go_wp2_with fail
     go_ret
     rw [HW.out]
     exact ⟨rfl,rfl⟩
    ·have h32':¬ (s.size:Int) ≤ 32:=by omega
     have HW:Hid (Lex.wordB s=false):=decide_eq_false (by omega)
     go_wp2_with fail
     go_ret
     rw [HW.out]
     exact ⟨rfl,rfl⟩
end Go.Proofs.YtgklmpooonnmiaaGreatDoor

namespace Go.Proofs.YtgklmpooonnmiaaGreatDoor
open Go.RowKit
namespace Lex
def spell (k:Int) (s:ByteArray) (n:Int):ByteArray :=
 if k=1 then (if wordB s=true then s else ⟨#[]⟩)
 else if k=2 then ba ((quote s).getD [])
 else if k=3 then (if -9007199254740991 ≤ n ∧ n ≤ 9007199254740991 then ba (Dec.print n) else ⟨#[]⟩)
 else if k=4 then (if 0 < s.size ∧ sign (bn s) s.size=s.size then s else ⟨#[]⟩)
 else ⟨#[]⟩
end Lex
set_option maxHeartbeats 4000000 in
set_option maxRecDepth 100000 in
theorem lex_spell (w:World) (k:Int) (s:ByteArray) (n p:Int) (hs:s.size ≤ 100000000) (hn:-9223372036854775808 ≤ n ∧ n ≤ 9223372036854775807) (hL:Least w) :
  Calls Tryz.prog 67 #[.agg #[.int .i64 k,.string s,.int .i64 n,.int .i64 p]] w fun e w'=>e=.returned (.string (Lex.spell k s n)) ∧ Fr [] w w':=by
 have hs2:s.size ≤ maxLen:=by unfold maxLen;omega
 have HL:=Lib.hid hL
 have HS:=Lib.hid hs
 have HS2:=Lib.hid hs2
 clear hL hs hs2
 by_cases k1:k=1
 ·subst k1
  have HSP:Hid (Lex.spell 1 s n=if Lex.wordB s=true then s else ⟨#[]⟩):=rfl
  have HWD:=Lib.hid (fun W=>lex_word W s HS2.out)
  obtain ⟨b,hb⟩:∃ b,Hid (Lex.wordB s=b):=⟨_,rfl⟩
  simp only [hb.out] at HWD
  rw [hb.out] at HSP
  clear hb
  go_enter Tryz.func67,Tryz.ntmps67
  go_wp2_with fail
  refine (HWD.out _).mono ?_
  rintro e w1 ⟨rfl,rfl⟩
  cases b
  all_goals
   go_wp2_with fail
   go_ret
   rw [HSP.out]
   exact ⟨rfl,(Fr.refl _ _).alloc _⟩
 have q1:(k == 1)=false:=beq_eq_false_iff_ne.2 k1
 by_cases k2:k=2
 ·subst k2
  have HSP:Hid (Lex.spell 2 s n=ba ((Lex.quote s).getD [])):=rfl
  have HQU:=Lib.hid (fun W h=>lex_quote W s HS.out h)
  clear k1 q1
  go_enter Tryz.func67,Tryz.ntmps67
  go_wp2_with fail
  refine (HQU.out _ (HL.out.fr (bs:=[]) ((Fr.refl _ _).alloc _) (by simp))).mono ?_
  rintro e w1 ⟨rfl,hF⟩
  have HF:=Lib.hid (((Fr.refl [] w).alloc _).trans0 hF)
  clear hF
  go_wp2_with fail
  go_ret
  rw [HSP.out]
  exact ⟨rfl,HF.out⟩
 have q2:(k == 2)=false:=beq_eq_false_iff_ne.2 k2
 by_cases k3:k=3
 ·subst k3
  have HPR:=Lib.hid (fun W=>dec_print W n hn)
  clear k1 k2 q1 q2 hn
  by_cases g1:-9007199254740991 ≤ n
  ·by_cases g2:n ≤ 9007199254740991
   ·have HSP:Hid (Lex.spell 3 s n=ba (Dec.print n)):=by show (if -9007199254740991 ≤ n ∧ n ≤ 9007199254740991 then ba (Dec.print n) else ⟨#[]⟩)=_;rw [if_pos ⟨g1,g2⟩]
    have g1':n ≥ -9007199254740991:=g1
    go_enter Tryz.func67,Tryz.ntmps67
    go_wp2_with fail
    refine (HPR.out _).mono ?_
    rintro e w1 ⟨rfl,hF⟩
    have HF:=Lib.hid (((Fr.refl [] w).alloc _).trans0 hF)
    clear hF
    go_wp2_with fail
    go_ret
    rw [HSP.out]
    exact ⟨rfl,HF.out⟩
   ·have HSP:Hid (Lex.spell 3 s n=⟨#[]⟩):=by show (if -9007199254740991 ≤ n ∧ n ≤ 9007199254740991 then ba (Dec.print n) else ⟨#[]⟩)=_;rw [if_neg (by omega)]
    have g1':n ≥ -9007199254740991:=g1
    go_enter Tryz.func67,Tryz.ntmps67
    go_wp2_with fail
    go_ret
    rw [HSP.out]
    exact ⟨rfl,(Fr.refl _ _).alloc _⟩
  ·have HSP:Hid (Lex.spell 3 s n=⟨#[]⟩):=by show (if -9007199254740991 ≤ n ∧ n ≤ 9007199254740991 then ba (Dec.print n) else ⟨#[]⟩)=_;rw [if_neg (by omega)]
   have g1':¬ n ≥ -9007199254740991:=g1
   go_enter Tryz.func67,Tryz.ntmps67
   go_wp2_with fail
   go_ret
   rw [HSP.out]
   exact ⟨rfl,(Fr.refl _ _).alloc _⟩
 have q3:(k == 3)=false:=beq_eq_false_iff_ne.2 k3
 by_cases k4:k=4
 ·subst k4
  clear k1 k2 q1 q2 hn k3 q3
  by_cases h0:s.size=0
  ·have e1:=toList_nil h0
   have HSP:Hid (Lex.spell 4 s n=⟨#[]⟩):=by show (if 0 < s.size ∧ Lex.sign (bn s) s.size=s.size then s else ⟨#[]⟩)=_;rw [if_neg (by omega)]
   go_enter Tryz.func67,Tryz.ntmps67
   go_wp2_with fail
   go_quiet (fail)
   refine then_fresh (fun W=>Fr [] w W) ((Fr.refl _ _).alloc _ |>.drewN _) ?_
   intro W1 HF1
   go_wp2_with fail
   go_ret
   rw [HSP.out]
   exact ⟨rfl,HF1⟩
  ·obtain ⟨hne,hie⟩:=toList_ne (by omega:0 < s.size)
   have HSG:=Lib.hid (fun W=>lex_sign W s HS2.out)
   by_cases hk:Lex.sign (bn s) s.size=s.size
   ·have HSP:Hid (Lex.spell 4 s n=s):=by show (if 0 < s.size ∧ Lex.sign (bn s) s.size=s.size then s else ⟨#[]⟩)=_;rw [if_pos ⟨by omega,hk⟩]
    have HX:Hid (∀ W,Calls Tryz.prog 77 #[.string s] W fun e w'=>e=.returned (.string s) ∧ w'=W):=fun W=>by
     refine (HSG.out W).mono ?_
     rintro e w' ⟨rfl,rfl⟩
     refine ⟨?_,rfl⟩
     rw [hk,show s.extract 0 s.size=s by simp]
    clear HSG hk
    go_enter Tryz.func67,Tryz.ntmps67
    go_wp2_with fail
    go_quiet ((go_at_call 77;exact Calls.quiet_of_same (HX.out _)))
    refine then_fresh (fun W=>∃ g,W.heap[g]?=some (.cells #[.int .i64 4,.string s,.int .i64 n,.int .i64 p] 54 (0,0)) ∧ g=w.heap.size ∧ Fr [] w W) ⟨_,heap_alloc_last w _,rfl,(Fr.refl _ _).alloc _ |>.drewN _⟩ ?_
    rintro W1 ⟨g,hg,rfl,HF1⟩
    have c1:=cell_of_row W1 _ 1 _ _ (0,0) hg
    go_wp2_with fail
    go_ret
    rw [HSP.out]
    exact ⟨rfl,HF1⟩
   ·have HSP:Hid (Lex.spell 4 s n=⟨#[]⟩):=by show (if 0 < s.size ∧ Lex.sign (bn s) s.size=s.size then s else ⟨#[]⟩)=_;rw [if_neg (fun h=>hk h.2)]
    obtain ⟨U,hU⟩:∃ U,s.extract 0 (Lex.sign (bn s) s.size)=U:=⟨_,rfl⟩
    have hUs:¬ U.toList=s.toList:=fun h=>by
     have h1:U.size=s.size:=by
      have:=congrArg List.length h
      simpa [ByteArray.toList_eq] using this
     have h2:U.size=Lex.sign (bn s) s.size:=by rw [← hU];have:=Lex.sign_le (bn s) s.size;simp;omega
     omega
    have hUb:(U.toList == s.toList)=false:=beq_eq_false_iff_ne.2 hUs
    have HX:Hid (∀ W,Calls Tryz.prog 77 #[.string s] W fun e w'=>e=.returned (.string U) ∧ w'=W):=fun W=>by
     refine (HSG.out W).mono ?_
     rintro e w' ⟨rfl,rfl⟩
     refine ⟨?_,rfl⟩
     rw [hU]
    clear HSG hk hU
    go_enter Tryz.func67,Tryz.ntmps67
    go_wp2_with fail
    go_quiet ((go_at_call 77;exact Calls.quiet_of_same (HX.out _)))
    refine then_fresh (fun W=>Fr [] w W) ((Fr.refl _ _).alloc _ |>.drewN _) ?_
    intro W1 HF1
    go_wp2_with fail
    go_ret
    rw [HSP.out]
    exact ⟨rfl,HF1⟩
 have q4:(k == 4)=false:=beq_eq_false_iff_ne.2 k4
 have HSP:Hid (Lex.spell k s n=⟨#[]⟩):=by show _=_;unfold Lex.spell;rw [if_neg k1,if_neg k2,if_neg k3,if_neg k4]
 clear k1 k2 k3 k4
 go_enter Tryz.func67,Tryz.ntmps67
 go_wp2_with fail
 go_ret
 rw [HSP.out]
 exact ⟨rfl,(Fr.refl _ _).alloc _⟩
end Go.Proofs.YtgklmpooonnmiaaGreatDoor

namespace Go.Proofs.YtgklmpooonnmiaaGreatDoor
open Go.RowKit
theorem own_form {w:World} {B n size:Nat} {e:TypeId} {v:Value} {xs:List Value} (h:w.ownsRow B e size v n xs):∃ p c,v=.slice p n c:=by
 rcases h.2 with ⟨rfl,rfl⟩ | ⟨g,cap,cur,rfl,_⟩
 ·exact ⟨_,_,rfl⟩
 ·exact ⟨_,_,rfl⟩
theorem own_at {w:World} {B n size:Nat} {e:TypeId} {v:Value} {xs:List Value} (h:w.ownsRow B e size v n xs) (hn:0 < n) :
  ∃ g c,v=.slice (some ⟨g,0,none⟩) n c ∧ B ≤ g ∧ g < w.heap.size ∧ n ≤ c ∧ c ≤ maxLen ∧ ∀ (j:Nat) (u:Value),xs[j]?=some u → w.cell? ⟨g,j,none⟩=some u:=by
 rcases h.2 with ⟨_,h0⟩ | ⟨g,c,cur,rfl,hb,hg,h1,h2,h3,h4⟩
 ·omega
 ·refine ⟨g,c,rfl,hb,row_lt hg,h1,h2,fun j u hj=>?_⟩
  rw [cell_of_row w g j cur e (0,0) hg]
  rw [← h4] at hj
  rw [List.getElem?_take] at hj
  split at hj
  ·simpa using hj
  ·cases hj
end Go.Proofs.YtgklmpooonnmiaaGreatDoor
