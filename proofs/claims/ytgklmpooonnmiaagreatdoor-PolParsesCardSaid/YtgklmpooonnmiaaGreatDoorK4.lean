/-
  Lemmas and contracts that the proofs over this seat use (LexSkip, LexTextP, Held); no statement of the seat is claimed in this text, and nothing is assumed in it.
-/
import Derived.Test.YtgklmpooonnmiaaGreatDoorK3
import Derived.Test.YtgklmpooonnmiaaGreatDoorShelf
import Derived.Deep.LoopGhost
import Derived.Deep.RegionHeld3
set_option linter.unusedVariables false
set_option linter.unusedSimpArgs false
namespace Go.Proofs.YtgklmpooonnmiaaGreatDoor
open Go.RowKit
namespace Lex
def lineEnd (f:Nat → Nat) (n at_:Nat):Nat:=if at_ < n then (if f at_=10 then at_ else lineEnd f n (at_+1)) else n
termination_by n - at_
decreasing_by omega
theorem lineEnd_ge (f:Nat → Nat) (n at_:Nat) (h:at_ ≤ n):at_ ≤ lineEnd f n at_ ∧ lineEnd f n at_ ≤ n:=by
 fun_induction lineEnd f n at_ with
 | case1=>omega
 | case2 a h1 h2 ih=>have:=ih (by omega);omega
 | case3=>omega
def blank (c:Nat):Bool:=c == 32 || c == 9 || c == 10 || c == 13
def skipTo (f:Nat → Nat) (n at_:Nat):Nat :=
 if h:at_ < n then (if blank (f at_)=true then skipTo f n (at_+1) else if f at_=35 then skipTo f n (lineEnd f n (at_+1)) else at_) else at_
termination_by n - at_
decreasing_by
 ·omega
 ·have:=lineEnd_ge f n (at_+1) (by omega);omega
theorem skipTo_blank {f:Nat → Nat} {n k:Nat} (h:k < n) (hb:blank (f k)=true):skipTo f n k=skipTo f n (k+1):=by
 conv=>lhs;rw [skipTo]
 rw [dif_pos h,if_pos hb]
theorem skipTo_mark {f:Nat → Nat} {n k:Nat} (h:k < n) (hb:¬ blank (f k)=true) (h35:f k=35):skipTo f n k=skipTo f n (lineEnd f n (k+1)):=by
 conv=>lhs;rw [skipTo]
 rw [dif_pos h,if_neg hb,if_pos h35]
theorem skipTo_stop {f:Nat → Nat} {n k:Nat} (hb:¬ blank (f k)=true) (h35:¬ f k=35):skipTo f n k=k:=by
 rw [skipTo,if_neg hb,if_neg h35,dite_eq_ite,ite_self]
theorem skipTo_end {f:Nat → Nat} {n k:Nat} (h:¬ k < n):skipTo f n k=k:=by rw [skipTo,dif_neg h]
theorem skipTo_ge (f:Nat → Nat) (n k:Nat) (h:k ≤ n):k ≤ skipTo f n k ∧ skipTo f n k ≤ n:=by
 fun_induction skipTo f n k with
 | case1 a h1 h2 ih=>have:=ih (by omega);omega
 | case2 a h1 h2 h3 ih =>
  have h4:=lineEnd_ge f n (a+1) (by omega)
  have:=ih h4.2
  omega
 | case3=>omega
 | case4=>omega
end Lex
theorem lineEnd_idx (s:ByteArray) (k:Nat) (hk:k ≤ s.size) :
  Lex.lineEnd (bn s) s.size k=k+(if Lib.indexByte (s.data.toList.drop k) 10 < 0 then s.size - k else (Lib.indexByte (s.data.toList.drop k) 10).toNat):=by
 fun_induction Lex.lineEnd (bn s) s.size k with
 | case1 k h h10 =>
  have hl:k < s.data.toList.length:=by simpa using h
  rw [List.drop_eq_getElem_cons hl]
  have hc:s.data.toList[k]=10:=by
   have h1:=bn_data s k
   rw [h10,List.getD_eq_getElem?_getD,List.getElem?_eq_getElem hl] at h1
   exact UInt8.toNat_inj.1 h1
  rw [hc]
  simp [Lib.indexByte]
 | case2 k h h10 ih =>
  have hl:k < s.data.toList.length:=by simpa using h
  rw [ih (by omega),List.drop_eq_getElem_cons hl]
  have hc:¬ s.data.toList[k]=10:=fun hc=>by
   have h1:=bn_data s k
   rw [List.getD_eq_getElem?_getD,List.getElem?_eq_getElem hl] at h1
   exact h10 (by rw [← h1];show s.data.toList[k].toNat=10;rw [hc];rfl)
  have hg:=Lib.indexByte_ge (s.data.toList.drop (k+1)) 10
  simp only [Lib.indexByte,beq_iff_eq,hc,if_false]
  generalize Lib.indexByte (s.data.toList.drop (k+1)) 10=v at *
  by_cases hm:v=-1
  ·subst hm;simp;omega
  ·rw [if_neg (show ¬ v < 0 by omega),if_neg hm,if_neg (show ¬ v+1 < 0 by omega)]
   omega
 | case3 k h =>
  have:k=s.size:=by omega
  subst this
  rw [List.drop_eq_nil_of_le (by simp)]
  simp [Lib.indexByte]
def Sc (w:World) (b:Nat) (s:ByteArray) (k:Nat) (lv:Value):Prop:=w.heap[b]?=some (.cells #[.string s,.int .i64 (k:Nat),lv] 89 (0,0))
theorem Sc.c0 {w:World} {b:Nat} {s:ByteArray} {k:Nat} {lv:Value} (h:Sc w b s k lv):w.cell? ⟨b,0,none⟩=some (.string s):=by rw [Lib.cell_of_heap h];rfl
theorem Sc.c1 {w:World} {b:Nat} {s:ByteArray} {k:Nat} {lv:Value} (h:Sc w b s k lv):w.cell? ⟨b,1,none⟩=some (.int .i64 (k:Nat)):=by rw [Lib.cell_of_heap h];rfl
theorem Sc.c2 {w:World} {b:Nat} {s:ByteArray} {k:Nat} {lv:Value} (h:Sc w b s k lv):w.cell? ⟨b,2,none⟩=some lv:=by rw [Lib.cell_of_heap h];rfl
theorem Sc.fz {w:World} {b:Nat} {s:ByteArray} {k:Nat} {lv:Value} (h:Sc w b s k lv) (i:Nat):w.frozen? ⟨b,i,none⟩=false:=Lib.frozen_of_heap h i
theorem Sc.lt {w:World} {b:Nat} {s:ByteArray} {k:Nat} {lv:Value} (h:Sc w b s k lv):b < w.heap.size:=row_lt h
theorem Sc.put {w:World} {b:Nat} {s:ByteArray} {k:Nat} {lv:Value} (h:Sc w b s k lv) (m:Nat):Sc (w.setCell ⟨b,1,none⟩ (.int .i64 (m:Nat))) b s m lv:=by
 unfold Sc at *
 have:=heap_setCell_same w b 1 _ _ (.int .i64 (m:Nat)) h
 simpa using this
theorem Sc.fr {w w':World} {b:Nat} {s:ByteArray} {k:Nat} {lv:Value} (h:Sc w b s k lv) (hF:Fr [] w w'):Sc w' b s k lv:=hF.row h (by simp)
set_option maxHeartbeats 4000000 in
set_option maxRecDepth 100000 in
theorem lex_skip (w:World) (b:Nat) (s:ByteArray) (k0:Nat) (lv:Value) (hs:s.size ≤ 1000000) (hk0:k0 ≤ s.size) (h:Sc w b s k0 lv) :
  Calls Tryz.prog 40 #[.pointer (some ⟨b,0,none⟩)] w fun e w'=>e=.returned (.tuple #[]) ∧ Sc w' b s (Lex.skipTo (bn s) s.size k0) lv ∧ Fr [b] w w':=by
 have HS:=Lib.hid h
 clear h
 go_enter Tryz.func40,Tryz.ntmps40
 go_wp2
 go_loopg [2] (s.size - k0) (fun q _ W=>∃ k:Nat,k ≤ s.size ∧ q=s.size - k ∧ Hid (Lex.skipTo (bn s) s.size k=Lex.skipTo (bn s) s.size k0) ∧ Hid (Sc W b s k lv) ∧ Hid (Fr [b] w W))
 case atStart=>exact ⟨k0,hk0,rfl,rfl,HS,Fr.refl _ _⟩
 case round =>
  clear HS hk0
  obtain ⟨k,hk,hq,HE,HC,HF⟩:=hrel
  have c0:=HC.out.c0
  have c1:=HC.out.c1
  have HQ:=Lib.hid hq
  clear hq
  by_cases hlt:k < s.size
  ·have hlt':(k:Int) < (s.size:Int):=by omega
   have hz:=Lib.hid (bn_at s k)
   obtain ⟨c,hc⟩:∃ c,Hid (bn s k=c):=⟨_,rfl⟩
   rw [hc.out] at hz
   have hz':=hz.out hlt
   go_wp2_with fail
   go_quiet (fail)
   refine then_fresh (fun W=>Sc W b s k lv ∧ Fr [] wr W) ⟨HC.out.fr ((Fr.refl _ _).drewN _),(Fr.refl _ _).drewN _⟩ ?_
   rintro W1 ⟨hc1,hf1⟩
   have HC1:=Lib.hid hc1
   have HF1:=Lib.hid (HF.out.trans0 hf1)
   clear c0 c1 hc1 hf1 HC HF
   have c0:=HC1.out.c0
   have c1:=HC1.out.c1
   go_wp2_with fail
   go_quiet (fail)
   refine then_fresh (fun W=>Sc W b s k lv ∧ Fr [] W1 W) ⟨HC1.out.fr ((Fr.refl _ _).drewN _),(Fr.refl _ _).drewN _⟩ ?_
   rintro W2 ⟨hc1,hf1⟩
   have HC2:=Lib.hid hc1
   have HF2:=Lib.hid (HF1.out.trans0 hf1)
   clear c0 c1 hc1 hf1 HC1 HF1
   have c0:=HC2.out.c0
   have c1:=HC2.out.c1
   have f1:=HC2.out.fz 1
   by_cases hbl:Lex.blank c=true
   ·have HN:=Lib.hid (Lex.skipTo_blank (f:=bn s) hlt (by rw [hc.out];exact hbl))
    have hq4:c=32 ∨ c=9 ∨ c=10 ∨ c=13:=by simpa [Lex.blank,or_assoc] using hbl
    have HP:=Lib.hid (HC2.out.put (k+1))
    clear hbl hc hz
    rcases hq4 with rfl | rfl | rfl | rfl
    all_goals
     go_wp2_with fail
     go_roundg (s.size - (k+1))
     case measure=>have:=HQ.out;omega
     case rel=>exact ⟨k+1,by omega,rfl,by show _=_;rw [← HN.out];exact HE.out,HP.out,HF2.out.setCell (.inl (by simp)) _⟩
   ·have hq4:c ≠ 32 ∧ c ≠ 9 ∧ c ≠ 10 ∧ c ≠ 13:=by simpa [Lex.blank,and_assoc] using hbl
    have t1:((c:Int) == 32)=false:=beq_eq_false_iff_ne.2 (by omega)
    have t2:((c:Int) == 9)=false:=beq_eq_false_iff_ne.2 (by omega)
    have t3:((c:Int) == 10)=false:=beq_eq_false_iff_ne.2 (by omega)
    have t4:((c:Int) == 13)=false:=beq_eq_false_iff_ne.2 (by omega)
    by_cases h35:c=35
    ·have t5:((c:Int) == 35)=true:=beq_iff_eq.2 (by omega)
     have HN:=Lib.hid (Lex.skipTo_mark (f:=bn s) hlt (by rw [hc.out];exact hbl) (by rw [hc.out];exact h35))
     have hle:=Lex.lineEnd_ge (bn s) s.size (k+1) (by omega)
     have hli:=lineEnd_idx s k (by omega)
     have hl0:Lex.lineEnd (bn s) s.size k=Lex.lineEnd (bn s) s.size (k+1):=by
      conv=>lhs;rw [Lex.lineEnd]
      rw [if_pos hlt,if_neg (by rw [hc.out];omega)]
     rw [hl0] at hli
     obtain ⟨m,hm⟩:∃ m,Hid (Lex.lineEnd (bn s) s.size (k+1)=m):=⟨_,rfl⟩
     rw [hm.out] at hle hli
     have HNE:Hid (Lex.skipTo (bn s) s.size k=Lex.skipTo (bn s) s.size m):=by show _=_;rw [HN.out,hm.out]
     obtain ⟨T,hT⟩:∃ T,Hid (s.extract k s.size=T):=⟨_,rfl⟩
     have hTd:T.data.toList=s.data.toList.drop k:=by rw [← hT.out];simp [List.extract];rw [List.take_of_length_le (by simp)]
     have hix:=fun W=>Tryz.strings_IndexByte T 10 W
     rw [hTd] at hix
     obtain ⟨v,hv⟩:∃ v,Hid (Lib.indexByte (s.data.toList.drop k) 10=v):=⟨_,rfl⟩
     have hvg:=Lib.indexByte_ge (s.data.toList.drop k) 10
     rw [hv.out] at hli hvg
     have hix2:Hid (∀ W,Calls Tryz.prog 72 #[.string T,.int .u8 10] W fun e w'=>e=.returned (.int .i64 v) ∧ w'=W):=fun W=>by
      have:=hix W
      rw [show ((10:Int).toNat.toUInt8)=10 from rfl,hv.out] at this
      exact this
     have HLI:=Lib.hid hli
     have HLE:=Lib.hid hle
     have hkm:k < m:=by omega
     have hms:m ≤ s.size:=by omega
     clear hix hTd hl0 hli hle hbl hc hz hq4 h35 hm HN
     have hex:s.extract k s.size=T:=hT.out
     go_wp2_with fail
     go_quiet ((go_at_call 72;exact Calls.quiet_of_same (hix2.out _)))
     refine then_fresh (fun W=>Sc W b s k lv ∧ Fr [] W2 W) ⟨HC2.out.fr ((Fr.refl _ _).drewN _),(Fr.refl _ _).drewN _⟩ ?_
     rintro W3 ⟨hc1,hf1⟩
     have HC3:=Lib.hid hc1
     have HF3:=Lib.hid (HF2.out.trans0 hf1)
     clear c0 c1 f1 hc1 hf1 HC2 HF2
     have c0:=HC3.out.c0
     have c1:=HC3.out.c1
     by_cases hneg:v < 0
     ·have hms2:m=s.size:=by have:=HLI.out;rw [if_pos hneg] at this;omega
      subst hms2
      go_wp2_with fail
      go_quiet (fail)
      refine then_fresh (fun W=>Sc W b s k lv ∧ Fr [] W3 W) ⟨HC3.out.fr ((Fr.refl _ _).drewN _),(Fr.refl _ _).drewN _⟩ ?_
      rintro W4 ⟨hc1,hf1⟩
      have HC4:=Lib.hid hc1
      have HF4:=Lib.hid (HF3.out.trans0 hf1)
      clear c0 c1 hc1 hf1 HC3 HF3
      have c0:=HC4.out.c0
      have c1:=HC4.out.c1
      have f1:=HC4.out.fz 1
      have HP:=Lib.hid (HC4.out.put s.size)
      have hvm1:IntKind.i64.wrap ((s.size:Int) - (k:Int))=(s.size:Int) - (k:Int):=IntWalk.i64_in _ (by omega)
      have hvm2:IntKind.i64.wrap ((k:Int)+((s.size:Int) - (k:Int)))=(s.size:Int):=by rw [IntWalk.i64_in _ (by omega)];omega
      have hvm3:(k:Int)+((s.size:Int) - (k:Int))=(s.size:Int):=by omega
      go_wp2_with fail
      go_roundg (s.size - s.size)
      case measure=>have:=HQ.out;omega
      case rel=>exact ⟨s.size,hms,rfl,by show _=_;rw [← HNE.out];exact HE.out,HP.out,HF4.out.setCell (.inl (by simp)) _⟩
     ·have hvm:v=((m - k:Nat):Int):=by have:=HLI.out;rw [if_neg hneg] at this;omega
      have f1:=HC3.out.fz 1
      have HP:=Lib.hid (HC3.out.put m)
      have hvm2:IntKind.i64.wrap ((k:Int)+v)=(m:Int):=by rw [IntWalk.i64_in _ (by omega)];omega
      have hvm3:(k:Int)+v=(m:Int):=by omega
      clear hvm
      go_wp2_with fail
      go_roundg (s.size - m)
      case measure=>have:=HQ.out;omega
      case rel=>exact ⟨m,hms,rfl,by show _=_;rw [← HNE.out];exact HE.out,HP.out,HF3.out.setCell (.inl (by simp)) _⟩
    ·have t5:((c:Int) == 35)=false:=beq_eq_false_iff_ne.2 (by omega)
     have HN:=Lib.hid (Lex.skipTo_stop (f:=bn s) (n:=s.size) (k:=k) (by rw [hc.out];exact hbl) (by rw [hc.out];exact h35))
     clear hbl h35 hc hz hq4
     go_wp2_with fail
     refine bodyPost_ret (results_none rfl _ _ _) rfl ?_
     refine ⟨rfl,?_,HF2.out⟩
     rw [← HE.out,HN.out]
     exact HC2.out
  ·have hlt':¬ (k:Int) < (s.size:Int):=by omega
   go_wp2_with fail
   go_quiet (fail)
   refine then_fresh (fun W=>Sc W b s k lv ∧ Fr [] wr W) ⟨HC.out.fr ((Fr.refl _ _).drewN _),(Fr.refl _ _).drewN _⟩ ?_
   rintro W1 ⟨hc1,hf1⟩
   have HC1:=Lib.hid hc1
   have HF1:=Lib.hid (HF.out.trans0 hf1)
   have HN:=Lib.hid (Lex.skipTo_end (f:=bn s) hlt)
   clear c0 c1 hc1 hf1 HC HF
   go_wp2_with fail
   go_end0
   refine ⟨rfl,?_,HF1.out⟩
   rw [← HE.out,HN.out]
   exact HC1.out
end Go.Proofs.YtgklmpooonnmiaaGreatDoor

namespace Go.Proofs.YtgklmpooonnmiaaGreatDoor
open Go.RowKit
namespace Utf
theorem pre_congr {f g:Nat → Nat} (k:Nat) (h:∀ i,i ≤ k → f i=g i):pre f k=pre g k:=by
 induction k with
 | zero=>simp [pre,h 0 (by omega)]
 | succ k ih=>simp only [pre];rw [ih (fun i hi=>h i (by omega)),h (k+1) (by omega)]
theorem cont_congr {f g:Nat → Nat} (k:Nat) (h:∀ i,i ≤ k → f i=g i):cont f k=cont g k:=by
 induction k with
 | zero=>rfl
 | succ k ih=>simp only [cont];rw [ih (fun i hi=>h i (by omega)),h (k+1) (by omega)]
theorem wide_le (c:Nat):wide c ≤ 4:=by unfold wide;split;omega;split;omega;split;omega;split;omega;split <;> omega
theorem next_congr {f g:Nat → Nat} {n m:Nat} (h:∀ i,i < n → f i=g i) (hm:n=min m 4):next f n=next g m:=by
 have hw:=wide_le (f 0)
 unfold next
 by_cases h0:m=0
 ·rw [if_pos (by omega),if_pos h0]
 ·have e0:=h 0 (by omega)
  rw [if_neg (by omega),if_neg h0,← e0]
  split
  ·rfl
  ·by_cases h1:wide (f 0)=0 ∨ n < wide (f 0)
   ·rw [if_pos h1,if_pos (by omega)]
   ·rw [if_neg h1,if_neg (show ¬ (wide (f 0)=0 ∨ m < wide (f 0)) by omega),pre_congr (f:=f) (g:=g) (wide (f 0) - 1) (fun i hi=>h i (by omega)),cont_congr (f:=f) (g:=g) (wide (f 0) - 1) (fun i hi=>h i (by omega))]
end Utf
theorem bn_ext (s:ByteArray) (a b i:Nat) (hb:b ≤ s.size) (hi:i < b - a):bn (s.extract a b) i=bn s (a+i):=by
 have h1:i < (s.extract a b).size:=by simp;omega
 rw [← bn_at _ i h1,← bn_at s (a+i) (by omega)]
 congr 1
 exact ByteArray.getElem_extract _
theorem nats_ext (s:ByteArray) (a b:Nat):nats (s.extract a b)=((nats s).drop a).take (b - a):=by
 simp [nats,List.map_take,List.map_drop,List.extract]
namespace Lex
def text (s:ByteArray) (k:Nat) (out:List Nat):Option (List Nat) × Nat :=
 if k < s.size then
  (if bn s k < 32 then (none,k)
  else if bn s k=34 then (some out,k+1)
  else if bn s k=92 then (if k+1 < s.size ∧ (bn s (k+1)=34 ∨ bn s (k+1)=92) then text s (k+2) (out ++ [bn s (k+1)]) else (none,k+1))
  else match Utf.next (fun i=>bn s (k+i)) (s.size - k) with
   | (none,_)=>(none,k)
   | (some _,m)=>text s (k+max m 1) (out ++ ((nats s).drop k).take m))
 else (none,k)
termination_by s.size - k
decreasing_by all_goals omega
end Lex
def textEr:Option (List Nat) × Nat → Er
 | (some _,_)=>.ok
 | (none,p)=>.pl p 110
theorem Bld.keep {B b:Nat} {D:List Nat} {w w':World} (h:Bld B b D w) (hk:∀ k,B ≤ k → k < w.heap.size → w'.heap[k]?=w.heap[k]?):Bld B b D w':=by
 have key:∀ p,BldAt B b p D w → BldAt B b p D w':=fun p hp=>by
  obtain ⟨hB,v,hb,ho,hne⟩:=hp
  refine ⟨hB,v,(hk b hB (row_lt hb)).trans hb,⟨ho.1,?_⟩,hne⟩
  rcases ho.2 with h1 | ⟨g,cap,cur,hv,hg,hgg,r⟩
  ·exact Or.inl h1
  ·exact Or.inr ⟨g,cap,cur,hv,hg,(hk g hg (row_lt hgg)).trans hgg,r⟩
 rcases h with h | h
 ·exact Or.inl (key _ h)
 ·exact Or.inr (key _ h)
theorem Bld.fr {B b:Nat} {D:List Nat} {w w':World} (h:Bld B b D w) (hF:Fr [] w w'):Bld B b D w':=h.keep (fun k _ hk=>hF.block k hk (by simp))
theorem Bld.set {B b c o:Nat} {u:Value} {D:List Nat} {w:World} (h:Bld B b D w) (hc:c < B):Bld B b D (w.setCell ⟨c,o,none⟩ u):=h.keep (fun k hB _=>Below.heap_setCell _ _ _ _ (by show k ≠ c;omega))
theorem fresh_bld (w:World):Bld w.heap.size w.heap.size [] (w.alloc (.cells #[.pointer none,.slice none 0 0] 74)):=Lib.fresh_isBuilder _ _ w
theorem Fr.step {bs:List Nat} {a w w':World} (h:Fr bs a w) (hb:Below a.heap.size w w'):Fr bs a w' :=
 ⟨hb.os.trans h.os,hb.tape.trans h.tape,hb.output.trans h.output,Nat.le_trans h.size hb.size,fun k hk hn=>(hb.block k hk).trans (h.block k hk hn)⟩
theorem Sc.below {w w':World} {b B:Nat} {s:ByteArray} {k:Nat} {lv:Value} (h:Sc w b s k lv) (hb:Below B w w') (hB:b < B):Sc w' b s k lv:=(hb.block b hB).trans h
theorem next_conv (V:World) (T:ByteArray) (x:Option Nat) (m:Nat) (hT:T.size ≤ maxLen) (hL:Least V) (hx:Utf.next (bn T) T.size=(x,m)) :
  Calls Tryz.prog 88 #[.slice (some ⟨V.heap.size,0,none⟩) T.size (grownCap V T.size 0 5)] (Lib.bytesWorld V 5 T) fun e w'=>e=.returned (.tuple #[.int .i64 (letZ x),.int .i64 (m:Nat)]) ∧ Lib.bytesWorld V 5 T=w':=by
 have h:=utf_next _ _ _ _ _ (rb_bytes V T hT) (grownCap_ge V T.size 5) (grownCap_le V T.size 5 hT) (hL.fr (fr_bytes V _ T) (by simp))
 rw [hx] at h
 exact h
theorem bld_string (B b:Nat) (D:List Nat) (w:World) (h:Bld B b D w) (hD:∀ x ∈ D,x < 256) (hB:B ≤ w.heap.size) :
  Calls Tryz.prog 31 #[.pointer (some ⟨b,0,none⟩)] w fun e w'=>e=.returned (.string (ba D)) ∧ Below B w w':=by
 unfold Bld at h
 rw [u8s_byteCells D hD] at h
 exact Tryz.Builder_String_any B b _ w h hB
end Go.Proofs.YtgklmpooonnmiaaGreatDoor

namespace Go.Proofs.YtgklmpooonnmiaaGreatDoor
theorem held_take {P:Program} {md:Region.Mode} {ops:Array Oper} {Q:Exit → Act → World → Prop} {S:World → Prop} {i:Nat} {oi:Oper} {v:Value} {fuel:Nat} {listed:Array Bool} {a:Act} {w:World} (d:Tmp) (hi:ops[i]?=some oi) (hd:oi.dst=some d)
  (hs:Region.noSelect ops=true) (hf:Region.free md ops listed i=true) (hr:(Region.ready md ops listed).contains i=true)
  (hQ:∀ c a w,Q (.panic c) (a.put oi.dst v) w → Q (.panic c) a w) (hy:YieldsIf P ops S oi v a) (hS:S w)
  (h:wpAnyH P md ops Q S fuel (listed.setIfInBounds i true) (a.put (some d) v) w):wpAnyH P md ops Q S (fuel+1) listed a w :=
 wpAnyH_take hi hs hf hr hQ hy hS (by rw [hd];exact h)
end Go.Proofs.YtgklmpooonnmiaaGreatDoor
