/-
  Lemmas and contracts that the proofs over this seat use (RefQuoted, RefDecP, RefDec, RefLead); no statement of the seat is claimed in this text, and nothing is assumed in it.
-/
import Derived.Test.YtgklmpooonnmiaaGreatDoorK21
import Derived.Test.YtgklmpooonnmiaaGreatDoorK4
import Derived.Test.YtgklmpooonnmiaaGreatDoorK3
import Derived.WalkLawsBesides
set_option linter.unusedVariables false
set_option linter.unusedSimpArgs false
namespace Go.Proofs.YtgklmpooonnmiaaGreatDoor
open Go.RowKit
theorem bn_over (s:ByteArray) (i:Nat) (h:s.size ≤ i):bn s i=0:=by
 unfold bn
 rw [List.getD_eq_getElem?_getD,List.getElem?_eq_none (by rw [nats_length];exact h)]
 rfl
theorem bn_tail (s:ByteArray) (j:Nat) (hj:j ≤ s.size):bn (s.extract j s.size)=fun i=>bn s (j+i):=by
 funext i
 by_cases h:i < s.size - j
 ·exact bn_ext s j s.size i (Nat.le_refl _) h
 ·rw [bn_over _ i (by simp;omega),bn_over s (j+i) (by omega)]
theorem ba_append (a b:List Nat):ba (a ++ b)=ba a ++ ba b:=by
 apply ByteArray.ext
 simp [ba]
theorem ext_ba (s:ByteArray) (a b:Nat):s.extract a b=ba (((nats s).drop a).take (b - a)):=by rw [← nats_ext,ba_nats]
theorem drop_take1 (s:ByteArray) (j:Nat) (h:j < s.size):((nats s).drop j).take 1=[bn s j]:=by
 have h2:j < (nats s).length:=by rw [nats_length];exact h
 rw [List.drop_eq_getElem_cons h2,List.take_succ_cons,List.take_zero]
 unfold bn
 rw [List.getD_eq_getElem?_getD,List.getElem?_eq_getElem h2]
 rfl
def textNx (s:ByteArray) (j:Nat) (out:List Nat):Option Nat × Nat → Option (List Nat) × Nat
 | (none,_)=>(none,j)
 | (some _,m)=>Lex.text s (j+max m 1) (out ++ ((nats s).drop j).take m)
set_option maxHeartbeats 4000000 in
set_option maxRecDepth 100000 in
theorem ref_quoted (w:World) (s:ByteArray) (k:Nat) (hs:s.size ≤ 1000000) (hk:k < s.size) :
  Calls Tryz.prog 50 #[.string s,.int .i64 k] w fun e w'=>e=.returned (.tuple #[.string (ba ((Lex.text s (k+1) []).1.getD [])),.int .i64 ((Lex.text s (k+1) []).2:Nat),.bool (Lex.text s (k+1) []).1.isSome]) ∧ Fr [] w w':=by
 obtain ⟨R,hR⟩:∃ R,Hid (Lex.text s (k+1) []=R):=⟨_,rfl⟩
 rw [hR.out]
 have hbn:=Lib.hid (bn_at s)
 go_enter Tryz.func50,Tryz.ntmps50
 go_wp2_with fail
 go_loopg [1,7] (s.size - (k+1)) (fun q t v W=>∃ (j:Nat) (O:ByteArray) (out:List Nat),j ≤ s.size ∧ q=s.size - j ∧ t=.int .i64 j ∧ v=.string O ∧ O.size ≤ j ∧ Hid (O=ba out) ∧ Hid (Lex.text s j out=R) ∧ Hid (Fr [] w W))
 case atStart=>exact ⟨k+1,⟨#[]⟩,[],by omega,rfl,by go_num,rfl,by show 0 ≤ _;omega,rfl,hR,Fr.refl _ _⟩
 case round =>
  clear hR
  obtain ⟨j,O,out,hj,hq,rfl,rfl,hO,HO,HE,HF⟩:=hrel
  have HQ:=Lib.hid hq
  clear hq
  have e1:(0:Int) ≤ (j:Int):=by omega
  by_cases hlt:j < s.size
  ·have hlt':(j:Int) < (s.size:Int):=by omega
   have hzj:=hbn.out j hlt
   obtain ⟨c,hc⟩:∃ c,Hid (bn s j=c):=⟨_,rfl⟩
   have hcl:=bn_lt s j
   rw [hc.out] at hzj hcl
   by_cases h32:c < 32
   ·have h32':(c:Int) < 32:=by omega
    have HX:Hid (R=(none,j)):=by show _=_;rw [← HE.out,Lex.text,if_pos hlt,hc.out,if_pos h32]
    go_wp2_with fail
    go_ret3
    rw [HX.out]
    exact ⟨rfl,HF.out⟩
   have h32':¬ (c:Int) < 32:=by omega
   by_cases h34:c=34
   ·have t34:((c:Int) == 34)=true:=by simp [h34]
    have HX:Hid (R=(some out,j+1)):=by show _=_;rw [← HE.out,Lex.text,if_pos hlt,hc.out,if_neg h32,if_pos h34]
    clear h34
    go_wp2_with fail
    go_ret3
    rw [HX.out]
    refine ⟨?_,HF.out⟩
    show Ending.returned (.tuple #[.string O,_,_])=_
    rw [HO.out]
    first | rfl | (congr 2;first | rfl | (congr 1;omega))
   have t34:((c:Int) == 34)=false:=beq_eq_false_iff_ne.2 (by omega)
   by_cases h92:c=92
   ·have t92:((c:Int) == 92)=true:=by simp [h92]
    have HX0:Hid (R=if j+1 < s.size ∧ (bn s (j+1)=34 ∨ bn s (j+1)=92) then Lex.text s (j+2) (out ++ [bn s (j+1)]) else (none,j+1)):=by
     show _=_;rw [← HE.out];conv=>lhs;rw [Lex.text,if_pos hlt,hc.out,if_neg h32,if_neg h34,if_pos h92]
    clear h92 h34 h32
    by_cases hj1:j+1 < s.size
    ·have hj1':(j:Int)+1 < (s.size:Int):=by omega
     have hz1:=hbn.out (j+1) hj1
     have e2:(0:Int) ≤ (j:Int)+1:=by omega
     have e3:((j:Int)+1).toNat=j+1:=by omega
     obtain ⟨d,hd⟩:∃ d,Hid (bn s (j+1)=d):=⟨_,rfl⟩
     rw [hd.out] at hz1 HX0
     by_cases hd2:d=34 ∨ d=92
     ·have HX:Hid (R=Lex.text s (j+2) (out ++ [d])):=by show _=_;rw [HX0.out,if_pos ⟨hj1,hd2⟩]
      obtain ⟨U,hU⟩:∃ U,s.extract (j+1) (j+2)=U:=⟨_,rfl⟩
      have hUs:U.size=1:=by rw [← hU];simp;omega
      have HN:Hid (O ++ U=ba (out ++ [d])):=by show _=_;rw [ba_append,HO.out,← hU,ext_ba,show j+2 - (j+1)=1 by omega,drop_take1 s (j+1) hj1,hd.out]
      have hsz:¬ 9223372036854775807 < O.size+U.size:=by omega
      have HOU:Hid ((O ++ U).size ≤ j+2):=by show _ ≤ _;rw [ByteArray.size_append];omega
      have e4:(j:Int)+2 ≤ (s.size:Int):=by omega
      have e5:(j:Int)+1 ≤ (j:Int)+2:=by omega
      have e6:((j:Int)+2).toNat=j+2:=by omega
      have hex:s.extract (j+1) (j+2)=U:=hU
      have ce:((d:Int) == 34)=true ∨ ((d:Int) == 34)=false ∧ ((d:Int) == 92)=true:=by
       by_cases e:d=34
       ·exact Or.inl (by simp [e])
       ·exact Or.inr ⟨beq_eq_false_iff_ne.2 (by omega),by rw [hd2.resolve_left e];rfl⟩
      clear hU hUs hd2 hd
      rcases ce with ce | ⟨ce,ce2⟩
      all_goals
       go_wp2_with fail
       go_roundg (s.size - (j+2))
       case measure=>have:=HQ.out;omega
       case rel=>exact ⟨j+2,O ++ U,out ++ [d],by omega,rfl,by go_num,rfl,HOU.out,HN,HX.out.symm,HF⟩
     ·have HX:Hid (R=(none,j+1)):=by show _=_;rw [HX0.out,if_neg (fun h=>hd2 h.2)]
      have ce:((d:Int) == 34)=false:=beq_eq_false_iff_ne.2 (by omega)
      have ce2:((d:Int) == 92)=false:=beq_eq_false_iff_ne.2 (by omega)
      clear hd2 hd
      go_wp2_with fail
      go_ret3
      rw [HX.out]
      exact ⟨by first | rfl | (congr 2;first | rfl | (congr 1;omega)),HF.out⟩
    ·have hj1':¬ (j:Int)+1 < (s.size:Int):=by omega
     have HX:Hid (R=(none,j+1)):=by show _=_;rw [HX0.out,if_neg (fun h=>hj1 h.1)]
     go_wp2_with fail
     go_ret3
     rw [HX.out]
     exact ⟨by first | rfl | (congr 2;first | rfl | (congr 1;omega)),HF.out⟩
   have t92:((c:Int) == 92)=false:=beq_eq_false_iff_ne.2 (by omega)
   obtain ⟨T,hT⟩:∃ T,s.extract j s.size=T:=⟨_,rfl⟩
   have hTs:T.size=s.size - j:=by rw [← hT];simp
   have hTn:Utf.next (bn T) T.size=Utf.next (fun i=>bn s (j+i)) (s.size - j):=by rw [hTs,← hT,bn_tail s j hj]
   obtain ⟨x,m,hx⟩:∃ x m,Utf.next (fun i=>bn s (j+i)) (s.size - j)=(x,m):=⟨_,_,rfl⟩
   rw [hx] at hTn
   have HNX:Hid (∀ W,Calls Tryz.prog 80 #[.string T] W fun e w'=>e=.returned (.tuple #[.int .i64 (letZ x),.int .i64 (m:Nat)]) ∧ Fr [] W w'):=fun W=>by
    have:=ref_next W T (by unfold maxLen;omega)
    rw [hTn] at this
    exact this
   have HX0:Hid (R=textNx s j out (x,m)):=by
    show _=_;rw [← HE.out];conv=>lhs;rw [Lex.text,if_pos hlt,hc.out,if_neg h32,if_neg h34,if_neg h92,hx]
    cases x <;> rfl
   have hxT:=Lib.hid hTn
   have hex:s.extract j s.size=T:=hT
   have hjle:(j:Int) ≤ (s.size:Int):=by omega
   have HTS:=Lib.hid hTs
   clear hx hTn hT h92 h34 h32 hTs
   cases x with
   | none =>
    have HX:Hid (R=(none,j)):=HX0.out
    clear HX0
    go_wp2_with fail
    refine (HNX.out _).mono ?_
    rintro e w1 ⟨rfl,hf⟩
    have HF1:=Lib.hid (HF.out.trans0 hf)
    clear hf
    simp only [letZ]
    go_wp2_with fail
    go_ret3
    rw [HX.out]
    exact ⟨rfl,HF1.out⟩
   | some x =>
    have hsz2:=Utf.next_size _ _ _ _ hxT.out
    have hTS:=HTS.out
    have hjm:j+m ≤ s.size:=by omega
    have HX:Hid (R=Lex.text s (j+m) (out ++ ((nats s).drop j).take m)):=by
     show _=_;rw [HX0.out]
     show Lex.text s (j+max m 1) _=_
     rw [show max m 1=m by omega]
    obtain ⟨U,hU⟩:∃ U,s.extract j (j+m)=U:=⟨_,rfl⟩
    have hUs:U.size=m:=by rw [← hU];simp;omega
    have HN:Hid (O ++ U=ba (out ++ ((nats s).drop j).take m)):=by show _=_;rw [ba_append,HO.out,← hU,ext_ba,show j+m - j=m by omega]
    have hsz:¬ 9223372036854775807 < O.size+U.size:=by omega
    have HOU:Hid ((O ++ U).size ≤ j+m):=by show _ ≤ _;rw [ByteArray.size_append];omega
    have HMP:Hid (0 < m):=by show _ < _;omega
    have wj:IntKind.i64.wrap ((j:Int)+(m:Int))=(j:Int)+(m:Int):=IntWalk.i64_in _ (by omega)
    have e2:(j:Int)+(m:Int) ≤ (s.size:Int):=by omega
    have e3:(j:Int) ≤ (j:Int)+(m:Int):=by omega
    have e4:((j:Int)+(m:Int)).toNat=j+m:=by omega
    have hex2:s.extract j (j+m)=U:=hU
    have hx0:¬ (x:Int) < 0:=by omega
    clear hsz2 hU hUs HX0 hTS
    go_wp2_with fail
    refine (HNX.out _).mono ?_
    rintro e w1 ⟨rfl,hf⟩
    have HF1:=Lib.hid (HF.out.trans0 hf)
    clear hf
    simp only [letZ]
    go_wp2_with fail
    go_roundg (s.size - (j+m))
    case measure=>have:=HQ.out;have:=HMP.out;omega
    case rel=>exact ⟨j+m,O ++ U,_,by omega,rfl,by go_num,rfl,HOU.out,HN,HX.out.symm,HF1⟩
  ·have hlt':¬ (j:Int) < (s.size:Int):=by omega
   have HX:Hid (R=(none,j)):=by show _=_;rw [← HE.out,Lex.text,if_neg hlt]
   go_wp2_with fail
   go_ret3
   rw [HX.out]
   exact ⟨rfl,HF.out⟩
end Go.Proofs.YtgklmpooonnmiaaGreatDoor

namespace Go.Proofs.YtgklmpooonnmiaaGreatDoor
open Go.RowKit
namespace Dec
def form (f:Nat → Nat) (n:Nat):Bool:=decide (0 < n ∧ lead f n=n)
def best (f:Nat → Nat):Nat → Nat
 | 0=>0
 | k+1=>if form f (k+1)=true then k+1 else best f k
theorem digits_to (f:Nat → Nat) (n a k:Nat) (ha:a ≤ k) (hk:k ≤ n) (h:∀ i,a ≤ i → i < k → dig (f i)=true) (he:k=n ∨ dig (f k)=false):digits f n a=k:=by
 fun_induction digits f n a with
 | case1 a h1 h2 ih =>
  by_cases e:a=k
  ·subst e
   rcases he with h3 | h3
   ·omega
   ·rw [h2] at h3;cases h3
  ·exact ih (by omega) (fun i hi=>h i (by omega))
 | case2 a h1 h2 =>
  by_cases e:a=k
  ·exact e
  ·exact absurd (h a (Nat.le_refl _) (by omega)) h2
 | case3 a h1=>omega
theorem sgn_at (f:Nat → Nat) {n m:Nat} (hn:0 < n) (hm:0 < m):sgn f n=sgn f m:=by simp [sgn,hn,hm]
theorem form_iff (f:Nat → Nat) (n:Nat) (hn:0 < n):form f n=true ↔ sgn f n < n ∧ (f (sgn f n)=48 → n=1 ∧ sgn f n=0) ∧ ∀ i,sgn f n ≤ i → i < n → dig (f i)=true:=by
 have hs:sgn f n ≤ 1:=by unfold sgn;split <;> omega
 simp only [form,decide_eq_true_eq]
 constructor
 ·rintro ⟨_,h⟩
  have h2:=lead_all h hn
  refine ⟨h2.1,fun h48=>?_,h2.2⟩
  unfold lead at h
  rw [if_neg (by omega),if_neg (by rw [h48];decide),if_pos h48] at h
  omega
 ·rintro ⟨h1,h2,h3⟩
  refine ⟨hn,?_⟩
  unfold lead
  rw [if_neg (by omega),if_neg (by rw [h3 _ (Nat.le_refl _) h1];decide)]
  split
  ·rename_i h48
   have:=h2 h48
   omega
  ·exact digits_to f n _ n (by omega) (Nat.le_refl _) h3 (Or.inl rfl)
theorem best_none (f:Nat → Nat) (k:Nat) (h:∀ j,0 < j → j ≤ k → form f j=false):best f k=0:=by
 induction k with
 | zero=>rfl
 | succ k ih =>
  rw [best,if_neg (by rw [h (k+1) (by omega) (Nat.le_refl _)];decide)]
  exact ih fun j h1 h2=>h j h1 (by omega)
theorem best_at (f:Nat → Nat) (k m:Nat) (hm:m ≤ k) (hf:form f m=true) (h:∀ j,m < j → j ≤ k → form f j=false):best f k=m:=by
 induction k with
 | zero=>simp [form] at hf;omega
 | succ k ih =>
  by_cases e:m=k+1
  ·subst e;rw [best,if_pos hf]
  ·rw [best,if_neg (by rw [h (k+1) (by omega) (Nat.le_refl _)];decide)]
   exact ih (by omega) fun j h1 h2=>h j h1 (by omega)
theorem best_lead (f:Nat → Nat) (len k:Nat) (hk:k ≤ len) (hd:∀ i,1 ≤ i → i < k → dig (f i)=true) (he:k=len ∨ (1 ≤ k ∧ dig (f k)=false)):best f k=lead f len:=by
 by_cases h0:len=0
 ·subst h0
  obtain rfl:k=0:=by omega
  rfl
 have hk1:0 < k:=by omega
 have hs:sgn f len ≤ 1:=by unfold sgn;split <;> omega
 have hsg:∀ j,0 < j → sgn f j=sgn f len:=fun j hj=>sgn_at f hj (by omega)
 have no:∀ j,0 < j → (∃ i,sgn f len ≤ i ∧ i < j ∧ dig (f i)=false) → form f j=false:=fun j hj ⟨i,h1,h2,h3⟩=>by
  rw [← Bool.not_eq_true]
  intro h
  have:=((form_iff f j hj).1 h).2.2 i (by rw [hsg j hj];exact h1) h2
  rw [h3] at this;cases this
 unfold lead
 by_cases h1:len ≤ sgn f len
 ·rw [if_pos h1]
  refine best_none f k fun j hj hjk=>?_
  rw [← Bool.not_eq_true]
  intro h
  have:=((form_iff f j hj).1 h).1
  rw [hsg j hj] at this
  omega
 ·rw [if_neg h1]
  by_cases h2:dig (f (sgn f len))=false
  ·rw [if_pos h2]
   refine best_none f k fun j hj hjk=>?_
   by_cases h3:sgn f len < j
   ·exact no j hj ⟨_,Nat.le_refl _,h3,h2⟩
   ·rw [← Bool.not_eq_true]
    intro h
    have:=((form_iff f j hj).1 h).1
    rw [hsg j hj] at this
    omega
  ·rw [if_neg h2]
   have h2':dig (f (sgn f len))=true:=by simpa using h2
   have hsk:sgn f len < k:=by
    rcases he with he | ⟨_,he⟩
    ·omega
    ·rcases Nat.lt_or_ge (sgn f len) k with h | h
     ·exact h
     ·have e:k=sgn f len:=by omega
      rw [e,h2'] at he;cases he
   have all:∀ i,sgn f len ≤ i → i < k → dig (f i)=true:=fun i h3 h4=>by
    by_cases e:i=sgn f len
    ·rw [e];exact h2'
    ·exact hd i (by omega) h4
   by_cases h48:f (sgn f len)=48
   ·rw [if_pos h48]
    by_cases hs0:sgn f len=0
    ·rw [hs0]
     refine best_at f k 1 (by omega) ((form_iff f 1 (by omega)).2 ⟨by rw [hsg 1 (by omega)];omega,fun _=>⟨rfl,by rw [hsg 1 (by omega)];exact hs0⟩,fun i h3 h4=>all i (by rw [hs0];omega) (by omega)⟩) fun j hj hjk=>?_
     rw [← Bool.not_eq_true]
     intro h
     have:=((form_iff f j (by omega)).1 h).2.1 (by rw [hsg j (by omega)];exact h48)
     omega
    ·have hs1:sgn f len=1:=by omega
     rw [hs1]
     refine best_none f k fun j hj hjk=>?_
     rw [← Bool.not_eq_true]
     intro h
     have:=((form_iff f j (by omega)).1 h).2.1 (by rw [hsg j (by omega)];exact h48)
     rw [hsg j hj] at this
     omega
   ·rw [if_neg h48,digits_to f len _ k (by omega) hk all (by rcases he with h | ⟨_,h⟩;exact Or.inl h;exact Or.inr h)]
    refine best_at f k k (Nat.le_refl _) ((form_iff f k hk1).2 ⟨by rw [hsg k hk1];exact hsk,fun h=>absurd (by rw [hsg k hk1] at h;exact h) h48,fun i h3 h4=>all i (by rw [hsg k hk1] at h3;exact h3) h4⟩) fun j hj hjk=>by omega
theorem digits_congr {f g:Nat → Nat} {n:Nat} (h:∀ i,i < n → f i=g i) (a:Nat):digits f n a=digits g n a:=by
 fun_induction digits f n a with
 | case1 a h1 h2 ih=>rw [digits_yes h1 (by rw [← h a h1];exact h2)];exact ih
 | case2 a h1 h2=>rw [digits_no (by rw [← h a h1];exact h2)]
 | case3 a h1=>rw [digits_end h1]
theorem sgn_congr {f g:Nat → Nat} {n:Nat} (h:∀ i,i < n → f i=g i):sgn f n=sgn g n:=by
 unfold sgn
 by_cases h0:0 < n
 ·rw [h 0 h0]
 ·rw [if_neg (fun h=>h0 h.1),if_neg (fun h=>h0 h.1)]
theorem lead_congr {f g:Nat → Nat} {n:Nat} (h:∀ i,i < n → f i=g i):lead f n=lead g n:=by
 unfold lead
 rw [sgn_congr h]
 by_cases h1:n ≤ sgn g n
 ·rw [if_pos h1,if_pos h1]
 ·rw [if_neg h1,if_neg h1,h _ (by omega),digits_congr h]
theorem form_congr {f g:Nat → Nat} {n:Nat} (h:∀ i,i < n → f i=g i):form f n=form g n:=by
 unfold form;rw [lead_congr h]
theorem form_read (f:Nat → Nat) (n:Nat) (h:form f n=false) (lo hi:Int):read f n lo hi=(0,.pl (lead f n) 40):=by
 unfold read
 rw [if_pos]
 simp only [form,decide_eq_false_iff_not] at h
 have:=lead_le f n
 omega
theorem form_read' (f:Nat → Nat) (n:Nat) (h:form f n=true) (lo hi:Int):read f n lo hi=if sgn f n=1 then (if 9223372036854775808 < vl f 1 (n - 1) then (0,.no 41) else chk lo hi (-(vl f 1 (n - 1):Int))) else if 9223372036854775808 ≤ vl f 0 n then (0,.no 41) else chk lo hi (vl f 0 n:Int):=by
 conv=>lhs;unfold read
 simp only [form,decide_eq_true_eq] at h
 rw [if_neg (by omega)]
theorem vl_lt (f:Nat → Nat) (a k:Nat) (h:∀ i,i < k → dig (f (a+i))=true):vl f a k < 10 ^ k:=by
 induction k with
 | zero=>simp [vl]
 | succ k ih =>
  have h1:=ih fun i hi=>h i (by omega)
  have h2:=h k (by omega)
  simp only [dig,Bool.and_eq_true,decide_eq_true_eq] at h2
  rw [vl,Nat.pow_succ]
  omega
theorem vl_ge (f:Nat → Nat) (a k:Nat) (h0:49 ≤ f a) (h:∀ i,i < k+1 → dig (f (a+i))=true):10 ^ k ≤ vl f a (k+1):=by
 induction k with
 | zero=>simp only [vl,Nat.add_zero];omega
 | succ k ih =>
  have h1:=ih fun i hi=>h i (by omega)
  rw [vl,Nat.pow_succ]
  omega
def vF:List UInt8 → Nat
 | []=>0
 | c :: l=>(c.toNat - 48) * 10 ^ l.length+vF l
theorem vF_lt (l:List UInt8) (h:∀ c ∈ l,dig c.toNat=true):vF l < 10 ^ l.length:=by
 induction l with
 | nil=>decide
 | cons c l ih =>
  have h1:=ih fun x hx=>h x (List.mem_cons_of_mem _ hx)
  have h2:=h c List.mem_cons_self
  simp only [dig,Bool.and_eq_true,decide_eq_true_eq] at h2
  simp only [vF,List.length_cons,Nat.pow_succ]
  have h3:(c.toNat - 48) * 10 ^ l.length ≤ 9 * 10 ^ l.length:=Nat.mul_le_mul_right _ (by omega)
  omega
theorem vF_snoc (l:List UInt8) (c:UInt8):vF (l ++ [c])=vF l * 10+(c.toNat - 48):=by
 induction l with
 | nil=>simp [vF]
 | cons x l ih =>
  simp only [List.cons_append,vF,ih,List.length_append,List.length_cons,List.length_nil,Nat.zero_add,Nat.pow_succ,Nat.add_mul,Nat.mul_assoc]
  omega
theorem less_vF (a b:List UInt8) (hl:a.length=b.length) (ha:∀ c ∈ a,dig c.toNat=true) (hb:∀ c ∈ b,dig c.toNat=true):Op.bytesLess a b=decide (vF a < vF b):=by
 induction a generalizing b with
 | nil =>
  cases b with
  | nil=>rfl
  | cons _ _=>simp at hl
 | cons x a ih =>
  cases b with
  | nil=>simp at hl
  | cons y b =>
   have hl2:a.length=b.length:=by simpa using hl
   have ha2:=fun c hc=>ha c (List.mem_cons_of_mem _ hc)
   have hb2:=fun c hc=>hb c (List.mem_cons_of_mem _ hc)
   have h1:=ih b hl2 ha2 hb2
   have h2:=vF_lt a ha2
   have h3:=vF_lt b hb2
   have hx:=ha x List.mem_cons_self
   have hy:=hb y List.mem_cons_self
   simp only [dig,Bool.and_eq_true,decide_eq_true_eq] at hx hy
   simp only [Op.bytesLess,vF,h1,hl2]
   rw [hl2] at h2
   rw [Bool.eq_iff_iff]
   simp only [Bool.or_eq_true,Bool.and_eq_true,decide_eq_true_eq,beq_iff_eq]
   generalize 10 ^ b.length=p at *
   constructor
   ·rintro (h | ⟨h,h4⟩)
    ·have h5:x.toNat < y.toNat:=h
     have h6:(x.toNat - 48+1) * p ≤ (y.toNat - 48) * p:=Nat.mul_le_mul_right _ (by omega)
     rw [Nat.add_mul] at h6
     omega
    ·subst h;omega
   ·intro h
    rcases Nat.lt_trichotomy x.toNat y.toNat with h5 | h5 | h5
    ·exact Or.inl h5
    ·have e:x=y:=UInt8.toNat_inj.1 h5
     subst e
     exact Or.inr ⟨rfl,by omega⟩
    ·exfalso
     have h6:(y.toNat - 48+1) * p ≤ (x.toNat - 48) * p:=Nat.mul_le_mul_right _ (by omega)
     rw [Nat.add_mul] at h6
     omega
theorem vl_congr {f g:Nat → Nat} {a b:Nat} (k:Nat) (h:∀ i,i < k → f (a+i)=g (b+i)):vl f a k=vl g b k:=by
 induction k with
 | zero=>rfl
 | succ k ih=>rw [vl,vl,ih fun i hi=>h i (by omega),h k (by omega)]
theorem vl_take (s:ByteArray) (k:Nat) (hk:k ≤ s.size):vl (bn s) 0 k=vF (s.data.toList.take k):=by
 induction k with
 | zero=>simp [vl,vF]
 | succ k ih =>
  have h1:k < s.data.toList.length:=by rw [Array.length_toList];exact hk
  rw [vl,ih (by omega),List.take_add_one,List.getElem?_eq_getElem h1]
  show _=vF (_ ++ [_])
  rw [vF_snoc,Nat.zero_add]
  congr 2
  rw [← bn_data,List.getD_eq_getElem?_getD,List.getElem?_eq_getElem h1]
  rfl
theorem vl_all (s:ByteArray):vl (bn s) 0 s.size=vF s.data.toList:=by
 rw [vl_take s s.size (Nat.le_refl _),List.take_of_length_le (by rw [Array.length_toList];exact Nat.le_refl _)]
theorem dig_all (s:ByteArray) (h:∀ i,i < s.size → dig (bn s i)=true):∀ c ∈ s.data.toList,dig c.toNat=true:=by
 intro c hc
 obtain ⟨i,hi,rfl⟩:=List.mem_iff_getElem.1 hc
 have h1:i < s.size:=by rw [Array.length_toList] at hi;exact hi
 have:=h i h1
 rw [← bn_data,List.getD_eq_getElem?_getD,List.getElem?_eq_getElem hi] at this
 exact this
def lessB (a b:ByteArray):Bool:=if a.size=b.size then Op.bytesLess a.toList b.toList else decide (a.size < b.size)
theorem lessB_iff (L s:ByteArray) (hL:L.size=19) (hLd:∀ c ∈ L.data.toList,dig c.toNat=true) (hv:vF L.data.toList < 10 ^ 19) (hv2:10 ^ 18 ≤ vF L.data.toList) (hs:0 < s.size) (hd:∀ i,i < s.size → dig (bn s i)=true) (h0:bn s 0=48 → s.size=1) :
  lessB L s=decide (vF L.data.toList < vl (bn s) 0 s.size):=by
 unfold lessB
 by_cases e:L.size=s.size
 ·rw [if_pos e,ByteArray.toList_eq,ByteArray.toList_eq,less_vF _ _ (by rw [Array.length_toList,Array.length_toList];exact e) hLd (dig_all s hd),vl_all]
 ·rw [if_neg e,hL]
  apply decide_eq_decide.2
  have h1:=vl_lt (bn s) 0 s.size (fun i hi=>by rw [Nat.zero_add];exact hd i hi)
  constructor
  ·intro h
   have h2:49 ≤ bn s 0:=by
    have h3:=hd 0 hs
    simp only [dig,Bool.and_eq_true,decide_eq_true_eq] at h3
    by_cases h4:bn s 0=48
    ·have:=h0 h4;omega
    ·omega
   have h3:=vl_ge (bn s) 0 19 h2 (fun i hi=>by rw [Nat.zero_add];exact hd i (by omega))
   have h4:=vl_mono (bn s) 0 (show 19+1 ≤ s.size by omega)
   omega
  ·intro h
   rw [hL] at e
   by_cases h2:s.size < 19
   ·have h3:10 ^ s.size ≤ 10 ^ 18:=Nat.pow_le_pow_right (by decide) (by omega)
    omega
   ·omega
end Dec
end Go.Proofs.YtgklmpooonnmiaaGreatDoor

namespace Go.Proofs.YtgklmpooonnmiaaGreatDoor
open Go.RowKit
set_option maxHeartbeats 4000000 in
set_option maxRecDepth 100000 in
theorem ref_form0 (w:World) (s:ByteArray) (hs:s.size ≤ maxLen) (hm:0 < s.size → ¬ bn s 0=45) :
  Calls Tryz.prog 81 #[.string s] w fun e w'=>e=.returned (.bool (Dec.form (bn s) s.size)) ∧ w=w':=by
 unfold maxLen at hs
 obtain ⟨c0,hc0⟩:∃ c0,bn s 0=c0:=⟨_,rfl⟩
 have hsg:Dec.sgn (bn s) s.size=0:=by unfold Dec.sgn;rw [if_neg (fun h=>hm h.1 h.2)]
 obtain ⟨b,hb⟩:∃ b,b=(decide (s.size=1) || (decide (1 < s.size) && !decide (c0=48))):=⟨_,rfl⟩
 have HB:Hid ((∀ i,i < s.size → Dec.dig (bn s i)=true) → Dec.form (bn s) s.size=b):=fun h=>by
  rw [hb,Bool.eq_iff_iff]
  by_cases h0:s.size=0
  ·simp [h0,Dec.form]
  ·rw [Dec.form_iff _ _ (by omega),hsg,hc0]
   simp only [Bool.or_eq_true,Bool.and_eq_true,decide_eq_true_eq,Bool.not_eq_true',decide_eq_false_iff_not]
   constructor
   ·rintro ⟨h1,h2,h3⟩
    by_cases e:s.size=1
    ·exact Or.inl e
    ·exact Or.inr ⟨by omega,fun h4=>e (h2 h4).1⟩
   ·intro h1
    exact ⟨by omega,fun h4=>⟨by rcases h1 with h1 | h1;exact h1;exact absurd h4 h1.2,trivial⟩,fun i _ h5=>h i h5⟩
 have HN:Hid (∀ i,i < s.size → Dec.dig (bn s i)=false → Dec.form (bn s) s.size=false):=fun i hi hd=>by
  rw [← Bool.not_eq_true]
  intro h
  have:=((Dec.form_iff _ _ (by omega)).1 h).2.2 i (by rw [hsg];omega) hi
  rw [hd] at this;cases this
 have HCASE:(¬ (s.size:Int) > 0 ∧ ((s.size:Int) == 1)=false ∧ ¬ (s.size:Int) > 1 ∧ b=false) ∨
   ((s.size:Int) > 0 ∧ ((c0:Int) == 45)=false ∧ ((s.size:Int) == 1)=true ∧ b=true) ∨
   ((s.size:Int) > 0 ∧ ((c0:Int) == 45)=false ∧ ((s.size:Int) == 1)=false ∧ (s.size:Int) > 1 ∧ (((c0:Int) == 48)=true ∧ ((c0:Int) != 48)=false) ∧ b=false) ∨
   ((s.size:Int) > 0 ∧ ((c0:Int) == 45)=false ∧ ((s.size:Int) == 1)=false ∧ (s.size:Int) > 1 ∧ (((c0:Int) == 48)=false ∧ ((c0:Int) != 48)=true) ∧ b=true):=by
  by_cases h0:s.size=0
  ·exact Or.inl ⟨by omega,by simp [h0],by omega,by simp [hb,h0]⟩
  ·have h45:¬ c0=45:=fun h=>hm (by omega) (hc0.trans h)
   have e45:((c0:Int) == 45)=false:=beq_eq_false_iff_ne.2 (by omega)
   by_cases h1:s.size=1
   ·exact Or.inr (Or.inl ⟨by omega,e45,by simp [h1],by simp [hb,h1]⟩)
   ·by_cases h48:c0=48
    ·exact Or.inr (Or.inr (Or.inl ⟨by omega,e45,beq_eq_false_iff_ne.2 (by omega),by omega,⟨by simp [h48],by simp [h48]⟩,by simp [hb,h1,h48]⟩))
    ·exact Or.inr (Or.inr (Or.inr ⟨by omega,e45,beq_eq_false_iff_ne.2 (by omega),by omega,⟨beq_eq_false_iff_ne.2 (by omega),bne_iff_ne.2 (by omega)⟩,by simp [hb,h48];omega⟩))
 have hz0:∀ h:0 < s.size,(s[0]'h).toNat=c0:=fun h=>by rw [← hc0];exact bn_at s 0 h
 have HC0:=Lib.hid hc0
 have hbn:=Lib.hid (bn_at s)
 clear hb hc0 hm hsg
 rcases HCASE with ⟨p1,p2,p3,hbv⟩ | ⟨p1,p2,p3,hbv⟩ | ⟨p1,p2,p3,p4,⟨p5,p6⟩,hbv⟩ | ⟨p1,p2,p3,p4,⟨p5,p6⟩,hbv⟩
 all_goals
  have HBV:=Lib.hid hbv
  clear hbv
  go_enter Tryz.func81,Tryz.ntmps81
  go_wp2_with fail
  go_loop [3] (fun t=>∃ k:Nat,k ≤ s.size ∧ t=.int .i64 k ∧ Hid (∀ i,i < k → Dec.dig (bn s i)=true)) (fun t=>s.size - (intOf t).toNat)
  case atStart=>exact ⟨0,by omega,rfl,fun i hi=>by omega⟩
  case round =>
   obtain ⟨k,hk,rfl,HD⟩:=hrel
   by_cases hlt:k < s.size
   ·have hlt':(k:Int) < (s.size:Int):=by omega
    have hzk:=hbn.out k hlt
    obtain ⟨c,hc⟩:∃ c,Hid (bn s k=c):=⟨_,rfl⟩
    rw [hc.out] at hzk
    by_cases h1:c < 48
    ·have h1':(c:Int) < 48:=by omega
     have HX:Hid (Dec.form (bn s) s.size=false):=HN.out k hlt (by rw [hc.out];simp [Dec.dig];omega)
     go_wp2_with fail
     go_ret
     rw [HX.out]
     exact ⟨rfl,rfl⟩
    ·have h1':¬ (c:Int) < 48:=by omega
     by_cases h2:57 < c
     ·have h2':(c:Int) > 57:=by omega
      have HX:Hid (Dec.form (bn s) s.size=false):=HN.out k hlt (by rw [hc.out];simp [Dec.dig];omega)
      go_wp2_with fail
      go_ret
      rw [HX.out]
      exact ⟨rfl,rfl⟩
     ·have h2':¬ (c:Int) > 57:=by omega
      have HD2:Hid (∀ i,i < k+1 → Dec.dig (bn s i)=true):=fun i hi=>by
       by_cases e:i=k
       ·rw [e,hc.out];simp [Dec.dig];omega
       ·exact HD.out i (by omega)
      go_wp2_with fail
      go_round
      case rel=>exact ⟨k+1,by omega,by go_num,HD2⟩
      case measure=>simp [intOf];omega
   ·obtain rfl:k=s.size:=by omega
    have HX:Hid (Dec.form (bn s) s.size=b):=HB.out HD.out
    go_wp2_with fail
    go_ret
    rw [HX.out,HBV.out]
    exact ⟨rfl,rfl⟩
set_option maxHeartbeats 4000000 in
set_option maxRecDepth 100000 in
theorem ref_form (w:World) (s:ByteArray) (hs:s.size ≤ maxLen) :
  Calls Tryz.prog 81 #[.string s] w fun e w'=>e=.returned (.bool (Dec.form (bn s) s.size)) ∧ w=w':=by
 by_cases hm:0 < s.size ∧ bn s 0=45
 case neg=>exact ref_form0 w s hs (fun h1 h2=>hm ⟨h1,h2⟩)
 have hs2:=hs
 unfold maxLen at hs
 obtain ⟨h0,h45⟩:=hm
 have hsg:Dec.sgn (bn s) s.size=1:=by unfold Dec.sgn;rw [if_pos ⟨h0,h45⟩]
 have p1:(s.size:Int) > 0:=by omega
 have p2:((45:Int) == 45)=true:=rfl
 have hz0:(s[0]'h0).toNat=45:=by rw [bn_at s 0 h0];exact h45
 by_cases h1:s.size=1
 ·have p3:¬ (s.size:Int) > 1:=by omega
  have HX:Hid (Dec.form (bn s) s.size=false):=by
   show _=_
   rw [← Bool.not_eq_true]
   intro h
   have:=((Dec.form_iff _ _ h0).1 h).1
   omega
  clear h45 hsg h1
  go_enter Tryz.func81,Tryz.ntmps81
  go_wp2_with fail
  go_ret
  rw [HX.out]
  exact ⟨rfl,rfl⟩
 have p3:(s.size:Int) > 1:=by omega
 have h1':1 < s.size:=by omega
 have hz1:(s[1]'h1').toNat=bn s 1:=bn_at s 1 h1'
 obtain ⟨c1,hc1⟩:∃ c1,bn s 1=c1:=⟨_,rfl⟩
 rw [hc1] at hz1
 have HF:Hid (∀ b:Bool,(b=true ↔ c1 ≠ 48 ∧ ∀ i,1 ≤ i → i < s.size → Dec.dig (bn s i)=true) → Dec.form (bn s) s.size=b):=fun b h=>by
  rw [Bool.eq_iff_iff,h,Dec.form_iff _ _ h0,hsg,hc1]
  constructor
  ·rintro ⟨_,h3,h4⟩
   exact ⟨fun h5=>by have:=(h3 h5).2;omega,h4⟩
  ·rintro ⟨h3,h4⟩
   exact ⟨h1',fun h5=>absurd h5 h3,h4⟩
 by_cases h48:c1=48
 ·have p4:((c1:Int) == 48)=true:=by simp [h48]
  have p4':((c1:Int) != 48)=false:=by simp [h48]
  have HX:Hid (Dec.form (bn s) s.size=false):=HF.out false (by simp [h48])
  clear h45 hsg h1 hc1 h48
  go_enter Tryz.func81,Tryz.ntmps81
  go_wp2_with fail
  go_ret
  rw [HX.out]
  exact ⟨rfl,rfl⟩
 have p4:((c1:Int) == 48)=false:=beq_eq_false_iff_ne.2 (by omega)
 have p4':((c1:Int) != 48)=true:=bne_iff_ne.2 (by omega)
 by_cases hc45:c1=45
 ·have p5:((c1:Int) == 45)=true:=by simp [hc45]
  have p5':((c1:Int) != 45)=false:=by simp [hc45]
  have HX:Hid (Dec.form (bn s) s.size=false):=HF.out false (by
   simp only [Bool.false_eq_true,false_iff]
   rintro ⟨_,h⟩
   have:=h 1 (Nat.le_refl _) h1'
   rw [hc1,hc45] at this
   simp [Dec.dig] at this)
  clear h45 hsg h1 hc1 h48 hc45
  go_enter Tryz.func81,Tryz.ntmps81
  go_wp2_with fail
  go_ret
  rw [HX.out]
  exact ⟨rfl,rfl⟩
 have p5:((c1:Int) == 45)=false:=beq_eq_false_iff_ne.2 (by omega)
 have p5':((c1:Int) != 45)=true:=bne_iff_ne.2 (by omega)
 obtain ⟨T,hT⟩:∃ T,s.extract 1 s.size=T:=⟨_,rfl⟩
 have hTs:T.size=s.size - 1:=by rw [← hT];simp
 have hTb:∀ i,i < s.size - 1 → bn T i=bn s (1+i):=fun i hi=>by rw [← hT];exact bn_ext s 1 s.size i (Nat.le_refl _) hi
 have HT0:Hid (∀ W,Calls Tryz.prog 81 #[.string T] W fun e w'=>e=.returned (.bool (Dec.form (bn T) T.size)) ∧ W=w'):=fun W =>
  ref_form0 W T (by unfold maxLen;omega) (fun _ h=>by rw [hTb 0 (by omega)] at h;exact hc45 (hc1.symm.trans h))
 have HX:Hid (Dec.form (bn s) s.size=Dec.form (bn T) T.size):=HF.out _ (by
  have hsT:Dec.sgn (bn T) T.size=0:=by unfold Dec.sgn;rw [if_neg];rintro ⟨_,h⟩;rw [hTb 0 (by omega)] at h;exact hc45 (hc1.symm.trans h)
  rw [Dec.form_iff _ _ (by omega),hsT,hTb 0 (by omega),hc1]
  constructor
  ·rintro ⟨_,h3,h4⟩
   refine ⟨h48,fun i hi hi2=>?_⟩
   have:=h4 (i - 1) (by omega) (by omega)
   rw [hTb _ (by omega),show 1+(i - 1)=i by omega] at this
   exact this
  ·rintro ⟨h3,h4⟩
   refine ⟨by omega,fun h5=>absurd h5 h48,fun i _ hi2=>?_⟩
   rw [hTb _ (by omega)]
   exact h4 (1+i) (by omega) (by omega))
 obtain ⟨b,hb⟩:∃ b,Hid (Dec.form (bn T) T.size=b):=⟨_,rfl⟩
 have p6:(1:Int) ≤ (s.size:Int):=by omega
 simp only [hb.out] at HT0
 rw [hb.out] at HX
 have HTS:=Lib.hid hTs
 clear h45 hsg h1 hc1 h48 hc45 hTs hTb
 go_enter Tryz.func81,Tryz.ntmps81
 go_wp2_with fail
 refine (HT0.out _).mono ?_
 rintro e w' ⟨rfl,rfl⟩
 go_wp2_with fail
 go_ret
 rw [HX.out]
 exact ⟨rfl,rfl⟩
theorem ref_less (w:World) (a b:ByteArray) :
  Calls Tryz.prog 82 #[.string a,.string b] w fun e w'=>e=.returned (.bool (Dec.lessB a b)) ∧ w=w':=by
 by_cases h:a.size=b.size
 ·have HX:Hid (Dec.lessB a b=Op.bytesLess a.toList b.toList):=by show _=_;unfold Dec.lessB;rw [if_pos h]
  have h1:((a.size:Int) == (b.size:Int))=true:=beq_iff_eq.2 (by omega)
  have h2:(a.size == b.size)=true:=beq_iff_eq.2 h
  clear h
  go_enter Tryz.func82,Tryz.ntmps82
  go_wp2_with fail
  go_ret
  rw [HX.out]
  exact ⟨rfl,rfl⟩
 ·have HX:Hid (Dec.lessB a b=decide (a.size < b.size)):=by show _=_;unfold Dec.lessB;rw [if_neg h]
  have h1:((a.size:Int) == (b.size:Int))=false:=beq_eq_false_iff_ne.2 (by omega)
  have h2:(a.size == b.size)=false:=beq_eq_false_iff_ne.2 h
  clear h
  go_enter Tryz.func82,Tryz.ntmps82
  go_wp2_with fail
  go_ret
  rw [HX.out]
  refine ⟨?_,rfl⟩
  first | rfl | simp
end Go.Proofs.YtgklmpooonnmiaaGreatDoor

namespace Go.Proofs.YtgklmpooonnmiaaGreatDoor
open Go.RowKit
set_option maxHeartbeats 4000000 in
set_option maxRecDepth 100000 in
theorem ref_lead (w:World) (s:ByteArray) (hs:s.size ≤ 1000000000) :
  Calls Tryz.prog 51 #[.string s] w fun e w'=>e=.returned (.int .i64 (Dec.lead (bn s) s.size:Nat)) ∧ w=w':=by
 have hbn:=Lib.hid (bn_at s)
 go_enter Tryz.func51,Tryz.ntmps51
 go_wp2_with fail
 go_loop [3,4] (fun b t=>∃ k:Nat,k ≤ s.size ∧ t=.int .i64 (k+1:Nat) ∧ b=.int .i64 (Dec.best (bn s) k:Nat) ∧ Hid (∀ i,1 ≤ i → i < k → Dec.dig (bn s i)=true)) (fun _ t=>s.size+1 - (intOf t).toNat)
 case atStart=>exact ⟨0,by omega,rfl,rfl,fun i hi=>by omega⟩
 case round =>
  obtain ⟨k,hk,rfl,rfl,HD⟩:=hrel
  have hcast:((k+1:Nat):Int)=(k:Int)+1:=by omega
  simp only [hcast]
  clear hcast
  by_cases hlt:k < s.size
  ·have hlt':(k:Int)+1 ≤ (s.size:Int):=by omega
   obtain ⟨B,hB⟩:∃ B,Hid (Dec.best (bn s) k=B):=⟨_,rfl⟩
   rw [hB.out]
   obtain ⟨T,hT⟩:∃ T,s.extract 0 (k+1)=T:=⟨_,rfl⟩
   have hTs:T.size=k+1:=by rw [← hT];simp;omega
   have hTf:Dec.form (bn T) T.size=Dec.form (bn s) (k+1):=by
    rw [hTs]
    refine Dec.form_congr fun i hi=>?_
    have:=bn_ext s 0 (k+1) i (by omega) (by omega)
    rw [hT,Nat.zero_add] at this
    exact this
   have HFM:Hid (∀ W,Calls Tryz.prog 81 #[.string T] W fun e w'=>e=.returned (.bool (Dec.form (bn s) (k+1))) ∧ W=w'):=fun W=>by
    rw [← hTf];exact ref_form W T (by unfold maxLen;omega)
   have t1:((k:Int)+1).toNat=k+1:=by omega
   have hTT:=Lib.hid hT
   have hex:s.extract 0 (k+1)=T:=hT
   clear hTf hT hTs
   by_cases hk0:k=0
   ·subst hk0
    have HBN:Hid (Dec.best (bn s) (0+1)=if Dec.form (bn s) (0+1)=true then 0+1 else B):=by show _=_;rw [Dec.best,hB.out]
    obtain ⟨b,hb⟩:∃ b,Hid (Dec.form (bn s) (0+1)=b):=⟨_,rfl⟩
    simp only [hb.out] at HFM
    rw [hb.out] at HBN
    have HD2:Hid (∀ i,1 ≤ i → i < 0+1 → Dec.dig (bn s i)=true):=fun i h1 h2=>by omega
    cases b
    all_goals
     go_wp2_with fail
     refine (HFM.out _).mono ?_
     rintro e w' ⟨rfl,rfl⟩
     go_wp2_with fail
     go_round
     case rel=>exact ⟨0+1,by omega,by first | rfl | go_num,by rw [HBN.out];first | rfl | simp,HD2⟩
     case measure=>simp [intOf];omega
   ·have hzk:=hbn.out k hlt
    obtain ⟨c,hc⟩:∃ c,Hid (bn s k=c):=⟨_,rfl⟩
    rw [hc.out] at hzk
    have g1:(k:Int)+1 > 1:=by omega
    have g0:0 ≤ (k:Int):=by omega
    have g2:(k:Int) < (s.size:Int):=by omega
    have HE:Hid (Dec.dig c=false → B=Dec.lead (bn s) s.size):=fun h=>by
     rw [← hB.out]
     exact Dec.best_lead _ _ k hk HD.out (Or.inr ⟨by omega,by rw [hc.out];exact h⟩)
    by_cases h1:c < 48
    ·have h1':(c:Int) < 48:=by omega
     have HX:Hid (B=Dec.lead (bn s) s.size):=HE.out (by simp [Dec.dig];omega)
     go_wp2_with fail
     go_ret
     rw [HX.out]
     exact ⟨rfl,rfl⟩
    ·have h1':¬ (c:Int) < 48:=by omega
     by_cases h2:57 < c
     ·have h2':(c:Int) > 57:=by omega
      have HX:Hid (B=Dec.lead (bn s) s.size):=HE.out (by simp [Dec.dig];omega)
      go_wp2_with fail
      go_ret
      rw [HX.out]
      exact ⟨rfl,rfl⟩
     ·have h2':¬ (c:Int) > 57:=by omega
      have HD2:Hid (∀ i,1 ≤ i → i < k+1 → Dec.dig (bn s i)=true):=fun i hi1 hi=>by
       by_cases e:i=k
       ·rw [e,hc.out];simp [Dec.dig];omega
       ·exact HD.out i hi1 (by omega)
      have HBN:Hid (Dec.best (bn s) (k+1)=if Dec.form (bn s) (k+1)=true then k+1 else B):=by show _=_;rw [Dec.best,hB.out]
      obtain ⟨b,hb⟩:∃ b,Hid (Dec.form (bn s) (k+1)=b):=⟨_,rfl⟩
      simp only [hb.out] at HFM
      rw [hb.out] at HBN
      cases b
      all_goals
       go_wp2_with fail
       refine (HFM.out _).mono ?_
       rintro e w' ⟨rfl,rfl⟩
       go_wp2_with fail
       go_round
       case rel=>exact ⟨k+1,by omega,by go_num,by rw [HBN.out];first | rfl | go_num,HD2⟩
       case measure=>simp [intOf];omega
  ·obtain rfl:k=s.size:=by omega
   have hlt':¬ (s.size:Int)+1 ≤ (s.size:Int):=by omega
   have HX:Hid (Dec.best (bn s) s.size=Dec.lead (bn s) s.size):=Dec.best_lead _ _ _ (Nat.le_refl _) HD.out (Or.inl rfl)
   go_wp2_with fail
   go_ret
   rw [HX.out]
   exact ⟨rfl,rfl⟩
end Go.Proofs.YtgklmpooonnmiaaGreatDoor
