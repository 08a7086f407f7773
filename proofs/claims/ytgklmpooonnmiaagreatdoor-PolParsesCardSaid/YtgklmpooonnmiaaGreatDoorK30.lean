/-
  Lemmas and contracts that the proofs over this seat use (PolWriteQ, PolQuoted, PolRight2); no statement of the seat is claimed in this text, and nothing is assumed in it.
-/
import Derived.Test.YtgklmpooonnmiaaGreatDoorK29
import Derived.Test.YtgklmpooonnmiaaGreatDoorK1
import Derived.Test.YtgklmpooonnmiaaGreatDoorK2
import Derived.Test.YtgklmpooonnmiaaGreatDoorK9
import Derived.Test.YtgklmpooonnmiaaGreatDoorK6
import Derived.Deep.RegionHeld3
import Derived.RegionTactic
import Derived.ChangeAlike
import Derived.Deep.CutRange
set_option linter.unusedVariables false
set_option linter.unusedSimpArgs false
namespace Go.Proofs.YtgklmpooonnmiaaGreatDoor
open Go.RowKit
theorem Ex.ins_mono (r:List Ex) (j:Nat):∀ k,j ≤ k → k ≤ r.length → (Ex.ins (r.take j)).length ≤ (Ex.ins (r.take k)).length:=by
 intro k
 induction k with
 | zero =>
  intro h _
  have e:j=0:=by omega
  subst e
  exact Nat.le_refl _
 | succ k ih =>
  intro h hk
  by_cases e:j=k+1
  ·rw [e];exact Nat.le_refl _
  ·have h1:=ih (by omega) (by omega)
   rw [Ex.ins_take (List.getElem?_eq_getElem (show k < r.length by omega)),List.length_append]
   omega
def insSign (k:Nat):ByteArray:=if k=0 then ⟨#[32,105,110,32,91]⟩ else ⟨#[44,32]⟩
theorem insSign_size (k:Nat):(insSign k).size ≤ 5:=by unfold insSign;split <;> decide
theorem insSign_nats (k:Nat):nats (insSign k)=if k=0 then [32,105,110,32,91] else [44,32]:=by unfold insSign;split <;> rfl
set_option maxHeartbeats 1000000 in
set_option maxRecDepth 100000 in
theorem write_13 (w0 W:World) (b:Nat) (adE ad:Addr) (op:Int) (s:ByteArray) (n p:Int) (q:Option Addr) (x:Ex) (r L:List Ex) (c:Nat) (D:List Nat) (asked:Int)
  (h5:Five w0 adE [.int .i64 op,.string s,.int .i64 n,.slice q L.length c,.int .i64 p]) (hW:Below w0.heap.size w0 W) (hB:Bld w0.heap.size b D W) (hl:¬ Pol.level op < asked)
  (hop:op=13) (hL:L=x :: r) (hr:1 ≤ r.length) (hc:L.length ≤ c) (hm:c ≤ maxLen) (hq:q=some ad) (h0:Writes w0 b x ad) (hy:∀ i y,r[i]?=some y → Writes w0 b y (ad.add ((i+1) * 5))) (hlen:D.length+(Ex.body op s n L).length < 1000000000) :
  Calls Tryz.prog 30 #[.pointer (some ⟨b,0,none⟩),.pointer (some adE),.int .i64 asked] W fun e w'=>e=.returned (.tuple #[]) ∧ Bld w0.heap.size b (D ++ Ex.body op s n L) w' ∧ Below w0.heap.size W w' ∧ BFr b W w':=by
 obtain ⟨v0,v1,v2,v3,v4,hv,a0,a1,a2,a3,a4⟩:=h5
 simp only [List.cons.injEq,and_true] at hv
 obtain ⟨rfl,rfl,rfl,rfl,rfl⟩:=hv
 have HW:=Lib.hid hW
 have HB:=Lib.hid hB
 clear hW hB
 subst hop
 subst hq
 have HE:Hid (Ex.body 13 s n L=Ex.text x 5 ++ (Ex.ins r ++ [93])):=by
  show _=_
  rw [hL]
  cases r with
  | nil=>simp at hr
  | cons y r=>exact Ex.body_in s n x y r
 have h2:D.length+(Ex.text x 5).length+(Ex.ins r).length+1 < 1000000000:=by rw [HE.out,List.length_append,List.length_append] at hlen;simp only [List.length_cons,List.length_nil] at hlen;omega
 have hLl:L.length=r.length+1:=by rw [hL];rfl
 have A3:=Lib.hid a3
 have H0:=Lib.hid h0
 have HY:=Lib.hid hy
 have HLEN:=Lib.hid h2
 have HLL:=Lib.hid hLl
 have k0:0 < L.length:=by omega
 have k1:(1:Int) ≤ (L.length:Int):=by omega
 have k2:L.length ≤ c:=hc
 have k3:c ≤ 9223372036854775807:=by unfold maxLen at hm;omega
 have k4:¬ c=1:=by omega
 clear hlen a1 a2 a3 a4 h0 h2 hy hLl hm hL hr hc
 have e0:=(Fr.of_below HW.out).cells a0
 have hbl:=World.block_lt_of_cell? W _ e0
 go_enter Tryz.func30,Tryz.ntmps30
 go_wp2_with fail
 refine calls_fresh (fun V=>WSt w0 W b W.heap.size (W.heap.size+1) adE D V) (WSt.start HW.out HB.out) ?_
 intro V hV
 have H:=Lib.hid hV
 have c1:=hV.c1
 have c2:=hV.c2
 clear e0 hbl
 have e0:=(Fr.of_below hV.w0V).cells a0
 clear hV
 refine (pol_level _ _).mono ?_
 rintro e w1 ⟨rfl,rfl⟩
 have e3:=(Fr.of_below H.out.w0V).cells A3.out
 go_wp2_with fail
 go_still_tail 6,(by kernel_rfl)
 go_wp2_with fail
 have H:=Lib.hid (H.out.fr (Fr.refl [] V).drew)
 have h1:D.length+(Ex.text x 5).length < 1000000000:=by have:=HLEN.out;omega
 have HC:=H0.out _ _ 5 H.out.w0V H.out.bl h1
 clear h1
 refine HC.mono ?_
 rintro e w1 ⟨rfl,hbl,hbw,hbf⟩
 have H:=Lib.hid (H.out.step hbl hbw hbf)
 clear HC hbl hbw hbf c1 c2 e0 e3 H0
 have c1:=H.out.c1
 have c2:=H.out.c2
 have e3:=(Fr.of_below H.out.w0V).cells A3.out
 go_wp2_with fail
 go_loopg [8,9,120] r.length (fun m s8 s9 s120 Wx=>∃ (k:Nat) (S:ByteArray),k ≤ r.length ∧ m=r.length - k ∧ s120=.int .i64 k ∧ s8=.string S ∧ Hid (S=insSign k) ∧ Hid (WSt w0 W b W.heap.size (W.heap.size+1) adE (D ++ (Ex.text x 5 ++ Ex.ins (r.take k))) Wx))
 case atStart=>exact ⟨0,insSign 0,by omega,by omega,rfl,rfl,rfl,by
  have h:=H.out
  show WSt _ _ _ _ _ _ _ _
  rw [List.take_zero,Ex.ins,List.append_nil]
  exact h⟩
 case round =>
  obtain ⟨k,S,hk,hm,rfl,rfl,HS,H⟩:=hrel
  have HM:=Lib.hid hm
  have c1:=H.out.c1
  have c2:=H.out.c2
  have e3:=(Fr.of_below H.out.w0V).cells A3.out
  clear hm
  by_cases hlt:k < r.length
  ·have hlt':(k:Int) < ((L.length - 1:Nat):Int):=by have:=HLL.out;omega
   obtain ⟨y,hx⟩:∃ y,r[k]?=some y:=⟨_,List.getElem?_eq_getElem hlt⟩
   have HW':=Lib.hid (HY.out k y hx)
   have HT:=Lib.hid (Ex.ins_take hx)
   have HMO:=Lib.hid (Ex.ins_mono r (k+1) r.length (by omega) (Nat.le_refl _))
   have HZ:Hid (S.size ≤ 5):=by show S.size ≤ 5;rw [HS.out];exact insSign_size k
   have i0:(0:Int) ≤ 1+(k:Int):=by omega
   have i1:1+(k:Int) < (L.length:Int):=by have:=HLL.out;omega
   have i2:(1+(k:Int)).toNat=k+1:=by omega
   have i3:IntKind.i64.wrap (1+(k:Int))=1+(k:Int):=IntWalk.i64_in _ (by omega)
   have HZS:Hid (H.out.size=H.out.size):=rfl
   clear hx HZS
   go_wp2_with fail
   have HSZ:=Lib.hid H.out.size
   have hLN:(Ex.ins (r.take (k+1))).length=(Ex.ins (r.take k)).length+S.size+(Ex.text y 5).length:=by
    rw [HT.out,List.length_append,List.length_append,HS.out,← nats_length,insSign_nats];omega
   have hLM:(Ex.ins (r.take (k+1))).length ≤ (Ex.ins r).length:=by have:=HMO.out;rwa [List.take_length] at this
   have hLE:=HLEN.out
   have h1:(D ++ (Ex.text x 5 ++ Ex.ins (r.take k))).length+S.size < 1000000000:=by
    rw [List.length_append,List.length_append];omega
   have h3:(D ++ (Ex.text x 5 ++ Ex.ins (r.take k)) ++ nats S).length+(Ex.text y 5).length < 1000000000:=by
    rw [List.length_append,nats_length,List.length_append,List.length_append];omega
   have H3:=Lib.hid h3
   have HC:=bld_strF w0.heap.size b _ S _ H.out.bl h1 HSZ.out
   clear h1 h3 hLN hLM hLE
   refine HC.mono ?_
   rintro e w2 ⟨rfl,hbl,hbw,hbf⟩
   have H:=Lib.hid (H.out.step hbl hbw hbf)
   clear HC hbl hbw hbf c1 c2 e3
   have c1:=H.out.c1
   have c2:=H.out.c2
   have e3:=(Fr.of_below H.out.w0V).cells A3.out
   go_wp2_with fail
   go_still_tail 8,(by kernel_rfl)
   go_wp2_with fail
   have H:=Lib.hid (H.out.fr (Fr.refl [] w2).drew)
   have HC:=HW'.out _ _ 5 H.out.w0V H.out.bl H3.out
   refine HC.mono ?_
   rintro e w3 ⟨rfl,hbl,hbw,hbf⟩
   have H:=Lib.hid (H.out.step hbl hbw hbf)
   clear HC hbl hbw hbf c1 c2 e3
   go_wp2_with fail
   go_roundg (r.length - (k+1))
   case measure=>have:=HM.out;omega
   case rel=>exact ⟨k+1,⟨#[44,32]⟩,by omega,rfl,by go_num,rfl,by show _=insSign (k+1);rw [insSign,if_neg (by omega)],by
    have h:=H.out
    show WSt _ _ _ _ _ _ _ _
    rw [HT.out,← insSign_nats,← HS.out]
    simp only [List.append_assoc] at h ⊢
    exact h⟩
  ·have hlt':¬ (k:Int) < ((L.length - 1:Nat):Int):=by have:=HLL.out;omega
   have hke:k=r.length:=by omega
   go_wp2_with fail
   have HSZ:=Lib.hid H.out.size
   have h1:(D ++ (Ex.text x 5 ++ Ex.ins (r.take k))).length < 1000000000:=by
    rw [List.length_append,List.length_append,hke,List.take_length];have:=HLEN.out;omega
   have HC:=bld_byteF w0.heap.size b _ 93 _ H.out.bl h1 HSZ.out
   clear h1
   refine HC.mono ?_
   rintro e w2 ⟨rfl,hbl,hbw,hbf⟩
   have H:=Lib.hid (H.out.step hbl hbw hbf)
   clear HC hbl hbw hbf c1 c2 e3
   go_wp2_with fail
   go_end0
   refine ⟨rfl,?_,H.out.bw,H.out.bf⟩
   rw [HE.out]
   have h:=H.out.bl
   rw [hke,List.take_length] at h
   simp only [List.append_assoc] at h
   exact h
end Go.Proofs.YtgklmpooonnmiaaGreatDoor

namespace Go.Proofs.YtgklmpooonnmiaaGreatDoor
open Go.RowKit
set_option maxHeartbeats 4000000 in
set_option maxRecDepth 100000 in
theorem pol_quoted (w:World) (s:ByteArray) (hs:s.size ≤ 100000000) (hL:Least w):Calls Tryz.prog 36 #[.string s] w fun e w'=>e=.returned (.bool (Lex.quote s).isSome) ∧ Fr [] w w':=by
 have HQ:=Lib.hid (lex_quote w s hs hL)
 clear hL
 go_enter Tryz.func36,Tryz.ntmps36
 go_wp2_with fail
 refine HQ.out.mono ?_
 rintro e w1 ⟨rfl,hF⟩
 have HF:=Lib.hid hF
 clear hF
 show _
 go_wp2_with fail
 refine bodyPost_ret (results_tmp rfl _ _ _) rfl ?_
 exact ⟨rfl,HF.out⟩
end Go.Proofs.YtgklmpooonnmiaaGreatDoor

namespace Go.Proofs.YtgklmpooonnmiaaGreatDoor
open Go.RowKit
def Ex.head (op:Int) (s:ByteArray) (n:Int) (k:Nat):Bool :=
 if op=1 then (n == 0 || n == 1) && s.toList == [] && k == 0
 else if op=2 then decide (-9007199254740991 ≤ n) && decide (n ≤ 9007199254740991) && s.toList == [] && k == 0
 else if op=3 ∨ op=5 then n == 0 && (Lex.quote s).isSome && k == 0
 else if op=4 then n == 0 && ((Lex.spell 1 s 0).toList != [] && !Pol.kept s) && k == 0
 else if op=6 then n == 0 && s.toList == [] && k == 1
 else if (7 ≤ op ∧ op ≤ 12) ∨ op=14 then n == 0 && s.toList == [] && k == 2
 else if op=13 then n == 0 && s.toList == [] && decide (2 ≤ k)
 else false
mutual
def Ex.right:Ex → Nat → Bool
 | .mk op s n L _,deep=>if 200 < deep then false else Ex.head op s n L.length && Ex.rights L (deep+1)
def Ex.rights:List Ex → Nat → Bool
 | [],_=>true
 | x :: r,deep=>Ex.right x deep && Ex.rights r deep
end
theorem Ex.rights_drop {L:List Ex} {k:Nat} {x:Ex} {deep:Nat} (h:L[k]?=some x):Ex.rights (L.drop k) deep=(Ex.right x deep && Ex.rights (L.drop (k+1)) deep):=by
 obtain ⟨h1,rfl⟩:=List.getElem?_eq_some_iff.1 h
 rw [List.drop_eq_getElem_cons h1,Ex.rights]
set_option maxHeartbeats 4000000 in
set_option maxRecDepth 100000 in
theorem right_deep (w:World) (v:Value) (deep:Int) (hd:deep > 200):Calls Tryz.prog 37 #[v,.int .i64 deep] w fun e w'=>e=.returned (.bool false) ∧ Fr [] w w':=by
 go_enter Tryz.func37,Tryz.ntmps37
 go_wp2_with fail
 go_ret
 exact ⟨rfl,Fr.refl _ _⟩
set_option maxHeartbeats 4000000 in
set_option maxRecDepth 100000 in
theorem right_two (w:World) (ad:Addr) (op:Int) (s:ByteArray) (n p:Int) (q:Option Addr) (c:Nat) (f:Nat → List Value) (L:List Ex) (h:LA w q c f L) (deep:Nat) (hd:deep ≤ 200)
  (h5:Five w ad [.int .i64 op,.string s,.int .i64 n,.slice q L.length c,.int .i64 p]) (hop:op=7)
  (hS:∀ (W:World) (i:Nat) (x:Ex) (ae:Addr),Fr [] w W → L[i]?=some x → Five W ae (f i) → Calls Tryz.prog 37 #[.pointer (some ae),.int .i64 ((deep:Int)+1)] W fun e w'=>e=.returned (.bool (Ex.right x (deep+1))) ∧ Fr [] W w') :
  Calls Tryz.prog 37 #[.pointer (some ad),.int .i64 deep] w fun e w'=>e=.returned (.bool (Ex.right (.mk op s n L p) deep)) ∧ Fr [] w w':=by
 obtain ⟨v0,v1,v2,v3,v4,hv,a0,a1,a2,a3,a4⟩:=h5
 simp only [List.cons.injEq,and_true] at hv
 obtain ⟨rfl,rfl,rfl,rfl,rfl⟩:=hv
 have hd':¬ (deep:Int) > 200:=by omega
 subst hop
 have HL:=Lib.hid h
 have HS:=Lib.hid hS
 have A3:=Lib.hid a3
 have hb:L.length ≤ 9223372036854775807:=by have h1:=h.hc;have h2:=h.hm;unfold maxLen at h2;omega
 clear h hS
 go_enter Tryz.func37,Tryz.ntmps37
 cases hn:(n == 0) with
 | false =>
  have HEE:Hid (Ex.right (.mk 7 s n L p) deep=false):=by show _=_;rw [Ex.right,if_neg (by omega),Ex.head];simp [hn]
  go_upto_region 30 with fail
  go_wp2_with fail
  go_region
  go_wp2_with fail
  go_ret
  rw [HEE.out]
  exact ⟨rfl,(Fr.refl [] w).drew⟩
 | true =>
  cases he:s.toList.isEmpty with
  | false =>
   have HEE:Hid (Ex.right (.mk 7 s n L p) deep=false):=by
    show _=_
    rw [Ex.right,if_neg (by omega),Ex.head]
    have h1:(s.toList == [])=false:=by cases hs:s.toList with | nil=>rw [hs] at he;cases he | cons _ _=>rfl
    simp [h1]
   go_upto_region 30 with fail
   go_wp2_with fail
   go_region
   go_wp2_with fail
   go_ret
   rw [HEE.out]
   exact ⟨rfl,(Fr.refl [] w).drew⟩
  | true =>
   by_cases hk1:L.length < 2
   ·have hk1':(L.length:Int) < 2:=by omega
    have HEE:Hid (Ex.right (.mk 7 s n L p) deep=false):=by
     show _=_
     rw [Ex.right,if_neg (by omega),Ex.head]
     have h1:(L.length == 2)=false:=by simp;omega
     simp [h1]
    go_upto_region 30 with fail
    go_wp2_with fail
    go_region
    go_wp2_with fail
    go_ret
    rw [HEE.out]
    exact ⟨rfl,(Fr.refl [] w).drew⟩
   ·by_cases hk2:L.length > 2
    ·have hk2':(L.length:Int) > 2:=by omega
     have hk1':¬ (L.length:Int) < 2:=by omega
     have HEE:Hid (Ex.right (.mk 7 s n L p) deep=false):=by
      show _=_
      rw [Ex.right,if_neg (by omega),Ex.head]
      have h1:(L.length == 2)=false:=by simp;omega
      simp [h1]
     go_upto_region 30 with fail
     go_wp2_with fail
     go_region
     go_wp2_with fail
     go_ret
     rw [HEE.out]
     exact ⟨rfl,(Fr.refl [] w).drew⟩
    ·have hk2':¬ (L.length:Int) > 2:=by omega
     have hk1':¬ (L.length:Int) < 2:=by omega
     have HEE:Hid (Ex.right (.mk 7 s n L p) deep=Ex.rights L (deep+1)):=by
      show _=_
      rw [Ex.right,if_neg (by omega),Ex.head]
      have h1:L.length=2:=by omega
      have h2:s.toList=[]:=by simpa using he
      have h3:n=0:=by simpa using hn
      simp [h1,h2,h3]
     go_upto_region 30 with fail
     go_wp2_with fail
     go_region
     go_wp2_with fail
     go_loopg [9,147] L.length (fun m s9 s147 W=>∃ k:Nat,k ≤ L.length ∧ m=L.length - k ∧ s147=.int .i64 k ∧ Hid (Fr [] w W) ∧ Hid (Ex.rights L (deep+1)=Ex.rights (L.drop k) (deep+1)))
     case atStart=>exact ⟨0,by omega,by omega,rfl,(Fr.refl [] w).drew,rfl⟩
     case round =>
      obtain ⟨k,hk,hm,rfl,HF,HE⟩:=hrel
      have HM:=Lib.hid hm
      clear hm
      by_cases hlt:k < L.length
      ·have hlt':(k:Int) < (L.length:Int):=by omega
       have hk0:(0:Int) ≤ (k:Int):=by omega
       have b3:=HF.out.cells A3.out
       obtain ⟨x,hx⟩:∃ x,L[k]?=some x:=⟨_,List.getElem?_eq_getElem hlt⟩
       obtain ⟨ae,rfl,h5⟩:=(HL.out.fr HF.out).hr k x hx
       have HSD:=Lib.hid (Ex.rights_drop (deep:=deep+1) hx)
       have HCL:=Lib.hid (HS.out wr k x _ HF.out hx h5)
       obtain ⟨z,hz⟩:∃ z,Ex.right x (deep+1)=z:=⟨_,rfl⟩
       rw [hz] at HCL HSD
       clear hx hz h5
       go_wp2_with fail
       refine HCL.out.mono ?_
       rintro e w2 ⟨rfl,hF2⟩
       have HF2:=Lib.hid (HF.out.trans0 hF2)
       clear hF2 HCL
       cases z
       ·have HEF:Hid (Ex.rights L (deep+1)=false):=by show _=_;rw [HE.out,HSD.out,Bool.false_and]
        go_wp2_with fail
        go_ret
        rw [HEE.out,HEF.out]
        exact ⟨rfl,HF2.out⟩
       ·have HEF:Hid (Ex.rights L (deep+1)=Ex.rights (L.drop (k+1)) (deep+1)):=by show _=_;rw [HE.out,HSD.out,Bool.true_and]
        go_wp2_with fail
        go_roundg (L.length - (k+1))
        case measure=>have:=HM.out;omega
        case rel=>exact ⟨k+1,by omega,rfl,by go_num,HF2.out,HEF.out⟩
      ·have hlt':¬ (k:Int) < (L.length:Int):=by omega
       have HEF:Hid (Ex.rights L (deep+1)=true):=by show _=_;rw [HE.out,List.drop_eq_nil_of_le (by omega),Ex.rights]
       go_wp2_with fail
       go_ret
       rw [HEE.out,HEF.out]
       exact ⟨rfl,HF.out⟩
end Go.Proofs.YtgklmpooonnmiaaGreatDoor
