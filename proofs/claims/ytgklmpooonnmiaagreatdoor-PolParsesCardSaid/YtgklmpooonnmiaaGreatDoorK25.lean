/-
  Lemmas and contracts that the proofs over this seat use (RefScan); no statement of the seat is claimed in this text, and nothing is assumed in it.
-/
import Derived.Test.YtgklmpooonnmiaaGreatDoorK24
import Derived.Deep.DeepCutAuto
set_option linter.unusedVariables false
set_option linter.unusedSimpArgs false
namespace Go.Proofs.YtgklmpooonnmiaaGreatDoor
open Go.RowKit
set_option maxHeartbeats 16000000 in
set_option maxRecDepth 100000 in
theorem ref_scan (w:World) (s:ByteArray) (hs:s.size ≤ maxLen) :
  Calls Tryz.prog 21 #[.string s] w fun e w'=>∃ v,e=.returned (.tuple #[v,.int .i64 (Lex.scan s).1.num,.int .i64 (Lex.scan s).1.pos]) ∧ w'.ownsRow w.heap.size 54 4 v (Lex.scan s).2.length (toks (Lex.scan s).2) ∧ Fr [] w w':=by
 unfold maxLen at hs
 by_cases hlong:2048 < s.size
 ·have hE:Hid (Lex.scan s=(.no 2,[])):=by show _=_;unfold Lex.scan;rw [if_pos hlong]
  have hl':(s.size:Int) > 2048:=by omega
  go_enter Tryz.func21,Tryz.ntmps21
  go_wp2
  go_ret3
  rw [hE.out]
  exact ⟨_,rfl,ownsRow_nil _ _ _ _,Fr.refl _ _⟩
 have hE:Hid (Lex.scan s=Lex.scanFrom s (Lex.skipTo (bn s) s.size 0) []):=by show _=_;unfold Lex.scan;rw [if_neg hlong]
 have hl':¬ (s.size:Int) > 2048:=by omega
 obtain ⟨R,hR⟩:∃ R,Hid (Lex.scan s=R):=⟨_,rfl⟩
 rw [hR.out] at hE ⊢
 have hs2:s.size ≤ 2048:=by omega
 have hbn:=Lib.hid (bn_at s)
 clear hlong
 go_enter Tryz.func21,Tryz.ntmps21
 go_wp2_with fail
 go_loopg [5,6] s.size (fun q v t W=>∃ (k:Nat) (l:List Tk),k ≤ s.size ∧ q=s.size - k ∧ t=.int .i64 k ∧ Hid (Lex.scanFrom s (Lex.skipTo (bn s) s.size k) l=R) ∧ Hid (W.ownsRow w.heap.size 54 4 v l.length (toks l)) ∧ Hid (Fr [] w W) ∧ Hid (l.length ≤ 512))
 case atStart=>exact ⟨0,[],by omega,rfl,rfl,hE.out.symm,ownsRow_nil _ _ _ _,Fr.refl _ _,Nat.zero_le _⟩
 case round =>
  clear hE hR
  obtain ⟨k,l,hk,hq,rfl,HE,HO,HF,HLL⟩:=hrel
  have HQ:=Lib.hid hq
  clear hq
  obtain ⟨lp,lc,hv⟩:=own_form HO.out
  subst hv
  have e1:(0:Int) ≤ (k:Int):=by omega
  by_cases hlt:k < s.size
  case neg =>
   obtain rfl:k=s.size:=by omega
   have HX:Hid (R=(.ok,l ++ [⟨5,⟨#[]⟩,0,s.size⟩])):=by show _=_;rw [← HE.out,Lex.skipTo_end hlt,Lex.scanFrom,if_neg hlt]
   have hl9:l.length < 1000000:=by have:=HLL.out;omega
   clear hlt
   go_wp2_with (at_builtin;refine appTok rfl (.tmp 170) (.tmp 174) rfl w.heap.size _ l ⟨5,⟨#[]⟩,0,s.size⟩ _ rfl rfl rfl HO.out HF.out.size hl9 ?_)
   intro g9 c9 w9 ho hg
   have HO9:=Lib.hid ho
   have HF9:Hid (Fr [] w w9):=HF.out.grown2 hg (own_base_ge HO.out)
   clear ho hg
   go_wp2_with fail
   go_ret3
   rw [HX.out]
   exact ⟨_,rfl,(by have:=HO9.out;simpa using this),HF9.out⟩
  have hlt':(k:Int) < (s.size:Int):=by omega
  have hzk:=hbn.out k hlt
  obtain ⟨c,hc⟩:∃ c,Hid (bn s k=c):=⟨_,rfl⟩
  have hcl:=bn_lt s k
  rw [hc.out] at hzk hcl
  by_cases hbl:Lex.blank c=true
  case pos =>
   have HN:=Lib.hid (Lex.skipTo_blank (f:=bn s) hlt (by rw [hc.out];exact hbl))
   have hq4:((c:Int) == 32)=true ∨ (((c:Int) == 32)=false ∧ ((c:Int) == 9)=true) ∨ (((c:Int) == 32)=false ∧ ((c:Int) == 9)=false ∧ ((c:Int) == 10)=true) ∨ (((c:Int) == 32)=false ∧ ((c:Int) == 9)=false ∧ ((c:Int) == 10)=false ∧ ((c:Int) == 13)=true):=by
    have h4:c=32 ∨ c=9 ∨ c=10 ∨ c=13:=by simpa [Lex.blank,or_assoc] using hbl
    rcases h4 with rfl | rfl | rfl | rfl <;> decide
   clear hbl hc
   rcases hq4 with q1 | ⟨q1,q2⟩ | ⟨q1,q2,q3⟩ | ⟨q1,q2,q3,q4⟩
   all_goals
    go_wp2_with fail
    go_roundg (s.size - (k+1))
    case measure=>have:=HQ.out;omega
    case rel=>exact ⟨k+1,l,by omega,rfl,by go_num,by show _=_;rw [← HN.out];exact HE.out,HO,HF,HLL⟩
  have hq4:c ≠ 32 ∧ c ≠ 9 ∧ c ≠ 10 ∧ c ≠ 13:=by simpa [Lex.blank,and_assoc] using hbl
  have q1:((c:Int) == 32)=false:=beq_eq_false_iff_ne.2 (by omega)
  have q2:((c:Int) == 9)=false:=beq_eq_false_iff_ne.2 (by omega)
  have q3:((c:Int) == 10)=false:=beq_eq_false_iff_ne.2 (by omega)
  have q4:((c:Int) == 13)=false:=beq_eq_false_iff_ne.2 (by omega)
  have HBL:=Lib.hid hbl
  clear hbl hq4
  by_cases h35:c=35
  case pos =>
   have q5:((c:Int) == 35)=true:=by simp [h35]
   have HN:=Lib.hid (Lex.skipTo_mark (f:=bn s) hlt (by rw [hc.out];exact HBL.out) (by rw [hc.out];exact h35))
   have HL0:Hid (Lex.lineEnd (bn s) s.size k=Lex.lineEnd (bn s) s.size (k+1)):=by
    show _=_
    conv=>lhs;rw [Lex.lineEnd,if_pos hlt,hc.out,if_neg (by omega)]
   obtain ⟨E,hE⟩:∃ E,Hid (Lex.lineEnd (bn s) s.size (k+1)=E):=⟨_,rfl⟩
   have hEb:=Lex.lineEnd_ge (bn s) s.size (k+1) hlt
   rw [hE.out] at hEb HL0 HN
   have HEB:=Lib.hid hEb
   clear h35 hEb hE
   go_wp2_with fail
   go_loop [6] (fun t=>∃ j:Nat,j ≤ s.size ∧ t=.int .i64 j ∧ Hid (Lex.lineEnd (bn s) s.size j=E)) (fun t=>s.size - (intOf t).toNat)
   case atStart=>exact ⟨k,by omega,rfl,HL0⟩
   case' round =>
    obtain ⟨j,hj,rfl,HJ⟩:=hrel
    have e2:(0:Int) ≤ (j:Int):=by omega
    by_cases hjl:j < s.size
    case' pos =>
     have hjl':(j:Int) < (s.size:Int):=by omega
     have hzj:=hbn.out j hjl
     obtain ⟨x,hx⟩:∃ x,Hid (bn s j=x):=⟨_,rfl⟩
     rw [hx.out] at hzj
     by_cases h10:x=10
     case neg =>
      have n1:((x:Int) == 10)=false:=beq_eq_false_iff_ne.2 (by omega)
      have n2:((x:Int) != 10)=true:=bne_iff_ne.2 (by omega)
      have HJ2:Hid (Lex.lineEnd (bn s) s.size (j+1)=E):=by
       show _=_
       rw [← HJ.out];conv=>rhs;rw [Lex.lineEnd,if_pos hjl,hx.out,if_neg h10]
      clear h10
      go_wp2_with fail
      go_round
      case rel=>exact ⟨j+1,by omega,by go_num,HJ2⟩
      case measure=>simp [intOf];omega
     case' pos =>
      have n1:((x:Int) == 10)=true:=by simp [h10]
      have n2:((x:Int) != 10)=false:=by simp [h10]
      have hjE:j=E:=by rw [← HJ.out,Lex.lineEnd,if_pos hjl,hx.out,if_pos h10]
      clear h10
    case' neg =>
     have hjl':¬ (j:Int) < (s.size:Int):=by omega
     have hjE:j=E:=by rw [← HJ.out,Lex.lineEnd,if_neg hjl];omega
    all_goals
     have HJE:=Lib.hid hjE
     clear hjE
     go_wp2_with fail
     go_roundg (s.size - j)
     case measure=>have:=HQ.out;have:=HEB.out;have:=HJE.out;omega
     case rel=>exact ⟨j,l,hj,rfl,rfl,by show _=_;rw [HJE.out,← HN.out];exact HE.out,HO,HF,HLL⟩
  have q5:((c:Int) == 35)=false:=beq_eq_false_iff_ne.2 (by omega)
  obtain ⟨hbad,hok⟩:=Lex.scan_round s k l R hlt (by rw [hc.out];exact HBL.out) (by rw [hc.out];exact h35) HE.out
  have HBAD:=Lib.hid hbad
  have HOK:=Lib.hid hok
  clear hbad hok h35
  obtain ⟨T,hT⟩:∃ T,Hid (s.extract k s.size=T):=⟨_,rfl⟩
  have hTs:T.size=s.size - k:=by rw [← hT.out];simp
  have hTb:∀ j,j < T.size → bn T j=bn s (k+j):=fun j hj=>by rw [← hT.out,bn_tail s k hk]
  have HTB:=Lib.hid hTb
  have HTS:=Lib.hid hTs
  have hc0:bn T 0=c:=by rw [hTb 0 (by omega)];exact hc.out
  obtain ⟨Y,hY⟩:∃ Y,Hid (Lex.token s k=Y):=⟨_,rfl⟩
  have HR:Hid (Y=Lex.tokR s T k c):=by show _=_;rw [← hY.out,Lex.token,hT.out,hc0]
  have HXT:Hid (∀ j,k+j ≤ s.size → T.extract 0 j=s.extract k (k+j)):=fun j hj=>by rw [← hT.out];exact ext_ext s k j hj
  clear hTs hTb hc0 HE hc
  go_wp2_with fail
  have h0:=RT.new HO.out HF.out #[.int .i64 0,.string ⟨#[]⟩,.int .i64 0,.int .i64 (k:Nat)]
  obtain ⟨g,hg⟩:∃ g,wr.heap.size=g:=⟨_,rfl⟩
  rw [hg] at h0 ⊢
  refine calls_fresh (fun V=>RT w (.slice lp l.length lc) l g #[.int .i64 0,.string ⟨#[]⟩,.int .i64 0,.int .i64 (k:Nat)] V) h0 ?_
  clear h0 hg HO HF
  intro V h1
  have H:=Lib.hid h1
  clear h1
  have HSM:=Lib.hid (fun x W=>ref11_small x W)
  refine (HSM.out c _).mono ?_
  rintro e w1 ⟨rfl,rfl⟩
  have hkT:k+T.size=s.size:=by have:=HTS.out;omega
  have HKT:=Lib.hid hkT
  have hTp:0 < T.size:=by omega
  clear hkT
  refine (Classical.em (Lex.small c=true)).elim (fun hsm=>?kSmall) (fun hsm=>?kOther)
  case' kSmall =>
   rw [hsm]
   have HR2:Hid (Y=Lex.tokSmall T k (Lex.smalls (bn T) T.size 0)):=by show _=_;rw [HR.out,Lex.tokR,if_pos hsm]
   obtain ⟨E,hE⟩:∃ E,Hid (Lex.smalls (bn T) T.size 0=E):=⟨_,rfl⟩
   rw [hE.out] at HR2
   clear hsm HR
   go_wp2_with fail
   go_loop [6] (fun t=>∃ j:Nat,j ≤ T.size ∧ t=.int .i64 (k+j:Nat) ∧ Hid (Lex.smalls (bn T) T.size j=E)) (fun t=>s.size - (intOf t).toNat)
   case atStart=>exact ⟨0,by omega,rfl,hE⟩
   case' round =>
    obtain ⟨j,hj,rfl,HJ⟩:=hrel
    have hcast:((k+j:Nat):Int)=(k:Int)+(j:Int):=by omega
    simp only [hcast]
    clear hcast
    have hKT:=HKT.out
    have e2:(0:Int) ≤ (k:Int)+(j:Int):=by omega
    have e3:((k:Int)+(j:Int)).toNat=k+j:=by omega
    by_cases hjl:j < T.size
    case' pos =>
     have hjl':(k:Int)+(j:Int) < (s.size:Int):=by omega
     have hkj:k+j < s.size:=by omega
     have hzj:=hbn.out (k+j) hkj
     have hxb:=HTB.out j hjl
     obtain ⟨x,hx⟩:∃ x,Hid (bn s (k+j)=x):=⟨_,rfl⟩
     rw [hx.out] at hzj hxb
     by_cases hsx:Lex.small x=true
     case pos =>
      have HSX:=Lib.hid (HSM.out x)
      rw [hsx] at HSX
      have HJ2:Hid (Lex.smalls (bn T) T.size (j+1)=E):=by show _=_;rw [← HJ.out,Lex.smalls_yes hjl (by rw [hxb];exact hsx)]
      clear hsx hxb hKT
      go_wp2_with fail
      refine (HSX.out _).mono ?_
      rintro e w1 ⟨rfl,rfl⟩
      go_wp2_with fail
      go_round
      case rel=>exact ⟨j+1,by omega,by go_num,HJ2⟩
      case measure=>have:=HKT.out;simp [intOf];omega
     case' neg =>
      have HSX:=Lib.hid (HSM.out x)
      have hsx':Lex.small x=false:=by simpa using hsx
      have hjE:j=E:=by rw [← HJ.out,Lex.smalls_no (by rw [hxb];exact hsx)]
      rw [hsx'] at HSX
      clear hsx hsx' hxb
    case' neg =>
     have hjl':¬ (k:Int)+(j:Int) < (s.size:Int):=by omega
     have hjE:j=E:=by rw [← HJ.out,Lex.smalls_end hjl]
     have HSX:Hid True:=trivial
    all_goals
     have HR3:Hid (Y=Lex.tokSmall T k j):=by show _=_;rw [HR2.out,hjE]
     clear hjE HR2
     have t0:V.cell? ⟨g,0,none⟩=some (.int .i64 0):=by rw [Lib.cell_of_heap H.out.t];rfl
     have t1:V.cell? ⟨g,1,none⟩=some (.string ⟨#[]⟩):=by rw [Lib.cell_of_heap H.out.t];rfl
     have t2:V.cell? ⟨g,2,none⟩=some (.int .i64 0):=by rw [Lib.cell_of_heap H.out.t];rfl
     have t3:V.cell? ⟨g,3,none⟩=some (.int .i64 (k:Nat)):=by rw [Lib.cell_of_heap H.out.t];rfl
     have fz:∀ i,V.frozen? ⟨g,i,none⟩=false:=fun i=>Lib.frozen_of_heap H.out.t i
     by_cases h32:32 < j
     case pos =>
      have HX:Hid (R=(.pl k 110,[])):=HBAD.out k 110 (by rw [hY.out,HR3.out,Lex.tokSmall,if_pos h32])
      have w5:wrap64 ((k:Int)+(j:Int) - (k:Int))=(j:Int):=by unfold wrap64;omega
      have w6:IntKind.i64.wrap ((k:Int)+(j:Int) - (k:Int))=(j:Int):=by rw [IntWalk.i64_in _ (by omega)];omega
      have h32':(j:Int) > 32:=by omega
      clear hKT
      go_wp2_with (go_at_call 49;with_reducible refine (HSX.out _).mono ?_;rintro e w1 ⟨rfl,rfl⟩)
      go_quiet (fail)
      refine then_fresh (fun W=>RT w (.slice lp l.length lc) l g #[.int .i64 0,.string ⟨#[]⟩,.int .i64 0,.int .i64 (k:Nat)] W) (H.out.fr ((Fr.refl _ _).drewN _)) ?_
      intro V2 h2
      have H2:=Lib.hid h2
      clear h2 t0 t1 t2 t3 fz
      go_wp2_with fail
      go_ret3
      rw [HX.out]
      exact ⟨_,rfl,ownsRow_nil _ _ _ _,H2.out.f⟩
     case' neg =>
      have w5:wrap64 ((k:Int)+(j:Int) - (k:Int))=(j:Int):=by unfold wrap64;omega
      have w6:IntKind.i64.wrap ((k:Int)+(j:Int) - (k:Int))=(j:Int):=by rw [IntWalk.i64_in _ (by omega)];omega
      have h32':¬ (j:Int) > 32:=by omega
      have HTK:Hid (Lex.token s k=.ok ⟨1,T.extract 0 j,0,k⟩ (k+j)):=by show _=_;rw [hY.out,HR3.out,Lex.tokSmall,if_neg h32]
      obtain ⟨U,hU⟩:∃ U,s.extract k (k+j)=U:=⟨_,rfl⟩
      rw [HXT.out j (by omega),hU] at HTK
      have hex:s.extract k (k+j)=U:=hU
      have e4:(k:Int)+(j:Int) ≤ (s.size:Int):=by omega
      have e5:(k:Int) ≤ (k:Int)+(j:Int):=by omega
      clear hU h32 hKT
      go_upto_region 43 with (go_at_call 49;with_reducible refine (HSX.out _).mono ?_;rintro e w1 ⟨rfl,rfl⟩)
      refine wp_fresh (fun W=>∃ t,RT w (.slice lp l.length lc) l g (Tk.c t).toArray W ∧ Lex.token s k=.ok t (k+j) ∧ t.p=k) ⟨⟨1,U,0,k⟩,(H.out.set_ 0 _).set_ 1 _,HTK.out,rfl⟩ ?_
      rintro W ⟨t,ht,htk,htp⟩
      have HT:=Lib.hid ht
      have HTK:=Lib.hid htk
      clear ht htk t0 t1 t2 t3 fz H
      obtain ⟨m,hm⟩:∃ m,k+j=m:=⟨_,rfl⟩
      rw [hm] at HTK
      rw [show (k:Int)+(j:Int)=(m:Int) by omega]
      clear hm
  case' kOther =>
   have hsm':Lex.small c=false:=by simpa using hsm
   rw [hsm']
   refine (Classical.em (c=34)).elim (fun h34=>?kText) (fun h34=>?kRest)
   case' kText =>
    have q6:((c:Int) == 34)=true:=by simp [h34]
    have HR2:Hid (Y=Lex.tokText k (Lex.text s (k+1) [])):=by show _=_;rw [HR.out,Lex.tokR,if_neg hsm,if_pos h34]
    obtain ⟨⟨o,m⟩,hr⟩:∃ r,Hid (Lex.text s (k+1) []=r):=⟨_,rfl⟩
    have HQU:=Lib.hid (fun W=>ref_quoted W s k (by omega) hlt)
    rw [hr.out] at HR2
    simp only [hr.out] at HQU
    clear hsm hsm' h34 HR hr
    go_wp2_with fail
    refine (HQU.out _).mono ?_
    rintro e w1 ⟨rfl,hf⟩
    have H:=Lib.hid (H.out.fr hf)
    clear hf
    have t0:w1.cell? ⟨g,0,none⟩=some (.int .i64 0):=by rw [Lib.cell_of_heap H.out.t];rfl
    have t1:w1.cell? ⟨g,1,none⟩=some (.string ⟨#[]⟩):=by rw [Lib.cell_of_heap H.out.t];rfl
    have t2:w1.cell? ⟨g,2,none⟩=some (.int .i64 0):=by rw [Lib.cell_of_heap H.out.t];rfl
    have t3:w1.cell? ⟨g,3,none⟩=some (.int .i64 (k:Nat)):=by rw [Lib.cell_of_heap H.out.t];rfl
    have fz:∀ i,w1.frozen? ⟨g,i,none⟩=false:=fun i=>Lib.frozen_of_heap H.out.t i
    cases o
    case none =>
     have HX:Hid (R=(.pl m 110,[])):=HBAD.out m 110 (by rw [hY.out,HR2.out];rfl)
     simp only [Option.isSome_none,Option.getD_none]
     go_wp2_with fail
     go_ret3
     rw [HX.out]
     exact ⟨_,rfl,ownsRow_nil _ _ _ _,H.out.f⟩
    rename_i o
    have HTK:Hid (Lex.token s k=.ok ⟨2,ba o,0,k⟩ m):=by show _=_;rw [hY.out,HR2.out];rfl
    simp only [Option.isSome_some,Option.getD_some]
    go_upto_region 43 with (fail)
    refine wp_fresh (fun W=>∃ t,RT w (.slice lp l.length lc) l g (Tk.c t).toArray W ∧ Lex.token s k=.ok t (m) ∧ t.p=k) ⟨⟨2,ba o,0,k⟩,(H.out.set_ 0 _).set_ 1 _,HTK.out,rfl⟩ ?_
    rintro W ⟨t,ht,htk,htp⟩
    have HT:=Lib.hid ht
    have HTK:=Lib.hid htk
    clear ht htk t0 t1 t2 t3 fz H
   case' kRest =>
    have q6:((c:Int) == 34)=false:=beq_eq_false_iff_ne.2 (by omega)
    refine (Classical.em (c=45 ∨ Dec.dig c=true)).elim (fun hnum=>?kNum) (fun hnum=>?kSign)
    case' kNum =>
     have HR2:Hid (Y=Lex.tokNum T k (Dec.lead (bn T) T.size)):=by show _=_;rw [HR.out,Lex.tokR,if_neg hsm,if_neg h34,if_pos hnum]
     have hq:((c:Int) == 45)=true ∨ (((c:Int) == 45)=false ∧ (c:Int) ≥ 48 ∧ (c:Int) ≤ 57):=by
      by_cases h45:c=45
      ·exact Or.inl (beq_iff_eq.2 (by omega))
      ·refine Or.inr ⟨beq_eq_false_iff_ne.2 (by omega),?_⟩
       have:=hnum.resolve_left h45
       simp [Dec.dig] at this
       omega
     have hll:=Dec.lead_le (bn T) T.size
     obtain ⟨n,hn⟩:∃ n,Hid (Dec.lead (bn T) T.size=n):=⟨_,rfl⟩
     have HLD:=Lib.hid (fun W=>ref_lead W T (by have:=HKT.out;omega))
     rw [hn.out] at hll HR2
     simp only [hn.out] at HLD
     have hkn:k+n ≤ s.size:=by have:=HKT.out;omega
     have hex0:s.extract k s.size=T:=hT.out
     have hks:(k:Int) ≤ (s.size:Int):=by omega
     clear hsm hsm' h34 HR hnum hn
     by_cases hn0:n=0
     case pos =>
      have HX:Hid (R=(.pl k 110,[])):=HBAD.out k 110 (by rw [hY.out,HR2.out,Lex.tokNum,if_pos hn0])
      have n0:((n:Int) == 0)=true:=by simp [hn0]
      clear hn0
      rcases hq with p1 | ⟨p1,p2,p3⟩
      all_goals
       go_wp2_with fail
       refine (HLD.out _).mono ?_
       rintro e w1 ⟨rfl,rfl⟩
       go_wp2_with fail
       go_ret3
       rw [HX.out]
       exact ⟨_,rfl,ownsRow_nil _ _ _ _,H.out.f⟩
     have n0:((n:Int) == 0)=false:=beq_eq_false_iff_ne.2 (by omega)
     obtain ⟨U,hU⟩:∃ U,s.extract k (k+n)=U:=⟨_,rfl⟩
     have HXU:Hid (T.extract 0 n=U):=by show _=_;rw [HXT.out n hkn,hU]
     have hUs:U.size=n:=by rw [← hU];simp;omega
     have HR3:Hid (Y=Lex.tokRead k n (Dec.read (bn U) U.size (-9007199254740991) 9007199254740991)):=by show _=_;rw [HR2.out,Lex.tokNum,if_neg hn0,HXU.out]
     have HRD:=Lib.hid (fun W=>ref_read W U (by omega) (-9007199254740991) 9007199254740991 (by omega) (by omega))
     have hnm:=Dec.read_num (bn U) U.size (-9007199254740991) 9007199254740991
     obtain ⟨⟨vv,er⟩,hrr⟩:∃ rr,Hid (Dec.read (bn U) U.size (-9007199254740991) 9007199254740991=rr):=⟨_,rfl⟩
     rw [hrr.out] at HR3 hnm
     simp only [hrr.out] at HRD
     have hex:s.extract k (k+n)=U:=hU
     have e4:(k:Int)+(n:Int) ≤ (s.size:Int):=by omega
     have e5:(k:Int) ≤ (k:Int)+(n:Int):=by omega
     have e6:((k:Int)+(n:Int)).toNat=k+n:=by omega
     clear hU hUs hn0 hrr HR2
     simp only [] at hnm
     by_cases her:er=.ok
     case neg =>
      have HX:Hid (R=(.pl k 41,[])):=HBAD.out k 41 (by rw [hY.out,HR3.out];cases er with | ok=>exact absurd rfl her | no _=>rfl | pl _ _=>rfl)
      have hne:∃ z:Int,Hid (er.num=z) ∧ (z == 0)=false ∧ (z != 0)=true:=by
       rcases hnm with h | h | ⟨p,h⟩
       ·exact absurd h her
       ·exact ⟨41,by show _=_;rw [h];rfl,rfl,rfl⟩
       ·exact ⟨40,by show _=_;rw [h];rfl,rfl,rfl⟩
      obtain ⟨z,hz,z1,z2⟩:=hne
      simp only [hz.out] at HRD
      clear her hnm hz
      rcases hq with p1 | ⟨p1,p2,p3⟩
      all_goals
       go_wp2_with fail
       refine (HLD.out _).mono ?_
       rintro e w1 ⟨rfl,rfl⟩
       go_wp2_with fail
       refine (HRD.out _).mono ?_
       rintro e w1 ⟨rfl,rfl⟩
       go_wp2_with fail
       go_ret3
       rw [HX.out]
       exact ⟨_,rfl,ownsRow_nil _ _ _ _,H.out.f⟩
     have HTK:Hid (Lex.token s k=.ok ⟨3,⟨#[]⟩,vv,k⟩ (k+n)):=by show _=_;rw [hY.out,HR3.out,her];rfl
     have hz:er.num=0:=by rw [her];rfl
     simp only [hz] at HRD
     clear her hnm hz
     have t0:V.cell? ⟨g,0,none⟩=some (.int .i64 0):=by rw [Lib.cell_of_heap H.out.t];rfl
     have t1:V.cell? ⟨g,1,none⟩=some (.string ⟨#[]⟩):=by rw [Lib.cell_of_heap H.out.t];rfl
     have t2:V.cell? ⟨g,2,none⟩=some (.int .i64 0):=by rw [Lib.cell_of_heap H.out.t];rfl
     have t3:V.cell? ⟨g,3,none⟩=some (.int .i64 (k:Nat)):=by rw [Lib.cell_of_heap H.out.t];rfl
     have fz:∀ i,V.frozen? ⟨g,i,none⟩=false:=fun i=>Lib.frozen_of_heap H.out.t i
     rcases hq with p1 | ⟨p1,p2,p3⟩
     all_goals
      go_wp2_with fail
      refine (HLD.out _).mono ?_
      rintro e w1 ⟨rfl,rfl⟩
      go_wp2_with fail
      refine (HRD.out _).mono ?_
      rintro e w1 ⟨rfl,rfl⟩
      go_upto_region 43 with (fail)
      refine wp_fresh (fun W=>∃ t,RT w (.slice lp l.length lc) l g (Tk.c t).toArray W ∧ Lex.token s k=.ok t (k+n) ∧ t.p=k) ⟨⟨3,⟨#[]⟩,vv,k⟩,(H.out.set_ 0 _).set_ 2 _,HTK.out,rfl⟩ ?_
      rintro W ⟨t,ht,htk,htp⟩
      have HT:=Lib.hid ht
      have HTK:=Lib.hid htk
      clear ht htk t0 t1 t2 t3 fz H
      obtain ⟨m,hm⟩:∃ m,k+n=m:=⟨_,rfl⟩
      rw [hm] at HTK
      rw [show (k:Int)+(n:Int)=(m:Int) by omega]
      clear hm
    case' kSign =>
     have HR2:Hid (Y=Lex.tokSign T k (Lex.sign (bn T) T.size)):=by show _=_;rw [HR.out,Lex.tokR,if_neg hsm,if_neg h34,if_neg hnum]
     have hq:((c:Int) == 45)=false ∧ (¬ (c:Int) ≥ 48 ∨ ((c:Int) ≥ 48 ∧ ¬ (c:Int) ≤ 57)):=by
      refine ⟨beq_eq_false_iff_ne.2 fun h=>hnum (Or.inl (by omega)),?_⟩
      have h2:¬ Dec.dig c=true:=fun h=>hnum (Or.inr h)
      simp [Dec.dig] at h2
      omega
     have hll:=Lex.sign_le (bn T) T.size
     obtain ⟨n,hn⟩:∃ n,Hid (Lex.sign (bn T) T.size=n):=⟨_,rfl⟩
     have HSG:=Lib.hid (fun W=>ref_sign W T (by have:=HKT.out;unfold maxLen;omega))
     rw [hn.out] at hll HR2
     simp only [hn.out] at HSG
     have hkn:k+n ≤ s.size:=by have:=HKT.out;omega
     have hex0:s.extract k s.size=T:=hT.out
     have hks:(k:Int) ≤ (s.size:Int):=by omega
     obtain ⟨p1,hq⟩:=hq
     clear hsm hsm' h34 HR hnum hn
     by_cases hn0:n=0
     case pos =>
      have HX:Hid (R=(.pl k 110,[])):=HBAD.out k 110 (by rw [hY.out,HR2.out,Lex.tokSign,if_pos hn0])
      have n0:((n:Int) == 0)=true:=by simp [hn0]
      clear hn0
      rcases hq with p2 | ⟨p2,p3⟩
      all_goals
       go_wp2_with fail
       refine (HSG.out _).mono ?_
       rintro e w1 ⟨rfl,hf⟩
       have H:=Lib.hid (H.out.fr hf)
       clear hf
       go_wp2_with fail
       go_ret3
       rw [HX.out]
       exact ⟨_,rfl,ownsRow_nil _ _ _ _,H.out.f⟩
     have n0:((n:Int) == 0)=false:=beq_eq_false_iff_ne.2 (by omega)
     have HTK:Hid (Lex.token s k=.ok ⟨4,T.extract 0 n,0,k⟩ (k+n)):=by show _=_;rw [hY.out,HR2.out,Lex.tokSign,if_neg hn0]
     obtain ⟨U,hU⟩:∃ U,s.extract k (k+n)=U:=⟨_,rfl⟩
     rw [HXT.out n hkn,hU] at HTK
     have hex:s.extract k (k+n)=U:=hU
     have e4:(k:Int)+(n:Int) ≤ (s.size:Int):=by omega
     have e5:(k:Int) ≤ (k:Int)+(n:Int):=by omega
     have e6:((k:Int)+(n:Int)).toNat=k+n:=by omega
     clear hU hn0 HR2
     rcases hq with p2 | ⟨p2,p3⟩
     all_goals
      go_wp2_with fail
      refine (HSG.out _).mono ?_
      rintro e w1 ⟨rfl,hf⟩
      have H:=Lib.hid (H.out.fr hf)
      clear hf
      have t0:w1.cell? ⟨g,0,none⟩=some (.int .i64 0):=by rw [Lib.cell_of_heap H.out.t];rfl
      have t1:w1.cell? ⟨g,1,none⟩=some (.string ⟨#[]⟩):=by rw [Lib.cell_of_heap H.out.t];rfl
      have t2:w1.cell? ⟨g,2,none⟩=some (.int .i64 0):=by rw [Lib.cell_of_heap H.out.t];rfl
      have t3:w1.cell? ⟨g,3,none⟩=some (.int .i64 (k:Nat)):=by rw [Lib.cell_of_heap H.out.t];rfl
      have fz:∀ i,w1.frozen? ⟨g,i,none⟩=false:=fun i=>Lib.frozen_of_heap H.out.t i
      go_upto_region 43 with (fail)
      refine wp_fresh (fun W=>∃ t,RT w (.slice lp l.length lc) l g (Tk.c t).toArray W ∧ Lex.token s k=.ok t (k+n) ∧ t.p=k) ⟨⟨4,U,0,k⟩,(H.out.set_ 0 _).set_ 1 _,HTK.out,rfl⟩ ?_
      rintro W ⟨t,ht,htk,htp⟩
      have HT:=Lib.hid ht
      have HTK:=Lib.hid htk
      clear ht htk t0 t1 t2 t3 fz H
      obtain ⟨m,hm⟩:∃ m,k+n=m:=⟨_,rfl⟩
      rw [hm] at HTK
      rw [show (k:Int)+(n:Int)=(m:Int) by omega]
      clear hm
  all_goals
   obtain ⟨tk,tss,tn,tp⟩:=t
   obtain rfl:tp=k:=htp
   obtain ⟨hkm,hms,h5a,h5b⟩:=HOK.out _ _ HTK.out
   have t0:W.cell? ⟨g,0,none⟩=some (.int .i64 (tk:Nat)):=by rw [Lib.cell_of_heap HT.out.t];rfl
   have t1:W.cell? ⟨g,1,none⟩=some (.string tss):=by rw [Lib.cell_of_heap HT.out.t];rfl
   have t2:W.cell? ⟨g,2,none⟩=some (.int .i64 tn):=by rw [Lib.cell_of_heap HT.out.t];rfl
   have t3:W.cell? ⟨g,3,none⟩=some (.int .i64 (tp:Nat)):=by rw [Lib.cell_of_heap HT.out.t];rfl
   have h5A:=Lib.hid h5a
   have h5B:=Lib.hid h5b
   clear h5a h5b
   by_cases h512:l.length=512
   ·have HX:Hid (R=(.pl tp 53,[])):=h5A.out h512
    have l5:((l.length:Int) == 512)=true:=beq_iff_eq.2 (by omega)
    clear h512
    go_wp2_with fail
    go_quiet (fail)
    refine then_fresh (fun V=>Fr [] w V) (HT.out.f.drewN _) ?_
    intro V2 hf2
    have HF2:=Lib.hid hf2
    clear hf2 t0 t1 t2 t3
    go_wp2_with fail
    go_ret3
    rw [HX.out]
    exact ⟨_,rfl,ownsRow_nil _ _ _ _,HF2.out⟩
   ·have l5:((l.length:Int) == 512)=false:=beq_eq_false_iff_ne.2 (by omega)
    have HX:=Lib.hid (h5B.out h512)
    have hl9:l.length < 1000000:=by have:=HLL.out;omega
    have HL1:Hid (l.length+1 ≤ 512):=by show _ ≤ _;have:=HLL.out;omega
    clear h512
    go_wp2_with (at_builtin;refine appTok rfl (.tmp 166) (.tmp 168) rfl w.heap.size _ l ⟨tk,tss,tn,tp⟩ _ rfl rfl rfl HT.out.own HT.out.f.size hl9 ?_)
    intro g9 c9 w9 ho hg9
    have HO9:=Lib.hid ho
    have HF9:Hid (Fr [] w w9):=HT.out.f.grown2 hg9 (own_base_ge HT.out.own)
    clear ho hg9 t0 t1 t2 t3
    go_wp2_with fail
    go_roundg (s.size - m)
    case measure=>have:=HQ.out;omega
    case rel=>exact ⟨m,_,hms,rfl,rfl,HX.out,(by rw [List.length_append];exact HO9),HF9,by show _ ≤ 512;have:=HL1.out;simp;omega⟩
end Go.Proofs.YtgklmpooonnmiaaGreatDoor
