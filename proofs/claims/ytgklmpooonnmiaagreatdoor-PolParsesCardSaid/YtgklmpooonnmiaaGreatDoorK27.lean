/-
  Lemmas and contracts that the proofs over this seat use (RefParse, PolRsA, PolSameX, PolRefSame); no statement of the seat is claimed in this text, and nothing is assumed in it.
-/
import Derived.Test.YtgklmpooonnmiaaGreatDoorK16
import Derived.Test.YtgklmpooonnmiaaGreatDoorK19
import Derived.Test.YtgklmpooonnmiaaGreatDoorK25
import Derived.Test.YtgklmpooonnmiaaGreatDoorK26
import Derived.BigQuiet
import Derived.Deep.QuietTactic
import Derived.Test.YtgklmpooonnmiaaGreatDoorK9
import Derived.Test.YtgklmpooonnmiaaGreatDoorK11
import Derived.StillTailTactics
set_option linter.unusedVariables false
set_option linter.unusedSimpArgs false
namespace Go.Proofs.YtgklmpooonnmiaaGreatDoor
open Go.RowKit
theorem Lex.token_num {s:ByteArray} {k p n:Nat} (h:Lex.token s k=.bad p n):n ≠ 0:=by
 unfold Lex.token Lex.tokR at h
 generalize s.extract k s.size=T at *
 split at h
 ·unfold Lex.tokSmall at h
  split at h
  ·cases h;decide
  ·cases h
 ·split at h
  ·generalize Lex.text s (k+1) []=r at h
   obtain ⟨o,e⟩:=r
   cases o with
   | none=>cases h;decide
   | some o=>cases h
  ·split at h
   ·unfold Lex.tokNum at h
    split at h
    ·cases h;decide
    ·generalize Dec.read _ _ _ _=rr at h
     obtain ⟨v,er⟩:=rr
     cases er <;> cases h <;> decide
   ·unfold Lex.tokSign at h
    split at h
    ·cases h;decide
    ·cases h
theorem Lex.scan_num {s:ByteArray} {e:Er} {l:List Tk} (h:Lex.scan s=(e,l)) (he:e ≠ .ok):e.num ≠ 0:=by
 have key:∀ k L,Lex.scanFrom s k L=(e,l) → e.num ≠ 0:=by
  intro k L h
  fun_induction Lex.scanFrom s k L with
  | case1 k l h1 p n h2=>cases h;have:=Lex.token_num h2;show ((n:Nat):Int) ≠ 0;omega
  | case2 k l h1 t m h2 h3=>cases h;exact (by decide:((53:Nat):Int) ≠ 0)
  | case3 k l h1 t m h2 h3 ih=>exact ih h
  | case4 k l h1=>cases h;exact absurd rfl he
 unfold Lex.scan at h
 split at h
 ·cases h;decide
 ·exact key _ _ h
theorem toks_own2 {W:World} {B:Nat} {v:Value} {l:List Tk} (h:W.ownsRow B 54 4 v l.length (toks l)) (h0:0 < l.length):∃ g c,v=.slice (some ⟨g,0,none⟩) l.length c ∧ l.length ≤ c ∧ c ≤ maxLen ∧ Toks W (some ⟨g,0,none⟩) (l.map Tk.ti):=by
 obtain ⟨g,c,rfl,_,_,h1,h2,hcell⟩:=own_at h h0
 refine ⟨g,c,rfl,h1,h2,fun j t hj=>?_⟩
 rw [List.getElem?_map] at hj
 obtain ⟨u,hu,rfl⟩:=Option.map_eq_some_iff.1 hj
 have key:∀ i,i < 4 → (toks l)[j * 4+i]?=u.c[i]?:=by
  clear h hcell hj h0 h1 h2
  induction l generalizing j with
  | nil=>simp at hu
  | cons a l ih =>
   intro i hi
   cases j with
   | zero =>
    simp at hu;subst hu
    rw [show 0 * 4+i=i by omega]
    show (a.c ++ toks l)[i]?=_
    rw [List.getElem?_append_left (by simpa [Tk.c] using hi)]
   | succ j =>
    show (a.c ++ toks l)[_]?=_
    rw [List.getElem?_append_right (by simp [Tk.c];omega)]
    have:=ih j (by simpa using hu) i hi
    rw [← this]
    congr 1
    simp [Tk.c];omega
 have hadd:(⟨g,0,none⟩:Addr).add (j * 4)=⟨g,j * 4,none⟩:=by unfold Addr.add;split <;> simp_all
 refine ⟨_,rfl,?_,?_,?_,?_⟩
 ·rw [hadd];exact hcell _ _ (by have:=key 0 (by omega);simpa [Tk.c,Tk.ti] using this)
 ·rw [hadd];exact hcell _ _ (by have:=key 1 (by omega);simpa [Tk.c,Tk.ti] using this)
 ·rw [hadd];exact hcell _ _ (by have:=key 2 (by omega);simpa [Tk.c,Tk.ti] using this)
 ·rw [hadd];exact hcell _ _ (by have:=key 3 (by omega);simpa [Tk.c,Tk.ti] using this)
structure PS (w1:World) (v:Value) (css:List (List Value)) (A:List Ru) (W:World):Prop where
 own:W.ownsRow w1.heap.size 40 4 v A.length css.flatten
 rus:Rus W (fun i=>w1.heap.size ≤ i ∧ v.ownBlock ≠ some i) css A
 f:Fr [] w1 W
theorem PS.start (w1:World):PS w1 (.slice none 0 0) [] [] w1:=⟨ownsRow_nil _ _ _ _,⟨rfl,fun i x cs hi=>by simp at hi⟩,Fr.refl _ _⟩
theorem PS.fr {w1:World} {v:Value} {css:List (List Value)} {A:List Ru} {W W':World} (h:PS w1 v css A W) (hf:Fr [] W W'):PS w1 v css A W' :=
 ⟨ownsRow_fr h.own hf,h.rus.fr hf (fun y hy _=>by cases hy),h.f.trans0 hf⟩
theorem PS.base {w1:World} {v:Value} {css:List (List Value)} {A:List Ru} {W:World} (h:PS w1 v css A W):∀ y,v.ownBlock=some y → w1.heap.size ≤ y:=fun y hy=>by
 rcases h.own.2 with ⟨hv,_⟩ | ⟨g0,cap,cur,hv,hb,_⟩
 ·rw [hv] at hy;simp [Value.ownBlock] at hy
 ·rw [hv] at hy;simp [Value.ownBlock] at hy;omega
theorem PS.grow {w1:World} {v:Value} {css:List (List Value)} {A:List Ru} {W U:World} {cs:List Value} {x:Ru} (h:PS w1 v css A W) (hx:RuRep W (fun i=>w1.heap.size ≤ i ∧ v.ownBlock ≠ some i) cs x)
  {g1 c1:Nat} (ho:U.ownsRow w1.heap.size 40 4 (.slice (some ⟨g1,0,none⟩) (A.length+1) c1) (A.length+1) (css.flatten ++ cs)) (hg:W.grownBy U v.ownBlock) (hgg:v.ownBlock=some g1 ∨ W.heap.size ≤ g1) :
  PS w1 (.slice (some ⟨g1,0,none⟩) (A ++ [x]).length c1) (css ++ [cs]) (A ++ [x]) U:=by
 have hf:=Fr.of_grown hg
 have e9:(A ++ [x]).length=A.length+1:=by simp
 have hD:∀ i,i < W.heap.size → (w1.heap.size ≤ i ∧ v.ownBlock ≠ some i) → (w1.heap.size ≤ i ∧ v.ownBlock ≠ some i ∧ i ≠ g1):=fun i hi hc=>⟨hc.1,hc.2,fun h9=>by
  subst h9
  rcases hgg with h8 | h8
  ·exact hc.2 h8
  ·omega⟩
 have hE:∀ i,i < U.heap.size → (w1.heap.size ≤ i ∧ v.ownBlock ≠ some i ∧ i ≠ g1) → (w1.heap.size ≤ i ∧ (Value.slice (some ⟨g1,0,none⟩) (A ++ [x]).length c1).ownBlock ≠ some i):=fun i _ hc=>⟨hc.1,fun h9=>by
  simp [Value.ownBlock] at h9
  exact hc.2.2 h9.symm⟩
 have h5:=(((h.rus.snoc hx).mono hD).fr hf (fun y hy hl hc=>hc.2.1 (by simpa using hy))).mono hE
 refine ⟨?_,h5,?_⟩
 ·rw [e9,List.flatten_append];simpa using ho
 ·have h9:=(h.f.sub (bs:=v.ownBlock.toList)).trans hf (fun y hy=>.inl hy)
  exact ⟨h9.os,h9.tape,h9.output,h9.size,fun k hk _=>h9.block k hk (fun hc=>by have:=h.base k (by simpa using hc);omega)⟩
theorem PS.out {w w1:World} {v:Value} {css:List (List Value)} {A:List Ru} {W:World} (h:PS w1 v css A W) (hw:w.heap.size ≤ w1.heap.size):RsRep W (fun i=>w.heap.size ≤ i) v A:=by
 rcases h.own.2 with ⟨hv,h0⟩ | ⟨g0,cap,cur,hv,hb,hrow,k1,k2,k3,k4⟩
 ·have:A=[]:=List.eq_nil_of_length_eq_zero h0
  subst this
  exact ⟨none,0,fun _=>[],hv,Nat.le_refl _,by decide,fun i u hi=>by simp at hi,fun i u hi=>by simp at hi,fun _=>rfl⟩
 ·have h5:∀ (i:Nat) (cs:List Value),css[i]?=some cs → cs.length=4:=fun i cs hi=>by
   obtain ⟨h1,rfl⟩:=List.getElem?_eq_some_iff.1 hi
   have hl:=h.rus.len
   obtain ⟨v1,v2,e,_⟩:=h.rus.rep i _ _ (List.getElem?_eq_getElem (by omega)) hi
   rw [e];rfl
  have hat:=flat_at4 css h5
  refine ⟨some ⟨g0,0,none⟩,cap,fun i=>css.getD i [],hv,k1,k2,fun i u hi=>⟨g0,rfl,row_lt hrow,by show w.heap.size ≤ g0;omega,fun j x hj=>?_⟩,fun i u hi=>?_,fun h=>by cases h⟩
  ·have hl:=h.rus.len
   have hi2:i < css.length:=by have:=(List.getElem?_eq_some_iff.1 hi).1;omega
   have e:css.getD i []=css[i]:=by simp [List.getD,List.getElem?_eq_getElem hi2]
   simp only [e] at hj
   have h9:=hat i _ j x (List.getElem?_eq_getElem hi2) hj
   rw [← k4,List.getElem?_take] at h9
   split at h9
   ·rw [cell_of_row _ _ _ _ _ _ hrow];simpa using h9
   ·cases h9
  ·have hl:=h.rus.len
   have hi2:i < css.length:=by have:=(List.getElem?_eq_some_iff.1 hi).1;omega
   have e:css.getD i []=css[i]:=by simp [List.getD,List.getElem?_eq_getElem hi2]
   simp only [e]
   exact (h.rus.rep i u _ hi (List.getElem?_eq_getElem hi2)).mono (fun k _ hk=>by have:=hk.1;show w.heap.size ≤ k;omega)
theorem appRu {ops:Array Oper} {rest:List Oper} {o:Oper} {a:Act} {w:World} {Q:Exit → Act → World → Prop} (hgd:o.guard=none) (s x:Operand)
  (ho:o.op=.call { callee:=.builtin .append,args:=#[s,x],argTypes:=#[23,23] })
  (B:Nat) (v:Value) (n:Nat) (xs cs:List Value) (hcs:cs.length=4) (h1:∀ u ∈ cs,u.oneCell'=true) (hs:a.eval s=v) (hx:a.eval x=.slice (some ⟨w.heap.size,0,none⟩) 1 1)
  (hown:w.ownsRow B 40 4 v n xs) (hB:B ≤ w.heap.size) (hn:n < 1000000)
  (h:∀ g c w',w'.ownsRow B 40 4 (.slice (some ⟨g,0,none⟩) (n+1) c) (n+1) (xs ++ cs) → w.grownBy w' v.ownBlock → (v.ownBlock=some g ∨ w.heap.size ≤ g) → wpList Tryz.prog ops Q rest (a.put o.dst (.slice (some ⟨g,0,none⟩) (n+1) c)) w'):wpList Tryz.prog ops Q (o :: rest) a (w.alloc (.cells cs.toArray 40)):=by
 obtain ⟨i,hi,hz0,hz1,hz2⟩:=info_parts infoRu
 refine wpList_append_lies (w.alloc _) hgd s x _ ho B 40 i _ 4 64 Tryz.underlying23 hi hz0 hz1 hz2 rfl (by decide) v n xs hs (ownsRow_fr hown ((Fr.refl _ _).alloc _)) _ 1 1 cs hx (by omega) (World.news_of_block (heap_alloc_last w _)) h1 (by decide) (by unfold maxLen;omega) (by omega) (Nat.le_trans hB (by simp)) _ rfl ?_
 intro g cap w' h1 h2 h3 _
 have hg:=World.grownBy_alloc w (.cells cs.toArray 40) v.ownBlock
 exact h g cap w' h1 (hg.trans_ h2) (h3.imp id (fun h=>by rw [h];simp))
theorem RsRep.nil (w:World) (D:Nat → Prop):RsRep w D (.slice none 0 0) [] :=
 ⟨none,0,fun _=>[],rfl,Nat.le_refl _,by decide,fun i u hi=>by simp at hi,fun i u hi=>by simp at hi,fun _=>rfl⟩
theorem told_err {p n:Int} (hp:0 ≤ p) (hn:0 ≤ n):(Pol.told (.error (p,n))).1.num=n ∧ (Pol.told (.error (p,n))).1.pos=p:=⟨Int.toNat_of_nonneg hn,Int.toNat_of_nonneg hp⟩
set_option maxHeartbeats 4000000 in
set_option maxRecDepth 100000 in
theorem ref_parse (w:World) (s:ByteArray) (hs:s.size ≤ maxLen) :
  Calls Tryz.prog 7 #[.string s] w fun e w'=>∃ v,e=.returned (.tuple #[v,.int .i64 (Pol.parse s).1.num,.int .i64 (Pol.parse s).1.pos]) ∧ RsRep w' (fun i=>w.heap.size ≤ i) v (Pol.parse s).2 ∧ Fr [] w w':=by
 have HSC:=Lib.hid (ref_scan w s hs)
 obtain ⟨⟨er,tks⟩,hq⟩:∃ q,Lex.scan s=q:=⟨_,rfl⟩
 rw [hq] at HSC
 by_cases her:er=.ok
 ·subst her
  obtain ⟨hE0,hfew⟩:=scan_ok s tks hq
  have hlp:0 < tks.length:=by have:=hE0.pos;simpa using this
  obtain ⟨l,hl⟩:∃ l,tks.map Tk.ti=l:=⟨_,rfl⟩
  have hll:tks.length=l.length:=by rw [← hl];simp
  obtain ⟨F,hF⟩:∃ F,6 * l.length+7=F:=⟨_,rfl⟩
  obtain ⟨K,hK⟩:∃ K,Pol.rules (l.length+1) F [] l=K:=⟨_,rfl⟩
  have HK:=Lib.hid hK
  have HPP:Hid (Pol.parse s=Pol.told K):=by show _=_;unfold Pol.parse;rw [hq];simp only [hl,hll,hF,hK]
  have HNN:Hid (Pol.NN l):=fun t ht=>by
   rw [← hl] at ht
   obtain ⟨u,_,rfl⟩:=List.mem_map.1 ht
   exact Int.natCast_nonneg _
  rw [hl] at hE0
  have HE0:=Lib.hid hE0
  have e0:(Er.ok,tks).1.num=0:=rfl
  have e1:(Er.ok,tks).1.pos=-1:=rfl
  rw [e0,e1] at HSC
  clear hq hK hE0 e0 e1
  go_enter Tryz.func7,Tryz.ntmps7
  go_wp2_with fail
  refine HSC.out.mono ?_
  rintro e w1 ⟨v,rfl,hown,hf1⟩
  obtain ⟨g,c,rfl,hc,hcm,htk⟩:=toks_own2 hown hlp
  have HF1:=Lib.hid hf1
  have hw01:=hf1.size
  rw [hl] at htk
  rw [hll] at hc ⊢
  have HTL:Hid (TL w1 ⟨g,0,none⟩ c l):=⟨htk,HE0.out,by omega,hc,hcm⟩
  obtain ⟨ad,had⟩:∃ ad:Addr,(⟨g,0,none⟩:Addr)=ad:=⟨_,rfl⟩
  rw [had] at HTL ⊢
  clear HSC hown hf1 htk hc had
  have HRF:Hid (∀ n,Pol.Fed (Pol.rule F (l.drop n))):=fun n=>Pol.rule_fed (by have:=List.length_drop (i:=n) (l:=l);omega)
  go_wp2_with fail
  go_loopg [8,9] (l.length+1) (fun q s8 s9 W=>∃ (n:Nat) (qv:Option Addr) (cv:Nat) (css:List (List Value)) (A:List Ru),s8=.slice qv A.length cv ∧ s9=.int .i64 n ∧ n < l.length ∧ l.length - n < q ∧ A.length ≤ n ∧ Hid (K=Pol.rules q F A (l.drop n)) ∧ Hid (PS w1 (.slice qv A.length cv) css A W))
  case atStart=>exact ⟨0,none,0,[],[],rfl,rfl,by omega,by omega,Nat.le_refl _,HK.out.symm,PS.start w1⟩
  case round =>
   clear HK
   obtain ⟨n,qv,cv,css,A,rfl,rfl,hn,hnq,hAn,HK,H⟩:=hrel
   obtain ⟨t,ht,hdt⟩:=at_of hn
   have HT0:=Lib.hid ht
   obtain ⟨c0,c1,c2,c3⟩:=(HTL.out.fr H.out.f).cells HT0.out
   have hn0:(0:Int) ≤ (n:Int):=by omega
   have hn1:(n:Int) < (l.length:Int):=by omega
   cases gk with
   | zero=>exact absurd hnq (by omega)
   | succ q =>
    by_cases h5:t.k=5
    ·have h5b:(t.k != 5)=false:=by rw [h5];rfl
     have HK1:Hid (K=.ok A):=by show _=_;rw [HK.out,hdt,Pol.rules,if_pos h5]
     have HOUT:=Lib.hid (H.out.out (w:=w) hw01)
     clear HK c1 c2 c3 hdt
     go_wp2_with fail
     refine bodyPost_ret (results_tmp3 rfl _ _ _) rfl ?_
     rw [HPP.out,HK1.out]
     exact ⟨_,rfl,HOUT.out,HF1.out.trans0 H.out.f⟩
    ·have h5b:(t.k != 5)=true:=by rw [bne,beq_eq_false_iff_ne.2 h5];rfl
     obtain ⟨q16,hq16⟩:∃ q,decide (A.length=16 ∧ (Pol.is (l.drop n) 1 [112,101,114,109,105,116]=true ∨ Pol.is (l.drop n) 1 [100,101,110,121]=true))=q:=⟨_,rfl⟩
     obtain ⟨ip,hip⟩:∃ q,Pol.is (l.drop n) 1 [112,101,114,109,105,116]=q:=⟨_,rfl⟩
     obtain ⟨id_,hid_⟩:∃ q,Pol.is (l.drop n) 1 [100,101,110,121]=q:=⟨_,rfl⟩
     have HIP:Hid (∀ V,Fr [] w1 V → Calls Tryz.prog 22 #[.slice (some ad) l.length c,.int .i64 n,.int .i64 1,.string ⟨#[112,101,114,109,105,116]⟩] V fun e w'=>e=.returned (.bool ip) ∧ V=w'):=fun V hV=>ref_isB V _ c l n n 1 ⟨#[112,101,114,109,105,116]⟩ [112,101,114,109,105,116] (by kernel_rfl) ip (HTL.out.fr hV) hn rfl hip
     have HID:Hid (∀ V,Fr [] w1 V → Calls Tryz.prog 22 #[.slice (some ad) l.length c,.int .i64 n,.int .i64 1,.string ⟨#[100,101,110,121]⟩] V fun e w'=>e=.returned (.bool id_) ∧ V=w'):=fun V hV=>ref_isB V _ c l n n 1 ⟨#[100,101,110,121]⟩ [100,101,110,121] (by kernel_rfl) id_ (HTL.out.fr hV) hn rfl hid_
     go_upto_region 7 with fail
     go_cut [41] from 29 to 41 (fun s41 wx=>s41=.bool q16 ∧ wx=wr)
     case first =>
      rw [hip,hid_] at hq16
      by_cases h16:A.length=16
      ·have e16:((A.length:Int) == 16)=true:=beq_iff_eq.2 (by omega)
       cases ip with
       | true =>
        obtain rfl:q16=true:=by rw [← hq16];simp [h16]
        clear h16 hq16 hip hid_
        go_wp2_with (go_at_call 22;first | (with_reducible refine (HIP.out _ H.out.f).mono ?_;rintro e w1 ⟨rfl,rfl⟩))
        go_meet
        exact ⟨rfl,rfl⟩
       | false =>
        obtain rfl:q16=id_:=by rw [← hq16];simp [h16]
        clear h16 hq16 hip hid_
        go_wp2_with (go_at_call 22;first | (with_reducible refine (HIP.out _ H.out.f).mono ?_;rintro e w1 ⟨rfl,rfl⟩) | (with_reducible refine (HID.out _ H.out.f).mono ?_;rintro e w1 ⟨rfl,rfl⟩))
        go_meet
        exact ⟨rfl,rfl⟩
      ·have e16:((A.length:Int) == 16)=false:=beq_eq_false_iff_ne.2 (by omega)
       obtain rfl:q16=false:=by rw [← hq16];simp [h16]
       clear h16 hq16 hip hid_
       go_wp2_with fail
       go_meet
       exact ⟨rfl,rfl⟩
     case rest =>
      obtain ⟨rfl,rfl⟩:=hcut
      cases q16 with
      | true =>
       have HK1:Hid (K=.error (t.p,132)):=by show _=_;rw [HK.out];rw [hdt] at hq16 ⊢;rw [Pol.rules,if_neg h5,if_pos (of_decide_eq_true hq16)]
       have htp:0 ≤ t.p:=HNN.out t (List.mem_of_getElem? HT0.out)
       clear HK HIP HID hq16 hip hid_ c0 c1 c2 hdt
       go_wp2_with fail
       go_quiet (fail)
       go_wp2_with fail
       refine bodyPost_ret (results_tmp3 rfl _ _ _) rfl ?_
       obtain ⟨k1,k2⟩:=told_err htp (show (0:Int) ≤ 132 by decide)
       rw [HPP.out,HK1.out,k1,k2]
       exact ⟨_,rfl,RsRep.nil _ _,HF1.out.trans0 (H.out.f.drewN _)⟩
      | false =>
       have hdm:=of_decide_eq_false hq16
       have HRL:Hid (∀ V,Fr [] w1 V → Calls Tryz.prog 23 #[.slice (some ad) l.length c,.int .i64 n] V (RuPa l V (Pol.rule F (l.drop n)))):=fun V hV=>ref_rule F ((ref_all F).2.2.2.2 F (Nat.le_refl _)) V ad c l n (HTL.out.fr hV) hn (HRF.out n)
       have HNT:=Lib.hid (Pol.rule_nat F (l.drop n) (fun t ht=>HNN.out t (List.mem_of_mem_drop ht)))
       have HLE:Hid (∀ x m,Pol.rule F (l.drop n)=.ok (x,m) → m.length < (l.drop n).length ∧ Ends m):=fun x m h=>⟨(Pol.rule_len h).1,(Pol.rule_len h).2 (ends_drop HTL.out.ends hn)⟩
       have HKR:Hid (K=match Pol.rule F (l.drop n) with | .error e=>.error e | .ok (x,m)=>Pol.rules q F (A ++ [x]) m):=by
        show _=_
        rw [HK.out]
        rw [hdt] at hdm ⊢
        rw [Pol.rules,if_neg h5,if_neg hdm]
        rcases Pol.rule F (t :: l.drop (n+1)) with e | ⟨x,m⟩ <;> rfl
       obtain ⟨r,hr⟩:∃ r,Pol.rule F (l.drop n)=r:=⟨_,rfl⟩
       rw [hr] at HRL HNT HLE HKR
       clear HK HIP HID hq16 hip hid_ c0 c1 c2 c3 hdt hdm hr
       rcases r with ⟨pp,pn⟩ | ⟨x,m⟩
       all_goals
        go_wp2_with fail
        refine (HRL.out _ H.out.f).mono ?_
       ·rintro e V ⟨cs2,n4,u2,rfl,⟨d9,q1,k1,c1,q2,k2,c2,p9,rfl⟩,hu2,rfl,her,hF⟩
        have HU2:=Lib.hid hu2
        have H:=Lib.hid (H.out.fr hF)
        have her2:(pn != 0)=true:=by rw [bne,beq_eq_false_iff_ne.2 her];rfl
        have HK1:Hid (K=.error (u2.p,pn)):=HKR.out
        have HPN:=Lib.hid (HNT.out.2 u2.p pn rfl)
        have hn4:n4 < l.length:=(List.getElem?_eq_some_iff.1 hu2).1
        have hn40:(0:Int) ≤ (n4:Int):=by omega
        have hn41:(n4:Int) < (l.length:Int):=by omega
        obtain ⟨c0,c1,c2,c3⟩:=(HTL.out.fr H.out.f).cells HU2.out
        have hbl:=World.block_lt_of_cell? V _ c0
        clear HRL HNT HLE HKR hF hu2 c0 c1 c2
        go_wp2_with fail
        go_quiet (fail)
        go_wp2_with fail
        refine bodyPost_ret (results_tmp3 rfl _ _ _) rfl ?_
        obtain ⟨k1,k2⟩:=told_err HPN.out.1 HPN.out.2
        rw [HPP.out,HK1.out,k1,k2]
        exact ⟨_,rfl,RsRep.nil _ _,HF1.out.trans0 ((H.out.f.alloc _).drewN _)⟩
       ·rintro e V ⟨cs2,n4,rfl,hrep,hn4,rfl,hF⟩
        obtain ⟨q1,k1,c1,q2,k2,c2,rfl⟩:=hrep.form
        have hw1r:=H.out.f.size
        have hownl:=own_lt H.out.own
        have HREP:Hid (RuRep V (fun i=>w1.heap.size ≤ i ∧ (Value.slice qv A.length cv).ownBlock ≠ some i) [.bool x.deny,.slice q1 k1 c1,.slice q2 k2 c2,.int .i64 x.p] x):=hrep.mono (fun i _ h=>by
         have h9:wc.heap.size ≤ i:=h
         exact ⟨by omega,fun hc=>by have:=hownl i hc;omega⟩)
        have H:=Lib.hid (H.out.fr hF)
        have HK1:Hid (K=Pol.rules q F (A ++ [x]) (l.drop n4)):=HKR.out
        have hle:=(HLE.out _ _ rfl).1
        rw [List.length_drop,List.length_drop] at hle
        have hn44:n < n4:=by omega
        have hl1M:l.length ≤ 1000000:=HTL.out.few
        have hAl:A.length < 1000000:=by omega
        obtain ⟨b9,hb9⟩:∃ k,V.heap.size=k:=⟨_,rfl⟩
        have hV1:w1.heap.size ≤ V.heap.size:=H.out.f.size
        clear HRL HNT HLE HKR hF hrep hle hownl
        go_upto_region 12 with fail
        refine wp_fresh (fun U=>PS w1 (.slice qv A.length cv) css A U ∧ RuRep U (fun i=>w1.heap.size ≤ i ∧ (Value.slice qv A.length cv).ownBlock ≠ some i) [.bool x.deny,.slice q1 k1 c1,.slice q2 k2 c2,.int .i64 x.p] x ∧ U.heap[b9]?=some (.cells #[.bool x.deny,.slice q1 k1 c1,.slice q2 k2 c2,.int .i64 x.p] 40 (0,0)) ∧ w1.heap.size ≤ U.heap.size) ⟨H.out.fr ((Fr.refl [] V).alloc _),HREP.out.fr (bs:=[]) ((Fr.refl [] V).alloc _) (fun y hy _=>by cases hy),by rw [← hb9];exact heap_alloc_last V _,by simp;omega⟩ ?_
        rintro U ⟨h1,h2,h3,hBU⟩
        rw [hb9] at *
        have H1:=Lib.hid h1
        have HREP1:=Lib.hid h2
        have HBY:=Lib.hid h3
        have hbyU:b9 < U.heap.size:=row_lt h3
        clear h1 h2 h3 H HREP
        have vf:∀ i,U.frozen? ⟨b9,i,none⟩=false:=fun i=>Lib.frozen_of_heap HBY.out i
        have v0:U.cell? ⟨b9,0,none⟩=some (.bool x.deny):=by rw [Lib.cell_of_heap HBY.out];rfl
        have v1:U.cell? ⟨b9,1,none⟩=some (.slice q1 k1 c1):=by rw [Lib.cell_of_heap HBY.out];rfl
        have v2:U.cell? ⟨b9,2,none⟩=some (.slice q2 k2 c2):=by rw [Lib.cell_of_heap HBY.out];rfl
        have v3:U.cell? ⟨b9,3,none⟩=some (.int .i64 x.p):=by rw [Lib.cell_of_heap HBY.out];rfl
        go_wp2_with (at_builtin;refine appRu rfl (.tmp 62) (.tmp 64) rfl w1.heap.size _ _ _ [.bool x.deny,.slice q1 k1 c1,.slice q2 k2 c2,.int .i64 x.p] rfl (by simp [Value.oneCell']) rfl rfl H1.out.own hBU hAl ?_)
        intro g1 c9 w4 ho hg1 hgg
        have H2:=Lib.hid (H1.out.grow HREP1.out ho hg1 hgg)
        clear ho hg1 hgg v0 v1 v2 v3 vf HREP1 H1 HBY
        go_wp2_with fail
        go_roundg q
        case measure=>omega
        case rel=>exact ⟨n4,some ⟨g1,0,none⟩,c9,_,A ++ [x],by simp,rfl,hn4,by omega,by simp;omega,HK1.out,H2.out⟩
 ·have HN0:=Lib.hid (Lex.scan_num hq her)
  have HPP:Hid (Pol.parse s=(er,[])):=by
   show _=_
   unfold Pol.parse
   rw [hq]
   cases er with
   | ok=>exact absurd rfl her
   | no n=>rfl
   | pl p n=>rfl
  have e0:(er,tks).1=er:=rfl
  rw [e0] at HSC
  obtain ⟨en,hen⟩:∃ k,er.num=k:=⟨_,rfl⟩
  obtain ⟨ep,hep⟩:∃ k,er.pos=k:=⟨_,rfl⟩
  have HEP:Hid (er.num=en ∧ er.pos=ep):=⟨hen,hep⟩
  have hn0:(en != 0)=true:=by rw [← hen,bne,beq_eq_false_iff_ne.2 HN0.out];rfl
  rw [hen,hep] at HSC
  clear hq her e0 hen hep HN0
  go_enter Tryz.func7,Tryz.ntmps7
  go_wp2_with fail
  refine HSC.out.mono ?_
  rintro e w1 ⟨v,rfl,hown,hf1⟩
  have HF1:=Lib.hid hf1
  obtain ⟨qv,cv,rfl⟩:=own_form hown
  clear HSC hown hf1
  go_wp2_with fail
  refine bodyPost_ret (results_tmp3 rfl _ _ _) rfl ?_
  rw [HPP.out]
  show ∃ v,_=Ending.returned (.tuple #[v,.int .i64 er.num,.int .i64 er.pos]) ∧ _
  rw [HEP.out.1,HEP.out.2]
  exact ⟨_,rfl,RsRep.nil _ _,HF1.out⟩
end Go.Proofs.YtgklmpooonnmiaaGreatDoor

namespace Go.Proofs.YtgklmpooonnmiaaGreatDoor
open Go.RowKit
structure SA (w:World) (q:Option Addr) (c:Nat) (A:List ByteArray):Prop where
 hc:A.length ≤ c
 hm:c ≤ maxLen
 hr:∀ (j:Nat) (s:ByteArray),A[j]?=some s → ∃ b o,q=some ⟨b,o,none⟩ ∧ w.cell? ⟨b,o+j,none⟩=some (.string s)
theorem SA.fr {w w':World} {q:Option Addr} {c:Nat} {A:List ByteArray} (h:SA w q c A) (hF:Fr [] w w'):SA w' q c A :=
 ⟨h.hc,h.hm,fun j s hj=>by obtain ⟨b,o,hq,h5⟩:=h.hr j s hj;exact ⟨b,o,hq,hF.cells h5⟩⟩
theorem SA.cells {w:World} {q:Option Addr} {c:Nat} {A:List ByteArray} (h:SA w q c A) (hp:0 < A.length):∃ b o,q=some ⟨b,o,none⟩ ∧ ∀ j,j < A.length → w.cell? ⟨b,o+j,none⟩=some (.string (A.getD j ByteArray.empty)):=by
 obtain ⟨b,o,hq,_⟩:=h.hr 0 A[0] (List.getElem?_eq_getElem hp)
 refine ⟨b,o,hq,fun j hj=>?_⟩
 obtain ⟨b',o',hq',hc⟩:=h.hr j A[j] (List.getElem?_eq_getElem hj)
 rw [hq] at hq'
 cases hq'
 rw [hc]
 simp [List.getD,List.getElem?_eq_getElem hj]
def Ru.same (pl:Bool) (u v:Ru):Bool:=u.deny == v.deny && (!pl || u.p == v.p) && decide (u.scopes=v.scopes) && Ex.sames pl u.when_ v.when_
structure RuA (w:World) (cs:List Value) (u:Ru) (q1:Option Addr) (c1:Nat) (q2:Option Addr) (c2:Nat) (f:Nat → List Value):Prop where
 e:cs=[.bool u.deny,.slice q1 u.scopes.length c1,.slice q2 u.when_.length c2,.int .i64 u.p]
 s:SA w q1 c1 u.scopes
 l:LA w q2 c2 f u.when_
theorem RuA.fr {w w':World} {cs:List Value} {u:Ru} {q1:Option Addr} {c1:Nat} {q2:Option Addr} {c2:Nat} {f:Nat → List Value} (h:RuA w cs u q1 c1 q2 c2 f) (hF:Fr [] w w'):RuA w' cs u q1 c1 q2 c2 f:=⟨h.e,h.s.fr hF,h.l.fr hF⟩
def Four (w:World) (a:Addr) (cs:List Value):Prop :=
 ∃ v0 v1 v2 v3,cs=[v0,v1,v2,v3] ∧ w.cell? a=some v0 ∧ w.cell? ⟨a.block,a.off+1,none⟩=some v1 ∧ w.cell? ⟨a.block,a.off+2,none⟩=some v2 ∧ w.cell? ⟨a.block,a.off+3,none⟩=some v3
theorem Four.fr {w w':World} {a:Addr} {cs:List Value} (h:Four w a cs) (hF:Fr [] w w'):Four w' a cs:=by
 obtain ⟨v0,v1,v2,v3,rfl,h0,h1,h2,h3⟩:=h
 exact ⟨_,_,_,_,rfl,hF.cells h0,hF.cells h1,hF.cells h2,hF.cells h3⟩
structure RsA (w:World) (q:Option Addr) (c:Nat) (f:Nat → List Value) (L:List Ru):Prop where
 hc:L.length ≤ c
 hm:c ≤ maxLen
 hr:∀ i x,L[i]?=some x → ∃ ad,q=some ad ∧ Four w (ad.add (i * 4)) (f i)
 hx:∀ i x,L[i]?=some x → ∃ q1 c1 q2 c2 g,RuA w (f i) x q1 c1 q2 c2 g
theorem RsA.fr {w w':World} {q:Option Addr} {c:Nat} {f:Nat → List Value} {L:List Ru} (h:RsA w q c f L) (hF:Fr [] w w'):RsA w' q c f L :=
 ⟨h.hc,h.hm,fun i x hi=>by obtain ⟨ad,hq,h5⟩:=h.hr i x hi;exact ⟨ad,hq,h5.fr hF⟩,fun i x hi=>by obtain ⟨q1,c1,q2,c2,g,h5⟩:=h.hx i x hi;exact ⟨q1,c1,q2,c2,g,h5.fr hF⟩⟩
def Ru.sames (pl:Bool):List Ru → List Ru → Bool
 | [],[]=>true
 | x :: l,y :: m=>Ru.same pl x y && Ru.sames pl l m
 | _,_=>false
theorem Ru.sames_len {pl:Bool}:∀ {L M:List Ru},L.length ≠ M.length → Ru.sames pl L M=false
 | [],[],h=>absurd rfl h
 | [],_ :: _,_=>by simp [Ru.sames]
 | _ :: _,[],_=>by simp [Ru.sames]
 | x :: l,y :: m,h=>by
  rw [Ru.sames,Ru.sames_len (L:=l) (M:=m) (by simpa using h),Bool.and_false]
theorem Ru.sames_drop {pl:Bool} {L M:List Ru} {k:Nat} {x y:Ru} (hx:L[k]?=some x) (hy:M[k]?=some y):Ru.sames pl (L.drop k) (M.drop k)=(Ru.same pl x y && Ru.sames pl (L.drop (k+1)) (M.drop (k+1))):=by
 obtain ⟨h1,rfl⟩:=List.getElem?_eq_some_iff.1 hx
 obtain ⟨h2,rfl⟩:=List.getElem?_eq_some_iff.1 hy
 rw [List.drop_eq_getElem_cons h1,List.drop_eq_getElem_cons h2,Ru.sames]
theorem Ru.sames_end {pl:Bool} {L M:List Ru} {k:Nat} (h1:L.length ≤ k) (h2:M.length ≤ k):Ru.sames pl (L.drop k) (M.drop k)=true:=by
 rw [List.drop_eq_nil_of_le h1,List.drop_eq_nil_of_le h2,Ru.sames]
end Go.Proofs.YtgklmpooonnmiaaGreatDoor

namespace Go.Proofs.YtgklmpooonnmiaaGreatDoor
open Go.RowKit
theorem Ex.same_mk (pl:Bool) (op:Int) (s:ByteArray) (n:Int) (L:List Ex) (p op':Int) (s':ByteArray) (n':Int) (L':List Ex) (p':Int) :
  Ex.same pl (.mk op s n L p) (.mk op' s' n' L' p')=(op == op' && (s.toList == s'.toList) && n == n' && (!pl || p == p') && Ex.sames pl L L'):=by rw [Ex.same]
set_option maxHeartbeats 4000000 in
set_option maxRecDepth 100000 in
theorem ref_same_step (w:World) (pl:Bool) (op:Int) (s:ByteArray) (n:Int) (L:List Ex) (p:Int) (q:Option Addr) (c:Nat) (f:Nat → List Value) (op':Int) (s':ByteArray) (n':Int) (L':List Ex) (p':Int) (q':Option Addr) (c':Nat) (f':Nat → List Value)
  (h:LA w q c f L) (h':LA w q' c' f' L')
  (hS:∀ (W:World) (i:Nat) (x y:Ex),Fr [] w W → L[i]?=some x → L'[i]?=some y → Calls Tryz.prog 25 #[.agg (f i).toArray,.agg (f' i).toArray,.bool pl] W fun e w'=>e=.returned (.bool (Ex.same pl x y)) ∧ Fr [] W w') :
  Calls Tryz.prog 25 #[.agg #[.int .i64 op,.string s,.int .i64 n,.slice q L.length c,.int .i64 p],.agg #[.int .i64 op',.string s',.int .i64 n',.slice q' L'.length c',.int .i64 p'],.bool pl] w fun e w'=>e=.returned (.bool (Ex.same pl (.mk op s n L p) (.mk op' s' n' L' p'))) ∧ Fr [] w w':=by
 have HR:=Lib.hid (Ex.same_mk pl op s n L p op' s' n' L' p')
 have HL:=Lib.hid h
 have HL':=Lib.hid h'
 have HS:=Lib.hid hS
 have hb:L.length ≤ 9223372036854775807:=by have h1:=h.hc;have h2:=h.hm;unfold maxLen at h2;omega
 have hb':L'.length ≤ 9223372036854775807:=by have h1:=h'.hc;have h2:=h'.hm;unfold maxLen at h2;omega
 clear h h' hS
 cases h1:(op == op') with
 | false =>
  have d1:(op != op')=true:=by rw [bne,h1];rfl
  rw [h1] at HR
  clear h1
  go_enter Tryz.func25,Tryz.ntmps25
  go_wp2_with fail
  go_ret
  rw [HR.out]
  exact ⟨by simp,((Fr.refl _ _).alloc _).alloc _⟩
 | true =>
  have d1:(op != op')=false:=by rw [bne,h1];rfl
  cases h2:(s.toList == s'.toList) with
  | false =>
   have d2:(s.toList != s'.toList)=true:=by rw [bne,h2];rfl
   rw [h1,h2] at HR
   clear h1
   go_enter Tryz.func25,Tryz.ntmps25
   go_wp2_with fail
   go_ret
   rw [HR.out]
   exact ⟨by simp,((Fr.refl _ _).alloc _).alloc _⟩
  | true =>
   have d2:(s.toList != s'.toList)=false:=by rw [bne,h2];rfl
   cases h3:(n == n') with
   | false =>
    have d3:(n != n')=true:=by rw [bne,h3];rfl
    rw [h1,h2,h3] at HR
    clear h1 h3
    go_enter Tryz.func25,Tryz.ntmps25
    go_wp2_with fail
    go_ret
    rw [HR.out]
    exact ⟨by simp,((Fr.refl _ _).alloc _).alloc _⟩
   | true =>
    have d3:(n != n')=false:=by rw [bne,h3];rfl
    cases h4:(!pl || p == p') with
    | false =>
     obtain rfl:pl=true:=by cases pl with | true=>rfl | false=>simp at h4
     have h4':(p == p')=false:=by simpa using h4
     have d4:(p != p')=true:=by rw [bne,h4'];rfl
     rw [h1,h2,h3,h4] at HR
     clear h1 h3 h4 h4'
     go_enter Tryz.func25,Tryz.ntmps25
     go_wp2_with fail
     go_ret
     rw [HR.out]
     exact ⟨by simp,((Fr.refl _ _).alloc _).alloc _⟩
    | true =>
     rw [h1,h2,h3,h4] at HR
     by_cases h5:L.length=L'.length
     ·have d5:((L.length:Int) != (L'.length:Int))=false:=by simp;omega
      have HLEN:=Lib.hid h5
      have HR2:Hid (Ex.same pl (.mk op s n L p) (.mk op' s' n' L' p')=Ex.sames pl L L'):=by show _=_;rw [HR.out];simp
      clear HR
      cases pl
      ·clear h1 h3 h4 h5
       have HAL:=Lib.hid (alloc2 w (.cells #[.int .i64 op,.string s,.int .i64 n,.slice q L.length c,.int .i64 p] 42) (.cells #[.int .i64 op',.string s',.int .i64 n',.slice q' L'.length c',.int .i64 p'] 42))
       go_enter Tryz.func25,Tryz.ntmps25
       go_wp2_with fail
       go_loopg [7] L.length (fun m s7 W=>∃ k:Nat,k ≤ L.length ∧ m=L.length - k ∧ s7=.int .i64 k ∧ Hid (Fr [] w W) ∧ Hid (Ex.sames false L L'=Ex.sames false (L.drop k) (L'.drop k)) ∧ Hid (W.heap[w.heap.size]?=some (.cells #[.int .i64 op,.string s,.int .i64 n,.slice q L.length c,.int .i64 p] 42 (0,0))) ∧ Hid (W.heap[w.heap.size+1]?=some (.cells #[.int .i64 op',.string s',.int .i64 n',.slice q' L'.length c',.int .i64 p'] 42 (0,0))))
       case atStart=>exact ⟨0,by omega,by omega,rfl,((Fr.refl [] w).alloc _).alloc _,rfl,HAL.out.1,HAL.out.2⟩
       case round =>
        obtain ⟨k,hk,hm,rfl,HF,HE,HB1,HB2⟩:=hrel
        have HM:=Lib.hid hm
        clear hm d1 d2 d3 d5 HAL
        have z3:wr.cell? ⟨w.heap.size,3,none⟩=some (.slice q L.length c):=by rw [Lib.cell_of_heap HB1.out];rfl
        have z4:wr.cell? ⟨w.heap.size+1,3,none⟩=some (.slice q' L'.length c'):=by rw [Lib.cell_of_heap HB2.out];rfl
        by_cases hlt:k < L.length
        ·have hlt':(k:Int) < (L.length:Int):=by omega
         have hlt2:(k:Int) < (L'.length:Int):=by have:=HLEN.out;omega
         have hk0:(0:Int) ≤ (k:Int):=by omega
         obtain ⟨x,hx⟩:∃ x,L[k]?=some x:=⟨_,List.getElem?_eq_getElem hlt⟩
         obtain ⟨y,hy⟩:∃ y,L'[k]?=some y:=⟨_,List.getElem?_eq_getElem (by have:=HLEN.out;omega)⟩
         obtain ⟨ad,rfl,h5⟩:=(HL.out.fr HF.out).hr k x hx
         obtain ⟨ad',rfl,h5'⟩:=(HL'.out.fr HF.out).hr k y hy
         obtain ⟨v0,v1,v2,v3,v4,hf0,a0,a1,a2,a3,a4⟩:=h5
         obtain ⟨u0,u1,u2,u3,u4,hf1,b0,b1,b2,b3,b4⟩:=h5'
         obtain ⟨xo,xs,xn,xq,xk,xc,xp,hf2⟩:=(HL.out.hx k x hx).form
         obtain ⟨yo,ys,yn,yq,yk,yc,yp,hf2'⟩:=(HL'.out.hx k y hy).form
         rw [hf0] at hf2
         rw [hf1] at hf2'
         simp only [List.cons.injEq,and_true] at hf2 hf2'
         obtain ⟨rfl,rfl,rfl,rfl,rfl⟩:=hf2
         obtain ⟨rfl,rfl,rfl,rfl,rfl⟩:=hf2'
         have HCL:Hid (∀ W,Fr [] w W → Calls Tryz.prog 25 #[.agg #[.int .i64 xo,.string xs,.int .i64 xn,.slice xq xk xc,.int .i64 xp],.agg #[.int .i64 yo,.string ys,.int .i64 yn,.slice yq yk yc,.int .i64 yp],.bool false] W fun e w'=>e=.returned (.bool (Ex.same false x y)) ∧ Fr [] W w'):=fun W hW=>by
          have h9:=HS.out W k x y hW hx hy
          rw [hf0,hf1] at h9
          exact h9
         have HSD:=Lib.hid (Ex.sames_drop (pl:=false) hx hy)
         obtain ⟨z,hz⟩:∃ z,Ex.same false x y=z:=⟨_,rfl⟩
         rw [hz] at HCL HSD
         have hbl:=World.block_lt_of_cell? wr _ b0
         have hal:=World.block_lt_of_cell? wr _ a0
         clear hf0 hf1 hx hy hz
         go_wp2_with fail
         go_still_tail 11,(by kernel_rfl)
         go_wp2_with fail
         refine (HCL.out _ HF.out.drew).mono ?_
         rintro e w2 ⟨rfl,hF2⟩
         have HF2:=Lib.hid (HF.out.drew.trans0 hF2)
         have HB1':=Lib.hid (hF2.row HB1.out (by simp))
         have HB2':=Lib.hid (hF2.row HB2.out (by simp))
         clear hF2 HCL
         cases z
         ·have HEE:Hid (Ex.sames false L L'=false):=by show _=_;rw [HE.out,HSD.out,Bool.false_and]
          go_wp2_with fail
          go_ret
          rw [HR2.out,HEE.out]
          exact ⟨rfl,HF2.out⟩
         ·have HEE:Hid (Ex.sames false L L'=Ex.sames false (L.drop (k+1)) (L'.drop (k+1))):=by show _=_;rw [HE.out,HSD.out,Bool.true_and]
          go_wp2_with fail
          go_roundg (L.length - (k+1))
          case measure=>have:=HM.out;omega
          case rel=>exact ⟨k+1,by omega,rfl,by go_num,HF2.out,HEE.out,HB1'.out,HB2'.out⟩
        ·have HEE:Hid (Ex.sames false L L'=true):=by show _=_;rw [HE.out];exact Ex.sames_end (by omega) (by have:=HLEN.out;omega)
         go_wp2_with fail
         go_ret
         rw [HR2.out,HEE.out]
         exact ⟨rfl,HF.out⟩
      ·have h4':(p == p')=true:=by simpa using h4
       have d4:(p != p')=false:=by rw [bne,h4'];rfl
       clear h1 h3 h4 h4' h5
       have HAL:=Lib.hid (alloc2 w (.cells #[.int .i64 op,.string s,.int .i64 n,.slice q L.length c,.int .i64 p] 42) (.cells #[.int .i64 op',.string s',.int .i64 n',.slice q' L'.length c',.int .i64 p'] 42))
       go_enter Tryz.func25,Tryz.ntmps25
       go_wp2_with fail
       go_loopg [7] L.length (fun m s7 W=>∃ k:Nat,k ≤ L.length ∧ m=L.length - k ∧ s7=.int .i64 k ∧ Hid (Fr [] w W) ∧ Hid (Ex.sames true L L'=Ex.sames true (L.drop k) (L'.drop k)) ∧ Hid (W.heap[w.heap.size]?=some (.cells #[.int .i64 op,.string s,.int .i64 n,.slice q L.length c,.int .i64 p] 42 (0,0))) ∧ Hid (W.heap[w.heap.size+1]?=some (.cells #[.int .i64 op',.string s',.int .i64 n',.slice q' L'.length c',.int .i64 p'] 42 (0,0))))
       case atStart=>exact ⟨0,by omega,by omega,rfl,((Fr.refl [] w).alloc _).alloc _,rfl,HAL.out.1,HAL.out.2⟩
       case round =>
        obtain ⟨k,hk,hm,rfl,HF,HE,HB1,HB2⟩:=hrel
        have HM:=Lib.hid hm
        clear hm d1 d2 d3 d5 HAL
        have z3:wr.cell? ⟨w.heap.size,3,none⟩=some (.slice q L.length c):=by rw [Lib.cell_of_heap HB1.out];rfl
        have z4:wr.cell? ⟨w.heap.size+1,3,none⟩=some (.slice q' L'.length c'):=by rw [Lib.cell_of_heap HB2.out];rfl
        by_cases hlt:k < L.length
        ·have hlt':(k:Int) < (L.length:Int):=by omega
         have hlt2:(k:Int) < (L'.length:Int):=by have:=HLEN.out;omega
         have hk0:(0:Int) ≤ (k:Int):=by omega
         obtain ⟨x,hx⟩:∃ x,L[k]?=some x:=⟨_,List.getElem?_eq_getElem hlt⟩
         obtain ⟨y,hy⟩:∃ y,L'[k]?=some y:=⟨_,List.getElem?_eq_getElem (by have:=HLEN.out;omega)⟩
         obtain ⟨ad,rfl,h5⟩:=(HL.out.fr HF.out).hr k x hx
         obtain ⟨ad',rfl,h5'⟩:=(HL'.out.fr HF.out).hr k y hy
         obtain ⟨v0,v1,v2,v3,v4,hf0,a0,a1,a2,a3,a4⟩:=h5
         obtain ⟨u0,u1,u2,u3,u4,hf1,b0,b1,b2,b3,b4⟩:=h5'
         obtain ⟨xo,xs,xn,xq,xk,xc,xp,hf2⟩:=(HL.out.hx k x hx).form
         obtain ⟨yo,ys,yn,yq,yk,yc,yp,hf2'⟩:=(HL'.out.hx k y hy).form
         rw [hf0] at hf2
         rw [hf1] at hf2'
         simp only [List.cons.injEq,and_true] at hf2 hf2'
         obtain ⟨rfl,rfl,rfl,rfl,rfl⟩:=hf2
         obtain ⟨rfl,rfl,rfl,rfl,rfl⟩:=hf2'
         have HCL:Hid (∀ W,Fr [] w W → Calls Tryz.prog 25 #[.agg #[.int .i64 xo,.string xs,.int .i64 xn,.slice xq xk xc,.int .i64 xp],.agg #[.int .i64 yo,.string ys,.int .i64 yn,.slice yq yk yc,.int .i64 yp],.bool true] W fun e w'=>e=.returned (.bool (Ex.same true x y)) ∧ Fr [] W w'):=fun W hW=>by
          have h9:=HS.out W k x y hW hx hy
          rw [hf0,hf1] at h9
          exact h9
         have HSD:=Lib.hid (Ex.sames_drop (pl:=true) hx hy)
         obtain ⟨z,hz⟩:∃ z,Ex.same true x y=z:=⟨_,rfl⟩
         rw [hz] at HCL HSD
         have hbl:=World.block_lt_of_cell? wr _ b0
         have hal:=World.block_lt_of_cell? wr _ a0
         clear hf0 hf1 hx hy hz
         go_wp2_with fail
         go_still_tail 11,(by kernel_rfl)
         go_wp2_with fail
         refine (HCL.out _ HF.out.drew).mono ?_
         rintro e w2 ⟨rfl,hF2⟩
         have HF2:=Lib.hid (HF.out.drew.trans0 hF2)
         have HB1':=Lib.hid (hF2.row HB1.out (by simp))
         have HB2':=Lib.hid (hF2.row HB2.out (by simp))
         clear hF2 HCL
         cases z
         ·have HEE:Hid (Ex.sames true L L'=false):=by show _=_;rw [HE.out,HSD.out,Bool.false_and]
          go_wp2_with fail
          go_ret
          rw [HR2.out,HEE.out]
          exact ⟨rfl,HF2.out⟩
         ·have HEE:Hid (Ex.sames true L L'=Ex.sames true (L.drop (k+1)) (L'.drop (k+1))):=by show _=_;rw [HE.out,HSD.out,Bool.true_and]
          go_wp2_with fail
          go_roundg (L.length - (k+1))
          case measure=>have:=HM.out;omega
          case rel=>exact ⟨k+1,by omega,rfl,by go_num,HF2.out,HEE.out,HB1'.out,HB2'.out⟩
        ·have HEE:Hid (Ex.sames true L L'=true):=by show _=_;rw [HE.out];exact Ex.sames_end (by omega) (by have:=HLEN.out;omega)
         go_wp2_with fail
         go_ret
         rw [HR2.out,HEE.out]
         exact ⟨rfl,HF.out⟩
     ·have d5:((L.length:Int) != (L'.length:Int))=true:=by simp;omega
      rw [Ex.sames_len h5] at HR
      cases pl
      ·clear h1 h3 h4 h5
       go_enter Tryz.func25,Tryz.ntmps25
       go_wp2_with fail
       go_ret
       rw [HR.out]
       exact ⟨by simp,((Fr.refl _ _).alloc _).alloc _⟩
      ·have h4':(p == p')=true:=by simpa using h4
       have d4:(p != p')=false:=by rw [bne,h4'];rfl
       clear h1 h3 h4 h4' h5
       go_enter Tryz.func25,Tryz.ntmps25
       go_wp2_with fail
       go_ret
       rw [HR.out]
       exact ⟨by simp,((Fr.refl _ _).alloc _).alloc _⟩
theorem ref_same {pl:Bool} {w:World} {ca:List Value} {a:Ex} (ha:RepA w ca a):∀ (W:World) (cb:List Value) (b:Ex),Fr [] w W → RepA W cb b →
  Calls Tryz.prog 25 #[.agg ca.toArray,.agg cb.toArray,.bool pl] W fun e w'=>e=.returned (.bool (Ex.same pl a b)) ∧ Fr [] W w':=by
 induction ha with
 | mk op s n L p q c f hc hm hr hx ih =>
  intro W cb b hW hb
  cases hb with
  | mk op' s' n' L' p' q' c' f' hc' hm' hr' hx' =>
   rw [agg5,agg5]
   have h1:LA w q c f L:=⟨hc,hm,hr,hx⟩
   have h2:LA W q' c' f' L':=⟨hc',hm',hr',hx'⟩
   exact ref_same_step W pl op s n L p q c f op' s' n' L' p' q' c' f' (h1.fr hW) h2 (fun V i x y hV hx1 hy1=>ih i x hx1 V (f' i) y (hW.trans0 hV) ((h2.hx i y hy1).fr hV))
end Go.Proofs.YtgklmpooonnmiaaGreatDoor

namespace Go.Proofs.YtgklmpooonnmiaaGreatDoor
open Go.RowKit
set_option maxHeartbeats 8000000 in
set_option maxRecDepth 100000 in
theorem ref_Same_true (w:World) (q q':Option Addr) (c c':Nat) (f f':Nat → List Value) (L L':List Ru) (h:RsA w q c f L) (h':RsA w q' c' f' L') :
  Calls Tryz.prog 10 #[.slice q L.length c,.slice q' L'.length c',.bool true] w fun e w'=>e=.returned (.bool (Ru.sames true L L')) ∧ Fr [] w w':=by
 have HL:=Lib.hid h
 have HL':=Lib.hid h'
 have hb:L.length ≤ 9223372036854775807:=by have h1:=h.hc;have h2:=h.hm;unfold maxLen at h2;omega
 have hb':L'.length ≤ 9223372036854775807:=by have h1:=h'.hc;have h2:=h'.hm;unfold maxLen at h2;omega
 clear h h'
 by_cases hlen:L.length=L'.length
 ·have e1:((L.length:Int) != (L'.length:Int))=false:=by simp;omega
  have HLEN:=Lib.hid hlen
  clear hlen
  go_enter Tryz.func10,Tryz.ntmps10
  go_wp2_with fail
  go_loopg [7] L.length (fun m s7 W=>∃ k:Nat,k ≤ L.length ∧ m=L.length - k ∧ s7=.int .i64 k ∧ Hid (Fr [] w W) ∧ Hid (Ru.sames true L L'=Ru.sames true (L.drop k) (L'.drop k)))
  case atStart=>exact ⟨0,by omega,by omega,rfl,Fr.refl _ _,rfl⟩
  case round =>
   obtain ⟨k,hk,hm,rfl,HF,HE⟩:=hrel
   have HM:=Lib.hid hm
   clear hm
   by_cases hlt:k < L.length
   ·have hlt':(k:Int) < (L.length:Int):=by omega
    have hlt2:(k:Int) < (L'.length:Int):=by have:=HLEN.out;omega
    have hk0:(0:Int) ≤ (k:Int):=by omega
    obtain ⟨x,hx⟩:∃ x,L[k]?=some x:=⟨_,List.getElem?_eq_getElem hlt⟩
    obtain ⟨y,hy⟩:∃ y,L'[k]?=some y:=⟨_,List.getElem?_eq_getElem (by have:=HLEN.out;omega)⟩
    obtain ⟨ad,rfl,h5⟩:=(HL.out.fr HF.out).hr k x hx
    obtain ⟨ad',rfl,h5'⟩:=(HL'.out.fr HF.out).hr k y hy
    have H5:=Lib.hid h5
    have H5':=Lib.hid h5'
    obtain ⟨v0,v1,v2,v3,hf0,a0,a1,a2,a3⟩:=h5
    obtain ⟨u0,u1,u2,u3,hf1,b0,b1,b2,b3⟩:=h5'
    obtain ⟨q1,c1,q2,c2,g,hA⟩:=(HL.out.fr HF.out).hx k x hx
    obtain ⟨q1',c1',q2',c2',g',hA'⟩:=(HL'.out.fr HF.out).hx k y hy
    have hf2:=hA.e
    have hf2':=hA'.e
    have HS:=Lib.hid hA.s
    have HS':=Lib.hid hA'.s
    have HX:=Lib.hid hA.l
    have HX':=Lib.hid hA'.l
    rw [hf0] at hf2
    rw [hf1] at hf2'
    simp only [List.cons.injEq,and_true] at hf2 hf2'
    obtain ⟨rfl,rfl,rfl,rfl⟩:=hf2
    obtain ⟨rfl,rfl,rfl,rfl⟩:=hf2'
    rw [hf0] at H5
    rw [hf1] at H5'
    have HSD:=Lib.hid (Ru.sames_drop (pl:=true) hx hy)
    obtain ⟨xd,xs,xw,xp⟩:=x
    obtain ⟨yd,ys,yw,yp⟩:=y
    have HRS:Hid (Ru.same true ⟨xd,xs,xw,xp⟩ ⟨yd,ys,yw,yp⟩=(xd == yd && (!true || xp == yp) && decide (xs=ys) && Ex.sames true xw yw)):=rfl
    have hs1:xs.length ≤ 9223372036854775807:=by have h1:=HS.out.hc;have h2:=HS.out.hm;unfold maxLen at h2;simp only [] at h1;omega
    have hs2:ys.length ≤ 9223372036854775807:=by have h1:=HS'.out.hc;have h2:=HS'.out.hm;unfold maxLen at h2;simp only [] at h1;omega
    have hw1:xw.length ≤ 9223372036854775807:=by have h1:=HX.out.hc;have h2:=HX.out.hm;unfold maxLen at h2;simp only [] at h1;omega
    have hw2:yw.length ≤ 9223372036854775807:=by have h1:=HX'.out.hc;have h2:=HX'.out.hm;unfold maxLen at h2;simp only [] at h1;omega
    clear hf0 hf1 hx hy hA hA'
    dsimp only at a0 a1 a2 a3 b0 b1 b2 b3 HS HS' HX HX' H5 H5'
    cases h1:(xd == yd) with
    | false =>
     have d1:(xd != yd)=true:=by rw [bne,h1];rfl
     have HEE:Hid (Ru.sames true L L'=false):=by show _=_;rw [HE.out,HSD.out,HRS.out,h1];simp
     go_wp2_with fail
     go_quiet (fail)
     refine then_fresh (fun V=>Fr [] w V) (HF.out.trans0 ((Fr.refl [] _).drewN _)) ?_
     intro V hV
     go_wp2_with fail
     go_ret
     rw [HEE.out]
     exact ⟨rfl,hV⟩
    | true =>
     have d1:(xd != yd)=false:=by rw [bne,h1];rfl
     cases h2:(!true || xp == yp) with
     | false =>
      have h2':(xp == yp)=false:=by simpa using h2
      have d2:(xp != yp)=true:=by rw [bne,h2'];rfl
      have HEE:Hid (Ru.sames true L L'=false):=by show _=_;rw [HE.out,HSD.out,HRS.out,h1,h2];simp
      go_wp2_with fail
      go_quiet (fail)
      refine then_fresh (fun V=>Fr [] w V) (HF.out.trans0 ((Fr.refl [] _).drewN _)) ?_
      intro V hV
      go_wp2_with fail
      go_ret
      rw [HEE.out]
      exact ⟨rfl,hV⟩
     | true =>
      by_cases h3:xs.length=ys.length
      ·have h3':((xs.length:Int) == (ys.length:Int))=true:=by simp;omega
       have d3:((xs.length:Int) != (ys.length:Int))=false:=by simp;omega
       have H3:=Lib.hid h3
       clear h3
       by_cases h4:xw.length=yw.length
       ·have h4':((xw.length:Int) == (yw.length:Int))=true:=by simp;omega
        have d4:((xw.length:Int) != (yw.length:Int))=false:=by simp;omega
        have H4:=Lib.hid h4
        have HRS2:Hid (Ru.same true ⟨xd,xs,xw,xp⟩ ⟨yd,ys,yw,yp⟩=(decide (xs=ys) && Ex.sames true xw yw)):=by show _=_;rw [HRS.out,h1,h2];simp
        clear h4
        have h2':(xp == yp)=true:=(by simpa using h2);have d2:(xp != yp)=false:=(by rw [bne,h2'];rfl)
        go_wp2_with fail
        go_quiet (fail)
        refine then_fresh (fun V=>Fr [] wr V) ((Fr.refl [] _).drewN _) ?_
        intro V hV
        have HV:=Lib.hid hV
        clear hV a0 a1 a2 a3 b0 b1 b2 b3
        clear d1 d2 d3 d4 h1 h2 h2' h3' h4'
        go_wp2_with fail
        have HFO:=Lib.hid HF.out
        obtain ⟨wo,hwo⟩:∃ wo,wr=wo:=⟨_,rfl⟩
        rw [hwo] at HFO HF H5 H5' HS HS' HX HX' HV
        clear hwo
        go_loopg [8] xs.length (fun m s8 W=>∃ j:Nat,j ≤ xs.length ∧ m=xs.length - j ∧ s8=.int .i64 j ∧ Hid (Fr [] wo W) ∧ Hid (xs.take j=ys.take j))
        case atStart=>exact ⟨0,by omega,by omega,rfl,HV.out,rfl⟩
        case round =>
         clear HV
         obtain ⟨j,hj,hm,rfl,HG,HT⟩:=hrel
         have HMJ:=Lib.hid hm
         clear hm
         obtain ⟨w0,w1,w2,w3,hw,a0,a1,a2,a3⟩:=H5.out.fr HG.out
         obtain ⟨z0,z1,z2,z3,hz,b0,b1,b2,b3⟩:=H5'.out.fr HG.out
         simp only [List.cons.injEq,and_true] at hw hz
         obtain ⟨rfl,rfl,rfl,rfl⟩:=hw
         obtain ⟨rfl,rfl,rfl,rfl⟩:=hz
         by_cases hjl:j < xs.length
         ·have hjl':(j:Int) < (xs.length:Int):=by omega
          have hjl2:(j:Int) < (ys.length:Int):=by have:=H3.out;omega
          have hj0:(0:Int) ≤ (j:Int):=by omega
          obtain ⟨s,hs⟩:∃ s,xs[j]?=some s:=⟨_,List.getElem?_eq_getElem hjl⟩
          obtain ⟨t,ht⟩:∃ t,ys[j]?=some t:=⟨_,List.getElem?_eq_getElem (by have:=H3.out;omega)⟩
          obtain ⟨sb,so,rfl,sc⟩:=(HS.out.fr HG.out).hr j s hs
          obtain ⟨tb,tq,rfl,tc⟩:=(HS'.out.fr HG.out).hr j t ht
          by_cases hst:s=t
          ·subst hst
           have HT2:Hid (xs.take (j+1)=ys.take (j+1)):=by show _=_;rw [List.take_add_one,List.take_add_one,HT.out,hs,ht]
           clear hs ht
           go_wp2_with fail
           go_quiet (fail)
           refine then_fresh (fun V=>Fr [] wo V) (HG.out.trans0 ((Fr.refl [] _).drewN _)) ?_
           intro V hV
           have HV:=Lib.hid hV
           clear hV a0 a1 a2 a3 b0 b1 b2 b3 sc tc
           go_wp2_with fail
           go_roundg (xs.length - (j+1))
           case measure=>have:=HMJ.out;omega
           case rel=>exact ⟨j+1,by omega,rfl,by go_num,HV.out,HT2.out⟩
          ·have hst':(s.toList == t.toList)=false:=by
            rw [beq_eq_false_iff_ne];intro h;exact hst (nats_inj.1 (by have:=h;rw [ByteArray.toList_eq,ByteArray.toList_eq] at this;unfold nats;rw [this]))
           have hst2:(s.toList != t.toList)=true:=by rw [bne,hst'];rfl
           have hne:xs ≠ ys:=fun h=>by rw [h,ht] at hs;exact hst (Option.some.inj hs).symm
           have HEE:Hid (Ru.sames true L L'=false):=by show _=_;rw [HE.out,HSD.out,HRS2.out,decide_eq_false hne];simp
           clear hs ht hne hst
           go_wp2_with fail
           go_quiet (fail)
           refine then_fresh (fun V=>Fr [] wo V) (HG.out.trans0 ((Fr.refl [] _).drewN _)) ?_
           intro V hV
           have HV:=Lib.hid hV
           clear hV
           go_wp2_with fail
           go_ret
           rw [HEE.out]
           exact ⟨rfl,HFO.out.trans0 HV.out⟩
         ·have hxy:xs=ys:=by
           have h9:=HT.out
           rw [List.take_of_length_le (by omega),List.take_of_length_le (by have:=H3.out;omega)] at h9
           exact h9
          have HRS3:Hid (Ru.same true ⟨xd,xs,xw,xp⟩ ⟨yd,ys,yw,yp⟩=Ex.sames true xw yw):=by show _=_;rw [HRS2.out,decide_eq_true hxy];simp
          clear hxy
          have hjn:¬ (j:Int) < (xs.length:Int):=by omega
          go_wp2_with fail
          clear a0 a1 a2 a3 b0 b1 b2 b3
          have HG0:=Lib.hid HG.out
          go_loopg [9] xw.length (fun m s9 W=>∃ i:Nat,i ≤ xw.length ∧ m=xw.length - i ∧ s9=.int .i64 i ∧ Hid (Fr [] wo W) ∧ Hid (Ex.sames true xw yw=Ex.sames true (xw.drop i) (yw.drop i)))
          case atStart=>exact ⟨0,by omega,by omega,rfl,HG0.out,rfl⟩
          case round =>
           clear HG0 HG HT HMJ
           obtain ⟨i,hi,hm,rfl,HG,HD⟩:=hrel
           have HMI:=Lib.hid hm
           clear hm
           obtain ⟨w0,w1,w2,w3,hw,a0,a1,a2,a3⟩:=H5.out.fr HG.out
           obtain ⟨z0,z1,z2,z3,hz,b0,b1,b2,b3⟩:=H5'.out.fr HG.out
           simp only [List.cons.injEq,and_true] at hw hz
           obtain ⟨rfl,rfl,rfl,rfl⟩:=hw
           obtain ⟨rfl,rfl,rfl,rfl⟩:=hz
           by_cases hil:i < xw.length
           ·have hil':(i:Int) < (xw.length:Int):=by omega
            have hil2:(i:Int) < (yw.length:Int):=by have:=H4.out;omega
            have hi0:(0:Int) ≤ (i:Int):=by omega
            obtain ⟨s,hs⟩:∃ s,xw[i]?=some s:=⟨_,List.getElem?_eq_getElem hil⟩
            obtain ⟨t,ht⟩:∃ t,yw[i]?=some t:=⟨_,List.getElem?_eq_getElem (by have:=H4.out;omega)⟩
            have hLA:=HX.out.fr HG.out
            have hLB:=HX'.out.fr HG.out
            obtain ⟨sd,rfl,h5⟩:=hLA.hr i s hs
            obtain ⟨td,rfl,h6⟩:=hLB.hr i t ht
            have hRA:=hLA.hx i s hs
            have hRB:=hLB.hx i t ht
            obtain ⟨xo,xs1,xn,xq,xk,xc,xp1,hf2⟩:=hRA.form
            obtain ⟨yo,ys1,yn,yq,yk,yc,yp1,hf3⟩:=hRB.form
            have HCL:Hid (∀ W,Fr [] wr W → Calls Tryz.prog 25 #[.agg #[.int .i64 xo,.string xs1,.int .i64 xn,.slice xq xk xc,.int .i64 xp1],.agg #[.int .i64 yo,.string ys1,.int .i64 yn,.slice yq yk yc,.int .i64 yp1],.bool true] W fun e w'=>e=.returned (.bool (Ex.same true s t)) ∧ Fr [] W w'):=fun W hW=>by
             have h9:=ref_same (pl:=true) hRA W _ _ hW (hRB.fr hW)
             rw [hf2,hf3] at h9
             exact h9
            rw [hf2] at h5
            rw [hf3] at h6
            obtain ⟨e0,e1',e2,e3,e4,he,c0,c1',c2',c3,c4⟩:=h5
            obtain ⟨f0,f1,f2,f3,f4,hfe,d0,d1',d2',d3',d4'⟩:=h6
            simp only [List.cons.injEq,and_true] at he hfe
            obtain ⟨rfl,rfl,rfl,rfl,rfl⟩:=he
            obtain ⟨rfl,rfl,rfl,rfl,rfl⟩:=hfe
            have HSI:=Lib.hid (Ex.sames_drop (pl:=true) hs ht)
            obtain ⟨z,hz⟩:∃ z,Ex.same true s t=z:=⟨_,rfl⟩
            rw [hz] at HCL HSI
            clear hs ht hLA hLB hRA hRB hf2 hf3 hz
            go_wp2_with fail
            go_still_tail 17,(by kernel_rfl)
            go_wp2_with fail
            refine (HCL.out _ (Fr.refl [] _).drew).mono ?_
            rintro e w9 ⟨rfl,hF2⟩
            have HF2:=Lib.hid (HG.out.drew.trans0 hF2)
            clear hF2 HCL
            cases z
            ·have HEE:Hid (Ru.sames true L L'=false):=by show _=_;rw [HE.out,HSD.out,HRS3.out,HD.out,HSI.out];simp
             go_wp2_with fail
             go_ret
             rw [HEE.out]
             exact ⟨rfl,HFO.out.trans0 HF2.out⟩
            ·have HDD:Hid (Ex.sames true xw yw=Ex.sames true (xw.drop (i+1)) (yw.drop (i+1))):=by show _=_;rw [HD.out,HSI.out,Bool.true_and]
             go_wp2_with fail
             go_roundg (xw.length - (i+1))
             case measure=>have:=HMI.out;omega
             case rel=>exact ⟨i+1,by omega,rfl,by go_num,HF2.out,HDD.out⟩
           ·have HDD:Hid (Ex.sames true xw yw=true):=by show _=_;rw [HD.out];exact Ex.sames_end (by omega) (by have:=H4.out;omega)
            have HEE:Hid (Ru.sames true L L'=Ru.sames true (L.drop (k+1)) (L'.drop (k+1))):=by show _=_;rw [HE.out,HSD.out,HRS3.out,HDD.out,Bool.true_and]
            have HFF:=Lib.hid (HFO.out.trans0 HG.out)
            have hin:¬ (i:Int) < (xw.length:Int):=by omega
            go_wp2_with fail
            go_roundg (L.length - (k+1))
            case measure=>have:=HM.out;omega
            case rel=>exact ⟨k+1,by omega,rfl,by go_num,HFF.out,HEE.out⟩
       ·have h4':((xw.length:Int) == (yw.length:Int))=false:=by simp;omega
        have d4:((xw.length:Int) != (yw.length:Int))=true:=by simp;omega
        have HEE:Hid (Ru.sames true L L'=false):=by show _=_;rw [HE.out,HSD.out,HRS.out,Ex.sames_len h4];simp
        clear h4
        have h2':(xp == yp)=true:=(by simpa using h2);have d2:(xp != yp)=false:=(by rw [bne,h2'];rfl)
        go_wp2_with fail
        go_quiet (fail)
        refine then_fresh (fun V=>Fr [] w V) (HF.out.trans0 ((Fr.refl [] _).drewN _)) ?_
        intro V hV
        go_wp2_with fail
        go_ret
        rw [HEE.out]
        exact ⟨rfl,hV⟩
      ·have h3':((xs.length:Int) == (ys.length:Int))=false:=by simp;omega
       have d3:((xs.length:Int) != (ys.length:Int))=true:=by simp;omega
       have hnx:xs ≠ ys:=fun h=>h3 (by rw [h])
       have HEE:Hid (Ru.sames true L L'=false):=by show _=_;rw [HE.out,HSD.out,HRS.out,decide_eq_false hnx];simp
       clear h3 hnx
       have h2':(xp == yp)=true:=(by simpa using h2);have d2:(xp != yp)=false:=(by rw [bne,h2'];rfl)
       go_wp2_with fail
       go_quiet (fail)
       refine then_fresh (fun V=>Fr [] w V) (HF.out.trans0 ((Fr.refl [] _).drewN _)) ?_
       intro V hV
       go_wp2_with fail
       go_ret
       rw [HEE.out]
       exact ⟨rfl,hV⟩
   ·have HEE:Hid (Ru.sames true L L'=true):=by show _=_;rw [HE.out];exact Ru.sames_end (by omega) (by have:=HLEN.out;omega)
    go_wp2_with fail
    go_ret
    rw [HEE.out]
    exact ⟨rfl,HF.out⟩
 ·have e1:((L.length:Int) != (L'.length:Int))=true:=by simp;omega
  have HE:=Lib.hid (Ru.sames_len (pl:=true) hlen)
  clear hlen
  go_enter Tryz.func10,Tryz.ntmps10
  go_wp2_with fail
  go_ret
  rw [HE.out]
  exact ⟨rfl,Fr.refl _ _⟩
end Go.Proofs.YtgklmpooonnmiaaGreatDoor
