/-
  Lemmas and contracts that the proofs over this seat use (RefOpdA, RefRule, RefNot, RefNot2); no statement of the seat is claimed in this text, and nothing is assumed in it.
-/
import Derived.Test.YtgklmpooonnmiaaGreatDoorK15
import Derived.Test.YtgklmpooonnmiaaGreatDoorK14
import Derived.Deep.CutBlock
import Derived.BigRegion
set_option linter.unusedVariables false
set_option linter.unusedSimpArgs false
namespace Go.Proofs.YtgklmpooonnmiaaGreatDoor
open Go.RowKit
theorem is_k {t:TI} {l:List TI} {k':Int} {b:List UInt8} (h:Pol.is (t :: l) k' b=true):t.k=k':=by
 simp only [Pol.is,Bool.and_eq_true,beq_iff_eq] at h
 exact h.1
theorem ref_operand (f:Nat) (hO:PaReads 54 (Pol.or_ f)):PaReads 106 (Pol.operand (f+1)):=by
 intro w ad cap l i nest h hi hn hfed
 obtain ⟨t,ht,hd⟩:=at_of hi
 have hE:=h.ends
 rw [hd] at hfed ⊢
 rw [Pol.operand] at hfed ⊢
 by_cases f1:Pol.is (t :: l.drop (i+1)) 4 [40]=true
 ·rw [if_pos f1] at hfed ⊢
  by_cases h12:12 ≤ nest
  ·rw [if_pos h12]
   exact ropd_deep w ad cap l i nest h hi t ht (by rw [hd];exact f1) h12
  ·rw [if_neg h12] at hfed ⊢
   have key:=ropd_paren f hO w ad cap l i nest h hi t ht (by rw [hd];exact f1) h12 (fun p hp=>by rw [hp] at hfed;exact hfed p rfl) (by rw [is_k f1];decide)
   revert key
   generalize Pol.or_ f (nest+1) (l.drop (i+1))=q
   intro key
   rcases q with e | ⟨x,m⟩
   ·exact key
   ·revert key
    unfold Pol.inner
    simp only
    rcases Pol.must m [41] with e | ⟨_,m⟩
    ·exact id
    ·exact id
 ·rw [if_neg f1] at hfed ⊢
  have f1':Pol.is (l.drop i) 4 [40]=false:=by rw [hd];simpa using f1
  by_cases k3:t.k=3
  ·rw [if_pos k3]
   exact ropd_int w ad cap l i nest h hi t ht f1' k3
  rw [if_neg k3] at hfed ⊢
  by_cases k2:t.k=2
  ·rw [if_pos k2]
   exact ropd_text w ad cap l i nest h hi t ht f1' k2
  rw [if_neg k2] at hfed ⊢
  by_cases f2:Pol.is (t :: l.drop (i+1)) 1 [116,114,117,101]=true
  ·rw [if_pos f2]
   exact ropd_true w ad cap l i nest h hi t ht f1' (by rw [hd];exact f2) (is_k f2)
  rw [if_neg f2] at hfed ⊢
  have f2':Pol.is (l.drop i) 1 [116,114,117,101]=false:=by rw [hd];simpa using f2
  by_cases f3:Pol.is (t :: l.drop (i+1)) 1 [102,97,108,115,101]=true
  ·rw [if_pos f3]
   exact ropd_false w ad cap l i nest h hi t ht f1' f2' (by rw [hd];exact f3) (is_k f3)
  rw [if_neg f3] at hfed ⊢
  have f3':Pol.is (l.drop i) 1 [102,97,108,115,101]=false:=by rw [hd];simpa using f3
  by_cases f4:Pol.is (t :: l.drop (i+1)) 1 [99,108,97,105,109]=true
  ·rw [if_pos f4] at hfed ⊢
   have f4':Pol.is (l.drop i) 1 [99,108,97,105,109]=true:=by rw [hd];exact f4
   have hk:=is_k f4
   have hn1:=next_lt hE ht (by rw [hk];decide)
   obtain ⟨u,hu,hdu⟩:=at_of hn1
   by_cases f5:Pol.is (l.drop (i+1)) 4 [40]=true
   ·have hku:u.k=4:=by rw [hdu] at f5;exact is_k f5
    have hn2:=next_lt hE hu (by rw [hku];decide)
    obtain ⟨v,hv,hdv⟩:=at_of hn2
    have hm1:Pol.must (l.drop (i+1)) [40]=.ok ((),l.drop (i+2)):=by unfold Pol.must;rw [if_pos f5,List.tail_drop]
    simp only [hm1]
    by_cases hvk:v.k=2
    ·have hn3:=next_lt hE hv (by rw [hvk];decide)
     obtain ⟨x,hx,hdx⟩:=at_of hn3
     have ht2:Pol.take (l.drop (i+2)) 2=.ok (v,l.drop (i+3)):=by rw [show i+2=i+1+1 from rfl,hdv];unfold Pol.take;simp only [if_pos hvk]
     simp only [ht2]
     by_cases f6:Pol.is (l.drop (i+3)) 4 [41]=true
     ·have hkx:x.k=4:=by rw [show i+3=i+1+1+1 from rfl,hdx] at f6;exact is_k f6
      have hn4:=next_lt hE hx (by rw [hkx];decide)
      have hm2:Pol.must (l.drop (i+3)) [41]=.ok ((),l.drop (i+4)):=by unfold Pol.must;rw [if_pos f6,List.tail_drop]
      simp only [hm2]
      exact ropd_claim4 w ad cap l i nest h hi t ht f1' f2' f3' f4' hk f5 v hv hvk hn4 f6
     ·have f6':Pol.is (l.drop (i+3)) 4 [41]=false:=by simpa using f6
      have hm2:Pol.must (l.drop (i+3)) [41]=.error (x.p,120):=by unfold Pol.must;rw [if_neg f6,show i+3=i+1+1+1 from rfl,hdx];rfl
      simp only [hm2]
      exact ropd_claim3 w ad cap l i nest h hi t ht f1' f2' f3' f4' hk f5 v hv hvk x hx f6'
    ·have ht2:Pol.take (l.drop (i+2)) 2=.error (v.p,120):=by rw [show i+2=i+1+1 from rfl,hdv];unfold Pol.take;simp only [if_neg hvk]
     simp only [ht2]
     exact ropd_claim2 w ad cap l i nest h hi t ht f1' f2' f3' f4' hk f5 v hv (beq_eq_false_iff_ne.2 hvk)
   ·have f5':Pol.is (l.drop (i+1)) 4 [40]=false:=by simpa using f5
    have hm1:Pol.must (l.drop (i+1)) [40]=.error (u.p,120):=by unfold Pol.must;rw [if_neg f5,hdu];rfl
    simp only [hm1]
    exact ropd_claim1 w ad cap l i nest h hi t ht f1' f2' f3' f4' hk u hu f5'
  rw [if_neg f4] at hfed ⊢
  have f4':Pol.is (l.drop i) 1 [99,108,97,105,109]=false:=by rw [hd];simpa using f4
  by_cases hkk:t.k=1 ∧ Pol.kept t.s=false
  ·rw [if_pos hkk]
   exact ropd_var w ad cap l i nest h hi t ht f1' f2' f3' f4' hkk.1 hkk.2
  ·rw [if_neg hkk]
   by_cases k1:t.k=1
   ·exact ropd_kept w ad cap l i nest h hi t ht f1' f2' f3' f4' k1 (by
     cases hq:Pol.kept t.s with
     | true=>rfl
     | false=>exact absurd ⟨k1,hq⟩ hkk)
   ·exact ropd_else w ad cap l i nest h hi t ht f1' f2' f3' f4' (beq_eq_false_iff_ne.2 k1) (beq_eq_false_iff_ne.2 k2) (beq_eq_false_iff_ne.2 k3)
end Go.Proofs.YtgklmpooonnmiaaGreatDoor

namespace Go.Proofs.YtgklmpooonnmiaaGreatDoor
open Go.RowKit
theorem RR.mid {w:World} {b:Nat} {d:Bool} {v1 v2:Value} {p:Int} {S:List ByteArray} {L:List Ex} {W U:World} (h:RR w b d v1 v2 p S L W) (hg:W.grownBy U v1.ownBlock):U.heap[b+1]?=some (.cells #[.bool d,v1,v2,.int .i64 p] 40 (0,0)) :=
 (Fr.of_grown hg).row h.ex (fun hc=>by have:=h.base (b+1) (by simpa using hc);omega)
theorem RR.when2 {w:World} {b:Nat} {d:Bool} {v1:Value} {p:Int} {S:List ByteArray} {wc V:World} {cs:List Value} {x:Ex} (h:RR w b d v1 (.slice none 0 0) p S [] V) (hx:Rep V (fun i=>wc.heap.size ≤ i) cs x)
  (hw:w.heap.size ≤ wc.heap.size) (hb:b+1 < wc.heap.size) (hv:∀ y,v1.ownBlock=some y → y < wc.heap.size) :
  RR w b d v1 (.slice (some ⟨V.heap.size+1,0,none⟩) 1 1) p S [x] (((V.setCell ⟨b+1,2,none⟩ (.slice (some ⟨V.heap.size+1,0,none⟩) 1 1)).alloc (.cells cs.toArray 42)).alloc (.cells cs.toArray 42)):=by
 have hs:Fr [b+1] V (V.setCell ⟨b+1,2,none⟩ (.slice (some ⟨V.heap.size+1,0,none⟩) 1 1)):=(Fr.refl _ _).setCell (p:=⟨b+1,2,none⟩) (.inl (by simp)) _
 have e:((V.setCell ⟨b+1,2,none⟩ (.slice (some ⟨V.heap.size+1,0,none⟩) 1 1)).alloc (.cells cs.toArray 42)).heap.size=V.heap.size+1:=by simp [World.setCell]
 have hA:Fr [] (V.setCell ⟨b+1,2,none⟩ (.slice (some ⟨V.heap.size+1,0,none⟩) 1 1)) (((V.setCell ⟨b+1,2,none⟩ (.slice (some ⟨V.heap.size+1,0,none⟩) 1 1)).alloc (.cells cs.toArray 42)).alloc (.cells cs.toArray 42)):=((Fr.refl _ _).alloc _).alloc _
 have hr:=heap_alloc_last ((V.setCell ⟨b+1,2,none⟩ (.slice (some ⟨V.heap.size+1,0,none⟩) 1 1)).alloc (.cells cs.toArray 42)) (.cells cs.toArray 42)
 rw [e] at hr
 refine h.when (W:=V) (g:=V.heap.size+1) (cs:=cs) ?_ (hs.trans0 hA) (by omega) hr (hA.row (heap_set_row h.ex 2 _) (by simp))
 have h1:=h.bw
 exact ((hx.mono (E:=fun i=>w.heap.size ≤ i ∧ i ≠ b ∧ i ≠ b+1 ∧ v1.ownBlock ≠ some i) (fun i _ hi=>by
  have h9:wc.heap.size ≤ i:=hi
  exact ⟨by omega,by omega,by omega,fun hc=>by have:=hv i hc;omega⟩)).fr hs (fun y hy _ hc=>by simp at hy;exact hc.2.2.1 hy)).fr hA (fun y hy _=>by cases hy)
theorem RR.start {w W:World} {b:Nat} (d:Bool) (p:Int) (h:W.heap[b]?=some (.cells z4 40 (0,0))) (hf:Fr [] w W) (hb:w.heap.size=b) (hs:W.heap.size=b+1) :
  RR w b d (.slice none 0 0) (.slice none 0 0) p [] [] (W.alloc (.cells #[.bool d,.slice none 0 0,.slice none 0 0,.int .i64 p] 40)).drew:=by
 have hA:Fr [] W (W.alloc (.cells #[.bool d,.slice none 0 0,.slice none 0 0,.int .i64 p] 40)).drew:=((Fr.refl _ _).alloc _).drew
 exact ⟨hA.row h (by simp),by rw [← hs];exact heap_alloc_last W _,ownsRow_nil _ _ _ _,Rep.leaf _ _ _ _ _ _,hf.trans0 hA,hb.symm⟩
theorem RR.growf {w:World} {b:Nat} {d:Bool} {v1 v2:Value} {p:Int} {S:List ByteArray} {L:List Ex} {W U:World} (h:RR w b d v1 v2 p S L W) (hg:W.grownBy U v1.ownBlock):Fr [] w U :=
 have h9:=(h.f.sub (bs:=v1.ownBlock.toList)).trans (Fr.of_grown hg) (fun y hy=>.inl hy)
 ⟨h9.os,h9.tape,h9.output,h9.size,fun k hk _=>h9.block k hk (fun hc=>by have:=h.base k (by simpa using hc);have:=h.bw;omega)⟩
set_option maxHeartbeats 4000000 in
set_option maxRecDepth 100000 in
theorem ref_rule_no (f:Nat) (w:World) (ad:Addr) (cap:Nat) (l:List TI) (i:Nat) (h:TL w ad cap l) (hi:i < l.length)
  (hd:Pol.is (l.drop i) 1 [100,101,110,121]=false) (hp:Pol.is (l.drop i) 1 [112,101,114,109,105,116]=false) :
  Calls Tryz.prog 23 #[.slice (some ad) l.length cap,.int .i64 i] w (RuPa l w (Pol.rule f (l.drop i))):=by
 obtain ⟨t,ht,hdt⟩:=at_of hi
 have hTT:Pol.rule f (l.drop i)=.error (t.p,120):=by
  unfold Pol.rule;rw [hd,hp,if_neg (by decide),hdt];rfl
 rw [hTT]
 have HT0:=Lib.hid ht
 have HTL:=Lib.hid h
 have HI1:Hid (∀ V,Fr [] w V → Calls Tryz.prog 22 #[.slice (some ad) l.length cap,.int .i64 i,.int .i64 1,.string ⟨#[100,101,110,121]⟩] V fun e w'=>e=.returned (.bool false) ∧ V=w'):=fun V hV=>ref_isB V ad cap l i i 1 ⟨#[100,101,110,121]⟩ [100,101,110,121] (by kernel_rfl) false (h.fr hV) hi rfl hd
 have HI2:Hid (∀ V,Fr [] w V → Calls Tryz.prog 22 #[.slice (some ad) l.length cap,.int .i64 i,.int .i64 1,.string ⟨#[112,101,114,109,105,116]⟩] V fun e w'=>e=.returned (.bool false) ∧ V=w'):=fun V hV=>ref_isB V ad cap l i i 1 ⟨#[112,101,114,109,105,116]⟩ [112,101,114,109,105,116] (by kernel_rfl) false (h.fr hV) hi rfl hp
 have hb:l.length ≤ 1000000:=h.few
 have hi1:(i:Int) < (l.length:Int):=by omega
 have hi0:(0:Int) ≤ (i:Int):=by omega
 clear hTT hdt hd hp ht
 go_enter Tryz.func23,Tryz.ntmps23
 go_wp2_with fail
 refine wp_fresh (fun W=>W.heap[w.heap.size]?=some (.cells z4 40 (0,0)) ∧ Fr [] w W ∧ W.heap.size=w.heap.size+1) ⟨heap_alloc_last _ _,(Fr.refl _ _).alloc _,by simp⟩ ?_
 rintro W ⟨hr0,hf0,hsz⟩
 obtain ⟨b,hbb⟩:∃ b,w.heap.size=b:=⟨_,rfl⟩
 rw [hbb] at hr0 hsz ⊢
 have HR0:=Lib.hid hr0
 have HF0:=Lib.hid hf0
 have HB:=Lib.hid hbb
 have HSZ:=Lib.hid hsz
 obtain ⟨c0,c1,c2,c3⟩:=(HTL.out.fr hf0).cells HT0.out
 have hbl:=World.block_lt_of_cell? W _ c0
 clear hr0 hf0 hbb h hsz c0 c1 c2
 go_upto_region 1 with fail
 go_cut [7] from 11 to 19 (fun s7 wx=>∃ be,s7=.pointer (some ⟨be,0,none⟩) ∧ be=b+1 ∧ RR w b false (.slice none 0 0) (.slice none 0 0) t.p [] [] wx)
 case first =>
  go_region_held3 (fun W'=>W'.cell? ⟨(ad.add (i * 4)).block,(ad.add (i * 4)).off+3,none⟩=some (.int .i64 t.p)) (first | go_keep | exact c3) ((go_at_call 22;refine (HI1.out _ (by first | exact HF0.out.drew | exact HF0.out.drew.alloc _ | exact (HF0.out.alloc _).drew)).mono ?_;rintro e w1 ⟨rfl,rfl⟩))
  all_goals
   go_wp2_with fail
   go_meet
   exact ⟨_,rfl,HSZ.out,RR.start false t.p HR0.out HF0.out HB.out HSZ.out⟩
 case rest =>
  obtain ⟨be,rfl,rfl,hR⟩:=hcut
  have H:=Lib.hid hR
  clear hR HR0 HF0 HSZ c3 hbl HI1
  have hbwr:b < wc.heap.size:=row_lt H.out.res
  have hbewr:b+1 < wc.heap.size:=row_lt H.out.ex
  have yf:∀ i,wc.frozen? ⟨(b+1),i,none⟩=false:=fun i=>Lib.frozen_of_heap H.out.ex i
  have y0:wc.cell? ⟨(b+1),0,none⟩=some (.bool false):=by rw [Lib.cell_of_heap H.out.ex];rfl
  have y1:wc.cell? ⟨(b+1),1,none⟩=some (.slice none 0 0):=by rw [Lib.cell_of_heap H.out.ex];rfl
  have y2:wc.cell? ⟨(b+1),2,none⟩=some (.slice none 0 0):=by rw [Lib.cell_of_heap H.out.ex];rfl
  have y3:wc.cell? ⟨(b+1),3,none⟩=some (.int .i64 t.p):=by rw [Lib.cell_of_heap H.out.ex];rfl
  have zf:∀ i,wc.frozen? ⟨b,i,none⟩=false:=fun i=>Lib.frozen_of_heap H.out.res i
  have z0:wc.cell? ⟨b,0,none⟩=some (.bool false):=by rw [Lib.cell_of_heap H.out.res];rfl
  have z1:wc.cell? ⟨b,1,none⟩=some (.slice none 0 0):=by rw [Lib.cell_of_heap H.out.res];rfl
  have z2:wc.cell? ⟨b,2,none⟩=some (.slice none 0 0):=by rw [Lib.cell_of_heap H.out.res];rfl
  have z3:wc.cell? ⟨b,3,none⟩=some (.int .i64 0):=by rw [Lib.cell_of_heap H.out.res];rfl
  have HG:=Lib.hid H.out.give
  go_wp2_with (go_at_call 22;refine (HI2.out _ H.out.f).mono ?_;rintro e w1 ⟨rfl,rfl⟩)
  refine bodyPost_ret (results_cell_tmp2 rfl _ _ b _ _ (0,0) _ rfl HG.out.1 Tryz.underlying40 rfl (by kernel_rfl)) rfl ?_
  exact RuPa.err (cs:=[_,_,_,_]) rfl ⟨_,_,_,_,_,_,_,_,rfl⟩ HT0.out (by decide) HG.out.2.2
set_option maxHeartbeats 4000000 in
set_option maxRecDepth 100000 in
theorem ref_rule_go (f:Nat) (hO:PaReads 54 (Pol.or_ f)) (d:Bool) (w:World) (ad:Addr) (cap:Nat) (l:List TI) (i:Nat) (h:TL w ad cap l) (hi:i < l.length)
  (hd:Pol.is (l.drop i) 1 [100,101,110,121]=d) (hp:d=false → Pol.is (l.drop i) 1 [112,101,114,109,105,116]=true)
  (hfed:Pol.Fed (Pol.rule f (l.drop i))) :
  Calls Tryz.prog 23 #[.slice (some ad) l.length cap,.int .i64 i] w (RuPa l w (Pol.rule f (l.drop i))):=by
 obtain ⟨t,ht,hdt⟩:=at_of hi
 obtain ⟨T,hT⟩:∃ T,Pol.rule f (l.drop i)=T:=⟨_,rfl⟩
 have hk:t.k=1:=by
  cases d with
  | true=>rw [hdt] at hd;exact is_k hd
  | false=>have:=hp rfl;rw [hdt] at this;exact is_k this
 have hTT:T=Pol.ruleTail f d t.p (l.drop (i+1)):=by
  rw [← hT];unfold Pol.rule
  rw [if_pos (by cases d with | true=>exact Or.inr hd | false=>exact Or.inl (hp rfl)),hd,List.tail_drop]
  congr 1;rw [hdt];rfl
 have hi3:i+1 < l.length:=next_lt h.ends ht (by rw [hk];decide)
 rw [hT] at hfed ⊢
 have HFED:=Lib.hid hfed
 have HTT:=Lib.hid hTT
 have HO:=Lib.hid hO
 have HT0:=Lib.hid ht
 have HTL:=Lib.hid h
 have HI1:Hid (∀ V,Fr [] w V → Calls Tryz.prog 22 #[.slice (some ad) l.length cap,.int .i64 i,.int .i64 1,.string ⟨#[100,101,110,121]⟩] V fun e w'=>e=.returned (.bool d) ∧ V=w'):=fun V hV=>ref_isB V ad cap l i i 1 ⟨#[100,101,110,121]⟩ [100,101,110,121] (by kernel_rfl) d (h.fr hV) hi rfl hd
 have HI2:Hid (d=false → ∀ V,Fr [] w V → Calls Tryz.prog 22 #[.slice (some ad) l.length cap,.int .i64 i,.int .i64 1,.string ⟨#[112,101,114,109,105,116]⟩] V fun e w'=>e=.returned (.bool true) ∧ V=w'):=fun hd0 V hV=>ref_isB V ad cap l i i 1 ⟨#[112,101,114,109,105,116]⟩ [112,101,114,109,105,116] (by kernel_rfl) true (h.fr hV) hi rfl (hp hd0)
 have hb:l.length ≤ 1000000:=h.few
 have hi1:(i:Int) < (l.length:Int):=by omega
 have hi0:(0:Int) ≤ (i:Int):=by omega
 clear hT hTT hfed hO hdt hk hd hp ht
 go_enter Tryz.func23,Tryz.ntmps23
 go_wp2_with fail
 refine wp_fresh (fun W=>W.heap[w.heap.size]?=some (.cells z4 40 (0,0)) ∧ Fr [] w W ∧ W.heap.size=w.heap.size+1) ⟨heap_alloc_last _ _,(Fr.refl _ _).alloc _,by simp⟩ ?_
 rintro W ⟨hr0,hf0,hsz⟩
 obtain ⟨b,hbb⟩:∃ b,w.heap.size=b:=⟨_,rfl⟩
 rw [hbb] at hr0 hsz ⊢
 have HR0:=Lib.hid hr0
 have HF0:=Lib.hid hf0
 have HB:=Lib.hid hbb
 have HSZ:=Lib.hid hsz
 obtain ⟨c0,c1,c2,c3⟩:=(HTL.out.fr hf0).cells HT0.out
 have hbl:=World.block_lt_of_cell? W _ c0
 clear hr0 hf0 hbb h hsz c0 c1 c2
 go_upto_region 1 with fail
 go_cut [7] from 11 to 19 (fun s7 wx=>∃ be,s7=.pointer (some ⟨be,0,none⟩) ∧ be=b+1 ∧ RR w b d (.slice none 0 0) (.slice none 0 0) t.p [] [] wx)
 case first =>
  go_region_held3 (fun W'=>W'.cell? ⟨(ad.add (i * 4)).block,(ad.add (i * 4)).off+3,none⟩=some (.int .i64 t.p)) (first | go_keep | exact c3) ((go_at_call 22;refine (HI1.out _ (by first | exact HF0.out.drew | exact HF0.out.drew.alloc _ | exact (HF0.out.alloc _).drew)).mono ?_;rintro e w1 ⟨rfl,rfl⟩))
  all_goals
   go_wp2_with fail
   go_meet
   exact ⟨_,rfl,HSZ.out,RR.start d t.p HR0.out HF0.out HB.out HSZ.out⟩
 case rest =>
  obtain ⟨be,rfl,rfl,hR⟩:=hcut
  have H:=Lib.hid hR
  clear hR HR0 HF0 HSZ c3 hbl HI1
  have yf:∀ i,wc.frozen? ⟨(b+1),i,none⟩=false:=fun i=>Lib.frozen_of_heap H.out.ex i
  have y0:wc.cell? ⟨(b+1),0,none⟩=some (.bool d):=by rw [Lib.cell_of_heap H.out.ex];rfl
  have y1:wc.cell? ⟨(b+1),1,none⟩=some (.slice none 0 0):=by rw [Lib.cell_of_heap H.out.ex];rfl
  have y2:wc.cell? ⟨(b+1),2,none⟩=some (.slice none 0 0):=by rw [Lib.cell_of_heap H.out.ex];rfl
  have y3:wc.cell? ⟨(b+1),3,none⟩=some (.int .i64 t.p):=by rw [Lib.cell_of_heap H.out.ex];rfl
  go_upto_region 2 with fail
  go_cut [28] from 20 to 28 (fun s28 wx=>s28=.bool false ∧ wx=wc)
  case first =>
   cases d with
   | true =>
    go_wp2_with fail
    go_meet
    exact ⟨rfl,rfl⟩
   | false =>
    have HI:=Lib.hid (HI2.out rfl)
    go_wp2_with (go_at_call 22;refine (HI.out _ H.out.f).mono ?_;rintro e w1 ⟨rfl,rfl⟩)
    go_meet
    exact ⟨rfl,rfl⟩
  case rest =>
   obtain ⟨rfl,rfl⟩:=hcut
   clear y0 y1 y2 y3 yf HI2
   have hw1:IntKind.i64.wrap ((i:Int)+1)=((i+1:Nat):Int):=by rw [IntWalk.i64_in _ (by omega)];omega
   obtain ⟨sc,hsc⟩:∃ sc,Pol.is (l.drop (i+1)) 1 [115,99,111,112,101]=sc:=⟨_,rfl⟩
   have HI3:Hid (∀ V,Fr [] w V → Calls Tryz.prog 22 #[.slice (some ad) l.length cap,.int .i64 ((i+1:Nat):Int),.int .i64 1,.string ⟨#[115,99,111,112,101]⟩] V fun e w'=>e=.returned (.bool sc) ∧ V=w'):=fun V hV=>ref_isB V ad cap l (i+1) _ 1 ⟨#[115,99,111,112,101]⟩ [115,99,111,112,101] (by kernel_rfl) sc (HTL.out.fr hV) hi3 rfl hsc
   go_upto_if 35 with (go_at_call 22;refine (HI3.out _ H.out.f).mono ?_;rintro e w1 ⟨rfl,rfl⟩)
   go_cut [1] from 36 to 61 (fun s1 wx=>∃ (n:Nat) (v:Value) (S:List ByteArray),s1=.int .i64 n ∧ n < l.length ∧ S.length ≤ n ∧ T=Pol.ruleWhen f d t.p S (l.drop n) ∧ RR w b d v (.slice none 0 0) t.p S [] wx)
   case first =>
    cases sc with
    | false =>
     go_wp2_with fail
     go_meet
     exact ⟨i+1,_,[],rfl,hi3,Nat.zero_le _,by rw [HTT.out,tail_none hsc],H.out⟩
    | true =>
     have hi6:i+1+1 < l.length:=by
      obtain ⟨u,hu,hdu⟩:=at_of hi3
      exact next_lt HTL.out.ends hu (by rw [hdu] at hsc;rw [is_k hsc];decide)
     have HT1:Hid (T=Pol.scK f f d t.p [] (l.drop (i+1+1))):=by show _=_;rw [HTT.out,tail_scope hsc,List.tail_drop]
     clear hsc HI3 hw1
     go_wp2_with fail
     go_loopg [1] f (fun q s1 W=>∃ (n:Nat) (v:Value) (S:List ByteArray),q ≤ f ∧ s1=.int .i64 n ∧ n+1 < l.length ∧ S.length ≤ n ∧ Hid (T=Pol.scK f q d t.p S (l.drop (n+1))) ∧ Hid (RR w b d v (.slice none 0 0) t.p S [] W))
     case atStart=>exact ⟨i+1,.slice none 0 0,[],Nat.le_refl _,rfl,hi6,Nat.zero_le _,HT1.out,H.out⟩
     case round =>
      clear H HT1
      obtain ⟨n,v,S,hq,rfl,hn9,hSn,HTE,H⟩:=hrel
      have HQ:=Lib.hid hq
      clear hq
      cases gk with
      | zero=>exact absurd (HTE.out.trans (sc_zero _ _ _ _ _)) (HFED.out _)
      | succ j =>
       have hjf:j ≤ f:=by have:=HQ.out;omega
       obtain ⟨u,hu,hdu⟩:=at_of hn9
       have HTS:Hid (T=match Pol.take (u :: l.drop (n+1+1)) 2 with | .error e=>.error e | .ok (x,m)=>if Pol.is m 4 [44]=true then Pol.scK f j d t.p (S ++ [x.s]) m.tail else Pol.ruleWhen f d t.p (S ++ [x.s]) m):=by show _=_;rw [HTE.out,sc_step,hdu];rcases Pol.take (u :: l.drop (n+1+1)) 2 with e | ⟨x,m⟩ <;> rfl
       have HU:=Lib.hid hu
       obtain ⟨qv,qc,rfl⟩:=H.out.form
       have hw8:IntKind.i64.wrap ((n:Int)+1)=((n+1:Nat):Int):=by rw [IntWalk.i64_in _ (by omega)];omega
       have hbwr:b < wr.heap.size:=row_lt H.out.res
       have hbewr:b+1 < wr.heap.size:=row_lt H.out.ex
       obtain ⟨c0,c1,c2,c3⟩:=(HTL.out.fr H.out.f).cells HU.out
       have hnn0:(0:Int) ≤ ((n+1:Nat):Int):=by omega
       have hnn1:((n+1:Nat):Int) < (l.length:Int):=by omega
       obtain ⟨N,hN⟩:∃ N,n+1=N:=⟨_,rfl⟩
       have yf:∀ i,wr.frozen? ⟨(b+1),i,none⟩=false:=fun i=>Lib.frozen_of_heap H.out.ex i
       have y0:wr.cell? ⟨(b+1),0,none⟩=some (.bool d):=by rw [Lib.cell_of_heap H.out.ex];rfl
       have y1:wr.cell? ⟨(b+1),1,none⟩=some (.slice qv S.length qc):=by rw [Lib.cell_of_heap H.out.ex];rfl
       have y2:wr.cell? ⟨(b+1),2,none⟩=some (.slice none 0 0):=by rw [Lib.cell_of_heap H.out.ex];rfl
       have y3:wr.cell? ⟨(b+1),3,none⟩=some (.int .i64 t.p):=by rw [Lib.cell_of_heap H.out.ex];rfl
       clear HTE hu
       have hSN:S.length < N:=by omega
       rw [hN] at hn9 hw8 c0 c1 c2 c3 hnn0 hnn1 HTS HU hdu
       by_cases hk2:u.k=2
       ·have hk2b:(u.k != 2)=false:=by rw [hk2];rfl
        have HT1:Hid (T=if Pol.is (l.drop (N+1)) 4 [44]=true then Pol.scK f j d t.p (S ++ [u.s]) (l.drop (N+1)).tail else Pol.ruleWhen f d t.p (S ++ [u.s]) (l.drop (N+1))):=by show _=_;rw [HTS.out,Pol.take,if_pos hk2]
        have hn10:N+1 < l.length:=next_lt HTL.out.ends HU.out (by rw [hk2];decide)
        have HSK:Hid (∀ W',Fr [] w W' → W'.cell? ⟨(ad.add (N * 4)).block,(ad.add (N * 4)).off+1,none⟩=some (.string u.s)):=fun W' hf=>((HTL.out.fr hf).cells HU.out).2.1
        have hSl:S.length < 1000000:=by omega
        have hbb9:b+1+1 ≤ wr.heap.size:=hbewr
        have hblk:=World.block_lt_of_cell? wr _ c0
        have hw9:IntKind.i64.wrap ((N:Int)+1)=((N+1:Nat):Int):=by rw [IntWalk.i64_in _ (by omega)];omega
        obtain ⟨q4,hq4⟩:∃ q4,Pol.is (l.drop (N+1)) 4 [44]=q4:=⟨_,rfl⟩
        have HI4:Hid (∀ V,Fr [] w V → Calls Tryz.prog 22 #[.slice (some ad) l.length cap,.int .i64 ((N+1:Nat):Int),.int .i64 4,.string ⟨#[44]⟩] V fun e w'=>e=.returned (.bool q4) ∧ V=w'):=fun V hV=>ref_isB V ad cap l (N+1) _ 4 ⟨#[44]⟩ [44] (by kernel_rfl) q4 (HTL.out.fr hV) hn10 rfl hq4
        rw [hq4,List.tail_drop] at HT1
        have HQ4:=Lib.hid hq4
        clear HTS hk2 c2 c3 hq4
        go_upto_region 9 with fail
        refine wp_region_held_drew (S:=(fun W'=>W'.cell? ⟨(ad.add (N * 4)).block,(ad.add (N * 4)).off+1,none⟩=some (.string u.s))) (by kernel_rfl) (HSK.out _ H.out.f.drew) (fun hHeld=>?_)
        refine held_take (i:=0) (v:=?_) 46 rfl rfl (by kernel_rfl) (by kernel_rfl) (by kernel_rfl) (fun _ _ _ h=>h) (Or.inl ⟨by rfl,?_⟩) (by assumption) ?_
        rotate_left 1
        ·intro w hSw;(try dsimp only at hSw);go_simp;try (with_reducible rfl)
        try simp only [Act.put,List.setIfInBounds_toArray,List.set_cons_zero,List.set_cons_succ]
        refine held_take (i:=2) (v:=?_) 48 rfl rfl (by kernel_rfl) (by kernel_rfl) (by kernel_rfl) (fun _ _ _ h=>h) (Or.inl ⟨by rfl,?_⟩) (by assumption) ?_
        rotate_left 1
        ·intro w hSw;(try dsimp only at hSw);go_simp;try (with_reducible rfl)
        try simp only [Act.put,List.setIfInBounds_toArray,List.set_cons_zero,List.set_cons_succ]
        refine held_take (i:=3) (v:=?_) 49 rfl rfl (by kernel_rfl) (by kernel_rfl) (by kernel_rfl) (fun _ _ _ h=>h) (Or.inl ⟨by rfl,?_⟩) (by assumption) ?_
        rotate_left 1
        ·intro w hSw;(try dsimp only at hSw);go_simp;try (with_reducible rfl)
        try simp only [Act.put,List.setIfInBounds_toArray,List.set_cons_zero,List.set_cons_succ]
        refine held_take (i:=4) (v:=?_) 50 rfl rfl (by kernel_rfl) (by kernel_rfl) (by kernel_rfl) (fun _ _ _ h=>h) (Or.inl ⟨by rfl,?_⟩) (by assumption) ?_
        rotate_left 1
        ·intro w hSw;(try dsimp only at hSw);go_simp;try (with_reducible rfl)
        try simp only [Act.put,List.setIfInBounds_toArray,List.set_cons_zero,List.set_cons_succ]
        refine held_take (i:=5) (v:=?_) 51 rfl rfl (by kernel_rfl) (by kernel_rfl) (by kernel_rfl) (fun _ _ _ h=>h) (Or.inl ⟨by rfl,?_⟩) (by assumption) ?_
        rotate_left 1
        ·intro w hSw;(try dsimp only at hSw);go_simp;try (with_reducible rfl)
        try simp only [Act.put,List.setIfInBounds_toArray,List.set_cons_zero,List.set_cons_succ]
        refine held_take (i:=6) (v:=?_) 52 rfl rfl (by kernel_rfl) (by kernel_rfl) (by kernel_rfl) (fun _ _ _ h=>h) (Or.inl ⟨by rfl,?_⟩) (by assumption) ?_
        rotate_left 1
        ·intro w hSw;(try dsimp only at hSw);go_simp;try (with_reducible rfl)
        try simp only [Act.put,List.setIfInBounds_toArray,List.set_cons_zero,List.set_cons_succ]
        refine wpAnyH_ready (rs:=[1,7]) (by kernel_rfl) (by simp) ?_
        refine AllReadyH.cons rfl (fun K hK=>?_) (AllReadyH.cons rfl (fun K hK=>?_) AllReadyH.nil)
        ·go_simp
         refine hK.out _ _ (HSK.out _ H.out.f.drew) (fun hHeld=>?_)
         clear hK K
         try simp only [Act.put,List.setIfInBounds_toArray,List.set_cons_zero,List.set_cons_succ]
         refine wpAnyH_ready (rs:=[7]) (by kernel_rfl) (by simp) ?_
         refine AllReadyH.cons rfl (fun K hK=>?_) AllReadyH.nil
         go_simp
         refine hK.out _ _ (HSK.out _ (H.out.f.drew.alloc _)) (fun hHeld=>?_)
         clear hK K
         try simp only [Act.put,List.setIfInBounds_toArray,List.set_cons_zero,List.set_cons_succ]
         refine wpAnyH_ready (rs:=[8]) (by kernel_rfl) (by simp) ?_
         refine AllReadyH.cons rfl (fun K hK=>?_) AllReadyH.nil
         refine stepTx (by rfl) (.tmp 47) (.tmp 53) (by rfl) (b+1+1) (.slice qv S.length qc) S.length S u.s (w:=wr) (by rfl) (by rfl) (by rfl) H.out.own hbb9 hSl ?_
         intro g9 c9 w9 ho hg
         have HM:=Lib.hid (H.out.mid hg)
         have HN:=Lib.hid (H.out.grow ho hg)
         refine hK.out _ _ (HSK.out _ (H.out.growf hg)) (fun hHeld=>?_)
         clear hK K
         try simp only [Act.put,List.setIfInBounds_toArray,List.set_cons_zero,List.set_cons_succ]
         refine held_take (i:=9) (v:=?_) 55 rfl rfl (by kernel_rfl) (by kernel_rfl) (by kernel_rfl) (fun _ _ _ h=>h) (Or.inl ⟨by rfl,?_⟩) (by assumption) ?_
         rotate_left 1
         ·intro w hSw;(try dsimp only at hSw);go_simp;try (with_reducible rfl)
         try simp only [Act.put,List.setIfInBounds_toArray,List.set_cons_zero,List.set_cons_succ]
         have hb9:b+1 < w9.heap.size:=row_lt HM.out
         have xf:∀ i,w9.frozen? ⟨(b+1),i,none⟩=false:=fun i=>Lib.frozen_of_heap HM.out i
         have x0:w9.cell? ⟨(b+1),0,none⟩=some (.bool d):=by rw [Lib.cell_of_heap HM.out];rfl
         have x1:w9.cell? ⟨(b+1),1,none⟩=some (.slice qv S.length qc):=by rw [Lib.cell_of_heap HM.out];rfl
         have x2:w9.cell? ⟨(b+1),2,none⟩=some (.slice none 0 0):=by rw [Lib.cell_of_heap HM.out];rfl
         have x3:w9.cell? ⟨(b+1),3,none⟩=some (.int .i64 t.p):=by rw [Lib.cell_of_heap HM.out];rfl
         clear ho hg
         refine wpAnyH_ready (rs:=[10]) (by kernel_rfl) (by simp) ?_
         refine AllReadyH.cons rfl (fun K hK=>?_) AllReadyH.nil
         go_simp
         refine hK.out _ _ (HSK.out _ HN.out.f) (fun hHeld=>?_)
         clear hK K
         try simp only [Act.put,List.setIfInBounds_toArray,List.set_cons_zero,List.set_cons_succ]
         refine wpAnyH_done (by kernel_rfl) ?_ _
         clear x0 x1 x2 x3 xf y0 y1 y2 y3 yf HM c0 c1 hblk hb9
         obtain ⟨Z,hZ⟩:∃ Z,w9.setCell ⟨b+1,1,none⟩ (.slice (some ⟨g9,0,none⟩) (S.length+1) c9)=Z:=⟨_,rfl⟩
         rw [hZ] at HN ⊢
         cases q4 with
         | false =>
          go_wp2_with (go_at_call 22;refine (HI4.out _ HN.out.f).mono ?_;rintro e w1 ⟨rfl,rfl⟩)
          go_meet
          exact ⟨N+1,_,S ++ [u.s],by simp,hn10,by simp;omega,by rw [HT1.out];rfl,HN.out⟩
         | true =>
          have hn11:N+1+1 < l.length:=by
           obtain ⟨u9,hu9,hdu9⟩:=at_of hn10
           have hq9:=HQ4.out
           exact next_lt HTL.out.ends hu9 (by rw [hdu9] at hq9;rw [is_k hq9];decide)
          have HT2:Hid (T=Pol.scK f j d t.p (S ++ [u.s]) (l.drop (N+1+1))):=by show _=_;rw [HT1.out];rfl
          go_wp2_with (go_at_call 22;refine (HI4.out _ HN.out.f).mono ?_;rintro e w1 ⟨rfl,rfl⟩)
          go_roundg j
          case measure=>omega
          case rel=>exact ⟨N+1,_,S ++ [u.s],hjf,by simp,hn11,by simp;omega,HT2.out,HN.out⟩
        ·go_simp
         refine hK.out _ _ (HSK.out _ (H.out.f.drew.alloc _)) (fun hHeld=>?_)
         clear hK K
         try simp only [Act.put,List.setIfInBounds_toArray,List.set_cons_zero,List.set_cons_succ]
         refine wpAnyH_ready (rs:=[1]) (by kernel_rfl) (by simp) ?_
         refine AllReadyH.cons rfl (fun K hK=>?_) AllReadyH.nil
         go_simp
         refine hK.out _ _ (HSK.out _ (H.out.f.drew.alloc _)) (fun hHeld=>?_)
         clear hK K
         try simp only [Act.put,List.setIfInBounds_toArray,List.set_cons_zero,List.set_cons_succ]
         refine wpAnyH_ready (rs:=[8]) (by kernel_rfl) (by simp) ?_
         refine AllReadyH.cons rfl (fun K hK=>?_) AllReadyH.nil
         refine stepTx (by rfl) (.tmp 47) (.tmp 53) (by rfl) (b+1+1) (.slice qv S.length qc) S.length S u.s (w:=wr) (by rfl) (by rfl) (by rfl) H.out.own hbb9 hSl ?_
         intro g9 c9 w9 ho hg
         have HM:=Lib.hid (H.out.mid hg)
         have HN:=Lib.hid (H.out.grow ho hg)
         refine hK.out _ _ (HSK.out _ (H.out.growf hg)) (fun hHeld=>?_)
         clear hK K
         try simp only [Act.put,List.setIfInBounds_toArray,List.set_cons_zero,List.set_cons_succ]
         refine held_take (i:=9) (v:=?_) 55 rfl rfl (by kernel_rfl) (by kernel_rfl) (by kernel_rfl) (fun _ _ _ h=>h) (Or.inl ⟨by rfl,?_⟩) (by assumption) ?_
         rotate_left 1
         ·intro w hSw;(try dsimp only at hSw);go_simp;try (with_reducible rfl)
         try simp only [Act.put,List.setIfInBounds_toArray,List.set_cons_zero,List.set_cons_succ]
         have hb9:b+1 < w9.heap.size:=row_lt HM.out
         have xf:∀ i,w9.frozen? ⟨(b+1),i,none⟩=false:=fun i=>Lib.frozen_of_heap HM.out i
         have x0:w9.cell? ⟨(b+1),0,none⟩=some (.bool d):=by rw [Lib.cell_of_heap HM.out];rfl
         have x1:w9.cell? ⟨(b+1),1,none⟩=some (.slice qv S.length qc):=by rw [Lib.cell_of_heap HM.out];rfl
         have x2:w9.cell? ⟨(b+1),2,none⟩=some (.slice none 0 0):=by rw [Lib.cell_of_heap HM.out];rfl
         have x3:w9.cell? ⟨(b+1),3,none⟩=some (.int .i64 t.p):=by rw [Lib.cell_of_heap HM.out];rfl
         clear ho hg
         refine wpAnyH_ready (rs:=[10]) (by kernel_rfl) (by simp) ?_
         refine AllReadyH.cons rfl (fun K hK=>?_) AllReadyH.nil
         go_simp
         refine hK.out _ _ (HSK.out _ HN.out.f) (fun hHeld=>?_)
         clear hK K
         try simp only [Act.put,List.setIfInBounds_toArray,List.set_cons_zero,List.set_cons_succ]
         refine wpAnyH_done (by kernel_rfl) ?_ _
         clear x0 x1 x2 x3 xf y0 y1 y2 y3 yf HM c0 c1 hblk hb9
         obtain ⟨Z,hZ⟩:∃ Z,w9.setCell ⟨b+1,1,none⟩ (.slice (some ⟨g9,0,none⟩) (S.length+1) c9)=Z:=⟨_,rfl⟩
         rw [hZ] at HN ⊢
         cases q4 with
         | false =>
          go_wp2_with (go_at_call 22;refine (HI4.out _ HN.out.f).mono ?_;rintro e w1 ⟨rfl,rfl⟩)
          go_meet
          exact ⟨N+1,_,S ++ [u.s],by simp,hn10,by simp;omega,by rw [HT1.out];rfl,HN.out⟩
         | true =>
          have hn11:N+1+1 < l.length:=by
           obtain ⟨u9,hu9,hdu9⟩:=at_of hn10
           have hq9:=HQ4.out
           exact next_lt HTL.out.ends hu9 (by rw [hdu9] at hq9;rw [is_k hq9];decide)
          have HT2:Hid (T=Pol.scK f j d t.p (S ++ [u.s]) (l.drop (N+1+1))):=by show _=_;rw [HT1.out];rfl
          go_wp2_with (go_at_call 22;refine (HI4.out _ HN.out.f).mono ?_;rintro e w1 ⟨rfl,rfl⟩)
          go_roundg j
          case measure=>omega
          case rel=>exact ⟨N+1,_,S ++ [u.s],hjf,by simp,hn11,by simp;omega,HT2.out,HN.out⟩
       ·have hk2b:(u.k != 2)=true:=by rw [bne,beq_eq_false_iff_ne.2 hk2];rfl
        have HT1:Hid (T=.error (u.p,120)):=by show _=_;rw [HTS.out,Pol.take,if_neg hk2]
        have zf:∀ i,wr.frozen? ⟨b,i,none⟩=false:=fun i=>Lib.frozen_of_heap H.out.res i
        have z0:wr.cell? ⟨b,0,none⟩=some (.bool false):=by rw [Lib.cell_of_heap H.out.res];rfl
        have z1:wr.cell? ⟨b,1,none⟩=some (.slice none 0 0):=by rw [Lib.cell_of_heap H.out.res];rfl
        have z2:wr.cell? ⟨b,2,none⟩=some (.slice none 0 0):=by rw [Lib.cell_of_heap H.out.res];rfl
        have z3:wr.cell? ⟨b,3,none⟩=some (.int .i64 0):=by rw [Lib.cell_of_heap H.out.res];rfl
        have HG:=Lib.hid H.out.give
        clear HTS hk2
        go_wp2_with fail
        refine bodyPost_ret (results_cell_tmp2 rfl _ _ b _ _ (0,0) _ rfl HG.out.1 Tryz.underlying40 rfl (by kernel_rfl)) rfl ?_
        rw [HT1.out]
        exact RuPa.err (cs:=[_,_,_,_]) rfl ⟨_,_,_,_,_,_,_,_,rfl⟩ HU.out (by decide) HG.out.2.2
   case rest =>
    obtain ⟨n,v,S,rfl,hn9,hSn,hTW,hR⟩:=hcut
    have H:=Lib.hid hR
    have HTW:=Lib.hid hTW
    obtain ⟨qv,qc,rfl⟩:=hR.form
    clear hR hTW HTT HI3 hsc hw1
    have hw8:IntKind.i64.wrap ((n:Int)+1)=(n:Int)+1:=IntWalk.i64_in _ (by omega)
    obtain ⟨wn,hwn⟩:∃ wn,Pol.is (l.drop n) 1 [119,104,101,110]=wn:=⟨_,rfl⟩
    have HI5:Hid (∀ V,Fr [] w V → Calls Tryz.prog 22 #[.slice (some ad) l.length cap,.int .i64 n,.int .i64 1,.string ⟨#[119,104,101,110]⟩] V fun e w'=>e=.returned (.bool wn) ∧ V=w'):=fun V hV=>ref_isB V ad cap l n n 1 ⟨#[119,104,101,110]⟩ [119,104,101,110] (by kernel_rfl) wn (HTL.out.fr hV) hn9 rfl hwn
    go_upto_if 64 with (go_at_call 22;refine (HI5.out _ H.out.f).mono ?_;rintro e w1 ⟨rfl,rfl⟩)
    go_cut [1,8,9,10] from 65 to 81 (fun s1 s8 s9 s10 wx=>∃ (n:Nat) (q2:Option Addr) (k2 c2:Nat) (L:List Ex),s1=.int .i64 n ∧ n < l.length ∧ T=Pol.ruleEnd d t.p S L (l.drop n) ∧ RR w b d (.slice qv S.length qc) (.slice q2 k2 c2) t.p S L wx)
    case first =>
     cases wn with
     | false =>
      go_wp2_with fail
      go_meet
      exact ⟨n,_,_,_,[],rfl,hn9,by rw [HTW.out,when_no hwn],H.out⟩
     | true =>
      have hn10:n+1 < l.length:=by
       obtain ⟨u,hu,hdu⟩:=at_of hn9
       exact next_lt HTL.out.ends hu (by rw [hdu] at hwn;rw [is_k hwn];decide)
      have HTS:Hid (T=Pol.ruleWh d t.p S (Pol.or_ f 0 (l.drop (n+1)))):=by show _=_;rw [HTW.out,when_yes hwn,List.tail_drop]
      have HC3:Hid (∀ V,Fr [] w V → Calls Tryz.prog 54 #[.slice (some ad) l.length cap,.int .i64 ((n:Int)+1),.int .i64 0] V (PaDone l V (Pol.or_ f 0 (l.drop (n+1))))):=fun V hV=>by
       have:=HO.out V ad cap l (n+1) 0 (HTL.out.fr hV) hn10 (by omega) (fun p hp=>HFED.out p (by rw [HTS.out,hp];rfl))
       rwa [show ((n+1:Nat):Int)=(n:Int)+1 by omega] at this
      obtain ⟨r2,hr2⟩:∃ r2,Pol.or_ f 0 (l.drop (n+1))=r2:=⟨_,rfl⟩
      rw [hr2] at HTS HC3
      clear HI5 hwn HTW hr2
      have hbwc:b < wc.heap.size:=row_lt H.out.res
      have hbewc:b+1 < wc.heap.size:=row_lt H.out.ex
      have hwwc:=H.out.f.size
      have hqv:=own_lt2 H.out.own
      rcases r2 with ⟨p2,er2⟩ | ⟨y,m2⟩
      all_goals
       go_wp2_with fail
       refine (HC3.out _ H.out.f).mono ?_
      ·rintro e V ⟨cs2,n4,u2,rfl,⟨yo,ys,yn,yq,yk,yc,yp,rfl⟩,hu2,rfl,her,hF⟩
       have HU2:=Lib.hid hu2
       have H:=Lib.hid (H.out.fr hF)
       have hbV:b < V.heap.size:=row_lt H.out.res
       have hbeV:b+1 < V.heap.size:=row_lt H.out.ex
       have her2:(er2 != 0)=true:=by rw [bne,beq_eq_false_iff_ne.2 her];rfl
       have HT1:Hid (T=.error (u2.p,er2)):=HTS.out
       clear hF HC3 hu2 HTS
       have yf:∀ i,V.frozen? ⟨(b+1),i,none⟩=false:=fun i=>Lib.frozen_of_heap H.out.ex i
       have y0:V.cell? ⟨(b+1),0,none⟩=some (.bool d):=by rw [Lib.cell_of_heap H.out.ex];rfl
       have y1:V.cell? ⟨(b+1),1,none⟩=some (.slice qv S.length qc):=by rw [Lib.cell_of_heap H.out.ex];rfl
       have y2:V.cell? ⟨(b+1),2,none⟩=some (.slice none 0 0):=by rw [Lib.cell_of_heap H.out.ex];rfl
       have y3:V.cell? ⟨(b+1),3,none⟩=some (.int .i64 t.p):=by rw [Lib.cell_of_heap H.out.ex];rfl
       have zf:∀ i,V.frozen? ⟨b,i,none⟩=false:=fun i=>Lib.frozen_of_heap H.out.res i
       have z0:V.cell? ⟨b,0,none⟩=some (.bool false):=by rw [Lib.cell_of_heap H.out.res];rfl
       have z1:V.cell? ⟨b,1,none⟩=some (.slice none 0 0):=by rw [Lib.cell_of_heap H.out.res];rfl
       have z2:V.cell? ⟨b,2,none⟩=some (.slice none 0 0):=by rw [Lib.cell_of_heap H.out.res];rfl
       have z3:V.cell? ⟨b,3,none⟩=some (.int .i64 0):=by rw [Lib.cell_of_heap H.out.res];rfl
       have HG1:=Lib.hid H.out.give
       have hA:=fun Z:World=>((Fr.refl [] Z).alloc (.cells #[.int .i64 yo,.string ys,.int .i64 yn,.slice yq yk yc,.int .i64 yp] 42))
       have HG:=Lib.hid (And.intro ((hA _).row HG1.out.1 (by simp)) (HG1.out.2.2.trans0 (hA _)))
       clear HG1 hA
       go_wp2_with fail
       refine bodyPost_ret (results_cell_tmp2 rfl _ _ b _ _ (0,0) _ rfl HG.out.1 Tryz.underlying40 rfl (by kernel_rfl)) rfl ?_
       rw [HT1.out]
       exact RuPa.err (cs:=[_,_,_,_]) rfl ⟨_,_,_,_,_,_,_,_,rfl⟩ HU2.out her HG.out.2
      ·rintro e V ⟨cs2,n4,rfl,hrep2,hn5,rfl,hF⟩
       obtain ⟨yo,ys,yn,yq,yk,yc,yp,rfl⟩:=hrep2.form
       have H:=Lib.hid (H.out.fr hF)
       have hbV:b < V.heap.size:=row_lt H.out.res
       have hbeV:b+1 < V.heap.size:=row_lt H.out.ex
       have HN:=Lib.hid (H.out.when2 hrep2 hwwc hbewc hqv)
       have HT1:Hid (T=Pol.ruleEnd d t.p S [y] (l.drop n4)):=HTS.out
       clear hF HC3 HTS hrep2
       have yf:∀ i,V.frozen? ⟨(b+1),i,none⟩=false:=fun i=>Lib.frozen_of_heap H.out.ex i
       have y0:V.cell? ⟨(b+1),0,none⟩=some (.bool d):=by rw [Lib.cell_of_heap H.out.ex];rfl
       have y1:V.cell? ⟨(b+1),1,none⟩=some (.slice qv S.length qc):=by rw [Lib.cell_of_heap H.out.ex];rfl
       have y2:V.cell? ⟨(b+1),2,none⟩=some (.slice none 0 0):=by rw [Lib.cell_of_heap H.out.ex];rfl
       have y3:V.cell? ⟨(b+1),3,none⟩=some (.int .i64 t.p):=by rw [Lib.cell_of_heap H.out.ex];rfl
       go_wp2_with fail
       go_meet
       exact ⟨n4,_,_,_,[y],rfl,hn5,HT1.out,HN.out⟩
    case rest =>
     obtain ⟨n,q2,k2,c2,L,rfl,hn9,hTW,hR⟩:=hcut
     have H:=Lib.hid hR
     obtain ⟨u,hu,hdu⟩:=at_of hn9
     have HU:=Lib.hid hu
     clear hR HTW HI5 hwn hw8 hu
     have hbwr:b < wc.heap.size:=row_lt H.out.res
     have hbewr:b+1 < wc.heap.size:=row_lt H.out.ex
     have yf:∀ i,wc.frozen? ⟨(b+1),i,none⟩=false:=fun i=>Lib.frozen_of_heap H.out.ex i
     have y0:wc.cell? ⟨(b+1),0,none⟩=some (.bool d):=by rw [Lib.cell_of_heap H.out.ex];rfl
     have y1:wc.cell? ⟨(b+1),1,none⟩=some (.slice qv S.length qc):=by rw [Lib.cell_of_heap H.out.ex];rfl
     have y2:wc.cell? ⟨(b+1),2,none⟩=some (.slice q2 k2 c2):=by rw [Lib.cell_of_heap H.out.ex];rfl
     have y3:wc.cell? ⟨(b+1),3,none⟩=some (.int .i64 t.p):=by rw [Lib.cell_of_heap H.out.ex];rfl
     have zf:∀ i,wc.frozen? ⟨b,i,none⟩=false:=fun i=>Lib.frozen_of_heap H.out.res i
     have z0:wc.cell? ⟨b,0,none⟩=some (.bool false):=by rw [Lib.cell_of_heap H.out.res];rfl
     have z1:wc.cell? ⟨b,1,none⟩=some (.slice none 0 0):=by rw [Lib.cell_of_heap H.out.res];rfl
     have z2:wc.cell? ⟨b,2,none⟩=some (.slice none 0 0):=by rw [Lib.cell_of_heap H.out.res];rfl
     have z3:wc.cell? ⟨b,3,none⟩=some (.int .i64 0):=by rw [Lib.cell_of_heap H.out.res];rfl
     have HG:=Lib.hid H.out.give
     have hw8:IntKind.i64.wrap ((n:Int)+1)=((n+1:Nat):Int):=by rw [IntWalk.i64_in _ (by omega)];omega
     cases h59:Pol.is (l.drop n) 4 [59] with
     | false =>
      have HI6:Hid (∀ V,Fr [] w V → Calls Tryz.prog 22 #[.slice (some ad) l.length cap,.int .i64 n,.int .i64 4,.string ⟨#[59]⟩] V fun e w'=>e=.returned (.bool false) ∧ V=w'):=fun V hV=>ref_isB V ad cap l n n 4 ⟨#[59]⟩ [59] (by kernel_rfl) false (HTL.out.fr hV) hn9 rfl h59
      have HT1:Hid (T=.error (u.p,120)):=by show _=_;rw [hTW];unfold Pol.ruleEnd;rw [h59,if_neg (by decide),hdu];rfl
      clear h59 hTW
      go_wp2_with (go_at_call 22;refine (HI6.out _ H.out.f).mono ?_;rintro e w1 ⟨rfl,rfl⟩)
      refine bodyPost_ret (results_cell_tmp2 rfl _ _ b _ _ (0,0) _ rfl HG.out.1 Tryz.underlying40 rfl (by kernel_rfl)) rfl ?_
      rw [HT1.out]
      exact RuPa.err (cs:=[_,_,_,_]) rfl ⟨_,_,_,_,_,_,_,_,rfl⟩ HU.out (by decide) HG.out.2.2
     | true =>
      have HI6:Hid (∀ V,Fr [] w V → Calls Tryz.prog 22 #[.slice (some ad) l.length cap,.int .i64 n,.int .i64 4,.string ⟨#[59]⟩] V fun e w'=>e=.returned (.bool true) ∧ V=w'):=fun V hV=>ref_isB V ad cap l n n 4 ⟨#[59]⟩ [59] (by kernel_rfl) true (HTL.out.fr hV) hn9 rfl h59
      have hn10:n+1 < l.length:=next_lt HTL.out.ends HU.out (by rw [hdu] at h59;rw [is_k h59];decide)
      have HT1:Hid (T=.ok (⟨d,S,L,t.p⟩,l.drop (n+1))):=by show _=_;rw [hTW];unfold Pol.ruleEnd;rw [h59,if_pos rfl,List.tail_drop]
      clear h59 hTW
      go_wp2_with (go_at_call 22;refine (HI6.out _ H.out.f).mono ?_;rintro e w1 ⟨rfl,rfl⟩)
      refine bodyPost_ret (results_cell_tmp2 rfl _ _ b _ _ (0,0) _ rfl HG.out.1 Tryz.underlying40 rfl (by kernel_rfl)) rfl ?_
      rw [HT1.out]
      exact RuPa.yes (cs:=[_,_,_,_]) rfl HG.out.2.1 hn10 HG.out.2.2
theorem ref_rule (f:Nat) (hO:PaReads 54 (Pol.or_ f)) (w:World) (ad:Addr) (cap:Nat) (l:List TI) (i:Nat) (h:TL w ad cap l) (hi:i < l.length) (hfed:Pol.Fed (Pol.rule f (l.drop i))) :
  Calls Tryz.prog 23 #[.slice (some ad) l.length cap,.int .i64 i] w (RuPa l w (Pol.rule f (l.drop i))):=by
 cases hd:Pol.is (l.drop i) 1 [100,101,110,121] with
 | true=>exact ref_rule_go f hO true w ad cap l i h hi hd (fun h=>by cases h) hfed
 | false =>
  cases hp:Pol.is (l.drop i) 1 [112,101,114,109,105,116] with
  | true=>exact ref_rule_go f hO false w ad cap l i h hi hd (fun _=>hp) hfed
  | false=>exact ref_rule_no f w ad cap l i h hi hd hp
end Go.Proofs.YtgklmpooonnmiaaGreatDoor

namespace Go.Proofs.YtgklmpooonnmiaaGreatDoor
open Go.RowKit
structure R0 (w:World) (b:Nat) (rs:Array Value) (W:World):Prop where
 res:W.heap[b]?=some (.cells rs 42 (0,0))
 f:Fr [] w W
 bw:b=w.heap.size
theorem R0.fr {w:World} {b:Nat} {rs:Array Value} {W W':World} (h:R0 w b rs W) (hf:Fr [] W W'):R0 w b rs W':=⟨hf.row h.res (by simp),h.f.trans0 hf,h.bw⟩
theorem R0.setr {w:World} {b:Nat} {rs:Array Value} {W:World} (h:R0 w b rs W) (i:Nat) (u:Value):R0 w b (rs.setIfInBounds i u) (W.setCell ⟨b,i,none⟩ u):=by
 have h2:=h.bw
 exact ⟨heap_set_row h.res i u,h.f.setCell (p:=⟨b,i,none⟩) (.inr (by show _ ≤ b;omega)) _,h2⟩
theorem R0.start (w:World):R0 w w.heap.size z5 (w.alloc (.cells z5 42)):=⟨heap_alloc_last _ _,(Fr.refl _ _).alloc _,rfl⟩
theorem R0.set5 {w:World} {b:Nat} {W:World} (h:R0 w b z5 W) (u0 u1 u2 u3 u4:Value) :
  R0 w b #[u0,u1,u2,u3,u4] (((((W.setCell ⟨b,0,none⟩ u0).setCell ⟨b,1,none⟩ u1).setCell ⟨b,2,none⟩ u2).setCell ⟨b,3,none⟩ u3).setCell ⟨b,4,none⟩ u4) :=
 ((((h.setr 0 u0).setr 1 u1).setr 2 u2).setr 3 u3).setr 4 u4
theorem rep_set5' {V:World} {D:Nat → Prop} {cs:List Value} {x:Ex} (h:Rep V D cs x) (b:Nat) (hb:¬ D b) (u0 u1 u2 u3 u4:Value) :
  Rep (((((V.setCell ⟨b,0,none⟩ u0).setCell ⟨b,1,none⟩ u1).setCell ⟨b,2,none⟩ u2).setCell ⟨b,3,none⟩ u3).setCell ⟨b,4,none⟩ u4) D cs x:=by
 have hb0:∀ {W:World} (i:Nat) (u:Value),Fr [b] V W → Fr [b] V (W.setCell ⟨b,i,none⟩ u):=fun i u hW=>hW.setCell (p:=⟨b,i,none⟩) (.inl (by simp)) u
 exact h.fr (bs:=[b]) (hb0 4 _ (hb0 3 _ (hb0 2 _ (hb0 1 _ (hb0 0 _ (Fr.refl [b] V)))))) (fun y hy _=>by simp at hy;subst hy;exact hb)
set_option maxHeartbeats 2000000 in
set_option maxRecDepth 100000 in
theorem rnot_no (q:Nat → List TI → Pol.PR Ex) (hC:PaReads 101 q) (w:World) (ad:Addr) (cap:Nat) (l:List TI) (i nest:Nat) (h:TL w ad cap l) (hi:i < l.length) (hn:nest ≤ 12) (f1:Pol.is (l.drop i) 1 [110,111,116]=false) (hfed:Pol.Fed (q nest (l.drop i))) :
  Calls Tryz.prog 96 #[.slice (some ad) l.length cap,.int .i64 i,.int .i64 nest] w (PaDone l w (q nest (l.drop i))):=by
 have HI1:Hid (∀ V,Fr [] w V → Calls Tryz.prog 22 #[.slice (some ad) l.length cap,.int .i64 i,.int .i64 1,.string ⟨#[110,111,116]⟩] V fun e w'=>e=.returned (.bool false) ∧ V=w'):=fun V hV=>ref_isB V ad cap l i i 1 ⟨#[110,111,116]⟩ [110,111,116] (by kernel_rfl) false (h.fr hV) hi rfl f1
 have HC:Hid (∀ V,Fr [] w V → Calls Tryz.prog 101 #[.slice (some ad) l.length cap,.int .i64 i,.int .i64 nest] V (PaDone l V (q nest (l.drop i)))):=fun V hV=>hC V ad cap l i nest (h.fr hV) hi hn hfed
 obtain ⟨r,hr⟩:∃ r,q nest (l.drop i)=r:=⟨_,rfl⟩
 rw [hr] at HC ⊢
 clear hC hfed hr f1
 rcases r with ⟨p,er⟩ | ⟨x,m⟩
 all_goals
  go_enter Tryz.func96,Tryz.ntmps96
  go_wp2_with fail
  refine (HI1.out _ ((Fr.refl _ _).alloc _)).mono ?_
  rintro e w1 ⟨rfl,rfl⟩
  go_wp2_with fail
  refine calls_fresh (fun W=>R0 w w.heap.size z5 W) (R0.start w) ?_
  intro W h1
  obtain ⟨b,hbb⟩:∃ b,w.heap.size=b:=⟨_,rfl⟩
  rw [hbb] at h1 ⊢
  have H:=Lib.hid h1
  have HB:=Lib.hid hbb
  have hbW:b < W.heap.size:=row_lt h1.res
  clear h1 hbb
  refine (HC.out _ H.out.f).mono ?_
 ·rintro e V ⟨cs,n,u,rfl,⟨xo,xs,xn,xq,xk,xc,xp,rfl⟩,hu,rfl,her,hF⟩
  have H:=Lib.hid (H.out.fr hF)
  have HU:=Lib.hid hu
  clear hF HC hu
  have zf:∀ i,V.frozen? ⟨b,i,none⟩=false:=fun i=>Lib.frozen_of_heap H.out.res i
  have z0:V.cell? ⟨b,0,none⟩=some (.int .i64 0):=by rw [Lib.cell_of_heap H.out.res];rfl
  have z1:V.cell? ⟨b,1,none⟩=some (.string ⟨#[]⟩):=by rw [Lib.cell_of_heap H.out.res];rfl
  have z2:V.cell? ⟨b,2,none⟩=some (.int .i64 0):=by rw [Lib.cell_of_heap H.out.res];rfl
  have z3:V.cell? ⟨b,3,none⟩=some (.slice none 0 0):=by rw [Lib.cell_of_heap H.out.res];rfl
  have z4:V.cell? ⟨b,4,none⟩=some (.int .i64 0):=by rw [Lib.cell_of_heap H.out.res];rfl
  have HT:=Lib.hid (H.out.set5 (.int .i64 xo) (.string xs) (.int .i64 xn) (.slice xq xk xc) (.int .i64 xp))
  go_wp2_with fail
  refine bodyPost_ret (results_cell_tmp2 rfl _ _ b _ _ (0,0) _ rfl HT.out.res Tryz.underlying42 rfl (by kernel_rfl)) rfl ?_
  exact PaDone.err (cs:=[_,_,_,_,_]) rfl ⟨_,_,_,_,_,_,_,rfl⟩ HU.out her HT.out.f
 ·rintro e V ⟨cs,n,rfl,hrep,hn2,rfl,hF⟩
  obtain ⟨xo,xs,xn,xq,xk,xc,xp,rfl⟩:=hrep.form
  have hsz:=H.out.f.size
  have HREP:=Lib.hid ((rep_set5' hrep b (by omega) (.int .i64 xo) (.string xs) (.int .i64 xn) (.slice xq xk xc) (.int .i64 xp)).mono (E:=fun g=>w.heap.size ≤ g) (fun g _ h=>Nat.le_trans hsz h))
  have H:=Lib.hid (H.out.fr hF)
  clear hF HC hrep
  have zf:∀ i,V.frozen? ⟨b,i,none⟩=false:=fun i=>Lib.frozen_of_heap H.out.res i
  have z0:V.cell? ⟨b,0,none⟩=some (.int .i64 0):=by rw [Lib.cell_of_heap H.out.res];rfl
  have z1:V.cell? ⟨b,1,none⟩=some (.string ⟨#[]⟩):=by rw [Lib.cell_of_heap H.out.res];rfl
  have z2:V.cell? ⟨b,2,none⟩=some (.int .i64 0):=by rw [Lib.cell_of_heap H.out.res];rfl
  have z3:V.cell? ⟨b,3,none⟩=some (.slice none 0 0):=by rw [Lib.cell_of_heap H.out.res];rfl
  have z4:V.cell? ⟨b,4,none⟩=some (.int .i64 0):=by rw [Lib.cell_of_heap H.out.res];rfl
  have HT:=Lib.hid (H.out.set5 (.int .i64 xo) (.string xs) (.int .i64 xn) (.slice xq xk xc) (.int .i64 xp))
  go_wp2_with fail
  refine bodyPost_ret (results_cell_tmp2 rfl _ _ b _ _ (0,0) _ rfl HT.out.res Tryz.underlying42 rfl (by kernel_rfl)) rfl ?_
  exact PaDone.yes (cs:=[_,_,_,_,_]) rfl HREP.out hn2 HT.out.f
end Go.Proofs.YtgklmpooonnmiaaGreatDoor

namespace Go.Proofs.YtgklmpooonnmiaaGreatDoor
open Go.RowKit
def Pol.noted (p:Int) (q:Pol.PR Ex):Pol.PR Ex :=
 match q with
 | .error e=>.error e
 | .ok (x,m)=>.ok (.mk 6 Pol.none_ 0 [x] p,m)
theorem rep_one {F:World} {D:Nat → Prop} {cs:List Value} {x:Ex} (g t:Nat) (op p:Int) (h:Rep F D cs x) (hrow:F.heap[g]?=some (.cells cs.toArray t (0,0))) (hD:D g) :
  Rep F D [.int .i64 op,.string ⟨#[]⟩,.int .i64 0,.slice (some ⟨g,0,none⟩) 1 1,.int .i64 p] (.mk op Pol.none_ 0 [x] p) :=
 Rep.of_row op ⟨#[]⟩ 0 p [x] [cs] g hD t 1 rfl (by simpa using hrow) (Nat.le_refl _) (by decide) (fun i y ds hi hc=>by
  cases i with
  | zero=>simp at hi hc;subst hi;subst hc;exact h
  | succ i=>simp at hi)
theorem fr_set5 {V:World} (b:Nat) (u0 u1 u2 u3 u4:Value):Fr [b] V (((((V.setCell ⟨b,0,none⟩ u0).setCell ⟨b,1,none⟩ u1).setCell ⟨b,2,none⟩ u2).setCell ⟨b,3,none⟩ u3).setCell ⟨b,4,none⟩ u4):=by
 have hb0:∀ {W:World} (i:Nat) (u:Value),Fr [b] V W → Fr [b] V (W.setCell ⟨b,i,none⟩ u):=fun i u hW=>hW.setCell (p:=⟨b,i,none⟩) (.inl (by simp)) u
 exact hb0 4 _ (hb0 3 _ (hb0 2 _ (hb0 1 _ (hb0 0 _ (Fr.refl [b] V)))))
theorem row_two (V:World) (b:Nat) (u0 u1 u2 u3 u4:Value) (A B:Obj):((((((((V.setCell ⟨b,0,none⟩ u0).setCell ⟨b,1,none⟩ u1).setCell ⟨b,2,none⟩ u2).setCell ⟨b,3,none⟩ u3).setCell ⟨b,4,none⟩ u4).alloc A).alloc B).drew).heap[V.heap.size+1]?=some B:=by
 have e:((((((V.setCell ⟨b,0,none⟩ u0).setCell ⟨b,1,none⟩ u1).setCell ⟨b,2,none⟩ u2).setCell ⟨b,3,none⟩ u3).setCell ⟨b,4,none⟩ u4).alloc A).heap.size=V.heap.size+1:=by simp [World.setCell]
 have h:=heap_alloc_last ((((((V.setCell ⟨b,0,none⟩ u0).setCell ⟨b,1,none⟩ u1).setCell ⟨b,2,none⟩ u2).setCell ⟨b,3,none⟩ u3).setCell ⟨b,4,none⟩ u4).alloc A) B
 rw [e] at h
 exact h
set_option maxHeartbeats 2000000 in
set_option maxRecDepth 100000 in
theorem rnot_deep (w:World) (ad:Addr) (cap:Nat) (l:List TI) (i nest:Nat) (h:TL w ad cap l) (hi:i < l.length) (t:TI) (ht:l[i]?=some t) (f1:Pol.is (l.drop i) 1 [110,111,116]=true) (hd:12 ≤ nest) :
  Calls Tryz.prog 96 #[.slice (some ad) l.length cap,.int .i64 i,.int .i64 nest] w (PaDone l w (.error (t.p,121))):=by
 have HI1:Hid (∀ V,Fr [] w V → Calls Tryz.prog 22 #[.slice (some ad) l.length cap,.int .i64 i,.int .i64 1,.string ⟨#[110,111,116]⟩] V fun e w'=>e=.returned (.bool true) ∧ V=w'):=fun V hV=>ref_isB V ad cap l i i 1 ⟨#[110,111,116]⟩ [110,111,116] (by kernel_rfl) true (h.fr hV) hi rfl f1
 have hd2:(nest:Int) ≥ 12:=by omega
 have HT0:=Lib.hid ht
 clear ht f1 h
 go_enter Tryz.func96,Tryz.ntmps96
 go_wp2_with fail
 refine calls_fresh (fun W=>R0 w w.heap.size z5 W) (R0.start w) ?_
 intro W h1
 obtain ⟨b,hbb⟩:∃ b,w.heap.size=b:=⟨_,rfl⟩
 rw [hbb] at h1 ⊢
 have H:=Lib.hid h1
 have HB:=Lib.hid hbb
 clear h1 hbb
 refine (HI1.out _ H.out.f).mono ?_
 rintro e w1 ⟨rfl,rfl⟩
 have zf:∀ i,W.frozen? ⟨b,i,none⟩=false:=fun i=>Lib.frozen_of_heap H.out.res i
 have z0:W.cell? ⟨b,0,none⟩=some (.int .i64 0):=by rw [Lib.cell_of_heap H.out.res];rfl
 have z1:W.cell? ⟨b,1,none⟩=some (.string ⟨#[]⟩):=by rw [Lib.cell_of_heap H.out.res];rfl
 have z2:W.cell? ⟨b,2,none⟩=some (.int .i64 0):=by rw [Lib.cell_of_heap H.out.res];rfl
 have z3:W.cell? ⟨b,3,none⟩=some (.slice none 0 0):=by rw [Lib.cell_of_heap H.out.res];rfl
 have z4:W.cell? ⟨b,4,none⟩=some (.int .i64 0):=by rw [Lib.cell_of_heap H.out.res];rfl
 have HT:=Lib.hid (H.out.set5 (.int .i64 0) (.string ⟨#[]⟩) (.int .i64 0) (.slice none 0 0) (.int .i64 0))
 go_wp2_with fail
 refine bodyPost_ret (results_cell_tmp2 rfl _ _ b _ _ (0,0) _ rfl HT.out.res Tryz.underlying42 rfl (by kernel_rfl)) rfl ?_
 exact PaDone.err (cs:=[_,_,_,_,_]) rfl ⟨_,_,_,_,_,_,_,rfl⟩ HT0.out (by decide) HT.out.f
set_option maxHeartbeats 2000000 in
set_option maxRecDepth 100000 in
theorem rnot_yes (q:Nat → List TI → Pol.PR Ex) (hN:PaReads 96 q) (w:World) (ad:Addr) (cap:Nat) (l:List TI) (i nest:Nat) (h:TL w ad cap l) (hi:i < l.length) (t:TI) (ht:l[i]?=some t) (f1:Pol.is (l.drop i) 1 [110,111,116]=true) (hd:¬ 12 ≤ nest) (hk:t.k ≠ 5) (hfed:Pol.Fed (q (nest+1) (l.drop (i+1)))) :
  Calls Tryz.prog 96 #[.slice (some ad) l.length cap,.int .i64 i,.int .i64 nest] w (PaDone l w (Pol.noted t.p (q (nest+1) (l.drop (i+1))))):=by
 have HI1:Hid (∀ V,Fr [] w V → Calls Tryz.prog 22 #[.slice (some ad) l.length cap,.int .i64 i,.int .i64 1,.string ⟨#[110,111,116]⟩] V fun e w'=>e=.returned (.bool true) ∧ V=w'):=fun V hV=>ref_isB V ad cap l i i 1 ⟨#[110,111,116]⟩ [110,111,116] (by kernel_rfl) true (h.fr hV) hi rfl f1
 have hd2:¬ (nest:Int) ≥ 12:=by omega
 have hn:=next_lt h.ends ht hk
 have HN:Hid (∀ V,Fr [] w V → Calls Tryz.prog 96 #[.slice (some ad) l.length cap,.int .i64 ((i:Int)+1),.int .i64 ((nest:Int)+1)] V (PaDone l V (q (nest+1) (l.drop (i+1))))):=fun V hV=>by
  have:=hN V ad cap l (i+1) (nest+1) (h.fr hV) hn (by omega) hfed
  rwa [show ((i+1:Nat):Int)=(i:Int)+1 by omega,show ((nest+1:Nat):Int)=(nest:Int)+1 by omega] at this
 obtain ⟨r,hr⟩:∃ r,q (nest+1) (l.drop (i+1))=r:=⟨_,rfl⟩
 rw [hr] at HN ⊢
 have hb:l.length ≤ 1000000:=h.few
 have hi1:(i:Int) < (l.length:Int):=by omega
 have hi0:(0:Int) ≤ (i:Int):=by omega
 have HT0:=Lib.hid ht
 have HTL:=Lib.hid h
 clear hN hfed hr f1 h ht hk
 rcases r with ⟨p,er⟩ | ⟨x,m⟩
 ·rw [show Pol.noted t.p (.error (p,er))=.error (p,er) from rfl]
  go_enter Tryz.func96,Tryz.ntmps96
  go_wp2_with fail
  refine calls_fresh (fun W=>R0 w w.heap.size z5 W) (R0.start w) ?_
  intro W h1
  obtain ⟨b,hbb⟩:∃ b,w.heap.size=b:=⟨_,rfl⟩
  rw [hbb] at h1 ⊢
  have H:=Lib.hid h1
  have HB:=Lib.hid hbb
  have hbW:b < W.heap.size:=row_lt h1.res
  clear h1 hbb
  refine (HI1.out _ H.out.f).mono ?_
  rintro e w1 ⟨rfl,rfl⟩
  go_wp2_with fail
  refine (HN.out _ H.out.f).mono ?_
  rintro e V ⟨cs,n,u,rfl,⟨xo,xs,xn,xq,xk,xc,xp,rfl⟩,hu,rfl,her,hF⟩
  have HU:=Lib.hid hu
  clear hu
  have hsz:=H.out.f.size
  have H:=Lib.hid (H.out.fr hF)
  clear hF HN HI1
  have zf:∀ i,V.frozen? ⟨b,i,none⟩=false:=fun i=>Lib.frozen_of_heap H.out.res i
  have z0:V.cell? ⟨b,0,none⟩=some (.int .i64 0):=by rw [Lib.cell_of_heap H.out.res];rfl
  have z1:V.cell? ⟨b,1,none⟩=some (.string ⟨#[]⟩):=by rw [Lib.cell_of_heap H.out.res];rfl
  have z2:V.cell? ⟨b,2,none⟩=some (.int .i64 0):=by rw [Lib.cell_of_heap H.out.res];rfl
  have z3:V.cell? ⟨b,3,none⟩=some (.slice none 0 0):=by rw [Lib.cell_of_heap H.out.res];rfl
  have z4:V.cell? ⟨b,4,none⟩=some (.int .i64 0):=by rw [Lib.cell_of_heap H.out.res];rfl
  obtain ⟨c0,c1,c2,c3⟩:=(HTL.out.fr H.out.f).cells HT0.out
  have hbl:=World.block_lt_of_cell? V _ c0
  have hbV:b < V.heap.size:=row_lt H.out.res
  have HT:=Lib.hid ((((H.out.set5 (.int .i64 6) (.string ⟨#[]⟩) (.int .i64 0) (.slice (some ⟨V.heap.size+1,0,none⟩) 1 1) (.int .i64 t.p)).fr ((Fr.refl [] _).alloc (.cells #[.int .i64 xo,.string xs,.int .i64 xn,.slice xq xk xc,.int .i64 xp] 42))).fr ((Fr.refl [] _).alloc (.cells #[.int .i64 xo,.string xs,.int .i64 xn,.slice xq xk xc,.int .i64 xp] 42))).fr (Fr.refl [] _).drew)
  go_wp2_with fail
  go_region
  go_wp2_with fail
  refine bodyPost_ret (results_cell_tmp2 rfl _ _ b _ _ (0,0) _ rfl HT.out.res Tryz.underlying42 rfl (by kernel_rfl)) rfl ?_
  exact PaDone.err (cs:=[_,_,_,_,_]) rfl ⟨_,_,_,_,_,_,_,rfl⟩ HU.out her HT.out.f
 ·rw [show Pol.noted t.p (.ok (x,m))=.ok (.mk 6 Pol.none_ 0 [x] t.p,m) from rfl]
  go_enter Tryz.func96,Tryz.ntmps96
  go_wp2_with fail
  refine calls_fresh (fun W=>R0 w w.heap.size z5 W) (R0.start w) ?_
  intro W h1
  obtain ⟨b,hbb⟩:∃ b,w.heap.size=b:=⟨_,rfl⟩
  rw [hbb] at h1 ⊢
  have H:=Lib.hid h1
  have HB:=Lib.hid hbb
  have hbW:b < W.heap.size:=row_lt h1.res
  clear h1 hbb
  refine (HI1.out _ H.out.f).mono ?_
  rintro e w1 ⟨rfl,rfl⟩
  go_wp2_with fail
  refine (HN.out _ H.out.f).mono ?_
  rintro e V ⟨cs,n,rfl,hrep,hn2,rfl,hF⟩
  obtain ⟨xo,xs,xn,xq,xk,xc,xp,rfl⟩:=hrep.form
  have hwV:w.heap.size ≤ V.heap.size:=Nat.le_trans H.out.f.size hF.size
  have HREP:=Lib.hid (rep_one (F:=((((((((V.setCell ⟨b,0,none⟩ (.int .i64 6)).setCell ⟨b,1,none⟩ (.string ⟨#[]⟩)).setCell ⟨b,2,none⟩ (.int .i64 0)).setCell ⟨b,3,none⟩ (.slice (some ⟨V.heap.size+1,0,none⟩) 1 1)).setCell ⟨b,4,none⟩ (.int .i64 t.p)).alloc (.cells #[.int .i64 xo,.string xs,.int .i64 xn,.slice xq xk xc,.int .i64 xp] 42)).alloc (.cells #[.int .i64 xo,.string xs,.int .i64 xn,.slice xq xk xc,.int .i64 xp] 42)).drew)) (D:=fun g=>w.heap.size ≤ g) (V.heap.size+1) 42 6 t.p
   ((hrep.fr (((fr_set5 b _ _ _ _ _).alloc _).alloc _).drew (fun y hy _=>by simp at hy;subst hy;omega)).mono (fun g _ h=>Nat.le_trans H.out.f.size h)) (row_two V b _ _ _ _ _ _ _) (by omega))
  clear hrep
  have hsz:=H.out.f.size
  have H:=Lib.hid (H.out.fr hF)
  clear hF HN HI1
  have zf:∀ i,V.frozen? ⟨b,i,none⟩=false:=fun i=>Lib.frozen_of_heap H.out.res i
  have z0:V.cell? ⟨b,0,none⟩=some (.int .i64 0):=by rw [Lib.cell_of_heap H.out.res];rfl
  have z1:V.cell? ⟨b,1,none⟩=some (.string ⟨#[]⟩):=by rw [Lib.cell_of_heap H.out.res];rfl
  have z2:V.cell? ⟨b,2,none⟩=some (.int .i64 0):=by rw [Lib.cell_of_heap H.out.res];rfl
  have z3:V.cell? ⟨b,3,none⟩=some (.slice none 0 0):=by rw [Lib.cell_of_heap H.out.res];rfl
  have z4:V.cell? ⟨b,4,none⟩=some (.int .i64 0):=by rw [Lib.cell_of_heap H.out.res];rfl
  obtain ⟨c0,c1,c2,c3⟩:=(HTL.out.fr H.out.f).cells HT0.out
  have hbl:=World.block_lt_of_cell? V _ c0
  have hbV:b < V.heap.size:=row_lt H.out.res
  have HT:=Lib.hid ((((H.out.set5 (.int .i64 6) (.string ⟨#[]⟩) (.int .i64 0) (.slice (some ⟨V.heap.size+1,0,none⟩) 1 1) (.int .i64 t.p)).fr ((Fr.refl [] _).alloc (.cells #[.int .i64 xo,.string xs,.int .i64 xn,.slice xq xk xc,.int .i64 xp] 42))).fr ((Fr.refl [] _).alloc (.cells #[.int .i64 xo,.string xs,.int .i64 xn,.slice xq xk xc,.int .i64 xp] 42))).fr (Fr.refl [] _).drew)
  go_wp2_with fail
  go_region
  go_wp2_with fail
  refine bodyPost_ret (results_cell_tmp2 rfl _ _ b _ _ (0,0) _ rfl HT.out.res Tryz.underlying42 rfl (by kernel_rfl)) rfl ?_
  exact PaDone.yes (cs:=[_,_,_,_,_]) rfl HREP.out hn2 HT.out.f
theorem ref_not (f:Nat) (hN:PaReads 96 (Pol.not_ f)) (hC:PaReads 101 (Pol.compare f)):PaReads 96 (Pol.not_ (f+1)):=by
 intro w ad cap l i nest h hi hn hfed
 obtain ⟨t,ht,hd⟩:=at_of hi
 rw [Pol.not_] at hfed ⊢
 by_cases f1:Pol.is (l.drop i) 1 [110,111,116]=true
 ·rw [if_pos f1] at hfed ⊢
  have hp:Pol.place (l.drop i)=t.p:=by rw [hd];rfl
  have hk:t.k ≠ 5:=by rw [hd] at f1;rw [is_k f1];decide
  by_cases h12:12 ≤ nest
  ·rw [if_pos h12,hp]
   exact rnot_deep w ad cap l i nest h hi t ht f1 h12
  ·rw [if_neg h12] at hfed ⊢
   rw [List.tail_drop,hp] at hfed ⊢
   have key:=rnot_yes (Pol.not_ f) hN w ad cap l i nest h hi t ht f1 h12 hk (fun p hq=>by rw [hq] at hfed;exact hfed p rfl)
   revert key
   generalize Pol.not_ f (nest+1) (l.drop (i+1))=q
   intro key
   rcases q with e | ⟨x,m⟩
   ·exact key
   ·exact key
 ·rw [if_neg f1] at hfed ⊢
  exact rnot_no (Pol.compare f) hC w ad cap l i nest h hi hn (by simpa using f1) hfed
end Go.Proofs.YtgklmpooonnmiaaGreatDoor
