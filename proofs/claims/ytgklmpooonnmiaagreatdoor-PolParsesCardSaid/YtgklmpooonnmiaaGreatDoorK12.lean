/-
  Lemmas and contracts that the proofs over this seat use (PolChain, PolAnd, GrownT, PolRow); no statement of the seat is claimed in this text, and nothing is assumed in it.
-/
import Derived.Test.YtgklmpooonnmiaaGreatDoorK11
import Derived.Test.YtgklmpooonnmiaaGreatDoorK4
import Derived.Test.YtgklmpooonnmiaaGreatDoorK1
set_option linter.unusedVariables false
set_option linter.unusedSimpArgs false
namespace Go.Proofs.YtgklmpooonnmiaaGreatDoor
open Go.RowKit
structure Chn (w:World) (r g o c:Nat) (l:List TI) (nest:Nat) (b k:Nat) (e:Array Value) (x:Ex) (W:World):Prop where
 rd:Rd W r g o c l nest
 res:W.heap[b]?=some (.cells z5 42 (0,0))
 ex:W.heap[k]?=some (.cells e 42 (0,0))
 rep:Rep W (fun i=>w.heap.size ≤ i ∧ i ≠ k ∧ i ≠ b) e.toList x
 f:Fr [r] w W
 rl:r < w.heap.size
 gl:g < w.heap.size
 bw:b=w.heap.size
 kb:b < k
theorem Chn.step {w:World} {r g o c:Nat} {l:List TI} {nest:Nat} {b k:Nat} {e:Array Value} {x:Ex} {W W':World} {o' c':Nat} {l':List TI} {nest':Nat} (h:Chn w r g o c l nest b k e x W) (hf:Fr [r] W W') (hr:Rd W' r g o' c' l' nest'):Chn w r g o' c' l' nest' b k e x W':=by
 have h1:=h.rl;have h2:=h.bw;have h3:=h.kb
 exact ⟨hr,hf.row h.res (by simp;omega),hf.row h.ex (by simp;omega),h.rep.fr hf (fun y hy _=>by simp at hy;omega),h.f.trans hf (fun y hy=>.inl hy),h1,h.gl,h2,h3⟩
theorem Chn.fr {w:World} {r g o c:Nat} {l:List TI} {nest:Nat} {b k:Nat} {e:Array Value} {x:Ex} {W W':World} (h:Chn w r g o c l nest b k e x W) (hf:Fr [] W W'):Chn w r g o c l nest b k e x W' :=
 ⟨h.rd.fr hf (by simp) (by simp),hf.row h.res (by simp),hf.row h.ex (by simp),h.rep.fr hf (fun y hy _=>by cases hy),h.f.trans0 hf,h.rl,h.gl,h.bw,h.kb⟩
theorem Chn.more {w:World} {r g o c:Nat} {l:List TI} {nest:Nat} {b k rb:Nat} {cs ds:List Value} {x y:Ex} {U:World} (h:Chn w r g o c l nest b k cs.toArray x U) (hrow:U.heap[rb]?=some (.cells (cs ++ ds).toArray 42 (0,0))) (hrb:w.heap.size ≤ rb ∧ rb ≠ k ∧ rb ≠ b)
  (hy:Rep U (fun i=>w.heap.size ≤ i ∧ i ≠ k ∧ i ≠ b) ds y) (op p:Int) :
  Chn w r g o c l nest b k #[.int .i64 op,.string ⟨#[]⟩,.int .i64 0,.slice (some ⟨rb,0,none⟩) 2 2,.int .i64 p] (.mk op Pol.none_ 0 [x,y] p)
   (((((U.setCell ⟨k,0,none⟩ (.int .i64 op)).setCell ⟨k,1,none⟩ (.string ⟨#[]⟩)).setCell ⟨k,2,none⟩ (.int .i64 0)).setCell ⟨k,3,none⟩ (.slice (some ⟨rb,0,none⟩) 2 2)).setCell ⟨k,4,none⟩ (.int .i64 p)):=by
 have h1:=h.rl;have h2:=h.bw;have h3:=h.kb;have h4:=h.gl
 have hf:=fr_five U [k] k (.int .i64 op) (.string ⟨#[]⟩) (.int .i64 0) (.slice (some ⟨rb,0,none⟩) 2 2) (.int .i64 p) (by simp)
 have hx5:=h.rep.fr hf (fun y hy _=>by simp only [List.mem_singleton] at hy;rw [hy];simp)
 have hy5:=hy.fr hf (fun y hy _=>by simp only [List.mem_singleton] at hy;rw [hy];simp)
 have hrow:=hf.row hrow (by simp;omega)
 obtain ⟨o0,s0,n0,q0,k0,c0,p0,hcs⟩:=h.rep.form
 have he:=h.ex
 rw [show cs.toArray=#[.int .i64 o0,.string s0,.int .i64 n0,.slice q0 k0 c0,.int .i64 p0] by have h9:cs=_:=hcs;rw [h9]] at he
 refine ⟨h.rd.fr hf (by simp;omega) (by simp;omega),hf.row h.res (by simp;omega),heap_five he _ _ _ _ _,?_,h.f.trans hf (fun y hy=>.inr (by simp at hy;omega)),h1,h4,h2,h3⟩
 refine Rep.of_row op ⟨#[]⟩ 0 p [x,y] [cs,ds] rb hrb 42 2 rfl ?_ (Nat.le_refl _) (by decide) ?_
 ·rw [show [cs,ds].flatten=cs ++ ds by simp];exact hrow
 ·intro i z cs' hi hc
  have h0:i=0 ∨ i=1:=by have:=(List.getElem?_eq_some_iff.1 hi).1;simp at this;omega
  rcases h0 with rfl | rfl
  ·simp at hi hc
   subst hi hc
   exact hx5
  ·simp at hi hc
   subst hi hc
   exact hy5
set_option maxHeartbeats 8000000 in
set_option maxRecDepth 100000 in
theorem chain_reads (F:FuncId) (hcf:∀ args w,(callFunc F args).run Tryz.prog w=.ok (.enter F args) w) (one:Nat → Nat → List TI → Pol.PR Ex) (more:Nat → Nat → Ex → List TI → Pol.PR Ex) (word:ByteArray) (op:Int)
  (hm0:∀ nest e l,more 0 nest e l=.error (Pol.place l,0))
  (hm:∀ f nest e l,more (f+1) nest e l=if Pol.is l 1 word.data.toList=true then (match one f nest l.tail with | .error x=>.error x | .ok (x,m)=>more f nest (.mk op Pol.none_ 0 [e,x] (Pol.place l)) m) else .ok (e,l))
  (hk:∀ f nest l x m,one f nest l=.ok (x,m) → Ends l → Ends m)
  (f:Nat) (hF:∀ f' ≤ f,ReadsEx F (one f')) (w:World) (r g o c:Nat) (l:List TI) (nest:Nat) (h:Rd w r g o c l nest) (hE:Ends l) (hn:nest ≤ 12) (hr:r < w.heap.size)
  (Q:Pol.PR Ex) (hQ:Q=match one f nest l with | .error e=>.error e | .ok (x,m)=>more f nest x m) (hfed:Pol.Fed Q) :
  Calls Tryz.prog 78 #[.pointer (some ⟨r,0,none⟩),.string word,.int .i64 op,.func (.func F) #[.pointer (some ⟨r,0,none⟩)] #[]] w (Done r g nest w Q):=by
 have hR:=Lib.hid h
 have HE:=Lib.hid hE
 have HFD:=Lib.hid hfed
 have HM:=Lib.hid hm
 have HM0:=Lib.hid hm0
 have HK:=Lib.hid hk
 have HF:=Lib.hid hF
 have hg:=h.gl
 have HQ:=Lib.hid hQ
 have HC:Hid (∀ W,Rd W r g o c l nest → r < W.heap.size → Calls Tryz.prog F #[.pointer (some ⟨r,0,none⟩)] W (Done r g nest W (one f nest l))):=fun W h1 h2 =>
  HF.out f (Nat.le_refl _) W r g o c l nest h1 HE.out hn h2 (fun p hp=>HFD.out p (by rw [HQ.out,hp]))
 obtain ⟨q,hq⟩:∃ q,one f nest l=q:=⟨_,rfl⟩
 rw [hq] at HC HQ
 have Hq:=Lib.hid hq
 clear h hE hfed hm hm0 hk hF hQ hq
 have HN:=Lib.hid (HC.out _ (hR.out.fr ((Fr.refl _ w).alloc (.cells z5 42)) List.not_mem_nil List.not_mem_nil) (by simp;omega))
 have HR1:=Lib.hid (heap_alloc_last w (.cells z5 42))
 go_enter Tryz.func78,Tryz.ntmps78
 go_wp2_with fail
 refine HN.out.mono ?_
 intro e w1 hd
 cases q with
 | error pe =>
  obtain ⟨pp,pn⟩:=pe
  have hs:Stops [r] _ pp pn e w1:=hd
  obtain ⟨b9,hb9,rfl,hrow9,hf9⟩:=hs.from (bs:=[r]) ((Fr.refl _ w).alloc (.cells z5 42)) (fun y hy=>.inl (by simpa using hy))
  show _
  exact ⟨rfl,by rw [HQ.out];exact Done.stop ⟨b9,hb9,rfl,hrow9,hf9⟩⟩
 | ok xm =>
  obtain ⟨x,m⟩:=xm
  obtain ⟨cs,rfl,hrep,hf3,o3,c3,hr3⟩:=hd
  obtain ⟨op0,s9,n9,q9,k9,c9,p9,rfl⟩:=hrep.form
  have hE3:Ends m:=HK.out _ _ _ _ _ Hq.out HE.out
  have HE3:=Lib.hid hE3
  have HQ3:Hid (Q=more f nest x m):=HQ.out
  have HF3:=Lib.hid hf3
  have HR3:=Lib.hid hr3
  have HREP:=Lib.hid hrep
  clear hf3 hr3 hrep hE3 HQ HN HC Hq
  go_wp2_with fail
  have hz:w.heap.size+1 ≤ w1.heap.size:=by have:=HF3.out.size;simpa using this
  have HCH:Hid (Chn w r g o3 c3 m nest w.heap.size w1.heap.size #[.int .i64 op0,.string s9,.int .i64 n9,.slice q9 k9 c9,.int .i64 p9] x (w1.alloc (.cells #[.int .i64 op0,.string s9,.int .i64 n9,.slice q9 k9 c9,.int .i64 p9] 42))):=by
   have hA:Fr [] w1 (w1.alloc (.cells #[.int .i64 op0,.string s9,.int .i64 n9,.slice q9 k9 c9,.int .i64 p9] 42)):=(Fr.refl _ _).alloc _
   refine ⟨HR3.out.fr hA (by simp) (by simp),hA.row (HF3.out.row HR1.out (by simp;omega)) (by simp),heap_alloc_last _ _,?_,((Fr.refl [r] w).alloc _).trans (HF3.out.trans0 hA) (fun y hy=>.inl hy),hr,hg,rfl,by omega⟩
   exact (HREP.out.mono (fun g hg h=>by
    have h2:(w.alloc (.cells z5 42)).heap.size ≤ g:=h
    simp at h2
    exact ⟨by omega,by omega,by omega⟩)).fr hA (fun y hy _=>by cases hy)
  clear hz HF3 HR3 HREP HR1 hR
  obtain ⟨k,hk⟩:∃ k,w1.heap.size=k:=⟨_,rfl⟩
  obtain ⟨b,hb⟩:∃ b,w.heap.size=b:=⟨_,rfl⟩
  rw [hk,hb] at HCH ⊢
  clear hk hb
  go_loopg [10] f (fun q s10 W=>∃ (op0:Int) (s9:ByteArray) (n9:Int) (q9:Option Addr) (k9 c9:Nat) (p9:Int) (x:Ex) (o c:Nat) (m:List TI),q ≤ f ∧ Hid (Q=more q nest x m) ∧ Hid (Ends m) ∧ Hid (Chn w r g o c m nest b k #[.int .i64 op0,.string s9,.int .i64 n9,.slice q9 k9 c9,.int .i64 p9] x W))
  case atStart=>exact ⟨_,_,_,_,_,_,_,_,_,_,_,Nat.le_refl _,HQ3.out,HE3.out,HCH.out⟩
  case round =>
   clear HCH HQ3 HE3
   obtain ⟨op0,s9,n9,q9,k9,c9,p9,x,o,c,m,hq,HQ,HE,H⟩:=hrel
   have HQL:=Lib.hid hq
   clear hq
   obtain ⟨t,l1,rfl⟩:=HE.out.cons
   cases gk with
   | zero =>
    exact absurd (HQ.out.trans (HM0.out _ _ _)) (HFD.out _)
   | succ j =>
    have hjf:j+1 ≤ f:=HQL.out
    have hr2:r < wr.heap.size:=Nat.lt_of_lt_of_le hr H.out.f.size
    obtain ⟨tk,ts,tn,tp⟩:=t
    cases hp:Pol.is (⟨tk,ts,tn,tp⟩ :: l1) 1 word.data.toList with
    | false =>
     have HQ2:Hid (Q=.ok (x,⟨tk,ts,tn,tp⟩ :: l1)):=by show _=_;rw [HQ.out,HM.out];simp only [hp];rfl
     have HP:=Lib.hid hp
     clear hp HQ
     have HN:=Lib.hid (rd_next_is wr r g _ _ _ _ nest 1 word false H.out.rd HP.out)
     have hkb:b < k:=H.out.kb
     have hkb2:b ≠ k:=by omega
     have hkb3:k ≠ b:=by omega
     have HREP5:Hid (Rep _ _ _ _):=Rep.fr (fr_five wr [b] b (.int .i64 op0) (.string s9) (.int .i64 n9) (.slice q9 k9 c9) (.int .i64 p9) (by simp)) (fun y hy _=>by simp only [List.mem_singleton] at hy;rw [hy];simp) H.out.rep
     have HRD5:Hid (Rd _ _ _ _ _ _ _):=H.out.rd.fr (fr_five wr [b] b (.int .i64 op0) (.string s9) (.int .i64 n9) (.slice q9 k9 c9) (.int .i64 p9) (by simp)) (by have:=H.out.bw;simp;omega) (by have:=H.out.bw;have:=H.out.gl;simp;omega)
     have HF5:Hid (Fr [r] w _):=H.out.f.trans (fr_five wr [b] b (.int .i64 op0) (.string s9) (.int .i64 n9) (.slice q9 k9 c9) (.int .i64 p9) (by simp)) (fun y hy=>.inr (by have:=H.out.bw;simp at hy;omega))
     have HT5:=Lib.hid (heap_five H.out.res (.int .i64 op0) (.string s9) (.int .i64 n9) (.slice q9 k9 c9) (.int .i64 p9))
     have ef:∀ i,wr.frozen? ⟨k,i,none⟩=false:=fun i=>Lib.frozen_of_heap H.out.ex i
     have e0:wr.cell? ⟨k,0,none⟩=some (.int .i64 op0):=by rw [Lib.cell_of_heap H.out.ex];rfl
     have e1:wr.cell? ⟨k,1,none⟩=some (.string s9):=by rw [Lib.cell_of_heap H.out.ex];rfl
     have e2:wr.cell? ⟨k,2,none⟩=some (.int .i64 n9):=by rw [Lib.cell_of_heap H.out.ex];rfl
     have e3:wr.cell? ⟨k,3,none⟩=some (.slice q9 k9 c9):=by rw [Lib.cell_of_heap H.out.ex];rfl
     have e4:wr.cell? ⟨k,4,none⟩=some (.int .i64 p9):=by rw [Lib.cell_of_heap H.out.ex];rfl
     have zf:∀ i,wr.frozen? ⟨b,i,none⟩=false:=fun i=>Lib.frozen_of_heap H.out.res i
     have z0:wr.cell? ⟨b,0,none⟩=some (.int .i64 0):=by rw [Lib.cell_of_heap H.out.res];rfl
     have z1:wr.cell? ⟨b,1,none⟩=some (.string ⟨#[]⟩):=by rw [Lib.cell_of_heap H.out.res];rfl
     have z2:wr.cell? ⟨b,2,none⟩=some (.int .i64 0):=by rw [Lib.cell_of_heap H.out.res];rfl
     have z3:wr.cell? ⟨b,3,none⟩=some (.slice none 0 0):=by rw [Lib.cell_of_heap H.out.res];rfl
     have z4:wr.cell? ⟨b,4,none⟩=some (.int .i64 0):=by rw [Lib.cell_of_heap H.out.res];rfl
     go_wp2_with fail
     refine HN.out.mono ?_
     rintro e w2 ⟨rfl,rfl⟩
     go_wp2_with fail
     refine bodyPost_ret (v:=.agg #[.int .i64 op0,.string s9,.int .i64 n9,.slice q9 k9 c9,.int .i64 p9]) (results_cell_row rfl _ _ b _ _ (0,0) _ rfl HT5.out Tryz.underlying42 rfl (by kernel_rfl)) rfl ?_
     rw [HQ2.out]
     exact Done.ok rfl (HREP5.out.mono (fun g _ h=>h.1)) HF5.out HRD5.out
    | true =>
     have hE1:Ends l1:=Pol.is_tail hp (by decide) HE.out
     have HQ2:Hid (Q=match one j nest l1 with | .error x=>.error x | .ok (y,m)=>more j nest (.mk op Pol.none_ 0 [x,y] tp) m):=by show _=_;rw [HQ.out,HM.out];simp only [hp];rfl
     have htk:tk=1:=by
      have h9:=hp
      simp only [Pol.is,Bool.and_eq_true,beq_iff_eq] at h9
      exact h9.1
     have HP:=Lib.hid hp
     clear hp HQ
     subst htk
     have hl1:=hE1.pos
     have HE1:=Lib.hid hE1
     clear hE1
     have HN:=Lib.hid (rd_next_is wr r g _ _ _ _ nest 1 word true H.out.rd HP.out)
     have HTK:=Lib.hid (rd_take_yes wr r g _ _ _ l1 nest 1 H.out.rd hl1 hr2 rfl)
     have hu:=tok_pos
     go_wp2_with fail
     refine HN.out.mono ?_
     rintro e w2 ⟨rfl,rfl⟩
     go_wp2_with fail
     refine HTK.out.mono ?_
     rintro e w2 ⟨rfl,hf1,hr1⟩
     have H:=Lib.hid (H.out.step hf1 hr1)
     clear HN HTK hf1 hr1 hr2
     have hr2:r < w2.heap.size:=Nat.lt_of_lt_of_le hr H.out.f.size
     have HC:Hid (∀ U o c,Chn w r g o c l1 nest b k #[.int .i64 op0,.string s9,.int .i64 n9,.slice q9 k9 c9,.int .i64 p9] x U → Calls Tryz.prog F #[.pointer (some ⟨r,0,none⟩)] U (Done r g nest U (one j nest l1))):=fun U o c h =>
      HF.out j (by omega) U r g o c l1 nest h.rd HE1.out hn (Nat.lt_of_lt_of_le h.rl h.f.size) (fun p hp=>HFD.out p (by rw [HQ2.out,hp]))
     obtain ⟨q,hq⟩:∃ q,one j nest l1=q:=⟨_,rfl⟩
     rw [hq] at HC HQ2
     have Hq:=Lib.hid hq
     clear hq
     have ef:∀ i,w2.frozen? ⟨k,i,none⟩=false:=fun i=>Lib.frozen_of_heap H.out.ex i
     have e0:w2.cell? ⟨k,0,none⟩=some (.int .i64 op0):=by rw [Lib.cell_of_heap H.out.ex];rfl
     have e1:w2.cell? ⟨k,1,none⟩=some (.string s9):=by rw [Lib.cell_of_heap H.out.ex];rfl
     have e2:w2.cell? ⟨k,2,none⟩=some (.int .i64 n9):=by rw [Lib.cell_of_heap H.out.ex];rfl
     have e3:w2.cell? ⟨k,3,none⟩=some (.slice q9 k9 c9):=by rw [Lib.cell_of_heap H.out.ex];rfl
     have e4:w2.cell? ⟨k,4,none⟩=some (.int .i64 p9):=by rw [Lib.cell_of_heap H.out.ex];rfl
     go_wp2_with fail
     cases q with
     | error pe =>
      obtain ⟨pp,pn⟩:=pe
      have HQ3:Hid (Q=.error (pp,pn)):=HQ2.out
      have HX:Hid (∀ (U:World) o c,Chn w r g o c l1 nest b k #[.int .i64 op0,.string s9,.int .i64 n9,.slice q9 k9 c9,.int .i64 p9] x U → Calls Tryz.prog F #[.pointer (some ⟨r,0,none⟩)] U (Stops [r] w pp pn)):=fun U o c h=>(HC.out U o c h).mono (fun x W' (hs:Stops [r] U pp pn x W')=>hs.from h.f (fun y hy=>.inl (by simpa using hy)))
      refine wp_region_held_drew (S:=fun _=>True) (by kernel_rfl) (trivial) (fun hHeld=>?_)
      refine held_take (i:=0) (v:=?_) 19 rfl rfl (by kernel_rfl) (by kernel_rfl) (by kernel_rfl) (fun _ _ _ h=>h) (Or.inl ⟨by rfl,?_⟩) (by assumption) ?_
      rotate_left 1
      ·intro w hSw;(try dsimp only at hSw);go_simp;try (with_reducible rfl)
      try simp only [Act.put,List.setIfInBounds_toArray,List.set_cons_zero,List.set_cons_succ]
      refine held_take (i:=1) (v:=?_) 20 rfl rfl (by kernel_rfl) (by kernel_rfl) (by kernel_rfl) (fun _ _ _ h=>h) (Or.inl ⟨by rfl,?_⟩) (by assumption) ?_
      rotate_left 1
      ·intro w hSw;(try dsimp only at hSw);go_simp;try (with_reducible rfl)
      try simp only [Act.put,List.setIfInBounds_toArray,List.set_cons_zero,List.set_cons_succ]
      refine held_take (i:=3) (v:=?_) 22 rfl rfl (by kernel_rfl) (by kernel_rfl) (by kernel_rfl) (fun _ _ _ h=>h) (Or.inl ⟨by rfl,?_⟩) (by assumption) ?_
      rotate_left 1
      ·intro w hSw;(try dsimp only at hSw);go_simp;try (with_reducible rfl)
      try simp only [Act.put,List.setIfInBounds_toArray,List.set_cons_zero,List.set_cons_succ]
      refine wpAnyH_ready (rs:=[2,4]) (by kernel_rfl) (by simp) ?_
      refine AllReadyH.cons rfl (fun K hK=>?_) (AllReadyH.cons rfl (fun K hK=>?_) AllReadyH.nil)
      ·go_simp
       refine hK.out _ _ (trivial) (fun hHeld=>?_)
       clear hK K
       try simp only [Act.put,List.setIfInBounds_toArray,List.set_cons_zero,List.set_cons_succ]
       refine wpAnyH_ready (rs:=[4]) (by kernel_rfl) (by simp) ?_
       refine AllReadyH.cons rfl (fun K hK=>?_) AllReadyH.nil
       go_simp
       refine (HX.out _ _ _ (H.out.fr (Fr.refl [] _).drew)).mono ?_
       rintro e w3 ⟨b9,hb9,rfl,hrow9,hf9⟩
       show _
       exact ⟨rfl,by rw [HQ3.out];exact Done.stop ⟨b9,hb9,rfl,hrow9,hf9⟩⟩
      ·go_simp
       refine (HX.out _ _ _ (H.out.fr (Fr.refl [] _).drew)).mono ?_
       rintro e w3 ⟨b9,hb9,rfl,hrow9,hf9⟩
       show _
       exact ⟨rfl,by rw [HQ3.out];exact Done.stop ⟨b9,hb9,rfl,hrow9,hf9⟩⟩
     | ok xm =>
      obtain ⟨y,m⟩:=xm
      have HQ3:Hid (Q=more j nest (.mk op Pol.none_ 0 [x,y] tp) m):=HQ2.out
      have HEM:Hid (Ends m):=HK.out _ _ _ _ _ Hq.out HE1.out
      have hk2:k < w2.heap.size:=row_lt H.out.ex
      have hw2:w.heap.size ≤ w2.heap.size:=H.out.f.size
      refine wp_region_held_drew (S:=fun _=>True) (by kernel_rfl) (trivial) (fun hHeld=>?_)
      refine held_take (i:=0) (v:=?_) 19 rfl rfl (by kernel_rfl) (by kernel_rfl) (by kernel_rfl) (fun _ _ _ h=>h) (Or.inl ⟨by rfl,?_⟩) (by assumption) ?_
      rotate_left 1
      ·intro w hSw;(try dsimp only at hSw);go_simp;try (with_reducible rfl)
      try simp only [Act.put,List.setIfInBounds_toArray,List.set_cons_zero,List.set_cons_succ]
      refine held_take (i:=1) (v:=?_) 20 rfl rfl (by kernel_rfl) (by kernel_rfl) (by kernel_rfl) (fun _ _ _ h=>h) (Or.inl ⟨by rfl,?_⟩) (by assumption) ?_
      rotate_left 1
      ·intro w hSw;(try dsimp only at hSw);go_simp;try (with_reducible rfl)
      try simp only [Act.put,List.setIfInBounds_toArray,List.set_cons_zero,List.set_cons_succ]
      refine held_take (i:=3) (v:=?_) 22 rfl rfl (by kernel_rfl) (by kernel_rfl) (by kernel_rfl) (fun _ _ _ h=>h) (Or.inl ⟨by rfl,?_⟩) (by assumption) ?_
      rotate_left 1
      ·intro w hSw;(try dsimp only at hSw);go_simp;try (with_reducible rfl)
      try simp only [Act.put,List.setIfInBounds_toArray,List.set_cons_zero,List.set_cons_succ]
      refine wpAnyH_ready (rs:=[2,4]) (by kernel_rfl) (by simp) ?_
      refine AllReadyH.cons rfl (fun K hK=>?_) (AllReadyH.cons rfl (fun K hK=>?_) AllReadyH.nil)
      ·go_simp
       refine hK.out _ _ (trivial) (fun hHeld=>?_)
       clear hK K
       try simp only [Act.put,List.setIfInBounds_toArray,List.set_cons_zero,List.set_cons_succ]
       refine wpAnyH_ready (rs:=[4]) (by kernel_rfl) (by simp) ?_
       refine AllReadyH.cons rfl (fun K hK=>?_) AllReadyH.nil
       go_simp
       refine (HC.out _ _ _ (H.out.fr (Fr.refl [] _).drew)).mono ?_
       rintro e w3 ⟨ds,rfl,hrep,hFb,o3,c3,hr3⟩
       obtain ⟨op1,s1,n1,q1,k1,c1,p1,rfl⟩:=hrep.form
       have H:=Lib.hid ((H.out.fr (Fr.refl [] _).drew).step hFb hr3)
       have HY:=Lib.hid hrep
       clear hrep hFb hr3
       refine hK.out _ _ (trivial) (fun hHeld=>?_)
       clear hK K
       try simp only [Act.put,List.setIfInBounds_toArray,List.set_cons_zero,List.set_cons_succ]
       have hk3:k < w3.heap.size:=row_lt H.out.ex
       refine wpAnyH_ready (rs:=[5]) (by kernel_rfl) (by simp) ?_
       refine AllReadyH.cons rfl (fun K hK=>?_) AllReadyH.nil
       go_simp
       refine hK.out _ _ (trivial) (fun hHeld=>?_)
       clear hK K
       try simp only [Act.put,List.setIfInBounds_toArray,List.set_cons_zero,List.set_cons_succ]
       refine held_take (i:=6) (v:=?_) 25 rfl rfl (by kernel_rfl) (by kernel_rfl) (by kernel_rfl) (fun _ _ _ h=>h) (Or.inl ⟨by rfl,?_⟩) (by assumption) ?_
       rotate_left 1
       ·intro w hSw;(try dsimp only at hSw);go_simp;try (with_reducible rfl)
       try simp only [Act.put,List.setIfInBounds_toArray,List.set_cons_zero,List.set_cons_succ]
       refine wpAnyH_fresh (fun U=>Chn w r g o3 c3 m nest b k #[.int .i64 op0,.string s9,.int .i64 n9,.slice q9 k9 c9,.int .i64 p9] x U ∧ U.heap[w3.heap.size]?=some (.cells #[.int .i64 op0,.string s9,.int .i64 n9,.slice q9 k9 c9,.int .i64 p9,.int .i64 op1,.string s1,.int .i64 n1,.slice q1 k1 c1,.int .i64 p1] 42 (0,0)) ∧ Rep U (fun i=>w.heap.size ≤ i ∧ i ≠ k ∧ i ≠ b) [.int .i64 op1,.string s1,.int .i64 n1,.slice q1 k1 c1,.int .i64 p1] y)
        ⟨H.out.fr ((Fr.refl [] _).alloc _),heap_alloc_last _ _,(HY.out.mono (fun g hg h=>by have h9:w2.heap.size ≤ g:=h;have:=H.out.kb;exact ⟨by omega,by omega,by omega⟩)).fr ((Fr.refl [] _).alloc _) (fun y hy _=>by cases hy)⟩ ?_
       rintro U ⟨hu1,hu2,hu3⟩
       have HEND:=Lib.hid (Chn.more (rb:=w3.heap.size) (cs:=[.int .i64 op0,.string s9,.int .i64 n9,.slice q9 k9 c9,.int .i64 p9]) (ds:=[.int .i64 op1,.string s1,.int .i64 n1,.slice q1 k1 c1,.int .i64 p1]) hu1 hu2 ⟨by have:=hu1.bw;have:=hu1.kb;omega,by omega,by have:=hu1.kb;omega⟩ hu3 op tp)
       have HU:=Lib.hid hu1
       clear hu1 hu2 hu3
       have yf:∀ i,U.frozen? ⟨k,i,none⟩=false:=fun i=>Lib.frozen_of_heap HU.out.ex i
       have y0:U.cell? ⟨k,0,none⟩=some (.int .i64 op0):=by rw [Lib.cell_of_heap HU.out.ex];rfl
       have y1:U.cell? ⟨k,1,none⟩=some (.string s9):=by rw [Lib.cell_of_heap HU.out.ex];rfl
       have y2:U.cell? ⟨k,2,none⟩=some (.int .i64 n9):=by rw [Lib.cell_of_heap HU.out.ex];rfl
       have y3:U.cell? ⟨k,3,none⟩=some (.slice q9 k9 c9):=by rw [Lib.cell_of_heap HU.out.ex];rfl
       have y4:U.cell? ⟨k,4,none⟩=some (.int .i64 p9):=by rw [Lib.cell_of_heap HU.out.ex];rfl
       refine wpAnyH_ready (rs:=[7]) (by kernel_rfl) (by simp) ?_
       refine AllReadyH.cons rfl (fun K hK=>?_) AllReadyH.nil
       go_simp
       refine hK.out _ _ (trivial) (fun hHeld=>?_)
       clear hK K
       try simp only [Act.put,List.setIfInBounds_toArray,List.set_cons_zero,List.set_cons_succ]
       refine wpAnyH_done (by kernel_rfl) ?_ _
       go_wp2_with fail
       go_roundg j
       case measure=>omega
       case rel=>exact ⟨_,_,_,_,_,_,_,_,_,_,_,by omega,HQ3.out,HEM.out,HEND.out⟩
      ·go_simp
       refine (HC.out _ _ _ (H.out.fr (Fr.refl [] _).drew)).mono ?_
       rintro e w3 ⟨ds,rfl,hrep,hFb,o3,c3,hr3⟩
       obtain ⟨op1,s1,n1,q1,k1,c1,p1,rfl⟩:=hrep.form
       have H:=Lib.hid ((H.out.fr (Fr.refl [] _).drew).step hFb hr3)
       have HY:=Lib.hid hrep
       clear hrep hFb hr3
       refine hK.out _ _ (trivial) (fun hHeld=>?_)
       clear hK K
       try simp only [Act.put,List.setIfInBounds_toArray,List.set_cons_zero,List.set_cons_succ]
       clear e0 e1 e2 e3 e4 ef
       have ef:∀ i,w3.frozen? ⟨k,i,none⟩=false:=fun i=>Lib.frozen_of_heap H.out.ex i
       have e0:w3.cell? ⟨k,0,none⟩=some (.int .i64 op0):=by rw [Lib.cell_of_heap H.out.ex];rfl
       have e1:w3.cell? ⟨k,1,none⟩=some (.string s9):=by rw [Lib.cell_of_heap H.out.ex];rfl
       have e2:w3.cell? ⟨k,2,none⟩=some (.int .i64 n9):=by rw [Lib.cell_of_heap H.out.ex];rfl
       have e3:w3.cell? ⟨k,3,none⟩=some (.slice q9 k9 c9):=by rw [Lib.cell_of_heap H.out.ex];rfl
       have e4:w3.cell? ⟨k,4,none⟩=some (.int .i64 p9):=by rw [Lib.cell_of_heap H.out.ex];rfl
       refine wpAnyH_ready (rs:=[2]) (by kernel_rfl) (by simp) ?_
       refine AllReadyH.cons rfl (fun K hK=>?_) AllReadyH.nil
       go_simp
       refine hK.out _ _ (trivial) (fun hHeld=>?_)
       clear hK K
       try simp only [Act.put,List.setIfInBounds_toArray,List.set_cons_zero,List.set_cons_succ]
       clear e0 e1 e2 e3 e4 ef
       have hk3:k < w3.heap.size:=row_lt H.out.ex
       refine wpAnyH_ready (rs:=[5]) (by kernel_rfl) (by simp) ?_
       refine AllReadyH.cons rfl (fun K hK=>?_) AllReadyH.nil
       go_simp
       refine hK.out _ _ (trivial) (fun hHeld=>?_)
       clear hK K
       try simp only [Act.put,List.setIfInBounds_toArray,List.set_cons_zero,List.set_cons_succ]
       refine held_take (i:=6) (v:=?_) 25 rfl rfl (by kernel_rfl) (by kernel_rfl) (by kernel_rfl) (fun _ _ _ h=>h) (Or.inl ⟨by rfl,?_⟩) (by assumption) ?_
       rotate_left 1
       ·intro w hSw;(try dsimp only at hSw);go_simp;try (with_reducible rfl)
       try simp only [Act.put,List.setIfInBounds_toArray,List.set_cons_zero,List.set_cons_succ]
       refine wpAnyH_fresh (fun U=>Chn w r g o3 c3 m nest b k #[.int .i64 op0,.string s9,.int .i64 n9,.slice q9 k9 c9,.int .i64 p9] x U ∧ U.heap[w3.heap.size]?=some (.cells #[.int .i64 op0,.string s9,.int .i64 n9,.slice q9 k9 c9,.int .i64 p9,.int .i64 op1,.string s1,.int .i64 n1,.slice q1 k1 c1,.int .i64 p1] 42 (0,0)) ∧ Rep U (fun i=>w.heap.size ≤ i ∧ i ≠ k ∧ i ≠ b) [.int .i64 op1,.string s1,.int .i64 n1,.slice q1 k1 c1,.int .i64 p1] y)
        ⟨H.out.fr ((Fr.refl [] _).alloc _),heap_alloc_last _ _,(HY.out.mono (fun g hg h=>by have h9:w2.heap.size ≤ g:=h;have:=H.out.kb;exact ⟨by omega,by omega,by omega⟩)).fr ((Fr.refl [] _).alloc _) (fun y hy _=>by cases hy)⟩ ?_
       rintro U ⟨hu1,hu2,hu3⟩
       have HEND:=Lib.hid (Chn.more (rb:=w3.heap.size) (cs:=[.int .i64 op0,.string s9,.int .i64 n9,.slice q9 k9 c9,.int .i64 p9]) (ds:=[.int .i64 op1,.string s1,.int .i64 n1,.slice q1 k1 c1,.int .i64 p1]) hu1 hu2 ⟨by have:=hu1.bw;have:=hu1.kb;omega,by omega,by have:=hu1.kb;omega⟩ hu3 op tp)
       have HU:=Lib.hid hu1
       clear hu1 hu2 hu3
       have yf:∀ i,U.frozen? ⟨k,i,none⟩=false:=fun i=>Lib.frozen_of_heap HU.out.ex i
       have y0:U.cell? ⟨k,0,none⟩=some (.int .i64 op0):=by rw [Lib.cell_of_heap HU.out.ex];rfl
       have y1:U.cell? ⟨k,1,none⟩=some (.string s9):=by rw [Lib.cell_of_heap HU.out.ex];rfl
       have y2:U.cell? ⟨k,2,none⟩=some (.int .i64 n9):=by rw [Lib.cell_of_heap HU.out.ex];rfl
       have y3:U.cell? ⟨k,3,none⟩=some (.slice q9 k9 c9):=by rw [Lib.cell_of_heap HU.out.ex];rfl
       have y4:U.cell? ⟨k,4,none⟩=some (.int .i64 p9):=by rw [Lib.cell_of_heap HU.out.ex];rfl
       refine wpAnyH_ready (rs:=[7]) (by kernel_rfl) (by simp) ?_
       refine AllReadyH.cons rfl (fun K hK=>?_) AllReadyH.nil
       go_simp
       refine hK.out _ _ (trivial) (fun hHeld=>?_)
       clear hK K
       try simp only [Act.put,List.setIfInBounds_toArray,List.set_cons_zero,List.set_cons_succ]
       refine wpAnyH_done (by kernel_rfl) ?_ _
       go_wp2_with fail
       go_roundg j
       case measure=>omega
       case rel=>exact ⟨_,_,_,_,_,_,_,_,_,_,_,by omega,HQ3.out,HEM.out,HEND.out⟩
end Go.Proofs.YtgklmpooonnmiaaGreatDoor

namespace Go.Proofs.YtgklmpooonnmiaaGreatDoor
open Go.RowKit
set_option maxHeartbeats 2000000 in
set_option maxRecDepth 100000 in
theorem and_reads (f:Nat) (hF:∀ f' ≤ f,ReadsEx 94 (Pol.not_ f')):ReadsEx 79 (Pol.and_ (f+1)):=by
 intro w r g o c l nest h hE hn hr hfed
 have hcf:∀ args w,(callFunc 94 args).run Tryz.prog w=.ok (.enter 94 args) w:=fun args w=>by kernel_rfl
 have HCH:=Lib.hid (chain_reads 94 hcf Pol.not_ Pol.andMore ⟨#[97,110,100]⟩ 7 (fun _ _ _=>by simp [Pol.andMore]) (fun _ _ _ _=>by rw [Pol.andMore];rfl)
  (fun f1 n1 l1 x1 m1=>((Pol.all_keep f1).2.2.2.1 n1 l1 x1 m1)) f hF (w.alloc (.cells z5 42)) r g o c l nest (h.fr ((Fr.refl [] w).alloc _) List.not_mem_nil List.not_mem_nil) hE hn (by simp;omega) (Pol.and_ (f+1) nest l) (by rw [Pol.and_];rcases Pol.not_ f nest l with e | ⟨x,m⟩ <;> rfl) hfed)
 have HRD:=Lib.hid h
 have HR1:=Lib.hid (heap_alloc_last w (.cells z5 42))
 have hg:=h.gl
 have hmf:∀ fn first cap w,(Instr.makeFunc fn first cap).run Tryz.prog w=.ok (.func fn first cap) w:=fun _ _ _ _=>rfl
 obtain ⟨q,hq⟩:∃ q,Pol.and_ (f+1) nest l=q:=⟨_,rfl⟩
 rw [hq] at HCH ⊢
 clear h hE hfed hF hq
 go_enter Tryz.func79,Tryz.ntmps79
 go_wp2_with fail
 refine HCH.out.mono ?_
 intro e w1 hd
 cases q with
 | error pe =>
  obtain ⟨pp,pn⟩:=pe
  have hs:Stops [r] _ pp pn e w1:=hd
  obtain ⟨b9,hb9,rfl,hrow9,hf9⟩:=hs.from (bs:=[r]) ((Fr.refl _ w).alloc (.cells z5 42)) (fun y hy=>.inl (by simpa using hy))
  show _
  exact ⟨rfl,Done.stop ⟨b9,hb9,rfl,hrow9,hf9⟩⟩
 | ok xm =>
  obtain ⟨x,m⟩:=xm
  obtain ⟨cs,rfl,hrep,hf3,o3,c3,hr3⟩:=hd
  obtain ⟨op0,s9,n9,q9,k9,c9,p9,rfl⟩:=hrep.form
  have HZ:=Lib.hid (hf3.row HR1.out (by simp;omega))
  have HT:=Lib.hid (heap_five HZ.out (.int .i64 op0) (.string s9) (.int .i64 n9) (.slice q9 k9 c9) (.int .i64 p9))
  have hff:=fr_five w1 [w.heap.size] w.heap.size (.int .i64 op0) (.string s9) (.int .i64 n9) (.slice q9 k9 c9) (.int .i64 p9) (by simp)
  have HREP:=Lib.hid (hrep.fr hff (fun y hy _=>by simp only [List.mem_singleton] at hy;rw [hy];show ¬ (w.alloc (.cells z5 42)).heap.size ≤ _;simp))
  have HRD9:=Lib.hid (hr3.fr hff (by simp;omega) (by simp;omega))
  have HF9:Hid (Fr [r] w _):=(((Fr.refl [r] w).alloc _).trans hf3 (fun y hy=>.inl hy)).trans hff (fun y hy=>.inr (by simp at hy;omega))
  clear hrep hff hf3 hr3 HR1 HCH HRD
  have zf:∀ i,w1.frozen? ⟨w.heap.size,i,none⟩=false:=fun i=>Lib.frozen_of_heap HZ.out i
  have z0:w1.cell? ⟨w.heap.size,0,none⟩=some (.int .i64 0):=by rw [Lib.cell_of_heap HZ.out];rfl
  have z1:w1.cell? ⟨w.heap.size,1,none⟩=some (.string ⟨#[]⟩):=by rw [Lib.cell_of_heap HZ.out];rfl
  have z2:w1.cell? ⟨w.heap.size,2,none⟩=some (.int .i64 0):=by rw [Lib.cell_of_heap HZ.out];rfl
  have z3:w1.cell? ⟨w.heap.size,3,none⟩=some (.slice none 0 0):=by rw [Lib.cell_of_heap HZ.out];rfl
  have z4:w1.cell? ⟨w.heap.size,4,none⟩=some (.int .i64 0):=by rw [Lib.cell_of_heap HZ.out];rfl
  go_wp2_with fail
  refine bodyPost_ret (v:=.agg #[.int .i64 op0,.string s9,.int .i64 n9,.slice q9 k9 c9,.int .i64 p9]) (results_cell_row rfl _ _ w.heap.size _ _ (0,0) _ rfl HT.out Tryz.underlying42 rfl (by kernel_rfl)) rfl ?_
  exact Done.ok rfl (HREP.out.mono (fun g _ h=>by have h9:(w.alloc (.cells z5 42)).heap.size ≤ g:=h;simp at h9;show w.heap.size ≤ g;omega)) HF9.out HRD9.out
set_option maxHeartbeats 2000000 in
set_option maxRecDepth 100000 in
theorem or_reads (f:Nat) (hF:∀ f' ≤ f,ReadsEx 79 (Pol.and_ f')):ReadsEx 47 (Pol.or_ (f+1)):=by
 intro w r g o c l nest h hE hn hr hfed
 have hcf:∀ args w,(callFunc 79 args).run Tryz.prog w=.ok (.enter 79 args) w:=fun args w=>by kernel_rfl
 have HCH:=Lib.hid (chain_reads 79 hcf Pol.and_ Pol.orMore ⟨#[111,114]⟩ 8 (fun _ _ _=>by simp [Pol.orMore]) (fun _ _ _ _=>by rw [Pol.orMore];rfl)
  (fun f1 n1 l1 x1 m1=>((Pol.all_keep f1).2.2.2.2.2.1 n1 l1 x1 m1)) f hF (w.alloc (.cells z5 42)) r g o c l nest (h.fr ((Fr.refl [] w).alloc _) List.not_mem_nil List.not_mem_nil) hE hn (by simp;omega) (Pol.or_ (f+1) nest l) (by rw [Pol.or_];rcases Pol.and_ f nest l with e | ⟨x,m⟩ <;> rfl) hfed)
 have HRD:=Lib.hid h
 have HR1:=Lib.hid (heap_alloc_last w (.cells z5 42))
 have hg:=h.gl
 have hmf:∀ fn first cap w,(Instr.makeFunc fn first cap).run Tryz.prog w=.ok (.func fn first cap) w:=fun _ _ _ _=>rfl
 obtain ⟨q,hq⟩:∃ q,Pol.or_ (f+1) nest l=q:=⟨_,rfl⟩
 rw [hq] at HCH ⊢
 clear h hE hfed hF hq
 go_enter Tryz.func47,Tryz.ntmps47
 go_wp2_with fail
 refine HCH.out.mono ?_
 intro e w1 hd
 cases q with
 | error pe =>
  obtain ⟨pp,pn⟩:=pe
  have hs:Stops [r] _ pp pn e w1:=hd
  obtain ⟨b9,hb9,rfl,hrow9,hf9⟩:=hs.from (bs:=[r]) ((Fr.refl _ w).alloc (.cells z5 42)) (fun y hy=>.inl (by simpa using hy))
  show _
  exact ⟨rfl,Done.stop ⟨b9,hb9,rfl,hrow9,hf9⟩⟩
 | ok xm =>
  obtain ⟨x,m⟩:=xm
  obtain ⟨cs,rfl,hrep,hf3,o3,c3,hr3⟩:=hd
  obtain ⟨op0,s9,n9,q9,k9,c9,p9,rfl⟩:=hrep.form
  have HZ:=Lib.hid (hf3.row HR1.out (by simp;omega))
  have HT:=Lib.hid (heap_five HZ.out (.int .i64 op0) (.string s9) (.int .i64 n9) (.slice q9 k9 c9) (.int .i64 p9))
  have hff:=fr_five w1 [w.heap.size] w.heap.size (.int .i64 op0) (.string s9) (.int .i64 n9) (.slice q9 k9 c9) (.int .i64 p9) (by simp)
  have HREP:=Lib.hid (hrep.fr hff (fun y hy _=>by simp only [List.mem_singleton] at hy;rw [hy];show ¬ (w.alloc (.cells z5 42)).heap.size ≤ _;simp))
  have HRD9:=Lib.hid (hr3.fr hff (by simp;omega) (by simp;omega))
  have HF9:Hid (Fr [r] w _):=(((Fr.refl [r] w).alloc _).trans hf3 (fun y hy=>.inl hy)).trans hff (fun y hy=>.inr (by simp at hy;omega))
  clear hrep hff hf3 hr3 HR1 HCH HRD
  have zf:∀ i,w1.frozen? ⟨w.heap.size,i,none⟩=false:=fun i=>Lib.frozen_of_heap HZ.out i
  have z0:w1.cell? ⟨w.heap.size,0,none⟩=some (.int .i64 0):=by rw [Lib.cell_of_heap HZ.out];rfl
  have z1:w1.cell? ⟨w.heap.size,1,none⟩=some (.string ⟨#[]⟩):=by rw [Lib.cell_of_heap HZ.out];rfl
  have z2:w1.cell? ⟨w.heap.size,2,none⟩=some (.int .i64 0):=by rw [Lib.cell_of_heap HZ.out];rfl
  have z3:w1.cell? ⟨w.heap.size,3,none⟩=some (.slice none 0 0):=by rw [Lib.cell_of_heap HZ.out];rfl
  have z4:w1.cell? ⟨w.heap.size,4,none⟩=some (.int .i64 0):=by rw [Lib.cell_of_heap HZ.out];rfl
  go_wp2_with fail
  refine bodyPost_ret (v:=.agg #[.int .i64 op0,.string s9,.int .i64 n9,.slice q9 k9 c9,.int .i64 p9]) (results_cell_row rfl _ _ w.heap.size _ _ (0,0) _ rfl HT.out Tryz.underlying42 rfl (by kernel_rfl)) rfl ?_
  exact Done.ok rfl (HREP.out.mono (fun g _ h=>by have h9:(w.alloc (.cells z5 42)).heap.size ≤ g:=h;simp at h9;show w.heap.size ≤ g;omega)) HF9.out HRD9.out
end Go.Proofs.YtgklmpooonnmiaaGreatDoor

namespace Go.Proofs.YtgklmpooonnmiaaGreatDoor
open Go.RowKit
theorem _root_.Go.World.grownBy.trans_ {a b c:World} {row:Option Nat} (h:a.grownBy b row) (k:b.grownBy c row):a.grownBy c row :=
 ⟨k.os.trans h.os,k.tape.trans h.tape,k.output.trans h.output,Nat.le_trans h.size k.size,fun i hi hn=>(k.block i (Nat.lt_of_lt_of_le hi h.size) hn).trans (h.block i hi hn)⟩
end Go.Proofs.YtgklmpooonnmiaaGreatDoor

namespace Go.Proofs.YtgklmpooonnmiaaGreatDoor
open Go.RowKit
theorem infoEx:(Tryz.prog.info? 42).map (fun i=>(i.zero,i.size,i.bytes))=some (some (.agg #[.int .i64 0,.string ⟨#[]⟩,.int .i64 0,.slice none 0 0,.int .i64 0]),5,64):=by kernel_rfl
theorem appEx {ops:Array Oper} {rest:List Oper} {o:Oper} {a:Act} {w:World} {Q:Exit → Act → World → Prop} (hgd:o.guard=none) (s x:Operand)
  (ho:o.op=.call { callee:=.builtin .append,args:=#[s,x],argTypes:=#[38,38] })
  (B:Nat) (v:Value) (n:Nat) (xs cs:List Value) (hcs:cs.length=5) (h1:∀ u ∈ cs,u.oneCell'=true) (hs:a.eval s=v) (hx:a.eval x=.slice (some ⟨w.heap.size,0,none⟩) 1 1)
  (hown:w.ownsRow B 42 5 v n xs) (hB:B ≤ w.heap.size) (hn:n < 1000000)
  (h:∀ g c w',w'.ownsRow B 42 5 (.slice (some ⟨g,0,none⟩) (n+1) c) (n+1) (xs ++ cs) → w.grownBy w' v.ownBlock → (v.ownBlock=some g ∨ w.heap.size ≤ g) → wpList Tryz.prog ops Q rest (a.put o.dst (.slice (some ⟨g,0,none⟩) (n+1) c)) w'):wpList Tryz.prog ops Q (o :: rest) a (w.alloc (.cells cs.toArray 42)):=by
 obtain ⟨i,hi,hz0,hz1,hz2⟩:=info_parts infoEx
 refine wpList_append_lies (w.alloc _) hgd s x _ ho B 42 i _ 5 64 Tryz.underlying38 hi hz0 hz1 hz2 rfl (by decide) v n xs hs (ownsRow_fr hown ((Fr.refl _ _).alloc _)) _ 1 1 cs hx (by omega) (World.news_of_block (heap_alloc_last w _)) h1 (by decide) (by unfold maxLen;omega) (by omega) (Nat.le_trans hB (by simp)) _ rfl ?_
 intro g cap w' h1 h2 h3 _
 have hg:=World.grownBy_alloc w (.cells cs.toArray 42) v.ownBlock
 exact h g cap w' h1 (hg.trans_ h2) (h3.imp id (fun h=>by rw [h];simp))
theorem Fr.of_grown {w w':World} {o:Option Nat} (h:w.grownBy w' o):Fr o.toList w w' :=
 ⟨h.os,h.tape,h.output,h.size,fun k hk hn=>h.block k hk (fun hc=>hn (by rw [← hc];simp))⟩
structure Exs (w:World) (D:Nat → Prop) (css:List (List Value)) (L:List Ex):Prop where
 len:css.length=L.length
 rep:∀ (i:Nat) (x:Ex) (cs:List Value),L[i]?=some x → css[i]?=some cs → Rep w D cs x
theorem Exs.fr {bs:List Nat} {w w':World} {D:Nat → Prop} (hf:Fr bs w w') (hb:∀ y ∈ bs,y < w.heap.size → ¬ D y) {css:List (List Value)} {L:List Ex} (h:Exs w D css L):Exs w' D css L :=
 ⟨h.len,fun i x cs hi hc=>(h.rep i x cs hi hc).fr hf hb⟩
theorem Exs.mono {w:World} {D E:Nat → Prop} (hd:∀ g,g < w.heap.size → D g → E g) {css:List (List Value)} {L:List Ex} (h:Exs w D css L):Exs w E css L :=
 ⟨h.len,fun i x cs hi hc=>(h.rep i x cs hi hc).mono hd⟩
theorem Exs.snoc {w:World} {D:Nat → Prop} {css:List (List Value)} {L:List Ex} {cs:List Value} {x:Ex} (h:Exs w D css L) (hx:Rep w D cs x):Exs w D (css ++ [cs]) (L ++ [x]):=by
 refine ⟨by simp [h.len],fun i y ds hi hc=>?_⟩
 by_cases hl:i < L.length
 ·rw [List.getElem?_append_left hl] at hi
  rw [List.getElem?_append_left (by rw [h.len];exact hl)] at hc
  exact h.rep i y ds hi hc
 ·have h0:i=L.length:=by have:=(List.getElem?_eq_some_iff.1 hi).1;simp at this;omega
  subst h0
  simp at hi
  rw [← h.len] at hc
  simp at hc
  subst hi hc
  exact hx
theorem Exs.one {w:World} {D:Nat → Prop} {cs:List Value} {x:Ex} (hx:Rep w D cs x):Exs w D [cs] [x]:=by
 refine ⟨rfl,fun i y ds hi hc=>?_⟩
 have h0:i=0:=by have:=(List.getElem?_eq_some_iff.1 hi).1;simp at this;omega
 subst h0
 simp at hi hc
 subst hi hc
 exact hx
def RowDone (r g nest:Nat) (w:World) (q:Pol.PR (List Ex)) (e:Ending) (w':World):Prop :=
 match q with
 | .ok (L,m)=>∃ v css,e=.returned v ∧ w'.ownsRow w.heap.size 42 5 v L.length css.flatten ∧ Exs w' (fun i=>w.heap.size ≤ i ∧ v.ownBlock ≠ some i) css L ∧ Fr [r] w w' ∧ ∃ o c,Rd w' r g o c m nest
 | .error (p,n)=>Stops [r] w p n e w'
theorem RowDone.stop {r g nest:Nat} {w w':World} {p n:Int} {e:Ending} (h:Stops [r] w p n e w'):RowDone r g nest w (.error (p,n)) e w':=h
def Pol.rowK (A:List Ex):Pol.PR (List Ex) → Pol.PR (List Ex)
 | .error e=>.error e
 | .ok (L,m)=>.ok (A ++ L,m)
structure RowSt (w:World) (r g o c:Nat) (m:List TI) (nest:Nat) (v:Value) (css:List (List Value)) (A:List Ex) (W:World):Prop where
 rd:Rd W r g o c m nest
 own:W.ownsRow w.heap.size 42 5 v A.length css.flatten
 exs:Exs W (fun i=>w.heap.size ≤ i ∧ v.ownBlock ≠ some i) css A
 f:Fr [r] w W
 rl:r < w.heap.size
 gl:g < w.heap.size
theorem RowSt.step {w:World} {r g o c:Nat} {m:List TI} {nest:Nat} {v:Value} {css:List (List Value)} {A:List Ex} {W W':World} {o' c':Nat} {m':List TI} {nest':Nat} (h:RowSt w r g o c m nest v css A W) (hf:Fr [r] W W') (hr:Rd W' r g o' c' m' nest'):RowSt w r g o' c' m' nest' v css A W':=by
 have h1:=h.rl
 refine ⟨hr,?_,h.exs.fr hf (fun y hy _=>by simp at hy;omega),h.f.trans hf (fun y hy=>.inl hy),h1,h.gl⟩
 refine ⟨h.own.1,?_⟩
 rcases h.own.2 with h | ⟨g0,cap,cur,hv,hb,hg,hr⟩
 ·exact Or.inl h
 ·exact Or.inr ⟨g0,cap,cur,hv,hb,hf.row hg (by simp;omega),hr⟩
theorem RowSt.grow {w:World} {r g o c:Nat} {m:List TI} {nest:Nat} {v:Value} {css:List (List Value)} {A:List Ex} {W U:World} {cs:List Value} {x:Ex} (h:RowSt w r g o c m nest v css A W) (hx:Rep W (fun i=>w.heap.size ≤ i ∧ v.ownBlock ≠ some i) cs x)
  {g1 c1:Nat} (ho:U.ownsRow w.heap.size 42 5 (.slice (some ⟨g1,0,none⟩) (A.length+1) c1) (A.length+1) (css.flatten ++ cs)) (hg:W.grownBy U v.ownBlock) (hgg:v.ownBlock=some g1 ∨ W.heap.size ≤ g1) :
  RowSt w r g o c m nest (.slice (some ⟨g1,0,none⟩) (A.length+1) c1) (css ++ [cs]) (A ++ [x]) U:=by
 have h1:=h.rl;have h2:=h.gl
 have hf:=Fr.of_grown hg
 have hbase:∀ y ∈ v.ownBlock.toList,w.heap.size ≤ y:=fun y hy=>by
  rcases h.own.2 with ⟨hv,_⟩ | ⟨g0,cap,cur,hv,hb,_⟩
  ·rw [hv] at hy;simp [Value.ownBlock] at hy
  ·rw [hv] at hy;simp [Value.ownBlock] at hy;omega
 have hnot:∀ y ∈ v.ownBlock.toList,y < W.heap.size → ¬ (w.heap.size ≤ y ∧ v.ownBlock ≠ some y):=fun y hy _ hc=>hc.2 (by simpa using hy)
 have hD:∀ i,i < W.heap.size → (w.heap.size ≤ i ∧ v.ownBlock ≠ some i) → (w.heap.size ≤ i ∧ v.ownBlock ≠ some i ∧ i ≠ g1):=fun i hi hc=>⟨hc.1,hc.2,fun h9=>by
  subst h9
  rcases hgg with h8 | h8
  ·exact hc.2 h8
  ·omega⟩
 have hE:∀ i,i < U.heap.size → (w.heap.size ≤ i ∧ v.ownBlock ≠ some i ∧ i ≠ g1) → (w.heap.size ≤ i ∧ (Value.slice (some ⟨g1,0,none⟩) (A.length+1) c1).ownBlock ≠ some i):=fun i _ hc=>⟨hc.1,fun h9=>by
  simp [Value.ownBlock] at h9
  exact hc.2.2 h9.symm⟩
 refine ⟨h.rd.fr hf (fun hc=>by have:=hbase _ hc;omega) (fun hc=>by have:=hbase _ hc;omega),?_,?_,h.f.trans hf (fun y hy=>.inr (hbase y hy)),h1,h2⟩
 ·rw [List.length_append,List.flatten_append]
  simpa using ho
 ·have h5:=(((h.exs.snoc hx).mono hD).fr hf (fun y hy hl hc=>hc.2.1 (by simpa using hy))).mono hE
  exact h5
set_option maxHeartbeats 4000000 in
set_option maxRecDepth 100000 in
theorem row_reads (f:Nat) (hO:∀ f' ≤ f,ReadsEx 102 (Pol.operand f')) (w:World) (r g o c:Nat) (l:List TI) (nest:Nat) (h:Rd w r g o c l nest) (hE:Ends l) (hn:nest ≤ 12) (hr:r < w.heap.size)
  (hfed:Pol.Fed (Pol.row (f+1) nest l)) :
  Calls Tryz.prog 105 #[.pointer (some ⟨r,0,none⟩),.func (.func 102) #[.pointer (some ⟨r,0,none⟩)] #[]] w (RowDone r g nest w (Pol.row (f+1) nest l)):=by
 obtain ⟨Q,hQ⟩:∃ Q,Pol.row (f+1) nest l=Q:=⟨_,rfl⟩
 rw [hQ] at hfed ⊢
 rw [Pol.row] at hQ
 have HRD:=Lib.hid h
 have HE:=Lib.hid hE
 have HO:=Lib.hid hO
 have HFD:=Lib.hid hfed
 have hg:=h.gl
 have HQ:=Lib.hid hQ
 have HC:=Lib.hid (hO f (Nat.le_refl _) w r g o c l nest h hE hn hr (fun p hp=>hfed p (by rw [← hQ,hp])))
 obtain ⟨q,hq⟩:∃ q,Pol.operand f nest l=q:=⟨_,rfl⟩
 rw [hq] at HC HQ
 have Hq:=Lib.hid hq
 clear h hE hO hfed hQ hq
 go_enter Tryz.func105,Tryz.ntmps105
 go_wp2_with fail
 refine HC.out.mono ?_
 intro e w1 hd
 cases q with
 | error pe =>
  obtain ⟨pp,pn⟩:=pe
  have HQ2:Hid (.error (pp,pn)=Q):=HQ.out
  have hs:Stops [r] _ pp pn e w1:=hd
  obtain ⟨b9,hb9,rfl,hrow9,hf9⟩:=hs
  show _
  exact ⟨rfl,by rw [← HQ2.out];exact RowDone.stop ⟨b9,hb9,rfl,hrow9,hf9⟩⟩
 | ok xm =>
  obtain ⟨x,m⟩:=xm
  obtain ⟨cs,rfl,hrep,hf3,o3,c3,hr3⟩:=hd
  obtain ⟨op0,s9,n9,q9,k9,c9,p9,rfl⟩:=hrep.form
  have HEM:Hid (Ends m):=(Pol.all_keep f).1 _ _ _ _ Hq.out HE.out
  have HQ2:Hid (Q=if Pol.is m 4 [44]=true then Pol.rowK [x] (Pol.row f nest m.tail) else .ok ([x],m)):=by
   show _=_
   rw [← HQ.out]
   simp only []
   split
   ·cases Pol.row f nest m.tail <;> rfl
   ·rfl
  have hA:Fr [] w1 (w1.alloc (.cells #[.int .i64 op0,.string s9,.int .i64 n9,.slice q9 k9 c9,.int .i64 p9] 42)):=(Fr.refl _ _).alloc _
  have hwz:=hf3.size
  have HST:Hid (RowSt w r g o3 c3 m nest (.slice (some ⟨w1.heap.size,0,none⟩) 1 1) [[.int .i64 op0,.string s9,.int .i64 n9,.slice q9 k9 c9,.int .i64 p9]] [x] (w1.alloc (.cells #[.int .i64 op0,.string s9,.int .i64 n9,.slice q9 k9 c9,.int .i64 p9] 42))) :=
   ⟨hr3.fr hA (by simp) (by simp),⟨rfl,Or.inr ⟨w1.heap.size,1,_,rfl,hwz,heap_alloc_last _ _,Nat.le_refl _,by decide,rfl,rfl⟩⟩,(Exs.one (hrep.mono (fun i hi h=>⟨h,fun h9=>by simp [Value.ownBlock] at h9;omega⟩))).fr hA (fun y hy _=>by cases hy),hf3.trans0 hA,hr,hg⟩
  clear hrep hf3 hr3 HQ HC hA
  go_wp2_with fail
  have hsh:m.length < l.length:=(Pol.all_shrink f).1 _ _ _ _ Hq.out
  have hfew:l.length ≤ 1000000:=HRD.out.few
  go_loopg [5] f (fun q s5 W=>∃ (o c:Nat) (m:List TI) (css:List (List Value)) (A:List Ex) (c5:Nat) (g5:Nat),q ≤ f ∧ s5=.slice (some ⟨g5,0,none⟩) A.length c5 ∧ Hid (Q=if Pol.is m 4 [44]=true then Pol.rowK A (Pol.row q nest m.tail) else .ok (A,m)) ∧ Hid (Ends m) ∧ Hid (RowSt w r g o c m nest (.slice (some ⟨g5,0,none⟩) A.length c5) css A W) ∧ Hid (A.length+m.length ≤ 1000000))
  case atStart=>exact ⟨_,_,_,_,[x],_,_,Nat.le_refl _,rfl,HQ2.out,HEM.out,HST.out,by show 1+_ ≤ _;omega⟩
  case round =>
   clear HST HQ2 HEM Hq HRD hsh hfew
   obtain ⟨o,c,m,css,A,c5,g5,hq,rfl,HQ,HE,H,HA⟩:=hrel
   have HQL:=Lib.hid hq
   clear hq
   obtain ⟨t,l1,rfl⟩:=HE.out.cons
   have hr2:r < wr.heap.size:=Nat.lt_of_lt_of_le hr H.out.f.size
   cases hp:Pol.is (t :: l1) 4 [44] with
   | false =>
    have HQ2:Hid (Q=.ok (A,t :: l1)):=by show _=_;rw [HQ.out,hp];rfl
    have HP:=Lib.hid hp
    clear hp HQ
    have HN:=Lib.hid (rd_took_no wr r g _ _ _ _ nest 4 ⟨#[44]⟩ H.out.rd HP.out)
    go_wp2_with fail
    refine HN.out.mono ?_
    rintro e w2 ⟨rfl,rfl⟩
    go_wp2_with fail
    refine bodyPost_ret (results_tmp rfl _ _ _) rfl ?_
    rw [HQ2.out]
    exact ⟨_,css,rfl,H.out.own,H.out.exs,H.out.f,_,_,H.out.rd⟩
   | true =>
    have hE1:Ends l1:=Pol.is_tail hp (by decide) HE.out
    have HQ2:Hid (Q=Pol.rowK A (Pol.row gk nest l1)):=by show _=_;rw [HQ.out,hp];rfl
    have HP:=Lib.hid hp
    have HE1:=Lib.hid hE1
    have hl1:=hE1.pos
    clear hp HQ hE1
    have HN:=Lib.hid (rd_took_yes wr r g _ _ _ _ nest 4 ⟨#[44]⟩ H.out.rd hl1 HP.out)
    cases gk with
    | zero =>
     exact absurd (HQ2.out.trans (by rw [Pol.row];rfl)) (HFD.out (Pol.place l1))
    | succ j =>
     have hjf:j+1 ≤ f:=HQL.out
     go_wp2_with fail
     refine HN.out.mono ?_
     rintro e w2 ⟨rfl,hf1,hr1⟩
     have H:=Lib.hid (H.out.step hf1 hr1)
     clear HN hf1 hr1 hr2
     have hr2:r < w2.heap.size:=Nat.lt_of_lt_of_le hr H.out.f.size
     have HC:=Lib.hid (HO.out j (by omega) w2 r g _ _ l1 nest H.out.rd HE1.out hn hr2 (fun p hp=>HFD.out p (by rw [HQ2.out,Pol.row,hp];rfl)))
     have HQ3:Hid (Q=Pol.rowK A (match Pol.operand j nest l1 with | .error e=>.error e | .ok (x,m)=>if Pol.is m 4 [44]=true then (match Pol.row j nest m.tail with | .error e=>.error e | .ok (L,m)=>.ok (x :: L,m)) else .ok ([x],m))):=by
      show _=_
      rw [HQ2.out,Pol.row]
      congr 1
     obtain ⟨q,hq⟩:∃ q,Pol.operand j nest l1=q:=⟨_,rfl⟩
     rw [hq] at HC HQ3
     have Hq:=Lib.hid hq
     clear hq HQ2
     go_wp2_with fail
     refine HC.out.mono ?_
     intro e w3 hd
     cases q with
     | error pe =>
      obtain ⟨pp,pn⟩:=pe
      have HQ4:Hid (Q=.error (pp,pn)):=HQ3.out
      have hs:Stops [r] _ pp pn e w3:=hd
      obtain ⟨b9,hb9,rfl,hrow9,hf9⟩:=hs.from (bs:=[r]) H.out.f (fun y hy=>.inl (by simpa using hy))
      show _
      exact ⟨rfl,by rw [HQ4.out];exact RowDone.stop ⟨b9,hb9,rfl,hrow9,hf9⟩⟩
     | ok xm =>
      obtain ⟨y,m⟩:=xm
      obtain ⟨cs,rfl,hrep,hf3,o3,c3,hr3⟩:=hd
      obtain ⟨op0,s9,n9,q9,k9,c9,p9,rfl⟩:=hrep.form
      have HEM:Hid (Ends m):=(Pol.all_keep j).1 _ _ _ _ Hq.out HE1.out
      have hsh:m.length < l1.length:=(Pol.all_shrink j).1 _ _ _ _ Hq.out
      have HQ4:Hid (Q=if Pol.is m 4 [44]=true then Pol.rowK (A ++ [y]) (Pol.row j nest m.tail) else .ok (A ++ [y],m)):=by
       show _=_
       rw [HQ3.out]
       simp only []
       split
       ·cases Pol.row j nest m.tail with
        | error e=>rfl
        | ok p=>show Except.ok _=Except.ok _;simp
       ·rfl
      have hA9:=HA.out
      rw [List.length_cons] at hA9
      have hrow5:g5 < w2.heap.size:=ownsRow_lt H.out.own
      have HREP:Hid (Rep w3 (fun i=>w.heap.size ≤ i ∧ (Value.slice (some ⟨g5,0,none⟩) A.length c5).ownBlock ≠ some i) [.int .i64 op0,.string s9,.int .i64 n9,.slice q9 k9 c9,.int .i64 p9] y):=hrep.mono (fun i hi h=>by
       have h8:w2.heap.size ≤ i:=h
       have h7:=H.out.f.size
       exact ⟨by omega,fun h9=>by simp [Value.ownBlock] at h9;omega⟩)
      have H:=Lib.hid (H.out.step hf3 hr3)
      have HA2:Hid ((A ++ [y]).length+m.length ≤ 1000000):=by show _ ≤ _;rw [List.length_append];simp;omega
      have HONE:=Lib.hid HREP.out.one
      have hAl:A.length < 1000000:=by omega
      have hw3:w.heap.size ≤ w3.heap.size:=H.out.f.size
      clear hrep hf3 hr3 HC HQ3 hA9
      go_wp2_with (at_builtin;refine appEx rfl (.tmp 11) (.tmp 14) rfl w.heap.size _ _ _ [.int .i64 op0,.string s9,.int .i64 n9,.slice q9 k9 c9,.int .i64 p9] rfl HONE.out rfl rfl H.out.own hw3 hAl ?_)
      intro g1 c1 w4 ho hg1 hgg
      have H:=Lib.hid (H.out.grow HREP.out ho hg1 hgg)
      clear ho hg1 hgg
      go_wp2_with fail
      go_roundg j
      case measure=>omega
      case rel=>exact ⟨_,_,_,_,A ++ [y],c1,g1,by omega,by simp,HQ4.out,HEM.out,by show RowSt _ _ _ _ _ _ _ _ _ _ _;rw [List.length_append];exact H.out,HA2.out⟩
end Go.Proofs.YtgklmpooonnmiaaGreatDoor
