/-
  Lemmas and contracts that the proofs over this seat use (RefIn, RefCmp2, RefCmpA, RefChain); no statement of the seat is claimed in this text, and nothing is assumed in it.
-/
import Derived.Test.YtgklmpooonnmiaaGreatDoorK17
import Derived.Test.YtgklmpooonnmiaaGreatDoorK16
import Derived.Deep.Cut
import Derived.Deep.LoopGhost
import Derived.BigRegion
set_option linter.unusedVariables false
set_option linter.unusedSimpArgs false
namespace Go.Proofs.YtgklmpooonnmiaaGreatDoor
open Go.RowKit
structure IN (w:World) (b be B:Nat) (p:Int) (v:Value) (css:List (List Value)) (A:List Ex) (W:World):Prop where
 res:W.heap[b]?=some (.cells z5 42 (0,0))
 box:W.heap[be]?=some (.cells #[.int .i64 13,.string ⟨#[]⟩,.int .i64 0,v,.int .i64 p] 42 (0,0))
 own:W.ownsRow B 42 5 v A.length css.flatten
 nb:v.ownBlock ≠ some be
 exs:Exs W (fun i=>w.heap.size ≤ i ∧ i ≠ b ∧ i ≠ be ∧ v.ownBlock ≠ some i) css A
 f:Fr [] w W
 bw:b=w.heap.size
 bB:b < B
 bbe:b < be
theorem IN.fr {w:World} {b be B:Nat} {p:Int} {v:Value} {css:List (List Value)} {A:List Ex} {W W':World} (h:IN w b be B p v css A W) (hf:Fr [] W W'):IN w b be B p v css A W' :=
 ⟨hf.row h.res (by simp),hf.row h.box (by simp),ownsRow_fr h.own hf,h.nb,h.exs.fr hf (fun y hy _=>by cases hy),h.f.trans0 hf,h.bw,h.bB,h.bbe⟩
theorem IN.base {w:World} {b be B:Nat} {p:Int} {v:Value} {css:List (List Value)} {A:List Ex} {W:World} (h:IN w b be B p v css A W):∀ y,v.ownBlock=some y → B ≤ y:=fun y hy=>by
 rcases h.own.2 with ⟨hv,_⟩ | ⟨g0,cap,cur,hv,hb,_⟩
 ·rw [hv] at hy;simp [Value.ownBlock] at hy
 ·rw [hv] at hy;simp [Value.ownBlock] at hy;omega
theorem IN.mid {w:World} {b be B:Nat} {p:Int} {v:Value} {css:List (List Value)} {A:List Ex} {W U:World} (h:IN w b be B p v css A W) (hg:W.grownBy U v.ownBlock) :
  U.heap[b]?=some (.cells z5 42 (0,0)) ∧ U.heap[be]?=some (.cells #[.int .i64 13,.string ⟨#[]⟩,.int .i64 0,v,.int .i64 p] 42 (0,0)):=by
 have hf:=Fr.of_grown hg
 have h1:=h.bB
 exact ⟨hf.row h.res (fun hc=>by have:=h.base b (by simpa using hc);omega),hf.row h.box (fun hc=>h.nb (by simpa using hc))⟩
theorem IN.grow {w:World} {b be B:Nat} {p:Int} {v:Value} {css:List (List Value)} {A:List Ex} {W U:World} {cs:List Value} {x:Ex} (h:IN w b be B p v css A W) (hx:Rep W (fun i=>w.heap.size ≤ i ∧ i ≠ b ∧ i ≠ be ∧ v.ownBlock ≠ some i) cs x)
  {g1 c1:Nat} (ho:U.ownsRow B 42 5 (.slice (some ⟨g1,0,none⟩) (A.length+1) c1) (A.length+1) (css.flatten ++ cs)) (hg:W.grownBy U v.ownBlock) (hgg:v.ownBlock=some g1 ∨ W.heap.size ≤ g1) :
  IN w b be B p (.slice (some ⟨g1,0,none⟩) (A ++ [x]).length c1) (css ++ [cs]) (A ++ [x]) (U.setCell ⟨be,3,none⟩ (.slice (some ⟨g1,0,none⟩) (A.length+1) c1)):=by
 have h1:=h.bw;have h2:=h.bB;have h3:=h.bbe
 have hf:=Fr.of_grown hg
 obtain ⟨hm1,hm2⟩:=h.mid hg
 have hbe:=row_lt h.box
 have hgne:g1 ≠ be:=by
  rcases hgg with h9 | h9
  ·intro hc;subst hc;exact h.nb h9
  ·omega
 have hD:∀ i,i < W.heap.size → (w.heap.size ≤ i ∧ i ≠ b ∧ i ≠ be ∧ v.ownBlock ≠ some i) → (w.heap.size ≤ i ∧ i ≠ b ∧ i ≠ be ∧ v.ownBlock ≠ some i ∧ i ≠ g1):=fun i hi hc=>⟨hc.1,hc.2.1,hc.2.2.1,hc.2.2.2,fun h9=>by
  subst h9
  rcases hgg with h8 | h8
  ·exact hc.2.2.2 h8
  ·omega⟩
 have hE:∀ i,i < U.heap.size → (w.heap.size ≤ i ∧ i ≠ b ∧ i ≠ be ∧ v.ownBlock ≠ some i ∧ i ≠ g1) → (w.heap.size ≤ i ∧ i ≠ b ∧ i ≠ be ∧ (Value.slice (some ⟨g1,0,none⟩) (A ++ [x]).length c1).ownBlock ≠ some i):=fun i _ hc=>⟨hc.1,hc.2.1,hc.2.2.1,fun h9=>by
  simp [Value.ownBlock] at h9
  exact hc.2.2.2.2 h9.symm⟩
 have hs:Fr [be] U (U.setCell ⟨be,3,none⟩ (.slice (some ⟨g1,0,none⟩) (A.length+1) c1)):=(Fr.refl _ _).setCell (p:=⟨be,3,none⟩) (.inl (by simp)) _
 have h5:=(((h.exs.snoc hx).mono hD).fr hf (fun y hy hl hc=>hc.2.2.2.1 (by simpa using hy))).mono hE
 have e9:(A ++ [x]).length=A.length+1:=by simp
 refine ⟨hs.row hm1 (by simp;omega),?_,?_,?_,h5.fr hs (fun y hy _ hc=>by simp at hy;subst hy;exact hc.2.2.1 rfl),?_,h1,h2,h3⟩
 ·rw [e9];exact heap_set_row hm2 3 _
 ·rw [e9,List.flatten_append]
  have h9:=ownsRow_blk ho (hs.block g1 (ownsRow_lt ho) (by simp;exact hgne))
  simpa using h9
 ·simp [Value.ownBlock];exact hgne
 ·have h8:Fr v.ownBlock.toList w U:=(h.f.sub (bs:=v.ownBlock.toList)).trans hf (fun y hy=>.inl hy)
  have h9:Fr (be :: v.ownBlock.toList) w (U.setCell ⟨be,3,none⟩ (.slice (some ⟨g1,0,none⟩) (A.length+1) c1)):=by
   refine Fr.trans (b:=U) ⟨h8.os,h8.tape,h8.output,h8.size,fun k hk hn=>h8.block k hk (fun hc=>hn (List.mem_cons_of_mem _ hc))⟩ hs (fun y hy=>.inl (by simp at hy;simp [hy]))
  exact ⟨h9.os,h9.tape,h9.output,h9.size,fun k hk _=>h9.block k hk (fun hc=>by
   rcases List.mem_cons.1 hc with h4 | h4
   ·omega
   ·have:=h.base k (by simpa using h4);omega)⟩
theorem IN.rep {w:World} {b be B:Nat} {p:Int} {g c:Nat} {css:List (List Value)} {A:List Ex} {W:World} (h:IN w b be B p (.slice (some ⟨g,0,none⟩) A.length c) css A W) :
  Rep W (fun i=>w.heap.size ≤ i ∧ i ≠ b) [.int .i64 13,.string ⟨#[]⟩,.int .i64 0,.slice (some ⟨g,0,none⟩) A.length c,.int .i64 p] (.mk 13 Pol.none_ 0 A p):=by
 have h1:=h.bw;have h2:=h.bB
 have h3:=h.base g (by simp [Value.ownBlock])
 exact Rep.of_own 13 ⟨#[]⟩ 0 p A css g B c ⟨by omega,by omega⟩ h.exs.len h.own (fun i x cs hi hc=>(h.exs.rep i x cs hi hc).mono (fun k _ hk=>⟨hk.1,hk.2.1⟩))
structure PairC (V:World) (be rb:Nat) (row box:Array Value) (W:World):Prop where
 box:W.heap[be]?=some (.cells box 42 (0,0))
 row:W.heap[rb]?=some (.cells row 42 (0,0))
 f:Fr [] V W
 beV:V.heap.size ≤ be
 rbV:V.heap.size ≤ rb
 ne:be ≠ rb
theorem pairC1 (V:World) (row box:Array Value):PairC V (V.heap.size+1) V.heap.size row box ((V.alloc (.cells row 42)).alloc (.cells box 42)).drew :=
 ⟨(alloc2 V _ _).2,(alloc2 V _ _).1,((((Fr.refl [] V).alloc _).alloc _).drew),by omega,by omega,by omega⟩
theorem pairC2 (V:World) (row box:Array Value):PairC V V.heap.size (V.heap.size+1) row box ((V.alloc (.cells box 42)).alloc (.cells row 42)).drew :=
 ⟨(alloc2 V _ _).1,(alloc2 V _ _).2,((((Fr.refl [] V).alloc _).alloc _).drew),by omega,by omega,by omega⟩
theorem IN.start {w:World} {b bx be rb:Nat} {p:Int} {cs:List Value} {x:Ex} {V W:World} (h:CS2 w b bx cs V) (hx:Rep V (DD w b bx) cs x) (hP:PairC V be rb cs.toArray #[.int .i64 13,.string ⟨#[]⟩,.int .i64 0,.slice (some ⟨rb,0,none⟩) 1 1,.int .i64 p] W) :
  IN w b be V.heap.size p (.slice (some ⟨rb,0,none⟩) 1 1) [cs] [x] W:=by
 have h1:=h.bw;have h2:=row_lt h.res;have h3:=hP.beV;have h4:=hP.rbV;have h5:=hP.ne
 have hx0:=hx
 obtain ⟨op0,s9,n9,q9,k9,c9,p9,rfl⟩:=hx.form
 refine ⟨hP.f.row h.res (by simp),hP.box,⟨rfl,Or.inr ⟨rb,1,_,rfl,h4,hP.row,Nat.le_refl _,by decide,rfl,rfl⟩⟩,?_,?_,h.f.trans0 hP.f,h1,by omega,by omega⟩
 ·simp [Value.ownBlock];omega
 ·refine Exs.one ((hx.mono (E:=fun i=>w.heap.size ≤ i ∧ i ≠ b ∧ i ≠ be ∧ (Value.slice (some ⟨rb,0,none⟩) 1 1).ownBlock ≠ some i) (fun i hi hd=>⟨hd.1,hd.2.1,by omega,?_⟩)).fr hP.f (fun y hy _=>by cases hy))
  simp [Value.ownBlock];omega
set_option maxHeartbeats 4000000 in
set_option maxRecDepth 100000 in
theorem rcmp_in (f:Nat) (hO:∀ g,g ≤ f → PaReads 106 (Pol.operand g)) (x:Ex) (m:List TI) (w:World) (ad:Addr) (cap:Nat) (l:List TI) (i nest:Nat) (h:TL w ad cap l) (hn:nest ≤ 12)
  (HC:Hid (∀ V,Fr [] w V → Calls Tryz.prog 106 #[.slice (some ad) l.length cap,.int .i64 i,.int .i64 nest] V (PaDone l V (.ok (x,m)))))
  (f1:Pol.is m 1 [105,110]=true) (hfed:Pol.Fed (Pol.cmpK f nest x m)) :
  Calls Tryz.prog 101 #[.slice (some ad) l.length cap,.int .i64 i,.int .i64 nest] w (PaDone l w (Pol.cmpK f nest x m)):=by
 obtain ⟨T,hT⟩:∃ T,Pol.cmpK f nest x m=T:=⟨_,rfl⟩
 rw [hT] at hfed ⊢
 have HFED:=Lib.hid hfed
 have HO:=Lib.hid hO
 clear hfed hO
 have HTL:=Lib.hid h
 have hb:l.length ≤ 1000000:=h.few
 go_enter Tryz.func101,Tryz.ntmps101
 go_wp2_with fail
 refine calls_fresh (fun W=>R0 w w.heap.size z5 W) (R0.start w) ?_
 intro W h1
 obtain ⟨b,hbb⟩:∃ b,w.heap.size=b:=⟨_,rfl⟩
 rw [hbb] at h1 ⊢
 have H:=Lib.hid h1
 have HB:=Lib.hid hbb
 have hbW:b < W.heap.size:=row_lt h1.res
 clear h1 hbb h
 refine (HC.out _ H.out.f).mono ?_
 rintro e V ⟨cs,n,rfl,hrep,hn2,hdr,hF⟩
 obtain ⟨xo,xs,xn,xq,xk,xc,xp,rfl⟩:=hrep.form
 have hwV:w.heap.size ≤ V.heap.size:=Nat.le_trans H.out.f.size hF.size
 have hbV:b < V.heap.size:=Nat.lt_of_lt_of_le hbW hF.size
 have hst:CS2 w b V.heap.size [.int .i64 xo,.string xs,.int .i64 xn,.slice xq xk xc,.int .i64 xp] (V.alloc (.cells #[.int .i64 xo,.string xs,.int .i64 xn,.slice xq xk xc,.int .i64 xp] 42)) :=
  ⟨((H.out.fr hF).fr ((Fr.refl _ _).alloc _)).res,heap_alloc_last _ _,(H.out.f.trans0 hF).alloc _,H.out.bw,hbV⟩
 have hre:Rep (V.alloc (.cells #[.int .i64 xo,.string xs,.int .i64 xn,.slice xq xk xc,.int .i64 xp] 42)) (DD w b V.heap.size) [.int .i64 xo,.string xs,.int .i64 xn,.slice xq xk xc,.int .i64 xp] x :=
  (hrep.mono (E:=DD w b V.heap.size) (fun g hg h=>⟨Nat.le_trans H.out.f.size h,by omega,by omega⟩)).fr (bs:=[]) ((Fr.refl _ _).alloc _) (fun y hy _=>by cases hy)
 have HST:=Lib.hid hst
 have HRE:=Lib.hid hre
 obtain ⟨t,ht,hdt⟩:=at_of hn2
 have HT0:=Lib.hid ht
 obtain ⟨bx,hbx⟩:∃ bx,V.heap.size=bx:=⟨_,rfl⟩
 rw [hbx] at HST HRE
 clear hF hrep HC hst hre ht
 go_wp2_with fail
 refine calls_fresh (fun W=>CS2 w b bx [.int .i64 xo,.string xs,.int .i64 xn,.slice xq xk xc,.int .i64 xp] W ∧ Rep W (DD w b bx) [.int .i64 xo,.string xs,.int .i64 xn,.slice xq xk xc,.int .i64 xp] x) ⟨HST.out,HRE.out⟩ ?_
 rintro W1 ⟨hst,hre⟩
 have HST:=Lib.hid hst
 have HRE:=Lib.hid hre
 have hbxW:bx < W1.heap.size:=row_lt hst.box
 have hbb:=hst.lt
 clear hst hre
 have HI1:Hid (∀ V,Fr [] w V → Calls Tryz.prog 22 #[.slice (some ad) l.length cap,.int .i64 n,.int .i64 1,.string ⟨#[105,110]⟩] V fun e w'=>e=.returned (.bool true) ∧ V=w'):=fun V hV=>ref_isB V ad cap l n n 1 ⟨#[105,110]⟩ [105,110] (by kernel_rfl) true (HTL.out.fr hV) hn2 rfl (by rw [← hdr];exact f1)
 have hmt:m=t :: l.drop (n+1):=hdr.trans hdt
 have hk5:t.k ≠ 5:=by rw [hmt] at f1;rw [is_k f1];decide
 have hn3:n+1 < l.length:=next_lt HTL.out.ends HT0.out hk5
 have hTE:T=match Pol.must (l.drop (n+1)) [91] with | .error e=>.error e | .ok (_,r)=>Pol.inK f nest [x] t.p r:=by rw [← hT];unfold Pol.cmpK;rw [if_pos f1,hmt];rfl
 obtain ⟨u,hu,hdu⟩:=at_of hn3
 have HU:=Lib.hid hu
 have HDU:=Lib.hid hdu
 have HTE:=Lib.hid hTE
 obtain ⟨c0,c1,c2,c3⟩:=(HTL.out.fr HST.out.f).cells HT0.out
 have hn0:(0:Int) ≤ (n:Int):=by omega
 have hn1:(n:Int) < (l.length:Int):=by omega
 clear hT hTE hu hdu f1 hmt hk5 hdr hdt
 refine (HI1.out _ HST.out.f).mono ?_
 rintro e w1 ⟨rfl,rfl⟩
 have yf:∀ i,W1.frozen? ⟨bx,i,none⟩=false:=fun i=>Lib.frozen_of_heap HST.out.box i
 have y0:W1.cell? ⟨bx,0,none⟩=some (.int .i64 xo):=by rw [Lib.cell_of_heap HST.out.box];rfl
 have y1:W1.cell? ⟨bx,1,none⟩=some (.string xs):=by rw [Lib.cell_of_heap HST.out.box];rfl
 have y2:W1.cell? ⟨bx,2,none⟩=some (.int .i64 xn):=by rw [Lib.cell_of_heap HST.out.box];rfl
 have y3:W1.cell? ⟨bx,3,none⟩=some (.slice xq xk xc):=by rw [Lib.cell_of_heap HST.out.box];rfl
 have y4:W1.cell? ⟨bx,4,none⟩=some (.int .i64 xp):=by rw [Lib.cell_of_heap HST.out.box];rfl
 have hbl:=World.block_lt_of_cell? W1 _ c0
 clear HI1
 go_upto_region 5 with fail
 go_cut [12] from 37 to 44 (fun s12 wx=>∃ be rb,s12=.pointer (some ⟨be,0,none⟩) ∧ PairC W1 be rb #[.int .i64 xo,.string xs,.int .i64 xn,.slice xq xk xc,.int .i64 xp] #[.int .i64 13,.string ⟨#[]⟩,.int .i64 0,.slice (some ⟨rb,0,none⟩) 1 1,.int .i64 t.p] wx)
 case first =>
  go_region
  all_goals
   go_wp2_with fail
   go_meet
   first
    | exact ⟨_,_,rfl,pairC1 W1 _ _⟩
    | exact ⟨_,_,rfl,pairC2 W1 _ _⟩
 case rest =>
  obtain ⟨be,rb,rfl,hP⟩:=hcut
  have HIN:=Lib.hid (IN.start HST.out HRE.out hP)
  obtain ⟨B,hB⟩:∃ B,W1.heap.size=B:=⟨_,rfl⟩
  have hBw:B ≤ wc.heap.size:=by rw [← hB];exact hP.f.size
  rw [hB] at HIN
  clear y0 y1 y2 y3 y4 yf c0 c1 c2 c3 hP HST HRE hbl hB
  cases h91:Pol.is (l.drop (n+1)) 4 [91] with
  | false =>
   have HI2:Hid (∀ V,Fr [] w V → Calls Tryz.prog 22 #[.slice (some ad) l.length cap,.int .i64 ((n:Int)+1),.int .i64 4,.string ⟨#[91]⟩] V fun e w'=>e=.returned (.bool false) ∧ V=w'):=fun V hV=>ref_isB V ad cap l (n+1) _ 4 ⟨#[91]⟩ [91] (by kernel_rfl) false (HTL.out.fr hV) hn3 (by omega) h91
   have HT1:Hid (T=.error (u.p,120)):=by show _=_;rw [HTE.out];simp only [Pol.must];rw [h91,HDU.out];rfl
   clear h91
   go_wp2_with fail
   refine (HI2.out _ HIN.out.f).mono ?_
   rintro e w1 ⟨rfl,rfl⟩
   have yf:∀ i,wc.frozen? ⟨be,i,none⟩=false:=fun i=>Lib.frozen_of_heap HIN.out.box i
   have y0:wc.cell? ⟨be,0,none⟩=some (.int .i64 13):=by rw [Lib.cell_of_heap HIN.out.box];rfl
   have y1:wc.cell? ⟨be,1,none⟩=some (.string ⟨#[]⟩):=by rw [Lib.cell_of_heap HIN.out.box];rfl
   have y2:wc.cell? ⟨be,2,none⟩=some (.int .i64 0):=by rw [Lib.cell_of_heap HIN.out.box];rfl
   have y3:wc.cell? ⟨be,3,none⟩=some (.slice (some ⟨rb,0,none⟩) 1 1):=by rw [Lib.cell_of_heap HIN.out.box];rfl
   have y4:wc.cell? ⟨be,4,none⟩=some (.int .i64 t.p):=by rw [Lib.cell_of_heap HIN.out.box];rfl
   have zf:∀ i,wc.frozen? ⟨b,i,none⟩=false:=fun i=>Lib.frozen_of_heap HIN.out.res i
   have z0:wc.cell? ⟨b,0,none⟩=some (.int .i64 0):=by rw [Lib.cell_of_heap HIN.out.res];rfl
   have z1:wc.cell? ⟨b,1,none⟩=some (.string ⟨#[]⟩):=by rw [Lib.cell_of_heap HIN.out.res];rfl
   have z2:wc.cell? ⟨b,2,none⟩=some (.int .i64 0):=by rw [Lib.cell_of_heap HIN.out.res];rfl
   have z3:wc.cell? ⟨b,3,none⟩=some (.slice none 0 0):=by rw [Lib.cell_of_heap HIN.out.res];rfl
   have z4:wc.cell? ⟨b,4,none⟩=some (.int .i64 0):=by rw [Lib.cell_of_heap HIN.out.res];rfl
   have hnn:(((n+1:Nat):Int))=(n:Int)+1:=by omega
   have HT:=Lib.hid ((R0.mk HIN.out.res HIN.out.f HIN.out.bw).set5 (.int .i64 13) (.string ⟨#[]⟩) (.int .i64 0) (.slice (some ⟨rb,0,none⟩) 1 1) (.int .i64 t.p))
   go_wp2_with fail
   refine bodyPost_ret (results_cell_tmp2 rfl _ _ b _ _ (0,0) _ rfl HT.out.res Tryz.underlying42 rfl (by kernel_rfl)) rfl ?_
   rw [HT1.out]
   exact PaDone.err (cs:=[_,_,_,_,_]) (n:=n+1) (by rw [hnn];rfl) ⟨_,_,_,_,_,_,_,rfl⟩ HU.out (by decide) HT.out.f
  | true =>
   have HI2:Hid (∀ V,Fr [] w V → Calls Tryz.prog 22 #[.slice (some ad) l.length cap,.int .i64 ((n:Int)+1),.int .i64 4,.string ⟨#[91]⟩] V fun e w'=>e=.returned (.bool true) ∧ V=w'):=fun V hV=>ref_isB V ad cap l (n+1) _ 4 ⟨#[91]⟩ [91] (by kernel_rfl) true (HTL.out.fr hV) hn3 (by omega) h91
   have HT1:Hid (T=Pol.inK f nest [x] t.p (l.drop (n+1+1))):=by show _=_;rw [HTE.out];simp only [Pol.must];rw [h91,List.tail_drop];rfl
   have hn6:n+1+1 < l.length:=next_lt HTL.out.ends HU.out (by rw [HDU.out] at h91;rw [is_k h91];decide)
   have hn8:IntKind.i64.wrap ((n:Int)+1)=(n:Int)+1:=IntWalk.i64_in _ (by omega)
   clear h91
   go_wp2_with fail
   refine (HI2.out _ HIN.out.f).mono ?_
   rintro e w1 ⟨rfl,rfl⟩
   clear HI2
   go_wp2_with fail
   go_loopg [10] f (fun q s10 W=>∃ (n:Nat) (g5 c5:Nat) (css:List (List Value)) (A:List Ex),q ≤ f ∧ s10=.int .i64 n ∧ n+1 < l.length ∧ A.length ≤ n ∧ Hid (T=Pol.inK q nest A t.p (l.drop (n+1))) ∧ B ≤ W.heap.size ∧ Hid (IN w b be B t.p (.slice (some ⟨g5,0,none⟩) A.length c5) css A W))
   case atStart=>exact ⟨n+1,rb,1,_,[x],Nat.le_refl _,by simp,hn6,by simp,HT1.out,hBw,HIN.out⟩
   case round =>
    clear HIN HT1 hBw
    obtain ⟨n,g5,c5,css,A,hq,rfl,hn9,hAn,HTE,hBw,H⟩:=hrel
    have HQ:=Lib.hid hq
    clear hq
    cases gk with
    | zero=>exact absurd (HTE.out.trans (in_zero _ _ _ _)) (HFED.out _)
    | succ j =>
     have hjf:j ≤ f:=by have:=HQ.out;omega
     have HTS:Hid (T=match Pol.operand j nest (l.drop (n+1)) with | .error e=>.error e | .ok (x,m)=>Pol.inN j nest (A ++ [x]) t.p m):=by show _=_;rw [HTE.out,in_step];rcases Pol.operand j nest (l.drop (n+1)) with e | ⟨x,m⟩ <;> rfl
     have HC3:Hid (∀ V,Fr [] w V → Calls Tryz.prog 106 #[.slice (some ad) l.length cap,.int .i64 ((n:Int)+1),.int .i64 nest] V (PaDone l V (Pol.operand j nest (l.drop (n+1))))):=fun V hV=>by
      have:=HO.out j hjf V ad cap l (n+1) nest (HTL.out.fr hV) hn9 hn (fun p hp=>HFED.out p (by rw [HTS.out,hp]))
      rwa [show ((n+1:Nat):Int)=(n:Int)+1 by omega] at this
     have HSH:Hid (∀ y m,Pol.operand j nest (l.drop (n+1))=.ok (y,m) → m.length < (l.drop (n+1)).length):=fun y m hm=>(Pol.all_shrink j).1 _ _ _ _ hm
     obtain ⟨r2,hr2⟩:∃ r2,Pol.operand j nest (l.drop (n+1))=r2:=⟨_,rfl⟩
     rw [hr2] at HTS HC3 HSH
     have hw8:IntKind.i64.wrap ((n:Int)+1)=(n:Int)+1:=IntWalk.i64_in _ (by omega)
     have hbwr:b < wr.heap.size:=row_lt H.out.res
     have hbewr:be < wr.heap.size:=row_lt H.out.box
     have hbbe:=H.out.bbe
     clear HTE hr2
     rcases r2 with ⟨p2,er2⟩ | ⟨y,m2⟩
     all_goals
      go_wp2_with fail
      refine (HC3.out _ H.out.f).mono ?_
     ·rintro e V ⟨cs2,n4,u2,rfl,⟨yo,ys,yn,yq,yk,yc,yp,rfl⟩,hu2,rfl,her,hF⟩
      have HU2:=Lib.hid hu2
      have H:=Lib.hid (H.out.fr hF)
      have hbV:b < V.heap.size:=row_lt H.out.res
      have her2:(er2 != 0)=true:=by rw [bne,beq_eq_false_iff_ne.2 her];rfl
      have HT1:Hid (T=.error (u2.p,er2)):=HTS.out
      clear hF HC3 hu2 HTS HSH
      have zf:∀ i,V.frozen? ⟨b,i,none⟩=false:=fun i=>Lib.frozen_of_heap H.out.res i
      have z0:V.cell? ⟨b,0,none⟩=some (.int .i64 0):=by rw [Lib.cell_of_heap H.out.res];rfl
      have z1:V.cell? ⟨b,1,none⟩=some (.string ⟨#[]⟩):=by rw [Lib.cell_of_heap H.out.res];rfl
      have z2:V.cell? ⟨b,2,none⟩=some (.int .i64 0):=by rw [Lib.cell_of_heap H.out.res];rfl
      have z3:V.cell? ⟨b,3,none⟩=some (.slice none 0 0):=by rw [Lib.cell_of_heap H.out.res];rfl
      have z4:V.cell? ⟨b,4,none⟩=some (.int .i64 0):=by rw [Lib.cell_of_heap H.out.res];rfl
      have HT:=Lib.hid (((R0.mk H.out.res H.out.f H.out.bw).set5 (.int .i64 yo) (.string ys) (.int .i64 yn) (.slice yq yk yc) (.int .i64 yp)).fr ((Fr.refl [] _).alloc (.cells #[.int .i64 yo,.string ys,.int .i64 yn,.slice yq yk yc,.int .i64 yp] 42)))
      go_wp2_with fail
      refine bodyPost_ret (results_cell_tmp2 rfl _ _ b _ _ (0,0) _ rfl HT.out.res Tryz.underlying42 rfl (by kernel_rfl)) rfl ?_
      rw [HT1.out]
      exact PaDone.err (cs:=[_,_,_,_,_]) rfl ⟨_,_,_,_,_,_,_,rfl⟩ HU2.out her HT.out.f
     ·rintro e V ⟨cs2,n4,rfl,hrep2,hn5,rfl,hF⟩
      obtain ⟨yo,ys,yn,yq,yk,yc,yp,rfl⟩:=hrep2.form
      have hwwr:=H.out.f.size
      have hg5:g5 < wr.heap.size:=ownsRow_lt H.out.own
      have HREP:Hid (Rep V (fun i=>w.heap.size ≤ i ∧ i ≠ b ∧ i ≠ be ∧ (Value.slice (some ⟨g5,0,none⟩) A.length c5).ownBlock ≠ some i) [.int .i64 yo,.string ys,.int .i64 yn,.slice yq yk yc,.int .i64 yp] y):=hrep2.mono (fun i _ h=>by
       have h9:wr.heap.size ≤ i:=h
       exact ⟨by omega,by omega,by omega,fun hc=>by simp [Value.ownBlock] at hc;omega⟩)
      have hsh:=HSH.out _ _ rfl
      rw [List.length_drop,List.length_drop] at hsh
      have hn46:n+1 < n4:=by omega
      have H:=Lib.hid (H.out.fr hF)
      have HTN:Hid (T=Pol.inN j nest (A ++ [y]) t.p (l.drop n4)):=HTS.out
      have hbV:b < V.heap.size:=row_lt H.out.res
      have hbeV:be < V.heap.size:=row_lt H.out.box
      have hBV:B ≤ V.heap.size+1:=by have:=hF.size;omega
      have hAl:A.length < 1000000:=by omega
      obtain ⟨by_,hby⟩:∃ k,V.heap.size=k:=⟨_,rfl⟩
      clear hF HC3 HTS HSH hrep2 hsh
      go_upto_region 12 with fail
      refine wp_fresh (fun U=>IN w b be B t.p (.slice (some ⟨g5,0,none⟩) A.length c5) css A U ∧ Rep U (fun i=>w.heap.size ≤ i ∧ i ≠ b ∧ i ≠ be ∧ (Value.slice (some ⟨g5,0,none⟩) A.length c5).ownBlock ≠ some i) [.int .i64 yo,.string ys,.int .i64 yn,.slice yq yk yc,.int .i64 yp] y ∧ U.heap[by_]?=some (.cells #[.int .i64 yo,.string ys,.int .i64 yn,.slice yq yk yc,.int .i64 yp] 42 (0,0)) ∧ B ≤ U.heap.size) ⟨H.out.fr ((Fr.refl [] V).alloc _),HREP.out.fr (bs:=[]) ((Fr.refl [] V).alloc _) (fun y hy _=>by cases hy),by rw [← hby];exact heap_alloc_last V _,by simp;omega⟩ ?_
      rintro U ⟨h1,h2,h3,hBU⟩
      rw [hby] at *
      have H1:=Lib.hid h1
      have HREP1:=Lib.hid h2
      have HONE:=Lib.hid h2.one
      have hbU:b < U.heap.size:=row_lt h1.res
      have hbeU:be < U.heap.size:=row_lt h1.box
      have hbyU:by_ < U.heap.size:=row_lt h3
      have HBY:=Lib.hid h3
      clear h1 h2 h3 H HREP
      have yf:∀ i,U.frozen? ⟨be,i,none⟩=false:=fun i=>Lib.frozen_of_heap H1.out.box i
      have y0:U.cell? ⟨be,0,none⟩=some (.int .i64 13):=by rw [Lib.cell_of_heap H1.out.box];rfl
      have y1:U.cell? ⟨be,1,none⟩=some (.string ⟨#[]⟩):=by rw [Lib.cell_of_heap H1.out.box];rfl
      have y2:U.cell? ⟨be,2,none⟩=some (.int .i64 0):=by rw [Lib.cell_of_heap H1.out.box];rfl
      have y3:U.cell? ⟨be,3,none⟩=some (.slice (some ⟨g5,0,none⟩) A.length c5):=by rw [Lib.cell_of_heap H1.out.box];rfl
      have y4:U.cell? ⟨be,4,none⟩=some (.int .i64 t.p):=by rw [Lib.cell_of_heap H1.out.box];rfl
      have vf:∀ i,U.frozen? ⟨by_,i,none⟩=false:=fun i=>Lib.frozen_of_heap HBY.out i
      have v0:U.cell? ⟨by_,0,none⟩=some (.int .i64 yo):=by rw [Lib.cell_of_heap HBY.out];rfl
      have v1:U.cell? ⟨by_,1,none⟩=some (.string ys):=by rw [Lib.cell_of_heap HBY.out];rfl
      have v2:U.cell? ⟨by_,2,none⟩=some (.int .i64 yn):=by rw [Lib.cell_of_heap HBY.out];rfl
      have v3:U.cell? ⟨by_,3,none⟩=some (.slice yq yk yc):=by rw [Lib.cell_of_heap HBY.out];rfl
      have v4:U.cell? ⟨by_,4,none⟩=some (.int .i64 yp):=by rw [Lib.cell_of_heap HBY.out];rfl
      go_wp2_with (at_builtin;refine appEx rfl (.tmp 70) (.tmp 72) rfl B _ _ _ [.int .i64 yo,.string ys,.int .i64 yn,.slice yq yk yc,.int .i64 yp] rfl HONE.out rfl rfl H1.out.own hBU hAl ?_)
      intro g1 c1 w4 ho hg1 hgg
      have HM:=Lib.hid (H1.out.mid hg1)
      have H2:=Lib.hid (H1.out.grow HREP1.out ho hg1 hgg)
      have hB4:B ≤ w4.heap.size:=Nat.le_trans hBU hg1.size
      have hbe4:be < w4.heap.size:=row_lt HM.out.2
      clear ho hg1 hgg y0 y1 y2 y3 y4 yf v0 v1 v2 v3 v4 vf HREP1 H1 HBY
      have yf:∀ i,w4.frozen? ⟨be,i,none⟩=false:=fun i=>Lib.frozen_of_heap HM.out.2 i
      have y0:w4.cell? ⟨be,0,none⟩=some (.int .i64 13):=by rw [Lib.cell_of_heap HM.out.2];rfl
      have y1:w4.cell? ⟨be,1,none⟩=some (.string ⟨#[]⟩):=by rw [Lib.cell_of_heap HM.out.2];rfl
      have y2:w4.cell? ⟨be,2,none⟩=some (.int .i64 0):=by rw [Lib.cell_of_heap HM.out.2];rfl
      have y3:w4.cell? ⟨be,3,none⟩=some (.slice (some ⟨g5,0,none⟩) A.length c5):=by rw [Lib.cell_of_heap HM.out.2];rfl
      have y4:w4.cell? ⟨be,4,none⟩=some (.int .i64 t.p):=by rw [Lib.cell_of_heap HM.out.2];rfl
      go_wp2_with fail
      refine calls_fresh (fun W=>IN w b be B t.p (.slice (some ⟨g1,0,none⟩) (A ++ [y]).length c1) (css ++ [[.int .i64 yo,.string ys,.int .i64 yn,.slice yq yk yc,.int .i64 yp]]) (A ++ [y]) W ∧ B ≤ W.heap.size) ⟨H2.out,by simpa [World.setCell] using hB4⟩ ?_
      rintro W9 ⟨h9,hB9⟩
      obtain ⟨N1,hN1⟩:∃ N,(A ++ [y]).length=N:=⟨_,rfl⟩
      have hAN:N1 ≤ n4:=by rw [← hN1];simp;omega
      obtain ⟨u5,hu5,hdu5⟩:=at_of hn5
      have HU5:=Lib.hid hu5
      have HDU5:=Lib.hid hdu5
      have H:=Lib.hid h9
      have HRN:=Lib.hid h9.rep
      rw [hN1] at HRN h9
      have HBX:=Lib.hid h9.box
      have hb9:b < W9.heap.size:=row_lt h9.res
      have hbe9:be < W9.heap.size:=row_lt h9.box
      clear y0 y1 y2 y3 y4 yf h9 HM H2 hB4 hbe4 hu5 hdu5
      cases h93:Pol.is (l.drop n4) 4 [93] with
      | true =>
       have HI3:Hid (∀ V,Fr [] w V → Calls Tryz.prog 22 #[.slice (some ad) l.length cap,.int .i64 n4,.int .i64 4,.string ⟨#[93]⟩] V fun e w'=>e=.returned (.bool true) ∧ V=w'):=fun V hV=>ref_isB V ad cap l n4 n4 4 ⟨#[93]⟩ [93] (by kernel_rfl) true (HTL.out.fr hV) hn5 rfl h93
       have hn7:n4+1 < l.length:=next_lt HTL.out.ends HU5.out (by rw [HDU5.out] at h93;rw [is_k h93];decide)
       have HT1:Hid (T=.ok (.mk 13 Pol.none_ 0 (A ++ [y]) t.p,l.drop (n4+1))):=by show _=_;rw [HTN.out];unfold Pol.inN;rw [if_pos h93,List.tail_drop]
       have hw7:IntKind.i64.wrap ((n4:Int)+1)=((n4+1:Nat):Int):=by rw [IntWalk.i64_in _ (by omega)];omega
       clear h93
       refine (HI3.out _ H.out.f).mono ?_
       rintro e w1 ⟨rfl,rfl⟩
       have yf:∀ i,W9.frozen? ⟨be,i,none⟩=false:=fun i=>Lib.frozen_of_heap HBX.out i
       have y0:W9.cell? ⟨be,0,none⟩=some (.int .i64 13):=by rw [Lib.cell_of_heap HBX.out];rfl
       have y1:W9.cell? ⟨be,1,none⟩=some (.string ⟨#[]⟩):=by rw [Lib.cell_of_heap HBX.out];rfl
       have y2:W9.cell? ⟨be,2,none⟩=some (.int .i64 0):=by rw [Lib.cell_of_heap HBX.out];rfl
       have y3:W9.cell? ⟨be,3,none⟩=some (.slice (some ⟨g1,0,none⟩) N1 c1):=by rw [Lib.cell_of_heap HBX.out];rfl
       have y4:W9.cell? ⟨be,4,none⟩=some (.int .i64 t.p):=by rw [Lib.cell_of_heap HBX.out];rfl
       have zf:∀ i,W9.frozen? ⟨b,i,none⟩=false:=fun i=>Lib.frozen_of_heap H.out.res i
       have z0:W9.cell? ⟨b,0,none⟩=some (.int .i64 0):=by rw [Lib.cell_of_heap H.out.res];rfl
       have z1:W9.cell? ⟨b,1,none⟩=some (.string ⟨#[]⟩):=by rw [Lib.cell_of_heap H.out.res];rfl
       have z2:W9.cell? ⟨b,2,none⟩=some (.int .i64 0):=by rw [Lib.cell_of_heap H.out.res];rfl
       have z3:W9.cell? ⟨b,3,none⟩=some (.slice none 0 0):=by rw [Lib.cell_of_heap H.out.res];rfl
       have z4:W9.cell? ⟨b,4,none⟩=some (.int .i64 0):=by rw [Lib.cell_of_heap H.out.res];rfl
       have HT:=Lib.hid ((R0.mk H.out.res H.out.f H.out.bw).set5 (.int .i64 13) (.string ⟨#[]⟩) (.int .i64 0) (.slice (some ⟨g1,0,none⟩) N1 c1) (.int .i64 t.p))
       have HR2:=Lib.hid ((rep_set5' HRN.out b (fun h=>h.2 rfl) (.int .i64 13) (.string ⟨#[]⟩) (.int .i64 0) (.slice (some ⟨g1,0,none⟩) N1 c1) (.int .i64 t.p)).mono (E:=fun g=>w.heap.size ≤ g) (fun g _ h=>h.1))
       go_wp2_with fail
       refine bodyPost_ret (results_cell_tmp2 rfl _ _ b _ _ (0,0) _ rfl HT.out.res Tryz.underlying42 rfl (by kernel_rfl)) rfl ?_
       rw [HT1.out]
       exact PaDone.yes (cs:=[_,_,_,_,_]) rfl HR2.out hn7 HT.out.f
      | false =>
       have HI3:Hid (∀ V,Fr [] w V → Calls Tryz.prog 22 #[.slice (some ad) l.length cap,.int .i64 n4,.int .i64 4,.string ⟨#[93]⟩] V fun e w'=>e=.returned (.bool false) ∧ V=w'):=fun V hV=>ref_isB V ad cap l n4 n4 4 ⟨#[93]⟩ [93] (by kernel_rfl) false (HTL.out.fr hV) hn5 rfl h93
       cases h44:Pol.is (l.drop n4) 4 [44] with
       | false =>
        have HI4:Hid (∀ V,Fr [] w V → Calls Tryz.prog 22 #[.slice (some ad) l.length cap,.int .i64 n4,.int .i64 4,.string ⟨#[44]⟩] V fun e w'=>e=.returned (.bool false) ∧ V=w'):=fun V hV=>ref_isB V ad cap l n4 n4 4 ⟨#[44]⟩ [44] (by kernel_rfl) false (HTL.out.fr hV) hn5 rfl h44
        have HT1:Hid (T=.error (u5.p,120)):=by show _=_;rw [HTN.out];unfold Pol.inN;rw [h93,h44,HDU5.out];rfl
        clear h93 h44
        refine (HI3.out _ H.out.f).mono ?_
        rintro e w1 ⟨rfl,rfl⟩
        go_wp2_with fail
        refine (HI4.out _ H.out.f).mono ?_
        rintro e w1 ⟨rfl,rfl⟩
        have yf:∀ i,W9.frozen? ⟨be,i,none⟩=false:=fun i=>Lib.frozen_of_heap HBX.out i
        have y0:W9.cell? ⟨be,0,none⟩=some (.int .i64 13):=by rw [Lib.cell_of_heap HBX.out];rfl
        have y1:W9.cell? ⟨be,1,none⟩=some (.string ⟨#[]⟩):=by rw [Lib.cell_of_heap HBX.out];rfl
        have y2:W9.cell? ⟨be,2,none⟩=some (.int .i64 0):=by rw [Lib.cell_of_heap HBX.out];rfl
        have y3:W9.cell? ⟨be,3,none⟩=some (.slice (some ⟨g1,0,none⟩) N1 c1):=by rw [Lib.cell_of_heap HBX.out];rfl
        have y4:W9.cell? ⟨be,4,none⟩=some (.int .i64 t.p):=by rw [Lib.cell_of_heap HBX.out];rfl
        have zf:∀ i,W9.frozen? ⟨b,i,none⟩=false:=fun i=>Lib.frozen_of_heap H.out.res i
        have z0:W9.cell? ⟨b,0,none⟩=some (.int .i64 0):=by rw [Lib.cell_of_heap H.out.res];rfl
        have z1:W9.cell? ⟨b,1,none⟩=some (.string ⟨#[]⟩):=by rw [Lib.cell_of_heap H.out.res];rfl
        have z2:W9.cell? ⟨b,2,none⟩=some (.int .i64 0):=by rw [Lib.cell_of_heap H.out.res];rfl
        have z3:W9.cell? ⟨b,3,none⟩=some (.slice none 0 0):=by rw [Lib.cell_of_heap H.out.res];rfl
        have z4:W9.cell? ⟨b,4,none⟩=some (.int .i64 0):=by rw [Lib.cell_of_heap H.out.res];rfl
        have HT:=Lib.hid ((R0.mk H.out.res H.out.f H.out.bw).set5 (.int .i64 13) (.string ⟨#[]⟩) (.int .i64 0) (.slice (some ⟨g1,0,none⟩) N1 c1) (.int .i64 t.p))
        go_wp2_with fail
        refine bodyPost_ret (results_cell_tmp2 rfl _ _ b _ _ (0,0) _ rfl HT.out.res Tryz.underlying42 rfl (by kernel_rfl)) rfl ?_
        rw [HT1.out]
        exact PaDone.err (cs:=[_,_,_,_,_]) rfl ⟨_,_,_,_,_,_,_,rfl⟩ HU5.out (by decide) HT.out.f
       | true =>
        have HI4:Hid (∀ V,Fr [] w V → Calls Tryz.prog 22 #[.slice (some ad) l.length cap,.int .i64 n4,.int .i64 4,.string ⟨#[44]⟩] V fun e w'=>e=.returned (.bool true) ∧ V=w'):=fun V hV=>ref_isB V ad cap l n4 n4 4 ⟨#[44]⟩ [44] (by kernel_rfl) true (HTL.out.fr hV) hn5 rfl h44
        have hn7:n4+1 < l.length:=next_lt HTL.out.ends HU5.out (by rw [HDU5.out] at h44;rw [is_k h44];decide)
        have HT1:Hid (T=Pol.inK j nest (A ++ [y]) t.p (l.drop (n4+1))):=by show _=_;rw [HTN.out];unfold Pol.inN;rw [h93,h44,if_neg (by decide),if_pos rfl,List.tail_drop]
        clear h93 h44
        refine (HI3.out _ H.out.f).mono ?_
        rintro e w1 ⟨rfl,rfl⟩
        go_wp2_with fail
        refine (HI4.out _ H.out.f).mono ?_
        rintro e w1 ⟨rfl,rfl⟩
        go_wp2_with fail
        go_roundg j
        case measure=>omega
        case rel=>exact ⟨n4,g1,c1,_,A ++ [y],hjf,rfl,hn7,by rw [hN1];exact hAN,HT1.out,hB9,H.out⟩
end Go.Proofs.YtgklmpooonnmiaaGreatDoor

namespace Go.Proofs.YtgklmpooonnmiaaGreatDoor
open Go.RowKit
set_option maxHeartbeats 2000000 in
set_option maxRecDepth 100000 in
theorem rcmp_two_err (x:Ex) (m:List TI) (p2 er2:Int) (w:World) (ad:Addr) (cap:Nat) (l:List TI) (i nest:Nat) (h:TL w ad cap l)
  (HC:Hid (∀ V,Fr [] w V → Calls Tryz.prog 106 #[.slice (some ad) l.length cap,.int .i64 i,.int .i64 nest] V (PaDone l V (.ok (x,m)))))
  (f1:Pol.is m 1 [105,110]=false) (op:Int) (tb:Bool) (h0:(op == 0)=false) (f2:∀ t r,m=t :: r → Pol.sg t=(op,tb) ∧ t.k ≠ 5)
  (HC2:∀ n V,m=l.drop n → n+1 < l.length → Fr [] w V → Calls Tryz.prog 106 #[.slice (some ad) l.length cap,.int .i64 ((n:Int)+1),.int .i64 nest] V (PaDone l V (.error (p2,er2))))
  : Calls Tryz.prog 101 #[.slice (some ad) l.length cap,.int .i64 i,.int .i64 nest] w (PaDone l w (.error (p2,er2))):=by
 have HTL:=Lib.hid h
 have hb:l.length ≤ 1000000:=h.few
 go_enter Tryz.func101,Tryz.ntmps101
 go_wp2_with fail
 refine calls_fresh (fun W=>R0 w w.heap.size z5 W) (R0.start w) ?_
 intro W h1
 obtain ⟨b,hbb⟩:∃ b,w.heap.size=b:=⟨_,rfl⟩
 rw [hbb] at h1 ⊢
 have H:=Lib.hid h1
 have HB:=Lib.hid hbb
 have hbW:b < W.heap.size:=row_lt h1.res
 clear h1 hbb h
 refine (HC.out _ H.out.f).mono ?_
 rintro e V ⟨cs,n,rfl,hrep,hn2,hdr,hF⟩
 obtain ⟨xo,xs,xn,xq,xk,xc,xp,rfl⟩:=hrep.form
 have hwV:w.heap.size ≤ V.heap.size:=Nat.le_trans H.out.f.size hF.size
 have hbV:b < V.heap.size:=Nat.lt_of_lt_of_le hbW hF.size
 have hst:CS2 w b V.heap.size [.int .i64 xo,.string xs,.int .i64 xn,.slice xq xk xc,.int .i64 xp] (V.alloc (.cells #[.int .i64 xo,.string xs,.int .i64 xn,.slice xq xk xc,.int .i64 xp] 42)) :=
  ⟨((H.out.fr hF).fr ((Fr.refl _ _).alloc _)).res,heap_alloc_last _ _,(H.out.f.trans0 hF).alloc _,H.out.bw,hbV⟩
 have hre:Rep (V.alloc (.cells #[.int .i64 xo,.string xs,.int .i64 xn,.slice xq xk xc,.int .i64 xp] 42)) (DD w b V.heap.size) [.int .i64 xo,.string xs,.int .i64 xn,.slice xq xk xc,.int .i64 xp] x :=
  (hrep.mono (E:=DD w b V.heap.size) (fun g hg h=>⟨Nat.le_trans H.out.f.size h,by omega,by omega⟩)).fr (bs:=[]) ((Fr.refl _ _).alloc _) (fun y hy _=>by cases hy)
 have HST:=Lib.hid hst
 have HRE:=Lib.hid hre
 obtain ⟨t,ht,hdt⟩:=at_of hn2
 have HT0:=Lib.hid ht
 obtain ⟨bx,hbx⟩:∃ bx,V.heap.size=bx:=⟨_,rfl⟩
 rw [hbx] at HST HRE
 clear hF hrep HC hst hre ht
 go_wp2_with fail
 refine calls_fresh (fun W=>CS2 w b bx [.int .i64 xo,.string xs,.int .i64 xn,.slice xq xk xc,.int .i64 xp] W ∧ Rep W (DD w b bx) [.int .i64 xo,.string xs,.int .i64 xn,.slice xq xk xc,.int .i64 xp] x) ⟨HST.out,HRE.out⟩ ?_
 rintro W1 ⟨hst,hre⟩
 have HST:=Lib.hid hst
 have HRE:=Lib.hid hre
 have hbxW:bx < W1.heap.size:=row_lt hst.box
 have hbb:=hst.lt
 clear hst hre
 have HI1:Hid (∀ V,Fr [] w V → Calls Tryz.prog 22 #[.slice (some ad) l.length cap,.int .i64 n,.int .i64 1,.string ⟨#[105,110]⟩] V fun e w'=>e=.returned (.bool false) ∧ V=w'):=fun V hV=>ref_isB V ad cap l n n 1 ⟨#[105,110]⟩ [105,110] (by kernel_rfl) false (HTL.out.fr hV) hn2 rfl (by rw [← hdr];exact f1)
 have hft:=f2 t _ (by rw [hdr];exact hdt)
 have HSG:Hid (∀ V,Calls Tryz.prog 107 #[.agg #[.int .i64 t.k,.string t.s,.int .i64 t.n,.int .i64 t.p]] V fun e w'=>e=.returned (.tuple #[.int .i64 op,.bool tb]) ∧ Fr [] V w'):=fun V=>by
  have:=ref_signs V t
  rwa [hft.1] at this
 have hn3:n+1 < l.length:=next_lt HTL.out.ends HT0.out hft.2
 have HC3:=Lib.hid (fun V hV=>HC2 n V hdr hn3 hV)
 obtain ⟨c0,c1,c2,c3⟩:=(HTL.out.fr HST.out.f).cells HT0.out
 have hn0:(0:Int) ≤ (n:Int):=by omega
 have hn1:(n:Int) < (l.length:Int):=by omega
 have hdr2:=hdr
 have hdt2:=hdt
 clear f1 f2 hdt HC2 hft hdr
 refine (HI1.out _ HST.out.f).mono ?_
 rintro e w1 ⟨rfl,rfl⟩
 go_wp2_with fail
 refine (HSG.out _).mono ?_
 rintro e W2 ⟨rfl,hF⟩
 have HST:=Lib.hid (HST.out.fr hF)
 have HRE:=Lib.hid (HRE.out.fr (bs:=[]) hF (fun y hy _=>by cases hy))
 clear hF HI1 HSG c0 c1 c2 c3
 go_wp2_with fail
 refine (HC3.out _ HST.out.f).mono ?_
 rintro e V ⟨cs2,n4,u,rfl,⟨yo,ys,yn,yq,yk,yc,yp,rfl⟩,hu,rfl,her,hF⟩
 have HU:=Lib.hid hu
 have HST:=Lib.hid (HST.out.fr hF)
 have hbV:b < V.heap.size:=row_lt HST.out.res
 have her2:(er2 != 0)=true:=by rw [bne,beq_eq_false_iff_ne.2 her];rfl
 clear hF HC3 hu
 have zf:∀ i,V.frozen? ⟨b,i,none⟩=false:=fun i=>Lib.frozen_of_heap HST.out.res i
 have z0:V.cell? ⟨b,0,none⟩=some (.int .i64 0):=by rw [Lib.cell_of_heap HST.out.res];rfl
 have z1:V.cell? ⟨b,1,none⟩=some (.string ⟨#[]⟩):=by rw [Lib.cell_of_heap HST.out.res];rfl
 have z2:V.cell? ⟨b,2,none⟩=some (.int .i64 0):=by rw [Lib.cell_of_heap HST.out.res];rfl
 have z3:V.cell? ⟨b,3,none⟩=some (.slice none 0 0):=by rw [Lib.cell_of_heap HST.out.res];rfl
 have z4:V.cell? ⟨b,4,none⟩=some (.int .i64 0):=by rw [Lib.cell_of_heap HST.out.res];rfl
 have HT:=Lib.hid (((R0.mk HST.out.res HST.out.f HST.out.bw).set5 (.int .i64 yo) (.string ys) (.int .i64 yn) (.slice yq yk yc) (.int .i64 yp)).fr ((Fr.refl [] _).alloc (.cells #[.int .i64 yo,.string ys,.int .i64 yn,.slice yq yk yc,.int .i64 yp] 42)))
 go_wp2_with fail
 refine bodyPost_ret (results_cell_tmp2 rfl _ _ b _ _ (0,0) _ rfl HT.out.res Tryz.underlying42 rfl (by kernel_rfl)) rfl ?_
 exact PaDone.err (cs:=[_,_,_,_,_]) rfl ⟨_,_,_,_,_,_,_,rfl⟩ HU.out her HT.out.f
structure PairB (V:World) (ob:Array Value) (be rb:Nat) (row box:Array Value) (W:World):Prop where
 old:W.heap[V.heap.size]?=some (.cells ob 42 (0,0))
 box:W.heap[be]?=some (.cells box 42 (0,0))
 row:W.heap[rb]?=some (.cells row 42 (0,0))
 f:Fr [] V W
 beV:V.heap.size < be
 rbV:V.heap.size < rb
 ne:be ≠ rb
theorem pairB1 (V:World) (a row box:Array Value):PairB V a (V.heap.size+1+1) (V.heap.size+1) row box (((V.alloc (.cells a 42)).alloc (.cells row 42)).alloc (.cells box 42)).drew :=
 ⟨(alloc3 V _ _ _).1,(alloc3 V _ _ _).2.2,(alloc3 V _ _ _).2.1,(((((Fr.refl [] V).alloc _).alloc _).alloc _).drew),by omega,by omega,by omega⟩
theorem pairB2 (V:World) (a row box:Array Value):PairB V a (V.heap.size+1) (V.heap.size+1+1) row box (((V.alloc (.cells a 42)).alloc (.cells box 42)).alloc (.cells row 42)).drew :=
 ⟨(alloc3 V _ _ _).1,(alloc3 V _ _ _).2.1,(alloc3 V _ _ _).2.2,(((((Fr.refl [] V).alloc _).alloc _).alloc _).drew),by omega,by omega,by omega⟩
set_option maxHeartbeats 2000000 in
set_option maxRecDepth 100000 in
theorem rcmp_two_f (x y:Ex) (m m2:List TI) (w:World) (ad:Addr) (cap:Nat) (l:List TI) (i nest:Nat) (h:TL w ad cap l)
  (HC:Hid (∀ V,Fr [] w V → Calls Tryz.prog 106 #[.slice (some ad) l.length cap,.int .i64 i,.int .i64 nest] V (PaDone l V (.ok (x,m)))))
  (f1:Pol.is m 1 [105,110]=false) (op:Int) (tb:Bool) (h0:(op == 0)=false) (f2:∀ t r,m=t :: r → Pol.sg t=(op,tb) ∧ t.k ≠ 5)
  (HC2:∀ n V,m=l.drop n → n+1 < l.length → Fr [] w V → Calls Tryz.prog 106 #[.slice (some ad) l.length cap,.int .i64 ((n:Int)+1),.int .i64 nest] V (PaDone l V (.ok (y,m2))))
  (htb:tb=false):Calls Tryz.prog 101 #[.slice (some ad) l.length cap,.int .i64 i,.int .i64 nest] w (PaDone l w (.ok (.mk op Pol.none_ 0 [x,y] (Pol.place m),m2))):=by
 subst htb
 have HTL:=Lib.hid h
 have hb:l.length ≤ 1000000:=h.few
 go_enter Tryz.func101,Tryz.ntmps101
 go_wp2_with fail
 refine calls_fresh (fun W=>R0 w w.heap.size z5 W) (R0.start w) ?_
 intro W h1
 obtain ⟨b,hbb⟩:∃ b,w.heap.size=b:=⟨_,rfl⟩
 rw [hbb] at h1 ⊢
 have H:=Lib.hid h1
 have HB:=Lib.hid hbb
 have hbW:b < W.heap.size:=row_lt h1.res
 clear h1 hbb h
 refine (HC.out _ H.out.f).mono ?_
 rintro e V ⟨cs,n,rfl,hrep,hn2,hdr,hF⟩
 obtain ⟨xo,xs,xn,xq,xk,xc,xp,rfl⟩:=hrep.form
 have hwV:w.heap.size ≤ V.heap.size:=Nat.le_trans H.out.f.size hF.size
 have hbV:b < V.heap.size:=Nat.lt_of_lt_of_le hbW hF.size
 have hst:CS2 w b V.heap.size [.int .i64 xo,.string xs,.int .i64 xn,.slice xq xk xc,.int .i64 xp] (V.alloc (.cells #[.int .i64 xo,.string xs,.int .i64 xn,.slice xq xk xc,.int .i64 xp] 42)) :=
  ⟨((H.out.fr hF).fr ((Fr.refl _ _).alloc _)).res,heap_alloc_last _ _,(H.out.f.trans0 hF).alloc _,H.out.bw,hbV⟩
 have hre:Rep (V.alloc (.cells #[.int .i64 xo,.string xs,.int .i64 xn,.slice xq xk xc,.int .i64 xp] 42)) (DD w b V.heap.size) [.int .i64 xo,.string xs,.int .i64 xn,.slice xq xk xc,.int .i64 xp] x :=
  (hrep.mono (E:=DD w b V.heap.size) (fun g hg h=>⟨Nat.le_trans H.out.f.size h,by omega,by omega⟩)).fr (bs:=[]) ((Fr.refl _ _).alloc _) (fun y hy _=>by cases hy)
 have HST:=Lib.hid hst
 have HRE:=Lib.hid hre
 obtain ⟨t,ht,hdt⟩:=at_of hn2
 have HT0:=Lib.hid ht
 obtain ⟨bx,hbx⟩:∃ bx,V.heap.size=bx:=⟨_,rfl⟩
 rw [hbx] at HST HRE
 clear hF hrep HC hst hre ht
 go_wp2_with fail
 refine calls_fresh (fun W=>CS2 w b bx [.int .i64 xo,.string xs,.int .i64 xn,.slice xq xk xc,.int .i64 xp] W ∧ Rep W (DD w b bx) [.int .i64 xo,.string xs,.int .i64 xn,.slice xq xk xc,.int .i64 xp] x) ⟨HST.out,HRE.out⟩ ?_
 rintro W1 ⟨hst,hre⟩
 have HST:=Lib.hid hst
 have HRE:=Lib.hid hre
 have hbxW:bx < W1.heap.size:=row_lt hst.box
 have hbb:=hst.lt
 clear hst hre
 have HI1:Hid (∀ V,Fr [] w V → Calls Tryz.prog 22 #[.slice (some ad) l.length cap,.int .i64 n,.int .i64 1,.string ⟨#[105,110]⟩] V fun e w'=>e=.returned (.bool false) ∧ V=w'):=fun V hV=>ref_isB V ad cap l n n 1 ⟨#[105,110]⟩ [105,110] (by kernel_rfl) false (HTL.out.fr hV) hn2 rfl (by rw [← hdr];exact f1)
 have hft:=f2 t _ (by rw [hdr];exact hdt)
 have HSG:Hid (∀ V,Calls Tryz.prog 107 #[.agg #[.int .i64 t.k,.string t.s,.int .i64 t.n,.int .i64 t.p]] V fun e w'=>e=.returned (.tuple #[.int .i64 op,.bool false]) ∧ Fr [] V w'):=fun V=>by
  have:=ref_signs V t
  rwa [hft.1] at this
 have hn3:n+1 < l.length:=next_lt HTL.out.ends HT0.out hft.2
 have HC3:=Lib.hid (fun V hV=>HC2 n V hdr hn3 hV)
 obtain ⟨c0,c1,c2,c3⟩:=(HTL.out.fr HST.out.f).cells HT0.out
 have hn0:(0:Int) ≤ (n:Int):=by omega
 have hn1:(n:Int) < (l.length:Int):=by omega
 have hdr2:=hdr
 have hdt2:=hdt
 clear f1 f2 hdt HC2 hft hdr
 refine (HI1.out _ HST.out.f).mono ?_
 rintro e w1 ⟨rfl,rfl⟩
 go_wp2_with fail
 refine (HSG.out _).mono ?_
 rintro e W2 ⟨rfl,hF⟩
 have HST:=Lib.hid (HST.out.fr hF)
 have HRE:=Lib.hid (HRE.out.fr (bs:=[]) hF (fun y hy _=>by cases hy))
 clear hF HI1 HSG c0 c1 c2 c3
 go_wp2_with fail
 refine (HC3.out _ HST.out.f).mono ?_
 rintro e V ⟨cs2,n4,rfl,hrep2,hn5,rfl,hF⟩
 obtain ⟨yo,ys,yn,yq,yk,yc,yp,rfl⟩:=hrep2.form
 have hwW2:=HST.out.f.size
 have hbW2:b < W2.heap.size:=row_lt HST.out.res
 have HRX:Hid (Rep V (fun i=>w.heap.size ≤ i ∧ i ≠ b) [.int .i64 xo,.string xs,.int .i64 xn,.slice xq xk xc,.int .i64 xp] x):=(HRE.out.fr (bs:=[]) hF (fun y hy _=>by cases hy)).mono (fun i _ h=>⟨h.1,h.2.1⟩)
 have HRY:Hid (Rep V (fun i=>w.heap.size ≤ i ∧ i ≠ b) [.int .i64 yo,.string ys,.int .i64 yn,.slice yq yk yc,.int .i64 yp] y):=hrep2.mono (fun i _ h=>⟨Nat.le_trans hwW2 h,by have h9:W2.heap.size ≤ i:=h;omega⟩)
 have HST:=Lib.hid (HST.out.fr hF)
 have hbV:b < V.heap.size:=row_lt HST.out.res
 have hxV:bx < V.heap.size:=row_lt HST.out.box
 have zf:∀ i,V.frozen? ⟨b,i,none⟩=false:=fun i=>Lib.frozen_of_heap HST.out.res i
 have z0:V.cell? ⟨b,0,none⟩=some (.int .i64 0):=by rw [Lib.cell_of_heap HST.out.res];rfl
 have z1:V.cell? ⟨b,1,none⟩=some (.string ⟨#[]⟩):=by rw [Lib.cell_of_heap HST.out.res];rfl
 have z2:V.cell? ⟨b,2,none⟩=some (.int .i64 0):=by rw [Lib.cell_of_heap HST.out.res];rfl
 have z3:V.cell? ⟨b,3,none⟩=some (.slice none 0 0):=by rw [Lib.cell_of_heap HST.out.res];rfl
 have z4:V.cell? ⟨b,4,none⟩=some (.int .i64 0):=by rw [Lib.cell_of_heap HST.out.res];rfl
 have yf:∀ i,V.frozen? ⟨bx,i,none⟩=false:=fun i=>Lib.frozen_of_heap HST.out.box i
 have y0:V.cell? ⟨bx,0,none⟩=some (.int .i64 xo):=by rw [Lib.cell_of_heap HST.out.box];rfl
 have y1:V.cell? ⟨bx,1,none⟩=some (.string xs):=by rw [Lib.cell_of_heap HST.out.box];rfl
 have y2:V.cell? ⟨bx,2,none⟩=some (.int .i64 xn):=by rw [Lib.cell_of_heap HST.out.box];rfl
 have y3:V.cell? ⟨bx,3,none⟩=some (.slice xq xk xc):=by rw [Lib.cell_of_heap HST.out.box];rfl
 have y4:V.cell? ⟨bx,4,none⟩=some (.int .i64 xp):=by rw [Lib.cell_of_heap HST.out.box];rfl
 obtain ⟨c0,c1,c2,c3⟩:=(HTL.out.fr HST.out.f).cells HT0.out
 have hbl:=World.block_lt_of_cell? V _ c0
 have hbl1:(ad.add (n * 4)).block < V.heap.size+1:=by omega
 have hbl2:(ad.add (n * 4)).block < V.heap.size+1+1:=by omega
 have hx1:bx < V.heap.size+1:=by omega
 have hx2:bx < V.heap.size+1+1:=by omega
 go_upto_region 24 with fail
 go_cut [20] from 114 to 123 (fun s20 wx=>∃ be rb,s20=.pointer (some ⟨be,0,none⟩) ∧ PairB V #[.int .i64 yo,.string ys,.int .i64 yn,.slice yq yk yc,.int .i64 yp] be rb #[.int .i64 xo,.string xs,.int .i64 xn,.slice xq xk xc,.int .i64 xp,.int .i64 yo,.string ys,.int .i64 yn,.slice yq yk yc,.int .i64 yp] #[.int .i64 op,.string ⟨#[]⟩,.int .i64 0,.slice (some ⟨rb,0,none⟩) 2 2,.int .i64 t.p] wx)
 case first =>
  go_region
  all_goals
   go_wp2_with fail
   go_meet
   first
    | exact ⟨_,_,rfl,pairB1 V _ _ _⟩
    | exact ⟨_,_,rfl,pairB2 V _ _ _⟩
 case rest =>
  obtain ⟨be,rb,rfl,hP⟩:=hcut
  have HST:=Lib.hid (HST.out.fr hP.f)
  have hbe:b < be:=by have:=hP.beV;omega
  have hpl:Pol.place m=t.p:=by rw [hdr2,hdt2];rfl
  have HRP:=Lib.hid (rep_pair (F:=wc) rb 42 op t.p (HRX.out.fr hP.f (fun y hy _=>by cases hy)) (HRY.out.fr hP.f (fun y hy _=>by cases hy)) hP.row ⟨by have:=hP.rbV;have:=HST.out.f.size;omega,by have:=hP.rbV;omega⟩)
  have hPb:=hP.box
  clear z0 z1 z2 z3 z4 zf y0 y1 y2 y3 y4 yf c0 c1 c2 c3 hP
  have zf:∀ i,wc.frozen? ⟨b,i,none⟩=false:=fun i=>Lib.frozen_of_heap HST.out.res i
  have z0:wc.cell? ⟨b,0,none⟩=some (.int .i64 0):=by rw [Lib.cell_of_heap HST.out.res];rfl
  have z1:wc.cell? ⟨b,1,none⟩=some (.string ⟨#[]⟩):=by rw [Lib.cell_of_heap HST.out.res];rfl
  have z2:wc.cell? ⟨b,2,none⟩=some (.int .i64 0):=by rw [Lib.cell_of_heap HST.out.res];rfl
  have z3:wc.cell? ⟨b,3,none⟩=some (.slice none 0 0):=by rw [Lib.cell_of_heap HST.out.res];rfl
  have z4:wc.cell? ⟨b,4,none⟩=some (.int .i64 0):=by rw [Lib.cell_of_heap HST.out.res];rfl
  have yf:∀ i,wc.frozen? ⟨be,i,none⟩=false:=fun i=>Lib.frozen_of_heap hPb i
  have y0:wc.cell? ⟨be,0,none⟩=some (.int .i64 op):=by rw [Lib.cell_of_heap hPb];rfl
  have y1:wc.cell? ⟨be,1,none⟩=some (.string ⟨#[]⟩):=by rw [Lib.cell_of_heap hPb];rfl
  have y2:wc.cell? ⟨be,2,none⟩=some (.int .i64 0):=by rw [Lib.cell_of_heap hPb];rfl
  have y3:wc.cell? ⟨be,3,none⟩=some (.slice (some ⟨rb,0,none⟩) 2 2):=by rw [Lib.cell_of_heap hPb];rfl
  have y4:wc.cell? ⟨be,4,none⟩=some (.int .i64 t.p):=by rw [Lib.cell_of_heap hPb];rfl
  have HT:=Lib.hid ((R0.mk HST.out.res HST.out.f HST.out.bw).set5 (.int .i64 op) (.string ⟨#[]⟩) (.int .i64 0) (.slice (some ⟨rb,0,none⟩) 2 2) (.int .i64 t.p))
  have HR2:=Lib.hid ((rep_set5' HRP.out b (fun h=>h.2 rfl) (.int .i64 op) (.string ⟨#[]⟩) (.int .i64 0) (.slice (some ⟨rb,0,none⟩) 2 2) (.int .i64 t.p)).mono (E:=fun g=>w.heap.size ≤ g) (fun g _ h=>h.1))
  clear hPb
  go_wp2_with fail
  refine bodyPost_ret (results_cell_tmp2 rfl _ _ b _ _ (0,0) _ rfl HT.out.res Tryz.underlying42 rfl (by kernel_rfl)) rfl ?_
  rw [hpl]
  exact PaDone.yes (cs:=[_,_,_,_,_]) rfl HR2.out hn5 HT.out.f
set_option maxHeartbeats 2000000 in
set_option maxRecDepth 100000 in
theorem rcmp_two_t (x y:Ex) (m m2:List TI) (w:World) (ad:Addr) (cap:Nat) (l:List TI) (i nest:Nat) (h:TL w ad cap l)
  (HC:Hid (∀ V,Fr [] w V → Calls Tryz.prog 106 #[.slice (some ad) l.length cap,.int .i64 i,.int .i64 nest] V (PaDone l V (.ok (x,m)))))
  (f1:Pol.is m 1 [105,110]=false) (op:Int) (tb:Bool) (h0:(op == 0)=false) (f2:∀ t r,m=t :: r → Pol.sg t=(op,tb) ∧ t.k ≠ 5)
  (HC2:∀ n V,m=l.drop n → n+1 < l.length → Fr [] w V → Calls Tryz.prog 106 #[.slice (some ad) l.length cap,.int .i64 ((n:Int)+1),.int .i64 nest] V (PaDone l V (.ok (y,m2))))
  (htb:tb=true):Calls Tryz.prog 101 #[.slice (some ad) l.length cap,.int .i64 i,.int .i64 nest] w (PaDone l w (.ok (.mk op Pol.none_ 0 [y,x] (Pol.place m),m2))):=by
 subst htb
 have HTL:=Lib.hid h
 have hb:l.length ≤ 1000000:=h.few
 go_enter Tryz.func101,Tryz.ntmps101
 go_wp2_with fail
 refine calls_fresh (fun W=>R0 w w.heap.size z5 W) (R0.start w) ?_
 intro W h1
 obtain ⟨b,hbb⟩:∃ b,w.heap.size=b:=⟨_,rfl⟩
 rw [hbb] at h1 ⊢
 have H:=Lib.hid h1
 have HB:=Lib.hid hbb
 have hbW:b < W.heap.size:=row_lt h1.res
 clear h1 hbb h
 refine (HC.out _ H.out.f).mono ?_
 rintro e V ⟨cs,n,rfl,hrep,hn2,hdr,hF⟩
 obtain ⟨xo,xs,xn,xq,xk,xc,xp,rfl⟩:=hrep.form
 have hwV:w.heap.size ≤ V.heap.size:=Nat.le_trans H.out.f.size hF.size
 have hbV:b < V.heap.size:=Nat.lt_of_lt_of_le hbW hF.size
 have hst:CS2 w b V.heap.size [.int .i64 xo,.string xs,.int .i64 xn,.slice xq xk xc,.int .i64 xp] (V.alloc (.cells #[.int .i64 xo,.string xs,.int .i64 xn,.slice xq xk xc,.int .i64 xp] 42)) :=
  ⟨((H.out.fr hF).fr ((Fr.refl _ _).alloc _)).res,heap_alloc_last _ _,(H.out.f.trans0 hF).alloc _,H.out.bw,hbV⟩
 have hre:Rep (V.alloc (.cells #[.int .i64 xo,.string xs,.int .i64 xn,.slice xq xk xc,.int .i64 xp] 42)) (DD w b V.heap.size) [.int .i64 xo,.string xs,.int .i64 xn,.slice xq xk xc,.int .i64 xp] x :=
  (hrep.mono (E:=DD w b V.heap.size) (fun g hg h=>⟨Nat.le_trans H.out.f.size h,by omega,by omega⟩)).fr (bs:=[]) ((Fr.refl _ _).alloc _) (fun y hy _=>by cases hy)
 have HST:=Lib.hid hst
 have HRE:=Lib.hid hre
 obtain ⟨t,ht,hdt⟩:=at_of hn2
 have HT0:=Lib.hid ht
 obtain ⟨bx,hbx⟩:∃ bx,V.heap.size=bx:=⟨_,rfl⟩
 rw [hbx] at HST HRE
 clear hF hrep HC hst hre ht
 go_wp2_with fail
 refine calls_fresh (fun W=>CS2 w b bx [.int .i64 xo,.string xs,.int .i64 xn,.slice xq xk xc,.int .i64 xp] W ∧ Rep W (DD w b bx) [.int .i64 xo,.string xs,.int .i64 xn,.slice xq xk xc,.int .i64 xp] x) ⟨HST.out,HRE.out⟩ ?_
 rintro W1 ⟨hst,hre⟩
 have HST:=Lib.hid hst
 have HRE:=Lib.hid hre
 have hbxW:bx < W1.heap.size:=row_lt hst.box
 have hbb:=hst.lt
 clear hst hre
 have HI1:Hid (∀ V,Fr [] w V → Calls Tryz.prog 22 #[.slice (some ad) l.length cap,.int .i64 n,.int .i64 1,.string ⟨#[105,110]⟩] V fun e w'=>e=.returned (.bool false) ∧ V=w'):=fun V hV=>ref_isB V ad cap l n n 1 ⟨#[105,110]⟩ [105,110] (by kernel_rfl) false (HTL.out.fr hV) hn2 rfl (by rw [← hdr];exact f1)
 have hft:=f2 t _ (by rw [hdr];exact hdt)
 have HSG:Hid (∀ V,Calls Tryz.prog 107 #[.agg #[.int .i64 t.k,.string t.s,.int .i64 t.n,.int .i64 t.p]] V fun e w'=>e=.returned (.tuple #[.int .i64 op,.bool true]) ∧ Fr [] V w'):=fun V=>by
  have:=ref_signs V t
  rwa [hft.1] at this
 have hn3:n+1 < l.length:=next_lt HTL.out.ends HT0.out hft.2
 have HC3:=Lib.hid (fun V hV=>HC2 n V hdr hn3 hV)
 obtain ⟨c0,c1,c2,c3⟩:=(HTL.out.fr HST.out.f).cells HT0.out
 have hn0:(0:Int) ≤ (n:Int):=by omega
 have hn1:(n:Int) < (l.length:Int):=by omega
 have hdr2:=hdr
 have hdt2:=hdt
 clear f1 f2 hdt HC2 hft hdr
 refine (HI1.out _ HST.out.f).mono ?_
 rintro e w1 ⟨rfl,rfl⟩
 go_wp2_with fail
 refine (HSG.out _).mono ?_
 rintro e W2 ⟨rfl,hF⟩
 have HST:=Lib.hid (HST.out.fr hF)
 have HRE:=Lib.hid (HRE.out.fr (bs:=[]) hF (fun y hy _=>by cases hy))
 clear hF HI1 HSG c0 c1 c2 c3
 go_wp2_with fail
 refine (HC3.out _ HST.out.f).mono ?_
 rintro e V ⟨cs2,n4,rfl,hrep2,hn5,rfl,hF⟩
 obtain ⟨yo,ys,yn,yq,yk,yc,yp,rfl⟩:=hrep2.form
 have hwW2:=HST.out.f.size
 have hbW2:b < W2.heap.size:=row_lt HST.out.res
 have HRX:Hid (Rep V (fun i=>w.heap.size ≤ i ∧ i ≠ b) [.int .i64 xo,.string xs,.int .i64 xn,.slice xq xk xc,.int .i64 xp] x):=(HRE.out.fr (bs:=[]) hF (fun y hy _=>by cases hy)).mono (fun i _ h=>⟨h.1,h.2.1⟩)
 have HRY:Hid (Rep V (fun i=>w.heap.size ≤ i ∧ i ≠ b) [.int .i64 yo,.string ys,.int .i64 yn,.slice yq yk yc,.int .i64 yp] y):=hrep2.mono (fun i _ h=>⟨Nat.le_trans hwW2 h,by have h9:W2.heap.size ≤ i:=h;omega⟩)
 have HST:=Lib.hid (HST.out.fr hF)
 have hbV:b < V.heap.size:=row_lt HST.out.res
 have hxV:bx < V.heap.size:=row_lt HST.out.box
 have zf:∀ i,V.frozen? ⟨b,i,none⟩=false:=fun i=>Lib.frozen_of_heap HST.out.res i
 have z0:V.cell? ⟨b,0,none⟩=some (.int .i64 0):=by rw [Lib.cell_of_heap HST.out.res];rfl
 have z1:V.cell? ⟨b,1,none⟩=some (.string ⟨#[]⟩):=by rw [Lib.cell_of_heap HST.out.res];rfl
 have z2:V.cell? ⟨b,2,none⟩=some (.int .i64 0):=by rw [Lib.cell_of_heap HST.out.res];rfl
 have z3:V.cell? ⟨b,3,none⟩=some (.slice none 0 0):=by rw [Lib.cell_of_heap HST.out.res];rfl
 have z4:V.cell? ⟨b,4,none⟩=some (.int .i64 0):=by rw [Lib.cell_of_heap HST.out.res];rfl
 have yf:∀ i,V.frozen? ⟨bx,i,none⟩=false:=fun i=>Lib.frozen_of_heap HST.out.box i
 have y0:V.cell? ⟨bx,0,none⟩=some (.int .i64 xo):=by rw [Lib.cell_of_heap HST.out.box];rfl
 have y1:V.cell? ⟨bx,1,none⟩=some (.string xs):=by rw [Lib.cell_of_heap HST.out.box];rfl
 have y2:V.cell? ⟨bx,2,none⟩=some (.int .i64 xn):=by rw [Lib.cell_of_heap HST.out.box];rfl
 have y3:V.cell? ⟨bx,3,none⟩=some (.slice xq xk xc):=by rw [Lib.cell_of_heap HST.out.box];rfl
 have y4:V.cell? ⟨bx,4,none⟩=some (.int .i64 xp):=by rw [Lib.cell_of_heap HST.out.box];rfl
 obtain ⟨c0,c1,c2,c3⟩:=(HTL.out.fr HST.out.f).cells HT0.out
 have hbl:=World.block_lt_of_cell? V _ c0
 have hbl1:(ad.add (n * 4)).block < V.heap.size+1:=by omega
 have hbl2:(ad.add (n * 4)).block < V.heap.size+1+1:=by omega
 have hx1:bx < V.heap.size+1:=by omega
 have hx2:bx < V.heap.size+1+1:=by omega
 go_upto_region 24 with fail
 go_cut [20] from 114 to 123 (fun s20 wx=>∃ be rb,s20=.pointer (some ⟨be,0,none⟩) ∧ PairB V #[.int .i64 yo,.string ys,.int .i64 yn,.slice yq yk yc,.int .i64 yp] be rb #[.int .i64 xo,.string xs,.int .i64 xn,.slice xq xk xc,.int .i64 xp,.int .i64 yo,.string ys,.int .i64 yn,.slice yq yk yc,.int .i64 yp] #[.int .i64 op,.string ⟨#[]⟩,.int .i64 0,.slice (some ⟨rb,0,none⟩) 2 2,.int .i64 t.p] wx)
 case first =>
  go_region
  all_goals
   go_wp2_with fail
   go_meet
   first
    | exact ⟨_,_,rfl,pairB1 V _ _ _⟩
    | exact ⟨_,_,rfl,pairB2 V _ _ _⟩
 case rest =>
  obtain ⟨be,rb,rfl,hP⟩:=hcut
  have HST:=Lib.hid (HST.out.fr hP.f)
  have hbe:b < be:=by have:=hP.beV;omega
  have hpl:Pol.place m=t.p:=by rw [hdr2,hdt2];rfl
  have HP:=Lib.hid hP
  have hVwc:V.heap.size < wc.heap.size:=row_lt hP.old
  have hbewc:be < wc.heap.size:=row_lt hP.box
  have hbxwc:bx < wc.heap.size:=row_lt HST.out.box
  have hbeV:=hP.beV
  have hbeV2:be ≠ V.heap.size:=by omega
  have hbebx:be ≠ bx:=by omega
  have hbwc:b < wc.heap.size:=by omega
  clear z0 z1 z2 z3 z4 zf y0 y1 y2 y3 y4 yf c0 c1 c2 c3 hP
  have zf:∀ i,wc.frozen? ⟨b,i,none⟩=false:=fun i=>Lib.frozen_of_heap HST.out.res i
  have z0:wc.cell? ⟨b,0,none⟩=some (.int .i64 0):=by rw [Lib.cell_of_heap HST.out.res];rfl
  have z1:wc.cell? ⟨b,1,none⟩=some (.string ⟨#[]⟩):=by rw [Lib.cell_of_heap HST.out.res];rfl
  have z2:wc.cell? ⟨b,2,none⟩=some (.int .i64 0):=by rw [Lib.cell_of_heap HST.out.res];rfl
  have z3:wc.cell? ⟨b,3,none⟩=some (.slice none 0 0):=by rw [Lib.cell_of_heap HST.out.res];rfl
  have z4:wc.cell? ⟨b,4,none⟩=some (.int .i64 0):=by rw [Lib.cell_of_heap HST.out.res];rfl
  have yf:∀ i,wc.frozen? ⟨be,i,none⟩=false:=fun i=>Lib.frozen_of_heap HP.out.box i
  have y0:wc.cell? ⟨be,0,none⟩=some (.int .i64 op):=by rw [Lib.cell_of_heap HP.out.box];rfl
  have y1:wc.cell? ⟨be,1,none⟩=some (.string ⟨#[]⟩):=by rw [Lib.cell_of_heap HP.out.box];rfl
  have y2:wc.cell? ⟨be,2,none⟩=some (.int .i64 0):=by rw [Lib.cell_of_heap HP.out.box];rfl
  have y3:wc.cell? ⟨be,3,none⟩=some (.slice (some ⟨rb,0,none⟩) 2 2):=by rw [Lib.cell_of_heap HP.out.box];rfl
  have y4:wc.cell? ⟨be,4,none⟩=some (.int .i64 t.p):=by rw [Lib.cell_of_heap HP.out.box];rfl
  have uf:∀ i,wc.frozen? ⟨V.heap.size,i,none⟩=false:=fun i=>Lib.frozen_of_heap HP.out.old i
  have u0:wc.cell? ⟨V.heap.size,0,none⟩=some (.int .i64 yo):=by rw [Lib.cell_of_heap HP.out.old];rfl
  have u1:wc.cell? ⟨V.heap.size,1,none⟩=some (.string ys):=by rw [Lib.cell_of_heap HP.out.old];rfl
  have u2:wc.cell? ⟨V.heap.size,2,none⟩=some (.int .i64 yn):=by rw [Lib.cell_of_heap HP.out.old];rfl
  have u3:wc.cell? ⟨V.heap.size,3,none⟩=some (.slice yq yk yc):=by rw [Lib.cell_of_heap HP.out.old];rfl
  have u4:wc.cell? ⟨V.heap.size,4,none⟩=some (.int .i64 yp):=by rw [Lib.cell_of_heap HP.out.old];rfl
  have vf:∀ i,wc.frozen? ⟨bx,i,none⟩=false:=fun i=>Lib.frozen_of_heap HST.out.box i
  have v0:wc.cell? ⟨bx,0,none⟩=some (.int .i64 xo):=by rw [Lib.cell_of_heap HST.out.box];rfl
  have v1:wc.cell? ⟨bx,1,none⟩=some (.string xs):=by rw [Lib.cell_of_heap HST.out.box];rfl
  have v2:wc.cell? ⟨bx,2,none⟩=some (.int .i64 xn):=by rw [Lib.cell_of_heap HST.out.box];rfl
  have v3:wc.cell? ⟨bx,3,none⟩=some (.slice xq xk xc):=by rw [Lib.cell_of_heap HST.out.box];rfl
  have v4:wc.cell? ⟨bx,4,none⟩=some (.int .i64 xp):=by rw [Lib.cell_of_heap HST.out.box];rfl
  have hX:=HRX.out
  have hY:=HRY.out
  obtain ⟨U1,hU1⟩:∃ U1,wc.setCell ⟨be,3,none⟩ (.slice (some ⟨wc.heap.size,0,none⟩) 2 2)=U1:=⟨_,rfl⟩
  have hfU:Fr [be] wc U1:=by rw [← hU1];exact (Fr.refl _ _).setCell (p:=⟨be,3,none⟩) (.inl (by simp)) _
  have hsU:U1.heap.size=wc.heap.size:=by rw [← hU1];simp [World.setCell]
  have hRU:R0 w b z5 U1:=⟨hfU.row HST.out.res (by simp;omega),((HST.out.f.sub (bs:=[be])).trans hfU (fun y hy=>.inl hy)).new (by have:=HST.out.bw;omega),HST.out.bw⟩
  have hS5:=hRU.set5 (.int .i64 op) (.string ⟨#[]⟩) (.int .i64 0) (.slice (some ⟨wc.heap.size,0,none⟩) 2 2) (.int .i64 t.p)
  have hZs:(((((U1.setCell ⟨b,0,none⟩ (.int .i64 op)).setCell ⟨b,1,none⟩ (.string ⟨#[]⟩)).setCell ⟨b,2,none⟩ (.int .i64 0)).setCell ⟨b,3,none⟩ (.slice (some ⟨wc.heap.size,0,none⟩) 2 2)).setCell ⟨b,4,none⟩ (.int .i64 t.p)).heap.size=wc.heap.size:=by rw [← hsU];simp [World.setCell]
  have hf5:=fr_set5 (V:=U1) b (.int .i64 op) (.string ⟨#[]⟩) (.int .i64 0) (.slice (some ⟨wc.heap.size,0,none⟩) 2 2) (.int .i64 t.p)
  obtain ⟨Z5,hZ5⟩:∃ Z5,(((((U1.setCell ⟨b,0,none⟩ (.int .i64 op)).setCell ⟨b,1,none⟩ (.string ⟨#[]⟩)).setCell ⟨b,2,none⟩ (.int .i64 0)).setCell ⟨b,3,none⟩ (.slice (some ⟨wc.heap.size,0,none⟩) 2 2)).setCell ⟨b,4,none⟩ (.int .i64 t.p))=Z5:=⟨_,rfl⟩
  rw [hZ5] at hS5 hZs hf5
  have hA:=heap_alloc_last Z5 (.cells #[.int .i64 yo,.string ys,.int .i64 yn,.slice yq yk yc,.int .i64 yp,.int .i64 xo,.string xs,.int .i64 xn,.slice xq xk xc,.int .i64 xp] 42)
  rw [hZs] at hA
  have hAf:Fr [] Z5 (Z5.alloc (.cells #[.int .i64 yo,.string ys,.int .i64 yn,.slice yq yk yc,.int .i64 yp,.int .i64 xo,.string xs,.int .i64 xn,.slice xq xk xc,.int .i64 xp] 42)):=(Fr.refl _ _).alloc _
  have mv:∀ {cs:List Value} {z:Ex},Rep V (fun i=>w.heap.size ≤ i ∧ i ≠ b) cs z → Rep (Z5.alloc (.cells #[.int .i64 yo,.string ys,.int .i64 yn,.slice yq yk yc,.int .i64 yp,.int .i64 xo,.string xs,.int .i64 xn,.slice xq xk xc,.int .i64 xp] 42)) (fun i=>w.heap.size ≤ i) cs z:=fun {cs z} hz =>
   ((((((hz.mono (E:=fun i=>w.heap.size ≤ i ∧ i ≠ b ∧ i ≠ be) (fun i hi h=>⟨h.1,h.2,by omega⟩)).fr HP.out.f (fun y hy _=>by cases hy)).fr hfU (fun y hy _ hc=>by simp at hy;exact hc.2.2 hy)).fr hf5 (fun y hy _ hc=>by simp at hy;exact hc.2.1 hy)).fr hAf (fun y hy _=>by cases hy)).mono (fun i _ h=>h.1))
  have hwwc:w.heap.size ≤ wc.heap.size:=HST.out.f.size
  have HR2:=Lib.hid (rep_pair wc.heap.size 42 op t.p (mv hY) (mv hX) hA hwwc)
  have HT:=Lib.hid (hS5.fr hAf)
  rw [← hZ5,← hU1] at HT HR2
  clear hX hY hU1 hfU hsU hRU hS5 hZs hf5 hZ5 hA hAf mv hwwc
  go_wp2_with fail
  refine bodyPost_ret (results_cell_tmp2 rfl _ _ b _ _ (0,0) _ rfl HT.out.res Tryz.underlying42 rfl (by kernel_rfl)) rfl ?_
  rw [hpl]
  exact PaDone.yes (cs:=[_,_,_,_,_]) rfl HR2.out hn5 HT.out.f
end Go.Proofs.YtgklmpooonnmiaaGreatDoor

namespace Go.Proofs.YtgklmpooonnmiaaGreatDoor
open Go.RowKit
theorem sg_zero {t:TI} (h:(Pol.sg t).1=0):Pol.sg t=(0,false):=by
 unfold Pol.sg at h ⊢
 split
 ·rename_i h1
  rw [if_pos h1] at h
  split
  ·rename_i h2
   rw [if_pos h2] at h
   exact absurd h (by decide)
  ·rfl
 ·rename_i h1
  rw [if_neg h1] at h
  split
  ·rename_i h2
   rw [if_pos h2] at h
   cases hs:Pol.sign t.s.toList with
   | none=>rfl
   | some ob =>
    obtain ⟨o,b⟩:=ob
    rw [hs] at h
    exact absurd h (sign_ne hs)
  ·rfl
theorem ends_drop {l:List TI} (h:Ends l) {i:Nat} (hi:i < l.length):Ends (l.drop i):=by
 obtain ⟨t,h1,h2⟩:=h
 exact ⟨t,by rw [List.getLast?_drop,if_neg (by omega)];exact h1,h2⟩
theorem ref_compare (f:Nat) (hO:∀ g,g ≤ f → PaReads 106 (Pol.operand g)):PaReads 101 (Pol.compare (f+1)):=by
 intro w ad cap l i nest h hi hn hfed
 rw [cmp_from] at hfed ⊢
 have hc:Hid (∀ V,Fr [] w V → Calls Tryz.prog 106 #[.slice (some ad) l.length cap,.int .i64 i,.int .i64 nest] V (PaDone l V (Pol.operand f nest (l.drop i)))):=fun V hV=>hO f (Nat.le_refl _) V ad cap l i nest (h.fr hV) hi hn (fun p hp=>by rw [hp] at hfed;exact hfed p rfl)
 obtain ⟨r,hr⟩:∃ r,Pol.operand f nest (l.drop i)=r:=⟨_,rfl⟩
 rw [hr] at hc hfed ⊢
 rcases r with ⟨p,er⟩ | ⟨x,m⟩
 ·exact rcmp_err p er w ad cap l i nest h hc
 ·have hEm:Ends m:=(Pol.all_keep f).1 _ _ _ _ hr (ends_drop h.ends hi)
  cases f1:Pol.is m 1 [105,110] with
  | true=>exact rcmp_in f hO x m w ad cap l i nest h hn hc f1 hfed
  | false =>
   obtain ⟨t,q,rfl⟩:=hEm.cons
   have hK:Pol.cmpK f nest x (t :: q)=if (Pol.sg t).1=0 then .ok (x,t :: q) else match Pol.operand f nest q with
    | .error e=>.error e
    | .ok (b,q)=>.ok (.mk (Pol.sg t).1 Pol.none_ 0 (if (Pol.sg t).2=true then [b,x] else [x,b]) t.p,q):=by
    unfold Pol.cmpK;rw [f1];rfl
   show Calls Tryz.prog 101 _ w (PaDone l w (Pol.cmpK f nest x (t :: q)))
   have hfed2:Pol.Fed (Pol.cmpK f nest x (t :: q)):=hfed
   rw [hK] at hfed2 ⊢
   by_cases h0:(Pol.sg t).1=0
   ·rw [if_pos h0]
    exact rcmp_none x (t :: q) w ad cap l i nest h hc f1 (fun t' r' e=>by cases e;exact sg_zero h0)
   ·rw [if_neg h0] at hfed2 ⊢
    have hk5:t.k ≠ 5:=fun hk=>h0 (by unfold Pol.sg;rw [if_neg (by omega),if_neg (by omega)])
    have h0b:((Pol.sg t).1 == 0)=false:=beq_eq_false_iff_ne.2 h0
    have hC2:∀ n V,t :: q=l.drop n → n+1 < l.length → Fr [] w V → Calls Tryz.prog 106 #[.slice (some ad) l.length cap,.int .i64 ((n:Int)+1),.int .i64 nest] V (PaDone l V (Pol.operand f nest q)):=fun n V hm hn1 hV=>by
     have hq:q=l.drop (n+1):=by rw [← List.tail_drop,← hm];rfl
     have:=hO f (Nat.le_refl _) V ad cap l (n+1) nest (h.fr hV) hn1 hn (fun p hp=>hfed2 p (by rw [hq,hp]))
     rw [← hq] at this
     rwa [show ((n+1:Nat):Int)=(n:Int)+1 by omega] at this
    obtain ⟨r2,hr2⟩:∃ r2,Pol.operand f nest q=r2:=⟨_,rfl⟩
    rw [hr2] at hC2 hfed2 ⊢
    rcases r2 with ⟨p2,er2⟩ | ⟨y,m2⟩
    ·exact rcmp_two_err x (t :: q) p2 er2 w ad cap l i nest h hc f1 (Pol.sg t).1 (Pol.sg t).2 h0b (fun t' r' e=>by cases e;exact ⟨rfl,hk5⟩) hC2
    ·cases htb:(Pol.sg t).2 with
     | true=>exact rcmp_two_t x y (t :: q) m2 w ad cap l i nest h hc f1 (Pol.sg t).1 true h0b (fun t' r' e=>by cases e;exact ⟨by rw [← htb],hk5⟩) hC2 rfl
     | false=>exact rcmp_two_f x y (t :: q) m2 w ad cap l i nest h hc f1 (Pol.sg t).1 false h0b (fun t' r' e=>by cases e;exact ⟨by rw [← htb],hk5⟩) hC2 rfl
end Go.Proofs.YtgklmpooonnmiaaGreatDoor

namespace Go.Proofs.YtgklmpooonnmiaaGreatDoor
open Go.RowKit
def Pol.andFrom (f nest:Nat) (q:Pol.PR Ex):Pol.PR Ex :=
 match q with
 | .error e=>.error e
 | .ok (x,m)=>Pol.andMore f nest x m
def Pol.andStep (f nest:Nat) (e:Ex) (p:Int) (q:Pol.PR Ex):Pol.PR Ex :=
 match q with
 | .error e=>.error e
 | .ok (x,m)=>Pol.andMore f nest (.mk 7 Pol.none_ 0 [e,x] p) m
theorem and_from (f nest:Nat) (l:List TI):Pol.and_ (f+1) nest l=Pol.andFrom f nest (Pol.not_ f nest l):=by
 rw [Pol.and_]
 rcases Pol.not_ f nest l with e | ⟨x,m⟩ <;> rfl
theorem and_step (f nest:Nat) (e:Ex) (l:List TI):Pol.andMore (f+1) nest e l=if Pol.is l 1 [97,110,100]=true then Pol.andStep f nest e (Pol.place l) (Pol.not_ f nest l.tail) else .ok (e,l):=by
 rw [Pol.andMore]
 split
 ·rcases Pol.not_ f nest l.tail with e | ⟨x,m⟩ <;> rfl
 ·rfl
def Pol.andSt (f nest:Nat) (w:World) (b bx:Nat) (l:List TI) (T:Pol.PR Ex) (m n:Nat) (er:Int) (cs:List Value) (W:World):Prop :=
 (er=0 ∧ ∃ (x:Ex) (g:Nat),m=g+1 ∧ g ≤ f ∧ n < l.length ∧ Rep W (DD w b bx) cs x ∧ T=Pol.andMore g nest x (l.drop n)) ∨
 (er ≠ 0 ∧ m=0 ∧ ∃ u,l[n]?=some u ∧ T=.error (u.p,er))
set_option maxHeartbeats 4000000 in
set_option maxRecDepth 100000 in
theorem ref_and (f:Nat) (hN:∀ g,g ≤ f → PaReads 96 (Pol.not_ g)):PaReads 83 (Pol.and_ (f+1)):=by
 intro w ad cap l i nest h hi hn hfed
 rw [and_from] at hfed ⊢
 obtain ⟨T,hT⟩:∃ T,Pol.andFrom f nest (Pol.not_ f nest (l.drop i))=T:=⟨_,rfl⟩
 have HFED:Hid (Pol.Fed T):=by show Pol.Fed T;rw [← hT];exact hfed
 have HC:Hid (∀ V,Fr [] w V → Calls Tryz.prog 96 #[.slice (some ad) l.length cap,.int .i64 i,.int .i64 nest] V (PaDone l V (Pol.not_ f nest (l.drop i)))):=fun V hV=>hN f (Nat.le_refl _) V ad cap l i nest (h.fr hV) hi hn (fun p hp=>by rw [hp] at hfed;exact hfed p rfl)
 rw [hT]
 have HTL:=Lib.hid h
 have HN:=Lib.hid hN
 have hb:l.length ≤ 1000000:=h.few
 obtain ⟨r,hr⟩:∃ r,Pol.not_ f nest (l.drop i)=r:=⟨_,rfl⟩
 rw [hr] at HC hT
 clear h hN hfed hr
 go_enter Tryz.func83,Tryz.ntmps83
 go_wp2_with fail
 refine calls_fresh (fun W=>R0 w w.heap.size z5 W) (R0.start w) ?_
 intro W h1
 obtain ⟨b,hbb⟩:∃ b,w.heap.size=b:=⟨_,rfl⟩
 rw [hbb] at h1 ⊢
 have H:=Lib.hid h1
 have HB:=Lib.hid hbb
 have hbW:b < W.heap.size:=row_lt h1.res
 clear h1 hbb
 have KEY:∀ (V:World) (cs:List Value) (n:Nat) (er:Int),True:=fun _ _ _ _=>trivial
 refine (HC.out _ H.out.f).mono ?_
 rcases r with ⟨p,er⟩ | ⟨x,m⟩
 ·rintro e V ⟨cs,n,u,rfl,⟨xo,xs,xn,xq,xk,xc,xp,rfl⟩,hu,rfl,her,hF⟩
  have hbV:b < V.heap.size:=Nat.lt_of_lt_of_le hbW hF.size
  have hst:CS2 w b V.heap.size [.int .i64 xo,.string xs,.int .i64 xn,.slice xq xk xc,.int .i64 xp] (V.alloc (.cells #[.int .i64 xo,.string xs,.int .i64 xn,.slice xq xk xc,.int .i64 xp] 42)) :=
   ⟨((H.out.fr hF).fr ((Fr.refl _ _).alloc _)).res,heap_alloc_last _ _,(H.out.f.trans0 hF).alloc _,H.out.bw,hbV⟩
  have HST:=Lib.hid hst
  have HU:=Lib.hid hu
  have HTE:Hid (T=.error (u.p,er)):=hT.symm
  obtain ⟨bx,hbx⟩:∃ bx,V.heap.size=bx:=⟨_,rfl⟩
  clear hT hF HC hst hu
  go_wp2_with fail
  rw [hbx] at HST
  go_loopg [10,11] (0) (fun m s10 s11 W=>∃ (n:Nat) (er:Int) (cs:List Value),s10=.int .i64 n ∧ s11=.int .i64 er ∧ ExForm cs ∧ Hid (CS2 w b bx cs W) ∧ Hid (Pol.andSt f nest w b bx l T m n er cs W))
  case atStart=>exact ⟨n,er,_,rfl,rfl,⟨_,_,_,_,_,_,_,rfl⟩,HST.out,Or.inr ⟨her,rfl,u,HU.out,HTE.out⟩⟩
  case round =>
   clear HST
   obtain ⟨n,er,cs,rfl,rfl,⟨xo,xs,xn,xq,xk,xc,xp,rfl⟩,HST,HS⟩:=hrel
   have yf:∀ i,wr.frozen? ⟨bx,i,none⟩=false:=fun i=>Lib.frozen_of_heap HST.out.box i
   have y0:wr.cell? ⟨bx,0,none⟩=some (.int .i64 xo):=by rw [Lib.cell_of_heap HST.out.box];rfl
   have y1:wr.cell? ⟨bx,1,none⟩=some (.string xs):=by rw [Lib.cell_of_heap HST.out.box];rfl
   have y2:wr.cell? ⟨bx,2,none⟩=some (.int .i64 xn):=by rw [Lib.cell_of_heap HST.out.box];rfl
   have y3:wr.cell? ⟨bx,3,none⟩=some (.slice xq xk xc):=by rw [Lib.cell_of_heap HST.out.box];rfl
   have y4:wr.cell? ⟨bx,4,none⟩=some (.int .i64 xp):=by rw [Lib.cell_of_heap HST.out.box];rfl
   have zf:∀ i,wr.frozen? ⟨b,i,none⟩=false:=fun i=>Lib.frozen_of_heap HST.out.res i
   have z0:wr.cell? ⟨b,0,none⟩=some (.int .i64 0):=by rw [Lib.cell_of_heap HST.out.res];rfl
   have z1:wr.cell? ⟨b,1,none⟩=some (.string ⟨#[]⟩):=by rw [Lib.cell_of_heap HST.out.res];rfl
   have z2:wr.cell? ⟨b,2,none⟩=some (.int .i64 0):=by rw [Lib.cell_of_heap HST.out.res];rfl
   have z3:wr.cell? ⟨b,3,none⟩=some (.slice none 0 0):=by rw [Lib.cell_of_heap HST.out.res];rfl
   have z4:wr.cell? ⟨b,4,none⟩=some (.int .i64 0):=by rw [Lib.cell_of_heap HST.out.res];rfl
   have hbx:=row_lt HST.out.box
   have hbb:=HST.out.lt
   rcases HS.out with ⟨her,x,g,hm,hg,hn2,hrep,hTE⟩ | ⟨her,hm,u,hu,hTE⟩
   ·subst her
    have HREP:=Lib.hid hrep
    have HTE:=Lib.hid hTE
    have HM:=Lib.hid hm
    have hn0:(0:Int) ≤ (n:Int):=by omega
    have hn1:(n:Int) < (l.length:Int):=by omega
    obtain ⟨v,hv,hdv⟩:=at_of hn2
    have HV:=Lib.hid hv
    have HDV:=Lib.hid hdv
    clear hrep hTE hm HS hv hdv
    cases g with
    | zero=>exact absurd (HTE.out.trans (by rw [Pol.andMore])) (HFED.out _)
    | succ g =>
     have HTE2:Hid (T=if Pol.is (l.drop n) 1 [97,110,100]=true then Pol.andStep g nest x (Pol.place (l.drop n)) (Pol.not_ g nest (l.drop n).tail) else .ok (x,l.drop n)):=by show _=_;rw [HTE.out,and_step]
     clear HTE
     cases his:Pol.is (l.drop n) 1 [97,110,100] with
     | false =>
      have HI1:Hid (∀ V,Fr [] w V → Calls Tryz.prog 22 #[.slice (some ad) l.length cap,.int .i64 n,.int .i64 1,.string ⟨#[97,110,100]⟩] V fun e w'=>e=.returned (.bool false) ∧ V=w'):=fun V hV=>ref_isB V ad cap l n n 1 ⟨#[97,110,100]⟩ [97,110,100] (by kernel_rfl) false (HTL.out.fr hV) hn2 rfl his
      have HTF:Hid (T=.ok (x,l.drop n)):=by show _=_;rw [HTE2.out,his];rfl
      clear HTE2 his
      go_wp2_with fail
      refine (HI1.out _ HST.out.f).mono ?_
      rintro e w1 ⟨rfl,rfl⟩
      have HT:=Lib.hid ((R0.mk HST.out.res HST.out.f HST.out.bw).set5 (.int .i64 xo) (.string xs) (.int .i64 xn) (.slice xq xk xc) (.int .i64 xp))
      have HR2:=Lib.hid ((rep_set5' HREP.out b (fun h=>h.2.1 rfl) (.int .i64 xo) (.string xs) (.int .i64 xn) (.slice xq xk xc) (.int .i64 xp)).mono (E:=fun g=>w.heap.size ≤ g) (fun g _ h=>h.1))
      go_wp2_with fail
      refine bodyPost_ret (results_cell_tmp2 rfl _ _ b _ _ (0,0) _ rfl HT.out.res Tryz.underlying42 rfl (by kernel_rfl)) rfl ?_
      rw [HTF.out]
      exact PaDone.yes (cs:=[_,_,_,_,_]) rfl HR2.out hn2 HT.out.f
     | true =>
      have HI1:Hid (∀ V,Fr [] w V → Calls Tryz.prog 22 #[.slice (some ad) l.length cap,.int .i64 n,.int .i64 1,.string ⟨#[97,110,100]⟩] V fun e w'=>e=.returned (.bool true) ∧ V=w'):=fun V hV=>ref_isB V ad cap l n n 1 ⟨#[97,110,100]⟩ [97,110,100] (by kernel_rfl) true (HTL.out.fr hV) hn2 rfl his
      have hn3:n+1 < l.length:=next_lt HTL.out.ends HV.out (by rw [HDV.out] at his;rw [is_k his];decide)
      have hpl:Pol.place (l.drop n)=v.p:=by rw [HDV.out];rfl
      have hTF:T=Pol.andStep g nest x v.p (Pol.not_ g nest (l.drop (n+1))):=by rw [HTE2.out,if_pos his,List.tail_drop,hpl]
      have HC:Hid (∀ V,Fr [] w V → Calls Tryz.prog 96 #[.slice (some ad) l.length cap,.int .i64 ((n:Int)+1),.int .i64 nest] V (PaDone l V (Pol.not_ g nest (l.drop (n+1))))):=fun V hV=>by
       have:=HN.out g (by omega) V ad cap l (n+1) nest (HTL.out.fr hV) hn3 hn (fun p hp=>HFED.out p (by rw [hTF,hp];rfl))
       rwa [show ((n+1:Nat):Int)=(n:Int)+1 by omega] at this
      obtain ⟨r2,hr2⟩:∃ r2,Pol.not_ g nest (l.drop (n+1))=r2:=⟨_,rfl⟩
      rw [hr2] at HC hTF
      have HTF:=Lib.hid hTF
      clear HTE2 his hpl hTF hr2
      rcases r2 with ⟨p2,er2⟩ | ⟨x2,m2⟩
      all_goals
       go_wp2_with fail
       refine (HI1.out _ HST.out.f).mono ?_
       rintro e w1 ⟨rfl,rfl⟩
       clear y0 y1 y2 y3 y4 yf z0 z1 z2 z3 z4 zf
       go_wp2_with fail
       refine (HC.out _ HST.out.f).mono ?_
      ·rintro e V ⟨cs2,n4,u,rfl,⟨yo,ys,yn,yq,yk,yc,yp,rfl⟩,hu,rfl,her,hF⟩
       have HU:=Lib.hid hu
       have HST2:=Lib.hid (HST.out.fr hF)
       have hbV:bx < V.heap.size:=Nat.lt_of_lt_of_le hbx hF.size
       clear hu hF
       have yf:∀ i,V.frozen? ⟨bx,i,none⟩=false:=fun i=>Lib.frozen_of_heap HST2.out.box i
       have y0:V.cell? ⟨bx,0,none⟩=some (.int .i64 xo):=by rw [Lib.cell_of_heap HST2.out.box];rfl
       have y1:V.cell? ⟨bx,1,none⟩=some (.string xs):=by rw [Lib.cell_of_heap HST2.out.box];rfl
       have y2:V.cell? ⟨bx,2,none⟩=some (.int .i64 xn):=by rw [Lib.cell_of_heap HST2.out.box];rfl
       have y3:V.cell? ⟨bx,3,none⟩=some (.slice xq xk xc):=by rw [Lib.cell_of_heap HST2.out.box];rfl
       have y4:V.cell? ⟨bx,4,none⟩=some (.int .i64 xp):=by rw [Lib.cell_of_heap HST2.out.box];rfl
       obtain ⟨c0,c1,c2,c3⟩:=(HTL.out.fr HST2.out.f).cells HV.out
       have hbl:=World.block_lt_of_cell? V _ c0
       have HST3:=Lib.hid ((((HST2.out.set5 (.int .i64 7) (.string ⟨#[]⟩) (.int .i64 0) (.slice (some ⟨V.heap.size+1,0,none⟩) 2 2) (.int .i64 v.p)).fr ((Fr.refl [] _).alloc (.cells #[.int .i64 yo,.string ys,.int .i64 yn,.slice yq yk yc,.int .i64 yp] 42))).fr ((Fr.refl [] _).alloc (.cells #[.int .i64 xo,.string xs,.int .i64 xn,.slice xq xk xc,.int .i64 xp,.int .i64 yo,.string ys,.int .i64 yn,.slice yq yk yc,.int .i64 yp] 42))).fr (Fr.refl [] _).drew)
       go_wp2_with fail
       go_region
       go_wp2_with fail
       go_roundg 0
       case measure=>have:=HM.out;omega
       case rel=>exact ⟨n4,er2,_,rfl,rfl,⟨_,_,_,_,_,_,_,rfl⟩,HST3.out,Or.inr ⟨her,rfl,u,HU.out,HTF.out⟩⟩
      ·rintro e V ⟨cs2,n4,rfl,hrep2,hn5,rfl,hF⟩
       obtain ⟨yo,ys,yn,yq,yk,yc,yp,rfl⟩:=hrep2.form
       have hwr:=HST.out.f.size
       have HST2:=Lib.hid (HST.out.fr hF)
       have hbV:bx < V.heap.size:=Nat.lt_of_lt_of_le hbx hF.size
       have hwV:w.heap.size ≤ V.heap.size:=HST2.out.f.size
       have hr1:Rep V (DD w b bx) [.int .i64 xo,.string xs,.int .i64 xn,.slice xq xk xc,.int .i64 xp] x:=HREP.out.fr (bs:=[]) hF (fun y hy _=>by cases hy)
       have hr2:Rep V (DD w b bx) [.int .i64 yo,.string ys,.int .i64 yn,.slice yq yk yc,.int .i64 yp] x2:=hrep2.mono (E:=DD w b bx) (fun g _ h=>⟨Nat.le_trans hwr h,by omega,by omega⟩)
       have hfin:Fr [bx] V ((((((((V.setCell ⟨bx,0,none⟩ (.int .i64 7)).setCell ⟨bx,1,none⟩ (.string ⟨#[]⟩)).setCell ⟨bx,2,none⟩ (.int .i64 0)).setCell ⟨bx,3,none⟩ (.slice (some ⟨V.heap.size+1,0,none⟩) 2 2)).setCell ⟨bx,4,none⟩ (.int .i64 v.p)).alloc (.cells #[.int .i64 yo,.string ys,.int .i64 yn,.slice yq yk yc,.int .i64 yp] 42)).alloc (.cells #[.int .i64 xo,.string xs,.int .i64 xn,.slice xq xk xc,.int .i64 xp,.int .i64 yo,.string ys,.int .i64 yn,.slice yq yk yc,.int .i64 yp] 42)).drew):=(((fr_set5 bx _ _ _ _ _).alloc _).alloc _).drew
       have HREP2:=Lib.hid (rep_pair (F:=(((((((V.setCell ⟨bx,0,none⟩ (.int .i64 7)).setCell ⟨bx,1,none⟩ (.string ⟨#[]⟩)).setCell ⟨bx,2,none⟩ (.int .i64 0)).setCell ⟨bx,3,none⟩ (.slice (some ⟨V.heap.size+1,0,none⟩) 2 2)).setCell ⟨bx,4,none⟩ (.int .i64 v.p)).alloc (.cells #[.int .i64 yo,.string ys,.int .i64 yn,.slice yq yk yc,.int .i64 yp] 42)).alloc (.cells #[.int .i64 xo,.string xs,.int .i64 xn,.slice xq xk xc,.int .i64 xp,.int .i64 yo,.string ys,.int .i64 yn,.slice yq yk yc,.int .i64 yp] 42)).drew) (V.heap.size+1) 42 7 v.p (hr1.fr hfin (fun y hy _=>by simp at hy;subst hy;exact fun h=>h.2.2 rfl)) (hr2.fr hfin (fun y hy _=>by simp at hy;subst hy;exact fun h=>h.2.2 rfl)) (row_two V bx _ _ _ _ _ _ _) ⟨by omega,by omega,by omega⟩)
       clear hF hrep2 hr1 hr2 hfin
       have yf:∀ i,V.frozen? ⟨bx,i,none⟩=false:=fun i=>Lib.frozen_of_heap HST2.out.box i
       have y0:V.cell? ⟨bx,0,none⟩=some (.int .i64 xo):=by rw [Lib.cell_of_heap HST2.out.box];rfl
       have y1:V.cell? ⟨bx,1,none⟩=some (.string xs):=by rw [Lib.cell_of_heap HST2.out.box];rfl
       have y2:V.cell? ⟨bx,2,none⟩=some (.int .i64 xn):=by rw [Lib.cell_of_heap HST2.out.box];rfl
       have y3:V.cell? ⟨bx,3,none⟩=some (.slice xq xk xc):=by rw [Lib.cell_of_heap HST2.out.box];rfl
       have y4:V.cell? ⟨bx,4,none⟩=some (.int .i64 xp):=by rw [Lib.cell_of_heap HST2.out.box];rfl
       obtain ⟨c0,c1,c2,c3⟩:=(HTL.out.fr HST2.out.f).cells HV.out
       have hbl:=World.block_lt_of_cell? V _ c0
       have HST3:=Lib.hid ((((HST2.out.set5 (.int .i64 7) (.string ⟨#[]⟩) (.int .i64 0) (.slice (some ⟨V.heap.size+1,0,none⟩) 2 2) (.int .i64 v.p)).fr ((Fr.refl [] _).alloc (.cells #[.int .i64 yo,.string ys,.int .i64 yn,.slice yq yk yc,.int .i64 yp] 42))).fr ((Fr.refl [] _).alloc (.cells #[.int .i64 xo,.string xs,.int .i64 xn,.slice xq xk xc,.int .i64 xp,.int .i64 yo,.string ys,.int .i64 yn,.slice yq yk yc,.int .i64 yp] 42))).fr (Fr.refl [] _).drew)
       go_wp2_with fail
       go_region
       go_wp2_with fail
       cases g with
       | zero=>exact absurd (HTF.out.trans (by show Pol.andMore 0 nest _ _=_;rw [Pol.andMore])) (HFED.out _)
       | succ g =>
        go_roundg (g+1+1)
        case measure=>have:=HM.out;omega
        case rel=>exact ⟨n4,0,_,rfl,rfl,⟨_,_,_,_,_,_,_,rfl⟩,HST3.out,Or.inl ⟨rfl,_,g+1,rfl,by omega,hn5,HREP2.out,HTF.out⟩⟩
   ·have her2:(er == 0)=false:=beq_eq_false_iff_ne.2 her
    have HU:=Lib.hid hu
    have HTF:=Lib.hid hTE
    have HT:=Lib.hid ((R0.mk HST.out.res HST.out.f HST.out.bw).set5 (.int .i64 xo) (.string xs) (.int .i64 xn) (.slice xq xk xc) (.int .i64 xp))
    clear hu hTE HS hm
    go_wp2_with fail
    refine bodyPost_ret (results_cell_tmp2 rfl _ _ b _ _ (0,0) _ rfl HT.out.res Tryz.underlying42 rfl (by kernel_rfl)) rfl ?_
    rw [HTF.out]
    exact PaDone.err (cs:=[_,_,_,_,_]) rfl ⟨_,_,_,_,_,_,_,rfl⟩ HU.out her HT.out.f
 ·rintro e V ⟨cs,n,rfl,hrep,hn2,rfl,hF⟩
  obtain ⟨xo,xs,xn,xq,xk,xc,xp,rfl⟩:=hrep.form
  have HTE:Hid (T=Pol.andMore f nest x (l.drop n)):=hT.symm
  have hwV:w.heap.size ≤ V.heap.size:=Nat.le_trans H.out.f.size hF.size
  have hbV:b < V.heap.size:=Nat.lt_of_lt_of_le hbW hF.size
  have hst:CS2 w b V.heap.size [.int .i64 xo,.string xs,.int .i64 xn,.slice xq xk xc,.int .i64 xp] (V.alloc (.cells #[.int .i64 xo,.string xs,.int .i64 xn,.slice xq xk xc,.int .i64 xp] 42)) :=
   ⟨((H.out.fr hF).fr ((Fr.refl _ _).alloc _)).res,heap_alloc_last _ _,(H.out.f.trans0 hF).alloc _,H.out.bw,hbV⟩
  have hre:Rep (V.alloc (.cells #[.int .i64 xo,.string xs,.int .i64 xn,.slice xq xk xc,.int .i64 xp] 42)) (DD w b V.heap.size) [.int .i64 xo,.string xs,.int .i64 xn,.slice xq xk xc,.int .i64 xp] x :=
   (hrep.mono (E:=DD w b V.heap.size) (fun g hg h=>⟨Nat.le_trans H.out.f.size h,by omega,by omega⟩)).fr (bs:=[]) ((Fr.refl _ _).alloc _) (fun y hy _=>by cases hy)
  have HST:=Lib.hid hst
  have HRE:=Lib.hid hre
  obtain ⟨bx,hbx⟩:∃ bx,V.heap.size=bx:=⟨_,rfl⟩
  clear hT hF hrep HC hst hre
  go_wp2_with fail
  rw [hbx] at HST HRE
  go_loopg [10,11] (f+1) (fun m s10 s11 W=>∃ (n:Nat) (er:Int) (cs:List Value),s10=.int .i64 n ∧ s11=.int .i64 er ∧ ExForm cs ∧ Hid (CS2 w b bx cs W) ∧ Hid (Pol.andSt f nest w b bx l T m n er cs W))
  case atStart=>exact ⟨n,0,_,rfl,rfl,⟨_,_,_,_,_,_,_,rfl⟩,HST.out,Or.inl ⟨rfl,x,f,rfl,Nat.le_refl _,hn2,HRE.out,HTE.out⟩⟩
  case round =>
   clear HST
   obtain ⟨n,er,cs,rfl,rfl,⟨xo,xs,xn,xq,xk,xc,xp,rfl⟩,HST,HS⟩:=hrel
   have yf:∀ i,wr.frozen? ⟨bx,i,none⟩=false:=fun i=>Lib.frozen_of_heap HST.out.box i
   have y0:wr.cell? ⟨bx,0,none⟩=some (.int .i64 xo):=by rw [Lib.cell_of_heap HST.out.box];rfl
   have y1:wr.cell? ⟨bx,1,none⟩=some (.string xs):=by rw [Lib.cell_of_heap HST.out.box];rfl
   have y2:wr.cell? ⟨bx,2,none⟩=some (.int .i64 xn):=by rw [Lib.cell_of_heap HST.out.box];rfl
   have y3:wr.cell? ⟨bx,3,none⟩=some (.slice xq xk xc):=by rw [Lib.cell_of_heap HST.out.box];rfl
   have y4:wr.cell? ⟨bx,4,none⟩=some (.int .i64 xp):=by rw [Lib.cell_of_heap HST.out.box];rfl
   have zf:∀ i,wr.frozen? ⟨b,i,none⟩=false:=fun i=>Lib.frozen_of_heap HST.out.res i
   have z0:wr.cell? ⟨b,0,none⟩=some (.int .i64 0):=by rw [Lib.cell_of_heap HST.out.res];rfl
   have z1:wr.cell? ⟨b,1,none⟩=some (.string ⟨#[]⟩):=by rw [Lib.cell_of_heap HST.out.res];rfl
   have z2:wr.cell? ⟨b,2,none⟩=some (.int .i64 0):=by rw [Lib.cell_of_heap HST.out.res];rfl
   have z3:wr.cell? ⟨b,3,none⟩=some (.slice none 0 0):=by rw [Lib.cell_of_heap HST.out.res];rfl
   have z4:wr.cell? ⟨b,4,none⟩=some (.int .i64 0):=by rw [Lib.cell_of_heap HST.out.res];rfl
   have hbx:=row_lt HST.out.box
   have hbb:=HST.out.lt
   rcases HS.out with ⟨her,x,g,hm,hg,hn2,hrep,hTE⟩ | ⟨her,hm,u,hu,hTE⟩
   ·subst her
    have HREP:=Lib.hid hrep
    have HTE:=Lib.hid hTE
    have HM:=Lib.hid hm
    have hn0:(0:Int) ≤ (n:Int):=by omega
    have hn1:(n:Int) < (l.length:Int):=by omega
    obtain ⟨v,hv,hdv⟩:=at_of hn2
    have HV:=Lib.hid hv
    have HDV:=Lib.hid hdv
    clear hrep hTE hm HS hv hdv
    cases g with
    | zero=>exact absurd (HTE.out.trans (by rw [Pol.andMore])) (HFED.out _)
    | succ g =>
     have HTE2:Hid (T=if Pol.is (l.drop n) 1 [97,110,100]=true then Pol.andStep g nest x (Pol.place (l.drop n)) (Pol.not_ g nest (l.drop n).tail) else .ok (x,l.drop n)):=by show _=_;rw [HTE.out,and_step]
     clear HTE
     cases his:Pol.is (l.drop n) 1 [97,110,100] with
     | false =>
      have HI1:Hid (∀ V,Fr [] w V → Calls Tryz.prog 22 #[.slice (some ad) l.length cap,.int .i64 n,.int .i64 1,.string ⟨#[97,110,100]⟩] V fun e w'=>e=.returned (.bool false) ∧ V=w'):=fun V hV=>ref_isB V ad cap l n n 1 ⟨#[97,110,100]⟩ [97,110,100] (by kernel_rfl) false (HTL.out.fr hV) hn2 rfl his
      have HTF:Hid (T=.ok (x,l.drop n)):=by show _=_;rw [HTE2.out,his];rfl
      clear HTE2 his
      go_wp2_with fail
      refine (HI1.out _ HST.out.f).mono ?_
      rintro e w1 ⟨rfl,rfl⟩
      have HT:=Lib.hid ((R0.mk HST.out.res HST.out.f HST.out.bw).set5 (.int .i64 xo) (.string xs) (.int .i64 xn) (.slice xq xk xc) (.int .i64 xp))
      have HR2:=Lib.hid ((rep_set5' HREP.out b (fun h=>h.2.1 rfl) (.int .i64 xo) (.string xs) (.int .i64 xn) (.slice xq xk xc) (.int .i64 xp)).mono (E:=fun g=>w.heap.size ≤ g) (fun g _ h=>h.1))
      go_wp2_with fail
      refine bodyPost_ret (results_cell_tmp2 rfl _ _ b _ _ (0,0) _ rfl HT.out.res Tryz.underlying42 rfl (by kernel_rfl)) rfl ?_
      rw [HTF.out]
      exact PaDone.yes (cs:=[_,_,_,_,_]) rfl HR2.out hn2 HT.out.f
     | true =>
      have HI1:Hid (∀ V,Fr [] w V → Calls Tryz.prog 22 #[.slice (some ad) l.length cap,.int .i64 n,.int .i64 1,.string ⟨#[97,110,100]⟩] V fun e w'=>e=.returned (.bool true) ∧ V=w'):=fun V hV=>ref_isB V ad cap l n n 1 ⟨#[97,110,100]⟩ [97,110,100] (by kernel_rfl) true (HTL.out.fr hV) hn2 rfl his
      have hn3:n+1 < l.length:=next_lt HTL.out.ends HV.out (by rw [HDV.out] at his;rw [is_k his];decide)
      have hpl:Pol.place (l.drop n)=v.p:=by rw [HDV.out];rfl
      have hTF:T=Pol.andStep g nest x v.p (Pol.not_ g nest (l.drop (n+1))):=by rw [HTE2.out,if_pos his,List.tail_drop,hpl]
      have HC:Hid (∀ V,Fr [] w V → Calls Tryz.prog 96 #[.slice (some ad) l.length cap,.int .i64 ((n:Int)+1),.int .i64 nest] V (PaDone l V (Pol.not_ g nest (l.drop (n+1))))):=fun V hV=>by
       have:=HN.out g (by omega) V ad cap l (n+1) nest (HTL.out.fr hV) hn3 hn (fun p hp=>HFED.out p (by rw [hTF,hp];rfl))
       rwa [show ((n+1:Nat):Int)=(n:Int)+1 by omega] at this
      obtain ⟨r2,hr2⟩:∃ r2,Pol.not_ g nest (l.drop (n+1))=r2:=⟨_,rfl⟩
      rw [hr2] at HC hTF
      have HTF:=Lib.hid hTF
      clear HTE2 his hpl hTF hr2
      rcases r2 with ⟨p2,er2⟩ | ⟨x2,m2⟩
      all_goals
       go_wp2_with fail
       refine (HI1.out _ HST.out.f).mono ?_
       rintro e w1 ⟨rfl,rfl⟩
       clear y0 y1 y2 y3 y4 yf z0 z1 z2 z3 z4 zf
       go_wp2_with fail
       refine (HC.out _ HST.out.f).mono ?_
      ·rintro e V ⟨cs2,n4,u,rfl,⟨yo,ys,yn,yq,yk,yc,yp,rfl⟩,hu,rfl,her,hF⟩
       have HU:=Lib.hid hu
       have HST2:=Lib.hid (HST.out.fr hF)
       have hbV:bx < V.heap.size:=Nat.lt_of_lt_of_le hbx hF.size
       clear hu hF
       have yf:∀ i,V.frozen? ⟨bx,i,none⟩=false:=fun i=>Lib.frozen_of_heap HST2.out.box i
       have y0:V.cell? ⟨bx,0,none⟩=some (.int .i64 xo):=by rw [Lib.cell_of_heap HST2.out.box];rfl
       have y1:V.cell? ⟨bx,1,none⟩=some (.string xs):=by rw [Lib.cell_of_heap HST2.out.box];rfl
       have y2:V.cell? ⟨bx,2,none⟩=some (.int .i64 xn):=by rw [Lib.cell_of_heap HST2.out.box];rfl
       have y3:V.cell? ⟨bx,3,none⟩=some (.slice xq xk xc):=by rw [Lib.cell_of_heap HST2.out.box];rfl
       have y4:V.cell? ⟨bx,4,none⟩=some (.int .i64 xp):=by rw [Lib.cell_of_heap HST2.out.box];rfl
       obtain ⟨c0,c1,c2,c3⟩:=(HTL.out.fr HST2.out.f).cells HV.out
       have hbl:=World.block_lt_of_cell? V _ c0
       have HST3:=Lib.hid ((((HST2.out.set5 (.int .i64 7) (.string ⟨#[]⟩) (.int .i64 0) (.slice (some ⟨V.heap.size+1,0,none⟩) 2 2) (.int .i64 v.p)).fr ((Fr.refl [] _).alloc (.cells #[.int .i64 yo,.string ys,.int .i64 yn,.slice yq yk yc,.int .i64 yp] 42))).fr ((Fr.refl [] _).alloc (.cells #[.int .i64 xo,.string xs,.int .i64 xn,.slice xq xk xc,.int .i64 xp,.int .i64 yo,.string ys,.int .i64 yn,.slice yq yk yc,.int .i64 yp] 42))).fr (Fr.refl [] _).drew)
       go_wp2_with fail
       go_region
       go_wp2_with fail
       go_roundg 0
       case measure=>have:=HM.out;omega
       case rel=>exact ⟨n4,er2,_,rfl,rfl,⟨_,_,_,_,_,_,_,rfl⟩,HST3.out,Or.inr ⟨her,rfl,u,HU.out,HTF.out⟩⟩
      ·rintro e V ⟨cs2,n4,rfl,hrep2,hn5,rfl,hF⟩
       obtain ⟨yo,ys,yn,yq,yk,yc,yp,rfl⟩:=hrep2.form
       have hwr:=HST.out.f.size
       have HST2:=Lib.hid (HST.out.fr hF)
       have hbV:bx < V.heap.size:=Nat.lt_of_lt_of_le hbx hF.size
       have hwV:w.heap.size ≤ V.heap.size:=HST2.out.f.size
       have hr1:Rep V (DD w b bx) [.int .i64 xo,.string xs,.int .i64 xn,.slice xq xk xc,.int .i64 xp] x:=HREP.out.fr (bs:=[]) hF (fun y hy _=>by cases hy)
       have hr2:Rep V (DD w b bx) [.int .i64 yo,.string ys,.int .i64 yn,.slice yq yk yc,.int .i64 yp] x2:=hrep2.mono (E:=DD w b bx) (fun g _ h=>⟨Nat.le_trans hwr h,by omega,by omega⟩)
       have hfin:Fr [bx] V ((((((((V.setCell ⟨bx,0,none⟩ (.int .i64 7)).setCell ⟨bx,1,none⟩ (.string ⟨#[]⟩)).setCell ⟨bx,2,none⟩ (.int .i64 0)).setCell ⟨bx,3,none⟩ (.slice (some ⟨V.heap.size+1,0,none⟩) 2 2)).setCell ⟨bx,4,none⟩ (.int .i64 v.p)).alloc (.cells #[.int .i64 yo,.string ys,.int .i64 yn,.slice yq yk yc,.int .i64 yp] 42)).alloc (.cells #[.int .i64 xo,.string xs,.int .i64 xn,.slice xq xk xc,.int .i64 xp,.int .i64 yo,.string ys,.int .i64 yn,.slice yq yk yc,.int .i64 yp] 42)).drew):=(((fr_set5 bx _ _ _ _ _).alloc _).alloc _).drew
       have HREP2:=Lib.hid (rep_pair (F:=(((((((V.setCell ⟨bx,0,none⟩ (.int .i64 7)).setCell ⟨bx,1,none⟩ (.string ⟨#[]⟩)).setCell ⟨bx,2,none⟩ (.int .i64 0)).setCell ⟨bx,3,none⟩ (.slice (some ⟨V.heap.size+1,0,none⟩) 2 2)).setCell ⟨bx,4,none⟩ (.int .i64 v.p)).alloc (.cells #[.int .i64 yo,.string ys,.int .i64 yn,.slice yq yk yc,.int .i64 yp] 42)).alloc (.cells #[.int .i64 xo,.string xs,.int .i64 xn,.slice xq xk xc,.int .i64 xp,.int .i64 yo,.string ys,.int .i64 yn,.slice yq yk yc,.int .i64 yp] 42)).drew) (V.heap.size+1) 42 7 v.p (hr1.fr hfin (fun y hy _=>by simp at hy;subst hy;exact fun h=>h.2.2 rfl)) (hr2.fr hfin (fun y hy _=>by simp at hy;subst hy;exact fun h=>h.2.2 rfl)) (row_two V bx _ _ _ _ _ _ _) ⟨by omega,by omega,by omega⟩)
       clear hF hrep2 hr1 hr2 hfin
       have yf:∀ i,V.frozen? ⟨bx,i,none⟩=false:=fun i=>Lib.frozen_of_heap HST2.out.box i
       have y0:V.cell? ⟨bx,0,none⟩=some (.int .i64 xo):=by rw [Lib.cell_of_heap HST2.out.box];rfl
       have y1:V.cell? ⟨bx,1,none⟩=some (.string xs):=by rw [Lib.cell_of_heap HST2.out.box];rfl
       have y2:V.cell? ⟨bx,2,none⟩=some (.int .i64 xn):=by rw [Lib.cell_of_heap HST2.out.box];rfl
       have y3:V.cell? ⟨bx,3,none⟩=some (.slice xq xk xc):=by rw [Lib.cell_of_heap HST2.out.box];rfl
       have y4:V.cell? ⟨bx,4,none⟩=some (.int .i64 xp):=by rw [Lib.cell_of_heap HST2.out.box];rfl
       obtain ⟨c0,c1,c2,c3⟩:=(HTL.out.fr HST2.out.f).cells HV.out
       have hbl:=World.block_lt_of_cell? V _ c0
       have HST3:=Lib.hid ((((HST2.out.set5 (.int .i64 7) (.string ⟨#[]⟩) (.int .i64 0) (.slice (some ⟨V.heap.size+1,0,none⟩) 2 2) (.int .i64 v.p)).fr ((Fr.refl [] _).alloc (.cells #[.int .i64 yo,.string ys,.int .i64 yn,.slice yq yk yc,.int .i64 yp] 42))).fr ((Fr.refl [] _).alloc (.cells #[.int .i64 xo,.string xs,.int .i64 xn,.slice xq xk xc,.int .i64 xp,.int .i64 yo,.string ys,.int .i64 yn,.slice yq yk yc,.int .i64 yp] 42))).fr (Fr.refl [] _).drew)
       go_wp2_with fail
       go_region
       go_wp2_with fail
       cases g with
       | zero=>exact absurd (HTF.out.trans (by show Pol.andMore 0 nest _ _=_;rw [Pol.andMore])) (HFED.out _)
       | succ g =>
        go_roundg (g+1+1)
        case measure=>have:=HM.out;omega
        case rel=>exact ⟨n4,0,_,rfl,rfl,⟨_,_,_,_,_,_,_,rfl⟩,HST3.out,Or.inl ⟨rfl,_,g+1,rfl,by omega,hn5,HREP2.out,HTF.out⟩⟩
   ·have her2:(er == 0)=false:=beq_eq_false_iff_ne.2 her
    have HU:=Lib.hid hu
    have HTF:=Lib.hid hTE
    have HT:=Lib.hid ((R0.mk HST.out.res HST.out.f HST.out.bw).set5 (.int .i64 xo) (.string xs) (.int .i64 xn) (.slice xq xk xc) (.int .i64 xp))
    clear hu hTE HS hm
    go_wp2_with fail
    refine bodyPost_ret (results_cell_tmp2 rfl _ _ b _ _ (0,0) _ rfl HT.out.res Tryz.underlying42 rfl (by kernel_rfl)) rfl ?_
    rw [HTF.out]
    exact PaDone.err (cs:=[_,_,_,_,_]) rfl ⟨_,_,_,_,_,_,_,rfl⟩ HU.out her HT.out.f
end Go.Proofs.YtgklmpooonnmiaaGreatDoor
