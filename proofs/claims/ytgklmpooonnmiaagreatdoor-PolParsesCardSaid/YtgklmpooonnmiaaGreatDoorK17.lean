/-
  Lemmas and contracts that the proofs over this seat use (RefChain0, RefSigns, RefCmp, RefInP); no statement of the seat is claimed in this text, and nothing is assumed in it.
-/
import Derived.Test.YtgklmpooonnmiaaGreatDoorK16
import Derived.Deep.LoopGhost
import Derived.Test.YtgklmpooonnmiaaGreatDoorK13
set_option linter.unusedVariables false
set_option linter.unusedSimpArgs false
namespace Go.Proofs.YtgklmpooonnmiaaGreatDoor
open Go.RowKit
structure CS2 (w:World) (b bx:Nat) (cs:List Value) (W:World):Prop where
 res:W.heap[b]?=some (.cells z5 42 (0,0))
 box:W.heap[bx]?=some (.cells cs.toArray 42 (0,0))
 f:Fr [] w W
 bw:b=w.heap.size
 lt:b < bx
theorem CS2.fr {w:World} {b bx:Nat} {cs:List Value} {W W':World} (h:CS2 w b bx cs W) (hf:Fr [] W W'):CS2 w b bx cs W':=⟨hf.row h.res (by simp),hf.row h.box (by simp),h.f.trans0 hf,h.bw,h.lt⟩
theorem CS2.set5 {w:World} {b bx:Nat} {v0 v1 v2 v3 v4:Value} {W:World} (h:CS2 w b bx [v0,v1,v2,v3,v4] W) (u0 u1 u2 u3 u4:Value) :
  CS2 w b bx [u0,u1,u2,u3,u4] (((((W.setCell ⟨bx,0,none⟩ u0).setCell ⟨bx,1,none⟩ u1).setCell ⟨bx,2,none⟩ u2).setCell ⟨bx,3,none⟩ u3).setCell ⟨bx,4,none⟩ u4):=by
 have h1:=h.bw
 have h2:=h.lt
 have hb0:∀ {V:World} (i:Nat) (u:Value),Fr [] w V → Fr [] w (V.setCell ⟨bx,i,none⟩ u):=fun i u hV=>hV.setCell (p:=⟨bx,i,none⟩) (.inr (by show _ ≤ bx;omega)) u
 refine ⟨(fr_set5 bx _ _ _ _ _).row h.res (by simp;omega),heap_set_row (heap_set_row (heap_set_row (heap_set_row (heap_set_row h.box 0 u0) 1 u1) 2 u2) 3 u3) 4 u4,hb0 4 _ (hb0 3 _ (hb0 2 _ (hb0 1 _ (hb0 0 _ h.f)))),h1,h2⟩
theorem rep_pair {F:World} {D:Nat → Prop} {cs ds:List Value} {x y:Ex} (g t:Nat) (op p:Int) (h:Rep F D cs x) (k:Rep F D ds y) (hrow:F.heap[g]?=some (.cells (cs ++ ds).toArray t (0,0))) (hD:D g) :
  Rep F D [.int .i64 op,.string ⟨#[]⟩,.int .i64 0,.slice (some ⟨g,0,none⟩) 2 2,.int .i64 p] (.mk op Pol.none_ 0 [x,y] p) :=
 Rep.of_row op ⟨#[]⟩ 0 p [x,y] [cs,ds] g hD t 2 rfl (by simpa using hrow) (Nat.le_refl _) (by decide) (fun i z es hi hc=>by
  match i,hi,hc with
  | 0,hi,hc=>simp at hi hc;subst hi;subst hc;exact h
  | 1,hi,hc=>simp at hi hc;subst hi;subst hc;exact k
  | i+2,hi,_=>simp at hi)
abbrev DD (w:World) (b bx:Nat):Nat → Prop:=fun g=>w.heap.size ≤ g ∧ g ≠ b ∧ g ≠ bx
end Go.Proofs.YtgklmpooonnmiaaGreatDoor

namespace Go.Proofs.YtgklmpooonnmiaaGreatDoor
open Go.RowKit
def Pol.sg (t:TI):Int × Bool :=
 if t.k=1 then (if t.s.toList=[104,97,115] then (14,false) else (0,false))
 else if t.k=4 then (Pol.sign t.s.toList).getD (0,false) else (0,false)
set_option maxHeartbeats 2000000 in
set_option maxRecDepth 100000 in
theorem ref_signs4 (w:World) (s:ByteArray) (n p:Int):Calls Tryz.prog 107 #[.agg #[.int .i64 4,.string s,.int .i64 n,.int .i64 p]] w fun e w'=>e=.returned (.tuple #[.int .i64 ((Pol.sign s.toList).getD (0,false)).1,.bool ((Pol.sign s.toList).getD (0,false)).2]) ∧ Fr [] w w':=by
 by_cases h1:s.toList=[61]
 ·have e1:(s.toList == [61])=true:=beq_iff_eq.2 h1
  have HE:Hid (Pol.sign s.toList=some (9,false)):=by show _=_;unfold Pol.sign;rw [if_pos h1]
  clear h1
  rw [HE.out]
  go_enter Tryz.func107,Tryz.ntmps107
  go_wp2_with fail
  go_ret2
  exact ⟨rfl,(Fr.refl _ _).alloc _⟩
 have e1:(s.toList == [61])=false:=beq_eq_false_iff_ne.2 h1
 by_cases h2:s.toList=[33,61]
 ·have e2:(s.toList == [33,61])=true:=beq_iff_eq.2 h2
  have HE:Hid (Pol.sign s.toList=some (10,false)):=by show _=_;unfold Pol.sign;rw [if_neg h1,if_pos h2]
  clear h1 h2
  rw [HE.out]
  go_enter Tryz.func107,Tryz.ntmps107
  go_wp2_with fail
  go_ret2
  exact ⟨rfl,(Fr.refl _ _).alloc _⟩
 have e2:(s.toList == [33,61])=false:=beq_eq_false_iff_ne.2 h2
 by_cases h3:s.toList=[60]
 ·have e3:(s.toList == [60])=true:=beq_iff_eq.2 h3
  have HE:Hid (Pol.sign s.toList=some (11,false)):=by show _=_;unfold Pol.sign;rw [if_neg h1,if_neg h2,if_pos h3]
  clear h1 h2 h3
  rw [HE.out]
  go_enter Tryz.func107,Tryz.ntmps107
  go_wp2_with fail
  go_ret2
  exact ⟨rfl,(Fr.refl _ _).alloc _⟩
 have e3:(s.toList == [60])=false:=beq_eq_false_iff_ne.2 h3
 by_cases h4:s.toList=[60,61]
 ·have e4:(s.toList == [60,61])=true:=beq_iff_eq.2 h4
  have HE:Hid (Pol.sign s.toList=some (12,false)):=by show _=_;unfold Pol.sign;rw [if_neg h1,if_neg h2,if_neg h3,if_pos h4]
  clear h1 h2 h3 h4
  rw [HE.out]
  go_enter Tryz.func107,Tryz.ntmps107
  go_wp2_with fail
  go_ret2
  exact ⟨rfl,(Fr.refl _ _).alloc _⟩
 have e4:(s.toList == [60,61])=false:=beq_eq_false_iff_ne.2 h4
 by_cases h5:s.toList=[62]
 ·have e5:(s.toList == [62])=true:=beq_iff_eq.2 h5
  have HE:Hid (Pol.sign s.toList=some (11,true)):=by show _=_;unfold Pol.sign;rw [if_neg h1,if_neg h2,if_neg h3,if_neg h4,if_pos h5]
  clear h1 h2 h3 h4 h5
  rw [HE.out]
  go_enter Tryz.func107,Tryz.ntmps107
  go_wp2_with fail
  go_ret2
  exact ⟨rfl,(Fr.refl _ _).alloc _⟩
 have e5:(s.toList == [62])=false:=beq_eq_false_iff_ne.2 h5
 by_cases h6:s.toList=[62,61]
 ·have e6:(s.toList == [62,61])=true:=beq_iff_eq.2 h6
  have HE:Hid (Pol.sign s.toList=some (12,true)):=by show _=_;unfold Pol.sign;rw [if_neg h1,if_neg h2,if_neg h3,if_neg h4,if_neg h5,if_pos h6]
  clear h1 h2 h3 h4 h5 h6
  rw [HE.out]
  go_enter Tryz.func107,Tryz.ntmps107
  go_wp2_with fail
  go_ret2
  exact ⟨rfl,(Fr.refl _ _).alloc _⟩
 have e6:(s.toList == [62,61])=false:=beq_eq_false_iff_ne.2 h6
 have HE:Hid (Pol.sign s.toList=none):=by show _=_;unfold Pol.sign;rw [if_neg h1,if_neg h2,if_neg h3,if_neg h4,if_neg h5,if_neg h6]
 clear h1 h2 h3 h4 h5 h6
 rw [HE.out]
 go_enter Tryz.func107,Tryz.ntmps107
 go_wp2_with fail
 go_ret2
 exact ⟨rfl,(Fr.refl _ _).alloc _⟩
set_option maxHeartbeats 2000000 in
set_option maxRecDepth 100000 in
theorem ref_signs (w:World) (t:TI):Calls Tryz.prog 107 #[.agg #[.int .i64 t.k,.string t.s,.int .i64 t.n,.int .i64 t.p]] w fun e w'=>e=.returned (.tuple #[.int .i64 (Pol.sg t).1,.bool (Pol.sg t).2]) ∧ Fr [] w w':=by
 obtain ⟨k,s,n,p⟩:=t
 simp only []
 unfold Pol.sg
 simp only []
 by_cases k1:k=1
 ·subst k1
  rw [if_pos rfl]
  by_cases h1:s.toList=[104,97,115]
  ·have e1:(s.toList == [104,97,115])=true:=beq_iff_eq.2 h1
   rw [if_pos h1]
   clear h1
   go_enter Tryz.func107,Tryz.ntmps107
   go_wp2_with fail
   go_ret2
   exact ⟨rfl,(Fr.refl _ _).alloc _⟩
  ·have e1:(s.toList == [104,97,115])=false:=beq_eq_false_iff_ne.2 h1
   rw [if_neg h1]
   clear h1
   go_enter Tryz.func107,Tryz.ntmps107
   go_wp2_with fail
   go_ret2
   exact ⟨rfl,(Fr.refl _ _).alloc _⟩
 rw [if_neg k1]
 by_cases k4:k=4
 ·subst k4
  rw [if_pos rfl]
  exact ref_signs4 w s n p
 ·rw [if_neg k4]
  have q1:(k == 1)=false:=beq_eq_false_iff_ne.2 k1
  have q4:(k != 4)=true:=by rw [bne,beq_eq_false_iff_ne.2 k4];rfl
  clear k1 k4
  go_enter Tryz.func107,Tryz.ntmps107
  go_wp2_with fail
  go_ret2
  exact ⟨rfl,(Fr.refl _ _).alloc _⟩
end Go.Proofs.YtgklmpooonnmiaaGreatDoor

namespace Go.Proofs.YtgklmpooonnmiaaGreatDoor
open Go.RowKit
set_option maxHeartbeats 2000000 in
set_option maxRecDepth 100000 in
theorem rcmp_err (p er:Int) (w:World) (ad:Addr) (cap:Nat) (l:List TI) (i nest:Nat) (h:TL w ad cap l)
  (HC:Hid (∀ V,Fr [] w V → Calls Tryz.prog 106 #[.slice (some ad) l.length cap,.int .i64 i,.int .i64 nest] V (PaDone l V (.error (p,er))))) :
  Calls Tryz.prog 101 #[.slice (some ad) l.length cap,.int .i64 i,.int .i64 nest] w (PaDone l w (.error (p,er))):=by
 have HTL:=Lib.hid h
 have hb:l.length ≤ 1000000:=h.few
 go_enter Tryz.func101,Tryz.ntmps101
 go_wp2_with fail
 refine calls_fresh (fun W=>R0 w w.heap.size z5 W) (R0.start w) ?_
 intro W h1
 obtain ⟨b,hbb⟩:∃ b,w.heap.size=b:=⟨_,rfl⟩
 rw [hbb] at h1 ⊢
 have H:=Lib.hid h1
 have HB:=Lib.hid hbb
 have hbW:b < W.heap.size:=row_lt h1.res
 clear h1 hbb h
 refine (HC.out _ H.out.f).mono ?_
 rintro e V ⟨cs,n,u,rfl,⟨xo,xs,xn,xq,xk,xc,xp,rfl⟩,hu,rfl,her,hF⟩
 have H:=Lib.hid (H.out.fr hF)
 have HU:=Lib.hid hu
 have her2:(er != 0)=true:=by rw [bne,beq_eq_false_iff_ne.2 her];rfl
 have hbV:b < V.heap.size:=row_lt H.out.res
 clear hF HC hu
 have zf:∀ i,V.frozen? ⟨b,i,none⟩=false:=fun i=>Lib.frozen_of_heap H.out.res i
 have z0:V.cell? ⟨b,0,none⟩=some (.int .i64 0):=by rw [Lib.cell_of_heap H.out.res];rfl
 have z1:V.cell? ⟨b,1,none⟩=some (.string ⟨#[]⟩):=by rw [Lib.cell_of_heap H.out.res];rfl
 have z2:V.cell? ⟨b,2,none⟩=some (.int .i64 0):=by rw [Lib.cell_of_heap H.out.res];rfl
 have z3:V.cell? ⟨b,3,none⟩=some (.slice none 0 0):=by rw [Lib.cell_of_heap H.out.res];rfl
 have z4:V.cell? ⟨b,4,none⟩=some (.int .i64 0):=by rw [Lib.cell_of_heap H.out.res];rfl
 have HT:=Lib.hid ((H.out.set5 (.int .i64 xo) (.string xs) (.int .i64 xn) (.slice xq xk xc) (.int .i64 xp)).fr ((Fr.refl [] _).alloc (.cells #[.int .i64 xo,.string xs,.int .i64 xn,.slice xq xk xc,.int .i64 xp] 42)))
 go_wp2_with fail
 refine bodyPost_ret (results_cell_tmp2 rfl _ _ b _ _ (0,0) _ rfl HT.out.res Tryz.underlying42 rfl (by kernel_rfl)) rfl ?_
 exact PaDone.err (cs:=[_,_,_,_,_]) rfl ⟨_,_,_,_,_,_,_,rfl⟩ HU.out her HT.out.f
set_option maxHeartbeats 2000000 in
set_option maxRecDepth 100000 in
theorem rcmp_none (x:Ex) (m:List TI) (w:World) (ad:Addr) (cap:Nat) (l:List TI) (i nest:Nat) (h:TL w ad cap l)
  (HC:Hid (∀ V,Fr [] w V → Calls Tryz.prog 106 #[.slice (some ad) l.length cap,.int .i64 i,.int .i64 nest] V (PaDone l V (.ok (x,m)))))
  (f1:Pol.is m 1 [105,110]=false) (f2:∀ t r,m=t :: r → Pol.sg t=(0,false)) :
  Calls Tryz.prog 101 #[.slice (some ad) l.length cap,.int .i64 i,.int .i64 nest] w (PaDone l w (.ok (x,m))):=by
 have HTL:=Lib.hid h
 have hb:l.length ≤ 1000000:=h.few
 go_enter Tryz.func101,Tryz.ntmps101
 go_wp2_with fail
 refine calls_fresh (fun W=>R0 w w.heap.size z5 W) (R0.start w) ?_
 intro W h1
 obtain ⟨b,hbb⟩:∃ b,w.heap.size=b:=⟨_,rfl⟩
 rw [hbb] at h1 ⊢
 have H:=Lib.hid h1
 have HB:=Lib.hid hbb
 have hbW:b < W.heap.size:=row_lt h1.res
 clear h1 hbb h
 refine (HC.out _ H.out.f).mono ?_
 rintro e V ⟨cs,n,rfl,hrep,hn2,hdr,hF⟩
 obtain ⟨xo,xs,xn,xq,xk,xc,xp,rfl⟩:=hrep.form
 have hwV:w.heap.size ≤ V.heap.size:=Nat.le_trans H.out.f.size hF.size
 have hbV:b < V.heap.size:=Nat.lt_of_lt_of_le hbW hF.size
 have hst:CS2 w b V.heap.size [.int .i64 xo,.string xs,.int .i64 xn,.slice xq xk xc,.int .i64 xp] (V.alloc (.cells #[.int .i64 xo,.string xs,.int .i64 xn,.slice xq xk xc,.int .i64 xp] 42)) :=
  ⟨((H.out.fr hF).fr ((Fr.refl _ _).alloc _)).res,heap_alloc_last _ _,(H.out.f.trans0 hF).alloc _,H.out.bw,hbV⟩
 have hre:Rep (V.alloc (.cells #[.int .i64 xo,.string xs,.int .i64 xn,.slice xq xk xc,.int .i64 xp] 42)) (DD w b V.heap.size) [.int .i64 xo,.string xs,.int .i64 xn,.slice xq xk xc,.int .i64 xp] x :=
  (hrep.mono (E:=DD w b V.heap.size) (fun g hg h=>⟨Nat.le_trans H.out.f.size h,by omega,by omega⟩)).fr (bs:=[]) ((Fr.refl _ _).alloc _) (fun y hy _=>by cases hy)
 have HST:=Lib.hid hst
 have HRE:=Lib.hid hre
 obtain ⟨t,ht,hdt⟩:=at_of hn2
 have HT0:=Lib.hid ht
 obtain ⟨bx,hbx⟩:∃ bx,V.heap.size=bx:=⟨_,rfl⟩
 rw [hbx] at HST HRE
 clear hF hrep HC hst hre ht
 go_wp2_with fail
 refine calls_fresh (fun W=>CS2 w b bx [.int .i64 xo,.string xs,.int .i64 xn,.slice xq xk xc,.int .i64 xp] W ∧ Rep W (DD w b bx) [.int .i64 xo,.string xs,.int .i64 xn,.slice xq xk xc,.int .i64 xp] x) ⟨HST.out,HRE.out⟩ ?_
 rintro W1 ⟨hst,hre⟩
 have HST:=Lib.hid hst
 have HRE:=Lib.hid hre
 have hbxW:bx < W1.heap.size:=row_lt hst.box
 have hbb:=hst.lt
 clear hst hre
 have HI1:Hid (∀ V,Fr [] w V → Calls Tryz.prog 22 #[.slice (some ad) l.length cap,.int .i64 n,.int .i64 1,.string ⟨#[105,110]⟩] V fun e w'=>e=.returned (.bool false) ∧ V=w'):=fun V hV=>ref_isB V ad cap l n n 1 ⟨#[105,110]⟩ [105,110] (by kernel_rfl) false (HTL.out.fr hV) hn2 rfl (by rw [← hdr];exact f1)
 have HSG:Hid (∀ V,Calls Tryz.prog 107 #[.agg #[.int .i64 t.k,.string t.s,.int .i64 t.n,.int .i64 t.p]] V fun e w'=>e=.returned (.tuple #[.int .i64 0,.bool false]) ∧ Fr [] V w'):=fun V=>by
  have:=ref_signs V t
  rwa [f2 t _ (by rw [hdr];exact hdt)] at this
 have HDR:=Lib.hid hdr
 obtain ⟨c0,c1,c2,c3⟩:=(HTL.out.fr HST.out.f).cells HT0.out
 have hn0:(0:Int) ≤ (n:Int):=by omega
 have hn1:(n:Int) < (l.length:Int):=by omega
 clear f1 f2 hdr hdt
 refine (HI1.out _ HST.out.f).mono ?_
 rintro e w1 ⟨rfl,rfl⟩
 go_wp2_with fail
 refine (HSG.out _).mono ?_
 rintro e W2 ⟨rfl,hF⟩
 have HST:=Lib.hid (HST.out.fr hF)
 have HRE:=Lib.hid (HRE.out.fr (bs:=[]) hF (fun y hy _=>by cases hy))
 clear hF HI1 HSG c0 c1 c2 c3
 have yf:∀ i,W2.frozen? ⟨bx,i,none⟩=false:=fun i=>Lib.frozen_of_heap HST.out.box i
 have y0:W2.cell? ⟨bx,0,none⟩=some (.int .i64 xo):=by rw [Lib.cell_of_heap HST.out.box];rfl
 have y1:W2.cell? ⟨bx,1,none⟩=some (.string xs):=by rw [Lib.cell_of_heap HST.out.box];rfl
 have y2:W2.cell? ⟨bx,2,none⟩=some (.int .i64 xn):=by rw [Lib.cell_of_heap HST.out.box];rfl
 have y3:W2.cell? ⟨bx,3,none⟩=some (.slice xq xk xc):=by rw [Lib.cell_of_heap HST.out.box];rfl
 have y4:W2.cell? ⟨bx,4,none⟩=some (.int .i64 xp):=by rw [Lib.cell_of_heap HST.out.box];rfl
 have zf:∀ i,W2.frozen? ⟨b,i,none⟩=false:=fun i=>Lib.frozen_of_heap HST.out.res i
 have z0:W2.cell? ⟨b,0,none⟩=some (.int .i64 0):=by rw [Lib.cell_of_heap HST.out.res];rfl
 have z1:W2.cell? ⟨b,1,none⟩=some (.string ⟨#[]⟩):=by rw [Lib.cell_of_heap HST.out.res];rfl
 have z2:W2.cell? ⟨b,2,none⟩=some (.int .i64 0):=by rw [Lib.cell_of_heap HST.out.res];rfl
 have z3:W2.cell? ⟨b,3,none⟩=some (.slice none 0 0):=by rw [Lib.cell_of_heap HST.out.res];rfl
 have z4:W2.cell? ⟨b,4,none⟩=some (.int .i64 0):=by rw [Lib.cell_of_heap HST.out.res];rfl
 have HT:=Lib.hid ((R0.mk HST.out.res HST.out.f HST.out.bw).set5 (.int .i64 xo) (.string xs) (.int .i64 xn) (.slice xq xk xc) (.int .i64 xp))
 have HR2:=Lib.hid ((rep_set5' HRE.out b (fun h=>h.2.1 rfl) (.int .i64 xo) (.string xs) (.int .i64 xn) (.slice xq xk xc) (.int .i64 xp)).mono (E:=fun g=>w.heap.size ≤ g) (fun g _ h=>h.1))
 go_wp2_with fail
 refine bodyPost_ret (results_cell_tmp2 rfl _ _ b _ _ (0,0) _ rfl HT.out.res Tryz.underlying42 rfl (by kernel_rfl)) rfl ?_
 rw [HDR.out]
 exact PaDone.yes (cs:=[_,_,_,_,_]) rfl HR2.out hn2 HT.out.f
end Go.Proofs.YtgklmpooonnmiaaGreatDoor

namespace Go.Proofs.YtgklmpooonnmiaaGreatDoor
open Go.RowKit
def Pol.inK (g nest:Nat) (A:List Ex) (p:Int) (l:List TI):Pol.PR Ex :=
 match Pol.row g nest l with
 | .error e=>.error e
 | .ok (L, m) => match Pol.must m [93] with
   | .error e=>.error e
   | .ok (_,m)=>.ok (.mk 13 Pol.none_ 0 (A ++ L) p,m)
def Pol.inN (g nest:Nat) (A:List Ex) (p:Int) (m:List TI):Pol.PR Ex :=
 if Pol.is m 4 [93]=true then .ok (.mk 13 Pol.none_ 0 A p,m.tail)
 else if Pol.is m 4 [44]=true then Pol.inK g nest A p m.tail else .error (Pol.place m,120)
theorem is_not {l:List TI} {k k2:Int} {s s2:List UInt8} (h:Pol.is l k s=true) (hs:s ≠ s2):Pol.is l k2 s2=false:=by
 cases l with
 | nil=>rfl
 | cons t m =>
  simp only [Pol.is,Bool.and_eq_true,beq_iff_eq] at h
  simp only [Pol.is,h.2]
  rw [beq_eq_false_iff_ne.2 hs,Bool.and_false]
theorem in_step (g nest:Nat) (A:List Ex) (p:Int) (l:List TI) :
  Pol.inK (g+1) nest A p l=match Pol.operand g nest l with | .error e=>.error e | .ok (x,m)=>Pol.inN g nest (A ++ [x]) p m:=by
 unfold Pol.inK
 rw [Pol.row]
 rcases Pol.operand g nest l with e | ⟨x,m⟩
 ·rfl
 ·simp only []
  unfold Pol.inN
  cases h44:Pol.is m 4 [44] with
  | true =>
   rw [is_not h44 (by decide),if_pos rfl,if_neg (by decide),if_pos rfl]
   unfold Pol.inK
   rcases Pol.row g nest m.tail with e | ⟨L,m2⟩
   ·rfl
   ·simp only []
    rcases Pol.must m2 [93] with e | ⟨_,m3⟩
    ·rfl
    ·simp
  | false =>
   rw [if_neg (by decide)]
   simp only [Pol.must]
   cases h93:Pol.is m 4 [93] with
   | true=>rfl
   | false=>rfl
theorem in_zero (nest:Nat) (A:List Ex) (p:Int) (l:List TI):Pol.inK 0 nest A p l=.error (Pol.place l,0):=by unfold Pol.inK;rw [Pol.row]
def Pol.cmpK (f nest:Nat) (a:Ex) (m:List TI):Pol.PR Ex :=
 if Pol.is m 1 [105,110]=true then (match Pol.must m.tail [91] with
  | .error e=>.error e
  | .ok (_,r)=>Pol.inK f nest [a] (Pol.place m) r)
 else match m with
  | []=>.error (0,120)
  | t :: r => if (Pol.sg t).1 = 0 then .ok (a, t :: r) else match Pol.operand f nest r with
    | .error e=>.error e
    | .ok (b,q)=>.ok (.mk (Pol.sg t).1 Pol.none_ 0 (if (Pol.sg t).2=true then [b,a] else [a,b]) t.p,q)
theorem sign_ne {s:List UInt8} {o:Int} {b:Bool} (h:Pol.sign s=some (o,b)):o ≠ 0:=by
 unfold Pol.sign at h
 repeat' split at h
 all_goals first | (cases h;decide) | cases h
theorem cmp_from (f nest:Nat) (l:List TI):Pol.compare (f+1) nest l=match Pol.operand f nest l with | .error e=>.error e | .ok (a,m)=>Pol.cmpK f nest a m:=by
 rw [Pol.compare]
 rcases Pol.operand f nest l with e | ⟨a,m⟩
 ·rfl
 ·cases m with
  | nil=>rfl
  | cons t r =>
   simp only []
   unfold Pol.cmpK
   by_cases h4:t.k=4
   ·rw [if_pos h4]
    have hin:Pol.is (t :: r) 1 [105,110]=false:=by simp [Pol.is,h4]
    rw [hin,if_neg (by decide)]
    have hsg:Pol.sg t=(Pol.sign t.s.toList).getD (0,false):=by unfold Pol.sg;rw [if_neg (by omega),if_pos h4]
    simp only []
    rw [hsg]
    cases hs:Pol.sign t.s.toList with
    | none=>rfl
    | some ob =>
     obtain ⟨o,b⟩:=ob
     have:=sign_ne hs
     simp only [Option.getD_some]
     rw [if_neg this]
     rcases Pol.operand f nest r with e | ⟨y,q⟩ <;> rfl
   ·rw [if_neg h4]
    by_cases hh:Pol.is (t :: r) 1 [104,97,115]=true
    ·rw [if_pos hh,is_not hh (by decide),if_neg (by decide)]
     have h2:t.k=1 ∧ t.s.toList=[104,97,115]:=by simpa [Pol.is] using hh
     have hsg:Pol.sg t=(14,false):=by unfold Pol.sg;rw [if_pos h2.1,if_pos h2.2]
     simp only []
     rw [hsg]
     simp only []
     rw [if_neg (by decide)]
     rcases Pol.operand f nest r with e | ⟨y,q⟩ <;> rfl
    ·rw [if_neg hh]
     by_cases hi:Pol.is (t :: r) 1 [105,110]=true
     ·rw [if_pos hi,if_pos hi]
      show (match Pol.must r [91] with | .error e=>_ | .ok (_,m)=>_)=(match Pol.must r [91] with | .error e=>_ | .ok (_,r)=>_)
      rcases Pol.must r [91] with e | ⟨_,m⟩
      ·rfl
      ·simp only []
       unfold Pol.inK
       rfl
     ·rw [if_neg hi,if_neg hi]
      have hsg:(Pol.sg t).1=0:=by
       unfold Pol.sg
       split
       ·rename_i h1
        split
        ·rename_i h2
         exact absurd (by simp [Pol.is,h1,h2]) hh
        ·rfl
       ·first | rfl | rw [if_neg h4]
      simp only []
      rw [if_pos hsg]
end Go.Proofs.YtgklmpooonnmiaaGreatDoor
