/-
  Lemmas and contracts that the proofs over this seat use (RefChain2, RefAll); no statement of the seat is claimed in this text, and nothing is assumed in it.
-/
import Derived.Test.YtgklmpooonnmiaaGreatDoorK18
import Derived.Test.YtgklmpooonnmiaaGreatDoorK16
set_option linter.unusedVariables false
set_option linter.unusedSimpArgs false
namespace Go.Proofs.YtgklmpooonnmiaaGreatDoor
open Go.RowKit
def Pol.orFrom (f nest:Nat) (q:Pol.PR Ex):Pol.PR Ex :=
 match q with
 | .error e=>.error e
 | .ok (x,m)=>Pol.orMore f nest x m
def Pol.orStep (f nest:Nat) (e:Ex) (p:Int) (q:Pol.PR Ex):Pol.PR Ex :=
 match q with
 | .error e=>.error e
 | .ok (x,m)=>Pol.orMore f nest (.mk 8 Pol.none_ 0 [e,x] p) m
theorem or_from (f nest:Nat) (l:List TI):Pol.or_ (f+1) nest l=Pol.orFrom f nest (Pol.and_ f nest l):=by
 rw [Pol.or_]
 rcases Pol.and_ f nest l with e | ⟨x,m⟩ <;> rfl
theorem or_step (f nest:Nat) (e:Ex) (l:List TI):Pol.orMore (f+1) nest e l=if Pol.is l 1 [111,114]=true then Pol.orStep f nest e (Pol.place l) (Pol.and_ f nest l.tail) else .ok (e,l):=by
 rw [Pol.orMore]
 split
 ·rcases Pol.and_ f nest l.tail with e | ⟨x,m⟩ <;> rfl
 ·rfl
def Pol.orSt (f nest:Nat) (w:World) (b bx:Nat) (l:List TI) (T:Pol.PR Ex) (m n:Nat) (er:Int) (cs:List Value) (W:World):Prop :=
 (er=0 ∧ ∃ (x:Ex) (g:Nat),m=g+1 ∧ g ≤ f ∧ n < l.length ∧ Rep W (DD w b bx) cs x ∧ T=Pol.orMore g nest x (l.drop n)) ∨
 (er ≠ 0 ∧ m=0 ∧ ∃ u,l[n]?=some u ∧ T=.error (u.p,er))
set_option maxHeartbeats 4000000 in
set_option maxRecDepth 100000 in
theorem ref_or (f:Nat) (hN:∀ g,g ≤ f → PaReads 83 (Pol.and_ g)):PaReads 54 (Pol.or_ (f+1)):=by
 intro w ad cap l i nest h hi hn hfed
 rw [or_from] at hfed ⊢
 obtain ⟨T,hT⟩:∃ T,Pol.orFrom f nest (Pol.and_ f nest (l.drop i))=T:=⟨_,rfl⟩
 have HFED:Hid (Pol.Fed T):=by show Pol.Fed T;rw [← hT];exact hfed
 have HC:Hid (∀ V,Fr [] w V → Calls Tryz.prog 83 #[.slice (some ad) l.length cap,.int .i64 i,.int .i64 nest] V (PaDone l V (Pol.and_ f nest (l.drop i)))):=fun V hV=>hN f (Nat.le_refl _) V ad cap l i nest (h.fr hV) hi hn (fun p hp=>by rw [hp] at hfed;exact hfed p rfl)
 rw [hT]
 have HTL:=Lib.hid h
 have HN:=Lib.hid hN
 have hb:l.length ≤ 1000000:=h.few
 obtain ⟨r,hr⟩:∃ r,Pol.and_ f nest (l.drop i)=r:=⟨_,rfl⟩
 rw [hr] at HC hT
 clear h hN hfed hr
 go_enter Tryz.func54,Tryz.ntmps54
 go_wp2_with fail
 refine calls_fresh (fun W=>R0 w w.heap.size z5 W) (R0.start w) ?_
 intro W h1
 obtain ⟨b,hbb⟩:∃ b,w.heap.size=b:=⟨_,rfl⟩
 rw [hbb] at h1 ⊢
 have H:=Lib.hid h1
 have HB:=Lib.hid hbb
 have hbW:b < W.heap.size:=row_lt h1.res
 clear h1 hbb
 have KEY:∀ (V:World) (cs:List Value) (n:Nat) (er:Int),True:=fun _ _ _ _=>trivial
 refine (HC.out _ H.out.f).mono ?_
 rcases r with ⟨p,er⟩ | ⟨x,m⟩
 ·rintro e V ⟨cs,n,u,rfl,⟨xo,xs,xn,xq,xk,xc,xp,rfl⟩,hu,rfl,her,hF⟩
  have hbV:b < V.heap.size:=Nat.lt_of_lt_of_le hbW hF.size
  have hst:CS2 w b V.heap.size [.int .i64 xo,.string xs,.int .i64 xn,.slice xq xk xc,.int .i64 xp] (V.alloc (.cells #[.int .i64 xo,.string xs,.int .i64 xn,.slice xq xk xc,.int .i64 xp] 42)) :=
   ⟨((H.out.fr hF).fr ((Fr.refl _ _).alloc _)).res,heap_alloc_last _ _,(H.out.f.trans0 hF).alloc _,H.out.bw,hbV⟩
  have HST:=Lib.hid hst
  have HU:=Lib.hid hu
  have HTE:Hid (T=.error (u.p,er)):=hT.symm
  obtain ⟨bx,hbx⟩:∃ bx,V.heap.size=bx:=⟨_,rfl⟩
  clear hT hF HC hst hu
  go_wp2_with fail
  rw [hbx] at HST
  go_loopg [10,11] (0) (fun m s10 s11 W=>∃ (n:Nat) (er:Int) (cs:List Value),s10=.int .i64 n ∧ s11=.int .i64 er ∧ ExForm cs ∧ Hid (CS2 w b bx cs W) ∧ Hid (Pol.orSt f nest w b bx l T m n er cs W))
  case atStart=>exact ⟨n,er,_,rfl,rfl,⟨_,_,_,_,_,_,_,rfl⟩,HST.out,Or.inr ⟨her,rfl,u,HU.out,HTE.out⟩⟩
  case round =>
   clear HST
   obtain ⟨n,er,cs,rfl,rfl,⟨xo,xs,xn,xq,xk,xc,xp,rfl⟩,HST,HS⟩:=hrel
   have yf:∀ i,wr.frozen? ⟨bx,i,none⟩=false:=fun i=>Lib.frozen_of_heap HST.out.box i
   have y0:wr.cell? ⟨bx,0,none⟩=some (.int .i64 xo):=by rw [Lib.cell_of_heap HST.out.box];rfl
   have y1:wr.cell? ⟨bx,1,none⟩=some (.string xs):=by rw [Lib.cell_of_heap HST.out.box];rfl
   have y2:wr.cell? ⟨bx,2,none⟩=some (.int .i64 xn):=by rw [Lib.cell_of_heap HST.out.box];rfl
   have y3:wr.cell? ⟨bx,3,none⟩=some (.slice xq xk xc):=by rw [Lib.cell_of_heap HST.out.box];rfl
   have y4:wr.cell? ⟨bx,4,none⟩=some (.int .i64 xp):=by rw [Lib.cell_of_heap HST.out.box];rfl
   have zf:∀ i,wr.frozen? ⟨b,i,none⟩=false:=fun i=>Lib.frozen_of_heap HST.out.res i
   have z0:wr.cell? ⟨b,0,none⟩=some (.int .i64 0):=by rw [Lib.cell_of_heap HST.out.res];rfl
   have z1:wr.cell? ⟨b,1,none⟩=some (.string ⟨#[]⟩):=by rw [Lib.cell_of_heap HST.out.res];rfl
   have z2:wr.cell? ⟨b,2,none⟩=some (.int .i64 0):=by rw [Lib.cell_of_heap HST.out.res];rfl
   have z3:wr.cell? ⟨b,3,none⟩=some (.slice none 0 0):=by rw [Lib.cell_of_heap HST.out.res];rfl
   have z4:wr.cell? ⟨b,4,none⟩=some (.int .i64 0):=by rw [Lib.cell_of_heap HST.out.res];rfl
   have hbx:=row_lt HST.out.box
   have hbb:=HST.out.lt
   rcases HS.out with ⟨her,x,g,hm,hg,hn2,hrep,hTE⟩ | ⟨her,hm,u,hu,hTE⟩
   ·subst her
    have HREP:=Lib.hid hrep
    have HTE:=Lib.hid hTE
    have HM:=Lib.hid hm
    have hn0:(0:Int) ≤ (n:Int):=by omega
    have hn1:(n:Int) < (l.length:Int):=by omega
    obtain ⟨v,hv,hdv⟩:=at_of hn2
    have HV:=Lib.hid hv
    have HDV:=Lib.hid hdv
    clear hrep hTE hm HS hv hdv
    cases g with
    | zero=>exact absurd (HTE.out.trans (by rw [Pol.orMore])) (HFED.out _)
    | succ g =>
     have HTE2:Hid (T=if Pol.is (l.drop n) 1 [111,114]=true then Pol.orStep g nest x (Pol.place (l.drop n)) (Pol.and_ g nest (l.drop n).tail) else .ok (x,l.drop n)):=by show _=_;rw [HTE.out,or_step]
     clear HTE
     cases his:Pol.is (l.drop n) 1 [111,114] with
     | false =>
      have HI1:Hid (∀ V,Fr [] w V → Calls Tryz.prog 22 #[.slice (some ad) l.length cap,.int .i64 n,.int .i64 1,.string ⟨#[111,114]⟩] V fun e w'=>e=.returned (.bool false) ∧ V=w'):=fun V hV=>ref_isB V ad cap l n n 1 ⟨#[111,114]⟩ [111,114] (by kernel_rfl) false (HTL.out.fr hV) hn2 rfl his
      have HTF:Hid (T=.ok (x,l.drop n)):=by show _=_;rw [HTE2.out,his];rfl
      clear HTE2 his
      go_wp2_with fail
      refine (HI1.out _ HST.out.f).mono ?_
      rintro e w1 ⟨rfl,rfl⟩
      have HT:=Lib.hid ((R0.mk HST.out.res HST.out.f HST.out.bw).set5 (.int .i64 xo) (.string xs) (.int .i64 xn) (.slice xq xk xc) (.int .i64 xp))
      have HR2:=Lib.hid ((rep_set5' HREP.out b (fun h=>h.2.1 rfl) (.int .i64 xo) (.string xs) (.int .i64 xn) (.slice xq xk xc) (.int .i64 xp)).mono (E:=fun g=>w.heap.size ≤ g) (fun g _ h=>h.1))
      go_wp2_with fail
      refine bodyPost_ret (results_cell_tmp2 rfl _ _ b _ _ (0,0) _ rfl HT.out.res Tryz.underlying42 rfl (by kernel_rfl)) rfl ?_
      rw [HTF.out]
      exact PaDone.yes (cs:=[_,_,_,_,_]) rfl HR2.out hn2 HT.out.f
     | true =>
      have HI1:Hid (∀ V,Fr [] w V → Calls Tryz.prog 22 #[.slice (some ad) l.length cap,.int .i64 n,.int .i64 1,.string ⟨#[111,114]⟩] V fun e w'=>e=.returned (.bool true) ∧ V=w'):=fun V hV=>ref_isB V ad cap l n n 1 ⟨#[111,114]⟩ [111,114] (by kernel_rfl) true (HTL.out.fr hV) hn2 rfl his
      have hn3:n+1 < l.length:=next_lt HTL.out.ends HV.out (by rw [HDV.out] at his;rw [is_k his];decide)
      have hpl:Pol.place (l.drop n)=v.p:=by rw [HDV.out];rfl
      have hTF:T=Pol.orStep g nest x v.p (Pol.and_ g nest (l.drop (n+1))):=by rw [HTE2.out,if_pos his,List.tail_drop,hpl]
      have HC:Hid (∀ V,Fr [] w V → Calls Tryz.prog 83 #[.slice (some ad) l.length cap,.int .i64 ((n:Int)+1),.int .i64 nest] V (PaDone l V (Pol.and_ g nest (l.drop (n+1))))):=fun V hV=>by
       have:=HN.out g (by omega) V ad cap l (n+1) nest (HTL.out.fr hV) hn3 hn (fun p hp=>HFED.out p (by rw [hTF,hp];rfl))
       rwa [show ((n+1:Nat):Int)=(n:Int)+1 by omega] at this
      obtain ⟨r2,hr2⟩:∃ r2,Pol.and_ g nest (l.drop (n+1))=r2:=⟨_,rfl⟩
      rw [hr2] at HC hTF
      have HTF:=Lib.hid hTF
      clear HTE2 his hpl hTF hr2
      rcases r2 with ⟨p2,er2⟩ | ⟨x2,m2⟩
      all_goals
       go_wp2_with fail
       refine (HI1.out _ HST.out.f).mono ?_
       rintro e w1 ⟨rfl,rfl⟩
       clear y0 y1 y2 y3 y4 yf z0 z1 z2 z3 z4 zf
       go_wp2_with fail
       refine (HC.out _ HST.out.f).mono ?_
      ·rintro e V ⟨cs2,n4,u,rfl,⟨yo,ys,yn,yq,yk,yc,yp,rfl⟩,hu,rfl,her,hF⟩
       have HU:=Lib.hid hu
       have HST2:=Lib.hid (HST.out.fr hF)
       have hbV:bx < V.heap.size:=Nat.lt_of_lt_of_le hbx hF.size
       clear hu hF
       have yf:∀ i,V.frozen? ⟨bx,i,none⟩=false:=fun i=>Lib.frozen_of_heap HST2.out.box i
       have y0:V.cell? ⟨bx,0,none⟩=some (.int .i64 xo):=by rw [Lib.cell_of_heap HST2.out.box];rfl
       have y1:V.cell? ⟨bx,1,none⟩=some (.string xs):=by rw [Lib.cell_of_heap HST2.out.box];rfl
       have y2:V.cell? ⟨bx,2,none⟩=some (.int .i64 xn):=by rw [Lib.cell_of_heap HST2.out.box];rfl
       have y3:V.cell? ⟨bx,3,none⟩=some (.slice xq xk xc):=by rw [Lib.cell_of_heap HST2.out.box];rfl
       have y4:V.cell? ⟨bx,4,none⟩=some (.int .i64 xp):=by rw [Lib.cell_of_heap HST2.out.box];rfl
       obtain ⟨c0,c1,c2,c3⟩:=(HTL.out.fr HST2.out.f).cells HV.out
       have hbl:=World.block_lt_of_cell? V _ c0
       have HST3:=Lib.hid ((((HST2.out.set5 (.int .i64 8) (.string ⟨#[]⟩) (.int .i64 0) (.slice (some ⟨V.heap.size+1,0,none⟩) 2 2) (.int .i64 v.p)).fr ((Fr.refl [] _).alloc (.cells #[.int .i64 yo,.string ys,.int .i64 yn,.slice yq yk yc,.int .i64 yp] 42))).fr ((Fr.refl [] _).alloc (.cells #[.int .i64 xo,.string xs,.int .i64 xn,.slice xq xk xc,.int .i64 xp,.int .i64 yo,.string ys,.int .i64 yn,.slice yq yk yc,.int .i64 yp] 42))).fr (Fr.refl [] _).drew)
       go_wp2_with fail
       go_region
       go_wp2_with fail
       go_roundg 0
       case measure=>have:=HM.out;omega
       case rel=>exact ⟨n4,er2,_,rfl,rfl,⟨_,_,_,_,_,_,_,rfl⟩,HST3.out,Or.inr ⟨her,rfl,u,HU.out,HTF.out⟩⟩
      ·rintro e V ⟨cs2,n4,rfl,hrep2,hn5,rfl,hF⟩
       obtain ⟨yo,ys,yn,yq,yk,yc,yp,rfl⟩:=hrep2.form
       have hwr:=HST.out.f.size
       have HST2:=Lib.hid (HST.out.fr hF)
       have hbV:bx < V.heap.size:=Nat.lt_of_lt_of_le hbx hF.size
       have hwV:w.heap.size ≤ V.heap.size:=HST2.out.f.size
       have hr1:Rep V (DD w b bx) [.int .i64 xo,.string xs,.int .i64 xn,.slice xq xk xc,.int .i64 xp] x:=HREP.out.fr (bs:=[]) hF (fun y hy _=>by cases hy)
       have hr2:Rep V (DD w b bx) [.int .i64 yo,.string ys,.int .i64 yn,.slice yq yk yc,.int .i64 yp] x2:=hrep2.mono (E:=DD w b bx) (fun g _ h=>⟨Nat.le_trans hwr h,by omega,by omega⟩)
       have hfin:Fr [bx] V ((((((((V.setCell ⟨bx,0,none⟩ (.int .i64 8)).setCell ⟨bx,1,none⟩ (.string ⟨#[]⟩)).setCell ⟨bx,2,none⟩ (.int .i64 0)).setCell ⟨bx,3,none⟩ (.slice (some ⟨V.heap.size+1,0,none⟩) 2 2)).setCell ⟨bx,4,none⟩ (.int .i64 v.p)).alloc (.cells #[.int .i64 yo,.string ys,.int .i64 yn,.slice yq yk yc,.int .i64 yp] 42)).alloc (.cells #[.int .i64 xo,.string xs,.int .i64 xn,.slice xq xk xc,.int .i64 xp,.int .i64 yo,.string ys,.int .i64 yn,.slice yq yk yc,.int .i64 yp] 42)).drew):=(((fr_set5 bx _ _ _ _ _).alloc _).alloc _).drew
       have HREP2:=Lib.hid (rep_pair (F:=(((((((V.setCell ⟨bx,0,none⟩ (.int .i64 8)).setCell ⟨bx,1,none⟩ (.string ⟨#[]⟩)).setCell ⟨bx,2,none⟩ (.int .i64 0)).setCell ⟨bx,3,none⟩ (.slice (some ⟨V.heap.size+1,0,none⟩) 2 2)).setCell ⟨bx,4,none⟩ (.int .i64 v.p)).alloc (.cells #[.int .i64 yo,.string ys,.int .i64 yn,.slice yq yk yc,.int .i64 yp] 42)).alloc (.cells #[.int .i64 xo,.string xs,.int .i64 xn,.slice xq xk xc,.int .i64 xp,.int .i64 yo,.string ys,.int .i64 yn,.slice yq yk yc,.int .i64 yp] 42)).drew) (V.heap.size+1) 42 8 v.p (hr1.fr hfin (fun y hy _=>by simp at hy;subst hy;exact fun h=>h.2.2 rfl)) (hr2.fr hfin (fun y hy _=>by simp at hy;subst hy;exact fun h=>h.2.2 rfl)) (row_two V bx _ _ _ _ _ _ _) ⟨by omega,by omega,by omega⟩)
       clear hF hrep2 hr1 hr2 hfin
       have yf:∀ i,V.frozen? ⟨bx,i,none⟩=false:=fun i=>Lib.frozen_of_heap HST2.out.box i
       have y0:V.cell? ⟨bx,0,none⟩=some (.int .i64 xo):=by rw [Lib.cell_of_heap HST2.out.box];rfl
       have y1:V.cell? ⟨bx,1,none⟩=some (.string xs):=by rw [Lib.cell_of_heap HST2.out.box];rfl
       have y2:V.cell? ⟨bx,2,none⟩=some (.int .i64 xn):=by rw [Lib.cell_of_heap HST2.out.box];rfl
       have y3:V.cell? ⟨bx,3,none⟩=some (.slice xq xk xc):=by rw [Lib.cell_of_heap HST2.out.box];rfl
       have y4:V.cell? ⟨bx,4,none⟩=some (.int .i64 xp):=by rw [Lib.cell_of_heap HST2.out.box];rfl
       obtain ⟨c0,c1,c2,c3⟩:=(HTL.out.fr HST2.out.f).cells HV.out
       have hbl:=World.block_lt_of_cell? V _ c0
       have HST3:=Lib.hid ((((HST2.out.set5 (.int .i64 8) (.string ⟨#[]⟩) (.int .i64 0) (.slice (some ⟨V.heap.size+1,0,none⟩) 2 2) (.int .i64 v.p)).fr ((Fr.refl [] _).alloc (.cells #[.int .i64 yo,.string ys,.int .i64 yn,.slice yq yk yc,.int .i64 yp] 42))).fr ((Fr.refl [] _).alloc (.cells #[.int .i64 xo,.string xs,.int .i64 xn,.slice xq xk xc,.int .i64 xp,.int .i64 yo,.string ys,.int .i64 yn,.slice yq yk yc,.int .i64 yp] 42))).fr (Fr.refl [] _).drew)
       go_wp2_with fail
       go_region
       go_wp2_with fail
       cases g with
       | zero=>exact absurd (HTF.out.trans (by show Pol.orMore 0 nest _ _=_;rw [Pol.orMore])) (HFED.out _)
       | succ g =>
        go_roundg (g+1+1)
        case measure=>have:=HM.out;omega
        case rel=>exact ⟨n4,0,_,rfl,rfl,⟨_,_,_,_,_,_,_,rfl⟩,HST3.out,Or.inl ⟨rfl,_,g+1,rfl,by omega,hn5,HREP2.out,HTF.out⟩⟩
   ·have her2:(er == 0)=false:=beq_eq_false_iff_ne.2 her
    have HU:=Lib.hid hu
    have HTF:=Lib.hid hTE
    have HT:=Lib.hid ((R0.mk HST.out.res HST.out.f HST.out.bw).set5 (.int .i64 xo) (.string xs) (.int .i64 xn) (.slice xq xk xc) (.int .i64 xp))
    clear hu hTE HS hm
    go_wp2_with fail
    refine bodyPost_ret (results_cell_tmp2 rfl _ _ b _ _ (0,0) _ rfl HT.out.res Tryz.underlying42 rfl (by kernel_rfl)) rfl ?_
    rw [HTF.out]
    exact PaDone.err (cs:=[_,_,_,_,_]) rfl ⟨_,_,_,_,_,_,_,rfl⟩ HU.out her HT.out.f
 ·rintro e V ⟨cs,n,rfl,hrep,hn2,rfl,hF⟩
  obtain ⟨xo,xs,xn,xq,xk,xc,xp,rfl⟩:=hrep.form
  have HTE:Hid (T=Pol.orMore f nest x (l.drop n)):=hT.symm
  have hwV:w.heap.size ≤ V.heap.size:=Nat.le_trans H.out.f.size hF.size
  have hbV:b < V.heap.size:=Nat.lt_of_lt_of_le hbW hF.size
  have hst:CS2 w b V.heap.size [.int .i64 xo,.string xs,.int .i64 xn,.slice xq xk xc,.int .i64 xp] (V.alloc (.cells #[.int .i64 xo,.string xs,.int .i64 xn,.slice xq xk xc,.int .i64 xp] 42)) :=
   ⟨((H.out.fr hF).fr ((Fr.refl _ _).alloc _)).res,heap_alloc_last _ _,(H.out.f.trans0 hF).alloc _,H.out.bw,hbV⟩
  have hre:Rep (V.alloc (.cells #[.int .i64 xo,.string xs,.int .i64 xn,.slice xq xk xc,.int .i64 xp] 42)) (DD w b V.heap.size) [.int .i64 xo,.string xs,.int .i64 xn,.slice xq xk xc,.int .i64 xp] x :=
   (hrep.mono (E:=DD w b V.heap.size) (fun g hg h=>⟨Nat.le_trans H.out.f.size h,by omega,by omega⟩)).fr (bs:=[]) ((Fr.refl _ _).alloc _) (fun y hy _=>by cases hy)
  have HST:=Lib.hid hst
  have HRE:=Lib.hid hre
  obtain ⟨bx,hbx⟩:∃ bx,V.heap.size=bx:=⟨_,rfl⟩
  clear hT hF hrep HC hst hre
  go_wp2_with fail
  rw [hbx] at HST HRE
  go_loopg [10,11] (f+1) (fun m s10 s11 W=>∃ (n:Nat) (er:Int) (cs:List Value),s10=.int .i64 n ∧ s11=.int .i64 er ∧ ExForm cs ∧ Hid (CS2 w b bx cs W) ∧ Hid (Pol.orSt f nest w b bx l T m n er cs W))
  case atStart=>exact ⟨n,0,_,rfl,rfl,⟨_,_,_,_,_,_,_,rfl⟩,HST.out,Or.inl ⟨rfl,x,f,rfl,Nat.le_refl _,hn2,HRE.out,HTE.out⟩⟩
  case round =>
   clear HST
   obtain ⟨n,er,cs,rfl,rfl,⟨xo,xs,xn,xq,xk,xc,xp,rfl⟩,HST,HS⟩:=hrel
   have yf:∀ i,wr.frozen? ⟨bx,i,none⟩=false:=fun i=>Lib.frozen_of_heap HST.out.box i
   have y0:wr.cell? ⟨bx,0,none⟩=some (.int .i64 xo):=by rw [Lib.cell_of_heap HST.out.box];rfl
   have y1:wr.cell? ⟨bx,1,none⟩=some (.string xs):=by rw [Lib.cell_of_heap HST.out.box];rfl
   have y2:wr.cell? ⟨bx,2,none⟩=some (.int .i64 xn):=by rw [Lib.cell_of_heap HST.out.box];rfl
   have y3:wr.cell? ⟨bx,3,none⟩=some (.slice xq xk xc):=by rw [Lib.cell_of_heap HST.out.box];rfl
   have y4:wr.cell? ⟨bx,4,none⟩=some (.int .i64 xp):=by rw [Lib.cell_of_heap HST.out.box];rfl
   have zf:∀ i,wr.frozen? ⟨b,i,none⟩=false:=fun i=>Lib.frozen_of_heap HST.out.res i
   have z0:wr.cell? ⟨b,0,none⟩=some (.int .i64 0):=by rw [Lib.cell_of_heap HST.out.res];rfl
   have z1:wr.cell? ⟨b,1,none⟩=some (.string ⟨#[]⟩):=by rw [Lib.cell_of_heap HST.out.res];rfl
   have z2:wr.cell? ⟨b,2,none⟩=some (.int .i64 0):=by rw [Lib.cell_of_heap HST.out.res];rfl
   have z3:wr.cell? ⟨b,3,none⟩=some (.slice none 0 0):=by rw [Lib.cell_of_heap HST.out.res];rfl
   have z4:wr.cell? ⟨b,4,none⟩=some (.int .i64 0):=by rw [Lib.cell_of_heap HST.out.res];rfl
   have hbx:=row_lt HST.out.box
   have hbb:=HST.out.lt
   rcases HS.out with ⟨her,x,g,hm,hg,hn2,hrep,hTE⟩ | ⟨her,hm,u,hu,hTE⟩
   ·subst her
    have HREP:=Lib.hid hrep
    have HTE:=Lib.hid hTE
    have HM:=Lib.hid hm
    have hn0:(0:Int) ≤ (n:Int):=by omega
    have hn1:(n:Int) < (l.length:Int):=by omega
    obtain ⟨v,hv,hdv⟩:=at_of hn2
    have HV:=Lib.hid hv
    have HDV:=Lib.hid hdv
    clear hrep hTE hm HS hv hdv
    cases g with
    | zero=>exact absurd (HTE.out.trans (by rw [Pol.orMore])) (HFED.out _)
    | succ g =>
     have HTE2:Hid (T=if Pol.is (l.drop n) 1 [111,114]=true then Pol.orStep g nest x (Pol.place (l.drop n)) (Pol.and_ g nest (l.drop n).tail) else .ok (x,l.drop n)):=by show _=_;rw [HTE.out,or_step]
     clear HTE
     cases his:Pol.is (l.drop n) 1 [111,114] with
     | false =>
      have HI1:Hid (∀ V,Fr [] w V → Calls Tryz.prog 22 #[.slice (some ad) l.length cap,.int .i64 n,.int .i64 1,.string ⟨#[111,114]⟩] V fun e w'=>e=.returned (.bool false) ∧ V=w'):=fun V hV=>ref_isB V ad cap l n n 1 ⟨#[111,114]⟩ [111,114] (by kernel_rfl) false (HTL.out.fr hV) hn2 rfl his
      have HTF:Hid (T=.ok (x,l.drop n)):=by show _=_;rw [HTE2.out,his];rfl
      clear HTE2 his
      go_wp2_with fail
      refine (HI1.out _ HST.out.f).mono ?_
      rintro e w1 ⟨rfl,rfl⟩
      have HT:=Lib.hid ((R0.mk HST.out.res HST.out.f HST.out.bw).set5 (.int .i64 xo) (.string xs) (.int .i64 xn) (.slice xq xk xc) (.int .i64 xp))
      have HR2:=Lib.hid ((rep_set5' HREP.out b (fun h=>h.2.1 rfl) (.int .i64 xo) (.string xs) (.int .i64 xn) (.slice xq xk xc) (.int .i64 xp)).mono (E:=fun g=>w.heap.size ≤ g) (fun g _ h=>h.1))
      go_wp2_with fail
      refine bodyPost_ret (results_cell_tmp2 rfl _ _ b _ _ (0,0) _ rfl HT.out.res Tryz.underlying42 rfl (by kernel_rfl)) rfl ?_
      rw [HTF.out]
      exact PaDone.yes (cs:=[_,_,_,_,_]) rfl HR2.out hn2 HT.out.f
     | true =>
      have HI1:Hid (∀ V,Fr [] w V → Calls Tryz.prog 22 #[.slice (some ad) l.length cap,.int .i64 n,.int .i64 1,.string ⟨#[111,114]⟩] V fun e w'=>e=.returned (.bool true) ∧ V=w'):=fun V hV=>ref_isB V ad cap l n n 1 ⟨#[111,114]⟩ [111,114] (by kernel_rfl) true (HTL.out.fr hV) hn2 rfl his
      have hn3:n+1 < l.length:=next_lt HTL.out.ends HV.out (by rw [HDV.out] at his;rw [is_k his];decide)
      have hpl:Pol.place (l.drop n)=v.p:=by rw [HDV.out];rfl
      have hTF:T=Pol.orStep g nest x v.p (Pol.and_ g nest (l.drop (n+1))):=by rw [HTE2.out,if_pos his,List.tail_drop,hpl]
      have HC:Hid (∀ V,Fr [] w V → Calls Tryz.prog 83 #[.slice (some ad) l.length cap,.int .i64 ((n:Int)+1),.int .i64 nest] V (PaDone l V (Pol.and_ g nest (l.drop (n+1))))):=fun V hV=>by
       have:=HN.out g (by omega) V ad cap l (n+1) nest (HTL.out.fr hV) hn3 hn (fun p hp=>HFED.out p (by rw [hTF,hp];rfl))
       rwa [show ((n+1:Nat):Int)=(n:Int)+1 by omega] at this
      obtain ⟨r2,hr2⟩:∃ r2,Pol.and_ g nest (l.drop (n+1))=r2:=⟨_,rfl⟩
      rw [hr2] at HC hTF
      have HTF:=Lib.hid hTF
      clear HTE2 his hpl hTF hr2
      rcases r2 with ⟨p2,er2⟩ | ⟨x2,m2⟩
      all_goals
       go_wp2_with fail
       refine (HI1.out _ HST.out.f).mono ?_
       rintro e w1 ⟨rfl,rfl⟩
       clear y0 y1 y2 y3 y4 yf z0 z1 z2 z3 z4 zf
       go_wp2_with fail
       refine (HC.out _ HST.out.f).mono ?_
      ·rintro e V ⟨cs2,n4,u,rfl,⟨yo,ys,yn,yq,yk,yc,yp,rfl⟩,hu,rfl,her,hF⟩
       have HU:=Lib.hid hu
       have HST2:=Lib.hid (HST.out.fr hF)
       have hbV:bx < V.heap.size:=Nat.lt_of_lt_of_le hbx hF.size
       clear hu hF
       have yf:∀ i,V.frozen? ⟨bx,i,none⟩=false:=fun i=>Lib.frozen_of_heap HST2.out.box i
       have y0:V.cell? ⟨bx,0,none⟩=some (.int .i64 xo):=by rw [Lib.cell_of_heap HST2.out.box];rfl
       have y1:V.cell? ⟨bx,1,none⟩=some (.string xs):=by rw [Lib.cell_of_heap HST2.out.box];rfl
       have y2:V.cell? ⟨bx,2,none⟩=some (.int .i64 xn):=by rw [Lib.cell_of_heap HST2.out.box];rfl
       have y3:V.cell? ⟨bx,3,none⟩=some (.slice xq xk xc):=by rw [Lib.cell_of_heap HST2.out.box];rfl
       have y4:V.cell? ⟨bx,4,none⟩=some (.int .i64 xp):=by rw [Lib.cell_of_heap HST2.out.box];rfl
       obtain ⟨c0,c1,c2,c3⟩:=(HTL.out.fr HST2.out.f).cells HV.out
       have hbl:=World.block_lt_of_cell? V _ c0
       have HST3:=Lib.hid ((((HST2.out.set5 (.int .i64 8) (.string ⟨#[]⟩) (.int .i64 0) (.slice (some ⟨V.heap.size+1,0,none⟩) 2 2) (.int .i64 v.p)).fr ((Fr.refl [] _).alloc (.cells #[.int .i64 yo,.string ys,.int .i64 yn,.slice yq yk yc,.int .i64 yp] 42))).fr ((Fr.refl [] _).alloc (.cells #[.int .i64 xo,.string xs,.int .i64 xn,.slice xq xk xc,.int .i64 xp,.int .i64 yo,.string ys,.int .i64 yn,.slice yq yk yc,.int .i64 yp] 42))).fr (Fr.refl [] _).drew)
       go_wp2_with fail
       go_region
       go_wp2_with fail
       go_roundg 0
       case measure=>have:=HM.out;omega
       case rel=>exact ⟨n4,er2,_,rfl,rfl,⟨_,_,_,_,_,_,_,rfl⟩,HST3.out,Or.inr ⟨her,rfl,u,HU.out,HTF.out⟩⟩
      ·rintro e V ⟨cs2,n4,rfl,hrep2,hn5,rfl,hF⟩
       obtain ⟨yo,ys,yn,yq,yk,yc,yp,rfl⟩:=hrep2.form
       have hwr:=HST.out.f.size
       have HST2:=Lib.hid (HST.out.fr hF)
       have hbV:bx < V.heap.size:=Nat.lt_of_lt_of_le hbx hF.size
       have hwV:w.heap.size ≤ V.heap.size:=HST2.out.f.size
       have hr1:Rep V (DD w b bx) [.int .i64 xo,.string xs,.int .i64 xn,.slice xq xk xc,.int .i64 xp] x:=HREP.out.fr (bs:=[]) hF (fun y hy _=>by cases hy)
       have hr2:Rep V (DD w b bx) [.int .i64 yo,.string ys,.int .i64 yn,.slice yq yk yc,.int .i64 yp] x2:=hrep2.mono (E:=DD w b bx) (fun g _ h=>⟨Nat.le_trans hwr h,by omega,by omega⟩)
       have hfin:Fr [bx] V ((((((((V.setCell ⟨bx,0,none⟩ (.int .i64 8)).setCell ⟨bx,1,none⟩ (.string ⟨#[]⟩)).setCell ⟨bx,2,none⟩ (.int .i64 0)).setCell ⟨bx,3,none⟩ (.slice (some ⟨V.heap.size+1,0,none⟩) 2 2)).setCell ⟨bx,4,none⟩ (.int .i64 v.p)).alloc (.cells #[.int .i64 yo,.string ys,.int .i64 yn,.slice yq yk yc,.int .i64 yp] 42)).alloc (.cells #[.int .i64 xo,.string xs,.int .i64 xn,.slice xq xk xc,.int .i64 xp,.int .i64 yo,.string ys,.int .i64 yn,.slice yq yk yc,.int .i64 yp] 42)).drew):=(((fr_set5 bx _ _ _ _ _).alloc _).alloc _).drew
       have HREP2:=Lib.hid (rep_pair (F:=(((((((V.setCell ⟨bx,0,none⟩ (.int .i64 8)).setCell ⟨bx,1,none⟩ (.string ⟨#[]⟩)).setCell ⟨bx,2,none⟩ (.int .i64 0)).setCell ⟨bx,3,none⟩ (.slice (some ⟨V.heap.size+1,0,none⟩) 2 2)).setCell ⟨bx,4,none⟩ (.int .i64 v.p)).alloc (.cells #[.int .i64 yo,.string ys,.int .i64 yn,.slice yq yk yc,.int .i64 yp] 42)).alloc (.cells #[.int .i64 xo,.string xs,.int .i64 xn,.slice xq xk xc,.int .i64 xp,.int .i64 yo,.string ys,.int .i64 yn,.slice yq yk yc,.int .i64 yp] 42)).drew) (V.heap.size+1) 42 8 v.p (hr1.fr hfin (fun y hy _=>by simp at hy;subst hy;exact fun h=>h.2.2 rfl)) (hr2.fr hfin (fun y hy _=>by simp at hy;subst hy;exact fun h=>h.2.2 rfl)) (row_two V bx _ _ _ _ _ _ _) ⟨by omega,by omega,by omega⟩)
       clear hF hrep2 hr1 hr2 hfin
       have yf:∀ i,V.frozen? ⟨bx,i,none⟩=false:=fun i=>Lib.frozen_of_heap HST2.out.box i
       have y0:V.cell? ⟨bx,0,none⟩=some (.int .i64 xo):=by rw [Lib.cell_of_heap HST2.out.box];rfl
       have y1:V.cell? ⟨bx,1,none⟩=some (.string xs):=by rw [Lib.cell_of_heap HST2.out.box];rfl
       have y2:V.cell? ⟨bx,2,none⟩=some (.int .i64 xn):=by rw [Lib.cell_of_heap HST2.out.box];rfl
       have y3:V.cell? ⟨bx,3,none⟩=some (.slice xq xk xc):=by rw [Lib.cell_of_heap HST2.out.box];rfl
       have y4:V.cell? ⟨bx,4,none⟩=some (.int .i64 xp):=by rw [Lib.cell_of_heap HST2.out.box];rfl
       obtain ⟨c0,c1,c2,c3⟩:=(HTL.out.fr HST2.out.f).cells HV.out
       have hbl:=World.block_lt_of_cell? V _ c0
       have HST3:=Lib.hid ((((HST2.out.set5 (.int .i64 8) (.string ⟨#[]⟩) (.int .i64 0) (.slice (some ⟨V.heap.size+1,0,none⟩) 2 2) (.int .i64 v.p)).fr ((Fr.refl [] _).alloc (.cells #[.int .i64 yo,.string ys,.int .i64 yn,.slice yq yk yc,.int .i64 yp] 42))).fr ((Fr.refl [] _).alloc (.cells #[.int .i64 xo,.string xs,.int .i64 xn,.slice xq xk xc,.int .i64 xp,.int .i64 yo,.string ys,.int .i64 yn,.slice yq yk yc,.int .i64 yp] 42))).fr (Fr.refl [] _).drew)
       go_wp2_with fail
       go_region
       go_wp2_with fail
       cases g with
       | zero=>exact absurd (HTF.out.trans (by show Pol.orMore 0 nest _ _=_;rw [Pol.orMore])) (HFED.out _)
       | succ g =>
        go_roundg (g+1+1)
        case measure=>have:=HM.out;omega
        case rel=>exact ⟨n4,0,_,rfl,rfl,⟨_,_,_,_,_,_,_,rfl⟩,HST3.out,Or.inl ⟨rfl,_,g+1,rfl,by omega,hn5,HREP2.out,HTF.out⟩⟩
   ·have her2:(er == 0)=false:=beq_eq_false_iff_ne.2 her
    have HU:=Lib.hid hu
    have HTF:=Lib.hid hTE
    have HT:=Lib.hid ((R0.mk HST.out.res HST.out.f HST.out.bw).set5 (.int .i64 xo) (.string xs) (.int .i64 xn) (.slice xq xk xc) (.int .i64 xp))
    clear hu hTE HS hm
    go_wp2_with fail
    refine bodyPost_ret (results_cell_tmp2 rfl _ _ b _ _ (0,0) _ rfl HT.out.res Tryz.underlying42 rfl (by kernel_rfl)) rfl ?_
    rw [HTF.out]
    exact PaDone.err (cs:=[_,_,_,_,_]) rfl ⟨_,_,_,_,_,_,_,rfl⟩ HU.out her HT.out.f
end Go.Proofs.YtgklmpooonnmiaaGreatDoor

namespace Go.Proofs.YtgklmpooonnmiaaGreatDoor
open Go.RowKit
theorem reads_zero {F:FuncId} {q:Nat → List TI → Pol.PR Ex} (h:∀ n l,q n l=.error (Pol.place l,0)):PaReads F q :=
 fun _ _ _ _ _ nest _ _ _ hfed=>absurd (h nest _) (hfed _)
theorem ref_all:∀ f:Nat,(∀ g,g ≤ f → PaReads 106 (Pol.operand g)) ∧ (∀ g,g ≤ f → PaReads 101 (Pol.compare g)) ∧ (∀ g,g ≤ f → PaReads 96 (Pol.not_ g)) ∧ (∀ g,g ≤ f → PaReads 83 (Pol.and_ g)) ∧ (∀ g,g ≤ f → PaReads 54 (Pol.or_ g)):=by
 intro f
 induction f with
 | zero =>
  refine ⟨?_,?_,?_,?_,?_⟩ <;> (intro g hg;obtain rfl:g=0:=Nat.le_zero.1 hg;refine reads_zero (fun n l=>?_))
  ·rw [Pol.operand]
  ·rw [Pol.compare]
  ·rw [Pol.not_]
  ·rw [Pol.and_]
  ·rw [Pol.or_]
 | succ f ih =>
  obtain ⟨i1,i2,i3,i4,i5⟩:=ih
  have up:∀ {F:FuncId} {q:Nat → Nat → List TI → Pol.PR Ex},(∀ g,g ≤ f → PaReads F (q g)) → PaReads F (q (f+1)) → ∀ g,g ≤ f+1 → PaReads F (q g):=fun {F q} h1 h2 g hg=>by
   by_cases e:g=f+1
   ·rw [e];exact h2
   ·exact h1 g (by omega)
  exact ⟨up i1 (ref_operand f (i5 f (Nat.le_refl _))),up i2 (ref_compare f i1),up i3 (ref_not f (i3 f (Nat.le_refl _)) (i2 f (Nat.le_refl _))),up i4 (ref_and f i3),up i5 (ref_or f i4)⟩
end Go.Proofs.YtgklmpooonnmiaaGreatDoor
