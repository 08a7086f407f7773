/-
  Lemmas and contracts that the proofs over this seat use (PolTwo, PolTurn, PolCmp, PolIn); no statement of the seat is claimed in this text, and nothing is assumed in it.
-/
import Derived.Test.YtgklmpooonnmiaaGreatDoorK12
import Derived.Test.YtgklmpooonnmiaaGreatDoorK4
import Derived.BigRegion
import Derived.Laws.EntriesVeiled
set_option linter.unusedVariables false
set_option linter.unusedSimpArgs false
namespace Go.Proofs.YtgklmpooonnmiaaGreatDoor
open Go.RowKit
structure Cls (D:Nat → Prop) (B b1 T A r g o c:Nat) (l:List TI) (nest:Nat) (t:TI) (ca:List Value) (a:Ex) (W:World):Prop where
 rd:Rd W r g o c l nest
 box:W.heap[b1]?=some (.cells #[.pointer (some ⟨r,0,none⟩)] 50 (0,0))
 tok:W.heap[T]?=some (.cells #[.int .i64 t.k,.string t.s,.int .i64 t.n,.int .i64 t.p] 54 (0,0))
 av:W.heap[A]?=some (.cells ca.toArray 42 (0,0))
 rep:Rep W D ca a
 dB:∀ i,D i → B ≤ i
 rB:r < B
 gB:g < B
 Bb:B ≤ b1
 BT:B ≤ T
 BA:B ≤ A
theorem Cls.step {D:Nat → Prop} {B b1 T A r g o c:Nat} {l:List TI} {nest:Nat} {t:TI} {ca:List Value} {a:Ex} {W W':World} {o' c':Nat} {l':List TI} {nest':Nat} (h:Cls D B b1 T A r g o c l nest t ca a W) (hf:Fr [r] W W') (hr:Rd W' r g o' c' l' nest'):Cls D B b1 T A r g o' c' l' nest' t ca a W':=by
 have h1:=h.rB;have h2:=h.Bb;have h3:=h.BT;have h4:=h.BA
 exact ⟨hr,hf.row h.box (by simp;omega),hf.row h.tok (by simp;omega),hf.row h.av (by simp;omega),h.rep.fr hf (fun y hy _ hc=>by have:=h.dB _ hc;simp at hy;omega),h.dB,h1,h.gB,h2,h3,h4⟩
theorem Cls.fr {D:Nat → Prop} {B b1 T A r g o c:Nat} {l:List TI} {nest:Nat} {t:TI} {ca:List Value} {a:Ex} {W W':World} (h:Cls D B b1 T A r g o c l nest t ca a W) (hf:Fr [] W W'):Cls D B b1 T A r g o c l nest t ca a W' :=
 ⟨h.rd.fr hf (by simp) (by simp),hf.row h.box (by simp),hf.row h.tok (by simp),hf.row h.av (by simp),h.rep.fr hf (fun y hy _=>by cases hy),h.dB,h.rB,h.gB,h.Bb,h.BT,h.BA⟩
def TwoDone (D:Nat → Prop) (r g nest:Nat) (op p:Int) (a:Ex) (w:World) (q:Pol.PR Ex) (e:Ending) (w':World):Prop :=
 match q with
 | .error (p,n)=>Stops [r] w p n e w'
 | .ok (y,m)=>∃ ca cb rb,e=.returned (.agg #[.int .i64 op,.string ⟨#[]⟩,.int .i64 0,.slice (some ⟨rb,0,none⟩) 2 2,.int .i64 p]) ∧ w'.heap[rb]?=some (.cells (ca ++ cb).toArray 42 (0,0)) ∧ w.heap.size ≤ rb ∧
   Rep w' (fun i=>D i ∧ i ≠ rb) ca a ∧ Rep w' (fun i=>D i ∧ i ≠ rb) cb y ∧ Fr [r] w w' ∧ ∃ o c,Rd w' r g o c m nest
theorem TwoDone.stop {D:Nat → Prop} {r g nest:Nat} {op p0:Int} {a:Ex} {w w':World} {p n:Int} {e:Ending} (h:Stops [r] w p n e w'):TwoDone D r g nest op p0 a w (.error (p,n)) e w':=h
set_option maxHeartbeats 4000000 in
set_option maxRecDepth 100000 in
theorem two_reads (D:Nat → Prop) (B b1 T A r g o c:Nat) (u:TI) (l:List TI) (nest:Nat) (t:TI) (ca:List Value) (a:Ex) (w:World) (h:Cls D B b1 T A r g o c (u :: l) nest t ca a w) (hDw:∀ i,w.heap.size ≤ i → D i) (hl:0 < l.length) (op:Int) (q:Pol.PR Ex)
  (hC:∀ W o c,Rd W r g o c l nest → r < W.heap.size → Calls Tryz.prog 102 #[.pointer (some ⟨r,0,none⟩)] W (Done r g nest W q)) :
  Calls Tryz.prog 103 #[.int .i64 op,.pointer (some ⟨b1,0,none⟩),.pointer (some ⟨T,0,none⟩),.pointer (some ⟨A,0,none⟩)] w (TwoDone D r g nest op t.p a w q):=by
 have H0:=Lib.hid (h.fr ((Fr.refl [] w).alloc (.cells z5 42)))
 have HC:=Lib.hid hC
 have HR:=Lib.hid (heap_alloc_last w (.cells z5 42))
 have hT:=row_lt h.tok
 have hA:=row_lt h.av
 have hb1:=row_lt h.box
 have hrw:=row_lt h.rd.row
 obtain ⟨op0,s9,n9,q9,k9,c9,p9,rfl⟩:=h.rep.form
 obtain ⟨tk,ts,tn,tp⟩:=t
 have HRA:Hid (∀ U,Fr [r] w U → Rep U (fun i=>D i ∧ i < w.heap.size) [.int .i64 op0,.string s9,.int .i64 n9,.slice q9 k9 c9,.int .i64 p9] a):=fun U hU=>(h.rep.mono (fun i hi h=>⟨h,hi⟩)).fr hU (fun y hy _=>by have h8:=h.rB;simp at hy;subst hy;exact fun hc=>by have:=h.dB _ hc.1;omega)
 have hBb:=h.Bb
 have hrB:=h.rB
 have hgB:=h.gB
 clear h hC
 go_enter Tryz.func103,Tryz.ntmps103
 go_wp2_with fail
 refine wp_fresh (fun W=>Cls D B b1 T A r g o c (u :: l) nest ⟨tk,ts,tn,tp⟩ [.int .i64 op0,.string s9,.int .i64 n9,.slice q9 k9 c9,.int .i64 p9] a W ∧ W.heap[w.heap.size]?=some (.cells z5 42 (0,0)) ∧ Fr [] w W) ⟨H0.out,HR.out,(Fr.refl _ _).alloc _⟩ ?_
 rintro W ⟨h1,h2,h3⟩
 have H:=Lib.hid h1
 have HR:=Lib.hid h2
 have HF:=Lib.hid h3
 clear h1 h2 h3 H0
 have c0:=H.out.rd.c0
 have f0:=frozen_of_row _ _ 0 _ _ H.out.rd.row
 have hlc:=H.out.rd.lc
 have hm:=H.out.rd.cm
 have hne:=H.out.rd.ne
 rw [List.length_cons] at c0 hlc
 unfold maxLen at hm
 have xf:∀ i,W.frozen? ⟨b1,i,none⟩=false:=fun i=>Lib.frozen_of_heap H.out.box i
 have x0:W.cell? ⟨b1,0,none⟩=some (.pointer (some ⟨r,0,none⟩)):=by rw [Lib.cell_of_heap H.out.box];rfl
 go_region
 all_goals
  refine then_fresh (fun V=>Cls D B b1 T A r g (o+4) (c - 1) l nest ⟨tk,ts,tn,tp⟩ [.int .i64 op0,.string s9,.int .i64 n9,.slice q9 k9 c9,.int .i64 p9] a V ∧ V.heap[w.heap.size]?=some (.cells z5 42 (0,0)) ∧ Fr [r] w V)
   ⟨(H.out.step ((Fr.refl [r] W).setCell (p:=⟨r,0,none⟩) (.inl (by simp)) _) H.out.rd.cut).fr (Fr.refl [] _).drew,((Fr.refl [r] W).setCell (p:=⟨r,0,none⟩) (.inl (by simp)) (.slice (some ⟨g,o+4,none⟩) l.length (c - 1))).drew.row HR.out (by simp;omega),(HF.out.sub.setCell (p:=⟨r,0,none⟩) (.inl (by simp)) _).drew⟩ ?_
  rintro V ⟨h1,h2,h3⟩
  have H:=Lib.hid h1
  have HR:=Lib.hid h2
  have HF:=Lib.hid h3
  clear h1 h2 h3 c0 f0 hlc hm x0 xf
  have HS:Hid (∀ (U:World),U.heap[T]?=some (.cells #[.int .i64 tk,.string ts,.int .i64 tn,.int .i64 tp] 54 (0,0)) → U.heap[A]?=some (.cells #[.int .i64 op0,.string s9,.int .i64 n9,.slice q9 k9 c9,.int .i64 p9] 42 (0,0)) → U.heap[b1]?=some (.cells #[.pointer (some ⟨r,0,none⟩)] 50 (0,0)) → ((fun W'=>W'.cell? ⟨T,3,none⟩=some (.int .i64 tp) ∧ W'.cell? ⟨A,0,none⟩=some (.int .i64 op0) ∧ W'.cell? ⟨A,1,none⟩=some (.string s9) ∧ W'.cell? ⟨A,2,none⟩=some (.int .i64 n9) ∧ W'.cell? ⟨A,3,none⟩=some (.slice q9 k9 c9) ∧ W'.cell? ⟨A,4,none⟩=some (.int .i64 p9) ∧ W'.cell? ⟨b1,0,none⟩=some (.pointer (some ⟨r,0,none⟩))):World → Prop) U):=fun U h1 h2 h3 =>
   ⟨by rw [Lib.cell_of_heap h1];rfl,by rw [Lib.cell_of_heap h2];rfl,by rw [Lib.cell_of_heap h2];rfl,by rw [Lib.cell_of_heap h2];rfl,by rw [Lib.cell_of_heap h2];rfl,by rw [Lib.cell_of_heap h2];rfl,by rw [Lib.cell_of_heap h3];rfl⟩
  have H0:=Lib.hid (H.out.fr (Fr.refl [] _).drew)
  have hS0:=HS.out _ H0.out.tok H0.out.av H0.out.box
  have HN:=Lib.hid (HC.out V.drew _ _ H0.out.rd (Nat.lt_of_lt_of_le hrw HF.out.size))
  have hwV:w.heap.size < V.heap.size:=row_lt HR.out
  go_wp2_with fail
  cases q with
  | error pe =>
   obtain ⟨pp,pn⟩:=pe
   have HX:Hid (Calls Tryz.prog 102 #[.pointer (some ⟨r,0,none⟩)] V.drew (Stops [r] w pp pn)):=HN.out.mono (fun x W' (hs:Stops [r] V.drew pp pn x W')=>hs.from (HF.out.drew) (fun y hy=>.inl (by simpa using hy)))
   refine wp_region_held_drew (S:=(fun W'=>W'.cell? ⟨T,3,none⟩=some (.int .i64 tp) ∧ W'.cell? ⟨A,0,none⟩=some (.int .i64 op0) ∧ W'.cell? ⟨A,1,none⟩=some (.string s9) ∧ W'.cell? ⟨A,2,none⟩=some (.int .i64 n9) ∧ W'.cell? ⟨A,3,none⟩=some (.slice q9 k9 c9) ∧ W'.cell? ⟨A,4,none⟩=some (.int .i64 p9) ∧ W'.cell? ⟨b1,0,none⟩=some (.pointer (some ⟨r,0,none⟩)))) (by kernel_rfl) (hS0) (fun hHeld=>?_)
   refine held_take (i:=0) (v:=?_) 14 rfl rfl (by kernel_rfl) (by kernel_rfl) (by kernel_rfl) (fun _ _ _ h=>h) (Or.inl ⟨by rfl,?_⟩) (by assumption) ?_
   rotate_left 1
   ·intro w hSw;(try dsimp only at hSw);go_simp;try (with_reducible rfl)
   try simp only [Act.put,List.setIfInBounds_toArray,List.set_cons_zero,List.set_cons_succ]
   refine held_take (i:=1) (v:=?_) 15 rfl rfl (by kernel_rfl) (by kernel_rfl) (by kernel_rfl) (fun _ _ _ h=>h) (Or.inl ⟨by rfl,?_⟩) (by assumption) ?_
   rotate_left 1
   ·intro w hSw;(try dsimp only at hSw);go_simp;try (with_reducible rfl)
   try simp only [Act.put,List.setIfInBounds_toArray,List.set_cons_zero,List.set_cons_succ]
   refine held_take (i:=2) (v:=?_) 16 rfl rfl (by kernel_rfl) (by kernel_rfl) (by kernel_rfl) (fun _ _ _ h=>h) (Or.inl ⟨by rfl,?_⟩) (by assumption) ?_
   rotate_left 1
   ·intro w hSw;(try dsimp only at hSw);go_simp;try (with_reducible rfl)
   try simp only [Act.put,List.setIfInBounds_toArray,List.set_cons_zero,List.set_cons_succ]
   refine held_take (i:=3) (v:=?_) 17 rfl rfl (by kernel_rfl) (by kernel_rfl) (by kernel_rfl) (fun _ _ _ h=>h) (Or.inl ⟨by rfl,?_⟩) (by assumption) ?_
   rotate_left 1
   ·intro w hSw;(try dsimp only at hSw);go_simp;try (with_reducible rfl)
   try simp only [Act.put,List.setIfInBounds_toArray,List.set_cons_zero,List.set_cons_succ]
   refine held_take (i:=4) (v:=?_) 18 rfl rfl (by kernel_rfl) (by kernel_rfl) (by kernel_rfl) (fun _ _ _ h=>h) (Or.inl ⟨by rfl,?_⟩) (by assumption) ?_
   rotate_left 1
   ·intro w hSw;(try dsimp only at hSw);go_simp;try (with_reducible rfl)
   try simp only [Act.put,List.setIfInBounds_toArray,List.set_cons_zero,List.set_cons_succ]
   refine wpAnyH_ready (rs:=[5]) (by kernel_rfl) (by simp) ?_
   refine AllReadyH.cons rfl (fun K hK=>?_) AllReadyH.nil
   go_simp
   go_at_call 102
   refine HX.out.mono ?_
   rintro e w2 ⟨b9,hb9,rfl,hrow9,hf9⟩
   show _
   exact ⟨rfl,TwoDone.stop ⟨b9,hb9,rfl,hrow9,hf9⟩⟩
  | ok xm =>
   obtain ⟨y,m⟩:=xm
   refine wp_region_held_drew (S:=(fun W'=>W'.cell? ⟨T,3,none⟩=some (.int .i64 tp) ∧ W'.cell? ⟨A,0,none⟩=some (.int .i64 op0) ∧ W'.cell? ⟨A,1,none⟩=some (.string s9) ∧ W'.cell? ⟨A,2,none⟩=some (.int .i64 n9) ∧ W'.cell? ⟨A,3,none⟩=some (.slice q9 k9 c9) ∧ W'.cell? ⟨A,4,none⟩=some (.int .i64 p9) ∧ W'.cell? ⟨b1,0,none⟩=some (.pointer (some ⟨r,0,none⟩)))) (by kernel_rfl) (hS0) (fun hHeld=>?_)
   refine held_take (i:=0) (v:=?_) 14 rfl rfl (by kernel_rfl) (by kernel_rfl) (by kernel_rfl) (fun _ _ _ h=>h) (Or.inl ⟨by rfl,?_⟩) (by assumption) ?_
   rotate_left 1
   ·intro w hSw;(try dsimp only at hSw);go_simp;try (with_reducible rfl)
   try simp only [Act.put,List.setIfInBounds_toArray,List.set_cons_zero,List.set_cons_succ]
   refine held_take (i:=1) (v:=?_) 15 rfl rfl (by kernel_rfl) (by kernel_rfl) (by kernel_rfl) (fun _ _ _ h=>h) (Or.inl ⟨by rfl,?_⟩) (by assumption) ?_
   rotate_left 1
   ·intro w hSw;(try dsimp only at hSw);go_simp;try (with_reducible rfl)
   try simp only [Act.put,List.setIfInBounds_toArray,List.set_cons_zero,List.set_cons_succ]
   refine held_take (i:=2) (v:=?_) 16 rfl rfl (by kernel_rfl) (by kernel_rfl) (by kernel_rfl) (fun _ _ _ h=>h) (Or.inl ⟨by rfl,?_⟩) (by assumption) ?_
   rotate_left 1
   ·intro w hSw;(try dsimp only at hSw);go_simp;try (with_reducible rfl)
   try simp only [Act.put,List.setIfInBounds_toArray,List.set_cons_zero,List.set_cons_succ]
   refine held_take (i:=3) (v:=?_) 17 rfl rfl (by kernel_rfl) (by kernel_rfl) (by kernel_rfl) (fun _ _ _ h=>h) (Or.inl ⟨by rfl,?_⟩) (by assumption) ?_
   rotate_left 1
   ·intro w hSw;(try dsimp only at hSw);go_simp;try (with_reducible rfl)
   try simp only [Act.put,List.setIfInBounds_toArray,List.set_cons_zero,List.set_cons_succ]
   refine held_take (i:=4) (v:=?_) 18 rfl rfl (by kernel_rfl) (by kernel_rfl) (by kernel_rfl) (fun _ _ _ h=>h) (Or.inl ⟨by rfl,?_⟩) (by assumption) ?_
   rotate_left 1
   ·intro w hSw;(try dsimp only at hSw);go_simp;try (with_reducible rfl)
   try simp only [Act.put,List.setIfInBounds_toArray,List.set_cons_zero,List.set_cons_succ]
   refine wpAnyH_ready (rs:=[5]) (by kernel_rfl) (by simp) ?_
   refine AllReadyH.cons rfl (fun K hK=>?_) AllReadyH.nil
   go_simp
   go_at_call 102
   refine HN.out.mono ?_
   rintro e w3 ⟨ds,rfl,hrep,hFb,o3,c3,hr3⟩
   obtain ⟨op1,s1,n1,q1,k1,c1,p1,rfl⟩:=hrep.form
   have H3:=Lib.hid (H0.out.step hFb hr3)
   have HY:=Lib.hid hrep
   have HF3:Hid (Fr [r] w w3):=(HF.out.drew).trans hFb (fun y hy=>.inl hy)
   have HR3:Hid (w3.heap[w.heap.size]?=some (.cells z5 42 (0,0))):=hFb.row (show V.drew.heap[w.heap.size]?=_ from HR.out) (by simp;omega)
   clear hrep hFb hr3
   refine hK.out _ _ (HS.out _ H3.out.tok H3.out.av H3.out.box) (fun hHeld=>?_)
   clear hK K
   try simp only [Act.put,List.setIfInBounds_toArray,List.set_cons_zero,List.set_cons_succ]
   refine wpAnyH_ready (rs:=[6]) (by kernel_rfl) (by simp) ?_
   refine AllReadyH.cons rfl (fun K hK=>?_) AllReadyH.nil
   go_simp
   refine hK.out _ _ (HS.out _ (H3.out.fr ((Fr.refl [] _).alloc _)).tok (H3.out.fr ((Fr.refl [] _).alloc _)).av (H3.out.fr ((Fr.refl [] _).alloc _)).box) (fun hHeld=>?_)
   clear hK K
   try simp only [Act.put,List.setIfInBounds_toArray,List.set_cons_zero,List.set_cons_succ]
   refine held_take (i:=7) (v:=?_) 21 rfl rfl (by kernel_rfl) (by kernel_rfl) (by kernel_rfl) (fun _ _ _ h=>h) (Or.inl ⟨by rfl,?_⟩) (by assumption) ?_
   rotate_left 1
   ·intro w hSw;(try dsimp only at hSw);go_simp;try (with_reducible rfl)
   try simp only [Act.put,List.setIfInBounds_toArray,List.set_cons_zero,List.set_cons_succ]
   have hw3:w.heap.size < w3.heap.size:=row_lt HR3.out
   refine wpAnyH_fresh (fun U=>Cls D B b1 T A r g o3 c3 m nest ⟨tk,ts,tn,tp⟩ [.int .i64 op0,.string s9,.int .i64 n9,.slice q9 k9 c9,.int .i64 p9] a U ∧ U.heap[w.heap.size]?=some (.cells z5 42 (0,0)) ∧ Fr [r] w U ∧ U.heap[w3.heap.size]?=some (.cells #[.int .i64 op0,.string s9,.int .i64 n9,.slice q9 k9 c9,.int .i64 p9,.int .i64 op1,.string s1,.int .i64 n1,.slice q1 k1 c1,.int .i64 p1] 42 (0,0)) ∧ Rep U (fun i=>D i ∧ i ≠ w3.heap.size ∧ i ≠ w.heap.size) [.int .i64 op1,.string s1,.int .i64 n1,.slice q1 k1 c1,.int .i64 p1] y ∧ Rep U (fun i=>D i ∧ i ≠ w3.heap.size ∧ i ≠ w.heap.size) [.int .i64 op0,.string s9,.int .i64 n9,.slice q9 k9 c9,.int .i64 p9] a)
    ⟨H3.out.fr ((Fr.refl [] _).alloc _),((Fr.refl [] _).alloc _).row HR3.out (by simp),HF3.out.trans0 ((Fr.refl [] _).alloc _),heap_alloc_last _ _,(HY.out.mono (fun g hg h=>by have h9:V.heap.size ≤ g:=h;have:=H3.out.Bb;exact ⟨hDw _ (by omega),by omega,by omega⟩)).fr ((Fr.refl [] _).alloc _) (fun y hy _=>by cases hy),?_⟩ ?_
   ·exact (HRA.out _ (HF3.out.trans0 ((Fr.refl [] _).alloc _))).mono (fun i _ h=>⟨h.1,by omega,by omega⟩)
   rintro U ⟨hu1,hu2,hu3,hu4,hu5,hu6⟩
   have hff:=fr_five U [w.heap.size] w.heap.size (.int .i64 op) (.string ⟨#[]⟩) (.int .i64 0) (.slice (some ⟨w3.heap.size,0,none⟩) 2 2) (.int .i64 tp) (by simp)
   have HT:=Lib.hid (heap_five hu2 (.int .i64 op) (.string ⟨#[]⟩) (.int .i64 0) (.slice (some ⟨w3.heap.size,0,none⟩) 2 2) (.int .i64 tp))
   have HSU:=Lib.hid (HS.out _ (hff.row hu1.tok (by simp;omega)) (hff.row hu1.av (by simp;omega)) (hff.row hu1.box (by simp;omega)))
   have HSU0:=HS.out _ hu1.tok hu1.av hu1.box
   have HEND:Hid (TwoDone D r g nest op tp a w (.ok (y,m)) (.returned (.agg #[.int .i64 op,.string ⟨#[]⟩,.int .i64 0,.slice (some ⟨w3.heap.size,0,none⟩) 2 2,.int .i64 tp])) _) :=
    ⟨[.int .i64 op0,.string s9,.int .i64 n9,.slice q9 k9 c9,.int .i64 p9],[.int .i64 op1,.string s1,.int .i64 n1,.slice q1 k1 c1,.int .i64 p1],w3.heap.size,rfl,hff.row hu4 (by simp;omega),by omega,
     (hu6.fr hff (fun y hy _=>by simp at hy;rw [hy];simp)).mono (fun i _ h=>⟨h.1,h.2.1⟩),(hu5.fr hff (fun y hy _=>by simp at hy;rw [hy];simp)).mono (fun i _ h=>⟨h.1,h.2.1⟩),hu3.trans hff (fun y hy=>.inr (by simp at hy;omega)),_,_,hu1.rd.fr hff (by simp;omega) (by simp;omega)⟩
   have HU2:=Lib.hid hu2
   clear hu1 hu2 hu3 hu4 hu5 hu6 hff
   have zf:∀ i,U.frozen? ⟨w.heap.size,i,none⟩=false:=fun i=>Lib.frozen_of_heap HU2.out i
   have z0:U.cell? ⟨w.heap.size,0,none⟩=some (.int .i64 0):=by rw [Lib.cell_of_heap HU2.out];rfl
   have z1:U.cell? ⟨w.heap.size,1,none⟩=some (.string ⟨#[]⟩):=by rw [Lib.cell_of_heap HU2.out];rfl
   have z2:U.cell? ⟨w.heap.size,2,none⟩=some (.int .i64 0):=by rw [Lib.cell_of_heap HU2.out];rfl
   have z3:U.cell? ⟨w.heap.size,3,none⟩=some (.slice none 0 0):=by rw [Lib.cell_of_heap HU2.out];rfl
   have z4:U.cell? ⟨w.heap.size,4,none⟩=some (.int .i64 0):=by rw [Lib.cell_of_heap HU2.out];rfl
   refine wpAnyH_ready (rs:=[8]) (by kernel_rfl) (by simp) ?_
   refine AllReadyH.cons rfl (fun K hK=>?_) AllReadyH.nil
   go_simp
   refine hK.out _ _ (HSU.out) (fun hHeld=>?_)
   clear hK K
   try simp only [Act.put,List.setIfInBounds_toArray,List.set_cons_zero,List.set_cons_succ]
   refine wpAnyH_done (by kernel_rfl) ?_ _
   go_wp2_with fail
   refine bodyPost_ret (v:=.agg #[.int .i64 op,.string ⟨#[]⟩,.int .i64 0,.slice (some ⟨w3.heap.size,0,none⟩) 2 2,.int .i64 tp]) (results_cell_row rfl _ _ w.heap.size _ _ (0,0) _ rfl HT.out Tryz.underlying42 rfl (by kernel_rfl)) rfl ?_
   exact HEND.out
end Go.Proofs.YtgklmpooonnmiaaGreatDoor

namespace Go.Proofs.YtgklmpooonnmiaaGreatDoor
open Go.RowKit
def TurnDone (D:Nat → Prop) (r g nest:Nat) (op p:Int) (a:Ex) (w:World) (q:Pol.PR Ex) (e:Ending) (w':World):Prop :=
 match q with
 | .error (p,n)=>Stops [r] w p n e w'
 | .ok (y,m)=>∃ cs,e=.returned (.agg cs.toArray) ∧ Rep w' D cs (.mk op Pol.none_ 0 [y,a] p) ∧ Fr [r] w w' ∧ ∃ o c,Rd w' r g o c m nest
theorem TurnDone.stop {D:Nat → Prop} {r g nest:Nat} {op p0:Int} {a:Ex} {w w':World} {p n:Int} {e:Ending} (h:Stops [r] w p n e w'):TurnDone D r g nest op p0 a w (.error (p,n)) e w':=h
theorem heap_ten {W:World} {b:Nat} {u0 u1 u2 u3 u4 u5 u6 u7 u8 u9:Value} {t:TypeId} (h:W.heap[b]?=some (.cells #[u0,u1,u2,u3,u4,u5,u6,u7,u8,u9] t (0,0))) (v0 v1 v2 v3 v4 v5 v6 v7 v8 v9:Value) :
  ((((((((((W.setCell ⟨b,0,none⟩ v0).setCell ⟨b,1,none⟩ v1).setCell ⟨b,2,none⟩ v2).setCell ⟨b,3,none⟩ v3).setCell ⟨b,4,none⟩ v4).setCell ⟨b,5,none⟩ v5).setCell ⟨b,6,none⟩ v6).setCell ⟨b,7,none⟩ v7).setCell ⟨b,8,none⟩ v8).setCell ⟨b,9,none⟩ v9).heap[b]?=some (.cells #[v0,v1,v2,v3,v4,v5,v6,v7,v8,v9] t (0,0)):=by
 have h0:(W.setCell ⟨b,0,none⟩ v0).heap[b]?=some (.cells #[v0,u1,u2,u3,u4,u5,u6,u7,u8,u9] t (0,0)):=heap_set_row h 0 v0
 have h1:((W.setCell ⟨b,0,none⟩ v0).setCell ⟨b,1,none⟩ v1).heap[b]?=some (.cells #[v0,v1,u2,u3,u4,u5,u6,u7,u8,u9] t (0,0)):=heap_set_row h0 1 v1
 have h2:(((W.setCell ⟨b,0,none⟩ v0).setCell ⟨b,1,none⟩ v1).setCell ⟨b,2,none⟩ v2).heap[b]?=some (.cells #[v0,v1,v2,u3,u4,u5,u6,u7,u8,u9] t (0,0)):=heap_set_row h1 2 v2
 have h3:((((W.setCell ⟨b,0,none⟩ v0).setCell ⟨b,1,none⟩ v1).setCell ⟨b,2,none⟩ v2).setCell ⟨b,3,none⟩ v3).heap[b]?=some (.cells #[v0,v1,v2,v3,u4,u5,u6,u7,u8,u9] t (0,0)):=heap_set_row h2 3 v3
 have h4:(((((W.setCell ⟨b,0,none⟩ v0).setCell ⟨b,1,none⟩ v1).setCell ⟨b,2,none⟩ v2).setCell ⟨b,3,none⟩ v3).setCell ⟨b,4,none⟩ v4).heap[b]?=some (.cells #[v0,v1,v2,v3,v4,u5,u6,u7,u8,u9] t (0,0)):=heap_set_row h3 4 v4
 have h5:((((((W.setCell ⟨b,0,none⟩ v0).setCell ⟨b,1,none⟩ v1).setCell ⟨b,2,none⟩ v2).setCell ⟨b,3,none⟩ v3).setCell ⟨b,4,none⟩ v4).setCell ⟨b,5,none⟩ v5).heap[b]?=some (.cells #[v0,v1,v2,v3,v4,v5,u6,u7,u8,u9] t (0,0)):=heap_set_row h4 5 v5
 have h6:(((((((W.setCell ⟨b,0,none⟩ v0).setCell ⟨b,1,none⟩ v1).setCell ⟨b,2,none⟩ v2).setCell ⟨b,3,none⟩ v3).setCell ⟨b,4,none⟩ v4).setCell ⟨b,5,none⟩ v5).setCell ⟨b,6,none⟩ v6).heap[b]?=some (.cells #[v0,v1,v2,v3,v4,v5,v6,u7,u8,u9] t (0,0)):=heap_set_row h5 6 v6
 have h7:((((((((W.setCell ⟨b,0,none⟩ v0).setCell ⟨b,1,none⟩ v1).setCell ⟨b,2,none⟩ v2).setCell ⟨b,3,none⟩ v3).setCell ⟨b,4,none⟩ v4).setCell ⟨b,5,none⟩ v5).setCell ⟨b,6,none⟩ v6).setCell ⟨b,7,none⟩ v7).heap[b]?=some (.cells #[v0,v1,v2,v3,v4,v5,v6,v7,u8,u9] t (0,0)):=heap_set_row h6 7 v7
 have h8:(((((((((W.setCell ⟨b,0,none⟩ v0).setCell ⟨b,1,none⟩ v1).setCell ⟨b,2,none⟩ v2).setCell ⟨b,3,none⟩ v3).setCell ⟨b,4,none⟩ v4).setCell ⟨b,5,none⟩ v5).setCell ⟨b,6,none⟩ v6).setCell ⟨b,7,none⟩ v7).setCell ⟨b,8,none⟩ v8).heap[b]?=some (.cells #[v0,v1,v2,v3,v4,v5,v6,v7,v8,u9] t (0,0)):=heap_set_row h7 8 v8
 have h9:((((((((((W.setCell ⟨b,0,none⟩ v0).setCell ⟨b,1,none⟩ v1).setCell ⟨b,2,none⟩ v2).setCell ⟨b,3,none⟩ v3).setCell ⟨b,4,none⟩ v4).setCell ⟨b,5,none⟩ v5).setCell ⟨b,6,none⟩ v6).setCell ⟨b,7,none⟩ v7).setCell ⟨b,8,none⟩ v8).setCell ⟨b,9,none⟩ v9).heap[b]?=some (.cells #[v0,v1,v2,v3,v4,v5,v6,v7,v8,v9] t (0,0)):=heap_set_row h8 9 v9
 exact h9
theorem fr_ten (W:World) (b:Nat) (v0 v1 v2 v3 v4 v5 v6 v7 v8 v9:Value) (i0 i1 i2 i3 i4 i5 i6 i7 i8 i9:Nat):Fr [b] W ((((((((((W.setCell ⟨b,i0,none⟩ v0).setCell ⟨b,i1,none⟩ v1).setCell ⟨b,i2,none⟩ v2).setCell ⟨b,i3,none⟩ v3).setCell ⟨b,i4,none⟩ v4).setCell ⟨b,i5,none⟩ v5).setCell ⟨b,i6,none⟩ v6).setCell ⟨b,i7,none⟩ v7).setCell ⟨b,i8,none⟩ v8).setCell ⟨b,i9,none⟩ v9) :=
 ((((((((((Fr.refl [b] W).setCell (p:=⟨b,i0,none⟩) (.inl (by simp)) v0).setCell (p:=⟨b,i1,none⟩) (.inl (by simp)) v1).setCell (p:=⟨b,i2,none⟩) (.inl (by simp)) v2).setCell (p:=⟨b,i3,none⟩) (.inl (by simp)) v3).setCell (p:=⟨b,i4,none⟩) (.inl (by simp)) v4).setCell (p:=⟨b,i5,none⟩) (.inl (by simp)) v5).setCell (p:=⟨b,i6,none⟩) (.inl (by simp)) v6).setCell (p:=⟨b,i7,none⟩) (.inl (by simp)) v7).setCell (p:=⟨b,i8,none⟩) (.inl (by simp)) v8).setCell (p:=⟨b,i9,none⟩) (.inl (by simp)) v9
theorem two_rep {D:Nat → Prop} {X:Nat} {U:World} {rb:Nat} {ca cb:List Value} {a b:Ex} (hy:Rep U.drew (fun i=>(D i ∧ i ≠ X) ∧ i ≠ rb) ca a) (hz:Rep U.drew (fun i=>(D i ∧ i ≠ X) ∧ i ≠ rb) cb b) (hrow:U.heap[rb]?=some (.cells (ca ++ cb).toArray 42 (0,0))) (hX:rb ≠ X) (hD:D rb) (op p:Int) :
  Rep U.drew (fun i=>D i ∧ i ≠ X) [.int .i64 op,.string ⟨#[]⟩,.int .i64 0,.slice (some ⟨rb,0,none⟩) 2 2,.int .i64 p] (.mk op Pol.none_ 0 [a,b] p):=by
 have hrow':U.drew.heap[rb]?=some (.cells (ca ++ cb).toArray 42 (0,0)):=hrow
 refine Rep.of_row op ⟨#[]⟩ 0 p [a,b] [ca,cb] rb ⟨hD,hX⟩ 42 2 rfl (by simpa using hrow') (Nat.le_refl _) (by decide) ?_
 intro i z cs' hi hc
 have h0:i=0 ∨ i=1:=by have:=(List.getElem?_eq_some_iff.1 hi).1;simp at this;omega
 rcases h0 with rfl | rfl
 ·simp at hi hc
  subst hi hc
  exact hy.mono (fun i _ h=>h.1)
 ·simp at hi hc
  subst hi hc
  exact hz.mono (fun i _ h=>h.1)
set_option maxHeartbeats 1000000 in
set_option maxRecDepth 100000 in
theorem turn_reads (D:Nat → Prop) (B b1 T A F5 r g o c:Nat) (u:TI) (l:List TI) (nest:Nat) (t:TI) (ca:List Value) (a:Ex) (w:World) (h:Cls D B b1 T A r g o c (u :: l) nest t ca a w) (hF5:w.heap[F5]?=some (.cells #[.func (.func 103) #[] #[.pointer (some ⟨b1,0,none⟩),.pointer (some ⟨T,0,none⟩),.pointer (some ⟨A,0,none⟩)]] 157 (0,0)))
  (hDw:∀ i,w.heap.size ≤ i → D i) (hl:0 < l.length) (op:Int) (q:Pol.PR Ex)
  (hC:∀ W o c,Rd W r g o c l nest → r < W.heap.size → Calls Tryz.prog 102 #[.pointer (some ⟨r,0,none⟩)] W (Done r g nest W q)) :
  Calls Tryz.prog 104 #[.int .i64 op,.pointer (some ⟨F5,0,none⟩)] w (TurnDone D r g nest op t.p a w q):=by
 have hA:=h.fr ((Fr.refl [] w).alloc (.cells z5 42))
 have HN:=Lib.hid (two_reads (fun i=>D i ∧ i ≠ w.heap.size) B b1 T A r g o c u l nest t ca a _ ⟨hA.rd,hA.box,hA.tok,hA.av,(h.rep.mono (fun i hi hd=>⟨hd,by omega⟩)).fr ((Fr.refl [] w).alloc (.cells z5 42)) (fun y hy _=>by cases hy),fun i hi=>h.dB i hi.1,h.rB,h.gB,h.Bb,h.BT,h.BA⟩ (fun i hi=>by simp at hi;exact ⟨hDw i (by omega),by omega⟩) hl op q hC)
 clear hA
 have HR:=Lib.hid (heap_alloc_last w (.cells z5 42))
 have hrw:=row_lt h.rd.row
 have hBb:=h.Bb
 have hb1:=row_lt h.box
 have hrB:=h.rB
 have hgB:=h.gB
 obtain ⟨tk,ts,tn,tp⟩:=t
 have ff:∀ i,w.frozen? ⟨F5,i,none⟩=false:=fun i=>Lib.frozen_of_heap hF5 i
 have f0:w.cell? ⟨F5,0,none⟩=some (.func (.func 103) #[] #[.pointer (some ⟨b1,0,none⟩),.pointer (some ⟨T,0,none⟩),.pointer (some ⟨A,0,none⟩)]):=by rw [Lib.cell_of_heap hF5];rfl
 have hF5w:=row_lt hF5
 clear h hC hF5
 go_enter Tryz.func104,Tryz.ntmps104
 go_wp2_with fail
 refine HN.out.mono ?_
 intro e w1 hd
 cases q with
 | error pe =>
  obtain ⟨pp,pn⟩:=pe
  have hs:Stops [r] _ pp pn e w1:=hd
  obtain ⟨b9,hb9,rfl,hrow9,hf9⟩:=hs.from (bs:=[r]) ((Fr.refl [r] w).alloc (.cells z5 42)) (fun y hy=>.inl (by simpa using hy))
  show _
  exact ⟨rfl,TurnDone.stop ⟨b9,hb9,rfl,hrow9,hf9⟩⟩
 | ok ym =>
  obtain ⟨y,m⟩:=ym
  obtain ⟨ca,cb,rb,rfl,hrb,hrbz,hra,hry,hf3,o3,c3,hr3⟩:=hd
  obtain ⟨op0,s9,n9,q9,k9,c9,p9,rfl⟩:=hra.form
  obtain ⟨op1,s1,n1,q1,k1,c1,p1,rfl⟩:=hry.form
  simp at hrbz
  have hrb':w1.heap[rb]?=some (.cells #[.int .i64 op0,.string s9,.int .i64 n9,.slice q9 k9 c9,.int .i64 p9,.int .i64 op1,.string s1,.int .i64 n1,.slice q1 k1 c1,.int .i64 p1] 42 (0,0)):=hrb
  have HRB:=Lib.hid hrb'
  have HRA:=Lib.hid hra
  have HRY:=Lib.hid hry
  have HF3:Hid (Fr [r] w w1):=((Fr.refl [r] w).alloc _).trans hf3 (fun y hy=>.inl hy)
  have HRD:=Lib.hid hr3
  have HR1:Hid (w1.heap[w.heap.size]?=some (.cells z5 42 (0,0))):=hf3.row HR.out (by simp;omega)
  clear hrb hrb' hra hry hf3 hr3 f0 ff HN HR
  have hw1:w.heap.size < w1.heap.size:=row_lt HR1.out
  have hrb1:rb < w1.heap.size:=row_lt HRB.out
  go_wp2_with fail
  refine wp_fresh (fun W=>Rd W r g o3 c3 m nest ∧ W.heap[w.heap.size]?=some (.cells z5 42 (0,0)) ∧ W.heap[w1.heap.size]?=some (.cells #[.int .i64 op,.string ⟨#[]⟩,.int .i64 0,.slice (some ⟨rb,0,none⟩) 2 2,.int .i64 tp] 42 (0,0))
    ∧ W.heap[rb]?=some (.cells #[.int .i64 op0,.string s9,.int .i64 n9,.slice q9 k9 c9,.int .i64 p9,.int .i64 op1,.string s1,.int .i64 n1,.slice q1 k1 c1,.int .i64 p1] 42 (0,0)) ∧ Fr [] w1 W) ⟨HRD.out.fr ((Fr.refl [] _).alloc _) (by simp) (by simp),((Fr.refl [] _).alloc _).row HR1.out (by simp),heap_alloc_last _ _,((Fr.refl [] _).alloc _).row HRB.out (by simp),(Fr.refl [] _).alloc _⟩ ?_
  rintro W ⟨h1,h2,h3,h4,h5⟩
  have HRD:=Lib.hid h1
  have HR1:=Lib.hid h2
  have HE1:=Lib.hid h3
  have HRB:=Lib.hid h4
  have HF:=Lib.hid h5
  clear h1 h2 h3 h4 h5
  have ef:∀ i,W.frozen? ⟨w1.heap.size,i,none⟩=false:=fun i=>Lib.frozen_of_heap HE1.out i
  have e0:W.cell? ⟨w1.heap.size,0,none⟩=some (.int .i64 op):=by rw [Lib.cell_of_heap HE1.out];rfl
  have e1:W.cell? ⟨w1.heap.size,1,none⟩=some (.string ⟨#[]⟩):=by rw [Lib.cell_of_heap HE1.out];rfl
  have e2:W.cell? ⟨w1.heap.size,2,none⟩=some (.int .i64 0):=by rw [Lib.cell_of_heap HE1.out];rfl
  have e3:W.cell? ⟨w1.heap.size,3,none⟩=some (.slice (some ⟨rb,0,none⟩) 2 2):=by rw [Lib.cell_of_heap HE1.out];rfl
  have e4:W.cell? ⟨w1.heap.size,4,none⟩=some (.int .i64 tp):=by rw [Lib.cell_of_heap HE1.out];rfl
  have xf:∀ i,W.frozen? ⟨rb,i,none⟩=false:=fun i=>Lib.frozen_of_heap HRB.out i
  have x0:W.cell? ⟨rb,0,none⟩=some (.int .i64 op0):=by rw [Lib.cell_of_heap HRB.out];rfl
  have x1:W.cell? ⟨rb,1,none⟩=some (.string s9):=by rw [Lib.cell_of_heap HRB.out];rfl
  have x2:W.cell? ⟨rb,2,none⟩=some (.int .i64 n9):=by rw [Lib.cell_of_heap HRB.out];rfl
  have x3:W.cell? ⟨rb,3,none⟩=some (.slice q9 k9 c9):=by rw [Lib.cell_of_heap HRB.out];rfl
  have x4:W.cell? ⟨rb,4,none⟩=some (.int .i64 p9):=by rw [Lib.cell_of_heap HRB.out];rfl
  have x5:W.cell? ⟨rb,5,none⟩=some (.int .i64 op1):=by rw [Lib.cell_of_heap HRB.out];rfl
  have x6:W.cell? ⟨rb,6,none⟩=some (.string s1):=by rw [Lib.cell_of_heap HRB.out];rfl
  have x7:W.cell? ⟨rb,7,none⟩=some (.int .i64 n1):=by rw [Lib.cell_of_heap HRB.out];rfl
  have x8:W.cell? ⟨rb,8,none⟩=some (.slice q1 k1 c1):=by rw [Lib.cell_of_heap HRB.out];rfl
  have x9:W.cell? ⟨rb,9,none⟩=some (.int .i64 p1):=by rw [Lib.cell_of_heap HRB.out];rfl
  go_region
  all_goals
   have hff0:=fr_ten W rb (.int .i64 op1) (.string s1) (.int .i64 n1) (.slice q1 k1 c1) (.int .i64 p1) (.int .i64 op0) (.string s9) (.int .i64 n9) (.slice q9 k9 c9) (.int .i64 p9) 0 1 2 3 4 5 6 7 8 9
   have hff:=hff0.drew
   have hne1:w1.heap.size ≠ rb:=by omega
   have hne2:w.heap.size ≠ rb:=by omega
   have g1:=HRD.out.fr hff (by simp;omega) (by simp;omega)
   have g2:=hff.row HR1.out (by simpa using hne2)
   have g3:=hff.row HE1.out (by simpa using hne1)
   have g5:=(HF3.out.trans0 HF.out).trans hff (fun y hy=>.inr (by simp at hy;omega))
   have hry:=((HRY.out.fr HF.out (fun y hy _=>by cases hy)).fr hff (fun y hy _=>by simp at hy;rw [hy];simp))
   have hra:=((HRA.out.fr HF.out (fun y hy _=>by cases hy)).fr hff (fun y hy _=>by simp at hy;rw [hy];simp))
   have hrow:=heap_ten HRB.out (.int .i64 op1) (.string s1) (.int .i64 n1) (.slice q1 k1 c1) (.int .i64 p1) (.int .i64 op0) (.string s9) (.int .i64 n9) (.slice q9 k9 c9) (.int .i64 p9)
   have g4:=two_rep hry hra hrow (by omega) (hDw _ (by omega)) op tp
   refine then_fresh (fun V=>Rd V r g o3 c3 m nest ∧ V.heap[w.heap.size]?=some (.cells z5 42 (0,0)) ∧ V.heap[w1.heap.size]?=some (.cells #[.int .i64 op,.string ⟨#[]⟩,.int .i64 0,.slice (some ⟨rb,0,none⟩) 2 2,.int .i64 tp] 42 (0,0))
    ∧ Rep V (fun i=>D i ∧ i ≠ w.heap.size) [.int .i64 op,.string ⟨#[]⟩,.int .i64 0,.slice (some ⟨rb,0,none⟩) 2 2,.int .i64 tp] (.mk op Pol.none_ 0 [y,a] tp) ∧ Fr [r] w V) ⟨g1,g2,g3,g4,g5⟩ ?_
   rintro V ⟨h1,h2,h3,h4,h5⟩
   have HRD:=Lib.hid h1
   have HR1:=Lib.hid h2
   have HE1:=Lib.hid h3
   have HP:=Lib.hid h4
   have HF:=Lib.hid h5
   clear h1 h2 h3 h4 h5 hff hff0 g1 g2 g3 g4 g5 hry hra hrow
   clear e0 e1 e2 e3 e4 ef
   have ef:∀ i,V.frozen? ⟨w1.heap.size,i,none⟩=false:=fun i=>Lib.frozen_of_heap HE1.out i
   have e0:V.cell? ⟨w1.heap.size,0,none⟩=some (.int .i64 op):=by rw [Lib.cell_of_heap HE1.out];rfl
   have e1:V.cell? ⟨w1.heap.size,1,none⟩=some (.string ⟨#[]⟩):=by rw [Lib.cell_of_heap HE1.out];rfl
   have e2:V.cell? ⟨w1.heap.size,2,none⟩=some (.int .i64 0):=by rw [Lib.cell_of_heap HE1.out];rfl
   have e3:V.cell? ⟨w1.heap.size,3,none⟩=some (.slice (some ⟨rb,0,none⟩) 2 2):=by rw [Lib.cell_of_heap HE1.out];rfl
   have e4:V.cell? ⟨w1.heap.size,4,none⟩=some (.int .i64 tp):=by rw [Lib.cell_of_heap HE1.out];rfl
   have zf:∀ i,V.frozen? ⟨w.heap.size,i,none⟩=false:=fun i=>Lib.frozen_of_heap HR1.out i
   have z0:V.cell? ⟨w.heap.size,0,none⟩=some (.int .i64 0):=by rw [Lib.cell_of_heap HR1.out];rfl
   have z1:V.cell? ⟨w.heap.size,1,none⟩=some (.string ⟨#[]⟩):=by rw [Lib.cell_of_heap HR1.out];rfl
   have z2:V.cell? ⟨w.heap.size,2,none⟩=some (.int .i64 0):=by rw [Lib.cell_of_heap HR1.out];rfl
   have z3:V.cell? ⟨w.heap.size,3,none⟩=some (.slice none 0 0):=by rw [Lib.cell_of_heap HR1.out];rfl
   have z4:V.cell? ⟨w.heap.size,4,none⟩=some (.int .i64 0):=by rw [Lib.cell_of_heap HR1.out];rfl
   have hff:=fr_five V [w.heap.size] w.heap.size (.int .i64 op) (.string ⟨#[]⟩) (.int .i64 0) (.slice (some ⟨rb,0,none⟩) 2 2) (.int .i64 tp) (by simp)
   have HT:=Lib.hid (heap_five HR1.out (.int .i64 op) (.string ⟨#[]⟩) (.int .i64 0) (.slice (some ⟨rb,0,none⟩) 2 2) (.int .i64 tp))
   have HEND:Hid (TurnDone D r g nest op tp a w (.ok (y,m)) (.returned (.agg #[.int .i64 op,.string ⟨#[]⟩,.int .i64 0,.slice (some ⟨rb,0,none⟩) 2 2,.int .i64 tp])) _) :=
    ⟨[.int .i64 op,.string ⟨#[]⟩,.int .i64 0,.slice (some ⟨rb,0,none⟩) 2 2,.int .i64 tp],rfl,(HP.out.fr hff (fun y hy _=>by simp at hy;rw [hy];simp)).mono (fun i _ h=>h.1),HF.out.trans hff (fun y hy=>.inr (by simp at hy;omega)),_,_,HRD.out.fr hff (by simp;omega) (by simp;omega)⟩
   clear hff
   go_wp2_with fail
   refine bodyPost_ret (v:=.agg #[.int .i64 op,.string ⟨#[]⟩,.int .i64 0,.slice (some ⟨rb,0,none⟩) 2 2,.int .i64 tp]) (results_cell_row rfl _ _ w.heap.size _ _ (0,0) _ rfl HT.out Tryz.underlying42 rfl (by kernel_rfl)) rfl ?_
   exact HEND.out
end Go.Proofs.YtgklmpooonnmiaaGreatDoor

namespace Go.Proofs.YtgklmpooonnmiaaGreatDoor
open Go.RowKit
structure Cmp (w:World) (b1 T A F5 R0 r g o c:Nat) (l:List TI) (nest:Nat) (t:TI) (ca:List Value) (a:Ex) (W:World):Prop where
 cls:Cls (fun i=>w.heap.size ≤ i ∧ i ≠ R0) w.heap.size b1 T A r g o c l nest t ca a W
 res:W.heap[R0]?=some (.cells z5 42 (0,0))
 fn:W.heap[F5]?=some (.cells #[.func (.func 103) #[] #[.pointer (some ⟨b1,0,none⟩),.pointer (some ⟨T,0,none⟩),.pointer (some ⟨A,0,none⟩)]] 157 (0,0))
 f:Fr [r] w W
 RT:R0 ≠ T ∧ R0 ≠ A ∧ R0 ≠ b1 ∧ R0 ≠ F5
 Rw:w.heap.size ≤ R0
 Fw:w.heap.size ≤ F5
theorem Cmp.step {w:World} {b1 T A F5 R0 r g o c:Nat} {l:List TI} {nest:Nat} {t:TI} {ca:List Value} {a:Ex} {W W':World} {o' c':Nat} {l':List TI} {nest':Nat} (h:Cmp w b1 T A F5 R0 r g o c l nest t ca a W) (hf:Fr [r] W W') (hr:Rd W' r g o' c' l' nest'):Cmp w b1 T A F5 R0 r g o' c' l' nest' t ca a W':=by
 have h1:=h.cls.rB;have h2:=h.Rw;have h3:=h.Fw
 exact ⟨h.cls.step hf hr,hf.row h.res (by simp;omega),hf.row h.fn (by simp;omega),h.f.trans hf (fun y hy=>.inl hy),h.RT,h2,h3⟩
theorem Cmp.fr {w:World} {b1 T A F5 R0 r g o c:Nat} {l:List TI} {nest:Nat} {t:TI} {ca:List Value} {a:Ex} {W W':World} (h:Cmp w b1 T A F5 R0 r g o c l nest t ca a W) (hf:Fr [] W W'):Cmp w b1 T A F5 R0 r g o c l nest t ca a W' :=
 ⟨h.cls.fr hf,hf.row h.res (by simp),hf.row h.fn (by simp),h.f.trans0 hf,h.RT,h.Rw,h.Fw⟩
theorem Cmp.give {w:World} {b1 T A F5 R0 r g o c:Nat} {l:List TI} {nest:Nat} {t:TI} {ca:List Value} {a:Ex} {W:World} (h:Cmp w b1 T A F5 R0 r g o c l nest t ca a W) {v0 v1 v2 v3 v4:Value} {x:Ex} (hx:Rep W (fun i=>w.heap.size ≤ i ∧ i ≠ R0) [v0,v1,v2,v3,v4] x) :
  Done r g nest w (.ok (x,l)) (.returned (.agg #[v0,v1,v2,v3,v4])) (((((W.setCell ⟨R0,0,none⟩ v0).setCell ⟨R0,1,none⟩ v1).setCell ⟨R0,2,none⟩ v2).setCell ⟨R0,3,none⟩ v3).setCell ⟨R0,4,none⟩ v4):=by
 have hff:=fr_five W [R0] R0 v0 v1 v2 v3 v4 (by simp)
 have h1:=h.cls.rB;have h2:=h.Rw;have h3:=h.cls.gB
 have hr:=(hx.fr hff (fun y hy _=>by simp at hy;rw [hy];simp)).mono (fun i _ h=>h.1)
 exact Done.ok (cs:=[v0,v1,v2,v3,v4]) rfl hr (h.f.trans hff (fun y hy=>.inr (by simp at hy;omega))) (h.cls.rd.fr hff (by simp;omega) (by simp;omega))
set_option maxHeartbeats 4000000 in
set_option maxRecDepth 100000 in
theorem cmp_stop (w:World) (r g o c:Nat) (l:List TI) (nest:Nat) (h:Rd w r g o c l nest) (hr:r < w.heap.size) (pp pn:Int)
  (hC:∀ W o c,Rd W r g o c l nest → r < W.heap.size → Calls Tryz.prog 102 #[.pointer (some ⟨r,0,none⟩)] W (Done r g nest W (.error (pp,pn)))) :
  Calls Tryz.prog 99 #[.pointer (some ⟨r,0,none⟩)] w (Done r g nest w (.error (pp,pn))):=by
 have HRD:=Lib.hid h
 have HC:=Lib.hid hC
 have HR:=Lib.hid (alloc2 w (.cells #[.pointer (some ⟨r,0,none⟩)] 50) (.cells z5 42))
 have hg:=h.gl
 have HA0:Hid (Fr [] w ((w.alloc (.cells #[.pointer (some ⟨r,0,none⟩)] 50)).alloc (.cells z5 42))):=((Fr.refl [] w).alloc _).alloc _
 have HN:=Lib.hid (HC.out _ o c (HRD.out.fr HA0.out (by simp) (by simp)) (by simp;omega))
 clear h hC
 go_enter Tryz.func99,Tryz.ntmps99
 go_wp2_with fail
 refine HN.out.mono ?_
 intro e w1 hd
 have hs:Stops [r] _ pp pn e w1:=hd
 obtain ⟨b9,hb9,rfl,hrow9,hf9⟩:=hs.from (bs:=[r]) HA0.out.sub (fun y hy=>.inl (by simpa using hy))
 show _
 exact ⟨rfl,Done.stop ⟨b9,hb9,rfl,hrow9,hf9⟩⟩
theorem Cmp.below {w:World} {b1 T A F5 R0 r g o c:Nat} {l:List TI} {nest:Nat} {t:TI} {ca:List Value} {a:Ex} {W:World} (h:Cmp w b1 T A F5 R0 r g o c l nest t ca a W):∀ i,W.heap.size ≤ i → w.heap.size ≤ i ∧ i ≠ R0:=fun i hi=>by
 have h1:=h.f.size;have h2:=row_lt h.res
 exact ⟨by omega,by omega⟩
theorem rep_two {D:Nat → Prop} {U:World} {rb:Nat} {ca cb:List Value} {a b:Ex} (hy:Rep U (fun i=>D i ∧ i ≠ rb) ca a) (hz:Rep U (fun i=>D i ∧ i ≠ rb) cb b) (hrow:U.heap[rb]?=some (.cells (ca ++ cb).toArray 42 (0,0))) (hD:D rb) (op p:Int) :
  Rep U D [.int .i64 op,.string ⟨#[]⟩,.int .i64 0,.slice (some ⟨rb,0,none⟩) 2 2,.int .i64 p] (.mk op Pol.none_ 0 [a,b] p):=by
 refine Rep.of_row op ⟨#[]⟩ 0 p [a,b] [ca,cb] rb hD 42 2 rfl (by simpa using hrow) (Nat.le_refl _) (by decide) ?_
 intro i z cs' hi hc
 have h0:i=0 ∨ i=1:=by have:=(List.getElem?_eq_some_iff.1 hi).1;simp at this;omega
 rcases h0 with rfl | rfl
 ·simp at hi hc
  subst hi hc
  exact hy.mono (fun i _ h=>h.1)
 ·simp at hi hc
  subst hi hc
  exact hz.mono (fun i _ h=>h.1)
set_option maxHeartbeats 4000000 in
set_option maxRecDepth 100000 in
theorem cmp_none (w:World) (r g o c:Nat) (l:List TI) (nest:Nat) (h:Rd w r g o c l nest) (hr:r < w.heap.size) (a:Ex) (t:TI) (m:List TI)
  (hC:∀ W o c,Rd W r g o c l nest → r < W.heap.size → Calls Tryz.prog 102 #[.pointer (some ⟨r,0,none⟩)] W (Done r g nest W (.ok (a,t :: m))))
  (hk:t.k=4) (hs:Pol.sign t.s.toList=none) :
  Calls Tryz.prog 99 #[.pointer (some ⟨r,0,none⟩)] w (Done r g nest w (.ok (a,t :: m))):=by
 have HK:=Lib.hid hk
 clear hk
 have HRD:=Lib.hid h
 have HC:=Lib.hid hC
 have HR:=Lib.hid (alloc2 w (.cells #[.pointer (some ⟨r,0,none⟩)] 50) (.cells z5 42))
 have hg:=h.gl
 have HA0:Hid (Fr [] w ((w.alloc (.cells #[.pointer (some ⟨r,0,none⟩)] 50)).alloc (.cells z5 42))):=((Fr.refl [] w).alloc _).alloc _
 have HN:=Lib.hid (HC.out _ o c (HRD.out.fr HA0.out (by simp) (by simp)) (by simp;omega))
 clear h hC
 go_enter Tryz.func99,Tryz.ntmps99
 go_wp2_with fail
 refine HN.out.mono ?_
 intro e w1 hd
 obtain ⟨cs,rfl,hrep,hf3,o3,c3,hr3⟩:=hd
 obtain ⟨op0,s9,n9,q9,k9,c9,p9,rfl⟩:=hrep.form
 obtain ⟨tk,ts,tn,tp⟩:=t
 skip
 have hbx:=hf3.row HR.out.1 (by simp;omega)
 have hrs:=hf3.row HR.out.2 (by simp;omega)
 have hz1:w.heap.size+1 < w1.heap.size:=row_lt hrs
 obtain ⟨a0,a1,a2,a3⟩:=hr3.tk 0 _ rfl
 have c0:=hr3.c0
 have hlc:=hr3.lc
 have hm:=hr3.cm
 have hne:=hr3.ne
 have x0:w1.cell? ⟨w.heap.size,0,none⟩=some (.pointer (some ⟨r,0,none⟩)):=by rw [Lib.cell_of_heap hbx];rfl
 rw [List.length_cons] at c0 hlc
 unfold maxLen at hm
 simp only [Nat.mul_zero,Nat.add_zero] at a0 a1 a2 a3
 have hg1:=hr3.gl
 have hr1:r < w1.heap.size:=row_lt hr3.row
 have hmf:∀ fn first cap w,(Instr.makeFunc fn first cap).run Tryz.prog w=.ok (.func fn first cap) w:=fun _ _ _ _=>rfl
 have HRP:=Lib.hid (hrep.mono (E:=fun i=>w.heap.size ≤ i ∧ i ≠ w.heap.size+1) (fun i hi h=>by
  have h9:((w.alloc (.cells #[.pointer (some ⟨r,0,none⟩)] 50)).alloc (.cells z5 42)).heap.size ≤ i:=h
  simp at h9
  exact ⟨by omega,by omega⟩))
 have HR3:=Lib.hid hr3
 have HBX:=Lib.hid hbx
 have HRS:=Lib.hid hrs
 have HF3:Hid (Fr [r] w w1):=HA0.out.sub.trans hf3 (fun y hy=>.inl hy)
 clear hrep hf3 hr3 hbx hrs HN HR HA0
 have hz0:w.heap.size < w1.heap.size:=by omega
 go_upto_region 5 with fail
 refine wp_fresh (fun W=>Cmp w w.heap.size (w1.heap.size+1) w1.heap.size (w1.heap.size+1+1) (w.heap.size+1) r g o3 c3 (⟨tk,ts,tn,tp⟩ :: m) nest ⟨tk,ts,tn,tp⟩ [.int .i64 op0,.string s9,.int .i64 n9,.slice q9 k9 c9,.int .i64 p9] a W) ?_ ?_
 ·have hal:=alloc3 w1 (.cells #[.int .i64 op0,.string s9,.int .i64 n9,.slice q9 k9 c9,.int .i64 p9] 42) (.cells #[.int .i64 tk,.string ts,.int .i64 tn,.int .i64 tp] 54) (.cells #[.func (.func 103) #[] #[.pointer (some ⟨w.heap.size,0,none⟩),.pointer (some ⟨w1.heap.size+1,0,none⟩),.pointer (some ⟨w1.heap.size,0,none⟩)]] 157)
  have hf:Fr [] w1 _:=(((Fr.refl [] w1).alloc (.cells #[.int .i64 op0,.string s9,.int .i64 n9,.slice q9 k9 c9,.int .i64 p9] 42)).alloc (.cells #[.int .i64 tk,.string ts,.int .i64 tn,.int .i64 tp] 54)).alloc (.cells #[.func (.func 103) #[] #[.pointer (some ⟨w.heap.size,0,none⟩),.pointer (some ⟨w1.heap.size+1,0,none⟩),.pointer (some ⟨w1.heap.size,0,none⟩)]] 157)
  have h1:=HR3.out.fr hf (by simp) (by simp)
  have h2:=hf.row HBX.out (by simp)
  have h3:=hf.row HRS.out (by simp)
  have h4:=HRP.out.fr hf (fun y hy _=>by cases hy)
  have h5:=HF3.out.trans0 hf
  exact ⟨⟨h1,h2,hal.2.1,hal.1,h4,fun i hi=>hi.1,hr,hg,Nat.le_refl _,by omega,by omega⟩,h3,hal.2.2,h5,⟨by omega,by omega,by omega,by omega⟩,by omega,by omega⟩
 intro W h1
 have H:=Lib.hid h1
 clear h1 a0 a1 a2 a3 c0 hlc hm hne x0 HBX HRS HRP HR3
 have hrW:=row_lt H.out.cls.rd.row
 have hresW:=row_lt H.out.res
 have hAW:=row_lt H.out.cls.av
 have hTW:=row_lt H.out.cls.tok
 have hFW:=row_lt H.out.fn
 have kf:∀ i,W.frozen? ⟨(w1.heap.size+1),i,none⟩=false:=fun i=>Lib.frozen_of_heap H.out.cls.tok i
 have k0:W.cell? ⟨(w1.heap.size+1),0,none⟩=some (.int .i64 tk):=by rw [Lib.cell_of_heap H.out.cls.tok];rfl
 have k1:W.cell? ⟨(w1.heap.size+1),1,none⟩=some (.string ts):=by rw [Lib.cell_of_heap H.out.cls.tok];rfl
 have k2:W.cell? ⟨(w1.heap.size+1),2,none⟩=some (.int .i64 tn):=by rw [Lib.cell_of_heap H.out.cls.tok];rfl
 have k3:W.cell? ⟨(w1.heap.size+1),3,none⟩=some (.int .i64 tp):=by rw [Lib.cell_of_heap H.out.cls.tok];rfl
 have ef:∀ i,W.frozen? ⟨w1.heap.size,i,none⟩=false:=fun i=>Lib.frozen_of_heap H.out.cls.av i
 have e0:W.cell? ⟨w1.heap.size,0,none⟩=some (.int .i64 op0):=by rw [Lib.cell_of_heap H.out.cls.av];rfl
 have e1:W.cell? ⟨w1.heap.size,1,none⟩=some (.string s9):=by rw [Lib.cell_of_heap H.out.cls.av];rfl
 have e2:W.cell? ⟨w1.heap.size,2,none⟩=some (.int .i64 n9):=by rw [Lib.cell_of_heap H.out.cls.av];rfl
 have e3:W.cell? ⟨w1.heap.size,3,none⟩=some (.slice q9 k9 c9):=by rw [Lib.cell_of_heap H.out.cls.av];rfl
 have e4:W.cell? ⟨w1.heap.size,4,none⟩=some (.int .i64 p9):=by rw [Lib.cell_of_heap H.out.cls.av];rfl
 have xf:∀ i,W.frozen? ⟨w.heap.size,i,none⟩=false:=fun i=>Lib.frozen_of_heap H.out.cls.box i
 have x0:W.cell? ⟨w.heap.size,0,none⟩=some (.pointer (some ⟨r,0,none⟩)):=by rw [Lib.cell_of_heap H.out.cls.box];rfl
 have yf:∀ i,W.frozen? ⟨(w1.heap.size+1+1),i,none⟩=false:=fun i=>Lib.frozen_of_heap H.out.fn i
 have y0:W.cell? ⟨(w1.heap.size+1+1),0,none⟩=some (.func (.func 103) #[] #[.pointer (some ⟨w.heap.size,0,none⟩),.pointer (some ⟨w1.heap.size+1,0,none⟩),.pointer (some ⟨w1.heap.size,0,none⟩)]):=by rw [Lib.cell_of_heap H.out.fn];rfl
 have d4:(tk == 4)=true:=by simpa using HK.out
 have q0:(ts.toList == [61])=false:=by
  cases h9:(ts.toList == [61]) with
  | false=>rfl
  | true=>rw [beq_iff_eq] at h9;rw [h9] at hs;exact absurd hs (by decide)
 have q1:(ts.toList == [33,61])=false:=by
  cases h9:(ts.toList == [33,61]) with
  | false=>rfl
  | true=>rw [beq_iff_eq] at h9;rw [h9] at hs;exact absurd hs (by decide)
 have q2:(ts.toList == [60])=false:=by
  cases h9:(ts.toList == [60]) with
  | false=>rfl
  | true=>rw [beq_iff_eq] at h9;rw [h9] at hs;exact absurd hs (by decide)
 have q3:(ts.toList == [60,61])=false:=by
  cases h9:(ts.toList == [60,61]) with
  | false=>rfl
  | true=>rw [beq_iff_eq] at h9;rw [h9] at hs;exact absurd hs (by decide)
 have q4:(ts.toList == [62])=false:=by
  cases h9:(ts.toList == [62]) with
  | false=>rfl
  | true=>rw [beq_iff_eq] at h9;rw [h9] at hs;exact absurd hs (by decide)
 have q5:(ts.toList == [62,61])=false:=by
  cases h9:(ts.toList == [62,61]) with
  | false=>rfl
  | true=>rw [beq_iff_eq] at h9;rw [h9] at hs;exact absurd hs (by decide)
 clear hs
 have zf:∀ i,W.frozen? ⟨(w.heap.size+1),i,none⟩=false:=fun i=>Lib.frozen_of_heap H.out.res i
 have z0:W.cell? ⟨(w.heap.size+1),0,none⟩=some (.int .i64 0):=by rw [Lib.cell_of_heap H.out.res];rfl
 have z1:W.cell? ⟨(w.heap.size+1),1,none⟩=some (.string ⟨#[]⟩):=by rw [Lib.cell_of_heap H.out.res];rfl
 have z2:W.cell? ⟨(w.heap.size+1),2,none⟩=some (.int .i64 0):=by rw [Lib.cell_of_heap H.out.res];rfl
 have z3:W.cell? ⟨(w.heap.size+1),3,none⟩=some (.slice none 0 0):=by rw [Lib.cell_of_heap H.out.res];rfl
 have z4:W.cell? ⟨(w.heap.size+1),4,none⟩=some (.int .i64 0):=by rw [Lib.cell_of_heap H.out.res];rfl
 have HG:=Lib.hid (H.out.give H.out.cls.rep)
 have HT:=Lib.hid (heap_five H.out.res (.int .i64 op0) (.string s9) (.int .i64 n9) (.slice q9 k9 c9) (.int .i64 p9))
 go_wp2_with fail
 refine bodyPost_ret (v:=.agg #[.int .i64 op0,.string s9,.int .i64 n9,.slice q9 k9 c9,.int .i64 p9]) (results_cell_row rfl _ _ (w.heap.size+1) _ _ (0,0) _ rfl HT.out Tryz.underlying42 rfl (by kernel_rfl)) rfl ?_
 exact HG.out
def Pol.twoOf (op p:Int) (turned:Bool) (a:Ex):Pol.PR Ex → Pol.PR Ex
 | .error e=>.error e
 | .ok (y,m)=>.ok (.mk op Pol.none_ 0 (if turned=true then [y,a] else [a,y]) p,m)
set_option maxHeartbeats 4000000 in
set_option maxRecDepth 100000 in
theorem cmp_eq (w:World) (r g o c:Nat) (l:List TI) (nest:Nat) (h:Rd w r g o c l nest) (hr:r < w.heap.size) (a:Ex) (t:TI) (m:List TI)
  (hC:∀ W o c,Rd W r g o c l nest → r < W.heap.size → Calls Tryz.prog 102 #[.pointer (some ⟨r,0,none⟩)] W (Done r g nest W (.ok (a,t :: m))))
  (hm:0 < m.length) (q:Pol.PR Ex) (hC2:∀ W o c,Rd W r g o c m nest → r < W.heap.size → Calls Tryz.prog 102 #[.pointer (some ⟨r,0,none⟩)] W (Done r g nest W q))
  (hk:t.k=4) (hs:t.s.toList=[61]) :
  Calls Tryz.prog 99 #[.pointer (some ⟨r,0,none⟩)] w (Done r g nest w (Pol.twoOf 9 t.p false a q)):=by
 have HK:=Lib.hid hk
 clear hk
 have HRD:=Lib.hid h
 have HC:=Lib.hid hC
 have HR:=Lib.hid (alloc2 w (.cells #[.pointer (some ⟨r,0,none⟩)] 50) (.cells z5 42))
 have hg:=h.gl
 have HA0:Hid (Fr [] w ((w.alloc (.cells #[.pointer (some ⟨r,0,none⟩)] 50)).alloc (.cells z5 42))):=((Fr.refl [] w).alloc _).alloc _
 have HN:=Lib.hid (HC.out _ o c (HRD.out.fr HA0.out (by simp) (by simp)) (by simp;omega))
 clear h hC
 go_enter Tryz.func99,Tryz.ntmps99
 go_wp2_with fail
 refine HN.out.mono ?_
 intro e w1 hd
 obtain ⟨cs,rfl,hrep,hf3,o3,c3,hr3⟩:=hd
 obtain ⟨op0,s9,n9,q9,k9,c9,p9,rfl⟩:=hrep.form
 obtain ⟨tk,ts,tn,tp⟩:=t
 skip
 have hbx:=hf3.row HR.out.1 (by simp;omega)
 have hrs:=hf3.row HR.out.2 (by simp;omega)
 have hz1:w.heap.size+1 < w1.heap.size:=row_lt hrs
 obtain ⟨a0,a1,a2,a3⟩:=hr3.tk 0 _ rfl
 have c0:=hr3.c0
 have hlc:=hr3.lc
 have hm:=hr3.cm
 have hne:=hr3.ne
 have x0:w1.cell? ⟨w.heap.size,0,none⟩=some (.pointer (some ⟨r,0,none⟩)):=by rw [Lib.cell_of_heap hbx];rfl
 rw [List.length_cons] at c0 hlc
 unfold maxLen at hm
 simp only [Nat.mul_zero,Nat.add_zero] at a0 a1 a2 a3
 have hg1:=hr3.gl
 have hr1:r < w1.heap.size:=row_lt hr3.row
 have hmf:∀ fn first cap w,(Instr.makeFunc fn first cap).run Tryz.prog w=.ok (.func fn first cap) w:=fun _ _ _ _=>rfl
 have HRP:=Lib.hid (hrep.mono (E:=fun i=>w.heap.size ≤ i ∧ i ≠ w.heap.size+1) (fun i hi h=>by
  have h9:((w.alloc (.cells #[.pointer (some ⟨r,0,none⟩)] 50)).alloc (.cells z5 42)).heap.size ≤ i:=h
  simp at h9
  exact ⟨by omega,by omega⟩))
 have HR3:=Lib.hid hr3
 have HBX:=Lib.hid hbx
 have HRS:=Lib.hid hrs
 have HF3:Hid (Fr [r] w w1):=HA0.out.sub.trans hf3 (fun y hy=>.inl hy)
 clear hrep hf3 hr3 hbx hrs HN HR HA0
 have hz0:w.heap.size < w1.heap.size:=by omega
 go_upto_region 5 with fail
 refine wp_fresh (fun W=>Cmp w w.heap.size (w1.heap.size+1) w1.heap.size (w1.heap.size+1+1) (w.heap.size+1) r g o3 c3 (⟨tk,ts,tn,tp⟩ :: m) nest ⟨tk,ts,tn,tp⟩ [.int .i64 op0,.string s9,.int .i64 n9,.slice q9 k9 c9,.int .i64 p9] a W) ?_ ?_
 ·have hal:=alloc3 w1 (.cells #[.int .i64 op0,.string s9,.int .i64 n9,.slice q9 k9 c9,.int .i64 p9] 42) (.cells #[.int .i64 tk,.string ts,.int .i64 tn,.int .i64 tp] 54) (.cells #[.func (.func 103) #[] #[.pointer (some ⟨w.heap.size,0,none⟩),.pointer (some ⟨w1.heap.size+1,0,none⟩),.pointer (some ⟨w1.heap.size,0,none⟩)]] 157)
  have hf:Fr [] w1 _:=(((Fr.refl [] w1).alloc (.cells #[.int .i64 op0,.string s9,.int .i64 n9,.slice q9 k9 c9,.int .i64 p9] 42)).alloc (.cells #[.int .i64 tk,.string ts,.int .i64 tn,.int .i64 tp] 54)).alloc (.cells #[.func (.func 103) #[] #[.pointer (some ⟨w.heap.size,0,none⟩),.pointer (some ⟨w1.heap.size+1,0,none⟩),.pointer (some ⟨w1.heap.size,0,none⟩)]] 157)
  have h1:=HR3.out.fr hf (by simp) (by simp)
  have h2:=hf.row HBX.out (by simp)
  have h3:=hf.row HRS.out (by simp)
  have h4:=HRP.out.fr hf (fun y hy _=>by cases hy)
  have h5:=HF3.out.trans0 hf
  exact ⟨⟨h1,h2,hal.2.1,hal.1,h4,fun i hi=>hi.1,hr,hg,Nat.le_refl _,by omega,by omega⟩,h3,hal.2.2,h5,⟨by omega,by omega,by omega,by omega⟩,by omega,by omega⟩
 intro W h1
 have H:=Lib.hid h1
 clear h1 a0 a1 a2 a3 c0 hlc hm hne x0 HBX HRS HRP HR3
 have hrW:=row_lt H.out.cls.rd.row
 have hresW:=row_lt H.out.res
 have hAW:=row_lt H.out.cls.av
 have hTW:=row_lt H.out.cls.tok
 have hFW:=row_lt H.out.fn
 have kf:∀ i,W.frozen? ⟨(w1.heap.size+1),i,none⟩=false:=fun i=>Lib.frozen_of_heap H.out.cls.tok i
 have k0:W.cell? ⟨(w1.heap.size+1),0,none⟩=some (.int .i64 tk):=by rw [Lib.cell_of_heap H.out.cls.tok];rfl
 have k1:W.cell? ⟨(w1.heap.size+1),1,none⟩=some (.string ts):=by rw [Lib.cell_of_heap H.out.cls.tok];rfl
 have k2:W.cell? ⟨(w1.heap.size+1),2,none⟩=some (.int .i64 tn):=by rw [Lib.cell_of_heap H.out.cls.tok];rfl
 have k3:W.cell? ⟨(w1.heap.size+1),3,none⟩=some (.int .i64 tp):=by rw [Lib.cell_of_heap H.out.cls.tok];rfl
 have ef:∀ i,W.frozen? ⟨w1.heap.size,i,none⟩=false:=fun i=>Lib.frozen_of_heap H.out.cls.av i
 have e0:W.cell? ⟨w1.heap.size,0,none⟩=some (.int .i64 op0):=by rw [Lib.cell_of_heap H.out.cls.av];rfl
 have e1:W.cell? ⟨w1.heap.size,1,none⟩=some (.string s9):=by rw [Lib.cell_of_heap H.out.cls.av];rfl
 have e2:W.cell? ⟨w1.heap.size,2,none⟩=some (.int .i64 n9):=by rw [Lib.cell_of_heap H.out.cls.av];rfl
 have e3:W.cell? ⟨w1.heap.size,3,none⟩=some (.slice q9 k9 c9):=by rw [Lib.cell_of_heap H.out.cls.av];rfl
 have e4:W.cell? ⟨w1.heap.size,4,none⟩=some (.int .i64 p9):=by rw [Lib.cell_of_heap H.out.cls.av];rfl
 have xf:∀ i,W.frozen? ⟨w.heap.size,i,none⟩=false:=fun i=>Lib.frozen_of_heap H.out.cls.box i
 have x0:W.cell? ⟨w.heap.size,0,none⟩=some (.pointer (some ⟨r,0,none⟩)):=by rw [Lib.cell_of_heap H.out.cls.box];rfl
 have yf:∀ i,W.frozen? ⟨(w1.heap.size+1+1),i,none⟩=false:=fun i=>Lib.frozen_of_heap H.out.fn i
 have y0:W.cell? ⟨(w1.heap.size+1+1),0,none⟩=some (.func (.func 103) #[] #[.pointer (some ⟨w.heap.size,0,none⟩),.pointer (some ⟨w1.heap.size+1,0,none⟩),.pointer (some ⟨w1.heap.size,0,none⟩)]):=by rw [Lib.cell_of_heap H.out.fn];rfl
 have d4:(tk == 4)=true:=by simpa using HK.out
 have q0:(ts.toList == [61])=true:=by rw [hs];rfl
 clear hs
 have HTWO:=Lib.hid (two_reads _ _ _ _ _ r g _ _ _ m nest _ _ a W H.out.cls H.out.below hm 9 q hC2)
 clear hC2
 go_wp2_with fail
 refine HTWO.out.mono ?_
 intro e w2 hd
 cases q with
 | error pe =>
  obtain ⟨pp,pn⟩:=pe
  have hs9:Stops [r] W pp pn e w2:=hd
  obtain ⟨b9,hb9,rfl,hrow9,hf9⟩:=hs9.from (bs:=[r]) H.out.f (fun y hy=>.inl (by simpa using hy))
  show _
  exact ⟨rfl,Done.stop ⟨b9,hb9,rfl,hrow9,hf9⟩⟩
 | ok ym =>
  obtain ⟨y,m2⟩:=ym
  obtain ⟨ca,cb,rb,rfl,hrb,hrbz,hra,hry,hf3,o4,c4,hr4⟩:=hd
  have hrp:=rep_two hra hry hrb (H.out.below _ hrbz) 9 tp
  have H:=Lib.hid (H.out.step hf3 hr4)
  have HRP:=Lib.hid hrp
  clear hrb hrbz hra hry hf3 hr4 hrp HTWO k0 k1 k2 k3 kf e0 e1 e2 e3 e4 ef x0 xf y0 yf
  have zf:∀ i,w2.frozen? ⟨(w.heap.size+1),i,none⟩=false:=fun i=>Lib.frozen_of_heap H.out.res i
  have z0:w2.cell? ⟨(w.heap.size+1),0,none⟩=some (.int .i64 0):=by rw [Lib.cell_of_heap H.out.res];rfl
  have z1:w2.cell? ⟨(w.heap.size+1),1,none⟩=some (.string ⟨#[]⟩):=by rw [Lib.cell_of_heap H.out.res];rfl
  have z2:w2.cell? ⟨(w.heap.size+1),2,none⟩=some (.int .i64 0):=by rw [Lib.cell_of_heap H.out.res];rfl
  have z3:w2.cell? ⟨(w.heap.size+1),3,none⟩=some (.slice none 0 0):=by rw [Lib.cell_of_heap H.out.res];rfl
  have z4:w2.cell? ⟨(w.heap.size+1),4,none⟩=some (.int .i64 0):=by rw [Lib.cell_of_heap H.out.res];rfl
  have HG:=Lib.hid (H.out.give HRP.out)
  have HT:=Lib.hid (heap_five H.out.res (.int .i64 9) (.string ⟨#[]⟩) (.int .i64 0) (.slice (some ⟨rb,0,none⟩) 2 2) (.int .i64 tp))
  go_wp2_with fail
  refine bodyPost_ret (v:=.agg #[.int .i64 9,.string ⟨#[]⟩,.int .i64 0,.slice (some ⟨rb,0,none⟩) 2 2,.int .i64 tp]) (results_cell_row rfl _ _ (w.heap.size+1) _ _ (0,0) _ rfl HT.out Tryz.underlying42 rfl (by kernel_rfl)) rfl ?_
  exact HG.out
set_option maxHeartbeats 4000000 in
set_option maxRecDepth 100000 in
theorem cmp_ne (w:World) (r g o c:Nat) (l:List TI) (nest:Nat) (h:Rd w r g o c l nest) (hr:r < w.heap.size) (a:Ex) (t:TI) (m:List TI)
  (hC:∀ W o c,Rd W r g o c l nest → r < W.heap.size → Calls Tryz.prog 102 #[.pointer (some ⟨r,0,none⟩)] W (Done r g nest W (.ok (a,t :: m))))
  (hm:0 < m.length) (q:Pol.PR Ex) (hC2:∀ W o c,Rd W r g o c m nest → r < W.heap.size → Calls Tryz.prog 102 #[.pointer (some ⟨r,0,none⟩)] W (Done r g nest W q))
  (hk:t.k=4) (hs:t.s.toList=[33,61]) :
  Calls Tryz.prog 99 #[.pointer (some ⟨r,0,none⟩)] w (Done r g nest w (Pol.twoOf 10 t.p false a q)):=by
 have HK:=Lib.hid hk
 clear hk
 have HRD:=Lib.hid h
 have HC:=Lib.hid hC
 have HR:=Lib.hid (alloc2 w (.cells #[.pointer (some ⟨r,0,none⟩)] 50) (.cells z5 42))
 have hg:=h.gl
 have HA0:Hid (Fr [] w ((w.alloc (.cells #[.pointer (some ⟨r,0,none⟩)] 50)).alloc (.cells z5 42))):=((Fr.refl [] w).alloc _).alloc _
 have HN:=Lib.hid (HC.out _ o c (HRD.out.fr HA0.out (by simp) (by simp)) (by simp;omega))
 clear h hC
 go_enter Tryz.func99,Tryz.ntmps99
 go_wp2_with fail
 refine HN.out.mono ?_
 intro e w1 hd
 obtain ⟨cs,rfl,hrep,hf3,o3,c3,hr3⟩:=hd
 obtain ⟨op0,s9,n9,q9,k9,c9,p9,rfl⟩:=hrep.form
 obtain ⟨tk,ts,tn,tp⟩:=t
 skip
 have hbx:=hf3.row HR.out.1 (by simp;omega)
 have hrs:=hf3.row HR.out.2 (by simp;omega)
 have hz1:w.heap.size+1 < w1.heap.size:=row_lt hrs
 obtain ⟨a0,a1,a2,a3⟩:=hr3.tk 0 _ rfl
 have c0:=hr3.c0
 have hlc:=hr3.lc
 have hm:=hr3.cm
 have hne:=hr3.ne
 have x0:w1.cell? ⟨w.heap.size,0,none⟩=some (.pointer (some ⟨r,0,none⟩)):=by rw [Lib.cell_of_heap hbx];rfl
 rw [List.length_cons] at c0 hlc
 unfold maxLen at hm
 simp only [Nat.mul_zero,Nat.add_zero] at a0 a1 a2 a3
 have hg1:=hr3.gl
 have hr1:r < w1.heap.size:=row_lt hr3.row
 have hmf:∀ fn first cap w,(Instr.makeFunc fn first cap).run Tryz.prog w=.ok (.func fn first cap) w:=fun _ _ _ _=>rfl
 have HRP:=Lib.hid (hrep.mono (E:=fun i=>w.heap.size ≤ i ∧ i ≠ w.heap.size+1) (fun i hi h=>by
  have h9:((w.alloc (.cells #[.pointer (some ⟨r,0,none⟩)] 50)).alloc (.cells z5 42)).heap.size ≤ i:=h
  simp at h9
  exact ⟨by omega,by omega⟩))
 have HR3:=Lib.hid hr3
 have HBX:=Lib.hid hbx
 have HRS:=Lib.hid hrs
 have HF3:Hid (Fr [r] w w1):=HA0.out.sub.trans hf3 (fun y hy=>.inl hy)
 clear hrep hf3 hr3 hbx hrs HN HR HA0
 have hz0:w.heap.size < w1.heap.size:=by omega
 go_upto_region 5 with fail
 refine wp_fresh (fun W=>Cmp w w.heap.size (w1.heap.size+1) w1.heap.size (w1.heap.size+1+1) (w.heap.size+1) r g o3 c3 (⟨tk,ts,tn,tp⟩ :: m) nest ⟨tk,ts,tn,tp⟩ [.int .i64 op0,.string s9,.int .i64 n9,.slice q9 k9 c9,.int .i64 p9] a W) ?_ ?_
 ·have hal:=alloc3 w1 (.cells #[.int .i64 op0,.string s9,.int .i64 n9,.slice q9 k9 c9,.int .i64 p9] 42) (.cells #[.int .i64 tk,.string ts,.int .i64 tn,.int .i64 tp] 54) (.cells #[.func (.func 103) #[] #[.pointer (some ⟨w.heap.size,0,none⟩),.pointer (some ⟨w1.heap.size+1,0,none⟩),.pointer (some ⟨w1.heap.size,0,none⟩)]] 157)
  have hf:Fr [] w1 _:=(((Fr.refl [] w1).alloc (.cells #[.int .i64 op0,.string s9,.int .i64 n9,.slice q9 k9 c9,.int .i64 p9] 42)).alloc (.cells #[.int .i64 tk,.string ts,.int .i64 tn,.int .i64 tp] 54)).alloc (.cells #[.func (.func 103) #[] #[.pointer (some ⟨w.heap.size,0,none⟩),.pointer (some ⟨w1.heap.size+1,0,none⟩),.pointer (some ⟨w1.heap.size,0,none⟩)]] 157)
  have h1:=HR3.out.fr hf (by simp) (by simp)
  have h2:=hf.row HBX.out (by simp)
  have h3:=hf.row HRS.out (by simp)
  have h4:=HRP.out.fr hf (fun y hy _=>by cases hy)
  have h5:=HF3.out.trans0 hf
  exact ⟨⟨h1,h2,hal.2.1,hal.1,h4,fun i hi=>hi.1,hr,hg,Nat.le_refl _,by omega,by omega⟩,h3,hal.2.2,h5,⟨by omega,by omega,by omega,by omega⟩,by omega,by omega⟩
 intro W h1
 have H:=Lib.hid h1
 clear h1 a0 a1 a2 a3 c0 hlc hm hne x0 HBX HRS HRP HR3
 have hrW:=row_lt H.out.cls.rd.row
 have hresW:=row_lt H.out.res
 have hAW:=row_lt H.out.cls.av
 have hTW:=row_lt H.out.cls.tok
 have hFW:=row_lt H.out.fn
 have kf:∀ i,W.frozen? ⟨(w1.heap.size+1),i,none⟩=false:=fun i=>Lib.frozen_of_heap H.out.cls.tok i
 have k0:W.cell? ⟨(w1.heap.size+1),0,none⟩=some (.int .i64 tk):=by rw [Lib.cell_of_heap H.out.cls.tok];rfl
 have k1:W.cell? ⟨(w1.heap.size+1),1,none⟩=some (.string ts):=by rw [Lib.cell_of_heap H.out.cls.tok];rfl
 have k2:W.cell? ⟨(w1.heap.size+1),2,none⟩=some (.int .i64 tn):=by rw [Lib.cell_of_heap H.out.cls.tok];rfl
 have k3:W.cell? ⟨(w1.heap.size+1),3,none⟩=some (.int .i64 tp):=by rw [Lib.cell_of_heap H.out.cls.tok];rfl
 have ef:∀ i,W.frozen? ⟨w1.heap.size,i,none⟩=false:=fun i=>Lib.frozen_of_heap H.out.cls.av i
 have e0:W.cell? ⟨w1.heap.size,0,none⟩=some (.int .i64 op0):=by rw [Lib.cell_of_heap H.out.cls.av];rfl
 have e1:W.cell? ⟨w1.heap.size,1,none⟩=some (.string s9):=by rw [Lib.cell_of_heap H.out.cls.av];rfl
 have e2:W.cell? ⟨w1.heap.size,2,none⟩=some (.int .i64 n9):=by rw [Lib.cell_of_heap H.out.cls.av];rfl
 have e3:W.cell? ⟨w1.heap.size,3,none⟩=some (.slice q9 k9 c9):=by rw [Lib.cell_of_heap H.out.cls.av];rfl
 have e4:W.cell? ⟨w1.heap.size,4,none⟩=some (.int .i64 p9):=by rw [Lib.cell_of_heap H.out.cls.av];rfl
 have xf:∀ i,W.frozen? ⟨w.heap.size,i,none⟩=false:=fun i=>Lib.frozen_of_heap H.out.cls.box i
 have x0:W.cell? ⟨w.heap.size,0,none⟩=some (.pointer (some ⟨r,0,none⟩)):=by rw [Lib.cell_of_heap H.out.cls.box];rfl
 have yf:∀ i,W.frozen? ⟨(w1.heap.size+1+1),i,none⟩=false:=fun i=>Lib.frozen_of_heap H.out.fn i
 have y0:W.cell? ⟨(w1.heap.size+1+1),0,none⟩=some (.func (.func 103) #[] #[.pointer (some ⟨w.heap.size,0,none⟩),.pointer (some ⟨w1.heap.size+1,0,none⟩),.pointer (some ⟨w1.heap.size,0,none⟩)]):=by rw [Lib.cell_of_heap H.out.fn];rfl
 have d4:(tk == 4)=true:=by simpa using HK.out
 have q0:(ts.toList == [61])=false:=by rw [hs];rfl
 have q1:(ts.toList == [33,61])=true:=by rw [hs];rfl
 clear hs
 have HTWO:=Lib.hid (two_reads _ _ _ _ _ r g _ _ _ m nest _ _ a W H.out.cls H.out.below hm 10 q hC2)
 clear hC2
 go_wp2_with fail
 refine HTWO.out.mono ?_
 intro e w2 hd
 cases q with
 | error pe =>
  obtain ⟨pp,pn⟩:=pe
  have hs9:Stops [r] W pp pn e w2:=hd
  obtain ⟨b9,hb9,rfl,hrow9,hf9⟩:=hs9.from (bs:=[r]) H.out.f (fun y hy=>.inl (by simpa using hy))
  show _
  exact ⟨rfl,Done.stop ⟨b9,hb9,rfl,hrow9,hf9⟩⟩
 | ok ym =>
  obtain ⟨y,m2⟩:=ym
  obtain ⟨ca,cb,rb,rfl,hrb,hrbz,hra,hry,hf3,o4,c4,hr4⟩:=hd
  have hrp:=rep_two hra hry hrb (H.out.below _ hrbz) 10 tp
  have H:=Lib.hid (H.out.step hf3 hr4)
  have HRP:=Lib.hid hrp
  clear hrb hrbz hra hry hf3 hr4 hrp HTWO k0 k1 k2 k3 kf e0 e1 e2 e3 e4 ef x0 xf y0 yf
  have zf:∀ i,w2.frozen? ⟨(w.heap.size+1),i,none⟩=false:=fun i=>Lib.frozen_of_heap H.out.res i
  have z0:w2.cell? ⟨(w.heap.size+1),0,none⟩=some (.int .i64 0):=by rw [Lib.cell_of_heap H.out.res];rfl
  have z1:w2.cell? ⟨(w.heap.size+1),1,none⟩=some (.string ⟨#[]⟩):=by rw [Lib.cell_of_heap H.out.res];rfl
  have z2:w2.cell? ⟨(w.heap.size+1),2,none⟩=some (.int .i64 0):=by rw [Lib.cell_of_heap H.out.res];rfl
  have z3:w2.cell? ⟨(w.heap.size+1),3,none⟩=some (.slice none 0 0):=by rw [Lib.cell_of_heap H.out.res];rfl
  have z4:w2.cell? ⟨(w.heap.size+1),4,none⟩=some (.int .i64 0):=by rw [Lib.cell_of_heap H.out.res];rfl
  have HG:=Lib.hid (H.out.give HRP.out)
  have HT:=Lib.hid (heap_five H.out.res (.int .i64 10) (.string ⟨#[]⟩) (.int .i64 0) (.slice (some ⟨rb,0,none⟩) 2 2) (.int .i64 tp))
  go_wp2_with fail
  refine bodyPost_ret (v:=.agg #[.int .i64 10,.string ⟨#[]⟩,.int .i64 0,.slice (some ⟨rb,0,none⟩) 2 2,.int .i64 tp]) (results_cell_row rfl _ _ (w.heap.size+1) _ _ (0,0) _ rfl HT.out Tryz.underlying42 rfl (by kernel_rfl)) rfl ?_
  exact HG.out
set_option maxHeartbeats 4000000 in
set_option maxRecDepth 100000 in
theorem cmp_lt (w:World) (r g o c:Nat) (l:List TI) (nest:Nat) (h:Rd w r g o c l nest) (hr:r < w.heap.size) (a:Ex) (t:TI) (m:List TI)
  (hC:∀ W o c,Rd W r g o c l nest → r < W.heap.size → Calls Tryz.prog 102 #[.pointer (some ⟨r,0,none⟩)] W (Done r g nest W (.ok (a,t :: m))))
  (hm:0 < m.length) (q:Pol.PR Ex) (hC2:∀ W o c,Rd W r g o c m nest → r < W.heap.size → Calls Tryz.prog 102 #[.pointer (some ⟨r,0,none⟩)] W (Done r g nest W q))
  (hk:t.k=4) (hs:t.s.toList=[60]) :
  Calls Tryz.prog 99 #[.pointer (some ⟨r,0,none⟩)] w (Done r g nest w (Pol.twoOf 11 t.p false a q)):=by
 have HK:=Lib.hid hk
 clear hk
 have HRD:=Lib.hid h
 have HC:=Lib.hid hC
 have HR:=Lib.hid (alloc2 w (.cells #[.pointer (some ⟨r,0,none⟩)] 50) (.cells z5 42))
 have hg:=h.gl
 have HA0:Hid (Fr [] w ((w.alloc (.cells #[.pointer (some ⟨r,0,none⟩)] 50)).alloc (.cells z5 42))):=((Fr.refl [] w).alloc _).alloc _
 have HN:=Lib.hid (HC.out _ o c (HRD.out.fr HA0.out (by simp) (by simp)) (by simp;omega))
 clear h hC
 go_enter Tryz.func99,Tryz.ntmps99
 go_wp2_with fail
 refine HN.out.mono ?_
 intro e w1 hd
 obtain ⟨cs,rfl,hrep,hf3,o3,c3,hr3⟩:=hd
 obtain ⟨op0,s9,n9,q9,k9,c9,p9,rfl⟩:=hrep.form
 obtain ⟨tk,ts,tn,tp⟩:=t
 skip
 have hbx:=hf3.row HR.out.1 (by simp;omega)
 have hrs:=hf3.row HR.out.2 (by simp;omega)
 have hz1:w.heap.size+1 < w1.heap.size:=row_lt hrs
 obtain ⟨a0,a1,a2,a3⟩:=hr3.tk 0 _ rfl
 have c0:=hr3.c0
 have hlc:=hr3.lc
 have hm:=hr3.cm
 have hne:=hr3.ne
 have x0:w1.cell? ⟨w.heap.size,0,none⟩=some (.pointer (some ⟨r,0,none⟩)):=by rw [Lib.cell_of_heap hbx];rfl
 rw [List.length_cons] at c0 hlc
 unfold maxLen at hm
 simp only [Nat.mul_zero,Nat.add_zero] at a0 a1 a2 a3
 have hg1:=hr3.gl
 have hr1:r < w1.heap.size:=row_lt hr3.row
 have hmf:∀ fn first cap w,(Instr.makeFunc fn first cap).run Tryz.prog w=.ok (.func fn first cap) w:=fun _ _ _ _=>rfl
 have HRP:=Lib.hid (hrep.mono (E:=fun i=>w.heap.size ≤ i ∧ i ≠ w.heap.size+1) (fun i hi h=>by
  have h9:((w.alloc (.cells #[.pointer (some ⟨r,0,none⟩)] 50)).alloc (.cells z5 42)).heap.size ≤ i:=h
  simp at h9
  exact ⟨by omega,by omega⟩))
 have HR3:=Lib.hid hr3
 have HBX:=Lib.hid hbx
 have HRS:=Lib.hid hrs
 have HF3:Hid (Fr [r] w w1):=HA0.out.sub.trans hf3 (fun y hy=>.inl hy)
 clear hrep hf3 hr3 hbx hrs HN HR HA0
 have hz0:w.heap.size < w1.heap.size:=by omega
 go_upto_region 5 with fail
 refine wp_fresh (fun W=>Cmp w w.heap.size (w1.heap.size+1) w1.heap.size (w1.heap.size+1+1) (w.heap.size+1) r g o3 c3 (⟨tk,ts,tn,tp⟩ :: m) nest ⟨tk,ts,tn,tp⟩ [.int .i64 op0,.string s9,.int .i64 n9,.slice q9 k9 c9,.int .i64 p9] a W) ?_ ?_
 ·have hal:=alloc3 w1 (.cells #[.int .i64 op0,.string s9,.int .i64 n9,.slice q9 k9 c9,.int .i64 p9] 42) (.cells #[.int .i64 tk,.string ts,.int .i64 tn,.int .i64 tp] 54) (.cells #[.func (.func 103) #[] #[.pointer (some ⟨w.heap.size,0,none⟩),.pointer (some ⟨w1.heap.size+1,0,none⟩),.pointer (some ⟨w1.heap.size,0,none⟩)]] 157)
  have hf:Fr [] w1 _:=(((Fr.refl [] w1).alloc (.cells #[.int .i64 op0,.string s9,.int .i64 n9,.slice q9 k9 c9,.int .i64 p9] 42)).alloc (.cells #[.int .i64 tk,.string ts,.int .i64 tn,.int .i64 tp] 54)).alloc (.cells #[.func (.func 103) #[] #[.pointer (some ⟨w.heap.size,0,none⟩),.pointer (some ⟨w1.heap.size+1,0,none⟩),.pointer (some ⟨w1.heap.size,0,none⟩)]] 157)
  have h1:=HR3.out.fr hf (by simp) (by simp)
  have h2:=hf.row HBX.out (by simp)
  have h3:=hf.row HRS.out (by simp)
  have h4:=HRP.out.fr hf (fun y hy _=>by cases hy)
  have h5:=HF3.out.trans0 hf
  exact ⟨⟨h1,h2,hal.2.1,hal.1,h4,fun i hi=>hi.1,hr,hg,Nat.le_refl _,by omega,by omega⟩,h3,hal.2.2,h5,⟨by omega,by omega,by omega,by omega⟩,by omega,by omega⟩
 intro W h1
 have H:=Lib.hid h1
 clear h1 a0 a1 a2 a3 c0 hlc hm hne x0 HBX HRS HRP HR3
 have hrW:=row_lt H.out.cls.rd.row
 have hresW:=row_lt H.out.res
 have hAW:=row_lt H.out.cls.av
 have hTW:=row_lt H.out.cls.tok
 have hFW:=row_lt H.out.fn
 have kf:∀ i,W.frozen? ⟨(w1.heap.size+1),i,none⟩=false:=fun i=>Lib.frozen_of_heap H.out.cls.tok i
 have k0:W.cell? ⟨(w1.heap.size+1),0,none⟩=some (.int .i64 tk):=by rw [Lib.cell_of_heap H.out.cls.tok];rfl
 have k1:W.cell? ⟨(w1.heap.size+1),1,none⟩=some (.string ts):=by rw [Lib.cell_of_heap H.out.cls.tok];rfl
 have k2:W.cell? ⟨(w1.heap.size+1),2,none⟩=some (.int .i64 tn):=by rw [Lib.cell_of_heap H.out.cls.tok];rfl
 have k3:W.cell? ⟨(w1.heap.size+1),3,none⟩=some (.int .i64 tp):=by rw [Lib.cell_of_heap H.out.cls.tok];rfl
 have ef:∀ i,W.frozen? ⟨w1.heap.size,i,none⟩=false:=fun i=>Lib.frozen_of_heap H.out.cls.av i
 have e0:W.cell? ⟨w1.heap.size,0,none⟩=some (.int .i64 op0):=by rw [Lib.cell_of_heap H.out.cls.av];rfl
 have e1:W.cell? ⟨w1.heap.size,1,none⟩=some (.string s9):=by rw [Lib.cell_of_heap H.out.cls.av];rfl
 have e2:W.cell? ⟨w1.heap.size,2,none⟩=some (.int .i64 n9):=by rw [Lib.cell_of_heap H.out.cls.av];rfl
 have e3:W.cell? ⟨w1.heap.size,3,none⟩=some (.slice q9 k9 c9):=by rw [Lib.cell_of_heap H.out.cls.av];rfl
 have e4:W.cell? ⟨w1.heap.size,4,none⟩=some (.int .i64 p9):=by rw [Lib.cell_of_heap H.out.cls.av];rfl
 have xf:∀ i,W.frozen? ⟨w.heap.size,i,none⟩=false:=fun i=>Lib.frozen_of_heap H.out.cls.box i
 have x0:W.cell? ⟨w.heap.size,0,none⟩=some (.pointer (some ⟨r,0,none⟩)):=by rw [Lib.cell_of_heap H.out.cls.box];rfl
 have yf:∀ i,W.frozen? ⟨(w1.heap.size+1+1),i,none⟩=false:=fun i=>Lib.frozen_of_heap H.out.fn i
 have y0:W.cell? ⟨(w1.heap.size+1+1),0,none⟩=some (.func (.func 103) #[] #[.pointer (some ⟨w.heap.size,0,none⟩),.pointer (some ⟨w1.heap.size+1,0,none⟩),.pointer (some ⟨w1.heap.size,0,none⟩)]):=by rw [Lib.cell_of_heap H.out.fn];rfl
 have d4:(tk == 4)=true:=by simpa using HK.out
 have q0:(ts.toList == [61])=false:=by rw [hs];rfl
 have q1:(ts.toList == [33,61])=false:=by rw [hs];rfl
 have q2:(ts.toList == [60])=true:=by rw [hs];rfl
 clear hs
 have HTWO:=Lib.hid (two_reads _ _ _ _ _ r g _ _ _ m nest _ _ a W H.out.cls H.out.below hm 11 q hC2)
 clear hC2
 go_wp2_with fail
 refine HTWO.out.mono ?_
 intro e w2 hd
 cases q with
 | error pe =>
  obtain ⟨pp,pn⟩:=pe
  have hs9:Stops [r] W pp pn e w2:=hd
  obtain ⟨b9,hb9,rfl,hrow9,hf9⟩:=hs9.from (bs:=[r]) H.out.f (fun y hy=>.inl (by simpa using hy))
  show _
  exact ⟨rfl,Done.stop ⟨b9,hb9,rfl,hrow9,hf9⟩⟩
 | ok ym =>
  obtain ⟨y,m2⟩:=ym
  obtain ⟨ca,cb,rb,rfl,hrb,hrbz,hra,hry,hf3,o4,c4,hr4⟩:=hd
  have hrp:=rep_two hra hry hrb (H.out.below _ hrbz) 11 tp
  have H:=Lib.hid (H.out.step hf3 hr4)
  have HRP:=Lib.hid hrp
  clear hrb hrbz hra hry hf3 hr4 hrp HTWO k0 k1 k2 k3 kf e0 e1 e2 e3 e4 ef x0 xf y0 yf
  have zf:∀ i,w2.frozen? ⟨(w.heap.size+1),i,none⟩=false:=fun i=>Lib.frozen_of_heap H.out.res i
  have z0:w2.cell? ⟨(w.heap.size+1),0,none⟩=some (.int .i64 0):=by rw [Lib.cell_of_heap H.out.res];rfl
  have z1:w2.cell? ⟨(w.heap.size+1),1,none⟩=some (.string ⟨#[]⟩):=by rw [Lib.cell_of_heap H.out.res];rfl
  have z2:w2.cell? ⟨(w.heap.size+1),2,none⟩=some (.int .i64 0):=by rw [Lib.cell_of_heap H.out.res];rfl
  have z3:w2.cell? ⟨(w.heap.size+1),3,none⟩=some (.slice none 0 0):=by rw [Lib.cell_of_heap H.out.res];rfl
  have z4:w2.cell? ⟨(w.heap.size+1),4,none⟩=some (.int .i64 0):=by rw [Lib.cell_of_heap H.out.res];rfl
  have HG:=Lib.hid (H.out.give HRP.out)
  have HT:=Lib.hid (heap_five H.out.res (.int .i64 11) (.string ⟨#[]⟩) (.int .i64 0) (.slice (some ⟨rb,0,none⟩) 2 2) (.int .i64 tp))
  go_wp2_with fail
  refine bodyPost_ret (v:=.agg #[.int .i64 11,.string ⟨#[]⟩,.int .i64 0,.slice (some ⟨rb,0,none⟩) 2 2,.int .i64 tp]) (results_cell_row rfl _ _ (w.heap.size+1) _ _ (0,0) _ rfl HT.out Tryz.underlying42 rfl (by kernel_rfl)) rfl ?_
  exact HG.out
set_option maxHeartbeats 4000000 in
set_option maxRecDepth 100000 in
theorem cmp_le (w:World) (r g o c:Nat) (l:List TI) (nest:Nat) (h:Rd w r g o c l nest) (hr:r < w.heap.size) (a:Ex) (t:TI) (m:List TI)
  (hC:∀ W o c,Rd W r g o c l nest → r < W.heap.size → Calls Tryz.prog 102 #[.pointer (some ⟨r,0,none⟩)] W (Done r g nest W (.ok (a,t :: m))))
  (hm:0 < m.length) (q:Pol.PR Ex) (hC2:∀ W o c,Rd W r g o c m nest → r < W.heap.size → Calls Tryz.prog 102 #[.pointer (some ⟨r,0,none⟩)] W (Done r g nest W q))
  (hk:t.k=4) (hs:t.s.toList=[60,61]) :
  Calls Tryz.prog 99 #[.pointer (some ⟨r,0,none⟩)] w (Done r g nest w (Pol.twoOf 12 t.p false a q)):=by
 have HK:=Lib.hid hk
 clear hk
 have HRD:=Lib.hid h
 have HC:=Lib.hid hC
 have HR:=Lib.hid (alloc2 w (.cells #[.pointer (some ⟨r,0,none⟩)] 50) (.cells z5 42))
 have hg:=h.gl
 have HA0:Hid (Fr [] w ((w.alloc (.cells #[.pointer (some ⟨r,0,none⟩)] 50)).alloc (.cells z5 42))):=((Fr.refl [] w).alloc _).alloc _
 have HN:=Lib.hid (HC.out _ o c (HRD.out.fr HA0.out (by simp) (by simp)) (by simp;omega))
 clear h hC
 go_enter Tryz.func99,Tryz.ntmps99
 go_wp2_with fail
 refine HN.out.mono ?_
 intro e w1 hd
 obtain ⟨cs,rfl,hrep,hf3,o3,c3,hr3⟩:=hd
 obtain ⟨op0,s9,n9,q9,k9,c9,p9,rfl⟩:=hrep.form
 obtain ⟨tk,ts,tn,tp⟩:=t
 skip
 have hbx:=hf3.row HR.out.1 (by simp;omega)
 have hrs:=hf3.row HR.out.2 (by simp;omega)
 have hz1:w.heap.size+1 < w1.heap.size:=row_lt hrs
 obtain ⟨a0,a1,a2,a3⟩:=hr3.tk 0 _ rfl
 have c0:=hr3.c0
 have hlc:=hr3.lc
 have hm:=hr3.cm
 have hne:=hr3.ne
 have x0:w1.cell? ⟨w.heap.size,0,none⟩=some (.pointer (some ⟨r,0,none⟩)):=by rw [Lib.cell_of_heap hbx];rfl
 rw [List.length_cons] at c0 hlc
 unfold maxLen at hm
 simp only [Nat.mul_zero,Nat.add_zero] at a0 a1 a2 a3
 have hg1:=hr3.gl
 have hr1:r < w1.heap.size:=row_lt hr3.row
 have hmf:∀ fn first cap w,(Instr.makeFunc fn first cap).run Tryz.prog w=.ok (.func fn first cap) w:=fun _ _ _ _=>rfl
 have HRP:=Lib.hid (hrep.mono (E:=fun i=>w.heap.size ≤ i ∧ i ≠ w.heap.size+1) (fun i hi h=>by
  have h9:((w.alloc (.cells #[.pointer (some ⟨r,0,none⟩)] 50)).alloc (.cells z5 42)).heap.size ≤ i:=h
  simp at h9
  exact ⟨by omega,by omega⟩))
 have HR3:=Lib.hid hr3
 have HBX:=Lib.hid hbx
 have HRS:=Lib.hid hrs
 have HF3:Hid (Fr [r] w w1):=HA0.out.sub.trans hf3 (fun y hy=>.inl hy)
 clear hrep hf3 hr3 hbx hrs HN HR HA0
 have hz0:w.heap.size < w1.heap.size:=by omega
 go_upto_region 5 with fail
 refine wp_fresh (fun W=>Cmp w w.heap.size (w1.heap.size+1) w1.heap.size (w1.heap.size+1+1) (w.heap.size+1) r g o3 c3 (⟨tk,ts,tn,tp⟩ :: m) nest ⟨tk,ts,tn,tp⟩ [.int .i64 op0,.string s9,.int .i64 n9,.slice q9 k9 c9,.int .i64 p9] a W) ?_ ?_
 ·have hal:=alloc3 w1 (.cells #[.int .i64 op0,.string s9,.int .i64 n9,.slice q9 k9 c9,.int .i64 p9] 42) (.cells #[.int .i64 tk,.string ts,.int .i64 tn,.int .i64 tp] 54) (.cells #[.func (.func 103) #[] #[.pointer (some ⟨w.heap.size,0,none⟩),.pointer (some ⟨w1.heap.size+1,0,none⟩),.pointer (some ⟨w1.heap.size,0,none⟩)]] 157)
  have hf:Fr [] w1 _:=(((Fr.refl [] w1).alloc (.cells #[.int .i64 op0,.string s9,.int .i64 n9,.slice q9 k9 c9,.int .i64 p9] 42)).alloc (.cells #[.int .i64 tk,.string ts,.int .i64 tn,.int .i64 tp] 54)).alloc (.cells #[.func (.func 103) #[] #[.pointer (some ⟨w.heap.size,0,none⟩),.pointer (some ⟨w1.heap.size+1,0,none⟩),.pointer (some ⟨w1.heap.size,0,none⟩)]] 157)
  have h1:=HR3.out.fr hf (by simp) (by simp)
  have h2:=hf.row HBX.out (by simp)
  have h3:=hf.row HRS.out (by simp)
  have h4:=HRP.out.fr hf (fun y hy _=>by cases hy)
  have h5:=HF3.out.trans0 hf
  exact ⟨⟨h1,h2,hal.2.1,hal.1,h4,fun i hi=>hi.1,hr,hg,Nat.le_refl _,by omega,by omega⟩,h3,hal.2.2,h5,⟨by omega,by omega,by omega,by omega⟩,by omega,by omega⟩
 intro W h1
 have H:=Lib.hid h1
 clear h1 a0 a1 a2 a3 c0 hlc hm hne x0 HBX HRS HRP HR3
 have hrW:=row_lt H.out.cls.rd.row
 have hresW:=row_lt H.out.res
 have hAW:=row_lt H.out.cls.av
 have hTW:=row_lt H.out.cls.tok
 have hFW:=row_lt H.out.fn
 have kf:∀ i,W.frozen? ⟨(w1.heap.size+1),i,none⟩=false:=fun i=>Lib.frozen_of_heap H.out.cls.tok i
 have k0:W.cell? ⟨(w1.heap.size+1),0,none⟩=some (.int .i64 tk):=by rw [Lib.cell_of_heap H.out.cls.tok];rfl
 have k1:W.cell? ⟨(w1.heap.size+1),1,none⟩=some (.string ts):=by rw [Lib.cell_of_heap H.out.cls.tok];rfl
 have k2:W.cell? ⟨(w1.heap.size+1),2,none⟩=some (.int .i64 tn):=by rw [Lib.cell_of_heap H.out.cls.tok];rfl
 have k3:W.cell? ⟨(w1.heap.size+1),3,none⟩=some (.int .i64 tp):=by rw [Lib.cell_of_heap H.out.cls.tok];rfl
 have ef:∀ i,W.frozen? ⟨w1.heap.size,i,none⟩=false:=fun i=>Lib.frozen_of_heap H.out.cls.av i
 have e0:W.cell? ⟨w1.heap.size,0,none⟩=some (.int .i64 op0):=by rw [Lib.cell_of_heap H.out.cls.av];rfl
 have e1:W.cell? ⟨w1.heap.size,1,none⟩=some (.string s9):=by rw [Lib.cell_of_heap H.out.cls.av];rfl
 have e2:W.cell? ⟨w1.heap.size,2,none⟩=some (.int .i64 n9):=by rw [Lib.cell_of_heap H.out.cls.av];rfl
 have e3:W.cell? ⟨w1.heap.size,3,none⟩=some (.slice q9 k9 c9):=by rw [Lib.cell_of_heap H.out.cls.av];rfl
 have e4:W.cell? ⟨w1.heap.size,4,none⟩=some (.int .i64 p9):=by rw [Lib.cell_of_heap H.out.cls.av];rfl
 have xf:∀ i,W.frozen? ⟨w.heap.size,i,none⟩=false:=fun i=>Lib.frozen_of_heap H.out.cls.box i
 have x0:W.cell? ⟨w.heap.size,0,none⟩=some (.pointer (some ⟨r,0,none⟩)):=by rw [Lib.cell_of_heap H.out.cls.box];rfl
 have yf:∀ i,W.frozen? ⟨(w1.heap.size+1+1),i,none⟩=false:=fun i=>Lib.frozen_of_heap H.out.fn i
 have y0:W.cell? ⟨(w1.heap.size+1+1),0,none⟩=some (.func (.func 103) #[] #[.pointer (some ⟨w.heap.size,0,none⟩),.pointer (some ⟨w1.heap.size+1,0,none⟩),.pointer (some ⟨w1.heap.size,0,none⟩)]):=by rw [Lib.cell_of_heap H.out.fn];rfl
 have d4:(tk == 4)=true:=by simpa using HK.out
 have q0:(ts.toList == [61])=false:=by rw [hs];rfl
 have q1:(ts.toList == [33,61])=false:=by rw [hs];rfl
 have q2:(ts.toList == [60])=false:=by rw [hs];rfl
 have q3:(ts.toList == [60,61])=true:=by rw [hs];rfl
 clear hs
 have HTWO:=Lib.hid (two_reads _ _ _ _ _ r g _ _ _ m nest _ _ a W H.out.cls H.out.below hm 12 q hC2)
 clear hC2
 go_wp2_with fail
 refine HTWO.out.mono ?_
 intro e w2 hd
 cases q with
 | error pe =>
  obtain ⟨pp,pn⟩:=pe
  have hs9:Stops [r] W pp pn e w2:=hd
  obtain ⟨b9,hb9,rfl,hrow9,hf9⟩:=hs9.from (bs:=[r]) H.out.f (fun y hy=>.inl (by simpa using hy))
  show _
  exact ⟨rfl,Done.stop ⟨b9,hb9,rfl,hrow9,hf9⟩⟩
 | ok ym =>
  obtain ⟨y,m2⟩:=ym
  obtain ⟨ca,cb,rb,rfl,hrb,hrbz,hra,hry,hf3,o4,c4,hr4⟩:=hd
  have hrp:=rep_two hra hry hrb (H.out.below _ hrbz) 12 tp
  have H:=Lib.hid (H.out.step hf3 hr4)
  have HRP:=Lib.hid hrp
  clear hrb hrbz hra hry hf3 hr4 hrp HTWO k0 k1 k2 k3 kf e0 e1 e2 e3 e4 ef x0 xf y0 yf
  have zf:∀ i,w2.frozen? ⟨(w.heap.size+1),i,none⟩=false:=fun i=>Lib.frozen_of_heap H.out.res i
  have z0:w2.cell? ⟨(w.heap.size+1),0,none⟩=some (.int .i64 0):=by rw [Lib.cell_of_heap H.out.res];rfl
  have z1:w2.cell? ⟨(w.heap.size+1),1,none⟩=some (.string ⟨#[]⟩):=by rw [Lib.cell_of_heap H.out.res];rfl
  have z2:w2.cell? ⟨(w.heap.size+1),2,none⟩=some (.int .i64 0):=by rw [Lib.cell_of_heap H.out.res];rfl
  have z3:w2.cell? ⟨(w.heap.size+1),3,none⟩=some (.slice none 0 0):=by rw [Lib.cell_of_heap H.out.res];rfl
  have z4:w2.cell? ⟨(w.heap.size+1),4,none⟩=some (.int .i64 0):=by rw [Lib.cell_of_heap H.out.res];rfl
  have HG:=Lib.hid (H.out.give HRP.out)
  have HT:=Lib.hid (heap_five H.out.res (.int .i64 12) (.string ⟨#[]⟩) (.int .i64 0) (.slice (some ⟨rb,0,none⟩) 2 2) (.int .i64 tp))
  go_wp2_with fail
  refine bodyPost_ret (v:=.agg #[.int .i64 12,.string ⟨#[]⟩,.int .i64 0,.slice (some ⟨rb,0,none⟩) 2 2,.int .i64 tp]) (results_cell_row rfl _ _ (w.heap.size+1) _ _ (0,0) _ rfl HT.out Tryz.underlying42 rfl (by kernel_rfl)) rfl ?_
  exact HG.out
set_option maxHeartbeats 4000000 in
set_option maxRecDepth 100000 in
theorem cmp_gt (w:World) (r g o c:Nat) (l:List TI) (nest:Nat) (h:Rd w r g o c l nest) (hr:r < w.heap.size) (a:Ex) (t:TI) (m:List TI)
  (hC:∀ W o c,Rd W r g o c l nest → r < W.heap.size → Calls Tryz.prog 102 #[.pointer (some ⟨r,0,none⟩)] W (Done r g nest W (.ok (a,t :: m))))
  (hm:0 < m.length) (q:Pol.PR Ex) (hC2:∀ W o c,Rd W r g o c m nest → r < W.heap.size → Calls Tryz.prog 102 #[.pointer (some ⟨r,0,none⟩)] W (Done r g nest W q))
  (hk:t.k=4) (hs:t.s.toList=[62]) :
  Calls Tryz.prog 99 #[.pointer (some ⟨r,0,none⟩)] w (Done r g nest w (Pol.twoOf 11 t.p true a q)):=by
 have HK:=Lib.hid hk
 clear hk
 have HRD:=Lib.hid h
 have HC:=Lib.hid hC
 have HR:=Lib.hid (alloc2 w (.cells #[.pointer (some ⟨r,0,none⟩)] 50) (.cells z5 42))
 have hg:=h.gl
 have HA0:Hid (Fr [] w ((w.alloc (.cells #[.pointer (some ⟨r,0,none⟩)] 50)).alloc (.cells z5 42))):=((Fr.refl [] w).alloc _).alloc _
 have HN:=Lib.hid (HC.out _ o c (HRD.out.fr HA0.out (by simp) (by simp)) (by simp;omega))
 clear h hC
 go_enter Tryz.func99,Tryz.ntmps99
 go_wp2_with fail
 refine HN.out.mono ?_
 intro e w1 hd
 obtain ⟨cs,rfl,hrep,hf3,o3,c3,hr3⟩:=hd
 obtain ⟨op0,s9,n9,q9,k9,c9,p9,rfl⟩:=hrep.form
 obtain ⟨tk,ts,tn,tp⟩:=t
 skip
 have hbx:=hf3.row HR.out.1 (by simp;omega)
 have hrs:=hf3.row HR.out.2 (by simp;omega)
 have hz1:w.heap.size+1 < w1.heap.size:=row_lt hrs
 obtain ⟨a0,a1,a2,a3⟩:=hr3.tk 0 _ rfl
 have c0:=hr3.c0
 have hlc:=hr3.lc
 have hm:=hr3.cm
 have hne:=hr3.ne
 have x0:w1.cell? ⟨w.heap.size,0,none⟩=some (.pointer (some ⟨r,0,none⟩)):=by rw [Lib.cell_of_heap hbx];rfl
 rw [List.length_cons] at c0 hlc
 unfold maxLen at hm
 simp only [Nat.mul_zero,Nat.add_zero] at a0 a1 a2 a3
 have hg1:=hr3.gl
 have hr1:r < w1.heap.size:=row_lt hr3.row
 have hmf:∀ fn first cap w,(Instr.makeFunc fn first cap).run Tryz.prog w=.ok (.func fn first cap) w:=fun _ _ _ _=>rfl
 have HRP:=Lib.hid (hrep.mono (E:=fun i=>w.heap.size ≤ i ∧ i ≠ w.heap.size+1) (fun i hi h=>by
  have h9:((w.alloc (.cells #[.pointer (some ⟨r,0,none⟩)] 50)).alloc (.cells z5 42)).heap.size ≤ i:=h
  simp at h9
  exact ⟨by omega,by omega⟩))
 have HR3:=Lib.hid hr3
 have HBX:=Lib.hid hbx
 have HRS:=Lib.hid hrs
 have HF3:Hid (Fr [r] w w1):=HA0.out.sub.trans hf3 (fun y hy=>.inl hy)
 clear hrep hf3 hr3 hbx hrs HN HR HA0
 have hz0:w.heap.size < w1.heap.size:=by omega
 go_upto_region 5 with fail
 refine wp_fresh (fun W=>Cmp w w.heap.size (w1.heap.size+1) w1.heap.size (w1.heap.size+1+1) (w.heap.size+1) r g o3 c3 (⟨tk,ts,tn,tp⟩ :: m) nest ⟨tk,ts,tn,tp⟩ [.int .i64 op0,.string s9,.int .i64 n9,.slice q9 k9 c9,.int .i64 p9] a W) ?_ ?_
 ·have hal:=alloc3 w1 (.cells #[.int .i64 op0,.string s9,.int .i64 n9,.slice q9 k9 c9,.int .i64 p9] 42) (.cells #[.int .i64 tk,.string ts,.int .i64 tn,.int .i64 tp] 54) (.cells #[.func (.func 103) #[] #[.pointer (some ⟨w.heap.size,0,none⟩),.pointer (some ⟨w1.heap.size+1,0,none⟩),.pointer (some ⟨w1.heap.size,0,none⟩)]] 157)
  have hf:Fr [] w1 _:=(((Fr.refl [] w1).alloc (.cells #[.int .i64 op0,.string s9,.int .i64 n9,.slice q9 k9 c9,.int .i64 p9] 42)).alloc (.cells #[.int .i64 tk,.string ts,.int .i64 tn,.int .i64 tp] 54)).alloc (.cells #[.func (.func 103) #[] #[.pointer (some ⟨w.heap.size,0,none⟩),.pointer (some ⟨w1.heap.size+1,0,none⟩),.pointer (some ⟨w1.heap.size,0,none⟩)]] 157)
  have h1:=HR3.out.fr hf (by simp) (by simp)
  have h2:=hf.row HBX.out (by simp)
  have h3:=hf.row HRS.out (by simp)
  have h4:=HRP.out.fr hf (fun y hy _=>by cases hy)
  have h5:=HF3.out.trans0 hf
  exact ⟨⟨h1,h2,hal.2.1,hal.1,h4,fun i hi=>hi.1,hr,hg,Nat.le_refl _,by omega,by omega⟩,h3,hal.2.2,h5,⟨by omega,by omega,by omega,by omega⟩,by omega,by omega⟩
 intro W h1
 have H:=Lib.hid h1
 clear h1 a0 a1 a2 a3 c0 hlc hm hne x0 HBX HRS HRP HR3
 have hrW:=row_lt H.out.cls.rd.row
 have hresW:=row_lt H.out.res
 have hAW:=row_lt H.out.cls.av
 have hTW:=row_lt H.out.cls.tok
 have hFW:=row_lt H.out.fn
 have kf:∀ i,W.frozen? ⟨(w1.heap.size+1),i,none⟩=false:=fun i=>Lib.frozen_of_heap H.out.cls.tok i
 have k0:W.cell? ⟨(w1.heap.size+1),0,none⟩=some (.int .i64 tk):=by rw [Lib.cell_of_heap H.out.cls.tok];rfl
 have k1:W.cell? ⟨(w1.heap.size+1),1,none⟩=some (.string ts):=by rw [Lib.cell_of_heap H.out.cls.tok];rfl
 have k2:W.cell? ⟨(w1.heap.size+1),2,none⟩=some (.int .i64 tn):=by rw [Lib.cell_of_heap H.out.cls.tok];rfl
 have k3:W.cell? ⟨(w1.heap.size+1),3,none⟩=some (.int .i64 tp):=by rw [Lib.cell_of_heap H.out.cls.tok];rfl
 have ef:∀ i,W.frozen? ⟨w1.heap.size,i,none⟩=false:=fun i=>Lib.frozen_of_heap H.out.cls.av i
 have e0:W.cell? ⟨w1.heap.size,0,none⟩=some (.int .i64 op0):=by rw [Lib.cell_of_heap H.out.cls.av];rfl
 have e1:W.cell? ⟨w1.heap.size,1,none⟩=some (.string s9):=by rw [Lib.cell_of_heap H.out.cls.av];rfl
 have e2:W.cell? ⟨w1.heap.size,2,none⟩=some (.int .i64 n9):=by rw [Lib.cell_of_heap H.out.cls.av];rfl
 have e3:W.cell? ⟨w1.heap.size,3,none⟩=some (.slice q9 k9 c9):=by rw [Lib.cell_of_heap H.out.cls.av];rfl
 have e4:W.cell? ⟨w1.heap.size,4,none⟩=some (.int .i64 p9):=by rw [Lib.cell_of_heap H.out.cls.av];rfl
 have xf:∀ i,W.frozen? ⟨w.heap.size,i,none⟩=false:=fun i=>Lib.frozen_of_heap H.out.cls.box i
 have x0:W.cell? ⟨w.heap.size,0,none⟩=some (.pointer (some ⟨r,0,none⟩)):=by rw [Lib.cell_of_heap H.out.cls.box];rfl
 have yf:∀ i,W.frozen? ⟨(w1.heap.size+1+1),i,none⟩=false:=fun i=>Lib.frozen_of_heap H.out.fn i
 have y0:W.cell? ⟨(w1.heap.size+1+1),0,none⟩=some (.func (.func 103) #[] #[.pointer (some ⟨w.heap.size,0,none⟩),.pointer (some ⟨w1.heap.size+1,0,none⟩),.pointer (some ⟨w1.heap.size,0,none⟩)]):=by rw [Lib.cell_of_heap H.out.fn];rfl
 have d4:(tk == 4)=true:=by simpa using HK.out
 have q0:(ts.toList == [61])=false:=by rw [hs];rfl
 have q1:(ts.toList == [33,61])=false:=by rw [hs];rfl
 have q2:(ts.toList == [60])=false:=by rw [hs];rfl
 have q3:(ts.toList == [60,61])=false:=by rw [hs];rfl
 have q4:(ts.toList == [62])=true:=by rw [hs];rfl
 clear hs
 have HTWO:=Lib.hid (turn_reads _ _ _ _ _ _ r g _ _ _ m nest _ _ a W H.out.cls H.out.fn H.out.below hm 11 q hC2)
 clear hC2
 go_wp2_with fail
 refine HTWO.out.mono ?_
 intro e w2 hd
 cases q with
 | error pe =>
  obtain ⟨pp,pn⟩:=pe
  have hs9:Stops [r] W pp pn e w2:=hd
  obtain ⟨b9,hb9,rfl,hrow9,hf9⟩:=hs9.from (bs:=[r]) H.out.f (fun y hy=>.inl (by simpa using hy))
  show _
  exact ⟨rfl,Done.stop ⟨b9,hb9,rfl,hrow9,hf9⟩⟩
 | ok ym =>
  obtain ⟨y,m2⟩:=ym
  obtain ⟨cs2,rfl,hrp,hf3,o4,c4,hr4⟩:=hd
  obtain ⟨op2,s2,n2,q2,k2',c2,p2,rfl⟩:=hrp.form
  have H:=Lib.hid (H.out.step hf3 hr4)
  have HRP:=Lib.hid hrp
  clear hf3 hr4 hrp HTWO k0 k1 k2 k3 kf e0 e1 e2 e3 e4 ef x0 xf y0 yf
  have zf:∀ i,w2.frozen? ⟨(w.heap.size+1),i,none⟩=false:=fun i=>Lib.frozen_of_heap H.out.res i
  have z0:w2.cell? ⟨(w.heap.size+1),0,none⟩=some (.int .i64 0):=by rw [Lib.cell_of_heap H.out.res];rfl
  have z1:w2.cell? ⟨(w.heap.size+1),1,none⟩=some (.string ⟨#[]⟩):=by rw [Lib.cell_of_heap H.out.res];rfl
  have z2:w2.cell? ⟨(w.heap.size+1),2,none⟩=some (.int .i64 0):=by rw [Lib.cell_of_heap H.out.res];rfl
  have z3:w2.cell? ⟨(w.heap.size+1),3,none⟩=some (.slice none 0 0):=by rw [Lib.cell_of_heap H.out.res];rfl
  have z4:w2.cell? ⟨(w.heap.size+1),4,none⟩=some (.int .i64 0):=by rw [Lib.cell_of_heap H.out.res];rfl
  have HG:=Lib.hid (H.out.give HRP.out)
  have HT:=Lib.hid (heap_five H.out.res (.int .i64 op2) (.string s2) (.int .i64 n2) (.slice q2 k2' c2) (.int .i64 p2))
  go_wp2_with fail
  refine bodyPost_ret (v:=.agg #[.int .i64 op2,.string s2,.int .i64 n2,.slice q2 k2' c2,.int .i64 p2]) (results_cell_row rfl _ _ (w.heap.size+1) _ _ (0,0) _ rfl HT.out Tryz.underlying42 rfl (by kernel_rfl)) rfl ?_
  exact HG.out
set_option maxHeartbeats 4000000 in
set_option maxRecDepth 100000 in
theorem cmp_ge (w:World) (r g o c:Nat) (l:List TI) (nest:Nat) (h:Rd w r g o c l nest) (hr:r < w.heap.size) (a:Ex) (t:TI) (m:List TI)
  (hC:∀ W o c,Rd W r g o c l nest → r < W.heap.size → Calls Tryz.prog 102 #[.pointer (some ⟨r,0,none⟩)] W (Done r g nest W (.ok (a,t :: m))))
  (hm:0 < m.length) (q:Pol.PR Ex) (hC2:∀ W o c,Rd W r g o c m nest → r < W.heap.size → Calls Tryz.prog 102 #[.pointer (some ⟨r,0,none⟩)] W (Done r g nest W q))
  (hk:t.k=4) (hs:t.s.toList=[62,61]) :
  Calls Tryz.prog 99 #[.pointer (some ⟨r,0,none⟩)] w (Done r g nest w (Pol.twoOf 12 t.p true a q)):=by
 have HK:=Lib.hid hk
 clear hk
 have HRD:=Lib.hid h
 have HC:=Lib.hid hC
 have HR:=Lib.hid (alloc2 w (.cells #[.pointer (some ⟨r,0,none⟩)] 50) (.cells z5 42))
 have hg:=h.gl
 have HA0:Hid (Fr [] w ((w.alloc (.cells #[.pointer (some ⟨r,0,none⟩)] 50)).alloc (.cells z5 42))):=((Fr.refl [] w).alloc _).alloc _
 have HN:=Lib.hid (HC.out _ o c (HRD.out.fr HA0.out (by simp) (by simp)) (by simp;omega))
 clear h hC
 go_enter Tryz.func99,Tryz.ntmps99
 go_wp2_with fail
 refine HN.out.mono ?_
 intro e w1 hd
 obtain ⟨cs,rfl,hrep,hf3,o3,c3,hr3⟩:=hd
 obtain ⟨op0,s9,n9,q9,k9,c9,p9,rfl⟩:=hrep.form
 obtain ⟨tk,ts,tn,tp⟩:=t
 skip
 have hbx:=hf3.row HR.out.1 (by simp;omega)
 have hrs:=hf3.row HR.out.2 (by simp;omega)
 have hz1:w.heap.size+1 < w1.heap.size:=row_lt hrs
 obtain ⟨a0,a1,a2,a3⟩:=hr3.tk 0 _ rfl
 have c0:=hr3.c0
 have hlc:=hr3.lc
 have hm:=hr3.cm
 have hne:=hr3.ne
 have x0:w1.cell? ⟨w.heap.size,0,none⟩=some (.pointer (some ⟨r,0,none⟩)):=by rw [Lib.cell_of_heap hbx];rfl
 rw [List.length_cons] at c0 hlc
 unfold maxLen at hm
 simp only [Nat.mul_zero,Nat.add_zero] at a0 a1 a2 a3
 have hg1:=hr3.gl
 have hr1:r < w1.heap.size:=row_lt hr3.row
 have hmf:∀ fn first cap w,(Instr.makeFunc fn first cap).run Tryz.prog w=.ok (.func fn first cap) w:=fun _ _ _ _=>rfl
 have HRP:=Lib.hid (hrep.mono (E:=fun i=>w.heap.size ≤ i ∧ i ≠ w.heap.size+1) (fun i hi h=>by
  have h9:((w.alloc (.cells #[.pointer (some ⟨r,0,none⟩)] 50)).alloc (.cells z5 42)).heap.size ≤ i:=h
  simp at h9
  exact ⟨by omega,by omega⟩))
 have HR3:=Lib.hid hr3
 have HBX:=Lib.hid hbx
 have HRS:=Lib.hid hrs
 have HF3:Hid (Fr [r] w w1):=HA0.out.sub.trans hf3 (fun y hy=>.inl hy)
 clear hrep hf3 hr3 hbx hrs HN HR HA0
 have hz0:w.heap.size < w1.heap.size:=by omega
 go_upto_region 5 with fail
 refine wp_fresh (fun W=>Cmp w w.heap.size (w1.heap.size+1) w1.heap.size (w1.heap.size+1+1) (w.heap.size+1) r g o3 c3 (⟨tk,ts,tn,tp⟩ :: m) nest ⟨tk,ts,tn,tp⟩ [.int .i64 op0,.string s9,.int .i64 n9,.slice q9 k9 c9,.int .i64 p9] a W) ?_ ?_
 ·have hal:=alloc3 w1 (.cells #[.int .i64 op0,.string s9,.int .i64 n9,.slice q9 k9 c9,.int .i64 p9] 42) (.cells #[.int .i64 tk,.string ts,.int .i64 tn,.int .i64 tp] 54) (.cells #[.func (.func 103) #[] #[.pointer (some ⟨w.heap.size,0,none⟩),.pointer (some ⟨w1.heap.size+1,0,none⟩),.pointer (some ⟨w1.heap.size,0,none⟩)]] 157)
  have hf:Fr [] w1 _:=(((Fr.refl [] w1).alloc (.cells #[.int .i64 op0,.string s9,.int .i64 n9,.slice q9 k9 c9,.int .i64 p9] 42)).alloc (.cells #[.int .i64 tk,.string ts,.int .i64 tn,.int .i64 tp] 54)).alloc (.cells #[.func (.func 103) #[] #[.pointer (some ⟨w.heap.size,0,none⟩),.pointer (some ⟨w1.heap.size+1,0,none⟩),.pointer (some ⟨w1.heap.size,0,none⟩)]] 157)
  have h1:=HR3.out.fr hf (by simp) (by simp)
  have h2:=hf.row HBX.out (by simp)
  have h3:=hf.row HRS.out (by simp)
  have h4:=HRP.out.fr hf (fun y hy _=>by cases hy)
  have h5:=HF3.out.trans0 hf
  exact ⟨⟨h1,h2,hal.2.1,hal.1,h4,fun i hi=>hi.1,hr,hg,Nat.le_refl _,by omega,by omega⟩,h3,hal.2.2,h5,⟨by omega,by omega,by omega,by omega⟩,by omega,by omega⟩
 intro W h1
 have H:=Lib.hid h1
 clear h1 a0 a1 a2 a3 c0 hlc hm hne x0 HBX HRS HRP HR3
 have hrW:=row_lt H.out.cls.rd.row
 have hresW:=row_lt H.out.res
 have hAW:=row_lt H.out.cls.av
 have hTW:=row_lt H.out.cls.tok
 have hFW:=row_lt H.out.fn
 have kf:∀ i,W.frozen? ⟨(w1.heap.size+1),i,none⟩=false:=fun i=>Lib.frozen_of_heap H.out.cls.tok i
 have k0:W.cell? ⟨(w1.heap.size+1),0,none⟩=some (.int .i64 tk):=by rw [Lib.cell_of_heap H.out.cls.tok];rfl
 have k1:W.cell? ⟨(w1.heap.size+1),1,none⟩=some (.string ts):=by rw [Lib.cell_of_heap H.out.cls.tok];rfl
 have k2:W.cell? ⟨(w1.heap.size+1),2,none⟩=some (.int .i64 tn):=by rw [Lib.cell_of_heap H.out.cls.tok];rfl
 have k3:W.cell? ⟨(w1.heap.size+1),3,none⟩=some (.int .i64 tp):=by rw [Lib.cell_of_heap H.out.cls.tok];rfl
 have ef:∀ i,W.frozen? ⟨w1.heap.size,i,none⟩=false:=fun i=>Lib.frozen_of_heap H.out.cls.av i
 have e0:W.cell? ⟨w1.heap.size,0,none⟩=some (.int .i64 op0):=by rw [Lib.cell_of_heap H.out.cls.av];rfl
 have e1:W.cell? ⟨w1.heap.size,1,none⟩=some (.string s9):=by rw [Lib.cell_of_heap H.out.cls.av];rfl
 have e2:W.cell? ⟨w1.heap.size,2,none⟩=some (.int .i64 n9):=by rw [Lib.cell_of_heap H.out.cls.av];rfl
 have e3:W.cell? ⟨w1.heap.size,3,none⟩=some (.slice q9 k9 c9):=by rw [Lib.cell_of_heap H.out.cls.av];rfl
 have e4:W.cell? ⟨w1.heap.size,4,none⟩=some (.int .i64 p9):=by rw [Lib.cell_of_heap H.out.cls.av];rfl
 have xf:∀ i,W.frozen? ⟨w.heap.size,i,none⟩=false:=fun i=>Lib.frozen_of_heap H.out.cls.box i
 have x0:W.cell? ⟨w.heap.size,0,none⟩=some (.pointer (some ⟨r,0,none⟩)):=by rw [Lib.cell_of_heap H.out.cls.box];rfl
 have yf:∀ i,W.frozen? ⟨(w1.heap.size+1+1),i,none⟩=false:=fun i=>Lib.frozen_of_heap H.out.fn i
 have y0:W.cell? ⟨(w1.heap.size+1+1),0,none⟩=some (.func (.func 103) #[] #[.pointer (some ⟨w.heap.size,0,none⟩),.pointer (some ⟨w1.heap.size+1,0,none⟩),.pointer (some ⟨w1.heap.size,0,none⟩)]):=by rw [Lib.cell_of_heap H.out.fn];rfl
 have d4:(tk == 4)=true:=by simpa using HK.out
 have q0:(ts.toList == [61])=false:=by rw [hs];rfl
 have q1:(ts.toList == [33,61])=false:=by rw [hs];rfl
 have q2:(ts.toList == [60])=false:=by rw [hs];rfl
 have q3:(ts.toList == [60,61])=false:=by rw [hs];rfl
 have q4:(ts.toList == [62])=false:=by rw [hs];rfl
 have q5:(ts.toList == [62,61])=true:=by rw [hs];rfl
 clear hs
 have HTWO:=Lib.hid (turn_reads _ _ _ _ _ _ r g _ _ _ m nest _ _ a W H.out.cls H.out.fn H.out.below hm 12 q hC2)
 clear hC2
 go_wp2_with fail
 refine HTWO.out.mono ?_
 intro e w2 hd
 cases q with
 | error pe =>
  obtain ⟨pp,pn⟩:=pe
  have hs9:Stops [r] W pp pn e w2:=hd
  obtain ⟨b9,hb9,rfl,hrow9,hf9⟩:=hs9.from (bs:=[r]) H.out.f (fun y hy=>.inl (by simpa using hy))
  show _
  exact ⟨rfl,Done.stop ⟨b9,hb9,rfl,hrow9,hf9⟩⟩
 | ok ym =>
  obtain ⟨y,m2⟩:=ym
  obtain ⟨cs2,rfl,hrp,hf3,o4,c4,hr4⟩:=hd
  obtain ⟨op2,s2,n2,q2,k2',c2,p2,rfl⟩:=hrp.form
  have H:=Lib.hid (H.out.step hf3 hr4)
  have HRP:=Lib.hid hrp
  clear hf3 hr4 hrp HTWO k0 k1 k2 k3 kf e0 e1 e2 e3 e4 ef x0 xf y0 yf
  have zf:∀ i,w2.frozen? ⟨(w.heap.size+1),i,none⟩=false:=fun i=>Lib.frozen_of_heap H.out.res i
  have z0:w2.cell? ⟨(w.heap.size+1),0,none⟩=some (.int .i64 0):=by rw [Lib.cell_of_heap H.out.res];rfl
  have z1:w2.cell? ⟨(w.heap.size+1),1,none⟩=some (.string ⟨#[]⟩):=by rw [Lib.cell_of_heap H.out.res];rfl
  have z2:w2.cell? ⟨(w.heap.size+1),2,none⟩=some (.int .i64 0):=by rw [Lib.cell_of_heap H.out.res];rfl
  have z3:w2.cell? ⟨(w.heap.size+1),3,none⟩=some (.slice none 0 0):=by rw [Lib.cell_of_heap H.out.res];rfl
  have z4:w2.cell? ⟨(w.heap.size+1),4,none⟩=some (.int .i64 0):=by rw [Lib.cell_of_heap H.out.res];rfl
  have HG:=Lib.hid (H.out.give HRP.out)
  have HT:=Lib.hid (heap_five H.out.res (.int .i64 op2) (.string s2) (.int .i64 n2) (.slice q2 k2' c2) (.int .i64 p2))
  go_wp2_with fail
  refine bodyPost_ret (v:=.agg #[.int .i64 op2,.string s2,.int .i64 n2,.slice q2 k2' c2,.int .i64 p2]) (results_cell_row rfl _ _ (w.heap.size+1) _ _ (0,0) _ rfl HT.out Tryz.underlying42 rfl (by kernel_rfl)) rfl ?_
  exact HG.out
set_option maxHeartbeats 4000000 in
set_option maxRecDepth 100000 in
theorem cmp_has (w:World) (r g o c:Nat) (l:List TI) (nest:Nat) (h:Rd w r g o c l nest) (hr:r < w.heap.size) (a:Ex) (t:TI) (m:List TI)
  (hC:∀ W o c,Rd W r g o c l nest → r < W.heap.size → Calls Tryz.prog 102 #[.pointer (some ⟨r,0,none⟩)] W (Done r g nest W (.ok (a,t :: m))))
  (hm:0 < m.length) (q:Pol.PR Ex) (hC2:∀ W o c,Rd W r g o c m nest → r < W.heap.size → Calls Tryz.prog 102 #[.pointer (some ⟨r,0,none⟩)] W (Done r g nest W q))
  (hk:t.k ≠ 4) (hs:Pol.is (t :: m) 1 [104,97,115]=true) :
  Calls Tryz.prog 99 #[.pointer (some ⟨r,0,none⟩)] w (Done r g nest w (Pol.twoOf 14 t.p false a q)):=by
 have HK:=Lib.hid hk
 have HS:=Lib.hid hs
 clear hk hs
 have HRD:=Lib.hid h
 have HC:=Lib.hid hC
 have HR:=Lib.hid (alloc2 w (.cells #[.pointer (some ⟨r,0,none⟩)] 50) (.cells z5 42))
 have hg:=h.gl
 have HA0:Hid (Fr [] w ((w.alloc (.cells #[.pointer (some ⟨r,0,none⟩)] 50)).alloc (.cells z5 42))):=((Fr.refl [] w).alloc _).alloc _
 have HN:=Lib.hid (HC.out _ o c (HRD.out.fr HA0.out (by simp) (by simp)) (by simp;omega))
 clear h hC
 go_enter Tryz.func99,Tryz.ntmps99
 go_wp2_with fail
 refine HN.out.mono ?_
 intro e w1 hd
 obtain ⟨cs,rfl,hrep,hf3,o3,c3,hr3⟩:=hd
 obtain ⟨op0,s9,n9,q9,k9,c9,p9,rfl⟩:=hrep.form
 obtain ⟨tk,ts,tn,tp⟩:=t
 skip
 have hbx:=hf3.row HR.out.1 (by simp;omega)
 have hrs:=hf3.row HR.out.2 (by simp;omega)
 have hz1:w.heap.size+1 < w1.heap.size:=row_lt hrs
 obtain ⟨a0,a1,a2,a3⟩:=hr3.tk 0 _ rfl
 have c0:=hr3.c0
 have hlc:=hr3.lc
 have hm:=hr3.cm
 have hne:=hr3.ne
 have x0:w1.cell? ⟨w.heap.size,0,none⟩=some (.pointer (some ⟨r,0,none⟩)):=by rw [Lib.cell_of_heap hbx];rfl
 rw [List.length_cons] at c0 hlc
 unfold maxLen at hm
 simp only [Nat.mul_zero,Nat.add_zero] at a0 a1 a2 a3
 have hg1:=hr3.gl
 have hr1:r < w1.heap.size:=row_lt hr3.row
 have hmf:∀ fn first cap w,(Instr.makeFunc fn first cap).run Tryz.prog w=.ok (.func fn first cap) w:=fun _ _ _ _=>rfl
 have HRP:=Lib.hid (hrep.mono (E:=fun i=>w.heap.size ≤ i ∧ i ≠ w.heap.size+1) (fun i hi h=>by
  have h9:((w.alloc (.cells #[.pointer (some ⟨r,0,none⟩)] 50)).alloc (.cells z5 42)).heap.size ≤ i:=h
  simp at h9
  exact ⟨by omega,by omega⟩))
 have HR3:=Lib.hid hr3
 have HBX:=Lib.hid hbx
 have HRS:=Lib.hid hrs
 have HF3:Hid (Fr [r] w w1):=HA0.out.sub.trans hf3 (fun y hy=>.inl hy)
 clear hrep hf3 hr3 hbx hrs HN HR HA0
 have hz0:w.heap.size < w1.heap.size:=by omega
 go_upto_region 5 with fail
 refine wp_fresh (fun W=>Cmp w w.heap.size (w1.heap.size+1) w1.heap.size (w1.heap.size+1+1) (w.heap.size+1) r g o3 c3 (⟨tk,ts,tn,tp⟩ :: m) nest ⟨tk,ts,tn,tp⟩ [.int .i64 op0,.string s9,.int .i64 n9,.slice q9 k9 c9,.int .i64 p9] a W) ?_ ?_
 ·have hal:=alloc3 w1 (.cells #[.int .i64 op0,.string s9,.int .i64 n9,.slice q9 k9 c9,.int .i64 p9] 42) (.cells #[.int .i64 tk,.string ts,.int .i64 tn,.int .i64 tp] 54) (.cells #[.func (.func 103) #[] #[.pointer (some ⟨w.heap.size,0,none⟩),.pointer (some ⟨w1.heap.size+1,0,none⟩),.pointer (some ⟨w1.heap.size,0,none⟩)]] 157)
  have hf:Fr [] w1 _:=(((Fr.refl [] w1).alloc (.cells #[.int .i64 op0,.string s9,.int .i64 n9,.slice q9 k9 c9,.int .i64 p9] 42)).alloc (.cells #[.int .i64 tk,.string ts,.int .i64 tn,.int .i64 tp] 54)).alloc (.cells #[.func (.func 103) #[] #[.pointer (some ⟨w.heap.size,0,none⟩),.pointer (some ⟨w1.heap.size+1,0,none⟩),.pointer (some ⟨w1.heap.size,0,none⟩)]] 157)
  have h1:=HR3.out.fr hf (by simp) (by simp)
  have h2:=hf.row HBX.out (by simp)
  have h3:=hf.row HRS.out (by simp)
  have h4:=HRP.out.fr hf (fun y hy _=>by cases hy)
  have h5:=HF3.out.trans0 hf
  exact ⟨⟨h1,h2,hal.2.1,hal.1,h4,fun i hi=>hi.1,hr,hg,Nat.le_refl _,by omega,by omega⟩,h3,hal.2.2,h5,⟨by omega,by omega,by omega,by omega⟩,by omega,by omega⟩
 intro W h1
 have H:=Lib.hid h1
 clear h1 a0 a1 a2 a3 c0 hlc hm hne x0 HBX HRS HRP HR3
 have hrW:=row_lt H.out.cls.rd.row
 have hresW:=row_lt H.out.res
 have hAW:=row_lt H.out.cls.av
 have hTW:=row_lt H.out.cls.tok
 have hFW:=row_lt H.out.fn
 have kf:∀ i,W.frozen? ⟨(w1.heap.size+1),i,none⟩=false:=fun i=>Lib.frozen_of_heap H.out.cls.tok i
 have k0:W.cell? ⟨(w1.heap.size+1),0,none⟩=some (.int .i64 tk):=by rw [Lib.cell_of_heap H.out.cls.tok];rfl
 have k1:W.cell? ⟨(w1.heap.size+1),1,none⟩=some (.string ts):=by rw [Lib.cell_of_heap H.out.cls.tok];rfl
 have k2:W.cell? ⟨(w1.heap.size+1),2,none⟩=some (.int .i64 tn):=by rw [Lib.cell_of_heap H.out.cls.tok];rfl
 have k3:W.cell? ⟨(w1.heap.size+1),3,none⟩=some (.int .i64 tp):=by rw [Lib.cell_of_heap H.out.cls.tok];rfl
 have ef:∀ i,W.frozen? ⟨w1.heap.size,i,none⟩=false:=fun i=>Lib.frozen_of_heap H.out.cls.av i
 have e0:W.cell? ⟨w1.heap.size,0,none⟩=some (.int .i64 op0):=by rw [Lib.cell_of_heap H.out.cls.av];rfl
 have e1:W.cell? ⟨w1.heap.size,1,none⟩=some (.string s9):=by rw [Lib.cell_of_heap H.out.cls.av];rfl
 have e2:W.cell? ⟨w1.heap.size,2,none⟩=some (.int .i64 n9):=by rw [Lib.cell_of_heap H.out.cls.av];rfl
 have e3:W.cell? ⟨w1.heap.size,3,none⟩=some (.slice q9 k9 c9):=by rw [Lib.cell_of_heap H.out.cls.av];rfl
 have e4:W.cell? ⟨w1.heap.size,4,none⟩=some (.int .i64 p9):=by rw [Lib.cell_of_heap H.out.cls.av];rfl
 have xf:∀ i,W.frozen? ⟨w.heap.size,i,none⟩=false:=fun i=>Lib.frozen_of_heap H.out.cls.box i
 have x0:W.cell? ⟨w.heap.size,0,none⟩=some (.pointer (some ⟨r,0,none⟩)):=by rw [Lib.cell_of_heap H.out.cls.box];rfl
 have yf:∀ i,W.frozen? ⟨(w1.heap.size+1+1),i,none⟩=false:=fun i=>Lib.frozen_of_heap H.out.fn i
 have y0:W.cell? ⟨(w1.heap.size+1+1),0,none⟩=some (.func (.func 103) #[] #[.pointer (some ⟨w.heap.size,0,none⟩),.pointer (some ⟨w1.heap.size+1,0,none⟩),.pointer (some ⟨w1.heap.size,0,none⟩)]):=by rw [Lib.cell_of_heap H.out.fn];rfl
 have d4:(tk == 4)=false:=beq_eq_false_iff_ne.2 HK.out
 have HNX:=Lib.hid (rd_next_is W r g _ _ _ _ nest 1 ⟨#[104,97,115]⟩ true H.out.cls.rd HS.out)
 go_wp2_with fail
 refine HNX.out.mono ?_
 rintro e w2 ⟨rfl,rfl⟩
 clear HNX
 have HTWO:=Lib.hid (two_reads _ _ _ _ _ r g _ _ _ m nest _ _ a W H.out.cls H.out.below hm 14 q hC2)
 clear hC2
 go_wp2_with fail
 refine HTWO.out.mono ?_
 intro e w2 hd
 cases q with
 | error pe =>
  obtain ⟨pp,pn⟩:=pe
  have hs9:Stops [r] W pp pn e w2:=hd
  obtain ⟨b9,hb9,rfl,hrow9,hf9⟩:=hs9.from (bs:=[r]) H.out.f (fun y hy=>.inl (by simpa using hy))
  show _
  exact ⟨rfl,Done.stop ⟨b9,hb9,rfl,hrow9,hf9⟩⟩
 | ok ym =>
  obtain ⟨y,m2⟩:=ym
  obtain ⟨ca,cb,rb,rfl,hrb,hrbz,hra,hry,hf3,o4,c4,hr4⟩:=hd
  have hrp:=rep_two hra hry hrb (H.out.below _ hrbz) 14 tp
  have H:=Lib.hid (H.out.step hf3 hr4)
  have HRP:=Lib.hid hrp
  clear hrb hrbz hra hry hf3 hr4 hrp HTWO k0 k1 k2 k3 kf e0 e1 e2 e3 e4 ef x0 xf y0 yf
  have zf:∀ i,w2.frozen? ⟨(w.heap.size+1),i,none⟩=false:=fun i=>Lib.frozen_of_heap H.out.res i
  have z0:w2.cell? ⟨(w.heap.size+1),0,none⟩=some (.int .i64 0):=by rw [Lib.cell_of_heap H.out.res];rfl
  have z1:w2.cell? ⟨(w.heap.size+1),1,none⟩=some (.string ⟨#[]⟩):=by rw [Lib.cell_of_heap H.out.res];rfl
  have z2:w2.cell? ⟨(w.heap.size+1),2,none⟩=some (.int .i64 0):=by rw [Lib.cell_of_heap H.out.res];rfl
  have z3:w2.cell? ⟨(w.heap.size+1),3,none⟩=some (.slice none 0 0):=by rw [Lib.cell_of_heap H.out.res];rfl
  have z4:w2.cell? ⟨(w.heap.size+1),4,none⟩=some (.int .i64 0):=by rw [Lib.cell_of_heap H.out.res];rfl
  have HG:=Lib.hid (H.out.give HRP.out)
  have HT:=Lib.hid (heap_five H.out.res (.int .i64 14) (.string ⟨#[]⟩) (.int .i64 0) (.slice (some ⟨rb,0,none⟩) 2 2) (.int .i64 tp))
  go_wp2_with fail
  refine bodyPost_ret (v:=.agg #[.int .i64 14,.string ⟨#[]⟩,.int .i64 0,.slice (some ⟨rb,0,none⟩) 2 2,.int .i64 tp]) (results_cell_row rfl _ _ (w.heap.size+1) _ _ (0,0) _ rfl HT.out Tryz.underlying42 rfl (by kernel_rfl)) rfl ?_
  exact HG.out
set_option maxHeartbeats 4000000 in
set_option maxRecDepth 100000 in
theorem cmp_else (w:World) (r g o c:Nat) (l:List TI) (nest:Nat) (h:Rd w r g o c l nest) (hr:r < w.heap.size) (a:Ex) (t:TI) (m:List TI)
  (hC:∀ W o c,Rd W r g o c l nest → r < W.heap.size → Calls Tryz.prog 102 #[.pointer (some ⟨r,0,none⟩)] W (Done r g nest W (.ok (a,t :: m))))
  (hk:t.k ≠ 4) (hs:Pol.is (t :: m) 1 [104,97,115]=false) (hi:Pol.is (t :: m) 1 [105,110]=false) :
  Calls Tryz.prog 99 #[.pointer (some ⟨r,0,none⟩)] w (Done r g nest w (.ok (a,t :: m))):=by
 have HK:=Lib.hid hk
 have HS:=Lib.hid hs
 have HI:=Lib.hid hi
 clear hk hs hi
 have HRD:=Lib.hid h
 have HC:=Lib.hid hC
 have HR:=Lib.hid (alloc2 w (.cells #[.pointer (some ⟨r,0,none⟩)] 50) (.cells z5 42))
 have hg:=h.gl
 have HA0:Hid (Fr [] w ((w.alloc (.cells #[.pointer (some ⟨r,0,none⟩)] 50)).alloc (.cells z5 42))):=((Fr.refl [] w).alloc _).alloc _
 have HN:=Lib.hid (HC.out _ o c (HRD.out.fr HA0.out (by simp) (by simp)) (by simp;omega))
 clear h hC
 go_enter Tryz.func99,Tryz.ntmps99
 go_wp2_with fail
 refine HN.out.mono ?_
 intro e w1 hd
 obtain ⟨cs,rfl,hrep,hf3,o3,c3,hr3⟩:=hd
 obtain ⟨op0,s9,n9,q9,k9,c9,p9,rfl⟩:=hrep.form
 obtain ⟨tk,ts,tn,tp⟩:=t
 skip
 have hbx:=hf3.row HR.out.1 (by simp;omega)
 have hrs:=hf3.row HR.out.2 (by simp;omega)
 have hz1:w.heap.size+1 < w1.heap.size:=row_lt hrs
 obtain ⟨a0,a1,a2,a3⟩:=hr3.tk 0 _ rfl
 have c0:=hr3.c0
 have hlc:=hr3.lc
 have hm:=hr3.cm
 have hne:=hr3.ne
 have x0:w1.cell? ⟨w.heap.size,0,none⟩=some (.pointer (some ⟨r,0,none⟩)):=by rw [Lib.cell_of_heap hbx];rfl
 rw [List.length_cons] at c0 hlc
 unfold maxLen at hm
 simp only [Nat.mul_zero,Nat.add_zero] at a0 a1 a2 a3
 have hg1:=hr3.gl
 have hr1:r < w1.heap.size:=row_lt hr3.row
 have hmf:∀ fn first cap w,(Instr.makeFunc fn first cap).run Tryz.prog w=.ok (.func fn first cap) w:=fun _ _ _ _=>rfl
 have HRP:=Lib.hid (hrep.mono (E:=fun i=>w.heap.size ≤ i ∧ i ≠ w.heap.size+1) (fun i hi h=>by
  have h9:((w.alloc (.cells #[.pointer (some ⟨r,0,none⟩)] 50)).alloc (.cells z5 42)).heap.size ≤ i:=h
  simp at h9
  exact ⟨by omega,by omega⟩))
 have HR3:=Lib.hid hr3
 have HBX:=Lib.hid hbx
 have HRS:=Lib.hid hrs
 have HF3:Hid (Fr [r] w w1):=HA0.out.sub.trans hf3 (fun y hy=>.inl hy)
 clear hrep hf3 hr3 hbx hrs HN HR HA0
 have hz0:w.heap.size < w1.heap.size:=by omega
 go_upto_region 5 with fail
 refine wp_fresh (fun W=>Cmp w w.heap.size (w1.heap.size+1) w1.heap.size (w1.heap.size+1+1) (w.heap.size+1) r g o3 c3 (⟨tk,ts,tn,tp⟩ :: m) nest ⟨tk,ts,tn,tp⟩ [.int .i64 op0,.string s9,.int .i64 n9,.slice q9 k9 c9,.int .i64 p9] a W) ?_ ?_
 ·have hal:=alloc3 w1 (.cells #[.int .i64 op0,.string s9,.int .i64 n9,.slice q9 k9 c9,.int .i64 p9] 42) (.cells #[.int .i64 tk,.string ts,.int .i64 tn,.int .i64 tp] 54) (.cells #[.func (.func 103) #[] #[.pointer (some ⟨w.heap.size,0,none⟩),.pointer (some ⟨w1.heap.size+1,0,none⟩),.pointer (some ⟨w1.heap.size,0,none⟩)]] 157)
  have hf:Fr [] w1 _:=(((Fr.refl [] w1).alloc (.cells #[.int .i64 op0,.string s9,.int .i64 n9,.slice q9 k9 c9,.int .i64 p9] 42)).alloc (.cells #[.int .i64 tk,.string ts,.int .i64 tn,.int .i64 tp] 54)).alloc (.cells #[.func (.func 103) #[] #[.pointer (some ⟨w.heap.size,0,none⟩),.pointer (some ⟨w1.heap.size+1,0,none⟩),.pointer (some ⟨w1.heap.size,0,none⟩)]] 157)
  have h1:=HR3.out.fr hf (by simp) (by simp)
  have h2:=hf.row HBX.out (by simp)
  have h3:=hf.row HRS.out (by simp)
  have h4:=HRP.out.fr hf (fun y hy _=>by cases hy)
  have h5:=HF3.out.trans0 hf
  exact ⟨⟨h1,h2,hal.2.1,hal.1,h4,fun i hi=>hi.1,hr,hg,Nat.le_refl _,by omega,by omega⟩,h3,hal.2.2,h5,⟨by omega,by omega,by omega,by omega⟩,by omega,by omega⟩
 intro W h1
 have H:=Lib.hid h1
 clear h1 a0 a1 a2 a3 c0 hlc hm hne x0 HBX HRS HRP HR3
 have hrW:=row_lt H.out.cls.rd.row
 have hresW:=row_lt H.out.res
 have hAW:=row_lt H.out.cls.av
 have hTW:=row_lt H.out.cls.tok
 have hFW:=row_lt H.out.fn
 have kf:∀ i,W.frozen? ⟨(w1.heap.size+1),i,none⟩=false:=fun i=>Lib.frozen_of_heap H.out.cls.tok i
 have k0:W.cell? ⟨(w1.heap.size+1),0,none⟩=some (.int .i64 tk):=by rw [Lib.cell_of_heap H.out.cls.tok];rfl
 have k1:W.cell? ⟨(w1.heap.size+1),1,none⟩=some (.string ts):=by rw [Lib.cell_of_heap H.out.cls.tok];rfl
 have k2:W.cell? ⟨(w1.heap.size+1),2,none⟩=some (.int .i64 tn):=by rw [Lib.cell_of_heap H.out.cls.tok];rfl
 have k3:W.cell? ⟨(w1.heap.size+1),3,none⟩=some (.int .i64 tp):=by rw [Lib.cell_of_heap H.out.cls.tok];rfl
 have ef:∀ i,W.frozen? ⟨w1.heap.size,i,none⟩=false:=fun i=>Lib.frozen_of_heap H.out.cls.av i
 have e0:W.cell? ⟨w1.heap.size,0,none⟩=some (.int .i64 op0):=by rw [Lib.cell_of_heap H.out.cls.av];rfl
 have e1:W.cell? ⟨w1.heap.size,1,none⟩=some (.string s9):=by rw [Lib.cell_of_heap H.out.cls.av];rfl
 have e2:W.cell? ⟨w1.heap.size,2,none⟩=some (.int .i64 n9):=by rw [Lib.cell_of_heap H.out.cls.av];rfl
 have e3:W.cell? ⟨w1.heap.size,3,none⟩=some (.slice q9 k9 c9):=by rw [Lib.cell_of_heap H.out.cls.av];rfl
 have e4:W.cell? ⟨w1.heap.size,4,none⟩=some (.int .i64 p9):=by rw [Lib.cell_of_heap H.out.cls.av];rfl
 have xf:∀ i,W.frozen? ⟨w.heap.size,i,none⟩=false:=fun i=>Lib.frozen_of_heap H.out.cls.box i
 have x0:W.cell? ⟨w.heap.size,0,none⟩=some (.pointer (some ⟨r,0,none⟩)):=by rw [Lib.cell_of_heap H.out.cls.box];rfl
 have yf:∀ i,W.frozen? ⟨(w1.heap.size+1+1),i,none⟩=false:=fun i=>Lib.frozen_of_heap H.out.fn i
 have y0:W.cell? ⟨(w1.heap.size+1+1),0,none⟩=some (.func (.func 103) #[] #[.pointer (some ⟨w.heap.size,0,none⟩),.pointer (some ⟨w1.heap.size+1,0,none⟩),.pointer (some ⟨w1.heap.size,0,none⟩)]):=by rw [Lib.cell_of_heap H.out.fn];rfl
 have d4:(tk == 4)=false:=beq_eq_false_iff_ne.2 HK.out
 have HNX:=Lib.hid (rd_next_is W r g _ _ _ _ nest 1 ⟨#[104,97,115]⟩ false H.out.cls.rd HS.out)
 go_wp2_with fail
 refine HNX.out.mono ?_
 rintro e w2 ⟨rfl,rfl⟩
 clear HNX
 have HNX:=Lib.hid (rd_took_no W r g _ _ _ _ nest 1 ⟨#[105,110]⟩ H.out.cls.rd HI.out)
 go_wp2_with fail
 refine HNX.out.mono ?_
 rintro e w2 ⟨rfl,rfl⟩
 clear HNX
 have zf:∀ i,W.frozen? ⟨(w.heap.size+1),i,none⟩=false:=fun i=>Lib.frozen_of_heap H.out.res i
 have z0:W.cell? ⟨(w.heap.size+1),0,none⟩=some (.int .i64 0):=by rw [Lib.cell_of_heap H.out.res];rfl
 have z1:W.cell? ⟨(w.heap.size+1),1,none⟩=some (.string ⟨#[]⟩):=by rw [Lib.cell_of_heap H.out.res];rfl
 have z2:W.cell? ⟨(w.heap.size+1),2,none⟩=some (.int .i64 0):=by rw [Lib.cell_of_heap H.out.res];rfl
 have z3:W.cell? ⟨(w.heap.size+1),3,none⟩=some (.slice none 0 0):=by rw [Lib.cell_of_heap H.out.res];rfl
 have z4:W.cell? ⟨(w.heap.size+1),4,none⟩=some (.int .i64 0):=by rw [Lib.cell_of_heap H.out.res];rfl
 have HG:=Lib.hid (H.out.give H.out.cls.rep)
 have HT:=Lib.hid (heap_five H.out.res (.int .i64 op0) (.string s9) (.int .i64 n9) (.slice q9 k9 c9) (.int .i64 p9))
 go_wp2_with fail
 refine bodyPost_ret (v:=.agg #[.int .i64 op0,.string s9,.int .i64 n9,.slice q9 k9 c9,.int .i64 p9]) (results_cell_row rfl _ _ (w.heap.size+1) _ _ (0,0) _ rfl HT.out Tryz.underlying42 rfl (by kernel_rfl)) rfl ?_
 exact HG.out
end Go.Proofs.YtgklmpooonnmiaaGreatDoor

namespace Go.Proofs.YtgklmpooonnmiaaGreatDoor
open Go.RowKit
theorem Rep.of_own {w:World} {D:Nat → Prop} (op:Int) (s:ByteArray) (n:Int) (p:Int) (L:List Ex) (css:List (List Value)) (g B c:Nat) (hgr:D g) (hlen:css.length=L.length)
  (hown:w.ownsRow B 42 5 (.slice (some ⟨g,0,none⟩) L.length c) L.length css.flatten) (hx:∀ (i:Nat) (x:Ex) (cs:List Value),L[i]?=some x → css[i]?=some cs → Rep w D cs x) :
  Rep w D [.int .i64 op,.string s,.int .i64 n,.slice (some ⟨g,0,none⟩) L.length c,.int .i64 p] (.mk op s n L p):=by
 rcases hown.2 with ⟨hv,_⟩ | ⟨g',cap,cur,hv,hb,hrow,h1,h2,h3,h4⟩
 ·cases hv
 ·cases hv
  have h5:∀ (i:Nat) (cs:List Value),css[i]?=some cs → cs.length=5:=fun i cs hi=>by
   obtain ⟨h1,rfl⟩:=List.getElem?_eq_some_iff.1 hi
   exact (hx i _ _ (List.getElem?_eq_getElem (by omega)) hi).len
  have hat:=flat_at css h5
  refine .mk op s n L p _ c (fun i=>css.getD i []) h1 h2 (fun i x hi=>⟨g,rfl,row_lt hrow,hgr,fun j v hj=>?_⟩) (fun i x hi=>?_)
  ·have hi2:i < css.length:=by have:=(List.getElem?_eq_some_iff.1 hi).1;omega
   have e:css.getD i []=css[i]:=by simp [List.getD,List.getElem?_eq_getElem hi2]
   simp only [e] at hj
   have h9:=hat i _ j v (List.getElem?_eq_getElem hi2) hj
   rw [← h4,List.getElem?_take] at h9
   split at h9
   ·rw [cell_of_row _ _ _ _ _ _ hrow];simpa using h9
   ·cases h9
  ·have hi2:i < css.length:=by have:=(List.getElem?_eq_some_iff.1 hi).1;omega
   have e:css.getD i []=css[i]:=by simp [List.getD,List.getElem?_eq_getElem hi2]
   simp only [e]
   exact hx i x _ hi (List.getElem?_eq_getElem hi2)
theorem own5_cells {w:World} {B n c:Nat} {g:Nat} {xs:List Value} (h:w.ownsRow B 42 5 (.slice (some ⟨g,0,none⟩) n c) n xs):∀ j u,xs[j]?=some u → w.cell? ((⟨g,0,none⟩:Addr).add j)=some u:=by
 intro j u hj
 rcases h.2 with ⟨hv,_⟩ | ⟨g',cap,cur,hv,hb,hrow,h1,h2,h3,h4⟩
 ·cases hv
 ·cases hv
  have hadd:(⟨g,0,none⟩:Addr).add j=⟨g,j,none⟩:=by unfold Addr.add;split <;> simp_all
  rw [hadd,cell_of_row _ _ _ _ _ _ hrow]
  rw [← h4,List.getElem?_take] at hj
  split at hj
  ·simpa using hj
  ·cases hj
theorem own_form5 {w:World} {B n:Nat} {v:Value} {xs:List Value} (h:w.ownsRow B 42 5 v n xs) (hn:0 < n):∃ g c,v=.slice (some ⟨g,0,none⟩) n c ∧ B ≤ g:=by
 rcases h.2 with ⟨_,h0⟩ | ⟨g',cap,cur,hv,hb,_⟩
 ·omega
 ·exact ⟨g',cap,hv,hb⟩
theorem exs_one {w:World} {D:Nat → Prop} {css:List (List Value)} {L:List Ex} (h:Exs w D css L):∀ v ∈ css.flatten,v.oneCell'=true:=by
 intro v hv
 obtain ⟨cs,hcs,hv⟩:=List.mem_flatten.1 hv
 obtain ⟨i,hi,rfl⟩:=List.mem_iff_getElem.1 hcs
 have hl:=h.len
 exact (h.rep i (L[i]'(by omega)) _ (List.getElem?_eq_getElem (by omega)) (List.getElem?_eq_getElem hi)).one v hv
theorem Exs.cons {w:World} {D:Nat → Prop} {cs:List Value} {x:Ex} {css:List (List Value)} {L:List Ex} (hx:Rep w D cs x) (h:Exs w D css L):Exs w D (cs :: css) (x :: L):=by
 refine ⟨by simp [h.len],fun i y ds hi hc=>?_⟩
 cases i with
 | zero=>simp at hi hc;subst hi hc;exact hx
 | succ i=>simp at hi hc;exact h.rep i y ds hi hc
theorem Cmp.other {w:World} {b1 T A F5 R0 r g o c X:Nat} {l:List TI} {nest:Nat} {t:TI} {ca:List Value} {a:Ex} {W W':World} (h:Cmp w b1 T A F5 R0 r g o c l nest t ca a W) (hf:Fr [X] W W') (hX:X ≠ b1 ∧ X ≠ T ∧ X ≠ A ∧ X ≠ R0 ∧ X ≠ F5) (hw:w.heap.size ≤ X)
  (hrep:Rep W' (fun i=>w.heap.size ≤ i ∧ i ≠ R0) ca a):Cmp w b1 T A F5 R0 r g o c l nest t ca a W':=by
 have h1:=h.cls.rB;have h2:=h.cls.gB
 obtain ⟨x1,x2,x3,x4,x5⟩:=hX
 exact ⟨⟨h.cls.rd.fr hf (by simp;omega) (by simp;omega),hf.row h.cls.box (by simpa using x1.symm),hf.row h.cls.tok (by simpa using x2.symm),hf.row h.cls.av (by simpa using x3.symm),hrep,h.cls.dB,h1,h2,h.cls.Bb,h.cls.BT,h.cls.BA⟩,hf.row h.res (by simpa using x4.symm),hf.row h.fn (by simpa using x5.symm),h.f.trans hf (fun y hy=>.inr (by simp at hy;omega)),h.RT,h.Rw,h.Fw⟩
theorem Pol.row_pos {f nest:Nat} {l m:List TI} {L:List Ex} (h:Pol.row f nest l=.ok (L,m)):0 < L.length:=by
 cases f with
 | zero=>simp [Pol.row] at h
 | succ f =>
  rw [Pol.row] at h
  split at h
  ·cases h
  ·split at h
   ·split at h
    ·cases h
    ·cases h;simp
   ·cases h;simp
theorem Pol.row_few {f nest:Nat}:∀ {l m:List TI} {L:List Ex} (h:Pol.row f nest l=.ok (L,m)),L.length+m.length ≤ l.length:=by
 induction f with
 | zero=>intro l m L h;simp [Pol.row] at h
 | succ f ih =>
  intro l m L h
  rw [Pol.row] at h
  split at h
  ·cases h
  ·rename_i x m1 hx
   have h1:m1.length < l.length:=(Pol.all_shrink f).1 _ _ _ _ hx
   split at h
   ·rename_i hi
    have h3:=Pol.is_len hi
    split at h
    ·cases h
    ·rename_i L1 m2 hr
     have h2:=ih hr
     cases h
     simp only [List.length_cons]
     omega
   ·cases h
    simp only [List.length_cons,List.length_nil]
    omega
def Pol.inOf (f nest:Nat) (p:Int) (a:Ex) (m:List TI):Pol.PR Ex :=
 match Pol.must m [91] with
 | .error e=>.error e
 | .ok (_, m) => match Pol.row f nest m with
   | .error e=>.error e
   | .ok (L, m) => match Pol.must m [93] with
     | .error e=>.error e
     | .ok (_,m)=>.ok (.mk 13 Pol.none_ 0 (a :: L) p,m)
set_option maxHeartbeats 4000000 in
set_option maxRecDepth 100000 in
theorem cmp_in (f:Nat) (hO:∀ f' ≤ f,ReadsEx 102 (Pol.operand f')) (w:World) (r g o c:Nat) (l:List TI) (nest:Nat) (h:Rd w r g o c l nest) (hr:r < w.heap.size) (a:Ex) (t:TI) (m:List TI)
  (hC:∀ W o c,Rd W r g o c l nest → r < W.heap.size → Calls Tryz.prog 102 #[.pointer (some ⟨r,0,none⟩)] W (Done r g nest W (.ok (a,t :: m))))
  (hE:Ends m) (hn:nest ≤ 12) (hk:t.k ≠ 4) (hs:Pol.is (t :: m) 1 [104,97,115]=false) (hi:Pol.is (t :: m) 1 [105,110]=true) (hfed:Pol.Fed (Pol.inOf (f+1) nest t.p a m)) :
  Calls Tryz.prog 99 #[.pointer (some ⟨r,0,none⟩)] w (Done r g nest w (Pol.inOf (f+1) nest t.p a m)):=by
 have HK:=Lib.hid hk
 have HS:=Lib.hid hs
 have HI:=Lib.hid hi
 have HE:=Lib.hid hE
 have HO:=Lib.hid hO
 have HFD:=Lib.hid hfed
 have hm9:=hE.pos
 clear hk hs hi hE hO hfed
 have HRD:=Lib.hid h
 have HC:=Lib.hid hC
 have HR:=Lib.hid (alloc2 w (.cells #[.pointer (some ⟨r,0,none⟩)] 50) (.cells z5 42))
 have hg:=h.gl
 have HA0:Hid (Fr [] w ((w.alloc (.cells #[.pointer (some ⟨r,0,none⟩)] 50)).alloc (.cells z5 42))):=((Fr.refl [] w).alloc _).alloc _
 have HN:=Lib.hid (HC.out _ o c (HRD.out.fr HA0.out (by simp) (by simp)) (by simp;omega))
 clear h hC
 go_enter Tryz.func99,Tryz.ntmps99
 go_wp2_with fail
 refine HN.out.mono ?_
 intro e w1 hd
 obtain ⟨cs,rfl,hrep,hf3,o3,c3,hr3⟩:=hd
 obtain ⟨op0,s9,n9,q9,k9,c9,p9,rfl⟩:=hrep.form
 obtain ⟨tk,ts,tn,tp⟩:=t
 skip
 have hbx:=hf3.row HR.out.1 (by simp;omega)
 have hrs:=hf3.row HR.out.2 (by simp;omega)
 have hz1:w.heap.size+1 < w1.heap.size:=row_lt hrs
 obtain ⟨a0,a1,a2,a3⟩:=hr3.tk 0 _ rfl
 have c0:=hr3.c0
 have hlc:=hr3.lc
 have hm:=hr3.cm
 have hne:=hr3.ne
 have x0:w1.cell? ⟨w.heap.size,0,none⟩=some (.pointer (some ⟨r,0,none⟩)):=by rw [Lib.cell_of_heap hbx];rfl
 rw [List.length_cons] at c0 hlc
 unfold maxLen at hm
 simp only [Nat.mul_zero,Nat.add_zero] at a0 a1 a2 a3
 have hg1:=hr3.gl
 have hr1:r < w1.heap.size:=row_lt hr3.row
 have hmf:∀ fn first cap w,(Instr.makeFunc fn first cap).run Tryz.prog w=.ok (.func fn first cap) w:=fun _ _ _ _=>rfl
 have HRP:=Lib.hid (hrep.mono (E:=fun i=>w.heap.size ≤ i ∧ i ≠ w.heap.size+1) (fun i hi h=>by
  have h9:((w.alloc (.cells #[.pointer (some ⟨r,0,none⟩)] 50)).alloc (.cells z5 42)).heap.size ≤ i:=h
  simp at h9
  exact ⟨by omega,by omega⟩))
 have HR3:=Lib.hid hr3
 have HBX:=Lib.hid hbx
 have HRS:=Lib.hid hrs
 have HF3:Hid (Fr [r] w w1):=HA0.out.sub.trans hf3 (fun y hy=>.inl hy)
 clear hrep hf3 hr3 hbx hrs HN HR HA0
 have hz0:w.heap.size < w1.heap.size:=by omega
 go_upto_region 5 with fail
 refine wp_fresh (fun W=>Cmp w w.heap.size (w1.heap.size+1) w1.heap.size (w1.heap.size+1+1) (w.heap.size+1) r g o3 c3 (⟨tk,ts,tn,tp⟩ :: m) nest ⟨tk,ts,tn,tp⟩ [.int .i64 op0,.string s9,.int .i64 n9,.slice q9 k9 c9,.int .i64 p9] a W) ?_ ?_
 ·have hal:=alloc3 w1 (.cells #[.int .i64 op0,.string s9,.int .i64 n9,.slice q9 k9 c9,.int .i64 p9] 42) (.cells #[.int .i64 tk,.string ts,.int .i64 tn,.int .i64 tp] 54) (.cells #[.func (.func 103) #[] #[.pointer (some ⟨w.heap.size,0,none⟩),.pointer (some ⟨w1.heap.size+1,0,none⟩),.pointer (some ⟨w1.heap.size,0,none⟩)]] 157)
  have hf:Fr [] w1 _:=(((Fr.refl [] w1).alloc (.cells #[.int .i64 op0,.string s9,.int .i64 n9,.slice q9 k9 c9,.int .i64 p9] 42)).alloc (.cells #[.int .i64 tk,.string ts,.int .i64 tn,.int .i64 tp] 54)).alloc (.cells #[.func (.func 103) #[] #[.pointer (some ⟨w.heap.size,0,none⟩),.pointer (some ⟨w1.heap.size+1,0,none⟩),.pointer (some ⟨w1.heap.size,0,none⟩)]] 157)
  have h1:=HR3.out.fr hf (by simp) (by simp)
  have h2:=hf.row HBX.out (by simp)
  have h3:=hf.row HRS.out (by simp)
  have h4:=HRP.out.fr hf (fun y hy _=>by cases hy)
  have h5:=HF3.out.trans0 hf
  exact ⟨⟨h1,h2,hal.2.1,hal.1,h4,fun i hi=>hi.1,hr,hg,Nat.le_refl _,by omega,by omega⟩,h3,hal.2.2,h5,⟨by omega,by omega,by omega,by omega⟩,by omega,by omega⟩
 intro W h1
 have H:=Lib.hid h1
 clear h1 a0 a1 a2 a3 c0 hlc hm hne x0 HBX HRS HRP HR3
 have hrW:=row_lt H.out.cls.rd.row
 have hresW:=row_lt H.out.res
 have hAW:=row_lt H.out.cls.av
 have hTW:=row_lt H.out.cls.tok
 have hFW:=row_lt H.out.fn
 have kf:∀ i,W.frozen? ⟨(w1.heap.size+1),i,none⟩=false:=fun i=>Lib.frozen_of_heap H.out.cls.tok i
 have k0:W.cell? ⟨(w1.heap.size+1),0,none⟩=some (.int .i64 tk):=by rw [Lib.cell_of_heap H.out.cls.tok];rfl
 have k1:W.cell? ⟨(w1.heap.size+1),1,none⟩=some (.string ts):=by rw [Lib.cell_of_heap H.out.cls.tok];rfl
 have k2:W.cell? ⟨(w1.heap.size+1),2,none⟩=some (.int .i64 tn):=by rw [Lib.cell_of_heap H.out.cls.tok];rfl
 have k3:W.cell? ⟨(w1.heap.size+1),3,none⟩=some (.int .i64 tp):=by rw [Lib.cell_of_heap H.out.cls.tok];rfl
 have ef:∀ i,W.frozen? ⟨w1.heap.size,i,none⟩=false:=fun i=>Lib.frozen_of_heap H.out.cls.av i
 have e0:W.cell? ⟨w1.heap.size,0,none⟩=some (.int .i64 op0):=by rw [Lib.cell_of_heap H.out.cls.av];rfl
 have e1:W.cell? ⟨w1.heap.size,1,none⟩=some (.string s9):=by rw [Lib.cell_of_heap H.out.cls.av];rfl
 have e2:W.cell? ⟨w1.heap.size,2,none⟩=some (.int .i64 n9):=by rw [Lib.cell_of_heap H.out.cls.av];rfl
 have e3:W.cell? ⟨w1.heap.size,3,none⟩=some (.slice q9 k9 c9):=by rw [Lib.cell_of_heap H.out.cls.av];rfl
 have e4:W.cell? ⟨w1.heap.size,4,none⟩=some (.int .i64 p9):=by rw [Lib.cell_of_heap H.out.cls.av];rfl
 have xf:∀ i,W.frozen? ⟨w.heap.size,i,none⟩=false:=fun i=>Lib.frozen_of_heap H.out.cls.box i
 have x0:W.cell? ⟨w.heap.size,0,none⟩=some (.pointer (some ⟨r,0,none⟩)):=by rw [Lib.cell_of_heap H.out.cls.box];rfl
 have yf:∀ i,W.frozen? ⟨(w1.heap.size+1+1),i,none⟩=false:=fun i=>Lib.frozen_of_heap H.out.fn i
 have y0:W.cell? ⟨(w1.heap.size+1+1),0,none⟩=some (.func (.func 103) #[] #[.pointer (some ⟨w.heap.size,0,none⟩),.pointer (some ⟨w1.heap.size+1,0,none⟩),.pointer (some ⟨w1.heap.size,0,none⟩)]):=by rw [Lib.cell_of_heap H.out.fn];rfl
 have d4:(tk == 4)=false:=beq_eq_false_iff_ne.2 HK.out
 have HNX:=Lib.hid (rd_next_is W r g _ _ _ _ nest 1 ⟨#[104,97,115]⟩ false H.out.cls.rd HS.out)
 go_wp2_with fail
 refine HNX.out.mono ?_
 rintro e w2 ⟨rfl,rfl⟩
 clear HNX
 have HNX:=Lib.hid (rd_took_yes W r g _ _ _ _ nest 1 ⟨#[105,110]⟩ H.out.cls.rd hm9 HI.out)
 go_wp2_with fail
 refine HNX.out.mono ?_
 rintro e W2 ⟨rfl,hf1,hr1⟩
 have H:=Lib.hid (H.out.step hf1 hr1)
 clear HNX hf1 hr1 HI HS HK d4 hm9 x0 xf y0 yf e0 e1 e2 e3 e4 ef k0 k1 k2 k3 kf
 obtain ⟨t1,l1,rfl⟩:=HE.out.cons
 have xf:∀ i,W2.frozen? ⟨w.heap.size,i,none⟩=false:=fun i=>Lib.frozen_of_heap H.out.cls.box i
 have x0:W2.cell? ⟨w.heap.size,0,none⟩=some (.pointer (some ⟨r,0,none⟩)):=by rw [Lib.cell_of_heap H.out.cls.box];rfl
 cases hp:Pol.is (t1 :: l1) 4 [91] with
 | false =>
  have HP:Hid (Pol.inOf (f+1) nest tp a (t1 :: l1)=.error (t1.p,120)):=by show _=_;unfold Pol.inOf;rw [must_neg hp]
  have HP0:=Lib.hid hp
  clear hp
  have HNX:=Lib.hid (rd_must_no W2 r g _ _ t1 l1 nest ⟨#[91]⟩ H.out.cls.rd HP0.out)
  go_wp2_with fail
  refine HNX.out.mono ?_
  intro e w2 hs9
  obtain ⟨b9,hb9,rfl,hrow9,hf9⟩:=hs9.from (bs:=[r]) H.out.f (fun y hy=>.inl (by simpa using hy))
  show _
  exact ⟨rfl,by rw [HP.out];exact Done.stop ⟨b9,hb9,rfl,hrow9,hf9⟩⟩
 | true =>
  have hE1:Ends l1:=Pol.is_tail hp (by decide) HE.out
  have hl1:=hE1.pos
  have HP0:=Lib.hid hp
  have HE1:=Lib.hid hE1
  clear hp hE1
  have HNX:=Lib.hid (rd_must_yes W2 r g _ _ t1 l1 nest ⟨#[91]⟩ H.out.cls.rd hl1 HP0.out)
  have hmf:∀ fn first cap w,(Instr.makeFunc fn first cap).run Tryz.prog w=.ok (.func fn first cap) w:=fun _ _ _ _=>rfl
  go_wp2_with fail
  refine HNX.out.mono ?_
  rintro e W3 ⟨rfl,hf1,hr1⟩
  have H:=Lib.hid (H.out.step hf1 hr1)
  clear HNX hf1 hr1 hl1 x0 xf
  have HL1:Hid (l1.length ≤ 1000000):=H.out.cls.rd.few
  have hr3:r < W3.heap.size:=row_lt H.out.cls.rd.row
  have hz3:w.heap.size+1 < W3.heap.size:=row_lt H.out.res
  have HRW:=Lib.hid (row_reads f HO.out W3 r g _ _ l1 nest H.out.cls.rd HE1.out hn hr3 (fun p hp=>HFD.out p (by show Pol.inOf (f+1) nest tp a (t1 :: l1)=_;unfold Pol.inOf;rw [must_pos HP0.out];simp only [hp])))
  have HP:Hid (Pol.inOf (f+1) nest tp a (t1 :: l1)=match Pol.row (f+1) nest l1 with
   | .error e=>.error e
   | .ok (L, m) => match Pol.must m [93] with
     | .error e=>.error e
     | .ok (_,m)=>.ok (.mk 13 Pol.none_ 0 (a :: L) tp,m)):=by show _=_;unfold Pol.inOf;rw [must_pos HP0.out]
  obtain ⟨q,hq⟩:∃ q,Pol.row (f+1) nest l1=q:=⟨_,rfl⟩
  rw [hq] at HRW HP
  have Hq:=Lib.hid hq
  clear hq
  have xf:∀ i,W3.frozen? ⟨w.heap.size,i,none⟩=false:=fun i=>Lib.frozen_of_heap H.out.cls.box i
  have x0:W3.cell? ⟨w.heap.size,0,none⟩=some (.pointer (some ⟨r,0,none⟩)):=by rw [Lib.cell_of_heap H.out.cls.box];rfl
  go_wp2_with fail
  refine HRW.out.mono ?_
  intro e W4 hd
  cases q with
  | error pe =>
   obtain ⟨pp,pn⟩:=pe
   have HPP:Hid (Pol.inOf (f+1) nest tp a (t1 :: l1)=.error (pp,pn)):=HP.out
   have hs9:Stops [r] W3 pp pn e W4:=hd
   obtain ⟨b9,hb9,rfl,hrow9,hf9⟩:=hs9.from (bs:=[r]) H.out.f (fun y hy=>.inl (by simpa using hy))
   show _
   exact ⟨rfl,by rw [HPP.out];exact Done.stop ⟨b9,hb9,rfl,hrow9,hf9⟩⟩
  | ok xm =>
   obtain ⟨L,m2⟩:=xm
   obtain ⟨v,css,rfl,hown,hexs,hf4,o4,c4,hr4⟩:=hd
   have H:=Lib.hid (H.out.step hf4 hr4)
   have hEm:Ends m2:=(Pol.all_keep (f+1)).2.2.1 _ _ _ _ Hq.out HE1.out
   obtain ⟨t3,l3,rfl⟩:=hEm.cons
   have HEM:=Lib.hid hEm
   have HOWN:=Lib.hid hown
   have HEXS:=Lib.hid hexs
   have HF4:=Lib.hid hf4
   clear hown hexs hf4 hr4 hEm HRW x0 xf
   have xf:∀ i,W4.frozen? ⟨w.heap.size,i,none⟩=false:=fun i=>Lib.frozen_of_heap H.out.cls.box i
   have x0:W4.cell? ⟨w.heap.size,0,none⟩=some (.pointer (some ⟨r,0,none⟩)):=by rw [Lib.cell_of_heap H.out.cls.box];rfl
   cases hp:Pol.is (t3 :: l3) 4 [93] with
   | false =>
    have HPP:Hid (Pol.inOf (f+1) nest tp a (t1 :: l1)=.error (t3.p,120)):=by show _=_;rw [HP.out];simp only [must_neg hp]
    have HP0:=Lib.hid hp
    clear hp
    have HNX:=Lib.hid (rd_must_no W4 r g _ _ t3 l3 nest ⟨#[93]⟩ H.out.cls.rd HP0.out)
    go_wp2_with fail
    refine HNX.out.mono ?_
    intro e w2 hs9
    obtain ⟨b9,hb9,rfl,hrow9,hf9⟩:=hs9.from (bs:=[r]) H.out.f (fun y hy=>.inl (by simpa using hy))
    show _
    exact ⟨rfl,by rw [HPP.out];exact Done.stop ⟨b9,hb9,rfl,hrow9,hf9⟩⟩
   | true =>
    have HPP:Hid (Pol.inOf (f+1) nest tp a (t1 :: l1)=.ok (.mk 13 Pol.none_ 0 (a :: L) tp,l3)):=by show _=_;rw [HP.out];simp only [must_pos hp]
    have hl3:0 < l3.length:=(Pol.is_tail hp (by decide) HEM.out:Ends l3).pos
    have HP1:=Lib.hid hp
    have hLp:=Lib.hid (Pol.row_pos (f:=f+1) Hq.out)
    have hsh:=Lib.hid (Pol.row_few (f:=f+1) Hq.out)
    clear hp
    have HNX:=Lib.hid (rd_must_yes W4 r g _ _ t3 l3 nest ⟨#[93]⟩ H.out.cls.rd hl3 HP1.out)
    go_wp2_with fail
    refine HNX.out.mono ?_
    rintro e W5 ⟨rfl,hf1,hr1⟩
    have H:=Lib.hid (H.out.step hf1 hr1)
    clear HNX hl3 x0 xf
    go_wp2_with fail
    obtain ⟨g5,c5,rfl,hg5⟩:=own_form5 HOWN.out hLp.out
    have hg5n:g5 ≠ r:=by omega
    have HOWN:Hid (W5.ownsRow W3.heap.size 42 5 (.slice (some ⟨g5,0,none⟩) L.length c5) L.length css.flatten):=ownsRow_blk HOWN.out (hf1.block _ (ownsRow_lt HOWN.out) (by simpa using hg5n))
    have HEXS:Hid (Exs W5 (fun i=>w.heap.size ≤ i ∧ i ≠ w.heap.size+1 ∧ i < W5.heap.size) css L):=((HEXS.out.mono (E:=fun i=>w.heap.size ≤ i ∧ i ≠ w.heap.size+1 ∧ i < W5.heap.size) (fun i hi h=>⟨by have:=h.1;omega,by have:=h.1;omega,Nat.lt_of_lt_of_le hi hf1.size⟩)).fr hf1 (fun y hy _ hc=>by simp at hy;have:=hc.1;omega))
    clear hf1 hr1
    have HS:Hid (∀ (U:World),U.heap[w1.heap.size+1]?=some (.cells #[.int .i64 tk,.string ts,.int .i64 tn,.int .i64 tp] 54 (0,0)) → U.heap[w1.heap.size]?=some (.cells #[.int .i64 op0,.string s9,.int .i64 n9,.slice q9 k9 c9,.int .i64 p9] 42 (0,0)) → ((fun W'=>W'.cell? ⟨w1.heap.size+1,3,none⟩=some (.int .i64 tp) ∧ W'.cell? ⟨w1.heap.size,0,none⟩=some (.int .i64 op0) ∧ W'.cell? ⟨w1.heap.size,1,none⟩=some (.string s9) ∧ W'.cell? ⟨w1.heap.size,2,none⟩=some (.int .i64 n9) ∧ W'.cell? ⟨w1.heap.size,3,none⟩=some (.slice q9 k9 c9) ∧ W'.cell? ⟨w1.heap.size,4,none⟩=some (.int .i64 p9)):World → Prop) U):=fun U h1 h2 =>
     ⟨by rw [Lib.cell_of_heap h1];rfl,by rw [Lib.cell_of_heap h2];rfl,by rw [Lib.cell_of_heap h2];rfl,by rw [Lib.cell_of_heap h2];rfl,by rw [Lib.cell_of_heap h2];rfl,by rw [Lib.cell_of_heap h2];rfl⟩
    have H0:=Lib.hid (H.out.fr (Fr.refl [] _).drew)
    have hS0:=HS.out _ H0.out.cls.tok H0.out.cls.av
    refine wp_region_held_drew (S:=(fun W'=>W'.cell? ⟨w1.heap.size+1,3,none⟩=some (.int .i64 tp) ∧ W'.cell? ⟨w1.heap.size,0,none⟩=some (.int .i64 op0) ∧ W'.cell? ⟨w1.heap.size,1,none⟩=some (.string s9) ∧ W'.cell? ⟨w1.heap.size,2,none⟩=some (.int .i64 n9) ∧ W'.cell? ⟨w1.heap.size,3,none⟩=some (.slice q9 k9 c9) ∧ W'.cell? ⟨w1.heap.size,4,none⟩=some (.int .i64 p9))) (by kernel_rfl) (hS0) (fun hHeld=>?_)
    refine held_take (i:=0) (v:=?_) 64 rfl rfl (by kernel_rfl) (by kernel_rfl) (by kernel_rfl) (fun _ _ _ h=>h) (Or.inl ⟨by rfl,?_⟩) (by assumption) ?_
    rotate_left 1
    ·intro w hSw;(try dsimp only at hSw);go_simp;try (with_reducible rfl)
    try simp only [Act.put,List.setIfInBounds_toArray,List.set_cons_zero,List.set_cons_succ]
    refine held_take (i:=1) (v:=?_) 65 rfl rfl (by kernel_rfl) (by kernel_rfl) (by kernel_rfl) (fun _ _ _ h=>h) (Or.inl ⟨by rfl,?_⟩) (by assumption) ?_
    rotate_left 1
    ·intro w hSw;(try dsimp only at hSw);go_simp;try (with_reducible rfl)
    try simp only [Act.put,List.setIfInBounds_toArray,List.set_cons_zero,List.set_cons_succ]
    refine held_take (i:=2) (v:=?_) 66 rfl rfl (by kernel_rfl) (by kernel_rfl) (by kernel_rfl) (fun _ _ _ h=>h) (Or.inl ⟨by rfl,?_⟩) (by assumption) ?_
    rotate_left 1
    ·intro w hSw;(try dsimp only at hSw);go_simp;try (with_reducible rfl)
    try simp only [Act.put,List.setIfInBounds_toArray,List.set_cons_zero,List.set_cons_succ]
    refine held_take (i:=4) (v:=?_) 68 rfl rfl (by kernel_rfl) (by kernel_rfl) (by kernel_rfl) (fun _ _ _ h=>h) (Or.inl ⟨by rfl,?_⟩) (by assumption) ?_
    rotate_left 1
    ·intro w hSw;(try dsimp only at hSw);go_simp;try (with_reducible rfl)
    try simp only [Act.put,List.setIfInBounds_toArray,List.set_cons_zero,List.set_cons_succ]
    refine wpAnyH_ready (rs:=[3]) (by kernel_rfl) (by simp) ?_
    refine AllReadyH.cons rfl (fun K hK=>?_) AllReadyH.nil
    have H1:=Lib.hid (H0.out.fr ((Fr.refl [] _).alloc (.cells #[.int .i64 op0,.string s9,.int .i64 n9,.slice q9 k9 c9,.int .i64 p9] 42)))
    go_simp
    refine hK.out _ _ (HS.out _ H1.out.cls.tok H1.out.cls.av) (fun hHeld=>?_)
    clear hK K
    try simp only [Act.put,List.setIfInBounds_toArray,List.set_cons_zero,List.set_cons_succ]
    have hA5:w1.heap.size < W5.heap.size:=row_lt H.out.cls.av
    have hT5:w1.heap.size+1 < W5.heap.size:=row_lt H.out.cls.tok
    have hF5:w1.heap.size+1+1 < W5.heap.size:=row_lt H.out.fn
    have hR5:w.heap.size+1 < W5.heap.size:=row_lt H.out.res
    have hB5:w.heap.size < W5.heap.size:=by omega
    have hg55:g5 < W5.heap.size:=ownsRow_lt HOWN.out
    have hAL:Fr [] W5 (World.alloc W5.drew (.cells #[.int .i64 op0,.string s9,.int .i64 n9,.slice q9 k9 c9,.int .i64 p9] 42)):=(Fr.refl [] W5).drew.alloc _
    have hrp1:=(H.out.cls.rep.mono (E:=fun i=>(w.heap.size ≤ i ∧ i ≠ w.heap.size+1) ∧ i ≠ W5.heap.size) (fun i hi h=>⟨h,by omega⟩)).fr hAL (fun y hy _=>by cases hy)
    have hex1:=HEXS.out.fr hAL (fun y hy _=>by cases hy)
    have how1:=ownsRow_fr HOWN.out hAL
    refine wpAnyH_fresh (fun U=>Cmp w w.heap.size (w1.heap.size+1) w1.heap.size (w1.heap.size+1+1) (w.heap.size+1) r g _ _ l3 nest ⟨tk,ts,tn,tp⟩ [.int .i64 op0,.string s9,.int .i64 n9,.slice q9 k9 c9,.int .i64 p9] a U ∧ U.heap[W5.heap.size]?=some (.cells #[.int .i64 op0,.string s9,.int .i64 n9,.slice q9 k9 c9,.int .i64 p9] 42 (0,0))
     ∧ U.ownsRow W3.heap.size 42 5 (.slice (some ⟨g5,0,none⟩) L.length c5) L.length css.flatten ∧ Exs U (fun i=>w.heap.size ≤ i ∧ i ≠ w.heap.size+1 ∧ i < W5.heap.size) css L ∧ Rep U (fun i=>(w.heap.size ≤ i ∧ i ≠ w.heap.size+1) ∧ i ≠ W5.heap.size) [.int .i64 op0,.string s9,.int .i64 n9,.slice q9 k9 c9,.int .i64 p9] a ∧ W5.heap.size+1 ≤ U.heap.size)
     ⟨H1.out,heap_alloc_last W5.drew _,how1,hex1,hrp1,by simp⟩ ?_
    rintro U ⟨hu1,hu2,hu3,hu4,hu5,hu6⟩
    have HU1:=Lib.hid hu1
    have HU4:=Lib.hid hu4
    have HU5:=Lib.hid hu5
    have HROW:=Lib.hid hu2
    have hownA:U.ownsRow W5.heap.size 42 5 (.slice (some ⟨W5.heap.size,0,none⟩) 1 1) 1 [.int .i64 op0,.string s9,.int .i64 n9,.slice q9 k9 c9,.int .i64 p9]:=⟨rfl,Or.inr ⟨W5.heap.size,1,_,rfl,Nat.le_refl _,hu2,Nat.le_refl _,by decide,rfl,rfl⟩⟩
    have hnews:=own5_cells hu3
    have hlen5:css.flatten.length=L.length * 5:=by have:=hu3.1;simpa using this
    have honeL:=exs_one hu4
    have hLp2:=hLp.out
    have hL9:L.length ≤ 1000000:=by have h9:=hsh.out;have h8:=HL1.out;simp only [List.length_cons] at h9;omega
    obtain ⟨i0,hi,hz0,hz1',hz2⟩:=info_parts infoEx
    refine wpAnyH_ready (rs:=[5]) (by kernel_rfl) (by simp) ?_
    refine AllReadyH.cons rfl (fun K hK=>?_) AllReadyH.nil
    refine step_append_lies U (by rfl) (.tmp 67) (.tmp 68) _ (by rfl) W5.heap.size 42 i0 _ 5 64 Tryz.underlying38 hi hz0 hz1' hz2 rfl (by decide) _ 1 _ (by rfl) hownA _ L.length c5 css.flatten (by rfl) hlen5 hnews honeL hLp2 (by unfold maxLen;omega) (by omega) (by omega) _ rfl ?_
    intro g9 cap9 w9 ho hg hgg hgl
    have hf9:Fr [W5.heap.size] U w9:=Fr.of_grown hg
    have hrp9:Rep w9 (fun i=>w.heap.size ≤ i ∧ i ≠ w.heap.size+1) [.int .i64 op0,.string s9,.int .i64 n9,.slice q9 k9 c9,.int .i64 p9] a:=(HU5.out.fr hf9 (fun y hy _ hc=>hc.2 (by simpa using hy))).mono (fun i _ h=>h.1)
    have hex9:Exs w9 (fun i=>w.heap.size ≤ i ∧ i ≠ w.heap.size+1) css L:=(HU4.out.fr hf9 (fun y hy _ hc=>by simp at hy;omega)).mono (fun i _ h=>⟨h.1,h.2.1⟩)
    have H9:=Lib.hid (HU1.out.other hf9 ⟨by omega,by omega,by omega,by omega,by omega⟩ (by omega) hrp9)
    have hD9:w.heap.size ≤ g9 ∧ g9 ≠ w.heap.size+1:=by
     rcases hgg with h9 | h9
     ·simp [Value.ownBlock] at h9;omega
     ·omega
    have hnode:Rep w9 (fun i=>w.heap.size ≤ i ∧ i ≠ w.heap.size+1) [.int .i64 13,.string ⟨#[]⟩,.int .i64 0,.slice (some ⟨g9,0,none⟩) (1+L.length) cap9,.int .i64 tp] (.mk 13 Pol.none_ 0 (a :: L) tp):=by
     have e9:(a :: L).length=1+L.length:=by simp;omega
     have h8:=Rep.of_own (w:=w9) (D:=fun i=>w.heap.size ≤ i ∧ i ≠ w.heap.size+1) 13 ⟨#[]⟩ 0 tp (a :: L) ([.int .i64 op0,.string s9,.int .i64 n9,.slice q9 k9 c9,.int .i64 p9] :: css) g9 W5.heap.size cap9 hD9 (by simp [hex9.len]) (by rw [e9];exact ho) (Exs.cons hrp9 hex9).rep
     rw [e9] at h8
     exact h8
    have HN9:=Lib.hid hnode
    refine hK.out _ _ (HS.out _ H9.out.cls.tok H9.out.cls.av) (fun hHeld=>?_)
    clear hK K hnode hrp9 hex9 hf9 ho hg hgg hu1 hu2 hu3 hu4 hu5 hownA hnews hlen5 honeL hrp1 hex1 how1 hAL hS0
    try simp only [Act.put,List.setIfInBounds_toArray,List.set_cons_zero,List.set_cons_succ]
    refine held_take (i:=6) (v:=?_) 70 rfl rfl (by kernel_rfl) (by kernel_rfl) (by kernel_rfl) (fun _ _ _ h=>h) (Or.inl ⟨by rfl,?_⟩) (by assumption) ?_
    rotate_left 1
    ·intro w hSw;(try dsimp only at hSw);go_simp;try (with_reducible rfl)
    try simp only [Act.put,List.setIfInBounds_toArray,List.set_cons_zero,List.set_cons_succ]
    have zf:∀ i,w9.frozen? ⟨(w.heap.size+1),i,none⟩=false:=fun i=>Lib.frozen_of_heap H9.out.res i
    have z0:w9.cell? ⟨(w.heap.size+1),0,none⟩=some (.int .i64 0):=by rw [Lib.cell_of_heap H9.out.res];rfl
    have z1:w9.cell? ⟨(w.heap.size+1),1,none⟩=some (.string ⟨#[]⟩):=by rw [Lib.cell_of_heap H9.out.res];rfl
    have z2:w9.cell? ⟨(w.heap.size+1),2,none⟩=some (.int .i64 0):=by rw [Lib.cell_of_heap H9.out.res];rfl
    have z3:w9.cell? ⟨(w.heap.size+1),3,none⟩=some (.slice none 0 0):=by rw [Lib.cell_of_heap H9.out.res];rfl
    have z4:w9.cell? ⟨(w.heap.size+1),4,none⟩=some (.int .i64 0):=by rw [Lib.cell_of_heap H9.out.res];rfl
    have HG:=Lib.hid (H9.out.give HN9.out)
    have HT:=Lib.hid (heap_five H9.out.res (.int .i64 13) (.string ⟨#[]⟩) (.int .i64 0) (.slice (some ⟨g9,0,none⟩) (1+L.length) cap9) (.int .i64 tp))
    have hff:=fr_five w9 [w.heap.size+1] (w.heap.size+1) (.int .i64 13) (.string ⟨#[]⟩) (.int .i64 0) (.slice (some ⟨g9,0,none⟩) (1+L.length) cap9) (.int .i64 tp) (by simp)
    have HS2:=Lib.hid (HS.out _ (hff.row H9.out.cls.tok (by simp;omega)) (hff.row H9.out.cls.av (by simp;omega)))
    clear hff
    refine wpAnyH_ready (rs:=[7]) (by kernel_rfl) (by simp) ?_
    refine AllReadyH.cons rfl (fun K hK=>?_) AllReadyH.nil
    go_simp
    refine hK.out _ _ (HS2.out) (fun hHeld=>?_)
    clear hK K
    try simp only [Act.put,List.setIfInBounds_toArray,List.set_cons_zero,List.set_cons_succ]
    refine wpAnyH_done (by kernel_rfl) ?_ _
    go_wp2_with fail
    refine bodyPost_ret (v:=.agg #[.int .i64 13,.string ⟨#[]⟩,.int .i64 0,.slice (some ⟨g9,0,none⟩) (1+L.length) cap9,.int .i64 tp]) (results_cell_row rfl _ _ (w.heap.size+1) _ _ (0,0) _ rfl HT.out Tryz.underlying42 rfl (by kernel_rfl)) rfl ?_
    rw [HPP.out]
    exact HG.out
end Go.Proofs.YtgklmpooonnmiaaGreatDoor
