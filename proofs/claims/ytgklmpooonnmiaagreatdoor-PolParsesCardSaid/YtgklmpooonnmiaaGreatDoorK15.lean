/-
  Lemmas and contracts that the proofs over this seat use (RefKept, RefOpd, RefOpd2, RefOpd3); no statement of the seat is claimed in this text, and nothing is assumed in it.
-/
import Derived.Test.YtgklmpooonnmiaaGreatDoorK1
import Derived.Deep.LoopGhost
import Derived.Test.YtgklmpooonnmiaaGreatDoorK10
import Derived.Test.YtgklmpooonnmiaaGreatDoorK9
import Derived.Deep.CutRange
import Derived.Deep.DeepCutAuto
import Derived.RegionTactic
import Derived.ChangeAlike
set_option linter.unusedVariables false
set_option linter.unusedSimpArgs false
namespace Go.Proofs.YtgklmpooonnmiaaGreatDoor
open Go.RowKit
def keptW:List ByteArray:=[⟨#[112,101,114,109,105,116]⟩,⟨#[100,101,110,121]⟩,⟨#[119,104,101,110]⟩,⟨#[97,110,100]⟩,⟨#[111,114]⟩,⟨#[110,111,116]⟩,⟨#[105,110]⟩,⟨#[104,97,115]⟩,⟨#[116,114,117,101]⟩,⟨#[102,97,108,115,101]⟩,⟨#[99,108,97,105,109]⟩]
theorem kept_any (s:ByteArray):Pol.kept s=keptW.any fun y=>y.toList == s.toList:=by
 have e:Pol.words=keptW.map (·.toList):=by kernel_rfl
 unfold Pol.kept
 rw [e,List.contains_eq_any_beq,List.any_map]
 congr 1
 funext y
 exact Bool.eq_iff_iff.2 ⟨fun h=>by simpa using (beq_iff_eq.1 h).symm,fun h=>by simpa using (beq_iff_eq.1 h).symm⟩
set_option maxHeartbeats 4000000 in
set_option maxRecDepth 100000 in
theorem ref_Kept (w:World) (s:ByteArray):Calls Tryz.prog 89 #[.string s] w fun e w'=>e=.returned (.bool (Pol.kept s)) ∧ Fr [] w w':=by
 have HK:=Lib.hid (kept_any s)
 go_enter Tryz.func89,Tryz.ntmps89
 go_wp2_with fail
 have HR:Hid ((w.alloc (.cells (keptW.map Value.string).toArray 9)).heap[w.heap.size]?=some (.cells (keptW.map Value.string).toArray 9 (0,0))):=heap_alloc_last _ _
 refine wp_fresh (fun V=>V.heap[w.heap.size]?=some (.cells (keptW.map Value.string).toArray 9 (0,0)) ∧ Fr [] w V) ⟨HR.out,(Fr.refl _ _).alloc _⟩ ?_
 rintro V ⟨hr,hF⟩
 have HF:=Lib.hid hF
 have HR:=Lib.hid hr
 clear hr hF
 go_loopg [4] 11 (fun m s4 W=>∃ (k:Nat),k ≤ 11 ∧ m=11 - k ∧ s4=.int .i64 k ∧ V=W ∧ Hid (∀ i,i < k → ∀ y,keptW[i]?=some y → ¬ y.toList=s.toList))
 case atStart=>exact ⟨0,by omega,by omega,rfl,rfl,fun i hi=>by omega⟩
 case round =>
  obtain ⟨k,hk,hm,rfl,rfl,HN⟩:=hrel
  have HM:=Lib.hid hm
  clear hm
  by_cases hlt:k < 11
  ·have hlt':(k:Int) < 11:=by omega
   have hk0:(0:Int) ≤ (k:Int):=by omega
   obtain ⟨y,hy⟩:∃ y,keptW[k]?=some y:=⟨_,List.getElem?_eq_getElem (show k < keptW.length from hlt)⟩
   have c0:V.cell? ⟨w.heap.size,k,none⟩=some (.string y):=by
    rw [Lib.cell_of_heap HR.out]
    simp [hy]
   have HY:=Lib.hid hy
   clear hy
   by_cases he:y.toList=s.toList
   ·have he2:(y.toList == s.toList)=true:=beq_iff_eq.2 he
    have HE:Hid (Pol.kept s=true):=by
     show _=_
     rw [HK.out,List.any_eq_true]
     exact ⟨y,List.mem_of_getElem? HY.out,he2⟩
    clear he
    go_wp2_with fail
    go_ret
    rw [HE.out]
    exact ⟨rfl,HF.out⟩
   ·have he2:(y.toList == s.toList)=false:=beq_eq_false_iff_ne.2 he
    have HN2:Hid (∀ i,i < k+1 → ∀ y,keptW[i]?=some y → ¬ y.toList=s.toList):=fun i hi z hz=>by
     by_cases h:i < k
     ·exact HN.out i h z hz
     ·obtain rfl:i=k:=by omega
      rw [HY.out] at hz
      cases hz
      exact he
    clear he
    go_wp2_with fail
    go_roundg (11 - (k+1))
    case measure=>have:=HM.out;omega
    case rel=>exact ⟨k+1,by omega,rfl,by go_num,rfl,HN2.out⟩
  ·have hlt':¬ (k:Int) < 11:=by omega
   have HE:Hid (Pol.kept s=false):=by
    show _=_
    rw [HK.out,List.any_eq_false]
    intro y hy
    obtain ⟨i,hi,rfl⟩:=List.mem_iff_getElem.1 hy
    have hi2:i < 11:=hi
    have:=HN.out i (by omega) _ (List.getElem?_eq_getElem hi)
    simpa using this
   go_wp2_with fail
   go_ret
   rw [HE.out]
   exact ⟨rfl,HF.out⟩
end Go.Proofs.YtgklmpooonnmiaaGreatDoor

namespace Go.Proofs.YtgklmpooonnmiaaGreatDoor
open Go.RowKit
theorem ref_isB (w:World) (ad:Addr) (cap:Nat) (l:List TI) (i:Nat) (z:Int) (k:Int) (s:ByteArray) (bs:List UInt8) (hs:s.toList=bs) (b:Bool) (h:TL w ad cap l) (hi:i < l.length) (hz:z=i) (hb:Pol.is (l.drop i) k bs=b) :
  Calls Tryz.prog 22 #[.slice (some ad) l.length cap,.int .i64 z,.int .i64 k,.string s] w fun e w'=>e=.returned (.bool b) ∧ w=w':=by
 subst hz
 rw [← hb,← hs]
 exact ref_is w ad cap l i k s h hi
structure RO (w:World) (t:TI) (b:Nat) (rs e:Array Value) (W:World):Prop where
 res:W.heap[b]?=some (.cells rs 42 (0,0))
 tok:W.heap[b+1]?=some (.cells #[.int .i64 t.k,.string t.s,.int .i64 t.n,.int .i64 t.p] 54 (0,0))
 ex:W.heap[b+1+1]?=some (.cells e 42 (0,0))
 f:Fr [] w W
 bw:b=w.heap.size
theorem RO.fr {w:World} {t:TI} {b:Nat} {rs e:Array Value} {W W':World} (h:RO w t b rs e W) (hf:Fr [] W W'):RO w t b rs e W' :=
 ⟨hf.row h.res (by simp),hf.row h.tok (by simp),hf.row h.ex (by simp),h.f.trans0 hf,h.bw⟩
theorem RO.sete {w:World} {t:TI} {b:Nat} {rs e:Array Value} {W:World} (h:RO w t b rs e W) (i:Nat) (u:Value):RO w t b rs (e.setIfInBounds i u) (W.setCell ⟨b+1+1,i,none⟩ u):=by
 have h2:=h.bw
 have hf:Fr [b+1+1] W (W.setCell ⟨b+1+1,i,none⟩ u):=(Fr.refl _ _).setCell (p:=⟨b+1+1,i,none⟩) (.inl (by simp)) _
 exact ⟨hf.row h.res (by simp;omega),hf.row h.tok (by simp),heap_set_row h.ex i u,h.f.setCell (p:=⟨b+1+1,i,none⟩) (.inr (by show _ ≤ b+1+1;omega)) _,h2⟩
theorem RO.setr {w:World} {t:TI} {b:Nat} {rs e:Array Value} {W:World} (h:RO w t b rs e W) (i:Nat) (u:Value):RO w t b (rs.setIfInBounds i u) e (W.setCell ⟨b,i,none⟩ u):=by
 have h2:=h.bw
 have hf:Fr [b] W (W.setCell ⟨b,i,none⟩ u):=(Fr.refl _ _).setCell (p:=⟨b,i,none⟩) (.inl (by simp)) _
 exact ⟨heap_set_row h.res i u,hf.row h.tok (by simp),hf.row h.ex (by simp;omega),h.f.setCell (p:=⟨b,i,none⟩) (.inr (by show _ ≤ b;omega)) _,h2⟩
theorem RepA.leaf (w:World) (op:Int) (s:ByteArray) (n p:Int):RepA w [.int .i64 op,.string s,.int .i64 n,.slice none 0 0,.int .i64 p] (.mk op s n [] p) :=
 .mk op s n [] p none 0 (fun _=>[]) (Nat.le_refl _) (by decide) (fun i x h=>by simp at h) (fun i x h=>by simp at h)
theorem next_lt {l:List TI} {i:Nat} {t:TI} (hE:Ends l) (ht:l[i]?=some t) (hk:t.k ≠ 5):i+1 < l.length:=by
 obtain ⟨u,hu,h5⟩:=hE
 have hi:i < l.length:=(List.getElem?_eq_some_iff.1 ht).1
 by_cases h:i+1 < l.length
 ·exact h
 ·exfalso
  rw [List.getLast?_eq_getElem?,show l.length - 1=i by omega,ht] at hu
  cases hu
  exact hk h5
set_option maxHeartbeats 1000000 in
set_option maxRecDepth 100000 in
theorem ropd_int (w:World) (ad:Addr) (cap:Nat) (l:List TI) (i nest:Nat) (h:TL w ad cap l) (hi:i < l.length) (t:TI) (ht:l[i]?=some t) (f1:Pol.is (l.drop i) 4 [40]=false) (hk:t.k=3) :
  Calls Tryz.prog 106 #[.slice (some ad) l.length cap,.int .i64 i,.int .i64 nest] w (PaDone l w (.ok (.mk 2 Pol.none_ t.n [] t.p,l.drop (i+1)))):=by
 have HI1:Hid (∀ V,Fr [] w V → Calls Tryz.prog 22 #[.slice (some ad) l.length cap,.int .i64 i,.int .i64 4,.string ⟨#[40]⟩] V fun e w'=>e=.returned (.bool false) ∧ V=w'):=fun V hV=>ref_isB V ad cap l i i 4 ⟨#[40]⟩ [40] (by kernel_rfl) false (h.fr hV) hi rfl f1
 have hn:=next_lt h.ends ht (by rw [hk];decide)
 obtain ⟨tk,ts,tn,tp⟩:=t
 obtain rfl:tk=3:=hk
 obtain ⟨c0,c1,c2,c3⟩:=h.cells ht
 simp only [] at c0 c1 c2 c3
 have hb:l.length ≤ 1000000:=h.few
 have hi1:(i:Int) < (l.length:Int):=by omega
 have hi0:(0:Int) ≤ (i:Int):=by omega
 have hbl:=World.block_lt_of_cell? w _ c0
 go_enter Tryz.func106,Tryz.ntmps106
 go_upto_region 4 with fail
 refine wp_fresh (fun W=>RO w ⟨3,ts,tn,tp⟩ w.heap.size z5 #[.int .i64 0,.string ⟨#[]⟩,.int .i64 0,.slice none 0 0,.int .i64 tp] W) ?_ ?_
 ·exact ⟨(alloc3 _ _ _ _).1,(alloc3 _ _ _ _).2.1,(alloc3 _ _ _ _).2.2,(((Fr.refl _ _).alloc _).alloc _).alloc _,rfl⟩
 intro W h1
 obtain ⟨b,hbb⟩:∃ b,w.heap.size=b:=⟨_,rfl⟩
 rw [hbb] at h1 ⊢
 have H:=Lib.hid h1
 have HB:=Lib.hid hbb
 have HTL:=Lib.hid h
 have HT0:=Lib.hid ht
 have kf:∀ i,W.frozen? ⟨(b+1),i,none⟩=false:=fun i=>Lib.frozen_of_heap h1.tok i
 have k0:W.cell? ⟨(b+1),0,none⟩=some (.int .i64 (3)):=by rw [Lib.cell_of_heap h1.tok];rfl
 have k1:W.cell? ⟨(b+1),1,none⟩=some (.string ts):=by rw [Lib.cell_of_heap h1.tok];rfl
 have k2:W.cell? ⟨(b+1),2,none⟩=some (.int .i64 tn):=by rw [Lib.cell_of_heap h1.tok];rfl
 have k3:W.cell? ⟨(b+1),3,none⟩=some (.int .i64 tp):=by rw [Lib.cell_of_heap h1.tok];rfl
 have ef:∀ i,W.frozen? ⟨(b+1+1),i,none⟩=false:=fun i=>Lib.frozen_of_heap h1.ex i
 have e0:W.cell? ⟨(b+1+1),0,none⟩=some (.int .i64 0):=by rw [Lib.cell_of_heap h1.ex];rfl
 have e1:W.cell? ⟨(b+1+1),1,none⟩=some (.string ⟨#[]⟩):=by rw [Lib.cell_of_heap h1.ex];rfl
 have e2:W.cell? ⟨(b+1+1),2,none⟩=some (.int .i64 0):=by rw [Lib.cell_of_heap h1.ex];rfl
 have e3:W.cell? ⟨(b+1+1),3,none⟩=some (.slice none 0 0):=by rw [Lib.cell_of_heap h1.ex];rfl
 have e4:W.cell? ⟨(b+1+1),4,none⟩=some (.int .i64 tp):=by rw [Lib.cell_of_heap h1.ex];rfl
 have zf:∀ i,W.frozen? ⟨b,i,none⟩=false:=fun i=>Lib.frozen_of_heap h1.res i
 have z0:W.cell? ⟨b,0,none⟩=some (.int .i64 0):=by rw [Lib.cell_of_heap h1.res];rfl
 have z1:W.cell? ⟨b,1,none⟩=some (.string ⟨#[]⟩):=by rw [Lib.cell_of_heap h1.res];rfl
 have z2:W.cell? ⟨b,2,none⟩=some (.int .i64 0):=by rw [Lib.cell_of_heap h1.res];rfl
 have z3:W.cell? ⟨b,3,none⟩=some (.slice none 0 0):=by rw [Lib.cell_of_heap h1.res];rfl
 have z4:W.cell? ⟨b,4,none⟩=some (.int .i64 0):=by rw [Lib.cell_of_heap h1.res];rfl
 clear h1 hbb h ht c0 c1 c2 c3 hbl
 go_wp2_with fail
 refine (HI1.out _ H.out.f).mono ?_
 rintro e w1 ⟨rfl,rfl⟩
 clear HI1
 go_wp2_with fail
 have HT:=Lib.hid (((((((H.out.sete 0 (.int .i64 2)).sete 2 (.int .i64 tn)).setr 0 (.int .i64 2)).setr 1 (.string ⟨#[]⟩)).setr 2 (.int .i64 tn)).setr 3 (.slice none 0 0)).setr 4 (.int .i64 tp))
 refine bodyPost_ret (results_cell_tmp2 rfl _ _ b _ _ (0,0) _ rfl HT.out.res Tryz.underlying42 rfl (by kernel_rfl)) rfl ?_
 exact ⟨[_,_,_,_,_],i+1,rfl,Rep.leaf _ _ _ _ _ _,hn,rfl,HT.out.f⟩
set_option maxHeartbeats 1000000 in
set_option maxRecDepth 100000 in
theorem ropd_text (w:World) (ad:Addr) (cap:Nat) (l:List TI) (i nest:Nat) (h:TL w ad cap l) (hi:i < l.length) (t:TI) (ht:l[i]?=some t) (f1:Pol.is (l.drop i) 4 [40]=false) (hk:t.k=2) :
  Calls Tryz.prog 106 #[.slice (some ad) l.length cap,.int .i64 i,.int .i64 nest] w (PaDone l w (.ok (.mk 3 t.s 0 [] t.p,l.drop (i+1)))):=by
 have HI1:Hid (∀ V,Fr [] w V → Calls Tryz.prog 22 #[.slice (some ad) l.length cap,.int .i64 i,.int .i64 4,.string ⟨#[40]⟩] V fun e w'=>e=.returned (.bool false) ∧ V=w'):=fun V hV=>ref_isB V ad cap l i i 4 ⟨#[40]⟩ [40] (by kernel_rfl) false (h.fr hV) hi rfl f1
 have hn:=next_lt h.ends ht (by rw [hk];decide)
 obtain ⟨tk,ts,tn,tp⟩:=t
 obtain rfl:tk=2:=hk
 obtain ⟨c0,c1,c2,c3⟩:=h.cells ht
 simp only [] at c0 c1 c2 c3
 have hb:l.length ≤ 1000000:=h.few
 have hi1:(i:Int) < (l.length:Int):=by omega
 have hi0:(0:Int) ≤ (i:Int):=by omega
 have hbl:=World.block_lt_of_cell? w _ c0
 go_enter Tryz.func106,Tryz.ntmps106
 go_upto_region 4 with fail
 refine wp_fresh (fun W=>RO w ⟨2,ts,tn,tp⟩ w.heap.size z5 #[.int .i64 0,.string ⟨#[]⟩,.int .i64 0,.slice none 0 0,.int .i64 tp] W) ?_ ?_
 ·exact ⟨(alloc3 _ _ _ _).1,(alloc3 _ _ _ _).2.1,(alloc3 _ _ _ _).2.2,(((Fr.refl _ _).alloc _).alloc _).alloc _,rfl⟩
 intro W h1
 obtain ⟨b,hbb⟩:∃ b,w.heap.size=b:=⟨_,rfl⟩
 rw [hbb] at h1 ⊢
 have H:=Lib.hid h1
 have HB:=Lib.hid hbb
 have HTL:=Lib.hid h
 have HT0:=Lib.hid ht
 have kf:∀ i,W.frozen? ⟨(b+1),i,none⟩=false:=fun i=>Lib.frozen_of_heap h1.tok i
 have k0:W.cell? ⟨(b+1),0,none⟩=some (.int .i64 (2)):=by rw [Lib.cell_of_heap h1.tok];rfl
 have k1:W.cell? ⟨(b+1),1,none⟩=some (.string ts):=by rw [Lib.cell_of_heap h1.tok];rfl
 have k2:W.cell? ⟨(b+1),2,none⟩=some (.int .i64 tn):=by rw [Lib.cell_of_heap h1.tok];rfl
 have k3:W.cell? ⟨(b+1),3,none⟩=some (.int .i64 tp):=by rw [Lib.cell_of_heap h1.tok];rfl
 have ef:∀ i,W.frozen? ⟨(b+1+1),i,none⟩=false:=fun i=>Lib.frozen_of_heap h1.ex i
 have e0:W.cell? ⟨(b+1+1),0,none⟩=some (.int .i64 0):=by rw [Lib.cell_of_heap h1.ex];rfl
 have e1:W.cell? ⟨(b+1+1),1,none⟩=some (.string ⟨#[]⟩):=by rw [Lib.cell_of_heap h1.ex];rfl
 have e2:W.cell? ⟨(b+1+1),2,none⟩=some (.int .i64 0):=by rw [Lib.cell_of_heap h1.ex];rfl
 have e3:W.cell? ⟨(b+1+1),3,none⟩=some (.slice none 0 0):=by rw [Lib.cell_of_heap h1.ex];rfl
 have e4:W.cell? ⟨(b+1+1),4,none⟩=some (.int .i64 tp):=by rw [Lib.cell_of_heap h1.ex];rfl
 have zf:∀ i,W.frozen? ⟨b,i,none⟩=false:=fun i=>Lib.frozen_of_heap h1.res i
 have z0:W.cell? ⟨b,0,none⟩=some (.int .i64 0):=by rw [Lib.cell_of_heap h1.res];rfl
 have z1:W.cell? ⟨b,1,none⟩=some (.string ⟨#[]⟩):=by rw [Lib.cell_of_heap h1.res];rfl
 have z2:W.cell? ⟨b,2,none⟩=some (.int .i64 0):=by rw [Lib.cell_of_heap h1.res];rfl
 have z3:W.cell? ⟨b,3,none⟩=some (.slice none 0 0):=by rw [Lib.cell_of_heap h1.res];rfl
 have z4:W.cell? ⟨b,4,none⟩=some (.int .i64 0):=by rw [Lib.cell_of_heap h1.res];rfl
 clear h1 hbb h ht c0 c1 c2 c3 hbl
 go_wp2_with fail
 refine (HI1.out _ H.out.f).mono ?_
 rintro e w1 ⟨rfl,rfl⟩
 clear HI1
 go_wp2_with fail
 have HT:=Lib.hid (((((((H.out.sete 0 (.int .i64 3)).sete 1 (.string ts)).setr 0 (.int .i64 3)).setr 1 (.string ts)).setr 2 (.int .i64 0)).setr 3 (.slice none 0 0)).setr 4 (.int .i64 tp))
 refine bodyPost_ret (results_cell_tmp2 rfl _ _ b _ _ (0,0) _ rfl HT.out.res Tryz.underlying42 rfl (by kernel_rfl)) rfl ?_
 exact ⟨[_,_,_,_,_],i+1,rfl,Rep.leaf _ _ _ _ _ _,hn,rfl,HT.out.f⟩
set_option maxHeartbeats 1000000 in
set_option maxRecDepth 100000 in
theorem ropd_true (w:World) (ad:Addr) (cap:Nat) (l:List TI) (i nest:Nat) (h:TL w ad cap l) (hi:i < l.length) (t:TI) (ht:l[i]?=some t) (f1:Pol.is (l.drop i) 4 [40]=false) (f2:Pol.is (l.drop i) 1 [116,114,117,101]=true) (hk:t.k=1) :
  Calls Tryz.prog 106 #[.slice (some ad) l.length cap,.int .i64 i,.int .i64 nest] w (PaDone l w (.ok (.mk 1 Pol.none_ 1 [] t.p,l.drop (i+1)))):=by
 have HI1:Hid (∀ V,Fr [] w V → Calls Tryz.prog 22 #[.slice (some ad) l.length cap,.int .i64 i,.int .i64 4,.string ⟨#[40]⟩] V fun e w'=>e=.returned (.bool false) ∧ V=w'):=fun V hV=>ref_isB V ad cap l i i 4 ⟨#[40]⟩ [40] (by kernel_rfl) false (h.fr hV) hi rfl f1
 have HI2:Hid (∀ V,Fr [] w V → Calls Tryz.prog 22 #[.slice (some ad) l.length cap,.int .i64 i,.int .i64 1,.string ⟨#[116,114,117,101]⟩] V fun e w'=>e=.returned (.bool true) ∧ V=w'):=fun V hV=>ref_isB V ad cap l i i 1 ⟨#[116,114,117,101]⟩ [116,114,117,101] (by kernel_rfl) true (h.fr hV) hi rfl f2
 have hn:=next_lt h.ends ht (by rw [hk];decide)
 obtain ⟨tk,ts,tn,tp⟩:=t
 obtain rfl:tk=1:=hk
 obtain ⟨c0,c1,c2,c3⟩:=h.cells ht
 simp only [] at c0 c1 c2 c3
 have hb:l.length ≤ 1000000:=h.few
 have hi1:(i:Int) < (l.length:Int):=by omega
 have hi0:(0:Int) ≤ (i:Int):=by omega
 have hbl:=World.block_lt_of_cell? w _ c0
 go_enter Tryz.func106,Tryz.ntmps106
 go_upto_region 4 with fail
 refine wp_fresh (fun W=>RO w ⟨1,ts,tn,tp⟩ w.heap.size z5 #[.int .i64 0,.string ⟨#[]⟩,.int .i64 0,.slice none 0 0,.int .i64 tp] W) ?_ ?_
 ·exact ⟨(alloc3 _ _ _ _).1,(alloc3 _ _ _ _).2.1,(alloc3 _ _ _ _).2.2,(((Fr.refl _ _).alloc _).alloc _).alloc _,rfl⟩
 intro W h1
 obtain ⟨b,hbb⟩:∃ b,w.heap.size=b:=⟨_,rfl⟩
 rw [hbb] at h1 ⊢
 have H:=Lib.hid h1
 have HB:=Lib.hid hbb
 have HTL:=Lib.hid h
 have HT0:=Lib.hid ht
 have kf:∀ i,W.frozen? ⟨(b+1),i,none⟩=false:=fun i=>Lib.frozen_of_heap h1.tok i
 have k0:W.cell? ⟨(b+1),0,none⟩=some (.int .i64 (1)):=by rw [Lib.cell_of_heap h1.tok];rfl
 have k1:W.cell? ⟨(b+1),1,none⟩=some (.string ts):=by rw [Lib.cell_of_heap h1.tok];rfl
 have k2:W.cell? ⟨(b+1),2,none⟩=some (.int .i64 tn):=by rw [Lib.cell_of_heap h1.tok];rfl
 have k3:W.cell? ⟨(b+1),3,none⟩=some (.int .i64 tp):=by rw [Lib.cell_of_heap h1.tok];rfl
 have ef:∀ i,W.frozen? ⟨(b+1+1),i,none⟩=false:=fun i=>Lib.frozen_of_heap h1.ex i
 have e0:W.cell? ⟨(b+1+1),0,none⟩=some (.int .i64 0):=by rw [Lib.cell_of_heap h1.ex];rfl
 have e1:W.cell? ⟨(b+1+1),1,none⟩=some (.string ⟨#[]⟩):=by rw [Lib.cell_of_heap h1.ex];rfl
 have e2:W.cell? ⟨(b+1+1),2,none⟩=some (.int .i64 0):=by rw [Lib.cell_of_heap h1.ex];rfl
 have e3:W.cell? ⟨(b+1+1),3,none⟩=some (.slice none 0 0):=by rw [Lib.cell_of_heap h1.ex];rfl
 have e4:W.cell? ⟨(b+1+1),4,none⟩=some (.int .i64 tp):=by rw [Lib.cell_of_heap h1.ex];rfl
 have zf:∀ i,W.frozen? ⟨b,i,none⟩=false:=fun i=>Lib.frozen_of_heap h1.res i
 have z0:W.cell? ⟨b,0,none⟩=some (.int .i64 0):=by rw [Lib.cell_of_heap h1.res];rfl
 have z1:W.cell? ⟨b,1,none⟩=some (.string ⟨#[]⟩):=by rw [Lib.cell_of_heap h1.res];rfl
 have z2:W.cell? ⟨b,2,none⟩=some (.int .i64 0):=by rw [Lib.cell_of_heap h1.res];rfl
 have z3:W.cell? ⟨b,3,none⟩=some (.slice none 0 0):=by rw [Lib.cell_of_heap h1.res];rfl
 have z4:W.cell? ⟨b,4,none⟩=some (.int .i64 0):=by rw [Lib.cell_of_heap h1.res];rfl
 clear h1 hbb h ht c0 c1 c2 c3 hbl
 go_wp2_with fail
 refine (HI1.out _ H.out.f).mono ?_
 rintro e w1 ⟨rfl,rfl⟩
 clear HI1
 go_wp2_with fail
 refine (HI2.out _ H.out.f).mono ?_
 rintro e w1 ⟨rfl,rfl⟩
 clear HI2
 go_wp2_with fail
 have HT:=Lib.hid (((((((H.out.sete 0 (.int .i64 1)).sete 2 (.int .i64 1)).setr 0 (.int .i64 1)).setr 1 (.string ⟨#[]⟩)).setr 2 (.int .i64 1)).setr 3 (.slice none 0 0)).setr 4 (.int .i64 tp))
 refine bodyPost_ret (results_cell_tmp2 rfl _ _ b _ _ (0,0) _ rfl HT.out.res Tryz.underlying42 rfl (by kernel_rfl)) rfl ?_
 exact ⟨[_,_,_,_,_],i+1,rfl,Rep.leaf _ _ _ _ _ _,hn,rfl,HT.out.f⟩
set_option maxHeartbeats 1000000 in
set_option maxRecDepth 100000 in
theorem ropd_false (w:World) (ad:Addr) (cap:Nat) (l:List TI) (i nest:Nat) (h:TL w ad cap l) (hi:i < l.length) (t:TI) (ht:l[i]?=some t) (f1:Pol.is (l.drop i) 4 [40]=false) (f2:Pol.is (l.drop i) 1 [116,114,117,101]=false) (f3:Pol.is (l.drop i) 1 [102,97,108,115,101]=true) (hk:t.k=1) :
  Calls Tryz.prog 106 #[.slice (some ad) l.length cap,.int .i64 i,.int .i64 nest] w (PaDone l w (.ok (.mk 1 Pol.none_ 0 [] t.p,l.drop (i+1)))):=by
 have HI1:Hid (∀ V,Fr [] w V → Calls Tryz.prog 22 #[.slice (some ad) l.length cap,.int .i64 i,.int .i64 4,.string ⟨#[40]⟩] V fun e w'=>e=.returned (.bool false) ∧ V=w'):=fun V hV=>ref_isB V ad cap l i i 4 ⟨#[40]⟩ [40] (by kernel_rfl) false (h.fr hV) hi rfl f1
 have HI2:Hid (∀ V,Fr [] w V → Calls Tryz.prog 22 #[.slice (some ad) l.length cap,.int .i64 i,.int .i64 1,.string ⟨#[116,114,117,101]⟩] V fun e w'=>e=.returned (.bool false) ∧ V=w'):=fun V hV=>ref_isB V ad cap l i i 1 ⟨#[116,114,117,101]⟩ [116,114,117,101] (by kernel_rfl) false (h.fr hV) hi rfl f2
 have HI3:Hid (∀ V,Fr [] w V → Calls Tryz.prog 22 #[.slice (some ad) l.length cap,.int .i64 i,.int .i64 1,.string ⟨#[102,97,108,115,101]⟩] V fun e w'=>e=.returned (.bool true) ∧ V=w'):=fun V hV=>ref_isB V ad cap l i i 1 ⟨#[102,97,108,115,101]⟩ [102,97,108,115,101] (by kernel_rfl) true (h.fr hV) hi rfl f3
 have hn:=next_lt h.ends ht (by rw [hk];decide)
 obtain ⟨tk,ts,tn,tp⟩:=t
 obtain rfl:tk=1:=hk
 obtain ⟨c0,c1,c2,c3⟩:=h.cells ht
 simp only [] at c0 c1 c2 c3
 have hb:l.length ≤ 1000000:=h.few
 have hi1:(i:Int) < (l.length:Int):=by omega
 have hi0:(0:Int) ≤ (i:Int):=by omega
 have hbl:=World.block_lt_of_cell? w _ c0
 go_enter Tryz.func106,Tryz.ntmps106
 go_upto_region 4 with fail
 refine wp_fresh (fun W=>RO w ⟨1,ts,tn,tp⟩ w.heap.size z5 #[.int .i64 0,.string ⟨#[]⟩,.int .i64 0,.slice none 0 0,.int .i64 tp] W) ?_ ?_
 ·exact ⟨(alloc3 _ _ _ _).1,(alloc3 _ _ _ _).2.1,(alloc3 _ _ _ _).2.2,(((Fr.refl _ _).alloc _).alloc _).alloc _,rfl⟩
 intro W h1
 obtain ⟨b,hbb⟩:∃ b,w.heap.size=b:=⟨_,rfl⟩
 rw [hbb] at h1 ⊢
 have H:=Lib.hid h1
 have HB:=Lib.hid hbb
 have HTL:=Lib.hid h
 have HT0:=Lib.hid ht
 have kf:∀ i,W.frozen? ⟨(b+1),i,none⟩=false:=fun i=>Lib.frozen_of_heap h1.tok i
 have k0:W.cell? ⟨(b+1),0,none⟩=some (.int .i64 (1)):=by rw [Lib.cell_of_heap h1.tok];rfl
 have k1:W.cell? ⟨(b+1),1,none⟩=some (.string ts):=by rw [Lib.cell_of_heap h1.tok];rfl
 have k2:W.cell? ⟨(b+1),2,none⟩=some (.int .i64 tn):=by rw [Lib.cell_of_heap h1.tok];rfl
 have k3:W.cell? ⟨(b+1),3,none⟩=some (.int .i64 tp):=by rw [Lib.cell_of_heap h1.tok];rfl
 have ef:∀ i,W.frozen? ⟨(b+1+1),i,none⟩=false:=fun i=>Lib.frozen_of_heap h1.ex i
 have e0:W.cell? ⟨(b+1+1),0,none⟩=some (.int .i64 0):=by rw [Lib.cell_of_heap h1.ex];rfl
 have e1:W.cell? ⟨(b+1+1),1,none⟩=some (.string ⟨#[]⟩):=by rw [Lib.cell_of_heap h1.ex];rfl
 have e2:W.cell? ⟨(b+1+1),2,none⟩=some (.int .i64 0):=by rw [Lib.cell_of_heap h1.ex];rfl
 have e3:W.cell? ⟨(b+1+1),3,none⟩=some (.slice none 0 0):=by rw [Lib.cell_of_heap h1.ex];rfl
 have e4:W.cell? ⟨(b+1+1),4,none⟩=some (.int .i64 tp):=by rw [Lib.cell_of_heap h1.ex];rfl
 have zf:∀ i,W.frozen? ⟨b,i,none⟩=false:=fun i=>Lib.frozen_of_heap h1.res i
 have z0:W.cell? ⟨b,0,none⟩=some (.int .i64 0):=by rw [Lib.cell_of_heap h1.res];rfl
 have z1:W.cell? ⟨b,1,none⟩=some (.string ⟨#[]⟩):=by rw [Lib.cell_of_heap h1.res];rfl
 have z2:W.cell? ⟨b,2,none⟩=some (.int .i64 0):=by rw [Lib.cell_of_heap h1.res];rfl
 have z3:W.cell? ⟨b,3,none⟩=some (.slice none 0 0):=by rw [Lib.cell_of_heap h1.res];rfl
 have z4:W.cell? ⟨b,4,none⟩=some (.int .i64 0):=by rw [Lib.cell_of_heap h1.res];rfl
 clear h1 hbb h ht c0 c1 c2 c3 hbl
 go_wp2_with fail
 refine (HI1.out _ H.out.f).mono ?_
 rintro e w1 ⟨rfl,rfl⟩
 clear HI1
 go_wp2_with fail
 refine (HI2.out _ H.out.f).mono ?_
 rintro e w1 ⟨rfl,rfl⟩
 clear HI2
 go_wp2_with fail
 refine (HI3.out _ H.out.f).mono ?_
 rintro e w1 ⟨rfl,rfl⟩
 clear HI3
 go_wp2_with fail
 have HT:=Lib.hid ((((((H.out.sete 0 (.int .i64 1)).setr 0 (.int .i64 1)).setr 1 (.string ⟨#[]⟩)).setr 2 (.int .i64 0)).setr 3 (.slice none 0 0)).setr 4 (.int .i64 tp))
 refine bodyPost_ret (results_cell_tmp2 rfl _ _ b _ _ (0,0) _ rfl HT.out.res Tryz.underlying42 rfl (by kernel_rfl)) rfl ?_
 exact ⟨[_,_,_,_,_],i+1,rfl,Rep.leaf _ _ _ _ _ _,hn,rfl,HT.out.f⟩
set_option maxHeartbeats 1000000 in
set_option maxRecDepth 100000 in
theorem ropd_var (w:World) (ad:Addr) (cap:Nat) (l:List TI) (i nest:Nat) (h:TL w ad cap l) (hi:i < l.length) (t:TI) (ht:l[i]?=some t) (f1:Pol.is (l.drop i) 4 [40]=false) (f2:Pol.is (l.drop i) 1 [116,114,117,101]=false) (f3:Pol.is (l.drop i) 1 [102,97,108,115,101]=false) (f4:Pol.is (l.drop i) 1 [99,108,97,105,109]=false) (hk:t.k=1) (hkp:Pol.kept t.s=false) :
  Calls Tryz.prog 106 #[.slice (some ad) l.length cap,.int .i64 i,.int .i64 nest] w (PaDone l w (.ok (.mk 4 t.s 0 [] t.p,l.drop (i+1)))):=by
 have HI1:Hid (∀ V,Fr [] w V → Calls Tryz.prog 22 #[.slice (some ad) l.length cap,.int .i64 i,.int .i64 4,.string ⟨#[40]⟩] V fun e w'=>e=.returned (.bool false) ∧ V=w'):=fun V hV=>ref_isB V ad cap l i i 4 ⟨#[40]⟩ [40] (by kernel_rfl) false (h.fr hV) hi rfl f1
 have HI2:Hid (∀ V,Fr [] w V → Calls Tryz.prog 22 #[.slice (some ad) l.length cap,.int .i64 i,.int .i64 1,.string ⟨#[116,114,117,101]⟩] V fun e w'=>e=.returned (.bool false) ∧ V=w'):=fun V hV=>ref_isB V ad cap l i i 1 ⟨#[116,114,117,101]⟩ [116,114,117,101] (by kernel_rfl) false (h.fr hV) hi rfl f2
 have HI3:Hid (∀ V,Fr [] w V → Calls Tryz.prog 22 #[.slice (some ad) l.length cap,.int .i64 i,.int .i64 1,.string ⟨#[102,97,108,115,101]⟩] V fun e w'=>e=.returned (.bool false) ∧ V=w'):=fun V hV=>ref_isB V ad cap l i i 1 ⟨#[102,97,108,115,101]⟩ [102,97,108,115,101] (by kernel_rfl) false (h.fr hV) hi rfl f3
 have HI4:Hid (∀ V,Fr [] w V → Calls Tryz.prog 22 #[.slice (some ad) l.length cap,.int .i64 i,.int .i64 1,.string ⟨#[99,108,97,105,109]⟩] V fun e w'=>e=.returned (.bool false) ∧ V=w'):=fun V hV=>ref_isB V ad cap l i i 1 ⟨#[99,108,97,105,109]⟩ [99,108,97,105,109] (by kernel_rfl) false (h.fr hV) hi rfl f4
 have hn:=next_lt h.ends ht (by rw [hk];decide)
 have HK:Hid (∀ V,Calls Tryz.prog 89 #[.string t.s] V fun e w'=>e=.returned (.bool false) ∧ Fr [] V w'):=fun V=>by have:=ref_Kept V t.s;rwa [hkp] at this
 obtain ⟨tk,ts,tn,tp⟩:=t
 obtain rfl:tk=1:=hk
 obtain ⟨c0,c1,c2,c3⟩:=h.cells ht
 simp only [] at c0 c1 c2 c3
 have hb:l.length ≤ 1000000:=h.few
 have hi1:(i:Int) < (l.length:Int):=by omega
 have hi0:(0:Int) ≤ (i:Int):=by omega
 have hbl:=World.block_lt_of_cell? w _ c0
 go_enter Tryz.func106,Tryz.ntmps106
 go_upto_region 4 with fail
 refine wp_fresh (fun W=>RO w ⟨1,ts,tn,tp⟩ w.heap.size z5 #[.int .i64 0,.string ⟨#[]⟩,.int .i64 0,.slice none 0 0,.int .i64 tp] W) ?_ ?_
 ·exact ⟨(alloc3 _ _ _ _).1,(alloc3 _ _ _ _).2.1,(alloc3 _ _ _ _).2.2,(((Fr.refl _ _).alloc _).alloc _).alloc _,rfl⟩
 intro W h1
 obtain ⟨b,hbb⟩:∃ b,w.heap.size=b:=⟨_,rfl⟩
 rw [hbb] at h1 ⊢
 have H:=Lib.hid h1
 have HB:=Lib.hid hbb
 have HTL:=Lib.hid h
 have HT0:=Lib.hid ht
 have kf:∀ i,W.frozen? ⟨(b+1),i,none⟩=false:=fun i=>Lib.frozen_of_heap h1.tok i
 have k0:W.cell? ⟨(b+1),0,none⟩=some (.int .i64 (1)):=by rw [Lib.cell_of_heap h1.tok];rfl
 have k1:W.cell? ⟨(b+1),1,none⟩=some (.string ts):=by rw [Lib.cell_of_heap h1.tok];rfl
 have k2:W.cell? ⟨(b+1),2,none⟩=some (.int .i64 tn):=by rw [Lib.cell_of_heap h1.tok];rfl
 have k3:W.cell? ⟨(b+1),3,none⟩=some (.int .i64 tp):=by rw [Lib.cell_of_heap h1.tok];rfl
 have ef:∀ i,W.frozen? ⟨(b+1+1),i,none⟩=false:=fun i=>Lib.frozen_of_heap h1.ex i
 have e0:W.cell? ⟨(b+1+1),0,none⟩=some (.int .i64 0):=by rw [Lib.cell_of_heap h1.ex];rfl
 have e1:W.cell? ⟨(b+1+1),1,none⟩=some (.string ⟨#[]⟩):=by rw [Lib.cell_of_heap h1.ex];rfl
 have e2:W.cell? ⟨(b+1+1),2,none⟩=some (.int .i64 0):=by rw [Lib.cell_of_heap h1.ex];rfl
 have e3:W.cell? ⟨(b+1+1),3,none⟩=some (.slice none 0 0):=by rw [Lib.cell_of_heap h1.ex];rfl
 have e4:W.cell? ⟨(b+1+1),4,none⟩=some (.int .i64 tp):=by rw [Lib.cell_of_heap h1.ex];rfl
 have zf:∀ i,W.frozen? ⟨b,i,none⟩=false:=fun i=>Lib.frozen_of_heap h1.res i
 have z0:W.cell? ⟨b,0,none⟩=some (.int .i64 0):=by rw [Lib.cell_of_heap h1.res];rfl
 have z1:W.cell? ⟨b,1,none⟩=some (.string ⟨#[]⟩):=by rw [Lib.cell_of_heap h1.res];rfl
 have z2:W.cell? ⟨b,2,none⟩=some (.int .i64 0):=by rw [Lib.cell_of_heap h1.res];rfl
 have z3:W.cell? ⟨b,3,none⟩=some (.slice none 0 0):=by rw [Lib.cell_of_heap h1.res];rfl
 have z4:W.cell? ⟨b,4,none⟩=some (.int .i64 0):=by rw [Lib.cell_of_heap h1.res];rfl
 clear h1 hbb h ht c0 c1 c2 c3 hbl
 go_wp2_with fail
 refine (HI1.out _ H.out.f).mono ?_
 rintro e w1 ⟨rfl,rfl⟩
 clear HI1
 go_wp2_with fail
 refine (HI2.out _ H.out.f).mono ?_
 rintro e w1 ⟨rfl,rfl⟩
 clear HI2
 go_wp2_with fail
 refine (HI3.out _ H.out.f).mono ?_
 rintro e w1 ⟨rfl,rfl⟩
 clear HI3
 go_wp2_with fail
 refine (HI4.out _ H.out.f).mono ?_
 rintro e w1 ⟨rfl,rfl⟩
 clear HI4
 go_wp2_with fail
 refine (HK.out _).mono ?_
 rintro e V ⟨rfl,hF⟩
 have H:=Lib.hid (H.out.fr hF)
 clear hF HK k0 k1 k2 k3 kf e0 e1 e2 e3 e4 ef z0 z1 z2 z3 z4 zf
 have kf:∀ i,V.frozen? ⟨(b+1),i,none⟩=false:=fun i=>Lib.frozen_of_heap H.out.tok i
 have k0:V.cell? ⟨(b+1),0,none⟩=some (.int .i64 1):=by rw [Lib.cell_of_heap H.out.tok];rfl
 have k1:V.cell? ⟨(b+1),1,none⟩=some (.string ts):=by rw [Lib.cell_of_heap H.out.tok];rfl
 have k2:V.cell? ⟨(b+1),2,none⟩=some (.int .i64 tn):=by rw [Lib.cell_of_heap H.out.tok];rfl
 have k3:V.cell? ⟨(b+1),3,none⟩=some (.int .i64 tp):=by rw [Lib.cell_of_heap H.out.tok];rfl
 have ef:∀ i,V.frozen? ⟨(b+1+1),i,none⟩=false:=fun i=>Lib.frozen_of_heap H.out.ex i
 have e0:V.cell? ⟨(b+1+1),0,none⟩=some (.int .i64 0):=by rw [Lib.cell_of_heap H.out.ex];rfl
 have e1:V.cell? ⟨(b+1+1),1,none⟩=some (.string ⟨#[]⟩):=by rw [Lib.cell_of_heap H.out.ex];rfl
 have e2:V.cell? ⟨(b+1+1),2,none⟩=some (.int .i64 0):=by rw [Lib.cell_of_heap H.out.ex];rfl
 have e3:V.cell? ⟨(b+1+1),3,none⟩=some (.slice none 0 0):=by rw [Lib.cell_of_heap H.out.ex];rfl
 have e4:V.cell? ⟨(b+1+1),4,none⟩=some (.int .i64 tp):=by rw [Lib.cell_of_heap H.out.ex];rfl
 have zf:∀ i,V.frozen? ⟨b,i,none⟩=false:=fun i=>Lib.frozen_of_heap H.out.res i
 have z0:V.cell? ⟨b,0,none⟩=some (.int .i64 0):=by rw [Lib.cell_of_heap H.out.res];rfl
 have z1:V.cell? ⟨b,1,none⟩=some (.string ⟨#[]⟩):=by rw [Lib.cell_of_heap H.out.res];rfl
 have z2:V.cell? ⟨b,2,none⟩=some (.int .i64 0):=by rw [Lib.cell_of_heap H.out.res];rfl
 have z3:V.cell? ⟨b,3,none⟩=some (.slice none 0 0):=by rw [Lib.cell_of_heap H.out.res];rfl
 have z4:V.cell? ⟨b,4,none⟩=some (.int .i64 0):=by rw [Lib.cell_of_heap H.out.res];rfl
 go_wp2_with fail
 have HT:=Lib.hid (((((((H.out.sete 0 (.int .i64 4)).sete 1 (.string ts)).setr 0 (.int .i64 4)).setr 1 (.string ts)).setr 2 (.int .i64 0)).setr 3 (.slice none 0 0)).setr 4 (.int .i64 tp))
 refine bodyPost_ret (results_cell_tmp2 rfl _ _ b _ _ (0,0) _ rfl HT.out.res Tryz.underlying42 rfl (by kernel_rfl)) rfl ?_
 exact ⟨[_,_,_,_,_],i+1,rfl,Rep.leaf _ _ _ _ _ _,hn,rfl,HT.out.f⟩
set_option maxHeartbeats 1000000 in
set_option maxRecDepth 100000 in
theorem ropd_kept (w:World) (ad:Addr) (cap:Nat) (l:List TI) (i nest:Nat) (h:TL w ad cap l) (hi:i < l.length) (t:TI) (ht:l[i]?=some t) (f1:Pol.is (l.drop i) 4 [40]=false) (f2:Pol.is (l.drop i) 1 [116,114,117,101]=false) (f3:Pol.is (l.drop i) 1 [102,97,108,115,101]=false) (f4:Pol.is (l.drop i) 1 [99,108,97,105,109]=false) (hk:t.k=1) (hkp:Pol.kept t.s=true) :
  Calls Tryz.prog 106 #[.slice (some ad) l.length cap,.int .i64 i,.int .i64 nest] w (PaDone l w (.error (t.p,120))):=by
 have HI1:Hid (∀ V,Fr [] w V → Calls Tryz.prog 22 #[.slice (some ad) l.length cap,.int .i64 i,.int .i64 4,.string ⟨#[40]⟩] V fun e w'=>e=.returned (.bool false) ∧ V=w'):=fun V hV=>ref_isB V ad cap l i i 4 ⟨#[40]⟩ [40] (by kernel_rfl) false (h.fr hV) hi rfl f1
 have HI2:Hid (∀ V,Fr [] w V → Calls Tryz.prog 22 #[.slice (some ad) l.length cap,.int .i64 i,.int .i64 1,.string ⟨#[116,114,117,101]⟩] V fun e w'=>e=.returned (.bool false) ∧ V=w'):=fun V hV=>ref_isB V ad cap l i i 1 ⟨#[116,114,117,101]⟩ [116,114,117,101] (by kernel_rfl) false (h.fr hV) hi rfl f2
 have HI3:Hid (∀ V,Fr [] w V → Calls Tryz.prog 22 #[.slice (some ad) l.length cap,.int .i64 i,.int .i64 1,.string ⟨#[102,97,108,115,101]⟩] V fun e w'=>e=.returned (.bool false) ∧ V=w'):=fun V hV=>ref_isB V ad cap l i i 1 ⟨#[102,97,108,115,101]⟩ [102,97,108,115,101] (by kernel_rfl) false (h.fr hV) hi rfl f3
 have HI4:Hid (∀ V,Fr [] w V → Calls Tryz.prog 22 #[.slice (some ad) l.length cap,.int .i64 i,.int .i64 1,.string ⟨#[99,108,97,105,109]⟩] V fun e w'=>e=.returned (.bool false) ∧ V=w'):=fun V hV=>ref_isB V ad cap l i i 1 ⟨#[99,108,97,105,109]⟩ [99,108,97,105,109] (by kernel_rfl) false (h.fr hV) hi rfl f4
 have HK:Hid (∀ V,Calls Tryz.prog 89 #[.string t.s] V fun e w'=>e=.returned (.bool true) ∧ Fr [] V w'):=fun V=>by have:=ref_Kept V t.s;rwa [hkp] at this
 obtain ⟨tk,ts,tn,tp⟩:=t
 obtain rfl:tk=1:=hk
 obtain ⟨c0,c1,c2,c3⟩:=h.cells ht
 simp only [] at c0 c1 c2 c3
 have hb:l.length ≤ 1000000:=h.few
 have hi1:(i:Int) < (l.length:Int):=by omega
 have hi0:(0:Int) ≤ (i:Int):=by omega
 have hbl:=World.block_lt_of_cell? w _ c0
 go_enter Tryz.func106,Tryz.ntmps106
 go_upto_region 4 with fail
 refine wp_fresh (fun W=>RO w ⟨1,ts,tn,tp⟩ w.heap.size z5 #[.int .i64 0,.string ⟨#[]⟩,.int .i64 0,.slice none 0 0,.int .i64 tp] W) ?_ ?_
 ·exact ⟨(alloc3 _ _ _ _).1,(alloc3 _ _ _ _).2.1,(alloc3 _ _ _ _).2.2,(((Fr.refl _ _).alloc _).alloc _).alloc _,rfl⟩
 intro W h1
 obtain ⟨b,hbb⟩:∃ b,w.heap.size=b:=⟨_,rfl⟩
 rw [hbb] at h1 ⊢
 have H:=Lib.hid h1
 have HB:=Lib.hid hbb
 have HTL:=Lib.hid h
 have HT0:=Lib.hid ht
 have kf:∀ i,W.frozen? ⟨(b+1),i,none⟩=false:=fun i=>Lib.frozen_of_heap h1.tok i
 have k0:W.cell? ⟨(b+1),0,none⟩=some (.int .i64 (1)):=by rw [Lib.cell_of_heap h1.tok];rfl
 have k1:W.cell? ⟨(b+1),1,none⟩=some (.string ts):=by rw [Lib.cell_of_heap h1.tok];rfl
 have k2:W.cell? ⟨(b+1),2,none⟩=some (.int .i64 tn):=by rw [Lib.cell_of_heap h1.tok];rfl
 have k3:W.cell? ⟨(b+1),3,none⟩=some (.int .i64 tp):=by rw [Lib.cell_of_heap h1.tok];rfl
 have ef:∀ i,W.frozen? ⟨(b+1+1),i,none⟩=false:=fun i=>Lib.frozen_of_heap h1.ex i
 have e0:W.cell? ⟨(b+1+1),0,none⟩=some (.int .i64 0):=by rw [Lib.cell_of_heap h1.ex];rfl
 have e1:W.cell? ⟨(b+1+1),1,none⟩=some (.string ⟨#[]⟩):=by rw [Lib.cell_of_heap h1.ex];rfl
 have e2:W.cell? ⟨(b+1+1),2,none⟩=some (.int .i64 0):=by rw [Lib.cell_of_heap h1.ex];rfl
 have e3:W.cell? ⟨(b+1+1),3,none⟩=some (.slice none 0 0):=by rw [Lib.cell_of_heap h1.ex];rfl
 have e4:W.cell? ⟨(b+1+1),4,none⟩=some (.int .i64 tp):=by rw [Lib.cell_of_heap h1.ex];rfl
 have zf:∀ i,W.frozen? ⟨b,i,none⟩=false:=fun i=>Lib.frozen_of_heap h1.res i
 have z0:W.cell? ⟨b,0,none⟩=some (.int .i64 0):=by rw [Lib.cell_of_heap h1.res];rfl
 have z1:W.cell? ⟨b,1,none⟩=some (.string ⟨#[]⟩):=by rw [Lib.cell_of_heap h1.res];rfl
 have z2:W.cell? ⟨b,2,none⟩=some (.int .i64 0):=by rw [Lib.cell_of_heap h1.res];rfl
 have z3:W.cell? ⟨b,3,none⟩=some (.slice none 0 0):=by rw [Lib.cell_of_heap h1.res];rfl
 have z4:W.cell? ⟨b,4,none⟩=some (.int .i64 0):=by rw [Lib.cell_of_heap h1.res];rfl
 clear h1 hbb h ht c0 c1 c2 c3 hbl
 go_wp2_with fail
 refine (HI1.out _ H.out.f).mono ?_
 rintro e w1 ⟨rfl,rfl⟩
 clear HI1
 go_wp2_with fail
 refine (HI2.out _ H.out.f).mono ?_
 rintro e w1 ⟨rfl,rfl⟩
 clear HI2
 go_wp2_with fail
 refine (HI3.out _ H.out.f).mono ?_
 rintro e w1 ⟨rfl,rfl⟩
 clear HI3
 go_wp2_with fail
 refine (HI4.out _ H.out.f).mono ?_
 rintro e w1 ⟨rfl,rfl⟩
 clear HI4
 go_wp2_with fail
 refine (HK.out _).mono ?_
 rintro e V ⟨rfl,hF⟩
 have H:=Lib.hid (H.out.fr hF)
 clear hF HK k0 k1 k2 k3 kf e0 e1 e2 e3 e4 ef z0 z1 z2 z3 z4 zf
 have ef:∀ i,V.frozen? ⟨(b+1+1),i,none⟩=false:=fun i=>Lib.frozen_of_heap H.out.ex i
 have e0:V.cell? ⟨(b+1+1),0,none⟩=some (.int .i64 0):=by rw [Lib.cell_of_heap H.out.ex];rfl
 have e1:V.cell? ⟨(b+1+1),1,none⟩=some (.string ⟨#[]⟩):=by rw [Lib.cell_of_heap H.out.ex];rfl
 have e2:V.cell? ⟨(b+1+1),2,none⟩=some (.int .i64 0):=by rw [Lib.cell_of_heap H.out.ex];rfl
 have e3:V.cell? ⟨(b+1+1),3,none⟩=some (.slice none 0 0):=by rw [Lib.cell_of_heap H.out.ex];rfl
 have e4:V.cell? ⟨(b+1+1),4,none⟩=some (.int .i64 tp):=by rw [Lib.cell_of_heap H.out.ex];rfl
 have zf:∀ i,V.frozen? ⟨b,i,none⟩=false:=fun i=>Lib.frozen_of_heap H.out.res i
 have z0:V.cell? ⟨b,0,none⟩=some (.int .i64 0):=by rw [Lib.cell_of_heap H.out.res];rfl
 have z1:V.cell? ⟨b,1,none⟩=some (.string ⟨#[]⟩):=by rw [Lib.cell_of_heap H.out.res];rfl
 have z2:V.cell? ⟨b,2,none⟩=some (.int .i64 0):=by rw [Lib.cell_of_heap H.out.res];rfl
 have z3:V.cell? ⟨b,3,none⟩=some (.slice none 0 0):=by rw [Lib.cell_of_heap H.out.res];rfl
 have z4:V.cell? ⟨b,4,none⟩=some (.int .i64 0):=by rw [Lib.cell_of_heap H.out.res];rfl
 go_wp2_with fail
 have HT:=Lib.hid ((((((H.out).setr 0 (.int .i64 0)).setr 1 (.string ⟨#[]⟩)).setr 2 (.int .i64 0)).setr 3 (.slice none 0 0)).setr 4 (.int .i64 tp))
 refine bodyPost_ret (results_cell_tmp2 rfl _ _ b _ _ (0,0) _ rfl HT.out.res Tryz.underlying42 rfl (by kernel_rfl)) rfl ?_
 exact ⟨[_,_,_,_,_],i,_,rfl,⟨_,_,_,_,_,_,_,rfl⟩,HT0.out,rfl,by decide,HT.out.f⟩
set_option maxHeartbeats 1000000 in
set_option maxRecDepth 100000 in
theorem ropd_else (w:World) (ad:Addr) (cap:Nat) (l:List TI) (i nest:Nat) (h:TL w ad cap l) (hi:i < l.length) (t:TI) (ht:l[i]?=some t) (f1:Pol.is (l.drop i) 4 [40]=false) (f2:Pol.is (l.drop i) 1 [116,114,117,101]=false) (f3:Pol.is (l.drop i) 1 [102,97,108,115,101]=false) (f4:Pol.is (l.drop i) 1 [99,108,97,105,109]=false) (hk1:(t.k == 1)=false) (hk2:(t.k == 2)=false) (hk3:(t.k == 3)=false) :
  Calls Tryz.prog 106 #[.slice (some ad) l.length cap,.int .i64 i,.int .i64 nest] w (PaDone l w (.error (t.p,120))):=by
 have HI1:Hid (∀ V,Fr [] w V → Calls Tryz.prog 22 #[.slice (some ad) l.length cap,.int .i64 i,.int .i64 4,.string ⟨#[40]⟩] V fun e w'=>e=.returned (.bool false) ∧ V=w'):=fun V hV=>ref_isB V ad cap l i i 4 ⟨#[40]⟩ [40] (by kernel_rfl) false (h.fr hV) hi rfl f1
 have HI2:Hid (∀ V,Fr [] w V → Calls Tryz.prog 22 #[.slice (some ad) l.length cap,.int .i64 i,.int .i64 1,.string ⟨#[116,114,117,101]⟩] V fun e w'=>e=.returned (.bool false) ∧ V=w'):=fun V hV=>ref_isB V ad cap l i i 1 ⟨#[116,114,117,101]⟩ [116,114,117,101] (by kernel_rfl) false (h.fr hV) hi rfl f2
 have HI3:Hid (∀ V,Fr [] w V → Calls Tryz.prog 22 #[.slice (some ad) l.length cap,.int .i64 i,.int .i64 1,.string ⟨#[102,97,108,115,101]⟩] V fun e w'=>e=.returned (.bool false) ∧ V=w'):=fun V hV=>ref_isB V ad cap l i i 1 ⟨#[102,97,108,115,101]⟩ [102,97,108,115,101] (by kernel_rfl) false (h.fr hV) hi rfl f3
 have HI4:Hid (∀ V,Fr [] w V → Calls Tryz.prog 22 #[.slice (some ad) l.length cap,.int .i64 i,.int .i64 1,.string ⟨#[99,108,97,105,109]⟩] V fun e w'=>e=.returned (.bool false) ∧ V=w'):=fun V hV=>ref_isB V ad cap l i i 1 ⟨#[99,108,97,105,109]⟩ [99,108,97,105,109] (by kernel_rfl) false (h.fr hV) hi rfl f4
 obtain ⟨tk,ts,tn,tp⟩:=t
 simp only [] at hk1 hk2 hk3
 obtain ⟨c0,c1,c2,c3⟩:=h.cells ht
 simp only [] at c0 c1 c2 c3
 have hb:l.length ≤ 1000000:=h.few
 have hi1:(i:Int) < (l.length:Int):=by omega
 have hi0:(0:Int) ≤ (i:Int):=by omega
 have hbl:=World.block_lt_of_cell? w _ c0
 go_enter Tryz.func106,Tryz.ntmps106
 go_upto_region 4 with fail
 refine wp_fresh (fun W=>RO w ⟨tk,ts,tn,tp⟩ w.heap.size z5 #[.int .i64 0,.string ⟨#[]⟩,.int .i64 0,.slice none 0 0,.int .i64 tp] W) ?_ ?_
 ·exact ⟨(alloc3 _ _ _ _).1,(alloc3 _ _ _ _).2.1,(alloc3 _ _ _ _).2.2,(((Fr.refl _ _).alloc _).alloc _).alloc _,rfl⟩
 intro W h1
 obtain ⟨b,hbb⟩:∃ b,w.heap.size=b:=⟨_,rfl⟩
 rw [hbb] at h1 ⊢
 have H:=Lib.hid h1
 have HB:=Lib.hid hbb
 have HTL:=Lib.hid h
 have HT0:=Lib.hid ht
 have kf:∀ i,W.frozen? ⟨(b+1),i,none⟩=false:=fun i=>Lib.frozen_of_heap h1.tok i
 have k0:W.cell? ⟨(b+1),0,none⟩=some (.int .i64 (tk)):=by rw [Lib.cell_of_heap h1.tok];rfl
 have k1:W.cell? ⟨(b+1),1,none⟩=some (.string ts):=by rw [Lib.cell_of_heap h1.tok];rfl
 have k2:W.cell? ⟨(b+1),2,none⟩=some (.int .i64 tn):=by rw [Lib.cell_of_heap h1.tok];rfl
 have k3:W.cell? ⟨(b+1),3,none⟩=some (.int .i64 tp):=by rw [Lib.cell_of_heap h1.tok];rfl
 have ef:∀ i,W.frozen? ⟨(b+1+1),i,none⟩=false:=fun i=>Lib.frozen_of_heap h1.ex i
 have e0:W.cell? ⟨(b+1+1),0,none⟩=some (.int .i64 0):=by rw [Lib.cell_of_heap h1.ex];rfl
 have e1:W.cell? ⟨(b+1+1),1,none⟩=some (.string ⟨#[]⟩):=by rw [Lib.cell_of_heap h1.ex];rfl
 have e2:W.cell? ⟨(b+1+1),2,none⟩=some (.int .i64 0):=by rw [Lib.cell_of_heap h1.ex];rfl
 have e3:W.cell? ⟨(b+1+1),3,none⟩=some (.slice none 0 0):=by rw [Lib.cell_of_heap h1.ex];rfl
 have e4:W.cell? ⟨(b+1+1),4,none⟩=some (.int .i64 tp):=by rw [Lib.cell_of_heap h1.ex];rfl
 have zf:∀ i,W.frozen? ⟨b,i,none⟩=false:=fun i=>Lib.frozen_of_heap h1.res i
 have z0:W.cell? ⟨b,0,none⟩=some (.int .i64 0):=by rw [Lib.cell_of_heap h1.res];rfl
 have z1:W.cell? ⟨b,1,none⟩=some (.string ⟨#[]⟩):=by rw [Lib.cell_of_heap h1.res];rfl
 have z2:W.cell? ⟨b,2,none⟩=some (.int .i64 0):=by rw [Lib.cell_of_heap h1.res];rfl
 have z3:W.cell? ⟨b,3,none⟩=some (.slice none 0 0):=by rw [Lib.cell_of_heap h1.res];rfl
 have z4:W.cell? ⟨b,4,none⟩=some (.int .i64 0):=by rw [Lib.cell_of_heap h1.res];rfl
 clear h1 hbb h ht c0 c1 c2 c3 hbl
 go_wp2_with fail
 refine (HI1.out _ H.out.f).mono ?_
 rintro e w1 ⟨rfl,rfl⟩
 clear HI1
 go_wp2_with fail
 refine (HI2.out _ H.out.f).mono ?_
 rintro e w1 ⟨rfl,rfl⟩
 clear HI2
 go_wp2_with fail
 refine (HI3.out _ H.out.f).mono ?_
 rintro e w1 ⟨rfl,rfl⟩
 clear HI3
 go_wp2_with fail
 refine (HI4.out _ H.out.f).mono ?_
 rintro e w1 ⟨rfl,rfl⟩
 clear HI4
 go_wp2_with fail
 have HT:=Lib.hid ((((((H.out).setr 0 (.int .i64 0)).setr 1 (.string ⟨#[]⟩)).setr 2 (.int .i64 0)).setr 3 (.slice none 0 0)).setr 4 (.int .i64 tp))
 refine bodyPost_ret (results_cell_tmp2 rfl _ _ b _ _ (0,0) _ rfl HT.out.res Tryz.underlying42 rfl (by kernel_rfl)) rfl ?_
 exact ⟨[_,_,_,_,_],i,_,rfl,⟨_,_,_,_,_,_,_,rfl⟩,HT0.out,rfl,by decide,HT.out.f⟩
end Go.Proofs.YtgklmpooonnmiaaGreatDoor

namespace Go.Proofs.YtgklmpooonnmiaaGreatDoor
open Go.RowKit
set_option maxHeartbeats 1000000 in
set_option maxRecDepth 100000 in
theorem ropd_claim1 (w:World) (ad:Addr) (cap:Nat) (l:List TI) (i nest:Nat) (h:TL w ad cap l) (hi:i < l.length) (t:TI) (ht:l[i]?=some t) (f1:Pol.is (l.drop i) 4 [40]=false) (f2:Pol.is (l.drop i) 1 [116,114,117,101]=false) (f3:Pol.is (l.drop i) 1 [102,97,108,115,101]=false) (f4:Pol.is (l.drop i) 1 [99,108,97,105,109]=true) (hk:t.k=1) (u:TI) (hu:l[i+1]?=some u) (f5:Pol.is (l.drop (i+1)) 4 [40]=false) :
  Calls Tryz.prog 106 #[.slice (some ad) l.length cap,.int .i64 i,.int .i64 nest] w (PaDone l w (.error (u.p,120))):=by
 have HI1:Hid (∀ V,Fr [] w V → Calls Tryz.prog 22 #[.slice (some ad) l.length cap,.int .i64 i,.int .i64 4,.string ⟨#[40]⟩] V fun e w'=>e=.returned (.bool false) ∧ V=w'):=fun V hV=>ref_isB V ad cap l i i 4 ⟨#[40]⟩ [40] (by kernel_rfl) false (h.fr hV) hi rfl f1
 have HI2:Hid (∀ V,Fr [] w V → Calls Tryz.prog 22 #[.slice (some ad) l.length cap,.int .i64 i,.int .i64 1,.string ⟨#[116,114,117,101]⟩] V fun e w'=>e=.returned (.bool false) ∧ V=w'):=fun V hV=>ref_isB V ad cap l i i 1 ⟨#[116,114,117,101]⟩ [116,114,117,101] (by kernel_rfl) false (h.fr hV) hi rfl f2
 have HI3:Hid (∀ V,Fr [] w V → Calls Tryz.prog 22 #[.slice (some ad) l.length cap,.int .i64 i,.int .i64 1,.string ⟨#[102,97,108,115,101]⟩] V fun e w'=>e=.returned (.bool false) ∧ V=w'):=fun V hV=>ref_isB V ad cap l i i 1 ⟨#[102,97,108,115,101]⟩ [102,97,108,115,101] (by kernel_rfl) false (h.fr hV) hi rfl f3
 have HI4:Hid (∀ V,Fr [] w V → Calls Tryz.prog 22 #[.slice (some ad) l.length cap,.int .i64 i,.int .i64 1,.string ⟨#[99,108,97,105,109]⟩] V fun e w'=>e=.returned (.bool true) ∧ V=w'):=fun V hV=>ref_isB V ad cap l i i 1 ⟨#[99,108,97,105,109]⟩ [99,108,97,105,109] (by kernel_rfl) true (h.fr hV) hi rfl f4
 have hn:=next_lt h.ends ht (by rw [hk];decide)
 have HI5:Hid (∀ V,Fr [] w V → Calls Tryz.prog 22 #[.slice (some ad) l.length cap,.int .i64 ((i:Int)+1),.int .i64 4,.string ⟨#[40]⟩] V fun e w'=>e=.returned (.bool false) ∧ V=w'):=fun V hV=>ref_isB V ad cap l (i+1) _ 4 ⟨#[40]⟩ [40] (by kernel_rfl) false (h.fr hV) (by omega) (by omega) f5
 obtain ⟨tk,ts,tn,tp⟩:=t
 obtain rfl:tk=1:=hk
 obtain ⟨c0,c1,c2,c3⟩:=h.cells ht
 simp only [] at c0 c1 c2 c3
 have hb:l.length ≤ 1000000:=h.few
 have hi1:(i:Int) < (l.length:Int):=by omega
 have hi0:(0:Int) ≤ (i:Int):=by omega
 have hbl:=World.block_lt_of_cell? w _ c0
 go_enter Tryz.func106,Tryz.ntmps106
 go_upto_region 4 with fail
 refine wp_fresh (fun W=>RO w ⟨1,ts,tn,tp⟩ w.heap.size z5 #[.int .i64 0,.string ⟨#[]⟩,.int .i64 0,.slice none 0 0,.int .i64 tp] W) ?_ ?_
 ·exact ⟨(alloc3 _ _ _ _).1,(alloc3 _ _ _ _).2.1,(alloc3 _ _ _ _).2.2,(((Fr.refl _ _).alloc _).alloc _).alloc _,rfl⟩
 intro W h1
 obtain ⟨b,hbb⟩:∃ b,w.heap.size=b:=⟨_,rfl⟩
 rw [hbb] at h1 ⊢
 have H:=Lib.hid h1
 have HB:=Lib.hid hbb
 have HTL:=Lib.hid h
 have HT0:=Lib.hid ht
 have kf:∀ i,W.frozen? ⟨(b+1),i,none⟩=false:=fun i=>Lib.frozen_of_heap h1.tok i
 have k0:W.cell? ⟨(b+1),0,none⟩=some (.int .i64 (1)):=by rw [Lib.cell_of_heap h1.tok];rfl
 have k1:W.cell? ⟨(b+1),1,none⟩=some (.string ts):=by rw [Lib.cell_of_heap h1.tok];rfl
 have k2:W.cell? ⟨(b+1),2,none⟩=some (.int .i64 tn):=by rw [Lib.cell_of_heap h1.tok];rfl
 have k3:W.cell? ⟨(b+1),3,none⟩=some (.int .i64 tp):=by rw [Lib.cell_of_heap h1.tok];rfl
 have ef:∀ i,W.frozen? ⟨(b+1+1),i,none⟩=false:=fun i=>Lib.frozen_of_heap h1.ex i
 have e0:W.cell? ⟨(b+1+1),0,none⟩=some (.int .i64 0):=by rw [Lib.cell_of_heap h1.ex];rfl
 have e1:W.cell? ⟨(b+1+1),1,none⟩=some (.string ⟨#[]⟩):=by rw [Lib.cell_of_heap h1.ex];rfl
 have e2:W.cell? ⟨(b+1+1),2,none⟩=some (.int .i64 0):=by rw [Lib.cell_of_heap h1.ex];rfl
 have e3:W.cell? ⟨(b+1+1),3,none⟩=some (.slice none 0 0):=by rw [Lib.cell_of_heap h1.ex];rfl
 have e4:W.cell? ⟨(b+1+1),4,none⟩=some (.int .i64 tp):=by rw [Lib.cell_of_heap h1.ex];rfl
 have zf:∀ i,W.frozen? ⟨b,i,none⟩=false:=fun i=>Lib.frozen_of_heap h1.res i
 have z0:W.cell? ⟨b,0,none⟩=some (.int .i64 0):=by rw [Lib.cell_of_heap h1.res];rfl
 have z1:W.cell? ⟨b,1,none⟩=some (.string ⟨#[]⟩):=by rw [Lib.cell_of_heap h1.res];rfl
 have z2:W.cell? ⟨b,2,none⟩=some (.int .i64 0):=by rw [Lib.cell_of_heap h1.res];rfl
 have z3:W.cell? ⟨b,3,none⟩=some (.slice none 0 0):=by rw [Lib.cell_of_heap h1.res];rfl
 have z4:W.cell? ⟨b,4,none⟩=some (.int .i64 0):=by rw [Lib.cell_of_heap h1.res];rfl
 clear h1 hbb h ht c0 c1 c2 c3 hbl
 go_wp2_with fail
 refine (HI1.out _ H.out.f).mono ?_
 rintro e w1 ⟨rfl,rfl⟩
 clear HI1
 go_wp2_with fail
 refine (HI2.out _ H.out.f).mono ?_
 rintro e w1 ⟨rfl,rfl⟩
 clear HI2
 go_wp2_with fail
 refine (HI3.out _ H.out.f).mono ?_
 rintro e w1 ⟨rfl,rfl⟩
 clear HI3
 go_wp2_with fail
 refine (HI4.out _ H.out.f).mono ?_
 rintro e w1 ⟨rfl,rfl⟩
 clear HI4
 go_wp2_with fail
 refine (HI5.out _ H.out.f).mono ?_
 rintro e w1 ⟨rfl,rfl⟩
 clear HI5
 go_wp2_with fail
 have HT:=Lib.hid ((((((H.out).setr 0 (.int .i64 0)).setr 1 (.string ⟨#[]⟩)).setr 2 (.int .i64 0)).setr 3 (.slice none 0 0)).setr 4 (.int .i64 tp))
 refine bodyPost_ret (results_cell_tmp2 rfl _ _ b _ _ (0,0) _ rfl HT.out.res Tryz.underlying42 rfl (by kernel_rfl)) rfl ?_
 exact ⟨[_,_,_,_,_],i+1,u,rfl,⟨_,_,_,_,_,_,_,rfl⟩,hu,rfl,by decide,HT.out.f⟩
set_option maxHeartbeats 1000000 in
set_option maxRecDepth 100000 in
theorem ropd_claim2 (w:World) (ad:Addr) (cap:Nat) (l:List TI) (i nest:Nat) (h:TL w ad cap l) (hi:i < l.length) (t:TI) (ht:l[i]?=some t) (f1:Pol.is (l.drop i) 4 [40]=false) (f2:Pol.is (l.drop i) 1 [116,114,117,101]=false) (f3:Pol.is (l.drop i) 1 [102,97,108,115,101]=false) (f4:Pol.is (l.drop i) 1 [99,108,97,105,109]=true) (hk:t.k=1) (f5:Pol.is (l.drop (i+1)) 4 [40]=true) (v:TI) (hv:l[i+2]?=some v) (hvk:(v.k == 2)=false) :
  Calls Tryz.prog 106 #[.slice (some ad) l.length cap,.int .i64 i,.int .i64 nest] w (PaDone l w (.error (v.p,120))):=by
 have HI1:Hid (∀ V,Fr [] w V → Calls Tryz.prog 22 #[.slice (some ad) l.length cap,.int .i64 i,.int .i64 4,.string ⟨#[40]⟩] V fun e w'=>e=.returned (.bool false) ∧ V=w'):=fun V hV=>ref_isB V ad cap l i i 4 ⟨#[40]⟩ [40] (by kernel_rfl) false (h.fr hV) hi rfl f1
 have HI2:Hid (∀ V,Fr [] w V → Calls Tryz.prog 22 #[.slice (some ad) l.length cap,.int .i64 i,.int .i64 1,.string ⟨#[116,114,117,101]⟩] V fun e w'=>e=.returned (.bool false) ∧ V=w'):=fun V hV=>ref_isB V ad cap l i i 1 ⟨#[116,114,117,101]⟩ [116,114,117,101] (by kernel_rfl) false (h.fr hV) hi rfl f2
 have HI3:Hid (∀ V,Fr [] w V → Calls Tryz.prog 22 #[.slice (some ad) l.length cap,.int .i64 i,.int .i64 1,.string ⟨#[102,97,108,115,101]⟩] V fun e w'=>e=.returned (.bool false) ∧ V=w'):=fun V hV=>ref_isB V ad cap l i i 1 ⟨#[102,97,108,115,101]⟩ [102,97,108,115,101] (by kernel_rfl) false (h.fr hV) hi rfl f3
 have HI4:Hid (∀ V,Fr [] w V → Calls Tryz.prog 22 #[.slice (some ad) l.length cap,.int .i64 i,.int .i64 1,.string ⟨#[99,108,97,105,109]⟩] V fun e w'=>e=.returned (.bool true) ∧ V=w'):=fun V hV=>ref_isB V ad cap l i i 1 ⟨#[99,108,97,105,109]⟩ [99,108,97,105,109] (by kernel_rfl) true (h.fr hV) hi rfl f4
 have hn:i+2 < l.length:=(List.getElem?_eq_some_iff.1 hv).1
 have hv3:(v.k != 2)=true:=by rw [bne,hvk];rfl
 have HI5:Hid (∀ V,Fr [] w V → Calls Tryz.prog 22 #[.slice (some ad) l.length cap,.int .i64 ((i:Int)+1),.int .i64 4,.string ⟨#[40]⟩] V fun e w'=>e=.returned (.bool true) ∧ V=w'):=fun V hV=>ref_isB V ad cap l (i+1) _ 4 ⟨#[40]⟩ [40] (by kernel_rfl) true (h.fr hV) (by omega) (by omega) f5
 obtain ⟨tk,ts,tn,tp⟩:=t
 obtain rfl:tk=1:=hk
 obtain ⟨c0,c1,c2,c3⟩:=h.cells ht
 simp only [] at c0 c1 c2 c3
 have hb:l.length ≤ 1000000:=h.few
 have hi1:(i:Int) < (l.length:Int):=by omega
 have hi0:(0:Int) ≤ (i:Int):=by omega
 have hbl:=World.block_lt_of_cell? w _ c0
 go_enter Tryz.func106,Tryz.ntmps106
 go_upto_region 4 with fail
 refine wp_fresh (fun W=>RO w ⟨1,ts,tn,tp⟩ w.heap.size z5 #[.int .i64 0,.string ⟨#[]⟩,.int .i64 0,.slice none 0 0,.int .i64 tp] W) ?_ ?_
 ·exact ⟨(alloc3 _ _ _ _).1,(alloc3 _ _ _ _).2.1,(alloc3 _ _ _ _).2.2,(((Fr.refl _ _).alloc _).alloc _).alloc _,rfl⟩
 intro W h1
 obtain ⟨b,hbb⟩:∃ b,w.heap.size=b:=⟨_,rfl⟩
 rw [hbb] at h1 ⊢
 have H:=Lib.hid h1
 have HB:=Lib.hid hbb
 have HTL:=Lib.hid h
 have HT0:=Lib.hid ht
 have kf:∀ i,W.frozen? ⟨(b+1),i,none⟩=false:=fun i=>Lib.frozen_of_heap h1.tok i
 have k0:W.cell? ⟨(b+1),0,none⟩=some (.int .i64 (1)):=by rw [Lib.cell_of_heap h1.tok];rfl
 have k1:W.cell? ⟨(b+1),1,none⟩=some (.string ts):=by rw [Lib.cell_of_heap h1.tok];rfl
 have k2:W.cell? ⟨(b+1),2,none⟩=some (.int .i64 tn):=by rw [Lib.cell_of_heap h1.tok];rfl
 have k3:W.cell? ⟨(b+1),3,none⟩=some (.int .i64 tp):=by rw [Lib.cell_of_heap h1.tok];rfl
 have ef:∀ i,W.frozen? ⟨(b+1+1),i,none⟩=false:=fun i=>Lib.frozen_of_heap h1.ex i
 have e0:W.cell? ⟨(b+1+1),0,none⟩=some (.int .i64 0):=by rw [Lib.cell_of_heap h1.ex];rfl
 have e1:W.cell? ⟨(b+1+1),1,none⟩=some (.string ⟨#[]⟩):=by rw [Lib.cell_of_heap h1.ex];rfl
 have e2:W.cell? ⟨(b+1+1),2,none⟩=some (.int .i64 0):=by rw [Lib.cell_of_heap h1.ex];rfl
 have e3:W.cell? ⟨(b+1+1),3,none⟩=some (.slice none 0 0):=by rw [Lib.cell_of_heap h1.ex];rfl
 have e4:W.cell? ⟨(b+1+1),4,none⟩=some (.int .i64 tp):=by rw [Lib.cell_of_heap h1.ex];rfl
 have zf:∀ i,W.frozen? ⟨b,i,none⟩=false:=fun i=>Lib.frozen_of_heap h1.res i
 have z0:W.cell? ⟨b,0,none⟩=some (.int .i64 0):=by rw [Lib.cell_of_heap h1.res];rfl
 have z1:W.cell? ⟨b,1,none⟩=some (.string ⟨#[]⟩):=by rw [Lib.cell_of_heap h1.res];rfl
 have z2:W.cell? ⟨b,2,none⟩=some (.int .i64 0):=by rw [Lib.cell_of_heap h1.res];rfl
 have z3:W.cell? ⟨b,3,none⟩=some (.slice none 0 0):=by rw [Lib.cell_of_heap h1.res];rfl
 have z4:W.cell? ⟨b,4,none⟩=some (.int .i64 0):=by rw [Lib.cell_of_heap h1.res];rfl
 clear h1 hbb h ht c0 c1 c2 c3 hbl
 obtain ⟨g0,g1,g2,g3⟩:=(HTL.out.fr H.out.f).cells hv
 have j0:(0:Int) ≤ (i:Int)+2:=by omega
 have j1:(i:Int)+2 < (l.length:Int):=by omega
 have j2:((i:Int)+2).toNat=i+2:=by omega
 go_wp2_with fail
 refine (HI1.out _ H.out.f).mono ?_
 rintro e w1 ⟨rfl,rfl⟩
 clear HI1
 go_wp2_with fail
 refine (HI2.out _ H.out.f).mono ?_
 rintro e w1 ⟨rfl,rfl⟩
 clear HI2
 go_wp2_with fail
 refine (HI3.out _ H.out.f).mono ?_
 rintro e w1 ⟨rfl,rfl⟩
 clear HI3
 go_wp2_with fail
 refine (HI4.out _ H.out.f).mono ?_
 rintro e w1 ⟨rfl,rfl⟩
 clear HI4
 go_wp2_with fail
 refine (HI5.out _ H.out.f).mono ?_
 rintro e w1 ⟨rfl,rfl⟩
 clear HI5
 go_wp2_with fail
 have HT:=Lib.hid ((((((H.out).setr 0 (.int .i64 0)).setr 1 (.string ⟨#[]⟩)).setr 2 (.int .i64 0)).setr 3 (.slice none 0 0)).setr 4 (.int .i64 tp))
 refine bodyPost_ret (results_cell_tmp2 rfl _ _ b _ _ (0,0) _ rfl HT.out.res Tryz.underlying42 rfl (by kernel_rfl)) rfl ?_
 exact ⟨[_,_,_,_,_],i+2,v,rfl,⟨_,_,_,_,_,_,_,rfl⟩,hv,rfl,by decide,HT.out.f⟩
set_option maxHeartbeats 1000000 in
set_option maxRecDepth 100000 in
theorem ropd_claim3 (w:World) (ad:Addr) (cap:Nat) (l:List TI) (i nest:Nat) (h:TL w ad cap l) (hi:i < l.length) (t:TI) (ht:l[i]?=some t) (f1:Pol.is (l.drop i) 4 [40]=false) (f2:Pol.is (l.drop i) 1 [116,114,117,101]=false) (f3:Pol.is (l.drop i) 1 [102,97,108,115,101]=false) (f4:Pol.is (l.drop i) 1 [99,108,97,105,109]=true) (hk:t.k=1) (f5:Pol.is (l.drop (i+1)) 4 [40]=true) (v:TI) (hv:l[i+2]?=some v) (hvk:v.k=2) (u:TI) (hu:l[i+3]?=some u) (f6:Pol.is (l.drop (i+3)) 4 [41]=false) :
  Calls Tryz.prog 106 #[.slice (some ad) l.length cap,.int .i64 i,.int .i64 nest] w (PaDone l w (.error (u.p,120))):=by
 have HI1:Hid (∀ V,Fr [] w V → Calls Tryz.prog 22 #[.slice (some ad) l.length cap,.int .i64 i,.int .i64 4,.string ⟨#[40]⟩] V fun e w'=>e=.returned (.bool false) ∧ V=w'):=fun V hV=>ref_isB V ad cap l i i 4 ⟨#[40]⟩ [40] (by kernel_rfl) false (h.fr hV) hi rfl f1
 have HI2:Hid (∀ V,Fr [] w V → Calls Tryz.prog 22 #[.slice (some ad) l.length cap,.int .i64 i,.int .i64 1,.string ⟨#[116,114,117,101]⟩] V fun e w'=>e=.returned (.bool false) ∧ V=w'):=fun V hV=>ref_isB V ad cap l i i 1 ⟨#[116,114,117,101]⟩ [116,114,117,101] (by kernel_rfl) false (h.fr hV) hi rfl f2
 have HI3:Hid (∀ V,Fr [] w V → Calls Tryz.prog 22 #[.slice (some ad) l.length cap,.int .i64 i,.int .i64 1,.string ⟨#[102,97,108,115,101]⟩] V fun e w'=>e=.returned (.bool false) ∧ V=w'):=fun V hV=>ref_isB V ad cap l i i 1 ⟨#[102,97,108,115,101]⟩ [102,97,108,115,101] (by kernel_rfl) false (h.fr hV) hi rfl f3
 have HI4:Hid (∀ V,Fr [] w V → Calls Tryz.prog 22 #[.slice (some ad) l.length cap,.int .i64 i,.int .i64 1,.string ⟨#[99,108,97,105,109]⟩] V fun e w'=>e=.returned (.bool true) ∧ V=w'):=fun V hV=>ref_isB V ad cap l i i 1 ⟨#[99,108,97,105,109]⟩ [99,108,97,105,109] (by kernel_rfl) true (h.fr hV) hi rfl f4
 have hn:i+3 < l.length:=(List.getElem?_eq_some_iff.1 hu).1
 have HI5:Hid (∀ V,Fr [] w V → Calls Tryz.prog 22 #[.slice (some ad) l.length cap,.int .i64 ((i:Int)+1),.int .i64 4,.string ⟨#[40]⟩] V fun e w'=>e=.returned (.bool true) ∧ V=w'):=fun V hV=>ref_isB V ad cap l (i+1) _ 4 ⟨#[40]⟩ [40] (by kernel_rfl) true (h.fr hV) (by omega) (by omega) f5
 have HI6:Hid (∀ V,Fr [] w V → Calls Tryz.prog 22 #[.slice (some ad) l.length cap,.int .i64 ((i:Int)+3),.int .i64 4,.string ⟨#[41]⟩] V fun e w'=>e=.returned (.bool false) ∧ V=w'):=fun V hV=>ref_isB V ad cap l (i+3) _ 4 ⟨#[41]⟩ [41] (by kernel_rfl) false (h.fr hV) (by omega) (by omega) f6
 obtain ⟨tk,ts,tn,tp⟩:=t
 obtain rfl:tk=1:=hk
 obtain ⟨c0,c1,c2,c3⟩:=h.cells ht
 simp only [] at c0 c1 c2 c3
 have hb:l.length ≤ 1000000:=h.few
 have hi1:(i:Int) < (l.length:Int):=by omega
 have hi0:(0:Int) ≤ (i:Int):=by omega
 have hbl:=World.block_lt_of_cell? w _ c0
 go_enter Tryz.func106,Tryz.ntmps106
 go_upto_region 4 with fail
 refine wp_fresh (fun W=>RO w ⟨1,ts,tn,tp⟩ w.heap.size z5 #[.int .i64 0,.string ⟨#[]⟩,.int .i64 0,.slice none 0 0,.int .i64 tp] W) ?_ ?_
 ·exact ⟨(alloc3 _ _ _ _).1,(alloc3 _ _ _ _).2.1,(alloc3 _ _ _ _).2.2,(((Fr.refl _ _).alloc _).alloc _).alloc _,rfl⟩
 intro W h1
 obtain ⟨b,hbb⟩:∃ b,w.heap.size=b:=⟨_,rfl⟩
 rw [hbb] at h1 ⊢
 have H:=Lib.hid h1
 have HB:=Lib.hid hbb
 have HTL:=Lib.hid h
 have HT0:=Lib.hid ht
 have kf:∀ i,W.frozen? ⟨(b+1),i,none⟩=false:=fun i=>Lib.frozen_of_heap h1.tok i
 have k0:W.cell? ⟨(b+1),0,none⟩=some (.int .i64 (1)):=by rw [Lib.cell_of_heap h1.tok];rfl
 have k1:W.cell? ⟨(b+1),1,none⟩=some (.string ts):=by rw [Lib.cell_of_heap h1.tok];rfl
 have k2:W.cell? ⟨(b+1),2,none⟩=some (.int .i64 tn):=by rw [Lib.cell_of_heap h1.tok];rfl
 have k3:W.cell? ⟨(b+1),3,none⟩=some (.int .i64 tp):=by rw [Lib.cell_of_heap h1.tok];rfl
 have ef:∀ i,W.frozen? ⟨(b+1+1),i,none⟩=false:=fun i=>Lib.frozen_of_heap h1.ex i
 have e0:W.cell? ⟨(b+1+1),0,none⟩=some (.int .i64 0):=by rw [Lib.cell_of_heap h1.ex];rfl
 have e1:W.cell? ⟨(b+1+1),1,none⟩=some (.string ⟨#[]⟩):=by rw [Lib.cell_of_heap h1.ex];rfl
 have e2:W.cell? ⟨(b+1+1),2,none⟩=some (.int .i64 0):=by rw [Lib.cell_of_heap h1.ex];rfl
 have e3:W.cell? ⟨(b+1+1),3,none⟩=some (.slice none 0 0):=by rw [Lib.cell_of_heap h1.ex];rfl
 have e4:W.cell? ⟨(b+1+1),4,none⟩=some (.int .i64 tp):=by rw [Lib.cell_of_heap h1.ex];rfl
 have zf:∀ i,W.frozen? ⟨b,i,none⟩=false:=fun i=>Lib.frozen_of_heap h1.res i
 have z0:W.cell? ⟨b,0,none⟩=some (.int .i64 0):=by rw [Lib.cell_of_heap h1.res];rfl
 have z1:W.cell? ⟨b,1,none⟩=some (.string ⟨#[]⟩):=by rw [Lib.cell_of_heap h1.res];rfl
 have z2:W.cell? ⟨b,2,none⟩=some (.int .i64 0):=by rw [Lib.cell_of_heap h1.res];rfl
 have z3:W.cell? ⟨b,3,none⟩=some (.slice none 0 0):=by rw [Lib.cell_of_heap h1.res];rfl
 have z4:W.cell? ⟨b,4,none⟩=some (.int .i64 0):=by rw [Lib.cell_of_heap h1.res];rfl
 clear h1 hbb h ht c0 c1 c2 c3 hbl
 obtain ⟨g0,g1,g2,g3⟩:=(HTL.out.fr H.out.f).cells hv
 have j0:(0:Int) ≤ (i:Int)+2:=by omega
 have j1:(i:Int)+2 < (l.length:Int):=by omega
 have j2:((i:Int)+2).toNat=i+2:=by omega
 rw [hvk] at g0
 go_wp2_with fail
 refine (HI1.out _ H.out.f).mono ?_
 rintro e w1 ⟨rfl,rfl⟩
 clear HI1
 go_wp2_with fail
 refine (HI2.out _ H.out.f).mono ?_
 rintro e w1 ⟨rfl,rfl⟩
 clear HI2
 go_wp2_with fail
 refine (HI3.out _ H.out.f).mono ?_
 rintro e w1 ⟨rfl,rfl⟩
 clear HI3
 go_wp2_with fail
 refine (HI4.out _ H.out.f).mono ?_
 rintro e w1 ⟨rfl,rfl⟩
 clear HI4
 go_wp2_with fail
 refine (HI5.out _ H.out.f).mono ?_
 rintro e w1 ⟨rfl,rfl⟩
 clear HI5
 go_wp2_with fail
 refine (HI6.out _ H.out.f).mono ?_
 rintro e w1 ⟨rfl,rfl⟩
 clear HI6
 go_wp2_with fail
 have HT:=Lib.hid ((((((H.out).setr 0 (.int .i64 0)).setr 1 (.string ⟨#[]⟩)).setr 2 (.int .i64 0)).setr 3 (.slice none 0 0)).setr 4 (.int .i64 tp))
 refine bodyPost_ret (results_cell_tmp2 rfl _ _ b _ _ (0,0) _ rfl HT.out.res Tryz.underlying42 rfl (by kernel_rfl)) rfl ?_
 exact ⟨[_,_,_,_,_],i+3,u,rfl,⟨_,_,_,_,_,_,_,rfl⟩,hu,rfl,by decide,HT.out.f⟩
set_option maxHeartbeats 1000000 in
set_option maxRecDepth 100000 in
theorem ropd_claim4 (w:World) (ad:Addr) (cap:Nat) (l:List TI) (i nest:Nat) (h:TL w ad cap l) (hi:i < l.length) (t:TI) (ht:l[i]?=some t) (f1:Pol.is (l.drop i) 4 [40]=false) (f2:Pol.is (l.drop i) 1 [116,114,117,101]=false) (f3:Pol.is (l.drop i) 1 [102,97,108,115,101]=false) (f4:Pol.is (l.drop i) 1 [99,108,97,105,109]=true) (hk:t.k=1) (f5:Pol.is (l.drop (i+1)) 4 [40]=true) (v:TI) (hv:l[i+2]?=some v) (hvk:v.k=2) (hu:i+4 < l.length) (f6:Pol.is (l.drop (i+3)) 4 [41]=true) :
  Calls Tryz.prog 106 #[.slice (some ad) l.length cap,.int .i64 i,.int .i64 nest] w (PaDone l w (.ok (.mk 5 v.s 0 [] t.p,l.drop (i+4)))):=by
 have HI1:Hid (∀ V,Fr [] w V → Calls Tryz.prog 22 #[.slice (some ad) l.length cap,.int .i64 i,.int .i64 4,.string ⟨#[40]⟩] V fun e w'=>e=.returned (.bool false) ∧ V=w'):=fun V hV=>ref_isB V ad cap l i i 4 ⟨#[40]⟩ [40] (by kernel_rfl) false (h.fr hV) hi rfl f1
 have HI2:Hid (∀ V,Fr [] w V → Calls Tryz.prog 22 #[.slice (some ad) l.length cap,.int .i64 i,.int .i64 1,.string ⟨#[116,114,117,101]⟩] V fun e w'=>e=.returned (.bool false) ∧ V=w'):=fun V hV=>ref_isB V ad cap l i i 1 ⟨#[116,114,117,101]⟩ [116,114,117,101] (by kernel_rfl) false (h.fr hV) hi rfl f2
 have HI3:Hid (∀ V,Fr [] w V → Calls Tryz.prog 22 #[.slice (some ad) l.length cap,.int .i64 i,.int .i64 1,.string ⟨#[102,97,108,115,101]⟩] V fun e w'=>e=.returned (.bool false) ∧ V=w'):=fun V hV=>ref_isB V ad cap l i i 1 ⟨#[102,97,108,115,101]⟩ [102,97,108,115,101] (by kernel_rfl) false (h.fr hV) hi rfl f3
 have HI4:Hid (∀ V,Fr [] w V → Calls Tryz.prog 22 #[.slice (some ad) l.length cap,.int .i64 i,.int .i64 1,.string ⟨#[99,108,97,105,109]⟩] V fun e w'=>e=.returned (.bool true) ∧ V=w'):=fun V hV=>ref_isB V ad cap l i i 1 ⟨#[99,108,97,105,109]⟩ [99,108,97,105,109] (by kernel_rfl) true (h.fr hV) hi rfl f4
 have HI5:Hid (∀ V,Fr [] w V → Calls Tryz.prog 22 #[.slice (some ad) l.length cap,.int .i64 ((i:Int)+1),.int .i64 4,.string ⟨#[40]⟩] V fun e w'=>e=.returned (.bool true) ∧ V=w'):=fun V hV=>ref_isB V ad cap l (i+1) _ 4 ⟨#[40]⟩ [40] (by kernel_rfl) true (h.fr hV) (by omega) (by omega) f5
 have HI6:Hid (∀ V,Fr [] w V → Calls Tryz.prog 22 #[.slice (some ad) l.length cap,.int .i64 ((i:Int)+3),.int .i64 4,.string ⟨#[41]⟩] V fun e w'=>e=.returned (.bool true) ∧ V=w'):=fun V hV=>ref_isB V ad cap l (i+3) _ 4 ⟨#[41]⟩ [41] (by kernel_rfl) true (h.fr hV) (by omega) (by omega) f6
 obtain ⟨tk,ts,tn,tp⟩:=t
 obtain rfl:tk=1:=hk
 obtain ⟨c0,c1,c2,c3⟩:=h.cells ht
 simp only [] at c0 c1 c2 c3
 have hb:l.length ≤ 1000000:=h.few
 have hi1:(i:Int) < (l.length:Int):=by omega
 have hi0:(0:Int) ≤ (i:Int):=by omega
 have hbl:=World.block_lt_of_cell? w _ c0
 go_enter Tryz.func106,Tryz.ntmps106
 go_upto_region 4 with fail
 refine wp_fresh (fun W=>RO w ⟨1,ts,tn,tp⟩ w.heap.size z5 #[.int .i64 0,.string ⟨#[]⟩,.int .i64 0,.slice none 0 0,.int .i64 tp] W) ?_ ?_
 ·exact ⟨(alloc3 _ _ _ _).1,(alloc3 _ _ _ _).2.1,(alloc3 _ _ _ _).2.2,(((Fr.refl _ _).alloc _).alloc _).alloc _,rfl⟩
 intro W h1
 obtain ⟨b,hbb⟩:∃ b,w.heap.size=b:=⟨_,rfl⟩
 rw [hbb] at h1 ⊢
 have H:=Lib.hid h1
 have HB:=Lib.hid hbb
 have HTL:=Lib.hid h
 have HT0:=Lib.hid ht
 have kf:∀ i,W.frozen? ⟨(b+1),i,none⟩=false:=fun i=>Lib.frozen_of_heap h1.tok i
 have k0:W.cell? ⟨(b+1),0,none⟩=some (.int .i64 (1)):=by rw [Lib.cell_of_heap h1.tok];rfl
 have k1:W.cell? ⟨(b+1),1,none⟩=some (.string ts):=by rw [Lib.cell_of_heap h1.tok];rfl
 have k2:W.cell? ⟨(b+1),2,none⟩=some (.int .i64 tn):=by rw [Lib.cell_of_heap h1.tok];rfl
 have k3:W.cell? ⟨(b+1),3,none⟩=some (.int .i64 tp):=by rw [Lib.cell_of_heap h1.tok];rfl
 have ef:∀ i,W.frozen? ⟨(b+1+1),i,none⟩=false:=fun i=>Lib.frozen_of_heap h1.ex i
 have e0:W.cell? ⟨(b+1+1),0,none⟩=some (.int .i64 0):=by rw [Lib.cell_of_heap h1.ex];rfl
 have e1:W.cell? ⟨(b+1+1),1,none⟩=some (.string ⟨#[]⟩):=by rw [Lib.cell_of_heap h1.ex];rfl
 have e2:W.cell? ⟨(b+1+1),2,none⟩=some (.int .i64 0):=by rw [Lib.cell_of_heap h1.ex];rfl
 have e3:W.cell? ⟨(b+1+1),3,none⟩=some (.slice none 0 0):=by rw [Lib.cell_of_heap h1.ex];rfl
 have e4:W.cell? ⟨(b+1+1),4,none⟩=some (.int .i64 tp):=by rw [Lib.cell_of_heap h1.ex];rfl
 have zf:∀ i,W.frozen? ⟨b,i,none⟩=false:=fun i=>Lib.frozen_of_heap h1.res i
 have z0:W.cell? ⟨b,0,none⟩=some (.int .i64 0):=by rw [Lib.cell_of_heap h1.res];rfl
 have z1:W.cell? ⟨b,1,none⟩=some (.string ⟨#[]⟩):=by rw [Lib.cell_of_heap h1.res];rfl
 have z2:W.cell? ⟨b,2,none⟩=some (.int .i64 0):=by rw [Lib.cell_of_heap h1.res];rfl
 have z3:W.cell? ⟨b,3,none⟩=some (.slice none 0 0):=by rw [Lib.cell_of_heap h1.res];rfl
 have z4:W.cell? ⟨b,4,none⟩=some (.int .i64 0):=by rw [Lib.cell_of_heap h1.res];rfl
 clear h1 hbb h ht c0 c1 c2 c3 hbl
 obtain ⟨g0,g1,g2,g3⟩:=(HTL.out.fr H.out.f).cells hv
 have j0:(0:Int) ≤ (i:Int)+2:=by omega
 have j1:(i:Int)+2 < (l.length:Int):=by omega
 have j2:((i:Int)+2).toNat=i+2:=by omega
 rw [hvk] at g0
 have j3:IntKind.i64.wrap ((i:Int)+2)=(i:Int)+2:=IntWalk.i64_in _ (by omega)
 have j4:IntKind.i64.wrap ((i:Int)+4)=(i:Int)+4:=IntWalk.i64_in _ (by omega)
 go_wp2_with fail
 refine (HI1.out _ H.out.f).mono ?_
 rintro e w1 ⟨rfl,rfl⟩
 clear HI1
 go_wp2_with fail
 refine (HI2.out _ H.out.f).mono ?_
 rintro e w1 ⟨rfl,rfl⟩
 clear HI2
 go_wp2_with fail
 refine (HI3.out _ H.out.f).mono ?_
 rintro e w1 ⟨rfl,rfl⟩
 clear HI3
 go_wp2_with fail
 refine (HI4.out _ H.out.f).mono ?_
 rintro e w1 ⟨rfl,rfl⟩
 clear HI4
 go_wp2_with fail
 refine (HI5.out _ H.out.f).mono ?_
 rintro e w1 ⟨rfl,rfl⟩
 clear HI5
 go_wp2_with fail
 refine (HI6.out _ H.out.f).mono ?_
 rintro e w1 ⟨rfl,rfl⟩
 clear HI6
 go_wp2_with fail
 go_region
 go_wp2_with fail
 have HT:=Lib.hid (((((((H.out).setr 0 (.int .i64 5)).setr 1 (.string v.s)).setr 2 (.int .i64 0)).setr 3 (.slice none 0 0)).setr 4 (.int .i64 tp)).fr (Fr.refl [] _).drew)
 refine bodyPost_ret (results_cell_tmp2 rfl _ _ b _ _ (0,0) _ rfl HT.out.res Tryz.underlying42 rfl (by kernel_rfl)) rfl ?_
 exact ⟨[_,_,_,_,_],i+4,rfl,Rep.leaf _ _ _ _ _ _,hu,rfl,HT.out.f⟩
end Go.Proofs.YtgklmpooonnmiaaGreatDoor

namespace Go.Proofs.YtgklmpooonnmiaaGreatDoor
open Go.RowKit
def Pol.inner (q:Pol.PR Ex):Pol.PR Ex :=
 match q with
 | .error e=>.error e
 | .ok (x, m) => match Pol.must m [41] with
   | .error e=>.error e
   | .ok (_,m)=>.ok (x,m)
theorem rep_set5 {V:World} {D:Nat → Prop} {cs:List Value} {x:Ex} (h:Rep V D cs x) (o:Obj) (b:Nat) (hb:¬ D b) (u0 u1 u2 u3 u4:Value) :
  Rep ((((((V.setCell ⟨b,0,none⟩ u0).setCell ⟨b,1,none⟩ u1).setCell ⟨b,2,none⟩ u2).setCell ⟨b,3,none⟩ u3).setCell ⟨b,4,none⟩ u4).alloc o) D cs x:=by
 have hb0:∀ {W:World} (i:Nat) (u:Value),Fr [b] V W → Fr [b] V (W.setCell ⟨b,i,none⟩ u):=fun i u hW=>hW.setCell (p:=⟨b,i,none⟩) (.inl (by simp)) u
 exact h.fr (bs:=[b]) ((hb0 4 _ (hb0 3 _ (hb0 2 _ (hb0 1 _ (hb0 0 _ (Fr.refl [b] V)))))).alloc o) (fun y hy _=>by simp at hy;subst hy;exact hb)
theorem PaDone.err {l:List TI} {w w':World} {cs:List Value} {n:Nat} {t:TI} {er:Int} {e:Ending} (he:e=.returned (.tuple #[.agg cs.toArray,.int .i64 n,.int .i64 er])) (hc:ExForm cs) (ht:l[n]?=some t) (h0:er ≠ 0) (hF:Fr [] w w'):PaDone l w (.error (t.p,er)) e w':=⟨cs,n,t,he,hc,ht,rfl,h0,hF⟩
theorem PaDone.yes {l:List TI} {w w':World} {cs:List Value} {n:Nat} {x:Ex} {e:Ending} (he:e=.returned (.tuple #[.agg cs.toArray,.int .i64 n,.int .i64 0])) (hr:Rep w' (fun g=>w.heap.size ≤ g) cs x) (hn:n < l.length) (hF:Fr [] w w'):PaDone l w (.ok (x,l.drop n)) e w':=⟨cs,n,he,hr,hn,rfl,hF⟩
set_option maxHeartbeats 1000000 in
set_option maxRecDepth 100000 in
theorem ropd_deep (w:World) (ad:Addr) (cap:Nat) (l:List TI) (i nest:Nat) (h:TL w ad cap l) (hi:i < l.length) (t:TI) (ht:l[i]?=some t) (f1:Pol.is (l.drop i) 4 [40]=true) (hd:12 ≤ nest) :
  Calls Tryz.prog 106 #[.slice (some ad) l.length cap,.int .i64 i,.int .i64 nest] w (PaDone l w (.error (t.p,121))):=by
 have HI1:Hid (∀ V,Fr [] w V → Calls Tryz.prog 22 #[.slice (some ad) l.length cap,.int .i64 i,.int .i64 4,.string ⟨#[40]⟩] V fun e w'=>e=.returned (.bool true) ∧ V=w'):=fun V hV=>ref_isB V ad cap l i i 4 ⟨#[40]⟩ [40] (by kernel_rfl) true (h.fr hV) hi rfl f1
 have hd2:(nest:Int) ≥ 12:=by omega
 obtain ⟨tk,ts,tn,tp⟩:=t
 skip
 obtain ⟨c0,c1,c2,c3⟩:=h.cells ht
 simp only [] at c0 c1 c2 c3
 have hb:l.length ≤ 1000000:=h.few
 have hi1:(i:Int) < (l.length:Int):=by omega
 have hi0:(0:Int) ≤ (i:Int):=by omega
 have hbl:=World.block_lt_of_cell? w _ c0
 go_enter Tryz.func106,Tryz.ntmps106
 go_upto_region 4 with fail
 refine wp_fresh (fun W=>RO w ⟨tk,ts,tn,tp⟩ w.heap.size z5 #[.int .i64 0,.string ⟨#[]⟩,.int .i64 0,.slice none 0 0,.int .i64 tp] W) ?_ ?_
 ·exact ⟨(alloc3 _ _ _ _).1,(alloc3 _ _ _ _).2.1,(alloc3 _ _ _ _).2.2,(((Fr.refl _ _).alloc _).alloc _).alloc _,rfl⟩
 intro W h1
 obtain ⟨b,hbb⟩:∃ b,w.heap.size=b:=⟨_,rfl⟩
 rw [hbb] at h1 ⊢
 have H:=Lib.hid h1
 have HB:=Lib.hid hbb
 have HTL:=Lib.hid h
 have HT0:=Lib.hid ht
 have kf:∀ i,W.frozen? ⟨(b+1),i,none⟩=false:=fun i=>Lib.frozen_of_heap h1.tok i
 have k0:W.cell? ⟨(b+1),0,none⟩=some (.int .i64 (tk)):=by rw [Lib.cell_of_heap h1.tok];rfl
 have k1:W.cell? ⟨(b+1),1,none⟩=some (.string ts):=by rw [Lib.cell_of_heap h1.tok];rfl
 have k2:W.cell? ⟨(b+1),2,none⟩=some (.int .i64 tn):=by rw [Lib.cell_of_heap h1.tok];rfl
 have k3:W.cell? ⟨(b+1),3,none⟩=some (.int .i64 tp):=by rw [Lib.cell_of_heap h1.tok];rfl
 have ef:∀ i,W.frozen? ⟨(b+1+1),i,none⟩=false:=fun i=>Lib.frozen_of_heap h1.ex i
 have e0:W.cell? ⟨(b+1+1),0,none⟩=some (.int .i64 0):=by rw [Lib.cell_of_heap h1.ex];rfl
 have e1:W.cell? ⟨(b+1+1),1,none⟩=some (.string ⟨#[]⟩):=by rw [Lib.cell_of_heap h1.ex];rfl
 have e2:W.cell? ⟨(b+1+1),2,none⟩=some (.int .i64 0):=by rw [Lib.cell_of_heap h1.ex];rfl
 have e3:W.cell? ⟨(b+1+1),3,none⟩=some (.slice none 0 0):=by rw [Lib.cell_of_heap h1.ex];rfl
 have e4:W.cell? ⟨(b+1+1),4,none⟩=some (.int .i64 tp):=by rw [Lib.cell_of_heap h1.ex];rfl
 have zf:∀ i,W.frozen? ⟨b,i,none⟩=false:=fun i=>Lib.frozen_of_heap h1.res i
 have z0:W.cell? ⟨b,0,none⟩=some (.int .i64 0):=by rw [Lib.cell_of_heap h1.res];rfl
 have z1:W.cell? ⟨b,1,none⟩=some (.string ⟨#[]⟩):=by rw [Lib.cell_of_heap h1.res];rfl
 have z2:W.cell? ⟨b,2,none⟩=some (.int .i64 0):=by rw [Lib.cell_of_heap h1.res];rfl
 have z3:W.cell? ⟨b,3,none⟩=some (.slice none 0 0):=by rw [Lib.cell_of_heap h1.res];rfl
 have z4:W.cell? ⟨b,4,none⟩=some (.int .i64 0):=by rw [Lib.cell_of_heap h1.res];rfl
 clear h1 hbb h ht c0 c1 c2 c3 hbl
 go_wp2_with fail
 refine (HI1.out _ H.out.f).mono ?_
 rintro e w1 ⟨rfl,rfl⟩
 clear HI1
 go_wp2_with fail
 have HT:=Lib.hid ((((((H.out).setr 0 (.int .i64 0)).setr 1 (.string ⟨#[]⟩)).setr 2 (.int .i64 0)).setr 3 (.slice none 0 0)).setr 4 (.int .i64 tp))
 refine bodyPost_ret (results_cell_tmp2 rfl _ _ b _ _ (0,0) _ rfl HT.out.res Tryz.underlying42 rfl (by kernel_rfl)) rfl ?_
 exact PaDone.err (cs:=[_,_,_,_,_]) rfl ⟨_,_,_,_,_,_,_,rfl⟩ HT0.out (by decide) HT.out.f
set_option maxHeartbeats 2000000 in
set_option maxRecDepth 100000 in
theorem ropd_paren (f:Nat) (hO:PaReads 54 (Pol.or_ f)) (w:World) (ad:Addr) (cap:Nat) (l:List TI) (i nest:Nat) (h:TL w ad cap l) (hi:i < l.length) (t:TI) (ht:l[i]?=some t) (f1:Pol.is (l.drop i) 4 [40]=true) (hd:¬ 12 ≤ nest) (hfed:Pol.Fed (Pol.or_ f (nest+1) (l.drop (i+1)))) (hk:t.k ≠ 5) :
  Calls Tryz.prog 106 #[.slice (some ad) l.length cap,.int .i64 i,.int .i64 nest] w (PaDone l w (Pol.inner (Pol.or_ f (nest+1) (l.drop (i+1))))):=by
 have HI1:Hid (∀ V,Fr [] w V → Calls Tryz.prog 22 #[.slice (some ad) l.length cap,.int .i64 i,.int .i64 4,.string ⟨#[40]⟩] V fun e w'=>e=.returned (.bool true) ∧ V=w'):=fun V hV=>ref_isB V ad cap l i i 4 ⟨#[40]⟩ [40] (by kernel_rfl) true (h.fr hV) hi rfl f1
 have hn:=next_lt h.ends ht hk
 have hd2:¬ (nest:Int) ≥ 12:=by omega
 have HOR:Hid (∀ V,Fr [] w V → Calls Tryz.prog 54 #[.slice (some ad) l.length cap,.int .i64 ((i:Int)+1),.int .i64 ((nest:Int)+1)] V (PaDone l V (Pol.or_ f (nest+1) (l.drop (i+1))))):=fun V hV=>by
  have:=hO V ad cap l (i+1) (nest+1) (h.fr hV) hn (by omega) hfed
  rwa [show ((i+1:Nat):Int)=(i:Int)+1 by omega,show ((nest+1:Nat):Int)=(nest:Int)+1 by omega] at this
 obtain ⟨q,hq⟩:∃ q,Pol.or_ f (nest+1) (l.drop (i+1))=q:=⟨_,rfl⟩
 rw [hq] at HOR ⊢
 clear hfed hq hk hO
 rcases q with ⟨p,er⟩ | ⟨x,m⟩
 ·rw [show Pol.inner (.error (p,er))=.error (p,er) from rfl]
  obtain ⟨tk,ts,tn,tp⟩:=t
  obtain ⟨c0,c1,c2,c3⟩:=h.cells ht
  simp only [] at c0 c1 c2 c3
  have hb:l.length ≤ 1000000:=h.few
  have hi1:(i:Int) < (l.length:Int):=by omega
  have hi0:(0:Int) ≤ (i:Int):=by omega
  have hbl:=World.block_lt_of_cell? w _ c0
  go_enter Tryz.func106,Tryz.ntmps106
  go_upto_region 4 with fail
  refine wp_fresh (fun W=>RO w ⟨tk,ts,tn,tp⟩ w.heap.size z5 #[.int .i64 0,.string ⟨#[]⟩,.int .i64 0,.slice none 0 0,.int .i64 tp] W) ?_ ?_
  ·exact ⟨(alloc3 _ _ _ _).1,(alloc3 _ _ _ _).2.1,(alloc3 _ _ _ _).2.2,(((Fr.refl _ _).alloc _).alloc _).alloc _,rfl⟩
  intro W h1
  obtain ⟨b,hbb⟩:∃ b,w.heap.size=b:=⟨_,rfl⟩
  rw [hbb] at h1 ⊢
  have H:=Lib.hid h1
  have HB:=Lib.hid hbb
  have HTL:=Lib.hid h
  have HT0:=Lib.hid ht
  have kf:∀ i,W.frozen? ⟨(b+1),i,none⟩=false:=fun i=>Lib.frozen_of_heap h1.tok i
  have k0:W.cell? ⟨(b+1),0,none⟩=some (.int .i64 tk):=by rw [Lib.cell_of_heap h1.tok];rfl
  have k1:W.cell? ⟨(b+1),1,none⟩=some (.string ts):=by rw [Lib.cell_of_heap h1.tok];rfl
  have k2:W.cell? ⟨(b+1),2,none⟩=some (.int .i64 tn):=by rw [Lib.cell_of_heap h1.tok];rfl
  have k3:W.cell? ⟨(b+1),3,none⟩=some (.int .i64 tp):=by rw [Lib.cell_of_heap h1.tok];rfl
  have ef:∀ i,W.frozen? ⟨(b+1+1),i,none⟩=false:=fun i=>Lib.frozen_of_heap h1.ex i
  have e0:W.cell? ⟨(b+1+1),0,none⟩=some (.int .i64 0):=by rw [Lib.cell_of_heap h1.ex];rfl
  have e1:W.cell? ⟨(b+1+1),1,none⟩=some (.string ⟨#[]⟩):=by rw [Lib.cell_of_heap h1.ex];rfl
  have e2:W.cell? ⟨(b+1+1),2,none⟩=some (.int .i64 0):=by rw [Lib.cell_of_heap h1.ex];rfl
  have e3:W.cell? ⟨(b+1+1),3,none⟩=some (.slice none 0 0):=by rw [Lib.cell_of_heap h1.ex];rfl
  have e4:W.cell? ⟨(b+1+1),4,none⟩=some (.int .i64 tp):=by rw [Lib.cell_of_heap h1.ex];rfl
  have zf:∀ i,W.frozen? ⟨b,i,none⟩=false:=fun i=>Lib.frozen_of_heap h1.res i
  have z0:W.cell? ⟨b,0,none⟩=some (.int .i64 0):=by rw [Lib.cell_of_heap h1.res];rfl
  have z1:W.cell? ⟨b,1,none⟩=some (.string ⟨#[]⟩):=by rw [Lib.cell_of_heap h1.res];rfl
  have z2:W.cell? ⟨b,2,none⟩=some (.int .i64 0):=by rw [Lib.cell_of_heap h1.res];rfl
  have z3:W.cell? ⟨b,3,none⟩=some (.slice none 0 0):=by rw [Lib.cell_of_heap h1.res];rfl
  have z4:W.cell? ⟨b,4,none⟩=some (.int .i64 0):=by rw [Lib.cell_of_heap h1.res];rfl
  clear h1 hbb h ht c0 c1 c2 c3 hbl
  go_wp2_with fail
  refine (HI1.out _ H.out.f).mono ?_
  rintro e w1 ⟨rfl,rfl⟩
  clear HI1
  go_wp2_with fail
  refine (HOR.out _ H.out.f).mono ?_
  rintro e V ⟨cs,n,u,rfl,⟨xo,xs,xn,xq,xk,xc,xp,rfl⟩,hu,rfl,her,hF⟩
  have H:=Lib.hid (H.out.fr hF)
  have HU:=Lib.hid hu
  have her2:(er != 0)=true:=by rw [bne,beq_eq_false_iff_ne.2 her];rfl
  clear hF HOR k0 k1 k2 k3 kf e0 e1 e2 e3 e4 ef z0 z1 z2 z3 z4 zf hu
  have zf:∀ i,V.frozen? ⟨b,i,none⟩=false:=fun i=>Lib.frozen_of_heap H.out.res i
  have z0:V.cell? ⟨b,0,none⟩=some (.int .i64 0):=by rw [Lib.cell_of_heap H.out.res];rfl
  have z1:V.cell? ⟨b,1,none⟩=some (.string ⟨#[]⟩):=by rw [Lib.cell_of_heap H.out.res];rfl
  have z2:V.cell? ⟨b,2,none⟩=some (.int .i64 0):=by rw [Lib.cell_of_heap H.out.res];rfl
  have z3:V.cell? ⟨b,3,none⟩=some (.slice none 0 0):=by rw [Lib.cell_of_heap H.out.res];rfl
  have z4:V.cell? ⟨b,4,none⟩=some (.int .i64 0):=by rw [Lib.cell_of_heap H.out.res];rfl
  have hbV:b < V.heap.size:=row_lt H.out.res
  go_wp2_with fail
  have HT:=Lib.hid ((((((H.out.setr 0 (.int .i64 xo)).setr 1 (.string xs)).setr 2 (.int .i64 xn)).setr 3 (.slice xq xk xc)).setr 4 (.int .i64 xp)).fr ((Fr.refl [] _).alloc (.cells #[.int .i64 xo,.string xs,.int .i64 xn,.slice xq xk xc,.int .i64 xp] 42)))
  refine bodyPost_ret (results_cell_tmp2 rfl _ _ b _ _ (0,0) _ rfl HT.out.res Tryz.underlying42 rfl (by kernel_rfl)) rfl ?_
  exact PaDone.err (cs:=[_,_,_,_,_]) rfl ⟨_,_,_,_,_,_,_,rfl⟩ HU.out her HT.out.f
 ·obtain ⟨tk,ts,tn,tp⟩:=t
  obtain ⟨c0,c1,c2,c3⟩:=h.cells ht
  simp only [] at c0 c1 c2 c3
  have hb:l.length ≤ 1000000:=h.few
  have hi1:(i:Int) < (l.length:Int):=by omega
  have hi0:(0:Int) ≤ (i:Int):=by omega
  have hbl:=World.block_lt_of_cell? w _ c0
  go_enter Tryz.func106,Tryz.ntmps106
  go_upto_region 4 with fail
  refine wp_fresh (fun W=>RO w ⟨tk,ts,tn,tp⟩ w.heap.size z5 #[.int .i64 0,.string ⟨#[]⟩,.int .i64 0,.slice none 0 0,.int .i64 tp] W) ?_ ?_
  ·exact ⟨(alloc3 _ _ _ _).1,(alloc3 _ _ _ _).2.1,(alloc3 _ _ _ _).2.2,(((Fr.refl _ _).alloc _).alloc _).alloc _,rfl⟩
  intro W h1
  obtain ⟨b,hbb⟩:∃ b,w.heap.size=b:=⟨_,rfl⟩
  rw [hbb] at h1 ⊢
  have H:=Lib.hid h1
  have HB:=Lib.hid hbb
  have HTL:=Lib.hid h
  have HT0:=Lib.hid ht
  have kf:∀ i,W.frozen? ⟨(b+1),i,none⟩=false:=fun i=>Lib.frozen_of_heap h1.tok i
  have k0:W.cell? ⟨(b+1),0,none⟩=some (.int .i64 tk):=by rw [Lib.cell_of_heap h1.tok];rfl
  have k1:W.cell? ⟨(b+1),1,none⟩=some (.string ts):=by rw [Lib.cell_of_heap h1.tok];rfl
  have k2:W.cell? ⟨(b+1),2,none⟩=some (.int .i64 tn):=by rw [Lib.cell_of_heap h1.tok];rfl
  have k3:W.cell? ⟨(b+1),3,none⟩=some (.int .i64 tp):=by rw [Lib.cell_of_heap h1.tok];rfl
  have ef:∀ i,W.frozen? ⟨(b+1+1),i,none⟩=false:=fun i=>Lib.frozen_of_heap h1.ex i
  have e0:W.cell? ⟨(b+1+1),0,none⟩=some (.int .i64 0):=by rw [Lib.cell_of_heap h1.ex];rfl
  have e1:W.cell? ⟨(b+1+1),1,none⟩=some (.string ⟨#[]⟩):=by rw [Lib.cell_of_heap h1.ex];rfl
  have e2:W.cell? ⟨(b+1+1),2,none⟩=some (.int .i64 0):=by rw [Lib.cell_of_heap h1.ex];rfl
  have e3:W.cell? ⟨(b+1+1),3,none⟩=some (.slice none 0 0):=by rw [Lib.cell_of_heap h1.ex];rfl
  have e4:W.cell? ⟨(b+1+1),4,none⟩=some (.int .i64 tp):=by rw [Lib.cell_of_heap h1.ex];rfl
  have zf:∀ i,W.frozen? ⟨b,i,none⟩=false:=fun i=>Lib.frozen_of_heap h1.res i
  have z0:W.cell? ⟨b,0,none⟩=some (.int .i64 0):=by rw [Lib.cell_of_heap h1.res];rfl
  have z1:W.cell? ⟨b,1,none⟩=some (.string ⟨#[]⟩):=by rw [Lib.cell_of_heap h1.res];rfl
  have z2:W.cell? ⟨b,2,none⟩=some (.int .i64 0):=by rw [Lib.cell_of_heap h1.res];rfl
  have z3:W.cell? ⟨b,3,none⟩=some (.slice none 0 0):=by rw [Lib.cell_of_heap h1.res];rfl
  have z4:W.cell? ⟨b,4,none⟩=some (.int .i64 0):=by rw [Lib.cell_of_heap h1.res];rfl
  clear h1 hbb h ht c0 c1 c2 c3 hbl
  go_wp2_with fail
  refine (HI1.out _ H.out.f).mono ?_
  rintro e w1 ⟨rfl,rfl⟩
  clear HI1
  go_wp2_with fail
  refine (HOR.out _ H.out.f).mono ?_
  rintro e V ⟨cs,n,rfl,hrep,hn2,rfl,hF⟩
  obtain ⟨xo,xs,xn,xq,xk,xc,xp,rfl⟩:=hrep.form
  obtain ⟨u,hu,hdu⟩:=at_of hn2
  have HU:=Lib.hid hu
  have hsz:=H.out.f.size
  have hbW:b < W.heap.size:=row_lt H.out.res
  have HREP:=Lib.hid hrep
  have H:=Lib.hid (H.out.fr hF)
  have HWV:=Lib.hid hF.size
  clear hF HOR k0 k1 k2 k3 kf e0 e1 e2 e3 e4 ef z0 z1 z2 z3 z4 zf hu hrep
  have zf:∀ i,V.frozen? ⟨b,i,none⟩=false:=fun i=>Lib.frozen_of_heap H.out.res i
  have z0:V.cell? ⟨b,0,none⟩=some (.int .i64 0):=by rw [Lib.cell_of_heap H.out.res];rfl
  have z1:V.cell? ⟨b,1,none⟩=some (.string ⟨#[]⟩):=by rw [Lib.cell_of_heap H.out.res];rfl
  have z2:V.cell? ⟨b,2,none⟩=some (.int .i64 0):=by rw [Lib.cell_of_heap H.out.res];rfl
  have z3:V.cell? ⟨b,3,none⟩=some (.slice none 0 0):=by rw [Lib.cell_of_heap H.out.res];rfl
  have z4:V.cell? ⟨b,4,none⟩=some (.int .i64 0):=by rw [Lib.cell_of_heap H.out.res];rfl
  have ef:∀ i,V.frozen? ⟨(b+1+1),i,none⟩=false:=fun i=>Lib.frozen_of_heap H.out.ex i
  have e0:V.cell? ⟨(b+1+1),0,none⟩=some (.int .i64 0):=by rw [Lib.cell_of_heap H.out.ex];rfl
  have e1:V.cell? ⟨(b+1+1),1,none⟩=some (.string ⟨#[]⟩):=by rw [Lib.cell_of_heap H.out.ex];rfl
  have e2:V.cell? ⟨(b+1+1),2,none⟩=some (.int .i64 0):=by rw [Lib.cell_of_heap H.out.ex];rfl
  have e3:V.cell? ⟨(b+1+1),3,none⟩=some (.slice none 0 0):=by rw [Lib.cell_of_heap H.out.ex];rfl
  have e4:V.cell? ⟨(b+1+1),4,none⟩=some (.int .i64 tp):=by rw [Lib.cell_of_heap H.out.ex];rfl
  have hbV:b < V.heap.size:=row_lt H.out.res
  have hbV2:b+1+1 < V.heap.size:=row_lt H.out.ex
  have hn0:(0:Int) ≤ (n:Int):=by omega
  have hn9:n ≤ 1000000:=by omega
  cases h41:Pol.is (l.drop n) 4 [41] with
  | false =>
   have HI2:Hid (∀ V,Fr [] w V → Calls Tryz.prog 22 #[.slice (some ad) l.length cap,.int .i64 n,.int .i64 4,.string ⟨#[41]⟩] V fun e w'=>e=.returned (.bool false) ∧ V=w'):=fun V hV=>ref_isB V ad cap l n _ 4 ⟨#[41]⟩ [41] (by kernel_rfl) false (HTL.out.fr hV) hn2 rfl h41
   have hres:Pol.inner (.ok (x,l.drop n))=.error (u.p,120):=by
    unfold Pol.inner Pol.must;simp only [h41,if_false,Bool.false_eq_true];rw [hdu];rfl
   have HRES:=Lib.hid hres
   clear h41 hres hdu
   go_wp2_with fail
   refine (HI2.out _ (H.out.f.alloc _)).mono ?_
   rintro e w1 ⟨rfl,rfl⟩
   go_wp2_with fail
   have HT:=Lib.hid ((((((H.out.setr 0 (.int .i64 0)).setr 1 (.string ⟨#[]⟩)).setr 2 (.int .i64 0)).setr 3 (.slice none 0 0)).setr 4 (.int .i64 tp)).fr ((Fr.refl [] _).alloc (.cells #[.int .i64 xo,.string xs,.int .i64 xn,.slice xq xk xc,.int .i64 xp] 42)))
   refine bodyPost_ret (results_cell_tmp2 rfl _ _ b _ _ (0,0) _ rfl HT.out.res Tryz.underlying42 rfl (by kernel_rfl)) rfl ?_
   rw [HRES.out]
   exact PaDone.err (cs:=[_,_,_,_,_]) rfl ⟨_,_,_,_,_,_,_,rfl⟩ HU.out (by decide) HT.out.f
  | true =>
   have HI2:Hid (∀ V,Fr [] w V → Calls Tryz.prog 22 #[.slice (some ad) l.length cap,.int .i64 n,.int .i64 4,.string ⟨#[41]⟩] V fun e w'=>e=.returned (.bool true) ∧ V=w'):=fun V hV=>ref_isB V ad cap l n _ 4 ⟨#[41]⟩ [41] (by kernel_rfl) true (HTL.out.fr hV) hn2 rfl h41
   have hres:Pol.inner (.ok (x,l.drop n))=.ok (x,l.drop (n+1)):=by
    unfold Pol.inner Pol.must;simp only [h41,if_true];rw [List.tail_drop]
   have hn3:n+1 < l.length:=next_lt HTL.out.ends HU.out (by
    rw [hdu] at h41
    simp only [Pol.is,Bool.and_eq_true,beq_iff_eq] at h41
    rw [h41.1];decide)
   have HRES:=Lib.hid hres
   clear h41 hres hdu
   go_wp2_with fail
   refine (HI2.out _ (H.out.f.alloc _)).mono ?_
   rintro e w1 ⟨rfl,rfl⟩
   go_wp2_with fail
   have HT:=Lib.hid ((((((H.out.setr 0 (.int .i64 xo)).setr 1 (.string xs)).setr 2 (.int .i64 xn)).setr 3 (.slice xq xk xc)).setr 4 (.int .i64 xp)).fr ((Fr.refl [] _).alloc (.cells #[.int .i64 xo,.string xs,.int .i64 xn,.slice xq xk xc,.int .i64 xp] 42)))
   have HREP2:=Lib.hid ((rep_set5 HREP.out (.cells #[.int .i64 xo,.string xs,.int .i64 xn,.slice xq xk xc,.int .i64 xp] 42) b (by omega) (.int .i64 xo) (.string xs) (.int .i64 xn) (.slice xq xk xc) (.int .i64 xp)).mono (E:=fun g=>w.heap.size ≤ g) (fun g _ h=>Nat.le_trans hsz h))
   refine bodyPost_ret (results_cell_tmp2 rfl _ _ b _ _ (0,0) _ rfl HT.out.res Tryz.underlying42 rfl (by kernel_rfl)) rfl ?_
   rw [HRES.out]
   exact PaDone.yes (cs:=[_,_,_,_,_]) rfl HREP2.out hn3 HT.out.f
end Go.Proofs.YtgklmpooonnmiaaGreatDoor
