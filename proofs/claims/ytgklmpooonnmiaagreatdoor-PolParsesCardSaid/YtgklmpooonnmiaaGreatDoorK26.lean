/-
  Lemmas and contracts that the proofs over this seat use (LexScan, PolRules, PolCatch, PolParse); no statement of the seat is claimed in this text, and nothing is assumed in it.
-/
import Derived.Test.YtgklmpooonnmiaaGreatDoorK21
import Derived.Test.YtgklmpooonnmiaaGreatDoorK4
import Derived.Test.YtgklmpooonnmiaaGreatDoorK14
import Derived.Test.YtgklmpooonnmiaaGreatDoorK8
import Derived.Recover
import Derived.Defers
import Derived.BigRegion
set_option linter.unusedVariables false
set_option linter.unusedSimpArgs false
namespace Go.Proofs.YtgklmpooonnmiaaGreatDoor
open Go.RowKit
set_option maxHeartbeats 8000000 in
set_option maxRecDepth 100000 in
theorem lex_scan (w:World) (s:ByteArray) (hs:s.size ≤ maxLen) (hL:Least w) :
  Calls Tryz.prog 16 #[.string s] w fun e w'=>∃ v ev,e=.returned (.tuple #[v,ev]) ∧ w'.ownsRow w.heap.size 54 4 v (Lex.scan s).2.length (toks (Lex.scan s).2) ∧ ErV w' w.heap.size (Lex.scan s).1 ev ∧ Fr [] w w':=by
 unfold maxLen at hs
 by_cases hlong:2048 < s.size
 ·have hE:Hid (Lex.scan s=(.no 2,[])):=by show _=_;unfold Lex.scan;rw [if_pos hlong]
  have hl':(s.size:Int) > 2048:=by omega
  go_enter Tryz.func16,Tryz.ntmps16
  go_wp2
  refine bodyPost_ret (results_tmp2 rfl _ _ _) rfl ?_
  rw [hE.out]
  exact ⟨_,_,rfl,ownsRow_nil _ _ _ _,rfl,Fr.refl _ _⟩
 have hE:Hid (Lex.scan s=Lex.scanFrom s (Lex.skipTo (bn s) s.size 0) []):=by show _=_;unfold Lex.scan;rw [if_neg hlong]
 have hl':¬ (s.size:Int) > 2048:=by omega
 obtain ⟨R,hR⟩:∃ R,Hid (Lex.scan s=R):=⟨_,rfl⟩
 rw [hR.out] at hE ⊢
 have hs2:s.size ≤ 1000000:=by omega
 have HL:=Lib.hid hL
 have hwl:1 < w.heap.size:=by obtain ⟨_,_,h⟩:=hL;exact row_lt h
 clear hL hlong
 go_enter Tryz.func16,Tryz.ntmps16
 go_wp2_with fail
 have hsc0:Sc (w.alloc (.cells #[.string s,.int .i64 0,.slice none 0 0] 89)) w.heap.size s 0 (.slice none 0 0):=heap_alloc_last _ _
 have hss0:SS w w.heap.size s 0 (.slice none 0 0) [] (w.alloc (.cells #[.string s,.int .i64 0,.slice none 0 0] 89)):=⟨hsc0,(Fr.refl _ _).alloc _,ownsRow_nil _ _ _ _,Nat.le_refl _⟩
 obtain ⟨b,hb⟩:∃ b,w.heap.size=b:=⟨_,rfl⟩
 rw [hb] at hsc0 hss0 ⊢
 have HSS:=Lib.hid hss0
 refine (lex_skip _ b s 0 _ hs2 (Nat.zero_le _) hsc0).mono ?_
 rintro e W1 ⟨rfl,hsc1,hf1⟩
 have H:=Lib.hid (HSS.out.step hf1 hsc1)
 have HB:=Lib.hid hb
 have hgl:1 ≠ b:=by omega
 clear HSS hsc0 hss0 hsc1 hf1 hb
 show _
 go_wp2_with fail
 go_loopg [5,6,7] (s.size - Lex.skipTo (bn s) s.size 0) (fun q _ _ _ W=>∃ (k:Nat) (lv:Value) (l:List Tk),k ≤ s.size ∧ q=s.size - k ∧ Hid (Lex.scanFrom s k l=R) ∧ Hid (SS w b s k lv l W) ∧ Hid (l.length ≤ 512))
 case atStart=>exact ⟨_,_,[],(Lex.skipTo_ge _ _ _ (Nat.zero_le _)).2,rfl,hE.out.symm,H,Nat.zero_le _⟩
 case round =>
  clear H hE hR
  obtain ⟨k,lv,l,hk,hq,HE,H,HLL⟩:=hrel
  have HQ:=Lib.hid hq
  clear hq
  have c1:=H.out.sc.c1
  by_cases hlt:k < s.size
  ·have hlt':(k:Int) < (s.size:Int):=by omega
   obtain ⟨r,hr⟩:∃ r,Hid (Lex.token s k=r):=⟨_,rfl⟩
   go_wp2_with fail
   refine (lex_token wr b s k lv hs2 hlt H.out.sc (HL.out.fr H.out.f (by simp)) hgl).mono ?_
   rintro e W2 ⟨tv,ev,rfl,ht⟩
   rw [hr.out] at ht
   have HLE:=Lib.hid H.out.f.size
   cases r with
   | bad p n =>
    obtain ⟨⟨t,rfl⟩,hv,hf⟩:=ht
    obtain ⟨tk,tss,tn,tp⟩:=t
    have hcs:(Tk.c ⟨tk,tss,tn,tp⟩).toArray=#[.int .i64 (tk:Nat),.string tss,.int .i64 tn,.int .i64 (tp:Nat)]:=rfl
    rw [hcs]
    clear hcs
    have HX:Hid (R=(.pl p n,[])):=by show _=_;rw [← HE.out,Lex.scanFrom,if_pos hlt,hr.out]
    obtain ⟨bb,hbb,rfl,hrow⟩:=hv
    have HROW:=Lib.hid hrow
    have HF:Hid (Fr [] w W2):=H.out.f.trans1 hf (.inr H.out.ge)
    clear hf hrow c1
    go_wp2_with fail
    refine bodyPost_ret (results_tmp2 rfl _ _ _) rfl ?_
    rw [HX.out]
    exact ⟨_,_,rfl,ownsRow_nil _ _ _ _,⟨bb,Nat.le_trans HLE.out hbb,rfl,((Fr.refl [] W2).alloc _).row HROW.out (by simp)⟩,HF.out.alloc _⟩
   | ok t m =>
    obtain ⟨rfl,rfl,hsc,hf⟩:=ht
    obtain ⟨tk,tss,tn,tp⟩:=t
    have hcs:(Tk.c ⟨tk,tss,tn,tp⟩).toArray=#[.int .i64 (tk:Nat),.string tss,.int .i64 tn,.int .i64 (tp:Nat)]:=rfl
    rw [hcs]
    clear hcs
    have HX:Hid (R=if l.length=512 then (.pl k 53,[]) else Lex.scanFrom s (Lex.skipTo (bn s) s.size (max m (k+1))) (l ++ [⟨tk,tss,tn,tp⟩])):=by show _=_;rw [← HE.out];conv=>lhs;rw [Lex.scanFrom,if_pos hlt,hr.out]
    have hbd:=Lex.token_bounds s k hlt _ m hr.out
    have H:=Lib.hid (H.out.step hf hsc)
    obtain ⟨lp,lc,rfl⟩:=own_form H.out.own
    have c2:=H.out.sc.c2
    have hl9:l.length ≤ 512:=HLL.out
    have hbl:b < W2.heap.size:=H.out.sc.lt
    have hbn:¬ b=W2.heap.size:=by omega
    have hbn2:¬ W2.heap.size=b:=by omega
    clear hsc hf c1
    by_cases h512:l.length=512
    ·have h512':((l.length:Int) == 512)=true:=beq_iff_eq.2 (by omega)
     have HX2:Hid (R=(.pl k 53,[])):=by show _=_;rw [HX.out,if_pos h512]
     clear h512
     go_wp2_with fail
     refine (lex_fault _ k 53).mono ?_
     rintro e W3 ⟨v,rfl,hv,hf⟩
     have HV:=Lib.hid hv
     have HF:Hid (Fr [] w W3):=(H.out.f.alloc _).trans0 hf
     have HS2:Hid (w.heap.size ≤ W2.heap.size):=H.out.f.size
     clear hv hf c2
     go_wp2_with fail
     refine bodyPost_ret (results_tmp2 rfl _ _ _) rfl ?_
     rw [HX2.out]
     exact ⟨_,_,rfl,ownsRow_nil _ _ _ _,HV.out.base (by have:=HS2.out;simp;omega),HF.out⟩
    ·have h512':((l.length:Int) == 512)=false:=beq_eq_false_iff_ne.2 (by omega)
     have hl511:l.length < 512:=by omega
     have HX2:Hid (R=Lex.scanFrom s (Lex.skipTo (bn s) s.size (max m (k+1))) (l ++ [⟨tk,tss,tn,tp⟩])):=by show _=_;rw [HX.out,if_neg h512]
     go_wp2_with fail
     obtain ⟨gt,hgt⟩:∃ gt,W2.heap.size=gt:=⟨_,rfl⟩
     have hne9:(Value.slice lp l.length lc).ownBlock ≠ some gt:=by
      rcases H.out.own.2 with ⟨hv,_⟩ | ⟨g,cap,cur,hv,_,hg,_⟩
      ·rw [hv];simp [Value.ownBlock]
      ·rw [hv];have:=row_lt hg;simp [Value.ownBlock];omega
     have hsn:=own_ne_sc H.out
     refine wp_fresh (fun V=>SS w b s m (.slice lp l.length lc) l V ∧ V.heap[gt]?=some (.cells #[.int .i64 (tk:Nat),.string tss,.int .i64 tn,.int .i64 (tp:Nat)] 54 (0,0))) ⟨H.out.fr ((Fr.refl _ _).alloc _),by rw [← hgt];exact heap_alloc_last _ _⟩ ?_
     rintro V ⟨h1,h2⟩
     rw [hgt]
     have H:=Lib.hid h1
     have HT:=Lib.hid h2
     have hbg:b ≠ gt:=by omega
     have hgb:gt ≠ b:=by omega
     have HNE:=Lib.hid hne9
     have HSN:=Lib.hid hsn
     clear h1 h2 c2 hbl hbn hbn2 hgt hne9 hsn h512'
     have c2:=H.out.sc.c2
     have hbl:b < V.heap.size:=H.out.sc.lt
     have hgl:gt < V.heap.size:=row_lt HT.out
     have t0:V.cell? ⟨gt,0,none⟩=some (.int .i64 (tk:Nat)):=by rw [Lib.cell_of_heap HT.out];rfl
     have t1:V.cell? ⟨gt,1,none⟩=some (.string tss):=by rw [Lib.cell_of_heap HT.out];rfl
     have t2:V.cell? ⟨gt,2,none⟩=some (.int .i64 tn):=by rw [Lib.cell_of_heap HT.out];rfl
     have t3:V.cell? ⟨gt,3,none⟩=some (.int .i64 (tp:Nat)):=by rw [Lib.cell_of_heap HT.out];rfl
     have hl10:l.length < 1000000:=by omega
     go_wp2_with fail
     refine wp_region_held_drew (S:=fun W'=>W'.cell? ⟨gt,0,none⟩=some (.int .i64 (tk:Nat)) ∧ W'.cell? ⟨gt,1,none⟩=some (.string tss) ∧ W'.cell? ⟨gt,2,none⟩=some (.int .i64 tn) ∧ W'.cell? ⟨gt,3,none⟩=some (.int .i64 (tp:Nat))) (by kernel_rfl) (by first | go_keep | exact ⟨hg.cell t0 HNE.out.symm,hg.cell t1 HNE.out.symm,hg.cell t2 HNE.out.symm,hg.cell t3 HNE.out.symm⟩ | ((try dsimp only);(repeat' apply And.intro) <;> go_keep)) (fun hHeld=>?_)
     refine held_take (i:=0) (v:=?_) 46 rfl rfl (by kernel_rfl) (by kernel_rfl) (by kernel_rfl) (fun _ _ _ h=>h) (Or.inl ⟨by rfl,?_⟩) (by assumption) ?_
     rotate_left 1
     ·intro w hSw;(try dsimp only at hSw);go_simp;try (with_reducible rfl)
     try simp only [Act.put,List.setIfInBounds_toArray,List.set_cons_zero,List.set_cons_succ]
     refine held_take (i:=1) (v:=?_) 47 rfl rfl (by kernel_rfl) (by kernel_rfl) (by kernel_rfl) (fun _ _ _ h=>h) (Or.inl ⟨by rfl,?_⟩) (by assumption) ?_
     rotate_left 1
     ·intro w hSw;(try dsimp only at hSw);go_simp;try (with_reducible rfl)
     try simp only [Act.put,List.setIfInBounds_toArray,List.set_cons_zero,List.set_cons_succ]
     refine held_take (i:=2) (v:=?_) 48 rfl rfl (by kernel_rfl) (by kernel_rfl) (by kernel_rfl) (fun _ _ _ h=>h) (Or.inl ⟨by rfl,?_⟩) (by assumption) ?_
     rotate_left 1
     ·intro w hSw;(try dsimp only at hSw);go_simp;try (with_reducible rfl)
     try simp only [Act.put,List.setIfInBounds_toArray,List.set_cons_zero,List.set_cons_succ]
     refine held_take (i:=3) (v:=?_) 49 rfl rfl (by kernel_rfl) (by kernel_rfl) (by kernel_rfl) (fun _ _ _ h=>h) (Or.inl ⟨by rfl,?_⟩) (by assumption) ?_
     rotate_left 1
     ·intro w hSw;(try dsimp only at hSw);go_simp;try (with_reducible rfl)
     try simp only [Act.put,List.setIfInBounds_toArray,List.set_cons_zero,List.set_cons_succ]
     refine held_take (i:=5) (v:=?_) 51 rfl rfl (by kernel_rfl) (by kernel_rfl) (by kernel_rfl) (fun _ _ _ h=>h) (Or.inl ⟨by rfl,?_⟩) (by assumption) ?_
     rotate_left 1
     ·intro w hSw;(try dsimp only at hSw);go_simp;try (with_reducible rfl)
     try simp only [Act.put,List.setIfInBounds_toArray,List.set_cons_zero,List.set_cons_succ]
     refine wpAnyH_ready (rs:=[4,6]) (by kernel_rfl) (by simp) ?_
     refine AllReadyH.cons rfl (fun K hK=>?_) (AllReadyH.cons rfl (fun K hK=>?_) AllReadyH.nil)
     go_simp
     refine hK.out _ _ (by first | go_keep | exact ⟨hg.cell t0 HNE.out.symm,hg.cell t1 HNE.out.symm,hg.cell t2 HNE.out.symm,hg.cell t3 HNE.out.symm⟩ | ((try dsimp only);(repeat' apply And.intro) <;> go_keep)) (fun hHeld=>?_)
     clear hK K
     try simp only [Act.put,List.setIfInBounds_toArray,List.set_cons_zero,List.set_cons_succ]
     refine wpAnyH_ready (rs:=[6]) (by kernel_rfl) (by simp) ?_
     refine AllReadyH.cons rfl (fun K hK=>?_) AllReadyH.nil
     go_simp
     refine hK.out _ _ (by first | go_keep | exact ⟨hg.cell t0 HNE.out.symm,hg.cell t1 HNE.out.symm,hg.cell t2 HNE.out.symm,hg.cell t3 HNE.out.symm⟩ | ((try dsimp only);(repeat' apply And.intro) <;> go_keep)) (fun hHeld=>?_)
     clear hK K
     try simp only [Act.put,List.setIfInBounds_toArray,List.set_cons_zero,List.set_cons_succ]
     refine wpAnyH_ready (rs:=[7]) (by kernel_rfl) (by simp) ?_
     refine AllReadyH.cons rfl (fun K hK=>?_) AllReadyH.nil
     refine stepTok (by rfl) (.tmp 50) (.tmp 52) (by rfl) w.heap.size (.slice lp l.length lc) l ⟨tk,tss,tn,tp⟩ (w:=V) (by rfl) (by rfl) (by rfl) H.out.own H.out.f.size hl10 ?_
     intro g9 c9 w9 ho hg
     have q2:=hg.cell c2 HSN.out.symm
     have s0:=hg.cell t0 HNE.out.symm
     have s1:=hg.cell t1 HNE.out.symm
     have s2:=hg.cell t2 HNE.out.symm
     have s3:=hg.cell t3 HNE.out.symm
     have fz:w9.frozen? ⟨b,2,none⟩=false:=(World.frozen?_of_block (w:=V) (a:=⟨b,2,none⟩) (hg.block b hbl HSN.out.symm)).trans (H.out.sc.fz 2)
     refine hK.out _ _ (by first | go_keep | exact ⟨hg.cell t0 HNE.out.symm,hg.cell t1 HNE.out.symm,hg.cell t2 HNE.out.symm,hg.cell t3 HNE.out.symm⟩ | ((try dsimp only);(repeat' apply And.intro) <;> go_keep)) (fun hHeld=>?_)
     clear hK K
     try simp only [Act.put,List.setIfInBounds_toArray,List.set_cons_zero,List.set_cons_succ]
     refine held_take (i:=8) (v:=?_) 54 rfl rfl (by kernel_rfl) (by kernel_rfl) (by kernel_rfl) (fun _ _ _ h=>h) (Or.inl ⟨by rfl,?_⟩) (by assumption) ?_
     rotate_left 1
     ·intro w hSw;(try dsimp only at hSw);go_simp;try (with_reducible rfl)
     try simp only [Act.put,List.setIfInBounds_toArray,List.set_cons_zero,List.set_cons_succ]
     refine held_take (i:=9) (v:=?_) 55 rfl rfl (by kernel_rfl) (by kernel_rfl) (by kernel_rfl) (fun _ _ _ h=>h) (Or.inl ⟨by rfl,?_⟩) (by assumption) ?_
     rotate_left 1
     ·intro w hSw;(try dsimp only at hSw);go_simp;try (with_reducible rfl)
     try simp only [Act.put,List.setIfInBounds_toArray,List.set_cons_zero,List.set_cons_succ]
     refine wpAnyH_ready (rs:=[10]) (by kernel_rfl) (by simp) ?_
     refine AllReadyH.cons rfl (fun K hK=>?_) AllReadyH.nil
     go_simp
     refine hK.out _ _ (by first | go_keep | exact ⟨hg.cell t0 HNE.out.symm,hg.cell t1 HNE.out.symm,hg.cell t2 HNE.out.symm,hg.cell t3 HNE.out.symm⟩ | ((try dsimp only);(repeat' apply And.intro) <;> go_keep)) (fun hHeld=>?_)
     clear hK K
     try simp only [Act.put,List.setIfInBounds_toArray,List.set_cons_zero,List.set_cons_succ]
     refine wpAnyH_done (by kernel_rfl) ?_ _
     rotate_left 1
     go_simp
     refine hK.out _ _ (by first | go_keep | exact ⟨hg.cell t0 HNE.out.symm,hg.cell t1 HNE.out.symm,hg.cell t2 HNE.out.symm,hg.cell t3 HNE.out.symm⟩ | ((try dsimp only);(repeat' apply And.intro) <;> go_keep)) (fun hHeld=>?_)
     clear hK K
     try simp only [Act.put,List.setIfInBounds_toArray,List.set_cons_zero,List.set_cons_succ]
     refine wpAnyH_ready (rs:=[4]) (by kernel_rfl) (by simp) ?_
     refine AllReadyH.cons rfl (fun K hK=>?_) AllReadyH.nil
     go_simp
     refine hK.out _ _ (by first | go_keep | exact ⟨hg.cell t0 HNE.out.symm,hg.cell t1 HNE.out.symm,hg.cell t2 HNE.out.symm,hg.cell t3 HNE.out.symm⟩ | ((try dsimp only);(repeat' apply And.intro) <;> go_keep)) (fun hHeld=>?_)
     clear hK K
     try simp only [Act.put,List.setIfInBounds_toArray,List.set_cons_zero,List.set_cons_succ]
     refine wpAnyH_ready (rs:=[7]) (by kernel_rfl) (by simp) ?_
     refine AllReadyH.cons rfl (fun K hK=>?_) AllReadyH.nil
     refine stepTok (by rfl) (.tmp 50) (.tmp 52) (by rfl) w.heap.size (.slice lp l.length lc) l ⟨tk,tss,tn,tp⟩ (w:=V) (by rfl) (by rfl) (by rfl) H.out.own H.out.f.size hl10 ?_
     intro g9 c9 w9 ho hg
     have q2:=hg.cell c2 HSN.out.symm
     have s0:=hg.cell t0 HNE.out.symm
     have s1:=hg.cell t1 HNE.out.symm
     have s2:=hg.cell t2 HNE.out.symm
     have s3:=hg.cell t3 HNE.out.symm
     have fz:w9.frozen? ⟨b,2,none⟩=false:=(World.frozen?_of_block (w:=V) (a:=⟨b,2,none⟩) (hg.block b hbl HSN.out.symm)).trans (H.out.sc.fz 2)
     refine hK.out _ _ (by first | go_keep | exact ⟨hg.cell t0 HNE.out.symm,hg.cell t1 HNE.out.symm,hg.cell t2 HNE.out.symm,hg.cell t3 HNE.out.symm⟩ | ((try dsimp only);(repeat' apply And.intro) <;> go_keep)) (fun hHeld=>?_)
     clear hK K
     try simp only [Act.put,List.setIfInBounds_toArray,List.set_cons_zero,List.set_cons_succ]
     refine held_take (i:=8) (v:=?_) 54 rfl rfl (by kernel_rfl) (by kernel_rfl) (by kernel_rfl) (fun _ _ _ h=>h) (Or.inl ⟨by rfl,?_⟩) (by assumption) ?_
     rotate_left 1
     ·intro w hSw;(try dsimp only at hSw);go_simp;try (with_reducible rfl)
     try simp only [Act.put,List.setIfInBounds_toArray,List.set_cons_zero,List.set_cons_succ]
     refine held_take (i:=9) (v:=?_) 55 rfl rfl (by kernel_rfl) (by kernel_rfl) (by kernel_rfl) (fun _ _ _ h=>h) (Or.inl ⟨by rfl,?_⟩) (by assumption) ?_
     rotate_left 1
     ·intro w hSw;(try dsimp only at hSw);go_simp;try (with_reducible rfl)
     try simp only [Act.put,List.setIfInBounds_toArray,List.set_cons_zero,List.set_cons_succ]
     refine wpAnyH_ready (rs:=[10]) (by kernel_rfl) (by simp) ?_
     refine AllReadyH.cons rfl (fun K hK=>?_) AllReadyH.nil
     go_simp
     refine hK.out _ _ (by first | go_keep | exact ⟨hg.cell t0 HNE.out.symm,hg.cell t1 HNE.out.symm,hg.cell t2 HNE.out.symm,hg.cell t3 HNE.out.symm⟩ | ((try dsimp only);(repeat' apply And.intro) <;> go_keep)) (fun hHeld=>?_)
     clear hK K
     try simp only [Act.put,List.setIfInBounds_toArray,List.set_cons_zero,List.set_cons_succ]
     refine wpAnyH_done (by kernel_rfl) ?_ _
     rotate_left 1
     all_goals
      have HN:=Lib.hid (H.out.grow ho hg)
      have hsc9:=HN.out.sc
      have hmk:Hid (max m (k+1)=m):=by show _=_;omega
      have hms:m ≤ s.size:=hbd.2
      clear ho hg q2 s0 s1 s2 s3 fz t0 t1 t2 t3 c2
      go_wp2_with fail
      refine (lex_skip _ b s m _ hs2 hms hsc9).mono ?_
      rintro e W5 ⟨rfl,hsc5,hf5⟩
      have H5:=Lib.hid (HN.out.step hf5 hsc5)
      clear hsc5 hf5 hsc9
      go_wp2_with fail
      have hsk:=Lex.skipTo_self (bn s) s.size m
      go_roundg (s.size - Lex.skipTo (bn s) s.size m)
      case measure=>have:=HQ.out;omega
      case rel=>exact ⟨_,_,_,(Lex.skipTo_ge _ _ _ hms).2,rfl,by show _=R;rw [HX2.out,hmk.out],H5,by show _ ≤ 512;simp;omega⟩
  ·have hlt':¬ (k:Int) < (s.size:Int):=by omega
   have c2:=H.out.sc.c2
   have HX:Hid (R=(.ok,l ++ [⟨5,⟨#[]⟩,0,s.size⟩])):=by show _=_;rw [← HE.out,Lex.scanFrom,if_neg hlt]
   have hl9:l.length < 1000000:=by have:=HLL.out;omega
   go_wp2_with (at_builtin;refine appTok rfl (.tmp 59) (.tmp 63) rfl w.heap.size lv l ⟨5,⟨#[]⟩,0,s.size⟩ _ rfl rfl rfl H.out.own H.out.f.size hl9 ?_)
   intro g9 c9 w9 ho hg
   have HO:=Lib.hid ho
   have HF:Hid (Fr [] w w9):=H.out.f.grown2 hg (own_base_ge H.out.own)
   clear ho hg c2 c1
   go_wp2_with fail
   refine bodyPost_ret (results_tmp2 rfl _ _ _) rfl ?_
   rw [HX.out]
   exact ⟨_,_,rfl,(by have:=HO.out;simpa using this),rfl,HF.out⟩
end Go.Proofs.YtgklmpooonnmiaaGreatDoor

namespace Go.Proofs.YtgklmpooonnmiaaGreatDoor
open Go.RowKit
namespace Pol
def NN (l:List TI):Prop:=∀ t ∈ l,0 ≤ t.p
theorem NN.tail {t:TI} {l:List TI} (h:NN (t :: l)):NN l:=fun u hu=>h u (List.mem_cons_of_mem _ hu)
theorem NN.tl {l:List TI} (h:NN l):NN l.tail:=fun u hu=>h u (List.mem_of_mem_tail hu)
theorem NN.place {l:List TI} (h:NN l):0 ≤ place l:=by
 cases l with
 | nil=>exact Int.le_refl _
 | cons t m=>exact h t (by simp)
def Nat0 {α:Type} (q:List TI → PR α):Prop:=∀ l,NN l → (∀ x m,q l=.ok (x,m) → NN m) ∧ (∀ p n,q l=.error (p,n) → 0 ≤ p ∧ 0 ≤ n)
theorem must_nat (s:List UInt8):Nat0 (fun l=>must l s):=fun l hl=>by
 refine ⟨fun x m h=>?_,fun p n h=>?_⟩ <;> (simp only [must] at h;split at h <;> cases h)
 ·exact hl.tl
 ·exact ⟨hl.place,by decide⟩
theorem take_nat (k:Int):Nat0 (fun l=>take l k):=fun l hl=>by
 refine ⟨fun x m h=>?_,fun p n h=>?_⟩
 ·cases l with
  | nil=>simp [take] at h
  | cons t r=>simp only [take] at h;split at h <;> cases h;exact hl.tail
 ·cases l with
  | nil=>simp [take] at h;omega
  | cons t r=>simp only [take] at h;split at h <;> cases h;exact ⟨hl _ (by simp),by decide⟩
theorem all_nat:∀ f:Nat,(∀ n,Nat0 (operand f n)) ∧ (∀ n,Nat0 (compare f n)) ∧ (∀ n,Nat0 (row f n)) ∧ (∀ n,Nat0 (not_ f n)) ∧ (∀ n e,Nat0 (andMore f n e)) ∧ (∀ n,Nat0 (and_ f n)) ∧ (∀ n e,Nat0 (orMore f n e)) ∧ (∀ n,Nat0 (or_ f n)):=by
 intro f
 induction f with
 | zero =>
  refine ⟨?_,?_,?_,?_,?_,?_,?_,?_⟩ <;> (intros;intro l hl;refine ⟨fun x m h=>?_,fun p n h=>?_⟩ <;> simp [operand,compare,row,not_,andMore,and_,orMore,or_] at h;obtain ⟨rfl,rfl⟩:=h;exact ⟨hl.place,by decide⟩)
 | succ f ih =>
  obtain ⟨i1,i2,i3,i4,i5,i6,i7,i8⟩:=ih
  refine ⟨fun n l hl=>?_,fun n l hl=>?_,fun n l hl=>?_,fun n l hl=>?_,fun n e l hl=>?_,fun n l hl=>?_,fun n e l hl=>?_,fun n l hl=>?_⟩
  ·cases l with
   | nil=>refine ⟨fun x m h=>?_,fun p n h=>?_⟩ <;> simp [operand] at h;omega
   | cons t r =>
    have hp:0 ≤ t.p:=hl t (by simp)
    have hr:=hl.tail
    rw [operand]
    split
    ·split
     ·refine ⟨fun x m h=>(by cases h),fun p n h=>?_⟩;cases h;exact ⟨hp,by decide⟩
     ·have h8:=i8 (n+1) r hr
      split
      ·rename_i e he;refine ⟨fun x m h=>(by cases h),fun p n h=>?_⟩;cases h;exact h8.2 _ _ he
      ·rename_i x m hx
       have hm:=must_nat [41] m (h8.1 _ _ hx)
       split
       ·rename_i e he;refine ⟨fun x m h=>(by cases h),fun p n h=>?_⟩;cases h;exact hm.2 _ _ he
       ·rename_i u m2 hu;refine ⟨fun x m h=>?_,fun p n h=>by cases h⟩;cases h;exact hm.1 _ _ hu
    ·split
     ·refine ⟨fun x m h=>?_,fun p n h=>by cases h⟩;cases h;exact hr
     ·split
      ·refine ⟨fun x m h=>?_,fun p n h=>by cases h⟩;cases h;exact hr
      ·split
       ·refine ⟨fun x m h=>?_,fun p n h=>by cases h⟩;cases h;exact hr
       ·split
        ·refine ⟨fun x m h=>?_,fun p n h=>by cases h⟩;cases h;exact hr
        ·split
         ·have h1:=must_nat [40] r hr
          split
          ·rename_i e he;refine ⟨fun x m h=>(by cases h),fun p n h=>?_⟩;cases h;exact h1.2 _ _ he
          ·rename_i u m hu
           have h2:=take_nat 2 m (h1.1 _ _ hu)
           split
           ·rename_i e he;refine ⟨fun x m h=>(by cases h),fun p n h=>?_⟩;cases h;exact h2.2 _ _ he
           ·rename_i u2 m2 hu2
            have h3:=must_nat [41] m2 (h2.1 _ _ hu2)
            split
            ·rename_i e he;refine ⟨fun x m h=>(by cases h),fun p n h=>?_⟩;cases h;exact h3.2 _ _ he
            ·rename_i u3 m3 hu3;refine ⟨fun x m h=>?_,fun p n h=>by cases h⟩;cases h;exact h3.1 _ _ hu3
         ·split
          ·refine ⟨fun x m h=>?_,fun p n h=>by cases h⟩;cases h;exact hr
          ·refine ⟨fun x m h=>(by cases h),fun p n h=>?_⟩;cases h;exact ⟨hp,by decide⟩
  ·have h1:=i1 n l hl
   rw [compare]
   split
   ·rename_i e he;refine ⟨fun x m h=>(by cases h),fun p n h=>?_⟩;cases h;exact h1.2 _ _ he
   ·refine ⟨fun x m h=>(by cases h),fun p n h=>?_⟩;cases h;exact ⟨by decide,by decide⟩
   ·rename_i a t r ha
    have hm0:=h1.1 _ _ ha
    have hr:=hm0.tail
    have h2:=i1 n r hr
    split
    ·split
     ·refine ⟨fun x m h=>?_,fun p n h=>by cases h⟩;cases h;exact hm0
     ·split
      ·rename_i e he;refine ⟨fun x m h=>(by cases h),fun p n h=>?_⟩;cases h;exact h2.2 _ _ he
      ·rename_i b m2 hb;refine ⟨fun x m h=>?_,fun p n h=>by cases h⟩;cases h;exact h2.1 _ _ hb
    ·split
     ·split
      ·rename_i e he;refine ⟨fun x m h=>(by cases h),fun p n h=>?_⟩;cases h;exact h2.2 _ _ he
      ·rename_i b m2 hb;refine ⟨fun x m h=>?_,fun p n h=>by cases h⟩;cases h;exact h2.1 _ _ hb
     ·split
      ·have h3:=must_nat [91] r hr
       split
       ·rename_i e he;refine ⟨fun x m h=>(by cases h),fun p n h=>?_⟩;cases h;exact h3.2 _ _ he
       ·rename_i u m2 hu
        have h4:=i3 n m2 (h3.1 _ _ hu)
        split
        ·rename_i e he;refine ⟨fun x m h=>(by cases h),fun p n h=>?_⟩;cases h;exact h4.2 _ _ he
        ·rename_i L m3 hL
         have h5:=must_nat [93] m3 (h4.1 _ _ hL)
         split
         ·rename_i e he;refine ⟨fun x m h=>(by cases h),fun p n h=>?_⟩;cases h;exact h5.2 _ _ he
         ·rename_i u3 m4 hu3;refine ⟨fun x m h=>?_,fun p n h=>by cases h⟩;cases h;exact h5.1 _ _ hu3
      ·refine ⟨fun x m h=>?_,fun p n h=>by cases h⟩;cases h;exact hm0
  ·have h1:=i1 n l hl
   rw [row]
   split
   ·rename_i e he;refine ⟨fun x m h=>(by cases h),fun p n h=>?_⟩;cases h;exact h1.2 _ _ he
   ·rename_i x m hx
    have hm:=h1.1 _ _ hx
    split
    ·have h2:=i3 n m.tail hm.tl
     split
     ·rename_i e he;refine ⟨fun x m h=>(by cases h),fun p n h=>?_⟩;cases h;exact h2.2 _ _ he
     ·rename_i L m2 hL;refine ⟨fun x m h=>?_,fun p n h=>by cases h⟩;cases h;exact h2.1 _ _ hL
    ·refine ⟨fun x m h=>?_,fun p n h=>by cases h⟩;cases h;exact hm
  ·rw [not_]
   split
   ·split
    ·refine ⟨fun x m h=>(by cases h),fun p n h=>?_⟩;cases h;exact ⟨hl.place,by decide⟩
    ·have h2:=i4 (n+1) l.tail hl.tl
     split
     ·rename_i e he;refine ⟨fun x m h=>(by cases h),fun p n h=>?_⟩;cases h;exact h2.2 _ _ he
     ·rename_i x m hx;refine ⟨fun x m h=>?_,fun p n h=>by cases h⟩;cases h;exact h2.1 _ _ hx
   ·exact i2 n l hl
  ·rw [andMore]
   split
   ·have h2:=i4 n l.tail hl.tl
    split
    ·rename_i e he;refine ⟨fun x m h=>(by cases h),fun p n h=>?_⟩;cases h;exact h2.2 _ _ he
    ·rename_i x m hx;exact i5 _ _ _ (h2.1 _ _ hx)
   ·refine ⟨fun x m h=>?_,fun p n h=>by cases h⟩;cases h;exact hl
  ·have h2:=i4 n l hl
   rw [and_]
   split
   ·rename_i e he;refine ⟨fun x m h=>(by cases h),fun p n h=>?_⟩;cases h;exact h2.2 _ _ he
   ·rename_i x m hx;exact i5 _ _ _ (h2.1 _ _ hx)
  ·rw [orMore]
   split
   ·have h2:=i6 n l.tail hl.tl
    split
    ·rename_i e he;refine ⟨fun x m h=>(by cases h),fun p n h=>?_⟩;cases h;exact h2.2 _ _ he
    ·rename_i x m hx;exact i7 _ _ _ (h2.1 _ _ hx)
   ·refine ⟨fun x m h=>?_,fun p n h=>by cases h⟩;cases h;exact hl
  ·have h2:=i6 n l hl
   rw [or_]
   split
   ·rename_i e he;refine ⟨fun x m h=>(by cases h),fun p n h=>?_⟩;cases h;exact h2.2 _ _ he
   ·rename_i x m hx;exact i7 _ _ _ (h2.1 _ _ hx)
theorem texts_nat:∀ f,Nat0 (texts f):=by
 intro f
 induction f with
 | zero=>intro l hl;refine ⟨fun x m h=>?_,fun p n h=>?_⟩ <;> simp [texts] at h;obtain ⟨rfl,rfl⟩:=h;exact ⟨hl.place,by decide⟩
 | succ f ih =>
  intro l hl
  have h1:=take_nat 2 l hl
  rw [texts]
  split
  ·rename_i e he;refine ⟨fun x m h=>(by cases h),fun p n h=>?_⟩;cases h;exact h1.2 _ _ he
  ·rename_i x m hx
   have hm:=h1.1 _ _ hx
   split
   ·have h2:=ih m.tail hm.tl
    split
    ·rename_i e he;refine ⟨fun x m h=>(by cases h),fun p n h=>?_⟩;cases h;exact h2.2 _ _ he
    ·rename_i L m2 hL;refine ⟨fun x m h=>?_,fun p n h=>by cases h⟩;cases h;exact h2.1 _ _ hL
   ·refine ⟨fun x m h=>?_,fun p n h=>by cases h⟩;cases h;exact hm
theorem rule_nat (f:Nat):Nat0 (rule f):=by
 intro l hl
 unfold rule
 split
 ·unfold ruleTail
  have h1:(∀ x m,scopesOf f l.tail=.ok (x,m) → NN m) ∧ (∀ p n,scopesOf f l.tail=.error (p,n) → 0 ≤ p ∧ 0 ≤ n):=by
   unfold scopesOf
   split
   ·exact texts_nat f _ hl.tl.tl
   ·refine ⟨fun x m h=>?_,fun p n h=>by cases h⟩;cases h;exact hl.tl
  split
  ·rename_i e he;refine ⟨fun x m h=>(by cases h),fun p n h=>?_⟩;cases h;exact h1.2 _ _ he
  ·rename_i S m hS
   have hm:=h1.1 _ _ hS
   unfold ruleWhen
   have h2:(∀ x m',whenOf f m=.ok (x,m') → NN m') ∧ (∀ p n,whenOf f m=.error (p,n) → 0 ≤ p ∧ 0 ≤ n):=by
    unfold whenOf
    split
    ·have h3:=(all_nat f).2.2.2.2.2.2.2 0 m.tail hm.tl
     split
     ·rename_i e he;refine ⟨fun x m h=>(by cases h),fun p n h=>?_⟩;cases h;exact h3.2 _ _ he
     ·rename_i x m2 hx;refine ⟨fun x m h=>?_,fun p n h=>by cases h⟩;cases h;exact h3.1 _ _ hx
    ·refine ⟨fun x m h=>?_,fun p n h=>by cases h⟩;cases h;exact hm
   split
   ·rename_i e he;refine ⟨fun x m h=>(by cases h),fun p n h=>?_⟩;cases h;exact h2.2 _ _ he
   ·rename_i W m2 hW
    have h3:=must_nat [59] m2 (h2.1 _ _ hW)
    split
    ·rename_i e he;refine ⟨fun x m h=>(by cases h),fun p n h=>?_⟩;cases h;exact h3.2 _ _ he
    ·rename_i u m3 hu;refine ⟨fun x m h=>?_,fun p n h=>by cases h⟩;cases h;exact h3.1 _ _ hu
 ·refine ⟨fun x m h=>(by cases h),fun p n h=>?_⟩;cases h;exact ⟨hl.place,by decide⟩
theorem texts_shrink {f:Nat}:∀ {l m:List TI} {A:List ByteArray},texts f l=.ok (A,m) → m.length < l.length:=by
 induction f with
 | zero=>intro l m A h;simp [texts] at h
 | succ f ih =>
  intro l m A h
  rw [texts] at h
  split at h
  ·cases h
  ·rename_i t m1 ht
   have h1:=take_len ht
   split at h
   ·rename_i hi
    have h2:=is_len hi
    split at h
    ·cases h
    ·rename_i L m2 hr
     cases h
     have:=ih hr
     omega
   ·cases h;omega
theorem texts_fed {f:Nat}:∀ {l:List TI},l.length+1 ≤ f → Fed (texts f l):=by
 induction f with
 | zero=>intro l h;omega
 | succ f ih =>
  intro l hf p h
  rw [texts] at h
  split at h
  ·rename_i e he;cases h;exact take_fed _ _ _ he
  ·rename_i t m1 ht
   have h1:=take_len ht
   split at h
   ·rename_i hi
    have h2:=is_len hi
    split at h
    ·rename_i e he;cases h;exact ih (by omega) _ he
    ·cases h
   ·cases h
theorem scopes_len {f:Nat} {l m:List TI} {A:List ByteArray} (h:scopesOf f l=.ok (A,m)):m.length ≤ l.length ∧ (Ends l → Ends m):=by
 unfold scopesOf at h
 split at h
 ·rename_i hi
  have h1:=is_len hi
  have h2:=texts_shrink h
  exact ⟨by omega,fun hE=>texts_ends h (is_tail hi (by decide) hE)⟩
 ·cases h;exact ⟨Nat.le_refl _,id⟩
theorem when_len {f:Nat} {l m:List TI} {W:List Ex} (h:whenOf f l=.ok (W,m)):m.length ≤ l.length ∧ (Ends l → Ends m):=by
 unfold whenOf at h
 split at h
 ·rename_i hi
  have h1:=is_len hi
  split at h
  ·cases h
  ·rename_i x m2 hx
   cases h
   have h2:m.length < l.tail.length:=(all_shrink f).2.2.2.2.2.2.2 0 _ _ _ hx
   exact ⟨by omega,fun hE=>(all_keep f).2.2.2.2.2.2.2 0 _ _ _ hx (is_tail hi (by decide) hE)⟩
 ·cases h;exact ⟨Nat.le_refl _,id⟩
theorem scopes_fed {f:Nat} {l:List TI} (hf:l.length+1 ≤ f):Fed (scopesOf f l):=by
 intro p h
 unfold scopesOf at h
 split at h
 ·rename_i hi;have h1:=is_len hi;exact texts_fed (by omega) _ h
 ·cases h
theorem when_fed {f:Nat} {l:List TI} (hf:6 * l.length+5 ≤ f):Fed (whenOf f l):=by
 intro p h
 unfold whenOf at h
 split at h
 ·rename_i hi
  have h1:=is_len hi
  split at h
  ·rename_i e he;cases h;exact (all_fed f).2.2.2.2.2.2.2 0 _ (by omega) _ he
  ·cases h
 ·cases h
theorem rule_len {f:Nat} {l m:List TI} {u:Ru} (h:rule f l=.ok (u,m)):m.length < l.length ∧ (Ends l → Ends m):=by
 unfold rule at h
 split at h
 ·rename_i hi
  have h0:l.tail.length+1=l.length:=by rcases hi with h | h <;> exact is_len h
  have h0e:Ends l → Ends l.tail:=fun hE=>by rcases hi with h | h <;> exact is_tail h (by decide) hE
  unfold ruleTail at h
  split at h
  ·cases h
  ·rename_i S m1 hS
   have h1:=scopes_len hS
   unfold ruleWhen at h
   split at h
   ·cases h
   ·rename_i W m2 hW
    have h2:=when_len hW
    split at h
    ·cases h
    ·rename_i v m3 hm
     have h3:=must_len hm
     cases h
     exact ⟨by omega,fun hE=>must_ends hm (h2.2 (h1.2 (h0e hE)))⟩
 ·cases h
theorem rule_fed {f:Nat} {l:List TI} (hf:6 * l.length+6 ≤ f):Fed (rule f l):=by
 intro p h
 unfold rule at h
 split at h
 ·rename_i hi
  have h0:l.tail.length+1=l.length:=by rcases hi with h | h <;> exact is_len h
  unfold ruleTail at h
  split at h
  ·rename_i e he;cases h;exact scopes_fed (by omega) _ he
  ·rename_i S m1 hS
   have h1:=scopes_len hS
   unfold ruleWhen at h
   split at h
   ·rename_i e he;cases h;exact when_fed (by omega) _ he
   ·rename_i W m2 hW
    split at h
    ·rename_i e he;cases h;exact must_fed _ _ _ he
    ·cases h
 ·simp at h
def rules:Nat → Nat → List Ru → List TI → Except (Int × Int) (List Ru)
 | 0,_,_,l=>.error (place l,0)
 | _+1,_,_,[]=>.error (0,0)
 | k+1,F,acc,t :: m =>
  if t.k=5 then .ok acc
  else if acc.length=16 ∧ (is (t :: m) 1 [112,101,114,109,105,116]=true ∨ is (t :: m) 1 [100,101,110,121]=true) then .error (t.p,132)
  else match rule F (t :: m) with
   | .error e=>.error e
   | .ok (x,m)=>rules k F (acc ++ [x]) m
end Pol
def Tk.ti (t:Tk):TI:=⟨t.k,t.s,t.n,t.p⟩
def Pol.told:Except (Int × Int) (List Ru) → Er × List Ru
 | .ok L=>(.ok,L)
 | .error (p,n)=>(.pl p.toNat n.toNat,[])
def Pol.parse (s:ByteArray):Er × List Ru :=
 match Lex.scan s with
 | (.ok,l)=>Pol.told (Pol.rules (l.length+1) (6 * l.length+7) [] (l.map Tk.ti))
 | (e,_)=>(e,[])
end Go.Proofs.YtgklmpooonnmiaaGreatDoor

namespace Go.Proofs.YtgklmpooonnmiaaGreatDoor
open Go.RowKit
set_option maxHeartbeats 1000000 in
set_option maxRecDepth 100000 in
theorem catch_idle (b2 b3:Nat) (w:World) :
  CallsD Tryz.prog 17 #[.pointer (some ⟨b2,0,none⟩),.pointer (some ⟨b3,0,none⟩)] .returning w fun e u' w'=>e=.returned (.tuple #[]) ∧ u'=.returning ∧ w'=w:=by
 refine callsD_of_wpS Tryz.func17 rfl fun c₀ cs hu=>?_
 apply wpS_seq
 apply wpS_region
 simp [wpOpsS,go_sem,recoverD,hu,Tryz.ntmps17,Exit.thenS]
 refine wpS_of_wp ?_
 simp only [show ((#[Value.pointer (some ⟨b2,0,none⟩),Value.pointer (some ⟨b3,0,none⟩)]:Array Value) ++ ((Array.replicate 17 undef).setIfInBounds 3 Value.nilIface).setIfInBounds 0 Value.nilIface)=#[Value.pointer (some ⟨b2,0,none⟩),Value.pointer (some ⟨b3,0,none⟩),.nilIface,undef,undef,.nilIface,undef,undef,undef,undef,undef,undef,undef,undef,undef,undef,undef,undef,undef] from rfl]
 go_wp2_with fail
 cases c₀
 simp_all [bodyPostS,results,Tryz.results17]
set_option maxHeartbeats 1000000 in
set_option maxRecDepth 100000 in
theorem catch_stop (b2 b3 b:Nat) (older:List PanicEntry) (v2:Value) (w:World) (h2:w.heap[b2]?=some (.cells #[v2] 23 (0,0))) (h3:w.heap[b3]?=some (.cells #[.nilIface] 25 (0,0))) (hne:b2 ≠ b3) :
  CallsD Tryz.prog 17 #[.pointer (some ⟨b2,0,none⟩),.pointer (some ⟨b3,0,none⟩)] (.panicking ({ v:=.iface 48 (.agg #[.pointer (some ⟨b,0,none⟩)]),recovered:=false } :: older)) w fun e u' w' =>
   e=.returned (.tuple #[]) ∧ u'=.panicking ({ v:=.iface 48 (.agg #[.pointer (some ⟨b,0,none⟩)]),recovered:=true } :: older) ∧ w'.heap[b2]?=some (.cells #[.slice none 0 0] 23 (0,0)) ∧ w'.heap[b3]?=some (.cells #[.iface 46 (.pointer (some ⟨b,0,none⟩))] 25 (0,0)) ∧ Fr [b2,b3] w w':=by
 refine callsD_of_wpS Tryz.func17 rfl fun c₀ cs hu=>?_
 apply wpS_seq
 apply wpS_region
 simp [wpOpsS,go_sem,recoverD,hu,Tryz.ntmps17,Exit.thenS]
 refine wpS_of_wp ?_
 obtain ⟨X,hX⟩:∃ X,(Value.iface 48 (Value.agg #[Value.pointer (some ⟨b,0,none⟩)]))=X:=⟨_,rfl⟩
 simp only [hX]
 simp only [show ((#[Value.pointer (some ⟨b2,0,none⟩),Value.pointer (some ⟨b3,0,none⟩)]:Array Value) ++ ((Array.replicate 17 undef).setIfInBounds 3 X).setIfInBounds 0 X)=#[Value.pointer (some ⟨b2,0,none⟩),Value.pointer (some ⟨b3,0,none⟩),X,undef,undef,X,undef,undef,undef,undef,undef,undef,undef,undef,undef,undef,undef,undef,undef] from rfl]
 subst hX
 have hb2:=row_lt h2
 have hb3:=row_lt h3
 have H2:=Lib.hid h2
 have H3:=Lib.hid h3
 have xf:∀ i,w.frozen? ⟨b2,i,none⟩=false:=fun i=>Lib.frozen_of_heap h2 i
 have x0:w.cell? ⟨b2,0,none⟩=some (v2):=by rw [Lib.cell_of_heap h2];rfl
 have yf:∀ i,w.frozen? ⟨b3,i,none⟩=false:=fun i=>Lib.frozen_of_heap h3 i
 have y0:w.cell? ⟨b3,0,none⟩=some (.nilIface):=by rw [Lib.cell_of_heap h3];rfl
 clear h2 h3
 have hta:∀ w,(Instr.typeAssert (.iface 48 (.agg #[.pointer (some ⟨b,0,none⟩)])) 20 48 true).run Tryz.prog w=.ok (.tuple #[.agg #[.pointer (some ⟨b,0,none⟩)],.bool true]) w:=fun w=>by kernel_rfl
 go_wp2_with fail
 refine wp_fresh (fun U=>U.heap[w.heap.size]?=some (.cells #[.pointer (some ⟨b,0,none⟩)] 48 (0,0)) ∧ U.heap[b2]?=some (.cells #[v2] 23 (0,0)) ∧ U.heap[b3]?=some (.cells #[.nilIface] 25 (0,0)) ∧ Fr [] w U) ⟨heap_alloc_last _ _,((Fr.refl [] _).alloc _).row H2.out (by simp),((Fr.refl [] _).alloc _).row H3.out (by simp),(Fr.refl _ _).alloc _⟩ ?_
 rintro U ⟨u1,u2,u3,u4⟩
 have HU2:=Lib.hid u2
 have HU3:=Lib.hid u3
 have HUF:=Lib.hid u4
 have hn1:w.heap.size ≠ b2:=by omega
 have hn2:w.heap.size ≠ b3:=by omega
 clear x0 xf y0 yf hta
 have sf:∀ i,U.frozen? ⟨w.heap.size,i,none⟩=false:=fun i=>Lib.frozen_of_heap u1 i
 have s0:U.cell? ⟨w.heap.size,0,none⟩=some (.pointer (some ⟨b,0,none⟩)):=by rw [Lib.cell_of_heap u1];rfl
 have xf:∀ i,U.frozen? ⟨b2,i,none⟩=false:=fun i=>Lib.frozen_of_heap u2 i
 have x0:U.cell? ⟨b2,0,none⟩=some (v2):=by rw [Lib.cell_of_heap u2];rfl
 have yf:∀ i,U.frozen? ⟨b3,i,none⟩=false:=fun i=>Lib.frozen_of_heap u3 i
 have y0:U.cell? ⟨b3,0,none⟩=some (.nilIface):=by rw [Lib.cell_of_heap u3];rfl
 clear u1 u2 u3 u4 sf
 go_region
 all_goals
  have hne':b3 ≠ b2:=fun h=>hne h.symm
  have hfb:Fr [b2,b3] w ((U.setCell ⟨b2,0,none⟩ (.slice none 0 0)).setCell ⟨b3,0,none⟩ (.iface 46 (.pointer (some ⟨b,0,none⟩)))).drew:=((HUF.out.sub.setCell (p:=⟨b2,0,none⟩) (.inl (by simp)) _).setCell (p:=⟨b3,0,none⟩) (.inl (by simp)) _).drew
  have hf2:Fr [b3] (U.setCell ⟨b2,0,none⟩ (.slice none 0 0)) ((U.setCell ⟨b2,0,none⟩ (.slice none 0 0)).setCell ⟨b3,0,none⟩ (.iface 46 (.pointer (some ⟨b,0,none⟩)))).drew:=((Fr.refl [b3] _).setCell (p:=⟨b3,0,none⟩) (.inl (by simp)) _).drew
  have hf1:Fr [b2] U (U.setCell ⟨b2,0,none⟩ (.slice none 0 0)):=(Fr.refl [b2] _).setCell (p:=⟨b2,0,none⟩) (.inl (by simp)) _
  have k2:=hf2.row (heap_set_row HU2.out 0 (.slice none 0 0)) (by simpa using hne)
  have k3:=heap_set_row (hf1.row HU3.out (by simpa using hne')) 0 (.iface 46 (.pointer (some ⟨b,0,none⟩)))
  have K2:=Lib.hid k2
  have K3:=Lib.hid k3
  have K4:=Lib.hid hfb
  clear k2 k3 hfb hf2 hf1 x0 xf y0 yf s0
  go_wp2_with fail
  obtain ⟨Z,hZ⟩:∃ Z,((U.setCell ⟨b2,0,none⟩ (.slice none 0 0)).setCell ⟨b3,0,none⟩ (.iface 46 (.pointer (some ⟨b,0,none⟩)))).drew=Z:=⟨_,rfl⟩
  have k2:Z.heap[b2]?=some (.cells #[.slice none 0 0] 23 (0,0)):=by rw [← hZ];exact K2.out
  have k3:Z.heap[b3]?=some (.cells #[.iface 46 (.pointer (some ⟨b,0,none⟩))] 25 (0,0)):=by rw [← hZ];exact K3.out
  have k4:Fr [b2,b3] w Z:=by rw [← hZ];exact K4.out
  rw [hZ]
  exact ⟨rfl,_,rfl,.tuple #[],by simp [results,Tryz.results17],rfl,rfl,k2,k3,k4⟩
end Go.Proofs.YtgklmpooonnmiaaGreatDoor

namespace Go.Proofs.YtgklmpooonnmiaaGreatDoor
open Go.RowKit
theorem rule_all (f:Nat) (w:World) (r g o c:Nat) (l:List TI) (h:Rd w r g o c l 0) (hE:Ends l) (hfed:Pol.Fed (Pol.rule (f+1) l)) :
  Calls Tryz.prog 20 #[.pointer (some ⟨r,0,none⟩)] w (RuleDone r g 0 w (Pol.rule (f+1) l)):=by
 obtain ⟨t,m,rfl⟩:=hE.cons
 cases h1:Pol.is (t :: m) 1 [112,101,114,109,105,116] with
 | true =>
  have h2:Pol.is (t :: m) 1 [100,101,110,121]=false:=by
   simp only [Pol.is,Bool.and_eq_true,beq_iff_eq] at h1
   simp only [Pol.is,h1.2]
   rw [show (([112,101,114,109,105,116]:List UInt8) == [100,101,110,121])=false from rfl,Bool.and_false]
  have e:Pol.rule (f+1) (t :: m)=Pol.ruleTail (f+1) false t.p m:=by
   unfold Pol.rule;rw [if_pos (Or.inl h1),h2];rfl
  exact rule_permit f w r g o c t m h hE h1 _ e hfed
 | false =>
  cases h2:Pol.is (t :: m) 1 [100,101,110,121] with
  | true =>
   have e:Pol.rule (f+1) (t :: m)=Pol.ruleTail (f+1) true t.p m:=by
    unfold Pol.rule;rw [if_pos (Or.inr h2),h2];rfl
   exact rule_deny f w r g o c t m h hE h1 h2 _ e hfed
  | false =>
   have e:Pol.rule (f+1) (t :: m)=.error (t.p,120):=by
    unfold Pol.rule;rw [if_neg (by rw [h1,h2];simp)];rfl
   rw [e]
   exact rule_none w r g o c t m h hE h1 h2
def RsRep (w:World) (D:Nat → Prop) (v:Value) (L:List Ru):Prop :=
 ∃ (q:Option Addr) (c:Nat) (f:Nat → List Value),v=.slice q L.length c ∧ L.length ≤ c ∧ c ≤ maxLen ∧ (∀ (i:Nat) (u:Ru),L[i]?=some u → ∃ g,q=some ⟨g,0,none⟩ ∧ g < w.heap.size ∧ D g ∧ w.rangeAt g (4 * i) (f i)) ∧ (∀ (i:Nat) (u:Ru),L[i]?=some u → RuRep w D (f i) u) ∧ (q=none → c=0)
theorem tk_of_own {w:World} {B:Nat} {v:Value} {l:List Tk} (h:w.ownsRow B 54 4 v l.length (toks l)) (hl:0 < l.length):∃ g c,v=.slice (some ⟨g,0,none⟩) l.length c ∧ B ≤ g ∧ g < w.heap.size ∧ l.length ≤ c ∧ c ≤ maxLen ∧ TK w g 0 (l.map Tk.ti):=by
 rcases h.2 with ⟨_,h0⟩ | ⟨g,cap,cur,hv,hb,hrow,h1,h2,h3,h4⟩
 ·omega
 ·refine ⟨g,cap,hv,hb,row_lt hrow,h1,h2,fun j t hj=>?_⟩
  have hat:∀ (k:Nat) (u:Value),(toks l)[k]?=some u → w.cell? ⟨g,k,none⟩=some u:=fun k u hk=>by
   rw [← h4,List.getElem?_take] at hk
   split at hk
   ·rw [cell_of_row _ _ _ _ _ _ hrow];simpa using hk
   ·cases hk
  have hf:∀ (l:List Tk) (j:Nat) (t:Tk),l[j]?=some t → (toks l)[4 * j]?=some (.int .i64 (t.k:Nat)) ∧ (toks l)[4 * j+1]?=some (.string t.s) ∧ (toks l)[4 * j+2]?=some (.int .i64 t.n) ∧ (toks l)[4 * j+3]?=some (.int .i64 (t.p:Nat)):=by
   intro l
   induction l with
   | nil=>intro j t hj;simp at hj
   | cons a r ih =>
    intro j t hj
    cases j with
    | zero=>simp at hj;subst hj;simp [toks,Tk.c]
    | succ j =>
     have h9:=ih j t (by simpa using hj)
     have e:toks (a :: r)=a.c ++ toks r:=rfl
     rw [e,show 4 * (j+1)=4 * j+4 by omega]
     have hc:a.c.length=4:=rfl
     refine ⟨?_,?_,?_,?_⟩
     ·rw [List.getElem?_append_right (by omega),hc];simpa using h9.1
     ·rw [List.getElem?_append_right (by omega),hc,show 4 * j+4+1 - 4=4 * j+1 by omega];exact h9.2.1
     ·rw [List.getElem?_append_right (by omega),hc,show 4 * j+4+2 - 4=4 * j+2 by omega];exact h9.2.2.1
     ·rw [List.getElem?_append_right (by omega),hc,show 4 * j+4+3 - 4=4 * j+3 by omega];exact h9.2.2.2
  rw [List.getElem?_map] at hj
  cases hq:l[j]? with
  | none=>rw [hq] at hj;cases hj
  | some u =>
   rw [hq] at hj
   simp at hj
   subst hj
   obtain ⟨a0,a1,a2,a3⟩:=hf l j u hq
   simp only [Nat.zero_add]
   exact ⟨hat _ _ a0,hat _ _ a1,hat _ _ a2,hat _ _ a3⟩
theorem scanFrom_ok (s:ByteArray) (k:Nat) (l:List Tk) (hl:l.length ≤ 512) (R:List Tk) (h:Lex.scanFrom s k l=(.ok,R)):R.length ≤ 513 ∧ ∃ t,R.getLast?=some t ∧ t.k=5:=by
 fun_induction Lex.scanFrom s k l with
 | case1=>cases h
 | case2=>cases h
 | case3 k l _ t m _ hn ih=>exact ih (by simp;omega) h
 | case4 k l _=>cases h;exact ⟨by simp;omega,_,by simp;rfl,rfl⟩
theorem scan_ok (s:ByteArray) (l:List Tk) (h:Lex.scan s=(.ok,l)):Ends (l.map Tk.ti) ∧ l.length ≤ 513:=by
 unfold Lex.scan at h
 split at h
 ·cases h
 ·obtain ⟨h1,t,h2,h3⟩:=scanFrom_ok s _ [] (by simp) l h
  exact ⟨⟨t.ti,by rw [List.getLast?_map,h2];rfl,by show ((t.k:Nat):Int)=5;omega⟩,h1⟩
theorem ErV.fr2 {bs:List Nat} {w w':World} {base:Nat} {e:Er} {v:Value} (h:ErV w base e v) (hF:Fr bs w w') (hb:∀ y ∈ bs,y < base):ErV w' base e v:=by
 cases e with
 | ok=>exact h
 | no n=>exact h
 | pl p n=>obtain ⟨b,h1,hv,hr⟩:=h;exact ⟨b,h1,hv,hF.row hr (fun hc=>by have:=hb b hc;omega)⟩
theorem infoRu:(Tryz.prog.info? 40).map (fun i=>(i.zero,i.size,i.bytes))=some (some (.agg #[.bool false,.slice none 0 0,.slice none 0 0,.int .i64 0]),4,64):=by kernel_rfl
structure Rus (w:World) (D:Nat → Prop) (css:List (List Value)) (L:List Ru):Prop where
 len:css.length=L.length
 rep:∀ (i:Nat) (x:Ru) (cs:List Value),L[i]?=some x → css[i]?=some cs → RuRep w D cs x
theorem Rus.fr {bs:List Nat} {w w':World} {D:Nat → Prop} (hf:Fr bs w w') (hb:∀ y ∈ bs,y < w.heap.size → ¬ D y) {css:List (List Value)} {L:List Ru} (h:Rus w D css L):Rus w' D css L :=
 ⟨h.len,fun i x cs hi hc=>(h.rep i x cs hi hc).fr hf hb⟩
theorem Rus.mono {w:World} {D E:Nat → Prop} (hd:∀ g,g < w.heap.size → D g → E g) {css:List (List Value)} {L:List Ru} (h:Rus w D css L):Rus w E css L :=
 ⟨h.len,fun i x cs hi hc=>(h.rep i x cs hi hc).mono hd⟩
theorem Rus.snoc {w:World} {D:Nat → Prop} {css:List (List Value)} {L:List Ru} {cs:List Value} {x:Ru} (h:Rus w D css L) (hx:RuRep w D cs x):Rus w D (css ++ [cs]) (L ++ [x]):=by
 refine ⟨by simp [h.len],fun i y ds hi hc=>?_⟩
 by_cases hl:i < L.length
 ·rw [List.getElem?_append_left hl] at hi
  rw [List.getElem?_append_left (by rw [h.len];exact hl)] at hc
  exact h.rep i y ds hi hc
 ·have h0:i=L.length:=by have:=(List.getElem?_eq_some_iff.1 hi).1;simp at this;omega
  subst h0
  simp at hi
  rw [← h.len] at hc
  simp at hc
  subst hi hc
  exact hx
theorem RuRep.form {w:World} {D:Nat → Prop} {cs:List Value} {u:Ru} (h:RuRep w D cs u):∃ q1 k1 c1 q2 k2 c2,cs=[.bool u.deny,.slice q1 k1 c1,.slice q2 k2 c2,.int .i64 u.p]:=by
 obtain ⟨v1,v2,rfl,⟨q,c,rfl,_⟩,h3⟩:=h
 obtain ⟨op,s,n,q2,k2,c2,p,h9⟩:=Rep.form h3
 simp only [List.cons.injEq,and_true] at h9
 obtain ⟨_,_,_,rfl,_⟩:=h9
 exact ⟨_,_,_,_,_,_,rfl⟩
theorem flat_at4:∀ (css:List (List Value)),(∀ (i:Nat) (cs:List Value),css[i]?=some cs → cs.length=4) → ∀ (i:Nat) (cs:List Value) (j:Nat) (v:Value),css[i]?=some cs → cs[j]?=some v → css.flatten[4 * i+j]?=some v:=by
 intro css
 induction css with
 | nil=>intro _ i cs j v hi;simp at hi
 | cons a r ih =>
  intro h i cs j v hi hj
  have ha:=h 0 a rfl
  cases i with
  | zero =>
   simp at hi;subst hi
   have:=(List.getElem?_eq_some_iff.1 hj).1
   rw [List.flatten_cons,List.getElem?_append_left (by omega)]
   simpa using hj
  | succ i =>
   rw [List.flatten_cons,List.getElem?_append_right (by omega),ha,show 4 * (i+1)+j - 4=4 * i+j by omega]
   exact ih (fun k cs hk=>h (k+1) cs (by simpa using hk)) i cs j v (by simpa using hi) hj
structure PaSt (w:World) (b R g o c:Nat) (m:List TI) (v:Value) (css:List (List Value)) (A:List Ru) (W:World):Prop where
 rd:Rd W R g o c m 0
 b2:W.heap[b]?=some (.cells #[v] 23 (0,0))
 b3:W.heap[b+1]?=some (.cells #[.nilIface] 25 (0,0))
 own:W.ownsRow (R+1) 40 4 v A.length css.flatten
 rus:Rus W (fun i=>R+1 ≤ i ∧ v.ownBlock ≠ some i) css A
 f:Fr [] w W
 bw:b=w.heap.size
 bR:b+1 < R
 bg:b+1 < g
 gR:g < R
theorem PaSt.own_base {w:World} {b R g o c:Nat} {m:List TI} {v:Value} {css:List (List Value)} {A:List Ru} {W:World} (h:PaSt w b R g o c m v css A W):∀ y,v.ownBlock=some y → R+1 ≤ y:=fun y hy=>by
 rcases h.own.2 with ⟨hv,_⟩ | ⟨g0,cap,cur,hv,hb,_⟩
 ·rw [hv] at hy;simp [Value.ownBlock] at hy
 ·rw [hv] at hy;simp [Value.ownBlock] at hy;omega
theorem PaSt.step {w:World} {b R g o c:Nat} {m:List TI} {v:Value} {css:List (List Value)} {A:List Ru} {W W':World} {o' c':Nat} {m':List TI} (h:PaSt w b R g o c m v css A W) (hf:Fr [R] W W') (hr:Rd W' R g o' c' m' 0):PaSt w b R g o' c' m' v css A W':=by
 have h1:=h.bR;have h2:=h.bw
 refine ⟨hr,hf.row h.b2 (by simp;omega),hf.row h.b3 (by simp;omega),?_,h.rus.fr hf (fun y hy _=>by simp at hy;omega),(h.f.sub (bs:=[R])).trans hf (fun y hy=>.inl hy) |>.new (by omega),h2,h1,h.bg,h.gR⟩
 refine ⟨h.own.1,?_⟩
 rcases h.own.2 with h | ⟨g0,cap,cur,hv,hb,hg,hr⟩
 ·exact Or.inl h
 ·exact Or.inr ⟨g0,cap,cur,hv,hb,hf.row hg (by simp;omega),hr⟩
theorem PaSt.fr {w:World} {b R g o c:Nat} {m:List TI} {v:Value} {css:List (List Value)} {A:List Ru} {W W':World} (h:PaSt w b R g o c m v css A W) (hf:Fr [] W W'):PaSt w b R g o c m v css A W' :=
 ⟨h.rd.fr hf (by simp) (by simp),hf.row h.b2 (by simp),hf.row h.b3 (by simp),ownsRow_fr h.own hf,h.rus.fr hf (fun y hy _=>by cases hy),h.f.trans0 hf,h.bw,h.bR,h.bg,h.gR⟩
theorem PaSt.laid {w:World} {b R g o c:Nat} {m:List TI} {v:Value} {css:List (List Value)} {A:List Ru} {W:World} (h:PaSt w b R g o c m v css A W):PaSt w b R g o c m v css A ((W.setCell ⟨b,0,none⟩ v).setCell ⟨b+1,0,none⟩ .nilIface):=by
 have h1:=h.bR;have h2:=h.bw;have h3:=h.bg
 have hf:Fr [b,b+1] W ((W.setCell ⟨b,0,none⟩ v).setCell ⟨b+1,0,none⟩ .nilIface):=((Fr.refl _ W).setCell (p:=⟨b,0,none⟩) (.inl (by simp)) _).setCell (p:=⟨b+1,0,none⟩) (.inl (by simp)) _
 have hf1:Fr [b] W (W.setCell ⟨b,0,none⟩ v):=(Fr.refl _ W).setCell (p:=⟨b,0,none⟩) (.inl (by simp)) _
 have hf2:Fr [b+1] (W.setCell ⟨b,0,none⟩ v) ((W.setCell ⟨b,0,none⟩ v).setCell ⟨b+1,0,none⟩ .nilIface):=(Fr.refl _ _).setCell (p:=⟨b+1,0,none⟩) (.inl (by simp)) _
 refine ⟨h.rd.fr hf (by simp;omega) (by simp;omega),hf2.row (heap_set_row h.b2 0 v) (by simp),heap_set_row (hf1.row h.b3 (by simp)) 0 _,?_,h.rus.fr hf (fun y hy _=>by simp at hy;omega),?_,h2,h1,h3,h.gR⟩
 ·refine ⟨h.own.1,?_⟩
  rcases h.own.2 with h | ⟨g0,cap,cur,hv,hb,hg,hr⟩
  ·exact Or.inl h
  ·exact Or.inr ⟨g0,cap,cur,hv,hb,hf.row hg (by simp;omega),hr⟩
 ·have h9:=(h.f.sub (bs:=[b,b+1])).trans hf (fun y hy=>.inl hy)
  exact ⟨h9.os,h9.tape,h9.output,h9.size,fun k hk _=>h9.block k hk (by simp;omega)⟩
theorem parse_res (tmps:Array Value) (Z:World) (b:Nat) (q:Option Addr) (n c:Nat) (ev:Value) (h2:tmps[2]?=some (.pointer (some ⟨b,0,none⟩))) (h3:tmps[3]?=some (.pointer (some ⟨b+1,0,none⟩))) (hb:Z.heap[b]?=some (.cells #[.slice q n c] 23 (0,0))) (hb3:Z.heap[b+1]?=some (.cells #[ev] 25 (0,0))) :
  (results Tryz.f6 tmps).run Tryz.prog Z=.ok (.tuple #[.slice q n c,ev]) Z:=by
 have c0:Z.cell? ⟨b,0,none⟩=some (.slice q n c):=by rw [Lib.cell_of_heap hb];rfl
 have c1:Z.cell? ⟨b+1,0,none⟩=some ev:=by rw [Lib.cell_of_heap hb3];rfl
 simp [results,Tryz.results6,go_sem,h2,h3,c0,c1]
theorem PaSt.out {w:World} {b R g o c:Nat} {m:List TI} {v:Value} {css:List (List Value)} {A:List Ru} {W:World} (h:PaSt w b R g o c m v css A W):RsRep W (fun i=>w.heap.size ≤ i) v A:=by
 have h1:=h.bR;have h2:=h.bw
 rcases h.own.2 with ⟨hv,h0⟩ | ⟨g0,cap,cur,hv,hb,hrow,k1,k2,k3,k4⟩
 ·have:A=[]:=List.eq_nil_of_length_eq_zero h0
  subst this
  exact ⟨none,0,fun _=>[],hv,Nat.le_refl _,by decide,fun i u hi=>by simp at hi,fun i u hi=>by simp at hi,fun _=>rfl⟩
 ·have h5:∀ (i:Nat) (cs:List Value),css[i]?=some cs → cs.length=4:=fun i cs hi=>by
   obtain ⟨h1,rfl⟩:=List.getElem?_eq_some_iff.1 hi
   have hl:=h.rus.len
   obtain ⟨v1,v2,e,_⟩:=h.rus.rep i _ _ (List.getElem?_eq_getElem (by omega)) hi
   rw [e];rfl
  have hat:=flat_at4 css h5
  refine ⟨some ⟨g0,0,none⟩,cap,fun i=>css.getD i [],hv,k1,k2,fun i u hi=>⟨g0,rfl,row_lt hrow,by show w.heap.size ≤ g0;omega,fun j x hj=>?_⟩,fun i u hi=>?_,fun h=>by cases h⟩
  ·have hl:=h.rus.len
   have hi2:i < css.length:=by have:=(List.getElem?_eq_some_iff.1 hi).1;omega
   have e:css.getD i []=css[i]:=by simp [List.getD,List.getElem?_eq_getElem hi2]
   simp only [e] at hj
   have h9:=hat i _ j x (List.getElem?_eq_getElem hi2) hj
   rw [← k4,List.getElem?_take] at h9
   split at h9
   ·rw [cell_of_row _ _ _ _ _ _ hrow];simpa using h9
   ·cases h9
  ·have hl:=h.rus.len
   have hi2:i < css.length:=by have:=(List.getElem?_eq_some_iff.1 hi).1;omega
   have e:css.getD i []=css[i]:=by simp [List.getD,List.getElem?_eq_getElem hi2]
   simp only [e]
   exact (h.rus.rep i u _ hi (List.getElem?_eq_getElem hi2)).mono (fun k _ hk=>by have:=hk.1;show w.heap.size ≤ k;omega)
theorem own_lt {w:World} {B n size:Nat} {e:TypeId} {v:Value} {xs:List Value} (h:w.ownsRow B e size v n xs):∀ y,v.ownBlock=some y → y < w.heap.size:=fun y hy=>by
 rcases h.2 with ⟨hv,_⟩ | ⟨g0,cap,cur,hv,hb,hrow,_⟩
 ·rw [hv] at hy;simp [Value.ownBlock] at hy
 ·rw [hv] at hy;simp [Value.ownBlock] at hy;subst hy;exact row_lt hrow
theorem PaSt.stopped {w:World} {b R g o c:Nat} {m:List TI} {v:Value} {css:List (List Value)} {A:List Ru} {W W9 Z:World} {b9:Nat} {p n:Int} (h:PaSt w b R g o c m v css A W) (hb9:W.heap.size ≤ b9) (hr:W9.heap[b9]?=some (.cells #[.int .i64 p,.iface 57 (.int .i64 n)] 68 (0,0))) (hf:Fr [R] W W9)
  (k4:Fr [b,b+1] W9 Z) (hp:0 ≤ p ∧ 0 ≤ n) :
  RsRep Z (fun i=>w.heap.size ≤ i) (.slice none 0 0) (Pol.told (.error (p,n))).2 ∧ ErV Z w.heap.size (Pol.told (.error (p,n))).1 (.iface 46 (.pointer (some ⟨b9,0,none⟩))) ∧ Fr [] w Z:=by
 have h1:=h.bR;have h2:=h.bw;have h3:=row_lt h.rd.row
 refine ⟨⟨none,0,fun _=>[],rfl,Nat.le_refl _,by decide,fun i u hi=>by simp [Pol.told] at hi,fun i u hi=>by simp [Pol.told] at hi,fun _=>rfl⟩,⟨b9,by omega,rfl,?_⟩,?_⟩
 ·have h9:=k4.row hr (by simp;omega)
  rw [show ((p.toNat:Nat):Int)=p by omega,show ((n.toNat:Nat):Int)=n by omega]
  exact h9
 ·have h9:=((h.f.sub (bs:=[R])).trans hf (fun y hy=>.inl hy)).new (by omega)
  have h8:=(h9.sub (bs:=[b,b+1])).trans k4 (fun y hy=>.inl hy)
  exact ⟨h8.os,h8.tape,h8.output,h8.size,fun k hk _=>h8.block k hk (by simp;omega)⟩
theorem PaSt.grow {w:World} {b R g o c:Nat} {m:List TI} {v:Value} {css:List (List Value)} {A:List Ru} {W U:World} {cs:List Value} {x:Ru} (h:PaSt w b R g o c m v css A W) (hx:RuRep W (fun i=>R+1 ≤ i ∧ v.ownBlock ≠ some i) cs x)
  {g1 c1:Nat} (ho:U.ownsRow (R+1) 40 4 (.slice (some ⟨g1,0,none⟩) (A.length+1) c1) (A.length+1) (css.flatten ++ cs)) (hg:W.grownBy U v.ownBlock) (hgg:v.ownBlock=some g1 ∨ W.heap.size ≤ g1) :
  PaSt w b R g o c m (.slice (some ⟨g1,0,none⟩) (A.length+1) c1) (css ++ [cs]) (A ++ [x]) (U.setCell ⟨b,0,none⟩ (.slice (some ⟨g1,0,none⟩) (A.length+1) c1)):=by
 have h1:=h.bR;have h2:=h.bw;have h3:=h.bg;have h4:=h.gR
 have hf:=Fr.of_grown hg
 have hbase:∀ y ∈ v.ownBlock.toList,R+1 ≤ y:=fun y hy=>h.own_base y (by simpa using hy)
 have hg1:R+1 ≤ g1:=by
  rcases hgg with h9 | h9
  ·exact h.own_base _ h9
  ·have:=row_lt h.rd.row;omega
 have hD:∀ i,i < W.heap.size → (R+1 ≤ i ∧ v.ownBlock ≠ some i) → (R+1 ≤ i ∧ v.ownBlock ≠ some i ∧ i ≠ g1):=fun i hi hc=>⟨hc.1,hc.2,fun h9=>by
  subst h9
  rcases hgg with h8 | h8
  ·exact hc.2 h8
  ·omega⟩
 have hE:∀ i,i < U.heap.size → (R+1 ≤ i ∧ v.ownBlock ≠ some i ∧ i ≠ g1) → (R+1 ≤ i ∧ (Value.slice (some ⟨g1,0,none⟩) (A.length+1) c1).ownBlock ≠ some i):=fun i _ hc=>⟨hc.1,fun h9=>by
  simp [Value.ownBlock] at h9
  exact hc.2.2 h9.symm⟩
 have h5:=(((h.rus.snoc hx).mono hD).fr hf (fun y hy hl hc=>hc.2.1 (by simpa using hy))).mono hE
 have hs:Fr [b] U (U.setCell ⟨b,0,none⟩ (.slice (some ⟨g1,0,none⟩) (A.length+1) c1)):=(Fr.refl _ _).setCell (p:=⟨b,0,none⟩) (.inl (by simp)) _
 have k0:=h.rd.fr hf (fun hc=>by have:=hbase _ hc;omega) (fun hc=>by have:=hbase _ hc;omega)
 have k2:=hf.row h.b2 (fun hc=>by have:=hbase _ hc;omega)
 have k3:=hf.row h.b3 (fun hc=>by have:=hbase _ hc;omega)
 refine ⟨k0.fr hs (by simp;omega) (by simp;omega),heap_set_row k2 0 _,hs.row k3 (by simp),?_,h5.fr hs (fun y hy _=>by simp at hy;omega),?_,h2,h1,h3,h4⟩
 ·have ho':U.ownsRow (R+1) 40 4 (.slice (some ⟨g1,0,none⟩) (A.length+1) c1) (A.length+1) (css.flatten ++ cs):=ho
  rw [List.length_append,List.flatten_append]
  have h9:=ownsRow_blk ho' (hs.block g1 (ownsRow_lt ho') (by simp;omega))
  simpa using h9
 ·have h8:Fr v.ownBlock.toList w U:=(h.f.sub (bs:=v.ownBlock.toList)).trans hf (fun y hy=>.inl hy)
  have h9:Fr (b :: v.ownBlock.toList) w (U.setCell ⟨b,0,none⟩ (.slice (some ⟨g1,0,none⟩) (A.length+1) c1)):=by
   refine Fr.trans (b:=U) ⟨h8.os,h8.tape,h8.output,h8.size,fun k hk hn=>h8.block k hk (fun hc=>hn (List.mem_cons_of_mem _ hc))⟩ hs (fun y hy=>.inl (by simp at hy;simp [hy]))
  exact ⟨h9.os,h9.tape,h9.output,h9.size,fun k hk _=>h9.block k hk (fun hc=>by
   rcases List.mem_cons.1 hc with h | h
   ·omega
   ·have:=hbase _ h;omega)⟩
set_option maxHeartbeats 4000000 in
set_option maxRecDepth 100000 in
theorem pol_parse (w:World) (s:ByteArray) (hs:s.size ≤ maxLen) (hL:Least w) :
  Calls Tryz.prog 6 #[.string s] w fun e w'=>∃ v ev,e=.returned (.tuple #[v,ev]) ∧ RsRep w' (fun i=>w.heap.size ≤ i) v (Pol.parse s).2 ∧ ErV w' w.heap.size (Pol.parse s).1 ev ∧ Fr [] w w':=by
 have hmf:∀ fn first cap w,(Instr.makeFunc fn first cap).run Tryz.prog w=.ok (.func fn first cap) w:=fun _ _ _ _=>rfl
 have HA0:Hid (Fr [] w ((w.alloc (.cells #[.slice none 0 0] 23)).alloc (.cells #[.nilIface] 25))):=((Fr.refl [] w).alloc _).alloc _
 have HAL:=Lib.hid (alloc2 w (.cells #[.slice none 0 0] 23) (.cells #[.nilIface] 25))
 have HSC:=Lib.hid (lex_scan _ s hs (hL.fr (bs:=[]) HA0.out (by simp)))
 obtain ⟨er,hq⟩:∃ q,Lex.scan s=q:=⟨_,rfl⟩
 obtain ⟨er,tks⟩:=er
 rw [hq] at HSC
 have Hq:=Lib.hid hq
 clear hL hq
 go_enter_defers Tryz.func6,Tryz.ntmps6
 go_wp2_with fail
 refine HSC.out.mono ?_
 rintro e w1 ⟨v,ev,rfl,hown,hev,hf1⟩
 have HB2:=Lib.hid (hf1.row HAL.out.1 (by simp))
 have HB3:=Lib.hid (hf1.row HAL.out.2 (by simp))
 have HOWN:=Lib.hid hown
 have HEV:=Lib.hid hev
 have HF1:=Lib.hid (HA0.out.trans0 hf1)
 have hz2:=row_lt HB2.out
 have hz3:=row_lt HB3.out
 clear hown hev hf1 HSC HAL HA0
 have xf:∀ i,w1.frozen? ⟨w.heap.size,i,none⟩=false:=fun i=>Lib.frozen_of_heap HB2.out i
 have x0:w1.cell? ⟨w.heap.size,0,none⟩=some (.slice none 0 0):=by rw [Lib.cell_of_heap HB2.out];rfl
 have yf:∀ i,w1.frozen? ⟨(w.heap.size+1),i,none⟩=false:=fun i=>Lib.frozen_of_heap HB3.out i
 have y0:w1.cell? ⟨(w.heap.size+1),0,none⟩=some (.nilIface):=by rw [Lib.cell_of_heap HB3.out];rfl
 by_cases her:er=.ok
 ·subst her
  obtain rfl:ev=.nilIface:=HEV.out
  have hsc:=scan_ok s tks Hq.out
  have hE0:=hsc.1
  have hlp:0 < tks.length:=by have:=hE0.pos;simpa using this
  obtain ⟨g,c,rfl,hgb,hgl,hlc,hcm,htk⟩:=tk_of_own HOWN.out hlp
  have HTK:=Lib.hid htk
  have HE:=Lib.hid hE0
  have hfew:=hsc.2
  clear htk hE0 hsc
  go_wp2_with fail
  have hwz:w.heap.size+1 < w1.heap.size:=hz3
  have hST:Hid (PaSt w w.heap.size w1.heap.size g 0 c (tks.map Tk.ti) (.slice none 0 0) [] [] ((w1.setCell ⟨w.heap.size+1,0,none⟩ .nilIface).alloc (.cells #[.slice (some ⟨g,0,none⟩) tks.length c,.int .i64 0] 52))):=by
   have hs:Fr [w.heap.size+1] w1 (w1.setCell ⟨w.heap.size+1,0,none⟩ .nilIface):=(Fr.refl _ _).setCell (p:=⟨w.heap.size+1,0,none⟩) (.inl (by simp)) _
   have hA:Fr [] (w1.setCell ⟨w.heap.size+1,0,none⟩ .nilIface) ((w1.setCell ⟨w.heap.size+1,0,none⟩ .nilIface).alloc (.cells #[.slice (some ⟨g,0,none⟩) tks.length c,.int .i64 0] 52)):=(Fr.refl _ _).alloc _
   have hsz:(w1.setCell ⟨w.heap.size+1,0,none⟩ .nilIface).heap.size=w1.heap.size:=by simp [World.setCell]
   have hrow:=heap_alloc_last (w1.setCell ⟨w.heap.size+1,0,none⟩ .nilIface) (.cells #[.slice (some ⟨g,0,none⟩) tks.length c,.int .i64 0] 52)
   rw [hsz] at hrow
   have hgb2:w.heap.size+1 < g:=by simp at hgb;omega
   refine ⟨⟨by simpa using hrow,(HTK.out.fr hs hgl (by simp;omega)).fr hA (by rw [hsz];exact hgl) (by simp),by have:=hA.size;rw [hsz] at this;omega,by omega,by simpa using hlc,hcm,by simp;omega⟩,hA.row (hs.row HB2.out (by simp)) (by simp),hA.row (heap_set_row HB3.out 0 .nilIface) (by simp),ownsRow_nil _ _ _ _,⟨rfl,fun i x cs hi=>by simp at hi⟩,?_,rfl,hwz,hgb2,hgl⟩
   exact ((HF1.out.sub (bs:=[w.heap.size+1])).trans hs (fun y hy=>.inl hy) |>.trans0 hA).new (by omega)
  obtain ⟨b,hb⟩:∃ b,w.heap.size=b:=⟨_,rfl⟩
  obtain ⟨R,hR⟩:∃ R,w1.heap.size=R:=⟨_,rfl⟩
  rw [hb,hR] at hST ⊢
  obtain ⟨K,hK⟩:∃ K,Pol.rules (tks.length+1) (6 * tks.length+7) [] (tks.map Tk.ti)=K:=⟨_,rfl⟩
  have HK:=Lib.hid hK
  have HPP:Hid (Pol.parse s=Pol.told K):=by show _=_;unfold Pol.parse;rw [Hq.out];simp only [hK]
  have HNN:Hid (Pol.NN (tks.map Tk.ti)):=fun t ht=>by
   obtain ⟨u,_,rfl⟩:=List.mem_map.1 ht
   exact Int.natCast_nonneg _
  obtain ⟨N,hN⟩:∃ N,tks.length=N:=⟨_,rfl⟩
  have HLN:Hid ((tks.map Tk.ti).length=N):=by show _=_;simp [hN]
  rw [hN] at HK hST hfew ⊢
  clear hK hb hR hN HTK hgb hgl hlc hcm x0 xf y0 yf HOWN HEV HB2 HB3 HF1 hz2 hz3 hwz Hq
  go_loopg [] (N+1) (fun q W=>∃ (o c:Nat) (m:List TI) (v:Value) (css:List (List Value)) (A:List Ru),Hid (PaSt w b R g o c m v css A W) ∧ Hid (Ends m) ∧ Hid (Pol.NN m) ∧ Hid (m.length < q ∧ A.length+m.length ≤ N) ∧ Hid (K=Pol.rules q (6 * N+7) A m))
  case atStart=>exact ⟨_,_,_,_,_,_,hST.out,HE.out,HNN.out,⟨by have:=HLN.out;omega,by have:=HLN.out;simp only [List.length_nil];omega⟩,HK.out.symm⟩
  case round =>
   clear hST HE HNN HLN HK
   obtain ⟨o,c,m,v,css,A,H,HE,HNN,HLL,HK⟩:=hrel
   obtain ⟨t,l1,rfl⟩:=HE.out.cons
   cases gk with
   | zero=>exact absurd HLL.out.1 (by omega)
   | succ q =>
    obtain ⟨tk,ts,tn,tp⟩:=t
    obtain ⟨qv,qc,rfl⟩:=own_form H.out.own
    have a0:wr.cell? ⟨g,o,none⟩=some (.int .i64 tk):=by have h9:=(H.out.rd.tk 0 _ rfl).1;simpa using h9
    have c0:=H.out.rd.c0
    have hlc:=H.out.rd.lc
    have hm:=H.out.rd.cm
    have hne:=H.out.rd.ne
    rw [List.length_cons] at c0 hlc
    unfold maxLen at hm
    have xf:∀ i,wr.frozen? ⟨b,i,none⟩=false:=fun i=>Lib.frozen_of_heap H.out.b2 i
    have x0:wr.cell? ⟨b,0,none⟩=some (.slice qv A.length qc):=by rw [Lib.cell_of_heap H.out.b2];rfl
    have yf:∀ i,wr.frozen? ⟨(b+1),i,none⟩=false:=fun i=>Lib.frozen_of_heap H.out.b3 i
    have y0:wr.cell? ⟨(b+1),0,none⟩=some (.nilIface):=by rw [Lib.cell_of_heap H.out.b3];rfl
    by_cases h5:tk=5
    ·have HK5:Hid (K=.ok A):=by show _=_;rw [HK.out,Pol.rules,if_pos h5]
     subst h5
     have h55:((5:Int) != 5)=false:=rfl
     have hx2:=H.out.b2
     have hx3:=H.out.b3
     clear hx2 hx3
     have HZ:=Lib.hid H.out.laid
     go_wp2_with fail
     obtain ⟨Z,hZ⟩:∃ Z,(wr.setCell ⟨b,0,none⟩ (.slice qv A.length qc)).setCell ⟨b+1,0,none⟩ .nilIface=Z:=⟨_,rfl⟩
     rw [hZ] at HZ ⊢
     clear hZ
     refine leaves_cons (f:=17) (args:=#[.pointer (some ⟨b,0,none⟩),.pointer (some ⟨b+1,0,none⟩)]) (by simp) (by simp [go_sem]) ?_
     refine (catch_idle b (b+1) Z).mono ?_
     rintro e u' w'' ⟨rfl,rfl,rfl⟩
     refine ⟨.tuple #[.slice qv A.length qc,.nilIface],parse_res _ _ b qv A.length qc .nilIface rfl rfl HZ.out.b2 HZ.out.b3,_,_,rfl,?_⟩
     rw [HPP.out,HK5.out]
     exact ⟨HZ.out.out,rfl,HZ.out.f⟩
    ·have h55:(tk != 5)=true:=by simpa using h5
     have HN5:=Lib.hid h5
     clear h5
     by_cases h16:A.length=16
     ·have e16:((A.length:Int) == 16)=true:=beq_iff_eq.2 (by omega)
      have H16:=Lib.hid h16
      clear h16
      cases hp1:Pol.is (⟨tk,ts,tn,tp⟩ :: l1) 1 [112,101,114,109,105,116] with
      | true =>
       have HK5:Hid (K=.error (tp,132)):=by show _=_;rw [HK.out,Pol.rules,if_neg HN5.out,if_pos ⟨H16.out,Or.inl hp1⟩]
       have HP1:=Lib.hid hp1
       clear hp1
       have HN1:=Lib.hid (rd_next_is wr R g _ _ _ _ 0 1 ⟨#[112,101,114,109,105,116]⟩ true H.out.rd HP1.out)
       have HN3:=Lib.hid (rd_fail wr R g _ _ _ _ 0 132 H.out.rd)
       go_wp2_with fail
       refine HN1.out.mono ?_
       rintro e w2 ⟨rfl,rfl⟩
       go_wp2_with fail
       refine HN3.out.mono ?_
       intro e W9 hs
       obtain ⟨b9,hb9,rfl,hrow9,hf9⟩:=hs
       show _
       go_wp2_with fail
       have hk2:=hf9.row H.out.b2 (by have:=H.out.bR;simp <;> omega)
       have hk3:=hf9.row H.out.b3 (by have:=H.out.bR;simp <;> omega)
       refine leaves_cons (f:=17) (args:=#[.pointer (some ⟨b,0,none⟩),.pointer (some ⟨b+1,0,none⟩)]) (by simp) (by simp [go_sem]) ?_
       refine (catch_stop b (b+1) b9 [] _ W9 hk2 hk3 (by omega)).mono ?_
       rintro e u' Z ⟨rfl,rfl,k2,k3,k4⟩
       refine ⟨.tuple #[.slice none 0 0,.iface 46 (.pointer (some ⟨b9,0,none⟩))],parse_res _ _ b none 0 0 _ rfl rfl k2 k3,_,_,rfl,?_⟩
       rw [HPP.out,HK5.out]
       exact H.out.stopped hb9 hrow9 (hf9.sub) k4 (⟨HNN.out ⟨tk,ts,tn,tp⟩ (by simp),by decide⟩)
      | false =>
       have HP1:=Lib.hid hp1
       clear hp1
       have HN1:=Lib.hid (rd_next_is wr R g _ _ _ _ 0 1 ⟨#[112,101,114,109,105,116]⟩ false H.out.rd HP1.out)
       cases hp2:Pol.is (⟨tk,ts,tn,tp⟩ :: l1) 1 [100,101,110,121] with
       | true =>
        have HK5:Hid (K=.error (tp,132)):=by show _=_;rw [HK.out,Pol.rules,if_neg HN5.out,if_pos ⟨H16.out,Or.inr hp2⟩]
        have HP2:=Lib.hid hp2
        clear hp2
        have HN2:=Lib.hid (rd_next_is wr R g _ _ _ _ 0 1 ⟨#[100,101,110,121]⟩ true H.out.rd HP2.out)
        have HN3:=Lib.hid (rd_fail wr R g _ _ _ _ 0 132 H.out.rd)
        go_wp2_with fail
        refine HN1.out.mono ?_
        rintro e w2 ⟨rfl,rfl⟩
        go_wp2_with fail
        refine HN2.out.mono ?_
        rintro e w2 ⟨rfl,rfl⟩
        go_wp2_with fail
        refine HN3.out.mono ?_
        intro e W9 hs
        obtain ⟨b9,hb9,rfl,hrow9,hf9⟩:=hs
        show _
        go_wp2_with fail
        have hk2:=hf9.row H.out.b2 (by have:=H.out.bR;simp <;> omega)
        have hk3:=hf9.row H.out.b3 (by have:=H.out.bR;simp <;> omega)
        refine leaves_cons (f:=17) (args:=#[.pointer (some ⟨b,0,none⟩),.pointer (some ⟨b+1,0,none⟩)]) (by simp) (by simp [go_sem]) ?_
        refine (catch_stop b (b+1) b9 [] _ W9 hk2 hk3 (by omega)).mono ?_
        rintro e u' Z ⟨rfl,rfl,k2,k3,k4⟩
        refine ⟨.tuple #[.slice none 0 0,.iface 46 (.pointer (some ⟨b9,0,none⟩))],parse_res _ _ b none 0 0 _ rfl rfl k2 k3,_,_,rfl,?_⟩
        rw [HPP.out,HK5.out]
        exact H.out.stopped hb9 hrow9 (hf9.sub) k4 (⟨HNN.out ⟨tk,ts,tn,tp⟩ (by simp),by decide⟩)
       | false =>
        have HK5:Hid (K=match Pol.rule (6 * N+7) (⟨tk,ts,tn,tp⟩ :: l1) with | .error e=>.error e | .ok (x,m)=>Pol.rules q (6 * N+7) (A ++ [x]) m):=by show _=_;rw [HK.out,Pol.rules,if_neg HN5.out,if_neg (by rw [HP1.out,hp2];simp)];try (rcases Pol.rule (6 * N+7) (⟨tk,ts,tn,tp⟩ :: l1) with e | ⟨x,m⟩ <;> rfl)
        have HP2:=Lib.hid hp2
        clear hp2
        have HN2:=Lib.hid (rd_next_is wr R g _ _ _ _ 0 1 ⟨#[100,101,110,121]⟩ false H.out.rd HP2.out)
        go_wp2_with fail
        refine HN1.out.mono ?_
        rintro e w2 ⟨rfl,rfl⟩
        go_wp2_with fail
        refine HN2.out.mono ?_
        rintro e w2 ⟨rfl,rfl⟩
        clear HN1 HN2
        go_wp2_with fail
        have HLN:=Lib.hid HLL.out.2
        have HRL:Hid (∀ U o c,PaSt w b R g o c (⟨tk,ts,tn,tp⟩ :: l1) (.slice qv A.length qc) css A U → Calls Tryz.prog 20 #[.pointer (some ⟨R,0,none⟩)] U (RuleDone R g 0 U (Pol.rule (6 * N+7) (⟨tk,ts,tn,tp⟩ :: l1)))):=fun U o c h =>
         rule_all (6 * N+6) U R g o c _ h.rd HE.out (Pol.rule_fed (by have:=HLN.out;simp only [List.length_cons] at this ⊢;omega))
        have HNT:=Lib.hid (Pol.rule_nat (6 * N+7) (⟨tk,ts,tn,tp⟩ :: l1) HNN.out)
        have HLE:Hid (∀ x m,Pol.rule (6 * N+7) (⟨tk,ts,tn,tp⟩ :: l1)=.ok (x,m) → m.length < (⟨tk,ts,tn,tp⟩ :: l1).length ∧ Ends m):=fun x m h=>⟨(Pol.rule_len h).1,(Pol.rule_len h).2 HE.out⟩
        obtain ⟨qq,hqq⟩:∃ qq,Pol.rule (6 * N+7) (⟨tk,ts,tn,tp⟩ :: l1)=qq:=⟨_,rfl⟩
        rw [hqq] at HRL HNT HLE HK5
        clear hqq
        have H0:=Lib.hid (H.out.fr (Fr.refl [] _).drew)
        cases qq with
        | error pe =>
         obtain ⟨pp,pn⟩:=pe
         have HK5:Hid (K=.error (pp,pn)):=HK5.out
         have HPN:=Lib.hid (HNT.out.2 pp pn rfl)
         have H:=H0
         refine wp_region_held_drew (S:=fun _=>True) (by kernel_rfl) (trivial) (fun hHeld=>?_)
         refine wpAnyH_ready (rs:=[0,1]) (by kernel_rfl) (by simp) ?_
         refine AllReadyH.cons rfl (fun K hK=>?_) (AllReadyH.cons rfl (fun K hK=>?_) AllReadyH.nil)
         ·go_simp
          refine hK.out _ _ (trivial) (fun hHeld=>?_)
          clear hK K
          try simp only [Act.put,List.setIfInBounds_toArray,List.set_cons_zero,List.set_cons_succ]
          refine wpAnyH_ready (rs:=[1]) (by kernel_rfl) (by simp) ?_
          refine AllReadyH.cons rfl (fun K hK=>?_) AllReadyH.nil
          go_simp
          refine hK.out _ _ (trivial) (fun hHeld=>?_)
          clear hK K
          try simp only [Act.put,List.setIfInBounds_toArray,List.set_cons_zero,List.set_cons_succ]
          refine wpAnyH_ready (rs:=[2]) (by kernel_rfl) (by simp) ?_
          refine AllReadyH.cons rfl (fun K hK=>?_) AllReadyH.nil
          go_simp
          go_at_call 20
          refine (HRL.out _ _ _ H0.out).mono ?_
          intro e W9 hd
          have hs:Stops [R] _ pp pn e W9:=hd
          obtain ⟨b9,hb9,rfl,hrow9,hf9⟩:=hs
          show _
          go_wp2_with fail
          have hk2:=hf9.row H.out.b2 (by have:=H.out.bR;simp <;> omega)
          have hk3:=hf9.row H.out.b3 (by have:=H.out.bR;simp <;> omega)
          refine leaves_cons (f:=17) (args:=#[.pointer (some ⟨b,0,none⟩),.pointer (some ⟨b+1,0,none⟩)]) (by simp) (by simp [go_sem]) ?_
          refine (catch_stop b (b+1) b9 [] _ W9 hk2 hk3 (by omega)).mono ?_
          rintro e u' Z ⟨rfl,rfl,k2,k3,k4⟩
          refine ⟨.tuple #[.slice none 0 0,.iface 46 (.pointer (some ⟨b9,0,none⟩))],parse_res _ _ b none 0 0 _ rfl rfl k2 k3,_,_,rfl,?_⟩
          rw [HPP.out,HK5.out]
          exact H.out.stopped hb9 hrow9 (hf9) k4 (HPN.out)
         ·go_simp
          refine hK.out _ _ (trivial) (fun hHeld=>?_)
          clear hK K
          try simp only [Act.put,List.setIfInBounds_toArray,List.set_cons_zero,List.set_cons_succ]
          refine wpAnyH_ready (rs:=[0,2]) (by kernel_rfl) (by simp) ?_
          refine AllReadyH.cons rfl (fun K hK=>?_) (AllReadyH.cons rfl (fun K hK=>?_) AllReadyH.nil)
          ·go_simp
           refine hK.out _ _ (trivial) (fun hHeld=>?_)
           clear hK K
           try simp only [Act.put,List.setIfInBounds_toArray,List.set_cons_zero,List.set_cons_succ]
           refine wpAnyH_ready (rs:=[2]) (by kernel_rfl) (by simp) ?_
           refine AllReadyH.cons rfl (fun K hK=>?_) AllReadyH.nil
           go_simp
           go_at_call 20
           refine (HRL.out _ _ _ H0.out).mono ?_
           intro e W9 hd
           have hs:Stops [R] _ pp pn e W9:=hd
           obtain ⟨b9,hb9,rfl,hrow9,hf9⟩:=hs
           show _
           go_wp2_with fail
           have hk2:=hf9.row H.out.b2 (by have:=H.out.bR;simp <;> omega)
           have hk3:=hf9.row H.out.b3 (by have:=H.out.bR;simp <;> omega)
           refine leaves_cons (f:=17) (args:=#[.pointer (some ⟨b,0,none⟩),.pointer (some ⟨b+1,0,none⟩)]) (by simp) (by simp [go_sem]) ?_
           refine (catch_stop b (b+1) b9 [] _ W9 hk2 hk3 (by omega)).mono ?_
           rintro e u' Z ⟨rfl,rfl,k2,k3,k4⟩
           refine ⟨.tuple #[.slice none 0 0,.iface 46 (.pointer (some ⟨b9,0,none⟩))],parse_res _ _ b none 0 0 _ rfl rfl k2 k3,_,_,rfl,?_⟩
           rw [HPP.out,HK5.out]
           exact H.out.stopped hb9 hrow9 (hf9) k4 (HPN.out)
          ·go_simp
           go_at_call 20
           refine (HRL.out _ _ _ H0.out).mono ?_
           intro e W9 hd
           have hs:Stops [R] _ pp pn e W9:=hd
           obtain ⟨b9,hb9,rfl,hrow9,hf9⟩:=hs
           show _
           go_wp2_with fail
           have hk2:=hf9.row H.out.b2 (by have:=H.out.bR;simp <;> omega)
           have hk3:=hf9.row H.out.b3 (by have:=H.out.bR;simp <;> omega)
           refine leaves_cons (f:=17) (args:=#[.pointer (some ⟨b,0,none⟩),.pointer (some ⟨b+1,0,none⟩)]) (by simp) (by simp [go_sem]) ?_
           refine (catch_stop b (b+1) b9 [] _ W9 hk2 hk3 (by omega)).mono ?_
           rintro e u' Z ⟨rfl,rfl,k2,k3,k4⟩
           refine ⟨.tuple #[.slice none 0 0,.iface 46 (.pointer (some ⟨b9,0,none⟩))],parse_res _ _ b none 0 0 _ rfl rfl k2 k3,_,_,rfl,?_⟩
           rw [HPP.out,HK5.out]
           exact H.out.stopped hb9 hrow9 (hf9) k4 (HPN.out)
        | ok xm =>
         obtain ⟨x9,m9⟩:=xm
         have HK6:Hid (K=Pol.rules q (6 * N+7) (A ++ [x9]) m9):=HK5.out
         have HEM:=Lib.hid (HLE.out x9 m9 rfl)
         have HNM:=Lib.hid (HNT.out.1 x9 m9 rfl)
         refine wp_region_held_drew (S:=fun _=>True) (by kernel_rfl) (trivial) (fun hHeld=>?_)
         refine wpAnyH_ready (rs:=[0,1]) (by kernel_rfl) (by simp) ?_
         refine AllReadyH.cons rfl (fun K hK=>?_) (AllReadyH.cons rfl (fun K hK=>?_) AllReadyH.nil)
         ·go_simp
          refine hK.out _ _ (trivial) (fun hHeld=>?_)
          clear hK K
          try simp only [Act.put,List.setIfInBounds_toArray,List.set_cons_zero,List.set_cons_succ]
          refine wpAnyH_ready (rs:=[1]) (by kernel_rfl) (by simp) ?_
          refine AllReadyH.cons rfl (fun K hK=>?_) AllReadyH.nil
          go_simp
          refine hK.out _ _ (trivial) (fun hHeld=>?_)
          clear hK K
          try simp only [Act.put,List.setIfInBounds_toArray,List.set_cons_zero,List.set_cons_succ]
          refine wpAnyH_ready (rs:=[2]) (by kernel_rfl) (by simp) ?_
          refine AllReadyH.cons rfl (fun K hK=>?_) AllReadyH.nil
          go_simp
          go_at_call 20
          refine (HRL.out _ _ _ H0.out).mono ?_
          rintro e w3 ⟨cs,rfl,hrep,hf3,o3,c3,hr3⟩
          obtain ⟨q1,k1,c1,q2,k2,c2,rfl⟩:=hrep.form
          have H3:=Lib.hid (H0.out.step hf3 hr3)
          have HX3:Hid (RuRep w3 (fun i=>R+1 ≤ i ∧ (Value.slice qv A.length qc).ownBlock ≠ some i) [.bool x9.deny,.slice q1 k1 c1,.slice q2 k2 c2,.int .i64 x9.p] x9):=hrep.mono (fun i hi h=>by
           have h9:wr.heap.size ≤ i:=h
           have h8:=row_lt H.out.rd.row
           exact ⟨by omega,fun h7=>by have:=own_lt H.out.own _ h7;omega⟩)
          clear hrep hf3 hr3 x0 xf
          refine hK.out _ _ (trivial) (fun hHeld=>?_)
          clear hK K
          try simp only [Act.put,List.setIfInBounds_toArray,List.set_cons_zero,List.set_cons_succ]
          refine wpAnyH_ready (rs:=[3]) (by kernel_rfl) (by simp) ?_
          refine AllReadyH.cons rfl (fun K hK=>?_) AllReadyH.nil
          go_simp
          refine hK.out _ _ (trivial) (fun hHeld=>?_)
          clear hK K
          try simp only [Act.put,List.setIfInBounds_toArray,List.set_cons_zero,List.set_cons_succ]
          have hbw4:b < w3.heap.size:=row_lt H3.out.b2
          refine wpAnyH_fresh (fun U=>PaSt w b R g o3 c3 m9 (.slice qv A.length qc) css A U ∧ U.heap[w3.heap.size]?=some (.cells #[.bool x9.deny,.slice q1 k1 c1,.slice q2 k2 c2,.int .i64 x9.p] 40 (0,0)) ∧ RuRep U (fun i=>R+1 ≤ i ∧ (Value.slice qv A.length qc).ownBlock ≠ some i) [.bool x9.deny,.slice q1 k1 c1,.slice q2 k2 c2,.int .i64 x9.p] x9) ⟨H3.out.fr ((Fr.refl [] _).alloc _),heap_alloc_last _ _,HX3.out.fr ((Fr.refl [] _).alloc _) (fun y hy _=>by cases hy)⟩ ?_
          rintro U ⟨hu1,hu2,hu3⟩
          have HU1:=Lib.hid hu1
          have hownA:=hu1.own
          have hnews:=World.news_of_block hu2
          have hR9:=row_lt hu1.rd.row
          have hA9:A.length ≤ 513:=by have:=HLN.out;omega
          obtain ⟨i0,hi,hz0,hz1',hz2'⟩:=info_parts infoRu
          refine wpAnyH_ready (rs:=[4]) (by kernel_rfl) (by simp) ?_
          refine AllReadyH.cons rfl (fun K hK=>?_) AllReadyH.nil
          refine step_append_lies U (by rfl) (.tmp 39) (.tmp 42) _ (by rfl) (R+1) 40 i0 _ 4 64 Tryz.underlying23 hi hz0 hz1' hz2' rfl (by decide) _ A.length _ (by rfl) hownA _ 1 1 [.bool x9.deny,.slice q1 k1 c1,.slice q2 k2 c2,.int .i64 x9.p] (by rfl) rfl hnews (by simp [Value.oneCell']) (by decide) (by unfold maxLen;omega) (by omega) (by omega) _ rfl ?_
          intro g9 cap9 w9 ho hg hgg hgl
          have HG:=Lib.hid (hu1.grow hu3 ho hg (hgg.imp id (fun h=>by rw [h];exact Nat.le_refl _)))
          have hb9:=(Fr.of_grown hg).row hu1.b2 (fun hc=>by have:=hu1.own_base b (by simpa using hc);have:=hu1.bR;omega)
          have HB9:=Lib.hid hb9
          clear hu1 hu2 hu3 hownA hnews ho hg hgg hb9 hR9 hz0 hz1' hz2' hi
          refine hK.out _ _ (trivial) (fun hHeld=>?_)
          clear hK K
          try simp only [Act.put,List.setIfInBounds_toArray,List.set_cons_zero,List.set_cons_succ]
          have uf:∀ i,w9.frozen? ⟨b,i,none⟩=false:=fun i=>Lib.frozen_of_heap HB9.out i
          have u0:w9.cell? ⟨b,0,none⟩=some (.slice qv A.length qc):=by rw [Lib.cell_of_heap HB9.out];rfl
          refine wpAnyH_ready (rs:=[5]) (by kernel_rfl) (by simp) ?_
          refine AllReadyH.cons rfl (fun K hK=>?_) AllReadyH.nil
          go_simp
          refine hK.out _ _ (trivial) (fun hHeld=>?_)
          clear hK K
          try simp only [Act.put,List.setIfInBounds_toArray,List.set_cons_zero,List.set_cons_succ]
          refine wpAnyH_done (by kernel_rfl) ?_ _
          go_wp2_with fail
          go_roundg q
          case measure=>omega
          case rel=>exact ⟨o3,c3,m9,_,_,A ++ [x9],HG.out,HEM.out.2,HNM.out,⟨by have:=HEM.out.1;have:=HLL.out.1;simp only [List.length_cons] at *;omega,by have:=HEM.out.1;have:=HLN.out;simp only [List.length_cons,List.length_append,List.length_nil] at *;omega⟩,HK6.out⟩
         ·go_simp
          refine hK.out _ _ (trivial) (fun hHeld=>?_)
          clear hK K
          try simp only [Act.put,List.setIfInBounds_toArray,List.set_cons_zero,List.set_cons_succ]
          refine wpAnyH_ready (rs:=[0,2]) (by kernel_rfl) (by simp) ?_
          refine AllReadyH.cons rfl (fun K hK=>?_) (AllReadyH.cons rfl (fun K hK=>?_) AllReadyH.nil)
          ·go_simp
           refine hK.out _ _ (trivial) (fun hHeld=>?_)
           clear hK K
           try simp only [Act.put,List.setIfInBounds_toArray,List.set_cons_zero,List.set_cons_succ]
           refine wpAnyH_ready (rs:=[2]) (by kernel_rfl) (by simp) ?_
           refine AllReadyH.cons rfl (fun K hK=>?_) AllReadyH.nil
           go_simp
           go_at_call 20
           refine (HRL.out _ _ _ H0.out).mono ?_
           rintro e w3 ⟨cs,rfl,hrep,hf3,o3,c3,hr3⟩
           obtain ⟨q1,k1,c1,q2,k2,c2,rfl⟩:=hrep.form
           have H3:=Lib.hid (H0.out.step hf3 hr3)
           have HX3:Hid (RuRep w3 (fun i=>R+1 ≤ i ∧ (Value.slice qv A.length qc).ownBlock ≠ some i) [.bool x9.deny,.slice q1 k1 c1,.slice q2 k2 c2,.int .i64 x9.p] x9):=hrep.mono (fun i hi h=>by
            have h9:wr.heap.size ≤ i:=h
            have h8:=row_lt H.out.rd.row
            exact ⟨by omega,fun h7=>by have:=own_lt H.out.own _ h7;omega⟩)
           clear hrep hf3 hr3 x0 xf
           refine hK.out _ _ (trivial) (fun hHeld=>?_)
           clear hK K
           try simp only [Act.put,List.setIfInBounds_toArray,List.set_cons_zero,List.set_cons_succ]
           refine wpAnyH_ready (rs:=[3]) (by kernel_rfl) (by simp) ?_
           refine AllReadyH.cons rfl (fun K hK=>?_) AllReadyH.nil
           go_simp
           refine hK.out _ _ (trivial) (fun hHeld=>?_)
           clear hK K
           try simp only [Act.put,List.setIfInBounds_toArray,List.set_cons_zero,List.set_cons_succ]
           have hbw4:b < w3.heap.size:=row_lt H3.out.b2
           refine wpAnyH_fresh (fun U=>PaSt w b R g o3 c3 m9 (.slice qv A.length qc) css A U ∧ U.heap[w3.heap.size]?=some (.cells #[.bool x9.deny,.slice q1 k1 c1,.slice q2 k2 c2,.int .i64 x9.p] 40 (0,0)) ∧ RuRep U (fun i=>R+1 ≤ i ∧ (Value.slice qv A.length qc).ownBlock ≠ some i) [.bool x9.deny,.slice q1 k1 c1,.slice q2 k2 c2,.int .i64 x9.p] x9) ⟨H3.out.fr ((Fr.refl [] _).alloc _),heap_alloc_last _ _,HX3.out.fr ((Fr.refl [] _).alloc _) (fun y hy _=>by cases hy)⟩ ?_
           rintro U ⟨hu1,hu2,hu3⟩
           have HU1:=Lib.hid hu1
           have hownA:=hu1.own
           have hnews:=World.news_of_block hu2
           have hR9:=row_lt hu1.rd.row
           have hA9:A.length ≤ 513:=by have:=HLN.out;omega
           obtain ⟨i0,hi,hz0,hz1',hz2'⟩:=info_parts infoRu
           refine wpAnyH_ready (rs:=[4]) (by kernel_rfl) (by simp) ?_
           refine AllReadyH.cons rfl (fun K hK=>?_) AllReadyH.nil
           refine step_append_lies U (by rfl) (.tmp 39) (.tmp 42) _ (by rfl) (R+1) 40 i0 _ 4 64 Tryz.underlying23 hi hz0 hz1' hz2' rfl (by decide) _ A.length _ (by rfl) hownA _ 1 1 [.bool x9.deny,.slice q1 k1 c1,.slice q2 k2 c2,.int .i64 x9.p] (by rfl) rfl hnews (by simp [Value.oneCell']) (by decide) (by unfold maxLen;omega) (by omega) (by omega) _ rfl ?_
           intro g9 cap9 w9 ho hg hgg hgl
           have HG:=Lib.hid (hu1.grow hu3 ho hg (hgg.imp id (fun h=>by rw [h];exact Nat.le_refl _)))
           have hb9:=(Fr.of_grown hg).row hu1.b2 (fun hc=>by have:=hu1.own_base b (by simpa using hc);have:=hu1.bR;omega)
           have HB9:=Lib.hid hb9
           clear hu1 hu2 hu3 hownA hnews ho hg hgg hb9 hR9 hz0 hz1' hz2' hi
           refine hK.out _ _ (trivial) (fun hHeld=>?_)
           clear hK K
           try simp only [Act.put,List.setIfInBounds_toArray,List.set_cons_zero,List.set_cons_succ]
           have uf:∀ i,w9.frozen? ⟨b,i,none⟩=false:=fun i=>Lib.frozen_of_heap HB9.out i
           have u0:w9.cell? ⟨b,0,none⟩=some (.slice qv A.length qc):=by rw [Lib.cell_of_heap HB9.out];rfl
           refine wpAnyH_ready (rs:=[5]) (by kernel_rfl) (by simp) ?_
           refine AllReadyH.cons rfl (fun K hK=>?_) AllReadyH.nil
           go_simp
           refine hK.out _ _ (trivial) (fun hHeld=>?_)
           clear hK K
           try simp only [Act.put,List.setIfInBounds_toArray,List.set_cons_zero,List.set_cons_succ]
           refine wpAnyH_done (by kernel_rfl) ?_ _
           go_wp2_with fail
           go_roundg q
           case measure=>omega
           case rel=>exact ⟨o3,c3,m9,_,_,A ++ [x9],HG.out,HEM.out.2,HNM.out,⟨by have:=HEM.out.1;have:=HLL.out.1;simp only [List.length_cons] at *;omega,by have:=HEM.out.1;have:=HLN.out;simp only [List.length_cons,List.length_append,List.length_nil] at *;omega⟩,HK6.out⟩
          ·go_simp
           go_at_call 20
           refine (HRL.out _ _ _ H0.out).mono ?_
           rintro e w3 ⟨cs,rfl,hrep,hf3,o3,c3,hr3⟩
           obtain ⟨q1,k1,c1,q2,k2,c2,rfl⟩:=hrep.form
           have H3:=Lib.hid (H0.out.step hf3 hr3)
           have HX3:Hid (RuRep w3 (fun i=>R+1 ≤ i ∧ (Value.slice qv A.length qc).ownBlock ≠ some i) [.bool x9.deny,.slice q1 k1 c1,.slice q2 k2 c2,.int .i64 x9.p] x9):=hrep.mono (fun i hi h=>by
            have h9:wr.heap.size ≤ i:=h
            have h8:=row_lt H.out.rd.row
            exact ⟨by omega,fun h7=>by have:=own_lt H.out.own _ h7;omega⟩)
           clear hrep hf3 hr3 x0 xf
           refine hK.out _ _ (trivial) (fun hHeld=>?_)
           clear hK K
           try simp only [Act.put,List.setIfInBounds_toArray,List.set_cons_zero,List.set_cons_succ]
           have xf:∀ i,w3.frozen? ⟨b,i,none⟩=false:=fun i=>Lib.frozen_of_heap H3.out.b2 i
           have x0:w3.cell? ⟨b,0,none⟩=some (.slice qv A.length qc):=by rw [Lib.cell_of_heap H3.out.b2];rfl
           refine wpAnyH_ready (rs:=[0,3]) (by kernel_rfl) (by simp) ?_
           refine AllReadyH.cons rfl (fun K hK=>?_) (AllReadyH.cons rfl (fun K hK=>?_) AllReadyH.nil)
           ·go_simp
            refine hK.out _ _ (trivial) (fun hHeld=>?_)
            clear hK K
            try simp only [Act.put,List.setIfInBounds_toArray,List.set_cons_zero,List.set_cons_succ]
            refine wpAnyH_ready (rs:=[3]) (by kernel_rfl) (by simp) ?_
            refine AllReadyH.cons rfl (fun K hK=>?_) AllReadyH.nil
            go_simp
            refine hK.out _ _ (trivial) (fun hHeld=>?_)
            clear hK K
            try simp only [Act.put,List.setIfInBounds_toArray,List.set_cons_zero,List.set_cons_succ]
            have hbw4:b < w3.heap.size:=row_lt H3.out.b2
            refine wpAnyH_fresh (fun U=>PaSt w b R g o3 c3 m9 (.slice qv A.length qc) css A U ∧ U.heap[w3.heap.size]?=some (.cells #[.bool x9.deny,.slice q1 k1 c1,.slice q2 k2 c2,.int .i64 x9.p] 40 (0,0)) ∧ RuRep U (fun i=>R+1 ≤ i ∧ (Value.slice qv A.length qc).ownBlock ≠ some i) [.bool x9.deny,.slice q1 k1 c1,.slice q2 k2 c2,.int .i64 x9.p] x9) ⟨H3.out.fr ((Fr.refl [] _).alloc _),heap_alloc_last _ _,HX3.out.fr ((Fr.refl [] _).alloc _) (fun y hy _=>by cases hy)⟩ ?_
            rintro U ⟨hu1,hu2,hu3⟩
            have HU1:=Lib.hid hu1
            have hownA:=hu1.own
            have hnews:=World.news_of_block hu2
            have hR9:=row_lt hu1.rd.row
            have hA9:A.length ≤ 513:=by have:=HLN.out;omega
            obtain ⟨i0,hi,hz0,hz1',hz2'⟩:=info_parts infoRu
            refine wpAnyH_ready (rs:=[4]) (by kernel_rfl) (by simp) ?_
            refine AllReadyH.cons rfl (fun K hK=>?_) AllReadyH.nil
            refine step_append_lies U (by rfl) (.tmp 39) (.tmp 42) _ (by rfl) (R+1) 40 i0 _ 4 64 Tryz.underlying23 hi hz0 hz1' hz2' rfl (by decide) _ A.length _ (by rfl) hownA _ 1 1 [.bool x9.deny,.slice q1 k1 c1,.slice q2 k2 c2,.int .i64 x9.p] (by rfl) rfl hnews (by simp [Value.oneCell']) (by decide) (by unfold maxLen;omega) (by omega) (by omega) _ rfl ?_
            intro g9 cap9 w9 ho hg hgg hgl
            have HG:=Lib.hid (hu1.grow hu3 ho hg (hgg.imp id (fun h=>by rw [h];exact Nat.le_refl _)))
            have hb9:=(Fr.of_grown hg).row hu1.b2 (fun hc=>by have:=hu1.own_base b (by simpa using hc);have:=hu1.bR;omega)
            have HB9:=Lib.hid hb9
            clear hu1 hu2 hu3 hownA hnews ho hg hgg hb9 hR9 hz0 hz1' hz2' hi
            refine hK.out _ _ (trivial) (fun hHeld=>?_)
            clear hK K
            try simp only [Act.put,List.setIfInBounds_toArray,List.set_cons_zero,List.set_cons_succ]
            have uf:∀ i,w9.frozen? ⟨b,i,none⟩=false:=fun i=>Lib.frozen_of_heap HB9.out i
            have u0:w9.cell? ⟨b,0,none⟩=some (.slice qv A.length qc):=by rw [Lib.cell_of_heap HB9.out];rfl
            refine wpAnyH_ready (rs:=[5]) (by kernel_rfl) (by simp) ?_
            refine AllReadyH.cons rfl (fun K hK=>?_) AllReadyH.nil
            go_simp
            refine hK.out _ _ (trivial) (fun hHeld=>?_)
            clear hK K
            try simp only [Act.put,List.setIfInBounds_toArray,List.set_cons_zero,List.set_cons_succ]
            refine wpAnyH_done (by kernel_rfl) ?_ _
            go_wp2_with fail
            go_roundg q
            case measure=>omega
            case rel=>exact ⟨o3,c3,m9,_,_,A ++ [x9],HG.out,HEM.out.2,HNM.out,⟨by have:=HEM.out.1;have:=HLL.out.1;simp only [List.length_cons] at *;omega,by have:=HEM.out.1;have:=HLN.out;simp only [List.length_cons,List.length_append,List.length_nil] at *;omega⟩,HK6.out⟩
           ·go_simp
            refine hK.out _ _ (trivial) (fun hHeld=>?_)
            clear hK K
            try simp only [Act.put,List.setIfInBounds_toArray,List.set_cons_zero,List.set_cons_succ]
            have hbw3:b < w3.heap.size:=row_lt H3.out.b2
            refine wpAnyH_ready (rs:=[0]) (by kernel_rfl) (by simp) ?_
            refine AllReadyH.cons rfl (fun K hK=>?_) AllReadyH.nil
            go_simp
            refine hK.out _ _ (trivial) (fun hHeld=>?_)
            clear hK K
            try simp only [Act.put,List.setIfInBounds_toArray,List.set_cons_zero,List.set_cons_succ]
            have hbw4:b < w3.heap.size:=row_lt H3.out.b2
            refine wpAnyH_fresh (fun U=>PaSt w b R g o3 c3 m9 (.slice qv A.length qc) css A U ∧ U.heap[w3.heap.size]?=some (.cells #[.bool x9.deny,.slice q1 k1 c1,.slice q2 k2 c2,.int .i64 x9.p] 40 (0,0)) ∧ RuRep U (fun i=>R+1 ≤ i ∧ (Value.slice qv A.length qc).ownBlock ≠ some i) [.bool x9.deny,.slice q1 k1 c1,.slice q2 k2 c2,.int .i64 x9.p] x9) ⟨H3.out.fr ((Fr.refl [] _).alloc _),heap_alloc_last _ _,HX3.out.fr ((Fr.refl [] _).alloc _) (fun y hy _=>by cases hy)⟩ ?_
            rintro U ⟨hu1,hu2,hu3⟩
            have HU1:=Lib.hid hu1
            have hownA:=hu1.own
            have hnews:=World.news_of_block hu2
            have hR9:=row_lt hu1.rd.row
            have hA9:A.length ≤ 513:=by have:=HLN.out;omega
            obtain ⟨i0,hi,hz0,hz1',hz2'⟩:=info_parts infoRu
            refine wpAnyH_ready (rs:=[4]) (by kernel_rfl) (by simp) ?_
            refine AllReadyH.cons rfl (fun K hK=>?_) AllReadyH.nil
            refine step_append_lies U (by rfl) (.tmp 39) (.tmp 42) _ (by rfl) (R+1) 40 i0 _ 4 64 Tryz.underlying23 hi hz0 hz1' hz2' rfl (by decide) _ A.length _ (by rfl) hownA _ 1 1 [.bool x9.deny,.slice q1 k1 c1,.slice q2 k2 c2,.int .i64 x9.p] (by rfl) rfl hnews (by simp [Value.oneCell']) (by decide) (by unfold maxLen;omega) (by omega) (by omega) _ rfl ?_
            intro g9 cap9 w9 ho hg hgg hgl
            have HG:=Lib.hid (hu1.grow hu3 ho hg (hgg.imp id (fun h=>by rw [h];exact Nat.le_refl _)))
            have hb9:=(Fr.of_grown hg).row hu1.b2 (fun hc=>by have:=hu1.own_base b (by simpa using hc);have:=hu1.bR;omega)
            have HB9:=Lib.hid hb9
            clear hu1 hu2 hu3 hownA hnews ho hg hgg hb9 hR9 hz0 hz1' hz2' hi
            refine hK.out _ _ (trivial) (fun hHeld=>?_)
            clear hK K
            try simp only [Act.put,List.setIfInBounds_toArray,List.set_cons_zero,List.set_cons_succ]
            have uf:∀ i,w9.frozen? ⟨b,i,none⟩=false:=fun i=>Lib.frozen_of_heap HB9.out i
            have u0:w9.cell? ⟨b,0,none⟩=some (.slice qv A.length qc):=by rw [Lib.cell_of_heap HB9.out];rfl
            refine wpAnyH_ready (rs:=[5]) (by kernel_rfl) (by simp) ?_
            refine AllReadyH.cons rfl (fun K hK=>?_) AllReadyH.nil
            go_simp
            refine hK.out _ _ (trivial) (fun hHeld=>?_)
            clear hK K
            try simp only [Act.put,List.setIfInBounds_toArray,List.set_cons_zero,List.set_cons_succ]
            refine wpAnyH_done (by kernel_rfl) ?_ _
            go_wp2_with fail
            go_roundg q
            case measure=>omega
            case rel=>exact ⟨o3,c3,m9,_,_,A ++ [x9],HG.out,HEM.out.2,HNM.out,⟨by have:=HEM.out.1;have:=HLL.out.1;simp only [List.length_cons] at *;omega,by have:=HEM.out.1;have:=HLN.out;simp only [List.length_cons,List.length_append,List.length_nil] at *;omega⟩,HK6.out⟩
     ·have e16:((A.length:Int) == 16)=false:=beq_eq_false_iff_ne.2 (by omega)
      have HK5:Hid (K=match Pol.rule (6 * N+7) (⟨tk,ts,tn,tp⟩ :: l1) with | .error e=>.error e | .ok (x,m)=>Pol.rules q (6 * N+7) (A ++ [x]) m):=by show _=_;rw [HK.out,Pol.rules,if_neg HN5.out,if_neg (fun h=>h16 h.1)];try (rcases Pol.rule (6 * N+7) (⟨tk,ts,tn,tp⟩ :: l1) with e | ⟨x,m⟩ <;> rfl)
      clear h16
      go_wp2_with fail
      have HLN:=Lib.hid HLL.out.2
      have HRL:Hid (∀ U o c,PaSt w b R g o c (⟨tk,ts,tn,tp⟩ :: l1) (.slice qv A.length qc) css A U → Calls Tryz.prog 20 #[.pointer (some ⟨R,0,none⟩)] U (RuleDone R g 0 U (Pol.rule (6 * N+7) (⟨tk,ts,tn,tp⟩ :: l1)))):=fun U o c h =>
       rule_all (6 * N+6) U R g o c _ h.rd HE.out (Pol.rule_fed (by have:=HLN.out;simp only [List.length_cons] at this ⊢;omega))
      have HNT:=Lib.hid (Pol.rule_nat (6 * N+7) (⟨tk,ts,tn,tp⟩ :: l1) HNN.out)
      have HLE:Hid (∀ x m,Pol.rule (6 * N+7) (⟨tk,ts,tn,tp⟩ :: l1)=.ok (x,m) → m.length < (⟨tk,ts,tn,tp⟩ :: l1).length ∧ Ends m):=fun x m h=>⟨(Pol.rule_len h).1,(Pol.rule_len h).2 HE.out⟩
      obtain ⟨qq,hqq⟩:∃ qq,Pol.rule (6 * N+7) (⟨tk,ts,tn,tp⟩ :: l1)=qq:=⟨_,rfl⟩
      rw [hqq] at HRL HNT HLE HK5
      clear hqq
      have H0:=Lib.hid (H.out.fr (Fr.refl [] _).drew)
      cases qq with
      | error pe =>
       obtain ⟨pp,pn⟩:=pe
       have HK5:Hid (K=.error (pp,pn)):=HK5.out
       have HPN:=Lib.hid (HNT.out.2 pp pn rfl)
       have H:=H0
       refine wp_region_held_drew (S:=fun _=>True) (by kernel_rfl) (trivial) (fun hHeld=>?_)
       refine wpAnyH_ready (rs:=[0,1]) (by kernel_rfl) (by simp) ?_
       refine AllReadyH.cons rfl (fun K hK=>?_) (AllReadyH.cons rfl (fun K hK=>?_) AllReadyH.nil)
       ·go_simp
        refine hK.out _ _ (trivial) (fun hHeld=>?_)
        clear hK K
        try simp only [Act.put,List.setIfInBounds_toArray,List.set_cons_zero,List.set_cons_succ]
        refine wpAnyH_ready (rs:=[1]) (by kernel_rfl) (by simp) ?_
        refine AllReadyH.cons rfl (fun K hK=>?_) AllReadyH.nil
        go_simp
        refine hK.out _ _ (trivial) (fun hHeld=>?_)
        clear hK K
        try simp only [Act.put,List.setIfInBounds_toArray,List.set_cons_zero,List.set_cons_succ]
        refine wpAnyH_ready (rs:=[2]) (by kernel_rfl) (by simp) ?_
        refine AllReadyH.cons rfl (fun K hK=>?_) AllReadyH.nil
        go_simp
        go_at_call 20
        refine (HRL.out _ _ _ H0.out).mono ?_
        intro e W9 hd
        have hs:Stops [R] _ pp pn e W9:=hd
        obtain ⟨b9,hb9,rfl,hrow9,hf9⟩:=hs
        show _
        go_wp2_with fail
        have hk2:=hf9.row H.out.b2 (by have:=H.out.bR;simp <;> omega)
        have hk3:=hf9.row H.out.b3 (by have:=H.out.bR;simp <;> omega)
        refine leaves_cons (f:=17) (args:=#[.pointer (some ⟨b,0,none⟩),.pointer (some ⟨b+1,0,none⟩)]) (by simp) (by simp [go_sem]) ?_
        refine (catch_stop b (b+1) b9 [] _ W9 hk2 hk3 (by omega)).mono ?_
        rintro e u' Z ⟨rfl,rfl,k2,k3,k4⟩
        refine ⟨.tuple #[.slice none 0 0,.iface 46 (.pointer (some ⟨b9,0,none⟩))],parse_res _ _ b none 0 0 _ rfl rfl k2 k3,_,_,rfl,?_⟩
        rw [HPP.out,HK5.out]
        exact H.out.stopped hb9 hrow9 (hf9) k4 (HPN.out)
       ·go_simp
        refine hK.out _ _ (trivial) (fun hHeld=>?_)
        clear hK K
        try simp only [Act.put,List.setIfInBounds_toArray,List.set_cons_zero,List.set_cons_succ]
        refine wpAnyH_ready (rs:=[0,2]) (by kernel_rfl) (by simp) ?_
        refine AllReadyH.cons rfl (fun K hK=>?_) (AllReadyH.cons rfl (fun K hK=>?_) AllReadyH.nil)
        ·go_simp
         refine hK.out _ _ (trivial) (fun hHeld=>?_)
         clear hK K
         try simp only [Act.put,List.setIfInBounds_toArray,List.set_cons_zero,List.set_cons_succ]
         refine wpAnyH_ready (rs:=[2]) (by kernel_rfl) (by simp) ?_
         refine AllReadyH.cons rfl (fun K hK=>?_) AllReadyH.nil
         go_simp
         go_at_call 20
         refine (HRL.out _ _ _ H0.out).mono ?_
         intro e W9 hd
         have hs:Stops [R] _ pp pn e W9:=hd
         obtain ⟨b9,hb9,rfl,hrow9,hf9⟩:=hs
         show _
         go_wp2_with fail
         have hk2:=hf9.row H.out.b2 (by have:=H.out.bR;simp <;> omega)
         have hk3:=hf9.row H.out.b3 (by have:=H.out.bR;simp <;> omega)
         refine leaves_cons (f:=17) (args:=#[.pointer (some ⟨b,0,none⟩),.pointer (some ⟨b+1,0,none⟩)]) (by simp) (by simp [go_sem]) ?_
         refine (catch_stop b (b+1) b9 [] _ W9 hk2 hk3 (by omega)).mono ?_
         rintro e u' Z ⟨rfl,rfl,k2,k3,k4⟩
         refine ⟨.tuple #[.slice none 0 0,.iface 46 (.pointer (some ⟨b9,0,none⟩))],parse_res _ _ b none 0 0 _ rfl rfl k2 k3,_,_,rfl,?_⟩
         rw [HPP.out,HK5.out]
         exact H.out.stopped hb9 hrow9 (hf9) k4 (HPN.out)
        ·go_simp
         go_at_call 20
         refine (HRL.out _ _ _ H0.out).mono ?_
         intro e W9 hd
         have hs:Stops [R] _ pp pn e W9:=hd
         obtain ⟨b9,hb9,rfl,hrow9,hf9⟩:=hs
         show _
         go_wp2_with fail
         have hk2:=hf9.row H.out.b2 (by have:=H.out.bR;simp <;> omega)
         have hk3:=hf9.row H.out.b3 (by have:=H.out.bR;simp <;> omega)
         refine leaves_cons (f:=17) (args:=#[.pointer (some ⟨b,0,none⟩),.pointer (some ⟨b+1,0,none⟩)]) (by simp) (by simp [go_sem]) ?_
         refine (catch_stop b (b+1) b9 [] _ W9 hk2 hk3 (by omega)).mono ?_
         rintro e u' Z ⟨rfl,rfl,k2,k3,k4⟩
         refine ⟨.tuple #[.slice none 0 0,.iface 46 (.pointer (some ⟨b9,0,none⟩))],parse_res _ _ b none 0 0 _ rfl rfl k2 k3,_,_,rfl,?_⟩
         rw [HPP.out,HK5.out]
         exact H.out.stopped hb9 hrow9 (hf9) k4 (HPN.out)
      | ok xm =>
       obtain ⟨x9,m9⟩:=xm
       have HK6:Hid (K=Pol.rules q (6 * N+7) (A ++ [x9]) m9):=HK5.out
       have HEM:=Lib.hid (HLE.out x9 m9 rfl)
       have HNM:=Lib.hid (HNT.out.1 x9 m9 rfl)
       refine wp_region_held_drew (S:=fun _=>True) (by kernel_rfl) (trivial) (fun hHeld=>?_)
       refine wpAnyH_ready (rs:=[0,1]) (by kernel_rfl) (by simp) ?_
       refine AllReadyH.cons rfl (fun K hK=>?_) (AllReadyH.cons rfl (fun K hK=>?_) AllReadyH.nil)
       ·go_simp
        refine hK.out _ _ (trivial) (fun hHeld=>?_)
        clear hK K
        try simp only [Act.put,List.setIfInBounds_toArray,List.set_cons_zero,List.set_cons_succ]
        refine wpAnyH_ready (rs:=[1]) (by kernel_rfl) (by simp) ?_
        refine AllReadyH.cons rfl (fun K hK=>?_) AllReadyH.nil
        go_simp
        refine hK.out _ _ (trivial) (fun hHeld=>?_)
        clear hK K
        try simp only [Act.put,List.setIfInBounds_toArray,List.set_cons_zero,List.set_cons_succ]
        refine wpAnyH_ready (rs:=[2]) (by kernel_rfl) (by simp) ?_
        refine AllReadyH.cons rfl (fun K hK=>?_) AllReadyH.nil
        go_simp
        go_at_call 20
        refine (HRL.out _ _ _ H0.out).mono ?_
        rintro e w3 ⟨cs,rfl,hrep,hf3,o3,c3,hr3⟩
        obtain ⟨q1,k1,c1,q2,k2,c2,rfl⟩:=hrep.form
        have H3:=Lib.hid (H0.out.step hf3 hr3)
        have HX3:Hid (RuRep w3 (fun i=>R+1 ≤ i ∧ (Value.slice qv A.length qc).ownBlock ≠ some i) [.bool x9.deny,.slice q1 k1 c1,.slice q2 k2 c2,.int .i64 x9.p] x9):=hrep.mono (fun i hi h=>by
         have h9:wr.heap.size ≤ i:=h
         have h8:=row_lt H.out.rd.row
         exact ⟨by omega,fun h7=>by have:=own_lt H.out.own _ h7;omega⟩)
        clear hrep hf3 hr3 x0 xf
        refine hK.out _ _ (trivial) (fun hHeld=>?_)
        clear hK K
        try simp only [Act.put,List.setIfInBounds_toArray,List.set_cons_zero,List.set_cons_succ]
        refine wpAnyH_ready (rs:=[3]) (by kernel_rfl) (by simp) ?_
        refine AllReadyH.cons rfl (fun K hK=>?_) AllReadyH.nil
        go_simp
        refine hK.out _ _ (trivial) (fun hHeld=>?_)
        clear hK K
        try simp only [Act.put,List.setIfInBounds_toArray,List.set_cons_zero,List.set_cons_succ]
        have hbw4:b < w3.heap.size:=row_lt H3.out.b2
        refine wpAnyH_fresh (fun U=>PaSt w b R g o3 c3 m9 (.slice qv A.length qc) css A U ∧ U.heap[w3.heap.size]?=some (.cells #[.bool x9.deny,.slice q1 k1 c1,.slice q2 k2 c2,.int .i64 x9.p] 40 (0,0)) ∧ RuRep U (fun i=>R+1 ≤ i ∧ (Value.slice qv A.length qc).ownBlock ≠ some i) [.bool x9.deny,.slice q1 k1 c1,.slice q2 k2 c2,.int .i64 x9.p] x9) ⟨H3.out.fr ((Fr.refl [] _).alloc _),heap_alloc_last _ _,HX3.out.fr ((Fr.refl [] _).alloc _) (fun y hy _=>by cases hy)⟩ ?_
        rintro U ⟨hu1,hu2,hu3⟩
        have HU1:=Lib.hid hu1
        have hownA:=hu1.own
        have hnews:=World.news_of_block hu2
        have hR9:=row_lt hu1.rd.row
        have hA9:A.length ≤ 513:=by have:=HLN.out;omega
        obtain ⟨i0,hi,hz0,hz1',hz2'⟩:=info_parts infoRu
        refine wpAnyH_ready (rs:=[4]) (by kernel_rfl) (by simp) ?_
        refine AllReadyH.cons rfl (fun K hK=>?_) AllReadyH.nil
        refine step_append_lies U (by rfl) (.tmp 39) (.tmp 42) _ (by rfl) (R+1) 40 i0 _ 4 64 Tryz.underlying23 hi hz0 hz1' hz2' rfl (by decide) _ A.length _ (by rfl) hownA _ 1 1 [.bool x9.deny,.slice q1 k1 c1,.slice q2 k2 c2,.int .i64 x9.p] (by rfl) rfl hnews (by simp [Value.oneCell']) (by decide) (by unfold maxLen;omega) (by omega) (by omega) _ rfl ?_
        intro g9 cap9 w9 ho hg hgg hgl
        have HG:=Lib.hid (hu1.grow hu3 ho hg (hgg.imp id (fun h=>by rw [h];exact Nat.le_refl _)))
        have hb9:=(Fr.of_grown hg).row hu1.b2 (fun hc=>by have:=hu1.own_base b (by simpa using hc);have:=hu1.bR;omega)
        have HB9:=Lib.hid hb9
        clear hu1 hu2 hu3 hownA hnews ho hg hgg hb9 hR9 hz0 hz1' hz2' hi
        refine hK.out _ _ (trivial) (fun hHeld=>?_)
        clear hK K
        try simp only [Act.put,List.setIfInBounds_toArray,List.set_cons_zero,List.set_cons_succ]
        have uf:∀ i,w9.frozen? ⟨b,i,none⟩=false:=fun i=>Lib.frozen_of_heap HB9.out i
        have u0:w9.cell? ⟨b,0,none⟩=some (.slice qv A.length qc):=by rw [Lib.cell_of_heap HB9.out];rfl
        refine wpAnyH_ready (rs:=[5]) (by kernel_rfl) (by simp) ?_
        refine AllReadyH.cons rfl (fun K hK=>?_) AllReadyH.nil
        go_simp
        refine hK.out _ _ (trivial) (fun hHeld=>?_)
        clear hK K
        try simp only [Act.put,List.setIfInBounds_toArray,List.set_cons_zero,List.set_cons_succ]
        refine wpAnyH_done (by kernel_rfl) ?_ _
        go_wp2_with fail
        go_roundg q
        case measure=>omega
        case rel=>exact ⟨o3,c3,m9,_,_,A ++ [x9],HG.out,HEM.out.2,HNM.out,⟨by have:=HEM.out.1;have:=HLL.out.1;simp only [List.length_cons] at *;omega,by have:=HEM.out.1;have:=HLN.out;simp only [List.length_cons,List.length_append,List.length_nil] at *;omega⟩,HK6.out⟩
       ·go_simp
        refine hK.out _ _ (trivial) (fun hHeld=>?_)
        clear hK K
        try simp only [Act.put,List.setIfInBounds_toArray,List.set_cons_zero,List.set_cons_succ]
        refine wpAnyH_ready (rs:=[0,2]) (by kernel_rfl) (by simp) ?_
        refine AllReadyH.cons rfl (fun K hK=>?_) (AllReadyH.cons rfl (fun K hK=>?_) AllReadyH.nil)
        ·go_simp
         refine hK.out _ _ (trivial) (fun hHeld=>?_)
         clear hK K
         try simp only [Act.put,List.setIfInBounds_toArray,List.set_cons_zero,List.set_cons_succ]
         refine wpAnyH_ready (rs:=[2]) (by kernel_rfl) (by simp) ?_
         refine AllReadyH.cons rfl (fun K hK=>?_) AllReadyH.nil
         go_simp
         go_at_call 20
         refine (HRL.out _ _ _ H0.out).mono ?_
         rintro e w3 ⟨cs,rfl,hrep,hf3,o3,c3,hr3⟩
         obtain ⟨q1,k1,c1,q2,k2,c2,rfl⟩:=hrep.form
         have H3:=Lib.hid (H0.out.step hf3 hr3)
         have HX3:Hid (RuRep w3 (fun i=>R+1 ≤ i ∧ (Value.slice qv A.length qc).ownBlock ≠ some i) [.bool x9.deny,.slice q1 k1 c1,.slice q2 k2 c2,.int .i64 x9.p] x9):=hrep.mono (fun i hi h=>by
          have h9:wr.heap.size ≤ i:=h
          have h8:=row_lt H.out.rd.row
          exact ⟨by omega,fun h7=>by have:=own_lt H.out.own _ h7;omega⟩)
         clear hrep hf3 hr3 x0 xf
         refine hK.out _ _ (trivial) (fun hHeld=>?_)
         clear hK K
         try simp only [Act.put,List.setIfInBounds_toArray,List.set_cons_zero,List.set_cons_succ]
         refine wpAnyH_ready (rs:=[3]) (by kernel_rfl) (by simp) ?_
         refine AllReadyH.cons rfl (fun K hK=>?_) AllReadyH.nil
         go_simp
         refine hK.out _ _ (trivial) (fun hHeld=>?_)
         clear hK K
         try simp only [Act.put,List.setIfInBounds_toArray,List.set_cons_zero,List.set_cons_succ]
         have hbw4:b < w3.heap.size:=row_lt H3.out.b2
         refine wpAnyH_fresh (fun U=>PaSt w b R g o3 c3 m9 (.slice qv A.length qc) css A U ∧ U.heap[w3.heap.size]?=some (.cells #[.bool x9.deny,.slice q1 k1 c1,.slice q2 k2 c2,.int .i64 x9.p] 40 (0,0)) ∧ RuRep U (fun i=>R+1 ≤ i ∧ (Value.slice qv A.length qc).ownBlock ≠ some i) [.bool x9.deny,.slice q1 k1 c1,.slice q2 k2 c2,.int .i64 x9.p] x9) ⟨H3.out.fr ((Fr.refl [] _).alloc _),heap_alloc_last _ _,HX3.out.fr ((Fr.refl [] _).alloc _) (fun y hy _=>by cases hy)⟩ ?_
         rintro U ⟨hu1,hu2,hu3⟩
         have HU1:=Lib.hid hu1
         have hownA:=hu1.own
         have hnews:=World.news_of_block hu2
         have hR9:=row_lt hu1.rd.row
         have hA9:A.length ≤ 513:=by have:=HLN.out;omega
         obtain ⟨i0,hi,hz0,hz1',hz2'⟩:=info_parts infoRu
         refine wpAnyH_ready (rs:=[4]) (by kernel_rfl) (by simp) ?_
         refine AllReadyH.cons rfl (fun K hK=>?_) AllReadyH.nil
         refine step_append_lies U (by rfl) (.tmp 39) (.tmp 42) _ (by rfl) (R+1) 40 i0 _ 4 64 Tryz.underlying23 hi hz0 hz1' hz2' rfl (by decide) _ A.length _ (by rfl) hownA _ 1 1 [.bool x9.deny,.slice q1 k1 c1,.slice q2 k2 c2,.int .i64 x9.p] (by rfl) rfl hnews (by simp [Value.oneCell']) (by decide) (by unfold maxLen;omega) (by omega) (by omega) _ rfl ?_
         intro g9 cap9 w9 ho hg hgg hgl
         have HG:=Lib.hid (hu1.grow hu3 ho hg (hgg.imp id (fun h=>by rw [h];exact Nat.le_refl _)))
         have hb9:=(Fr.of_grown hg).row hu1.b2 (fun hc=>by have:=hu1.own_base b (by simpa using hc);have:=hu1.bR;omega)
         have HB9:=Lib.hid hb9
         clear hu1 hu2 hu3 hownA hnews ho hg hgg hb9 hR9 hz0 hz1' hz2' hi
         refine hK.out _ _ (trivial) (fun hHeld=>?_)
         clear hK K
         try simp only [Act.put,List.setIfInBounds_toArray,List.set_cons_zero,List.set_cons_succ]
         have uf:∀ i,w9.frozen? ⟨b,i,none⟩=false:=fun i=>Lib.frozen_of_heap HB9.out i
         have u0:w9.cell? ⟨b,0,none⟩=some (.slice qv A.length qc):=by rw [Lib.cell_of_heap HB9.out];rfl
         refine wpAnyH_ready (rs:=[5]) (by kernel_rfl) (by simp) ?_
         refine AllReadyH.cons rfl (fun K hK=>?_) AllReadyH.nil
         go_simp
         refine hK.out _ _ (trivial) (fun hHeld=>?_)
         clear hK K
         try simp only [Act.put,List.setIfInBounds_toArray,List.set_cons_zero,List.set_cons_succ]
         refine wpAnyH_done (by kernel_rfl) ?_ _
         go_wp2_with fail
         go_roundg q
         case measure=>omega
         case rel=>exact ⟨o3,c3,m9,_,_,A ++ [x9],HG.out,HEM.out.2,HNM.out,⟨by have:=HEM.out.1;have:=HLL.out.1;simp only [List.length_cons] at *;omega,by have:=HEM.out.1;have:=HLN.out;simp only [List.length_cons,List.length_append,List.length_nil] at *;omega⟩,HK6.out⟩
        ·go_simp
         go_at_call 20
         refine (HRL.out _ _ _ H0.out).mono ?_
         rintro e w3 ⟨cs,rfl,hrep,hf3,o3,c3,hr3⟩
         obtain ⟨q1,k1,c1,q2,k2,c2,rfl⟩:=hrep.form
         have H3:=Lib.hid (H0.out.step hf3 hr3)
         have HX3:Hid (RuRep w3 (fun i=>R+1 ≤ i ∧ (Value.slice qv A.length qc).ownBlock ≠ some i) [.bool x9.deny,.slice q1 k1 c1,.slice q2 k2 c2,.int .i64 x9.p] x9):=hrep.mono (fun i hi h=>by
          have h9:wr.heap.size ≤ i:=h
          have h8:=row_lt H.out.rd.row
          exact ⟨by omega,fun h7=>by have:=own_lt H.out.own _ h7;omega⟩)
         clear hrep hf3 hr3 x0 xf
         refine hK.out _ _ (trivial) (fun hHeld=>?_)
         clear hK K
         try simp only [Act.put,List.setIfInBounds_toArray,List.set_cons_zero,List.set_cons_succ]
         have xf:∀ i,w3.frozen? ⟨b,i,none⟩=false:=fun i=>Lib.frozen_of_heap H3.out.b2 i
         have x0:w3.cell? ⟨b,0,none⟩=some (.slice qv A.length qc):=by rw [Lib.cell_of_heap H3.out.b2];rfl
         refine wpAnyH_ready (rs:=[0,3]) (by kernel_rfl) (by simp) ?_
         refine AllReadyH.cons rfl (fun K hK=>?_) (AllReadyH.cons rfl (fun K hK=>?_) AllReadyH.nil)
         ·go_simp
          refine hK.out _ _ (trivial) (fun hHeld=>?_)
          clear hK K
          try simp only [Act.put,List.setIfInBounds_toArray,List.set_cons_zero,List.set_cons_succ]
          refine wpAnyH_ready (rs:=[3]) (by kernel_rfl) (by simp) ?_
          refine AllReadyH.cons rfl (fun K hK=>?_) AllReadyH.nil
          go_simp
          refine hK.out _ _ (trivial) (fun hHeld=>?_)
          clear hK K
          try simp only [Act.put,List.setIfInBounds_toArray,List.set_cons_zero,List.set_cons_succ]
          have hbw4:b < w3.heap.size:=row_lt H3.out.b2
          refine wpAnyH_fresh (fun U=>PaSt w b R g o3 c3 m9 (.slice qv A.length qc) css A U ∧ U.heap[w3.heap.size]?=some (.cells #[.bool x9.deny,.slice q1 k1 c1,.slice q2 k2 c2,.int .i64 x9.p] 40 (0,0)) ∧ RuRep U (fun i=>R+1 ≤ i ∧ (Value.slice qv A.length qc).ownBlock ≠ some i) [.bool x9.deny,.slice q1 k1 c1,.slice q2 k2 c2,.int .i64 x9.p] x9) ⟨H3.out.fr ((Fr.refl [] _).alloc _),heap_alloc_last _ _,HX3.out.fr ((Fr.refl [] _).alloc _) (fun y hy _=>by cases hy)⟩ ?_
          rintro U ⟨hu1,hu2,hu3⟩
          have HU1:=Lib.hid hu1
          have hownA:=hu1.own
          have hnews:=World.news_of_block hu2
          have hR9:=row_lt hu1.rd.row
          have hA9:A.length ≤ 513:=by have:=HLN.out;omega
          obtain ⟨i0,hi,hz0,hz1',hz2'⟩:=info_parts infoRu
          refine wpAnyH_ready (rs:=[4]) (by kernel_rfl) (by simp) ?_
          refine AllReadyH.cons rfl (fun K hK=>?_) AllReadyH.nil
          refine step_append_lies U (by rfl) (.tmp 39) (.tmp 42) _ (by rfl) (R+1) 40 i0 _ 4 64 Tryz.underlying23 hi hz0 hz1' hz2' rfl (by decide) _ A.length _ (by rfl) hownA _ 1 1 [.bool x9.deny,.slice q1 k1 c1,.slice q2 k2 c2,.int .i64 x9.p] (by rfl) rfl hnews (by simp [Value.oneCell']) (by decide) (by unfold maxLen;omega) (by omega) (by omega) _ rfl ?_
          intro g9 cap9 w9 ho hg hgg hgl
          have HG:=Lib.hid (hu1.grow hu3 ho hg (hgg.imp id (fun h=>by rw [h];exact Nat.le_refl _)))
          have hb9:=(Fr.of_grown hg).row hu1.b2 (fun hc=>by have:=hu1.own_base b (by simpa using hc);have:=hu1.bR;omega)
          have HB9:=Lib.hid hb9
          clear hu1 hu2 hu3 hownA hnews ho hg hgg hb9 hR9 hz0 hz1' hz2' hi
          refine hK.out _ _ (trivial) (fun hHeld=>?_)
          clear hK K
          try simp only [Act.put,List.setIfInBounds_toArray,List.set_cons_zero,List.set_cons_succ]
          have uf:∀ i,w9.frozen? ⟨b,i,none⟩=false:=fun i=>Lib.frozen_of_heap HB9.out i
          have u0:w9.cell? ⟨b,0,none⟩=some (.slice qv A.length qc):=by rw [Lib.cell_of_heap HB9.out];rfl
          refine wpAnyH_ready (rs:=[5]) (by kernel_rfl) (by simp) ?_
          refine AllReadyH.cons rfl (fun K hK=>?_) AllReadyH.nil
          go_simp
          refine hK.out _ _ (trivial) (fun hHeld=>?_)
          clear hK K
          try simp only [Act.put,List.setIfInBounds_toArray,List.set_cons_zero,List.set_cons_succ]
          refine wpAnyH_done (by kernel_rfl) ?_ _
          go_wp2_with fail
          go_roundg q
          case measure=>omega
          case rel=>exact ⟨o3,c3,m9,_,_,A ++ [x9],HG.out,HEM.out.2,HNM.out,⟨by have:=HEM.out.1;have:=HLL.out.1;simp only [List.length_cons] at *;omega,by have:=HEM.out.1;have:=HLN.out;simp only [List.length_cons,List.length_append,List.length_nil] at *;omega⟩,HK6.out⟩
         ·go_simp
          refine hK.out _ _ (trivial) (fun hHeld=>?_)
          clear hK K
          try simp only [Act.put,List.setIfInBounds_toArray,List.set_cons_zero,List.set_cons_succ]
          have hbw3:b < w3.heap.size:=row_lt H3.out.b2
          refine wpAnyH_ready (rs:=[0]) (by kernel_rfl) (by simp) ?_
          refine AllReadyH.cons rfl (fun K hK=>?_) AllReadyH.nil
          go_simp
          refine hK.out _ _ (trivial) (fun hHeld=>?_)
          clear hK K
          try simp only [Act.put,List.setIfInBounds_toArray,List.set_cons_zero,List.set_cons_succ]
          have hbw4:b < w3.heap.size:=row_lt H3.out.b2
          refine wpAnyH_fresh (fun U=>PaSt w b R g o3 c3 m9 (.slice qv A.length qc) css A U ∧ U.heap[w3.heap.size]?=some (.cells #[.bool x9.deny,.slice q1 k1 c1,.slice q2 k2 c2,.int .i64 x9.p] 40 (0,0)) ∧ RuRep U (fun i=>R+1 ≤ i ∧ (Value.slice qv A.length qc).ownBlock ≠ some i) [.bool x9.deny,.slice q1 k1 c1,.slice q2 k2 c2,.int .i64 x9.p] x9) ⟨H3.out.fr ((Fr.refl [] _).alloc _),heap_alloc_last _ _,HX3.out.fr ((Fr.refl [] _).alloc _) (fun y hy _=>by cases hy)⟩ ?_
          rintro U ⟨hu1,hu2,hu3⟩
          have HU1:=Lib.hid hu1
          have hownA:=hu1.own
          have hnews:=World.news_of_block hu2
          have hR9:=row_lt hu1.rd.row
          have hA9:A.length ≤ 513:=by have:=HLN.out;omega
          obtain ⟨i0,hi,hz0,hz1',hz2'⟩:=info_parts infoRu
          refine wpAnyH_ready (rs:=[4]) (by kernel_rfl) (by simp) ?_
          refine AllReadyH.cons rfl (fun K hK=>?_) AllReadyH.nil
          refine step_append_lies U (by rfl) (.tmp 39) (.tmp 42) _ (by rfl) (R+1) 40 i0 _ 4 64 Tryz.underlying23 hi hz0 hz1' hz2' rfl (by decide) _ A.length _ (by rfl) hownA _ 1 1 [.bool x9.deny,.slice q1 k1 c1,.slice q2 k2 c2,.int .i64 x9.p] (by rfl) rfl hnews (by simp [Value.oneCell']) (by decide) (by unfold maxLen;omega) (by omega) (by omega) _ rfl ?_
          intro g9 cap9 w9 ho hg hgg hgl
          have HG:=Lib.hid (hu1.grow hu3 ho hg (hgg.imp id (fun h=>by rw [h];exact Nat.le_refl _)))
          have hb9:=(Fr.of_grown hg).row hu1.b2 (fun hc=>by have:=hu1.own_base b (by simpa using hc);have:=hu1.bR;omega)
          have HB9:=Lib.hid hb9
          clear hu1 hu2 hu3 hownA hnews ho hg hgg hb9 hR9 hz0 hz1' hz2' hi
          refine hK.out _ _ (trivial) (fun hHeld=>?_)
          clear hK K
          try simp only [Act.put,List.setIfInBounds_toArray,List.set_cons_zero,List.set_cons_succ]
          have uf:∀ i,w9.frozen? ⟨b,i,none⟩=false:=fun i=>Lib.frozen_of_heap HB9.out i
          have u0:w9.cell? ⟨b,0,none⟩=some (.slice qv A.length qc):=by rw [Lib.cell_of_heap HB9.out];rfl
          refine wpAnyH_ready (rs:=[5]) (by kernel_rfl) (by simp) ?_
          refine AllReadyH.cons rfl (fun K hK=>?_) AllReadyH.nil
          go_simp
          refine hK.out _ _ (trivial) (fun hHeld=>?_)
          clear hK K
          try simp only [Act.put,List.setIfInBounds_toArray,List.set_cons_zero,List.set_cons_succ]
          refine wpAnyH_done (by kernel_rfl) ?_ _
          go_wp2_with fail
          go_roundg q
          case measure=>omega
          case rel=>exact ⟨o3,c3,m9,_,_,A ++ [x9],HG.out,HEM.out.2,HNM.out,⟨by have:=HEM.out.1;have:=HLL.out.1;simp only [List.length_cons] at *;omega,by have:=HEM.out.1;have:=HLN.out;simp only [List.length_cons,List.length_append,List.length_nil] at *;omega⟩,HK6.out⟩
 ·have HPP:Hid (Pol.parse s=(er,[])):=by
   show _=_
   unfold Pol.parse
   rw [Hq.out]
   cases er with
   | ok=>exact absurd rfl her
   | no n=>rfl
   | pl p n=>rfl
  cases er with
  | ok=>exact absurd rfl her
  | no n =>
   obtain rfl:ev=.iface 57 (.int .i64 (n:Nat)):=HEV.out
   obtain ⟨qv,qc,rfl⟩:=own_form HOWN.out
   go_wp2_with fail
   go_region
   all_goals
    have hs:Fr [w.heap.size,w.heap.size+1] w1 (((w1.setCell ⟨w.heap.size+1,0,none⟩ (.iface 57 (.int .i64 (n:Nat)))).setCell ⟨w.heap.size,0,none⟩ (.slice none 0 0)).setCell ⟨w.heap.size+1,0,none⟩ (.iface 57 (.int .i64 (n:Nat)))).drew :=
     ((((Fr.refl _ w1).setCell (p:=⟨w.heap.size+1,0,none⟩) (.inl (by simp)) _).setCell (p:=⟨w.heap.size,0,none⟩) (.inl (by simp)) _).setCell (p:=⟨w.heap.size+1,0,none⟩) (.inl (by simp)) _).drew
    have f1:Fr [w.heap.size+1] w1 (w1.setCell ⟨w.heap.size+1,0,none⟩ (.iface 57 (.int .i64 (n:Nat)))):=(Fr.refl _ _).setCell (p:=⟨w.heap.size+1,0,none⟩) (.inl (by simp)) _
    have f2:Fr [w.heap.size] (w1.setCell ⟨w.heap.size+1,0,none⟩ (.iface 57 (.int .i64 (n:Nat)))) ((w1.setCell ⟨w.heap.size+1,0,none⟩ (.iface 57 (.int .i64 (n:Nat)))).setCell ⟨w.heap.size,0,none⟩ (.slice none 0 0)):=(Fr.refl _ _).setCell (p:=⟨w.heap.size,0,none⟩) (.inl (by simp)) _
    have f3:Fr [w.heap.size+1] ((w1.setCell ⟨w.heap.size+1,0,none⟩ (.iface 57 (.int .i64 (n:Nat)))).setCell ⟨w.heap.size,0,none⟩ (.slice none 0 0)) (((w1.setCell ⟨w.heap.size+1,0,none⟩ (.iface 57 (.int .i64 (n:Nat)))).setCell ⟨w.heap.size,0,none⟩ (.slice none 0 0)).setCell ⟨w.heap.size+1,0,none⟩ (.iface 57 (.int .i64 (n:Nat)))).drew:=((Fr.refl _ _).setCell (p:=⟨w.heap.size+1,0,none⟩) (.inl (by simp)) _).drew
    have r2:=f3.row (heap_set_row (f1.row HB2.out (by simp)) 0 (.slice none 0 0)) (by simp)
    have r3:=heap_set_row (f2.row (heap_set_row HB3.out 0 (.iface 57 (.int .i64 (n:Nat)))) (by simp)) 0 (.iface 57 (.int .i64 (n:Nat)))
    have r4:=HEV.out.fr2 hs (fun y hy=>by simp at hy ⊢;omega)
    have r5:=(HF1.out.sub (bs:=[w.heap.size,w.heap.size+1])).trans hs (fun y hy=>.inl hy)
    obtain ⟨Z,hZ⟩:∃ Z,(((w1.setCell ⟨w.heap.size+1,0,none⟩ (.iface 57 (.int .i64 (n:Nat)))).setCell ⟨w.heap.size,0,none⟩ (.slice none 0 0)).setCell ⟨w.heap.size+1,0,none⟩ (.iface 57 (.int .i64 (n:Nat)))).drew=Z:=⟨_,rfl⟩
    have r3':Z.heap[w.heap.size+1]?=some (.cells #[.iface 57 (.int .i64 (n:Nat))] 25 (0,0)):=by rw [← hZ];exact r3
    rw [hZ] at r2 r4 r5 ⊢
    have R2:=Lib.hid r2
    have R3:=Lib.hid r3'
    have R4:=Lib.hid r4
    have R5:=Lib.hid r5
    clear r2 r3 r3' r4 r5 f1 f2 f3 hs hZ x0 xf y0 yf
    go_wp2_with fail
    refine ⟨.tuple #[.slice none 0 0,.iface 57 (.int .i64 (n:Nat))],parse_res _ _ w.heap.size none 0 0 _ rfl rfl R2.out R3.out,_,_,rfl,?_⟩
    rw [HPP.out]
    exact ⟨⟨none,0,fun _=>[],rfl,Nat.le_refl _,by decide,fun i u hi=>by simp at hi,fun i u hi=>by simp at hi,fun _=>rfl⟩,R4.out.base (by simp;omega),R5.out.os,R5.out.tape,R5.out.output,R5.out.size,fun k hk _=>R5.out.block k hk (by simp;omega)⟩
  | pl p n =>
   obtain ⟨b8,hb8,rfl,hrow8⟩:=HEV.out
   obtain ⟨qv,qc,rfl⟩:=own_form HOWN.out
   clear hrow8
   go_wp2_with fail
   go_region
   all_goals
    have hs:Fr [w.heap.size,w.heap.size+1] w1 (((w1.setCell ⟨w.heap.size+1,0,none⟩ (.iface 46 (.pointer (some ⟨b8,0,none⟩)))).setCell ⟨w.heap.size,0,none⟩ (.slice none 0 0)).setCell ⟨w.heap.size+1,0,none⟩ (.iface 46 (.pointer (some ⟨b8,0,none⟩)))).drew :=
     ((((Fr.refl _ w1).setCell (p:=⟨w.heap.size+1,0,none⟩) (.inl (by simp)) _).setCell (p:=⟨w.heap.size,0,none⟩) (.inl (by simp)) _).setCell (p:=⟨w.heap.size+1,0,none⟩) (.inl (by simp)) _).drew
    have f1:Fr [w.heap.size+1] w1 (w1.setCell ⟨w.heap.size+1,0,none⟩ (.iface 46 (.pointer (some ⟨b8,0,none⟩)))):=(Fr.refl _ _).setCell (p:=⟨w.heap.size+1,0,none⟩) (.inl (by simp)) _
    have f2:Fr [w.heap.size] (w1.setCell ⟨w.heap.size+1,0,none⟩ (.iface 46 (.pointer (some ⟨b8,0,none⟩)))) ((w1.setCell ⟨w.heap.size+1,0,none⟩ (.iface 46 (.pointer (some ⟨b8,0,none⟩)))).setCell ⟨w.heap.size,0,none⟩ (.slice none 0 0)):=(Fr.refl _ _).setCell (p:=⟨w.heap.size,0,none⟩) (.inl (by simp)) _
    have f3:Fr [w.heap.size+1] ((w1.setCell ⟨w.heap.size+1,0,none⟩ (.iface 46 (.pointer (some ⟨b8,0,none⟩)))).setCell ⟨w.heap.size,0,none⟩ (.slice none 0 0)) (((w1.setCell ⟨w.heap.size+1,0,none⟩ (.iface 46 (.pointer (some ⟨b8,0,none⟩)))).setCell ⟨w.heap.size,0,none⟩ (.slice none 0 0)).setCell ⟨w.heap.size+1,0,none⟩ (.iface 46 (.pointer (some ⟨b8,0,none⟩)))).drew:=((Fr.refl _ _).setCell (p:=⟨w.heap.size+1,0,none⟩) (.inl (by simp)) _).drew
    have r2:=f3.row (heap_set_row (f1.row HB2.out (by simp)) 0 (.slice none 0 0)) (by simp)
    have r3:=heap_set_row (f2.row (heap_set_row HB3.out 0 (.iface 46 (.pointer (some ⟨b8,0,none⟩)))) (by simp)) 0 (.iface 46 (.pointer (some ⟨b8,0,none⟩)))
    have r4:=HEV.out.fr2 hs (fun y hy=>by simp at hy ⊢;omega)
    have r5:=(HF1.out.sub (bs:=[w.heap.size,w.heap.size+1])).trans hs (fun y hy=>.inl hy)
    obtain ⟨Z,hZ⟩:∃ Z,(((w1.setCell ⟨w.heap.size+1,0,none⟩ (.iface 46 (.pointer (some ⟨b8,0,none⟩)))).setCell ⟨w.heap.size,0,none⟩ (.slice none 0 0)).setCell ⟨w.heap.size+1,0,none⟩ (.iface 46 (.pointer (some ⟨b8,0,none⟩)))).drew=Z:=⟨_,rfl⟩
    have r3':Z.heap[w.heap.size+1]?=some (.cells #[.iface 46 (.pointer (some ⟨b8,0,none⟩))] 25 (0,0)):=by rw [← hZ];exact r3
    rw [hZ] at r2 r4 r5 ⊢
    have R2:=Lib.hid r2
    have R3:=Lib.hid r3'
    have R4:=Lib.hid r4
    have R5:=Lib.hid r5
    clear r2 r3 r3' r4 r5 f1 f2 f3 hs hZ x0 xf y0 yf
    go_wp2_with fail
    refine ⟨.tuple #[.slice none 0 0,.iface 46 (.pointer (some ⟨b8,0,none⟩))],parse_res _ _ w.heap.size none 0 0 _ rfl rfl R2.out R3.out,_,_,rfl,?_⟩
    rw [HPP.out]
    exact ⟨⟨none,0,fun _=>[],rfl,Nat.le_refl _,by decide,fun i u hi=>by simp at hi,fun i u hi=>by simp at hi,fun _=>rfl⟩,R4.out.base (by simp;omega),R5.out.os,R5.out.tape,R5.out.output,R5.out.size,fun k hk _=>R5.out.block k hk (by simp;omega)⟩
end Go.Proofs.YtgklmpooonnmiaaGreatDoor
