/-
  Lemmas and contracts that the proofs over this seat use (PolRightA, PolWrite, PolRight1, PolRightL); no statement of the seat is claimed in this text, and nothing is assumed in it.
-/
import Derived.Test.YtgklmpooonnmiaaGreatDoorK31
import Derived.Test.YtgklmpooonnmiaaGreatDoorK32
import Derived.Test.YtgklmpooonnmiaaGreatDoorK33
import Derived.Test.YtgklmpooonnmiaaGreatDoorK30
import Derived.Test.YtgklmpooonnmiaaGreatDoorK27
set_option linter.unusedVariables false
set_option linter.unusedSimpArgs false
namespace Go.Proofs.YtgklmpooonnmiaaGreatDoor
open Go.RowKit
theorem pol_right {w:World} {cs:List Value} {x:Ex} (h:RepA w cs x):∀ (W:World) (ad:Addr) (deep:Nat),Fr [] w W → Five W ad cs → x.short → Least W →
  Calls Tryz.prog 37 #[.pointer (some ad),.int .i64 deep] W fun e w'=>e=.returned (.bool (Ex.right x deep)) ∧ Fr [] W w':=by
 induction h with
 | mk op s n L p q c f hc hm hr hx ih =>
  intro W ad deep hW h5 hsh hL
  rw [Ex.short] at hsh
  by_cases hd:deep ≤ 200
  ·have hLA:LA W q c f L:=(LA.mk hc hm hr hx).fr hW
   have hS:∀ (V:World) (i:Nat) (x:Ex) (ae:Addr),Fr [] W V → L[i]?=some x → Five V ae (f i) → Calls Tryz.prog 37 #[.pointer (some ae),.int .i64 ((deep:Int)+1)] V fun e w'=>e=.returned (.bool (Ex.right x (deep+1))) ∧ Fr [] V w':=fun V i x ae hV hi h5'=>by
    have:=ih i x hi V ae (deep+1) (hW.trans0 hV) h5' (Ex.shorts_at hsh.2 hi) (hL.fr hV (by simp))
    rwa [show ((deep+1:Nat):Int)=(deep:Int)+1 by omega] at this
   by_cases e1:op=1
   ·exact right_1 W ad op s n p q c f L hLA deep hd h5 e1 hS
   by_cases e2:op=2
   ·exact right_2 W ad op s n p q c f L hLA deep hd h5 e2 hS
   by_cases e3:op=3
   ·exact right_3 W ad op s n p q c f L hLA deep hd hsh.1 hL h5 e3
   by_cases e4:op=4
   ·exact right_4 W ad op s n p q c f L hLA deep hd hsh.1 hL h5 e4
   by_cases e5:op=5
   ·exact right_5 W ad op s n p q c f L hLA deep hd hsh.1 hL h5 e5
   by_cases e6:op=6
   ·exact right_6 W ad op s n p q c f L hLA deep hd h5 e6 hS
   by_cases e7:op=7
   ·exact right_two W ad op s n p q c f L hLA deep hd h5 e7 hS
   by_cases e8:op=8
   ·exact right_8 W ad op s n p q c f L hLA deep hd h5 e8 hS
   by_cases e9:op=9
   ·exact right_9 W ad op s n p q c f L hLA deep hd h5 e9 hS
   by_cases e10:op=10
   ·exact right_10 W ad op s n p q c f L hLA deep hd h5 e10 hS
   by_cases e11:op=11
   ·exact right_11 W ad op s n p q c f L hLA deep hd h5 e11 hS
   by_cases e12:op=12
   ·exact right_12 W ad op s n p q c f L hLA deep hd h5 e12 hS
   by_cases e13:op=13
   ·exact right_13 W ad op s n p q c f L hLA deep hd h5 e13 hS
   by_cases e14:op=14
   ·exact right_14 W ad op s n p q c f L hLA deep hd h5 e14 hS
   exact right_other W ad op s n p q c f L hLA deep hd h5 (fun k h1 h2=>by omega) hS
  ·have:=right_deep W (.pointer (some ad)) deep (by omega)
   rw [show Ex.right (.mk op s n L p) deep=false by rw [Ex.right,if_pos (by omega)]]
   exact this
end Go.Proofs.YtgklmpooonnmiaaGreatDoor

namespace Go.Proofs.YtgklmpooonnmiaaGreatDoor
open Go.RowKit
set_option maxHeartbeats 1000000 in
set_option maxRecDepth 100000 in
theorem write_paren (w0 W:World) (b:Nat) (adE:Addr) (op:Int) (s:ByteArray) (n p:Int) (q:Option Addr) (L:List Ex) (c:Nat) (D:List Nat) (asked:Int)
  (h5:Five w0 adE [.int .i64 op,.string s,.int .i64 n,.slice q L.length c,.int .i64 p]) (hW:Below w0.heap.size w0 W) (hB:Bld w0.heap.size b D W) (hl:Pol.level op < asked)
  (hb : ∀ (W : World) (D : List Nat), Below w0.heap.size w0 W → Bld w0.heap.size b D W → D.length + (Ex.body op s n L).length < 1000000000 →
   Calls Tryz.prog 30 #[.pointer (some ⟨b,0,none⟩),.pointer (some adE),.int .i64 1] W fun e w'=>e=.returned (.tuple #[]) ∧ Bld w0.heap.size b (D ++ Ex.body op s n L) w' ∧ Below w0.heap.size W w' ∧ BFr b W w')
  (hlen:D.length+(Ex.body op s n L).length+2 < 1000000000) :
  Calls Tryz.prog 30 #[.pointer (some ⟨b,0,none⟩),.pointer (some adE),.int .i64 asked] W fun e w'=>e=.returned (.tuple #[]) ∧ Bld w0.heap.size b (D ++ (40 :: (Ex.body op s n L ++ [41]))) w' ∧ Below w0.heap.size W w' ∧ BFr b W w':=by
 obtain ⟨v0,v1,v2,v3,v4,hv,a0,a1,a2,a3,a4⟩:=h5
 simp only [List.cons.injEq,and_true] at hv
 obtain ⟨rfl,rfl,rfl,rfl,rfl⟩:=hv
 have HW:=Lib.hid hW
 have HB:=Lib.hid hB
 have HBD:=Lib.hid hb
 have HLEN:=Lib.hid hlen
 obtain ⟨M,hM⟩:∃ M,Ex.body op s n L=M:=⟨_,rfl⟩
 simp only [hM] at HBD HLEN ⊢
 clear hW hB a1 a2 a3 a4 hb hlen hM
 have e0:=(Fr.of_below HW.out).cells a0
 have hbl:=World.block_lt_of_cell? W _ e0
 go_enter Tryz.func30,Tryz.ntmps30
 go_wp2_with fail
 refine calls_fresh (fun V=>WSt w0 W b W.heap.size (W.heap.size+1) adE D V) (WSt.start HW.out HB.out) ?_
 intro V hV
 have H:=Lib.hid hV
 have c1:=hV.c1
 have c2:=hV.c2
 clear e0 hbl
 have e0:=(Fr.of_below hV.w0V).cells a0
 clear hV
 refine (pol_level _ _).mono ?_
 rintro e w1 ⟨rfl,rfl⟩
 go_wp2_with fail
 have HS:=Lib.hid H.out.size
 have h1:D.length < 1000000000:=by have:=HLEN.out;omega
 have HC:=bld_byteF w0.heap.size b _ 40 _ H.out.bl h1 HS.out
 clear h1
 refine HC.mono ?_
 rintro e w1 ⟨rfl,hbl,hbw,hbf⟩
 have H:=Lib.hid (H.out.step hbl hbw hbf)
 clear HC hbl hbw hbf c1 c2 e0
 have c1:=H.out.c1
 have c2:=H.out.c2
 go_wp2_with fail
 have h1:(D ++ [40]).length+M.length < 1000000000:=by rw [List.length_append];have:=HLEN.out;simp only [List.length_cons,List.length_nil];omega
 have HC:=HBD.out _ _ H.out.w0V H.out.bl h1
 clear h1
 refine HC.mono ?_
 rintro e w2 ⟨rfl,hbl,hbw,hbf⟩
 have H:=Lib.hid (H.out.step hbl hbw hbf)
 clear HC hbl hbw hbf c1 c2
 have c1:=H.out.c1
 have c2:=H.out.c2
 go_wp2_with fail
 have HS:=Lib.hid H.out.size
 have h1:(D ++ [40] ++ M).length < 1000000000:=by rw [List.length_append,List.length_append];have:=HLEN.out;simp only [List.length_cons,List.length_nil];omega
 have HC:=bld_byteF w0.heap.size b _ 41 _ H.out.bl h1 HS.out
 clear h1
 refine HC.mono ?_
 rintro e w3 ⟨rfl,hbl,hbw,hbf⟩
 have H:=Lib.hid (H.out.step hbl hbw hbf)
 clear HC hbl hbw hbf c1 c2
 go_wp2_with fail
 refine bodyPost_ret (results_none rfl _ _ _) rfl ?_
 refine ⟨rfl,?_,H.out.bw,H.out.bf⟩
 have h:=H.out.bl
 simp only [List.append_assoc] at h
 exact h
theorem Pol.level_pos (op:Int):1 ≤ Pol.level op:=by
 unfold Pol.level
 repeat' (split;omega)
 omega
theorem Ex.rights_at:∀ {L:List Ex} {i:Nat} {x:Ex} {deep:Nat},Ex.rights L deep=true → L[i]?=some x → Ex.right x deep=true
 | [],i,x,_,_,h=>by simp at h
 | y :: r,0,x,deep,h,e=>by
  rw [Ex.rights,Bool.and_eq_true] at h
  simp at e
  subst e
  exact h.1
 | y :: r,i+1,x,deep,h,e=>by
  rw [Ex.rights,Bool.and_eq_true] at h
  exact Ex.rights_at h.2 (by simpa using e)
theorem Ex.head_cases {op:Int} {s:ByteArray} {n:Int} {k:Nat} (h:Ex.head op s n k=true) :
  (op=1 ∧ k=0 ∧ (n=0 ∨ n=1)) ∨ (op=2 ∧ k=0 ∧ -9007199254740991 ≤ n ∧ n ≤ 9007199254740991) ∨ (op=3 ∧ k=0) ∨ (op=5 ∧ k=0) ∨ (op=4 ∧ k=0) ∨ (op=6 ∧ k=1) ∨ (((7 ≤ op ∧ op ≤ 12) ∨ op=14) ∧ k=2) ∨ (op=13 ∧ 2 ≤ k):=by
 unfold Ex.head at h
 by_cases e1:op=1
 ·rw [if_pos e1] at h
  simp only [Bool.and_eq_true,Bool.or_eq_true,beq_iff_eq] at h
  exact Or.inl ⟨e1,h.2,h.1.1⟩
 rw [if_neg e1] at h
 by_cases e2:op=2
 ·rw [if_pos e2] at h
  simp only [Bool.and_eq_true,decide_eq_true_eq,beq_iff_eq] at h
  exact Or.inr (Or.inl ⟨e2,h.2,h.1.1.1,h.1.1.2⟩)
 rw [if_neg e2] at h
 by_cases e3:op=3 ∨ op=5
 ·rw [if_pos e3] at h
  simp only [Bool.and_eq_true,beq_iff_eq] at h
  rcases e3 with e | e
  ·exact Or.inr (Or.inr (Or.inl ⟨e,h.2⟩))
  ·exact Or.inr (Or.inr (Or.inr (Or.inl ⟨e,h.2⟩)))
 rw [if_neg e3] at h
 by_cases e4:op=4
 ·rw [if_pos e4] at h
  simp only [Bool.and_eq_true,beq_iff_eq] at h
  exact Or.inr (Or.inr (Or.inr (Or.inr (Or.inl ⟨e4,h.2⟩))))
 rw [if_neg e4] at h
 by_cases e6:op=6
 ·rw [if_pos e6] at h
  simp only [Bool.and_eq_true,beq_iff_eq] at h
  exact Or.inr (Or.inr (Or.inr (Or.inr (Or.inr (Or.inl ⟨e6,h.2⟩)))))
 rw [if_neg e6] at h
 by_cases e7:(7 ≤ op ∧ op ≤ 12) ∨ op=14
 ·rw [if_pos e7] at h
  simp only [Bool.and_eq_true,beq_iff_eq] at h
  exact Or.inr (Or.inr (Or.inr (Or.inr (Or.inr (Or.inr (Or.inl ⟨e7,h.2⟩))))))
 rw [if_neg e7] at h
 by_cases e13:op=13
 ·rw [if_pos e13] at h
  simp only [Bool.and_eq_true,beq_iff_eq,decide_eq_true_eq] at h
  exact Or.inr (Or.inr (Or.inr (Or.inr (Or.inr (Or.inr (Or.inr ⟨e13,h.2⟩))))))
 rw [if_neg e13] at h
 cases h
theorem one_of {L:List Ex} (h:L.length=1):∃ x,L=[x]:=by
 cases L with
 | nil=>simp at h
 | cons x r => cases r with
   | nil=>exact ⟨x,rfl⟩
   | cons _ _=>simp at h
theorem two_of {L:List Ex} (h:L.length=2):∃ x y,L=[x,y]:=by
 cases L with
 | nil=>simp at h
 | cons x r =>
  obtain ⟨y,rfl⟩:=one_of (L:=r) (by simpa using h)
  exact ⟨x,y,rfl⟩
theorem add0 {w0:World} {b:Nat} {x:Ex} {a:Addr} (h:Writes w0 b x (a.add (0 * 5))):Writes w0 b x a:=by
 have e:a.add (0 * 5)=a:=by unfold Addr.add;split <;> simp_all
 rw [e] at h
 exact h
theorem pol_write {w0:World} {cs:List Value} {x:Ex} (h:RepA w0 cs x):∀ (deep:Nat) (b:Nat) (ad:Addr),Ex.right x deep=true → x.short → Five w0 ad cs → Least w0 → Writes w0 b x ad:=by
 induction h with
 | mk op s n L p q c f hc hm hr hx ih =>
  intro deep b ad hright hsh h5 hLe
  rw [Ex.short] at hsh
  have hd:¬ 200 < deep:=by
   intro hd
   rw [Ex.right,if_pos hd] at hright
   cases hright
  rw [Ex.right,if_neg hd,Bool.and_eq_true] at hright
  have hch:∀ i y,L[i]?=some y → ∃ a,q=some a ∧ Writes w0 b y (a.add (i * 5)):=fun i y hi=>by
   obtain ⟨a,hq,hf⟩:=hr i y hi
   exact ⟨a,hq,ih i y hi (deep+1) b (a.add (i * 5)) (Ex.rights_at hright.2 hi) (Ex.shorts_at hsh.2 hi) hf hLe⟩
  have body:∀ (W:World) (D:List Nat) (asked:Int),¬ Pol.level op < asked → Below w0.heap.size w0 W → Bld w0.heap.size b D W → D.length+(Ex.body op s n L).length < 1000000000 →
    Calls Tryz.prog 30 #[.pointer (some ⟨b,0,none⟩),.pointer (some ad),.int .i64 asked] W fun e w'=>e=.returned (.tuple #[]) ∧ Bld w0.heap.size b (D ++ Ex.body op s n L) w' ∧ Below w0.heap.size W w' ∧ BFr b W w':=by
   intro W D asked hl hW hB hlen
   rcases Ex.head_cases hright.1 with ⟨e,k,hn⟩ | ⟨e,k,hn⟩ | ⟨e,k⟩ | ⟨e,k⟩ | ⟨e,k⟩ | ⟨e,k⟩ | ⟨e,k⟩ | ⟨e,k⟩
   ·have hL:=List.eq_nil_of_length_eq_zero k
    rcases hn with hn | hn
    ·exact write_1_0 w0 W b ad op s n p q L c D asked h5 hW hB hl e hL hn hlen
    ·exact write_1_1 w0 W b ad op s n p q L c D asked h5 hW hB hl e hL hn hlen
   ·exact write_2 w0 W b ad op s n p q L c D asked h5 hW hB hl e (List.eq_nil_of_length_eq_zero k) ⟨by omega,by omega⟩ hlen
   ·exact write_3 w0 W b ad op s n p q L c D asked h5 hW hB hl e (List.eq_nil_of_length_eq_zero k) hsh.1 hLe hlen
   ·exact write_5 w0 W b ad op s n p q L c D asked h5 hW hB hl e (List.eq_nil_of_length_eq_zero k) hsh.1 hLe hlen
   ·exact write_4 w0 W b ad op s n p q L c D asked h5 hW hB hl e (List.eq_nil_of_length_eq_zero k) hlen
   ·obtain ⟨x,hL⟩:=one_of k
    obtain ⟨a,hq,h0⟩:=hch 0 x (by rw [hL];rfl)
    exact write_6 w0 W b ad _ op s n p q x L c D asked h5 hW hB hl e hL hq (add0 h0) hlen
   ·obtain ⟨x,y,hL⟩:=two_of k
    obtain ⟨a,hq,h0⟩:=hch 0 x (by rw [hL];rfl)
    obtain ⟨a',hq',h1⟩:=hch 1 y (by rw [hL];rfl)
    have ha:a'=a:=by rw [hq] at hq';exact (Option.some.inj hq').symm
    subst ha
    by_cases e7:op=7
    ·exact write_7 w0 W b ad _ op s n p q x y L c D asked h5 hW hB hl e7 hL hq (add0 h0) h1 hlen
    by_cases e8:op=8
    ·exact write_8 w0 W b ad _ op s n p q x y L c D asked h5 hW hB hl e8 hL hq (add0 h0) h1 hlen
    by_cases e9:op=9
    ·exact write_9 w0 W b ad _ op s n p q x y L c D asked h5 hW hB hl e9 hL hq (add0 h0) h1 hlen
    by_cases e10:op=10
    ·exact write_10 w0 W b ad _ op s n p q x y L c D asked h5 hW hB hl e10 hL hq (add0 h0) h1 hlen
    by_cases e11:op=11
    ·exact write_11 w0 W b ad _ op s n p q x y L c D asked h5 hW hB hl e11 hL hq (add0 h0) h1 hlen
    by_cases e12:op=12
    ·exact write_12 w0 W b ad _ op s n p q x y L c D asked h5 hW hB hl e12 hL hq (add0 h0) h1 hlen
    exact write_14 w0 W b ad _ op s n p q x y L c D asked h5 hW hB hl (by omega) hL hq (add0 h0) h1 hlen
   ·obtain ⟨x,r,hL⟩:∃ x r,L=x :: r:=by
     cases L with
     | nil=>simp at k
     | cons x r=>exact ⟨x,r,rfl⟩
    obtain ⟨a,hq,h0⟩:=hch 0 x (by rw [hL];rfl)
    refine write_13 w0 W b ad a op s n p q x r L c D asked h5 hW hB hl e hL (by rw [hL] at k;simp at k;omega) hc hm hq (add0 h0) (fun i y hi=>?_) hlen
    obtain ⟨a',hq',h1⟩:=hch (i+1) y (by rw [hL];simpa using hi)
    have ha:a'=a:=by rw [hq] at hq';exact (Option.some.inj hq').symm
    rw [← ha]
    exact h1
  intro W D asked hW hB hlen
  rw [Ex.text] at hlen ⊢
  by_cases hl:Pol.level op < asked
  ·rw [if_pos hl] at hlen ⊢
   refine write_paren w0 W b ad op s n p q L c D asked h5 hW hB hl (fun W' D' hW' hB' hlen'=>body W' D' 1 (by have:=Pol.level_pos op;omega) hW' hB' hlen') ?_
   simp only [List.length_cons,List.length_append,List.length_nil] at hlen
   omega
  ·rw [if_neg hl] at hlen ⊢
   exact body W D asked hl hW hB hlen
end Go.Proofs.YtgklmpooonnmiaaGreatDoor

namespace Go.Proofs.YtgklmpooonnmiaaGreatDoor
open Go.RowKit
def unq (A:List ByteArray):Bool:=A.any fun s=>!(Lex.quote s).isSome
set_option maxHeartbeats 4000000 in
theorem right_f (w:World) (s:ByteArray) (hs:s.size ≤ 100000000) (hL:Least w):Calls Tryz.prog 35 #[.string s] w fun e w'=>e=.returned (.bool (!(Lex.quote s).isSome)) ∧ Fr [] w w':=by
 have HQ:=Lib.hid (pol_quoted w s hs hL)
 obtain ⟨z,hz⟩:∃ z,(Lex.quote s).isSome=z:=⟨_,rfl⟩
 rw [hz] at HQ ⊢
 clear hL hz
 go_enter Tryz.func35,Tryz.ntmps35
 go_wp2_with fail
 refine HQ.out.mono ?_
 rintro e W ⟨rfl,hF⟩
 have HF:=Lib.hid hF
 clear hF
 go_wp2_with fail
 go_ret
 exact ⟨rfl,HF.out⟩
theorem unq_drop {A:List ByteArray} {k:Nat} {s:ByteArray} (h:A[k]?=some s):unq (A.drop k)=(!(Lex.quote s).isSome || unq (A.drop (k+1))):=by
 obtain ⟨h1,rfl⟩:=List.getElem?_eq_some_iff.1 h
 rw [List.drop_eq_getElem_cons h1]
 rfl
set_option maxHeartbeats 4000000 in
set_option maxRecDepth 100000 in
theorem index_f (w:World) (q:Option Addr) (c:Nat) (A:List ByteArray) (h:SA w q c A) (hs:∀ s ∈ A,s.size ≤ 100000000) (hL:Least w) :
  Calls Tryz.prog 66 #[.slice q A.length c,.func (.func 35) #[] #[]] w fun e w'=>∃ n:Int,e=.returned (.int .i64 n) ∧ unq A=decide (0 ≤ n) ∧ Fr [] w w':=by
 have HL:=Lib.hid h
 have HS:=Lib.hid hs
 have HLE:=Lib.hid hL
 have hb:A.length ≤ 9223372036854775807:=by have h1:=h.hc;have h2:=h.hm;unfold maxLen at h2;omega
 clear h hs hL
 go_enter Tryz.func66,Tryz.ntmps66
 go_wp2_with fail
 go_loopg [8] A.length (fun m s8 W=>∃ k:Nat,k ≤ A.length ∧ m=A.length - k ∧ s8=.int .i64 k ∧ Hid (Fr [] w W) ∧ Hid (unq A=unq (A.drop k)))
 case atStart=>exact ⟨0,by omega,by omega,rfl,Fr.refl _ _,rfl⟩
 case round =>
  obtain ⟨k,hk,hm,rfl,HF,HE⟩:=hrel
  have HM:=Lib.hid hm
  clear hm
  by_cases hlt:k < A.length
  ·have hlt':(k:Int) < (A.length:Int):=by omega
   have hk0:(0:Int) ≤ (k:Int):=by omega
   obtain ⟨s,hx⟩:∃ x,A[k]?=some x:=⟨_,List.getElem?_eq_getElem hlt⟩
   obtain ⟨b,o,rfl,a0⟩:=(HL.out.fr HF.out).hr k s hx
   have HD:=Lib.hid (unq_drop hx)
   have HCL:=Lib.hid (right_f wr s (HS.out s (List.mem_of_getElem? hx)) (HLE.out.fr HF.out (by simp)))
   obtain ⟨z,hz⟩:∃ z,(!(Lex.quote s).isSome)=z:=⟨_,rfl⟩
   rw [hz] at HCL HD
   clear hx hz
   go_wp2_with fail
   refine HCL.out.mono ?_
   rintro e w2 ⟨rfl,hF2⟩
   have HF2:=Lib.hid (HF.out.trans0 hF2)
   clear hF2 HCL
   cases z
   ·have HEE:Hid (unq A=unq (A.drop (k+1))):=by show _=_;rw [HE.out,HD.out,Bool.false_or]
    go_wp2_with fail
    go_roundg (A.length - (k+1))
    case measure=>have:=HM.out;omega
    case rel=>exact ⟨k+1,by omega,rfl,by go_num,HF2.out,HEE.out⟩
   ·have HEE:Hid (unq A=true):=by show _=_;rw [HE.out,HD.out,Bool.true_or]
    go_wp2_with fail
    go_ret
    exact ⟨k,rfl,by rw [HEE.out];simp,HF2.out⟩
  ·have HEE:Hid (unq A=false):=by show _=_;rw [HE.out,List.drop_eq_nil_of_le (by omega)];rfl
   have hlt':¬ (k:Int) < (A.length:Int):=by omega
   go_wp2_with fail
   go_ret
   exact ⟨-1,rfl,by rw [HEE.out];rfl,HF.out⟩
set_option maxHeartbeats 4000000 in
theorem contains_f (w:World) (q:Option Addr) (c:Nat) (A:List ByteArray) (h:SA w q c A) (hs:∀ s ∈ A,s.size ≤ 100000000) (hL:Least w) :
  Calls Tryz.prog 34 #[.slice q A.length c,.func (.func 35) #[] #[]] w fun e w'=>e=.returned (.bool (unq A)) ∧ Fr [] w w':=by
 have HC:=Lib.hid (index_f w q c A h hs hL)
 clear h hs hL
 go_enter Tryz.func34,Tryz.ntmps34
 go_wp2_with fail
 refine HC.out.mono ?_
 rintro e W ⟨n,rfl,hn,hF⟩
 have HF:=Lib.hid hF
 have HN:=Lib.hid hn
 clear hF hn
 by_cases h0:n ≥ 0
 ·go_wp2_with fail
  go_ret
  exact ⟨by rw [HN.out];simp [h0],HF.out⟩
 ·go_wp2_with fail
  go_ret
  exact ⟨by rw [HN.out];simp [h0],HF.out⟩
end Go.Proofs.YtgklmpooonnmiaaGreatDoor

namespace Go.Proofs.YtgklmpooonnmiaaGreatDoor
open Go.RowKit
def Ru.right (u:Ru):Bool:=decide (u.scopes.length ≤ 16) && decide (u.when_.length ≤ 1) && !unq u.scopes && Ex.rights u.when_ 1
def Ru.rights (L:List Ru):Bool:=decide (L.length ≤ 16) && L.all Ru.right
def Ru.short (u:Ru):Prop:=(∀ s ∈ u.scopes,s.size ≤ 100000000) ∧ Ex.shorts u.when_
theorem Ru.all_drop {L:List Ru} {k:Nat} {u:Ru} (h:L[k]?=some u):(L.drop k).all Ru.right=(u.right && (L.drop (k+1)).all Ru.right):=by
 obtain ⟨h1,rfl⟩:=List.getElem?_eq_some_iff.1 h
 rw [List.drop_eq_getElem_cons h1,List.all_cons]
set_option maxHeartbeats 4000000 in
set_option maxRecDepth 100000 in
theorem pol_Right (w:World) (q:Option Addr) (c:Nat) (f:Nat → List Value) (L:List Ru) (h:RsA w q c f L) (hn:∀ u ∈ L,u.short) (hLe:Least w) :
  Calls Tryz.prog 14 #[.slice q L.length c] w fun e w'=>e=.returned (.bool (Ru.rights L)) ∧ Fr [] w w':=by
 have HL:=Lib.hid h
 have HN:=Lib.hid hn
 have HLE:=Lib.hid hLe
 have hb:L.length ≤ 9223372036854775807:=by have h1:=h.hc;have h2:=h.hm;unfold maxLen at h2;omega
 clear h hn hLe
 by_cases h16:16 < L.length
 ·have h16':(L.length:Int) > 16:=by omega
  have HG:Hid (Ru.rights L=false):=by show _=_;unfold Ru.rights;rw [decide_eq_false (by omega)];rfl
  clear h16
  go_enter Tryz.func14,Tryz.ntmps14
  go_wp2_with fail
  go_ret
  rw [HG.out]
  exact ⟨rfl,Fr.refl _ _⟩
 have h16':¬ (L.length:Int) > 16:=by omega
 have HG:Hid (Ru.rights L=L.all Ru.right):=by show _=_;unfold Ru.rights;rw [decide_eq_true (by omega)];rfl
 clear h16
 go_enter Tryz.func14,Tryz.ntmps14
 go_wp2_with fail
 go_loopg [4,11] L.length (fun m s4 s11 W=>∃ (k:Nat),k ≤ L.length ∧ m=L.length - k ∧ s11=.int .i64 k ∧ Hid (Fr [] w W) ∧ Hid (Ru.rights L=(L.drop k).all Ru.right))
 case atStart=>exact ⟨0,by omega,by omega,rfl,Fr.refl _ _,HG.out⟩
 case round =>
  clear HG
  obtain ⟨k,hk,hm,rfl,HF,HE⟩:=hrel
  have HM:=Lib.hid hm
  clear hm
  by_cases hlt:k < L.length
  ·have hlt':(k:Int) < (L.length:Int):=by omega
   have hk0:(0:Int) ≤ (k:Int):=by omega
   obtain ⟨u,hx⟩:∃ x,L[k]?=some x:=⟨_,List.getElem?_eq_getElem hlt⟩
   obtain ⟨ad,rfl,h5⟩:=(HL.out.fr HF.out).hr k u hx
   obtain ⟨q1,c1,q2,c2,g,hA⟩:=(HL.out.fr HF.out).hx k u hx
   obtain ⟨v0,v1,v2,v3,hf0,a0,a1,a2,a3⟩:=h5
   have hf2:=hA.e
   rw [hf0] at hf2
   simp only [List.cons.injEq,and_true] at hf2
   obtain ⟨rfl,rfl,rfl,rfl⟩:=hf2
   have HS:=Lib.hid hA.s
   have HX:=Lib.hid hA.l
   have HSH:=Lib.hid (HN.out u (List.mem_of_getElem? hx))
   have HD:=Lib.hid (Ru.all_drop hx)
   obtain ⟨ud,us,uw,up⟩:=u
   have hs1:us.length ≤ 9223372036854775807:=by have h1:=HS.out.hc;have h2:=HS.out.hm;unfold maxLen at h2;simp only [] at h1;omega
   have hs2:uw.length ≤ 9223372036854775807:=by have h1:=HX.out.hc;have h2:=HX.out.hm;unfold maxLen at h2;simp only [] at h1;omega
   have hbl:=World.block_lt_of_cell? wr _ a0
   clear hf0 hx hA
   dsimp only at a0 a1 a2 a3 HS HX HD HSH
   by_cases hs4:16 < us.length
   ·have hs4':(us.length:Int) > 16:=by omega
    have HEE:Hid (Ru.rights L=false):=by show _=_;rw [HE.out,HD.out];unfold Ru.right;rw [decide_eq_false (by show ¬ us.length ≤ 16;omega)];rfl
    go_wp2_with fail
    go_ret
    rw [HEE.out]
    exact ⟨rfl,HF.out.alloc _⟩
   ·have hs4':¬ (us.length:Int) > 16:=by omega
    by_cases hs5:1 < uw.length
    ·have hs5':(uw.length:Int) > 1:=by omega
     have HEE:Hid (Ru.rights L=false):=by show _=_;rw [HE.out,HD.out];unfold Ru.right;rw [decide_eq_false (p:=uw.length ≤ 1) (by omega)];simp
     go_wp2_with fail
     go_ret
     rw [HEE.out]
     exact ⟨rfl,HF.out.alloc _⟩
    ·have hs5':¬ (uw.length:Int) > 1:=by omega
     have HU:Hid (Ru.rights L=((!unq us && Ex.rights uw 1) && (L.drop (k+1)).all Ru.right)):=by
      show _=_;rw [HE.out,HD.out];unfold Ru.right;rw [decide_eq_true (p:=us.length ≤ 16) (by omega),decide_eq_true (p:=uw.length ≤ 1) (by omega)];simp
     go_upto_region 6 with fail
     refine wp_fresh (fun V=>V.heap[wr.heap.size]?=some (.cells #[.bool ud,.slice q1 us.length c1,.slice q2 uw.length c2,.int .i64 up] 40 (0,0)) ∧ Fr [] wr V) ⟨heap_alloc_last _ _,(Fr.refl _ _).alloc _⟩ ?_
     rintro V ⟨hbx,hFV⟩
     have HBX:=Lib.hid hbx
     have HFV:=Lib.hid hFV
     have zf:∀ i,V.frozen? ⟨(wr.heap.size),i,none⟩=false:=fun i=>Lib.frozen_of_heap hbx i
     have z1:V.cell? ⟨(wr.heap.size),1,none⟩=some (.slice q1 us.length c1):=by rw [Lib.cell_of_heap hbx];rfl
     have z2:V.cell? ⟨(wr.heap.size),2,none⟩=some (.slice q2 uw.length c2):=by rw [Lib.cell_of_heap hbx];rfl
     clear hbx hFV a0 a1 a2 a3 hbl
     have HC:=Lib.hid (contains_f V q1 c1 us (HS.out.fr HFV.out) HSH.out.1 (HLE.out.fr (HF.out.trans0 HFV.out) (by simp)))
     obtain ⟨y,hy⟩:∃ y,unq us=y:=⟨_,rfl⟩
     rw [hy] at HC HU
     clear hy HE HD
     go_wp2_with fail
     refine HC.out.mono ?_
     rintro e V2 ⟨rfl,hF2⟩
     have HF2:=Lib.hid (HF.out.trans0 (HFV.out.trans0 hF2))
     have HX2:=Lib.hid (HX.out.fr (HFV.out.trans0 hF2))
     have hbx:=hF2.row HBX.out (by simp)
     have HBX2:=Lib.hid hbx
     have yf:∀ i,V2.frozen? ⟨(wr.heap.size),i,none⟩=false:=fun i=>Lib.frozen_of_heap hbx i
     have y2:V2.cell? ⟨(wr.heap.size),2,none⟩=some (.slice q2 uw.length c2):=by rw [Lib.cell_of_heap hbx];rfl
     clear hF2 HC z1 z2 zf HBX hbx
     cases y with
     | true =>
      have HEE:Hid (Ru.rights L=false):=by show _=_;rw [HU.out];rfl
      go_wp2_with fail
      go_ret
      rw [HEE.out]
      exact ⟨rfl,HF2.out⟩
     | false =>
      have HU2:Hid (Ru.rights L=(Ex.rights uw 1 && (L.drop (k+1)).all Ru.right)):=by show _=_;rw [HU.out];rfl
      clear HU
      go_wp2_with fail
      obtain ⟨wo,rfl⟩:∃ wo:World,wo=wr:=⟨_,rfl⟩
      go_loopg [5,33] uw.length (fun m s5 s33 W=>∃ (j:Nat),j ≤ uw.length ∧ m=uw.length - j ∧ s33=.int .i64 j ∧ Hid (Fr [] V2 W) ∧ Hid (Ex.rights uw 1=Ex.rights (uw.drop j) 1))
      case atStart=>exact ⟨0,by omega,by omega,rfl,Fr.refl _ _,rfl⟩
      case round =>
       obtain ⟨j,hj,hm,rfl,HFJ,HEJ⟩:=hrel
       have HMJ:=Lib.hid hm
       clear hm
       have hbx:=HFJ.out.row HBX2.out (by simp)
       have xf:∀ i,wr.frozen? ⟨(wo.heap.size),i,none⟩=false:=fun i=>Lib.frozen_of_heap hbx i
       have x2:wr.cell? ⟨(wo.heap.size),2,none⟩=some (.slice q2 uw.length c2):=by rw [Lib.cell_of_heap hbx];rfl
       clear hbx y2 yf
       by_cases hjl:j < uw.length
       ·have hjl':(j:Int) < (uw.length:Int):=by omega
        have hj0:(0:Int) ≤ (j:Int):=by omega
        obtain ⟨x,hx⟩:∃ s,uw[j]?=some s:=⟨_,List.getElem?_eq_getElem hjl⟩
        obtain ⟨ae,rfl,h5⟩:=(HX2.out.fr HFJ.out).hr j x hx
        have HSD:=Lib.hid (Ex.rights_drop (deep:=1) hx)
        have HCL:=Lib.hid (pol_right (HX2.out.hx j x hx) wr _ 1 HFJ.out h5 (Ex.shorts_at HSH.out.2 hx) (HLE.out.fr (HF2.out.trans0 HFJ.out) (by simp)))
        obtain ⟨z,hz⟩:∃ z,Ex.right x 1=z:=⟨_,rfl⟩
        rw [hz] at HCL HSD
        clear hx hz h5
        go_wp2_with fail
        refine HCL.out.mono ?_
        rintro e w2 ⟨rfl,hF2⟩
        have HF3:=Lib.hid (HFJ.out.trans0 hF2)
        clear hF2 HCL
        cases z
        ·have HEF:Hid (Ru.rights L=false):=by show _=_;rw [HU2.out,HEJ.out,HSD.out];rfl
         go_wp2_with fail
         go_ret
         rw [HEF.out]
         exact ⟨rfl,HF2.out.trans0 HF3.out⟩
        ·have HEF:Hid (Ex.rights uw 1=Ex.rights (uw.drop (j+1)) 1):=by show _=_;rw [HEJ.out,HSD.out,Bool.true_and]
         go_wp2_with fail
         go_roundg (uw.length - (j+1))
         case measure=>have:=HMJ.out;omega
         case rel=>exact ⟨j+1,by omega,rfl,by go_num,HF3.out,HEF.out⟩
       ·have hjl':¬ (j:Int) < (uw.length:Int):=by omega
        have HEF:Hid (Ru.rights L=(L.drop (k+1)).all Ru.right):=by show _=_;rw [HU2.out,HEJ.out,List.drop_eq_nil_of_le (by omega),Ex.rights,Bool.true_and]
        go_wp2_with fail
        go_roundg (L.length - (k+1))
        case measure=>have:=HM.out;omega
        case rel=>exact ⟨k+1,by omega,rfl,by go_num,HF2.out.trans0 HFJ.out,HEF.out⟩
  ·have hlt':¬ (k:Int) < (L.length:Int):=by omega
   have HEE:Hid (Ru.rights L=true):=by show _=_;rw [HE.out,List.drop_eq_nil_of_le (by omega)];rfl
   go_wp2_with fail
   go_ret
   rw [HEE.out]
   exact ⟨rfl,HF.out⟩
end Go.Proofs.YtgklmpooonnmiaaGreatDoor
