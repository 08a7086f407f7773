/-
  Lemmas and contracts that the proofs over this seat use (PolLevel, BldF, PolWriteP, PolWriteT); no statement of the seat is claimed in this text, and nothing is assumed in it.
-/
import Derived.Test.YtgklmpooonnmiaaGreatDoorK1
import Derived.Test.YtgklmpooonnmiaaGreatDoorK3
import Derived.Test.YtgklmpooonnmiaaGreatDoorK9
import Derived.StillTailTactics
set_option linter.unusedVariables false
set_option linter.unusedSimpArgs false
namespace Go.Proofs.YtgklmpooonnmiaaGreatDoor
open Go.RowKit
def Pol.level (op:Int):Int :=
 if op=8 then 1 else if op=7 then 2 else if op=6 then 3 else if op=9 ∨ op=10 ∨ op=11 ∨ op=12 ∨ op=13 ∨ op=14 then 4 else 5
set_option maxHeartbeats 4000000 in
set_option maxRecDepth 100000 in
theorem pol_level (w:World) (op:Int):Calls Tryz.prog 61 #[.int .i64 op] w fun e w'=>e=.returned (.int .i64 (Pol.level op)) ∧ w=w':=by
 go_enter Tryz.func61,Tryz.ntmps61
 go_wp2_with fail
 all_goals (refine bodyPost_ret (results_tmp rfl _ _ _) rfl ?_;simp_all [Pol.level])
end Go.Proofs.YtgklmpooonnmiaaGreatDoor

namespace Go.Proofs.YtgklmpooonnmiaaGreatDoor
open Go.RowKit
structure BFr (b:Nat) (w w':World):Prop where
 size:w.heap.size ≤ w'.heap.size
 block:∀ k,k < w.heap.size → k ≠ b → (∀ cs fr,w.heap[k]? ≠ some (.cells cs 5 fr)) → w'.heap[k]?=w.heap[k]?
theorem BFr.refl (b:Nat) (w:World):BFr b w w:=⟨Nat.le_refl _,fun _ _ _ _=>rfl⟩
theorem BFr.trans {b:Nat} {x y z:World} (h:BFr b x y) (k:BFr b y z):BFr b x z :=
 ⟨Nat.le_trans h.size k.size,fun i hi hn ht=>by
  have h1:=h.block i hi hn ht
  exact (k.block i (Nat.lt_of_lt_of_le hi h.size) hn (fun cs fr=>by rw [h1];exact ht cs fr)).trans h1⟩
theorem BFr.of_fr {b:Nat} {w w':World} (h:Fr [] w w'):BFr b w w':=⟨h.size,fun k hk _ _=>h.block k hk (by simp)⟩
theorem BFr.alloc {b:Nat} {a w:World} (h:BFr b a w) (o:Obj):BFr b a (w.alloc o):=h.trans (.of_fr ((Fr.refl _ _).alloc o))
theorem BFr.setCell {b:Nat} {a w:World} (h:BFr b a w) (i:Nat) (u:Value):BFr b a (w.setCell ⟨b,i,none⟩ u) :=
 h.trans ⟨by simp [World.setCell],fun k _ hk _=>Below.heap_setCell _ _ _ _ (fun e=>hk (by simpa using e))⟩
theorem BFr.row {b:Nat} {w w':World} (h:BFr b w w') {k T:Nat} {cs:Array Value} {fr:Nat × Nat} (hg:w.heap[k]?=some (.cells cs T fr)) (hk:k ≠ b) (hT:T ≠ 5):w'.heap[k]?=some (.cells cs T fr):=by
 rw [h.block k (row_lt hg) hk (fun cs' fr' e=>by rw [hg] at e;simp at e;exact hT e.2.1)];exact hg
theorem BFr.grown {b:Nat} {a w w':World} {B n:Nat} {v:Value} {xs:List Value} (h:BFr b a w) (hg:w.grownBy w' v.ownBlock) (ho:w.ownsRow B 5 1 v n xs):BFr b a w':=by
 refine h.trans ⟨hg.size,fun k hk _ ht=>hg.block k hk ?_⟩
 intro e
 rcases ho.2 with ⟨rfl,_⟩ | ⟨g,cap,cur,rfl,hb,hrow,_⟩
 ·simp [Value.ownBlock] at e
 ·simp only [Value.ownBlock,Option.some.injEq] at e
  subst e
  exact ht _ _ hrow
set_option maxHeartbeats 1000000 in
set_option maxRecDepth 100000 in
theorem bld_checkF (B b:Nat) (D:List Nat) (w:World) (h:Bld B b D w) :
  Calls Tryz.prog 59 #[.pointer (some ⟨b,0,none⟩)] w fun e w'=>e=.returned (.tuple #[]) ∧ BldAt B b (.pointer (some ⟨b,0,none⟩)) D w' ∧ Below B w w' ∧ BFr b w w':=by
 have hj0:(Tryz.prog.info? 74).map (·.size)=some 2:=by kernel_rfl
 obtain ⟨j,hj,hjs⟩:=Option.map_eq_some_iff.1 hj0
 rcases h with h | h
 ·have h0:=h.cell0
  have hsh:=h.shape
  have hfz:=h.frozen0
  have hpost:BldAt B b (.pointer (some ⟨b,0,none⟩)) D (w.setCell ⟨b,0,none⟩ (.pointer (some ⟨b,0,none⟩))) ∧ Below B w (w.setCell ⟨b,0,none⟩ (.pointer (some ⟨b,0,none⟩))) ∧ BFr b w (w.setCell ⟨b,0,none⟩ (.pointer (some ⟨b,0,none⟩))):=⟨h.used _,(Below.refl B w).setCell (p:=⟨b,0,none⟩) h.1 _,(BFr.refl b w).setCell 0 _⟩
  have HP:=Lib.hid hpost
  have HJ:=Lib.hid hj
  have HJS:=Lib.hid hjs
  have HSH:=Lib.hid hsh
  clear hpost hj hjs hsh h hj0
  go_enter Tryz.func59,Tryz.ntmps59
  go_wp2_with fail
  rw [Lib.run_to_unsafe w ⟨b,0,none⟩ Tryz.underlying71 Tryz.underlying105 HJ.out (by rw [HJS.out];decide) HSH.out (Nat.zero_lt_succ 1)]
  simp only [Result.andThen]
  rw [Oper.upon_value]
  go_wp2_with fail
  rw [run_callFunc_extern Tryz.func87 (by kernel_rfl) (by kernel_rfl) (by kernel_rfl) (e:=Extern.AbiNoEscape.same) (by kernel_rfl)]
  rw [Lib.run_noEscape]
  simp only [Result.andThen]
  rw [Oper.upon_value]
  go_wp2_with fail
  rw [Lib.run_from_unsafe w ⟨b,0,none⟩ Tryz.underlying105 Tryz.underlying71 HJ.out HSH.out (by kernel_rfl)]
  simp only [Result.andThen]
  rw [Oper.upon_value]
  go_wp2_with fail
  go_end0
  exact ⟨rfl,HP.out⟩
 ·have h0:=h.cell0
  have HP:=Lib.hid h
  clear h hj0 hjs
  have hq:=Lib.run_neq_ptr_same (P:=Tryz.prog) w ⟨b,0,none⟩ Tryz.underlying71 hj
  clear hj
  go_enter Tryz.func59,Tryz.ntmps59
  go_wp2_with fail
  go_end0
  exact ⟨rfl,HP.out,Below.refl B _,BFr.refl b _⟩
set_option maxHeartbeats 1000000 in
set_option maxRecDepth 100000 in
theorem bld_byteF (B b:Nat) (D:List Nat) (c:Nat) (w:World) (h:Bld B b D w) (hl:D.length < 1000000000) (hB:B ≤ w.heap.size) :
  Calls Tryz.prog 27 #[.pointer (some ⟨b,0,none⟩),.int .u8 c] w fun e w'=>e=.returned .nilIface ∧ Bld B b (D ++ [c]) w' ∧ Below B w w' ∧ BFr b w w':=by
 obtain ⟨i0,hi,hz0,hz1,hz2⟩:=info_parts info8
 have HI:=Lib.hid hi
 have HZ:=Lib.hid (And.intro hz0 (And.intro hz1 hz2))
 clear hi hz0 hz1 hz2
 go_enter Tryz.func27,Tryz.ntmps27
 go_wp2_with fail
 refine (bld_checkF B b D w h).mono ?_
 rintro e w1 ⟨rfl,⟨hBb,v,hbk,hown,hne⟩,hb1,hf1⟩
 have HF1:=Lib.hid hf1
 clear hf1
 have c1:w1.cell? ⟨b,1,none⟩=some v:=by rw [Lib.cell_of_heap hbk];rfl
 have HBK:=Lib.hid hbk
 have HOWN:=Lib.hid hown
 have HNE:=Lib.hid hne
 have HB1:=Lib.hid hb1
 have hsz:=hb1.size
 clear hbk hown hne hb1 h
 go_wp2_with (at_builtin;refine wpList_append_lies (w1.alloc _) rfl (.tmp 11) (.tmp 13) 72 rfl B 5 i0 (.int .u8 0) 1 1 Tryz.underlying72 HI.out HZ.out.1 HZ.out.2.1 HZ.out.2.2 rfl (by decide) v (u8s D).length (u8s D) rfl (HOWN.out.alloc _) _ 1 1 [.int .u8 (c:Int)] rfl rfl (cell_one_new w1 _ _) (by simp [Value.oneCell']) (by decide) (by rw [u8s_length];unfold maxLen;omega) (by rw [u8s_length];omega) (by simp;omega) _ rfl ?_)
 intro g cap w2 hown2 hgrow _ hg2
 have hlt:b < w1.heap.size:=row_lt HBK.out
 have hb2:w2.heap[b]?=some (.cells #[.pointer (some ⟨b,0,none⟩),v] 74 (0,0)):=by
  rw [hgrow.block b (by simp;omega) (fun e=>HNE.out e.symm),Below.heap_alloc _ _ _ hlt];exact HBK.out
 have e:u8s (D ++ [c])=u8s D ++ [.int .u8 (c:Int)]:=by simp [u8s]
 have hl2:D.length+1=(u8s (D ++ [c])).length:=by simp
 rw [← e] at hown2
 have hown3:w2.ownsRow B 5 1 (.slice (some ⟨g,0,none⟩) (D.length+1) cap) (u8s (D ++ [c])).length (u8s (D ++ [c])):=by rw [← hl2];exact hown2
 have c2:w2.cell? ⟨b,1,none⟩=some v:=by rw [Lib.cell_of_heap hb2];rfl
 have f2:w2.frozen? ⟨b,1,none⟩=false:=Lib.frozen_of_heap hb2 1
 have HPUT:=Lib.hid (Lib.BuilderAt.put (T:=74) hBb hb2 hown3 (by decide))
 have HBL:Hid (Below B w w2):=by
  refine (HB1.out.alloc (by omega) _).grown hgrow (by simp;omega) (own_base_ge HOWN.out)
 have HFL:=Lib.hid ((HF1.out.alloc _).grown hgrow (HOWN.out.alloc _))
 clear hb2 hown2 hown3 hgrow e hl2 hlt
 go_wp2_with fail
 go_ret
 exact ⟨rfl,Or.inr HPUT.out,HBL.out.setCell (p:=⟨b,1,none⟩) hBb _,HFL.out.setCell 1 _⟩
set_option maxHeartbeats 1000000 in
set_option maxRecDepth 100000 in
theorem bld_strF (B b:Nat) (D:List Nat) (s:ByteArray) (w:World) (h:Bld B b D w) (hl:D.length+s.size < 1000000000) (hB:B ≤ w.heap.size) :
  Calls Tryz.prog 28 #[.pointer (some ⟨b,0,none⟩),.string s] w fun e w'=>e=.returned (.tuple #[.int .i64 s.size,.nilIface]) ∧ Bld B b (D ++ nats s) w' ∧ Below B w w' ∧ BFr b w w':=by
 obtain ⟨i0,hi,hz0,hz1,hz2⟩:=info_parts info8
 have HI:=Lib.hid hi
 have HZ:=Lib.hid (And.intro hz0 (And.intro hz1 hz2))
 clear hi hz0 hz1 hz2
 go_enter Tryz.func28,Tryz.ntmps28
 go_wp2_with fail
 refine (bld_checkF B b D w h).mono ?_
 rintro e w1 ⟨rfl,⟨hBb,v,hbk,hown,hne⟩,hb1,hf1⟩
 have HF1:=Lib.hid hf1
 clear hf1
 have c1:w1.cell? ⟨b,1,none⟩=some v:=by rw [Lib.cell_of_heap hbk];rfl
 have HBK:=Lib.hid hbk
 have HOWN:=Lib.hid hown
 have HNE:=Lib.hid hne
 have HB1:=Lib.hid hb1
 have hsz:=hb1.size
 clear hbk hown hne hb1 h
 go_wp2_with (at_builtin;refine Lib.wpList_append_own_string _ rfl (.tmp 12) (.tmp 13) 72 9 rfl B 5 i0 Tryz.underlying72 Tryz.underlying9 HI.out HZ.out.1 HZ.out.2.1 HZ.out.2.2 v (u8s D).length (u8s D) rfl HOWN.out s rfl (by rw [u8s_length];unfold maxLen;omega) (by rw [u8s_length];omega) (by omega) ?_)
 intro v' w2 hown2 hgrow _
 have hlt:b < w1.heap.size:=row_lt HBK.out
 have hb2:w2.heap[b]?=some (.cells #[.pointer (some ⟨b,0,none⟩),v] 74 (0,0)):=by
  rw [hgrow.block b hlt (fun e=>HNE.out e.symm)];exact HBK.out
 have e:u8s (D ++ nats s)=u8s D ++ Lib.strCells s:=by rw [strCells_u8s];simp [u8s]
 have hl2:D.length+s.size=(u8s (D ++ nats s)).length:=by simp [nats_length]
 rw [← e] at hown2
 rw [show D.length+s.size=(u8s (D ++ nats s)).length by simp [nats_length]] at hown2
 have c2:w2.cell? ⟨b,1,none⟩=some v:=by rw [Lib.cell_of_heap hb2];rfl
 have f2:w2.frozen? ⟨b,1,none⟩=false:=Lib.frozen_of_heap hb2 1
 have hform:∃ ao n c,v'=.slice ao n c:=by
  rcases hown2.2 with ⟨rfl,_⟩ | ⟨g,cap,cur,rfl,_⟩
  ·exact ⟨_,_,_,rfl⟩
  ·exact ⟨_,_,_,rfl⟩
 obtain ⟨ao,n,cc,rfl⟩:=hform
 have HPUT:=Lib.hid (Lib.BuilderAt.put (T:=74) hBb hb2 hown2 (by decide))
 have HBL:Hid (Below B w w2):=HB1.out.grown hgrow (by omega) (own_base_ge HOWN.out)
 have HFL:=Lib.hid (HF1.out.grown hgrow HOWN.out)
 clear hb2 hown2 hgrow e hl2 hlt
 go_wp2_with fail
 go_ret2
 exact ⟨rfl,Or.inr HPUT.out,HBL.out.setCell (p:=⟨b,1,none⟩) hBb _,HFL.out.setCell 1 _⟩
end Go.Proofs.YtgklmpooonnmiaaGreatDoor

namespace Go.Proofs.YtgklmpooonnmiaaGreatDoor
open Go.RowKit
def qt (s:ByteArray):ByteArray:=ba ((Lex.quote s).getD [])
def Ex.sgn (op:Int):ByteArray :=
 if op=7 then ⟨#[97,110,100]⟩ else if op=8 then ⟨#[111,114]⟩ else if op=9 then ⟨#[61]⟩ else if op=10 then ⟨#[33,61]⟩ else if op=11 then ⟨#[60]⟩ else if op=12 then ⟨#[60,61]⟩ else ⟨#[104,97,115]⟩
def Ex.lo (op:Int):Int:=if op=7 then 2 else if op=8 then 1 else 5
def Ex.hi (op:Int):Int:=if op=7 then 3 else if op=8 then 2 else 5
def Ex.leaf (op:Int) (s:ByteArray) (n:Int):ByteArray :=
 if op=1 then (if n=1 then ⟨#[116,114,117,101]⟩ else ⟨#[102,97,108,115,101]⟩)
 else if op=2 then ba (Dec.print n)
 else if op=3 then qt s
 else if op=4 then s
 else ⟨#[99,108,97,105,109,40]⟩ ++ qt s ++ ⟨#[41]⟩
mutual
def Ex.text:Ex → Int → List Nat
 | .mk op s n L _,asked=>if Pol.level op < asked then 40 :: (Ex.body op s n L ++ [41]) else Ex.body op s n L
def Ex.body (op:Int) (s:ByteArray) (n:Int):List Ex → List Nat
 | []=>nats (Ex.leaf op s n)
 | a :: l=>Ex.rest op (if op=6 then [110,111,116,32] ++ Ex.text a 3 else if op=13 then Ex.text a 5 else Ex.text a (Ex.lo op)) l
def Ex.rest (op:Int) (A:List Nat):List Ex → List Nat
 | []=>A
 | b :: r=>if op=13 then A ++ ([32,105,110,32,91] ++ (Ex.text b 5 ++ (Ex.more r ++ [93]))) else A ++ (nats (⟨#[32]⟩ ++ Ex.sgn op ++ ⟨#[32]⟩) ++ Ex.text b (Ex.hi op))
def Ex.more:List Ex → List Nat
 | []=>[]
 | x :: r=>[44,32] ++ (Ex.text x 5 ++ Ex.more r)
end
def Ex.ins:List Ex → List Nat
 | []=>[]
 | b :: r=>[32,105,110,32,91] ++ (Ex.text b 5 ++ Ex.more r)
theorem Ex.more_snoc:∀ (r:List Ex) (x:Ex),Ex.more (r ++ [x])=Ex.more r ++ ([44,32] ++ Ex.text x 5)
 | [],x=>by rw [List.nil_append,Ex.more,Ex.more,Ex.more];simp
 | y :: r,x=>by rw [List.cons_append,Ex.more,Ex.more,Ex.more_snoc r x];simp
theorem Ex.ins_snoc (r:List Ex) (x:Ex):Ex.ins (r ++ [x])=Ex.ins r ++ ((if r.length=0 then [32,105,110,32,91] else [44,32]) ++ Ex.text x 5):=by
 cases r with
 | nil=>rw [List.nil_append,Ex.ins,Ex.ins,Ex.more];simp
 | cons y r=>rw [List.cons_append,Ex.ins,Ex.ins,Ex.more_snoc];simp
theorem Ex.ins_take {L:List Ex} {k:Nat} {x:Ex} (h:L[k]?=some x):Ex.ins (L.take (k+1))=Ex.ins (L.take k) ++ ((if k=0 then [32,105,110,32,91] else [44,32]) ++ Ex.text x 5):=by
 obtain ⟨h1,rfl⟩:=List.getElem?_eq_some_iff.1 h
 rw [List.take_succ_eq_append_getElem h1,Ex.ins_snoc,List.length_take,Nat.min_eq_left (by omega)]
theorem Ex.body_two {op:Int} (s:ByteArray) (n:Int) (a b:Ex) (h6:op ≠ 6) (h13:op ≠ 13):Ex.body op s n [a,b]=Ex.text a (Ex.lo op) ++ (nats (⟨#[32]⟩ ++ Ex.sgn op ++ ⟨#[32]⟩) ++ Ex.text b (Ex.hi op)):=by
 rw [Ex.body,if_neg h6,if_neg h13,Ex.rest,if_neg h13]
theorem Ex.body_in (s:ByteArray) (n:Int) (a b:Ex) (r:List Ex):Ex.body 13 s n (a :: b :: r)=Ex.text a 5 ++ (Ex.ins (b :: r) ++ [93]):=by
 rw [Ex.body,if_neg (by decide),if_pos rfl,Ex.rest,if_pos rfl,Ex.ins]
 simp
theorem Ex.body_not (s:ByteArray) (n:Int) (a:Ex):Ex.body 6 s n [a]=[110,111,116,32] ++ Ex.text a 3:=by
 rw [Ex.body,if_pos rfl,Ex.rest]
def Writes (w0:World) (b:Nat) (x:Ex) (ad:Addr):Prop :=
 ∀ (W : World) (D : List Nat) (asked : Int), Below w0.heap.size w0 W → Bld w0.heap.size b D W → D.length + (x.text asked).length < 1000000000 →
   Calls Tryz.prog 30 #[.pointer (some ⟨b,0,none⟩),.pointer (some ad),.int .i64 asked] W fun e w'=>e=.returned (.tuple #[]) ∧ Bld w0.heap.size b (D ++ x.text asked) w' ∧ Below w0.heap.size W w' ∧ BFr b W w'
set_option maxHeartbeats 4000000 in
theorem write1 (w:World) (s:ByteArray) (hs:s.size ≤ 100000000) (hL:Least w):Calls Tryz.prog 62 #[.string s] w fun e w'=>e=.returned (.string (qt s)) ∧ Fr [] w w':=by
 have HQ:=Lib.hid (lex_quote w s hs hL)
 clear hL
 go_enter Tryz.func62,Tryz.ntmps62
 go_wp2_with fail
 refine HQ.out.mono ?_
 rintro e w1 ⟨rfl,hF⟩
 have HF:=Lib.hid hF
 clear hF
 go_wp2_with fail
 refine bodyPost_ret (results_tmp rfl _ _ _) rfl ?_
 exact ⟨rfl,HF.out⟩
end Go.Proofs.YtgklmpooonnmiaaGreatDoor

namespace Go.Proofs.YtgklmpooonnmiaaGreatDoor
open Go.RowKit
set_option maxHeartbeats 4000000 in
set_option maxRecDepth 100000 in
theorem write_two (w0 W:World) (b B1 B2:Nat) (adE ad:Addr) (op:Int) (s:ByteArray) (n p:Int) (k c:Nat) (x0 x1:Ex) (sg:ByteArray) (l0 l1:Int) (D:List Nat)
  (hb1:W.heap[B1]?=some (.cells #[.pointer (some ⟨b,0,none⟩)] 71 (0,0))) (hb2:W.heap[B2]?=some (.cells #[.pointer (some adE)] 81 (0,0))) (n1:B1 ≠ b) (n2:B2 ≠ b)
  (h5:Five w0 adE [.int .i64 op,.string s,.int .i64 n,.slice (some ad) k c,.int .i64 p]) (hk:2 ≤ k) (hm:k ≤ 1000000000)
  (hW:Below w0.heap.size w0 W) (hB:Bld w0.heap.size b D W)
  (h0:Writes w0 b x0 ad) (h1:Writes w0 b x1 (ad.add 5))
  (hlen:D.length+(x0.text l0).length+(sg.size+2)+(x1.text l1).length < 1000000000) :
  Calls Tryz.prog 63 #[.string sg,.int .i64 l0,.int .i64 l1,.pointer (some ⟨B1,0,none⟩),.pointer (some ⟨B2,0,none⟩)] W fun e w'=>e=.returned (.tuple #[]) ∧ Bld w0.heap.size b (D ++ (x0.text l0 ++ (nats (⟨#[32]⟩ ++ sg ++ ⟨#[32]⟩) ++ x1.text l1))) w' ∧ Below w0.heap.size W w' ∧ BFr b W w':=by
 obtain ⟨v0,v1,v2,v3,v4,hv,a0,a1,a2,a3,a4⟩:=h5
 simp only [List.cons.injEq,and_true] at hv
 obtain ⟨rfl,rfl,rfl,rfl,rfl⟩:=hv
 have A3:=Lib.hid a3
 have hk0:(0:Int) < (k:Int):=by omega
 have hk1:(1:Int) < (k:Int):=by omega
 have hk2:0 < k:=by omega
 have hk3:1 < k:=by omega
 have hsg:sg.size ≤ 1000000000:=by omega
 have c1:W.cell? ⟨B1,0,none⟩=some (.pointer (some ⟨b,0,none⟩)):=by rw [Lib.cell_of_heap hb1];rfl
 have c2:W.cell? ⟨B2,0,none⟩=some (.pointer (some adE)):=by rw [Lib.cell_of_heap hb2];rfl
 have c3:=(Fr.of_below hW).cells a3
 have HB1:=Lib.hid hb1
 have HB2:=Lib.hid hb2
 have HW:=Lib.hid hW
 have HB:=Lib.hid hB
 have H0:=Lib.hid h0
 have H1:=Lib.hid h1
 have HLEN:=Lib.hid hlen
 have N1:=Lib.hid n1
 have N2:=Lib.hid n2
 clear a0 a1 a2 a3 a4 hb1 hb2 hW hB h0 h1 hlen n1 n2
 go_enter Tryz.func63,Tryz.ntmps63
 go_wp2_with fail
 go_still_tail 7,(by kernel_rfl)
 go_wp2_with fail
 have h1:D.length+(x0.text l0).length < 1000000000:=by have:=HLEN.out;omega
 have HC:=H0.out _ D l0 HW.out.drew HB.out h1
 clear h1
 refine HC.mono ?_
 clear HC
 rintro e w1 ⟨rfl,hbl,hbw,hbf⟩
 have HB:=Lib.hid hbl
 have HB1:=Lib.hid (hbf.row (w:=W.drew) HB1.out N1.out (by decide))
 have HB2:=Lib.hid (hbf.row (w:=W.drew) HB2.out N2.out (by decide))
 have HWW:Hid (Below w0.heap.size W w1):=((Below.refl _ W).drew).trans hbw
 have HFF:Hid (BFr b W w1):=(BFr.refl b W).trans ⟨hbf.size,hbf.block⟩
 have HW1:=Lib.hid (HW.out.trans HWW.out)
 clear hbl hbw hbf c1 c2 c3
 have c1:w1.cell? ⟨B1,0,none⟩=some (.pointer (some ⟨b,0,none⟩)):=by rw [Lib.cell_of_heap HB1.out];rfl
 have c2:w1.cell? ⟨B2,0,none⟩=some (.pointer (some adE)):=by rw [Lib.cell_of_heap HB2.out];rfl
 have c3:=(Fr.of_below HW1.out).cells A3.out
 have hsz:(⟨#[32]⟩ ++ sg ++ ⟨#[32]⟩:ByteArray).size=sg.size+2:=by rw [ByteArray.size_append,ByteArray.size_append];show 1+sg.size+1=_;omega
 have HS:=Lib.hid hsz
 have HW1S:=Lib.hid HW1.out.size
 clear hsz
 go_wp2_with fail
 have h1:(D ++ x0.text l0).length+(⟨#[32]⟩ ++ sg ++ ⟨#[32]⟩:ByteArray).size < 1000000000:=by rw [HS.out,List.length_append];have:=HLEN.out;omega
 have HC:=bld_strF w0.heap.size b (D ++ x0.text l0) (⟨#[32]⟩ ++ sg ++ ⟨#[32]⟩) w1 HB.out h1 HW1S.out
 clear h1
 refine HC.mono ?_
 clear HC
 rintro e w2 ⟨rfl,hbl,hbw,hbf⟩
 have HB:=Lib.hid hbl
 have HB1:=Lib.hid (hbf.row HB1.out N1.out (by decide))
 have HB2:=Lib.hid (hbf.row HB2.out N2.out (by decide))
 have HWW:=Lib.hid (HWW.out.trans hbw)
 have HFF:=Lib.hid (HFF.out.trans hbf)
 have HW2:=Lib.hid (HW1.out.trans hbw)
 clear hbl hbw hbf c1 c2 c3
 have c1:w2.cell? ⟨B1,0,none⟩=some (.pointer (some ⟨b,0,none⟩)):=by rw [Lib.cell_of_heap HB1.out];rfl
 have c2:w2.cell? ⟨B2,0,none⟩=some (.pointer (some adE)):=by rw [Lib.cell_of_heap HB2.out];rfl
 have c3:=(Fr.of_below HW2.out).cells A3.out
 go_wp2_with fail
 go_still_tail 7,(by kernel_rfl)
 go_wp2_with fail
 have h1:(D ++ x0.text l0 ++ nats (⟨#[32]⟩ ++ sg ++ ⟨#[32]⟩)).length+(x1.text l1).length < 1000000000:=by rw [List.length_append,List.length_append,nats_length,HS.out];have:=HLEN.out;omega
 have HC:=H1.out _ _ l1 HW2.out.drew HB.out h1
 clear h1
 refine HC.mono ?_
 clear HC
 rintro e w3 ⟨rfl,hbl,hbw,hbf⟩
 have HB:=Lib.hid hbl
 have HWW:=Lib.hid (HWW.out.drew.trans hbw)
 have HFF:Hid (BFr b W w3):=HFF.out.trans ⟨hbf.size,hbf.block⟩
 clear hbl hbw hbf c1 c2 c3
 go_wp2_with fail
 go_end0
 refine ⟨rfl,?_,HWW.out,HFF.out⟩
 have h:=HB.out
 simp only [List.append_assoc] at h ⊢
 exact h
end Go.Proofs.YtgklmpooonnmiaaGreatDoor
