/-
  Lemmas and contracts that the proofs over this seat use (RefSmall, RefSign, RefScanP); no statement of the seat is claimed in this text, and nothing is assumed in it.
-/
import Derived.Test.YtgklmpooonnmiaaGreatDoorK6
import Derived.Test.YtgklmpooonnmiaaGreatDoorK21
import Derived.Deep.LoopGhost
import Derived.Test.YtgklmpooonnmiaaGreatDoorK22
import Derived.Test.YtgklmpooonnmiaaGreatDoorK23
set_option linter.unusedVariables false
set_option linter.unusedSimpArgs false
namespace Go.Proofs.YtgklmpooonnmiaaGreatDoor
open Go.RowKit
theorem ref11_small (c:Nat) (w:World) :
  Calls Tryz.prog 49 #[.int .u8 c] w fun e w'=>e=.returned (.bool (Lex.small c)) ∧ w=w':=by
 by_cases h1:97 ≤ c
 ·have h1':(c:Int) ≥ 97:=by omega
  by_cases h2:c ≤ 122
  ·have h2':(c:Int) ≤ 122:=by omega
   have e:Lex.small c=true:=by simp [Lex.small,h1,h2]
   rw [e]
   clear e h1 h2
   go_enter Tryz.func49,Tryz.ntmps49
   go_wp2
   go_ret
   exact ⟨rfl,rfl⟩
  ·have h2':¬ (c:Int) ≤ 122:=by omega
   have e:Lex.small c=false:=by simp [Lex.small,h2];omega
   have q:((c:Int) == 95)=false:=beq_eq_false_iff_ne.2 (by omega)
   rw [e]
   clear e h1 h2
   go_enter Tryz.func49,Tryz.ntmps49
   go_wp2
   go_ret
   exact ⟨rfl,rfl⟩
 ·have h1':¬ (c:Int) ≥ 97:=by omega
  by_cases h2:c=95
  ·have e:Lex.small c=true:=by simp [Lex.small,h2]
   have q:((c:Int) == 95)=true:=beq_iff_eq.2 (by omega)
   rw [e]
   clear e h1 h2
   go_enter Tryz.func49,Tryz.ntmps49
   go_wp2
   go_ret
   exact ⟨rfl,rfl⟩
  ·have e:Lex.small c=false:=by simp [Lex.small,h1,h2]
   have q:((c:Int) == 95)=false:=beq_eq_false_iff_ne.2 (by omega)
   rw [e]
   clear e h1 h2
   go_enter Tryz.func49,Tryz.ntmps49
   go_wp2
   go_ret
   exact ⟨rfl,rfl⟩
end Go.Proofs.YtgklmpooonnmiaaGreatDoor

namespace Go.Proofs.YtgklmpooonnmiaaGreatDoor
open Go.RowKit
theorem sign_two (s:ByteArray) (c:Nat) (hc:c < 256) (h:2 ≤ s.size):((s.extract 0 2).toList=(ba [c,61]).toList) ↔ bn s 0=c ∧ bn s 1=61:=by
 rw [toList_inj,ba_take s 2 h,ba_inj (by intro x hx;simp only [List.mem_map] at hx;obtain ⟨i,_,rfl⟩:=hx;exact bn_lt s i) (by intro x hx;simp at hx;omega)]
 simp [List.range_succ]
namespace Lex
def two:Nat → Nat
 | 0=>33
 | 1=>60
 | _=>62
def one:Nat → Nat
 | 0=>40
 | 1=>41
 | 2=>91
 | 3=>93
 | 4=>44
 | 5=>59
 | 6=>61
 | 7=>60
 | _=>62
theorem sign_2 {f:Nat → Nat} {n i:Nat} (hi:i < 3) (h2:2 ≤ n) (h0:f 0=two i) (h1:f 1=61):sign f n=2:=by
 unfold sign
 rw [if_neg (by omega),h0,h1]
 obtain rfl | rfl | rfl:i=0 ∨ i=1 ∨ i=2:=by omega
 all_goals simp [two];omega
theorem sign_1 {f:Nat → Nat} {n j:Nat} (hj:j < 9) (h0:0 < n) (h2:∀ i,i < 3 → ¬ (2 ≤ n ∧ f 0=two i ∧ f 1=61)) (h1:f 0=one j):sign f n=1:=by
 have a0:=h2 0 (by omega)
 have a1:=h2 1 (by omega)
 have a2:=h2 2 (by omega)
 simp only [two] at a0 a1 a2
 unfold sign
 rw [if_neg (by omega)]
 rw [h1] at a0 a1 a2 ⊢
 have hj2:j=0 ∨ j=1 ∨ j=2 ∨ j=3 ∨ j=4 ∨ j=5 ∨ j=6 ∨ j=7 ∨ j=8:=by omega
 rcases hj2 with rfl | rfl | rfl | rfl | rfl | rfl | rfl | rfl | rfl <;> simp [one,isOne] at a0 a1 a2 ⊢ <;> omega
theorem sign_0 {f:Nat → Nat} {n:Nat} (h2:∀ i,i < 3 → ¬ (2 ≤ n ∧ f 0=two i ∧ f 1=61)) (h1:∀ j,j < 9 → ¬ (0 < n ∧ f 0=one j)):sign f n=0:=by
 unfold sign
 by_cases hn:n=0
 ·rw [if_pos hn]
 rw [if_neg hn]
 have a0:=h2 0 (by omega)
 have b0:=h1 0 (by omega)
 have b1:=h1 1 (by omega)
 have b2:=h1 2 (by omega)
 have b3:=h1 3 (by omega)
 have b4:=h1 4 (by omega)
 have b5:=h1 5 (by omega)
 have b6:=h1 6 (by omega)
 have b7:=h1 7 (by omega)
 have b8:=h1 8 (by omega)
 simp only [two,one] at a0 b0 b1 b2 b3 b4 b5 b6 b7 b8
 by_cases h33:f 0=33
 ·rw [if_pos h33,if_neg (by omega)]
 ·rw [if_neg h33,if_neg (by omega),if_neg]
  simp [isOne];omega
end Lex
set_option maxHeartbeats 4000000 in
set_option maxRecDepth 100000 in
theorem ref_sign (w:World) (s:ByteArray) (hs:s.size ≤ maxLen) :
  Calls Tryz.prog 53 #[.string s] w fun e w'=>e=.returned (.int .i64 (Lex.sign (bn s) s.size:Nat)) ∧ Fr [] w w':=by
 unfold maxLen at hs
 obtain ⟨R,hR⟩:∃ R,Hid (Lex.sign (bn s) s.size=R):=⟨_,rfl⟩
 rw [hR.out]
 go_enter Tryz.func53,Tryz.ntmps53
 go_wp2_with fail
 refine wp_fresh (fun W=>W.heap[w.heap.size]?=some (.cells #[.string ⟨#[33,61]⟩,.string ⟨#[60,61]⟩,.string ⟨#[62,61]⟩] 9 (0,0)) ∧ Fr [] w W) ⟨heap_alloc_last _ _,(Fr.refl _ _).alloc _⟩ ?_
 rintro W0 ⟨hr0,hf0⟩
 have HR0:=Lib.hid hr0
 have HF0:=Lib.hid hf0
 clear hr0 hf0
 go_loopg [4] 3 (fun q t W=>∃ i:Nat,i ≤ 3 ∧ q=3 - i ∧ t=.int .i64 i ∧ Hid (∀ j,j < i → ¬ (2 ≤ s.size ∧ bn s 0=Lex.two j ∧ bn s 1=61)) ∧ Hid (W.heap[w.heap.size]?=some (.cells #[.string ⟨#[33,61]⟩,.string ⟨#[60,61]⟩,.string ⟨#[62,61]⟩] 9 (0,0))) ∧ Hid (Fr [] w W))
 case atStart=>exact ⟨0,by decide,rfl,rfl,Lib.hid (fun j h=>absurd h (by omega)),HR0,HF0⟩
 case round =>
  clear HR0 HF0
  obtain ⟨i,hi,hq,rfl,HM,HR0,HF⟩:=hrel
  have HQ:=Lib.hid hq
  clear hq
  by_cases hlt:i < 3
  ·have hc:∀ j,wr.cell? ⟨w.heap.size,j,none⟩=(#[.string ⟨#[33,61]⟩,.string ⟨#[60,61]⟩,.string ⟨#[62,61]⟩]:Array Value)[j]?:=fun j=>cell_of_row wr _ j _ _ (0,0) HR0.out
   by_cases h2:2 ≤ s.size
   ·have h2':(s.size:Int) ≥ 2:=by omega
    have h2'':(2:Int) ≤ (s.size:Int):=by omega
    obtain ⟨T,hT⟩:∃ T,s.extract 0 2=T:=⟨_,rfl⟩
    have hsg:T.toList=(ba [Lex.two i,61]).toList ↔ bn s 0=Lex.two i ∧ bn s 1=61:=by
     rw [← hT];exact sign_two s _ (by unfold Lex.two;split <;> decide) h2
    have HD:((T.toList == (ba [Lex.two i,61]).toList)=true ∧ bn s 0=Lex.two i ∧ bn s 1=61) ∨ ((T.toList == (ba [Lex.two i,61]).toList)=false ∧ ¬ (bn s 0=Lex.two i ∧ bn s 1=61)):=by
     by_cases h:T.toList=(ba [Lex.two i,61]).toList
     ·exact Or.inl ⟨beq_iff_eq.2 h,hsg.1 h⟩
     ·exact Or.inr ⟨beq_eq_false_iff_ne.2 h,fun h3=>h (hsg.2 h3)⟩
    clear hsg
    have hbl:(ba [Lex.two i,61]).toList=[UInt8.ofNat (Lex.two i),61]:=by rw [ByteArray.toList_eq];rfl
    rw [hbl] at HD
    clear hbl
    obtain ⟨I,hI⟩:∃ I,Hid (I=i):=⟨i,rfl⟩
    rcases HD with ⟨hb,ha1,ha2⟩ | ⟨hb,hb2⟩
    ·have HX:Hid (R=2):=by show _=_;rw [← hR.out];exact Lex.sign_2 hlt h2 ha1 ha2
     clear ha1 ha2 HM
     obtain rfl | rfl | rfl:i=0 ∨ i=1 ∨ i=2:=by omega
     all_goals
      have hc0:=hc 0
      have hc1:=hc 1
      have hc2:=hc 2
      have hbb:(T.toList == [33,61])=true ∨ True:=Or.inr trivial
      first | have hb':(T.toList == [33,61])=true:=hb | have hb':(T.toList == [60,61])=true:=hb | have hb':(T.toList == [62,61])=true:=hb
      clear hc hb hbb
      go_wp2_with fail
      go_quiet (fail)
      refine then_fresh (fun W=>Fr [] w W) (HF.out.drewN _) ?_
      intro W1 HF1
      go_wp2_with fail
      go_ret
      rw [HX.out]
      exact ⟨rfl,HF1⟩
    ·have HM2:Hid (∀ j,j < I+1 → ¬ (2 ≤ s.size ∧ bn s 0=Lex.two j ∧ bn s 1=61)):=fun j hj hx=>by
      rw [hI.out] at hj
      by_cases e:j=i
      ·subst e;exact hb2 hx.2
      ·exact HM.out j (by omega) hx
     clear HM hb2
     obtain rfl | rfl | rfl:i=0 ∨ i=1 ∨ i=2:=by omega
     all_goals
      have hc0:=hc 0
      have hc1:=hc 1
      have hc2:=hc 2
      first | have hb':(T.toList == [33,61])=false:=hb | have hb':(T.toList == [60,61])=false:=hb | have hb':(T.toList == [62,61])=false:=hb
      clear hc hb
      go_wp2_with fail
      go_quiet (fail)
      refine then_fresh (fun W=>W.heap[w.heap.size]?=some (.cells #[.string ⟨#[33,61]⟩,.string ⟨#[60,61]⟩,.string ⟨#[62,61]⟩] 9 (0,0)) ∧ Fr [] w W) ⟨by rw [heap_drewN];exact HR0.out,HF.out.drewN _⟩ ?_
      rintro W1 ⟨hr1,hf1⟩
      have HR1:=Lib.hid hr1
      have HF1:=Lib.hid hf1
      clear hr1 hf1 hc0 hc1 hc2
      go_wp2_with fail
      go_roundg (3 - (I+1))
      case measure=>have:=HQ.out;have:=hI.out;omega
      case rel=>exact ⟨I+1,by have:=hI.out;omega,rfl,by rw [hI.out];rfl,HM2,HR1,HF1⟩
   ·have h2':decide ((s.size:Int) ≥ 2)=false:=decide_eq_false (by omega)
    have h2'':decide (2 ≤ s.size)=false:=decide_eq_false (by omega)
    have HM2:Hid (∀ j,j < i+1 → ¬ (2 ≤ s.size ∧ bn s 0=Lex.two j ∧ bn s 1=61)):=fun j hj hx=>h2 hx.1
    have hlt':(i:Int) < 3:=by omega
    clear HM hc
    go_wp2_with fail
    go_quiet (fail)
    refine then_fresh (fun W=>W.heap[w.heap.size]?=some (.cells #[.string ⟨#[33,61]⟩,.string ⟨#[60,61]⟩,.string ⟨#[62,61]⟩] 9 (0,0)) ∧ Fr [] w W) ⟨by rw [heap_drewN];exact HR0.out,HF.out.drewN _⟩ ?_
    rintro W1 ⟨hr1,hf1⟩
    have HR1:=Lib.hid hr1
    have HF1:=Lib.hid hf1
    clear hr1 hf1
    go_wp2_with fail
    go_roundg (3 - (i+1))
    case measure=>have:=HQ.out;omega
    case rel=>exact ⟨i+1,by omega,rfl,by go_num,HM2,HR1,HF1⟩
  ·obtain rfl:i=3:=by omega
   have HF0:=HF
   clear HR0 HQ HF
   go_wp2_with fail
   go_loopg [6] 9 (fun q t W=>∃ j:Nat,j ≤ 9 ∧ q=9 - j ∧ t=.int .i64 j ∧ Hid (∀ m,m < j → ¬ (0 < s.size ∧ bn s 0=Lex.one m)) ∧ Hid (Fr [] w W))
   case atStart=>exact ⟨0,by decide,rfl,rfl,Lib.hid (fun j h=>absurd h (by omega)),HF0⟩
   case round =>
    clear HF0
    obtain ⟨j,hj,hq,rfl,HN,HF⟩:=hrel
    have HQ:=Lib.hid hq
    clear hq
    by_cases hl9:j < 9
    ·have hl9':(j:Int) < 9:=by omega
     by_cases h0:0 < s.size
     ·have h0':(s.size:Int) > 0:=by omega
      have hz:=bn_at s 0 h0
      obtain ⟨J,hJ⟩:∃ J,Hid (J=j):=⟨j,rfl⟩
      by_cases he:bn s 0=Lex.one j
      ·have HX:Hid (R=1):=by show _=_;rw [← hR.out];exact Lex.sign_1 hl9 h0 HM.out he
       clear HN HM
       rw [he] at hz
       clear he
       obtain rfl | rfl | rfl | rfl | rfl | rfl | rfl | rfl | rfl:j=0 ∨ j=1 ∨ j=2 ∨ j=3 ∨ j=4 ∨ j=5 ∨ j=6 ∨ j=7 ∨ j=8:=by omega
       all_goals
        simp only [Lex.one] at hz
        go_wp2_with fail
        go_quiet (fail)
        refine then_fresh (fun W=>Fr [] w W) (HF.out.drewN _) ?_
        intro W1 HF1
        go_wp2_with fail
        go_ret
        rw [HX.out]
        exact ⟨rfl,HF1⟩
      ·have HN2:Hid (∀ m,m < J+1 → ¬ (0 < s.size ∧ bn s 0=Lex.one m)):=fun m hm hx=>by
        rw [hJ.out] at hm
        by_cases e:m=j
        ·subst e;exact he hx.2
        ·exact HN.out m (by omega) hx
       have hne:(((bn s 0:Nat):Int) == ((Lex.one j:Nat):Int))=false:=beq_eq_false_iff_ne.2 (by omega)
       clear HN he
       have z0:((⟨#[40,41,91,93,44,59,61,60,62]⟩:ByteArray)[0]'(by decide)).toNat=40:=rfl
       have z1:((⟨#[40,41,91,93,44,59,61,60,62]⟩:ByteArray)[1]'(by decide)).toNat=41:=rfl
       have z2:((⟨#[40,41,91,93,44,59,61,60,62]⟩:ByteArray)[2]'(by decide)).toNat=91:=rfl
       have z3:((⟨#[40,41,91,93,44,59,61,60,62]⟩:ByteArray)[3]'(by decide)).toNat=93:=rfl
       have z4:((⟨#[40,41,91,93,44,59,61,60,62]⟩:ByteArray)[4]'(by decide)).toNat=44:=rfl
       have z5:((⟨#[40,41,91,93,44,59,61,60,62]⟩:ByteArray)[5]'(by decide)).toNat=59:=rfl
       have z6:((⟨#[40,41,91,93,44,59,61,60,62]⟩:ByteArray)[6]'(by decide)).toNat=61:=rfl
       have z7:((⟨#[40,41,91,93,44,59,61,60,62]⟩:ByteArray)[7]'(by decide)).toNat=60:=rfl
       have z8:((⟨#[40,41,91,93,44,59,61,60,62]⟩:ByteArray)[8]'(by decide)).toNat=62:=rfl
       obtain rfl | rfl | rfl | rfl | rfl | rfl | rfl | rfl | rfl:j=0 ∨ j=1 ∨ j=2 ∨ j=3 ∨ j=4 ∨ j=5 ∨ j=6 ∨ j=7 ∨ j=8:=by omega
       all_goals
        first | have hn2:(((bn s 0:Nat):Int) == 40)=false:=hne | have hn2:(((bn s 0:Nat):Int) == 41)=false:=hne | have hn2:(((bn s 0:Nat):Int) == 91)=false:=hne | have hn2:(((bn s 0:Nat):Int) == 93)=false:=hne | have hn2:(((bn s 0:Nat):Int) == 44)=false:=hne | have hn2:(((bn s 0:Nat):Int) == 59)=false:=hne | have hn2:(((bn s 0:Nat):Int) == 61)=false:=hne | have hn2:(((bn s 0:Nat):Int) == 60)=false:=hne | have hn2:(((bn s 0:Nat):Int) == 62)=false:=hne
        clear hne
        go_wp2_with fail
        go_quiet (fail)
        refine then_fresh (fun W=>Fr [] w W) (HF.out.drewN _) ?_
        intro W1 HF1
        go_wp2_with fail
        go_roundg (9 - (J+1))
        case measure=>have:=HQ.out;have:=hJ.out;omega
        case rel=>exact ⟨J+1,by have:=hJ.out;omega,rfl,by rw [hJ.out];rfl,HN2,HF1⟩
     ·have h0':decide ((s.size:Int) > 0)=false:=decide_eq_false (by omega)
      have h0'':decide (0 < s.size)=false:=decide_eq_false (by omega)
      have HN2:Hid (∀ m,m < j+1 → ¬ (0 < s.size ∧ bn s 0=Lex.one m)):=fun m hm hx=>h0 hx.1
      clear HN
      go_wp2_with fail
      go_quiet (fail)
      refine then_fresh (fun W=>Fr [] w W) (HF.out.drewN _) ?_
      intro W1 HF1
      go_wp2_with fail
      go_roundg (9 - (j+1))
      case measure=>have:=HQ.out;omega
      case rel=>exact ⟨j+1,by omega,rfl,by go_num,HN2,HF1⟩
    ·obtain rfl:j=9:=by omega
     have HX:Hid (R=0):=by show _=_;rw [← hR.out];exact Lex.sign_0 HM.out HN.out
     go_wp2_with fail
     go_ret
     rw [HX.out]
     exact ⟨rfl,HF.out⟩
end Go.Proofs.YtgklmpooonnmiaaGreatDoor

namespace Go.Proofs.YtgklmpooonnmiaaGreatDoor
open Go.RowKit
structure RT (w:World) (v:Value) (l:List Tk) (g:Nat) (cs:Array Value) (W:World):Prop where
 own:W.ownsRow w.heap.size 54 4 v l.length (toks l)
 f:Fr [] w W
 t:W.heap[g]?=some (.cells cs 54 (0,0))
 ge:w.heap.size ≤ g
 ne:v.ownBlock ≠ some g
theorem RT.fr {w W W':World} {v:Value} {l:List Tk} {g:Nat} {cs:Array Value} (h:RT w v l g cs W) (hF:Fr [] W W'):RT w v l g cs W' :=
 ⟨ownsRow_fr h.own hF,h.f.trans0 hF,hF.row h.t (by simp),h.ge,h.ne⟩
theorem RT.set_ {w W:World} {v:Value} {l:List Tk} {g:Nat} {cs:Array Value} (h:RT w v l g cs W) (i:Nat) (u:Value):RT w v l g (cs.setIfInBounds i u) (W.setCell ⟨g,i,none⟩ u):=by
 refine ⟨⟨h.own.1,?_⟩,h.f.setCell (.inr h.ge) _,heap_setCell_same _ _ _ _ _ _ h.t,h.ge,h.ne⟩
 rcases h.own.2 with h1 | ⟨g',cap,cur,hv,hg,hgg,r⟩
 ·exact Or.inl h1
 ·refine Or.inr ⟨g',cap,cur,hv,hg,?_,r⟩
  rw [Below.heap_setCell _ _ _ _ (fun hc=>?_)]
  ·exact hgg
  ·have h2:=h.ne
   rw [hv] at h2
   exact h2 (by simp [Value.ownBlock];exact hc)
theorem RT.new {w W:World} {v:Value} {l:List Tk} (ho:W.ownsRow w.heap.size 54 4 v l.length (toks l)) (hF:Fr [] w W) (cs:Array Value):RT w v l W.heap.size cs (W.alloc (.cells cs 54)):=by
 refine ⟨ownsRow_fr ho ((Fr.refl _ _).alloc _),hF.alloc _,heap_alloc_last _ _,hF.size,?_⟩
 rcases ho.2 with ⟨hv,_⟩ | ⟨g',cap,cur,hv,hg,hgg,r⟩
 ·rw [hv];simp [Value.ownBlock]
 ·rw [hv]
  have:=row_lt hgg
  simp [Value.ownBlock];omega
theorem ext_ext (s:ByteArray) (k j:Nat) (h:k+j ≤ s.size):(s.extract k s.size).extract 0 j=s.extract k (k+j):=by
 apply nats_inj.1
 rw [nats_ext,nats_ext,nats_ext,List.drop_zero,List.take_take]
 congr 1
 omega
theorem Dec.read_num (f:Nat → Nat) (n:Nat) (lo hi:Int):(Dec.read f n lo hi).2=.ok ∨ (Dec.read f n lo hi).2=.no 41 ∨ ∃ p,(Dec.read f n lo hi).2=.pl p 40:=by
 unfold Dec.read Dec.chk
 split
 ·exact Or.inr (Or.inr ⟨_,rfl⟩)
 ·split
  ·split
   ·exact Or.inr (Or.inl rfl)
   ·split
    ·exact Or.inr (Or.inl rfl)
    ·exact Or.inl rfl
  ·split
   ·exact Or.inr (Or.inl rfl)
   ·split
    ·exact Or.inr (Or.inl rfl)
    ·exact Or.inl rfl
theorem Lex.scan_round (s:ByteArray) (k:Nat) (l:List Tk) (R:Er × List Tk) (hk:k < s.size) (hb:¬ Lex.blank (bn s k)=true) (h35:¬ bn s k=35) (h:Lex.scanFrom s (Lex.skipTo (bn s) s.size k) l=R) :
  (∀ p n,Lex.token s k=.bad p n → R=(.pl p n,[])) ∧ (∀ t m,Lex.token s k=.ok t m → k < m ∧ m ≤ s.size ∧ (l.length=512 → R=(.pl k 53,[])) ∧ (¬ l.length=512 → Lex.scanFrom s (Lex.skipTo (bn s) s.size m) (l ++ [t])=R)):=by
 rw [Lex.skipTo_stop hb h35,Lex.scanFrom,if_pos hk] at h
 constructor
 ·intro p n ht
  rw [ht] at h
  exact h.symm
 ·intro t m ht
  have hbd:=Lex.token_bounds s k hk t m ht
  rw [ht] at h
  simp only [] at h
  refine ⟨hbd.1,hbd.2,fun h5=>?_,fun h5=>?_⟩
  ·rw [if_pos h5] at h;exact h.symm
  ·rw [if_neg h5,show max m (k+1)=m by omega] at h;exact h
end Go.Proofs.YtgklmpooonnmiaaGreatDoor
