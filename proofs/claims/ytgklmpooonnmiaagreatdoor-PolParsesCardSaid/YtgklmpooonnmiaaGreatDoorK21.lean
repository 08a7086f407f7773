/-
  Lemmas and contracts that the proofs over this seat use (LexScanP, RefUtf, RefNextP, RefNext); no statement of the seat is claimed in this text, and nothing is assumed in it.
-/
import Derived.Test.YtgklmpooonnmiaaGreatDoorK20
import Derived.Test.YtgklmpooonnmiaaGreatDoorK6
import Derived.Test.YtgklmpooonnmiaaGreatDoorK12
import Derived.Test.YtgklmpooonnmiaaGreatDoorK2
set_option linter.unusedVariables false
set_option linter.unusedSimpArgs false
namespace Go.Proofs.YtgklmpooonnmiaaGreatDoor
open Go.RowKit
namespace Lex
theorem skipTo_self (f:Nat → Nat) (n k:Nat):k ≤ skipTo f n k:=by
 rcases Nat.lt_or_ge n k with h | h
 ·rw [skipTo_end (by omega)];exact Nat.le_refl _
 ·exact (skipTo_ge f n k h).1
theorem text_bounds (s:ByteArray) (k:Nat) (out o:List Nat) (e:Nat) (h:text s k out=(some o,e)):k < e ∧ e ≤ s.size:=by
 fun_induction text s k out with
 | case1 k out h1 h2=>cases h
 | case2 k out h1 h2 h3=>cases h;omega
 | case3 k out h1 h2 h3 h4 h5 ih=>have:=ih h;omega
 | case4 k out h1 h2 h3 h4 h5=>cases h
 | case5 k out h1 h2 h3 h4 x hx=>cases h
 | case6 k out h1 h2 h3 h4 x m hx ih=>have:=ih h;omega
 | case7 k out h1=>cases h
theorem token_bounds (s:ByteArray) (k:Nat) (hk:k < s.size) (t:Tk) (m:Nat) (h:token s k=.ok t m):k < m ∧ m ≤ s.size:=by
 unfold token tokR at h
 have hT:(s.extract k s.size).size=s.size - k:=by simp
 generalize s.extract k s.size=T at *
 split at h
 ·rename_i hsm
  unfold tokSmall at h
  split at h
  ·cases h
  ·cases h
   have h1:=smalls_le (bn T) T.size 0 (by omega)
   have h2:=smalls_ge (bn T) T.size 1
   have e:=smalls_yes (f:=bn T) (n:=T.size) (k:=0) (by omega) hsm
   rw [Nat.zero_add] at e
   omega
 ·split at h
  ·skip
   generalize hx:text s (k+1) []=r at h
   obtain ⟨o,e⟩:=r
   cases o with
   | none=>cases h
   | some o =>
    cases h
    have:=text_bounds _ _ _ _ _ hx
    omega
  ·split at h
   ·unfold tokNum at h
    split at h
    ·cases h
    ·have h1:=Dec.lead_le (bn T) T.size
     generalize Dec.read _ _ _ _=rr at h
     obtain ⟨v,er⟩:=rr
     cases er <;> cases h
     omega
   ·unfold tokSign at h
    split at h
    ·cases h
    ·cases h
     have h1:=sign_le (bn T) T.size
     omega
def scanFrom (s:ByteArray) (k:Nat) (l:List Tk):Er × List Tk :=
 if k < s.size then
  match token s k with
  | .bad p n=>(.pl p n,[])
  | .ok t m=>if l.length=512 then (.pl k 53,[]) else scanFrom s (skipTo (bn s) s.size (max m (k+1))) (l ++ [t])
 else (.ok,l ++ [⟨5,⟨#[]⟩,0,s.size⟩])
termination_by s.size - k
decreasing_by
 have:=skipTo_self (bn s) s.size (max m (k+1))
 omega
def scan (s:ByteArray):Er × List Tk:=if 2048 < s.size then (.no 2,[]) else scanFrom s (skipTo (bn s) s.size 0) []
end Lex
def toks (l:List Tk):List Value:=l.flatMap Tk.c
theorem toks_snoc (l:List Tk) (t:Tk):toks (l ++ [t])=toks l ++ t.c:=by simp [toks]
theorem infoTok:(Tryz.prog.info? 54).map (fun i=>(i.zero,i.size,i.bytes))=some (some (.agg #[.int .i64 0,.string ⟨#[]⟩,.int .i64 0,.int .i64 0]),4,40):=by kernel_rfl
structure SS (w:World) (b:Nat) (s:ByteArray) (k:Nat) (lv:Value) (l:List Tk) (W:World):Prop where
 sc:Sc W b s k lv
 f:Fr [] w W
 own:W.ownsRow w.heap.size 54 4 lv l.length (toks l)
 ge:w.heap.size ≤ b
theorem own_ne_sc {w W:World} {b:Nat} {s:ByteArray} {k:Nat} {lv:Value} {l:List Tk} (h:SS w b s k lv l W):lv.ownBlock ≠ some b:=by
 rcases h.own.2 with ⟨hv,_⟩ | ⟨g,cap,cur,rfl,_,hg,_⟩
 ·rw [hv];simp [Value.ownBlock]
 ·intro e
  simp only [Value.ownBlock,Option.some.injEq] at e
  subst e
  have h1:=h.sc
  unfold Sc at h1
  rw [hg] at h1
  simp at h1
theorem SS.step {w W W':World} {b:Nat} {s:ByteArray} {k m:Nat} {lv:Value} {l:List Tk} (h:SS w b s k lv l W) (hF:Fr [b] W W') (hs:Sc W' b s m lv):SS w b s m lv l W':=by
 refine ⟨hs,h.f.trans1 hF (.inr h.ge),⟨h.own.1,?_⟩,h.ge⟩
 rcases h.own.2 with h1 | ⟨g,cap,cur,hv,hg,hgg,r⟩
 ·exact Or.inl h1
 ·refine Or.inr ⟨g,cap,cur,hv,hg,?_,r⟩
  refine (hF.block g (row_lt hgg) (fun hc=>?_)).trans hgg
  have:=own_ne_sc h
  rw [hv] at this
  simp [Value.ownBlock] at this hc
  exact this hc
theorem SS.fr {w W W':World} {b:Nat} {s:ByteArray} {k:Nat} {lv:Value} {l:List Tk} (h:SS w b s k lv l W) (hF:Fr [] W W'):SS w b s k lv l W' :=
 ⟨h.sc.fr hF,h.f.trans0 hF,ownsRow_fr h.own hF,h.ge⟩
theorem Fr.grown2 {w0 w w':World} {row:Option Nat} (h:Fr [] w0 w) (hg:w.grownBy w' row) (hr:∀ k,row=some k → w0.heap.size ≤ k):Fr [] w0 w' :=
 ⟨hg.os.trans h.os,hg.tape.trans h.tape,hg.output.trans h.output,Nat.le_trans h.size hg.size,fun k hk hn=>(hg.block k (Nat.lt_of_lt_of_le hk h.size) (fun hc=>by have:=hr k hc.symm;omega)).trans (h.block k hk hn)⟩
theorem Sc.putl {w:World} {b:Nat} {s:ByteArray} {k:Nat} {lv:Value} (h:Sc w b s k lv) (u:Value):Sc (w.setCell ⟨b,2,none⟩ u) b s k u:=by
 unfold Sc at *
 have:=heap_setCell_same w b 2 _ _ u h
 simpa using this
theorem oc_tok (t:Tk):∀ u ∈ t.c,u.oneCell'=true:=by
 intro u hu
 simp only [Tk.c,List.mem_cons,List.not_mem_nil,or_false] at hu
 rcases hu with rfl | rfl | rfl | rfl <;> rfl
theorem appTok {ops:Array Oper} {rest:List Oper} {o:Oper} {a:Act} {w:World} {Q:Exit → Act → World → Prop} (hgd:o.guard=none) (s x:Operand)
  (ho:o.op=.call { callee:=.builtin .append,args:=#[s,x],argTypes:=#[43,43] })
  (B:Nat) (v:Value) (l:List Tk) (t:Tk) (cs:Array Value) (hc:cs=t.c.toArray) (hs:a.eval s=v) (hx:a.eval x=.slice (some ⟨w.heap.size,0,none⟩) 1 1)
  (hown:w.ownsRow B 54 4 v l.length (toks l)) (hB:B ≤ w.heap.size) (hn:l.length < 1000000)
  (h:∀ g c w',w'.ownsRow B 54 4 (.slice (some ⟨g,0,none⟩) (l.length+1) c) (l ++ [t]).length (toks (l ++ [t])) → w.grownBy w' v.ownBlock → wpList Tryz.prog ops Q rest (a.put o.dst (.slice (some ⟨g,0,none⟩) (l.length+1) c)) w'):wpList Tryz.prog ops Q (o :: rest) a (w.alloc (.cells cs 54)):=by
 subst hc
 obtain ⟨i,hi,hz0,hz1,hz2⟩:=info_parts infoTok
 refine wpList_append_lies (w.alloc _) hgd s x _ ho B 54 i _ 4 40 Tryz.underlying43 hi hz0 hz1 hz2 rfl (by decide) v l.length (toks l) hs (hown.alloc _) _ 1 1 t.c hx rfl (World.news_of_block (heap_alloc_last w _)) (oc_tok t) (by decide) (by unfold maxLen;omega) (by omega) (Nat.le_trans hB (by simp)) _ rfl ?_
 intro g cap w' h1 h2 _ _
 refine h g cap w' ?_ ((World.grownBy_alloc w _ _).trans_ h2)
 rw [toks_snoc,List.length_append];exact h1
theorem SS.grow {w V w9:World} {b:Nat} {s:ByteArray} {m:Nat} {lv:Value} {l:List Tk} {t:Tk} {g9 c9:Nat} (h:SS w b s m lv l V) (ho:w9.ownsRow w.heap.size 54 4 (.slice (some ⟨g9,0,none⟩) (l.length+1) c9) (l ++ [t]).length (toks (l ++ [t]))) (hg:V.grownBy w9 lv.ownBlock) :
  SS w b s m (.slice (some ⟨g9,0,none⟩) (l.length+1) c9) (l ++ [t]) (w9.setCell ⟨b,2,none⟩ (.slice (some ⟨g9,0,none⟩) (l.length+1) c9)):=by
 have hsc:Sc w9 b s m lv:=(hg.block b h.sc.lt (own_ne_sc h).symm).trans h.sc
 refine ⟨hsc.putl _,(h.f.grown2 hg (own_base_ge h.own)).setCell (.inr h.ge) _,⟨ho.1,?_⟩,h.ge⟩
 rcases ho.2 with ⟨h1,_⟩ | ⟨g,cap,cur,hv,hb,hgg,r⟩
 ·cases h1
 ·refine Or.inr ⟨g,cap,cur,hv,hb,?_,r⟩
  rw [Below.heap_setCell _ _ _ _ (fun hc=>?_)]
  ·exact hgg
  ·have h2:Sc w9 b s m lv:=hsc
   unfold Sc at h2
   rw [show b=g from hc.symm,hgg] at h2
   simp at h2
theorem stepTok {ops:Array Oper} {o:Oper} {a:Act} {W w:World} {K:Act → World → Prop} {Q:Exit → Act → World → Prop} {E:Prop} (hgd:o.guard=none) (s x:Operand)
  (ho:o.op=.call { callee:=.builtin .append,args:=#[s,x],argTypes:=#[43,43] })
  (B:Nat) (v:Value) (l:List Tk) (t:Tk) (hW:W=(w.alloc (.cells t.c.toArray 54)).drew) (hs:a.eval s=v) (hx:a.eval x=.slice (some ⟨w.heap.size,0,none⟩) 1 1)
  (hown:w.ownsRow B 54 4 v l.length (toks l)) (hB:B ≤ w.heap.size) (hn:l.length < 1000000)
  (h:∀ g c w',w'.ownsRow B 54 4 (.slice (some ⟨g,0,none⟩) (l.length+1) c) (l ++ [t]).length (toks (l ++ [t])) → w.grownBy w' v.ownBlock → K (a.put o.dst (.slice (some ⟨g,0,none⟩) (l.length+1) c)) w') :
  if Region.wanted o (yielded ops a.tmps)=true then Oper.wp Tryz.prog o a W K Q else E:=by
 subst hW
 obtain ⟨i,hi,hz0,hz1,hz2⟩:=info_parts infoTok
 have hown2:(w.alloc (.cells t.c.toArray 54)).drew.ownsRow B 54 4 v l.length (toks l):=ownsRow_fr hown ((Fr.refl _ _).alloc _).drew
 refine step_append_lies (w.alloc _).drew hgd s x _ ho B 54 i _ 4 40 Tryz.underlying43 hi hz0 hz1 hz2 rfl (by decide) v l.length (toks l) hs hown2 _ 1 1 t.c hx rfl (World.news_of_block (heap_alloc_last w _)) (oc_tok t) (by decide) (by unfold maxLen;omega) (by omega) (Nat.le_trans hB (by simp [World.drew])) _ rfl ?_
 intro g cap w' h1 h2 _ _
 have hg:=World.grownBy_alloc w (.cells t.c.toArray 54) v.ownBlock
 have hg2:w.grownBy (w.alloc (.cells t.c.toArray 54)).drew v.ownBlock:=⟨hg.os,hg.tape,hg.output,hg.size,hg.block⟩
 refine h g cap w' ?_ (hg2.trans_ h2)
 rw [toks_snoc,List.length_append];exact h1
end Go.Proofs.YtgklmpooonnmiaaGreatDoor

namespace Go.Proofs.YtgklmpooonnmiaaGreatDoor
open Go.RowKit
namespace Utf
def put (n:Nat):List Nat :=
 if right n=true then
  (if n < 128 then [n] else if n < 2048 then [192 + n / 64, 128 + n % 64]
   else if n < 65536 then [224+n / 4096,128+n / 64 % 64,128+n % 64]
   else [240+n / 262144,128+n / 4096 % 64,128+n / 64 % 64,128+n % 64])
 else []
end Utf
theorem str_new (w:World) (cs:Array Value) (D:List Nat) (hc:cs=(u8s D).toArray) (n:Nat) (hn:D.length=n) (hl:n ≤ maxLen) :
  (convert 72 9 (.slice (some ⟨w.heap.size,0,none⟩) n n)).run Tryz.prog (w.alloc (.cells cs 5))=.ok (.string (ba D)) (w.alloc (.cells cs 5)):=by
 subst hc
 refine owns_str (b:=0) (n:=n) ⟨by rw [u8s_length,hn,Nat.mul_one],Or.inr ⟨_,n,_,rfl,Nat.zero_le _,heap_alloc_last _ _,Nat.le_refl _,hl,by simp only [List.size_toArray,u8s_length,hn,Nat.mul_one],?_⟩⟩
 rw [Nat.mul_one,List.take_of_length_le (by simp [hn])]
set_option maxHeartbeats 4000000 in
set_option maxRecDepth 100000 in
theorem ref_put (n:Nat) (hn:n ≤ 2097151) (w:World) :
  Calls Tryz.prog 95 #[.int .i64 n] w fun e w'=>e=.returned (.string (ba (Utf.put n))) ∧ Fr [] w w':=by
 have h0:¬ (n:Int) < 0:=by omega
 have h0':decide ((n:Int) < 0)=false:=decide_eq_false h0
 by_cases hr:Utf.right n=true
 ·have hr2:n ≤ 1114111 ∧ (n < 55296 ∨ 57343 < n):=by simpa [Utf.right] using hr
  have hg:¬ (n:Int) > 1114111:=by omega
  have hd:(¬ (n:Int) ≥ 55296) ∨ ((n:Int) ≥ 55296 ∧ ¬ (n:Int) ≤ 57343):=by omega
  have HR:=Lib.hid hr
  clear hr hr2
  by_cases h1:n < 128
  ·have hP:Hid (Utf.put n=[n]):=by show _=_;rw [Utf.put,if_pos HR.out,if_pos h1]
   have h1':(n:Int) < 128:=by omega
   have hd2:¬ (n:Int) ≥ 55296:=by omega
   have cv:=str_new w #[.int .u8 (n:Int)] [n] rfl 1 rfl (by decide)
   have hw:IntKind.u8.wrap (n:Int)=n:=by rw [wrap8];omega
   clear hd
   go_enter Tryz.func95,Tryz.ntmps95
   go_wp2
   go_ret
   rw [hP.out]
   exact ⟨rfl,(Fr.refl _ _).alloc _⟩
  have h1':¬ (n:Int) < 128:=by omega
  by_cases h2:n < 2048
  ·have hP:Hid (Utf.put n=[192+n / 64,128+n % 64]):=by show _=_;rw [Utf.put,if_pos HR.out,if_neg h1,if_pos h2]
   have h2':(n:Int) < 2048:=by omega
   have hd2:¬ (n:Int) ≥ 55296:=by omega
   have cv:=str_new w #[.int .u8 (192+(n:Int) / 64),.int .u8 (128+(n:Int) % 64)] [192+n / 64,128+n % 64] (by simp [u8s]) 2 rfl (by decide)
   clear hd
   go_enter Tryz.func95,Tryz.ntmps95
   go_wp2
   go_ret
   rw [hP.out]
   exact ⟨rfl,(Fr.refl _ _).alloc _⟩
  have h2':¬ (n:Int) < 2048:=by omega
  by_cases h3:n < 65536
  ·have hP:Hid (Utf.put n=[224+n / 4096,128+n / 64 % 64,128+n % 64]):=by show _=_;rw [Utf.put,if_pos HR.out,if_neg h1,if_neg h2,if_pos h3]
   have h3':(n:Int) < 65536:=by omega
   have cv:=str_new w #[.int .u8 (224+(n:Int) / 4096),.int .u8 (128+(n:Int) / 64 % 64),.int .u8 (128+(n:Int) % 64)] [224+n / 4096,128+n / 64 % 64,128+n % 64] (by simp [u8s]) 3 rfl (by decide)
   rcases hd with hd2 | ⟨hd2,hd3⟩
   all_goals
    go_enter Tryz.func95,Tryz.ntmps95
    go_wp2
    go_ret
    rw [hP.out]
    exact ⟨rfl,(Fr.refl _ _).alloc _⟩
  ·have hP:Hid (Utf.put n=[240+n / 262144,128+n / 4096 % 64,128+n / 64 % 64,128+n % 64]):=by show _=_;rw [Utf.put,if_pos HR.out,if_neg h1,if_neg h2,if_neg h3]
   have h3':¬ (n:Int) < 65536:=by omega
   have hd2:(n:Int) ≥ 55296:=by omega
   have hd3:¬ (n:Int) ≤ 57343:=by omega
   have cv:=str_new w #[.int .u8 (240+(n:Int) / 262144),.int .u8 (128+(n:Int) / 4096 % 64),.int .u8 (128+(n:Int) / 64 % 64),.int .u8 (128+(n:Int) % 64)] [240+n / 262144,128+n / 4096 % 64,128+n / 64 % 64,128+n % 64] (by simp [u8s]) 4 rfl (by decide)
   clear hd
   go_enter Tryz.func95,Tryz.ntmps95
   go_wp2
   go_ret
   rw [hP.out]
   exact ⟨rfl,(Fr.refl _ _).alloc _⟩
 ·have hP:Hid (Utf.put n=[]):=by show _=_;rw [Utf.put,if_neg hr]
  by_cases hg:(n:Int) > 1114111
  ·go_enter Tryz.func95,Tryz.ntmps95
   go_wp2
   go_ret
   rw [hP.out]
   exact ⟨rfl,Fr.refl _ _⟩
  ·have hd2:(n:Int) ≥ 55296 ∧ (n:Int) ≤ 57343:=by
    have:¬ (n ≤ 1114111 ∧ (n < 55296 ∨ 57343 < n)):=by simpa [Utf.right] using hr
    omega
   obtain ⟨hd3,hd4⟩:=hd2
   go_enter Tryz.func95,Tryz.ntmps95
   go_wp2
   go_ret
   rw [hP.out]
   exact ⟨rfl,Fr.refl _ _⟩
end Go.Proofs.YtgklmpooonnmiaaGreatDoor

namespace Go.Proofs.YtgklmpooonnmiaaGreatDoor
open Go.RowKit
namespace Utf
def mod0 (k c:Nat):Nat:=if k=2 then c % 32 else if k=3 then c % 16 else if k=4 then c % 8 else c
def acc (f:Nat → Nat) (k:Nat):Nat → Nat
 | 0=>mod0 k (f 0)
 | i+1=>acc f k i * 64+f (i+1) % 64
def val (f:Nat → Nat) (k:Nat):Nat:=acc f k (k - 1)
def hit (f:Nat → Nat) (k:Nat):Prop:=put (val f k)=(List.range k).map f
instance (f:Nat → Nat) (k:Nat):Decidable (hit f k):=by unfold hit;infer_instance
theorem right_iff (n:Nat):right n=true ↔ n ≤ 1114111 ∧ (n < 55296 ∨ 57343 < n):=by simp [right]
theorem hit1 (f:Nat → Nat) (hf:∀ i,f i < 256):hit f 1 ↔ f 0 < 128:=by
 have h0:=hf 0
 have e:val f 1=f 0:=by simp [val,acc,mod0]
 unfold hit
 rw [e,show (List.range 1).map f=[f 0] by simp [List.range_succ]]
 have hr:right (f 0)=true:=by rw [right_iff];omega
 unfold put
 rw [if_pos hr]
 by_cases h:f 0 < 128
 ·rw [if_pos h];simp [h]
 ·rw [if_neg h,if_pos (by omega)];simp [h]
theorem hit2 (f:Nat → Nat) (hf:∀ i,f i < 256):hit f 2 ↔ (192 ≤ f 0 ∧ f 0 < 224) ∧ f 1 / 64=2 ∧ 128 ≤ val f 2:=by
 have h0:=hf 0
 have h1:=hf 1
 have e:val f 2=f 0 % 32 * 64+f 1 % 64:=by simp [val,acc,mod0]
 unfold hit
 rw [e,show (List.range 2).map f=[f 0,f 1] by simp [List.range_succ]]
 have hr:right (f 0 % 32 * 64+f 1 % 64)=true:=by rw [right_iff];omega
 unfold put
 rw [if_pos hr]
 by_cases h:f 0 % 32 * 64+f 1 % 64 < 128
 ·rw [if_pos h];simp;omega
 ·rw [if_neg h,if_pos (by omega)]
  simp only [List.cons.injEq,and_true]
  omega
theorem hit3 (f:Nat → Nat) (hf:∀ i,f i < 256):hit f 3 ↔ (224 ≤ f 0 ∧ f 0 < 240) ∧ (f 1 / 64=2 ∧ f 2 / 64=2) ∧ 2048 ≤ val f 3 ∧ right (val f 3)=true:=by
 have h0:=hf 0
 have h1:=hf 1
 have h2:=hf 2
 have e:val f 3=(f 0 % 16 * 64+f 1 % 64) * 64+f 2 % 64:=by simp [val,acc,mod0]
 unfold hit
 rw [show (List.range 3).map f=[f 0,f 1,f 2] by simp [List.range_succ]]
 obtain ⟨v,hv⟩:∃ v,v=val f 3:=⟨_,rfl⟩
 rw [← hv] at e ⊢
 unfold put
 by_cases hr:right v=true
 ·rw [if_pos hr]
  by_cases h:v < 128
  ·rw [if_pos h];simp;omega
  ·rw [if_neg h]
   by_cases h':v < 2048
   ·rw [if_pos h'];simp;omega
   ·rw [if_neg h',if_pos (by omega)]
    simp only [List.cons.injEq,and_true,hr]
    omega
 ·rw [if_neg hr];simp [hr]
theorem hit4 (f:Nat → Nat) (hf:∀ i,f i < 256):hit f 4 ↔ (240 ≤ f 0 ∧ f 0 < 248) ∧ ((f 1 / 64=2 ∧ f 2 / 64=2) ∧ f 3 / 64=2) ∧ 65536 ≤ val f 4 ∧ right (val f 4)=true:=by
 have h0:=hf 0
 have h1:=hf 1
 have h2:=hf 2
 have h3:=hf 3
 have e:val f 4=((f 0 % 8 * 64+f 1 % 64) * 64+f 2 % 64) * 64+f 3 % 64:=by simp [val,acc,mod0]
 unfold hit
 rw [show (List.range 4).map f=[f 0,f 1,f 2,f 3] by simp [List.range_succ]]
 obtain ⟨v,hv⟩:∃ v,v=val f 4:=⟨_,rfl⟩
 rw [← hv] at e ⊢
 unfold put
 by_cases hr:right v=true
 ·rw [if_pos hr]
  by_cases h:v < 128
  ·rw [if_pos h];simp;omega
  ·rw [if_neg h]
   by_cases h':v < 2048
   ·rw [if_pos h'];simp;omega
   ·rw [if_neg h']
    by_cases h'':v < 65536
    ·rw [if_pos h''];simp;omega
    ·rw [if_neg h'']
     simp only [List.cons.injEq,and_true,hr]
     omega
 ·rw [if_neg hr];simp [hr]
theorem next_hit (f:Nat → Nat) (hf:∀ i,f i < 256) (len k:Nat) (h1:1 ≤ k) (h4:k ≤ 4) (hl:k ≤ len) (h:hit f k):next f len=(some (val f k),k):=by
 unfold next
 rw [if_neg (by omega)]
 obtain rfl | rfl | rfl | rfl:k=1 ∨ k=2 ∨ k=3 ∨ k=4:=by omega
 ·rw [hit1 f hf] at h
  rw [if_pos h];simp [val,acc,mod0]
 ·rw [hit2 f hf] at h
  obtain ⟨⟨a,b⟩,c,d⟩:=h
  have hw:wide (f 0)=2:=by unfold wide;rw [if_neg (by omega),if_neg (by omega),if_pos (by omega)]
  have hv:val f 2=pre f 1:=by simp [val,acc,mod0,pre,first,b]
  rw [if_neg (by omega),hw,if_neg (by omega),hv,if_pos]
  refine ⟨by simp [cont,c],by rw [← hv];exact d,?_⟩
  rw [← hv,right_iff]
  have:val f 2=f 0 % 32 * 64+f 1 % 64:=by simp [val,acc,mod0]
  omega
 ·rw [hit3 f hf] at h
  obtain ⟨⟨a,b⟩,⟨c,c2⟩,d,g⟩:=h
  have hw:wide (f 0)=3:=by unfold wide;rw [if_neg (by omega),if_neg (by omega),if_neg (by omega),if_pos (by omega)]
  have hv:val f 3=pre f 2:=by simp [val,acc,mod0,pre,first,b,show ¬ f 0 < 224 by omega]
  rw [if_neg (by omega),hw,if_neg (by omega),hv,if_pos]
  exact ⟨by simp [cont,c,c2],by rw [← hv];exact d,by rw [← hv];exact g⟩
 ·rw [hit4 f hf] at h
  obtain ⟨⟨a,b⟩,⟨⟨c,c2⟩,c3⟩,d,g⟩:=h
  have hw:wide (f 0)=4:=by unfold wide;rw [if_neg (by omega),if_neg (by omega),if_neg (by omega),if_neg (by omega),if_pos (by omega)]
  have hv:val f 4=pre f 3:=by simp [val,acc,mod0,pre,first,show ¬ f 0 < 224 by omega,show ¬ f 0 < 240 by omega]
  rw [if_neg (by omega),hw,if_neg (by omega),hv,if_pos]
  exact ⟨by simp [cont,c,c2,c3],by rw [← hv];exact d,by rw [← hv];exact g⟩
theorem next_miss (f:Nat → Nat) (hf:∀ i,f i < 256) (len:Nat) (hl:0 < len) (h:∀ k,1 ≤ k → k ≤ 4 → k ≤ len → ¬ hit f k):next f len=(none,1):=by
 unfold next
 rw [if_neg (by omega)]
 have n1:=h 1 (by omega) (by omega) (by omega)
 rw [hit1 f hf] at n1
 rw [if_neg n1]
 by_cases hb:wide (f 0)=0 ∨ len < wide (f 0)
 ·rw [if_pos hb]
 ·rw [if_neg hb,if_neg]
  rintro ⟨c,d,g⟩
  have hw:wide (f 0)=2 ∧ (192 ≤ f 0 ∧ f 0 < 224) ∨ wide (f 0)=3 ∧ (224 ≤ f 0 ∧ f 0 < 240) ∨ wide (f 0)=4 ∧ (240 ≤ f 0 ∧ f 0 < 248):=by
   have:wide (f 0) ≠ 0:=fun e=>hb (Or.inl e)
   unfold wide at this ⊢
   rw [if_neg n1] at this ⊢
   split at this
   ·omega
   ·split at this
    ·left;rw [if_neg (by omega),if_pos (by omega)];omega
    ·split at this
     ·right;left;rw [if_neg (by omega),if_neg (by omega),if_pos (by omega)];omega
     ·split at this
      ·right;right;rw [if_neg (by omega),if_neg (by omega),if_neg (by omega),if_pos (by omega)];omega
      ·omega
  rcases hw with ⟨e,h2,h3⟩ | ⟨e,h2,h3⟩ | ⟨e,h2,h3⟩ <;> rw [e] at c d g hb
  ·refine h 2 (by omega) (by omega) (by omega) ((hit2 f hf).2 ⟨⟨h2,h3⟩,?_,?_⟩)
   ·simpa [cont] using c
   ·have hv:val f 2=pre f 1:=by simp [val,acc,mod0,pre,first,h3]
    rw [hv];exact d
  ·have hv:val f 3=pre f 2:=by simp [val,acc,mod0,pre,first,h3,show ¬ f 0 < 224 by omega]
   refine h 3 (by omega) (by omega) (by omega) ((hit3 f hf).2 ⟨⟨h2,h3⟩,?_,by rw [hv];exact d,by rw [hv];exact g⟩)
   simpa [cont] using c
  ·have hv:val f 4=pre f 3:=by simp [val,acc,mod0,pre,first,show ¬ f 0 < 224 by omega,show ¬ f 0 < 240 by omega]
   refine h 4 (by omega) (by omega) (by omega) ((hit4 f hf).2 ⟨⟨h2,h3⟩,?_,by rw [hv];exact d,by rw [hv];exact g⟩)
   simpa [cont] using c
end Utf
end Go.Proofs.YtgklmpooonnmiaaGreatDoor

namespace Go.Proofs.YtgklmpooonnmiaaGreatDoor
open Go.RowKit
theorem ba_take (s:ByteArray) (k:Nat) (h:k ≤ s.size):s.extract 0 k=ba ((List.range k).map (bn s)):=by
 apply nats_inj.1
 rw [nats_ba _ (by intro x hx;simp only [List.mem_map] at hx;obtain ⟨i,_,rfl⟩:=hx;exact bn_lt s i)]
 apply List.ext_getElem?
 intro i
 by_cases hi:i < k
 ·have h2:i < (nats s).length:=by rw [nats_length];omega
  have e1:(nats (s.extract 0 k))[i]?=(nats s)[i]?:=by
   simp only [nats,List.getElem?_map]
   simp [hi]
  rw [e1,List.getElem?_map,List.getElem?_range hi]
  simp only [Option.map_some,bn,List.getD_eq_getElem?_getD]
  rw [List.getElem?_eq_getElem h2];rfl
 ·rw [List.getElem?_eq_none (by rw [nats_length];simp;omega),List.getElem?_eq_none (by simp;omega)]
theorem put_lt (n:Nat):∀ x ∈ Utf.put n,x < 256:=by
 unfold Utf.put
 intro x hx
 split at hx
 ·rename_i hr
  rw [Utf.right_iff] at hr
  split at hx
  ·simp at hx;omega
  ·split at hx
   ·simp at hx;omega
   ·split at hx
    ·simp at hx;omega
    ·simp at hx;omega
 ·cases hx
theorem ba_inj {a b:List Nat} (ha:∀ x ∈ a,x < 256) (hb:∀ x ∈ b,x < 256):ba a=ba b ↔ a=b :=
 ⟨fun h=>by rw [← nats_ba a ha,← nats_ba b hb,h],fun h=>by rw [h]⟩
theorem toList_inj {a b:ByteArray}:a.toList=b.toList ↔ a=b:=by
 constructor
 ·intro h
  rw [ByteArray.toList_eq,ByteArray.toList_eq] at h
  exact ByteArray.ext (Array.toList_inj.mp h)
 ·rintro rfl;rfl
theorem hit_str (s:ByteArray) (k:Nat) (h:k ≤ s.size):(ba (Utf.put (Utf.val (bn s) k))).toList=(s.extract 0 k).toList ↔ Utf.hit (bn s) k:=by
 rw [toList_inj,ba_take s k h,ba_inj (put_lt _) (by intro x hx;simp only [List.mem_map] at hx;obtain ⟨i,_,rfl⟩:=hx;exact bn_lt s i)]
 rfl
theorem val_le (f:Nat → Nat) (hf:∀ i,f i < 256) (k:Nat) (h1:1 ≤ k) (h4:k ≤ 4):Utf.val f k ≤ 2097151:=by
 have h0:=hf 0
 obtain rfl | rfl | rfl | rfl:k=1 ∨ k=2 ∨ k=3 ∨ k=4:=by omega
 all_goals
  simp [Utf.val,Utf.acc,Utf.mod0]
  omega
theorem val1 (f:Nat → Nat):((f 0:Nat):Int)=(Utf.val f 1:Nat):=by simp [Utf.val,Utf.acc,Utf.mod0]
theorem val2 (f:Nat → Nat):((f 0:Nat):Int) % 32 * 64+(f 1:Nat) % 64=(Utf.val f 2:Nat):=by simp [Utf.val,Utf.acc,Utf.mod0]
theorem val3 (f:Nat → Nat):(((f 0:Nat):Int) % 16 * 64+(f 1:Nat) % 64) * 64+(f 2:Nat) % 64=(Utf.val f 3:Nat):=by simp [Utf.val,Utf.acc,Utf.mod0]
theorem val4 (f:Nat → Nat):((((f 0:Nat):Int) % 8 * 64+(f 1:Nat) % 64) * 64+(f 2:Nat) % 64) * 64+(f 3:Nat) % 64=(Utf.val f 4:Nat):=by simp [Utf.val,Utf.acc,Utf.mod0]
set_option maxHeartbeats 4000000 in
set_option maxRecDepth 100000 in
theorem ref_next (w:World) (s:ByteArray) (hs:s.size ≤ maxLen) :
  Calls Tryz.prog 80 #[.string s] w fun e w'=>e=.returned (.tuple #[.int .i64 (letZ (Utf.next (bn s) s.size).1),.int .i64 ((Utf.next (bn s) s.size).2:Nat)]) ∧ Fr [] w w':=by
 unfold maxLen at hs
 have hlt:=bn_lt s
 obtain ⟨R,hR⟩:∃ R,Hid (Utf.next (bn s) s.size=R):=⟨_,rfl⟩
 rw [hR.out]
 by_cases h0:s.size=0
 ·have hX:R=(none,0):=by rw [← hR.out,Utf.next,if_pos h0]
  subst hX
  have h0':((s.size:Int) == 0)=true:=beq_iff_eq.2 (by omega)
  go_enter Tryz.func80,Tryz.ntmps80
  go_wp2
  go_ret2
  exact ⟨rfl,Fr.refl _ _⟩
 have h0':((s.size:Int) == 0)=false:=beq_eq_false_iff_ne.2 (by omega)
 have HLT:=Lib.hid hlt
 clear hlt
 go_enter Tryz.func80,Tryz.ntmps80
 go_wp2_with fail
 go_loopg [4] 5 (fun q t W=>∃ k:Nat,1 ≤ k ∧ k ≤ 5 ∧ q=6 - k ∧ t=.int .i64 k ∧ Hid (∀ j,1 ≤ j → j < k → j ≤ s.size → ¬ Utf.hit (bn s) j) ∧ Hid (Fr [] w W))
 case atStart=>exact ⟨1,Nat.le_refl _,by decide,rfl,rfl,Lib.hid (fun j h1 h2=>absurd h2 (by omega)),Fr.refl _ _⟩
 case round =>
  obtain ⟨k,hk1,hk5,hq,rfl,HM,HF⟩:=hrel
  have HQ:=Lib.hid hq
  clear hq
  by_cases hend:k ≤ 4 ∧ k ≤ s.size
  ·obtain ⟨hk4,hks⟩:=hend
   have g1:(k:Int) ≤ 4:=by omega
   have g2:(k:Int) ≤ (s.size:Int):=by omega
   have hz:=bn_at s 0 (by omega)
   have l0:=HLT.out 0
   have hn0:0 < s.size:=by omega
   have HPUT:Hid (∀ (x:Int),x=(Utf.val (bn s) k:Nat) → ∀ W,Calls Tryz.prog 95 #[.int .i64 x] W fun e w'=>e=.returned (.string (ba (Utf.put (Utf.val (bn s) k)))) ∧ Fr [] W w'):=fun x hx W=>by
    subst hx
    refine ref_put _ ?_ W
    exact val_le _ (bn_lt s) k hk1 hk4
   obtain ⟨P,hP⟩:∃ P,ba (Utf.put (Utf.val (bn s) k))=P:=⟨_,rfl⟩
   obtain ⟨T,hT⟩:∃ T,s.extract 0 k=T:=⟨_,rfl⟩
   have hit_iff:=hit_str s k hks
   rw [hP,hT] at hit_iff
   rw [hP] at HPUT
   have HDEC:(Utf.hit (bn s) k ∧ (P.toList == T.toList)=true) ∨ (¬ Utf.hit (bn s) k ∧ (P.toList == T.toList)=false):=by
    by_cases h:P.toList=T.toList
    ·exact Or.inl ⟨hit_iff.1 h,beq_iff_eq.2 h⟩
    ·exact Or.inr ⟨fun h2=>h (hit_iff.2 h2),beq_eq_false_iff_ne.2 h⟩
   clear hit_iff
   have HHIT:Hid (Utf.hit (bn s) k → R=(some (Utf.val (bn s) k),k)):=fun h=>by rw [← hR.out];exact Utf.next_hit _ (bn_lt s) _ _ hk1 hk4 hks h
   have HMIS:Hid (¬ Utf.hit (bn s) k → ∀ j,1 ≤ j → j < k+1 → j ≤ s.size → ¬ Utf.hit (bn s) j):=fun h j h1 h2 h3=>by
    by_cases e:j=k
    ·rw [e];exact h
    ·exact HM.out j h1 (by omega) h3
   have HK:=Lib.hid (And.intro hk1 hk4)
   clear HM hP
   obtain ⟨KK,hKK⟩:∃ K,Hid (K=k):=⟨k,rfl⟩
   obtain ⟨V,hVV⟩:∃ V,Hid (Utf.val (bn s) k=V):=⟨_,rfl⟩
   rw [hVV.out] at HPUT HHIT
   obtain rfl | rfl | rfl | rfl:k=1 ∨ k=2 ∨ k=3 ∨ k=4:=by omega
   case' inl =>
    have HVAL:=Lib.hid (val1 (bn s))
    rw [hVV.out] at HVAL
    go_wp2_with fail
    refine wp_loop_rounds 1 ?_
    rw [rounds_succ]
    go_wp2_with fail
   case' inr.inl =>
    have HVAL:=Lib.hid (val2 (bn s))
    rw [hVV.out] at HVAL
    have hz1:=bn_at s 1 (by omega)
    have l1:=HLT.out 1
    have hn1:1 < s.size:=by omega
    go_wp2_with fail
    refine wp_loop_rounds 2 ?_
    rw [rounds_succ]
    go_wp2_with fail
    rw [rounds_succ]
    go_wp2_with fail
   case' inr.inr.inl =>
    have HVAL:=Lib.hid (val3 (bn s))
    rw [hVV.out] at HVAL
    have hz1:=bn_at s 1 (by omega)
    have l1:=HLT.out 1
    have hn1:1 < s.size:=by omega
    have hz2:=bn_at s 2 (by omega)
    have l2:=HLT.out 2
    have hn2:2 < s.size:=by omega
    go_wp2_with fail
    refine wp_loop_rounds 3 ?_
    rw [rounds_succ]
    go_wp2_with fail
    rw [rounds_succ]
    go_wp2_with fail
    rw [rounds_succ]
    go_wp2_with fail
   case' inr.inr.inr =>
    have HVAL:=Lib.hid (val4 (bn s))
    rw [hVV.out] at HVAL
    have hz1:=bn_at s 1 (by omega)
    have l1:=HLT.out 1
    have hn1:1 < s.size:=by omega
    have hz2:=bn_at s 2 (by omega)
    have l2:=HLT.out 2
    have hn2:2 < s.size:=by omega
    have hz3:=bn_at s 3 (by omega)
    have l3:=HLT.out 3
    have hn3:3 < s.size:=by omega
    go_wp2_with fail
    refine wp_loop_rounds 4 ?_
    rw [rounds_succ]
    go_wp2_with fail
    rw [rounds_succ]
    go_wp2_with fail
    rw [rounds_succ]
    go_wp2_with fail
    rw [rounds_succ]
    go_wp2_with fail
   all_goals
    rcases HDEC with ⟨hh,hb⟩ | ⟨hh,hb⟩
    ·have HX:=Lib.hid (HHIT.out hh)
     clear hh HMIS HHIT
     go_region_held3 (fun _=>True) (first | go_keep | trivial)
      ((go_at_call 95;refine (HPUT.out _ HVAL.out _).mono ?_;rintro e w' ⟨rfl,hf⟩))
     all_goals
      have HFN:Hid (Fr [] w w'):=by
       show Fr _ _ _
       first | exact HF.out.trans0 hf | exact HF.out.drew.trans0 hf
      clear hf HF
      go_wp2_with fail
      go_ret2
      rw [HX.out]
      exact ⟨by rw [HVAL.out];rfl,HFN.out⟩
    ·have HX:=Lib.hid (HMIS.out hh)
     clear hh HMIS HHIT
     go_region_held3 (fun _=>True) (first | go_keep | trivial)
      ((go_at_call 95;refine (HPUT.out _ HVAL.out _).mono ?_;rintro e w' ⟨rfl,hf⟩))
     all_goals
      have HFN:Hid (Fr [] w w'):=by
       show Fr _ _ _
       first | exact HF.out.trans0 hf | exact HF.out.drew.trans0 hf
      clear hf HF
      go_wp2_with fail
      go_roundg (6 - (KK+1))
      case measure=>have:=HQ.out;have:=hKK.out;omega
      case rel=>exact ⟨KK+1,by omega,by have:=hKK.out;omega,rfl,by rw [hKK.out];rfl,Lib.hid (fun j h1 h2 h3=>HX.out j h1 (by have:=hKK.out;omega) h3),HFN.out⟩
  ·have HX:Hid (R=(none,1)):=by
    show _=_
    rw [← hR.out]
    exact Utf.next_miss _ (bn_lt s) _ (by omega) (fun j h1 h2 h3=>HM.out j h1 (by omega) h3)
   clear HM
   by_cases hk4:k ≤ 4
   ·have g1:(k:Int) ≤ 4:=by omega
    have g2:¬ (k:Int) ≤ (s.size:Int):=by omega
    go_wp2_with fail
    go_ret2
    rw [HX.out]
    exact ⟨rfl,HF.out⟩
   ·have g1:¬ (k:Int) ≤ 4:=by omega
    go_wp2_with fail
    go_ret2
    rw [HX.out]
    exact ⟨rfl,HF.out⟩
end Go.Proofs.YtgklmpooonnmiaaGreatDoor
