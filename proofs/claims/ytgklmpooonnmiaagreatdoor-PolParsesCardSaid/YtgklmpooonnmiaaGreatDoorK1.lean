/-
  Lemmas and contracts that the proofs over this seat use (Lib, Base, PolKept, Utf); no statement of the seat is claimed in this text, and nothing is assumed in it.
-/
import Derived.WalkKit
import Derived.WalkSpells
import Derived.WalkLawsBesides
import Derived.Lib.Hide
import Derived.Deep.MidRow
import Derived.Deep.WholeRow
import Derived.BigQuiet
import Derived.Deep.QuietTactic
import Derived.StillTailTactics
import Derived.Test.YtgklmpooonnmiaaGreatDoorProg
import Derived.Lib.ConvBytes
import Derived.Laws.BytesString
import Derived.Deep.AppendLies
import Derived.Laws.BitsLemmas
import Derived.OwnWalk
set_option linter.unusedVariables false
set_option linter.unusedSimpArgs false
namespace Go.Proofs.YtgklmpooonnmiaaGreatDoor
open Go.RowKit
structure Fr (bs:List Nat) (w w':World):Prop where
 os:w'.os=w.os
 tape:w'.tape=w.tape
 output:w'.output=w.output
 size:w.heap.size ≤ w'.heap.size
 block:∀ k,k < w.heap.size → k ∉ bs → w'.heap[k]?=w.heap[k]?
theorem Fr.refl (bs:List Nat) (w:World):Fr bs w w:=⟨rfl,rfl,rfl,Nat.le_refl _,fun _ _ _=>rfl⟩
theorem Fr.trans {bs cs:List Nat} {a b c:World} (h:Fr bs a b) (k:Fr cs b c) (hs:∀ x ∈ cs,x ∈ bs ∨ a.heap.size ≤ x):Fr bs a c :=
 ⟨k.os.trans h.os,k.tape.trans h.tape,k.output.trans h.output,Nat.le_trans h.size k.size,fun i hi hn =>
  (k.block i (Nat.lt_of_lt_of_le hi h.size) (fun hc=>by rcases hs i hc with h1 | h1;exact hn h1;omega)).trans (h.block i hi hn)⟩
theorem Fr.trans0 {bs:List Nat} {a b c:World} (h:Fr bs a b) (k:Fr [] b c):Fr bs a c:=h.trans k (fun _ h=>by cases h)
theorem Fr.trans1 {bs:List Nat} {x:Nat} {a b c:World} (h:Fr bs a b) (k:Fr [x] b c) (hs:x ∈ bs ∨ a.heap.size ≤ x):Fr bs a c :=
 h.trans k (fun y hy=>by simp at hy;subst hy;exact hs)
theorem Fr.drew {bs:List Nat} {a w:World} (h:Fr bs a w):Fr bs a w.drew:=⟨h.os,h.tape,h.output,h.size,h.block⟩
theorem heap_drewN (w:World) (n:Nat):(w.drewN n).heap=w.heap:=by
 induction n generalizing w with
 | zero=>rfl
 | succ n ih=>first | exact ih _ | simp [World.drewN,ih]
theorem Fr.alloc {bs:List Nat} {a w:World} (h:Fr bs a w) (o:Obj):Fr bs a (w.alloc o) :=
 h.trans0 ⟨rfl,rfl,rfl,by simp,fun k hk _=>Below.heap_alloc _ _ _ hk⟩
theorem Fr.setCell {bs:List Nat} {a w:World} (h:Fr bs a w) {p:Addr} (hp:p.block ∈ bs ∨ a.heap.size ≤ p.block) (u:Value):Fr bs a (w.setCell p u) :=
 h.trans1 (x:=p.block) ⟨rfl,rfl,rfl,by simp [World.setCell],fun k _ hn=>Below.heap_setCell _ _ _ _ (by simpa using hn)⟩ hp
theorem Fr.new {x:Nat} {bs:List Nat} {w w':World} (h:Fr (x :: bs) w w') (hx:w.heap.size ≤ x):Fr bs w w' :=
 ⟨h.os,h.tape,h.output,h.size,fun k hk hn=>h.block k hk (by simp;exact ⟨by omega,hn⟩)⟩
theorem Fr.below {w w':World} (h:Fr [] w w'):Below w.heap.size w w':=⟨h.os,h.tape,h.output,h.size,fun k hk=>h.block k hk (by simp)⟩
theorem Fr.of_below {w w':World} (h:Below w.heap.size w w'):Fr [] w w':=⟨h.os,h.tape,h.output,h.size,fun k hk _=>h.block k hk⟩
theorem Fr.row {bs:List Nat} {w w':World} (h:Fr bs w w') {g:Nat} {o:Obj} (hg:w.heap[g]?=some o) (hn:g ∉ bs):w'.heap[g]?=some o:=by
 have hl:g < w.heap.size:=(Array.getElem?_eq_some_iff.1 hg).1
 rw [h.block g hl hn];exact hg
theorem row_lt {w:World} {g:Nat} {o:Obj} (hg:w.heap[g]?=some o):g < w.heap.size:=(Array.getElem?_eq_some_iff.1 hg).1
theorem Fr.cell {bs:List Nat} {w w':World} (h:Fr bs w w') {p:Addr} (hl:p.block < w.heap.size) (hn:p.block ∉ bs):w'.cell? p=w.cell? p :=
 World.cell?_of_block (w:=w) (h.block p.block hl hn)
theorem Fr.frozen {bs:List Nat} {w w':World} (h:Fr bs w w') {p:Addr} (hl:p.block < w.heap.size) (hn:p.block ∉ bs):w'.frozen? p=w.frozen? p :=
 World.frozen?_of_block (w:=w) (h.block p.block hl hn)
theorem Fr.cells {w w':World} (h:Fr [] w w') {a:Addr} {v:Value} (hc:w.cell? a=some v):w'.cell? a=some v :=
 (h.cell (block_lt_of_cell hc) (by simp)).trans hc
theorem Fr.drewN {bs:List Nat} {a w:World} (h:Fr bs a w) (n:Nat):Fr bs a (w.drewN n):=by
 have e:=heap_drewN w n
 induction n generalizing w with
 | zero=>exact h
 | succ n ih=>first | exact ih h.drew (heap_drewN _ _) | (rw [World.drewN];exact (ih h (heap_drewN _ _)).drew)
theorem wp_fresh {P:Program} {c:Code} {Q:Exit → Act → World → Prop} {a:Act} {w:World} (S:World → Prop) (hS:S w) (h:∀ w,S w → c.wp P Q a w):c.wp P Q a w:=h w hS
theorem calls_fresh {P:Program} {f:FuncId} {args:Array Value} {R:Ending → World → Prop} {w:World} (S:World → Prop) (hS:S w) (h:∀ w,S w → Calls P f args w R):Calls P f args w R:=h w hS
end Go.Proofs.YtgklmpooonnmiaaGreatDoor

namespace Go.Proofs.YtgklmpooonnmiaaGreatDoor
open Go.RowKit
def u8s (l:List Nat):List Value:=l.map fun (x:Nat)=>Value.int .u8 (x:Int)
@[simp] theorem u8s_length (l:List Nat):(u8s l).length=l.length:=by simp [u8s]
def nats (s:ByteArray):List Nat:=s.data.toList.map (·.toNat)
theorem nats_length (s:ByteArray):(nats s).length=s.size:=by simp [nats]
theorem nats_lt (s:ByteArray):∀ x ∈ nats s,x < 256:=by
 intro x hx
 simp only [nats,List.mem_map] at hx
 obtain ⟨c,_,rfl⟩:=hx
 exact c.toNat_lt
theorem nats_inj {a b:ByteArray}:nats a=nats b ↔ a=b:=by
 constructor
 ·intro h
  have h1:a.data.toList=b.data.toList:=List.map_inj_right (fun x y h=>UInt8.toNat_inj.1 h) |>.1 h
  cases a;cases b
  simp at h1
  simpa using h1
 ·rintro rfl;rfl
theorem fr_bytes (w:World) (e:TypeId) (s:ByteArray):Fr [] w (Lib.bytesWorld w e s) :=
 ⟨by simp [Lib.bytesWorld,World.freeze,World.alloc,World.drew,-World.alloc_eq,-World.drew_eq],by simp [Lib.bytesWorld,World.freeze,World.alloc,World.drew,-World.alloc_eq,-World.drew_eq],
  by simp [Lib.bytesWorld,World.freeze,World.alloc,World.drew,-World.alloc_eq,-World.drew_eq],by rw [Lib.bytesWorld_size];omega,fun k hk _=>Lib.bytesWorld_at_old w e s k hk⟩
theorem grownCap_ge (w:World) (n:Nat) (e:TypeId):n ≤ grownCap w n 0 e:=by simp [grownCap,Question.cut]
theorem grownCap_le (w:World) (n:Nat) (e:TypeId) (h:n ≤ maxLen):grownCap w n 0 e ≤ maxLen:=by
 have:w.tape w.drawn (.appendCap n 0 e) % (2 ^ 63 - n) < 2 ^ 63 - n:=Nat.mod_lt _ (by unfold maxLen at h;omega)
 show n+w.tape w.drawn (.appendCap n 0 e) % (2 ^ 63 - n) ≤ maxLen
 unfold maxLen at *
 omega
theorem Fr.grown {w0 w w':World} {e:TypeId} {size n:Nat} {v:Value} {xs:List Value} (h:Fr [] w0 w) (ho:w.ownsRow w0.heap.size e size v n xs) (hg:w.grownBy w' v.ownBlock):Fr [] w0 w' :=
 ⟨hg.os.trans h.os,hg.tape.trans h.tape,hg.output.trans h.output,Nat.le_trans h.size hg.size,fun k hk hn=>(hg.block k (Nat.lt_of_lt_of_le hk h.size) (by
  intro hc
  rcases ho.2 with ⟨rfl,_⟩ | ⟨g,cap,cur,rfl,hb,_⟩
  ·cases hc
  ·simp [Value.ownBlock] at hc;omega)).trans (h.block k hk hn)⟩
theorem ownsRow_fr {w w':World} {b n size:Nat} {e:TypeId} {v:Value} {xs:List Value} (h:w.ownsRow b e size v n xs) (hf:Fr [] w w'):w'.ownsRow b e size v n xs:=by
 refine ⟨h.1,?_⟩
 rcases h.2 with h | ⟨g,cap,cur,hv,hb,hg,hr⟩
 ·exact Or.inl h
 ·exact Or.inr ⟨g,cap,cur,hv,hb,hf.row hg (by simp),hr⟩
theorem ownsRow_nil (w:World) (b size:Nat) (e:TypeId):w.ownsRow b e size (.slice none 0 0) 0 []:=⟨by simp,Or.inl ⟨rfl,rfl⟩⟩
theorem ownsRow_cell {w:World} {b n:Nat} {e:TypeId} {p:Option Addr} {l c:Nat} {xs:List Value} (h:w.ownsRow b e 1 (.slice p l c) n xs) (j:Nat) (u:Value) (hj:xs[j]?=some u) :
  l=n ∧ l ≤ c ∧ c ≤ maxLen ∧ ∃ g,p=some ⟨g,0,none⟩ ∧ b ≤ g ∧ g < w.heap.size ∧ w.cell? ⟨g,j,none⟩=some u:=by
 rcases h.2 with ⟨hv,h0⟩ | ⟨g,cap,cur,hv,hb,hg,h1,h2,h3,h4⟩
 ·have:=h.1;rw [h0] at this;simp at this;subst this;simp at hj
 ·cases hv
  refine ⟨rfl,h1,h2,g,rfl,hb,row_lt hg,?_⟩
  rw [cell_of_row w g j cur e (0,0) hg]
  rw [← h4] at hj
  rw [List.getElem?_take] at hj
  split at hj
  ·simpa using hj
  ·cases hj
def ba (l:List Nat):ByteArray:=⟨(l.map UInt8.ofNat).toArray⟩
@[simp] theorem ba_size (l:List Nat):(ba l).size=l.length:=by simp [ba,ByteArray.size]
theorem nats_ba (l:List Nat) (h:∀ x ∈ l,x < 256):nats (ba l)=l:=by
 have:∀ l:List Nat,(∀ x ∈ l,x < 256) → (l.map UInt8.ofNat).map (·.toNat)=l:=by
  intro l
  induction l with
  | nil=>intro _;rfl
  | cons a l ih =>
   intro h
   simp only [List.map_cons]
   rw [ih (fun x hx=>h x (List.mem_cons_of_mem _ hx)),UInt8.toNat_ofNat',Nat.mod_eq_of_lt (by simpa using h a (by simp))]
 simpa [nats,ba] using this l h
theorem ba_nats (s:ByteArray):ba (nats s)=s:=nats_inj.1 (nats_ba _ (nats_lt s))
theorem foldl_push (l:List Nat):∀ s:ByteArray,(l.map fun (x:Nat)=>(x:Int)).foldl (fun r n=>r.push (UInt8.ofNat n.toNat)) s=⟨s.data ++ (l.map UInt8.ofNat).toArray⟩:=by
 induction l with
 | nil=>intro s;simp
 | cons a l ih =>
  intro s
  rw [List.map_cons,List.foldl_cons,ih]
  simp [ByteArray.push]
theorem u8s_ints (l:List Nat):u8s l=(l.map fun (x:Nat)=>(x:Int)).map (Value.int .u8):=by simp [u8s]
theorem owns_str {w:World} {b n:Nat} {v:Value} {D:List Nat} (h:w.ownsRow b 5 1 v n (u8s D)) :
  (convert 72 9 v).run Tryz.prog w=.ok (.string (ba D)) w:=by
 have hn:D.length=n:=by have:=h.1;simpa using this
 rcases h.2 with ⟨rfl,h0⟩ | ⟨g,cap,cur,rfl,_⟩
 ·rw [run_convert_bytes_string w 72 9 5 none 0 0 Tryz.underlying72 Tryz.underlying5 Tryz.underlying9]
  obtain rfl:D=[]:=List.eq_nil_of_length_eq_zero (by omega)
  rfl
 ·rw [run_convert_bytes_string w 72 9 5 _ n cap Tryz.underlying72 Tryz.underlying5 Tryz.underlying9]
  rw [run_bytesToString w ⟨g,0,none⟩ n cap (D.map fun (x:Nat)=>(x:Int)) ?_,foldl_push]
  ·simp [ba]
  ·have:=run_loadCells_list (P:=Tryz.prog) w ⟨g,0,none⟩ (u8s D) (fun j u hj=>by
    obtain ⟨_,_,_,g',hg,_,_,hc⟩:=ownsRow_cell h j u hj
    cases hg
    have hadd:(⟨g,0,none⟩:Addr).add j=⟨g,j,none⟩:=by unfold Addr.add;split <;> simp_all
    rw [hadd];exact hc)
   rw [u8s_length,hn] at this
   rw [this,u8s_ints]
theorem info8:(Tryz.prog.info? 5).map (fun i=>(i.zero,i.size,i.bytes))=some (some (.int .u8 0),1,1):=by kernel_rfl
theorem app8 {ops:Array Oper} {rest:List Oper} {o:Oper} {a:Act} {w:World} {Q:Exit → Act → World → Prop} (hgd:o.guard=none) (s x:Operand)
  (ho:o.op=.call { callee:=.builtin .append,args:=#[s,x],argTypes:=#[72,72] })
  (w0:World) (v:Value) (n:Nat) (D:List Nat) (y:Nat) (hs:a.eval s=v) (hx:a.eval x=.slice (some ⟨w.heap.size,0,none⟩) 1 1)
  (hown:w.ownsRow w0.heap.size 5 1 v n (u8s D)) (hF:Fr [] w0 w) (hn:n < 1000000000)
  (h:∀ v' w',w'.ownsRow w0.heap.size 5 1 v' (n+1) (u8s (D ++ [y])) → Fr [] w0 w' → wpList Tryz.prog ops Q rest (a.put o.dst v') w'):wpList Tryz.prog ops Q (o :: rest) a (w.alloc (.cells #[.int .u8 (y:Int)] 5)):=by
 obtain ⟨i,hi,hz0,hz1,hz2⟩:=info_parts info8
 refine wpList_append_lies (w.alloc _) hgd s x _ ho w0.heap.size 5 i (.int .u8 0) 1 1 Tryz.underlying72 hi hz0 hz1 hz2 rfl (by decide) v n (u8s D) hs (ownsRow_fr hown ((Fr.refl _ _).alloc _)) _ 1 1 [.int .u8 (y:Int)] hx rfl (cell_one_new w _ _) (by simp [Value.oneCell']) (by decide) (by unfold maxLen;omega) (by omega) (Nat.le_trans hF.size (by simp)) _ rfl ?_
 intro g cap w' h1 h2 _ _
 have e:u8s (D ++ [y])=u8s D ++ [.int .u8 (y:Int)]:=by simp [u8s]
 exact h _ _ (by rw [e];exact h1) ((hF.alloc _).grown (ownsRow_fr hown ((Fr.refl _ _).alloc _)) h2)
theorem nats_at (B:ByteArray) (i:Nat) (h:i < B.size):B.data[i]'h=UInt8.ofNat ((nats B).getD i 0):=by
 have h2:i < B.data.size:=h
 simp [nats,List.getD]
 rw [Array.getElem?_eq_getElem h2]
 simp
theorem ownsRow_blk {w w':World} {b n size:Nat} {e:TypeId} {g c:Nat} {xs:List Value} (h:w.ownsRow b e size (.slice (some ⟨g,0,none⟩) n c) n xs) (hb:w'.heap[g]?=w.heap[g]?):w'.ownsRow b e size (.slice (some ⟨g,0,none⟩) n c) n xs:=by
 refine ⟨h.1,?_⟩
 rcases h.2 with ⟨h1,_⟩ | ⟨g',cap,cur,hv,hb',hg,hr⟩
 ·cases h1
 ·cases hv;exact Or.inr ⟨_,_,cur,rfl,hb',by rw [hb];exact hg,hr⟩
theorem ownsRow_lt {w:World} {b n size:Nat} {e:TypeId} {g c:Nat} {xs:List Value} (h:w.ownsRow b e size (.slice (some ⟨g,0,none⟩) n c) n xs):g < w.heap.size:=by
 rcases h.2 with ⟨h1,_⟩ | ⟨g',cap,cur,hv,hb',hg,hr⟩
 ·cases h1
 ·cases hv;exact row_lt hg
theorem then_fresh {K:Act → World → Prop} {Q:Exit → Act → World → Prop} {e:Exit} {a:Act} {w:World} (S:World → Prop) (hS:S w) (h:∀ w,S w → Exit.then K Q e a w):Exit.then K Q e a w:=h w hS
theorem wrap8 (a:Int):IntKind.u8.wrap a=a % 256:=by rw [IntKind.wrap_u8]
theorem conv (w:World) (s:ByteArray):(convert 9 72 (.string s)).run Tryz.prog w=.ok (.slice (some ⟨w.heap.size,0,none⟩) s.size (grownCap w s.size 0 5)) (Lib.bytesWorld w 5 s) :=
 Lib.run_convert_string_bytes w 9 72 5 s Tryz.underlying9 Tryz.underlying72 Tryz.underlying5
end Go.Proofs.YtgklmpooonnmiaaGreatDoor

namespace Go.Proofs.YtgklmpooonnmiaaGreatDoor
open Go.RowKit
def Pol.words:List (List UInt8):=[[112,101,114,109,105,116],[100,101,110,121],[119,104,101,110],[97,110,100],[111,114],[110,111,116],[105,110],[104,97,115],[116,114,117,101],[102,97,108,115,101],[99,108,97,105,109]]
def Pol.kept (s:ByteArray):Bool:=Pol.words.contains s.toList
set_option maxHeartbeats 4000000 in
set_option maxRecDepth 100000 in
theorem pol_kept (w:World) (s:ByteArray):Calls Tryz.prog 68 #[.string s] w fun e w'=>e=.returned (.bool (Pol.kept s)) ∧ w=w':=by
 go_enter Tryz.func68,Tryz.ntmps68
 go_wp2_with fail
 all_goals (refine bodyPost_ret (results_tmp rfl _ _ _) rfl ?_;simp_all [Pol.kept,Pol.words])
end Go.Proofs.YtgklmpooonnmiaaGreatDoor

namespace Go.Proofs.YtgklmpooonnmiaaGreatDoor
open Go.RowKit
namespace Utf
def right (n:Nat):Bool:=decide (n ≤ 1114111) && (decide (n < 55296) || decide (57343 < n))
def least:Nat → Nat
 | 2=>128
 | 3=>2048
 | 4=>65536
 | _=>0
def wide (c:Nat):Nat:=if c < 128 then 1 else if c < 192 then 0 else if c < 224 then 2 else if c < 240 then 3 else if c < 248 then 4 else 0
def first (c:Nat):Nat:=if c < 224 then c % 32 else if c < 240 then c % 16 else c % 8
def pre (f:Nat → Nat):Nat → Nat
 | 0=>first (f 0)
 | i+1=>pre f i * 64+f (i+1) % 64
def cont (f:Nat → Nat):Nat → Bool
 | 0=>true
 | i+1=>cont f i && decide (f (i+1) / 64=2)
def next (f:Nat → Nat) (len:Nat):Option Nat × Nat :=
 if len=0 then (none,0)
 else if f 0 < 128 then (some (f 0),1)
 else if wide (f 0)=0 ∨ len < wide (f 0) then (none,1)
 else if cont f (wide (f 0) - 1)=true ∧ least (wide (f 0)) ≤ pre f (wide (f 0) - 1) ∧ right (pre f (wide (f 0) - 1))=true then (some (pre f (wide (f 0) - 1)),wide (f 0))
 else (none,1)
end Utf
def letZ:Option Nat → Int
 | some n=>n
 | none=>-1
def leastCells:Array Value:=#[.int .i64 0,.int .i64 0,.int .i64 128,.int .i64 2048,.int .i64 65536]
def Least (w:World):Prop:=∃ t fr,w.heap[1]?=some (.cells leastCells t fr)
theorem Least.fr {bs:List Nat} {w w':World} (h:Least w) (hF:Fr bs w w') (hn:1 ∉ bs):Least w':=by
 obtain ⟨t,fr,h⟩:=h
 exact ⟨t,fr,hF.row h hn⟩
theorem Least.cell {w:World} (h:Least w) (i:Nat):w.cell? ⟨1,i,none⟩=leastCells[i]?:=by
 obtain ⟨t,fr,h⟩:=h
 exact cell_of_row _ _ _ _ _ _ h
theorem utf_right (n:Nat) (w:World) :
  Calls Tryz.prog 97 #[.int .i64 n] w fun e w'=>e=.returned (.bool (Utf.right n)) ∧ w=w':=by
 have h0:(n:Int) ≥ 0:=by omega
 by_cases h1:n ≤ 1114111
 ·have h1':(n:Int) ≤ 1114111:=by omega
  by_cases h2:n < 55296
  ·have h2':(n:Int) < 55296:=by omega
   have:Utf.right n=true:=by simp [Utf.right,h1,h2]
   rw [this]
   clear this h1 h2
   go_enter Tryz.func97,Tryz.ntmps97
   go_wp2
   go_ret
   exact ⟨rfl,rfl⟩
  ·have h2':¬ (n:Int) < 55296:=by omega
   have:Utf.right n=decide ((n:Int) > 57343):=by
    simp only [Utf.right,h1,h2,decide_true,decide_false,Bool.true_and,Bool.false_or]
    exact decide_eq_decide.2 (by omega)
   rw [this]
   clear this h1 h2
   go_enter Tryz.func97,Tryz.ntmps97
   go_wp2
   all_goals (go_ret;refine ⟨?_,rfl⟩;simp_all)
 ·have h1':¬ (n:Int) ≤ 1114111:=by omega
  have:Utf.right n=false:=by simp [Utf.right,h1]
  rw [this]
  clear this h1
  go_enter Tryz.func97,Tryz.ntmps97
  go_wp2
  go_ret
  exact ⟨rfl,rfl⟩
end Go.Proofs.YtgklmpooonnmiaaGreatDoor
