/-
  Lemmas and contracts that the proofs over this seat use (LexTokP, RefPa); no statement of the seat is claimed in this text, and nothing is assumed in it.
-/
import Derived.Test.YtgklmpooonnmiaaGreatDoorK6
import Derived.Test.YtgklmpooonnmiaaGreatDoorK8
import Derived.Test.YtgklmpooonnmiaaGreatDoorK9
set_option linter.unusedVariables false
set_option linter.unusedSimpArgs false
namespace Go.Proofs.YtgklmpooonnmiaaGreatDoor
open Go.RowKit
structure Tk where
 k:Nat
 s:ByteArray
 n:Int
 p:Nat
def Tk.c (t:Tk):List Value:=[.int .i64 (t.k:Nat),.string t.s,.int .i64 t.n,.int .i64 (t.p:Nat)]
inductive TR where
 | ok (t:Tk) (m:Nat)
 | bad (p n:Nat)
namespace Lex
def tokSmall (T:ByteArray) (k n:Nat):TR:=if 32 < n then .bad k 110 else .ok ⟨1,T.extract 0 n,0,k⟩ (k+n)
def tokText (k:Nat):Option (List Nat) × Nat → TR
 | (some o,e)=>.ok ⟨2,ba o,0,k⟩ e
 | (none,p)=>.bad p 110
def tokRead (k n:Nat):Int × Er → TR
 | (v,.ok)=>.ok ⟨3,⟨#[]⟩,v,k⟩ (k+n)
 | _=>.bad k 41
def tokNum (T:ByteArray) (k n:Nat):TR:=if n=0 then .bad k 110 else tokRead k n (Dec.read (bn (T.extract 0 n)) (T.extract 0 n).size (-9007199254740991) 9007199254740991)
def tokSign (T:ByteArray) (k n:Nat):TR:=if n=0 then .bad k 110 else .ok ⟨4,T.extract 0 n,0,k⟩ (k+n)
def tokR (s T:ByteArray) (k c:Nat):TR :=
 if small c=true then tokSmall T k (smalls (bn T) T.size 0)
 else if c=34 then tokText k (text s (k+1) [])
 else if c=45 ∨ Dec.dig c=true then tokNum T k (Dec.lead (bn T) T.size)
 else tokSign T k (sign (bn T) T.size)
def token (s:ByteArray) (k:Nat):TR:=tokR s (s.extract k s.size) k (bn (s.extract k s.size) 0)
end Lex
def zTk:Array Value:=#[.int .i64 0,.string ⟨#[]⟩,.int .i64 0,.int .i64 0]
structure TT (w:World) (b g:Nat) (s:ByteArray) (lv:Value) (k:Nat) (r t:Array Value) (W:World):Prop where
 sc:Sc W b s k lv
 r:W.heap[g]?=some (.cells r 54 (0,0))
 t:W.heap[g+1]?=some (.cells t 54 (0,0))
 f:Fr [b] w W
 ge:g=w.heap.size
theorem TT.fr {w:World} {b g:Nat} {s:ByteArray} {lv:Value} {k:Nat} {r t:Array Value} {W W':World} (h:TT w b g s lv k r t W) (hF:Fr [] W W'):TT w b g s lv k r t W' :=
 ⟨h.sc.fr hF,hF.row h.r (by simp),hF.row h.t (by simp),h.f.trans0 hF,h.ge⟩
theorem TT.lt {w:World} {b g:Nat} {s:ByteArray} {lv:Value} {k:Nat} {r t:Array Value} {W:World} (h:TT w b g s lv k r t W) (hb:b < w.heap.size):b ≠ g ∧ b ≠ g+1:=by have:=h.ge;omega
theorem TT.put {w:World} {b g:Nat} {s:ByteArray} {lv:Value} {k:Nat} {r t:Array Value} {W:World} (h:TT w b g s lv k r t W) (hb:b < w.heap.size) (m:Nat):TT w b g s lv m r t (W.setCell ⟨b,1,none⟩ (.int .i64 (m:Nat))) :=
 ⟨h.sc.put m,by rw [Below.heap_setCell _ _ _ _ (by have:=h.ge;show g ≠ b;omega)];exact h.r,by rw [Below.heap_setCell _ _ _ _ (by have:=h.ge;show g+1 ≠ b;omega)];exact h.t,h.f.setCell (.inl (by simp)) _,h.ge⟩
theorem TT.sett {w:World} {b g:Nat} {s:ByteArray} {lv:Value} {k:Nat} {r t:Array Value} {W:World} (h:TT w b g s lv k r t W) (hb:b < w.heap.size) (i:Nat) (v:Value):TT w b g s lv k r (t.setIfInBounds i v) (W.setCell ⟨g+1,i,none⟩ v) :=
 ⟨by unfold Sc;rw [Below.heap_setCell _ _ _ _ (by have:=h.ge;show b ≠ g+1;omega)];exact h.sc,by rw [Below.heap_setCell _ _ _ _ (by show g ≠ g+1;omega)];exact h.r,heap_setCell_same _ _ _ _ _ _ h.t,h.f.setCell (.inr (by have:=h.ge;show w.heap.size ≤ g+1;omega)) _,h.ge⟩
theorem TT.setr {w:World} {b g:Nat} {s:ByteArray} {lv:Value} {k:Nat} {r t:Array Value} {W:World} (h:TT w b g s lv k r t W) (hb:b < w.heap.size) (i:Nat) (v:Value):TT w b g s lv k (r.setIfInBounds i v) t (W.setCell ⟨g,i,none⟩ v) :=
 ⟨by unfold Sc;rw [Below.heap_setCell _ _ _ _ (by have:=h.ge;show b ≠ g;omega)];exact h.sc,heap_setCell_same _ _ _ _ _ _ h.r,by rw [Below.heap_setCell _ _ _ _ (by show g+1 ≠ g;omega)];exact h.t,h.f.setCell (.inr (by have:=h.ge;show w.heap.size ≤ g;omega)) _,h.ge⟩
theorem TT.step {w:World} {b g:Nat} {s:ByteArray} {lv:Value} {k m:Nat} {r t:Array Value} {W W':World} (h:TT w b g s lv k r t W) (hb:b < w.heap.size) (hF:Fr [b] W W') (hS:Sc W' b s m lv):TT w b g s lv m r t W' :=
 ⟨hS,hF.row h.r (by have:=h.ge;simp;omega),hF.row h.t (by have:=h.ge;simp;omega),h.f.trans1 hF (.inl (by simp)),h.ge⟩
theorem TT.least {w:World} {b g:Nat} {s:ByteArray} {lv:Value} {k:Nat} {r t:Array Value} {W:World} (h:TT w b g s lv k r t W) (hL:Least w) (hb:1 ≠ b):Least W:=hL.fr h.f (by simpa using hb)
theorem results_cell_tmp {P:Program} {fn:Func} {p q:Tmp} {ty:TypeId} (h:fn.results=#[.cell p ty,.tmp q]) (tmps:Array Value) (w:World) (g:Nat) (t:TypeId) (cs:Array Value) (fr:Nat × Nat) (d:TypeDesc)
  (hp:tmps.getD p undef=.pointer (some ⟨g,0,none⟩)) (hg:w.heap[g]?=some (.cells cs t fr))
  (hu:P.underlying ty=some d) (hd:(match d with | .struct _ | .array _ _=>true | _=>false)=true) (hi:(P.info? ty).map (·.size)=some cs.size) :
  (results fn tmps).run P w=.ok (.tuple #[.agg cs,tmps.getD q undef]) w:=by
 have hp':tmps[p]?.getD undef=.pointer (some ⟨g,0,none⟩):=by simpa using hp
 simp [results,h,hp',asAddr,run_loadVar_row w g t ty cs fr d hg hu hd hi]
theorem ErV.set {w:World} {B c i:Nat} {u:Value} {e:Er} {v:Value} (h:ErV w B e v) (hc:c < B):ErV (w.setCell ⟨c,i,none⟩ u) B e v:=by
 cases e with
 | ok=>exact h
 | no n=>exact h
 | pl p n=>obtain ⟨b,hb,hv,hr⟩:=h;exact ⟨b,hb,hv,by rw [Below.heap_setCell _ _ _ _ (by show b ≠ c;omega)];exact hr⟩
def TokTold (w:World) (b:Nat) (s:ByteArray) (lv:Value):TR → Array Value → Value → World → Prop
 | .ok t m,tv,ev,w'=>tv=t.c.toArray ∧ ev=.nilIface ∧ Sc w' b s m lv ∧ Fr [b] w w'
 | .bad p n,tv,ev,w'=>(∃ t:Tk,tv=t.c.toArray) ∧ ErV w' w.heap.size (.pl p n) ev ∧ Fr [b] w w'
end Go.Proofs.YtgklmpooonnmiaaGreatDoor

namespace Go.Proofs.YtgklmpooonnmiaaGreatDoor
open Go.RowKit
structure TL (w:World) (ad:Addr) (cap:Nat) (l:List TI):Prop where
 tk:Toks w (some ad) l
 ends:Ends l
 few:l.length ≤ 1000000
 lc:l.length ≤ cap
 cm:cap ≤ maxLen
theorem TL.fr {w w':World} {ad:Addr} {cap:Nat} {l:List TI} (h:TL w ad cap l) (hF:Fr [] w w'):TL w' ad cap l:=⟨h.tk.fr hF,h.ends,h.few,h.lc,h.cm⟩
theorem TL.cells {w:World} {ad:Addr} {cap:Nat} {l:List TI} (h:TL w ad cap l) {i:Nat} {t:TI} (hi:l[i]?=some t) :
  w.cell? (ad.add (i * 4))=some (.int .i64 t.k) ∧ w.cell? ⟨(ad.add (i * 4)).block,(ad.add (i * 4)).off+1,none⟩=some (.string t.s) ∧ w.cell? ⟨(ad.add (i * 4)).block,(ad.add (i * 4)).off+2,none⟩=some (.int .i64 t.n) ∧ w.cell? ⟨(ad.add (i * 4)).block,(ad.add (i * 4)).off+3,none⟩=some (.int .i64 t.p):=by
 obtain ⟨a,ha,h0,h1,h2,h3⟩:=h.tk i t hi
 cases ha
 exact ⟨h0,h1,h2,h3⟩
theorem results_cell_tmp2 {P:Program} {fn:Func} {p q r:Tmp} {ty:TypeId} (h:fn.results=#[.cell p ty,.tmp q,.tmp r]) (tmps:Array Value) (w:World) (g:Nat) (t:TypeId) (cs:Array Value) (fr:Nat × Nat) (d:TypeDesc)
  (hp:tmps.getD p undef=.pointer (some ⟨g,0,none⟩)) (hg:w.heap[g]?=some (.cells cs t fr))
  (hu:P.underlying ty=some d) (hd:(match d with | .struct _ | .array _ _=>true | _=>false)=true) (hi:(P.info? ty).map (·.size)=some cs.size) :
  (results fn tmps).run P w=.ok (.tuple #[.agg cs,tmps.getD q undef,tmps.getD r undef]) w:=by
 have hp':tmps[p]?.getD undef=.pointer (some ⟨g,0,none⟩):=by simpa using hp
 simp [results,h,hp',asAddr,run_loadVar_row w g t ty cs fr d hg hu hd hi]
def ExForm (cs:List Value):Prop:=∃ (op:Int) (s:ByteArray) (n:Int) (q:Option Addr) (k c:Nat) (p:Int),cs=[.int .i64 op,.string s,.int .i64 n,.slice q k c,.int .i64 p]
def PaDone (l:List TI) (w:World) (q:Pol.PR Ex) (e:Ending) (w':World):Prop :=
 match q with
 | .ok (x,m)=>∃ (cs:List Value) (n:Nat),e=.returned (.tuple #[.agg cs.toArray,.int .i64 n,.int .i64 0]) ∧ Rep w' (fun g=>w.heap.size ≤ g) cs x ∧ n < l.length ∧ m=l.drop n ∧ Fr [] w w'
 | .error (p,er)=>∃ (cs:List Value) (n:Nat) (t:TI),e=.returned (.tuple #[.agg cs.toArray,.int .i64 n,.int .i64 er]) ∧ ExForm cs ∧ l[n]?=some t ∧ t.p=p ∧ er ≠ 0 ∧ Fr [] w w'
theorem PaDone.from {l:List TI} {w0 w w':World} {q:Pol.PR Ex} {e:Ending} (h:PaDone l w q e w') (hf:Fr [] w0 w):PaDone l w0 q e w':=by
 cases q with
 | error p =>
  obtain ⟨cs,n,t,h1,h2,h4,h5,h6,h7⟩:=h
  exact ⟨cs,n,t,h1,h2,h4,h5,h6,hf.trans0 h7⟩
 | ok p =>
  obtain ⟨cs,n,h1,h2,h3,h4,h5⟩:=h
  exact ⟨cs,n,h1,h2.mono (fun g _ h=>Nat.le_trans hf.size h),h3,h4,hf.trans0 h5⟩
def PaReads (F:FuncId) (q:Nat → List TI → Pol.PR Ex):Prop :=
 ∀ (w : World) (ad : Addr) (cap : Nat) (l : List TI) (i nest : Nat), TL w ad cap l → i < l.length → nest ≤ 12 → Pol.Fed (q nest (l.drop i)) →
   Calls Tryz.prog F #[.slice (some ad) l.length cap,.int .i64 i,.int .i64 nest] w (PaDone l w (q nest (l.drop i)))
theorem at_of {l:List TI} {i:Nat} (h:i < l.length):∃ t,l[i]?=some t ∧ l.drop i=t :: l.drop (i+1):=⟨l[i],List.getElem?_eq_getElem h,List.drop_eq_getElem_cons h⟩
set_option maxHeartbeats 4000000 in
set_option maxRecDepth 100000 in
theorem ref_is (w:World) (ad:Addr) (cap:Nat) (l:List TI) (i:Nat) (k:Int) (s:ByteArray) (h:TL w ad cap l) (hi:i < l.length) :
  Calls Tryz.prog 22 #[.slice (some ad) l.length cap,.int .i64 i,.int .i64 k,.string s] w fun e w'=>e=.returned (.bool (Pol.is (l.drop i) k s.toList)) ∧ w=w':=by
 obtain ⟨t,ht,hd⟩:=at_of hi
 obtain ⟨c0,c1,c2,c3⟩:=h.cells ht
 have hb:l.length ≤ 9223372036854775807:=by have:=h.few;omega
 have hi1:(i:Int) < (l.length:Int):=by omega
 have hi0:(0:Int) ≤ (i:Int):=by omega
 have HR:Hid (Pol.is (l.drop i) k s.toList=(t.k == k && t.s.toList == s.toList)):=by show _=_;rw [hd];rfl
 clear h hd ht
 cases hk:(t.k == k) with
 | false =>
  rw [hk] at HR
  go_enter Tryz.func22,Tryz.ntmps22
  go_wp2_with fail
  refine bodyPost_ret (results_tmp rfl _ _ _) rfl ?_
  rw [HR.out]
  exact ⟨rfl,rfl⟩
 | true =>
  rw [hk] at HR
  go_enter Tryz.func22,Tryz.ntmps22
  go_wp2_with fail
  refine bodyPost_ret (results_tmp rfl _ _ _) rfl ?_
  rw [HR.out]
  exact ⟨rfl,rfl⟩
end Go.Proofs.YtgklmpooonnmiaaGreatDoor
