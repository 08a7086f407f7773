/-
  Lemmas and contracts that the proofs over this seat use (part LexTokP); no statement of the seat is claimed in this text, and nothing is assumed in it.
-/
import Derived.Test.YtgklmpooonnmiaaDoorLexSmall
set_option linter.unusedVariables false
set_option linter.unusedSimpArgs false
namespace Go.Proofs.YtgklmpooonnmiaaDoor
open Go.RowKit
/-- a token. -/
structure Tk where
  k : Nat
  s : ByteArray
  n : Int
  p : Nat
def Tk.c (t : Tk) : List Value := [.int .i64 (t.k : Nat), .string t.s, .int .i64 t.n, .int .i64 (t.p : Nat)]
inductive TR where
  | ok (t : Tk) (m : Nat)
  | bad (p n : Nat)
namespace Lex
def tokSmall (T : ByteArray) (k n : Nat) : TR := if 32 < n then .bad k 110 else .ok ⟨1, T.extract 0 n, 0, k⟩ (k + n)
def tokText (k : Nat) : Option (List Nat) × Nat → TR
  | (some o, e) => .ok ⟨2, ba o, 0, k⟩ e
  | (none, p) => .bad p 110
def tokRead (k n : Nat) : Int × Er → TR
  | (v, .ok) => .ok ⟨3, ⟨#[]⟩, v, k⟩ (k + n)
  | _ => .bad k 41
def tokNum (T : ByteArray) (k n : Nat) : TR := if n = 0 then .bad k 110 else tokRead k n (Dec.read (bn (T.extract 0 n)) (T.extract 0 n).size (-9007199254740991) 9007199254740991)
def tokSign (T : ByteArray) (k n : Nat) : TR := if n = 0 then .bad k 110 else .ok ⟨4, T.extract 0 n, 0, k⟩ (k + n)
/-- the token at a place k of s; T: what stands from there on, c: its first byte. -/
def tokR (s T : ByteArray) (k c : Nat) : TR :=
  if small c = true then tokSmall T k (smalls (bn T) T.size 0)
  else if c = 34 then tokText k (text s (k + 1) [])
  else if c = 45 ∨ Dec.dig c = true then tokNum T k (Dec.lead (bn T) T.size)
  else tokSign T k (sign (bn T) T.size)
/-- the token at a place. -/
def token (s : ByteArray) (k : Nat) : TR := tokR s (s.extract k s.size) k (bn (s.extract k s.size) 0)
end Lex
def zTk : Array Value := #[.int .i64 0, .string ⟨#[]⟩, .int .i64 0, .int .i64 0]
/-- the state: the scanner in block b; the result in block g; the token on its way in the block behind. -/
structure TT (w : World) (b g : Nat) (s : ByteArray) (lv : Value) (k : Nat) (r t : Array Value) (W : World) : Prop where
  sc : Sc W b s k lv
  r : W.heap[g]? = some (.cells r 25 (0, 0))
  t : W.heap[g + 1]? = some (.cells t 25 (0, 0))
  f : Fr [b] w W
  ge : g = w.heap.size
theorem TT.fr {w : World} {b g : Nat} {s : ByteArray} {lv : Value} {k : Nat} {r t : Array Value} {W W' : World} (h : TT w b g s lv k r t W) (hF : Fr [] W W') : TT w b g s lv k r t W' :=
  ⟨h.sc.fr hF, hF.row h.r (by simp), hF.row h.t (by simp), h.f.trans0 hF, h.ge⟩
theorem TT.lt {w : World} {b g : Nat} {s : ByteArray} {lv : Value} {k : Nat} {r t : Array Value} {W : World} (h : TT w b g s lv k r t W) (hb : b < w.heap.size) : b ≠ g ∧ b ≠ g + 1 := by have := h.ge; omega
theorem TT.put {w : World} {b g : Nat} {s : ByteArray} {lv : Value} {k : Nat} {r t : Array Value} {W : World} (h : TT w b g s lv k r t W) (hb : b < w.heap.size) (m : Nat) : TT w b g s lv m r t (W.setCell ⟨b, 1, none⟩ (.int .i64 (m : Nat))) :=
  ⟨h.sc.put m, by rw [Below.heap_setCell _ _ _ _ (by have := h.ge; show g ≠ b; omega)]; exact h.r, by rw [Below.heap_setCell _ _ _ _ (by have := h.ge; show g + 1 ≠ b; omega)]; exact h.t, h.f.setCell (.inl (by simp)) _, h.ge⟩
theorem TT.sett {w : World} {b g : Nat} {s : ByteArray} {lv : Value} {k : Nat} {r t : Array Value} {W : World} (h : TT w b g s lv k r t W) (hb : b < w.heap.size) (i : Nat) (v : Value) : TT w b g s lv k r (t.setIfInBounds i v) (W.setCell ⟨g + 1, i, none⟩ v) :=
  ⟨by unfold Sc; rw [Below.heap_setCell _ _ _ _ (by have := h.ge; show b ≠ g + 1; omega)]; exact h.sc, by rw [Below.heap_setCell _ _ _ _ (by show g ≠ g + 1; omega)]; exact h.r, heap_setCell_same _ _ _ _ _ _ h.t, h.f.setCell (.inr (by have := h.ge; show w.heap.size ≤ g + 1; omega)) _, h.ge⟩
theorem TT.setr {w : World} {b g : Nat} {s : ByteArray} {lv : Value} {k : Nat} {r t : Array Value} {W : World} (h : TT w b g s lv k r t W) (hb : b < w.heap.size) (i : Nat) (v : Value) : TT w b g s lv k (r.setIfInBounds i v) t (W.setCell ⟨g, i, none⟩ v) :=
  ⟨by unfold Sc; rw [Below.heap_setCell _ _ _ _ (by have := h.ge; show b ≠ g; omega)]; exact h.sc, heap_setCell_same _ _ _ _ _ _ h.r, by rw [Below.heap_setCell _ _ _ _ (by show g + 1 ≠ g; omega)]; exact h.t, h.f.setCell (.inr (by have := h.ge; show w.heap.size ≤ g; omega)) _, h.ge⟩
theorem TT.step {w : World} {b g : Nat} {s : ByteArray} {lv : Value} {k m : Nat} {r t : Array Value} {W W' : World} (h : TT w b g s lv k r t W) (hb : b < w.heap.size) (hF : Fr [b] W W') (hS : Sc W' b s m lv) : TT w b g s lv m r t W' :=
  ⟨hS, hF.row h.r (by have := h.ge; simp; omega), hF.row h.t (by have := h.ge; simp; omega), h.f.trans1 hF (.inl (by simp)), h.ge⟩
theorem TT.least {w : World} {b g : Nat} {s : ByteArray} {lv : Value} {k : Nat} {r t : Array Value} {W : World} (h : TT w b g s lv k r t W) (hL : Least w) (hb : 1 ≠ b) : Least W := hL.fr h.f (by simpa using hb)
theorem results_cell_tmp {P : Program} {fn : Func} {p q : Tmp} {ty : TypeId} (h : fn.results = #[.cell p ty, .tmp q]) (tmps : Array Value) (w : World) (g : Nat) (t : TypeId) (cs : Array Value) (fr : Nat × Nat) (d : TypeDesc)
    (hp : tmps.getD p undef = .pointer (some ⟨g, 0, none⟩)) (hg : w.heap[g]? = some (.cells cs t fr))
    (hu : P.underlying ty = some d) (hd : (match d with | .struct _ | .array _ _ => true | _ => false) = true) (hi : (P.info? ty).map (·.size) = some cs.size) :
    (results fn tmps).run P w = .ok (.tuple #[.agg cs, tmps.getD q undef]) w := by
  have hp' : tmps[p]?.getD undef = .pointer (some ⟨g, 0, none⟩) := by simpa using hp
  simp [results, h, hp', asAddr, run_loadVar_row w g t ty cs fr d hg hu hd hi]
theorem ErV.set {w : World} {B c i : Nat} {u : Value} {e : Er} {v : Value} (h : ErV w B e v) (hc : c < B) : ErV (w.setCell ⟨c, i, none⟩ u) B e v := by
  cases e with
  | ok => exact h
  | no n => exact h
  | pl p n => obtain ⟨b, hb, hv, hr⟩ := h; exact ⟨b, hb, hv, by rw [Below.heap_setCell _ _ _ _ (by show b ≠ c; omega)]; exact hr⟩
/-- what 'token' tells. -/
def TokTold (w : World) (b : Nat) (s : ByteArray) (lv : Value) : TR → Array Value → Value → World → Prop
  | .ok t m, tv, ev, w' => tv = t.c.toArray ∧ ev = .nilIface ∧ Sc w' b s m lv ∧ Fr [b] w w'
  | .bad p n, tv, ev, w' => (∃ t : Tk, tv = t.c.toArray) ∧ ErV w' w.heap.size (.pl p n) ev ∧ Fr [b] w w'
end Go.Proofs.YtgklmpooonnmiaaDoor
