/-
  Lemmas and contracts that the proofs over this seat use (part ShaCutsLib); no statement of the seat is claimed in this text, and nothing is assumed in it.
-/
import Derived.Test.YtanegflohbgkdaaShaEq
import Derived.Test.YtanegflohbgkdaaOwn
import Derived.Test.YtanegflohbgkdaaDraw
set_option linter.unusedVariables false
set_option linter.unusedSimpArgs false
namespace Go.Proofs.Ytanegflohbgkdaa
open Go.RowKit
/-- the texts of a slice stand. -/
def Txts (w : World) (A : Option Addr) (l : List ByteArray) : Prop :=
  ∀ j s, l[j]? = some s → ∃ ad, A = some ad ∧ w.cell? (ad.add j) = some (.string s)
theorem Txts.fr {w w' : World} {A : Option Addr} {l : List ByteArray} (h : Txts w A l) (hF : Fr [] w w') : Txts w' A l := fun j s hj => by
  obtain ⟨ad, hA, hc⟩ := h j s hj
  exact ⟨ad, hA, hF.cells hc⟩
/-- a part that lies in a row of bytes. -/
structure PB (w : World) (x : Pt) : Prop where
  ok : x.Ok w
  row : ∀ a, x.p = some a → ∃ cur fr, w.heap[a.block]? = some (.cells cur 5 fr)
theorem PB.frs {bs : List Nat} {w w' : World} {x : Pt} (h : PB w x) (hf : Fr bs w w') (hn : ∀ a, x.p = some a → a.block ∉ bs) : PB w' x :=
  ⟨⟨h.ok.sl.fr hf hn, fun a ha => by have := h.ok.old a ha; have := hf.size; omega, h.ok.capb, h.ok.lenb, h.ok.byt⟩,
   fun a ha => by obtain ⟨cur, fr, hr⟩ := h.row a ha; exact ⟨cur, fr, hf.row hr (hn a ha)⟩⟩
theorem PB.fr0 {w w' : World} {x : Pt} (h : PB w x) (hf : Fr [] w w') : PB w' x := h.frs hf fun _ _ => by simp
theorem pb_new (w : World) (s : ByteArray) (h : s.size ≤ maxLen) : PB (Lib.bytesWorld w 5 s) (strPt w 5 s) :=
  ⟨strPt_ok _ _ _ h, fun a ha => by cases ha; exact ⟨_, _, Lib.bytesWorld_at_new w 5 s⟩⟩
theorem fr_grown {w w' : World} {v : Value} (hg : w.grownBy w' v.ownBlock) : Fr v.ownBlock.toList w w' :=
  ⟨hg.os, hg.tape, hg.output, hg.size, fun k hk hn => hg.block k hk (by intro hc; apply hn; rw [← hc]; simp)⟩
theorem own_other {w : World} {b n size : Nat} {e : TypeId} {v : Value} {xs : List Value} (ho : w.ownsRow b e size v n xs) {k : Nat} {cur : Array Value} {t : TypeId} {fr : Nat × Nat} (hk : w.heap[k]? = some (.cells cur t fr)) (ht : t ≠ e) : k ∉ v.ownBlock.toList := by
  rcases ho.2 with ⟨rfl, _⟩ | ⟨g, cap, cur', rfl, hb, hrow, _⟩
  · simp [Value.ownBlock]
  · intro hc
    simp [Value.ownBlock] at hc
    subst hc
    rw [hk] at hrow
    cases hrow
    exact ht rfl
theorem ownsRow_frs {bs : List Nat} {w w' : World} {b n size : Nat} {e : TypeId} {v : Value} {xs : List Value} (h : w.ownsRow b e size v n xs) (hf : Fr bs w w') (hn : ∀ g cur, w.heap[g]? = some (.cells cur e (0, 0)) → g ∉ bs) : w'.ownsRow b e size v n xs := by
  refine ⟨h.1, ?_⟩
  rcases h.2 with h | ⟨g, cap, cur, hv, hb, hg, hr⟩
  · exact Or.inl h
  · exact Or.inr ⟨g, cap, cur, hv, hb, hf.row hg (hn g cur hg), hr⟩
/-- What stands at a round's head: the hash on its way, and the parts. -/
structure CutInv (w W : World) (hb k : Nat) (v : Value) (cs : List Value) (D : List Nat) (ps : List Pt) : Prop where
  rep : HRep cs D
  cell : W.heap[hb]? = some (.cells cs.toArray 38 (0, 0))
  own : W.ownsRow w.heap.size 26 1 v k (ps.map Pt.v)
  pb : ∀ x ∈ ps, PB W x
  fr : Fr [] w W
theorem CutInv.fr0 {w W W' : World} {hb k : Nat} {v : Value} {cs : List Value} {D : List Nat} {ps : List Pt} (I : CutInv w W hb k v cs D ps) (h : Fr [] W W') : CutInv w W' hb k v cs D ps :=
  ⟨I.rep, h.row I.cell (by simp), ownsRow_fr I.own h, fun x hx => (I.pb x hx).fr0 h, I.fr.trans0 h⟩
theorem CutInv.wrote {w W W' : World} {hb k : Nat} {v : Value} {cs cs2 : List Value} {D D2 : List Nat} {ps : List Pt} (I : CutInv w W hb k v cs D ps) (h : Fr [hb] W W') (hh : w.heap.size ≤ hb) (hr : HRep cs2 D2)
    (hc : W'.heap[hb]? = some (.cells cs2.toArray 38 (0, 0))) : CutInv w W' hb k v cs2 D2 ps :=
  ⟨hr, hc, ownsRow_frs I.own h (fun g cur hg => by
    intro hm; simp at hm; subst hm; rw [I.cell] at hg; revert hg; simp), fun x hx => (I.pb x hx).frs h (fun a ha => by
    obtain ⟨cur, fr, hr⟩ := (I.pb x hx).row a ha
    intro hm; simp at hm; rw [hm, I.cell] at hr; revert hr; simp), I.fr.trans1 h (.inr hh)⟩
theorem CutInv.appended {w W W' : World} {hb k : Nat} {v v' : Value} {cs : List Value} {D : List Nat} {ps : List Pt} (I : CutInv w W hb k v cs D ps) (x : Pt) (hx : PB W x) (h : Fr v.ownBlock.toList W W') (hF : Fr [] w W')
    (ho : W'.ownsRow w.heap.size 26 1 v' (k + 1) (ps.map Pt.v ++ [x.v])) : CutInv w W' hb (k + 1) v' cs D (ps ++ [x]) := by
  have hp : ∀ y, PB W y → PB W' y := fun y hy => hy.frs h (fun a ha => by
    obtain ⟨cur, fr, hr⟩ := hy.row a ha
    exact own_other I.own hr (by decide))
  refine ⟨I.rep, h.row I.cell (own_other I.own I.cell (by decide)), by rw [List.map_append]; exact ho, fun y hy => ?_, hF⟩
  rcases List.mem_append.1 hy with hy | hy
  · exact hp y (I.pb y hy)
  · simp at hy; subst hy; exact hp y hx
theorem cat_snoc (ps : List Pt) (x : Pt) : cat (ps ++ [x]) = cat ps ++ x.d := by simp [cat]
theorem conv2 (w : World) (s : ByteArray) : (convert 9 26 (.string s)).run Try.prog w = .ok (.slice (strPt w 5 s).p (strPt w 5 s).len (strPt w 5 s).cap) (Lib.bytesWorld w 5 s) := conv w s
/-- 'Join' of the parts. -/
theorem joinL {w W : World} {hb k : Nat} {v : Value} {cs : List Value} {D : List Nat} {ps : List Pt} (I : CutInv w W hb k v cs D ps) (hk : k ≤ 1000000) (hN : (cat ps).length ≤ 900000000) :
    Calls Try.prog 16 #[v] W fun e w' => e = .returned (.agg (u8s (Sha.sum (cat ps))).toArray) ∧ Fr [] W w' := by
  have hl : k = ps.length := by have := I.own.1; simpa using this.symm
  have hcell := fun (p : Option Addr) (l c : Nat) (hv : v = .slice p l c) (j : Nat) (u : Value) => ownsRow_cell (p := p) (l := l) (c := c) (hv ▸ I.own) j u
  rcases I.own.2 with ⟨rfl, h0⟩ | ⟨g, cap, cur, rfl, hbg, hrow, _⟩
  · refine join W none 0 0 ps ?_ (by omega) (fun h => absurd h (by omega)) (fun x hx => (I.pb x hx).ok) hN
    omega
  · refine join W (some ⟨g, 0, none⟩) k cap ps hl hk (fun h => ⟨g, 0, rfl, row_lt hrow, fun i x hx => ?_⟩) (fun x hx => (I.pb x hx).ok) hN
    obtain ⟨_, _, _, g', hg', _, _, hc⟩ := hcell _ _ _ rfl i x.v (by rw [List.getElem?_map, hx]; rfl)
    cases hg'
    rw [Nat.zero_add]; exact hc
theorem infoS : (Try.prog.info? 26).map (fun i => (i.zero, i.size, i.bytes)) = some (some (.slice none 0 0), 1, 24) := by kernel_rfl
/-- what 'append' of one part asks of the program. -/
theorem appS {ops : Array Oper} {rest : List Oper} {o : Oper} {a : Act} {w : World} {Q : Exit → Act → World → Prop} (hgd : o.guard = none) (s x : Operand)
    (ho : o.op = .call { callee := .builtin .append, args := #[s, x], argTypes := #[40, 40] })
    (w0 : World) (v : Value) (n : Nat) (xs : List Value) (y : Value) (hy : y.oneCell' = true) (hs : a.eval s = v) (hx : a.eval x = .slice (some ⟨w.heap.size, 0, none⟩) 1 1)
    (hown : w.ownsRow w0.heap.size 26 1 v n xs) (hF : Fr [] w0 w) (hn : n < 1000000)
    (h : ∀ g cap w', w'.ownsRow w0.heap.size 26 1 (.slice (some ⟨g, 0, none⟩) (n + 1) cap) (n + 1) (xs ++ [y]) → Fr [] w0 w' → Fr v.ownBlock.toList w w' → wpList Try.prog ops Q rest (a.put o.dst (.slice (some ⟨g, 0, none⟩) (n + 1) cap)) w') : wpList Try.prog ops Q (o :: rest) a (w.alloc (.cells #[y] 26)) := by
  obtain ⟨i, hi, hz0, hz1, hz2⟩ := info_parts infoS
  refine wpList_append_lies (w.alloc _) hgd s x _ ho w0.heap.size 26 i (.slice none 0 0) 1 24 Try.underlying40 hi hz0 hz1 hz2 rfl (by decide) v n xs hs (ownsRow_fr hown ((Fr.refl _ _).alloc _)) _ 1 1 [y] hx rfl (cell_one_new w _ _) (by simpa using hy) (by decide) (by unfold maxLen; omega) (by omega) (Nat.le_trans hF.size (by simp)) _ rfl ?_
  intro g cap w' h1 h2 _ _
  exact h _ _ _ h1 ((hF.alloc _).grown (ownsRow_fr hown ((Fr.refl _ _).alloc _)) h2) (((Fr.refl _ _).alloc _).trans (fr_grown h2) (fun y hy => .inl hy))
end Go.Proofs.Ytanegflohbgkdaa
