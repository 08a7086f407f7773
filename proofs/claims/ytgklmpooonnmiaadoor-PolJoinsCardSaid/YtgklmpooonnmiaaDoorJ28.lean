/-
  Lemmas and contracts that the proofs over this seat use (PolRepF, PolRsA); no statement of the seat is claimed in this text, and nothing is assumed in it.
-/
import Derived.Test.YtgklmpooonnmiaaDoorJ19
set_option linter.unusedVariables false
set_option linter.unusedSimpArgs false
namespace Go.Proofs.YtgklmpooonnmiaaDoor
open Go.RowKit
def Five (w : World) (a : Addr) (cs : List Value) : Prop :=
 ∃ v0 v1 v2 v3 v4, cs = [v0, v1, v2, v3, v4] ∧ w.cell? a = some v0 ∧ w.cell? ⟨a.block, a.off + 1, none⟩ = some v1 ∧ w.cell? ⟨a.block, a.off + 2, none⟩ = some v2 ∧ w.cell? ⟨a.block, a.off + 3, none⟩ = some v3 ∧ w.cell? ⟨a.block, a.off + 4, none⟩ = some v4
theorem Five.fr {w w' : World} {a : Addr} {cs : List Value} (h : Five w a cs) (hF : Fr [] w w') : Five w' a cs := by
 obtain ⟨v0, v1, v2, v3, v4, rfl, h0, h1, h2, h3, h4⟩ := h
 exact ⟨_, _, _, _, _, rfl, hF.cells h0, hF.cells h1, hF.cells h2, hF.cells h3, hF.cells h4⟩
inductive RepA (w : World) : List Value → Ex → Prop
 | mk (op : Int) (s : ByteArray) (n : Int) (L : List Ex) (p : Int) (q : Option Addr) (c : Nat) (f : Nat → List Value) (hc : L.length ≤ c) (hm : c ≤ maxLen)
   (hr : ∀ i x, L[i]? = some x → ∃ ad, q = some ad ∧ Five w (ad.add (i * 5)) (f i))
   (hx : ∀ i x, L[i]? = some x → RepA w (f i) x) : RepA w [.int .i64 op, .string s, .int .i64 n, .slice q L.length c, .int .i64 p] (.mk op s n L p)
theorem RepA.fr {w w' : World} (hF : Fr [] w w') {cs : List Value} {e : Ex} (h : RepA w cs e) : RepA w' cs e := by
 induction h with
 | mk op s n L p q c f hc hm hr hx ih =>
  refine .mk op s n L p q c f hc hm (fun i x hi => ?_) (fun i x hi => ih i x hi)
  obtain ⟨ad, hq, h5⟩ := hr i x hi
  exact ⟨ad, hq, h5.fr hF⟩
theorem Rep.any {w : World} {D : Nat → Prop} {cs : List Value} {e : Ex} (h : Rep w D cs e) : RepA w cs e := by
 induction h with
 | mk op s n L p q c f hc hm hr hx ih =>
  refine .mk op s n L p q c f hc hm (fun i x hi => ?_) (fun i x hi => ih i x hi)
  obtain ⟨g, hq, hg, hd, hrange⟩ := hr i x hi
  obtain ⟨op1, s1, n1, q1, k1, c1, p1, hcs⟩ := (hx i x hi).form
  have hadd : (⟨g, 0, none⟩ : Addr).add (i * 5) = ⟨g, 5 * i, none⟩ := by unfold Addr.add; split <;> simp_all <;> omega
  rw [hcs] at hrange
  refine ⟨⟨g, 0, none⟩, hq, ?_⟩
  rw [hadd, hcs]
  exact ⟨_, _, _, _, _, rfl, by simpa using hrange 0 _ rfl, hrange 1 _ rfl, hrange 2 _ rfl, hrange 3 _ rfl, hrange 4 _ rfl⟩
theorem RepA.form {w : World} {cs : List Value} {x : Ex} (h : RepA w cs x) : ∃ (op : Int) (s : ByteArray) (n : Int) (q : Option Addr) (k c : Nat) (p : Int), cs = [.int .i64 op, .string s, .int .i64 n, .slice q k c, .int .i64 p] := by
 cases h
 exact ⟨_, _, _, _, _, _, _, rfl⟩
structure LA (w : World) (q : Option Addr) (c : Nat) (f : Nat → List Value) (L : List Ex) : Prop where
 hc : L.length ≤ c
 hm : c ≤ maxLen
 hr : ∀ i x, L[i]? = some x → ∃ ad, q = some ad ∧ Five w (ad.add (i * 5)) (f i)
 hx : ∀ i x, L[i]? = some x → RepA w (f i) x
theorem LA.fr {w w' : World} {q : Option Addr} {c : Nat} {f : Nat → List Value} {L : List Ex} (h : LA w q c f L) (hF : Fr [] w w') : LA w' q c f L :=
 ⟨h.hc, h.hm, fun i x hi => by obtain ⟨ad, hq, h5⟩ := h.hr i x hi; exact ⟨ad, hq, h5.fr hF⟩, fun i x hi => (h.hx i x hi).fr hF⟩
mutual
def Ex.same (pl : Bool) : Ex → Ex → Bool
 | .mk op s n L p, .mk op' s' n' L' p' => op == op' && (s.toList == s'.toList) && n == n' && (!pl || p == p') && Ex.sames pl L L'
def Ex.sames (pl : Bool) : List Ex → List Ex → Bool
 | [], [] => true
 | x :: l, y :: m => Ex.same pl x y && Ex.sames pl l m
 | _, _ => false
end
theorem Ex.sames_len {pl : Bool} : ∀ {L M : List Ex}, L.length ≠ M.length → Ex.sames pl L M = false
 | [], [], h => absurd rfl h
 | [], _ :: _, _ => by simp [Ex.sames]
 | _ :: _, [], _ => by simp [Ex.sames]
 | x :: l, y :: m, h => by
  rw [Ex.sames, Ex.sames_len (L := l) (M := m) (by simpa using h), Bool.and_false]
theorem Ex.sames_drop {pl : Bool} {L M : List Ex} {k : Nat} {x y : Ex} (hx : L[k]? = some x) (hy : M[k]? = some y) : Ex.sames pl (L.drop k) (M.drop k) = (Ex.same pl x y && Ex.sames pl (L.drop (k + 1)) (M.drop (k + 1))) := by
 obtain ⟨h1, rfl⟩ := List.getElem?_eq_some_iff.1 hx
 obtain ⟨h2, rfl⟩ := List.getElem?_eq_some_iff.1 hy
 rw [List.drop_eq_getElem_cons h1, List.drop_eq_getElem_cons h2, Ex.sames]
theorem Ex.sames_end {pl : Bool} {L M : List Ex} {k : Nat} (h1 : L.length ≤ k) (h2 : M.length ≤ k) : Ex.sames pl (L.drop k) (M.drop k) = true := by
 rw [List.drop_eq_nil_of_le h1, List.drop_eq_nil_of_le h2, Ex.sames]
theorem agg5 (v0 v1 v2 v3 v4 : Value) : [v0, v1, v2, v3, v4].toArray = #[v0, v1, v2, v3, v4] := rfl
end Go.Proofs.YtgklmpooonnmiaaDoor

namespace Go.Proofs.YtgklmpooonnmiaaDoor
open Go.RowKit
structure SA (w : World) (q : Option Addr) (c : Nat) (A : List ByteArray) : Prop where
 hc : A.length ≤ c
 hm : c ≤ maxLen
 hr : ∀ (j : Nat) (s : ByteArray), A[j]? = some s → ∃ b o, q = some ⟨b, o, none⟩ ∧ w.cell? ⟨b, o + j, none⟩ = some (.string s)
theorem SA.fr {w w' : World} {q : Option Addr} {c : Nat} {A : List ByteArray} (h : SA w q c A) (hF : Fr [] w w') : SA w' q c A :=
 ⟨h.hc, h.hm, fun j s hj => by obtain ⟨b, o, hq, h5⟩ := h.hr j s hj; exact ⟨b, o, hq, hF.cells h5⟩⟩
theorem SA.cells {w : World} {q : Option Addr} {c : Nat} {A : List ByteArray} (h : SA w q c A) (hp : 0 < A.length) : ∃ b o, q = some ⟨b, o, none⟩ ∧ ∀ j, j < A.length → w.cell? ⟨b, o + j, none⟩ = some (.string (A.getD j ByteArray.empty)) := by
 obtain ⟨b, o, hq, _⟩ := h.hr 0 A[0] (List.getElem?_eq_getElem hp)
 refine ⟨b, o, hq, fun j hj => ?_⟩
 obtain ⟨b', o', hq', hc⟩ := h.hr j A[j] (List.getElem?_eq_getElem hj)
 rw [hq] at hq'
 cases hq'
 rw [hc]
 simp [List.getD, List.getElem?_eq_getElem hj]
def Ru.same (pl : Bool) (u v : Ru) : Bool := u.deny == v.deny && (!pl || u.p == v.p) && decide (u.scopes = v.scopes) && Ex.sames pl u.when_ v.when_
structure RuA (w : World) (cs : List Value) (u : Ru) (q1 : Option Addr) (c1 : Nat) (q2 : Option Addr) (c2 : Nat) (f : Nat → List Value) : Prop where
 e : cs = [.bool u.deny, .slice q1 u.scopes.length c1, .slice q2 u.when_.length c2, .int .i64 u.p]
 s : SA w q1 c1 u.scopes
 l : LA w q2 c2 f u.when_
theorem RuA.fr {w w' : World} {cs : List Value} {u : Ru} {q1 : Option Addr} {c1 : Nat} {q2 : Option Addr} {c2 : Nat} {f : Nat → List Value} (h : RuA w cs u q1 c1 q2 c2 f) (hF : Fr [] w w') : RuA w' cs u q1 c1 q2 c2 f := ⟨h.e, h.s.fr hF, h.l.fr hF⟩
def Four (w : World) (a : Addr) (cs : List Value) : Prop :=
 ∃ v0 v1 v2 v3, cs = [v0, v1, v2, v3] ∧ w.cell? a = some v0 ∧ w.cell? ⟨a.block, a.off + 1, none⟩ = some v1 ∧ w.cell? ⟨a.block, a.off + 2, none⟩ = some v2 ∧ w.cell? ⟨a.block, a.off + 3, none⟩ = some v3
theorem Four.fr {w w' : World} {a : Addr} {cs : List Value} (h : Four w a cs) (hF : Fr [] w w') : Four w' a cs := by
 obtain ⟨v0, v1, v2, v3, rfl, h0, h1, h2, h3⟩ := h
 exact ⟨_, _, _, _, rfl, hF.cells h0, hF.cells h1, hF.cells h2, hF.cells h3⟩
structure RsA (w : World) (q : Option Addr) (c : Nat) (f : Nat → List Value) (L : List Ru) : Prop where
 hc : L.length ≤ c
 hm : c ≤ maxLen
 hr : ∀ i x, L[i]? = some x → ∃ ad, q = some ad ∧ Four w (ad.add (i * 4)) (f i)
 hx : ∀ i x, L[i]? = some x → ∃ q1 c1 q2 c2 g, RuA w (f i) x q1 c1 q2 c2 g
theorem RsA.fr {w w' : World} {q : Option Addr} {c : Nat} {f : Nat → List Value} {L : List Ru} (h : RsA w q c f L) (hF : Fr [] w w') : RsA w' q c f L :=
 ⟨h.hc, h.hm, fun i x hi => by obtain ⟨ad, hq, h5⟩ := h.hr i x hi; exact ⟨ad, hq, h5.fr hF⟩, fun i x hi => by obtain ⟨q1, c1, q2, c2, g, h5⟩ := h.hx i x hi; exact ⟨q1, c1, q2, c2, g, h5.fr hF⟩⟩
def Ru.sames (pl : Bool) : List Ru → List Ru → Bool
 | [], [] => true
 | x :: l, y :: m => Ru.same pl x y && Ru.sames pl l m
 | _, _ => false
theorem Ru.sames_len {pl : Bool} : ∀ {L M : List Ru}, L.length ≠ M.length → Ru.sames pl L M = false
 | [], [], h => absurd rfl h
 | [], _ :: _, _ => by simp [Ru.sames]
 | _ :: _, [], _ => by simp [Ru.sames]
 | x :: l, y :: m, h => by
  rw [Ru.sames, Ru.sames_len (L := l) (M := m) (by simpa using h), Bool.and_false]
theorem Ru.sames_drop {pl : Bool} {L M : List Ru} {k : Nat} {x y : Ru} (hx : L[k]? = some x) (hy : M[k]? = some y) : Ru.sames pl (L.drop k) (M.drop k) = (Ru.same pl x y && Ru.sames pl (L.drop (k + 1)) (M.drop (k + 1))) := by
 obtain ⟨h1, rfl⟩ := List.getElem?_eq_some_iff.1 hx
 obtain ⟨h2, rfl⟩ := List.getElem?_eq_some_iff.1 hy
 rw [List.drop_eq_getElem_cons h1, List.drop_eq_getElem_cons h2, Ru.sames]
theorem Ru.sames_end {pl : Bool} {L M : List Ru} {k : Nat} (h1 : L.length ≤ k) (h2 : M.length ≤ k) : Ru.sames pl (L.drop k) (M.drop k) = true := by
 rw [List.drop_eq_nil_of_le h1, List.drop_eq_nil_of_le h2, Ru.sames]
end Go.Proofs.YtgklmpooonnmiaaDoor
