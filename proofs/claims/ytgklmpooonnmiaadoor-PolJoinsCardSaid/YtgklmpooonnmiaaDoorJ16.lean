/-
  Lemmas and contracts that the proofs over this seat use (PolRep, PolEnd); no statement of the seat is claimed in this text, and nothing is assumed in it.
-/
import Derived.Test.YtgklmpooonnmiaaDoorJ15
set_option linter.unusedVariables false
set_option linter.unusedSimpArgs false
namespace Go.Proofs.YtgklmpooonnmiaaDoor
open Go.RowKit
inductive Rep (w : World) (D : Nat → Prop) : List Value → Ex → Prop
 | mk (op : Int) (s : ByteArray) (n : Int) (L : List Ex) (p : Int) (q : Option Addr) (c : Nat) (f : Nat → List Value) (hc : L.length ≤ c) (hm : c ≤ maxLen)
   (hr : ∀ i x, L[i]? = some x → ∃ g, q = some ⟨g, 0, none⟩ ∧ g < w.heap.size ∧ D g ∧ w.rangeAt g (5 * i) (f i))
   (hx : ∀ i x, L[i]? = some x → Rep w D (f i) x) : Rep w D [.int .i64 op, .string s, .int .i64 n, .slice q L.length c, .int .i64 p] (.mk op s n L p)
theorem Rep.fr {bs : List Nat} {w w' : World} {D : Nat → Prop} (hf : Fr bs w w') (hb : ∀ y ∈ bs, y < w.heap.size → ¬ D y) {cs : List Value} {e : Ex} (h : Rep w D cs e) : Rep w' D cs e := by
 induction h with
 | mk op s n L p q c f hc hm hr hx ih =>
  refine .mk op s n L p q c f hc hm (fun i x hi => ?_) (fun i x hi => ih i x hi)
  obtain ⟨g, rfl, hg, hne, hr⟩ := hr i x hi
  have hn : g ∉ bs := fun hm => hb g hm hg hne
  exact ⟨g, rfl, Nat.lt_of_lt_of_le hg hf.size, hne, fun j v hj => (hf.cell (p := ⟨g, _, none⟩) hg hn).trans (hr j v hj)⟩
theorem Rep.mono {w : World} {D E : Nat → Prop} (hd : ∀ g, g < w.heap.size → D g → E g) {cs : List Value} {e : Ex} (h : Rep w D cs e) : Rep w E cs e := by
 induction h with
 | mk op s n L p q c f hc hm hr hx ih =>
  refine .mk op s n L p q c f hc hm (fun i x hi => ?_) (fun i x hi => ih i x hi)
  obtain ⟨g, rfl, hg, hne, hr⟩ := hr i x hi
  exact ⟨g, rfl, hg, hd g hg hne, hr⟩
theorem Rep.len {w : World} {D : Nat → Prop} {cs : List Value} {e : Ex} (h : Rep w D cs e) : cs.length = 5 := by cases h; rfl
theorem Rep.one {w : World} {D : Nat → Prop} {cs : List Value} {e : Ex} (h : Rep w D cs e) : ∀ v ∈ cs, v.oneCell' = true := by
 cases h
 intro v hv
 simp only [List.mem_cons, List.not_mem_nil, or_false] at hv
 rcases hv with rfl | rfl | rfl | rfl | rfl <;> rfl
theorem Rep.leaf (w : World) (D : Nat → Prop) (op : Int) (s : ByteArray) (n p : Int) : Rep w D [.int .i64 op, .string s, .int .i64 n, .slice none 0 0, .int .i64 p] (.mk op s n [] p) :=
 .mk op s n [] p none 0 (fun _ => []) (Nat.le_refl _) (by decide) (fun i x hi => by simp at hi) (fun i x hi => by simp at hi)
theorem flat_at : ∀ (css : List (List Value)), (∀ (i : Nat) (cs : List Value), css[i]? = some cs → cs.length = 5) → ∀ (i : Nat) (cs : List Value) (j : Nat) (v : Value), css[i]? = some cs → cs[j]? = some v → css.flatten[5 * i + j]? = some v := by
 intro css
 induction css with
 | nil => intro _ i cs j v hi; simp at hi
 | cons a r ih =>
  intro h i cs j v hi hj
  have ha := h 0 a rfl
  cases i with
  | zero =>
   simp at hi; subst hi
   have := (List.getElem?_eq_some_iff.1 hj).1
   rw [List.flatten_cons, List.getElem?_append_left (by omega)]
   simpa using hj
  | succ i =>
   rw [List.flatten_cons, List.getElem?_append_right (by omega), ha, show 5 * (i + 1) + j - 5 = 5 * i + j by omega]
   exact ih (fun k cs hk => h (k + 1) cs (by simpa using hk)) i cs j v (by simpa using hi) hj
theorem Rep.of_row {w : World} {D : Nat → Prop} (op : Int) (s : ByteArray) (n : Int) (p : Int) (L : List Ex) (css : List (List Value)) (g : Nat) (hgr : D g) (t : TypeId) (c : Nat) (hlen : css.length = L.length)
  (hrow : w.heap[g]? = some (.cells css.flatten.toArray t (0, 0))) (hc : L.length ≤ c) (hm : c ≤ maxLen) (hx : ∀ (i : Nat) (x : Ex) (cs : List Value), L[i]? = some x → css[i]? = some cs → Rep w D cs x) :
  Rep w D [.int .i64 op, .string s, .int .i64 n, .slice (some ⟨g, 0, none⟩) L.length c, .int .i64 p] (.mk op s n L p) := by
 have h5 : ∀ (i : Nat) (cs : List Value), css[i]? = some cs → cs.length = 5 := fun i cs hi => by
  obtain ⟨h1, rfl⟩ := List.getElem?_eq_some_iff.1 hi
  exact (hx i _ _ (List.getElem?_eq_getElem (by omega)) hi).len
 have hat := flat_at
 refine .mk op s n L p _ c (fun i => css.getD i []) hc hm (fun i x hi => ⟨g, rfl, row_lt hrow, hgr, fun j v hv => ?_⟩) (fun i x hi => ?_)
 ·have hi2 : i < css.length := by have := (List.getElem?_eq_some_iff.1 hi).1; omega
  have e : css.getD i [] = css[i] := by simp [List.getD, List.getElem?_eq_getElem hi2]
  simp only [e] at hv
  rw [cell_of_row _ _ _ _ _ _ hrow, List.getElem?_toArray]
  exact hat css h5 i _ j v (List.getElem?_eq_getElem hi2) hv
 ·have hi2 : i < css.length := by have := (List.getElem?_eq_some_iff.1 hi).1; omega
  have e : css.getD i [] = css[i] := by simp [List.getD, List.getElem?_eq_getElem hi2]
  simp only [e]
  exact hx i x _ hi (List.getElem?_eq_getElem hi2)
end Go.Proofs.YtgklmpooonnmiaaDoor

namespace Go.Proofs.YtgklmpooonnmiaaDoor
open Go.RowKit
def Ends (l : List TI) : Prop := ∃ t, l.getLast? = some t ∧ t.k = 5
theorem Ends.tail {t : TI} {l : List TI} (h : Ends (t :: l)) (hk : t.k ≠ 5) : Ends l := by
 obtain ⟨u, hu, h0⟩ := h
 cases l with
 | nil => simp at hu; subst hu; exact absurd h0 hk
 | cons a r => exact ⟨u, by simpa [List.getLast?_cons_cons] using hu, h0⟩
theorem Ends.ne {l : List TI} (h : Ends l) : l ≠ [] := by rintro rfl; obtain ⟨t, ht, _⟩ := h; simp at ht
namespace Pol
theorem is_tail {l : List TI} {k : Int} {s : List UInt8} (h : is l k s = true) (hk : k ≠ 5) (hl : Ends l) : Ends l.tail := by
 cases l with
 | nil => exact absurd rfl hl.ne
 | cons t r =>
  simp only [is, Bool.and_eq_true, beq_iff_eq] at h
  exact hl.tail (by rw [h.1]; exact hk)
theorem must_ends {l m : List TI} {s : List UInt8} {u : Unit} (h : must l s = .ok (u, m)) (hl : Ends l) : Ends m := by
 unfold must at h
 split at h
 ·rename_i hi
  cases h
  exact is_tail hi (by decide) hl
 ·cases h
theorem take_ends {l m : List TI} {k : Int} {t : TI} (h : take l k = .ok (t, m)) (hk : k ≠ 5) (hl : Ends l) : Ends m := by
 unfold take at h
 split at h
 ·rename_i u r
  split at h
  ·rename_i hu
   cases h
   exact hl.tail (by rw [hu]; exact hk)
  ·cases h
 ·cases h
def Keeps {α : Type} (q : List TI → PR α) : Prop := ∀ l x m, q l = .ok (x, m) → Ends l → Ends m
theorem all_keep : ∀ f : Nat, (∀ n, Keeps (operand f n)) ∧ (∀ n, Keeps (compare f n)) ∧ (∀ n, Keeps (row f n)) ∧ (∀ n, Keeps (not_ f n)) ∧ (∀ n e, Keeps (andMore f n e)) ∧ (∀ n, Keeps (and_ f n)) ∧ (∀ n e, Keeps (orMore f n e)) ∧ (∀ n, Keeps (or_ f n)) := by
 intro f
 induction f with
 | zero => refine ⟨?_, ?_, ?_, ?_, ?_, ?_, ?_, ?_⟩ <;> (intros; intro l x m h; simp [operand, compare, row, not_, andMore, and_, orMore, or_] at h)
 | succ f ih =>
  obtain ⟨i1, i2, i3, i4, i5, i6, i7, i8⟩ := ih
  refine ⟨fun n l x m h hl => ?_, fun n l x m h hl => ?_, fun n l x m h hl => ?_, fun n l x m h hl => ?_, fun n e l x m h hl => ?_, fun n l x m h hl => ?_, fun n e l x m h hl => ?_, fun n l x m h hl => ?_⟩
  ·cases l with
   | nil => simp [operand] at h
   | cons t r =>
    rw [operand] at h
    split at h
    ·rename_i hi
     have h0 : Ends r := is_tail hi (by decide) hl
     split at h
     ·cases h
     ·split at h
      ·cases h
      ·rename_i y r1 hy
       split at h
       ·cases h
       ·rename_i u r2 hm
        cases h
        exact must_ends hm (i8 _ _ _ _ hy h0)
    ·split at h
     ·rename_i hk
      cases h
      exact hl.tail (by rw [hk]; decide)
     ·split at h
      ·rename_i hk
       cases h
       exact hl.tail (by rw [hk]; decide)
      ·split at h
       ·rename_i hi
        cases h
        exact is_tail hi (by decide) hl
       ·split at h
        ·rename_i hi
         cases h
         exact is_tail hi (by decide) hl
        ·split at h
         ·rename_i hi
          have h0 : Ends r := is_tail hi (by decide) hl
          split at h
          ·cases h
          ·rename_i u1 r1 h1
           split at h
           ·cases h
           ·rename_i u2 r2 h2
            split at h
            ·cases h
            ·rename_i u3 r3 h3
             cases h
             exact must_ends h3 (take_ends h2 (by decide) (must_ends h1 h0))
         ·split at h
          ·rename_i hk
           cases h
           exact hl.tail (by rw [hk.1]; decide)
          ·cases h
  ·rw [compare] at h
   split at h
   ·cases h
   ·cases h
   ·rename_i a t r ha
    have h0 := i1 _ _ _ _ ha hl
    split at h
    ·rename_i hk
     split at h
     ·cases h; exact h0
     ·split at h
      ·cases h
      ·rename_i b r2 hb
       cases h
       exact i1 _ _ _ _ hb (h0.tail (by rw [hk]; decide))
    ·split at h
     ·rename_i hi
      split at h
      ·cases h
      ·rename_i b r2 hb
       cases h
       exact i1 _ _ _ _ hb (is_tail hi (by decide) h0)
     ·split at h
      ·rename_i hi
       split at h
       ·cases h
       ·rename_i u r2 h2
        split at h
        ·cases h
        ·rename_i L r3 h3
         split at h
         ·cases h
         ·rename_i u4 r4 h4
          cases h
          exact must_ends h4 (i3 _ _ _ _ h3 (must_ends h2 (is_tail hi (by decide) h0)))
      ·cases h; exact h0
  ·rw [row] at h
   split at h
   ·cases h
   ·rename_i y r hy
    have h1 := i1 n _ _ _ hy hl
    split at h
    ·rename_i hi
     split at h
     ·cases h
     ·rename_i L r2 hr
      cases h
      exact i3 n _ _ _ hr (is_tail hi (by decide) h1)
    ·cases h; exact h1
  ·rw [not_] at h
   split at h
   ·rename_i hi
    split at h
    ·cases h
    ·split at h
     ·cases h
     ·rename_i y r hy
      cases h
      exact i4 _ _ _ _ hy (is_tail hi (by decide) hl)
   ·exact i2 n _ _ _ h hl
  ·rw [andMore] at h
   split at h
   ·rename_i hi
    split at h
    ·cases h
    ·rename_i y r hy
     exact i5 n _ _ _ _ h (i4 n _ _ _ hy (is_tail hi (by decide) hl))
   ·cases h; exact hl
  ·rw [and_] at h
   split at h
   ·cases h
   ·rename_i y r hy
    exact i5 n _ _ _ _ h (i4 n _ _ _ hy hl)
  ·rw [orMore] at h
   split at h
   ·rename_i hi
    split at h
    ·cases h
    ·rename_i y r hy
     exact i7 n _ _ _ _ h (i6 n _ _ _ hy (is_tail hi (by decide) hl))
   ·cases h; exact hl
  ·rw [or_] at h
   split at h
   ·cases h
   ·rename_i y r hy
    exact i7 n _ _ _ _ h (i6 n _ _ _ hy hl)
end Pol
end Go.Proofs.YtgklmpooonnmiaaDoor
