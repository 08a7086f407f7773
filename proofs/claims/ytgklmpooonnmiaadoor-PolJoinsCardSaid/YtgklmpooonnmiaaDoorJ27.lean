/-
  Lemmas and contracts that the proofs over this seat use (PolFed, PolRules); no statement of the seat is claimed in this text, and nothing is assumed in it.
-/
import Derived.Test.YtgklmpooonnmiaaDoorJ17
import Derived.Test.YtgklmpooonnmiaaDoorJ12
import Derived.Test.YtgklmpooonnmiaaDoorJ26
set_option linter.unusedVariables false
set_option linter.unusedSimpArgs false
namespace Go.Proofs.YtgklmpooonnmiaaDoor
namespace Pol
theorem must_fed (l : List TI) (s : List UInt8) : Fed (must l s) := by
 intro p h
 unfold must at h
 split at h
 ·cases h
 ·simp at h
theorem take_fed (l : List TI) (k : Int) : Fed (take l k) := by
 intro p h
 unfold take at h
 split at h
 ·split at h
  ·cases h
  ·simp at h
 ·simp at h
theorem all_fed : ∀ f : Nat, (∀ n l, 6 * l.length + 1 ≤ f → Fed (operand f n l)) ∧ (∀ n l, 6 * l.length + 2 ≤ f → Fed (compare f n l)) ∧ (∀ n l, 6 * l.length + 2 ≤ f → Fed (row f n l)) ∧ (∀ n l, 6 * l.length + 3 ≤ f → Fed (not_ f n l)) ∧
  (∀ n e l, 6 * l.length + 1 ≤ f → Fed (andMore f n e l)) ∧ (∀ n l, 6 * l.length + 4 ≤ f → Fed (and_ f n l)) ∧ (∀ n e l, 6 * l.length + 1 ≤ f → Fed (orMore f n e l)) ∧ (∀ n l, 6 * l.length + 5 ≤ f → Fed (or_ f n l)) := by
 intro f
 induction f with
 | zero => refine ⟨?_, ?_, ?_, ?_, ?_, ?_, ?_, ?_⟩ <;> (intros; omega)
 | succ f ih =>
  obtain ⟨i1, i2, i3, i4, i5, i6, i7, i8⟩ := ih
  obtain ⟨s1, s2, s3, s4, s5, s6, s7, s8⟩ := all_shrink f
  refine ⟨fun n l hf p h => ?_, fun n l hf p h => ?_, fun n l hf p h => ?_, fun n l hf p h => ?_, fun n e l hf p h => ?_, fun n l hf p h => ?_, fun n e l hf p h => ?_, fun n l hf p h => ?_⟩
  ·cases l with
   | nil => simp [operand] at h
   | cons t r =>
    rw [operand] at h
    simp only [List.length_cons] at hf
    split at h
    ·split at h
     ·simp at h
     ·split at h
      ·rename_i e hy; cases h; exact i8 _ _ (by omega) _ hy
      ·split at h
       ·rename_i e hm; cases h; exact must_fed _ _ _ hm
       ·cases h
    ·split at h
     ·cases h
     ·split at h
      ·cases h
      ·split at h
       ·cases h
       ·split at h
        ·cases h
        ·split at h
         ·split at h
          ·rename_i e hm; cases h; exact must_fed _ _ _ hm
          ·split at h
           ·rename_i e hm; cases h; exact take_fed _ _ _ hm
           ·split at h
            ·rename_i e hm; cases h; exact must_fed _ _ _ hm
            ·cases h
         ·split at h
          ·cases h
          ·simp at h
  ·rw [compare] at h
   split at h
   ·rename_i e hy; cases h; exact i1 _ _ (by omega) _ hy
   ·simp at h
   ·rename_i a t r ha
    have h0 := s1 _ _ _ _ ha
    simp only [List.length_cons] at h0
    split at h
    ·split at h
     ·cases h
     ·split at h
      ·rename_i e hy; cases h; exact i1 _ _ (by omega) _ hy
      ·cases h
    ·split at h
     ·split at h
      ·rename_i e hy; cases h; exact i1 _ _ (by omega) _ hy
      ·cases h
     ·split at h
      ·split at h
       ·rename_i e hm; cases h; exact must_fed _ _ _ hm
       ·rename_i u r2 h2
        have a1 := must_len h2
        split at h
        ·rename_i e hy; cases h; exact i3 _ _ (by omega) _ hy
        ·split at h
         ·rename_i e hm; cases h; exact must_fed _ _ _ hm
         ·cases h
      ·cases h
  ·rw [row] at h
   split at h
   ·rename_i e hy; cases h; exact i1 _ _ (by omega) _ hy
   ·rename_i y r hy
    have h1 := s1 n _ _ _ hy
    split at h
    ·rename_i hi
     have h3 := is_len hi
     split at h
     ·rename_i e hy; cases h; exact i3 _ _ (by omega) _ hy
     ·cases h
    ·cases h
  ·rw [not_] at h
   split at h
   ·rename_i hi
    have h3 := is_len hi
    split at h
    ·simp at h
    ·split at h
     ·rename_i e hy; cases h; exact i4 _ _ (by omega) _ hy
     ·cases h
   ·exact i2 n _ (by omega) _ h
  ·rw [andMore] at h
   split at h
   ·rename_i hi
    have h3 := is_len hi
    split at h
    ·rename_i e hy; cases h; exact i4 _ _ (by omega) _ hy
    ·rename_i y r hy
     have h1 := s4 n _ _ _ hy
     exact i5 n _ _ (by omega) _ h
   ·cases h
  ·rw [and_] at h
   split at h
   ·rename_i e hy; cases h; exact i4 _ _ (by omega) _ hy
   ·rename_i y r hy
    have h1 := s4 n _ _ _ hy
    exact i5 n _ _ (by omega) _ h
  ·rw [orMore] at h
   split at h
   ·rename_i hi
    have h3 := is_len hi
    split at h
    ·rename_i e hy; cases h; exact i6 _ _ (by omega) _ hy
    ·rename_i y r hy
     have h1 := s6 n _ _ _ hy
     exact i7 n _ _ (by omega) _ h
   ·cases h
  ·rw [or_] at h
   split at h
   ·rename_i e hy; cases h; exact i6 _ _ (by omega) _ hy
   ·rename_i y r hy
    have h1 := s6 n _ _ _ hy
    exact i7 n _ _ (by omega) _ h
end Pol
end Go.Proofs.YtgklmpooonnmiaaDoor

namespace Go.Proofs.YtgklmpooonnmiaaDoor
open Go.RowKit
namespace Pol
def NN (l : List TI) : Prop := ∀ t ∈ l, 0 ≤ t.p
theorem NN.tail {t : TI} {l : List TI} (h : NN (t :: l)) : NN l := fun u hu => h u (List.mem_cons_of_mem _ hu)
theorem NN.tl {l : List TI} (h : NN l) : NN l.tail := fun u hu => h u (List.mem_of_mem_tail hu)
theorem NN.place {l : List TI} (h : NN l) : 0 ≤ place l := by
 cases l with
 | nil => exact Int.le_refl _
 | cons t m => exact h t (by simp)
def Nat0 {α : Type} (q : List TI → PR α) : Prop := ∀ l, NN l → (∀ x m, q l = .ok (x, m) → NN m) ∧ (∀ p n, q l = .error (p, n) → 0 ≤ p ∧ 0 ≤ n)
theorem must_nat (s : List UInt8) : Nat0 (fun l => must l s) := fun l hl => by
 refine ⟨fun x m h => ?_, fun p n h => ?_⟩ <;> (simp only [must] at h; split at h <;> cases h)
 ·exact hl.tl
 ·exact ⟨hl.place, by decide⟩
theorem take_nat (k : Int) : Nat0 (fun l => take l k) := fun l hl => by
 refine ⟨fun x m h => ?_, fun p n h => ?_⟩
 ·cases l with
  | nil => simp [take] at h
  | cons t r => simp only [take] at h; split at h <;> cases h; exact hl.tail
 ·cases l with
  | nil => simp [take] at h; omega
  | cons t r => simp only [take] at h; split at h <;> cases h; exact ⟨hl _ (by simp), by decide⟩
theorem all_nat : ∀ f : Nat, (∀ n, Nat0 (operand f n)) ∧ (∀ n, Nat0 (compare f n)) ∧ (∀ n, Nat0 (row f n)) ∧ (∀ n, Nat0 (not_ f n)) ∧ (∀ n e, Nat0 (andMore f n e)) ∧ (∀ n, Nat0 (and_ f n)) ∧ (∀ n e, Nat0 (orMore f n e)) ∧ (∀ n, Nat0 (or_ f n)) := by
 intro f
 induction f with
 | zero =>
  refine ⟨?_, ?_, ?_, ?_, ?_, ?_, ?_, ?_⟩ <;> (intros; intro l hl; refine ⟨fun x m h => ?_, fun p n h => ?_⟩ <;> simp [operand, compare, row, not_, andMore, and_, orMore, or_] at h; obtain ⟨rfl, rfl⟩ := h; exact ⟨hl.place, by decide⟩)
 | succ f ih =>
  obtain ⟨i1, i2, i3, i4, i5, i6, i7, i8⟩ := ih
  refine ⟨fun n l hl => ?_, fun n l hl => ?_, fun n l hl => ?_, fun n l hl => ?_, fun n e l hl => ?_, fun n l hl => ?_, fun n e l hl => ?_, fun n l hl => ?_⟩
  ·cases l with
   | nil => refine ⟨fun x m h => ?_, fun p n h => ?_⟩ <;> simp [operand] at h; omega
   | cons t r =>
    have hp : 0 ≤ t.p := hl t (by simp)
    have hr := hl.tail
    rw [operand]
    split
    ·split
     ·refine ⟨fun x m h => (by cases h), fun p n h => ?_⟩; cases h; exact ⟨hp, by decide⟩
     ·have h8 := i8 (n + 1) r hr
      split
      ·rename_i e he; refine ⟨fun x m h => (by cases h), fun p n h => ?_⟩; cases h; exact h8.2 _ _ he
      ·rename_i x m hx
       have hm := must_nat [41] m (h8.1 _ _ hx)
       split
       ·rename_i e he; refine ⟨fun x m h => (by cases h), fun p n h => ?_⟩; cases h; exact hm.2 _ _ he
       ·rename_i u m2 hu; refine ⟨fun x m h => ?_, fun p n h => by cases h⟩; cases h; exact hm.1 _ _ hu
    ·split
     ·refine ⟨fun x m h => ?_, fun p n h => by cases h⟩; cases h; exact hr
     ·split
      ·refine ⟨fun x m h => ?_, fun p n h => by cases h⟩; cases h; exact hr
      ·split
       ·refine ⟨fun x m h => ?_, fun p n h => by cases h⟩; cases h; exact hr
       ·split
        ·refine ⟨fun x m h => ?_, fun p n h => by cases h⟩; cases h; exact hr
        ·split
         ·have h1 := must_nat [40] r hr
          split
          ·rename_i e he; refine ⟨fun x m h => (by cases h), fun p n h => ?_⟩; cases h; exact h1.2 _ _ he
          ·rename_i u m hu
           have h2 := take_nat 2 m (h1.1 _ _ hu)
           split
           ·rename_i e he; refine ⟨fun x m h => (by cases h), fun p n h => ?_⟩; cases h; exact h2.2 _ _ he
           ·rename_i u2 m2 hu2
            have h3 := must_nat [41] m2 (h2.1 _ _ hu2)
            split
            ·rename_i e he; refine ⟨fun x m h => (by cases h), fun p n h => ?_⟩; cases h; exact h3.2 _ _ he
            ·rename_i u3 m3 hu3; refine ⟨fun x m h => ?_, fun p n h => by cases h⟩; cases h; exact h3.1 _ _ hu3
         ·split
          ·refine ⟨fun x m h => ?_, fun p n h => by cases h⟩; cases h; exact hr
          ·refine ⟨fun x m h => (by cases h), fun p n h => ?_⟩; cases h; exact ⟨hp, by decide⟩
  ·have h1 := i1 n l hl
   rw [compare]
   split
   ·rename_i e he; refine ⟨fun x m h => (by cases h), fun p n h => ?_⟩; cases h; exact h1.2 _ _ he
   ·refine ⟨fun x m h => (by cases h), fun p n h => ?_⟩; cases h; exact ⟨by decide, by decide⟩
   ·rename_i a t r ha
    have hm0 := h1.1 _ _ ha
    have hr := hm0.tail
    have h2 := i1 n r hr
    split
    ·split
     ·refine ⟨fun x m h => ?_, fun p n h => by cases h⟩; cases h; exact hm0
     ·split
      ·rename_i e he; refine ⟨fun x m h => (by cases h), fun p n h => ?_⟩; cases h; exact h2.2 _ _ he
      ·rename_i b m2 hb; refine ⟨fun x m h => ?_, fun p n h => by cases h⟩; cases h; exact h2.1 _ _ hb
    ·split
     ·split
      ·rename_i e he; refine ⟨fun x m h => (by cases h), fun p n h => ?_⟩; cases h; exact h2.2 _ _ he
      ·rename_i b m2 hb; refine ⟨fun x m h => ?_, fun p n h => by cases h⟩; cases h; exact h2.1 _ _ hb
     ·split
      ·have h3 := must_nat [91] r hr
       split
       ·rename_i e he; refine ⟨fun x m h => (by cases h), fun p n h => ?_⟩; cases h; exact h3.2 _ _ he
       ·rename_i u m2 hu
        have h4 := i3 n m2 (h3.1 _ _ hu)
        split
        ·rename_i e he; refine ⟨fun x m h => (by cases h), fun p n h => ?_⟩; cases h; exact h4.2 _ _ he
        ·rename_i L m3 hL
         have h5 := must_nat [93] m3 (h4.1 _ _ hL)
         split
         ·rename_i e he; refine ⟨fun x m h => (by cases h), fun p n h => ?_⟩; cases h; exact h5.2 _ _ he
         ·rename_i u3 m4 hu3; refine ⟨fun x m h => ?_, fun p n h => by cases h⟩; cases h; exact h5.1 _ _ hu3
      ·refine ⟨fun x m h => ?_, fun p n h => by cases h⟩; cases h; exact hm0
  ·have h1 := i1 n l hl
   rw [row]
   split
   ·rename_i e he; refine ⟨fun x m h => (by cases h), fun p n h => ?_⟩; cases h; exact h1.2 _ _ he
   ·rename_i x m hx
    have hm := h1.1 _ _ hx
    split
    ·have h2 := i3 n m.tail hm.tl
     split
     ·rename_i e he; refine ⟨fun x m h => (by cases h), fun p n h => ?_⟩; cases h; exact h2.2 _ _ he
     ·rename_i L m2 hL; refine ⟨fun x m h => ?_, fun p n h => by cases h⟩; cases h; exact h2.1 _ _ hL
    ·refine ⟨fun x m h => ?_, fun p n h => by cases h⟩; cases h; exact hm
  ·rw [not_]
   split
   ·split
    ·refine ⟨fun x m h => (by cases h), fun p n h => ?_⟩; cases h; exact ⟨hl.place, by decide⟩
    ·have h2 := i4 (n + 1) l.tail hl.tl
     split
     ·rename_i e he; refine ⟨fun x m h => (by cases h), fun p n h => ?_⟩; cases h; exact h2.2 _ _ he
     ·rename_i x m hx; refine ⟨fun x m h => ?_, fun p n h => by cases h⟩; cases h; exact h2.1 _ _ hx
   ·exact i2 n l hl
  ·rw [andMore]
   split
   ·have h2 := i4 n l.tail hl.tl
    split
    ·rename_i e he; refine ⟨fun x m h => (by cases h), fun p n h => ?_⟩; cases h; exact h2.2 _ _ he
    ·rename_i x m hx; exact i5 _ _ _ (h2.1 _ _ hx)
   ·refine ⟨fun x m h => ?_, fun p n h => by cases h⟩; cases h; exact hl
  ·have h2 := i4 n l hl
   rw [and_]
   split
   ·rename_i e he; refine ⟨fun x m h => (by cases h), fun p n h => ?_⟩; cases h; exact h2.2 _ _ he
   ·rename_i x m hx; exact i5 _ _ _ (h2.1 _ _ hx)
  ·rw [orMore]
   split
   ·have h2 := i6 n l.tail hl.tl
    split
    ·rename_i e he; refine ⟨fun x m h => (by cases h), fun p n h => ?_⟩; cases h; exact h2.2 _ _ he
    ·rename_i x m hx; exact i7 _ _ _ (h2.1 _ _ hx)
   ·refine ⟨fun x m h => ?_, fun p n h => by cases h⟩; cases h; exact hl
  ·have h2 := i6 n l hl
   rw [or_]
   split
   ·rename_i e he; refine ⟨fun x m h => (by cases h), fun p n h => ?_⟩; cases h; exact h2.2 _ _ he
   ·rename_i x m hx; exact i7 _ _ _ (h2.1 _ _ hx)
theorem texts_nat : ∀ f, Nat0 (texts f) := by
 intro f
 induction f with
 | zero => intro l hl; refine ⟨fun x m h => ?_, fun p n h => ?_⟩ <;> simp [texts] at h; obtain ⟨rfl, rfl⟩ := h; exact ⟨hl.place, by decide⟩
 | succ f ih =>
  intro l hl
  have h1 := take_nat 2 l hl
  rw [texts]
  split
  ·rename_i e he; refine ⟨fun x m h => (by cases h), fun p n h => ?_⟩; cases h; exact h1.2 _ _ he
  ·rename_i x m hx
   have hm := h1.1 _ _ hx
   split
   ·have h2 := ih m.tail hm.tl
    split
    ·rename_i e he; refine ⟨fun x m h => (by cases h), fun p n h => ?_⟩; cases h; exact h2.2 _ _ he
    ·rename_i L m2 hL; refine ⟨fun x m h => ?_, fun p n h => by cases h⟩; cases h; exact h2.1 _ _ hL
   ·refine ⟨fun x m h => ?_, fun p n h => by cases h⟩; cases h; exact hm
theorem rule_nat (f : Nat) : Nat0 (rule f) := by
 intro l hl
 unfold rule
 split
 ·unfold ruleTail
  have h1 : (∀ x m, scopesOf f l.tail = .ok (x, m) → NN m) ∧ (∀ p n, scopesOf f l.tail = .error (p, n) → 0 ≤ p ∧ 0 ≤ n) := by
   unfold scopesOf
   split
   ·exact texts_nat f _ hl.tl.tl
   ·refine ⟨fun x m h => ?_, fun p n h => by cases h⟩; cases h; exact hl.tl
  split
  ·rename_i e he; refine ⟨fun x m h => (by cases h), fun p n h => ?_⟩; cases h; exact h1.2 _ _ he
  ·rename_i S m hS
   have hm := h1.1 _ _ hS
   unfold ruleWhen
   have h2 : (∀ x m', whenOf f m = .ok (x, m') → NN m') ∧ (∀ p n, whenOf f m = .error (p, n) → 0 ≤ p ∧ 0 ≤ n) := by
    unfold whenOf
    split
    ·have h3 := (all_nat f).2.2.2.2.2.2.2 0 m.tail hm.tl
     split
     ·rename_i e he; refine ⟨fun x m h => (by cases h), fun p n h => ?_⟩; cases h; exact h3.2 _ _ he
     ·rename_i x m2 hx; refine ⟨fun x m h => ?_, fun p n h => by cases h⟩; cases h; exact h3.1 _ _ hx
    ·refine ⟨fun x m h => ?_, fun p n h => by cases h⟩; cases h; exact hm
   split
   ·rename_i e he; refine ⟨fun x m h => (by cases h), fun p n h => ?_⟩; cases h; exact h2.2 _ _ he
   ·rename_i W m2 hW
    have h3 := must_nat [59] m2 (h2.1 _ _ hW)
    split
    ·rename_i e he; refine ⟨fun x m h => (by cases h), fun p n h => ?_⟩; cases h; exact h3.2 _ _ he
    ·rename_i u m3 hu; refine ⟨fun x m h => ?_, fun p n h => by cases h⟩; cases h; exact h3.1 _ _ hu
 ·refine ⟨fun x m h => (by cases h), fun p n h => ?_⟩; cases h; exact ⟨hl.place, by decide⟩
theorem texts_shrink {f : Nat} : ∀ {l m : List TI} {A : List ByteArray}, texts f l = .ok (A, m) → m.length < l.length := by
 induction f with
 | zero => intro l m A h; simp [texts] at h
 | succ f ih =>
  intro l m A h
  rw [texts] at h
  split at h
  ·cases h
  ·rename_i t m1 ht
   have h1 := take_len ht
   split at h
   ·rename_i hi
    have h2 := is_len hi
    split at h
    ·cases h
    ·rename_i L m2 hr
     cases h
     have := ih hr
     omega
   ·cases h; omega
theorem texts_fed {f : Nat} : ∀ {l : List TI}, l.length + 1 ≤ f → Fed (texts f l) := by
 induction f with
 | zero => intro l h; omega
 | succ f ih =>
  intro l hf p h
  rw [texts] at h
  split at h
  ·rename_i e he; cases h; exact take_fed _ _ _ he
  ·rename_i t m1 ht
   have h1 := take_len ht
   split at h
   ·rename_i hi
    have h2 := is_len hi
    split at h
    ·rename_i e he; cases h; exact ih (by omega) _ he
    ·cases h
   ·cases h
theorem scopes_len {f : Nat} {l m : List TI} {A : List ByteArray} (h : scopesOf f l = .ok (A, m)) : m.length ≤ l.length ∧ (Ends l → Ends m) := by
 unfold scopesOf at h
 split at h
 ·rename_i hi
  have h1 := is_len hi
  have h2 := texts_shrink h
  exact ⟨by omega, fun hE => texts_ends h (is_tail hi (by decide) hE)⟩
 ·cases h; exact ⟨Nat.le_refl _, id⟩
theorem when_len {f : Nat} {l m : List TI} {W : List Ex} (h : whenOf f l = .ok (W, m)) : m.length ≤ l.length ∧ (Ends l → Ends m) := by
 unfold whenOf at h
 split at h
 ·rename_i hi
  have h1 := is_len hi
  split at h
  ·cases h
  ·rename_i x m2 hx
   cases h
   have h2 : m.length < l.tail.length := (all_shrink f).2.2.2.2.2.2.2 0 _ _ _ hx
   exact ⟨by omega, fun hE => (all_keep f).2.2.2.2.2.2.2 0 _ _ _ hx (is_tail hi (by decide) hE)⟩
 ·cases h; exact ⟨Nat.le_refl _, id⟩
theorem scopes_fed {f : Nat} {l : List TI} (hf : l.length + 1 ≤ f) : Fed (scopesOf f l) := by
 intro p h
 unfold scopesOf at h
 split at h
 ·rename_i hi; have h1 := is_len hi; exact texts_fed (by omega) _ h
 ·cases h
theorem when_fed {f : Nat} {l : List TI} (hf : 6 * l.length + 5 ≤ f) : Fed (whenOf f l) := by
 intro p h
 unfold whenOf at h
 split at h
 ·rename_i hi
  have h1 := is_len hi
  split at h
  ·rename_i e he; cases h; exact (all_fed f).2.2.2.2.2.2.2 0 _ (by omega) _ he
  ·cases h
 ·cases h
theorem rule_len {f : Nat} {l m : List TI} {u : Ru} (h : rule f l = .ok (u, m)) : m.length < l.length ∧ (Ends l → Ends m) := by
 unfold rule at h
 split at h
 ·rename_i hi
  have h0 : l.tail.length + 1 = l.length := by rcases hi with h | h <;> exact is_len h
  have h0e : Ends l → Ends l.tail := fun hE => by rcases hi with h | h <;> exact is_tail h (by decide) hE
  unfold ruleTail at h
  split at h
  ·cases h
  ·rename_i S m1 hS
   have h1 := scopes_len hS
   unfold ruleWhen at h
   split at h
   ·cases h
   ·rename_i W m2 hW
    have h2 := when_len hW
    split at h
    ·cases h
    ·rename_i v m3 hm
     have h3 := must_len hm
     cases h
     exact ⟨by omega, fun hE => must_ends hm (h2.2 (h1.2 (h0e hE)))⟩
 ·cases h
theorem rule_fed {f : Nat} {l : List TI} (hf : 6 * l.length + 6 ≤ f) : Fed (rule f l) := by
 intro p h
 unfold rule at h
 split at h
 ·rename_i hi
  have h0 : l.tail.length + 1 = l.length := by rcases hi with h | h <;> exact is_len h
  unfold ruleTail at h
  split at h
  ·rename_i e he; cases h; exact scopes_fed (by omega) _ he
  ·rename_i S m1 hS
   have h1 := scopes_len hS
   unfold ruleWhen at h
   split at h
   ·rename_i e he; cases h; exact when_fed (by omega) _ he
   ·rename_i W m2 hW
    split at h
    ·rename_i e he; cases h; exact must_fed _ _ _ he
    ·cases h
 ·simp at h
def rules : Nat → Nat → List Ru → List TI → Except (Int × Int) (List Ru)
 | 0, _, _, l => .error (place l, 0)
 | _ + 1, _, _, [] => .error (0, 0)
 | k + 1, F, acc, t :: m =>
  if t.k = 5 then .ok acc
  else if acc.length = 16 ∧ (is (t :: m) 1 [112, 101, 114, 109, 105, 116] = true ∨ is (t :: m) 1 [100, 101, 110, 121] = true) then .error (t.p, 132)
  else match rule F (t :: m) with
   | .error e => .error e
   | .ok (x, m) => rules k F (acc ++ [x]) m
end Pol
def Tk.ti (t : Tk) : TI := ⟨t.k, t.s, t.n, t.p⟩
def Pol.told : Except (Int × Int) (List Ru) → Er × List Ru
 | .ok L => (.ok, L)
 | .error (p, n) => (.pl p.toNat n.toNat, [])
def Pol.parse (s : ByteArray) : Er × List Ru :=
 match Lex.scan s with
 | (.ok, l) => Pol.told (Pol.rules (l.length + 1) (6 * l.length + 7) [] (l.map Tk.ti))
 | (e, _) => (e, [])
end Go.Proofs.YtgklmpooonnmiaaDoor
