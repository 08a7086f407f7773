/-
  Lemmas and contracts that the proofs over this seat use (PolCon, PolShr); no statement of the seat is claimed in this text, and nothing is assumed in it.
-/
import Derived.Test.YtgklmpooonnmiaaDoorJ16
import Derived.Test.YtgklmpooonnmiaaDoorJ15
set_option linter.unusedVariables false
set_option linter.unusedSimpArgs false
namespace Go.Proofs.YtgklmpooonnmiaaDoor
open Go.RowKit
def Pol.Fed {α : Type} (q : Pol.PR α) : Prop := ∀ p, q ≠ .error (p, 0)
def Done (r g nest : Nat) (w : World) (q : Pol.PR Ex) (e : Ending) (w' : World) : Prop :=
 match q with
 | .ok (x, m) => ∃ cs, e = .returned (.agg cs.toArray) ∧ Rep w' (fun g => w.heap.size ≤ g) cs x ∧ Fr [r] w w' ∧ ∃ o c, Rd w' r g o c m nest
 | .error (p, n) => Stops [r] w p n e w'
def ReadsEx (F : FuncId) (q : Nat → List TI → Pol.PR Ex) : Prop :=
 ∀ (w : World) (r g o c : Nat) (l : List TI) (nest : Nat), Rd w r g o c l nest → Ends l → nest ≤ 12 → r < w.heap.size → Pol.Fed (q nest l) →
   Calls Tryd.prog F #[.pointer (some ⟨r, 0, none⟩)] w (Done r g nest w (q nest l))
theorem Done.from {r g nest : Nat} {w0 w w' : World} {q : Pol.PR Ex} {e : Ending} (h : Done r g nest w q e w') (hf : Fr [r] w0 w) : Done r g nest w0 q e w' := by
 cases q with
 | error p => exact Stops.from (bs := [r]) (cs := [r]) h hf (fun y hy => .inl hy)
 | ok p =>
  obtain ⟨cs, he, hr, hf2, o, c, hR⟩ := h
  exact ⟨cs, he, hr.mono (fun g _ h => Nat.le_trans hf.size h), hf.trans hf2 (fun y hy => .inl hy), o, c, hR⟩
end Go.Proofs.YtgklmpooonnmiaaDoor

namespace Go.Proofs.YtgklmpooonnmiaaDoor
namespace Pol
theorem is_len {l : List TI} {k : Int} {s : List UInt8} (h : is l k s = true) : l.tail.length + 1 = l.length := by
 cases l with
 | nil => simp [is] at h
 | cons t r => rfl
theorem must_len {l m : List TI} {s : List UInt8} {u : Unit} (h : must l s = .ok (u, m)) : m.length + 1 = l.length := by
 unfold must at h
 split at h
 ·rename_i hi
  cases h
  exact is_len hi
 ·cases h
theorem take_len {l m : List TI} {k : Int} {t : TI} (h : take l k = .ok (t, m)) : m.length + 1 = l.length := by
 unfold take at h
 split at h
 ·split at h
  ·cases h; rfl
  ·cases h
 ·cases h
def Shr {α : Type} (d : Nat) (q : List TI → PR α) : Prop := ∀ l x m, q l = .ok (x, m) → m.length + d ≤ l.length
theorem all_shrink : ∀ f : Nat, (∀ n, Shr 1 (operand f n)) ∧ (∀ n, Shr 1 (compare f n)) ∧ (∀ n, Shr 1 (row f n)) ∧ (∀ n, Shr 1 (not_ f n)) ∧ (∀ n e, Shr 0 (andMore f n e)) ∧ (∀ n, Shr 1 (and_ f n)) ∧ (∀ n e, Shr 0 (orMore f n e)) ∧ (∀ n, Shr 1 (or_ f n)) := by
 intro f
 induction f with
 | zero => refine ⟨?_, ?_, ?_, ?_, ?_, ?_, ?_, ?_⟩ <;> (intros; intro l x m h; simp [operand, compare, row, not_, andMore, and_, orMore, or_] at h)
 | succ f ih =>
  obtain ⟨i1, i2, i3, i4, i5, i6, i7, i8⟩ := ih
  refine ⟨fun n l x m h => ?_, fun n l x m h => ?_, fun n l x m h => ?_, fun n l x m h => ?_, fun n e l x m h => ?_, fun n l x m h => ?_, fun n e l x m h => ?_, fun n l x m h => ?_⟩
  ·cases l with
   | nil => simp [operand] at h
   | cons t r =>
    rw [operand] at h
    simp only [List.length_cons]
    split at h
    ·split at h
     ·cases h
     ·split at h
      ·cases h
      ·rename_i y r1 hy
       have h1 := i8 _ _ _ _ hy
       split at h
       ·cases h
       ·rename_i u r2 hm
        have h2 := must_len hm
        cases h
        omega
    ·split at h
     ·cases h; omega
     ·split at h
      ·cases h; omega
      ·split at h
       ·cases h; omega
       ·split at h
        ·cases h; omega
        ·split at h
         ·split at h
          ·cases h
          ·rename_i u1 r1 h1
           split at h
           ·cases h
           ·rename_i u2 r2 h2
            split at h
            ·cases h
            ·rename_i u3 r3 h3
             have a1 := must_len h1
             have a2 := take_len h2
             have a3 := must_len h3
             cases h
             omega
         ·split at h
          ·cases h; omega
          ·cases h
  ·rw [compare] at h
   split at h
   ·cases h
   ·cases h
   ·rename_i a t r ha
    have h0 := i1 _ _ _ _ ha
    simp only [List.length_cons] at h0
    split at h
    ·split at h
     ·cases h; simp only [List.length_cons]; omega
     ·split at h
      ·cases h
      ·rename_i b r2 hb
       have h1 := i1 _ _ _ _ hb
       cases h
       omega
    ·split at h
     ·split at h
      ·cases h
      ·rename_i b r2 hb
       have h1 := i1 _ _ _ _ hb
       cases h
       omega
     ·split at h
      ·split at h
       ·cases h
       ·rename_i u r2 h2
        split at h
        ·cases h
        ·rename_i L r3 h3
         split at h
         ·cases h
         ·rename_i u4 r4 h4
          have a1 := must_len h2
          have a2 := i3 _ _ _ _ h3
          have a3 := must_len h4
          cases h
          omega
      ·cases h; simp only [List.length_cons]; omega
  ·rw [row] at h
   split at h
   ·cases h
   ·rename_i y r hy
    have h1 := i1 n _ _ _ hy
    split at h
    ·rename_i hi
     split at h
     ·cases h
     ·rename_i L r2 hr
      have h2 := i3 n _ _ _ hr
      have h3 := is_len hi
      cases h
      omega
    ·cases h; exact h1
  ·rw [not_] at h
   split at h
   ·rename_i hi
    split at h
    ·cases h
    ·split at h
     ·cases h
     ·rename_i y r hy
      have h1 := i4 _ _ _ _ hy
      have h2 := is_len hi
      cases h
      omega
   ·exact i2 n _ _ _ h
  ·rw [andMore] at h
   split at h
   ·rename_i hi
    split at h
    ·cases h
    ·rename_i y r hy
     have h1 := i4 n _ _ _ hy
     have h2 := is_len hi
     have h3 := i5 n _ _ _ _ h
     omega
   ·cases h; omega
  ·rw [and_] at h
   split at h
   ·cases h
   ·rename_i y r hy
    have h1 := i4 n _ _ _ hy
    have h2 := i5 n _ _ _ _ h
    omega
  ·rw [orMore] at h
   split at h
   ·rename_i hi
    split at h
    ·cases h
    ·rename_i y r hy
     have h1 := i6 n _ _ _ hy
     have h2 := is_len hi
     have h3 := i7 n _ _ _ _ h
     omega
   ·cases h; omega
  ·rw [or_] at h
   split at h
   ·cases h
   ·rename_i y r hy
    have h1 := i6 n _ _ _ hy
    have h2 := i7 n _ _ _ _ h
    omega
end Pol
end Go.Proofs.YtgklmpooonnmiaaDoor
