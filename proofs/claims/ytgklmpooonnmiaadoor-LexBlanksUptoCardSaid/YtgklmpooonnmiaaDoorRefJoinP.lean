/-
  Lemmas and contracts that the proofs over this seat use (part RefJoinP); no statement of the seat is claimed in this text, and nothing is assumed in it.
-/
import Derived.Test.YtgklmpooonnmiaaDoorLexJoin
import Derived.Test.YtgklmpooonnmiaaDoorRefPrint
set_option linter.unusedVariables false
set_option linter.unusedSimpArgs false
namespace Go.Proofs.YtgklmpooonnmiaaDoor
open Go.RowKit
namespace Lex
def glue (o s : ByteArray) : ByteArray := (if s.size = 0 ∨ o.size = 0 then o else o ++ ⟨#[32]⟩) ++ s
def rj (l : List TI) : ByteArray := (l.map TI.spell).foldl glue ⟨#[]⟩
theorem rj_snoc (l : List TI) (t : TI) : rj (l ++ [t]) = glue (rj l) t.spell := by simp [rj]
theorem ba_ext {a b : ByteArray} (h : a.data.toList = b.data.toList) : a = b := by
  cases a; cases b; simp at h; simp [h]
theorem emp_iff (a : ByteArray) : a.toList.isEmpty = true ↔ a.data.toList = [] := by rw [ByteArray.toList_eq]; exact List.isEmpty_iff
theorem size_iff (a : ByteArray) : a.size = 0 ↔ a.data.toList = [] := by
  show a.data.size = 0 ↔ _
  rw [← Array.length_toList]; exact List.length_eq_zero_iff
theorem glue_data (o s : ByteArray) : (glue o s).data.toList = (if s.data.toList = [] ∨ o.data.toList = [] then o.data.toList else o.data.toList ++ [32]) ++ s.data.toList := by
  unfold glue
  rw [ByteArray.data_append, Array.toList_append]
  simp only [size_iff]
  split <;> simp
theorem fold_on (xs : List ByteArray) : ∀ o : ByteArray, o.data.toList ≠ [] → (xs.foldl glue o).data.toList = o.data.toList ++ Lib.joinTail [32] ((xs.filter fun x => !x.toList.isEmpty).map (·.data.toList)) := by
  induction xs with
  | nil => intro o _; simp [Lib.joinTail]
  | cons x xs ih =>
    intro o ho
    rw [List.foldl_cons]
    have hg : (glue o x).data.toList ≠ [] := by
      rw [glue_data]
      split <;> simp [ho]
    rw [ih _ hg, glue_data]
    by_cases hx : x.data.toList = []
    · have : (!x.toList.isEmpty) = false := by rw [(emp_iff x).2 hx]; rfl
      rw [if_pos (Or.inl hx), List.filter_cons, this, hx]
      simp
    · have : (!x.toList.isEmpty) = true := by
        cases hq : x.toList.isEmpty with
        | true => exact absurd ((emp_iff x).1 hq) hx
        | false => rfl
      rw [if_neg (by simp [hx, ho]), List.filter_cons, this]
      simp [Lib.joinTail, List.append_assoc]
theorem fold_nil (xs : List ByteArray) : (xs.foldl glue ⟨#[]⟩).data.toList = Lib.join ((xs.filter fun x => !x.toList.isEmpty).map (·.data.toList)) [32] := by
  induction xs with
  | nil => rfl
  | cons x xs ih =>
    rw [List.foldl_cons]
    by_cases hx : x.data.toList = []
    · have h1 : (!x.toList.isEmpty) = false := by rw [(emp_iff x).2 hx]; rfl
      have h2 : glue ⟨#[]⟩ x = ⟨#[]⟩ := ba_ext (by rw [glue_data, if_pos (Or.inl hx), hx]; rfl)
      rw [h2, ih, List.filter_cons, h1]
      simp
    · have h1 : (!x.toList.isEmpty) = true := by
        cases hq : x.toList.isEmpty with
        | true => exact absurd ((emp_iff x).1 hq) hx
        | false => rfl
      have h2 : glue ⟨#[]⟩ x = x := ba_ext (by rw [glue_data, if_pos (Or.inr rfl)]; simp)
      rw [h2, fold_on _ _ hx, List.filter_cons, h1]
      simp [Lib.join_cons]
theorem rj_join (l : List TI) : rj l = join l := ba_ext (by
  unfold rj join parts
  rw [fold_nil])
theorem glue_size (o s : ByteArray) : (glue o s).size ≤ o.size + s.size + 1 := by
  unfold glue
  split
  · rw [ByteArray.size_append]; omega
  · rw [ByteArray.size_append, ByteArray.size_append]
    have : (⟨#[32]⟩ : ByteArray).size = 1 := rfl
    omega
theorem quote_size (s : ByteArray) : (ba ((quote s).getD [])).size ≤ 2 * s.size + 2 := by
  rw [ba_size]
  unfold quote
  split
  · have := esc_length (nats s)
    rw [nats_length] at this
    simp; omega
  · simp
theorem print_size (n : Int) (hn : -9223372036854775808 ≤ n ∧ n ≤ 9223372036854775807) : (ba (Dec.print n)).size ≤ 20 := by
  rw [ba_size, Dec.print]
  have := Dec.digs_len n.natAbs (by omega)
  split <;> simp <;> omega
theorem spell_size (k : Int) (s : ByteArray) (n : Int) (hn : -9223372036854775808 ≤ n ∧ n ≤ 9223372036854775807) : (spell k s n).size ≤ 2 * s.size + 20 := by
  have h1 := quote_size s
  have h2 := print_size n hn
  have h3 : (⟨#[]⟩ : ByteArray).size = 0 := rfl
  unfold spell
  repeat' split
  all_goals omega
theorem tspell_size (t : TI) (h : t.fits) : t.spell.size ≤ 6020 := by
  have := spell_size t.k t.s t.n h.2
  have := h.1
  unfold TI.spell; omega
theorem rj_size (l : List TI) (h : ∀ t ∈ l, t.fits) : ∀ k, k ≤ l.length → (rj (l.take k)).size ≤ k * 6021 := by
  intro k
  induction k with
  | zero => intro _; simp [rj, ByteArray.size]
  | succ k ih =>
    intro hk
    have := ih (by omega)
    have ht : l.take (k + 1) = l.take k ++ [l[k]] := by rw [List.take_add_one, List.getElem?_eq_getElem (by omega)]; rfl
    rw [ht, rj_snoc]
    have h1 := glue_size (rj (l.take k)) (l[k]).spell
    have h2 := tspell_size l[k] (h _ (List.getElem_mem _))
    omega
theorem join_size (l : List TI) (h : ∀ t ∈ l, t.fits) : (join l).size ≤ l.length * 6021 := by
  rw [← rj_join]
  have := rj_size l h l.length (Nat.le_refl _)
  rwa [List.take_length] at this
end Lex
end Go.Proofs.YtgklmpooonnmiaaDoor
