/-
  Lemmas and contracts that the proofs over this seat use (part ToksOpen); no statement of the seat is claimed in this text, and nothing is assumed in it.
-/
import Derived.Test.YtgklmpooonnmiaaDoorLaid
import Derived.Test.YtgklmpooonnmiaaDoorLexJoin
import Derived.Deep.Slices
import Derived.Deep.Fields
set_option linter.unusedVariables false
set_option linter.unusedSimpArgs false
namespace Go.Proofs.YtgklmpooonnmiaaDoor
open Go.ChangeShapes Go.WideShapes Go.ChangeAt Go.RowKit
open Go.Deep (open_slice choose_lt)
/-- what an integer of a token may be. -/
def TI.ints (t : TI) : Prop := -9223372036854775808 ≤ t.n ∧ t.n ≤ 9223372036854775807
instance : Inhabited TI := ⟨⟨0, ⟨#[]⟩, 0, 0⟩⟩
theorem bulk_part {H : Type} {d : DataW H} {l : List (DataW H)} (h : d ∈ l) : Rows.uptoBulk d ≤ Rows.uptoBulkAll l := by
  induction l with
  | nil => cases h
  | cons x r ih =>
    simp only [Rows.uptoBulkAll]
    rcases List.mem_cons.1 h with e | e
    · subst e; omega
    · have := ih e; omega
set_option maxRecDepth 100000 in
theorem toks_of_trod {H : Type} {enc : TypeId × Value → H} {W : World} {base : Nat} {spare : Nat → Bool} {held : Bool} {fuel : Nat} {cs : List Value} {x : DataW H × List MemPlace}
    (h : DataW.trod enc Tryd.prog W base spare held fuel 22 cs = some x) :
    ∃ (A : Option Addr) (c : Nat) (l : List TI), cs = [.slice A l.length c] ∧ l.length ≤ c ∧ c ≤ maxLen ∧ Toks W A l ∧ (∀ t ∈ l, t.ints) ∧ (∀ t ∈ l, t.s.size ≤ maxLen) ∧ (∀ t ∈ l, t.s.size ≤ Rows.uptoBulk x.1) := by
  rcases open_slice Tryd.underlying22 h with ⟨rfl, _⟩ | ⟨a, len, cap, m, n, D, Pl, rfl, hb, hl, hm, hmm, hx, hi⟩
  · exact ⟨none, 0, [], rfl, by simp, by decide, fun j t hj => by simp at hj, (fun t ht => by simp at ht), (fun t ht => by simp at ht), (fun t ht => by simp at ht)⟩
  · have hC : Tryd.prog.cellsOf 25 = 4 := by kernel_rfl
    have c0 : Tryd.prog.cellsOf 3 = 1 := by kernel_rfl
    have c1 : Tryd.prog.cellsOf 9 = 1 := by kernel_rfl
    have c2 : Tryd.prog.cellsOf 2 = 1 := by kernel_rfl
    have hlm : len ≤ m := by rw [hmm]; split <;> omega
    have key : ∀ i, i < len → ∃ t : TI, (W.cell? (a.add (i * 4)) = some (.int .i64 t.k) ∧ W.cell? ((a.add (i * 4)).add 1) = some (.string t.s) ∧ W.cell? ((a.add (i * 4)).add 2) = some (.int .i64 t.n) ∧ W.cell? ((a.add (i * 4)).add 3) = some (.int .i64 t.p)) ∧ t.ints ∧ t.s.size ≤ maxLen ∧ t.s.size ≤ Rows.uptoBulk (D i) := by
      intro i hi1
      obtain ⟨cs', hc, ht'⟩ := hi i (by omega)
      rw [hC] at hc
      obtain ⟨ys, n', hn', hy, hlen, hyl, hf⟩ := DataW.trod_struct Tryd.underlying25 ht'
      obtain ⟨_, hcl, hat⟩ := World.cells?_some hc
      match cs', hcl with
      | [v0, v1, v2, v3], _ =>
        have f0 : DataW.trod enc Tryd.prog W base spare held n' 3 ((List.drop 0 [v0, v1, v2, v3]).take (Tryd.prog.cellsOf 3)) = ys[0]? := hf 0 _ rfl
        have f1 : DataW.trod enc Tryd.prog W base spare held n' 9 ((List.drop 1 [v0, v1, v2, v3]).take (Tryd.prog.cellsOf 9)) = ys[1]? := hf 1 _ rfl
        have f2 : DataW.trod enc Tryd.prog W base spare held n' 2 ((List.drop 2 [v0, v1, v2, v3]).take (Tryd.prog.cellsOf 2)) = ys[2]? := hf 2 _ rfl
        have f3 : DataW.trod enc Tryd.prog W base spare held n' 3 ((List.drop 3 [v0, v1, v2, v3]).take (Tryd.prog.cellsOf 3)) = ys[3]? := hf 3 _ rfl
        have y0 : ys[0]? = some (ys[0]'(by rw [hyl]; decide)) := List.getElem?_eq_getElem _
        have y1 : ys[1]? = some (ys[1]'(by rw [hyl]; decide)) := List.getElem?_eq_getElem _
        have y2 : ys[2]? = some (ys[2]'(by rw [hyl]; decide)) := List.getElem?_eq_getElem _
        have y3 : ys[3]? = some (ys[3]'(by rw [hyl]; decide)) := List.getElem?_eq_getElem _
        rw [y0] at f0
        rw [y1] at f1
        rw [y2] at f2
        rw [y3] at f3
        obtain ⟨k, e0, _, w0⟩ := DataW.trod_int Tryd.underlying3 f0
        obtain ⟨s, e1, x1, w1⟩ := DataW.trod_string Tryd.underlying9 f1
        obtain ⟨z, e2, _, w2⟩ := DataW.trod_int Tryd.underlying2 f2
        obtain ⟨p, e3, _, w3⟩ := DataW.trod_int Tryd.underlying3 f3
        rw [c0] at e0 e3; rw [c1] at e1; rw [c2] at e2
        simp at e0 e1 e2 e3
        subst e0 e1 e2 e3
        refine ⟨⟨k, s, z, p⟩, ⟨?_, hat 1 (by decide), hat 2 (by decide), hat 3 (by decide)⟩, bounds_i64 w2, w1, ?_⟩
        rotate_left
        · have h5 : Rows.uptoBulk (H := H) (.lit (.string s.data.toList)) ≤ Rows.uptoBulkAll (ys.map (·.1)) := bulk_part (by
            have h6 := List.getElem_mem (l := ys) (n := 1) (by rw [hyl]; decide)
            have h7 := List.mem_map_of_mem (f := (·.1)) h6
            rw [x1] at h7
            exact h7)
          have hD : D i = .agg (ys.map (·.1)) := by simp only [Prod.mk.injEq] at hy; exact hy.1
          rw [hD]
          simp only [Rows.uptoBulk, Array.length_toList] at h5 ⊢
          have h8 : s.data.size = s.size := rfl
          show s.size ≤ _
          omega
        have := hat 0 (by decide)
        rwa [show (a.add (i * 4)).add 0 = a.add (i * 4) by unfold Addr.add; simp] at this
    obtain ⟨f, hf⟩ := choose_lt key
    have hget : ∀ (j : Nat) (t : TI), ((List.range len).map f)[j]? = some t → j < len ∧ t = f j := by
      intro j t hj
      rw [List.getElem?_map] at hj
      cases hr : (List.range len)[j]? with
      | none => rw [hr] at hj; cases hj
      | some i =>
        rw [hr] at hj
        obtain ⟨h1, h2⟩ := List.getElem?_eq_some_iff.1 hr
        simp at h1 h2
        subst h2
        simp at hj
        exact ⟨h1, hj.symm⟩
    have add1 : ∀ (b : Addr) (i : Nat), 0 < i → b.add i = ⟨b.block, b.off + i, none⟩ := fun b i hi => by unfold Addr.add; rw [if_neg (by omega)]
    refine ⟨some a, cap, (List.range len).map f, by simp, by simpa using hl, hm, ?_, ?_, ?_, ?_⟩
    · intro j t hj
      obtain ⟨h1, rfl⟩ := hget j t hj
      obtain ⟨⟨h2, h3, h4, h5⟩, _⟩ := hf j h1
      rw [add1 _ 1 (by decide)] at h3
      rw [add1 _ 2 (by decide)] at h4
      rw [add1 _ 3 (by decide)] at h5
      exact ⟨a, rfl, h2, h3, h4, h5⟩
    · intro t ht
      obtain ⟨j, hj, rfl⟩ := List.mem_map.1 ht
      exact (hf j (List.mem_range.1 hj)).2.1
    · intro t ht
      obtain ⟨j, hj, rfl⟩ := List.mem_map.1 ht
      exact (hf j (List.mem_range.1 hj)).2.2.1
    · intro t ht
      obtain ⟨j, hj, rfl⟩ := List.mem_map.1 ht
      have h1 := (hf j (List.mem_range.1 hj)).2.2.2
      have h2 : Rows.uptoBulk (D j) ≤ Rows.uptoBulkAll ((List.range len).map D) := bulk_part (List.mem_map_of_mem hj)
      rw [hx]
      simp only [Rows.uptoBulk]
      omega
end Go.Proofs.YtgklmpooonnmiaaDoor
