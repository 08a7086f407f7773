/-
  Lemmas and contracts that the proofs over this seat use (part Utf); no statement of the seat is claimed in this text, and nothing is assumed in it.
-/
import Derived.Test.YtgklmpooonnmiaaDoorProg
import Derived.Test.YtgklmpooonnmiaaDoorLib
set_option linter.unusedVariables false
set_option linter.unusedSimpArgs false
namespace Go.Proofs.YtgklmpooonnmiaaDoor
open Go.RowKit
namespace Utf
def right (n : Nat) : Bool := decide (n ≤ 1114111) && (decide (n < 55296) || decide (57343 < n))
def least : Nat → Nat
  | 2 => 128
  | 3 => 2048
  | 4 => 65536
  | _ => 0
/-- how many bytes a letter has that begins so; 0: none begins so. -/
def wide (c : Nat) : Nat := if c < 128 then 1 else if c < 192 then 0 else if c < 224 then 2 else if c < 240 then 3 else if c < 248 then 4 else 0
def first (c : Nat) : Nat := if c < 224 then c % 32 else if c < 240 then c % 16 else c % 8
/-- the first i bytes' number. -/
def pre (f : Nat → Nat) : Nat → Nat
  | 0 => first (f 0)
  | i + 1 => pre f i * 64 + f (i + 1) % 64
def cont (f : Nat → Nat) : Nat → Bool
  | 0 => true
  | i + 1 => cont f i && decide (f (i + 1) / 64 = 2)
/-- the letter at the beginning (none: there is none), and how many bytes it has. -/
def next (f : Nat → Nat) (len : Nat) : Option Nat × Nat :=
  if len = 0 then (none, 0)
  else if f 0 < 128 then (some (f 0), 1)
  else if wide (f 0) = 0 ∨ len < wide (f 0) then (none, 1)
  else if cont f (wide (f 0) - 1) = true ∧ least (wide (f 0)) ≤ pre f (wide (f 0) - 1) ∧ right (pre f (wide (f 0) - 1)) = true then (some (pre f (wide (f 0) - 1)), wide (f 0))
  else (none, 1)
end Utf
/-- what is told of a letter. -/
def letZ : Option Nat → Int
  | some n => n
  | none => -1
def leastCells : Array Value := #[.int .i64 0, .int .i64 0, .int .i64 128, .int .i64 2048, .int .i64 65536]
/-- the table of the least letters stands. -/
def Least (w : World) : Prop := ∃ t fr, w.heap[1]? = some (.cells leastCells t fr)
theorem Least.fr {bs : List Nat} {w w' : World} (h : Least w) (hF : Fr bs w w') (hn : 1 ∉ bs) : Least w' := by
  obtain ⟨t, fr, h⟩ := h
  exact ⟨t, fr, hF.row h hn⟩
theorem Least.cell {w : World} (h : Least w) (i : Nat) : w.cell? ⟨1, i, none⟩ = leastCells[i]? := by
  obtain ⟨t, fr, h⟩ := h
  exact cell_of_row _ _ _ _ _ _ h
theorem utf_right (n : Nat) (w : World) :
    Calls Tryd.prog 84 #[.int .i64 n] w fun e w' => e = .returned (.bool (Utf.right n)) ∧ w = w' := by
  have h0 : (n : Int) ≥ 0 := by omega
  by_cases h1 : n ≤ 1114111
  · have h1' : (n : Int) ≤ 1114111 := by omega
    by_cases h2 : n < 55296
    · have h2' : (n : Int) < 55296 := by omega
      have : Utf.right n = true := by simp [Utf.right, h1, h2]
      rw [this]
      clear this h1 h2
      go_enter Tryd.func84, Tryd.ntmps84
      go_wp2
      go_ret
      exact ⟨rfl, rfl⟩
    · have h2' : ¬ (n : Int) < 55296 := by omega
      have : Utf.right n = decide ((n : Int) > 57343) := by
        simp only [Utf.right, h1, h2, decide_true, decide_false, Bool.true_and, Bool.false_or]
        exact decide_eq_decide.2 (by omega)
      rw [this]
      clear this h1 h2
      go_enter Tryd.func84, Tryd.ntmps84
      go_wp2
      all_goals (go_ret; refine ⟨?_, rfl⟩; simp_all)
  · have h1' : ¬ (n : Int) ≤ 1114111 := by omega
    have : Utf.right n = false := by simp [Utf.right, h1]
    rw [this]
    clear this h1
    go_enter Tryd.func84, Tryd.ntmps84
    go_wp2
    go_ret
    exact ⟨rfl, rfl⟩
end Go.Proofs.YtgklmpooonnmiaaDoor
