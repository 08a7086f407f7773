/-
  Lemmas and contracts that the proofs over this seat use (OwnAt, GrownT); no statement of the seat is claimed in this text, and nothing is assumed in it.
-/
import Derived.Test.YtgklmpooonnmiaaDoorJ2
import Derived.Test.YtgklmpooonnmiaaDoorJ1
set_option linter.unusedVariables false
set_option linter.unusedSimpArgs false
namespace Go.Proofs.YtgklmpooonnmiaaDoor
open Go.RowKit
theorem own_form {w : World} {B n size : Nat} {e : TypeId} {v : Value} {xs : List Value} (h : w.ownsRow B e size v n xs) : ∃ p c, v = .slice p n c := by
 rcases h.2 with ⟨rfl, rfl⟩ | ⟨g, cap, cur, rfl, _⟩
 ·exact ⟨_, _, rfl⟩
 ·exact ⟨_, _, rfl⟩
end Go.Proofs.YtgklmpooonnmiaaDoor

namespace Go.Proofs.YtgklmpooonnmiaaDoor
open Go.RowKit
theorem _root_.Go.World.grownBy.trans_ {a b c : World} {row : Option Nat} (h : a.grownBy b row) (k : b.grownBy c row) : a.grownBy c row :=
 ⟨k.os.trans h.os, k.tape.trans h.tape, k.output.trans h.output, Nat.le_trans h.size k.size, fun i hi hn => (k.block i (Nat.lt_of_lt_of_le hi h.size) hn).trans (h.block i hi hn)⟩
end Go.Proofs.YtgklmpooonnmiaaDoor
