/-
  Lemmas and contracts that the proofs over this seat use (part BytesOpen); no statement of the seat is claimed in this text, and nothing is assumed in it.
-/
import Derived.Test.YtgklmpooonnmiaaDoorLaid
import Derived.Test.YtgklmpooonnmiaaDoorLexBlanksLaw
import Derived.Deep.Slices
set_option linter.unusedVariables false
set_option linter.unusedSimpArgs false
namespace Go.Proofs.YtgklmpooonnmiaaDoor
open Go.ChangeShapes Go.WideShapes Go.ChangeAt Go.RowKit
open Go.Deep (open_slice choose_lt)
set_option maxRecDepth 100000 in
/-- bytes that came in. -/
theorem bytes_of_trod {H : Type} {enc : TypeId × Value → H} {W : World} {base : Nat} {spare : Nat → Bool} {held : Bool} {fuel : Nat} {cs : List Value} {x : DataW H × List MemPlace}
    (h : DataW.trod enc Tryd.prog W base spare held fuel 36 cs = some x) :
    ∃ (A : Option Addr) (n c : Nat) (f : Nat → Nat), cs = [.slice A n c] ∧ n ≤ c ∧ c ≤ maxLen ∧ Seeds W A n f := by
  rcases open_slice Tryd.underlying36 h with ⟨rfl, _⟩ | ⟨a, len, cap, m, n, D, Pl, rfl, hb, hl, hm, hmm, hx, hi⟩
  · exact ⟨none, 0, 0, fun _ => 0, rfl, Nat.le_refl _, by decide, fun j hj => by omega⟩
  · have hC : Tryd.prog.cellsOf 5 = 1 := by kernel_rfl
    have hlm : len ≤ m := by rw [hmm]; split <;> omega
    have key : ∀ i, i < len → ∃ y : Nat, W.cell? (a.add i) = some (.int .u8 (y : Nat)) ∧ y < 256 := by
      intro i hi1
      obtain ⟨cs', hc, ht'⟩ := hi i (by omega)
      rw [hC, Nat.mul_one] at hc
      obtain ⟨k, rfl, _, w0⟩ := DataW.trod_int Tryd.underlying5 ht'
      obtain ⟨_, _, hat⟩ := World.cells?_some hc
      have h0 := hat 0 (by decide)
      rw [show (a.add i).add 0 = a.add i by unfold Addr.add; simp] at h0
      have hk : 0 ≤ k ∧ k ≤ 255 := by simpa [Lit.wf, IntKind.min, IntKind.max, IntKind.signed, IntKind.bits] using w0
      exact ⟨k.toNat, by rw [h0]; simp; omega, by omega⟩
    obtain ⟨f, hf⟩ := choose_lt key
    exact ⟨some a, len, cap, f, rfl, hl, hm, fun j hj => ⟨a, rfl, (hf j hj).1, (hf j hj).2⟩⟩
end Go.Proofs.YtgklmpooonnmiaaDoor
