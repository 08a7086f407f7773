/-
  Lemmas and contracts that the proofs over this seat use (part LexBackMap); no statement of the seat is claimed in this text, and nothing is assumed in it.
-/
import Derived.Test.YtgklmpooonnmiaaDoorRefSame
set_option linter.unusedVariables false
set_option linter.unusedSimpArgs false
namespace Go.Proofs.YtgklmpooonnmiaaDoor
open Go.RowKit
theorem map_at {L M : List Tk} (h : M.map (fun t => (t.k, t.s, t.n)) = L.map (fun t => (t.k, t.s, t.n))) (i : Nat) (t : TI) (ht : (L.map Tk.ti)[i]? = some t) : ∃ q : Nat, (M.map Tk.ti)[i]? = some ⟨t.k, t.s, t.n, q⟩ := by
  rw [List.getElem?_map] at ht ⊢
  obtain ⟨u, hu, rfl⟩ := Option.map_eq_some_iff.1 ht
  have h2 := congrArg (fun l => l[i]?) h
  simp only [List.getElem?_map, hu, Option.map_some] at h2
  obtain ⟨v, hv, he⟩ := Option.map_eq_some_iff.1 h2
  rw [hv]
  simp only [Prod.mk.injEq] at he
  refine ⟨v.p, ?_⟩
  simp only [Option.map_some, Tk.ti]
  rw [he.1, he.2.1, he.2.2]
end Go.Proofs.YtgklmpooonnmiaaDoor
