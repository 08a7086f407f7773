/-
  Lemmas and contracts that the proofs over this seat use (part Draw); no statement of the seat is claimed in this text, and nothing is assumed in it.
-/
import Derived.Test.YtanegflohbgkdaaLib
import Derived.RegionTactic
set_option linter.unusedVariables false
set_option linter.unusedSimpArgs false
namespace Go.Proofs.Ytanegflohbgkdaa
open Go.RowKit
section
variable {P : Program} {md : Region.Mode} {ops : Array Oper} {Q : Exit → Act → World → Prop} {fuel : Nat} {listed : Array Bool} {a : Act} {w : World} {rs : List Nat}
/-- In a region that draws: a whole variable's load comes up. -/
theorem ready_load (i : Nat) {o : Oper} (ho : ops[i]? = some o) (hgd : o.guard = none) (ty : TypeId) (x : Operand) (hop : o.op = .load ty x)
    (b off : Nat) (hx : a.eval x = .pointer (some ⟨b, off, none⟩)) (cs : List Value) (d : TypeDesc) (hc : w.rangeAt b off cs)
    (hu : P.underlying ty = some d) (hd : d.isRow = true) (hi : (P.info? ty).map (·.size) = some cs.length)
    (h : wpAny P md ops Q fuel (listed.setIfInBounds i true) (a.put o.dst (.agg cs.toArray)) w)
    (hs : AllReady P md ops Q fuel listed a w rs) : AllReady P md ops Q fuel listed a w (i :: rs) :=
  AllReady.cons ho (fun K hK => by
    rw [if_pos (by simp [Region.wanted, hgd])]
    exact wp_load_mid ty x hop b off hx cs d hc hu hd hi (hK _ _ h)) hs
/-- likewise under a guard that says yes. -/
theorem ready_load_g (i : Nat) {o : Oper} (ho : ops[i]? = some o) (hgd : Region.wanted o (yielded ops a.tmps) = true) (ty : TypeId) (x : Operand) (hop : o.op = .load ty x)
    (b off : Nat) (hx : a.eval x = .pointer (some ⟨b, off, none⟩)) (cs : List Value) (d : TypeDesc) (hc : w.rangeAt b off cs)
    (hu : P.underlying ty = some d) (hd : d.isRow = true) (hi : (P.info? ty).map (·.size) = some cs.length)
    (h : wpAny P md ops Q fuel (listed.setIfInBounds i true) (a.put o.dst (.agg cs.toArray)) w)
    (hs : AllReady P md ops Q fuel listed a w rs) : AllReady P md ops Q fuel listed a w (i :: rs) :=
  AllReady.cons ho (fun K hK => by
    rw [if_pos hgd]
    exact wp_load_mid ty x hop b off hx cs d hc hu hd hi (hK _ _ h)) hs
end
end Go.Proofs.Ytanegflohbgkdaa
