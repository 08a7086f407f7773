/-
  Lemmas and contracts that the proofs over this seat use (part RowShaCuts); no statement of the seat is claimed in this text, and nothing is assumed in it.
-/
/-
  For every list of texts: however bytes are cut, their digest is the same, and a digest on its way is not changed by being told; lists of more than 100 texts and texts of more than 3000 bytes are let go by the statement itself.
-/
import Derived.Test.YtanegflohbgkdaaRows
import Derived.Test.YtanegflohbgkdaaShaCutsLaw
import Derived.Test.YtanegflohbgkdaaShaCutsOpen
import Derived.WalkKit
import Derived.ProofKit
import Derived.OpenShut
set_option linter.unusedVariables false
set_option linter.unusedSimpArgs false
namespace Go.Proofs.Ytanegflohbgkdaa.shaCuts
open Go.ChangeShapes Go.WideShapes Go.ChangeAt Go.RowKit
set_option linter.unusedVariables false
theorem own : ownKnob Try.prog.godebug = none := by kernel_rfl
set_option maxRecDepth 100000 in
theorem lifted (os : Os) (started : os.Started) (H : Type) (enc : TypeId × Value → H) :
    ReturnsInHanded {} Try.checked os 5 .any (Rows.shaCutsSpec.pre6 enc Try.prog Try.f5 Rows.shaCutsRow.domain false) (Rows.shaCutsSpec.post enc Try.prog Try.f5 false true false false) := by
  refine returnsInHanded_of_change (C := Try.checked) own started (by kernel_rfl) Try.func5
    (ChangeSpec.witness6 (enc := enc) (C := Try.checked) false ⟨#[], #[.slice none 0 0], []⟩ 8 (by kernel_rfl) (by kernel_rfl) (by kernel_rfl) (by kernel_rfl)) ?_
  intro W base args ds gs before hval0 hW hcnd _
  have hval : ∀ (j : Nat) t v, Try.f5.params[j]? = some t → args[j]? = some v → Value.okWide Try.prog W .any base t v := hval0
  have hlt : ∀ x ∈ before, x.block < W.heap.size := fun x hx => hW.lt x hx
  have hW' := hW
  obtain ⟨p, q, hA0, hV, rfl, hfz, hnd⟩ := hW
  have hA : DataW.TrodAll enc Try.prog W 0 (fun _ => true) true Try.f5.params.toList args.toList ds p := hA0
  rw [Try.params5] at hA hval
  have hAk := hA
  obtain ⟨v0, d0, rfl, rfl, h0⟩ := trodAll_one hA
  obtain ⟨rfl, rfl⟩ := trodVars_none hV
  have o0 := hval 0 32 v0 rfl rfl
  obtain ⟨a0, l0, c0, rfl⟩ := okWide_slice Try.underlying32 o0
  obtain ⟨f0, hf0⟩ := h0
  obtain ⟨A, c, l, hcs, hc, hcm, hT⟩ := txts_of_trod hf0
  simp only [Value.cells, List.cons.injEq, and_true, Value.slice.injEq] at hcs
  obtain ⟨rfl, rfl, rfl⟩ := hcs
  clear hA0 hval0
  refine (shaCuts_walk a0 c0 l hc hcm W hT).mono fun e W' ⟨he, hg⟩ => ?_
  subst he
  exact ⟨_, rfl, _, _, _, [], _, [], hW', (trodAll_cons_mk (shut_bool Try.underlying4 _) trodAll_mk0), trodAll_kept laidOut hg.below _ (by kernel_rfl) hAk (fun x hx => hlt x (by first | (simp at hx; done) | simpa using hx)), rfl, hg.below.frame _, fun h => by cases h⟩
theorem over : Rows.shaCutsRow.holds Try.pinned (OpenSpec.ofChange Rows.shaCutsSpec) :=
  OpenClaim.holds_of_wide 5 Try.f5 rfl rfl rfl rfl rfl rfl rfl ⟨rfl, rfl, rfl, rfl, rfl⟩ rfl rfl rfl rfl rfl (by kernel_rfl) Try.func5 (by kernel_rfl)
    (of_decide_eq_true (by kernel_rfl)) (by unfold Func.isWrapper; first | (rw [if_pos (by decide +kernel)]; kernel_rfl) | (rw [if_neg (by decide +kernel)]; exact ⟨rfl, rfl⟩))
    (fun os started H enc _ => lifted os started H enc)
/-- The statement. -/
theorem proved : Rows.ShaCutsSaid :=
  over
#print axioms proved
end Go.Proofs.Ytanegflohbgkdaa.shaCuts
