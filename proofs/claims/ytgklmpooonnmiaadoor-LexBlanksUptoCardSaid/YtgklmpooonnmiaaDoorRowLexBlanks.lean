/-
  For every list of tokens and all seeds that hold together at most 1048576 values and letters, blanks and remarks between the tokens count for nothing but their places; lists of more than 60 tokens, tokens of more than 200 bytes and texts of more than 2048 bytes are let go by the statement itself.
-/
import Derived.Test.YtgklmpooonnmiaaDoorRows
import Derived.Test.YtgklmpooonnmiaaDoorTie
import Derived.Test.YtgklmpooonnmiaaDoorCards
import Derived.Test.YtgklmpooonnmiaaDoorLexBlanksLaw
import Derived.Test.YtgklmpooonnmiaaDoorLaid
import Derived.Test.YtgklmpooonnmiaaDoorToksOpen
import Derived.Test.YtgklmpooonnmiaaDoorBytesOpen
import Derived.WalkKit
import Derived.ProofKit
import Derived.OpenShut
import Derived.ShutString
import Derived.LaidMore
import Derived.Carry
import Derived.Stop.Joined
import Derived.SevenTiedAt
import Derived.Deep.DeepHandedRow
import Derived.Deep.DeepWitnessRowRef
namespace Go.Proofs.YtgklmpooonnmiaaDoor.lexBlanks
open Go.ChangeShapes Go.WideShapes Go.ChangeAt Go.RowKit
open Go.ChangeMaps (open_string shut_string)
set_option linter.unusedVariables false
theorem door_met (os : Os) (args : Array Value) : laidMetH Tryd.prog [("warrant/utf.least", Rows.laid_warrant_utf_least)] ((World.doorLaid Tryd.prog 400 os).forCall (fun _ _ => 0) ⟨#[], args, []⟩).memory :=
  laidMetH_of_parts3 (fuel := 8) (laidMet_of_run' 8 (by kernel_rfl) (by kernel_rfl)) (by kernel_rfl) (by kernel_rfl)
theorem reads (os : Os) {H : Type} (enc : TypeId × Value → H) : ∃ places, DataW.whole enc Tryd.prog ((World.doorLaid Tryd.prog 400 os).forCall (fun _ _ => 0) ⟨#[], #[.slice none 0 0, .slice none 0 0], []⟩).memory Tryd.f5.params.toList Rows.lexBlanksSpec.vars false (#[.slice none 0 0, .slice none 0 0] : Array Value).toList 8 = some ([.nil, .nil], [], places) :=
  ⟨[], by kernel_rfl⟩
set_option maxHeartbeats 4000000 in
set_option maxRecDepth 100000 in
theorem lifted (os : Os) (started : os.Started) (H : Type) (enc : TypeId × Value → H) (F : Stop.Interp) :
    ReturnsInHanded {} Tryd.checked os 5 .any ((Rows.OpenSpec.upto Rows.lexBlanksSpec).preRow enc Tryd.prog Tryd.f5 Rows.lexBlanksUptoRow.domain false Rows.lexBlanksUptoRow.laid) (((Rows.OpenSpec.upto Rows.lexBlanksSpec).at F).post enc Tryd.prog Tryd.f5 false true false false) := by
  obtain ⟨places, hx⟩ := reads os enc
  refine returnsInHanded_of_row (C := Tryd.checked) (s := Rows.OpenSpec.upto Rows.lexBlanksSpec) own started (by kernel_rfl) Tryd.func5
    (witness_row_atRef (enc := enc) (C := Tryd.checked) false (World.doorLaid Tryd.prog 400 os) #[.slice none 0 0, .slice none 0 0] rfl (by kernel_rfl) (by kernel_rfl) (by kernel_rfl)
      (OpenSpec.preRow_of_cond 8 hx (by kernel_rfl) (fun k hk => by cases hk; kernel_rfl) (by kernel_rfl) (door_met os _))) ?_
  intro W base args ds gs before hval0 hW _ hcond _ hL _ _
  change laidMetH Tryd.prog [("warrant/utf.least", Rows.laid_warrant_utf_least)] W at hL
  change Calls Tryd.prog 5 args W fun e W' => ∃ v, e = .returned v ∧ Rows.lexBlanksSpec.post enc Tryd.prog Tryd.f5 false true false false W args v W'
  have hval : ∀ (j : Nat) t v, Tryd.f5.params[j]? = some t → args[j]? = some v → Value.okWide Tryd.prog W .any base t v := hval0
  have hlt : ∀ x ∈ before, x.block < W.heap.size := fun x hx => hW.lt x hx
  have hW' := hW
  obtain ⟨p, q, hA0, hV, rfl, hfz, hnd⟩ := hW
  have hA : DataW.TrodAll enc Tryd.prog W 0 (fun _ => true) true Tryd.f5.params.toList args.toList ds p := hA0
  rw [Tryd.params5] at hA hval
  have hAk := hA
  obtain ⟨v0, v1, d0, d1, p0, p1, rfl, rfl, rfl, h0, h1⟩ := trodAll_two hA
  obtain ⟨rfl, rfl⟩ := trodVars_none hV
  have o0 := hval 0 22 v0 rfl rfl
  have o1 := hval 1 36 v1 rfl rfl
  have hb : Rows.uptoBulkAll ([d0, d1] ++ []) ≤ 1048576 := of_decide_eq_true (hcond _ rfl)
  simp only [List.append_nil, Rows.uptoBulkAll] at hb
  obtain ⟨a0, l0, c0, rfl⟩ := okWide_slice Tryd.underlying22 o0
  obtain ⟨f0, hf0⟩ := h0
  obtain ⟨A, c, l, hcs, hc, hcm, hT, hi, hs, hbk⟩ := toks_of_trod hf0
  simp only [Value.cells, List.cons.injEq, and_true, Value.slice.injEq] at hcs
  obtain ⟨rfl, rfl, rfl⟩ := hcs
  obtain ⟨a1, l1, c1, rfl⟩ := okWide_slice Tryd.underlying36 o1
  obtain ⟨f1, hf1⟩ := h1
  obtain ⟨SA, m, d, f, hds, hd, hdm, hS⟩ := bytes_of_trod hf1
  simp only [Value.cells, List.cons.injEq, and_true, Value.slice.injEq] at hds
  obtain ⟨rfl, rfl, rfl⟩ := hds
  rw [MakeChecks.laidMetH_plain _ _ _ (by kernel_rfl)] at hL
  clear hA0 hval0 hval
  refine (blanks_law W a0 a1 c0 l1 c1 l f hT hc hcm hi (fun t ht => by have h9 : t.s.size ≤ Rows.uptoBulk d0 := hbk t ht; omega) hS hd hdm (least_of_laid hL)).mono fun e W' ⟨he, hF⟩ => ?_
  subst he
  exact ⟨_, rfl, _, _, _, [], _, [], hW', (trodAll_cons_mk (shut_bool Tryd.underlying4 _) trodAll_mk0), trodAll_kept laidOut hF.below _ (by kernel_rfl) hAk (fun x hx => hlt x (by first | (simp at hx; done) | simpa using hx)), rfl, hF.below.frame _, fun h => by cases h⟩
theorem over : Rows.LexBlanksUptoSaid :=
  OpenClaim.holds_of_cond 5 Tryd.f5 rfl rfl rfl rfl rfl rfl rfl ⟨rfl, rfl, rfl, rfl, rfl⟩ rfl rfl rfl rfl rfl (by kernel_rfl) Tryd.func5 (by kernel_rfl)
    (of_decide_eq_true (by kernel_rfl)) (by unfold Func.isWrapper; first | (rw [if_pos (by decide +kernel)]; kernel_rfl) | (rw [if_neg (by decide +kernel)]; exact ⟨rfl, rfl⟩))
    (fun os started H enc _ F => by rw [OpenClaim.pre_eq_preRow]; exact lifted os started H enc F)
/-- The statement. -/
theorem proved : Rows.LexBlanksUptoCardSaid :=
  Claim7.holds_tied_plain_at .later [] [.data] true (true, "f4ecaeb6b3ec75ccc75ae419ded5f1df07c8c78158b1ae06f9c295ffefa37fb8") true
    over (fun _ h => by cases h) (by kernel_rfl) (fun _ h => by cases h) lexBlanksUpto_row_tie rfl ⟨rfl, rfl⟩ (by kernel_rfl) rfl
    (fun f fn hf hfn => by
      obtain rfl : f = 5 := Option.some.inj ((show Tryd.prog.funcNamed "warrant/warrantlaw11.LexBlanks" = some 5 by kernel_rfl).symm.trans hf) |>.symm
      obtain rfl : fn = Tryd.f5 := (Option.some.inj (Tryd.func5.symm.trans hfn)).symm
      exact ⟨by kernel_rfl, fun j t ht => by
        rw [Tryd.params5] at ht
        have hm : t ∈ [22, 36] := by simpa using Array.mem_of_getElem? ht
        have hall : ([22, 36].all fun u => !Tryd.prog.wantsStandIn u) = true := by kernel_rfl
        exact (show Tryd.prog.wantsStandIn t = false by simpa using List.all_eq_true.1 hall t hm)⟩)
    (by kernel_rfl)
#print axioms proved
end Go.Proofs.YtgklmpooonnmiaaDoor.lexBlanks
