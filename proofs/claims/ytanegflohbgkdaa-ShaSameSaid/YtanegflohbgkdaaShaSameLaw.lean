/-
  Lemmas and contracts that the proofs over this seat use (part ShaSameLaw); no statement of the seat is claimed in this text, and nothing is assumed in it.
-/
import Derived.Test.YtanegflohbgkdaaShaStr
set_option linter.unusedVariables false
set_option linter.unusedSimpArgs false
namespace Go.Proofs.Ytanegflohbgkdaa
open Go.RowKit
set_option maxHeartbeats 4000000 in
theorem shaSame_walk (a b : ByteArray) (ha : a.size ≤ maxLen) (hb : b.size ≤ maxLen) (w : World) :
    Calls Try.prog 6 #[.string a, .string b] w fun e w' => e = .returned (.bool true) ∧ Fr [] w w' := by
  have cv := conv
  go_enter Try.func6, Try.ntmps6
  go_wp2_with fail
  refine (alive w).mono ?_
  rintro e w1 ⟨rfl, hF⟩
  show _
  go_wp2_with fail
  refine (same_any _ (strPt w1 5 a) (strPt (Lib.bytesWorld w1 5 a) 5 b) ((strPt_ok _ _ _ ha).fr (fr_bytes _ _ _)) (strPt_ok _ _ _ hb)).mono ?_
  rintro e w2 ⟨rfl, hF2⟩
  have hF3 := ((hF.trans0 (fr_bytes w1 5 a)).trans0 (fr_bytes _ 5 b)).trans0 hF2
  have ed : ((strPt w1 5 a).d == (strPt (Lib.bytesWorld w1 5 a) 5 b).d) = (a.toList == b.toList) := nats_beq a b
  clear hF hF2
  show _
  rw [ed]
  clear ed
  generalize strPt w1 5 a = p1
  generalize strPt (Lib.bytesWorld w1 5 a) 5 b = p2
  go_wp2_with fail
  refine (same_any _ (strPt w2 5 a) (strPt (Lib.bytesWorld w2 5 a) 5 a) ((strPt_ok _ _ _ ha).fr (fr_bytes _ _ _)) (strPt_ok _ _ _ ha)).mono ?_
  rintro e w3 ⟨rfl, hF4⟩
  have hF5 := ((hF3.trans0 (fr_bytes w2 5 a)).trans0 (fr_bytes _ 5 a)).trans0 hF4
  have ed : ((strPt w2 5 a).d == (strPt (Lib.bytesWorld w2 5 a) 5 a).d) = true := beq_iff_eq.2 rfl
  show _
  rw [ed]
  clear ed hF3 hF4
  generalize strPt w2 5 a = p3
  generalize strPt (Lib.bytesWorld w2 5 a) 5 a = p4
  go_wp2_with fail
  go_ret
  exact ⟨rfl, hF5⟩
end Go.Proofs.Ytanegflohbgkdaa
