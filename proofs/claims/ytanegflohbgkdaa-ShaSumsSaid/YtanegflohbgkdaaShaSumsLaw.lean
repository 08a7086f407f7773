/-
  Lemmas and contracts that the proofs over this seat use (part ShaSumsLaw); no statement of the seat is claimed in this text, and nothing is assumed in it.
-/
import Derived.Test.YtanegflohbgkdaaShaEq
import Derived.Test.YtanegflohbgkdaaShaRSum
import Derived.Deep.RegionWith
set_option linter.unusedVariables false
set_option linter.unusedSimpArgs false
namespace Go.Proofs.Ytanegflohbgkdaa
open Go.RowKit
set_option maxHeartbeats 4000000 in
theorem shaSums_walk (a : ByteArray) (ha : a.size ≤ maxLen) (w : World) :
    Calls Try.prog 3 #[.string a] w fun e w' => e = .returned (.bool true) ∧ Fr [] w w' := by
  have cv := conv
  unfold maxLen at ha
  by_cases h1 : 20000 < a.size
  · go_enter Try.func3, Try.ntmps3
    go_wp2_with fail
    refine (alive w).mono ?_
    rintro e w1 ⟨rfl, hF⟩
    show _
    have h1' : (20000 : Int) < (a.size : Int) := by omega
    go_wp2_with fail
    refine bodyPost_ret (results_tmp rfl _ _ _) rfl ?_
    exact ⟨rfl, hF⟩
  have ha2 : a.size ≤ maxLen := by unfold maxLen; omega
  have la := nats_length a
  go_enter Try.func3, Try.ntmps3
  go_wp2_with fail
  refine (alive w).mono ?_
  rintro e w1 ⟨rfl, hF⟩
  show _
  have h1' : ¬ (20000 : Int) < (a.size : Int) := by omega
  have LA := Lib.hid la
  clear la
  go_wp2_with fail
  refine (ssum _ (strPt w1 5 a) (strPt_ok _ _ _ ha2) (by show (nats a).length ≤ _; rw [LA.out]; omega)).mono ?_
  rintro e w2 ⟨rfl, hF2⟩
  show _
  have HF := Lib.hid ((hF.trans0 (fr_bytes w1 5 a)).trans0 hF2)
  have ed : Sha.sum (strPt w1 5 a).d = Sha.sum (nats a) := rfl
  rw [ed]
  clear ed hF hF2
  generalize strPt w1 5 a = p1
  go_wp2_with fail
  refine (text w2 (Sha.sum (nats a)) (sum_length _) (sum_lt _)).mono ?_
  rintro e w3 ⟨rfl, hF3⟩
  show _
  have HF3 := Lib.hid (HF.out.trans0 hF3)
  clear hF3 HF
  go_wp2_with fail
  refine (rsum w3 a (by omega)).mono ?_
  rintro e w4 ⟨rfl, hF4⟩
  show _
  have HF4 := Lib.hid (HF3.out.trans0 hF4)
  clear hF4 HF3
  generalize Sha.sum (nats a) = S
  go_wp2_with fail
  refine bodyPost_ret (results_tmp rfl _ _ _) rfl ?_
  exact ⟨rfl, HF4.out⟩
end Go.Proofs.Ytanegflohbgkdaa
