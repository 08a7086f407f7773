/-
  Lemmas and contracts that the proofs over this seat use (part ShaMacsLaw); no statement of the seat is claimed in this text, and nothing is assumed in it.
-/
import Derived.Test.YtanegflohbgkdaaShaEq
import Derived.Test.YtanegflohbgkdaaShaRMac
set_option linter.unusedVariables false
set_option linter.unusedSimpArgs false
namespace Go.Proofs.Ytanegflohbgkdaa
open Go.RowKit
set_option maxHeartbeats 4000000 in
theorem shaMacs_walk (a b : ByteArray) (ha : a.size ≤ maxLen) (hb : b.size ≤ maxLen) (w : World) :
    Calls Try.prog 4 #[.string a, .string b] w fun e w' => e = .returned (.bool true) ∧ Fr [] w w' := by
  have cv := conv
  unfold maxLen at ha hb
  by_cases h1 : 5000 < a.size
  · go_enter Try.func4, Try.ntmps4
    go_wp2_with fail
    refine (alive w).mono ?_
    rintro e w1 ⟨rfl, hF⟩
    show _
    have h1' : (5000 : Int) < (a.size : Int) := by omega
    go_wp2_with fail
    refine bodyPost_ret (results_tmp rfl _ _ _) rfl ?_
    exact ⟨rfl, hF⟩
  by_cases h2 : 20000 < b.size
  · go_enter Try.func4, Try.ntmps4
    go_wp2_with fail
    refine (alive w).mono ?_
    rintro e w1 ⟨rfl, hF⟩
    show _
    have h1' : ¬ (5000 : Int) < (a.size : Int) := by omega
    have h2' : (20000 : Int) < (b.size : Int) := by omega
    go_wp2_with fail
    refine bodyPost_ret (results_tmp rfl _ _ _) rfl ?_
    exact ⟨rfl, hF⟩
  have ha2 : a.size ≤ maxLen := by unfold maxLen; omega
  have hb2 : b.size ≤ maxLen := by unfold maxLen; omega
  have la := nats_length a
  have lb := nats_length b
  go_enter Try.func4, Try.ntmps4
  go_wp2_with fail
  refine (alive w).mono ?_
  rintro e w1 ⟨rfl, hF⟩
  show _
  have h1' : ¬ (5000 : Int) < (a.size : Int) := by omega
  have h2' : ¬ (20000 : Int) < (b.size : Int) := by omega
  have LA := Lib.hid la
  have LB := Lib.hid lb
  clear la lb
  go_wp2_with fail
  refine (mac _ (strPt w1 5 a) (strPt (Lib.bytesWorld w1 5 a) 5 b) ((strPt_ok _ _ _ ha2).fr (fr_bytes _ _ _)) (strPt_ok _ _ _ hb2) (by show (nats a).length ≤ _; rw [LA.out]; omega) (by show (nats b).length ≤ _; rw [LB.out]; omega)).mono ?_
  rintro e w2 ⟨rfl, hF2⟩
  show _
  have HF := Lib.hid (((hF.trans0 (fr_bytes w1 5 a)).trans0 (fr_bytes _ 5 b)).trans0 hF2)
  have ed : Sha.mac (strPt w1 5 a).d (strPt (Lib.bytesWorld w1 5 a) 5 b).d = Sha.mac (nats a) (nats b) := rfl
  rw [ed]
  clear ed hF hF2
  generalize strPt w1 5 a = p1
  generalize strPt (Lib.bytesWorld w1 5 a) 5 b = p2
  go_wp2_with fail
  refine (text w2 (Sha.mac (nats a) (nats b)) (mac_length _ _) (mac_lt _ _)).mono ?_
  rintro e w3 ⟨rfl, hF3⟩
  show _
  have HF3 := Lib.hid (HF.out.trans0 hF3)
  clear hF3 HF
  go_wp2_with fail
  refine (rmac w3 a b (by omega) (by omega)).mono ?_
  rintro e w4 ⟨rfl, hF4⟩
  show _
  have HF4 := Lib.hid (HF3.out.trans0 hF4)
  clear hF4 HF3
  generalize Sha.mac (nats a) (nats b) = S
  go_wp2_with fail
  refine bodyPost_ret (results_tmp rfl _ _ _) rfl ?_
  exact ⟨rfl, HF4.out⟩
end Go.Proofs.Ytanegflohbgkdaa
