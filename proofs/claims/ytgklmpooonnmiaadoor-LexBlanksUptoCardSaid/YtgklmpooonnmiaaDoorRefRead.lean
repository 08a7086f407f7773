/-
  Lemmas and contracts that the proofs over this seat use (part RefRead); no statement of the seat is claimed in this text, and nothing is assumed in it.
-/
import Derived.Test.YtgklmpooonnmiaaDoorRefLead
import Derived.Test.YtgklmpooonnmiaaDoorNum
set_option linter.unusedVariables false
set_option linter.unusedSimpArgs false
namespace Go.Proofs.YtgklmpooonnmiaaDoor
open Go.RowKit
def limP : ByteArray := ⟨#[57, 50, 50, 51, 51, 55, 50, 48, 51, 54, 56, 53, 52, 55, 55, 53, 56, 48, 55]⟩
def limN : ByteArray := ⟨#[57, 50, 50, 51, 51, 55, 50, 48, 51, 54, 56, 53, 52, 55, 55, 53, 56, 48, 56]⟩
set_option maxHeartbeats 4000000 in
set_option maxRecDepth 100000 in
theorem ref_read_neg (w : World) (s : ByteArray) (hs : s.size ≤ 1000000000) (lo hi : Int) (hlo : -9223372036854775808 ≤ lo ∧ lo ≤ 9223372036854775807) (hhi : -9223372036854775808 ≤ hi ∧ hi ≤ 9223372036854775807) (hfm : Dec.form (bn s) s.size = true) (hsg : Dec.sgn (bn s) s.size = 1) :
    Calls Tryd.prog 41 #[.string s, .int .i64 lo, .int .i64 hi] w fun e w' => e = .returned (.tuple #[.int .i64 (Dec.read (bn s) s.size lo hi).1, .int .i64 (Dec.read (bn s) s.size lo hi).2.num, .int .i64 (Dec.read (bn s) s.size lo hi).2.pos]) ∧ w = w' := by
  have h0 : 0 < s.size := by simp [Dec.form] at hfm; omega
  have HFM : Hid (∀ W, Calls Tryd.prog 68 #[.string s] W fun e w' => e = .returned (.bool true) ∧ W = w') := fun W => by rw [← hfm]; exact ref_form W s (by unfold maxLen; omega)
  obtain ⟨hi1, hi2, hi3⟩ := (Dec.form_iff _ _ h0).1 hfm
  have hrd := Dec.form_read' (bn s) s.size hfm lo hi
  rw [hsg] at hi1 hi2 hi3 hrd
  obtain ⟨T, hT⟩ : ∃ T, s.extract 1 s.size = T := ⟨_, rfl⟩
  have hTs : T.size = s.size - 1 := by rw [← hT]; simp
  have hTb : ∀ i, i < T.size → bn T i = bn s (1 + i) := fun i hi => by rw [← hT]; exact bn_ext s 1 s.size i (Nat.le_refl _) (by rw [← hT] at hi; simp at hi; omega)
  have hTp : 0 < T.size := by omega
  have hTd : ∀ i, i < T.size → Dec.dig (bn T i) = true := fun i hi => by rw [hTb i hi]; exact hi3 _ (by omega) (by omega)
  have hvl : Dec.vl (bn s) 1 (s.size - 1) = Dec.vl (bn T) 0 T.size := by rw [hTs]; exact (Dec.vl_congr _ fun i hi => by rw [Nat.zero_add]; exact hTb i (by omega)).symm
  have hless : Dec.lessB limN T = decide (9223372036854775808 < Dec.vl (bn T) 0 T.size) := by
    have := Dec.lessB_iff limN T rfl (by decide) (by decide) (by decide) hTp hTd (fun h => by rw [hTb 0 hTp] at h; have := hi2 h; omega)
    rw [this]; rfl
  obtain ⟨V, hV⟩ : ∃ V, Hid (Dec.vl (bn T) 0 T.size = V) := ⟨_, rfl⟩
  rw [hV.out] at hless hvl
  have HR : Hid (Dec.read (bn s) s.size lo hi = if 9223372036854775808 < V then (0, .no 41) else Dec.chk lo hi (-(V : Int))) := by
    show _ = _
    rw [hrd, hvl]
    rw [if_pos rfl]
  have HLS : Hid (∀ W, Calls Tryd.prog 69 #[.string limN, .string T] W fun e w' => e = .returned (.bool (decide (9223372036854775808 < V))) ∧ W = w') := fun W => by rw [← hless]; exact ref_less W limN T
  unfold limN at HLS
  have q45 : (((bn s 0 : Nat) : Int) == 45) = true := by
    have : bn s 0 = 45 := by unfold Dec.sgn at hsg; split at hsg; (rename_i h; exact h.2); omega
    rw [this]; rfl
  have hz0 : (s[0]'h0).toNat = bn s 0 := bn_at s 0 h0
  obtain ⟨c0, hc0⟩ : ∃ c0, bn s 0 = c0 := ⟨_, rfl⟩
  rw [hc0] at q45 hz0
  have n1 : (1 : Int) ≤ (s.size : Int) := by omega
  have hTbn := Lib.hid (bn_at T)
  have HTD := Lib.hid hTd
  have HTS := Lib.hid hTs
  have hex : s.extract 1 s.size = T := hT
  have hTle : T.size ≤ 1000000000 := by omega
  clear hi1 hi2 hi3 hrd hTb hvl hless hc0 hTd hfm hsg hTs hT
  by_cases hov : 9223372036854775808 < V
  · have hb : decide (9223372036854775808 < V) = true := decide_eq_true hov
    have HX : Hid (Dec.read (bn s) s.size lo hi = (0, .no 41)) := by show _ = _; rw [HR.out, if_pos hov]
    rw [hb] at HLS
    clear hov hb
    go_enter Tryd.func41, Tryd.ntmps41
    go_wp2_with fail
    refine (HFM.out _).mono ?_
    rintro e w1 ⟨rfl, rfl⟩
    go_wp2_with fail
    refine (HLS.out _).mono ?_
    rintro e w1 ⟨rfl, rfl⟩
    go_wp2_with fail
    go_ret3
    rw [HX.out]
    exact ⟨rfl, rfl⟩
  have hb : decide (9223372036854775808 < V) = false := decide_eq_false hov
  rw [hb] at HLS
  have HR2 : Hid (Dec.read (bn s) s.size lo hi = Dec.chk lo hi (-(V : Int))) := by show _ = _; rw [HR.out, if_neg hov]
  have HVL : Hid (V ≤ 9223372036854775808) := Nat.le_of_not_lt hov
  have HVM : Hid (∀ k, k ≤ T.size → Dec.vl (bn T) 0 k ≤ 9223372036854775808) := fun k hk => by
    have h1 := Dec.vl_mono (bn T) 0 hk
    rw [hV.out] at h1
    exact Nat.le_trans h1 HVL.out
  clear hov hb HR
  go_enter Tryd.func41, Tryd.ntmps41
  go_wp2_with fail
  refine (HFM.out _).mono ?_
  rintro e w1 ⟨rfl, rfl⟩
  go_wp2_with fail
  refine (HLS.out _).mono ?_
  rintro e w1 ⟨rfl, rfl⟩
  go_wp2_with fail
  go_loop [12, 13] (fun n t => ∃ k : Nat, k ≤ T.size ∧ t = .int .i64 k ∧ n = .int .i64 (-(Dec.vl (bn T) 0 k : Int))) (fun _ t => T.size - (intOf t).toNat)
  case atStart => exact ⟨0, by omega, rfl, rfl⟩
  case round =>
    obtain ⟨k, hk, rfl, rfl⟩ := hrel
    by_cases hlt : k < T.size
    · have hlt' : (k : Int) < (T.size : Int) := by omega
      have hzk := hTbn.out k hlt
      have hd := HTD.out k hlt
      have hv2 := HVM.out (k + 1) hlt
      have hvs : Dec.vl (bn T) 0 (k + 1) = Dec.vl (bn T) 0 k * 10 + (bn T k - 48) := by simp only [Dec.vl, Nat.zero_add]
      obtain ⟨v, hvv⟩ : ∃ v, Hid (Dec.vl (bn T) 0 k = v) := ⟨_, rfl⟩
      obtain ⟨x, hxx⟩ : ∃ x, Hid (bn T k = x) := ⟨_, rfl⟩
      rw [hxx.out] at hd hzk
      rw [hvv.out, hxx.out] at hvs
      rw [hvs] at hv2
      rw [hvv.out]
      have hd48 : 48 ≤ x := by simp [Dec.dig] at hd; omega
      have hd57 : x ≤ 57 := by simp [Dec.dig] at hd; omega
      have HVS := Lib.hid hvs
      have a2 : IntKind.i64.wrap ((-(v : Int)) * 10) = (-(v : Int)) * 10 := IntWalk.i64_in _ (by omega)
      have a3 : IntKind.i64.wrap ((-(v : Int)) * 10 - ((x : Int) - 48)) = (-(v : Int)) * 10 - ((x : Int) - 48) := IntWalk.i64_in _ (by omega)
      have b2 : -9223372036854775808 ≤ (-(v : Int)) * 10 - ((x : Int) - 48) ∧ (-(v : Int)) * 10 - ((x : Int) - 48) ≤ 9223372036854775807 := by omega
      obtain ⟨b3, b4⟩ := b2
      clear hd hvs hv2
      go_wp2_with fail
      go_round
      case rel =>
        refine ⟨k + 1, by omega, by go_num, ?_⟩
        rw [HVS.out]
        congr 1
        omega
      case measure => simp [intOf]; omega
    · obtain rfl : k = T.size := by omega
      rw [hV.out]
      have hVL := HVL.out
      by_cases t1 : (-(V : Int)) < lo
      · have HC : Hid (Dec.chk lo hi (-(V : Int)) = (0, .no 41)) := by show _ = _; unfold Dec.chk; rw [if_pos (Or.inl t1)]
        go_wp2_with fail
        go_ret3
        rw [HR2.out, HC.out]
        exact ⟨rfl, rfl⟩
      by_cases t2 : hi < (-(V : Int))
      · have HC : Hid (Dec.chk lo hi (-(V : Int)) = (0, .no 41)) := by show _ = _; unfold Dec.chk; rw [if_pos (Or.inr t2)]
        have t2' : (-(V : Int)) > hi := t2
        go_wp2_with fail
        go_ret3
        rw [HR2.out, HC.out]
        exact ⟨rfl, rfl⟩
      have HC : Hid (Dec.chk lo hi (-(V : Int)) = ((-(V : Int)), .ok)) := by show _ = _; unfold Dec.chk; rw [if_neg (by omega)]
      have t2' : ¬ (-(V : Int)) > hi := t2
      go_wp2_with fail
      go_ret3
      rw [HR2.out, HC.out]
      exact ⟨rfl, rfl⟩
set_option maxHeartbeats 4000000 in
set_option maxRecDepth 100000 in
theorem ref_read_pos (w : World) (s : ByteArray) (hs : s.size ≤ 1000000000) (lo hi : Int) (hlo : -9223372036854775808 ≤ lo ∧ lo ≤ 9223372036854775807) (hhi : -9223372036854775808 ≤ hi ∧ hi ≤ 9223372036854775807) (hfm : Dec.form (bn s) s.size = true) (hsg : Dec.sgn (bn s) s.size = 0) :
    Calls Tryd.prog 41 #[.string s, .int .i64 lo, .int .i64 hi] w fun e w' => e = .returned (.tuple #[.int .i64 (Dec.read (bn s) s.size lo hi).1, .int .i64 (Dec.read (bn s) s.size lo hi).2.num, .int .i64 (Dec.read (bn s) s.size lo hi).2.pos]) ∧ w = w' := by
  have h0 : 0 < s.size := by simp [Dec.form] at hfm; omega
  have HFM : Hid (∀ W, Calls Tryd.prog 68 #[.string s] W fun e w' => e = .returned (.bool true) ∧ W = w') := fun W => by rw [← hfm]; exact ref_form W s (by unfold maxLen; omega)
  obtain ⟨hi1, hi2, hi3⟩ := (Dec.form_iff _ _ h0).1 hfm
  have hrd := Dec.form_read' (bn s) s.size hfm lo hi
  rw [hsg] at hi1 hi2 hi3 hrd
  have hTs : s.size = s.size - 0 := rfl
  have hTb : ∀ i, i < s.size → bn s i = bn s (0 + i) := fun i hi => by rw [Nat.zero_add]
  have hTp : 0 < s.size := by omega
  have hTd : ∀ i, i < s.size → Dec.dig (bn s i) = true := fun i hi => by rw [hTb i hi]; exact hi3 _ (by omega) (by omega)
  have hless : Dec.lessB limP s = decide (9223372036854775807 < Dec.vl (bn s) 0 s.size) := by
    have := Dec.lessB_iff limP s rfl (by decide) (by decide) (by decide) hTp hTd (fun h => by rw [hTb 0 hTp] at h; have := hi2 h; omega)
    rw [this]; rfl
  obtain ⟨V, hV⟩ : ∃ V, Hid (Dec.vl (bn s) 0 s.size = V) := ⟨_, rfl⟩
  rw [hV.out] at hless
  have HR : Hid (Dec.read (bn s) s.size lo hi = if 9223372036854775807 < V then (0, .no 41) else Dec.chk lo hi (V : Int)) := by
    show _ = _
    rw [hrd, hV.out]
    rw [if_neg (by decide)]; by_cases e : 9223372036854775807 < V
    · rw [if_pos e, if_pos (by omega)]
    · rw [if_neg e, if_neg (by omega)]
  have HLS : Hid (∀ W, Calls Tryd.prog 69 #[.string limP, .string s] W fun e w' => e = .returned (.bool (decide (9223372036854775807 < V))) ∧ W = w') := fun W => by rw [← hless]; exact ref_less W limP s
  unfold limP at HLS
  have q45 : (((bn s 0 : Nat) : Int) == 45) = false := by
    refine beq_eq_false_iff_ne.2 fun h => ?_
    unfold Dec.sgn at hsg; rw [if_pos ⟨h0, by omega⟩] at hsg; omega
  have hz0 : (s[0]'h0).toNat = bn s 0 := bn_at s 0 h0
  obtain ⟨c0, hc0⟩ : ∃ c0, bn s 0 = c0 := ⟨_, rfl⟩
  rw [hc0] at q45 hz0
  have n1 : (1 : Int) ≤ (s.size : Int) := by omega
  have hTbn := Lib.hid (bn_at s)
  have HTD := Lib.hid hTd
  have HTS := Lib.hid hTs
  have hTle : s.size ≤ 1000000000 := by omega
  clear hi1 hi2 hi3 hrd hTb hless hc0 hTd hfm hsg hTs
  by_cases hov : 9223372036854775807 < V
  · have hb : decide (9223372036854775807 < V) = true := decide_eq_true hov
    have HX : Hid (Dec.read (bn s) s.size lo hi = (0, .no 41)) := by show _ = _; rw [HR.out, if_pos hov]
    rw [hb] at HLS
    clear hov hb
    go_enter Tryd.func41, Tryd.ntmps41
    go_wp2_with fail
    refine (HFM.out _).mono ?_
    rintro e w1 ⟨rfl, rfl⟩
    go_wp2_with fail
    refine (HLS.out _).mono ?_
    rintro e w1 ⟨rfl, rfl⟩
    go_wp2_with fail
    go_ret3
    rw [HX.out]
    exact ⟨rfl, rfl⟩
  have hb : decide (9223372036854775807 < V) = false := decide_eq_false hov
  rw [hb] at HLS
  have HR2 : Hid (Dec.read (bn s) s.size lo hi = Dec.chk lo hi (V : Int)) := by show _ = _; rw [HR.out, if_neg hov]
  have HVL : Hid (V ≤ 9223372036854775807) := Nat.le_of_not_lt hov
  have HVM : Hid (∀ k, k ≤ s.size → Dec.vl (bn s) 0 k ≤ 9223372036854775807) := fun k hk => by
    have h1 := Dec.vl_mono (bn s) 0 hk
    rw [hV.out] at h1
    exact Nat.le_trans h1 HVL.out
  clear hov hb HR
  go_enter Tryd.func41, Tryd.ntmps41
  go_wp2_with fail
  refine (HFM.out _).mono ?_
  rintro e w1 ⟨rfl, rfl⟩
  go_wp2_with fail
  refine (HLS.out _).mono ?_
  rintro e w1 ⟨rfl, rfl⟩
  go_wp2_with fail
  go_loop [12, 13] (fun n t => ∃ k : Nat, k ≤ s.size ∧ t = .int .i64 k ∧ n = .int .i64 (Dec.vl (bn s) 0 k : Int)) (fun _ t => s.size - (intOf t).toNat)
  case atStart => exact ⟨0, by omega, rfl, rfl⟩
  case round =>
    obtain ⟨k, hk, rfl, rfl⟩ := hrel
    by_cases hlt : k < s.size
    · have hlt' : (k : Int) < (s.size : Int) := by omega
      have hzk := hTbn.out k hlt
      have hd := HTD.out k hlt
      have hv2 := HVM.out (k + 1) hlt
      have hvs : Dec.vl (bn s) 0 (k + 1) = Dec.vl (bn s) 0 k * 10 + (bn s k - 48) := by simp only [Dec.vl, Nat.zero_add]
      obtain ⟨v, hvv⟩ : ∃ v, Hid (Dec.vl (bn s) 0 k = v) := ⟨_, rfl⟩
      obtain ⟨x, hxx⟩ : ∃ x, Hid (bn s k = x) := ⟨_, rfl⟩
      rw [hxx.out] at hd hzk
      rw [hvv.out, hxx.out] at hvs
      rw [hvs] at hv2
      rw [hvv.out]
      have hd48 : 48 ≤ x := by simp [Dec.dig] at hd; omega
      have hd57 : x ≤ 57 := by simp [Dec.dig] at hd; omega
      have HVS := Lib.hid hvs
      have a2 : IntKind.i64.wrap ((v : Int) * 10) = (v : Int) * 10 := IntWalk.i64_in _ (by omega)
      have a3 : IntKind.i64.wrap ((v : Int) * 10 + ((x : Int) - 48)) = (v : Int) * 10 + ((x : Int) - 48) := IntWalk.i64_in _ (by omega)
      have b2 : -9223372036854775808 ≤ (v : Int) * 10 + ((x : Int) - 48) ∧ (v : Int) * 10 + ((x : Int) - 48) ≤ 9223372036854775807 := by omega
      obtain ⟨b3, b4⟩ := b2
      clear hd hvs hv2
      go_wp2_with fail
      go_round
      case rel =>
        refine ⟨k + 1, by omega, by go_num, ?_⟩
        rw [HVS.out]
        congr 1
        omega
      case measure => simp [intOf]; omega
    · obtain rfl : k = s.size := by omega
      rw [hV.out]
      have hVL := HVL.out
      by_cases t1 : (V : Int) < lo
      · have HC : Hid (Dec.chk lo hi (V : Int) = (0, .no 41)) := by show _ = _; unfold Dec.chk; rw [if_pos (Or.inl t1)]
        go_wp2_with fail
        go_ret3
        rw [HR2.out, HC.out]
        exact ⟨rfl, rfl⟩
      by_cases t2 : hi < (V : Int)
      · have HC : Hid (Dec.chk lo hi (V : Int) = (0, .no 41)) := by show _ = _; unfold Dec.chk; rw [if_pos (Or.inr t2)]
        have t2' : (V : Int) > hi := t2
        go_wp2_with fail
        go_ret3
        rw [HR2.out, HC.out]
        exact ⟨rfl, rfl⟩
      have HC : Hid (Dec.chk lo hi (V : Int) = ((V : Int), .ok)) := by show _ = _; unfold Dec.chk; rw [if_neg (by omega)]
      have t2' : ¬ (V : Int) > hi := t2
      go_wp2_with fail
      go_ret3
      rw [HR2.out, HC.out]
      exact ⟨rfl, rfl⟩
set_option maxHeartbeats 4000000 in
set_option maxRecDepth 100000 in
theorem ref_read (w : World) (s : ByteArray) (hs : s.size ≤ 1000000000) (lo hi : Int) (hlo : -9223372036854775808 ≤ lo ∧ lo ≤ 9223372036854775807) (hhi : -9223372036854775808 ≤ hi ∧ hi ≤ 9223372036854775807) :
    Calls Tryd.prog 41 #[.string s, .int .i64 lo, .int .i64 hi] w fun e w' => e = .returned (.tuple #[.int .i64 (Dec.read (bn s) s.size lo hi).1, .int .i64 (Dec.read (bn s) s.size lo hi).2.num, .int .i64 (Dec.read (bn s) s.size lo hi).2.pos]) ∧ w = w' := by
  cases hfm : Dec.form (bn s) s.size with
  | true =>
    by_cases hsg : Dec.sgn (bn s) s.size = 1
    · exact ref_read_neg w s hs lo hi hlo hhi hfm hsg
    · refine ref_read_pos w s hs lo hi hlo hhi hfm ?_
      unfold Dec.sgn at hsg ⊢
      split at hsg
      · omega
      · rename_i h; rw [if_neg h]
  | false =>
    have HFM : Hid (∀ W, Calls Tryd.prog 68 #[.string s] W fun e w' => e = .returned (.bool false) ∧ W = w') := fun W => by rw [← hfm]; exact ref_form W s (by unfold maxLen; omega)
    have HLD : Hid (∀ W, Calls Tryd.prog 40 #[.string s] W fun e w' => e = .returned (.int .i64 (Dec.lead (bn s) s.size : Nat)) ∧ W = w') := fun W => ref_lead W s hs
    have HR := Lib.hid (Dec.form_read (bn s) s.size hfm lo hi)
    clear hfm
    go_enter Tryd.func41, Tryd.ntmps41
    go_wp2_with fail
    refine (HFM.out _).mono ?_
    rintro e w1 ⟨rfl, rfl⟩
    go_wp2_with fail
    refine (HLD.out _).mono ?_
    rintro e w1 ⟨rfl, rfl⟩
    go_wp2_with fail
    go_ret3
    rw [HR.out]
    exact ⟨rfl, rfl⟩
end Go.Proofs.YtgklmpooonnmiaaDoor
