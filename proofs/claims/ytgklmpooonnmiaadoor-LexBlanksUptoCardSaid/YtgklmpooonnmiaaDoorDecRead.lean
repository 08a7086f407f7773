/-
  Lemmas and contracts that the proofs over this seat use (part DecRead); no statement of the seat is claimed in this text, and nothing is assumed in it.
-/
import Derived.Test.YtgklmpooonnmiaaDoorDecLead
set_option linter.unusedVariables false
set_option linter.unusedSimpArgs false
namespace Go.Proofs.YtgklmpooonnmiaaDoor
open Go.RowKit
namespace Dec
theorem digits_all {f : Nat → Nat} {n a : Nat} (h : digits f n a = n) : ∀ i, a ≤ i → i < n → dig (f i) = true := by
  fun_induction digits f n a with
  | case1 a h1 h2 ih =>
    intro i hi hn
    by_cases e : a = i
    · subst e; exact h2
    · exact ih h i (by omega) hn
  | case2 a h1 h2 => intro i hi hn; omega
  | case3 a h1 => intro i hi hn; omega
theorem lead_all {f : Nat → Nat} {n : Nat} (h : lead f n = n) (hn : 0 < n) : sgn f n < n ∧ ∀ i, sgn f n ≤ i → i < n → dig (f i) = true := by
  have hs : sgn f n ≤ 1 := by unfold sgn; split <;> omega
  unfold lead at h
  split at h
  · omega
  · rename_i h1
    refine ⟨by omega, ?_⟩
    split at h
    · omega
    · rename_i h2
      split at h
      · intro i hi hn2
        have : i = sgn f n := by omega
        rw [this]; simpa using h2
      · exact digits_all h
/-- the number that k digits from a on tell. -/
def vl (f : Nat → Nat) (a : Nat) : Nat → Nat
  | 0 => 0
  | k + 1 => vl f a k * 10 + (f (a + k) - 48)
theorem vl_mono (f : Nat → Nat) (a : Nat) {k m : Nat} (h : k ≤ m) : vl f a k ≤ vl f a m := by
  induction m with
  | zero => obtain rfl : k = 0 := by omega
            exact Nat.le_refl _
  | succ m ih =>
    by_cases e : k = m + 1
    · rw [e]; exact Nat.le_refl _
    · have := ih (by omega)
      simp only [vl]; omega
def chk (lo hi x : Int) : Int × Er := if x < lo ∨ hi < x then (0, .no 41) else (x, .ok)
/-- the number that a text tells, within limits. -/
def read (f : Nat → Nat) (n : Nat) (lo hi : Int) : Int × Er :=
  if lead f n = 0 ∨ lead f n < n then (0, .pl (lead f n) 40)
  else if sgn f n = 1 then (if 9223372036854775808 < vl f 1 (n - 1) then (0, .no 41) else chk lo hi (-(vl f 1 (n - 1) : Int)))
  else if 9223372036854775808 ≤ vl f 0 n then (0, .no 41) else chk lo hi (vl f 0 n : Int)
theorem quot (d : Nat) (hd : d ≤ 9) : ∃ Q : Nat, Q < 1000000000000000000 ∧ (-9223372036854775808 + (d : Int)).tdiv 10 = -(Q : Int) ∧ ∀ v : Nat, (v ≤ Q ↔ v * 10 + d ≤ 9223372036854775808) := by
  have key : (-9223372036854775808 + (d : Int)).tdiv 10 = -(((9223372036854775808 - d) / 10 : Nat) : Int) := by
    rw [show (-9223372036854775808 + (d : Int)) = -((9223372036854775808 - d : Nat) : Int) by omega, Int.neg_tdiv, Int.tdiv_eq_ediv_of_nonneg (by omega)]
    omega
  exact ⟨_, by omega, key, fun v => by omega⟩
end Dec
theorem ext_at (s : ByteArray) (i : Nat) (h : i < (s.extract 1 s.size).size) : ((s.extract 1 s.size)[i]'h).toNat = bn s (1 + i) := by
  have h1 : 1 + i < s.size := by simp at h; omega
  rw [← bn_at s (1 + i) h1]
  congr 1
  exact ByteArray.getElem_extract _
set_option maxHeartbeats 4000000 in
set_option maxRecDepth 100000 in
theorem dec_read (w : World) (s : ByteArray) (hs : s.size ≤ maxLen) (lo hi : Int) (hlo : -9223372036854775808 ≤ lo ∧ lo ≤ 9223372036854775807) (hhi : -9223372036854775808 ≤ hi ∧ hi ≤ 9223372036854775807) :
    Calls Tryd.prog 67 #[.string s, .int .i64 lo, .int .i64 hi] w fun e w' => ∃ v, e = .returned (.tuple #[.int .i64 (Dec.read (bn s) s.size lo hi).1, v]) ∧ ErV w' w.heap.size (Dec.read (bn s) s.size lo hi).2 v ∧ Fr [] w w' := by
  have hld := dec_lead w s hs
  unfold maxLen at hs
  obtain ⟨f, hf⟩ : ∃ f, Hid (f = bn s) := ⟨_, rfl⟩
  have hex := ext_at s
  rw [← hf.out] at hld hex ⊢
  have HEX := Lib.hid hex
  clear hex
  have hbv : Hid (∀ i, ∀ h : i < s.size, (s[i]'h).toNat = f i) := by rw [hf.out]; exact fun i h => bn_at s i h
  obtain ⟨m, hm⟩ : ∃ m, Dec.lead f s.size = m := ⟨_, rfl⟩
  have hml := Dec.lead_le f s.size
  rw [hm] at hld hml
  by_cases h0 : m = 0 ∨ m < s.size
  · have HE : Hid (Dec.read f s.size lo hi = (0, .pl m 40)) := by show _ = _; unfold Dec.read; rw [hm, if_pos h0]
    have hq : m = 0 ∨ (((m : Int) == 0) = false ∧ (m : Int) < (s.size : Int)) := by
      by_cases e : m = 0
      · exact Or.inl e
      · exact Or.inr ⟨by simp; omega, by omega⟩
    have HLD := Lib.hid hld
    clear hm h0 hld
    rcases hq with rfl | ⟨q1, q2⟩
    all_goals
      go_enter Tryd.func67, Tryd.ntmps67
      go_wp2_with (go_at_call 66; refine HLD.out.mono ?_; rintro e w' ⟨rfl, rfl⟩)
      refine bodyPost_ret (results_tmp2 rfl _ _ _) rfl ?_
      rw [HE.out]
      exact ⟨_, rfl, ErV.new w _ _ 40 (Nat.le_refl _), (Fr.refl _ _).alloc _⟩
  obtain rfl : m = s.size := by omega
  have hn0 : 0 < s.size := by omega
  obtain ⟨hsg, hall⟩ := Dec.lead_all hm hn0
  have HALL := Lib.hid hall
  have q1 : ((s.size : Int) == 0) = false := beq_eq_false_iff_ne.2 (by omega)
  have q2 : ¬ (s.size : Int) < (s.size : Int) := by omega
  have hz0 : (s[0]'hn0).toNat = f 0 := hbv.out 0 hn0
  obtain ⟨c0, hc0⟩ : ∃ c0, f 0 = c0 := ⟨_, rfl⟩
  rw [hc0] at hz0
  have HLD := Lib.hid hld
  have HR : Hid (Dec.read f s.size lo hi = if Dec.sgn f s.size = 1 then (if 9223372036854775808 < Dec.vl f 1 (s.size - 1) then (0, .no 41) else Dec.chk lo hi (-(Dec.vl f 1 (s.size - 1) : Int)))
    else if 9223372036854775808 ≤ Dec.vl f 0 s.size then (0, .no 41) else Dec.chk lo hi (Dec.vl f 0 s.size : Int)) := by
    show _ = _
    unfold Dec.read
    rw [hm, if_neg (show ¬ (s.size = 0 ∨ s.size < s.size) by omega)]
  clear hall hld hm h0
  by_cases h45 : c0 = 45
  case' pos =>
    have hs1 : Dec.sgn f s.size = 1 := by unfold Dec.sgn; rw [if_pos ⟨hn0, hc0.trans h45⟩]
    have q45 : ((c0 : Int) == 45) = true := by rw [h45]; rfl
    obtain ⟨T, hT⟩ : ∃ T, Hid (T = s.extract 1 s.size) := ⟨_, rfl⟩
    have hTv : Hid (∀ i, ∀ h : i < T.size, (T[i]'h).toNat = f (1 + i)) := by rw [hT.out]; exact HEX.out
    have hTs : T.size = s.size - 1 := by rw [hT.out]; simp
    have HTS := Lib.hid hTs
    have hn1 : 1 ≤ (s.size : Int) := by omega
    go_enter Tryd.func67, Tryd.ntmps67
    go_wp2_with (go_at_call 66; refine HLD.out.mono ?_; rintro e w' ⟨rfl, rfl⟩)
    rw [← hT.out, ← hTs]
    clear hTs
  case' neg =>
    have hs1 : Dec.sgn f s.size = 0 := by unfold Dec.sgn; rw [if_neg (fun h => h45 (hc0 ▸ h.2))]
    have q45 : ((c0 : Int) == 45) = false := by simp; omega
    obtain ⟨T, hT⟩ : ∃ T, Hid (T = s) := ⟨_, rfl⟩
    have hTv : Hid (∀ i, ∀ h : i < T.size, (T[i]'h).toNat = f (0 + i)) := by rw [hT.out]; show ∀ i, _; intro i h; rw [Nat.zero_add]; exact hbv.out i h
    have HTS : Hid (T.size = s.size - 0) := by rw [hT.out]; rfl
    go_enter Tryd.func67, Tryd.ntmps67
    go_wp2_with (go_at_call 66; refine HLD.out.mono ?_; rintro e w' ⟨rfl, rfl⟩)
    rw [← hT.out]
  all_goals
    obtain ⟨a, ha⟩ : ∃ a, Hid (Dec.sgn f s.size = a) := ⟨_, rfl⟩
    have hTn : T.size = s.size - a := by rw [← ha.out, hs1]; exact HTS.out
    have hTb : T.size ≤ 9223372036854775807 := by omega
    have hTv2 : Hid (∀ i, ∀ h : i < T.size, (T[i]'h).toNat = f (a + i)) := by rw [← ha.out, hs1]; exact hTv.out
    have hdg : Hid (∀ i, i < T.size → Dec.dig (f (a + i)) = true) := fun i hi => HALL.out (a + i) (by rw [ha.out]; omega) (by omega)
    have HTN := Lib.hid hTn
    have hover : Hid (∀ k, k ≤ T.size → 9223372036854775808 < Dec.vl f a k → Dec.read f s.size lo hi = (0, .no 41)) := fun k hk hv => by
      have h2 := Dec.vl_mono f a hk
      rw [HTN.out] at h2
      rw [HR.out]
      by_cases e : Dec.sgn f s.size = 1
      · rw [if_pos e, if_pos]
        rw [ha.out] at e; subst e; omega
      · rw [if_neg e, if_pos]
        first
          | exact absurd hs1 e
          | (have e0 : a = 0 := ha.out.symm.trans hs1
             subst e0; rw [Nat.sub_zero] at h2; omega)
    have HS1 := Lib.hid hs1
    clear hTn hTv HALL hbv HEX HTS hs1 hz0 hc0 hsg h45
    go_loop [10, 36] (fun n t => ∃ k : Nat, k ≤ T.size ∧ t = .int .i64 k ∧ n = .int .i64 (-(Dec.vl f a k : Int)) ∧ Dec.vl f a k ≤ 9223372036854775808) (fun _ t => T.size - (intOf t).toNat)
    case atStart => exact ⟨0, by omega, rfl, rfl, by show 0 ≤ _; omega⟩
    case' round =>
      obtain ⟨k, hk, rfl, rfl, hv⟩ := hrel
      by_cases hlt : k < T.size
      case pos =>
        have hlt' : (k : Int) < (T.size : Int) := by omega
        have hzk := hTv2.out k hlt
        have hd := hdg.out k hlt
        obtain ⟨v, hvv⟩ : ∃ v, Hid (Dec.vl f a k = v) := ⟨_, rfl⟩
        obtain ⟨x, hxx⟩ : ∃ x, Hid (f (a + k) = x) := ⟨_, rfl⟩
        rw [hxx.out] at hd hzk
        have hd48 : 48 ≤ x := by simp [Dec.dig] at hd; omega
        have hd57 : x ≤ 57 := by simp [Dec.dig] at hd; omega
        have hvs : Hid (Dec.vl f a (k + 1) = v * 10 + (x - 48)) := by show _ = _; simp only [Dec.vl]; rw [hvv.out, hxx.out]
        rw [hvv.out] at hv ⊢
        obtain ⟨Q, hQb, hq, hQ⟩ := Dec.quot (x - 48) (by omega)
        have hQ := Lib.hid (hQ v)
        have HV := Lib.hid hv
        rw [show ((x - 48 : Nat) : Int) = (x : Int) - 48 by omega] at hq
        clear hd hv
        by_cases hov : v ≤ Q
        · have hov2 := hQ.out.1 hov
          have a1 : ¬ (-(v : Int)) < -(Q : Int) := by omega
          have a2 : IntKind.i64.wrap (-(v : Int) * 10) = -(v : Int) * 10 := IntWalk.i64_in _ (by omega)
          have a3 : ¬ (-(v : Int) * 10) < -9223372036854775808 + ((x : Int) - 48) := by omega
          clear hov
          have HQ2 := Lib.hid hov2
          clear hov2
          go_wp2
          go_round
          case rel =>
            refine ⟨k + 1, by omega, by go_num, ?_, by rw [hvs.out]; exact HQ2.out⟩
            rw [hvs.out]
            congr 1
            omega
          case measure => simp [intOf]; omega
        · have hov2 : 9223372036854775808 < v * 10 + (x - 48) := Nat.lt_of_not_le (fun h => hov (hQ.out.2 h))
          have a1 : (-(v : Int)) < -(Q : Int) := by omega
          have HO : Hid (Dec.read f s.size lo hi = (0, .no 41)) := hover.out (k + 1) (by omega) (by rw [hvs.out]; exact hov2)
          clear hov2 hov hover
          go_wp2
          refine bodyPost_ret (results_tmp2 rfl _ _ _) rfl ?_
          rw [HO.out]
          exact ⟨_, rfl, rfl, Fr.refl _ _⟩
      case' neg =>
        obtain rfl : k = T.size := by omega
        obtain ⟨v, hvv⟩ : ∃ v, Hid (Dec.vl f a T.size = v) := ⟨_, rfl⟩
        rw [hvv.out] at hv ⊢
        clear hover hdg hTv2
  · have e1 : s.size = T.size := by
      have := HTN.out
      have e0 : a = 0 := ha.out.symm.trans HS1.out
      omega
    have e2 : Dec.vl f 0 s.size = v := by
      have e0 : a = 0 := ha.out.symm.trans HS1.out
      rw [e1, ← hvv.out, e0]
    have HR2 : Hid (Dec.read f s.size lo hi = if 9223372036854775808 ≤ v then (0, .no 41) else Dec.chk lo hi (v : Int)) := by
      show _ = _
      rw [HR.out, if_neg (by rw [HS1.out]; decide), e2]
    clear e1 e2 hlt hk HTN hvv ha HR
    by_cases h63 : v = 9223372036854775808
    · have HE : Hid (Dec.read f s.size lo hi = (0, .no 41)) := by show _ = _; rw [HR2.out, if_pos (by omega)]
      have q63 : (-(v : Int) == -9223372036854775808) = true := beq_iff_eq.2 (by omega)
      clear HR2 h63
      go_wp2
      refine bodyPost_ret (results_tmp2 rfl _ _ _) rfl ?_
      rw [HE.out]
      exact ⟨_, rfl, rfl, Fr.refl _ _⟩
    · have HE : Hid (Dec.read f s.size lo hi = Dec.chk lo hi (v : Int)) := by show _ = _; rw [HR2.out, if_neg (by omega)]
      have q63 : (-(v : Int) == -9223372036854775808) = false := beq_eq_false_iff_ne.2 (by omega)
      have hv2 : (v : Int) ≤ 9223372036854775807 := by omega
      clear HR2 h63
      by_cases t1 : (v : Int) < lo
      · have HC : Hid (Dec.chk lo hi (v : Int) = (0, .no 41)) := by show _ = _; unfold Dec.chk; rw [if_pos (Or.inl t1)]
        go_wp2
        refine bodyPost_ret (results_tmp2 rfl _ _ _) rfl ?_
        rw [HE.out, HC.out]
        exact ⟨_, rfl, rfl, Fr.refl _ _⟩
      by_cases t2 : hi < (v : Int)
      · have HC : Hid (Dec.chk lo hi (v : Int) = (0, .no 41)) := by show _ = _; unfold Dec.chk; rw [if_pos (Or.inr t2)]
        have t2' : (v : Int) > hi := t2
        go_wp2
        refine bodyPost_ret (results_tmp2 rfl _ _ _) rfl ?_
        rw [HE.out, HC.out]
        exact ⟨_, rfl, rfl, Fr.refl _ _⟩
      have HC : Hid (Dec.chk lo hi (v : Int) = ((v : Int), .ok)) := by show _ = _; unfold Dec.chk; rw [if_neg (by omega)]
      have t2' : ¬ (v : Int) > hi := t2
      go_wp2
      refine bodyPost_ret (results_tmp2 rfl _ _ _) rfl ?_
      rw [HE.out, HC.out]
      exact ⟨_, rfl, rfl, Fr.refl _ _⟩
  · have e1 : s.size - 1 = T.size := by
      have := HTN.out
      have e0 : a = 1 := ha.out.symm.trans HS1.out
      omega
    have e2 : Dec.vl f 1 (s.size - 1) = v := by
      have e0 : a = 1 := ha.out.symm.trans HS1.out
      rw [e1, ← hvv.out, e0]
    have HE : Hid (Dec.read f s.size lo hi = Dec.chk lo hi (-(v : Int))) := by
      show _ = _
      rw [HR.out, if_pos HS1.out, e2, if_neg (by omega)]
    clear e1 e2 hlt hk HTN hvv ha HR
    by_cases t1 : (-(v : Int)) < lo
    · have HC : Hid (Dec.chk lo hi (-(v : Int)) = (0, .no 41)) := by show _ = _; unfold Dec.chk; rw [if_pos (Or.inl t1)]
      go_wp2
      refine bodyPost_ret (results_tmp2 rfl _ _ _) rfl ?_
      rw [HE.out, HC.out]
      exact ⟨_, rfl, rfl, Fr.refl _ _⟩
    by_cases t2 : hi < (-(v : Int))
    · have HC : Hid (Dec.chk lo hi (-(v : Int)) = (0, .no 41)) := by show _ = _; unfold Dec.chk; rw [if_pos (Or.inr t2)]
      have t2' : (-(v : Int)) > hi := t2
      go_wp2
      refine bodyPost_ret (results_tmp2 rfl _ _ _) rfl ?_
      rw [HE.out, HC.out]
      exact ⟨_, rfl, rfl, Fr.refl _ _⟩
    have HC : Hid (Dec.chk lo hi (-(v : Int)) = ((-(v : Int)), .ok)) := by show _ = _; unfold Dec.chk; rw [if_neg (by omega)]
    have t2' : ¬ (-(v : Int)) > hi := t2
    go_wp2
    refine bodyPost_ret (results_tmp2 rfl _ _ _) rfl ?_
    rw [HE.out, HC.out]
    exact ⟨_, rfl, rfl, Fr.refl _ _⟩
end Go.Proofs.YtgklmpooonnmiaaDoor
