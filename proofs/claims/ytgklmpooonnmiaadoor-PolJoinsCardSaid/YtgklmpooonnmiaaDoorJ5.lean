/-
  Lemmas and contracts that the proofs over this seat use (DecRead, DecPrint); no statement of the seat is claimed in this text, and nothing is assumed in it.
-/
import Derived.Test.YtgklmpooonnmiaaDoorJ4
set_option linter.unusedVariables false
set_option linter.unusedSimpArgs false
namespace Go.Proofs.YtgklmpooonnmiaaDoor
open Go.RowKit
namespace Dec
theorem digits_all {f : Nat → Nat} {n a : Nat} (h : digits f n a = n) : ∀ i, a ≤ i → i < n → dig (f i) = true := by
 fun_induction digits f n a with
 | case1 a h1 h2 ih =>
  intro i hi hn
  by_cases e : a = i
  ·subst e; exact h2
  ·exact ih h i (by omega) hn
 | case2 a h1 h2 => intro i hi hn; omega
 | case3 a h1 => intro i hi hn; omega
theorem lead_all {f : Nat → Nat} {n : Nat} (h : lead f n = n) (hn : 0 < n) : sgn f n < n ∧ ∀ i, sgn f n ≤ i → i < n → dig (f i) = true := by
 have hs : sgn f n ≤ 1 := by unfold sgn; split <;> omega
 unfold lead at h
 split at h
 ·omega
 ·rename_i h1
  refine ⟨by omega, ?_⟩
  split at h
  ·omega
  ·rename_i h2
   split at h
   ·intro i hi hn2
    have : i = sgn f n := by omega
    rw [this]; simpa using h2
   ·exact digits_all h
def vl (f : Nat → Nat) (a : Nat) : Nat → Nat
 | 0 => 0
 | k + 1 => vl f a k * 10 + (f (a + k) - 48)
theorem vl_mono (f : Nat → Nat) (a : Nat) {k m : Nat} (h : k ≤ m) : vl f a k ≤ vl f a m := by
 induction m with
 | zero => obtain rfl : k = 0 := by omega
           exact Nat.le_refl _
 | succ m ih =>
  by_cases e : k = m + 1
  ·rw [e]; exact Nat.le_refl _
  ·have := ih (by omega)
   simp only [vl]; omega
def chk (lo hi x : Int) : Int × Er := if x < lo ∨ hi < x then (0, .no 41) else (x, .ok)
def read (f : Nat → Nat) (n : Nat) (lo hi : Int) : Int × Er :=
 if lead f n = 0 ∨ lead f n < n then (0, .pl (lead f n) 40)
 else if sgn f n = 1 then (if 9223372036854775808 < vl f 1 (n - 1) then (0, .no 41) else chk lo hi (-(vl f 1 (n - 1) : Int)))
 else if 9223372036854775808 ≤ vl f 0 n then (0, .no 41) else chk lo hi (vl f 0 n : Int)
theorem quot (d : Nat) (hd : d ≤ 9) : ∃ Q : Nat, Q < 1000000000000000000 ∧ (-9223372036854775808 + (d : Int)).tdiv 10 = -(Q : Int) ∧ ∀ v : Nat, (v ≤ Q ↔ v * 10 + d ≤ 9223372036854775808) := by
 have key : (-9223372036854775808 + (d : Int)).tdiv 10 = -(((9223372036854775808 - d) / 10 : Nat) : Int) := by
  rw [show (-9223372036854775808 + (d : Int)) = -((9223372036854775808 - d : Nat) : Int) by omega, Int.neg_tdiv, Int.tdiv_eq_ediv_of_nonneg (by omega)]
  omega
 exact ⟨_, by omega, key, fun v => by omega⟩
end Dec
theorem ext_at (s : ByteArray) (i : Nat) (h : i < (s.extract 1 s.size).size) : ((s.extract 1 s.size)[i]'h).toNat = bn s (1 + i) := by
 have h1 : 1 + i < s.size := by simp at h; omega
 rw [← bn_at s (1 + i) h1]
 congr 1
 exact ByteArray.getElem_extract _
set_option maxHeartbeats 4000000 in
set_option maxRecDepth 100000 in
theorem dec_read (w : World) (s : ByteArray) (hs : s.size ≤ maxLen) (lo hi : Int) (hlo : -9223372036854775808 ≤ lo ∧ lo ≤ 9223372036854775807) (hhi : -9223372036854775808 ≤ hi ∧ hi ≤ 9223372036854775807) :
  Calls Tryd.prog 67 #[.string s, .int .i64 lo, .int .i64 hi] w fun e w' => ∃ v, e = .returned (.tuple #[.int .i64 (Dec.read (bn s) s.size lo hi).1, v]) ∧ ErV w' w.heap.size (Dec.read (bn s) s.size lo hi).2 v ∧ Fr [] w w' := by
 have hld := dec_lead w s hs
 unfold maxLen at hs
 obtain ⟨f, hf⟩ : ∃ f, Hid (f = bn s) := ⟨_, rfl⟩
 have hex := ext_at s
 rw [← hf.out] at hld hex ⊢
 have HEX := Lib.hid hex
 clear hex
 have hbv : Hid (∀ i, ∀ h : i < s.size, (s[i]'h).toNat = f i) := by rw [hf.out]; exact fun i h => bn_at s i h
 obtain ⟨m, hm⟩ : ∃ m, Dec.lead f s.size = m := ⟨_, rfl⟩
 have hml := Dec.lead_le f s.size
 rw [hm] at hld hml
 by_cases h0 : m = 0 ∨ m < s.size
 ·have HE : Hid (Dec.read f s.size lo hi = (0, .pl m 40)) := by show _ = _; unfold Dec.read; rw [hm, if_pos h0]
  have hq : m = 0 ∨ (((m : Int) == 0) = false ∧ (m : Int) < (s.size : Int)) := by
   by_cases e : m = 0
   ·exact Or.inl e
   ·exact Or.inr ⟨by simp; omega, by omega⟩
  have HLD := Lib.hid hld
  clear hm h0 hld
  rcases hq with rfl | ⟨q1, q2⟩
  all_goals
   go_enter Tryd.func67, Tryd.ntmps67
   go_wp2_with (go_at_call 66; refine HLD.out.mono ?_; rintro e w' ⟨rfl, rfl⟩)
   refine bodyPost_ret (results_tmp2 rfl _ _ _) rfl ?_
   rw [HE.out]
   exact ⟨_, rfl, ErV.new w _ _ 40 (Nat.le_refl _), (Fr.refl _ _).alloc _⟩
 obtain rfl : m = s.size := by omega
 have hn0 : 0 < s.size := by omega
 obtain ⟨hsg, hall⟩ := Dec.lead_all hm hn0
 have HALL := Lib.hid hall
 have q1 : ((s.size : Int) == 0) = false := beq_eq_false_iff_ne.2 (by omega)
 have q2 : ¬ (s.size : Int) < (s.size : Int) := by omega
 have hz0 : (s[0]'hn0).toNat = f 0 := hbv.out 0 hn0
 obtain ⟨c0, hc0⟩ : ∃ c0, f 0 = c0 := ⟨_, rfl⟩
 rw [hc0] at hz0
 have HLD := Lib.hid hld
 have HR : Hid (Dec.read f s.size lo hi = if Dec.sgn f s.size = 1 then (if 9223372036854775808 < Dec.vl f 1 (s.size - 1) then (0, .no 41) else Dec.chk lo hi (-(Dec.vl f 1 (s.size - 1) : Int)))
  else if 9223372036854775808 ≤ Dec.vl f 0 s.size then (0, .no 41) else Dec.chk lo hi (Dec.vl f 0 s.size : Int)) := by
  show _ = _
  unfold Dec.read
  rw [hm, if_neg (show ¬ (s.size = 0 ∨ s.size < s.size) by omega)]
 clear hall hld hm h0
 by_cases h45 : c0 = 45
 case' pos =>
  have hs1 : Dec.sgn f s.size = 1 := by unfold Dec.sgn; rw [if_pos ⟨hn0, hc0.trans h45⟩]
  have q45 : ((c0 : Int) == 45) = true := by rw [h45]; rfl
  obtain ⟨T, hT⟩ : ∃ T, Hid (T = s.extract 1 s.size) := ⟨_, rfl⟩
  have hTv : Hid (∀ i, ∀ h : i < T.size, (T[i]'h).toNat = f (1 + i)) := by rw [hT.out]; exact HEX.out
  have hTs : T.size = s.size - 1 := by rw [hT.out]; simp
  have HTS := Lib.hid hTs
  have hn1 : 1 ≤ (s.size : Int) := by omega
  go_enter Tryd.func67, Tryd.ntmps67
  go_wp2_with (go_at_call 66; refine HLD.out.mono ?_; rintro e w' ⟨rfl, rfl⟩)
  rw [← hT.out, ← hTs]
  clear hTs
 case' neg =>
  have hs1 : Dec.sgn f s.size = 0 := by unfold Dec.sgn; rw [if_neg (fun h => h45 (hc0 ▸ h.2))]
  have q45 : ((c0 : Int) == 45) = false := by simp; omega
  obtain ⟨T, hT⟩ : ∃ T, Hid (T = s) := ⟨_, rfl⟩
  have hTv : Hid (∀ i, ∀ h : i < T.size, (T[i]'h).toNat = f (0 + i)) := by rw [hT.out]; show ∀ i, _; intro i h; rw [Nat.zero_add]; exact hbv.out i h
  have HTS : Hid (T.size = s.size - 0) := by rw [hT.out]; rfl
  go_enter Tryd.func67, Tryd.ntmps67
  go_wp2_with (go_at_call 66; refine HLD.out.mono ?_; rintro e w' ⟨rfl, rfl⟩)
  rw [← hT.out]
 all_goals
  obtain ⟨a, ha⟩ : ∃ a, Hid (Dec.sgn f s.size = a) := ⟨_, rfl⟩
  have hTn : T.size = s.size - a := by rw [← ha.out, hs1]; exact HTS.out
  have hTb : T.size ≤ 9223372036854775807 := by omega
  have hTv2 : Hid (∀ i, ∀ h : i < T.size, (T[i]'h).toNat = f (a + i)) := by rw [← ha.out, hs1]; exact hTv.out
  have hdg : Hid (∀ i, i < T.size → Dec.dig (f (a + i)) = true) := fun i hi => HALL.out (a + i) (by rw [ha.out]; omega) (by omega)
  have HTN := Lib.hid hTn
  have hover : Hid (∀ k, k ≤ T.size → 9223372036854775808 < Dec.vl f a k → Dec.read f s.size lo hi = (0, .no 41)) := fun k hk hv => by
   have h2 := Dec.vl_mono f a hk
   rw [HTN.out] at h2
   rw [HR.out]
   by_cases e : Dec.sgn f s.size = 1
   ·rw [if_pos e, if_pos]
    rw [ha.out] at e; subst e; omega
   ·rw [if_neg e, if_pos]
    first
     | exact absurd hs1 e
     | (have e0 : a = 0 := ha.out.symm.trans hs1
        subst e0; rw [Nat.sub_zero] at h2; omega)
  have HS1 := Lib.hid hs1
  clear hTn hTv HALL hbv HEX HTS hs1 hz0 hc0 hsg h45
  go_loop [10, 36] (fun n t => ∃ k : Nat, k ≤ T.size ∧ t = .int .i64 k ∧ n = .int .i64 (-(Dec.vl f a k : Int)) ∧ Dec.vl f a k ≤ 9223372036854775808) (fun _ t => T.size - (intOf t).toNat)
  case atStart => exact ⟨0, by omega, rfl, rfl, by show 0 ≤ _; omega⟩
  case' round =>
   obtain ⟨k, hk, rfl, rfl, hv⟩ := hrel
   by_cases hlt : k < T.size
   case pos =>
    have hlt' : (k : Int) < (T.size : Int) := by omega
    have hzk := hTv2.out k hlt
    have hd := hdg.out k hlt
    obtain ⟨v, hvv⟩ : ∃ v, Hid (Dec.vl f a k = v) := ⟨_, rfl⟩
    obtain ⟨x, hxx⟩ : ∃ x, Hid (f (a + k) = x) := ⟨_, rfl⟩
    rw [hxx.out] at hd hzk
    have hd48 : 48 ≤ x := by simp [Dec.dig] at hd; omega
    have hd57 : x ≤ 57 := by simp [Dec.dig] at hd; omega
    have hvs : Hid (Dec.vl f a (k + 1) = v * 10 + (x - 48)) := by show _ = _; simp only [Dec.vl]; rw [hvv.out, hxx.out]
    rw [hvv.out] at hv ⊢
    obtain ⟨Q, hQb, hq, hQ⟩ := Dec.quot (x - 48) (by omega)
    have hQ := Lib.hid (hQ v)
    have HV := Lib.hid hv
    rw [show ((x - 48 : Nat) : Int) = (x : Int) - 48 by omega] at hq
    clear hd hv
    by_cases hov : v ≤ Q
    ·have hov2 := hQ.out.1 hov
     have a1 : ¬ (-(v : Int)) < -(Q : Int) := by omega
     have a2 : IntKind.i64.wrap (-(v : Int) * 10) = -(v : Int) * 10 := IntWalk.i64_in _ (by omega)
     have a3 : ¬ (-(v : Int) * 10) < -9223372036854775808 + ((x : Int) - 48) := by omega
     clear hov
     have HQ2 := Lib.hid hov2
     clear hov2
     go_wp2
     go_round
     case rel =>
      refine ⟨k + 1, by omega, by go_num, ?_, by rw [hvs.out]; exact HQ2.out⟩
      rw [hvs.out]
      congr 1
      omega
     case measure => simp [intOf]; omega
    ·have hov2 : 9223372036854775808 < v * 10 + (x - 48) := Nat.lt_of_not_le (fun h => hov (hQ.out.2 h))
     have a1 : (-(v : Int)) < -(Q : Int) := by omega
     have HO : Hid (Dec.read f s.size lo hi = (0, .no 41)) := hover.out (k + 1) (by omega) (by rw [hvs.out]; exact hov2)
     clear hov2 hov hover
     go_wp2
     refine bodyPost_ret (results_tmp2 rfl _ _ _) rfl ?_
     rw [HO.out]
     exact ⟨_, rfl, rfl, Fr.refl _ _⟩
   case' neg =>
    obtain rfl : k = T.size := by omega
    obtain ⟨v, hvv⟩ : ∃ v, Hid (Dec.vl f a T.size = v) := ⟨_, rfl⟩
    rw [hvv.out] at hv ⊢
    clear hover hdg hTv2
 ·have e1 : s.size = T.size := by
   have := HTN.out
   have e0 : a = 0 := ha.out.symm.trans HS1.out
   omega
  have e2 : Dec.vl f 0 s.size = v := by
   have e0 : a = 0 := ha.out.symm.trans HS1.out
   rw [e1, ← hvv.out, e0]
  have HR2 : Hid (Dec.read f s.size lo hi = if 9223372036854775808 ≤ v then (0, .no 41) else Dec.chk lo hi (v : Int)) := by
   show _ = _
   rw [HR.out, if_neg (by rw [HS1.out]; decide), e2]
  clear e1 e2 hlt hk HTN hvv ha HR
  by_cases h63 : v = 9223372036854775808
  ·have HE : Hid (Dec.read f s.size lo hi = (0, .no 41)) := by show _ = _; rw [HR2.out, if_pos (by omega)]
   have q63 : (-(v : Int) == -9223372036854775808) = true := beq_iff_eq.2 (by omega)
   clear HR2 h63
   go_wp2
   refine bodyPost_ret (results_tmp2 rfl _ _ _) rfl ?_
   rw [HE.out]
   exact ⟨_, rfl, rfl, Fr.refl _ _⟩
  ·have HE : Hid (Dec.read f s.size lo hi = Dec.chk lo hi (v : Int)) := by show _ = _; rw [HR2.out, if_neg (by omega)]
   have q63 : (-(v : Int) == -9223372036854775808) = false := beq_eq_false_iff_ne.2 (by omega)
   have hv2 : (v : Int) ≤ 9223372036854775807 := by omega
   clear HR2 h63
   by_cases t1 : (v : Int) < lo
   ·have HC : Hid (Dec.chk lo hi (v : Int) = (0, .no 41)) := by show _ = _; unfold Dec.chk; rw [if_pos (Or.inl t1)]
    go_wp2
    refine bodyPost_ret (results_tmp2 rfl _ _ _) rfl ?_
    rw [HE.out, HC.out]
    exact ⟨_, rfl, rfl, Fr.refl _ _⟩
   by_cases t2 : hi < (v : Int)
   ·have HC : Hid (Dec.chk lo hi (v : Int) = (0, .no 41)) := by show _ = _; unfold Dec.chk; rw [if_pos (Or.inr t2)]
    have t2' : (v : Int) > hi := t2
    go_wp2
    refine bodyPost_ret (results_tmp2 rfl _ _ _) rfl ?_
    rw [HE.out, HC.out]
    exact ⟨_, rfl, rfl, Fr.refl _ _⟩
   have HC : Hid (Dec.chk lo hi (v : Int) = ((v : Int), .ok)) := by show _ = _; unfold Dec.chk; rw [if_neg (by omega)]
   have t2' : ¬ (v : Int) > hi := t2
   go_wp2
   refine bodyPost_ret (results_tmp2 rfl _ _ _) rfl ?_
   rw [HE.out, HC.out]
   exact ⟨_, rfl, rfl, Fr.refl _ _⟩
 ·have e1 : s.size - 1 = T.size := by
   have := HTN.out
   have e0 : a = 1 := ha.out.symm.trans HS1.out
   omega
  have e2 : Dec.vl f 1 (s.size - 1) = v := by
   have e0 : a = 1 := ha.out.symm.trans HS1.out
   rw [e1, ← hvv.out, e0]
  have HE : Hid (Dec.read f s.size lo hi = Dec.chk lo hi (-(v : Int))) := by
   show _ = _
   rw [HR.out, if_pos HS1.out, e2, if_neg (by omega)]
  clear e1 e2 hlt hk HTN hvv ha HR
  by_cases t1 : (-(v : Int)) < lo
  ·have HC : Hid (Dec.chk lo hi (-(v : Int)) = (0, .no 41)) := by show _ = _; unfold Dec.chk; rw [if_pos (Or.inl t1)]
   go_wp2
   refine bodyPost_ret (results_tmp2 rfl _ _ _) rfl ?_
   rw [HE.out, HC.out]
   exact ⟨_, rfl, rfl, Fr.refl _ _⟩
  by_cases t2 : hi < (-(v : Int))
  ·have HC : Hid (Dec.chk lo hi (-(v : Int)) = (0, .no 41)) := by show _ = _; unfold Dec.chk; rw [if_pos (Or.inr t2)]
   have t2' : (-(v : Int)) > hi := t2
   go_wp2
   refine bodyPost_ret (results_tmp2 rfl _ _ _) rfl ?_
   rw [HE.out, HC.out]
   exact ⟨_, rfl, rfl, Fr.refl _ _⟩
  have HC : Hid (Dec.chk lo hi (-(v : Int)) = ((-(v : Int)), .ok)) := by show _ = _; unfold Dec.chk; rw [if_neg (by omega)]
  have t2' : ¬ (-(v : Int)) > hi := t2
  go_wp2
  refine bodyPost_ret (results_tmp2 rfl _ _ _) rfl ?_
  rw [HE.out, HC.out]
  exact ⟨_, rfl, rfl, Fr.refl _ _⟩
end Go.Proofs.YtgklmpooonnmiaaDoor

namespace Go.Proofs.YtgklmpooonnmiaaDoor
open Go.RowKit
namespace Dec
def digs (v : Nat) : List Nat := if v < 10 then [48 + v] else digs (v / 10) ++ [48 + v % 10]
termination_by v
def low (v : Nat) : Nat → List Nat
 | 0 => []
 | j + 1 => (48 + v / 10 ^ j % 10) :: low v j
theorem low_length (v j : Nat) : (low v j).length = j := by
 induction j with
 | zero => rfl
 | succ j ih => simp [low, ih]
theorem low_snoc (v j : Nat) : low v (j + 1) = low (v / 10) j ++ [48 + v % 10] := by
 induction j with
 | zero => simp [low]
 | succ j ih =>
  rw [low, ih]
  conv => rhs; rw [low]
  rw [List.cons_append, Nat.div_div_eq_div_mul, Nat.pow_succ']
theorem digs_low (j : Nat) : ∀ v, v / 10 ^ (j + 1) = 0 → (j = 0 ∨ 0 < v / 10 ^ j) → digs v = low v (j + 1) := by
 induction j with
 | zero =>
  intro v h _
  have : v < 10 := by
   rcases Nat.lt_or_ge v 10 with h2 | h2
   ·exact h2
   ·have := Nat.div_pos h2 (by decide : 0 < 10); simp at h; omega
  rw [digs, if_pos this]
  simp [low, Nat.mod_eq_of_lt this]
 | succ j ih =>
  intro v h h2
  have h3 : 0 < v / 10 ^ (j + 1) := by rcases h2 with h2 | h2; omega; exact h2
  have h4 : ¬ v < 10 := fun hc => by
   have : v / 10 ^ (j + 1) = 0 := Nat.div_eq_of_lt (Nat.lt_of_lt_of_le hc (by rw [Nat.pow_succ]; have : 0 < 10 ^ j := Nat.pow_pos (by decide); omega))
   omega
  rw [digs, if_neg h4, low_snoc, ih]
  ·rw [Nat.div_div_eq_div_mul, ← Nat.pow_succ']; exact h
  ·right
   rw [Nat.div_div_eq_div_mul, ← Nat.pow_succ']; exact h3
def print (n : Int) : List Nat := if n < 0 then 45 :: digs n.natAbs else digs n.natAbs
end Dec
theorem run_cutA {P : Program} {t : TypeId} {n : Nat} {e : TypeId} (ht : P.underlying t = some (.array n e)) (he : (P.info? e).map (·.size) = some 1) (b o k : Nat) (h : k < n) (w : World) :
  (Instr.sliceAt t (.pointer (some ⟨b, o, none⟩)) (some (.int .i64 (k : Int))) none none).run P w = .ok (.slice (some ⟨b, o + k, none⟩) (n - k) (n - k)) w := by
 cases hq : P.info? e with
 | none => simp [hq] at he
 | some i =>
  have hs : i.size = 1 := by simpa [hq] using he
  simp [Instr.sliceAt, Instr.sureAddr, run_underlying ht, Instr.sliceBounds, run_sliceBound, sizeOf, typeInfo, hq, hs, Nat.le_of_lt h, Nat.ne_of_gt h, Addr.add_mid, slicedAt, sliced]
theorem zrow_set (p x : Nat) (L : List Nat) : (u8s (List.replicate (p + 1) 0 ++ L)).toArray.setIfInBounds p (.int .u8 (x : Int)) = (u8s (List.replicate p 0 ++ x :: L)).toArray := by
 rw [List.replicate_succ']
 simp [u8s, List.set_append]
theorem str_cells {w : World} {g o n c : Nat} {D : List Nat} (hn : D.length = n) (h : ∀ i (x : Nat), D[i]? = some x → w.cell? ⟨g, o + i, none⟩ = some (.int .u8 (x : Nat))) :
  (convert 36 9 (.slice (some ⟨g, o, none⟩) n c)).run Tryd.prog w = .ok (.string (ba D)) w := by
 rw [run_convert_bytes_string w 36 9 5 _ n c Tryd.underlying36 Tryd.underlying5 Tryd.underlying9]
 rw [run_bytesToString w ⟨g, o, none⟩ n c (D.map fun (x : Nat) => (x : Int)) ?_, foldl_push]
 ·simp [ba]
 ·have := run_loadCells_list (P := Tryd.prog) w ⟨g, o, none⟩ (u8s D) (fun j u hj => by
   obtain ⟨x, hx, rfl⟩ : ∃ x, D[j]? = some x ∧ u = .int .u8 ((x : Nat) : Int) := by
    simp only [u8s, List.getElem?_map, Option.map_eq_some_iff] at hj
    obtain ⟨x, hx, rfl⟩ := hj
    exact ⟨x, hx, rfl⟩
   have hadd : (⟨g, o, none⟩ : Addr).add j = ⟨g, o + j, none⟩ := by unfold Addr.add; split <;> simp_all
   rw [hadd]; exact h j x hx)
  rw [u8s_length, hn] at this
  rw [this, u8s_ints]
theorem zrow_cell {w : World} {g p t : Nat} {fr : Nat × Nat} {L : List Nat} (h : w.heap[g]? = some (.cells (u8s (List.replicate (p + 1) 0 ++ L)).toArray t fr)) (i : Nat) (hi : i ≤ p) : w.cell? ⟨g, i, none⟩ = some (.int .u8 0) := by
 rw [cell_of_row _ _ _ _ _ _ h]
 simp [u8s, List.getElem?_append, List.getElem?_replicate, show i < p + 1 by omega]
theorem tail_cells {w : World} {g q t : Nat} {fr : Nat × Nat} {L : List Nat} (h : w.heap[g]? = some (.cells (u8s (List.replicate q 0 ++ L)).toArray t fr)) :
  ∀ i (x : Nat), L[i]? = some x → w.cell? ⟨g, q + i, none⟩ = some (.int .u8 (x : Nat)) := by
 intro i x hx
 rw [cell_of_row _ _ _ _ _ _ h]
 simp [u8s, List.getElem?_append, hx]
set_option maxHeartbeats 4000000 in
set_option maxRecDepth 100000 in
theorem dec_print (w : World) (n : Int) (hn : -9223372036854775808 ≤ n ∧ n ≤ 9223372036854775807) :
  Calls Tryd.prog 28 #[.int .i64 n] w fun e w' => e = .returned (.string (ba (Dec.print n))) ∧ Fr [] w w' := by
 obtain ⟨v, hv⟩ : ∃ v, n.natAbs = v := ⟨_, rfl⟩
 have hvb : v ≤ 9223372036854775808 := by omega
 have hP : Hid (Dec.print n = if n < 0 then 45 :: Dec.digs v else Dec.digs v) := by show _ = _; rw [Dec.print, hv]
 have he8 : (Tryd.prog.info? 5).map (·.size) = some 1 := by kernel_rfl
 have HCUT := Lib.hid (fun b k h W => run_cutA Tryd.underlying100 he8 b 0 k h W)
 clear he8
 by_cases h0 : 0 < n
 case' pos =>
  have hnv : n = (v : Int) := by omega
  have hz : True := trivial
  have hv0 : decide (0 < v) = true := by simp; omega
  have hv1 : ¬ (v : Int) < 0 := by omega
  have h0' : n > 0 := h0
  have HP : Hid (Dec.print n = Dec.digs v) := by show _ = _; rw [hP.out, if_neg (by omega)]
  go_enter Tryd.func28, Tryd.ntmps28
  go_wp2
 case' neg =>
  have hnv : n = -(v : Int) := by omega
  have h0' : ¬ n > 0 := h0
  have hv0 : decide ((v : Int) < 0) = false := by simp
  by_cases hz : v = 0
  case' pos =>
   have HP : Hid (Dec.print n = Dec.digs v) := by show _ = _; rw [hP.out, if_neg (by omega)]
   have hv1 : ¬ n < 0 := by omega
   go_enter Tryd.func28, Tryd.ntmps28
   go_wp2
  case' neg =>
   have HP : Hid (Dec.print n = 45 :: Dec.digs v) := by show _ = _; rw [hP.out, if_pos (by omega)]
   have hv1 : n < 0 := by omega
   go_enter Tryd.func28, Tryd.ntmps28
   go_wp2
 all_goals
  have HNV := Lib.hid hnv
  have HV := Lib.hid hv
  clear hnv hv
  have hrow : (w.alloc (.cells (u8s (List.replicate (18 + 1 + 1) 0 ++ [])).toArray 100)).heap[w.heap.size]? = some (.cells (u8s (List.replicate (18 + 1 + 1) 0 ++ [])).toArray 100 (0, 0)) := heap_alloc_last _ _
  refine wp_fresh (fun W => W.heap[w.heap.size]? = some (.cells (u8s (List.replicate (18 + 1 + 1) 0 ++ [])).toArray 100 (0, 0)) ∧ Fr [] w W) ⟨hrow, (Fr.refl _ _).alloc _⟩ ?_
  clear hrow
  rintro W ⟨hrow, hF⟩
  have HROW := Lib.hid hrow
  have HF := Lib.hid hF
  clear hrow hF
  generalize hg : w.heap.size = g at *
  have HG := Lib.hid hg
  have HZ := Lib.hid hz
  clear hg hz
  go_loopw [4, 5] (fun t l W => ∃ q j x : Nat, q + 2 + j = 20 ∧ j ≤ 18 ∧ t = .int .i64 ((q : Int) + 1 + 1) ∧ l = .int .i64 (-(x : Int)) ∧ x = v / 10 ^ j ∧ (j = 0 ∨ 0 < x) ∧ W.heap[g]? = some (.cells (u8s (List.replicate (q + 1 + 1) 0 ++ Dec.low v j)).toArray 100 (0, 0)) ∧ Fr [] w W) (fun t _ _ => (intOf t).toNat)
  case atStart => exact ⟨18, 0, v, by omega, by omega, rfl, by first | rfl | (rw [HZ.out]; rfl), by simp, Or.inl rfl, HROW.out, HF.out⟩
  case' round =>
   clear HROW HF
   obtain ⟨q, j, x, hqj, hj, rfl, rfl, hx, hjx, hrow, hF⟩ := hrel
   have f1 := frozen_of_row _ _ (q + 1) _ _ hrow
   have f0 := frozen_of_row _ _ q _ _ hrow
   have c1 := zrow_cell hrow (q + 1) (by omega)
   have c0 := zrow_cell hrow q (by omega)
   have hrow2 := heap_setCell_same _ g (q + 1) _ _ (.int .u8 ((48 + x % 10 : Nat) : Int)) hrow
   rw [zrow_set] at hrow2
   have hxl : x ≤ v := by rw [hx]; exact Nat.div_le_self _ _
   obtain ⟨d, hd⟩ : ∃ d, Hid (x % 10 = d) := ⟨_, rfl⟩
   obtain ⟨y, hy⟩ : ∃ y, Hid (x / 10 = y) := ⟨_, rfl⟩
   have r1 : (-(x : Int)).tmod 10 = -(d : Int) := by rw [Int.neg_tmod, Int.tmod_eq_emod_of_nonneg (by omega)]; have := hd.out; omega
   have r2 : (-(x : Int)).tdiv 10 = -(y : Int) := by rw [Int.neg_tdiv, Int.tdiv_eq_ediv_of_nonneg (by omega)]; have := hy.out; omega
   have hd9 : d ≤ 9 := by have := hd.out; omega
   have hyb : y ≤ 1000000000000000000 := by have := hy.out; omega
   have hlow : Hid (Dec.low v (j + 1) = (48 + d) :: Dec.low v j) := by show _ = _; rw [Dec.low, ← hx, hd.out]
   have hy2 : Hid (y = v / 10 ^ (j + 1)) := by show _ = _; rw [← hy.out, hx, Nat.div_div_eq_div_mul, Nat.pow_succ]
   rw [hd.out, ← hlow.out, show ((48 + d : Nat) : Int) = 48 + (d : Int) by omega] at hrow2
   have hcap : q ≤ 18 := by omega
   have HX := Lib.hid hx
   have HROW := Lib.hid hrow2
   have HF : Hid (Fr [] w (wr.setCell ⟨g, q + 1, none⟩ (.int .u8 (48 + (d : Int))))) := hF.setCell (.inr (by rw [HG.out]; exact Nat.le_refl _)) _
   have w1 : IntKind.u8.wrap (48 + (d : Int)) = 48 + (d : Int) := by rw [IntKind.wrap_u8]; omega
   have HQJ := Lib.hid hqj
   have HJX := Lib.hid hjx
   clear hrow2 hx hF hrow hqj hjx
   by_cases hy0 : y = 0
   case neg =>
    have q0 : (-(y : Int) == 0) = false := beq_eq_false_iff_ne.2 (by omega)
    have hj18 : j + 1 ≤ 18 := by
     rcases Nat.lt_or_ge j 18 with h | h
     ·omega
     ·exfalso
      obtain rfl : j = 18 := by omega
      have := hy2.out
      omega
    have hq1 : Hid (∃ q', q = q' + 1) := ⟨q - 1, by have := HQJ.out; omega⟩
    go_wp2
    go_roundw
    case rel =>
     obtain ⟨q', hq'⟩ := hq1.out
     have hr := HROW.out
     have hqj := HQJ.out
     subst hq'
     exact ⟨q', j + 1, y, by omega, hj18, by go_num, rfl, hy2.out, Or.inr (by omega), hr, HF.out⟩
    case measure => simp [intOf]; omega
   case' pos =>
    have q0 : (-(y : Int) == 0) = true := beq_iff_eq.2 (by omega)
    have HDG := Lib.hid (Dec.digs_low j v (by rw [← hy2.out]; exact hy0) (by have h1 := HJX.out; rw [HX.out] at h1; exact h1))
    clear hy2 hy0
 ·have hrow3 : ((wr.setCell ⟨g, q + 1, none⟩ (.int .u8 (48 + (d : Int)))).setCell ⟨g, q, none⟩ (.int .u8 45)).heap[g]? = some (.cells (u8s (List.replicate q 0 ++ 45 :: Dec.low v (j + 1))).toArray 100 (0, 0)) := by
   have := heap_setCell_same _ g q _ _ (.int .u8 ((45 : Nat) : Int)) HROW.out
   rw [zrow_set] at this
   exact this
  have hn2 : (45 :: Dec.low v (j + 1)).length = 20 - q := by rw [List.length_cons, Dec.low_length]; have := HQJ.out; omega
  have cut : ∀ W, (Instr.sliceAt 100 (.pointer (some ⟨g, 0, none⟩)) (some (.int .i64 (q : Int))) none none).run Tryd.prog W = .ok (.slice (some ⟨g, q, none⟩) (20 - q) (20 - q)) W := fun W => by
   have := HCUT.out g q (by omega) W
   rwa [Nat.zero_add] at this
  have cvs := str_cells (n := 20 - q) (c := 20 - q) hn2 (tail_cells hrow3)
  have HF3 := Lib.hid (HF.out.setCell (p := ⟨g, q, none⟩) (.inr (by rw [HG.out]; exact Nat.le_refl _)) (.int .u8 45))
  clear hn2 hrow3 HROW
  have hv2 : -(v : Int) < 0 := by have := HNV.out; omega
  go_wp2
  refine bodyPost_ret (results_tmp rfl _ _ _) rfl ?_
  rw [HP.out, HDG.out]
  exact ⟨rfl, HF3.out⟩
 ·have hn2 : (Dec.low v (j + 1)).length = 19 - q := by rw [Dec.low_length]; have := HQJ.out; omega
  have cut : ∀ W, (Instr.sliceAt 100 (.pointer (some ⟨g, 0, none⟩)) (some (.int .i64 ((q : Int) + 1))) none none).run Tryd.prog W = .ok (.slice (some ⟨g, q + 1, none⟩) (19 - q) (19 - q)) W := fun W => by
   have := HCUT.out g (q + 1) (by omega) W
   rwa [Nat.zero_add, show 20 - (q + 1) = 19 - q by omega] at this
  have cvs := str_cells (n := 19 - q) (c := 19 - q) hn2 (tail_cells HROW.out)
  clear hn2 HROW
  go_wp2
  refine bodyPost_ret (results_tmp rfl _ _ _) rfl ?_
  rw [HP.out, HDG.out]
  exact ⟨rfl, HF.out⟩
 ·have hn2 : (Dec.low v (j + 1)).length = 19 - q := by rw [Dec.low_length]; have := HQJ.out; omega
  have cut : ∀ W, (Instr.sliceAt 100 (.pointer (some ⟨g, 0, none⟩)) (some (.int .i64 ((q : Int) + 1))) none none).run Tryd.prog W = .ok (.slice (some ⟨g, q + 1, none⟩) (19 - q) (19 - q)) W := fun W => by
   have := HCUT.out g (q + 1) (by omega) W
   rwa [Nat.zero_add, show 20 - (q + 1) = 19 - q by omega] at this
  have cvs := str_cells (n := 19 - q) (c := 19 - q) hn2 (tail_cells HROW.out)
  clear hn2 HROW
  go_wp2
  refine bodyPost_ret (results_tmp rfl _ _ _) rfl ?_
  rw [HP.out, HDG.out]
  exact ⟨rfl, HF.out⟩
end Go.Proofs.YtgklmpooonnmiaaDoor
