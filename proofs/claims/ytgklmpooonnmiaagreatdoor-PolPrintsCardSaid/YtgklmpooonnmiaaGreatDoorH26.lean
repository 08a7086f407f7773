/-
  Lemmas and contracts that the proofs over this seat use (RefQuote, RefPrint, RefText1, RefText2); no statement of the seat is claimed in this text, and nothing is assumed in it.
-/
import Derived.Test.YtgklmpooonnmiaaGreatDoorH2
import Derived.Test.YtgklmpooonnmiaaGreatDoorH25
import Derived.Test.YtgklmpooonnmiaaGreatDoorH3
import Derived.Deep.LoopGhost
import Derived.Test.YtgklmpooonnmiaaGreatDoorH17
import Derived.Deep.RegionHeld3
set_option linter.unusedVariables false
set_option linter.unusedSimpArgs false
namespace Go.Proofs.YtgklmpooonnmiaaGreatDoor
open Go.RowKit
set_option maxHeartbeats 4000000 in
set_option maxRecDepth 100000 in
theorem ref_quote (w : World) (s : ByteArray) (hs : s.size ≤ 100000000) :
  Calls Tryz.prog 38 #[.string s] w fun e w' => e = .returned (.tuple #[.string (ba ((Lex.quote s).getD [])), .bool (Lex.quote s).isSome]) ∧ Fr [] w w' := by
 have HCH := Lib.hid (ref_bad w s (by unfold maxLen; omega))
 obtain ⟨b, hb⟩ : ∃ b, Hid (Utf.bad (bn s) s.size 0 = b) := ⟨_, rfl⟩
 rw [hb.out] at HCH
 go_enter Tryz.func38, Tryz.ntmps38
 go_wp2_with fail
 refine HCH.out.mono ?_
 rintro e w1 ⟨rfl, hF⟩
 have HF1 := Lib.hid hF
 clear hF HCH
 cases b with
 | some p =>
  have HQ : Hid (Lex.quote s = none) := by show _ = _; unfold Lex.quote; rw [hb.out]; simp
  clear hb
  simp only [letZ]
  have hp : (p : Int) ≥ 0 := by omega
  go_wp2_with fail
  go_ret2
  rw [HQ.out]
  exact ⟨rfl, HF1.out⟩
 | none =>
  simp only [letZ]
  go_wp2_with fail
  have hle := HF1.out.size
  have hown0 : (w1.alloc (.cells #[.int .u8 34] 5)).ownsRow w.heap.size 5 1 (.slice (some ⟨w1.heap.size, 0, none⟩) 1 1) (1 + (Lex.esc ((nats s).take 0)).length) (u8s (34 :: Lex.esc ((nats s).take 0))) :=
   ⟨rfl, Or.inr ⟨_, 1, _, rfl, hle, heap_alloc_last _ _, by simp [Lex.esc], by decide, rfl, rfl⟩⟩
  refine wp_fresh (fun W => W.ownsRow w.heap.size 5 1 (.slice (some ⟨w1.heap.size, 0, none⟩) 1 1) (1 + (Lex.esc ((nats s).take 0)).length) (u8s (34 :: Lex.esc ((nats s).take 0))) ∧ Fr [] w W) ⟨hown0, HF1.out.alloc _⟩ ?_
  rintro W0 ⟨ho0, hF0⟩
  have HO0 := Lib.hid ho0
  have HF0 := Lib.hid hF0
  clear hown0 ho0 hF0 HF1 hle
  go_loopw [4, 5] (fun v t W => ∃ k : Nat, k ≤ s.size ∧ t = .int .i64 k ∧ W.ownsRow w.heap.size 5 1 v (1 + (Lex.esc ((nats s).take k)).length) (u8s (34 :: Lex.esc ((nats s).take k))) ∧ Fr [] w W ∧ ((nats s).take k).all (fun c => 32 ≤ c) = true) (fun _ t _ => s.size - (intOf t).toNat)
  case atStart => exact ⟨0, by omega, rfl, HO0.out, HF0.out, rfl⟩
  case round =>
   clear HO0 HF0
   obtain ⟨k, hk, rfl, ho, hF, hall⟩ := hrel
   have HO := Lib.hid ho
   have HF := Lib.hid hF
   have HA := Lib.hid hall
   clear ho hF hall
   have HEL := Lib.hid (Lex.esc_length ((nats s).take k))
   have HTL : Hid (((nats s).take k).length ≤ 100000000) := by show _ ≤ _; rw [List.length_take, nats_length]; omega
   by_cases hlt : k < s.size
   ·have hlt' : (k : Int) < (s.size : Int) := by omega
    have hbv := Lib.hid (bn_at s k)
    have hbl := bn_lt s k
    have HC := Lib.hid (bn_cons s k hlt)
    obtain ⟨c, hc⟩ : ∃ c, Hid (bn s k = c) := ⟨_, rfl⟩
    rw [hc.out] at hbv hbl HC
    have hz : (s[k]'hlt).toNat = c := hbv.out hlt
    clear hbv
    by_cases h32 : c < 32
    ·have h32' : (c : Int) < 32 := by omega
     have HQ : Hid (Lex.quote s = none) := by
      show _ = _
      unfold Lex.quote
      rw [if_neg]
      rintro ⟨_, h⟩
      have h2 := List.all_eq_true.1 h c (by
       have hm : c ∈ (nats s).take (k + 1) := by rw [HC.out]; simp
       exact List.mem_of_mem_take hm)
      simp at h2; omega
     clear hc hb
     go_wp2_with fail
     go_ret2
     rw [HQ.out]
     exact ⟨rfl, HF.out⟩
    ·have h32' : ¬ (c : Int) < 32 := by omega
     have HA2 : Hid (((nats s).take (k + 1)).all (fun c => 32 ≤ c) = true) := by show _ = _; rw [HC.out, List.all_append, HA.out]; simp; omega
     by_cases hq : c = 34 ∨ c = 92
     ·have HE : Hid (Lex.esc ((nats s).take (k + 1)) = Lex.esc ((nats s).take k) ++ [92, c]) := by show _ = _; rw [HC.out, Lex.esc_snoc, if_pos hq]
      have hlen : 1 + (Lex.esc ((nats s).take k)).length < 300000000 := by have := HEL.out; have := HTL.out; omega
      have ce1 : ((c : Int) == 34) = true ∨ ((c : Int) == 34) = false ∧ ((c : Int) == 92) = true := by
       by_cases e : c = 34
       ·exact Or.inl (by rw [e]; rfl)
       ·refine Or.inr ⟨by simp; omega, by simp; omega⟩
      have HLEN := Lib.hid hlen
      clear hlen
      rcases ce1 with ce1 | ⟨ce1, ce2⟩
      all_goals
       go_wp2_with (at_builtin; refine app8 rfl (.tmp 30) (.tmp 31) rfl w _ _ _ 92 rfl rfl HO.out HF.out (by have := HLEN.out; omega) ?_)
       intro v1 w2 ho1 hf1
       have HO1 := Lib.hid ho1
       have HF1 := Lib.hid hf1
       clear ho1 hf1
       go_wp2_with (at_builtin; refine app8 rfl (.tmp 33) (.tmp 37) rfl w _ _ _ c rfl rfl HO1.out HF1.out (by have := HLEN.out; omega) ?_)
       intro v2 w3 ho2 hf2
       rw [← HE.out, show 1 + (Lex.esc ((nats s).take k)).length + 1 + 1 = 1 + (Lex.esc ((nats s).take (k + 1))).length by rw [HE.out]; simp; omega] at ho2
       have HO2 := Lib.hid ho2
       have HF2 := Lib.hid hf2
       clear ho2 hf2
       go_wp2_with fail
       go_roundw
       case rel => first | exact ⟨k + 1, by omega, by go_num, HO2.out, HF2.out, HA2.out⟩ | ((repeat apply Exists.intro); exact ⟨⟨k + 1, by omega, by go_num, HO2.out, HF2.out, HA2.out⟩, rfl⟩)
       case measure => simp [intOf]; omega
     ·have HE : Hid (Lex.esc ((nats s).take (k + 1)) = Lex.esc ((nats s).take k) ++ [c]) := by show _ = _; rw [HC.out, Lex.esc_snoc, if_neg hq]
      have hlen : 1 + (Lex.esc ((nats s).take k)).length < 300000000 := by have := HEL.out; have := HTL.out; omega
      have ce1 : ((c : Int) == 34) = false := by simp; omega
      have ce2 : ((c : Int) == 92) = false := by simp; omega
      have HLEN := Lib.hid hlen
      clear hlen hq
      go_wp2_with (at_builtin; refine app8 rfl (.tmp 33) (.tmp 37) rfl w _ _ _ c rfl rfl HO.out HF.out (by have := HLEN.out; omega) ?_)
      intro v2 w3 ho2 hf2
      rw [← HE.out, show 1 + (Lex.esc ((nats s).take k)).length + 1 = 1 + (Lex.esc ((nats s).take (k + 1))).length by rw [HE.out]; simp; omega] at ho2
      have HO2 := Lib.hid ho2
      have HF2 := Lib.hid hf2
      clear ho2 hf2
      go_wp2_with fail
      go_roundw
      case rel => first | exact ⟨k + 1, by omega, by go_num, HO2.out, HF2.out, HA2.out⟩ | ((repeat apply Exists.intro); exact ⟨⟨k + 1, by omega, by go_num, HO2.out, HF2.out, HA2.out⟩, rfl⟩)
      case measure => simp [intOf]; omega
   ·obtain rfl : k = s.size := by omega
    have ht : (nats s).take s.size = nats s := List.take_of_length_le (by rw [nats_length]; exact Nat.le_refl _)
    rw [ht] at HO HA HEL HTL
    have HQ : Hid (Lex.quote s = some (34 :: (Lex.esc (nats s) ++ [34]))) := by
     show _ = _
     unfold Lex.quote
     rw [if_pos ⟨hb.out, HA.out⟩]
    clear ht hb
    go_wp2_with (at_builtin; refine app8 rfl (.tmp 39) (.tmp 40) rfl w _ _ _ 34 rfl rfl HO.out HF.out (by have := HEL.out; have := HTL.out; omega) ?_)
    intro v2 w3 ho2 hf2
    have cv2 := owns_str ho2
    have HF2 := Lib.hid hf2
    clear ho2 hf2
    go_wp2_with fail
    go_ret2
    rw [HQ.out]
    exact ⟨rfl, HF2.out⟩
end Go.Proofs.YtgklmpooonnmiaaGreatDoor

namespace Go.Proofs.YtgklmpooonnmiaaGreatDoor
open Go.RowKit
theorem ba_cons (c : Nat) (l : List Nat) : ba [c] ++ ba l = ba (c :: l) := by
 simp [ba, ByteArray.append_eq, ByteArray.append]
 ext1
 simp
theorem Dec.digs_len (v : Nat) (h : v < 10 ^ 19) : (Dec.digs v).length ≤ 19 := by
 have : ∀ k v, v < 10 ^ (k + 1) → (Dec.digs v).length ≤ k + 1 := by
  intro k
  induction k with
  | zero => intro v h; rw [Dec.digs, if_pos (by omega)]; simp
  | succ k ih =>
   intro v h
   rw [Dec.digs]
   split
   ·simp
   ·rw [List.length_append]
    have := ih (v / 10) (by rw [Nat.pow_succ] at h; omega)
    simp only [List.length_singleton]; omega
 exact this 18 v h
set_option maxHeartbeats 4000000 in
set_option maxRecDepth 100000 in
theorem ref_print_nat (w : World) (v : Nat) (hv : v ≤ 9223372036854775807) :
  Calls Tryz.prog 71 #[.int .i64 v] w fun e w' => e = .returned (.string (ba (Dec.digs v))) ∧ Fr [] w w' := by
 have h0 : ¬ (v : Int) < 0 := by omega
 have h0' : ((v : Int) == -9223372036854775808) = false := beq_eq_false_iff_ne.2 (by omega)
 have HV := Lib.hid hv
 go_enter Tryz.func71, Tryz.ntmps71
 go_wp2_with fail
 go_loopg [0, 3] 20 (fun q n t W => ∃ j x : Nat, j ≤ 18 ∧ q = 20 - j ∧ n = .int .i64 x ∧ t = .string (ba (Dec.low v j)) ∧ Hid (x = v / 10 ^ j) ∧ (j = 0 ∨ 0 < x) ∧ Hid (Fr [] w W))
 case atStart => exact ⟨0, v, by omega, rfl, rfl, rfl, by show _ = _; simp, Or.inl rfl, Fr.refl _ _⟩
 case round =>
  obtain ⟨j, x, hj, hq, rfl, rfl, HX, hjx, HF⟩ := hrel
  have HQ := Lib.hid hq
  clear hq
  have hxv : x ≤ 9223372036854775807 := by rw [HX.out]; exact Nat.le_trans (Nat.div_le_self _ _) HV.out
  have HX2 : Hid (x / 10 = v / 10 ^ (j + 1)) := by show _ = _; rw [HX.out, Nat.div_div_eq_div_mul, Nat.pow_succ]
  have hLL : (Dec.low v j).length = j := Dec.low_length v j
  have cv := str_new wr #[.int .u8 (48 + (x : Int) % 10)] [48 + x % 10] (by simp [u8s]) 1 rfl (by decide)
  have HC : Hid (ba [48 + x % 10] ++ ba (Dec.low v j) = ba (Dec.low v (j + 1))) := by show _ = _; rw [ba_cons, HX.out]; rfl
  obtain ⟨A, hA⟩ : ∃ A, Hid (ba [48 + x % 10] = A) := ⟨_, rfl⟩
  obtain ⟨B, hB⟩ : ∃ B, Hid (ba (Dec.low v j) = B) := ⟨_, rfl⟩
  have hAs : A.size = 1 := by rw [← hA.out]; simp
  have hBs : B.size = j := by rw [← hB.out, ba_size, hLL]
  rw [hA.out] at cv HC
  rw [hB.out] at HC
  have hsz : ¬ 9223372036854775807 < A.size + B.size := by omega
  have HJX := Lib.hid hjx
  clear hjx hLL
  simp only [hB.out]
  by_cases hx0 : x / 10 = 0
  ·have hx0' : ((x : Int) / 10 == 0) = true := beq_iff_eq.2 (by omega)
   have HDG := Lib.hid (Dec.digs_low j v (by rw [← HX2.out]; exact hx0) (by have h1 := HJX.out; rw [HX.out] at h1; exact h1))
   go_wp2_with fail
   go_ret
   rw [HDG.out]
   exact ⟨by rw [HC.out]; rfl, HF.out.alloc _⟩
  ·have hx0' : ((x : Int) / 10 == 0) = false := beq_eq_false_iff_ne.2 (by omega)
   have hj18 : Hid (j + 1 ≤ 18) := by
    show _ ≤ _
    rcases Nat.lt_or_ge j 18 with h | h
    ·omega
    ·exfalso
     obtain rfl : j = 18 := by omega
     have h2 := HX2.out
     have h3 := HV.out
     omega
   have HFA := Lib.hid (HF.out.alloc (.cells #[.int .u8 (48 + (x : Int) % 10)] 5))
   go_wp2_with fail
   go_roundg (20 - (j + 1))
   case measure => have := HQ.out; omega
   case rel => exact ⟨j + 1, x / 10, hj18.out, rfl, by go_num, by rw [HC.out], HX2.out, Or.inr (by omega), HFA.out⟩
set_option maxHeartbeats 4000000 in
set_option maxRecDepth 100000 in
theorem ref_print (w : World) (n : Int) (hn : -9223372036854775807 ≤ n ∧ n ≤ 9223372036854775807) :
  Calls Tryz.prog 71 #[.int .i64 n] w fun e w' => e = .returned (.string (ba (Dec.print n))) ∧ Fr [] w w' := by
 by_cases h : n < 0
 ·obtain ⟨v, rfl⟩ : ∃ v : Nat, n = -(v : Int) := ⟨n.natAbs, by omega⟩
  have HD : Hid (Dec.print (-(v : Int)) = 45 :: Dec.digs v) := by show _ = _; rw [Dec.print, if_pos h, Int.natAbs_neg, Int.natAbs_natCast]
  have HP := Lib.hid (fun W => ref_print_nat W v (by omega))
  have h0' : (-(v : Int) == -9223372036854775808) = false := beq_eq_false_iff_ne.2 (by omega)
  obtain ⟨B, hB⟩ : ∃ B, Hid (ba (Dec.digs v) = B) := ⟨_, rfl⟩
  have hBs : B.size ≤ 100 := by
   rw [← hB.out, ba_size]
   have hl := Dec.digs_len v (by omega)
   omega
  have HC : Hid (ba (Dec.print (-(v : Int))) = ⟨#[45]⟩ ++ B) := by show _ = _; rw [HD.out, ← ba_cons, hB.out]; rfl
  have hsz : ¬ 9223372036854775807 < 1 + B.size := by omega
  have hn2 : - -(v : Int) = v := by omega
  rw [HC.out]
  simp only [hB.out] at HP
  clear HD hB
  go_enter Tryz.func71, Tryz.ntmps71
  go_wp2_with fail
  refine (HP.out _).mono ?_
  rintro e w1 ⟨rfl, hf⟩
  have hf2 := hf
  go_wp2_with fail
  go_ret
  exact ⟨rfl, hf2⟩
 ·obtain ⟨v, rfl⟩ : ∃ v : Nat, n = (v : Int) := ⟨n.toNat, by omega⟩
  have HD : Dec.print (v : Int) = Dec.digs v := by rw [Dec.print, if_neg h, Int.natAbs_natCast]
  rw [HD]
  exact ref_print_nat w v (by omega)
end Go.Proofs.YtgklmpooonnmiaaGreatDoor

namespace Go.Proofs.YtgklmpooonnmiaaGreatDoor
open Go.RowKit
theorem ba_of {s : ByteArray} {l : List Nat} (h : nats s = l) : s = ba l := by rw [← h, ba_nats]
set_option maxHeartbeats 4000000 in
set_option maxRecDepth 100000 in
theorem ref_bind (w : World) (op : Int) (h1 : 1 ≤ op) (h2 : op ≤ 14) : Calls Tryz.prog 70 #[.int .i64 op] w fun e w' => e = .returned (.int .i64 (Pol.level op)) ∧ w = w' := by
 by_cases h5 : op ≤ 5
 ·have HE : Hid (Pol.level op = 5) := by show _ = _; unfold Pol.level; rw [if_neg (by omega), if_neg (by omega), if_neg (by omega), if_neg (by omega)]
  go_enter Tryz.func70, Tryz.ntmps70
  go_wp2_with fail
  go_ret
  rw [HE.out]
  exact ⟨rfl, rfl⟩
 by_cases h6 : op = 6
 ·subst h6
  go_enter Tryz.func70, Tryz.ntmps70
  go_wp2_with fail
  go_ret
  exact ⟨rfl, rfl⟩
 by_cases h7 : op = 7
 ·subst h7
  go_enter Tryz.func70, Tryz.ntmps70
  go_wp2_with fail
  go_ret
  exact ⟨rfl, rfl⟩
 by_cases h8 : op = 8
 ·subst h8
  go_enter Tryz.func70, Tryz.ntmps70
  go_wp2_with fail
  go_ret
  exact ⟨rfl, rfl⟩
 have HE : Hid (Pol.level op = 4) := by show _ = _; unfold Pol.level; rw [if_neg h8, if_neg h7, if_neg h6, if_pos (by omega)]
 have e6 : (op == 6) = false := beq_eq_false_iff_ne.2 h6
 have e7 : (op == 7) = false := beq_eq_false_iff_ne.2 h7
 have e8 : (op == 8) = false := beq_eq_false_iff_ne.2 h8
 go_enter Tryz.func70, Tryz.ntmps70
 go_wp2_with fail
 go_ret
 rw [HE.out]
 exact ⟨rfl, rfl⟩
theorem ref_quote2 (w : World) (s : ByteArray) (hs : s.size ≤ 100000000) :
  Calls Tryz.prog 38 #[.string s] w fun e w' => e = .returned (.tuple #[.string (qt s), .bool (Lex.quote s).isSome]) ∧ Fr [] w w' := ref_quote w s hs
set_option maxHeartbeats 4000000 in
set_option maxRecDepth 100000 in
theorem text_1_0 (w : World) (s : ByteArray) (n p : Int) (c : Nat) (asked : Int) (hs : s.size ≤ 100000000) (hl : ¬ Pol.level 1 < asked) (q : Option Addr) (hn : n = 0) :
  Calls Tryz.prog 39 #[.agg #[.int .i64 1, .string s, .int .i64 n, .slice q 0 c, .int .i64 p], .int .i64 asked] w fun e w' => e = .returned (.string (ba (Ex.body 1 s n []))) ∧ Fr [] w w' := by
 subst hn
 have HE : Hid (ba (Ex.body 1 s 0 []) = ⟨#[102, 97, 108, 115, 101]⟩) := (ba_of rfl).symm
 have HQ := Lib.hid (fun W => ref_quote2 W s hs)
 have HBI := Lib.hid (fun W => ref_bind W 1 (by omega) (by omega))
 go_enter Tryz.func39, Tryz.ntmps39
 go_upto_region 1 with fail
 refine wp_fresh (fun V => V.heap[w.heap.size]? = some (.cells #[.int .i64 1, .string s, .int .i64 0, .slice q 0 c, .int .i64 p] 42 (0, 0)) ∧ Fr [] w V) ⟨heap_alloc_last _ _, (Fr.refl _ _).alloc _⟩ ?_
 rintro V0 ⟨hr, hF⟩
 have HF := Lib.hid hF
 have HB := Lib.hid hr
 have bf : ∀ i, V0.frozen? ⟨(w.heap.size), i, none⟩ = false := fun i => Lib.frozen_of_heap hr i
 have b0 : V0.cell? ⟨(w.heap.size), 0, none⟩ = some (.int .i64 1) := by rw [Lib.cell_of_heap hr]; rfl
 have b1 : V0.cell? ⟨(w.heap.size), 1, none⟩ = some (.string s) := by rw [Lib.cell_of_heap hr]; rfl
 have b2 : V0.cell? ⟨(w.heap.size), 2, none⟩ = some (.int .i64 0) := by rw [Lib.cell_of_heap hr]; rfl
 clear hr hF
 go_wp2_with fail
 refine (HBI.out _).mono ?_
 rintro e w1 ⟨rfl, rfl⟩
 go_wp2_with fail
 refine (HQ.out _).mono ?_
 rintro e V ⟨rfl, hF⟩
 have HF := Lib.hid (HF.out.trans0 hF)
 have hr := hF.row HB.out (by simp)
 have HB := Lib.hid hr
 clear b0 b1 b2 bf hF HQ HBI
 have bf : ∀ i, V.frozen? ⟨(w.heap.size), i, none⟩ = false := fun i => Lib.frozen_of_heap hr i
 have b0 : V.cell? ⟨(w.heap.size), 0, none⟩ = some (.int .i64 1) := by rw [Lib.cell_of_heap hr]; rfl
 have b1 : V.cell? ⟨(w.heap.size), 1, none⟩ = some (.string s) := by rw [Lib.cell_of_heap hr]; rfl
 have b2 : V.cell? ⟨(w.heap.size), 2, none⟩ = some (.int .i64 0) := by rw [Lib.cell_of_heap hr]; rfl
 have b3 : V.cell? ⟨(w.heap.size), 3, none⟩ = some (.slice q 0 c) := by rw [Lib.cell_of_heap hr]; rfl
 have b4 : V.cell? ⟨(w.heap.size), 4, none⟩ = some (.int .i64 p) := by rw [Lib.cell_of_heap hr]; rfl
 have hlt0 : w.heap.size < V.heap.size := row_lt hr
 clear hr
 go_wp2_with fail
 refine bodyPost_ret (results_tmp rfl _ _ _) rfl ?_
 rw [HE.out]
 exact ⟨rfl, HF.out⟩
set_option maxHeartbeats 4000000 in
set_option maxRecDepth 100000 in
theorem text_1_1 (w : World) (s : ByteArray) (n p : Int) (c : Nat) (asked : Int) (hs : s.size ≤ 100000000) (hl : ¬ Pol.level 1 < asked) (q : Option Addr) (hn : n = 1) :
  Calls Tryz.prog 39 #[.agg #[.int .i64 1, .string s, .int .i64 n, .slice q 0 c, .int .i64 p], .int .i64 asked] w fun e w' => e = .returned (.string (ba (Ex.body 1 s n []))) ∧ Fr [] w w' := by
 subst hn
 have HE : Hid (ba (Ex.body 1 s 1 []) = ⟨#[116, 114, 117, 101]⟩) := (ba_of rfl).symm
 have HQ := Lib.hid (fun W => ref_quote2 W s hs)
 have HBI := Lib.hid (fun W => ref_bind W 1 (by omega) (by omega))
 go_enter Tryz.func39, Tryz.ntmps39
 go_upto_region 1 with fail
 refine wp_fresh (fun V => V.heap[w.heap.size]? = some (.cells #[.int .i64 1, .string s, .int .i64 1, .slice q 0 c, .int .i64 p] 42 (0, 0)) ∧ Fr [] w V) ⟨heap_alloc_last _ _, (Fr.refl _ _).alloc _⟩ ?_
 rintro V0 ⟨hr, hF⟩
 have HF := Lib.hid hF
 have HB := Lib.hid hr
 have bf : ∀ i, V0.frozen? ⟨(w.heap.size), i, none⟩ = false := fun i => Lib.frozen_of_heap hr i
 have b0 : V0.cell? ⟨(w.heap.size), 0, none⟩ = some (.int .i64 1) := by rw [Lib.cell_of_heap hr]; rfl
 have b1 : V0.cell? ⟨(w.heap.size), 1, none⟩ = some (.string s) := by rw [Lib.cell_of_heap hr]; rfl
 have b2 : V0.cell? ⟨(w.heap.size), 2, none⟩ = some (.int .i64 1) := by rw [Lib.cell_of_heap hr]; rfl
 clear hr hF
 go_wp2_with fail
 refine (HBI.out _).mono ?_
 rintro e w1 ⟨rfl, rfl⟩
 go_wp2_with fail
 refine (HQ.out _).mono ?_
 rintro e V ⟨rfl, hF⟩
 have HF := Lib.hid (HF.out.trans0 hF)
 have hr := hF.row HB.out (by simp)
 have HB := Lib.hid hr
 clear b0 b1 b2 bf hF HQ HBI
 have bf : ∀ i, V.frozen? ⟨(w.heap.size), i, none⟩ = false := fun i => Lib.frozen_of_heap hr i
 have b0 : V.cell? ⟨(w.heap.size), 0, none⟩ = some (.int .i64 1) := by rw [Lib.cell_of_heap hr]; rfl
 have b1 : V.cell? ⟨(w.heap.size), 1, none⟩ = some (.string s) := by rw [Lib.cell_of_heap hr]; rfl
 have b2 : V.cell? ⟨(w.heap.size), 2, none⟩ = some (.int .i64 1) := by rw [Lib.cell_of_heap hr]; rfl
 have b3 : V.cell? ⟨(w.heap.size), 3, none⟩ = some (.slice q 0 c) := by rw [Lib.cell_of_heap hr]; rfl
 have b4 : V.cell? ⟨(w.heap.size), 4, none⟩ = some (.int .i64 p) := by rw [Lib.cell_of_heap hr]; rfl
 have hlt0 : w.heap.size < V.heap.size := row_lt hr
 clear hr
 go_wp2_with fail
 refine bodyPost_ret (results_tmp rfl _ _ _) rfl ?_
 rw [HE.out]
 exact ⟨rfl, HF.out⟩
set_option maxHeartbeats 4000000 in
set_option maxRecDepth 100000 in
theorem text_2 (w : World) (s : ByteArray) (n p : Int) (c : Nat) (asked : Int) (hs : s.size ≤ 100000000) (hl : ¬ Pol.level 2 < asked) (q : Option Addr) (hn : -9007199254740991 ≤ n ∧ n ≤ 9007199254740991) :
  Calls Tryz.prog 39 #[.agg #[.int .i64 2, .string s, .int .i64 n, .slice q 0 c, .int .i64 p], .int .i64 asked] w fun e w' => e = .returned (.string (ba (Ex.body 2 s n []))) ∧ Fr [] w w' := by
 have HE : Hid (ba (Ex.body 2 s n []) = ba (Dec.print n)) := (ba_of rfl).symm
 have HP := Lib.hid (fun W => ref_print W n (by omega))
 clear hn
 have HQ := Lib.hid (fun W => ref_quote2 W s hs)
 have HBI := Lib.hid (fun W => ref_bind W 2 (by omega) (by omega))
 go_enter Tryz.func39, Tryz.ntmps39
 go_upto_region 1 with fail
 refine wp_fresh (fun V => V.heap[w.heap.size]? = some (.cells #[.int .i64 2, .string s, .int .i64 n, .slice q 0 c, .int .i64 p] 42 (0, 0)) ∧ Fr [] w V) ⟨heap_alloc_last _ _, (Fr.refl _ _).alloc _⟩ ?_
 rintro V0 ⟨hr, hF⟩
 have HF := Lib.hid hF
 have HB := Lib.hid hr
 have bf : ∀ i, V0.frozen? ⟨(w.heap.size), i, none⟩ = false := fun i => Lib.frozen_of_heap hr i
 have b0 : V0.cell? ⟨(w.heap.size), 0, none⟩ = some (.int .i64 2) := by rw [Lib.cell_of_heap hr]; rfl
 have b1 : V0.cell? ⟨(w.heap.size), 1, none⟩ = some (.string s) := by rw [Lib.cell_of_heap hr]; rfl
 have b2 : V0.cell? ⟨(w.heap.size), 2, none⟩ = some (.int .i64 n) := by rw [Lib.cell_of_heap hr]; rfl
 clear hr hF
 go_wp2_with fail
 refine (HBI.out _).mono ?_
 rintro e w1 ⟨rfl, rfl⟩
 go_wp2_with fail
 refine (HQ.out _).mono ?_
 rintro e V ⟨rfl, hF⟩
 have HF := Lib.hid (HF.out.trans0 hF)
 have hr := hF.row HB.out (by simp)
 have HB := Lib.hid hr
 clear b0 b1 b2 bf hF HQ HBI
 have bf : ∀ i, V.frozen? ⟨(w.heap.size), i, none⟩ = false := fun i => Lib.frozen_of_heap hr i
 have b0 : V.cell? ⟨(w.heap.size), 0, none⟩ = some (.int .i64 2) := by rw [Lib.cell_of_heap hr]; rfl
 have b1 : V.cell? ⟨(w.heap.size), 1, none⟩ = some (.string s) := by rw [Lib.cell_of_heap hr]; rfl
 have b2 : V.cell? ⟨(w.heap.size), 2, none⟩ = some (.int .i64 n) := by rw [Lib.cell_of_heap hr]; rfl
 have b3 : V.cell? ⟨(w.heap.size), 3, none⟩ = some (.slice q 0 c) := by rw [Lib.cell_of_heap hr]; rfl
 have b4 : V.cell? ⟨(w.heap.size), 4, none⟩ = some (.int .i64 p) := by rw [Lib.cell_of_heap hr]; rfl
 have hlt0 : w.heap.size < V.heap.size := row_lt hr
 clear hr
 go_wp2_with fail
 refine (HP.out _).mono ?_
 rintro e V2 ⟨rfl, hF⟩
 have HF := Lib.hid (HF.out.trans0 hF)
 clear hF HP
 go_wp2_with fail
 refine bodyPost_ret (results_tmp rfl _ _ _) rfl ?_
 rw [HE.out]
 exact ⟨rfl, HF.out⟩
set_option maxHeartbeats 4000000 in
set_option maxRecDepth 100000 in
theorem text_3 (w : World) (s : ByteArray) (n p : Int) (c : Nat) (asked : Int) (hs : s.size ≤ 100000000) (hl : ¬ Pol.level 3 < asked) (q : Option Addr) :
  Calls Tryz.prog 39 #[.agg #[.int .i64 3, .string s, .int .i64 n, .slice q 0 c, .int .i64 p], .int .i64 asked] w fun e w' => e = .returned (.string (ba (Ex.body 3 s n []))) ∧ Fr [] w w' := by
 have HE : Hid (ba (Ex.body 3 s n []) = qt s) := (ba_of rfl).symm
 have HQ := Lib.hid (fun W => ref_quote2 W s hs)
 have HBI := Lib.hid (fun W => ref_bind W 3 (by omega) (by omega))
 go_enter Tryz.func39, Tryz.ntmps39
 go_upto_region 1 with fail
 refine wp_fresh (fun V => V.heap[w.heap.size]? = some (.cells #[.int .i64 3, .string s, .int .i64 n, .slice q 0 c, .int .i64 p] 42 (0, 0)) ∧ Fr [] w V) ⟨heap_alloc_last _ _, (Fr.refl _ _).alloc _⟩ ?_
 rintro V0 ⟨hr, hF⟩
 have HF := Lib.hid hF
 have HB := Lib.hid hr
 have bf : ∀ i, V0.frozen? ⟨(w.heap.size), i, none⟩ = false := fun i => Lib.frozen_of_heap hr i
 have b0 : V0.cell? ⟨(w.heap.size), 0, none⟩ = some (.int .i64 3) := by rw [Lib.cell_of_heap hr]; rfl
 have b1 : V0.cell? ⟨(w.heap.size), 1, none⟩ = some (.string s) := by rw [Lib.cell_of_heap hr]; rfl
 have b2 : V0.cell? ⟨(w.heap.size), 2, none⟩ = some (.int .i64 n) := by rw [Lib.cell_of_heap hr]; rfl
 clear hr hF
 go_wp2_with fail
 refine (HBI.out _).mono ?_
 rintro e w1 ⟨rfl, rfl⟩
 go_wp2_with fail
 refine (HQ.out _).mono ?_
 rintro e V ⟨rfl, hF⟩
 have HF := Lib.hid (HF.out.trans0 hF)
 have hr := hF.row HB.out (by simp)
 have HB := Lib.hid hr
 clear b0 b1 b2 bf hF HQ HBI
 have bf : ∀ i, V.frozen? ⟨(w.heap.size), i, none⟩ = false := fun i => Lib.frozen_of_heap hr i
 have b0 : V.cell? ⟨(w.heap.size), 0, none⟩ = some (.int .i64 3) := by rw [Lib.cell_of_heap hr]; rfl
 have b1 : V.cell? ⟨(w.heap.size), 1, none⟩ = some (.string s) := by rw [Lib.cell_of_heap hr]; rfl
 have b2 : V.cell? ⟨(w.heap.size), 2, none⟩ = some (.int .i64 n) := by rw [Lib.cell_of_heap hr]; rfl
 have b3 : V.cell? ⟨(w.heap.size), 3, none⟩ = some (.slice q 0 c) := by rw [Lib.cell_of_heap hr]; rfl
 have b4 : V.cell? ⟨(w.heap.size), 4, none⟩ = some (.int .i64 p) := by rw [Lib.cell_of_heap hr]; rfl
 have hlt0 : w.heap.size < V.heap.size := row_lt hr
 clear hr
 go_wp2_with fail
 refine bodyPost_ret (results_tmp rfl _ _ _) rfl ?_
 rw [HE.out]
 exact ⟨rfl, HF.out⟩
set_option maxHeartbeats 4000000 in
set_option maxRecDepth 100000 in
theorem text_4 (w : World) (s : ByteArray) (n p : Int) (c : Nat) (asked : Int) (hs : s.size ≤ 100000000) (hl : ¬ Pol.level 4 < asked) (q : Option Addr) :
  Calls Tryz.prog 39 #[.agg #[.int .i64 4, .string s, .int .i64 n, .slice q 0 c, .int .i64 p], .int .i64 asked] w fun e w' => e = .returned (.string (ba (Ex.body 4 s n []))) ∧ Fr [] w w' := by
 have HE : Hid (ba (Ex.body 4 s n []) = s) := (ba_of rfl).symm
 have HQ := Lib.hid (fun W => ref_quote2 W s hs)
 have HBI := Lib.hid (fun W => ref_bind W 4 (by omega) (by omega))
 go_enter Tryz.func39, Tryz.ntmps39
 go_upto_region 1 with fail
 refine wp_fresh (fun V => V.heap[w.heap.size]? = some (.cells #[.int .i64 4, .string s, .int .i64 n, .slice q 0 c, .int .i64 p] 42 (0, 0)) ∧ Fr [] w V) ⟨heap_alloc_last _ _, (Fr.refl _ _).alloc _⟩ ?_
 rintro V0 ⟨hr, hF⟩
 have HF := Lib.hid hF
 have HB := Lib.hid hr
 have bf : ∀ i, V0.frozen? ⟨(w.heap.size), i, none⟩ = false := fun i => Lib.frozen_of_heap hr i
 have b0 : V0.cell? ⟨(w.heap.size), 0, none⟩ = some (.int .i64 4) := by rw [Lib.cell_of_heap hr]; rfl
 have b1 : V0.cell? ⟨(w.heap.size), 1, none⟩ = some (.string s) := by rw [Lib.cell_of_heap hr]; rfl
 have b2 : V0.cell? ⟨(w.heap.size), 2, none⟩ = some (.int .i64 n) := by rw [Lib.cell_of_heap hr]; rfl
 clear hr hF
 go_wp2_with fail
 refine (HBI.out _).mono ?_
 rintro e w1 ⟨rfl, rfl⟩
 go_wp2_with fail
 refine (HQ.out _).mono ?_
 rintro e V ⟨rfl, hF⟩
 have HF := Lib.hid (HF.out.trans0 hF)
 have hr := hF.row HB.out (by simp)
 have HB := Lib.hid hr
 clear b0 b1 b2 bf hF HQ HBI
 have bf : ∀ i, V.frozen? ⟨(w.heap.size), i, none⟩ = false := fun i => Lib.frozen_of_heap hr i
 have b0 : V.cell? ⟨(w.heap.size), 0, none⟩ = some (.int .i64 4) := by rw [Lib.cell_of_heap hr]; rfl
 have b1 : V.cell? ⟨(w.heap.size), 1, none⟩ = some (.string s) := by rw [Lib.cell_of_heap hr]; rfl
 have b2 : V.cell? ⟨(w.heap.size), 2, none⟩ = some (.int .i64 n) := by rw [Lib.cell_of_heap hr]; rfl
 have b3 : V.cell? ⟨(w.heap.size), 3, none⟩ = some (.slice q 0 c) := by rw [Lib.cell_of_heap hr]; rfl
 have b4 : V.cell? ⟨(w.heap.size), 4, none⟩ = some (.int .i64 p) := by rw [Lib.cell_of_heap hr]; rfl
 have hlt0 : w.heap.size < V.heap.size := row_lt hr
 clear hr
 go_wp2_with fail
 refine bodyPost_ret (results_tmp rfl _ _ _) rfl ?_
 rw [HE.out]
 exact ⟨rfl, HF.out⟩
set_option maxHeartbeats 4000000 in
set_option maxRecDepth 100000 in
theorem text_5 (w : World) (s : ByteArray) (n p : Int) (c : Nat) (asked : Int) (hs : s.size ≤ 100000000) (hl : ¬ Pol.level 5 < asked) (q : Option Addr) (hlen : (Ex.body 5 s n []).length < 1000000000) :
  Calls Tryz.prog 39 #[.agg #[.int .i64 5, .string s, .int .i64 n, .slice q 0 c, .int .i64 p], .int .i64 asked] w fun e w' => e = .returned (.string (ba (Ex.body 5 s n []))) ∧ Fr [] w w' := by
 have HE : Hid (ba (Ex.body 5 s n []) = ⟨#[99, 108, 97, 105, 109, 40]⟩ ++ qt s ++ ⟨#[41]⟩) := (ba_of rfl).symm
 have hq : (qt s).size ≤ 1000000000 := by
  have h1 : (nats (⟨#[99, 108, 97, 105, 109, 40]⟩ ++ qt s ++ ⟨#[41]⟩)).length < 1000000000 := hlen
  rw [nats_length, ByteArray.size_append, ByteArray.size_append] at h1
  omega
 clear hlen
 have HQ := Lib.hid (fun W => ref_quote2 W s hs)
 have HBI := Lib.hid (fun W => ref_bind W 5 (by omega) (by omega))
 go_enter Tryz.func39, Tryz.ntmps39
 go_upto_region 1 with fail
 refine wp_fresh (fun V => V.heap[w.heap.size]? = some (.cells #[.int .i64 5, .string s, .int .i64 n, .slice q 0 c, .int .i64 p] 42 (0, 0)) ∧ Fr [] w V) ⟨heap_alloc_last _ _, (Fr.refl _ _).alloc _⟩ ?_
 rintro V0 ⟨hr, hF⟩
 have HF := Lib.hid hF
 have HB := Lib.hid hr
 have bf : ∀ i, V0.frozen? ⟨(w.heap.size), i, none⟩ = false := fun i => Lib.frozen_of_heap hr i
 have b0 : V0.cell? ⟨(w.heap.size), 0, none⟩ = some (.int .i64 5) := by rw [Lib.cell_of_heap hr]; rfl
 have b1 : V0.cell? ⟨(w.heap.size), 1, none⟩ = some (.string s) := by rw [Lib.cell_of_heap hr]; rfl
 have b2 : V0.cell? ⟨(w.heap.size), 2, none⟩ = some (.int .i64 n) := by rw [Lib.cell_of_heap hr]; rfl
 clear hr hF
 go_wp2_with fail
 refine (HBI.out _).mono ?_
 rintro e w1 ⟨rfl, rfl⟩
 go_wp2_with fail
 refine (HQ.out _).mono ?_
 rintro e V ⟨rfl, hF⟩
 have HF := Lib.hid (HF.out.trans0 hF)
 have hr := hF.row HB.out (by simp)
 have HB := Lib.hid hr
 clear b0 b1 b2 bf hF HQ HBI
 have bf : ∀ i, V.frozen? ⟨(w.heap.size), i, none⟩ = false := fun i => Lib.frozen_of_heap hr i
 have b0 : V.cell? ⟨(w.heap.size), 0, none⟩ = some (.int .i64 5) := by rw [Lib.cell_of_heap hr]; rfl
 have b1 : V.cell? ⟨(w.heap.size), 1, none⟩ = some (.string s) := by rw [Lib.cell_of_heap hr]; rfl
 have b2 : V.cell? ⟨(w.heap.size), 2, none⟩ = some (.int .i64 n) := by rw [Lib.cell_of_heap hr]; rfl
 have b3 : V.cell? ⟨(w.heap.size), 3, none⟩ = some (.slice q 0 c) := by rw [Lib.cell_of_heap hr]; rfl
 have b4 : V.cell? ⟨(w.heap.size), 4, none⟩ = some (.int .i64 p) := by rw [Lib.cell_of_heap hr]; rfl
 have hlt0 : w.heap.size < V.heap.size := row_lt hr
 clear hr
 go_wp2_with fail
 refine bodyPost_ret (results_tmp rfl _ _ _) rfl ?_
 rw [HE.out]
 exact ⟨rfl, HF.out⟩
end Go.Proofs.YtgklmpooonnmiaaGreatDoor

namespace Go.Proofs.YtgklmpooonnmiaaGreatDoor
open Go.RowKit
set_option maxHeartbeats 4000000 in
set_option maxRecDepth 100000 in
theorem text_6 (w : World) (s : ByteArray) (n p : Int) (c : Nat) (asked : Int) (hs : s.size ≤ 100000000) (hl : ¬ Pol.level 6 < asked) (ad : Addr) (x : Ex) (xo : Int) (xs : ByteArray) (xn : Int) (xq : Option Addr) (xk xc : Nat) (xp : Int) (h5x : Five w (ad) [.int .i64 xo, .string xs, .int .i64 xn, .slice xq xk xc, .int .i64 xp]) (hT : ∀ W, Fr [] w W → Calls Tryz.prog 39 #[.agg #[.int .i64 xo, .string xs, .int .i64 xn, .slice xq xk xc, .int .i64 xp], .int .i64 3] W fun e w' => e = .returned (.string (ba (Ex.text x 3))) ∧ Fr [] W w') (hlen : (Ex.body 6 s n [x]).length < 1000000000) :
  Calls Tryz.prog 39 #[.agg #[.int .i64 6, .string s, .int .i64 n, .slice (some ad) 1 c, .int .i64 p], .int .i64 asked] w fun e w' => e = .returned (.string (ba (Ex.body 6 s n [x]))) ∧ Fr [] w w' := by
 obtain ⟨_, _, _, _, _, hv, x0, x1, x2, x3, x4⟩ := h5x
 simp only [List.cons.injEq, and_true] at hv
 obtain ⟨rfl, rfl, rfl, rfl, rfl⟩ := hv
 have hx0 := Lib.hid x0
 have hx1 := Lib.hid x1
 have hx2 := Lib.hid x2
 have hx3 := Lib.hid x3
 have hx4 := Lib.hid x4
 clear x0 x1 x2 x3 x4
 have HT := Lib.hid hT
 obtain ⟨T, hTT⟩ : ∃ T, ba (Ex.text x 3) = T := ⟨_, rfl⟩
 have HN : Hid (nats T = Ex.text x 3) := by show _ = _; rw [← hTT]; exact nats_ba _ (Ex.text_lt x 3)
 rw [hTT] at HT
 have hts : T.size ≤ 1000000000 := by
  rw [Ex.body_not, List.length_append] at hlen
  rw [← nats_length, HN.out]; omega
 have HE : Hid (ba (Ex.body 6 s n [x]) = ⟨#[110, 111, 116, 32]⟩ ++ T) := (ba_of (by rw [nats_append, HN.out, Ex.body_not]; rfl)).symm
 clear hT hlen hTT
 have HQ := Lib.hid (fun W => ref_quote2 W s hs)
 have HBI := Lib.hid (fun W => ref_bind W 6 (by omega) (by omega))
 go_enter Tryz.func39, Tryz.ntmps39
 go_upto_region 1 with fail
 refine wp_fresh (fun V => V.heap[w.heap.size]? = some (.cells #[.int .i64 6, .string s, .int .i64 n, .slice (some ad) 1 c, .int .i64 p] 42 (0, 0)) ∧ Fr [] w V) ⟨heap_alloc_last _ _, (Fr.refl _ _).alloc _⟩ ?_
 rintro V0 ⟨hr, hF⟩
 have HF := Lib.hid hF
 have HB := Lib.hid hr
 have bf : ∀ i, V0.frozen? ⟨(w.heap.size), i, none⟩ = false := fun i => Lib.frozen_of_heap hr i
 have b0 : V0.cell? ⟨(w.heap.size), 0, none⟩ = some (.int .i64 6) := by rw [Lib.cell_of_heap hr]; rfl
 have b1 : V0.cell? ⟨(w.heap.size), 1, none⟩ = some (.string s) := by rw [Lib.cell_of_heap hr]; rfl
 have b2 : V0.cell? ⟨(w.heap.size), 2, none⟩ = some (.int .i64 n) := by rw [Lib.cell_of_heap hr]; rfl
 clear hr hF
 go_wp2_with fail
 refine (HBI.out _).mono ?_
 rintro e w1 ⟨rfl, rfl⟩
 go_wp2_with fail
 refine (HQ.out _).mono ?_
 rintro e V ⟨rfl, hF⟩
 have HF := Lib.hid (HF.out.trans0 hF)
 have hr := hF.row HB.out (by simp)
 have HB := Lib.hid hr
 clear b0 b1 b2 bf hF HQ HBI
 have bf : ∀ i, V.frozen? ⟨(w.heap.size), i, none⟩ = false := fun i => Lib.frozen_of_heap hr i
 have b0 : V.cell? ⟨(w.heap.size), 0, none⟩ = some (.int .i64 6) := by rw [Lib.cell_of_heap hr]; rfl
 have b1 : V.cell? ⟨(w.heap.size), 1, none⟩ = some (.string s) := by rw [Lib.cell_of_heap hr]; rfl
 have b2 : V.cell? ⟨(w.heap.size), 2, none⟩ = some (.int .i64 n) := by rw [Lib.cell_of_heap hr]; rfl
 have b3 : V.cell? ⟨(w.heap.size), 3, none⟩ = some (.slice (some ad) 1 c) := by rw [Lib.cell_of_heap hr]; rfl
 have b4 : V.cell? ⟨(w.heap.size), 4, none⟩ = some (.int .i64 p) := by rw [Lib.cell_of_heap hr]; rfl
 have hlt0 : w.heap.size < V.heap.size := row_lt hr
 clear hr
 have y0 := HF.out.cells hx0.out
 have y1 := HF.out.cells hx1.out
 have y2 := HF.out.cells hx2.out
 have y3 := HF.out.cells hx3.out
 have y4 := HF.out.cells hx4.out
 go_wp2_with fail
 refine (HT.out _ HF.out).mono ?_
 rintro e V2 ⟨rfl, hF⟩
 have HF := Lib.hid (HF.out.trans0 hF)
 clear hF HT
 go_wp2_with fail
 refine bodyPost_ret (results_tmp rfl _ _ _) rfl ?_
 rw [HE.out]
 exact ⟨rfl, HF.out⟩
set_option maxHeartbeats 4000000 in
set_option maxRecDepth 100000 in
theorem text_7 (w : World) (s : ByteArray) (n p : Int) (c : Nat) (asked : Int) (hs : s.size ≤ 100000000) (hl : ¬ Pol.level 7 < asked) (ad : Addr) (x y : Ex) (xo : Int) (xs : ByteArray) (xn : Int) (xq : Option Addr) (xk xc : Nat) (xp : Int) (yo : Int) (ys : ByteArray) (yn : Int) (yq : Option Addr) (yk yc : Nat) (yp : Int) (h5x : Five w (ad) [.int .i64 xo, .string xs, .int .i64 xn, .slice xq xk xc, .int .i64 xp]) (h5y : Five w (⟨ad.block, ad.off + 5, none⟩) [.int .i64 yo, .string ys, .int .i64 yn, .slice yq yk yc, .int .i64 yp]) (hT : ∀ W, Fr [] w W → Calls Tryz.prog 39 #[.agg #[.int .i64 xo, .string xs, .int .i64 xn, .slice xq xk xc, .int .i64 xp], .int .i64 2] W fun e w' => e = .returned (.string (ba (Ex.text x 2))) ∧ Fr [] W w') (hU : ∀ W, Fr [] w W → Calls Tryz.prog 39 #[.agg #[.int .i64 yo, .string ys, .int .i64 yn, .slice yq yk yc, .int .i64 yp], .int .i64 3] W fun e w' => e = .returned (.string (ba (Ex.text y 3))) ∧ Fr [] W w') (hlen : (Ex.body 7 s n [x, y]).length < 1000000000) :
  Calls Tryz.prog 39 #[.agg #[.int .i64 7, .string s, .int .i64 n, .slice (some ad) 2 c, .int .i64 p], .int .i64 asked] w fun e w' => e = .returned (.string (ba (Ex.body 7 s n [x, y]))) ∧ Fr [] w w' := by
 obtain ⟨_, _, _, _, _, hv, x0, x1, x2, x3, x4⟩ := h5x
 simp only [List.cons.injEq, and_true] at hv
 obtain ⟨rfl, rfl, rfl, rfl, rfl⟩ := hv
 have hx0 := Lib.hid x0
 have hx1 := Lib.hid x1
 have hx2 := Lib.hid x2
 have hx3 := Lib.hid x3
 have hx4 := Lib.hid x4
 clear x0 x1 x2 x3 x4
 obtain ⟨_, _, _, _, _, hv, y0, y1, y2, y3, y4⟩ := h5y
 simp only [List.cons.injEq, and_true] at hv
 obtain ⟨rfl, rfl, rfl, rfl, rfl⟩ := hv
 have hy0 := Lib.hid y0
 have hy1 := Lib.hid y1
 have hy2 := Lib.hid y2
 have hy3 := Lib.hid y3
 have hy4 := Lib.hid y4
 clear y0 y1 y2 y3 y4
 have HT := Lib.hid hT
 have HU := Lib.hid hU
 obtain ⟨T, hTT⟩ : ∃ T, ba (Ex.text x 2) = T := ⟨_, rfl⟩
 obtain ⟨U, hUU⟩ : ∃ U, ba (Ex.text y 3) = U := ⟨_, rfl⟩
 have HN : Hid (nats T = Ex.text x 2) := by show _ = _; rw [← hTT]; exact nats_ba _ (Ex.text_lt x 2)
 have HM : Hid (nats U = Ex.text y 3) := by show _ = _; rw [← hUU]; exact nats_ba _ (Ex.text_lt y 3)
 simp only [hTT] at HT
 simp only [hUU] at HU
 have hts : T.size + U.size ≤ 1000000000 := by
  rw [Ex.body_two s n x y (by decide) (by decide), List.length_append, List.length_append] at hlen
  rw [← nats_length, ← nats_length, HN.out, HM.out]
  have e2 : Ex.lo 7 = 2 := rfl
  have e3 : Ex.hi 7 = 3 := rfl
  rw [e2, e3] at hlen
  omega
 have ht1 : T.size ≤ 1000000000 := by omega
 have ht2 : U.size ≤ 1000000000 := by omega
 have HE : Hid (ba (Ex.body 7 s n [x, y]) = T ++ ⟨#[32, 97, 110, 100, 32]⟩ ++ U) := (ba_of (by rw [Ex.body_two s n x y (by decide) (by decide)]; simp only [nats_append, HN.out, HM.out, List.append_assoc]; rfl)).symm
 clear hT hU hlen hTT hUU
 have z1 : ¬ 9223372036854775807 < T.size + 5 := (by omega); have z2 : ¬ 9223372036854775807 < T.size + 5 + U.size := (by omega)
 have HQ := Lib.hid (fun W => ref_quote2 W s hs)
 have HBI := Lib.hid (fun W => ref_bind W 7 (by omega) (by omega))
 go_enter Tryz.func39, Tryz.ntmps39
 go_upto_region 1 with fail
 refine wp_fresh (fun V => V.heap[w.heap.size]? = some (.cells #[.int .i64 7, .string s, .int .i64 n, .slice (some ad) 2 c, .int .i64 p] 42 (0, 0)) ∧ Fr [] w V) ⟨heap_alloc_last _ _, (Fr.refl _ _).alloc _⟩ ?_
 rintro V0 ⟨hr, hF⟩
 have HF := Lib.hid hF
 have HB := Lib.hid hr
 have bf : ∀ i, V0.frozen? ⟨(w.heap.size), i, none⟩ = false := fun i => Lib.frozen_of_heap hr i
 have b0 : V0.cell? ⟨(w.heap.size), 0, none⟩ = some (.int .i64 7) := by rw [Lib.cell_of_heap hr]; rfl
 have b1 : V0.cell? ⟨(w.heap.size), 1, none⟩ = some (.string s) := by rw [Lib.cell_of_heap hr]; rfl
 have b2 : V0.cell? ⟨(w.heap.size), 2, none⟩ = some (.int .i64 n) := by rw [Lib.cell_of_heap hr]; rfl
 clear hr hF
 go_wp2_with fail
 refine (HBI.out _).mono ?_
 rintro e w1 ⟨rfl, rfl⟩
 go_wp2_with fail
 refine (HQ.out _).mono ?_
 rintro e V ⟨rfl, hF⟩
 have HF := Lib.hid (HF.out.trans0 hF)
 have hr := hF.row HB.out (by simp)
 have HB := Lib.hid hr
 clear b0 b1 b2 bf hF HQ HBI
 have bf : ∀ i, V.frozen? ⟨(w.heap.size), i, none⟩ = false := fun i => Lib.frozen_of_heap hr i
 have b0 : V.cell? ⟨(w.heap.size), 0, none⟩ = some (.int .i64 7) := by rw [Lib.cell_of_heap hr]; rfl
 have b1 : V.cell? ⟨(w.heap.size), 1, none⟩ = some (.string s) := by rw [Lib.cell_of_heap hr]; rfl
 have b2 : V.cell? ⟨(w.heap.size), 2, none⟩ = some (.int .i64 n) := by rw [Lib.cell_of_heap hr]; rfl
 have b3 : V.cell? ⟨(w.heap.size), 3, none⟩ = some (.slice (some ad) 2 c) := by rw [Lib.cell_of_heap hr]; rfl
 have b4 : V.cell? ⟨(w.heap.size), 4, none⟩ = some (.int .i64 p) := by rw [Lib.cell_of_heap hr]; rfl
 have hlt0 : w.heap.size < V.heap.size := row_lt hr
 clear hr
 have p0 := HF.out.cells hx0.out
 have p1 := HF.out.cells hx1.out
 have p2 := HF.out.cells hx2.out
 have p3 := HF.out.cells hx3.out
 have p4 := HF.out.cells hx4.out
 have r0 := HF.out.cells hy0.out
 have r1 := HF.out.cells hy1.out
 have r2 := HF.out.cells hy2.out
 have r3 := HF.out.cells hy3.out
 have r4 := HF.out.cells hy4.out
 go_wp2_with fail
 skip
 go_region_held3 (fun W' => W'.cell? ⟨w.heap.size, 3, none⟩ = some (.slice (some ad) 2 c) ∧ W'.cell? ad = some (.int .i64 xo) ∧ W'.cell? ⟨ad.block, ad.off + 1, none⟩ = some (.string xs) ∧ W'.cell? ⟨ad.block, ad.off + 2, none⟩ = some (.int .i64 xn) ∧ W'.cell? ⟨ad.block, ad.off + 3, none⟩ = some (.slice xq xk xc) ∧ W'.cell? ⟨ad.block, ad.off + 4, none⟩ = some (.int .i64 xp) ∧ W'.cell? ⟨ad.block, ad.off + 5, none⟩ = some (.int .i64 yo) ∧ W'.cell? ⟨ad.block, ad.off + 5 + 1, none⟩ = some (.string ys) ∧ W'.cell? ⟨ad.block, ad.off + 5 + 2, none⟩ = some (.int .i64 yn) ∧ W'.cell? ⟨ad.block, ad.off + 5 + 3, none⟩ = some (.slice yq yk yc) ∧ W'.cell? ⟨ad.block, ad.off + 5 + 4, none⟩ = some (.int .i64 yp))
  (first | exact ⟨b3, p0, p1, p2, p3, p4, r0, r1, r2, r3, r4⟩ | exact ⟨hF.cells b3, hF.cells p0, hF.cells p1, hF.cells p2, hF.cells p3, hF.cells p4, hF.cells r0, hF.cells r1, hF.cells r2, hF.cells r3, hF.cells r4⟩ | exact ⟨hG.cells (hF.cells b3), hG.cells (hF.cells p0), hG.cells (hF.cells p1), hG.cells (hF.cells p2), hG.cells (hF.cells p3), hG.cells (hF.cells p4), hG.cells (hF.cells r0), hG.cells (hF.cells r1), hG.cells (hF.cells r2), hG.cells (hF.cells r3), hG.cells (hF.cells r4)⟩)
  (first
   | (go_at_call 39; with_reducible refine (HT.out _ (by first | exact HF.out.drew | exact HF.out)).mono ?_; rintro e V2 ⟨rfl, hF⟩)
   | (go_at_call 39; with_reducible refine (HU.out _ (HF.out.drew.trans0 hF)).mono ?_; rintro e V3 ⟨rfl, hG⟩))
 have HF := Lib.hid ((HF.out.drew.trans0 hF).trans0 hG)
 clear hF hG HT HU
 go_wp2_with fail
 refine bodyPost_ret (results_tmp rfl _ _ _) rfl ?_
 rw [HE.out]
 exact ⟨rfl, HF.out⟩
set_option maxHeartbeats 4000000 in
set_option maxRecDepth 100000 in
theorem text_8 (w : World) (s : ByteArray) (n p : Int) (c : Nat) (asked : Int) (hs : s.size ≤ 100000000) (hl : ¬ Pol.level 8 < asked) (ad : Addr) (x y : Ex) (xo : Int) (xs : ByteArray) (xn : Int) (xq : Option Addr) (xk xc : Nat) (xp : Int) (yo : Int) (ys : ByteArray) (yn : Int) (yq : Option Addr) (yk yc : Nat) (yp : Int) (h5x : Five w (ad) [.int .i64 xo, .string xs, .int .i64 xn, .slice xq xk xc, .int .i64 xp]) (h5y : Five w (⟨ad.block, ad.off + 5, none⟩) [.int .i64 yo, .string ys, .int .i64 yn, .slice yq yk yc, .int .i64 yp]) (hT : ∀ W, Fr [] w W → Calls Tryz.prog 39 #[.agg #[.int .i64 xo, .string xs, .int .i64 xn, .slice xq xk xc, .int .i64 xp], .int .i64 1] W fun e w' => e = .returned (.string (ba (Ex.text x 1))) ∧ Fr [] W w') (hU : ∀ W, Fr [] w W → Calls Tryz.prog 39 #[.agg #[.int .i64 yo, .string ys, .int .i64 yn, .slice yq yk yc, .int .i64 yp], .int .i64 2] W fun e w' => e = .returned (.string (ba (Ex.text y 2))) ∧ Fr [] W w') (hlen : (Ex.body 8 s n [x, y]).length < 1000000000) :
  Calls Tryz.prog 39 #[.agg #[.int .i64 8, .string s, .int .i64 n, .slice (some ad) 2 c, .int .i64 p], .int .i64 asked] w fun e w' => e = .returned (.string (ba (Ex.body 8 s n [x, y]))) ∧ Fr [] w w' := by
 obtain ⟨_, _, _, _, _, hv, x0, x1, x2, x3, x4⟩ := h5x
 simp only [List.cons.injEq, and_true] at hv
 obtain ⟨rfl, rfl, rfl, rfl, rfl⟩ := hv
 have hx0 := Lib.hid x0
 have hx1 := Lib.hid x1
 have hx2 := Lib.hid x2
 have hx3 := Lib.hid x3
 have hx4 := Lib.hid x4
 clear x0 x1 x2 x3 x4
 obtain ⟨_, _, _, _, _, hv, y0, y1, y2, y3, y4⟩ := h5y
 simp only [List.cons.injEq, and_true] at hv
 obtain ⟨rfl, rfl, rfl, rfl, rfl⟩ := hv
 have hy0 := Lib.hid y0
 have hy1 := Lib.hid y1
 have hy2 := Lib.hid y2
 have hy3 := Lib.hid y3
 have hy4 := Lib.hid y4
 clear y0 y1 y2 y3 y4
 have HT := Lib.hid hT
 have HU := Lib.hid hU
 obtain ⟨T, hTT⟩ : ∃ T, ba (Ex.text x 1) = T := ⟨_, rfl⟩
 obtain ⟨U, hUU⟩ : ∃ U, ba (Ex.text y 2) = U := ⟨_, rfl⟩
 have HN : Hid (nats T = Ex.text x 1) := by show _ = _; rw [← hTT]; exact nats_ba _ (Ex.text_lt x 1)
 have HM : Hid (nats U = Ex.text y 2) := by show _ = _; rw [← hUU]; exact nats_ba _ (Ex.text_lt y 2)
 simp only [hTT] at HT
 simp only [hUU] at HU
 have hts : T.size + U.size ≤ 1000000000 := by
  rw [Ex.body_two s n x y (by decide) (by decide), List.length_append, List.length_append] at hlen
  rw [← nats_length, ← nats_length, HN.out, HM.out]
  have e2 : Ex.lo 8 = 1 := rfl
  have e3 : Ex.hi 8 = 2 := rfl
  rw [e2, e3] at hlen
  omega
 have ht1 : T.size ≤ 1000000000 := by omega
 have ht2 : U.size ≤ 1000000000 := by omega
 have HE : Hid (ba (Ex.body 8 s n [x, y]) = T ++ ⟨#[32, 111, 114, 32]⟩ ++ U) := (ba_of (by rw [Ex.body_two s n x y (by decide) (by decide)]; simp only [nats_append, HN.out, HM.out, List.append_assoc]; rfl)).symm
 clear hT hU hlen hTT hUU
 have z0 : ¬ 9223372036854775807 < T.size + 4 := (by omega); have z1 : ¬ 9223372036854775807 < T.size + 4 + U.size := (by omega)
 have HQ := Lib.hid (fun W => ref_quote2 W s hs)
 have HBI := Lib.hid (fun W => ref_bind W 8 (by omega) (by omega))
 go_enter Tryz.func39, Tryz.ntmps39
 go_upto_region 1 with fail
 refine wp_fresh (fun V => V.heap[w.heap.size]? = some (.cells #[.int .i64 8, .string s, .int .i64 n, .slice (some ad) 2 c, .int .i64 p] 42 (0, 0)) ∧ Fr [] w V) ⟨heap_alloc_last _ _, (Fr.refl _ _).alloc _⟩ ?_
 rintro V0 ⟨hr, hF⟩
 have HF := Lib.hid hF
 have HB := Lib.hid hr
 have bf : ∀ i, V0.frozen? ⟨(w.heap.size), i, none⟩ = false := fun i => Lib.frozen_of_heap hr i
 have b0 : V0.cell? ⟨(w.heap.size), 0, none⟩ = some (.int .i64 8) := by rw [Lib.cell_of_heap hr]; rfl
 have b1 : V0.cell? ⟨(w.heap.size), 1, none⟩ = some (.string s) := by rw [Lib.cell_of_heap hr]; rfl
 have b2 : V0.cell? ⟨(w.heap.size), 2, none⟩ = some (.int .i64 n) := by rw [Lib.cell_of_heap hr]; rfl
 clear hr hF
 go_wp2_with fail
 refine (HBI.out _).mono ?_
 rintro e w1 ⟨rfl, rfl⟩
 go_wp2_with fail
 refine (HQ.out _).mono ?_
 rintro e V ⟨rfl, hF⟩
 have HF := Lib.hid (HF.out.trans0 hF)
 have hr := hF.row HB.out (by simp)
 have HB := Lib.hid hr
 clear b0 b1 b2 bf hF HQ HBI
 have bf : ∀ i, V.frozen? ⟨(w.heap.size), i, none⟩ = false := fun i => Lib.frozen_of_heap hr i
 have b0 : V.cell? ⟨(w.heap.size), 0, none⟩ = some (.int .i64 8) := by rw [Lib.cell_of_heap hr]; rfl
 have b1 : V.cell? ⟨(w.heap.size), 1, none⟩ = some (.string s) := by rw [Lib.cell_of_heap hr]; rfl
 have b2 : V.cell? ⟨(w.heap.size), 2, none⟩ = some (.int .i64 n) := by rw [Lib.cell_of_heap hr]; rfl
 have b3 : V.cell? ⟨(w.heap.size), 3, none⟩ = some (.slice (some ad) 2 c) := by rw [Lib.cell_of_heap hr]; rfl
 have b4 : V.cell? ⟨(w.heap.size), 4, none⟩ = some (.int .i64 p) := by rw [Lib.cell_of_heap hr]; rfl
 have hlt0 : w.heap.size < V.heap.size := row_lt hr
 clear hr
 have p0 := HF.out.cells hx0.out
 have p1 := HF.out.cells hx1.out
 have p2 := HF.out.cells hx2.out
 have p3 := HF.out.cells hx3.out
 have p4 := HF.out.cells hx4.out
 have r0 := HF.out.cells hy0.out
 have r1 := HF.out.cells hy1.out
 have r2 := HF.out.cells hy2.out
 have r3 := HF.out.cells hy3.out
 have r4 := HF.out.cells hy4.out
 go_wp2_with fail
 skip
 go_region_held3 (fun W' => W'.cell? ⟨w.heap.size, 3, none⟩ = some (.slice (some ad) 2 c) ∧ W'.cell? ad = some (.int .i64 xo) ∧ W'.cell? ⟨ad.block, ad.off + 1, none⟩ = some (.string xs) ∧ W'.cell? ⟨ad.block, ad.off + 2, none⟩ = some (.int .i64 xn) ∧ W'.cell? ⟨ad.block, ad.off + 3, none⟩ = some (.slice xq xk xc) ∧ W'.cell? ⟨ad.block, ad.off + 4, none⟩ = some (.int .i64 xp) ∧ W'.cell? ⟨ad.block, ad.off + 5, none⟩ = some (.int .i64 yo) ∧ W'.cell? ⟨ad.block, ad.off + 5 + 1, none⟩ = some (.string ys) ∧ W'.cell? ⟨ad.block, ad.off + 5 + 2, none⟩ = some (.int .i64 yn) ∧ W'.cell? ⟨ad.block, ad.off + 5 + 3, none⟩ = some (.slice yq yk yc) ∧ W'.cell? ⟨ad.block, ad.off + 5 + 4, none⟩ = some (.int .i64 yp))
  (first | exact ⟨b3, p0, p1, p2, p3, p4, r0, r1, r2, r3, r4⟩ | exact ⟨hF.cells b3, hF.cells p0, hF.cells p1, hF.cells p2, hF.cells p3, hF.cells p4, hF.cells r0, hF.cells r1, hF.cells r2, hF.cells r3, hF.cells r4⟩ | exact ⟨hG.cells (hF.cells b3), hG.cells (hF.cells p0), hG.cells (hF.cells p1), hG.cells (hF.cells p2), hG.cells (hF.cells p3), hG.cells (hF.cells p4), hG.cells (hF.cells r0), hG.cells (hF.cells r1), hG.cells (hF.cells r2), hG.cells (hF.cells r3), hG.cells (hF.cells r4)⟩)
  (first
   | (go_at_call 39; with_reducible refine (HT.out _ (by first | exact HF.out.drew | exact HF.out)).mono ?_; rintro e V2 ⟨rfl, hF⟩)
   | (go_at_call 39; with_reducible refine (HU.out _ (HF.out.drew.trans0 hF)).mono ?_; rintro e V3 ⟨rfl, hG⟩))
 have HF := Lib.hid ((HF.out.drew.trans0 hF).trans0 hG)
 clear hF hG HT HU
 go_wp2_with fail
 refine bodyPost_ret (results_tmp rfl _ _ _) rfl ?_
 rw [HE.out]
 exact ⟨rfl, HF.out⟩
end Go.Proofs.YtgklmpooonnmiaaGreatDoor
