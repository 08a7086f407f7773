/-
  Lemmas and contracts that the proofs over this seat use (RefSign, RefSpell4, RefSpell, RefLeaf); no statement of the seat is claimed in this text, and nothing is assumed in it.
-/
import Derived.Test.YtgklmpooonnmiaaGreatDoorH6
import Derived.Test.YtgklmpooonnmiaaGreatDoorH25
import Derived.Deep.LoopGhost
import Derived.Deep.RegionHeld3
import Derived.Test.YtgklmpooonnmiaaGreatDoorH26
import Derived.Test.YtgklmpooonnmiaaGreatDoorH28
import Derived.Test.YtgklmpooonnmiaaGreatDoorH13
set_option linter.unusedVariables false
set_option linter.unusedSimpArgs false
namespace Go.Proofs.YtgklmpooonnmiaaGreatDoor
open Go.RowKit
theorem sign_two (s : ByteArray) (c : Nat) (hc : c < 256) (h : 2 ≤ s.size) : ((s.extract 0 2).toList = (ba [c, 61]).toList) ↔ bn s 0 = c ∧ bn s 1 = 61 := by
 rw [toList_inj, ba_take s 2 h, ba_inj (by intro x hx; simp only [List.mem_map] at hx; obtain ⟨i, _, rfl⟩ := hx; exact bn_lt s i) (by intro x hx; simp at hx; omega)]
 simp [List.range_succ]
namespace Lex
def two : Nat → Nat
 | 0 => 33
 | 1 => 60
 | _ => 62
def one : Nat → Nat
 | 0 => 40
 | 1 => 41
 | 2 => 91
 | 3 => 93
 | 4 => 44
 | 5 => 59
 | 6 => 61
 | 7 => 60
 | _ => 62
theorem sign_2 {f : Nat → Nat} {n i : Nat} (hi : i < 3) (h2 : 2 ≤ n) (h0 : f 0 = two i) (h1 : f 1 = 61) : sign f n = 2 := by
 unfold sign
 rw [if_neg (by omega), h0, h1]
 obtain rfl | rfl | rfl : i = 0 ∨ i = 1 ∨ i = 2 := by omega
 all_goals simp [two]; omega
theorem sign_1 {f : Nat → Nat} {n j : Nat} (hj : j < 9) (h0 : 0 < n) (h2 : ∀ i, i < 3 → ¬ (2 ≤ n ∧ f 0 = two i ∧ f 1 = 61)) (h1 : f 0 = one j) : sign f n = 1 := by
 have a0 := h2 0 (by omega)
 have a1 := h2 1 (by omega)
 have a2 := h2 2 (by omega)
 simp only [two] at a0 a1 a2
 unfold sign
 rw [if_neg (by omega)]
 rw [h1] at a0 a1 a2 ⊢
 have hj2 : j = 0 ∨ j = 1 ∨ j = 2 ∨ j = 3 ∨ j = 4 ∨ j = 5 ∨ j = 6 ∨ j = 7 ∨ j = 8 := by omega
 rcases hj2 with rfl | rfl | rfl | rfl | rfl | rfl | rfl | rfl | rfl <;> simp [one, isOne] at a0 a1 a2 ⊢ <;> omega
theorem sign_0 {f : Nat → Nat} {n : Nat} (h2 : ∀ i, i < 3 → ¬ (2 ≤ n ∧ f 0 = two i ∧ f 1 = 61)) (h1 : ∀ j, j < 9 → ¬ (0 < n ∧ f 0 = one j)) : sign f n = 0 := by
 unfold sign
 by_cases hn : n = 0
 ·rw [if_pos hn]
 rw [if_neg hn]
 have a0 := h2 0 (by omega)
 have b0 := h1 0 (by omega)
 have b1 := h1 1 (by omega)
 have b2 := h1 2 (by omega)
 have b3 := h1 3 (by omega)
 have b4 := h1 4 (by omega)
 have b5 := h1 5 (by omega)
 have b6 := h1 6 (by omega)
 have b7 := h1 7 (by omega)
 have b8 := h1 8 (by omega)
 simp only [two, one] at a0 b0 b1 b2 b3 b4 b5 b6 b7 b8
 by_cases h33 : f 0 = 33
 ·rw [if_pos h33, if_neg (by omega)]
 ·rw [if_neg h33, if_neg (by omega), if_neg]
  simp [isOne]; omega
end Lex
set_option maxHeartbeats 4000000 in
set_option maxRecDepth 100000 in
theorem ref_sign (w : World) (s : ByteArray) (hs : s.size ≤ maxLen) :
  Calls Tryz.prog 53 #[.string s] w fun e w' => e = .returned (.int .i64 (Lex.sign (bn s) s.size : Nat)) ∧ Fr [] w w' := by
 unfold maxLen at hs
 obtain ⟨R, hR⟩ : ∃ R, Hid (Lex.sign (bn s) s.size = R) := ⟨_, rfl⟩
 rw [hR.out]
 go_enter Tryz.func53, Tryz.ntmps53
 go_wp2_with fail
 refine wp_fresh (fun W => W.heap[w.heap.size]? = some (.cells #[.string ⟨#[33, 61]⟩, .string ⟨#[60, 61]⟩, .string ⟨#[62, 61]⟩] 9 (0, 0)) ∧ Fr [] w W) ⟨heap_alloc_last _ _, (Fr.refl _ _).alloc _⟩ ?_
 rintro W0 ⟨hr0, hf0⟩
 have HR0 := Lib.hid hr0
 have HF0 := Lib.hid hf0
 clear hr0 hf0
 go_loopg [4] 3 (fun q t W => ∃ i : Nat, i ≤ 3 ∧ q = 3 - i ∧ t = .int .i64 i ∧ Hid (∀ j, j < i → ¬ (2 ≤ s.size ∧ bn s 0 = Lex.two j ∧ bn s 1 = 61)) ∧ Hid (W.heap[w.heap.size]? = some (.cells #[.string ⟨#[33, 61]⟩, .string ⟨#[60, 61]⟩, .string ⟨#[62, 61]⟩] 9 (0, 0))) ∧ Hid (Fr [] w W))
 case atStart => exact ⟨0, by decide, rfl, rfl, Lib.hid (fun j h => absurd h (by omega)), HR0, HF0⟩
 case round =>
  clear HR0 HF0
  obtain ⟨i, hi, hq, rfl, HM, HR0, HF⟩ := hrel
  have HQ := Lib.hid hq
  clear hq
  by_cases hlt : i < 3
  ·have hc : ∀ j, wr.cell? ⟨w.heap.size, j, none⟩ = (#[.string ⟨#[33, 61]⟩, .string ⟨#[60, 61]⟩, .string ⟨#[62, 61]⟩] : Array Value)[j]? := fun j => cell_of_row wr _ j _ _ (0, 0) HR0.out
   by_cases h2 : 2 ≤ s.size
   ·have h2' : (s.size : Int) ≥ 2 := by omega
    have h2'' : (2 : Int) ≤ (s.size : Int) := by omega
    obtain ⟨T, hT⟩ : ∃ T, s.extract 0 2 = T := ⟨_, rfl⟩
    have hsg : T.toList = (ba [Lex.two i, 61]).toList ↔ bn s 0 = Lex.two i ∧ bn s 1 = 61 := by
     rw [← hT]; exact sign_two s _ (by unfold Lex.two; split <;> decide) h2
    have HD : ((T.toList == (ba [Lex.two i, 61]).toList) = true ∧ bn s 0 = Lex.two i ∧ bn s 1 = 61) ∨ ((T.toList == (ba [Lex.two i, 61]).toList) = false ∧ ¬ (bn s 0 = Lex.two i ∧ bn s 1 = 61)) := by
     by_cases h : T.toList = (ba [Lex.two i, 61]).toList
     ·exact Or.inl ⟨beq_iff_eq.2 h, hsg.1 h⟩
     ·exact Or.inr ⟨beq_eq_false_iff_ne.2 h, fun h3 => h (hsg.2 h3)⟩
    clear hsg
    have hbl : (ba [Lex.two i, 61]).toList = [UInt8.ofNat (Lex.two i), 61] := by rw [ByteArray.toList_eq]; rfl
    rw [hbl] at HD
    clear hbl
    obtain ⟨I, hI⟩ : ∃ I, Hid (I = i) := ⟨i, rfl⟩
    rcases HD with ⟨hb, ha1, ha2⟩ | ⟨hb, hb2⟩
    ·have HX : Hid (R = 2) := by show _ = _; rw [← hR.out]; exact Lex.sign_2 hlt h2 ha1 ha2
     clear ha1 ha2 HM
     obtain rfl | rfl | rfl : i = 0 ∨ i = 1 ∨ i = 2 := by omega
     all_goals
      have hc0 := hc 0
      have hc1 := hc 1
      have hc2 := hc 2
      have hbb : (T.toList == [33, 61]) = true ∨ True := Or.inr trivial
      first | have hb' : (T.toList == [33, 61]) = true := hb | have hb' : (T.toList == [60, 61]) = true := hb | have hb' : (T.toList == [62, 61]) = true := hb
      clear hc hb hbb
      go_wp2_with fail
      go_quiet (fail)
      refine then_fresh (fun W => Fr [] w W) (HF.out.drewN _) ?_
      intro W1 HF1
      go_wp2_with fail
      go_ret
      rw [HX.out]
      exact ⟨rfl, HF1⟩
    ·have HM2 : Hid (∀ j, j < I + 1 → ¬ (2 ≤ s.size ∧ bn s 0 = Lex.two j ∧ bn s 1 = 61)) := fun j hj hx => by
      rw [hI.out] at hj
      by_cases e : j = i
      ·subst e; exact hb2 hx.2
      ·exact HM.out j (by omega) hx
     clear HM hb2
     obtain rfl | rfl | rfl : i = 0 ∨ i = 1 ∨ i = 2 := by omega
     all_goals
      have hc0 := hc 0
      have hc1 := hc 1
      have hc2 := hc 2
      first | have hb' : (T.toList == [33, 61]) = false := hb | have hb' : (T.toList == [60, 61]) = false := hb | have hb' : (T.toList == [62, 61]) = false := hb
      clear hc hb
      go_wp2_with fail
      go_quiet (fail)
      refine then_fresh (fun W => W.heap[w.heap.size]? = some (.cells #[.string ⟨#[33, 61]⟩, .string ⟨#[60, 61]⟩, .string ⟨#[62, 61]⟩] 9 (0, 0)) ∧ Fr [] w W) ⟨by rw [heap_drewN]; exact HR0.out, HF.out.drewN _⟩ ?_
      rintro W1 ⟨hr1, hf1⟩
      have HR1 := Lib.hid hr1
      have HF1 := Lib.hid hf1
      clear hr1 hf1 hc0 hc1 hc2
      go_wp2_with fail
      go_roundg (3 - (I + 1))
      case measure => have := HQ.out; have := hI.out; omega
      case rel => exact ⟨I + 1, by have := hI.out; omega, rfl, by rw [hI.out]; rfl, HM2, HR1, HF1⟩
   ·have h2' : decide ((s.size : Int) ≥ 2) = false := decide_eq_false (by omega)
    have h2'' : decide (2 ≤ s.size) = false := decide_eq_false (by omega)
    have HM2 : Hid (∀ j, j < i + 1 → ¬ (2 ≤ s.size ∧ bn s 0 = Lex.two j ∧ bn s 1 = 61)) := fun j hj hx => h2 hx.1
    have hlt' : (i : Int) < 3 := by omega
    clear HM hc
    go_wp2_with fail
    go_quiet (fail)
    refine then_fresh (fun W => W.heap[w.heap.size]? = some (.cells #[.string ⟨#[33, 61]⟩, .string ⟨#[60, 61]⟩, .string ⟨#[62, 61]⟩] 9 (0, 0)) ∧ Fr [] w W) ⟨by rw [heap_drewN]; exact HR0.out, HF.out.drewN _⟩ ?_
    rintro W1 ⟨hr1, hf1⟩
    have HR1 := Lib.hid hr1
    have HF1 := Lib.hid hf1
    clear hr1 hf1
    go_wp2_with fail
    go_roundg (3 - (i + 1))
    case measure => have := HQ.out; omega
    case rel => exact ⟨i + 1, by omega, rfl, by go_num, HM2, HR1, HF1⟩
  ·obtain rfl : i = 3 := by omega
   have HF0 := HF
   clear HR0 HQ HF
   go_wp2_with fail
   go_loopg [6] 9 (fun q t W => ∃ j : Nat, j ≤ 9 ∧ q = 9 - j ∧ t = .int .i64 j ∧ Hid (∀ m, m < j → ¬ (0 < s.size ∧ bn s 0 = Lex.one m)) ∧ Hid (Fr [] w W))
   case atStart => exact ⟨0, by decide, rfl, rfl, Lib.hid (fun j h => absurd h (by omega)), HF0⟩
   case round =>
    clear HF0
    obtain ⟨j, hj, hq, rfl, HN, HF⟩ := hrel
    have HQ := Lib.hid hq
    clear hq
    by_cases hl9 : j < 9
    ·have hl9' : (j : Int) < 9 := by omega
     by_cases h0 : 0 < s.size
     ·have h0' : (s.size : Int) > 0 := by omega
      have hz := bn_at s 0 h0
      obtain ⟨J, hJ⟩ : ∃ J, Hid (J = j) := ⟨j, rfl⟩
      by_cases he : bn s 0 = Lex.one j
      ·have HX : Hid (R = 1) := by show _ = _; rw [← hR.out]; exact Lex.sign_1 hl9 h0 HM.out he
       clear HN HM
       rw [he] at hz
       clear he
       obtain rfl | rfl | rfl | rfl | rfl | rfl | rfl | rfl | rfl : j = 0 ∨ j = 1 ∨ j = 2 ∨ j = 3 ∨ j = 4 ∨ j = 5 ∨ j = 6 ∨ j = 7 ∨ j = 8 := by omega
       all_goals
        simp only [Lex.one] at hz
        go_wp2_with fail
        go_quiet (fail)
        refine then_fresh (fun W => Fr [] w W) (HF.out.drewN _) ?_
        intro W1 HF1
        go_wp2_with fail
        go_ret
        rw [HX.out]
        exact ⟨rfl, HF1⟩
      ·have HN2 : Hid (∀ m, m < J + 1 → ¬ (0 < s.size ∧ bn s 0 = Lex.one m)) := fun m hm hx => by
        rw [hJ.out] at hm
        by_cases e : m = j
        ·subst e; exact he hx.2
        ·exact HN.out m (by omega) hx
       have hne : (((bn s 0 : Nat) : Int) == ((Lex.one j : Nat) : Int)) = false := beq_eq_false_iff_ne.2 (by omega)
       clear HN he
       have z0 : ((⟨#[40, 41, 91, 93, 44, 59, 61, 60, 62]⟩ : ByteArray)[0]'(by decide)).toNat = 40 := rfl
       have z1 : ((⟨#[40, 41, 91, 93, 44, 59, 61, 60, 62]⟩ : ByteArray)[1]'(by decide)).toNat = 41 := rfl
       have z2 : ((⟨#[40, 41, 91, 93, 44, 59, 61, 60, 62]⟩ : ByteArray)[2]'(by decide)).toNat = 91 := rfl
       have z3 : ((⟨#[40, 41, 91, 93, 44, 59, 61, 60, 62]⟩ : ByteArray)[3]'(by decide)).toNat = 93 := rfl
       have z4 : ((⟨#[40, 41, 91, 93, 44, 59, 61, 60, 62]⟩ : ByteArray)[4]'(by decide)).toNat = 44 := rfl
       have z5 : ((⟨#[40, 41, 91, 93, 44, 59, 61, 60, 62]⟩ : ByteArray)[5]'(by decide)).toNat = 59 := rfl
       have z6 : ((⟨#[40, 41, 91, 93, 44, 59, 61, 60, 62]⟩ : ByteArray)[6]'(by decide)).toNat = 61 := rfl
       have z7 : ((⟨#[40, 41, 91, 93, 44, 59, 61, 60, 62]⟩ : ByteArray)[7]'(by decide)).toNat = 60 := rfl
       have z8 : ((⟨#[40, 41, 91, 93, 44, 59, 61, 60, 62]⟩ : ByteArray)[8]'(by decide)).toNat = 62 := rfl
       obtain rfl | rfl | rfl | rfl | rfl | rfl | rfl | rfl | rfl : j = 0 ∨ j = 1 ∨ j = 2 ∨ j = 3 ∨ j = 4 ∨ j = 5 ∨ j = 6 ∨ j = 7 ∨ j = 8 := by omega
       all_goals
        first | have hn2 : (((bn s 0 : Nat) : Int) == 40) = false := hne | have hn2 : (((bn s 0 : Nat) : Int) == 41) = false := hne | have hn2 : (((bn s 0 : Nat) : Int) == 91) = false := hne | have hn2 : (((bn s 0 : Nat) : Int) == 93) = false := hne | have hn2 : (((bn s 0 : Nat) : Int) == 44) = false := hne | have hn2 : (((bn s 0 : Nat) : Int) == 59) = false := hne | have hn2 : (((bn s 0 : Nat) : Int) == 61) = false := hne | have hn2 : (((bn s 0 : Nat) : Int) == 60) = false := hne | have hn2 : (((bn s 0 : Nat) : Int) == 62) = false := hne
        clear hne
        go_wp2_with fail
        go_quiet (fail)
        refine then_fresh (fun W => Fr [] w W) (HF.out.drewN _) ?_
        intro W1 HF1
        go_wp2_with fail
        go_roundg (9 - (J + 1))
        case measure => have := HQ.out; have := hJ.out; omega
        case rel => exact ⟨J + 1, by have := hJ.out; omega, rfl, by rw [hJ.out]; rfl, HN2, HF1⟩
     ·have h0' : decide ((s.size : Int) > 0) = false := decide_eq_false (by omega)
      have h0'' : decide (0 < s.size) = false := decide_eq_false (by omega)
      have HN2 : Hid (∀ m, m < j + 1 → ¬ (0 < s.size ∧ bn s 0 = Lex.one m)) := fun m hm hx => h0 hx.1
      clear HN
      go_wp2_with fail
      go_quiet (fail)
      refine then_fresh (fun W => Fr [] w W) (HF.out.drewN _) ?_
      intro W1 HF1
      go_wp2_with fail
      go_roundg (9 - (j + 1))
      case measure => have := HQ.out; omega
      case rel => exact ⟨j + 1, by omega, rfl, by go_num, HN2, HF1⟩
    ·obtain rfl : j = 9 := by omega
     have HX : Hid (R = 0) := by show _ = _; rw [← hR.out]; exact Lex.sign_0 HM.out HN.out
     go_wp2_with fail
     go_ret
     rw [HX.out]
     exact ⟨rfl, HF.out⟩
end Go.Proofs.YtgklmpooonnmiaaGreatDoor

namespace Go.Proofs.YtgklmpooonnmiaaGreatDoor
open Go.RowKit
set_option maxHeartbeats 4000000 in
set_option maxRecDepth 100000 in
theorem ref_spell4 (w : World) (s : ByteArray) (n p : Int) (hs2 : s.size ≤ maxLen) (h0 : 0 < s.size) :
  Calls Tryz.prog 90 #[.agg #[.int .i64 4, .string s, .int .i64 n, .int .i64 p]] w fun e w' => e = .returned (.string (Lex.spell 4 s n)) ∧ Fr [] w w' := by
 have HS2 := Lib.hid hs2
 have HSG := Lib.hid (fun W => ref_sign W s HS2.out)
 obtain ⟨K, hK⟩ : ∃ K, Hid (Lex.sign (bn s) s.size = K) := ⟨_, rfl⟩
 simp only [hK.out] at HSG
 have HD : (((K : Int) == (s.size : Int)) = true ∧ Lex.spell 4 s n = s) ∨ (((K : Int) == (s.size : Int)) = false ∧ Lex.spell 4 s n = ⟨#[]⟩) := by
  by_cases h : K = s.size
  ·refine Or.inl ⟨beq_iff_eq.2 (by omega), ?_⟩
   show (if 0 < s.size ∧ Lex.sign (bn s) s.size = s.size then s else ⟨#[]⟩) = _
   rw [if_pos ⟨by omega, by rw [hK.out]; exact h⟩]
  ·refine Or.inr ⟨beq_eq_false_iff_ne.2 (by omega), ?_⟩
   show (if 0 < s.size ∧ Lex.sign (bn s) s.size = s.size then s else ⟨#[]⟩) = _
   rw [if_neg (by rw [hK.out]; omega)]
 have d1 : decide ((s.size : Int) > 0) = true := decide_eq_true (by omega)
 have d2 : decide (0 < s.size) = true := decide_eq_true (by omega)
 have HH0 := Lib.hid h0
 clear h0
 rcases HD with ⟨hd, hsp⟩ | ⟨hd, hsp⟩
 all_goals
  have HSP := Lib.hid hsp
  clear hsp
  go_enter Tryz.func90, Tryz.ntmps90
  go_wp2_with fail
  refine wp_fresh (fun W => W.heap[w.heap.size]? = some (.cells #[.int .i64 4, .string s, .int .i64 n, .int .i64 p] 54 (0, 0)) ∧ Fr [] w W) ⟨heap_alloc_last _ _, (Fr.refl _ _).alloc _⟩ ?_
  rintro W0 ⟨hr0, hf0⟩
  have c1 : W0.cell? ⟨w.heap.size, 1, none⟩ = some (.string s) := cell_of_row W0 _ 1 _ _ (0, 0) hr0
  have HF0 := Lib.hid hf0
  clear hr0 hf0
  go_region_held3 (fun W' => W'.cell? ⟨w.heap.size, 1, none⟩ = some (.string s)) (first | go_keep | exact hF.cells c1) ((go_at_call 53; refine (HSG.out _).mono ?_; rintro e w1 ⟨rfl, hF⟩))
  have HF1 := Lib.hid ((HF0.out.drew).trans0 hF)
  have c2 := hF.cells (by simpa using c1)
  clear hF c1
  go_wp2_with fail
  go_ret
  rw [HSP.out]
  exact ⟨rfl, HF1.out⟩
end Go.Proofs.YtgklmpooonnmiaaGreatDoor

namespace Go.Proofs.YtgklmpooonnmiaaGreatDoor
open Go.RowKit
set_option maxHeartbeats 4000000 in
set_option maxRecDepth 100000 in
theorem ref_spell (w : World) (k : Int) (s : ByteArray) (n p : Int) (hs : s.size ≤ 100000000) (hn : -9223372036854775808 ≤ n ∧ n ≤ 9223372036854775807) :
  Calls Tryz.prog 90 #[.agg #[.int .i64 k, .string s, .int .i64 n, .int .i64 p]] w fun e w' => e = .returned (.string (Lex.spell k s n)) ∧ Fr [] w w' := by
 have hs2 : s.size ≤ maxLen := by unfold maxLen; omega
 have HS := Lib.hid hs
 have HS2 := Lib.hid hs2
 clear hs2
 by_cases k1 : k = 1
 ·subst k1
  have HSP : Hid (Lex.spell 1 s n = if Lex.wordB s = true then s else ⟨#[]⟩) := rfl
  obtain ⟨R, hR⟩ : ∃ R, Hid (Lex.spell 1 s n = R) := ⟨_, rfl⟩
  rw [hR.out] at HSP
  rw [hR.out]
  have h100 : s.size ≤ 100000000 := hs
  go_enter Tryz.func90, Tryz.ntmps90
  go_wp2_with fail
  refine wp_fresh (fun W => W.heap[w.heap.size]? = some (.cells #[.int .i64 1, .string s, .int .i64 n, .int .i64 p] 54 (0, 0)) ∧ Fr [] w W) ⟨heap_alloc_last _ _, (Fr.refl _ _).alloc _⟩ ?_
  rintro W0 ⟨hr0, hf0⟩
  have HR0 := Lib.hid hr0
  have HF0 := Lib.hid hf0
  clear hr0 hf0
  go_loopg [3] s.size (fun q t W => ∃ i : Nat, i ≤ s.size ∧ q = s.size - i ∧ t = .int .i64 i ∧ Hid (Lex.smalls (bn s) s.size i = Lex.smalls (bn s) s.size 0) ∧ Hid (W.heap[w.heap.size]? = some (.cells #[.int .i64 1, .string s, .int .i64 n, .int .i64 p] 54 (0, 0))) ∧ Hid (Fr [] w W))
  case atStart => exact ⟨0, Nat.zero_le _, rfl, rfl, rfl, HR0, HF0⟩
  case round =>
   clear HR0 HF0
   obtain ⟨i, hi, hq, rfl, HL, HR0, HF⟩ := hrel
   have HQ := Lib.hid hq
   clear hq
   have c1 : wr.cell? ⟨w.heap.size, 1, none⟩ = some (.string s) := cell_of_row wr _ 1 _ _ (0, 0) HR0.out
   by_cases hlt : i < s.size
   ·have hlt' : (i : Int) < (s.size : Int) := by omega
    have hz := bn_at s i hlt
    have HSM := Lib.hid (fun v => ref11_small (bn s i) v)
    by_cases hd : Lex.small (bn s i) = true
    ·simp only [hd] at HSM
     have HL2 : Hid (Lex.smalls (bn s) s.size (i + 1) = Lex.smalls (bn s) s.size 0) := by show _ = _; rw [← HL.out, Lex.smalls_yes hlt hd]
     clear HL hd
     go_wp2_with fail
     refine (HSM.out _).mono ?_
     rintro e w1 ⟨rfl, rfl⟩
     go_wp2_with fail
     go_roundg (s.size - (i + 1))
     case measure => have := HQ.out; omega
     case rel => exact ⟨i + 1, by omega, rfl, by go_num, HL2, HR0, HF⟩
    ·have hd' : Lex.small (bn s i) = false := by simpa using hd
     simp only [hd'] at HSM
     have HX : Hid (R = ⟨#[]⟩) := by show _ = _; rw [HSP.out, Lex.wordB_no (by rw [← HL.out, Lex.smalls_no hd]; omega)]; rfl
     clear HL hd hd'
     go_wp2_with fail
     refine (HSM.out _).mono ?_
     rintro e w1 ⟨rfl, rfl⟩
     go_wp2_with fail
     go_ret
     rw [HX.out]
     exact ⟨rfl, HF.out⟩
   ·obtain rfl : i = s.size := by omega
    have hE : Lex.smalls (bn s) s.size 0 = s.size := by rw [← HL.out, Lex.smalls_end hlt]
    clear HL
    by_cases h32 : s.size ≤ 32
    ·have h32' : (s.size : Int) ≤ 32 := by omega
     have HX : Hid (R = s) := by
      show _ = _
      rw [HSP.out]
      by_cases h0 : s.size = 0
      ·have e0 : s = ⟨#[]⟩ := toList_inj.1 (by rw [toList_nil h0, ByteArray.toList_eq])
       split
       ·rfl
       ·exact e0.symm
      ·rw [if_pos (show Lex.wordB s = true from decide_eq_true ⟨hE, by omega, h32⟩)]
     clear hE
     go_wp2_with fail
     go_ret
     rw [HX.out]
     exact ⟨rfl, HF.out⟩
    ·have h32' : ¬ (s.size : Int) ≤ 32 := by omega
     have HX : Hid (R = ⟨#[]⟩) := by
      show _ = _
      rw [HSP.out, if_neg]
      simp [Lex.wordB]; omega
     clear hE
     go_wp2_with fail
     go_ret
     rw [HX.out]
     exact ⟨rfl, HF.out⟩
 have q1 : (k == 1) = false := beq_eq_false_iff_ne.2 k1
 by_cases k2 : k = 2
 ·subst k2
  have HSP : Hid (Lex.spell 2 s n = ba ((Lex.quote s).getD [])) := rfl
  have HQU := Lib.hid (fun W => ref_quote W s HS.out)
  clear k1 q1
  go_enter Tryz.func90, Tryz.ntmps90
  go_wp2_with fail
  refine (HQU.out _).mono ?_
  rintro e w1 ⟨rfl, hF⟩
  have HF := Lib.hid (((Fr.refl [] w).alloc _).trans0 hF)
  clear hF
  go_wp2_with fail
  go_ret
  rw [HSP.out]
  exact ⟨rfl, HF.out⟩
 have q2 : (k == 2) = false := beq_eq_false_iff_ne.2 k2
 by_cases k3 : k = 3
 ·subst k3
  clear k1 k2 q1 q2 hn
  by_cases g1 : -9007199254740991 ≤ n
  ·by_cases g2 : n ≤ 9007199254740991
   ·have HPR := Lib.hid (fun W => ref_print W n (by omega))
    have HSP : Hid (Lex.spell 3 s n = ba (Dec.print n)) := by show (if -9007199254740991 ≤ n ∧ n ≤ 9007199254740991 then ba (Dec.print n) else ⟨#[]⟩) = _; rw [if_pos ⟨g1, g2⟩]
    have g1' : n ≥ -9007199254740991 := g1
    go_enter Tryz.func90, Tryz.ntmps90
    go_wp2_with fail
    refine (HPR.out _).mono ?_
    rintro e w1 ⟨rfl, hF⟩
    have HF := Lib.hid (((Fr.refl [] w).alloc _).trans0 hF)
    clear hF
    go_wp2_with fail
    go_ret
    rw [HSP.out]
    exact ⟨rfl, HF.out⟩
   ·have HSP : Hid (Lex.spell 3 s n = ⟨#[]⟩) := by show (if -9007199254740991 ≤ n ∧ n ≤ 9007199254740991 then ba (Dec.print n) else ⟨#[]⟩) = _; rw [if_neg (by omega)]
    have g1' : n ≥ -9007199254740991 := g1
    go_enter Tryz.func90, Tryz.ntmps90
    go_wp2_with fail
    go_ret
    rw [HSP.out]
    exact ⟨rfl, (Fr.refl _ _).alloc _⟩
  ·have HSP : Hid (Lex.spell 3 s n = ⟨#[]⟩) := by show (if -9007199254740991 ≤ n ∧ n ≤ 9007199254740991 then ba (Dec.print n) else ⟨#[]⟩) = _; rw [if_neg (by omega)]
   have g1' : ¬ n ≥ -9007199254740991 := g1
   go_enter Tryz.func90, Tryz.ntmps90
   go_wp2_with fail
   go_ret
   rw [HSP.out]
   exact ⟨rfl, (Fr.refl _ _).alloc _⟩
 have q3 : (k == 3) = false := beq_eq_false_iff_ne.2 k3
 by_cases k4 : k = 4
 ·subst k4
  have h100 : s.size ≤ 100000000 := hs
  by_cases h0 : s.size = 0
  ·have HSP : Hid (Lex.spell 4 s n = ⟨#[]⟩) := by show (if 0 < s.size ∧ Lex.sign (bn s) s.size = s.size then s else ⟨#[]⟩) = _; rw [if_neg (by omega)]
   have d1 : decide ((s.size : Int) > 0) = false := decide_eq_false (by omega)
   have d2 : decide (0 < s.size) = false := decide_eq_false (by omega)
   go_enter Tryz.func90, Tryz.ntmps90
   go_wp2_with fail
   go_quiet (fail)
   refine then_fresh (fun W => Fr [] w W) ((Fr.refl _ _).alloc _ |>.drewN _) ?_
   intro W1 HF1
   go_wp2_with fail
   go_ret
   rw [HSP.out]
   exact ⟨rfl, HF1⟩
  ·exact ref_spell4 w s n p HS2.out (by omega)
 have q4 : (k == 4) = false := beq_eq_false_iff_ne.2 k4
 have HSP : Hid (Lex.spell k s n = ⟨#[]⟩) := by show _ = _; unfold Lex.spell; rw [if_neg k1, if_neg k2, if_neg k3, if_neg k4]
 clear k1 k2 k3 k4
 go_enter Tryz.func90, Tryz.ntmps90
 go_wp2_with fail
 go_ret
 rw [HSP.out]
 exact ⟨rfl, (Fr.refl _ _).alloc _⟩
end Go.Proofs.YtgklmpooonnmiaaGreatDoor

namespace Go.Proofs.YtgklmpooonnmiaaGreatDoor
open Go.RowKit
set_option maxHeartbeats 4000000 in
theorem ref_quoted12 (w : World) (s : ByteArray) (hs : s.size ≤ 100000000) : Calls Tryz.prog 32 #[.string s] w fun e w' => e = .returned (.bool (Lex.quote s).isSome) ∧ Fr [] w w' := by
 have HQ := Lib.hid (ref_quote w s hs)
 go_enter Tryz.func32, Tryz.ntmps32
 go_wp2_with fail
 refine HQ.out.mono ?_
 rintro e w1 ⟨rfl, hF⟩
 have HF := Lib.hid hF
 clear hF
 go_wp2_with fail
 refine bodyPost_ret (results_tmp rfl _ _ _) rfl ?_
 exact ⟨rfl, HF.out⟩
theorem emp_of {s : ByteArray} (h : s.toList.isEmpty = true) : (s.toList == []) = true := by
 cases hs : s.toList with
 | nil => rfl
 | cons _ _ => rw [hs] at h; cases h
theorem emp_no {s : ByteArray} (h : s.toList.isEmpty = false) : (s.toList == []) = false := by
 cases hs : s.toList with
 | nil => rw [hs] at h; cases h
 | cons _ _ => rfl
set_option maxHeartbeats 4000000 in
set_option maxRecDepth 100000 in
theorem ref_leaf1 (w : World) (op : Int) (s : ByteArray) (n p : Int) (q : Option Addr) (k c : Nat) (hs : s.size ≤ 100000000) (hop : op = 1) : Calls Tryz.prog 65 #[.agg #[.int .i64 op, .string s, .int .i64 n, .slice q k c, .int .i64 p]] w fun e w' => e = .returned (.bool (Ex.head op s n 0)) ∧ Fr [] w w' := by
 subst hop
 have HR : Hid (Ex.head 1 s n 0 = ((n == 0 || n == 1) && s.toList == [])) := by show _ = _; rw [Ex.head, if_pos rfl]; simp
 go_enter Tryz.func65, Tryz.ntmps65
 go_upto_region 1 with fail
 refine wp_fresh (fun V => V.heap[w.heap.size]? = some (.cells #[.int .i64 1, .string s, .int .i64 n, .slice q k c, .int .i64 p] 42 (0, 0)) ∧ Fr [] w V) ⟨heap_alloc_last _ _, (Fr.refl _ _).alloc _⟩ ?_
 rintro V ⟨hr, hF⟩
 have HF := Lib.hid hF
 have cf : ∀ i, V.frozen? ⟨(w.heap.size), i, none⟩ = false := fun i => Lib.frozen_of_heap hr i
 have c0 : V.cell? ⟨(w.heap.size), 0, none⟩ = some (.int .i64 1) := by rw [Lib.cell_of_heap hr]; rfl
 have c1 : V.cell? ⟨(w.heap.size), 1, none⟩ = some (.string s) := by rw [Lib.cell_of_heap hr]; rfl
 have c2 : V.cell? ⟨(w.heap.size), 2, none⟩ = some (.int .i64 n) := by rw [Lib.cell_of_heap hr]; rfl
 clear hr hF
 cases he : s.toList.isEmpty with
 | false =>
  have HE : Hid (Ex.head 1 s n 0 = false) := by show _ = _; rw [HR.out, emp_no he, Bool.and_false]
  go_wp2_with fail
  refine bodyPost_ret (results_tmp rfl _ _ _) rfl ?_
  rw [HE.out]
  exact ⟨rfl, HF.out⟩
 | true =>
  by_cases h0 : n = 0
  ·have HE : Hid (Ex.head 1 s n 0 = true) := by show _ = _; rw [HR.out, emp_of he, h0]; rfl
   have e0 : (n == 0) = true := beq_iff_eq.2 h0
   clear h0
   go_wp2_with fail
   refine bodyPost_ret (results_tmp rfl _ _ _) rfl ?_
   rw [HE.out]
   exact ⟨rfl, HF.out⟩
  ·have e0 : (n == 0) = false := beq_eq_false_iff_ne.2 h0
   by_cases h1 : n = 1
   ·have HE : Hid (Ex.head 1 s n 0 = true) := by show _ = _; rw [HR.out, emp_of he, h1]; rfl
    have e1 : (n == 1) = true := beq_iff_eq.2 h1
    clear h0 h1
    go_wp2_with fail
    refine bodyPost_ret (results_tmp rfl _ _ _) rfl ?_
    rw [HE.out]
    exact ⟨rfl, HF.out⟩
   ·have e1 : (n == 1) = false := beq_eq_false_iff_ne.2 h1
    have HE : Hid (Ex.head 1 s n 0 = false) := by show _ = _; rw [HR.out, e0, e1]; rfl
    clear h0 h1
    go_wp2_with fail
    refine bodyPost_ret (results_tmp rfl _ _ _) rfl ?_
    rw [HE.out]
    exact ⟨rfl, HF.out⟩
set_option maxHeartbeats 4000000 in
set_option maxRecDepth 100000 in
theorem ref_leaf2 (w : World) (op : Int) (s : ByteArray) (n p : Int) (q : Option Addr) (k c : Nat) (hs : s.size ≤ 100000000) (hop : op = 2) : Calls Tryz.prog 65 #[.agg #[.int .i64 op, .string s, .int .i64 n, .slice q k c, .int .i64 p]] w fun e w' => e = .returned (.bool (Ex.head op s n 0)) ∧ Fr [] w w' := by
 subst hop
 have HR : Hid (Ex.head 2 s n 0 = (decide (-9007199254740991 ≤ n) && decide (n ≤ 9007199254740991) && s.toList == [])) := by show _ = _; rw [Ex.head, if_neg (by decide), if_pos rfl]; simp
 go_enter Tryz.func65, Tryz.ntmps65
 go_upto_region 1 with fail
 refine wp_fresh (fun V => V.heap[w.heap.size]? = some (.cells #[.int .i64 2, .string s, .int .i64 n, .slice q k c, .int .i64 p] 42 (0, 0)) ∧ Fr [] w V) ⟨heap_alloc_last _ _, (Fr.refl _ _).alloc _⟩ ?_
 rintro V ⟨hr, hF⟩
 have HF := Lib.hid hF
 have cf : ∀ i, V.frozen? ⟨(w.heap.size), i, none⟩ = false := fun i => Lib.frozen_of_heap hr i
 have c0 : V.cell? ⟨(w.heap.size), 0, none⟩ = some (.int .i64 2) := by rw [Lib.cell_of_heap hr]; rfl
 have c1 : V.cell? ⟨(w.heap.size), 1, none⟩ = some (.string s) := by rw [Lib.cell_of_heap hr]; rfl
 have c2 : V.cell? ⟨(w.heap.size), 2, none⟩ = some (.int .i64 n) := by rw [Lib.cell_of_heap hr]; rfl
 clear hr hF
 cases he : s.toList.isEmpty with
 | false =>
  have HE : Hid (Ex.head 2 s n 0 = false) := by show _ = _; rw [HR.out, emp_no he, Bool.and_false]
  go_wp2_with fail
  refine bodyPost_ret (results_tmp rfl _ _ _) rfl ?_
  rw [HE.out]
  exact ⟨rfl, HF.out⟩
 | true =>
  by_cases h0 : n ≥ -9007199254740991
  ·by_cases h1 : n ≤ 9007199254740991
   ·have HE : Hid (Ex.head 2 s n 0 = true) := by show _ = _; rw [HR.out, emp_of he, decide_eq_true h1, decide_eq_true (show -9007199254740991 ≤ n from h0)]; rfl
    go_wp2_with fail
    refine bodyPost_ret (results_tmp rfl _ _ _) rfl ?_
    rw [HE.out]
    exact ⟨rfl, HF.out⟩
   ·have HE : Hid (Ex.head 2 s n 0 = false) := by show _ = _; rw [HR.out, decide_eq_false h1]; simp
    go_wp2_with fail
    refine bodyPost_ret (results_tmp rfl _ _ _) rfl ?_
    rw [HE.out]
    exact ⟨rfl, HF.out⟩
  ·have HE : Hid (Ex.head 2 s n 0 = false) := by show _ = _; rw [HR.out, decide_eq_false (show ¬ -9007199254740991 ≤ n from h0)]; rfl
   go_wp2_with fail
   refine bodyPost_ret (results_tmp rfl _ _ _) rfl ?_
   rw [HE.out]
   exact ⟨rfl, HF.out⟩
set_option maxHeartbeats 4000000 in
set_option maxRecDepth 100000 in
theorem ref_leaf3 (w : World) (op : Int) (s : ByteArray) (n p : Int) (q : Option Addr) (k c : Nat) (hs : s.size ≤ 100000000) (hop : op = 3) : Calls Tryz.prog 65 #[.agg #[.int .i64 op, .string s, .int .i64 n, .slice q k c, .int .i64 p]] w fun e w' => e = .returned (.bool (Ex.head op s n 0)) ∧ Fr [] w w' := by
 subst hop
 have HR : Hid (Ex.head 3 s n 0 = (n == 0 && (Lex.quote s).isSome)) := by show _ = _; rw [Ex.head, if_neg (by decide), if_neg (by decide), if_pos (by decide)]; simp
 have HQ := Lib.hid (fun W => ref_quoted12 W s hs)
 obtain ⟨z, hz⟩ : ∃ z, (Lex.quote s).isSome = z := ⟨_, rfl⟩
 simp only [hz] at HQ
 rw [hz] at HR
 clear hz
 go_enter Tryz.func65, Tryz.ntmps65
 go_upto_region 1 with fail
 refine wp_fresh (fun V => V.heap[w.heap.size]? = some (.cells #[.int .i64 3, .string s, .int .i64 n, .slice q k c, .int .i64 p] 42 (0, 0)) ∧ Fr [] w V) ⟨heap_alloc_last _ _, (Fr.refl _ _).alloc _⟩ ?_
 rintro V ⟨hr, hF⟩
 have HF := Lib.hid hF
 have cf : ∀ i, V.frozen? ⟨(w.heap.size), i, none⟩ = false := fun i => Lib.frozen_of_heap hr i
 have c0 : V.cell? ⟨(w.heap.size), 0, none⟩ = some (.int .i64 3) := by rw [Lib.cell_of_heap hr]; rfl
 have c1 : V.cell? ⟨(w.heap.size), 1, none⟩ = some (.string s) := by rw [Lib.cell_of_heap hr]; rfl
 have c2 : V.cell? ⟨(w.heap.size), 2, none⟩ = some (.int .i64 n) := by rw [Lib.cell_of_heap hr]; rfl
 clear hr hF
 cases h0 : (n == 0) with
 | false =>
  have HE : Hid (Ex.head 3 s n 0 = false) := by show _ = _; rw [HR.out, h0]; rfl
  go_wp2_with fail
  refine bodyPost_ret (results_tmp rfl _ _ _) rfl ?_
  rw [HE.out]
  exact ⟨rfl, HF.out⟩
 | true =>
  have HE : Hid (Ex.head 3 s n 0 = z) := by show _ = _; rw [HR.out, h0]; rfl
  go_wp2_with fail
  refine (HQ.out _).mono ?_
  rintro e w1 ⟨rfl, hF⟩
  have HF := Lib.hid (HF.out.trans0 hF)
  clear hF HQ
  go_wp2_with fail
  refine bodyPost_ret (results_tmp rfl _ _ _) rfl ?_
  rw [HE.out]
  exact ⟨rfl, HF.out⟩
set_option maxHeartbeats 4000000 in
set_option maxRecDepth 100000 in
theorem ref_leaf5 (w : World) (op : Int) (s : ByteArray) (n p : Int) (q : Option Addr) (k c : Nat) (hs : s.size ≤ 100000000) (hop : op = 5) : Calls Tryz.prog 65 #[.agg #[.int .i64 op, .string s, .int .i64 n, .slice q k c, .int .i64 p]] w fun e w' => e = .returned (.bool (Ex.head op s n 0)) ∧ Fr [] w w' := by
 subst hop
 have HR : Hid (Ex.head 5 s n 0 = (n == 0 && (Lex.quote s).isSome)) := by show _ = _; rw [Ex.head, if_neg (by decide), if_neg (by decide), if_pos (by decide)]; simp
 have HQ := Lib.hid (fun W => ref_quoted12 W s hs)
 obtain ⟨z, hz⟩ : ∃ z, (Lex.quote s).isSome = z := ⟨_, rfl⟩
 simp only [hz] at HQ
 rw [hz] at HR
 clear hz
 go_enter Tryz.func65, Tryz.ntmps65
 go_upto_region 1 with fail
 refine wp_fresh (fun V => V.heap[w.heap.size]? = some (.cells #[.int .i64 5, .string s, .int .i64 n, .slice q k c, .int .i64 p] 42 (0, 0)) ∧ Fr [] w V) ⟨heap_alloc_last _ _, (Fr.refl _ _).alloc _⟩ ?_
 rintro V ⟨hr, hF⟩
 have HF := Lib.hid hF
 have cf : ∀ i, V.frozen? ⟨(w.heap.size), i, none⟩ = false := fun i => Lib.frozen_of_heap hr i
 have c0 : V.cell? ⟨(w.heap.size), 0, none⟩ = some (.int .i64 5) := by rw [Lib.cell_of_heap hr]; rfl
 have c1 : V.cell? ⟨(w.heap.size), 1, none⟩ = some (.string s) := by rw [Lib.cell_of_heap hr]; rfl
 have c2 : V.cell? ⟨(w.heap.size), 2, none⟩ = some (.int .i64 n) := by rw [Lib.cell_of_heap hr]; rfl
 clear hr hF
 cases h0 : (n == 0) with
 | false =>
  have HE : Hid (Ex.head 5 s n 0 = false) := by show _ = _; rw [HR.out, h0]; rfl
  go_wp2_with fail
  refine bodyPost_ret (results_tmp rfl _ _ _) rfl ?_
  rw [HE.out]
  exact ⟨rfl, HF.out⟩
 | true =>
  have HE : Hid (Ex.head 5 s n 0 = z) := by show _ = _; rw [HR.out, h0]; rfl
  go_wp2_with fail
  refine (HQ.out _).mono ?_
  rintro e w1 ⟨rfl, hF⟩
  have HF := Lib.hid (HF.out.trans0 hF)
  clear hF HQ
  go_wp2_with fail
  refine bodyPost_ret (results_tmp rfl _ _ _) rfl ?_
  rw [HE.out]
  exact ⟨rfl, HF.out⟩
set_option maxHeartbeats 4000000 in
set_option maxRecDepth 100000 in
theorem ref_leaf4a (w : World) (s : ByteArray) (n p : Int) (q : Option Addr) (k c : Nat) (hs : s.size ≤ 100000000) (h0 : (n == 0) = false) : Calls Tryz.prog 65 #[.agg #[.int .i64 4, .string s, .int .i64 n, .slice q k c, .int .i64 p]] w fun e w' => e = .returned (.bool (Ex.head 4 s n 0)) ∧ Fr [] w w' := by
 have HR : Hid (Ex.head 4 s n 0 = (n == 0 && ((Lex.spell 1 s 0).toList != [] && !Pol.kept s))) := by show _ = _; rw [Ex.head, if_neg (by decide), if_neg (by decide), if_neg (by decide), if_pos (by decide)]; simp
 have HK := Lib.hid (fun W => ref_Kept W s)
 have HS := Lib.hid (fun W => ref_spell W 1 s 0 0 hs (by omega))
 have HE : Hid (Ex.head 4 s n 0 = false) := by show _ = _; rw [HR.out, h0]; rfl
 clear HR
 go_enter Tryz.func65, Tryz.ntmps65
 go_upto_region 1 with fail
 refine wp_fresh (fun V => V.heap[w.heap.size]? = some (.cells #[.int .i64 4, .string s, .int .i64 n, .slice q k c, .int .i64 p] 42 (0, 0)) ∧ Fr [] w V) ⟨heap_alloc_last _ _, (Fr.refl _ _).alloc _⟩ ?_
 rintro V ⟨hr, hF⟩
 have HF := Lib.hid hF
 have cf : ∀ i, V.frozen? ⟨(w.heap.size), i, none⟩ = false := fun i => Lib.frozen_of_heap hr i
 have c0 : V.cell? ⟨(w.heap.size), 0, none⟩ = some (.int .i64 4) := by rw [Lib.cell_of_heap hr]; rfl
 have c1 : V.cell? ⟨(w.heap.size), 1, none⟩ = some (.string s) := by rw [Lib.cell_of_heap hr]; rfl
 have c2 : V.cell? ⟨(w.heap.size), 2, none⟩ = some (.int .i64 n) := by rw [Lib.cell_of_heap hr]; rfl
 clear hr hF
 go_wp2_with fail
 go_quiet (fail)
 have HF := Lib.hid (HF.out.drewN nq)
 go_wp2_with fail
 refine bodyPost_ret (results_tmp rfl _ _ _) rfl ?_
 rw [HE.out]
 exact ⟨rfl, HF.out⟩
set_option maxHeartbeats 4000000 in
set_option maxRecDepth 100000 in
theorem ref_leaf4b (w : World) (s : ByteArray) (n p : Int) (q : Option Addr) (k c : Nat) (hs : s.size ≤ 100000000) (h0 : (n == 0) = true) (h1 : Pol.kept s = true) : Calls Tryz.prog 65 #[.agg #[.int .i64 4, .string s, .int .i64 n, .slice q k c, .int .i64 p]] w fun e w' => e = .returned (.bool (Ex.head 4 s n 0)) ∧ Fr [] w w' := by
 have HR : Hid (Ex.head 4 s n 0 = (n == 0 && ((Lex.spell 1 s 0).toList != [] && !Pol.kept s))) := by show _ = _; rw [Ex.head, if_neg (by decide), if_neg (by decide), if_neg (by decide), if_pos (by decide)]; simp
 have HK := Lib.hid (fun W => ref_Kept W s)
 have HS := Lib.hid (fun W => ref_spell W 1 s 0 0 hs (by omega))
 have HE : Hid (Ex.head 4 s n 0 = false) := by show _ = _; rw [HR.out, h1]; simp
 simp only [h1] at HK
 clear HR h1
 go_enter Tryz.func65, Tryz.ntmps65
 go_upto_region 1 with fail
 refine wp_fresh (fun V => V.heap[w.heap.size]? = some (.cells #[.int .i64 4, .string s, .int .i64 n, .slice q k c, .int .i64 p] 42 (0, 0)) ∧ Fr [] w V) ⟨heap_alloc_last _ _, (Fr.refl _ _).alloc _⟩ ?_
 rintro V ⟨hr, hF⟩
 have HF := Lib.hid hF
 have cf : ∀ i, V.frozen? ⟨(w.heap.size), i, none⟩ = false := fun i => Lib.frozen_of_heap hr i
 have c0 : V.cell? ⟨(w.heap.size), 0, none⟩ = some (.int .i64 4) := by rw [Lib.cell_of_heap hr]; rfl
 have c1 : V.cell? ⟨(w.heap.size), 1, none⟩ = some (.string s) := by rw [Lib.cell_of_heap hr]; rfl
 have c2 : V.cell? ⟨(w.heap.size), 2, none⟩ = some (.int .i64 n) := by rw [Lib.cell_of_heap hr]; rfl
 clear hr hF
 go_wp2_with fail
 refine wp_region_held_drew (S := fun W' => W'.cell? ⟨w.heap.size, 1, none⟩ = some (.string s) ∧ W'.cell? ⟨w.heap.size, 2, none⟩ = some (.int .i64 n)) (by kernel_rfl) (⟨c1, c2⟩) (fun hHeld => ?_)
 refine held_take (i := 0) (v := ?_) 48 rfl rfl (by kernel_rfl) (by kernel_rfl) (by kernel_rfl) (fun _ _ _ h => h) (Or.inl ⟨by rfl, ?_⟩) (by assumption) ?_
 rotate_left 1
 ·intro w hSw; (try dsimp only at hSw); go_simp; try (with_reducible rfl)
 try simp only [Act.put, List.setIfInBounds_toArray, List.set_cons_zero, List.set_cons_succ]
 refine held_take (i := 1) (v := ?_) 49 rfl rfl (by kernel_rfl) (by kernel_rfl) (by kernel_rfl) (fun _ _ _ h => h) (Or.inl ⟨by rfl, ?_⟩) (by assumption) ?_
 rotate_left 1
 ·intro w hSw; (try dsimp only at hSw); go_simp; try (with_reducible rfl)
 try simp only [Act.put, List.setIfInBounds_toArray, List.set_cons_zero, List.set_cons_succ]
 refine held_take (i := 2) (v := ?_) 50 rfl rfl (by kernel_rfl) (by kernel_rfl) (by kernel_rfl) (fun _ _ _ h => h) (Or.inl ⟨by rfl, ?_⟩) (by assumption) ?_
 rotate_left 1
 ·intro w hSw; (try dsimp only at hSw); go_simp; try (with_reducible rfl)
 try simp only [Act.put, List.setIfInBounds_toArray, List.set_cons_zero, List.set_cons_succ]
 refine held_take (i := 3) (v := ?_) 51 rfl rfl (by kernel_rfl) (by kernel_rfl) (by kernel_rfl) (fun _ _ _ h => h) (Or.inl ⟨by rfl, ?_⟩) (by assumption) ?_
 rotate_left 1
 ·intro w hSw; (try dsimp only at hSw); go_simp; try (with_reducible rfl)
 try simp only [Act.put, List.setIfInBounds_toArray, List.set_cons_zero, List.set_cons_succ]
 refine held_take (i := 4) (v := ?_) 52 rfl rfl (by kernel_rfl) (by kernel_rfl) (by kernel_rfl) (fun _ _ _ h => h) (Or.inl ⟨by rfl, ?_⟩) (by assumption) ?_
 rotate_left 1
 ·intro w hSw; (try dsimp only at hSw); go_simp; try (with_reducible rfl)
 try simp only [Act.put, List.setIfInBounds_toArray, List.set_cons_zero, List.set_cons_succ]
 refine held_take (i := 5) (v := ?_) 53 rfl rfl (by kernel_rfl) (by kernel_rfl) (by kernel_rfl) (fun _ _ _ h => h) (Or.inl ⟨by rfl, ?_⟩) (by assumption) ?_
 rotate_left 1
 ·intro w hSw; (try dsimp only at hSw); go_simp; try (with_reducible rfl)
 try simp only [Act.put, List.setIfInBounds_toArray, List.set_cons_zero, List.set_cons_succ]
 refine wpAnyH_ready (rs := [6]) (by kernel_rfl) (by simp) ?_
 refine AllReadyH.cons rfl (fun K hK => ?_) AllReadyH.nil
 go_simp
 refine (HK.out _).mono ?_
 rintro e w1 ⟨rfl, hF⟩
 refine hK.out _ _ (⟨hF.cells c1, hF.cells c2⟩) (fun hHeld => ?_)
 clear hK K
 try simp only [Act.put, List.setIfInBounds_toArray, List.set_cons_zero, List.set_cons_succ]
 refine held_take (i := 7) (v := ?_) 55 rfl rfl (by kernel_rfl) (by kernel_rfl) (by kernel_rfl) (fun _ _ _ h => h) (Or.inl ⟨by rfl, ?_⟩) (by assumption) ?_
 rotate_left 1
 ·intro w hSw; (try dsimp only at hSw); go_simp; try (with_reducible rfl)
 try simp only [Act.put, List.setIfInBounds_toArray, List.set_cons_zero, List.set_cons_succ]
 refine held_take (i := 8) (v := ?_) 56 rfl rfl (by kernel_rfl) (by kernel_rfl) (by kernel_rfl) (fun _ _ _ h => h) (Or.inl ⟨by rfl, ?_⟩) (by assumption) ?_
 rotate_left 1
 ·intro w hSw; (try dsimp only at hSw); go_simp; try (with_reducible rfl)
 try simp only [Act.put, List.setIfInBounds_toArray, List.set_cons_zero, List.set_cons_succ]
 refine held_take (i := 9) (v := ?_) 57 rfl rfl (by kernel_rfl) (by kernel_rfl) (by kernel_rfl) (fun _ _ _ h => h) (Or.inl ⟨by rfl, ?_⟩) (by assumption) ?_
 rotate_left 1
 ·intro w hSw; (try dsimp only at hSw); go_simp; try (with_reducible rfl)
 try simp only [Act.put, List.setIfInBounds_toArray, List.set_cons_zero, List.set_cons_succ]
 refine held_take (i := 10) (v := _) 58 rfl rfl (by kernel_rfl) (by kernel_rfl) (by kernel_rfl) (fun _ _ _ h => h) (Or.inr ⟨by rfl, rfl⟩) (by assumption) ?_
 try simp only [Act.put, List.setIfInBounds_toArray, List.set_cons_zero, List.set_cons_succ]
 refine held_take (i := 11) (v := _) 59 rfl rfl (by kernel_rfl) (by kernel_rfl) (by kernel_rfl) (fun _ _ _ h => h) (Or.inr ⟨by rfl, rfl⟩) (by assumption) ?_
 try simp only [Act.put, List.setIfInBounds_toArray, List.set_cons_zero, List.set_cons_succ]
 refine held_take (i := 12) (v := _) 60 rfl rfl (by kernel_rfl) (by kernel_rfl) (by kernel_rfl) (fun _ _ _ h => h) (Or.inr ⟨by rfl, rfl⟩) (by assumption) ?_
 try simp only [Act.put, List.setIfInBounds_toArray, List.set_cons_zero, List.set_cons_succ]
 refine held_take (i := 13) (v := _) 61 rfl rfl (by kernel_rfl) (by kernel_rfl) (by kernel_rfl) (fun _ _ _ h => h) (Or.inr ⟨by rfl, rfl⟩) (by assumption) ?_
 try simp only [Act.put, List.setIfInBounds_toArray, List.set_cons_zero, List.set_cons_succ]
 refine held_take (i := 14) (v := ?_) 62 rfl rfl (by kernel_rfl) (by kernel_rfl) (by kernel_rfl) (fun _ _ _ h => h) (Or.inl ⟨by rfl, ?_⟩) (by assumption) ?_
 rotate_left 1
 ·intro w hSw; (try dsimp only at hSw); go_simp; try (with_reducible rfl)
 try simp only [Act.put, List.setIfInBounds_toArray, List.set_cons_zero, List.set_cons_succ]
 refine held_take (i := 15) (v := ?_) 63 rfl rfl (by kernel_rfl) (by kernel_rfl) (by kernel_rfl) (fun _ _ _ h => h) (Or.inl ⟨by rfl, ?_⟩) (by assumption) ?_
 rotate_left 1
 ·intro w hSw; (try dsimp only at hSw); go_simp; try (with_reducible rfl)
 try simp only [Act.put, List.setIfInBounds_toArray, List.set_cons_zero, List.set_cons_succ]
 refine held_take (i := 16) (v := _) 64 rfl rfl (by kernel_rfl) (by kernel_rfl) (by kernel_rfl) (fun _ _ _ h => h) (Or.inr ⟨by rfl, rfl⟩) (by assumption) ?_
 try simp only [Act.put, List.setIfInBounds_toArray, List.set_cons_zero, List.set_cons_succ]
 refine held_take (i := 17) (v := _) 65 rfl rfl (by kernel_rfl) (by kernel_rfl) (by kernel_rfl) (fun _ _ _ h => h) (Or.inr ⟨by rfl, rfl⟩) (by assumption) ?_
 try simp only [Act.put, List.setIfInBounds_toArray, List.set_cons_zero, List.set_cons_succ]
 refine held_take (i := 18) (v := _) 66 rfl rfl (by kernel_rfl) (by kernel_rfl) (by kernel_rfl) (fun _ _ _ h => h) (Or.inr ⟨by rfl, rfl⟩) (by assumption) ?_
 try simp only [Act.put, List.setIfInBounds_toArray, List.set_cons_zero, List.set_cons_succ]
 refine held_take (i := 19) (v := _) 67 rfl rfl (by kernel_rfl) (by kernel_rfl) (by kernel_rfl) (fun _ _ _ h => h) (Or.inr ⟨by rfl, rfl⟩) (by assumption) ?_
 try simp only [Act.put, List.setIfInBounds_toArray, List.set_cons_zero, List.set_cons_succ]
 refine held_take (i := 20) (v := _) 68 rfl rfl (by kernel_rfl) (by kernel_rfl) (by kernel_rfl) (fun _ _ _ h => h) (Or.inr ⟨by rfl, rfl⟩) (by assumption) ?_
 try simp only [Act.put, List.setIfInBounds_toArray, List.set_cons_zero, List.set_cons_succ]
 refine held_take (i := 21) (v := _) 69 rfl rfl (by kernel_rfl) (by kernel_rfl) (by kernel_rfl) (fun _ _ _ h => h) (Or.inr ⟨by rfl, rfl⟩) (by assumption) ?_
 try simp only [Act.put, List.setIfInBounds_toArray, List.set_cons_zero, List.set_cons_succ]
 refine held_take (i := 22) (v := _) 70 rfl rfl (by kernel_rfl) (by kernel_rfl) (by kernel_rfl) (fun _ _ _ h => h) (Or.inr ⟨by rfl, rfl⟩) (by assumption) ?_
 try simp only [Act.put, List.setIfInBounds_toArray, List.set_cons_zero, List.set_cons_succ]
 refine held_take (i := 23) (v := ?_) 71 rfl rfl (by kernel_rfl) (by kernel_rfl) (by kernel_rfl) (fun _ _ _ h => h) (Or.inl ⟨by rfl, ?_⟩) (by assumption) ?_
 rotate_left 1
 ·intro w hSw; (try dsimp only at hSw); go_simp; try (with_reducible rfl)
 try simp only [Act.put, List.setIfInBounds_toArray, List.set_cons_zero, List.set_cons_succ]
 refine held_take (i := 24) (v := ?_) 2 rfl rfl (by kernel_rfl) (by kernel_rfl) (by kernel_rfl) (fun _ _ _ h => h) (Or.inl ⟨by rfl, ?_⟩) (by assumption) ?_
 rotate_left 1
 ·intro w hSw; (try dsimp only at hSw); go_simp; try (with_reducible rfl)
 try simp only [Act.put, List.setIfInBounds_toArray, List.set_cons_zero, List.set_cons_succ]
 refine wpAnyH_done (by kernel_rfl) ?_ _
 have HF := Lib.hid (HF.out.drew.trans0 hF)
 clear hF
 go_wp2_with fail
 refine bodyPost_ret (results_tmp rfl _ _ _) rfl ?_
 rw [HE.out]
 exact ⟨rfl, HF.out⟩
set_option maxHeartbeats 4000000 in
set_option maxRecDepth 100000 in
theorem ref_leaf4c (w : World) (s : ByteArray) (n p : Int) (q : Option Addr) (k c : Nat) (hs : s.size ≤ 100000000) (h0 : (n == 0) = true) (h1 : Pol.kept s = false) (h2 : s.size = 0) : Calls Tryz.prog 65 #[.agg #[.int .i64 4, .string s, .int .i64 n, .slice q k c, .int .i64 p]] w fun e w' => e = .returned (.bool (Ex.head 4 s n 0)) ∧ Fr [] w w' := by
 have HR : Hid (Ex.head 4 s n 0 = (n == 0 && ((Lex.spell 1 s 0).toList != [] && !Pol.kept s))) := by show _ = _; rw [Ex.head, if_neg (by decide), if_neg (by decide), if_neg (by decide), if_pos (by decide)]; simp
 have HK := Lib.hid (fun W => ref_Kept W s)
 have HS := Lib.hid (fun W => ref_spell W 1 s 0 0 hs (by omega))
 have HE : Hid (Ex.head 4 s n 0 = false) := by
  show _ = _
  rw [HR.out]
  rcases spell_word s with ⟨hw, _⟩ | ⟨hw, hsp⟩
  ·have := word_pos hw; omega
  ·rw [toList_nil (s := Lex.spell 1 s 0) (by rw [hsp]; rfl)]; simp
 have d0 : decide ((s.size : Int) > 0) = false := decide_eq_false (by omega)
 have d1 : decide (0 < s.size) = false := decide_eq_false (by omega)
 simp only [h1] at HK
 clear HR h1
 go_enter Tryz.func65, Tryz.ntmps65
 go_upto_region 1 with fail
 refine wp_fresh (fun V => V.heap[w.heap.size]? = some (.cells #[.int .i64 4, .string s, .int .i64 n, .slice q k c, .int .i64 p] 42 (0, 0)) ∧ Fr [] w V) ⟨heap_alloc_last _ _, (Fr.refl _ _).alloc _⟩ ?_
 rintro V ⟨hr, hF⟩
 have HF := Lib.hid hF
 have cf : ∀ i, V.frozen? ⟨(w.heap.size), i, none⟩ = false := fun i => Lib.frozen_of_heap hr i
 have c0 : V.cell? ⟨(w.heap.size), 0, none⟩ = some (.int .i64 4) := by rw [Lib.cell_of_heap hr]; rfl
 have c1 : V.cell? ⟨(w.heap.size), 1, none⟩ = some (.string s) := by rw [Lib.cell_of_heap hr]; rfl
 have c2 : V.cell? ⟨(w.heap.size), 2, none⟩ = some (.int .i64 n) := by rw [Lib.cell_of_heap hr]; rfl
 clear hr hF
 go_wp2_with fail
 refine wp_region_held_drew (S := fun W' => W'.cell? ⟨w.heap.size, 1, none⟩ = some (.string s) ∧ W'.cell? ⟨w.heap.size, 2, none⟩ = some (.int .i64 n)) (by kernel_rfl) (⟨c1, c2⟩) (fun hHeld => ?_)
 refine held_take (i := 0) (v := ?_) 48 rfl rfl (by kernel_rfl) (by kernel_rfl) (by kernel_rfl) (fun _ _ _ h => h) (Or.inl ⟨by rfl, ?_⟩) (by assumption) ?_
 rotate_left 1
 ·intro w hSw; (try dsimp only at hSw); go_simp; try (with_reducible rfl)
 try simp only [Act.put, List.setIfInBounds_toArray, List.set_cons_zero, List.set_cons_succ]
 refine held_take (i := 1) (v := ?_) 49 rfl rfl (by kernel_rfl) (by kernel_rfl) (by kernel_rfl) (fun _ _ _ h => h) (Or.inl ⟨by rfl, ?_⟩) (by assumption) ?_
 rotate_left 1
 ·intro w hSw; (try dsimp only at hSw); go_simp; try (with_reducible rfl)
 try simp only [Act.put, List.setIfInBounds_toArray, List.set_cons_zero, List.set_cons_succ]
 refine held_take (i := 2) (v := ?_) 50 rfl rfl (by kernel_rfl) (by kernel_rfl) (by kernel_rfl) (fun _ _ _ h => h) (Or.inl ⟨by rfl, ?_⟩) (by assumption) ?_
 rotate_left 1
 ·intro w hSw; (try dsimp only at hSw); go_simp; try (with_reducible rfl)
 try simp only [Act.put, List.setIfInBounds_toArray, List.set_cons_zero, List.set_cons_succ]
 refine held_take (i := 3) (v := ?_) 51 rfl rfl (by kernel_rfl) (by kernel_rfl) (by kernel_rfl) (fun _ _ _ h => h) (Or.inl ⟨by rfl, ?_⟩) (by assumption) ?_
 rotate_left 1
 ·intro w hSw; (try dsimp only at hSw); go_simp; try (with_reducible rfl)
 try simp only [Act.put, List.setIfInBounds_toArray, List.set_cons_zero, List.set_cons_succ]
 refine held_take (i := 4) (v := ?_) 52 rfl rfl (by kernel_rfl) (by kernel_rfl) (by kernel_rfl) (fun _ _ _ h => h) (Or.inl ⟨by rfl, ?_⟩) (by assumption) ?_
 rotate_left 1
 ·intro w hSw; (try dsimp only at hSw); go_simp; try (with_reducible rfl)
 try simp only [Act.put, List.setIfInBounds_toArray, List.set_cons_zero, List.set_cons_succ]
 refine held_take (i := 5) (v := ?_) 53 rfl rfl (by kernel_rfl) (by kernel_rfl) (by kernel_rfl) (fun _ _ _ h => h) (Or.inl ⟨by rfl, ?_⟩) (by assumption) ?_
 rotate_left 1
 ·intro w hSw; (try dsimp only at hSw); go_simp; try (with_reducible rfl)
 try simp only [Act.put, List.setIfInBounds_toArray, List.set_cons_zero, List.set_cons_succ]
 refine wpAnyH_ready (rs := [6]) (by kernel_rfl) (by simp) ?_
 refine AllReadyH.cons rfl (fun K hK => ?_) AllReadyH.nil
 go_simp
 refine (HK.out _).mono ?_
 rintro e w1 ⟨rfl, hF⟩
 refine hK.out _ _ (⟨hF.cells c1, hF.cells c2⟩) (fun hHeld => ?_)
 clear hK K
 try simp only [Act.put, List.setIfInBounds_toArray, List.set_cons_zero, List.set_cons_succ]
 refine held_take (i := 7) (v := ?_) 55 rfl rfl (by kernel_rfl) (by kernel_rfl) (by kernel_rfl) (fun _ _ _ h => h) (Or.inl ⟨by rfl, ?_⟩) (by assumption) ?_
 rotate_left 1
 ·intro w hSw; (try dsimp only at hSw); go_simp; try (with_reducible rfl)
 try simp only [Act.put, List.setIfInBounds_toArray, List.set_cons_zero, List.set_cons_succ]
 refine held_take (i := 8) (v := ?_) 56 rfl rfl (by kernel_rfl) (by kernel_rfl) (by kernel_rfl) (fun _ _ _ h => h) (Or.inl ⟨by rfl, ?_⟩) (by assumption) ?_
 rotate_left 1
 ·intro w hSw; (try dsimp only at hSw); go_simp; try (with_reducible rfl)
 try simp only [Act.put, List.setIfInBounds_toArray, List.set_cons_zero, List.set_cons_succ]
 refine held_take (i := 9) (v := ?_) 57 rfl rfl (by kernel_rfl) (by kernel_rfl) (by kernel_rfl) (fun _ _ _ h => h) (Or.inl ⟨by rfl, ?_⟩) (by assumption) ?_
 rotate_left 1
 ·intro w hSw; (try dsimp only at hSw); go_simp; try (with_reducible rfl)
 try simp only [Act.put, List.setIfInBounds_toArray, List.set_cons_zero, List.set_cons_succ]
 refine held_take (i := 10) (v := ?_) 58 rfl rfl (by kernel_rfl) (by kernel_rfl) (by kernel_rfl) (fun _ _ _ h => h) (Or.inl ⟨by rfl, ?_⟩) (by assumption) ?_
 rotate_left 1
 ·intro w hSw; (try dsimp only at hSw); go_simp; try (with_reducible rfl)
 try simp only [Act.put, List.setIfInBounds_toArray, List.set_cons_zero, List.set_cons_succ]
 refine held_take (i := 11) (v := ?_) 59 rfl rfl (by kernel_rfl) (by kernel_rfl) (by kernel_rfl) (fun _ _ _ h => h) (Or.inl ⟨by rfl, ?_⟩) (by assumption) ?_
 rotate_left 1
 ·intro w hSw; (try dsimp only at hSw); go_simp; try (with_reducible rfl)
 try simp only [Act.put, List.setIfInBounds_toArray, List.set_cons_zero, List.set_cons_succ]
 refine held_take (i := 12) (v := ?_) 60 rfl rfl (by kernel_rfl) (by kernel_rfl) (by kernel_rfl) (fun _ _ _ h => h) (Or.inl ⟨by rfl, ?_⟩) (by assumption) ?_
 rotate_left 1
 ·intro w hSw; (try dsimp only at hSw); go_simp; try (with_reducible rfl)
 try simp only [Act.put, List.setIfInBounds_toArray, List.set_cons_zero, List.set_cons_succ]
 refine held_take (i := 13) (v := ?_) 61 rfl rfl (by kernel_rfl) (by kernel_rfl) (by kernel_rfl) (fun _ _ _ h => h) (Or.inl ⟨by rfl, ?_⟩) (by assumption) ?_
 rotate_left 1
 ·intro w hSw; (try dsimp only at hSw); go_simp; try (with_reducible rfl)
 try simp only [Act.put, List.setIfInBounds_toArray, List.set_cons_zero, List.set_cons_succ]
 refine held_take (i := 14) (v := ?_) 62 rfl rfl (by kernel_rfl) (by kernel_rfl) (by kernel_rfl) (fun _ _ _ h => h) (Or.inl ⟨by rfl, ?_⟩) (by assumption) ?_
 rotate_left 1
 ·intro w hSw; (try dsimp only at hSw); go_simp; try (with_reducible rfl)
 try simp only [Act.put, List.setIfInBounds_toArray, List.set_cons_zero, List.set_cons_succ]
 refine held_take (i := 15) (v := ?_) 63 rfl rfl (by kernel_rfl) (by kernel_rfl) (by kernel_rfl) (fun _ _ _ h => h) (Or.inl ⟨by rfl, ?_⟩) (by assumption) ?_
 rotate_left 1
 ·intro w hSw; (try dsimp only at hSw); go_simp; try (with_reducible rfl)
 try simp only [Act.put, List.setIfInBounds_toArray, List.set_cons_zero, List.set_cons_succ]
 refine held_take (i := 16) (v := _) 64 rfl rfl (by kernel_rfl) (by kernel_rfl) (by kernel_rfl) (fun _ _ _ h => h) (Or.inr ⟨by rfl, rfl⟩) (by assumption) ?_
 try simp only [Act.put, List.setIfInBounds_toArray, List.set_cons_zero, List.set_cons_succ]
 refine held_take (i := 17) (v := _) 65 rfl rfl (by kernel_rfl) (by kernel_rfl) (by kernel_rfl) (fun _ _ _ h => h) (Or.inr ⟨by rfl, rfl⟩) (by assumption) ?_
 try simp only [Act.put, List.setIfInBounds_toArray, List.set_cons_zero, List.set_cons_succ]
 refine held_take (i := 18) (v := _) 66 rfl rfl (by kernel_rfl) (by kernel_rfl) (by kernel_rfl) (fun _ _ _ h => h) (Or.inr ⟨by rfl, rfl⟩) (by assumption) ?_
 try simp only [Act.put, List.setIfInBounds_toArray, List.set_cons_zero, List.set_cons_succ]
 refine held_take (i := 19) (v := _) 67 rfl rfl (by kernel_rfl) (by kernel_rfl) (by kernel_rfl) (fun _ _ _ h => h) (Or.inr ⟨by rfl, rfl⟩) (by assumption) ?_
 try simp only [Act.put, List.setIfInBounds_toArray, List.set_cons_zero, List.set_cons_succ]
 refine held_take (i := 20) (v := _) 68 rfl rfl (by kernel_rfl) (by kernel_rfl) (by kernel_rfl) (fun _ _ _ h => h) (Or.inr ⟨by rfl, rfl⟩) (by assumption) ?_
 try simp only [Act.put, List.setIfInBounds_toArray, List.set_cons_zero, List.set_cons_succ]
 refine held_take (i := 21) (v := _) 69 rfl rfl (by kernel_rfl) (by kernel_rfl) (by kernel_rfl) (fun _ _ _ h => h) (Or.inr ⟨by rfl, rfl⟩) (by assumption) ?_
 try simp only [Act.put, List.setIfInBounds_toArray, List.set_cons_zero, List.set_cons_succ]
 refine held_take (i := 22) (v := _) 70 rfl rfl (by kernel_rfl) (by kernel_rfl) (by kernel_rfl) (fun _ _ _ h => h) (Or.inr ⟨by rfl, rfl⟩) (by assumption) ?_
 try simp only [Act.put, List.setIfInBounds_toArray, List.set_cons_zero, List.set_cons_succ]
 refine held_take (i := 23) (v := ?_) 71 rfl rfl (by kernel_rfl) (by kernel_rfl) (by kernel_rfl) (fun _ _ _ h => h) (Or.inl ⟨by rfl, ?_⟩) (by assumption) ?_
 rotate_left 1
 ·intro w hSw; (try dsimp only at hSw); go_simp; try (with_reducible rfl)
 try simp only [Act.put, List.setIfInBounds_toArray, List.set_cons_zero, List.set_cons_succ]
 refine held_take (i := 24) (v := ?_) 2 rfl rfl (by kernel_rfl) (by kernel_rfl) (by kernel_rfl) (fun _ _ _ h => h) (Or.inl ⟨by rfl, ?_⟩) (by assumption) ?_
 rotate_left 1
 ·intro w hSw; (try dsimp only at hSw); go_simp; try (with_reducible rfl)
 try simp only [Act.put, List.setIfInBounds_toArray, List.set_cons_zero, List.set_cons_succ]
 refine wpAnyH_done (by kernel_rfl) ?_ _
 have HF := Lib.hid (HF.out.drew.trans0 hF)
 clear hF
 go_wp2_with fail
 refine bodyPost_ret (results_tmp rfl _ _ _) rfl ?_
 rw [HE.out]
 exact ⟨rfl, HF.out⟩
set_option maxHeartbeats 4000000 in
set_option maxRecDepth 100000 in
theorem ref_leaf4d (w : World) (s : ByteArray) (n p : Int) (q : Option Addr) (k c : Nat) (hs : s.size ≤ 100000000) (h0 : (n == 0) = true) (h1 : Pol.kept s = false) (h2 : 0 < s.size) (h3 : Lex.wordB s = true) : Calls Tryz.prog 65 #[.agg #[.int .i64 4, .string s, .int .i64 n, .slice q k c, .int .i64 p]] w fun e w' => e = .returned (.bool (Ex.head 4 s n 0)) ∧ Fr [] w w' := by
 have HR : Hid (Ex.head 4 s n 0 = (n == 0 && ((Lex.spell 1 s 0).toList != [] && !Pol.kept s))) := by show _ = _; rw [Ex.head, if_neg (by decide), if_neg (by decide), if_neg (by decide), if_pos (by decide)]; simp
 have HK := Lib.hid (fun W => ref_Kept W s)
 have HS := Lib.hid (fun W => ref_spell W 1 s 0 0 hs (by omega))
 have hsp : Lex.spell 1 s 0 = s := by rw [Lex.spell, if_pos rfl, if_pos h3]
 have HE : Hid (Ex.head 4 s n 0 = true) := by
  show _ = _
  rw [HR.out, h0, h1, hsp]
  have := (toList_ne h2).1
  simp [this]
 simp only [hsp] at HS
 clear hsp h3
 have d0 : decide ((s.size : Int) > 0) = true := decide_eq_true (by omega)
 have d1 : decide (0 < s.size) = true := decide_eq_true (by omega)
 simp only [h1] at HK
 clear HR h1
 go_enter Tryz.func65, Tryz.ntmps65
 go_upto_region 1 with fail
 refine wp_fresh (fun V => V.heap[w.heap.size]? = some (.cells #[.int .i64 4, .string s, .int .i64 n, .slice q k c, .int .i64 p] 42 (0, 0)) ∧ Fr [] w V) ⟨heap_alloc_last _ _, (Fr.refl _ _).alloc _⟩ ?_
 rintro V ⟨hr, hF⟩
 have HF := Lib.hid hF
 have cf : ∀ i, V.frozen? ⟨(w.heap.size), i, none⟩ = false := fun i => Lib.frozen_of_heap hr i
 have c0 : V.cell? ⟨(w.heap.size), 0, none⟩ = some (.int .i64 4) := by rw [Lib.cell_of_heap hr]; rfl
 have c1 : V.cell? ⟨(w.heap.size), 1, none⟩ = some (.string s) := by rw [Lib.cell_of_heap hr]; rfl
 have c2 : V.cell? ⟨(w.heap.size), 2, none⟩ = some (.int .i64 n) := by rw [Lib.cell_of_heap hr]; rfl
 clear hr hF
 go_wp2_with fail
 go_region_held3 (fun W' => W'.cell? ⟨w.heap.size, 1, none⟩ = some (.string s) ∧ W'.cell? ⟨w.heap.size, 2, none⟩ = some (.int .i64 n))
  (first | exact ⟨c1, c2⟩ | exact ⟨hF.cells c1, hF.cells c2⟩ | exact ⟨hF2.cells (hF.cells c1), hF2.cells (hF.cells c2)⟩)
  (first
   | (go_at_call 89; refine (HK.out _).mono ?_; rintro e w1 ⟨rfl, hF⟩)
   | (go_at_call 90; refine (HS.out _).mono ?_; rintro e w2 ⟨rfl, hF2⟩))
 have HF := Lib.hid ((HF.out.drew.trans0 hF).trans0 hF2)
 clear hF hF2
 go_wp2_with fail
 refine bodyPost_ret (results_tmp rfl _ _ _) rfl ?_
 rw [HE.out]
 exact ⟨rfl, HF.out⟩
set_option maxHeartbeats 4000000 in
set_option maxRecDepth 100000 in
theorem ref_leaf4e (w : World) (s : ByteArray) (n p : Int) (q : Option Addr) (k c : Nat) (hs : s.size ≤ 100000000) (h0 : (n == 0) = true) (h1 : Pol.kept s = false) (h2 : 0 < s.size) (h3 : Lex.wordB s = false) : Calls Tryz.prog 65 #[.agg #[.int .i64 4, .string s, .int .i64 n, .slice q k c, .int .i64 p]] w fun e w' => e = .returned (.bool (Ex.head 4 s n 0)) ∧ Fr [] w w' := by
 have HR : Hid (Ex.head 4 s n 0 = (n == 0 && ((Lex.spell 1 s 0).toList != [] && !Pol.kept s))) := by show _ = _; rw [Ex.head, if_neg (by decide), if_neg (by decide), if_neg (by decide), if_pos (by decide)]; simp
 have HK := Lib.hid (fun W => ref_Kept W s)
 have HS := Lib.hid (fun W => ref_spell W 1 s 0 0 hs (by omega))
 obtain ⟨sp, hsp2⟩ : ∃ sp, Lex.spell 1 s 0 = sp := ⟨_, rfl⟩
 have hsp : sp = ⟨#[]⟩ := by rw [← hsp2, Lex.spell, if_pos rfl, if_neg (by rw [h3]; decide)]
 have t1 : sp.toList = [] := toList_nil (by rw [hsp]; rfl)
 have t2 : ¬ sp.toList = s.toList := by rw [t1]; intro h; exact (toList_ne h2).1 h.symm
 have t3 : (sp.toList == s.toList) = false := beq_eq_false_iff_ne.2 t2
 have HE : Hid (Ex.head 4 s n 0 = false) := by
  show _ = _
  rw [HR.out, hsp2, t1]
  simp
 simp only [hsp2] at HS
 clear hsp hsp2 h3 t1
 have d0 : decide ((s.size : Int) > 0) = true := decide_eq_true (by omega)
 have d1 : decide (0 < s.size) = true := decide_eq_true (by omega)
 simp only [h1] at HK
 clear HR h1
 go_enter Tryz.func65, Tryz.ntmps65
 go_upto_region 1 with fail
 refine wp_fresh (fun V => V.heap[w.heap.size]? = some (.cells #[.int .i64 4, .string s, .int .i64 n, .slice q k c, .int .i64 p] 42 (0, 0)) ∧ Fr [] w V) ⟨heap_alloc_last _ _, (Fr.refl _ _).alloc _⟩ ?_
 rintro V ⟨hr, hF⟩
 have HF := Lib.hid hF
 have cf : ∀ i, V.frozen? ⟨(w.heap.size), i, none⟩ = false := fun i => Lib.frozen_of_heap hr i
 have c0 : V.cell? ⟨(w.heap.size), 0, none⟩ = some (.int .i64 4) := by rw [Lib.cell_of_heap hr]; rfl
 have c1 : V.cell? ⟨(w.heap.size), 1, none⟩ = some (.string s) := by rw [Lib.cell_of_heap hr]; rfl
 have c2 : V.cell? ⟨(w.heap.size), 2, none⟩ = some (.int .i64 n) := by rw [Lib.cell_of_heap hr]; rfl
 clear hr hF
 go_wp2_with fail
 go_region_held3 (fun W' => W'.cell? ⟨w.heap.size, 1, none⟩ = some (.string s) ∧ W'.cell? ⟨w.heap.size, 2, none⟩ = some (.int .i64 n))
  (first | exact ⟨c1, c2⟩ | exact ⟨hF.cells c1, hF.cells c2⟩ | exact ⟨hF2.cells (hF.cells c1), hF2.cells (hF.cells c2)⟩)
  (first
   | (go_at_call 89; refine (HK.out _).mono ?_; rintro e w1 ⟨rfl, hF⟩)
   | (go_at_call 90; refine (HS.out _).mono ?_; rintro e w2 ⟨rfl, hF2⟩))
 have HF := Lib.hid ((HF.out.drew.trans0 hF).trans0 hF2)
 clear hF hF2
 go_wp2_with fail
 refine bodyPost_ret (results_tmp rfl _ _ _) rfl ?_
 rw [HE.out]
 exact ⟨rfl, HF.out⟩
theorem ref_leaf (w : World) (op : Int) (s : ByteArray) (n p : Int) (q : Option Addr) (k c : Nat) (hs : s.size ≤ 100000000) (h1 : 1 ≤ op) (h5 : op ≤ 5) : Calls Tryz.prog 65 #[.agg #[.int .i64 op, .string s, .int .i64 n, .slice q k c, .int .i64 p]] w fun e w' => e = .returned (.bool (Ex.head op s n 0)) ∧ Fr [] w w' := by
 by_cases e1 : op = 1
 ·exact ref_leaf1 w op s n p q k c hs e1
 by_cases e2 : op = 2
 ·exact ref_leaf2 w op s n p q k c hs e2
 by_cases e3 : op = 3
 ·exact ref_leaf3 w op s n p q k c hs e3
 by_cases e5 : op = 5
 ·exact ref_leaf5 w op s n p q k c hs e5
 obtain rfl : op = 4 := by omega
 cases h0 : (n == 0) with
 | false => exact ref_leaf4a w s n p q k c hs h0
 | true =>
  cases h1 : Pol.kept s with
  | true => exact ref_leaf4b w s n p q k c hs h0 h1
  | false =>
   by_cases h2 : s.size = 0
   ·exact ref_leaf4c w s n p q k c hs h0 h1 h2
   ·cases h3 : Lex.wordB s with
    | true => exact ref_leaf4d w s n p q k c hs h0 h1 (by omega) h3
    | false => exact ref_leaf4e w s n p q k c hs h0 h1 (by omega) h3
end Go.Proofs.YtgklmpooonnmiaaGreatDoor
