/-
  Lemmas and contracts that the proofs over this seat use (PolRight10, PolShort); no statement of the seat is claimed in this text, and nothing is assumed in it.
-/
import Derived.Test.YtgklmpooonnmiaaDoorJ38
import Derived.Test.YtgklmpooonnmiaaDoorJ7
import Derived.Test.YtgklmpooonnmiaaDoorJ28
set_option linter.unusedVariables false
set_option linter.unusedSimpArgs false
namespace Go.Proofs.YtgklmpooonnmiaaDoor
open Go.RowKit
theorem spell_word (s : ByteArray) : (Lex.wordB s = true ∧ Lex.spell 1 s 0 = s) ∨ (Lex.wordB s = false ∧ Lex.spell 1 s 0 = ⟨#[]⟩) := by
 cases h : Lex.wordB s with
 | true => exact Or.inl ⟨rfl, by rw [Lex.spell, if_pos rfl, if_pos h]⟩
 | false => exact Or.inr ⟨rfl, by rw [Lex.spell, if_pos rfl, if_neg (by rw [h]; decide)]⟩
theorem word_pos {s : ByteArray} (h : Lex.wordB s = true) : 0 < s.size := by
 unfold Lex.wordB at h
 exact (of_decide_eq_true h).2.1
set_option maxHeartbeats 4000000 in
set_option maxRecDepth 100000 in
theorem right_4y (w : World) (ad : Addr) (op : Int) (s : ByteArray) (n p : Int) (q : Option Addr) (c : Nat) (f : Nat → List Value) (L : List Ex) (h : LA w q c f L) (deep : Nat) (hd : deep ≤ 200) (hs : s.size ≤ 100000000) (hLe : Least w)
  (h5 : Five w ad [.int .i64 op, .string s, .int .i64 n, .slice q L.length c, .int .i64 p]) (hop : op = 4) (hw : Lex.wordB s = true) (hsp : Lex.spell 1 s 0 = s) :
  Calls Tryd.prog 96 #[.pointer (some ad), .int .i64 deep] w fun e w' => e = .returned (.bool (Ex.right (.mk op s n L p) deep)) ∧ Fr [] w w' := by
 obtain ⟨v0, v1, v2, v3, v4, hv, a0, a1, a2, a3, a4⟩ := h5
 simp only [List.cons.injEq, and_true] at hv
 obtain ⟨rfl, rfl, rfl, rfl, rfl⟩ := hv
 have hd' : ¬ (deep : Int) > 200 := by omega
 subst hop
 have HR : Hid (Ex.right (.mk 4 s n L p) deep = (((n == 0) && ((Lex.spell 1 s 0).toList != [] && !Pol.kept s) && (L.length == 0)) && Ex.rights L (deep + 1))) := by
  show _ = _
  rw [Ex.right, if_neg (by omega), Ex.head, if_neg (by decide), if_neg (by decide), if_neg (by decide), if_pos (by decide)]
 have hb : L.length ≤ 9223372036854775807 := by have h1 := h.hc; have h2 := h.hm; unfold maxLen at h2; omega
 have HQ : Hid (∀ W, Fr [] w W → Calls Tryd.prog 10 #[.agg #[.int .i64 1, .string s, .int .i64 0, .int .i64 0]] W fun e w' => e = .returned (.string (Lex.spell 1 s 0)) ∧ Fr [] W w') := fun W hW => lex_spell W 1 s 0 0 hs (by omega) (hLe.fr hW (by simp))
 have HK := Lib.hid (fun W => pol_kept W s)
 obtain ⟨z, hz⟩ : ∃ z, Pol.kept s = z := ⟨_, rfl⟩
 rw [hz] at HR
 simp only [hz] at HK
 clear h hLe hs hz
 have hpos := word_pos hw
 obtain ⟨t1, t2⟩ := toList_ne hpos
 have t3 : ((Lex.spell 1 s 0).toList != []) = true := by rw [hsp]; simp [t1]
 rw [t3] at HR
 rw [hsp] at HQ
 have d1 : (!s.toList.isEmpty) = true := by rw [t2]; rfl
 clear hw hsp t3 hpos
 go_enter Tryd.func96, Tryd.ntmps96
 cases hn : (n == 0) with
 | false =>
  have HEE : Hid (Ex.right (.mk 4 s n L p) deep = false) := by show _ = _; rw [HR.out, hn]; rfl
  clear HR
  go_wp2_with fail
  go_region_held3 (fun W' => W'.cell? ⟨ad.block, ad.off + 2, none⟩ = some (.int .i64 n) ∧ W'.cell? ⟨ad.block, ad.off + 1, none⟩ = some (.string s))
   (first | go_keep | exact ⟨hF.cells a2, hF.cells a1⟩ | ((try dsimp only) <;> (repeat' apply And.intro) <;> go_keep))
   (first
    | (go_at_call 10; refine (HQ.out _ (by first | exact Fr.refl _ _ | exact (Fr.refl _ _).drew)).mono ?_; rintro e w1 ⟨rfl, hF⟩)
    | (go_at_call 106; refine (HK.out _).mono ?_; rintro e w2 ⟨rfl, rfl⟩))
  have HF1 := Lib.hid (((Fr.refl [] w).drew).trans0 hF)
  have b1 := hF.cells (show _ from a1)
  have b2 := hF.cells (show _ from a2)
  have b3 := hF.cells (show _ from a3)
  clear hF HQ HK
  go_wp2_with fail
  go_ret
  rw [HEE.out]
  exact ⟨rfl, HF1.out⟩
 | true =>
  cases z with
  | true =>
   have HEE : Hid (Ex.right (.mk 4 s n L p) deep = false) := by show _ = _; rw [HR.out, hn]; rfl
   clear HR
   go_wp2_with fail
   go_region_held3 (fun W' => W'.cell? ⟨ad.block, ad.off + 2, none⟩ = some (.int .i64 n) ∧ W'.cell? ⟨ad.block, ad.off + 1, none⟩ = some (.string s))
    (first | go_keep | exact ⟨hF.cells a2, hF.cells a1⟩ | ((try dsimp only) <;> (repeat' apply And.intro) <;> go_keep))
    (first
     | (go_at_call 10; refine (HQ.out _ (by first | exact Fr.refl _ _ | exact (Fr.refl _ _).drew)).mono ?_; rintro e w1 ⟨rfl, hF⟩)
     | (go_at_call 106; refine (HK.out _).mono ?_; rintro e w2 ⟨rfl, rfl⟩))
   have HF1 := Lib.hid (((Fr.refl [] w).drew).trans0 hF)
   have b1 := hF.cells (show _ from a1)
   have b2 := hF.cells (show _ from a2)
   have b3 := hF.cells (show _ from a3)
   clear hF HQ HK
   go_wp2_with fail
   go_ret
   rw [HEE.out]
   exact ⟨rfl, HF1.out⟩
  | false =>
   by_cases hk2 : L.length > 0
   ·have hk2' : (L.length : Int) > 0 := by omega
    have HEE : Hid (Ex.right (.mk 4 s n L p) deep = false) := by
     show _ = _
     have h1 : (L.length == 0) = false := by rw [beq_eq_false_iff_ne]; omega
     rw [HR.out, hn, h1]; rfl
    clear HR
    go_wp2_with fail
    go_region_held3 (fun W' => W'.cell? ⟨ad.block, ad.off + 2, none⟩ = some (.int .i64 n) ∧ W'.cell? ⟨ad.block, ad.off + 1, none⟩ = some (.string s))
     (first | go_keep | exact ⟨hF.cells a2, hF.cells a1⟩ | ((try dsimp only) <;> (repeat' apply And.intro) <;> go_keep))
     (first
      | (go_at_call 10; refine (HQ.out _ (by first | exact Fr.refl _ _ | exact (Fr.refl _ _).drew)).mono ?_; rintro e w1 ⟨rfl, hF⟩)
      | (go_at_call 106; refine (HK.out _).mono ?_; rintro e w2 ⟨rfl, rfl⟩))
    have HF1 := Lib.hid (((Fr.refl [] w).drew).trans0 hF)
    have b1 := hF.cells (show _ from a1)
    have b2 := hF.cells (show _ from a2)
    have b3 := hF.cells (show _ from a3)
    clear hF HQ HK
    go_wp2_with fail
    go_ret
    rw [HEE.out]
    exact ⟨rfl, HF1.out⟩
   ·have hk2' : ¬ (L.length : Int) > 0 := by omega
    have HEE : Hid (Ex.right (.mk 4 s n L p) deep = Ex.rights L (deep + 1)) := by
     show _ = _
     have h1 : (L.length == 0) = true := by rw [beq_iff_eq]; omega
     rw [HR.out, hn, h1]; rfl
    clear HR
    go_wp2_with fail
    go_region_held3 (fun W' => W'.cell? ⟨ad.block, ad.off + 2, none⟩ = some (.int .i64 n) ∧ W'.cell? ⟨ad.block, ad.off + 1, none⟩ = some (.string s))
     (first | go_keep | exact ⟨hF.cells a2, hF.cells a1⟩ | ((try dsimp only) <;> (repeat' apply And.intro) <;> go_keep))
     (first
      | (go_at_call 10; refine (HQ.out _ (by first | exact Fr.refl _ _ | exact (Fr.refl _ _).drew)).mono ?_; rintro e w1 ⟨rfl, hF⟩)
      | (go_at_call 106; refine (HK.out _).mono ?_; rintro e w2 ⟨rfl, rfl⟩))
    have HF1 := Lib.hid (((Fr.refl [] w).drew).trans0 hF)
    have b1 := hF.cells (show _ from a1)
    have b2 := hF.cells (show _ from a2)
    have b3 := hF.cells (show _ from a3)
    clear hF HQ HK
    go_wp2_with fail
    go_loopg [9, 147] L.length (fun m s9 s147 W => ∃ k : Nat, k ≤ L.length ∧ m = L.length - k ∧ s147 = .int .i64 k ∧ Hid (Fr [] w W) ∧ Hid (Ex.rights L (deep + 1) = Ex.rights (L.drop k) (deep + 1)))
    case atStart => exact ⟨0, by omega, by omega, rfl, HF1.out, rfl⟩
    case round =>
     obtain ⟨k, hk, hm, rfl, HF, HE⟩ := hrel
     have HM := Lib.hid hm
     clear hm
     by_cases hlt : k < L.length
     ·exact absurd hlt (by omega)
     ·have hlt' : ¬ (k : Int) < (L.length : Int) := by omega
      have HEF : Hid (Ex.rights L (deep + 1) = true) := by show _ = _; rw [HE.out, List.drop_eq_nil_of_le (by omega), Ex.rights]
      go_wp2_with fail
      go_ret
      rw [HEE.out, HEF.out]
      exact ⟨rfl, HF.out⟩
set_option maxHeartbeats 4000000 in
set_option maxRecDepth 100000 in
theorem right_4n (w : World) (ad : Addr) (op : Int) (s : ByteArray) (n p : Int) (q : Option Addr) (c : Nat) (f : Nat → List Value) (L : List Ex) (h : LA w q c f L) (deep : Nat) (hd : deep ≤ 200) (hs : s.size ≤ 100000000) (hLe : Least w)
  (h5 : Five w ad [.int .i64 op, .string s, .int .i64 n, .slice q L.length c, .int .i64 p]) (hop : op = 4) (hw : Lex.wordB s = false) (hsp : Lex.spell 1 s 0 = ⟨#[]⟩) :
  Calls Tryd.prog 96 #[.pointer (some ad), .int .i64 deep] w fun e w' => e = .returned (.bool (Ex.right (.mk op s n L p) deep)) ∧ Fr [] w w' := by
 obtain ⟨v0, v1, v2, v3, v4, hv, a0, a1, a2, a3, a4⟩ := h5
 simp only [List.cons.injEq, and_true] at hv
 obtain ⟨rfl, rfl, rfl, rfl, rfl⟩ := hv
 have hd' : ¬ (deep : Int) > 200 := by omega
 subst hop
 have HR : Hid (Ex.right (.mk 4 s n L p) deep = (((n == 0) && ((Lex.spell 1 s 0).toList != [] && !Pol.kept s) && (L.length == 0)) && Ex.rights L (deep + 1))) := by
  show _ = _
  rw [Ex.right, if_neg (by omega), Ex.head, if_neg (by decide), if_neg (by decide), if_neg (by decide), if_pos (by decide)]
 have hb : L.length ≤ 9223372036854775807 := by have h1 := h.hc; have h2 := h.hm; unfold maxLen at h2; omega
 have HQ : Hid (∀ W, Fr [] w W → Calls Tryd.prog 10 #[.agg #[.int .i64 1, .string s, .int .i64 0, .int .i64 0]] W fun e w' => e = .returned (.string (Lex.spell 1 s 0)) ∧ Fr [] W w') := fun W hW => lex_spell W 1 s 0 0 hs (by omega) (hLe.fr hW (by simp))
 have HK := Lib.hid (fun W => pol_kept W s)
 obtain ⟨z, hz⟩ : ∃ z, Pol.kept s = z := ⟨_, rfl⟩
 rw [hz] at HR
 simp only [hz] at HK
 clear h hLe hs hz
 obtain ⟨sp, hsp2⟩ : ∃ sp, Lex.spell 1 s 0 = sp := ⟨_, rfl⟩
 rw [hsp2] at hsp HR HQ
 have t1 : sp.toList = [] := toList_nil (by rw [hsp]; rfl)
 have t2 : sp.toList.isEmpty = true := by rw [t1]; rfl
 have t3 : (sp.toList != []) = false := by rw [t1]; rfl
 rw [t3] at HR
 have HEE : Hid (Ex.right (.mk 4 s n L p) deep = false) := by show _ = _; rw [HR.out]; simp
 clear hw hsp hsp2 t3 HR
 go_enter Tryd.func96, Tryd.ntmps96
 cases hn : (n == 0) with
 | false =>
  go_wp2_with fail
  refine wp_region_held_drew (S := fun W' => W'.cell? ⟨ad.block, ad.off + 2, none⟩ = some (.int .i64 n) ∧ W'.cell? ⟨ad.block, ad.off + 1, none⟩ = some (.string s)) (by kernel_rfl) (⟨a2, a1⟩) (fun hHeld => ?_)
  refine held_take (i := 0) (v := ?_) 69 rfl rfl (by kernel_rfl) (by kernel_rfl) (by kernel_rfl) (fun _ _ _ h => h) (Or.inl ⟨by rfl, ?_⟩) (by assumption) ?_
  rotate_left 1
  ·intro w hSw; (try dsimp only at hSw); go_simp; try (with_reducible rfl)
  try simp only [Act.put, List.setIfInBounds_toArray, List.set_cons_zero, List.set_cons_succ]
  refine held_take (i := 1) (v := ?_) 70 rfl rfl (by kernel_rfl) (by kernel_rfl) (by kernel_rfl) (fun _ _ _ h => h) (Or.inl ⟨by rfl, ?_⟩) (by assumption) ?_
  rotate_left 1
  ·intro w hSw; (try dsimp only at hSw); go_simp; try (with_reducible rfl)
  try simp only [Act.put, List.setIfInBounds_toArray, List.set_cons_zero, List.set_cons_succ]
  refine held_take (i := 2) (v := ?_) 71 rfl rfl (by kernel_rfl) (by kernel_rfl) (by kernel_rfl) (fun _ _ _ h => h) (Or.inl ⟨by rfl, ?_⟩) (by assumption) ?_
  rotate_left 1
  ·intro w hSw; (try dsimp only at hSw); go_simp; try (with_reducible rfl)
  try simp only [Act.put, List.setIfInBounds_toArray, List.set_cons_zero, List.set_cons_succ]
  refine held_take (i := 3) (v := ?_) 72 rfl rfl (by kernel_rfl) (by kernel_rfl) (by kernel_rfl) (fun _ _ _ h => h) (Or.inl ⟨by rfl, ?_⟩) (by assumption) ?_
  rotate_left 1
  ·intro w hSw; (try dsimp only at hSw); go_simp; try (with_reducible rfl)
  try simp only [Act.put, List.setIfInBounds_toArray, List.set_cons_zero, List.set_cons_succ]
  refine held_take (i := 4) (v := ?_) 73 rfl rfl (by kernel_rfl) (by kernel_rfl) (by kernel_rfl) (fun _ _ _ h => h) (Or.inl ⟨by rfl, ?_⟩) (by assumption) ?_
  rotate_left 1
  ·intro w hSw; (try dsimp only at hSw); go_simp; try (with_reducible rfl)
  try simp only [Act.put, List.setIfInBounds_toArray, List.set_cons_zero, List.set_cons_succ]
  refine held_take (i := 5) (v := ?_) 74 rfl rfl (by kernel_rfl) (by kernel_rfl) (by kernel_rfl) (fun _ _ _ h => h) (Or.inl ⟨by rfl, ?_⟩) (by assumption) ?_
  rotate_left 1
  ·intro w hSw; (try dsimp only at hSw); go_simp; try (with_reducible rfl)
  try simp only [Act.put, List.setIfInBounds_toArray, List.set_cons_zero, List.set_cons_succ]
  refine held_take (i := 6) (v := ?_) 75 rfl rfl (by kernel_rfl) (by kernel_rfl) (by kernel_rfl) (fun _ _ _ h => h) (Or.inl ⟨by rfl, ?_⟩) (by assumption) ?_
  rotate_left 1
  ·intro w hSw; (try dsimp only at hSw); go_simp; try (with_reducible rfl)
  try simp only [Act.put, List.setIfInBounds_toArray, List.set_cons_zero, List.set_cons_succ]
  refine held_take (i := 7) (v := ?_) 76 rfl rfl (by kernel_rfl) (by kernel_rfl) (by kernel_rfl) (fun _ _ _ h => h) (Or.inl ⟨by rfl, ?_⟩) (by assumption) ?_
  rotate_left 1
  ·intro w hSw; (try dsimp only at hSw); go_simp; try (with_reducible rfl)
  try simp only [Act.put, List.setIfInBounds_toArray, List.set_cons_zero, List.set_cons_succ]
  refine held_take (i := 8) (v := ?_) 77 rfl rfl (by kernel_rfl) (by kernel_rfl) (by kernel_rfl) (fun _ _ _ h => h) (Or.inl ⟨by rfl, ?_⟩) (by assumption) ?_
  rotate_left 1
  ·intro w hSw; (try dsimp only at hSw); go_simp; try (with_reducible rfl)
  try simp only [Act.put, List.setIfInBounds_toArray, List.set_cons_zero, List.set_cons_succ]
  refine held_take (i := 9) (v := ?_) 78 rfl rfl (by kernel_rfl) (by kernel_rfl) (by kernel_rfl) (fun _ _ _ h => h) (Or.inl ⟨by rfl, ?_⟩) (by assumption) ?_
  rotate_left 1
  ·intro w hSw; (try dsimp only at hSw); go_simp; try (with_reducible rfl)
  try simp only [Act.put, List.setIfInBounds_toArray, List.set_cons_zero, List.set_cons_succ]
  refine wpAnyH_ready (rs := [10]) (by kernel_rfl) (by simp) ?_
  refine AllReadyH.cons rfl (fun K hK => ?_) AllReadyH.nil
  go_simp
  refine (HQ.out _ (by first | exact Fr.refl _ _ | exact (Fr.refl _ _).drew)).mono ?_
  rintro e w1 ⟨rfl, hF⟩
  refine hK.out _ _ (⟨hF.cells a2, hF.cells a1⟩) (fun hHeld => ?_)
  clear hK K
  try simp only [Act.put, List.setIfInBounds_toArray, List.set_cons_zero, List.set_cons_succ]
  refine held_take (i := 11) (v := ?_) 80 rfl rfl (by kernel_rfl) (by kernel_rfl) (by kernel_rfl) (fun _ _ _ h => h) (Or.inl ⟨by rfl, ?_⟩) (by assumption) ?_
  rotate_left 1
  ·intro w hSw; (try dsimp only at hSw); go_simp; try (with_reducible rfl)
  try simp only [Act.put, List.setIfInBounds_toArray, List.set_cons_zero, List.set_cons_succ]
  refine held_take (i := 12) (v := ?_) 81 rfl rfl (by kernel_rfl) (by kernel_rfl) (by kernel_rfl) (fun _ _ _ h => h) (Or.inl ⟨by rfl, ?_⟩) (by assumption) ?_
  rotate_left 1
  ·intro w hSw; (try dsimp only at hSw); go_simp; try (with_reducible rfl)
  try simp only [Act.put, List.setIfInBounds_toArray, List.set_cons_zero, List.set_cons_succ]
  refine held_take (i := 13) (v := _) 82 rfl rfl (by kernel_rfl) (by kernel_rfl) (by kernel_rfl) (fun _ _ _ h => h) (Or.inr ⟨by rfl, rfl⟩) (by assumption) ?_
  try simp only [Act.put, List.setIfInBounds_toArray, List.set_cons_zero, List.set_cons_succ]
  refine held_take (i := 14) (v := _) 83 rfl rfl (by kernel_rfl) (by kernel_rfl) (by kernel_rfl) (fun _ _ _ h => h) (Or.inr ⟨by rfl, rfl⟩) (by assumption) ?_
  try simp only [Act.put, List.setIfInBounds_toArray, List.set_cons_zero, List.set_cons_succ]
  refine held_take (i := 15) (v := _) 84 rfl rfl (by kernel_rfl) (by kernel_rfl) (by kernel_rfl) (fun _ _ _ h => h) (Or.inr ⟨by rfl, rfl⟩) (by assumption) ?_
  try simp only [Act.put, List.setIfInBounds_toArray, List.set_cons_zero, List.set_cons_succ]
  refine held_take (i := 16) (v := _) 85 rfl rfl (by kernel_rfl) (by kernel_rfl) (by kernel_rfl) (fun _ _ _ h => h) (Or.inr ⟨by rfl, rfl⟩) (by assumption) ?_
  try simp only [Act.put, List.setIfInBounds_toArray, List.set_cons_zero, List.set_cons_succ]
  refine held_take (i := 17) (v := _) 86 rfl rfl (by kernel_rfl) (by kernel_rfl) (by kernel_rfl) (fun _ _ _ h => h) (Or.inr ⟨by rfl, rfl⟩) (by assumption) ?_
  try simp only [Act.put, List.setIfInBounds_toArray, List.set_cons_zero, List.set_cons_succ]
  refine held_take (i := 18) (v := _) 87 rfl rfl (by kernel_rfl) (by kernel_rfl) (by kernel_rfl) (fun _ _ _ h => h) (Or.inr ⟨by rfl, rfl⟩) (by assumption) ?_
  try simp only [Act.put, List.setIfInBounds_toArray, List.set_cons_zero, List.set_cons_succ]
  refine held_take (i := 19) (v := ?_) 88 rfl rfl (by kernel_rfl) (by kernel_rfl) (by kernel_rfl) (fun _ _ _ h => h) (Or.inl ⟨by rfl, ?_⟩) (by assumption) ?_
  rotate_left 1
  ·intro w hSw; (try dsimp only at hSw); go_simp; try (with_reducible rfl)
  try simp only [Act.put, List.setIfInBounds_toArray, List.set_cons_zero, List.set_cons_succ]
  refine held_take (i := 20) (v := ?_) 7 rfl rfl (by kernel_rfl) (by kernel_rfl) (by kernel_rfl) (fun _ _ _ h => h) (Or.inl ⟨by rfl, ?_⟩) (by assumption) ?_
  rotate_left 1
  ·intro w hSw; (try dsimp only at hSw); go_simp; try (with_reducible rfl)
  try simp only [Act.put, List.setIfInBounds_toArray, List.set_cons_zero, List.set_cons_succ]
  refine held_take (i := 21) (v := ?_) 8 rfl rfl (by kernel_rfl) (by kernel_rfl) (by kernel_rfl) (fun _ _ _ h => h) (Or.inl ⟨by rfl, ?_⟩) (by assumption) ?_
  rotate_left 1
  ·intro w hSw; (try dsimp only at hSw); go_simp; try (with_reducible rfl)
  try simp only [Act.put, List.setIfInBounds_toArray, List.set_cons_zero, List.set_cons_succ]
  refine wpAnyH_done (by kernel_rfl) ?_ _
  have HF1 := Lib.hid (((Fr.refl [] w).drew).trans0 hF)
  have b1 := hF.cells (show _ from a1)
  have b2 := hF.cells (show _ from a2)
  have b3 := hF.cells (show _ from a3)
  clear hF HQ HK
  go_wp2_with fail
  go_ret
  rw [HEE.out]
  exact ⟨rfl, HF1.out⟩
 | true =>
  go_wp2_with fail
  refine wp_region_held_drew (S := fun W' => W'.cell? ⟨ad.block, ad.off + 2, none⟩ = some (.int .i64 n) ∧ W'.cell? ⟨ad.block, ad.off + 1, none⟩ = some (.string s)) (by kernel_rfl) (⟨a2, a1⟩) (fun hHeld => ?_)
  refine held_take (i := 0) (v := ?_) 69 rfl rfl (by kernel_rfl) (by kernel_rfl) (by kernel_rfl) (fun _ _ _ h => h) (Or.inl ⟨by rfl, ?_⟩) (by assumption) ?_
  rotate_left 1
  ·intro w hSw; (try dsimp only at hSw); go_simp; try (with_reducible rfl)
  try simp only [Act.put, List.setIfInBounds_toArray, List.set_cons_zero, List.set_cons_succ]
  refine held_take (i := 1) (v := ?_) 70 rfl rfl (by kernel_rfl) (by kernel_rfl) (by kernel_rfl) (fun _ _ _ h => h) (Or.inl ⟨by rfl, ?_⟩) (by assumption) ?_
  rotate_left 1
  ·intro w hSw; (try dsimp only at hSw); go_simp; try (with_reducible rfl)
  try simp only [Act.put, List.setIfInBounds_toArray, List.set_cons_zero, List.set_cons_succ]
  refine held_take (i := 2) (v := ?_) 71 rfl rfl (by kernel_rfl) (by kernel_rfl) (by kernel_rfl) (fun _ _ _ h => h) (Or.inl ⟨by rfl, ?_⟩) (by assumption) ?_
  rotate_left 1
  ·intro w hSw; (try dsimp only at hSw); go_simp; try (with_reducible rfl)
  try simp only [Act.put, List.setIfInBounds_toArray, List.set_cons_zero, List.set_cons_succ]
  refine held_take (i := 3) (v := ?_) 72 rfl rfl (by kernel_rfl) (by kernel_rfl) (by kernel_rfl) (fun _ _ _ h => h) (Or.inl ⟨by rfl, ?_⟩) (by assumption) ?_
  rotate_left 1
  ·intro w hSw; (try dsimp only at hSw); go_simp; try (with_reducible rfl)
  try simp only [Act.put, List.setIfInBounds_toArray, List.set_cons_zero, List.set_cons_succ]
  refine held_take (i := 4) (v := ?_) 73 rfl rfl (by kernel_rfl) (by kernel_rfl) (by kernel_rfl) (fun _ _ _ h => h) (Or.inl ⟨by rfl, ?_⟩) (by assumption) ?_
  rotate_left 1
  ·intro w hSw; (try dsimp only at hSw); go_simp; try (with_reducible rfl)
  try simp only [Act.put, List.setIfInBounds_toArray, List.set_cons_zero, List.set_cons_succ]
  refine held_take (i := 5) (v := ?_) 74 rfl rfl (by kernel_rfl) (by kernel_rfl) (by kernel_rfl) (fun _ _ _ h => h) (Or.inl ⟨by rfl, ?_⟩) (by assumption) ?_
  rotate_left 1
  ·intro w hSw; (try dsimp only at hSw); go_simp; try (with_reducible rfl)
  try simp only [Act.put, List.setIfInBounds_toArray, List.set_cons_zero, List.set_cons_succ]
  refine held_take (i := 6) (v := ?_) 75 rfl rfl (by kernel_rfl) (by kernel_rfl) (by kernel_rfl) (fun _ _ _ h => h) (Or.inl ⟨by rfl, ?_⟩) (by assumption) ?_
  rotate_left 1
  ·intro w hSw; (try dsimp only at hSw); go_simp; try (with_reducible rfl)
  try simp only [Act.put, List.setIfInBounds_toArray, List.set_cons_zero, List.set_cons_succ]
  refine held_take (i := 7) (v := ?_) 76 rfl rfl (by kernel_rfl) (by kernel_rfl) (by kernel_rfl) (fun _ _ _ h => h) (Or.inl ⟨by rfl, ?_⟩) (by assumption) ?_
  rotate_left 1
  ·intro w hSw; (try dsimp only at hSw); go_simp; try (with_reducible rfl)
  try simp only [Act.put, List.setIfInBounds_toArray, List.set_cons_zero, List.set_cons_succ]
  refine held_take (i := 8) (v := ?_) 77 rfl rfl (by kernel_rfl) (by kernel_rfl) (by kernel_rfl) (fun _ _ _ h => h) (Or.inl ⟨by rfl, ?_⟩) (by assumption) ?_
  rotate_left 1
  ·intro w hSw; (try dsimp only at hSw); go_simp; try (with_reducible rfl)
  try simp only [Act.put, List.setIfInBounds_toArray, List.set_cons_zero, List.set_cons_succ]
  refine held_take (i := 9) (v := ?_) 78 rfl rfl (by kernel_rfl) (by kernel_rfl) (by kernel_rfl) (fun _ _ _ h => h) (Or.inl ⟨by rfl, ?_⟩) (by assumption) ?_
  rotate_left 1
  ·intro w hSw; (try dsimp only at hSw); go_simp; try (with_reducible rfl)
  try simp only [Act.put, List.setIfInBounds_toArray, List.set_cons_zero, List.set_cons_succ]
  refine wpAnyH_ready (rs := [10]) (by kernel_rfl) (by simp) ?_
  refine AllReadyH.cons rfl (fun K hK => ?_) AllReadyH.nil
  go_simp
  refine (HQ.out _ (by first | exact Fr.refl _ _ | exact (Fr.refl _ _).drew)).mono ?_
  rintro e w1 ⟨rfl, hF⟩
  refine hK.out _ _ (⟨hF.cells a2, hF.cells a1⟩) (fun hHeld => ?_)
  clear hK K
  try simp only [Act.put, List.setIfInBounds_toArray, List.set_cons_zero, List.set_cons_succ]
  refine held_take (i := 11) (v := ?_) 80 rfl rfl (by kernel_rfl) (by kernel_rfl) (by kernel_rfl) (fun _ _ _ h => h) (Or.inl ⟨by rfl, ?_⟩) (by assumption) ?_
  rotate_left 1
  ·intro w hSw; (try dsimp only at hSw); go_simp; try (with_reducible rfl)
  try simp only [Act.put, List.setIfInBounds_toArray, List.set_cons_zero, List.set_cons_succ]
  refine held_take (i := 12) (v := ?_) 81 rfl rfl (by kernel_rfl) (by kernel_rfl) (by kernel_rfl) (fun _ _ _ h => h) (Or.inl ⟨by rfl, ?_⟩) (by assumption) ?_
  rotate_left 1
  ·intro w hSw; (try dsimp only at hSw); go_simp; try (with_reducible rfl)
  try simp only [Act.put, List.setIfInBounds_toArray, List.set_cons_zero, List.set_cons_succ]
  refine held_take (i := 13) (v := _) 82 rfl rfl (by kernel_rfl) (by kernel_rfl) (by kernel_rfl) (fun _ _ _ h => h) (Or.inr ⟨by rfl, rfl⟩) (by assumption) ?_
  try simp only [Act.put, List.setIfInBounds_toArray, List.set_cons_zero, List.set_cons_succ]
  refine held_take (i := 14) (v := _) 83 rfl rfl (by kernel_rfl) (by kernel_rfl) (by kernel_rfl) (fun _ _ _ h => h) (Or.inr ⟨by rfl, rfl⟩) (by assumption) ?_
  try simp only [Act.put, List.setIfInBounds_toArray, List.set_cons_zero, List.set_cons_succ]
  refine held_take (i := 15) (v := _) 84 rfl rfl (by kernel_rfl) (by kernel_rfl) (by kernel_rfl) (fun _ _ _ h => h) (Or.inr ⟨by rfl, rfl⟩) (by assumption) ?_
  try simp only [Act.put, List.setIfInBounds_toArray, List.set_cons_zero, List.set_cons_succ]
  refine held_take (i := 16) (v := _) 85 rfl rfl (by kernel_rfl) (by kernel_rfl) (by kernel_rfl) (fun _ _ _ h => h) (Or.inr ⟨by rfl, rfl⟩) (by assumption) ?_
  try simp only [Act.put, List.setIfInBounds_toArray, List.set_cons_zero, List.set_cons_succ]
  refine held_take (i := 17) (v := _) 86 rfl rfl (by kernel_rfl) (by kernel_rfl) (by kernel_rfl) (fun _ _ _ h => h) (Or.inr ⟨by rfl, rfl⟩) (by assumption) ?_
  try simp only [Act.put, List.setIfInBounds_toArray, List.set_cons_zero, List.set_cons_succ]
  refine held_take (i := 18) (v := _) 87 rfl rfl (by kernel_rfl) (by kernel_rfl) (by kernel_rfl) (fun _ _ _ h => h) (Or.inr ⟨by rfl, rfl⟩) (by assumption) ?_
  try simp only [Act.put, List.setIfInBounds_toArray, List.set_cons_zero, List.set_cons_succ]
  refine held_take (i := 19) (v := ?_) 88 rfl rfl (by kernel_rfl) (by kernel_rfl) (by kernel_rfl) (fun _ _ _ h => h) (Or.inl ⟨by rfl, ?_⟩) (by assumption) ?_
  rotate_left 1
  ·intro w hSw; (try dsimp only at hSw); go_simp; try (with_reducible rfl)
  try simp only [Act.put, List.setIfInBounds_toArray, List.set_cons_zero, List.set_cons_succ]
  refine held_take (i := 20) (v := ?_) 7 rfl rfl (by kernel_rfl) (by kernel_rfl) (by kernel_rfl) (fun _ _ _ h => h) (Or.inl ⟨by rfl, ?_⟩) (by assumption) ?_
  rotate_left 1
  ·intro w hSw; (try dsimp only at hSw); go_simp; try (with_reducible rfl)
  try simp only [Act.put, List.setIfInBounds_toArray, List.set_cons_zero, List.set_cons_succ]
  refine held_take (i := 21) (v := ?_) 8 rfl rfl (by kernel_rfl) (by kernel_rfl) (by kernel_rfl) (fun _ _ _ h => h) (Or.inl ⟨by rfl, ?_⟩) (by assumption) ?_
  rotate_left 1
  ·intro w hSw; (try dsimp only at hSw); go_simp; try (with_reducible rfl)
  try simp only [Act.put, List.setIfInBounds_toArray, List.set_cons_zero, List.set_cons_succ]
  refine wpAnyH_done (by kernel_rfl) ?_ _
  have HF1 := Lib.hid (((Fr.refl [] w).drew).trans0 hF)
  have b1 := hF.cells (show _ from a1)
  have b2 := hF.cells (show _ from a2)
  have b3 := hF.cells (show _ from a3)
  clear hF HQ HK
  go_wp2_with fail
  go_ret
  rw [HEE.out]
  exact ⟨rfl, HF1.out⟩
theorem right_4 (w : World) (ad : Addr) (op : Int) (s : ByteArray) (n p : Int) (q : Option Addr) (c : Nat) (f : Nat → List Value) (L : List Ex) (h : LA w q c f L) (deep : Nat) (hd : deep ≤ 200) (hs : s.size ≤ 100000000) (hLe : Least w)
  (h5 : Five w ad [.int .i64 op, .string s, .int .i64 n, .slice q L.length c, .int .i64 p]) (hop : op = 4) :
  Calls Tryd.prog 96 #[.pointer (some ad), .int .i64 deep] w fun e w' => e = .returned (.bool (Ex.right (.mk op s n L p) deep)) ∧ Fr [] w w' := by
 rcases spell_word s with ⟨hw, hsp⟩ | ⟨hw, hsp⟩
 ·exact right_4y w ad op s n p q c f L h deep hd hs hLe h5 hop hw hsp
 ·exact right_4n w ad op s n p q c f L h deep hd hs hLe h5 hop hw hsp
end Go.Proofs.YtgklmpooonnmiaaDoor

namespace Go.Proofs.YtgklmpooonnmiaaDoor
open Go.RowKit
mutual
def Ex.short : Ex → Prop
 | .mk _ s _ L _ => s.size ≤ 100000000 ∧ Ex.shorts L
def Ex.shorts : List Ex → Prop
 | [] => True
 | x :: r => Ex.short x ∧ Ex.shorts r
end
theorem Ex.shorts_at : ∀ {L : List Ex} {i : Nat} {x : Ex}, Ex.shorts L → L[i]? = some x → x.short
 | [], i, x, _, h => by simp at h
 | y :: r, 0, x, h, e => by
  rw [Ex.shorts] at h
  simp at e
  subst e
  exact h.1
 | y :: r, i + 1, x, h, e => by
  rw [Ex.shorts] at h
  exact Ex.shorts_at h.2 (by simpa using e)
end Go.Proofs.YtgklmpooonnmiaaDoor
