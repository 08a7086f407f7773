/-
  Lemmas and contracts that the proofs over this seat use (LexText); no statement of the seat is claimed in this text, and nothing is assumed in it.
-/
import Derived.Test.YtgklmpooonnmiaaDoorJ7
set_option linter.unusedVariables false
set_option linter.unusedSimpArgs false
namespace Go.Proofs.YtgklmpooonnmiaaDoor
open Go.RowKit
def TS (w : World) (B b : Nat) (s : ByteArray) (lv : Value) (k : Nat) (out : List Nat) (W : World) : Prop := b < B ∧ w.heap.size = B ∧ Bld B B out W ∧ Sc W b s k lv ∧ Fr [b] w W ∧ B < W.heap.size
theorem TS.fr {w : World} {B b : Nat} {s : ByteArray} {lv : Value} {k : Nat} {out : List Nat} {W W' : World} (h : TS w B b s lv k out W) (hF : Fr [] W W') : TS w B b s lv k out W' :=
 ⟨h.1, h.2.1, h.2.2.1.fr hF, h.2.2.2.1.fr hF, h.2.2.2.2.1.trans0 hF, Nat.lt_of_lt_of_le h.2.2.2.2.2 hF.size⟩
theorem TS.put {w : World} {B b : Nat} {s : ByteArray} {lv : Value} {k : Nat} {out : List Nat} {W : World} (h : TS w B b s lv k out W) (m : Nat) : TS w B b s lv m out (W.setCell ⟨b, 1, none⟩ (.int .i64 (m : Nat))) :=
 ⟨h.1, h.2.1, h.2.2.1.set h.1, h.2.2.2.1.put m, h.2.2.2.2.1.setCell (.inl (by simp)) _, by simp [World.setCell]; exact h.2.2.2.2.2⟩
theorem TS.step {w : World} {B b : Nat} {s : ByteArray} {lv : Value} {k : Nat} {out out' : List Nat} {W W' : World} (h : TS w B b s lv k out W) (hb : Below B W W') (ho : Bld B B out' W') : TS w B b s lv k out' W' :=
 ⟨h.1, h.2.1, ho, h.2.2.2.1.below hb h.1, h.2.2.2.2.1.step (by rw [h.2.1]; exact hb), Nat.lt_of_lt_of_le h.2.2.2.2.2 hb.size⟩
theorem TS.sc {w : World} {B b : Nat} {s : ByteArray} {lv : Value} {k : Nat} {out : List Nat} {W : World} (h : TS w B b s lv k out W) : Sc W b s k lv := h.2.2.2.1
theorem TS.bld {w : World} {B b : Nat} {s : ByteArray} {lv : Value} {k : Nat} {out : List Nat} {W : World} (h : TS w B b s lv k out W) : Bld B B out W := h.2.2.1
theorem TS.f {w : World} {B b : Nat} {s : ByteArray} {lv : Value} {k : Nat} {out : List Nat} {W : World} (h : TS w B b s lv k out W) : Fr [b] w W := h.2.2.2.2.1
theorem TS.le {w : World} {B b : Nat} {s : ByteArray} {lv : Value} {k : Nat} {out : List Nat} {W : World} (h : TS w B b s lv k out W) : B ≤ W.heap.size := Nat.le_of_lt h.2.2.2.2.2
theorem TS.least {w : World} {B b : Nat} {s : ByteArray} {lv : Value} {k : Nat} {out : List Nat} {W : World} (h : TS w B b s lv k out W) (hL : Least w) (hb : 1 ≠ b) : Least W := hL.fr h.f (by simpa using hb)
set_option maxHeartbeats 8000000 in
set_option maxRecDepth 100000 in
theorem lex_text (w : World) (b : Nat) (s : ByteArray) (k0 : Nat) (lv : Value) (hs : s.size ≤ 1000000) (hk0 : k0 < s.size) (h : Sc w b s k0 lv) (hL : Least w) (hb1 : 1 ≠ b) :
  Calls Tryd.prog 65 #[.pointer (some ⟨b, 0, none⟩)] w fun e w' => ∃ v, e = .returned (.tuple #[.string (ba ((Lex.text s (k0 + 1) []).1.getD [])), v]) ∧ ErV w' w.heap.size (textEr (Lex.text s (k0 + 1) [])) v ∧ Sc w' b s (Lex.text s (k0 + 1) []).2 lv ∧ Fr [b] w w' := by
 obtain ⟨R, hR⟩ : ∃ R, Hid (Lex.text s (k0 + 1) [] = R) := ⟨_, rfl⟩
 rw [hR.out]
 have HS := Lib.hid h
 have HL := Lib.hid hL
 have hbs := h.lt
 have c1 := h.c1
 have f1 := h.fz 1
 clear h hL
 go_enter Tryd.func65, Tryd.ntmps65
 go_wp2_with fail
 refine wp_fresh (fun W => TS w w.heap.size b s lv (k0 + 1) [] W) ?_ ?_
 ·refine ⟨hbs, rfl, ?_, ?_, ?_, ?_⟩
  ·have h9 := fresh_bld (w.setCell ⟨b, 1, none⟩ (.int .i64 ((k0 : Int) + 1)))
   rwa [show (w.setCell ⟨b, 1, none⟩ (.int .i64 ((k0 : Int) + 1))).heap.size = w.heap.size by simp [World.setCell]] at h9
  ·exact (HS.out.put (k0 + 1)).fr ((Fr.refl _ _).alloc _)
  ·exact ((Fr.refl _ _).setCell (.inl (by simp)) _).alloc _
  ·simp
 intro W0 h0
 have H0 := Lib.hid h0
 obtain ⟨B, hB⟩ : ∃ B, w.heap.size = B := ⟨_, rfl⟩
 rw [hB] at H0 hbs ⊢
 have HB := Lib.hid hB
 clear c1 f1 h0 HS hB
 go_loopg [5, 6, 7] (s.size - (k0 + 1)) (fun q _ _ _ W => ∃ (k : Nat) (out : List Nat), k ≤ s.size ∧ q = s.size - k ∧ Hid (Lex.text s k out = R) ∧ Hid (TS w B b s lv k out W) ∧ Hid (out.length ≤ k) ∧ Hid (∀ x ∈ out, x < 256))
 case atStart => exact ⟨k0 + 1, [], by omega, rfl, hR, H0, Nat.zero_le _, fun _ h => by cases h⟩
 case round =>
  clear H0 hR hk0
  obtain ⟨k, out, hk, hq, HE, H, HOL, HOB⟩ := hrel
  have HQ := Lib.hid hq
  clear hq
  by_cases hlt : k < s.size
  case' neg =>
   have hlt' : ¬ (k : Int) < (s.size : Int) := by omega
   have HX : Hid (Lex.text s k out = (none, k)) := by show _ = _; rw [Lex.text, if_neg hlt]
   have c0 := H.out.sc.c0
   have c1 := H.out.sc.c1
   have f1 := H.out.sc.fz 1
   go_wp2_with fail
   go_quiet (fail)
   refine then_fresh (fun V => TS w B b s lv k out V) (H.out.fr ((Fr.refl _ _).drewN _)) ?_
   intro W1 h1
   have H := Lib.hid h1
   clear h1 c0 c1 f1
   have HLE := Lib.hid H.out.f.size
   have c0 := H.out.sc.c0
   have c1 := H.out.sc.c1
   have f1 := H.out.sc.fz 1
   go_wp2_with fail
   refine (lex_fault _ k 110).mono ?_
   rintro e W2 ⟨v, rfl, hv, hf⟩
   have HV := Lib.hid hv
   have H := Lib.hid (H.out.fr hf)
   have HB2 := Lib.hid (HB.out)
   clear hv hf c0 c1 f1
   go_wp2_with fail
   refine bodyPost_ret (results_tmp2 rfl _ _ _) rfl ?_
   rw [← HE.out, HX.out]
   refine ⟨_, rfl, HV.out.base ?_, H.out.sc, H.out.f⟩
   exact HLE.out
  have hlt' : (k : Int) < (s.size : Int) := by omega
  have hz := Lib.hid (bn_at s k)
  obtain ⟨c, hc⟩ : ∃ c, Hid (bn s k = c) := ⟨_, rfl⟩
  rw [hc.out] at hz
  have c0 := H.out.sc.c0
  have c1 := H.out.sc.c1
  have f1 := H.out.sc.fz 1
  go_wp2_with fail
  go_quiet (fail)
  refine then_fresh (fun V => TS w B b s lv k out V) (H.out.fr ((Fr.refl _ _).drewN _)) ?_
  intro W1 h1
  have H := Lib.hid h1
  clear h1 c0 c1 f1
  have hz' := hz.out hlt
  have c0 := H.out.sc.c0
  have c1 := H.out.sc.c1
  have f1 := H.out.sc.fz 1
  go_wp2_with fail
  go_quiet (fail)
  refine then_fresh (fun V => TS w B b s lv k out V) (H.out.fr ((Fr.refl _ _).drewN _)) ?_
  intro W1 h1
  have H := Lib.hid h1
  clear h1 c0 c1 f1
  clear hz'
  by_cases h32 : c < 32
  case' pos =>
   have h32' : (c : Int) < 32 := by omega
   have HX : Hid (Lex.text s k out = (none, k)) := by show _ = _; rw [Lex.text, if_pos hlt, hc.out, if_pos h32]
   have HLE := Lib.hid H.out.f.size
   have c0 := H.out.sc.c0
   have c1 := H.out.sc.c1
   have f1 := H.out.sc.fz 1
   go_wp2_with fail
   refine (lex_fault _ k 110).mono ?_
   rintro e W2 ⟨v, rfl, hv, hf⟩
   have HV := Lib.hid hv
   have H := Lib.hid (H.out.fr hf)
   have HB2 := Lib.hid (HB.out)
   clear hv hf c0 c1 f1
   go_wp2_with fail
   refine bodyPost_ret (results_tmp2 rfl _ _ _) rfl ?_
   rw [← HE.out, HX.out]
   refine ⟨_, rfl, HV.out.base ?_, H.out.sc, H.out.f⟩
   exact HLE.out
  have h32' : ¬ (c : Int) < 32 := by omega
  by_cases h34 : c = 34
  case' pos =>
   have t34 : ((c : Int) == 34) = true := beq_iff_eq.2 (by omega)
   have HX : Hid (Lex.text s k out = (some out, k + 1)) := by show _ = _; rw [Lex.text, if_pos hlt, hc.out, if_neg h32, if_pos h34]
   have c0 := H.out.sc.c0
   have c1 := H.out.sc.c1
   have f1 := H.out.sc.fz 1
   have HP := Lib.hid (H.out.put (k + 1))
   go_wp2_with fail
   refine (bld_string B B out _ HP.out.bld HOB.out HP.out.le).mono ?_
   rintro e W2 ⟨rfl, hb2⟩
   have HS2 := Lib.hid (HP.out.sc.below hb2 hbs)
   have HF2 := Lib.hid (HP.out.f.step (by rw [HB.out]; exact hb2))
   clear hb2 c0 c1 f1
   go_wp2_with fail
   refine bodyPost_ret (results_tmp2 rfl _ _ _) rfl ?_
   rw [← HE.out, HX.out]
   exact ⟨_, rfl, rfl, HS2.out, HF2.out⟩
  have t34 : ((c : Int) == 34) = false := beq_eq_false_iff_ne.2 (by omega)
  by_cases h92 : c = 92
  case' pos =>
   have t92 : ((c : Int) == 92) = true := beq_iff_eq.2 (by omega)
   have HX0 : Hid (Lex.text s k out = if k + 1 < s.size ∧ (bn s (k + 1) = 34 ∨ bn s (k + 1) = 92) then Lex.text s (k + 2) (out ++ [bn s (k + 1)]) else (none, k + 1)) := by show _ = _; rw [Lex.text, if_pos hlt, hc.out, if_neg h32, if_neg h34, if_pos h92]
   clear hc hz
   have c0 := H.out.sc.c0
   have c1 := H.out.sc.c1
   have f1 := H.out.sc.fz 1
   have HP := Lib.hid (H.out.put (k + 1))
   go_wp2_with fail
   refine wp_fresh (fun V => TS w B b s lv (k + 1) out V) HP.out ?_
   intro W1 h1
   have H := Lib.hid h1
   clear h1 c0 c1 f1 HP
   by_cases hk1 : k + 1 < s.size
   case' neg =>
    have u1 : (((k : Int) + 1) == (s.size : Int)) = true := beq_iff_eq.2 (by omega)
    have HX : Hid (Lex.text s k out = (none, k + 1)) := by show _ = _; rw [HX0.out, if_neg (fun h => hk1 h.1)]
    have c0 := H.out.sc.c0
    have c1 := H.out.sc.c1
    have f1 := H.out.sc.fz 1
    go_wp2_with fail
    go_quiet (fail)
    refine then_fresh (fun V => TS w B b s lv (k + 1) out V) (H.out.fr ((Fr.refl _ _).drewN _)) ?_
    intro W1 h1
    have H := Lib.hid h1
    clear h1 c0 c1 f1
    have HLE := Lib.hid H.out.f.size
    have c0 := H.out.sc.c0
    have c1 := H.out.sc.c1
    have f1 := H.out.sc.fz 1
    go_wp2_with fail
    refine (lex_fault _ (k + 1) 110).mono ?_
    rintro e W2 ⟨v, rfl, hv, hf⟩
    have HV := Lib.hid hv
    have H := Lib.hid (H.out.fr hf)
    clear hv hf c0 c1 f1
    go_wp2_with fail
    refine bodyPost_ret (results_tmp2 rfl _ _ _) rfl ?_
    rw [← HE.out, HX.out]
    refine ⟨_, rfl, HV.out.base HLE.out, H.out.sc, H.out.f⟩
   have u1 : (((k : Int) + 1) == (s.size : Int)) = false := beq_eq_false_iff_ne.2 (by omega)
   have hz1 := Lib.hid (bn_at s (k + 1))
   obtain ⟨d, hd⟩ : ∃ d, Hid (bn s (k + 1) = d) := ⟨_, rfl⟩
   rw [hd.out] at hz1
   have hdl := bn_lt s (k + 1)
   rw [hd.out] at hdl
   have hz1' := hz1.out hk1
   have hk1' : (k : Int) + 1 < (s.size : Int) := by omega
   by_cases hd2 : d = 34 ∨ d = 92
   case' neg =>
    have v1 : ((d : Int) != 34) = true := by simp; omega
    have v2 : ((d : Int) != 92) = true := by simp; omega
    have HX : Hid (Lex.text s k out = (none, k + 1)) := by show _ = _; rw [HX0.out, if_neg (fun h => hd2 (by rw [hd.out] at h; exact h.2))]
    have c0 := H.out.sc.c0
    have c1 := H.out.sc.c1
    have f1 := H.out.sc.fz 1
    go_wp2_with fail
    go_quiet (fail)
    refine then_fresh (fun V => TS w B b s lv (k + 1) out V) (H.out.fr ((Fr.refl _ _).drewN _)) ?_
    intro W1 h1
    have H := Lib.hid h1
    clear h1 c0 c1 f1
    have HLE := Lib.hid H.out.f.size
    clear hz1'
    have c0 := H.out.sc.c0
    have c1 := H.out.sc.c1
    have f1 := H.out.sc.fz 1
    go_wp2_with fail
    refine (lex_fault _ (k + 1) 110).mono ?_
    rintro e W2 ⟨v, rfl, hv, hf⟩
    have HV := Lib.hid hv
    have H := Lib.hid (H.out.fr hf)
    clear hv hf c0 c1 f1
    go_wp2_with fail
    refine bodyPost_ret (results_tmp2 rfl _ _ _) rfl ?_
    rw [← HE.out, HX.out]
    refine ⟨_, rfl, HV.out.base HLE.out, H.out.sc, H.out.f⟩
   have HX : Hid (Lex.text s k out = Lex.text s (k + 2) (out ++ [d])) := by show _ = _; rw [HX0.out, if_pos ⟨hk1, by rw [hd.out]; exact hd2⟩, hd.out]
   have hv12 : ((d : Int) != 34) = false ∨ ((d : Int) != 34) = true ∧ ((d : Int) != 92) = false := by
    rcases hd2 with rfl | rfl
    ·exact Or.inl rfl
    ·exact Or.inr ⟨rfl, rfl⟩
   have HOL2 : Hid ((out ++ [d]).length ≤ k + 2) := by show _ ≤ _; have := HOL.out; simp; omega
   have HOB2 : Hid (∀ x ∈ out ++ [d], x < 256) := by
    show ∀ x ∈ out ++ [d], _
    intro x hx
    rcases List.mem_append.1 hx with hx | hx
    ·exact HOB.out x hx
    ·rw [List.mem_singleton.1 hx]; exact hdl
   have hol : Hid (out.length < 1000000000) := by show _ < _; have := HOL.out; omega
   clear hd hz1 HX0 hd2
   rcases hv12 with v1 | ⟨v1, v2⟩
   all_goals
    have c0 := H.out.sc.c0
    have c1 := H.out.sc.c1
    have f1 := H.out.sc.fz 1
    go_wp2_with fail
    go_quiet (fail)
    refine then_fresh (fun V => TS w B b s lv (k + 1) out V) (H.out.fr ((Fr.refl _ _).drewN _)) ?_
    intro W1 h1
    have H := Lib.hid h1
    clear h1 c0 c1 f1
    have c0 := H.out.sc.c0
    have c1 := H.out.sc.c1
    have e0 : 0 ≤ (k : Int) + 1 := by omega
    have e1 : ((k : Int) + 1).toNat = k + 1 := by omega
    go_wp2_with fail
    go_still_tail 9, (by kernel_rfl)
    go_wp2_with fail
    have H := Lib.hid (H.out.fr (Fr.refl [] W1).drew)
    refine (bld_byte B B out d _ H.out.bld hol.out H.out.le).mono ?_
    rintro e W2 ⟨rfl, hbl, hb2⟩
    have H := Lib.hid (H.out.step hb2 hbl)
    clear c0 c1 hbl hb2
    have c0 := H.out.sc.c0
    have c1 := H.out.sc.c1
    have f1 := H.out.sc.fz 1
    have HP := Lib.hid (H.out.put (k + 2))
    go_wp2_with fail
    go_roundg (s.size - (k + 2))
    case measure => have := HQ.out; omega
    case rel => exact ⟨k + 2, out ++ [d], by omega, rfl, by show _ = _; rw [← HX.out]; exact HE.out, HP.out, HOL2.out, HOB2.out⟩
  have t92 : ((c : Int) == 92) = false := beq_eq_false_iff_ne.2 (by omega)
  obtain ⟨x, m, hx⟩ : ∃ x m, Utf.next (fun i => bn s (k + i)) (s.size - k) = (x, m) := ⟨_, _, rfl⟩
  have HX0 : Hid (Lex.text s k out = match Utf.next (fun i => bn s (k + i)) (s.size - k) with
     | (none, _) => (none, k)
     | (some _, m) => Lex.text s (k + max m 1) (out ++ ((nats s).drop k).take m)) := by show _ = _; (conv => lhs; rw [Lex.text, if_pos hlt, hc.out, if_neg h32, if_neg h34, if_neg h92]); rfl
  obtain ⟨M, hM⟩ : ∃ M, Hid (M = min s.size (k + 4)) := ⟨_, rfl⟩
  obtain ⟨T, hT⟩ : ∃ T, Hid (s.extract k M = T) := ⟨_, rfl⟩
  have hTs : Hid (T.size = M - k) := by show _ = _; rw [← hT.out, hM.out]; simp
  have hMle : M ≤ s.size := by rw [hM.out]; omega
  have hkM : k < M := by rw [hM.out]; omega
  have hxT : Hid (Utf.next (bn T) T.size = (x, m)) := by
   show _ = _
   rw [← hx, hTs.out]
   refine Utf.next_congr (fun i hi => ?_) (by rw [hM.out]; omega)
   rw [← hT.out]
   exact bn_ext s k M i hMle hi
  have hX0 := Lib.hid hx
  clear hz hc hx
  have hT2 : T.size ≤ maxLen := by rw [hTs.out]; unfold maxLen; omega
  have HLW : Hid (Least W1.drew) := H.out.least HL.out hb1
  have mz : (min (s.size : Int) ((k : Int) + 4)).toNat = M := by rw [hM.out]; omega
  have m1 : (k : Int) ≤ min (s.size : Int) ((k : Int) + 4) := by omega
  have m2 : min (s.size : Int) ((k : Int) + 4) ≤ (s.size : Int) := by omega
  have HCV := Lib.hid (fun W => conv W T)
  have HT2 := Lib.hid hT2
  have hbW : b < W1.heap.size := H.out.sc.lt
  clear hT2
  have c0 := H.out.sc.c0
  have c1 := H.out.sc.c1
  have w4 : IntKind.i64.wrap ((k : Int) + 4) = (k : Int) + 4 := IntWalk.i64_in _ (by omega)
  have hex : s.extract k M = T := hT.out
  have cv := HCV.out
  go_wp2_with fail
  refine wp_region_held_drew (S := fun W' => W'.cell? ⟨b, 0, none⟩ = some (.string s) ∧ W'.cell? ⟨b, 1, none⟩ = some (.int .i64 (k : Nat))) (by kernel_rfl) (by first | go_keep | exact ⟨(Lib.bytesWorld_old W1.drew _ T ⟨b, 0, none⟩ hbW).trans c0, (Lib.bytesWorld_old W1.drew _ T ⟨b, 1, none⟩ hbW).trans c1⟩) (fun hHeld => ?_)
  refine held_take (i := 0) (v := ?_) 120 rfl rfl (by kernel_rfl) (by kernel_rfl) (by kernel_rfl) (fun _ _ _ h => h) (Or.inl ⟨by rfl, ?_⟩) (by assumption) ?_
  rotate_left 1
  ·intro w hSw; (try dsimp only at hSw); go_simp; try (with_reducible rfl)
  try simp only [Act.put, List.setIfInBounds_toArray, List.set_cons_zero, List.set_cons_succ]
  refine held_take (i := 1) (v := ?_) 121 rfl rfl (by kernel_rfl) (by kernel_rfl) (by kernel_rfl) (fun _ _ _ h => h) (Or.inl ⟨by rfl, ?_⟩) (by assumption) ?_
  rotate_left 1
  ·intro w hSw; (try dsimp only at hSw); go_simp; try (with_reducible rfl)
  try simp only [Act.put, List.setIfInBounds_toArray, List.set_cons_zero, List.set_cons_succ]
  refine held_take (i := 2) (v := ?_) 122 rfl rfl (by kernel_rfl) (by kernel_rfl) (by kernel_rfl) (fun _ _ _ h => h) (Or.inl ⟨by rfl, ?_⟩) (by assumption) ?_
  rotate_left 1
  ·intro w hSw; (try dsimp only at hSw); go_simp; try (with_reducible rfl)
  try simp only [Act.put, List.setIfInBounds_toArray, List.set_cons_zero, List.set_cons_succ]
  refine held_take (i := 3) (v := ?_) 123 rfl rfl (by kernel_rfl) (by kernel_rfl) (by kernel_rfl) (fun _ _ _ h => h) (Or.inl ⟨by rfl, ?_⟩) (by assumption) ?_
  rotate_left 1
  ·intro w hSw; (try dsimp only at hSw); go_simp; try (with_reducible rfl)
  try simp only [Act.put, List.setIfInBounds_toArray, List.set_cons_zero, List.set_cons_succ]
  refine held_take (i := 4) (v := ?_) 124 rfl rfl (by kernel_rfl) (by kernel_rfl) (by kernel_rfl) (fun _ _ _ h => h) (Or.inl ⟨by rfl, ?_⟩) (by assumption) ?_
  rotate_left 1
  ·intro w hSw; (try dsimp only at hSw); go_simp; try (with_reducible rfl)
  try simp only [Act.put, List.setIfInBounds_toArray, List.set_cons_zero, List.set_cons_succ]
  refine held_take (i := 5) (v := ?_) 125 rfl rfl (by kernel_rfl) (by kernel_rfl) (by kernel_rfl) (fun _ _ _ h => h) (Or.inl ⟨by rfl, ?_⟩) (by assumption) ?_
  rotate_left 1
  ·intro w hSw; (try dsimp only at hSw); go_simp; try (with_reducible rfl)
  try simp only [Act.put, List.setIfInBounds_toArray, List.set_cons_zero, List.set_cons_succ]
  refine held_take (i := 6) (v := ?_) 126 rfl rfl (by kernel_rfl) (by kernel_rfl) (by kernel_rfl) (fun _ _ _ h => h) (Or.inl ⟨by rfl, ?_⟩) (by assumption) ?_
  rotate_left 1
  ·intro w hSw; (try dsimp only at hSw); go_simp; try (with_reducible rfl)
  try simp only [Act.put, List.setIfInBounds_toArray, List.set_cons_zero, List.set_cons_succ]
  refine held_take (i := 7) (v := ?_) 127 rfl rfl (by kernel_rfl) (by kernel_rfl) (by kernel_rfl) (fun _ _ _ h => h) (Or.inl ⟨by rfl, ?_⟩) (by assumption) ?_
  rotate_left 1
  ·intro w hSw; (try dsimp only at hSw); go_simp; try (with_reducible rfl)
  try simp only [Act.put, List.setIfInBounds_toArray, List.set_cons_zero, List.set_cons_succ]
  refine held_take (i := 8) (v := ?_) 128 rfl rfl (by kernel_rfl) (by kernel_rfl) (by kernel_rfl) (fun _ _ _ h => h) (Or.inl ⟨by rfl, ?_⟩) (by assumption) ?_
  rotate_left 1
  ·intro w hSw; (try dsimp only at hSw); go_simp; try (with_reducible rfl)
  try simp only [Act.put, List.setIfInBounds_toArray, List.set_cons_zero, List.set_cons_succ]
  refine held_take (i := 9) (v := ?_) 129 rfl rfl (by kernel_rfl) (by kernel_rfl) (by kernel_rfl) (fun _ _ _ h => h) (Or.inl ⟨by rfl, ?_⟩) (by assumption) ?_
  rotate_left 1
  ·intro w hSw; (try dsimp only at hSw); go_simp; try (with_reducible rfl)
  try simp only [Act.put, List.setIfInBounds_toArray, List.set_cons_zero, List.set_cons_succ]
  refine held_take (i := 10) (v := ?_) 130 rfl rfl (by kernel_rfl) (by kernel_rfl) (by kernel_rfl) (fun _ _ _ h => h) (Or.inl ⟨by rfl, ?_⟩) (by assumption) ?_
  rotate_left 1
  ·intro w hSw; (try dsimp only at hSw); go_simp; try (with_reducible rfl)
  try simp only [Act.put, List.setIfInBounds_toArray, List.set_cons_zero, List.set_cons_succ]
  refine held_take (i := 11) (v := ?_) 131 rfl rfl (by kernel_rfl) (by kernel_rfl) (by kernel_rfl) (fun _ _ _ h => h) (Or.inl ⟨by rfl, ?_⟩) (by assumption) ?_
  rotate_left 1
  ·intro w hSw; (try dsimp only at hSw); go_simp; try (with_reducible rfl)
  try simp only [Act.put, List.setIfInBounds_toArray, List.set_cons_zero, List.set_cons_succ]
  refine held_take (i := 12) (v := ?_) 132 rfl rfl (by kernel_rfl) (by kernel_rfl) (by kernel_rfl) (fun _ _ _ h => h) (Or.inl ⟨by rfl, ?_⟩) (by assumption) ?_
  rotate_left 1
  ·intro w hSw; (try dsimp only at hSw); go_simp; try (with_reducible rfl)
  try simp only [Act.put, List.setIfInBounds_toArray, List.set_cons_zero, List.set_cons_succ]
  refine held_take (i := 13) (v := ?_) 133 rfl rfl (by kernel_rfl) (by kernel_rfl) (by kernel_rfl) (fun _ _ _ h => h) (Or.inl ⟨by rfl, ?_⟩) (by assumption) ?_
  rotate_left 1
  ·intro w hSw; (try dsimp only at hSw); go_simp; try (with_reducible rfl)
  try simp only [Act.put, List.setIfInBounds_toArray, List.set_cons_zero, List.set_cons_succ]
  refine held_take (i := 14) (v := ?_) 134 rfl rfl (by kernel_rfl) (by kernel_rfl) (by kernel_rfl) (fun _ _ _ h => h) (Or.inl ⟨by rfl, ?_⟩) (by assumption) ?_
  rotate_left 1
  ·intro w hSw; (try dsimp only at hSw); go_simp; try (with_reducible rfl)
  try simp only [Act.put, List.setIfInBounds_toArray, List.set_cons_zero, List.set_cons_succ]
  refine held_take (i := 15) (v := ?_) 135 rfl rfl (by kernel_rfl) (by kernel_rfl) (by kernel_rfl) (fun _ _ _ h => h) (Or.inl ⟨by rfl, ?_⟩) (by assumption) ?_
  rotate_left 1
  ·intro w hSw; (try dsimp only at hSw); go_simp; try (with_reducible rfl)
  try simp only [Act.put, List.setIfInBounds_toArray, List.set_cons_zero, List.set_cons_succ]
  refine held_take (i := 16) (v := ?_) 136 rfl rfl (by kernel_rfl) (by kernel_rfl) (by kernel_rfl) (fun _ _ _ h => h) (Or.inl ⟨by rfl, ?_⟩) (by assumption) ?_
  rotate_left 1
  ·intro w hSw; (try dsimp only at hSw); go_simp; try (with_reducible rfl)
  try simp only [Act.put, List.setIfInBounds_toArray, List.set_cons_zero, List.set_cons_succ]
  refine held_take (i := 17) (v := ?_) 137 rfl rfl (by kernel_rfl) (by kernel_rfl) (by kernel_rfl) (fun _ _ _ h => h) (Or.inl ⟨by rfl, ?_⟩) (by assumption) ?_
  rotate_left 1
  ·intro w hSw; (try dsimp only at hSw); go_simp; try (with_reducible rfl)
  try simp only [Act.put, List.setIfInBounds_toArray, List.set_cons_zero, List.set_cons_succ]
  refine held_take (i := 18) (v := ?_) 138 rfl rfl (by kernel_rfl) (by kernel_rfl) (by kernel_rfl) (fun _ _ _ h => h) (Or.inl ⟨by rfl, ?_⟩) (by assumption) ?_
  rotate_left 1
  ·intro w hSw; (try dsimp only at hSw); go_simp; try (with_reducible rfl)
  try simp only [Act.put, List.setIfInBounds_toArray, List.set_cons_zero, List.set_cons_succ]
  refine held_take (i := 19) (v := ?_) 139 rfl rfl (by kernel_rfl) (by kernel_rfl) (by kernel_rfl) (fun _ _ _ h => h) (Or.inl ⟨by rfl, ?_⟩) (by assumption) ?_
  rotate_left 1
  ·intro w hSw; (try dsimp only at hSw); go_simp; try (with_reducible rfl)
  try simp only [Act.put, List.setIfInBounds_toArray, List.set_cons_zero, List.set_cons_succ]
  refine wpAnyH_ready (rs := [20]) (by kernel_rfl) (by simp) ?_
  refine AllReadyH.cons rfl (fun K hK => ?_) AllReadyH.nil
  go_simp
  refine hK.out _ _ (by first | go_keep | exact ⟨(Lib.bytesWorld_old W1.drew _ T ⟨b, 0, none⟩ hbW).trans c0, (Lib.bytesWorld_old W1.drew _ T ⟨b, 1, none⟩ hbW).trans c1⟩) (fun hHeld => ?_)
  clear hK K
  try simp only [Act.put, List.setIfInBounds_toArray, List.set_cons_zero, List.set_cons_succ]
  refine wpAnyH_ready (rs := [21]) (by kernel_rfl) (by simp) ?_
  refine AllReadyH.cons rfl (fun K hK => ?_) AllReadyH.nil
  go_simp
  refine (next_conv _ T x m HT2.out HLW.out hxT.out).mono ?_
  rintro e w' ⟨rfl, rfl⟩
  go_simp
  refine hK.out _ _ (by first | go_keep | exact ⟨(Lib.bytesWorld_old W1.drew _ T ⟨b, 0, none⟩ hbW).trans c0, (Lib.bytesWorld_old W1.drew _ T ⟨b, 1, none⟩ hbW).trans c1⟩) (fun hHeld => ?_)
  clear hK K
  try simp only [Act.put, List.setIfInBounds_toArray, List.set_cons_zero, List.set_cons_succ]
  refine held_take (i := 22) (v := ?_) 119 rfl rfl (by kernel_rfl) (by kernel_rfl) (by kernel_rfl) (fun _ _ _ h => h) (Or.inl ⟨by rfl, ?_⟩) (by assumption) ?_
  rotate_left 1
  ·intro w hSw; (try dsimp only at hSw); go_simp; try (with_reducible rfl)
  try simp only [Act.put, List.setIfInBounds_toArray, List.set_cons_zero, List.set_cons_succ]
  refine held_take (i := 23) (v := ?_) 142 rfl rfl (by kernel_rfl) (by kernel_rfl) (by kernel_rfl) (fun _ _ _ h => h) (Or.inl ⟨by rfl, ?_⟩) (by assumption) ?_
  rotate_left 1
  ·intro w hSw; (try dsimp only at hSw); go_simp; try (with_reducible rfl)
  try simp only [Act.put, List.setIfInBounds_toArray, List.set_cons_zero, List.set_cons_succ]
  refine held_take (i := 24) (v := ?_) 143 rfl rfl (by kernel_rfl) (by kernel_rfl) (by kernel_rfl) (fun _ _ _ h => h) (Or.inl ⟨by rfl, ?_⟩) (by assumption) ?_
  rotate_left 1
  ·intro w hSw; (try dsimp only at hSw); go_simp; try (with_reducible rfl)
  try simp only [Act.put, List.setIfInBounds_toArray, List.set_cons_zero, List.set_cons_succ]
  refine held_take (i := 25) (v := ?_) 6 rfl rfl (by kernel_rfl) (by kernel_rfl) (by kernel_rfl) (fun _ _ _ h => h) (Or.inl ⟨by rfl, ?_⟩) (by assumption) ?_
  rotate_left 1
  ·intro w hSw; (try dsimp only at hSw); go_simp; try (with_reducible rfl)
  try simp only [Act.put, List.setIfInBounds_toArray, List.set_cons_zero, List.set_cons_succ]
  refine held_take (i := 26) (v := ?_) 7 rfl rfl (by kernel_rfl) (by kernel_rfl) (by kernel_rfl) (fun _ _ _ h => h) (Or.inl ⟨by rfl, ?_⟩) (by assumption) ?_
  rotate_left 1
  ·intro w hSw; (try dsimp only at hSw); go_simp; try (with_reducible rfl)
  try simp only [Act.put, List.setIfInBounds_toArray, List.set_cons_zero, List.set_cons_succ]
  refine wpAnyH_done (by kernel_rfl) ?_ _
  refine then_fresh (fun V => TS w B b s lv k out V) (H.out.fr (((Fr.refl _ _).drew).trans0 (fr_bytes _ _ T))) ?_
  intro W2 h1
  clear c0 c1 HLW hbW cv hHeld
  have H := Lib.hid h1
  clear h1 m1 m2 mz hex HCV HT2 w4
  cases x with
  | none =>
   have HX : Hid (Lex.text s k out = (none, k)) := by show _ = _; rw [HX0.out, hX0.out]
   have HLE := Lib.hid H.out.f.size
   simp only [letZ]
   have c0 := H.out.sc.c0
   have c1 := H.out.sc.c1
   have f1 := H.out.sc.fz 1
   go_wp2_with fail
   refine (lex_fault _ k 110).mono ?_
   rintro e W2 ⟨v, rfl, hv, hf⟩
   have HV := Lib.hid hv
   have H := Lib.hid (H.out.fr hf)
   have HB2 := Lib.hid (HB.out)
   clear hv hf c0 c1 f1
   go_wp2_with fail
   refine bodyPost_ret (results_tmp2 rfl _ _ _) rfl ?_
   rw [← HE.out, HX.out]
   refine ⟨_, rfl, HV.out.base ?_, H.out.sc, H.out.f⟩
   exact HLE.out
  | some x =>
   have hsz := Utf.next_size _ _ _ _ hxT.out
   have hx0 : ¬ (x : Int) < 0 := by omega
   have hmk : k + m ≤ s.size := by have h8 := hTs.out; omega
   have HX : Hid (Lex.text s k out = Lex.text s (k + m) (out ++ ((nats s).drop k).take m)) := by
    show _ = _; rw [HX0.out, hX0.out]
    show Lex.text s (k + max m 1) _ = _
    rw [show max m 1 = m by omega]
   obtain ⟨U, hU⟩ : ∃ U, Hid (s.extract k (k + m) = U) := ⟨_, rfl⟩
   have hUn : Hid (nats U = ((nats s).drop k).take m) := by show _ = _; rw [← hU.out, nats_ext, show k + m - k = m by omega]
   have hUs : U.size = m := by rw [← hU.out]; simp; omega
   have hol : Hid (out.length + U.size < 1000000000) := by show _ < _; have := HOL.out; omega
   have HOL2 : Hid ((out ++ nats U).length ≤ k + m) := by show _ ≤ _; have := HOL.out; rw [List.length_append, nats_length]; omega
   have HOB2 : Hid (∀ x ∈ out ++ nats U, x < 256) := by
    show ∀ x ∈ out ++ nats U, _
    intro x hx
    rcases List.mem_append.1 hx with hx | hx
    ·exact HOB.out x hx
    ·exact nats_lt U x hx
   have HUS := Lib.hid hUs
   have hm4 : m ≤ 4 := hsz.2.2
   have hm1 : 1 ≤ m := hsz.1
   clear hUs hsz
   have c0 := H.out.sc.c0
   have c1 := H.out.sc.c1
   have w4 : IntKind.i64.wrap ((k : Int) + (m : Int)) = (k : Int) + (m : Int) := IntWalk.i64_in _ (by omega)
   have e0 : 0 ≤ (k : Int) + (m : Int) := by omega
   have e1 : ((k : Int) + (m : Int)).toNat = k + m := by omega
   have e2 : (k : Int) ≤ (k : Int) + (m : Int) := by omega
   have e3 : (k : Int) + (m : Int) ≤ (s.size : Int) := by omega
   have hex : s.extract k (k + m) = U := hU.out
   go_wp2_with fail
   go_still_tail 15, (by kernel_rfl)
   go_wp2_with fail
   have H := Lib.hid (H.out.fr (Fr.refl [] W2).drew)
   refine (bld_str B B out U _ H.out.bld hol.out H.out.le).mono ?_
   rintro e W3 ⟨rfl, hbl, hb2⟩
   have H := Lib.hid (H.out.step hb2 hbl)
   clear c0 c1 hbl hb2
   have c0 := H.out.sc.c0
   have c1 := H.out.sc.c1
   have f1 := H.out.sc.fz 1
   have HP := Lib.hid (H.out.put (k + m))
   go_wp2_with fail
   go_roundg (s.size - (k + m))
   case measure => have := HQ.out; omega
   case rel => exact ⟨k + m, out ++ nats U, by omega, rfl, by show _ = _; rw [hUn.out, ← HX.out]; exact HE.out, HP.out, HOL2.out, HOB2.out⟩
end Go.Proofs.YtgklmpooonnmiaaDoor
