/-
  Lemmas and contracts that the proofs over this seat use (LexTok); no statement of the seat is claimed in this text, and nothing is assumed in it.
-/
import Derived.Test.YtgklmpooonnmiaaDoorJ9
set_option linter.unusedVariables false
set_option linter.unusedSimpArgs false
namespace Go.Proofs.YtgklmpooonnmiaaDoor
open Go.RowKit
set_option maxHeartbeats 8000000 in
set_option maxRecDepth 100000 in
theorem lex_token (w : World) (b : Nat) (s : ByteArray) (k : Nat) (lv : Value) (hs : s.size ≤ 1000000) (hk : k < s.size) (h : Sc w b s k lv) (hL : Least w) (hb1 : 1 ≠ b) :
  Calls Tryd.prog 37 #[.pointer (some ⟨b, 0, none⟩)] w fun e w' => ∃ tv ev, e = .returned (.tuple #[.agg tv, ev]) ∧ TokTold w b s lv (Lex.token s k) tv ev w' := by
 obtain ⟨R, hR⟩ : ∃ R, Hid (Lex.token s k = R) := ⟨_, rfl⟩
 rw [hR.out]
 have HS := Lib.hid h
 have HL := Lib.hid hL
 have hbs := h.lt
 have c0 := h.c0
 have c1 := h.c1
 clear h hL
 go_enter Tryd.func37, Tryd.ntmps37
 go_wp2_with fail
 refine wp_fresh (fun W => TT w b w.heap.size s lv k zTk #[.int .i64 0, .string ⟨#[]⟩, .int .i64 0, .int .i64 (k : Nat)] W) ?_ ?_
 ·exact ⟨HS.out.fr (((Fr.refl _ _).alloc _).alloc _), heap_alloc2_old _ _ _, heap_alloc2_new _ _ _, ((Fr.refl _ _).alloc _).alloc _, rfl⟩
 intro W0 h0
 have H := Lib.hid h0
 obtain ⟨g, hg⟩ : ∃ g, w.heap.size = g := ⟨_, rfl⟩
 rw [hg] at H ⊢
 have HG := Lib.hid hg
 have hbg : b ≠ g := by omega
 have hbg1 : b ≠ g + 1 := by omega
 have hgb : g ≠ b := by omega
 have hgb1 : g + 1 ≠ b := by omega
 clear c0 c1 h0 HS hg
 obtain ⟨T, hT⟩ : ∃ T, Hid (s.extract k s.size = T) := ⟨_, rfl⟩
 have hTs : T.size = s.size - k := by rw [← hT.out]; simp
 have hT0 : 0 < T.size := by omega
 have hTm : T.size ≤ 1000000 := by omega
 have HTS := Lib.hid hTs
 have hz := bn_at T 0 hT0
 obtain ⟨c, hc⟩ : ∃ c, Hid (bn T 0 = c) := ⟨_, rfl⟩
 have hcl := bn_lt T 0
 rw [hc.out] at hz hcl
 have HR : Hid (R = Lex.tokR s T k c) := by
  show _ = _
  rw [← hR.out, Lex.token, hT.out, hc.out]
 have hex : s.extract k s.size = T := hT.out
 have hks : (k : Int) ≤ (s.size : Int) := by omega
 clear hTs
 have c0 := H.out.sc.c0
 have c1 := H.out.sc.c1
 go_wp2_with fail
 go_quiet (fail)
 refine then_fresh (fun V => TT w b g s lv k zTk #[.int .i64 0, .string ⟨#[]⟩, .int .i64 0, .int .i64 (k : Nat)] V) (H.out.fr ((Fr.refl _ _).drewN _)) ?_
 intro W1 h1
 have H := Lib.hid h1
 clear h1 c0 c1
 clear hex hks hR
 have hsm := fun w => lex_small c w
 by_cases hs1 : Lex.small c = true
 case' pos =>
  rw [hs1] at hsm
  have HSM := Lib.hid hsm
  have HR2 : Hid (R = Lex.tokSmall T k (Lex.smalls (bn T) T.size 0)) := by show _ = _; rw [HR.out, Lex.tokR, if_pos hs1]
  clear hsm HR hs1
  go_wp2_with (go_at_call 58; with_reducible refine (HSM.out _).mono ?_; rintro e w' ⟨rfl, rfl⟩)
  go_loop [7] (fun t => ∃ j : Nat, j ≤ T.size ∧ t = .int .i64 j ∧ Lex.smalls (bn T) T.size j = Lex.smalls (bn T) T.size 0) (fun t => T.size - (intOf t).toNat)
  case atStart => exact ⟨0, by omega, rfl, rfl⟩
  case' round =>
   obtain ⟨j, hj, rfl, hb⟩ := hrel
   have HB := Lib.hid hb
   clear hb hz
   by_cases hlt : j < T.size
   case' pos =>
    have hlt' : (j : Int) < (T.size : Int) := by omega
    have hzj := bn_at T j hlt
    obtain ⟨x, hx⟩ : ∃ x, Hid (bn T j = x) := ⟨_, rfl⟩
    rw [hx.out] at hzj
    have hsm := fun w => lex_small x w
    by_cases hsx : Lex.small x = true
    case pos =>
     rw [hsx] at hsm
     have HSX := Lib.hid hsm
     have HN : Hid (Lex.smalls (bn T) T.size (j + 1) = Lex.smalls (bn T) T.size 0) := by show _ = _; rw [← HB.out, Lex.smalls_yes hlt (by rw [hx.out]; exact hsx)]
     clear hsm hsx
     go_wp2_with (go_at_call 58; with_reducible refine (HSX.out _).mono ?_; rintro e w' ⟨rfl, rfl⟩)
     go_round
     case rel => exact ⟨j + 1, by omega, by go_num, HN.out⟩
     case measure => simp [intOf]; omega
    case' neg =>
     have hsx' : Lex.small x = false := by simpa using hsx
     rw [hsx'] at hsm
     have HSX := Lib.hid hsm
     have HN : Hid (Lex.smalls (bn T) T.size 0 = j) := by show _ = _; rw [← HB.out, Lex.smalls_no (by rw [hx.out]; exact hsx)]
     clear hsm hsx hsx'
     have hj1 : j ≤ T.size := hj
   case' neg =>
    have hlt' : ¬ (j : Int) < (T.size : Int) := by omega
    have HN : Hid (Lex.smalls (bn T) T.size 0 = j) := by show _ = _; rw [← HB.out, Lex.smalls_end hlt]
    have HSX : Hid True := trivial
    clear hlt
   all_goals
    rw [HN.out] at HR2
    by_cases h32 : 32 < j
    case pos =>
     have HX : Hid (R = .bad k 110) := by show _ = _; rw [HR2.out, Lex.tokSmall, if_pos h32]
     have h32' : (j : Int) > 32 := by omega
     have c1 := H.out.sc.c1
     have t0 : W1.cell? ⟨g + 1, 0, none⟩ = some (.int .i64 0) := by rw [Lib.cell_of_heap H.out.t]; rfl
     have t1 : W1.cell? ⟨g + 1, 1, none⟩ = some (.string ⟨#[]⟩) := by rw [Lib.cell_of_heap H.out.t]; rfl
     have t2 : W1.cell? ⟨g + 1, 2, none⟩ = some (.int .i64 0) := by rw [Lib.cell_of_heap H.out.t]; rfl
     have t3 : W1.cell? ⟨g + 1, 3, none⟩ = some (.int .i64 (k : Nat)) := by rw [Lib.cell_of_heap H.out.t]; rfl
     have r0 : W1.cell? ⟨g, 0, none⟩ = some (.int .i64 0) := by rw [Lib.cell_of_heap H.out.r]; rfl
     have r1 : W1.cell? ⟨g, 1, none⟩ = some (.string ⟨#[]⟩) := by rw [Lib.cell_of_heap H.out.r]; rfl
     have r2 : W1.cell? ⟨g, 2, none⟩ = some (.int .i64 0) := by rw [Lib.cell_of_heap H.out.r]; rfl
     have r3 : W1.cell? ⟨g, 3, none⟩ = some (.int .i64 0) := by rw [Lib.cell_of_heap H.out.r]; rfl
     have hgl : g < W1.heap.size := row_lt H.out.r
     go_wp2_with (go_at_call 58; with_reducible refine (HSX.out _).mono ?_; rintro e w' ⟨rfl, rfl⟩)
     go_region_held3 (fun W' => W'.cell? ⟨g + 1, 0, none⟩ = some (.int .i64 0) ∧ W'.cell? ⟨g + 1, 1, none⟩ = some (.string ⟨#[]⟩) ∧ W'.cell? ⟨g + 1, 2, none⟩ = some (.int .i64 0) ∧ W'.cell? ⟨g + 1, 3, none⟩ = some (.int .i64 (k : Nat)) ∧ W'.cell? ⟨b, 1, none⟩ = some (.int .i64 (k : Nat)))
      (first | go_keep | exact ⟨hf.cells t0, hf.cells t1, hf.cells t2, hf.cells t3, hf.cells c1⟩ | ((try dsimp only); (repeat' apply And.intro) <;> go_keep))
      ((go_at_call 38; refine (lex_fault _ k 110).mono ?_; rintro e W9 ⟨v, rfl, hv, hf⟩; have e1 := hf.cells c1; have s0 := hf.cells t0; have s1 := hf.cells t1; have s2 := hf.cells t2; have s3 := hf.cells t3; have q0 := hf.cells r0; have q1 := hf.cells r1; have q2 := hf.cells r2; have q3 := hf.cells r3; have fz : ∀ i, W9.frozen? ⟨g, i, none⟩ = false := fun i => (hf.frozen (p := ⟨g, i, none⟩) hgl (by simp)).trans (Lib.frozen_of_heap H.out.r i)))
     all_goals
      have HT := Lib.hid ((((((H.out.fr (Fr.refl [] W1).drew).fr hf).setr hbs 0 (.int .i64 0)).setr hbs 1 (.string ⟨#[]⟩)).setr hbs 2 (.int .i64 0)).setr hbs 3 (.int .i64 (k : Nat)))
      have HV := Lib.hid ((((hv.set (c := g) (i := 0) (u := .int .i64 0) hgl).set (c := g) (i := 1) (u := .string ⟨#[]⟩) hgl).set (c := g) (i := 2) (u := .int .i64 0) hgl).set (c := g) (i := 3) (u := .int .i64 (k : Nat)) hgl)
      have HLE := Lib.hid H.out.f.size
      clear hv hf q0 q1 q2 q3 fz e1 s0 s1 s2 s3
      go_wp2_with fail
      refine bodyPost_ret (results_cell_tmp rfl _ _ g _ _ _ _ rfl HT.out.r Tryd.underlying25 rfl (by kernel_rfl)) rfl ?_
      refine ⟨_, _, rfl, ?_⟩
      rw [HX.out]
      exact ⟨⟨⟨0, ⟨#[]⟩, 0, k⟩, rfl⟩, HV.out.base HLE.out, HT.out.f⟩
    case neg =>
     have HX : Hid (R = .ok ⟨1, T.extract 0 j, 0, k⟩ (k + j)) := by show _ = _; rw [HR2.out, Lex.tokSmall, if_neg h32]
     have h32' : ¬ (j : Int) > 32 := by omega
     have hj2 : (j : Int) ≤ (T.size : Int) := by omega
     obtain ⟨U, hU⟩ : ∃ U, Hid (T.extract 0 j = U) := ⟨_, rfl⟩
     rw [hU.out] at HX
     have hU' : T.extract 0 j = U := hU.out
     have fz : ∀ i, W1.frozen? ⟨g + 1, i, none⟩ = false := fun i => Lib.frozen_of_heap H.out.t i
     have c1 := H.out.sc.c1
     have t0 : W1.cell? ⟨g + 1, 0, none⟩ = some (.int .i64 0) := by rw [Lib.cell_of_heap H.out.t]; rfl
     have t1 : W1.cell? ⟨g + 1, 1, none⟩ = some (.string ⟨#[]⟩) := by rw [Lib.cell_of_heap H.out.t]; rfl
     have t2 : W1.cell? ⟨g + 1, 2, none⟩ = some (.int .i64 0) := by rw [Lib.cell_of_heap H.out.t]; rfl
     have t3 : W1.cell? ⟨g + 1, 3, none⟩ = some (.int .i64 (k : Nat)) := by rw [Lib.cell_of_heap H.out.t]; rfl
     have r0 : W1.cell? ⟨g, 0, none⟩ = some (.int .i64 0) := by rw [Lib.cell_of_heap H.out.r]; rfl
     have r1 : W1.cell? ⟨g, 1, none⟩ = some (.string ⟨#[]⟩) := by rw [Lib.cell_of_heap H.out.r]; rfl
     have r2 : W1.cell? ⟨g, 2, none⟩ = some (.int .i64 0) := by rw [Lib.cell_of_heap H.out.r]; rfl
     have r3 : W1.cell? ⟨g, 3, none⟩ = some (.int .i64 0) := by rw [Lib.cell_of_heap H.out.r]; rfl
     go_wp2_with (go_at_call 58; with_reducible refine (HSX.out _).mono ?_; rintro e w' ⟨rfl, rfl⟩)
     go_region
     all_goals
      refine then_fresh (fun V => TT w b g s lv k zTk #[.int .i64 1, .string U, .int .i64 0, .int .i64 (k : Nat)] V) ?_ ?_
      ·first
        | exact (((H.out.fr (Fr.refl [] W1).drew).sett hbs 0 (.int .i64 1)).sett hbs 1 (.string U))
        | exact (((H.out.fr (Fr.refl [] W1).drew).sett hbs 1 (.string U)).sett hbs 0 (.int .i64 1))
      intro V h1
      have H := Lib.hid h1
      have wj : IntKind.i64.wrap ((k : Int) + (j : Int)) = ((k + j : Nat) : Int) := by rw [IntWalk.i64_in _ (by omega)]; omega
      clear h1 fz t0 t1 t2 t3 r0 r1 r2 r3 c1 hU' hj2
      have f1 := H.out.sc.fz 1
      have fr0 : ∀ i, V.frozen? ⟨g, i, none⟩ = false := fun i => Lib.frozen_of_heap H.out.r i
      have c1 := H.out.sc.c1
      have t0 : V.cell? ⟨g + 1, 0, none⟩ = some (.int .i64 1) := by rw [Lib.cell_of_heap H.out.t]; rfl
      have t1 : V.cell? ⟨g + 1, 1, none⟩ = some (.string U) := by rw [Lib.cell_of_heap H.out.t]; rfl
      have t2 : V.cell? ⟨g + 1, 2, none⟩ = some (.int .i64 0) := by rw [Lib.cell_of_heap H.out.t]; rfl
      have t3 : V.cell? ⟨g + 1, 3, none⟩ = some (.int .i64 (k : Nat)) := by rw [Lib.cell_of_heap H.out.t]; rfl
      have r0 : V.cell? ⟨g, 0, none⟩ = some (.int .i64 0) := by rw [Lib.cell_of_heap H.out.r]; rfl
      have r1 : V.cell? ⟨g, 1, none⟩ = some (.string ⟨#[]⟩) := by rw [Lib.cell_of_heap H.out.r]; rfl
      have r2 : V.cell? ⟨g, 2, none⟩ = some (.int .i64 0) := by rw [Lib.cell_of_heap H.out.r]; rfl
      have r3 : V.cell? ⟨g, 3, none⟩ = some (.int .i64 0) := by rw [Lib.cell_of_heap H.out.r]; rfl
      have HT := Lib.hid (((((H.out.put hbs (k + j)).setr hbs 0 (.int .i64 1)).setr hbs 1 (.string U)).setr hbs 2 (.int .i64 0)).setr hbs 3 (.int .i64 (k : Nat)))
      go_wp2_with fail
      refine bodyPost_ret (results_cell_tmp rfl _ _ g _ _ _ _ rfl HT.out.r Tryd.underlying25 rfl (by kernel_rfl)) rfl ?_
      refine ⟨_, _, rfl, ?_⟩
      rw [HX.out]
      exact ⟨rfl, rfl, HT.out.sc, HT.out.f⟩
 have hs1' : Lex.small c = false := by simpa using hs1
 rw [hs1'] at hsm
 have HSM := Lib.hid hsm
 have SMT : Hid True := trivial
 by_cases h34 : c = 34
 case' pos =>
  have t34 : ((c : Int) == 34) = true := beq_iff_eq.2 (by omega)
  have HR2 : Hid (R = Lex.tokText k (Lex.text s (k + 1) [])) := by show _ = _; rw [HR.out, Lex.tokR, if_neg hs1, if_pos h34]
  clear hsm HR hs1 hs1' h34
  go_wp2_with (go_at_call 58; with_reducible refine (HSM.out _).mono ?_; rintro e w' ⟨rfl, rfl⟩)
  refine (lex_text W1 b s k lv hs hk H.out.sc (H.out.least HL.out hb1) hb1).mono ?_
  rintro e W2 ⟨v, rfl, hv, hsc, hf⟩
  obtain ⟨r, hr⟩ : ∃ r, Hid (Lex.text s (k + 1) [] = r) := ⟨_, rfl⟩
  rw [hr.out] at hv hsc HR2 ⊢
  have HLE := Lib.hid H.out.f.size
  have H := Lib.hid (H.out.step hbs hf hsc)
  have HV := Lib.hid hv
  have fz : ∀ i, W2.frozen? ⟨g + 1, i, none⟩ = false := fun i => Lib.frozen_of_heap H.out.t i
  have fr0 : ∀ i, W2.frozen? ⟨g, i, none⟩ = false := fun i => Lib.frozen_of_heap H.out.r i
  clear hv hsc hf
  have c1 := H.out.sc.c1
  have t0 : W2.cell? ⟨g + 1, 0, none⟩ = some (.int .i64 0) := by rw [Lib.cell_of_heap H.out.t]; rfl
  have t1 : W2.cell? ⟨g + 1, 1, none⟩ = some (.string ⟨#[]⟩) := by rw [Lib.cell_of_heap H.out.t]; rfl
  have t2 : W2.cell? ⟨g + 1, 2, none⟩ = some (.int .i64 0) := by rw [Lib.cell_of_heap H.out.t]; rfl
  have t3 : W2.cell? ⟨g + 1, 3, none⟩ = some (.int .i64 (k : Nat)) := by rw [Lib.cell_of_heap H.out.t]; rfl
  have r0 : W2.cell? ⟨g, 0, none⟩ = some (.int .i64 0) := by rw [Lib.cell_of_heap H.out.r]; rfl
  have r1 : W2.cell? ⟨g, 1, none⟩ = some (.string ⟨#[]⟩) := by rw [Lib.cell_of_heap H.out.r]; rfl
  have r2 : W2.cell? ⟨g, 2, none⟩ = some (.int .i64 0) := by rw [Lib.cell_of_heap H.out.r]; rfl
  have r3 : W2.cell? ⟨g, 3, none⟩ = some (.int .i64 0) := by rw [Lib.cell_of_heap H.out.r]; rfl
  obtain ⟨o, p⟩ := r
  cases o with
  | none =>
   have HT := Lib.hid ((((((H.out.sett hbs 0 (.int .i64 2)).sett hbs 1 (.string (ba []))).setr hbs 0 (.int .i64 2)).setr hbs 1 (.string (ba []))).setr hbs 2 (.int .i64 0)).setr hbs 3 (.int .i64 (k : Nat)))
   have hgl : g + 1 < W1.heap.size → True := fun _ => trivial
   obtain ⟨bb, hbb, rfl, hrow⟩ := HV.out
   have hne : bb ≠ g ∧ bb ≠ g + 1 := by
    constructor
    ·intro e; subst e; have := H.out.r; rw [hrow] at this; cases this
    ·intro e; subst e; have := H.out.t; rw [hrow] at this; cases this
   have HROW := Lib.hid hrow
   have HNE := Lib.hid hne
   clear hrow hne hgl
   go_wp2_with fail
   refine bodyPost_ret (results_cell_tmp rfl _ _ g _ _ _ _ rfl HT.out.r Tryd.underlying25 rfl (by kernel_rfl)) rfl ?_
   refine ⟨_, _, rfl, ?_⟩
   rw [HR2.out]
   refine ⟨⟨⟨2, ba [], 0, k⟩, rfl⟩, ⟨bb, Nat.le_trans HLE.out hbb, rfl, ?_⟩, HT.out.f⟩
   iterate 6 rw [Below.heap_setCell _ _ _ _ (by first | exact HNE.out.1 | exact HNE.out.2)]
   exact HROW.out
  | some o =>
   obtain rfl : v = .nilIface := HV.out
   have HT := Lib.hid ((((((H.out.sett hbs 0 (.int .i64 2)).sett hbs 1 (.string (ba o))).setr hbs 0 (.int .i64 2)).setr hbs 1 (.string (ba o))).setr hbs 2 (.int .i64 0)).setr hbs 3 (.int .i64 (k : Nat)))
   have ho : ((some o).getD [] : List Nat) = o := rfl
   go_wp2_with fail
   refine bodyPost_ret (results_cell_tmp rfl _ _ g _ _ _ _ rfl HT.out.r Tryd.underlying25 rfl (by kernel_rfl)) rfl ?_
   refine ⟨_, _, rfl, ?_⟩
   rw [HR2.out]
   exact ⟨rfl, rfl, HT.out.sc, HT.out.f⟩
 have t34 : ((c : Int) == 34) = false := beq_eq_false_iff_ne.2 (by omega)
 by_cases hnum : c = 45 ∨ Dec.dig c = true
 case' pos =>
  have HR2 : Hid (R = Lex.tokNum T k (Dec.lead (bn T) T.size)) := by show _ = _; rw [HR.out, Lex.tokR, if_neg hs1, if_neg h34, if_pos hnum]
  have hq : ((c : Int) == 45) = true ∨ (((c : Int) == 45) = false ∧ (c : Int) ≥ 48 ∧ (c : Int) ≤ 57) := by
   by_cases h45 : c = 45
   ·exact Or.inl (beq_iff_eq.2 (by omega))
   ·refine Or.inr ⟨beq_eq_false_iff_ne.2 (by omega), ?_⟩
    have := hnum.resolve_left h45
    simp [Dec.dig] at this
    omega
  have hld := dec_lead W1 T (by unfold maxLen; omega)
  have hll := Dec.lead_le (bn T) T.size
  obtain ⟨m, hm⟩ : ∃ m, Hid (Dec.lead (bn T) T.size = m) := ⟨_, rfl⟩
  rw [hm.out] at hld hll HR2
  have HLD := Lib.hid hld
  clear hsm HR hs1 hs1' hnum h34 hld
  by_cases hm0 : m = 0
  case' pos =>
   have HX : Hid (R = .bad k 110) := by show _ = _; rw [HR2.out, Lex.tokNum, if_pos hm0]
   have hm0' : ((m : Int) == 0) = true := beq_iff_eq.2 (by omega)
   clear hm0
   rcases hq with q1 | ⟨q1, q2, q3⟩
   all_goals
    have c1 := H.out.sc.c1
    have t0 : W1.cell? ⟨g + 1, 0, none⟩ = some (.int .i64 0) := by rw [Lib.cell_of_heap H.out.t]; rfl
    have t1 : W1.cell? ⟨g + 1, 1, none⟩ = some (.string ⟨#[]⟩) := by rw [Lib.cell_of_heap H.out.t]; rfl
    have t2 : W1.cell? ⟨g + 1, 2, none⟩ = some (.int .i64 0) := by rw [Lib.cell_of_heap H.out.t]; rfl
    have t3 : W1.cell? ⟨g + 1, 3, none⟩ = some (.int .i64 (k : Nat)) := by rw [Lib.cell_of_heap H.out.t]; rfl
    have r0 : W1.cell? ⟨g, 0, none⟩ = some (.int .i64 0) := by rw [Lib.cell_of_heap H.out.r]; rfl
    have r1 : W1.cell? ⟨g, 1, none⟩ = some (.string ⟨#[]⟩) := by rw [Lib.cell_of_heap H.out.r]; rfl
    have r2 : W1.cell? ⟨g, 2, none⟩ = some (.int .i64 0) := by rw [Lib.cell_of_heap H.out.r]; rfl
    have r3 : W1.cell? ⟨g, 3, none⟩ = some (.int .i64 0) := by rw [Lib.cell_of_heap H.out.r]; rfl
    have hgl : g < W1.heap.size := row_lt H.out.r
    go_wp2_with (first | (go_at_call 58; with_reducible refine (HSM.out _).mono ?_; rintro e w' ⟨rfl, rfl⟩) | (go_at_call 66; with_reducible refine HLD.out.mono ?_; rintro e w' ⟨rfl, rfl⟩))
    go_region_held3 (fun W' => W'.cell? ⟨g + 1, 0, none⟩ = some (.int .i64 0) ∧ W'.cell? ⟨g + 1, 1, none⟩ = some (.string ⟨#[]⟩) ∧ W'.cell? ⟨g + 1, 2, none⟩ = some (.int .i64 0) ∧ W'.cell? ⟨g + 1, 3, none⟩ = some (.int .i64 (k : Nat)) ∧ W'.cell? ⟨b, 1, none⟩ = some (.int .i64 (k : Nat)))
     (first | go_keep | exact ⟨hf.cells t0, hf.cells t1, hf.cells t2, hf.cells t3, hf.cells c1⟩ | ((try dsimp only); (repeat' apply And.intro) <;> go_keep))
     ((go_at_call 38; refine (lex_fault _ k 110).mono ?_; rintro e W9 ⟨v, rfl, hv, hf⟩; have e1 := hf.cells c1; have s0 := hf.cells t0; have s1 := hf.cells t1; have s2 := hf.cells t2; have s3 := hf.cells t3; have q0 := hf.cells r0; have q1 := hf.cells r1; have q2 := hf.cells r2; have q3 := hf.cells r3; have fz : ∀ i, W9.frozen? ⟨g, i, none⟩ = false := fun i => (hf.frozen (p := ⟨g, i, none⟩) hgl (by simp)).trans (Lib.frozen_of_heap H.out.r i)))
    all_goals
     have HT := Lib.hid ((((((H.out.fr (Fr.refl [] W1).drew).fr hf).setr hbs 0 (.int .i64 0)).setr hbs 1 (.string ⟨#[]⟩)).setr hbs 2 (.int .i64 0)).setr hbs 3 (.int .i64 (k : Nat)))
     have HV := Lib.hid ((((hv.set (c := g) (i := 0) (u := .int .i64 0) hgl).set (c := g) (i := 1) (u := .string ⟨#[]⟩) hgl).set (c := g) (i := 2) (u := .int .i64 0) hgl).set (c := g) (i := 3) (u := .int .i64 (k : Nat)) hgl)
     have HLE := Lib.hid H.out.f.size
     clear hv hf q0 q1 q2 q3 fz e1 s0 s1 s2 s3
     go_wp2_with fail
     refine bodyPost_ret (results_cell_tmp rfl _ _ g _ _ _ _ rfl HT.out.r Tryd.underlying25 rfl (by kernel_rfl)) rfl ?_
     refine ⟨_, _, rfl, ?_⟩
     rw [HX.out]
     exact ⟨⟨⟨0, ⟨#[]⟩, 0, k⟩, rfl⟩, HV.out.base HLE.out, HT.out.f⟩
  have hm0' : ((m : Int) == 0) = false := beq_eq_false_iff_ne.2 (by omega)
  have hm0'' : ¬ (m : Int) = 0 := by omega
  obtain ⟨U, hU⟩ : ∃ U, Hid (T.extract 0 m = U) := ⟨_, rfl⟩
  have HR3 : Hid (R = Lex.tokRead k m (Dec.read (bn U) U.size (-9007199254740991) 9007199254740991)) := by show _ = _; rw [HR2.out, Lex.tokNum, if_neg hm0, hU.out]
  have hUs : U.size ≤ maxLen := by rw [← hU.out]; simp; unfold maxLen; omega
  have hrd := dec_read W1 U hUs (-9007199254740991) 9007199254740991 (by omega) (by omega)
  obtain ⟨rr, hrr⟩ : ∃ rr, Hid (Dec.read (bn U) U.size (-9007199254740991) 9007199254740991 = rr) := ⟨_, rfl⟩
  rw [hrr.out] at hrd HR3
  have HRD := Lib.hid hrd
  have hU' : T.extract 0 m = U := hU.out
  have hmT : (m : Int) ≤ (T.size : Int) := by omega
  clear hrd HR2 hUs hm0
  obtain ⟨vv, er⟩ := rr
  rcases hq with q1 | ⟨q1, q2, q3⟩
  all_goals
   go_wp2_with (first | (go_at_call 58; with_reducible refine (HSM.out _).mono ?_; rintro e w' ⟨rfl, rfl⟩) | (go_at_call 66; with_reducible refine HLD.out.mono ?_; rintro e w' ⟨rfl, rfl⟩))
   refine HRD.out.mono ?_
   rintro e W2 ⟨ev, rfl, hev, hf⟩
   have H := Lib.hid (H.out.fr hf)
   have HEV := Lib.hid hev
   clear hev hf hU' hmT
   cases er
   case ok =>
    obtain rfl : ev = .nilIface := HEV.out
    have HX : Hid (R = .ok ⟨3, ⟨#[]⟩, vv, k⟩ (k + m)) := by show _ = _; rw [HR3.out]; rfl
    have fz : ∀ i, W2.frozen? ⟨g + 1, i, none⟩ = false := fun i => Lib.frozen_of_heap H.out.t i
    obtain ⟨V, hV⟩ : ∃ V, V = W2 := ⟨_, rfl⟩
    rw [← hV] at H fz ⊢
    clear hV
    have f1 := H.out.sc.fz 1
    have fr0 : ∀ i, V.frozen? ⟨g, i, none⟩ = false := fun i => Lib.frozen_of_heap H.out.r i
    have wj : IntKind.i64.wrap ((k : Int) + (m : Int)) = ((k + m : Nat) : Int) := by rw [IntWalk.i64_in _ (by omega)]; omega
    have c1 := H.out.sc.c1
    have t0 : V.cell? ⟨g + 1, 0, none⟩ = some (.int .i64 0) := by rw [Lib.cell_of_heap H.out.t]; rfl
    have t1 : V.cell? ⟨g + 1, 1, none⟩ = some (.string ⟨#[]⟩) := by rw [Lib.cell_of_heap H.out.t]; rfl
    have t2 : V.cell? ⟨g + 1, 2, none⟩ = some (.int .i64 0) := by rw [Lib.cell_of_heap H.out.t]; rfl
    have t3 : V.cell? ⟨g + 1, 3, none⟩ = some (.int .i64 (k : Nat)) := by rw [Lib.cell_of_heap H.out.t]; rfl
    have r0 : V.cell? ⟨g, 0, none⟩ = some (.int .i64 0) := by rw [Lib.cell_of_heap H.out.r]; rfl
    have r1 : V.cell? ⟨g, 1, none⟩ = some (.string ⟨#[]⟩) := by rw [Lib.cell_of_heap H.out.r]; rfl
    have r2 : V.cell? ⟨g, 2, none⟩ = some (.int .i64 0) := by rw [Lib.cell_of_heap H.out.r]; rfl
    have r3 : V.cell? ⟨g, 3, none⟩ = some (.int .i64 0) := by rw [Lib.cell_of_heap H.out.r]; rfl
    have HT := Lib.hid (((((((H.out.sett hbs 0 (.int .i64 3)).sett hbs 2 (.int .i64 vv)).put hbs (k + m)).setr hbs 0 (.int .i64 3)).setr hbs 1 (.string ⟨#[]⟩)).setr hbs 2 (.int .i64 vv)).setr hbs 3 (.int .i64 (k : Nat)))
    go_wp2_with fail
    refine bodyPost_ret (results_cell_tmp rfl _ _ g _ _ _ _ rfl HT.out.r Tryd.underlying25 rfl (by kernel_rfl)) rfl ?_
    refine ⟨_, _, rfl, ?_⟩
    rw [HX.out]
    exact ⟨rfl, rfl, HT.out.sc, HT.out.f⟩
   case no x =>
    have HX : Hid (R = .bad k 41) := by show _ = _; rw [HR3.out]; rfl
    obtain rfl := HEV.out
    clear HEV
    have c1 := H.out.sc.c1
    have t0 : W2.cell? ⟨g + 1, 0, none⟩ = some (.int .i64 0) := by rw [Lib.cell_of_heap H.out.t]; rfl
    have t1 : W2.cell? ⟨g + 1, 1, none⟩ = some (.string ⟨#[]⟩) := by rw [Lib.cell_of_heap H.out.t]; rfl
    have t2 : W2.cell? ⟨g + 1, 2, none⟩ = some (.int .i64 0) := by rw [Lib.cell_of_heap H.out.t]; rfl
    have t3 : W2.cell? ⟨g + 1, 3, none⟩ = some (.int .i64 (k : Nat)) := by rw [Lib.cell_of_heap H.out.t]; rfl
    have r0 : W2.cell? ⟨g, 0, none⟩ = some (.int .i64 0) := by rw [Lib.cell_of_heap H.out.r]; rfl
    have r1 : W2.cell? ⟨g, 1, none⟩ = some (.string ⟨#[]⟩) := by rw [Lib.cell_of_heap H.out.r]; rfl
    have r2 : W2.cell? ⟨g, 2, none⟩ = some (.int .i64 0) := by rw [Lib.cell_of_heap H.out.r]; rfl
    have r3 : W2.cell? ⟨g, 3, none⟩ = some (.int .i64 0) := by rw [Lib.cell_of_heap H.out.r]; rfl
    have hgl : g < W2.heap.size := row_lt H.out.r
    go_wp2_with (fail)
    go_region_held3 (fun W' => W'.cell? ⟨g + 1, 0, none⟩ = some (.int .i64 0) ∧ W'.cell? ⟨g + 1, 1, none⟩ = some (.string ⟨#[]⟩) ∧ W'.cell? ⟨g + 1, 2, none⟩ = some (.int .i64 0) ∧ W'.cell? ⟨g + 1, 3, none⟩ = some (.int .i64 (k : Nat)) ∧ W'.cell? ⟨b, 1, none⟩ = some (.int .i64 (k : Nat)))
     (first | go_keep | exact ⟨hf.cells t0, hf.cells t1, hf.cells t2, hf.cells t3, hf.cells c1⟩ | ((try dsimp only); (repeat' apply And.intro) <;> go_keep))
     ((go_at_call 38; refine (lex_fault _ k 41).mono ?_; rintro e W9 ⟨v, rfl, hv, hf⟩; have e1 := hf.cells c1; have s0 := hf.cells t0; have s1 := hf.cells t1; have s2 := hf.cells t2; have s3 := hf.cells t3; have q0 := hf.cells r0; have q1 := hf.cells r1; have q2 := hf.cells r2; have q3 := hf.cells r3; have fz : ∀ i, W9.frozen? ⟨g, i, none⟩ = false := fun i => (hf.frozen (p := ⟨g, i, none⟩) hgl (by simp)).trans (Lib.frozen_of_heap H.out.r i)))
    all_goals
     have HT := Lib.hid ((((((H.out.fr (Fr.refl [] W2).drew).fr hf).setr hbs 0 (.int .i64 0)).setr hbs 1 (.string ⟨#[]⟩)).setr hbs 2 (.int .i64 0)).setr hbs 3 (.int .i64 (k : Nat)))
     have HV := Lib.hid ((((hv.set (c := g) (i := 0) (u := .int .i64 0) hgl).set (c := g) (i := 1) (u := .string ⟨#[]⟩) hgl).set (c := g) (i := 2) (u := .int .i64 0) hgl).set (c := g) (i := 3) (u := .int .i64 (k : Nat)) hgl)
     have HLE := Lib.hid H.out.f.size
     clear hv hf q0 q1 q2 q3 fz e1 s0 s1 s2 s3
     go_wp2_with fail
     refine bodyPost_ret (results_cell_tmp rfl _ _ g _ _ _ _ rfl HT.out.r Tryd.underlying25 rfl (by kernel_rfl)) rfl ?_
     refine ⟨_, _, rfl, ?_⟩
     rw [HX.out]
     exact ⟨⟨⟨0, ⟨#[]⟩, 0, k⟩, rfl⟩, HV.out.base HLE.out, HT.out.f⟩
   case pl x y =>
    have HX : Hid (R = .bad k 41) := by show _ = _; rw [HR3.out]; rfl
    obtain ⟨_, _, rfl, _⟩ := HEV.out
    clear HEV
    have c1 := H.out.sc.c1
    have t0 : W2.cell? ⟨g + 1, 0, none⟩ = some (.int .i64 0) := by rw [Lib.cell_of_heap H.out.t]; rfl
    have t1 : W2.cell? ⟨g + 1, 1, none⟩ = some (.string ⟨#[]⟩) := by rw [Lib.cell_of_heap H.out.t]; rfl
    have t2 : W2.cell? ⟨g + 1, 2, none⟩ = some (.int .i64 0) := by rw [Lib.cell_of_heap H.out.t]; rfl
    have t3 : W2.cell? ⟨g + 1, 3, none⟩ = some (.int .i64 (k : Nat)) := by rw [Lib.cell_of_heap H.out.t]; rfl
    have r0 : W2.cell? ⟨g, 0, none⟩ = some (.int .i64 0) := by rw [Lib.cell_of_heap H.out.r]; rfl
    have r1 : W2.cell? ⟨g, 1, none⟩ = some (.string ⟨#[]⟩) := by rw [Lib.cell_of_heap H.out.r]; rfl
    have r2 : W2.cell? ⟨g, 2, none⟩ = some (.int .i64 0) := by rw [Lib.cell_of_heap H.out.r]; rfl
    have r3 : W2.cell? ⟨g, 3, none⟩ = some (.int .i64 0) := by rw [Lib.cell_of_heap H.out.r]; rfl
    have hgl : g < W2.heap.size := row_lt H.out.r
    go_wp2_with (fail)
    go_region_held3 (fun W' => W'.cell? ⟨g + 1, 0, none⟩ = some (.int .i64 0) ∧ W'.cell? ⟨g + 1, 1, none⟩ = some (.string ⟨#[]⟩) ∧ W'.cell? ⟨g + 1, 2, none⟩ = some (.int .i64 0) ∧ W'.cell? ⟨g + 1, 3, none⟩ = some (.int .i64 (k : Nat)) ∧ W'.cell? ⟨b, 1, none⟩ = some (.int .i64 (k : Nat)))
     (first | go_keep | exact ⟨hf.cells t0, hf.cells t1, hf.cells t2, hf.cells t3, hf.cells c1⟩ | ((try dsimp only); (repeat' apply And.intro) <;> go_keep))
     ((go_at_call 38; refine (lex_fault _ k 41).mono ?_; rintro e W9 ⟨v, rfl, hv, hf⟩; have e1 := hf.cells c1; have s0 := hf.cells t0; have s1 := hf.cells t1; have s2 := hf.cells t2; have s3 := hf.cells t3; have q0 := hf.cells r0; have q1 := hf.cells r1; have q2 := hf.cells r2; have q3 := hf.cells r3; have fz : ∀ i, W9.frozen? ⟨g, i, none⟩ = false := fun i => (hf.frozen (p := ⟨g, i, none⟩) hgl (by simp)).trans (Lib.frozen_of_heap H.out.r i)))
    all_goals
     have HT := Lib.hid ((((((H.out.fr (Fr.refl [] W2).drew).fr hf).setr hbs 0 (.int .i64 0)).setr hbs 1 (.string ⟨#[]⟩)).setr hbs 2 (.int .i64 0)).setr hbs 3 (.int .i64 (k : Nat)))
     have HV := Lib.hid ((((hv.set (c := g) (i := 0) (u := .int .i64 0) hgl).set (c := g) (i := 1) (u := .string ⟨#[]⟩) hgl).set (c := g) (i := 2) (u := .int .i64 0) hgl).set (c := g) (i := 3) (u := .int .i64 (k : Nat)) hgl)
     have HLE := Lib.hid H.out.f.size
     clear hv hf q0 q1 q2 q3 fz e1 s0 s1 s2 s3
     go_wp2_with fail
     refine bodyPost_ret (results_cell_tmp rfl _ _ g _ _ _ _ rfl HT.out.r Tryd.underlying25 rfl (by kernel_rfl)) rfl ?_
     refine ⟨_, _, rfl, ?_⟩
     rw [HX.out]
     exact ⟨⟨⟨0, ⟨#[]⟩, 0, k⟩, rfl⟩, HV.out.base HLE.out, HT.out.f⟩
 have HR2 : Hid (R = Lex.tokSign T k (Lex.sign (bn T) T.size)) := by show _ = _; rw [HR.out, Lex.tokR, if_neg hs1, if_neg h34, if_neg hnum]
 have q1 : ((c : Int) == 45) = false := beq_eq_false_iff_ne.2 (by omega)
 have hq : ¬ (c : Int) ≥ 48 ∨ ((c : Int) ≥ 48 ∧ ¬ (c : Int) ≤ 57) := by
  by_cases h48 : 48 ≤ c
  ·refine Or.inr ⟨by omega, fun h57 => hnum (Or.inr ?_)⟩
   simp [Dec.dig]; omega
  ·exact Or.inl (by omega)
 have hsg := lex_sign W1 T (by unfold maxLen; omega)
 have hle := Lex.sign_le (bn T) T.size
 obtain ⟨m, hm⟩ : ∃ m, Hid (Lex.sign (bn T) T.size = m) := ⟨_, rfl⟩
 rw [hm.out] at hsg hle HR2
 clear hsm HR hs1 hs1' hnum h34
 by_cases hm0 : m = 0
 case' pos =>
  have HX : Hid (R = .bad k 110) := by show _ = _; rw [HR2.out, Lex.tokSign, if_pos hm0]
  rw [hm0, ext_none] at hsg
  have HSG := Lib.hid hsg
  clear hsg hm0
  have fzt : ∀ i, W1.frozen? ⟨g + 1, i, none⟩ = false := fun i => Lib.frozen_of_heap H.out.t i
  rcases hq with q2 | ⟨q2, q3⟩
  all_goals
   have c1 := H.out.sc.c1
   have t0 : W1.cell? ⟨g + 1, 0, none⟩ = some (.int .i64 0) := by rw [Lib.cell_of_heap H.out.t]; rfl
   have t1 : W1.cell? ⟨g + 1, 1, none⟩ = some (.string ⟨#[]⟩) := by rw [Lib.cell_of_heap H.out.t]; rfl
   have t2 : W1.cell? ⟨g + 1, 2, none⟩ = some (.int .i64 0) := by rw [Lib.cell_of_heap H.out.t]; rfl
   have t3 : W1.cell? ⟨g + 1, 3, none⟩ = some (.int .i64 (k : Nat)) := by rw [Lib.cell_of_heap H.out.t]; rfl
   have r0 : W1.cell? ⟨g, 0, none⟩ = some (.int .i64 0) := by rw [Lib.cell_of_heap H.out.r]; rfl
   have r1 : W1.cell? ⟨g, 1, none⟩ = some (.string ⟨#[]⟩) := by rw [Lib.cell_of_heap H.out.r]; rfl
   have r2 : W1.cell? ⟨g, 2, none⟩ = some (.int .i64 0) := by rw [Lib.cell_of_heap H.out.r]; rfl
   have r3 : W1.cell? ⟨g, 3, none⟩ = some (.int .i64 0) := by rw [Lib.cell_of_heap H.out.r]; rfl
   go_wp2_with (first | (go_at_call 58; with_reducible refine (HSM.out _).mono ?_; rintro e w' ⟨rfl, rfl⟩) | (go_at_call 29; with_reducible refine HSG.out.mono ?_; rintro e w' ⟨rfl, rfl⟩))
   refine wp_fresh (fun V => TT w b g s lv k zTk #[.int .i64 4, .string ⟨#[]⟩, .int .i64 0, .int .i64 (k : Nat)] V) ((H.out.sett hbs 0 (.int .i64 4)).sett hbs 1 (.string ⟨#[]⟩)) ?_
   intro W3 h1
   have H := Lib.hid h1
   clear h1 fzt t0 t1 t2 t3 r0 r1 r2 r3 c1
   have c1 := H.out.sc.c1
   have t0 : W3.cell? ⟨g + 1, 0, none⟩ = some (.int .i64 4) := by rw [Lib.cell_of_heap H.out.t]; rfl
   have t1 : W3.cell? ⟨g + 1, 1, none⟩ = some (.string ⟨#[]⟩) := by rw [Lib.cell_of_heap H.out.t]; rfl
   have t2 : W3.cell? ⟨g + 1, 2, none⟩ = some (.int .i64 0) := by rw [Lib.cell_of_heap H.out.t]; rfl
   have t3 : W3.cell? ⟨g + 1, 3, none⟩ = some (.int .i64 (k : Nat)) := by rw [Lib.cell_of_heap H.out.t]; rfl
   have r0 : W3.cell? ⟨g, 0, none⟩ = some (.int .i64 0) := by rw [Lib.cell_of_heap H.out.r]; rfl
   have r1 : W3.cell? ⟨g, 1, none⟩ = some (.string ⟨#[]⟩) := by rw [Lib.cell_of_heap H.out.r]; rfl
   have r2 : W3.cell? ⟨g, 2, none⟩ = some (.int .i64 0) := by rw [Lib.cell_of_heap H.out.r]; rfl
   have r3 : W3.cell? ⟨g, 3, none⟩ = some (.int .i64 0) := by rw [Lib.cell_of_heap H.out.r]; rfl
   have hgl : g < W3.heap.size := row_lt H.out.r
   go_wp2_with (fail)
   go_region_held3 (fun W' => W'.cell? ⟨g + 1, 0, none⟩ = some (.int .i64 4) ∧ W'.cell? ⟨g + 1, 1, none⟩ = some (.string ⟨#[]⟩) ∧ W'.cell? ⟨g + 1, 2, none⟩ = some (.int .i64 0) ∧ W'.cell? ⟨g + 1, 3, none⟩ = some (.int .i64 (k : Nat)) ∧ W'.cell? ⟨b, 1, none⟩ = some (.int .i64 (k : Nat)))
    (first | go_keep | exact ⟨hf.cells t0, hf.cells t1, hf.cells t2, hf.cells t3, hf.cells c1⟩ | ((try dsimp only); (repeat' apply And.intro) <;> go_keep))
    ((go_at_call 38; refine (lex_fault _ k 110).mono ?_; rintro e W9 ⟨v, rfl, hv, hf⟩; have e1 := hf.cells c1; have s0 := hf.cells t0; have s1 := hf.cells t1; have s2 := hf.cells t2; have s3 := hf.cells t3; have q0 := hf.cells r0; have q1 := hf.cells r1; have q2 := hf.cells r2; have q3 := hf.cells r3; have fz : ∀ i, W9.frozen? ⟨g, i, none⟩ = false := fun i => (hf.frozen (p := ⟨g, i, none⟩) hgl (by simp)).trans (Lib.frozen_of_heap H.out.r i)))
   all_goals
    have HT := Lib.hid ((((((H.out.fr (Fr.refl [] W3).drew).fr hf).setr hbs 0 (.int .i64 4)).setr hbs 1 (.string ⟨#[]⟩)).setr hbs 2 (.int .i64 0)).setr hbs 3 (.int .i64 (k : Nat)))
    have HV := Lib.hid ((((hv.set (c := g) (i := 0) (u := .int .i64 4) hgl).set (c := g) (i := 1) (u := .string ⟨#[]⟩) hgl).set (c := g) (i := 2) (u := .int .i64 0) hgl).set (c := g) (i := 3) (u := .int .i64 (k : Nat)) hgl)
    have HLE := Lib.hid H.out.f.size
    clear hv hf q0 q1 q2 q3 fz e1 s0 s1 s2 s3
    go_wp2_with fail
    refine bodyPost_ret (results_cell_tmp rfl _ _ g _ _ _ _ rfl HT.out.r Tryd.underlying25 rfl (by kernel_rfl)) rfl ?_
    refine ⟨_, _, rfl, ?_⟩
    rw [HX.out]
    exact ⟨⟨⟨4, ⟨#[]⟩, 0, k⟩, rfl⟩, HV.out.base HLE.out, HT.out.f⟩
 obtain ⟨U, hU⟩ : ∃ U, Hid (T.extract 0 m = U) := ⟨_, rfl⟩
 have HX : Hid (R = .ok ⟨4, U, 0, k⟩ (k + m)) := by show _ = _; rw [HR2.out, Lex.tokSign, if_neg hm0, hU.out]
 rw [hU.out] at hsg
 have HSG := Lib.hid hsg
 have hUs : U.size = m := by rw [← hU.out]; simp; omega
 obtain ⟨u1, u2⟩ := toList_ne (s := U) (by omega)
 have hmT : m ≤ 1000000 := by omega
 have HUS := Lib.hid hUs
 have fzt : ∀ i, W1.frozen? ⟨g + 1, i, none⟩ = false := fun i => Lib.frozen_of_heap H.out.t i
 clear hsg hUs
 rcases hq with q2 | ⟨q2, q3⟩
 all_goals
  have c1 := H.out.sc.c1
  have t0 : W1.cell? ⟨g + 1, 0, none⟩ = some (.int .i64 0) := by rw [Lib.cell_of_heap H.out.t]; rfl
  have t1 : W1.cell? ⟨g + 1, 1, none⟩ = some (.string ⟨#[]⟩) := by rw [Lib.cell_of_heap H.out.t]; rfl
  have t2 : W1.cell? ⟨g + 1, 2, none⟩ = some (.int .i64 0) := by rw [Lib.cell_of_heap H.out.t]; rfl
  have t3 : W1.cell? ⟨g + 1, 3, none⟩ = some (.int .i64 (k : Nat)) := by rw [Lib.cell_of_heap H.out.t]; rfl
  have r0 : W1.cell? ⟨g, 0, none⟩ = some (.int .i64 0) := by rw [Lib.cell_of_heap H.out.r]; rfl
  have r1 : W1.cell? ⟨g, 1, none⟩ = some (.string ⟨#[]⟩) := by rw [Lib.cell_of_heap H.out.r]; rfl
  have r2 : W1.cell? ⟨g, 2, none⟩ = some (.int .i64 0) := by rw [Lib.cell_of_heap H.out.r]; rfl
  have r3 : W1.cell? ⟨g, 3, none⟩ = some (.int .i64 0) := by rw [Lib.cell_of_heap H.out.r]; rfl
  go_wp2_with (first | (go_at_call 58; with_reducible refine (HSM.out _).mono ?_; rintro e w' ⟨rfl, rfl⟩) | (go_at_call 29; with_reducible refine HSG.out.mono ?_; rintro e w' ⟨rfl, rfl⟩))
  refine wp_fresh (fun V => TT w b g s lv k zTk #[.int .i64 4, .string U, .int .i64 0, .int .i64 (k : Nat)] V) ((H.out.sett hbs 0 (.int .i64 4)).sett hbs 1 (.string U)) ?_
  intro W3 h1
  have H := Lib.hid h1
  clear h1 fzt t0 t1 t2 t3 r0 r1 r2 r3 c1
  have c1 := H.out.sc.c1
  have t0 : W3.cell? ⟨g + 1, 0, none⟩ = some (.int .i64 4) := by rw [Lib.cell_of_heap H.out.t]; rfl
  have t1 : W3.cell? ⟨g + 1, 1, none⟩ = some (.string U) := by rw [Lib.cell_of_heap H.out.t]; rfl
  have t2 : W3.cell? ⟨g + 1, 2, none⟩ = some (.int .i64 0) := by rw [Lib.cell_of_heap H.out.t]; rfl
  have t3 : W3.cell? ⟨g + 1, 3, none⟩ = some (.int .i64 (k : Nat)) := by rw [Lib.cell_of_heap H.out.t]; rfl
  have r0 : W3.cell? ⟨g, 0, none⟩ = some (.int .i64 0) := by rw [Lib.cell_of_heap H.out.r]; rfl
  have r1 : W3.cell? ⟨g, 1, none⟩ = some (.string ⟨#[]⟩) := by rw [Lib.cell_of_heap H.out.r]; rfl
  have r2 : W3.cell? ⟨g, 2, none⟩ = some (.int .i64 0) := by rw [Lib.cell_of_heap H.out.r]; rfl
  have r3 : W3.cell? ⟨g, 3, none⟩ = some (.int .i64 0) := by rw [Lib.cell_of_heap H.out.r]; rfl
  have f1 := H.out.sc.fz 1
  have hus : U.size = m := HUS.out
  have wj : IntKind.i64.wrap ((k : Int) + (m : Int)) = ((k + m : Nat) : Int) := by rw [IntWalk.i64_in _ (by omega)]; omega
  have fr0 : ∀ i, W3.frozen? ⟨g, i, none⟩ = false := fun i => Lib.frozen_of_heap H.out.r i
  have HT := Lib.hid ((((((H.out.fr (Fr.refl [] W3).drew).put hbs (k + m)).setr hbs 0 (.int .i64 4)).setr hbs 1 (.string U)).setr hbs 2 (.int .i64 0)).setr hbs 3 (.int .i64 (k : Nat)))
  go_wp2_with fail
  go_still_tail 10, (by kernel_rfl)
  go_wp2_with fail
  refine bodyPost_ret (results_cell_tmp rfl _ _ g _ _ _ _ rfl HT.out.r Tryd.underlying25 rfl (by kernel_rfl)) rfl ?_
  refine ⟨_, _, rfl, ?_⟩
  rw [HX.out]
  exact ⟨rfl, rfl, HT.out.sc, HT.out.f⟩
end Go.Proofs.YtgklmpooonnmiaaDoor
