/-
  Lemmas and contracts that the proofs over this seat use (RefText3); no statement of the seat is claimed in this text, and nothing is assumed in it.
-/
import Derived.Test.YtgklmpooonnmiaaGreatDoorH26
set_option linter.unusedVariables false
set_option linter.unusedSimpArgs false
namespace Go.Proofs.YtgklmpooonnmiaaGreatDoor
open Go.RowKit
set_option maxHeartbeats 4000000 in
set_option maxRecDepth 100000 in
theorem text_9 (w : World) (s : ByteArray) (n p : Int) (c : Nat) (asked : Int) (hs : s.size ≤ 100000000) (hl : ¬ Pol.level 9 < asked) (ad : Addr) (x y : Ex) (xo : Int) (xs : ByteArray) (xn : Int) (xq : Option Addr) (xk xc : Nat) (xp : Int) (yo : Int) (ys : ByteArray) (yn : Int) (yq : Option Addr) (yk yc : Nat) (yp : Int) (h5x : Five w (ad) [.int .i64 xo, .string xs, .int .i64 xn, .slice xq xk xc, .int .i64 xp]) (h5y : Five w (⟨ad.block, ad.off + 5, none⟩) [.int .i64 yo, .string ys, .int .i64 yn, .slice yq yk yc, .int .i64 yp]) (hT : ∀ W, Fr [] w W → Calls Tryz.prog 39 #[.agg #[.int .i64 xo, .string xs, .int .i64 xn, .slice xq xk xc, .int .i64 xp], .int .i64 5] W fun e w' => e = .returned (.string (ba (Ex.text x 5))) ∧ Fr [] W w') (hU : ∀ W, Fr [] w W → Calls Tryz.prog 39 #[.agg #[.int .i64 yo, .string ys, .int .i64 yn, .slice yq yk yc, .int .i64 yp], .int .i64 5] W fun e w' => e = .returned (.string (ba (Ex.text y 5))) ∧ Fr [] W w') (hlen : (Ex.body 9 s n [x, y]).length < 1000000000) :
  Calls Tryz.prog 39 #[.agg #[.int .i64 9, .string s, .int .i64 n, .slice (some ad) 2 c, .int .i64 p], .int .i64 asked] w fun e w' => e = .returned (.string (ba (Ex.body 9 s n [x, y]))) ∧ Fr [] w w' := by
 obtain ⟨_, _, _, _, _, hv, x0, x1, x2, x3, x4⟩ := h5x
 simp only [List.cons.injEq, and_true] at hv
 obtain ⟨rfl, rfl, rfl, rfl, rfl⟩ := hv
 have hx0 := Lib.hid x0
 have hx1 := Lib.hid x1
 have hx2 := Lib.hid x2
 have hx3 := Lib.hid x3
 have hx4 := Lib.hid x4
 clear x0 x1 x2 x3 x4
 obtain ⟨_, _, _, _, _, hv, y0, y1, y2, y3, y4⟩ := h5y
 simp only [List.cons.injEq, and_true] at hv
 obtain ⟨rfl, rfl, rfl, rfl, rfl⟩ := hv
 have hy0 := Lib.hid y0
 have hy1 := Lib.hid y1
 have hy2 := Lib.hid y2
 have hy3 := Lib.hid y3
 have hy4 := Lib.hid y4
 clear y0 y1 y2 y3 y4
 have HT := Lib.hid hT
 have HU := Lib.hid hU
 obtain ⟨T, hTT⟩ : ∃ T, ba (Ex.text x 5) = T := ⟨_, rfl⟩
 obtain ⟨U, hUU⟩ : ∃ U, ba (Ex.text y 5) = U := ⟨_, rfl⟩
 have HN : Hid (nats T = Ex.text x 5) := by show _ = _; rw [← hTT]; exact nats_ba _ (Ex.text_lt x 5)
 have HM : Hid (nats U = Ex.text y 5) := by show _ = _; rw [← hUU]; exact nats_ba _ (Ex.text_lt y 5)
 simp only [hTT] at HT
 simp only [hUU] at HU
 have hts : T.size + U.size ≤ 1000000000 := by
  rw [Ex.body_two s n x y (by decide) (by decide), List.length_append, List.length_append] at hlen
  rw [← nats_length, ← nats_length, HN.out, HM.out]
  have e2 : Ex.lo 9 = 5 := rfl
  have e3 : Ex.hi 9 = 5 := rfl
  rw [e2, e3] at hlen
  omega
 have ht1 : T.size ≤ 1000000000 := by omega
 have ht2 : U.size ≤ 1000000000 := by omega
 have HE : Hid (ba (Ex.body 9 s n [x, y]) = T ++ ⟨#[32]⟩ ++ ⟨#[61]⟩ ++ ⟨#[32]⟩ ++ U) := (ba_of (by rw [Ex.body_two s n x y (by decide) (by decide)]; simp only [nats_append, HN.out, HM.out, List.append_assoc]; rfl)).symm
 clear hT hU hlen hTT hUU
 have z0 : ¬ 9223372036854775807 < T.size + 1 := (by omega); have z1 : ¬ 9223372036854775807 < T.size + 1 + 1 := (by omega); have z2 : ¬ 9223372036854775807 < T.size + 1 + 1 + 1 := (by omega); have z3 : ¬ 9223372036854775807 < T.size + 1 + 1 + 1 + U.size := (by omega); have z4 : ¬ 9223372036854775807 < T.size + 2 := (by omega); have z5 : ¬ 9223372036854775807 < T.size + 3 := (by omega); have z6 : ¬ 9223372036854775807 < T.size + 3 + U.size := (by omega)
 have HQ := Lib.hid (fun W => ref_quote2 W s hs)
 have HBI := Lib.hid (fun W => ref_bind W 9 (by omega) (by omega))
 go_enter Tryz.func39, Tryz.ntmps39
 go_upto_region 1 with fail
 refine wp_fresh (fun V => V.heap[w.heap.size]? = some (.cells #[.int .i64 9, .string s, .int .i64 n, .slice (some ad) 2 c, .int .i64 p] 42 (0, 0)) ∧ Fr [] w V) ⟨heap_alloc_last _ _, (Fr.refl _ _).alloc _⟩ ?_
 rintro V0 ⟨hr, hF⟩
 have HF := Lib.hid hF
 have HB := Lib.hid hr
 have bf : ∀ i, V0.frozen? ⟨(w.heap.size), i, none⟩ = false := fun i => Lib.frozen_of_heap hr i
 have b0 : V0.cell? ⟨(w.heap.size), 0, none⟩ = some (.int .i64 9) := by rw [Lib.cell_of_heap hr]; rfl
 have b1 : V0.cell? ⟨(w.heap.size), 1, none⟩ = some (.string s) := by rw [Lib.cell_of_heap hr]; rfl
 have b2 : V0.cell? ⟨(w.heap.size), 2, none⟩ = some (.int .i64 n) := by rw [Lib.cell_of_heap hr]; rfl
 clear hr hF
 go_wp2_with fail
 refine (HBI.out _).mono ?_
 rintro e w1 ⟨rfl, rfl⟩
 go_wp2_with fail
 refine (HQ.out _).mono ?_
 rintro e V ⟨rfl, hF⟩
 have HF := Lib.hid (HF.out.trans0 hF)
 have hr := hF.row HB.out (by simp)
 have HB := Lib.hid hr
 clear b0 b1 b2 bf hF HQ HBI
 have bf : ∀ i, V.frozen? ⟨(w.heap.size), i, none⟩ = false := fun i => Lib.frozen_of_heap hr i
 have b0 : V.cell? ⟨(w.heap.size), 0, none⟩ = some (.int .i64 9) := by rw [Lib.cell_of_heap hr]; rfl
 have b1 : V.cell? ⟨(w.heap.size), 1, none⟩ = some (.string s) := by rw [Lib.cell_of_heap hr]; rfl
 have b2 : V.cell? ⟨(w.heap.size), 2, none⟩ = some (.int .i64 n) := by rw [Lib.cell_of_heap hr]; rfl
 have b3 : V.cell? ⟨(w.heap.size), 3, none⟩ = some (.slice (some ad) 2 c) := by rw [Lib.cell_of_heap hr]; rfl
 have b4 : V.cell? ⟨(w.heap.size), 4, none⟩ = some (.int .i64 p) := by rw [Lib.cell_of_heap hr]; rfl
 have hlt0 : w.heap.size < V.heap.size := row_lt hr
 clear hr
 have p0 := HF.out.cells hx0.out
 have p1 := HF.out.cells hx1.out
 have p2 := HF.out.cells hx2.out
 have p3 := HF.out.cells hx3.out
 have p4 := HF.out.cells hx4.out
 have r0 := HF.out.cells hy0.out
 have r1 := HF.out.cells hy1.out
 have r2 := HF.out.cells hy2.out
 have r3 := HF.out.cells hy3.out
 have r4 := HF.out.cells hy4.out
 go_wp2_with fail
 refine wp_fresh (fun V1 => Fr [] V V1) ((Fr.refl _ _).alloc _) ?_; rintro V1 hF9; have HF := Lib.hid (HF.out.trans0 hF9); have b3 := hF9.cells b3; have p0 := hF9.cells p0; have r0 := hF9.cells r0; have p1 := hF9.cells p1; have r1 := hF9.cells r1; have p2 := hF9.cells p2; have r2 := hF9.cells r2; have p3 := hF9.cells p3; have r3 := hF9.cells r3; have p4 := hF9.cells p4; have r4 := hF9.cells r4; clear hF9
 go_region_held3 (fun W' => W'.cell? ⟨w.heap.size, 3, none⟩ = some (.slice (some ad) 2 c) ∧ W'.cell? ad = some (.int .i64 xo) ∧ W'.cell? ⟨ad.block, ad.off + 1, none⟩ = some (.string xs) ∧ W'.cell? ⟨ad.block, ad.off + 2, none⟩ = some (.int .i64 xn) ∧ W'.cell? ⟨ad.block, ad.off + 3, none⟩ = some (.slice xq xk xc) ∧ W'.cell? ⟨ad.block, ad.off + 4, none⟩ = some (.int .i64 xp) ∧ W'.cell? ⟨ad.block, ad.off + 5, none⟩ = some (.int .i64 yo) ∧ W'.cell? ⟨ad.block, ad.off + 5 + 1, none⟩ = some (.string ys) ∧ W'.cell? ⟨ad.block, ad.off + 5 + 2, none⟩ = some (.int .i64 yn) ∧ W'.cell? ⟨ad.block, ad.off + 5 + 3, none⟩ = some (.slice yq yk yc) ∧ W'.cell? ⟨ad.block, ad.off + 5 + 4, none⟩ = some (.int .i64 yp))
  (first | exact ⟨b3, p0, p1, p2, p3, p4, r0, r1, r2, r3, r4⟩ | exact ⟨hF.cells b3, hF.cells p0, hF.cells p1, hF.cells p2, hF.cells p3, hF.cells p4, hF.cells r0, hF.cells r1, hF.cells r2, hF.cells r3, hF.cells r4⟩ | exact ⟨hG.cells (hF.cells b3), hG.cells (hF.cells p0), hG.cells (hF.cells p1), hG.cells (hF.cells p2), hG.cells (hF.cells p3), hG.cells (hF.cells p4), hG.cells (hF.cells r0), hG.cells (hF.cells r1), hG.cells (hF.cells r2), hG.cells (hF.cells r3), hG.cells (hF.cells r4)⟩)
  (first
   | (go_at_call 39; with_reducible refine (HT.out _ (by first | exact HF.out.drew | exact HF.out)).mono ?_; rintro e V2 ⟨rfl, hF⟩)
   | (go_at_call 39; with_reducible refine (HU.out _ (HF.out.drew.trans0 hF)).mono ?_; rintro e V3 ⟨rfl, hG⟩))
 have HF := Lib.hid ((HF.out.drew.trans0 hF).trans0 hG)
 clear hF hG HT HU
 go_wp2_with fail
 refine bodyPost_ret (results_tmp rfl _ _ _) rfl ?_
 rw [HE.out]
 exact ⟨rfl, HF.out⟩
set_option maxHeartbeats 4000000 in
set_option maxRecDepth 100000 in
theorem text_10 (w : World) (s : ByteArray) (n p : Int) (c : Nat) (asked : Int) (hs : s.size ≤ 100000000) (hl : ¬ Pol.level 10 < asked) (ad : Addr) (x y : Ex) (xo : Int) (xs : ByteArray) (xn : Int) (xq : Option Addr) (xk xc : Nat) (xp : Int) (yo : Int) (ys : ByteArray) (yn : Int) (yq : Option Addr) (yk yc : Nat) (yp : Int) (h5x : Five w (ad) [.int .i64 xo, .string xs, .int .i64 xn, .slice xq xk xc, .int .i64 xp]) (h5y : Five w (⟨ad.block, ad.off + 5, none⟩) [.int .i64 yo, .string ys, .int .i64 yn, .slice yq yk yc, .int .i64 yp]) (hT : ∀ W, Fr [] w W → Calls Tryz.prog 39 #[.agg #[.int .i64 xo, .string xs, .int .i64 xn, .slice xq xk xc, .int .i64 xp], .int .i64 5] W fun e w' => e = .returned (.string (ba (Ex.text x 5))) ∧ Fr [] W w') (hU : ∀ W, Fr [] w W → Calls Tryz.prog 39 #[.agg #[.int .i64 yo, .string ys, .int .i64 yn, .slice yq yk yc, .int .i64 yp], .int .i64 5] W fun e w' => e = .returned (.string (ba (Ex.text y 5))) ∧ Fr [] W w') (hlen : (Ex.body 10 s n [x, y]).length < 1000000000) :
  Calls Tryz.prog 39 #[.agg #[.int .i64 10, .string s, .int .i64 n, .slice (some ad) 2 c, .int .i64 p], .int .i64 asked] w fun e w' => e = .returned (.string (ba (Ex.body 10 s n [x, y]))) ∧ Fr [] w w' := by
 obtain ⟨_, _, _, _, _, hv, x0, x1, x2, x3, x4⟩ := h5x
 simp only [List.cons.injEq, and_true] at hv
 obtain ⟨rfl, rfl, rfl, rfl, rfl⟩ := hv
 have hx0 := Lib.hid x0
 have hx1 := Lib.hid x1
 have hx2 := Lib.hid x2
 have hx3 := Lib.hid x3
 have hx4 := Lib.hid x4
 clear x0 x1 x2 x3 x4
 obtain ⟨_, _, _, _, _, hv, y0, y1, y2, y3, y4⟩ := h5y
 simp only [List.cons.injEq, and_true] at hv
 obtain ⟨rfl, rfl, rfl, rfl, rfl⟩ := hv
 have hy0 := Lib.hid y0
 have hy1 := Lib.hid y1
 have hy2 := Lib.hid y2
 have hy3 := Lib.hid y3
 have hy4 := Lib.hid y4
 clear y0 y1 y2 y3 y4
 have HT := Lib.hid hT
 have HU := Lib.hid hU
 obtain ⟨T, hTT⟩ : ∃ T, ba (Ex.text x 5) = T := ⟨_, rfl⟩
 obtain ⟨U, hUU⟩ : ∃ U, ba (Ex.text y 5) = U := ⟨_, rfl⟩
 have HN : Hid (nats T = Ex.text x 5) := by show _ = _; rw [← hTT]; exact nats_ba _ (Ex.text_lt x 5)
 have HM : Hid (nats U = Ex.text y 5) := by show _ = _; rw [← hUU]; exact nats_ba _ (Ex.text_lt y 5)
 simp only [hTT] at HT
 simp only [hUU] at HU
 have hts : T.size + U.size ≤ 1000000000 := by
  rw [Ex.body_two s n x y (by decide) (by decide), List.length_append, List.length_append] at hlen
  rw [← nats_length, ← nats_length, HN.out, HM.out]
  have e2 : Ex.lo 10 = 5 := rfl
  have e3 : Ex.hi 10 = 5 := rfl
  rw [e2, e3] at hlen
  omega
 have ht1 : T.size ≤ 1000000000 := by omega
 have ht2 : U.size ≤ 1000000000 := by omega
 have HE : Hid (ba (Ex.body 10 s n [x, y]) = T ++ ⟨#[32]⟩ ++ ⟨#[33, 61]⟩ ++ ⟨#[32]⟩ ++ U) := (ba_of (by rw [Ex.body_two s n x y (by decide) (by decide)]; simp only [nats_append, HN.out, HM.out, List.append_assoc]; rfl)).symm
 clear hT hU hlen hTT hUU
 have z0 : ¬ 9223372036854775807 < T.size + 1 := (by omega); have z1 : ¬ 9223372036854775807 < T.size + 1 + 2 := (by omega); have z2 : ¬ 9223372036854775807 < T.size + 1 + 2 + 1 := (by omega); have z3 : ¬ 9223372036854775807 < T.size + 1 + 2 + 1 + U.size := (by omega); have z4 : ¬ 9223372036854775807 < T.size + 3 := (by omega); have z5 : ¬ 9223372036854775807 < T.size + 4 := (by omega); have z6 : ¬ 9223372036854775807 < T.size + 4 + U.size := (by omega)
 have HQ := Lib.hid (fun W => ref_quote2 W s hs)
 have HBI := Lib.hid (fun W => ref_bind W 10 (by omega) (by omega))
 go_enter Tryz.func39, Tryz.ntmps39
 go_upto_region 1 with fail
 refine wp_fresh (fun V => V.heap[w.heap.size]? = some (.cells #[.int .i64 10, .string s, .int .i64 n, .slice (some ad) 2 c, .int .i64 p] 42 (0, 0)) ∧ Fr [] w V) ⟨heap_alloc_last _ _, (Fr.refl _ _).alloc _⟩ ?_
 rintro V0 ⟨hr, hF⟩
 have HF := Lib.hid hF
 have HB := Lib.hid hr
 have bf : ∀ i, V0.frozen? ⟨(w.heap.size), i, none⟩ = false := fun i => Lib.frozen_of_heap hr i
 have b0 : V0.cell? ⟨(w.heap.size), 0, none⟩ = some (.int .i64 10) := by rw [Lib.cell_of_heap hr]; rfl
 have b1 : V0.cell? ⟨(w.heap.size), 1, none⟩ = some (.string s) := by rw [Lib.cell_of_heap hr]; rfl
 have b2 : V0.cell? ⟨(w.heap.size), 2, none⟩ = some (.int .i64 n) := by rw [Lib.cell_of_heap hr]; rfl
 clear hr hF
 go_wp2_with fail
 refine (HBI.out _).mono ?_
 rintro e w1 ⟨rfl, rfl⟩
 go_wp2_with fail
 refine (HQ.out _).mono ?_
 rintro e V ⟨rfl, hF⟩
 have HF := Lib.hid (HF.out.trans0 hF)
 have hr := hF.row HB.out (by simp)
 have HB := Lib.hid hr
 clear b0 b1 b2 bf hF HQ HBI
 have bf : ∀ i, V.frozen? ⟨(w.heap.size), i, none⟩ = false := fun i => Lib.frozen_of_heap hr i
 have b0 : V.cell? ⟨(w.heap.size), 0, none⟩ = some (.int .i64 10) := by rw [Lib.cell_of_heap hr]; rfl
 have b1 : V.cell? ⟨(w.heap.size), 1, none⟩ = some (.string s) := by rw [Lib.cell_of_heap hr]; rfl
 have b2 : V.cell? ⟨(w.heap.size), 2, none⟩ = some (.int .i64 n) := by rw [Lib.cell_of_heap hr]; rfl
 have b3 : V.cell? ⟨(w.heap.size), 3, none⟩ = some (.slice (some ad) 2 c) := by rw [Lib.cell_of_heap hr]; rfl
 have b4 : V.cell? ⟨(w.heap.size), 4, none⟩ = some (.int .i64 p) := by rw [Lib.cell_of_heap hr]; rfl
 have hlt0 : w.heap.size < V.heap.size := row_lt hr
 clear hr
 have p0 := HF.out.cells hx0.out
 have p1 := HF.out.cells hx1.out
 have p2 := HF.out.cells hx2.out
 have p3 := HF.out.cells hx3.out
 have p4 := HF.out.cells hx4.out
 have r0 := HF.out.cells hy0.out
 have r1 := HF.out.cells hy1.out
 have r2 := HF.out.cells hy2.out
 have r3 := HF.out.cells hy3.out
 have r4 := HF.out.cells hy4.out
 go_wp2_with fail
 refine wp_fresh (fun V1 => Fr [] V V1) ((Fr.refl _ _).alloc _) ?_; rintro V1 hF9; have HF := Lib.hid (HF.out.trans0 hF9); have b3 := hF9.cells b3; have p0 := hF9.cells p0; have r0 := hF9.cells r0; have p1 := hF9.cells p1; have r1 := hF9.cells r1; have p2 := hF9.cells p2; have r2 := hF9.cells r2; have p3 := hF9.cells p3; have r3 := hF9.cells r3; have p4 := hF9.cells p4; have r4 := hF9.cells r4; clear hF9
 go_region_held3 (fun W' => W'.cell? ⟨w.heap.size, 3, none⟩ = some (.slice (some ad) 2 c) ∧ W'.cell? ad = some (.int .i64 xo) ∧ W'.cell? ⟨ad.block, ad.off + 1, none⟩ = some (.string xs) ∧ W'.cell? ⟨ad.block, ad.off + 2, none⟩ = some (.int .i64 xn) ∧ W'.cell? ⟨ad.block, ad.off + 3, none⟩ = some (.slice xq xk xc) ∧ W'.cell? ⟨ad.block, ad.off + 4, none⟩ = some (.int .i64 xp) ∧ W'.cell? ⟨ad.block, ad.off + 5, none⟩ = some (.int .i64 yo) ∧ W'.cell? ⟨ad.block, ad.off + 5 + 1, none⟩ = some (.string ys) ∧ W'.cell? ⟨ad.block, ad.off + 5 + 2, none⟩ = some (.int .i64 yn) ∧ W'.cell? ⟨ad.block, ad.off + 5 + 3, none⟩ = some (.slice yq yk yc) ∧ W'.cell? ⟨ad.block, ad.off + 5 + 4, none⟩ = some (.int .i64 yp))
  (first | exact ⟨b3, p0, p1, p2, p3, p4, r0, r1, r2, r3, r4⟩ | exact ⟨hF.cells b3, hF.cells p0, hF.cells p1, hF.cells p2, hF.cells p3, hF.cells p4, hF.cells r0, hF.cells r1, hF.cells r2, hF.cells r3, hF.cells r4⟩ | exact ⟨hG.cells (hF.cells b3), hG.cells (hF.cells p0), hG.cells (hF.cells p1), hG.cells (hF.cells p2), hG.cells (hF.cells p3), hG.cells (hF.cells p4), hG.cells (hF.cells r0), hG.cells (hF.cells r1), hG.cells (hF.cells r2), hG.cells (hF.cells r3), hG.cells (hF.cells r4)⟩)
  (first
   | (go_at_call 39; with_reducible refine (HT.out _ (by first | exact HF.out.drew | exact HF.out)).mono ?_; rintro e V2 ⟨rfl, hF⟩)
   | (go_at_call 39; with_reducible refine (HU.out _ (HF.out.drew.trans0 hF)).mono ?_; rintro e V3 ⟨rfl, hG⟩))
 have HF := Lib.hid ((HF.out.drew.trans0 hF).trans0 hG)
 clear hF hG HT HU
 go_wp2_with fail
 refine bodyPost_ret (results_tmp rfl _ _ _) rfl ?_
 rw [HE.out]
 exact ⟨rfl, HF.out⟩
set_option maxHeartbeats 4000000 in
set_option maxRecDepth 100000 in
theorem text_11 (w : World) (s : ByteArray) (n p : Int) (c : Nat) (asked : Int) (hs : s.size ≤ 100000000) (hl : ¬ Pol.level 11 < asked) (ad : Addr) (x y : Ex) (xo : Int) (xs : ByteArray) (xn : Int) (xq : Option Addr) (xk xc : Nat) (xp : Int) (yo : Int) (ys : ByteArray) (yn : Int) (yq : Option Addr) (yk yc : Nat) (yp : Int) (h5x : Five w (ad) [.int .i64 xo, .string xs, .int .i64 xn, .slice xq xk xc, .int .i64 xp]) (h5y : Five w (⟨ad.block, ad.off + 5, none⟩) [.int .i64 yo, .string ys, .int .i64 yn, .slice yq yk yc, .int .i64 yp]) (hT : ∀ W, Fr [] w W → Calls Tryz.prog 39 #[.agg #[.int .i64 xo, .string xs, .int .i64 xn, .slice xq xk xc, .int .i64 xp], .int .i64 5] W fun e w' => e = .returned (.string (ba (Ex.text x 5))) ∧ Fr [] W w') (hU : ∀ W, Fr [] w W → Calls Tryz.prog 39 #[.agg #[.int .i64 yo, .string ys, .int .i64 yn, .slice yq yk yc, .int .i64 yp], .int .i64 5] W fun e w' => e = .returned (.string (ba (Ex.text y 5))) ∧ Fr [] W w') (hlen : (Ex.body 11 s n [x, y]).length < 1000000000) :
  Calls Tryz.prog 39 #[.agg #[.int .i64 11, .string s, .int .i64 n, .slice (some ad) 2 c, .int .i64 p], .int .i64 asked] w fun e w' => e = .returned (.string (ba (Ex.body 11 s n [x, y]))) ∧ Fr [] w w' := by
 obtain ⟨_, _, _, _, _, hv, x0, x1, x2, x3, x4⟩ := h5x
 simp only [List.cons.injEq, and_true] at hv
 obtain ⟨rfl, rfl, rfl, rfl, rfl⟩ := hv
 have hx0 := Lib.hid x0
 have hx1 := Lib.hid x1
 have hx2 := Lib.hid x2
 have hx3 := Lib.hid x3
 have hx4 := Lib.hid x4
 clear x0 x1 x2 x3 x4
 obtain ⟨_, _, _, _, _, hv, y0, y1, y2, y3, y4⟩ := h5y
 simp only [List.cons.injEq, and_true] at hv
 obtain ⟨rfl, rfl, rfl, rfl, rfl⟩ := hv
 have hy0 := Lib.hid y0
 have hy1 := Lib.hid y1
 have hy2 := Lib.hid y2
 have hy3 := Lib.hid y3
 have hy4 := Lib.hid y4
 clear y0 y1 y2 y3 y4
 have HT := Lib.hid hT
 have HU := Lib.hid hU
 obtain ⟨T, hTT⟩ : ∃ T, ba (Ex.text x 5) = T := ⟨_, rfl⟩
 obtain ⟨U, hUU⟩ : ∃ U, ba (Ex.text y 5) = U := ⟨_, rfl⟩
 have HN : Hid (nats T = Ex.text x 5) := by show _ = _; rw [← hTT]; exact nats_ba _ (Ex.text_lt x 5)
 have HM : Hid (nats U = Ex.text y 5) := by show _ = _; rw [← hUU]; exact nats_ba _ (Ex.text_lt y 5)
 simp only [hTT] at HT
 simp only [hUU] at HU
 have hts : T.size + U.size ≤ 1000000000 := by
  rw [Ex.body_two s n x y (by decide) (by decide), List.length_append, List.length_append] at hlen
  rw [← nats_length, ← nats_length, HN.out, HM.out]
  have e2 : Ex.lo 11 = 5 := rfl
  have e3 : Ex.hi 11 = 5 := rfl
  rw [e2, e3] at hlen
  omega
 have ht1 : T.size ≤ 1000000000 := by omega
 have ht2 : U.size ≤ 1000000000 := by omega
 have HE : Hid (ba (Ex.body 11 s n [x, y]) = T ++ ⟨#[32]⟩ ++ ⟨#[60]⟩ ++ ⟨#[32]⟩ ++ U) := (ba_of (by rw [Ex.body_two s n x y (by decide) (by decide)]; simp only [nats_append, HN.out, HM.out, List.append_assoc]; rfl)).symm
 clear hT hU hlen hTT hUU
 have z0 : ¬ 9223372036854775807 < T.size + 1 := (by omega); have z1 : ¬ 9223372036854775807 < T.size + 1 + 1 := (by omega); have z2 : ¬ 9223372036854775807 < T.size + 1 + 1 + 1 := (by omega); have z3 : ¬ 9223372036854775807 < T.size + 1 + 1 + 1 + U.size := (by omega); have z4 : ¬ 9223372036854775807 < T.size + 2 := (by omega); have z5 : ¬ 9223372036854775807 < T.size + 3 := (by omega); have z6 : ¬ 9223372036854775807 < T.size + 3 + U.size := (by omega)
 have HQ := Lib.hid (fun W => ref_quote2 W s hs)
 have HBI := Lib.hid (fun W => ref_bind W 11 (by omega) (by omega))
 go_enter Tryz.func39, Tryz.ntmps39
 go_upto_region 1 with fail
 refine wp_fresh (fun V => V.heap[w.heap.size]? = some (.cells #[.int .i64 11, .string s, .int .i64 n, .slice (some ad) 2 c, .int .i64 p] 42 (0, 0)) ∧ Fr [] w V) ⟨heap_alloc_last _ _, (Fr.refl _ _).alloc _⟩ ?_
 rintro V0 ⟨hr, hF⟩
 have HF := Lib.hid hF
 have HB := Lib.hid hr
 have bf : ∀ i, V0.frozen? ⟨(w.heap.size), i, none⟩ = false := fun i => Lib.frozen_of_heap hr i
 have b0 : V0.cell? ⟨(w.heap.size), 0, none⟩ = some (.int .i64 11) := by rw [Lib.cell_of_heap hr]; rfl
 have b1 : V0.cell? ⟨(w.heap.size), 1, none⟩ = some (.string s) := by rw [Lib.cell_of_heap hr]; rfl
 have b2 : V0.cell? ⟨(w.heap.size), 2, none⟩ = some (.int .i64 n) := by rw [Lib.cell_of_heap hr]; rfl
 clear hr hF
 go_wp2_with fail
 refine (HBI.out _).mono ?_
 rintro e w1 ⟨rfl, rfl⟩
 go_wp2_with fail
 refine (HQ.out _).mono ?_
 rintro e V ⟨rfl, hF⟩
 have HF := Lib.hid (HF.out.trans0 hF)
 have hr := hF.row HB.out (by simp)
 have HB := Lib.hid hr
 clear b0 b1 b2 bf hF HQ HBI
 have bf : ∀ i, V.frozen? ⟨(w.heap.size), i, none⟩ = false := fun i => Lib.frozen_of_heap hr i
 have b0 : V.cell? ⟨(w.heap.size), 0, none⟩ = some (.int .i64 11) := by rw [Lib.cell_of_heap hr]; rfl
 have b1 : V.cell? ⟨(w.heap.size), 1, none⟩ = some (.string s) := by rw [Lib.cell_of_heap hr]; rfl
 have b2 : V.cell? ⟨(w.heap.size), 2, none⟩ = some (.int .i64 n) := by rw [Lib.cell_of_heap hr]; rfl
 have b3 : V.cell? ⟨(w.heap.size), 3, none⟩ = some (.slice (some ad) 2 c) := by rw [Lib.cell_of_heap hr]; rfl
 have b4 : V.cell? ⟨(w.heap.size), 4, none⟩ = some (.int .i64 p) := by rw [Lib.cell_of_heap hr]; rfl
 have hlt0 : w.heap.size < V.heap.size := row_lt hr
 clear hr
 have p0 := HF.out.cells hx0.out
 have p1 := HF.out.cells hx1.out
 have p2 := HF.out.cells hx2.out
 have p3 := HF.out.cells hx3.out
 have p4 := HF.out.cells hx4.out
 have r0 := HF.out.cells hy0.out
 have r1 := HF.out.cells hy1.out
 have r2 := HF.out.cells hy2.out
 have r3 := HF.out.cells hy3.out
 have r4 := HF.out.cells hy4.out
 go_wp2_with fail
 refine wp_fresh (fun V1 => Fr [] V V1) ((Fr.refl _ _).alloc _) ?_; rintro V1 hF9; have HF := Lib.hid (HF.out.trans0 hF9); have b3 := hF9.cells b3; have p0 := hF9.cells p0; have r0 := hF9.cells r0; have p1 := hF9.cells p1; have r1 := hF9.cells r1; have p2 := hF9.cells p2; have r2 := hF9.cells r2; have p3 := hF9.cells p3; have r3 := hF9.cells r3; have p4 := hF9.cells p4; have r4 := hF9.cells r4; clear hF9
 go_region_held3 (fun W' => W'.cell? ⟨w.heap.size, 3, none⟩ = some (.slice (some ad) 2 c) ∧ W'.cell? ad = some (.int .i64 xo) ∧ W'.cell? ⟨ad.block, ad.off + 1, none⟩ = some (.string xs) ∧ W'.cell? ⟨ad.block, ad.off + 2, none⟩ = some (.int .i64 xn) ∧ W'.cell? ⟨ad.block, ad.off + 3, none⟩ = some (.slice xq xk xc) ∧ W'.cell? ⟨ad.block, ad.off + 4, none⟩ = some (.int .i64 xp) ∧ W'.cell? ⟨ad.block, ad.off + 5, none⟩ = some (.int .i64 yo) ∧ W'.cell? ⟨ad.block, ad.off + 5 + 1, none⟩ = some (.string ys) ∧ W'.cell? ⟨ad.block, ad.off + 5 + 2, none⟩ = some (.int .i64 yn) ∧ W'.cell? ⟨ad.block, ad.off + 5 + 3, none⟩ = some (.slice yq yk yc) ∧ W'.cell? ⟨ad.block, ad.off + 5 + 4, none⟩ = some (.int .i64 yp))
  (first | exact ⟨b3, p0, p1, p2, p3, p4, r0, r1, r2, r3, r4⟩ | exact ⟨hF.cells b3, hF.cells p0, hF.cells p1, hF.cells p2, hF.cells p3, hF.cells p4, hF.cells r0, hF.cells r1, hF.cells r2, hF.cells r3, hF.cells r4⟩ | exact ⟨hG.cells (hF.cells b3), hG.cells (hF.cells p0), hG.cells (hF.cells p1), hG.cells (hF.cells p2), hG.cells (hF.cells p3), hG.cells (hF.cells p4), hG.cells (hF.cells r0), hG.cells (hF.cells r1), hG.cells (hF.cells r2), hG.cells (hF.cells r3), hG.cells (hF.cells r4)⟩)
  (first
   | (go_at_call 39; with_reducible refine (HT.out _ (by first | exact HF.out.drew | exact HF.out)).mono ?_; rintro e V2 ⟨rfl, hF⟩)
   | (go_at_call 39; with_reducible refine (HU.out _ (HF.out.drew.trans0 hF)).mono ?_; rintro e V3 ⟨rfl, hG⟩))
 have HF := Lib.hid ((HF.out.drew.trans0 hF).trans0 hG)
 clear hF hG HT HU
 go_wp2_with fail
 refine bodyPost_ret (results_tmp rfl _ _ _) rfl ?_
 rw [HE.out]
 exact ⟨rfl, HF.out⟩
set_option maxHeartbeats 4000000 in
set_option maxRecDepth 100000 in
theorem text_12 (w : World) (s : ByteArray) (n p : Int) (c : Nat) (asked : Int) (hs : s.size ≤ 100000000) (hl : ¬ Pol.level 12 < asked) (ad : Addr) (x y : Ex) (xo : Int) (xs : ByteArray) (xn : Int) (xq : Option Addr) (xk xc : Nat) (xp : Int) (yo : Int) (ys : ByteArray) (yn : Int) (yq : Option Addr) (yk yc : Nat) (yp : Int) (h5x : Five w (ad) [.int .i64 xo, .string xs, .int .i64 xn, .slice xq xk xc, .int .i64 xp]) (h5y : Five w (⟨ad.block, ad.off + 5, none⟩) [.int .i64 yo, .string ys, .int .i64 yn, .slice yq yk yc, .int .i64 yp]) (hT : ∀ W, Fr [] w W → Calls Tryz.prog 39 #[.agg #[.int .i64 xo, .string xs, .int .i64 xn, .slice xq xk xc, .int .i64 xp], .int .i64 5] W fun e w' => e = .returned (.string (ba (Ex.text x 5))) ∧ Fr [] W w') (hU : ∀ W, Fr [] w W → Calls Tryz.prog 39 #[.agg #[.int .i64 yo, .string ys, .int .i64 yn, .slice yq yk yc, .int .i64 yp], .int .i64 5] W fun e w' => e = .returned (.string (ba (Ex.text y 5))) ∧ Fr [] W w') (hlen : (Ex.body 12 s n [x, y]).length < 1000000000) :
  Calls Tryz.prog 39 #[.agg #[.int .i64 12, .string s, .int .i64 n, .slice (some ad) 2 c, .int .i64 p], .int .i64 asked] w fun e w' => e = .returned (.string (ba (Ex.body 12 s n [x, y]))) ∧ Fr [] w w' := by
 obtain ⟨_, _, _, _, _, hv, x0, x1, x2, x3, x4⟩ := h5x
 simp only [List.cons.injEq, and_true] at hv
 obtain ⟨rfl, rfl, rfl, rfl, rfl⟩ := hv
 have hx0 := Lib.hid x0
 have hx1 := Lib.hid x1
 have hx2 := Lib.hid x2
 have hx3 := Lib.hid x3
 have hx4 := Lib.hid x4
 clear x0 x1 x2 x3 x4
 obtain ⟨_, _, _, _, _, hv, y0, y1, y2, y3, y4⟩ := h5y
 simp only [List.cons.injEq, and_true] at hv
 obtain ⟨rfl, rfl, rfl, rfl, rfl⟩ := hv
 have hy0 := Lib.hid y0
 have hy1 := Lib.hid y1
 have hy2 := Lib.hid y2
 have hy3 := Lib.hid y3
 have hy4 := Lib.hid y4
 clear y0 y1 y2 y3 y4
 have HT := Lib.hid hT
 have HU := Lib.hid hU
 obtain ⟨T, hTT⟩ : ∃ T, ba (Ex.text x 5) = T := ⟨_, rfl⟩
 obtain ⟨U, hUU⟩ : ∃ U, ba (Ex.text y 5) = U := ⟨_, rfl⟩
 have HN : Hid (nats T = Ex.text x 5) := by show _ = _; rw [← hTT]; exact nats_ba _ (Ex.text_lt x 5)
 have HM : Hid (nats U = Ex.text y 5) := by show _ = _; rw [← hUU]; exact nats_ba _ (Ex.text_lt y 5)
 simp only [hTT] at HT
 simp only [hUU] at HU
 have hts : T.size + U.size ≤ 1000000000 := by
  rw [Ex.body_two s n x y (by decide) (by decide), List.length_append, List.length_append] at hlen
  rw [← nats_length, ← nats_length, HN.out, HM.out]
  have e2 : Ex.lo 12 = 5 := rfl
  have e3 : Ex.hi 12 = 5 := rfl
  rw [e2, e3] at hlen
  omega
 have ht1 : T.size ≤ 1000000000 := by omega
 have ht2 : U.size ≤ 1000000000 := by omega
 have HE : Hid (ba (Ex.body 12 s n [x, y]) = T ++ ⟨#[32]⟩ ++ ⟨#[60, 61]⟩ ++ ⟨#[32]⟩ ++ U) := (ba_of (by rw [Ex.body_two s n x y (by decide) (by decide)]; simp only [nats_append, HN.out, HM.out, List.append_assoc]; rfl)).symm
 clear hT hU hlen hTT hUU
 have z0 : ¬ 9223372036854775807 < T.size + 1 := (by omega); have z1 : ¬ 9223372036854775807 < T.size + 1 + 2 := (by omega); have z2 : ¬ 9223372036854775807 < T.size + 1 + 2 + 1 := (by omega); have z3 : ¬ 9223372036854775807 < T.size + 1 + 2 + 1 + U.size := (by omega); have z4 : ¬ 9223372036854775807 < T.size + 3 := (by omega); have z5 : ¬ 9223372036854775807 < T.size + 4 := (by omega); have z6 : ¬ 9223372036854775807 < T.size + 4 + U.size := (by omega)
 have HQ := Lib.hid (fun W => ref_quote2 W s hs)
 have HBI := Lib.hid (fun W => ref_bind W 12 (by omega) (by omega))
 go_enter Tryz.func39, Tryz.ntmps39
 go_upto_region 1 with fail
 refine wp_fresh (fun V => V.heap[w.heap.size]? = some (.cells #[.int .i64 12, .string s, .int .i64 n, .slice (some ad) 2 c, .int .i64 p] 42 (0, 0)) ∧ Fr [] w V) ⟨heap_alloc_last _ _, (Fr.refl _ _).alloc _⟩ ?_
 rintro V0 ⟨hr, hF⟩
 have HF := Lib.hid hF
 have HB := Lib.hid hr
 have bf : ∀ i, V0.frozen? ⟨(w.heap.size), i, none⟩ = false := fun i => Lib.frozen_of_heap hr i
 have b0 : V0.cell? ⟨(w.heap.size), 0, none⟩ = some (.int .i64 12) := by rw [Lib.cell_of_heap hr]; rfl
 have b1 : V0.cell? ⟨(w.heap.size), 1, none⟩ = some (.string s) := by rw [Lib.cell_of_heap hr]; rfl
 have b2 : V0.cell? ⟨(w.heap.size), 2, none⟩ = some (.int .i64 n) := by rw [Lib.cell_of_heap hr]; rfl
 clear hr hF
 go_wp2_with fail
 refine (HBI.out _).mono ?_
 rintro e w1 ⟨rfl, rfl⟩
 go_wp2_with fail
 refine (HQ.out _).mono ?_
 rintro e V ⟨rfl, hF⟩
 have HF := Lib.hid (HF.out.trans0 hF)
 have hr := hF.row HB.out (by simp)
 have HB := Lib.hid hr
 clear b0 b1 b2 bf hF HQ HBI
 have bf : ∀ i, V.frozen? ⟨(w.heap.size), i, none⟩ = false := fun i => Lib.frozen_of_heap hr i
 have b0 : V.cell? ⟨(w.heap.size), 0, none⟩ = some (.int .i64 12) := by rw [Lib.cell_of_heap hr]; rfl
 have b1 : V.cell? ⟨(w.heap.size), 1, none⟩ = some (.string s) := by rw [Lib.cell_of_heap hr]; rfl
 have b2 : V.cell? ⟨(w.heap.size), 2, none⟩ = some (.int .i64 n) := by rw [Lib.cell_of_heap hr]; rfl
 have b3 : V.cell? ⟨(w.heap.size), 3, none⟩ = some (.slice (some ad) 2 c) := by rw [Lib.cell_of_heap hr]; rfl
 have b4 : V.cell? ⟨(w.heap.size), 4, none⟩ = some (.int .i64 p) := by rw [Lib.cell_of_heap hr]; rfl
 have hlt0 : w.heap.size < V.heap.size := row_lt hr
 clear hr
 have p0 := HF.out.cells hx0.out
 have p1 := HF.out.cells hx1.out
 have p2 := HF.out.cells hx2.out
 have p3 := HF.out.cells hx3.out
 have p4 := HF.out.cells hx4.out
 have r0 := HF.out.cells hy0.out
 have r1 := HF.out.cells hy1.out
 have r2 := HF.out.cells hy2.out
 have r3 := HF.out.cells hy3.out
 have r4 := HF.out.cells hy4.out
 go_wp2_with fail
 refine wp_fresh (fun V1 => Fr [] V V1) ((Fr.refl _ _).alloc _) ?_; rintro V1 hF9; have HF := Lib.hid (HF.out.trans0 hF9); have b3 := hF9.cells b3; have p0 := hF9.cells p0; have r0 := hF9.cells r0; have p1 := hF9.cells p1; have r1 := hF9.cells r1; have p2 := hF9.cells p2; have r2 := hF9.cells r2; have p3 := hF9.cells p3; have r3 := hF9.cells r3; have p4 := hF9.cells p4; have r4 := hF9.cells r4; clear hF9
 go_region_held3 (fun W' => W'.cell? ⟨w.heap.size, 3, none⟩ = some (.slice (some ad) 2 c) ∧ W'.cell? ad = some (.int .i64 xo) ∧ W'.cell? ⟨ad.block, ad.off + 1, none⟩ = some (.string xs) ∧ W'.cell? ⟨ad.block, ad.off + 2, none⟩ = some (.int .i64 xn) ∧ W'.cell? ⟨ad.block, ad.off + 3, none⟩ = some (.slice xq xk xc) ∧ W'.cell? ⟨ad.block, ad.off + 4, none⟩ = some (.int .i64 xp) ∧ W'.cell? ⟨ad.block, ad.off + 5, none⟩ = some (.int .i64 yo) ∧ W'.cell? ⟨ad.block, ad.off + 5 + 1, none⟩ = some (.string ys) ∧ W'.cell? ⟨ad.block, ad.off + 5 + 2, none⟩ = some (.int .i64 yn) ∧ W'.cell? ⟨ad.block, ad.off + 5 + 3, none⟩ = some (.slice yq yk yc) ∧ W'.cell? ⟨ad.block, ad.off + 5 + 4, none⟩ = some (.int .i64 yp))
  (first | exact ⟨b3, p0, p1, p2, p3, p4, r0, r1, r2, r3, r4⟩ | exact ⟨hF.cells b3, hF.cells p0, hF.cells p1, hF.cells p2, hF.cells p3, hF.cells p4, hF.cells r0, hF.cells r1, hF.cells r2, hF.cells r3, hF.cells r4⟩ | exact ⟨hG.cells (hF.cells b3), hG.cells (hF.cells p0), hG.cells (hF.cells p1), hG.cells (hF.cells p2), hG.cells (hF.cells p3), hG.cells (hF.cells p4), hG.cells (hF.cells r0), hG.cells (hF.cells r1), hG.cells (hF.cells r2), hG.cells (hF.cells r3), hG.cells (hF.cells r4)⟩)
  (first
   | (go_at_call 39; with_reducible refine (HT.out _ (by first | exact HF.out.drew | exact HF.out)).mono ?_; rintro e V2 ⟨rfl, hF⟩)
   | (go_at_call 39; with_reducible refine (HU.out _ (HF.out.drew.trans0 hF)).mono ?_; rintro e V3 ⟨rfl, hG⟩))
 have HF := Lib.hid ((HF.out.drew.trans0 hF).trans0 hG)
 clear hF hG HT HU
 go_wp2_with fail
 refine bodyPost_ret (results_tmp rfl _ _ _) rfl ?_
 rw [HE.out]
 exact ⟨rfl, HF.out⟩
set_option maxHeartbeats 4000000 in
set_option maxRecDepth 100000 in
theorem text_14 (w : World) (s : ByteArray) (n p : Int) (c : Nat) (asked : Int) (hs : s.size ≤ 100000000) (hl : ¬ Pol.level 14 < asked) (ad : Addr) (x y : Ex) (xo : Int) (xs : ByteArray) (xn : Int) (xq : Option Addr) (xk xc : Nat) (xp : Int) (yo : Int) (ys : ByteArray) (yn : Int) (yq : Option Addr) (yk yc : Nat) (yp : Int) (h5x : Five w (ad) [.int .i64 xo, .string xs, .int .i64 xn, .slice xq xk xc, .int .i64 xp]) (h5y : Five w (⟨ad.block, ad.off + 5, none⟩) [.int .i64 yo, .string ys, .int .i64 yn, .slice yq yk yc, .int .i64 yp]) (hT : ∀ W, Fr [] w W → Calls Tryz.prog 39 #[.agg #[.int .i64 xo, .string xs, .int .i64 xn, .slice xq xk xc, .int .i64 xp], .int .i64 5] W fun e w' => e = .returned (.string (ba (Ex.text x 5))) ∧ Fr [] W w') (hU : ∀ W, Fr [] w W → Calls Tryz.prog 39 #[.agg #[.int .i64 yo, .string ys, .int .i64 yn, .slice yq yk yc, .int .i64 yp], .int .i64 5] W fun e w' => e = .returned (.string (ba (Ex.text y 5))) ∧ Fr [] W w') (hlen : (Ex.body 14 s n [x, y]).length < 1000000000) :
  Calls Tryz.prog 39 #[.agg #[.int .i64 14, .string s, .int .i64 n, .slice (some ad) 2 c, .int .i64 p], .int .i64 asked] w fun e w' => e = .returned (.string (ba (Ex.body 14 s n [x, y]))) ∧ Fr [] w w' := by
 obtain ⟨_, _, _, _, _, hv, x0, x1, x2, x3, x4⟩ := h5x
 simp only [List.cons.injEq, and_true] at hv
 obtain ⟨rfl, rfl, rfl, rfl, rfl⟩ := hv
 have hx0 := Lib.hid x0
 have hx1 := Lib.hid x1
 have hx2 := Lib.hid x2
 have hx3 := Lib.hid x3
 have hx4 := Lib.hid x4
 clear x0 x1 x2 x3 x4
 obtain ⟨_, _, _, _, _, hv, y0, y1, y2, y3, y4⟩ := h5y
 simp only [List.cons.injEq, and_true] at hv
 obtain ⟨rfl, rfl, rfl, rfl, rfl⟩ := hv
 have hy0 := Lib.hid y0
 have hy1 := Lib.hid y1
 have hy2 := Lib.hid y2
 have hy3 := Lib.hid y3
 have hy4 := Lib.hid y4
 clear y0 y1 y2 y3 y4
 have HT := Lib.hid hT
 have HU := Lib.hid hU
 obtain ⟨T, hTT⟩ : ∃ T, ba (Ex.text x 5) = T := ⟨_, rfl⟩
 obtain ⟨U, hUU⟩ : ∃ U, ba (Ex.text y 5) = U := ⟨_, rfl⟩
 have HN : Hid (nats T = Ex.text x 5) := by show _ = _; rw [← hTT]; exact nats_ba _ (Ex.text_lt x 5)
 have HM : Hid (nats U = Ex.text y 5) := by show _ = _; rw [← hUU]; exact nats_ba _ (Ex.text_lt y 5)
 simp only [hTT] at HT
 simp only [hUU] at HU
 have hts : T.size + U.size ≤ 1000000000 := by
  rw [Ex.body_two s n x y (by decide) (by decide), List.length_append, List.length_append] at hlen
  rw [← nats_length, ← nats_length, HN.out, HM.out]
  have e2 : Ex.lo 14 = 5 := rfl
  have e3 : Ex.hi 14 = 5 := rfl
  rw [e2, e3] at hlen
  omega
 have ht1 : T.size ≤ 1000000000 := by omega
 have ht2 : U.size ≤ 1000000000 := by omega
 have HE : Hid (ba (Ex.body 14 s n [x, y]) = T ++ ⟨#[32]⟩ ++ ⟨#[104, 97, 115]⟩ ++ ⟨#[32]⟩ ++ U) := (ba_of (by rw [Ex.body_two s n x y (by decide) (by decide)]; simp only [nats_append, HN.out, HM.out, List.append_assoc]; rfl)).symm
 clear hT hU hlen hTT hUU
 have z0 : ¬ 9223372036854775807 < T.size + 1 := (by omega); have z1 : ¬ 9223372036854775807 < T.size + 1 + 3 := (by omega); have z2 : ¬ 9223372036854775807 < T.size + 1 + 3 + 1 := (by omega); have z3 : ¬ 9223372036854775807 < T.size + 1 + 3 + 1 + U.size := (by omega); have z4 : ¬ 9223372036854775807 < T.size + 4 := (by omega); have z5 : ¬ 9223372036854775807 < T.size + 5 := (by omega); have z6 : ¬ 9223372036854775807 < T.size + 5 + U.size := (by omega)
 have HQ := Lib.hid (fun W => ref_quote2 W s hs)
 have HBI := Lib.hid (fun W => ref_bind W 14 (by omega) (by omega))
 go_enter Tryz.func39, Tryz.ntmps39
 go_upto_region 1 with fail
 refine wp_fresh (fun V => V.heap[w.heap.size]? = some (.cells #[.int .i64 14, .string s, .int .i64 n, .slice (some ad) 2 c, .int .i64 p] 42 (0, 0)) ∧ Fr [] w V) ⟨heap_alloc_last _ _, (Fr.refl _ _).alloc _⟩ ?_
 rintro V0 ⟨hr, hF⟩
 have HF := Lib.hid hF
 have HB := Lib.hid hr
 have bf : ∀ i, V0.frozen? ⟨(w.heap.size), i, none⟩ = false := fun i => Lib.frozen_of_heap hr i
 have b0 : V0.cell? ⟨(w.heap.size), 0, none⟩ = some (.int .i64 14) := by rw [Lib.cell_of_heap hr]; rfl
 have b1 : V0.cell? ⟨(w.heap.size), 1, none⟩ = some (.string s) := by rw [Lib.cell_of_heap hr]; rfl
 have b2 : V0.cell? ⟨(w.heap.size), 2, none⟩ = some (.int .i64 n) := by rw [Lib.cell_of_heap hr]; rfl
 clear hr hF
 go_wp2_with fail
 refine (HBI.out _).mono ?_
 rintro e w1 ⟨rfl, rfl⟩
 go_wp2_with fail
 refine (HQ.out _).mono ?_
 rintro e V ⟨rfl, hF⟩
 have HF := Lib.hid (HF.out.trans0 hF)
 have hr := hF.row HB.out (by simp)
 have HB := Lib.hid hr
 clear b0 b1 b2 bf hF HQ HBI
 have bf : ∀ i, V.frozen? ⟨(w.heap.size), i, none⟩ = false := fun i => Lib.frozen_of_heap hr i
 have b0 : V.cell? ⟨(w.heap.size), 0, none⟩ = some (.int .i64 14) := by rw [Lib.cell_of_heap hr]; rfl
 have b1 : V.cell? ⟨(w.heap.size), 1, none⟩ = some (.string s) := by rw [Lib.cell_of_heap hr]; rfl
 have b2 : V.cell? ⟨(w.heap.size), 2, none⟩ = some (.int .i64 n) := by rw [Lib.cell_of_heap hr]; rfl
 have b3 : V.cell? ⟨(w.heap.size), 3, none⟩ = some (.slice (some ad) 2 c) := by rw [Lib.cell_of_heap hr]; rfl
 have b4 : V.cell? ⟨(w.heap.size), 4, none⟩ = some (.int .i64 p) := by rw [Lib.cell_of_heap hr]; rfl
 have hlt0 : w.heap.size < V.heap.size := row_lt hr
 clear hr
 have p0 := HF.out.cells hx0.out
 have p1 := HF.out.cells hx1.out
 have p2 := HF.out.cells hx2.out
 have p3 := HF.out.cells hx3.out
 have p4 := HF.out.cells hx4.out
 have r0 := HF.out.cells hy0.out
 have r1 := HF.out.cells hy1.out
 have r2 := HF.out.cells hy2.out
 have r3 := HF.out.cells hy3.out
 have r4 := HF.out.cells hy4.out
 go_wp2_with fail
 refine wp_fresh (fun V1 => Fr [] V V1) ((Fr.refl _ _).alloc _) ?_; rintro V1 hF9; have HF := Lib.hid (HF.out.trans0 hF9); have b3 := hF9.cells b3; have p0 := hF9.cells p0; have r0 := hF9.cells r0; have p1 := hF9.cells p1; have r1 := hF9.cells r1; have p2 := hF9.cells p2; have r2 := hF9.cells r2; have p3 := hF9.cells p3; have r3 := hF9.cells r3; have p4 := hF9.cells p4; have r4 := hF9.cells r4; clear hF9
 go_region_held3 (fun W' => W'.cell? ⟨w.heap.size, 3, none⟩ = some (.slice (some ad) 2 c) ∧ W'.cell? ad = some (.int .i64 xo) ∧ W'.cell? ⟨ad.block, ad.off + 1, none⟩ = some (.string xs) ∧ W'.cell? ⟨ad.block, ad.off + 2, none⟩ = some (.int .i64 xn) ∧ W'.cell? ⟨ad.block, ad.off + 3, none⟩ = some (.slice xq xk xc) ∧ W'.cell? ⟨ad.block, ad.off + 4, none⟩ = some (.int .i64 xp) ∧ W'.cell? ⟨ad.block, ad.off + 5, none⟩ = some (.int .i64 yo) ∧ W'.cell? ⟨ad.block, ad.off + 5 + 1, none⟩ = some (.string ys) ∧ W'.cell? ⟨ad.block, ad.off + 5 + 2, none⟩ = some (.int .i64 yn) ∧ W'.cell? ⟨ad.block, ad.off + 5 + 3, none⟩ = some (.slice yq yk yc) ∧ W'.cell? ⟨ad.block, ad.off + 5 + 4, none⟩ = some (.int .i64 yp))
  (first | exact ⟨b3, p0, p1, p2, p3, p4, r0, r1, r2, r3, r4⟩ | exact ⟨hF.cells b3, hF.cells p0, hF.cells p1, hF.cells p2, hF.cells p3, hF.cells p4, hF.cells r0, hF.cells r1, hF.cells r2, hF.cells r3, hF.cells r4⟩ | exact ⟨hG.cells (hF.cells b3), hG.cells (hF.cells p0), hG.cells (hF.cells p1), hG.cells (hF.cells p2), hG.cells (hF.cells p3), hG.cells (hF.cells p4), hG.cells (hF.cells r0), hG.cells (hF.cells r1), hG.cells (hF.cells r2), hG.cells (hF.cells r3), hG.cells (hF.cells r4)⟩)
  (first
   | (go_at_call 39; with_reducible refine (HT.out _ (by first | exact HF.out.drew | exact HF.out)).mono ?_; rintro e V2 ⟨rfl, hF⟩)
   | (go_at_call 39; with_reducible refine (HU.out _ (HF.out.drew.trans0 hF)).mono ?_; rintro e V3 ⟨rfl, hG⟩))
 have HF := Lib.hid ((HF.out.drew.trans0 hF).trans0 hG)
 clear hF hG HT HU
 go_wp2_with fail
 refine bodyPost_ret (results_tmp rfl _ _ _) rfl ?_
 rw [HE.out]
 exact ⟨rfl, HF.out⟩
end Go.Proofs.YtgklmpooonnmiaaGreatDoor
