/-
  Lemmas and contracts that the proofs over this seat use (RefText4, RefText, RefKept, RefSmall); no statement of the seat is claimed in this text, and nothing is assumed in it.
-/
import Derived.Test.YtgklmpooonnmiaaGreatDoorH27
import Derived.Test.YtgklmpooonnmiaaGreatDoorH13
import Derived.Test.YtgklmpooonnmiaaGreatDoorH1
import Derived.Deep.LoopGhost
import Derived.Test.YtgklmpooonnmiaaGreatDoorH6
set_option linter.unusedVariables false
set_option linter.unusedSimpArgs false
namespace Go.Proofs.YtgklmpooonnmiaaGreatDoor
open Go.RowKit
def Ex.inn : List Ex → List Nat
 | [] => []
 | b :: r => Ex.text b 5 ++ Ex.more r
theorem Ex.inn_snoc (r : List Ex) (x : Ex) : Ex.inn (r ++ [x]) = Ex.inn r ++ ((if r.length = 0 then [] else [44, 32]) ++ Ex.text x 5) := by
 cases r with
 | nil => rw [List.nil_append, Ex.inn, Ex.inn, Ex.more]; simp
 | cons y r => rw [List.cons_append, Ex.inn, Ex.inn, Ex.more_snoc]; simp
theorem Ex.inn_take {L : List Ex} {k : Nat} {x : Ex} (h : L[k]? = some x) : Ex.inn (L.take (k + 1)) = Ex.inn (L.take k) ++ ((if k = 0 then [] else [44, 32]) ++ Ex.text x 5) := by
 obtain ⟨h1, rfl⟩ := List.getElem?_eq_some_iff.1 h
 rw [List.take_succ_eq_append_getElem h1, Ex.inn_snoc, List.length_take, Nat.min_eq_left (by omega)]
theorem Ex.body_inn (s : ByteArray) (n : Int) (a b : Ex) (r : List Ex) : Ex.body 13 s n (a :: b :: r) = Ex.text a 5 ++ ([32, 105, 110, 32, 91] ++ (Ex.inn (b :: r) ++ [93])) := by
 rw [Ex.body, if_neg (by decide), if_pos rfl, Ex.rest, if_pos rfl, Ex.inn]
 simp
set_option maxHeartbeats 4000000 in
set_option maxRecDepth 100000 in
theorem text_13 (w : World) (s : ByteArray) (n p : Int) (c : Nat) (asked : Int) (hs : s.size ≤ 100000000) (hl : ¬ Pol.level 13 < asked) (ad : Addr) (x : Ex) (r : List Ex) (h1 : 1 ≤ r.length)
  (xo : Int) (xs : ByteArray) (xn : Int) (xq : Option Addr) (xk xc : Nat) (xp : Int) (h5x : Five w ad [.int .i64 xo, .string xs, .int .i64 xn, .slice xq xk xc, .int .i64 xp]) (hT : ∀ W, Fr [] w W → Calls Tryz.prog 39 #[.agg #[.int .i64 xo, .string xs, .int .i64 xn, .slice xq xk xc, .int .i64 xp], .int .i64 5] W fun e w' => e = .returned (.string (ba (Ex.text x 5))) ∧ Fr [] W w')
  (hR : ∀ i y, r[i]? = some y → ∃ (yo : Int) (ys : ByteArray) (yn : Int) (yq : Option Addr) (yk yc : Nat) (yp : Int), Five w (ad.add ((i + 1) * 5)) [.int .i64 yo, .string ys, .int .i64 yn, .slice yq yk yc, .int .i64 yp] ∧ ∀ W, Fr [] w W → Calls Tryz.prog 39 #[.agg #[.int .i64 yo, .string ys, .int .i64 yn, .slice yq yk yc, .int .i64 yp], .int .i64 5] W fun e w' => e = .returned (.string (ba (Ex.text y 5))) ∧ Fr [] W w')
  (hm : r.length + 1 ≤ 9223372036854775807) (hlen : (Ex.body 13 s n (x :: r)).length < 1000000000) :
  Calls Tryz.prog 39 #[.agg #[.int .i64 13, .string s, .int .i64 n, .slice (some ad) (r.length + 1) c, .int .i64 p], .int .i64 asked] w fun e w' => e = .returned (.string (ba (Ex.body 13 s n (x :: r)))) ∧ Fr [] w w' := by
 obtain ⟨_, _, _, _, _, hv, x0, x1, x2, x3, x4⟩ := h5x
 simp only [List.cons.injEq, and_true] at hv
 obtain ⟨rfl, rfl, rfl, rfl, rfl⟩ := hv
 have hx0 := Lib.hid x0
 have hx1 := Lib.hid x1
 have hx2 := Lib.hid x2
 have hx3 := Lib.hid x3
 have hx4 := Lib.hid x4
 clear x0 x1 x2 x3 x4
 have HT := Lib.hid hT
 have HR := Lib.hid hR
 obtain ⟨N, hN⟩ : ∃ N, r.length + 1 = N := ⟨_, rfl⟩
 have HBD : Hid (Ex.body 13 s n (x :: r) = Ex.text x 5 ++ ([32, 105, 110, 32, 91] ++ (Ex.inn r ++ [93]))) := by
  show _ = _
  cases r with
  | nil => simp at h1
  | cons y r => exact Ex.body_inn s n x y r
 have HLEN : Hid ((Ex.text x 5).length + (Ex.inn r).length + 6 < 1000000000) := by
  rw [HBD.out] at hlen
  simp only [List.length_append, List.length_cons, List.length_nil] at hlen
  show _ < _
  omega
 obtain ⟨T, hTT⟩ : ∃ T, ba (Ex.text x 5) = T := ⟨_, rfl⟩
 have HN : Hid (nats T = Ex.text x 5) := by show _ = _; rw [← hTT]; exact nats_ba _ (Ex.text_lt x 5)
 rw [hTT] at HT
 have hts : T.size ≤ 1000000000 := by
  rw [← nats_length, HN.out]; have := HLEN.out; omega
 have hN0 : 0 < N := by omega
 have hN1 : 1 ≤ N := by omega
 have HNN : Hid (r.length + 1 = N) := hN
 rw [hN] at hm
 simp only [hN]
 clear hT hlen hTT hR hN h1
 have HQ := Lib.hid (fun W => ref_quote2 W s hs)
 have HBI := Lib.hid (fun W => ref_bind W 13 (by omega) (by omega))
 go_enter Tryz.func39, Tryz.ntmps39
 go_upto_region 1 with fail
 refine wp_fresh (fun V => V.heap[w.heap.size]? = some (.cells #[.int .i64 13, .string s, .int .i64 n, .slice (some ad) N c, .int .i64 p] 42 (0, 0)) ∧ Fr [] w V) ⟨heap_alloc_last _ _, (Fr.refl _ _).alloc _⟩ ?_
 rintro V0 ⟨hr, hF⟩
 have HF := Lib.hid hF
 have HB := Lib.hid hr
 have bf : ∀ i, V0.frozen? ⟨(w.heap.size), i, none⟩ = false := fun i => Lib.frozen_of_heap hr i
 have b0 : V0.cell? ⟨(w.heap.size), 0, none⟩ = some (.int .i64 13) := by rw [Lib.cell_of_heap hr]; rfl
 have b1 : V0.cell? ⟨(w.heap.size), 1, none⟩ = some (.string s) := by rw [Lib.cell_of_heap hr]; rfl
 have b2 : V0.cell? ⟨(w.heap.size), 2, none⟩ = some (.int .i64 n) := by rw [Lib.cell_of_heap hr]; rfl
 clear hr hF
 go_wp2_with fail
 refine (HBI.out _).mono ?_
 rintro e w1 ⟨rfl, rfl⟩
 go_wp2_with fail
 refine (HQ.out _).mono ?_
 rintro e V ⟨rfl, hF⟩
 have HF := Lib.hid (HF.out.trans0 hF)
 have hr := hF.row HB.out (by simp)
 have HB := Lib.hid hr
 clear b0 b1 b2 bf hF HQ HBI
 have bf : ∀ i, V.frozen? ⟨(w.heap.size), i, none⟩ = false := fun i => Lib.frozen_of_heap hr i
 have b0 : V.cell? ⟨(w.heap.size), 0, none⟩ = some (.int .i64 13) := by rw [Lib.cell_of_heap hr]; rfl
 have b1 : V.cell? ⟨(w.heap.size), 1, none⟩ = some (.string s) := by rw [Lib.cell_of_heap hr]; rfl
 have b2 : V.cell? ⟨(w.heap.size), 2, none⟩ = some (.int .i64 n) := by rw [Lib.cell_of_heap hr]; rfl
 have b3 : V.cell? ⟨(w.heap.size), 3, none⟩ = some (.slice (some ad) N c) := by rw [Lib.cell_of_heap hr]; rfl
 have b4 : V.cell? ⟨(w.heap.size), 4, none⟩ = some (.int .i64 p) := by rw [Lib.cell_of_heap hr]; rfl
 have hlt0 : w.heap.size < V.heap.size := row_lt hr
 clear hr
 have y0 := HF.out.cells hx0.out
 have y1 := HF.out.cells hx1.out
 have y2 := HF.out.cells hx2.out
 have y3 := HF.out.cells hx3.out
 have y4 := HF.out.cells hx4.out
 go_wp2_with fail
 refine (HT.out _ HF.out).mono ?_
 rintro e V2 ⟨rfl, hF⟩
 have HF := Lib.hid (HF.out.trans0 hF)
 have hr := hF.row HB.out (by simp)
 have HB := Lib.hid hr
 clear hF HT y0 y1 y2 y3 y4 b0 b1 b2 b3 b4 bf hlt0 hr
 have bf : ∀ i, V2.frozen? ⟨(w.heap.size), i, none⟩ = false := fun i => Lib.frozen_of_heap HB.out i
 have b3 : V2.cell? ⟨(w.heap.size), 3, none⟩ = some (.slice (some ad) N c) := by rw [Lib.cell_of_heap HB.out]; rfl
 go_wp2_with fail
 go_loopg [7, 8] (N - 1) (fun m s7 s8 W => ∃ (k : Nat) (Sx : ByteArray), 1 ≤ k ∧ k ≤ N ∧ m = N - k ∧ s8 = .int .i64 k ∧ s7 = .string Sx ∧ Hid (nats Sx = Ex.text x 5 ++ ([32, 105, 110, 32, 91] ++ Ex.inn (r.take (k - 1)))) ∧ Hid (Fr [] w W) ∧ Hid (W.heap[w.heap.size]? = some (.cells #[.int .i64 13, .string s, .int .i64 n, .slice (some ad) N c, .int .i64 p] 42 (0, 0))))
 case atStart => exact ⟨1, T ++ ⟨#[32, 105, 110, 32, 91]⟩, by omega, by omega, rfl, rfl, rfl, by show nats _ = _; rw [nats_append, HN.out, Nat.sub_self, List.take_zero, Ex.inn, List.append_nil]; rfl, HF.out, HB.out⟩
 case round =>
  clear b3 bf
  obtain ⟨k, Sx, hk1, hk, hmm, rfl, rfl, HSX, HFW, HBW⟩ := hrel
  have HMM := Lib.hid hmm
  have bf : ∀ i, wr.frozen? ⟨(w.heap.size), i, none⟩ = false := fun i => Lib.frozen_of_heap HBW.out i
  have b3 : wr.cell? ⟨(w.heap.size), 3, none⟩ = some (.slice (some ad) N c) := by rw [Lib.cell_of_heap HBW.out]; rfl
  clear hmm
  by_cases hlt : k < N
  ·have hlt' : (k : Int) < (N : Int) := by omega
   have hk0 : (0 : Int) ≤ (k : Int) := by omega
   obtain ⟨y, hy⟩ : ∃ y, r[k - 1]? = some y := ⟨_, List.getElem?_eq_getElem (by have := HNN.out; omega)⟩
   obtain ⟨yo, ys, yn, yq, yk, yc, yp, h5y, hU⟩ := HR.out (k - 1) y hy
   have HI := Lib.hid (Ex.inn_take hy)
   have HGR := Lib.hid (grows_take Ex.inn (fun l x => ⟨_, Ex.inn_snoc l x⟩) r (k - 1 + 1))
   rw [show k - 1 + 1 = k by omega] at h5y
   obtain ⟨_, _, _, _, _, hv, y0, y1, y2, y3, y4⟩ := h5y
   simp only [List.cons.injEq, and_true] at hv
   obtain ⟨rfl, rfl, rfl, rfl, rfl⟩ := hv
   have y0 := HFW.out.cells y0
   have y1 := HFW.out.cells y1
   have y2 := HFW.out.cells y2
   have y3 := HFW.out.cells y3
   have y4 := HFW.out.cells y4
   obtain ⟨U, hUU⟩ : ∃ U, ba (Ex.text y 5) = U := ⟨_, rfl⟩
   have HNU : Hid (nats U = Ex.text y 5) := by show _ = _; rw [← hUU]; exact nats_ba _ (Ex.text_lt y 5)
   rw [hUU] at hU
   have HU := Lib.hid hU
   have hsz : Sx.size + 2 + U.size ≤ 1000000002 := by
    have h1 := HGR.out
    rw [HI.out, List.length_append, List.length_append] at h1
    rw [← nats_length, ← nats_length, HSX.out, HNU.out]
    have h2 := HLEN.out
    simp only [List.length_append, List.length_cons, List.length_nil]
    omega
   clear hy hU hUU
   by_cases hk2 : k > 1
   ·have hk2' : (k : Int) > 1 := by omega
    have HE2 : Hid (nats (Sx ++ ⟨#[44, 32]⟩ ++ U) = Ex.text x 5 ++ ([32, 105, 110, 32, 91] ++ Ex.inn (r.take (k + 1 - 1)))) := by
     show _ = _
     rw [nats_append, nats_append, HSX.out, HNU.out, show k + 1 - 1 = k - 1 + 1 by omega, HI.out, if_neg (by omega)]
     simp only [List.append_assoc]
     rfl
    go_wp2_with fail
    refine (HU.out _ HFW.out).mono ?_
    rintro e V3 ⟨rfl, hF⟩
    have HFW2 := Lib.hid (HFW.out.trans0 hF)
    have HBW2 := Lib.hid (hF.row HBW.out (by simp))
    clear hF HU y0 y1 y2 y3 y4 b3 bf
    go_wp2_with fail
    go_roundg (N - (k + 1))
    case measure => have := HMM.out; omega
    case rel => exact ⟨k + 1, _, by omega, by omega, rfl, by go_num, rfl, HE2.out, HFW2.out, HBW2.out⟩
   ·have hk2' : ¬ (k : Int) > 1 := by omega
    have HE2 : Hid (nats (Sx ++ U) = Ex.text x 5 ++ ([32, 105, 110, 32, 91] ++ Ex.inn (r.take (k + 1 - 1)))) := by
     show _ = _
     rw [nats_append, HSX.out, HNU.out, show k + 1 - 1 = k - 1 + 1 by omega, HI.out, if_pos (by omega)]
     simp only [List.append_assoc, List.nil_append]
    go_wp2_with fail
    refine (HU.out _ HFW.out).mono ?_
    rintro e V3 ⟨rfl, hF⟩
    have HFW2 := Lib.hid (HFW.out.trans0 hF)
    have HBW2 := Lib.hid (hF.row HBW.out (by simp))
    clear hF HU y0 y1 y2 y3 y4 b3 bf
    go_wp2_with fail
    go_roundg (N - (k + 1))
    case measure => have := HMM.out; omega
    case rel => exact ⟨k + 1, _, by omega, by omega, rfl, by go_num, rfl, HE2.out, HFW2.out, HBW2.out⟩
  ·have hlt' : ¬ (k : Int) < (N : Int) := by omega
   have HE : Hid (ba (Ex.body 13 s n (x :: r)) = Sx ++ ⟨#[93]⟩) := (ba_of (by
    have hkr : k - 1 = r.length := by have := HNN.out; omega
    rw [nats_append, HSX.out, HBD.out, hkr, List.take_length]
    simp only [List.append_assoc]
    rfl)).symm
   have hsz : Sx.size ≤ 1000000000 := by
    have h1 := grows_take Ex.inn (fun l x => ⟨_, Ex.inn_snoc l x⟩) r (k - 1)
    rw [← nats_length, HSX.out]
    have h2 := HLEN.out
    simp only [List.length_append, List.length_cons, List.length_nil]
    omega
   go_wp2_with fail
   refine bodyPost_ret (results_tmp rfl _ _ _) rfl ?_
   rw [HE.out]
   exact ⟨rfl, HFW.out⟩
end Go.Proofs.YtgklmpooonnmiaaGreatDoor

namespace Go.Proofs.YtgklmpooonnmiaaGreatDoor
open Go.RowKit
set_option maxHeartbeats 4000000 in
set_option maxRecDepth 100000 in
theorem text_paren (w : World) (op : Int) (s : ByteArray) (n p : Int) (q : Option Addr) (k c : Nat) (asked : Int) (M : List Nat) (h1 : 1 ≤ op) (h14 : op ≤ 14) (hl : Pol.level op < asked)
  (hB : ∀ W, Fr [] w W → Calls Tryz.prog 39 #[.agg #[.int .i64 op, .string s, .int .i64 n, .slice q k c, .int .i64 p], .int .i64 1] W fun e w' => e = .returned (.string (ba M)) ∧ Fr [] W w') (hM : M.length < 1000000000) (hM2 : ∀ y ∈ M, y < 256) :
  Calls Tryz.prog 39 #[.agg #[.int .i64 op, .string s, .int .i64 n, .slice q k c, .int .i64 p], .int .i64 asked] w fun e w' => e = .returned (.string (ba (40 :: (M ++ [41])))) ∧ Fr [] w w' := by
 have HBI := Lib.hid (fun W => ref_bind W op h1 h14)
 have HBD := Lib.hid hB
 obtain ⟨T, hTT⟩ : ∃ T, ba M = T := ⟨_, rfl⟩
 have HN : Hid (nats T = M) := by show _ = _; rw [← hTT]; exact nats_ba _ hM2
 simp only [hTT] at HBD
 have hts : T.size ≤ 1000000000 := by rw [← nats_length, HN.out]; omega
 have HE : Hid (ba (40 :: (M ++ [41])) = ⟨#[40]⟩ ++ T ++ ⟨#[41]⟩) := (ba_of (by rw [nats_append, nats_append, HN.out]; rfl)).symm
 clear hB hM hM2 hTT
 go_enter Tryz.func39, Tryz.ntmps39
 go_upto_region 1 with fail
 refine wp_fresh (fun V => V.heap[w.heap.size]? = some (.cells #[.int .i64 op, .string s, .int .i64 n, .slice q k c, .int .i64 p] 42 (0, 0)) ∧ Fr [] w V) ⟨heap_alloc_last _ _, (Fr.refl _ _).alloc _⟩ ?_
 rintro V0 ⟨hr, hF⟩
 have HF := Lib.hid hF
 have bf : ∀ i, V0.frozen? ⟨(w.heap.size), i, none⟩ = false := fun i => Lib.frozen_of_heap hr i
 have b0 : V0.cell? ⟨(w.heap.size), 0, none⟩ = some (.int .i64 op) := by rw [Lib.cell_of_heap hr]; rfl
 have b1 : V0.cell? ⟨(w.heap.size), 1, none⟩ = some (.string s) := by rw [Lib.cell_of_heap hr]; rfl
 have b2 : V0.cell? ⟨(w.heap.size), 2, none⟩ = some (.int .i64 n) := by rw [Lib.cell_of_heap hr]; rfl
 have b3 : V0.cell? ⟨(w.heap.size), 3, none⟩ = some (.slice q k c) := by rw [Lib.cell_of_heap hr]; rfl
 have b4 : V0.cell? ⟨(w.heap.size), 4, none⟩ = some (.int .i64 p) := by rw [Lib.cell_of_heap hr]; rfl
 clear hr hF
 go_wp2_with fail
 refine (HBI.out _).mono ?_
 rintro e w1 ⟨rfl, rfl⟩
 go_wp2_with fail
 refine (HBD.out _ HF.out).mono ?_
 rintro e V ⟨rfl, hF⟩
 have HF := Lib.hid (HF.out.trans0 hF)
 clear hF b0 b1 b2 b3 b4 bf
 go_wp2_with fail
 refine bodyPost_ret (results_tmp rfl _ _ _) rfl ?_
 rw [HE.out]
 exact ⟨rfl, HF.out⟩
theorem add_zeroT (ad : Addr) : ad.add 0 = ad := by unfold Addr.add; split <;> simp_all
theorem five_next {V : World} {ad : Addr} {vs : List Value} (h : Five V (ad.add (1 * 5)) vs) : Five V ⟨ad.block, ad.off + 5, none⟩ vs := h
theorem ref_Text {w : World} {cs : List Value} {x : Ex} (h : RepA w cs x) : ∀ (W : World) (deep : Nat) (asked : Int), Fr [] w W → Ex.right x deep = true → x.short → (x.text asked).length < 1000000000 →
  Calls Tryz.prog 39 #[.agg cs.toArray, .int .i64 asked] W fun e w' => e = .returned (.string (ba (x.text asked))) ∧ Fr [] W w' := by
 induction h with
 | mk op s n L p q c f hc hm hr hx ih =>
  intro W deep asked hW hright hsh hlen
  rw [Ex.short] at hsh
  have hd : ¬ 200 < deep := by
   intro hd
   rw [Ex.right, if_pos hd] at hright
   cases hright
  rw [Ex.right, if_neg hd, Bool.and_eq_true] at hright
  have hcase := Ex.head_cases hright.1
  have ho : 1 ≤ op ∧ op ≤ 14 := by omega
  -- the parts
  have part : ∀ (V : World) (i : Nat) (y : Ex) (a : Int), Fr [] w V → L[i]? = some y → (y.text a).length < 1000000000 → ∃ (xo : Int) (xs : ByteArray) (xn : Int) (xq : Option Addr) (xk xc : Nat) (xp : Int) (ad : Addr), q = some ad ∧ Five V (ad.add (i * 5)) [.int .i64 xo, .string xs, .int .i64 xn, .slice xq xk xc, .int .i64 xp] ∧
    ∀ U, Fr [] V U → Calls Tryz.prog 39 #[.agg #[.int .i64 xo, .string xs, .int .i64 xn, .slice xq xk xc, .int .i64 xp], .int .i64 a] U fun e w' => e = .returned (.string (ba (y.text a))) ∧ Fr [] U w' := fun V i y a hV hi hy => by
   obtain ⟨ad, hq, hf⟩ := hr i y hi
   obtain ⟨xo, xs, xn, xq, xk, xc, xp, hcs⟩ := (hx i y hi).form
   refine ⟨xo, xs, xn, xq, xk, xc, xp, ad, hq, ?_, fun U hU => ?_⟩
   ·rw [← hcs]; exact hf.fr hV
   ·have := ih i y hi U (deep + 1) a (hV.trans0 hU) (Ex.rights_at hright.2 hi) (Ex.shorts_at hsh.2 hi) hy
    rw [hcs] at this
    exact this
  have body : ∀ (V : World) (a : Int), Fr [] w V → ¬ Pol.level op < a → (Ex.body op s n L).length < 1000000000 →
    Calls Tryz.prog 39 #[.agg #[.int .i64 op, .string s, .int .i64 n, .slice q L.length c, .int .i64 p], .int .i64 a] V fun e w' => e = .returned (.string (ba (Ex.body op s n L))) ∧ Fr [] V w' := by
   intro V a hV hl hb
   rcases hcase with ⟨e, k, hn⟩ | ⟨e, k, hn⟩ | ⟨e, k⟩ | ⟨e, k⟩ | ⟨e, k⟩ | ⟨e, k⟩ | ⟨e, k⟩ | ⟨e, k⟩
   ·subst e
    have hL := List.eq_nil_of_length_eq_zero k
    subst hL
    rcases hn with hn | hn
    ·exact text_1_0 V s n p c a hsh.1 hl q hn
    ·exact text_1_1 V s n p c a hsh.1 hl q hn
   ·subst e
    have hL := List.eq_nil_of_length_eq_zero k
    subst hL
    exact text_2 V s n p c a hsh.1 hl q hn
   ·subst e
    have hL := List.eq_nil_of_length_eq_zero k
    subst hL
    exact text_3 V s n p c a hsh.1 hl q
   ·subst e
    have hL := List.eq_nil_of_length_eq_zero k
    subst hL
    exact text_5 V s n p c a hsh.1 hl q hb
   ·subst e
    have hL := List.eq_nil_of_length_eq_zero k
    subst hL
    exact text_4 V s n p c a hsh.1 hl q
   ·subst e
    obtain ⟨x, hL⟩ := one_of k
    subst hL
    obtain ⟨xo, xs, xn, xq, xk, xc, xp, ad, rfl, h5, hT⟩ := part V 0 x 3 hV rfl (by rw [Ex.body_not, List.length_append] at hb; omega)
    rw [Nat.zero_mul, add_zeroT] at h5
    exact text_6 V s n p c a hsh.1 hl ad x xo xs xn xq xk xc xp h5 hT hb
   ·obtain ⟨x, y, hL⟩ := two_of k
    subst hL
    have hne6 : op ≠ 6 := by omega
    have hne13 : op ≠ 13 := by omega
    have hlx : (x.text (Ex.lo op)).length < 1000000000 ∧ (y.text (Ex.hi op)).length < 1000000000 := by
     rw [Ex.body_two s n x y hne6 hne13, List.length_append, List.length_append] at hb
     omega
    obtain ⟨xo, xs, xn, xq, xk, xc, xp, ad, rfl, h5, hT⟩ := part V 0 x (Ex.lo op) hV rfl hlx.1
    obtain ⟨yo, ys, yn, yq, yk, yc, yp, ad2, hq2, h52, hU⟩ := part V 1 y (Ex.hi op) hV rfl hlx.2
    cases hq2
    rw [Nat.zero_mul, add_zeroT] at h5
    have h53 := five_next h52
    by_cases e7 : op = 7
    ·subst e7
     exact text_7 V s n p c a hsh.1 hl ad x y xo xs xn xq xk xc xp yo ys yn yq yk yc yp h5 h53 hT hU hb
    by_cases e8 : op = 8
    ·subst e8
     exact text_8 V s n p c a hsh.1 hl ad x y xo xs xn xq xk xc xp yo ys yn yq yk yc yp h5 h53 hT hU hb
    by_cases e9 : op = 9
    ·subst e9
     exact text_9 V s n p c a hsh.1 hl ad x y xo xs xn xq xk xc xp yo ys yn yq yk yc yp h5 h53 hT hU hb
    by_cases e10 : op = 10
    ·subst e10
     exact text_10 V s n p c a hsh.1 hl ad x y xo xs xn xq xk xc xp yo ys yn yq yk yc yp h5 h53 hT hU hb
    by_cases e11 : op = 11
    ·subst e11
     exact text_11 V s n p c a hsh.1 hl ad x y xo xs xn xq xk xc xp yo ys yn yq yk yc yp h5 h53 hT hU hb
    by_cases e12 : op = 12
    ·subst e12
     exact text_12 V s n p c a hsh.1 hl ad x y xo xs xn xq xk xc xp yo ys yn yq yk yc yp h5 h53 hT hU hb
    obtain rfl : op = 14 := by omega
    exact text_14 V s n p c a hsh.1 hl ad x y xo xs xn xq xk xc xp yo ys yn yq yk yc yp h5 h53 hT hU hb
   ·subst e
    obtain ⟨x, r, hL⟩ : ∃ x r, L = x :: r := by
     cases L with
     | nil => simp at k
     | cons x r => exact ⟨x, r, rfl⟩
    subst hL
    have hr1 : 1 ≤ r.length := by simp at k; omega
    have hin : Ex.body 13 s n (x :: r) = Ex.text x 5 ++ ([32, 105, 110, 32, 91] ++ (Ex.inn r ++ [93])) := by
     cases r with
     | nil => simp at hr1
     | cons b r => exact Ex.body_inn s n x b r
    have hb2 := hb
    rw [hin] at hb2
    simp only [List.length_append, List.length_cons, List.length_nil] at hb2
    obtain ⟨xo, xs, xn, xq, xk, xc, xp, ad, rfl, h5, hT⟩ := part V 0 x 5 hV rfl (by omega)
    rw [Nat.zero_mul, add_zeroT] at h5
    refine text_13 V s n p c a hsh.1 hl ad x r hr1 xo xs xn xq xk xc xp h5 hT (fun i y hi => ?_) (by simp only [List.length_cons] at hc; unfold maxLen at hm; omega) hb
    have hyl : (y.text 5).length < 1000000000 := by
     have h1 := grows_take Ex.inn (fun l x => ⟨_, Ex.inn_snoc l x⟩) r (i + 1)
     rw [Ex.inn_take hi, List.length_append, List.length_append] at h1
     omega
    obtain ⟨yo, ys, yn, yq, yk, yc, yp, ad2, hq2, h52, hU⟩ := part V (i + 1) y 5 hV (by simpa using hi) hyl
    cases hq2
    exact ⟨yo, ys, yn, yq, yk, yc, yp, h52, hU⟩
  rw [Ex.text] at hlen ⊢
  by_cases hl : Pol.level op < asked
  ·rw [if_pos hl] at hlen ⊢
   have hbl : (Ex.body op s n L).length < 1000000000 := by simp only [List.length_cons, List.length_append, List.length_nil] at hlen; omega
   refine text_paren W op s n p q L.length c asked (Ex.body op s n L) ho.1 ho.2 hl (fun V hV => body V 1 (hW.trans0 hV) (by have := Pol.level_pos op; omega) hbl) hbl (Ex.body_lt op s n L)
  ·rw [if_neg hl] at hlen ⊢
   exact body W asked hW hl hlen
end Go.Proofs.YtgklmpooonnmiaaGreatDoor

namespace Go.Proofs.YtgklmpooonnmiaaGreatDoor
open Go.RowKit
def keptW : List ByteArray := [⟨#[112, 101, 114, 109, 105, 116]⟩, ⟨#[100, 101, 110, 121]⟩, ⟨#[119, 104, 101, 110]⟩, ⟨#[97, 110, 100]⟩, ⟨#[111, 114]⟩, ⟨#[110, 111, 116]⟩, ⟨#[105, 110]⟩, ⟨#[104, 97, 115]⟩, ⟨#[116, 114, 117, 101]⟩, ⟨#[102, 97, 108, 115, 101]⟩, ⟨#[99, 108, 97, 105, 109]⟩]
theorem kept_any (s : ByteArray) : Pol.kept s = keptW.any fun y => y.toList == s.toList := by
 have e : Pol.words = keptW.map (·.toList) := by kernel_rfl
 unfold Pol.kept
 rw [e, List.contains_eq_any_beq, List.any_map]
 congr 1
 funext y
 exact Bool.eq_iff_iff.2 ⟨fun h => by simpa using (beq_iff_eq.1 h).symm, fun h => by simpa using (beq_iff_eq.1 h).symm⟩
set_option maxHeartbeats 4000000 in
set_option maxRecDepth 100000 in
theorem ref_Kept (w : World) (s : ByteArray) : Calls Tryz.prog 89 #[.string s] w fun e w' => e = .returned (.bool (Pol.kept s)) ∧ Fr [] w w' := by
 have HK := Lib.hid (kept_any s)
 go_enter Tryz.func89, Tryz.ntmps89
 go_wp2_with fail
 have HR : Hid ((w.alloc (.cells (keptW.map Value.string).toArray 9)).heap[w.heap.size]? = some (.cells (keptW.map Value.string).toArray 9 (0, 0))) := heap_alloc_last _ _
 refine wp_fresh (fun V => V.heap[w.heap.size]? = some (.cells (keptW.map Value.string).toArray 9 (0, 0)) ∧ Fr [] w V) ⟨HR.out, (Fr.refl _ _).alloc _⟩ ?_
 rintro V ⟨hr, hF⟩
 have HF := Lib.hid hF
 have HR := Lib.hid hr
 clear hr hF
 go_loopg [4] 11 (fun m s4 W => ∃ (k : Nat), k ≤ 11 ∧ m = 11 - k ∧ s4 = .int .i64 k ∧ V = W ∧ Hid (∀ i, i < k → ∀ y, keptW[i]? = some y → ¬ y.toList = s.toList))
 case atStart => exact ⟨0, by omega, by omega, rfl, rfl, fun i hi => by omega⟩
 case round =>
  obtain ⟨k, hk, hm, rfl, rfl, HN⟩ := hrel
  have HM := Lib.hid hm
  clear hm
  by_cases hlt : k < 11
  ·have hlt' : (k : Int) < 11 := by omega
   have hk0 : (0 : Int) ≤ (k : Int) := by omega
   obtain ⟨y, hy⟩ : ∃ y, keptW[k]? = some y := ⟨_, List.getElem?_eq_getElem (show k < keptW.length from hlt)⟩
   have c0 : V.cell? ⟨w.heap.size, k, none⟩ = some (.string y) := by
    rw [Lib.cell_of_heap HR.out]
    simp [hy]
   have HY := Lib.hid hy
   clear hy
   by_cases he : y.toList = s.toList
   ·have he2 : (y.toList == s.toList) = true := beq_iff_eq.2 he
    have HE : Hid (Pol.kept s = true) := by
     show _ = _
     rw [HK.out, List.any_eq_true]
     exact ⟨y, List.mem_of_getElem? HY.out, he2⟩
    clear he
    go_wp2_with fail
    go_ret
    rw [HE.out]
    exact ⟨rfl, HF.out⟩
   ·have he2 : (y.toList == s.toList) = false := beq_eq_false_iff_ne.2 he
    have HN2 : Hid (∀ i, i < k + 1 → ∀ y, keptW[i]? = some y → ¬ y.toList = s.toList) := fun i hi z hz => by
     by_cases h : i < k
     ·exact HN.out i h z hz
     ·obtain rfl : i = k := by omega
      rw [HY.out] at hz
      cases hz
      exact he
    clear he
    go_wp2_with fail
    go_roundg (11 - (k + 1))
    case measure => have := HM.out; omega
    case rel => exact ⟨k + 1, by omega, rfl, by go_num, rfl, HN2.out⟩
  ·have hlt' : ¬ (k : Int) < 11 := by omega
   have HE : Hid (Pol.kept s = false) := by
    show _ = _
    rw [HK.out, List.any_eq_false]
    intro y hy
    obtain ⟨i, hi, rfl⟩ := List.mem_iff_getElem.1 hy
    have hi2 : i < 11 := hi
    have := HN.out i (by omega) _ (List.getElem?_eq_getElem hi)
    simpa using this
   go_wp2_with fail
   go_ret
   rw [HE.out]
   exact ⟨rfl, HF.out⟩
end Go.Proofs.YtgklmpooonnmiaaGreatDoor

namespace Go.Proofs.YtgklmpooonnmiaaGreatDoor
open Go.RowKit
theorem ref11_small (c : Nat) (w : World) :
  Calls Tryz.prog 49 #[.int .u8 c] w fun e w' => e = .returned (.bool (Lex.small c)) ∧ w = w' := by
 by_cases h1 : 97 ≤ c
 ·have h1' : (c : Int) ≥ 97 := by omega
  by_cases h2 : c ≤ 122
  ·have h2' : (c : Int) ≤ 122 := by omega
   have e : Lex.small c = true := by simp [Lex.small, h1, h2]
   rw [e]
   clear e h1 h2
   go_enter Tryz.func49, Tryz.ntmps49
   go_wp2
   go_ret
   exact ⟨rfl, rfl⟩
  ·have h2' : ¬ (c : Int) ≤ 122 := by omega
   have e : Lex.small c = false := by simp [Lex.small, h2]; omega
   have q : ((c : Int) == 95) = false := beq_eq_false_iff_ne.2 (by omega)
   rw [e]
   clear e h1 h2
   go_enter Tryz.func49, Tryz.ntmps49
   go_wp2
   go_ret
   exact ⟨rfl, rfl⟩
 ·have h1' : ¬ (c : Int) ≥ 97 := by omega
  by_cases h2 : c = 95
  ·have e : Lex.small c = true := by simp [Lex.small, h2]
   have q : ((c : Int) == 95) = true := beq_iff_eq.2 (by omega)
   rw [e]
   clear e h1 h2
   go_enter Tryz.func49, Tryz.ntmps49
   go_wp2
   go_ret
   exact ⟨rfl, rfl⟩
  ·have e : Lex.small c = false := by simp [Lex.small, h1, h2]
   have q : ((c : Int) == 95) = false := beq_eq_false_iff_ne.2 (by omega)
   rw [e]
   clear e h1 h2
   go_enter Tryz.func49, Tryz.ntmps49
   go_wp2
   go_ret
   exact ⟨rfl, rfl⟩
end Go.Proofs.YtgklmpooonnmiaaGreatDoor
