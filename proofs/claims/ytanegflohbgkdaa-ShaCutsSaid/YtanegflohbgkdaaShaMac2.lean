/-
  Lemmas and contracts that the proofs over this seat use (part ShaMac2); no statement of the seat is claimed in this text, and nothing is assumed in it.
-/
import Derived.Test.YtanegflohbgkdaaShaMac
set_option linter.unusedVariables false
set_option linter.unusedSimpArgs false
namespace Go.Proofs.Ytanegflohbgkdaa
open Go.RowKit
def mixk (K : List Nat) (x k : Nat) : List Nat := (List.range 64).map fun i => if i < k then Sha.g K i ^^^ x else Sha.g K i
theorem mixk_length (K : List Nat) (x k : Nat) : (mixk K x k).length = 64 := by simp [mixk]
theorem mixk_end (K : List Nat) (x : Nat) : mixk K x 64 = Sha.mix x K := by
  unfold mixk Sha.mix
  apply List.map_congr_left
  intro i hi
  rw [if_pos (by simpa using hi)]
theorem mixk_zero (K : List Nat) (x : Nat) (hK : K.length ≤ 64) : splice (zs 64) 0 K = mixk K x 0 := by
  apply List.ext_getElem
  · rw [length_splice _ _ _ (by simpa [zs] using hK), mixk_length]; simp [zs]
  · intro i h1 h2
    rw [mixk_length] at h2
    simp only [splice, mixk, List.take_zero, List.nil_append, Nat.zero_add, List.getElem_map, List.getElem_range, Nat.not_lt_zero, if_false, Sha.g]
    by_cases hi : i < K.length
    · rw [List.getElem_append_left hi, List.getD_eq_getElem?_getD, List.getElem?_eq_getElem hi]; rfl
    · rw [List.getElem_append_right (by omega), List.getD_eq_getElem?_getD, List.getElem?_eq_none (by omega), List.getElem_drop]; exact List.getElem_replicate _
theorem mixk_succ (K : List Nat) (x k : Nat) (hk : k < 64) : mixk K x (k + 1) = (mixk K x k).set k (Sha.g K k ^^^ x) := by
  apply List.ext_getElem
  · simp [mixk]
  · intro i h1 h2
    simp only [mixk, List.getElem_map, List.getElem_range, List.getElem_set]
    by_cases h : k = i
    · subst h; simp
    · by_cases h' : i < k
      · simp [h, h', show i < k + 1 by omega]
      · simp [h, h', show ¬ i < k + 1 by omega]
theorem mixk_getD (K : List Nat) (x k : Nat) (hk : k < 64) : (mixk K x k).getD k 0 = Sha.g K k := by
  simp [mixk, List.getD, hk]
theorem g_lt {K : List Nat} (hK : ∀ x ∈ K, x < 256) (i : Nat) : Sha.g K i < 256 := by
  unfold Sha.g
  by_cases hi : i < K.length
  · exact getD_lt hK i hi
  · simp [List.getD, hi]
theorem mix_lt {K : List Nat} (hK : ∀ x ∈ K, x < 256) (x : Nat) (hx : x < 256) : ∀ y ∈ Sha.mix x K, y < 256 := by
  intro y hy
  simp only [Sha.mix, List.mem_map] at hy
  obtain ⟨i, _, rfl⟩ := hy
  exact Nat.xor_lt_two_pow (n := 8) (g_lt hK i) hx
theorem splice_u8s (l x : List Nat) (o : Nat) : splice (u8s l) o (u8s x) = u8s (splice l o x) := by
  simp [splice, u8s]
theorem join2 (w : World) (pb : Nat) (x y : Pt) (hpb : w.heap[pb]? = some (.cells #[x.v, y.v] 26 (0, 0))) (hx : x.Ok w) (hy : y.Ok w) (hN : x.d.length + y.d.length ≤ 900000000) :
    Calls Try.prog 16 #[.slice (some ⟨pb, 0, none⟩) 2 2] w fun e w' => e = .returned (.agg (u8s (Sha.sum (x.d ++ y.d))).toArray) ∧ Fr [] w w' := by
  have hcat : cat [x, y] = x.d ++ y.d := by simp [cat]
  rw [← hcat]
  refine join w _ 2 2 [x, y] rfl (by decide) (fun _ => ⟨pb, 0, rfl, row_lt hpb, fun i z hz => ?_⟩) (fun z hz => ?_) (by rw [hcat, List.length_append]; exact hN)
  · rw [cell_of_row _ _ _ _ _ _ hpb]
    match i, hz with
    | 0, hz => cases hz; rfl
    | 1, hz => cases hz; rfl
    | i + 2, hz => cases hz
  · simp only [List.mem_cons, List.not_mem_nil, or_false] at hz
    rcases hz with rfl | rfl
    · exact hx
    · exact hy
theorem pt_row {w : World} {b : Nat} {l : List Nat} {t : TypeId} {fr : Nat × Nat} (h : w.heap[b]? = some (.cells (u8s l).toArray t fr)) (hl : ∀ x ∈ l, x < 256) (n : Nat) (hn : l.length = n) (hn2 : n ≤ 1000) : (⟨some ⟨b, 0, none⟩, n, n, l⟩ : Pt).Ok w :=
  ⟨⟨hn.symm, Nat.le_refl _, fun _ => ⟨b, 0, rfl, row_lt h, by
      have := ba_row h (o := 0) n (by omega)
      rw [List.drop_zero, List.take_of_length_le (by omega)] at this; exact this⟩⟩, fun a ha => by cases ha; exact row_lt h, Nat.le_trans hn2 (Nat.le_of_ble_eq_true rfl), Nat.le_trans hn2 (Nat.le_of_ble_eq_true rfl), hl⟩
set_option maxHeartbeats 4000000 in
set_option maxRecDepth 100000 in
theorem mac (w : World) (x y : Pt) (hx : x.Ok w) (hy : y.Ok w) (hN : x.d.length ≤ 900000000) (hM : y.d.length ≤ 800000000) :
    Calls Try.prog 12 #[.slice x.p x.len x.cap, .slice y.p y.len y.cap] w fun e w' => e = .returned (.agg (u8s (Sha.mac x.d y.d)).toArray) ∧ Fr [] w w' := by
  have he : (Try.prog.info? 5).map (·.size) = some 1 := by kernel_rfl
  have HE := Lib.hid he
  clear he
  by_cases h64 : 64 < x.len
  case' pos =>
    have h64' : (64 : Int) < (x.len : Int) := by omega
    go_enter Try.func12, Try.ntmps12
    go_wp2_with fail
    refine calls_fresh (fun W => W.heap[w.heap.size]? = some (.cells (u8s (zs 32)).toArray 24 (0, 0)) ∧ W.heap[w.heap.size + 1]? = some (.cells (u8s (zs 64)).toArray 35 (0, 0)) ∧ W.heap[w.heap.size + 2]? = some (.cells (u8s (zs 64)).toArray 35 (0, 0)) ∧ Fr [] w W) ⟨heap_alloc3_0 _ _ _ _, heap_alloc3_1 _ _ _ _, heap_alloc3_2 _ _ _ _, (((Fr.refl _ _).alloc _).alloc _).alloc _⟩ ?_
    rintro W ⟨hrb, hib, hob, hF⟩
    refine (ssum W x (hx.fr hF) hN).mono ?_
    rintro e w3 ⟨rfl, hF3⟩
    have hi := hi32 x.d
    have hsl := sum_length x.d
    have hsb := sum_lt x.d
    replace hrb := hF3.row hrb (by simp)
    replace hib := hF3.row hib (by simp)
    replace hob := hF3.row hob (by simp)
    replace hF := hF.trans0 hF3
    have HK : Hid (Sha.key x.d = Sha.sum x.d) := if_pos (by have := hx.sl.hlen; omega)
    clear hF3
    generalize Sha.sum x.d = S at *
    have HSL := Lib.hid hsl
    clear hsl
    have kA := run_cutA_all Try.underlying24 HE.out w3.heap.size 0
    have hzok : (⟨some ⟨w3.heap.size, 0, none⟩, 32, 32, S⟩ : Pt).Ok (w3.alloc (.cells (u8s S).toArray 24)) :=
      ⟨⟨HSL.out.symm, Nat.le_refl _, fun _ => ⟨_, 0, rfl, by simp, by
        have := ba_row (heap_alloc_last w3 (.cells (u8s S).toArray 24)) (o := 0) 32 (by rw [HSL.out]; exact Nat.le_refl _)
        rw [List.drop_zero, List.take_of_length_le (by rw [HSL.out]; exact Nat.le_refl _)] at this; exact this⟩⟩, fun a ha => by cases ha; simp, Nat.le_of_ble_eq_true rfl, Nat.le_of_ble_eq_true rfl, hsb⟩
    have HI : Hid ((w3.alloc (.cells (u8s S).toArray 24)).heap[w.heap.size + 1]? = _) := ((Fr.refl [] w3).alloc _).row hib (by simp)
    have HO : Hid ((w3.alloc (.cells (u8s S).toArray 24)).heap[w.heap.size + 2]? = _) := ((Fr.refl [] w3).alloc _).row hob (by simp)
    have HRB : Hid ((w3.alloc (.cells (u8s S).toArray 24)).heap[w.heap.size]? = _) := ((Fr.refl [] w3).alloc _).row hrb (by simp)
    have HF : Hid (Fr [] w (w3.alloc (.cells (u8s S).toArray 24))) := hF.alloc _
    have HZ := Lib.hid hzok.sl
    have HNE : Hid (∀ a, some (⟨w3.heap.size, 0, none⟩ : Addr) = some a → a.block ∉ [w.heap.size + 1]) := fun a ha => by
      cases ha; have := row_lt hib; simp; omega
    obtain ⟨c1, HC1⟩ : ∃ c1, Hid (c1 = u8s (S.take 32)) := ⟨_, rfl⟩
    have HN : Hid (c1.length = Nat.min 32 64) := by
      show c1.length = 32
      rw [HC1.out]; simp [HSL.out]
    have HCK : Hid (c1 = u8s (Sha.key x.d)) := by
      show c1 = _
      rw [HC1.out, HK.out, List.take_of_length_le (by rw [HSL.out]; exact Nat.le_refl _)]
    have HKL : Hid ((Sha.key x.d).length ≤ 64) := by show _ ≤ _; rw [HK.out, HSL.out]; decide
    have HKB : Hid (∀ y ∈ Sha.key x.d, y < 256) := by show ∀ y ∈ _, _; rw [HK.out]; exact hsb
    have hw2 := row_lt hob
    clear hzok hrb hib hob hF hsb
    go_wp2_with (first
      | (refine wpList_store_new rfl 24 (.tmp 7) (.tmp 14) rfl _ (u8s S).toArray _ rfl rfl ?h1 ?h2 (all_oneCell_toArray (oc_u8s S)) ?_; (case h1 => simp [HSL.out]); (case h2 => rw [hi]; simp))
      | (refine wpList_copy_any rfl (.tmp 16) (.tmp 17) 26 26 rfl 5 Try.underlying26 HE.out _ _ _ _ _ _ rfl rfl (w.heap.size + 1) 0 _ _ HI.out c1 HN.out ?hp ?hf ?ho ?_; (case hp => intro h0; rw [HC1.out] at h0 ⊢; exact ⟨rfl, SLB.src HZ.out _ (Nat.le_refl _) h0⟩); (case hf => rw [HN.out]; exact (show 0 + min _ 64 ≤ 64 by omega)); (case ho => rw [HC1.out]; exact oc_u8s _))
      | (refine wpList_copy_any rfl (.tmp 19) (.tmp 20) 26 26 rfl 5 Try.underlying26 HE.out _ _ _ _ _ _ rfl rfl (w.heap.size + 2) 0 (u8s (zs 64)) 35 ?hg c1 HN.out ?hp ?hf ?ho ?_; (case hg => exact (setRow_other _ _ _ _ (by omega)).trans HO.out); (case hp => intro h0; rw [HC1.out] at h0 ⊢; exact ⟨rfl, SLB.src (HZ.out.fr ((Fr.refl [w.heap.size + 1] _).setRow (.inl (by simp)) _) HNE.out) _ (Nat.le_refl _) h0⟩); (case hf => rw [HN.out]; exact (show 0 + min _ 64 ≤ 64 by omega)); (case ho => rw [HC1.out]; exact oc_u8s _)))
  case' neg =>
    have h64' : ¬ (64 : Int) < (x.len : Int) := by omega
    have HK : Hid (Sha.key x.d = x.d) := if_neg (by have := hx.sl.hlen; omega)
    obtain ⟨c1, HC1⟩ : ∃ c1, Hid (c1 = u8s (x.d.take x.len)) := ⟨_, rfl⟩
    have HN : Hid (c1.length = Nat.min x.len 64) := by
      show c1.length = min x.len 64
      rw [HC1.out]; simp; have := hx.sl.hlen; omega
    have hfr : Fr [] w (((w.alloc (.cells (u8s (zs 32)).toArray 24)).alloc (.cells (u8s (zs 64)).toArray 35)).alloc (.cells (u8s (zs 64)).toArray 35)) := (((Fr.refl _ _).alloc _).alloc _).alloc _
    have HI := Lib.hid (heap_alloc3_1 w (.cells (u8s (zs 32)).toArray 24) (.cells (u8s (zs 64)).toArray 35) (.cells (u8s (zs 64)).toArray 35))
    have HO := Lib.hid (heap_alloc3_2 w (.cells (u8s (zs 32)).toArray 24) (.cells (u8s (zs 64)).toArray 35) (.cells (u8s (zs 64)).toArray 35))
    have HZ := Lib.hid ((hx.fr hfr).sl)
    have HNE : Hid (∀ a, x.p = some a → a.block ∉ [w.heap.size + 1]) := fun a ha => by have := hx.old a ha; simp; omega
    have HRB := Lib.hid (heap_alloc3_0 w (.cells (u8s (zs 32)).toArray 24) (.cells (u8s (zs 64)).toArray 35) (.cells (u8s (zs 64)).toArray 35))
    have HF := Lib.hid hfr
    have HCK : Hid (c1 = u8s (Sha.key x.d)) := by
      show c1 = _
      rw [HC1.out, HK.out, List.take_of_length_le (by have := hx.sl.hlen; omega)]
    have HKL : Hid ((Sha.key x.d).length ≤ 64) := by show _ ≤ _; rw [HK.out]; have := hx.sl.hlen; omega
    have HKB : Hid (∀ y ∈ Sha.key x.d, y < 256) := by show ∀ y ∈ _, _; rw [HK.out]; exact hx.byt
    clear hfr
    go_enter Try.func12, Try.ntmps12
    go_wp2_with (first
      | (refine wpList_copy_any rfl (.tmp 16) (.tmp 17) 26 26 rfl 5 Try.underlying26 HE.out _ _ _ _ _ _ rfl rfl (w.heap.size + 1) 0 _ _ HI.out c1 HN.out ?hp ?hf ?ho ?_; (case hp => intro h0; rw [HC1.out] at h0 ⊢; exact ⟨rfl, SLB.src HZ.out _ (Nat.le_refl _) h0⟩); (case hf => rw [HN.out]; exact (show 0 + min _ 64 ≤ 64 by omega)); (case ho => rw [HC1.out]; exact oc_u8s _))
      | (refine wpList_copy_any rfl (.tmp 19) (.tmp 20) 26 26 rfl 5 Try.underlying26 HE.out _ _ _ _ _ _ rfl rfl (w.heap.size + 2) 0 (u8s (zs 64)) 35 ?hg c1 HN.out ?hp ?hf ?ho ?_; (case hg => exact (setRow_other _ _ _ _ (by omega)).trans HO.out); (case hp => intro h0; rw [HC1.out] at h0 ⊢; exact ⟨rfl, SLB.src (HZ.out.fr ((Fr.refl [w.heap.size + 1] _).setRow (.inl (by simp)) _) HNE.out) _ (Nat.le_refl _) h0⟩); (case hf => rw [HN.out]; exact (show 0 + min _ 64 ≤ 64 by omega)); (case ho => rw [HC1.out]; exact oc_u8s _)))
  all_goals
    have HM : Hid (Sha.mac x.d y.d = Sha.sum (Sha.mix 92 (Sha.key x.d) ++ Sha.sum (Sha.mix 54 (Sha.key x.d) ++ y.d))) := rfl
    generalize Sha.key x.d = K at *
    refine wp_fresh (fun W => W.heap[w.heap.size]? = some (.cells (u8s (zs 32)).toArray 24 (0, 0)) ∧ W.heap[w.heap.size + 1]? = some (.cells (u8s (mixk K 54 0)).toArray 35 (0, 0)) ∧ W.heap[w.heap.size + 1 + 1]? = some (.cells (u8s (mixk K 92 0)).toArray 35 (0, 0)) ∧ Fr [] w W) ⟨?_, ?_, ?_, ?_⟩ ?_
    · exact (setRow_other _ _ _ _ (by omega)).trans ((setRow_other _ _ _ _ (by omega)).trans HRB.out)
    · refine (setRow_other _ _ _ _ (by omega)).trans ((setRow_heap _ _ _ _ _ _ HI.out).trans ?_)
      rw [HCK.out, splice_u8s, mixk_zero _ _ HKL.out]
    · refine (setRow_heap _ _ _ _ _ _ ((setRow_other _ _ _ _ (by omega)).trans HO.out)).trans ?_
      rw [HCK.out, splice_u8s, mixk_zero _ _ HKL.out]
    · exact (HF.out.setRow (.inr (by omega)) _).setRow (.inr (by omega)) _
    rintro W ⟨hrb, hib, hob, hF⟩
    obtain ⟨ob, hob0⟩ : ∃ ob, ob = w.heap.size + 1 + 1 := ⟨_, rfl⟩
    rw [← hob0] at hob ⊢
    obtain ⟨ib, hib0⟩ : ∃ ib, ib = w.heap.size + 1 := ⟨_, rfl⟩
    rw [← hib0] at hib ⊢
    obtain ⟨rb, hrb0⟩ : ∃ rb, rb = w.heap.size := ⟨_, rfl⟩
    rw [← hrb0] at hrb ⊢
    have o1 : w.heap.size ≤ rb := by omega
    have o2 : rb < ib := by omega
    have o3 : ib < ob := by omega
    clear hrb0 hib0 hob0 HI HO HRB HF HZ HNE HC1 HN HCK
    go_loopw [8, 22] (fun _ t W => ∃ k : Nat, k ≤ 64 ∧ t = .int .i64 k ∧ W.heap[rb]? = some (.cells (u8s (zs 32)).toArray 24 (0, 0)) ∧ W.heap[ib]? = some (.cells (u8s (mixk K 54 k)).toArray 35 (0, 0)) ∧ W.heap[ob]? = some (.cells (u8s (mixk K 92 k)).toArray 35 (0, 0)) ∧ Fr [] w W) (fun _ t _ => 64 - (intOf t).toNat)
    case atStart => exact ⟨0, by omega, rfl, hrb, hib, hob, hF⟩
    case round =>
      clear hrb hib hob hF
      obtain ⟨k, hk, rfl, hrb, hib, hob, hF⟩ := hrel
      by_cases hlt : k < 64
      · have c1 : wr.cell? ⟨ib, k, none⟩ = some (.int .u8 ((Sha.g K k : Nat) : Int)) := by
          rw [cell_of_row _ _ _ _ _ _ hib, List.getElem?_toArray, getD_u8s _ _ (by rw [mixk_length]; exact hlt), mixk_getD _ _ _ hlt]
        have c2 : wr.cell? ⟨ob, k, none⟩ = some (.int .u8 ((Sha.g K k : Nat) : Int)) := by
          rw [cell_of_row _ _ _ _ _ _ hob, List.getElem?_toArray, getD_u8s _ _ (by rw [mixk_length]; exact hlt), mixk_getD _ _ _ hlt]
        have f1 := frozen_of_row _ _ k _ _ hib
        have f2 := frozen_of_row _ _ k _ _ hob
        have klt : (k : Int) < 64 := by omega
        have x1 : bits .xor .u8 ((Sha.g K k : Nat) : Int) 54 = ((Sha.g K k ^^^ 54 : Nat) : Int) := u8_xor_nat _ 54 (g_lt HKB.out k) (by decide)
        have x2 : bits .xor .u8 ((Sha.g K k : Nat) : Int) 92 = ((Sha.g K k ^^^ 92 : Nat) : Int) := u8_xor_nat _ 92 (g_lt HKB.out k) (by decide)
        have e1 := Lib.hid (mixk_succ K 54 k hlt)
        have e2 := Lib.hid (mixk_succ K 92 k hlt)
        generalize Sha.g K k ^^^ 54 = y1 at *
        generalize Sha.g K k ^^^ 92 = y2 at *
        generalize Sha.g K k = y0 at *
        go_wp2_with fail
        have h1 := heap_setCell_same wr ib k _ _ (.int .u8 ((y1 : Nat) : Int)) hib
        rw [u8s_set, ← e1.out] at h1
        have h2 := heap_setCell_same (wr.setCell ⟨ib, k, none⟩ (.int .u8 ((y1 : Nat) : Int))) ob k _ _ (.int .u8 ((y2 : Nat) : Int)) ((Below.heap_setCell _ ⟨ib, k, none⟩ _ ob (show ob ≠ ib by omega)).trans hob)
        rw [u8s_set, ← e2.out] at h2
        go_roundw
        case rel =>
          first | refine ⟨k + 1, by omega, by go_num, ?_, ?_, ?_, ?_⟩ | ((repeat apply Exists.intro); refine ⟨⟨k + 1, by omega, by go_num, ?_, ?_, ?_, ?_⟩, rfl⟩)
          · exact (Below.heap_setCell _ ⟨ob, k, none⟩ _ rb (show rb ≠ ob by omega)).trans ((Below.heap_setCell _ ⟨ib, k, none⟩ _ rb (show rb ≠ ib by omega)).trans hrb)
          · exact (Below.heap_setCell _ ⟨ob, k, none⟩ _ ib (show ib ≠ ob by omega)).trans h1
          · exact h2
          · exact Fr.setCell (p := ⟨ob, k, none⟩) (Fr.setCell (p := ⟨ib, k, none⟩) hF (.inr (show w.heap.size ≤ ib by omega)) _) (.inr (show w.heap.size ≤ ob by omega)) _
        case measure => simp [intOf]; omega
      · obtain rfl : k = 64 := by omega
        rw [mixk_end] at hib hob
        have hil := sum_length (Sha.mix 54 K ++ y.d)
        have hisb := sum_lt (Sha.mix 54 K ++ y.d)
        have hm1 : (Sha.mix 54 K).length = 64 := by simp [Sha.mix]
        have hm2 : (Sha.mix 92 K).length = 64 := by simp [Sha.mix]
        have hml1 := mix_lt HKB.out 54 (by decide)
        have hml2 := mix_lt HKB.out 92 (by decide)
        have hi1 := hi32 (Sha.mix 54 K ++ y.d)
        go_wp2_with fail
        refine calls_fresh (fun W => W.heap[wr.heap.size]? = some (.cells #[(⟨some ⟨ib, 0, none⟩, 64, 64, Sha.mix 54 K⟩ : Pt).v, y.v] 26 (0, 0)) ∧ Fr [] wr W) ⟨heap_alloc_last _ _, (Fr.refl _ _).alloc _⟩ ?_
        rintro W ⟨hpb, hFW⟩
        refine (join2 W _ ⟨some ⟨ib, 0, none⟩, 64, 64, Sha.mix 54 K⟩ y hpb (pt_row (hFW.row hib (by simp)) hml1 64 hm1 (by omega)) (hy.fr (hF.trans0 hFW)) (by show (Sha.mix 54 K).length + _ ≤ _; omega)).mono ?_
        rintro e w5 ⟨rfl, hF5⟩
        have hFr := hFW.trans0 hF5
        show _
        replace hrb := hFr.row hrb (by simp)
        replace hob := hFr.row hob (by simp)
        replace hF := hF.trans0 hFr
        clear hpb hFW hF5 hFr hib hml1 hm1
        generalize Sha.sum (Sha.mix 54 K ++ y.d) = S1 at *
        have HIL := Lib.hid hil
        clear hil
        go_wp2_with (refine wpList_store_new rfl 24 (.tmp 9) (.tmp 39) rfl _ (u8s S1).toArray _ rfl rfl ?h1 ?h2 (all_oneCell_toArray (oc_u8s S1)) ?_; (case h1 => simp [HIL.out]); (case h2 => rw [hi1]; simp))
        refine wp_fresh (fun W => W.heap[w5.heap.size]? = some (.cells (u8s S1).toArray 24 (0, 0)) ∧ W.heap[rb]? = some (.cells (u8s (zs 32)).toArray 24 (0, 0)) ∧ W.heap[ob]? = some (.cells (u8s (Sha.mix 92 K)).toArray 35 (0, 0)) ∧ Fr [] w W) ⟨heap_alloc_last _ _, ((Fr.refl [] w5).alloc _).row hrb (by simp), ((Fr.refl [] w5).alloc _).row hob (by simp), hF.alloc _⟩ ?_
        obtain ⟨db, hdb⟩ : ∃ db, db = w5.heap.size := ⟨_, rfl⟩
        rw [← hdb]
        clear hrb hob hF hi1 hdb
        rintro W ⟨hdb, hrb, hob, hF⟩
        have kD := run_cutA_all Try.underlying24 HE.out db 0
        have kO := run_cutA_all Try.underlying35 HE.out ob 0
        go_still_tail 2, (by kernel_rfl)
        go_wp2_with fail
        refine calls_fresh (fun V => V.heap[W.heap.size]? = some (.cells #[(⟨some ⟨ob, 0, none⟩, 64, 64, Sha.mix 92 K⟩ : Pt).v, (⟨some ⟨db, 0, none⟩, 32, 32, S1⟩ : Pt).v] 26 (0, 0)) ∧ Fr [] W V) ⟨heap_alloc_last W _, ((Fr.refl _ _).alloc _).drew⟩ ?_
        rintro V ⟨hpb, hFV⟩
        refine (join2 V _ ⟨some ⟨ob, 0, none⟩, 64, 64, Sha.mix 92 K⟩ ⟨some ⟨db, 0, none⟩, 32, 32, S1⟩ hpb (pt_row (hFV.row hob (by simp)) hml2 64 hm2 (by omega)) (pt_row (hFV.row hdb (by simp)) hisb 32 HIL.out (by omega)) (by show (Sha.mix 92 K).length + S1.length ≤ _; rw [hm2, HIL.out]; decide)).mono ?_
        rintro e w7 ⟨rfl, hF7⟩
        show _
        have hF8 := (hF.trans0 hFV).trans0 hF7
        have HRB := Lib.hid ((hFV.trans0 hF7).row hrb (by simp))
        have hi2 := hi32 (Sha.mix 92 K ++ S1)
        have hsl2 := sum_length (Sha.mix 92 K ++ S1)
        clear hpb hFV hF7 hF hdb hrb hob kD kO hisb hm2 hml2
        generalize hS : Sha.sum (Sha.mix 92 K ++ S1) = S2 at *
        have HS := Lib.hid hS
        have HSL := Lib.hid hsl2
        clear hS hsl2
        go_wp2_with (refine wpList_store_part rfl 24 (.tmp 4) (.tmp 43) rfl rb 0 _ _ (u8s S2) HRB.out rfl rfl ?h1 hi2 (oc_u8s _) ?_; (case h1 => simp [HSL.out, zs]))
        refine bodyPost_ret (v := .agg (u8s S2).toArray) (results_cell_row rfl _ _ rb 24 _ (0, 0) _ rfl ?_ Try.underlying24 rfl ?_) rfl ⟨by rw [HM.out], ?_⟩
        · refine (setRow_heap _ _ _ _ _ _ HRB.out).trans ?_
          congr 3
          simp [HSL.out, zs, u8s]
        · rw [hi2]; simp
        · exact hF8.setRow (.inr o1) _
end Go.Proofs.Ytanegflohbgkdaa
