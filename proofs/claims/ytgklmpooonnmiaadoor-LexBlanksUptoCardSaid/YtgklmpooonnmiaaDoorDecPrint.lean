/-
  Lemmas and contracts that the proofs over this seat use (part DecPrint); no statement of the seat is claimed in this text, and nothing is assumed in it.
-/
import Derived.Test.YtgklmpooonnmiaaDoorDecRead
set_option linter.unusedVariables false
set_option linter.unusedSimpArgs false
namespace Go.Proofs.YtgklmpooonnmiaaDoor
open Go.RowKit
namespace Dec
/-- the digits of a number. -/
def digs (v : Nat) : List Nat := if v < 10 then [48 + v] else digs (v / 10) ++ [48 + v % 10]
termination_by v
/-- its last j digits. -/
def low (v : Nat) : Nat → List Nat
  | 0 => []
  | j + 1 => (48 + v / 10 ^ j % 10) :: low v j
theorem low_length (v j : Nat) : (low v j).length = j := by
  induction j with
  | zero => rfl
  | succ j ih => simp [low, ih]
theorem low_snoc (v j : Nat) : low v (j + 1) = low (v / 10) j ++ [48 + v % 10] := by
  induction j with
  | zero => simp [low]
  | succ j ih =>
    rw [low, ih]
    conv => rhs; rw [low]
    rw [List.cons_append, Nat.div_div_eq_div_mul, Nat.pow_succ']
theorem digs_low (j : Nat) : ∀ v, v / 10 ^ (j + 1) = 0 → (j = 0 ∨ 0 < v / 10 ^ j) → digs v = low v (j + 1) := by
  induction j with
  | zero =>
    intro v h _
    have : v < 10 := by
      rcases Nat.lt_or_ge v 10 with h2 | h2
      · exact h2
      · have := Nat.div_pos h2 (by decide : 0 < 10); simp at h; omega
    rw [digs, if_pos this]
    simp [low, Nat.mod_eq_of_lt this]
  | succ j ih =>
    intro v h h2
    have h3 : 0 < v / 10 ^ (j + 1) := by rcases h2 with h2 | h2; omega; exact h2
    have h4 : ¬ v < 10 := fun hc => by
      have : v / 10 ^ (j + 1) = 0 := Nat.div_eq_of_lt (Nat.lt_of_lt_of_le hc (by rw [Nat.pow_succ]; have : 0 < 10 ^ j := Nat.pow_pos (by decide); omega))
      omega
    rw [digs, if_neg h4, low_snoc, ih]
    · rw [Nat.div_div_eq_div_mul, ← Nat.pow_succ']; exact h
    · right
      rw [Nat.div_div_eq_div_mul, ← Nat.pow_succ']; exact h3
theorem low_lt (v j : Nat) : ∀ x ∈ low v j, x < 256 := by
  induction j with
  | zero => intro x hx; cases hx
  | succ j ih =>
    intro x hx
    rcases List.mem_cons.1 hx with rfl | hx
    · have := Nat.mod_lt (v / 10 ^ j) (by decide : 0 < 10); omega
    · exact ih x hx
/-- a number's text. -/
def print (n : Int) : List Nat := if n < 0 then 45 :: digs n.natAbs else digs n.natAbs
end Dec
theorem run_cutA {P : Program} {t : TypeId} {n : Nat} {e : TypeId} (ht : P.underlying t = some (.array n e)) (he : (P.info? e).map (·.size) = some 1) (b o k : Nat) (h : k < n) (w : World) :
    (Instr.sliceAt t (.pointer (some ⟨b, o, none⟩)) (some (.int .i64 (k : Int))) none none).run P w = .ok (.slice (some ⟨b, o + k, none⟩) (n - k) (n - k)) w := by
  cases hq : P.info? e with
  | none => simp [hq] at he
  | some i =>
    have hs : i.size = 1 := by simpa [hq] using he
    simp [Instr.sliceAt, Instr.sureAddr, run_underlying ht, Instr.sliceBounds, run_sliceBound, sizeOf, typeInfo, hq, hs, Nat.le_of_lt h, Nat.ne_of_gt h, Addr.add_mid, slicedAt, sliced]
theorem zrow_set (p x : Nat) (L : List Nat) : (u8s (List.replicate (p + 1) 0 ++ L)).toArray.setIfInBounds p (.int .u8 (x : Int)) = (u8s (List.replicate p 0 ++ x :: L)).toArray := by
  rw [List.replicate_succ']
  simp [u8s, List.set_append]
/-- 'string(b)' of bytes whose cells are known. -/
theorem str_cells {w : World} {g o n c : Nat} {D : List Nat} (hn : D.length = n) (h : ∀ i (x : Nat), D[i]? = some x → w.cell? ⟨g, o + i, none⟩ = some (.int .u8 (x : Nat))) :
    (convert 36 9 (.slice (some ⟨g, o, none⟩) n c)).run Tryd.prog w = .ok (.string (ba D)) w := by
  rw [run_convert_bytes_string w 36 9 5 _ n c Tryd.underlying36 Tryd.underlying5 Tryd.underlying9]
  rw [run_bytesToString w ⟨g, o, none⟩ n c (D.map fun (x : Nat) => (x : Int)) ?_, foldl_push]
  · simp [ba]
  · have := run_loadCells_list (P := Tryd.prog) w ⟨g, o, none⟩ (u8s D) (fun j u hj => by
      obtain ⟨x, hx, rfl⟩ : ∃ x, D[j]? = some x ∧ u = .int .u8 ((x : Nat) : Int) := by
        simp only [u8s, List.getElem?_map, Option.map_eq_some_iff] at hj
        obtain ⟨x, hx, rfl⟩ := hj
        exact ⟨x, hx, rfl⟩
      have hadd : (⟨g, o, none⟩ : Addr).add j = ⟨g, o + j, none⟩ := by unfold Addr.add; split <;> simp_all
      rw [hadd]; exact h j x hx)
    rw [u8s_length, hn] at this
    rw [this, u8s_ints]
theorem zrow_cell {w : World} {g p t : Nat} {fr : Nat × Nat} {L : List Nat} (h : w.heap[g]? = some (.cells (u8s (List.replicate (p + 1) 0 ++ L)).toArray t fr)) (i : Nat) (hi : i ≤ p) : w.cell? ⟨g, i, none⟩ = some (.int .u8 0) := by
  rw [cell_of_row _ _ _ _ _ _ h]
  simp [u8s, List.getElem?_append, List.getElem?_replicate, show i < p + 1 by omega]
theorem tail_cells {w : World} {g q t : Nat} {fr : Nat × Nat} {L : List Nat} (h : w.heap[g]? = some (.cells (u8s (List.replicate q 0 ++ L)).toArray t fr)) :
    ∀ i (x : Nat), L[i]? = some x → w.cell? ⟨g, q + i, none⟩ = some (.int .u8 (x : Nat)) := by
  intro i x hx
  rw [cell_of_row _ _ _ _ _ _ h]
  simp [u8s, List.getElem?_append, hx]
set_option maxHeartbeats 4000000 in
set_option maxRecDepth 100000 in
theorem dec_print (w : World) (n : Int) (hn : -9223372036854775808 ≤ n ∧ n ≤ 9223372036854775807) :
    Calls Tryd.prog 28 #[.int .i64 n] w fun e w' => e = .returned (.string (ba (Dec.print n))) ∧ Fr [] w w' := by
  obtain ⟨v, hv⟩ : ∃ v, n.natAbs = v := ⟨_, rfl⟩
  have hvb : v ≤ 9223372036854775808 := by omega
  have hP : Hid (Dec.print n = if n < 0 then 45 :: Dec.digs v else Dec.digs v) := by show _ = _; rw [Dec.print, hv]
  have he8 : (Tryd.prog.info? 5).map (·.size) = some 1 := by kernel_rfl
  have HCUT := Lib.hid (fun b k h W => run_cutA Tryd.underlying100 he8 b 0 k h W)
  clear he8
  by_cases h0 : 0 < n
  case' pos =>
    have hnv : n = (v : Int) := by omega
    have hz : True := trivial
    have hv0 : decide (0 < v) = true := by simp; omega
    have hv1 : ¬ (v : Int) < 0 := by omega
    have h0' : n > 0 := h0
    have HP : Hid (Dec.print n = Dec.digs v) := by show _ = _; rw [hP.out, if_neg (by omega)]
    go_enter Tryd.func28, Tryd.ntmps28
    go_wp2
  case' neg =>
    have hnv : n = -(v : Int) := by omega
    have h0' : ¬ n > 0 := h0
    have hv0 : decide ((v : Int) < 0) = false := by simp
    by_cases hz : v = 0
    case' pos =>
      have HP : Hid (Dec.print n = Dec.digs v) := by show _ = _; rw [hP.out, if_neg (by omega)]
      have hv1 : ¬ n < 0 := by omega
      go_enter Tryd.func28, Tryd.ntmps28
      go_wp2
    case' neg =>
      have HP : Hid (Dec.print n = 45 :: Dec.digs v) := by show _ = _; rw [hP.out, if_pos (by omega)]
      have hv1 : n < 0 := by omega
      go_enter Tryd.func28, Tryd.ntmps28
      go_wp2
  all_goals
    have HNV := Lib.hid hnv
    have HV := Lib.hid hv
    clear hnv hv
    have hrow : (w.alloc (.cells (u8s (List.replicate (18 + 1 + 1) 0 ++ [])).toArray 100)).heap[w.heap.size]? = some (.cells (u8s (List.replicate (18 + 1 + 1) 0 ++ [])).toArray 100 (0, 0)) := heap_alloc_last _ _
    refine wp_fresh (fun W => W.heap[w.heap.size]? = some (.cells (u8s (List.replicate (18 + 1 + 1) 0 ++ [])).toArray 100 (0, 0)) ∧ Fr [] w W) ⟨hrow, (Fr.refl _ _).alloc _⟩ ?_
    clear hrow
    rintro W ⟨hrow, hF⟩
    have HROW := Lib.hid hrow
    have HF := Lib.hid hF
    clear hrow hF
    generalize hg : w.heap.size = g at *
    have HG := Lib.hid hg
    have HZ := Lib.hid hz
    clear hg hz
    go_loopw [4, 5] (fun t l W => ∃ q j x : Nat, q + 2 + j = 20 ∧ j ≤ 18 ∧ t = .int .i64 ((q : Int) + 1 + 1) ∧ l = .int .i64 (-(x : Int)) ∧ x = v / 10 ^ j ∧ (j = 0 ∨ 0 < x) ∧ W.heap[g]? = some (.cells (u8s (List.replicate (q + 1 + 1) 0 ++ Dec.low v j)).toArray 100 (0, 0)) ∧ Fr [] w W) (fun t _ _ => (intOf t).toNat)
    case atStart => exact ⟨18, 0, v, by omega, by omega, rfl, by first | rfl | (rw [HZ.out]; rfl), by simp, Or.inl rfl, HROW.out, HF.out⟩
    case' round =>
      clear HROW HF
      obtain ⟨q, j, x, hqj, hj, rfl, rfl, hx, hjx, hrow, hF⟩ := hrel
      have f1 := frozen_of_row _ _ (q + 1) _ _ hrow
      have f0 := frozen_of_row _ _ q _ _ hrow
      have c1 := zrow_cell hrow (q + 1) (by omega)
      have c0 := zrow_cell hrow q (by omega)
      have hrow2 := heap_setCell_same _ g (q + 1) _ _ (.int .u8 ((48 + x % 10 : Nat) : Int)) hrow
      rw [zrow_set] at hrow2
      have hxl : x ≤ v := by rw [hx]; exact Nat.div_le_self _ _
      obtain ⟨d, hd⟩ : ∃ d, Hid (x % 10 = d) := ⟨_, rfl⟩
      obtain ⟨y, hy⟩ : ∃ y, Hid (x / 10 = y) := ⟨_, rfl⟩
      have r1 : (-(x : Int)).tmod 10 = -(d : Int) := by rw [Int.neg_tmod, Int.tmod_eq_emod_of_nonneg (by omega)]; have := hd.out; omega
      have r2 : (-(x : Int)).tdiv 10 = -(y : Int) := by rw [Int.neg_tdiv, Int.tdiv_eq_ediv_of_nonneg (by omega)]; have := hy.out; omega
      have hd9 : d ≤ 9 := by have := hd.out; omega
      have hyb : y ≤ 1000000000000000000 := by have := hy.out; omega
      have hlow : Hid (Dec.low v (j + 1) = (48 + d) :: Dec.low v j) := by show _ = _; rw [Dec.low, ← hx, hd.out]
      have hy2 : Hid (y = v / 10 ^ (j + 1)) := by show _ = _; rw [← hy.out, hx, Nat.div_div_eq_div_mul, Nat.pow_succ]
      rw [hd.out, ← hlow.out, show ((48 + d : Nat) : Int) = 48 + (d : Int) by omega] at hrow2
      have hcap : q ≤ 18 := by omega
      have HX := Lib.hid hx
      have HROW := Lib.hid hrow2
      have HF : Hid (Fr [] w (wr.setCell ⟨g, q + 1, none⟩ (.int .u8 (48 + (d : Int))))) := hF.setCell (.inr (by rw [HG.out]; exact Nat.le_refl _)) _
      have w1 : IntKind.u8.wrap (48 + (d : Int)) = 48 + (d : Int) := by rw [IntKind.wrap_u8]; omega
      have HQJ := Lib.hid hqj
      have HJX := Lib.hid hjx
      clear hrow2 hx hF hrow hqj hjx
      by_cases hy0 : y = 0
      case neg =>
        have q0 : (-(y : Int) == 0) = false := beq_eq_false_iff_ne.2 (by omega)
        have hj18 : j + 1 ≤ 18 := by
          rcases Nat.lt_or_ge j 18 with h | h
          · omega
          · exfalso
            obtain rfl : j = 18 := by omega
            have := hy2.out
            omega
        have hq1 : Hid (∃ q', q = q' + 1) := ⟨q - 1, by have := HQJ.out; omega⟩
        go_wp2
        go_roundw
        case rel =>
          obtain ⟨q', hq'⟩ := hq1.out
          have hr := HROW.out
          have hqj := HQJ.out
          subst hq'
          exact ⟨q', j + 1, y, by omega, hj18, by go_num, rfl, hy2.out, Or.inr (by omega), hr, HF.out⟩
        case measure => simp [intOf]; omega
      case' pos =>
        have q0 : (-(y : Int) == 0) = true := beq_iff_eq.2 (by omega)
        have HDG := Lib.hid (Dec.digs_low j v (by rw [← hy2.out]; exact hy0) (by have h1 := HJX.out; rw [HX.out] at h1; exact h1))
        clear hy2 hy0
  · have hrow3 : ((wr.setCell ⟨g, q + 1, none⟩ (.int .u8 (48 + (d : Int)))).setCell ⟨g, q, none⟩ (.int .u8 45)).heap[g]? = some (.cells (u8s (List.replicate q 0 ++ 45 :: Dec.low v (j + 1))).toArray 100 (0, 0)) := by
      have := heap_setCell_same _ g q _ _ (.int .u8 ((45 : Nat) : Int)) HROW.out
      rw [zrow_set] at this
      exact this
    have hn2 : (45 :: Dec.low v (j + 1)).length = 20 - q := by rw [List.length_cons, Dec.low_length]; have := HQJ.out; omega
    have cut : ∀ W, (Instr.sliceAt 100 (.pointer (some ⟨g, 0, none⟩)) (some (.int .i64 (q : Int))) none none).run Tryd.prog W = .ok (.slice (some ⟨g, q, none⟩) (20 - q) (20 - q)) W := fun W => by
      have := HCUT.out g q (by omega) W
      rwa [Nat.zero_add] at this
    have cvs := str_cells (n := 20 - q) (c := 20 - q) hn2 (tail_cells hrow3)
    have HF3 := Lib.hid (HF.out.setCell (p := ⟨g, q, none⟩) (.inr (by rw [HG.out]; exact Nat.le_refl _)) (.int .u8 45))
    clear hn2 hrow3 HROW
    have hv2 : -(v : Int) < 0 := by have := HNV.out; omega
    go_wp2
    refine bodyPost_ret (results_tmp rfl _ _ _) rfl ?_
    rw [HP.out, HDG.out]
    exact ⟨rfl, HF3.out⟩
  · have hn2 : (Dec.low v (j + 1)).length = 19 - q := by rw [Dec.low_length]; have := HQJ.out; omega
    have cut : ∀ W, (Instr.sliceAt 100 (.pointer (some ⟨g, 0, none⟩)) (some (.int .i64 ((q : Int) + 1))) none none).run Tryd.prog W = .ok (.slice (some ⟨g, q + 1, none⟩) (19 - q) (19 - q)) W := fun W => by
      have := HCUT.out g (q + 1) (by omega) W
      rwa [Nat.zero_add, show 20 - (q + 1) = 19 - q by omega] at this
    have cvs := str_cells (n := 19 - q) (c := 19 - q) hn2 (tail_cells HROW.out)
    clear hn2 HROW
    go_wp2
    refine bodyPost_ret (results_tmp rfl _ _ _) rfl ?_
    rw [HP.out, HDG.out]
    exact ⟨rfl, HF.out⟩
  · have hn2 : (Dec.low v (j + 1)).length = 19 - q := by rw [Dec.low_length]; have := HQJ.out; omega
    have cut : ∀ W, (Instr.sliceAt 100 (.pointer (some ⟨g, 0, none⟩)) (some (.int .i64 ((q : Int) + 1))) none none).run Tryd.prog W = .ok (.slice (some ⟨g, q + 1, none⟩) (19 - q) (19 - q)) W := fun W => by
      have := HCUT.out g (q + 1) (by omega) W
      rwa [Nat.zero_add, show 20 - (q + 1) = 19 - q by omega] at this
    have cvs := str_cells (n := 19 - q) (c := 19 - q) hn2 (tail_cells HROW.out)
    clear hn2 HROW
    go_wp2
    refine bodyPost_ret (results_tmp rfl _ _ _) rfl ?_
    rw [HP.out, HDG.out]
    exact ⟨rfl, HF.out⟩
end Go.Proofs.YtgklmpooonnmiaaDoor
