/-
  Lemmas and contracts that the proofs over this seat use (part ShaSum); no statement of the seat is claimed in this text, and nothing is assumed in it.
-/
import Derived.Test.YtanegflohbgkdaaShaWrite2
set_option linter.unusedVariables false
set_option linter.unusedSimpArgs false
namespace Go.Proofs.Ytanegflohbgkdaa
open Go.RowKit
theorem write_nil (w : World) (v : Value) : Calls Try.prog 14 #[.pointer none, v] w fun e w' => e = .returned (.tuple #[]) ∧ w = w' := by
  go_enter Try.func14, Try.ntmps14
  go_wp2
  refine bodyPost_ret (results_none rfl _ _ _) rfl ?_
  exact ⟨rfl, rfl⟩
theorem run_cutA_h {P : Program} {t : TypeId} {n : Nat} {e : TypeId} (ht : P.underlying t = some (.array n e)) (he : (P.info? e).map (·.size) = some 1) (b o k : Nat) (h : k ≤ n) (h0 : 0 < n) (w : World) :
    (Instr.sliceAt t (.pointer (some ⟨b, o, none⟩)) none (some (.int .i64 (k : Int))) none).run P w = .ok (.slice (some ⟨b, o, none⟩) k n) w := by
  cases hq : P.info? e with
  | none => simp [hq] at he
  | some i =>
    have hs : i.size = 1 := by simpa [hq] using he
    simp [Instr.sliceAt, Instr.sureAddr, run_underlying ht, Instr.sliceBounds, run_sliceBound, sizeOf, typeInfo, hq, hs, h, Nat.ne_of_gt h0, Addr.add_mid, slicedAt, sliced]
theorem run_index_row {P : Program} {t : TypeId} {n : Nat} {e : TypeId} (ht : P.underlying t = some (.array n e)) (he : (P.info? e).map (·.size) = some 1) (hu : ∃ k, P.underlying e = some (.int k)) (cs : List Value) (k : Nat) (h : k < n) (v : Value) (hv : cs[k]? = some v) (w : World) :
    (Instr.index t (.agg cs.toArray) (.int .i64 (k : Int))).run P w = .ok v w := by
  obtain ⟨kk, hu⟩ := hu
  cases hq : P.info? e with
  | none => simp [hq] at he
  | some i =>
    have hs : i.size = 1 := by simpa [hq] using he
    simp [Instr.index, run_underlying ht, sizeOf, typeInfo, hq, hs, h, part, isAgg, run_underlying hu, hv, asIntOf]
theorem rangeAt_row {w : World} {b : Nat} {cs : List Value} {t : TypeId} {fr : Nat × Nat} (h : w.heap[b]? = some (.cells cs.toArray t fr)) : w.rangeAt b 0 cs := fun j v hv => by
  rw [cell_of_row _ _ _ _ _ _ h, Nat.zero_add, List.getElem?_toArray]; exact hv
def zs (n : Nat) : List Nat := List.replicate n 0
theorem hrep_zero : HRep (hc (zs 8) (zs 64) 0 false) [] := ⟨fun x h => by (cases h), zs 8, zs 64, false, rfl, rfl, rfl, fun h => by (cases h), fun _ => rfl⟩
theorem hrep_len {cs : List Value} {D : List Nat} (h : HRep cs D) : cs.length = 74 := by
  obtain ⟨_, s, l, on, hs, hl, rfl, _⟩ := h
  rw [hc_length, hs, hl]
theorem hrep_oc {cs : List Value} {D : List Nat} (h : HRep cs D) : ∀ v ∈ cs, v.oneCell' = true := by
  obtain ⟨_, s, l, on, hs, hl, rfl, _⟩ := h
  intro v hv
  simp only [hc, List.mem_append, List.mem_cons, List.not_mem_nil, or_false] at hv
  rcases hv with hv | hv | rfl | rfl
  · exact oc_u32s _ v hv
  · exact oc_u8s _ v hv
  · rfl
  · rfl
def lb (n : Nat) : List Nat := (List.range 8).map fun i => n * 8 / 2 ^ (56 - 8 * i) % 256
def tl (n z k : Nat) : List Nat := 128 :: (zs z ++ ((lb n).take k ++ zs (71 - z - k)))
theorem tl_zero (n z : Nat) (hz : z ≤ 63) : tl n z 0 = (zs 72).set 0 128 := by
  have h : List.replicate z 0 ++ List.replicate (71 - z) 0 = List.replicate 71 0 := by rw [List.replicate_append_replicate, show z + (71 - z) = 71 by omega]
  show 128 :: (List.replicate z 0 ++ ([] ++ List.replicate (71 - z) 0)) = (0 :: List.replicate 71 0).set 0 128
  rw [List.nil_append, h]; rfl
theorem tl_length (n z k : Nat) (hz : z ≤ 63) (hk : k ≤ 8) : (tl n z k).length = 72 := by
  simp [tl, zs, lb]; omega
theorem tl_succ (n z k : Nat) (hz : z ≤ 63) (hk : k < 8) : tl n z (k + 1) = (tl n z k).set (1 + z + k) (n * 8 / 2 ^ (56 - 8 * k) % 256) := by
  obtain ⟨j, hj⟩ : ∃ j, 71 - z - k = j + 1 := ⟨70 - z - k, by omega⟩
  have ht : (lb n).take (k + 1) = (lb n).take k ++ [n * 8 / 2 ^ (56 - 8 * k) % 256] := by
    rw [List.take_succ_eq_append_getElem (by simp [lb]; omega)]; simp [lb]
  have hl : ((lb n).take k).length = k := by simp [lb]; omega
  simp only [tl]
  rw [show 1 + z + k = (z + k) + 1 by omega, List.set_cons_succ, List.set_append_right _ _ (by simp [zs]), show z + k - (zs z).length = k by simp [zs], List.set_append_right _ _ (by omega), hl, Nat.sub_self, hj, ht,
    show 71 - z - (k + 1) = j by omega]
  simp [zs, List.replicate_succ]
theorem tl_pad (n z : Nat) (hz : z = (119 - n % 64) % 64) : (tl n z 8).take (9 + z) = Sha.pad n := by
  have h8 : (lb n).take 8 = lb n := List.take_of_length_le (by simp [lb])
  simp only [tl, h8]
  rw [show 9 + z = (8 + z) + 1 by omega, List.take_succ_cons, ← List.append_assoc, List.take_append_of_le_length (by simp [zs, lb]; omega), List.take_of_length_le (by simp [zs, lb]; omega)]
  simp [Sha.pad, zs, lb, hz]
theorem lb_lt (n : Nat) : ∀ x ∈ lb n, x < 256 := by
  intro x hx
  simp only [lb, List.mem_map] at hx
  obtain ⟨i, _, rfl⟩ := hx
  exact Nat.mod_lt _ (by decide)
theorem pad_lt (n : Nat) : ∀ x ∈ Sha.pad n, x < 256 := by
  intro x hx
  simp only [Sha.pad, List.mem_cons, List.mem_append, List.mem_replicate] at hx
  rcases hx with rfl | ⟨_, rfl⟩ | hx
  · decide
  · decide
  · exact lb_lt n x hx
theorem ba_row {w : World} {b o : Nat} {l : List Nat} {t : TypeId} {fr : Nat × Nat} (h : w.heap[b]? = some (.cells (u8s l).toArray t fr)) (n : Nat) (hn : o + n ≤ l.length) : BA w b o ((l.drop o).take n) := fun i hi => by
  have hi' : i < n := by simp at hi; omega
  rw [cell_of_row _ _ _ _ _ _ h, List.getElem?_toArray, getD_u8s _ _ (by omega)]
  simp [List.getD, List.getElem?_take, List.getElem?_drop, hi']
/-- behind the end the digest stands. -/
theorem hrep_on {cs : List Value} {D : List Nat} (h : HRep cs D) (h0 : D ≠ []) : ∃ l, l.length = 64 ∧ cs = hc (Sha.st D) l D.length true := by
  obtain ⟨_, s, l, on, hs, hl, rfl, h1, h2⟩ := h
  cases on with
  | true => obtain ⟨rfl, _⟩ := h1 rfl; exact ⟨l, hl, rfl⟩
  | false => exact absurd (h2 rfl) h0
def ok4 (S : List Nat) (k : Nat) : List Nat := Sha.bytes (S.take k) ++ zs (32 - 4 * k)
theorem bytes_length (S : List Nat) : (Sha.bytes S).length = 4 * S.length := by
  induction S with
  | nil => rfl
  | cons x S ih => simp only [Sha.bytes, List.flatMap_cons, List.length_append] at *; rw [ih]; simp; omega
theorem ok4_length (S : List Nat) (hS : S.length = 8) (k : Nat) (hk : k ≤ 8) : (ok4 S k).length = 32 := by
  simp [ok4, bytes_length, zs, hS]; omega
theorem ok4_succ (S : List Nat) (hS : S.length = 8) (k : Nat) (hk : k < 8) (x : Nat) (hx : S.getD k 0 = x) :
    ok4 S (k + 1) = ((((ok4 S k).set (4 * k) (x / 16777216)).set (4 * k + 1) (x / 65536 % 256)).set (4 * k + 2) (x / 256 % 256)).set (4 * k + 3) (x % 256) := by
  have hx' : S[k]'(by omega) = x := by rw [List.getD_eq_getElem?_getD, List.getElem?_eq_getElem (by omega)] at hx; exact hx
  have ht : S.take (k + 1) = S.take k ++ [x] := by rw [List.take_succ_eq_append_getElem (by omega), hx']
  obtain ⟨j, hj⟩ : ∃ j, 32 - 4 * k = j + 4 := ⟨28 - 4 * k, by omega⟩
  have hb : (Sha.bytes (S.take k)).length = 4 * k := by rw [bytes_length]; simp; omega
  have e : Sha.bytes (S.take k ++ [x]) = Sha.bytes (S.take k) ++ [x / 16777216, x / 65536 % 256, x / 256 % 256, x % 256] := by simp [Sha.bytes]
  simp only [ok4, ht, e, hj, show 32 - 4 * (k + 1) = j by omega]
  rw [List.set_append_right _ _ (by omega), List.set_append_right _ _ (by omega), List.set_append_right _ _ (by omega), List.set_append_right _ _ (by omega), hb]
  simp [zs, List.replicate_succ, show 4 * k - 4 * k = 0 by omega, show 4 * k + 1 - 4 * k = 1 by omega, show 4 * k + 2 - 4 * k = 2 by omega, show 4 * k + 3 - 4 * k = 3 by omega]
theorem ok4_end (S : List Nat) (hS : S.length = 8) : ok4 S 8 = Sha.bytes S := by
  simp [ok4, zs, List.take_of_length_le (show S.length ≤ 8 by omega)]
set_option maxHeartbeats 4000000 in
set_option maxRecDepth 100000 in
theorem hsum (w : World) (h : Option Nat) (cs : List Value) (D : List Nat) (hr : HRep cs D) (hb : ∀ b, h = some b → w.heap[b]? = some (.cells cs.toArray 38 (0, 0))) (hnil : h = none → D = []) (hN : D.length ≤ 900000000) :
    Calls Try.prog 15 #[.pointer (h.map fun b => ⟨b, 0, none⟩)] w fun e w' => e = .returned (.agg (u8s (Sha.sum D)).toArray) ∧ Fr [] w w' := by
  have z38 := (zero_of_info (P := Try.prog) (t := 38) (v := .agg (hc (zs 8) (zs 64) 0 false).toArray) (n := 74) (by kernel_rfl)).1
  have z49 := (zero_of_info (P := Try.prog) (t := 49) (v := .agg (u8s (zs 72)).toArray) (n := 72) (by kernel_rfl)).1
  have hlt : w.heap.size < w.heap.size + 1 := Nat.lt_succ_self _
  cases h
  case' none =>
    obtain ⟨cs1, hcs1, hR⟩ : ∃ cs1, cs1 = hc (zs 8) (zs 64) 0 false ∧ HRep cs1 D := ⟨_, rfl, by rw [hnil rfl]; exact hrep_zero⟩
    clear hb hnil hr
    show Calls _ _ #[.pointer none] _ _
    go_enter Try.func15, Try.ntmps15
    go_wp2_with fail
    refine calls_fresh (fun W => W.heap[w.heap.size + 1]? = some (.cells cs1.toArray 38 (0, 0)) ∧ W.heap[w.heap.size]? = some (.cells (u8s (zs 32)).toArray 24 (0, 0)) ∧ Fr [] w W) ⟨by rw [hcs1]; exact heap_alloc2_new _ _ _, heap_alloc2_old _ _ _, ((Fr.refl _ _).alloc _).alloc _⟩ ?_
    clear hcs1
  case' some b =>
    have hb := hb b rfl
    show Calls _ _ #[.pointer (some ⟨b, 0, none⟩)] _ _
    have hbb : ∀ A B : Obj, ((w.alloc A).alloc B).rangeAt b 0 cs := fun A B => rangeAt_row (((Fr.refl [] w).alloc A).alloc B |>.row hb (by simp))
    have hi : (Try.prog.info? 38).map (·.size) = some cs.length := by
      have : (Try.prog.info? 38).map (·.size) = some 74 := by kernel_rfl
      rw [this, hrep_len hr]
    have HB := Lib.hid hbb
    have hR := hr
    have HR := Lib.hid hr
    have hlen := hrep_len hr
    clear hb hbb hnil hr
    go_enter Try.func15, Try.ntmps15
    go_wp2_with (first
      | (refine wpList_load_mid rfl 38 (.tmp 15) rfl b 0 rfl cs _ (HB.out _ _) Try.underlying38 rfl hi ?_)
      | (refine wpList_store_part rfl 38 (.tmp 3) (.tmp 16) rfl (w.heap.size + 1) 0 _ _ cs (heap_alloc2_new _ _ _) rfl rfl ?h1 hi (hrep_oc HR.out) ?_; (case h1 => rw [hlen]; exact Nat.le_refl 74)))
    refine calls_fresh (fun W => W.heap[w.heap.size + 1]? = some (.cells cs.toArray 38 (0, 0)) ∧ W.heap[w.heap.size]? = some (.cells (u8s (zs 32)).toArray 24 (0, 0)) ∧ Fr [] w W) ⟨?_, ?_, ?_⟩ ?_
    · refine (setRow_heap _ _ _ _ _ _ (heap_alloc2_new _ _ _)).trans ?_
      simp [hlen, hc, zs, u32s, u8s]
    · refine (setRow_other _ _ _ _ (by omega)).trans (heap_alloc2_old _ _ _)
    · exact (((Fr.refl _ _).alloc _).alloc _).setRow (.inr (by omega)) _
    clear HB HR hlen hi
    generalize cs = cs1 at *
  all_goals
    rintro W ⟨hcb, hrb, hF⟩
    obtain ⟨rb, hrb0, hrb1⟩ : ∃ rb, rb = w.heap.size ∧ w.heap.size ≤ rb := ⟨_, rfl, Nat.le_refl _⟩
    obtain ⟨cb, hcb0, hcb1⟩ : ∃ cb, cb = w.heap.size + 1 ∧ w.heap.size ≤ cb := ⟨_, rfl, by omega⟩
    have hrc : rb < cb := by omega
    rw [← hcb0] at hcb ⊢
    rw [← hrb0] at hrb ⊢
    clear hlt hrb0 hcb0
    refine (begin_any W cb cs1 _ hR hcb).mono ?_
    rintro e w1 ⟨rfl, hF1, l, hl, hlr, hcb'⟩
    replace hF := hF.trans1 hF1 (.inr hcb1)
    replace hrb := hF1.row hrb (by simp; omega)
    have hDb := hR.1
    clear hF1 hcb hR
    obtain ⟨hst8, hstb⟩ := st_ok D
    have n72 : w1.cell? ⟨cb, 72, none⟩ = some (.int .u64 ((D.length : Nat) : Int)) := by rw [cell_of_row _ _ _ _ _ _ hcb', hc_n _ _ _ _ hst8 hl]
    obtain ⟨a, ha, ha64⟩ : ∃ a, Hid (a = D.length % 64) ∧ a < 64 := ⟨_, rfl, Nat.mod_lt _ (by decide)⟩
    have hm : (D.length : Int) % 64 = (a : Int) := by rw [ha.out]; omega
    obtain ⟨z, hz⟩ : ∃ z, Hid (z = (119 - a) % 64) := ⟨_, rfl⟩
    have hz1 := hz.out
    have hz2 : z ≤ 63 := by omega
    by_cases h56 : 56 ≤ a
  all_goals
    have h56' := h56
    first | (have e1 : (64 : Int) + (55 - (a : Int)) = (z : Int) := by omega) | (have e1 : (55 : Int) - (a : Int) = (z : Int) := by omega)
    clear hz1
    go_wp2_with fail
    refine wp_fresh (fun W => W.heap[cb]? = some (.cells (hc (Sha.st D) l D.length true).toArray 38 (0, 0)) ∧ W.heap[rb]? = some (.cells (u8s (zs 32)).toArray 24 (0, 0)) ∧ W.heap[w1.heap.size]? = some (.cells (u8s (tl D.length z 0)).toArray 49 (0, 0)) ∧ Fr [] w W) ⟨?_, ?_, ?_, ?_⟩ ?_
    · exact ((Fr.refl [] w1).alloc _).row hcb' (by simp)
    · exact ((Fr.refl [] w1).alloc _).row hrb (by simp)
    · refine (heap_alloc_last _ _).trans ?_
      rw [tl_zero _ _ hz2]; simp [u8s, List.map_set]
    · exact hF.alloc _
    obtain ⟨tb, htb0⟩ : ∃ tb, tb = w1.heap.size := ⟨_, rfl⟩
    have htb1 : w.heap.size ≤ tb := by have := hF.size; omega
    have htb2 : cb < tb := by have := row_lt hcb'; omega
    rw [← htb0]
    clear htb0 hF hcb' hrb n72
    rintro W ⟨hcb, hrb, htb, hF⟩
    go_loopw [8, 31] (fun _ t W => ∃ k : Nat, k ≤ 8 ∧ t = .int .i64 k ∧ W.heap[cb]? = some (.cells (hc (Sha.st D) l D.length true).toArray 38 (0, 0)) ∧ W.heap[rb]? = some (.cells (u8s (zs 32)).toArray 24 (0, 0)) ∧ W.heap[tb]? = some (.cells (u8s (tl D.length z k)).toArray 49 (0, 0)) ∧ Fr [] w W) (fun _ t _ => 8 - (intOf t).toNat)
    case atStart => exact ⟨0, by omega, rfl, hcb, hrb, htb, hF⟩
    case round =>
      clear hcb hrb htb hF
      obtain ⟨k, hk, rfl, hcb, hrb, htb, hF⟩ := hrel
      by_cases hlt : k < 8
      · have hx : ((D.length : Int) * 8 / 2 ^ (56 - 8 * k)) % 256 = ((D.length * 8 / 2 ^ (56 - 8 * k) % 256 : Nat) : Int) := by
          rw [Int.natCast_emod, Int.natCast_ediv, Int.natCast_pow, Int.natCast_mul]; rfl
        have ET : Hid ((tl D.length z k).set (1 + z + k) (D.length * 8 / 2 ^ (56 - 8 * k) % 256) = tl D.length z (k + 1)) := (tl_succ D.length z k hz2 hlt).symm
        generalize D.length * 8 / 2 ^ (56 - 8 * k) % 256 = x at *
        obtain ⟨y, hy⟩ : ∃ y, wr.cell? ⟨tb, 1 + z + k, none⟩ = some y := by
          rw [cell_of_row _ _ _ _ _ _ htb, List.getElem?_toArray, getD_u8s _ _ (by rw [tl_length _ _ _ hz2 hk]; omega)]; exact ⟨_, rfl⟩
        have hf := frozen_of_row _ _ (1 + z + k) _ _ htb
        have s0 : (0 : Int) ≤ 56 - 8 * (k : Int) := by omega
        have s1 : min (56 - 8 * (k : Int)).toNat IntKind.u64.bits = 56 - 8 * k := by simp [IntKind.bits]; omega
        have klt : (k : Int) < 8 := by omega
        have ib : 1 + (z : Int) + (k : Int) < 72 := by omega
        go_wp2_with fail
        go_roundw
        case rel =>
          first | refine ⟨k + 1, by omega, by go_num, ?_, ?_, ?_, ?_⟩ | ((repeat apply Exists.intro); refine ⟨⟨k + 1, by omega, by go_num, ?_, ?_, ?_, ?_⟩, rfl⟩)
          · exact (Below.heap_setCell _ _ _ _ (show cb ≠ tb by omega)).trans hcb
          · exact (Below.heap_setCell _ _ _ _ (show rb ≠ tb by omega)).trans hrb
          · rw [← ET.out, ← u8s_set]; exact heap_setCell_same _ _ _ _ _ _ htb
          · exact hF.setCell (.inr htb1) _
        case measure => simp [intOf]; omega
      · obtain rfl : k = 8 := by omega
        have he : (Try.prog.info? 5).map (·.size) = some 1 := by kernel_rfl
        have kH := run_cutA_h Try.underlying49 he tb 0 (9 + z) (by omega) (by omega)
        have kz : ((9 + z : Nat) : Int) = 9 + (z : Int) := by omega
        rw [kz] at kH
        clear he kz
        go_wp2_with fail
        have hpl : (Sha.pad D.length).length = 9 + z := by rw [← tl_pad D.length z (by rw [hz.out, ha.out]), List.length_take, tl_length _ _ _ hz2 (Nat.le_refl _)]; omega
        have hslb : SLB wr (some ⟨tb, 0, none⟩) (9 + z) 72 (Sha.pad D.length) := ⟨hpl.symm, by omega, fun _ => ⟨tb, 0, rfl, row_lt htb, by
          have := ba_row htb (o := 0) (9 + z) (by rw [tl_length _ _ _ hz2 (Nat.le_refl _)]; omega)
          rw [List.drop_zero, tl_pad D.length z (by rw [hz.out, ha.out])] at this; exact this⟩⟩
        have hRD : HRep (hc (Sha.st D) l D.length true) D := ⟨hDb, _, l, true, hst8, hl, rfl, fun _ => ⟨rfl, hlr⟩, fun h => by cases h⟩
        refine (write wr cb _ D (Sha.pad D.length) (some ⟨tb, 0, none⟩) (9 + z) 72 hRD hcb hslb (pad_lt _) (fun a ha => by cases ha; exact Nat.ne_of_gt htb2) (Nat.le_of_ble_eq_true rfl) (by omega)).mono ?_
        rintro e w3 ⟨rfl, hF3, cs2, hR2, hcb2⟩
        obtain ⟨l2, hl2, rfl⟩ := hrep_on hR2 (by simp [Sha.pad])
        have hrb3 := hF3.row hrb (by simp; omega)
        have hF4 := hF.trans1 hF3 (.inr hcb1)
        obtain ⟨hS8, hSb⟩ := st_ok (D ++ Sha.pad D.length)
        have ES : Hid (Sha.sum D = Sha.bytes (Sha.st (D ++ Sha.pad D.length))) := rfl
        generalize (D ++ Sha.pad D.length).length = N at *
        generalize Sha.st (D ++ Sha.pad D.length) = S at *
        clear hcb hrb htb hF hF3 hR2 hslb hRD hpl kH hst8 hstb hlr hm hDb
        have hi8 : (Try.prog.info? 34).map (·.size) = some (u32s S).length := by
          have : (Try.prog.info? 34).map (·.size) = some 8 := by kernel_rfl
          rw [this]; simp [hS8]
        have hra : ∀ O : Obj, (w3.alloc O).rangeAt cb 0 (u32s S) := fun O j v hv => by
          rw [cell_of_row _ _ _ _ _ _ (((Fr.refl [] w3).alloc O).row hcb2 (by simp))]
          have hj : j < S.length := by have := (List.getElem?_eq_some_iff.1 hv).1; simpa using this
          rw [Nat.zero_add, List.getElem?_toArray, hc, List.getElem?_append_left (by simpa using hj)]; exact hv
        have HRA := Lib.hid hra
        clear hra
        go_wp2_with (refine wpList_load_mid rfl 34 (.tmp 51) rfl cb 0 rfl (u32s S) _ (HRA.out _) Try.underlying34 rfl hi8 ?_)
        refine wp_fresh (fun W => W.heap[rb]? = some (.cells (u8s (zs 32)).toArray 24 (0, 0)) ∧ W.heap[w3.heap.size]? = some (.cells (u8s (ok4 S 0)).toArray 24 (0, 0)) ∧ Fr [] w W) ⟨((Fr.refl [] w3).alloc _).row hrb3 (by simp), heap_alloc_last _ _, hF4.alloc _⟩ ?_
        obtain ⟨ob, hob0⟩ : ∃ ob, ob = w3.heap.size := ⟨_, rfl⟩
        have hob1 : w.heap.size ≤ ob := by have := hF4.size; omega
        have hob2 : rb < ob := by have := row_lt hrb3; omega
        rw [← hob0]
        clear hob0 hF4 hcb2 hrb3 HRA hi8
        rintro W ⟨hrb, hob, hF⟩
        go_loopw [10, 11, 53] (fun _ _ t W => ∃ k : Nat, k ≤ 8 ∧ t = .int .i64 k ∧ W.heap[rb]? = some (.cells (u8s (zs 32)).toArray 24 (0, 0)) ∧ W.heap[ob]? = some (.cells (u8s (ok4 S k)).toArray 24 (0, 0)) ∧ Fr [] w W) (fun _ _ t _ => 8 - (intOf t).toNat)
        case atStart => exact ⟨0, by omega, rfl, hrb, hob, hF⟩
        case round =>
          clear hrb hob hF
          obtain ⟨k, hk, rfl, hrb, hob, hF⟩ := hrel
          by_cases hlt : k < 8
          · obtain ⟨x, hxe, hx⟩ : ∃ x, Hid (S.getD k 0 = x) ∧ x < 4294967296 := ⟨_, rfl, getD_lt hSb k (by omega)⟩
            have he : (Try.prog.info? 33).map (·.size) = some 1 := by kernel_rfl
            have hidx := run_index_row Try.underlying34 he ⟨_, Try.underlying33⟩ (u32s S) k hlt (.int .u32 (x : Int)) (by rw [getD_u32s _ _ (by omega), hxe.out])
            have hlo := ok4_length S hS8 k (by omega)
            obtain ⟨y0, hy0⟩ : ∃ y, wr.cell? ⟨ob, 4 * k, none⟩ = some y := by
              rw [cell_of_row _ _ _ _ _ _ hob, List.getElem?_toArray, getD_u8s _ _ (by omega)]; exact ⟨_, rfl⟩
            obtain ⟨y1, hy1⟩ : ∃ y, wr.cell? ⟨ob, 4 * k + 1, none⟩ = some y := by
              rw [cell_of_row _ _ _ _ _ _ hob, List.getElem?_toArray, getD_u8s _ _ (by omega)]; exact ⟨_, rfl⟩
            obtain ⟨y2, hy2⟩ : ∃ y, wr.cell? ⟨ob, 4 * k + 2, none⟩ = some y := by
              rw [cell_of_row _ _ _ _ _ _ hob, List.getElem?_toArray, getD_u8s _ _ (by omega)]; exact ⟨_, rfl⟩
            obtain ⟨y3, hy3⟩ : ∃ y, wr.cell? ⟨ob, 4 * k + 3, none⟩ = some y := by
              rw [cell_of_row _ _ _ _ _ _ hob, List.getElem?_toArray, getD_u8s _ _ (by omega)]; exact ⟨_, rfl⟩
            have f0 := frozen_of_row _ _ (4 * k) _ _ hob
            have f1 := frozen_of_row _ _ (4 * k + 1) _ _ hob
            have f2 := frozen_of_row _ _ (4 * k + 2) _ _ hob
            have f3 := frozen_of_row _ _ (4 * k + 3) _ _ hob
            have klt : (k : Int) < 8 := by omega
            have xlt : (x : Int) < 4294967296 := by omega
            clear he hlo
            go_wp2_with fail
            have h1 := heap_setCell_same wr ob (4 * k) _ _ (.int .u8 ((x / 16777216 : Nat) : Int)) hob
            rw [u8s_set] at h1
            have h2 := heap_setCell_same _ ob (4 * k + 1) _ _ (.int .u8 ((x / 65536 % 256 : Nat) : Int)) h1
            rw [u8s_set] at h2
            have h3 := heap_setCell_same _ ob (4 * k + 2) _ _ (.int .u8 ((x / 256 % 256 : Nat) : Int)) h2
            rw [u8s_set] at h3
            have h4 := heap_setCell_same _ ob (4 * k + 3) _ _ (.int .u8 ((x % 256 : Nat) : Int)) h3
            rw [u8s_set, ← ok4_succ S hS8 k hlt x hxe.out] at h4
            go_roundw
            case rel =>
              first | refine ⟨k + 1, by omega, by go_num, ?_, ?_, ?_⟩ | ((repeat apply Exists.intro); refine ⟨⟨k + 1, by omega, by go_num, ?_, ?_, ?_⟩, rfl⟩)
              · exact (Below.heap_setCell _ ⟨ob, 4 * k + 3, none⟩ (.int .u8 ((x % 256 : Nat) : Int)) rb (show rb ≠ ob by omega)).trans ((Below.heap_setCell _ ⟨ob, 4 * k + 2, none⟩ (.int .u8 ((x / 256 % 256 : Nat) : Int)) rb (show rb ≠ ob by omega)).trans ((Below.heap_setCell _ ⟨ob, 4 * k + 1, none⟩ (.int .u8 ((x / 65536 % 256 : Nat) : Int)) rb (show rb ≠ ob by omega)).trans ((Below.heap_setCell _ ⟨ob, 4 * k, none⟩ (.int .u8 ((x / 16777216 : Nat) : Int)) rb (show rb ≠ ob by omega)).trans hrb)))
              · exact h4
              · exact Fr.setCell (p := ⟨ob, 4 * k + 3, none⟩) (Fr.setCell (p := ⟨ob, 4 * k + 2, none⟩) (Fr.setCell (p := ⟨ob, 4 * k + 1, none⟩) (Fr.setCell (p := ⟨ob, 4 * k, none⟩) hF (.inr hob1) (.int .u8 ((x / 16777216 : Nat) : Int))) (.inr hob1) (.int .u8 ((x / 65536 % 256 : Nat) : Int))) (.inr hob1) (.int .u8 ((x / 256 % 256 : Nat) : Int))) (.inr hob1) (.int .u8 ((x % 256 : Nat) : Int))
            case measure => simp [intOf]; omega
          · obtain rfl : k = 8 := by omega
            rw [ok4_end S hS8] at hob
            have hbl : (Sha.bytes S).length = 32 := by rw [bytes_length, hS8]
            have hi24 : (Try.prog.info? 24).map (·.size) = some (u8s (Sha.bytes S)).length := by
              have : (Try.prog.info? 24).map (·.size) = some 32 := by kernel_rfl
              rw [this]; simp [hbl]
            have HRB := Lib.hid hrb
            have HOB := Lib.hid (rangeAt_row hob)
            have HBL := Lib.hid hbl
            clear hrb hob hbl
            go_wp2_with (first
              | (refine wpList_load_mid rfl 24 (.tmp 9) rfl ob 0 rfl (u8s (Sha.bytes S)) _ HOB.out Try.underlying24 rfl hi24 ?_)
              | (refine wpList_store_part rfl 24 (.tmp 2) (.tmp 84) rfl rb 0 _ _ (u8s (Sha.bytes S)) HRB.out rfl rfl ?h1 hi24 (oc_u8s _) ?_; (case h1 => simp [HBL.out, zs])))
            refine bodyPost_ret (v := .agg (u8s (Sha.bytes S)).toArray) (results_cell_row rfl _ _ rb 24 _ (0, 0) _ rfl ?_ Try.underlying24 rfl ?_) rfl ⟨by rw [ES.out], ?_⟩
            · refine (setRow_heap _ _ _ _ _ _ HRB.out).trans ?_
              congr 3
              simp [HBL.out, zs, u8s]
            · rw [hi24]; simp
            · exact hF.setRow (.inr hrb1) _
end Go.Proofs.Ytanegflohbgkdaa
