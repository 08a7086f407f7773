/-
  Lemmas and contracts that the proofs over this seat use (part ShaBlock); no statement of the seat is claimed in this text, and nothing is assumed in it.
-/
import Derived.Test.YtanegflohbgkdaaShaMem
set_option linter.unusedVariables false
set_option linter.unusedSimpArgs false
namespace Go.Proofs.Ytanegflohbgkdaa
open Go.RowKit
theorem getD_u8s (l : List Nat) (i : Nat) (h : i < l.length) : (u8s l)[i]? = some (.int .u8 ((l.getD i 0 : Nat) : Int)) := by
  simp [u8s, h]
theorem getD_u32s (l : List Nat) (i : Nat) (h : i < l.length) : (u32s l)[i]? = some (.int .u32 ((l.getD i 0 : Nat) : Int)) := by
  simp [u32s, h]
theorem getD_lt {l : List Nat} {m : Nat} (h : ∀ x ∈ l, x < m) (i : Nat) (hi : i < l.length) : l.getD i 0 < m := by
  rw [List.getD_eq_getElem?_getD, List.getElem?_eq_getElem hi]; exact h _ (List.getElem_mem hi)
/-- the bytes d lie at a place. -/
def BA (w : World) (q o : Nat) (d : List Nat) : Prop := ∀ i, i < d.length → w.cell? ⟨q, o + i, none⟩ = some (.int .u8 ((d.getD i 0 : Nat) : Int))
theorem BA.fr {bs : List Nat} {w w' : World} {q o : Nat} {d : List Nat} (h : BA w q o d) (hf : Fr bs w w') (hq : q < w.heap.size) (hn : q ∉ bs) : BA w' q o d :=
  fun i hi => (hf.cell (p := ⟨q, o + i, none⟩) hq hn).trans (h i hi)
theorem u32s_set (l : List Nat) (k x : Nat) : (u32s l).toArray.setIfInBounds k (.int .u32 (x : Int)) = (u32s (l.set k x)).toArray := by
  simp [u32s, List.map_set]
theorem u8s_set (l : List Nat) (k x : Nat) : (u8s l).toArray.setIfInBounds k (.int .u8 (x : Int)) = (u8s (l.set k x)).toArray := by
  simp [u8s, List.map_set]
theorem sched_length (d : List Nat) (k : Nat) : (Sha.sched d k).length = k := by
  induction k with
  | zero => rfl
  | succ k ih => simp [Sha.sched, ih]
def wk (d : List Nat) (k : Nat) : List Nat := Sha.sched d k ++ List.replicate (64 - k) 0
theorem wk_length (d : List Nat) (k : Nat) (hk : k ≤ 64) : (wk d k).length = 64 := by
  simp [wk, sched_length]; omega
theorem wk_succ (d : List Nat) (k : Nat) (hk : k < 64) : wk d (k + 1) = (wk d k).set k (Sha.next d (Sha.sched d k) k) := by
  obtain ⟨j, hj⟩ : ∃ j, 64 - k = j + 1 := ⟨63 - k, by omega⟩
  simp [wk, Sha.sched, List.set_append, sched_length, hj, List.replicate_succ, show 64 - (k + 1) = j by omega]
theorem word_lt (d : List Nat) (hd : ∀ x ∈ d, x < 256) (t : Nat) : Sha.word d t < 4294967296 := by
  have h : ∀ i, Sha.g d i < 256 := fun i => by
    unfold Sha.g
    by_cases hi : i < d.length
    · exact getD_lt hd i hi
    · simp [List.getD, hi]
  unfold Sha.word
  have := h (4 * t); have := h (4 * t + 1); have := h (4 * t + 2); have := h (4 * t + 3)
  omega
theorem next_lt (d w : List Nat) (hd : ∀ x ∈ d, x < 256) (t : Nat) : Sha.next d w t < 4294967296 := by
  unfold Sha.next
  split
  · exact word_lt d hd t
  · exact Nat.mod_lt _ (by decide)
theorem sched_lt (d : List Nat) (hd : ∀ x ∈ d, x < 256) (k : Nat) : ∀ x ∈ Sha.sched d k, x < 4294967296 := by
  induction k with
  | zero => intro x hx; cases hx
  | succ k ih =>
    intro x hx
    simp only [Sha.sched, List.mem_append, List.mem_singleton] at hx
    rcases hx with hx | rfl
    · exact ih x hx
    · exact next_lt d _ hd k
theorem wk_getD (d : List Nat) (k i : Nat) (hi : i < k) : (wk d k).getD i 0 = Sha.g (Sha.sched d k) i := by
  simp [wk, Sha.g, List.getD, List.getElem?_append, sched_length, hi]
theorem ch_bits (x y z : Nat) (hx : x < 4294967296) (hy : y < 4294967296) (hz : z < 4294967296) :
    bits .xor .u32 (bits .and .u32 (x : Int) (y : Int)) (bits .and .u32 (bits .xor .u32 IntKind.u32.max (x : Int)) (z : Int)) = ((Sha.ch x y z : Nat) : Int) := by
  have hm : IntKind.u32.max = ((4294967295 : Nat) : Int) := rfl
  have h1 : (4294967295 : Nat) ^^^ x = 4294967295 - x := by
    have h := BitVec.toNat_xor (BitVec.ofNat 32 4294967295) (BitVec.ofNat 32 x)
    have e : BitVec.ofNat 32 4294967295 ^^^ BitVec.ofNat 32 x = ~~~ (BitVec.ofNat 32 x) := by
      rw [show BitVec.ofNat 32 4294967295 = BitVec.allOnes 32 from rfl, BitVec.allOnes_xor]
    rw [e, BitVec.toNat_not, BitVec.toNat_ofNat, BitVec.toNat_ofNat, Nat.mod_eq_of_lt (show x < 2 ^ 32 from hx)] at h
    exact h.symm
  have a1 : x &&& y < 2 ^ 32 := Nat.and_lt_two_pow _ hy
  have a2 : (4294967295 - x) &&& z < 2 ^ 32 := Nat.and_lt_two_pow _ hz
  rw [hm, u32_xor_nat _ _ (by decide) hx, h1, u32_and_nat _ _ hx hy, u32_and_nat _ _ (by omega) hz, u32_xor_nat _ _ a1 a2]
  rfl
theorem maj_bits (x y z : Nat) (hx : x < 4294967296) (hy : y < 4294967296) (hz : z < 4294967296) :
    bits .xor .u32 (bits .xor .u32 (bits .and .u32 (x : Int) (y : Int)) (bits .and .u32 (x : Int) (z : Int))) (bits .and .u32 (y : Int) (z : Int)) = ((Sha.maj x y z : Nat) : Int) := by
  have a1 : x &&& y < 2 ^ 32 := Nat.and_lt_two_pow _ hy
  have a2 : x &&& z < 2 ^ 32 := Nat.and_lt_two_pow _ hz
  have a3 : y &&& z < 2 ^ 32 := Nat.and_lt_two_pow _ hz
  rw [u32_and_nat _ _ hx hy, u32_and_nat _ _ hx hz, u32_and_nat _ _ hy hz, xor3 _ _ _ a1 a2 a3]
  rfl
theorem sum5 (a b c d e : Nat) : ((a : Int) + (b : Int) + (c : Int) + (d : Int) + (e : Int)) % 4294967296 = ((((((a + b) % 4294967296 + c) % 4294967296 + d) % 4294967296 + e) % 4294967296 : Nat) : Int) := by omega
theorem sum2 (a b : Nat) : ((a : Int) + (b : Int)) % 4294967296 = (((a + b) % 4294967296 : Nat) : Int) := by omega
def fin (s r : List Nat) (k : Nat) : List Nat := (List.range 8).map fun i => if i < k then (Sha.g r i + Sha.g s i) % 4294967296 else Sha.g s i
theorem fin_length (s r : List Nat) (k : Nat) : (fin s r k).length = 8 := by simp [fin]
theorem fin_zero (s r : List Nat) (hs : s.length = 8) : fin s r 0 = s := by
  apply List.ext_getElem
  · simp [fin, hs]
  · intro i h1 h2
    simp [fin, Sha.g, List.getD, h2]
theorem fin_succ (s r : List Nat) (k : Nat) (hk : k < 8) : fin s r (k + 1) = (fin s r k).set k ((Sha.g r k + Sha.g s k) % 4294967296) := by
  apply List.ext_getElem
  · simp [fin]
  · intro i h1 h2
    simp only [fin, List.getElem_map, List.getElem_range, List.getElem_set]
    by_cases h : k = i
    · subst h; simp
    · by_cases h' : i < k
      · simp [h, h', show i < k + 1 by omega]
      · simp [h, h', show ¬ i < k + 1 by omega]
theorem fin_getD (s r : List Nat) (k : Nat) (hk : k < 8) : (fin s r k).getD k 0 = Sha.g s k := by
  simp [fin, List.getD, hk]
theorem hc_set_sum (s l : List Nat) (n : Nat) (on : Bool) (hs : s.length = 8) (k x : Nat) (hk : k < 8) : (hc s l n on).toArray.setIfInBounds k (.int .u32 (x : Int)) = (hc (s.set k x) l n on).toArray := by
  simp [hc, List.set_append, hs, hk, u32s, List.map_set]
theorem hc_sum_at (s l : List Nat) (n : Nat) (on : Bool) (hs : s.length = 8) (k : Nat) (hk : k < 8) : (hc s l n on).toArray[k]? = some (.int .u32 ((s.getD k 0 : Nat) : Int)) := by
  rw [List.getElem?_toArray, hc, List.getElem?_append_left (by simpa [hs] using hk), getD_u32s _ _ (by omega)]
theorem rounds_ok (w s : List Nat) (hs : s.length = 8) (hsb : ∀ x ∈ s, x < 4294967296) (k : Nat) : (Sha.rounds w s k).length = 8 ∧ ∀ x ∈ Sha.rounds w s k, x < 4294967296 := by
  induction k with
  | zero => exact ⟨hs, hsb⟩
  | succ k ih =>
    have hg : ∀ i, i < 8 → Sha.g (Sha.rounds w s k) i < 4294967296 := fun i hi => getD_lt ih.2 i (by omega)
    refine ⟨rfl, fun x hx => ?_⟩
    simp only [Sha.rounds, Sha.round, List.mem_cons, List.not_mem_nil, or_false] at hx
    rcases hx with rfl | rfl | rfl | rfl | rfl | rfl | rfl | rfl
    · exact Nat.mod_lt _ (by decide)
    · exact hg 0 (by omega)
    · exact hg 1 (by omega)
    · exact hg 2 (by omega)
    · exact Nat.mod_lt _ (by decide)
    · exact hg 4 (by omega)
    · exact hg 5 (by omega)
    · exact hg 6 (by omega)
theorem sum4 (a b c d : Nat) : ((a : Int) + (b : Int) + (c : Int) + (d : Int)) % 4294967296 = (((((a + b) % 4294967296 + c) % 4294967296 + d) % 4294967296 : Nat) : Int) := by omega
theorem word_or (x0 x1 x2 x3 : Nat) (h0 : x0 < 256) (h1 : x1 < 256) (h2 : x2 < 256) (h3 : x3 < 256) :
    bits .or .u32 (bits .or .u32 (bits .or .u32 ((x0 : Int) * 16777216) ((x1 : Int) * 65536)) ((x2 : Int) * 256)) (x3 : Int) = ((x0 * 16777216 + x1 * 65536 + x2 * 256 + x3 : Nat) : Int) := by
  have j1 : x0 * 16777216 ||| x1 * 65536 = x0 * 16777216 + x1 * 65536 := by
    have := Nat.two_pow_add_eq_or_of_lt (i := 24) (b := x1 * 65536) (by omega) x0
    simp only [show (2:Nat) ^ 24 = 16777216 from rfl, Nat.mul_comm 16777216] at this; exact this.symm
  have j2 : (x0 * 16777216 + x1 * 65536) ||| x2 * 256 = x0 * 16777216 + x1 * 65536 + x2 * 256 := by
    have := Nat.two_pow_add_eq_or_of_lt (i := 16) (b := x2 * 256) (by omega) (x0 * 256 + x1)
    rw [show 2 ^ 16 * (x0 * 256 + x1) = x0 * 16777216 + x1 * 65536 by omega] at this; exact this.symm
  have j3 : (x0 * 16777216 + x1 * 65536 + x2 * 256) ||| x3 = x0 * 16777216 + x1 * 65536 + x2 * 256 + x3 := by
    have := Nat.two_pow_add_eq_or_of_lt (i := 8) (b := x3) (by omega) (x0 * 65536 + x1 * 256 + x2)
    rw [show 2 ^ 8 * (x0 * 65536 + x1 * 256 + x2) = x0 * 16777216 + x1 * 65536 + x2 * 256 by omega] at this; exact this.symm
  rw [show (x0 : Int) * 16777216 = ((x0 * 16777216 : Nat) : Int) by omega, show (x1 : Int) * 65536 = ((x1 * 65536 : Nat) : Int) by omega, show (x2 : Int) * 256 = ((x2 * 256 : Nat) : Int) by omega]
  rw [u32_or_nat _ _ (by omega) (by omega), j1, u32_or_nat _ _ (by omega) (by omega), j2, u32_or_nat _ _ (by omega) (by omega), j3]
set_option maxHeartbeats 4000000 in
set_option maxRecDepth 100000 in
theorem block (w : World) (b q o cap : Nat) (s l d : List Nat) (n : Nat) (on : Bool) (hs : s.length = 8) (hl : l.length = 64) (hd : d.length = 64)
    (hb : w.heap[b]? = some (.cells (hc s l n on).toArray 38 (0, 0))) (hq : q < w.heap.size) (hda : BA w q o d) (hdb : ∀ x ∈ d, x < 256) (hsb : ∀ x ∈ s, x < 4294967296) :
    Calls Try.prog 20 #[.pointer (some ⟨b, 0, none⟩), .slice (some ⟨q, o, none⟩) 64 cap] w fun e w' => e = .returned (.tuple #[]) ∧ Fr [b] w w' ∧ w'.heap[b]? = some (.cells (hc (Sha.one s d) l n on).toArray 38 (0, 0)) := by
  have hbl := row_lt hb
  go_enter Try.func20, Try.ntmps20
  go_wp2_with fail
  refine wp_fresh (fun W => W.heap[w.heap.size]? = some (.cells (u32s (wk d 0)).toArray 52 (0, 0)) ∧ Fr [] w W) ⟨heap_alloc_last _ _, (Fr.refl _ _).alloc _⟩ ?_
  rintro W ⟨hW, hF⟩
  obtain ⟨nb, hnb⟩ : ∃ nb, nb = w.heap.size := ⟨_, rfl⟩
  rw [← hnb] at hW ⊢
  have hnb' : w.heap.size ≤ nb := by omega
  clear hnb
  go_loopw [5, 13] (fun _ t W => ∃ k : Nat, k ≤ 16 ∧ t = .int .i64 k ∧ W.heap[nb]? = some (.cells (u32s (wk d k)).toArray 52 (0, 0)) ∧ Fr [] w W) (fun _ t _ => 16 - (intOf t).toNat)
  case atStart => exact ⟨0, by omega, rfl, hW, hF⟩
  case round =>
    clear hW hF

    obtain ⟨k, hk, rfl, hW, hF⟩ := hrel
    have hbyte : ∀ i, i < 64 → wr.cell? ⟨q, o + i, none⟩ = some (.int .u8 ((d.getD i 0 : Nat) : Int)) := fun i hi => (hda.fr hF hq (by simp)) i (by omega)
    by_cases hlt : k < 16
    · obtain ⟨x0, hx0, e0⟩ : ∃ x, x < 256 ∧ d.getD (4 * k) 0 = x := ⟨_, getD_lt hdb _ (by omega), rfl⟩
      obtain ⟨x1, hx1, e1⟩ : ∃ x, x < 256 ∧ d.getD (4 * k + 1) 0 = x := ⟨_, getD_lt hdb _ (by omega), rfl⟩
      obtain ⟨x2, hx2, e2⟩ : ∃ x, x < 256 ∧ d.getD (4 * k + 2) 0 = x := ⟨_, getD_lt hdb _ (by omega), rfl⟩
      obtain ⟨x3, hx3, e3⟩ : ∃ x, x < 256 ∧ d.getD (4 * k + 3) 0 = x := ⟨_, getD_lt hdb _ (by omega), rfl⟩
      have b0 := hbyte (4 * k) (by omega)
      have b1 := hbyte (4 * k + 1) (by omega)
      have b2 := hbyte (4 * k + 2) (by omega)
      have b3 := hbyte (4 * k + 3) (by omega)
      rw [e0] at b0; rw [e1] at b1; rw [e2] at b2; rw [e3] at b3
      have E : Hid (Sha.word d k = x0 * 16777216 + x1 * 65536 + x2 * 256 + x3) := by
        show Sha.word d k = _
        unfold Sha.word Sha.g; rw [e0, e1, e2, e3]
      clear e0 e1 e2 e3
      obtain ⟨z, hz⟩ : ∃ z, wr.cell? ⟨nb, k, none⟩ = some z := by
        rw [cell_of_row _ _ _ _ _ _ hW, List.getElem?_toArray, getD_u32s _ _ (by rw [wk_length _ _ (by omega)]; omega)]; exact ⟨_, rfl⟩
      have hf := frozen_of_row _ _ k _ _ hW
      clear hbyte
      have a0 : IntKind.i64.wrap (4 * (k : Int)) = 4 * (k : Int) := IntWalk.i64_in _ (by omega)
      have a1 : IntKind.i64.wrap (4 * (k : Int) + 1) = 4 * (k : Int) + 1 := IntWalk.i64_in _ (by omega)
      have a2 : IntKind.i64.wrap (4 * (k : Int) + 2) = 4 * (k : Int) + 2 := IntWalk.i64_in _ (by omega)
      have a3 : IntKind.i64.wrap (4 * (k : Int) + 3) = 4 * (k : Int) + 3 := IntWalk.i64_in _ (by omega)
      have c : (k : Int) < 64 := by omega
      have c0 : 0 ≤ 4 * (k : Int) ∧ 4 * (k : Int) < 64 := by omega
      have c1 : 0 ≤ 4 * (k : Int) + 1 ∧ 4 * (k : Int) + 1 < 64 := by omega
      have c2 : 0 ≤ 4 * (k : Int) + 2 ∧ 4 * (k : Int) + 2 < 64 := by omega
      have c3 : 0 ≤ 4 * (k : Int) + 3 ∧ 4 * (k : Int) + 3 < 64 := by omega
      have t0 : (4 * (k : Int)).toNat = 4 * k := by omega
      have t1 : (4 * (k : Int) + 1).toNat = 4 * k + 1 := by omega
      have t2 : (4 * (k : Int) + 2).toNat = 4 * k + 2 := by omega
      have t3 : (4 * (k : Int) + 3).toNat = 4 * k + 3 := by omega
      go_wp2_with fail
      go_still_tail 35, (by kernel_rfl)
      go_wp2
      go_roundw
      case rel =>
        refine ⟨k + 1, by omega, by go_num, ?_, ((hF.setCell (.inr hnb') _).drew)⟩
        rw [word_or x0 x1 x2 x3 hx0 hx1 hx2 hx3, ← E.out, wk_succ d k (by omega), ← u32s_set]
        rw [show Sha.next d (Sha.sched d k) k = Sha.word d k by unfold Sha.next; rw [if_pos hlt]]
        exact heap_setCell_same _ _ _ _ _ _ hW
      case measure => simp [intOf]; omega
    · obtain rfl : k = 16 := by omega
      clear hbyte
      go_wp2_with fail
      go_loopw [6] (fun t W => ∃ k : Nat, 16 ≤ k ∧ k ≤ 64 ∧ t = .int .i64 k ∧ W.heap[nb]? = some (.cells (u32s (wk d k)).toArray 52 (0, 0)) ∧ Fr [] w W) (fun t _ => 64 - (intOf t).toNat)
      case atStart => exact ⟨16, by omega, by omega, rfl, hW, hF⟩
      case round =>
        clear hW hF
        obtain ⟨k, hk16, hk, rfl, hW, hF⟩ := hrel
        by_cases hlt : k < 64
        · have hcell : ∀ i, i < k → wr.cell? ⟨nb, i, none⟩ = some (.int .u32 ((Sha.g (Sha.sched d k) i : Nat) : Int)) := fun i hi => by
            rw [cell_of_row _ _ _ _ _ _ hW, List.getElem?_toArray, getD_u32s _ _ (by rw [wk_length _ _ hk]; omega), wk_getD _ _ _ hi]
          have hg : ∀ i, i < k → Sha.g (Sha.sched d k) i < 4294967296 := fun i hi => getD_lt (sched_lt d hdb k) i (by rw [sched_length]; exact hi)
          obtain ⟨z, hz⟩ : ∃ z, wr.cell? ⟨nb, k, none⟩ = some z := by
            rw [cell_of_row _ _ _ _ _ _ hW, List.getElem?_toArray, getD_u32s _ _ (by rw [wk_length _ _ (by omega)]; omega)]; exact ⟨_, rfl⟩
          have hf := frozen_of_row _ _ k _ _ hW
          obtain ⟨x2, hx2, e2⟩ : ∃ x, x < 4294967296 ∧ Sha.g (Sha.sched d k) (k - 2) = x := ⟨_, hg _ (by omega), rfl⟩
          obtain ⟨x7, hx7, e7⟩ : ∃ x, x < 4294967296 ∧ Sha.g (Sha.sched d k) (k - 7) = x := ⟨_, hg _ (by omega), rfl⟩
          obtain ⟨x15, hx15, e15⟩ : ∃ x, x < 4294967296 ∧ Sha.g (Sha.sched d k) (k - 15) = x := ⟨_, hg _ (by omega), rfl⟩
          obtain ⟨x16, hx16, e16⟩ : ∃ x, x < 4294967296 ∧ Sha.g (Sha.sched d k) (k - 16) = x := ⟨_, hg _ (by omega), rfl⟩
          have b2 := hcell (k - 2) (by omega)
          have b7 := hcell (k - 7) (by omega)
          have b15 := hcell (k - 15) (by omega)
          have b16 := hcell (k - 16) (by omega)
          rw [e2] at b2; rw [e7] at b7; rw [e15] at b15; rw [e16] at b16
          have E : Hid (Sha.next d (Sha.sched d k) k = ((((Sha.s1 x2 + x7) % 4294967296 + Sha.s0 x15) % 4294967296 + x16) % 4294967296)) := by
            show Sha.next d (Sha.sched d k) k = _
            unfold Sha.next; rw [if_neg (by omega), e2, e7, e15, e16]; rfl
          clear e2 e7 e15 e16 hcell hg
          have a2 : IntKind.i64.wrap ((k : Int) - 2) = (k : Int) - 2 := IntWalk.i64_in _ (by omega)
          have a7 : IntKind.i64.wrap ((k : Int) - 7) = (k : Int) - 7 := IntWalk.i64_in _ (by omega)
          have a15 : IntKind.i64.wrap ((k : Int) - 15) = (k : Int) - 15 := IntWalk.i64_in _ (by omega)
          have a16 : IntKind.i64.wrap ((k : Int) - 16) = (k : Int) - 16 := IntWalk.i64_in _ (by omega)
          have c : (k : Int) < 64 := by omega
          have c2 : 0 ≤ (k : Int) - 2 ∧ (k : Int) - 2 < 64 := by omega
          have c7 : 0 ≤ (k : Int) - 7 ∧ (k : Int) - 7 < 64 := by omega
          have c15 : 0 ≤ (k : Int) - 15 ∧ (k : Int) - 15 < 64 := by omega
          have c16 : 0 ≤ (k : Int) - 16 ∧ (k : Int) - 16 < 64 := by omega
          have d2 : (2 : Int) ≤ (k : Int) := by omega
          have d7 : (7 : Int) ≤ (k : Int) := by omega
          have d15 : (15 : Int) ≤ (k : Int) := by omega
          have d16 : (16 : Int) ≤ (k : Int) := by omega
          have t2 : ((k : Int) - 2).toNat = k - 2 := by omega
          have t7 : ((k : Int) - 7).toNat = k - 7 := by omega
          have t15 : ((k : Int) - 15).toNat = k - 15 := by omega
          have t16 : ((k : Int) - 16).toNat = k - 16 := by omega
          go_wp2_with fail
          go_still_tail 23, (by kernel_rfl)
          still_call ((rot3_t x2 17 19 10 hx2 (by omega) (by omega) (by omega) (by omega) (by omega) (by omega) _).mono fun e w' h => ⟨h.1, h.2.symm⟩)
          repeat still_step
          still_call ((rot3_t x15 7 18 3 hx15 (by omega) (by omega) (by omega) (by omega) (by omega) (by omega) _).mono fun e w' h => ⟨h.1, h.2.symm⟩)
          repeat still_step
          refine wpStill_nil ?_
          go_wp2
          go_roundw
          case rel =>
            (repeat apply Exists.intro)
            refine ⟨⟨k + 1, by omega, by omega, by go_num, ?_, ((hF.setCell (.inr hnb') _).drew)⟩, rfl⟩
            rw [wk_succ d k (by omega), ← u32s_set, E.out]
            rw [sum4]
            exact heap_setCell_same _ _ _ _ _ _ hW
          case measure => simp [intOf]; omega
        · obtain rfl : k = 64 := by omega
          have hb2 := hF.row hb (by simp)
          have hr : wr.rangeAt b 0 (u32s s) := fun j v hv => by
            rw [cell_of_row _ _ _ _ _ _ hb2]
            have hj : j < s.length := by
              have := (List.getElem?_eq_some_iff.1 hv).1; simpa using this
            rw [Nat.zero_add, List.getElem?_toArray, hc, List.getElem?_append_left (by simpa using hj)]; exact hv
          have hi8 : (Try.prog.info? 34).map (·.size) = some (u32s s).length := by
            have : (Try.prog.info? 34).map (·.size) = some 8 := by kernel_rfl
            rw [this]; simp [hs]
          have hz8 : (u32s s).toArray.size = 8 := by simp [hs]
          go_wp2_with (first
            | (refine wpList_load_mid rfl 34 (.tmp 81) rfl b 0 rfl (u32s s) _ hr Try.underlying34 rfl hi8 ?_)
            | (refine wpList_store_new rfl 34 (.tmp 7) (.tmp 82) rfl _ (u32s s).toArray _ rfl rfl ?h1 ?h2 (all_oneCell_toArray (oc_u32s s)) ?_; (case h1 => rw [hz8]; rfl); (case h2 => rw [hi8]; simp)))
          have hF1 : Hid (Fr [] w (wr.alloc (.cells (u32s s).toArray 34))) := hF.alloc _
          have hW1 : Hid ((wr.alloc (.cells (u32s s).toArray 34)).heap[nb]? = some (.cells (u32s (wk d 64)).toArray 52 (0, 0))) := ((Fr.refl [] wr).alloc _).row hW (by simp)
          have hS1 : Hid ((wr.alloc (.cells (u32s s).toArray 34)).heap[wr.heap.size]? = some (.cells (u32s s).toArray 34 (0, 0))) := heap_alloc_last _ _
          obtain ⟨sb, hsb0⟩ : ∃ sb, sb = wr.heap.size := ⟨_, rfl⟩
          have hsb1 : w.heap.size ≤ sb := by have := hF.size; omega
          have hsn : nb < sb := by have := row_lt hW; omega
          rw [← hsb0] at hS1 ⊢
          clear hsb0 hW hF hr hb2 hi8 hz8
          generalize wr.alloc (.cells (u32s s).toArray 34) = w1 at *
          refine (kay _).mono ?_
          rintro e w2 ⟨rfl, hF2⟩
          have hF3 : Hid (Fr [] w w2) := hF1.out.trans0 hF2
          have hW3 : Hid (w2.heap[nb]? = some (.cells (u32s (wk d 64)).toArray 52 (0, 0))) := hF2.row hW1.out (by simp)
          have hS3 : Hid (w2.heap[sb]? = some (.cells (u32s s).toArray 34 (0, 0))) := hF2.row hS1.out (by simp)
          have hi64 : (Try.prog.info? 52).map (·.size) = some (u32s Sha.ks).length := by kernel_rfl
          clear hF1 hW1 hS1 hF2
          go_wp2_with (refine wpList_store_new rfl 52 (.tmp 8) (.tmp 83) rfl _ (u32s Sha.ks).toArray _ rfl rfl ?h1 ?h2 (all_oneCell_toArray (oc_u32s Sha.ks)) ?_; (case h1 => rfl); (case h2 => rw [hi64]; simp))
          obtain ⟨kb, hkb0⟩ : ∃ kb, kb = w2.heap.size := ⟨_, rfl⟩
          have hkb1 : sb < kb := by have := row_lt hS3.out; omega
          rw [← hkb0]
          refine wp_fresh (fun W => W.heap[nb]? = some (.cells (u32s (wk d 64)).toArray 52 (0, 0)) ∧ W.heap[sb]? = some (.cells (u32s s).toArray 34 (0, 0)) ∧ W.heap[kb]? = some (.cells (u32s Sha.ks).toArray 52 (0, 0)) ∧ Fr [] w W)
            ⟨((Fr.refl [] w2).alloc _).row hW3.out (by simp), ((Fr.refl [] w2).alloc _).row hS3.out (by simp), by rw [hkb0]; exact heap_alloc_last _ _, hF3.out.alloc _⟩ ?_
          clear hF3 hW3 hS3 hkb0
          clear w2 w1
          rintro W ⟨hW, hS, hK, hF⟩
          go_loopw [9, 10, 11, 84] (fun _ _ _ t W => ∃ k : Nat, k ≤ 64 ∧ t = .int .i64 k ∧ W.heap[nb]? = some (.cells (u32s (wk d 64)).toArray 52 (0, 0)) ∧ W.heap[sb]? = some (.cells (u32s (Sha.rounds (Sha.sched d 64) s k)).toArray 34 (0, 0)) ∧ W.heap[kb]? = some (.cells (u32s Sha.ks).toArray 52 (0, 0)) ∧ Fr [] w W) (fun _ _ _ t _ => 64 - (intOf t).toNat)
          case atStart => exact ⟨0, by omega, rfl, hW, hS, hK, hF⟩
          case round =>
            clear hW hS hK hF
            obtain ⟨k, hk, rfl, hW, hS, hK, hF⟩ := hrel
            by_cases hlt : k < 64
            · obtain ⟨hl8, hlt8⟩ := rounds_ok (Sha.sched d 64) s hs hsb k
              have hcell : ∀ i, i < 8 → wr.cell? ⟨sb, i, none⟩ = some (.int .u32 ((Sha.g (Sha.rounds (Sha.sched d 64) s k) i : Nat) : Int)) := fun i hi => by
                rw [cell_of_row _ _ _ _ _ _ hS, List.getElem?_toArray, getD_u32s _ _ (by omega)]; rfl
              have hg : ∀ i, i < 8 → Sha.g (Sha.rounds (Sha.sched d 64) s k) i < 4294967296 := fun i hi => getD_lt hlt8 i (by omega)
              have E : Hid (Sha.rounds (Sha.sched d 64) s (k + 1) = Sha.round (Sha.rounds (Sha.sched d 64) s k) (Sha.g Sha.ks k) (Sha.g (Sha.sched d 64) k)) := rfl
              have ck : wr.cell? ⟨kb, k, none⟩ = some (.int .u32 ((Sha.g Sha.ks k : Nat) : Int)) := by
                rw [cell_of_row _ _ _ _ _ _ hK, List.getElem?_toArray, getD_u32s _ _ (by show k < 64; omega)]; rfl
              have cw : wr.cell? ⟨nb, k, none⟩ = some (.int .u32 ((Sha.g (Sha.sched d 64) k : Nat) : Int)) := by
                rw [cell_of_row _ _ _ _ _ _ hW, List.getElem?_toArray, getD_u32s _ _ (by rw [wk_length _ _ (by omega)]; omega), wk_getD _ _ _ hlt]
              generalize Sha.g Sha.ks k = kk at *
              generalize Sha.g (Sha.sched d 64) k = ww at *
              have hl8' : Hid ((u32s (Sha.rounds (Sha.sched d 64) s k)).length = 8) := by show _ = _; simp [hl8]
              generalize Sha.rounds (Sha.sched d 64) s k = S at *
              clear hl8 hlt8
              have c0 := hcell 0 (by omega); have c1 := hcell 1 (by omega); have c2 := hcell 2 (by omega); have c3 := hcell 3 (by omega)
              have c4 := hcell 4 (by omega); have c5 := hcell 5 (by omega); have c6 := hcell 6 (by omega); have c7 := hcell 7 (by omega)
              have g0 := hg 0 (by omega); have g1 := hg 1 (by omega); have g2 := hg 2 (by omega)
              have g4 := hg 4 (by omega); have g5 := hg 5 (by omega); have g6 := hg 6 (by omega)
              clear hcell hg
              have ER : Hid (Sha.round S kk ww = [(Sha.rx S kk ww + Sha.ry S) % 4294967296, Sha.g S 0, Sha.g S 1, Sha.g S 2, (Sha.g S 3 + Sha.rx S kk ww) % 4294967296, Sha.g S 4, Sha.g S 5, Sha.g S 6]) := rfl
              have EX : Hid (Sha.rx S kk ww = ((((Sha.g S 7 + Sha.e1 (Sha.g S 4)) % 4294967296 + Sha.ch (Sha.g S 4) (Sha.g S 5) (Sha.g S 6)) % 4294967296 + kk) % 4294967296 + ww) % 4294967296) := rfl
              have EY : Hid (Sha.ry S = (Sha.e0 (Sha.g S 0) + Sha.maj (Sha.g S 0) (Sha.g S 1) (Sha.g S 2)) % 4294967296) := rfl
              generalize Sha.g S 0 = x0 at *
              generalize Sha.g S 1 = x1 at *
              generalize Sha.g S 2 = x2 at *
              generalize Sha.g S 3 = x3 at *
              generalize Sha.g S 4 = x4 at *
              generalize Sha.g S 5 = x5 at *
              generalize Sha.g S 6 = x6 at *
              generalize Sha.g S 7 = x7 at *
              have cc : (k : Int) < 64 := by omega
              have hch := ch_bits x4 x5 x6 g4 g5 g6
              have hmaj := maj_bits x0 x1 x2 g0 g1 g2
              have hX := sum5 x7 (Sha.e1 x4) (Sha.ch x4 x5 x6) kk ww
              have hY := sum2 (Sha.e0 x0) (Sha.maj x0 x1 x2)
              have hA := sum2 (Sha.rx S kk ww) (Sha.ry S)
              have hB := sum2 x3 (Sha.rx S kk ww)
              rw [← EX.out] at hX
              rw [← EY.out] at hY
              generalize Sha.rx S kk ww = X at *
              generalize Sha.ry S = Y at *
              generalize (X + Y) % 4294967296 = A at *
              generalize (x3 + X) % 4294967296 = B at *
              clear EX EY
              have hi8 : (Try.prog.info? 34).map (·.size) = some (u32s [A, x0, x1, x2, B, x4, x5, x6]).length := by kernel_rfl
              go_wp2_with fail
              go_quiet ((go_at_call 23; exact Calls.quiet_of_same ((rot3_f x4 6 11 25 g4 (by omega) (by omega) (by omega) (by omega) (by omega) (by omega) _).mono fun e w' h => ⟨h.1.trans (show _ = Ending.returned (.int .u32 (Sha.e1 x4 : Nat)) from rfl), h.2.symm⟩)))
              go_wp2_with fail
              refine wp_fresh (fun V => Fr [] wr V) ((Fr.refl _ _).drewN _) ?_
              intro V hV
              replace c0 := hV.cells c0; replace c1 := hV.cells c1; replace c2 := hV.cells c2; replace c3 := hV.cells c3
              replace c4 := hV.cells c4; replace c5 := hV.cells c5; replace c6 := hV.cells c6
              replace hW := hV.row hW (by simp)
              replace hS := hV.row hS (by simp)
              replace hK := hV.row hK (by simp)
              replace hF := hF.trans0 hV
              clear hV ck cw c7
              go_quiet ((go_at_call 23; exact Calls.quiet_of_same ((rot3_f x0 2 13 22 g0 (by omega) (by omega) (by omega) (by omega) (by omega) (by omega) _).mono fun e w' h => ⟨h.1.trans (show _ = Ending.returned (.int .u32 (Sha.e0 x0 : Nat)) from rfl), h.2.symm⟩)))
              go_wp2_with (first
                | (refine wpList_built rfl 34 _ rfl (.agg (u32s [A, x0, x1, x2, B, x4, x5, x6]).toArray) ?hr ?_; (case hr => kernel_rfl))
                | (refine wpList_store_part rfl 34 (.tmp 7) (.tmp 154) rfl sb 0 (u32s S).toArray 34 (u32s [A, x0, x1, x2, B, x4, x5, x6]) ?hg rfl rfl ?h1 hi8 (oc_u32s _) ?_; (case hg => rw [heap_drewN]; exact hS); (case h1 => rw [List.size_toArray, hl8'.out]; exact Nat.le_refl 8)))
              go_roundw
              case rel =>
                refine ⟨k + 1, by omega, by go_num, ?_, ?_, ?_, ?_⟩
                · rw [setRow_other _ _ _ _ (by omega), heap_drewN]; exact hW
                · rw [E.out, ER.out]
                  refine (setRow_heap _ _ _ _ _ _ (by rw [heap_drewN]; exact hS)).trans ?_
                  congr 3
                  simp [List.drop_of_length_le, hl8'.out]
                · rw [setRow_other _ _ _ _ (by omega), heap_drewN]; exact hK
                · exact (hF.drewN _).setRow (.inr hsb1) _
              case measure => simp [intOf]; omega
            · obtain rfl : k = 64 := by omega
              have hb2 := hF.row hb (by simp)
              obtain ⟨hl8, hlt8⟩ := rounds_ok (Sha.sched d 64) s hs hsb 64
              have EO : Hid (Sha.one s d = fin s (Sha.rounds (Sha.sched d 64) s 64) 8) := by
                show _ = _
                unfold Sha.one fin
                apply List.map_congr_left
                intro i hi
                rw [if_pos (by simpa using hi)]; rfl
              generalize Sha.rounds (Sha.sched d 64) s 64 = R at *
              clear hlt8 hW hK
              go_wp2_with fail
              go_loopw [12, 156] (fun _ t W => ∃ k : Nat, k ≤ 8 ∧ t = .int .i64 k ∧ W.heap[sb]? = some (.cells (u32s R).toArray 34 (0, 0)) ∧ W.heap[b]? = some (.cells (hc (fin s R k) l n on).toArray 38 (0, 0)) ∧ Fr [b] w W) (fun _ t _ => 8 - (intOf t).toNat)
              case atStart => exact ⟨0, by omega, rfl, hS, by rw [fin_zero _ _ hs]; exact hb2, (Fr.refl _ _).trans0 hF⟩
              case round =>
                clear hS hF hb2
                obtain ⟨k, hk, rfl, hS, hb2, hF⟩ := hrel
                by_cases hlt : k < 8
                · have c1 : wr.cell? ⟨sb, k, none⟩ = some (.int .u32 ((Sha.g R k : Nat) : Int)) := by
                    rw [cell_of_row _ _ _ _ _ _ hS, List.getElem?_toArray, getD_u32s _ _ (by omega)]; rfl
                  have c2 : wr.cell? ⟨b, k, none⟩ = some (.int .u32 ((Sha.g s k : Nat) : Int)) := by
                    rw [cell_of_row _ _ _ _ _ _ hb2, hc_sum_at _ _ _ _ (fin_length _ _ _) _ hlt, fin_getD _ _ _ hlt]
                  have c3 := frozen_of_row _ _ k _ _ hb2
                  have cc : (k : Int) < 8 := by omega
                  have cA := sum2 (Sha.g s k) (Sha.g R k)
                  have E : Hid ((fin s R k).set k ((Sha.g s k + Sha.g R k) % 4294967296) = fin s R (k + 1)) := by
                    show _ = _
                    rw [fin_succ _ _ _ hlt, Nat.add_comm]
                  generalize (Sha.g s k + Sha.g R k) % 4294967296 = A at *
                  generalize Sha.g R k = x at *
                  generalize Sha.g s k = y at *
                  go_wp2_with fail
                  go_still_tail 13, (by kernel_rfl)
                  go_wp2
                  go_roundw
                  case rel =>
                    (repeat apply Exists.intro)
                    refine ⟨⟨k + 1, by omega, by go_num, ?_, ?_, ?_⟩, rfl⟩
                    · refine (Below.heap_setCell _ _ _ _ (show sb ≠ b by omega)).trans hS
                    · rw [← E.out, ← hc_set_sum _ _ _ _ (fin_length _ _ _) _ _ hlt]
                      exact heap_setCell_same _ _ _ _ _ _ hb2
                    · exact (hF.setCell (.inl (by simp)) _).drew
                  case measure => simp [intOf]; omega
                · obtain rfl : k = 8 := by omega
                  go_wp2_with fail
                  go_end0
                  exact ⟨rfl, hF, by rw [EO.out]; exact hb2⟩
end Go.Proofs.Ytanegflohbgkdaa
