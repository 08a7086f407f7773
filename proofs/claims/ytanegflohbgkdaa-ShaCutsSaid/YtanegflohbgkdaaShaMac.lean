/-
  Lemmas and contracts that the proofs over this seat use (part ShaMac); no statement of the seat is claimed in this text, and nothing is assumed in it.
-/
import Derived.Test.YtanegflohbgkdaaShaJoin
import Derived.Test.YtanegflohbgkdaaLib2
set_option linter.unusedVariables false
set_option linter.unusedSimpArgs false
namespace Go.Proofs.Ytanegflohbgkdaa
open Go.RowKit
theorem sum_length (l : List Nat) : (Sha.sum l).length = 32 := by rw [Sha.sum, bytes_length, (st_ok _).1]
theorem bytes_lt (S : List Nat) (h : ∀ x ∈ S, x < 4294967296) : ∀ x ∈ Sha.bytes S, x < 256 := by
  intro y hy
  simp only [Sha.bytes, List.mem_flatMap] at hy
  obtain ⟨x, hx, hy⟩ := hy
  have := h x hx
  simp only [List.mem_cons, List.not_mem_nil, or_false] at hy
  rcases hy with rfl | rfl | rfl | rfl <;> omega
theorem sum_lt (l : List Nat) : ∀ x ∈ Sha.sum l, x < 256 := bytes_lt _ (st_ok _).2
theorem hi32 (l : List Nat) : (Try.prog.info? 24).map (·.size) = some (u8s (Sha.sum l)).length := by
  have : (Try.prog.info? 24).map (·.size) = some 32 := by kernel_rfl
  rw [this]; simp [sum_length]
set_option maxHeartbeats 4000000 in
set_option maxRecDepth 100000 in
theorem ssum (w : World) (x : Pt) (hx : x.Ok w) (hN : x.d.length ≤ 900000000) :
    Calls Try.prog 10 #[.slice x.p x.len x.cap] w fun e w' => e = .returned (.agg (u8s (Sha.sum x.d)).toArray) ∧ Fr [] w w' := by
  go_enter Try.func10, Try.ntmps10
  go_wp2_with fail
  refine calls_fresh (fun W => W.heap[w.heap.size + 1]? = some (.cells #[x.v] 26 (0, 0)) ∧ W.heap[w.heap.size]? = some (.cells (u8s (zs 32)).toArray 24 (0, 0)) ∧ Fr [] w W) ⟨heap_alloc2_new _ _ _, heap_alloc2_old _ _ _, ((Fr.refl _ _).alloc _).alloc _⟩ ?_
  rintro W ⟨hcb, hrb, hF⟩
  have hr := row_lt hrb
  have hcat : cat [x] = x.d := by simp [cat]
  refine (join W _ 1 1 [x] rfl (by decide) (fun _ => ⟨w.heap.size + 1, 0, rfl, row_lt hcb, fun i y hy => ?_⟩) (fun y hy => ?_) (by rw [hcat]; exact hN)).mono ?_
  · cases i with
    | zero => cases hy; rw [cell_of_row _ _ _ _ _ _ hcb]; rfl
    | succ i => cases hy
  · simp only [List.mem_singleton] at hy; subst hy; exact hx.fr hF
  rintro e w3 ⟨rfl, hF3⟩
  rw [hcat]
  have hi := hi32 x.d
  have hsl := sum_length x.d
  have HRB := Lib.hid (hF3.row hrb (by simp))
  generalize hS : Sha.sum x.d = S at *
  have HS := Lib.hid hS
  have HSL := Lib.hid hsl
  clear hS hsl hcat hrb hcb
  go_wp2_with (refine wpList_store_part rfl 24 (.tmp 2) (.tmp 5) rfl w.heap.size 0 _ _ (u8s S) HRB.out rfl rfl ?h1 hi (oc_u8s _) ?_; (case h1 => simp [HSL.out, zs]))
  refine bodyPost_ret (v := .agg (u8s S).toArray) (results_cell_row rfl _ _ w.heap.size 24 _ (0, 0) _ rfl ?_ Try.underlying24 rfl ?_) rfl ⟨by rw [HS.out], ?_⟩
  · refine (setRow_heap _ _ _ _ _ _ HRB.out).trans ?_
    congr 3
    simp [HSL.out, zs, u8s]
  · rw [hi]; simp
  · exact (hF.trans0 hF3).setRow (.inr (Nat.le_refl _)) _
end Go.Proofs.Ytanegflohbgkdaa
