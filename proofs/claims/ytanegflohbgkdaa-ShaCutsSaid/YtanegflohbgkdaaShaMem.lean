/-
  Lemmas and contracts that the proofs over this seat use (part ShaMem); no statement of the seat is claimed in this text, and nothing is assumed in it.
-/
import Derived.Test.YtanegflohbgkdaaShaRot
set_option linter.unusedVariables false
set_option linter.unusedSimpArgs false
namespace Go.Proofs.Ytanegflohbgkdaa
open Go.RowKit
def u32s (l : List Nat) : List Value := l.map fun (x : Nat) => Value.int .u32 (x : Int)
def u8s (l : List Nat) : List Value := l.map fun (x : Nat) => Value.int .u8 (x : Int)
@[simp] theorem u32s_length (l : List Nat) : (u32s l).length = l.length := by simp [u32s]
@[simp] theorem u8s_length (l : List Nat) : (u8s l).length = l.length := by simp [u8s]
theorem oc_u32s (l : List Nat) : ∀ v ∈ u32s l, v.oneCell' = true := by
  intro v hv
  simp only [u32s, List.mem_map] at hv; obtain ⟨x, _, rfl⟩ := hv; rfl
theorem oc_u8s (l : List Nat) : ∀ v ∈ u8s l, v.oneCell' = true := by
  intro v hv
  simp only [u8s, List.mem_map] at hv; obtain ⟨x, _, rfl⟩ := hv; rfl
/-- A digest on its way, its cells. -/
def hc (s l : List Nat) (n : Nat) (on : Bool) : List Value := u32s s ++ (u8s l ++ [.int .u64 (n : Int), .bool on])
theorem hc_length (s l : List Nat) (n : Nat) (on : Bool) : (hc s l n on).length = s.length + (l.length + 2) := by simp [hc]
theorem hc_on (s l : List Nat) (n : Nat) (on : Bool) (hs : s.length = 8) (hl : l.length = 64) : (hc s l n on).toArray[73]? = some (.bool on) := by
  simp [hc, List.getElem?_append, hs, hl]
theorem hc_n (s l : List Nat) (n : Nat) (on : Bool) (hs : s.length = 8) (hl : l.length = 64) : (hc s l n on).toArray[72]? = some (.int .u64 (n : Int)) := by
  simp [hc, List.getElem?_append, hs, hl]
theorem hc_set_on (s l : List Nat) (n : Nat) (on b : Bool) (hs : s.length = 8) (hl : l.length = 64) : (hc s l n on).toArray.setIfInBounds 73 (.bool b) = (hc s l n b).toArray := by
  simp [hc, List.set_append, hs, hl]
theorem hc_set_n (s l : List Nat) (n m : Nat) (on : Bool) (hs : s.length = 8) (hl : l.length = 64) : (hc s l n on).toArray.setIfInBounds 72 (.int .u64 (m : Int)) = (hc s l m on).toArray := by
  simp [hc, List.set_append, hs, hl]
theorem hc_sum (s l s' : List Nat) (n : Nat) (on : Bool) (hs : s.length = 8) (hs' : s'.length = 8) :
    ((hc s l n on).toArray.toList.take 0 ++ u32s s' ++ (hc s l n on).toArray.toList.drop (0 + (u32s s').length)).toArray = (hc s' l n on).toArray := by
  simp [hc, hs', List.drop_append, hs]
set_option maxHeartbeats 400000 in
set_option maxRecDepth 100000 in
theorem kay (w : World) :
    Calls Try.prog 24 #[] w fun e w' => e = .returned (.agg (u32s Sha.ks).toArray) ∧ Fr [] w w' := by
  have hks : (u32s Sha.ks).toArray.size = 64 := rfl
  have hi : (Try.prog.info? 52).map (·.size) = some 64 := by kernel_rfl
  have hd := all_oneCell_toArray (oc_u32s Sha.ks)
  go_enter Try.func24, Try.ntmps24
  iterate 11 go_step
  refine wpList_run rfl (.agg (u32s Sha.ks).toArray) ?hr ?_
  case hr => kernel_rfl
  refine wpList_store_new rfl 52 (.tmp 0) (.tmp 1) rfl _ (u32s Sha.ks).toArray _ rfl rfl ?h1 ?h2 hd ?_; (case h1 => rfl); (case h2 => rw [hi, hks])
  go_wp2
  refine bodyPost_ret (v := .agg (u32s Sha.ks).toArray) (results_cell_row rfl _ _ _ 52 _ (0,0) _ rfl ?_ Try.underlying52 rfl ?_) rfl ⟨rfl, ?_⟩
  · exact heap_alloc_last _ _
  · rw [hi, hks]
  · exact (Fr.refl _ _).alloc _
set_option maxHeartbeats 400000 in
theorem begin_on (w : World) (b : Nat) (s l : List Nat) (n : Nat) (hs : s.length = 8) (hl : l.length = 64) (hb : w.heap[b]? = some (.cells (hc s l n true).toArray 38 (0, 0))) :
    Calls Try.prog 19 #[.pointer (some ⟨b, 0, none⟩)] w fun e w' => e = .returned (.tuple #[]) ∧ w = w' := by
  have h73 : w.cell? ⟨b, 73, none⟩ = some (.bool true) := by rw [cell_of_row _ _ _ _ _ _ hb, hc_on _ _ _ _ hs hl]
  clear hb
  go_enter Try.func19, Try.ntmps19
  go_wp2
  go_end0
  exact ⟨rfl, rfl⟩
set_option maxHeartbeats 400000 in
theorem begin_off (w : World) (b : Nat) (s l : List Nat) (n : Nat) (hs : s.length = 8) (hl : l.length = 64) (hb : w.heap[b]? = some (.cells (hc s l n false).toArray 38 (0, 0))) :
    Calls Try.prog 19 #[.pointer (some ⟨b, 0, none⟩)] w fun e w' => e = .returned (.tuple #[]) ∧ Fr [b] w w' ∧ w'.heap[b]? = some (.cells (hc Sha.iv l n true).toArray 38 (0, 0)) := by
  have h73 : w.cell? ⟨b, 73, none⟩ = some (.bool false) := by rw [cell_of_row _ _ _ _ _ _ hb, hc_on _ _ _ _ hs hl]
  have f73 : w.frozen? ⟨b, 73, none⟩ = false := frozen_of_row _ _ _ _ _ hb
  have hb1 := heap_setCell_same w b 73 _ _ (.bool true) hb
  rw [hc_set_on _ _ _ _ _ hs hl] at hb1
  have hb2 := Lib.hid hb1
  have hF : Hid (Fr [b] w (w.setCell ⟨b, 73, none⟩ (.bool true))) := (Fr.refl _ _).setCell (.inl (by simp)) _
  have hi : (Try.prog.info? 34).map (·.size) = some (u32s Sha.iv).length := by kernel_rfl
  have hz := hc_length s l n true
  clear hb hb1
  go_enter Try.func19, Try.ntmps19
  go_wp2_with (first
    | (refine wpList_built rfl 34 _ rfl (.agg (u32s Sha.iv).toArray) ?hr ?_; (case hr => kernel_rfl))
    | (refine wpList_store_part rfl 34 (.tmp 13) (.tmp 11) rfl b 0 _ _ (u32s Sha.iv) hb2.out rfl rfl ?h1 hi (oc_u32s _) ?_; (case h1 => simp [hc_length, hs, hl, Sha.iv])))
  go_end0
  refine ⟨rfl, hF.out.setRow (.inl (by simp)) _, ?_⟩
  rw [setRow_heap _ _ _ _ _ _ hb2.out]
  simp [hc, List.drop_append, hs, Sha.iv]
end Go.Proofs.Ytanegflohbgkdaa
