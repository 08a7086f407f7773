/-
  Lemmas and contracts that the proofs over this seat use (part ShaAlive); no statement of the seat is claimed in this text, and nothing is assumed in it.
-/
import Derived.Test.YtanegflohbgkdaaShaSame
import Derived.Lib.SlBytesConst
import Derived.Lib.ConvBytes
set_option linter.unusedVariables false
set_option linter.unusedSimpArgs false
namespace Go.Proofs.Ytanegflohbgkdaa
open Go.RowKit
def kAbc : List Nat := [97, 98, 99]
def kJefe : List Nat := [74, 101, 102, 101]
def kWhat : List Nat := [119, 104, 97, 116, 32, 100, 111, 32, 121, 97, 32, 119, 97, 110, 116, 32, 102, 111, 114, 32, 110, 111, 116, 104, 105, 110, 103, 63]
set_option maxRecDepth 100000 in
theorem abc_is : (Sha.sum kAbc).take 4 = [186, 120, 22, 191] := by decide +kernel
set_option maxRecDepth 100000 in
theorem jefe_is : (Sha.mac kJefe kWhat).take 2 = [91, 220] := by decide +kernel
theorem getD_of_take {l m : List Nat} {n i : Nat} (h : l.take n = m) (hi : i < n) : l.getD i 0 = m.getD i 0 := by
  rw [← h]; simp [List.getD, List.getElem?_take, hi]
theorem mac_length (k l : List Nat) : (Sha.mac k l).length = 32 := sum_length _
theorem kc0 (w : World) (C : Array Value) (n c : Nat) : (convert 26 26 (.slice (some ⟨w.heap.size, 0, none⟩) n c)).run Try.prog (w.alloc (.cells C 5)) = .ok (.slice (some ⟨w.heap.size, 0, none⟩) n c) (w.alloc (.cells C 5 (C.size, C.size + 1))) :=
  Lib.run_convert_bytes_const w 26 5 C n c Try.underlying26 Try.underlying5
theorem kc1 (w : World) (X : Obj) (C : Array Value) (n c : Nat) : (convert 26 26 (.slice (some ⟨w.heap.size + 1, 0, none⟩) n c)).run Try.prog ((w.alloc X).alloc (.cells C 5)) = .ok (.slice (some ⟨w.heap.size + 1, 0, none⟩) n c) ((w.alloc X).alloc (.cells C 5 (C.size, C.size + 1))) := by
  have := kc0 (w.alloc X) C n c
  rwa [show (w.alloc X).heap.size = w.heap.size + 1 by simp] at this
theorem kc2 (w : World) (X Y : Obj) (C : Array Value) (n c : Nat) : (convert 26 26 (.slice (some ⟨w.heap.size + 1 + 1, 0, none⟩) n c)).run Try.prog (((w.alloc X).alloc Y).alloc (.cells C 5)) = .ok (.slice (some ⟨w.heap.size + 1 + 1, 0, none⟩) n c) (((w.alloc X).alloc Y).alloc (.cells C 5 (C.size, C.size + 1))) := by
  have := kc0 ((w.alloc X).alloc Y) C n c
  rwa [show ((w.alloc X).alloc Y).heap.size = w.heap.size + 1 + 1 by simp] at this
set_option maxHeartbeats 4000000 in
set_option maxRecDepth 100000 in
theorem alive (w : World) : Calls Try.prog 8 #[] w fun e w' => e = .returned (.bool true) ∧ Fr [] w w' := by
  have k0 := kc0
  have k1 := kc1
  have k2 := kc2
  go_enter Try.func8, Try.ntmps8
  go_wp2_with fail
  refine calls_fresh (fun W => W.heap[w.heap.size]? = some (.cells (u8s kAbc).toArray 5 (3, 4)) ∧ Fr [] w W) ⟨heap_alloc_last _ _, (Fr.refl _ _).alloc _⟩ ?_
  rintro W ⟨hb, hF⟩
  refine (ssum W ⟨some ⟨w.heap.size, 0, none⟩, 3, 3, kAbc⟩ (pt_row hb (by decide) 3 rfl (by omega)) (Nat.le_of_ble_eq_true rfl)).mono ?_
  rintro e w1 ⟨rfl, hF1⟩
  show _
  have hi := hi32 kAbc
  have a0 := getD_of_take abc_is (i := 0) (by omega)
  have a1 := getD_of_take abc_is (i := 1) (by omega)
  have a2 := getD_of_take abc_is (i := 2) (by omega)
  have a3 := getD_of_take abc_is (i := 3) (by omega)
  have HSL := Lib.hid (sum_length kAbc)
  replace hF := hF.trans0 hF1
  show _
  generalize Sha.sum kAbc = S1 at *
  clear hF1 hb
  have HI := Lib.hid hi
  have A0 := Lib.hid a0
  have A1 := Lib.hid a1
  have A2 := Lib.hid a2
  have A3 := Lib.hid a3
  clear hi a0 a1 a2 a3
  go_wp2_with (refine wpList_store_new rfl 24 (.tmp 1) (.tmp 5) rfl _ (u8s S1).toArray _ rfl rfl ?h1 ?h2 (all_oneCell_toArray (oc_u8s S1)) ?_; (case h1 => simp [HSL.out]); (case h2 => rw [HI.out]; simp))
  refine calls_fresh (fun W => W.heap[w1.heap.size]? = some (.cells (u8s S1).toArray 24 (0, 0)) ∧ W.heap[w1.heap.size + 1]? = some (.cells (u8s kJefe).toArray 5 (4, 5)) ∧ W.heap[w1.heap.size + 1 + 1]? = some (.cells (u8s kWhat).toArray 5 (28, 29)) ∧ Fr [] w W) ⟨heap_alloc3_0 _ _ _ _, heap_alloc3_1 _ _ _ _, heap_alloc3_2 _ _ _ _, ((hF.alloc _).alloc _).alloc _⟩ ?_
  clear hF
  rintro W2 ⟨hb1, hb2, hb3, hF⟩
  refine (mac W2 ⟨some ⟨w1.heap.size + 1, 0, none⟩, 4, 4, kJefe⟩ ⟨some ⟨w1.heap.size + 1 + 1, 0, none⟩, 28, 28, kWhat⟩ (pt_row hb2 (by decide) 4 rfl (by omega)) (pt_row hb3 (by decide) 28 rfl (by omega)) (Nat.le_of_ble_eq_true rfl) (Nat.le_of_ble_eq_true rfl)).mono ?_
  rintro e w2 ⟨rfl, hF2⟩
  show _
  have b0 := Lib.hid (getD_of_take jefe_is (i := 0) (by omega))
  have b1 := Lib.hid (getD_of_take jefe_is (i := 1) (by omega))
  have HML := Lib.hid (mac_length kJefe kWhat)
  have HI2 : Hid ((Try.prog.info? 24).map (·.size) = some (u8s (Sha.mac kJefe kWhat)).length) := hi32 _
  replace hF := hF.trans0 hF2
  replace hb1 := hF2.row hb1 (by simp)
  clear hF2 hb2 hb3
  generalize Sha.mac kJefe kWhat = S2 at *
  generalize w1.heap.size = ab at *
  have HB1 := Lib.hid hb1
  clear hb1
  have s0 : (w2.alloc (.cells (u8s S2).toArray 24)).cell? ⟨ab, 0, none⟩ = some (.int .u8 186) := by
    rw [cell_of_row _ _ _ _ _ _ (((Fr.refl [] w2).alloc _).row HB1.out (by simp)), List.getElem?_toArray, getD_u8s _ _ (by rw [HSL.out]; omega), A0.out]; rfl
  have s1 : (w2.alloc (.cells (u8s S2).toArray 24)).cell? ⟨ab, 1, none⟩ = some (.int .u8 120) := by
    rw [cell_of_row _ _ _ _ _ _ (((Fr.refl [] w2).alloc _).row HB1.out (by simp)), List.getElem?_toArray, getD_u8s _ _ (by rw [HSL.out]; omega), A1.out]; rfl
  have s2 : (w2.alloc (.cells (u8s S2).toArray 24)).cell? ⟨ab, 2, none⟩ = some (.int .u8 22) := by
    rw [cell_of_row _ _ _ _ _ _ (((Fr.refl [] w2).alloc _).row HB1.out (by simp)), List.getElem?_toArray, getD_u8s _ _ (by rw [HSL.out]; omega), A2.out]; rfl
  have s3 : (w2.alloc (.cells (u8s S2).toArray 24)).cell? ⟨ab, 3, none⟩ = some (.int .u8 191) := by
    rw [cell_of_row _ _ _ _ _ _ (((Fr.refl [] w2).alloc _).row HB1.out (by simp)), List.getElem?_toArray, getD_u8s _ _ (by rw [HSL.out]; omega), A3.out]; rfl
  have t0 : (w2.alloc (.cells (u8s S2).toArray 24)).cell? ⟨w2.heap.size, 0, none⟩ = some (.int .u8 91) := by
    rw [cell_of_row _ _ _ _ _ _ (heap_alloc_last w2 _), List.getElem?_toArray, getD_u8s _ _ (by rw [HML.out]; omega), b0.out]; rfl
  have t1 : (w2.alloc (.cells (u8s S2).toArray 24)).cell? ⟨w2.heap.size, 1, none⟩ = some (.int .u8 220) := by
    rw [cell_of_row _ _ _ _ _ _ (heap_alloc_last w2 _), List.getElem?_toArray, getD_u8s _ _ (by rw [HML.out]; omega), b1.out]; rfl
  have hF3 := hF.alloc (.cells (u8s S2).toArray 24)
  clear hF
  go_wp2_with (refine wpList_store_new rfl 24 (.tmp 2) (.tmp 10) rfl _ (u8s S2).toArray _ rfl rfl ?h1 ?h2 (all_oneCell_toArray (oc_u8s S2)) ?_; (case h1 => simp [HML.out]); (case h2 => rw [HI2.out]; simp); refine wpList_fresh (fun W => W.cell? ⟨ab, 0, none⟩ = some (.int .u8 186) ∧ W.cell? ⟨ab, 1, none⟩ = some (.int .u8 120) ∧ W.cell? ⟨ab, 2, none⟩ = some (.int .u8 22) ∧ W.cell? ⟨ab, 3, none⟩ = some (.int .u8 191) ∧ W.cell? ⟨w2.heap.size, 0, none⟩ = some (.int .u8 91) ∧ W.cell? ⟨w2.heap.size, 1, none⟩ = some (.int .u8 220) ∧ Fr [] w W) ⟨s0, s1, s2, s3, t0, t1, hF3⟩ ?_; clear s0 s1 s2 s3 t0 t1 hF3; rintro W3 ⟨s0, s1, s2, s3, t0, t1, hF⟩)
  refine calls_fresh (fun W => W.heap[W3.heap.size]? = some (.cells (u8s [97]).toArray 5 (1, 2)) ∧ W.heap[W3.heap.size + 1]? = some (.cells (u8s [97]).toArray 5 (1, 2)) ∧ Fr [] w W) ⟨heap_alloc2_old _ _ _, heap_alloc2_new _ _ _, (hF.alloc _).alloc _⟩ ?_
  clear hF s0 s1 s2 s3 t0 t1
  rintro W4 ⟨hb1, hb2, hF⟩
  refine (same_eq W4 ⟨some ⟨W3.heap.size, 0, none⟩, 1, 1, [97]⟩ ⟨some ⟨W3.heap.size + 1, 0, none⟩, 1, 1, [97]⟩ (pt_row hb1 (by decide) 1 rfl (by omega)) (pt_row hb2 (by decide) 1 rfl (by omega)) rfl).mono ?_
  rintro e w5 ⟨rfl, hF5⟩
  replace hF := hF.trans0 hF5
  clear hF5 hb1 hb2
  show _
  go_wp2_with fail
  go_ret
  exact ⟨rfl, hF⟩
end Go.Proofs.Ytanegflohbgkdaa
