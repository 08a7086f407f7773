/-
  Lemmas and contracts that the proofs over this seat use (PolCatch); no statement of the seat is claimed in this text, and nothing is assumed in it.
-/
import Derived.Test.YtgklmpooonnmiaaDoorJ26
import Derived.Recover
import Derived.Defers
import Derived.BigRegion
set_option linter.unusedVariables false
set_option linter.unusedSimpArgs false
namespace Go.Proofs.YtgklmpooonnmiaaDoor
open Go.RowKit
set_option maxHeartbeats 1000000 in
set_option maxRecDepth 100000 in
theorem catch_idle (b2 b3 : Nat) (w : World) :
  CallsD Tryd.prog 54 #[.pointer (some ⟨b2, 0, none⟩), .pointer (some ⟨b3, 0, none⟩)] .returning w fun e u' w' => e = .returned (.tuple #[]) ∧ u' = .returning ∧ w' = w := by
 refine callsD_of_wpS Tryd.func54 rfl fun c₀ cs hu => ?_
 apply wpS_seq
 apply wpS_region
 simp [wpOpsS, go_sem, recoverD, hu, Tryd.ntmps54, Exit.thenS]
 refine wpS_of_wp ?_
 simp only [show ((#[Value.pointer (some ⟨b2, 0, none⟩), Value.pointer (some ⟨b3, 0, none⟩)] : Array Value) ++ ((Array.replicate 17 undef).setIfInBounds 3 Value.nilIface).setIfInBounds 0 Value.nilIface) = #[Value.pointer (some ⟨b2, 0, none⟩), Value.pointer (some ⟨b3, 0, none⟩), .nilIface, undef, undef, .nilIface, undef, undef, undef, undef, undef, undef, undef, undef, undef, undef, undef, undef, undef] from rfl]
 go_wp2_with fail
 cases c₀
 simp_all [bodyPostS, results, Tryd.results54]
set_option maxHeartbeats 1000000 in
set_option maxRecDepth 100000 in
theorem catch_stop (b2 b3 b : Nat) (older : List PanicEntry) (v2 : Value) (w : World) (h2 : w.heap[b2]? = some (.cells #[v2] 43 (0, 0))) (h3 : w.heap[b3]? = some (.cells #[.nilIface] 32 (0, 0))) (hne : b2 ≠ b3) :
  CallsD Tryd.prog 54 #[.pointer (some ⟨b2, 0, none⟩), .pointer (some ⟨b3, 0, none⟩)] (.panicking ({ v := .iface 92 (.agg #[.pointer (some ⟨b, 0, none⟩)]), recovered := false } :: older)) w fun e u' w' =>
   e = .returned (.tuple #[]) ∧ u' = .panicking ({ v := .iface 92 (.agg #[.pointer (some ⟨b, 0, none⟩)]), recovered := true } :: older) ∧ w'.heap[b2]? = some (.cells #[.slice none 0 0] 43 (0, 0)) ∧ w'.heap[b3]? = some (.cells #[.iface 70 (.pointer (some ⟨b, 0, none⟩))] 32 (0, 0)) ∧ Fr [b2, b3] w w' := by
 refine callsD_of_wpS Tryd.func54 rfl fun c₀ cs hu => ?_
 apply wpS_seq
 apply wpS_region
 simp [wpOpsS, go_sem, recoverD, hu, Tryd.ntmps54, Exit.thenS]
 refine wpS_of_wp ?_
 obtain ⟨X, hX⟩ : ∃ X, (Value.iface 92 (Value.agg #[Value.pointer (some ⟨b, 0, none⟩)])) = X := ⟨_, rfl⟩
 simp only [hX]
 simp only [show ((#[Value.pointer (some ⟨b2, 0, none⟩), Value.pointer (some ⟨b3, 0, none⟩)] : Array Value) ++ ((Array.replicate 17 undef).setIfInBounds 3 X).setIfInBounds 0 X) = #[Value.pointer (some ⟨b2, 0, none⟩), Value.pointer (some ⟨b3, 0, none⟩), X, undef, undef, X, undef, undef, undef, undef, undef, undef, undef, undef, undef, undef, undef, undef, undef] from rfl]
 subst hX
 have hb2 := row_lt h2
 have hb3 := row_lt h3
 have H2 := Lib.hid h2
 have H3 := Lib.hid h3
 have xf : ∀ i, w.frozen? ⟨b2, i, none⟩ = false := fun i => Lib.frozen_of_heap h2 i
 have x0 : w.cell? ⟨b2, 0, none⟩ = some (v2) := by rw [Lib.cell_of_heap h2]; rfl
 have yf : ∀ i, w.frozen? ⟨b3, i, none⟩ = false := fun i => Lib.frozen_of_heap h3 i
 have y0 : w.cell? ⟨b3, 0, none⟩ = some (.nilIface) := by rw [Lib.cell_of_heap h3]; rfl
 clear h2 h3
 have hta : ∀ w, (Instr.typeAssert (.iface 92 (.agg #[.pointer (some ⟨b, 0, none⟩)])) 20 92 true).run Tryd.prog w = .ok (.tuple #[.agg #[.pointer (some ⟨b, 0, none⟩)], .bool true]) w := fun w => by kernel_rfl
 go_wp2_with fail
 refine wp_fresh (fun U => U.heap[w.heap.size]? = some (.cells #[.pointer (some ⟨b, 0, none⟩)] 92 (0, 0)) ∧ U.heap[b2]? = some (.cells #[v2] 43 (0, 0)) ∧ U.heap[b3]? = some (.cells #[.nilIface] 32 (0, 0)) ∧ Fr [] w U) ⟨heap_alloc_last _ _, ((Fr.refl [] _).alloc _).row H2.out (by simp), ((Fr.refl [] _).alloc _).row H3.out (by simp), (Fr.refl _ _).alloc _⟩ ?_
 rintro U ⟨u1, u2, u3, u4⟩
 have HU2 := Lib.hid u2
 have HU3 := Lib.hid u3
 have HUF := Lib.hid u4
 have hn1 : w.heap.size ≠ b2 := by omega
 have hn2 : w.heap.size ≠ b3 := by omega
 clear x0 xf y0 yf hta
 have sf : ∀ i, U.frozen? ⟨w.heap.size, i, none⟩ = false := fun i => Lib.frozen_of_heap u1 i
 have s0 : U.cell? ⟨w.heap.size, 0, none⟩ = some (.pointer (some ⟨b, 0, none⟩)) := by rw [Lib.cell_of_heap u1]; rfl
 have xf : ∀ i, U.frozen? ⟨b2, i, none⟩ = false := fun i => Lib.frozen_of_heap u2 i
 have x0 : U.cell? ⟨b2, 0, none⟩ = some (v2) := by rw [Lib.cell_of_heap u2]; rfl
 have yf : ∀ i, U.frozen? ⟨b3, i, none⟩ = false := fun i => Lib.frozen_of_heap u3 i
 have y0 : U.cell? ⟨b3, 0, none⟩ = some (.nilIface) := by rw [Lib.cell_of_heap u3]; rfl
 clear u1 u2 u3 u4 sf
 go_region
 all_goals
  have hne' : b3 ≠ b2 := fun h => hne h.symm
  have hfb : Fr [b2, b3] w ((U.setCell ⟨b2, 0, none⟩ (.slice none 0 0)).setCell ⟨b3, 0, none⟩ (.iface 70 (.pointer (some ⟨b, 0, none⟩)))).drew := ((HUF.out.sub.setCell (p := ⟨b2, 0, none⟩) (.inl (by simp)) _).setCell (p := ⟨b3, 0, none⟩) (.inl (by simp)) _).drew
  have hf2 : Fr [b3] (U.setCell ⟨b2, 0, none⟩ (.slice none 0 0)) ((U.setCell ⟨b2, 0, none⟩ (.slice none 0 0)).setCell ⟨b3, 0, none⟩ (.iface 70 (.pointer (some ⟨b, 0, none⟩)))).drew := ((Fr.refl [b3] _).setCell (p := ⟨b3, 0, none⟩) (.inl (by simp)) _).drew
  have hf1 : Fr [b2] U (U.setCell ⟨b2, 0, none⟩ (.slice none 0 0)) := (Fr.refl [b2] _).setCell (p := ⟨b2, 0, none⟩) (.inl (by simp)) _
  have k2 := hf2.row (heap_set_row HU2.out 0 (.slice none 0 0)) (by simpa using hne)
  have k3 := heap_set_row (hf1.row HU3.out (by simpa using hne')) 0 (.iface 70 (.pointer (some ⟨b, 0, none⟩)))
  have K2 := Lib.hid k2
  have K3 := Lib.hid k3
  have K4 := Lib.hid hfb
  clear k2 k3 hfb hf2 hf1 x0 xf y0 yf s0
  go_wp2_with fail
  obtain ⟨Z, hZ⟩ : ∃ Z, ((U.setCell ⟨b2, 0, none⟩ (.slice none 0 0)).setCell ⟨b3, 0, none⟩ (.iface 70 (.pointer (some ⟨b, 0, none⟩)))).drew = Z := ⟨_, rfl⟩
  have k2 : Z.heap[b2]? = some (.cells #[.slice none 0 0] 43 (0, 0)) := by rw [← hZ]; exact K2.out
  have k3 : Z.heap[b3]? = some (.cells #[.iface 70 (.pointer (some ⟨b, 0, none⟩))] 32 (0, 0)) := by rw [← hZ]; exact K3.out
  have k4 : Fr [b2, b3] w Z := by rw [← hZ]; exact K4.out
  rw [hZ]
  exact ⟨rfl, _, rfl, .tuple #[], by simp [results, Tryd.results54], rfl, rfl, k2, k3, k4⟩
end Go.Proofs.YtgklmpooonnmiaaDoor
