/-
  Lemmas and contracts that the proofs over this seat use (part Num); no statement of the seat is claimed in this text, and nothing is assumed in it.
-/
import Derived.Test.YtgklmpooonnmiaaDoorErrAs2
import Derived.Test.YtgklmpooonnmiaaDoorErr
set_option linter.unusedVariables false
set_option linter.unusedSimpArgs false
namespace Go.Proofs.YtgklmpooonnmiaaDoor
open Go.RowKit
/-- an error's number. -/
def Er.num : Er → Int
  | .ok => 0
  | .no n => n
  | .pl _ n => n
/-- an error's place. -/
def Er.pos : Er → Int
  | .ok => -1
  | .no _ => -1
  | .pl p _ => p
theorem ErrT.fr {bs : List Nat} {w w' : World} (h : ErrT w) (hlt : 0 < w.heap.size) (hF : Fr bs w w') (hn : 0 ∉ bs) : ErrT w' := by
  unfold ErrT
  rw [hF.cell (p := ⟨0, 0, none⟩) hlt hn]
  exact h
theorem as_num (e : Er) (w : World) (B g : Nat) (v : Value) (hv : ErV w B e v) (hne : e ≠ .ok) (hg : ErrT w) (hlt : 0 < w.heap.size) (hr : w.heap[g]? = some (.cells #[.int .i64 0] 57 (0, 0))) :
    Calls Tryd.prog 42 #[v, .iface 69 (.pointer (some ⟨g, 0, none⟩))] w fun e' w' => e' = .returned (.bool true) ∧ w'.heap[g]? = some (.cells #[.int .i64 e.num] 57 (0, 0)) ∧ Fr [g] w w' := by
  have hc : w.cell? ⟨g, 0, none⟩ = some (.int .i64 0) := cell_of_row w g 0 _ _ (0, 0) hr
  have hf : w.frozen? ⟨g, 0, none⟩ = false := Lib.frozen_of_heap hr 0
  have fin : ∀ (W : World) (n : Int), Fr [] w W → (W.setCell ⟨g, 0, none⟩ (.int .i64 n)).heap[g]? = some (.cells #[.int .i64 n] 57 (0, 0)) ∧ Fr [g] w (W.setCell ⟨g, 0, none⟩ (.int .i64 n)) := fun W n hF =>
    ⟨heap_setCell_same W g 0 _ _ _ (hF.row hr (by simp)), ((Fr.refl [g] w).trans0 hF).setCell (.inl (by simp)) _⟩
  cases e with
  | ok => exact absurd rfl hne
  | no n =>
    obtain rfl : v = .iface 57 (.int .i64 (n : Nat)) := hv
    refine (as_num_no n ⟨g, 0, none⟩ w hg hlt _ hc hf).mono ?_
    rintro e w' ⟨rfl, rfl⟩
    exact ⟨rfl, fin _ _ (((((Fr.refl [] w).alloc _).alloc _).alloc _).alloc _)⟩
  | pl p n =>
    obtain ⟨b, hB, rfl, hb⟩ := hv
    refine (as_num_at n b _ ⟨g, 0, none⟩ w hb hg hlt _ hc hf).mono ?_
    rintro e w' ⟨rfl, rfl⟩
    exact ⟨rfl, fin _ _ (((((Fr.refl [] w).alloc _).alloc _).alloc _).alloc _)⟩
set_option maxHeartbeats 4000000 in
set_option maxRecDepth 100000 in
theorem law_num (w : World) (B : Nat) (e : Er) (v : Value) (hv : ErV w B e v) (hg : ErrT w) (hlt : 0 < w.heap.size) :
    Calls Tryd.prog 18 #[v] w fun e' w' => e' = .returned (.int .i64 e.num) ∧ Fr [] w w' := by
  by_cases hne : e = .ok
  · subst hne
    obtain rfl : v = .nilIface := hv
    go_enter Tryd.func18, Tryd.ntmps18
    go_wp2_with fail
    go_ret
    exact ⟨rfl, Fr.refl _ _⟩
  have hF0 : Fr [] w (w.alloc (.cells #[.int .i64 0] 57)) := (Fr.refl _ _).alloc _
  have HAS := Lib.hid (as_num e _ B w.heap.size v (hv.fr hF0) hne (hg.fr hlt hF0 (by simp)) (Nat.lt_of_lt_of_le hlt hF0.size) (heap_alloc_last w _))
  have hvn : ∃ t u, v = .iface t u := by
    cases e with
    | ok => exact absurd rfl hne
    | no n => exact ⟨_, _, hv⟩
    | pl p n => obtain ⟨b, _, h, _⟩ := hv; exact ⟨_, _, h⟩
  obtain ⟨t, u, rfl⟩ := hvn
  have HF0 := Lib.hid hF0
  clear hv hg hF0 hne
  go_enter Tryd.func18, Tryd.ntmps18
  go_wp2_with fail
  refine HAS.out.mono ?_
  rintro e' w1 ⟨rfl, hr, hF⟩
  have hc : w1.cell? ⟨w.heap.size, 0, none⟩ = some (.int .i64 e.num) := cell_of_row w1 _ 0 _ _ (0, 0) hr
  have HF : Hid (Fr [] w w1) := HF0.out.trans1 hF (.inr (Nat.le_refl _))
  clear hr hF HAS HF0
  go_wp2_with fail
  go_ret
  exact ⟨rfl, HF.out⟩
theorem as_pos (p n : Nat) (w : World) (B g : Nat) (v : Value) (hv : ErV w B (.pl p n) v) (hg : ErrT w) (hlt : 0 < w.heap.size) (hr : w.heap[g]? = some (.cells #[.pointer none] 70 (0, 0))) :
    Calls Tryd.prog 42 #[v, .iface 71 (.pointer (some ⟨g, 0, none⟩))] w fun e' w' => e' = .returned (.bool true) ∧ (∃ b, w'.heap[g]? = some (.cells #[.pointer (some ⟨b, 0, none⟩)] 70 (0, 0)) ∧ w'.heap[b]? = some (.cells #[.int .i64 (p : Nat), .iface 57 (.int .i64 (n : Nat))] 73 (0, 0))) ∧ Fr [g] w w' := by
  have hc : w.cell? ⟨g, 0, none⟩ = some (.pointer none) := cell_of_row w g 0 _ _ (0, 0) hr
  have hf : w.frozen? ⟨g, 0, none⟩ = false := Lib.frozen_of_heap hr 0
  have fin : ∀ (W : World) (u : Value), Fr [] w W → (W.setCell ⟨g, 0, none⟩ u).heap[g]? = some (.cells #[u] 70 (0, 0)) ∧ Fr [g] w (W.setCell ⟨g, 0, none⟩ u) := fun W u hF =>
    ⟨heap_setCell_same W g 0 _ _ _ (hF.row hr (by simp)), ((Fr.refl [g] w).trans0 hF).setCell (.inl (by simp)) _⟩
  obtain ⟨b, hB, rfl, hb⟩ := hv
  have hbg : b ≠ g := by
    rintro rfl
    rw [hb] at hr
    simp at hr
  refine (as_pos_at ⟨b, 0, none⟩ ⟨g, 0, none⟩ w hg hlt _ hc hf).mono ?_
  rintro e w' ⟨rfl, rfl⟩
  obtain ⟨h1, h2⟩ := fin _ (.pointer (some ⟨b, 0, none⟩)) (((((Fr.refl [] w).alloc _).alloc _).alloc _).alloc _)
  exact ⟨rfl, ⟨b, h1, h2.row hb (by simpa using hbg)⟩, h2⟩
set_option maxHeartbeats 4000000 in
set_option maxRecDepth 100000 in
theorem law_pos (w : World) (B : Nat) (e : Er) (v : Value) (hv : ErV w B e v) (hg : ErrT w) (hlt : 0 < w.heap.size) :
    Calls Tryd.prog 19 #[v] w fun e' w' => e' = .returned (.int .i64 e.pos) ∧ Fr [] w w' := by
  have hF0 : Fr [] w (w.alloc (.cells #[.pointer none] 70)) := (Fr.refl _ _).alloc _
  have HF0 := Lib.hid hF0
  cases e with
  | ok =>
    obtain rfl : v = .nilIface := hv
    go_enter Tryd.func19, Tryd.ntmps19
    go_wp2_with fail
    go_ret
    exact ⟨rfl, HF0.out⟩
  | no n =>
    obtain rfl : v = .iface 57 (.int .i64 (n : Nat)) := hv
    have HAS : Hid (Calls Tryd.prog 42 #[.iface 57 (.int .i64 (n : Nat)), .iface 71 (.pointer (some ⟨w.heap.size, 0, none⟩))] (w.alloc (.cells #[.pointer none] 70)) fun e w' => e = .returned (.bool false) ∧ Fr [] w w') := by
      show Calls _ _ _ _ _
      refine (as_pos_no n ⟨w.heap.size, 0, none⟩ _ (hg.fr hlt hF0 (by simp)) (Nat.lt_of_lt_of_le hlt hF0.size)).mono ?_
      rintro e w' ⟨rfl, rfl⟩
      exact ⟨rfl, ((hF0.alloc _).alloc _).alloc _⟩
    clear hg hF0
    go_enter Tryd.func19, Tryd.ntmps19
    go_wp2_with fail
    refine HAS.out.mono ?_
    rintro e' w1 ⟨rfl, hF1⟩
    go_wp2_with fail
    go_ret
    exact ⟨rfl, hF1⟩
  | pl p n =>
    have HAS := Lib.hid (as_pos p n _ B w.heap.size v (hv.fr hF0) (hg.fr hlt hF0 (by simp)) (Nat.lt_of_lt_of_le hlt hF0.size) (heap_alloc_last w _))
    obtain ⟨b, hB, rfl, _⟩ := hv
    clear hg hF0
    go_enter Tryd.func19, Tryd.ntmps19
    go_wp2_with fail
    refine HAS.out.mono ?_
    rintro e' w1 ⟨rfl, ⟨b2, hr, hb⟩, hF⟩
    have hc : w1.cell? ⟨w.heap.size, 0, none⟩ = some (.pointer (some ⟨b2, 0, none⟩)) := cell_of_row w1 _ 0 _ _ (0, 0) hr
    have hc2 : w1.cell? ⟨b2, 0, none⟩ = some (.int .i64 (p : Nat)) := cell_of_row w1 _ 0 _ _ (0, 0) hb
    have HF : Hid (Fr [] w w1) := HF0.out.trans1 hF (.inr (Nat.le_refl _))
    clear hr hb hF HAS HF0
    go_wp2_with fail
    go_ret
    exact ⟨rfl, HF.out⟩
end Go.Proofs.YtgklmpooonnmiaaDoor
