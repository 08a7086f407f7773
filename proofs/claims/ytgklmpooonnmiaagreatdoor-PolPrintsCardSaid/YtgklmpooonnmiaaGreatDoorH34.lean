/-
  Lemmas and contracts that the proofs over this seat use (Num, Laid, ToksOpen, RulesOpen); no statement of the seat is claimed in this text, and nothing is assumed in it.
-/
import Derived.Test.YtgklmpooonnmiaaGreatDoorH33
import Derived.Test.YtgklmpooonnmiaaGreatDoorH2
import Derived.Test.YtgklmpooonnmiaaGreatDoorRows
import Derived.Test.YtgklmpooonnmiaaGreatDoorH1
import Derived.ProofKit
import Derived.LaidMore
import Derived.OpenShut
import Derived.Carry
import Derived.MakeChecks
import Derived.Test.YtgklmpooonnmiaaGreatDoorH7
import Derived.Deep.Slices
import Derived.Deep.Fields
import Derived.Test.YtgklmpooonnmiaaGreatDoorH14
set_option linter.unusedVariables false
set_option linter.unusedSimpArgs false
namespace Go.Proofs.YtgklmpooonnmiaaGreatDoor
open Go.RowKit
def Er.num : Er → Int
 | .ok => 0
 | .no n => n
 | .pl _ n => n
def Er.pos : Er → Int
 | .ok => -1
 | .no _ => -1
 | .pl p _ => p
theorem ErrT.fr {bs : List Nat} {w w' : World} (h : ErrT w) (hlt : 0 < w.heap.size) (hF : Fr bs w w') (hn : 0 ∉ bs) : ErrT w' := by
 unfold ErrT
 rw [hF.cell (p := ⟨0, 0, none⟩) hlt hn]
 exact h
theorem as_num (e : Er) (w : World) (B g : Nat) (v : Value) (hv : ErV w B e v) (hne : e ≠ .ok) (hg : ErrT w) (hlt : 0 < w.heap.size) (hr : w.heap[g]? = some (.cells #[.int .i64 0] 57 (0, 0))) :
  Calls Tryz.prog 24 #[v, .iface 65 (.pointer (some ⟨g, 0, none⟩))] w fun e' w' => e' = .returned (.bool true) ∧ w'.heap[g]? = some (.cells #[.int .i64 e.num] 57 (0, 0)) ∧ Fr [g] w w' := by
 have hc : w.cell? ⟨g, 0, none⟩ = some (.int .i64 0) := cell_of_row w g 0 _ _ (0, 0) hr
 have hf : w.frozen? ⟨g, 0, none⟩ = false := Lib.frozen_of_heap hr 0
 have fin : ∀ (W : World) (n : Int), Fr [] w W → (W.setCell ⟨g, 0, none⟩ (.int .i64 n)).heap[g]? = some (.cells #[.int .i64 n] 57 (0, 0)) ∧ Fr [g] w (W.setCell ⟨g, 0, none⟩ (.int .i64 n)) := fun W n hF =>
  ⟨heap_setCell_same W g 0 _ _ _ (hF.row hr (by simp)), ((Fr.refl [g] w).trans0 hF).setCell (.inl (by simp)) _⟩
 cases e with
 | ok => exact absurd rfl hne
 | no n =>
  obtain rfl : v = .iface 57 (.int .i64 (n : Nat)) := hv
  refine (as_num_no n ⟨g, 0, none⟩ w hg hlt _ hc hf).mono ?_
  rintro e w' ⟨rfl, rfl⟩
  exact ⟨rfl, fin _ _ (((((Fr.refl [] w).alloc _).alloc _).alloc _).alloc _)⟩
 | pl p n =>
  obtain ⟨b, hB, rfl, hb⟩ := hv
  refine (as_num_at n b _ ⟨g, 0, none⟩ w hb hg hlt _ hc hf).mono ?_
  rintro e w' ⟨rfl, rfl⟩
  exact ⟨rfl, fin _ _ (((((Fr.refl [] w).alloc _).alloc _).alloc _).alloc _)⟩
set_option maxHeartbeats 4000000 in
set_option maxRecDepth 100000 in
theorem law_num (w : World) (B : Nat) (e : Er) (v : Value) (hv : ErV w B e v) (hg : ErrT w) (hlt : 0 < w.heap.size) :
  Calls Tryz.prog 8 #[v] w fun e' w' => e' = .returned (.int .i64 e.num) ∧ Fr [] w w' := by
 by_cases hne : e = .ok
 ·subst hne
  obtain rfl : v = .nilIface := hv
  go_enter Tryz.func8, Tryz.ntmps8
  go_wp2_with fail
  go_ret
  exact ⟨rfl, Fr.refl _ _⟩
 have hF0 : Fr [] w (w.alloc (.cells #[.int .i64 0] 57)) := (Fr.refl _ _).alloc _
 have HAS := Lib.hid (as_num e _ B w.heap.size v (hv.fr hF0) hne (hg.fr hlt hF0 (by simp)) (Nat.lt_of_lt_of_le hlt hF0.size) (heap_alloc_last w _))
 have hvn : ∃ t u, v = .iface t u := by
  cases e with
  | ok => exact absurd rfl hne
  | no n => exact ⟨_, _, hv⟩
  | pl p n => obtain ⟨b, _, h, _⟩ := hv; exact ⟨_, _, h⟩
 obtain ⟨t, u, rfl⟩ := hvn
 have HF0 := Lib.hid hF0
 clear hv hg hF0 hne
 go_enter Tryz.func8, Tryz.ntmps8
 go_wp2_with fail
 refine HAS.out.mono ?_
 rintro e' w1 ⟨rfl, hr, hF⟩
 have hc : w1.cell? ⟨w.heap.size, 0, none⟩ = some (.int .i64 e.num) := cell_of_row w1 _ 0 _ _ (0, 0) hr
 have HF : Hid (Fr [] w w1) := HF0.out.trans1 hF (.inr (Nat.le_refl _))
 clear hr hF HAS HF0
 go_wp2_with fail
 go_ret
 exact ⟨rfl, HF.out⟩
theorem as_pos (p n : Nat) (w : World) (B g : Nat) (v : Value) (hv : ErV w B (.pl p n) v) (hg : ErrT w) (hlt : 0 < w.heap.size) (hr : w.heap[g]? = some (.cells #[.pointer none] 46 (0, 0))) :
  Calls Tryz.prog 24 #[v, .iface 66 (.pointer (some ⟨g, 0, none⟩))] w fun e' w' => e' = .returned (.bool true) ∧ (∃ b, w'.heap[g]? = some (.cells #[.pointer (some ⟨b, 0, none⟩)] 46 (0, 0)) ∧ w'.heap[b]? = some (.cells #[.int .i64 (p : Nat), .iface 57 (.int .i64 (n : Nat))] 68 (0, 0))) ∧ Fr [g] w w' := by
 have hc : w.cell? ⟨g, 0, none⟩ = some (.pointer none) := cell_of_row w g 0 _ _ (0, 0) hr
 have hf : w.frozen? ⟨g, 0, none⟩ = false := Lib.frozen_of_heap hr 0
 have fin : ∀ (W : World) (u : Value), Fr [] w W → (W.setCell ⟨g, 0, none⟩ u).heap[g]? = some (.cells #[u] 46 (0, 0)) ∧ Fr [g] w (W.setCell ⟨g, 0, none⟩ u) := fun W u hF =>
  ⟨heap_setCell_same W g 0 _ _ _ (hF.row hr (by simp)), ((Fr.refl [g] w).trans0 hF).setCell (.inl (by simp)) _⟩
 obtain ⟨b, hB, rfl, hb⟩ := hv
 have hbg : b ≠ g := by
  rintro rfl
  rw [hb] at hr
  simp at hr
 refine (as_pos_at ⟨b, 0, none⟩ ⟨g, 0, none⟩ w hg hlt _ hc hf).mono ?_
 rintro e w' ⟨rfl, rfl⟩
 obtain ⟨h1, h2⟩ := fin _ (.pointer (some ⟨b, 0, none⟩)) (((((Fr.refl [] w).alloc _).alloc _).alloc _).alloc _)
 exact ⟨rfl, ⟨b, h1, h2.row hb (by simpa using hbg)⟩, h2⟩
set_option maxHeartbeats 4000000 in
set_option maxRecDepth 100000 in
theorem law_pos (w : World) (B : Nat) (e : Er) (v : Value) (hv : ErV w B e v) (hg : ErrT w) (hlt : 0 < w.heap.size) :
  Calls Tryz.prog 9 #[v] w fun e' w' => e' = .returned (.int .i64 e.pos) ∧ Fr [] w w' := by
 have hF0 : Fr [] w (w.alloc (.cells #[.pointer none] 46)) := (Fr.refl _ _).alloc _
 have HF0 := Lib.hid hF0
 cases e with
 | ok =>
  obtain rfl : v = .nilIface := hv
  go_enter Tryz.func9, Tryz.ntmps9
  go_wp2_with fail
  go_ret
  exact ⟨rfl, HF0.out⟩
 | no n =>
  obtain rfl : v = .iface 57 (.int .i64 (n : Nat)) := hv
  have HAS : Hid (Calls Tryz.prog 24 #[.iface 57 (.int .i64 (n : Nat)), .iface 66 (.pointer (some ⟨w.heap.size, 0, none⟩))] (w.alloc (.cells #[.pointer none] 46)) fun e w' => e = .returned (.bool false) ∧ Fr [] w w') := by
   show Calls _ _ _ _ _
   refine (as_pos_no n ⟨w.heap.size, 0, none⟩ _ (hg.fr hlt hF0 (by simp)) (Nat.lt_of_lt_of_le hlt hF0.size)).mono ?_
   rintro e w' ⟨rfl, rfl⟩
   exact ⟨rfl, ((hF0.alloc _).alloc _).alloc _⟩
  clear hg hF0
  go_enter Tryz.func9, Tryz.ntmps9
  go_wp2_with fail
  refine HAS.out.mono ?_
  rintro e' w1 ⟨rfl, hF1⟩
  go_wp2_with fail
  go_ret
  exact ⟨rfl, hF1⟩
 | pl p n =>
  have HAS := Lib.hid (as_pos p n _ B w.heap.size v (hv.fr hF0) (hg.fr hlt hF0 (by simp)) (Nat.lt_of_lt_of_le hlt hF0.size) (heap_alloc_last w _))
  obtain ⟨b, hB, rfl, _⟩ := hv
  clear hg hF0
  go_enter Tryz.func9, Tryz.ntmps9
  go_wp2_with fail
  refine HAS.out.mono ?_
  rintro e' w1 ⟨rfl, ⟨b2, hr, hb⟩, hF⟩
  have hc : w1.cell? ⟨w.heap.size, 0, none⟩ = some (.pointer (some ⟨b2, 0, none⟩)) := cell_of_row w1 _ 0 _ _ (0, 0) hr
  have hc2 : w1.cell? ⟨b2, 0, none⟩ = some (.int .i64 (p : Nat)) := cell_of_row w1 _ 0 _ _ (0, 0) hb
  have HF : Hid (Fr [] w w1) := HF0.out.trans1 hF (.inr (Nat.le_refl _))
  clear hr hb hF HAS HF0
  go_wp2_with fail
  go_ret
  exact ⟨rfl, HF.out⟩
end Go.Proofs.YtgklmpooonnmiaaGreatDoor

namespace Go.Proofs.YtgklmpooonnmiaaGreatDoor
open Go.ChangeShapes Go.WideShapes Go.ChangeAt Go.RowKit
theorem own : ownKnob Tryz.prog.godebug = none := by kernel_rfl
theorem gLeast : Tryz.prog.globalNamed "warrant/utf.least" = some 1 := by kernel_rfl
theorem tLeast : (Tryz.prog.globals[1]?).map (·.type) = some 155 := by kernel_rfl
theorem laidOut : laidOutB Tryz.prog = true := by kernel_rfl
theorem row_of_var {P : Program} {W : World} {n : String} {g : Nat} {cs : Array Value} (hg : P.globalNamed n = some g) (h : W.var? P n = some cs) : ∃ t fr, W.heap[g]? = some (.cells cs t fr) := by
 unfold World.var? at h
 rw [hg] at h
 simp only [Option.bind_some] at h
 split at h
 ·rename_i cs' t fr hh
  cases h
  exact ⟨t, fr, hh⟩
 ·cases h
set_option maxRecDepth 100000 in
theorem least_of_laid {W : World} (h : laidMet Tryz.prog [("warrant/utf.least", Rows.laid_warrant_utf_least)] W) : Least W := by
 obtain ⟨ps, ⟨g0, t0, cs0, f0, p0, q0, hg0, ht0, hv0, hd0, _, _⟩, _⟩ := h
 obtain rfl := Option.some.inj (gLeast.symm.trans hg0)
 obtain rfl := Option.some.inj (tLeast.symm.trans ht0)
 obtain ⟨xs, m1, rfl, hx1, hlen, hn3, hel⟩ := DataW.trod_array Tryz.underlying155 hd0
 have c3 : Tryz.prog.cellsOf 3 = 1 := by kernel_rfl
 have c24 : Tryz.prog.cellsOf 155 = 5 := by kernel_rfl
 have h0 := hel 0 (by decide)
 have h1 := hel 1 (by decide)
 have h2 := hel 2 (by decide)
 have h3 := hel 3 (by decide)
 have h4 := hel 4 (by decide)
 simp only [Rows.laid_warrant_utf_least, Prod.mk.injEq, DataW.agg.injEq] at hx1
 rw [c24] at hlen
 rw [c3] at h0 h1 h2 h3 h4
 obtain ⟨l1⟩ := cs0
 match xs, hn3, hx1, h0, h1, h2, h3, h4 with
 | [x0, x1, x2, x3, x4], _, hx1, h0, h1, h2, h3, h4 =>
  match l1, hlen with
  | [v0, v1, v2, v3, v4], _ =>
   simp only [List.map_cons, List.map_nil, List.cons.injEq] at hx1
   obtain ⟨k0, a0, b0, _⟩ := DataW.trod_int Tryz.underlying3 (show DataW.trod _ Tryz.prog W 0 _ false m1 3 _ = some x0 from h0)
   obtain ⟨k1, a1, b1, _⟩ := DataW.trod_int Tryz.underlying3 (show DataW.trod _ Tryz.prog W 0 _ false m1 3 _ = some x1 from h1)
   obtain ⟨k2, a2, b2, _⟩ := DataW.trod_int Tryz.underlying3 (show DataW.trod _ Tryz.prog W 0 _ false m1 3 _ = some x2 from h2)
   obtain ⟨k3, a3, b3, _⟩ := DataW.trod_int Tryz.underlying3 (show DataW.trod _ Tryz.prog W 0 _ false m1 3 _ = some x3 from h3)
   obtain ⟨k4, a4, b4, _⟩ := DataW.trod_int Tryz.underlying3 (show DataW.trod _ Tryz.prog W 0 _ false m1 3 _ = some x4 from h4)
   subst b0 b1 b2 b3 b4
   simp at a0 a1 a2 a3 a4 hx1
   obtain ⟨⟨e0, e1, e2, e3, e4⟩, _⟩ := hx1
   subst a0 a1 a2 a3 a4 e0 e1 e2 e3 e4
   exact row_of_var gLeast hv0
theorem trodAll_kept {H : Type} {enc : TypeId × Value → H} {P : Program} (hl : laidOutB P = true) {W W' : World} (hb : Below W.heap.size W W') (ts : List TypeId) :
  ∀ {vs : List Value} {ds : List (DataW H)} {ps : List MemPlace}, (ts.all fun t => P.readableRec t && decide (t < P.types.size)) = true → DataW.TrodAll enc P W 0 (fun _ => true) true ts vs ds ps →
    (∀ x ∈ ps, x.block < W.heap.size) → DataW.TrodAll enc P W' 0 (fun b => decide (b < W.heap.size)) true ts vs ds ps := by
 induction ts with
 | nil =>
  intro vs ds ps _ h _
  obtain ⟨rfl, rfl, rfl⟩ := trodAll_nil h
  exact trodAll_mk0
 | cons t ts ih =>
  intro vs ds ps ht h hlt
  obtain ⟨v, vs', d, ds', p, q, rfl, rfl, rfl, hd, hrest⟩ := trodAll_cons h
  rw [List.all_cons, Bool.and_eq_true, Bool.and_eq_true] at ht
  exact trodAll_cons_mk (Below.trod hl ht.1.1 (of_decide_eq_true ht.1.2) hd hb (fun x hx => hlt x (by simp [hx]))) (ih ht.2 hrest (fun x hx => hlt x (by simp [hx])))
end Go.Proofs.YtgklmpooonnmiaaGreatDoor

namespace Go.Proofs.YtgklmpooonnmiaaGreatDoor
open Go.ChangeShapes Go.WideShapes Go.ChangeAt Go.RowKit
open Go.Deep (open_slice choose_lt)
def TI.ints (t : TI) : Prop := -9223372036854775808 ≤ t.n ∧ t.n ≤ 9223372036854775807
instance : Inhabited TI := ⟨⟨0, ⟨#[]⟩, 0, 0⟩⟩
theorem bulk_part {H : Type} {d : DataW H} {l : List (DataW H)} (h : d ∈ l) : Rows.uptoBulk d ≤ Rows.uptoBulkAll l := by
 induction l with
 | nil => cases h
 | cons x r ih =>
  simp only [Rows.uptoBulkAll]
  rcases List.mem_cons.1 h with e | e
  ·subst e; omega
  ·have := ih e; omega
set_option maxRecDepth 100000 in
theorem toks_of_trod {H : Type} {enc : TypeId × Value → H} {W : World} {base : Nat} {spare : Nat → Bool} {held : Bool} {fuel : Nat} {cs : List Value} {x : DataW H × List MemPlace}
  (h : DataW.trod enc Tryz.prog W base spare held fuel 43 cs = some x) :
  ∃ (A : Option Addr) (c : Nat) (l : List TI), cs = [.slice A l.length c] ∧ l.length ≤ c ∧ c ≤ maxLen ∧ Toks W A l ∧ (∀ t ∈ l, t.ints) ∧ (∀ t ∈ l, t.s.size ≤ maxLen) ∧ (∀ t ∈ l, t.s.size ≤ Rows.uptoBulk x.1) := by
 rcases open_slice Tryz.underlying43 h with ⟨rfl, _⟩ | ⟨a, len, cap, m, n, D, Pl, rfl, hb, hl, hm, hmm, hx, hi⟩
 ·exact ⟨none, 0, [], rfl, by simp, by decide, fun j t hj => by simp at hj, (fun t ht => by simp at ht), (fun t ht => by simp at ht), (fun t ht => by simp at ht)⟩
 ·have hC : Tryz.prog.cellsOf 54 = 4 := by kernel_rfl
  have c0 : Tryz.prog.cellsOf 3 = 1 := by kernel_rfl
  have c1 : Tryz.prog.cellsOf 9 = 1 := by kernel_rfl
  have c2 : Tryz.prog.cellsOf 2 = 1 := by kernel_rfl
  have hlm : len ≤ m := by rw [hmm]; split <;> omega
  have key : ∀ i, i < len → ∃ t : TI, (W.cell? (a.add (i * 4)) = some (.int .i64 t.k) ∧ W.cell? ((a.add (i * 4)).add 1) = some (.string t.s) ∧ W.cell? ((a.add (i * 4)).add 2) = some (.int .i64 t.n) ∧ W.cell? ((a.add (i * 4)).add 3) = some (.int .i64 t.p)) ∧ t.ints ∧ t.s.size ≤ maxLen ∧ t.s.size ≤ Rows.uptoBulk (D i) := by
   intro i hi1
   obtain ⟨cs', hc, ht'⟩ := hi i (by omega)
   rw [hC] at hc
   obtain ⟨ys, n', hn', hy, hlen, hyl, hf⟩ := DataW.trod_struct Tryz.underlying54 ht'
   obtain ⟨_, hcl, hat⟩ := World.cells?_some hc
   match cs', hcl with
   | [v0, v1, v2, v3], _ =>
    have f0 : DataW.trod enc Tryz.prog W base spare held n' 3 ((List.drop 0 [v0, v1, v2, v3]).take (Tryz.prog.cellsOf 3)) = ys[0]? := hf 0 _ rfl
    have f1 : DataW.trod enc Tryz.prog W base spare held n' 9 ((List.drop 1 [v0, v1, v2, v3]).take (Tryz.prog.cellsOf 9)) = ys[1]? := hf 1 _ rfl
    have f2 : DataW.trod enc Tryz.prog W base spare held n' 2 ((List.drop 2 [v0, v1, v2, v3]).take (Tryz.prog.cellsOf 2)) = ys[2]? := hf 2 _ rfl
    have f3 : DataW.trod enc Tryz.prog W base spare held n' 3 ((List.drop 3 [v0, v1, v2, v3]).take (Tryz.prog.cellsOf 3)) = ys[3]? := hf 3 _ rfl
    have y0 : ys[0]? = some (ys[0]'(by rw [hyl]; decide)) := List.getElem?_eq_getElem _
    have y1 : ys[1]? = some (ys[1]'(by rw [hyl]; decide)) := List.getElem?_eq_getElem _
    have y2 : ys[2]? = some (ys[2]'(by rw [hyl]; decide)) := List.getElem?_eq_getElem _
    have y3 : ys[3]? = some (ys[3]'(by rw [hyl]; decide)) := List.getElem?_eq_getElem _
    rw [y0] at f0
    rw [y1] at f1
    rw [y2] at f2
    rw [y3] at f3
    obtain ⟨k, e0, _, w0⟩ := DataW.trod_int Tryz.underlying3 f0
    obtain ⟨s, e1, x1, w1⟩ := DataW.trod_string Tryz.underlying9 f1
    obtain ⟨z, e2, _, w2⟩ := DataW.trod_int Tryz.underlying2 f2
    obtain ⟨p, e3, _, w3⟩ := DataW.trod_int Tryz.underlying3 f3
    rw [c0] at e0 e3; rw [c1] at e1; rw [c2] at e2
    simp at e0 e1 e2 e3
    subst e0 e1 e2 e3
    refine ⟨⟨k, s, z, p⟩, ⟨?_, hat 1 (by decide), hat 2 (by decide), hat 3 (by decide)⟩, bounds_i64 w2, w1, ?_⟩
    rotate_left
    ·have h5 : Rows.uptoBulk (H := H) (.lit (.string s.data.toList)) ≤ Rows.uptoBulkAll (ys.map (·.1)) := bulk_part (by
      have h6 := List.getElem_mem (l := ys) (n := 1) (by rw [hyl]; decide)
      have h7 := List.mem_map_of_mem (f := (·.1)) h6
      rw [x1] at h7
      exact h7)
     have hD : D i = .agg (ys.map (·.1)) := by simp only [Prod.mk.injEq] at hy; exact hy.1
     rw [hD]
     simp only [Rows.uptoBulk, Array.length_toList] at h5 ⊢
     have h8 : s.data.size = s.size := rfl
     show s.size ≤ _
     omega
    have := hat 0 (by decide)
    rwa [show (a.add (i * 4)).add 0 = a.add (i * 4) by unfold Addr.add; simp] at this
  obtain ⟨f, hf⟩ := choose_lt key
  have hget : ∀ (j : Nat) (t : TI), ((List.range len).map f)[j]? = some t → j < len ∧ t = f j := by
   intro j t hj
   rw [List.getElem?_map] at hj
   cases hr : (List.range len)[j]? with
   | none => rw [hr] at hj; cases hj
   | some i =>
    rw [hr] at hj
    obtain ⟨h1, h2⟩ := List.getElem?_eq_some_iff.1 hr
    simp at h1 h2
    subst h2
    simp at hj
    exact ⟨h1, hj.symm⟩
  have add1 : ∀ (b : Addr) (i : Nat), 0 < i → b.add i = ⟨b.block, b.off + i, none⟩ := fun b i hi => by unfold Addr.add; rw [if_neg (by omega)]
  refine ⟨some a, cap, (List.range len).map f, by simp, by simpa using hl, hm, ?_, ?_, ?_, ?_⟩
  ·intro j t hj
   obtain ⟨h1, rfl⟩ := hget j t hj
   obtain ⟨⟨h2, h3, h4, h5⟩, _⟩ := hf j h1
   rw [add1 _ 1 (by decide)] at h3
   rw [add1 _ 2 (by decide)] at h4
   rw [add1 _ 3 (by decide)] at h5
   exact ⟨a, rfl, h2, h3, h4, h5⟩
  ·intro t ht
   obtain ⟨j, hj, rfl⟩ := List.mem_map.1 ht
   exact (hf j (List.mem_range.1 hj)).2.1
  ·intro t ht
   obtain ⟨j, hj, rfl⟩ := List.mem_map.1 ht
   exact (hf j (List.mem_range.1 hj)).2.2.1
  ·intro t ht
   obtain ⟨j, hj, rfl⟩ := List.mem_map.1 ht
   have h1 := (hf j (List.mem_range.1 hj)).2.2.2
   have h2 : Rows.uptoBulk (D j) ≤ Rows.uptoBulkAll ((List.range len).map D) := bulk_part (List.mem_map_of_mem hj)
   rw [hx]
   simp only [Rows.uptoBulk]
   omega
end Go.Proofs.YtgklmpooonnmiaaGreatDoor

namespace Go.Proofs.YtgklmpooonnmiaaGreatDoor
open Go.ChangeShapes Go.WideShapes Go.ChangeAt Go.RowKit
open Go.Deep (choose_lt)
instance : Inhabited Ex := ⟨.mk 0 ⟨#[]⟩ 0 [] 0⟩
theorem slice_fuel {P : Program} {H : Type} {enc : TypeId × Value → H} {W : World} {base : Nat} {spare : Nat → Bool} {held : Bool} {t e : TypeId} {fuel : Nat} {cs : List Value} {x : DataW H × List MemPlace}
  (ht : P.underlying t = some (.slice e)) (h : DataW.trod enc P W base spare held fuel t cs = some x) :
  cs = [.slice none 0 0] ∨ ∃ (a : Addr) (len cap n : Nat), fuel = n + 1 ∧ cs = [.slice (some a) len cap] ∧ len ≤ cap ∧ cap ≤ maxLen ∧
   ∀ i, i < len → ∃ cs' y, W.cells? base (a.add (i * P.cellsOf e)) (P.cellsOf e) = some cs' ∧ DataW.trod enc P W base spare held n e cs' = some y := by
 rcases DataW.trod_slice ht h with h0 | ⟨a, len, cap, elems, rest, n, hn, hcs, _, _, hl, hm, hlen, hel, _, _⟩
 ·exact Or.inl h0.1
 ·refine Or.inr ⟨a, len, cap, n, hn, hcs, hl, hm, fun i hi => ?_⟩
  have h1 := hel i hi
  rw [List.getElem?_eq_getElem (by omega)] at h1
  obtain ⟨cs', h2, h3⟩ := Option.bind_eq_some_iff.1 h1
  exact ⟨cs', _, h2, h3⟩
theorem addr_addR (b o j : Nat) : (⟨b, o, none⟩ : Addr).add j = ⟨b, o + j, none⟩ := by
 unfold Addr.add
 split <;> simp_all
theorem map_at {α β : Type} {len : Nat} {f : Nat → α} {g : α → β} {j : Nat} {y : β} (h : ((List.range len).map fun i => g (f i))[j]? = some y) : j < len ∧ y = g (f j) := by
 rw [List.getElem?_map] at h
 cases hr : (List.range len)[j]? with
 | none => rw [hr] at h; cases h
 | some i =>
  rw [hr] at h
  obtain ⟨h1, h2⟩ := List.getElem?_eq_some_iff.1 hr
  simp at h1 h2
  subst h2
  simp at h
  exact ⟨h1, h.symm⟩
set_option maxRecDepth 100000 in
theorem exs_of_trod {H : Type} {enc : TypeId × Value → H} {W : World} {base : Nat} {spare : Nat → Bool} {held : Bool} (fuel : Nat) : ∀ (cs : List Value) (x : DataW H × List MemPlace),
  DataW.trod enc Tryz.prog W base spare held fuel 38 cs = some x →
  ∃ (q : Option Addr) (c : Nat) (L : List Ex) (f : Nat → List Value), cs = [.slice q L.length c] ∧ LA W q c f L := by
 induction fuel using Nat.strongRecOn with
 | _ fuel ih =>
  intro cs x h
  rcases slice_fuel Tryz.underlying38 h with rfl | ⟨a, len, cap, n, hn, rfl, hl, hm, hi⟩
  ·exact ⟨none, 0, [], fun _ => [], rfl, Nat.le_refl _, by decide, fun j t hj => by simp at hj, fun j t hj => by simp at hj⟩
  ·have hC : Tryz.prog.cellsOf 42 = 5 := by kernel_rfl
   have c0 : Tryz.prog.cellsOf 3 = 1 := by kernel_rfl
   have c1 : Tryz.prog.cellsOf 9 = 1 := by kernel_rfl
   have c2 : Tryz.prog.cellsOf 2 = 1 := by kernel_rfl
   have c3 : Tryz.prog.cellsOf 38 = 1 := by kernel_rfl
   have key : ∀ i, i < len → ∃ y : Ex × List Value, Five W (a.add (i * 5)) y.2 ∧ RepA W y.2 y.1 := by
    intro i hi1
    obtain ⟨cs', y, hc, ht'⟩ := hi i hi1
    rw [hC] at hc
    obtain ⟨ys, n', hn', hy, hlen, hyl, hf⟩ := DataW.trod_struct Tryz.underlying42 ht'
    obtain ⟨_, hcl, hat⟩ := World.cells?_some hc
    match cs', hcl with
    | [v0, v1, v2, v3, v4], _ =>
     have f0 : DataW.trod enc Tryz.prog W base spare held n' 3 ((List.drop 0 [v0, v1, v2, v3, v4]).take (Tryz.prog.cellsOf 3)) = ys[0]? := hf 0 _ rfl
     have f1 : DataW.trod enc Tryz.prog W base spare held n' 9 ((List.drop 1 [v0, v1, v2, v3, v4]).take (Tryz.prog.cellsOf 9)) = ys[1]? := hf 1 _ rfl
     have f2 : DataW.trod enc Tryz.prog W base spare held n' 2 ((List.drop 2 [v0, v1, v2, v3, v4]).take (Tryz.prog.cellsOf 2)) = ys[2]? := hf 2 _ rfl
     have f3 : DataW.trod enc Tryz.prog W base spare held n' 38 ((List.drop 3 [v0, v1, v2, v3, v4]).take (Tryz.prog.cellsOf 38)) = ys[3]? := hf 3 _ rfl
     have f4 : DataW.trod enc Tryz.prog W base spare held n' 3 ((List.drop 4 [v0, v1, v2, v3, v4]).take (Tryz.prog.cellsOf 3)) = ys[4]? := hf 4 _ rfl
     rw [List.getElem?_eq_getElem (by rw [hyl]; decide)] at f0 f1 f2 f3 f4
     obtain ⟨k, e0, _, w0⟩ := DataW.trod_int Tryz.underlying3 f0
     obtain ⟨s, e1, _, w1⟩ := DataW.trod_string Tryz.underlying9 f1
     obtain ⟨z, e2, _, w2⟩ := DataW.trod_int Tryz.underlying2 f2
     obtain ⟨q, c, L, f, e3, hla⟩ := ih n' (by omega) _ _ f3
     obtain ⟨p, e4, _, w4⟩ := DataW.trod_int Tryz.underlying3 f4
     rw [c0] at e0 e4; rw [c1] at e1; rw [c2] at e2; rw [c3] at e3
     simp at e0 e1 e2 e3 e4
     subst e0 e1 e2 e3 e4
     have add1 : ∀ (b : Addr) (i : Nat), 0 < i → b.add i = ⟨b.block, b.off + i, none⟩ := fun b i hi => by unfold Addr.add; rw [if_neg (by omega)]
     refine ⟨(.mk k s z L p, [.int .i64 k, .string s, .int .i64 z, .slice q L.length c, .int .i64 p]), ⟨_, _, _, _, _, rfl, ?_, ?_, ?_, ?_, ?_⟩, .mk k s z L p q c f hla.hc hla.hm hla.hr hla.hx⟩
     ·have := hat 0 (by decide)
      rwa [show (a.add (i * 5)).add 0 = a.add (i * 5) by unfold Addr.add; simp] at this
     ·have := hat 1 (by decide)
      rwa [add1 _ 1 (by decide)] at this
     ·have := hat 2 (by decide)
      rwa [add1 _ 2 (by decide)] at this
     ·have := hat 3 (by decide)
      rwa [add1 _ 3 (by decide)] at this
     ·have := hat 4 (by decide)
      rwa [add1 _ 4 (by decide)] at this
   obtain ⟨g, hg⟩ := choose_lt key
   refine ⟨some a, cap, (List.range len).map fun i => (g i).1, fun i => (g i).2, by simp, by simpa using hl, hm, fun j y hj => ?_, fun j y hj => ?_⟩
   ·obtain ⟨h1, rfl⟩ := map_at hj
    exact ⟨a, rfl, (hg j h1).1⟩
   ·obtain ⟨h1, rfl⟩ := map_at hj
    exact (hg j h1).2
theorem spot_none {W : World} {a : Addr} {v : Value} (h : W.cell? a = some v) : a = ⟨a.block, a.off, none⟩ := by
 obtain ⟨b, o, sp⟩ := a
 cases sp with
 | none => rfl
 | some k =>
  unfold World.cell? at h
  split at h
  ·simp at h
  ·cases h
set_option maxRecDepth 100000 in
theorem strs_of_trod {H : Type} {enc : TypeId × Value → H} {W : World} {base : Nat} {spare : Nat → Bool} {held : Bool} {fuel : Nat} {cs : List Value} {x : DataW H × List MemPlace}
  (h : DataW.trod enc Tryz.prog W base spare held fuel 37 cs = some x) :
  ∃ (q : Option Addr) (c : Nat) (A : List ByteArray), cs = [.slice q A.length c] ∧ SA W q c A := by
 rcases slice_fuel Tryz.underlying37 h with rfl | ⟨a, len, cap, n, hn, rfl, hl, hm, hi⟩
 ·exact ⟨none, 0, [], rfl, Nat.le_refl _, by decide, fun j s hj => by simp at hj⟩
 ·have hC : Tryz.prog.cellsOf 9 = 1 := by kernel_rfl
  have key : ∀ i, i < len → ∃ s : ByteArray, W.cell? (a.add i) = some (.string s) := by
   intro i hi1
   obtain ⟨cs', y, hc, ht'⟩ := hi i hi1
   rw [hC, Nat.mul_one] at hc
   obtain ⟨s, rfl, _, _⟩ := DataW.trod_string Tryz.underlying9 ht'
   obtain ⟨_, _, hat⟩ := World.cells?_some hc
   have h0 := hat 0 (by decide)
   rw [show (a.add i).add 0 = a.add i by unfold Addr.add; simp] at h0
   exact ⟨s, h0⟩
  obtain ⟨f, hf⟩ := choose_lt key
  refine ⟨some a, cap, (List.range len).map fun i => id (f i), by simp, by simpa using hl, hm, fun j t hj => ?_⟩
  obtain ⟨h1, rfl⟩ := map_at hj
  have h0 := hf 0 (by omega)
  rw [show a.add 0 = a by unfold Addr.add; simp] at h0
  have ha := spot_none h0
  have h2 := hf j h1
  rw [ha, addr_addR] at h2
  exact ⟨a.block, a.off, by rw [← ha], h2⟩
instance : Inhabited Ru := ⟨⟨false, [], [], 0⟩⟩
set_option maxRecDepth 100000 in
theorem rules_of_trod {H : Type} {enc : TypeId × Value → H} {W : World} {base : Nat} {spare : Nat → Bool} {held : Bool} {fuel : Nat} {cs : List Value} {x : DataW H × List MemPlace}
  (h : DataW.trod enc Tryz.prog W base spare held fuel 23 cs = some x) :
  ∃ (q : Option Addr) (c : Nat) (L : List Ru) (f : Nat → List Value), cs = [.slice q L.length c] ∧ RsA W q c f L := by
 rcases slice_fuel Tryz.underlying23 h with rfl | ⟨a, len, cap, n, hn, rfl, hl, hm, hi⟩
 ·exact ⟨none, 0, [], fun _ => [], rfl, Nat.le_refl _, by decide, fun j t hj => by simp at hj, fun j t hj => by simp at hj⟩
 ·have hC : Tryz.prog.cellsOf 40 = 4 := by kernel_rfl
  have c0 : Tryz.prog.cellsOf 4 = 1 := by kernel_rfl
  have c1 : Tryz.prog.cellsOf 37 = 1 := by kernel_rfl
  have c2 : Tryz.prog.cellsOf 38 = 1 := by kernel_rfl
  have c3 : Tryz.prog.cellsOf 3 = 1 := by kernel_rfl
  have key : ∀ i, i < len → ∃ y : Ru × List Value, Four W (a.add (i * 4)) y.2 ∧ ∃ q1 c1 q2 c2 g, RuA W y.2 y.1 q1 c1 q2 c2 g := by
   intro i hi1
   obtain ⟨cs', y, hc, ht'⟩ := hi i hi1
   rw [hC] at hc
   obtain ⟨ys, n', hn', hy, hlen, hyl, hf⟩ := DataW.trod_struct Tryz.underlying40 ht'
   obtain ⟨_, hcl, hat⟩ := World.cells?_some hc
   match cs', hcl with
   | [v0, v1, v2, v3], _ =>
    have f0 : DataW.trod enc Tryz.prog W base spare held n' 4 ((List.drop 0 [v0, v1, v2, v3]).take (Tryz.prog.cellsOf 4)) = ys[0]? := hf 0 _ rfl
    have f1 : DataW.trod enc Tryz.prog W base spare held n' 37 ((List.drop 1 [v0, v1, v2, v3]).take (Tryz.prog.cellsOf 37)) = ys[1]? := hf 1 _ rfl
    have f2 : DataW.trod enc Tryz.prog W base spare held n' 38 ((List.drop 2 [v0, v1, v2, v3]).take (Tryz.prog.cellsOf 38)) = ys[2]? := hf 2 _ rfl
    have f3 : DataW.trod enc Tryz.prog W base spare held n' 3 ((List.drop 3 [v0, v1, v2, v3]).take (Tryz.prog.cellsOf 3)) = ys[3]? := hf 3 _ rfl
    rw [List.getElem?_eq_getElem (by rw [hyl]; decide)] at f0 f1 f2 f3
    obtain ⟨d, e0, _⟩ := DataW.trod_bool Tryz.underlying4 f0
    obtain ⟨qs, cs1, A, e1, hsa⟩ := strs_of_trod f1
    obtain ⟨q, c, L, f, e2, hla⟩ := exs_of_trod n' _ _ f2
    obtain ⟨p, e3, _, w3⟩ := DataW.trod_int Tryz.underlying3 f3
    rw [c0] at e0; rw [c1] at e1; rw [c2] at e2; rw [c3] at e3
    simp at e0 e1 e2 e3
    subst e0 e1 e2 e3
    have add1 : ∀ (b : Addr) (i : Nat), 0 < i → b.add i = ⟨b.block, b.off + i, none⟩ := fun b i hi => by unfold Addr.add; rw [if_neg (by omega)]
    refine ⟨(⟨d, A, L, p⟩, [.bool d, .slice qs A.length cs1, .slice q L.length c, .int .i64 p]), ⟨_, _, _, _, rfl, ?_, ?_, ?_, ?_⟩, qs, cs1, q, c, f, rfl, hsa, hla⟩
    ·have := hat 0 (by decide)
     rwa [show (a.add (i * 4)).add 0 = a.add (i * 4) by unfold Addr.add; simp] at this
    ·have := hat 1 (by decide)
     rwa [add1 _ 1 (by decide)] at this
    ·have := hat 2 (by decide)
     rwa [add1 _ 2 (by decide)] at this
    ·have := hat 3 (by decide)
     rwa [add1 _ 3 (by decide)] at this
  obtain ⟨g, hg⟩ := choose_lt key
  refine ⟨some a, cap, (List.range len).map fun i => (g i).1, fun i => (g i).2, by simp, by simpa using hl, hm, fun j y hj => ?_, fun j y hj => ?_⟩
  ·obtain ⟨h1, rfl⟩ := map_at hj
   exact ⟨a, rfl, (hg j h1).1⟩
  ·obtain ⟨h1, rfl⟩ := map_at hj
   exact (hg j h1).2
end Go.Proofs.YtgklmpooonnmiaaGreatDoor
