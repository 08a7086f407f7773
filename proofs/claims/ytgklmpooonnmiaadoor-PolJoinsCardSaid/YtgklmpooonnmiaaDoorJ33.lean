/-
  Lemmas and contracts that the proofs over this seat use (PolLevel, BldF); no statement of the seat is claimed in this text, and nothing is assumed in it.
-/
import Derived.Test.YtgklmpooonnmiaaDoorJ13
import Derived.Test.YtgklmpooonnmiaaDoorJ6
set_option linter.unusedVariables false
set_option linter.unusedSimpArgs false
namespace Go.Proofs.YtgklmpooonnmiaaDoor
open Go.RowKit
def Pol.level (op : Int) : Int :=
 if op = 8 then 1 else if op = 7 then 2 else if op = 6 then 3 else if op = 9 ∨ op = 10 ∨ op = 11 ∨ op = 12 ∨ op = 13 ∨ op = 14 then 4 else 5
set_option maxHeartbeats 4000000 in
set_option maxRecDepth 100000 in
theorem pol_level (w : World) (op : Int) : Calls Tryd.prog 97 #[.int .i64 op] w fun e w' => e = .returned (.int .i64 (Pol.level op)) ∧ w = w' := by
 go_enter Tryd.func97, Tryd.ntmps97
 go_wp2_with fail
 all_goals (refine bodyPost_ret (results_tmp rfl _ _ _) rfl ?_; simp_all [Pol.level])
end Go.Proofs.YtgklmpooonnmiaaDoor

namespace Go.Proofs.YtgklmpooonnmiaaDoor
open Go.RowKit
structure BFr (b : Nat) (w w' : World) : Prop where
 size : w.heap.size ≤ w'.heap.size
 block : ∀ k, k < w.heap.size → k ≠ b → (∀ cs fr, w.heap[k]? ≠ some (.cells cs 5 fr)) → w'.heap[k]? = w.heap[k]?
theorem BFr.refl (b : Nat) (w : World) : BFr b w w := ⟨Nat.le_refl _, fun _ _ _ _ => rfl⟩
theorem BFr.trans {b : Nat} {x y z : World} (h : BFr b x y) (k : BFr b y z) : BFr b x z :=
 ⟨Nat.le_trans h.size k.size, fun i hi hn ht => by
  have h1 := h.block i hi hn ht
  exact (k.block i (Nat.lt_of_lt_of_le hi h.size) hn (fun cs fr => by rw [h1]; exact ht cs fr)).trans h1⟩
theorem BFr.of_fr {b : Nat} {w w' : World} (h : Fr [] w w') : BFr b w w' := ⟨h.size, fun k hk _ _ => h.block k hk (by simp)⟩
theorem BFr.alloc {b : Nat} {a w : World} (h : BFr b a w) (o : Obj) : BFr b a (w.alloc o) := h.trans (.of_fr ((Fr.refl _ _).alloc o))
theorem BFr.setCell {b : Nat} {a w : World} (h : BFr b a w) (i : Nat) (u : Value) : BFr b a (w.setCell ⟨b, i, none⟩ u) :=
 h.trans ⟨by simp [World.setCell], fun k _ hk _ => Below.heap_setCell _ _ _ _ (fun e => hk (by simpa using e))⟩
theorem BFr.row {b : Nat} {w w' : World} (h : BFr b w w') {k T : Nat} {cs : Array Value} {fr : Nat × Nat} (hg : w.heap[k]? = some (.cells cs T fr)) (hk : k ≠ b) (hT : T ≠ 5) : w'.heap[k]? = some (.cells cs T fr) := by
 rw [h.block k (row_lt hg) hk (fun cs' fr' e => by rw [hg] at e; simp at e; exact hT e.2.1)]; exact hg
theorem BFr.grown {b : Nat} {a w w' : World} {B n : Nat} {v : Value} {xs : List Value} (h : BFr b a w) (hg : w.grownBy w' v.ownBlock) (ho : w.ownsRow B 5 1 v n xs) : BFr b a w' := by
 refine h.trans ⟨hg.size, fun k hk _ ht => hg.block k hk ?_⟩
 intro e
 rcases ho.2 with ⟨rfl, _⟩ | ⟨g, cap, cur, rfl, hb, hrow, _⟩
 ·simp [Value.ownBlock] at e
 ·simp only [Value.ownBlock, Option.some.injEq] at e
  subst e
  exact ht _ _ hrow
set_option maxHeartbeats 1000000 in
set_option maxRecDepth 100000 in
theorem bld_checkF (B b : Nat) (D : List Nat) (w : World) (h : Bld B b D w) :
  Calls Tryd.prog 86 #[.pointer (some ⟨b, 0, none⟩)] w fun e w' => e = .returned (.tuple #[]) ∧ BldAt B b (.pointer (some ⟨b, 0, none⟩)) D w' ∧ Below B w w' ∧ BFr b w w' := by
 have hj0 : (Tryd.prog.info? 106).map (·.size) = some 2 := by kernel_rfl
 obtain ⟨j, hj, hjs⟩ := Option.map_eq_some_iff.1 hj0
 rcases h with h | h
 ·have h0 := h.cell0
  have hsh := h.shape
  have hfz := h.frozen0
  have hpost : BldAt B b (.pointer (some ⟨b, 0, none⟩)) D (w.setCell ⟨b, 0, none⟩ (.pointer (some ⟨b, 0, none⟩))) ∧ Below B w (w.setCell ⟨b, 0, none⟩ (.pointer (some ⟨b, 0, none⟩))) ∧ BFr b w (w.setCell ⟨b, 0, none⟩ (.pointer (some ⟨b, 0, none⟩))) := ⟨h.used _, (Below.refl B w).setCell (p := ⟨b, 0, none⟩) h.1 _, (BFr.refl b w).setCell 0 _⟩
  have HP := Lib.hid hpost
  have HJ := Lib.hid hj
  have HJS := Lib.hid hjs
  have HSH := Lib.hid hsh
  clear hpost hj hjs hsh h hj0
  go_enter Tryd.func86, Tryd.ntmps86
  go_wp2_with fail
  rw [Lib.run_to_unsafe w ⟨b, 0, none⟩ Tryd.underlying104 Tryd.underlying115 HJ.out (by rw [HJS.out]; decide) HSH.out (Nat.zero_lt_succ 1)]
  simp only [Result.andThen]
  rw [Oper.upon_value]
  go_wp2_with fail
  rw [run_callFunc_extern Tryd.func102 (by kernel_rfl) (by kernel_rfl) (by kernel_rfl) (e := Extern.AbiNoEscape.same) (by kernel_rfl)]
  rw [Lib.run_noEscape]
  simp only [Result.andThen]
  rw [Oper.upon_value]
  go_wp2_with fail
  rw [Lib.run_from_unsafe w ⟨b, 0, none⟩ Tryd.underlying115 Tryd.underlying104 HJ.out HSH.out (by kernel_rfl)]
  simp only [Result.andThen]
  rw [Oper.upon_value]
  go_wp2_with fail
  go_end0
  exact ⟨rfl, HP.out⟩
 ·have h0 := h.cell0
  have HP := Lib.hid h
  clear h hj0 hjs
  have hq := Lib.run_neq_ptr_same (P := Tryd.prog) w ⟨b, 0, none⟩ Tryd.underlying104 hj
  clear hj
  go_enter Tryd.func86, Tryd.ntmps86
  go_wp2_with fail
  go_end0
  exact ⟨rfl, HP.out, Below.refl B _, BFr.refl b _⟩
set_option maxHeartbeats 1000000 in
set_option maxRecDepth 100000 in
theorem bld_byteF (B b : Nat) (D : List Nat) (c : Nat) (w : World) (h : Bld B b D w) (hl : D.length < 1000000000) (hB : B ≤ w.heap.size) :
  Calls Tryd.prog 75 #[.pointer (some ⟨b, 0, none⟩), .int .u8 c] w fun e w' => e = .returned .nilIface ∧ Bld B b (D ++ [c]) w' ∧ Below B w w' ∧ BFr b w w' := by
 obtain ⟨i0, hi, hz0, hz1, hz2⟩ := info_parts info8
 have HI := Lib.hid hi
 have HZ := Lib.hid (And.intro hz0 (And.intro hz1 hz2))
 clear hi hz0 hz1 hz2
 go_enter Tryd.func75, Tryd.ntmps75
 go_wp2_with fail
 refine (bld_checkF B b D w h).mono ?_
 rintro e w1 ⟨rfl, ⟨hBb, v, hbk, hown, hne⟩, hb1, hf1⟩
 have HF1 := Lib.hid hf1
 clear hf1
 have c1 : w1.cell? ⟨b, 1, none⟩ = some v := by rw [Lib.cell_of_heap hbk]; rfl
 have HBK := Lib.hid hbk
 have HOWN := Lib.hid hown
 have HNE := Lib.hid hne
 have HB1 := Lib.hid hb1
 have hsz := hb1.size
 clear hbk hown hne hb1 h
 go_wp2_with (at_builtin; refine wpList_append_lies (w1.alloc _) rfl (.tmp 11) (.tmp 13) 36 rfl B 5 i0 (.int .u8 0) 1 1 Tryd.underlying36 HI.out HZ.out.1 HZ.out.2.1 HZ.out.2.2 rfl (by decide) v (u8s D).length (u8s D) rfl (HOWN.out.alloc _) _ 1 1 [.int .u8 (c : Int)] rfl rfl (cell_one_new w1 _ _) (by simp [Value.oneCell']) (by decide) (by rw [u8s_length]; unfold maxLen; omega) (by rw [u8s_length]; omega) (by simp; omega) _ rfl ?_)
 intro g cap w2 hown2 hgrow _ hg2
 have hlt : b < w1.heap.size := row_lt HBK.out
 have hb2 : w2.heap[b]? = some (.cells #[.pointer (some ⟨b, 0, none⟩), v] 106 (0, 0)) := by
  rw [hgrow.block b (by simp; omega) (fun e => HNE.out e.symm), Below.heap_alloc _ _ _ hlt]; exact HBK.out
 have e : u8s (D ++ [c]) = u8s D ++ [.int .u8 (c : Int)] := by simp [u8s]
 have hl2 : D.length + 1 = (u8s (D ++ [c])).length := by simp
 rw [← e] at hown2
 have hown3 : w2.ownsRow B 5 1 (.slice (some ⟨g, 0, none⟩) (D.length + 1) cap) (u8s (D ++ [c])).length (u8s (D ++ [c])) := by rw [← hl2]; exact hown2
 have c2 : w2.cell? ⟨b, 1, none⟩ = some v := by rw [Lib.cell_of_heap hb2]; rfl
 have f2 : w2.frozen? ⟨b, 1, none⟩ = false := Lib.frozen_of_heap hb2 1
 have HPUT := Lib.hid (Lib.BuilderAt.put (T := 106) hBb hb2 hown3 (by decide))
 have HBL : Hid (Below B w w2) := by
  refine (HB1.out.alloc (by omega) _).grown hgrow (by simp; omega) (own_base_ge HOWN.out)
 have HFL := Lib.hid ((HF1.out.alloc _).grown hgrow (HOWN.out.alloc _))
 clear hb2 hown2 hown3 hgrow e hl2 hlt
 go_wp2_with fail
 go_ret
 exact ⟨rfl, Or.inr HPUT.out, HBL.out.setCell (p := ⟨b, 1, none⟩) hBb _, HFL.out.setCell 1 _⟩
set_option maxHeartbeats 1000000 in
set_option maxRecDepth 100000 in
theorem bld_strF (B b : Nat) (D : List Nat) (s : ByteArray) (w : World) (h : Bld B b D w) (hl : D.length + s.size < 1000000000) (hB : B ≤ w.heap.size) :
  Calls Tryd.prog 62 #[.pointer (some ⟨b, 0, none⟩), .string s] w fun e w' => e = .returned (.tuple #[.int .i64 s.size, .nilIface]) ∧ Bld B b (D ++ nats s) w' ∧ Below B w w' ∧ BFr b w w' := by
 obtain ⟨i0, hi, hz0, hz1, hz2⟩ := info_parts info8
 have HI := Lib.hid hi
 have HZ := Lib.hid (And.intro hz0 (And.intro hz1 hz2))
 clear hi hz0 hz1 hz2
 go_enter Tryd.func62, Tryd.ntmps62
 go_wp2_with fail
 refine (bld_checkF B b D w h).mono ?_
 rintro e w1 ⟨rfl, ⟨hBb, v, hbk, hown, hne⟩, hb1, hf1⟩
 have HF1 := Lib.hid hf1
 clear hf1
 have c1 : w1.cell? ⟨b, 1, none⟩ = some v := by rw [Lib.cell_of_heap hbk]; rfl
 have HBK := Lib.hid hbk
 have HOWN := Lib.hid hown
 have HNE := Lib.hid hne
 have HB1 := Lib.hid hb1
 have hsz := hb1.size
 clear hbk hown hne hb1 h
 go_wp2_with (at_builtin; refine Lib.wpList_append_own_string _ rfl (.tmp 12) (.tmp 13) 36 9 rfl B 5 i0 Tryd.underlying36 Tryd.underlying9 HI.out HZ.out.1 HZ.out.2.1 HZ.out.2.2 v (u8s D).length (u8s D) rfl HOWN.out s rfl (by rw [u8s_length]; unfold maxLen; omega) (by rw [u8s_length]; omega) (by omega) ?_)
 intro v' w2 hown2 hgrow _
 have hlt : b < w1.heap.size := row_lt HBK.out
 have hb2 : w2.heap[b]? = some (.cells #[.pointer (some ⟨b, 0, none⟩), v] 106 (0, 0)) := by
  rw [hgrow.block b hlt (fun e => HNE.out e.symm)]; exact HBK.out
 have e : u8s (D ++ nats s) = u8s D ++ Lib.strCells s := by rw [strCells_u8s]; simp [u8s]
 have hl2 : D.length + s.size = (u8s (D ++ nats s)).length := by simp [nats_length]
 rw [← e] at hown2
 rw [show D.length + s.size = (u8s (D ++ nats s)).length by simp [nats_length]] at hown2
 have c2 : w2.cell? ⟨b, 1, none⟩ = some v := by rw [Lib.cell_of_heap hb2]; rfl
 have f2 : w2.frozen? ⟨b, 1, none⟩ = false := Lib.frozen_of_heap hb2 1
 have hform : ∃ ao n c, v' = .slice ao n c := by
  rcases hown2.2 with ⟨rfl, _⟩ | ⟨g, cap, cur, rfl, _⟩
  ·exact ⟨_, _, _, rfl⟩
  ·exact ⟨_, _, _, rfl⟩
 obtain ⟨ao, n, cc, rfl⟩ := hform
 have HPUT := Lib.hid (Lib.BuilderAt.put (T := 106) hBb hb2 hown2 (by decide))
 have HBL : Hid (Below B w w2) := HB1.out.grown hgrow (by omega) (own_base_ge HOWN.out)
 have HFL := Lib.hid (HF1.out.grown hgrow HOWN.out)
 clear hb2 hown2 hgrow e hl2 hlt
 go_wp2_with fail
 go_ret2
 exact ⟨rfl, Or.inr HPUT.out, HBL.out.setCell (p := ⟨b, 1, none⟩) hBb _, HFL.out.setCell 1 _⟩
end Go.Proofs.YtgklmpooonnmiaaDoor
