/-
  Lemmas and contracts that the proofs over this seat use (Num, PolJoinsLaw); no statement of the seat is claimed in this text, and nothing is assumed in it.
-/
import Derived.Test.YtgklmpooonnmiaaDoorJ49
import Derived.Test.YtgklmpooonnmiaaDoorJ3
import Derived.Test.YtgklmpooonnmiaaDoorJ32
import Derived.Test.YtgklmpooonnmiaaDoorJ47
import Derived.Test.YtgklmpooonnmiaaDoorJ48
set_option linter.unusedVariables false
set_option linter.unusedSimpArgs false
namespace Go.Proofs.YtgklmpooonnmiaaDoor
open Go.RowKit
def Er.num : Er → Int
 | .ok => 0
 | .no n => n
 | .pl _ n => n
def Er.pos : Er → Int
 | .ok => -1
 | .no _ => -1
 | .pl p _ => p
theorem ErrT.fr {bs : List Nat} {w w' : World} (h : ErrT w) (hlt : 0 < w.heap.size) (hF : Fr bs w w') (hn : 0 ∉ bs) : ErrT w' := by
 unfold ErrT
 rw [hF.cell (p := ⟨0, 0, none⟩) hlt hn]
 exact h
theorem as_num (e : Er) (w : World) (B g : Nat) (v : Value) (hv : ErV w B e v) (hne : e ≠ .ok) (hg : ErrT w) (hlt : 0 < w.heap.size) (hr : w.heap[g]? = some (.cells #[.int .i64 0] 57 (0, 0))) :
  Calls Tryd.prog 42 #[v, .iface 69 (.pointer (some ⟨g, 0, none⟩))] w fun e' w' => e' = .returned (.bool true) ∧ w'.heap[g]? = some (.cells #[.int .i64 e.num] 57 (0, 0)) ∧ Fr [g] w w' := by
 have hc : w.cell? ⟨g, 0, none⟩ = some (.int .i64 0) := cell_of_row w g 0 _ _ (0, 0) hr
 have hf : w.frozen? ⟨g, 0, none⟩ = false := Lib.frozen_of_heap hr 0
 have fin : ∀ (W : World) (n : Int), Fr [] w W → (W.setCell ⟨g, 0, none⟩ (.int .i64 n)).heap[g]? = some (.cells #[.int .i64 n] 57 (0, 0)) ∧ Fr [g] w (W.setCell ⟨g, 0, none⟩ (.int .i64 n)) := fun W n hF =>
  ⟨heap_setCell_same W g 0 _ _ _ (hF.row hr (by simp)), ((Fr.refl [g] w).trans0 hF).setCell (.inl (by simp)) _⟩
 cases e with
 | ok => exact absurd rfl hne
 | no n =>
  obtain rfl : v = .iface 57 (.int .i64 (n : Nat)) := hv
  refine (as_num_no n ⟨g, 0, none⟩ w hg hlt _ hc hf).mono ?_
  rintro e w' ⟨rfl, rfl⟩
  exact ⟨rfl, fin _ _ (((((Fr.refl [] w).alloc _).alloc _).alloc _).alloc _)⟩
 | pl p n =>
  obtain ⟨b, hB, rfl, hb⟩ := hv
  refine (as_num_at n b _ ⟨g, 0, none⟩ w hb hg hlt _ hc hf).mono ?_
  rintro e w' ⟨rfl, rfl⟩
  exact ⟨rfl, fin _ _ (((((Fr.refl [] w).alloc _).alloc _).alloc _).alloc _)⟩
set_option maxHeartbeats 4000000 in
set_option maxRecDepth 100000 in
theorem law_num (w : World) (B : Nat) (e : Er) (v : Value) (hv : ErV w B e v) (hg : ErrT w) (hlt : 0 < w.heap.size) :
  Calls Tryd.prog 18 #[v] w fun e' w' => e' = .returned (.int .i64 e.num) ∧ Fr [] w w' := by
 by_cases hne : e = .ok
 ·subst hne
  obtain rfl : v = .nilIface := hv
  go_enter Tryd.func18, Tryd.ntmps18
  go_wp2_with fail
  go_ret
  exact ⟨rfl, Fr.refl _ _⟩
 have hF0 : Fr [] w (w.alloc (.cells #[.int .i64 0] 57)) := (Fr.refl _ _).alloc _
 have HAS := Lib.hid (as_num e _ B w.heap.size v (hv.fr hF0) hne (hg.fr hlt hF0 (by simp)) (Nat.lt_of_lt_of_le hlt hF0.size) (heap_alloc_last w _))
 have hvn : ∃ t u, v = .iface t u := by
  cases e with
  | ok => exact absurd rfl hne
  | no n => exact ⟨_, _, hv⟩
  | pl p n => obtain ⟨b, _, h, _⟩ := hv; exact ⟨_, _, h⟩
 obtain ⟨t, u, rfl⟩ := hvn
 have HF0 := Lib.hid hF0
 clear hv hg hF0 hne
 go_enter Tryd.func18, Tryd.ntmps18
 go_wp2_with fail
 refine HAS.out.mono ?_
 rintro e' w1 ⟨rfl, hr, hF⟩
 have hc : w1.cell? ⟨w.heap.size, 0, none⟩ = some (.int .i64 e.num) := cell_of_row w1 _ 0 _ _ (0, 0) hr
 have HF : Hid (Fr [] w w1) := HF0.out.trans1 hF (.inr (Nat.le_refl _))
 clear hr hF HAS HF0
 go_wp2_with fail
 go_ret
 exact ⟨rfl, HF.out⟩
end Go.Proofs.YtgklmpooonnmiaaDoor

namespace Go.Proofs.YtgklmpooonnmiaaDoor
open Go.RowKit
set_option maxHeartbeats 8000000 in
set_option maxRecDepth 100000 in
theorem joins_law (w : World) (s t : ByteArray) (hs : s.size ≤ maxLen) (ht : t.size ≤ maxLen) (hL : Least w) (hE : ErrT w) (hlt : 0 < w.heap.size) :
  Calls Tryd.prog 8 #[.string s, .string t] w fun e w' => e = .returned (.bool true) ∧ Fr [] w w' := by
 have HL := Lib.hid hL
 have HE := Lib.hid hE
 have HLT := Lib.hid hlt
 have HAL := Lib.hid (pol_alive w hL)
 clear hL hE hlt
 obtain ⟨⟨Ea, La⟩, hPa⟩ : ∃ r, Pol.parse s = r := ⟨_, rfl⟩
 obtain ⟨⟨Eb, Lb⟩, hPb⟩ : ∃ r, Pol.parse t = r := ⟨_, rfl⟩
 have HPA := Lib.hid hPa
 have HPB := Lib.hid hPb
 clear hPa hPb
 go_enter Tryd.func8, Tryd.ntmps8
 go_wp2_with fail
 refine HAL.out.mono ?_
 rintro e w1 ⟨rfl, hF⟩
 have HF := Lib.hid hF
 clear hF
 have HC1 := Lib.hid (pol_parse w1 s hs (HL.out.fr HF.out (by simp)))
 rw [HPA.out] at HC1
 go_wp2_with fail
 refine HC1.out.mono ?_
 rintro e w2 ⟨va, ea, rfl, hr, hev, hf⟩
 have HF2 := Lib.hid (HF.out.trans0 hf)
 have HEA := Lib.hid hev
 have HRA := Lib.hid hr
 obtain ⟨qa, ca, rfl⟩ := hr.form
 clear hr hev hf HC1
 have HC2 := Lib.hid (pol_parse w2 t ht (HL.out.fr HF2.out (by simp)))
 rw [HPB.out] at HC2
 go_wp2_with fail
 refine HC2.out.mono ?_
 rintro e w3 ⟨vb, eb, rfl, hr, hev, hf⟩
 have HF3 := Lib.hid (HF2.out.trans0 hf)
 have HEB := Lib.hid hev
 have HRB := Lib.hid hr
 have HRA3 := Lib.hid (HRA.out.fr hf (by simp))
 obtain ⟨qb, cb, rfl⟩ := hr.form
 clear hr hev hf HC2 HRA
 cases Ea with
 | no n =>
  obtain rfl : ea = .iface 57 (.int .i64 (n : Nat)) := HEA.out
  go_wp2_with fail
  go_ret
  exact ⟨rfl, HF3.out⟩
 | pl p n =>
  obtain ⟨b9, _, rfl, _⟩ := HEA.out
  go_wp2_with fail
  go_ret
  exact ⟨rfl, HF3.out⟩
 | ok =>
 obtain rfl : ea = .nilIface := HEA.out
 cases Eb with
 | no n =>
  obtain rfl : eb = .iface 57 (.int .i64 (n : Nat)) := HEB.out
  go_wp2_with fail
  go_ret
  exact ⟨rfl, HF3.out⟩
 | pl p n =>
  obtain ⟨b9, _, rfl, _⟩ := HEB.out
  go_wp2_with fail
  go_ret
  exact ⟨rfl, HF3.out⟩
 | ok =>
 obtain rfl : eb = .nilIface := HEB.out
 have hs2 := parse_size HPA.out
 have ht2 := parse_size HPB.out
 have hla := parse_most HPA.out
 have hlb := parse_most HPB.out
 have hwl : IntKind.i64.wrap ((La.length : Int) + (Lb.length : Int)) = (La.length : Int) + (Lb.length : Int) := IntWalk.i64_in _ (by omega)
 by_cases h16 : La.length + Lb.length > 16
 ·have a16 : (La.length : Int) + (Lb.length : Int) > 16 := by omega
  go_wp2_with fail
  go_ret
  exact ⟨rfl, HF3.out⟩
 have a16 : ¬ (La.length : Int) + (Lb.length : Int) > 16 := by omega
 have hws : IntKind.i64.wrap ((s.size : Int) + (t.size : Int)) = (s.size : Int) + (t.size : Int) := IntWalk.i64_in _ (by omega)
 by_cases hsz : s.size + t.size > 2047
 ·have asz : (s.size : Int) + (t.size : Int) > 2047 := by omega
  go_wp2_with fail
  go_ret
  exact ⟨rfl, HF3.out⟩
 have asz : ¬ (s.size : Int) + (t.size : Int) > 2047 := by omega
 have hz1 : ¬ 9223372036854775807 < s.size + 1 := by omega
 have hz2 : ¬ 9223372036854775807 < (s ++ ⟨#[10]⟩).size + t.size := by rw [ByteArray.size_append, show (⟨#[10]⟩ : ByteArray).size = 1 from rfl]; omega
 have HU : (s ++ ⟨#[10]⟩ ++ t).size ≤ maxLen := by rw [ByteArray.size_append, ByteArray.size_append, show (⟨#[10]⟩ : ByteArray).size = 1 from rfl]; unfold maxLen; omega
 have HC3 := Lib.hid (pol_parse w3 (s ++ ⟨#[10]⟩ ++ t) HU (HL.out.fr HF3.out (by simp)))
 have hj := Pol.parse_join s t La Lb HPA.out HPB.out (by omega) (by omega)
 rcases hj with ⟨p, hp⟩ | ⟨R, hR, hsame⟩
 ·rw [hp] at HC3
  clear hp HEA HEB
  go_wp2_with fail
  refine HC3.out.mono ?_
  rintro e w4 ⟨vn, en, rfl, hr, hev, hf⟩
  have HF4 := Lib.hid (HF3.out.trans0 hf)
  have HNU := Lib.hid (law_num w4 _ (.pl p 53) en hev (HE.out.fr HLT.out HF4.out (by simp)) (Nat.lt_of_lt_of_le HLT.out HF4.out.size))
  obtain ⟨qn, cn, rfl⟩ := hr.form
  rw [show Er.num (.pl p 53) = 53 from rfl] at HNU
  clear hr hev hf HC3
  go_wp2_with fail
  refine HNU.out.mono ?_
  rintro e w5 ⟨rfl, hf⟩
  have HF5 := Lib.hid (HF4.out.trans0 hf)
  clear hf HNU
  go_wp2_with fail
  go_ret
  exact ⟨rfl, HF5.out⟩
 ·rw [hR] at HC3
  have HS := Lib.hid hsame
  clear hR hsame HEA HEB
  go_wp2_with fail
  refine HC3.out.mono ?_
  rintro e w4 ⟨vn, en, rfl, hr, hev, hf⟩
  have HF4 := Lib.hid (HF3.out.trans0 hf)
  obtain rfl : en = .nilIface := hev
  have HNU := Lib.hid (law_num w4 w3.heap.size .ok .nilIface rfl (HE.out.fr HLT.out HF4.out (by simp)) (Nat.lt_of_lt_of_le HLT.out HF4.out.size))
  obtain ⟨qn, cn, rfl⟩ := hr.form
  rw [show Er.num .ok = 0 from rfl] at HNU
  have HRN := Lib.hid hr
  have HRA4 := Lib.hid (HRA3.out.fr hf (by simp))
  have HRB4 := Lib.hid (HRB.out.fr hf (by simp))
  clear hr hf HC3 HRA3 HRB
  go_wp2_with fail
  refine HNU.out.mono ?_
  rintro e w5 ⟨rfl, hf⟩
  have HF5 := Lib.hid (HF4.out.trans0 hf)
  have HRN := Lib.hid ((HRN.out.fr hf (by simp)).mono (E := fun i => i < w5.heap.size) (fun g hg _ => hg))
  have HRA := Lib.hid ((HRA4.out.fr hf (by simp)).mono (E := fun i => i < w5.heap.size) (fun g hg _ => hg))
  have HRB := Lib.hid ((HRB4.out.fr hf (by simp)).mono (E := fun i => i < w5.heap.size) (fun g hg _ => hg))
  clear hf HNU HRA4 HRB4
  have HA6 : Hid (Fr [] w5 (w5.alloc (.cells #[] 78))) := (Fr.refl _ _).alloc _
  have HOWN : Hid ((w5.alloc (.cells #[] 78)).ownsRow w5.heap.size 78 4 (.slice (some ⟨w5.heap.size, 0, none⟩) 0 0) 0 []) := ⟨rfl, Or.inr ⟨w5.heap.size, 0, #[], rfl, Nat.le_refl _, heap_alloc_last _ _, Nat.le_refl _, by decide, rfl, rfl⟩⟩
  have HRA6 := Lib.hid (HRA.out.fr HA6.out (by simp))
  have hb6 : w5.heap.size ≤ (w5.alloc (.cells #[] 78)).heap.size := by simp
  have hn6 : 0 + La.length ≤ 1000000 := by omega
  go_wp2_with (at_builtin; refine appAll (by kernel_rfl) (.tmp 60) (.tmp 61) rfl w5.heap.size (.slice (some ⟨w5.heap.size, 0, none⟩) 0 0) 0 [] (fun i => i < w5.heap.size) (.slice qa La.length ca) La rfl rfl HOWN.out HRA6.out hb6 hn6 ?_)
  intro v7 w7 ca7 ho hru hg
  obtain ⟨q7, c7, rfl⟩ := own_form ho
  have hf7 : Fr [w5.heap.size] (w5.alloc (.cells #[] 78)) w7 := Fr.of_grown hg
  have hfar : ∀ y ∈ [w5.heap.size], y < (w5.alloc (.cells #[] 78)).heap.size → ¬ (fun i => i < w5.heap.size) y := fun y hy _ hc => by
   rw [List.mem_singleton.1 hy] at hc
   exact Nat.lt_irrefl _ hc
  have HRU7 := Lib.hid (hru.fr hf7 hfar)
  have HRB7 := Lib.hid ((HRB.out.fr HA6.out (by simp)).fr hf7 hfar)
  have HRN7 := Lib.hid ((HRN.out.fr HA6.out (by simp)).fr hf7 hfar)
  have HF7 : Hid (Fr [] w w7) := (((HF5.out.trans0 HA6.out).sub (bs := [w5.heap.size])).trans hf7 (fun y hy => .inl hy)).new (by have := HF5.out.size; omega)
  have HO7 := Lib.hid ho
  have hb7 : w5.heap.size ≤ w7.heap.size := Nat.le_trans hb6 hf7.size
  have hn7 : La.length + Lb.length ≤ 1000000 := by omega
  have HBS : Hid (∀ y, (Value.slice q7 La.length c7).ownBlock = some y → w5.heap.size ≤ y) := fun y hy => by
   rcases ho.2 with ⟨hv, _⟩ | ⟨g0, cap, cur, hv, hb, _⟩
   ·rw [hv] at hy; simp [Value.ownBlock] at hy
   ·rw [hv] at hy; simp [Value.ownBlock] at hy; omega
  clear ho hru hg hf7 hfar HRA6 HRA HRB HRN HOWN HA6
  go_wp2_with (at_builtin; refine appAll (by kernel_rfl) (.tmp 62) (.tmp 63) rfl w5.heap.size (.slice q7 La.length c7) La.length ca7.flatten (fun i => i < w5.heap.size) (.slice qb Lb.length cb) Lb rfl rfl HO7.out HRB7.out hb7 hn7 ?_)
  intro v8 w8 cb8 ho hru hg
  have hf8 : Fr (Value.slice q7 La.length c7).ownBlock.toList w7 w8 := Fr.of_grown hg
  have hfar : ∀ y ∈ (Value.slice q7 La.length c7).ownBlock.toList, y < w7.heap.size → ¬ (fun i => i < w5.heap.size) y := fun y hy _ hc => by
   have h1 := HBS.out y (by simpa using hy)
   have h2 : y < w5.heap.size := hc
   omega
  have hA := (HRU7.out.fr hf8 hfar).app (hru.fr hf8 hfar)
  have hRN := (HRN7.out.fr hf8 hfar)
  have h8 : Fr (Value.slice q7 La.length c7).ownBlock.toList w w8 := (HF7.out.sub (bs := (Value.slice q7 La.length c7).ownBlock.toList)).trans hf8 (fun y hy => .inl hy)
  have HF8 : Hid (Fr [] w w8) := ⟨h8.os, h8.tape, h8.output, h8.size, fun k hk _ => h8.block k hk (fun hc => by have h1 := HBS.out k (by simpa using hc); have h2 := HF5.out.size; omega)⟩
  have ho8 : w8.ownsRow w5.heap.size 78 4 v8 (La ++ Lb).length (ca7 ++ cb8).flatten := by
   have e1 : (La ++ Lb).length = La.length + Lb.length := by simp
   have e2 : (ca7 ++ cb8).flatten = ca7.flatten ++ cb8.flatten := by simp
   rw [e1, e2]; exact ho
  have hS2 := HS.out
  obtain ⟨LL, hLL⟩ : ∃ LL, La ++ Lb = LL := ⟨_, rfl⟩
  rw [hLL] at ho8 hA hS2
  obtain ⟨q8, c8, f8, rfl, hA8⟩ := (rs_own (E := fun _ => True) ho8 hA (fun _ _ => trivial) (fun _ _ => trivial)).ra
  obtain ⟨q9, c9, f9, he, hR9⟩ := hRN.ra
  simp only [Value.slice.injEq, true_and] at he
  obtain ⟨rfl, rfl⟩ := he
  have HSM := Lib.hid (ref_Same_false w8 qn q8 cn c8 f9 f8 R LL hR9 hA8)
  rw [hS2] at HSM
  clear hS2 hLL ho hru hg hf8 hfar hA hRN h8 ho8 hA8 hR9 HRU7 HRB7 HRN7 HO7 HBS
  go_wp2_with fail
  refine HSM.out.mono ?_
  rintro e w9 ⟨rfl, hf⟩
  have HF9 := Lib.hid (HF8.out.trans0 hf)
  clear hf HSM
  go_wp2_with fail
  go_ret
  exact ⟨rfl, HF9.out⟩
end Go.Proofs.YtgklmpooonnmiaaDoor
