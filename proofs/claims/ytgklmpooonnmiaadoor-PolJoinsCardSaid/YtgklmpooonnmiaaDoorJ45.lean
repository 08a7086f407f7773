/-
  Lemmas and contracts that the proofs over this seat use (PolRight1, PolRightL); no statement of the seat is claimed in this text, and nothing is assumed in it.
-/
import Derived.Test.YtgklmpooonnmiaaDoorJ28
import Derived.Test.YtgklmpooonnmiaaDoorJ37
import Derived.Test.YtgklmpooonnmiaaDoorJ44
set_option linter.unusedVariables false
set_option linter.unusedSimpArgs false
namespace Go.Proofs.YtgklmpooonnmiaaDoor
open Go.RowKit
def unq (A : List ByteArray) : Bool := A.any fun s => !(Lex.quote s).isSome
set_option maxHeartbeats 4000000 in
theorem right_f (w : World) (s : ByteArray) (hs : s.size ≤ 100000000) (hL : Least w) : Calls Tryd.prog 94 #[.string s] w fun e w' => e = .returned (.bool (!(Lex.quote s).isSome)) ∧ Fr [] w w' := by
 have HQ := Lib.hid (pol_quoted w s hs hL)
 obtain ⟨z, hz⟩ : ∃ z, (Lex.quote s).isSome = z := ⟨_, rfl⟩
 rw [hz] at HQ ⊢
 clear hL hz
 go_enter Tryd.func94, Tryd.ntmps94
 go_wp2_with fail
 refine HQ.out.mono ?_
 rintro e W ⟨rfl, hF⟩
 have HF := Lib.hid hF
 clear hF
 go_wp2_with fail
 go_ret
 exact ⟨rfl, HF.out⟩
theorem unq_drop {A : List ByteArray} {k : Nat} {s : ByteArray} (h : A[k]? = some s) : unq (A.drop k) = (!(Lex.quote s).isSome || unq (A.drop (k + 1))) := by
 obtain ⟨h1, rfl⟩ := List.getElem?_eq_some_iff.1 h
 rw [List.drop_eq_getElem_cons h1]
 rfl
set_option maxHeartbeats 4000000 in
set_option maxRecDepth 100000 in
theorem index_f (w : World) (q : Option Addr) (c : Nat) (A : List ByteArray) (h : SA w q c A) (hs : ∀ s ∈ A, s.size ≤ 100000000) (hL : Least w) :
  Calls Tryd.prog 105 #[.slice q A.length c, .func (.func 94) #[] #[]] w fun e w' => ∃ n : Int, e = .returned (.int .i64 n) ∧ unq A = decide (0 ≤ n) ∧ Fr [] w w' := by
 have HL := Lib.hid h
 have HS := Lib.hid hs
 have HLE := Lib.hid hL
 have hb : A.length ≤ 9223372036854775807 := by have h1 := h.hc; have h2 := h.hm; unfold maxLen at h2; omega
 clear h hs hL
 go_enter Tryd.func105, Tryd.ntmps105
 go_wp2_with fail
 go_loopg [8] A.length (fun m s8 W => ∃ k : Nat, k ≤ A.length ∧ m = A.length - k ∧ s8 = .int .i64 k ∧ Hid (Fr [] w W) ∧ Hid (unq A = unq (A.drop k)))
 case atStart => exact ⟨0, by omega, by omega, rfl, Fr.refl _ _, rfl⟩
 case round =>
  obtain ⟨k, hk, hm, rfl, HF, HE⟩ := hrel
  have HM := Lib.hid hm
  clear hm
  by_cases hlt : k < A.length
  ·have hlt' : (k : Int) < (A.length : Int) := by omega
   have hk0 : (0 : Int) ≤ (k : Int) := by omega
   obtain ⟨s, hx⟩ : ∃ x, A[k]? = some x := ⟨_, List.getElem?_eq_getElem hlt⟩
   obtain ⟨b, o, rfl, a0⟩ := (HL.out.fr HF.out).hr k s hx
   have HD := Lib.hid (unq_drop hx)
   have HCL := Lib.hid (right_f wr s (HS.out s (List.mem_of_getElem? hx)) (HLE.out.fr HF.out (by simp)))
   obtain ⟨z, hz⟩ : ∃ z, (!(Lex.quote s).isSome) = z := ⟨_, rfl⟩
   rw [hz] at HCL HD
   clear hx hz
   go_wp2_with fail
   refine HCL.out.mono ?_
   rintro e w2 ⟨rfl, hF2⟩
   have HF2 := Lib.hid (HF.out.trans0 hF2)
   clear hF2 HCL
   cases z
   ·have HEE : Hid (unq A = unq (A.drop (k + 1))) := by show _ = _; rw [HE.out, HD.out, Bool.false_or]
    go_wp2_with fail
    go_roundg (A.length - (k + 1))
    case measure => have := HM.out; omega
    case rel => exact ⟨k + 1, by omega, rfl, by go_num, HF2.out, HEE.out⟩
   ·have HEE : Hid (unq A = true) := by show _ = _; rw [HE.out, HD.out, Bool.true_or]
    go_wp2_with fail
    go_ret
    exact ⟨k, rfl, by rw [HEE.out]; simp, HF2.out⟩
  ·have HEE : Hid (unq A = false) := by show _ = _; rw [HE.out, List.drop_eq_nil_of_le (by omega)]; rfl
   have hlt' : ¬ (k : Int) < (A.length : Int) := by omega
   go_wp2_with fail
   go_ret
   exact ⟨-1, rfl, by rw [HEE.out]; rfl, HF.out⟩
set_option maxHeartbeats 4000000 in
theorem contains_f (w : World) (q : Option Addr) (c : Nat) (A : List ByteArray) (h : SA w q c A) (hs : ∀ s ∈ A, s.size ≤ 100000000) (hL : Least w) :
  Calls Tryd.prog 93 #[.slice q A.length c, .func (.func 94) #[] #[]] w fun e w' => e = .returned (.bool (unq A)) ∧ Fr [] w w' := by
 have HC := Lib.hid (index_f w q c A h hs hL)
 clear h hs hL
 go_enter Tryd.func93, Tryd.ntmps93
 go_wp2_with fail
 refine HC.out.mono ?_
 rintro e W ⟨n, rfl, hn, hF⟩
 have HF := Lib.hid hF
 have HN := Lib.hid hn
 clear hF hn
 by_cases h0 : n ≥ 0
 ·go_wp2_with fail
  go_ret
  exact ⟨by rw [HN.out]; simp [h0], HF.out⟩
 ·go_wp2_with fail
  go_ret
  exact ⟨by rw [HN.out]; simp [h0], HF.out⟩
end Go.Proofs.YtgklmpooonnmiaaDoor

namespace Go.Proofs.YtgklmpooonnmiaaDoor
open Go.RowKit
def Ru.right (u : Ru) : Bool := decide (u.scopes.length ≤ 16) && decide (u.when_.length ≤ 1) && !unq u.scopes && Ex.rights u.when_ 1
def Ru.rights (L : List Ru) : Bool := decide (L.length ≤ 16) && L.all Ru.right
def Ru.short (u : Ru) : Prop := (∀ s ∈ u.scopes, s.size ≤ 100000000) ∧ Ex.shorts u.when_
theorem Ru.all_drop {L : List Ru} {k : Nat} {u : Ru} (h : L[k]? = some u) : (L.drop k).all Ru.right = (u.right && (L.drop (k + 1)).all Ru.right) := by
 obtain ⟨h1, rfl⟩ := List.getElem?_eq_some_iff.1 h
 rw [List.drop_eq_getElem_cons h1, List.all_cons]
set_option maxHeartbeats 4000000 in
set_option maxRecDepth 100000 in
theorem pol_Right (w : World) (q : Option Addr) (c : Nat) (f : Nat → List Value) (L : List Ru) (h : RsA w q c f L) (hn : ∀ u ∈ L, u.short) (hLe : Least w) :
  Calls Tryd.prog 74 #[.slice q L.length c] w fun e w' => e = .returned (.bool (Ru.rights L)) ∧ Fr [] w w' := by
 have HL := Lib.hid h
 have HN := Lib.hid hn
 have HLE := Lib.hid hLe
 have hb : L.length ≤ 9223372036854775807 := by have h1 := h.hc; have h2 := h.hm; unfold maxLen at h2; omega
 clear h hn hLe
 by_cases h16 : 16 < L.length
 ·have h16' : (L.length : Int) > 16 := by omega
  have HG : Hid (Ru.rights L = false) := by show _ = _; unfold Ru.rights; rw [decide_eq_false (by omega)]; rfl
  clear h16
  go_enter Tryd.func74, Tryd.ntmps74
  go_wp2_with fail
  go_ret
  rw [HG.out]
  exact ⟨rfl, Fr.refl _ _⟩
 have h16' : ¬ (L.length : Int) > 16 := by omega
 have HG : Hid (Ru.rights L = L.all Ru.right) := by show _ = _; unfold Ru.rights; rw [decide_eq_true (by omega)]; rfl
 clear h16
 go_enter Tryd.func74, Tryd.ntmps74
 go_wp2_with fail
 go_loopg [4, 11] L.length (fun m s4 s11 W => ∃ (k : Nat), k ≤ L.length ∧ m = L.length - k ∧ s11 = .int .i64 k ∧ Hid (Fr [] w W) ∧ Hid (Ru.rights L = (L.drop k).all Ru.right))
 case atStart => exact ⟨0, by omega, by omega, rfl, Fr.refl _ _, HG.out⟩
 case round =>
  clear HG
  obtain ⟨k, hk, hm, rfl, HF, HE⟩ := hrel
  have HM := Lib.hid hm
  clear hm
  by_cases hlt : k < L.length
  ·have hlt' : (k : Int) < (L.length : Int) := by omega
   have hk0 : (0 : Int) ≤ (k : Int) := by omega
   obtain ⟨u, hx⟩ : ∃ x, L[k]? = some x := ⟨_, List.getElem?_eq_getElem hlt⟩
   obtain ⟨ad, rfl, h5⟩ := (HL.out.fr HF.out).hr k u hx
   obtain ⟨q1, c1, q2, c2, g, hA⟩ := (HL.out.fr HF.out).hx k u hx
   obtain ⟨v0, v1, v2, v3, hf0, a0, a1, a2, a3⟩ := h5
   have hf2 := hA.e
   rw [hf0] at hf2
   simp only [List.cons.injEq, and_true] at hf2
   obtain ⟨rfl, rfl, rfl, rfl⟩ := hf2
   have HS := Lib.hid hA.s
   have HX := Lib.hid hA.l
   have HSH := Lib.hid (HN.out u (List.mem_of_getElem? hx))
   have HD := Lib.hid (Ru.all_drop hx)
   obtain ⟨ud, us, uw, up⟩ := u
   have hs1 : us.length ≤ 9223372036854775807 := by have h1 := HS.out.hc; have h2 := HS.out.hm; unfold maxLen at h2; simp only [] at h1; omega
   have hs2 : uw.length ≤ 9223372036854775807 := by have h1 := HX.out.hc; have h2 := HX.out.hm; unfold maxLen at h2; simp only [] at h1; omega
   have hbl := World.block_lt_of_cell? wr _ a0
   clear hf0 hx hA
   dsimp only at a0 a1 a2 a3 HS HX HD HSH
   by_cases hs4 : 16 < us.length
   ·have hs4' : (us.length : Int) > 16 := by omega
    have HEE : Hid (Ru.rights L = false) := by show _ = _; rw [HE.out, HD.out]; unfold Ru.right; rw [decide_eq_false (by show ¬ us.length ≤ 16; omega)]; rfl
    go_wp2_with fail
    go_ret
    rw [HEE.out]
    exact ⟨rfl, HF.out.alloc _⟩
   ·have hs4' : ¬ (us.length : Int) > 16 := by omega
    by_cases hs5 : 1 < uw.length
    ·have hs5' : (uw.length : Int) > 1 := by omega
     have HEE : Hid (Ru.rights L = false) := by show _ = _; rw [HE.out, HD.out]; unfold Ru.right; rw [decide_eq_false (p := uw.length ≤ 1) (by omega)]; simp
     go_wp2_with fail
     go_ret
     rw [HEE.out]
     exact ⟨rfl, HF.out.alloc _⟩
    ·have hs5' : ¬ (uw.length : Int) > 1 := by omega
     have HU : Hid (Ru.rights L = ((!unq us && Ex.rights uw 1) && (L.drop (k + 1)).all Ru.right)) := by
      show _ = _; rw [HE.out, HD.out]; unfold Ru.right; rw [decide_eq_true (p := us.length ≤ 16) (by omega), decide_eq_true (p := uw.length ≤ 1) (by omega)]; simp
     go_upto_region 6 with fail
     refine wp_fresh (fun V => V.heap[wr.heap.size]? = some (.cells #[.bool ud, .slice q1 us.length c1, .slice q2 uw.length c2, .int .i64 up] 78 (0, 0)) ∧ Fr [] wr V) ⟨heap_alloc_last _ _, (Fr.refl _ _).alloc _⟩ ?_
     rintro V ⟨hbx, hFV⟩
     have HBX := Lib.hid hbx
     have HFV := Lib.hid hFV
     have zf : ∀ i, V.frozen? ⟨(wr.heap.size), i, none⟩ = false := fun i => Lib.frozen_of_heap hbx i
     have z1 : V.cell? ⟨(wr.heap.size), 1, none⟩ = some (.slice q1 us.length c1) := by rw [Lib.cell_of_heap hbx]; rfl
     have z2 : V.cell? ⟨(wr.heap.size), 2, none⟩ = some (.slice q2 uw.length c2) := by rw [Lib.cell_of_heap hbx]; rfl
     clear hbx hFV a0 a1 a2 a3 hbl
     have HC := Lib.hid (contains_f V q1 c1 us (HS.out.fr HFV.out) HSH.out.1 (HLE.out.fr (HF.out.trans0 HFV.out) (by simp)))
     obtain ⟨y, hy⟩ : ∃ y, unq us = y := ⟨_, rfl⟩
     rw [hy] at HC HU
     clear hy HE HD
     go_wp2_with fail
     refine HC.out.mono ?_
     rintro e V2 ⟨rfl, hF2⟩
     have HF2 := Lib.hid (HF.out.trans0 (HFV.out.trans0 hF2))
     have HX2 := Lib.hid (HX.out.fr (HFV.out.trans0 hF2))
     have hbx := hF2.row HBX.out (by simp)
     have HBX2 := Lib.hid hbx
     have yf : ∀ i, V2.frozen? ⟨(wr.heap.size), i, none⟩ = false := fun i => Lib.frozen_of_heap hbx i
     have y2 : V2.cell? ⟨(wr.heap.size), 2, none⟩ = some (.slice q2 uw.length c2) := by rw [Lib.cell_of_heap hbx]; rfl
     clear hF2 HC z1 z2 zf HBX hbx
     cases y with
     | true =>
      have HEE : Hid (Ru.rights L = false) := by show _ = _; rw [HU.out]; rfl
      go_wp2_with fail
      go_ret
      rw [HEE.out]
      exact ⟨rfl, HF2.out⟩
     | false =>
      have HU2 : Hid (Ru.rights L = (Ex.rights uw 1 && (L.drop (k + 1)).all Ru.right)) := by show _ = _; rw [HU.out]; rfl
      clear HU
      go_wp2_with fail
      obtain ⟨wo, rfl⟩ : ∃ wo : World, wo = wr := ⟨_, rfl⟩
      go_loopg [5, 33] uw.length (fun m s5 s33 W => ∃ (j : Nat), j ≤ uw.length ∧ m = uw.length - j ∧ s33 = .int .i64 j ∧ Hid (Fr [] V2 W) ∧ Hid (Ex.rights uw 1 = Ex.rights (uw.drop j) 1))
      case atStart => exact ⟨0, by omega, by omega, rfl, Fr.refl _ _, rfl⟩
      case round =>
       obtain ⟨j, hj, hm, rfl, HFJ, HEJ⟩ := hrel
       have HMJ := Lib.hid hm
       clear hm
       have hbx := HFJ.out.row HBX2.out (by simp)
       have xf : ∀ i, wr.frozen? ⟨(wo.heap.size), i, none⟩ = false := fun i => Lib.frozen_of_heap hbx i
       have x2 : wr.cell? ⟨(wo.heap.size), 2, none⟩ = some (.slice q2 uw.length c2) := by rw [Lib.cell_of_heap hbx]; rfl
       clear hbx y2 yf
       by_cases hjl : j < uw.length
       ·have hjl' : (j : Int) < (uw.length : Int) := by omega
        have hj0 : (0 : Int) ≤ (j : Int) := by omega
        obtain ⟨x, hx⟩ : ∃ s, uw[j]? = some s := ⟨_, List.getElem?_eq_getElem hjl⟩
        obtain ⟨ae, rfl, h5⟩ := (HX2.out.fr HFJ.out).hr j x hx
        have HSD := Lib.hid (Ex.rights_drop (deep := 1) hx)
        have HCL := Lib.hid (pol_right (HX2.out.hx j x hx) wr _ 1 HFJ.out h5 (Ex.shorts_at HSH.out.2 hx) (HLE.out.fr (HF2.out.trans0 HFJ.out) (by simp)))
        obtain ⟨z, hz⟩ : ∃ z, Ex.right x 1 = z := ⟨_, rfl⟩
        rw [hz] at HCL HSD
        clear hx hz h5
        go_wp2_with fail
        refine HCL.out.mono ?_
        rintro e w2 ⟨rfl, hF2⟩
        have HF3 := Lib.hid (HFJ.out.trans0 hF2)
        clear hF2 HCL
        cases z
        ·have HEF : Hid (Ru.rights L = false) := by show _ = _; rw [HU2.out, HEJ.out, HSD.out]; rfl
         go_wp2_with fail
         go_ret
         rw [HEF.out]
         exact ⟨rfl, HF2.out.trans0 HF3.out⟩
        ·have HEF : Hid (Ex.rights uw 1 = Ex.rights (uw.drop (j + 1)) 1) := by show _ = _; rw [HEJ.out, HSD.out, Bool.true_and]
         go_wp2_with fail
         go_roundg (uw.length - (j + 1))
         case measure => have := HMJ.out; omega
         case rel => exact ⟨j + 1, by omega, rfl, by go_num, HF3.out, HEF.out⟩
       ·have hjl' : ¬ (j : Int) < (uw.length : Int) := by omega
        have HEF : Hid (Ru.rights L = (L.drop (k + 1)).all Ru.right) := by show _ = _; rw [HU2.out, HEJ.out, List.drop_eq_nil_of_le (by omega), Ex.rights, Bool.true_and]
        go_wp2_with fail
        go_roundg (L.length - (k + 1))
        case measure => have := HM.out; omega
        case rel => exact ⟨k + 1, by omega, rfl, by go_num, HF2.out.trans0 HFJ.out, HEF.out⟩
  ·have hlt' : ¬ (k : Int) < (L.length : Int) := by omega
   have HEE : Hid (Ru.rights L = true) := by show _ = _; rw [HE.out, List.drop_eq_nil_of_le (by omega)]; rfl
   go_wp2_with fail
   go_ret
   rw [HEE.out]
   exact ⟨rfl, HF.out⟩
end Go.Proofs.YtgklmpooonnmiaaDoor
