/-
  Lemmas and contracts that the proofs over this seat use (PolPrintL, LexTokP); no statement of the seat is claimed in this text, and nothing is assumed in it.
-/
import Derived.Test.YtgklmpooonnmiaaGreatDoorH17
import Derived.Test.YtgklmpooonnmiaaGreatDoorH6
set_option linter.unusedVariables false
set_option linter.unusedSimpArgs false
namespace Go.Proofs.YtgklmpooonnmiaaGreatDoor
open Go.RowKit
structure PrS (w1 : World) (D : List Nat) (bx : Nat) (cs : Array Value) (V : World) : Prop where
 nb : bx ≠ w1.heap.size
 bl : Bld w1.heap.size w1.heap.size D V
 bw : Below w1.heap.size w1 V
 bx : V.heap[bx]? = some (.cells cs 40 (0, 0))
theorem PrS.step {w1 : World} {D D' : List Nat} {bx : Nat} {cs : Array Value} {V V' : World} (h : PrS w1 D bx cs V) (hb : Bld w1.heap.size w1.heap.size D' V') (hw : Below w1.heap.size V V') (hf : BFr w1.heap.size V V') : PrS w1 D' bx cs V' :=
 ⟨h.nb, hb, h.bw.trans hw, hf.row h.bx h.nb (by decide)⟩
theorem PrS.fr {w1 : World} {D : List Nat} {bx : Nat} {cs : Array Value} {V V' : World} (h : PrS w1 D bx cs V) (hF : Fr [] V V') : PrS w1 D bx cs V' :=
 h.step (h.bl.fr hF) (hF.below.mono h.bw.size) (BFr.of_fr hF)
theorem bld_at {B b : Nat} {D : List Nat} {w : World} (h : Bld B b D w) : b < w.heap.size := by
 rcases h with ⟨_, v, h, _⟩ | ⟨_, v, h, _⟩
 ·exact row_lt h
 ·exact row_lt h
theorem PrS.start {w1 : World} {D : List Nat} {cs : Array Value} {V : World} (hb : Bld w1.heap.size w1.heap.size D V) (hw : Below w1.heap.size w1 V) : PrS w1 D V.heap.size cs (V.alloc (.cells cs 40)) := by
 have hF : Fr [] V (V.alloc (.cells cs 40)) := (Fr.refl _ _).alloc _
 have := bld_at hb
 exact ⟨by omega, hb.fr hF, hw.trans (hF.below.mono hw.size), heap_alloc_last _ _⟩
theorem lex_quote2 (w : World) (s : ByteArray) (hs : s.size ≤ 100000000) (hL : Least w) :
  Calls Tryz.prog 29 #[.string s] w fun e w' => e = .returned (.tuple #[.string (qt s), .bool (Lex.quote s).isSome]) ∧ Fr [] w w' := lex_quote w s hs hL
set_option maxHeartbeats 8000000 in
set_option maxRecDepth 100000 in
theorem pol_Print_yes (w : World) (q : Option Addr) (c : Nat) (f : Nat → List Value) (L : List Ru) (h : RsA w q c f L) (hn : ∀ u ∈ L, u.short) (hLe : Least w) (hr : Ru.rights L = true) (hlen : (Pol.text L).length < 1000000000) :
  Calls Tryz.prog 12 #[.slice q L.length c] w fun e w' => e = .returned (.tuple #[.string (ba (Pol.text L)), .nilIface]) ∧ Fr [] w w' := by
 have HC := Lib.hid (pol_Right w q c f L h hn hLe)
 rw [hr] at HC
 have hra : ∀ u ∈ L, Ru.right u = true := by
  unfold Ru.rights at hr
  rw [Bool.and_eq_true] at hr
  exact List.all_eq_true.1 hr.2
 have HRT := Lib.hid hra
 have HN := Lib.hid hn
 have HL0 := Lib.hid h
 have HLE0 := Lib.hid hLe
 have HLEN := Lib.hid hlen
 have hb : L.length ≤ 9223372036854775807 := by have h1 := h.hc; have h2 := h.hm; unfold maxLen at h2; omega
 clear h hn hLe hr hra hlen
 go_enter Tryz.func12, Tryz.ntmps12
 go_wp2_with fail
 refine HC.out.mono ?_
 rintro e w1 ⟨rfl, hF⟩
 have HL := Lib.hid (HL0.out.fr hF)
 have HLE := Lib.hid (HLE0.out.fr hF (by simp))
 have HF0 := Lib.hid hF
 clear HL0 HLE0 hF HC
 go_wp2_with fail
 go_loopg [19] L.length (fun m s19 W => ∃ (k : Nat), k ≤ L.length ∧ m = L.length - k ∧ s19 = .int .i64 k ∧ Hid (Below w1.heap.size w1 W) ∧ Hid (Bld w1.heap.size w1.heap.size (Pol.text (L.take k)) W))
 case atStart => exact ⟨0, by omega, by omega, rfl, (Below.refl _ _).alloc (Nat.le_refl _) _, fresh_bld w1⟩
 case round =>
  obtain ⟨k, hk, hm, rfl, HW, HB⟩ := hrel
  have HM := Lib.hid hm
  clear hm
  by_cases hlt : k < L.length
  ·have hlt' : (k : Int) < (L.length : Int) := by omega
   have hk0 : (0 : Int) ≤ (k : Int) := by omega
   have HTL := Lib.hid (grows_take Pol.text (fun l x => ⟨_, Pol.text_snoc l x⟩) L (k + 1))
   obtain ⟨u, hx⟩ : ∃ x, L[k]? = some x := ⟨_, List.getElem?_eq_getElem hlt⟩
   obtain ⟨wo, rfl⟩ : ∃ wo : World, wo = wr := ⟨_, rfl⟩
   obtain ⟨ad, rfl, h5⟩ := (HL.out.fr (Fr.of_below HW.out)).hr k u hx
   obtain ⟨q1, c1, q2, c2, g, hA⟩ := HL.out.hx k u hx
   obtain ⟨v0, v1, v2, v3, hf0, a0, a1, a2, a3⟩ := h5
   have hf2 := hA.e
   rw [hf0] at hf2
   simp only [List.cons.injEq, and_true] at hf2
   obtain ⟨rfl, rfl, rfl, rfl⟩ := hf2
   have HS := Lib.hid hA.s
   have HX := Lib.hid hA.l
   have HSH := Lib.hid (HN.out u (List.mem_of_getElem? hx))
   have HRI := Lib.hid (HRT.out u (List.mem_of_getElem? hx))
   have HD := Lib.hid (Pol.text_take hx)
   obtain ⟨ud, us, uw, up⟩ := u
   have hs1 : us.length ≤ 9223372036854775807 := by have h1 := HS.out.hc; have h2 := HS.out.hm; unfold maxLen at h2; simp only [] at h1; omega
   have hs2 : uw.length ≤ 9223372036854775807 := by have h1 := HX.out.hc; have h2 := HX.out.hm; unfold maxLen at h2; simp only [] at h1; omega
   have hbl := World.block_lt_of_cell? wo _ a0
   clear hf0 hx hA
   dsimp only at a0 a1 a2 a3 HS HX HD HSH HRI
   have HTOT : Hid ((Pol.text (L.take k)).length + (lfOf k).length + (Ru.hd ⟨ud, us, uw, up⟩).size + (Ru.scs us).length + (Ru.whs uw).length + 1 < 1000000000) := by
    have h1 := HTL.out
    have h2 := HLEN.out
    rw [HD.out] at h1
    unfold Ru.text at h1
    simp only [List.length_append, List.length_cons, List.length_nil, nats_length] at h1
    show _ < _
    omega
   have HD2 : Hid (Pol.text (L.take (k + 1)) = Pol.text (L.take k) ++ (lfOf k ++ (nats (Ru.hd ⟨ud, us, uw, up⟩) ++ (Ru.scs us ++ (Ru.whs uw ++ [59]))))) := HD.out
   obtain ⟨hdv, hhd⟩ : ∃ X, Hid (Ru.hd ⟨ud, us, uw, up⟩ = X) := ⟨_, rfl⟩
   rw [hhd.out] at HTOT HD2
   clear HD HTL
   go_upto_region 7 with fail
   refine wp_fresh (fun V => PrS w1 (Pol.text (L.take k)) wo.heap.size #[.bool ud, .slice q1 us.length c1, .slice q2 uw.length c2, .int .i64 up] V) (PrS.start HB.out HW.out) ?_
   rintro V hV
   have H := Lib.hid hV
   clear hV a0 a1 a2 a3 hbl
   have hbx := H.out.bx
   have zf : ∀ i, V.frozen? ⟨(wo.heap.size), i, none⟩ = false := fun i => Lib.frozen_of_heap hbx i
   have z0 : V.cell? ⟨(wo.heap.size), 0, none⟩ = some (.bool ud) := by rw [Lib.cell_of_heap hbx]; rfl
   have z1 : V.cell? ⟨(wo.heap.size), 1, none⟩ = some (.slice q1 us.length c1) := by rw [Lib.cell_of_heap hbx]; rfl
   have z2 : V.cell? ⟨(wo.heap.size), 2, none⟩ = some (.slice q2 uw.length c2) := by rw [Lib.cell_of_heap hbx]; rfl
   have z3 : V.cell? ⟨(wo.heap.size), 3, none⟩ = some (.int .i64 up) := by rw [Lib.cell_of_heap hbx]; rfl
   clear hbx
   refine (Classical.em (k = 0)).elim (fun hk9 => ?k0) (fun hk9 => ?k1)
   case k0 =>
    have hk8 : ¬ (k : Int) > 0 := by omega
    have HLF : Hid (lfOf k = []) := by show _ = _; rw [lfOf, if_pos hk9]
    have HDD : Hid (Pol.text (L.take k) = Pol.text (L.take k) ++ lfOf k) := by show _ = _; rw [HLF.out, List.append_nil]
    clear hk9
    cases ud with
    | true =>
     have hh9 : (⟨#[100, 101, 110, 121]⟩ : ByteArray) = hdv := hhd.out
     subst hh9
     go_wp2_with fail
     have HSZ := Lib.hid H.out.bw.size
     obtain ⟨D0, hD0⟩ : ∃ D0, D0 = Pol.text (L.take k) ++ lfOf k := ⟨_, rfl⟩
     have HX0 := H.out
     rw [HDD.out, ← hD0] at HX0
     have H := Lib.hid HX0
     have HDL : Hid (D0.length = (Pol.text (L.take k)).length + (lfOf k).length) := by show _ = _; rw [hD0, List.length_append]
     have HD3 : Hid (Pol.text (L.take (k + 1)) = D0 ++ (nats ⟨#[100, 101, 110, 121]⟩ ++ (Ru.scs us ++ (Ru.whs uw ++ [59])))) := by show _ = _; rw [HD2.out, hD0, List.append_assoc]
     have h1 : D0.length + (⟨#[100, 101, 110, 121]⟩ : ByteArray).size < 1000000000 := by have := HTOT.out; have := HDL.out; omega
     clear HX0 hD0 HDD HD2
     have HC := bld_strF w1.heap.size w1.heap.size D0 ⟨#[100, 101, 110, 121]⟩ _ H.out.bl h1 HSZ.out
     clear h1
     refine HC.mono ?_
     rintro e V2 ⟨rfl, hbl, hbw, hbf⟩
     have H := Lib.hid (H.out.step hbl hbw hbf)
     clear HC hbl hbw hbf z0 z1 z2 z3 zf
     obtain ⟨D1, hD1⟩ : ∃ D1, D0 ++ nats ⟨#[100, 101, 110, 121]⟩ = D1 := ⟨_, rfl⟩
     have HX0 := H.out
     rw [hD1] at HX0
     have H := Lib.hid HX0
     have HDL1 : Hid (D1.length + (Ru.scs us).length + (Ru.whs uw).length + 1 < 1000000000) := by have := HTOT.out; have := HDL.out; show _ < _; rw [← hD1, List.length_append, nats_length]; omega
     have HD4 : Hid (Pol.text (L.take (k + 1)) = D1 ++ (Ru.scs us ++ (Ru.whs uw ++ [59]))) := by show _ = _; rw [HD3.out, ← hD1, List.append_assoc]
     clear HX0 hD1 HD3 HDL HTOT
     have hbx := H.out.bx
     have zf : ∀ i, V2.frozen? ⟨(wo.heap.size), i, none⟩ = false := fun i => Lib.frozen_of_heap hbx i
     have z1 : V2.cell? ⟨(wo.heap.size), 1, none⟩ = some (.slice q1 us.length c1) := by rw [Lib.cell_of_heap hbx]; rfl
     clear hbx
     go_wp2_with fail
     go_loopg [7, 34] us.length (fun m s7 s34 W => ∃ (j : Nat) (S : ByteArray), j ≤ us.length ∧ m = us.length - j ∧ s34 = .int .i64 j ∧ s7 = .string S ∧ Hid (S = scSign j) ∧ Hid (PrS w1 (D1 ++ Ru.scs (us.take j)) wo.heap.size #[.bool true, .slice q1 us.length c1, .slice q2 uw.length c2, .int .i64 up] W))
     case atStart => exact ⟨0, scSign 0, by omega, by omega, rfl, rfl, rfl, by
      show PrS _ _ _ _ _
      rw [List.take_zero, Ru.scs, List.append_nil]
      exact H.out⟩
     case round =>
      clear H z1 zf
      obtain ⟨j, S, hj, hm, rfl, rfl, HSG, H⟩ := hrel
      have HMJ := Lib.hid hm
      clear hm
      by_cases hjl : j < us.length
      ·have hjl' : (j : Int) < (us.length : Int) := by omega
       have hj0 : (0 : Int) ≤ (j : Int) := by omega
       obtain ⟨s, hs⟩ : ∃ s, us[j]? = some s := ⟨_, List.getElem?_eq_getElem hjl⟩
       obtain ⟨sb, so, rfl, sc⟩ := (HS.out.fr (Fr.of_below H.out.bw)).hr j s hs
       have HT := Lib.hid (Ru.scs_take hs)
       have HTL := Lib.hid (grows_take Ru.scs (fun l x => ⟨_, Ru.scs_snoc l x⟩) us (j + 1))
       have HQ := Lib.hid (lex_quote2 wr s (HSH.out.1 s (List.mem_of_getElem? hs)) (HLE.out.fr (Fr.of_below H.out.bw) (by simp)))
       have hS7 : S.size ≤ 7 := by rw [HSG.out]; exact scSign_size j
       have hNL : D1.length + (Ru.scs (us.take j)).length + (S.size + (qt s).size) < 1000000000 := by
        have h1 := HTL.out
        have h2 := HDL1.out
        rw [HT.out, List.length_append, nats_length, ByteArray.size_append, ← HSG.out] at h1
        omega
       have hq9 : (qt s).size ≤ 1000000000 := by omega
       have HNL := Lib.hid hNL
       clear hs hNL
       go_wp2_with fail
       refine HQ.out.mono ?_
       rintro e V3 ⟨rfl, hF⟩
       have H := Lib.hid (H.out.fr hF)
       clear hF HQ sc
       go_wp2_with fail
       have HSZ := Lib.hid H.out.bw.size
       have h1 : (D1 ++ Ru.scs (us.take j)).length + (S ++ qt s).size < 1000000000 := by rw [List.length_append, ByteArray.size_append]; have := HNL.out; omega
       have HC := bld_strF w1.heap.size w1.heap.size _ (S ++ qt s) _ H.out.bl h1 HSZ.out
       clear h1
       refine HC.mono ?_
       rintro e V4 ⟨rfl, hbl, hbw, hbf⟩
       have H := Lib.hid (H.out.step hbl hbw hbf)
       clear HC hbl hbw hbf
       go_wp2_with fail
       go_roundg (us.length - (j + 1))
       case measure => have := HMJ.out; omega
       case rel => exact ⟨j + 1, ⟨#[44, 32]⟩, by omega, rfl, by go_num, rfl, by show _ = scSign (j + 1); rw [scSign, if_neg (by omega)], by
        have h := H.out
        show PrS _ _ _ _ _
        rw [HT.out, ← HSG.out]
        simp only [List.append_assoc] at h ⊢
        exact h⟩
      ·have hjl' : ¬ (j : Int) < (us.length : Int) := by omega
       have hje : j = us.length := by omega
       have HX0 := H.out
       rw [hje, List.take_length] at HX0
       have H := Lib.hid HX0
       have hbx := H.out.bx
       have zf : ∀ i, wr.frozen? ⟨(wo.heap.size), i, none⟩ = false := fun i => Lib.frozen_of_heap hbx i
       have z2 : wr.cell? ⟨(wo.heap.size), 2, none⟩ = some (.slice q2 uw.length c2) := by rw [Lib.cell_of_heap hbx]; rfl
       obtain ⟨D2, hD2⟩ : ∃ D2, D1 ++ Ru.scs us = D2 := ⟨_, rfl⟩
       rw [hD2] at HX0
       have H := Lib.hid HX0
       have HDL2 : Hid (D2.length + (Ru.whs uw).length + 1 < 1000000000) := by have := HDL1.out; show _ < _; rw [← hD2, List.length_append]; omega
       have HD5 : Hid (Pol.text (L.take (k + 1)) = D2 ++ (Ru.whs uw ++ [59])) := by show _ = _; rw [HD4.out, ← hD2, List.append_assoc]
       clear hbx HX0 hje hD2 HD4 HDL1
       obtain ⟨wp, rfl⟩ : ∃ wp : World, wp = wr := ⟨_, rfl⟩
       go_wp2_with fail
       go_loopg [51] uw.length (fun m s51 W => ∃ (i : Nat), i ≤ uw.length ∧ m = uw.length - i ∧ s51 = .int .i64 i ∧ Hid (PrS w1 (D2 ++ Ru.whs (uw.take i)) wo.heap.size #[.bool true, .slice q1 us.length c1, .slice q2 uw.length c2, .int .i64 up] W))
       case atStart => exact ⟨0, by omega, by omega, rfl, by
        show PrS _ _ _ _ _
        rw [List.take_zero, Ru.whs, List.append_nil]
        exact H.out⟩
       case round =>
        clear H z2 zf
        obtain ⟨i, hi, hm, rfl, H⟩ := hrel
        have HMI := Lib.hid hm
        clear hm
        by_cases hil : i < uw.length
        ·have hil' : (i : Int) < (uw.length : Int) := by omega
         have hi0 : (0 : Int) ≤ (i : Int) := by omega
         obtain ⟨x, hx⟩ : ∃ s, uw[i]? = some s := ⟨_, List.getElem?_eq_getElem hil⟩
         obtain ⟨ae, rfl, h5⟩ := HX.out.hr i x hx
         have HT := Lib.hid (Ru.whs_take hx)
         have HTL := Lib.hid (grows_take Ru.whs (fun l x => ⟨_, Ru.whs_snoc l x⟩) uw (i + 1))
         have hri : Ex.right x 1 = true := by
          have h1 := HRI.out
          unfold Ru.right at h1
          rw [Bool.and_eq_true] at h1
          exact Ex.rights_at h1.2 hx
         have HPW := Lib.hid (pol_write (HX.out.hx i x hx) 1 w1.heap.size (ae.add (i * 5)) hri (Ex.shorts_at HSH.out.2 hx) h5 HLE.out)
         have hNL : D2.length + (Ru.whs (uw.take i)).length + (6 + (x.text 1).length) < 1000000000 := by
          have h1 := HTL.out
          have h2 := HDL2.out
          rw [HT.out, List.length_append, List.length_append, nats_length] at h1
          have h3 : (⟨#[32, 119, 104, 101, 110, 32]⟩ : ByteArray).size = 6 := rfl
          omega
         have HNL := Lib.hid hNL
         clear hx hNL hri h5
         go_wp2_with fail
         have HSZ := Lib.hid H.out.bw.size
         have h1 : (D2 ++ Ru.whs (uw.take i)).length + (⟨#[32, 119, 104, 101, 110, 32]⟩ : ByteArray).size < 1000000000 := by rw [List.length_append]; show _ + 6 < _; have := HNL.out; omega
         have HC := bld_strF w1.heap.size w1.heap.size _ ⟨#[32, 119, 104, 101, 110, 32]⟩ _ H.out.bl h1 HSZ.out
         clear h1
         refine HC.mono ?_
         rintro e V3 ⟨rfl, hbl, hbw, hbf⟩
         have H := Lib.hid (H.out.step hbl hbw hbf)
         clear HC hbl hbw hbf
         have hbx := H.out.bx
         have zf : ∀ i, V3.frozen? ⟨(wo.heap.size), i, none⟩ = false := fun i => Lib.frozen_of_heap hbx i
         have z2 : V3.cell? ⟨(wo.heap.size), 2, none⟩ = some (.slice (some ae) uw.length c2) := by rw [Lib.cell_of_heap hbx]; rfl
         clear hbx
         go_wp2_with fail
         have h1 : (D2 ++ Ru.whs (uw.take i) ++ nats ⟨#[32, 119, 104, 101, 110, 32]⟩).length + (x.text 1).length < 1000000000 := by rw [List.length_append, List.length_append, nats_length]; show _ + 6 + _ < _; have := HNL.out; omega
         have HC := HPW.out _ _ 1 H.out.bw H.out.bl h1
         clear h1
         refine HC.mono ?_
         rintro e V4 ⟨rfl, hbl, hbw, hbf⟩
         have H := Lib.hid (H.out.step hbl hbw hbf)
         clear HC hbl hbw hbf z2 zf
         go_wp2_with fail
         go_roundg (uw.length - (i + 1))
         case measure => have := HMI.out; omega
         case rel => exact ⟨i + 1, by omega, rfl, by go_num, by
          have h := H.out
          show PrS _ _ _ _ _
          rw [HT.out]
          simp only [List.append_assoc] at h ⊢
          exact h⟩
        ·have hil' : ¬ (i : Int) < (uw.length : Int) := by omega
         have hie : i = uw.length := by omega
         have HX0 := H.out
         rw [hie, List.take_length] at HX0
         have H := Lib.hid HX0
         clear HX0 hie
         go_wp2_with fail
         have HSZ := Lib.hid H.out.bw.size
         have h1 : (D2 ++ Ru.whs uw).length < 1000000000 := by rw [List.length_append]; have := HDL2.out; omega
         have HC := bld_byteF w1.heap.size w1.heap.size _ 59 _ H.out.bl h1 HSZ.out
         clear h1
         refine HC.mono ?_
         rintro e V3 ⟨rfl, hbl, hbw, hbf⟩
         have H := Lib.hid (H.out.step hbl hbw hbf)
         clear HC hbl hbw hbf
         go_wp2_with fail
         go_roundg (L.length - (k + 1))
         case measure => have := HM.out; omega
         case rel => exact ⟨k + 1, by omega, rfl, by go_num, H.out.bw, by
          have h := H.out.bl
          show Bld _ _ _ _
          rw [HD5.out]
          simp only [List.append_assoc] at h ⊢
          exact h⟩
    | false =>
     have hh9 : (⟨#[112, 101, 114, 109, 105, 116]⟩ : ByteArray) = hdv := hhd.out
     subst hh9
     go_wp2_with fail
     have HSZ := Lib.hid H.out.bw.size
     obtain ⟨D0, hD0⟩ : ∃ D0, D0 = Pol.text (L.take k) ++ lfOf k := ⟨_, rfl⟩
     have HX0 := H.out
     rw [HDD.out, ← hD0] at HX0
     have H := Lib.hid HX0
     have HDL : Hid (D0.length = (Pol.text (L.take k)).length + (lfOf k).length) := by show _ = _; rw [hD0, List.length_append]
     have HD3 : Hid (Pol.text (L.take (k + 1)) = D0 ++ (nats ⟨#[112, 101, 114, 109, 105, 116]⟩ ++ (Ru.scs us ++ (Ru.whs uw ++ [59])))) := by show _ = _; rw [HD2.out, hD0, List.append_assoc]
     have h1 : D0.length + (⟨#[112, 101, 114, 109, 105, 116]⟩ : ByteArray).size < 1000000000 := by have := HTOT.out; have := HDL.out; omega
     clear HX0 hD0 HDD HD2
     have HC := bld_strF w1.heap.size w1.heap.size D0 ⟨#[112, 101, 114, 109, 105, 116]⟩ _ H.out.bl h1 HSZ.out
     clear h1
     refine HC.mono ?_
     rintro e V2 ⟨rfl, hbl, hbw, hbf⟩
     have H := Lib.hid (H.out.step hbl hbw hbf)
     clear HC hbl hbw hbf z0 z1 z2 z3 zf
     obtain ⟨D1, hD1⟩ : ∃ D1, D0 ++ nats ⟨#[112, 101, 114, 109, 105, 116]⟩ = D1 := ⟨_, rfl⟩
     have HX0 := H.out
     rw [hD1] at HX0
     have H := Lib.hid HX0
     have HDL1 : Hid (D1.length + (Ru.scs us).length + (Ru.whs uw).length + 1 < 1000000000) := by have := HTOT.out; have := HDL.out; show _ < _; rw [← hD1, List.length_append, nats_length]; omega
     have HD4 : Hid (Pol.text (L.take (k + 1)) = D1 ++ (Ru.scs us ++ (Ru.whs uw ++ [59]))) := by show _ = _; rw [HD3.out, ← hD1, List.append_assoc]
     clear HX0 hD1 HD3 HDL HTOT
     have hbx := H.out.bx
     have zf : ∀ i, V2.frozen? ⟨(wo.heap.size), i, none⟩ = false := fun i => Lib.frozen_of_heap hbx i
     have z1 : V2.cell? ⟨(wo.heap.size), 1, none⟩ = some (.slice q1 us.length c1) := by rw [Lib.cell_of_heap hbx]; rfl
     clear hbx
     go_wp2_with fail
     go_loopg [7, 34] us.length (fun m s7 s34 W => ∃ (j : Nat) (S : ByteArray), j ≤ us.length ∧ m = us.length - j ∧ s34 = .int .i64 j ∧ s7 = .string S ∧ Hid (S = scSign j) ∧ Hid (PrS w1 (D1 ++ Ru.scs (us.take j)) wo.heap.size #[.bool false, .slice q1 us.length c1, .slice q2 uw.length c2, .int .i64 up] W))
     case atStart => exact ⟨0, scSign 0, by omega, by omega, rfl, rfl, rfl, by
      show PrS _ _ _ _ _
      rw [List.take_zero, Ru.scs, List.append_nil]
      exact H.out⟩
     case round =>
      clear H z1 zf
      obtain ⟨j, S, hj, hm, rfl, rfl, HSG, H⟩ := hrel
      have HMJ := Lib.hid hm
      clear hm
      by_cases hjl : j < us.length
      ·have hjl' : (j : Int) < (us.length : Int) := by omega
       have hj0 : (0 : Int) ≤ (j : Int) := by omega
       obtain ⟨s, hs⟩ : ∃ s, us[j]? = some s := ⟨_, List.getElem?_eq_getElem hjl⟩
       obtain ⟨sb, so, rfl, sc⟩ := (HS.out.fr (Fr.of_below H.out.bw)).hr j s hs
       have HT := Lib.hid (Ru.scs_take hs)
       have HTL := Lib.hid (grows_take Ru.scs (fun l x => ⟨_, Ru.scs_snoc l x⟩) us (j + 1))
       have HQ := Lib.hid (lex_quote2 wr s (HSH.out.1 s (List.mem_of_getElem? hs)) (HLE.out.fr (Fr.of_below H.out.bw) (by simp)))
       have hS7 : S.size ≤ 7 := by rw [HSG.out]; exact scSign_size j
       have hNL : D1.length + (Ru.scs (us.take j)).length + (S.size + (qt s).size) < 1000000000 := by
        have h1 := HTL.out
        have h2 := HDL1.out
        rw [HT.out, List.length_append, nats_length, ByteArray.size_append, ← HSG.out] at h1
        omega
       have hq9 : (qt s).size ≤ 1000000000 := by omega
       have HNL := Lib.hid hNL
       clear hs hNL
       go_wp2_with fail
       refine HQ.out.mono ?_
       rintro e V3 ⟨rfl, hF⟩
       have H := Lib.hid (H.out.fr hF)
       clear hF HQ sc
       go_wp2_with fail
       have HSZ := Lib.hid H.out.bw.size
       have h1 : (D1 ++ Ru.scs (us.take j)).length + (S ++ qt s).size < 1000000000 := by rw [List.length_append, ByteArray.size_append]; have := HNL.out; omega
       have HC := bld_strF w1.heap.size w1.heap.size _ (S ++ qt s) _ H.out.bl h1 HSZ.out
       clear h1
       refine HC.mono ?_
       rintro e V4 ⟨rfl, hbl, hbw, hbf⟩
       have H := Lib.hid (H.out.step hbl hbw hbf)
       clear HC hbl hbw hbf
       go_wp2_with fail
       go_roundg (us.length - (j + 1))
       case measure => have := HMJ.out; omega
       case rel => exact ⟨j + 1, ⟨#[44, 32]⟩, by omega, rfl, by go_num, rfl, by show _ = scSign (j + 1); rw [scSign, if_neg (by omega)], by
        have h := H.out
        show PrS _ _ _ _ _
        rw [HT.out, ← HSG.out]
        simp only [List.append_assoc] at h ⊢
        exact h⟩
      ·have hjl' : ¬ (j : Int) < (us.length : Int) := by omega
       have hje : j = us.length := by omega
       have HX0 := H.out
       rw [hje, List.take_length] at HX0
       have H := Lib.hid HX0
       have hbx := H.out.bx
       have zf : ∀ i, wr.frozen? ⟨(wo.heap.size), i, none⟩ = false := fun i => Lib.frozen_of_heap hbx i
       have z2 : wr.cell? ⟨(wo.heap.size), 2, none⟩ = some (.slice q2 uw.length c2) := by rw [Lib.cell_of_heap hbx]; rfl
       obtain ⟨D2, hD2⟩ : ∃ D2, D1 ++ Ru.scs us = D2 := ⟨_, rfl⟩
       rw [hD2] at HX0
       have H := Lib.hid HX0
       have HDL2 : Hid (D2.length + (Ru.whs uw).length + 1 < 1000000000) := by have := HDL1.out; show _ < _; rw [← hD2, List.length_append]; omega
       have HD5 : Hid (Pol.text (L.take (k + 1)) = D2 ++ (Ru.whs uw ++ [59])) := by show _ = _; rw [HD4.out, ← hD2, List.append_assoc]
       clear hbx HX0 hje hD2 HD4 HDL1
       obtain ⟨wp, rfl⟩ : ∃ wp : World, wp = wr := ⟨_, rfl⟩
       go_wp2_with fail
       go_loopg [51] uw.length (fun m s51 W => ∃ (i : Nat), i ≤ uw.length ∧ m = uw.length - i ∧ s51 = .int .i64 i ∧ Hid (PrS w1 (D2 ++ Ru.whs (uw.take i)) wo.heap.size #[.bool false, .slice q1 us.length c1, .slice q2 uw.length c2, .int .i64 up] W))
       case atStart => exact ⟨0, by omega, by omega, rfl, by
        show PrS _ _ _ _ _
        rw [List.take_zero, Ru.whs, List.append_nil]
        exact H.out⟩
       case round =>
        clear H z2 zf
        obtain ⟨i, hi, hm, rfl, H⟩ := hrel
        have HMI := Lib.hid hm
        clear hm
        by_cases hil : i < uw.length
        ·have hil' : (i : Int) < (uw.length : Int) := by omega
         have hi0 : (0 : Int) ≤ (i : Int) := by omega
         obtain ⟨x, hx⟩ : ∃ s, uw[i]? = some s := ⟨_, List.getElem?_eq_getElem hil⟩
         obtain ⟨ae, rfl, h5⟩ := HX.out.hr i x hx
         have HT := Lib.hid (Ru.whs_take hx)
         have HTL := Lib.hid (grows_take Ru.whs (fun l x => ⟨_, Ru.whs_snoc l x⟩) uw (i + 1))
         have hri : Ex.right x 1 = true := by
          have h1 := HRI.out
          unfold Ru.right at h1
          rw [Bool.and_eq_true] at h1
          exact Ex.rights_at h1.2 hx
         have HPW := Lib.hid (pol_write (HX.out.hx i x hx) 1 w1.heap.size (ae.add (i * 5)) hri (Ex.shorts_at HSH.out.2 hx) h5 HLE.out)
         have hNL : D2.length + (Ru.whs (uw.take i)).length + (6 + (x.text 1).length) < 1000000000 := by
          have h1 := HTL.out
          have h2 := HDL2.out
          rw [HT.out, List.length_append, List.length_append, nats_length] at h1
          have h3 : (⟨#[32, 119, 104, 101, 110, 32]⟩ : ByteArray).size = 6 := rfl
          omega
         have HNL := Lib.hid hNL
         clear hx hNL hri h5
         go_wp2_with fail
         have HSZ := Lib.hid H.out.bw.size
         have h1 : (D2 ++ Ru.whs (uw.take i)).length + (⟨#[32, 119, 104, 101, 110, 32]⟩ : ByteArray).size < 1000000000 := by rw [List.length_append]; show _ + 6 < _; have := HNL.out; omega
         have HC := bld_strF w1.heap.size w1.heap.size _ ⟨#[32, 119, 104, 101, 110, 32]⟩ _ H.out.bl h1 HSZ.out
         clear h1
         refine HC.mono ?_
         rintro e V3 ⟨rfl, hbl, hbw, hbf⟩
         have H := Lib.hid (H.out.step hbl hbw hbf)
         clear HC hbl hbw hbf
         have hbx := H.out.bx
         have zf : ∀ i, V3.frozen? ⟨(wo.heap.size), i, none⟩ = false := fun i => Lib.frozen_of_heap hbx i
         have z2 : V3.cell? ⟨(wo.heap.size), 2, none⟩ = some (.slice (some ae) uw.length c2) := by rw [Lib.cell_of_heap hbx]; rfl
         clear hbx
         go_wp2_with fail
         have h1 : (D2 ++ Ru.whs (uw.take i) ++ nats ⟨#[32, 119, 104, 101, 110, 32]⟩).length + (x.text 1).length < 1000000000 := by rw [List.length_append, List.length_append, nats_length]; show _ + 6 + _ < _; have := HNL.out; omega
         have HC := HPW.out _ _ 1 H.out.bw H.out.bl h1
         clear h1
         refine HC.mono ?_
         rintro e V4 ⟨rfl, hbl, hbw, hbf⟩
         have H := Lib.hid (H.out.step hbl hbw hbf)
         clear HC hbl hbw hbf z2 zf
         go_wp2_with fail
         go_roundg (uw.length - (i + 1))
         case measure => have := HMI.out; omega
         case rel => exact ⟨i + 1, by omega, rfl, by go_num, by
          have h := H.out
          show PrS _ _ _ _ _
          rw [HT.out]
          simp only [List.append_assoc] at h ⊢
          exact h⟩
        ·have hil' : ¬ (i : Int) < (uw.length : Int) := by omega
         have hie : i = uw.length := by omega
         have HX0 := H.out
         rw [hie, List.take_length] at HX0
         have H := Lib.hid HX0
         clear HX0 hie
         go_wp2_with fail
         have HSZ := Lib.hid H.out.bw.size
         have h1 : (D2 ++ Ru.whs uw).length < 1000000000 := by rw [List.length_append]; have := HDL2.out; omega
         have HC := bld_byteF w1.heap.size w1.heap.size _ 59 _ H.out.bl h1 HSZ.out
         clear h1
         refine HC.mono ?_
         rintro e V3 ⟨rfl, hbl, hbw, hbf⟩
         have H := Lib.hid (H.out.step hbl hbw hbf)
         clear HC hbl hbw hbf
         go_wp2_with fail
         go_roundg (L.length - (k + 1))
         case measure => have := HM.out; omega
         case rel => exact ⟨k + 1, by omega, rfl, by go_num, H.out.bw, by
          have h := H.out.bl
          show Bld _ _ _ _
          rw [HD5.out]
          simp only [List.append_assoc] at h ⊢
          exact h⟩
   case k1 =>
    have hk8 : (k : Int) > 0 := by omega
    have HLF : Hid (lfOf k = [10]) := by show _ = _; rw [lfOf, if_neg hk9]
    clear hk9
    go_wp2_with fail
    have HSZ := Lib.hid H.out.bw.size
    have h1 : (Pol.text (L.take k)).length < 1000000000 := by have := HTOT.out; omega
    have HC := bld_byteF w1.heap.size w1.heap.size _ 10 _ H.out.bl h1 HSZ.out
    clear h1
    refine HC.mono ?_
    rintro e V1 ⟨rfl, hbl, hbw, hbf⟩
    have H := Lib.hid (H.out.step hbl hbw hbf)
    clear HC hbl hbw hbf z0 z1 z2 z3 zf
    have hbx := H.out.bx
    have zf : ∀ i, V1.frozen? ⟨(wo.heap.size), i, none⟩ = false := fun i => Lib.frozen_of_heap hbx i
    have z0 : V1.cell? ⟨(wo.heap.size), 0, none⟩ = some (.bool ud) := by rw [Lib.cell_of_heap hbx]; rfl
    have z1 : V1.cell? ⟨(wo.heap.size), 1, none⟩ = some (.slice q1 us.length c1) := by rw [Lib.cell_of_heap hbx]; rfl
    have z2 : V1.cell? ⟨(wo.heap.size), 2, none⟩ = some (.slice q2 uw.length c2) := by rw [Lib.cell_of_heap hbx]; rfl
    have z3 : V1.cell? ⟨(wo.heap.size), 3, none⟩ = some (.int .i64 up) := by rw [Lib.cell_of_heap hbx]; rfl
    clear hbx
    have HDD : Hid (Pol.text (L.take k) ++ [10] = Pol.text (L.take k) ++ lfOf k) := by show _ = _; rw [HLF.out]
    cases ud with
    | true =>
     have hh9 : (⟨#[100, 101, 110, 121]⟩ : ByteArray) = hdv := hhd.out
     subst hh9
     go_wp2_with fail
     have HSZ := Lib.hid H.out.bw.size
     obtain ⟨D0, hD0⟩ : ∃ D0, D0 = Pol.text (L.take k) ++ lfOf k := ⟨_, rfl⟩
     have HX0 := H.out
     rw [HDD.out, ← hD0] at HX0
     have H := Lib.hid HX0
     have HDL : Hid (D0.length = (Pol.text (L.take k)).length + (lfOf k).length) := by show _ = _; rw [hD0, List.length_append]
     have HD3 : Hid (Pol.text (L.take (k + 1)) = D0 ++ (nats ⟨#[100, 101, 110, 121]⟩ ++ (Ru.scs us ++ (Ru.whs uw ++ [59])))) := by show _ = _; rw [HD2.out, hD0, List.append_assoc]
     have h1 : D0.length + (⟨#[100, 101, 110, 121]⟩ : ByteArray).size < 1000000000 := by have := HTOT.out; have := HDL.out; omega
     clear HX0 hD0 HDD HD2
     have HC := bld_strF w1.heap.size w1.heap.size D0 ⟨#[100, 101, 110, 121]⟩ _ H.out.bl h1 HSZ.out
     clear h1
     refine HC.mono ?_
     rintro e V2 ⟨rfl, hbl, hbw, hbf⟩
     have H := Lib.hid (H.out.step hbl hbw hbf)
     clear HC hbl hbw hbf z0 z1 z2 z3 zf
     obtain ⟨D1, hD1⟩ : ∃ D1, D0 ++ nats ⟨#[100, 101, 110, 121]⟩ = D1 := ⟨_, rfl⟩
     have HX0 := H.out
     rw [hD1] at HX0
     have H := Lib.hid HX0
     have HDL1 : Hid (D1.length + (Ru.scs us).length + (Ru.whs uw).length + 1 < 1000000000) := by have := HTOT.out; have := HDL.out; show _ < _; rw [← hD1, List.length_append, nats_length]; omega
     have HD4 : Hid (Pol.text (L.take (k + 1)) = D1 ++ (Ru.scs us ++ (Ru.whs uw ++ [59]))) := by show _ = _; rw [HD3.out, ← hD1, List.append_assoc]
     clear HX0 hD1 HD3 HDL HTOT
     have hbx := H.out.bx
     have zf : ∀ i, V2.frozen? ⟨(wo.heap.size), i, none⟩ = false := fun i => Lib.frozen_of_heap hbx i
     have z1 : V2.cell? ⟨(wo.heap.size), 1, none⟩ = some (.slice q1 us.length c1) := by rw [Lib.cell_of_heap hbx]; rfl
     clear hbx
     go_wp2_with fail
     go_loopg [7, 34] us.length (fun m s7 s34 W => ∃ (j : Nat) (S : ByteArray), j ≤ us.length ∧ m = us.length - j ∧ s34 = .int .i64 j ∧ s7 = .string S ∧ Hid (S = scSign j) ∧ Hid (PrS w1 (D1 ++ Ru.scs (us.take j)) wo.heap.size #[.bool true, .slice q1 us.length c1, .slice q2 uw.length c2, .int .i64 up] W))
     case atStart => exact ⟨0, scSign 0, by omega, by omega, rfl, rfl, rfl, by
      show PrS _ _ _ _ _
      rw [List.take_zero, Ru.scs, List.append_nil]
      exact H.out⟩
     case round =>
      clear H z1 zf
      obtain ⟨j, S, hj, hm, rfl, rfl, HSG, H⟩ := hrel
      have HMJ := Lib.hid hm
      clear hm
      by_cases hjl : j < us.length
      ·have hjl' : (j : Int) < (us.length : Int) := by omega
       have hj0 : (0 : Int) ≤ (j : Int) := by omega
       obtain ⟨s, hs⟩ : ∃ s, us[j]? = some s := ⟨_, List.getElem?_eq_getElem hjl⟩
       obtain ⟨sb, so, rfl, sc⟩ := (HS.out.fr (Fr.of_below H.out.bw)).hr j s hs
       have HT := Lib.hid (Ru.scs_take hs)
       have HTL := Lib.hid (grows_take Ru.scs (fun l x => ⟨_, Ru.scs_snoc l x⟩) us (j + 1))
       have HQ := Lib.hid (lex_quote2 wr s (HSH.out.1 s (List.mem_of_getElem? hs)) (HLE.out.fr (Fr.of_below H.out.bw) (by simp)))
       have hS7 : S.size ≤ 7 := by rw [HSG.out]; exact scSign_size j
       have hNL : D1.length + (Ru.scs (us.take j)).length + (S.size + (qt s).size) < 1000000000 := by
        have h1 := HTL.out
        have h2 := HDL1.out
        rw [HT.out, List.length_append, nats_length, ByteArray.size_append, ← HSG.out] at h1
        omega
       have hq9 : (qt s).size ≤ 1000000000 := by omega
       have HNL := Lib.hid hNL
       clear hs hNL
       go_wp2_with fail
       refine HQ.out.mono ?_
       rintro e V3 ⟨rfl, hF⟩
       have H := Lib.hid (H.out.fr hF)
       clear hF HQ sc
       go_wp2_with fail
       have HSZ := Lib.hid H.out.bw.size
       have h1 : (D1 ++ Ru.scs (us.take j)).length + (S ++ qt s).size < 1000000000 := by rw [List.length_append, ByteArray.size_append]; have := HNL.out; omega
       have HC := bld_strF w1.heap.size w1.heap.size _ (S ++ qt s) _ H.out.bl h1 HSZ.out
       clear h1
       refine HC.mono ?_
       rintro e V4 ⟨rfl, hbl, hbw, hbf⟩
       have H := Lib.hid (H.out.step hbl hbw hbf)
       clear HC hbl hbw hbf
       go_wp2_with fail
       go_roundg (us.length - (j + 1))
       case measure => have := HMJ.out; omega
       case rel => exact ⟨j + 1, ⟨#[44, 32]⟩, by omega, rfl, by go_num, rfl, by show _ = scSign (j + 1); rw [scSign, if_neg (by omega)], by
        have h := H.out
        show PrS _ _ _ _ _
        rw [HT.out, ← HSG.out]
        simp only [List.append_assoc] at h ⊢
        exact h⟩
      ·have hjl' : ¬ (j : Int) < (us.length : Int) := by omega
       have hje : j = us.length := by omega
       have HX0 := H.out
       rw [hje, List.take_length] at HX0
       have H := Lib.hid HX0
       have hbx := H.out.bx
       have zf : ∀ i, wr.frozen? ⟨(wo.heap.size), i, none⟩ = false := fun i => Lib.frozen_of_heap hbx i
       have z2 : wr.cell? ⟨(wo.heap.size), 2, none⟩ = some (.slice q2 uw.length c2) := by rw [Lib.cell_of_heap hbx]; rfl
       obtain ⟨D2, hD2⟩ : ∃ D2, D1 ++ Ru.scs us = D2 := ⟨_, rfl⟩
       rw [hD2] at HX0
       have H := Lib.hid HX0
       have HDL2 : Hid (D2.length + (Ru.whs uw).length + 1 < 1000000000) := by have := HDL1.out; show _ < _; rw [← hD2, List.length_append]; omega
       have HD5 : Hid (Pol.text (L.take (k + 1)) = D2 ++ (Ru.whs uw ++ [59])) := by show _ = _; rw [HD4.out, ← hD2, List.append_assoc]
       clear hbx HX0 hje hD2 HD4 HDL1
       obtain ⟨wp, rfl⟩ : ∃ wp : World, wp = wr := ⟨_, rfl⟩
       go_wp2_with fail
       go_loopg [51] uw.length (fun m s51 W => ∃ (i : Nat), i ≤ uw.length ∧ m = uw.length - i ∧ s51 = .int .i64 i ∧ Hid (PrS w1 (D2 ++ Ru.whs (uw.take i)) wo.heap.size #[.bool true, .slice q1 us.length c1, .slice q2 uw.length c2, .int .i64 up] W))
       case atStart => exact ⟨0, by omega, by omega, rfl, by
        show PrS _ _ _ _ _
        rw [List.take_zero, Ru.whs, List.append_nil]
        exact H.out⟩
       case round =>
        clear H z2 zf
        obtain ⟨i, hi, hm, rfl, H⟩ := hrel
        have HMI := Lib.hid hm
        clear hm
        by_cases hil : i < uw.length
        ·have hil' : (i : Int) < (uw.length : Int) := by omega
         have hi0 : (0 : Int) ≤ (i : Int) := by omega
         obtain ⟨x, hx⟩ : ∃ s, uw[i]? = some s := ⟨_, List.getElem?_eq_getElem hil⟩
         obtain ⟨ae, rfl, h5⟩ := HX.out.hr i x hx
         have HT := Lib.hid (Ru.whs_take hx)
         have HTL := Lib.hid (grows_take Ru.whs (fun l x => ⟨_, Ru.whs_snoc l x⟩) uw (i + 1))
         have hri : Ex.right x 1 = true := by
          have h1 := HRI.out
          unfold Ru.right at h1
          rw [Bool.and_eq_true] at h1
          exact Ex.rights_at h1.2 hx
         have HPW := Lib.hid (pol_write (HX.out.hx i x hx) 1 w1.heap.size (ae.add (i * 5)) hri (Ex.shorts_at HSH.out.2 hx) h5 HLE.out)
         have hNL : D2.length + (Ru.whs (uw.take i)).length + (6 + (x.text 1).length) < 1000000000 := by
          have h1 := HTL.out
          have h2 := HDL2.out
          rw [HT.out, List.length_append, List.length_append, nats_length] at h1
          have h3 : (⟨#[32, 119, 104, 101, 110, 32]⟩ : ByteArray).size = 6 := rfl
          omega
         have HNL := Lib.hid hNL
         clear hx hNL hri h5
         go_wp2_with fail
         have HSZ := Lib.hid H.out.bw.size
         have h1 : (D2 ++ Ru.whs (uw.take i)).length + (⟨#[32, 119, 104, 101, 110, 32]⟩ : ByteArray).size < 1000000000 := by rw [List.length_append]; show _ + 6 < _; have := HNL.out; omega
         have HC := bld_strF w1.heap.size w1.heap.size _ ⟨#[32, 119, 104, 101, 110, 32]⟩ _ H.out.bl h1 HSZ.out
         clear h1
         refine HC.mono ?_
         rintro e V3 ⟨rfl, hbl, hbw, hbf⟩
         have H := Lib.hid (H.out.step hbl hbw hbf)
         clear HC hbl hbw hbf
         have hbx := H.out.bx
         have zf : ∀ i, V3.frozen? ⟨(wo.heap.size), i, none⟩ = false := fun i => Lib.frozen_of_heap hbx i
         have z2 : V3.cell? ⟨(wo.heap.size), 2, none⟩ = some (.slice (some ae) uw.length c2) := by rw [Lib.cell_of_heap hbx]; rfl
         clear hbx
         go_wp2_with fail
         have h1 : (D2 ++ Ru.whs (uw.take i) ++ nats ⟨#[32, 119, 104, 101, 110, 32]⟩).length + (x.text 1).length < 1000000000 := by rw [List.length_append, List.length_append, nats_length]; show _ + 6 + _ < _; have := HNL.out; omega
         have HC := HPW.out _ _ 1 H.out.bw H.out.bl h1
         clear h1
         refine HC.mono ?_
         rintro e V4 ⟨rfl, hbl, hbw, hbf⟩
         have H := Lib.hid (H.out.step hbl hbw hbf)
         clear HC hbl hbw hbf z2 zf
         go_wp2_with fail
         go_roundg (uw.length - (i + 1))
         case measure => have := HMI.out; omega
         case rel => exact ⟨i + 1, by omega, rfl, by go_num, by
          have h := H.out
          show PrS _ _ _ _ _
          rw [HT.out]
          simp only [List.append_assoc] at h ⊢
          exact h⟩
        ·have hil' : ¬ (i : Int) < (uw.length : Int) := by omega
         have hie : i = uw.length := by omega
         have HX0 := H.out
         rw [hie, List.take_length] at HX0
         have H := Lib.hid HX0
         clear HX0 hie
         go_wp2_with fail
         have HSZ := Lib.hid H.out.bw.size
         have h1 : (D2 ++ Ru.whs uw).length < 1000000000 := by rw [List.length_append]; have := HDL2.out; omega
         have HC := bld_byteF w1.heap.size w1.heap.size _ 59 _ H.out.bl h1 HSZ.out
         clear h1
         refine HC.mono ?_
         rintro e V3 ⟨rfl, hbl, hbw, hbf⟩
         have H := Lib.hid (H.out.step hbl hbw hbf)
         clear HC hbl hbw hbf
         go_wp2_with fail
         go_roundg (L.length - (k + 1))
         case measure => have := HM.out; omega
         case rel => exact ⟨k + 1, by omega, rfl, by go_num, H.out.bw, by
          have h := H.out.bl
          show Bld _ _ _ _
          rw [HD5.out]
          simp only [List.append_assoc] at h ⊢
          exact h⟩
    | false =>
     have hh9 : (⟨#[112, 101, 114, 109, 105, 116]⟩ : ByteArray) = hdv := hhd.out
     subst hh9
     go_wp2_with fail
     have HSZ := Lib.hid H.out.bw.size
     obtain ⟨D0, hD0⟩ : ∃ D0, D0 = Pol.text (L.take k) ++ lfOf k := ⟨_, rfl⟩
     have HX0 := H.out
     rw [HDD.out, ← hD0] at HX0
     have H := Lib.hid HX0
     have HDL : Hid (D0.length = (Pol.text (L.take k)).length + (lfOf k).length) := by show _ = _; rw [hD0, List.length_append]
     have HD3 : Hid (Pol.text (L.take (k + 1)) = D0 ++ (nats ⟨#[112, 101, 114, 109, 105, 116]⟩ ++ (Ru.scs us ++ (Ru.whs uw ++ [59])))) := by show _ = _; rw [HD2.out, hD0, List.append_assoc]
     have h1 : D0.length + (⟨#[112, 101, 114, 109, 105, 116]⟩ : ByteArray).size < 1000000000 := by have := HTOT.out; have := HDL.out; omega
     clear HX0 hD0 HDD HD2
     have HC := bld_strF w1.heap.size w1.heap.size D0 ⟨#[112, 101, 114, 109, 105, 116]⟩ _ H.out.bl h1 HSZ.out
     clear h1
     refine HC.mono ?_
     rintro e V2 ⟨rfl, hbl, hbw, hbf⟩
     have H := Lib.hid (H.out.step hbl hbw hbf)
     clear HC hbl hbw hbf z0 z1 z2 z3 zf
     obtain ⟨D1, hD1⟩ : ∃ D1, D0 ++ nats ⟨#[112, 101, 114, 109, 105, 116]⟩ = D1 := ⟨_, rfl⟩
     have HX0 := H.out
     rw [hD1] at HX0
     have H := Lib.hid HX0
     have HDL1 : Hid (D1.length + (Ru.scs us).length + (Ru.whs uw).length + 1 < 1000000000) := by have := HTOT.out; have := HDL.out; show _ < _; rw [← hD1, List.length_append, nats_length]; omega
     have HD4 : Hid (Pol.text (L.take (k + 1)) = D1 ++ (Ru.scs us ++ (Ru.whs uw ++ [59]))) := by show _ = _; rw [HD3.out, ← hD1, List.append_assoc]
     clear HX0 hD1 HD3 HDL HTOT
     have hbx := H.out.bx
     have zf : ∀ i, V2.frozen? ⟨(wo.heap.size), i, none⟩ = false := fun i => Lib.frozen_of_heap hbx i
     have z1 : V2.cell? ⟨(wo.heap.size), 1, none⟩ = some (.slice q1 us.length c1) := by rw [Lib.cell_of_heap hbx]; rfl
     clear hbx
     go_wp2_with fail
     go_loopg [7, 34] us.length (fun m s7 s34 W => ∃ (j : Nat) (S : ByteArray), j ≤ us.length ∧ m = us.length - j ∧ s34 = .int .i64 j ∧ s7 = .string S ∧ Hid (S = scSign j) ∧ Hid (PrS w1 (D1 ++ Ru.scs (us.take j)) wo.heap.size #[.bool false, .slice q1 us.length c1, .slice q2 uw.length c2, .int .i64 up] W))
     case atStart => exact ⟨0, scSign 0, by omega, by omega, rfl, rfl, rfl, by
      show PrS _ _ _ _ _
      rw [List.take_zero, Ru.scs, List.append_nil]
      exact H.out⟩
     case round =>
      clear H z1 zf
      obtain ⟨j, S, hj, hm, rfl, rfl, HSG, H⟩ := hrel
      have HMJ := Lib.hid hm
      clear hm
      by_cases hjl : j < us.length
      ·have hjl' : (j : Int) < (us.length : Int) := by omega
       have hj0 : (0 : Int) ≤ (j : Int) := by omega
       obtain ⟨s, hs⟩ : ∃ s, us[j]? = some s := ⟨_, List.getElem?_eq_getElem hjl⟩
       obtain ⟨sb, so, rfl, sc⟩ := (HS.out.fr (Fr.of_below H.out.bw)).hr j s hs
       have HT := Lib.hid (Ru.scs_take hs)
       have HTL := Lib.hid (grows_take Ru.scs (fun l x => ⟨_, Ru.scs_snoc l x⟩) us (j + 1))
       have HQ := Lib.hid (lex_quote2 wr s (HSH.out.1 s (List.mem_of_getElem? hs)) (HLE.out.fr (Fr.of_below H.out.bw) (by simp)))
       have hS7 : S.size ≤ 7 := by rw [HSG.out]; exact scSign_size j
       have hNL : D1.length + (Ru.scs (us.take j)).length + (S.size + (qt s).size) < 1000000000 := by
        have h1 := HTL.out
        have h2 := HDL1.out
        rw [HT.out, List.length_append, nats_length, ByteArray.size_append, ← HSG.out] at h1
        omega
       have hq9 : (qt s).size ≤ 1000000000 := by omega
       have HNL := Lib.hid hNL
       clear hs hNL
       go_wp2_with fail
       refine HQ.out.mono ?_
       rintro e V3 ⟨rfl, hF⟩
       have H := Lib.hid (H.out.fr hF)
       clear hF HQ sc
       go_wp2_with fail
       have HSZ := Lib.hid H.out.bw.size
       have h1 : (D1 ++ Ru.scs (us.take j)).length + (S ++ qt s).size < 1000000000 := by rw [List.length_append, ByteArray.size_append]; have := HNL.out; omega
       have HC := bld_strF w1.heap.size w1.heap.size _ (S ++ qt s) _ H.out.bl h1 HSZ.out
       clear h1
       refine HC.mono ?_
       rintro e V4 ⟨rfl, hbl, hbw, hbf⟩
       have H := Lib.hid (H.out.step hbl hbw hbf)
       clear HC hbl hbw hbf
       go_wp2_with fail
       go_roundg (us.length - (j + 1))
       case measure => have := HMJ.out; omega
       case rel => exact ⟨j + 1, ⟨#[44, 32]⟩, by omega, rfl, by go_num, rfl, by show _ = scSign (j + 1); rw [scSign, if_neg (by omega)], by
        have h := H.out
        show PrS _ _ _ _ _
        rw [HT.out, ← HSG.out]
        simp only [List.append_assoc] at h ⊢
        exact h⟩
      ·have hjl' : ¬ (j : Int) < (us.length : Int) := by omega
       have hje : j = us.length := by omega
       have HX0 := H.out
       rw [hje, List.take_length] at HX0
       have H := Lib.hid HX0
       have hbx := H.out.bx
       have zf : ∀ i, wr.frozen? ⟨(wo.heap.size), i, none⟩ = false := fun i => Lib.frozen_of_heap hbx i
       have z2 : wr.cell? ⟨(wo.heap.size), 2, none⟩ = some (.slice q2 uw.length c2) := by rw [Lib.cell_of_heap hbx]; rfl
       obtain ⟨D2, hD2⟩ : ∃ D2, D1 ++ Ru.scs us = D2 := ⟨_, rfl⟩
       rw [hD2] at HX0
       have H := Lib.hid HX0
       have HDL2 : Hid (D2.length + (Ru.whs uw).length + 1 < 1000000000) := by have := HDL1.out; show _ < _; rw [← hD2, List.length_append]; omega
       have HD5 : Hid (Pol.text (L.take (k + 1)) = D2 ++ (Ru.whs uw ++ [59])) := by show _ = _; rw [HD4.out, ← hD2, List.append_assoc]
       clear hbx HX0 hje hD2 HD4 HDL1
       obtain ⟨wp, rfl⟩ : ∃ wp : World, wp = wr := ⟨_, rfl⟩
       go_wp2_with fail
       go_loopg [51] uw.length (fun m s51 W => ∃ (i : Nat), i ≤ uw.length ∧ m = uw.length - i ∧ s51 = .int .i64 i ∧ Hid (PrS w1 (D2 ++ Ru.whs (uw.take i)) wo.heap.size #[.bool false, .slice q1 us.length c1, .slice q2 uw.length c2, .int .i64 up] W))
       case atStart => exact ⟨0, by omega, by omega, rfl, by
        show PrS _ _ _ _ _
        rw [List.take_zero, Ru.whs, List.append_nil]
        exact H.out⟩
       case round =>
        clear H z2 zf
        obtain ⟨i, hi, hm, rfl, H⟩ := hrel
        have HMI := Lib.hid hm
        clear hm
        by_cases hil : i < uw.length
        ·have hil' : (i : Int) < (uw.length : Int) := by omega
         have hi0 : (0 : Int) ≤ (i : Int) := by omega
         obtain ⟨x, hx⟩ : ∃ s, uw[i]? = some s := ⟨_, List.getElem?_eq_getElem hil⟩
         obtain ⟨ae, rfl, h5⟩ := HX.out.hr i x hx
         have HT := Lib.hid (Ru.whs_take hx)
         have HTL := Lib.hid (grows_take Ru.whs (fun l x => ⟨_, Ru.whs_snoc l x⟩) uw (i + 1))
         have hri : Ex.right x 1 = true := by
          have h1 := HRI.out
          unfold Ru.right at h1
          rw [Bool.and_eq_true] at h1
          exact Ex.rights_at h1.2 hx
         have HPW := Lib.hid (pol_write (HX.out.hx i x hx) 1 w1.heap.size (ae.add (i * 5)) hri (Ex.shorts_at HSH.out.2 hx) h5 HLE.out)
         have hNL : D2.length + (Ru.whs (uw.take i)).length + (6 + (x.text 1).length) < 1000000000 := by
          have h1 := HTL.out
          have h2 := HDL2.out
          rw [HT.out, List.length_append, List.length_append, nats_length] at h1
          have h3 : (⟨#[32, 119, 104, 101, 110, 32]⟩ : ByteArray).size = 6 := rfl
          omega
         have HNL := Lib.hid hNL
         clear hx hNL hri h5
         go_wp2_with fail
         have HSZ := Lib.hid H.out.bw.size
         have h1 : (D2 ++ Ru.whs (uw.take i)).length + (⟨#[32, 119, 104, 101, 110, 32]⟩ : ByteArray).size < 1000000000 := by rw [List.length_append]; show _ + 6 < _; have := HNL.out; omega
         have HC := bld_strF w1.heap.size w1.heap.size _ ⟨#[32, 119, 104, 101, 110, 32]⟩ _ H.out.bl h1 HSZ.out
         clear h1
         refine HC.mono ?_
         rintro e V3 ⟨rfl, hbl, hbw, hbf⟩
         have H := Lib.hid (H.out.step hbl hbw hbf)
         clear HC hbl hbw hbf
         have hbx := H.out.bx
         have zf : ∀ i, V3.frozen? ⟨(wo.heap.size), i, none⟩ = false := fun i => Lib.frozen_of_heap hbx i
         have z2 : V3.cell? ⟨(wo.heap.size), 2, none⟩ = some (.slice (some ae) uw.length c2) := by rw [Lib.cell_of_heap hbx]; rfl
         clear hbx
         go_wp2_with fail
         have h1 : (D2 ++ Ru.whs (uw.take i) ++ nats ⟨#[32, 119, 104, 101, 110, 32]⟩).length + (x.text 1).length < 1000000000 := by rw [List.length_append, List.length_append, nats_length]; show _ + 6 + _ < _; have := HNL.out; omega
         have HC := HPW.out _ _ 1 H.out.bw H.out.bl h1
         clear h1
         refine HC.mono ?_
         rintro e V4 ⟨rfl, hbl, hbw, hbf⟩
         have H := Lib.hid (H.out.step hbl hbw hbf)
         clear HC hbl hbw hbf z2 zf
         go_wp2_with fail
         go_roundg (uw.length - (i + 1))
         case measure => have := HMI.out; omega
         case rel => exact ⟨i + 1, by omega, rfl, by go_num, by
          have h := H.out
          show PrS _ _ _ _ _
          rw [HT.out]
          simp only [List.append_assoc] at h ⊢
          exact h⟩
        ·have hil' : ¬ (i : Int) < (uw.length : Int) := by omega
         have hie : i = uw.length := by omega
         have HX0 := H.out
         rw [hie, List.take_length] at HX0
         have H := Lib.hid HX0
         clear HX0 hie
         go_wp2_with fail
         have HSZ := Lib.hid H.out.bw.size
         have h1 : (D2 ++ Ru.whs uw).length < 1000000000 := by rw [List.length_append]; have := HDL2.out; omega
         have HC := bld_byteF w1.heap.size w1.heap.size _ 59 _ H.out.bl h1 HSZ.out
         clear h1
         refine HC.mono ?_
         rintro e V3 ⟨rfl, hbl, hbw, hbf⟩
         have H := Lib.hid (H.out.step hbl hbw hbf)
         clear HC hbl hbw hbf
         go_wp2_with fail
         go_roundg (L.length - (k + 1))
         case measure => have := HM.out; omega
         case rel => exact ⟨k + 1, by omega, rfl, by go_num, H.out.bw, by
          have h := H.out.bl
          show Bld _ _ _ _
          rw [HD5.out]
          simp only [List.append_assoc] at h ⊢
          exact h⟩
  ·have hlt' : ¬ (k : Int) < (L.length : Int) := by omega
   have hke : k = L.length := by omega
   have h9 : Bld w1.heap.size w1.heap.size (Pol.text L) wr := by have := HB.out; rwa [hke, List.take_length] at this
   have HC := Lib.hid (bld_string w1.heap.size w1.heap.size _ wr h9 (Pol.text_lt L) HW.out.size)
   clear h9 hke
   go_wp2_with fail
   refine HC.out.mono ?_
   rintro e w2 ⟨rfl, hbw⟩
   have HF2 := Lib.hid (HF0.out.trans0 ((Fr.of_below HW.out).step hbw))
   clear hbw HC
   go_wp2_with fail
   go_ret2
   exact ⟨rfl, HF2.out⟩
end Go.Proofs.YtgklmpooonnmiaaGreatDoor

namespace Go.Proofs.YtgklmpooonnmiaaGreatDoor
open Go.RowKit
structure Tk where
 k : Nat
 s : ByteArray
 n : Int
 p : Nat
def Tk.c (t : Tk) : List Value := [.int .i64 (t.k : Nat), .string t.s, .int .i64 t.n, .int .i64 (t.p : Nat)]
inductive TR where
 | ok (t : Tk) (m : Nat)
 | bad (p n : Nat)
namespace Lex
def tokSmall (T : ByteArray) (k n : Nat) : TR := if 32 < n then .bad k 110 else .ok ⟨1, T.extract 0 n, 0, k⟩ (k + n)
def tokText (k : Nat) : Option (List Nat) × Nat → TR
 | (some o, e) => .ok ⟨2, ba o, 0, k⟩ e
 | (none, p) => .bad p 110
def tokRead (k n : Nat) : Int × Er → TR
 | (v, .ok) => .ok ⟨3, ⟨#[]⟩, v, k⟩ (k + n)
 | _ => .bad k 41
def tokNum (T : ByteArray) (k n : Nat) : TR := if n = 0 then .bad k 110 else tokRead k n (Dec.read (bn (T.extract 0 n)) (T.extract 0 n).size (-9007199254740991) 9007199254740991)
def tokSign (T : ByteArray) (k n : Nat) : TR := if n = 0 then .bad k 110 else .ok ⟨4, T.extract 0 n, 0, k⟩ (k + n)
def tokR (s T : ByteArray) (k c : Nat) : TR :=
 if small c = true then tokSmall T k (smalls (bn T) T.size 0)
 else if c = 34 then tokText k (text s (k + 1) [])
 else if c = 45 ∨ Dec.dig c = true then tokNum T k (Dec.lead (bn T) T.size)
 else tokSign T k (sign (bn T) T.size)
def token (s : ByteArray) (k : Nat) : TR := tokR s (s.extract k s.size) k (bn (s.extract k s.size) 0)
end Lex
def zTk : Array Value := #[.int .i64 0, .string ⟨#[]⟩, .int .i64 0, .int .i64 0]
structure TT (w : World) (b g : Nat) (s : ByteArray) (lv : Value) (k : Nat) (r t : Array Value) (W : World) : Prop where
 sc : Sc W b s k lv
 r : W.heap[g]? = some (.cells r 54 (0, 0))
 t : W.heap[g + 1]? = some (.cells t 54 (0, 0))
 f : Fr [b] w W
 ge : g = w.heap.size
theorem TT.fr {w : World} {b g : Nat} {s : ByteArray} {lv : Value} {k : Nat} {r t : Array Value} {W W' : World} (h : TT w b g s lv k r t W) (hF : Fr [] W W') : TT w b g s lv k r t W' :=
 ⟨h.sc.fr hF, hF.row h.r (by simp), hF.row h.t (by simp), h.f.trans0 hF, h.ge⟩
theorem TT.lt {w : World} {b g : Nat} {s : ByteArray} {lv : Value} {k : Nat} {r t : Array Value} {W : World} (h : TT w b g s lv k r t W) (hb : b < w.heap.size) : b ≠ g ∧ b ≠ g + 1 := by have := h.ge; omega
theorem TT.put {w : World} {b g : Nat} {s : ByteArray} {lv : Value} {k : Nat} {r t : Array Value} {W : World} (h : TT w b g s lv k r t W) (hb : b < w.heap.size) (m : Nat) : TT w b g s lv m r t (W.setCell ⟨b, 1, none⟩ (.int .i64 (m : Nat))) :=
 ⟨h.sc.put m, by rw [Below.heap_setCell _ _ _ _ (by have := h.ge; show g ≠ b; omega)]; exact h.r, by rw [Below.heap_setCell _ _ _ _ (by have := h.ge; show g + 1 ≠ b; omega)]; exact h.t, h.f.setCell (.inl (by simp)) _, h.ge⟩
theorem TT.sett {w : World} {b g : Nat} {s : ByteArray} {lv : Value} {k : Nat} {r t : Array Value} {W : World} (h : TT w b g s lv k r t W) (hb : b < w.heap.size) (i : Nat) (v : Value) : TT w b g s lv k r (t.setIfInBounds i v) (W.setCell ⟨g + 1, i, none⟩ v) :=
 ⟨by unfold Sc; rw [Below.heap_setCell _ _ _ _ (by have := h.ge; show b ≠ g + 1; omega)]; exact h.sc, by rw [Below.heap_setCell _ _ _ _ (by show g ≠ g + 1; omega)]; exact h.r, heap_setCell_same _ _ _ _ _ _ h.t, h.f.setCell (.inr (by have := h.ge; show w.heap.size ≤ g + 1; omega)) _, h.ge⟩
theorem TT.setr {w : World} {b g : Nat} {s : ByteArray} {lv : Value} {k : Nat} {r t : Array Value} {W : World} (h : TT w b g s lv k r t W) (hb : b < w.heap.size) (i : Nat) (v : Value) : TT w b g s lv k (r.setIfInBounds i v) t (W.setCell ⟨g, i, none⟩ v) :=
 ⟨by unfold Sc; rw [Below.heap_setCell _ _ _ _ (by have := h.ge; show b ≠ g; omega)]; exact h.sc, heap_setCell_same _ _ _ _ _ _ h.r, by rw [Below.heap_setCell _ _ _ _ (by show g + 1 ≠ g; omega)]; exact h.t, h.f.setCell (.inr (by have := h.ge; show w.heap.size ≤ g; omega)) _, h.ge⟩
theorem TT.step {w : World} {b g : Nat} {s : ByteArray} {lv : Value} {k m : Nat} {r t : Array Value} {W W' : World} (h : TT w b g s lv k r t W) (hb : b < w.heap.size) (hF : Fr [b] W W') (hS : Sc W' b s m lv) : TT w b g s lv m r t W' :=
 ⟨hS, hF.row h.r (by have := h.ge; simp; omega), hF.row h.t (by have := h.ge; simp; omega), h.f.trans1 hF (.inl (by simp)), h.ge⟩
theorem TT.least {w : World} {b g : Nat} {s : ByteArray} {lv : Value} {k : Nat} {r t : Array Value} {W : World} (h : TT w b g s lv k r t W) (hL : Least w) (hb : 1 ≠ b) : Least W := hL.fr h.f (by simpa using hb)
theorem results_cell_tmp {P : Program} {fn : Func} {p q : Tmp} {ty : TypeId} (h : fn.results = #[.cell p ty, .tmp q]) (tmps : Array Value) (w : World) (g : Nat) (t : TypeId) (cs : Array Value) (fr : Nat × Nat) (d : TypeDesc)
  (hp : tmps.getD p undef = .pointer (some ⟨g, 0, none⟩)) (hg : w.heap[g]? = some (.cells cs t fr))
  (hu : P.underlying ty = some d) (hd : (match d with | .struct _ | .array _ _ => true | _ => false) = true) (hi : (P.info? ty).map (·.size) = some cs.size) :
  (results fn tmps).run P w = .ok (.tuple #[.agg cs, tmps.getD q undef]) w := by
 have hp' : tmps[p]?.getD undef = .pointer (some ⟨g, 0, none⟩) := by simpa using hp
 simp [results, h, hp', asAddr, run_loadVar_row w g t ty cs fr d hg hu hd hi]
theorem ErV.set {w : World} {B c i : Nat} {u : Value} {e : Er} {v : Value} (h : ErV w B e v) (hc : c < B) : ErV (w.setCell ⟨c, i, none⟩ u) B e v := by
 cases e with
 | ok => exact h
 | no n => exact h
 | pl p n => obtain ⟨b, hb, hv, hr⟩ := h; exact ⟨b, hb, hv, by rw [Below.heap_setCell _ _ _ _ (by show b ≠ c; omega)]; exact hr⟩
def TokTold (w : World) (b : Nat) (s : ByteArray) (lv : Value) : TR → Array Value → Value → World → Prop
 | .ok t m, tv, ev, w' => tv = t.c.toArray ∧ ev = .nilIface ∧ Sc w' b s m lv ∧ Fr [b] w w'
 | .bad p n, tv, ev, w' => (∃ t : Tk, tv = t.c.toArray) ∧ ErV w' w.heap.size (.pl p n) ev ∧ Fr [b] w w'
end Go.Proofs.YtgklmpooonnmiaaGreatDoor
