/-
  Lemmas and contracts that the proofs over this seat use (RefPrintL); no statement of the seat is claimed in this text, and nothing is assumed in it.
-/
import Derived.Test.YtgklmpooonnmiaaGreatDoorH28
import Derived.Test.YtgklmpooonnmiaaGreatDoorH30
set_option linter.unusedVariables false
set_option linter.unusedSimpArgs false
namespace Go.Proofs.YtgklmpooonnmiaaGreatDoor
open Go.RowKit
set_option maxHeartbeats 8000000 in
set_option maxRecDepth 100000 in
theorem ref_PrintL (w : World) (q : Option Addr) (c : Nat) (f : Nat → List Value) (L : List Ru) (h : RsA w q c f L) (hn : ∀ u ∈ L, u.short) (hr : Ru.rights L = true) (hlen : (Pol.text L).length < 1000000000) :
  Calls Tryz.prog 15 #[.slice q L.length c] w fun e w' => e = .returned (.string (ba (Pol.text L))) ∧ Fr [] w w' := by
 have hra : ∀ u ∈ L, Ru.right u = true := by
  unfold Ru.rights at hr
  rw [Bool.and_eq_true] at hr
  exact List.all_eq_true.1 hr.2
 have HRT := Lib.hid hra
 have HN := Lib.hid hn
 have HL := Lib.hid h
 have HLEN := Lib.hid hlen
 have hb : L.length ≤ 9223372036854775807 := by have h1 := h.hc; have h2 := h.hm; unfold maxLen at h2; omega
 clear h hn hr hra hlen
 go_enter Tryz.func15, Tryz.ntmps15
 go_wp2_with fail
 go_loopg [3, 4] L.length (fun m s3 s4 W => ∃ (k : Nat) (S : ByteArray), k ≤ L.length ∧ m = L.length - k ∧ s3 = .string S ∧ s4 = .int .i64 k ∧ Hid (nats S = Pol.text (L.take k)) ∧ Hid (Fr [] w W))
 case atStart => exact ⟨0, ⟨#[]⟩, by omega, by omega, rfl, rfl, rfl, Fr.refl _ _⟩
 case round =>
  obtain ⟨k, S, hk, hm, rfl, rfl, HSN, HF⟩ := hrel
  have HM := Lib.hid hm
  clear hm
  by_cases hlt : k < L.length
  ·have hlt' : (k : Int) < (L.length : Int) := by omega
   have hk0 : (0 : Int) ≤ (k : Int) := by omega
   have HTL := Lib.hid (grows_take Pol.text (fun l x => ⟨_, Pol.text_snoc l x⟩) L (k + 1))
   obtain ⟨u, hx⟩ : ∃ x, L[k]? = some x := ⟨_, List.getElem?_eq_getElem hlt⟩
   obtain ⟨ad, rfl, h5⟩ := HL.out.hr k u hx
   obtain ⟨q1, c1, q2, c2, g, hA⟩ := HL.out.hx k u hx
   obtain ⟨v0, v1, v2, v3, hf0, a0, a1, a2, a3⟩ := h5
   have hf2 := hA.e
   rw [hf0] at hf2
   simp only [List.cons.injEq, and_true] at hf2
   obtain ⟨rfl, rfl, rfl, rfl⟩ := hf2
   have HS := Lib.hid hA.s
   have HX := Lib.hid hA.l
   have HSH := Lib.hid (HN.out u (List.mem_of_getElem? hx))
   have HRI := Lib.hid (HRT.out u (List.mem_of_getElem? hx))
   have HD := Lib.hid (Pol.text_take hx)
   obtain ⟨ud, us, uw, up⟩ := u
   have hs1 : us.length ≤ 9223372036854775807 := by have h1 := HS.out.hc; have h2 := HS.out.hm; unfold maxLen at h2; simp only [] at h1; omega
   have hs2 : uw.length ≤ 9223372036854775807 := by have h1 := HX.out.hc; have h2 := HX.out.hm; unfold maxLen at h2; simp only [] at h1; omega
   have A0 := Lib.hid a0
   have A1 := Lib.hid a1
   have A2 := Lib.hid a2
   clear hf0 hx hA a0 a1 a2 a3
   dsimp only at A0 A1 A2 HS HX HD HSH HRI
   have HTOT : Hid ((Pol.text (L.take k)).length + (lfOf k).length + (Ru.hd ⟨ud, us, uw, up⟩).size + (Ru.scs us).length + (Ru.whs uw).length + 1 < 1000000000) := by
    have h1 := HTL.out
    have h2 := HLEN.out
    rw [HD.out] at h1
    unfold Ru.text at h1
    simp only [List.length_append, List.length_cons, List.length_nil, nats_length] at h1
    show _ < _
    omega
   have HD2 : Hid (Pol.text (L.take (k + 1)) = Pol.text (L.take k) ++ (lfOf k ++ (nats (Ru.hd ⟨ud, us, uw, up⟩) ++ (Ru.scs us ++ (Ru.whs uw ++ [59]))))) := HD.out
   have hSs : S.size ≤ 1000000000 := by rw [← nats_length, HSN.out]; have := HTOT.out; omega
   clear HD HTL
   obtain ⟨wo, rfl⟩ : ∃ wo : World, wo = wr := ⟨_, rfl⟩
   have a0 := HF.out.cells A0.out
   have a1 := HF.out.cells A1.out
   have a2 := HF.out.cells A2.out
   refine (Classical.em (k = 0)).elim (fun hk9 => ?k0) (fun hk9 => ?k1)
   case k0 =>
    have hk8 : ¬ (k : Int) > 0 := by omega
    have HLF : Hid (lfOf k = []) := by show _ = _; rw [lfOf, if_pos hk9]
    clear hk9
    cases ud with
    | true =>
     obtain ⟨D1, hD1⟩ : ∃ D1, Pol.text (L.take k) ++ lfOf k ++ nats (⟨#[100, 101, 110, 121]⟩ : ByteArray) = D1 := ⟨_, rfl⟩
     have HD1 : Hid (nats (S ++ ⟨#[100, 101, 110, 121]⟩) = D1) := by
      show _ = _
      rw [← hD1]
      simp only [nats_append, HSN.out, HLF.out, List.append_assoc, List.nil_append]
      first | done | rfl
     have HDL1 : Hid (D1.length + (Ru.scs us).length + (Ru.whs uw).length + 1 < 1000000000) := by have := HTOT.out; show _ < _; rw [← hD1, List.length_append, List.length_append, nats_length]; exact (by have h : (Ru.hd ⟨true, us, uw, up⟩).size = ((⟨#[100, 101, 110, 121]⟩ : ByteArray) : ByteArray).size := rfl; omega)
     have HD4 : Hid (Pol.text (L.take (k + 1)) = D1 ++ (Ru.scs us ++ (Ru.whs uw ++ [59]))) := by show _ = _; rw [HD2.out, ← hD1]; simp only [List.append_assoc]; rfl
     clear hD1 HTOT HD2
     go_wp2_with fail
     go_loopg [3, 5] us.length (fun m s3 s5 W => ∃ (j : Nat) (S : ByteArray), j ≤ us.length ∧ m = us.length - j ∧ s5 = .int .i64 j ∧ s3 = .string S ∧ Hid (nats S = D1 ++ Ru.scs (us.take j)) ∧ Hid (Fr [] w W))
     case atStart => exact ⟨0, _, by omega, by omega, rfl, rfl, by show _ = _; rw [List.take_zero, Ru.scs, List.append_nil]; exact HD1.out, HF.out⟩
     case round =>
      clear a0 a1 a2
      obtain ⟨j, S1, hj, hm, rfl, rfl, HSJ, HFJ⟩ := hrel
      have HMJ := Lib.hid hm
      clear hm
      have a1 := HFJ.out.cells A1.out
      have a2 := HFJ.out.cells A2.out
      by_cases hjl : j < us.length
      ·have hjl' : (j : Int) < (us.length : Int) := by omega
       have hj0 : (0 : Int) ≤ (j : Int) := by omega
       obtain ⟨s, hs⟩ : ∃ s, us[j]? = some s := ⟨_, List.getElem?_eq_getElem hjl⟩
       obtain ⟨sb, so, rfl, sc⟩ := (HS.out.fr HFJ.out).hr j s hs
       have HT := Lib.hid (Ru.scs_take hs)
       have HTL := Lib.hid (grows_take Ru.scs (fun l x => ⟨_, Ru.scs_snoc l x⟩) us (j + 1))
       have HQ := Lib.hid (ref_quote2 wr s (HSH.out.1 s (List.mem_of_getElem? hs)))
       have hNL : S1.size + ((scSign j).size + (qt s).size) < 1000000000 := by
        have h1 := HTL.out
        have h2 := HDL1.out
        rw [HT.out, List.length_append, nats_length, ByteArray.size_append] at h1
        rw [← nats_length, HSJ.out, List.length_append]
        omega
       have hq8 : S1.size ≤ 1000000000 := by omega
       have hq9 : (qt s).size ≤ 1000000000 := by omega
       clear hs hNL
       by_cases hz : j = 0
       ·have hz2 : ((j : Int) == 0) = true := beq_iff_eq.2 (by omega)
        have HE2 : Hid (nats (S1 ++ ⟨#[32, 115, 99, 111, 112, 101, 32]⟩ ++ qt s) = D1 ++ Ru.scs (us.take (j + 1))) := by
         show _ = _
         rw [HT.out, nats_append, nats_append, HSJ.out, nats_append, scSign, if_pos hz]
         simp only [List.append_assoc]
        subst hz
        clear hz2
        rw [Nat.add_zero] at sc
        go_wp2_with fail
        refine HQ.out.mono ?_
        rintro e V3 ⟨rfl, hF⟩
        have HFJ2 := Lib.hid (HFJ.out.trans0 hF)
        clear hF HQ sc a1 a2
        go_wp2_with fail
        go_roundg (us.length - (0 + 1))
        case measure => have := HMJ.out; omega
        case rel => exact ⟨0 + 1, _, by omega, rfl, by go_num, rfl, HE2.out, HFJ2.out⟩
       ·have hz2 : ((j : Int) == 0) = false := beq_eq_false_iff_ne.2 (by omega)
        have HE2 : Hid (nats (S1 ++ ⟨#[44, 32]⟩ ++ qt s) = D1 ++ Ru.scs (us.take (j + 1))) := by
         show _ = _
         rw [HT.out, nats_append, nats_append, HSJ.out, nats_append, scSign, if_neg hz]
         simp only [List.append_assoc]
        go_wp2_with fail
        refine HQ.out.mono ?_
        rintro e V3 ⟨rfl, hF⟩
        have HFJ2 := Lib.hid (HFJ.out.trans0 hF)
        clear hF HQ sc a1 a2
        go_wp2_with fail
        go_roundg (us.length - (j + 1))
        case measure => have := HMJ.out; omega
        case rel => exact ⟨j + 1, _, by omega, rfl, by go_num, rfl, HE2.out, HFJ2.out⟩
      ·have hjl' : ¬ (j : Int) < (us.length : Int) := by omega
       have hje : j = us.length := by omega
       have HS2 : Hid (nats S1 = D1 ++ Ru.scs us) := by have := HSJ.out; rwa [hje, List.take_length] at this
       have hq8 : S1.size ≤ 1000000000 := by rw [← nats_length, HS2.out, List.length_append]; have := HDL1.out; omega
       clear hje HSJ
       by_cases hw0 : uw.length = 0
       ·have hw1 : ¬ (uw.length : Int) > 0 := by omega
        have HE2 : Hid (nats (S1 ++ ⟨#[59]⟩) = Pol.text (L.take (k + 1))) := by
         show _ = _
         rw [nats_append, HS2.out, HD4.out, List.eq_nil_of_length_eq_zero hw0, Ru.whs]
         simp only [List.append_assoc, List.nil_append]
         rfl
        clear hw0
        go_wp2_with fail
        go_roundg (L.length - (k + 1))
        case measure => have := HM.out; omega
        case rel => exact ⟨k + 1, _, by omega, rfl, rfl, by go_num, HE2.out, HFJ.out⟩
       ·have hu1 : uw.length = 1 := by
         have h1 := HRI.out
         unfold Ru.right at h1
         simp only [Bool.and_eq_true, decide_eq_true_eq] at h1
         omega
        obtain ⟨x, hux⟩ := one_of hu1
        subst hux
        have hri : Ex.right x 1 = true := by
         have h1 := HRI.out
         unfold Ru.right at h1
         rw [Bool.and_eq_true] at h1
         exact Ex.rights_at h1.2 (i := 0) rfl
        obtain ⟨ae, rfl, h5⟩ := (HX.out.fr HFJ.out).hr 0 x rfl
        obtain ⟨u0, u1, u2, u3, u4, hf0, b0, b1, b2, b3, b4⟩ := h5
        rw [Nat.zero_mul, add_zeroT] at b0 b1 b2 b3 b4
        obtain ⟨xo, xs, xn, xq, xk, xc, xp, hf2⟩ := (HX.out.hx 0 x rfl).form
        rw [hf0] at hf2
        simp only [List.cons.injEq, and_true] at hf2
        obtain ⟨rfl, rfl, rfl, rfl, rfl⟩ := hf2
        have hwl : (Ru.whs [x]).length = 6 + (x.text 1).length := by
         rw [Ru.whs, Ru.whs, List.length_append, List.append_nil, nats_length]; rfl
        have hxl : S1.size + 6 + (x.text 1).length < 1000000000 := by rw [← nats_length, HS2.out, List.length_append]; have := HDL1.out; omega
        have HCL : Hid (Calls Tryz.prog 39 #[.agg #[.int .i64 xo, .string xs, .int .i64 xn, .slice xq xk xc, .int .i64 xp], .int .i64 1] wr fun e w' => e = .returned (.string (ba (x.text 1))) ∧ Fr [] wr w') := by
         have h9 := ref_Text (HX.out.hx 0 x rfl) wr 1 1 HFJ.out hri (Ex.shorts_at (i := 0) HSH.out.2 rfl) (by omega)
         rw [hf0] at h9
         exact h9
        obtain ⟨T, hTT⟩ : ∃ T, ba (x.text 1) = T := ⟨_, rfl⟩
        have HNT : Hid (nats T = x.text 1) := by show _ = _; rw [← hTT]; exact nats_ba _ (Ex.text_lt x 1)
        rw [hTT] at HCL
        have hts : T.size ≤ 1000000000 := by rw [← nats_length, HNT.out]; omega
        have HE2 : Hid (nats (S1 ++ ⟨#[32, 119, 104, 101, 110, 32]⟩ ++ T ++ ⟨#[59]⟩) = Pol.text (L.take (k + 1))) := by
         show _ = _
         rw [nats_append, nats_append, nats_append, HS2.out, HNT.out, HD4.out, Ru.whs, Ru.whs]
         simp only [List.append_assoc, List.append_nil]
         rfl
        clear hTT hwl hxl hri hu1 hw0 hf0
        go_wp2_with fail
        refine HCL.out.mono ?_
        rintro e V3 ⟨rfl, hF⟩
        have HFJ2 := Lib.hid (HFJ.out.trans0 hF)
        clear hF HCL a1 a2
        go_wp2_with fail
        go_roundg (L.length - (k + 1))
        case measure => have := HM.out; omega
        case rel => exact ⟨k + 1, _, by omega, rfl, rfl, by go_num, HE2.out, HFJ2.out⟩
    | false =>
     obtain ⟨D1, hD1⟩ : ∃ D1, Pol.text (L.take k) ++ lfOf k ++ nats (⟨#[112, 101, 114, 109, 105, 116]⟩ : ByteArray) = D1 := ⟨_, rfl⟩
     have HD1 : Hid (nats (S ++ ⟨#[112, 101, 114, 109, 105, 116]⟩) = D1) := by
      show _ = _
      rw [← hD1]
      simp only [nats_append, HSN.out, HLF.out, List.append_assoc, List.nil_append]
      first | done | rfl
     have HDL1 : Hid (D1.length + (Ru.scs us).length + (Ru.whs uw).length + 1 < 1000000000) := by have := HTOT.out; show _ < _; rw [← hD1, List.length_append, List.length_append, nats_length]; exact (by have h : (Ru.hd ⟨false, us, uw, up⟩).size = ((⟨#[112, 101, 114, 109, 105, 116]⟩ : ByteArray) : ByteArray).size := rfl; omega)
     have HD4 : Hid (Pol.text (L.take (k + 1)) = D1 ++ (Ru.scs us ++ (Ru.whs uw ++ [59]))) := by show _ = _; rw [HD2.out, ← hD1]; simp only [List.append_assoc]; rfl
     clear hD1 HTOT HD2
     go_wp2_with fail
     go_loopg [3, 5] us.length (fun m s3 s5 W => ∃ (j : Nat) (S : ByteArray), j ≤ us.length ∧ m = us.length - j ∧ s5 = .int .i64 j ∧ s3 = .string S ∧ Hid (nats S = D1 ++ Ru.scs (us.take j)) ∧ Hid (Fr [] w W))
     case atStart => exact ⟨0, _, by omega, by omega, rfl, rfl, by show _ = _; rw [List.take_zero, Ru.scs, List.append_nil]; exact HD1.out, HF.out⟩
     case round =>
      clear a0 a1 a2
      obtain ⟨j, S1, hj, hm, rfl, rfl, HSJ, HFJ⟩ := hrel
      have HMJ := Lib.hid hm
      clear hm
      have a1 := HFJ.out.cells A1.out
      have a2 := HFJ.out.cells A2.out
      by_cases hjl : j < us.length
      ·have hjl' : (j : Int) < (us.length : Int) := by omega
       have hj0 : (0 : Int) ≤ (j : Int) := by omega
       obtain ⟨s, hs⟩ : ∃ s, us[j]? = some s := ⟨_, List.getElem?_eq_getElem hjl⟩
       obtain ⟨sb, so, rfl, sc⟩ := (HS.out.fr HFJ.out).hr j s hs
       have HT := Lib.hid (Ru.scs_take hs)
       have HTL := Lib.hid (grows_take Ru.scs (fun l x => ⟨_, Ru.scs_snoc l x⟩) us (j + 1))
       have HQ := Lib.hid (ref_quote2 wr s (HSH.out.1 s (List.mem_of_getElem? hs)))
       have hNL : S1.size + ((scSign j).size + (qt s).size) < 1000000000 := by
        have h1 := HTL.out
        have h2 := HDL1.out
        rw [HT.out, List.length_append, nats_length, ByteArray.size_append] at h1
        rw [← nats_length, HSJ.out, List.length_append]
        omega
       have hq8 : S1.size ≤ 1000000000 := by omega
       have hq9 : (qt s).size ≤ 1000000000 := by omega
       clear hs hNL
       by_cases hz : j = 0
       ·have hz2 : ((j : Int) == 0) = true := beq_iff_eq.2 (by omega)
        have HE2 : Hid (nats (S1 ++ ⟨#[32, 115, 99, 111, 112, 101, 32]⟩ ++ qt s) = D1 ++ Ru.scs (us.take (j + 1))) := by
         show _ = _
         rw [HT.out, nats_append, nats_append, HSJ.out, nats_append, scSign, if_pos hz]
         simp only [List.append_assoc]
        subst hz
        clear hz2
        rw [Nat.add_zero] at sc
        go_wp2_with fail
        refine HQ.out.mono ?_
        rintro e V3 ⟨rfl, hF⟩
        have HFJ2 := Lib.hid (HFJ.out.trans0 hF)
        clear hF HQ sc a1 a2
        go_wp2_with fail
        go_roundg (us.length - (0 + 1))
        case measure => have := HMJ.out; omega
        case rel => exact ⟨0 + 1, _, by omega, rfl, by go_num, rfl, HE2.out, HFJ2.out⟩
       ·have hz2 : ((j : Int) == 0) = false := beq_eq_false_iff_ne.2 (by omega)
        have HE2 : Hid (nats (S1 ++ ⟨#[44, 32]⟩ ++ qt s) = D1 ++ Ru.scs (us.take (j + 1))) := by
         show _ = _
         rw [HT.out, nats_append, nats_append, HSJ.out, nats_append, scSign, if_neg hz]
         simp only [List.append_assoc]
        go_wp2_with fail
        refine HQ.out.mono ?_
        rintro e V3 ⟨rfl, hF⟩
        have HFJ2 := Lib.hid (HFJ.out.trans0 hF)
        clear hF HQ sc a1 a2
        go_wp2_with fail
        go_roundg (us.length - (j + 1))
        case measure => have := HMJ.out; omega
        case rel => exact ⟨j + 1, _, by omega, rfl, by go_num, rfl, HE2.out, HFJ2.out⟩
      ·have hjl' : ¬ (j : Int) < (us.length : Int) := by omega
       have hje : j = us.length := by omega
       have HS2 : Hid (nats S1 = D1 ++ Ru.scs us) := by have := HSJ.out; rwa [hje, List.take_length] at this
       have hq8 : S1.size ≤ 1000000000 := by rw [← nats_length, HS2.out, List.length_append]; have := HDL1.out; omega
       clear hje HSJ
       by_cases hw0 : uw.length = 0
       ·have hw1 : ¬ (uw.length : Int) > 0 := by omega
        have HE2 : Hid (nats (S1 ++ ⟨#[59]⟩) = Pol.text (L.take (k + 1))) := by
         show _ = _
         rw [nats_append, HS2.out, HD4.out, List.eq_nil_of_length_eq_zero hw0, Ru.whs]
         simp only [List.append_assoc, List.nil_append]
         rfl
        clear hw0
        go_wp2_with fail
        go_roundg (L.length - (k + 1))
        case measure => have := HM.out; omega
        case rel => exact ⟨k + 1, _, by omega, rfl, rfl, by go_num, HE2.out, HFJ.out⟩
       ·have hu1 : uw.length = 1 := by
         have h1 := HRI.out
         unfold Ru.right at h1
         simp only [Bool.and_eq_true, decide_eq_true_eq] at h1
         omega
        obtain ⟨x, hux⟩ := one_of hu1
        subst hux
        have hri : Ex.right x 1 = true := by
         have h1 := HRI.out
         unfold Ru.right at h1
         rw [Bool.and_eq_true] at h1
         exact Ex.rights_at h1.2 (i := 0) rfl
        obtain ⟨ae, rfl, h5⟩ := (HX.out.fr HFJ.out).hr 0 x rfl
        obtain ⟨u0, u1, u2, u3, u4, hf0, b0, b1, b2, b3, b4⟩ := h5
        rw [Nat.zero_mul, add_zeroT] at b0 b1 b2 b3 b4
        obtain ⟨xo, xs, xn, xq, xk, xc, xp, hf2⟩ := (HX.out.hx 0 x rfl).form
        rw [hf0] at hf2
        simp only [List.cons.injEq, and_true] at hf2
        obtain ⟨rfl, rfl, rfl, rfl, rfl⟩ := hf2
        have hwl : (Ru.whs [x]).length = 6 + (x.text 1).length := by
         rw [Ru.whs, Ru.whs, List.length_append, List.append_nil, nats_length]; rfl
        have hxl : S1.size + 6 + (x.text 1).length < 1000000000 := by rw [← nats_length, HS2.out, List.length_append]; have := HDL1.out; omega
        have HCL : Hid (Calls Tryz.prog 39 #[.agg #[.int .i64 xo, .string xs, .int .i64 xn, .slice xq xk xc, .int .i64 xp], .int .i64 1] wr fun e w' => e = .returned (.string (ba (x.text 1))) ∧ Fr [] wr w') := by
         have h9 := ref_Text (HX.out.hx 0 x rfl) wr 1 1 HFJ.out hri (Ex.shorts_at (i := 0) HSH.out.2 rfl) (by omega)
         rw [hf0] at h9
         exact h9
        obtain ⟨T, hTT⟩ : ∃ T, ba (x.text 1) = T := ⟨_, rfl⟩
        have HNT : Hid (nats T = x.text 1) := by show _ = _; rw [← hTT]; exact nats_ba _ (Ex.text_lt x 1)
        rw [hTT] at HCL
        have hts : T.size ≤ 1000000000 := by rw [← nats_length, HNT.out]; omega
        have HE2 : Hid (nats (S1 ++ ⟨#[32, 119, 104, 101, 110, 32]⟩ ++ T ++ ⟨#[59]⟩) = Pol.text (L.take (k + 1))) := by
         show _ = _
         rw [nats_append, nats_append, nats_append, HS2.out, HNT.out, HD4.out, Ru.whs, Ru.whs]
         simp only [List.append_assoc, List.append_nil]
         rfl
        clear hTT hwl hxl hri hu1 hw0 hf0
        go_wp2_with fail
        refine HCL.out.mono ?_
        rintro e V3 ⟨rfl, hF⟩
        have HFJ2 := Lib.hid (HFJ.out.trans0 hF)
        clear hF HCL a1 a2
        go_wp2_with fail
        go_roundg (L.length - (k + 1))
        case measure => have := HM.out; omega
        case rel => exact ⟨k + 1, _, by omega, rfl, rfl, by go_num, HE2.out, HFJ2.out⟩
   case k1 =>
    have hk8 : (k : Int) > 0 := by omega
    have d8 : decide (0 < k) = true := decide_eq_true (by omega)
    have d9 : decide ((k : Int) > 0) = true := decide_eq_true (by omega)
    have HLF : Hid (lfOf k = [10]) := by show _ = _; rw [lfOf, if_neg hk9]
    clear hk9
    cases ud with
    | true =>
     obtain ⟨D1, hD1⟩ : ∃ D1, Pol.text (L.take k) ++ lfOf k ++ nats (⟨#[100, 101, 110, 121]⟩ : ByteArray) = D1 := ⟨_, rfl⟩
     have HD1 : Hid (nats (S ++ ⟨#[10]⟩ ++ ⟨#[100, 101, 110, 121]⟩) = D1) := by
      show _ = _
      rw [← hD1]
      simp only [nats_append, HSN.out, HLF.out, List.append_assoc, List.nil_append]
      first | done | rfl
     have HDL1 : Hid (D1.length + (Ru.scs us).length + (Ru.whs uw).length + 1 < 1000000000) := by have := HTOT.out; show _ < _; rw [← hD1, List.length_append, List.length_append, nats_length]; exact (by have h : (Ru.hd ⟨true, us, uw, up⟩).size = ((⟨#[100, 101, 110, 121]⟩ : ByteArray) : ByteArray).size := rfl; omega)
     have HD4 : Hid (Pol.text (L.take (k + 1)) = D1 ++ (Ru.scs us ++ (Ru.whs uw ++ [59]))) := by show _ = _; rw [HD2.out, ← hD1]; simp only [List.append_assoc]; rfl
     clear hD1 HTOT HD2
     go_wp2_with fail
     go_loopg [3, 5] us.length (fun m s3 s5 W => ∃ (j : Nat) (S : ByteArray), j ≤ us.length ∧ m = us.length - j ∧ s5 = .int .i64 j ∧ s3 = .string S ∧ Hid (nats S = D1 ++ Ru.scs (us.take j)) ∧ Hid (Fr [] w W))
     case atStart => exact ⟨0, _, by omega, by omega, rfl, rfl, by show _ = _; rw [List.take_zero, Ru.scs, List.append_nil]; exact HD1.out, HF.out⟩
     case round =>
      clear a0 a1 a2
      obtain ⟨j, S1, hj, hm, rfl, rfl, HSJ, HFJ⟩ := hrel
      have HMJ := Lib.hid hm
      clear hm
      have a1 := HFJ.out.cells A1.out
      have a2 := HFJ.out.cells A2.out
      by_cases hjl : j < us.length
      ·have hjl' : (j : Int) < (us.length : Int) := by omega
       have hj0 : (0 : Int) ≤ (j : Int) := by omega
       obtain ⟨s, hs⟩ : ∃ s, us[j]? = some s := ⟨_, List.getElem?_eq_getElem hjl⟩
       obtain ⟨sb, so, rfl, sc⟩ := (HS.out.fr HFJ.out).hr j s hs
       have HT := Lib.hid (Ru.scs_take hs)
       have HTL := Lib.hid (grows_take Ru.scs (fun l x => ⟨_, Ru.scs_snoc l x⟩) us (j + 1))
       have HQ := Lib.hid (ref_quote2 wr s (HSH.out.1 s (List.mem_of_getElem? hs)))
       have hNL : S1.size + ((scSign j).size + (qt s).size) < 1000000000 := by
        have h1 := HTL.out
        have h2 := HDL1.out
        rw [HT.out, List.length_append, nats_length, ByteArray.size_append] at h1
        rw [← nats_length, HSJ.out, List.length_append]
        omega
       have hq8 : S1.size ≤ 1000000000 := by omega
       have hq9 : (qt s).size ≤ 1000000000 := by omega
       clear hs hNL
       by_cases hz : j = 0
       ·have hz2 : ((j : Int) == 0) = true := beq_iff_eq.2 (by omega)
        have HE2 : Hid (nats (S1 ++ ⟨#[32, 115, 99, 111, 112, 101, 32]⟩ ++ qt s) = D1 ++ Ru.scs (us.take (j + 1))) := by
         show _ = _
         rw [HT.out, nats_append, nats_append, HSJ.out, nats_append, scSign, if_pos hz]
         simp only [List.append_assoc]
        subst hz
        clear hz2
        rw [Nat.add_zero] at sc
        go_wp2_with fail
        refine HQ.out.mono ?_
        rintro e V3 ⟨rfl, hF⟩
        have HFJ2 := Lib.hid (HFJ.out.trans0 hF)
        clear hF HQ sc a1 a2
        go_wp2_with fail
        go_roundg (us.length - (0 + 1))
        case measure => have := HMJ.out; omega
        case rel => exact ⟨0 + 1, _, by omega, rfl, by go_num, rfl, HE2.out, HFJ2.out⟩
       ·have hz2 : ((j : Int) == 0) = false := beq_eq_false_iff_ne.2 (by omega)
        have HE2 : Hid (nats (S1 ++ ⟨#[44, 32]⟩ ++ qt s) = D1 ++ Ru.scs (us.take (j + 1))) := by
         show _ = _
         rw [HT.out, nats_append, nats_append, HSJ.out, nats_append, scSign, if_neg hz]
         simp only [List.append_assoc]
        go_wp2_with fail
        refine HQ.out.mono ?_
        rintro e V3 ⟨rfl, hF⟩
        have HFJ2 := Lib.hid (HFJ.out.trans0 hF)
        clear hF HQ sc a1 a2
        go_wp2_with fail
        go_roundg (us.length - (j + 1))
        case measure => have := HMJ.out; omega
        case rel => exact ⟨j + 1, _, by omega, rfl, by go_num, rfl, HE2.out, HFJ2.out⟩
      ·have hjl' : ¬ (j : Int) < (us.length : Int) := by omega
       have hje : j = us.length := by omega
       have HS2 : Hid (nats S1 = D1 ++ Ru.scs us) := by have := HSJ.out; rwa [hje, List.take_length] at this
       have hq8 : S1.size ≤ 1000000000 := by rw [← nats_length, HS2.out, List.length_append]; have := HDL1.out; omega
       clear hje HSJ
       by_cases hw0 : uw.length = 0
       ·have hw1 : ¬ (uw.length : Int) > 0 := by omega
        have HE2 : Hid (nats (S1 ++ ⟨#[59]⟩) = Pol.text (L.take (k + 1))) := by
         show _ = _
         rw [nats_append, HS2.out, HD4.out, List.eq_nil_of_length_eq_zero hw0, Ru.whs]
         simp only [List.append_assoc, List.nil_append]
         rfl
        clear hw0
        go_wp2_with fail
        go_roundg (L.length - (k + 1))
        case measure => have := HM.out; omega
        case rel => exact ⟨k + 1, _, by omega, rfl, rfl, by go_num, HE2.out, HFJ.out⟩
       ·have hu1 : uw.length = 1 := by
         have h1 := HRI.out
         unfold Ru.right at h1
         simp only [Bool.and_eq_true, decide_eq_true_eq] at h1
         omega
        obtain ⟨x, hux⟩ := one_of hu1
        subst hux
        have hri : Ex.right x 1 = true := by
         have h1 := HRI.out
         unfold Ru.right at h1
         rw [Bool.and_eq_true] at h1
         exact Ex.rights_at h1.2 (i := 0) rfl
        obtain ⟨ae, rfl, h5⟩ := (HX.out.fr HFJ.out).hr 0 x rfl
        obtain ⟨u0, u1, u2, u3, u4, hf0, b0, b1, b2, b3, b4⟩ := h5
        rw [Nat.zero_mul, add_zeroT] at b0 b1 b2 b3 b4
        obtain ⟨xo, xs, xn, xq, xk, xc, xp, hf2⟩ := (HX.out.hx 0 x rfl).form
        rw [hf0] at hf2
        simp only [List.cons.injEq, and_true] at hf2
        obtain ⟨rfl, rfl, rfl, rfl, rfl⟩ := hf2
        have hwl : (Ru.whs [x]).length = 6 + (x.text 1).length := by
         rw [Ru.whs, Ru.whs, List.length_append, List.append_nil, nats_length]; rfl
        have hxl : S1.size + 6 + (x.text 1).length < 1000000000 := by rw [← nats_length, HS2.out, List.length_append]; have := HDL1.out; omega
        have HCL : Hid (Calls Tryz.prog 39 #[.agg #[.int .i64 xo, .string xs, .int .i64 xn, .slice xq xk xc, .int .i64 xp], .int .i64 1] wr fun e w' => e = .returned (.string (ba (x.text 1))) ∧ Fr [] wr w') := by
         have h9 := ref_Text (HX.out.hx 0 x rfl) wr 1 1 HFJ.out hri (Ex.shorts_at (i := 0) HSH.out.2 rfl) (by omega)
         rw [hf0] at h9
         exact h9
        obtain ⟨T, hTT⟩ : ∃ T, ba (x.text 1) = T := ⟨_, rfl⟩
        have HNT : Hid (nats T = x.text 1) := by show _ = _; rw [← hTT]; exact nats_ba _ (Ex.text_lt x 1)
        rw [hTT] at HCL
        have hts : T.size ≤ 1000000000 := by rw [← nats_length, HNT.out]; omega
        have HE2 : Hid (nats (S1 ++ ⟨#[32, 119, 104, 101, 110, 32]⟩ ++ T ++ ⟨#[59]⟩) = Pol.text (L.take (k + 1))) := by
         show _ = _
         rw [nats_append, nats_append, nats_append, HS2.out, HNT.out, HD4.out, Ru.whs, Ru.whs]
         simp only [List.append_assoc, List.append_nil]
         rfl
        clear hTT hwl hxl hri hu1 hw0 hf0
        go_wp2_with fail
        refine HCL.out.mono ?_
        rintro e V3 ⟨rfl, hF⟩
        have HFJ2 := Lib.hid (HFJ.out.trans0 hF)
        clear hF HCL a1 a2
        go_wp2_with fail
        go_roundg (L.length - (k + 1))
        case measure => have := HM.out; omega
        case rel => exact ⟨k + 1, _, by omega, rfl, rfl, by go_num, HE2.out, HFJ2.out⟩
    | false =>
     obtain ⟨D1, hD1⟩ : ∃ D1, Pol.text (L.take k) ++ lfOf k ++ nats (⟨#[112, 101, 114, 109, 105, 116]⟩ : ByteArray) = D1 := ⟨_, rfl⟩
     have HD1 : Hid (nats (S ++ ⟨#[10]⟩ ++ ⟨#[112, 101, 114, 109, 105, 116]⟩) = D1) := by
      show _ = _
      rw [← hD1]
      simp only [nats_append, HSN.out, HLF.out, List.append_assoc, List.nil_append]
      first | done | rfl
     have HDL1 : Hid (D1.length + (Ru.scs us).length + (Ru.whs uw).length + 1 < 1000000000) := by have := HTOT.out; show _ < _; rw [← hD1, List.length_append, List.length_append, nats_length]; exact (by have h : (Ru.hd ⟨false, us, uw, up⟩).size = ((⟨#[112, 101, 114, 109, 105, 116]⟩ : ByteArray) : ByteArray).size := rfl; omega)
     have HD4 : Hid (Pol.text (L.take (k + 1)) = D1 ++ (Ru.scs us ++ (Ru.whs uw ++ [59]))) := by show _ = _; rw [HD2.out, ← hD1]; simp only [List.append_assoc]; rfl
     clear hD1 HTOT HD2
     go_wp2_with fail
     go_loopg [3, 5] us.length (fun m s3 s5 W => ∃ (j : Nat) (S : ByteArray), j ≤ us.length ∧ m = us.length - j ∧ s5 = .int .i64 j ∧ s3 = .string S ∧ Hid (nats S = D1 ++ Ru.scs (us.take j)) ∧ Hid (Fr [] w W))
     case atStart => exact ⟨0, _, by omega, by omega, rfl, rfl, by show _ = _; rw [List.take_zero, Ru.scs, List.append_nil]; exact HD1.out, HF.out⟩
     case round =>
      clear a0 a1 a2
      obtain ⟨j, S1, hj, hm, rfl, rfl, HSJ, HFJ⟩ := hrel
      have HMJ := Lib.hid hm
      clear hm
      have a1 := HFJ.out.cells A1.out
      have a2 := HFJ.out.cells A2.out
      by_cases hjl : j < us.length
      ·have hjl' : (j : Int) < (us.length : Int) := by omega
       have hj0 : (0 : Int) ≤ (j : Int) := by omega
       obtain ⟨s, hs⟩ : ∃ s, us[j]? = some s := ⟨_, List.getElem?_eq_getElem hjl⟩
       obtain ⟨sb, so, rfl, sc⟩ := (HS.out.fr HFJ.out).hr j s hs
       have HT := Lib.hid (Ru.scs_take hs)
       have HTL := Lib.hid (grows_take Ru.scs (fun l x => ⟨_, Ru.scs_snoc l x⟩) us (j + 1))
       have HQ := Lib.hid (ref_quote2 wr s (HSH.out.1 s (List.mem_of_getElem? hs)))
       have hNL : S1.size + ((scSign j).size + (qt s).size) < 1000000000 := by
        have h1 := HTL.out
        have h2 := HDL1.out
        rw [HT.out, List.length_append, nats_length, ByteArray.size_append] at h1
        rw [← nats_length, HSJ.out, List.length_append]
        omega
       have hq8 : S1.size ≤ 1000000000 := by omega
       have hq9 : (qt s).size ≤ 1000000000 := by omega
       clear hs hNL
       by_cases hz : j = 0
       ·have hz2 : ((j : Int) == 0) = true := beq_iff_eq.2 (by omega)
        have HE2 : Hid (nats (S1 ++ ⟨#[32, 115, 99, 111, 112, 101, 32]⟩ ++ qt s) = D1 ++ Ru.scs (us.take (j + 1))) := by
         show _ = _
         rw [HT.out, nats_append, nats_append, HSJ.out, nats_append, scSign, if_pos hz]
         simp only [List.append_assoc]
        subst hz
        clear hz2
        rw [Nat.add_zero] at sc
        go_wp2_with fail
        refine HQ.out.mono ?_
        rintro e V3 ⟨rfl, hF⟩
        have HFJ2 := Lib.hid (HFJ.out.trans0 hF)
        clear hF HQ sc a1 a2
        go_wp2_with fail
        go_roundg (us.length - (0 + 1))
        case measure => have := HMJ.out; omega
        case rel => exact ⟨0 + 1, _, by omega, rfl, by go_num, rfl, HE2.out, HFJ2.out⟩
       ·have hz2 : ((j : Int) == 0) = false := beq_eq_false_iff_ne.2 (by omega)
        have HE2 : Hid (nats (S1 ++ ⟨#[44, 32]⟩ ++ qt s) = D1 ++ Ru.scs (us.take (j + 1))) := by
         show _ = _
         rw [HT.out, nats_append, nats_append, HSJ.out, nats_append, scSign, if_neg hz]
         simp only [List.append_assoc]
        go_wp2_with fail
        refine HQ.out.mono ?_
        rintro e V3 ⟨rfl, hF⟩
        have HFJ2 := Lib.hid (HFJ.out.trans0 hF)
        clear hF HQ sc a1 a2
        go_wp2_with fail
        go_roundg (us.length - (j + 1))
        case measure => have := HMJ.out; omega
        case rel => exact ⟨j + 1, _, by omega, rfl, by go_num, rfl, HE2.out, HFJ2.out⟩
      ·have hjl' : ¬ (j : Int) < (us.length : Int) := by omega
       have hje : j = us.length := by omega
       have HS2 : Hid (nats S1 = D1 ++ Ru.scs us) := by have := HSJ.out; rwa [hje, List.take_length] at this
       have hq8 : S1.size ≤ 1000000000 := by rw [← nats_length, HS2.out, List.length_append]; have := HDL1.out; omega
       clear hje HSJ
       by_cases hw0 : uw.length = 0
       ·have hw1 : ¬ (uw.length : Int) > 0 := by omega
        have HE2 : Hid (nats (S1 ++ ⟨#[59]⟩) = Pol.text (L.take (k + 1))) := by
         show _ = _
         rw [nats_append, HS2.out, HD4.out, List.eq_nil_of_length_eq_zero hw0, Ru.whs]
         simp only [List.append_assoc, List.nil_append]
         rfl
        clear hw0
        go_wp2_with fail
        go_roundg (L.length - (k + 1))
        case measure => have := HM.out; omega
        case rel => exact ⟨k + 1, _, by omega, rfl, rfl, by go_num, HE2.out, HFJ.out⟩
       ·have hu1 : uw.length = 1 := by
         have h1 := HRI.out
         unfold Ru.right at h1
         simp only [Bool.and_eq_true, decide_eq_true_eq] at h1
         omega
        obtain ⟨x, hux⟩ := one_of hu1
        subst hux
        have hri : Ex.right x 1 = true := by
         have h1 := HRI.out
         unfold Ru.right at h1
         rw [Bool.and_eq_true] at h1
         exact Ex.rights_at h1.2 (i := 0) rfl
        obtain ⟨ae, rfl, h5⟩ := (HX.out.fr HFJ.out).hr 0 x rfl
        obtain ⟨u0, u1, u2, u3, u4, hf0, b0, b1, b2, b3, b4⟩ := h5
        rw [Nat.zero_mul, add_zeroT] at b0 b1 b2 b3 b4
        obtain ⟨xo, xs, xn, xq, xk, xc, xp, hf2⟩ := (HX.out.hx 0 x rfl).form
        rw [hf0] at hf2
        simp only [List.cons.injEq, and_true] at hf2
        obtain ⟨rfl, rfl, rfl, rfl, rfl⟩ := hf2
        have hwl : (Ru.whs [x]).length = 6 + (x.text 1).length := by
         rw [Ru.whs, Ru.whs, List.length_append, List.append_nil, nats_length]; rfl
        have hxl : S1.size + 6 + (x.text 1).length < 1000000000 := by rw [← nats_length, HS2.out, List.length_append]; have := HDL1.out; omega
        have HCL : Hid (Calls Tryz.prog 39 #[.agg #[.int .i64 xo, .string xs, .int .i64 xn, .slice xq xk xc, .int .i64 xp], .int .i64 1] wr fun e w' => e = .returned (.string (ba (x.text 1))) ∧ Fr [] wr w') := by
         have h9 := ref_Text (HX.out.hx 0 x rfl) wr 1 1 HFJ.out hri (Ex.shorts_at (i := 0) HSH.out.2 rfl) (by omega)
         rw [hf0] at h9
         exact h9
        obtain ⟨T, hTT⟩ : ∃ T, ba (x.text 1) = T := ⟨_, rfl⟩
        have HNT : Hid (nats T = x.text 1) := by show _ = _; rw [← hTT]; exact nats_ba _ (Ex.text_lt x 1)
        rw [hTT] at HCL
        have hts : T.size ≤ 1000000000 := by rw [← nats_length, HNT.out]; omega
        have HE2 : Hid (nats (S1 ++ ⟨#[32, 119, 104, 101, 110, 32]⟩ ++ T ++ ⟨#[59]⟩) = Pol.text (L.take (k + 1))) := by
         show _ = _
         rw [nats_append, nats_append, nats_append, HS2.out, HNT.out, HD4.out, Ru.whs, Ru.whs]
         simp only [List.append_assoc, List.append_nil]
         rfl
        clear hTT hwl hxl hri hu1 hw0 hf0
        go_wp2_with fail
        refine HCL.out.mono ?_
        rintro e V3 ⟨rfl, hF⟩
        have HFJ2 := Lib.hid (HFJ.out.trans0 hF)
        clear hF HCL a1 a2
        go_wp2_with fail
        go_roundg (L.length - (k + 1))
        case measure => have := HM.out; omega
        case rel => exact ⟨k + 1, _, by omega, rfl, rfl, by go_num, HE2.out, HFJ2.out⟩
  ·have hlt' : ¬ (k : Int) < (L.length : Int) := by omega
   have hke : k = L.length := by omega
   have HE : Hid (ba (Pol.text L) = S) := (ba_of (by rw [HSN.out, hke, List.take_length])).symm
   go_wp2_with fail
   refine bodyPost_ret (results_tmp rfl _ _ _) rfl ?_
   rw [HE.out]
   exact ⟨rfl, HF.out⟩
end Go.Proofs.YtgklmpooonnmiaaGreatDoor
