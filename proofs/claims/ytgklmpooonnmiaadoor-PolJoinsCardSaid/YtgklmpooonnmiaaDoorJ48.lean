/-
  Lemmas and contracts that the proofs over this seat use (PolRefSame); no statement of the seat is claimed in this text, and nothing is assumed in it.
-/
import Derived.Test.YtgklmpooonnmiaaDoorJ28
import Derived.Test.YtgklmpooonnmiaaDoorJ47
import Derived.BigQuiet
import Derived.Deep.QuietTactic
set_option linter.unusedVariables false
set_option linter.unusedSimpArgs false
namespace Go.Proofs.YtgklmpooonnmiaaDoor
open Go.RowKit
set_option maxHeartbeats 8000000 in
set_option maxRecDepth 100000 in
theorem ref_Same_false (w : World) (q q' : Option Addr) (c c' : Nat) (f f' : Nat → List Value) (L L' : List Ru) (h : RsA w q c f L) (h' : RsA w q' c' f' L') :
  Calls Tryd.prog 25 #[.slice q L.length c, .slice q' L'.length c', .bool false] w fun e w' => e = .returned (.bool (Ru.sames false L L')) ∧ Fr [] w w' := by
 have HL := Lib.hid h
 have HL' := Lib.hid h'
 have hb : L.length ≤ 9223372036854775807 := by have h1 := h.hc; have h2 := h.hm; unfold maxLen at h2; omega
 have hb' : L'.length ≤ 9223372036854775807 := by have h1 := h'.hc; have h2 := h'.hm; unfold maxLen at h2; omega
 clear h h'
 by_cases hlen : L.length = L'.length
 ·have e1 : ((L.length : Int) != (L'.length : Int)) = false := by simp; omega
  have HLEN := Lib.hid hlen
  clear hlen
  go_enter Tryd.func25, Tryd.ntmps25
  go_wp2_with fail
  go_loopg [7] L.length (fun m s7 W => ∃ k : Nat, k ≤ L.length ∧ m = L.length - k ∧ s7 = .int .i64 k ∧ Hid (Fr [] w W) ∧ Hid (Ru.sames false L L' = Ru.sames false (L.drop k) (L'.drop k)))
  case atStart => exact ⟨0, by omega, by omega, rfl, Fr.refl _ _, rfl⟩
  case round =>
   obtain ⟨k, hk, hm, rfl, HF, HE⟩ := hrel
   have HM := Lib.hid hm
   clear hm
   by_cases hlt : k < L.length
   ·have hlt' : (k : Int) < (L.length : Int) := by omega
    have hlt2 : (k : Int) < (L'.length : Int) := by have := HLEN.out; omega
    have hk0 : (0 : Int) ≤ (k : Int) := by omega
    obtain ⟨x, hx⟩ : ∃ x, L[k]? = some x := ⟨_, List.getElem?_eq_getElem hlt⟩
    obtain ⟨y, hy⟩ : ∃ y, L'[k]? = some y := ⟨_, List.getElem?_eq_getElem (by have := HLEN.out; omega)⟩
    obtain ⟨ad, rfl, h5⟩ := (HL.out.fr HF.out).hr k x hx
    obtain ⟨ad', rfl, h5'⟩ := (HL'.out.fr HF.out).hr k y hy
    have H5 := Lib.hid h5
    have H5' := Lib.hid h5'
    obtain ⟨v0, v1, v2, v3, hf0, a0, a1, a2, a3⟩ := h5
    obtain ⟨u0, u1, u2, u3, hf1, b0, b1, b2, b3⟩ := h5'
    obtain ⟨q1, c1, q2, c2, g, hA⟩ := (HL.out.fr HF.out).hx k x hx
    obtain ⟨q1', c1', q2', c2', g', hA'⟩ := (HL'.out.fr HF.out).hx k y hy
    have hf2 := hA.e
    have hf2' := hA'.e
    have HS := Lib.hid hA.s
    have HS' := Lib.hid hA'.s
    have HX := Lib.hid hA.l
    have HX' := Lib.hid hA'.l
    rw [hf0] at hf2
    rw [hf1] at hf2'
    simp only [List.cons.injEq, and_true] at hf2 hf2'
    obtain ⟨rfl, rfl, rfl, rfl⟩ := hf2
    obtain ⟨rfl, rfl, rfl, rfl⟩ := hf2'
    rw [hf0] at H5
    rw [hf1] at H5'
    have HSD := Lib.hid (Ru.sames_drop (pl := false) hx hy)
    obtain ⟨xd, xs, xw, xp⟩ := x
    obtain ⟨yd, ys, yw, yp⟩ := y
    have HRS : Hid (Ru.same false ⟨xd, xs, xw, xp⟩ ⟨yd, ys, yw, yp⟩ = (xd == yd && (!false || xp == yp) && decide (xs = ys) && Ex.sames false xw yw)) := rfl
    have hs1 : xs.length ≤ 9223372036854775807 := by have h1 := HS.out.hc; have h2 := HS.out.hm; unfold maxLen at h2; simp only [] at h1; omega
    have hs2 : ys.length ≤ 9223372036854775807 := by have h1 := HS'.out.hc; have h2 := HS'.out.hm; unfold maxLen at h2; simp only [] at h1; omega
    have hw1 : xw.length ≤ 9223372036854775807 := by have h1 := HX.out.hc; have h2 := HX.out.hm; unfold maxLen at h2; simp only [] at h1; omega
    have hw2 : yw.length ≤ 9223372036854775807 := by have h1 := HX'.out.hc; have h2 := HX'.out.hm; unfold maxLen at h2; simp only [] at h1; omega
    clear hf0 hf1 hx hy hA hA'
    dsimp only at a0 a1 a2 a3 b0 b1 b2 b3 HS HS' HX HX' H5 H5'
    cases h1 : (xd == yd) with
    | false =>
     have d1 : (xd != yd) = true := by rw [bne, h1]; rfl
     have HEE : Hid (Ru.sames false L L' = false) := by show _ = _; rw [HE.out, HSD.out, HRS.out, h1]; simp
     go_wp2_with fail
     go_quiet (fail)
     refine then_fresh (fun V => Fr [] w V) (HF.out.trans0 ((Fr.refl [] _).drewN _)) ?_
     intro V hV
     go_wp2_with fail
     go_ret
     rw [HEE.out]
     exact ⟨rfl, hV⟩
    | true =>
     have d1 : (xd != yd) = false := by rw [bne, h1]; rfl
     cases h2 : (!false || xp == yp) with
     | false =>
      exact absurd h2 (by simp)
     | true =>
      by_cases h3 : xs.length = ys.length
      ·have h3' : ((xs.length : Int) == (ys.length : Int)) = true := by simp; omega
       have d3 : ((xs.length : Int) != (ys.length : Int)) = false := by simp; omega
       have H3 := Lib.hid h3
       clear h3
       by_cases h4 : xw.length = yw.length
       ·have h4' : ((xw.length : Int) == (yw.length : Int)) = true := by simp; omega
        have d4 : ((xw.length : Int) != (yw.length : Int)) = false := by simp; omega
        have H4 := Lib.hid h4
        have HRS2 : Hid (Ru.same false ⟨xd, xs, xw, xp⟩ ⟨yd, ys, yw, yp⟩ = (decide (xs = ys) && Ex.sames false xw yw)) := by show _ = _; rw [HRS.out, h1, h2]; simp
        clear h4
        have h2' : True := trivial; have d2 : True := trivial
        go_wp2_with fail
        go_quiet (fail)
        refine then_fresh (fun V => Fr [] wr V) ((Fr.refl [] _).drewN _) ?_
        intro V hV
        have HV := Lib.hid hV
        clear hV a0 a1 a2 a3 b0 b1 b2 b3
        clear d1 d2 d3 d4 h1 h2 h2' h3' h4'
        go_wp2_with fail
        have HFO := Lib.hid HF.out
        obtain ⟨wo, hwo⟩ : ∃ wo, wr = wo := ⟨_, rfl⟩
        rw [hwo] at HFO HF H5 H5' HS HS' HX HX' HV
        clear hwo
        go_loopg [8] xs.length (fun m s8 W => ∃ j : Nat, j ≤ xs.length ∧ m = xs.length - j ∧ s8 = .int .i64 j ∧ Hid (Fr [] wo W) ∧ Hid (xs.take j = ys.take j))
        case atStart => exact ⟨0, by omega, by omega, rfl, HV.out, rfl⟩
        case round =>
         clear HV
         obtain ⟨j, hj, hm, rfl, HG, HT⟩ := hrel
         have HMJ := Lib.hid hm
         clear hm
         obtain ⟨w0, w1, w2, w3, hw, a0, a1, a2, a3⟩ := H5.out.fr HG.out
         obtain ⟨z0, z1, z2, z3, hz, b0, b1, b2, b3⟩ := H5'.out.fr HG.out
         simp only [List.cons.injEq, and_true] at hw hz
         obtain ⟨rfl, rfl, rfl, rfl⟩ := hw
         obtain ⟨rfl, rfl, rfl, rfl⟩ := hz
         by_cases hjl : j < xs.length
         ·have hjl' : (j : Int) < (xs.length : Int) := by omega
          have hjl2 : (j : Int) < (ys.length : Int) := by have := H3.out; omega
          have hj0 : (0 : Int) ≤ (j : Int) := by omega
          obtain ⟨s, hs⟩ : ∃ s, xs[j]? = some s := ⟨_, List.getElem?_eq_getElem hjl⟩
          obtain ⟨t, ht⟩ : ∃ t, ys[j]? = some t := ⟨_, List.getElem?_eq_getElem (by have := H3.out; omega)⟩
          obtain ⟨sb, so, rfl, sc⟩ := (HS.out.fr HG.out).hr j s hs
          obtain ⟨tb, tq, rfl, tc⟩ := (HS'.out.fr HG.out).hr j t ht
          by_cases hst : s = t
          ·subst hst
           have HT2 : Hid (xs.take (j + 1) = ys.take (j + 1)) := by show _ = _; rw [List.take_add_one, List.take_add_one, HT.out, hs, ht]
           clear hs ht
           go_wp2_with fail
           go_quiet (fail)
           refine then_fresh (fun V => Fr [] wo V) (HG.out.trans0 ((Fr.refl [] _).drewN _)) ?_
           intro V hV
           have HV := Lib.hid hV
           clear hV a0 a1 a2 a3 b0 b1 b2 b3 sc tc
           go_wp2_with fail
           go_roundg (xs.length - (j + 1))
           case measure => have := HMJ.out; omega
           case rel => exact ⟨j + 1, by omega, rfl, by go_num, HV.out, HT2.out⟩
          ·have hst' : (s.toList == t.toList) = false := by
            rw [beq_eq_false_iff_ne]; intro h; exact hst (nats_inj.1 (by have := h; rw [ByteArray.toList_eq, ByteArray.toList_eq] at this; unfold nats; rw [this]))
           have hst2 : (s.toList != t.toList) = true := by rw [bne, hst']; rfl
           have hne : xs ≠ ys := fun h => by rw [h, ht] at hs; exact hst (Option.some.inj hs).symm
           have HEE : Hid (Ru.sames false L L' = false) := by show _ = _; rw [HE.out, HSD.out, HRS2.out, decide_eq_false hne]; simp
           clear hs ht hne hst
           go_wp2_with fail
           go_quiet (fail)
           refine then_fresh (fun V => Fr [] wo V) (HG.out.trans0 ((Fr.refl [] _).drewN _)) ?_
           intro V hV
           have HV := Lib.hid hV
           clear hV
           go_wp2_with fail
           go_ret
           rw [HEE.out]
           exact ⟨rfl, HFO.out.trans0 HV.out⟩
         ·have hxy : xs = ys := by
           have h9 := HT.out
           rw [List.take_of_length_le (by omega), List.take_of_length_le (by have := H3.out; omega)] at h9
           exact h9
          have HRS3 : Hid (Ru.same false ⟨xd, xs, xw, xp⟩ ⟨yd, ys, yw, yp⟩ = Ex.sames false xw yw) := by show _ = _; rw [HRS2.out, decide_eq_true hxy]; simp
          clear hxy
          have hjn : ¬ (j : Int) < (xs.length : Int) := by omega
          go_wp2_with fail
          clear a0 a1 a2 a3 b0 b1 b2 b3
          have HG0 := Lib.hid HG.out
          go_loopg [9] xw.length (fun m s9 W => ∃ i : Nat, i ≤ xw.length ∧ m = xw.length - i ∧ s9 = .int .i64 i ∧ Hid (Fr [] wo W) ∧ Hid (Ex.sames false xw yw = Ex.sames false (xw.drop i) (yw.drop i)))
          case atStart => exact ⟨0, by omega, by omega, rfl, HG0.out, rfl⟩
          case round =>
           clear HG0 HG HT HMJ
           obtain ⟨i, hi, hm, rfl, HG, HD⟩ := hrel
           have HMI := Lib.hid hm
           clear hm
           obtain ⟨w0, w1, w2, w3, hw, a0, a1, a2, a3⟩ := H5.out.fr HG.out
           obtain ⟨z0, z1, z2, z3, hz, b0, b1, b2, b3⟩ := H5'.out.fr HG.out
           simp only [List.cons.injEq, and_true] at hw hz
           obtain ⟨rfl, rfl, rfl, rfl⟩ := hw
           obtain ⟨rfl, rfl, rfl, rfl⟩ := hz
           by_cases hil : i < xw.length
           ·have hil' : (i : Int) < (xw.length : Int) := by omega
            have hil2 : (i : Int) < (yw.length : Int) := by have := H4.out; omega
            have hi0 : (0 : Int) ≤ (i : Int) := by omega
            obtain ⟨s, hs⟩ : ∃ s, xw[i]? = some s := ⟨_, List.getElem?_eq_getElem hil⟩
            obtain ⟨t, ht⟩ : ∃ t, yw[i]? = some t := ⟨_, List.getElem?_eq_getElem (by have := H4.out; omega)⟩
            have hLA := HX.out.fr HG.out
            have hLB := HX'.out.fr HG.out
            obtain ⟨sd, rfl, h5⟩ := hLA.hr i s hs
            obtain ⟨td, rfl, h6⟩ := hLB.hr i t ht
            have hRA := hLA.hx i s hs
            have hRB := hLB.hx i t ht
            obtain ⟨xo, xs1, xn, xq, xk, xc, xp1, hf2⟩ := hRA.form
            obtain ⟨yo, ys1, yn, yq, yk, yc, yp1, hf3⟩ := hRB.form
            have HCL : Hid (∀ W, Fr [] wr W → Calls Tryd.prog 53 #[.agg #[.int .i64 xo, .string xs1, .int .i64 xn, .slice xq xk xc, .int .i64 xp1], .agg #[.int .i64 yo, .string ys1, .int .i64 yn, .slice yq yk yc, .int .i64 yp1], .bool false] W fun e w' => e = .returned (.bool (Ex.same false s t)) ∧ Fr [] W w') := fun W hW => by
             have h9 := ref_same (pl := false) hRA W _ _ hW (hRB.fr hW)
             rw [hf2, hf3] at h9
             exact h9
            rw [hf2] at h5
            rw [hf3] at h6
            obtain ⟨e0, e1', e2, e3, e4, he, c0, c1', c2', c3, c4⟩ := h5
            obtain ⟨f0, f1, f2, f3, f4, hfe, d0, d1', d2', d3', d4'⟩ := h6
            simp only [List.cons.injEq, and_true] at he hfe
            obtain ⟨rfl, rfl, rfl, rfl, rfl⟩ := he
            obtain ⟨rfl, rfl, rfl, rfl, rfl⟩ := hfe
            have HSI := Lib.hid (Ex.sames_drop (pl := false) hs ht)
            obtain ⟨z, hz⟩ : ∃ z, Ex.same false s t = z := ⟨_, rfl⟩
            rw [hz] at HCL HSI
            clear hs ht hLA hLB hRA hRB hf2 hf3 hz
            go_wp2_with fail
            go_still_tail 17, (by kernel_rfl)
            go_wp2_with fail
            refine (HCL.out _ (Fr.refl [] _).drew).mono ?_
            rintro e w9 ⟨rfl, hF2⟩
            have HF2 := Lib.hid (HG.out.drew.trans0 hF2)
            clear hF2 HCL
            cases z
            ·have HEE : Hid (Ru.sames false L L' = false) := by show _ = _; rw [HE.out, HSD.out, HRS3.out, HD.out, HSI.out]; simp
             go_wp2_with fail
             go_ret
             rw [HEE.out]
             exact ⟨rfl, HFO.out.trans0 HF2.out⟩
            ·have HDD : Hid (Ex.sames false xw yw = Ex.sames false (xw.drop (i + 1)) (yw.drop (i + 1))) := by show _ = _; rw [HD.out, HSI.out, Bool.true_and]
             go_wp2_with fail
             go_roundg (xw.length - (i + 1))
             case measure => have := HMI.out; omega
             case rel => exact ⟨i + 1, by omega, rfl, by go_num, HF2.out, HDD.out⟩
           ·have HDD : Hid (Ex.sames false xw yw = true) := by show _ = _; rw [HD.out]; exact Ex.sames_end (by omega) (by have := H4.out; omega)
            have HEE : Hid (Ru.sames false L L' = Ru.sames false (L.drop (k + 1)) (L'.drop (k + 1))) := by show _ = _; rw [HE.out, HSD.out, HRS3.out, HDD.out, Bool.true_and]
            have HFF := Lib.hid (HFO.out.trans0 HG.out)
            have hin : ¬ (i : Int) < (xw.length : Int) := by omega
            go_wp2_with fail
            go_roundg (L.length - (k + 1))
            case measure => have := HM.out; omega
            case rel => exact ⟨k + 1, by omega, rfl, by go_num, HFF.out, HEE.out⟩
       ·have h4' : ((xw.length : Int) == (yw.length : Int)) = false := by simp; omega
        have d4 : ((xw.length : Int) != (yw.length : Int)) = true := by simp; omega
        have HEE : Hid (Ru.sames false L L' = false) := by show _ = _; rw [HE.out, HSD.out, HRS.out, Ex.sames_len h4]; simp
        clear h4
        have h2' : True := trivial; have d2 : True := trivial
        go_wp2_with fail
        go_quiet (fail)
        refine then_fresh (fun V => Fr [] w V) (HF.out.trans0 ((Fr.refl [] _).drewN _)) ?_
        intro V hV
        go_wp2_with fail
        go_ret
        rw [HEE.out]
        exact ⟨rfl, hV⟩
      ·have h3' : ((xs.length : Int) == (ys.length : Int)) = false := by simp; omega
       have d3 : ((xs.length : Int) != (ys.length : Int)) = true := by simp; omega
       have hnx : xs ≠ ys := fun h => h3 (by rw [h])
       have HEE : Hid (Ru.sames false L L' = false) := by show _ = _; rw [HE.out, HSD.out, HRS.out, decide_eq_false hnx]; simp
       clear h3 hnx
       have h2' : True := trivial; have d2 : True := trivial
       go_wp2_with fail
       go_quiet (fail)
       refine then_fresh (fun V => Fr [] w V) (HF.out.trans0 ((Fr.refl [] _).drewN _)) ?_
       intro V hV
       go_wp2_with fail
       go_ret
       rw [HEE.out]
       exact ⟨rfl, hV⟩
   ·have HEE : Hid (Ru.sames false L L' = true) := by show _ = _; rw [HE.out]; exact Ru.sames_end (by omega) (by have := HLEN.out; omega)
    go_wp2_with fail
    go_ret
    rw [HEE.out]
    exact ⟨rfl, HF.out⟩
 ·have e1 : ((L.length : Int) != (L'.length : Int)) = true := by simp; omega
  have HE := Lib.hid (Ru.sames_len (pl := false) hlen)
  clear hlen
  go_enter Tryd.func25, Tryd.ntmps25
  go_wp2_with fail
  go_ret
  rw [HE.out]
  exact ⟨rfl, Fr.refl _ _⟩
end Go.Proofs.YtgklmpooonnmiaaDoor
