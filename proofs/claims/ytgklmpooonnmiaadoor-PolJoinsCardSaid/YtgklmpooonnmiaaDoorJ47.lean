/-
  Lemmas and contracts that the proofs over this seat use (PolAlive, PolSameX); no statement of the seat is claimed in this text, and nothing is assumed in it.
-/
import Derived.Test.YtgklmpooonnmiaaDoorJ46
import Derived.Test.YtgklmpooonnmiaaDoorJ31
import Derived.Test.YtgklmpooonnmiaaDoorJ32
import Derived.Test.YtgklmpooonnmiaaDoorJ28
import Derived.Test.YtgklmpooonnmiaaDoorJ20
import Derived.StillTailTactics
set_option linter.unusedVariables false
set_option linter.unusedSimpArgs false
namespace Go.Proofs.YtgklmpooonnmiaaDoor
open Go.RowKit
def cPol : ByteArray := ⟨#[112, 101, 114, 109, 105, 116, 32, 115, 99, 111, 112, 101, 32, 34, 114, 101, 97, 100, 34, 32, 119, 104, 101, 110, 32, 99, 108, 97, 105, 109, 40, 34, 97, 103, 101, 34, 41, 32, 62, 61, 32, 49, 56, 32, 97, 110, 100, 32, 110, 111, 116, 32, 115, 117, 98, 106, 101, 99, 116, 32, 61, 32, 111, 119, 110, 101, 114, 59]⟩
def xPol : Ex := .mk 7 ⟨#[]⟩ 0 [.mk 12 ⟨#[]⟩ 0 [.mk 2 ⟨#[]⟩ 18 [] 41, .mk 5 ⟨#[97, 103, 101]⟩ 0 [] 25] 38, .mk 6 ⟨#[]⟩ 0 [.mk 9 ⟨#[]⟩ 0 [.mk 4 ⟨#[115, 117, 98, 106, 101, 99, 116]⟩ 0 [] 52, .mk 4 ⟨#[111, 119, 110, 101, 114]⟩ 0 [] 62] 60] 48] 44
def rPol : Ru := ⟨false, [⟨#[114, 101, 97, 100]⟩], [xPol], 0⟩
def tPol : List Nat := [112, 101, 114, 109, 105, 116, 32, 115, 99, 111, 112, 101, 32, 34, 114, 101, 97, 100, 34, 32, 119, 104, 101, 110, 32, 49, 56, 32, 60, 61, 32, 99, 108, 97, 105, 109, 40, 34, 97, 103, 101, 34, 41, 32, 97, 110, 100, 32, 110, 111, 116, 32, 115, 117, 98, 106, 101, 99, 116, 32, 61, 32, 111, 119, 110, 101, 114, 59]
set_option maxRecDepth 100000 in
theorem alive_parse : Pol.parse cPol = (.ok, [rPol]) := by kernel_rfl
set_option maxRecDepth 100000 in
theorem alive_right : Ru.rights [rPol] = true := by kernel_rfl
set_option maxRecDepth 100000 in
theorem alive_text : Pol.text [rPol] = tPol := by kernel_rfl
theorem add_zero (ad : Addr) : ad.add 0 = ad := by unfold Addr.add; split <;> simp_all
set_option maxHeartbeats 4000000 in
set_option maxRecDepth 100000 in
theorem pol_alive (w : World) (hL : Least w) :
  Calls Tryd.prog 21 #[] w fun e w' => e = .returned (.bool true) ∧ Fr [] w w' := by
 have hp := pol_parse w cPol (by decide) hL
 rw [alive_parse] at hp
 have HP := Lib.hid hp
 have HL := Lib.hid hL
 clear hp hL
 go_enter Tryd.func21, Tryd.ntmps21
 go_wp2_with fail
 refine HP.out.mono ?_
 rintro e w1 ⟨v, ev, rfl, hv, rfl, hF⟩
 obtain ⟨q, c, f, rfl, hR⟩ := RsRep.ra hv
 have HR := Lib.hid hR
 have HF := Lib.hid hF
 have HC := Lib.hid (pol_Print_yes w1 q c f [rPol] hR (fun u hu => by
  rw [List.mem_singleton] at hu
  subst hu
  refine ⟨fun s hs => ?_, ?_⟩
  ·simp only [rPol, List.mem_singleton] at hs
   subst hs
   decide
  ·simp only [rPol, xPol, Ex.shorts, Ex.short, and_true]
   decide) (HL.out.fr hF (by simp)) alive_right (by rw [alive_text]; decide))
 rw [alive_text] at HC
 obtain ⟨ad, rfl, h4⟩ := hR.hr 0 rPol rfl
 obtain ⟨q1, c1, q2, c2, g, hA⟩ := hR.hx 0 rPol rfl
 obtain ⟨v0, v1, v2, v3, hf0, a0, a1, a2, a3⟩ := h4
 have hf2 := hA.e
 rw [hf0] at hf2
 simp only [List.cons.injEq, and_true] at hf2
 obtain ⟨rfl, rfl, rfl, rfl⟩ := hf2
 obtain ⟨ae, rfl, h5⟩ := hA.l.hr 0 xPol rfl
 obtain ⟨u0, u1, u2, u3, u4, hg0, b0, b1, b2, b3, b4⟩ := h5
 have hrep := hA.l.hx 0 xPol rfl
 rw [hg0] at hrep
 have hu0 : u0 = .int .i64 7 := by
  unfold xPol at hrep
  cases hrep
  rfl
 subst hu0
 rw [show (0 : Nat) * 4 = 0 from rfl, add_zero] at a0 a1 a2 a3
 rw [show (0 : Nat) * 5 = 0 from rfl, add_zero] at b0
 have A2 : Hid (w1.cell? ⟨ad.block, ad.off + 2, none⟩ = some (.slice (some ae) 1 c2)) := a2
 have B0 := Lib.hid b0
 clear hv hR hF hf0 hA hg0 hrep a0 a1 a2 a3 b0 b1 b2 b3 b4 HP
 go_wp2_with fail
 refine HC.out.mono ?_
 rintro e w2 ⟨rfl, hF2⟩
 have c2 := hF2.cells A2.out
 have d0 := hF2.cells B0.out
 have HF2 := Lib.hid (HF.out.trans0 hF2)
 clear hF2 HC
 go_wp2_with fail
 refine bodyPost_ret (results_tmp rfl _ _ _) rfl ?_
 refine ⟨?_, HF2.out⟩
 kernel_rfl
end Go.Proofs.YtgklmpooonnmiaaDoor

namespace Go.Proofs.YtgklmpooonnmiaaDoor
open Go.RowKit
theorem Ex.same_mk (pl : Bool) (op : Int) (s : ByteArray) (n : Int) (L : List Ex) (p op' : Int) (s' : ByteArray) (n' : Int) (L' : List Ex) (p' : Int) :
  Ex.same pl (.mk op s n L p) (.mk op' s' n' L' p') = (op == op' && (s.toList == s'.toList) && n == n' && (!pl || p == p') && Ex.sames pl L L') := by rw [Ex.same]
set_option maxHeartbeats 4000000 in
set_option maxRecDepth 100000 in
theorem ref_same_step (w : World) (pl : Bool) (op : Int) (s : ByteArray) (n : Int) (L : List Ex) (p : Int) (q : Option Addr) (c : Nat) (f : Nat → List Value) (op' : Int) (s' : ByteArray) (n' : Int) (L' : List Ex) (p' : Int) (q' : Option Addr) (c' : Nat) (f' : Nat → List Value)
  (h : LA w q c f L) (h' : LA w q' c' f' L')
  (hS : ∀ (W : World) (i : Nat) (x y : Ex), Fr [] w W → L[i]? = some x → L'[i]? = some y → Calls Tryd.prog 53 #[.agg (f i).toArray, .agg (f' i).toArray, .bool pl] W fun e w' => e = .returned (.bool (Ex.same pl x y)) ∧ Fr [] W w') :
  Calls Tryd.prog 53 #[.agg #[.int .i64 op, .string s, .int .i64 n, .slice q L.length c, .int .i64 p], .agg #[.int .i64 op', .string s', .int .i64 n', .slice q' L'.length c', .int .i64 p'], .bool pl] w fun e w' => e = .returned (.bool (Ex.same pl (.mk op s n L p) (.mk op' s' n' L' p'))) ∧ Fr [] w w' := by
 have HR := Lib.hid (Ex.same_mk pl op s n L p op' s' n' L' p')
 have HL := Lib.hid h
 have HL' := Lib.hid h'
 have HS := Lib.hid hS
 have hb : L.length ≤ 9223372036854775807 := by have h1 := h.hc; have h2 := h.hm; unfold maxLen at h2; omega
 have hb' : L'.length ≤ 9223372036854775807 := by have h1 := h'.hc; have h2 := h'.hm; unfold maxLen at h2; omega
 clear h h' hS
 cases h1 : (op == op') with
 | false =>
  have d1 : (op != op') = true := by rw [bne, h1]; rfl
  rw [h1] at HR
  clear h1
  go_enter Tryd.func53, Tryd.ntmps53
  go_wp2_with fail
  go_ret
  rw [HR.out]
  exact ⟨by simp, ((Fr.refl _ _).alloc _).alloc _⟩
 | true =>
  have d1 : (op != op') = false := by rw [bne, h1]; rfl
  cases h2 : (s.toList == s'.toList) with
  | false =>
   have d2 : (s.toList != s'.toList) = true := by rw [bne, h2]; rfl
   rw [h1, h2] at HR
   clear h1
   go_enter Tryd.func53, Tryd.ntmps53
   go_wp2_with fail
   go_ret
   rw [HR.out]
   exact ⟨by simp, ((Fr.refl _ _).alloc _).alloc _⟩
  | true =>
   have d2 : (s.toList != s'.toList) = false := by rw [bne, h2]; rfl
   cases h3 : (n == n') with
   | false =>
    have d3 : (n != n') = true := by rw [bne, h3]; rfl
    rw [h1, h2, h3] at HR
    clear h1 h3
    go_enter Tryd.func53, Tryd.ntmps53
    go_wp2_with fail
    go_ret
    rw [HR.out]
    exact ⟨by simp, ((Fr.refl _ _).alloc _).alloc _⟩
   | true =>
    have d3 : (n != n') = false := by rw [bne, h3]; rfl
    cases h4 : (!pl || p == p') with
    | false =>
     obtain rfl : pl = true := by cases pl with | true => rfl | false => simp at h4
     have h4' : (p == p') = false := by simpa using h4
     have d4 : (p != p') = true := by rw [bne, h4']; rfl
     rw [h1, h2, h3, h4] at HR
     clear h1 h3 h4 h4'
     go_enter Tryd.func53, Tryd.ntmps53
     go_wp2_with fail
     go_ret
     rw [HR.out]
     exact ⟨by simp, ((Fr.refl _ _).alloc _).alloc _⟩
    | true =>
     rw [h1, h2, h3, h4] at HR
     by_cases h5 : L.length = L'.length
     ·have d5 : ((L.length : Int) != (L'.length : Int)) = false := by simp; omega
      have HLEN := Lib.hid h5
      have HR2 : Hid (Ex.same pl (.mk op s n L p) (.mk op' s' n' L' p') = Ex.sames pl L L') := by show _ = _; rw [HR.out]; simp
      clear HR
      cases pl
      ·clear h1 h3 h4 h5
       have HAL := Lib.hid (alloc2 w (.cells #[.int .i64 op, .string s, .int .i64 n, .slice q L.length c, .int .i64 p] 80) (.cells #[.int .i64 op', .string s', .int .i64 n', .slice q' L'.length c', .int .i64 p'] 80))
       go_enter Tryd.func53, Tryd.ntmps53
       go_wp2_with fail
       go_loopg [7] L.length (fun m s7 W => ∃ k : Nat, k ≤ L.length ∧ m = L.length - k ∧ s7 = .int .i64 k ∧ Hid (Fr [] w W) ∧ Hid (Ex.sames false L L' = Ex.sames false (L.drop k) (L'.drop k)) ∧ Hid (W.heap[w.heap.size]? = some (.cells #[.int .i64 op, .string s, .int .i64 n, .slice q L.length c, .int .i64 p] 80 (0, 0))) ∧ Hid (W.heap[w.heap.size + 1]? = some (.cells #[.int .i64 op', .string s', .int .i64 n', .slice q' L'.length c', .int .i64 p'] 80 (0, 0))))
       case atStart => exact ⟨0, by omega, by omega, rfl, ((Fr.refl [] w).alloc _).alloc _, rfl, HAL.out.1, HAL.out.2⟩
       case round =>
        obtain ⟨k, hk, hm, rfl, HF, HE, HB1, HB2⟩ := hrel
        have HM := Lib.hid hm
        clear hm d1 d2 d3 d5 HAL
        have z3 : wr.cell? ⟨w.heap.size, 3, none⟩ = some (.slice q L.length c) := by rw [Lib.cell_of_heap HB1.out]; rfl
        have z4 : wr.cell? ⟨w.heap.size + 1, 3, none⟩ = some (.slice q' L'.length c') := by rw [Lib.cell_of_heap HB2.out]; rfl
        by_cases hlt : k < L.length
        ·have hlt' : (k : Int) < (L.length : Int) := by omega
         have hlt2 : (k : Int) < (L'.length : Int) := by have := HLEN.out; omega
         have hk0 : (0 : Int) ≤ (k : Int) := by omega
         obtain ⟨x, hx⟩ : ∃ x, L[k]? = some x := ⟨_, List.getElem?_eq_getElem hlt⟩
         obtain ⟨y, hy⟩ : ∃ y, L'[k]? = some y := ⟨_, List.getElem?_eq_getElem (by have := HLEN.out; omega)⟩
         obtain ⟨ad, rfl, h5⟩ := (HL.out.fr HF.out).hr k x hx
         obtain ⟨ad', rfl, h5'⟩ := (HL'.out.fr HF.out).hr k y hy
         obtain ⟨v0, v1, v2, v3, v4, hf0, a0, a1, a2, a3, a4⟩ := h5
         obtain ⟨u0, u1, u2, u3, u4, hf1, b0, b1, b2, b3, b4⟩ := h5'
         obtain ⟨xo, xs, xn, xq, xk, xc, xp, hf2⟩ := (HL.out.hx k x hx).form
         obtain ⟨yo, ys, yn, yq, yk, yc, yp, hf2'⟩ := (HL'.out.hx k y hy).form
         rw [hf0] at hf2
         rw [hf1] at hf2'
         simp only [List.cons.injEq, and_true] at hf2 hf2'
         obtain ⟨rfl, rfl, rfl, rfl, rfl⟩ := hf2
         obtain ⟨rfl, rfl, rfl, rfl, rfl⟩ := hf2'
         have HCL : Hid (∀ W, Fr [] w W → Calls Tryd.prog 53 #[.agg #[.int .i64 xo, .string xs, .int .i64 xn, .slice xq xk xc, .int .i64 xp], .agg #[.int .i64 yo, .string ys, .int .i64 yn, .slice yq yk yc, .int .i64 yp], .bool false] W fun e w' => e = .returned (.bool (Ex.same false x y)) ∧ Fr [] W w') := fun W hW => by
          have h9 := HS.out W k x y hW hx hy
          rw [hf0, hf1] at h9
          exact h9
         have HSD := Lib.hid (Ex.sames_drop (pl := false) hx hy)
         obtain ⟨z, hz⟩ : ∃ z, Ex.same false x y = z := ⟨_, rfl⟩
         rw [hz] at HCL HSD
         have hbl := World.block_lt_of_cell? wr _ b0
         have hal := World.block_lt_of_cell? wr _ a0
         clear hf0 hf1 hx hy hz
         go_wp2_with fail
         go_still_tail 11, (by kernel_rfl)
         go_wp2_with fail
         refine (HCL.out _ HF.out.drew).mono ?_
         rintro e w2 ⟨rfl, hF2⟩
         have HF2 := Lib.hid (HF.out.drew.trans0 hF2)
         have HB1' := Lib.hid (hF2.row HB1.out (by simp))
         have HB2' := Lib.hid (hF2.row HB2.out (by simp))
         clear hF2 HCL
         cases z
         ·have HEE : Hid (Ex.sames false L L' = false) := by show _ = _; rw [HE.out, HSD.out, Bool.false_and]
          go_wp2_with fail
          go_ret
          rw [HR2.out, HEE.out]
          exact ⟨rfl, HF2.out⟩
         ·have HEE : Hid (Ex.sames false L L' = Ex.sames false (L.drop (k + 1)) (L'.drop (k + 1))) := by show _ = _; rw [HE.out, HSD.out, Bool.true_and]
          go_wp2_with fail
          go_roundg (L.length - (k + 1))
          case measure => have := HM.out; omega
          case rel => exact ⟨k + 1, by omega, rfl, by go_num, HF2.out, HEE.out, HB1'.out, HB2'.out⟩
        ·have HEE : Hid (Ex.sames false L L' = true) := by show _ = _; rw [HE.out]; exact Ex.sames_end (by omega) (by have := HLEN.out; omega)
         go_wp2_with fail
         go_ret
         rw [HR2.out, HEE.out]
         exact ⟨rfl, HF.out⟩
      ·have h4' : (p == p') = true := by simpa using h4
       have d4 : (p != p') = false := by rw [bne, h4']; rfl
       clear h1 h3 h4 h4' h5
       have HAL := Lib.hid (alloc2 w (.cells #[.int .i64 op, .string s, .int .i64 n, .slice q L.length c, .int .i64 p] 80) (.cells #[.int .i64 op', .string s', .int .i64 n', .slice q' L'.length c', .int .i64 p'] 80))
       go_enter Tryd.func53, Tryd.ntmps53
       go_wp2_with fail
       go_loopg [7] L.length (fun m s7 W => ∃ k : Nat, k ≤ L.length ∧ m = L.length - k ∧ s7 = .int .i64 k ∧ Hid (Fr [] w W) ∧ Hid (Ex.sames true L L' = Ex.sames true (L.drop k) (L'.drop k)) ∧ Hid (W.heap[w.heap.size]? = some (.cells #[.int .i64 op, .string s, .int .i64 n, .slice q L.length c, .int .i64 p] 80 (0, 0))) ∧ Hid (W.heap[w.heap.size + 1]? = some (.cells #[.int .i64 op', .string s', .int .i64 n', .slice q' L'.length c', .int .i64 p'] 80 (0, 0))))
       case atStart => exact ⟨0, by omega, by omega, rfl, ((Fr.refl [] w).alloc _).alloc _, rfl, HAL.out.1, HAL.out.2⟩
       case round =>
        obtain ⟨k, hk, hm, rfl, HF, HE, HB1, HB2⟩ := hrel
        have HM := Lib.hid hm
        clear hm d1 d2 d3 d5 HAL
        have z3 : wr.cell? ⟨w.heap.size, 3, none⟩ = some (.slice q L.length c) := by rw [Lib.cell_of_heap HB1.out]; rfl
        have z4 : wr.cell? ⟨w.heap.size + 1, 3, none⟩ = some (.slice q' L'.length c') := by rw [Lib.cell_of_heap HB2.out]; rfl
        by_cases hlt : k < L.length
        ·have hlt' : (k : Int) < (L.length : Int) := by omega
         have hlt2 : (k : Int) < (L'.length : Int) := by have := HLEN.out; omega
         have hk0 : (0 : Int) ≤ (k : Int) := by omega
         obtain ⟨x, hx⟩ : ∃ x, L[k]? = some x := ⟨_, List.getElem?_eq_getElem hlt⟩
         obtain ⟨y, hy⟩ : ∃ y, L'[k]? = some y := ⟨_, List.getElem?_eq_getElem (by have := HLEN.out; omega)⟩
         obtain ⟨ad, rfl, h5⟩ := (HL.out.fr HF.out).hr k x hx
         obtain ⟨ad', rfl, h5'⟩ := (HL'.out.fr HF.out).hr k y hy
         obtain ⟨v0, v1, v2, v3, v4, hf0, a0, a1, a2, a3, a4⟩ := h5
         obtain ⟨u0, u1, u2, u3, u4, hf1, b0, b1, b2, b3, b4⟩ := h5'
         obtain ⟨xo, xs, xn, xq, xk, xc, xp, hf2⟩ := (HL.out.hx k x hx).form
         obtain ⟨yo, ys, yn, yq, yk, yc, yp, hf2'⟩ := (HL'.out.hx k y hy).form
         rw [hf0] at hf2
         rw [hf1] at hf2'
         simp only [List.cons.injEq, and_true] at hf2 hf2'
         obtain ⟨rfl, rfl, rfl, rfl, rfl⟩ := hf2
         obtain ⟨rfl, rfl, rfl, rfl, rfl⟩ := hf2'
         have HCL : Hid (∀ W, Fr [] w W → Calls Tryd.prog 53 #[.agg #[.int .i64 xo, .string xs, .int .i64 xn, .slice xq xk xc, .int .i64 xp], .agg #[.int .i64 yo, .string ys, .int .i64 yn, .slice yq yk yc, .int .i64 yp], .bool true] W fun e w' => e = .returned (.bool (Ex.same true x y)) ∧ Fr [] W w') := fun W hW => by
          have h9 := HS.out W k x y hW hx hy
          rw [hf0, hf1] at h9
          exact h9
         have HSD := Lib.hid (Ex.sames_drop (pl := true) hx hy)
         obtain ⟨z, hz⟩ : ∃ z, Ex.same true x y = z := ⟨_, rfl⟩
         rw [hz] at HCL HSD
         have hbl := World.block_lt_of_cell? wr _ b0
         have hal := World.block_lt_of_cell? wr _ a0
         clear hf0 hf1 hx hy hz
         go_wp2_with fail
         go_still_tail 11, (by kernel_rfl)
         go_wp2_with fail
         refine (HCL.out _ HF.out.drew).mono ?_
         rintro e w2 ⟨rfl, hF2⟩
         have HF2 := Lib.hid (HF.out.drew.trans0 hF2)
         have HB1' := Lib.hid (hF2.row HB1.out (by simp))
         have HB2' := Lib.hid (hF2.row HB2.out (by simp))
         clear hF2 HCL
         cases z
         ·have HEE : Hid (Ex.sames true L L' = false) := by show _ = _; rw [HE.out, HSD.out, Bool.false_and]
          go_wp2_with fail
          go_ret
          rw [HR2.out, HEE.out]
          exact ⟨rfl, HF2.out⟩
         ·have HEE : Hid (Ex.sames true L L' = Ex.sames true (L.drop (k + 1)) (L'.drop (k + 1))) := by show _ = _; rw [HE.out, HSD.out, Bool.true_and]
          go_wp2_with fail
          go_roundg (L.length - (k + 1))
          case measure => have := HM.out; omega
          case rel => exact ⟨k + 1, by omega, rfl, by go_num, HF2.out, HEE.out, HB1'.out, HB2'.out⟩
        ·have HEE : Hid (Ex.sames true L L' = true) := by show _ = _; rw [HE.out]; exact Ex.sames_end (by omega) (by have := HLEN.out; omega)
         go_wp2_with fail
         go_ret
         rw [HR2.out, HEE.out]
         exact ⟨rfl, HF.out⟩
     ·have d5 : ((L.length : Int) != (L'.length : Int)) = true := by simp; omega
      rw [Ex.sames_len h5] at HR
      cases pl
      ·clear h1 h3 h4 h5
       go_enter Tryd.func53, Tryd.ntmps53
       go_wp2_with fail
       go_ret
       rw [HR.out]
       exact ⟨by simp, ((Fr.refl _ _).alloc _).alloc _⟩
      ·have h4' : (p == p') = true := by simpa using h4
       have d4 : (p != p') = false := by rw [bne, h4']; rfl
       clear h1 h3 h4 h4' h5
       go_enter Tryd.func53, Tryd.ntmps53
       go_wp2_with fail
       go_ret
       rw [HR.out]
       exact ⟨by simp, ((Fr.refl _ _).alloc _).alloc _⟩
theorem ref_same {pl : Bool} {w : World} {ca : List Value} {a : Ex} (ha : RepA w ca a) : ∀ (W : World) (cb : List Value) (b : Ex), Fr [] w W → RepA W cb b →
  Calls Tryd.prog 53 #[.agg ca.toArray, .agg cb.toArray, .bool pl] W fun e w' => e = .returned (.bool (Ex.same pl a b)) ∧ Fr [] W w' := by
 induction ha with
 | mk op s n L p q c f hc hm hr hx ih =>
  intro W cb b hW hb
  cases hb with
  | mk op' s' n' L' p' q' c' f' hc' hm' hr' hx' =>
   rw [agg5, agg5]
   have h1 : LA w q c f L := ⟨hc, hm, hr, hx⟩
   have h2 : LA W q' c' f' L' := ⟨hc', hm', hr', hx'⟩
   exact ref_same_step W pl op s n L p q c f op' s' n' L' p' q' c' f' (h1.fr hW) h2 (fun V i x y hV hx1 hy1 => ih i x hx1 V (f' i) y (hW.trans0 hV) ((h2.hx i y hy1).fr hV))
end Go.Proofs.YtgklmpooonnmiaaDoor
