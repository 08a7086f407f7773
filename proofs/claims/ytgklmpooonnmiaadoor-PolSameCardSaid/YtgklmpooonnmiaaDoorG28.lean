/-
  Lemmas and contracts that the proofs over this seat use (PolAlive, PolSameLaw); no statement of the seat is claimed in this text, and nothing is assumed in it.
-/
import Derived.Test.YtgklmpooonnmiaaDoorG27
import Derived.Test.YtgklmpooonnmiaaDoorG15
import Derived.Test.YtgklmpooonnmiaaDoorG19
import Derived.Test.YtgklmpooonnmiaaDoorG20
set_option linter.unusedVariables false
set_option linter.unusedSimpArgs false
namespace Go.Proofs.YtgklmpooonnmiaaDoor
open Go.RowKit
def cPol : ByteArray := ⟨#[112, 101, 114, 109, 105, 116, 32, 115, 99, 111, 112, 101, 32, 34, 114, 101, 97, 100, 34, 32, 119, 104, 101, 110, 32, 99, 108, 97, 105, 109, 40, 34, 97, 103, 101, 34, 41, 32, 62, 61, 32, 49, 56, 32, 97, 110, 100, 32, 110, 111, 116, 32, 115, 117, 98, 106, 101, 99, 116, 32, 61, 32, 111, 119, 110, 101, 114, 59]⟩
def xPol : Ex := .mk 7 ⟨#[]⟩ 0 [.mk 12 ⟨#[]⟩ 0 [.mk 2 ⟨#[]⟩ 18 [] 41, .mk 5 ⟨#[97, 103, 101]⟩ 0 [] 25] 38, .mk 6 ⟨#[]⟩ 0 [.mk 9 ⟨#[]⟩ 0 [.mk 4 ⟨#[115, 117, 98, 106, 101, 99, 116]⟩ 0 [] 52, .mk 4 ⟨#[111, 119, 110, 101, 114]⟩ 0 [] 62] 60] 48] 44
def rPol : Ru := ⟨false, [⟨#[114, 101, 97, 100]⟩], [xPol], 0⟩
def tPol : List Nat := [112, 101, 114, 109, 105, 116, 32, 115, 99, 111, 112, 101, 32, 34, 114, 101, 97, 100, 34, 32, 119, 104, 101, 110, 32, 49, 56, 32, 60, 61, 32, 99, 108, 97, 105, 109, 40, 34, 97, 103, 101, 34, 41, 32, 97, 110, 100, 32, 110, 111, 116, 32, 115, 117, 98, 106, 101, 99, 116, 32, 61, 32, 111, 119, 110, 101, 114, 59]
set_option maxRecDepth 100000 in
theorem alive_parse : Pol.parse cPol = (.ok, [rPol]) := by kernel_rfl
set_option maxRecDepth 100000 in
theorem alive_right : Ru.rights [rPol] = true := by kernel_rfl
set_option maxRecDepth 100000 in
theorem alive_text : Pol.text [rPol] = tPol := by kernel_rfl
theorem add_zero (ad : Addr) : ad.add 0 = ad := by unfold Addr.add; split <;> simp_all
set_option maxHeartbeats 4000000 in
set_option maxRecDepth 100000 in
theorem pol_alive (w : World) (hL : Least w) :
    Calls Tryd.prog 21 #[] w fun e w' => e = .returned (.bool true) ∧ Fr [] w w' := by
  have hp := pol_parse w cPol (by decide) hL
  rw [alive_parse] at hp
  have HP := Lib.hid hp
  have HL := Lib.hid hL
  clear hp hL
  go_enter Tryd.func21, Tryd.ntmps21
  go_wp2_with fail
  refine HP.out.mono ?_
  rintro e w1 ⟨v, ev, rfl, hv, rfl, hF⟩
  obtain ⟨q, c, f, rfl, hR⟩ := RsRep.ra hv
  have HR := Lib.hid hR
  have HF := Lib.hid hF
  have HC := Lib.hid (pol_Print_yes w1 q c f [rPol] hR (fun u hu => by
    rw [List.mem_singleton] at hu
    subst hu
    refine ⟨fun s hs => ?_, ?_⟩
    · simp only [rPol, List.mem_singleton] at hs
      subst hs
      decide
    · simp only [rPol, xPol, Ex.shorts, Ex.short, and_true]
      decide) (HL.out.fr hF (by simp)) alive_right (by rw [alive_text]; decide))
  rw [alive_text] at HC
  obtain ⟨ad, rfl, h4⟩ := hR.hr 0 rPol rfl
  obtain ⟨q1, c1, q2, c2, g, hA⟩ := hR.hx 0 rPol rfl
  obtain ⟨v0, v1, v2, v3, hf0, a0, a1, a2, a3⟩ := h4
  have hf2 := hA.e
  rw [hf0] at hf2
  simp only [List.cons.injEq, and_true] at hf2
  obtain ⟨rfl, rfl, rfl, rfl⟩ := hf2
  obtain ⟨ae, rfl, h5⟩ := hA.l.hr 0 xPol rfl
  obtain ⟨u0, u1, u2, u3, u4, hg0, b0, b1, b2, b3, b4⟩ := h5
  have hrep := hA.l.hx 0 xPol rfl
  rw [hg0] at hrep
  have hu0 : u0 = .int .i64 7 := by
    unfold xPol at hrep
    cases hrep
    rfl
  subst hu0
  rw [show (0 : Nat) * 4 = 0 from rfl, add_zero] at a0 a1 a2 a3
  rw [show (0 : Nat) * 5 = 0 from rfl, add_zero] at b0
  have A2 : Hid (w1.cell? ⟨ad.block, ad.off + 2, none⟩ = some (.slice (some ae) 1 c2)) := a2
  have B0 := Lib.hid b0
  clear hv hR hF hf0 hA hg0 hrep a0 a1 a2 a3 b0 b1 b2 b3 b4 HP
  go_wp2_with fail
  refine HC.out.mono ?_
  rintro e w2 ⟨rfl, hF2⟩
  have c2 := hF2.cells A2.out
  have d0 := hF2.cells B0.out
  have HF2 := Lib.hid (HF.out.trans0 hF2)
  clear hF2 HC
  go_wp2_with fail
  refine bodyPost_ret (results_tmp rfl _ _ _) rfl ?_
  refine ⟨?_, HF2.out⟩
  kernel_rfl
end Go.Proofs.YtgklmpooonnmiaaDoor

namespace Go.Proofs.YtgklmpooonnmiaaDoor
end Go.Proofs.YtgklmpooonnmiaaDoor
