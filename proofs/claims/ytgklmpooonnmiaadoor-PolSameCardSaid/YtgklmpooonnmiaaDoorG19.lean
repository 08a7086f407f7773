/-
  Lemmas and contracts that the proofs over this seat use (PolAny, PolFew, PolRefSame, PolSameW); no statement of the seat is claimed in this text, and nothing is assumed in it.
-/
import Derived.Test.YtgklmpooonnmiaaDoorG18
import Derived.Test.YtgklmpooonnmiaaDoorG16
import Derived.BigQuiet
import Derived.Deep.QuietTactic
set_option linter.unusedVariables false
set_option linter.unusedSimpArgs false
namespace Go.Proofs.YtgklmpooonnmiaaDoor
open Go.RowKit
/-- what was read may be read: a slice of expressions. -/
theorem LRep.la {w : World} {D : Nat → Prop} {v : Value} {L : List Ex} (h : LRep w D v L) : ∃ q c f, v = .slice q L.length c ∧ LA w q c f L := by
  have h1 : RepA w [.int .i64 0, .string ⟨#[]⟩, .int .i64 0, v, .int .i64 0] (.mk 0 ⟨#[]⟩ 0 L 0) := Rep.any h
  cases h1 with
  | mk _ _ _ _ _ q c f hc hm hr hx => exact ⟨q, c, f, rfl, hc, hm, hr, hx⟩
/-- a slice of texts. -/
theorem SRep.sa {w : World} {D : Nat → Prop} {v : Value} {A : List ByteArray} (h : SRep w D v A) : ∃ q c, v = .slice q A.length c ∧ SA w q c A := by
  obtain ⟨q, c, hv, hc, hm, hr⟩ := h
  refine ⟨q, c, hv, hc, hm, fun j s hj => ?_⟩
  obtain ⟨g, hq, _, _, hcell⟩ := hr j s hj
  exact ⟨g, 0, hq, by rw [Nat.zero_add]; exact hcell⟩
/-- a rule's cells. -/
theorem RuRep.ra {w : World} {D : Nat → Prop} {cs : List Value} {u : Ru} (h : RuRep w D cs u) : ∃ q1 c1 q2 c2 g, RuA w cs u q1 c1 q2 c2 g := by
  obtain ⟨v1, v2, hcs, hs, hl⟩ := h
  obtain ⟨q1, c1, rfl, h1⟩ := hs.sa
  obtain ⟨q2, c2, f, rfl, h2⟩ := LRep.la hl
  exact ⟨q1, c1, q2, c2, f, hcs, h1, h2⟩
/-- a policy that was read may be read. -/
theorem RsRep.ra {w : World} {D : Nat → Prop} {v : Value} {L : List Ru} (h : RsRep w D v L) : ∃ q c f, v = .slice q L.length c ∧ RsA w q c f L := by
  obtain ⟨q, c, f, hv, hc, hm, hr, hx⟩ := h
  refine ⟨q, c, f, hv, hc, hm, fun i u hi => ?_, fun i u hi => (hx i u hi).ra⟩
  obtain ⟨g, hq, hg, hd, hrange⟩ := hr i u hi
  obtain ⟨v1, v2, hcs, _, _⟩ := hx i u hi
  have hadd : (⟨g, 0, none⟩ : Addr).add (i * 4) = ⟨g, 4 * i, none⟩ := by rw [addr_add, Nat.zero_add, Nat.mul_comm]
  rw [hcs] at hrange
  refine ⟨⟨g, 0, none⟩, hq, ?_⟩
  rw [hadd, hcs]
  exact ⟨_, _, _, _, rfl, by simpa using hrange 0 _ rfl, hrange 1 _ rfl, hrange 2 _ rfl, hrange 3 _ rfl⟩
mutual
theorem Ex.plain_idem : ∀ x : Ex, x.plain.plain = x.plain
  | .mk op s n L p => by rw [Ex.plain, Ex.plain, Ex.plains_idem L]
theorem Ex.plains_idem : ∀ L : List Ex, Ex.plains (Ex.plains L) = Ex.plains L
  | [] => rfl
  | x :: r => by rw [Ex.plains, Ex.plains, Ex.plain_idem x, Ex.plains_idem r]
end
theorem Ru.plain_idem (u : Ru) : u.plain.plain = u.plain := by
  unfold Ru.plain
  simp [Ex.plains_idem]
mutual
theorem Ex.same_refl (pl : Bool) : ∀ x : Ex, Ex.same pl x x = true
  | .mk op s n L p => by rw [Ex.same, Ex.sames_refl pl L]; simp
theorem Ex.sames_refl (pl : Bool) : ∀ L : List Ex, Ex.sames pl L L = true
  | [] => by rw [Ex.sames]
  | x :: r => by rw [Ex.sames, Ex.same_refl pl x, Ex.sames_refl pl r]; rfl
end
mutual
theorem Ex.same_plain : ∀ x y : Ex, Ex.same false x y = Ex.same true x.plain y.plain
  | .mk op s n L p, .mk op' s' n' L' p' => by rw [Ex.same, Ex.plain, Ex.plain, Ex.same, Ex.sames_plain L L']; simp
theorem Ex.sames_plain : ∀ L M : List Ex, Ex.sames false L M = Ex.sames true (Ex.plains L) (Ex.plains M)
  | [], [] => by rw [Ex.plains, Ex.sames, Ex.sames]
  | x :: r, y :: m => by rw [Ex.sames, Ex.plains, Ex.plains, Ex.sames, Ex.same_plain x y, Ex.sames_plain r m]
  | [], _ :: _ => by rw [Ex.plains, Ex.plains, Ex.sames, Ex.sames] <;> simp
  | _ :: _, [] => by rw [Ex.plains, Ex.plains, Ex.sames, Ex.sames] <;> simp
end
end Go.Proofs.YtgklmpooonnmiaaDoor

namespace Go.Proofs.YtgklmpooonnmiaaDoor
open Go.RowKit
mutual
theorem Ex.muchE_few : ∀ (x : Ex) (left : Int) (deep : Nat), left ≤ 1500 → 0 ≤ Ex.muchE x left deep → x.few ∧ Ex.muchE x left deep ≤ left - 1
  | .mk op s n L p, left, deep, hl, h0 => by
    rw [Ex.muchE] at h0 ⊢
    by_cases h1 : 3000 < s.size
    · rw [if_pos h1] at h0; omega
    · rw [if_neg h1] at h0 ⊢
      by_cases h2 : 250 < deep + 1
      · rw [if_pos h2] at h0; omega
      · rw [if_neg h2] at h0 ⊢
        have h3 : 0 ≤ min (s.size : Int) 5000 / 100 := by omega
        have h4 := Ex.muchL_few L _ (deep + 1) (by omega) h0
        refine ⟨?_, by omega⟩
        rw [Ex.few]
        exact ⟨by omega, h4.1⟩
theorem Ex.muchL_few : ∀ (L : List Ex) (left : Int) (deep : Nat), left ≤ 1500 → 0 ≤ Ex.muchL L left deep → Ex.fews L ∧ Ex.muchL L left deep + L.length ≤ left
  | [], left, deep, hl, h0 => by rw [Ex.muchL, Ex.fews]; simp
  | x :: r, left, deep, hl, h0 => by
    rw [Ex.muchL] at h0 ⊢
    by_cases h1 : 0 ≤ left
    · rw [if_pos h1] at h0 ⊢
      have hb := Ex.muchE_bd x left deep h1 hl
      have h2 := Ex.muchL_few r (Ex.muchE x left deep) deep hb.2 h0
      have h3 := Ex.muchE_few x left deep hl (by omega)
      rw [Ex.fews, List.length_cons]
      exact ⟨⟨h3.1, h2.1⟩, by omega⟩
    · rw [if_neg h1] at h0; omega
end
theorem Ru.greatL_few : ∀ (L : List Ru) (left : Int), 0 ≤ left → left ≤ 1500 → Ru.greatL L left = false → ∀ u ∈ L, u.scopes.length ≤ 1000000 ∧ u.when_.length ≤ 1000000 ∧ Ex.fews u.when_ ∧ ∀ s ∈ u.scopes, s.size ≤ 1000
  | [], _, _, _, _ => fun u hu => by cases hu
  | v :: r, left, h0, h1, h => by
    rw [Ru.greatL] at h
    split at h
    · cases h
    · rename_i h2
      split at h
      · cases h
      · rename_i h3
        split at h
        · cases h
        · rename_i h4
          have h5 := Ex.muchL_few v.when_ left 1 h1 (by omega)
          intro u hu
          rcases List.mem_cons.1 hu with rfl | hu
          · refine ⟨by omega, by omega, h5.1, fun s hs => ?_⟩
            by_cases h6 : 1000 < s.size
            · exact absurd (List.any_eq_true.2 ⟨s, hs, by simp [h6]⟩) h3
            · omega
          · exact Ru.greatL_few r _ (by omega) (by omega) h u hu
/-- what is not too much has no long lists. -/
theorem Ru.great_few {L : List Ru} (h : Ru.great L = false) : L.length ≤ 40 ∧ ∀ u ∈ L, u.scopes.length ≤ 1000000 ∧ u.when_.length ≤ 1000000 ∧ Ex.fews u.when_ ∧ ∀ s ∈ u.scopes, s.size ≤ 1000 := by
  unfold Ru.great at h
  split at h
  · cases h
  · exact ⟨by omega, Ru.greatL_few L 1500 (by omega) (by omega) h⟩
end Go.Proofs.YtgklmpooonnmiaaDoor

namespace Go.Proofs.YtgklmpooonnmiaaDoor
open Go.RowKit
set_option maxHeartbeats 8000000 in
set_option maxRecDepth 100000 in
theorem ref_Same_true (w : World) (q q' : Option Addr) (c c' : Nat) (f f' : Nat → List Value) (L L' : List Ru) (h : RsA w q c f L) (h' : RsA w q' c' f' L') :
    Calls Tryd.prog 25 #[.slice q L.length c, .slice q' L'.length c', .bool true] w fun e w' => e = .returned (.bool (Ru.sames true L L')) ∧ Fr [] w w' := by
  have HL := Lib.hid h
  have HL' := Lib.hid h'
  have hb : L.length ≤ 9223372036854775807 := by have h1 := h.hc; have h2 := h.hm; unfold maxLen at h2; omega
  have hb' : L'.length ≤ 9223372036854775807 := by have h1 := h'.hc; have h2 := h'.hm; unfold maxLen at h2; omega
  clear h h'
  by_cases hlen : L.length = L'.length
  · have e1 : ((L.length : Int) != (L'.length : Int)) = false := by simp; omega
    have HLEN := Lib.hid hlen
    clear hlen
    go_enter Tryd.func25, Tryd.ntmps25
    go_wp2_with fail
    go_loopg [7] L.length (fun m s7 W => ∃ k : Nat, k ≤ L.length ∧ m = L.length - k ∧ s7 = .int .i64 k ∧ Hid (Fr [] w W) ∧ Hid (Ru.sames true L L' = Ru.sames true (L.drop k) (L'.drop k)))
    case atStart => exact ⟨0, by omega, by omega, rfl, Fr.refl _ _, rfl⟩
    case round =>
      obtain ⟨k, hk, hm, rfl, HF, HE⟩ := hrel
      have HM := Lib.hid hm
      clear hm
      by_cases hlt : k < L.length
      · have hlt' : (k : Int) < (L.length : Int) := by omega
        have hlt2 : (k : Int) < (L'.length : Int) := by have := HLEN.out; omega
        have hk0 : (0 : Int) ≤ (k : Int) := by omega
        obtain ⟨x, hx⟩ : ∃ x, L[k]? = some x := ⟨_, List.getElem?_eq_getElem hlt⟩
        obtain ⟨y, hy⟩ : ∃ y, L'[k]? = some y := ⟨_, List.getElem?_eq_getElem (by have := HLEN.out; omega)⟩
        obtain ⟨ad, rfl, h5⟩ := (HL.out.fr HF.out).hr k x hx
        obtain ⟨ad', rfl, h5'⟩ := (HL'.out.fr HF.out).hr k y hy
        have H5 := Lib.hid h5
        have H5' := Lib.hid h5'
        obtain ⟨v0, v1, v2, v3, hf0, a0, a1, a2, a3⟩ := h5
        obtain ⟨u0, u1, u2, u3, hf1, b0, b1, b2, b3⟩ := h5'
        obtain ⟨q1, c1, q2, c2, g, hA⟩ := (HL.out.fr HF.out).hx k x hx
        obtain ⟨q1', c1', q2', c2', g', hA'⟩ := (HL'.out.fr HF.out).hx k y hy
        have hf2 := hA.e
        have hf2' := hA'.e
        have HS := Lib.hid hA.s
        have HS' := Lib.hid hA'.s
        have HX := Lib.hid hA.l
        have HX' := Lib.hid hA'.l
        rw [hf0] at hf2
        rw [hf1] at hf2'
        simp only [List.cons.injEq, and_true] at hf2 hf2'
        obtain ⟨rfl, rfl, rfl, rfl⟩ := hf2
        obtain ⟨rfl, rfl, rfl, rfl⟩ := hf2'
        rw [hf0] at H5
        rw [hf1] at H5'
        have HSD := Lib.hid (Ru.sames_drop (pl := true) hx hy)
        obtain ⟨xd, xs, xw, xp⟩ := x
        obtain ⟨yd, ys, yw, yp⟩ := y
        have HRS : Hid (Ru.same true ⟨xd, xs, xw, xp⟩ ⟨yd, ys, yw, yp⟩ = (xd == yd && (!true || xp == yp) && decide (xs = ys) && Ex.sames true xw yw)) := rfl
        have hs1 : xs.length ≤ 9223372036854775807 := by have h1 := HS.out.hc; have h2 := HS.out.hm; unfold maxLen at h2; simp only [] at h1; omega
        have hs2 : ys.length ≤ 9223372036854775807 := by have h1 := HS'.out.hc; have h2 := HS'.out.hm; unfold maxLen at h2; simp only [] at h1; omega
        have hw1 : xw.length ≤ 9223372036854775807 := by have h1 := HX.out.hc; have h2 := HX.out.hm; unfold maxLen at h2; simp only [] at h1; omega
        have hw2 : yw.length ≤ 9223372036854775807 := by have h1 := HX'.out.hc; have h2 := HX'.out.hm; unfold maxLen at h2; simp only [] at h1; omega
        clear hf0 hf1 hx hy hA hA'
        dsimp only at a0 a1 a2 a3 b0 b1 b2 b3 HS HS' HX HX' H5 H5'
        cases h1 : (xd == yd) with
        | false =>
          have d1 : (xd != yd) = true := by rw [bne, h1]; rfl
          have HEE : Hid (Ru.sames true L L' = false) := by show _ = _; rw [HE.out, HSD.out, HRS.out, h1]; simp
          go_wp2_with fail
          go_quiet (fail)
          refine then_fresh (fun V => Fr [] w V) (HF.out.trans0 ((Fr.refl [] _).drewN _)) ?_
          intro V hV
          go_wp2_with fail
          go_ret
          rw [HEE.out]
          exact ⟨rfl, hV⟩
        | true =>
          have d1 : (xd != yd) = false := by rw [bne, h1]; rfl
          cases h2 : (!true || xp == yp) with
          | false =>
            have h2' : (xp == yp) = false := by simpa using h2
            have d2 : (xp != yp) = true := by rw [bne, h2']; rfl
            have HEE : Hid (Ru.sames true L L' = false) := by show _ = _; rw [HE.out, HSD.out, HRS.out, h1, h2]; simp
            go_wp2_with fail
            go_quiet (fail)
            refine then_fresh (fun V => Fr [] w V) (HF.out.trans0 ((Fr.refl [] _).drewN _)) ?_
            intro V hV
            go_wp2_with fail
            go_ret
            rw [HEE.out]
            exact ⟨rfl, hV⟩
          | true =>
            by_cases h3 : xs.length = ys.length
            · have h3' : ((xs.length : Int) == (ys.length : Int)) = true := by simp; omega
              have d3 : ((xs.length : Int) != (ys.length : Int)) = false := by simp; omega
              have H3 := Lib.hid h3
              clear h3
              by_cases h4 : xw.length = yw.length
              · have h4' : ((xw.length : Int) == (yw.length : Int)) = true := by simp; omega
                have d4 : ((xw.length : Int) != (yw.length : Int)) = false := by simp; omega
                have H4 := Lib.hid h4
                have HRS2 : Hid (Ru.same true ⟨xd, xs, xw, xp⟩ ⟨yd, ys, yw, yp⟩ = (decide (xs = ys) && Ex.sames true xw yw)) := by show _ = _; rw [HRS.out, h1, h2]; simp
                clear h4
                have h2' : (xp == yp) = true := (by simpa using h2); have d2 : (xp != yp) = false := (by rw [bne, h2']; rfl)
                go_wp2_with fail
                go_quiet (fail)
                refine then_fresh (fun V => Fr [] wr V) ((Fr.refl [] _).drewN _) ?_
                intro V hV
                have HV := Lib.hid hV
                clear hV a0 a1 a2 a3 b0 b1 b2 b3
                clear d1 d2 d3 d4 h1 h2 h2' h3' h4'
                go_wp2_with fail
                have HFO := Lib.hid HF.out
                obtain ⟨wo, hwo⟩ : ∃ wo, wr = wo := ⟨_, rfl⟩
                rw [hwo] at HFO HF H5 H5' HS HS' HX HX' HV
                clear hwo
                go_loopg [8] xs.length (fun m s8 W => ∃ j : Nat, j ≤ xs.length ∧ m = xs.length - j ∧ s8 = .int .i64 j ∧ Hid (Fr [] wo W) ∧ Hid (xs.take j = ys.take j))
                case atStart => exact ⟨0, by omega, by omega, rfl, HV.out, rfl⟩
                case round =>
                  clear HV
                  obtain ⟨j, hj, hm, rfl, HG, HT⟩ := hrel
                  have HMJ := Lib.hid hm
                  clear hm
                  obtain ⟨w0, w1, w2, w3, hw, a0, a1, a2, a3⟩ := H5.out.fr HG.out
                  obtain ⟨z0, z1, z2, z3, hz, b0, b1, b2, b3⟩ := H5'.out.fr HG.out
                  simp only [List.cons.injEq, and_true] at hw hz
                  obtain ⟨rfl, rfl, rfl, rfl⟩ := hw
                  obtain ⟨rfl, rfl, rfl, rfl⟩ := hz
                  by_cases hjl : j < xs.length
                  · have hjl' : (j : Int) < (xs.length : Int) := by omega
                    have hjl2 : (j : Int) < (ys.length : Int) := by have := H3.out; omega
                    have hj0 : (0 : Int) ≤ (j : Int) := by omega
                    obtain ⟨s, hs⟩ : ∃ s, xs[j]? = some s := ⟨_, List.getElem?_eq_getElem hjl⟩
                    obtain ⟨t, ht⟩ : ∃ t, ys[j]? = some t := ⟨_, List.getElem?_eq_getElem (by have := H3.out; omega)⟩
                    obtain ⟨sb, so, rfl, sc⟩ := (HS.out.fr HG.out).hr j s hs
                    obtain ⟨tb, tq, rfl, tc⟩ := (HS'.out.fr HG.out).hr j t ht
                    by_cases hst : s = t
                    · subst hst
                      have HT2 : Hid (xs.take (j + 1) = ys.take (j + 1)) := by show _ = _; rw [List.take_add_one, List.take_add_one, HT.out, hs, ht]
                      clear hs ht
                      go_wp2_with fail
                      go_quiet (fail)
                      refine then_fresh (fun V => Fr [] wo V) (HG.out.trans0 ((Fr.refl [] _).drewN _)) ?_
                      intro V hV
                      have HV := Lib.hid hV
                      clear hV a0 a1 a2 a3 b0 b1 b2 b3 sc tc
                      go_wp2_with fail
                      go_roundg (xs.length - (j + 1))
                      case measure => have := HMJ.out; omega
                      case rel => exact ⟨j + 1, by omega, rfl, by go_num, HV.out, HT2.out⟩
                    · have hst' : (s.toList == t.toList) = false := by
                        rw [beq_eq_false_iff_ne]; intro h; exact hst (nats_inj.1 (by have := h; rw [ByteArray.toList_eq, ByteArray.toList_eq] at this; unfold nats; rw [this]))
                      have hst2 : (s.toList != t.toList) = true := by rw [bne, hst']; rfl
                      have hne : xs ≠ ys := fun h => by rw [h, ht] at hs; exact hst (Option.some.inj hs).symm
                      have HEE : Hid (Ru.sames true L L' = false) := by show _ = _; rw [HE.out, HSD.out, HRS2.out, decide_eq_false hne]; simp
                      clear hs ht hne hst
                      go_wp2_with fail
                      go_quiet (fail)
                      refine then_fresh (fun V => Fr [] wo V) (HG.out.trans0 ((Fr.refl [] _).drewN _)) ?_
                      intro V hV
                      have HV := Lib.hid hV
                      clear hV
                      go_wp2_with fail
                      go_ret
                      rw [HEE.out]
                      exact ⟨rfl, HFO.out.trans0 HV.out⟩
                  · have hxy : xs = ys := by
                      have h9 := HT.out
                      rw [List.take_of_length_le (by omega), List.take_of_length_le (by have := H3.out; omega)] at h9
                      exact h9
                    have HRS3 : Hid (Ru.same true ⟨xd, xs, xw, xp⟩ ⟨yd, ys, yw, yp⟩ = Ex.sames true xw yw) := by show _ = _; rw [HRS2.out, decide_eq_true hxy]; simp
                    clear hxy
                    have hjn : ¬ (j : Int) < (xs.length : Int) := by omega
                    go_wp2_with fail
                    clear a0 a1 a2 a3 b0 b1 b2 b3
                    have HG0 := Lib.hid HG.out
                    go_loopg [9] xw.length (fun m s9 W => ∃ i : Nat, i ≤ xw.length ∧ m = xw.length - i ∧ s9 = .int .i64 i ∧ Hid (Fr [] wo W) ∧ Hid (Ex.sames true xw yw = Ex.sames true (xw.drop i) (yw.drop i)))
                    case atStart => exact ⟨0, by omega, by omega, rfl, HG0.out, rfl⟩
                    case round =>
                      clear HG0 HG HT HMJ
                      obtain ⟨i, hi, hm, rfl, HG, HD⟩ := hrel
                      have HMI := Lib.hid hm
                      clear hm
                      obtain ⟨w0, w1, w2, w3, hw, a0, a1, a2, a3⟩ := H5.out.fr HG.out
                      obtain ⟨z0, z1, z2, z3, hz, b0, b1, b2, b3⟩ := H5'.out.fr HG.out
                      simp only [List.cons.injEq, and_true] at hw hz
                      obtain ⟨rfl, rfl, rfl, rfl⟩ := hw
                      obtain ⟨rfl, rfl, rfl, rfl⟩ := hz
                      by_cases hil : i < xw.length
                      · have hil' : (i : Int) < (xw.length : Int) := by omega
                        have hil2 : (i : Int) < (yw.length : Int) := by have := H4.out; omega
                        have hi0 : (0 : Int) ≤ (i : Int) := by omega
                        obtain ⟨s, hs⟩ : ∃ s, xw[i]? = some s := ⟨_, List.getElem?_eq_getElem hil⟩
                        obtain ⟨t, ht⟩ : ∃ t, yw[i]? = some t := ⟨_, List.getElem?_eq_getElem (by have := H4.out; omega)⟩
                        have hLA := HX.out.fr HG.out
                        have hLB := HX'.out.fr HG.out
                        obtain ⟨sd, rfl, h5⟩ := hLA.hr i s hs
                        obtain ⟨td, rfl, h6⟩ := hLB.hr i t ht
                        have hRA := hLA.hx i s hs
                        have hRB := hLB.hx i t ht
                        obtain ⟨xo, xs1, xn, xq, xk, xc, xp1, hf2⟩ := hRA.form
                        obtain ⟨yo, ys1, yn, yq, yk, yc, yp1, hf3⟩ := hRB.form
                        have HCL : Hid (∀ W, Fr [] wr W → Calls Tryd.prog 53 #[.agg #[.int .i64 xo, .string xs1, .int .i64 xn, .slice xq xk xc, .int .i64 xp1], .agg #[.int .i64 yo, .string ys1, .int .i64 yn, .slice yq yk yc, .int .i64 yp1], .bool true] W fun e w' => e = .returned (.bool (Ex.same true s t)) ∧ Fr [] W w') := fun W hW => by
                          have h9 := ref_same (pl := true) hRA W _ _ hW (hRB.fr hW)
                          rw [hf2, hf3] at h9
                          exact h9
                        rw [hf2] at h5
                        rw [hf3] at h6
                        obtain ⟨e0, e1', e2, e3, e4, he, c0, c1', c2', c3, c4⟩ := h5
                        obtain ⟨f0, f1, f2, f3, f4, hfe, d0, d1', d2', d3', d4'⟩ := h6
                        simp only [List.cons.injEq, and_true] at he hfe
                        obtain ⟨rfl, rfl, rfl, rfl, rfl⟩ := he
                        obtain ⟨rfl, rfl, rfl, rfl, rfl⟩ := hfe
                        have HSI := Lib.hid (Ex.sames_drop (pl := true) hs ht)
                        obtain ⟨z, hz⟩ : ∃ z, Ex.same true s t = z := ⟨_, rfl⟩
                        rw [hz] at HCL HSI
                        clear hs ht hLA hLB hRA hRB hf2 hf3 hz
                        go_wp2_with fail
                        go_still_tail 17, (by kernel_rfl)
                        go_wp2_with fail
                        refine (HCL.out _ (Fr.refl [] _).drew).mono ?_
                        rintro e w9 ⟨rfl, hF2⟩
                        have HF2 := Lib.hid (HG.out.drew.trans0 hF2)
                        clear hF2 HCL
                        cases z
                        · have HEE : Hid (Ru.sames true L L' = false) := by show _ = _; rw [HE.out, HSD.out, HRS3.out, HD.out, HSI.out]; simp
                          go_wp2_with fail
                          go_ret
                          rw [HEE.out]
                          exact ⟨rfl, HFO.out.trans0 HF2.out⟩
                        · have HDD : Hid (Ex.sames true xw yw = Ex.sames true (xw.drop (i + 1)) (yw.drop (i + 1))) := by show _ = _; rw [HD.out, HSI.out, Bool.true_and]
                          go_wp2_with fail
                          go_roundg (xw.length - (i + 1))
                          case measure => have := HMI.out; omega
                          case rel => exact ⟨i + 1, by omega, rfl, by go_num, HF2.out, HDD.out⟩
                      · have HDD : Hid (Ex.sames true xw yw = true) := by show _ = _; rw [HD.out]; exact Ex.sames_end (by omega) (by have := H4.out; omega)
                        have HEE : Hid (Ru.sames true L L' = Ru.sames true (L.drop (k + 1)) (L'.drop (k + 1))) := by show _ = _; rw [HE.out, HSD.out, HRS3.out, HDD.out, Bool.true_and]
                        have HFF := Lib.hid (HFO.out.trans0 HG.out)
                        have hin : ¬ (i : Int) < (xw.length : Int) := by omega
                        go_wp2_with fail
                        go_roundg (L.length - (k + 1))
                        case measure => have := HM.out; omega
                        case rel => exact ⟨k + 1, by omega, rfl, by go_num, HFF.out, HEE.out⟩
              · have h4' : ((xw.length : Int) == (yw.length : Int)) = false := by simp; omega
                have d4 : ((xw.length : Int) != (yw.length : Int)) = true := by simp; omega
                have HEE : Hid (Ru.sames true L L' = false) := by show _ = _; rw [HE.out, HSD.out, HRS.out, Ex.sames_len h4]; simp
                clear h4
                have h2' : (xp == yp) = true := (by simpa using h2); have d2 : (xp != yp) = false := (by rw [bne, h2']; rfl)
                go_wp2_with fail
                go_quiet (fail)
                refine then_fresh (fun V => Fr [] w V) (HF.out.trans0 ((Fr.refl [] _).drewN _)) ?_
                intro V hV
                go_wp2_with fail
                go_ret
                rw [HEE.out]
                exact ⟨rfl, hV⟩
            · have h3' : ((xs.length : Int) == (ys.length : Int)) = false := by simp; omega
              have d3 : ((xs.length : Int) != (ys.length : Int)) = true := by simp; omega
              have hnx : xs ≠ ys := fun h => h3 (by rw [h])
              have HEE : Hid (Ru.sames true L L' = false) := by show _ = _; rw [HE.out, HSD.out, HRS.out, decide_eq_false hnx]; simp
              clear h3 hnx
              have h2' : (xp == yp) = true := (by simpa using h2); have d2 : (xp != yp) = false := (by rw [bne, h2']; rfl)
              go_wp2_with fail
              go_quiet (fail)
              refine then_fresh (fun V => Fr [] w V) (HF.out.trans0 ((Fr.refl [] _).drewN _)) ?_
              intro V hV
              go_wp2_with fail
              go_ret
              rw [HEE.out]
              exact ⟨rfl, hV⟩
      · have HEE : Hid (Ru.sames true L L' = true) := by show _ = _; rw [HE.out]; exact Ru.sames_end (by omega) (by have := HLEN.out; omega)
        go_wp2_with fail
        go_ret
        rw [HEE.out]
        exact ⟨rfl, HF.out⟩
  · have e1 : ((L.length : Int) != (L'.length : Int)) = true := by simp; omega
    have HE := Lib.hid (Ru.sames_len (pl := true) hlen)
    clear hlen
    go_enter Tryd.func25, Tryd.ntmps25
    go_wp2_with fail
    go_ret
    rw [HE.out]
    exact ⟨rfl, Fr.refl _ _⟩
set_option maxHeartbeats 8000000 in
set_option maxRecDepth 100000 in
theorem ref_Same_false (w : World) (q q' : Option Addr) (c c' : Nat) (f f' : Nat → List Value) (L L' : List Ru) (h : RsA w q c f L) (h' : RsA w q' c' f' L') :
    Calls Tryd.prog 25 #[.slice q L.length c, .slice q' L'.length c', .bool false] w fun e w' => e = .returned (.bool (Ru.sames false L L')) ∧ Fr [] w w' := by
  have HL := Lib.hid h
  have HL' := Lib.hid h'
  have hb : L.length ≤ 9223372036854775807 := by have h1 := h.hc; have h2 := h.hm; unfold maxLen at h2; omega
  have hb' : L'.length ≤ 9223372036854775807 := by have h1 := h'.hc; have h2 := h'.hm; unfold maxLen at h2; omega
  clear h h'
  by_cases hlen : L.length = L'.length
  · have e1 : ((L.length : Int) != (L'.length : Int)) = false := by simp; omega
    have HLEN := Lib.hid hlen
    clear hlen
    go_enter Tryd.func25, Tryd.ntmps25
    go_wp2_with fail
    go_loopg [7] L.length (fun m s7 W => ∃ k : Nat, k ≤ L.length ∧ m = L.length - k ∧ s7 = .int .i64 k ∧ Hid (Fr [] w W) ∧ Hid (Ru.sames false L L' = Ru.sames false (L.drop k) (L'.drop k)))
    case atStart => exact ⟨0, by omega, by omega, rfl, Fr.refl _ _, rfl⟩
    case round =>
      obtain ⟨k, hk, hm, rfl, HF, HE⟩ := hrel
      have HM := Lib.hid hm
      clear hm
      by_cases hlt : k < L.length
      · have hlt' : (k : Int) < (L.length : Int) := by omega
        have hlt2 : (k : Int) < (L'.length : Int) := by have := HLEN.out; omega
        have hk0 : (0 : Int) ≤ (k : Int) := by omega
        obtain ⟨x, hx⟩ : ∃ x, L[k]? = some x := ⟨_, List.getElem?_eq_getElem hlt⟩
        obtain ⟨y, hy⟩ : ∃ y, L'[k]? = some y := ⟨_, List.getElem?_eq_getElem (by have := HLEN.out; omega)⟩
        obtain ⟨ad, rfl, h5⟩ := (HL.out.fr HF.out).hr k x hx
        obtain ⟨ad', rfl, h5'⟩ := (HL'.out.fr HF.out).hr k y hy
        have H5 := Lib.hid h5
        have H5' := Lib.hid h5'
        obtain ⟨v0, v1, v2, v3, hf0, a0, a1, a2, a3⟩ := h5
        obtain ⟨u0, u1, u2, u3, hf1, b0, b1, b2, b3⟩ := h5'
        obtain ⟨q1, c1, q2, c2, g, hA⟩ := (HL.out.fr HF.out).hx k x hx
        obtain ⟨q1', c1', q2', c2', g', hA'⟩ := (HL'.out.fr HF.out).hx k y hy
        have hf2 := hA.e
        have hf2' := hA'.e
        have HS := Lib.hid hA.s
        have HS' := Lib.hid hA'.s
        have HX := Lib.hid hA.l
        have HX' := Lib.hid hA'.l
        rw [hf0] at hf2
        rw [hf1] at hf2'
        simp only [List.cons.injEq, and_true] at hf2 hf2'
        obtain ⟨rfl, rfl, rfl, rfl⟩ := hf2
        obtain ⟨rfl, rfl, rfl, rfl⟩ := hf2'
        rw [hf0] at H5
        rw [hf1] at H5'
        have HSD := Lib.hid (Ru.sames_drop (pl := false) hx hy)
        obtain ⟨xd, xs, xw, xp⟩ := x
        obtain ⟨yd, ys, yw, yp⟩ := y
        have HRS : Hid (Ru.same false ⟨xd, xs, xw, xp⟩ ⟨yd, ys, yw, yp⟩ = (xd == yd && (!false || xp == yp) && decide (xs = ys) && Ex.sames false xw yw)) := rfl
        have hs1 : xs.length ≤ 9223372036854775807 := by have h1 := HS.out.hc; have h2 := HS.out.hm; unfold maxLen at h2; simp only [] at h1; omega
        have hs2 : ys.length ≤ 9223372036854775807 := by have h1 := HS'.out.hc; have h2 := HS'.out.hm; unfold maxLen at h2; simp only [] at h1; omega
        have hw1 : xw.length ≤ 9223372036854775807 := by have h1 := HX.out.hc; have h2 := HX.out.hm; unfold maxLen at h2; simp only [] at h1; omega
        have hw2 : yw.length ≤ 9223372036854775807 := by have h1 := HX'.out.hc; have h2 := HX'.out.hm; unfold maxLen at h2; simp only [] at h1; omega
        clear hf0 hf1 hx hy hA hA'
        dsimp only at a0 a1 a2 a3 b0 b1 b2 b3 HS HS' HX HX' H5 H5'
        cases h1 : (xd == yd) with
        | false =>
          have d1 : (xd != yd) = true := by rw [bne, h1]; rfl
          have HEE : Hid (Ru.sames false L L' = false) := by show _ = _; rw [HE.out, HSD.out, HRS.out, h1]; simp
          go_wp2_with fail
          go_quiet (fail)
          refine then_fresh (fun V => Fr [] w V) (HF.out.trans0 ((Fr.refl [] _).drewN _)) ?_
          intro V hV
          go_wp2_with fail
          go_ret
          rw [HEE.out]
          exact ⟨rfl, hV⟩
        | true =>
          have d1 : (xd != yd) = false := by rw [bne, h1]; rfl
          cases h2 : (!false || xp == yp) with
          | false =>
            exact absurd h2 (by simp)
          | true =>
            by_cases h3 : xs.length = ys.length
            · have h3' : ((xs.length : Int) == (ys.length : Int)) = true := by simp; omega
              have d3 : ((xs.length : Int) != (ys.length : Int)) = false := by simp; omega
              have H3 := Lib.hid h3
              clear h3
              by_cases h4 : xw.length = yw.length
              · have h4' : ((xw.length : Int) == (yw.length : Int)) = true := by simp; omega
                have d4 : ((xw.length : Int) != (yw.length : Int)) = false := by simp; omega
                have H4 := Lib.hid h4
                have HRS2 : Hid (Ru.same false ⟨xd, xs, xw, xp⟩ ⟨yd, ys, yw, yp⟩ = (decide (xs = ys) && Ex.sames false xw yw)) := by show _ = _; rw [HRS.out, h1, h2]; simp
                clear h4
                have h2' : True := trivial; have d2 : True := trivial
                go_wp2_with fail
                go_quiet (fail)
                refine then_fresh (fun V => Fr [] wr V) ((Fr.refl [] _).drewN _) ?_
                intro V hV
                have HV := Lib.hid hV
                clear hV a0 a1 a2 a3 b0 b1 b2 b3
                clear d1 d2 d3 d4 h1 h2 h2' h3' h4'
                go_wp2_with fail
                have HFO := Lib.hid HF.out
                obtain ⟨wo, hwo⟩ : ∃ wo, wr = wo := ⟨_, rfl⟩
                rw [hwo] at HFO HF H5 H5' HS HS' HX HX' HV
                clear hwo
                go_loopg [8] xs.length (fun m s8 W => ∃ j : Nat, j ≤ xs.length ∧ m = xs.length - j ∧ s8 = .int .i64 j ∧ Hid (Fr [] wo W) ∧ Hid (xs.take j = ys.take j))
                case atStart => exact ⟨0, by omega, by omega, rfl, HV.out, rfl⟩
                case round =>
                  clear HV
                  obtain ⟨j, hj, hm, rfl, HG, HT⟩ := hrel
                  have HMJ := Lib.hid hm
                  clear hm
                  obtain ⟨w0, w1, w2, w3, hw, a0, a1, a2, a3⟩ := H5.out.fr HG.out
                  obtain ⟨z0, z1, z2, z3, hz, b0, b1, b2, b3⟩ := H5'.out.fr HG.out
                  simp only [List.cons.injEq, and_true] at hw hz
                  obtain ⟨rfl, rfl, rfl, rfl⟩ := hw
                  obtain ⟨rfl, rfl, rfl, rfl⟩ := hz
                  by_cases hjl : j < xs.length
                  · have hjl' : (j : Int) < (xs.length : Int) := by omega
                    have hjl2 : (j : Int) < (ys.length : Int) := by have := H3.out; omega
                    have hj0 : (0 : Int) ≤ (j : Int) := by omega
                    obtain ⟨s, hs⟩ : ∃ s, xs[j]? = some s := ⟨_, List.getElem?_eq_getElem hjl⟩
                    obtain ⟨t, ht⟩ : ∃ t, ys[j]? = some t := ⟨_, List.getElem?_eq_getElem (by have := H3.out; omega)⟩
                    obtain ⟨sb, so, rfl, sc⟩ := (HS.out.fr HG.out).hr j s hs
                    obtain ⟨tb, tq, rfl, tc⟩ := (HS'.out.fr HG.out).hr j t ht
                    by_cases hst : s = t
                    · subst hst
                      have HT2 : Hid (xs.take (j + 1) = ys.take (j + 1)) := by show _ = _; rw [List.take_add_one, List.take_add_one, HT.out, hs, ht]
                      clear hs ht
                      go_wp2_with fail
                      go_quiet (fail)
                      refine then_fresh (fun V => Fr [] wo V) (HG.out.trans0 ((Fr.refl [] _).drewN _)) ?_
                      intro V hV
                      have HV := Lib.hid hV
                      clear hV a0 a1 a2 a3 b0 b1 b2 b3 sc tc
                      go_wp2_with fail
                      go_roundg (xs.length - (j + 1))
                      case measure => have := HMJ.out; omega
                      case rel => exact ⟨j + 1, by omega, rfl, by go_num, HV.out, HT2.out⟩
                    · have hst' : (s.toList == t.toList) = false := by
                        rw [beq_eq_false_iff_ne]; intro h; exact hst (nats_inj.1 (by have := h; rw [ByteArray.toList_eq, ByteArray.toList_eq] at this; unfold nats; rw [this]))
                      have hst2 : (s.toList != t.toList) = true := by rw [bne, hst']; rfl
                      have hne : xs ≠ ys := fun h => by rw [h, ht] at hs; exact hst (Option.some.inj hs).symm
                      have HEE : Hid (Ru.sames false L L' = false) := by show _ = _; rw [HE.out, HSD.out, HRS2.out, decide_eq_false hne]; simp
                      clear hs ht hne hst
                      go_wp2_with fail
                      go_quiet (fail)
                      refine then_fresh (fun V => Fr [] wo V) (HG.out.trans0 ((Fr.refl [] _).drewN _)) ?_
                      intro V hV
                      have HV := Lib.hid hV
                      clear hV
                      go_wp2_with fail
                      go_ret
                      rw [HEE.out]
                      exact ⟨rfl, HFO.out.trans0 HV.out⟩
                  · have hxy : xs = ys := by
                      have h9 := HT.out
                      rw [List.take_of_length_le (by omega), List.take_of_length_le (by have := H3.out; omega)] at h9
                      exact h9
                    have HRS3 : Hid (Ru.same false ⟨xd, xs, xw, xp⟩ ⟨yd, ys, yw, yp⟩ = Ex.sames false xw yw) := by show _ = _; rw [HRS2.out, decide_eq_true hxy]; simp
                    clear hxy
                    have hjn : ¬ (j : Int) < (xs.length : Int) := by omega
                    go_wp2_with fail
                    clear a0 a1 a2 a3 b0 b1 b2 b3
                    have HG0 := Lib.hid HG.out
                    go_loopg [9] xw.length (fun m s9 W => ∃ i : Nat, i ≤ xw.length ∧ m = xw.length - i ∧ s9 = .int .i64 i ∧ Hid (Fr [] wo W) ∧ Hid (Ex.sames false xw yw = Ex.sames false (xw.drop i) (yw.drop i)))
                    case atStart => exact ⟨0, by omega, by omega, rfl, HG0.out, rfl⟩
                    case round =>
                      clear HG0 HG HT HMJ
                      obtain ⟨i, hi, hm, rfl, HG, HD⟩ := hrel
                      have HMI := Lib.hid hm
                      clear hm
                      obtain ⟨w0, w1, w2, w3, hw, a0, a1, a2, a3⟩ := H5.out.fr HG.out
                      obtain ⟨z0, z1, z2, z3, hz, b0, b1, b2, b3⟩ := H5'.out.fr HG.out
                      simp only [List.cons.injEq, and_true] at hw hz
                      obtain ⟨rfl, rfl, rfl, rfl⟩ := hw
                      obtain ⟨rfl, rfl, rfl, rfl⟩ := hz
                      by_cases hil : i < xw.length
                      · have hil' : (i : Int) < (xw.length : Int) := by omega
                        have hil2 : (i : Int) < (yw.length : Int) := by have := H4.out; omega
                        have hi0 : (0 : Int) ≤ (i : Int) := by omega
                        obtain ⟨s, hs⟩ : ∃ s, xw[i]? = some s := ⟨_, List.getElem?_eq_getElem hil⟩
                        obtain ⟨t, ht⟩ : ∃ t, yw[i]? = some t := ⟨_, List.getElem?_eq_getElem (by have := H4.out; omega)⟩
                        have hLA := HX.out.fr HG.out
                        have hLB := HX'.out.fr HG.out
                        obtain ⟨sd, rfl, h5⟩ := hLA.hr i s hs
                        obtain ⟨td, rfl, h6⟩ := hLB.hr i t ht
                        have hRA := hLA.hx i s hs
                        have hRB := hLB.hx i t ht
                        obtain ⟨xo, xs1, xn, xq, xk, xc, xp1, hf2⟩ := hRA.form
                        obtain ⟨yo, ys1, yn, yq, yk, yc, yp1, hf3⟩ := hRB.form
                        have HCL : Hid (∀ W, Fr [] wr W → Calls Tryd.prog 53 #[.agg #[.int .i64 xo, .string xs1, .int .i64 xn, .slice xq xk xc, .int .i64 xp1], .agg #[.int .i64 yo, .string ys1, .int .i64 yn, .slice yq yk yc, .int .i64 yp1], .bool false] W fun e w' => e = .returned (.bool (Ex.same false s t)) ∧ Fr [] W w') := fun W hW => by
                          have h9 := ref_same (pl := false) hRA W _ _ hW (hRB.fr hW)
                          rw [hf2, hf3] at h9
                          exact h9
                        rw [hf2] at h5
                        rw [hf3] at h6
                        obtain ⟨e0, e1', e2, e3, e4, he, c0, c1', c2', c3, c4⟩ := h5
                        obtain ⟨f0, f1, f2, f3, f4, hfe, d0, d1', d2', d3', d4'⟩ := h6
                        simp only [List.cons.injEq, and_true] at he hfe
                        obtain ⟨rfl, rfl, rfl, rfl, rfl⟩ := he
                        obtain ⟨rfl, rfl, rfl, rfl, rfl⟩ := hfe
                        have HSI := Lib.hid (Ex.sames_drop (pl := false) hs ht)
                        obtain ⟨z, hz⟩ : ∃ z, Ex.same false s t = z := ⟨_, rfl⟩
                        rw [hz] at HCL HSI
                        clear hs ht hLA hLB hRA hRB hf2 hf3 hz
                        go_wp2_with fail
                        go_still_tail 17, (by kernel_rfl)
                        go_wp2_with fail
                        refine (HCL.out _ (Fr.refl [] _).drew).mono ?_
                        rintro e w9 ⟨rfl, hF2⟩
                        have HF2 := Lib.hid (HG.out.drew.trans0 hF2)
                        clear hF2 HCL
                        cases z
                        · have HEE : Hid (Ru.sames false L L' = false) := by show _ = _; rw [HE.out, HSD.out, HRS3.out, HD.out, HSI.out]; simp
                          go_wp2_with fail
                          go_ret
                          rw [HEE.out]
                          exact ⟨rfl, HFO.out.trans0 HF2.out⟩
                        · have HDD : Hid (Ex.sames false xw yw = Ex.sames false (xw.drop (i + 1)) (yw.drop (i + 1))) := by show _ = _; rw [HD.out, HSI.out, Bool.true_and]
                          go_wp2_with fail
                          go_roundg (xw.length - (i + 1))
                          case measure => have := HMI.out; omega
                          case rel => exact ⟨i + 1, by omega, rfl, by go_num, HF2.out, HDD.out⟩
                      · have HDD : Hid (Ex.sames false xw yw = true) := by show _ = _; rw [HD.out]; exact Ex.sames_end (by omega) (by have := H4.out; omega)
                        have HEE : Hid (Ru.sames false L L' = Ru.sames false (L.drop (k + 1)) (L'.drop (k + 1))) := by show _ = _; rw [HE.out, HSD.out, HRS3.out, HDD.out, Bool.true_and]
                        have HFF := Lib.hid (HFO.out.trans0 HG.out)
                        have hin : ¬ (i : Int) < (xw.length : Int) := by omega
                        go_wp2_with fail
                        go_roundg (L.length - (k + 1))
                        case measure => have := HM.out; omega
                        case rel => exact ⟨k + 1, by omega, rfl, by go_num, HFF.out, HEE.out⟩
              · have h4' : ((xw.length : Int) == (yw.length : Int)) = false := by simp; omega
                have d4 : ((xw.length : Int) != (yw.length : Int)) = true := by simp; omega
                have HEE : Hid (Ru.sames false L L' = false) := by show _ = _; rw [HE.out, HSD.out, HRS.out, Ex.sames_len h4]; simp
                clear h4
                have h2' : True := trivial; have d2 : True := trivial
                go_wp2_with fail
                go_quiet (fail)
                refine then_fresh (fun V => Fr [] w V) (HF.out.trans0 ((Fr.refl [] _).drewN _)) ?_
                intro V hV
                go_wp2_with fail
                go_ret
                rw [HEE.out]
                exact ⟨rfl, hV⟩
            · have h3' : ((xs.length : Int) == (ys.length : Int)) = false := by simp; omega
              have d3 : ((xs.length : Int) != (ys.length : Int)) = true := by simp; omega
              have hnx : xs ≠ ys := fun h => h3 (by rw [h])
              have HEE : Hid (Ru.sames false L L' = false) := by show _ = _; rw [HE.out, HSD.out, HRS.out, decide_eq_false hnx]; simp
              clear h3 hnx
              have h2' : True := trivial; have d2 : True := trivial
              go_wp2_with fail
              go_quiet (fail)
              refine then_fresh (fun V => Fr [] w V) (HF.out.trans0 ((Fr.refl [] _).drewN _)) ?_
              intro V hV
              go_wp2_with fail
              go_ret
              rw [HEE.out]
              exact ⟨rfl, hV⟩
      · have HEE : Hid (Ru.sames false L L' = true) := by show _ = _; rw [HE.out]; exact Ru.sames_end (by omega) (by have := HLEN.out; omega)
        go_wp2_with fail
        go_ret
        rw [HEE.out]
        exact ⟨rfl, HF.out⟩
  · have e1 : ((L.length : Int) != (L'.length : Int)) = true := by simp; omega
    have HE := Lib.hid (Ru.sames_len (pl := false) hlen)
    clear hlen
    go_enter Tryd.func25, Tryd.ntmps25
    go_wp2_with fail
    go_ret
    rw [HE.out]
    exact ⟨rfl, Fr.refl _ _⟩
end Go.Proofs.YtgklmpooonnmiaaDoor

namespace Go.Proofs.YtgklmpooonnmiaaDoor
open Go.RowKit
theorem Ru.same_plain (u v : Ru) : Ru.same false u v = Ru.same true u.plain v.plain := by
  unfold Ru.same Ru.plain
  rw [Ex.sames_plain]
  simp
theorem Ru.sames_plain : ∀ L M : List Ru, Ru.sames false L M = Ru.sames true (L.map Ru.plain) (M.map Ru.plain)
  | [], [] => by simp [Ru.sames]
  | x :: r, y :: m => by rw [List.map_cons, List.map_cons, Ru.sames, Ru.sames, Ru.same_plain, Ru.sames_plain r m]
  | [], _ :: _ => by simp [Ru.sames]
  | _ :: _, [] => by simp [Ru.sames]
theorem Ru.sames_refl (pl : Bool) : ∀ L : List Ru, Ru.sames pl L L = true
  | [] => by rw [Ru.sames]
  | x :: r => by
    rw [Ru.sames, Ru.sames_refl pl r]
    unfold Ru.same
    rw [Ex.sames_refl]
    simp
theorem Ru.map_idem (L : List Ru) : (L.map Ru.plain).map Ru.plain = L.map Ru.plain := by
  rw [List.map_map]
  exact List.map_congr_left (fun u _ => Ru.plain_idem u)
mutual
theorem Ex.few_plain : ∀ x : Ex, x.few → x.plain.few
  | .mk op s n L p, h => by
    rw [Ex.few] at h
    rw [Ex.plain, Ex.few, Ex.plains_len]
    exact ⟨h.1, Ex.fews_plains L h.2⟩
theorem Ex.fews_plains : ∀ L : List Ex, Ex.fews L → Ex.fews (Ex.plains L)
  | [], _ => by rw [Ex.plains, Ex.fews]; trivial
  | x :: r, h => by
    rw [Ex.fews] at h
    rw [Ex.plains, Ex.fews]
    exact ⟨Ex.few_plain x h.1, Ex.fews_plains r h.2⟩
end
set_option maxHeartbeats 8000000 in
set_option maxRecDepth 100000 in
/-- the law PolSame, where alive says yes. -/
theorem same_law (w : World) (q q' : Option Addr) (c c' : Nat) (f f' : Nat → List Value) (L L' : List Ru) (h : RsA w q c f L) (h' : RsA w q' c' f' L')
    (hA : Calls Tryd.prog 21 #[] w fun e w' => e = .returned (.bool true) ∧ Fr [] w w') :
    Calls Tryd.prog 7 #[.slice q L.length c, .slice q' L'.length c'] w fun e w' => e = .returned (.bool true) ∧ Fr [] w w' := by
  have HL := Lib.hid h
  have HL' := Lib.hid h'
  have HA := Lib.hid hA
  clear h h' hA
  have HFR := Lib.hid (Fr.refl [] w)
  go_enter Tryd.func7, Tryd.ntmps7
  go_wp2_with fail
  refine HA.out.mono ?_
  rintro e w1 ⟨rfl, hF⟩
  have HFR := Lib.hid (HFR.out.trans0 hF)
  have H1 := Lib.hid (HL.out.fr hF)
  have H1' := Lib.hid (HL'.out.fr hF)
  clear HL HL' HA hF
  have HG := Lib.hid (ref_Great w1 q c f L H1.out)
  have HG' := Lib.hid (ref_Great w1 q' c' f' L' H1'.out)
  obtain ⟨z, hz⟩ : ∃ z, Ru.great L = z := ⟨_, rfl⟩
  obtain ⟨z', hz'⟩ : ∃ z, Ru.great L' = z := ⟨_, rfl⟩
  rw [hz] at HG
  rw [hz'] at HG'
  cases z with
  | true =>
    go_wp2_with fail
    refine HG.out.mono ?_
    rintro e w2 ⟨rfl, rfl⟩
    go_wp2_with fail
    go_ret
    exact ⟨rfl, HFR.out⟩
  | false =>
    cases z' with
    | true =>
      go_wp2_with fail
      refine HG.out.mono ?_
      rintro e w2 ⟨rfl, rfl⟩
      go_wp2_with fail
      refine HG'.out.mono ?_
      rintro e w2 ⟨rfl, rfl⟩
      go_wp2_with fail
      go_ret
      exact ⟨rfl, HFR.out⟩
    | false =>
      have hf := Ru.great_few hz
      have hf' := Ru.great_few hz'
      have HFW := Lib.hid hf
      have HFW' := Lib.hid hf'
      have HP := Lib.hid (pol_Plain w1 q c f L H1.out (by omega) (fun u hu => ⟨(hf.2 u hu).1, (hf.2 u hu).2.1, (hf.2 u hu).2.2.1⟩))
      have HZ := Lib.hid (Ru.sames_plain L L')
      have HZ2 := Lib.hid (Ru.sames_plain (L.map Ru.plain) L)
      rw [Ru.map_idem, Ru.sames_refl] at HZ2
      have HZ3 := Lib.hid (Ru.sames_refl true L)
      clear hf hf' hz hz'
      go_wp2_with fail
      refine HG.out.mono ?_
      rintro e w2 ⟨rfl, rfl⟩
      go_wp2_with fail
      refine HG'.out.mono ?_
      rintro e w2 ⟨rfl, rfl⟩
      go_wp2_with fail
      refine HP.out.mono ?_
      rintro e w2 ⟨v, rfl, hR, hF⟩
      have HFR := Lib.hid (HFR.out.trans0 hF)
      obtain ⟨qp, cp, fp, rfl, hp⟩ := hR.ra
      have HPA := Lib.hid hp
      have H2 := Lib.hid (H1.out.fr hF)
      have H2' := Lib.hid (H1'.out.fr hF)
      clear HG HG' HP H1 H1' hR hp hF
      go_wp2_with fail
      obtain ⟨z1, hz1⟩ : ∃ z, Ru.sames true L L' = z := ⟨_, rfl⟩
      obtain ⟨z2, hz2⟩ : ∃ z, Ru.sames false L L' = z := ⟨_, rfl⟩
      have HC := Lib.hid (pol_Same w2 q q' c c' f f' L L' H2.out H2'.out)
      rw [hz1] at HC
      refine HC.out.mono ?_
      rintro e w3 ⟨rfl, hF⟩
      have HFR := Lib.hid (HFR.out.trans0 hF)
      have H3 := Lib.hid (H2.out.fr hF)
      have H3' := Lib.hid (H2'.out.fr hF)
      have HPA3 := Lib.hid (HPA.out.fr hF)
      have HC := Lib.hid (ref_Same_true w3 q q' c c' f f' L L' H3.out H3'.out)
      rw [hz1] at HC
      rw [hz2] at HZ
      clear H2 H2' HPA hF hz1
      go_wp2_with fail
      refine HC.out.mono ?_
      rintro e w4 ⟨rfl, hF⟩
      have HFR := Lib.hid (HFR.out.trans0 hF)
      have H4 := Lib.hid (H3.out.fr hF)
      have H4' := Lib.hid (H3'.out.fr hF)
      have HPA4 := Lib.hid (HPA3.out.fr hF)
      have HC := Lib.hid (pol_Plain w4 q' c' f' L' H4'.out (by have := HFW'.out.1; omega) (fun u hu => ⟨(HFW'.out.2 u hu).1, (HFW'.out.2 u hu).2.1, (HFW'.out.2 u hu).2.2.1⟩))
      clear H3 H3' HPA3 hF
      go_wp2_with fail
      refine HC.out.mono ?_
      rintro e w5 ⟨v, rfl, hR, hF⟩
      have HFR := Lib.hid (HFR.out.trans0 hF)
      obtain ⟨qr, cr, fr, rfl, hp⟩ := hR.ra
      have H5 := Lib.hid (H4.out.fr hF)
      have H5' := Lib.hid (H4'.out.fr hF)
      have HPA5 := Lib.hid (HPA4.out.fr hF)
      have HC := Lib.hid (pol_Same w5 qp qr cp cr fp fr (L.map Ru.plain) (L'.map Ru.plain) HPA5.out hp)
      rw [← HZ.out] at HC
      simp only [List.length_map] at HC
      clear H4 H4' HPA4 hF hR hp
      go_wp2_with fail
      refine HC.out.mono ?_
      rintro e w6 ⟨rfl, hF⟩
      have HFR := Lib.hid (HFR.out.trans0 hF)
      have H6 := Lib.hid (H5.out.fr hF)
      have H6' := Lib.hid (H5'.out.fr hF)
      have HPA6 := Lib.hid (HPA5.out.fr hF)
      have HC := Lib.hid (ref_Same_false w6 q q' c c' f f' L L' H6.out H6'.out)
      rw [hz2] at HC
      clear H5 H5' HPA5 hF hz2
      go_wp2_with fail
      refine HC.out.mono ?_
      rintro e w7 ⟨rfl, hF⟩
      have HFR := Lib.hid (HFR.out.trans0 hF)
      have H7 := Lib.hid (H6.out.fr hF)
      have HPA7 := Lib.hid (HPA6.out.fr hF)
      have HC := Lib.hid (ref_Same_false w7 qp q cp c fp f (L.map Ru.plain) L HPA7.out H7.out)
      rw [HZ2.out] at HC
      simp only [List.length_map] at HC
      clear H6 H6' HPA6 hF
      go_wp2_with fail
      refine HC.out.mono ?_
      rintro e w8 ⟨rfl, hF⟩
      have HFR := Lib.hid (HFR.out.trans0 hF)
      have H8 := Lib.hid (H7.out.fr hF)
      have HPA8 := Lib.hid (HPA7.out.fr hF)
      have HPF : Hid (∀ u ∈ L.map Ru.plain, u.scopes.length ≤ 1000000 ∧ u.when_.length ≤ 1000000 ∧ Ex.fews u.when_) := fun u hu => by
        obtain ⟨x, hx, rfl⟩ := List.mem_map.1 hu
        have h1 := HFW.out.2 x hx
        exact ⟨h1.1, by show (Ex.plains x.when_).length ≤ _; rw [Ex.plains_len]; exact h1.2.1, Ex.fews_plains _ h1.2.2.1⟩
      have HC := Lib.hid (pol_Plain w8 qp cp fp (L.map Ru.plain) HPA8.out (by rw [List.length_map]; have := HFW.out.1; omega) HPF.out)
      rw [Ru.map_idem] at HC
      simp only [List.length_map] at HC
      clear H7 HPA7 hF
      go_wp2_with fail
      refine HC.out.mono ?_
      rintro e w9 ⟨v, rfl, hR, hF⟩
      have HFR := Lib.hid (HFR.out.trans0 hF)
      obtain ⟨qs, cs9, fs, rfl, hp⟩ := hR.ra
      have H9 := Lib.hid (H8.out.fr hF)
      have HPA9 := Lib.hid (HPA8.out.fr hF)
      have HC := Lib.hid (pol_Same w9 qp qs cp cs9 fp fs (L.map Ru.plain) (L.map Ru.plain) HPA9.out hp)
      rw [Ru.sames_refl] at HC
      simp only [List.length_map] at HC
      clear H8 HPA8 hF hR hp
      go_wp2_with fail
      refine HC.out.mono ?_
      rintro e w10 ⟨rfl, hF⟩
      have HFR := Lib.hid (HFR.out.trans0 hF)
      have H10 := Lib.hid (H9.out.fr hF)
      have HC := Lib.hid (pol_Same w10 q q c c f f L L H10.out H10.out)
      rw [HZ3.out] at HC
      clear H9 HPA9 hF
      go_wp2_with fail
      refine HC.out.mono ?_
      rintro e w11 ⟨rfl, hF⟩
      have HFR := Lib.hid (HFR.out.trans0 hF)
      clear hF
      go_wp2_with fail
      go_ret
      exact ⟨rfl, HFR.out⟩
end Go.Proofs.YtgklmpooonnmiaaDoor
