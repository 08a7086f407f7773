/-
  Lemmas and contracts that the proofs over this seat use (PolRepA, PolSameX, PolSameR, PolSameL); no statement of the seat is claimed in this text, and nothing is assumed in it.
-/
import Derived.Test.YtgklmpooonnmiaaDoorG12
import Derived.Test.YtgklmpooonnmiaaDoorG15
import Derived.StillTailTactics
import Derived.Test.YtgklmpooonnmiaaDoorShelf
set_option linter.unusedVariables false
set_option linter.unusedSimpArgs false
namespace Go.Proofs.YtgklmpooonnmiaaDoor
open Go.RowKit
/-- five cells from an address on. -/
def Five (w : World) (a : Addr) (cs : List Value) : Prop :=
  ∃ v0 v1 v2 v3 v4, cs = [v0, v1, v2, v3, v4] ∧ w.cell? a = some v0 ∧ w.cell? ⟨a.block, a.off + 1, none⟩ = some v1 ∧ w.cell? ⟨a.block, a.off + 2, none⟩ = some v2 ∧ w.cell? ⟨a.block, a.off + 3, none⟩ = some v3 ∧ w.cell? ⟨a.block, a.off + 4, none⟩ = some v4
theorem Five.fr {w w' : World} {a : Addr} {cs : List Value} (h : Five w a cs) (hF : Fr [] w w') : Five w' a cs := by
  obtain ⟨v0, v1, v2, v3, v4, rfl, h0, h1, h2, h3, h4⟩ := h
  exact ⟨_, _, _, _, _, rfl, hF.cells h0, hF.cells h1, hF.cells h2, hF.cells h3, hF.cells h4⟩
/-- an expression that may be read: its parts' cells stand somewhere. -/
inductive RepA (w : World) : List Value → Ex → Prop
  | mk (op : Int) (s : ByteArray) (n : Int) (L : List Ex) (p : Int) (q : Option Addr) (c : Nat) (f : Nat → List Value) (hc : L.length ≤ c) (hm : c ≤ maxLen)
    (hr : ∀ i x, L[i]? = some x → ∃ ad, q = some ad ∧ Five w (ad.add (i * 5)) (f i))
    (hx : ∀ i x, L[i]? = some x → RepA w (f i) x) : RepA w [.int .i64 op, .string s, .int .i64 n, .slice q L.length c, .int .i64 p] (.mk op s n L p)
theorem RepA.fr {w w' : World} (hF : Fr [] w w') {cs : List Value} {e : Ex} (h : RepA w cs e) : RepA w' cs e := by
  induction h with
  | mk op s n L p q c f hc hm hr hx ih =>
    refine .mk op s n L p q c f hc hm (fun i x hi => ?_) (fun i x hi => ih i x hi)
    obtain ⟨ad, hq, h5⟩ := hr i x hi
    exact ⟨ad, hq, h5.fr hF⟩
theorem Rep.any {w : World} {D : Nat → Prop} {cs : List Value} {e : Ex} (h : Rep w D cs e) : RepA w cs e := by
  induction h with
  | mk op s n L p q c f hc hm hr hx ih =>
    refine .mk op s n L p q c f hc hm (fun i x hi => ?_) (fun i x hi => ih i x hi)
    obtain ⟨g, hq, hg, hd, hrange⟩ := hr i x hi
    obtain ⟨op1, s1, n1, q1, k1, c1, p1, hcs⟩ := (hx i x hi).form
    have hadd : (⟨g, 0, none⟩ : Addr).add (i * 5) = ⟨g, 5 * i, none⟩ := by unfold Addr.add; split <;> simp_all <;> omega
    rw [hcs] at hrange
    refine ⟨⟨g, 0, none⟩, hq, ?_⟩
    rw [hadd, hcs]
    exact ⟨_, _, _, _, _, rfl, by simpa using hrange 0 _ rfl, hrange 1 _ rfl, hrange 2 _ rfl, hrange 3 _ rfl, hrange 4 _ rfl⟩
theorem RepA.form {w : World} {cs : List Value} {x : Ex} (h : RepA w cs x) : ∃ (op : Int) (s : ByteArray) (n : Int) (q : Option Addr) (k c : Nat) (p : Int), cs = [.int .i64 op, .string s, .int .i64 n, .slice q k c, .int .i64 p] := by
  cases h
  exact ⟨_, _, _, _, _, _, _, rfl⟩
/-- expressions in a slice that may be read. -/
structure LA (w : World) (q : Option Addr) (c : Nat) (f : Nat → List Value) (L : List Ex) : Prop where
  hc : L.length ≤ c
  hm : c ≤ maxLen
  hr : ∀ i x, L[i]? = some x → ∃ ad, q = some ad ∧ Five w (ad.add (i * 5)) (f i)
  hx : ∀ i x, L[i]? = some x → RepA w (f i) x
theorem LA.fr {w w' : World} {q : Option Addr} {c : Nat} {f : Nat → List Value} {L : List Ex} (h : LA w q c f L) (hF : Fr [] w w') : LA w' q c f L :=
  ⟨h.hc, h.hm, fun i x hi => by obtain ⟨ad, hq, h5⟩ := h.hr i x hi; exact ⟨ad, hq, h5.fr hF⟩, fun i x hi => (h.hx i x hi).fr hF⟩
mutual
/-- are two expressions the same (their places too)? -/
def Ex.same (pl : Bool) : Ex → Ex → Bool
  | .mk op s n L p, .mk op' s' n' L' p' => op == op' && (s.toList == s'.toList) && n == n' && (!pl || p == p') && Ex.sames pl L L'
def Ex.sames (pl : Bool) : List Ex → List Ex → Bool
  | [], [] => true
  | x :: l, y :: m => Ex.same pl x y && Ex.sames pl l m
  | _, _ => false
end
theorem Ex.sames_len {pl : Bool} : ∀ {L M : List Ex}, L.length ≠ M.length → Ex.sames pl L M = false
  | [], [], h => absurd rfl h
  | [], _ :: _, _ => by simp [Ex.sames]
  | _ :: _, [], _ => by simp [Ex.sames]
  | x :: l, y :: m, h => by
    rw [Ex.sames, Ex.sames_len (L := l) (M := m) (by simpa using h), Bool.and_false]
theorem Ex.sames_drop {pl : Bool} {L M : List Ex} {k : Nat} {x y : Ex} (hx : L[k]? = some x) (hy : M[k]? = some y) : Ex.sames pl (L.drop k) (M.drop k) = (Ex.same pl x y && Ex.sames pl (L.drop (k + 1)) (M.drop (k + 1))) := by
  obtain ⟨h1, rfl⟩ := List.getElem?_eq_some_iff.1 hx
  obtain ⟨h2, rfl⟩ := List.getElem?_eq_some_iff.1 hy
  rw [List.drop_eq_getElem_cons h1, List.drop_eq_getElem_cons h2, Ex.sames]
theorem Ex.sames_end {pl : Bool} {L M : List Ex} {k : Nat} (h1 : L.length ≤ k) (h2 : M.length ≤ k) : Ex.sames pl (L.drop k) (M.drop k) = true := by
  rw [List.drop_eq_nil_of_le h1, List.drop_eq_nil_of_le h2, Ex.sames]
set_option maxHeartbeats 4000000 in
set_option maxRecDepth 100000 in
theorem eqf_ex (w : World) (q q' : Option Addr) (c c' : Nat) (f f' : Nat → List Value) (L L' : List Ex) (h : LA w q c f L) (h' : LA w q' c' f' L')
    (hS : ∀ (W : World) (i : Nat) (x y : Ex), Fr [] w W → L[i]? = some x → L'[i]? = some y → Calls Tryd.prog 52 #[.agg (f i).toArray, .agg (f' i).toArray] W fun e w' => e = .returned (.bool (Ex.same true x y)) ∧ Fr [] W w') :
    Calls Tryd.prog 51 #[.slice q L.length c, .slice q' L'.length c', .func (.func 52) #[] #[]] w fun e w' => e = .returned (.bool (Ex.sames true L L')) ∧ Fr [] w w' := by
  have HL := Lib.hid h
  have HL' := Lib.hid h'
  have HS := Lib.hid hS
  have hb : L.length ≤ 9223372036854775807 := by have h1 := h.hc; have h2 := h.hm; unfold maxLen at h2; omega
  clear h h' hS
  by_cases hlen : L.length = L'.length
  · have e1 : ((L.length : Int) != (L'.length : Int)) = false := by simp; omega
    have HLEN := Lib.hid hlen
    clear hlen
    go_enter Tryd.func51, Tryd.ntmps51
    go_wp2_with fail
    go_loopg [17] L.length (fun m s17 W => ∃ k : Nat, k ≤ L.length ∧ m = L.length - k ∧ s17 = .int .i64 k ∧ Hid (Fr [] w W) ∧ Hid (Ex.sames true L L' = Ex.sames true (L.drop k) (L'.drop k)))
    case atStart => exact ⟨0, by omega, by omega, rfl, Fr.refl _ _, rfl⟩
    case round =>
      obtain ⟨k, hk, hm, rfl, HF, HE⟩ := hrel
      have HM := Lib.hid hm
      clear hm
      by_cases hlt : k < L.length
      · have hlt' : (k : Int) < (L.length : Int) := by omega
        have hlt2 : (k : Int) < (L'.length : Int) := by have := HLEN.out; omega
        have hk0 : (0 : Int) ≤ (k : Int) := by omega
        obtain ⟨x, hx⟩ : ∃ x, L[k]? = some x := ⟨_, List.getElem?_eq_getElem hlt⟩
        obtain ⟨y, hy⟩ : ∃ y, L'[k]? = some y := ⟨_, List.getElem?_eq_getElem (by have := HLEN.out; omega)⟩
        obtain ⟨ad, rfl, h5⟩ := (HL.out.fr HF.out).hr k x hx
        obtain ⟨ad', rfl, h5'⟩ := (HL'.out.fr HF.out).hr k y hy
        obtain ⟨v0, v1, v2, v3, v4, hf0, a0, a1, a2, a3, a4⟩ := h5
        obtain ⟨u0, u1, u2, u3, u4, hf1, b0, b1, b2, b3, b4⟩ := h5'
        obtain ⟨op, s1, n1, q1, k1, c1, p1, hf2⟩ := (HL.out.hx k x hx).form
        obtain ⟨op', s1', n1', q1', k1', c1', p1', hf2'⟩ := (HL'.out.hx k y hy).form
        rw [hf0] at hf2
        rw [hf1] at hf2'
        simp only [List.cons.injEq, and_true] at hf2 hf2'
        obtain ⟨rfl, rfl, rfl, rfl, rfl⟩ := hf2
        obtain ⟨rfl, rfl, rfl, rfl, rfl⟩ := hf2'
        have HCL : Hid (∀ W, Fr [] w W → Calls Tryd.prog 52 #[.agg #[.int .i64 op, .string s1, .int .i64 n1, .slice q1 k1 c1, .int .i64 p1], .agg #[.int .i64 op', .string s1', .int .i64 n1', .slice q1' k1' c1', .int .i64 p1']] W fun e w' => e = .returned (.bool (Ex.same true x y)) ∧ Fr [] W w') := fun W hW => by
          have h9 := HS.out W k x y hW hx hy
          rw [hf0, hf1] at h9
          exact h9
        have HSD := Lib.hid (Ex.sames_drop (pl := true) hx hy)
        obtain ⟨z, hz⟩ : ∃ z, Ex.same true x y = z := ⟨_, rfl⟩
        rw [hz] at HCL HSD
        have hbl := World.block_lt_of_cell? wr _ b0
        have hal := World.block_lt_of_cell? wr _ a0
        clear hf0 hf1 hx hy hz
        go_wp2_with fail
        refine (HCL.out _ ((HF.out.alloc _).alloc _)).mono ?_
        rintro e w2 ⟨rfl, hF2⟩
        have HF2 := Lib.hid (((HF.out.alloc _).alloc _).trans0 hF2)
        clear hF2 HCL
        cases z
        · have HEE : Hid (Ex.sames true L L' = false) := by show _ = _; rw [HE.out, HSD.out, Bool.false_and]
          go_wp2_with fail
          go_ret
          rw [HEE.out]
          exact ⟨rfl, HF2.out⟩
        · have HEE : Hid (Ex.sames true L L' = Ex.sames true (L.drop (k + 1)) (L'.drop (k + 1))) := by show _ = _; rw [HE.out, HSD.out, Bool.true_and]
          go_wp2_with fail
          go_roundg (L.length - (k + 1))
          case measure => have := HM.out; omega
          case rel => exact ⟨k + 1, by omega, rfl, by go_num, HF2.out, HEE.out⟩
      · have HEE : Hid (Ex.sames true L L' = true) := by show _ = _; rw [HE.out]; exact Ex.sames_end (by omega) (by have := HLEN.out; omega)
        go_wp2_with fail
        go_ret
        rw [HEE.out]
        exact ⟨rfl, HF.out⟩
  · have e1 : ((L.length : Int) != (L'.length : Int)) = true := by simp; omega
    have HE := Lib.hid (Ex.sames_len (pl := true) hlen)
    clear hlen
    go_enter Tryd.func51, Tryd.ntmps51
    go_wp2_with fail
    go_ret
    rw [HE.out]
    exact ⟨rfl, Fr.refl _ _⟩
theorem agg5 (v0 v1 v2 v3 v4 : Value) : [v0, v1, v2, v3, v4].toArray = #[v0, v1, v2, v3, v4] := rfl
set_option maxHeartbeats 4000000 in
set_option maxRecDepth 100000 in
/-- one level of same. -/
theorem same_step (w : World) (op : Int) (s : ByteArray) (n : Int) (L : List Ex) (p : Int) (q : Option Addr) (c : Nat) (op' : Int) (s' : ByteArray) (n' : Int) (L' : List Ex) (p' : Int) (q' : Option Addr) (c' : Nat)
    (hE : ∀ W, Fr [] w W → Calls Tryd.prog 51 #[.slice q L.length c, .slice q' L'.length c', .func (.func 52) #[] #[]] W fun e w' => e = .returned (.bool (Ex.sames true L L')) ∧ Fr [] W w') :
    Calls Tryd.prog 52 #[.agg #[.int .i64 op, .string s, .int .i64 n, .slice q L.length c, .int .i64 p], .agg #[.int .i64 op', .string s', .int .i64 n', .slice q' L'.length c', .int .i64 p']] w fun e w' => e = .returned (.bool (Ex.same true (.mk op s n L p) (.mk op' s' n' L' p'))) ∧ Fr [] w w' := by
  have HE := Lib.hid hE
  have HR : Hid (Ex.same true (.mk op s n L p) (.mk op' s' n' L' p') = (op == op' && (s.toList == s'.toList) && n == n' && p == p' && Ex.sames true L L')) := by show _ = _; rw [Ex.same]; simp
  obtain ⟨z, hz⟩ : ∃ z, Ex.sames true L L' = z := ⟨_, rfl⟩
  rw [hz] at HE HR
  clear hE hz
  cases h1 : (op == op') with
  | false =>
    rw [h1] at HR
    go_enter Tryd.func52, Tryd.ntmps52
    go_wp2_with fail
    go_ret
    rw [HR.out]
    exact ⟨by simp, ((Fr.refl _ _).alloc _).alloc _⟩
  | true =>
    cases h2 : (s.toList == s'.toList) with
    | false =>
      rw [h1, h2] at HR
      go_enter Tryd.func52, Tryd.ntmps52
      go_wp2_with fail
      go_ret
      rw [HR.out]
      exact ⟨by simp, ((Fr.refl _ _).alloc _).alloc _⟩
    | true =>
      cases h3 : (n == n') with
      | false =>
        rw [h1, h2, h3] at HR
        go_enter Tryd.func52, Tryd.ntmps52
        go_wp2_with fail
        go_ret
        rw [HR.out]
        exact ⟨by simp, ((Fr.refl _ _).alloc _).alloc _⟩
      | true =>
        cases h4 : (p == p') with
        | false =>
          rw [h1, h2, h3, h4] at HR
          go_enter Tryd.func52, Tryd.ntmps52
          go_wp2_with fail
          go_ret
          rw [HR.out]
          exact ⟨by simp, ((Fr.refl _ _).alloc _).alloc _⟩
        | true =>
          rw [h1, h2, h3, h4] at HR
          go_enter Tryd.func52, Tryd.ntmps52
          go_wp2_with fail
          refine (HE.out _ (((Fr.refl _ _).alloc _).alloc _)).mono ?_
          rintro e w2 ⟨rfl, hF⟩
          have HF := Lib.hid ((((Fr.refl [] w).alloc _).alloc _).trans0 hF)
          clear hF
          go_wp2_with fail
          go_ret
          rw [HR.out]
          exact ⟨by simp, HF.out⟩
theorem pol_same {w : World} {ca : List Value} {a : Ex} (ha : RepA w ca a) : ∀ (W : World) (cb : List Value) (b : Ex), Fr [] w W → RepA W cb b →
    Calls Tryd.prog 52 #[.agg ca.toArray, .agg cb.toArray] W fun e w' => e = .returned (.bool (Ex.same true a b)) ∧ Fr [] W w' := by
  induction ha with
  | mk op s n L p q c f hc hm hr hx ih =>
    intro W cb b hW hb
    cases hb with
    | mk op' s' n' L' p' q' c' f' hc' hm' hr' hx' =>
      rw [agg5, agg5]
      refine same_step W op s n L p q c op' s' n' L' p' q' c' (fun U hU => ?_)
      have h1 : LA w q c f L := ⟨hc, hm, hr, hx⟩
      have h2 : LA W q' c' f' L' := ⟨hc', hm', hr', hx'⟩
      exact eqf_ex U q q' c c' f f' L L' (h1.fr (hW.trans0 hU)) (h2.fr hU) (fun V i x y hV hx1 hy1 => ih i x hx1 V (f' i) y ((hW.trans0 hU).trans0 hV) ((h2.hx i y hy1).fr (hU.trans0 hV)))
end Go.Proofs.YtgklmpooonnmiaaDoor

namespace Go.Proofs.YtgklmpooonnmiaaDoor
open Go.RowKit
theorem Ex.same_mk (pl : Bool) (op : Int) (s : ByteArray) (n : Int) (L : List Ex) (p op' : Int) (s' : ByteArray) (n' : Int) (L' : List Ex) (p' : Int) :
    Ex.same pl (.mk op s n L p) (.mk op' s' n' L' p') = (op == op' && (s.toList == s'.toList) && n == n' && (!pl || p == p') && Ex.sames pl L L') := by rw [Ex.same]
set_option maxHeartbeats 4000000 in
set_option maxRecDepth 100000 in
/-- one level of SameExpr. -/
theorem ref_same_step (w : World) (pl : Bool) (op : Int) (s : ByteArray) (n : Int) (L : List Ex) (p : Int) (q : Option Addr) (c : Nat) (f : Nat → List Value) (op' : Int) (s' : ByteArray) (n' : Int) (L' : List Ex) (p' : Int) (q' : Option Addr) (c' : Nat) (f' : Nat → List Value)
    (h : LA w q c f L) (h' : LA w q' c' f' L')
    (hS : ∀ (W : World) (i : Nat) (x y : Ex), Fr [] w W → L[i]? = some x → L'[i]? = some y → Calls Tryd.prog 53 #[.agg (f i).toArray, .agg (f' i).toArray, .bool pl] W fun e w' => e = .returned (.bool (Ex.same pl x y)) ∧ Fr [] W w') :
    Calls Tryd.prog 53 #[.agg #[.int .i64 op, .string s, .int .i64 n, .slice q L.length c, .int .i64 p], .agg #[.int .i64 op', .string s', .int .i64 n', .slice q' L'.length c', .int .i64 p'], .bool pl] w fun e w' => e = .returned (.bool (Ex.same pl (.mk op s n L p) (.mk op' s' n' L' p'))) ∧ Fr [] w w' := by
  have HR := Lib.hid (Ex.same_mk pl op s n L p op' s' n' L' p')
  have HL := Lib.hid h
  have HL' := Lib.hid h'
  have HS := Lib.hid hS
  have hb : L.length ≤ 9223372036854775807 := by have h1 := h.hc; have h2 := h.hm; unfold maxLen at h2; omega
  have hb' : L'.length ≤ 9223372036854775807 := by have h1 := h'.hc; have h2 := h'.hm; unfold maxLen at h2; omega
  clear h h' hS
  cases h1 : (op == op') with
  | false =>
    have d1 : (op != op') = true := by rw [bne, h1]; rfl
    rw [h1] at HR
    clear h1
    go_enter Tryd.func53, Tryd.ntmps53
    go_wp2_with fail
    go_ret
    rw [HR.out]
    exact ⟨by simp, ((Fr.refl _ _).alloc _).alloc _⟩
  | true =>
    have d1 : (op != op') = false := by rw [bne, h1]; rfl
    cases h2 : (s.toList == s'.toList) with
    | false =>
      have d2 : (s.toList != s'.toList) = true := by rw [bne, h2]; rfl
      rw [h1, h2] at HR
      clear h1
      go_enter Tryd.func53, Tryd.ntmps53
      go_wp2_with fail
      go_ret
      rw [HR.out]
      exact ⟨by simp, ((Fr.refl _ _).alloc _).alloc _⟩
    | true =>
      have d2 : (s.toList != s'.toList) = false := by rw [bne, h2]; rfl
      cases h3 : (n == n') with
      | false =>
        have d3 : (n != n') = true := by rw [bne, h3]; rfl
        rw [h1, h2, h3] at HR
        clear h1 h3
        go_enter Tryd.func53, Tryd.ntmps53
        go_wp2_with fail
        go_ret
        rw [HR.out]
        exact ⟨by simp, ((Fr.refl _ _).alloc _).alloc _⟩
      | true =>
        have d3 : (n != n') = false := by rw [bne, h3]; rfl
        cases h4 : (!pl || p == p') with
        | false =>
          obtain rfl : pl = true := by cases pl with | true => rfl | false => simp at h4
          have h4' : (p == p') = false := by simpa using h4
          have d4 : (p != p') = true := by rw [bne, h4']; rfl
          rw [h1, h2, h3, h4] at HR
          clear h1 h3 h4 h4'
          go_enter Tryd.func53, Tryd.ntmps53
          go_wp2_with fail
          go_ret
          rw [HR.out]
          exact ⟨by simp, ((Fr.refl _ _).alloc _).alloc _⟩
        | true =>
          rw [h1, h2, h3, h4] at HR
          by_cases h5 : L.length = L'.length
          · have d5 : ((L.length : Int) != (L'.length : Int)) = false := by simp; omega
            have HLEN := Lib.hid h5
            have HR2 : Hid (Ex.same pl (.mk op s n L p) (.mk op' s' n' L' p') = Ex.sames pl L L') := by show _ = _; rw [HR.out]; simp
            clear HR
            cases pl
            · clear h1 h3 h4 h5
              have HAL := Lib.hid (alloc2 w (.cells #[.int .i64 op, .string s, .int .i64 n, .slice q L.length c, .int .i64 p] 80) (.cells #[.int .i64 op', .string s', .int .i64 n', .slice q' L'.length c', .int .i64 p'] 80))
              go_enter Tryd.func53, Tryd.ntmps53
              go_wp2_with fail
              go_loopg [7] L.length (fun m s7 W => ∃ k : Nat, k ≤ L.length ∧ m = L.length - k ∧ s7 = .int .i64 k ∧ Hid (Fr [] w W) ∧ Hid (Ex.sames false L L' = Ex.sames false (L.drop k) (L'.drop k)) ∧ Hid (W.heap[w.heap.size]? = some (.cells #[.int .i64 op, .string s, .int .i64 n, .slice q L.length c, .int .i64 p] 80 (0, 0))) ∧ Hid (W.heap[w.heap.size + 1]? = some (.cells #[.int .i64 op', .string s', .int .i64 n', .slice q' L'.length c', .int .i64 p'] 80 (0, 0))))
              case atStart => exact ⟨0, by omega, by omega, rfl, ((Fr.refl [] w).alloc _).alloc _, rfl, HAL.out.1, HAL.out.2⟩
              case round =>
                obtain ⟨k, hk, hm, rfl, HF, HE, HB1, HB2⟩ := hrel
                have HM := Lib.hid hm
                clear hm d1 d2 d3 d5 HAL
                have z3 : wr.cell? ⟨w.heap.size, 3, none⟩ = some (.slice q L.length c) := by rw [Lib.cell_of_heap HB1.out]; rfl
                have z4 : wr.cell? ⟨w.heap.size + 1, 3, none⟩ = some (.slice q' L'.length c') := by rw [Lib.cell_of_heap HB2.out]; rfl
                by_cases hlt : k < L.length
                · have hlt' : (k : Int) < (L.length : Int) := by omega
                  have hlt2 : (k : Int) < (L'.length : Int) := by have := HLEN.out; omega
                  have hk0 : (0 : Int) ≤ (k : Int) := by omega
                  obtain ⟨x, hx⟩ : ∃ x, L[k]? = some x := ⟨_, List.getElem?_eq_getElem hlt⟩
                  obtain ⟨y, hy⟩ : ∃ y, L'[k]? = some y := ⟨_, List.getElem?_eq_getElem (by have := HLEN.out; omega)⟩
                  obtain ⟨ad, rfl, h5⟩ := (HL.out.fr HF.out).hr k x hx
                  obtain ⟨ad', rfl, h5'⟩ := (HL'.out.fr HF.out).hr k y hy
                  obtain ⟨v0, v1, v2, v3, v4, hf0, a0, a1, a2, a3, a4⟩ := h5
                  obtain ⟨u0, u1, u2, u3, u4, hf1, b0, b1, b2, b3, b4⟩ := h5'
                  obtain ⟨xo, xs, xn, xq, xk, xc, xp, hf2⟩ := (HL.out.hx k x hx).form
                  obtain ⟨yo, ys, yn, yq, yk, yc, yp, hf2'⟩ := (HL'.out.hx k y hy).form
                  rw [hf0] at hf2
                  rw [hf1] at hf2'
                  simp only [List.cons.injEq, and_true] at hf2 hf2'
                  obtain ⟨rfl, rfl, rfl, rfl, rfl⟩ := hf2
                  obtain ⟨rfl, rfl, rfl, rfl, rfl⟩ := hf2'
                  have HCL : Hid (∀ W, Fr [] w W → Calls Tryd.prog 53 #[.agg #[.int .i64 xo, .string xs, .int .i64 xn, .slice xq xk xc, .int .i64 xp], .agg #[.int .i64 yo, .string ys, .int .i64 yn, .slice yq yk yc, .int .i64 yp], .bool false] W fun e w' => e = .returned (.bool (Ex.same false x y)) ∧ Fr [] W w') := fun W hW => by
                    have h9 := HS.out W k x y hW hx hy
                    rw [hf0, hf1] at h9
                    exact h9
                  have HSD := Lib.hid (Ex.sames_drop (pl := false) hx hy)
                  obtain ⟨z, hz⟩ : ∃ z, Ex.same false x y = z := ⟨_, rfl⟩
                  rw [hz] at HCL HSD
                  have hbl := World.block_lt_of_cell? wr _ b0
                  have hal := World.block_lt_of_cell? wr _ a0
                  clear hf0 hf1 hx hy hz
                  go_wp2_with fail
                  go_still_tail 11, (by kernel_rfl)
                  go_wp2_with fail
                  refine (HCL.out _ HF.out.drew).mono ?_
                  rintro e w2 ⟨rfl, hF2⟩
                  have HF2 := Lib.hid (HF.out.drew.trans0 hF2)
                  have HB1' := Lib.hid (hF2.row HB1.out (by simp))
                  have HB2' := Lib.hid (hF2.row HB2.out (by simp))
                  clear hF2 HCL
                  cases z
                  · have HEE : Hid (Ex.sames false L L' = false) := by show _ = _; rw [HE.out, HSD.out, Bool.false_and]
                    go_wp2_with fail
                    go_ret
                    rw [HR2.out, HEE.out]
                    exact ⟨rfl, HF2.out⟩
                  · have HEE : Hid (Ex.sames false L L' = Ex.sames false (L.drop (k + 1)) (L'.drop (k + 1))) := by show _ = _; rw [HE.out, HSD.out, Bool.true_and]
                    go_wp2_with fail
                    go_roundg (L.length - (k + 1))
                    case measure => have := HM.out; omega
                    case rel => exact ⟨k + 1, by omega, rfl, by go_num, HF2.out, HEE.out, HB1'.out, HB2'.out⟩
                · have HEE : Hid (Ex.sames false L L' = true) := by show _ = _; rw [HE.out]; exact Ex.sames_end (by omega) (by have := HLEN.out; omega)
                  go_wp2_with fail
                  go_ret
                  rw [HR2.out, HEE.out]
                  exact ⟨rfl, HF.out⟩
            · have h4' : (p == p') = true := by simpa using h4
              have d4 : (p != p') = false := by rw [bne, h4']; rfl
              clear h1 h3 h4 h4' h5
              have HAL := Lib.hid (alloc2 w (.cells #[.int .i64 op, .string s, .int .i64 n, .slice q L.length c, .int .i64 p] 80) (.cells #[.int .i64 op', .string s', .int .i64 n', .slice q' L'.length c', .int .i64 p'] 80))
              go_enter Tryd.func53, Tryd.ntmps53
              go_wp2_with fail
              go_loopg [7] L.length (fun m s7 W => ∃ k : Nat, k ≤ L.length ∧ m = L.length - k ∧ s7 = .int .i64 k ∧ Hid (Fr [] w W) ∧ Hid (Ex.sames true L L' = Ex.sames true (L.drop k) (L'.drop k)) ∧ Hid (W.heap[w.heap.size]? = some (.cells #[.int .i64 op, .string s, .int .i64 n, .slice q L.length c, .int .i64 p] 80 (0, 0))) ∧ Hid (W.heap[w.heap.size + 1]? = some (.cells #[.int .i64 op', .string s', .int .i64 n', .slice q' L'.length c', .int .i64 p'] 80 (0, 0))))
              case atStart => exact ⟨0, by omega, by omega, rfl, ((Fr.refl [] w).alloc _).alloc _, rfl, HAL.out.1, HAL.out.2⟩
              case round =>
                obtain ⟨k, hk, hm, rfl, HF, HE, HB1, HB2⟩ := hrel
                have HM := Lib.hid hm
                clear hm d1 d2 d3 d5 HAL
                have z3 : wr.cell? ⟨w.heap.size, 3, none⟩ = some (.slice q L.length c) := by rw [Lib.cell_of_heap HB1.out]; rfl
                have z4 : wr.cell? ⟨w.heap.size + 1, 3, none⟩ = some (.slice q' L'.length c') := by rw [Lib.cell_of_heap HB2.out]; rfl
                by_cases hlt : k < L.length
                · have hlt' : (k : Int) < (L.length : Int) := by omega
                  have hlt2 : (k : Int) < (L'.length : Int) := by have := HLEN.out; omega
                  have hk0 : (0 : Int) ≤ (k : Int) := by omega
                  obtain ⟨x, hx⟩ : ∃ x, L[k]? = some x := ⟨_, List.getElem?_eq_getElem hlt⟩
                  obtain ⟨y, hy⟩ : ∃ y, L'[k]? = some y := ⟨_, List.getElem?_eq_getElem (by have := HLEN.out; omega)⟩
                  obtain ⟨ad, rfl, h5⟩ := (HL.out.fr HF.out).hr k x hx
                  obtain ⟨ad', rfl, h5'⟩ := (HL'.out.fr HF.out).hr k y hy
                  obtain ⟨v0, v1, v2, v3, v4, hf0, a0, a1, a2, a3, a4⟩ := h5
                  obtain ⟨u0, u1, u2, u3, u4, hf1, b0, b1, b2, b3, b4⟩ := h5'
                  obtain ⟨xo, xs, xn, xq, xk, xc, xp, hf2⟩ := (HL.out.hx k x hx).form
                  obtain ⟨yo, ys, yn, yq, yk, yc, yp, hf2'⟩ := (HL'.out.hx k y hy).form
                  rw [hf0] at hf2
                  rw [hf1] at hf2'
                  simp only [List.cons.injEq, and_true] at hf2 hf2'
                  obtain ⟨rfl, rfl, rfl, rfl, rfl⟩ := hf2
                  obtain ⟨rfl, rfl, rfl, rfl, rfl⟩ := hf2'
                  have HCL : Hid (∀ W, Fr [] w W → Calls Tryd.prog 53 #[.agg #[.int .i64 xo, .string xs, .int .i64 xn, .slice xq xk xc, .int .i64 xp], .agg #[.int .i64 yo, .string ys, .int .i64 yn, .slice yq yk yc, .int .i64 yp], .bool true] W fun e w' => e = .returned (.bool (Ex.same true x y)) ∧ Fr [] W w') := fun W hW => by
                    have h9 := HS.out W k x y hW hx hy
                    rw [hf0, hf1] at h9
                    exact h9
                  have HSD := Lib.hid (Ex.sames_drop (pl := true) hx hy)
                  obtain ⟨z, hz⟩ : ∃ z, Ex.same true x y = z := ⟨_, rfl⟩
                  rw [hz] at HCL HSD
                  have hbl := World.block_lt_of_cell? wr _ b0
                  have hal := World.block_lt_of_cell? wr _ a0
                  clear hf0 hf1 hx hy hz
                  go_wp2_with fail
                  go_still_tail 11, (by kernel_rfl)
                  go_wp2_with fail
                  refine (HCL.out _ HF.out.drew).mono ?_
                  rintro e w2 ⟨rfl, hF2⟩
                  have HF2 := Lib.hid (HF.out.drew.trans0 hF2)
                  have HB1' := Lib.hid (hF2.row HB1.out (by simp))
                  have HB2' := Lib.hid (hF2.row HB2.out (by simp))
                  clear hF2 HCL
                  cases z
                  · have HEE : Hid (Ex.sames true L L' = false) := by show _ = _; rw [HE.out, HSD.out, Bool.false_and]
                    go_wp2_with fail
                    go_ret
                    rw [HR2.out, HEE.out]
                    exact ⟨rfl, HF2.out⟩
                  · have HEE : Hid (Ex.sames true L L' = Ex.sames true (L.drop (k + 1)) (L'.drop (k + 1))) := by show _ = _; rw [HE.out, HSD.out, Bool.true_and]
                    go_wp2_with fail
                    go_roundg (L.length - (k + 1))
                    case measure => have := HM.out; omega
                    case rel => exact ⟨k + 1, by omega, rfl, by go_num, HF2.out, HEE.out, HB1'.out, HB2'.out⟩
                · have HEE : Hid (Ex.sames true L L' = true) := by show _ = _; rw [HE.out]; exact Ex.sames_end (by omega) (by have := HLEN.out; omega)
                  go_wp2_with fail
                  go_ret
                  rw [HR2.out, HEE.out]
                  exact ⟨rfl, HF.out⟩
          · have d5 : ((L.length : Int) != (L'.length : Int)) = true := by simp; omega
            rw [Ex.sames_len h5] at HR
            cases pl
            · clear h1 h3 h4 h5
              go_enter Tryd.func53, Tryd.ntmps53
              go_wp2_with fail
              go_ret
              rw [HR.out]
              exact ⟨by simp, ((Fr.refl _ _).alloc _).alloc _⟩
            · have h4' : (p == p') = true := by simpa using h4
              have d4 : (p != p') = false := by rw [bne, h4']; rfl
              clear h1 h3 h4 h4' h5
              go_enter Tryd.func53, Tryd.ntmps53
              go_wp2_with fail
              go_ret
              rw [HR.out]
              exact ⟨by simp, ((Fr.refl _ _).alloc _).alloc _⟩
end Go.Proofs.YtgklmpooonnmiaaDoor

namespace Go.Proofs.YtgklmpooonnmiaaDoor
open Go.RowKit
/-- texts in a slice that may be read. -/
structure SA (w : World) (q : Option Addr) (c : Nat) (A : List ByteArray) : Prop where
  hc : A.length ≤ c
  hm : c ≤ maxLen
  hr : ∀ (j : Nat) (s : ByteArray), A[j]? = some s → ∃ b o, q = some ⟨b, o, none⟩ ∧ w.cell? ⟨b, o + j, none⟩ = some (.string s)
theorem SA.fr {w w' : World} {q : Option Addr} {c : Nat} {A : List ByteArray} (h : SA w q c A) (hF : Fr [] w w') : SA w' q c A :=
  ⟨h.hc, h.hm, fun j s hj => by obtain ⟨b, o, hq, h5⟩ := h.hr j s hj; exact ⟨b, o, hq, hF.cells h5⟩⟩
theorem SA.cells {w : World} {q : Option Addr} {c : Nat} {A : List ByteArray} (h : SA w q c A) (hp : 0 < A.length) : ∃ b o, q = some ⟨b, o, none⟩ ∧ ∀ j, j < A.length → w.cell? ⟨b, o + j, none⟩ = some (.string (A.getD j ByteArray.empty)) := by
  obtain ⟨b, o, hq, _⟩ := h.hr 0 A[0] (List.getElem?_eq_getElem hp)
  refine ⟨b, o, hq, fun j hj => ?_⟩
  obtain ⟨b', o', hq', hc⟩ := h.hr j A[j] (List.getElem?_eq_getElem hj)
  rw [hq] at hq'
  cases hq'
  rw [hc]
  simp [List.getD, List.getElem?_eq_getElem hj]
theorem str_eq (w : World) (q q' : Option Addr) (c c' : Nat) (A B : List ByteArray) (h : SA w q c A) (h' : SA w q' c' B) :
    Calls Tryd.prog 50 #[.slice q A.length c, .slice q' B.length c'] w fun e w' => e = .returned (.bool (decide (A = B))) ∧ Fr [] w w' := by
  have hb : A.length ≤ 9223372036854775807 := by have h1 := h.hc; have h2 := h.hm; unfold maxLen at h2; omega
  have hb' : B.length ≤ 9223372036854775807 := by have h1 := h'.hc; have h2 := h'.hm; unfold maxLen at h2; omega
  by_cases h0 : A.length = 0
  · obtain rfl := List.eq_nil_of_length_eq_zero h0
    refine (Tryd.slices_Equal_string_empty q q' c B.length c' w hb').mono ?_
    rintro e w' ⟨rfl, rfl⟩
    refine ⟨?_, Fr.refl _ _⟩
    cases B <;> simp
  · by_cases hl : A.length = B.length
    · obtain ⟨b, o, rfl, hx⟩ := h.cells (by omega)
      obtain ⟨b', o', rfl, hy⟩ := h'.cells (by omega)
      refine (Tryd.slices_Equal_string b o A.length c b' o' B.length c' A B w (Nat.le_refl _) (Nat.le_refl _) hb hb' hx hy).mono ?_
      rintro e w' ⟨rfl, n, rfl⟩
      refine ⟨?_, (Fr.refl _ _).drewN n⟩
      rw [List.take_length, List.take_length]
    · refine (Tryd.slices_Equal_string_lens q q' A.length c B.length c' w hl).mono ?_
      rintro e w' ⟨rfl, rfl⟩
      refine ⟨?_, Fr.refl _ _⟩
      have : A ≠ B := fun h => hl (by rw [h])
      simp [this]
/-- are two rules the same (their places too)? -/
def Ru.same (pl : Bool) (u v : Ru) : Bool := u.deny == v.deny && (!pl || u.p == v.p) && decide (u.scopes = v.scopes) && Ex.sames pl u.when_ v.when_
/-- a rule that may be read. -/
structure RuA (w : World) (cs : List Value) (u : Ru) (q1 : Option Addr) (c1 : Nat) (q2 : Option Addr) (c2 : Nat) (f : Nat → List Value) : Prop where
  e : cs = [.bool u.deny, .slice q1 u.scopes.length c1, .slice q2 u.when_.length c2, .int .i64 u.p]
  s : SA w q1 c1 u.scopes
  l : LA w q2 c2 f u.when_
theorem RuA.fr {w w' : World} {cs : List Value} {u : Ru} {q1 : Option Addr} {c1 : Nat} {q2 : Option Addr} {c2 : Nat} {f : Nat → List Value} (h : RuA w cs u q1 c1 q2 c2 f) (hF : Fr [] w w') : RuA w' cs u q1 c1 q2 c2 f := ⟨h.e, h.s.fr hF, h.l.fr hF⟩
/-- four cells from an address on. -/
def Four (w : World) (a : Addr) (cs : List Value) : Prop :=
  ∃ v0 v1 v2 v3, cs = [v0, v1, v2, v3] ∧ w.cell? a = some v0 ∧ w.cell? ⟨a.block, a.off + 1, none⟩ = some v1 ∧ w.cell? ⟨a.block, a.off + 2, none⟩ = some v2 ∧ w.cell? ⟨a.block, a.off + 3, none⟩ = some v3
theorem Four.fr {w w' : World} {a : Addr} {cs : List Value} (h : Four w a cs) (hF : Fr [] w w') : Four w' a cs := by
  obtain ⟨v0, v1, v2, v3, rfl, h0, h1, h2, h3⟩ := h
  exact ⟨_, _, _, _, rfl, hF.cells h0, hF.cells h1, hF.cells h2, hF.cells h3⟩
/-- rules in a slice that may be read. -/
structure RsA (w : World) (q : Option Addr) (c : Nat) (f : Nat → List Value) (L : List Ru) : Prop where
  hc : L.length ≤ c
  hm : c ≤ maxLen
  hr : ∀ i x, L[i]? = some x → ∃ ad, q = some ad ∧ Four w (ad.add (i * 4)) (f i)
  hx : ∀ i x, L[i]? = some x → ∃ q1 c1 q2 c2 g, RuA w (f i) x q1 c1 q2 c2 g
theorem RsA.fr {w w' : World} {q : Option Addr} {c : Nat} {f : Nat → List Value} {L : List Ru} (h : RsA w q c f L) (hF : Fr [] w w') : RsA w' q c f L :=
  ⟨h.hc, h.hm, fun i x hi => by obtain ⟨ad, hq, h5⟩ := h.hr i x hi; exact ⟨ad, hq, h5.fr hF⟩, fun i x hi => by obtain ⟨q1, c1, q2, c2, g, h5⟩ := h.hx i x hi; exact ⟨q1, c1, q2, c2, g, h5.fr hF⟩⟩
theorem sames_all {w : World} {q q' : Option Addr} {c c' : Nat} {f f' : Nat → List Value} {L L' : List Ex} (h : LA w q c f L) (h' : LA w q' c' f' L') :
    Calls Tryd.prog 51 #[.slice q L.length c, .slice q' L'.length c', .func (.func 52) #[] #[]] w fun e w' => e = .returned (.bool (Ex.sames true L L')) ∧ Fr [] w w' :=
  eqf_ex w q q' c c' f f' L L' h h' (fun W i x y hW hx hy => pol_same (h.hx i x hx) W (f' i) y hW ((h'.hx i y hy).fr hW))
set_option maxHeartbeats 4000000 in
set_option maxRecDepth 100000 in
theorem rule_same (w : World) (cs cs' : List Value) (u v : Ru) (q1 : Option Addr) (c1 : Nat) (q2 : Option Addr) (c2 : Nat) (f : Nat → List Value) (q1' : Option Addr) (c1' : Nat) (q2' : Option Addr) (c2' : Nat) (f' : Nat → List Value) (h : RuA w cs u q1 c1 q2 c2 f) (h' : RuA w cs' v q1' c1' q2' c2' f') :
    Calls Tryd.prog 49 #[.agg cs.toArray, .agg cs'.toArray] w fun e w' => e = .returned (.bool (Ru.same true u v)) ∧ Fr [] w w' := by
  obtain ⟨rfl, hs, hl⟩ := h
  obtain ⟨rfl, hs', hl'⟩ := h'
  obtain ⟨ud, us, uw, up⟩ := u
  obtain ⟨vd, vs, vw, vp⟩ := v
  simp only [] at hs hl hs' hl' ⊢
  have HR : Hid (Ru.same true ⟨ud, us, uw, up⟩ ⟨vd, vs, vw, vp⟩ = (ud == vd && up == vp && decide (us = vs) && Ex.sames true uw vw)) := by show _ = _; unfold Ru.same; simp
  have HST : Hid (∀ W, Fr [] w W → Calls Tryd.prog 50 #[.slice q1 us.length c1, .slice q1' vs.length c1'] W fun e w' => e = .returned (.bool (decide (us = vs))) ∧ Fr [] W w') := fun W hW => str_eq W q1 q1' c1 c1' us vs (hs.fr hW) (hs'.fr hW)
  have HEX : Hid (∀ W, Fr [] w W → Calls Tryd.prog 51 #[.slice q2 uw.length c2, .slice q2' vw.length c2', .func (.func 52) #[] #[]] W fun e w' => e = .returned (.bool (Ex.sames true uw vw)) ∧ Fr [] W w') := fun W hW => sames_all (hl.fr hW) (hl'.fr hW)
  obtain ⟨y, hy⟩ : ∃ y, decide (us = vs) = y := ⟨_, rfl⟩
  obtain ⟨z, hz⟩ : ∃ z, Ex.sames true uw vw = z := ⟨_, rfl⟩
  rw [hy] at HST HR
  rw [hz] at HEX HR
  clear hs hl hs' hl' hy hz
  have HA : Hid (Fr [] w ((w.alloc (.cells #[.bool ud, .slice q1 us.length c1, .slice q2 uw.length c2, .int .i64 up] 78)).alloc (.cells #[.bool vd, .slice q1' vs.length c1', .slice q2' vw.length c2', .int .i64 vp] 78))) := ((Fr.refl [] w).alloc _).alloc _
  cases h1 : (ud == vd) with
  | false =>
    rw [h1] at HR
    go_enter Tryd.func49, Tryd.ntmps49
    go_wp2_with fail
    go_ret
    rw [HR.out]
    exact ⟨by simp, HA.out⟩
  | true =>
    cases h2 : (up == vp) with
    | false =>
      rw [h1, h2] at HR
      go_enter Tryd.func49, Tryd.ntmps49
      go_wp2_with fail
      go_ret
      rw [HR.out]
      exact ⟨by simp, HA.out⟩
    | true =>
      rw [h1, h2] at HR
      go_enter Tryd.func49, Tryd.ntmps49
      go_wp2_with fail
      refine (HST.out _ HA.out).mono ?_
      rintro e w2 ⟨rfl, hF⟩
      have HF := Lib.hid (HA.out.trans0 hF)
      have HA2 := Lib.hid (alloc2 w (.cells #[.bool ud, .slice q1 us.length c1, .slice q2 uw.length c2, .int .i64 up] 78) (.cells #[.bool vd, .slice q1' vs.length c1', .slice q2' vw.length c2', .int .i64 vp] 78))
      have HB1 := Lib.hid (hF.row HA2.out.1 (by simp))
      have HB2 := Lib.hid (hF.row HA2.out.2 (by simp))
      clear hF
      have z1 : w2.cell? ⟨w.heap.size, 2, none⟩ = some (.slice q2 uw.length c2) := by rw [Lib.cell_of_heap HB1.out]; rfl
      have z2 : w2.cell? ⟨w.heap.size + 1, 2, none⟩ = some (.slice q2' vw.length c2') := by rw [Lib.cell_of_heap HB2.out]; rfl
      cases y
      · go_wp2_with fail
        go_ret
        rw [HR.out]
        exact ⟨by simp, HF.out⟩
      · go_wp2_with fail
        refine (HEX.out _ HF.out).mono ?_
        rintro e w3 ⟨rfl, hF3⟩
        have HF3 := Lib.hid (HF.out.trans0 hF3)
        clear hF3 z1 z2
        go_wp2_with fail
        go_ret
        rw [HR.out]
        exact ⟨by simp, HF3.out⟩
end Go.Proofs.YtgklmpooonnmiaaDoor

namespace Go.Proofs.YtgklmpooonnmiaaDoor
open Go.RowKit
def Ru.sames (pl : Bool) : List Ru → List Ru → Bool
  | [], [] => true
  | x :: l, y :: m => Ru.same pl x y && Ru.sames pl l m
  | _, _ => false
theorem Ru.sames_len {pl : Bool} : ∀ {L M : List Ru}, L.length ≠ M.length → Ru.sames pl L M = false
  | [], [], h => absurd rfl h
  | [], _ :: _, _ => by simp [Ru.sames]
  | _ :: _, [], _ => by simp [Ru.sames]
  | x :: l, y :: m, h => by
    rw [Ru.sames, Ru.sames_len (L := l) (M := m) (by simpa using h), Bool.and_false]
theorem Ru.sames_drop {pl : Bool} {L M : List Ru} {k : Nat} {x y : Ru} (hx : L[k]? = some x) (hy : M[k]? = some y) : Ru.sames pl (L.drop k) (M.drop k) = (Ru.same pl x y && Ru.sames pl (L.drop (k + 1)) (M.drop (k + 1))) := by
  obtain ⟨h1, rfl⟩ := List.getElem?_eq_some_iff.1 hx
  obtain ⟨h2, rfl⟩ := List.getElem?_eq_some_iff.1 hy
  rw [List.drop_eq_getElem_cons h1, List.drop_eq_getElem_cons h2, Ru.sames]
theorem Ru.sames_end {pl : Bool} {L M : List Ru} {k : Nat} (h1 : L.length ≤ k) (h2 : M.length ≤ k) : Ru.sames pl (L.drop k) (M.drop k) = true := by
  rw [List.drop_eq_nil_of_le h1, List.drop_eq_nil_of_le h2, Ru.sames]
set_option maxHeartbeats 4000000 in
set_option maxRecDepth 100000 in
theorem eqf_ru (w : World) (q q' : Option Addr) (c c' : Nat) (f f' : Nat → List Value) (L L' : List Ru) (h : RsA w q c f L) (h' : RsA w q' c' f' L') :
    Calls Tryd.prog 48 #[.slice q L.length c, .slice q' L'.length c', .func (.func 49) #[] #[]] w fun e w' => e = .returned (.bool (Ru.sames true L L')) ∧ Fr [] w w' := by
  have HL := Lib.hid h
  have HL' := Lib.hid h'
  have hb : L.length ≤ 9223372036854775807 := by have h1 := h.hc; have h2 := h.hm; unfold maxLen at h2; omega
  clear h h'
  by_cases hlen : L.length = L'.length
  · have e1 : ((L.length : Int) != (L'.length : Int)) = false := by simp; omega
    have HLEN := Lib.hid hlen
    clear hlen
    go_enter Tryd.func48, Tryd.ntmps48
    go_wp2_with fail
    go_loopg [17] L.length (fun m s17 W => ∃ k : Nat, k ≤ L.length ∧ m = L.length - k ∧ s17 = .int .i64 k ∧ Hid (Fr [] w W) ∧ Hid (Ru.sames true L L' = Ru.sames true (L.drop k) (L'.drop k)))
    case atStart => exact ⟨0, by omega, by omega, rfl, Fr.refl _ _, rfl⟩
    case round =>
      obtain ⟨k, hk, hm, rfl, HF, HE⟩ := hrel
      have HM := Lib.hid hm
      clear hm
      by_cases hlt : k < L.length
      · have hlt' : (k : Int) < (L.length : Int) := by omega
        have hlt2 : (k : Int) < (L'.length : Int) := by have := HLEN.out; omega
        have hk0 : (0 : Int) ≤ (k : Int) := by omega
        obtain ⟨x, hx⟩ : ∃ x, L[k]? = some x := ⟨_, List.getElem?_eq_getElem hlt⟩
        obtain ⟨y, hy⟩ : ∃ y, L'[k]? = some y := ⟨_, List.getElem?_eq_getElem (by have := HLEN.out; omega)⟩
        obtain ⟨ad, rfl, h5⟩ := (HL.out.fr HF.out).hr k x hx
        obtain ⟨ad', rfl, h5'⟩ := (HL'.out.fr HF.out).hr k y hy
        obtain ⟨v0, v1, v2, v3, hf0, a0, a1, a2, a3⟩ := h5
        obtain ⟨u0, u1, u2, u3, hf1, b0, b1, b2, b3⟩ := h5'
        obtain ⟨q1, c1, q2, c2, g, hA⟩ := (HL.out.fr HF.out).hx k x hx
        obtain ⟨q1', c1', q2', c2', g', hA'⟩ := (HL'.out.fr HF.out).hx k y hy
        have hf2 := hA.e
        have hf2' := hA'.e
        have HCL : Hid (∀ W, Fr [] wr W → Calls Tryd.prog 49 #[.agg (f k).toArray, .agg (f' k).toArray] W fun e w' => e = .returned (.bool (Ru.same true x y)) ∧ Fr [] W w') := fun W hW => rule_same W _ _ x y q1 c1 q2 c2 g q1' c1' q2' c2' g' (hA.fr hW) (hA'.fr hW)
        rw [hf0] at hf2
        rw [hf1] at hf2'
        simp only [List.cons.injEq, and_true] at hf2 hf2'
        obtain ⟨rfl, rfl, rfl, rfl⟩ := hf2
        obtain ⟨rfl, rfl, rfl, rfl⟩ := hf2'
        rw [hf0, hf1] at HCL
        have HSD := Lib.hid (Ru.sames_drop (pl := true) hx hy)
        obtain ⟨z, hz⟩ : ∃ z, Ru.same true x y = z := ⟨_, rfl⟩
        rw [hz] at HCL HSD
        have hbl := World.block_lt_of_cell? wr _ b0
        have hal := World.block_lt_of_cell? wr _ a0
        clear hf0 hf1 hx hy hz hA hA'
        go_wp2_with fail
        refine (HCL.out _ (((Fr.refl [] wr).alloc _).alloc _)).mono ?_
        rintro e w2 ⟨rfl, hF2⟩
        have HF2 := Lib.hid (((HF.out.alloc _).alloc _).trans0 hF2)
        clear hF2 HCL
        cases z
        · have HEE : Hid (Ru.sames true L L' = false) := by show _ = _; rw [HE.out, HSD.out, Bool.false_and]
          go_wp2_with fail
          go_ret
          rw [HEE.out]
          exact ⟨rfl, HF2.out⟩
        · have HEE : Hid (Ru.sames true L L' = Ru.sames true (L.drop (k + 1)) (L'.drop (k + 1))) := by show _ = _; rw [HE.out, HSD.out, Bool.true_and]
          go_wp2_with fail
          go_roundg (L.length - (k + 1))
          case measure => have := HM.out; omega
          case rel => exact ⟨k + 1, by omega, rfl, by go_num, HF2.out, HEE.out⟩
      · have HEE : Hid (Ru.sames true L L' = true) := by show _ = _; rw [HE.out]; exact Ru.sames_end (by omega) (by have := HLEN.out; omega)
        go_wp2_with fail
        go_ret
        rw [HEE.out]
        exact ⟨rfl, HF.out⟩
  · have e1 : ((L.length : Int) != (L'.length : Int)) = true := by simp; omega
    have HE := Lib.hid (Ru.sames_len (pl := true) hlen)
    clear hlen
    go_enter Tryd.func48, Tryd.ntmps48
    go_wp2_with fail
    go_ret
    rw [HE.out]
    exact ⟨rfl, Fr.refl _ _⟩
set_option maxHeartbeats 4000000 in
set_option maxRecDepth 100000 in
theorem pol_Same (w : World) (q q' : Option Addr) (c c' : Nat) (f f' : Nat → List Value) (L L' : List Ru) (h : RsA w q c f L) (h' : RsA w q' c' f' L') :
    Calls Tryd.prog 24 #[.slice q L.length c, .slice q' L'.length c'] w fun e w' => e = .returned (.bool (Ru.sames true L L')) ∧ Fr [] w w' := by
  have HE := Lib.hid (eqf_ru w q q' c c' f f' L L' h h')
  clear h h'
  go_enter Tryd.func24, Tryd.ntmps24
  go_wp2_with fail
  refine HE.out.mono ?_
  rintro e w2 ⟨rfl, hF⟩
  have HF := Lib.hid hF
  clear hF
  go_wp2_with fail
  go_ret
  exact ⟨rfl, HF.out⟩
theorem ref_same {pl : Bool} {w : World} {ca : List Value} {a : Ex} (ha : RepA w ca a) : ∀ (W : World) (cb : List Value) (b : Ex), Fr [] w W → RepA W cb b →
    Calls Tryd.prog 53 #[.agg ca.toArray, .agg cb.toArray, .bool pl] W fun e w' => e = .returned (.bool (Ex.same pl a b)) ∧ Fr [] W w' := by
  induction ha with
  | mk op s n L p q c f hc hm hr hx ih =>
    intro W cb b hW hb
    cases hb with
    | mk op' s' n' L' p' q' c' f' hc' hm' hr' hx' =>
      rw [agg5, agg5]
      have h1 : LA w q c f L := ⟨hc, hm, hr, hx⟩
      have h2 : LA W q' c' f' L' := ⟨hc', hm', hr', hx'⟩
      exact ref_same_step W pl op s n L p q c f op' s' n' L' p' q' c' f' (h1.fr hW) h2 (fun V i x y hV hx1 hy1 => ih i x hx1 V (f' i) y (hW.trans0 hV) ((h2.hx i y hy1).fr hV))
end Go.Proofs.YtgklmpooonnmiaaDoor
