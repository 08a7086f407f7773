/-
  Lemmas and contracts that the proofs over this seat use (PolPlainR, PolPlainL, PolQuoted, PolRight1); no statement of the seat is claimed in this text, and nothing is assumed in it.
-/
import Derived.Test.YtgklmpooonnmiaaDoorG17
import Derived.Deep.RegionHeld3
import Derived.Test.YtgklmpooonnmiaaDoorG10
import Derived.Test.YtgklmpooonnmiaaDoorG2
set_option linter.unusedVariables false
set_option linter.unusedSimpArgs false
namespace Go.Proofs.YtgklmpooonnmiaaDoor
open Go.RowKit
/-- a rule without its places. -/
def Ru.plain (u : Ru) : Ru := ⟨u.deny, u.scopes, Ex.plains u.when_, 0⟩
/-- what Plain's loop holds: the first k rules are without places. -/
structure PrSt (w : World) (v : Value) (f : Nat → List Value) (L : List Ru) (k : Nat) (css : List (List Value)) (W : World) : Prop where
  own : W.ownsRow w.heap.size 78 4 v L.length css.flatten
  len : css.length = L.length
  four : ∀ (i : Nat) (cs : List Value), css[i]? = some cs → cs.length = 4
  old : ∀ i, k ≤ i → i < L.length → css[i]? = some (f i)
  new : ∀ (i : Nat) (x : Ru) (cs : List Value), i < k → L[i]? = some x → css[i]? = some cs → RuRep W (fun b => w.heap.size ≤ b ∧ v.ownBlock ≠ some b) cs x.plain
  fr : Fr [] w W
/-- in the middle of a round: the cells of number k are under way. -/
structure PrMid (w : World) (g c0 : Nat) (f : Nat → List Value) (L : List Ru) (k : Nat) (cs : List Value) (css : List (List Value)) (W : World) : Prop where
  own : W.ownsRow w.heap.size 78 4 (.slice (some ⟨g, 0, none⟩) L.length c0) L.length css.flatten
  len : css.length = L.length
  four : ∀ (i : Nat) (cs : List Value), css[i]? = some cs → cs.length = 4
  at_ : css[k]? = some cs
  old : ∀ i, k < i → i < L.length → css[i]? = some (f i)
  new : ∀ (i : Nat) (x : Ru) (cs : List Value), i < k → L[i]? = some x → css[i]? = some cs → RuRep W (fun b => w.heap.size ≤ b ∧ b ≠ g) cs x.plain
  fr : Fr [] w W
  bg : w.heap.size ≤ g
theorem PrSt.mid {w : World} {g c0 : Nat} {f : Nat → List Value} {L : List Ru} {k : Nat} {css : List (List Value)} {W : World} (h : PrSt w (.slice (some ⟨g, 0, none⟩) L.length c0) f L k css W) (hk : k < L.length) (hg : w.heap.size ≤ g) : PrMid w g c0 f L k (f k) css W :=
  ⟨h.own, h.len, h.four, h.old k (Nat.le_refl _) hk, fun i hi hl => h.old i (by omega) hl, fun i x cs hi hx hc => (h.new i x cs hi hx hc).mono (fun b _ hb => ⟨hb.1, fun h9 => hb.2 (by simp [Value.ownBlock, h9])⟩), h.fr, hg⟩
theorem PrMid.done {w : World} {g c0 : Nat} {f : Nat → List Value} {L : List Ru} {k : Nat} {cs : List Value} {css : List (List Value)} {W : World} (h : PrMid w g c0 f L k cs css W) {x : Ru} (hx : L[k]? = some x) (hr : RuRep W (fun b => w.heap.size ≤ b ∧ b ≠ g) cs x.plain) : PrSt w (.slice (some ⟨g, 0, none⟩) L.length c0) f L (k + 1) css W := by
  have hm : ∀ b, b < W.heap.size → (w.heap.size ≤ b ∧ b ≠ g) → (w.heap.size ≤ b ∧ (Value.slice (some ⟨g, 0, none⟩) L.length c0).ownBlock ≠ some b) := fun b _ hb => ⟨hb.1, fun h9 => hb.2 (by simp [Value.ownBlock] at h9; exact h9.symm)⟩
  refine ⟨h.own, h.len, h.four, fun i hi hl => h.old i (by omega) hl, fun i y ds hi hy hd => ?_, h.fr⟩
  by_cases he : i = k
  · subst he
    rw [hx] at hy
    rw [h.at_] at hd
    cases hy; cases hd
    exact hr.mono hm
  · exact (h.new i y ds (by omega) hy hd).mono hm
theorem PrMid.store {w : World} {g c0 : Nat} {f : Nat → List Value} {L : List Ru} {k : Nat} {cs : List Value} {css : List (List Value)} {W : World} (h : PrMid w g c0 f L k cs css W) (j : Nat) (hj : j < 4) (u : Value) : PrMid w g c0 f L k (cs.set j u) (css.set k (cs.set j u)) (W.setCell ⟨g, k * 4 + j, none⟩ u) := by
  have hkl : k < css.length := (List.getElem?_eq_some_iff.1 h.at_).1
  have hs := h.own.stored (k * 4 + j) u
  have he : css.flatten.set (k * 4 + j) u = (css.set k (cs.set j u)).flatten := by rw [Nat.mul_comm]; exact flat_set css 4 h.four k cs j u h.at_ hj
  rw [he] at hs
  have hf := Fr.of_grown hs.2
  refine ⟨hs.1, by rw [List.length_set]; exact h.len, fun i ds hi => ?_, by rw [List.getElem?_set_self hkl], fun i hi hl => ?_, fun i x ds hi hx hd => ?_, h.fr.trans hf (fun y hy => .inr (by have := h.bg; simp at hy; omega)), h.bg⟩
  · by_cases he : i = k
    · subst he; rw [List.getElem?_set_self hkl] at hi; cases hi; rw [List.length_set]; exact h.four _ _ h.at_
    · rw [List.getElem?_set_ne (by omega)] at hi; exact h.four _ _ hi
  · rw [List.getElem?_set_ne (by omega)]; exact h.old i hi hl
  · rw [List.getElem?_set_ne (by omega)] at hd
    exact (h.new i x ds hi hx hd).fr hf (fun y hy _ hc => hc.2 (by simpa using hy))
theorem PrMid.step {w : World} {g c0 : Nat} {f : Nat → List Value} {L : List Ru} {k : Nat} {cs : List Value} {css : List (List Value)} {W W' : World} (h : PrMid w g c0 f L k cs css W) (hf : Fr [] W W') : PrMid w g c0 f L k cs css W' :=
  ⟨ownsRow_fr h.own hf, h.len, h.four, h.at_, h.old, fun i x cs hi hx hc => (h.new i x cs hi hx hc).fr hf (fun y hy => by cases hy), h.fr.trans0 hf, h.bg⟩
theorem PrMid.cell {w : World} {g c0 : Nat} {f : Nat → List Value} {L : List Ru} {k : Nat} {cs : List Value} {css : List (List Value)} {W : World} (h : PrMid w g c0 f L k cs css W) (j : Nat) (u : Value) (hu : cs[j]? = some u) : W.cell? ⟨g, k * 4 + j, none⟩ = some u ∧ W.frozen? ⟨g, k * 4 + j, none⟩ = false := by
  have hkl : k < L.length := by rw [← h.len]; exact (List.getElem?_eq_some_iff.1 h.at_).1
  have hj : j < 4 := by rw [← h.four k cs h.at_]; exact (List.getElem?_eq_some_iff.1 hu).1
  refine ⟨?_, h.own.frozenAt _⟩
  rw [h.own.cellAt _ (by omega), Nat.mul_comm]
  exact flat_at4 css h.four k cs j u h.at_ hu
theorem PrSt.out {w : World} {v : Value} {f : Nat → List Value} {L : List Ru} {css : List (List Value)} {W : World} (h : PrSt w v f L L.length css W) : RsRep W (fun i => w.heap.size ≤ i) v (L.map Ru.plain) := by
  rcases h.own.2 with ⟨hv, h0⟩ | ⟨g, cap, cur, hv, hb, hrow, h1, h2, h3, h4⟩
  · have h00 : L = [] := List.eq_nil_of_length_eq_zero h0
    subst h00
    exact ⟨none, 0, fun _ => [], hv, Nat.le_refl _, by decide, fun i u hi => by simp at hi, fun i u hi => by simp at hi⟩
  · have hat := flat_at4 css h.four
    have hget : ∀ i, i < L.length → css[i]? = some (css.getD i []) := fun i hi => by
      have hi2 : i < css.length := by rw [h.len]; exact hi
      simp [List.getD, List.getElem?_eq_getElem hi2]
    refine ⟨some ⟨g, 0, none⟩, cap, fun i => css.getD i [], by rw [hv, List.length_map], by rw [List.length_map]; exact h1, h2, fun i u hi => ⟨g, rfl, row_lt hrow, hb, fun j x hj => ?_⟩, fun i u hi => ?_⟩
    · have hil : i < L.length := by have := (List.getElem?_eq_some_iff.1 hi).1; simpa using this
      have h9 := hat i _ j x (hget i hil) hj
      rw [← h4, List.getElem?_take] at h9
      split at h9
      · rw [cell_of_row _ _ _ _ _ _ hrow]; simpa using h9
      · cases h9
    · have hil : i < L.length := by have := (List.getElem?_eq_some_iff.1 hi).1; simpa using this
      rw [List.getElem?_map, List.getElem?_eq_getElem hil] at hi
      cases hi
      exact (h.new i _ _ hil (List.getElem?_eq_getElem hil) (hget i hil)).mono (fun b _ hb => hb.1)
end Go.Proofs.YtgklmpooonnmiaaDoor

namespace Go.Proofs.YtgklmpooonnmiaaDoor
open Go.RowKit
set_option maxHeartbeats 8000000 in
set_option maxRecDepth 100000 in
theorem pol_Plain (w : World) (q : Option Addr) (c : Nat) (f : Nat → List Value) (L : List Ru) (h : RsA w q c f L) (hn : L.length ≤ 1000000)
    (hfew : ∀ u ∈ L, u.scopes.length ≤ 1000000 ∧ u.when_.length ≤ 1000000 ∧ Ex.fews u.when_) :
    Calls Tryd.prog 23 #[.slice q L.length c] w fun e w' => ∃ v, e = .returned v ∧ RsRep w' (fun b => w.heap.size ≤ b) v (L.map Ru.plain) ∧ Fr [] w w' := by
  have HL := Lib.hid h
  have HN := Lib.hid hfew
  have HCL := Lib.hid (clone_ru w q c f L h hn)
  clear h hfew
  go_enter Tryd.func23, Tryd.ntmps23
  go_wp2_with fail
  refine HCL.out.mono ?_
  rintro e W ⟨v, rfl, css, hl, hcs, hfl, hown, hF⟩
  have hbn : L.length ≤ 9223372036854775807 := by omega
  obtain ⟨q0, c0, hv⟩ : ∃ q0 c0, v = .slice q0 L.length c0 := by
    rcases hown.2 with ⟨hv, h0⟩ | ⟨g, cap, cur, hv, _⟩
    · exact ⟨none, 0, by rw [hv, h0]⟩
    · exact ⟨_, _, hv⟩
  subst hv
  have H0 : Hid (PrSt w (.slice q0 L.length c0) f L 0 css W) := ⟨hown, hl, fun i cs hi => by
    have h1 : i < L.length := by have := (List.getElem?_eq_some_iff.1 hi).1; omega
    rw [hcs i h1] at hi
    cases hi
    obtain ⟨q1, k1, q2, k2, g, hru⟩ := HL.out.hx i _ (List.getElem?_eq_getElem h1)
    rw [hru.e]; rfl, fun i _ hi => hcs i hi, fun i x cs hi => by omega, hF⟩
  clear hl hcs hfl hown hF
  go_wp2_with fail
  go_loopg [5, 10] L.length (fun m s5 s10 W => ∃ (k : Nat) (css : List (List Value)), k ≤ L.length ∧ m = L.length - k ∧ s10 = .int .i64 k ∧ Hid (PrSt w (.slice q0 L.length c0) f L k css W))
  case atStart => exact ⟨0, css, by omega, by omega, rfl, H0.out⟩
  case round =>
    obtain ⟨k, css1, hk, hm, rfl, H⟩ := hrel
    have HM := Lib.hid hm
    clear hm
    by_cases hlt : k < L.length
    · have hlt' : (k : Int) < (L.length : Int) := by omega
      have hk0 : (0 : Int) ≤ (k : Int) := by omega
      obtain ⟨g, hv, hbg, hgl⟩ : ∃ g, (Value.slice q0 L.length c0) = .slice (some ⟨g, 0, none⟩) L.length c0 ∧ w.heap.size ≤ g ∧ g < wr.heap.size := by
        obtain ⟨g, cap, h1, h2, h3⟩ := H.out.own.form (by omega)
        cases h1
        exact ⟨g, rfl, h2, h3⟩
      cases hv
      have HMID := Lib.hid (H.out.mid hlt hbg)
      clear H
      obtain ⟨u, hx⟩ : ∃ x, L[k]? = some x := ⟨_, List.getElem?_eq_getElem hlt⟩
      obtain ⟨q1, k1, q2, k2, fe, hru⟩ := HL.out.hx k u hx
      rw [hru.e] at HMID
      obtain ⟨d1a, d1b⟩ := HMID.out.cell 1 _ rfl
      obtain ⟨d2a, d2b⟩ := HMID.out.cell 2 _ rfl
      obtain ⟨d3a, d3b⟩ := HMID.out.cell 3 _ rfl
      have HX := Lib.hid hx
      have HRU := Lib.hid hru
      clear hx hru
      go_wp2_with fail
      refine wp_region_held_drew (S := fun _ => True) (by kernel_rfl) (trivial) (fun hHeld => ?_)
      refine held_take (i := 0) (v := ?_) 16 rfl rfl (by kernel_rfl) (by kernel_rfl) (by kernel_rfl) (fun _ _ _ h => h) (Or.inl ⟨by rfl, ?_⟩) (by assumption) ?_
      rotate_left 1
      · intro w hSw; (try dsimp only at hSw); go_simp; try (with_reducible rfl)
      try simp only [Act.put, List.setIfInBounds_toArray, List.set_cons_zero, List.set_cons_succ]
      refine held_take (i := 1) (v := ?_) 17 rfl rfl (by kernel_rfl) (by kernel_rfl) (by kernel_rfl) (fun _ _ _ h => h) (Or.inl ⟨by rfl, ?_⟩) (by assumption) ?_
      rotate_left 1
      · intro w hSw; (try dsimp only at hSw); go_simp; try (with_reducible rfl)
      try simp only [Act.put, List.setIfInBounds_toArray, List.set_cons_zero, List.set_cons_succ]
      refine held_take (i := 2) (v := ?_) 18 rfl rfl (by kernel_rfl) (by kernel_rfl) (by kernel_rfl) (fun _ _ _ h => h) (Or.inl ⟨by rfl, ?_⟩) (by assumption) ?_
      rotate_left 1
      · intro w hSw; (try dsimp only at hSw); go_simp; try (with_reducible rfl)
      try simp only [Act.put, List.setIfInBounds_toArray, List.set_cons_zero, List.set_cons_succ]
      refine held_take (i := 3) (v := ?_) 19 rfl rfl (by kernel_rfl) (by kernel_rfl) (by kernel_rfl) (fun _ _ _ h => h) (Or.inl ⟨by rfl, ?_⟩) (by assumption) ?_
      rotate_left 1
      · intro w hSw; (try dsimp only at hSw); go_simp; try (with_reducible rfl)
      try simp only [Act.put, List.setIfInBounds_toArray, List.set_cons_zero, List.set_cons_succ]
      refine held_take (i := 4) (v := ?_) 20 rfl rfl (by kernel_rfl) (by kernel_rfl) (by kernel_rfl) (fun _ _ _ h => h) (Or.inl ⟨by rfl, ?_⟩) (by assumption) ?_
      rotate_left 1
      · intro w hSw; (try dsimp only at hSw); go_simp; try (with_reducible rfl)
      try simp only [Act.put, List.setIfInBounds_toArray, List.set_cons_zero, List.set_cons_succ]
      refine held_take (i := 5) (v := ?_) 21 rfl rfl (by kernel_rfl) (by kernel_rfl) (by kernel_rfl) (fun _ _ _ h => h) (Or.inl ⟨by rfl, ?_⟩) (by assumption) ?_
      rotate_left 1
      · intro w hSw; (try dsimp only at hSw); go_simp; try (with_reducible rfl)
      try simp only [Act.put, List.setIfInBounds_toArray, List.set_cons_zero, List.set_cons_succ]
      refine held_take (i := 8) (v := ?_) 24 rfl rfl (by kernel_rfl) (by kernel_rfl) (by kernel_rfl) (fun _ _ _ h => h) (Or.inl ⟨by rfl, ?_⟩) (by assumption) ?_
      rotate_left 1
      · intro w hSw; (try dsimp only at hSw); go_simp; try (with_reducible rfl)
      try simp only [Act.put, List.setIfInBounds_toArray, List.set_cons_zero, List.set_cons_succ]
      refine held_take (i := 9) (v := ?_) 25 rfl rfl (by kernel_rfl) (by kernel_rfl) (by kernel_rfl) (fun _ _ _ h => h) (Or.inl ⟨by rfl, ?_⟩) (by assumption) ?_
      rotate_left 1
      · intro w hSw; (try dsimp only at hSw); go_simp; try (with_reducible rfl)
      try simp only [Act.put, List.setIfInBounds_toArray, List.set_cons_zero, List.set_cons_succ]
      refine held_take (i := 10) (v := ?_) 26 rfl rfl (by kernel_rfl) (by kernel_rfl) (by kernel_rfl) (fun _ _ _ h => h) (Or.inl ⟨by rfl, ?_⟩) (by assumption) ?_
      rotate_left 1
      · intro w hSw; (try dsimp only at hSw); go_simp; try (with_reducible rfl)
      try simp only [Act.put, List.setIfInBounds_toArray, List.set_cons_zero, List.set_cons_succ]
      have HMID := Lib.hid (HMID.out.step (Fr.refl [] wr).drew)
      have HNU := Lib.hid (HN.out u (List.mem_of_getElem? HX.out))
      refine wpAnyH_ready (rs := [6, 11]) (by kernel_rfl) (by simp) ?_
      refine AllReadyH.cons rfl (fun K hK => ?_) (AllReadyH.cons rfl (fun K hK => ?_) AllReadyH.nil)
      · go_simp
        refine hK.out _ _ (trivial) (fun hHeld => ?_)
        clear hK K
        try simp only [Act.put, List.setIfInBounds_toArray, List.set_cons_zero, List.set_cons_succ]
        refine wpAnyH_ready (rs := [7, 11]) (by kernel_rfl) (by simp) ?_
        refine AllReadyH.cons rfl (fun K hK => ?_) (AllReadyH.cons rfl (fun K hK => ?_) AllReadyH.nil)
        · go_simp
          refine (clone_str _ q1 k1 u.scopes (HRU.out.s.fr HMID.out.fr) HNU.out.1).mono ?_
          rintro e W2 ⟨v1, rfl, hs, hF2⟩
          obtain ⟨qa, ca, rfl, ha1, ha2, ha3⟩ := hs
          have HSR : Hid (SRep W2 (fun b => wr.heap.size ≤ b) (.slice qa u.scopes.length ca) u.scopes) := ⟨qa, ca, rfl, ha1, ha2, ha3⟩
          have HMID := Lib.hid (HMID.out.step hF2)
          have hgl2 : g < W2.heap.size := Nat.lt_of_lt_of_le hgl hF2.size
          have HSZ : Hid (wr.heap.size ≤ W2.heap.size) := hF2.size
          clear ha1 ha2 ha3 hF2 d1a d1b d2a d2b d3a d3b
          obtain ⟨d1a, d1b⟩ := HMID.out.cell 1 _ rfl
          obtain ⟨d2a, d2b⟩ := HMID.out.cell 2 _ rfl
          obtain ⟨d3a, d3b⟩ := HMID.out.cell 3 _ rfl
          refine hK.out _ _ (trivial) (fun hHeld => ?_)
          clear hK K
          try simp only [Act.put, List.setIfInBounds_toArray, List.set_cons_zero, List.set_cons_succ]
          refine wpAnyH_ready (rs := [11]) (by kernel_rfl) (by simp) ?_
          refine AllReadyH.cons rfl (fun K hK => ?_) AllReadyH.nil
          go_simp
          refine hK.out _ _ (trivial) (fun hHeld => ?_)
          clear hK K
          try simp only [Act.put, List.setIfInBounds_toArray, List.set_cons_zero, List.set_cons_succ]
          refine wpAnyH_ready (rs := [12]) (by kernel_rfl) (by simp) ?_
          refine AllReadyH.cons rfl (fun K hK => ?_) AllReadyH.nil
          go_simp
          refine (pol_plain _ q2 k2 fe u.when_ (HRU.out.l.fr HMID.out.fr) HNU.out.2.1 HNU.out.2.2).mono ?_
          rintro e W3 ⟨v2, rfl, hl2, hF3⟩
          obtain ⟨qb, cb, hqb⟩ := hl2.shape
          subst hqb
          have HLR : Hid (LRep W3 (fun b => wr.heap.size ≤ b) (.slice qb (Ex.plains u.when_).length cb) (Ex.plains u.when_)) := Rep.mono (fun b _ hb => by have hb9 : W2.heap.size ≤ b := hb; have := HSZ.out; omega) hl2
          have HSR3 : Hid (SRep W3 (fun b => wr.heap.size ≤ b) (.slice qa u.scopes.length ca) u.scopes) := HSR.out.fr hF3 (fun y hy => by cases hy)
          have HMID := Lib.hid (HMID.out.step hF3)
          have hgl3 : g < W3.heap.size := Nat.lt_of_lt_of_le hgl2 hF3.size
          clear hl2 hF3 d1a d1b d2a d2b d3a d3b
          obtain ⟨d1a, d1b⟩ := HMID.out.cell 1 _ rfl
          obtain ⟨d2a, d2b⟩ := HMID.out.cell 2 _ rfl
          obtain ⟨d3a, d3b⟩ := HMID.out.cell 3 _ rfl
          refine hK.out _ _ (trivial) (fun hHeld => ?_)
          clear hK K
          try simp only [Act.put, List.setIfInBounds_toArray, List.set_cons_zero, List.set_cons_succ]
          refine held_take (i := 13) (v := ?_) 29 rfl rfl (by kernel_rfl) (by kernel_rfl) (by kernel_rfl) (fun _ _ _ h => h) (Or.inl ⟨by rfl, ?_⟩) (by assumption) ?_
          rotate_left 1
          · intro w hSw; (try dsimp only at hSw); go_simp; try (with_reducible rfl)
          try simp only [Act.put, List.setIfInBounds_toArray, List.set_cons_zero, List.set_cons_succ]
          refine held_take (i := 14) (v := ?_) 30 rfl rfl (by kernel_rfl) (by kernel_rfl) (by kernel_rfl) (fun _ _ _ h => h) (Or.inl ⟨by rfl, ?_⟩) (by assumption) ?_
          rotate_left 1
          · intro w hSw; (try dsimp only at hSw); go_simp; try (with_reducible rfl)
          try simp only [Act.put, List.setIfInBounds_toArray, List.set_cons_zero, List.set_cons_succ]
          refine wpAnyH_ready (rs := [15]) (by kernel_rfl) (by simp) ?_
          refine AllReadyH.cons rfl (fun K hK => ?_) AllReadyH.nil
          go_simp
          refine hK.out _ _ (trivial) (fun hHeld => ?_)
          clear hK K
          try simp only [Act.put, List.setIfInBounds_toArray, List.set_cons_zero, List.set_cons_succ]
          refine held_take (i := 16) (v := ?_) 31 rfl rfl (by kernel_rfl) (by kernel_rfl) (by kernel_rfl) (fun _ _ _ h => h) (Or.inl ⟨by rfl, ?_⟩) (by assumption) ?_
          rotate_left 1
          · intro w hSw; (try dsimp only at hSw); go_simp; try (with_reducible rfl)
          try simp only [Act.put, List.setIfInBounds_toArray, List.set_cons_zero, List.set_cons_succ]
          refine held_take (i := 17) (v := ?_) 32 rfl rfl (by kernel_rfl) (by kernel_rfl) (by kernel_rfl) (fun _ _ _ h => h) (Or.inl ⟨by rfl, ?_⟩) (by assumption) ?_
          rotate_left 1
          · intro w hSw; (try dsimp only at hSw); go_simp; try (with_reducible rfl)
          try simp only [Act.put, List.setIfInBounds_toArray, List.set_cons_zero, List.set_cons_succ]
          refine wpAnyH_ready (rs := [18]) (by kernel_rfl) (by simp) ?_
          refine AllReadyH.cons rfl (fun K hK => ?_) AllReadyH.nil
          go_simp
          refine hK.out _ _ (trivial) (fun hHeld => ?_)
          clear hK K
          try simp only [Act.put, List.setIfInBounds_toArray, List.set_cons_zero, List.set_cons_succ]
          refine held_take (i := 19) (v := ?_) 33 rfl rfl (by kernel_rfl) (by kernel_rfl) (by kernel_rfl) (fun _ _ _ h => h) (Or.inl ⟨by rfl, ?_⟩) (by assumption) ?_
          rotate_left 1
          · intro w hSw; (try dsimp only at hSw); go_simp; try (with_reducible rfl)
          try simp only [Act.put, List.setIfInBounds_toArray, List.set_cons_zero, List.set_cons_succ]
          refine held_take (i := 20) (v := ?_) 34 rfl rfl (by kernel_rfl) (by kernel_rfl) (by kernel_rfl) (fun _ _ _ h => h) (Or.inl ⟨by rfl, ?_⟩) (by assumption) ?_
          rotate_left 1
          · intro w hSw; (try dsimp only at hSw); go_simp; try (with_reducible rfl)
          try simp only [Act.put, List.setIfInBounds_toArray, List.set_cons_zero, List.set_cons_succ]
          refine wpAnyH_ready (rs := [21]) (by kernel_rfl) (by simp) ?_
          refine AllReadyH.cons rfl (fun K hK => ?_) AllReadyH.nil
          go_simp
          refine hK.out _ _ (trivial) (fun hHeld => ?_)
          clear hK K
          try simp only [Act.put, List.setIfInBounds_toArray, List.set_cons_zero, List.set_cons_succ]
          refine wpAnyH_done (by kernel_rfl) ?_ _
          have HM3 := Lib.hid (((HMID.out.store 3 (by omega) (.int .i64 0)).store 1 (by omega) (.slice qa u.scopes.length ca)).store 2 (by omega) (.slice qb (Ex.plains u.when_).length cb))
          go_wp2_with fail
          go_roundg (L.length - (k + 1))
          case measure => have := HM.out; omega
          case rel =>
            refine ⟨k + 1, _, by omega, rfl, by go_num, HM3.out.done HX.out ?_⟩
            have hff : Fr [g] W3 (((W3.setCell ⟨g, k * 4 + 3, none⟩ (.int .i64 0)).setCell ⟨g, k * 4 + 1, none⟩ (.slice qa u.scopes.length ca)).setCell ⟨g, k * 4 + 2, none⟩ (.slice qb (Ex.plains u.when_).length cb)) :=
              (((Fr.refl [g] W3).setCell (p := ⟨g, k * 4 + 3, none⟩) (.inl (by simp)) _).setCell (p := ⟨g, k * 4 + 1, none⟩) (.inl (by simp)) _).setCell (p := ⟨g, k * 4 + 2, none⟩) (.inl (by simp)) _
            have hD : ∀ b, b < W3.heap.size → wr.heap.size ≤ b → (w.heap.size ≤ b ∧ b ≠ g) := fun b _ hb => ⟨by omega, by omega⟩
            exact ⟨_, _, rfl, (HSR3.out.mono hD).fr hff (fun y hy _ hc => hc.2 (by simpa using hy)), Rep.fr hff (fun y hy _ hc => hc.2 (by simpa using hy)) (Rep.mono hD HLR.out)⟩
        · go_simp
          refine hK.out _ _ (trivial) (fun hHeld => ?_)
          clear hK K
          try simp only [Act.put, List.setIfInBounds_toArray, List.set_cons_zero, List.set_cons_succ]
          refine wpAnyH_ready (rs := [7]) (by kernel_rfl) (by simp) ?_
          refine AllReadyH.cons rfl (fun K hK => ?_) AllReadyH.nil
          go_simp
          refine (clone_str _ q1 k1 u.scopes (HRU.out.s.fr HMID.out.fr) HNU.out.1).mono ?_
          rintro e W2 ⟨v1, rfl, hs, hF2⟩
          obtain ⟨qa, ca, rfl, ha1, ha2, ha3⟩ := hs
          have HSR : Hid (SRep W2 (fun b => wr.heap.size ≤ b) (.slice qa u.scopes.length ca) u.scopes) := ⟨qa, ca, rfl, ha1, ha2, ha3⟩
          have HMID := Lib.hid (HMID.out.step hF2)
          have hgl2 : g < W2.heap.size := Nat.lt_of_lt_of_le hgl hF2.size
          have HSZ : Hid (wr.heap.size ≤ W2.heap.size) := hF2.size
          clear ha1 ha2 ha3 hF2 d1a d1b d2a d2b d3a d3b
          obtain ⟨d1a, d1b⟩ := HMID.out.cell 1 _ rfl
          obtain ⟨d2a, d2b⟩ := HMID.out.cell 2 _ rfl
          obtain ⟨d3a, d3b⟩ := HMID.out.cell 3 _ rfl
          refine hK.out _ _ (trivial) (fun hHeld => ?_)
          clear hK K
          try simp only [Act.put, List.setIfInBounds_toArray, List.set_cons_zero, List.set_cons_succ]
          refine wpAnyH_ready (rs := [12]) (by kernel_rfl) (by simp) ?_
          refine AllReadyH.cons rfl (fun K hK => ?_) AllReadyH.nil
          go_simp
          refine (pol_plain _ q2 k2 fe u.when_ (HRU.out.l.fr HMID.out.fr) HNU.out.2.1 HNU.out.2.2).mono ?_
          rintro e W3 ⟨v2, rfl, hl2, hF3⟩
          obtain ⟨qb, cb, hqb⟩ := hl2.shape
          subst hqb
          have HLR : Hid (LRep W3 (fun b => wr.heap.size ≤ b) (.slice qb (Ex.plains u.when_).length cb) (Ex.plains u.when_)) := Rep.mono (fun b _ hb => by have hb9 : W2.heap.size ≤ b := hb; have := HSZ.out; omega) hl2
          have HSR3 : Hid (SRep W3 (fun b => wr.heap.size ≤ b) (.slice qa u.scopes.length ca) u.scopes) := HSR.out.fr hF3 (fun y hy => by cases hy)
          have HMID := Lib.hid (HMID.out.step hF3)
          have hgl3 : g < W3.heap.size := Nat.lt_of_lt_of_le hgl2 hF3.size
          clear hl2 hF3 d1a d1b d2a d2b d3a d3b
          obtain ⟨d1a, d1b⟩ := HMID.out.cell 1 _ rfl
          obtain ⟨d2a, d2b⟩ := HMID.out.cell 2 _ rfl
          obtain ⟨d3a, d3b⟩ := HMID.out.cell 3 _ rfl
          refine hK.out _ _ (trivial) (fun hHeld => ?_)
          clear hK K
          try simp only [Act.put, List.setIfInBounds_toArray, List.set_cons_zero, List.set_cons_succ]
          refine held_take (i := 13) (v := ?_) 29 rfl rfl (by kernel_rfl) (by kernel_rfl) (by kernel_rfl) (fun _ _ _ h => h) (Or.inl ⟨by rfl, ?_⟩) (by assumption) ?_
          rotate_left 1
          · intro w hSw; (try dsimp only at hSw); go_simp; try (with_reducible rfl)
          try simp only [Act.put, List.setIfInBounds_toArray, List.set_cons_zero, List.set_cons_succ]
          refine held_take (i := 14) (v := ?_) 30 rfl rfl (by kernel_rfl) (by kernel_rfl) (by kernel_rfl) (fun _ _ _ h => h) (Or.inl ⟨by rfl, ?_⟩) (by assumption) ?_
          rotate_left 1
          · intro w hSw; (try dsimp only at hSw); go_simp; try (with_reducible rfl)
          try simp only [Act.put, List.setIfInBounds_toArray, List.set_cons_zero, List.set_cons_succ]
          refine wpAnyH_ready (rs := [15]) (by kernel_rfl) (by simp) ?_
          refine AllReadyH.cons rfl (fun K hK => ?_) AllReadyH.nil
          go_simp
          refine hK.out _ _ (trivial) (fun hHeld => ?_)
          clear hK K
          try simp only [Act.put, List.setIfInBounds_toArray, List.set_cons_zero, List.set_cons_succ]
          refine held_take (i := 16) (v := ?_) 31 rfl rfl (by kernel_rfl) (by kernel_rfl) (by kernel_rfl) (fun _ _ _ h => h) (Or.inl ⟨by rfl, ?_⟩) (by assumption) ?_
          rotate_left 1
          · intro w hSw; (try dsimp only at hSw); go_simp; try (with_reducible rfl)
          try simp only [Act.put, List.setIfInBounds_toArray, List.set_cons_zero, List.set_cons_succ]
          refine held_take (i := 17) (v := ?_) 32 rfl rfl (by kernel_rfl) (by kernel_rfl) (by kernel_rfl) (fun _ _ _ h => h) (Or.inl ⟨by rfl, ?_⟩) (by assumption) ?_
          rotate_left 1
          · intro w hSw; (try dsimp only at hSw); go_simp; try (with_reducible rfl)
          try simp only [Act.put, List.setIfInBounds_toArray, List.set_cons_zero, List.set_cons_succ]
          refine wpAnyH_ready (rs := [18]) (by kernel_rfl) (by simp) ?_
          refine AllReadyH.cons rfl (fun K hK => ?_) AllReadyH.nil
          go_simp
          refine hK.out _ _ (trivial) (fun hHeld => ?_)
          clear hK K
          try simp only [Act.put, List.setIfInBounds_toArray, List.set_cons_zero, List.set_cons_succ]
          refine held_take (i := 19) (v := ?_) 33 rfl rfl (by kernel_rfl) (by kernel_rfl) (by kernel_rfl) (fun _ _ _ h => h) (Or.inl ⟨by rfl, ?_⟩) (by assumption) ?_
          rotate_left 1
          · intro w hSw; (try dsimp only at hSw); go_simp; try (with_reducible rfl)
          try simp only [Act.put, List.setIfInBounds_toArray, List.set_cons_zero, List.set_cons_succ]
          refine held_take (i := 20) (v := ?_) 34 rfl rfl (by kernel_rfl) (by kernel_rfl) (by kernel_rfl) (fun _ _ _ h => h) (Or.inl ⟨by rfl, ?_⟩) (by assumption) ?_
          rotate_left 1
          · intro w hSw; (try dsimp only at hSw); go_simp; try (with_reducible rfl)
          try simp only [Act.put, List.setIfInBounds_toArray, List.set_cons_zero, List.set_cons_succ]
          refine wpAnyH_ready (rs := [21]) (by kernel_rfl) (by simp) ?_
          refine AllReadyH.cons rfl (fun K hK => ?_) AllReadyH.nil
          go_simp
          refine hK.out _ _ (trivial) (fun hHeld => ?_)
          clear hK K
          try simp only [Act.put, List.setIfInBounds_toArray, List.set_cons_zero, List.set_cons_succ]
          refine wpAnyH_done (by kernel_rfl) ?_ _
          have HM3 := Lib.hid (((HMID.out.store 3 (by omega) (.int .i64 0)).store 1 (by omega) (.slice qa u.scopes.length ca)).store 2 (by omega) (.slice qb (Ex.plains u.when_).length cb))
          go_wp2_with fail
          go_roundg (L.length - (k + 1))
          case measure => have := HM.out; omega
          case rel =>
            refine ⟨k + 1, _, by omega, rfl, by go_num, HM3.out.done HX.out ?_⟩
            have hff : Fr [g] W3 (((W3.setCell ⟨g, k * 4 + 3, none⟩ (.int .i64 0)).setCell ⟨g, k * 4 + 1, none⟩ (.slice qa u.scopes.length ca)).setCell ⟨g, k * 4 + 2, none⟩ (.slice qb (Ex.plains u.when_).length cb)) :=
              (((Fr.refl [g] W3).setCell (p := ⟨g, k * 4 + 3, none⟩) (.inl (by simp)) _).setCell (p := ⟨g, k * 4 + 1, none⟩) (.inl (by simp)) _).setCell (p := ⟨g, k * 4 + 2, none⟩) (.inl (by simp)) _
            have hD : ∀ b, b < W3.heap.size → wr.heap.size ≤ b → (w.heap.size ≤ b ∧ b ≠ g) := fun b _ hb => ⟨by omega, by omega⟩
            exact ⟨_, _, rfl, (HSR3.out.mono hD).fr hff (fun y hy _ hc => hc.2 (by simpa using hy)), Rep.fr hff (fun y hy _ hc => hc.2 (by simpa using hy)) (Rep.mono hD HLR.out)⟩
      · go_simp
        refine hK.out _ _ (trivial) (fun hHeld => ?_)
        clear hK K
        try simp only [Act.put, List.setIfInBounds_toArray, List.set_cons_zero, List.set_cons_succ]
        refine wpAnyH_ready (rs := [6]) (by kernel_rfl) (by simp) ?_
        refine AllReadyH.cons rfl (fun K hK => ?_) AllReadyH.nil
        go_simp
        refine hK.out _ _ (trivial) (fun hHeld => ?_)
        clear hK K
        try simp only [Act.put, List.setIfInBounds_toArray, List.set_cons_zero, List.set_cons_succ]
        refine wpAnyH_ready (rs := [7]) (by kernel_rfl) (by simp) ?_
        refine AllReadyH.cons rfl (fun K hK => ?_) AllReadyH.nil
        go_simp
        refine (clone_str _ q1 k1 u.scopes (HRU.out.s.fr HMID.out.fr) HNU.out.1).mono ?_
        rintro e W2 ⟨v1, rfl, hs, hF2⟩
        obtain ⟨qa, ca, rfl, ha1, ha2, ha3⟩ := hs
        have HSR : Hid (SRep W2 (fun b => wr.heap.size ≤ b) (.slice qa u.scopes.length ca) u.scopes) := ⟨qa, ca, rfl, ha1, ha2, ha3⟩
        have HMID := Lib.hid (HMID.out.step hF2)
        have hgl2 : g < W2.heap.size := Nat.lt_of_lt_of_le hgl hF2.size
        have HSZ : Hid (wr.heap.size ≤ W2.heap.size) := hF2.size
        clear ha1 ha2 ha3 hF2 d1a d1b d2a d2b d3a d3b
        obtain ⟨d1a, d1b⟩ := HMID.out.cell 1 _ rfl
        obtain ⟨d2a, d2b⟩ := HMID.out.cell 2 _ rfl
        obtain ⟨d3a, d3b⟩ := HMID.out.cell 3 _ rfl
        refine hK.out _ _ (trivial) (fun hHeld => ?_)
        clear hK K
        try simp only [Act.put, List.setIfInBounds_toArray, List.set_cons_zero, List.set_cons_succ]
        refine wpAnyH_ready (rs := [12]) (by kernel_rfl) (by simp) ?_
        refine AllReadyH.cons rfl (fun K hK => ?_) AllReadyH.nil
        go_simp
        refine (pol_plain _ q2 k2 fe u.when_ (HRU.out.l.fr HMID.out.fr) HNU.out.2.1 HNU.out.2.2).mono ?_
        rintro e W3 ⟨v2, rfl, hl2, hF3⟩
        obtain ⟨qb, cb, hqb⟩ := hl2.shape
        subst hqb
        have HLR : Hid (LRep W3 (fun b => wr.heap.size ≤ b) (.slice qb (Ex.plains u.when_).length cb) (Ex.plains u.when_)) := Rep.mono (fun b _ hb => by have hb9 : W2.heap.size ≤ b := hb; have := HSZ.out; omega) hl2
        have HSR3 : Hid (SRep W3 (fun b => wr.heap.size ≤ b) (.slice qa u.scopes.length ca) u.scopes) := HSR.out.fr hF3 (fun y hy => by cases hy)
        have HMID := Lib.hid (HMID.out.step hF3)
        have hgl3 : g < W3.heap.size := Nat.lt_of_lt_of_le hgl2 hF3.size
        clear hl2 hF3 d1a d1b d2a d2b d3a d3b
        obtain ⟨d1a, d1b⟩ := HMID.out.cell 1 _ rfl
        obtain ⟨d2a, d2b⟩ := HMID.out.cell 2 _ rfl
        obtain ⟨d3a, d3b⟩ := HMID.out.cell 3 _ rfl
        refine hK.out _ _ (trivial) (fun hHeld => ?_)
        clear hK K
        try simp only [Act.put, List.setIfInBounds_toArray, List.set_cons_zero, List.set_cons_succ]
        refine held_take (i := 13) (v := ?_) 29 rfl rfl (by kernel_rfl) (by kernel_rfl) (by kernel_rfl) (fun _ _ _ h => h) (Or.inl ⟨by rfl, ?_⟩) (by assumption) ?_
        rotate_left 1
        · intro w hSw; (try dsimp only at hSw); go_simp; try (with_reducible rfl)
        try simp only [Act.put, List.setIfInBounds_toArray, List.set_cons_zero, List.set_cons_succ]
        refine held_take (i := 14) (v := ?_) 30 rfl rfl (by kernel_rfl) (by kernel_rfl) (by kernel_rfl) (fun _ _ _ h => h) (Or.inl ⟨by rfl, ?_⟩) (by assumption) ?_
        rotate_left 1
        · intro w hSw; (try dsimp only at hSw); go_simp; try (with_reducible rfl)
        try simp only [Act.put, List.setIfInBounds_toArray, List.set_cons_zero, List.set_cons_succ]
        refine wpAnyH_ready (rs := [15]) (by kernel_rfl) (by simp) ?_
        refine AllReadyH.cons rfl (fun K hK => ?_) AllReadyH.nil
        go_simp
        refine hK.out _ _ (trivial) (fun hHeld => ?_)
        clear hK K
        try simp only [Act.put, List.setIfInBounds_toArray, List.set_cons_zero, List.set_cons_succ]
        refine held_take (i := 16) (v := ?_) 31 rfl rfl (by kernel_rfl) (by kernel_rfl) (by kernel_rfl) (fun _ _ _ h => h) (Or.inl ⟨by rfl, ?_⟩) (by assumption) ?_
        rotate_left 1
        · intro w hSw; (try dsimp only at hSw); go_simp; try (with_reducible rfl)
        try simp only [Act.put, List.setIfInBounds_toArray, List.set_cons_zero, List.set_cons_succ]
        refine held_take (i := 17) (v := ?_) 32 rfl rfl (by kernel_rfl) (by kernel_rfl) (by kernel_rfl) (fun _ _ _ h => h) (Or.inl ⟨by rfl, ?_⟩) (by assumption) ?_
        rotate_left 1
        · intro w hSw; (try dsimp only at hSw); go_simp; try (with_reducible rfl)
        try simp only [Act.put, List.setIfInBounds_toArray, List.set_cons_zero, List.set_cons_succ]
        refine wpAnyH_ready (rs := [18]) (by kernel_rfl) (by simp) ?_
        refine AllReadyH.cons rfl (fun K hK => ?_) AllReadyH.nil
        go_simp
        refine hK.out _ _ (trivial) (fun hHeld => ?_)
        clear hK K
        try simp only [Act.put, List.setIfInBounds_toArray, List.set_cons_zero, List.set_cons_succ]
        refine held_take (i := 19) (v := ?_) 33 rfl rfl (by kernel_rfl) (by kernel_rfl) (by kernel_rfl) (fun _ _ _ h => h) (Or.inl ⟨by rfl, ?_⟩) (by assumption) ?_
        rotate_left 1
        · intro w hSw; (try dsimp only at hSw); go_simp; try (with_reducible rfl)
        try simp only [Act.put, List.setIfInBounds_toArray, List.set_cons_zero, List.set_cons_succ]
        refine held_take (i := 20) (v := ?_) 34 rfl rfl (by kernel_rfl) (by kernel_rfl) (by kernel_rfl) (fun _ _ _ h => h) (Or.inl ⟨by rfl, ?_⟩) (by assumption) ?_
        rotate_left 1
        · intro w hSw; (try dsimp only at hSw); go_simp; try (with_reducible rfl)
        try simp only [Act.put, List.setIfInBounds_toArray, List.set_cons_zero, List.set_cons_succ]
        refine wpAnyH_ready (rs := [21]) (by kernel_rfl) (by simp) ?_
        refine AllReadyH.cons rfl (fun K hK => ?_) AllReadyH.nil
        go_simp
        refine hK.out _ _ (trivial) (fun hHeld => ?_)
        clear hK K
        try simp only [Act.put, List.setIfInBounds_toArray, List.set_cons_zero, List.set_cons_succ]
        refine wpAnyH_done (by kernel_rfl) ?_ _
        have HM3 := Lib.hid (((HMID.out.store 3 (by omega) (.int .i64 0)).store 1 (by omega) (.slice qa u.scopes.length ca)).store 2 (by omega) (.slice qb (Ex.plains u.when_).length cb))
        go_wp2_with fail
        go_roundg (L.length - (k + 1))
        case measure => have := HM.out; omega
        case rel =>
          refine ⟨k + 1, _, by omega, rfl, by go_num, HM3.out.done HX.out ?_⟩
          have hff : Fr [g] W3 (((W3.setCell ⟨g, k * 4 + 3, none⟩ (.int .i64 0)).setCell ⟨g, k * 4 + 1, none⟩ (.slice qa u.scopes.length ca)).setCell ⟨g, k * 4 + 2, none⟩ (.slice qb (Ex.plains u.when_).length cb)) :=
            (((Fr.refl [g] W3).setCell (p := ⟨g, k * 4 + 3, none⟩) (.inl (by simp)) _).setCell (p := ⟨g, k * 4 + 1, none⟩) (.inl (by simp)) _).setCell (p := ⟨g, k * 4 + 2, none⟩) (.inl (by simp)) _
          have hD : ∀ b, b < W3.heap.size → wr.heap.size ≤ b → (w.heap.size ≤ b ∧ b ≠ g) := fun b _ hb => ⟨by omega, by omega⟩
          exact ⟨_, _, rfl, (HSR3.out.mono hD).fr hff (fun y hy _ hc => hc.2 (by simpa using hy)), Rep.fr hff (fun y hy _ hc => hc.2 (by simpa using hy)) (Rep.mono hD HLR.out)⟩
    · have hlt' : ¬ (k : Int) < (L.length : Int) := by omega
      go_wp2_with fail
      go_ret
      have hke : k = L.length := by omega
      subst hke
      exact ⟨_, rfl, H.out.out, H.out.fr⟩
end Go.Proofs.YtgklmpooonnmiaaDoor

namespace Go.Proofs.YtgklmpooonnmiaaDoor
open Go.RowKit
set_option maxHeartbeats 4000000 in
set_option maxRecDepth 100000 in
theorem pol_quoted (w : World) (s : ByteArray) (hs : s.size ≤ 100000000) (hL : Least w) : Calls Tryd.prog 95 #[.string s] w fun e w' => e = .returned (.bool (Lex.quote s).isSome) ∧ Fr [] w w' := by
  have HQ := Lib.hid (lex_quote w s hs hL)
  clear hL
  go_enter Tryd.func95, Tryd.ntmps95
  go_wp2_with fail
  refine HQ.out.mono ?_
  rintro e w1 ⟨rfl, hF⟩
  have HF := Lib.hid hF
  clear hF
  show _
  go_wp2_with fail
  refine bodyPost_ret (results_tmp rfl _ _ _) rfl ?_
  exact ⟨rfl, HF.out⟩
end Go.Proofs.YtgklmpooonnmiaaDoor

namespace Go.Proofs.YtgklmpooonnmiaaDoor
open Go.RowKit
/-- is there a text that cannot be quoted? -/
def unq (A : List ByteArray) : Bool := A.any fun s => !(Lex.quote s).isSome
set_option maxHeartbeats 4000000 in
theorem right_f (w : World) (s : ByteArray) (hs : s.size ≤ 100000000) (hL : Least w) : Calls Tryd.prog 94 #[.string s] w fun e w' => e = .returned (.bool (!(Lex.quote s).isSome)) ∧ Fr [] w w' := by
  have HQ := Lib.hid (pol_quoted w s hs hL)
  obtain ⟨z, hz⟩ : ∃ z, (Lex.quote s).isSome = z := ⟨_, rfl⟩
  rw [hz] at HQ ⊢
  clear hL hz
  go_enter Tryd.func94, Tryd.ntmps94
  go_wp2_with fail
  refine HQ.out.mono ?_
  rintro e W ⟨rfl, hF⟩
  have HF := Lib.hid hF
  clear hF
  go_wp2_with fail
  go_ret
  exact ⟨rfl, HF.out⟩
theorem unq_drop {A : List ByteArray} {k : Nat} {s : ByteArray} (h : A[k]? = some s) : unq (A.drop k) = (!(Lex.quote s).isSome || unq (A.drop (k + 1))) := by
  obtain ⟨h1, rfl⟩ := List.getElem?_eq_some_iff.1 h
  rw [List.drop_eq_getElem_cons h1]
  rfl
set_option maxHeartbeats 4000000 in
set_option maxRecDepth 100000 in
theorem index_f (w : World) (q : Option Addr) (c : Nat) (A : List ByteArray) (h : SA w q c A) (hs : ∀ s ∈ A, s.size ≤ 100000000) (hL : Least w) :
    Calls Tryd.prog 105 #[.slice q A.length c, .func (.func 94) #[] #[]] w fun e w' => ∃ n : Int, e = .returned (.int .i64 n) ∧ unq A = decide (0 ≤ n) ∧ Fr [] w w' := by
  have HL := Lib.hid h
  have HS := Lib.hid hs
  have HLE := Lib.hid hL
  have hb : A.length ≤ 9223372036854775807 := by have h1 := h.hc; have h2 := h.hm; unfold maxLen at h2; omega
  clear h hs hL
  go_enter Tryd.func105, Tryd.ntmps105
  go_wp2_with fail
  go_loopg [8] A.length (fun m s8 W => ∃ k : Nat, k ≤ A.length ∧ m = A.length - k ∧ s8 = .int .i64 k ∧ Hid (Fr [] w W) ∧ Hid (unq A = unq (A.drop k)))
  case atStart => exact ⟨0, by omega, by omega, rfl, Fr.refl _ _, rfl⟩
  case round =>
    obtain ⟨k, hk, hm, rfl, HF, HE⟩ := hrel
    have HM := Lib.hid hm
    clear hm
    by_cases hlt : k < A.length
    · have hlt' : (k : Int) < (A.length : Int) := by omega
      have hk0 : (0 : Int) ≤ (k : Int) := by omega
      obtain ⟨s, hx⟩ : ∃ x, A[k]? = some x := ⟨_, List.getElem?_eq_getElem hlt⟩
      obtain ⟨b, o, rfl, a0⟩ := (HL.out.fr HF.out).hr k s hx
      have HD := Lib.hid (unq_drop hx)
      have HCL := Lib.hid (right_f wr s (HS.out s (List.mem_of_getElem? hx)) (HLE.out.fr HF.out (by simp)))
      obtain ⟨z, hz⟩ : ∃ z, (!(Lex.quote s).isSome) = z := ⟨_, rfl⟩
      rw [hz] at HCL HD
      clear hx hz
      go_wp2_with fail
      refine HCL.out.mono ?_
      rintro e w2 ⟨rfl, hF2⟩
      have HF2 := Lib.hid (HF.out.trans0 hF2)
      clear hF2 HCL
      cases z
      · have HEE : Hid (unq A = unq (A.drop (k + 1))) := by show _ = _; rw [HE.out, HD.out, Bool.false_or]
        go_wp2_with fail
        go_roundg (A.length - (k + 1))
        case measure => have := HM.out; omega
        case rel => exact ⟨k + 1, by omega, rfl, by go_num, HF2.out, HEE.out⟩
      · have HEE : Hid (unq A = true) := by show _ = _; rw [HE.out, HD.out, Bool.true_or]
        go_wp2_with fail
        go_ret
        exact ⟨k, rfl, by rw [HEE.out]; simp, HF2.out⟩
    · have HEE : Hid (unq A = false) := by show _ = _; rw [HE.out, List.drop_eq_nil_of_le (by omega)]; rfl
      have hlt' : ¬ (k : Int) < (A.length : Int) := by omega
      go_wp2_with fail
      go_ret
      exact ⟨-1, rfl, by rw [HEE.out]; rfl, HF.out⟩
set_option maxHeartbeats 4000000 in
theorem contains_f (w : World) (q : Option Addr) (c : Nat) (A : List ByteArray) (h : SA w q c A) (hs : ∀ s ∈ A, s.size ≤ 100000000) (hL : Least w) :
    Calls Tryd.prog 93 #[.slice q A.length c, .func (.func 94) #[] #[]] w fun e w' => e = .returned (.bool (unq A)) ∧ Fr [] w w' := by
  have HC := Lib.hid (index_f w q c A h hs hL)
  clear h hs hL
  go_enter Tryd.func93, Tryd.ntmps93
  go_wp2_with fail
  refine HC.out.mono ?_
  rintro e W ⟨n, rfl, hn, hF⟩
  have HF := Lib.hid hF
  have HN := Lib.hid hn
  clear hF hn
  by_cases h0 : n ≥ 0
  · go_wp2_with fail
    go_ret
    exact ⟨by rw [HN.out]; simp [h0], HF.out⟩
  · go_wp2_with fail
    go_ret
    exact ⟨by rw [HN.out]; simp [h0], HF.out⟩
end Go.Proofs.YtgklmpooonnmiaaDoor
