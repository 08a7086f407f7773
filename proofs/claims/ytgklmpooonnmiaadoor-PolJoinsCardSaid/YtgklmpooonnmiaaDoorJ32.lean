/-
  Lemmas and contracts that the proofs over this seat use (PolAnyR, PolJoinsP); no statement of the seat is claimed in this text, and nothing is assumed in it.
-/
import Derived.Test.YtgklmpooonnmiaaDoorJ31
import Derived.Test.YtgklmpooonnmiaaDoorJ28
import Derived.Test.YtgklmpooonnmiaaDoorJ29
import Derived.BigFrame
import Derived.Laws.OwnMore
set_option linter.unusedVariables false
set_option linter.unusedSimpArgs false
namespace Go.Proofs.YtgklmpooonnmiaaDoor
open Go.RowKit
theorem addr_addS (b o j : Nat) : (⟨b, o, none⟩ : Addr).add j = ⟨b, o + j, none⟩ := by
 unfold Addr.add
 split <;> simp_all
theorem LRep.la {w : World} {D : Nat → Prop} {v : Value} {L : List Ex} (h : LRep w D v L) : ∃ q c f, v = .slice q L.length c ∧ LA w q c f L := by
 have h1 : RepA w [.int .i64 0, .string ⟨#[]⟩, .int .i64 0, v, .int .i64 0] (.mk 0 ⟨#[]⟩ 0 L 0) := Rep.any h
 cases h1 with
 | mk _ _ _ _ _ q c f hc hm hr hx => exact ⟨q, c, f, rfl, hc, hm, hr, hx⟩
theorem SRep.sa {w : World} {D : Nat → Prop} {v : Value} {A : List ByteArray} (h : SRep w D v A) : ∃ q c, v = .slice q A.length c ∧ SA w q c A := by
 obtain ⟨q, c, hv, hc, hm, hr⟩ := h
 refine ⟨q, c, hv, hc, hm, fun j s hj => ?_⟩
 obtain ⟨g, hq, _, _, hcell⟩ := hr j s hj
 exact ⟨g, 0, hq, by rw [Nat.zero_add]; exact hcell⟩
theorem RuRep.ra {w : World} {D : Nat → Prop} {cs : List Value} {u : Ru} (h : RuRep w D cs u) : ∃ q1 c1 q2 c2 g, RuA w cs u q1 c1 q2 c2 g := by
 obtain ⟨v1, v2, hcs, hs, hl⟩ := h
 obtain ⟨q1, c1, rfl, h1⟩ := hs.sa
 obtain ⟨q2, c2, f, rfl, h2⟩ := LRep.la hl
 exact ⟨q1, c1, q2, c2, f, hcs, h1, h2⟩
theorem RsRep.ra {w : World} {D : Nat → Prop} {v : Value} {L : List Ru} (h : RsRep w D v L) : ∃ q c f, v = .slice q L.length c ∧ RsA w q c f L := by
 obtain ⟨q, c, f, hv, hc, hm, hr, hx, _⟩ := h
 refine ⟨q, c, f, hv, hc, hm, fun i u hi => ?_, fun i u hi => (hx i u hi).ra⟩
 obtain ⟨g, hq, hg, hd, hrange⟩ := hr i u hi
 obtain ⟨v1, v2, hcs, _, _⟩ := hx i u hi
 have hadd : (⟨g, 0, none⟩ : Addr).add (i * 4) = ⟨g, 4 * i, none⟩ := by rw [addr_addS, Nat.zero_add, Nat.mul_comm]
 rw [hcs] at hrange
 refine ⟨⟨g, 0, none⟩, hq, ?_⟩
 rw [hadd, hcs]
 exact ⟨_, _, _, _, rfl, by simpa using hrange 0 _ rfl, hrange 1 _ rfl, hrange 2 _ rfl, hrange 3 _ rfl⟩
end Go.Proofs.YtgklmpooonnmiaaDoor

namespace Go.Proofs.YtgklmpooonnmiaaDoor
open Go.RowKit
theorem rules_most : ∀ (k F : Nat) (acc A : List Ru) (l : List TI), acc.length ≤ 16 → Pol.rules k F acc l = .ok A → A.length ≤ 16 := by
 intro k
 induction k with
 | zero => intro F acc A l _ h; simp [Pol.rules] at h
 | succ k ih =>
  intro F acc A l ha h
  cases l with
  | nil => simp [Pol.rules] at h
  | cons t m =>
   rw [Pol.rules] at h
   split at h
   ·cases h; exact ha
   ·split at h
    ·cases h
    ·rename_i h16
     split at h
     ·cases h
     ·rename_i x q hx
      refine ih F _ A q ?_ h
      have hpd : Pol.is (t :: m) 1 [112, 101, 114, 109, 105, 116] = true ∨ Pol.is (t :: m) 1 [100, 101, 110, 121] = true := by
       unfold Pol.rule at hx
       split at hx
       ·assumption
       ·cases hx
      have : acc.length ≠ 16 := fun hc => h16 ⟨hc, hpd⟩
      rw [List.length_append]; simp; omega
theorem parse_most {s : ByteArray} {R : List Ru} (h : Pol.parse s = (.ok, R)) : R.length ≤ 16 := by
 obtain ⟨l, _, hr⟩ := Pol.parse_ok h
 exact rules_most _ _ [] R _ (by simp) hr
theorem parse_size {s : ByteArray} {R : List Ru} (h : Pol.parse s = (.ok, R)) : s.size ≤ 2048 := by
 obtain ⟨l, hs, _⟩ := Pol.parse_ok h
 unfold Lex.scan at hs
 split at hs
 ·cases hs
 ·omega
theorem RsRep.form {w : World} {D : Nat → Prop} {v : Value} {L : List Ru} (h : RsRep w D v L) : ∃ q c, v = .slice q L.length c := by
 obtain ⟨q, c, _, hv, _⟩ := h
 exact ⟨q, c, hv⟩
theorem RsRep.fr {bs : List Nat} {w w' : World} {D : Nat → Prop} (hf : Fr bs w w') (hb : ∀ y ∈ bs, y < w.heap.size → ¬ D y) {v : Value} {L : List Ru} (h : RsRep w D v L) : RsRep w' D v L := by
 obtain ⟨q, c, f, hv, hc, hm, hr, hx, hn⟩ := h
 refine ⟨q, c, f, hv, hc, hm, fun i u hi => ?_, fun i u hi => (hx i u hi).fr hf hb, hn⟩
 obtain ⟨g, hq, hg, hd, hrange⟩ := hr i u hi
 have hne : g ∉ bs := fun hm => hb g hm hg hd
 exact ⟨g, hq, Nat.lt_of_lt_of_le hg hf.size, hd, fun j x hj => (hf.cell (p := ⟨g, _, none⟩) hg hne).trans (hrange j x hj)⟩
theorem RsRep.mono {w : World} {D E : Nat → Prop} (hd : ∀ g, g < w.heap.size → D g → E g) {v : Value} {L : List Ru} (h : RsRep w D v L) : RsRep w E v L := by
 obtain ⟨q, c, f, hv, hc, hm, hr, hx, hn⟩ := h
 refine ⟨q, c, f, hv, hc, hm, fun i u hi => ?_, fun i u hi => (hx i u hi).mono hd, hn⟩
 obtain ⟨g, hq, hg, hd', hrange⟩ := hr i u hi
 exact ⟨g, hq, hg, hd g hg hd', hrange⟩
theorem RsRep.news {w : World} {D : Nat → Prop} {v : Value} {L : List Ru} (h : RsRep w D v L) :
  ∃ css, Rus w D css L ∧ css.flatten.length = L.length * 4 ∧ (∀ u ∈ css.flatten, u.oneCell' = true) ∧ ((v = .slice none 0 0 ∧ L = [] ∧ css = []) ∨ ∃ ad c, v = .slice (some ad) L.length c ∧ ∀ j u, css.flatten[j]? = some u → w.cell? (ad.add j) = some u) := by
 obtain ⟨q, c, f, hv, hc, hm, hr, hx, hn⟩ := h
 obtain ⟨css, hcss⟩ : ∃ css, css = (List.range L.length).map f := ⟨_, rfl⟩
 have hlen : css.length = L.length := by rw [hcss]; simp
 have hget : ∀ i cs, css[i]? = some cs → ∃ u, L[i]? = some u ∧ cs = f i := fun i cs hi => by
  have hi2 : i < L.length := by have := (List.getElem?_eq_some_iff.1 hi).1; omega
  rw [hcss, List.getElem?_map, List.getElem?_range hi2] at hi
  cases hi
  exact ⟨_, List.getElem?_eq_getElem hi2, rfl⟩
 have h4 : ∀ (i : Nat) (cs : List Value), css[i]? = some cs → cs.length = 4 := fun i cs hi => by
  obtain ⟨u, hu, rfl⟩ := hget i cs hi
  obtain ⟨_, _, _, _, _, _, e⟩ := (hx i u hu).form
  rw [e]; rfl
 have hfl : css.flatten.length = L.length * 4 := by
  rw [List.length_flatten]
  have : css.map List.length = List.replicate css.length 4 := by
   rw [List.eq_replicate_iff]
   refine ⟨by simp, fun b hb => ?_⟩
   obtain ⟨cs, hcs, rfl⟩ := List.mem_map.1 hb
   obtain ⟨i, hi, rfl⟩ := List.mem_iff_getElem.1 hcs
   exact h4 i _ (List.getElem?_eq_getElem hi)
  rw [this, List.sum_replicate_nat, hlen]
 refine ⟨css, ⟨hlen, fun i x cs hi hcs => ?_⟩, hfl, fun u hu => ?_, ?_⟩
 ·obtain ⟨u, hu, rfl⟩ := hget i cs hcs
  rw [hi] at hu
  cases hu
  exact hx i x hi
 ·obtain ⟨cs, hcs, hu⟩ := List.mem_flatten.1 hu
  obtain ⟨i, hi, rfl⟩ := List.mem_iff_getElem.1 hcs
  obtain ⟨x, hx1, hx2⟩ := hget i _ (List.getElem?_eq_getElem hi)
  obtain ⟨q1, k1, c1, q2, k2, c2, e⟩ := (hx i x hx1).form
  rw [hx2, e] at hu
  simp only [List.mem_cons, List.not_mem_nil, or_false] at hu
  rcases hu with rfl | rfl | rfl | rfl <;> rfl
 ·cases q with
  | none =>
   left
   have h0 : L = [] := by
    cases L with
    | nil => rfl
    | cons a r => obtain ⟨g, hq, _⟩ := hr 0 a rfl; cases hq
   subst h0
   refine ⟨by rw [hv, hn rfl]; rfl, rfl, by rw [hcss]; rfl⟩
  | some ad =>
   right
   refine ⟨ad, c, hv, fun j u hj => ?_⟩
   have hjl : j < css.flatten.length := (List.getElem?_eq_some_iff.1 hj).1
   have hi : j / 4 < L.length := by omega
   obtain ⟨x, hx1⟩ : ∃ x, L[j / 4]? = some x := ⟨_, List.getElem?_eq_getElem hi⟩
   obtain ⟨g, hq, hg, _, hrange⟩ := hr (j / 4) x hx1
   cases hq
   have hci : css[j / 4]? = some (f (j / 4)) := by rw [hcss, List.getElem?_map, List.getElem?_range hi]; rfl
   have hl4 := h4 _ _ hci
   obtain ⟨y, hy⟩ : ∃ y, (f (j / 4))[j % 4]? = some y := ⟨_, List.getElem?_eq_getElem (by rw [hl4]; omega)⟩
   have h9 := flat_at4 css h4 (j / 4) _ (j % 4) y hci hy
   rw [show 4 * (j / 4) + j % 4 = j by omega, hj] at h9
   cases h9
   have hadd : (⟨g, 0, none⟩ : Addr).add j = ⟨g, j, none⟩ := by unfold Addr.add; split <;> simp_all
   rw [hadd]
   have := hrange (j % 4) u hy
   rwa [show 4 * (j / 4) + j % 4 = j by omega] at this
theorem appAll {ops : Array Oper} {rest : List Oper} {o : Oper} {a : Act} {w : World} {Q : Exit → Act → World → Prop} (hw : Region.wanted o (yielded ops a.tmps) = true) (s x : Operand)
  (ho : o.op = .call { callee := .builtin .append, args := #[s, x], argTypes := #[43, 43] })
  (B : Nat) (sv : Value) (n : Nat) (xs : List Value) (D : Nat → Prop) (xv : Value) (L : List Ru) (hs : a.eval s = sv) (hx : a.eval x = xv)
  (hown : w.ownsRow B 78 4 sv n xs) (hr : RsRep w D xv L) (hB : B ≤ w.heap.size) (hn : n + L.length ≤ 1000000)
  (h : ∀ v' w' css, w'.ownsRow B 78 4 v' (n + L.length) (xs ++ css.flatten) → Rus w D css L → w.grownBy w' sv.ownBlock → wpList Tryd.prog ops Q rest (a.put o.dst v') w') : wpList Tryd.prog ops Q (o :: rest) a w := by
 obtain ⟨css, hru, hfl, h1, hc⟩ := hr.news
 obtain ⟨i, hi, hz0, hz1, hz2⟩ := info_parts infoRu
 refine BigFrame.wpList_want hw fun K hK => ?_
 rcases hc with ⟨rfl, rfl, rfl⟩ | ⟨ad, c, rfl, hnews⟩
 ·have hrun := run_append_owned_none (P := Tryd.prog) (w := w) B 43 o.type 78 i 4 Tryd.underlying43 hi sv n xs hown
  unfold Oper.wp execOp
  simp only [ho, resolve, invoke, builtin, Sem.run_bind, Sem.run_pure, Result.andThen_ok, List.map_toArray, List.map_cons, List.map_nil, hs, hx, hrun]
  exact hK _ _ (h sv w [] (by simpa using hown) hru ⟨rfl, rfl, rfl, Nat.le_refl _, fun _ _ _ => rfl⟩)
 ·obtain ⟨v', w', hrun, h2, h3, _, _⟩ := run_append_own_at (P := Tryd.prog) (w := w) B 43 o.type 78 i _ 4 64 Tryd.underlying43 hi hz0 hz1 hz2 rfl (by decide) sv n xs hown ad L.length c css.flatten hfl hnews h1 (by unfold maxLen; omega) (by omega) hB
  unfold Oper.wp execOp
  simp only [ho, resolve, invoke, builtin, Sem.run_bind, Sem.run_pure, Result.andThen_ok, List.map_toArray, List.map_cons, List.map_nil, hs, hx, hrun]
  exact hK _ _ (h v' w' css h2 hru h3)
theorem rs_own {B : Nat} {w : World} {v : Value} {css : List (List Value)} {A : List Ru} {D E : Nat → Prop} (ho : w.ownsRow B 78 4 v A.length css.flatten) (hr : Rus w D css A) (hD : ∀ k, D k → E k) (hB : ∀ k, B ≤ k → E k) : RsRep w E v A := by
 rcases ho.2 with ⟨hv, h0⟩ | ⟨g0, cap, cur, hv, hb, hrow, k1, k2, k3, k4⟩
 ·have : A = [] := List.eq_nil_of_length_eq_zero h0
  subst this
  exact ⟨none, 0, fun _ => [], hv, Nat.le_refl _, by decide, fun i u hi => by simp at hi, fun i u hi => by simp at hi, fun _ => rfl⟩
 ·have h5 : ∀ (i : Nat) (cs : List Value), css[i]? = some cs → cs.length = 4 := fun i cs hi => by
   obtain ⟨h1, rfl⟩ := List.getElem?_eq_some_iff.1 hi
   have hl := hr.len
   obtain ⟨v1, v2, e, _⟩ := hr.rep i _ _ (List.getElem?_eq_getElem (by omega)) hi
   rw [e]; rfl
  have hat := flat_at4 css h5
  refine ⟨some ⟨g0, 0, none⟩, cap, fun i => css.getD i [], hv, k1, k2, fun i u hi => ⟨g0, rfl, row_lt hrow, hB g0 hb, fun j x hj => ?_⟩, fun i u hi => ?_, fun h => by cases h⟩
  ·have hl := hr.len
   have hi2 : i < css.length := by have := (List.getElem?_eq_some_iff.1 hi).1; omega
   have e : css.getD i [] = css[i] := by simp [List.getD, List.getElem?_eq_getElem hi2]
   simp only [e] at hj
   have h9 := hat i _ j x (List.getElem?_eq_getElem hi2) hj
   rw [← k4, List.getElem?_take] at h9
   split at h9
   ·rw [cell_of_row _ _ _ _ _ _ hrow]; simpa using h9
   ·cases h9
  ·have hl := hr.len
   have hi2 : i < css.length := by have := (List.getElem?_eq_some_iff.1 hi).1; omega
   have e : css.getD i [] = css[i] := by simp [List.getD, List.getElem?_eq_getElem hi2]
   simp only [e]
   exact (hr.rep i u _ hi (List.getElem?_eq_getElem hi2)).mono (fun k _ hk => hD k hk)
theorem Rus.app {w : World} {D : Nat → Prop} {c1 c2 : List (List Value)} {L1 L2 : List Ru} (h : Rus w D c1 L1) (k : Rus w D c2 L2) : Rus w D (c1 ++ c2) (L1 ++ L2) := by
 refine ⟨by simp [h.len, k.len], fun i x cs hi hc => ?_⟩
 have hl := h.len
 by_cases h1 : i < L1.length
 ·rw [List.getElem?_append_left h1] at hi
  rw [List.getElem?_append_left (by omega)] at hc
  exact h.rep i x cs hi hc
 ·rw [List.getElem?_append_right (by omega)] at hi
  rw [List.getElem?_append_right (by omega), hl] at hc
  exact k.rep _ x cs hi hc
end Go.Proofs.YtgklmpooonnmiaaDoor
