/-
  Lemmas and contracts that the proofs over this seat use (part LexBackP4); no statement of the seat is claimed in this text, and nothing is assumed in it.
-/
import Derived.Test.YtgklmpooonnmiaaDoorLexBackP3
set_option linter.unusedVariables false
set_option linter.unusedSimpArgs false
namespace Go.Proofs.YtgklmpooonnmiaaDoor
open Go.RowKit
theorem nats_mk (l : List UInt8) : nats (⟨l.toArray⟩ : ByteArray) = l.map (·.toNat) := by simp [nats]
theorem drop_head {U : ByteArray} {p c : Nat} {r : List Nat} (h : (nats U).drop p = c :: r) : p < U.size ∧ bn U p = c ∧ (nats U).drop (p + 1) = r := by
  have h1 := drop_len h (by simp)
  rw [List.length_cons] at h1
  refine ⟨by omega, ?_, ?_⟩
  · have := drop_getD (nats U) p 0
    rw [h] at this
    exact this.symm
  · exact drop_more (a := [c]) h
namespace Lex
theorem lineEnd_to (f : Nat → Nat) (n a k : Nat) (ha : a ≤ k) (hk : k ≤ n) (h : ∀ i, a ≤ i → i < k → f i ≠ 10) (he : k = n ∨ f k = 10) : lineEnd f n a = k := by
  fun_induction lineEnd f n a with
  | case1 a h1 h2 =>
    by_cases e : a = k
    · exact e
    · exact absurd h2 (h a (Nat.le_refl _) (by omega))
  | case2 a h1 h2 ih =>
    by_cases e : a = k
    · subst e
      rcases he with h3 | h3
      · omega
      · exact absurd h3 h2
    · exact ih (by omega) (fun i hi => h i (by omega))
  | case3 a h1 => omega
/-- what is passed over, whatever follows. -/
def SkG (sep : List Nat) : Prop := ∀ (U : ByteArray) (p : Nat) (r : List Nat), (nats U).drop p = sep ++ r → skipTo (bn U) U.size p = skipTo (bn U) U.size (p + sep.length)
theorem SkG.nil : SkG [] := fun U p r h => rfl
theorem SkG.blank {b : Nat} {sep : List Nat} (hb : blank b = true) (h : SkG sep) : SkG (b :: sep) := fun U p r hU => by
  obtain ⟨h1, h2, h3⟩ := drop_head (r := sep ++ r) hU
  rw [skipTo_blank h1 (by rw [h2]; exact hb), h U (p + 1) r h3, List.length_cons, show p + 1 + sep.length = p + (sep.length + 1) by omega]
theorem SkG.mark {mid sep : List Nat} (hm : ∀ c ∈ mid, c ≠ 10) (h : SkG sep) : SkG (35 :: (mid ++ 10 :: sep)) := fun U p r hU => by
  obtain ⟨h1, h2, h3⟩ := drop_head (r := mid ++ 10 :: sep ++ r) hU
  have hU2 : (nats U).drop (p + 1) = mid ++ (10 :: (sep ++ r)) := by rw [h3]; simp
  have hU3 := drop_more hU2
  obtain ⟨g1, g2, g3⟩ := drop_head hU3
  have hbm : ∀ i, p + 1 ≤ i → i < p + 1 + mid.length → bn U i ≠ 10 := fun i hi hi2 => by
    have e : bn U i = mid.getD (i - (p + 1)) 0 := by
      have := drop_getD (nats U) (p + 1) (i - (p + 1))
      rw [hU2, show p + 1 + (i - (p + 1)) = i by omega, app_lt (by omega)] at this
      exact this.symm
    rw [e]
    exact hm _ (getD_mem (by omega))
  have hle := lineEnd_to (bn U) U.size (p + 1) (p + 1 + mid.length) (by omega) (by omega) hbm (Or.inr g2)
  rw [skipTo_mark h1 (by rw [h2]; decide) h2, hle, skipTo_blank g1 (by rw [g2]; decide), h U _ r g3]
  congr 1
  simp; omega
theorem SkG.sk {sep : List Nat} (h : SkG sep) : Sk sep := fun U p c r hU hb h35 => by
  rw [h U p (c :: r) hU]
  have h2 := drop_more hU
  obtain ⟨g1, g2, g3⟩ := drop_head h2
  exact skipTo_stop (by rw [g2, hb]; decide) (by rw [g2]; exact h35)
/-- a remark at the end. -/
theorem skip_mark_end (U : ByteArray) (p : Nat) (mid : List Nat) (hm : ∀ c ∈ mid, c ≠ 10) (hU : (nats U).drop p = 35 :: mid) : skipTo (bn U) U.size p = U.size := by
  obtain ⟨h1, h2, h3⟩ := drop_head hU
  have h4 := drop_len hU (by simp)
  rw [List.length_cons] at h4
  have hbm : ∀ i, p + 1 ≤ i → i < U.size → bn U i ≠ 10 := fun i hi hi2 => by
    have e : bn U i = mid.getD (i - (p + 1)) 0 := by
      have := drop_getD (nats U) (p + 1) (i - (p + 1))
      rw [h3, show p + 1 + (i - (p + 1)) = i by omega] at this
      exact this.symm
    rw [e]
    exact hm _ (getD_mem (by omega))
  have hle := lineEnd_to (bn U) U.size (p + 1) U.size (by omega) (Nat.le_refl _) hbm (Or.inl rfl)
  rw [skipTo_mark h1 (by rw [h2]; decide) h2, hle, skipTo_end (by omega)]
theorem toksAt_map (ps : List (List Nat × TI)) : ∀ p, (toksAt p ps).map (fun t => (t.k, t.s, t.n)) = ps.map (fun a => ((ntk a.2 0).k, (ntk a.2 0).s, (ntk a.2 0).n)) := by
  induction ps with
  | nil => intro p; rfl
  | cons a r ih =>
    obtain ⟨sep, t⟩ := a
    intro p
    rw [toksAt, List.map_cons, List.map_cons, ih]
    congr 1
    unfold ntk
    split
    · rfl
    · split
      · rfl
      · split <;> rfl
/-- the pieces of tokens that are joined. -/
def pcs (r : List TI) : List (List Nat × TI) := r.map fun t => ([32], t)
def pieces : List TI → List (List Nat × TI)
  | [] => []
  | t :: r => ([], t) :: pcs r
theorem pieces_map (l : List TI) : (pieces l).map (·.2) = l := by
  cases l with
  | nil => rfl
  | cons t r =>
    show t :: (r.map _).map _ = _
    rw [List.map_map]
    congr 1
    exact List.map_id' r
theorem body_pcs (r : List TI) : body (pcs r) = (Lib.joinTail [32] (r.map fun t => t.spell.data.toList)).map (·.toNat) := by
  induction r with
  | nil => rfl
  | cons t r ih =>
    show [32] ++ (nats t.spell ++ body (pcs r)) = _
    rw [ih]
    simp [Lib.joinTail, nats]
theorem pos_ne (t : TI) (h : 0 < t.spell.size) : (!t.spell.toList.isEmpty) = true := by
  cases hq : t.spell.toList.isEmpty with
  | true => have := (size_iff t.spell).2 ((emp_iff t.spell).1 hq); omega
  | false => rfl
theorem zero_ne (t : TI) (h : t.spell.size = 0) : (!t.spell.toList.isEmpty) = false := by
  rw [(emp_iff t.spell).2 ((size_iff t.spell).1 h)]; rfl
/-- the tokens that have a text. -/
def told (l : List TI) : List TI := l.filter fun t => decide (0 < t.spell.size)
theorem parts_told (l : List TI) : parts l = (told l).map TI.spell := by
  unfold parts told
  induction l with
  | nil => rfl
  | cons t l ih =>
    rw [List.map_cons, List.filter_cons, List.filter_cons, ih]
    by_cases h : 0 < t.spell.size
    · rw [if_pos (pos_ne t h), if_pos (decide_eq_true h)]; rfl
    · rw [zero_ne t (by omega), decide_eq_false h]; rfl
theorem join_body (l : List TI) : nats (join l) = body (pieces (told l)) := by
  unfold join
  rw [nats_mk, parts_told]
  cases told l with
  | nil => rfl
  | cons t r =>
    show (Lib.join (t.spell.data.toList :: (r.map TI.spell).map (·.data.toList)) [32]).map _ = [] ++ (nats t.spell ++ body (pcs r))
    rw [Lib.join_cons, List.map_append, List.nil_append, body_pcs, List.map_map]
    rfl
theorem ok_pcs (tail : List Nat) (ht : DB tail) (r : List TI) (h : ∀ t ∈ r, 0 < t.spell.size) : okP tail (pcs r) ∧ DB (body (pcs r) ++ tail) := by
  induction r with
  | nil => exact ⟨trivial, ht⟩
  | cons t r ih =>
    obtain ⟨h1, h2⟩ := ih fun u hu => h u (List.mem_cons_of_mem _ hu)
    exact ⟨⟨(SkG.blank (by decide) SkG.nil).sk, h t List.mem_cons_self, h2, h1⟩, fun c hc => by
      have : c = 32 := by have h5 : some 32 = some c := hc; cases h5; rfl
      exact Or.inl this⟩
theorem ok_pieces (l : List TI) (h : ∀ t ∈ l, 0 < t.spell.size) : okP [] (pieces l) := by
  cases l with
  | nil => trivial
  | cons t r =>
    obtain ⟨h1, h2⟩ := ok_pcs [] (fun c hc => by cases hc) r fun u hu => h u (List.mem_cons_of_mem _ hu)
    exact ⟨SkG.nil.sk, h t List.mem_cons_self, h2, h1⟩
theorem told_pos (l : List TI) : ∀ t ∈ told l, 0 < t.spell.size := fun t ht => by
  have := (List.mem_filter.1 ht).2
  simpa using this
theorem told_len (l : List TI) : (told l).length ≤ l.length := List.length_filter_le _ _
theorem pieces_len (l : List TI) : (pieces l).length = l.length := by
  have := congrArg List.length (pieces_map l)
  rwa [List.length_map] at this
/-- joined tokens, scanned. -/
theorem scan_join (l : List TI) (hl : (told l).length ≤ 512) (hs : (join l).size ≤ 2048) : scan (join l) = (.ok, toksAt 0 (pieces (told l)) ++ [⟨5, ⟨#[]⟩, 0, (join l).size⟩]) := by
  unfold scan
  rw [if_neg (by omega)]
  have := scan_body (join l) [] (fun p hp h => ?_) (pieces (told l)) 0 [] (Nat.zero_le _) (by rw [List.drop_zero, List.append_nil, join_body]) (ok_pieces _ (told_pos l)) (by rw [pieces_len]; simpa using hl)
  · rw [this, List.nil_append]
  · have h2 : (join l).size ≤ p := by
      rcases Nat.lt_or_ge p (join l).size with h3 | h3
      · have := congrArg List.length h
        rw [List.length_drop, nats_length] at this
        simp at this; omega
      · exact h3
    rw [skipTo_end (by omega)]; omega
theorem join_congr {l m : List TI} (h : l.map TI.spell = m.map TI.spell) : join l = join m := by unfold join parts; rw [h]
theorem toksAt_length (ps : List (List Nat × TI)) (p : Nat) : (toksAt p ps).length = ps.length := by
  have := congrArg List.length (toksAt_map ps p)
  rwa [List.length_map, List.length_map] at this
theorem spell_ti (t u : Tk) (h : (t.k, t.s, t.n) = (u.k, u.s, u.n)) : t.ti.spell = u.ti.spell := by
  simp only [Prod.mk.injEq] at h
  unfold TI.spell Tk.ti
  rw [h.1, h.2.1, h.2.2]
/-- the tokens of a text, joined and scanned again. -/
theorem scan_back (s : ByteArray) (R : List Tk) (h : scan s = (.ok, R)) (hs : (join (R.map Tk.ti)).size ≤ 2048) :
    ∃ M, scan (join (R.map Tk.ti)) = (.ok, M) ∧ M.map (fun t => (t.k, t.s, t.n)) = R.map (fun t => (t.k, t.s, t.n)) ∧ join (M.map Tk.ti) = join (R.map Tk.ti) := by
  obtain ⟨L, hR, hg, _, hl⟩ := scan_good s R h
  have htold : told (R.map Tk.ti) = L.map Tk.ti := by
    rw [hR, List.map_append]
    unfold told
    rw [List.filter_append, List.filter_eq_self.2 (fun t ht => ?_)]
    · have : List.filter (fun t : TI => decide (0 < t.spell.size)) (List.map Tk.ti [⟨5, ⟨#[]⟩, 0, s.size⟩]) = [] := by
        rw [List.filter_eq_nil_iff]
        intro t ht
        simp at ht; subst ht
        have : (⟨5, ⟨#[]⟩, 0, s.size⟩ : Tk).ti.spell.size = 0 := rfl
        rw [this]; decide
      rw [this, List.append_nil]
    · obtain ⟨u, hu, rfl⟩ := List.mem_map.1 ht
      exact decide_eq_true (hg u hu).sp
  have hsc := scan_join (R.map Tk.ti) (by rw [htold, List.length_map]; exact hl) hs
  rw [htold] at hsc
  have hmap : (toksAt 0 (pieces (L.map Tk.ti)) ++ [(⟨5, ⟨#[]⟩, 0, (join (R.map Tk.ti)).size⟩ : Tk)]).map (fun t => (t.k, t.s, t.n)) = R.map (fun t => (t.k, t.s, t.n)) := by
    rw [List.map_append, toksAt_map]
    conv => rhs; rw [hR, List.map_append]
    congr 1
    have e : (pieces (L.map Tk.ti)).map (fun a => ((ntk a.2 0).k, (ntk a.2 0).s, (ntk a.2 0).n)) = ((pieces (L.map Tk.ti)).map (·.2)).map (fun t => ((ntk t 0).k, (ntk t 0).s, (ntk t 0).n)) := by rw [List.map_map]; rfl
    rw [e, pieces_map, List.map_map]
    refine List.map_congr_left fun t ht => ?_
    have := (hg t ht).nt 0
    show ((ntk t.ti 0).k, (ntk t.ti 0).s, (ntk t.ti 0).n) = _
    rw [this]
  refine ⟨_, hsc, hmap, ?_⟩
  refine join_congr ?_
  rw [List.map_map, List.map_map]
  apply List.ext_getElem?
  intro i
  have h2 := congrArg (fun l => l[i]?) hmap
  simp only [List.getElem?_map] at h2 ⊢
  generalize (toksAt 0 (pieces (L.map Tk.ti)) ++ [(⟨5, ⟨#[]⟩, 0, (join (R.map Tk.ti)).size⟩ : Tk)])[i]? = a at *
  generalize R[i]? = b at *
  cases a with
  | none =>
    cases b with
    | none => rfl
    | some u => cases h2
  | some t =>
    cases b with
    | none => cases h2
    | some u =>
      simp only [Option.map_some, Option.some.injEq] at h2 ⊢
      exact spell_ti t u h2
end Lex
end Go.Proofs.YtgklmpooonnmiaaDoor
