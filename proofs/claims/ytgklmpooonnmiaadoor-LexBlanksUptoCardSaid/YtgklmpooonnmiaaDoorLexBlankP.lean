/-
  Lemmas and contracts that the proofs over this seat use (part LexBlankP); no statement of the seat is claimed in this text, and nothing is assumed in it.
-/
import Derived.Test.YtgklmpooonnmiaaDoorLexBackP4
set_option linter.unusedVariables false
set_option linter.unusedSimpArgs false
namespace Go.Proofs.YtgklmpooonnmiaaDoor
open Go.RowKit
namespace Lex
/-- what may stand ahead of a token. -/
def Sep (sep : List Nat) : Prop := SkG sep ∧ ∃ c r, sep = c :: r ∧ dl c
theorem sep0 : Sep [32] := ⟨SkG.blank (by decide) SkG.nil, _, _, rfl, Or.inl rfl⟩
theorem sep1 : Sep [9, 10] := ⟨SkG.blank (by decide) (SkG.blank (by decide) SkG.nil), _, _, rfl, Or.inr (Or.inl rfl)⟩
theorem sep2 : Sep [32, 35, 32, 112, 101, 114, 109, 105, 116, 32, 34, 10] := ⟨SkG.blank (by decide) (SkG.mark (mid := [32, 112, 101, 114, 109, 105, 116, 32, 34]) (by decide) SkG.nil), _, _, rfl, Or.inl rfl⟩
theorem sep3 : Sep [13, 10, 10] := ⟨SkG.blank (by decide) (SkG.blank (by decide) (SkG.blank (by decide) SkG.nil)), _, _, rfl, Or.inr (Or.inr (Or.inr (Or.inl rfl)))⟩
theorem sep4 : Sep [35, 10] := ⟨SkG.mark (mid := []) (by decide) SkG.nil, _, _, rfl, Or.inr (Or.inr (Or.inr (Or.inr rfl)))⟩
theorem ok_seps (tail : List Nat) (ht : DB tail) (ps : List (List Nat × TI)) (h : ∀ a ∈ ps, Sep a.1 ∧ 0 < a.2.spell.size) : okP tail ps ∧ DB (body ps ++ tail) := by
  induction ps with
  | nil => exact ⟨trivial, ht⟩
  | cons a r ih =>
    obtain ⟨sep, t⟩ := a
    obtain ⟨h1, h2⟩ := ih fun u hu => h u (List.mem_cons_of_mem _ hu)
    obtain ⟨⟨h3, c, x, rfl, h4⟩, h5⟩ := h _ List.mem_cons_self
    exact ⟨⟨h3.sk, h5, h2, h1⟩, fun d hd => by
      have h6 : some c = some d := hd
      cases h6
      exact h4⟩
theorem body_snoc (ps : List (List Nat × TI)) (sep : List Nat) (t : TI) : body (ps ++ [(sep, t)]) = body ps ++ (sep ++ nats t.spell) := by
  induction ps with
  | nil => simp [body]
  | cons a r ih =>
    obtain ⟨s, u⟩ := a
    show s ++ (nats u.spell ++ body (r ++ [(sep, t)])) = s ++ (nats u.spell ++ body r) ++ _
    rw [ih]; simp
theorem told_snoc (l : List TI) (t : TI) : told (l ++ [t]) = told l ++ if 0 < t.spell.size then [t] else [] := by
  unfold told
  rw [List.filter_append]
  congr 1
  by_cases h : 0 < t.spell.size
  · rw [if_pos h, List.filter_cons, if_pos (decide_eq_true h)]; rfl
  · rw [if_neg h, List.filter_cons, decide_eq_false h]; rfl
/-- tokens behind blanks and remarks, scanned. -/
theorem scan_seps (U : ByteArray) (ps : List (List Nat × TI)) (h : ∀ a ∈ ps, Sep a.1 ∧ 0 < a.2.spell.size) (hU : nats U = body ps ++ [32, 35, 101, 110, 100]) (hl : ps.length ≤ 512) (hs : U.size ≤ 2048) :
    scan U = (.ok, toksAt 0 ps ++ [⟨5, ⟨#[]⟩, 0, U.size⟩]) := by
  unfold scan
  rw [if_neg (by omega)]
  have := scan_body U [32, 35, 101, 110, 100] (fun p hp hd => ?_) ps 0 [] (Nat.zero_le _) (by rw [List.drop_zero, hU]) (ok_seps _ (fun c hc => by
    have h6 : some 32 = some c := hc
    cases h6; exact Or.inl rfl) ps h).1 (by simpa using hl)
  · rw [this, List.nil_append]
  · obtain ⟨h1, h2, h3⟩ := drop_head hd
    rw [skipTo_blank h1 (by rw [h2]; decide)]
    exact skip_mark_end U (p + 1) [101, 110, 100] (by decide) h3
theorem toks_same (ps : List (List Nat × TI)) (l : List TI) (h : ps.map (·.2) = l) (e f : Tk) (hef : (e.k, e.s, e.n) = (f.k, f.s, f.n)) (p q : Nat) :
    (toksAt q (pieces l) ++ [f]).map (fun t => (t.k, t.s, t.n)) = (toksAt p ps ++ [e]).map (fun t => (t.k, t.s, t.n)) := by
  rw [List.map_append, List.map_append, toksAt_map, toksAt_map]
  congr 1
  · have e1 : ∀ x : List (List Nat × TI), x.map (fun a => ((ntk a.2 0).k, (ntk a.2 0).s, (ntk a.2 0).n)) = (x.map (·.2)).map (fun t => ((ntk t 0).k, (ntk t 0).s, (ntk t 0).n)) := fun x => by rw [List.map_map]; rfl
    rw [e1, e1, pieces_map, h]
  · simp only [List.map_cons, List.map_nil]
    rw [hef]
theorem join_len (l : List TI) (h : ∀ t ∈ l, t.spell.size ≤ 200) : (join l).size ≤ 201 * l.length := by
  have h1 : (join l).size = (body (pieces (told l))).length := by rw [← nats_length, join_body]
  have key : ∀ r : List TI, (∀ t ∈ r, t.spell.size ≤ 200) → (body (pcs r)).length ≤ 201 * r.length := fun r => by
    induction r with
    | nil => intro _; simp [pcs, body]
    | cons t r ih =>
      intro hr
      have h2 := ih fun u hu => hr u (List.mem_cons_of_mem _ hu)
      have h3 := hr t List.mem_cons_self
      show ([32] ++ (nats t.spell ++ body (pcs r))).length ≤ _
      rw [List.length_append, List.length_append, nats_length, List.length_cons, List.length_cons]
      simp only [List.length_nil]
      omega
  have h4 := told_len l
  have h5 : ∀ t ∈ told l, t.spell.size ≤ 200 := fun t ht => h t (List.mem_filter.1 ht).1
  rw [h1]
  generalize told l = x at *
  cases x with
  | nil => simp [pieces, body]
  | cons t r =>
    have h2 := key r fun u hu => h5 u (List.mem_cons_of_mem _ hu)
    have h3 := h5 t List.mem_cons_self
    show ([] ++ (nats t.spell ++ body (pcs r))).length ≤ _
    rw [List.nil_append, List.length_append, nats_length]
    rw [List.length_cons] at h4
    omega
end Lex
end Go.Proofs.YtgklmpooonnmiaaDoor
