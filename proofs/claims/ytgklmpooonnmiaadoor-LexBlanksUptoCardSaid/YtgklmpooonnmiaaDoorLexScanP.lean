/-
  Lemmas and contracts that the proofs over this seat use (part LexScanP); no statement of the seat is claimed in this text, and nothing is assumed in it.
-/
import Derived.Test.YtgklmpooonnmiaaDoorLexTok
set_option linter.unusedVariables false
set_option linter.unusedSimpArgs false
namespace Go.Proofs.YtgklmpooonnmiaaDoor
open Go.RowKit
namespace Lex
theorem skipTo_self (f : Nat → Nat) (n k : Nat) : k ≤ skipTo f n k := by
  rcases Nat.lt_or_ge n k with h | h
  · rw [skipTo_end (by omega)]; exact Nat.le_refl _
  · exact (skipTo_ge f n k h).1
theorem text_bounds (s : ByteArray) (k : Nat) (out o : List Nat) (e : Nat) (h : text s k out = (some o, e)) : k < e ∧ e ≤ s.size := by
  fun_induction text s k out with
  | case1 k out h1 h2 => cases h
  | case2 k out h1 h2 h3 => cases h; omega
  | case3 k out h1 h2 h3 h4 h5 ih => have := ih h; omega
  | case4 k out h1 h2 h3 h4 h5 => cases h
  | case5 k out h1 h2 h3 h4 x hx => cases h
  | case6 k out h1 h2 h3 h4 x m hx ih => have := ih h; omega
  | case7 k out h1 => cases h
theorem token_bounds (s : ByteArray) (k : Nat) (hk : k < s.size) (t : Tk) (m : Nat) (h : token s k = .ok t m) : k < m ∧ m ≤ s.size := by
  unfold token tokR at h
  have hT : (s.extract k s.size).size = s.size - k := by simp
  generalize s.extract k s.size = T at *
  split at h
  · rename_i hsm
    unfold tokSmall at h
    split at h
    · cases h
    · cases h
      have h1 := smalls_le (bn T) T.size 0 (by omega)
      have h2 := smalls_ge (bn T) T.size 1
      have e := smalls_yes (f := bn T) (n := T.size) (k := 0) (by omega) hsm
      rw [Nat.zero_add] at e
      omega
  · split at h
    · skip
      generalize hx : text s (k + 1) [] = r at h
      obtain ⟨o, e⟩ := r
      cases o with
      | none => cases h
      | some o =>
        cases h
        have := text_bounds _ _ _ _ _ hx
        omega
    · split at h
      · unfold tokNum at h
        split at h
        · cases h
        · have h1 := Dec.lead_le (bn T) T.size
          generalize Dec.read _ _ _ _ = rr at h
          obtain ⟨v, er⟩ := rr
          cases er <;> cases h
          omega
      · unfold tokSign at h
        split at h
        · cases h
        · cases h
          have h1 := sign_le (bn T) T.size
          omega
/-- the tokens from a place on, where no blank stands. -/
def scanFrom (s : ByteArray) (k : Nat) (l : List Tk) : Er × List Tk :=
  if k < s.size then
    match token s k with
    | .bad p n => (.pl p n, [])
    | .ok t m => if l.length = 512 then (.pl k 53, []) else scanFrom s (skipTo (bn s) s.size (max m (k + 1))) (l ++ [t])
  else (.ok, l ++ [⟨5, ⟨#[]⟩, 0, s.size⟩])
termination_by s.size - k
decreasing_by
  have := skipTo_self (bn s) s.size (max m (k + 1))
  omega
/-- the tokens. -/
def scan (s : ByteArray) : Er × List Tk := if 2048 < s.size then (.no 2, []) else scanFrom s (skipTo (bn s) s.size 0) []
end Lex
def toks (l : List Tk) : List Value := l.flatMap Tk.c
theorem toks_snoc (l : List Tk) (t : Tk) : toks (l ++ [t]) = toks l ++ t.c := by simp [toks]
theorem toks_length (l : List Tk) : (toks l).length = 4 * l.length := by
  induction l with
  | nil => rfl
  | cons t l ih => simp only [toks, List.flatMap_cons, List.length_append] at *; rw [ih]; simp [Tk.c]; omega
theorem infoTok : (Tryd.prog.info? 25).map (fun i => (i.zero, i.size, i.bytes)) = some (some (.agg #[.int .i64 0, .string ⟨#[]⟩, .int .i64 0, .int .i64 0]), 4, 40) := by kernel_rfl
/-- the state of a scan: the scanner in block b, what it has in a row of its own. -/
structure SS (w : World) (b : Nat) (s : ByteArray) (k : Nat) (lv : Value) (l : List Tk) (W : World) : Prop where
  sc : Sc W b s k lv
  f : Fr [] w W
  own : W.ownsRow w.heap.size 25 4 lv l.length (toks l)
  ge : w.heap.size ≤ b
theorem own_ne_sc {w W : World} {b : Nat} {s : ByteArray} {k : Nat} {lv : Value} {l : List Tk} (h : SS w b s k lv l W) : lv.ownBlock ≠ some b := by
  rcases h.own.2 with ⟨hv, _⟩ | ⟨g, cap, cur, rfl, _, hg, _⟩
  · rw [hv]; simp [Value.ownBlock]
  · intro e
    simp only [Value.ownBlock, Option.some.injEq] at e
    subst e
    have h1 := h.sc
    unfold Sc at h1
    rw [hg] at h1
    simp at h1
theorem SS.step {w W W' : World} {b : Nat} {s : ByteArray} {k m : Nat} {lv : Value} {l : List Tk} (h : SS w b s k lv l W) (hF : Fr [b] W W') (hs : Sc W' b s m lv) : SS w b s m lv l W' := by
  refine ⟨hs, h.f.trans1 hF (.inr h.ge), ⟨h.own.1, ?_⟩, h.ge⟩
  rcases h.own.2 with h1 | ⟨g, cap, cur, hv, hg, hgg, r⟩
  · exact Or.inl h1
  · refine Or.inr ⟨g, cap, cur, hv, hg, ?_, r⟩
    refine (hF.block g (row_lt hgg) (fun hc => ?_)).trans hgg
    have := own_ne_sc h
    rw [hv] at this
    simp [Value.ownBlock] at this hc
    exact this hc
theorem SS.fr {w W W' : World} {b : Nat} {s : ByteArray} {k : Nat} {lv : Value} {l : List Tk} (h : SS w b s k lv l W) (hF : Fr [] W W') : SS w b s k lv l W' :=
  ⟨h.sc.fr hF, h.f.trans0 hF, ownsRow_fr h.own hF, h.ge⟩
theorem _root_.Go.World.grownBy.trans_ {a b c : World} {row : Option Nat} (h : a.grownBy b row) (k : b.grownBy c row) : a.grownBy c row :=
  ⟨k.os.trans h.os, k.tape.trans h.tape, k.output.trans h.output, Nat.le_trans h.size k.size, fun i hi hn => (k.block i (Nat.lt_of_lt_of_le hi h.size) hn).trans (h.block i hi hn)⟩
theorem Fr.grown2 {w0 w w' : World} {row : Option Nat} (h : Fr [] w0 w) (hg : w.grownBy w' row) (hr : ∀ k, row = some k → w0.heap.size ≤ k) : Fr [] w0 w' :=
  ⟨hg.os.trans h.os, hg.tape.trans h.tape, hg.output.trans h.output, Nat.le_trans h.size hg.size, fun k hk hn => (hg.block k (Nat.lt_of_lt_of_le hk h.size) (fun hc => by have := hr k hc.symm; omega)).trans (h.block k hk hn)⟩
theorem own_form {w : World} {B n size : Nat} {e : TypeId} {v : Value} {xs : List Value} (h : w.ownsRow B e size v n xs) : ∃ p c, v = .slice p n c := by
  rcases h.2 with ⟨rfl, rfl⟩ | ⟨g, cap, cur, rfl, _⟩
  · exact ⟨_, _, rfl⟩
  · exact ⟨_, _, rfl⟩
theorem Sc.putl {w : World} {b : Nat} {s : ByteArray} {k : Nat} {lv : Value} (h : Sc w b s k lv) (u : Value) : Sc (w.setCell ⟨b, 2, none⟩ u) b s k u := by
  unfold Sc at *
  have := heap_setCell_same w b 2 _ _ u h
  simpa using this
theorem oc_tok (t : Tk) : ∀ u ∈ t.c, u.oneCell' = true := by
  intro u hu
  simp only [Tk.c, List.mem_cons, List.not_mem_nil, or_false] at hu
  rcases hu with rfl | rfl | rfl | rfl <;> rfl
/-- what 'append' of one token asks of the program, at a plain region .. -/
theorem appTok {ops : Array Oper} {rest : List Oper} {o : Oper} {a : Act} {w : World} {Q : Exit → Act → World → Prop} (hgd : o.guard = none) (s x : Operand)
    (ho : o.op = .call { callee := .builtin .append, args := #[s, x], argTypes := #[22, 22] })
    (B : Nat) (v : Value) (l : List Tk) (t : Tk) (cs : Array Value) (hc : cs = t.c.toArray) (hs : a.eval s = v) (hx : a.eval x = .slice (some ⟨w.heap.size, 0, none⟩) 1 1)
    (hown : w.ownsRow B 25 4 v l.length (toks l)) (hB : B ≤ w.heap.size) (hn : l.length < 1000000)
    (h : ∀ g c w', w'.ownsRow B 25 4 (.slice (some ⟨g, 0, none⟩) (l.length + 1) c) (l ++ [t]).length (toks (l ++ [t])) → w.grownBy w' v.ownBlock → wpList Tryd.prog ops Q rest (a.put o.dst (.slice (some ⟨g, 0, none⟩) (l.length + 1) c)) w') : wpList Tryd.prog ops Q (o :: rest) a (w.alloc (.cells cs 25)) := by
  subst hc
  obtain ⟨i, hi, hz0, hz1, hz2⟩ := info_parts infoTok
  refine wpList_append_lies (w.alloc _) hgd s x _ ho B 25 i _ 4 40 Tryd.underlying22 hi hz0 hz1 hz2 rfl (by decide) v l.length (toks l) hs (hown.alloc _) _ 1 1 t.c hx rfl (World.news_of_block (heap_alloc_last w _)) (oc_tok t) (by decide) (by unfold maxLen; omega) (by omega) (Nat.le_trans hB (by simp)) _ rfl ?_
  intro g cap w' h1 h2 _ _
  refine h g cap w' ?_ ((World.grownBy_alloc w _ _).trans_ h2)
  rw [toks_snoc, List.length_append]; exact h1
/-- a token more. -/
theorem SS.grow {w V w9 : World} {b : Nat} {s : ByteArray} {m : Nat} {lv : Value} {l : List Tk} {t : Tk} {g9 c9 : Nat} (h : SS w b s m lv l V) (ho : w9.ownsRow w.heap.size 25 4 (.slice (some ⟨g9, 0, none⟩) (l.length + 1) c9) (l ++ [t]).length (toks (l ++ [t]))) (hg : V.grownBy w9 lv.ownBlock) :
    SS w b s m (.slice (some ⟨g9, 0, none⟩) (l.length + 1) c9) (l ++ [t]) (w9.setCell ⟨b, 2, none⟩ (.slice (some ⟨g9, 0, none⟩) (l.length + 1) c9)) := by
  have hsc : Sc w9 b s m lv := (hg.block b h.sc.lt (own_ne_sc h).symm).trans h.sc
  refine ⟨hsc.putl _, (h.f.grown2 hg (own_base_ge h.own)).setCell (.inr h.ge) _, ⟨ho.1, ?_⟩, h.ge⟩
  rcases ho.2 with ⟨h1, _⟩ | ⟨g, cap, cur, hv, hb, hgg, r⟩
  · cases h1
  · refine Or.inr ⟨g, cap, cur, hv, hb, ?_, r⟩
    rw [Below.heap_setCell _ _ _ _ (fun hc => ?_)]
    · exact hgg
    · have h2 : Sc w9 b s m lv := hsc
      unfold Sc at h2
      rw [show b = g from hc.symm, hgg] at h2
      simp at h2
/-- .. and at a step of a region that draws. -/
theorem stepTok {ops : Array Oper} {o : Oper} {a : Act} {W w : World} {K : Act → World → Prop} {Q : Exit → Act → World → Prop} {E : Prop} (hgd : o.guard = none) (s x : Operand)
    (ho : o.op = .call { callee := .builtin .append, args := #[s, x], argTypes := #[22, 22] })
    (B : Nat) (v : Value) (l : List Tk) (t : Tk) (hW : W = (w.alloc (.cells t.c.toArray 25)).drew) (hs : a.eval s = v) (hx : a.eval x = .slice (some ⟨w.heap.size, 0, none⟩) 1 1)
    (hown : w.ownsRow B 25 4 v l.length (toks l)) (hB : B ≤ w.heap.size) (hn : l.length < 1000000)
    (h : ∀ g c w', w'.ownsRow B 25 4 (.slice (some ⟨g, 0, none⟩) (l.length + 1) c) (l ++ [t]).length (toks (l ++ [t])) → w.grownBy w' v.ownBlock → K (a.put o.dst (.slice (some ⟨g, 0, none⟩) (l.length + 1) c)) w') :
    if Region.wanted o (yielded ops a.tmps) = true then Oper.wp Tryd.prog o a W K Q else E := by
  subst hW
  obtain ⟨i, hi, hz0, hz1, hz2⟩ := info_parts infoTok
  have hown2 : (w.alloc (.cells t.c.toArray 25)).drew.ownsRow B 25 4 v l.length (toks l) := ownsRow_fr hown ((Fr.refl _ _).alloc _).drew
  refine step_append_lies (w.alloc _).drew hgd s x _ ho B 25 i _ 4 40 Tryd.underlying22 hi hz0 hz1 hz2 rfl (by decide) v l.length (toks l) hs hown2 _ 1 1 t.c hx rfl (World.news_of_block (heap_alloc_last w _)) (oc_tok t) (by decide) (by unfold maxLen; omega) (by omega) (Nat.le_trans hB (by simp [World.drew])) _ rfl ?_
  intro g cap w' h1 h2 _ _
  have hg := World.grownBy_alloc w (.cells t.c.toArray 25) v.ownBlock
  have hg2 : w.grownBy (w.alloc (.cells t.c.toArray 25)).drew v.ownBlock := ⟨hg.os, hg.tape, hg.output, hg.size, hg.block⟩
  refine h g cap w' ?_ (hg2.trans_ h2)
  rw [toks_snoc, List.length_append]; exact h1
end Go.Proofs.YtgklmpooonnmiaaDoor
