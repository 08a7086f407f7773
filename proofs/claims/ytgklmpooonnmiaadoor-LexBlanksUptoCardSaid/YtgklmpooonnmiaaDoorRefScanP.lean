/-
  Lemmas and contracts that the proofs over this seat use (part RefScanP); no statement of the seat is claimed in this text, and nothing is assumed in it.
-/
import Derived.Test.YtgklmpooonnmiaaDoorLexScanP
import Derived.Test.YtgklmpooonnmiaaDoorRefQuoted
import Derived.Test.YtgklmpooonnmiaaDoorRefRead
import Derived.Test.YtgklmpooonnmiaaDoorRefSmall
import Derived.Test.YtgklmpooonnmiaaDoorRefSign
set_option linter.unusedVariables false
set_option linter.unusedSimpArgs false
namespace Go.Proofs.YtgklmpooonnmiaaDoor
open Go.RowKit
/-- the state of the reference's scan: the tokens in a row of its own, the token on its way in block g. -/
structure RT (w : World) (v : Value) (l : List Tk) (g : Nat) (cs : Array Value) (W : World) : Prop where
  own : W.ownsRow w.heap.size 25 4 v l.length (toks l)
  f : Fr [] w W
  t : W.heap[g]? = some (.cells cs 25 (0, 0))
  ge : w.heap.size ≤ g
  ne : v.ownBlock ≠ some g
theorem RT.fr {w W W' : World} {v : Value} {l : List Tk} {g : Nat} {cs : Array Value} (h : RT w v l g cs W) (hF : Fr [] W W') : RT w v l g cs W' :=
  ⟨ownsRow_fr h.own hF, h.f.trans0 hF, hF.row h.t (by simp), h.ge, h.ne⟩
theorem RT.set_ {w W : World} {v : Value} {l : List Tk} {g : Nat} {cs : Array Value} (h : RT w v l g cs W) (i : Nat) (u : Value) : RT w v l g (cs.setIfInBounds i u) (W.setCell ⟨g, i, none⟩ u) := by
  refine ⟨⟨h.own.1, ?_⟩, h.f.setCell (.inr h.ge) _, heap_setCell_same _ _ _ _ _ _ h.t, h.ge, h.ne⟩
  rcases h.own.2 with h1 | ⟨g', cap, cur, hv, hg, hgg, r⟩
  · exact Or.inl h1
  · refine Or.inr ⟨g', cap, cur, hv, hg, ?_, r⟩
    rw [Below.heap_setCell _ _ _ _ (fun hc => ?_)]
    · exact hgg
    · have h2 := h.ne
      rw [hv] at h2
      exact h2 (by simp [Value.ownBlock]; exact hc)
theorem RT.new {w W : World} {v : Value} {l : List Tk} (ho : W.ownsRow w.heap.size 25 4 v l.length (toks l)) (hF : Fr [] w W) (cs : Array Value) : RT w v l W.heap.size cs (W.alloc (.cells cs 25)) := by
  refine ⟨ownsRow_fr ho ((Fr.refl _ _).alloc _), hF.alloc _, heap_alloc_last _ _, hF.size, ?_⟩
  rcases ho.2 with ⟨hv, _⟩ | ⟨g', cap, cur, hv, hg, hgg, r⟩
  · rw [hv]; simp [Value.ownBlock]
  · rw [hv]
    have := row_lt hgg
    simp [Value.ownBlock]; omega
theorem ext_ext (s : ByteArray) (k j : Nat) (h : k + j ≤ s.size) : (s.extract k s.size).extract 0 j = s.extract k (k + j) := by
  apply nats_inj.1
  rw [nats_ext, nats_ext, nats_ext, List.drop_zero, List.take_take]
  congr 1
  omega
theorem Dec.read_num (f : Nat → Nat) (n : Nat) (lo hi : Int) : (Dec.read f n lo hi).2 = .ok ∨ (Dec.read f n lo hi).2 = .no 41 ∨ ∃ p, (Dec.read f n lo hi).2 = .pl p 40 := by
  unfold Dec.read Dec.chk
  split
  · exact Or.inr (Or.inr ⟨_, rfl⟩)
  · split
    · split
      · exact Or.inr (Or.inl rfl)
      · split
        · exact Or.inr (Or.inl rfl)
        · exact Or.inl rfl
    · split
      · exact Or.inr (Or.inl rfl)
      · split
        · exact Or.inr (Or.inl rfl)
        · exact Or.inl rfl
/-- one round of a scan. -/
theorem Lex.scan_round (s : ByteArray) (k : Nat) (l : List Tk) (R : Er × List Tk) (hk : k < s.size) (hb : ¬ Lex.blank (bn s k) = true) (h35 : ¬ bn s k = 35) (h : Lex.scanFrom s (Lex.skipTo (bn s) s.size k) l = R) :
    (∀ p n, Lex.token s k = .bad p n → R = (.pl p n, [])) ∧ (∀ t m, Lex.token s k = .ok t m → k < m ∧ m ≤ s.size ∧ (l.length = 512 → R = (.pl k 53, [])) ∧ (¬ l.length = 512 → Lex.scanFrom s (Lex.skipTo (bn s) s.size m) (l ++ [t]) = R)) := by
  rw [Lex.skipTo_stop hb h35, Lex.scanFrom, if_pos hk] at h
  constructor
  · intro p n ht
    rw [ht] at h
    exact h.symm
  · intro t m ht
    have hbd := Lex.token_bounds s k hk t m ht
    rw [ht] at h
    simp only [] at h
    refine ⟨hbd.1, hbd.2, fun h5 => ?_, fun h5 => ?_⟩
    · rw [if_pos h5] at h; exact h.symm
    · rw [if_neg h5, show max m (k + 1) = m by omega] at h; exact h
end Go.Proofs.YtgklmpooonnmiaaDoor
