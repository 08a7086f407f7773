/-
  Lemmas and contracts that the proofs over this seat use (part RefSame); no statement of the seat is claimed in this text, and nothing is assumed in it.
-/
import Derived.Test.YtgklmpooonnmiaaDoorLexJoin
import Derived.BigQuiet
set_option linter.unusedVariables false
set_option linter.unusedSimpArgs false
namespace Go.Proofs.YtgklmpooonnmiaaDoor
open Go.RowKit
/-- tokens of a scan as they come in. -/
def Tk.ti (t : Tk) : TI := ⟨t.k, t.s, t.n, t.p⟩
set_option maxHeartbeats 4000000 in
set_option maxRecDepth 100000 in
theorem ref_same_eq (w : World) (A B : Option Addr) (c d : Nat) (l : List TI) (hA : Toks w A l) (hB : Toks w B l) (hc : l.length ≤ c) (hd : l.length ≤ d) (hl : l.length ≤ maxLen) :
    Calls Tryd.prog 20 #[.slice A l.length c, .slice B l.length d] w fun e w' => e = .returned (.bool true) ∧ Fr [] w w' := by
  unfold maxLen at hl
  have hu := Tryd.underlying25
  have HA := Lib.hid hA
  have HB := Lib.hid hB
  clear hA hB
  have q0 : ((l.length : Int) == (l.length : Int)) = true := beq_iff_eq.2 rfl
  go_enter Tryd.func20, Tryd.ntmps20
  go_wp2_with fail
  go_loopg [5] l.length (fun q t W => ∃ k : Nat, k ≤ l.length ∧ q = l.length - k ∧ t = .int .i64 k ∧ Hid (Fr [] w W))
  case atStart => exact ⟨0, by omega, by omega, rfl, Fr.refl _ _⟩
  case round =>
    obtain ⟨k, hk, hq, rfl, HF⟩ := hrel
    have HQ := Lib.hid hq
    clear hq
    by_cases hlt : k < l.length
    · have hlt' : (k : Int) < (l.length : Int) := by omega
      have hk0 : (0 : Int) ≤ (k : Int) := by omega
      obtain ⟨t, ht⟩ : ∃ t, l[k]? = some t := ⟨_, List.getElem?_eq_getElem hlt⟩
      obtain ⟨ad, rfl, a0, a1, a2, a3⟩ := HA.out.fr HF.out k t ht
      obtain ⟨bd, rfl, b0, b1, b2, b3⟩ := HB.out.fr HF.out k t ht
      go_wp2_with fail
      go_quiet (fail)
      refine then_fresh (fun W => Fr [] w W) (HF.out.drewN _) ?_
      intro W1 hf1
      have HF1 := Lib.hid hf1
      clear hf1 a0 a1 a2 a3 b0 b1 b2 b3
      go_wp2_with fail
      go_roundg (l.length - (k + 1))
      case measure => have := HQ.out; omega
      case rel => exact ⟨k + 1, by omega, rfl, by go_num, HF1⟩
    · obtain rfl : k = l.length := by omega
      go_wp2_with fail
      go_ret
      exact ⟨rfl, HF.out⟩
/-- a row of tokens of its own, as tokens. -/
theorem toks_of_own {W : World} {B : Nat} {v : Value} {l : List Tk} (h : W.ownsRow B 25 4 v l.length (toks l)) : ∃ A c, v = .slice A l.length c ∧ l.length ≤ c ∧ c ≤ maxLen ∧ Toks W A (l.map Tk.ti) := by
  by_cases h0 : l.length = 0
  · have : l = [] := List.eq_nil_of_length_eq_zero h0
    subst this
    rcases h.2 with ⟨rfl, _⟩ | ⟨g, c, cur, rfl, _, _, h1, h2, _⟩
    · exact ⟨none, 0, rfl, by simp, by decide, fun j t hj => by simp at hj⟩
    · exact ⟨_, c, rfl, h1, h2, fun j t hj => by simp at hj⟩
  · obtain ⟨g, c, rfl, _, _, h1, h2, hcell⟩ := own_at h (by omega)
    refine ⟨_, c, rfl, h1, h2, fun j t hj => ?_⟩
    rw [List.getElem?_map] at hj
    obtain ⟨u, hu, rfl⟩ := Option.map_eq_some_iff.1 hj
    have key : ∀ i, i < 4 → (toks l)[j * 4 + i]? = u.c[i]? := by
      clear h hcell hj h0 h1 h2
      induction l generalizing j with
      | nil => simp at hu
      | cons a l ih =>
        intro i hi
        cases j with
        | zero =>
          simp at hu; subst hu
          rw [show 0 * 4 + i = i by omega]
          show (a.c ++ toks l)[i]? = _
          rw [List.getElem?_append_left (by simpa [Tk.c] using hi)]
        | succ j =>
          show (a.c ++ toks l)[_]? = _
          rw [List.getElem?_append_right (by simp [Tk.c]; omega)]
          have := ih j (by simpa using hu) i hi
          rw [← this]
          congr 1
          simp [Tk.c]; omega
    have add : (⟨g, 0, none⟩ : Addr).add (j * 4) = ⟨g, j * 4, none⟩ := by unfold Addr.add; split <;> simp_all
    refine ⟨_, rfl, ?_⟩
    rw [add]
    exact ⟨hcell _ _ (by have := key 0 (by decide); exact this), hcell _ _ (by have := key 1 (by decide); exact this), hcell _ _ (by have := key 2 (by decide); exact this), hcell _ _ (by have := key 3 (by decide); exact this)⟩
end Go.Proofs.YtgklmpooonnmiaaDoor
