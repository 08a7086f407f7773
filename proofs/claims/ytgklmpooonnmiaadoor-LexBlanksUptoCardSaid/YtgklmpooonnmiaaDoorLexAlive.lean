/-
  Lemmas and contracts that the proofs over this seat use (part LexAlive); no statement of the seat is claimed in this text, and nothing is assumed in it.
-/
import Derived.Test.YtgklmpooonnmiaaDoorLexScan
set_option linter.unusedVariables false
set_option linter.unusedSimpArgs false
namespace Go.Proofs.YtgklmpooonnmiaaDoor
open Go.RowKit
def cAlive : ByteArray := ⟨#[112, 101, 114, 109, 105, 116, 32, 119, 104, 101, 110, 32, 116, 105, 109, 101, 32, 60, 61, 32, 45, 55, 59, 32, 35, 32, 120]⟩
deriving instance DecidableEq for Tk
set_option maxRecDepth 100000 in
theorem alive_scan : Lex.scan cAlive = (.ok, [⟨1, ⟨#[112, 101, 114, 109, 105, 116]⟩, 0, 0⟩, ⟨1, ⟨#[119, 104, 101, 110]⟩, 0, 7⟩, ⟨1, ⟨#[116, 105, 109, 101]⟩, 0, 12⟩, ⟨4, ⟨#[60, 61]⟩, 0, 17⟩, ⟨3, ⟨#[]⟩, -7, 20⟩, ⟨4, ⟨#[59]⟩, 0, 22⟩, ⟨5, ⟨#[]⟩, 0, 27⟩]) := by decide +kernel
theorem own_at {w : World} {B n size : Nat} {e : TypeId} {v : Value} {xs : List Value} (h : w.ownsRow B e size v n xs) (hn : 0 < n) :
    ∃ g c, v = .slice (some ⟨g, 0, none⟩) n c ∧ B ≤ g ∧ g < w.heap.size ∧ n ≤ c ∧ c ≤ maxLen ∧ ∀ (j : Nat) (u : Value), xs[j]? = some u → w.cell? ⟨g, j, none⟩ = some u := by
  rcases h.2 with ⟨_, h0⟩ | ⟨g, c, cur, rfl, hb, hg, h1, h2, h3, h4⟩
  · omega
  · refine ⟨g, c, rfl, hb, row_lt hg, h1, h2, fun j u hj => ?_⟩
    rw [cell_of_row w g j cur e (0, 0) hg]
    rw [← h4] at hj
    rw [List.getElem?_take] at hj
    split at hj
    · simpa using hj
    · cases hj
set_option maxHeartbeats 2000000 in
set_option maxRecDepth 100000 in
theorem lex_alive (w : World) (hL : Least w) :
    Calls Tryd.prog 9 #[] w fun e w' => e = .returned (.bool true) ∧ Fr [] w w' := by
  have hsc := lex_scan w cAlive (by decide) hL
  rw [alive_scan] at hsc
  have HSC := Lib.hid hsc
  clear hsc
  go_enter Tryd.func9, Tryd.ntmps9
  go_wp2_with fail
  refine HSC.out.mono ?_
  rintro e w1 ⟨v, ev, rfl, ho, rfl, hf⟩
  obtain ⟨g, c, rfl, _, _, hc, hcm, hcell⟩ := own_at ho (by decide)
  have e1 : w1.cell? ⟨g, 1, none⟩ = some (.string ⟨#[112, 101, 114, 109, 105, 116]⟩) := hcell 1 _ rfl
  have e2 : w1.cell? ⟨g, 13, none⟩ = some (.string ⟨#[60, 61]⟩) := hcell 13 _ rfl
  have e3 : w1.cell? ⟨g, 18, none⟩ = some (.int .i64 (-7)) := hcell 18 _ rfl
  have e4 : w1.cell? ⟨g, 24, none⟩ = some (.int .i64 5) := hcell 24 _ rfl
  have e5 : w1.cell? ⟨g, 7, none⟩ = some (.int .i64 7) := hcell 7 _ rfl
  have HF := Lib.hid hf
  clear ho hcell hf HSC
  go_wp2_with fail
  refine bodyPost_ret (results_tmp rfl _ _ _) rfl ?_
  exact ⟨rfl, HF.out⟩
end Go.Proofs.YtgklmpooonnmiaaDoor
