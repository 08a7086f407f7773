/-
  Lemmas and contracts that the proofs over this seat use (part RefJoin); no statement of the seat is claimed in this text, and nothing is assumed in it.
-/
import Derived.Test.YtgklmpooonnmiaaDoorRefJoinP
import Derived.Test.YtgklmpooonnmiaaDoorRefSpell
set_option linter.unusedVariables false
set_option linter.unusedSimpArgs false
namespace Go.Proofs.YtgklmpooonnmiaaDoor
open Go.RowKit
set_option maxHeartbeats 4000000 in
set_option maxRecDepth 100000 in
theorem ref_join (w : World) (A : Option Addr) (c : Nat) (l : List TI) (hT : Toks w A l) (hc : l.length ≤ c) (hl : l.length ≤ 10000) (hf : ∀ t ∈ l, t.fits) :
    Calls Tryd.prog 15 #[.slice A l.length c] w fun e w' => e = .returned (.string (Lex.join l)) ∧ Fr [] w w' := by
  have hu := Tryd.underlying25
  have HT := Lib.hid hT
  have HFT := Lib.hid hf
  clear hT hf
  rw [← Lex.rj_join]
  go_enter Tryd.func15, Tryd.ntmps15
  go_wp2_with fail
  go_loopg [3, 4] l.length (fun q v t W => ∃ k : Nat, k ≤ l.length ∧ q = l.length - k ∧ t = .int .i64 k ∧ v = .string (Lex.rj (l.take k)) ∧ Hid (Fr [] w W))
  case atStart => exact ⟨0, by omega, by omega, rfl, rfl, Fr.refl _ _⟩
  case round =>
    obtain ⟨k, hk, hq, rfl, rfl, HF⟩ := hrel
    have HQ := Lib.hid hq
    clear hq
    by_cases hlt : k < l.length
    · have hlt' : (k : Int) < (l.length : Int) := by omega
      obtain ⟨t, ht⟩ : ∃ t, l[k]? = some t := ⟨_, List.getElem?_eq_getElem hlt⟩
      obtain ⟨ad, rfl, c0, c1, c2, c3⟩ := HT.out.fr HF.out k t ht
      have hft := HFT.out t (List.mem_of_getElem? ht)
      have HTK : Hid (l.take (k + 1) = l.take k ++ [t]) := by
        show _ = _
        rw [List.take_add_one, ht]; rfl
      have hys := Lex.tspell_size t hft
      have hos := Lex.rj_size l HFT.out k hk
      obtain ⟨h1, h2⟩ := hft
      have HN : Hid (Lex.rj (l.take (k + 1)) = Lex.glue (Lex.rj (l.take k)) t.spell) := by show _ = _; rw [HTK.out, Lex.rj_snoc]
      obtain ⟨y, hy⟩ : ∃ y, t.spell = y := ⟨_, rfl⟩
      obtain ⟨o, ho⟩ : ∃ o, Hid (Lex.rj (l.take k) = o) := ⟨_, rfl⟩
      rw [hy] at hys HN
      rw [ho.out] at hos HN
      have hy' : Lex.spell t.k t.s t.n = y := hy
      have HSP : Hid (∀ W, Calls Tryd.prog 11 #[.agg #[.int .i64 t.k, .string t.s, .int .i64 t.n, .int .i64 t.p]] W fun e w' => e = .returned (.string y) ∧ Fr [] W w') := fun W => by
        rw [← hy']; exact ref_spell W t.k t.s t.n t.p (by omega) h2
      have HFA := Lib.hid (fun o => HF.out.alloc o)
      have z1 : ¬ 9223372036854775807 < o.size + y.size := by omega
      have z2 : ¬ 9223372036854775807 < o.size + 1 := by omega
      have z3 : ¬ 9223372036854775807 < (o ++ ⟨#[32]⟩).size + y.size := by
        have : (o ++ (⟨#[32]⟩ : ByteArray)).size = o.size + 1 := ByteArray.size_append
        omega
      clear h1 h2 hy' hy hos hys
      simp only [ho.out]
      clear ho
      have HG : Hid (Lex.glue o y = (if y.size = 0 ∨ o.size = 0 then o else o ++ ⟨#[32]⟩) ++ y) := rfl
      by_cases hy0 : y.size = 0
      · have e1 := toList_nil hy0
        rw [if_pos (Or.inl hy0)] at HG
        have HY0 := Lib.hid hy0
        clear hy0
        go_wp2_with fail
        refine (HSP.out _).mono ?_
        rintro e w1 ⟨rfl, hf1⟩
        have HF1 := Lib.hid (HF.out.trans0 hf1)
        clear hf1
        go_wp2_with fail
        go_roundg (l.length - (k + 1))
        case measure => have := HQ.out; omega
        case rel => exact ⟨k + 1, by omega, rfl, by go_num, by rw [HN.out, HG.out], HF1.out⟩
      · obtain ⟨hne, hie⟩ := toList_ne (by omega : 0 < y.size)
        by_cases ho0 : o.size = 0
        · have e1 := toList_nil ho0
          rw [if_pos (Or.inr ho0)] at HG
          have HY0 := Lib.hid hy0
          have HO0 := Lib.hid ho0
          clear hy0 ho0
          go_wp2_with fail
          refine (HSP.out _).mono ?_
          rintro e w1 ⟨rfl, hf1⟩
          have HF1 := Lib.hid (HF.out.trans0 hf1)
          clear hf1
          go_wp2_with fail
          go_roundg (l.length - (k + 1))
          case measure => have := HQ.out; omega
          case rel => exact ⟨k + 1, by omega, rfl, by go_num, by rw [HN.out, HG.out], HF1.out⟩
        · obtain ⟨hne2, hie2⟩ := toList_ne (by omega : 0 < o.size)
          rw [if_neg (by omega)] at HG
          go_wp2_with fail
          refine (HSP.out _).mono ?_
          rintro e w1 ⟨rfl, hf1⟩
          have HF1 := Lib.hid (HF.out.trans0 hf1)
          clear hf1
          go_wp2_with fail
          go_roundg (l.length - (k + 1))
          case measure => have := HQ.out; omega
          case rel => exact ⟨k + 1, by omega, rfl, by go_num, by rw [HN.out, HG.out], HF1.out⟩
    · obtain rfl : k = l.length := by omega
      have ht : l.take l.length = l := List.take_length
      have HL2 : Hid (Lex.rj (l.take l.length) = Lex.rj l) := by show _ = _; rw [ht]
      clear ht
      go_wp2_with fail
      go_ret
      rw [HL2.out]
      exact ⟨rfl, HF.out⟩
end Go.Proofs.YtgklmpooonnmiaaDoor
