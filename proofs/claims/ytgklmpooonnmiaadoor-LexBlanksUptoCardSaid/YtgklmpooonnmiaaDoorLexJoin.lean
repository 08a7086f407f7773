/-
  Lemmas and contracts that the proofs over this seat use (part LexJoin); no statement of the seat is claimed in this text, and nothing is assumed in it.
-/
import Derived.Test.YtgklmpooonnmiaaDoorLexSpell
import Derived.Test.YtgklmpooonnmiaaDoorLexAlive
import Derived.Test.YtgklmpooonnmiaaDoorShelf
set_option linter.unusedVariables false
set_option linter.unusedSimpArgs false
namespace Go.Proofs.YtgklmpooonnmiaaDoor
open Go.RowKit
/-- a token of any numbers. -/
structure TI where
  k : Int
  s : ByteArray
  n : Int
  p : Int
def TI.spell (t : TI) : ByteArray := Lex.spell t.k t.s t.n
def TI.fits (t : TI) : Prop := t.s.size ≤ 3000 ∧ -9223372036854775808 ≤ t.n ∧ t.n ≤ 9223372036854775807
/-- the tokens' cells stand. -/
def Toks (w : World) (A : Option Addr) (l : List TI) : Prop :=
  ∀ (j : Nat) (t : TI), l[j]? = some t → ∃ ad, A = some ad ∧ w.cell? (ad.add (j * 4)) = some (.int .i64 t.k) ∧ w.cell? ⟨(ad.add (j * 4)).block, (ad.add (j * 4)).off + 1, none⟩ = some (.string t.s) ∧ w.cell? ⟨(ad.add (j * 4)).block, (ad.add (j * 4)).off + 2, none⟩ = some (.int .i64 t.n) ∧ w.cell? ⟨(ad.add (j * 4)).block, (ad.add (j * 4)).off + 3, none⟩ = some (.int .i64 t.p)
theorem Toks.fr {w w' : World} {A : Option Addr} {l : List TI} (h : Toks w A l) (hF : Fr [] w w') : Toks w' A l := by
  intro j t hj
  obtain ⟨ad, hA, h0, h1, h2, h3⟩ := h j t hj
  have fr : ∀ {p : Addr} {v : Value}, w.cell? p = some v → w'.cell? p = some v := fun {p v} hp => by
    rw [hF.cell (World.block_lt_of_cell? w _ hp) (by simp)]; exact hp
  exact ⟨ad, hA, fr h0, fr h1, fr h2, fr h3⟩
namespace Lex
def parts (l : List TI) : List ByteArray := (l.map TI.spell).filter fun x => !x.toList.isEmpty
theorem parts_snoc (l : List TI) (t : TI) : parts (l ++ [t]) = parts l ++ if t.spell.toList = [] then [] else [t.spell] := by
  unfold parts
  rw [List.map_append, List.filter_append]
  congr 1
  by_cases h : t.spell.toList = []
  · simp [h]
  · simp [h]
theorem parts_length (l : List TI) : (parts l).length ≤ l.length := by
  unfold parts
  exact Nat.le_trans (List.length_filter_le _ _) (by simp)
/-- the tokens' text. -/
def join (l : List TI) : ByteArray := ⟨(Lib.join ((parts l).map (·.data.toList)) [32]).toArray⟩
end Lex
def strs (l : List ByteArray) : List Value := l.map .string
theorem infoStr : (Tryd.prog.info? 9).map (fun i => (i.zero, i.size, i.bytes)) = some (some (.string ⟨#[]⟩), 1, 16) := by kernel_rfl
/-- what 'append' of one text asks of the program. -/
theorem appStr {ops : Array Oper} {rest : List Oper} {o : Oper} {a : Act} {w : World} {Q : Exit → Act → World → Prop} (hgd : o.guard = none) (s x : Operand)
    (ho : o.op = .call { callee := .builtin .append, args := #[s, x], argTypes := #[37, 37] })
    (w0 : World) (v : Value) (n : Nat) (l : List ByteArray) (y : ByteArray) (hs : a.eval s = v) (hx : a.eval x = .slice (some ⟨w.heap.size, 0, none⟩) 1 1)
    (hown : w.ownsRow w0.heap.size 9 1 v n (strs l)) (hF : Fr [] w0 w) (hn : n < 1000000000)
    (h : ∀ v' w', w'.ownsRow w0.heap.size 9 1 v' (n + 1) (strs (l ++ [y])) → Fr [] w0 w' → wpList Tryd.prog ops Q rest (a.put o.dst v') w') : wpList Tryd.prog ops Q (o :: rest) a (w.alloc (.cells #[.string y] 9)) := by
  obtain ⟨i, hi, hz0, hz1, hz2⟩ := info_parts infoStr
  refine wpList_append_lies (w.alloc _) hgd s x _ ho w0.heap.size 9 i (.string ⟨#[]⟩) 1 16 Tryd.underlying37 hi hz0 hz1 hz2 rfl (by decide) v n (strs l) hs (ownsRow_fr hown ((Fr.refl _ _).alloc _)) _ 1 1 [.string y] hx rfl (cell_one_new w _ _) (by simp [Value.oneCell']) (by decide) (by unfold maxLen; omega) (by omega) (Nat.le_trans hF.size (by simp)) _ rfl ?_
  intro g cap w' h1 h2 _ _
  have e : strs (l ++ [y]) = strs l ++ [.string y] := by simp [strs]
  exact h _ _ (by rw [e]; exact h1) ((hF.alloc _).grown (ownsRow_fr hown ((Fr.refl _ _).alloc _)) h2)
set_option maxHeartbeats 4000000 in
set_option maxRecDepth 100000 in
theorem lex_join_any (w : World) (A : Option Addr) (c : Nat) (l : List TI) (hT : Toks w A l) (hc : l.length ≤ c) (hl : l.length ≤ 10000) (hf : ∀ t ∈ l, t.s.size ≤ 100000000 ∧ -9223372036854775808 ≤ t.n ∧ t.n ≤ 9223372036854775807) (hlen : (Lex.join l).size ≤ 1000000000) (hL : Least w) :
    Calls Tryd.prog 14 #[.slice A l.length c] w fun e w' => e = .returned (.string (Lex.join l)) ∧ Fr [] w w' := by
  have hu := Tryd.underlying25
  have HT := Lib.hid hT
  have HL := Lib.hid hL
  have HFT := Lib.hid hf
  have HLEN := Lib.hid hlen
  clear hT hL hf hlen
  go_enter Tryd.func14, Tryd.ntmps14
  go_wp2_with fail
  go_loopg [3, 9] l.length (fun q v t W => ∃ k : Nat, k ≤ l.length ∧ q = l.length - k ∧ t = .int .i64 k ∧ Hid (W.ownsRow w.heap.size 9 1 v (Lex.parts (l.take k)).length (strs (Lex.parts (l.take k)))) ∧ Hid (Fr [] w W))
  case atStart => exact ⟨0, by omega, by omega, rfl, ownsRow_nil _ _ _ _, Fr.refl _ _⟩
  case round =>
    obtain ⟨k, hk, hq, rfl, HO, HF⟩ := hrel
    have HQ := Lib.hid hq
    clear hq
    by_cases hlt : k < l.length
    · have hlt' : (k : Int) < (l.length : Int) := by omega
      obtain ⟨t, ht⟩ : ∃ t, l[k]? = some t := ⟨_, List.getElem?_eq_getElem hlt⟩
      obtain ⟨ad, rfl, c0, c1, c2, c3⟩ := HT.out.fr HF.out k t ht
      have hft := HFT.out t (List.mem_of_getElem? ht)
      have HTK : Hid (l.take (k + 1) = l.take k ++ [t]) := by
        show _ = _
        rw [List.take_add_one, ht]; rfl
      obtain ⟨h1, h2⟩ := hft
      obtain ⟨y, hy⟩ : ∃ y, t.spell = y := ⟨_, rfl⟩
      have hys : Lex.spell t.k t.s t.n = y := hy
      have HSP : Hid (∀ W, Least W → Calls Tryd.prog 10 #[.agg #[.int .i64 t.k, .string t.s, .int .i64 t.n, .int .i64 t.p]] W fun e w' => e = .returned (.string y) ∧ Fr [] W w') := fun W hW => by
        rw [← hys]; exact lex_spell W t.k t.s t.n t.p (by omega) h2 hW
      have HP := Lib.hid (Lex.parts_snoc (l.take k) t)
      rw [hy, ← HTK.out] at HP
      have HPL : Hid ((Lex.parts (l.take k)).length ≤ 10000) := by show _ ≤ _; have h8 := Lex.parts_length (l.take k); rw [List.length_take] at h8; omega
      have HFA := Lib.hid (fun o => HF.out.alloc o)
      have HOA := Lib.hid (fun o => ownsRow_fr HO.out ((Fr.refl [] wr).alloc o))
      clear h1 h2 hys
      go_wp2_with fail
      refine (HSP.out _ (HL.out.fr (bs := []) (HFA.out _) (by simp))).mono ?_
      rintro e w1 ⟨rfl, hf1⟩
      have HF1 := Lib.hid ((HFA.out _).trans0 hf1)
      have HO1 := Lib.hid (ownsRow_fr (HOA.out _) hf1)
      clear hf1 HFA HOA HSP HO HF c0 c1 c2 c3 hy
      by_cases hy0 : y.toList = []
      · have hy1 : y.toList.isEmpty = true := by rw [hy0]; rfl
        rw [if_pos hy0, List.append_nil] at HP
        have hyb : (y.toList == []) = true := by rw [hy0]; rfl
        go_wp2_with fail
        go_roundg (l.length - (k + 1))
        case measure => have := HQ.out; omega
        case rel => exact ⟨k + 1, by omega, rfl, by go_num, by show World.ownsRow _ _ _ _ _ _ _; rw [HP.out]; exact HO1.out, HF1.out⟩
      · have hy1 : y.toList.isEmpty = false := by cases hq : y.toList with | nil => exact absurd hq hy0 | cons => rfl
        rw [if_neg hy0] at HP
        go_wp2_with (at_builtin; refine appStr rfl (.tmp 17) (.tmp 19) rfl w _ _ _ y rfl rfl HO1.out HF1.out (by have := HPL.out; omega) ?_)
        intro v2 w3 ho2 hf2
        have HO2 := Lib.hid ho2
        have HF2 := Lib.hid hf2
        clear ho2 hf2
        go_wp2_with fail
        go_roundg (l.length - (k + 1))
        case measure => have := HQ.out; omega
        case rel => exact ⟨k + 1, by omega, rfl, by go_num, by show World.ownsRow _ _ _ _ _ _ _; rw [HP.out, List.length_append]; exact HO2.out, HF2.out⟩
    · obtain rfl : k = l.length := by omega
      have ht : l.take l.length = l := List.take_length
      rw [ht] at HO
      obtain ⟨P, hP⟩ : ∃ P, Hid (Lex.parts l = P) := ⟨_, rfl⟩
      have hPL := Lex.parts_length l
      have hJ : Lex.join l = ⟨(Lib.join (P.map (·.data.toList)) [32]).toArray⟩ := by unfold Lex.join; rw [hP.out]
      rw [hP.out] at HO hPL
      have hlen := HLEN.out
      rw [hJ] at hlen
      have hj2 : (Lib.join (P.map (·.data.toList)) [32]).length ≤ 1000000000 := by simpa [ByteArray.size] using hlen
      have HJ := Lib.hid hJ
      by_cases h0 : P = []
      · subst h0
        obtain ⟨a, c9, hv⟩ := own_form HO.out
        subst hv
        have HC := Lib.hid (Tryd.strings_Join_none a c9 ⟨#[32]⟩ wr)
        clear hJ hlen hj2 ht hPL
        go_wp2_with fail
        refine HC.out.mono ?_
        rintro e w1 ⟨rfl, rfl⟩
        go_wp2_with fail
        go_ret
        rw [HJ.out]
        exact ⟨rfl, HF.out⟩
      · have hpos : 0 < P.length := List.length_pos_iff.2 h0
        obtain ⟨g, c9, rfl, hg1, hg2, hc1, hc2, hcell⟩ := own_at HO.out hpos
        have HC := Lib.hid (Tryd.strings_Join g 0 c9 P ⟨#[32]⟩ wr (fun j x hj => by rw [Nat.zero_add]; exact hcell j _ (by simp [strs, hj])) hg2 (by omega) hc1 (by simpa using (by omega : (Lib.join (P.map (·.data.toList)) [32]).length ≤ 140737488355328)))
        clear hJ hlen hj2 ht hPL hcell hg1 hg2 hc1 hc2
        go_wp2_with fail
        refine HC.out.mono ?_
        rintro e w1 ⟨rfl, hB⟩
        have HF1 := Lib.hid (HF.out.trans0 (Fr.of_below hB))
        clear hB HC
        go_wp2_with fail
        go_ret
        rw [HJ.out]
        exact ⟨rfl, HF1.out⟩
theorem lex_join (w : World) (A : Option Addr) (c : Nat) (l : List TI) (hT : Toks w A l) (hc : l.length ≤ c) (hl : l.length ≤ 10000) (hf : ∀ t ∈ l, t.fits) (hlen : (Lex.join l).size ≤ 1000000000) (hL : Least w) :
    Calls Tryd.prog 14 #[.slice A l.length c] w fun e w' => e = .returned (.string (Lex.join l)) ∧ Fr [] w w' :=
  lex_join_any w A c l hT hc hl (fun t ht => ⟨by have := (hf t ht).1; omega, (hf t ht).2⟩) hlen hL
end Go.Proofs.YtgklmpooonnmiaaDoor
