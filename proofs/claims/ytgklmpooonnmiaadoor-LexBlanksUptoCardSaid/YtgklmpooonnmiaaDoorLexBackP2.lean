/-
  Lemmas and contracts that the proofs over this seat use (part LexBackP2); no statement of the seat is claimed in this text, and nothing is assumed in it.
-/
import Derived.Test.YtgklmpooonnmiaaDoorLexBackP1
import Derived.Test.YtgklmpooonnmiaaDoorRefBad
set_option linter.unusedVariables false
set_option linter.unusedSimpArgs false
namespace Go.Proofs.YtgklmpooonnmiaaDoor
open Go.RowKit
theorem drop_getD (l : List Nat) (q j : Nat) : (l.drop q).getD j 0 = l.getD (q + j) 0 := by
  rw [List.getD_eq_getElem?_getD, List.getD_eq_getElem?_getD, List.getElem?_drop]
theorem drop_len {U : ByteArray} {q : Nat} {l : List Nat} (h : (nats U).drop q = l) (hl : 0 < l.length) : q + l.length = U.size := by
  have := congrArg List.length h
  rw [List.length_drop, nats_length] at this
  omega
theorem drop_more {U : ByteArray} {q : Nat} {a b : List Nat} (h : (nats U).drop q = a ++ b) : (nats U).drop (q + a.length) = b := by
  rw [← List.drop_drop, h, List.drop_left]
namespace Lex
theorem esc_app (a b : List Nat) : esc (a ++ b) = esc a ++ esc b := by simp [esc]
theorem esc_id (l : List Nat) (h : ∀ c ∈ l, ¬ (c = 34 ∨ c = 92)) : esc l = l := by
  induction l with
  | nil => rfl
  | cons c l ih =>
    have e : esc (c :: l) = (if c = 34 ∨ c = 92 then [92, c] else [c]) ++ esc l := by simp [esc]
    rw [e, if_neg (h c List.mem_cons_self), ih (fun x hx => h x (List.mem_cons_of_mem _ hx))]
    rfl
theorem drop_cons_bn (s : ByteArray) (i : Nat) (h : i < s.size) : (nats s).drop i = bn s i :: (nats s).drop (i + 1) := by
  have h2 : i < (nats s).length := by rw [nats_length]; exact h
  rw [List.drop_eq_getElem_cons h2, bn_eq, List.getD_eq_getElem?_getD, List.getElem?_eq_getElem h2]
  rfl
theorem text_esc (U s : ByteArray) (B : List Nat) : ∀ d i q out, s.size - i = d → i ≤ s.size → Utf.bad (bn s) s.size i = none → (∀ j, i ≤ j → j < s.size → 32 ≤ bn s j) →
    (nats U).drop q = esc ((nats s).drop i) ++ (34 :: B) → text U q out = (some (out ++ (nats s).drop i), q + (esc ((nats s).drop i)).length + 1) := by
  intro d
  induction d using Nat.strongRecOn with
  | _ d ih =>
    intro i q out hd hi hbad h32 hU
    have hb : ∀ j, bn U (q + j) = (esc ((nats s).drop i) ++ 34 :: B).getD j 0 := fun j => by rw [← hU, drop_getD]; rfl
    have hq := drop_len hU (by rw [List.length_append, List.length_cons]; omega)
    rw [List.length_append, List.length_cons] at hq
    by_cases hi2 : i < s.size
    · rw [Utf.bad, if_pos hi2] at hbad
      obtain ⟨x, m, hx⟩ : ∃ x m, Utf.next (fun j => bn s (i + j)) (s.size - i) = (x, m) := ⟨_, _, rfl⟩
      rw [hx] at hbad
      cases x with
      | none => cases hbad
      | some x =>
        have hsz := Utf.next_size _ _ _ _ hx
        obtain ⟨hc0, hcj⟩ := Utf.next_cont hx
        simp only [Nat.add_zero] at hc0
        have hbad2 : Utf.bad (bn s) s.size (i + max m 1) = none := hbad
        rw [show max m 1 = m by omega] at hbad2
        have hc32 := h32 i (Nat.le_refl _) hi2
        by_cases hq2 : bn s i = 34 ∨ bn s i = 92
        · have hm1 : m = 1 := by rcases hc0 with h | h <;> omega
          subst hm1
          have hes : esc ((nats s).drop i) = 92 :: bn s i :: esc ((nats s).drop (i + 1)) := by
            rw [drop_cons_bn s i hi2]
            have e : ∀ l, esc (bn s i :: l) = (if bn s i = 34 ∨ bn s i = 92 then [92, bn s i] else [bn s i]) ++ esc l := fun l => by simp [esc]
            rw [e, if_pos hq2]; rfl
          rw [hes] at hb hU hq
          have b0 : bn U q = 92 := hb 0
          have b1 : bn U (q + 1) = bn s i := hb 1
          simp only [List.length_cons] at hq
          rw [text, if_pos (by omega), b0, if_neg (by decide), if_neg (by decide), if_pos rfl, b1, if_pos ⟨by omega, hq2⟩]
          have hU2 : (nats U).drop (q + 2) = esc ((nats s).drop (i + 1)) ++ (34 :: B) := drop_more (a := [92, bn s i]) hU
          rw [ih (s.size - (i + 1)) (by omega) (i + 1) (q + 2) _ rfl (by omega) hbad2 (fun j h1 h2 => h32 j (by omega) h2) hU2, hes, drop_cons_bn s i hi2]
          simp only [List.append_assoc, List.cons_append, List.nil_append, List.length_cons]
          rw [show q + 2 + (esc ((nats s).drop (i + 1))).length + 1 = q + ((esc ((nats s).drop (i + 1))).length + 1 + 1) + 1 by omega]
        · have hmem : ∀ c ∈ ((nats s).drop i).take m, ¬ (c = 34 ∨ c = 92) := fun c hc => by
            obtain ⟨j, hj, rfl⟩ := List.mem_iff_getElem.1 hc
            have hjm : j < m := by rw [List.length_take] at hj; omega
            have e : (((nats s).drop i).take m)[j] = bn s (i + j) := by
              rw [List.getElem_take, List.getElem_drop, bn_eq, List.getD_eq_getElem?_getD, List.getElem?_eq_getElem]
              rfl
            rw [e]
            by_cases hj0 : j = 0
            · subst hj0; exact hq2
            · have := hcj j (by omega) hjm; omega
          have hsp : (nats s).drop i = ((nats s).drop i).take m ++ (nats s).drop (i + m) := by
            rw [← List.drop_drop, List.take_append_drop]
          have hes : esc ((nats s).drop i) = ((nats s).drop i).take m ++ esc ((nats s).drop (i + m)) := by
            conv => lhs; rw [hsp]
            rw [esc_app, esc_id _ hmem]
          have hlm : (((nats s).drop i).take m).length = m := by rw [List.length_take, List.length_drop, nats_length]; omega
          rw [hes] at hb hU hq
          rw [List.append_assoc] at hb hU
          rw [List.length_append, hlm] at hq
          have hbj : ∀ j, j < m → bn U (q + j) = bn s (i + j) := fun j hj => by
            rw [hb j, app_lt (by omega), List.getD_eq_getElem?_getD, List.getElem?_take_of_lt hj, List.getElem?_drop]
            rfl
          have b0 : bn U q = bn s i := hbj 0 (by omega)
          have hnx : Utf.next (fun j => bn U (q + j)) (U.size - q) = (some x, m) := Utf.next_ext hx (by omega) (fun j hj => (hbj j hj).symm)
          rw [text, if_pos (by omega), b0, if_neg (by omega), if_neg (fun h => hq2 (Or.inl h)), if_neg (fun h => hq2 (Or.inr h)), hnx]
          have hU2 : (nats U).drop (q + m) = esc ((nats s).drop (i + m)) ++ (34 :: B) := by
            have := drop_more (a := ((nats s).drop i).take m) hU
            rwa [hlm] at this
          have htk : ((nats U).drop q).take m = ((nats s).drop i).take m := by
            rw [hU, List.take_append_of_le_length (by omega), List.take_of_length_le (by omega)]
          show text U (q + max m 1) (out ++ ((nats U).drop q).take m) = _
          rw [show max m 1 = m by omega, htk, ih (s.size - (i + m)) (by omega) (i + m) (q + m) _ rfl (by omega) hbad2 (fun j h1 h2 => h32 j (by omega) h2) hU2, hes, List.length_append, hlm, List.append_assoc, ← hsp]
          rw [show q + m + (esc ((nats s).drop (i + m))).length + 1 = q + (m + (esc ((nats s).drop (i + m))).length) + 1 by omega]
    · have e : (nats s).drop i = [] := List.drop_of_length_le (by rw [nats_length]; omega)
      rw [e] at hb hU hq ⊢
      have b0 : bn U q = 34 := hb 0
      rw [text, if_pos (by omega), b0, if_neg (by decide), if_pos rfl]
      simp [esc]
/-- a text. -/
theorem tok_text (U s : ByteArray) (p : Nat) (o B : List Nat) (hq : quote s = some o) (hU : (nats U).drop p = o ++ B) : tokR U (U.extract p U.size) p (bn (U.extract p U.size) 0) = .ok ⟨2, s, 0, p⟩ (p + o.length) := by
  unfold quote at hq
  split at hq
  · rename_i h
    cases hq
    have hp := drop_len hU (by simp)
    simp only [List.cons_append, List.append_assoc, List.length_cons, List.length_append] at hp
    have b0 : bn (U.extract p U.size) 0 = 34 := by
      rw [bn_tail U p (by omega)]
      show bn U (p + 0) = _
      rw [bn_eq, ← drop_getD, hU]; rfl
    have hU2 : (nats U).drop (p + 1) = esc ((nats s).drop 0) ++ (34 :: B) := by
      have := drop_more (a := [34]) (b := esc (nats s) ++ (34 :: B)) (by rw [hU]; simp)
      exact this
    have h32 : ∀ j, 0 ≤ j → j < s.size → 32 ≤ bn s j := fun j _ hj => by
      have := List.all_eq_true.1 h.2 (bn s j) (getD_mem (by rw [nats_length]; exact hj))
      simpa using this
    unfold tokR
    rw [b0, if_neg (by decide), if_pos rfl, text_esc U s B _ 0 (p + 1) [] rfl (Nat.zero_le _) h.1 h32 hU2]
    show TR.ok _ _ = _
    rw [List.drop_zero, List.nil_append, ba_nats]
    congr 1
    simp; omega
  · cases hq
/-- a token as a scan tells it. -/
def ntk (t : TI) (p : Nat) : Tk :=
  if t.k = 1 then ⟨1, t.s, 0, p⟩ else if t.k = 2 then ⟨2, t.s, 0, p⟩ else if t.k = 3 then ⟨3, ⟨#[]⟩, t.n, p⟩ else ⟨4, t.s, 0, p⟩
theorem empty_size : (⟨#[]⟩ : ByteArray).size = 0 := rfl
/-- what a token that has a text is. -/
theorem spell_cases (t : TI) (h : 0 < t.spell.size) : (t.k = 1 ∧ wordB t.s = true ∧ t.spell = t.s) ∨ (t.k = 2 ∧ ∃ o, quote t.s = some o ∧ t.spell = ba o) ∨
    (t.k = 3 ∧ (-9007199254740991 ≤ t.n ∧ t.n ≤ 9007199254740991) ∧ t.spell = ba (Dec.print t.n)) ∨ (t.k = 4 ∧ 0 < t.s.size ∧ sign (bn t.s) t.s.size = t.s.size ∧ t.spell = t.s) := by
  unfold TI.spell spell at h ⊢
  by_cases h1 : t.k = 1
  · rw [if_pos h1] at h ⊢
    split at h
    · rename_i hw
      rw [if_pos hw]
      exact Or.inl ⟨h1, hw, rfl⟩
    · rw [empty_size] at h; omega
  · rw [if_neg h1] at h ⊢
    by_cases h2 : t.k = 2
    · rw [if_pos h2] at h ⊢
      cases hq : quote t.s with
      | none => rw [hq] at h; simp at h
      | some o => exact Or.inr (Or.inl ⟨h2, o, rfl, rfl⟩)
    · rw [if_neg h2] at h ⊢
      by_cases h3 : t.k = 3
      · rw [if_pos h3] at h ⊢
        split at h
        · rename_i hr
          rw [if_pos hr]
          exact Or.inr (Or.inr (Or.inl ⟨h3, hr, rfl⟩))
        · rw [empty_size] at h; omega
      · rw [if_neg h3] at h ⊢
        by_cases h4 : t.k = 4
        · rw [if_pos h4] at h ⊢
          split at h
          · rename_i hr
            rw [if_pos hr]
            exact Or.inr (Or.inr (Or.inr ⟨h4, hr.1, hr.2, rfl⟩))
          · rw [empty_size] at h; omega
        · rw [if_neg h4, empty_size] at h; omega
theorem print_lt (n : Int) : ∀ x ∈ Dec.print n, x < 256 := by
  have h := (Dec.digs_spec n.natAbs).2.1
  have h2 : ∀ x ∈ Dec.digs n.natAbs, x < 256 := fun x hx => by
    have := h x hx
    simp only [Dec.dig, Bool.and_eq_true, decide_eq_true_eq] at this
    omega
  unfold Dec.print
  split
  · intro x hx
    rcases List.mem_cons.1 hx with rfl | hx
    · decide
    · exact h2 x hx
  · exact h2
theorem esc_lt {l : List Nat} (h : ∀ x ∈ l, x < 256) : ∀ x ∈ esc l, x < 256 := by
  intro x hx
  simp only [esc, List.mem_flatMap] at hx
  obtain ⟨c, hc, hx⟩ := hx
  have := h c hc
  split at hx
  · simp at hx; omega
  · simp at hx; omega
theorem quote_lt {s : ByteArray} {o : List Nat} (h : quote s = some o) : ∀ x ∈ o, x < 256 := by
  unfold quote at h
  split at h
  · cases h
    intro x hx
    rcases List.mem_cons.1 hx with rfl | hx
    · decide
    · rcases List.mem_append.1 hx with hx | hx
      · exact esc_lt (nats_lt s) x hx
      · simp at hx; omega
  · cases h
/-- a token's text is read as it. -/
theorem tok_spell (U : ByteArray) (t : TI) (p : Nat) (B : List Nat) (hU : (nats U).drop p = nats t.spell ++ B) (hB : DB B) (h0 : 0 < t.spell.size) : token U p = .ok (ntk t p) (p + t.spell.size) := by
  have hT : nats (U.extract p U.size) = nats t.spell ++ B := by
    rw [nats_ext, hU, List.take_of_length_le]
    have := drop_len hU (by rw [List.length_append, nats_length]; omega)
    omega
  unfold token ntk
  rcases spell_cases t h0 with ⟨h1, h2, h3⟩ | ⟨h1, o, h2, h3⟩ | ⟨h1, h2, h3⟩ | ⟨h1, h2, h3, h4⟩
  · rw [h3] at hT ⊢
    rw [if_pos h1]
    exact tok_word U _ _ p B hT hB h2
  · rw [h3, nats_ba _ (quote_lt h2)] at hU
    rw [if_neg (by omega), if_pos h1, h3, ba_size]
    exact tok_text U t.s p o B h2 hU
  · rw [h3, nats_ba _ (print_lt _)] at hT
    rw [if_neg (by omega), if_neg (by omega), if_pos h1, h3, ba_size]
    exact tok_int U _ p t.n B h2 hT hB
  · rw [h4] at hT ⊢
    rw [if_neg (by omega), if_neg (by omega), if_neg (by omega)]
    exact tok_sign U _ _ p B hT hB h2 h3
/-- no blank and no remark begins a token's text. -/
theorem spell_head (t : TI) (h0 : 0 < t.spell.size) : ∃ c r, nats t.spell = c :: r ∧ blank c = false ∧ c ≠ 35 := by
  obtain ⟨c, r, hcr⟩ : ∃ c r, nats t.spell = c :: r := by
    cases h : nats t.spell with
    | nil => have := nats_length t.spell; rw [h] at this; simp at this; omega
    | cons c r => exact ⟨c, r, rfl⟩
  refine ⟨c, r, hcr, ?_⟩
  rcases spell_cases t h0 with ⟨h1, h2, h3⟩ | ⟨h1, o, h2, h3⟩ | ⟨h1, h2, h3⟩ | ⟨h1, h2, h3, h4⟩
  · have hw : smalls (bn t.s) t.s.size 0 = t.s.size ∧ 0 < t.s.size ∧ t.s.size ≤ 32 := by simpa [wordB] using h2
    have hs := smalls_all hw.1 0 (Nat.le_refl _) hw.2.1
    rw [bn_eq, ← h3, hcr] at hs
    have hs2 : small c = true := hs
    simp [small] at hs2
    simp [blank]
    omega
  · rw [h3, nats_ba _ (quote_lt h2)] at hcr
    unfold quote at h2
    split at h2
    · cases h2
      simp at hcr
      rw [← hcr.1]; decide
    · cases h2
  · rw [h3, nats_ba _ (print_lt _)] at hcr
    have hd := Dec.digs_spec t.n.natAbs
    unfold Dec.print at hcr
    split at hcr
    · simp at hcr
      rw [← hcr.1]; decide
    · have := hd.2.1 c (by rw [hcr]; simp)
      simp [Dec.dig] at this
      simp [blank]
      omega
  · have e : bn t.s 0 = c := by rw [bn_eq, ← h4, hcr]; rfl
    unfold sign at h3
    rw [if_neg (by omega), e] at h3
    have hone : isOne c = true → c = 40 ∨ c = 41 ∨ c = 91 ∨ c = 93 ∨ c = 44 ∨ c = 59 ∨ c = 61 := fun h => by simpa [isOne, or_assoc] using h
    by_cases k1 : c = 33
    · rw [k1]; decide
    · rw [if_neg k1] at h3
      by_cases k2 : c = 60 ∨ c = 62
      · rcases k2 with k2 | k2 <;> rw [k2] <;> decide
      · rw [if_neg k2] at h3
        split at h3
        · rename_i k3
          rcases hone k3 with h | h | h | h | h | h | h <;> rw [h] <;> decide
        · omega
/-- what is passed over. -/
def Sk (sep : List Nat) : Prop := ∀ (U : ByteArray) (p c : Nat) (r : List Nat), (nats U).drop p = sep ++ c :: r → blank c = false → c ≠ 35 → skipTo (bn U) U.size p = p + sep.length
def body : List (List Nat × TI) → List Nat
  | [] => []
  | (sep, t) :: r => sep ++ (nats t.spell ++ body r)
def okP (tail : List Nat) : List (List Nat × TI) → Prop
  | [] => True
  | (sep, t) :: r => Sk sep ∧ 0 < t.spell.size ∧ DB (body r ++ tail) ∧ okP tail r
def toksAt (p : Nat) : List (List Nat × TI) → List Tk
  | [] => []
  | (sep, t) :: r => ntk t (p + sep.length) :: toksAt (p + sep.length + t.spell.size) r
theorem scan_body (U : ByteArray) (tail : List Nat) (ht : ∀ p, p ≤ U.size → (nats U).drop p = tail → skipTo (bn U) U.size p = U.size) :
    ∀ (ps : List (List Nat × TI)) (p : Nat) (l : List Tk), p ≤ U.size → (nats U).drop p = body ps ++ tail → okP tail ps → l.length + ps.length ≤ 512 →
      scanFrom U (skipTo (bn U) U.size p) l = (.ok, l ++ (toksAt p ps ++ [⟨5, ⟨#[]⟩, 0, U.size⟩])) := by
  intro ps
  induction ps with
  | nil =>
    intro p l hp hU _ _
    rw [ht p hp hU, scanFrom, if_neg (by omega)]
    rfl
  | cons a r ih =>
    obtain ⟨sep, t⟩ := a
    intro p l hp hU hok hl
    obtain ⟨h1, h2, h3, h4⟩ := hok
    obtain ⟨c, x, hcx, hc1, hc2⟩ := spell_head t h2
    have hU1 : (nats U).drop p = sep ++ (nats t.spell ++ (body r ++ tail)) := by rw [hU]; simp [body]
    have hsk := h1 U p c (x ++ (body r ++ tail)) (by rw [hU1, hcx]; rfl) hc1 hc2
    have hU2 := drop_more hU1
    have hlen := drop_len hU2 (by rw [List.length_append, nats_length]; omega)
    rw [List.length_append, nats_length] at hlen
    have htok := tok_spell U t (p + sep.length) _ hU2 h3 h2
    have hU3 := drop_more hU2
    rw [nats_length] at hU3
    simp only [List.length_cons] at hl
    rw [hsk, scanFrom, if_pos (by omega), htok]
    show (if l.length = 512 then _ else _) = _
    rw [if_neg (by omega), show max (p + sep.length + t.spell.size) (p + sep.length + 1) = p + sep.length + t.spell.size by omega]
    rw [ih (p + sep.length + t.spell.size) _ (by omega) hU3 h4 (by simp; omega)]
    simp [toksAt]
end Lex
end Go.Proofs.YtgklmpooonnmiaaDoor
