/-
  Lemmas and contracts that the proofs over this seat use (part LexBackP1); no statement of the seat is claimed in this text, and nothing is assumed in it.
-/
import Derived.Test.YtgklmpooonnmiaaDoorRefScanP
import Derived.Test.YtgklmpooonnmiaaDoorRefJoinP
set_option linter.unusedVariables false
set_option linter.unusedSimpArgs false
namespace Go.Proofs.YtgklmpooonnmiaaDoor
open Go.RowKit
namespace Utf
/-- a letter tells by itself where it ends. -/
theorem next_ext {f g : Nat → Nat} {n n' x m : Nat} (h : next f n = (some x, m)) (hm : m ≤ n') (hfg : ∀ i, i < m → f i = g i) : next g n' = (some x, m) := by
  unfold next at h
  split at h
  · cases h
  · split at h
    · rename_i h1 h2
      cases h
      have e := hfg 0 (by omega)
      unfold next
      rw [if_neg (by omega), ← e, if_pos h2]
    · split at h
      · cases h
      · split at h
        · rename_i h1 h2 h3 h4
          cases h
          have e := hfg 0 (by omega)
          unfold next
          rw [if_neg (by omega), ← e, if_neg h2, if_neg (by omega), ← pre_congr (f := f) (g := g) (wide (f 0) - 1) (fun i hi => hfg i (by omega)), ← cont_congr (f := f) (g := g) (wide (f 0) - 1) (fun i hi => hfg i (by omega)), if_pos h4]
        · cases h
theorem cont_ge {f : Nat → Nat} {m : Nat} (h : cont f m = true) : ∀ j, 1 ≤ j → j ≤ m → 128 ≤ f j := by
  induction m with
  | zero => intro j h1 h2; omega
  | succ m ih =>
    intro j h1 h2
    simp only [cont, Bool.and_eq_true, decide_eq_true_eq] at h
    by_cases e : j = m + 1
    · subst e; omega
    · exact ih h.1 j h1 (by omega)
theorem next_cont {f : Nat → Nat} {n x m : Nat} (h : next f n = (some x, m)) : (m = 1 ∧ f 0 < 128 ∨ 128 ≤ f 0) ∧ ∀ j, 1 ≤ j → j < m → 128 ≤ f j := by
  unfold next at h
  split at h
  · cases h
  · split at h
    · rename_i h1 h2
      cases h
      exact ⟨Or.inl ⟨rfl, h2⟩, fun j h3 h4 => by omega⟩
    · split at h
      · cases h
      · split at h
        · rename_i h1 h2 h3 h4
          cases h
          exact ⟨Or.inr (by omega), fun j h5 h6 => cont_ge h4.1 j h5 (by omega)⟩
        · cases h
end Utf
namespace Lex
theorem smalls_to (f : Nat → Nat) (n a k : Nat) (ha : a ≤ k) (hk : k ≤ n) (h : ∀ i, a ≤ i → i < k → small (f i) = true) (he : k = n ∨ small (f k) = false) : smalls f n a = k := by
  fun_induction smalls f n a with
  | case1 a h1 h2 ih =>
    by_cases e : a = k
    · subst e
      rcases he with h3 | h3
      · omega
      · rw [h2] at h3; cases h3
    · exact ih (by omega) (fun i hi => h i (by omega))
  | case2 a h1 h2 =>
    by_cases e : a = k
    · exact e
    · exact absurd (h a (Nat.le_refl _) (by omega)) h2
  | case3 a h1 => omega
theorem smalls_all {f : Nat → Nat} {n a : Nat} (h : smalls f n a = n) : ∀ i, a ≤ i → i < n → small (f i) = true := by
  fun_induction smalls f n a with
  | case1 a h1 h2 ih =>
    intro i hi hn
    by_cases e : a = i
    · subst e; exact h2
    · exact ih h i (by omega) hn
  | case2 a h1 h2 => intro i hi hn; omega
  | case3 a h1 => intro i hi hn; omega
/-- a byte that ends any token. -/
def dl (c : Nat) : Prop := c = 32 ∨ c = 9 ∨ c = 10 ∨ c = 13 ∨ c = 35
def DB (B : List Nat) : Prop := ∀ c, B.head? = some c → dl c
theorem bn_eq (s : ByteArray) (i : Nat) : bn s i = (nats s).getD i 0 := rfl
theorem app_lt {x B : List Nat} {i : Nat} (h : i < x.length) : (x ++ B).getD i 0 = x.getD i 0 := by
  rw [List.getD_eq_getElem?_getD, List.getD_eq_getElem?_getD, List.getElem?_append_left h]
theorem app_ge {x B : List Nat} (i : Nat) : (x ++ B).getD (x.length + i) 0 = B.getD i 0 := by
  rw [List.getD_eq_getElem?_getD, List.getD_eq_getElem?_getD, List.getElem?_append_right (by omega), Nat.add_sub_cancel_left]
theorem DB.at_ {B : List Nat} (h : DB B) : B = [] ∨ dl (B.getD 0 0) := by
  cases B with
  | nil => exact Or.inl rfl
  | cons c B => exact Or.inr (h c rfl)
theorem ext_of (T s : ByteArray) (B : List Nat) (h : nats T = nats s ++ B) : T.extract 0 s.size = s := by
  apply nats_inj.1
  rw [nats_ext, h, List.drop_zero, Nat.sub_zero, ← nats_length s, List.take_left]
theorem size_of (T : ByteArray) (l : List Nat) (h : nats T = l) : T.size = l.length := by rw [← h, nats_length]
theorem dl_small {c : Nat} (h : dl c) : small c = false := by rcases h with h | h | h | h | h <;> subst h <;> decide
theorem dl_dig {c : Nat} (h : dl c) : Dec.dig c = false := by rcases h with h | h | h | h | h <;> subst h <;> decide
/-- a word. -/
theorem tok_word (U T s : ByteArray) (p : Nat) (B : List Nat) (hT : nats T = nats s ++ B) (hB : DB B) (hw : wordB s = true) : tokR U T p (bn T 0) = .ok ⟨1, s, 0, p⟩ (p + s.size) := by
  obtain ⟨h1, h2, h3⟩ : smalls (bn s) s.size 0 = s.size ∧ 0 < s.size ∧ s.size ≤ 32 := by simpa [wordB] using hw
  have hTs := size_of T _ hT
  rw [List.length_append, nats_length] at hTs
  have hlt : ∀ i, i < s.size → bn T i = bn s i := fun i hi => by rw [bn_eq, hT, app_lt (by rw [nats_length]; exact hi)]; rfl
  have hall := smalls_all h1
  have hsm : smalls (bn T) T.size 0 = s.size := by
    refine smalls_to _ _ _ _ (Nat.zero_le _) (by omega) (fun i hi hi2 => by rw [hlt i hi2]; exact hall i hi hi2) ?_
    rcases hB.at_ with h | h
    · left; rw [hTs, h]; simp
    · right
      have e : bn T s.size = B.getD 0 0 := by rw [bn_eq, hT]; have := app_ge (x := nats s) (B := B) 0; rw [nats_length] at this; exact this
      rw [e]; exact dl_small h
  unfold tokR
  rw [if_pos (by rw [hlt 0 h2]; exact hall 0 (Nat.le_refl _) h2), hsm, tokSmall, if_neg (by omega), ext_of T s B hT]
/-- a sign. -/
theorem tok_sign (U T s : ByteArray) (p : Nat) (B : List Nat) (hT : nats T = nats s ++ B) (hB : DB B) (h0 : 0 < s.size) (hs : sign (bn s) s.size = s.size) : tokR U T p (bn T 0) = .ok ⟨4, s, 0, p⟩ (p + s.size) := by
  have hTs := size_of T _ hT
  rw [List.length_append, nats_length] at hTs
  have hlt : ∀ i, i < s.size → bn T i = bn s i := fun i hi => by rw [bn_eq, hT, app_lt (by rw [nats_length]; exact hi)]; rfl
  have hnx : s.size < T.size → ¬ bn T s.size = 61 := fun h h61 => by
    rcases hB.at_ with h2 | h2
    · rw [h2] at hTs; simp at hTs; omega
    · have e : bn T s.size = B.getD 0 0 := by rw [bn_eq, hT]; have := app_ge (x := nats s) (B := B) 0; rw [nats_length] at this; exact this
      rw [← e, h61] at h2
      rcases h2 with h | h | h | h | h <;> cases h
  have hc := hlt 0 h0
  have key : sign (bn T) T.size = s.size ∧ (bn s 0 = 33 ∨ bn s 0 = 60 ∨ bn s 0 = 62 ∨ isOne (bn s 0) = true) := by
    unfold sign at hs ⊢
    rw [if_neg (by omega)] at hs
    rw [if_neg (by omega), hc]
    by_cases h33 : bn s 0 = 33
    · rw [if_pos h33] at hs ⊢
      split at hs
      · rename_i h
        refine ⟨?_, Or.inl h33⟩
        rw [if_pos ⟨by omega, by rw [hlt 1 h.1]; exact h.2⟩]; exact hs
      · omega
    · rw [if_neg h33] at hs ⊢
      by_cases h60 : bn s 0 = 60 ∨ bn s 0 = 62
      · rw [if_pos h60] at hs ⊢
        refine ⟨?_, by rcases h60 with h | h; exact Or.inr (Or.inl h); exact Or.inr (Or.inr (Or.inl h))⟩
        split at hs
        · rename_i h
          rw [if_pos ⟨by omega, by rw [hlt 1 h.1]; exact h.2⟩]; exact hs
        · rw [if_neg (fun h => hnx (by omega) (by rw [← hs]; exact h.2))]; exact hs
      · rw [if_neg h60] at hs ⊢
        split at hs
        · rename_i h
          rw [if_pos h]
          exact ⟨hs, Or.inr (Or.inr (Or.inr h))⟩
        · omega
  have hone : ∀ c, isOne c = true → c = 40 ∨ c = 41 ∨ c = 91 ∨ c = 93 ∨ c = 44 ∨ c = 59 ∨ c = 61 := fun c h => by simpa [isOne, or_assoc] using h
  have hcc : small (bn s 0) = false ∧ ¬ bn s 0 = 34 ∧ ¬ (bn s 0 = 45 ∨ Dec.dig (bn s 0) = true) := by
    rcases key.2 with h | h | h | h
    · rw [h]; decide
    · rw [h]; decide
    · rw [h]; decide
    · rcases hone _ h with h | h | h | h | h | h | h <;> rw [h] <;> decide
  unfold tokR
  rw [hc, if_neg (by rw [hcc.1]; decide), if_neg hcc.2.1, if_neg hcc.2.2, key.1, tokSign, if_neg (by omega), ext_of T s B hT]
end Lex
namespace Dec
/-- the number that a list of digits tells. -/
def valN (l : List Nat) : Nat := l.foldl (fun v c => v * 10 + (c - 48)) 0
theorem valN_snoc (l : List Nat) (c : Nat) : valN (l ++ [c]) = valN l * 10 + (c - 48) := by simp [valN]
theorem vl_list (f : Nat → Nat) (a : Nat) (l : List Nat) (h : ∀ i, i < l.length → f (a + i) = l.getD i 0) : ∀ k, k ≤ l.length → vl f a k = valN (l.take k) := by
  intro k
  induction k with
  | zero => intro _; simp [vl, valN]
  | succ k ih =>
    intro hk
    have hl : k < l.length := hk
    rw [vl, ih (by omega), List.take_add_one, List.getElem?_eq_getElem hl]
    show _ = valN (_ ++ [_])
    rw [valN_snoc, h k hl, List.getD_eq_getElem?_getD, List.getElem?_eq_getElem hl]
    rfl
theorem digs_spec (v : Nat) : 0 < (digs v).length ∧ (∀ c ∈ digs v, dig c = true) ∧ valN (digs v) = v ∧ ((digs v).head? = some 48 → (digs v).length = 1) := by
  fun_induction digs v with
  | case1 v h =>
    refine ⟨by simp, fun c hc => ?_, by simp [valN], fun _ => rfl⟩
    simp at hc; subst hc
    simp [dig]; omega
  | case2 v h ih =>
    obtain ⟨h1, h2, h3, h4⟩ := ih
    refine ⟨by simp, fun c hc => ?_, by rw [valN_snoc, h3]; omega, fun h5 => ?_⟩
    · rcases List.mem_append.1 hc with h5 | h5
      · exact h2 c h5
      · simp at h5; subst h5; simp [dig]; omega
    · exfalso
      have h6 : (digs (v / 10)).head? = some 48 := by
        cases hd : digs (v / 10) with
        | nil => rw [hd] at h1; simp at h1
        | cons a l => rw [hd] at h5; simpa using h5
      have h7 := h4 h6
      cases hd : digs (v / 10) with
      | nil => rw [hd] at h1; simp at h1
      | cons a l =>
        rw [hd] at h6 h7 h3
        simp at h6 h7
        subst h6 h7
        simp [valN] at h3
        omega
end Dec
theorem getD_mem {l : List Nat} {i : Nat} (h : i < l.length) : l.getD i 0 ∈ l := by
  rw [List.getD_eq_getElem?_getD, List.getElem?_eq_getElem h]
  exact List.getElem_mem h
namespace Lex
/-- a number. -/
theorem tok_int (U T : ByteArray) (p : Nat) (n : Int) (B : List Nat) (hn : -9007199254740991 ≤ n ∧ n ≤ 9007199254740991) (hT : nats T = Dec.print n ++ B) (hB : DB B) : tokR U T p (bn T 0) = .ok ⟨3, ⟨#[]⟩, n, p⟩ (p + (Dec.print n).length) := by
  obtain ⟨D, hD⟩ : ∃ D, Dec.digs n.natAbs = D := ⟨_, rfl⟩
  obtain ⟨d1, d2, d3, d4⟩ := Dec.digs_spec n.natAbs
  rw [hD] at d1 d2 d3 d4
  obtain ⟨a, X, hX, hXa, hXl, ha, hneg⟩ : ∃ (a : Nat) (X : List Nat), Dec.print n = X ∧ (∀ i, i < D.length → X.getD (a + i) 0 = D.getD i 0) ∧ X.length = a + D.length ∧ a ≤ 1 ∧ ((a = 1 ∧ n < 0 ∧ X.getD 0 0 = 45) ∨ (a = 0 ∧ ¬ n < 0)) := by
    unfold Dec.print
    rw [hD]
    by_cases h : n < 0
    · rw [if_pos h]
      exact ⟨1, _, rfl, fun i _ => by rw [Nat.add_comm]; rfl, by simp; omega, by omega, Or.inl ⟨rfl, h, rfl⟩⟩
    · rw [if_neg h]
      exact ⟨0, _, rfl, fun i _ => by rw [Nat.zero_add], by simp, by omega, Or.inr ⟨rfl, h⟩⟩
  rw [hX] at hT ⊢
  have hTs := size_of T _ hT
  rw [List.length_append] at hTs
  have hlt : ∀ i, i < X.length → bn T i = X.getD i 0 := fun i hi => by rw [bn_eq, hT, app_lt hi]
  have hdg : ∀ i, i < D.length → bn T (a + i) = D.getD i 0 := fun i hi => by rw [hlt _ (by omega), hXa i hi]
  have hdig : ∀ i, a ≤ i → i < X.length → Dec.dig (bn T i) = true := fun i h1 h2 => by
    have := hdg (i - a) (by omega)
    rw [show a + (i - a) = i by omega] at this
    rw [this]
    exact d2 _ (getD_mem (by omega))
  have hend : X.length = T.size ∨ Dec.dig (bn T X.length) = false := by
    rcases hB.at_ with h | h
    · left; rw [hTs, h]; simp
    · right
      have e : bn T X.length = B.getD 0 0 := by rw [bn_eq, hT]; exact app_ge (x := X) (B := B) 0
      rw [e]; exact dl_dig h
  have h0 : bn T a = D.getD 0 0 := by have := hdg 0 d1; rwa [Nat.add_zero] at this
  have hd0 := hdig a (Nat.le_refl _) (by omega)
  have hsg : Dec.sgn (bn T) T.size = a := by
    unfold Dec.sgn
    rcases hneg with ⟨h1, _, h2⟩ | ⟨h1, _⟩
    · rw [if_pos ⟨by omega, by rw [hlt 0 (by omega)]; exact h2⟩]; exact h1.symm
    · rw [if_neg (fun h => ?_)]
      · exact h1.symm
      · subst h1
        rw [h.2] at hd0
        exact absurd hd0 (by decide)
  have h48 : bn T a = 48 → D.length = 1 := fun h => d4 (by
    rw [h0] at h
    cases D with
    | nil => simp at d1
    | cons c D => simp at h; rw [h]; rfl)
  have hneg48 : bn T a = 48 → a = 0 := fun h => by
    rcases hneg with ⟨h1, h2, _⟩ | ⟨h1, _⟩
    · exfalso
      have h3 := h48 h
      rw [h0] at h
      cases D with
      | nil => simp at d1
      | cons c D =>
        simp at h h3
        subst h h3
        simp [Dec.valN] at d3
        omega
    · exact h1
  have hlead : Dec.lead (bn T) T.size = X.length := by
    unfold Dec.lead
    rw [hsg, if_neg (by omega), if_neg (by rw [hd0]; decide)]
    split
    · rename_i h
      have := h48 h
      have := hneg48 h
      omega
    · exact Dec.digits_to _ _ _ _ (by omega) (by omega) hdig hend
  obtain ⟨V, hV⟩ : ∃ V, T.extract 0 X.length = V := ⟨_, rfl⟩
  have hVn : nats V = X := by rw [← hV, nats_ext, hT, List.drop_zero, Nat.sub_zero, List.take_left]
  have hVs : V.size = X.length := size_of V _ hVn
  have hVb : ∀ i, i < X.length → bn V i = bn T i := fun i hi => by rw [hlt i hi, bn_eq, hVn]
  have hVlead : Dec.lead (bn V) V.size = X.length := by
    unfold Dec.lead
    have hsV : Dec.sgn (bn V) V.size = a := by
      unfold Dec.sgn at hsg ⊢
      rw [hVb 0 (by omega), hVs]
      by_cases h : bn T 0 = 45
      · rw [if_pos ⟨by omega, h⟩] at hsg; rw [if_pos ⟨by omega, h⟩]; exact hsg
      · rw [if_neg (fun h2 => h h2.2)] at hsg; rw [if_neg (fun h2 => h h2.2)]; exact hsg
    rw [hsV, if_neg (by omega), hVb a (by omega), if_neg (by rw [hd0]; decide)]
    split
    · rename_i h
      have := h48 h
      have := hneg48 h
      omega
    · exact Dec.digits_to _ _ _ _ (by omega) (by omega) (fun i h1 h2 => by rw [hVb i h2]; exact hdig i h1 h2) (Or.inl hVs.symm)
  have hVsg : Dec.sgn (bn V) V.size = a := by
    unfold Dec.sgn at hsg ⊢
    rw [hVb 0 (by omega), hVs]
    by_cases h : bn T 0 = 45
    · rw [if_pos ⟨by omega, h⟩] at hsg; rw [if_pos ⟨by omega, h⟩]; exact hsg
    · rw [if_neg (fun h2 => h h2.2)] at hsg; rw [if_neg (fun h2 => h h2.2)]; exact hsg
  have hvl : Dec.vl (bn V) a (V.size - a) = n.natAbs := by
    have := Dec.vl_list (bn V) a D (fun i hi => by rw [hVb _ (by omega), hdg i hi]) D.length (Nat.le_refl _)
    rw [List.take_length, d3] at this
    rw [← this, hVs, hXl, Nat.add_sub_cancel_left]
  have hread : Dec.read (bn V) V.size (-9007199254740991) 9007199254740991 = (n, .ok) := by
    unfold Dec.read
    rw [hVlead, if_neg (by omega), hVsg]
    rcases hneg with ⟨h1, h2, _⟩ | ⟨h1, h2⟩
    · subst h1
      rw [if_pos rfl, hvl, if_neg (by omega), Dec.chk, show (-(n.natAbs : Int)) = n by omega, if_neg (by omega)]
    · subst h1
      rw [Nat.sub_zero] at hvl
      rw [if_neg (by decide), hvl, if_neg (by omega), Dec.chk, show (n.natAbs : Int) = n by omega, if_neg (by omega)]
  have hc0 : small (bn T 0) = false ∧ ¬ bn T 0 = 34 ∧ (bn T 0 = 45 ∨ Dec.dig (bn T 0) = true) := by
    rcases hneg with ⟨h1, h2, h3⟩ | ⟨h1, h2⟩
    · have e : bn T 0 = 45 := by rw [hlt 0 (by omega)]; exact h3
      rw [e]; decide
    · subst h1
      have h4 := hd0
      simp only [Dec.dig, Bool.and_eq_true, decide_eq_true_eq] at h4
      refine ⟨?_, by omega, Or.inr hd0⟩
      simp [small]; omega
  unfold tokR
  rw [if_neg (by rw [hc0.1]; decide), if_neg hc0.2.1, if_pos hc0.2.2, hlead, tokNum, if_neg (by omega), hV, hread]
  rfl
end Lex
end Go.Proofs.YtgklmpooonnmiaaDoor
