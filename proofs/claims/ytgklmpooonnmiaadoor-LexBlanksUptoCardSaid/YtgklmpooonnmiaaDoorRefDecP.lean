/-
  Lemmas and contracts that the proofs over this seat use (part RefDecP); no statement of the seat is claimed in this text, and nothing is assumed in it.
-/
import Derived.Test.YtgklmpooonnmiaaDoorDecRead
import Derived.Test.YtgklmpooonnmiaaDoorLexTextP
set_option linter.unusedVariables false
set_option linter.unusedSimpArgs false
namespace Go.Proofs.YtgklmpooonnmiaaDoor
open Go.RowKit
namespace Dec
/-- is it wholly a number's text? -/
def form (f : Nat → Nat) (n : Nat) : Bool := decide (0 < n ∧ lead f n = n)
/-- the longest beginning of k bytes that is a number's text. -/
def best (f : Nat → Nat) : Nat → Nat
  | 0 => 0
  | k + 1 => if form f (k + 1) = true then k + 1 else best f k
theorem digits_to (f : Nat → Nat) (n a k : Nat) (ha : a ≤ k) (hk : k ≤ n) (h : ∀ i, a ≤ i → i < k → dig (f i) = true) (he : k = n ∨ dig (f k) = false) : digits f n a = k := by
  fun_induction digits f n a with
  | case1 a h1 h2 ih =>
    by_cases e : a = k
    · subst e
      rcases he with h3 | h3
      · omega
      · rw [h2] at h3; cases h3
    · exact ih (by omega) (fun i hi => h i (by omega))
  | case2 a h1 h2 =>
    by_cases e : a = k
    · exact e
    · exact absurd (h a (Nat.le_refl _) (by omega)) h2
  | case3 a h1 => omega
theorem sgn_at (f : Nat → Nat) {n m : Nat} (hn : 0 < n) (hm : 0 < m) : sgn f n = sgn f m := by simp [sgn, hn, hm]
theorem form_iff (f : Nat → Nat) (n : Nat) (hn : 0 < n) : form f n = true ↔ sgn f n < n ∧ (f (sgn f n) = 48 → n = 1 ∧ sgn f n = 0) ∧ ∀ i, sgn f n ≤ i → i < n → dig (f i) = true := by
  have hs : sgn f n ≤ 1 := by unfold sgn; split <;> omega
  simp only [form, decide_eq_true_eq]
  constructor
  · rintro ⟨_, h⟩
    have h2 := lead_all h hn
    refine ⟨h2.1, fun h48 => ?_, h2.2⟩
    unfold lead at h
    rw [if_neg (by omega), if_neg (by rw [h48]; decide), if_pos h48] at h
    omega
  · rintro ⟨h1, h2, h3⟩
    refine ⟨hn, ?_⟩
    unfold lead
    rw [if_neg (by omega), if_neg (by rw [h3 _ (Nat.le_refl _) h1]; decide)]
    split
    · rename_i h48
      have := h2 h48
      omega
    · exact digits_to f n _ n (by omega) (Nat.le_refl _) h3 (Or.inl rfl)
theorem best_none (f : Nat → Nat) (k : Nat) (h : ∀ j, 0 < j → j ≤ k → form f j = false) : best f k = 0 := by
  induction k with
  | zero => rfl
  | succ k ih =>
    rw [best, if_neg (by rw [h (k + 1) (by omega) (Nat.le_refl _)]; decide)]
    exact ih fun j h1 h2 => h j h1 (by omega)
theorem best_at (f : Nat → Nat) (k m : Nat) (hm : m ≤ k) (hf : form f m = true) (h : ∀ j, m < j → j ≤ k → form f j = false) : best f k = m := by
  induction k with
  | zero => simp [form] at hf; omega
  | succ k ih =>
    by_cases e : m = k + 1
    · subst e; rw [best, if_pos hf]
    · rw [best, if_neg (by rw [h (k + 1) (by omega) (Nat.le_refl _)]; decide)]
      exact ih (by omega) fun j h1 h2 => h j h1 (by omega)
/-- what the reference's loop finds is what the program's reckoning finds. -/
theorem best_lead (f : Nat → Nat) (len k : Nat) (hk : k ≤ len) (hd : ∀ i, 1 ≤ i → i < k → dig (f i) = true) (he : k = len ∨ (1 ≤ k ∧ dig (f k) = false)) : best f k = lead f len := by
  by_cases h0 : len = 0
  · subst h0
    obtain rfl : k = 0 := by omega
    rfl
  have hk1 : 0 < k := by omega
  have hs : sgn f len ≤ 1 := by unfold sgn; split <;> omega
  have hsg : ∀ j, 0 < j → sgn f j = sgn f len := fun j hj => sgn_at f hj (by omega)
  have no : ∀ j, 0 < j → (∃ i, sgn f len ≤ i ∧ i < j ∧ dig (f i) = false) → form f j = false := fun j hj ⟨i, h1, h2, h3⟩ => by
    rw [← Bool.not_eq_true]
    intro h
    have := ((form_iff f j hj).1 h).2.2 i (by rw [hsg j hj]; exact h1) h2
    rw [h3] at this; cases this
  unfold lead
  by_cases h1 : len ≤ sgn f len
  · rw [if_pos h1]
    refine best_none f k fun j hj hjk => ?_
    rw [← Bool.not_eq_true]
    intro h
    have := ((form_iff f j hj).1 h).1
    rw [hsg j hj] at this
    omega
  · rw [if_neg h1]
    by_cases h2 : dig (f (sgn f len)) = false
    · rw [if_pos h2]
      refine best_none f k fun j hj hjk => ?_
      by_cases h3 : sgn f len < j
      · exact no j hj ⟨_, Nat.le_refl _, h3, h2⟩
      · rw [← Bool.not_eq_true]
        intro h
        have := ((form_iff f j hj).1 h).1
        rw [hsg j hj] at this
        omega
    · rw [if_neg h2]
      have h2' : dig (f (sgn f len)) = true := by simpa using h2
      have hsk : sgn f len < k := by
        rcases he with he | ⟨_, he⟩
        · omega
        · rcases Nat.lt_or_ge (sgn f len) k with h | h
          · exact h
          · have e : k = sgn f len := by omega
            rw [e, h2'] at he; cases he
      have all : ∀ i, sgn f len ≤ i → i < k → dig (f i) = true := fun i h3 h4 => by
        by_cases e : i = sgn f len
        · rw [e]; exact h2'
        · exact hd i (by omega) h4
      by_cases h48 : f (sgn f len) = 48
      · rw [if_pos h48]
        by_cases hs0 : sgn f len = 0
        · rw [hs0]
          refine best_at f k 1 (by omega) ((form_iff f 1 (by omega)).2 ⟨by rw [hsg 1 (by omega)]; omega, fun _ => ⟨rfl, by rw [hsg 1 (by omega)]; exact hs0⟩, fun i h3 h4 => all i (by rw [hs0]; omega) (by omega)⟩) fun j hj hjk => ?_
          rw [← Bool.not_eq_true]
          intro h
          have := ((form_iff f j (by omega)).1 h).2.1 (by rw [hsg j (by omega)]; exact h48)
          omega
        · have hs1 : sgn f len = 1 := by omega
          rw [hs1]
          refine best_none f k fun j hj hjk => ?_
          rw [← Bool.not_eq_true]
          intro h
          have := ((form_iff f j (by omega)).1 h).2.1 (by rw [hsg j (by omega)]; exact h48)
          rw [hsg j hj] at this
          omega
      · rw [if_neg h48, digits_to f len _ k (by omega) hk all (by rcases he with h | ⟨_, h⟩; exact Or.inl h; exact Or.inr h)]
        refine best_at f k k (Nat.le_refl _) ((form_iff f k hk1).2 ⟨by rw [hsg k hk1]; exact hsk, fun h => absurd (by rw [hsg k hk1] at h; exact h) h48, fun i h3 h4 => all i (by rw [hsg k hk1] at h3; exact h3) h4⟩) fun j hj hjk => by omega
theorem digits_congr {f g : Nat → Nat} {n : Nat} (h : ∀ i, i < n → f i = g i) (a : Nat) : digits f n a = digits g n a := by
  fun_induction digits f n a with
  | case1 a h1 h2 ih => rw [digits_yes h1 (by rw [← h a h1]; exact h2)]; exact ih
  | case2 a h1 h2 => rw [digits_no (by rw [← h a h1]; exact h2)]
  | case3 a h1 => rw [digits_end h1]
theorem sgn_congr {f g : Nat → Nat} {n : Nat} (h : ∀ i, i < n → f i = g i) : sgn f n = sgn g n := by
  unfold sgn
  by_cases h0 : 0 < n
  · rw [h 0 h0]
  · rw [if_neg (fun h => h0 h.1), if_neg (fun h => h0 h.1)]
theorem lead_congr {f g : Nat → Nat} {n : Nat} (h : ∀ i, i < n → f i = g i) : lead f n = lead g n := by
  unfold lead
  rw [sgn_congr h]
  by_cases h1 : n ≤ sgn g n
  · rw [if_pos h1, if_pos h1]
  · rw [if_neg h1, if_neg h1, h _ (by omega), digits_congr h]
theorem form_congr {f g : Nat → Nat} {n : Nat} (h : ∀ i, i < n → f i = g i) : form f n = form g n := by
  unfold form; rw [lead_congr h]
theorem form_read (f : Nat → Nat) (n : Nat) (h : form f n = false) (lo hi : Int) : read f n lo hi = (0, .pl (lead f n) 40) := by
  unfold read
  rw [if_pos]
  simp only [form, decide_eq_false_iff_not] at h
  have := lead_le f n
  omega
theorem form_read' (f : Nat → Nat) (n : Nat) (h : form f n = true) (lo hi : Int) : read f n lo hi = if sgn f n = 1 then (if 9223372036854775808 < vl f 1 (n - 1) then (0, .no 41) else chk lo hi (-(vl f 1 (n - 1) : Int))) else if 9223372036854775808 ≤ vl f 0 n then (0, .no 41) else chk lo hi (vl f 0 n : Int) := by
  conv => lhs; unfold read
  simp only [form, decide_eq_true_eq] at h
  rw [if_neg (by omega)]
theorem vl_lt (f : Nat → Nat) (a k : Nat) (h : ∀ i, i < k → dig (f (a + i)) = true) : vl f a k < 10 ^ k := by
  induction k with
  | zero => simp [vl]
  | succ k ih =>
    have h1 := ih fun i hi => h i (by omega)
    have h2 := h k (by omega)
    simp only [dig, Bool.and_eq_true, decide_eq_true_eq] at h2
    rw [vl, Nat.pow_succ]
    omega
/-- a number without noughts ahead is at least so much. -/
theorem vl_ge (f : Nat → Nat) (a k : Nat) (h0 : 49 ≤ f a) (h : ∀ i, i < k + 1 → dig (f (a + i)) = true) : 10 ^ k ≤ vl f a (k + 1) := by
  induction k with
  | zero => simp only [vl, Nat.add_zero]; omega
  | succ k ih =>
    have h1 := ih fun i hi => h i (by omega)
    rw [vl, Nat.pow_succ]
    omega
/-- the number that a list of digits tells. -/
def vF : List UInt8 → Nat
  | [] => 0
  | c :: l => (c.toNat - 48) * 10 ^ l.length + vF l
theorem vF_lt (l : List UInt8) (h : ∀ c ∈ l, dig c.toNat = true) : vF l < 10 ^ l.length := by
  induction l with
  | nil => decide
  | cons c l ih =>
    have h1 := ih fun x hx => h x (List.mem_cons_of_mem _ hx)
    have h2 := h c List.mem_cons_self
    simp only [dig, Bool.and_eq_true, decide_eq_true_eq] at h2
    simp only [vF, List.length_cons, Nat.pow_succ]
    have h3 : (c.toNat - 48) * 10 ^ l.length ≤ 9 * 10 ^ l.length := Nat.mul_le_mul_right _ (by omega)
    omega
theorem vF_snoc (l : List UInt8) (c : UInt8) : vF (l ++ [c]) = vF l * 10 + (c.toNat - 48) := by
  induction l with
  | nil => simp [vF]
  | cons x l ih =>
    simp only [List.cons_append, vF, ih, List.length_append, List.length_cons, List.length_nil, Nat.zero_add, Nat.pow_succ, Nat.add_mul, Nat.mul_assoc]
    omega
theorem less_vF (a b : List UInt8) (hl : a.length = b.length) (ha : ∀ c ∈ a, dig c.toNat = true) (hb : ∀ c ∈ b, dig c.toNat = true) : Op.bytesLess a b = decide (vF a < vF b) := by
  induction a generalizing b with
  | nil =>
    cases b with
    | nil => rfl
    | cons _ _ => simp at hl
  | cons x a ih =>
    cases b with
    | nil => simp at hl
    | cons y b =>
      have hl2 : a.length = b.length := by simpa using hl
      have ha2 := fun c hc => ha c (List.mem_cons_of_mem _ hc)
      have hb2 := fun c hc => hb c (List.mem_cons_of_mem _ hc)
      have h1 := ih b hl2 ha2 hb2
      have h2 := vF_lt a ha2
      have h3 := vF_lt b hb2
      have hx := ha x List.mem_cons_self
      have hy := hb y List.mem_cons_self
      simp only [dig, Bool.and_eq_true, decide_eq_true_eq] at hx hy
      simp only [Op.bytesLess, vF, h1, hl2]
      rw [hl2] at h2
      rw [Bool.eq_iff_iff]
      simp only [Bool.or_eq_true, Bool.and_eq_true, decide_eq_true_eq, beq_iff_eq]
      generalize 10 ^ b.length = p at *
      constructor
      · rintro (h | ⟨h, h4⟩)
        · have h5 : x.toNat < y.toNat := h
          have h6 : (x.toNat - 48 + 1) * p ≤ (y.toNat - 48) * p := Nat.mul_le_mul_right _ (by omega)
          rw [Nat.add_mul] at h6
          omega
        · subst h; omega
      · intro h
        rcases Nat.lt_trichotomy x.toNat y.toNat with h5 | h5 | h5
        · exact Or.inl h5
        · have e : x = y := UInt8.toNat_inj.1 h5
          subst e
          exact Or.inr ⟨rfl, by omega⟩
        · exfalso
          have h6 : (y.toNat - 48 + 1) * p ≤ (x.toNat - 48) * p := Nat.mul_le_mul_right _ (by omega)
          rw [Nat.add_mul] at h6
          omega
theorem vl_congr {f g : Nat → Nat} {a b : Nat} (k : Nat) (h : ∀ i, i < k → f (a + i) = g (b + i)) : vl f a k = vl g b k := by
  induction k with
  | zero => rfl
  | succ k ih => rw [vl, vl, ih fun i hi => h i (by omega), h k (by omega)]
theorem vl_take (s : ByteArray) (k : Nat) (hk : k ≤ s.size) : vl (bn s) 0 k = vF (s.data.toList.take k) := by
  induction k with
  | zero => simp [vl, vF]
  | succ k ih =>
    have h1 : k < s.data.toList.length := by rw [Array.length_toList]; exact hk
    rw [vl, ih (by omega), List.take_add_one, List.getElem?_eq_getElem h1]
    show _ = vF (_ ++ [_])
    rw [vF_snoc, Nat.zero_add]
    congr 2
    rw [← bn_data, List.getD_eq_getElem?_getD, List.getElem?_eq_getElem h1]
    rfl
theorem vl_all (s : ByteArray) : vl (bn s) 0 s.size = vF s.data.toList := by
  rw [vl_take s s.size (Nat.le_refl _), List.take_of_length_le (by rw [Array.length_toList]; exact Nat.le_refl _)]
theorem dig_all (s : ByteArray) (h : ∀ i, i < s.size → dig (bn s i) = true) : ∀ c ∈ s.data.toList, dig c.toNat = true := by
  intro c hc
  obtain ⟨i, hi, rfl⟩ := List.mem_iff_getElem.1 hc
  have h1 : i < s.size := by rw [Array.length_toList] at hi; exact hi
  have := h i h1
  rw [← bn_data, List.getD_eq_getElem?_getD, List.getElem?_eq_getElem hi] at this
  exact this
/-- which of two texts of numbers above 0 is less. -/
def lessB (a b : ByteArray) : Bool := if a.size = b.size then Op.bytesLess a.toList b.toList else decide (a.size < b.size)
/-- the limit against a text of digits. -/
theorem lessB_iff (L s : ByteArray) (hL : L.size = 19) (hLd : ∀ c ∈ L.data.toList, dig c.toNat = true) (hv : vF L.data.toList < 10 ^ 19) (hv2 : 10 ^ 18 ≤ vF L.data.toList) (hs : 0 < s.size) (hd : ∀ i, i < s.size → dig (bn s i) = true) (h0 : bn s 0 = 48 → s.size = 1) :
    lessB L s = decide (vF L.data.toList < vl (bn s) 0 s.size) := by
  unfold lessB
  by_cases e : L.size = s.size
  · rw [if_pos e, ByteArray.toList_eq, ByteArray.toList_eq, less_vF _ _ (by rw [Array.length_toList, Array.length_toList]; exact e) hLd (dig_all s hd), vl_all]
  · rw [if_neg e, hL]
    apply decide_eq_decide.2
    have h1 := vl_lt (bn s) 0 s.size (fun i hi => by rw [Nat.zero_add]; exact hd i hi)
    constructor
    · intro h
      have h2 : 49 ≤ bn s 0 := by
        have h3 := hd 0 hs
        simp only [dig, Bool.and_eq_true, decide_eq_true_eq] at h3
        by_cases h4 : bn s 0 = 48
        · have := h0 h4; omega
        · omega
      have h3 := vl_ge (bn s) 0 19 h2 (fun i hi => by rw [Nat.zero_add]; exact hd i (by omega))
      have h4 := vl_mono (bn s) 0 (show 19 + 1 ≤ s.size by omega)
      omega
    · intro h
      rw [hL] at e
      by_cases h2 : s.size < 19
      · have h3 : 10 ^ s.size ≤ 10 ^ 18 := Nat.pow_le_pow_right (by decide) (by omega)
        omega
      · omega
end Dec
end Go.Proofs.YtgklmpooonnmiaaDoor
