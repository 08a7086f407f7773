/-
  Lemmas and contracts that the proofs over this seat use (part LexBackP3); no statement of the seat is claimed in this text, and nothing is assumed in it.
-/
import Derived.Test.YtgklmpooonnmiaaDoorLexBackP2
import Derived.Test.YtgklmpooonnmiaaDoorRefSame
set_option linter.unusedVariables false
set_option linter.unusedSimpArgs false
namespace Go.Proofs.YtgklmpooonnmiaaDoor
open Go.RowKit
theorem bn_ba (l : List Nat) (h : ∀ x ∈ l, x < 256) : bn (ba l) = fun i => l.getD i 0 := by
  funext i
  rw [Lex.bn_eq, nats_ba l h]
namespace Utf
/-- a letter's bytes. -/
def Ltr (y : List Nat) : Prop := ∃ x, next (fun i => y.getD i 0) y.length = (some x, y.length)
/-- letters one behind the other. -/
def Vd (l : List Nat) : Prop := ∃ ys : List (List Nat), l = ys.flatten ∧ ∀ y ∈ ys, Ltr y
theorem Vd.nil : Vd [] := ⟨[], rfl, fun y h => by cases h⟩
theorem Vd.snoc {l y : List Nat} (h : Vd l) (hy : Ltr y) : Vd (l ++ y) := by
  obtain ⟨ys, rfl, hys⟩ := h
  refine ⟨ys ++ [y], by simp, fun z hz => ?_⟩
  rcases List.mem_append.1 hz with hz | hz
  · exact hys z hz
  · simp at hz; subst hz; exact hy
theorem Ltr.pos {y : List Nat} (h : Ltr y) : 1 ≤ y.length := by
  obtain ⟨x, h⟩ := h
  exact (next_size _ _ _ _ h).1
theorem bad_letters (f : Nat → Nat) (n : Nat) (ys : List (List Nat)) : ∀ p, (∀ y ∈ ys, Ltr y) → p + ys.flatten.length = n → (∀ i, i < ys.flatten.length → f (p + i) = ys.flatten.getD i 0) → bad f n p = none := by
  induction ys with
  | nil =>
    intro p _ hp _
    rw [bad, if_neg (by simp at hp; omega)]
  | cons y ys ih =>
    intro p hys hp hf
    have hy := hys y List.mem_cons_self
    have hpos := hy.pos
    obtain ⟨x, hx⟩ := hy
    rw [List.flatten_cons, List.length_append] at hp hf
    rw [bad, if_pos (by omega), next_ext (g := fun i => f (p + i)) (n' := n - p) hx (by omega) (fun i hi => by
      show _ = f (p + i)
      rw [hf i (by omega), Lex.app_lt hi])]
    show bad f n (p + max y.length 1) = none
    rw [show max y.length 1 = y.length by omega]
    exact ih (p + y.length) (fun z hz => hys z (List.mem_cons_of_mem _ hz)) (by omega) (fun i hi => by
      have := hf (y.length + i) (by omega)
      rw [Lex.app_ge] at this
      rw [← this, Nat.add_assoc])
theorem Vd.bad_none {l : List Nat} (h : Vd l) (hl : ∀ x ∈ l, x < 256) : bad (bn (ba l)) (ba l).size 0 = none := by
  obtain ⟨ys, rfl, hys⟩ := h
  exact bad_letters _ _ ys 0 hys (by rw [ba_size, Nat.zero_add]) (fun i hi => by rw [bn_ba _ hl, Nat.zero_add])
end Utf
namespace Lex
/-- what stands within quotes: letters, none below 32. -/
structure GT (l : List Nat) : Prop where
  v : Utf.Vd l
  b : ∀ x ∈ l, x < 256
  g : ∀ x ∈ l, 32 ≤ x
theorem GT.nil : GT [] := ⟨Utf.Vd.nil, (fun x h => by cases h), (fun x h => by cases h)⟩
theorem text_good (s : ByteArray) (k : Nat) (out o : List Nat) (e : Nat) (h : text s k out = (some o, e)) (hg : GT out) : GT o ∧ o.length + k ≤ out.length + e := by
  fun_induction text s k out with
  | case1 k out h1 h2 => cases h
  | case2 k out h1 h2 h3 => cases h; exact ⟨hg, by omega⟩
  | case3 k out h1 h2 h3 h4 h5 ih =>
    have hd := h5.2
    have := ih h ⟨hg.v.snoc ⟨bn s (k + 1), by
        unfold Utf.next
        rw [if_neg (by simp), if_pos (by show bn s (k + 1) < 128; omega)]
        rfl⟩, fun x hx => by
        rcases List.mem_append.1 hx with hx | hx
        · exact hg.b x hx
        · simp at hx; omega, fun x hx => by
        rcases List.mem_append.1 hx with hx | hx
        · exact hg.g x hx
        · simp at hx; omega⟩
    simp at this
    exact ⟨this.1, by omega⟩
  | case4 k out h1 h2 h3 h4 h5 => cases h
  | case5 k out h1 h2 h3 h4 x hx => cases h
  | case6 k out h1 h2 h3 h4 x m hx ih =>
    have hsz := Utf.next_size _ _ _ _ hx
    obtain ⟨hc0, hcj⟩ := Utf.next_cont hx
    have hlm : (((nats s).drop k).take m).length = m := by rw [List.length_take, List.length_drop, nats_length]; omega
    have hget : ∀ j, j < m → (((nats s).drop k).take m).getD j 0 = bn s (k + j) := fun j hj => by
      rw [List.getD_eq_getElem?_getD, List.getElem?_take_of_lt hj, List.getElem?_drop]
      rfl
    have hmem : ∀ z ∈ ((nats s).drop k).take m, 32 ≤ z := fun z hz => by
      obtain ⟨j, hj, rfl⟩ := List.mem_iff_getElem.1 hz
      have hjm : j < m := by omega
      have := hget j hjm
      rw [List.getD_eq_getElem?_getD, List.getElem?_eq_getElem hj] at this
      simp only [Option.getD_some] at this
      rw [this]
      by_cases hj0 : j = 0
      · subst hj0; rw [Nat.add_zero]; omega
      · have := hcj j (by omega) hjm
        omega
    have := ih h ⟨hg.v.snoc ⟨x, by
        rw [hlm]
        exact Utf.next_ext hx (Nat.le_refl _) (fun j hj => (hget j hj).symm)⟩, fun z hz => by
        rcases List.mem_append.1 hz with hz | hz
        · exact hg.b z hz
        · exact nats_lt s z (List.mem_of_mem_drop (List.mem_of_mem_take hz)), fun z hz => by
        rcases List.mem_append.1 hz with hz | hz
        · exact hg.g z hz
        · exact hmem z hz⟩
    rw [List.length_append, hlm] at this
    exact ⟨this.1, by omega⟩
  | case7 k out h1 => cases h
theorem quote_good (l : List Nat) (h : GT l) : ∃ o, quote (ba l) = some o := by
  unfold quote
  rw [if_pos ⟨h.v.bad_none h.b, by rw [nats_ba l h.b, List.all_eq_true]; exact fun x hx => decide_eq_true (h.g x hx)⟩]
  exact ⟨_, rfl⟩
theorem quote_pos {s : ByteArray} {o : List Nat} (h : quote s = some o) : 0 < o.length := by
  unfold quote at h
  split at h
  · cases h; simp
  · cases h
theorem smalls_pre (f : Nat → Nat) (n a : Nat) : ∀ i, a ≤ i → i < smalls f n a → small (f i) = true := by
  fun_induction smalls f n a with
  | case1 a h1 h2 ih =>
    intro i hi hn
    by_cases e : a = i
    · subst e; exact h2
    · exact ih i (by omega) hn
  | case2 a h1 h2 => intro i hi hn; omega
  | case3 a h1 => intro i hi hn; omega
theorem sign_self (f g : Nat → Nat) (n m : Nat) (h : sign f n = m) (hm : m ≠ 0) (hfg : ∀ i, i < m → g i = f i) : sign g m = m := by
  unfold sign at h ⊢
  split at h
  · omega
  · rw [if_neg hm, hfg 0 (by omega)]
    split at h
    · split at h
      · rename_i h1 h2 h3
        subst h
        rw [if_pos h2, if_pos ⟨by omega, by rw [hfg 1 (by omega)]; exact h3.2⟩]
      · omega
    · split at h
      · split at h
        · rename_i h1 h2 h3 h4
          subst h
          rw [if_neg h2, if_pos h3, if_pos ⟨by omega, by rw [hfg 1 (by omega)]; exact h4.2⟩]
        · rename_i h1 h2 h3 h4
          subst h
          rw [if_neg h2, if_pos h3, if_neg (fun h => by omega)]
      · split at h
        · rename_i h1 h2 h3 h4
          subst h
          rw [if_neg h2, if_neg h3, if_pos h4]
        · omega
theorem read_ok (f : Nat → Nat) (n : Nat) (lo hi v : Int) (h : Dec.read f n lo hi = (v, .ok)) : lo ≤ v ∧ v ≤ hi := by
  have key : ∀ x, Dec.chk lo hi x = (v, .ok) → lo ≤ v ∧ v ≤ hi := fun x hx => by
    unfold Dec.chk at hx
    split at hx
    · cases hx
    · cases hx; omega
  unfold Dec.read at h
  split at h
  · cases h
  · split at h
    · split at h
      · cases h
      · exact key _ h
    · split at h
      · cases h
      · exact key _ h
/-- a token of a scan: it has a text, and reads as it. -/
structure Gd (t : Tk) : Prop where
  sp : 0 < t.ti.spell.size
  nt : ∀ p, ntk t.ti p = ⟨t.k, t.s, t.n, p⟩
  sz : t.s.size ≤ 2048
  lo : -9007199254740991 ≤ t.n
  hi : t.n ≤ 9007199254740991
theorem tok_good (s : ByteArray) (k : Nat) (t : Tk) (m : Nat) (hs : s.size ≤ 2048) (hk : k < s.size) (h : token s k = .ok t m) : Gd t ∧ t.p = k := by
  unfold token tokR at h
  have hT : (s.extract k s.size).size = s.size - k := by simp
  generalize s.extract k s.size = T at *
  have hext : ∀ n, n ≤ T.size → (T.extract 0 n).size = n ∧ ∀ i, i < n → bn (T.extract 0 n) i = bn T i := fun n hn => by
    refine ⟨by simp; omega, fun i hi => ?_⟩
    have := bn_ext T 0 n i hn (by omega)
    rw [this, Nat.zero_add]
  split at h
  · rename_i hsm
    unfold tokSmall at h
    split at h
    · cases h
    · rename_i h32
      cases h
      have h1 := smalls_le (bn T) T.size 0 (by omega)
      have h2 := smalls_pre (bn T) T.size 0
      have h3 := smalls_ge (bn T) T.size 1
      have e := smalls_yes (f := bn T) (n := T.size) (k := 0) (by omega) hsm
      rw [Nat.zero_add] at e
      generalize smalls (bn T) T.size 0 = n at *
      obtain ⟨x1, x2⟩ := hext n h1
      have hw : wordB (T.extract 0 n) = true := by
        unfold wordB
        rw [x1]
        exact decide_eq_true ⟨smalls_to _ _ _ _ (Nat.zero_le _) (Nat.le_refl _) (fun i hi hi2 => by rw [x2 i hi2]; exact h2 i hi hi2) (Or.inl rfl), by omega, by omega⟩
      have hsp : (⟨1, T.extract 0 n, 0, k⟩ : Tk).ti.spell = T.extract 0 n := by
        show spell 1 (T.extract 0 n) 0 = _
        unfold spell
        rw [if_pos rfl, if_pos hw]
      exact ⟨⟨by rw [hsp]; omega, fun p => rfl, by show (T.extract 0 n).size ≤ _; omega, by show (-9007199254740991 : Int) ≤ 0; decide, by show (0 : Int) ≤ 9007199254740991; decide⟩, rfl⟩
  · split at h
    · generalize hx : text s (k + 1) [] = r at h
      obtain ⟨o, e⟩ := r
      cases o with
      | none => cases h
      | some o =>
        cases h
        obtain ⟨hg, hl⟩ := text_good s (k + 1) [] o m hx GT.nil
        have hb := text_bounds s (k + 1) [] o m hx
        obtain ⟨q, hq⟩ := quote_good o hg
        have hsp : (⟨2, ba o, 0, k⟩ : Tk).ti.spell = ba q := by
          show spell 2 (ba o) 0 = _
          unfold spell
          rw [if_neg (by decide), if_pos rfl, hq]; rfl
        simp at hl
        exact ⟨⟨by rw [hsp, ba_size]; exact quote_pos hq, fun p => rfl, by show (ba o).size ≤ _; rw [ba_size]; omega, by show (-9007199254740991 : Int) ≤ 0; decide, by show (0 : Int) ≤ 9007199254740991; decide⟩, rfl⟩
    · split at h
      · unfold tokNum at h
        split at h
        · cases h
        · generalize hr : Dec.read (bn (T.extract 0 (Dec.lead (bn T) T.size))) _ _ _ = rr at h
          obtain ⟨v, er⟩ := rr
          cases er with
          | no _ => cases h
          | pl _ _ => cases h
          | ok =>
            cases h
            have hv := read_ok _ _ _ _ _ hr
            have hsp : (⟨3, ⟨#[]⟩, v, k⟩ : Tk).ti.spell = ba (Dec.print v) := by
              show spell 3 ⟨#[]⟩ v = _
              unfold spell
              rw [if_neg (by decide), if_neg (by decide), if_pos rfl, if_pos hv]
            refine ⟨⟨by
              rw [hsp, ba_size]; unfold Dec.print; have := (Dec.digs_spec v.natAbs).1
              split
              · rw [List.length_cons]; omega
              · exact this, fun p => rfl, by show (⟨#[]⟩ : ByteArray).size ≤ 2048; exact Nat.zero_le _, hv.1, hv.2⟩, rfl⟩
      · unfold tokSign at h
        split at h
        · cases h
        · rename_i hn0
          cases h
          have h1 := sign_le (bn T) T.size
          have h2 := fun g => sign_self (bn T) g T.size _ rfl hn0
          generalize sign (bn T) T.size = n at *
          obtain ⟨x1, x2⟩ := hext n h1
          have hsg : 0 < (T.extract 0 n).size ∧ sign (bn (T.extract 0 n)) (T.extract 0 n).size = (T.extract 0 n).size := by
            rw [x1]
            exact ⟨by omega, h2 _ x2⟩
          have hsp : (⟨4, T.extract 0 n, 0, k⟩ : Tk).ti.spell = T.extract 0 n := by
            show spell 4 (T.extract 0 n) 0 = _
            unfold spell
            rw [if_neg (by decide), if_neg (by decide), if_neg (by decide), if_pos rfl, if_pos hsg]
          exact ⟨⟨by rw [hsp]; omega, fun p => rfl, by show (T.extract 0 n).size ≤ _; omega, by show (-9007199254740991 : Int) ≤ 0; decide, by show (0 : Int) ≤ 9007199254740991; decide⟩, rfl⟩
/-- places rise. -/
def Inc : Nat → List Tk → Prop
  | _, [] => True
  | k, t :: r => k ≤ t.p ∧ Inc t.p r
theorem Inc.le {k m : Nat} {l : List Tk} (h : Inc m l) (hk : k ≤ m) : Inc k l := by
  cases l with
  | nil => trivial
  | cons t r => exact ⟨Nat.le_trans hk h.1, h.2⟩
theorem Inc.at_ {l : List Tk} : ∀ {k : Nat}, Inc k l → ∀ i (h : i + 1 < l.length), (l[i]).p ≤ (l[i + 1]).p := by
  induction l with
  | nil => intro k _ i h; simp at h
  | cons t r ih =>
    intro k hI i h
    cases i with
    | zero =>
      cases r with
      | nil => simp at h
      | cons u r => exact hI.2.1
    | succ i => exact ih hI.2 i (by simpa using h)
theorem scanFrom_good (s : ByteArray) (hs : s.size ≤ 2048) (k : Nat) (l R : List Tk) (hk : k ≤ s.size) (hl : l.length ≤ 512) (h : scanFrom s k l = (.ok, R)) :
    ∃ L, R = l ++ (L ++ [⟨5, ⟨#[]⟩, 0, s.size⟩]) ∧ (∀ t ∈ L, Gd t) ∧ Inc k (L ++ [⟨5, ⟨#[]⟩, 0, s.size⟩]) ∧ l.length + L.length ≤ 512 := by
  fun_induction scanFrom s k l with
  | case1 k l hk2 p n ht => cases h
  | case2 k l hk2 t m ht h5 => cases h
  | case3 k l hk2 t m ht h5 ih =>
    have hb := token_bounds s k hk2 t m ht
    have hsk := skipTo_ge (bn s) s.size (max m (k + 1)) (by omega)
    obtain ⟨L, h1, h2, h3, h4⟩ := ih hsk.2 (by simp; omega) h
    obtain ⟨hg, hp⟩ := tok_good s k t m hs hk2 ht
    refine ⟨t :: L, by rw [h1]; simp, fun u hu => ?_, ⟨by omega, h3.le (by omega)⟩, by simp at h4 ⊢; omega⟩
    rcases List.mem_cons.1 hu with rfl | hu
    · exact hg
    · exact h2 u hu
  | case4 k l hk2 =>
    cases h
    exact ⟨[], by simp, (fun t ht => by cases ht), ⟨hk, trivial⟩, by simpa using hl⟩
theorem scanFrom_err (s : ByteArray) (k : Nat) (l R : List Tk) (e : Er) (h : scanFrom s k l = (e, R)) (he : e ≠ .ok) : R = [] := by
  fun_induction scanFrom s k l with
  | case1 k l hk2 p n ht => cases h; rfl
  | case2 k l hk2 t m ht h5 => cases h; rfl
  | case3 k l hk2 t m ht h5 ih => exact ih h
  | case4 k l hk2 => cases h; exact absurd rfl he
theorem scan_err (s : ByteArray) (R : List Tk) (e : Er) (h : scan s = (e, R)) (he : e ≠ .ok) : R = [] := by
  unfold scan at h
  split at h
  · cases h; rfl
  · exact scanFrom_err _ _ _ _ _ h he
theorem scan_good (s : ByteArray) (R : List Tk) (h : scan s = (.ok, R)) :
    ∃ L, R = L ++ [⟨5, ⟨#[]⟩, 0, s.size⟩] ∧ (∀ t ∈ L, Gd t) ∧ Inc 0 R ∧ L.length ≤ 512 := by
  unfold scan at h
  split at h
  · cases h
  · rename_i h2
    have hsk := skipTo_ge (bn s) s.size 0 (Nat.zero_le _)
    obtain ⟨L, h1, h2, h3, h4⟩ := scanFrom_good s (by omega) _ [] R hsk.2 (by simp) h
    exact ⟨L, by simpa using h1, h2, by rw [h1]; exact h3.le (Nat.zero_le _), by simpa using h4⟩
end Lex
end Go.Proofs.YtgklmpooonnmiaaDoor
