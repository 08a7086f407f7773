/-
  Lemmas and contracts that the proofs over this seat use (JoinScan, JoinLoc); no statement of the seat is claimed in this text, and nothing is assumed in it.
-/
import Derived.Test.YtgklmpooonnmiaaDoorJ12
import Derived.Test.YtgklmpooonnmiaaDoorJ27
import Derived.Test.YtgklmpooonnmiaaDoorJ28
set_option linter.unusedVariables false
set_option linter.unusedSimpArgs false
namespace Go.Proofs.YtgklmpooonnmiaaDoor
open Go.RowKit
namespace Utf
theorem next_win {f g : Nat → Nat} {n n' x m : Nat} (h : next f n = (some x, m)) (hm : m ≤ n') (hfg : ∀ i, i < m → f i = g i) : next g n' = (some x, m) := by
 unfold next at h
 split at h
 ·cases h
 ·split at h
  ·rename_i h1 h2
   cases h
   have e := hfg 0 (by omega)
   unfold next
   rw [if_neg (by omega), ← e, if_pos h2]
  ·split at h
   ·cases h
   ·split at h
    ·rename_i h1 h2 h3 h4
     cases h
     have e := hfg 0 (by omega)
     unfold next
     rw [if_neg (by omega), ← e, if_neg h2, if_neg (by omega), ← pre_congr (f := f) (g := g) (wide (f 0) - 1) (fun i hi => hfg i (by omega)), ← cont_congr (f := f) (g := g) (wide (f 0) - 1) (fun i hi => hfg i (by omega)), if_pos h4]
    ·cases h
theorem next_most {f : Nat → Nat} {n x m : Nat} (h : next f n = (some x, m)) : m ≤ n := by
 unfold next at h
 split at h
 ·cases h
 ·split at h
  ·cases h; omega
  ·split at h
   ·cases h
   ·split at h
    ·cases h; omega
    ·cases h
end Utf
structure Win (U : ByteArray) (d : Nat) (s : ByteArray) : Prop where
 at_ : ∀ i, i < s.size → bn U (d + i) = bn s i
 le : d + s.size ≤ U.size
 nx : d + s.size = U.size ∨ bn U (d + s.size) = 10
namespace Lex
theorem ba_ext {a b : ByteArray} (h : a.size = b.size) (hi : ∀ i, i < a.size → bn a i = bn b i) : a = b := by
 ext1
 apply Array.ext
 ·exact h
 ·intro i h1 h2
  have h1' : i < a.size := h1
  have h2' : i < b.size := h2
  have := hi i h1
  rw [← bn_at a i h1', ← bn_at b i h2'] at this
  exact UInt8.toNat_inj.1 this
theorem smalls_win (f g : Nat → Nat) (n n' : Nat) (hn : n ≤ n') (h : ∀ i, i < n → g i = f i) (he : n = n' ∨ small (g n) = false) (k : Nat) (hk : k ≤ n) : smalls g n' k = smalls f n k := by
 fun_induction smalls f n k with
 | case1 k h1 h2 ih => rw [smalls_yes (by omega) (by rw [h k h1]; exact h2)]; exact ih (by omega)
 | case2 k h1 h2 => rw [smalls_no (by rw [h k h1]; exact h2)]
 | case3 k h1 =>
  have e : k = n := by omega
  subst e
  rcases he with h2 | h2
  ·rw [smalls_end (by omega)]
  ·rw [smalls_no (by rw [h2]; decide)]
theorem digits_win (f g : Nat → Nat) (n n' : Nat) (hn : n ≤ n') (h : ∀ i, i < n → g i = f i) (he : n = n' ∨ Dec.dig (g n) = false) (k : Nat) (hk : k ≤ n) : Dec.digits g n' k = Dec.digits f n k := by
 fun_induction Dec.digits f n k with
 | case1 k h1 h2 ih => rw [Dec.digits_yes (by omega) (by rw [h k h1]; exact h2)]; exact ih (by omega)
 | case2 k h1 h2 => rw [Dec.digits_no (by rw [h k h1]; exact h2)]
 | case3 k h1 =>
  have e : k = n := by omega
  subst e
  rcases he with h2 | h2
  ·rw [Dec.digits_end (by omega)]
  ·rw [Dec.digits_no (by rw [h2]; decide)]
theorem lead_win (f g : Nat → Nat) (n n' : Nat) (h0 : 0 < n) (hn : n ≤ n') (h : ∀ i, i < n → g i = f i) (he : n = n' ∨ Dec.dig (g n) = false) : Dec.lead g n' = Dec.lead f n := by
 have hs : Dec.sgn g n' = Dec.sgn f n := by
  unfold Dec.sgn
  rw [h 0 h0]
  by_cases h45 : f 0 = 45
  ·rw [if_pos ⟨by omega, h45⟩, if_pos ⟨h0, h45⟩]
  ·rw [if_neg (fun x => h45 x.2), if_neg (fun x => h45 x.2)]
 have hs1 : Dec.sgn f n ≤ 1 := by unfold Dec.sgn; split <;> omega
 unfold Dec.lead
 rw [hs]
 by_cases hl : n ≤ Dec.sgn f n
 ·rw [if_pos hl]
  have e : Dec.sgn f n = n := by omega
  rcases he with h2 | h2
  ·rw [if_pos (by omega)]
  ·rw [e]
   split
   ·rfl
   ·first | rfl | rw [if_pos h2]
 ·rw [if_neg hl, if_neg (by omega), h _ (by omega), digits_win f g n n' hn h he _ (by omega)]
theorem sign_win (f g : Nat → Nat) (n n' : Nat) (h0 : 0 < n) (hn : n ≤ n') (h : ∀ i, i < n → g i = f i) (he : n = n' ∨ g n = 10) : sign g n' = sign f n := by
 have h1 : (1 < n' ∧ g 1 = 61) ↔ (1 < n ∧ f 1 = 61) := by
  by_cases hl : 1 < n
  ·rw [h 1 hl]; exact ⟨fun x => ⟨hl, x.2⟩, fun x => ⟨by omega, x.2⟩⟩
  ·have e : n = 1 := by omega
   subst e
   rcases he with h2 | h2
   ·rw [← h2]; exact ⟨fun x => absurd x.1 (by omega), fun x => absurd x.1 (by omega)⟩
   ·rw [h2]; exact ⟨fun x => absurd x.2 (by decide), fun x => absurd x.1 (by omega)⟩
 have a1 : ¬ n = 0 := by omega
 have a2 : ¬ n' = 0 := by omega
 unfold sign
 rw [if_neg a1, if_neg a2, h 0 h0]
 simp only [h1]
theorem win_take {U s : ByteArray} {d : Nat} (hw : Win U d s) (k m : Nat) (h : k + m ≤ s.size) : ((nats U).drop (d + k)).take m = ((nats s).drop k).take m := by
 apply List.ext_getElem?
 intro i
 by_cases hi : i < m
 ·rw [List.getElem?_take_of_lt hi, List.getElem?_take_of_lt hi, List.getElem?_drop, List.getElem?_drop]
  have e := hw.at_ (k + i) (by omega)
  have h1 := hw.le
  have a1 : d + k + i < (nats U).length := by rw [nats_length]; omega
  have a2 : k + i < (nats s).length := by rw [nats_length]; omega
  rw [List.getElem?_eq_getElem a1, List.getElem?_eq_getElem a2]
  have e2 : (nats U).getD (d + (k + i)) 0 = (nats s).getD (k + i) 0 := e
  rw [List.getD_eq_getElem?_getD, List.getD_eq_getElem?_getD, ← Nat.add_assoc, List.getElem?_eq_getElem a1, List.getElem?_eq_getElem a2] at e2
  exact congrArg some e2
 ·rw [List.getElem?_eq_none (by simp; omega), List.getElem?_eq_none (by simp; omega)]
theorem text_win {U s : ByteArray} {d : Nat} (hw : Win U d s) (k : Nat) (out o : List Nat) (e : Nat) (h : text s k out = (some o, e)) : text U (d + k) out = (some o, d + e) := by
 have hle := hw.le
 fun_induction text s k out with
 | case1 k out h1 h2 => cases h
 | case2 k out h1 h2 h3 =>
  cases h
  rw [text, if_pos (by omega), hw.at_ k h1, if_neg h2, if_pos h3, Nat.add_assoc]
 | case3 k out h1 h2 h3 h4 h5 ih =>
  rw [text, if_pos (by omega), hw.at_ k h1, if_neg h2, if_neg h3, if_pos h4]
  have e1 : bn U (d + k + 1) = bn s (k + 1) := by rw [Nat.add_assoc]; exact hw.at_ (k + 1) h5.1
  rw [e1, if_pos ⟨by omega, h5.2⟩]
  exact ih h
 | case4 k out h1 h2 h3 h4 h5 => cases h
 | case5 k out h1 h2 h3 h4 x hx => cases h
 | case6 k out h1 h2 h3 h4 x m hx ih =>
  rw [text, if_pos (by omega), hw.at_ k h1, if_neg h2, if_neg h3, if_neg h4]
  have hm : m ≤ s.size - k := Utf.next_most hx
  have hx2 : Utf.next (fun i => bn U (d + k + i)) (U.size - (d + k)) = (some x, m) := Utf.next_win hx (by omega) (fun i hi => by rw [Nat.add_assoc]; exact (hw.at_ (k + i) (by omega)).symm)
  rw [hx2]
  show text U (d + k + max m 1) (out ++ ((nats U).drop (d + k)).take m) = _
  rw [win_take hw k m (by omega), Nat.add_assoc]
  exact ih h
 | case7 k out h1 => cases h
theorem lineEnd_win {U s : ByteArray} {d : Nat} (hw : Win U d s) (k : Nat) (hk : k ≤ s.size) : lineEnd (bn U) U.size (d + k) = d + lineEnd (bn s) s.size k := by
 have hle := hw.le
 fun_induction lineEnd (bn s) s.size k with
 | case1 a h1 h2 => rw [lineEnd, if_pos (by omega), hw.at_ a h1, if_pos h2]
 | case2 a h1 h2 ih => rw [lineEnd, if_pos (by omega), hw.at_ a h1, if_neg h2, Nat.add_assoc]; exact ih (by omega)
 | case3 a h1 =>
  have e : a = s.size := by omega
  subst e
  rcases hw.nx with h2 | h2
  ·rw [lineEnd, if_neg (by omega)]; omega
  ·rw [lineEnd]
   split
   ·first | rfl | rw [if_pos h2]
   ·omega
theorem skipTo_win {U s : ByteArray} {d : Nat} (hw : Win U d s) (k : Nat) (hk : k ≤ s.size) :
  skipTo (bn U) U.size (d + k) = if skipTo (bn s) s.size k < s.size then d + skipTo (bn s) s.size k else skipTo (bn U) U.size (d + s.size) := by
 have hle := hw.le
 fun_induction skipTo (bn s) s.size k with
 | case1 a h1 h2 ih => rw [skipTo_blank (by omega) (by rw [hw.at_ a h1]; exact h2), Nat.add_assoc]; exact ih (by omega)
 | case2 a h1 h2 h3 ih =>
  rw [skipTo_mark (by omega) (by rw [hw.at_ a h1]; exact h2) (by rw [hw.at_ a h1]; exact h3), Nat.add_assoc, lineEnd_win hw _ (by omega)]
  exact ih (lineEnd_ge _ _ _ (by omega)).2
 | case3 a h1 h2 h3 => rw [if_pos h1, skipTo_stop (by rw [hw.at_ a h1]; exact h2) (by rw [hw.at_ a h1]; exact h3)]
 | case4 a h1 =>
  have e : a = s.size := by omega
  subst e
  rw [if_neg h1]
def Tk.sh (d : Nat) (t : Tk) : Tk := ⟨t.k, t.s, t.n, d + t.p⟩
theorem token_win {U s : ByteArray} {d : Nat} (hw : Win U d s) (k : Nat) (hk : k < s.size) (t : Tk) (m : Nat) (h : token s k = .ok t m) : token U (d + k) = .ok (Tk.sh d t) (d + m) := by
 have hle := hw.le
 unfold token at h ⊢
 have hT : (s.extract k s.size).size = s.size - k := by simp
 have hT2 : (U.extract (d + k) U.size).size = U.size - (d + k) := by simp
 have hTi : ∀ i, i < s.size - k → bn (s.extract k s.size) i = bn s (k + i) := fun i hi => bn_ext s k s.size i (Nat.le_refl _) hi
 have hTi2 : ∀ i, i < U.size - (d + k) → bn (U.extract (d + k) U.size) i = bn U (d + k + i) := fun i hi => bn_ext U (d + k) U.size i (Nat.le_refl _) hi
 have hnx : s.size - k = U.size - (d + k) ∨ bn (U.extract (d + k) U.size) (s.size - k) = 10 := by
  rcases hw.nx with h1 | h1
  ·left; omega
  ·by_cases h2 : d + s.size = U.size
   ·left; omega
   ·right; rw [hTi2 _ (by omega), show d + k + (s.size - k) = d + s.size by omega]; exact h1
 generalize hA : s.extract k s.size = T at h hT hTi
 generalize hB : U.extract (d + k) U.size = T2 at hT2 hTi2 hnx ⊢
 have hag : ∀ i, i < T.size → bn T2 i = bn T i := fun i hi => by
  rw [hTi2 i (by omega), hTi i (by omega), Nat.add_assoc]; exact hw.at_ (k + i) (by omega)
 have hn : T.size ≤ T2.size := by omega
 have h0 : 0 < T.size := by omega
 have he : T.size = T2.size ∨ bn T2 T.size = 10 := by rw [hT, hT2]; exact hnx
 have hes : T.size = T2.size ∨ small (bn T2 T.size) = false := he.imp id (fun h => by rw [h]; decide)
 have hed : T.size = T2.size ∨ Dec.dig (bn T2 T.size) = false := he.imp id (fun h => by rw [h]; decide)
 have hex : ∀ n, n ≤ T.size → T2.extract 0 n = T.extract 0 n := fun n hn2 => by
  refine ba_ext (by simp; omega) (fun i hi => ?_)
  have hi2 : i < n := by simp at hi; omega
  rw [bn_ext T2 0 n i (by omega) (by omega), bn_ext T 0 n i hn2 (by omega), Nat.zero_add]
  exact hag i (by omega)
 clear hA hB hTi hTi2 hnx
 have hsm := smalls_win (bn T) (bn T2) T.size T2.size hn hag hes 0 (Nat.zero_le _)
 have hld := lead_win (bn T) (bn T2) T.size T2.size h0 hn hag hed
 have hsg := sign_win (bn T) (bn T2) T.size T2.size h0 hn hag he
 unfold tokR at h ⊢
 rw [hag 0 h0, hsm, hld, hsg]
 split at h
 ·rename_i h1
  rw [if_pos h1]
  unfold tokSmall at h ⊢
  rw [hex _ (smalls_le _ _ _ (Nat.zero_le _))]
  split at h
  ·cases h
  ·rename_i h2
   rw [if_neg h2]
   cases h
   rw [← Nat.add_assoc]; rfl
 ·rename_i h1
  rw [if_neg h1]
  split at h
  ·rename_i h2
   rw [if_pos h2]
   generalize hx : text s (k + 1) [] = r at h
   obtain ⟨o, e⟩ := r
   cases o with
   | none => cases h
   | some o =>
    cases h
    rw [Nat.add_assoc, text_win hw (k + 1) [] o _ hx]
    rfl
  ·rename_i h2
   rw [if_neg h2]
   split at h
   ·rename_i h3
    rw [if_pos h3]
    unfold tokNum at h ⊢
    rw [hex _ (Dec.lead_le _ _)]
    split at h
    ·cases h
    ·rename_i h4
     rw [if_neg h4]
     generalize Dec.read _ _ _ _ = rr at h ⊢
     obtain ⟨v, er⟩ := rr
     cases er <;> cases h
     show TR.ok _ (d + k + _) = _
     rw [Nat.add_assoc]; rfl
   ·rename_i h3
    rw [if_neg h3]
    unfold tokSign at h ⊢
    rw [hex _ (sign_le _ _)]
    split at h
    ·cases h
    ·rename_i h4
     rw [if_neg h4]
     cases h
     rw [← Nat.add_assoc]; rfl
theorem token_k {s : ByteArray} {k : Nat} {t : Tk} {m : Nat} (h : token s k = .ok t m) : t.k ≠ 5 := by
 unfold token tokR at h
 generalize s.extract k s.size = T at *
 split at h
 ·unfold tokSmall at h
  split at h
  ·cases h
  ·cases h; exact (by decide : (1 : Nat) ≠ 5)
 ·split at h
  ·generalize text s (k + 1) [] = r at h
   obtain ⟨o, e⟩ := r
   cases o with
   | none => cases h
   | some o => cases h; exact (by decide : (2 : Nat) ≠ 5)
  ·split at h
   ·unfold tokNum at h
    split at h
    ·cases h
    ·generalize Dec.read _ _ _ _ = rr at h
     obtain ⟨v, er⟩ := rr
     cases er <;> cases h
     exact (by decide : (3 : Nat) ≠ 5)
   ·unfold tokSign at h
    split at h
    ·cases h
    ·cases h; exact (by decide : (4 : Nat) ≠ 5)
theorem scanFrom_win {U s : ByteArray} {d : Nat} (hw : Win U d s) (k : Nat) (l R : List Tk) (hk : k < s.size) (h : scanFrom s k l = (.ok, R)) :
  ∃ ts, R = l ++ ts ++ [⟨5, ⟨#[]⟩, 0, s.size⟩] ∧ (∀ t ∈ ts, t.k ≠ 5) ∧ ∀ L : List Tk, (∃ p, scanFrom U (d + k) L = (.pl p 53, [])) ∨ scanFrom U (d + k) L = scanFrom U (skipTo (bn U) U.size (d + s.size)) (L ++ ts.map (Tk.sh d)) := by
 have hle := hw.le
 fun_induction scanFrom s k l with
 | case1 k l h1 p n h2 => cases h
 | case2 k l h1 t m h2 h3 => cases h
 | case3 k l h1 t m h2 h3 ih =>
  have hb := token_bounds s k h1 t m h2
  have hmx : max m (k + 1) = m := by omega
  have hsk := skipTo_win hw m hb.2
  have hmx2 : max (d + m) (d + k + 1) = d + m := by omega
  have htw := token_win hw k h1 t m h2
  rw [hmx] at ih h
  by_cases h4 : skipTo (bn s) s.size m < s.size
  ·obtain ⟨ts, hR, hts, hL⟩ := ih h4 h
   rw [if_pos h4] at hsk
   refine ⟨t :: ts, by rw [hR]; simp, fun u hu => ?_, fun L => ?_⟩
   ·rcases List.mem_cons.1 hu with rfl | hu
    ·exact token_k h2
    ·exact hts u hu
   rw [scanFrom, if_pos (by omega), htw]
   show (∃ p, (if L.length = 512 then _ else _) = _) ∨ (if L.length = 512 then _ else _) = _
   by_cases h5 : L.length = 512
   ·rw [if_pos h5]; exact Or.inl ⟨_, rfl⟩
   ·rw [if_neg h5, hmx2, hsk]
    rcases hL (L ++ [Tk.sh d t]) with h6 | h6
    ·exact Or.inl h6
    ·refine Or.inr (h6.trans ?_)
     simp
  ·rw [if_neg h4] at hsk
   have h7 : scanFrom s (skipTo (bn s) s.size m) (l ++ [t]) = (.ok, l ++ [t] ++ [⟨5, ⟨#[]⟩, 0, s.size⟩]) := by
    rw [scanFrom, if_neg h4]
   rw [h7] at h
   cases h
   refine ⟨[t], rfl, fun u hu => by rw [List.mem_singleton.1 hu]; exact token_k h2, fun L => ?_⟩
   rw [scanFrom, if_pos (by omega), htw]
   show (∃ p, (if L.length = 512 then _ else _) = _) ∨ (if L.length = 512 then _ else _) = _
   by_cases h5 : L.length = 512
   ·rw [if_pos h5]; exact Or.inl ⟨_, rfl⟩
   ·rw [if_neg h5, hmx2, hsk]
    exact Or.inr rfl
 | case4 k l h1 => exact absurd hk h1
theorem scan_win {U s : ByteArray} {d : Nat} (hw : Win U d s) (R : List Tk) (h : scan s = (.ok, R)) :
  ∃ ts, R = ts ++ [⟨5, ⟨#[]⟩, 0, s.size⟩] ∧ (∀ t ∈ ts, t.k ≠ 5) ∧ ∀ L : List Tk, (∃ p, scanFrom U (skipTo (bn U) U.size d) L = (.pl p 53, [])) ∨ scanFrom U (skipTo (bn U) U.size d) L = scanFrom U (skipTo (bn U) U.size (d + s.size)) (L ++ ts.map (Tk.sh d)) := by
 unfold scan at h
 split at h
 ·cases h
 ·have hsk := skipTo_win hw 0 (Nat.zero_le _)
  rw [Nat.add_zero] at hsk
  by_cases h4 : skipTo (bn s) s.size 0 < s.size
  ·obtain ⟨ts, hR, hts, hL⟩ := scanFrom_win hw _ [] R h4 h
   rw [if_pos h4] at hsk
   rw [hsk]
   exact ⟨ts, by rw [hR]; simp, hts, hL⟩
  ·rw [if_neg h4] at hsk
   rw [scanFrom, if_neg h4] at h
   cases h
   refine ⟨[], rfl, fun u hu => (by cases hu), fun L => Or.inr ?_⟩
   rw [hsk]; simp
theorem scan_joined (a b : ByteArray) (A B : List Tk) (ha : scan a = (.ok, A)) (hb : scan b = (.ok, B)) (hs : a.size + b.size ≤ 2047) :
  (∃ p, scan (a ++ ⟨#[10]⟩ ++ b) = (.pl p 53, [])) ∨ ∃ ts us, A = ts ++ [⟨5, ⟨#[]⟩, 0, a.size⟩] ∧ B = us ++ [⟨5, ⟨#[]⟩, 0, b.size⟩] ∧ (∀ t ∈ ts, t.k ≠ 5) ∧ (∀ t ∈ us, t.k ≠ 5) ∧ scan (a ++ ⟨#[10]⟩ ++ b) = (.ok, ts ++ us.map (Tk.sh (a.size + 1)) ++ [⟨5, ⟨#[]⟩, 0, a.size + 1 + b.size⟩]) := by
 have hn : nats (a ++ ⟨#[10]⟩ ++ b) = nats a ++ 10 :: nats b := by simp [nats]
 have hsz : (a ++ ⟨#[10]⟩ ++ b).size = a.size + 1 + b.size := by
  rw [← nats_length, hn, List.length_append, List.length_cons, nats_length, nats_length]; omega
 have hg : ∀ i, bn (a ++ ⟨#[10]⟩ ++ b) i = (nats a ++ 10 :: nats b).getD i 0 := fun i => by show (nats _).getD i 0 = _; rw [hn]
 generalize hU : a ++ ⟨#[10]⟩ ++ b = U at *
 have w1 : Win U 0 a := by
  refine ⟨fun i hi => ?_, by omega, Or.inr ?_⟩
  ·rw [hg, Nat.zero_add]
   show _ = (nats a).getD i 0
   rw [List.getD_eq_getElem?_getD, List.getD_eq_getElem?_getD, List.getElem?_append_left (by rw [nats_length]; exact hi)]
  ·rw [hg, Nat.zero_add, List.getD_eq_getElem?_getD, List.getElem?_append_right (by rw [nats_length]; exact Nat.le_refl _), nats_length, Nat.sub_self]; rfl
 have w2 : Win U (a.size + 1) b := by
  refine ⟨fun i hi => ?_, by omega, Or.inl (by omega)⟩
  rw [hg]
  show _ = (nats b).getD i 0
  rw [List.getD_eq_getElem?_getD, List.getD_eq_getElem?_getD, List.getElem?_append_right (by rw [nats_length]; omega), nats_length, show a.size + 1 + i - a.size = i + 1 by omega, List.getElem?_cons_succ]
 obtain ⟨ts, hA, ht5, hL1⟩ := scan_win w1 A ha
 obtain ⟨us, hB, hu5, hL2⟩ := scan_win w2 B hb
 have h10 : bn U a.size = 10 := by have := w1.nx; rw [Nat.zero_add] at this; rcases this with h | h; omega; exact h
 have hsk : skipTo (bn U) U.size (0 + a.size) = skipTo (bn U) U.size (a.size + 1) := by rw [Nat.zero_add]; exact skipTo_blank (by omega) (by rw [h10]; decide)
 have hend : skipTo (bn U) U.size (a.size + 1 + b.size) = U.size := by rw [skipTo_end (by omega)]; omega
 have hsh : ts.map (Tk.sh 0) = ts := by
  have : Tk.sh 0 = id := by funext t; show (⟨t.k, t.s, t.n, 0 + t.p⟩ : Tk) = t; rw [Nat.zero_add]
  rw [this, List.map_id]
 have hsc : scan U = scanFrom U (skipTo (bn U) U.size 0) [] := by unfold scan; rw [if_neg (by omega)]
 rw [hsc]
 rcases hL1 [] with ⟨p, h1⟩ | h1
 ·exact Or.inl ⟨p, h1⟩
 ·rw [hsk, hsh, List.nil_append] at h1
  rcases hL2 ts with ⟨p, h2⟩ | h2
  ·exact Or.inl ⟨p, h1.trans h2⟩
  ·refine Or.inr ⟨ts, us, hA, hB, ht5, hu5, ?_⟩
   rw [h1, h2, hend, scanFrom, if_neg (Nat.lt_irrefl _), hsz]
end Lex
end Go.Proofs.YtgklmpooonnmiaaDoor

namespace Go.Proofs.YtgklmpooonnmiaaDoor
open Go.RowKit
def TI.key (t : TI) : Int × ByteArray × Int := (t.k, t.s, t.n)
namespace Pol
def Ag (n : Nat) (l l2 : List TI) : Prop := ∀ i, i ≤ n → (l[i]?).map TI.key = (l2[i]?).map TI.key
theorem Ag.le {n m : Nat} {l l2 : List TI} (h : Ag n l l2) (hm : m ≤ n) : Ag m l l2 := fun i hi => h i (by omega)
theorem Ag.drop {a b : Nat} {l l2 : List TI} (h : Ag (a + b) l l2) : Ag b (l.drop a) (l2.drop a) := fun i hi => by
 rw [List.getElem?_drop, List.getElem?_drop]; exact h (a + i) (by omega)
theorem Ag.tail {a n : Nat} {l l2 : List TI} (h : Ag n l l2) (hn : n = 1 + a) : Ag a l.tail l2.tail := by
 subst hn
 rw [← List.drop_one, ← List.drop_one]; exact h.drop
theorem Ag.cons {n : Nat} {t : TI} {l l2 : List TI} (h : Ag n (t :: l) l2) : ∃ u m, l2 = u :: m ∧ t.k = u.k ∧ t.s = u.s ∧ t.n = u.n := by
 have h0 := h 0 (by omega)
 cases l2 with
 | nil => cases h0
 | cons u m =>
  simp only [List.getElem?_cons_zero, Option.map_some, Option.some.injEq, TI.key, Prod.mk.injEq] at h0
  exact ⟨u, m, rfl, h0.1, h0.2.1, h0.2.2⟩
theorem Ag.rest {n : Nat} {t u : TI} {l m : List TI} (h : Ag (n + 1) (t :: l) (u :: m)) : Ag n l m := fun i hi => by
 have := h (i + 1) (by omega)
 simpa using this
theorem Ag.is {n : Nat} {l l2 : List TI} (h : Ag n l l2) (k : Int) (s : List UInt8) : is l k s = is l2 k s := by
 cases l with
 | nil =>
  have h0 := h 0 (by omega)
  cases l2 with
  | nil => rfl
  | cons u m => cases h0
 | cons t l =>
  obtain ⟨u, m, rfl, h1, h2, h3⟩ := h.cons
  show (t.k == k && t.s.toList == s) = (u.k == k && u.s.toList == s)
  rw [h1, h2]
def Loc {α : Type} (R : α → α → Prop) (q q2 : List TI → PR α) : Prop :=
 ∀ l x r, q l = .ok (x, r) → ∃ n, r = l.drop n ∧ ∀ l2, Ag n l l2 → ∃ y, q2 l2 = .ok (y, l2.drop n) ∧ R x y
def Sm (x y : Ex) : Prop := Ex.same false x y = true
def LocM (q q2 : Ex → List TI → PR Ex) : Prop :=
 ∀ e l x r, q e l = .ok (x, r) → ∃ n, r = l.drop n ∧ ∀ e2 l2, Sm e e2 → Ag n l l2 → ∃ y, q2 e2 l2 = .ok (y, l2.drop n) ∧ Sm x y
def Sms (x y : List Ex) : Prop := Ex.sames false x y = true
theorem must_loc (s : List UInt8) (l : List TI) (x : Unit) (r : List TI) (h : must l s = .ok (x, r)) : ∃ n, r = l.drop n ∧ ∀ l2, Ag n l l2 → ∃ y : Unit, must l2 s = .ok (y, l2.drop n) ∧ True := by
 simp only [must] at h
 split at h
 ·rename_i h1
  cases h
  refine ⟨1, List.drop_one.symm, fun l2 ha => ⟨(), ?_, trivial⟩⟩
  simp only [must]
  rw [← ha.is, if_pos h1, List.drop_one]
 ·cases h
theorem take_loc (k : Int) (l : List TI) (x : TI) (r : List TI) (h : take l k = .ok (x, r)) : ∃ n, r = l.drop n ∧ ∀ l2, Ag n l l2 → ∃ y, take l2 k = .ok (y, l2.drop n) ∧ x.s = y.s ∧ x.n = y.n := by
 cases l with
 | nil => simp [take] at h
 | cons t m =>
  simp only [take] at h
  split at h
  ·rename_i h1
   cases h
   refine ⟨1, rfl, fun l2 ha => ?_⟩
   obtain ⟨u, m2, rfl, h2, h3, h4⟩ := ha.cons
   refine ⟨u, ?_, h3, h4⟩
   simp only [take]
   rw [if_pos (by rw [← h2]; exact h1)]; rfl
  ·cases h
theorem sm_mk {op : Int} {s : ByteArray} {n : Int} {L M : List Ex} {p p2 : Int} (h : Sms L M) : Sm (.mk op s n L p) (.mk op s n M p2) := by
 unfold Sm Sms at *
 rw [Ex.same, h]; simp
theorem sms_nil : Sms [] [] := by unfold Sms; rw [Ex.sames]
theorem sms_cons {x y : Ex} {L M : List Ex} (h : Sm x y) (k : Sms L M) : Sms (x :: L) (y :: M) := by
 unfold Sm Sms at *
 rw [Ex.sames, h, k]; rfl
theorem drop_ne {α : Type} {l m : List α} {a : Nat} {t : α} (h : l.drop a = t :: m) : l.drop (a + 1) = m := by
 rw [← List.drop_drop, h]; rfl
set_option maxHeartbeats 4000000 in
theorem all_loc : ∀ f f2 : Nat, f ≤ f2 → (∀ n, Loc Sm (operand f n) (operand f2 n)) ∧ (∀ n, Loc Sm (compare f n) (compare f2 n)) ∧ (∀ n, Loc Sms (row f n) (row f2 n)) ∧ (∀ n, Loc Sm (not_ f n) (not_ f2 n)) ∧ (∀ n, LocM (andMore f n) (andMore f2 n)) ∧ (∀ n, Loc Sm (and_ f n) (and_ f2 n)) ∧ (∀ n, LocM (orMore f n) (orMore f2 n)) ∧ (∀ n, Loc Sm (or_ f n) (or_ f2 n)) := by
 intro f
 induction f with
 | zero => intro f2 _; refine ⟨?_, ?_, ?_, ?_, ?_, ?_, ?_, ?_⟩ <;> (intro n; first | (intro l x r h; simp [operand, compare, row, not_, and_, or_] at h; done) | (intro e l x r h; simp [andMore, orMore] at h))
 | succ f ih =>
  intro f2 hf
  cases f2 with
  | zero => omega
  | succ f2 =>
  obtain ⟨i1, i2, i3, i4, i5, i6, i7, i8⟩ := ih f2 (by omega)
  refine ⟨fun n l x r h => ?_, fun n l x r h => ?_, fun n l x r h => ?_, fun n l x r h => ?_, fun n e l x r h => ?_, fun n l x r h => ?_, fun n e l x r h => ?_, fun n l x r h => ?_⟩
  ·cases l with
   | nil => simp [operand] at h
   | cons t l =>
    rw [operand] at h
    have key : ∀ {a : Nat} {l2 : List TI}, Ag a (t :: l) l2 → ∃ u m, l2 = u :: m ∧ t.k = u.k ∧ t.s = u.s ∧ t.n = u.n ∧ (∀ k s, is (t :: l) k s = is (u :: m) k s) := fun {a l2} ha => by
     obtain ⟨u, m, rfl, h2, h3, h4⟩ := ha.cons
     exact ⟨u, m, rfl, h2, h3, h4, fun k s => ha.is k s⟩
    split at h
    ·rename_i c1
     split at h
     ·cases h
     ·rename_i c2
      split at h
      ·cases h
      ·rename_i y m hy
       split at h
       ·cases h
       ·rename_i z m2 hz
        cases h
        obtain ⟨a, rfl, ha⟩ := i8 (n + 1) l _ _ hy
        obtain ⟨b, rfl, hb⟩ := must_loc [41] _ _ _ hz
        refine ⟨a + b + 1, by rw [List.drop_succ_cons, List.drop_drop], fun l2 hg => ?_⟩
        obtain ⟨u, m, rfl, h2, h3, h4, hi⟩ := key hg
        have hg2 := hg.rest
        obtain ⟨y2, e1, r1⟩ := ha m (hg2.le (by omega))
        obtain ⟨z2, e2, _⟩ := hb (m.drop a) hg2.drop
        refine ⟨y2, ?_, r1⟩
        rw [operand, ← hi, if_pos c1, if_neg c2, e1]
        simp only []
        rw [e2, List.drop_succ_cons, List.drop_drop]
    ·rename_i c1
     split at h
     ·rename_i c2
      cases h
      refine ⟨1, rfl, fun l2 hg => ?_⟩
      obtain ⟨u, m, rfl, h2, h3, h4, hi⟩ := key hg
      refine ⟨_, by rw [operand, ← hi, if_neg c1, if_pos (by rw [← h2]; exact c2)]; rfl, ?_⟩
      rw [h4]; exact sm_mk sms_nil
     ·rename_i c2
      split at h
      ·rename_i c3
       cases h
       refine ⟨1, rfl, fun l2 hg => ?_⟩
       obtain ⟨u, m, rfl, h2, h3, h4, hi⟩ := key hg
       refine ⟨_, by rw [operand, ← hi, if_neg c1, ← h2, if_neg c2, if_pos c3]; rfl, ?_⟩
       rw [h3]; exact sm_mk sms_nil
      ·rename_i c3
       split at h
       ·rename_i c4
        cases h
        refine ⟨1, rfl, fun l2 hg => ?_⟩
        obtain ⟨u, m, rfl, h2, h3, h4, hi⟩ := key hg
        exact ⟨_, by rw [operand, ← hi, if_neg c1, ← h2, if_neg c2, if_neg c3, ← hi, if_pos c4]; rfl, sm_mk sms_nil⟩
       ·rename_i c4
        split at h
        ·rename_i c5
         cases h
         refine ⟨1, rfl, fun l2 hg => ?_⟩
         obtain ⟨u, m, rfl, h2, h3, h4, hi⟩ := key hg
         exact ⟨_, by rw [operand, ← hi, if_neg c1, ← h2, if_neg c2, if_neg c3, ← hi, if_neg c4, ← hi, if_pos c5]; rfl, sm_mk sms_nil⟩
        ·rename_i c5
         split at h
         ·rename_i c6
          split at h
          ·cases h
          ·rename_i y1 m1 hy1
           split at h
           ·cases h
           ·rename_i y2 m2 hy2
            split at h
            ·cases h
            ·rename_i y3 m3 hy3
             cases h
             obtain ⟨a, rfl, ha⟩ := must_loc [40] _ _ _ hy1
             obtain ⟨b, rfl, hb⟩ := take_loc 2 _ _ _ hy2
             obtain ⟨c, rfl, hc⟩ := must_loc [41] _ _ _ hy3
             refine ⟨a + b + c + 1, by rw [List.drop_succ_cons, List.drop_drop, List.drop_drop]; congr 1; omega, fun l2 hg => ?_⟩
             obtain ⟨u, m, rfl, h2, h3, h4, hi⟩ := key hg
             have hg2 := hg.rest
             obtain ⟨z1, e1, _⟩ := ha m (hg2.le (by omega))
             obtain ⟨z2, e2, q2, _⟩ := hb (m.drop a) (hg2.le (m := a + b) (by omega)).drop
             obtain ⟨z3, e3, _⟩ := hc ((m.drop a).drop b) (by rw [List.drop_drop, List.drop_drop]; exact hg2.drop)
             refine ⟨_, ?_, sm_mk (s := y2.s) (p2 := u.p) sms_nil⟩
             rw [operand, ← hi, if_neg c1, ← h2, if_neg c2, if_neg c3, ← hi, if_neg c4, ← hi, if_neg c5, ← hi, if_pos c6, e1]
             simp only []
             rw [e2]
             simp only []
             rw [e3, q2, List.drop_succ_cons, List.drop_drop, List.drop_drop]
             simp only [Nat.add_assoc]
         ·rename_i c6
          split at h
          ·rename_i c7
           cases h
           refine ⟨1, rfl, fun l2 hg => ?_⟩
           obtain ⟨u, m, rfl, h2, h3, h4, hi⟩ := key hg
           refine ⟨_, by rw [operand, ← hi, if_neg c1, ← h2, if_neg c2, if_neg c3, ← hi, if_neg c4, ← hi, if_neg c5, ← hi, if_neg c6, ← h3, if_pos c7]; rfl, sm_mk sms_nil⟩
          ·cases h
  ·rw [compare] at h
   split at h
   ·cases h
   ·cases h
   ·rename_i a t m ha
    obtain ⟨k, hk, hA⟩ := i1 n l _ _ ha
    have hm : m = l.drop (k + 1) := (drop_ne hk.symm).symm
    have op : ∀ {j : Nat} {l2 : List TI}, Ag j l l2 → k ≤ j → ∃ (u : TI) (y : Ex), operand f2 n l2 = .ok (y, u :: l2.drop (k + 1)) ∧ Sm a y ∧ l2.drop k = u :: l2.drop (k + 1) ∧ t.k = u.k ∧ t.s = u.s ∧ (∀ k9 s9, is (t :: m) k9 s9 = is (u :: l2.drop (k + 1)) k9 s9) := fun {j l2} hg hj => by
     obtain ⟨y, e1, r1⟩ := hA l2 (hg.le hj)
     have h5 : Ag 0 (t :: m) (l2.drop k) := by rw [hk]; exact (hg.le (m := k + 0) hj).drop
     obtain ⟨u, m2, h6, h7, h8, h9⟩ := h5.cons
     have h10 := drop_ne h6
     refine ⟨u, y, by rw [e1, h6, h10], r1, by rw [h6, h10], h7, h8, fun q s => ?_⟩
     have h11 := h5.is q s
     rw [h6] at h11
     rw [h10]; exact h11
    clear ha hA
    split at h
    ·rename_i c1
     split at h
     ·rename_i c2
      cases h
      refine ⟨k, ?_, fun l2 hg => ?_⟩
      ·exact hk
      ·obtain ⟨u, y, e1, r1, e0, h2, h3, hi⟩ := op hg (Nat.le_refl _)
       refine ⟨y, ?_, r1⟩
       rw [compare, e1]
       simp only []
       rw [if_pos (by rw [← h2]; exact c1), ← h3, c2, e0]
     ·rename_i o tb c2
      split at h
      ·cases h
      ·rename_i b m2 hb
       cases h
       rw [hm] at hb
       obtain ⟨j, rfl, hB⟩ := i1 n _ _ _ hb
       refine ⟨k + 1 + j, by rw [List.drop_drop], fun l2 hg => ?_⟩
       obtain ⟨u, y, e1, r1, e0, h2, h3, hi⟩ := op hg (by omega)
       obtain ⟨y2, e2, r2⟩ := hB (l2.drop (k + 1)) hg.drop
       refine ⟨_, by rw [compare, e1]; simp only []; rw [if_pos (by rw [← h2]; exact c1), ← h3, c2]; simp only []; rw [e2, List.drop_drop], ?_⟩
       cases tb with
       | true => exact sm_mk (sms_cons r2 (sms_cons r1 sms_nil))
       | false => exact sm_mk (sms_cons r1 (sms_cons r2 sms_nil))
    ·rename_i c1
     split at h
     ·rename_i c2
      split at h
      ·cases h
      ·rename_i b m2 hb
       cases h
       rw [hm] at hb
       obtain ⟨j, rfl, hB⟩ := i1 n _ _ _ hb
       refine ⟨k + 1 + j, by rw [List.drop_drop], fun l2 hg => ?_⟩
       obtain ⟨u, y, e1, r1, e0, h2, h3, hi⟩ := op hg (by omega)
       obtain ⟨y2, e2, r2⟩ := hB (l2.drop (k + 1)) hg.drop
       exact ⟨_, by rw [compare, e1]; simp only []; rw [if_neg (by rw [← h2]; exact c1), ← hi, if_pos c2, e2, List.drop_drop], sm_mk (sms_cons r1 (sms_cons r2 sms_nil))⟩
     ·rename_i c2
      split at h
      ·rename_i c3
       split at h
       ·cases h
       ·rename_i y1 m1 hy1
        split at h
        ·cases h
        ·rename_i y2 m2 hy2
         split at h
         ·cases h
         ·rename_i y3 m3 hy3
          cases h
          rw [hm] at hy1
          obtain ⟨a1, rfl, h1⟩ := must_loc [91] _ _ _ hy1
          obtain ⟨b1, rfl, h2⟩ := i3 n _ _ _ hy2
          obtain ⟨c1', rfl, h3⟩ := must_loc [93] _ _ _ hy3
          refine ⟨k + 1 + a1 + b1 + c1', by rw [List.drop_drop, List.drop_drop, List.drop_drop]; congr 1; omega, fun l2 hg => ?_⟩
          obtain ⟨u, y, e1, r1, e0, q2, q3, hi⟩ := op hg (by omega)
          obtain ⟨z1, d1, _⟩ := h1 (l2.drop (k + 1)) (hg.le (m := k + 1 + a1) (by omega)).drop
          obtain ⟨z2, d2, s2⟩ := h2 ((l2.drop (k + 1)).drop a1) (by rw [List.drop_drop, List.drop_drop]; exact (hg.le (m := k + 1 + a1 + b1) (by omega)).drop)
          obtain ⟨z3, d3, _⟩ := h3 (((l2.drop (k + 1)).drop a1).drop b1) (by have q := Ag.drop (a := k + 1 + a1 + b1) (b := c1') hg; simpa only [List.drop_drop, Nat.add_assoc] using q)
          refine ⟨_, ?_, sm_mk (p2 := u.p) (sms_cons r1 s2)⟩
          rw [compare, e1]
          simp only []
          rw [if_neg (by rw [← q2]; exact c1), ← hi, if_neg c2, ← hi, if_pos c3, d1]
          simp only []
          rw [d2]
          simp only []
          rw [d3]
          simp only [List.drop_drop, Nat.add_assoc]
      ·rename_i c3
       cases h
       refine ⟨k, ?_, fun l2 hg => ?_⟩
       ·exact hk
       ·obtain ⟨u, y, e1, r1, e0, h2, h3, hi⟩ := op hg (Nat.le_refl _)
        refine ⟨y, ?_, r1⟩
        rw [compare, e1]
        simp only []
        rw [if_neg (by rw [← h2]; exact c1), ← hi, if_neg c2, ← hi, if_neg c3, e0]
  ·rw [row] at h
   split at h
   ·cases h
   ·rename_i y m hy
    obtain ⟨a, rfl, ha⟩ := i1 n l _ _ hy
    split at h
    ·rename_i c1
     split at h
     ·cases h
     ·rename_i L m2 hL
      cases h
      rw [← List.drop_one, List.drop_drop] at hL
      obtain ⟨b, rfl, hb⟩ := i3 n _ _ _ hL
      refine ⟨a + 1 + b, by rw [List.drop_drop], fun l2 hg => ?_⟩
      obtain ⟨y2, e1, r1⟩ := ha l2 (hg.le (by omega))
      obtain ⟨z2, e2, r2⟩ := hb (l2.drop (a + 1)) hg.drop
      have hi := Ag.is (n := 0) (hg.le (m := a + 0) (by omega)).drop 4 [44]
      refine ⟨y2 :: z2, ?_, sms_cons r1 r2⟩
      rw [row, e1]
      simp only []
      rw [← hi, if_pos c1, ← List.drop_one, List.drop_drop, e2, List.drop_drop]
    ·rename_i c1
     cases h
     refine ⟨a, rfl, fun l2 hg => ?_⟩
     obtain ⟨y2, e1, r1⟩ := ha l2 hg
     have hi := Ag.is (n := 0) (hg.le (m := a + 0) (by omega)).drop 4 [44]
     refine ⟨[y2], ?_, sms_cons r1 sms_nil⟩
     rw [row, e1]
     simp only []
     rw [← hi, if_neg c1]
  ·rw [not_] at h
   split at h
   ·rename_i c1
    split at h
    ·cases h
    ·rename_i c2
     split at h
     ·cases h
     ·rename_i y m hy
      cases h
      rw [← List.drop_one] at hy
      obtain ⟨a, rfl, ha⟩ := i4 (n + 1) _ _ _ hy
      refine ⟨1 + a, by rw [List.drop_drop], fun l2 hg => ?_⟩
      obtain ⟨y2, e1, r1⟩ := ha (l2.drop 1) hg.drop
      exact ⟨_, by rw [not_, ← hg.is, if_pos c1, if_neg c2, ← List.drop_one, e1, List.drop_drop], sm_mk (sms_cons r1 sms_nil)⟩
   ·rename_i c1
    obtain ⟨a, rfl, ha⟩ := i2 n _ _ _ h
    refine ⟨a, rfl, fun l2 hg => ?_⟩
    obtain ⟨y2, e1, r1⟩ := ha l2 hg
    exact ⟨y2, by rw [not_, ← hg.is, if_neg c1, e1], r1⟩
  ·rw [andMore] at h
   split at h
   ·rename_i c1
    split at h
    ·cases h
    ·rename_i y m hy
     rw [← List.drop_one] at hy
     obtain ⟨a, rfl, ha⟩ := i4 n _ _ _ hy
     rw [List.drop_drop] at h
     obtain ⟨b, rfl, hb⟩ := i5 n _ _ _ _ h
     refine ⟨1 + a + b, by rw [List.drop_drop], fun e2 l2 he hg => ?_⟩
     obtain ⟨y2, e1, r1⟩ := ha (l2.drop 1) (hg.le (m := 1 + a) (by omega)).drop
     obtain ⟨z2, d2, r2⟩ := hb (.mk 7 none_ 0 [e2, y2] (place l2)) (l2.drop (1 + a)) (sm_mk (sms_cons he (sms_cons r1 sms_nil))) hg.drop
     refine ⟨z2, ?_, r2⟩
     rw [andMore, ← hg.is, if_pos c1, ← List.drop_one, e1]
     simp only []
     rw [List.drop_drop, d2, List.drop_drop]
   ·rename_i c1
    cases h
    exact ⟨0, rfl, fun e2 l2 he hg => ⟨e2, by rw [andMore, ← hg.is, if_neg c1]; rfl, he⟩⟩
  ·rw [and_] at h
   split at h
   ·cases h
   ·rename_i y m hy
    obtain ⟨a, rfl, ha⟩ := i4 n _ _ _ hy
    obtain ⟨b, rfl, hb⟩ := i5 n _ _ _ _ h
    refine ⟨a + b, by rw [List.drop_drop], fun l2 hg => ?_⟩
    obtain ⟨y2, e1, r1⟩ := ha l2 (hg.le (by omega))
    obtain ⟨z2, d2, r2⟩ := hb y2 (l2.drop a) r1 hg.drop
    exact ⟨z2, by rw [and_, e1]; simp only []; rw [d2, List.drop_drop], r2⟩
  ·rw [orMore] at h
   split at h
   ·rename_i c1
    split at h
    ·cases h
    ·rename_i y m hy
     rw [← List.drop_one] at hy
     obtain ⟨a, rfl, ha⟩ := i6 n _ _ _ hy
     rw [List.drop_drop] at h
     obtain ⟨b, rfl, hb⟩ := i7 n _ _ _ _ h
     refine ⟨1 + a + b, by rw [List.drop_drop], fun e2 l2 he hg => ?_⟩
     obtain ⟨y2, e1, r1⟩ := ha (l2.drop 1) (hg.le (m := 1 + a) (by omega)).drop
     obtain ⟨z2, d2, r2⟩ := hb (.mk 8 none_ 0 [e2, y2] (place l2)) (l2.drop (1 + a)) (sm_mk (sms_cons he (sms_cons r1 sms_nil))) hg.drop
     refine ⟨z2, ?_, r2⟩
     rw [orMore, ← hg.is, if_pos c1, ← List.drop_one, e1]
     simp only []
     rw [List.drop_drop, d2, List.drop_drop]
   ·rename_i c1
    cases h
    exact ⟨0, rfl, fun e2 l2 he hg => ⟨e2, by rw [orMore, ← hg.is, if_neg c1]; rfl, he⟩⟩
  ·rw [or_] at h
   split at h
   ·cases h
   ·rename_i y m hy
    obtain ⟨a, rfl, ha⟩ := i6 n _ _ _ hy
    obtain ⟨b, rfl, hb⟩ := i7 n _ _ _ _ h
    refine ⟨a + b, by rw [List.drop_drop], fun l2 hg => ?_⟩
    obtain ⟨y2, e1, r1⟩ := ha l2 (hg.le (by omega))
    obtain ⟨z2, d2, r2⟩ := hb y2 (l2.drop a) r1 hg.drop
    exact ⟨z2, by rw [or_, e1]; simp only []; rw [d2, List.drop_drop], r2⟩
theorem texts_loc : ∀ f f2 : Nat, f ≤ f2 → Loc (fun a b => a = b) (texts f) (texts f2) := by
 intro f
 induction f with
 | zero => intro f2 _ l x r h; simp [texts] at h
 | succ f ih =>
  intro f2 hf l x r h
  cases f2 with
  | zero => omega
  | succ f2 =>
  rw [texts] at h
  split at h
  ·cases h
  ·rename_i t m ht
   obtain ⟨a, rfl, ha⟩ := take_loc 2 _ _ _ ht
   split at h
   ·rename_i c1
    split at h
    ·cases h
    ·rename_i L m2 hL
     cases h
     rw [← List.drop_one, List.drop_drop] at hL
     obtain ⟨b, rfl, hb⟩ := ih f2 (by omega) _ _ _ hL
     refine ⟨a + 1 + b, by rw [List.drop_drop], fun l2 hg => ?_⟩
     obtain ⟨y2, e1, r1, _⟩ := ha l2 (hg.le (by omega))
     obtain ⟨z2, e2, r2⟩ := hb (l2.drop (a + 1)) hg.drop
     have hi := Ag.is (n := 0) (hg.le (m := a + 0) (by omega)).drop 4 [44]
     refine ⟨y2.s :: z2, ?_, by rw [r1, r2]⟩
     rw [texts, e1]
     simp only []
     rw [← hi, if_pos c1, ← List.drop_one, List.drop_drop, e2, List.drop_drop]
   ·rename_i c1
    cases h
    refine ⟨a, rfl, fun l2 hg => ?_⟩
    obtain ⟨y2, e1, r1, _⟩ := ha l2 hg
    have hi := Ag.is (n := 0) (hg.le (m := a + 0) (by omega)).drop 4 [44]
    refine ⟨[y2.s], ?_, by rw [r1]⟩
    rw [texts, e1]
    simp only []
    rw [← hi, if_neg c1]
theorem scopes_loc (f f2 : Nat) (h : f ≤ f2) : Loc (fun a b => a = b) (scopesOf f) (scopesOf f2) := fun l x r hq => by
 unfold scopesOf at hq ⊢
 split at hq
 ·rename_i c1
  rw [← List.drop_one] at hq
  obtain ⟨a, rfl, ha⟩ := texts_loc f f2 h _ _ _ hq
  refine ⟨1 + a, by rw [List.drop_drop], fun l2 hg => ?_⟩
  obtain ⟨y2, e1, r1⟩ := ha (l2.drop 1) hg.drop
  exact ⟨y2, by rw [← hg.is, if_pos c1, ← List.drop_one, e1, List.drop_drop], r1⟩
 ·rename_i c1
  cases hq
  exact ⟨0, rfl, fun l2 hg => ⟨[], by rw [← hg.is, if_neg c1]; rfl, rfl⟩⟩
theorem when_loc (f f2 : Nat) (h : f ≤ f2) : Loc Sms (whenOf f) (whenOf f2) := fun l x r hq => by
 unfold whenOf at hq ⊢
 split at hq
 ·rename_i c1
  split at hq
  ·cases hq
  ·rename_i y m hy
   cases hq
   rw [← List.drop_one] at hy
   obtain ⟨a, rfl, ha⟩ := (all_loc f f2 h).2.2.2.2.2.2.2 0 _ _ _ hy
   refine ⟨1 + a, by rw [List.drop_drop], fun l2 hg => ?_⟩
   obtain ⟨y2, e1, r1⟩ := ha (l2.drop 1) hg.drop
   exact ⟨[y2], by rw [← hg.is, if_pos c1, ← List.drop_one, e1, List.drop_drop], sms_cons r1 sms_nil⟩
 ·rename_i c1
  cases hq
  exact ⟨0, rfl, fun l2 hg => ⟨[], by rw [← hg.is, if_neg c1]; rfl, sms_nil⟩⟩
def SmR (x y : Ru) : Prop := Ru.same false x y = true
theorem must_one {s : List UInt8} {l r : List TI} {x : Unit} (h : must l s = .ok (x, r)) : r = l.drop 1 ∧ ∀ l2, Ag 0 l l2 → must l2 s = .ok ((), l2.drop 1) := by
 simp only [must] at h
 split at h
 ·rename_i h1
  cases h
  refine ⟨List.drop_one.symm, fun l2 ha => ?_⟩
  simp only [must]
  rw [← ha.is, if_pos h1, List.drop_one]
 ·cases h
theorem rule_loc (f f2 : Nat) (hf : f ≤ f2) (l : List TI) (x : Ru) (r : List TI) (h : rule f l = .ok (x, r)) : ∃ n, r = l.drop (n + 1) ∧ ∀ l2, Ag n l l2 → ∃ y, rule f2 l2 = .ok (y, l2.drop (n + 1)) ∧ SmR x y := by
 unfold rule at h
 split at h
 ·rename_i c1
  unfold ruleTail at h
  split at h
  ·cases h
  ·rename_i S m hS
   rw [← List.drop_one] at hS
   obtain ⟨a, rfl, ha⟩ := scopes_loc f f2 hf _ _ _ hS
   unfold ruleWhen at h
   split at h
   ·cases h
   ·rename_i W m2 hW
    obtain ⟨b, rfl, hb⟩ := when_loc f f2 hf _ _ _ hW
    split at h
    ·cases h
    ·rename_i z m3 hz
     obtain ⟨rfl, hc⟩ := must_one hz
     cases h
     refine ⟨1 + a + b, by simp only [List.drop_drop, Nat.add_assoc], fun l2 hg => ?_⟩
     obtain ⟨S2, e1, rfl⟩ := ha (l2.drop 1) (hg.le (m := 1 + a) (by omega)).drop
     obtain ⟨W2, e2, r2⟩ := hb ((l2.drop 1).drop a) (by rw [List.drop_drop, List.drop_drop]; exact hg.drop)
     have e3 := hc (((l2.drop 1).drop a).drop b) (by have q := Ag.drop (a := 1 + a + b) (b := 0) hg; simpa only [List.drop_drop, Nat.add_assoc] using q)
     refine ⟨⟨is l 1 [100, 101, 110, 121], S, W2, place l2⟩, ?_, ?_⟩
     ·unfold rule
      rw [← hg.is, ← hg.is, if_pos c1]
      unfold ruleTail
      rw [← List.drop_one, e1]
      simp only []
      unfold ruleWhen
      rw [e2]
      simp only []
      rw [e3]
      simp only [List.drop_drop, Nat.add_assoc]
     ·unfold SmR Ru.same
      have r3 : Ex.sames false W W2 = true := r2
      simp [r3]
 ·cases h
theorem sames_length {L M : List Ru} (h : Ru.sames false L M = true) : L.length = M.length := by
 rcases Nat.decEq L.length M.length with h2 | h2
 ·rw [Ru.sames_len h2] at h; cases h
 ·exact h2
theorem sames_app {L M L2 M2 : List Ru} (h : Ru.sames false L M = true) (k : Ru.sames false L2 M2 = true) : Ru.sames false (L ++ L2) (M ++ M2) = true := by
 induction L generalizing M with
 | nil =>
  cases M with
  | nil => exact k
  | cons b M => simp [Ru.sames] at h
 | cons a L ih =>
  cases M with
  | nil => simp [Ru.sames] at h
  | cons b M =>
   rw [Ru.sames, Bool.and_eq_true] at h
   rw [List.cons_append, List.cons_append, Ru.sames, h.1, ih h.2]; rfl
theorem ag_pre {P P2 : List TI} (h : P.map TI.key = P2.map TI.key) (n : Nat) (hn : n < P.length) (Y Z : List TI) : Ag n (P ++ Y) (P2 ++ Z) := fun i hi => by
 have hl : P.length = P2.length := by have := congrArg List.length h; simpa using this
 rw [List.getElem?_append_left (by omega), List.getElem?_append_left (by omega), ← List.getElem?_map, ← List.getElem?_map, h]
theorem rules_in (F F2 : Nat) (hF : F ≤ F2) (E : TI) (hE : E.k = 5) : ∀ (k : Nat) (acc : List Ru) (A : List Ru) (P : List TI), (∀ t ∈ P, t.k ≠ 5) → rules k F acc (P ++ [E]) = .ok A →
  ∃ R, A = acc ++ R ∧ ∀ (k2 : Nat) (acc2 : List Ru) (P2 Z : List TI), k ≤ k2 → P.map TI.key = P2.map TI.key → acc2.length + R.length ≤ 16 →
    ∃ R2 k3, Ru.sames false R R2 = true ∧ k2 ≤ k3 + P.length ∧ rules k2 F2 acc2 (P2 ++ Z) = rules k3 F2 (acc2 ++ R2) Z := by
 intro k
 induction k with
 | zero => intro acc A P hP h; simp [rules] at h
 | succ k ih =>
  intro acc A P hP h
  cases P with
  | nil =>
   have h2 : rules (k + 1) F acc [E] = .ok A := h
   rw [rules, if_pos hE] at h2
   cases h2
   refine ⟨[], (List.append_nil _).symm, fun k2 acc2 P2 Z hk hp hl => ?_⟩
   have hP2 : P2 = [] := by simpa using hp.symm
   subst hP2
   exact ⟨[], k2, by rw [Ru.sames], by omega, by rw [List.nil_append, List.append_nil]⟩
  | cons t P =>
   have ht := hP t (by simp)
   have h2 : rules (k + 1) F acc (t :: (P ++ [E])) = .ok A := h
   rw [rules, if_neg ht] at h2
   split at h2
   ·cases h2
   ·rename_i c1
    split at h2
    ·cases h2
    ·rename_i x m hx
     have hlen := rule_len hx
     obtain ⟨n, hm, hL⟩ := rule_loc F F2 hF _ _ _ hx
     have hEm : Ends m := hlen.2 ⟨E, by rw [← List.cons_append, List.getLast?_append]; rfl, hE⟩
     have hml : 0 < m.length := List.length_pos_iff.2 hEm.ne
     have hn : n < (t :: P).length := by
      have := congrArg List.length hm
      rw [List.length_drop, List.length_cons, List.length_append] at this
      simp at this ⊢; omega
     have hm2 : m = (t :: P).drop (n + 1) ++ [E] := by
      rw [hm, ← List.cons_append, List.drop_append_of_le_length (by omega)]
     rw [hm2] at h2
     obtain ⟨R, hA, hR⟩ := ih _ _ _ (fun u hu => hP u (List.mem_of_mem_drop hu)) h2
     refine ⟨x :: R, by rw [hA]; simp, fun k2 acc2 P2 Z hk hp hl => ?_⟩
     have hag : Ag n (t :: (P ++ [E])) (P2 ++ Z) := ag_pre hp n hn [E] Z
     obtain ⟨y, e1, r1⟩ := hL _ hag
     cases k2 with
     | zero => omega
     | succ k2 =>
     cases P2 with
     | nil => simp at hp
     | cons u P2 =>
     have hl2 : (t :: P).length = (u :: P2).length := by have := congrArg List.length hp; simpa using this
     have hpd : ((t :: P).drop (n + 1)).map TI.key = ((u :: P2).drop (n + 1)).map TI.key := by rw [List.map_drop, List.map_drop, hp]
     rw [List.length_cons] at hl
     obtain ⟨R2, k3, s2, hk3, e2⟩ := hR k2 (acc2 ++ [y]) ((u :: P2).drop (n + 1)) Z (by omega) hpd (by rw [List.length_append]; simp; omega)
     rw [List.length_drop] at hk3
     have huk : u.k = t.k := by
      simp only [List.map_cons, List.cons.injEq, TI.key, Prod.mk.injEq] at hp; exact hp.1.1.symm
     refine ⟨y :: R2, k3, ?_, by rw [List.length_cons] at hk3 ⊢; omega, ?_⟩
     ·rw [Ru.sames, s2, show Ru.same false x y = true from r1]; rfl
     ·have e3 : rules (k2 + 1) F2 acc2 (u :: (P2 ++ Z)) = rules k2 F2 (acc2 ++ [y]) ((u :: P2 ++ Z).drop (n + 1)) := by
       rw [rules, if_neg (by rw [huk]; exact ht), if_neg (fun hc => by have := hc.1; omega)]
       have e1' : rule F2 (u :: (P2 ++ Z)) = .ok (y, (u :: P2 ++ Z).drop (n + 1)) := e1
       rw [e1']
      show rules (k2 + 1) F2 acc2 (u :: (P2 ++ Z)) = _
      rw [e3, List.drop_append_of_le_length (by omega), e2]
      simp
theorem parse_ok {s : ByteArray} {R : List Ru} (h : Pol.parse s = (.ok, R)) : ∃ l, Lex.scan s = (.ok, l) ∧ rules (l.length + 1) (6 * l.length + 7) [] (l.map Tk.ti) = .ok R := by
 unfold Pol.parse at h
 generalize hq : Lex.scan s = q at h
 obtain ⟨e, l⟩ := q
 cases e with
 | ok =>
  refine ⟨l, rfl, ?_⟩
  have h2 : told (rules (l.length + 1) (6 * l.length + 7) [] (l.map Tk.ti)) = (.ok, R) := h
  generalize rules (l.length + 1) (6 * l.length + 7) [] (l.map Tk.ti) = x at h2
  cases x with
  | ok L => cases h2; rfl
  | error e => obtain ⟨p, n⟩ := e; cases h2
 | no n => cases h
 | pl p n => cases h
mutual
theorem same_symm : ∀ x y : Ex, Ex.same false x y = Ex.same false y x
 | .mk op s n L p, .mk op' s' n' L' p' => by
  rw [Ex.same, Ex.same, sames_symm L L', show (op == op') = (op' == op) from Bool.beq_comm .., show (s.toList == s'.toList) = (s'.toList == s.toList) from Bool.beq_comm .., show (n == n') = (n' == n) from Bool.beq_comm ..]; rfl
theorem sames_symm : ∀ L M : List Ex, Ex.sames false L M = Ex.sames false M L
 | [], [] => rfl
 | x :: r, y :: m => by rw [Ex.sames, Ex.sames, same_symm x y, sames_symm r m]
 | [], _ :: _ => by rw [Ex.sames, Ex.sames] <;> simp
 | _ :: _, [] => by rw [Ex.sames, Ex.sames] <;> simp
end
theorem ru_symm (x y : Ru) : Ru.same false x y = Ru.same false y x := by
 unfold Ru.same
 rw [sames_symm, show (x.deny == y.deny) = (y.deny == x.deny) from Bool.beq_comm .., show decide (x.scopes = y.scopes) = decide (y.scopes = x.scopes) from decide_eq_decide.2 eq_comm]
 rfl
theorem rus_symm : ∀ L M : List Ru, Ru.sames false L M = Ru.sames false M L
 | [], [] => rfl
 | x :: r, y :: m => by rw [Ru.sames, Ru.sames, ru_symm x y, rus_symm r m]
 | [], _ :: _ => by rw [Ru.sames, Ru.sames] <;> simp
 | _ :: _, [] => by rw [Ru.sames, Ru.sames] <;> simp
theorem parse_join (a b : ByteArray) (RA RB : List Ru) (ha : Pol.parse a = (.ok, RA)) (hb : Pol.parse b = (.ok, RB)) (hl : RA.length + RB.length ≤ 16) (hs : a.size + b.size ≤ 2047) :
  (∃ p, Pol.parse (a ++ ⟨#[10]⟩ ++ b) = (.pl p 53, [])) ∨ ∃ R, Pol.parse (a ++ ⟨#[10]⟩ ++ b) = (.ok, R) ∧ Ru.sames false R (RA ++ RB) = true := by
 obtain ⟨A, hA, ra⟩ := parse_ok ha
 obtain ⟨B, hB, rb⟩ := parse_ok hb
 rcases Lex.scan_joined a b A B hA hB hs with ⟨p, h⟩ | ⟨ts, us, rfl, rfl, ht, hu, h⟩
 ·left
  exact ⟨p, by unfold Pol.parse; rw [h]⟩
 ·right
  rw [List.map_append] at ra rb
  obtain ⟨R1, h1, k1⟩ := rules_in _ (6 * (ts ++ us.map (Lex.Tk.sh (a.size + 1)) ++ [(⟨5, ⟨#[]⟩, 0, a.size + 1 + b.size⟩ : Tk)]).length + 7) (by simp; omega) (Tk.ti ⟨5, ⟨#[]⟩, 0, a.size⟩) rfl _ _ _ (ts.map Tk.ti) (fun t h => by
   obtain ⟨x, hx, rfl⟩ := List.mem_map.1 h
   have := ht x hx
   show (x.k : Int) ≠ 5; omega) ra
  obtain ⟨R2, h2, k2⟩ := rules_in _ (6 * (ts ++ us.map (Lex.Tk.sh (a.size + 1)) ++ [(⟨5, ⟨#[]⟩, 0, a.size + 1 + b.size⟩ : Tk)]).length + 7) (by simp; omega) (Tk.ti ⟨5, ⟨#[]⟩, 0, b.size⟩) rfl _ _ _ (us.map Tk.ti) (fun t h => by
   obtain ⟨x, hx, rfl⟩ := List.mem_map.1 h
   have := hu x hx
   show (x.k : Int) ≠ 5; omega) rb
  rw [List.nil_append] at h1 h2
  subst h1 h2
  obtain ⟨S1, q1, s1, g1, e1⟩ := k1 ((ts ++ us.map (Lex.Tk.sh (a.size + 1)) ++ [(⟨5, ⟨#[]⟩, 0, a.size + 1 + b.size⟩ : Tk)]).length + 1) [] (ts.map Tk.ti) ((us.map (Lex.Tk.sh (a.size + 1))).map Tk.ti ++ [Tk.ti ⟨5, ⟨#[]⟩, 0, a.size + 1 + b.size⟩]) (by simp; try omega) rfl (by simp; try omega)
  have hl1 := sames_length s1
  rw [List.length_map] at g1
  obtain ⟨S2, q2, s2, g2, e2⟩ := k2 q1 S1 ((us.map (Lex.Tk.sh (a.size + 1))).map Tk.ti) [Tk.ti ⟨5, ⟨#[]⟩, 0, a.size + 1 + b.size⟩] (by simp at g1 ⊢; omega) (by rw [List.map_map, List.map_map, List.map_map]; rfl) (by omega)
  rw [List.length_map] at g2
  have hq2 : 0 < q2 := by simp at g1 g2; omega
  refine ⟨S1 ++ S2, ?_, ?_⟩
  ·unfold Pol.parse
   rw [h]
   show told (rules _ _ [] (List.map Tk.ti _)) = _
   have e9 : List.map Tk.ti (ts ++ us.map (Lex.Tk.sh (a.size + 1)) ++ [(⟨5, ⟨#[]⟩, 0, a.size + 1 + b.size⟩ : Tk)]) = ts.map Tk.ti ++ ((us.map (Lex.Tk.sh (a.size + 1))).map Tk.ti ++ [Tk.ti ⟨5, ⟨#[]⟩, 0, a.size + 1 + b.size⟩]) := by simp
   rw [e9]
   have e1' := e1
   rw [List.nil_append] at e1'
   have e3 : rules q2 (6 * (ts ++ us.map (Lex.Tk.sh (a.size + 1)) ++ [(⟨5, ⟨#[]⟩, 0, a.size + 1 + b.size⟩ : Tk)]).length + 7) (S1 ++ S2) [Tk.ti ⟨5, ⟨#[]⟩, 0, a.size + 1 + b.size⟩] = .ok (S1 ++ S2) := by
    cases q2 with
    | zero => omega
    | succ q2 => rw [rules]; exact if_pos rfl
   exact congrArg told (e1'.trans (e2.trans e3))
  ·rw [rus_symm]; exact sames_app s1 s2
end Pol
end Go.Proofs.YtgklmpooonnmiaaDoor
