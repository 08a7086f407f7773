/-
  Lemmas and contracts that the proofs over this seat use (part ShaWrite2); no statement of the seat is claimed in this text, and nothing is assumed in it.
-/
import Derived.Test.YtanegflohbgkdaaShaWrite
set_option linter.unusedVariables false
set_option linter.unusedSimpArgs false
namespace Go.Proofs.Ytanegflohbgkdaa
open Go.RowKit
theorem one_ok (s d : List Nat) : (Sha.one s d).length = 8 ∧ ∀ x ∈ Sha.one s d, x < 4294967296 := by
  refine ⟨by simp [Sha.one], fun x hx => ?_⟩
  simp only [Sha.one, List.mem_map] at hx
  obtain ⟨i, _, rfl⟩ := hx
  exact Nat.mod_lt _ (by decide)
theorem blocks_ok (k : Nat) : ∀ (s l : List Nat), (s.length = 8 ∧ ∀ x ∈ s, x < 4294967296) → (Sha.blocks s k l).length = 8 ∧ ∀ x ∈ Sha.blocks s k l, x < 4294967296 := by
  induction k with
  | zero => intro s l h; exact h
  | succ k ih => intro s l _; exact ih _ _ (one_ok _ _)
theorem st_ok (D : List Nat) : (Sha.st D).length = 8 ∧ ∀ x ∈ Sha.st D, x < 4294967296 := blocks_ok _ _ _ ⟨rfl, by decide⟩
theorem hc_splice (s l x : List Nat) (n : Nat) (on : Bool) (o : Nat) (hs : s.length = 8) (h : o + x.length ≤ l.length) : splice (hc s l n on) (8 + o) (u8s x) = hc s (splice l o x) n on := by
  have e1 : (u32s s).length = 8 := by simp [hs]
  simp only [splice, hc, u8s, List.map_append, List.map_take, List.map_drop, List.length_map]
  rw [List.take_append, e1, List.take_of_length_le (by omega), show 8 + o - 8 = o by omega, List.take_append_of_le_length (by simp; omega)]
  rw [show 8 + o + x.length = 8 + (o + x.length) by omega, List.drop_append, e1, List.drop_eq_nil_of_le (by omega), show 8 + (o + x.length) - 8 = o + x.length by omega, List.drop_append_of_le_length (by simp; omega)]
  simp
theorem splice_length (l x : List Nat) (o : Nat) (h : o + x.length ≤ l.length) : (splice l o x).length = l.length := length_splice l o x h
theorem splice_take (l x : List Nat) (o : Nat) (h : o + x.length ≤ l.length) : (splice l o x).take (o + x.length) = l.take o ++ x := by
  simp only [splice]
  rw [← List.append_assoc, List.take_append_of_le_length (by simp; omega), List.take_of_length_le (by simp; omega)]
theorem splice_full (l x : List Nat) (o : Nat) (h : o + x.length = l.length) : splice l o x = l.take o ++ x := by
  simp only [splice]
  rw [List.drop_eq_nil_of_le (by omega), List.append_nil]
def lenV : Value → Nat
  | .slice _ n _ => n
  | _ => 0
/-- few bytes more. -/
theorem hrep_few (D d l : List Nat) (hD : ∀ x ∈ D, x < 256) (hd : ∀ x ∈ d, x < 256) (hl : l.length = 64) (hlr : l.take (D.length % 64) = Sha.rest D) (h : D.length % 64 + d.length < 64) :
    HRep (splice (hc (Sha.st D) l (D.length + d.length) true) (8 + D.length % 64) (u8s d)) (D ++ d) := by
  obtain ⟨e1, e2⟩ := Sha.st_few D d h
  refine ⟨fun x hx => (List.mem_append.1 hx).elim (hD x) (hd x), Sha.st D, splice l (D.length % 64) d, true, (st_ok D).1, by rw [splice_length _ _ _ (by omega), hl], ?_, fun _ => ⟨e1.symm, ?_⟩, fun h => by cases h⟩
  · rw [hc_splice _ _ _ _ _ _ (st_ok D).1 (by omega), List.length_append]
  · rw [show (D ++ d).length % 64 = D.length % 64 + d.length by simp; omega, splice_take _ _ _ (by omega), hlr, e2]
theorem hrep_end (D d l : List Nat) (hD : ∀ x ∈ D, x < 256) (hd : ∀ x ∈ d, x < 256) (hl : l.length = 64) (hm : D.length % 64 = 0) (h : d.length < 64) :
    HRep (splice (hc (Sha.st D) l (D ++ d).length true) 8 (u8s d)) (D ++ d) := by
  have hr : l.take (D.length % 64) = Sha.rest D := by
    rw [hm]; have := Sha.rest_length D; rw [hm] at this; rw [List.eq_nil_of_length_eq_zero this]; rfl
  have := hrep_few D d l hD hd hl hr (by omega)
  rw [hm] at this; rwa [List.length_append]
set_option maxHeartbeats 4000000 in
set_option maxRecDepth 100000 in
theorem write (w : World) (b : Nat) (cs : List Value) (D d : List Nat) (p : Option Addr) (len cap : Nat) (h : HRep cs D) (hb : w.heap[b]? = some (.cells cs.toArray 38 (0, 0)))
    (hsl : SLB w p len cap d) (hd : ∀ x ∈ d, x < 256) (hne : ∀ a, p = some a → a.block ≠ b) (hcap : cap ≤ maxLen) (hN : D.length + d.length ≤ 1000000000) :
    Calls Try.prog 14 #[.pointer (some ⟨b, 0, none⟩), .slice p len cap] w fun e w' => e = .returned (.tuple #[]) ∧ Fr [b] w w' ∧ ∃ cs', HRep cs' (D ++ d) ∧ w'.heap[b]? = some (.cells cs'.toArray 38 (0, 0)) := by
  have hD := h.1
  have hlen := hsl.hlen
  have hlc := hsl.hcap
  have hlb : len ≤ 1000000000 := by omega
  go_enter Try.func14, Try.ntmps14
  go_wp2_with fail
  refine (begin_any w b cs D h hb).mono ?_
  rintro e w1 ⟨rfl, hF1, l, hl, hlr, hb1⟩
  have hs1 := hsl.fr hF1 (fun a ha => by simpa using hne a ha)
  obtain ⟨hst8, hstb⟩ := st_ok D
  have n72 : w1.cell? ⟨b, 72, none⟩ = some (.int .u64 ((D.length : Nat) : Int)) := by rw [cell_of_row _ _ _ _ _ _ hb1, hc_n _ _ _ _ hst8 hl]
  have f72 := frozen_of_row _ _ 72 _ _ hb1
  have hb2 := heap_setCell_same w1 b 72 _ _ (.int .u64 ((D.length : Int) + (len : Int))) hb1
  rw [show (D.length : Int) + (len : Int) = ((D.length + len : Nat) : Int) from rfl, hc_set_n _ _ _ _ _ hst8 hl] at hb2
  have HB2 := Lib.hid hb2
  obtain ⟨at_, hat, hat64⟩ : ∃ a, a = D.length % 64 ∧ a < 64 := ⟨_, rfl, Nat.mod_lt _ (by decide)⟩
  have hm1 : ((D.length : Int) % 64) = (at_ : Int) := by omega
  have hat' := Lib.hid hat
  clear hb1 hb2 hsl hb h hat
  have he : (Try.prog.info? 5).map (·.size) = some 1 := by kernel_rfl
  have kA := run_cutA Try.underlying35 he b 8 at_ hat64
  have kB := run_cutA_all Try.underlying35 he b 8
  have KC := Lib.hid (run_cut Try.underlying26 he p len cap)
  have HE := Lib.hid he
  have hcl := hc_length (Sha.st D) l (D.length + len) true
  rw [hst8, hl] at hcl
  have HCL := Lib.hid hcl
  have HS1 := Lib.hid (SLB.src (hs1.fr ((Fr.refl [b] w1).setCell (p := ⟨b, 72, none⟩) (.inl (by simp)) (.int .u64 ((D.length : Int) + (len : Int)))) (fun a ha => by simpa using hne a ha)))
  clear he hcl
  have h3 : (0 < at_ ∧ at_ + len < 64) ∨ at_ = 0 ∨ (0 < at_ ∧ 64 ≤ at_ + len) := by omega
  rcases h3 with ⟨h0, hfew⟩ | h0 | ⟨h0, hfull⟩
  case' inl =>
    have hlen' := Lib.hid hlen
    clear hlen
    have h0' : (0 : Int) < (at_ : Int) := by omega
    have kC := KC.out len (Nat.le_refl _)
    obtain ⟨c1, HC1⟩ : ∃ c1, Hid (c1 = u8s (d.take len)) := ⟨_, rfl⟩
    have hL : c1.length = len := by rw [HC1.out]; simp [hs1.hlen]
    have HN : Hid (c1.length = Nat.min len (64 - at_)) := hL.trans (Nat.min_eq_left (by omega)).symm
    go_wp2_with (first
      | (refine wpList_copy_any rfl (.tmp 32) (.tmp 33) 26 26 rfl 5 Try.underlying26 HE.out _ p _ _ len cap rfl rfl b (8 + at_) _ _ HB2.out c1 HN.out ?hp ?hf ?ho ?_; (case hp => intro h0; rw [HC1.out] at h0 ⊢; exact ⟨rfl, HS1.out len (Nat.le_refl _) h0⟩); (case hf => rw [HCL.out, hL]; omega); (case ho => rw [HC1.out]; exact oc_u8s _)))
    all_goals
      refine bodyPost_ret (results_none rfl _ _ _) rfl ⟨rfl, ?_, _, ?_, setRow_heap _ _ _ _ _ _ HB2.out⟩
      · exact (hF1.setCell (.inl (by simp)) _).setRow (.inl (by simp)) _
      · have e : d.take len = d := List.take_of_length_le (by have := hs1.hlen; omega)
        rw [HC1.out, e, hs1.hlen, hat'.out]
        exact hrep_few D d l hD hd hl hlr (by have := hs1.hlen; have := hat'.out; omega)
  case' inr.inl =>
    subst h0
    clear hlen
    go_wp2_with fail
    refine wp_fresh (fun W => ∃ l1, l1.length = 64 ∧ SLB W p len cap d ∧ W.heap[b]? = some (.cells (hc (Sha.st D) l1 (D.length + d.length) true).toArray 38 (0, 0)) ∧ Fr [b] w W) ⟨l, hl, ?_, ?_, ?_⟩ ?_
    · exact hs1.fr ((Fr.refl [b] w1).setCell (.inl (by simp)) _) (fun a ha => by simpa using hne a ha)
    · rw [← hs1.hlen]; exact HB2.out
    · exact hF1.setCell (.inl (by simp)) _
    rintro W ⟨l1, hl1, hS1, hB1, hF⟩
    obtain ⟨D1, hD1, hDd, hm⟩ : ∃ D1, D1 = D ∧ D1 ++ d = D ++ d ∧ D1.length % 64 = 0 := ⟨D, rfl, rfl, hat'.out.symm⟩
    replace hB1 : W.heap[b]? = some (.cells (hc (Sha.st D1) l1 (D.length + d.length) true).toArray 38 (0, 0)) := by rw [hD1]; exact hB1
    have hn1 := hne
    have hc1 := hcap
    have hd1 := hd
    have hDx : ∀ x ∈ D1, x < 256 := by rw [hD1]; exact hD
    clear hD1 hs1 HB2 hF1 hat' HS1 KC n72 f72 HCL hm1 kA
  case' inr.inr =>
    obtain ⟨n, hn, hn2⟩ : ∃ n, n + at_ = 64 ∧ n ≤ len := ⟨64 - at_, by omega, by omega⟩
    have hNN := Lib.hid hn
    have n1 : n + at_ ≤ 64 := by omega
    have n2 : 64 ≤ n + at_ := by omega
    have h0' : (0 : Int) < (at_ : Int) := by omega
    have kC := KC.out n hn2
    obtain ⟨c1, HC1⟩ : ∃ c1, Hid (c1 = u8s (d.take n)) := ⟨_, rfl⟩
    have hL : c1.length = n := by rw [HC1.out]; simp; have := hs1.hlen; omega
    have HN : Hid (c1.length = Nat.min len (64 - at_)) := hL.trans (show n = min len (64 - at_) by omega)
    clear hlen hn
    go_wp2_with (first
      | (refine wpList_copy_any rfl (.tmp 32) (.tmp 33) 26 26 rfl 5 Try.underlying26 HE.out _ p _ _ len cap rfl rfl b (8 + at_) _ _ HB2.out c1 HN.out ?hp ?hf ?ho ?_; (case hp => intro h0; rw [HC1.out] at h0 ⊢; exact ⟨rfl, HS1.out n hn2 h0⟩); (case hf => rw [HCL.out, hL]; omega); (case ho => rw [HC1.out]; exact oc_u8s _)))
    have hdl : (d.take n).length = n := by simp; have := hs1.hlen; omega
    have hB2 : ((w1.setCell ⟨b, 72, none⟩ (.int .u64 ((D.length : Int) + (len : Int)))).setRow b (splice (hc (Sha.st D) l (D.length + len) true) (8 + at_) c1).toArray).heap[b]? = some (.cells (hc (Sha.st D) (Sha.rest D ++ d.take n) (D.length + d.length) true).toArray 38 (0, 0)) := by
      refine (setRow_heap _ _ _ _ _ _ HB2.out).trans ?_
      rw [HC1.out, hc_splice _ _ _ _ _ _ hst8 (by omega), splice_full _ _ _ (by omega), hat'.out, hlr, hs1.hlen]
    have hrl : (Sha.rest D ++ d.take n).length = 64 := by rw [List.length_append, Sha.rest_length, hdl]; have := hat'.out; omega
    have hF2 : Fr [b] w1 ((w1.setCell ⟨b, 72, none⟩ (.int .u64 ((D.length : Int) + (len : Int)))).setRow b (splice (hc (Sha.st D) l (D.length + len) true) (8 + at_) c1).toArray) := ((Fr.refl _ _).setCell (.inl (by simp)) _).setRow (.inl (by simp)) _
    generalize (w1.setCell ⟨b, 72, none⟩ (.int .u64 ((D.length : Int) + (len : Int)))).setRow b (splice (hc (Sha.st D) l (D.length + len) true) (8 + at_) c1).toArray = w2 at *
    have hba : BA w2 b 8 (Sha.rest D ++ d.take n) := fun i hi => by
      rw [cell_of_row _ _ _ _ _ _ hB2, List.getElem?_toArray, hc, List.getElem?_append_right (by simp [hst8]), List.getElem?_append_left (by simp at hi ⊢; omega)]
      rw [show 8 + i - (u32s (Sha.st D)).length = i by simp [hst8], getD_u8s _ _ hi]
    have hrb : ∀ x ∈ Sha.rest D ++ d.take n, x < 256 := fun x hx => (List.mem_append.1 hx).elim (fun h => hD x (List.mem_of_mem_drop h)) (fun h => hd x (List.mem_of_mem_take h))
    refine (block w2 b b 8 64 (Sha.st D) (Sha.rest D ++ d.take n) (Sha.rest D ++ d.take n) (D.length + d.length) true hst8 hrl hrl hB2 (row_lt hB2) hba hrb hstb).mono ?_
    rintro e w3 ⟨rfl, hF3, hB3⟩
    obtain ⟨e1, e2⟩ := Sha.st_full D (d.take n) (by rw [hdl]; have := hat'.out; omega)
    rw [← e1] at hB3
    have hF : Fr [b] w w3 := (hF1.trans1 (hF2.trans1 hF3 (.inl (by simp))) (.inl (by simp)))
    have hS1 : SLB w3 (cutAt p cap n) (len - n) (cap - n) (d.drop n) := (hs1.drop n hn2).fr (hF2.trans1 hF3 (.inl (by simp))) (fun a ha => by
      obtain ⟨a', h1, h2⟩ := cutAt_block ha
      rw [← h2]; simpa using hne a' h1)
    have hn1 : ∀ a, cutAt p cap n = some a → a.block ≠ b := fun a ha => by
      obtain ⟨a', h1, h2⟩ := cutAt_block ha
      rw [← h2]; exact hne a' h1
    have hc1 : cap - n ≤ maxLen := by omega
    have hDd : (D ++ d.take n) ++ d.drop n = D ++ d := by rw [List.append_assoc, List.take_append_drop]
    have hm : (D ++ d.take n).length % 64 = 0 := by rw [List.length_append, hdl]; have := hat'.out; omega
    have hd1 : ∀ x ∈ d.drop n, x < 256 := fun x hx => hd x (List.mem_of_mem_drop hx)
    have hDx : ∀ x ∈ D ++ d.take n, x < 256 := fun x hx => (List.mem_append.1 hx).elim (hD x) (fun h => hd x (List.mem_of_mem_take h))
    have hl1 := hrl
    clear e1 e2 hba hrb hB2 hF2 hF3 hs1 HB2 hF1 hat' HS1 KC n72 f72 HCL hm1 kA HC1 hL HN hNN hrl n1 n2
    generalize Sha.rest D ++ d.take n = l1 at *
    generalize D ++ d.take n = D1 at *
    generalize d.drop n = d1 at *
    generalize cutAt p cap n = p1 at *
    have hB1 := hB3
    clear hB3
    go_wp2_with fail
  all_goals
    go_loopw [1] (fun v W => ∃ D1 d1 p1 len1 cap1 l1, v = .slice p1 len1 cap1 ∧ SLB W p1 len1 cap1 d1 ∧ (∀ a, p1 = some a → a.block ≠ b) ∧ cap1 ≤ maxLen ∧ D1 ++ d1 = D ++ d ∧ D1.length % 64 = 0 ∧ (∀ x ∈ D1, x < 256) ∧ (∀ x ∈ d1, x < 256) ∧ l1.length = 64 ∧ W.heap[b]? = some (.cells (hc (Sha.st D1) l1 (D.length + d.length) true).toArray 38 (0, 0)) ∧ Fr [b] w W) (fun v _ => lenV v)
    case atStart => exact ⟨_, _, _, _, _, _, rfl, hS1, hn1, hc1, hDd, hm, hDx, hd1, hl1, hB1, hF⟩
    case round =>
      clear hS1 hn1 hc1 hDd hm hDx hd1 hl1 hB1 hF
      obtain ⟨D1, d1, p1, len1, cap1, l1, rfl, hS1, hn1, hc1, hDd, hm, hDx, hd1, hl1, hB1, hF⟩ := hrel
      have hlc1 := hS1.hcap
      have hle : len1 = d1.length := hS1.hlen
      have hlb1 : len1 ≤ 1000000000 := by have := congrArg List.length hDd; simp at this; omega
      by_cases h64 : 64 ≤ len1
      · have h64' : (64 : Int) ≤ (len1 : Int) := by omega
        have kC1 := run_cut Try.underlying26 HE.out p1 len1 cap1 64 h64
        obtain ⟨q, o, hp, hq, hba⟩ := (hS1.take 64 h64).pos (by omega)
        have HP := Lib.hid hp
        clear hle hp
        go_wp2_with fail
        rw [HP.out]
        obtain ⟨hs8, hsb⟩ := st_ok D1
        have hdl : (d1.take 64).length = 64 := (hS1.take 64 h64).hlen.symm
        refine (block wr b q o cap1 (Sha.st D1) l1 (d1.take 64) (D.length + d.length) true hs8 hl1 hdl hB1 hq hba (fun x hx => hd1 x (List.mem_of_mem_take hx)) hsb).mono ?_
        rintro e w3 ⟨rfl, hF3, hB3⟩
        have hrest : Sha.rest D1 = [] := by have := Sha.rest_length D1; rw [hm] at this; exact List.eq_nil_of_length_eq_zero this
        obtain ⟨e1, e2⟩ := Sha.st_full D1 (d1.take 64) (by rw [hdl, hm])
        rw [hrest, List.nil_append] at e1
        rw [← e1] at hB3
        have HR : Hid (∃ D2 d2 p2 len2 cap2 l2, Value.slice (cutAt p1 cap1 64) (len1 - 64) (cap1 - 64) = .slice p2 len2 cap2 ∧ SLB w3 p2 len2 cap2 d2 ∧ (∀ a, p2 = some a → a.block ≠ b) ∧ cap2 ≤ maxLen ∧ D2 ++ d2 = D ++ d ∧ D2.length % 64 = 0 ∧ (∀ x ∈ D2, x < 256) ∧ (∀ x ∈ d2, x < 256) ∧ l2.length = 64 ∧ w3.heap[b]? = some (.cells (hc (Sha.st D2) l2 (D.length + d.length) true).toArray 38 (0, 0)) ∧ Fr [b] w w3) := by
          refine ⟨D1 ++ d1.take 64, d1.drop 64, _, _, _, l1, rfl, (hS1.drop 64 h64).fr hF3 (fun a ha => ?_), fun a ha => ?_, by omega, ?_, ?_, fun x hx => ?_, fun x hx => hd1 x (List.mem_of_mem_drop hx), hl1, hB3, hF.trans1 hF3 (.inl (by simp))⟩
          · obtain ⟨a', h1, h2⟩ := cutAt_block ha
            rw [← h2]; simpa using hn1 a' h1
          · obtain ⟨a', h1, h2⟩ := cutAt_block ha
            rw [← h2]; exact hn1 a' h1
          · rw [List.append_assoc, List.take_append_drop]; exact hDd
          · rw [List.length_append, hdl]; omega
          · exact (List.mem_append.1 hx).elim (hDx x) (fun h => hd1 x (List.mem_of_mem_take h))
        clear e1 e2 hrest hB3 hB1 hF3 hF hba hdl hs8 hsb hS1 hn1 hDx hd1 hDd hm
        rw [← HP.out]
        go_wp2_with fail
        go_roundw
        case rel => first | exact HR.out | ((repeat apply Exists.intro); exact ⟨HR.out, rfl⟩)
        case measure => simp [lenV]; omega
      · have h64' : ¬ (64 : Int) ≤ (len1 : Int) := by omega
        obtain ⟨c1, HC1⟩ : ∃ c1, Hid (c1 = u8s (d1.take len1)) := ⟨_, rfl⟩
        have hL : c1.length = len1 := by rw [HC1.out]; simp; omega
        have HN : Hid (c1.length = Nat.min len1 64) := hL.trans (show len1 = min len1 64 by omega)
        have HB1 := Lib.hid hB1
        have HS := Lib.hid (SLB.src hS1 len1 (Nat.le_refl _))
        have HLE := Lib.hid hle
        have HCL2 := Lib.hid (hc_length (Sha.st D1) l1 (D.length + d.length) true)
        clear hle hB1
        go_wp2_with (first
          | (refine wpList_copy_any rfl (.tmp 60) (.tmp 61) 26 26 rfl 5 Try.underlying26 HE.out _ p1 _ _ len1 cap1 rfl rfl b 8 _ _ HB1.out c1 HN.out ?hp ?hf ?ho ?_; (case hp => intro h0; rw [HC1.out] at h0 ⊢; exact ⟨rfl, HS.out h0⟩); (case hf => rw [HCL2.out, hL, (st_ok D1).1, hl1]; omega); (case ho => rw [HC1.out]; exact oc_u8s _)))
        go_end0
        refine ⟨rfl, hF.setRow (.inl (by simp)) _, _, ?_, setRow_heap _ _ _ _ _ _ HB1.out⟩
        have e : d1.take len1 = d1 := List.take_of_length_le (by have := HLE.out; omega)
        have eN : D.length + d.length = (D1 ++ d1).length := by rw [hDd, List.length_append]
        rw [HC1.out, e, eN, ← hDd]
        exact hrep_end D1 d1 l1 hDx hd1 hl1 hm (by have := HLE.out; omega)
end Go.Proofs.Ytanegflohbgkdaa
