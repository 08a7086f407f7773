/-
  Lemmas and contracts that the proofs over this seat use (Bld, LexSkip); no statement of the seat is claimed in this text, and nothing is assumed in it.
-/
import Derived.Test.YtgklmpooonnmiaaDoorJ3
import Derived.Lib.Builder
import Derived.Lib.AppendStr
import Derived.Lib.UnsafeStr
import Derived.Test.YtgklmpooonnmiaaDoorJ5
import Derived.Test.YtgklmpooonnmiaaDoorShelf
import Derived.Deep.LoopGhost
set_option linter.unusedVariables false
set_option linter.unusedSimpArgs false
namespace Go.Proofs.YtgklmpooonnmiaaDoor
open Go.RowKit
abbrev BldAt (B b : Nat) (p : Value) (D : List Nat) (w : World) : Prop := Lib.BuilderAt 106 5 B b p (u8s D) w
abbrev Bld (B b : Nat) (D : List Nat) (w : World) : Prop := Lib.IsBuilder 106 5 B b (u8s D) w
theorem strCells_u8s (s : ByteArray) : Lib.strCells s = u8s (nats s) := by
 simp [Lib.strCells, u8s, nats]
set_option maxHeartbeats 1000000 in
set_option maxRecDepth 100000 in
theorem bld_check (B b : Nat) (D : List Nat) (w : World) (h : Bld B b D w) :
  Calls Tryd.prog 86 #[.pointer (some ⟨b, 0, none⟩)] w fun e w' => e = .returned (.tuple #[]) ∧ BldAt B b (.pointer (some ⟨b, 0, none⟩)) D w' ∧ Below B w w' := by
 have hj0 : (Tryd.prog.info? 106).map (·.size) = some 2 := by kernel_rfl
 obtain ⟨j, hj, hjs⟩ := Option.map_eq_some_iff.1 hj0
 rcases h with h | h
 ·have h0 := h.cell0
  have hsh := h.shape
  have hfz := h.frozen0
  have hpost : BldAt B b (.pointer (some ⟨b, 0, none⟩)) D (w.setCell ⟨b, 0, none⟩ (.pointer (some ⟨b, 0, none⟩))) ∧ Below B w (w.setCell ⟨b, 0, none⟩ (.pointer (some ⟨b, 0, none⟩))) := ⟨h.used _, (Below.refl B w).setCell (p := ⟨b, 0, none⟩) h.1 _⟩
  have HP := Lib.hid hpost
  have HJ := Lib.hid hj
  have HJS := Lib.hid hjs
  have HSH := Lib.hid hsh
  clear hpost hj hjs hsh h hj0
  go_enter Tryd.func86, Tryd.ntmps86
  go_wp2_with fail
  rw [Lib.run_to_unsafe w ⟨b, 0, none⟩ Tryd.underlying104 Tryd.underlying115 HJ.out (by rw [HJS.out]; decide) HSH.out (Nat.zero_lt_succ 1)]
  simp only [Result.andThen]
  rw [Oper.upon_value]
  go_wp2_with fail
  rw [run_callFunc_extern Tryd.func102 (by kernel_rfl) (by kernel_rfl) (by kernel_rfl) (e := Extern.AbiNoEscape.same) (by kernel_rfl)]
  rw [Lib.run_noEscape]
  simp only [Result.andThen]
  rw [Oper.upon_value]
  go_wp2_with fail
  rw [Lib.run_from_unsafe w ⟨b, 0, none⟩ Tryd.underlying115 Tryd.underlying104 HJ.out HSH.out (by kernel_rfl)]
  simp only [Result.andThen]
  rw [Oper.upon_value]
  go_wp2_with fail
  go_end0
  exact ⟨rfl, HP.out⟩
 ·have h0 := h.cell0
  have HP := Lib.hid h
  clear h hj0 hjs
  have hq := Lib.run_neq_ptr_same (P := Tryd.prog) w ⟨b, 0, none⟩ Tryd.underlying104 hj
  clear hj
  go_enter Tryd.func86, Tryd.ntmps86
  go_wp2_with fail
  go_end0
  exact ⟨rfl, HP.out, Below.refl B _⟩
theorem own_base_ge {w : World} {B n size : Nat} {e : TypeId} {v : Value} {xs : List Value} (h : w.ownsRow B e size v n xs) : ∀ k, v.ownBlock = some k → B ≤ k := by
 intro k hk
 rcases h.2 with ⟨rfl, _⟩ | ⟨g, cap, cur, rfl, hb, _⟩
 ·cases hk
 ·simp [Value.ownBlock] at hk; omega
theorem BldAt.any {B b : Nat} {p : Value} {D : List Nat} {w : World} (h : BldAt B b p D w) (hp : p = .pointer (some ⟨b, 0, none⟩)) : Bld B b D w := by
 subst hp; exact Or.inr h
set_option maxHeartbeats 1000000 in
set_option maxRecDepth 100000 in
theorem bld_byte (B b : Nat) (D : List Nat) (c : Nat) (w : World) (h : Bld B b D w) (hl : D.length < 1000000000) (hB : B ≤ w.heap.size) :
  Calls Tryd.prog 75 #[.pointer (some ⟨b, 0, none⟩), .int .u8 c] w fun e w' => e = .returned .nilIface ∧ Bld B b (D ++ [c]) w' ∧ Below B w w' := by
 obtain ⟨i0, hi, hz0, hz1, hz2⟩ := info_parts info8
 have HI := Lib.hid hi
 have HZ := Lib.hid (And.intro hz0 (And.intro hz1 hz2))
 clear hi hz0 hz1 hz2
 go_enter Tryd.func75, Tryd.ntmps75
 go_wp2_with fail
 refine (bld_check B b D w h).mono ?_
 rintro e w1 ⟨rfl, ⟨hBb, v, hbk, hown, hne⟩, hb1⟩
 have c1 : w1.cell? ⟨b, 1, none⟩ = some v := by rw [Lib.cell_of_heap hbk]; rfl
 have HBK := Lib.hid hbk
 have HOWN := Lib.hid hown
 have HNE := Lib.hid hne
 have HB1 := Lib.hid hb1
 have hsz := hb1.size
 clear hbk hown hne hb1 h
 go_wp2_with (at_builtin; refine wpList_append_lies (w1.alloc _) rfl (.tmp 11) (.tmp 13) 36 rfl B 5 i0 (.int .u8 0) 1 1 Tryd.underlying36 HI.out HZ.out.1 HZ.out.2.1 HZ.out.2.2 rfl (by decide) v (u8s D).length (u8s D) rfl (HOWN.out.alloc _) _ 1 1 [.int .u8 (c : Int)] rfl rfl (cell_one_new w1 _ _) (by simp [Value.oneCell']) (by decide) (by rw [u8s_length]; unfold maxLen; omega) (by rw [u8s_length]; omega) (by simp; omega) _ rfl ?_)
 intro g cap w2 hown2 hgrow _ hg2
 have hlt : b < w1.heap.size := row_lt HBK.out
 have hb2 : w2.heap[b]? = some (.cells #[.pointer (some ⟨b, 0, none⟩), v] 106 (0, 0)) := by
  rw [hgrow.block b (by simp; omega) (fun e => HNE.out e.symm), Below.heap_alloc _ _ _ hlt]; exact HBK.out
 have e : u8s (D ++ [c]) = u8s D ++ [.int .u8 (c : Int)] := by simp [u8s]
 have hl2 : D.length + 1 = (u8s (D ++ [c])).length := by simp
 rw [← e] at hown2
 have hown3 : w2.ownsRow B 5 1 (.slice (some ⟨g, 0, none⟩) (D.length + 1) cap) (u8s (D ++ [c])).length (u8s (D ++ [c])) := by rw [← hl2]; exact hown2
 have c2 : w2.cell? ⟨b, 1, none⟩ = some v := by rw [Lib.cell_of_heap hb2]; rfl
 have f2 : w2.frozen? ⟨b, 1, none⟩ = false := Lib.frozen_of_heap hb2 1
 have HPUT := Lib.hid (Lib.BuilderAt.put (T := 106) hBb hb2 hown3 (by decide))
 have HBL : Hid (Below B w w2) := by
  refine (HB1.out.alloc (by omega) _).grown hgrow (by simp; omega) (own_base_ge HOWN.out)
 clear hb2 hown2 hown3 hgrow e hl2 hlt
 go_wp2_with fail
 go_ret
 exact ⟨rfl, Or.inr HPUT.out, HBL.out.setCell (p := ⟨b, 1, none⟩) hBb _⟩
set_option maxHeartbeats 1000000 in
set_option maxRecDepth 100000 in
theorem bld_str (B b : Nat) (D : List Nat) (s : ByteArray) (w : World) (h : Bld B b D w) (hl : D.length + s.size < 1000000000) (hB : B ≤ w.heap.size) :
  Calls Tryd.prog 62 #[.pointer (some ⟨b, 0, none⟩), .string s] w fun e w' => e = .returned (.tuple #[.int .i64 s.size, .nilIface]) ∧ Bld B b (D ++ nats s) w' ∧ Below B w w' := by
 obtain ⟨i0, hi, hz0, hz1, hz2⟩ := info_parts info8
 have HI := Lib.hid hi
 have HZ := Lib.hid (And.intro hz0 (And.intro hz1 hz2))
 clear hi hz0 hz1 hz2
 go_enter Tryd.func62, Tryd.ntmps62
 go_wp2_with fail
 refine (bld_check B b D w h).mono ?_
 rintro e w1 ⟨rfl, ⟨hBb, v, hbk, hown, hne⟩, hb1⟩
 have c1 : w1.cell? ⟨b, 1, none⟩ = some v := by rw [Lib.cell_of_heap hbk]; rfl
 have HBK := Lib.hid hbk
 have HOWN := Lib.hid hown
 have HNE := Lib.hid hne
 have HB1 := Lib.hid hb1
 have hsz := hb1.size
 clear hbk hown hne hb1 h
 go_wp2_with (at_builtin; refine Lib.wpList_append_own_string _ rfl (.tmp 12) (.tmp 13) 36 9 rfl B 5 i0 Tryd.underlying36 Tryd.underlying9 HI.out HZ.out.1 HZ.out.2.1 HZ.out.2.2 v (u8s D).length (u8s D) rfl HOWN.out s rfl (by rw [u8s_length]; unfold maxLen; omega) (by rw [u8s_length]; omega) (by omega) ?_)
 intro v' w2 hown2 hgrow _
 have hlt : b < w1.heap.size := row_lt HBK.out
 have hb2 : w2.heap[b]? = some (.cells #[.pointer (some ⟨b, 0, none⟩), v] 106 (0, 0)) := by
  rw [hgrow.block b hlt (fun e => HNE.out e.symm)]; exact HBK.out
 have e : u8s (D ++ nats s) = u8s D ++ Lib.strCells s := by rw [strCells_u8s]; simp [u8s]
 have hl2 : D.length + s.size = (u8s (D ++ nats s)).length := by simp [nats_length]
 rw [← e] at hown2
 rw [show D.length + s.size = (u8s (D ++ nats s)).length by simp [nats_length]] at hown2
 have c2 : w2.cell? ⟨b, 1, none⟩ = some v := by rw [Lib.cell_of_heap hb2]; rfl
 have f2 : w2.frozen? ⟨b, 1, none⟩ = false := Lib.frozen_of_heap hb2 1
 have hform : ∃ ao n c, v' = .slice ao n c := by
  rcases hown2.2 with ⟨rfl, _⟩ | ⟨g, cap, cur, rfl, _⟩
  ·exact ⟨_, _, _, rfl⟩
  ·exact ⟨_, _, _, rfl⟩
 obtain ⟨ao, n, cc, rfl⟩ := hform
 have HPUT := Lib.hid (Lib.BuilderAt.put (T := 106) hBb hb2 hown2 (by decide))
 have HBL : Hid (Below B w w2) := HB1.out.grown hgrow (by omega) (own_base_ge HOWN.out)
 clear hb2 hown2 hgrow e hl2 hlt
 go_wp2_with fail
 go_ret2
 exact ⟨rfl, Or.inr HPUT.out, HBL.out.setCell (p := ⟨b, 1, none⟩) hBb _⟩
theorem u8s_byteCells (D : List Nat) (h : ∀ x ∈ D, x < 256) : u8s D = Lib.byteCells (D.map UInt8.ofNat) := by
 rw [u8s, Lib.byteCells, List.map_map]
 apply List.map_congr_left
 intro x hx
 have := h x hx
 simp only [Function.comp, UInt8.toNat_ofNat']
 rw [Nat.mod_eq_of_lt (by simpa using this)]
end Go.Proofs.YtgklmpooonnmiaaDoor

namespace Go.Proofs.YtgklmpooonnmiaaDoor
open Go.RowKit
namespace Lex
def lineEnd (f : Nat → Nat) (n at_ : Nat) : Nat := if at_ < n then (if f at_ = 10 then at_ else lineEnd f n (at_ + 1)) else n
termination_by n - at_
decreasing_by omega
theorem lineEnd_ge (f : Nat → Nat) (n at_ : Nat) (h : at_ ≤ n) : at_ ≤ lineEnd f n at_ ∧ lineEnd f n at_ ≤ n := by
 fun_induction lineEnd f n at_ with
 | case1 => omega
 | case2 a h1 h2 ih => have := ih (by omega); omega
 | case3 => omega
def blank (c : Nat) : Bool := c == 32 || c == 9 || c == 10 || c == 13
def skipTo (f : Nat → Nat) (n at_ : Nat) : Nat :=
 if h : at_ < n then (if blank (f at_) = true then skipTo f n (at_ + 1) else if f at_ = 35 then skipTo f n (lineEnd f n (at_ + 1)) else at_) else at_
termination_by n - at_
decreasing_by
 ·omega
 ·have := lineEnd_ge f n (at_ + 1) (by omega); omega
theorem skipTo_blank {f : Nat → Nat} {n k : Nat} (h : k < n) (hb : blank (f k) = true) : skipTo f n k = skipTo f n (k + 1) := by
 conv => lhs; rw [skipTo]
 rw [dif_pos h, if_pos hb]
theorem skipTo_mark {f : Nat → Nat} {n k : Nat} (h : k < n) (hb : ¬ blank (f k) = true) (h35 : f k = 35) : skipTo f n k = skipTo f n (lineEnd f n (k + 1)) := by
 conv => lhs; rw [skipTo]
 rw [dif_pos h, if_neg hb, if_pos h35]
theorem skipTo_stop {f : Nat → Nat} {n k : Nat} (hb : ¬ blank (f k) = true) (h35 : ¬ f k = 35) : skipTo f n k = k := by
 rw [skipTo, if_neg hb, if_neg h35, dite_eq_ite, ite_self]
theorem skipTo_end {f : Nat → Nat} {n k : Nat} (h : ¬ k < n) : skipTo f n k = k := by rw [skipTo, dif_neg h]
theorem skipTo_ge (f : Nat → Nat) (n k : Nat) (h : k ≤ n) : k ≤ skipTo f n k ∧ skipTo f n k ≤ n := by
 fun_induction skipTo f n k with
 | case1 a h1 h2 ih => have := ih (by omega); omega
 | case2 a h1 h2 h3 ih =>
  have h4 := lineEnd_ge f n (a + 1) (by omega)
  have := ih h4.2
  omega
 | case3 => omega
 | case4 => omega
end Lex
theorem lineEnd_idx (s : ByteArray) (k : Nat) (hk : k ≤ s.size) :
  Lex.lineEnd (bn s) s.size k = k + (if Lib.indexByte (s.data.toList.drop k) 10 < 0 then s.size - k else (Lib.indexByte (s.data.toList.drop k) 10).toNat) := by
 fun_induction Lex.lineEnd (bn s) s.size k with
 | case1 k h h10 =>
  have hl : k < s.data.toList.length := by simpa using h
  rw [List.drop_eq_getElem_cons hl]
  have hc : s.data.toList[k] = 10 := by
   have h1 := bn_data s k
   rw [h10, List.getD_eq_getElem?_getD, List.getElem?_eq_getElem hl] at h1
   exact UInt8.toNat_inj.1 h1
  rw [hc]
  simp [Lib.indexByte]
 | case2 k h h10 ih =>
  have hl : k < s.data.toList.length := by simpa using h
  rw [ih (by omega), List.drop_eq_getElem_cons hl]
  have hc : ¬ s.data.toList[k] = 10 := fun hc => by
   have h1 := bn_data s k
   rw [List.getD_eq_getElem?_getD, List.getElem?_eq_getElem hl] at h1
   exact h10 (by rw [← h1]; show s.data.toList[k].toNat = 10; rw [hc]; rfl)
  have hg := Lib.indexByte_ge (s.data.toList.drop (k + 1)) 10
  simp only [Lib.indexByte, beq_iff_eq, hc, if_false]
  generalize Lib.indexByte (s.data.toList.drop (k + 1)) 10 = v at *
  by_cases hm : v = -1
  ·subst hm; simp; omega
  ·rw [if_neg (show ¬ v < 0 by omega), if_neg hm, if_neg (show ¬ v + 1 < 0 by omega)]
   omega
 | case3 k h =>
  have : k = s.size := by omega
  subst this
  rw [List.drop_eq_nil_of_le (by simp)]
  simp [Lib.indexByte]
def Sc (w : World) (b : Nat) (s : ByteArray) (k : Nat) (lv : Value) : Prop := w.heap[b]? = some (.cells #[.string s, .int .i64 (k : Nat), lv] 60 (0, 0))
theorem Sc.c0 {w : World} {b : Nat} {s : ByteArray} {k : Nat} {lv : Value} (h : Sc w b s k lv) : w.cell? ⟨b, 0, none⟩ = some (.string s) := by rw [Lib.cell_of_heap h]; rfl
theorem Sc.c1 {w : World} {b : Nat} {s : ByteArray} {k : Nat} {lv : Value} (h : Sc w b s k lv) : w.cell? ⟨b, 1, none⟩ = some (.int .i64 (k : Nat)) := by rw [Lib.cell_of_heap h]; rfl
theorem Sc.c2 {w : World} {b : Nat} {s : ByteArray} {k : Nat} {lv : Value} (h : Sc w b s k lv) : w.cell? ⟨b, 2, none⟩ = some lv := by rw [Lib.cell_of_heap h]; rfl
theorem Sc.fz {w : World} {b : Nat} {s : ByteArray} {k : Nat} {lv : Value} (h : Sc w b s k lv) (i : Nat) : w.frozen? ⟨b, i, none⟩ = false := Lib.frozen_of_heap h i
theorem Sc.lt {w : World} {b : Nat} {s : ByteArray} {k : Nat} {lv : Value} (h : Sc w b s k lv) : b < w.heap.size := row_lt h
theorem Sc.put {w : World} {b : Nat} {s : ByteArray} {k : Nat} {lv : Value} (h : Sc w b s k lv) (m : Nat) : Sc (w.setCell ⟨b, 1, none⟩ (.int .i64 (m : Nat))) b s m lv := by
 unfold Sc at *
 have := heap_setCell_same w b 1 _ _ (.int .i64 (m : Nat)) h
 simpa using this
theorem Sc.fr {w w' : World} {b : Nat} {s : ByteArray} {k : Nat} {lv : Value} (h : Sc w b s k lv) (hF : Fr [] w w') : Sc w' b s k lv := hF.row h (by simp)
set_option maxHeartbeats 4000000 in
set_option maxRecDepth 100000 in
theorem lex_skip (w : World) (b : Nat) (s : ByteArray) (k0 : Nat) (lv : Value) (hs : s.size ≤ 1000000) (hk0 : k0 ≤ s.size) (h : Sc w b s k0 lv) :
  Calls Tryd.prog 36 #[.pointer (some ⟨b, 0, none⟩)] w fun e w' => e = .returned (.tuple #[]) ∧ Sc w' b s (Lex.skipTo (bn s) s.size k0) lv ∧ Fr [b] w w' := by
 have HS := Lib.hid h
 clear h
 go_enter Tryd.func36, Tryd.ntmps36
 go_wp2
 go_loopg [2] (s.size - k0) (fun q _ W => ∃ k : Nat, k ≤ s.size ∧ q = s.size - k ∧ Hid (Lex.skipTo (bn s) s.size k = Lex.skipTo (bn s) s.size k0) ∧ Hid (Sc W b s k lv) ∧ Hid (Fr [b] w W))
 case atStart => exact ⟨k0, hk0, rfl, rfl, HS, Fr.refl _ _⟩
 case round =>
  clear HS hk0
  obtain ⟨k, hk, hq, HE, HC, HF⟩ := hrel
  have c0 := HC.out.c0
  have c1 := HC.out.c1
  have HQ := Lib.hid hq
  clear hq
  by_cases hlt : k < s.size
  ·have hlt' : (k : Int) < (s.size : Int) := by omega
   have hz := Lib.hid (bn_at s k)
   obtain ⟨c, hc⟩ : ∃ c, Hid (bn s k = c) := ⟨_, rfl⟩
   rw [hc.out] at hz
   have hz' := hz.out hlt
   go_wp2_with fail
   go_quiet (fail)
   refine then_fresh (fun W => Sc W b s k lv ∧ Fr [] wr W) ⟨HC.out.fr ((Fr.refl _ _).drewN _), (Fr.refl _ _).drewN _⟩ ?_
   rintro W1 ⟨hc1, hf1⟩
   have HC1 := Lib.hid hc1
   have HF1 := Lib.hid (HF.out.trans0 hf1)
   clear c0 c1 hc1 hf1 HC HF
   have c0 := HC1.out.c0
   have c1 := HC1.out.c1
   go_wp2_with fail
   go_quiet (fail)
   refine then_fresh (fun W => Sc W b s k lv ∧ Fr [] W1 W) ⟨HC1.out.fr ((Fr.refl _ _).drewN _), (Fr.refl _ _).drewN _⟩ ?_
   rintro W2 ⟨hc1, hf1⟩
   have HC2 := Lib.hid hc1
   have HF2 := Lib.hid (HF1.out.trans0 hf1)
   clear c0 c1 hc1 hf1 HC1 HF1
   have c0 := HC2.out.c0
   have c1 := HC2.out.c1
   have f1 := HC2.out.fz 1
   by_cases hbl : Lex.blank c = true
   ·have HN := Lib.hid (Lex.skipTo_blank (f := bn s) hlt (by rw [hc.out]; exact hbl))
    have hq4 : c = 32 ∨ c = 9 ∨ c = 10 ∨ c = 13 := by simpa [Lex.blank, or_assoc] using hbl
    have HP := Lib.hid (HC2.out.put (k + 1))
    clear hbl hc hz
    rcases hq4 with rfl | rfl | rfl | rfl
    all_goals
     go_wp2_with fail
     go_roundg (s.size - (k + 1))
     case measure => have := HQ.out; omega
     case rel => exact ⟨k + 1, by omega, rfl, by show _ = _; rw [← HN.out]; exact HE.out, HP.out, HF2.out.setCell (.inl (by simp)) _⟩
   ·have hq4 : c ≠ 32 ∧ c ≠ 9 ∧ c ≠ 10 ∧ c ≠ 13 := by simpa [Lex.blank, and_assoc] using hbl
    have t1 : ((c : Int) == 32) = false := beq_eq_false_iff_ne.2 (by omega)
    have t2 : ((c : Int) == 9) = false := beq_eq_false_iff_ne.2 (by omega)
    have t3 : ((c : Int) == 10) = false := beq_eq_false_iff_ne.2 (by omega)
    have t4 : ((c : Int) == 13) = false := beq_eq_false_iff_ne.2 (by omega)
    by_cases h35 : c = 35
    ·have t5 : ((c : Int) == 35) = true := beq_iff_eq.2 (by omega)
     have HN := Lib.hid (Lex.skipTo_mark (f := bn s) hlt (by rw [hc.out]; exact hbl) (by rw [hc.out]; exact h35))
     have hle := Lex.lineEnd_ge (bn s) s.size (k + 1) (by omega)
     have hli := lineEnd_idx s k (by omega)
     have hl0 : Lex.lineEnd (bn s) s.size k = Lex.lineEnd (bn s) s.size (k + 1) := by
      conv => lhs; rw [Lex.lineEnd]
      rw [if_pos hlt, if_neg (by rw [hc.out]; omega)]
     rw [hl0] at hli
     obtain ⟨m, hm⟩ : ∃ m, Hid (Lex.lineEnd (bn s) s.size (k + 1) = m) := ⟨_, rfl⟩
     rw [hm.out] at hle hli
     have HNE : Hid (Lex.skipTo (bn s) s.size k = Lex.skipTo (bn s) s.size m) := by show _ = _; rw [HN.out, hm.out]
     obtain ⟨T, hT⟩ : ∃ T, Hid (s.extract k s.size = T) := ⟨_, rfl⟩
     have hTd : T.data.toList = s.data.toList.drop k := by rw [← hT.out]; simp [List.extract]; rw [List.take_of_length_le (by simp)]
     have hix := fun W => Tryd.strings_IndexByte T 10 W
     rw [hTd] at hix
     obtain ⟨v, hv⟩ : ∃ v, Hid (Lib.indexByte (s.data.toList.drop k) 10 = v) := ⟨_, rfl⟩
     have hvg := Lib.indexByte_ge (s.data.toList.drop k) 10
     rw [hv.out] at hli hvg
     have hix2 : Hid (∀ W, Calls Tryd.prog 64 #[.string T, .int .u8 10] W fun e w' => e = .returned (.int .i64 v) ∧ w' = W) := fun W => by
      have := hix W
      rw [show ((10 : Int).toNat.toUInt8) = 10 from rfl, hv.out] at this
      exact this
     have HLI := Lib.hid hli
     have HLE := Lib.hid hle
     have hkm : k < m := by omega
     have hms : m ≤ s.size := by omega
     clear hix hTd hl0 hli hle hbl hc hz hq4 h35 hm HN
     have hex : s.extract k s.size = T := hT.out
     go_wp2_with fail
     go_quiet ((go_at_call 64; exact Calls.quiet_of_same (hix2.out _)))
     refine then_fresh (fun W => Sc W b s k lv ∧ Fr [] W2 W) ⟨HC2.out.fr ((Fr.refl _ _).drewN _), (Fr.refl _ _).drewN _⟩ ?_
     rintro W3 ⟨hc1, hf1⟩
     have HC3 := Lib.hid hc1
     have HF3 := Lib.hid (HF2.out.trans0 hf1)
     clear c0 c1 f1 hc1 hf1 HC2 HF2
     have c0 := HC3.out.c0
     have c1 := HC3.out.c1
     by_cases hneg : v < 0
     ·have hms2 : m = s.size := by have := HLI.out; rw [if_pos hneg] at this; omega
      subst hms2
      go_wp2_with fail
      go_quiet (fail)
      refine then_fresh (fun W => Sc W b s k lv ∧ Fr [] W3 W) ⟨HC3.out.fr ((Fr.refl _ _).drewN _), (Fr.refl _ _).drewN _⟩ ?_
      rintro W4 ⟨hc1, hf1⟩
      have HC4 := Lib.hid hc1
      have HF4 := Lib.hid (HF3.out.trans0 hf1)
      clear c0 c1 hc1 hf1 HC3 HF3
      have c0 := HC4.out.c0
      have c1 := HC4.out.c1
      have f1 := HC4.out.fz 1
      have HP := Lib.hid (HC4.out.put s.size)
      have hvm1 : IntKind.i64.wrap ((s.size : Int) - (k : Int)) = (s.size : Int) - (k : Int) := IntWalk.i64_in _ (by omega)
      have hvm2 : IntKind.i64.wrap ((k : Int) + ((s.size : Int) - (k : Int))) = (s.size : Int) := by rw [IntWalk.i64_in _ (by omega)]; omega
      have hvm3 : (k : Int) + ((s.size : Int) - (k : Int)) = (s.size : Int) := by omega
      go_wp2_with fail
      go_roundg (s.size - s.size)
      case measure => have := HQ.out; omega
      case rel => exact ⟨s.size, hms, rfl, by show _ = _; rw [← HNE.out]; exact HE.out, HP.out, HF4.out.setCell (.inl (by simp)) _⟩
     ·have hvm : v = ((m - k : Nat) : Int) := by have := HLI.out; rw [if_neg hneg] at this; omega
      have f1 := HC3.out.fz 1
      have HP := Lib.hid (HC3.out.put m)
      have hvm2 : IntKind.i64.wrap ((k : Int) + v) = (m : Int) := by rw [IntWalk.i64_in _ (by omega)]; omega
      have hvm3 : (k : Int) + v = (m : Int) := by omega
      clear hvm
      go_wp2_with fail
      go_roundg (s.size - m)
      case measure => have := HQ.out; omega
      case rel => exact ⟨m, hms, rfl, by show _ = _; rw [← HNE.out]; exact HE.out, HP.out, HF3.out.setCell (.inl (by simp)) _⟩
    ·have t5 : ((c : Int) == 35) = false := beq_eq_false_iff_ne.2 (by omega)
     have HN := Lib.hid (Lex.skipTo_stop (f := bn s) (n := s.size) (k := k) (by rw [hc.out]; exact hbl) (by rw [hc.out]; exact h35))
     clear hbl h35 hc hz hq4
     go_wp2_with fail
     refine bodyPost_ret (results_none rfl _ _ _) rfl ?_
     refine ⟨rfl, ?_, HF2.out⟩
     rw [← HE.out, HN.out]
     exact HC2.out
  ·have hlt' : ¬ (k : Int) < (s.size : Int) := by omega
   go_wp2_with fail
   go_quiet (fail)
   refine then_fresh (fun W => Sc W b s k lv ∧ Fr [] wr W) ⟨HC.out.fr ((Fr.refl _ _).drewN _), (Fr.refl _ _).drewN _⟩ ?_
   rintro W1 ⟨hc1, hf1⟩
   have HC1 := Lib.hid hc1
   have HF1 := Lib.hid (HF.out.trans0 hf1)
   have HN := Lib.hid (Lex.skipTo_end (f := bn s) hlt)
   clear c0 c1 hc1 hf1 HC HF
   go_wp2_with fail
   go_end0
   refine ⟨rfl, ?_, HF1.out⟩
   rw [← HE.out, HN.out]
   exact HC1.out
end Go.Proofs.YtgklmpooonnmiaaDoor
