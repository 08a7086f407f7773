/-
  Lemmas and contracts that the proofs over this seat use (GrownT, LexScanP, LexScan, PolNot); no statement of the seat is claimed in this text, and nothing is assumed in it.
-/
import Derived.Test.YtgklmpooonnmiaaGreatDoorH1
import Derived.Test.YtgklmpooonnmiaaGreatDoorH19
import Derived.Test.YtgklmpooonnmiaaGreatDoorH6
import Derived.Test.YtgklmpooonnmiaaGreatDoorH4
import Derived.Test.YtgklmpooonnmiaaGreatDoorH9
import Derived.Deep.CutRange
import Derived.Deep.DeepCutAuto
set_option linter.unusedVariables false
set_option linter.unusedSimpArgs false
namespace Go.Proofs.YtgklmpooonnmiaaGreatDoor
open Go.RowKit
theorem _root_.Go.World.grownBy.trans_ {a b c : World} {row : Option Nat} (h : a.grownBy b row) (k : b.grownBy c row) : a.grownBy c row :=
 ⟨k.os.trans h.os, k.tape.trans h.tape, k.output.trans h.output, Nat.le_trans h.size k.size, fun i hi hn => (k.block i (Nat.lt_of_lt_of_le hi h.size) hn).trans (h.block i hi hn)⟩
end Go.Proofs.YtgklmpooonnmiaaGreatDoor

namespace Go.Proofs.YtgklmpooonnmiaaGreatDoor
open Go.RowKit
namespace Lex
theorem skipTo_self (f : Nat → Nat) (n k : Nat) : k ≤ skipTo f n k := by
 rcases Nat.lt_or_ge n k with h | h
 ·rw [skipTo_end (by omega)]; exact Nat.le_refl _
 ·exact (skipTo_ge f n k h).1
theorem text_bounds (s : ByteArray) (k : Nat) (out o : List Nat) (e : Nat) (h : text s k out = (some o, e)) : k < e ∧ e ≤ s.size := by
 fun_induction text s k out with
 | case1 k out h1 h2 => cases h
 | case2 k out h1 h2 h3 => cases h; omega
 | case3 k out h1 h2 h3 h4 h5 ih => have := ih h; omega
 | case4 k out h1 h2 h3 h4 h5 => cases h
 | case5 k out h1 h2 h3 h4 x hx => cases h
 | case6 k out h1 h2 h3 h4 x m hx ih => have := ih h; omega
 | case7 k out h1 => cases h
theorem token_bounds (s : ByteArray) (k : Nat) (hk : k < s.size) (t : Tk) (m : Nat) (h : token s k = .ok t m) : k < m ∧ m ≤ s.size := by
 unfold token tokR at h
 have hT : (s.extract k s.size).size = s.size - k := by simp
 generalize s.extract k s.size = T at *
 split at h
 ·rename_i hsm
  unfold tokSmall at h
  split at h
  ·cases h
  ·cases h
   have h1 := smalls_le (bn T) T.size 0 (by omega)
   have h2 := smalls_ge (bn T) T.size 1
   have e := smalls_yes (f := bn T) (n := T.size) (k := 0) (by omega) hsm
   rw [Nat.zero_add] at e
   omega
 ·split at h
  ·skip
   generalize hx : text s (k + 1) [] = r at h
   obtain ⟨o, e⟩ := r
   cases o with
   | none => cases h
   | some o =>
    cases h
    have := text_bounds _ _ _ _ _ hx
    omega
  ·split at h
   ·unfold tokNum at h
    split at h
    ·cases h
    ·have h1 := Dec.lead_le (bn T) T.size
     generalize Dec.read _ _ _ _ = rr at h
     obtain ⟨v, er⟩ := rr
     cases er <;> cases h
     omega
   ·unfold tokSign at h
    split at h
    ·cases h
    ·cases h
     have h1 := sign_le (bn T) T.size
     omega
def scanFrom (s : ByteArray) (k : Nat) (l : List Tk) : Er × List Tk :=
 if k < s.size then
  match token s k with
  | .bad p n => (.pl p n, [])
  | .ok t m => if l.length = 512 then (.pl k 53, []) else scanFrom s (skipTo (bn s) s.size (max m (k + 1))) (l ++ [t])
 else (.ok, l ++ [⟨5, ⟨#[]⟩, 0, s.size⟩])
termination_by s.size - k
decreasing_by
 have := skipTo_self (bn s) s.size (max m (k + 1))
 omega
def scan (s : ByteArray) : Er × List Tk := if 2048 < s.size then (.no 2, []) else scanFrom s (skipTo (bn s) s.size 0) []
end Lex
def toks (l : List Tk) : List Value := l.flatMap Tk.c
theorem toks_snoc (l : List Tk) (t : Tk) : toks (l ++ [t]) = toks l ++ t.c := by simp [toks]
theorem toks_length (l : List Tk) : (toks l).length = 4 * l.length := by
 induction l with
 | nil => rfl
 | cons t l ih => simp only [toks, List.flatMap_cons, List.length_append] at *; rw [ih]; simp [Tk.c]; omega
theorem infoTok : (Tryz.prog.info? 54).map (fun i => (i.zero, i.size, i.bytes)) = some (some (.agg #[.int .i64 0, .string ⟨#[]⟩, .int .i64 0, .int .i64 0]), 4, 40) := by kernel_rfl
structure SS (w : World) (b : Nat) (s : ByteArray) (k : Nat) (lv : Value) (l : List Tk) (W : World) : Prop where
 sc : Sc W b s k lv
 f : Fr [] w W
 own : W.ownsRow w.heap.size 54 4 lv l.length (toks l)
 ge : w.heap.size ≤ b
theorem own_ne_sc {w W : World} {b : Nat} {s : ByteArray} {k : Nat} {lv : Value} {l : List Tk} (h : SS w b s k lv l W) : lv.ownBlock ≠ some b := by
 rcases h.own.2 with ⟨hv, _⟩ | ⟨g, cap, cur, rfl, _, hg, _⟩
 ·rw [hv]; simp [Value.ownBlock]
 ·intro e
  simp only [Value.ownBlock, Option.some.injEq] at e
  subst e
  have h1 := h.sc
  unfold Sc at h1
  rw [hg] at h1
  simp at h1
theorem SS.step {w W W' : World} {b : Nat} {s : ByteArray} {k m : Nat} {lv : Value} {l : List Tk} (h : SS w b s k lv l W) (hF : Fr [b] W W') (hs : Sc W' b s m lv) : SS w b s m lv l W' := by
 refine ⟨hs, h.f.trans1 hF (.inr h.ge), ⟨h.own.1, ?_⟩, h.ge⟩
 rcases h.own.2 with h1 | ⟨g, cap, cur, hv, hg, hgg, r⟩
 ·exact Or.inl h1
 ·refine Or.inr ⟨g, cap, cur, hv, hg, ?_, r⟩
  refine (hF.block g (row_lt hgg) (fun hc => ?_)).trans hgg
  have := own_ne_sc h
  rw [hv] at this
  simp [Value.ownBlock] at this hc
  exact this hc
theorem SS.fr {w W W' : World} {b : Nat} {s : ByteArray} {k : Nat} {lv : Value} {l : List Tk} (h : SS w b s k lv l W) (hF : Fr [] W W') : SS w b s k lv l W' :=
 ⟨h.sc.fr hF, h.f.trans0 hF, ownsRow_fr h.own hF, h.ge⟩
theorem Fr.grown2 {w0 w w' : World} {row : Option Nat} (h : Fr [] w0 w) (hg : w.grownBy w' row) (hr : ∀ k, row = some k → w0.heap.size ≤ k) : Fr [] w0 w' :=
 ⟨hg.os.trans h.os, hg.tape.trans h.tape, hg.output.trans h.output, Nat.le_trans h.size hg.size, fun k hk hn => (hg.block k (Nat.lt_of_lt_of_le hk h.size) (fun hc => by have := hr k hc.symm; omega)).trans (h.block k hk hn)⟩
theorem Sc.putl {w : World} {b : Nat} {s : ByteArray} {k : Nat} {lv : Value} (h : Sc w b s k lv) (u : Value) : Sc (w.setCell ⟨b, 2, none⟩ u) b s k u := by
 unfold Sc at *
 have := heap_setCell_same w b 2 _ _ u h
 simpa using this
theorem oc_tok (t : Tk) : ∀ u ∈ t.c, u.oneCell' = true := by
 intro u hu
 simp only [Tk.c, List.mem_cons, List.not_mem_nil, or_false] at hu
 rcases hu with rfl | rfl | rfl | rfl <;> rfl
theorem appTok {ops : Array Oper} {rest : List Oper} {o : Oper} {a : Act} {w : World} {Q : Exit → Act → World → Prop} (hgd : o.guard = none) (s x : Operand)
  (ho : o.op = .call { callee := .builtin .append, args := #[s, x], argTypes := #[43, 43] })
  (B : Nat) (v : Value) (l : List Tk) (t : Tk) (cs : Array Value) (hc : cs = t.c.toArray) (hs : a.eval s = v) (hx : a.eval x = .slice (some ⟨w.heap.size, 0, none⟩) 1 1)
  (hown : w.ownsRow B 54 4 v l.length (toks l)) (hB : B ≤ w.heap.size) (hn : l.length < 1000000)
  (h : ∀ g c w', w'.ownsRow B 54 4 (.slice (some ⟨g, 0, none⟩) (l.length + 1) c) (l ++ [t]).length (toks (l ++ [t])) → w.grownBy w' v.ownBlock → wpList Tryz.prog ops Q rest (a.put o.dst (.slice (some ⟨g, 0, none⟩) (l.length + 1) c)) w') : wpList Tryz.prog ops Q (o :: rest) a (w.alloc (.cells cs 54)) := by
 subst hc
 obtain ⟨i, hi, hz0, hz1, hz2⟩ := info_parts infoTok
 refine wpList_append_lies (w.alloc _) hgd s x _ ho B 54 i _ 4 40 Tryz.underlying43 hi hz0 hz1 hz2 rfl (by decide) v l.length (toks l) hs (hown.alloc _) _ 1 1 t.c hx rfl (World.news_of_block (heap_alloc_last w _)) (oc_tok t) (by decide) (by unfold maxLen; omega) (by omega) (Nat.le_trans hB (by simp)) _ rfl ?_
 intro g cap w' h1 h2 _ _
 refine h g cap w' ?_ ((World.grownBy_alloc w _ _).trans_ h2)
 rw [toks_snoc, List.length_append]; exact h1
theorem SS.grow {w V w9 : World} {b : Nat} {s : ByteArray} {m : Nat} {lv : Value} {l : List Tk} {t : Tk} {g9 c9 : Nat} (h : SS w b s m lv l V) (ho : w9.ownsRow w.heap.size 54 4 (.slice (some ⟨g9, 0, none⟩) (l.length + 1) c9) (l ++ [t]).length (toks (l ++ [t]))) (hg : V.grownBy w9 lv.ownBlock) :
  SS w b s m (.slice (some ⟨g9, 0, none⟩) (l.length + 1) c9) (l ++ [t]) (w9.setCell ⟨b, 2, none⟩ (.slice (some ⟨g9, 0, none⟩) (l.length + 1) c9)) := by
 have hsc : Sc w9 b s m lv := (hg.block b h.sc.lt (own_ne_sc h).symm).trans h.sc
 refine ⟨hsc.putl _, (h.f.grown2 hg (own_base_ge h.own)).setCell (.inr h.ge) _, ⟨ho.1, ?_⟩, h.ge⟩
 rcases ho.2 with ⟨h1, _⟩ | ⟨g, cap, cur, hv, hb, hgg, r⟩
 ·cases h1
 ·refine Or.inr ⟨g, cap, cur, hv, hb, ?_, r⟩
  rw [Below.heap_setCell _ _ _ _ (fun hc => ?_)]
  ·exact hgg
  ·have h2 : Sc w9 b s m lv := hsc
   unfold Sc at h2
   rw [show b = g from hc.symm, hgg] at h2
   simp at h2
theorem stepTok {ops : Array Oper} {o : Oper} {a : Act} {W w : World} {K : Act → World → Prop} {Q : Exit → Act → World → Prop} {E : Prop} (hgd : o.guard = none) (s x : Operand)
  (ho : o.op = .call { callee := .builtin .append, args := #[s, x], argTypes := #[43, 43] })
  (B : Nat) (v : Value) (l : List Tk) (t : Tk) (hW : W = (w.alloc (.cells t.c.toArray 54)).drew) (hs : a.eval s = v) (hx : a.eval x = .slice (some ⟨w.heap.size, 0, none⟩) 1 1)
  (hown : w.ownsRow B 54 4 v l.length (toks l)) (hB : B ≤ w.heap.size) (hn : l.length < 1000000)
  (h : ∀ g c w', w'.ownsRow B 54 4 (.slice (some ⟨g, 0, none⟩) (l.length + 1) c) (l ++ [t]).length (toks (l ++ [t])) → w.grownBy w' v.ownBlock → K (a.put o.dst (.slice (some ⟨g, 0, none⟩) (l.length + 1) c)) w') :
  if Region.wanted o (yielded ops a.tmps) = true then Oper.wp Tryz.prog o a W K Q else E := by
 subst hW
 obtain ⟨i, hi, hz0, hz1, hz2⟩ := info_parts infoTok
 have hown2 : (w.alloc (.cells t.c.toArray 54)).drew.ownsRow B 54 4 v l.length (toks l) := ownsRow_fr hown ((Fr.refl _ _).alloc _).drew
 refine step_append_lies (w.alloc _).drew hgd s x _ ho B 54 i _ 4 40 Tryz.underlying43 hi hz0 hz1 hz2 rfl (by decide) v l.length (toks l) hs hown2 _ 1 1 t.c hx rfl (World.news_of_block (heap_alloc_last w _)) (oc_tok t) (by decide) (by unfold maxLen; omega) (by omega) (Nat.le_trans hB (by simp [World.drew])) _ rfl ?_
 intro g cap w' h1 h2 _ _
 have hg := World.grownBy_alloc w (.cells t.c.toArray 54) v.ownBlock
 have hg2 : w.grownBy (w.alloc (.cells t.c.toArray 54)).drew v.ownBlock := ⟨hg.os, hg.tape, hg.output, hg.size, hg.block⟩
 refine h g cap w' ?_ (hg2.trans_ h2)
 rw [toks_snoc, List.length_append]; exact h1
end Go.Proofs.YtgklmpooonnmiaaGreatDoor

namespace Go.Proofs.YtgklmpooonnmiaaGreatDoor
open Go.RowKit
set_option maxHeartbeats 8000000 in
set_option maxRecDepth 100000 in
theorem lex_scan (w : World) (s : ByteArray) (hs : s.size ≤ maxLen) (hL : Least w) :
  Calls Tryz.prog 16 #[.string s] w fun e w' => ∃ v ev, e = .returned (.tuple #[v, ev]) ∧ w'.ownsRow w.heap.size 54 4 v (Lex.scan s).2.length (toks (Lex.scan s).2) ∧ ErV w' w.heap.size (Lex.scan s).1 ev ∧ Fr [] w w' := by
 unfold maxLen at hs
 by_cases hlong : 2048 < s.size
 ·have hE : Hid (Lex.scan s = (.no 2, [])) := by show _ = _; unfold Lex.scan; rw [if_pos hlong]
  have hl' : (s.size : Int) > 2048 := by omega
  go_enter Tryz.func16, Tryz.ntmps16
  go_wp2
  refine bodyPost_ret (results_tmp2 rfl _ _ _) rfl ?_
  rw [hE.out]
  exact ⟨_, _, rfl, ownsRow_nil _ _ _ _, rfl, Fr.refl _ _⟩
 have hE : Hid (Lex.scan s = Lex.scanFrom s (Lex.skipTo (bn s) s.size 0) []) := by show _ = _; unfold Lex.scan; rw [if_neg hlong]
 have hl' : ¬ (s.size : Int) > 2048 := by omega
 obtain ⟨R, hR⟩ : ∃ R, Hid (Lex.scan s = R) := ⟨_, rfl⟩
 rw [hR.out] at hE ⊢
 have hs2 : s.size ≤ 1000000 := by omega
 have HL := Lib.hid hL
 have hwl : 1 < w.heap.size := by obtain ⟨_, _, h⟩ := hL; exact row_lt h
 clear hL hlong
 go_enter Tryz.func16, Tryz.ntmps16
 go_wp2_with fail
 have hsc0 : Sc (w.alloc (.cells #[.string s, .int .i64 0, .slice none 0 0] 89)) w.heap.size s 0 (.slice none 0 0) := heap_alloc_last _ _
 have hss0 : SS w w.heap.size s 0 (.slice none 0 0) [] (w.alloc (.cells #[.string s, .int .i64 0, .slice none 0 0] 89)) := ⟨hsc0, (Fr.refl _ _).alloc _, ownsRow_nil _ _ _ _, Nat.le_refl _⟩
 obtain ⟨b, hb⟩ : ∃ b, w.heap.size = b := ⟨_, rfl⟩
 rw [hb] at hsc0 hss0 ⊢
 have HSS := Lib.hid hss0
 refine (lex_skip _ b s 0 _ hs2 (Nat.zero_le _) hsc0).mono ?_
 rintro e W1 ⟨rfl, hsc1, hf1⟩
 have H := Lib.hid (HSS.out.step hf1 hsc1)
 have HB := Lib.hid hb
 have hgl : 1 ≠ b := by omega
 clear HSS hsc0 hss0 hsc1 hf1 hb
 show _
 go_wp2_with fail
 go_loopg [5, 6, 7] (s.size - Lex.skipTo (bn s) s.size 0) (fun q _ _ _ W => ∃ (k : Nat) (lv : Value) (l : List Tk), k ≤ s.size ∧ q = s.size - k ∧ Hid (Lex.scanFrom s k l = R) ∧ Hid (SS w b s k lv l W) ∧ Hid (l.length ≤ 512))
 case atStart => exact ⟨_, _, [], (Lex.skipTo_ge _ _ _ (Nat.zero_le _)).2, rfl, hE.out.symm, H, Nat.zero_le _⟩
 case round =>
  clear H hE hR
  obtain ⟨k, lv, l, hk, hq, HE, H, HLL⟩ := hrel
  have HQ := Lib.hid hq
  clear hq
  have c1 := H.out.sc.c1
  by_cases hlt : k < s.size
  ·have hlt' : (k : Int) < (s.size : Int) := by omega
   obtain ⟨r, hr⟩ : ∃ r, Hid (Lex.token s k = r) := ⟨_, rfl⟩
   go_wp2_with fail
   refine (lex_token wr b s k lv hs2 hlt H.out.sc (HL.out.fr H.out.f (by simp)) hgl).mono ?_
   rintro e W2 ⟨tv, ev, rfl, ht⟩
   rw [hr.out] at ht
   have HLE := Lib.hid H.out.f.size
   cases r with
   | bad p n =>
    obtain ⟨⟨t, rfl⟩, hv, hf⟩ := ht
    obtain ⟨tk, tss, tn, tp⟩ := t
    have hcs : (Tk.c ⟨tk, tss, tn, tp⟩).toArray = #[.int .i64 (tk : Nat), .string tss, .int .i64 tn, .int .i64 (tp : Nat)] := rfl
    rw [hcs]
    clear hcs
    have HX : Hid (R = (.pl p n, [])) := by show _ = _; rw [← HE.out, Lex.scanFrom, if_pos hlt, hr.out]
    obtain ⟨bb, hbb, rfl, hrow⟩ := hv
    have HROW := Lib.hid hrow
    have HF : Hid (Fr [] w W2) := H.out.f.trans1 hf (.inr H.out.ge)
    clear hf hrow c1
    go_wp2_with fail
    refine bodyPost_ret (results_tmp2 rfl _ _ _) rfl ?_
    rw [HX.out]
    exact ⟨_, _, rfl, ownsRow_nil _ _ _ _, ⟨bb, Nat.le_trans HLE.out hbb, rfl, ((Fr.refl [] W2).alloc _).row HROW.out (by simp)⟩, HF.out.alloc _⟩
   | ok t m =>
    obtain ⟨rfl, rfl, hsc, hf⟩ := ht
    obtain ⟨tk, tss, tn, tp⟩ := t
    have hcs : (Tk.c ⟨tk, tss, tn, tp⟩).toArray = #[.int .i64 (tk : Nat), .string tss, .int .i64 tn, .int .i64 (tp : Nat)] := rfl
    rw [hcs]
    clear hcs
    have HX : Hid (R = if l.length = 512 then (.pl k 53, []) else Lex.scanFrom s (Lex.skipTo (bn s) s.size (max m (k + 1))) (l ++ [⟨tk, tss, tn, tp⟩])) := by show _ = _; rw [← HE.out]; conv => lhs; rw [Lex.scanFrom, if_pos hlt, hr.out]
    have hbd := Lex.token_bounds s k hlt _ m hr.out
    have H := Lib.hid (H.out.step hf hsc)
    obtain ⟨lp, lc, rfl⟩ := own_form H.out.own
    have c2 := H.out.sc.c2
    have hl9 : l.length ≤ 512 := HLL.out
    have hbl : b < W2.heap.size := H.out.sc.lt
    have hbn : ¬ b = W2.heap.size := by omega
    have hbn2 : ¬ W2.heap.size = b := by omega
    clear hsc hf c1
    by_cases h512 : l.length = 512
    ·have h512' : ((l.length : Int) == 512) = true := beq_iff_eq.2 (by omega)
     have HX2 : Hid (R = (.pl k 53, [])) := by show _ = _; rw [HX.out, if_pos h512]
     clear h512
     go_wp2_with fail
     refine (lex_fault _ k 53).mono ?_
     rintro e W3 ⟨v, rfl, hv, hf⟩
     have HV := Lib.hid hv
     have HF : Hid (Fr [] w W3) := (H.out.f.alloc _).trans0 hf
     have HS2 : Hid (w.heap.size ≤ W2.heap.size) := H.out.f.size
     clear hv hf c2
     go_wp2_with fail
     refine bodyPost_ret (results_tmp2 rfl _ _ _) rfl ?_
     rw [HX2.out]
     exact ⟨_, _, rfl, ownsRow_nil _ _ _ _, HV.out.base (by have := HS2.out; simp; omega), HF.out⟩
    ·have h512' : ((l.length : Int) == 512) = false := beq_eq_false_iff_ne.2 (by omega)
     have hl511 : l.length < 512 := by omega
     have HX2 : Hid (R = Lex.scanFrom s (Lex.skipTo (bn s) s.size (max m (k + 1))) (l ++ [⟨tk, tss, tn, tp⟩])) := by show _ = _; rw [HX.out, if_neg h512]
     go_wp2_with fail
     obtain ⟨gt, hgt⟩ : ∃ gt, W2.heap.size = gt := ⟨_, rfl⟩
     have hne9 : (Value.slice lp l.length lc).ownBlock ≠ some gt := by
      rcases H.out.own.2 with ⟨hv, _⟩ | ⟨g, cap, cur, hv, _, hg, _⟩
      ·rw [hv]; simp [Value.ownBlock]
      ·rw [hv]; have := row_lt hg; simp [Value.ownBlock]; omega
     have hsn := own_ne_sc H.out
     refine wp_fresh (fun V => SS w b s m (.slice lp l.length lc) l V ∧ V.heap[gt]? = some (.cells #[.int .i64 (tk : Nat), .string tss, .int .i64 tn, .int .i64 (tp : Nat)] 54 (0, 0))) ⟨H.out.fr ((Fr.refl _ _).alloc _), by rw [← hgt]; exact heap_alloc_last _ _⟩ ?_
     rintro V ⟨h1, h2⟩
     rw [hgt]
     have H := Lib.hid h1
     have HT := Lib.hid h2
     have hbg : b ≠ gt := by omega
     have hgb : gt ≠ b := by omega
     have HNE := Lib.hid hne9
     have HSN := Lib.hid hsn
     clear h1 h2 c2 hbl hbn hbn2 hgt hne9 hsn h512'
     have c2 := H.out.sc.c2
     have hbl : b < V.heap.size := H.out.sc.lt
     have hgl : gt < V.heap.size := row_lt HT.out
     have t0 : V.cell? ⟨gt, 0, none⟩ = some (.int .i64 (tk : Nat)) := by rw [Lib.cell_of_heap HT.out]; rfl
     have t1 : V.cell? ⟨gt, 1, none⟩ = some (.string tss) := by rw [Lib.cell_of_heap HT.out]; rfl
     have t2 : V.cell? ⟨gt, 2, none⟩ = some (.int .i64 tn) := by rw [Lib.cell_of_heap HT.out]; rfl
     have t3 : V.cell? ⟨gt, 3, none⟩ = some (.int .i64 (tp : Nat)) := by rw [Lib.cell_of_heap HT.out]; rfl
     have hl10 : l.length < 1000000 := by omega
     go_wp2_with fail
     refine wp_region_held_drew (S := fun W' => W'.cell? ⟨gt, 0, none⟩ = some (.int .i64 (tk : Nat)) ∧ W'.cell? ⟨gt, 1, none⟩ = some (.string tss) ∧ W'.cell? ⟨gt, 2, none⟩ = some (.int .i64 tn) ∧ W'.cell? ⟨gt, 3, none⟩ = some (.int .i64 (tp : Nat))) (by kernel_rfl) (by first | go_keep | exact ⟨hg.cell t0 HNE.out.symm, hg.cell t1 HNE.out.symm, hg.cell t2 HNE.out.symm, hg.cell t3 HNE.out.symm⟩ | ((try dsimp only); (repeat' apply And.intro) <;> go_keep)) (fun hHeld => ?_)
     refine held_take (i := 0) (v := ?_) 46 rfl rfl (by kernel_rfl) (by kernel_rfl) (by kernel_rfl) (fun _ _ _ h => h) (Or.inl ⟨by rfl, ?_⟩) (by assumption) ?_
     rotate_left 1
     ·intro w hSw; (try dsimp only at hSw); go_simp; try (with_reducible rfl)
     try simp only [Act.put, List.setIfInBounds_toArray, List.set_cons_zero, List.set_cons_succ]
     refine held_take (i := 1) (v := ?_) 47 rfl rfl (by kernel_rfl) (by kernel_rfl) (by kernel_rfl) (fun _ _ _ h => h) (Or.inl ⟨by rfl, ?_⟩) (by assumption) ?_
     rotate_left 1
     ·intro w hSw; (try dsimp only at hSw); go_simp; try (with_reducible rfl)
     try simp only [Act.put, List.setIfInBounds_toArray, List.set_cons_zero, List.set_cons_succ]
     refine held_take (i := 2) (v := ?_) 48 rfl rfl (by kernel_rfl) (by kernel_rfl) (by kernel_rfl) (fun _ _ _ h => h) (Or.inl ⟨by rfl, ?_⟩) (by assumption) ?_
     rotate_left 1
     ·intro w hSw; (try dsimp only at hSw); go_simp; try (with_reducible rfl)
     try simp only [Act.put, List.setIfInBounds_toArray, List.set_cons_zero, List.set_cons_succ]
     refine held_take (i := 3) (v := ?_) 49 rfl rfl (by kernel_rfl) (by kernel_rfl) (by kernel_rfl) (fun _ _ _ h => h) (Or.inl ⟨by rfl, ?_⟩) (by assumption) ?_
     rotate_left 1
     ·intro w hSw; (try dsimp only at hSw); go_simp; try (with_reducible rfl)
     try simp only [Act.put, List.setIfInBounds_toArray, List.set_cons_zero, List.set_cons_succ]
     refine held_take (i := 5) (v := ?_) 51 rfl rfl (by kernel_rfl) (by kernel_rfl) (by kernel_rfl) (fun _ _ _ h => h) (Or.inl ⟨by rfl, ?_⟩) (by assumption) ?_
     rotate_left 1
     ·intro w hSw; (try dsimp only at hSw); go_simp; try (with_reducible rfl)
     try simp only [Act.put, List.setIfInBounds_toArray, List.set_cons_zero, List.set_cons_succ]
     refine wpAnyH_ready (rs := [4, 6]) (by kernel_rfl) (by simp) ?_
     refine AllReadyH.cons rfl (fun K hK => ?_) (AllReadyH.cons rfl (fun K hK => ?_) AllReadyH.nil)
     go_simp
     refine hK.out _ _ (by first | go_keep | exact ⟨hg.cell t0 HNE.out.symm, hg.cell t1 HNE.out.symm, hg.cell t2 HNE.out.symm, hg.cell t3 HNE.out.symm⟩ | ((try dsimp only); (repeat' apply And.intro) <;> go_keep)) (fun hHeld => ?_)
     clear hK K
     try simp only [Act.put, List.setIfInBounds_toArray, List.set_cons_zero, List.set_cons_succ]
     refine wpAnyH_ready (rs := [6]) (by kernel_rfl) (by simp) ?_
     refine AllReadyH.cons rfl (fun K hK => ?_) AllReadyH.nil
     go_simp
     refine hK.out _ _ (by first | go_keep | exact ⟨hg.cell t0 HNE.out.symm, hg.cell t1 HNE.out.symm, hg.cell t2 HNE.out.symm, hg.cell t3 HNE.out.symm⟩ | ((try dsimp only); (repeat' apply And.intro) <;> go_keep)) (fun hHeld => ?_)
     clear hK K
     try simp only [Act.put, List.setIfInBounds_toArray, List.set_cons_zero, List.set_cons_succ]
     refine wpAnyH_ready (rs := [7]) (by kernel_rfl) (by simp) ?_
     refine AllReadyH.cons rfl (fun K hK => ?_) AllReadyH.nil
     refine stepTok (by rfl) (.tmp 50) (.tmp 52) (by rfl) w.heap.size (.slice lp l.length lc) l ⟨tk, tss, tn, tp⟩ (w := V) (by rfl) (by rfl) (by rfl) H.out.own H.out.f.size hl10 ?_
     intro g9 c9 w9 ho hg
     have q2 := hg.cell c2 HSN.out.symm
     have s0 := hg.cell t0 HNE.out.symm
     have s1 := hg.cell t1 HNE.out.symm
     have s2 := hg.cell t2 HNE.out.symm
     have s3 := hg.cell t3 HNE.out.symm
     have fz : w9.frozen? ⟨b, 2, none⟩ = false := (World.frozen?_of_block (w := V) (a := ⟨b, 2, none⟩) (hg.block b hbl HSN.out.symm)).trans (H.out.sc.fz 2)
     refine hK.out _ _ (by first | go_keep | exact ⟨hg.cell t0 HNE.out.symm, hg.cell t1 HNE.out.symm, hg.cell t2 HNE.out.symm, hg.cell t3 HNE.out.symm⟩ | ((try dsimp only); (repeat' apply And.intro) <;> go_keep)) (fun hHeld => ?_)
     clear hK K
     try simp only [Act.put, List.setIfInBounds_toArray, List.set_cons_zero, List.set_cons_succ]
     refine held_take (i := 8) (v := ?_) 54 rfl rfl (by kernel_rfl) (by kernel_rfl) (by kernel_rfl) (fun _ _ _ h => h) (Or.inl ⟨by rfl, ?_⟩) (by assumption) ?_
     rotate_left 1
     ·intro w hSw; (try dsimp only at hSw); go_simp; try (with_reducible rfl)
     try simp only [Act.put, List.setIfInBounds_toArray, List.set_cons_zero, List.set_cons_succ]
     refine held_take (i := 9) (v := ?_) 55 rfl rfl (by kernel_rfl) (by kernel_rfl) (by kernel_rfl) (fun _ _ _ h => h) (Or.inl ⟨by rfl, ?_⟩) (by assumption) ?_
     rotate_left 1
     ·intro w hSw; (try dsimp only at hSw); go_simp; try (with_reducible rfl)
     try simp only [Act.put, List.setIfInBounds_toArray, List.set_cons_zero, List.set_cons_succ]
     refine wpAnyH_ready (rs := [10]) (by kernel_rfl) (by simp) ?_
     refine AllReadyH.cons rfl (fun K hK => ?_) AllReadyH.nil
     go_simp
     refine hK.out _ _ (by first | go_keep | exact ⟨hg.cell t0 HNE.out.symm, hg.cell t1 HNE.out.symm, hg.cell t2 HNE.out.symm, hg.cell t3 HNE.out.symm⟩ | ((try dsimp only); (repeat' apply And.intro) <;> go_keep)) (fun hHeld => ?_)
     clear hK K
     try simp only [Act.put, List.setIfInBounds_toArray, List.set_cons_zero, List.set_cons_succ]
     refine wpAnyH_done (by kernel_rfl) ?_ _
     rotate_left 1
     go_simp
     refine hK.out _ _ (by first | go_keep | exact ⟨hg.cell t0 HNE.out.symm, hg.cell t1 HNE.out.symm, hg.cell t2 HNE.out.symm, hg.cell t3 HNE.out.symm⟩ | ((try dsimp only); (repeat' apply And.intro) <;> go_keep)) (fun hHeld => ?_)
     clear hK K
     try simp only [Act.put, List.setIfInBounds_toArray, List.set_cons_zero, List.set_cons_succ]
     refine wpAnyH_ready (rs := [4]) (by kernel_rfl) (by simp) ?_
     refine AllReadyH.cons rfl (fun K hK => ?_) AllReadyH.nil
     go_simp
     refine hK.out _ _ (by first | go_keep | exact ⟨hg.cell t0 HNE.out.symm, hg.cell t1 HNE.out.symm, hg.cell t2 HNE.out.symm, hg.cell t3 HNE.out.symm⟩ | ((try dsimp only); (repeat' apply And.intro) <;> go_keep)) (fun hHeld => ?_)
     clear hK K
     try simp only [Act.put, List.setIfInBounds_toArray, List.set_cons_zero, List.set_cons_succ]
     refine wpAnyH_ready (rs := [7]) (by kernel_rfl) (by simp) ?_
     refine AllReadyH.cons rfl (fun K hK => ?_) AllReadyH.nil
     refine stepTok (by rfl) (.tmp 50) (.tmp 52) (by rfl) w.heap.size (.slice lp l.length lc) l ⟨tk, tss, tn, tp⟩ (w := V) (by rfl) (by rfl) (by rfl) H.out.own H.out.f.size hl10 ?_
     intro g9 c9 w9 ho hg
     have q2 := hg.cell c2 HSN.out.symm
     have s0 := hg.cell t0 HNE.out.symm
     have s1 := hg.cell t1 HNE.out.symm
     have s2 := hg.cell t2 HNE.out.symm
     have s3 := hg.cell t3 HNE.out.symm
     have fz : w9.frozen? ⟨b, 2, none⟩ = false := (World.frozen?_of_block (w := V) (a := ⟨b, 2, none⟩) (hg.block b hbl HSN.out.symm)).trans (H.out.sc.fz 2)
     refine hK.out _ _ (by first | go_keep | exact ⟨hg.cell t0 HNE.out.symm, hg.cell t1 HNE.out.symm, hg.cell t2 HNE.out.symm, hg.cell t3 HNE.out.symm⟩ | ((try dsimp only); (repeat' apply And.intro) <;> go_keep)) (fun hHeld => ?_)
     clear hK K
     try simp only [Act.put, List.setIfInBounds_toArray, List.set_cons_zero, List.set_cons_succ]
     refine held_take (i := 8) (v := ?_) 54 rfl rfl (by kernel_rfl) (by kernel_rfl) (by kernel_rfl) (fun _ _ _ h => h) (Or.inl ⟨by rfl, ?_⟩) (by assumption) ?_
     rotate_left 1
     ·intro w hSw; (try dsimp only at hSw); go_simp; try (with_reducible rfl)
     try simp only [Act.put, List.setIfInBounds_toArray, List.set_cons_zero, List.set_cons_succ]
     refine held_take (i := 9) (v := ?_) 55 rfl rfl (by kernel_rfl) (by kernel_rfl) (by kernel_rfl) (fun _ _ _ h => h) (Or.inl ⟨by rfl, ?_⟩) (by assumption) ?_
     rotate_left 1
     ·intro w hSw; (try dsimp only at hSw); go_simp; try (with_reducible rfl)
     try simp only [Act.put, List.setIfInBounds_toArray, List.set_cons_zero, List.set_cons_succ]
     refine wpAnyH_ready (rs := [10]) (by kernel_rfl) (by simp) ?_
     refine AllReadyH.cons rfl (fun K hK => ?_) AllReadyH.nil
     go_simp
     refine hK.out _ _ (by first | go_keep | exact ⟨hg.cell t0 HNE.out.symm, hg.cell t1 HNE.out.symm, hg.cell t2 HNE.out.symm, hg.cell t3 HNE.out.symm⟩ | ((try dsimp only); (repeat' apply And.intro) <;> go_keep)) (fun hHeld => ?_)
     clear hK K
     try simp only [Act.put, List.setIfInBounds_toArray, List.set_cons_zero, List.set_cons_succ]
     refine wpAnyH_done (by kernel_rfl) ?_ _
     rotate_left 1
     all_goals
      have HN := Lib.hid (H.out.grow ho hg)
      have hsc9 := HN.out.sc
      have hmk : Hid (max m (k + 1) = m) := by show _ = _; omega
      have hms : m ≤ s.size := hbd.2
      clear ho hg q2 s0 s1 s2 s3 fz t0 t1 t2 t3 c2
      go_wp2_with fail
      refine (lex_skip _ b s m _ hs2 hms hsc9).mono ?_
      rintro e W5 ⟨rfl, hsc5, hf5⟩
      have H5 := Lib.hid (HN.out.step hf5 hsc5)
      clear hsc5 hf5 hsc9
      go_wp2_with fail
      have hsk := Lex.skipTo_self (bn s) s.size m
      go_roundg (s.size - Lex.skipTo (bn s) s.size m)
      case measure => have := HQ.out; omega
      case rel => exact ⟨_, _, _, (Lex.skipTo_ge _ _ _ hms).2, rfl, by show _ = R; rw [HX2.out, hmk.out], H5, by show _ ≤ 512; simp; omega⟩
  ·have hlt' : ¬ (k : Int) < (s.size : Int) := by omega
   have c2 := H.out.sc.c2
   have HX : Hid (R = (.ok, l ++ [⟨5, ⟨#[]⟩, 0, s.size⟩])) := by show _ = _; rw [← HE.out, Lex.scanFrom, if_neg hlt]
   have hl9 : l.length < 1000000 := by have := HLL.out; omega
   go_wp2_with (at_builtin; refine appTok rfl (.tmp 59) (.tmp 63) rfl w.heap.size lv l ⟨5, ⟨#[]⟩, 0, s.size⟩ _ rfl rfl rfl H.out.own H.out.f.size hl9 ?_)
   intro g9 c9 w9 ho hg
   have HO := Lib.hid ho
   have HF : Hid (Fr [] w w9) := H.out.f.grown2 hg (own_base_ge H.out.own)
   clear ho hg c2 c1
   go_wp2_with fail
   refine bodyPost_ret (results_tmp2 rfl _ _ _) rfl ?_
   rw [HX.out]
   exact ⟨_, _, rfl, (by have := HO.out; simpa using this), rfl, HF.out⟩
end Go.Proofs.YtgklmpooonnmiaaGreatDoor

namespace Go.Proofs.YtgklmpooonnmiaaGreatDoor
open Go.RowKit
structure Tk2 (w : World) (r g o c : Nat) (l : List TI) (nest : Nat) (t : TI) (b : Nat) (rs : Array Value) (W : World) : Prop where
 rd : Rd W r g o c l nest
 res : W.heap[b]? = some (.cells rs 42 (0, 0))
 tok : W.heap[b + 1]? = some (.cells #[.int .i64 t.k, .string t.s, .int .i64 t.n, .int .i64 t.p] 54 (0, 0))
 f : Fr [r] w W
 rl : r < w.heap.size
 gl : g < w.heap.size
 bw : b = w.heap.size
theorem Tk2.step {w : World} {r g o c : Nat} {l : List TI} {nest : Nat} {t : TI} {b : Nat} {rs : Array Value} {W W' : World} {o' c' : Nat} {l' : List TI} {nest' : Nat} (h : Tk2 w r g o c l nest t b rs W) (hf : Fr [r] W W') (hr : Rd W' r g o' c' l' nest') : Tk2 w r g o' c' l' nest' t b rs W' := by
 have h1 := h.rl; have h2 := h.bw
 exact ⟨hr, hf.row h.res (by simp; omega), hf.row h.tok (by simp; omega), h.f.trans hf (fun y hy => .inl hy), h1, h.gl, h2⟩
theorem Tk2.fr {w : World} {r g o c : Nat} {l : List TI} {nest : Nat} {t : TI} {b : Nat} {rs : Array Value} {W W' : World} (h : Tk2 w r g o c l nest t b rs W) (hf : Fr [] W W') : Tk2 w r g o c l nest t b rs W' :=
 ⟨h.rd.fr hf (by simp) (by simp), hf.row h.res (by simp), hf.row h.tok (by simp), h.f.trans0 hf, h.rl, h.gl, h.bw⟩
theorem Tk2.setr {w : World} {r g o c : Nat} {l : List TI} {nest : Nat} {t : TI} {b : Nat} {rs : Array Value} {W : World} (h : Tk2 w r g o c l nest t b rs W) (i : Nat) (u : Value) : Tk2 w r g o c l nest t b (rs.setIfInBounds i u) (W.setCell ⟨b, i, none⟩ u) := by
 have h1 := h.rl; have h2 := h.bw; have h3 := h.gl
 have hf : Fr [b] W (W.setCell ⟨b, i, none⟩ u) := (Fr.refl _ _).setCell (p := ⟨b, i, none⟩) (.inl (by simp)) _
 exact ⟨h.rd.fr hf (by simp; omega) (by simp; omega), heap_set_row h.res i u, hf.row h.tok (by simp), h.f.setCell (p := ⟨b, i, none⟩) (.inr (by show _ ≤ b; omega)) _, h1, h3, h2⟩
theorem Tk2.cut {w : World} {r g o c : Nat} {l : List TI} {nest : Nat} {t u : TI} {b : Nat} {rs : Array Value} {W : World} (h : Tk2 w r g o c (u :: l) nest t b rs W) : Tk2 w r g (o + 4) (c - 1) l nest t b rs (W.setCell ⟨r, 0, none⟩ (.slice (some ⟨g, o + 4, none⟩) l.length (c - 1))) :=
 h.step ((Fr.refl [r] W).setCell (p := ⟨r, 0, none⟩) (.inl (by simp)) _) h.rd.cut
theorem Tk2.less {w : World} {r g o c : Nat} {l : List TI} {nest : Nat} {t : TI} {b : Nat} {rs : Array Value} {W : World} (h : Tk2 w r g o c l (nest + 1) t b rs W) : Tk2 w r g o c l nest t b rs (W.setCell ⟨r, 1, none⟩ (.int .i64 (nest : Int))) :=
 h.step ((Fr.refl [r] W).setCell (p := ⟨r, 1, none⟩) (.inl (by simp)) _) h.rd.less
def NotEnd (w : World) (r g : Nat) (m : List TI) (nest : Nat) (t : TI) (b be : Nat) (x : Ex) (U : World) : Prop :=
 ∃ o c rb, Tk2 w r g o c m (nest + 1) t b z5 U ∧ U.heap[be]? = some (.cells #[.int .i64 6, .string ⟨#[]⟩, .int .i64 0, .slice (some ⟨rb, 0, none⟩) 1 1, .int .i64 t.p] 42 (0, 0)) ∧ b + 1 < be ∧
  Rep U (fun g => w.heap.size ≤ g ∧ g ≠ b ∧ g ≠ be ∧ g ≠ r) [.int .i64 6, .string ⟨#[]⟩, .int .i64 0, .slice (some ⟨rb, 0, none⟩) 1 1, .int .i64 t.p] (.mk 6 Pol.none_ 0 [x] t.p)
theorem fr_five (W : World) (bs : List Nat) (b : Nat) (v0 v1 v2 v3 v4 : Value) (hb : b ∈ bs) : Fr bs W (((((W.setCell ⟨b, 0, none⟩ v0).setCell ⟨b, 1, none⟩ v1).setCell ⟨b, 2, none⟩ v2).setCell ⟨b, 3, none⟩ v3).setCell ⟨b, 4, none⟩ v4) :=
 (((((Fr.refl bs W).setCell (p := ⟨b, 0, none⟩) (.inl hb) v0).setCell (p := ⟨b, 1, none⟩) (.inl hb) v1).setCell (p := ⟨b, 2, none⟩) (.inl hb) v2).setCell (p := ⟨b, 3, none⟩) (.inl hb) v3).setCell (p := ⟨b, 4, none⟩) (.inl hb) v4
theorem Tk2.other {w : World} {r g o c : Nat} {l : List TI} {nest : Nat} {t : TI} {b be : Nat} {rs : Array Value} {W W' : World} (h : Tk2 w r g o c l nest t b rs W) (hf : Fr [be] W W') (hb : b + 1 < be) : Tk2 w r g o c l nest t b rs W' := by
 have h1 := h.rl; have h2 := h.bw; have h3 := h.gl
 exact ⟨h.rd.fr hf (by simp; omega) (by simp; omega), hf.row h.res (by simp; omega), hf.row h.tok (by simp; omega), h.f.trans hf (fun y hy => .inr (by simp at hy; omega)), h1, h3, h2⟩
theorem heap_five {W : World} {b : Nat} {u0 u1 u2 u3 u4 : Value} {t : TypeId} (h : W.heap[b]? = some (.cells #[u0, u1, u2, u3, u4] t (0, 0))) (v0 v1 v2 v3 v4 : Value) :
  (((((W.setCell ⟨b, 0, none⟩ v0).setCell ⟨b, 1, none⟩ v1).setCell ⟨b, 2, none⟩ v2).setCell ⟨b, 3, none⟩ v3).setCell ⟨b, 4, none⟩ v4).heap[b]? = some (.cells #[v0, v1, v2, v3, v4] t (0, 0)) :=
 heap_set_row (heap_set_row (heap_set_row (heap_set_row (heap_set_row h 0 v0) 1 v1) 2 v2) 3 v3) 4 v4
theorem not_end {w : World} {r g o c : Nat} {m : List TI} {nest : Nat} {t : TI} {b be rb : Nat} {x : Ex} {cs : List Value} {U : World} (hT : Tk2 w r g o c m (nest + 1) t b z5 U) (he : U.heap[be]? = some (.cells z5 42 (0, 0))) (hb : b + 1 < be)
  (hr : U.heap[rb]? = some (.cells cs.toArray 42 (0, 0))) (hrb : b + 1 < rb) (hne : rb ≠ be) (hx : Rep U (fun g => w.heap.size ≤ g ∧ g ≠ be ∧ g ≠ b) cs x) :
  NotEnd w r g m nest t b be x (((((U.setCell ⟨be, 0, none⟩ (.int .i64 6)).setCell ⟨be, 1, none⟩ (.string ⟨#[]⟩)).setCell ⟨be, 2, none⟩ (.int .i64 0)).setCell ⟨be, 3, none⟩ (.slice (some ⟨rb, 0, none⟩) 1 1)).setCell ⟨be, 4, none⟩ (.int .i64 t.p)) := by
 have hf := fr_five U [be] be (.int .i64 6) (.string ⟨#[]⟩) (.int .i64 0) (.slice (some ⟨rb, 0, none⟩) 1 1) (.int .i64 t.p) (by simp)
 have h1 := hT.rl; have h2 := hT.bw
 have hx' := hx.fr hf (fun y hy _ => by simp only [List.mem_singleton] at hy; rw [hy]; simp)
 refine ⟨o, c, rb, hT.other hf hb, heap_five he _ _ _ _ _, hb, ?_⟩
 refine Rep.of_row 6 ⟨#[]⟩ 0 t.p [x] [cs] rb ⟨by omega, by omega, hne, by omega⟩ 42 1 rfl ?_ (Nat.le_refl _) (by decide) ?_
 ·rw [show [cs].flatten = cs by simp]; exact hf.row hr (by simpa using hne)
 ·intro i y cs' hi hc
  have h0 : i = 0 := by have := (List.getElem?_eq_some_iff.1 hi).1; simp at this; exact this
  subst h0
  simp at hi hc
  subst hi hc
  exact hx'.mono (fun g _ h => ⟨h.1, h.2.2, h.2.1, by omega⟩)
theorem wpAnyH_fresh {P : Program} {md : Region.Mode} {ops : Array Oper} {Q : Exit → Act → World → Prop} {T : World → Prop} {fuel : Nat} {listed : Array Bool} {a : Act} {w : World} (S : World → Prop) (hS : S w) (h : ∀ w, S w → wpAnyH P md ops Q T fuel listed a w) : wpAnyH P md ops Q T fuel listed a w := h w hS
def Pol.notOf (p : Int) : Pol.PR Ex → Pol.PR Ex
 | .error e => .error e
 | .ok (x, m) => .ok (.mk 6 Pol.none_ 0 [x] p, m)
theorem alloc2 (w : World) (a b : Obj) : ((w.alloc a).alloc b).heap[w.heap.size]? = some a ∧ ((w.alloc a).alloc b).heap[w.heap.size + 1]? = some b := by
 have e1 : (w.alloc a).heap.size = w.heap.size + 1 := by simp
 refine ⟨?_, ?_⟩
 ·rw [Below.heap_alloc _ _ _ (by rw [e1]; omega)]; exact heap_alloc_last _ _
 ·rw [← e1]; exact heap_alloc_last _ _
set_option maxHeartbeats 2000000 in
set_option maxRecDepth 100000 in
theorem not_no (q : Pol.PR Ex) (w : World) (r g o c : Nat) (t : TI) (l : List TI) (nest : Nat) (h : Rd w r g o c (t :: l) nest) (hr : r < w.heap.size) (hp : Pol.is (t :: l) 1 [110, 111, 116] = false)
  (hC : ∀ W o c, Rd W r g o c (t :: l) nest → r < W.heap.size → Calls Tryz.prog 99 #[.pointer (some ⟨r, 0, none⟩)] W (Done r g nest W q)) :
  Calls Tryz.prog 94 #[.pointer (some ⟨r, 0, none⟩)] w (Done r g nest w q) := by
 have HC := Lib.hid hC
 have HP0 := Lib.hid hp
 clear hp hC
 have hR := Lib.hid h
 obtain ⟨a0, a1, a2, a3⟩ := h.tk 0 t rfl
 have c0 := h.c0
 have hlc := h.lc
 have hm := h.cm
 have hg := h.gl
 have hne := h.ne
 rw [List.length_cons] at c0 hlc
 unfold maxLen at hm
 simp only [Nat.mul_zero, Nat.add_zero] at a0 a1 a2 a3
 clear h
 obtain ⟨tk, ts, tn, tp⟩ := t
 go_enter Tryz.func94, Tryz.ntmps94
 go_wp2_with fail
 refine calls_fresh (fun W => Tk2 w r g o c (⟨tk, ts, tn, tp⟩ :: l) nest ⟨tk, ts, tn, tp⟩ w.heap.size z5 W) ?_ ?_
 ·have hF : Fr [] w ((w.alloc (.cells z5 42)).alloc (.cells #[.int .i64 tk, .string ts, .int .i64 tn, .int .i64 tp] 54)) := ((Fr.refl _ _).alloc _).alloc _
  exact ⟨hR.out.fr hF List.not_mem_nil List.not_mem_nil, (alloc2 _ _ _).1, (alloc2 _ _ _).2, hF.sub, hr, hg, rfl⟩
 intro W h1
 clear a0 a1 a2 a3 c0 hlc hR hm
 obtain ⟨b, hb⟩ : ∃ b, w.heap.size = b := ⟨_, rfl⟩
 rw [hb] at h1 ⊢
 have H := Lib.hid h1
 have HB := Lib.hid hb
 have hrb : r < b := by omega
 have hgb : g < b := by omega
 clear h1 hb
 have HN := Lib.hid (rd_next_is W r g o c ⟨_, ts, tn, tp⟩ l nest 1 ⟨#[110, 111, 116]⟩ false H.out.rd HP0.out)
 go_wp2_with fail
 refine HN.out.mono ?_
 rintro e w1 ⟨rfl, rfl⟩
 clear HN
 have hr2 : r < W.heap.size := Nat.lt_of_lt_of_le hr H.out.f.size
 have HN := Lib.hid (HC.out W _ _ H.out.rd hr2)
 have hbW : b < W.heap.size := row_lt H.out.res
 go_wp2_with fail
 refine HN.out.mono ?_
 intro e W3 hd
 obtain ⟨qq, hq⟩ : ∃ qq, q = qq := ⟨_, rfl⟩
 rw [hq] at hd
 have HP := Lib.hid hq
 clear hq
 cases qq with
 | error pe =>
  obtain ⟨pp, pn⟩ := pe
  have hs : Stops [r] W pp pn e W3 := hd
  obtain ⟨b9, hb9, rfl, hrow9, hf9⟩ := hs.from (bs := [r]) H.out.f (fun y hy => .inl (by simpa using hy))
  show _
  exact ⟨rfl, by rw [HP.out]; exact Done.stop ⟨b9, hb9, rfl, hrow9, hf9⟩⟩
 | ok xm =>
  obtain ⟨x, m⟩ := xm
  obtain ⟨cs, rfl, hrep, hf3, o3, c3, hr3⟩ := hd
  obtain ⟨op, s9, n9, q9, k9, c9, p9, rfl⟩ := hrep.form
  have H := Lib.hid (H.out.step hf3 hr3)
  have hrb2 : W.heap.size ≤ W3.heap.size := hf3.size
  have HREP5 : Hid (Rep _ _ _ _) := Rep.fr (fr_five W3 [b] b (.int .i64 op) (.string s9) (.int .i64 n9) (.slice q9 k9 c9) (.int .i64 p9) (by simp)) (fun y hy _ => by simp only [List.mem_singleton] at hy; rw [hy]; show ¬ W.heap.size ≤ b; omega) hrep
  clear hf3 hr3 hrep HN
  have zf : ∀ i, W3.frozen? ⟨b, i, none⟩ = false := fun i => Lib.frozen_of_heap H.out.res i
  have z0 : W3.cell? ⟨b, 0, none⟩ = some (.int .i64 0) := by rw [Lib.cell_of_heap H.out.res]; rfl
  have z1 : W3.cell? ⟨b, 1, none⟩ = some (.string ⟨#[]⟩) := by rw [Lib.cell_of_heap H.out.res]; rfl
  have z2 : W3.cell? ⟨b, 2, none⟩ = some (.int .i64 0) := by rw [Lib.cell_of_heap H.out.res]; rfl
  have z3 : W3.cell? ⟨b, 3, none⟩ = some (.slice none 0 0) := by rw [Lib.cell_of_heap H.out.res]; rfl
  have z4 : W3.cell? ⟨b, 4, none⟩ = some (.int .i64 0) := by rw [Lib.cell_of_heap H.out.res]; rfl
  have HT := Lib.hid (((((H.out.setr 0 (.int .i64 op)).setr 1 (.string s9)).setr 2 (.int .i64 n9)).setr 3 (.slice q9 k9 c9)).setr 4 (.int .i64 p9))
  go_wp2_with fail
  refine bodyPost_ret (v := .agg #[.int .i64 op, .string s9, .int .i64 n9, .slice q9 k9 c9, .int .i64 p9]) (results_cell_row rfl _ _ b _ _ (0, 0) _ rfl HT.out.res Tryz.underlying42 rfl (by kernel_rfl)) rfl ?_
  rw [HP.out]
  exact Done.ok rfl (HREP5.out.mono (fun g _ h => by have := HB.out; have h : W.heap.size ≤ g := h; omega)) HT.out.f HT.out.rd
set_option maxHeartbeats 2000000 in
set_option maxRecDepth 100000 in
theorem not_deep (w : World) (r g o c : Nat) (t : TI) (l : List TI) (nest : Nat) (h : Rd w r g o c (t :: l) nest) (hr : r < w.heap.size) (hp : Pol.is (t :: l) 1 [110, 111, 116] = true) (hn : ¬ nest < 12) (h12 : nest ≤ 12) :
  Calls Tryz.prog 94 #[.pointer (some ⟨r, 0, none⟩)] w (Done r g nest w (.error (t.p, 121))) := by
 have HP0 := Lib.hid hp
 have HN2 := Lib.hid hn
 clear hp hn
 have hR := Lib.hid h
 obtain ⟨a0, a1, a2, a3⟩ := h.tk 0 t rfl
 have c0 := h.c0
 have hlc := h.lc
 have hm := h.cm
 have hg := h.gl
 have hne := h.ne
 rw [List.length_cons] at c0 hlc
 unfold maxLen at hm
 simp only [Nat.mul_zero, Nat.add_zero] at a0 a1 a2 a3
 clear h
 obtain ⟨tk, ts, tn, tp⟩ := t
 go_enter Tryz.func94, Tryz.ntmps94
 go_wp2_with fail
 refine calls_fresh (fun W => Tk2 w r g o c (⟨tk, ts, tn, tp⟩ :: l) nest ⟨tk, ts, tn, tp⟩ w.heap.size z5 W) ?_ ?_
 ·have hF : Fr [] w ((w.alloc (.cells z5 42)).alloc (.cells #[.int .i64 tk, .string ts, .int .i64 tn, .int .i64 tp] 54)) := ((Fr.refl _ _).alloc _).alloc _
  exact ⟨hR.out.fr hF List.not_mem_nil List.not_mem_nil, (alloc2 _ _ _).1, (alloc2 _ _ _).2, hF.sub, hr, hg, rfl⟩
 intro W h1
 clear a0 a1 a2 a3 c0 hlc hR hm
 obtain ⟨b, hb⟩ : ∃ b, w.heap.size = b := ⟨_, rfl⟩
 rw [hb] at h1 ⊢
 have H := Lib.hid h1
 have HB := Lib.hid hb
 have hrb : r < b := by omega
 have hgb : g < b := by omega
 clear h1 hb
 have HN := Lib.hid (rd_next_is W r g o c ⟨_, ts, tn, tp⟩ l nest 1 ⟨#[110, 111, 116]⟩ true H.out.rd HP0.out)
 go_wp2_with fail
 refine HN.out.mono ?_
 rintro e w1 ⟨rfl, rfl⟩
 clear HN
 have HN := Lib.hid (rd_deeper_no W r g o c _ l nest H.out.rd HN2.out h12)
 go_wp2_with fail
 refine HN.out.mono ?_
 intro e w1 hs
 have HP : Hid (True = True) := rfl
 obtain ⟨b9, hb9, rfl, hrow9, hf9⟩ := hs.from (bs := [r]) H.out.f (fun y hy => .inl (by simpa using hy))
 show _
 exact ⟨rfl, Done.stop ⟨b9, hb9, rfl, hrow9, hf9⟩⟩
set_option maxHeartbeats 2000000 in
set_option maxRecDepth 100000 in
theorem not_yes (q : Pol.PR Ex) (w : World) (r g o c : Nat) (t : TI) (l : List TI) (nest : Nat) (h : Rd w r g o c (t :: l) nest) (hr : r < w.heap.size) (hE : Ends l) (hp : Pol.is (t :: l) 1 [110, 111, 116] = true) (hn : nest < 12)
  (hC : ∀ W o c, Rd W r g o c l (nest + 1) → r < W.heap.size → Calls Tryz.prog 94 #[.pointer (some ⟨r, 0, none⟩)] W (Done r g (nest + 1) W q)) :
  Calls Tryz.prog 94 #[.pointer (some ⟨r, 0, none⟩)] w (Done r g nest w (Pol.notOf t.p q)) := by
 have HC := Lib.hid hC
 have HP0 := Lib.hid hp
 have hl := hE.pos
 have HN2 := Lib.hid hn
 clear hp hE hC
 have hR := Lib.hid h
 obtain ⟨a0, a1, a2, a3⟩ := h.tk 0 t rfl
 have c0 := h.c0
 have hlc := h.lc
 have hm := h.cm
 have hg := h.gl
 have hne := h.ne
 rw [List.length_cons] at c0 hlc
 unfold maxLen at hm
 simp only [Nat.mul_zero, Nat.add_zero] at a0 a1 a2 a3
 clear h
 obtain ⟨tk, ts, tn, tp⟩ := t
 go_enter Tryz.func94, Tryz.ntmps94
 go_wp2_with fail
 refine calls_fresh (fun W => Tk2 w r g o c (⟨tk, ts, tn, tp⟩ :: l) nest ⟨tk, ts, tn, tp⟩ w.heap.size z5 W) ?_ ?_
 ·have hF : Fr [] w ((w.alloc (.cells z5 42)).alloc (.cells #[.int .i64 tk, .string ts, .int .i64 tn, .int .i64 tp] 54)) := ((Fr.refl _ _).alloc _).alloc _
  exact ⟨hR.out.fr hF List.not_mem_nil List.not_mem_nil, (alloc2 _ _ _).1, (alloc2 _ _ _).2, hF.sub, hr, hg, rfl⟩
 intro W h1
 clear a0 a1 a2 a3 c0 hlc hR hm
 obtain ⟨b, hb⟩ : ∃ b, w.heap.size = b := ⟨_, rfl⟩
 rw [hb] at h1 ⊢
 have H := Lib.hid h1
 have HB := Lib.hid hb
 have hrb : r < b := by omega
 have hgb : g < b := by omega
 clear h1 hb
 have HN := Lib.hid (rd_next_is W r g o c ⟨_, ts, tn, tp⟩ l nest 1 ⟨#[110, 111, 116]⟩ true H.out.rd HP0.out)
 go_wp2_with fail
 refine HN.out.mono ?_
 rintro e w1 ⟨rfl, rfl⟩
 clear HN
 have HN := Lib.hid (rd_deeper_yes W r g o c _ l nest H.out.rd HN2.out)
 go_wp2_with fail
 refine HN.out.mono ?_
 rintro e W1 ⟨rfl, hf1, hr1⟩
 have H := Lib.hid (H.out.step hf1 hr1)
 clear HN hf1 hr1
 have c0 := H.out.rd.c0
 have f0 := frozen_of_row _ _ 0 _ _ H.out.rd.row
 have hlc := H.out.rd.lc
 have hm := H.out.rd.cm
 have hne := H.out.rd.ne
 rw [List.length_cons] at c0 hlc
 unfold maxLen at hm
 go_wp2_with fail
 refine wp_fresh (fun V => Tk2 w r g (o + 4) (c - 1) l (nest + 1) ⟨tk, ts, tn, tp⟩ b z5 V) H.out.cut ?_
 intro V h1
 have H := Lib.hid h1
 clear h1 c0 f0 hlc hm
 have hr2 : r < V.heap.size := Nat.lt_of_lt_of_le hr H.out.f.size
 have hbV : b + 1 < V.heap.size := row_lt H.out.tok
 have kf : ∀ i, V.frozen? ⟨(b + 1), i, none⟩ = false := fun i => Lib.frozen_of_heap H.out.tok i
 have k0 : V.cell? ⟨(b + 1), 0, none⟩ = some (.int .i64 tk) := by rw [Lib.cell_of_heap H.out.tok]; rfl
 have k1 : V.cell? ⟨(b + 1), 1, none⟩ = some (.string ts) := by rw [Lib.cell_of_heap H.out.tok]; rfl
 have k2 : V.cell? ⟨(b + 1), 2, none⟩ = some (.int .i64 tn) := by rw [Lib.cell_of_heap H.out.tok]; rfl
 have k3 : V.cell? ⟨(b + 1), 3, none⟩ = some (.int .i64 tp) := by rw [Lib.cell_of_heap H.out.tok]; rfl
 have HS : Hid (∀ (U : World) o c l nest, Tk2 w r g o c l nest ⟨tk, ts, tn, tp⟩ b z5 U → U.cell? ⟨b + 1, 3, none⟩ = some (.int .i64 tp)) := fun U _ _ _ _ h => by rw [Lib.cell_of_heap h.tok]; rfl
 have HT0 : Hid (Tk2 w r g (o + 4) (c - 1) l (nest + 1) ⟨tk, ts, tn, tp⟩ b z5 V.drew) := H.out.fr (Fr.refl [] _).drew
 have HBV : Hid (b + 1 < V.heap.size) := hbV
 have HCC : Hid (∀ (U : World) o c, Tk2 w r g o c l (nest + 1) ⟨tk, ts, tn, tp⟩ b z5 U → Calls Tryz.prog 94 #[.pointer (some ⟨r, 0, none⟩)] U (Done r g (nest + 1) U q)) := fun U o c h => HC.out U o c h.rd (Nat.lt_of_lt_of_le h.rl h.f.size)
 cases q with
 | error pe =>
  obtain ⟨pp, pn⟩ := pe
  have HP : Hid (Pol.notOf tp (.error (pp, pn)) = .error (pp, pn)) := rfl
  have HX : Hid (∀ (U : World) o c, Tk2 w r g o c l (nest + 1) ⟨tk, ts, tn, tp⟩ b z5 U → Calls Tryz.prog 94 #[.pointer (some ⟨r, 0, none⟩)] U (Stops [r] w pp pn)) := fun U o c h => (HCC.out U o c h).mono (fun x W' (hs : Stops [r] U pp pn x W') => hs.from h.f (fun y hy => .inl (by simpa using hy)))
  refine wp_region_held_drew (S := (fun W' => W'.cell? ⟨b + 1, 3, none⟩ = some (.int .i64 tp))) (by kernel_rfl) (show World.cell? _ _ = _ from k3) (fun hHeld => ?_)
  refine held_take (i := 0) (v := ?_) 26 rfl rfl (by kernel_rfl) (by kernel_rfl) (by kernel_rfl) (fun _ _ _ h => h) (Or.inl ⟨by rfl, ?_⟩) (by assumption) ?_
  rotate_left 1
  ·intro w hSw; (try dsimp only at hSw); go_simp; try (with_reducible rfl)
  try simp only [Act.put, List.setIfInBounds_toArray, List.set_cons_zero, List.set_cons_succ]
  refine held_take (i := 1) (v := ?_) 27 rfl rfl (by kernel_rfl) (by kernel_rfl) (by kernel_rfl) (fun _ _ _ h => h) (Or.inl ⟨by rfl, ?_⟩) (by assumption) ?_
  rotate_left 1
  ·intro w hSw; (try dsimp only at hSw); go_simp; try (with_reducible rfl)
  try simp only [Act.put, List.setIfInBounds_toArray, List.set_cons_zero, List.set_cons_succ]
  refine held_take (i := 2) (v := ?_) 28 rfl rfl (by kernel_rfl) (by kernel_rfl) (by kernel_rfl) (fun _ _ _ h => h) (Or.inl ⟨by rfl, ?_⟩) (by assumption) ?_
  rotate_left 1
  ·intro w hSw; (try dsimp only at hSw); go_simp; try (with_reducible rfl)
  try simp only [Act.put, List.setIfInBounds_toArray, List.set_cons_zero, List.set_cons_succ]
  refine wpAnyH_ready (rs := [3, 6]) (by kernel_rfl) (by simp) ?_
  refine AllReadyH.cons rfl (fun K hK => ?_) (AllReadyH.cons rfl (fun K hK => ?_) AllReadyH.nil)
  ·go_simp
   go_at_call 94
   refine (HX.out _ _ _ HT0.out).mono ?_
   rintro e w2 ⟨b9, hb9, rfl, hrow9, hf9⟩
   show _
   exact ⟨rfl, by rw [HP.out]; exact Done.stop ⟨b9, hb9, rfl, hrow9, hf9⟩⟩
  ·have HT1 := Lib.hid (HT0.out.fr ((Fr.refl [] _).alloc (.cells z5 42)))
   go_simp
   refine hK.out _ _ (HS.out _ _ _ _ _ HT1.out) (fun hHeld => ?_)
   clear hK K
   refine wpAnyH_ready (rs := [3]) (by kernel_rfl) (by simp) ?_
   refine AllReadyH.cons rfl (fun K hK => ?_) AllReadyH.nil
   go_simp
   go_at_call 94
   refine (HX.out _ _ _ HT1.out).mono ?_
   rintro e w2 ⟨b9, hb9, rfl, hrow9, hf9⟩
   show _
   exact ⟨rfl, by rw [HP.out]; exact Done.stop ⟨b9, hb9, rfl, hrow9, hf9⟩⟩
 | ok xm =>
  obtain ⟨x, m⟩ := xm
  go_cut [4] from 26 to 31 (fun s4 wx => ∃ be, s4 = .pointer (some ⟨be, 0, none⟩) ∧ NotEnd w r g m nest ⟨tk, ts, tn, tp⟩ b be x wx)
  case rest =>
   obtain ⟨be, rfl, o9, c9, rb, hT9, hE9, hb9, hP9⟩ := hcut
   have H := Lib.hid hT9
   have HE := Lib.hid hE9
   have HB9 := Lib.hid hb9
   have hbe1 : b < be := by omega
   have hbe2 : be ≠ r := by omega
   have hbe3 : r ≠ be := by omega
   have hbe4 : b ≠ be := by omega
   have HREP5 : Hid (Rep _ _ _ _) := Rep.fr (bs := [r, b]) ((((((Fr.refl [r, b] wc).setCell (p := ⟨r, 1, none⟩) (.inl (by simp)) (.int .i64 (nest : Int))).setCell (p := ⟨b, 0, none⟩) (.inl (by simp)) (.int .i64 6)).setCell (p := ⟨b, 1, none⟩) (.inl (by simp)) (.string ⟨#[]⟩)).setCell (p := ⟨b, 2, none⟩) (.inl (by simp)) (.int .i64 0)).setCell (p := ⟨b, 3, none⟩) (.inl (by simp)) (.slice (some ⟨rb, 0, none⟩) 1 1) |>.setCell (p := ⟨b, 4, none⟩) (.inl (by simp)) (.int .i64 tp)) (fun y hy _ => by simp only [List.mem_cons, List.not_mem_nil, or_false] at hy; rcases hy with rfl | rfl <;> simp) hP9
   clear hT9 hE9 hP9 hb9 k0 k1 k2 k3 kf
   have c1 := H.out.rd.c1
   have f1 := frozen_of_row _ _ 1 _ _ H.out.rd.row
   rw [show ((nest + 1 : Nat) : Int) = (nest : Int) + 1 by omega] at c1
   have hn0 : (0 : Int) ≤ nest := by omega
   have hn12 : (nest : Int) ≤ 12 := by omega
   have ef : ∀ i, wc.frozen? ⟨(be), i, none⟩ = false := fun i => Lib.frozen_of_heap HE.out i
   have e0 : wc.cell? ⟨(be), 0, none⟩ = some (.int .i64 6) := by rw [Lib.cell_of_heap HE.out]; rfl
   have e1 : wc.cell? ⟨(be), 1, none⟩ = some (.string ⟨#[]⟩) := by rw [Lib.cell_of_heap HE.out]; rfl
   have e2 : wc.cell? ⟨(be), 2, none⟩ = some (.int .i64 0) := by rw [Lib.cell_of_heap HE.out]; rfl
   have e3 : wc.cell? ⟨(be), 3, none⟩ = some (.slice (some ⟨rb, 0, none⟩) 1 1) := by rw [Lib.cell_of_heap HE.out]; rfl
   have e4 : wc.cell? ⟨(be), 4, none⟩ = some (.int .i64 tp) := by rw [Lib.cell_of_heap HE.out]; rfl
   have zf : ∀ i, wc.frozen? ⟨b, i, none⟩ = false := fun i => Lib.frozen_of_heap H.out.res i
   have z0 : wc.cell? ⟨b, 0, none⟩ = some (.int .i64 0) := by rw [Lib.cell_of_heap H.out.res]; rfl
   have z1 : wc.cell? ⟨b, 1, none⟩ = some (.string ⟨#[]⟩) := by rw [Lib.cell_of_heap H.out.res]; rfl
   have z2 : wc.cell? ⟨b, 2, none⟩ = some (.int .i64 0) := by rw [Lib.cell_of_heap H.out.res]; rfl
   have z3 : wc.cell? ⟨b, 3, none⟩ = some (.slice none 0 0) := by rw [Lib.cell_of_heap H.out.res]; rfl
   have z4 : wc.cell? ⟨b, 4, none⟩ = some (.int .i64 0) := by rw [Lib.cell_of_heap H.out.res]; rfl
   have HT := Lib.hid ((((((H.out.less).setr 0 (.int .i64 6)).setr 1 (.string ⟨#[]⟩)).setr 2 (.int .i64 0)).setr 3 (.slice (some ⟨rb, 0, none⟩) 1 1)).setr 4 (.int .i64 tp))
   go_wp2_with fail
   refine bodyPost_ret (v := .agg #[.int .i64 6, .string ⟨#[]⟩, .int .i64 0, .slice (some ⟨rb, 0, none⟩) 1 1, .int .i64 tp]) (results_cell_row rfl _ _ b _ _ (0, 0) _ rfl HT.out.res Tryz.underlying42 rfl (by kernel_rfl)) rfl ?_
   exact Done.ok (x := .mk 6 Pol.none_ 0 [x] tp) rfl (HREP5.out.mono (fun g _ h => h.1)) HT.out.f HT.out.rd
  case first =>
   refine wp_region_held_drew (S := (fun W' => W'.cell? ⟨b + 1, 3, none⟩ = some (.int .i64 tp))) (by kernel_rfl) (show World.cell? _ _ = _ from k3) (fun hHeld => ?_)
   refine held_take (i := 0) (v := ?_) 26 rfl rfl (by kernel_rfl) (by kernel_rfl) (by kernel_rfl) (fun _ _ _ h => h) (Or.inl ⟨by rfl, ?_⟩) (by assumption) ?_
   rotate_left 1
   ·intro w hSw; (try dsimp only at hSw); go_simp; try (with_reducible rfl)
   try simp only [Act.put, List.setIfInBounds_toArray, List.set_cons_zero, List.set_cons_succ]
   refine held_take (i := 1) (v := ?_) 27 rfl rfl (by kernel_rfl) (by kernel_rfl) (by kernel_rfl) (fun _ _ _ h => h) (Or.inl ⟨by rfl, ?_⟩) (by assumption) ?_
   rotate_left 1
   ·intro w hSw; (try dsimp only at hSw); go_simp; try (with_reducible rfl)
   try simp only [Act.put, List.setIfInBounds_toArray, List.set_cons_zero, List.set_cons_succ]
   refine held_take (i := 2) (v := ?_) 28 rfl rfl (by kernel_rfl) (by kernel_rfl) (by kernel_rfl) (fun _ _ _ h => h) (Or.inl ⟨by rfl, ?_⟩) (by assumption) ?_
   rotate_left 1
   ·intro w hSw; (try dsimp only at hSw); go_simp; try (with_reducible rfl)
   try simp only [Act.put, List.setIfInBounds_toArray, List.set_cons_zero, List.set_cons_succ]
   refine wpAnyH_ready (rs := [3, 6]) (by kernel_rfl) (by simp) ?_
   refine AllReadyH.cons rfl (fun K hK => ?_) (AllReadyH.cons rfl (fun K hK => ?_) AllReadyH.nil)
   ·have HT1 := HT0
    go_simp
    go_at_call 94
    refine (HCC.out _ _ _ HT1.out).mono ?_
    rintro e w2 ⟨cs, rfl, hrep, hFb, o3, c3, hr3⟩
    obtain ⟨op, s9, n9, q9, k9, c9, p9, rfl⟩ := hrep.form
    have HT2 := Lib.hid (HT1.out.step hFb hr3)
    have HREP := Lib.hid hrep
    have HFB := Lib.hid hFb
    refine hK.out _ _ (HS.out _ _ _ _ _ HT2.out) (fun hHeld => ?_)
    clear hK K hrep hFb hr3
    try simp only [Act.put, List.setIfInBounds_toArray, List.set_cons_zero, List.set_cons_succ]
    refine wpAnyH_ready (rs := [4, 6]) (by kernel_rfl) (by simp) ?_
    refine AllReadyH.cons rfl (fun K hK => ?_) (AllReadyH.cons rfl (fun K hK => ?_) AllReadyH.nil)
    ·-- the row first
     have HT3 := Lib.hid (HT2.out.fr ((Fr.refl [] _).alloc (.cells #[.int .i64 op, .string s9, .int .i64 n9, .slice q9 k9 c9, .int .i64 p9] 42)))
     go_simp
     refine hK.out _ _ (HS.out _ _ _ _ _ HT3.out) (fun hHeld => ?_)
     clear hK K
     try simp only [Act.put, List.setIfInBounds_toArray, List.set_cons_zero, List.set_cons_succ]
     refine held_take (i := 5) (v := ?_) 31 rfl rfl (by kernel_rfl) (by kernel_rfl) (by kernel_rfl) (fun _ _ _ h => h) (Or.inl ⟨by rfl, ?_⟩) (by assumption) ?_
     rotate_left 1
     ·intro w hSw; (try dsimp only at hSw); go_simp; try (with_reducible rfl)
     try simp only [Act.put, List.setIfInBounds_toArray, List.set_cons_zero, List.set_cons_succ]
     refine wpAnyH_ready (rs := [6]) (by kernel_rfl) (by simp) ?_
     refine AllReadyH.cons rfl (fun K hK => ?_) AllReadyH.nil
     have HT4 := Lib.hid (HT3.out.fr ((Fr.refl [] _).alloc (.cells z5 42)))
     go_simp
     refine hK.out _ _ (HS.out _ _ _ _ _ HT4.out) (fun hHeld => ?_)
     clear hK K
     try simp only [Act.put, List.setIfInBounds_toArray, List.set_cons_zero, List.set_cons_succ]
     have hbb : b + 1 < w2.heap.size := row_lt HT2.out.tok
     refine wpAnyH_fresh (fun U => Tk2 w r g o3 c3 m (nest + 1) ⟨tk, ts, tn, tp⟩ b z5 U ∧ U.heap[w2.heap.size + 1]? = some (.cells z5 42 (0, 0)) ∧ U.heap[w2.heap.size]? = some (.cells [.int .i64 op, .string s9, .int .i64 n9, .slice q9 k9 c9, .int .i64 p9].toArray 42 (0, 0)) ∧ Rep U (fun g => w.heap.size ≤ g ∧ g ≠ w2.heap.size + 1 ∧ g ≠ b) [.int .i64 op, .string s9, .int .i64 n9, .slice q9 k9 c9, .int .i64 p9] x) ⟨HT4.out, (alloc2 _ _ _).2, (alloc2 _ _ _).1, Rep.fr (((Fr.refl [] _).alloc _).alloc _) (fun y hy => by cases hy) (HREP.out.mono (fun g hg h => by have h2 : V.heap.size ≤ g := h; have h9 := HBV.out; have := HB.out; exact ⟨by omega, by omega, by have := HBV.out; omega⟩))⟩ ?_
     rintro U ⟨t5, e5, r5, p5⟩
     have HT5 := Lib.hid t5
     have HE5 := Lib.hid e5
     have HR5 := Lib.hid r5
     have HP5 := Lib.hid p5
     have hSU := HS.out _ _ _ _ _ t5
     clear t5 e5 r5 p5
     have ef : ∀ i, U.frozen? ⟨(w2.heap.size + 1), i, none⟩ = false := fun i => Lib.frozen_of_heap HE5.out i
     have e0 : U.cell? ⟨(w2.heap.size + 1), 0, none⟩ = some (.int .i64 0) := by rw [Lib.cell_of_heap HE5.out]; rfl
     have e1 : U.cell? ⟨(w2.heap.size + 1), 1, none⟩ = some (.string ⟨#[]⟩) := by rw [Lib.cell_of_heap HE5.out]; rfl
     have e2 : U.cell? ⟨(w2.heap.size + 1), 2, none⟩ = some (.int .i64 0) := by rw [Lib.cell_of_heap HE5.out]; rfl
     have e3 : U.cell? ⟨(w2.heap.size + 1), 3, none⟩ = some (.slice none 0 0) := by rw [Lib.cell_of_heap HE5.out]; rfl
     have e4 : U.cell? ⟨(w2.heap.size + 1), 4, none⟩ = some (.int .i64 0) := by rw [Lib.cell_of_heap HE5.out]; rfl
     have HEND := Lib.hid (not_end HT5.out HE5.out (by omega) HR5.out (by omega) (by omega) HP5.out)
     have HS9 := Lib.hid (HS.out _ _ _ _ _ (HT5.out.other (fr_five U [w2.heap.size + 1] (w2.heap.size + 1) (.int .i64 6) (.string ⟨#[]⟩) (.int .i64 0) (.slice (some ⟨w2.heap.size, 0, none⟩) 1 1) (.int .i64 tp) (by simp)) (by omega)))
     have hne0 : w2.heap.size + 1 ≠ b + 1 := by omega
     have hne1 : b + 1 ≠ w2.heap.size + 1 := by omega
     refine wpAnyH_ready (rs := [7]) (by kernel_rfl) (by simp) ?_
     refine AllReadyH.cons rfl (fun K hK => ?_) AllReadyH.nil
     go_simp
     refine hK.out _ _ HS9.out (fun hHeld => ?_)
     clear hK K
     try simp only [Act.put, List.setIfInBounds_toArray, List.set_cons_zero, List.set_cons_succ]
     refine wpAnyH_done (by kernel_rfl) ?_ _
     go_wp2_with fail
     go_meet
     exact ⟨_, rfl, HEND.out⟩
    ·-- the variable first
     have HT3 := Lib.hid (HT2.out.fr ((Fr.refl [] _).alloc (.cells z5 42)))
     go_simp
     refine hK.out _ _ (HS.out _ _ _ _ _ HT3.out) (fun hHeld => ?_)
     clear hK K
     try simp only [Act.put, List.setIfInBounds_toArray, List.set_cons_zero, List.set_cons_succ]
     refine wpAnyH_ready (rs := [4]) (by kernel_rfl) (by simp) ?_
     refine AllReadyH.cons rfl (fun K hK => ?_) AllReadyH.nil
     have HT4 := Lib.hid (HT3.out.fr ((Fr.refl [] _).alloc (.cells #[.int .i64 op, .string s9, .int .i64 n9, .slice q9 k9 c9, .int .i64 p9] 42)))
     go_simp
     refine hK.out _ _ (HS.out _ _ _ _ _ HT4.out) (fun hHeld => ?_)
     clear hK K
     try simp only [Act.put, List.setIfInBounds_toArray, List.set_cons_zero, List.set_cons_succ]
     refine held_take (i := 5) (v := ?_) 31 rfl rfl (by kernel_rfl) (by kernel_rfl) (by kernel_rfl) (fun _ _ _ h => h) (Or.inl ⟨by rfl, ?_⟩) (by assumption) ?_
     rotate_left 1
     ·intro w hSw; (try dsimp only at hSw); go_simp; try (with_reducible rfl)
     try simp only [Act.put, List.setIfInBounds_toArray, List.set_cons_zero, List.set_cons_succ]
     have hbb : b + 1 < w2.heap.size := row_lt HT2.out.tok
     refine wpAnyH_fresh (fun U => Tk2 w r g o3 c3 m (nest + 1) ⟨tk, ts, tn, tp⟩ b z5 U ∧ U.heap[w2.heap.size]? = some (.cells z5 42 (0, 0)) ∧ U.heap[w2.heap.size + 1]? = some (.cells [.int .i64 op, .string s9, .int .i64 n9, .slice q9 k9 c9, .int .i64 p9].toArray 42 (0, 0)) ∧ Rep U (fun g => w.heap.size ≤ g ∧ g ≠ w2.heap.size ∧ g ≠ b) [.int .i64 op, .string s9, .int .i64 n9, .slice q9 k9 c9, .int .i64 p9] x) ⟨HT4.out, (alloc2 _ _ _).1, (alloc2 _ _ _).2, Rep.fr (((Fr.refl [] _).alloc _).alloc _) (fun y hy => by cases hy) (HREP.out.mono (fun g hg h => by have h2 : V.heap.size ≤ g := h; have h9 := HBV.out; have := HB.out; exact ⟨by omega, by omega, by have := HBV.out; omega⟩))⟩ ?_
     rintro U ⟨t5, e5, r5, p5⟩
     have HT5 := Lib.hid t5
     have HE5 := Lib.hid e5
     have HR5 := Lib.hid r5
     have HP5 := Lib.hid p5
     have hSU := HS.out _ _ _ _ _ t5
     clear t5 e5 r5 p5
     have ef : ∀ i, U.frozen? ⟨(w2.heap.size), i, none⟩ = false := fun i => Lib.frozen_of_heap HE5.out i
     have e0 : U.cell? ⟨(w2.heap.size), 0, none⟩ = some (.int .i64 0) := by rw [Lib.cell_of_heap HE5.out]; rfl
     have e1 : U.cell? ⟨(w2.heap.size), 1, none⟩ = some (.string ⟨#[]⟩) := by rw [Lib.cell_of_heap HE5.out]; rfl
     have e2 : U.cell? ⟨(w2.heap.size), 2, none⟩ = some (.int .i64 0) := by rw [Lib.cell_of_heap HE5.out]; rfl
     have e3 : U.cell? ⟨(w2.heap.size), 3, none⟩ = some (.slice none 0 0) := by rw [Lib.cell_of_heap HE5.out]; rfl
     have e4 : U.cell? ⟨(w2.heap.size), 4, none⟩ = some (.int .i64 0) := by rw [Lib.cell_of_heap HE5.out]; rfl
     have HEND := Lib.hid (not_end HT5.out HE5.out (by omega) HR5.out (by omega) (by omega) HP5.out)
     have HS9 := Lib.hid (HS.out _ _ _ _ _ (HT5.out.other (fr_five U [w2.heap.size] (w2.heap.size) (.int .i64 6) (.string ⟨#[]⟩) (.int .i64 0) (.slice (some ⟨w2.heap.size + 1, 0, none⟩) 1 1) (.int .i64 tp) (by simp)) (by omega)))
     have hne0 : w2.heap.size ≠ b + 1 := by omega
     have hne1 : b + 1 ≠ w2.heap.size := by omega
     refine wpAnyH_ready (rs := [7]) (by kernel_rfl) (by simp) ?_
     refine AllReadyH.cons rfl (fun K hK => ?_) AllReadyH.nil
     go_simp
     refine hK.out _ _ HS9.out (fun hHeld => ?_)
     clear hK K
     try simp only [Act.put, List.setIfInBounds_toArray, List.set_cons_zero, List.set_cons_succ]
     refine wpAnyH_done (by kernel_rfl) ?_ _
     go_wp2_with fail
     go_meet
     exact ⟨_, rfl, HEND.out⟩
   ·have HT1 := Lib.hid (HT0.out.fr ((Fr.refl [] _).alloc (.cells z5 42)))
    have HV1 := Lib.hid (heap_alloc_last V.drew (.cells z5 42))
    go_simp
    refine hK.out _ _ (HS.out _ _ _ _ _ HT1.out) (fun hHeld => ?_)
    clear hK K
    try simp only [Act.put, List.setIfInBounds_toArray, List.set_cons_zero, List.set_cons_succ]
    refine wpAnyH_ready (rs := [3]) (by kernel_rfl) (by simp) ?_
    refine AllReadyH.cons rfl (fun K hK => ?_) AllReadyH.nil
    go_simp
    go_at_call 94
    refine (HCC.out _ _ _ HT1.out).mono ?_
    rintro e w2 ⟨cs, rfl, hrep, hFb, o3, c3, hr3⟩
    obtain ⟨op, s9, n9, q9, k9, c9, p9, rfl⟩ := hrep.form
    have HT2 := Lib.hid (HT1.out.step hFb hr3)
    have HREP := Lib.hid hrep
    have HFB := Lib.hid hFb
    refine hK.out _ _ (HS.out _ _ _ _ _ HT2.out) (fun hHeld => ?_)
    clear hK K hrep hFb hr3
    try simp only [Act.put, List.setIfInBounds_toArray, List.set_cons_zero, List.set_cons_succ]
    refine wpAnyH_ready (rs := [4]) (by kernel_rfl) (by simp) ?_
    refine AllReadyH.cons rfl (fun K hK => ?_) AllReadyH.nil
    have HT3 := Lib.hid (HT2.out.fr ((Fr.refl [] _).alloc (.cells #[.int .i64 op, .string s9, .int .i64 n9, .slice q9 k9 c9, .int .i64 p9] 42)))
    go_simp
    refine hK.out _ _ (HS.out _ _ _ _ _ HT3.out) (fun hHeld => ?_)
    clear hK K
    try simp only [Act.put, List.setIfInBounds_toArray, List.set_cons_zero, List.set_cons_succ]
    refine held_take (i := 5) (v := ?_) 31 rfl rfl (by kernel_rfl) (by kernel_rfl) (by kernel_rfl) (fun _ _ _ h => h) (Or.inl ⟨by rfl, ?_⟩) (by assumption) ?_
    rotate_left 1
    ·intro w hSw; (try dsimp only at hSw); go_simp; try (with_reducible rfl)
    try simp only [Act.put, List.setIfInBounds_toArray, List.set_cons_zero, List.set_cons_succ]
    have hVr : V.heap.size ≠ r := by omega
    have hVw : V.heap.size < w2.heap.size := by have := HFB.out.size; simp at this; omega
    have hVE : w2.heap[V.heap.size]? = some (.cells z5 42 (0, 0)) := HFB.out.row HV1.out (by simpa using hVr)
    have hbb : b + 1 < w2.heap.size := row_lt HT2.out.tok
    refine wpAnyH_fresh (fun U => Tk2 w r g o3 c3 m (nest + 1) ⟨tk, ts, tn, tp⟩ b z5 U ∧ U.heap[V.heap.size]? = some (.cells z5 42 (0, 0)) ∧ U.heap[w2.heap.size]? = some (.cells [.int .i64 op, .string s9, .int .i64 n9, .slice q9 k9 c9, .int .i64 p9].toArray 42 (0, 0)) ∧ Rep U (fun g => w.heap.size ≤ g ∧ g ≠ V.heap.size ∧ g ≠ b) [.int .i64 op, .string s9, .int .i64 n9, .slice q9 k9 c9, .int .i64 p9] x) ⟨HT3.out, (Below.heap_alloc _ _ _ hVw).trans hVE, heap_alloc_last _ _, Rep.fr ((Fr.refl [] _).alloc _) (fun y hy => by cases hy) (HREP.out.mono (fun g hg h => by have h2 : V.heap.size + 1 ≤ g := by {have h3 : ((V.drew.alloc (.cells z5 42)).heap.size) ≤ g := h; simpa using h3}; have := HB.out; exact ⟨by omega, by omega, by omega⟩))⟩ ?_
    rintro U ⟨t5, e5, r5, p5⟩
    have HT5 := Lib.hid t5
    have HE5 := Lib.hid e5
    have HR5 := Lib.hid r5
    have HP5 := Lib.hid p5
    have hSU := HS.out _ _ _ _ _ t5
    clear t5 e5 r5 p5
    have ef : ∀ i, U.frozen? ⟨(V.heap.size), i, none⟩ = false := fun i => Lib.frozen_of_heap HE5.out i
    have e0 : U.cell? ⟨(V.heap.size), 0, none⟩ = some (.int .i64 0) := by rw [Lib.cell_of_heap HE5.out]; rfl
    have e1 : U.cell? ⟨(V.heap.size), 1, none⟩ = some (.string ⟨#[]⟩) := by rw [Lib.cell_of_heap HE5.out]; rfl
    have e2 : U.cell? ⟨(V.heap.size), 2, none⟩ = some (.int .i64 0) := by rw [Lib.cell_of_heap HE5.out]; rfl
    have e3 : U.cell? ⟨(V.heap.size), 3, none⟩ = some (.slice none 0 0) := by rw [Lib.cell_of_heap HE5.out]; rfl
    have e4 : U.cell? ⟨(V.heap.size), 4, none⟩ = some (.int .i64 0) := by rw [Lib.cell_of_heap HE5.out]; rfl
    have HEND := Lib.hid (not_end HT5.out HE5.out (by omega) HR5.out (by omega) (by omega) HP5.out)
    have HS9 := Lib.hid (HS.out _ _ _ _ _ (HT5.out.other (fr_five U [V.heap.size] (V.heap.size) (.int .i64 6) (.string ⟨#[]⟩) (.int .i64 0) (.slice (some ⟨w2.heap.size, 0, none⟩) 1 1) (.int .i64 tp) (by simp)) (by omega)))
    have hne0 : V.heap.size ≠ b + 1 := by omega
    have hne1 : b + 1 ≠ V.heap.size := by omega
    refine wpAnyH_ready (rs := [7]) (by kernel_rfl) (by simp) ?_
    refine AllReadyH.cons rfl (fun K hK => ?_) AllReadyH.nil
    go_simp
    refine hK.out _ _ HS9.out (fun hHeld => ?_)
    clear hK K
    try simp only [Act.put, List.setIfInBounds_toArray, List.set_cons_zero, List.set_cons_succ]
    refine wpAnyH_done (by kernel_rfl) ?_ _
    go_wp2_with fail
    go_meet
    exact ⟨_, rfl, HEND.out⟩
end Go.Proofs.YtgklmpooonnmiaaGreatDoor
