/-
  Lemmas and contracts that the proofs over this seat use (LexScanP, LexScan); no statement of the seat is claimed in this text, and nothing is assumed in it.
-/
import Derived.Test.YtgklmpooonnmiaaDoorJ10
import Derived.Test.YtgklmpooonnmiaaDoorJ11
import Derived.Test.YtgklmpooonnmiaaDoorJ7
set_option linter.unusedVariables false
set_option linter.unusedSimpArgs false
namespace Go.Proofs.YtgklmpooonnmiaaDoor
open Go.RowKit
namespace Lex
theorem skipTo_self (f : Nat → Nat) (n k : Nat) : k ≤ skipTo f n k := by
 rcases Nat.lt_or_ge n k with h | h
 ·rw [skipTo_end (by omega)]; exact Nat.le_refl _
 ·exact (skipTo_ge f n k h).1
theorem text_bounds (s : ByteArray) (k : Nat) (out o : List Nat) (e : Nat) (h : text s k out = (some o, e)) : k < e ∧ e ≤ s.size := by
 fun_induction text s k out with
 | case1 k out h1 h2 => cases h
 | case2 k out h1 h2 h3 => cases h; omega
 | case3 k out h1 h2 h3 h4 h5 ih => have := ih h; omega
 | case4 k out h1 h2 h3 h4 h5 => cases h
 | case5 k out h1 h2 h3 h4 x hx => cases h
 | case6 k out h1 h2 h3 h4 x m hx ih => have := ih h; omega
 | case7 k out h1 => cases h
theorem token_bounds (s : ByteArray) (k : Nat) (hk : k < s.size) (t : Tk) (m : Nat) (h : token s k = .ok t m) : k < m ∧ m ≤ s.size := by
 unfold token tokR at h
 have hT : (s.extract k s.size).size = s.size - k := by simp
 generalize s.extract k s.size = T at *
 split at h
 ·rename_i hsm
  unfold tokSmall at h
  split at h
  ·cases h
  ·cases h
   have h1 := smalls_le (bn T) T.size 0 (by omega)
   have h2 := smalls_ge (bn T) T.size 1
   have e := smalls_yes (f := bn T) (n := T.size) (k := 0) (by omega) hsm
   rw [Nat.zero_add] at e
   omega
 ·split at h
  ·skip
   generalize hx : text s (k + 1) [] = r at h
   obtain ⟨o, e⟩ := r
   cases o with
   | none => cases h
   | some o =>
    cases h
    have := text_bounds _ _ _ _ _ hx
    omega
  ·split at h
   ·unfold tokNum at h
    split at h
    ·cases h
    ·have h1 := Dec.lead_le (bn T) T.size
     generalize Dec.read _ _ _ _ = rr at h
     obtain ⟨v, er⟩ := rr
     cases er <;> cases h
     omega
   ·unfold tokSign at h
    split at h
    ·cases h
    ·cases h
     have h1 := sign_le (bn T) T.size
     omega
def scanFrom (s : ByteArray) (k : Nat) (l : List Tk) : Er × List Tk :=
 if k < s.size then
  match token s k with
  | .bad p n => (.pl p n, [])
  | .ok t m => if l.length = 512 then (.pl k 53, []) else scanFrom s (skipTo (bn s) s.size (max m (k + 1))) (l ++ [t])
 else (.ok, l ++ [⟨5, ⟨#[]⟩, 0, s.size⟩])
termination_by s.size - k
decreasing_by
 have := skipTo_self (bn s) s.size (max m (k + 1))
 omega
def scan (s : ByteArray) : Er × List Tk := if 2048 < s.size then (.no 2, []) else scanFrom s (skipTo (bn s) s.size 0) []
end Lex
def toks (l : List Tk) : List Value := l.flatMap Tk.c
theorem toks_snoc (l : List Tk) (t : Tk) : toks (l ++ [t]) = toks l ++ t.c := by simp [toks]
theorem infoTok : (Tryd.prog.info? 25).map (fun i => (i.zero, i.size, i.bytes)) = some (some (.agg #[.int .i64 0, .string ⟨#[]⟩, .int .i64 0, .int .i64 0]), 4, 40) := by kernel_rfl
structure SS (w : World) (b : Nat) (s : ByteArray) (k : Nat) (lv : Value) (l : List Tk) (W : World) : Prop where
 sc : Sc W b s k lv
 f : Fr [] w W
 own : W.ownsRow w.heap.size 25 4 lv l.length (toks l)
 ge : w.heap.size ≤ b
theorem own_ne_sc {w W : World} {b : Nat} {s : ByteArray} {k : Nat} {lv : Value} {l : List Tk} (h : SS w b s k lv l W) : lv.ownBlock ≠ some b := by
 rcases h.own.2 with ⟨hv, _⟩ | ⟨g, cap, cur, rfl, _, hg, _⟩
 ·rw [hv]; simp [Value.ownBlock]
 ·intro e
  simp only [Value.ownBlock, Option.some.injEq] at e
  subst e
  have h1 := h.sc
  unfold Sc at h1
  rw [hg] at h1
  simp at h1
theorem SS.step {w W W' : World} {b : Nat} {s : ByteArray} {k m : Nat} {lv : Value} {l : List Tk} (h : SS w b s k lv l W) (hF : Fr [b] W W') (hs : Sc W' b s m lv) : SS w b s m lv l W' := by
 refine ⟨hs, h.f.trans1 hF (.inr h.ge), ⟨h.own.1, ?_⟩, h.ge⟩
 rcases h.own.2 with h1 | ⟨g, cap, cur, hv, hg, hgg, r⟩
 ·exact Or.inl h1
 ·refine Or.inr ⟨g, cap, cur, hv, hg, ?_, r⟩
  refine (hF.block g (row_lt hgg) (fun hc => ?_)).trans hgg
  have := own_ne_sc h
  rw [hv] at this
  simp [Value.ownBlock] at this hc
  exact this hc
theorem SS.fr {w W W' : World} {b : Nat} {s : ByteArray} {k : Nat} {lv : Value} {l : List Tk} (h : SS w b s k lv l W) (hF : Fr [] W W') : SS w b s k lv l W' :=
 ⟨h.sc.fr hF, h.f.trans0 hF, ownsRow_fr h.own hF, h.ge⟩
theorem Fr.grown2 {w0 w w' : World} {row : Option Nat} (h : Fr [] w0 w) (hg : w.grownBy w' row) (hr : ∀ k, row = some k → w0.heap.size ≤ k) : Fr [] w0 w' :=
 ⟨hg.os.trans h.os, hg.tape.trans h.tape, hg.output.trans h.output, Nat.le_trans h.size hg.size, fun k hk hn => (hg.block k (Nat.lt_of_lt_of_le hk h.size) (fun hc => by have := hr k hc.symm; omega)).trans (h.block k hk hn)⟩
theorem Sc.putl {w : World} {b : Nat} {s : ByteArray} {k : Nat} {lv : Value} (h : Sc w b s k lv) (u : Value) : Sc (w.setCell ⟨b, 2, none⟩ u) b s k u := by
 unfold Sc at *
 have := heap_setCell_same w b 2 _ _ u h
 simpa using this
theorem oc_tok (t : Tk) : ∀ u ∈ t.c, u.oneCell' = true := by
 intro u hu
 simp only [Tk.c, List.mem_cons, List.not_mem_nil, or_false] at hu
 rcases hu with rfl | rfl | rfl | rfl <;> rfl
theorem appTok {ops : Array Oper} {rest : List Oper} {o : Oper} {a : Act} {w : World} {Q : Exit → Act → World → Prop} (hgd : o.guard = none) (s x : Operand)
  (ho : o.op = .call { callee := .builtin .append, args := #[s, x], argTypes := #[22, 22] })
  (B : Nat) (v : Value) (l : List Tk) (t : Tk) (cs : Array Value) (hc : cs = t.c.toArray) (hs : a.eval s = v) (hx : a.eval x = .slice (some ⟨w.heap.size, 0, none⟩) 1 1)
  (hown : w.ownsRow B 25 4 v l.length (toks l)) (hB : B ≤ w.heap.size) (hn : l.length < 1000000)
  (h : ∀ g c w', w'.ownsRow B 25 4 (.slice (some ⟨g, 0, none⟩) (l.length + 1) c) (l ++ [t]).length (toks (l ++ [t])) → w.grownBy w' v.ownBlock → wpList Tryd.prog ops Q rest (a.put o.dst (.slice (some ⟨g, 0, none⟩) (l.length + 1) c)) w') : wpList Tryd.prog ops Q (o :: rest) a (w.alloc (.cells cs 25)) := by
 subst hc
 obtain ⟨i, hi, hz0, hz1, hz2⟩ := info_parts infoTok
 refine wpList_append_lies (w.alloc _) hgd s x _ ho B 25 i _ 4 40 Tryd.underlying22 hi hz0 hz1 hz2 rfl (by decide) v l.length (toks l) hs (hown.alloc _) _ 1 1 t.c hx rfl (World.news_of_block (heap_alloc_last w _)) (oc_tok t) (by decide) (by unfold maxLen; omega) (by omega) (Nat.le_trans hB (by simp)) _ rfl ?_
 intro g cap w' h1 h2 _ _
 refine h g cap w' ?_ ((World.grownBy_alloc w _ _).trans_ h2)
 rw [toks_snoc, List.length_append]; exact h1
theorem SS.grow {w V w9 : World} {b : Nat} {s : ByteArray} {m : Nat} {lv : Value} {l : List Tk} {t : Tk} {g9 c9 : Nat} (h : SS w b s m lv l V) (ho : w9.ownsRow w.heap.size 25 4 (.slice (some ⟨g9, 0, none⟩) (l.length + 1) c9) (l ++ [t]).length (toks (l ++ [t]))) (hg : V.grownBy w9 lv.ownBlock) :
  SS w b s m (.slice (some ⟨g9, 0, none⟩) (l.length + 1) c9) (l ++ [t]) (w9.setCell ⟨b, 2, none⟩ (.slice (some ⟨g9, 0, none⟩) (l.length + 1) c9)) := by
 have hsc : Sc w9 b s m lv := (hg.block b h.sc.lt (own_ne_sc h).symm).trans h.sc
 refine ⟨hsc.putl _, (h.f.grown2 hg (own_base_ge h.own)).setCell (.inr h.ge) _, ⟨ho.1, ?_⟩, h.ge⟩
 rcases ho.2 with ⟨h1, _⟩ | ⟨g, cap, cur, hv, hb, hgg, r⟩
 ·cases h1
 ·refine Or.inr ⟨g, cap, cur, hv, hb, ?_, r⟩
  rw [Below.heap_setCell _ _ _ _ (fun hc => ?_)]
  ·exact hgg
  ·have h2 : Sc w9 b s m lv := hsc
   unfold Sc at h2
   rw [show b = g from hc.symm, hgg] at h2
   simp at h2
theorem stepTok {ops : Array Oper} {o : Oper} {a : Act} {W w : World} {K : Act → World → Prop} {Q : Exit → Act → World → Prop} {E : Prop} (hgd : o.guard = none) (s x : Operand)
  (ho : o.op = .call { callee := .builtin .append, args := #[s, x], argTypes := #[22, 22] })
  (B : Nat) (v : Value) (l : List Tk) (t : Tk) (hW : W = (w.alloc (.cells t.c.toArray 25)).drew) (hs : a.eval s = v) (hx : a.eval x = .slice (some ⟨w.heap.size, 0, none⟩) 1 1)
  (hown : w.ownsRow B 25 4 v l.length (toks l)) (hB : B ≤ w.heap.size) (hn : l.length < 1000000)
  (h : ∀ g c w', w'.ownsRow B 25 4 (.slice (some ⟨g, 0, none⟩) (l.length + 1) c) (l ++ [t]).length (toks (l ++ [t])) → w.grownBy w' v.ownBlock → K (a.put o.dst (.slice (some ⟨g, 0, none⟩) (l.length + 1) c)) w') :
  if Region.wanted o (yielded ops a.tmps) = true then Oper.wp Tryd.prog o a W K Q else E := by
 subst hW
 obtain ⟨i, hi, hz0, hz1, hz2⟩ := info_parts infoTok
 have hown2 : (w.alloc (.cells t.c.toArray 25)).drew.ownsRow B 25 4 v l.length (toks l) := ownsRow_fr hown ((Fr.refl _ _).alloc _).drew
 refine step_append_lies (w.alloc _).drew hgd s x _ ho B 25 i _ 4 40 Tryd.underlying22 hi hz0 hz1 hz2 rfl (by decide) v l.length (toks l) hs hown2 _ 1 1 t.c hx rfl (World.news_of_block (heap_alloc_last w _)) (oc_tok t) (by decide) (by unfold maxLen; omega) (by omega) (Nat.le_trans hB (by simp [World.drew])) _ rfl ?_
 intro g cap w' h1 h2 _ _
 have hg := World.grownBy_alloc w (.cells t.c.toArray 25) v.ownBlock
 have hg2 : w.grownBy (w.alloc (.cells t.c.toArray 25)).drew v.ownBlock := ⟨hg.os, hg.tape, hg.output, hg.size, hg.block⟩
 refine h g cap w' ?_ (hg2.trans_ h2)
 rw [toks_snoc, List.length_append]; exact h1
end Go.Proofs.YtgklmpooonnmiaaDoor

namespace Go.Proofs.YtgklmpooonnmiaaDoor
open Go.RowKit
set_option maxHeartbeats 8000000 in
set_option maxRecDepth 100000 in
theorem lex_scan (w : World) (s : ByteArray) (hs : s.size ≤ maxLen) (hL : Least w) :
  Calls Tryd.prog 16 #[.string s] w fun e w' => ∃ v ev, e = .returned (.tuple #[v, ev]) ∧ w'.ownsRow w.heap.size 25 4 v (Lex.scan s).2.length (toks (Lex.scan s).2) ∧ ErV w' w.heap.size (Lex.scan s).1 ev ∧ Fr [] w w' := by
 unfold maxLen at hs
 by_cases hlong : 2048 < s.size
 ·have hE : Hid (Lex.scan s = (.no 2, [])) := by show _ = _; unfold Lex.scan; rw [if_pos hlong]
  have hl' : (s.size : Int) > 2048 := by omega
  go_enter Tryd.func16, Tryd.ntmps16
  go_wp2
  refine bodyPost_ret (results_tmp2 rfl _ _ _) rfl ?_
  rw [hE.out]
  exact ⟨_, _, rfl, ownsRow_nil _ _ _ _, rfl, Fr.refl _ _⟩
 have hE : Hid (Lex.scan s = Lex.scanFrom s (Lex.skipTo (bn s) s.size 0) []) := by show _ = _; unfold Lex.scan; rw [if_neg hlong]
 have hl' : ¬ (s.size : Int) > 2048 := by omega
 obtain ⟨R, hR⟩ : ∃ R, Hid (Lex.scan s = R) := ⟨_, rfl⟩
 rw [hR.out] at hE ⊢
 have hs2 : s.size ≤ 1000000 := by omega
 have HL := Lib.hid hL
 have hwl : 1 < w.heap.size := by obtain ⟨_, _, h⟩ := hL; exact row_lt h
 clear hL hlong
 go_enter Tryd.func16, Tryd.ntmps16
 go_wp2_with fail
 have hsc0 : Sc (w.alloc (.cells #[.string s, .int .i64 0, .slice none 0 0] 60)) w.heap.size s 0 (.slice none 0 0) := heap_alloc_last _ _
 have hss0 : SS w w.heap.size s 0 (.slice none 0 0) [] (w.alloc (.cells #[.string s, .int .i64 0, .slice none 0 0] 60)) := ⟨hsc0, (Fr.refl _ _).alloc _, ownsRow_nil _ _ _ _, Nat.le_refl _⟩
 obtain ⟨b, hb⟩ : ∃ b, w.heap.size = b := ⟨_, rfl⟩
 rw [hb] at hsc0 hss0 ⊢
 have HSS := Lib.hid hss0
 refine (lex_skip _ b s 0 _ hs2 (Nat.zero_le _) hsc0).mono ?_
 rintro e W1 ⟨rfl, hsc1, hf1⟩
 have H := Lib.hid (HSS.out.step hf1 hsc1)
 have HB := Lib.hid hb
 have hgl : 1 ≠ b := by omega
 clear HSS hsc0 hss0 hsc1 hf1 hb
 show _
 go_wp2_with fail
 go_loopg [5, 6, 7] (s.size - Lex.skipTo (bn s) s.size 0) (fun q _ _ _ W => ∃ (k : Nat) (lv : Value) (l : List Tk), k ≤ s.size ∧ q = s.size - k ∧ Hid (Lex.scanFrom s k l = R) ∧ Hid (SS w b s k lv l W) ∧ Hid (l.length ≤ 512))
 case atStart => exact ⟨_, _, [], (Lex.skipTo_ge _ _ _ (Nat.zero_le _)).2, rfl, hE.out.symm, H, Nat.zero_le _⟩
 case round =>
  clear H hE hR
  obtain ⟨k, lv, l, hk, hq, HE, H, HLL⟩ := hrel
  have HQ := Lib.hid hq
  clear hq
  have c1 := H.out.sc.c1
  by_cases hlt : k < s.size
  ·have hlt' : (k : Int) < (s.size : Int) := by omega
   obtain ⟨r, hr⟩ : ∃ r, Hid (Lex.token s k = r) := ⟨_, rfl⟩
   go_wp2_with fail
   refine (lex_token wr b s k lv hs2 hlt H.out.sc (HL.out.fr H.out.f (by simp)) hgl).mono ?_
   rintro e W2 ⟨tv, ev, rfl, ht⟩
   rw [hr.out] at ht
   have HLE := Lib.hid H.out.f.size
   cases r with
   | bad p n =>
    obtain ⟨⟨t, rfl⟩, hv, hf⟩ := ht
    obtain ⟨tk, tss, tn, tp⟩ := t
    have hcs : (Tk.c ⟨tk, tss, tn, tp⟩).toArray = #[.int .i64 (tk : Nat), .string tss, .int .i64 tn, .int .i64 (tp : Nat)] := rfl
    rw [hcs]
    clear hcs
    have HX : Hid (R = (.pl p n, [])) := by show _ = _; rw [← HE.out, Lex.scanFrom, if_pos hlt, hr.out]
    obtain ⟨bb, hbb, rfl, hrow⟩ := hv
    have HROW := Lib.hid hrow
    have HF : Hid (Fr [] w W2) := H.out.f.trans1 hf (.inr H.out.ge)
    clear hf hrow c1
    go_wp2_with fail
    refine bodyPost_ret (results_tmp2 rfl _ _ _) rfl ?_
    rw [HX.out]
    exact ⟨_, _, rfl, ownsRow_nil _ _ _ _, ⟨bb, Nat.le_trans HLE.out hbb, rfl, ((Fr.refl [] W2).alloc _).row HROW.out (by simp)⟩, HF.out.alloc _⟩
   | ok t m =>
    obtain ⟨rfl, rfl, hsc, hf⟩ := ht
    obtain ⟨tk, tss, tn, tp⟩ := t
    have hcs : (Tk.c ⟨tk, tss, tn, tp⟩).toArray = #[.int .i64 (tk : Nat), .string tss, .int .i64 tn, .int .i64 (tp : Nat)] := rfl
    rw [hcs]
    clear hcs
    have HX : Hid (R = if l.length = 512 then (.pl k 53, []) else Lex.scanFrom s (Lex.skipTo (bn s) s.size (max m (k + 1))) (l ++ [⟨tk, tss, tn, tp⟩])) := by show _ = _; rw [← HE.out]; conv => lhs; rw [Lex.scanFrom, if_pos hlt, hr.out]
    have hbd := Lex.token_bounds s k hlt _ m hr.out
    have H := Lib.hid (H.out.step hf hsc)
    obtain ⟨lp, lc, rfl⟩ := own_form H.out.own
    have c2 := H.out.sc.c2
    have hl9 : l.length ≤ 512 := HLL.out
    have hbl : b < W2.heap.size := H.out.sc.lt
    have hbn : ¬ b = W2.heap.size := by omega
    have hbn2 : ¬ W2.heap.size = b := by omega
    clear hsc hf c1
    by_cases h512 : l.length = 512
    ·have h512' : ((l.length : Int) == 512) = true := beq_iff_eq.2 (by omega)
     have HX2 : Hid (R = (.pl k 53, [])) := by show _ = _; rw [HX.out, if_pos h512]
     clear h512
     go_wp2_with fail
     refine (lex_fault _ k 53).mono ?_
     rintro e W3 ⟨v, rfl, hv, hf⟩
     have HV := Lib.hid hv
     have HF : Hid (Fr [] w W3) := (H.out.f.alloc _).trans0 hf
     have HS2 : Hid (w.heap.size ≤ W2.heap.size) := H.out.f.size
     clear hv hf c2
     go_wp2_with fail
     refine bodyPost_ret (results_tmp2 rfl _ _ _) rfl ?_
     rw [HX2.out]
     exact ⟨_, _, rfl, ownsRow_nil _ _ _ _, HV.out.base (by have := HS2.out; simp; omega), HF.out⟩
    ·have h512' : ((l.length : Int) == 512) = false := beq_eq_false_iff_ne.2 (by omega)
     have hl511 : l.length < 512 := by omega
     have HX2 : Hid (R = Lex.scanFrom s (Lex.skipTo (bn s) s.size (max m (k + 1))) (l ++ [⟨tk, tss, tn, tp⟩])) := by show _ = _; rw [HX.out, if_neg h512]
     go_wp2_with fail
     obtain ⟨gt, hgt⟩ : ∃ gt, W2.heap.size = gt := ⟨_, rfl⟩
     have hne9 : (Value.slice lp l.length lc).ownBlock ≠ some gt := by
      rcases H.out.own.2 with ⟨hv, _⟩ | ⟨g, cap, cur, hv, _, hg, _⟩
      ·rw [hv]; simp [Value.ownBlock]
      ·rw [hv]; have := row_lt hg; simp [Value.ownBlock]; omega
     have hsn := own_ne_sc H.out
     refine wp_fresh (fun V => SS w b s m (.slice lp l.length lc) l V ∧ V.heap[gt]? = some (.cells #[.int .i64 (tk : Nat), .string tss, .int .i64 tn, .int .i64 (tp : Nat)] 25 (0, 0))) ⟨H.out.fr ((Fr.refl _ _).alloc _), by rw [← hgt]; exact heap_alloc_last _ _⟩ ?_
     rintro V ⟨h1, h2⟩
     rw [hgt]
     have H := Lib.hid h1
     have HT := Lib.hid h2
     have hbg : b ≠ gt := by omega
     have hgb : gt ≠ b := by omega
     have HNE := Lib.hid hne9
     have HSN := Lib.hid hsn
     clear h1 h2 c2 hbl hbn hbn2 hgt hne9 hsn h512'
     have c2 := H.out.sc.c2
     have hbl : b < V.heap.size := H.out.sc.lt
     have hgl : gt < V.heap.size := row_lt HT.out
     have t0 : V.cell? ⟨gt, 0, none⟩ = some (.int .i64 (tk : Nat)) := by rw [Lib.cell_of_heap HT.out]; rfl
     have t1 : V.cell? ⟨gt, 1, none⟩ = some (.string tss) := by rw [Lib.cell_of_heap HT.out]; rfl
     have t2 : V.cell? ⟨gt, 2, none⟩ = some (.int .i64 tn) := by rw [Lib.cell_of_heap HT.out]; rfl
     have t3 : V.cell? ⟨gt, 3, none⟩ = some (.int .i64 (tp : Nat)) := by rw [Lib.cell_of_heap HT.out]; rfl
     have hl10 : l.length < 1000000 := by omega
     go_wp2_with fail
     refine wp_region_held_drew (S := fun W' => W'.cell? ⟨gt, 0, none⟩ = some (.int .i64 (tk : Nat)) ∧ W'.cell? ⟨gt, 1, none⟩ = some (.string tss) ∧ W'.cell? ⟨gt, 2, none⟩ = some (.int .i64 tn) ∧ W'.cell? ⟨gt, 3, none⟩ = some (.int .i64 (tp : Nat))) (by kernel_rfl) (by first | go_keep | exact ⟨hg.cell t0 HNE.out.symm, hg.cell t1 HNE.out.symm, hg.cell t2 HNE.out.symm, hg.cell t3 HNE.out.symm⟩ | ((try dsimp only); (repeat' apply And.intro) <;> go_keep)) (fun hHeld => ?_)
     refine held_take (i := 0) (v := ?_) 46 rfl rfl (by kernel_rfl) (by kernel_rfl) (by kernel_rfl) (fun _ _ _ h => h) (Or.inl ⟨by rfl, ?_⟩) (by assumption) ?_
     rotate_left 1
     ·intro w hSw; (try dsimp only at hSw); go_simp; try (with_reducible rfl)
     try simp only [Act.put, List.setIfInBounds_toArray, List.set_cons_zero, List.set_cons_succ]
     refine held_take (i := 1) (v := ?_) 47 rfl rfl (by kernel_rfl) (by kernel_rfl) (by kernel_rfl) (fun _ _ _ h => h) (Or.inl ⟨by rfl, ?_⟩) (by assumption) ?_
     rotate_left 1
     ·intro w hSw; (try dsimp only at hSw); go_simp; try (with_reducible rfl)
     try simp only [Act.put, List.setIfInBounds_toArray, List.set_cons_zero, List.set_cons_succ]
     refine held_take (i := 2) (v := ?_) 48 rfl rfl (by kernel_rfl) (by kernel_rfl) (by kernel_rfl) (fun _ _ _ h => h) (Or.inl ⟨by rfl, ?_⟩) (by assumption) ?_
     rotate_left 1
     ·intro w hSw; (try dsimp only at hSw); go_simp; try (with_reducible rfl)
     try simp only [Act.put, List.setIfInBounds_toArray, List.set_cons_zero, List.set_cons_succ]
     refine held_take (i := 3) (v := ?_) 49 rfl rfl (by kernel_rfl) (by kernel_rfl) (by kernel_rfl) (fun _ _ _ h => h) (Or.inl ⟨by rfl, ?_⟩) (by assumption) ?_
     rotate_left 1
     ·intro w hSw; (try dsimp only at hSw); go_simp; try (with_reducible rfl)
     try simp only [Act.put, List.setIfInBounds_toArray, List.set_cons_zero, List.set_cons_succ]
     refine held_take (i := 5) (v := ?_) 51 rfl rfl (by kernel_rfl) (by kernel_rfl) (by kernel_rfl) (fun _ _ _ h => h) (Or.inl ⟨by rfl, ?_⟩) (by assumption) ?_
     rotate_left 1
     ·intro w hSw; (try dsimp only at hSw); go_simp; try (with_reducible rfl)
     try simp only [Act.put, List.setIfInBounds_toArray, List.set_cons_zero, List.set_cons_succ]
     refine wpAnyH_ready (rs := [4, 6]) (by kernel_rfl) (by simp) ?_
     refine AllReadyH.cons rfl (fun K hK => ?_) (AllReadyH.cons rfl (fun K hK => ?_) AllReadyH.nil)
     go_simp
     refine hK.out _ _ (by first | go_keep | exact ⟨hg.cell t0 HNE.out.symm, hg.cell t1 HNE.out.symm, hg.cell t2 HNE.out.symm, hg.cell t3 HNE.out.symm⟩ | ((try dsimp only); (repeat' apply And.intro) <;> go_keep)) (fun hHeld => ?_)
     clear hK K
     try simp only [Act.put, List.setIfInBounds_toArray, List.set_cons_zero, List.set_cons_succ]
     refine wpAnyH_ready (rs := [6]) (by kernel_rfl) (by simp) ?_
     refine AllReadyH.cons rfl (fun K hK => ?_) AllReadyH.nil
     go_simp
     refine hK.out _ _ (by first | go_keep | exact ⟨hg.cell t0 HNE.out.symm, hg.cell t1 HNE.out.symm, hg.cell t2 HNE.out.symm, hg.cell t3 HNE.out.symm⟩ | ((try dsimp only); (repeat' apply And.intro) <;> go_keep)) (fun hHeld => ?_)
     clear hK K
     try simp only [Act.put, List.setIfInBounds_toArray, List.set_cons_zero, List.set_cons_succ]
     refine wpAnyH_ready (rs := [7]) (by kernel_rfl) (by simp) ?_
     refine AllReadyH.cons rfl (fun K hK => ?_) AllReadyH.nil
     refine stepTok (by rfl) (.tmp 50) (.tmp 52) (by rfl) w.heap.size (.slice lp l.length lc) l ⟨tk, tss, tn, tp⟩ (w := V) (by rfl) (by rfl) (by rfl) H.out.own H.out.f.size hl10 ?_
     intro g9 c9 w9 ho hg
     have q2 := hg.cell c2 HSN.out.symm
     have s0 := hg.cell t0 HNE.out.symm
     have s1 := hg.cell t1 HNE.out.symm
     have s2 := hg.cell t2 HNE.out.symm
     have s3 := hg.cell t3 HNE.out.symm
     have fz : w9.frozen? ⟨b, 2, none⟩ = false := (World.frozen?_of_block (w := V) (a := ⟨b, 2, none⟩) (hg.block b hbl HSN.out.symm)).trans (H.out.sc.fz 2)
     refine hK.out _ _ (by first | go_keep | exact ⟨hg.cell t0 HNE.out.symm, hg.cell t1 HNE.out.symm, hg.cell t2 HNE.out.symm, hg.cell t3 HNE.out.symm⟩ | ((try dsimp only); (repeat' apply And.intro) <;> go_keep)) (fun hHeld => ?_)
     clear hK K
     try simp only [Act.put, List.setIfInBounds_toArray, List.set_cons_zero, List.set_cons_succ]
     refine held_take (i := 8) (v := ?_) 54 rfl rfl (by kernel_rfl) (by kernel_rfl) (by kernel_rfl) (fun _ _ _ h => h) (Or.inl ⟨by rfl, ?_⟩) (by assumption) ?_
     rotate_left 1
     ·intro w hSw; (try dsimp only at hSw); go_simp; try (with_reducible rfl)
     try simp only [Act.put, List.setIfInBounds_toArray, List.set_cons_zero, List.set_cons_succ]
     refine held_take (i := 9) (v := ?_) 55 rfl rfl (by kernel_rfl) (by kernel_rfl) (by kernel_rfl) (fun _ _ _ h => h) (Or.inl ⟨by rfl, ?_⟩) (by assumption) ?_
     rotate_left 1
     ·intro w hSw; (try dsimp only at hSw); go_simp; try (with_reducible rfl)
     try simp only [Act.put, List.setIfInBounds_toArray, List.set_cons_zero, List.set_cons_succ]
     refine wpAnyH_ready (rs := [10]) (by kernel_rfl) (by simp) ?_
     refine AllReadyH.cons rfl (fun K hK => ?_) AllReadyH.nil
     go_simp
     refine hK.out _ _ (by first | go_keep | exact ⟨hg.cell t0 HNE.out.symm, hg.cell t1 HNE.out.symm, hg.cell t2 HNE.out.symm, hg.cell t3 HNE.out.symm⟩ | ((try dsimp only); (repeat' apply And.intro) <;> go_keep)) (fun hHeld => ?_)
     clear hK K
     try simp only [Act.put, List.setIfInBounds_toArray, List.set_cons_zero, List.set_cons_succ]
     refine wpAnyH_done (by kernel_rfl) ?_ _
     rotate_left 1
     go_simp
     refine hK.out _ _ (by first | go_keep | exact ⟨hg.cell t0 HNE.out.symm, hg.cell t1 HNE.out.symm, hg.cell t2 HNE.out.symm, hg.cell t3 HNE.out.symm⟩ | ((try dsimp only); (repeat' apply And.intro) <;> go_keep)) (fun hHeld => ?_)
     clear hK K
     try simp only [Act.put, List.setIfInBounds_toArray, List.set_cons_zero, List.set_cons_succ]
     refine wpAnyH_ready (rs := [4]) (by kernel_rfl) (by simp) ?_
     refine AllReadyH.cons rfl (fun K hK => ?_) AllReadyH.nil
     go_simp
     refine hK.out _ _ (by first | go_keep | exact ⟨hg.cell t0 HNE.out.symm, hg.cell t1 HNE.out.symm, hg.cell t2 HNE.out.symm, hg.cell t3 HNE.out.symm⟩ | ((try dsimp only); (repeat' apply And.intro) <;> go_keep)) (fun hHeld => ?_)
     clear hK K
     try simp only [Act.put, List.setIfInBounds_toArray, List.set_cons_zero, List.set_cons_succ]
     refine wpAnyH_ready (rs := [7]) (by kernel_rfl) (by simp) ?_
     refine AllReadyH.cons rfl (fun K hK => ?_) AllReadyH.nil
     refine stepTok (by rfl) (.tmp 50) (.tmp 52) (by rfl) w.heap.size (.slice lp l.length lc) l ⟨tk, tss, tn, tp⟩ (w := V) (by rfl) (by rfl) (by rfl) H.out.own H.out.f.size hl10 ?_
     intro g9 c9 w9 ho hg
     have q2 := hg.cell c2 HSN.out.symm
     have s0 := hg.cell t0 HNE.out.symm
     have s1 := hg.cell t1 HNE.out.symm
     have s2 := hg.cell t2 HNE.out.symm
     have s3 := hg.cell t3 HNE.out.symm
     have fz : w9.frozen? ⟨b, 2, none⟩ = false := (World.frozen?_of_block (w := V) (a := ⟨b, 2, none⟩) (hg.block b hbl HSN.out.symm)).trans (H.out.sc.fz 2)
     refine hK.out _ _ (by first | go_keep | exact ⟨hg.cell t0 HNE.out.symm, hg.cell t1 HNE.out.symm, hg.cell t2 HNE.out.symm, hg.cell t3 HNE.out.symm⟩ | ((try dsimp only); (repeat' apply And.intro) <;> go_keep)) (fun hHeld => ?_)
     clear hK K
     try simp only [Act.put, List.setIfInBounds_toArray, List.set_cons_zero, List.set_cons_succ]
     refine held_take (i := 8) (v := ?_) 54 rfl rfl (by kernel_rfl) (by kernel_rfl) (by kernel_rfl) (fun _ _ _ h => h) (Or.inl ⟨by rfl, ?_⟩) (by assumption) ?_
     rotate_left 1
     ·intro w hSw; (try dsimp only at hSw); go_simp; try (with_reducible rfl)
     try simp only [Act.put, List.setIfInBounds_toArray, List.set_cons_zero, List.set_cons_succ]
     refine held_take (i := 9) (v := ?_) 55 rfl rfl (by kernel_rfl) (by kernel_rfl) (by kernel_rfl) (fun _ _ _ h => h) (Or.inl ⟨by rfl, ?_⟩) (by assumption) ?_
     rotate_left 1
     ·intro w hSw; (try dsimp only at hSw); go_simp; try (with_reducible rfl)
     try simp only [Act.put, List.setIfInBounds_toArray, List.set_cons_zero, List.set_cons_succ]
     refine wpAnyH_ready (rs := [10]) (by kernel_rfl) (by simp) ?_
     refine AllReadyH.cons rfl (fun K hK => ?_) AllReadyH.nil
     go_simp
     refine hK.out _ _ (by first | go_keep | exact ⟨hg.cell t0 HNE.out.symm, hg.cell t1 HNE.out.symm, hg.cell t2 HNE.out.symm, hg.cell t3 HNE.out.symm⟩ | ((try dsimp only); (repeat' apply And.intro) <;> go_keep)) (fun hHeld => ?_)
     clear hK K
     try simp only [Act.put, List.setIfInBounds_toArray, List.set_cons_zero, List.set_cons_succ]
     refine wpAnyH_done (by kernel_rfl) ?_ _
     rotate_left 1
     all_goals
      have HN := Lib.hid (H.out.grow ho hg)
      have hsc9 := HN.out.sc
      have hmk : Hid (max m (k + 1) = m) := by show _ = _; omega
      have hms : m ≤ s.size := hbd.2
      clear ho hg q2 s0 s1 s2 s3 fz t0 t1 t2 t3 c2
      go_wp2_with fail
      refine (lex_skip _ b s m _ hs2 hms hsc9).mono ?_
      rintro e W5 ⟨rfl, hsc5, hf5⟩
      have H5 := Lib.hid (HN.out.step hf5 hsc5)
      clear hsc5 hf5 hsc9
      go_wp2_with fail
      have hsk := Lex.skipTo_self (bn s) s.size m
      go_roundg (s.size - Lex.skipTo (bn s) s.size m)
      case measure => have := HQ.out; omega
      case rel => exact ⟨_, _, _, (Lex.skipTo_ge _ _ _ hms).2, rfl, by show _ = R; rw [HX2.out, hmk.out], H5, by show _ ≤ 512; simp; omega⟩
  ·have hlt' : ¬ (k : Int) < (s.size : Int) := by omega
   have c2 := H.out.sc.c2
   have HX : Hid (R = (.ok, l ++ [⟨5, ⟨#[]⟩, 0, s.size⟩])) := by show _ = _; rw [← HE.out, Lex.scanFrom, if_neg hlt]
   have hl9 : l.length < 1000000 := by have := HLL.out; omega
   go_wp2_with (at_builtin; refine appTok rfl (.tmp 59) (.tmp 63) rfl w.heap.size lv l ⟨5, ⟨#[]⟩, 0, s.size⟩ _ rfl rfl rfl H.out.own H.out.f.size hl9 ?_)
   intro g9 c9 w9 ho hg
   have HO := Lib.hid ho
   have HF : Hid (Fr [] w w9) := H.out.f.grown2 hg (own_base_ge H.out.own)
   clear ho hg c2 c1
   go_wp2_with fail
   refine bodyPost_ret (results_tmp2 rfl _ _ _) rfl ?_
   rw [HX.out]
   exact ⟨_, _, rfl, (by have := HO.out; simpa using this), rfl, HF.out⟩
end Go.Proofs.YtgklmpooonnmiaaDoor
