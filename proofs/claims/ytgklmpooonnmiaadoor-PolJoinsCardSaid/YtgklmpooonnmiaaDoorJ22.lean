/-
  Lemmas and contracts that the proofs over this seat use (PolRow, PolTwo); no statement of the seat is claimed in this text, and nothing is assumed in it.
-/
import Derived.Test.YtgklmpooonnmiaaDoorJ21
import Derived.Test.YtgklmpooonnmiaaDoorJ11
import Derived.Test.YtgklmpooonnmiaaDoorJ7
set_option linter.unusedVariables false
set_option linter.unusedSimpArgs false
namespace Go.Proofs.YtgklmpooonnmiaaDoor
open Go.RowKit
theorem infoEx : (Tryd.prog.info? 80).map (fun i => (i.zero, i.size, i.bytes)) = some (some (.agg #[.int .i64 0, .string ⟨#[]⟩, .int .i64 0, .slice none 0 0, .int .i64 0]), 5, 64) := by kernel_rfl
theorem appEx {ops : Array Oper} {rest : List Oper} {o : Oper} {a : Act} {w : World} {Q : Exit → Act → World → Prop} (hgd : o.guard = none) (s x : Operand)
  (ho : o.op = .call { callee := .builtin .append, args := #[s, x], argTypes := #[76, 76] })
  (B : Nat) (v : Value) (n : Nat) (xs cs : List Value) (hcs : cs.length = 5) (h1 : ∀ u ∈ cs, u.oneCell' = true) (hs : a.eval s = v) (hx : a.eval x = .slice (some ⟨w.heap.size, 0, none⟩) 1 1)
  (hown : w.ownsRow B 80 5 v n xs) (hB : B ≤ w.heap.size) (hn : n < 1000000)
  (h : ∀ g c w', w'.ownsRow B 80 5 (.slice (some ⟨g, 0, none⟩) (n + 1) c) (n + 1) (xs ++ cs) → w.grownBy w' v.ownBlock → (v.ownBlock = some g ∨ w.heap.size ≤ g) → wpList Tryd.prog ops Q rest (a.put o.dst (.slice (some ⟨g, 0, none⟩) (n + 1) c)) w') : wpList Tryd.prog ops Q (o :: rest) a (w.alloc (.cells cs.toArray 80)) := by
 obtain ⟨i, hi, hz0, hz1, hz2⟩ := info_parts infoEx
 refine wpList_append_lies (w.alloc _) hgd s x _ ho B 80 i _ 5 64 Tryd.underlying76 hi hz0 hz1 hz2 rfl (by decide) v n xs hs (ownsRow_fr hown ((Fr.refl _ _).alloc _)) _ 1 1 cs hx (by omega) (World.news_of_block (heap_alloc_last w _)) h1 (by decide) (by unfold maxLen; omega) (by omega) (Nat.le_trans hB (by simp)) _ rfl ?_
 intro g cap w' h1 h2 h3 _
 have hg := World.grownBy_alloc w (.cells cs.toArray 80) v.ownBlock
 exact h g cap w' h1 (hg.trans_ h2) (h3.imp id (fun h => by rw [h]; simp))
theorem Fr.of_grown {w w' : World} {o : Option Nat} (h : w.grownBy w' o) : Fr o.toList w w' :=
 ⟨h.os, h.tape, h.output, h.size, fun k hk hn => h.block k hk (fun hc => hn (by rw [← hc]; simp))⟩
structure Exs (w : World) (D : Nat → Prop) (css : List (List Value)) (L : List Ex) : Prop where
 len : css.length = L.length
 rep : ∀ (i : Nat) (x : Ex) (cs : List Value), L[i]? = some x → css[i]? = some cs → Rep w D cs x
theorem Exs.fr {bs : List Nat} {w w' : World} {D : Nat → Prop} (hf : Fr bs w w') (hb : ∀ y ∈ bs, y < w.heap.size → ¬ D y) {css : List (List Value)} {L : List Ex} (h : Exs w D css L) : Exs w' D css L :=
 ⟨h.len, fun i x cs hi hc => (h.rep i x cs hi hc).fr hf hb⟩
theorem Exs.mono {w : World} {D E : Nat → Prop} (hd : ∀ g, g < w.heap.size → D g → E g) {css : List (List Value)} {L : List Ex} (h : Exs w D css L) : Exs w E css L :=
 ⟨h.len, fun i x cs hi hc => (h.rep i x cs hi hc).mono hd⟩
theorem Exs.snoc {w : World} {D : Nat → Prop} {css : List (List Value)} {L : List Ex} {cs : List Value} {x : Ex} (h : Exs w D css L) (hx : Rep w D cs x) : Exs w D (css ++ [cs]) (L ++ [x]) := by
 refine ⟨by simp [h.len], fun i y ds hi hc => ?_⟩
 by_cases hl : i < L.length
 ·rw [List.getElem?_append_left hl] at hi
  rw [List.getElem?_append_left (by rw [h.len]; exact hl)] at hc
  exact h.rep i y ds hi hc
 ·have h0 : i = L.length := by have := (List.getElem?_eq_some_iff.1 hi).1; simp at this; omega
  subst h0
  simp at hi
  rw [← h.len] at hc
  simp at hc
  subst hi hc
  exact hx
theorem Exs.one {w : World} {D : Nat → Prop} {cs : List Value} {x : Ex} (hx : Rep w D cs x) : Exs w D [cs] [x] := by
 refine ⟨rfl, fun i y ds hi hc => ?_⟩
 have h0 : i = 0 := by have := (List.getElem?_eq_some_iff.1 hi).1; simp at this; omega
 subst h0
 simp at hi hc
 subst hi hc
 exact hx
def RowDone (r g nest : Nat) (w : World) (q : Pol.PR (List Ex)) (e : Ending) (w' : World) : Prop :=
 match q with
 | .ok (L, m) => ∃ v css, e = .returned v ∧ w'.ownsRow w.heap.size 80 5 v L.length css.flatten ∧ Exs w' (fun i => w.heap.size ≤ i ∧ v.ownBlock ≠ some i) css L ∧ Fr [r] w w' ∧ ∃ o c, Rd w' r g o c m nest
 | .error (p, n) => Stops [r] w p n e w'
theorem RowDone.stop {r g nest : Nat} {w w' : World} {p n : Int} {e : Ending} (h : Stops [r] w p n e w') : RowDone r g nest w (.error (p, n)) e w' := h
def Pol.rowK (A : List Ex) : Pol.PR (List Ex) → Pol.PR (List Ex)
 | .error e => .error e
 | .ok (L, m) => .ok (A ++ L, m)
structure RowSt (w : World) (r g o c : Nat) (m : List TI) (nest : Nat) (v : Value) (css : List (List Value)) (A : List Ex) (W : World) : Prop where
 rd : Rd W r g o c m nest
 own : W.ownsRow w.heap.size 80 5 v A.length css.flatten
 exs : Exs W (fun i => w.heap.size ≤ i ∧ v.ownBlock ≠ some i) css A
 f : Fr [r] w W
 rl : r < w.heap.size
 gl : g < w.heap.size
theorem RowSt.step {w : World} {r g o c : Nat} {m : List TI} {nest : Nat} {v : Value} {css : List (List Value)} {A : List Ex} {W W' : World} {o' c' : Nat} {m' : List TI} {nest' : Nat} (h : RowSt w r g o c m nest v css A W) (hf : Fr [r] W W') (hr : Rd W' r g o' c' m' nest') : RowSt w r g o' c' m' nest' v css A W' := by
 have h1 := h.rl
 refine ⟨hr, ?_, h.exs.fr hf (fun y hy _ => by simp at hy; omega), h.f.trans hf (fun y hy => .inl hy), h1, h.gl⟩
 refine ⟨h.own.1, ?_⟩
 rcases h.own.2 with h | ⟨g0, cap, cur, hv, hb, hg, hr⟩
 ·exact Or.inl h
 ·exact Or.inr ⟨g0, cap, cur, hv, hb, hf.row hg (by simp; omega), hr⟩
theorem RowSt.grow {w : World} {r g o c : Nat} {m : List TI} {nest : Nat} {v : Value} {css : List (List Value)} {A : List Ex} {W U : World} {cs : List Value} {x : Ex} (h : RowSt w r g o c m nest v css A W) (hx : Rep W (fun i => w.heap.size ≤ i ∧ v.ownBlock ≠ some i) cs x)
  {g1 c1 : Nat} (ho : U.ownsRow w.heap.size 80 5 (.slice (some ⟨g1, 0, none⟩) (A.length + 1) c1) (A.length + 1) (css.flatten ++ cs)) (hg : W.grownBy U v.ownBlock) (hgg : v.ownBlock = some g1 ∨ W.heap.size ≤ g1) :
  RowSt w r g o c m nest (.slice (some ⟨g1, 0, none⟩) (A.length + 1) c1) (css ++ [cs]) (A ++ [x]) U := by
 have h1 := h.rl; have h2 := h.gl
 have hf := Fr.of_grown hg
 have hbase : ∀ y ∈ v.ownBlock.toList, w.heap.size ≤ y := fun y hy => by
  rcases h.own.2 with ⟨hv, _⟩ | ⟨g0, cap, cur, hv, hb, _⟩
  ·rw [hv] at hy; simp [Value.ownBlock] at hy
  ·rw [hv] at hy; simp [Value.ownBlock] at hy; omega
 have hnot : ∀ y ∈ v.ownBlock.toList, y < W.heap.size → ¬ (w.heap.size ≤ y ∧ v.ownBlock ≠ some y) := fun y hy _ hc => hc.2 (by simpa using hy)
 have hD : ∀ i, i < W.heap.size → (w.heap.size ≤ i ∧ v.ownBlock ≠ some i) → (w.heap.size ≤ i ∧ v.ownBlock ≠ some i ∧ i ≠ g1) := fun i hi hc => ⟨hc.1, hc.2, fun h9 => by
  subst h9
  rcases hgg with h8 | h8
  ·exact hc.2 h8
  ·omega⟩
 have hE : ∀ i, i < U.heap.size → (w.heap.size ≤ i ∧ v.ownBlock ≠ some i ∧ i ≠ g1) → (w.heap.size ≤ i ∧ (Value.slice (some ⟨g1, 0, none⟩) (A.length + 1) c1).ownBlock ≠ some i) := fun i _ hc => ⟨hc.1, fun h9 => by
  simp [Value.ownBlock] at h9
  exact hc.2.2 h9.symm⟩
 refine ⟨h.rd.fr hf (fun hc => by have := hbase _ hc; omega) (fun hc => by have := hbase _ hc; omega), ?_, ?_, h.f.trans hf (fun y hy => .inr (hbase y hy)), h1, h2⟩
 ·rw [List.length_append, List.flatten_append]
  simpa using ho
 ·have h5 := (((h.exs.snoc hx).mono hD).fr hf (fun y hy hl hc => hc.2.1 (by simpa using hy))).mono hE
  exact h5
set_option maxHeartbeats 4000000 in
set_option maxRecDepth 100000 in
theorem row_reads (f : Nat) (hO : ∀ f' ≤ f, ReadsEx 110 (Pol.operand f')) (w : World) (r g o c : Nat) (l : List TI) (nest : Nat) (h : Rd w r g o c l nest) (hE : Ends l) (hn : nest ≤ 12) (hr : r < w.heap.size)
  (hfed : Pol.Fed (Pol.row (f + 1) nest l)) :
  Calls Tryd.prog 113 #[.pointer (some ⟨r, 0, none⟩), .func (.func 110) #[.pointer (some ⟨r, 0, none⟩)] #[]] w (RowDone r g nest w (Pol.row (f + 1) nest l)) := by
 obtain ⟨Q, hQ⟩ : ∃ Q, Pol.row (f + 1) nest l = Q := ⟨_, rfl⟩
 rw [hQ] at hfed ⊢
 rw [Pol.row] at hQ
 have HRD := Lib.hid h
 have HE := Lib.hid hE
 have HO := Lib.hid hO
 have HFD := Lib.hid hfed
 have hg := h.gl
 have HQ := Lib.hid hQ
 have HC := Lib.hid (hO f (Nat.le_refl _) w r g o c l nest h hE hn hr (fun p hp => hfed p (by rw [← hQ, hp])))
 obtain ⟨q, hq⟩ : ∃ q, Pol.operand f nest l = q := ⟨_, rfl⟩
 rw [hq] at HC HQ
 have Hq := Lib.hid hq
 clear h hE hO hfed hQ hq
 go_enter Tryd.func113, Tryd.ntmps113
 go_wp2_with fail
 refine HC.out.mono ?_
 intro e w1 hd
 cases q with
 | error pe =>
  obtain ⟨pp, pn⟩ := pe
  have HQ2 : Hid (.error (pp, pn) = Q) := HQ.out
  have hs : Stops [r] _ pp pn e w1 := hd
  obtain ⟨b9, hb9, rfl, hrow9, hf9⟩ := hs
  show _
  exact ⟨rfl, by rw [← HQ2.out]; exact RowDone.stop ⟨b9, hb9, rfl, hrow9, hf9⟩⟩
 | ok xm =>
  obtain ⟨x, m⟩ := xm
  obtain ⟨cs, rfl, hrep, hf3, o3, c3, hr3⟩ := hd
  obtain ⟨op0, s9, n9, q9, k9, c9, p9, rfl⟩ := hrep.form
  have HEM : Hid (Ends m) := (Pol.all_keep f).1 _ _ _ _ Hq.out HE.out
  have HQ2 : Hid (Q = if Pol.is m 4 [44] = true then Pol.rowK [x] (Pol.row f nest m.tail) else .ok ([x], m)) := by
   show _ = _
   rw [← HQ.out]
   simp only []
   split
   ·cases Pol.row f nest m.tail <;> rfl
   ·rfl
  have hA : Fr [] w1 (w1.alloc (.cells #[.int .i64 op0, .string s9, .int .i64 n9, .slice q9 k9 c9, .int .i64 p9] 80)) := (Fr.refl _ _).alloc _
  have hwz := hf3.size
  have HST : Hid (RowSt w r g o3 c3 m nest (.slice (some ⟨w1.heap.size, 0, none⟩) 1 1) [[.int .i64 op0, .string s9, .int .i64 n9, .slice q9 k9 c9, .int .i64 p9]] [x] (w1.alloc (.cells #[.int .i64 op0, .string s9, .int .i64 n9, .slice q9 k9 c9, .int .i64 p9] 80))) :=
   ⟨hr3.fr hA (by simp) (by simp), ⟨rfl, Or.inr ⟨w1.heap.size, 1, _, rfl, hwz, heap_alloc_last _ _, Nat.le_refl _, by decide, rfl, rfl⟩⟩, (Exs.one (hrep.mono (fun i hi h => ⟨h, fun h9 => by simp [Value.ownBlock] at h9; omega⟩))).fr hA (fun y hy _ => by cases hy), hf3.trans0 hA, hr, hg⟩
  clear hrep hf3 hr3 HQ HC hA
  go_wp2_with fail
  have hsh : m.length < l.length := (Pol.all_shrink f).1 _ _ _ _ Hq.out
  have hfew : l.length ≤ 1000000 := HRD.out.few
  go_loopg [5] f (fun q s5 W => ∃ (o c : Nat) (m : List TI) (css : List (List Value)) (A : List Ex) (c5 : Nat) (g5 : Nat), q ≤ f ∧ s5 = .slice (some ⟨g5, 0, none⟩) A.length c5 ∧ Hid (Q = if Pol.is m 4 [44] = true then Pol.rowK A (Pol.row q nest m.tail) else .ok (A, m)) ∧ Hid (Ends m) ∧ Hid (RowSt w r g o c m nest (.slice (some ⟨g5, 0, none⟩) A.length c5) css A W) ∧ Hid (A.length + m.length ≤ 1000000))
  case atStart => exact ⟨_, _, _, _, [x], _, _, Nat.le_refl _, rfl, HQ2.out, HEM.out, HST.out, by show 1 + _ ≤ _; omega⟩
  case round =>
   clear HST HQ2 HEM Hq HRD hsh hfew
   obtain ⟨o, c, m, css, A, c5, g5, hq, rfl, HQ, HE, H, HA⟩ := hrel
   have HQL := Lib.hid hq
   clear hq
   obtain ⟨t, l1, rfl⟩ := HE.out.cons
   have hr2 : r < wr.heap.size := Nat.lt_of_lt_of_le hr H.out.f.size
   cases hp : Pol.is (t :: l1) 4 [44] with
   | false =>
    have HQ2 : Hid (Q = .ok (A, t :: l1)) := by show _ = _; rw [HQ.out, hp]; rfl
    have HP := Lib.hid hp
    clear hp HQ
    have HN := Lib.hid (rd_took_no wr r g _ _ _ _ nest 4 ⟨#[44]⟩ H.out.rd HP.out)
    go_wp2_with fail
    refine HN.out.mono ?_
    rintro e w2 ⟨rfl, rfl⟩
    go_wp2_with fail
    refine bodyPost_ret (results_tmp rfl _ _ _) rfl ?_
    rw [HQ2.out]
    exact ⟨_, css, rfl, H.out.own, H.out.exs, H.out.f, _, _, H.out.rd⟩
   | true =>
    have hE1 : Ends l1 := Pol.is_tail hp (by decide) HE.out
    have HQ2 : Hid (Q = Pol.rowK A (Pol.row gk nest l1)) := by show _ = _; rw [HQ.out, hp]; rfl
    have HP := Lib.hid hp
    have HE1 := Lib.hid hE1
    have hl1 := hE1.pos
    clear hp HQ hE1
    have HN := Lib.hid (rd_took_yes wr r g _ _ _ _ nest 4 ⟨#[44]⟩ H.out.rd hl1 HP.out)
    cases gk with
    | zero =>
     exact absurd (HQ2.out.trans (by rw [Pol.row]; rfl)) (HFD.out (Pol.place l1))
    | succ j =>
     have hjf : j + 1 ≤ f := HQL.out
     go_wp2_with fail
     refine HN.out.mono ?_
     rintro e w2 ⟨rfl, hf1, hr1⟩
     have H := Lib.hid (H.out.step hf1 hr1)
     clear HN hf1 hr1 hr2
     have hr2 : r < w2.heap.size := Nat.lt_of_lt_of_le hr H.out.f.size
     have HC := Lib.hid (HO.out j (by omega) w2 r g _ _ l1 nest H.out.rd HE1.out hn hr2 (fun p hp => HFD.out p (by rw [HQ2.out, Pol.row, hp]; rfl)))
     have HQ3 : Hid (Q = Pol.rowK A (match Pol.operand j nest l1 with | .error e => .error e | .ok (x, m) => if Pol.is m 4 [44] = true then (match Pol.row j nest m.tail with | .error e => .error e | .ok (L, m) => .ok (x :: L, m)) else .ok ([x], m))) := by
      show _ = _
      rw [HQ2.out, Pol.row]
      congr 1
     obtain ⟨q, hq⟩ : ∃ q, Pol.operand j nest l1 = q := ⟨_, rfl⟩
     rw [hq] at HC HQ3
     have Hq := Lib.hid hq
     clear hq HQ2
     go_wp2_with fail
     refine HC.out.mono ?_
     intro e w3 hd
     cases q with
     | error pe =>
      obtain ⟨pp, pn⟩ := pe
      have HQ4 : Hid (Q = .error (pp, pn)) := HQ3.out
      have hs : Stops [r] _ pp pn e w3 := hd
      obtain ⟨b9, hb9, rfl, hrow9, hf9⟩ := hs.from (bs := [r]) H.out.f (fun y hy => .inl (by simpa using hy))
      show _
      exact ⟨rfl, by rw [HQ4.out]; exact RowDone.stop ⟨b9, hb9, rfl, hrow9, hf9⟩⟩
     | ok xm =>
      obtain ⟨y, m⟩ := xm
      obtain ⟨cs, rfl, hrep, hf3, o3, c3, hr3⟩ := hd
      obtain ⟨op0, s9, n9, q9, k9, c9, p9, rfl⟩ := hrep.form
      have HEM : Hid (Ends m) := (Pol.all_keep j).1 _ _ _ _ Hq.out HE1.out
      have hsh : m.length < l1.length := (Pol.all_shrink j).1 _ _ _ _ Hq.out
      have HQ4 : Hid (Q = if Pol.is m 4 [44] = true then Pol.rowK (A ++ [y]) (Pol.row j nest m.tail) else .ok (A ++ [y], m)) := by
       show _ = _
       rw [HQ3.out]
       simp only []
       split
       ·cases Pol.row j nest m.tail with
        | error e => rfl
        | ok p => show Except.ok _ = Except.ok _; simp
       ·rfl
      have hA9 := HA.out
      rw [List.length_cons] at hA9
      have hrow5 : g5 < w2.heap.size := ownsRow_lt H.out.own
      have HREP : Hid (Rep w3 (fun i => w.heap.size ≤ i ∧ (Value.slice (some ⟨g5, 0, none⟩) A.length c5).ownBlock ≠ some i) [.int .i64 op0, .string s9, .int .i64 n9, .slice q9 k9 c9, .int .i64 p9] y) := hrep.mono (fun i hi h => by
       have h8 : w2.heap.size ≤ i := h
       have h7 := H.out.f.size
       exact ⟨by omega, fun h9 => by simp [Value.ownBlock] at h9; omega⟩)
      have H := Lib.hid (H.out.step hf3 hr3)
      have HA2 : Hid ((A ++ [y]).length + m.length ≤ 1000000) := by show _ ≤ _; rw [List.length_append]; simp; omega
      have HONE := Lib.hid HREP.out.one
      have hAl : A.length < 1000000 := by omega
      have hw3 : w.heap.size ≤ w3.heap.size := H.out.f.size
      clear hrep hf3 hr3 HC HQ3 hA9
      go_wp2_with (at_builtin; refine appEx rfl (.tmp 11) (.tmp 14) rfl w.heap.size _ _ _ [.int .i64 op0, .string s9, .int .i64 n9, .slice q9 k9 c9, .int .i64 p9] rfl HONE.out rfl rfl H.out.own hw3 hAl ?_)
      intro g1 c1 w4 ho hg1 hgg
      have H := Lib.hid (H.out.grow HREP.out ho hg1 hgg)
      clear ho hg1 hgg
      go_wp2_with fail
      go_roundg j
      case measure => omega
      case rel => exact ⟨_, _, _, _, A ++ [y], c1, g1, by omega, by simp, HQ4.out, HEM.out, by show RowSt _ _ _ _ _ _ _ _ _ _ _; rw [List.length_append]; exact H.out, HA2.out⟩
end Go.Proofs.YtgklmpooonnmiaaDoor

namespace Go.Proofs.YtgklmpooonnmiaaDoor
open Go.RowKit
structure Cls (D : Nat → Prop) (B b1 T A r g o c : Nat) (l : List TI) (nest : Nat) (t : TI) (ca : List Value) (a : Ex) (W : World) : Prop where
 rd : Rd W r g o c l nest
 box : W.heap[b1]? = some (.cells #[.pointer (some ⟨r, 0, none⟩)] 94 (0, 0))
 tok : W.heap[T]? = some (.cells #[.int .i64 t.k, .string t.s, .int .i64 t.n, .int .i64 t.p] 25 (0, 0))
 av : W.heap[A]? = some (.cells ca.toArray 80 (0, 0))
 rep : Rep W D ca a
 dB : ∀ i, D i → B ≤ i
 rB : r < B
 gB : g < B
 Bb : B ≤ b1
 BT : B ≤ T
 BA : B ≤ A
theorem Cls.step {D : Nat → Prop} {B b1 T A r g o c : Nat} {l : List TI} {nest : Nat} {t : TI} {ca : List Value} {a : Ex} {W W' : World} {o' c' : Nat} {l' : List TI} {nest' : Nat} (h : Cls D B b1 T A r g o c l nest t ca a W) (hf : Fr [r] W W') (hr : Rd W' r g o' c' l' nest') : Cls D B b1 T A r g o' c' l' nest' t ca a W' := by
 have h1 := h.rB; have h2 := h.Bb; have h3 := h.BT; have h4 := h.BA
 exact ⟨hr, hf.row h.box (by simp; omega), hf.row h.tok (by simp; omega), hf.row h.av (by simp; omega), h.rep.fr hf (fun y hy _ hc => by have := h.dB _ hc; simp at hy; omega), h.dB, h1, h.gB, h2, h3, h4⟩
theorem Cls.fr {D : Nat → Prop} {B b1 T A r g o c : Nat} {l : List TI} {nest : Nat} {t : TI} {ca : List Value} {a : Ex} {W W' : World} (h : Cls D B b1 T A r g o c l nest t ca a W) (hf : Fr [] W W') : Cls D B b1 T A r g o c l nest t ca a W' :=
 ⟨h.rd.fr hf (by simp) (by simp), hf.row h.box (by simp), hf.row h.tok (by simp), hf.row h.av (by simp), h.rep.fr hf (fun y hy _ => by cases hy), h.dB, h.rB, h.gB, h.Bb, h.BT, h.BA⟩
def TwoDone (D : Nat → Prop) (r g nest : Nat) (op p : Int) (a : Ex) (w : World) (q : Pol.PR Ex) (e : Ending) (w' : World) : Prop :=
 match q with
 | .error (p, n) => Stops [r] w p n e w'
 | .ok (y, m) => ∃ ca cb rb, e = .returned (.agg #[.int .i64 op, .string ⟨#[]⟩, .int .i64 0, .slice (some ⟨rb, 0, none⟩) 2 2, .int .i64 p]) ∧ w'.heap[rb]? = some (.cells (ca ++ cb).toArray 80 (0, 0)) ∧ w.heap.size ≤ rb ∧
   Rep w' (fun i => D i ∧ i ≠ rb) ca a ∧ Rep w' (fun i => D i ∧ i ≠ rb) cb y ∧ Fr [r] w w' ∧ ∃ o c, Rd w' r g o c m nest
theorem TwoDone.stop {D : Nat → Prop} {r g nest : Nat} {op p0 : Int} {a : Ex} {w w' : World} {p n : Int} {e : Ending} (h : Stops [r] w p n e w') : TwoDone D r g nest op p0 a w (.error (p, n)) e w' := h
set_option maxHeartbeats 4000000 in
set_option maxRecDepth 100000 in
theorem two_reads (D : Nat → Prop) (B b1 T A r g o c : Nat) (u : TI) (l : List TI) (nest : Nat) (t : TI) (ca : List Value) (a : Ex) (w : World) (h : Cls D B b1 T A r g o c (u :: l) nest t ca a w) (hDw : ∀ i, w.heap.size ≤ i → D i) (hl : 0 < l.length) (op : Int) (q : Pol.PR Ex)
  (hC : ∀ W o c, Rd W r g o c l nest → r < W.heap.size → Calls Tryd.prog 110 #[.pointer (some ⟨r, 0, none⟩)] W (Done r g nest W q)) :
  Calls Tryd.prog 111 #[.int .i64 op, .pointer (some ⟨b1, 0, none⟩), .pointer (some ⟨T, 0, none⟩), .pointer (some ⟨A, 0, none⟩)] w (TwoDone D r g nest op t.p a w q) := by
 have H0 := Lib.hid (h.fr ((Fr.refl [] w).alloc (.cells z5 80)))
 have HC := Lib.hid hC
 have HR := Lib.hid (heap_alloc_last w (.cells z5 80))
 have hT := row_lt h.tok
 have hA := row_lt h.av
 have hb1 := row_lt h.box
 have hrw := row_lt h.rd.row
 obtain ⟨op0, s9, n9, q9, k9, c9, p9, rfl⟩ := h.rep.form
 obtain ⟨tk, ts, tn, tp⟩ := t
 have HRA : Hid (∀ U, Fr [r] w U → Rep U (fun i => D i ∧ i < w.heap.size) [.int .i64 op0, .string s9, .int .i64 n9, .slice q9 k9 c9, .int .i64 p9] a) := fun U hU => (h.rep.mono (fun i hi h => ⟨h, hi⟩)).fr hU (fun y hy _ => by have h8 := h.rB; simp at hy; subst hy; exact fun hc => by have := h.dB _ hc.1; omega)
 have hBb := h.Bb
 have hrB := h.rB
 have hgB := h.gB
 clear h hC
 go_enter Tryd.func111, Tryd.ntmps111
 go_wp2_with fail
 refine wp_fresh (fun W => Cls D B b1 T A r g o c (u :: l) nest ⟨tk, ts, tn, tp⟩ [.int .i64 op0, .string s9, .int .i64 n9, .slice q9 k9 c9, .int .i64 p9] a W ∧ W.heap[w.heap.size]? = some (.cells z5 80 (0, 0)) ∧ Fr [] w W) ⟨H0.out, HR.out, (Fr.refl _ _).alloc _⟩ ?_
 rintro W ⟨h1, h2, h3⟩
 have H := Lib.hid h1
 have HR := Lib.hid h2
 have HF := Lib.hid h3
 clear h1 h2 h3 H0
 have c0 := H.out.rd.c0
 have f0 := frozen_of_row _ _ 0 _ _ H.out.rd.row
 have hlc := H.out.rd.lc
 have hm := H.out.rd.cm
 have hne := H.out.rd.ne
 rw [List.length_cons] at c0 hlc
 unfold maxLen at hm
 have xf : ∀ i, W.frozen? ⟨b1, i, none⟩ = false := fun i => Lib.frozen_of_heap H.out.box i
 have x0 : W.cell? ⟨b1, 0, none⟩ = some (.pointer (some ⟨r, 0, none⟩)) := by rw [Lib.cell_of_heap H.out.box]; rfl
 go_region
 all_goals
  refine then_fresh (fun V => Cls D B b1 T A r g (o + 4) (c - 1) l nest ⟨tk, ts, tn, tp⟩ [.int .i64 op0, .string s9, .int .i64 n9, .slice q9 k9 c9, .int .i64 p9] a V ∧ V.heap[w.heap.size]? = some (.cells z5 80 (0, 0)) ∧ Fr [r] w V)
   ⟨(H.out.step ((Fr.refl [r] W).setCell (p := ⟨r, 0, none⟩) (.inl (by simp)) _) H.out.rd.cut).fr (Fr.refl [] _).drew, ((Fr.refl [r] W).setCell (p := ⟨r, 0, none⟩) (.inl (by simp)) (.slice (some ⟨g, o + 4, none⟩) l.length (c - 1))).drew.row HR.out (by simp; omega), (HF.out.sub.setCell (p := ⟨r, 0, none⟩) (.inl (by simp)) _).drew⟩ ?_
  rintro V ⟨h1, h2, h3⟩
  have H := Lib.hid h1
  have HR := Lib.hid h2
  have HF := Lib.hid h3
  clear h1 h2 h3 c0 f0 hlc hm x0 xf
  have HS : Hid (∀ (U : World), U.heap[T]? = some (.cells #[.int .i64 tk, .string ts, .int .i64 tn, .int .i64 tp] 25 (0, 0)) → U.heap[A]? = some (.cells #[.int .i64 op0, .string s9, .int .i64 n9, .slice q9 k9 c9, .int .i64 p9] 80 (0, 0)) → U.heap[b1]? = some (.cells #[.pointer (some ⟨r, 0, none⟩)] 94 (0, 0)) → ((fun W' => W'.cell? ⟨T, 3, none⟩ = some (.int .i64 tp) ∧ W'.cell? ⟨A, 0, none⟩ = some (.int .i64 op0) ∧ W'.cell? ⟨A, 1, none⟩ = some (.string s9) ∧ W'.cell? ⟨A, 2, none⟩ = some (.int .i64 n9) ∧ W'.cell? ⟨A, 3, none⟩ = some (.slice q9 k9 c9) ∧ W'.cell? ⟨A, 4, none⟩ = some (.int .i64 p9) ∧ W'.cell? ⟨b1, 0, none⟩ = some (.pointer (some ⟨r, 0, none⟩))) : World → Prop) U) := fun U h1 h2 h3 =>
   ⟨by rw [Lib.cell_of_heap h1]; rfl, by rw [Lib.cell_of_heap h2]; rfl, by rw [Lib.cell_of_heap h2]; rfl, by rw [Lib.cell_of_heap h2]; rfl, by rw [Lib.cell_of_heap h2]; rfl, by rw [Lib.cell_of_heap h2]; rfl, by rw [Lib.cell_of_heap h3]; rfl⟩
  have H0 := Lib.hid (H.out.fr (Fr.refl [] _).drew)
  have hS0 := HS.out _ H0.out.tok H0.out.av H0.out.box
  have HN := Lib.hid (HC.out V.drew _ _ H0.out.rd (Nat.lt_of_lt_of_le hrw HF.out.size))
  have hwV : w.heap.size < V.heap.size := row_lt HR.out
  go_wp2_with fail
  cases q with
  | error pe =>
   obtain ⟨pp, pn⟩ := pe
   have HX : Hid (Calls Tryd.prog 110 #[.pointer (some ⟨r, 0, none⟩)] V.drew (Stops [r] w pp pn)) := HN.out.mono (fun x W' (hs : Stops [r] V.drew pp pn x W') => hs.from (HF.out.drew) (fun y hy => .inl (by simpa using hy)))
   refine wp_region_held_drew (S := (fun W' => W'.cell? ⟨T, 3, none⟩ = some (.int .i64 tp) ∧ W'.cell? ⟨A, 0, none⟩ = some (.int .i64 op0) ∧ W'.cell? ⟨A, 1, none⟩ = some (.string s9) ∧ W'.cell? ⟨A, 2, none⟩ = some (.int .i64 n9) ∧ W'.cell? ⟨A, 3, none⟩ = some (.slice q9 k9 c9) ∧ W'.cell? ⟨A, 4, none⟩ = some (.int .i64 p9) ∧ W'.cell? ⟨b1, 0, none⟩ = some (.pointer (some ⟨r, 0, none⟩)))) (by kernel_rfl) (hS0) (fun hHeld => ?_)
   refine held_take (i := 0) (v := ?_) 14 rfl rfl (by kernel_rfl) (by kernel_rfl) (by kernel_rfl) (fun _ _ _ h => h) (Or.inl ⟨by rfl, ?_⟩) (by assumption) ?_
   rotate_left 1
   ·intro w hSw; (try dsimp only at hSw); go_simp; try (with_reducible rfl)
   try simp only [Act.put, List.setIfInBounds_toArray, List.set_cons_zero, List.set_cons_succ]
   refine held_take (i := 1) (v := ?_) 15 rfl rfl (by kernel_rfl) (by kernel_rfl) (by kernel_rfl) (fun _ _ _ h => h) (Or.inl ⟨by rfl, ?_⟩) (by assumption) ?_
   rotate_left 1
   ·intro w hSw; (try dsimp only at hSw); go_simp; try (with_reducible rfl)
   try simp only [Act.put, List.setIfInBounds_toArray, List.set_cons_zero, List.set_cons_succ]
   refine held_take (i := 2) (v := ?_) 16 rfl rfl (by kernel_rfl) (by kernel_rfl) (by kernel_rfl) (fun _ _ _ h => h) (Or.inl ⟨by rfl, ?_⟩) (by assumption) ?_
   rotate_left 1
   ·intro w hSw; (try dsimp only at hSw); go_simp; try (with_reducible rfl)
   try simp only [Act.put, List.setIfInBounds_toArray, List.set_cons_zero, List.set_cons_succ]
   refine held_take (i := 3) (v := ?_) 17 rfl rfl (by kernel_rfl) (by kernel_rfl) (by kernel_rfl) (fun _ _ _ h => h) (Or.inl ⟨by rfl, ?_⟩) (by assumption) ?_
   rotate_left 1
   ·intro w hSw; (try dsimp only at hSw); go_simp; try (with_reducible rfl)
   try simp only [Act.put, List.setIfInBounds_toArray, List.set_cons_zero, List.set_cons_succ]
   refine held_take (i := 4) (v := ?_) 18 rfl rfl (by kernel_rfl) (by kernel_rfl) (by kernel_rfl) (fun _ _ _ h => h) (Or.inl ⟨by rfl, ?_⟩) (by assumption) ?_
   rotate_left 1
   ·intro w hSw; (try dsimp only at hSw); go_simp; try (with_reducible rfl)
   try simp only [Act.put, List.setIfInBounds_toArray, List.set_cons_zero, List.set_cons_succ]
   refine wpAnyH_ready (rs := [5]) (by kernel_rfl) (by simp) ?_
   refine AllReadyH.cons rfl (fun K hK => ?_) AllReadyH.nil
   go_simp
   go_at_call 110
   refine HX.out.mono ?_
   rintro e w2 ⟨b9, hb9, rfl, hrow9, hf9⟩
   show _
   exact ⟨rfl, TwoDone.stop ⟨b9, hb9, rfl, hrow9, hf9⟩⟩
  | ok xm =>
   obtain ⟨y, m⟩ := xm
   refine wp_region_held_drew (S := (fun W' => W'.cell? ⟨T, 3, none⟩ = some (.int .i64 tp) ∧ W'.cell? ⟨A, 0, none⟩ = some (.int .i64 op0) ∧ W'.cell? ⟨A, 1, none⟩ = some (.string s9) ∧ W'.cell? ⟨A, 2, none⟩ = some (.int .i64 n9) ∧ W'.cell? ⟨A, 3, none⟩ = some (.slice q9 k9 c9) ∧ W'.cell? ⟨A, 4, none⟩ = some (.int .i64 p9) ∧ W'.cell? ⟨b1, 0, none⟩ = some (.pointer (some ⟨r, 0, none⟩)))) (by kernel_rfl) (hS0) (fun hHeld => ?_)
   refine held_take (i := 0) (v := ?_) 14 rfl rfl (by kernel_rfl) (by kernel_rfl) (by kernel_rfl) (fun _ _ _ h => h) (Or.inl ⟨by rfl, ?_⟩) (by assumption) ?_
   rotate_left 1
   ·intro w hSw; (try dsimp only at hSw); go_simp; try (with_reducible rfl)
   try simp only [Act.put, List.setIfInBounds_toArray, List.set_cons_zero, List.set_cons_succ]
   refine held_take (i := 1) (v := ?_) 15 rfl rfl (by kernel_rfl) (by kernel_rfl) (by kernel_rfl) (fun _ _ _ h => h) (Or.inl ⟨by rfl, ?_⟩) (by assumption) ?_
   rotate_left 1
   ·intro w hSw; (try dsimp only at hSw); go_simp; try (with_reducible rfl)
   try simp only [Act.put, List.setIfInBounds_toArray, List.set_cons_zero, List.set_cons_succ]
   refine held_take (i := 2) (v := ?_) 16 rfl rfl (by kernel_rfl) (by kernel_rfl) (by kernel_rfl) (fun _ _ _ h => h) (Or.inl ⟨by rfl, ?_⟩) (by assumption) ?_
   rotate_left 1
   ·intro w hSw; (try dsimp only at hSw); go_simp; try (with_reducible rfl)
   try simp only [Act.put, List.setIfInBounds_toArray, List.set_cons_zero, List.set_cons_succ]
   refine held_take (i := 3) (v := ?_) 17 rfl rfl (by kernel_rfl) (by kernel_rfl) (by kernel_rfl) (fun _ _ _ h => h) (Or.inl ⟨by rfl, ?_⟩) (by assumption) ?_
   rotate_left 1
   ·intro w hSw; (try dsimp only at hSw); go_simp; try (with_reducible rfl)
   try simp only [Act.put, List.setIfInBounds_toArray, List.set_cons_zero, List.set_cons_succ]
   refine held_take (i := 4) (v := ?_) 18 rfl rfl (by kernel_rfl) (by kernel_rfl) (by kernel_rfl) (fun _ _ _ h => h) (Or.inl ⟨by rfl, ?_⟩) (by assumption) ?_
   rotate_left 1
   ·intro w hSw; (try dsimp only at hSw); go_simp; try (with_reducible rfl)
   try simp only [Act.put, List.setIfInBounds_toArray, List.set_cons_zero, List.set_cons_succ]
   refine wpAnyH_ready (rs := [5]) (by kernel_rfl) (by simp) ?_
   refine AllReadyH.cons rfl (fun K hK => ?_) AllReadyH.nil
   go_simp
   go_at_call 110
   refine HN.out.mono ?_
   rintro e w3 ⟨ds, rfl, hrep, hFb, o3, c3, hr3⟩
   obtain ⟨op1, s1, n1, q1, k1, c1, p1, rfl⟩ := hrep.form
   have H3 := Lib.hid (H0.out.step hFb hr3)
   have HY := Lib.hid hrep
   have HF3 : Hid (Fr [r] w w3) := (HF.out.drew).trans hFb (fun y hy => .inl hy)
   have HR3 : Hid (w3.heap[w.heap.size]? = some (.cells z5 80 (0, 0))) := hFb.row (show V.drew.heap[w.heap.size]? = _ from HR.out) (by simp; omega)
   clear hrep hFb hr3
   refine hK.out _ _ (HS.out _ H3.out.tok H3.out.av H3.out.box) (fun hHeld => ?_)
   clear hK K
   try simp only [Act.put, List.setIfInBounds_toArray, List.set_cons_zero, List.set_cons_succ]
   refine wpAnyH_ready (rs := [6]) (by kernel_rfl) (by simp) ?_
   refine AllReadyH.cons rfl (fun K hK => ?_) AllReadyH.nil
   go_simp
   refine hK.out _ _ (HS.out _ (H3.out.fr ((Fr.refl [] _).alloc _)).tok (H3.out.fr ((Fr.refl [] _).alloc _)).av (H3.out.fr ((Fr.refl [] _).alloc _)).box) (fun hHeld => ?_)
   clear hK K
   try simp only [Act.put, List.setIfInBounds_toArray, List.set_cons_zero, List.set_cons_succ]
   refine held_take (i := 7) (v := ?_) 21 rfl rfl (by kernel_rfl) (by kernel_rfl) (by kernel_rfl) (fun _ _ _ h => h) (Or.inl ⟨by rfl, ?_⟩) (by assumption) ?_
   rotate_left 1
   ·intro w hSw; (try dsimp only at hSw); go_simp; try (with_reducible rfl)
   try simp only [Act.put, List.setIfInBounds_toArray, List.set_cons_zero, List.set_cons_succ]
   have hw3 : w.heap.size < w3.heap.size := row_lt HR3.out
   refine wpAnyH_fresh (fun U => Cls D B b1 T A r g o3 c3 m nest ⟨tk, ts, tn, tp⟩ [.int .i64 op0, .string s9, .int .i64 n9, .slice q9 k9 c9, .int .i64 p9] a U ∧ U.heap[w.heap.size]? = some (.cells z5 80 (0, 0)) ∧ Fr [r] w U ∧ U.heap[w3.heap.size]? = some (.cells #[.int .i64 op0, .string s9, .int .i64 n9, .slice q9 k9 c9, .int .i64 p9, .int .i64 op1, .string s1, .int .i64 n1, .slice q1 k1 c1, .int .i64 p1] 80 (0, 0)) ∧ Rep U (fun i => D i ∧ i ≠ w3.heap.size ∧ i ≠ w.heap.size) [.int .i64 op1, .string s1, .int .i64 n1, .slice q1 k1 c1, .int .i64 p1] y ∧ Rep U (fun i => D i ∧ i ≠ w3.heap.size ∧ i ≠ w.heap.size) [.int .i64 op0, .string s9, .int .i64 n9, .slice q9 k9 c9, .int .i64 p9] a)
    ⟨H3.out.fr ((Fr.refl [] _).alloc _), ((Fr.refl [] _).alloc _).row HR3.out (by simp), HF3.out.trans0 ((Fr.refl [] _).alloc _), heap_alloc_last _ _, (HY.out.mono (fun g hg h => by have h9 : V.heap.size ≤ g := h; have := H3.out.Bb; exact ⟨hDw _ (by omega), by omega, by omega⟩)).fr ((Fr.refl [] _).alloc _) (fun y hy _ => by cases hy), ?_⟩ ?_
   ·exact (HRA.out _ (HF3.out.trans0 ((Fr.refl [] _).alloc _))).mono (fun i _ h => ⟨h.1, by omega, by omega⟩)
   rintro U ⟨hu1, hu2, hu3, hu4, hu5, hu6⟩
   have hff := fr_five U [w.heap.size] w.heap.size (.int .i64 op) (.string ⟨#[]⟩) (.int .i64 0) (.slice (some ⟨w3.heap.size, 0, none⟩) 2 2) (.int .i64 tp) (by simp)
   have HT := Lib.hid (heap_five hu2 (.int .i64 op) (.string ⟨#[]⟩) (.int .i64 0) (.slice (some ⟨w3.heap.size, 0, none⟩) 2 2) (.int .i64 tp))
   have HSU := Lib.hid (HS.out _ (hff.row hu1.tok (by simp; omega)) (hff.row hu1.av (by simp; omega)) (hff.row hu1.box (by simp; omega)))
   have HSU0 := HS.out _ hu1.tok hu1.av hu1.box
   have HEND : Hid (TwoDone D r g nest op tp a w (.ok (y, m)) (.returned (.agg #[.int .i64 op, .string ⟨#[]⟩, .int .i64 0, .slice (some ⟨w3.heap.size, 0, none⟩) 2 2, .int .i64 tp])) _) :=
    ⟨[.int .i64 op0, .string s9, .int .i64 n9, .slice q9 k9 c9, .int .i64 p9], [.int .i64 op1, .string s1, .int .i64 n1, .slice q1 k1 c1, .int .i64 p1], w3.heap.size, rfl, hff.row hu4 (by simp; omega), by omega,
     (hu6.fr hff (fun y hy _ => by simp at hy; rw [hy]; simp)).mono (fun i _ h => ⟨h.1, h.2.1⟩), (hu5.fr hff (fun y hy _ => by simp at hy; rw [hy]; simp)).mono (fun i _ h => ⟨h.1, h.2.1⟩), hu3.trans hff (fun y hy => .inr (by simp at hy; omega)), _, _, hu1.rd.fr hff (by simp; omega) (by simp; omega)⟩
   have HU2 := Lib.hid hu2
   clear hu1 hu2 hu3 hu4 hu5 hu6 hff
   have zf : ∀ i, U.frozen? ⟨w.heap.size, i, none⟩ = false := fun i => Lib.frozen_of_heap HU2.out i
   have z0 : U.cell? ⟨w.heap.size, 0, none⟩ = some (.int .i64 0) := by rw [Lib.cell_of_heap HU2.out]; rfl
   have z1 : U.cell? ⟨w.heap.size, 1, none⟩ = some (.string ⟨#[]⟩) := by rw [Lib.cell_of_heap HU2.out]; rfl
   have z2 : U.cell? ⟨w.heap.size, 2, none⟩ = some (.int .i64 0) := by rw [Lib.cell_of_heap HU2.out]; rfl
   have z3 : U.cell? ⟨w.heap.size, 3, none⟩ = some (.slice none 0 0) := by rw [Lib.cell_of_heap HU2.out]; rfl
   have z4 : U.cell? ⟨w.heap.size, 4, none⟩ = some (.int .i64 0) := by rw [Lib.cell_of_heap HU2.out]; rfl
   refine wpAnyH_ready (rs := [8]) (by kernel_rfl) (by simp) ?_
   refine AllReadyH.cons rfl (fun K hK => ?_) AllReadyH.nil
   go_simp
   refine hK.out _ _ (HSU.out) (fun hHeld => ?_)
   clear hK K
   try simp only [Act.put, List.setIfInBounds_toArray, List.set_cons_zero, List.set_cons_succ]
   refine wpAnyH_done (by kernel_rfl) ?_ _
   go_wp2_with fail
   refine bodyPost_ret (v := .agg #[.int .i64 op, .string ⟨#[]⟩, .int .i64 0, .slice (some ⟨w3.heap.size, 0, none⟩) 2 2, .int .i64 tp]) (results_cell_row rfl _ _ w.heap.size _ _ (0, 0) _ rfl HT.out Tryd.underlying80 rfl (by kernel_rfl)) rfl ?_
   exact HEND.out
end Go.Proofs.YtgklmpooonnmiaaDoor
