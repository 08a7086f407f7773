/-
  Lemmas and contracts that the proofs over this seat use (PolTexts, PolRule); no statement of the seat is claimed in this text, and nothing is assumed in it.
-/
import Derived.Test.YtgklmpooonnmiaaDoorJ25
import Derived.Deep.CutBlock
set_option linter.unusedVariables false
set_option linter.unusedSimpArgs false
namespace Go.Proofs.YtgklmpooonnmiaaDoor
open Go.RowKit
theorem text_one (W : World) (b1 r g o c : Nat) (t : TI) (l : List TI) (nest : Nat) (h : Rd W r g o c (t :: l) nest) (hb : W.heap[b1]? = some (.cells #[.pointer (some ⟨r, 0, none⟩)] 94 (0, 0))) (hE : Ends (t :: l)) :
  Calls Tryd.prog 80 #[.pointer (some ⟨b1, 0, none⟩)] W fun e w' => match Pol.take (t :: l) 2 with
   | .error (p, n) => Stops [r] W p n e w'
   | .ok (u, m) => e = .returned (.string u.s) ∧ Fr [r] W w' ∧ ∃ o c, Rd w' r g o c m nest := by
 have hr := row_lt h.row
 have xf : ∀ i, W.frozen? ⟨b1, i, none⟩ = false := fun i => Lib.frozen_of_heap hb i
 have x0 : W.cell? ⟨b1, 0, none⟩ = some (.pointer (some ⟨r, 0, none⟩)) := by rw [Lib.cell_of_heap hb]; rfl
 by_cases hk : t.k = 2
 ·rw [take_pos hk]
  have HE : Ends l := hE.tail (by omega)
  have HT := Lib.hid (rd_take_yes W r g o c t l nest 2 h HE.pos hr hk)
  have hu := tok_text
  clear h hE hb HE hk hr
  go_enter Tryd.func80, Tryd.ntmps80
  go_wp2_with fail
  refine HT.out.mono ?_
  rintro e w1 ⟨rfl, hf, hR⟩
  have HF := Lib.hid hf
  have HR := Lib.hid hR
  clear hf hR
  go_wp2_with fail
  refine bodyPost_ret (results_tmp rfl _ _ _) rfl ?_
  exact ⟨rfl, HF.out, _, _, HR.out⟩
 ·rw [take_neg hk]
  have HT := Lib.hid (rd_take_no W r g o c t l nest 2 h hr hk)
  clear h hE hb hk hr
  go_enter Tryd.func80, Tryd.ntmps80
  go_wp2_with fail
  refine HT.out.mono ?_
  intro e w1 hs
  obtain ⟨b9, hb9, rfl, hrow9, hf9⟩ := hs
  show _
  exact ⟨rfl, b9, hb9, rfl, hrow9, hf9⟩
def TextsDone (r g nest : Nat) (w : World) (q : Pol.PR (List ByteArray)) (e : Ending) (w' : World) : Prop :=
 match q with
 | .ok (A, m) => ∃ v, e = .returned v ∧ w'.ownsRow w.heap.size 9 1 v A.length (strs A) ∧ Fr [r] w w' ∧ ∃ o c, Rd w' r g o c m nest
 | .error (p, n) => Stops [r] w p n e w'
theorem TextsDone.stop {r g nest : Nat} {w w' : World} {p n : Int} {e : Ending} (h : Stops [r] w p n e w') : TextsDone r g nest w (.error (p, n)) e w' := h
def Pol.textsK (A : List ByteArray) : Pol.PR (List ByteArray) → Pol.PR (List ByteArray)
 | .error e => .error e
 | .ok (L, m) => .ok (A ++ L, m)
theorem appTx {ops : Array Oper} {rest : List Oper} {o : Oper} {a : Act} {w : World} {Q : Exit → Act → World → Prop} (hgd : o.guard = none) (s x : Operand)
  (ho : o.op = .call { callee := .builtin .append, args := #[s, x], argTypes := #[37, 37] })
  (B : Nat) (v : Value) (n : Nat) (l : List ByteArray) (y : ByteArray) (hs : a.eval s = v) (hx : a.eval x = .slice (some ⟨w.heap.size, 0, none⟩) 1 1)
  (hown : w.ownsRow B 9 1 v n (strs l)) (hB : B ≤ w.heap.size) (hn : n < 1000000000)
  (h : ∀ g c w', w'.ownsRow B 9 1 (.slice (some ⟨g, 0, none⟩) (n + 1) c) (n + 1) (strs (l ++ [y])) → w.grownBy w' v.ownBlock → (v.ownBlock = some g ∨ w.heap.size ≤ g) → wpList Tryd.prog ops Q rest (a.put o.dst (.slice (some ⟨g, 0, none⟩) (n + 1) c)) w') : wpList Tryd.prog ops Q (o :: rest) a (w.alloc (.cells #[.string y] 9)) := by
 obtain ⟨i, hi, hz0, hz1, hz2⟩ := info_parts infoStr
 refine wpList_append_lies (w.alloc _) hgd s x _ ho B 9 i (.string ⟨#[]⟩) 1 16 Tryd.underlying37 hi hz0 hz1 hz2 rfl (by decide) v n (strs l) hs (ownsRow_fr hown ((Fr.refl _ _).alloc _)) _ 1 1 [.string y] hx rfl (cell_one_new w _ _) (by simp [Value.oneCell']) (by decide) (by unfold maxLen; omega) (by omega) (Nat.le_trans hB (by simp)) _ rfl ?_
 intro g cap w' h1 h2 h3 _
 have hg := World.grownBy_alloc w (.cells #[.string y] 9) v.ownBlock
 have e : strs (l ++ [y]) = strs l ++ [.string y] := by simp [strs]
 exact h g cap w' (by rw [e]; exact h1) (hg.trans_ h2) (h3.imp id (fun h => by rw [h]; simp))
structure TxSt (w : World) (b1 r g o c : Nat) (m : List TI) (nest : Nat) (v : Value) (A : List ByteArray) (W : World) : Prop where
 rd : Rd W r g o c m nest
 box : W.heap[b1]? = some (.cells #[.pointer (some ⟨r, 0, none⟩)] 94 (0, 0))
 own : W.ownsRow w.heap.size 9 1 v A.length (strs A)
 f : Fr [r] w W
 rl : r < w.heap.size
 gl : g < w.heap.size
 bl : b1 < w.heap.size
 br : b1 ≠ r
theorem TxSt.step {w : World} {b1 r g o c : Nat} {m : List TI} {nest : Nat} {v : Value} {A : List ByteArray} {W W' : World} {o' c' : Nat} {m' : List TI} {nest' : Nat} (h : TxSt w b1 r g o c m nest v A W) (hf : Fr [r] W W') (hr : Rd W' r g o' c' m' nest') : TxSt w b1 r g o' c' m' nest' v A W' := by
 have h1 := h.rl; have h2 := h.br
 refine ⟨hr, hf.row h.box (by simpa using h2), ?_, h.f.trans hf (fun y hy => .inl hy), h1, h.gl, h.bl, h2⟩
 refine ⟨h.own.1, ?_⟩
 rcases h.own.2 with h | ⟨g0, cap, cur, hv, hb, hg, hr⟩
 ·exact Or.inl h
 ·exact Or.inr ⟨g0, cap, cur, hv, hb, hf.row hg (by simp; omega), hr⟩
theorem TxSt.grow {w : World} {b1 r g o c : Nat} {m : List TI} {nest : Nat} {v : Value} {A : List ByteArray} {W U : World} {x : ByteArray} (h : TxSt w b1 r g o c m nest v A W)
  {g1 c1 : Nat} (ho : U.ownsRow w.heap.size 9 1 (.slice (some ⟨g1, 0, none⟩) (A.length + 1) c1) (A.length + 1) (strs (A ++ [x]))) (hg : W.grownBy U v.ownBlock) :
  TxSt w b1 r g o c m nest (.slice (some ⟨g1, 0, none⟩) (A.length + 1) c1) (A ++ [x]) U := by
 have h1 := h.rl; have h2 := h.gl; have h3 := h.bl
 have hf := Fr.of_grown hg
 have hbase : ∀ y ∈ v.ownBlock.toList, w.heap.size ≤ y := fun y hy => by
  rcases h.own.2 with ⟨hv, _⟩ | ⟨g0, cap, cur, hv, hb, _⟩
  ·rw [hv] at hy; simp [Value.ownBlock] at hy
  ·rw [hv] at hy; simp [Value.ownBlock] at hy; omega
 exact ⟨h.rd.fr hf (fun hc => by have := hbase _ hc; omega) (fun hc => by have := hbase _ hc; omega), hf.row h.box (fun hc => by have := hbase _ hc; omega), by rw [List.length_append]; exact ho, h.f.trans hf (fun y hy => .inr (hbase y hy)), h1, h2, h3, h.br⟩
theorem Pol.take_ends2 {l m : List TI} {t : TI} (h : Pol.take l 2 = .ok (t, m)) (hE : Ends l) : Ends m := Pol.take_ends h (by decide) hE
theorem Pol.take_len2 {l m : List TI} {t : TI} {k : Int} (h : Pol.take l k = .ok (t, m)) : m.length < l.length := by
 cases l with
 | nil => simp [Pol.take] at h
 | cons u r =>
  simp only [Pol.take] at h
  split at h
  ·cases h; simp
  ·cases h
set_option maxHeartbeats 4000000 in
set_option maxRecDepth 100000 in
theorem texts_read (f : Nat) (w : World) (b1 r g o c : Nat) (l : List TI) (nest : Nat) (h : Rd w r g o c l nest) (hb : w.heap[b1]? = some (.cells #[.pointer (some ⟨r, 0, none⟩)] 94 (0, 0))) (hbr : b1 ≠ r) (hE : Ends l)
  (hfed : Pol.Fed (Pol.texts (f + 1) l)) :
  Calls Tryd.prog 79 #[.pointer (some ⟨r, 0, none⟩), .func (.func 80) #[] #[.pointer (some ⟨b1, 0, none⟩)]] w (TextsDone r g nest w (Pol.texts (f + 1) l)) := by
 obtain ⟨Q, hQ⟩ : ∃ Q, Pol.texts (f + 1) l = Q := ⟨_, rfl⟩
 rw [hQ] at hfed ⊢
 rw [Pol.texts] at hQ
 obtain ⟨t0, l0, rfl⟩ := hE.cons
 have HRD := Lib.hid h
 have HB := Lib.hid hb
 have HE := Lib.hid hE
 have HFD := Lib.hid hfed
 have hg := h.gl
 have hr := row_lt h.row
 have hbl := row_lt hb
 have HQ := Lib.hid hQ
 have HC := Lib.hid (text_one w b1 r g o c t0 l0 nest h hb hE)
 obtain ⟨q, hq⟩ : ∃ q, Pol.take (t0 :: l0) 2 = q := ⟨_, rfl⟩
 rw [hq] at HC HQ
 have Hq := Lib.hid hq
 clear h hE hfed hQ hq hb
 go_enter Tryd.func79, Tryd.ntmps79
 go_wp2_with fail
 refine HC.out.mono ?_
 intro e w1 hd
 cases q with
 | error pe =>
  obtain ⟨pp, pn⟩ := pe
  have HQ2 : Hid (.error (pp, pn) = Q) := HQ.out
  have hs : Stops [r] _ pp pn e w1 := hd
  obtain ⟨b9, hb9, rfl, hrow9, hf9⟩ := hs
  show _
  exact ⟨rfl, by rw [← HQ2.out]; exact TextsDone.stop ⟨b9, hb9, rfl, hrow9, hf9⟩⟩
 | ok xm =>
  obtain ⟨x, m⟩ := xm
  obtain ⟨rfl, hf3, o3, c3, hr3⟩ := hd
  have HEM : Hid (Ends m) := Pol.take_ends2 Hq.out HE.out
  have HQ2 : Hid (Q = if Pol.is m 4 [44] = true then Pol.textsK [x.s] (Pol.texts f m.tail) else .ok ([x.s], m)) := by
   show _ = _
   rw [← HQ.out]
   simp only []
   split
   ·cases Pol.texts f m.tail <;> rfl
   ·rfl
  have hA : Fr [] w1 (w1.alloc (.cells #[.string x.s] 9)) := (Fr.refl _ _).alloc _
  have hwz := hf3.size
  have HST : Hid (TxSt w b1 r g o3 c3 m nest (.slice (some ⟨w1.heap.size, 0, none⟩) 1 1) [x.s] (w1.alloc (.cells #[.string x.s] 9))) :=
   ⟨hr3.fr hA (by simp) (by simp), hA.row (hf3.row HB.out (by simpa using hbr)) (by simp), ⟨rfl, Or.inr ⟨w1.heap.size, 1, _, rfl, hwz, heap_alloc_last _ _, Nat.le_refl _, by decide, rfl, rfl⟩⟩, hf3.trans0 hA, hr, hg, hbl, hbr⟩
  have hsh := Pol.take_len2 Hq.out
  clear hf3 hr3 HQ HC hA
  go_wp2_with fail
  have hfew := HRD.out.few
  go_loopg [5] f (fun q s5 W => ∃ (o c : Nat) (m : List TI) (A : List ByteArray) (c5 : Nat) (g5 : Nat), q ≤ f ∧ s5 = .slice (some ⟨g5, 0, none⟩) A.length c5 ∧ Hid (Q = if Pol.is m 4 [44] = true then Pol.textsK A (Pol.texts q m.tail) else .ok (A, m)) ∧ Hid (Ends m) ∧ Hid (TxSt w b1 r g o c m nest (.slice (some ⟨g5, 0, none⟩) A.length c5) A W) ∧ Hid (A.length + m.length ≤ 1000000))
  case atStart => exact ⟨_, _, _, [x.s], _, _, Nat.le_refl _, rfl, HQ2.out, HEM.out, HST.out, by show 1 + _ ≤ _; omega⟩
  case round =>
   clear HST HQ2 HEM Hq HRD hsh hfew HB
   obtain ⟨o, c, m, A, c5, g5, hq, rfl, HQ, HE, H, HA⟩ := hrel
   have HQL := Lib.hid hq
   clear hq
   obtain ⟨t, l1, rfl⟩ := HE.out.cons
   cases hp : Pol.is (t :: l1) 4 [44] with
   | false =>
    have HQ2 : Hid (Q = .ok (A, t :: l1)) := by show _ = _; rw [HQ.out, hp]; rfl
    have HP := Lib.hid hp
    clear hp HQ
    have HN := Lib.hid (rd_took_no wr r g _ _ _ _ nest 4 ⟨#[44]⟩ H.out.rd HP.out)
    go_wp2_with fail
    refine HN.out.mono ?_
    rintro e w2 ⟨rfl, rfl⟩
    go_wp2_with fail
    refine bodyPost_ret (results_tmp rfl _ _ _) rfl ?_
    rw [HQ2.out]
    exact ⟨_, rfl, H.out.own, H.out.f, _, _, H.out.rd⟩
   | true =>
    have hE1 : Ends l1 := Pol.is_tail hp (by decide) HE.out
    have HQ2 : Hid (Q = Pol.textsK A (Pol.texts gk l1)) := by show _ = _; rw [HQ.out, hp]; rfl
    have HP := Lib.hid hp
    have HE1 := Lib.hid hE1
    have hl1 := hE1.pos
    clear hp HQ hE1
    have HN := Lib.hid (rd_took_yes wr r g _ _ _ _ nest 4 ⟨#[44]⟩ H.out.rd hl1 HP.out)
    obtain ⟨t1, l2, rfl⟩ := HE1.out.cons
    cases gk with
    | zero =>
     exact absurd (HQ2.out.trans (by rw [Pol.texts]; rfl)) (HFD.out (Pol.place (t1 :: l2)))
    | succ j =>
     have hjf : j + 1 ≤ f := HQL.out
     go_wp2_with fail
     refine HN.out.mono ?_
     rintro e w2 ⟨rfl, hf1, hr1⟩
     have H := Lib.hid (H.out.step hf1 hr1)
     clear HN hf1 hr1
     have HC := Lib.hid (text_one w2 b1 r g _ _ t1 l2 nest H.out.rd H.out.box HE1.out)
     have HQ3 : Hid (Q = Pol.textsK A (match Pol.take (t1 :: l2) 2 with | .error e => .error e | .ok (x, m) => if Pol.is m 4 [44] = true then (match Pol.texts j m.tail with | .error e => .error e | .ok (L, m) => .ok (x.s :: L, m)) else .ok ([x.s], m))) := by
      show _ = _
      rw [HQ2.out, Pol.texts]
      congr 1
     obtain ⟨q, hq⟩ : ∃ q, Pol.take (t1 :: l2) 2 = q := ⟨_, rfl⟩
     rw [hq] at HC HQ3
     have Hq := Lib.hid hq
     clear hq HQ2
     go_wp2_with fail
     refine HC.out.mono ?_
     intro e w3 hd
     cases q with
     | error pe =>
      obtain ⟨pp, pn⟩ := pe
      have HQ4 : Hid (Q = .error (pp, pn)) := HQ3.out
      have hs : Stops [r] _ pp pn e w3 := hd
      obtain ⟨b9, hb9, rfl, hrow9, hf9⟩ := hs.from (bs := [r]) H.out.f (fun y hy => .inl (by simpa using hy))
      show _
      exact ⟨rfl, by rw [HQ4.out]; exact TextsDone.stop ⟨b9, hb9, rfl, hrow9, hf9⟩⟩
     | ok xm =>
      obtain ⟨y, m⟩ := xm
      obtain ⟨rfl, hf3, o3, c3, hr3⟩ := hd
      have HEM : Hid (Ends m) := Pol.take_ends2 Hq.out HE1.out
      have hsh := Pol.take_len2 Hq.out
      have HQ4 : Hid (Q = if Pol.is m 4 [44] = true then Pol.textsK (A ++ [y.s]) (Pol.texts j m.tail) else .ok (A ++ [y.s], m)) := by
       show _ = _
       rw [HQ3.out]
       simp only []
       split
       ·cases Pol.texts j m.tail with
        | error e => rfl
        | ok p => show Except.ok _ = Except.ok _; simp
       ·rfl
      have hA9 := HA.out
      rw [List.length_cons] at hA9
      have H := Lib.hid (H.out.step hf3 hr3)
      have HA2 : Hid ((A ++ [y.s]).length + m.length ≤ 1000000) := by show _ ≤ _; rw [List.length_append]; simp; omega
      have hAl : A.length < 1000000000 := by omega
      have hw3 : w.heap.size ≤ w3.heap.size := H.out.f.size
      clear hf3 hr3 HC HQ3 hA9 hsh
      go_wp2_with (at_builtin; refine appTx rfl (.tmp 11) (.tmp 14) rfl w.heap.size _ _ A y.s rfl rfl H.out.own hw3 hAl ?_)
      intro g1 c1 w4 ho hg1 hgg
      have H := Lib.hid (H.out.grow ho hg1)
      clear ho hg1 hgg
      go_wp2_with fail
      go_roundg j
      case measure => omega
      case rel => exact ⟨_, _, _, A ++ [y.s], c1, g1, by omega, by simp, HQ4.out, HEM.out, by show TxSt _ _ _ _ _ _ _ _ _ _ _; rw [List.length_append]; exact H.out, HA2.out⟩
end Go.Proofs.YtgklmpooonnmiaaDoor

namespace Go.Proofs.YtgklmpooonnmiaaDoor
open Go.RowKit
def SRep (w : World) (D : Nat → Prop) (v : Value) (A : List ByteArray) : Prop :=
 ∃ q c, v = .slice q A.length c ∧ A.length ≤ c ∧ c ≤ maxLen ∧ ∀ (j : Nat) (s : ByteArray), A[j]? = some s → ∃ g, q = some ⟨g, 0, none⟩ ∧ g < w.heap.size ∧ D g ∧ w.cell? ⟨g, j, none⟩ = some (.string s)
theorem SRep.fr {bs : List Nat} {w w' : World} {D : Nat → Prop} (hf : Fr bs w w') (hb : ∀ y ∈ bs, y < w.heap.size → ¬ D y) {v : Value} {A : List ByteArray} (h : SRep w D v A) : SRep w' D v A := by
 obtain ⟨q, c, hv, hc, hm, hr⟩ := h
 refine ⟨q, c, hv, hc, hm, fun j s hj => ?_⟩
 obtain ⟨g, hq, hg, hd, hcell⟩ := hr j s hj
 have hn : g ∉ bs := fun hm => hb g hm hg hd
 exact ⟨g, hq, Nat.lt_of_lt_of_le hg hf.size, hd, (hf.cell (p := ⟨g, _, none⟩) hg hn).trans hcell⟩
theorem SRep.mono {w : World} {D E : Nat → Prop} (hd : ∀ g, g < w.heap.size → D g → E g) {v : Value} {A : List ByteArray} (h : SRep w D v A) : SRep w E v A := by
 obtain ⟨q, c, hv, hc, hm, hr⟩ := h
 refine ⟨q, c, hv, hc, hm, fun j s hj => ?_⟩
 obtain ⟨g, hq, hg, hd', hcell⟩ := hr j s hj
 exact ⟨g, hq, hg, hd g hg hd', hcell⟩
theorem SRep.none_ (w : World) (D : Nat → Prop) : SRep w D (.slice none 0 0) [] := ⟨none, 0, rfl, Nat.le_refl _, by decide, fun j s hj => by simp at hj⟩
theorem SRep.own {w : World} {B : Nat} {v : Value} {A : List ByteArray} (h : w.ownsRow B 9 1 v A.length (strs A)) : SRep w (fun i => B ≤ i) v A := by
 rcases h.2 with ⟨hv, h0⟩ | ⟨g, cap, cur, hv, hb, hrow, h1, h2, h3, h4⟩
 ·have : A = [] := List.eq_nil_of_length_eq_zero h0
  subst this
  rw [hv]; exact SRep.none_ _ _
 ·refine ⟨some ⟨g, 0, none⟩, cap, hv, h1, h2, fun j s hj => ⟨g, rfl, row_lt hrow, hb, ?_⟩⟩
  have h9 : (strs A)[j]? = some (.string s) := by simp [strs, hj]
  rw [← h4, List.getElem?_take] at h9
  split at h9
  ·rw [cell_of_row _ _ _ _ _ _ hrow]; simpa using h9
  ·cases h9
def LRep (w : World) (D : Nat → Prop) (v : Value) (L : List Ex) : Prop := Rep w D [.int .i64 0, .string ⟨#[]⟩, .int .i64 0, v, .int .i64 0] (.mk 0 ⟨#[]⟩ 0 L 0)
def RuRep (w : World) (D : Nat → Prop) (cs : List Value) (u : Ru) : Prop :=
 ∃ v1 v2, cs = [.bool u.deny, v1, v2, .int .i64 u.p] ∧ SRep w D v1 u.scopes ∧ LRep w D v2 u.when_
theorem RuRep.fr {bs : List Nat} {w w' : World} {D : Nat → Prop} (hf : Fr bs w w') (hb : ∀ y ∈ bs, y < w.heap.size → ¬ D y) {cs : List Value} {u : Ru} (h : RuRep w D cs u) : RuRep w' D cs u := by
 obtain ⟨v1, v2, h1, h2, h3⟩ := h
 exact ⟨v1, v2, h1, h2.fr hf hb, Rep.fr hf hb h3⟩
theorem RuRep.mono {w : World} {D E : Nat → Prop} (hd : ∀ g, g < w.heap.size → D g → E g) {cs : List Value} {u : Ru} (h : RuRep w D cs u) : RuRep w E cs u := by
 obtain ⟨v1, v2, h1, h2, h3⟩ := h
 exact ⟨v1, v2, h1, h2.mono hd, Rep.mono hd h3⟩
def RuleDone (r g nest : Nat) (w : World) (q : Pol.PR Ru) (e : Ending) (w' : World) : Prop :=
 match q with
 | .ok (u, m) => ∃ cs, e = .returned (.agg cs.toArray) ∧ RuRep w' (fun i => w.heap.size ≤ i) cs u ∧ Fr [r] w w' ∧ ∃ o c, Rd w' r g o c m nest
 | .error (p, n) => Stops [r] w p n e w'
theorem RuleDone.stop {r g nest : Nat} {w w' : World} {p n : Int} {e : Ending} (h : Stops [r] w p n e w') : RuleDone r g nest w (.error (p, n)) e w' := h
structure RuSt (w : World) (r g o c : Nat) (l : List TI) (b1 : Nat) (d : Bool) (v1 v2 : Value) (p : Int) (S : List ByteArray) (L : List Ex) (W : World) : Prop where
 rd : Rd W r g o c l 0
 box : W.heap[b1]? = some (.cells #[.pointer (some ⟨r, 0, none⟩)] 94 (0, 0))
 res : W.heap[b1 + 1]? = some (.cells #[.bool false, .slice none 0 0, .slice none 0 0, .int .i64 0] 78 (0, 0))
 ex : W.heap[b1 + 1 + 1]? = some (.cells #[.bool d, v1, v2, .int .i64 p] 78 (0, 0))
 s1 : SRep W (fun i => w.heap.size ≤ i ∧ i ≠ b1 + 1 ∧ i ≠ b1 + 1 + 1) v1 S
 s2 : LRep W (fun i => w.heap.size ≤ i ∧ i ≠ b1 + 1 ∧ i ≠ b1 + 1 + 1) v2 L
 f : Fr [r] w W
 rl : r < w.heap.size
 gl : g < w.heap.size
 bw : b1 = w.heap.size
theorem RuSt.step {w : World} {r g o c : Nat} {l : List TI} {b1 : Nat} {d : Bool} {v1 v2 : Value} {p : Int} {S : List ByteArray} {L : List Ex} {W W' : World} {o' c' : Nat} {l' : List TI} (h : RuSt w r g o c l b1 d v1 v2 p S L W) (hf : Fr [r] W W') (hr : Rd W' r g o' c' l' 0) : RuSt w r g o' c' l' b1 d v1 v2 p S L W' := by
 have h1 := h.rl; have h2 := h.bw
 exact ⟨hr, hf.row h.box (by simp; omega), hf.row h.res (by simp; omega), hf.row h.ex (by simp; omega), h.s1.fr hf (fun y hy _ => by simp at hy; omega), Rep.fr hf (fun y hy _ => by simp at hy; omega) h.s2, h.f.trans hf (fun y hy => .inl hy), h1, h.gl, h2⟩
theorem alloc3r (w : World) (a b c : Obj) : (((w.alloc a).alloc b).alloc c).heap[w.heap.size]? = some a ∧ (((w.alloc a).alloc b).alloc c).heap[w.heap.size + 1]? = some b ∧ (((w.alloc a).alloc b).alloc c).heap[w.heap.size + 1 + 1]? = some c := alloc3 w a b c
theorem RuSt.deny {w : World} {r g o c : Nat} {l : List TI} {b1 : Nat} {d : Bool} {v1 v2 : Value} {p : Int} {S : List ByteArray} {L : List Ex} {W : World} (h : RuSt w r g o c l b1 d v1 v2 p S L W) (i : Nat) (u : Value) (cs : Array Value)
  (hcs : (#[Value.bool d, v1, v2, Value.int .i64 p]).setIfInBounds i u = cs) :
  Rd (W.setCell ⟨b1 + 1 + 1, i, none⟩ u) r g o c l 0 ∧ (W.setCell ⟨b1 + 1 + 1, i, none⟩ u).heap[b1]? = some (.cells #[.pointer (some ⟨r, 0, none⟩)] 94 (0, 0)) ∧ (W.setCell ⟨b1 + 1 + 1, i, none⟩ u).heap[b1 + 1]? = some (.cells #[.bool false, .slice none 0 0, .slice none 0 0, .int .i64 0] 78 (0, 0))
   ∧ (W.setCell ⟨b1 + 1 + 1, i, none⟩ u).heap[b1 + 1 + 1]? = some (.cells cs 78 (0, 0)) ∧ SRep (W.setCell ⟨b1 + 1 + 1, i, none⟩ u) (fun i => w.heap.size ≤ i ∧ i ≠ b1 + 1 ∧ i ≠ b1 + 1 + 1) v1 S ∧ LRep (W.setCell ⟨b1 + 1 + 1, i, none⟩ u) (fun i => w.heap.size ≤ i ∧ i ≠ b1 + 1 ∧ i ≠ b1 + 1 + 1) v2 L ∧ Fr [r] w (W.setCell ⟨b1 + 1 + 1, i, none⟩ u) := by
 have h1 := h.rl; have h2 := h.bw; have h3 := h.gl
 have hf : Fr [b1 + 1 + 1] W (W.setCell ⟨b1 + 1 + 1, i, none⟩ u) := (Fr.refl _ _).setCell (p := ⟨b1 + 1 + 1, i, none⟩) (.inl (by simp)) _
 refine ⟨h.rd.fr hf (by simp; omega) (by simp; omega), hf.row h.box (by simp; omega), hf.row h.res (by simp), by rw [← hcs]; exact heap_set_row h.ex i u, h.s1.fr hf (fun y hy _ => by simp at hy; rw [hy]; simp), Rep.fr hf (fun y hy _ => by simp at hy; rw [hy]; simp) h.s2, h.f.trans hf (fun y hy => .inr (by simp at hy; omega))⟩
theorem heap_four {W : World} {b : Nat} {u0 u1 u2 u3 : Value} {t : TypeId} (h : W.heap[b]? = some (.cells #[u0, u1, u2, u3] t (0, 0))) (v0 v1 v2 v3 : Value) :
  ((((W.setCell ⟨b, 0, none⟩ v0).setCell ⟨b, 1, none⟩ v1).setCell ⟨b, 2, none⟩ v2).setCell ⟨b, 3, none⟩ v3).heap[b]? = some (.cells #[v0, v1, v2, v3] t (0, 0)) :=
 heap_set_row (heap_set_row (heap_set_row (heap_set_row h 0 v0) 1 v1) 2 v2) 3 v3
theorem fr_four (W : World) (b : Nat) (v0 v1 v2 v3 : Value) : Fr [b] W ((((W.setCell ⟨b, 0, none⟩ v0).setCell ⟨b, 1, none⟩ v1).setCell ⟨b, 2, none⟩ v2).setCell ⟨b, 3, none⟩ v3) :=
 ((((Fr.refl [b] W).setCell (p := ⟨b, 0, none⟩) (.inl (by simp)) v0).setCell (p := ⟨b, 1, none⟩) (.inl (by simp)) v1).setCell (p := ⟨b, 2, none⟩) (.inl (by simp)) v2).setCell (p := ⟨b, 3, none⟩) (.inl (by simp)) v3
theorem RuSt.denied {w : World} {r g o c : Nat} {l : List TI} {b1 : Nat} {v1 v2 : Value} {p : Int} {S : List ByteArray} {L : List Ex} {W : World} (h : RuSt w r g o c l b1 false v1 v2 p S L W) : RuSt w r g o c l b1 true v1 v2 p S L (W.setCell ⟨b1 + 1 + 1, 0, none⟩ (.bool true)) := by
 obtain ⟨g1, g2, g3, g4, g5, g6, g7⟩ := h.deny 0 (.bool true) #[.bool true, v1, v2, .int .i64 p] rfl
 exact ⟨g1, g2, g3, g4, g5, g6, g7, h.rl, h.gl, h.bw⟩
theorem Pol.texts_ends {f : Nat} : ∀ {l m : List TI} {A : List ByteArray}, Pol.texts f l = .ok (A, m) → Ends l → Ends m := by
 induction f with
 | zero => intro l m A h; simp [Pol.texts] at h
 | succ f ih =>
  intro l m A h hE
  rw [Pol.texts] at h
  split at h
  ·cases h
  ·rename_i t m1 ht
   have h1 := Pol.take_ends2 ht hE
   split at h
   ·rename_i hi
    split at h
    ·cases h
    ·rename_i L m2 hr
     cases h
     exact ih hr (Pol.is_tail hi (by decide) h1)
   ·cases h
    exact h1
theorem RuSt.scope {w : World} {r g o c : Nat} {l : List TI} {b1 : Nat} {d : Bool} {v1 v2 : Value} {p : Int} {S : List ByteArray} {L : List Ex} {W : World} {B : Nat} (h : RuSt w r g o c l b1 d v1 v2 p S L W) {v : Value} {A : List ByteArray} (ho : W.ownsRow B 9 1 v A.length (strs A)) (hX : b1 + 1 + 1 < B) :
  RuSt w r g o c l b1 d v v2 p A L (W.setCell ⟨b1 + 1 + 1, 1, none⟩ v) := by
 have h1 := h.rl; have h2 := h.bw; have h3 := h.gl
 obtain ⟨g1, g2, g3, g4, g5, g6, g7⟩ := h.deny 1 v #[.bool d, v, v2, .int .i64 p] rfl
 have hf : Fr [b1 + 1 + 1] W (W.setCell ⟨b1 + 1 + 1, 1, none⟩ v) := (Fr.refl _ _).setCell (p := ⟨b1 + 1 + 1, 1, none⟩) (.inl (by simp)) _
 exact ⟨g1, g2, g3, g4, ((SRep.own ho).mono (E := fun i => w.heap.size ≤ i ∧ i ≠ b1 + 1 ∧ i ≠ b1 + 1 + 1) (fun i hi h => by have h9 : B ≤ i := h; exact ⟨by omega, by omega, by omega⟩)).fr hf (fun y hy _ => by simp at hy; rw [hy]; simp), g6, g7, h1, h3, h2⟩
theorem RuSt.when {w : World} {r g o c : Nat} {l : List TI} {b1 : Nat} {d : Bool} {v1 v2 : Value} {p : Int} {S : List ByteArray} {W W0 : World} (h : RuSt w r g o c l b1 d v1 v2 p S [] W) {cs : List Value} {x : Ex} (hx : Rep W (fun i => W0.heap.size ≤ i) cs x) (hw : w.heap.size ≤ W.heap.size) (hX : b1 + 1 + 1 < W0.heap.size) (hw0 : w.heap.size ≤ W0.heap.size) :
  RuSt w r g o c l b1 d v1 (.slice (some ⟨W.heap.size, 0, none⟩) 1 1) p S [x] ((W.setCell ⟨b1 + 1 + 1, 2, none⟩ (.slice (some ⟨W.heap.size, 0, none⟩) 1 1)).alloc (.cells cs.toArray 80)) := by
 have h1 := h.rl; have h2 := h.bw; have h3 := h.gl
 have hXW := row_lt h.ex
 obtain ⟨g1, g2, g3, g4, g5, g6, g7⟩ := h.deny 2 (.slice (some ⟨W.heap.size, 0, none⟩) 1 1) #[.bool d, v1, .slice (some ⟨W.heap.size, 0, none⟩) 1 1, .int .i64 p] rfl
 have hf : Fr [b1 + 1 + 1] W (W.setCell ⟨b1 + 1 + 1, 2, none⟩ (.slice (some ⟨W.heap.size, 0, none⟩) 1 1)) := (Fr.refl _ _).setCell (p := ⟨b1 + 1 + 1, 2, none⟩) (.inl (by simp)) _
 have hA : Fr [] (W.setCell ⟨b1 + 1 + 1, 2, none⟩ (.slice (some ⟨W.heap.size, 0, none⟩) 1 1)) ((W.setCell ⟨b1 + 1 + 1, 2, none⟩ (.slice (some ⟨W.heap.size, 0, none⟩) 1 1)).alloc (.cells cs.toArray 80)) := (Fr.refl _ _).alloc _
 have hsz : (W.setCell ⟨b1 + 1 + 1, 2, none⟩ (.slice (some ⟨W.heap.size, 0, none⟩) 1 1)).heap.size = W.heap.size := by simp [World.setCell]
 have hrow := heap_alloc_last (W.setCell ⟨b1 + 1 + 1, 2, none⟩ (.slice (some ⟨W.heap.size, 0, none⟩) 1 1)) (.cells cs.toArray 80)
 rw [hsz] at hrow
 refine ⟨g1.fr hA (by simp) (by simp), hA.row g2 (by simp), hA.row g3 (by simp), hA.row g4 (by simp), g5.fr hA (fun y hy _ => by cases hy), ?_, g7.trans0 hA, h1, h3, h2⟩
 have hx2 := ((hx.mono (E := fun i => w.heap.size ≤ i ∧ i ≠ b1 + 1 ∧ i ≠ b1 + 1 + 1) (fun i hi h => by have h9 : W0.heap.size ≤ i := h; exact ⟨by omega, by omega, by omega⟩)).fr hf (fun y hy _ => by simp at hy; rw [hy]; simp)).fr hA (fun y hy _ => by cases hy)
 refine Rep.of_row 0 ⟨#[]⟩ 0 0 [x] [cs] W.heap.size ⟨hw, by omega, by omega⟩ 80 1 rfl (by simpa using hrow) (Nat.le_refl _) (by decide) ?_
 intro i y cs' hi hc
 have h0 : i = 0 := by have := (List.getElem?_eq_some_iff.1 hi).1; simp at this; exact this
 subst h0
 simp at hi hc
 subst hi hc
 exact hx2
theorem RuSt.give {w : World} {r g o c : Nat} {l : List TI} {b1 : Nat} {d : Bool} {v1 v2 : Value} {p : Int} {S : List ByteArray} {L : List Ex} {W : World} (h : RuSt w r g o c l b1 d v1 v2 p S L W) :
  RuleDone r g 0 w (.ok (⟨d, S, L, p⟩, l)) (.returned (.agg #[.bool d, v1, v2, .int .i64 p])) ((((W.setCell ⟨b1 + 1, 0, none⟩ (.bool d)).setCell ⟨b1 + 1, 1, none⟩ v1).setCell ⟨b1 + 1, 2, none⟩ v2).setCell ⟨b1 + 1, 3, none⟩ (.int .i64 p)) := by
 have h1 := h.rl; have h2 := h.bw; have h3 := h.gl
 have hf := fr_four W (b1 + 1) (.bool d) v1 v2 (.int .i64 p)
 exact ⟨[.bool d, v1, v2, .int .i64 p], rfl, ⟨v1, v2, rfl, (h.s1.fr hf (fun y hy _ => by simp at hy; rw [hy]; simp)).mono (fun i _ h => h.1), Rep.mono (fun i _ h => h.1) (Rep.fr hf (fun y hy _ => by simp at hy; rw [hy]; simp) h.s2)⟩, h.f.trans hf (fun y hy => .inr (by simp at hy; omega)), _, _, h.rd.fr hf (by simp; omega) (by simp; omega)⟩
set_option maxHeartbeats 4000000 in
set_option maxRecDepth 100000 in
theorem rule_none (w : World) (r g o c : Nat) (t : TI) (m : List TI) (h : Rd w r g o c (t :: m) 0) (hE : Ends (t :: m)) (h1 : Pol.is (t :: m) 1 [112, 101, 114, 109, 105, 116] = false) (h2 : Pol.is (t :: m) 1 [100, 101, 110, 121] = false) :
  Calls Tryd.prog 57 #[.pointer (some ⟨r, 0, none⟩)] w (RuleDone r g 0 w (.error (t.p, 120))) := by
 have H1 := Lib.hid h1
 have H2 := Lib.hid h2
 clear h1 h2
 obtain ⟨tk, ts, tn, tp⟩ := t
 have hR := Lib.hid h
 obtain ⟨a0, a1, a2, a3⟩ := h.tk 0 _ rfl
 have hr := row_lt h.row
 have c0 := h.c0
 have hlc := h.lc
 have hm := h.cm
 have hg := h.gl
 have hne := h.ne
 rw [List.length_cons] at c0 hlc
 unfold maxLen at hm
 simp only [Nat.mul_zero, Nat.add_zero] at a0 a1 a2 a3
 have HE := Lib.hid hE
 clear h hE
 go_enter Tryd.func57, Tryd.ntmps57
 go_upto_region 3 with fail
 refine wp_fresh (fun W => RuSt w r g o c (⟨tk, ts, tn, tp⟩ :: m) w.heap.size false (.slice none 0 0) (.slice none 0 0) tp [] [] W) ?_ ?_
 ·have hal := alloc3r w (.cells #[.pointer (some ⟨r, 0, none⟩)] 94) (.cells #[.bool false, .slice none 0 0, .slice none 0 0, .int .i64 0] 78) (.cells #[.bool false, .slice none 0 0, .slice none 0 0, .int .i64 tp] 78)
  have hF : Fr [] w _ := (((Fr.refl [] w).alloc (.cells #[.pointer (some ⟨r, 0, none⟩)] 94)).alloc (.cells #[.bool false, .slice none 0 0, .slice none 0 0, .int .i64 0] 78)).alloc (.cells #[.bool false, .slice none 0 0, .slice none 0 0, .int .i64 tp] 78)
  have h1 := hR.out.fr hF (by simp) (by simp)
  exact ⟨h1, hal.1, hal.2.1, hal.2.2, SRep.none_ _ _, Rep.leaf _ _ _ _ _ _, hF.sub, hr, hg, rfl⟩
 intro W h1
 clear a0 a1 a2 a3 c0 hlc hR hm
 obtain ⟨b, hb⟩ : ∃ b, w.heap.size = b := ⟨_, rfl⟩
 rw [hb] at h1 ⊢
 have H := Lib.hid h1
 have HB := Lib.hid hb
 clear h1 hb hne
 have hrW := row_lt H.out.rd.row
 have hXW := row_lt H.out.ex
 have hbb : b < W.heap.size := row_lt H.out.box
 have xf : ∀ i, W.frozen? ⟨b, i, none⟩ = false := fun i => Lib.frozen_of_heap H.out.box i
 have x0 : W.cell? ⟨b, 0, none⟩ = some (.pointer (some ⟨r, 0, none⟩)) := by rw [Lib.cell_of_heap H.out.box]; rfl
 have HN1 := Lib.hid (rd_took_no W r g _ _ _ _ 0 1 ⟨#[112, 101, 114, 109, 105, 116]⟩ H.out.rd H1.out)
 have HN2 := Lib.hid (rd_took_no W r g _ _ _ _ 0 1 ⟨#[100, 101, 110, 121]⟩ H.out.rd H2.out)
 have HN3 := Lib.hid (rd_fail W r g _ _ _ _ 0 120 H.out.rd)
 go_wp2_with fail
 refine HN1.out.mono ?_
 rintro e w2 ⟨rfl, rfl⟩
 go_wp2_with fail
 refine HN2.out.mono ?_
 rintro e w2 ⟨rfl, rfl⟩
 go_wp2_with fail
 refine HN3.out.mono ?_
 intro e w1 hs
 obtain ⟨b9, hb9, rfl, hrow9, hf9⟩ := hs.from (bs := [r]) H.out.f (fun y hy => by cases hy)
 show _
 exact ⟨rfl, RuleDone.stop ⟨b9, hb9, rfl, hrow9, hf9⟩⟩
set_option maxHeartbeats 4000000 in
set_option maxRecDepth 100000 in
theorem rule_permit (f : Nat) (w : World) (r g o c : Nat) (t : TI) (m : List TI) (h : Rd w r g o c (t :: m) 0) (hE : Ends (t :: m)) (h1 : Pol.is (t :: m) 1 [112, 101, 114, 109, 105, 116] = true) (Q : Pol.PR Ru) (hQ : Q = Pol.ruleTail (f + 1) false t.p m) (hfed : Pol.Fed Q) :
  Calls Tryd.prog 57 #[.pointer (some ⟨r, 0, none⟩)] w (RuleDone r g 0 w Q) := by
 have H1 := Lib.hid h1
 have HQ := Lib.hid hQ
 have HFD := Lib.hid hfed
 have hEm : Ends m := Pol.is_tail h1 (by decide) hE
 have HEm := Lib.hid hEm
 have hml := hEm.pos
 clear h1 hQ hfed hEm
 obtain ⟨tk, ts, tn, tp⟩ := t
 have hR := Lib.hid h
 obtain ⟨a0, a1, a2, a3⟩ := h.tk 0 _ rfl
 have hr := row_lt h.row
 have c0 := h.c0
 have hlc := h.lc
 have hm := h.cm
 have hg := h.gl
 have hne := h.ne
 rw [List.length_cons] at c0 hlc
 unfold maxLen at hm
 simp only [Nat.mul_zero, Nat.add_zero] at a0 a1 a2 a3
 have HE := Lib.hid hE
 clear h hE
 go_enter Tryd.func57, Tryd.ntmps57
 go_upto_region 3 with fail
 refine wp_fresh (fun W => RuSt w r g o c (⟨tk, ts, tn, tp⟩ :: m) w.heap.size false (.slice none 0 0) (.slice none 0 0) tp [] [] W) ?_ ?_
 ·have hal := alloc3r w (.cells #[.pointer (some ⟨r, 0, none⟩)] 94) (.cells #[.bool false, .slice none 0 0, .slice none 0 0, .int .i64 0] 78) (.cells #[.bool false, .slice none 0 0, .slice none 0 0, .int .i64 tp] 78)
  have hF : Fr [] w _ := (((Fr.refl [] w).alloc (.cells #[.pointer (some ⟨r, 0, none⟩)] 94)).alloc (.cells #[.bool false, .slice none 0 0, .slice none 0 0, .int .i64 0] 78)).alloc (.cells #[.bool false, .slice none 0 0, .slice none 0 0, .int .i64 tp] 78)
  have h1 := hR.out.fr hF (by simp) (by simp)
  exact ⟨h1, hal.1, hal.2.1, hal.2.2, SRep.none_ _ _, Rep.leaf _ _ _ _ _ _, hF.sub, hr, hg, rfl⟩
 intro W h1
 clear a0 a1 a2 a3 c0 hlc hR hm
 obtain ⟨b, hb⟩ : ∃ b, w.heap.size = b := ⟨_, rfl⟩
 rw [hb] at h1 ⊢
 have H := Lib.hid h1
 have HB := Lib.hid hb
 clear h1 hb hne
 have hrW := row_lt H.out.rd.row
 have hXW := row_lt H.out.ex
 have hbb : b < W.heap.size := row_lt H.out.box
 have xf : ∀ i, W.frozen? ⟨b, i, none⟩ = false := fun i => Lib.frozen_of_heap H.out.box i
 have x0 : W.cell? ⟨b, 0, none⟩ = some (.pointer (some ⟨r, 0, none⟩)) := by rw [Lib.cell_of_heap H.out.box]; rfl
 have HNX := Lib.hid (rd_took_yes W r g _ _ _ _ 0 1 ⟨#[112, 101, 114, 109, 105, 116]⟩ H.out.rd hml H1.out)
 go_wp2_with fail
 refine HNX.out.mono ?_
 rintro e W2 ⟨rfl, hf1, hr1⟩
 have H := Lib.hid (H.out.step hf1 hr1)
 clear HNX hf1 hr1 x0 xf hrW hXW hbb hml
 obtain ⟨t4, l4, rfl⟩ := HEm.out.cons
 have hrW := row_lt H.out.rd.row
 have hXW := row_lt H.out.ex
 have hbb : b < W2.heap.size := row_lt H.out.box
 have xf : ∀ i, W2.frozen? ⟨b, i, none⟩ = false := fun i => Lib.frozen_of_heap H.out.box i
 have x0 : W2.cell? ⟨b, 0, none⟩ = some (.pointer (some ⟨r, 0, none⟩)) := by rw [Lib.cell_of_heap H.out.box]; rfl
 cases hp4 : Pol.is (t4 :: l4) 1 [115, 99, 111, 112, 101] with
 | false =>
  have HQ5 : Hid (Q = Pol.ruleWhen (f + 1) false tp [] (t4 :: l4)) := by show _ = _; rw [HQ.out]; unfold Pol.ruleTail Pol.scopesOf; rw [if_neg (by rw [hp4]; simp)]
  have HP4 := Lib.hid hp4
  clear hp4 HQ
  have HNX := Lib.hid (rd_took_no W2 r g _ _ _ _ 0 1 ⟨#[115, 99, 111, 112, 101]⟩ H.out.rd HP4.out)
  go_wp2_with fail
  refine HNX.out.mono ?_
  rintro e w2 ⟨rfl, rfl⟩
  clear HNX x0 xf hrW hXW hbb
  have HE5 := HEm
  obtain ⟨m5, hm5⟩ : ∃ m5, t4 :: l4 = m5 := ⟨_, rfl⟩
  rw [hm5] at H HQ5 HE5
  clear hm5 HEm HP4
  obtain ⟨t5, l5, rfl⟩ := HE5.out.cons
  have hrW := row_lt H.out.rd.row
  have hXW := row_lt H.out.ex
  have hbb : b < W2.heap.size := row_lt H.out.box
  have xf : ∀ i, W2.frozen? ⟨b, i, none⟩ = false := fun i => Lib.frozen_of_heap H.out.box i
  have x0 : W2.cell? ⟨b, 0, none⟩ = some (.pointer (some ⟨r, 0, none⟩)) := by rw [Lib.cell_of_heap H.out.box]; rfl
  cases hp5 : Pol.is (t5 :: l5) 1 [119, 104, 101, 110] with
  | false =>
   have HQ : Hid (Q = match Pol.must (t5 :: l5) [59] with | .error e => .error e | .ok (_, m) => .ok (⟨false, [], [], tp⟩, m)) := by show _ = _; rw [HQ5.out]; unfold Pol.ruleWhen Pol.whenOf; rw [if_neg (by rw [hp5]; simp)]; simp only []; rcases Pol.must (t5 :: l5) [59] with e | ⟨u, m⟩ <;> rfl
   have HP5 := Lib.hid hp5
   clear hp5
   have HNX := Lib.hid (rd_took_no W2 r g _ _ _ _ 0 1 ⟨#[119, 104, 101, 110]⟩ H.out.rd HP5.out)
   go_wp2_with fail
   refine HNX.out.mono ?_
   rintro e w2 ⟨rfl, rfl⟩
   clear HNX hrW hXW hbb x0 xf
   have HE9 := HE5
   obtain ⟨m9, hm9⟩ : ∃ m9, t5 :: l5 = m9 := ⟨_, rfl⟩
   rw [hm9] at H HQ HE9
   clear hm9 HE5 HP5 HQ5
   obtain ⟨t9, l9, rfl⟩ := HE9.out.cons
   have hrW := row_lt H.out.rd.row
   have hXW := row_lt H.out.ex
   have hbb : b < W2.heap.size := row_lt H.out.box
   have xf : ∀ i, W2.frozen? ⟨b, i, none⟩ = false := fun i => Lib.frozen_of_heap H.out.box i
   have x0 : W2.cell? ⟨b, 0, none⟩ = some (.pointer (some ⟨r, 0, none⟩)) := by rw [Lib.cell_of_heap H.out.box]; rfl
   cases hp9 : Pol.is (t9 :: l9) 4 [59] with
   | false =>
    have HPP : Hid (Q = .error (t9.p, 120)) := by show _ = _; rw [HQ.out]; simp only [must_neg hp9]
    have HP0 := Lib.hid hp9
    clear hp9
    have HNX := Lib.hid (rd_must_no W2 r g _ _ t9 l9 0 ⟨#[59]⟩ H.out.rd HP0.out)
    go_wp2_with fail
    refine HNX.out.mono ?_
    intro e w1 hs
    obtain ⟨b9, hb9, rfl, hrow9, hf9⟩ := hs.from (bs := [r]) H.out.f (fun y hy => .inl (by simpa using hy))
    show _
    exact ⟨rfl, by rw [HPP.out]; exact RuleDone.stop ⟨b9, hb9, rfl, hrow9, hf9⟩⟩
   | true =>
    have HPP : Hid (Q = .ok (⟨false, [], [], tp⟩, l9)) := by show _ = _; rw [HQ.out]; simp only [must_pos hp9]
    have hl9 : 0 < l9.length := (Pol.is_tail hp9 (by decide) HE9.out : Ends l9).pos
    have HP0 := Lib.hid hp9
    clear hp9
    have HNX := Lib.hid (rd_must_yes W2 r g _ _ t9 l9 0 ⟨#[59]⟩ H.out.rd hl9 HP0.out)
    go_wp2_with fail
    refine HNX.out.mono ?_
    rintro e W9 ⟨rfl, hf1, hr1⟩
    have H := Lib.hid (H.out.step hf1 hr1)
    clear HNX hf1 hr1 hl9 x0 xf hrW hXW hbb
    have hXW := row_lt H.out.ex
    have ef : ∀ i, W9.frozen? ⟨(b + 1 + 1), i, none⟩ = false := fun i => Lib.frozen_of_heap H.out.ex i
    have e0 : W9.cell? ⟨(b + 1 + 1), 0, none⟩ = some (.bool false) := by rw [Lib.cell_of_heap H.out.ex]; rfl
    have e1 : W9.cell? ⟨(b + 1 + 1), 1, none⟩ = some (.slice none 0 0) := by rw [Lib.cell_of_heap H.out.ex]; rfl
    have e2 : W9.cell? ⟨(b + 1 + 1), 2, none⟩ = some (.slice none 0 0) := by rw [Lib.cell_of_heap H.out.ex]; rfl
    have e3 : W9.cell? ⟨(b + 1 + 1), 3, none⟩ = some (.int .i64 tp) := by rw [Lib.cell_of_heap H.out.ex]; rfl
    have zf : ∀ i, W9.frozen? ⟨(b + 1), i, none⟩ = false := fun i => Lib.frozen_of_heap H.out.res i
    have z0 : W9.cell? ⟨(b + 1), 0, none⟩ = some (.bool false) := by rw [Lib.cell_of_heap H.out.res]; rfl
    have z1 : W9.cell? ⟨(b + 1), 1, none⟩ = some (.slice none 0 0) := by rw [Lib.cell_of_heap H.out.res]; rfl
    have z2 : W9.cell? ⟨(b + 1), 2, none⟩ = some (.slice none 0 0) := by rw [Lib.cell_of_heap H.out.res]; rfl
    have z3 : W9.cell? ⟨(b + 1), 3, none⟩ = some (.int .i64 0) := by rw [Lib.cell_of_heap H.out.res]; rfl
    have HG := Lib.hid H.out.give
    have HT := Lib.hid (heap_four H.out.res (.bool false) (.slice none 0 0) (.slice none 0 0) (.int .i64 tp))
    go_wp2_with fail
    refine bodyPost_ret (v := .agg #[.bool false, .slice none 0 0, .slice none 0 0, .int .i64 tp]) (results_cell_row rfl _ _ (b + 1) _ _ (0, 0) _ rfl HT.out Tryd.underlying78 rfl (by kernel_rfl)) rfl ?_
    rw [HPP.out]
    exact HG.out
  | true =>
   have hE6 : Ends l5 := Pol.is_tail hp5 (by decide) HE5.out
   have hl5 := hE6.pos
   have HQ6 : Hid (Q = match Pol.or_ (f + 1) 0 l5 with | .error e => .error e | .ok (x, m) => (match Pol.must m [59] with | .error e => .error e | .ok (_, m) => .ok (⟨false, [], [x], tp⟩, m))) := by
    show _ = _; rw [HQ5.out]; unfold Pol.ruleWhen Pol.whenOf; rw [if_pos hp5, List.tail_cons]
    rcases Pol.or_ (f + 1) 0 l5 with e | ⟨x, m⟩ <;> rfl
   have HP5 := Lib.hid hp5
   have HE6 := Lib.hid hE6
   clear hp5 hE6
   have HNX := Lib.hid (rd_took_yes W2 r g _ _ _ _ 0 1 ⟨#[119, 104, 101, 110]⟩ H.out.rd hl5 HP5.out)
   go_wp2_with fail
   refine HNX.out.mono ?_
   rintro e W6 ⟨rfl, hf1, hr1⟩
   have H := Lib.hid (H.out.step hf1 hr1)
   clear HNX hf1 hr1 hl5 x0 xf hrW hXW hbb
   have HOR := Lib.hid (or_reads_all (f + 1) W6 r g _ _ l5 0 H.out.rd HE6.out (by omega) (row_lt H.out.rd.row) (fun p hp => HFD.out p (by rw [HQ6.out, hp])))
   obtain ⟨q, hq⟩ : ∃ q, Pol.or_ (f + 1) 0 l5 = q := ⟨_, rfl⟩
   rw [hq] at HOR HQ6
   have Hq := Lib.hid hq
   clear hq
   have hrW := row_lt H.out.rd.row
   have hXW := row_lt H.out.ex
   have hbb : b < W6.heap.size := row_lt H.out.box
   have xf : ∀ i, W6.frozen? ⟨b, i, none⟩ = false := fun i => Lib.frozen_of_heap H.out.box i
   have x0 : W6.cell? ⟨b, 0, none⟩ = some (.pointer (some ⟨r, 0, none⟩)) := by rw [Lib.cell_of_heap H.out.box]; rfl
   go_wp2_with fail
   refine HOR.out.mono ?_
   intro e W7 hd
   cases q with
   | error pe =>
    obtain ⟨pp, pn⟩ := pe
    have HPP : Hid (Q = .error (pp, pn)) := HQ6.out
    have hs : Stops [r] W6 pp pn e W7 := hd
    obtain ⟨b9, hb9, rfl, hrow9, hf9⟩ := hs.from (bs := [r]) H.out.f (fun y hy => .inl (by simpa using hy))
    show _
    exact ⟨rfl, by rw [HPP.out]; exact RuleDone.stop ⟨b9, hb9, rfl, hrow9, hf9⟩⟩
   | ok xm =>
    obtain ⟨x, m9⟩ := xm
    obtain ⟨cs, rfl, hrep, hf3, o3, c3, hr3⟩ := hd
    obtain ⟨op0, s9, n9, q9, k9, c9, p9, rfl⟩ := hrep.form
    have HQ : Hid (Q = match Pol.must m9 [59] with | .error e => .error e | .ok (_, m) => .ok (⟨false, [], [x], tp⟩, m)) := HQ6.out
    have hE9 : Ends m9 := (Pol.all_keep (f + 1)).2.2.2.2.2.2.2 0 l5 x m9 Hq.out HE6.out
    have HE9 := Lib.hid hE9
    have HX := Lib.hid (H.out.step hf3 hr3 |>.when hrep (Nat.le_trans H.out.f.size hf3.size) (row_lt H.out.ex) (Nat.le_trans H.out.f.size (Nat.le_refl _)))
    have H := Lib.hid (H.out.step hf3 hr3)
    clear hrep hf3 hr3 hE9 HOR HQ6 x0 xf hrW hXW hbb
    have hrW := row_lt H.out.rd.row
    have hXW := row_lt H.out.ex
    have hbb : b < W7.heap.size := row_lt H.out.box
    have xf : ∀ i, W7.frozen? ⟨b, i, none⟩ = false := fun i => Lib.frozen_of_heap H.out.box i
    have x0 : W7.cell? ⟨b, 0, none⟩ = some (.pointer (some ⟨r, 0, none⟩)) := by rw [Lib.cell_of_heap H.out.box]; rfl
    have ef : ∀ i, W7.frozen? ⟨(b + 1 + 1), i, none⟩ = false := fun i => Lib.frozen_of_heap H.out.ex i
    have e0 : W7.cell? ⟨(b + 1 + 1), 0, none⟩ = some (.bool false) := by rw [Lib.cell_of_heap H.out.ex]; rfl
    have e1 : W7.cell? ⟨(b + 1 + 1), 1, none⟩ = some (.slice none 0 0) := by rw [Lib.cell_of_heap H.out.ex]; rfl
    have e2 : W7.cell? ⟨(b + 1 + 1), 2, none⟩ = some (.slice none 0 0) := by rw [Lib.cell_of_heap H.out.ex]; rfl
    have e3 : W7.cell? ⟨(b + 1 + 1), 3, none⟩ = some (.int .i64 tp) := by rw [Lib.cell_of_heap H.out.ex]; rfl
    go_upto_region 10 with fail
    refine wp_fresh (fun U => RuSt w r g o3 c3 m9 b false (.slice none 0 0) (.slice (some ⟨W7.heap.size, 0, none⟩) 1 1) tp [] [x] U) HX.out ?_
    intro U hu
    have H := Lib.hid hu
    clear hu HX e0 e1 e2 e3 ef hrW hXW hbb
    obtain ⟨t9, l9, rfl⟩ := HE9.out.cons
    have hrW := row_lt H.out.rd.row
    have hXW := row_lt H.out.ex
    have hbb : b < U.heap.size := row_lt H.out.box
    have xf : ∀ i, U.frozen? ⟨b, i, none⟩ = false := fun i => Lib.frozen_of_heap H.out.box i
    have x0 : U.cell? ⟨b, 0, none⟩ = some (.pointer (some ⟨r, 0, none⟩)) := by rw [Lib.cell_of_heap H.out.box]; rfl
    cases hp9 : Pol.is (t9 :: l9) 4 [59] with
    | false =>
     have HPP : Hid (Q = .error (t9.p, 120)) := by show _ = _; rw [HQ.out]; simp only [must_neg hp9]
     have HP0 := Lib.hid hp9
     clear hp9
     have HNX := Lib.hid (rd_must_no U r g _ _ t9 l9 0 ⟨#[59]⟩ H.out.rd HP0.out)
     go_wp2_with fail
     refine HNX.out.mono ?_
     intro e w1 hs
     obtain ⟨b9, hb9, rfl, hrow9, hf9⟩ := hs.from (bs := [r]) H.out.f (fun y hy => .inl (by simpa using hy))
     show _
     exact ⟨rfl, by rw [HPP.out]; exact RuleDone.stop ⟨b9, hb9, rfl, hrow9, hf9⟩⟩
    | true =>
     have HPP : Hid (Q = .ok (⟨false, [], [x], tp⟩, l9)) := by show _ = _; rw [HQ.out]; simp only [must_pos hp9]
     have hl9 : 0 < l9.length := (Pol.is_tail hp9 (by decide) HE9.out : Ends l9).pos
     have HP0 := Lib.hid hp9
     clear hp9
     have HNX := Lib.hid (rd_must_yes U r g _ _ t9 l9 0 ⟨#[59]⟩ H.out.rd hl9 HP0.out)
     go_wp2_with fail
     refine HNX.out.mono ?_
     rintro e W9 ⟨rfl, hf1, hr1⟩
     have H := Lib.hid (H.out.step hf1 hr1)
     clear HNX hf1 hr1 hl9 x0 xf hrW hXW hbb
     have hXW := row_lt H.out.ex
     have ef : ∀ i, W9.frozen? ⟨(b + 1 + 1), i, none⟩ = false := fun i => Lib.frozen_of_heap H.out.ex i
     have e0 : W9.cell? ⟨(b + 1 + 1), 0, none⟩ = some (.bool false) := by rw [Lib.cell_of_heap H.out.ex]; rfl
     have e1 : W9.cell? ⟨(b + 1 + 1), 1, none⟩ = some (.slice none 0 0) := by rw [Lib.cell_of_heap H.out.ex]; rfl
     have e2 : W9.cell? ⟨(b + 1 + 1), 2, none⟩ = some (.slice (some ⟨W7.heap.size, 0, none⟩) 1 1) := by rw [Lib.cell_of_heap H.out.ex]; rfl
     have e3 : W9.cell? ⟨(b + 1 + 1), 3, none⟩ = some (.int .i64 tp) := by rw [Lib.cell_of_heap H.out.ex]; rfl
     have zf : ∀ i, W9.frozen? ⟨(b + 1), i, none⟩ = false := fun i => Lib.frozen_of_heap H.out.res i
     have z0 : W9.cell? ⟨(b + 1), 0, none⟩ = some (.bool false) := by rw [Lib.cell_of_heap H.out.res]; rfl
     have z1 : W9.cell? ⟨(b + 1), 1, none⟩ = some (.slice none 0 0) := by rw [Lib.cell_of_heap H.out.res]; rfl
     have z2 : W9.cell? ⟨(b + 1), 2, none⟩ = some (.slice none 0 0) := by rw [Lib.cell_of_heap H.out.res]; rfl
     have z3 : W9.cell? ⟨(b + 1), 3, none⟩ = some (.int .i64 0) := by rw [Lib.cell_of_heap H.out.res]; rfl
     have HG := Lib.hid H.out.give
     have HT := Lib.hid (heap_four H.out.res (.bool false) (.slice none 0 0) (.slice (some ⟨W7.heap.size, 0, none⟩) 1 1) (.int .i64 tp))
     go_wp2_with fail
     refine bodyPost_ret (v := .agg #[.bool false, .slice none 0 0, .slice (some ⟨W7.heap.size, 0, none⟩) 1 1, .int .i64 tp]) (results_cell_row rfl _ _ (b + 1) _ _ (0, 0) _ rfl HT.out Tryd.underlying78 rfl (by kernel_rfl)) rfl ?_
     rw [HPP.out]
     exact HG.out
 | true =>
  have hE4 : Ends l4 := Pol.is_tail hp4 (by decide) HEm.out
  have hl4 := hE4.pos
  have HP4 := Lib.hid hp4
  have HE4 := Lib.hid hE4
  have HQ4 : Hid (Q = match Pol.texts (f + 1) l4 with | .error e => .error e | .ok (S, m) => Pol.ruleWhen (f + 1) false tp S m) := by show _ = _; rw [HQ.out]; unfold Pol.ruleTail Pol.scopesOf; rw [if_pos hp4, List.tail_cons]; rcases Pol.texts (f + 1) l4 with e | ⟨S, m⟩ <;> rfl
  clear hp4 hE4 HQ
  have HNX := Lib.hid (rd_took_yes W2 r g _ _ _ _ 0 1 ⟨#[115, 99, 111, 112, 101]⟩ H.out.rd hl4 HP4.out)
  go_wp2_with fail
  refine HNX.out.mono ?_
  rintro e W3 ⟨rfl, hf1, hr1⟩
  have H := Lib.hid (H.out.step hf1 hr1)
  clear HNX hf1 hr1 hl4 x0 xf hrW hXW hbb HEm
  have HTX := Lib.hid (texts_read f W3 b r g _ _ l4 0 H.out.rd H.out.box (by have := H.out.bw; have := H.out.rl; omega) HE4.out (fun p hp => HFD.out p (by rw [HQ4.out, hp])))
  obtain ⟨q, hq⟩ : ∃ q, Pol.texts (f + 1) l4 = q := ⟨_, rfl⟩
  rw [hq] at HTX HQ4
  have Hq := Lib.hid hq
  clear hq
  have hmf : ∀ fn first cap w, (Instr.makeFunc fn first cap).run Tryd.prog w = .ok (.func fn first cap) w := fun _ _ _ _ => rfl
  have hrW := row_lt H.out.rd.row
  have hXW := row_lt H.out.ex
  have hbb : b < W3.heap.size := row_lt H.out.box
  have xf : ∀ i, W3.frozen? ⟨b, i, none⟩ = false := fun i => Lib.frozen_of_heap H.out.box i
  have x0 : W3.cell? ⟨b, 0, none⟩ = some (.pointer (some ⟨r, 0, none⟩)) := by rw [Lib.cell_of_heap H.out.box]; rfl
  go_wp2_with fail
  refine HTX.out.mono ?_
  intro e W4 hd
  cases q with
  | error pe =>
   obtain ⟨pp, pn⟩ := pe
   have HPP : Hid (Q = .error (pp, pn)) := HQ4.out
   have hs : Stops [r] W3 pp pn e W4 := hd
   obtain ⟨b9, hb9, rfl, hrow9, hf9⟩ := hs.from (bs := [r]) H.out.f (fun y hy => .inl (by simpa using hy))
   show _
   exact ⟨rfl, by rw [HPP.out]; exact RuleDone.stop ⟨b9, hb9, rfl, hrow9, hf9⟩⟩
  | ok xm =>
   obtain ⟨A, m5⟩ := xm
   obtain ⟨v, rfl, hown, hf3, o5, c5, hr3⟩ := hd
   obtain ⟨qa, qc, rfl⟩ := own_form hown
   have HQ5 : Hid (Q = Pol.ruleWhen (f + 1) false tp A m5) := HQ4.out
   have hE5 : Ends m5 := Pol.texts_ends Hq.out HE4.out
   have HE5 := Lib.hid hE5
   have HX := Lib.hid ((H.out.step hf3 hr3).scope hown (row_lt H.out.ex))
   have H := Lib.hid (H.out.step hf3 hr3)
   clear hown hf3 hr3 hE5 HTX HQ4 x0 xf hrW hXW hbb HE4
   have hrW := row_lt H.out.rd.row
   have hXW := row_lt H.out.ex
   have hbb : b < W4.heap.size := row_lt H.out.box
   have xf : ∀ i, W4.frozen? ⟨b, i, none⟩ = false := fun i => Lib.frozen_of_heap H.out.box i
   have x0 : W4.cell? ⟨b, 0, none⟩ = some (.pointer (some ⟨r, 0, none⟩)) := by rw [Lib.cell_of_heap H.out.box]; rfl
   have ef : ∀ i, W4.frozen? ⟨(b + 1 + 1), i, none⟩ = false := fun i => Lib.frozen_of_heap H.out.ex i
   have e0 : W4.cell? ⟨(b + 1 + 1), 0, none⟩ = some (.bool false) := by rw [Lib.cell_of_heap H.out.ex]; rfl
   have e1 : W4.cell? ⟨(b + 1 + 1), 1, none⟩ = some (.slice none 0 0) := by rw [Lib.cell_of_heap H.out.ex]; rfl
   have e2 : W4.cell? ⟨(b + 1 + 1), 2, none⟩ = some (.slice none 0 0) := by rw [Lib.cell_of_heap H.out.ex]; rfl
   have e3 : W4.cell? ⟨(b + 1 + 1), 3, none⟩ = some (.int .i64 tp) := by rw [Lib.cell_of_heap H.out.ex]; rfl
   go_upto_region 8 with fail
   refine wp_fresh (fun U => RuSt w r g o5 c5 m5 b false (.slice qa A.length qc) (.slice none 0 0) tp A [] U) HX.out ?_
   intro U hu
   have H := Lib.hid hu
   clear hu HX e0 e1 e2 e3 ef hrW hXW hbb x0 xf
   obtain ⟨t5, l5, rfl⟩ := HE5.out.cons
   have hrW := row_lt H.out.rd.row
   have hXW := row_lt H.out.ex
   have hbb : b < U.heap.size := row_lt H.out.box
   have xf : ∀ i, U.frozen? ⟨b, i, none⟩ = false := fun i => Lib.frozen_of_heap H.out.box i
   have x0 : U.cell? ⟨b, 0, none⟩ = some (.pointer (some ⟨r, 0, none⟩)) := by rw [Lib.cell_of_heap H.out.box]; rfl
   cases hp5 : Pol.is (t5 :: l5) 1 [119, 104, 101, 110] with
   | false =>
    have HQ : Hid (Q = match Pol.must (t5 :: l5) [59] with | .error e => .error e | .ok (_, m) => .ok (⟨false, A, [], tp⟩, m)) := by show _ = _; rw [HQ5.out]; unfold Pol.ruleWhen Pol.whenOf; rw [if_neg (by rw [hp5]; simp)]; simp only []; rcases Pol.must (t5 :: l5) [59] with e | ⟨u, m⟩ <;> rfl
    have HP5 := Lib.hid hp5
    clear hp5
    have HNX := Lib.hid (rd_took_no U r g _ _ _ _ 0 1 ⟨#[119, 104, 101, 110]⟩ H.out.rd HP5.out)
    go_wp2_with fail
    refine HNX.out.mono ?_
    rintro e w2 ⟨rfl, rfl⟩
    clear HNX hrW hXW hbb x0 xf
    have HE9 := HE5
    obtain ⟨m9, hm9⟩ : ∃ m9, t5 :: l5 = m9 := ⟨_, rfl⟩
    rw [hm9] at H HQ HE9
    clear hm9 HE5 HP5 HQ5
    obtain ⟨t9, l9, rfl⟩ := HE9.out.cons
    have hrW := row_lt H.out.rd.row
    have hXW := row_lt H.out.ex
    have hbb : b < U.heap.size := row_lt H.out.box
    have xf : ∀ i, U.frozen? ⟨b, i, none⟩ = false := fun i => Lib.frozen_of_heap H.out.box i
    have x0 : U.cell? ⟨b, 0, none⟩ = some (.pointer (some ⟨r, 0, none⟩)) := by rw [Lib.cell_of_heap H.out.box]; rfl
    cases hp9 : Pol.is (t9 :: l9) 4 [59] with
    | false =>
     have HPP : Hid (Q = .error (t9.p, 120)) := by show _ = _; rw [HQ.out]; simp only [must_neg hp9]
     have HP0 := Lib.hid hp9
     clear hp9
     have HNX := Lib.hid (rd_must_no U r g _ _ t9 l9 0 ⟨#[59]⟩ H.out.rd HP0.out)
     go_wp2_with fail
     refine HNX.out.mono ?_
     intro e w1 hs
     obtain ⟨b9, hb9, rfl, hrow9, hf9⟩ := hs.from (bs := [r]) H.out.f (fun y hy => .inl (by simpa using hy))
     show _
     exact ⟨rfl, by rw [HPP.out]; exact RuleDone.stop ⟨b9, hb9, rfl, hrow9, hf9⟩⟩
    | true =>
     have HPP : Hid (Q = .ok (⟨false, A, [], tp⟩, l9)) := by show _ = _; rw [HQ.out]; simp only [must_pos hp9]
     have hl9 : 0 < l9.length := (Pol.is_tail hp9 (by decide) HE9.out : Ends l9).pos
     have HP0 := Lib.hid hp9
     clear hp9
     have HNX := Lib.hid (rd_must_yes U r g _ _ t9 l9 0 ⟨#[59]⟩ H.out.rd hl9 HP0.out)
     go_wp2_with fail
     refine HNX.out.mono ?_
     rintro e W9 ⟨rfl, hf1, hr1⟩
     have H := Lib.hid (H.out.step hf1 hr1)
     clear HNX hf1 hr1 hl9 x0 xf hrW hXW hbb
     have hXW := row_lt H.out.ex
     have ef : ∀ i, W9.frozen? ⟨(b + 1 + 1), i, none⟩ = false := fun i => Lib.frozen_of_heap H.out.ex i
     have e0 : W9.cell? ⟨(b + 1 + 1), 0, none⟩ = some (.bool false) := by rw [Lib.cell_of_heap H.out.ex]; rfl
     have e1 : W9.cell? ⟨(b + 1 + 1), 1, none⟩ = some (.slice qa A.length qc) := by rw [Lib.cell_of_heap H.out.ex]; rfl
     have e2 : W9.cell? ⟨(b + 1 + 1), 2, none⟩ = some (.slice none 0 0) := by rw [Lib.cell_of_heap H.out.ex]; rfl
     have e3 : W9.cell? ⟨(b + 1 + 1), 3, none⟩ = some (.int .i64 tp) := by rw [Lib.cell_of_heap H.out.ex]; rfl
     have zf : ∀ i, W9.frozen? ⟨(b + 1), i, none⟩ = false := fun i => Lib.frozen_of_heap H.out.res i
     have z0 : W9.cell? ⟨(b + 1), 0, none⟩ = some (.bool false) := by rw [Lib.cell_of_heap H.out.res]; rfl
     have z1 : W9.cell? ⟨(b + 1), 1, none⟩ = some (.slice none 0 0) := by rw [Lib.cell_of_heap H.out.res]; rfl
     have z2 : W9.cell? ⟨(b + 1), 2, none⟩ = some (.slice none 0 0) := by rw [Lib.cell_of_heap H.out.res]; rfl
     have z3 : W9.cell? ⟨(b + 1), 3, none⟩ = some (.int .i64 0) := by rw [Lib.cell_of_heap H.out.res]; rfl
     have HG := Lib.hid H.out.give
     have HT := Lib.hid (heap_four H.out.res (.bool false) (.slice qa A.length qc) (.slice none 0 0) (.int .i64 tp))
     go_wp2_with fail
     refine bodyPost_ret (v := .agg #[.bool false, .slice qa A.length qc, .slice none 0 0, .int .i64 tp]) (results_cell_row rfl _ _ (b + 1) _ _ (0, 0) _ rfl HT.out Tryd.underlying78 rfl (by kernel_rfl)) rfl ?_
     rw [HPP.out]
     exact HG.out
   | true =>
    have hE6 : Ends l5 := Pol.is_tail hp5 (by decide) HE5.out
    have hl5 := hE6.pos
    have HQ6 : Hid (Q = match Pol.or_ (f + 1) 0 l5 with | .error e => .error e | .ok (x, m) => (match Pol.must m [59] with | .error e => .error e | .ok (_, m) => .ok (⟨false, A, [x], tp⟩, m))) := by
     show _ = _; rw [HQ5.out]; unfold Pol.ruleWhen Pol.whenOf; rw [if_pos hp5, List.tail_cons]
     rcases Pol.or_ (f + 1) 0 l5 with e | ⟨x, m⟩ <;> rfl
    have HP5 := Lib.hid hp5
    have HE6 := Lib.hid hE6
    clear hp5 hE6
    have HNX := Lib.hid (rd_took_yes U r g _ _ _ _ 0 1 ⟨#[119, 104, 101, 110]⟩ H.out.rd hl5 HP5.out)
    go_wp2_with fail
    refine HNX.out.mono ?_
    rintro e W6 ⟨rfl, hf1, hr1⟩
    have H := Lib.hid (H.out.step hf1 hr1)
    clear HNX hf1 hr1 hl5 x0 xf hrW hXW hbb
    have HOR := Lib.hid (or_reads_all (f + 1) W6 r g _ _ l5 0 H.out.rd HE6.out (by omega) (row_lt H.out.rd.row) (fun p hp => HFD.out p (by rw [HQ6.out, hp])))
    obtain ⟨q, hq⟩ : ∃ q, Pol.or_ (f + 1) 0 l5 = q := ⟨_, rfl⟩
    rw [hq] at HOR HQ6
    have Hq := Lib.hid hq
    clear hq
    have hrW := row_lt H.out.rd.row
    have hXW := row_lt H.out.ex
    have hbb : b < W6.heap.size := row_lt H.out.box
    have xf : ∀ i, W6.frozen? ⟨b, i, none⟩ = false := fun i => Lib.frozen_of_heap H.out.box i
    have x0 : W6.cell? ⟨b, 0, none⟩ = some (.pointer (some ⟨r, 0, none⟩)) := by rw [Lib.cell_of_heap H.out.box]; rfl
    go_wp2_with fail
    refine HOR.out.mono ?_
    intro e W7 hd
    cases q with
    | error pe =>
     obtain ⟨pp, pn⟩ := pe
     have HPP : Hid (Q = .error (pp, pn)) := HQ6.out
     have hs : Stops [r] W6 pp pn e W7 := hd
     obtain ⟨b9, hb9, rfl, hrow9, hf9⟩ := hs.from (bs := [r]) H.out.f (fun y hy => .inl (by simpa using hy))
     show _
     exact ⟨rfl, by rw [HPP.out]; exact RuleDone.stop ⟨b9, hb9, rfl, hrow9, hf9⟩⟩
    | ok xm =>
     obtain ⟨x, m9⟩ := xm
     obtain ⟨cs, rfl, hrep, hf3, o3, c3, hr3⟩ := hd
     obtain ⟨op0, s9, n9, q9, k9, c9, p9, rfl⟩ := hrep.form
     have HQ : Hid (Q = match Pol.must m9 [59] with | .error e => .error e | .ok (_, m) => .ok (⟨false, A, [x], tp⟩, m)) := HQ6.out
     have hE9 : Ends m9 := (Pol.all_keep (f + 1)).2.2.2.2.2.2.2 0 l5 x m9 Hq.out HE6.out
     have HE9 := Lib.hid hE9
     have HX := Lib.hid (H.out.step hf3 hr3 |>.when hrep (Nat.le_trans H.out.f.size hf3.size) (row_lt H.out.ex) (Nat.le_trans H.out.f.size (Nat.le_refl _)))
     have H := Lib.hid (H.out.step hf3 hr3)
     clear hrep hf3 hr3 hE9 HOR HQ6 x0 xf hrW hXW hbb
     have hrW := row_lt H.out.rd.row
     have hXW := row_lt H.out.ex
     have hbb : b < W7.heap.size := row_lt H.out.box
     have xf : ∀ i, W7.frozen? ⟨b, i, none⟩ = false := fun i => Lib.frozen_of_heap H.out.box i
     have x0 : W7.cell? ⟨b, 0, none⟩ = some (.pointer (some ⟨r, 0, none⟩)) := by rw [Lib.cell_of_heap H.out.box]; rfl
     have ef : ∀ i, W7.frozen? ⟨(b + 1 + 1), i, none⟩ = false := fun i => Lib.frozen_of_heap H.out.ex i
     have e0 : W7.cell? ⟨(b + 1 + 1), 0, none⟩ = some (.bool false) := by rw [Lib.cell_of_heap H.out.ex]; rfl
     have e1 : W7.cell? ⟨(b + 1 + 1), 1, none⟩ = some (.slice qa A.length qc) := by rw [Lib.cell_of_heap H.out.ex]; rfl
     have e2 : W7.cell? ⟨(b + 1 + 1), 2, none⟩ = some (.slice none 0 0) := by rw [Lib.cell_of_heap H.out.ex]; rfl
     have e3 : W7.cell? ⟨(b + 1 + 1), 3, none⟩ = some (.int .i64 tp) := by rw [Lib.cell_of_heap H.out.ex]; rfl
     go_upto_region 10 with fail
     refine wp_fresh (fun U => RuSt w r g o3 c3 m9 b false (.slice qa A.length qc) (.slice (some ⟨W7.heap.size, 0, none⟩) 1 1) tp A [x] U) HX.out ?_
     intro U hu
     have H := Lib.hid hu
     clear hu HX e0 e1 e2 e3 ef hrW hXW hbb
     obtain ⟨t9, l9, rfl⟩ := HE9.out.cons
     have hrW := row_lt H.out.rd.row
     have hXW := row_lt H.out.ex
     have hbb : b < U.heap.size := row_lt H.out.box
     have xf : ∀ i, U.frozen? ⟨b, i, none⟩ = false := fun i => Lib.frozen_of_heap H.out.box i
     have x0 : U.cell? ⟨b, 0, none⟩ = some (.pointer (some ⟨r, 0, none⟩)) := by rw [Lib.cell_of_heap H.out.box]; rfl
     cases hp9 : Pol.is (t9 :: l9) 4 [59] with
     | false =>
      have HPP : Hid (Q = .error (t9.p, 120)) := by show _ = _; rw [HQ.out]; simp only [must_neg hp9]
      have HP0 := Lib.hid hp9
      clear hp9
      have HNX := Lib.hid (rd_must_no U r g _ _ t9 l9 0 ⟨#[59]⟩ H.out.rd HP0.out)
      go_wp2_with fail
      refine HNX.out.mono ?_
      intro e w1 hs
      obtain ⟨b9, hb9, rfl, hrow9, hf9⟩ := hs.from (bs := [r]) H.out.f (fun y hy => .inl (by simpa using hy))
      show _
      exact ⟨rfl, by rw [HPP.out]; exact RuleDone.stop ⟨b9, hb9, rfl, hrow9, hf9⟩⟩
     | true =>
      have HPP : Hid (Q = .ok (⟨false, A, [x], tp⟩, l9)) := by show _ = _; rw [HQ.out]; simp only [must_pos hp9]
      have hl9 : 0 < l9.length := (Pol.is_tail hp9 (by decide) HE9.out : Ends l9).pos
      have HP0 := Lib.hid hp9
      clear hp9
      have HNX := Lib.hid (rd_must_yes U r g _ _ t9 l9 0 ⟨#[59]⟩ H.out.rd hl9 HP0.out)
      go_wp2_with fail
      refine HNX.out.mono ?_
      rintro e W9 ⟨rfl, hf1, hr1⟩
      have H := Lib.hid (H.out.step hf1 hr1)
      clear HNX hf1 hr1 hl9 x0 xf hrW hXW hbb
      have hXW := row_lt H.out.ex
      have ef : ∀ i, W9.frozen? ⟨(b + 1 + 1), i, none⟩ = false := fun i => Lib.frozen_of_heap H.out.ex i
      have e0 : W9.cell? ⟨(b + 1 + 1), 0, none⟩ = some (.bool false) := by rw [Lib.cell_of_heap H.out.ex]; rfl
      have e1 : W9.cell? ⟨(b + 1 + 1), 1, none⟩ = some (.slice qa A.length qc) := by rw [Lib.cell_of_heap H.out.ex]; rfl
      have e2 : W9.cell? ⟨(b + 1 + 1), 2, none⟩ = some (.slice (some ⟨W7.heap.size, 0, none⟩) 1 1) := by rw [Lib.cell_of_heap H.out.ex]; rfl
      have e3 : W9.cell? ⟨(b + 1 + 1), 3, none⟩ = some (.int .i64 tp) := by rw [Lib.cell_of_heap H.out.ex]; rfl
      have zf : ∀ i, W9.frozen? ⟨(b + 1), i, none⟩ = false := fun i => Lib.frozen_of_heap H.out.res i
      have z0 : W9.cell? ⟨(b + 1), 0, none⟩ = some (.bool false) := by rw [Lib.cell_of_heap H.out.res]; rfl
      have z1 : W9.cell? ⟨(b + 1), 1, none⟩ = some (.slice none 0 0) := by rw [Lib.cell_of_heap H.out.res]; rfl
      have z2 : W9.cell? ⟨(b + 1), 2, none⟩ = some (.slice none 0 0) := by rw [Lib.cell_of_heap H.out.res]; rfl
      have z3 : W9.cell? ⟨(b + 1), 3, none⟩ = some (.int .i64 0) := by rw [Lib.cell_of_heap H.out.res]; rfl
      have HG := Lib.hid H.out.give
      have HT := Lib.hid (heap_four H.out.res (.bool false) (.slice qa A.length qc) (.slice (some ⟨W7.heap.size, 0, none⟩) 1 1) (.int .i64 tp))
      go_wp2_with fail
      refine bodyPost_ret (v := .agg #[.bool false, .slice qa A.length qc, .slice (some ⟨W7.heap.size, 0, none⟩) 1 1, .int .i64 tp]) (results_cell_row rfl _ _ (b + 1) _ _ (0, 0) _ rfl HT.out Tryd.underlying78 rfl (by kernel_rfl)) rfl ?_
      rw [HPP.out]
      exact HG.out
set_option maxHeartbeats 4000000 in
set_option maxRecDepth 100000 in
theorem rule_deny (f : Nat) (w : World) (r g o c : Nat) (t : TI) (m : List TI) (h : Rd w r g o c (t :: m) 0) (hE : Ends (t :: m)) (h0 : Pol.is (t :: m) 1 [112, 101, 114, 109, 105, 116] = false) (h1 : Pol.is (t :: m) 1 [100, 101, 110, 121] = true) (Q : Pol.PR Ru) (hQ : Q = Pol.ruleTail (f + 1) true t.p m) (hfed : Pol.Fed Q) :
  Calls Tryd.prog 57 #[.pointer (some ⟨r, 0, none⟩)] w (RuleDone r g 0 w Q) := by
 have H1 := Lib.hid h1
 have H0 := Lib.hid h0
 have HQ := Lib.hid hQ
 have HFD := Lib.hid hfed
 have hEm : Ends m := Pol.is_tail h1 (by decide) hE
 have HEm := Lib.hid hEm
 have hml := hEm.pos
 clear h1 hQ hfed hEm h0
 obtain ⟨tk, ts, tn, tp⟩ := t
 have hR := Lib.hid h
 obtain ⟨a0, a1, a2, a3⟩ := h.tk 0 _ rfl
 have hr := row_lt h.row
 have c0 := h.c0
 have hlc := h.lc
 have hm := h.cm
 have hg := h.gl
 have hne := h.ne
 rw [List.length_cons] at c0 hlc
 unfold maxLen at hm
 simp only [Nat.mul_zero, Nat.add_zero] at a0 a1 a2 a3
 have HE := Lib.hid hE
 clear h hE
 go_enter Tryd.func57, Tryd.ntmps57
 go_upto_region 3 with fail
 refine wp_fresh (fun W => RuSt w r g o c (⟨tk, ts, tn, tp⟩ :: m) w.heap.size false (.slice none 0 0) (.slice none 0 0) tp [] [] W) ?_ ?_
 ·have hal := alloc3r w (.cells #[.pointer (some ⟨r, 0, none⟩)] 94) (.cells #[.bool false, .slice none 0 0, .slice none 0 0, .int .i64 0] 78) (.cells #[.bool false, .slice none 0 0, .slice none 0 0, .int .i64 tp] 78)
  have hF : Fr [] w _ := (((Fr.refl [] w).alloc (.cells #[.pointer (some ⟨r, 0, none⟩)] 94)).alloc (.cells #[.bool false, .slice none 0 0, .slice none 0 0, .int .i64 0] 78)).alloc (.cells #[.bool false, .slice none 0 0, .slice none 0 0, .int .i64 tp] 78)
  have h1 := hR.out.fr hF (by simp) (by simp)
  exact ⟨h1, hal.1, hal.2.1, hal.2.2, SRep.none_ _ _, Rep.leaf _ _ _ _ _ _, hF.sub, hr, hg, rfl⟩
 intro W h1
 clear a0 a1 a2 a3 c0 hlc hR hm
 obtain ⟨b, hb⟩ : ∃ b, w.heap.size = b := ⟨_, rfl⟩
 rw [hb] at h1 ⊢
 have H := Lib.hid h1
 have HB := Lib.hid hb
 clear h1 hb hne
 have hrW := row_lt H.out.rd.row
 have hXW := row_lt H.out.ex
 have hbb : b < W.heap.size := row_lt H.out.box
 have xf : ∀ i, W.frozen? ⟨b, i, none⟩ = false := fun i => Lib.frozen_of_heap H.out.box i
 have x0 : W.cell? ⟨b, 0, none⟩ = some (.pointer (some ⟨r, 0, none⟩)) := by rw [Lib.cell_of_heap H.out.box]; rfl
 have HN0 := Lib.hid (rd_took_no W r g _ _ _ _ 0 1 ⟨#[112, 101, 114, 109, 105, 116]⟩ H.out.rd H0.out)
 have HNX := Lib.hid (rd_took_yes W r g _ _ _ _ 0 1 ⟨#[100, 101, 110, 121]⟩ H.out.rd hml H1.out)
 go_wp2_with fail
 refine HN0.out.mono ?_
 rintro e w2 ⟨rfl, rfl⟩
 go_wp2_with fail
 refine HNX.out.mono ?_
 rintro e W1 ⟨rfl, hf1, hr1⟩
 have H := Lib.hid (H.out.step hf1 hr1)
 clear HNX HN0 hf1 hr1 x0 xf hrW hXW hbb hml
 have hrW := row_lt H.out.rd.row
 have hXW := row_lt H.out.ex
 have hbb : b < W1.heap.size := row_lt H.out.box
 have xf : ∀ i, W1.frozen? ⟨b, i, none⟩ = false := fun i => Lib.frozen_of_heap H.out.box i
 have x0 : W1.cell? ⟨b, 0, none⟩ = some (.pointer (some ⟨r, 0, none⟩)) := by rw [Lib.cell_of_heap H.out.box]; rfl
 have ef : ∀ i, W1.frozen? ⟨(b + 1 + 1), i, none⟩ = false := fun i => Lib.frozen_of_heap H.out.ex i
 have e0 : W1.cell? ⟨(b + 1 + 1), 0, none⟩ = some (.bool false) := by rw [Lib.cell_of_heap H.out.ex]; rfl
 have e1 : W1.cell? ⟨(b + 1 + 1), 1, none⟩ = some (.slice none 0 0) := by rw [Lib.cell_of_heap H.out.ex]; rfl
 have e2 : W1.cell? ⟨(b + 1 + 1), 2, none⟩ = some (.slice none 0 0) := by rw [Lib.cell_of_heap H.out.ex]; rfl
 have e3 : W1.cell? ⟨(b + 1 + 1), 3, none⟩ = some (.int .i64 tp) := by rw [Lib.cell_of_heap H.out.ex]; rfl
 have HX : Hid (RuSt _ _ _ _ _ _ _ true _ _ _ _ _ _) := RuSt.denied H.out
 go_upto_region 6 with fail
 refine wp_fresh (fun U => RuSt w r g _ _ m b true (.slice none 0 0) (.slice none 0 0) tp [] [] U) HX.out ?_
 intro W2 hu
 have H := Lib.hid hu
 clear hu HX e0 e1 e2 e3 ef hrW hXW hbb x0 xf
 obtain ⟨t4, l4, rfl⟩ := HEm.out.cons
 have hrW := row_lt H.out.rd.row
 have hXW := row_lt H.out.ex
 have hbb : b < W2.heap.size := row_lt H.out.box
 have xf : ∀ i, W2.frozen? ⟨b, i, none⟩ = false := fun i => Lib.frozen_of_heap H.out.box i
 have x0 : W2.cell? ⟨b, 0, none⟩ = some (.pointer (some ⟨r, 0, none⟩)) := by rw [Lib.cell_of_heap H.out.box]; rfl
 cases hp4 : Pol.is (t4 :: l4) 1 [115, 99, 111, 112, 101] with
 | false =>
  have HQ5 : Hid (Q = Pol.ruleWhen (f + 1) true tp [] (t4 :: l4)) := by show _ = _; rw [HQ.out]; unfold Pol.ruleTail Pol.scopesOf; rw [if_neg (by rw [hp4]; simp)]
  have HP4 := Lib.hid hp4
  clear hp4 HQ
  have HNX := Lib.hid (rd_took_no W2 r g _ _ _ _ 0 1 ⟨#[115, 99, 111, 112, 101]⟩ H.out.rd HP4.out)
  go_wp2_with fail
  refine HNX.out.mono ?_
  rintro e w2 ⟨rfl, rfl⟩
  clear HNX x0 xf hrW hXW hbb
  have HE5 := HEm
  obtain ⟨m5, hm5⟩ : ∃ m5, t4 :: l4 = m5 := ⟨_, rfl⟩
  rw [hm5] at H HQ5 HE5
  clear hm5 HEm HP4
  obtain ⟨t5, l5, rfl⟩ := HE5.out.cons
  have hrW := row_lt H.out.rd.row
  have hXW := row_lt H.out.ex
  have hbb : b < W2.heap.size := row_lt H.out.box
  have xf : ∀ i, W2.frozen? ⟨b, i, none⟩ = false := fun i => Lib.frozen_of_heap H.out.box i
  have x0 : W2.cell? ⟨b, 0, none⟩ = some (.pointer (some ⟨r, 0, none⟩)) := by rw [Lib.cell_of_heap H.out.box]; rfl
  cases hp5 : Pol.is (t5 :: l5) 1 [119, 104, 101, 110] with
  | false =>
   have HQ : Hid (Q = match Pol.must (t5 :: l5) [59] with | .error e => .error e | .ok (_, m) => .ok (⟨true, [], [], tp⟩, m)) := by show _ = _; rw [HQ5.out]; unfold Pol.ruleWhen Pol.whenOf; rw [if_neg (by rw [hp5]; simp)]; simp only []; rcases Pol.must (t5 :: l5) [59] with e | ⟨u, m⟩ <;> rfl
   have HP5 := Lib.hid hp5
   clear hp5
   have HNX := Lib.hid (rd_took_no W2 r g _ _ _ _ 0 1 ⟨#[119, 104, 101, 110]⟩ H.out.rd HP5.out)
   go_wp2_with fail
   refine HNX.out.mono ?_
   rintro e w2 ⟨rfl, rfl⟩
   clear HNX hrW hXW hbb x0 xf
   have HE9 := HE5
   obtain ⟨m9, hm9⟩ : ∃ m9, t5 :: l5 = m9 := ⟨_, rfl⟩
   rw [hm9] at H HQ HE9
   clear hm9 HE5 HP5 HQ5
   obtain ⟨t9, l9, rfl⟩ := HE9.out.cons
   have hrW := row_lt H.out.rd.row
   have hXW := row_lt H.out.ex
   have hbb : b < W2.heap.size := row_lt H.out.box
   have xf : ∀ i, W2.frozen? ⟨b, i, none⟩ = false := fun i => Lib.frozen_of_heap H.out.box i
   have x0 : W2.cell? ⟨b, 0, none⟩ = some (.pointer (some ⟨r, 0, none⟩)) := by rw [Lib.cell_of_heap H.out.box]; rfl
   cases hp9 : Pol.is (t9 :: l9) 4 [59] with
   | false =>
    have HPP : Hid (Q = .error (t9.p, 120)) := by show _ = _; rw [HQ.out]; simp only [must_neg hp9]
    have HP0 := Lib.hid hp9
    clear hp9
    have HNX := Lib.hid (rd_must_no W2 r g _ _ t9 l9 0 ⟨#[59]⟩ H.out.rd HP0.out)
    go_wp2_with fail
    refine HNX.out.mono ?_
    intro e w1 hs
    obtain ⟨b9, hb9, rfl, hrow9, hf9⟩ := hs.from (bs := [r]) H.out.f (fun y hy => .inl (by simpa using hy))
    show _
    exact ⟨rfl, by rw [HPP.out]; exact RuleDone.stop ⟨b9, hb9, rfl, hrow9, hf9⟩⟩
   | true =>
    have HPP : Hid (Q = .ok (⟨true, [], [], tp⟩, l9)) := by show _ = _; rw [HQ.out]; simp only [must_pos hp9]
    have hl9 : 0 < l9.length := (Pol.is_tail hp9 (by decide) HE9.out : Ends l9).pos
    have HP0 := Lib.hid hp9
    clear hp9
    have HNX := Lib.hid (rd_must_yes W2 r g _ _ t9 l9 0 ⟨#[59]⟩ H.out.rd hl9 HP0.out)
    go_wp2_with fail
    refine HNX.out.mono ?_
    rintro e W9 ⟨rfl, hf1, hr1⟩
    have H := Lib.hid (H.out.step hf1 hr1)
    clear HNX hf1 hr1 hl9 x0 xf hrW hXW hbb
    have hXW := row_lt H.out.ex
    have ef : ∀ i, W9.frozen? ⟨(b + 1 + 1), i, none⟩ = false := fun i => Lib.frozen_of_heap H.out.ex i
    have e0 : W9.cell? ⟨(b + 1 + 1), 0, none⟩ = some (.bool true) := by rw [Lib.cell_of_heap H.out.ex]; rfl
    have e1 : W9.cell? ⟨(b + 1 + 1), 1, none⟩ = some (.slice none 0 0) := by rw [Lib.cell_of_heap H.out.ex]; rfl
    have e2 : W9.cell? ⟨(b + 1 + 1), 2, none⟩ = some (.slice none 0 0) := by rw [Lib.cell_of_heap H.out.ex]; rfl
    have e3 : W9.cell? ⟨(b + 1 + 1), 3, none⟩ = some (.int .i64 tp) := by rw [Lib.cell_of_heap H.out.ex]; rfl
    have zf : ∀ i, W9.frozen? ⟨(b + 1), i, none⟩ = false := fun i => Lib.frozen_of_heap H.out.res i
    have z0 : W9.cell? ⟨(b + 1), 0, none⟩ = some (.bool false) := by rw [Lib.cell_of_heap H.out.res]; rfl
    have z1 : W9.cell? ⟨(b + 1), 1, none⟩ = some (.slice none 0 0) := by rw [Lib.cell_of_heap H.out.res]; rfl
    have z2 : W9.cell? ⟨(b + 1), 2, none⟩ = some (.slice none 0 0) := by rw [Lib.cell_of_heap H.out.res]; rfl
    have z3 : W9.cell? ⟨(b + 1), 3, none⟩ = some (.int .i64 0) := by rw [Lib.cell_of_heap H.out.res]; rfl
    have HG := Lib.hid H.out.give
    have HT := Lib.hid (heap_four H.out.res (.bool true) (.slice none 0 0) (.slice none 0 0) (.int .i64 tp))
    go_wp2_with fail
    refine bodyPost_ret (v := .agg #[.bool true, .slice none 0 0, .slice none 0 0, .int .i64 tp]) (results_cell_row rfl _ _ (b + 1) _ _ (0, 0) _ rfl HT.out Tryd.underlying78 rfl (by kernel_rfl)) rfl ?_
    rw [HPP.out]
    exact HG.out
  | true =>
   have hE6 : Ends l5 := Pol.is_tail hp5 (by decide) HE5.out
   have hl5 := hE6.pos
   have HQ6 : Hid (Q = match Pol.or_ (f + 1) 0 l5 with | .error e => .error e | .ok (x, m) => (match Pol.must m [59] with | .error e => .error e | .ok (_, m) => .ok (⟨true, [], [x], tp⟩, m))) := by
    show _ = _; rw [HQ5.out]; unfold Pol.ruleWhen Pol.whenOf; rw [if_pos hp5, List.tail_cons]
    rcases Pol.or_ (f + 1) 0 l5 with e | ⟨x, m⟩ <;> rfl
   have HP5 := Lib.hid hp5
   have HE6 := Lib.hid hE6
   clear hp5 hE6
   have HNX := Lib.hid (rd_took_yes W2 r g _ _ _ _ 0 1 ⟨#[119, 104, 101, 110]⟩ H.out.rd hl5 HP5.out)
   go_wp2_with fail
   refine HNX.out.mono ?_
   rintro e W6 ⟨rfl, hf1, hr1⟩
   have H := Lib.hid (H.out.step hf1 hr1)
   clear HNX hf1 hr1 hl5 x0 xf hrW hXW hbb
   have HOR := Lib.hid (or_reads_all (f + 1) W6 r g _ _ l5 0 H.out.rd HE6.out (by omega) (row_lt H.out.rd.row) (fun p hp => HFD.out p (by rw [HQ6.out, hp])))
   obtain ⟨q, hq⟩ : ∃ q, Pol.or_ (f + 1) 0 l5 = q := ⟨_, rfl⟩
   rw [hq] at HOR HQ6
   have Hq := Lib.hid hq
   clear hq
   have hrW := row_lt H.out.rd.row
   have hXW := row_lt H.out.ex
   have hbb : b < W6.heap.size := row_lt H.out.box
   have xf : ∀ i, W6.frozen? ⟨b, i, none⟩ = false := fun i => Lib.frozen_of_heap H.out.box i
   have x0 : W6.cell? ⟨b, 0, none⟩ = some (.pointer (some ⟨r, 0, none⟩)) := by rw [Lib.cell_of_heap H.out.box]; rfl
   go_wp2_with fail
   refine HOR.out.mono ?_
   intro e W7 hd
   cases q with
   | error pe =>
    obtain ⟨pp, pn⟩ := pe
    have HPP : Hid (Q = .error (pp, pn)) := HQ6.out
    have hs : Stops [r] W6 pp pn e W7 := hd
    obtain ⟨b9, hb9, rfl, hrow9, hf9⟩ := hs.from (bs := [r]) H.out.f (fun y hy => .inl (by simpa using hy))
    show _
    exact ⟨rfl, by rw [HPP.out]; exact RuleDone.stop ⟨b9, hb9, rfl, hrow9, hf9⟩⟩
   | ok xm =>
    obtain ⟨x, m9⟩ := xm
    obtain ⟨cs, rfl, hrep, hf3, o3, c3, hr3⟩ := hd
    obtain ⟨op0, s9, n9, q9, k9, c9, p9, rfl⟩ := hrep.form
    have HQ : Hid (Q = match Pol.must m9 [59] with | .error e => .error e | .ok (_, m) => .ok (⟨true, [], [x], tp⟩, m)) := HQ6.out
    have hE9 : Ends m9 := (Pol.all_keep (f + 1)).2.2.2.2.2.2.2 0 l5 x m9 Hq.out HE6.out
    have HE9 := Lib.hid hE9
    have HX := Lib.hid (H.out.step hf3 hr3 |>.when hrep (Nat.le_trans H.out.f.size hf3.size) (row_lt H.out.ex) (Nat.le_trans H.out.f.size (Nat.le_refl _)))
    have H := Lib.hid (H.out.step hf3 hr3)
    clear hrep hf3 hr3 hE9 HOR HQ6 x0 xf hrW hXW hbb
    have hrW := row_lt H.out.rd.row
    have hXW := row_lt H.out.ex
    have hbb : b < W7.heap.size := row_lt H.out.box
    have xf : ∀ i, W7.frozen? ⟨b, i, none⟩ = false := fun i => Lib.frozen_of_heap H.out.box i
    have x0 : W7.cell? ⟨b, 0, none⟩ = some (.pointer (some ⟨r, 0, none⟩)) := by rw [Lib.cell_of_heap H.out.box]; rfl
    have ef : ∀ i, W7.frozen? ⟨(b + 1 + 1), i, none⟩ = false := fun i => Lib.frozen_of_heap H.out.ex i
    have e0 : W7.cell? ⟨(b + 1 + 1), 0, none⟩ = some (.bool true) := by rw [Lib.cell_of_heap H.out.ex]; rfl
    have e1 : W7.cell? ⟨(b + 1 + 1), 1, none⟩ = some (.slice none 0 0) := by rw [Lib.cell_of_heap H.out.ex]; rfl
    have e2 : W7.cell? ⟨(b + 1 + 1), 2, none⟩ = some (.slice none 0 0) := by rw [Lib.cell_of_heap H.out.ex]; rfl
    have e3 : W7.cell? ⟨(b + 1 + 1), 3, none⟩ = some (.int .i64 tp) := by rw [Lib.cell_of_heap H.out.ex]; rfl
    go_upto_region 10 with fail
    refine wp_fresh (fun U => RuSt w r g o3 c3 m9 b true (.slice none 0 0) (.slice (some ⟨W7.heap.size, 0, none⟩) 1 1) tp [] [x] U) HX.out ?_
    intro U hu
    have H := Lib.hid hu
    clear hu HX e0 e1 e2 e3 ef hrW hXW hbb
    obtain ⟨t9, l9, rfl⟩ := HE9.out.cons
    have hrW := row_lt H.out.rd.row
    have hXW := row_lt H.out.ex
    have hbb : b < U.heap.size := row_lt H.out.box
    have xf : ∀ i, U.frozen? ⟨b, i, none⟩ = false := fun i => Lib.frozen_of_heap H.out.box i
    have x0 : U.cell? ⟨b, 0, none⟩ = some (.pointer (some ⟨r, 0, none⟩)) := by rw [Lib.cell_of_heap H.out.box]; rfl
    cases hp9 : Pol.is (t9 :: l9) 4 [59] with
    | false =>
     have HPP : Hid (Q = .error (t9.p, 120)) := by show _ = _; rw [HQ.out]; simp only [must_neg hp9]
     have HP0 := Lib.hid hp9
     clear hp9
     have HNX := Lib.hid (rd_must_no U r g _ _ t9 l9 0 ⟨#[59]⟩ H.out.rd HP0.out)
     go_wp2_with fail
     refine HNX.out.mono ?_
     intro e w1 hs
     obtain ⟨b9, hb9, rfl, hrow9, hf9⟩ := hs.from (bs := [r]) H.out.f (fun y hy => .inl (by simpa using hy))
     show _
     exact ⟨rfl, by rw [HPP.out]; exact RuleDone.stop ⟨b9, hb9, rfl, hrow9, hf9⟩⟩
    | true =>
     have HPP : Hid (Q = .ok (⟨true, [], [x], tp⟩, l9)) := by show _ = _; rw [HQ.out]; simp only [must_pos hp9]
     have hl9 : 0 < l9.length := (Pol.is_tail hp9 (by decide) HE9.out : Ends l9).pos
     have HP0 := Lib.hid hp9
     clear hp9
     have HNX := Lib.hid (rd_must_yes U r g _ _ t9 l9 0 ⟨#[59]⟩ H.out.rd hl9 HP0.out)
     go_wp2_with fail
     refine HNX.out.mono ?_
     rintro e W9 ⟨rfl, hf1, hr1⟩
     have H := Lib.hid (H.out.step hf1 hr1)
     clear HNX hf1 hr1 hl9 x0 xf hrW hXW hbb
     have hXW := row_lt H.out.ex
     have ef : ∀ i, W9.frozen? ⟨(b + 1 + 1), i, none⟩ = false := fun i => Lib.frozen_of_heap H.out.ex i
     have e0 : W9.cell? ⟨(b + 1 + 1), 0, none⟩ = some (.bool true) := by rw [Lib.cell_of_heap H.out.ex]; rfl
     have e1 : W9.cell? ⟨(b + 1 + 1), 1, none⟩ = some (.slice none 0 0) := by rw [Lib.cell_of_heap H.out.ex]; rfl
     have e2 : W9.cell? ⟨(b + 1 + 1), 2, none⟩ = some (.slice (some ⟨W7.heap.size, 0, none⟩) 1 1) := by rw [Lib.cell_of_heap H.out.ex]; rfl
     have e3 : W9.cell? ⟨(b + 1 + 1), 3, none⟩ = some (.int .i64 tp) := by rw [Lib.cell_of_heap H.out.ex]; rfl
     have zf : ∀ i, W9.frozen? ⟨(b + 1), i, none⟩ = false := fun i => Lib.frozen_of_heap H.out.res i
     have z0 : W9.cell? ⟨(b + 1), 0, none⟩ = some (.bool false) := by rw [Lib.cell_of_heap H.out.res]; rfl
     have z1 : W9.cell? ⟨(b + 1), 1, none⟩ = some (.slice none 0 0) := by rw [Lib.cell_of_heap H.out.res]; rfl
     have z2 : W9.cell? ⟨(b + 1), 2, none⟩ = some (.slice none 0 0) := by rw [Lib.cell_of_heap H.out.res]; rfl
     have z3 : W9.cell? ⟨(b + 1), 3, none⟩ = some (.int .i64 0) := by rw [Lib.cell_of_heap H.out.res]; rfl
     have HG := Lib.hid H.out.give
     have HT := Lib.hid (heap_four H.out.res (.bool true) (.slice none 0 0) (.slice (some ⟨W7.heap.size, 0, none⟩) 1 1) (.int .i64 tp))
     go_wp2_with fail
     refine bodyPost_ret (v := .agg #[.bool true, .slice none 0 0, .slice (some ⟨W7.heap.size, 0, none⟩) 1 1, .int .i64 tp]) (results_cell_row rfl _ _ (b + 1) _ _ (0, 0) _ rfl HT.out Tryd.underlying78 rfl (by kernel_rfl)) rfl ?_
     rw [HPP.out]
     exact HG.out
 | true =>
  have hE4 : Ends l4 := Pol.is_tail hp4 (by decide) HEm.out
  have hl4 := hE4.pos
  have HP4 := Lib.hid hp4
  have HE4 := Lib.hid hE4
  have HQ4 : Hid (Q = match Pol.texts (f + 1) l4 with | .error e => .error e | .ok (S, m) => Pol.ruleWhen (f + 1) true tp S m) := by show _ = _; rw [HQ.out]; unfold Pol.ruleTail Pol.scopesOf; rw [if_pos hp4, List.tail_cons]; rcases Pol.texts (f + 1) l4 with e | ⟨S, m⟩ <;> rfl
  clear hp4 hE4 HQ
  have HNX := Lib.hid (rd_took_yes W2 r g _ _ _ _ 0 1 ⟨#[115, 99, 111, 112, 101]⟩ H.out.rd hl4 HP4.out)
  go_wp2_with fail
  refine HNX.out.mono ?_
  rintro e W3 ⟨rfl, hf1, hr1⟩
  have H := Lib.hid (H.out.step hf1 hr1)
  clear HNX hf1 hr1 hl4 x0 xf hrW hXW hbb HEm
  have HTX := Lib.hid (texts_read f W3 b r g _ _ l4 0 H.out.rd H.out.box (by have := H.out.bw; have := H.out.rl; omega) HE4.out (fun p hp => HFD.out p (by rw [HQ4.out, hp])))
  obtain ⟨q, hq⟩ : ∃ q, Pol.texts (f + 1) l4 = q := ⟨_, rfl⟩
  rw [hq] at HTX HQ4
  have Hq := Lib.hid hq
  clear hq
  have hmf : ∀ fn first cap w, (Instr.makeFunc fn first cap).run Tryd.prog w = .ok (.func fn first cap) w := fun _ _ _ _ => rfl
  have hrW := row_lt H.out.rd.row
  have hXW := row_lt H.out.ex
  have hbb : b < W3.heap.size := row_lt H.out.box
  have xf : ∀ i, W3.frozen? ⟨b, i, none⟩ = false := fun i => Lib.frozen_of_heap H.out.box i
  have x0 : W3.cell? ⟨b, 0, none⟩ = some (.pointer (some ⟨r, 0, none⟩)) := by rw [Lib.cell_of_heap H.out.box]; rfl
  go_wp2_with fail
  refine HTX.out.mono ?_
  intro e W4 hd
  cases q with
  | error pe =>
   obtain ⟨pp, pn⟩ := pe
   have HPP : Hid (Q = .error (pp, pn)) := HQ4.out
   have hs : Stops [r] W3 pp pn e W4 := hd
   obtain ⟨b9, hb9, rfl, hrow9, hf9⟩ := hs.from (bs := [r]) H.out.f (fun y hy => .inl (by simpa using hy))
   show _
   exact ⟨rfl, by rw [HPP.out]; exact RuleDone.stop ⟨b9, hb9, rfl, hrow9, hf9⟩⟩
  | ok xm =>
   obtain ⟨A, m5⟩ := xm
   obtain ⟨v, rfl, hown, hf3, o5, c5, hr3⟩ := hd
   obtain ⟨qa, qc, rfl⟩ := own_form hown
   have HQ5 : Hid (Q = Pol.ruleWhen (f + 1) true tp A m5) := HQ4.out
   have hE5 : Ends m5 := Pol.texts_ends Hq.out HE4.out
   have HE5 := Lib.hid hE5
   have HX := Lib.hid ((H.out.step hf3 hr3).scope hown (row_lt H.out.ex))
   have H := Lib.hid (H.out.step hf3 hr3)
   clear hown hf3 hr3 hE5 HTX HQ4 x0 xf hrW hXW hbb HE4
   have hrW := row_lt H.out.rd.row
   have hXW := row_lt H.out.ex
   have hbb : b < W4.heap.size := row_lt H.out.box
   have xf : ∀ i, W4.frozen? ⟨b, i, none⟩ = false := fun i => Lib.frozen_of_heap H.out.box i
   have x0 : W4.cell? ⟨b, 0, none⟩ = some (.pointer (some ⟨r, 0, none⟩)) := by rw [Lib.cell_of_heap H.out.box]; rfl
   have ef : ∀ i, W4.frozen? ⟨(b + 1 + 1), i, none⟩ = false := fun i => Lib.frozen_of_heap H.out.ex i
   have e0 : W4.cell? ⟨(b + 1 + 1), 0, none⟩ = some (.bool true) := by rw [Lib.cell_of_heap H.out.ex]; rfl
   have e1 : W4.cell? ⟨(b + 1 + 1), 1, none⟩ = some (.slice none 0 0) := by rw [Lib.cell_of_heap H.out.ex]; rfl
   have e2 : W4.cell? ⟨(b + 1 + 1), 2, none⟩ = some (.slice none 0 0) := by rw [Lib.cell_of_heap H.out.ex]; rfl
   have e3 : W4.cell? ⟨(b + 1 + 1), 3, none⟩ = some (.int .i64 tp) := by rw [Lib.cell_of_heap H.out.ex]; rfl
   go_upto_region 8 with fail
   refine wp_fresh (fun U => RuSt w r g o5 c5 m5 b true (.slice qa A.length qc) (.slice none 0 0) tp A [] U) HX.out ?_
   intro U hu
   have H := Lib.hid hu
   clear hu HX e0 e1 e2 e3 ef hrW hXW hbb x0 xf
   obtain ⟨t5, l5, rfl⟩ := HE5.out.cons
   have hrW := row_lt H.out.rd.row
   have hXW := row_lt H.out.ex
   have hbb : b < U.heap.size := row_lt H.out.box
   have xf : ∀ i, U.frozen? ⟨b, i, none⟩ = false := fun i => Lib.frozen_of_heap H.out.box i
   have x0 : U.cell? ⟨b, 0, none⟩ = some (.pointer (some ⟨r, 0, none⟩)) := by rw [Lib.cell_of_heap H.out.box]; rfl
   cases hp5 : Pol.is (t5 :: l5) 1 [119, 104, 101, 110] with
   | false =>
    have HQ : Hid (Q = match Pol.must (t5 :: l5) [59] with | .error e => .error e | .ok (_, m) => .ok (⟨true, A, [], tp⟩, m)) := by show _ = _; rw [HQ5.out]; unfold Pol.ruleWhen Pol.whenOf; rw [if_neg (by rw [hp5]; simp)]; simp only []; rcases Pol.must (t5 :: l5) [59] with e | ⟨u, m⟩ <;> rfl
    have HP5 := Lib.hid hp5
    clear hp5
    have HNX := Lib.hid (rd_took_no U r g _ _ _ _ 0 1 ⟨#[119, 104, 101, 110]⟩ H.out.rd HP5.out)
    go_wp2_with fail
    refine HNX.out.mono ?_
    rintro e w2 ⟨rfl, rfl⟩
    clear HNX hrW hXW hbb x0 xf
    have HE9 := HE5
    obtain ⟨m9, hm9⟩ : ∃ m9, t5 :: l5 = m9 := ⟨_, rfl⟩
    rw [hm9] at H HQ HE9
    clear hm9 HE5 HP5 HQ5
    obtain ⟨t9, l9, rfl⟩ := HE9.out.cons
    have hrW := row_lt H.out.rd.row
    have hXW := row_lt H.out.ex
    have hbb : b < U.heap.size := row_lt H.out.box
    have xf : ∀ i, U.frozen? ⟨b, i, none⟩ = false := fun i => Lib.frozen_of_heap H.out.box i
    have x0 : U.cell? ⟨b, 0, none⟩ = some (.pointer (some ⟨r, 0, none⟩)) := by rw [Lib.cell_of_heap H.out.box]; rfl
    cases hp9 : Pol.is (t9 :: l9) 4 [59] with
    | false =>
     have HPP : Hid (Q = .error (t9.p, 120)) := by show _ = _; rw [HQ.out]; simp only [must_neg hp9]
     have HP0 := Lib.hid hp9
     clear hp9
     have HNX := Lib.hid (rd_must_no U r g _ _ t9 l9 0 ⟨#[59]⟩ H.out.rd HP0.out)
     go_wp2_with fail
     refine HNX.out.mono ?_
     intro e w1 hs
     obtain ⟨b9, hb9, rfl, hrow9, hf9⟩ := hs.from (bs := [r]) H.out.f (fun y hy => .inl (by simpa using hy))
     show _
     exact ⟨rfl, by rw [HPP.out]; exact RuleDone.stop ⟨b9, hb9, rfl, hrow9, hf9⟩⟩
    | true =>
     have HPP : Hid (Q = .ok (⟨true, A, [], tp⟩, l9)) := by show _ = _; rw [HQ.out]; simp only [must_pos hp9]
     have hl9 : 0 < l9.length := (Pol.is_tail hp9 (by decide) HE9.out : Ends l9).pos
     have HP0 := Lib.hid hp9
     clear hp9
     have HNX := Lib.hid (rd_must_yes U r g _ _ t9 l9 0 ⟨#[59]⟩ H.out.rd hl9 HP0.out)
     go_wp2_with fail
     refine HNX.out.mono ?_
     rintro e W9 ⟨rfl, hf1, hr1⟩
     have H := Lib.hid (H.out.step hf1 hr1)
     clear HNX hf1 hr1 hl9 x0 xf hrW hXW hbb
     have hXW := row_lt H.out.ex
     have ef : ∀ i, W9.frozen? ⟨(b + 1 + 1), i, none⟩ = false := fun i => Lib.frozen_of_heap H.out.ex i
     have e0 : W9.cell? ⟨(b + 1 + 1), 0, none⟩ = some (.bool true) := by rw [Lib.cell_of_heap H.out.ex]; rfl
     have e1 : W9.cell? ⟨(b + 1 + 1), 1, none⟩ = some (.slice qa A.length qc) := by rw [Lib.cell_of_heap H.out.ex]; rfl
     have e2 : W9.cell? ⟨(b + 1 + 1), 2, none⟩ = some (.slice none 0 0) := by rw [Lib.cell_of_heap H.out.ex]; rfl
     have e3 : W9.cell? ⟨(b + 1 + 1), 3, none⟩ = some (.int .i64 tp) := by rw [Lib.cell_of_heap H.out.ex]; rfl
     have zf : ∀ i, W9.frozen? ⟨(b + 1), i, none⟩ = false := fun i => Lib.frozen_of_heap H.out.res i
     have z0 : W9.cell? ⟨(b + 1), 0, none⟩ = some (.bool false) := by rw [Lib.cell_of_heap H.out.res]; rfl
     have z1 : W9.cell? ⟨(b + 1), 1, none⟩ = some (.slice none 0 0) := by rw [Lib.cell_of_heap H.out.res]; rfl
     have z2 : W9.cell? ⟨(b + 1), 2, none⟩ = some (.slice none 0 0) := by rw [Lib.cell_of_heap H.out.res]; rfl
     have z3 : W9.cell? ⟨(b + 1), 3, none⟩ = some (.int .i64 0) := by rw [Lib.cell_of_heap H.out.res]; rfl
     have HG := Lib.hid H.out.give
     have HT := Lib.hid (heap_four H.out.res (.bool true) (.slice qa A.length qc) (.slice none 0 0) (.int .i64 tp))
     go_wp2_with fail
     refine bodyPost_ret (v := .agg #[.bool true, .slice qa A.length qc, .slice none 0 0, .int .i64 tp]) (results_cell_row rfl _ _ (b + 1) _ _ (0, 0) _ rfl HT.out Tryd.underlying78 rfl (by kernel_rfl)) rfl ?_
     rw [HPP.out]
     exact HG.out
   | true =>
    have hE6 : Ends l5 := Pol.is_tail hp5 (by decide) HE5.out
    have hl5 := hE6.pos
    have HQ6 : Hid (Q = match Pol.or_ (f + 1) 0 l5 with | .error e => .error e | .ok (x, m) => (match Pol.must m [59] with | .error e => .error e | .ok (_, m) => .ok (⟨true, A, [x], tp⟩, m))) := by
     show _ = _; rw [HQ5.out]; unfold Pol.ruleWhen Pol.whenOf; rw [if_pos hp5, List.tail_cons]
     rcases Pol.or_ (f + 1) 0 l5 with e | ⟨x, m⟩ <;> rfl
    have HP5 := Lib.hid hp5
    have HE6 := Lib.hid hE6
    clear hp5 hE6
    have HNX := Lib.hid (rd_took_yes U r g _ _ _ _ 0 1 ⟨#[119, 104, 101, 110]⟩ H.out.rd hl5 HP5.out)
    go_wp2_with fail
    refine HNX.out.mono ?_
    rintro e W6 ⟨rfl, hf1, hr1⟩
    have H := Lib.hid (H.out.step hf1 hr1)
    clear HNX hf1 hr1 hl5 x0 xf hrW hXW hbb
    have HOR := Lib.hid (or_reads_all (f + 1) W6 r g _ _ l5 0 H.out.rd HE6.out (by omega) (row_lt H.out.rd.row) (fun p hp => HFD.out p (by rw [HQ6.out, hp])))
    obtain ⟨q, hq⟩ : ∃ q, Pol.or_ (f + 1) 0 l5 = q := ⟨_, rfl⟩
    rw [hq] at HOR HQ6
    have Hq := Lib.hid hq
    clear hq
    have hrW := row_lt H.out.rd.row
    have hXW := row_lt H.out.ex
    have hbb : b < W6.heap.size := row_lt H.out.box
    have xf : ∀ i, W6.frozen? ⟨b, i, none⟩ = false := fun i => Lib.frozen_of_heap H.out.box i
    have x0 : W6.cell? ⟨b, 0, none⟩ = some (.pointer (some ⟨r, 0, none⟩)) := by rw [Lib.cell_of_heap H.out.box]; rfl
    go_wp2_with fail
    refine HOR.out.mono ?_
    intro e W7 hd
    cases q with
    | error pe =>
     obtain ⟨pp, pn⟩ := pe
     have HPP : Hid (Q = .error (pp, pn)) := HQ6.out
     have hs : Stops [r] W6 pp pn e W7 := hd
     obtain ⟨b9, hb9, rfl, hrow9, hf9⟩ := hs.from (bs := [r]) H.out.f (fun y hy => .inl (by simpa using hy))
     show _
     exact ⟨rfl, by rw [HPP.out]; exact RuleDone.stop ⟨b9, hb9, rfl, hrow9, hf9⟩⟩
    | ok xm =>
     obtain ⟨x, m9⟩ := xm
     obtain ⟨cs, rfl, hrep, hf3, o3, c3, hr3⟩ := hd
     obtain ⟨op0, s9, n9, q9, k9, c9, p9, rfl⟩ := hrep.form
     have HQ : Hid (Q = match Pol.must m9 [59] with | .error e => .error e | .ok (_, m) => .ok (⟨true, A, [x], tp⟩, m)) := HQ6.out
     have hE9 : Ends m9 := (Pol.all_keep (f + 1)).2.2.2.2.2.2.2 0 l5 x m9 Hq.out HE6.out
     have HE9 := Lib.hid hE9
     have HX := Lib.hid (H.out.step hf3 hr3 |>.when hrep (Nat.le_trans H.out.f.size hf3.size) (row_lt H.out.ex) (Nat.le_trans H.out.f.size (Nat.le_refl _)))
     have H := Lib.hid (H.out.step hf3 hr3)
     clear hrep hf3 hr3 hE9 HOR HQ6 x0 xf hrW hXW hbb
     have hrW := row_lt H.out.rd.row
     have hXW := row_lt H.out.ex
     have hbb : b < W7.heap.size := row_lt H.out.box
     have xf : ∀ i, W7.frozen? ⟨b, i, none⟩ = false := fun i => Lib.frozen_of_heap H.out.box i
     have x0 : W7.cell? ⟨b, 0, none⟩ = some (.pointer (some ⟨r, 0, none⟩)) := by rw [Lib.cell_of_heap H.out.box]; rfl
     have ef : ∀ i, W7.frozen? ⟨(b + 1 + 1), i, none⟩ = false := fun i => Lib.frozen_of_heap H.out.ex i
     have e0 : W7.cell? ⟨(b + 1 + 1), 0, none⟩ = some (.bool true) := by rw [Lib.cell_of_heap H.out.ex]; rfl
     have e1 : W7.cell? ⟨(b + 1 + 1), 1, none⟩ = some (.slice qa A.length qc) := by rw [Lib.cell_of_heap H.out.ex]; rfl
     have e2 : W7.cell? ⟨(b + 1 + 1), 2, none⟩ = some (.slice none 0 0) := by rw [Lib.cell_of_heap H.out.ex]; rfl
     have e3 : W7.cell? ⟨(b + 1 + 1), 3, none⟩ = some (.int .i64 tp) := by rw [Lib.cell_of_heap H.out.ex]; rfl
     go_upto_region 10 with fail
     refine wp_fresh (fun U => RuSt w r g o3 c3 m9 b true (.slice qa A.length qc) (.slice (some ⟨W7.heap.size, 0, none⟩) 1 1) tp A [x] U) HX.out ?_
     intro U hu
     have H := Lib.hid hu
     clear hu HX e0 e1 e2 e3 ef hrW hXW hbb
     obtain ⟨t9, l9, rfl⟩ := HE9.out.cons
     have hrW := row_lt H.out.rd.row
     have hXW := row_lt H.out.ex
     have hbb : b < U.heap.size := row_lt H.out.box
     have xf : ∀ i, U.frozen? ⟨b, i, none⟩ = false := fun i => Lib.frozen_of_heap H.out.box i
     have x0 : U.cell? ⟨b, 0, none⟩ = some (.pointer (some ⟨r, 0, none⟩)) := by rw [Lib.cell_of_heap H.out.box]; rfl
     cases hp9 : Pol.is (t9 :: l9) 4 [59] with
     | false =>
      have HPP : Hid (Q = .error (t9.p, 120)) := by show _ = _; rw [HQ.out]; simp only [must_neg hp9]
      have HP0 := Lib.hid hp9
      clear hp9
      have HNX := Lib.hid (rd_must_no U r g _ _ t9 l9 0 ⟨#[59]⟩ H.out.rd HP0.out)
      go_wp2_with fail
      refine HNX.out.mono ?_
      intro e w1 hs
      obtain ⟨b9, hb9, rfl, hrow9, hf9⟩ := hs.from (bs := [r]) H.out.f (fun y hy => .inl (by simpa using hy))
      show _
      exact ⟨rfl, by rw [HPP.out]; exact RuleDone.stop ⟨b9, hb9, rfl, hrow9, hf9⟩⟩
     | true =>
      have HPP : Hid (Q = .ok (⟨true, A, [x], tp⟩, l9)) := by show _ = _; rw [HQ.out]; simp only [must_pos hp9]
      have hl9 : 0 < l9.length := (Pol.is_tail hp9 (by decide) HE9.out : Ends l9).pos
      have HP0 := Lib.hid hp9
      clear hp9
      have HNX := Lib.hid (rd_must_yes U r g _ _ t9 l9 0 ⟨#[59]⟩ H.out.rd hl9 HP0.out)
      go_wp2_with fail
      refine HNX.out.mono ?_
      rintro e W9 ⟨rfl, hf1, hr1⟩
      have H := Lib.hid (H.out.step hf1 hr1)
      clear HNX hf1 hr1 hl9 x0 xf hrW hXW hbb
      have hXW := row_lt H.out.ex
      have ef : ∀ i, W9.frozen? ⟨(b + 1 + 1), i, none⟩ = false := fun i => Lib.frozen_of_heap H.out.ex i
      have e0 : W9.cell? ⟨(b + 1 + 1), 0, none⟩ = some (.bool true) := by rw [Lib.cell_of_heap H.out.ex]; rfl
      have e1 : W9.cell? ⟨(b + 1 + 1), 1, none⟩ = some (.slice qa A.length qc) := by rw [Lib.cell_of_heap H.out.ex]; rfl
      have e2 : W9.cell? ⟨(b + 1 + 1), 2, none⟩ = some (.slice (some ⟨W7.heap.size, 0, none⟩) 1 1) := by rw [Lib.cell_of_heap H.out.ex]; rfl
      have e3 : W9.cell? ⟨(b + 1 + 1), 3, none⟩ = some (.int .i64 tp) := by rw [Lib.cell_of_heap H.out.ex]; rfl
      have zf : ∀ i, W9.frozen? ⟨(b + 1), i, none⟩ = false := fun i => Lib.frozen_of_heap H.out.res i
      have z0 : W9.cell? ⟨(b + 1), 0, none⟩ = some (.bool false) := by rw [Lib.cell_of_heap H.out.res]; rfl
      have z1 : W9.cell? ⟨(b + 1), 1, none⟩ = some (.slice none 0 0) := by rw [Lib.cell_of_heap H.out.res]; rfl
      have z2 : W9.cell? ⟨(b + 1), 2, none⟩ = some (.slice none 0 0) := by rw [Lib.cell_of_heap H.out.res]; rfl
      have z3 : W9.cell? ⟨(b + 1), 3, none⟩ = some (.int .i64 0) := by rw [Lib.cell_of_heap H.out.res]; rfl
      have HG := Lib.hid H.out.give
      have HT := Lib.hid (heap_four H.out.res (.bool true) (.slice qa A.length qc) (.slice (some ⟨W7.heap.size, 0, none⟩) 1 1) (.int .i64 tp))
      go_wp2_with fail
      refine bodyPost_ret (v := .agg #[.bool true, .slice qa A.length qc, .slice (some ⟨W7.heap.size, 0, none⟩) 1 1, .int .i64 tp]) (results_cell_row rfl _ _ (b + 1) _ _ (0, 0) _ rfl HT.out Tryd.underlying78 rfl (by kernel_rfl)) rfl ?_
      rw [HPP.out]
      exact HG.out
end Go.Proofs.YtgklmpooonnmiaaDoor
