/-
  Lemmas and contracts that the proofs over this seat use (PolPrintP, PolPrintL); no statement of the seat is claimed in this text, and nothing is assumed in it.
-/
import Derived.Test.YtgklmpooonnmiaaDoorJ44
import Derived.Test.YtgklmpooonnmiaaDoorJ45
import Derived.Test.YtgklmpooonnmiaaDoorJ7
set_option linter.unusedVariables false
set_option linter.unusedSimpArgs false
namespace Go.Proofs.YtgklmpooonnmiaaDoor
open Go.RowKit
theorem grows_le {α : Type} (F : List α → List Nat) (hF : ∀ l x, ∃ X, F (l ++ [x]) = F l ++ X) (b : List α) : ∀ a, (F a).length ≤ (F (a ++ b)).length := by
 induction b with
 | nil => intro a; rw [List.append_nil]; exact Nat.le_refl _
 | cons x b ih =>
  intro a
  have h1 := ih (a ++ [x])
  obtain ⟨X, hX⟩ := hF a x
  rw [hX, List.length_append, List.append_assoc] at h1
  have : a ++ ([x] ++ b) = a ++ x :: b := rfl
  rw [this] at h1
  omega
theorem grows_take {α : Type} (F : List α → List Nat) (hF : ∀ l x, ∃ X, F (l ++ [x]) = F l ++ X) (l : List α) (k : Nat) : (F (l.take k)).length ≤ (F l).length := by
 have := grows_le F hF (l.drop k) (l.take k)
 rwa [List.take_append_drop] at this
def Ru.hd (u : Ru) : ByteArray := if u.deny = true then ⟨#[100, 101, 110, 121]⟩ else ⟨#[112, 101, 114, 109, 105, 116]⟩
def scSign (j : Nat) : ByteArray := if j = 0 then ⟨#[32, 115, 99, 111, 112, 101, 32]⟩ else ⟨#[44, 32]⟩
theorem scSign_size (j : Nat) : (scSign j).size ≤ 7 := by unfold scSign; split <;> decide
def Ru.scsMore : List ByteArray → List Nat
 | [] => []
 | s :: r => nats (⟨#[44, 32]⟩ ++ qt s) ++ Ru.scsMore r
def Ru.scs : List ByteArray → List Nat
 | [] => []
 | s :: r => nats (⟨#[32, 115, 99, 111, 112, 101, 32]⟩ ++ qt s) ++ Ru.scsMore r
theorem Ru.scsMore_snoc : ∀ (r : List ByteArray) (s : ByteArray), Ru.scsMore (r ++ [s]) = Ru.scsMore r ++ nats (⟨#[44, 32]⟩ ++ qt s)
 | [], s => by simp [Ru.scsMore]
 | y :: r, s => by rw [List.cons_append, Ru.scsMore, Ru.scsMore, Ru.scsMore_snoc r s, List.append_assoc]
theorem Ru.scs_snoc (r : List ByteArray) (s : ByteArray) : Ru.scs (r ++ [s]) = Ru.scs r ++ nats (scSign r.length ++ qt s) := by
 cases r with
 | nil => simp [Ru.scs, Ru.scsMore, scSign]
 | cons y r => rw [List.cons_append, Ru.scs, Ru.scs, Ru.scsMore_snoc, List.append_assoc]; rfl
theorem Ru.scs_take {A : List ByteArray} {k : Nat} {s : ByteArray} (h : A[k]? = some s) : Ru.scs (A.take (k + 1)) = Ru.scs (A.take k) ++ nats (scSign k ++ qt s) := by
 obtain ⟨h1, rfl⟩ := List.getElem?_eq_some_iff.1 h
 rw [List.take_succ_eq_append_getElem h1, Ru.scs_snoc, List.length_take, Nat.min_eq_left (by omega)]
def Ru.whs : List Ex → List Nat
 | [] => []
 | x :: r => nats ⟨#[32, 119, 104, 101, 110, 32]⟩ ++ (x.text 1 ++ Ru.whs r)
theorem Ru.whs_snoc : ∀ (r : List Ex) (x : Ex), Ru.whs (r ++ [x]) = Ru.whs r ++ (nats ⟨#[32, 119, 104, 101, 110, 32]⟩ ++ x.text 1)
 | [], x => by simp [Ru.whs]
 | y :: r, x => by rw [List.cons_append, Ru.whs, Ru.whs, Ru.whs_snoc r x]; simp only [List.append_assoc]
theorem Ru.whs_take {L : List Ex} {k : Nat} {x : Ex} (h : L[k]? = some x) : Ru.whs (L.take (k + 1)) = Ru.whs (L.take k) ++ (nats ⟨#[32, 119, 104, 101, 110, 32]⟩ ++ x.text 1) := by
 obtain ⟨h1, rfl⟩ := List.getElem?_eq_some_iff.1 h
 rw [List.take_succ_eq_append_getElem h1, Ru.whs_snoc]
def Ru.text (u : Ru) : List Nat := nats u.hd ++ (Ru.scs u.scopes ++ (Ru.whs u.when_ ++ [59]))
def Pol.textMore : List Ru → List Nat
 | [] => []
 | u :: r => 10 :: (u.text ++ Pol.textMore r)
def Pol.text : List Ru → List Nat
 | [] => []
 | u :: r => u.text ++ Pol.textMore r
def lfOf (k : Nat) : List Nat := if k = 0 then [] else [10]
theorem Pol.textMore_snoc : ∀ (r : List Ru) (u : Ru), Pol.textMore (r ++ [u]) = Pol.textMore r ++ (10 :: u.text)
 | [], u => by simp [Pol.textMore]
 | y :: r, u => by rw [List.cons_append, Pol.textMore, Pol.textMore, Pol.textMore_snoc r u]; simp
theorem Pol.text_snoc (r : List Ru) (u : Ru) : Pol.text (r ++ [u]) = Pol.text r ++ (lfOf r.length ++ u.text) := by
 cases r with
 | nil => simp [Pol.text, Pol.textMore, lfOf]
 | cons y r => rw [List.cons_append, Pol.text, Pol.text, Pol.textMore_snoc, List.append_assoc]; rfl
theorem Pol.text_take {L : List Ru} {k : Nat} {u : Ru} (h : L[k]? = some u) : Pol.text (L.take (k + 1)) = Pol.text (L.take k) ++ (lfOf k ++ u.text) := by
 obtain ⟨h1, rfl⟩ := List.getElem?_eq_some_iff.1 h
 rw [List.take_succ_eq_append_getElem h1, Pol.text_snoc, List.length_take, Nat.min_eq_left (by omega)]
mutual
theorem Ex.text_lt : ∀ (x : Ex) (a : Int), ∀ y ∈ Ex.text x a, y < 256
 | .mk op s n L p, a, y, hy => by
  rw [Ex.text] at hy
  split at hy
  ·simp only [List.mem_cons, List.mem_append, List.not_mem_nil, or_false] at hy
   rcases hy with rfl | hy | rfl
   ·omega
   ·exact Ex.body_lt op s n L y hy
   ·omega
  ·exact Ex.body_lt op s n L y hy
theorem Ex.body_lt (op : Int) (s : ByteArray) (n : Int) : ∀ (L : List Ex), ∀ y ∈ Ex.body op s n L, y < 256
 | [], y, hy => by rw [Ex.body] at hy; exact nats_lt _ y hy
 | x :: l, y, hy => by
  rw [Ex.body] at hy
  refine Ex.rest_lt op _ ?_ l y hy
  intro z hz
  split at hz
  ·simp only [List.mem_append, List.mem_cons, List.not_mem_nil, or_false] at hz
   rcases hz with hz | hz
   ·omega
   ·exact Ex.text_lt x 3 z hz
  ·split at hz
   ·exact Ex.text_lt x 5 z hz
   ·exact Ex.text_lt x _ z hz
theorem Ex.rest_lt (op : Int) (A : List Nat) (hA : ∀ y ∈ A, y < 256) : ∀ (L : List Ex), ∀ y ∈ Ex.rest op A L, y < 256
 | [], y, hy => by rw [Ex.rest] at hy; exact hA y hy
 | x :: r, y, hy => by
  rw [Ex.rest] at hy
  split at hy
  ·simp only [List.mem_append, List.mem_cons, List.not_mem_nil, or_false] at hy
   rcases hy with hy | hy | hy | hy | hy
   ·exact hA y hy
   ·omega
   ·exact Ex.text_lt x 5 y hy
   ·exact Ex.more_lt r y hy
   ·omega
  ·simp only [List.mem_append] at hy
   rcases hy with hy | hy | hy
   ·exact hA y hy
   ·exact nats_lt _ y hy
   ·exact Ex.text_lt x _ y hy
theorem Ex.more_lt : ∀ (L : List Ex), ∀ y ∈ Ex.more L, y < 256
 | [], y, hy => by rw [Ex.more] at hy; simp at hy
 | x :: r, y, hy => by
  rw [Ex.more] at hy
  simp only [List.mem_append, List.mem_cons, List.not_mem_nil, or_false] at hy
  rcases hy with hy | hy | hy
  ·omega
  ·exact Ex.text_lt x 5 y hy
  ·exact Ex.more_lt r y hy
end
theorem Ru.scs_lt : ∀ (A : List ByteArray), ∀ y ∈ Ru.scs A, y < 256 := by
 have more : ∀ (A : List ByteArray), ∀ y ∈ Ru.scsMore A, y < 256 := by
  intro A
  induction A with
  | nil => intro y hy; rw [Ru.scsMore] at hy; simp at hy
  | cons s r ih =>
   intro y hy
   rw [Ru.scsMore, List.mem_append] at hy
   exact hy.elim (nats_lt _ y) (ih y)
 intro A
 cases A with
 | nil => intro y hy; rw [Ru.scs] at hy; simp at hy
 | cons s r =>
  intro y hy
  rw [Ru.scs, List.mem_append] at hy
  exact hy.elim (nats_lt _ y) (more r y)
theorem Ru.whs_lt : ∀ (A : List Ex), ∀ y ∈ Ru.whs A, y < 256 := by
 intro A
 induction A with
 | nil => intro y hy; rw [Ru.whs] at hy; simp at hy
 | cons x r ih =>
  intro y hy
  rw [Ru.whs, List.mem_append, List.mem_append] at hy
  rcases hy with hy | hy | hy
  ·exact nats_lt _ y hy
  ·exact Ex.text_lt x 1 y hy
  ·exact ih y hy
theorem Ru.text_lt (u : Ru) : ∀ y ∈ u.text, y < 256 := by
 intro y hy
 unfold Ru.text at hy
 rw [List.mem_append, List.mem_append, List.mem_append] at hy
 rcases hy with hy | hy | hy | hy
 ·exact nats_lt _ y hy
 ·exact Ru.scs_lt _ y hy
 ·exact Ru.whs_lt _ y hy
 ·simp only [List.mem_cons, List.not_mem_nil, or_false] at hy; omega
theorem Pol.text_lt (L : List Ru) : ∀ y ∈ Pol.text L, y < 256 := by
 have more : ∀ (A : List Ru), ∀ y ∈ Pol.textMore A, y < 256 := by
  intro A
  induction A with
  | nil => intro y hy; rw [Pol.textMore] at hy; simp at hy
  | cons u r ih =>
   intro y hy
   rw [Pol.textMore, List.mem_cons, List.mem_append] at hy
   rcases hy with hy | hy | hy
   ·omega
   ·exact Ru.text_lt u y hy
   ·exact ih y hy
 cases L with
 | nil => intro y hy; rw [Pol.text] at hy; simp at hy
 | cons u r =>
  intro y hy
  rw [Pol.text, List.mem_append] at hy
  exact hy.elim (Ru.text_lt u y) (more r y)
end Go.Proofs.YtgklmpooonnmiaaDoor

namespace Go.Proofs.YtgklmpooonnmiaaDoor
open Go.RowKit
structure PrS (w1 : World) (D : List Nat) (bx : Nat) (cs : Array Value) (V : World) : Prop where
 nb : bx ≠ w1.heap.size
 bl : Bld w1.heap.size w1.heap.size D V
 bw : Below w1.heap.size w1 V
 bx : V.heap[bx]? = some (.cells cs 78 (0, 0))
theorem PrS.step {w1 : World} {D D' : List Nat} {bx : Nat} {cs : Array Value} {V V' : World} (h : PrS w1 D bx cs V) (hb : Bld w1.heap.size w1.heap.size D' V') (hw : Below w1.heap.size V V') (hf : BFr w1.heap.size V V') : PrS w1 D' bx cs V' :=
 ⟨h.nb, hb, h.bw.trans hw, hf.row h.bx h.nb (by decide)⟩
theorem PrS.fr {w1 : World} {D : List Nat} {bx : Nat} {cs : Array Value} {V V' : World} (h : PrS w1 D bx cs V) (hF : Fr [] V V') : PrS w1 D bx cs V' :=
 h.step (h.bl.fr hF) (hF.below.mono h.bw.size) (BFr.of_fr hF)
theorem bld_at {B b : Nat} {D : List Nat} {w : World} (h : Bld B b D w) : b < w.heap.size := by
 rcases h with ⟨_, v, h, _⟩ | ⟨_, v, h, _⟩
 ·exact row_lt h
 ·exact row_lt h
theorem PrS.start {w1 : World} {D : List Nat} {cs : Array Value} {V : World} (hb : Bld w1.heap.size w1.heap.size D V) (hw : Below w1.heap.size w1 V) : PrS w1 D V.heap.size cs (V.alloc (.cells cs 78)) := by
 have hF : Fr [] V (V.alloc (.cells cs 78)) := (Fr.refl _ _).alloc _
 have := bld_at hb
 exact ⟨by omega, hb.fr hF, hw.trans (hF.below.mono hw.size), heap_alloc_last _ _⟩
theorem lex_quote2 (w : World) (s : ByteArray) (hs : s.size ≤ 100000000) (hL : Least w) :
  Calls Tryd.prog 12 #[.string s] w fun e w' => e = .returned (.tuple #[.string (qt s), .bool (Lex.quote s).isSome]) ∧ Fr [] w w' := lex_quote w s hs hL
set_option maxHeartbeats 8000000 in
set_option maxRecDepth 100000 in
theorem pol_Print_yes (w : World) (q : Option Addr) (c : Nat) (f : Nat → List Value) (L : List Ru) (h : RsA w q c f L) (hn : ∀ u ∈ L, u.short) (hLe : Least w) (hr : Ru.rights L = true) (hlen : (Pol.text L).length < 1000000000) :
  Calls Tryd.prog 43 #[.slice q L.length c] w fun e w' => e = .returned (.tuple #[.string (ba (Pol.text L)), .nilIface]) ∧ Fr [] w w' := by
 have HC := Lib.hid (pol_Right w q c f L h hn hLe)
 rw [hr] at HC
 have hra : ∀ u ∈ L, Ru.right u = true := by
  unfold Ru.rights at hr
  rw [Bool.and_eq_true] at hr
  exact List.all_eq_true.1 hr.2
 have HRT := Lib.hid hra
 have HN := Lib.hid hn
 have HL0 := Lib.hid h
 have HLE0 := Lib.hid hLe
 have HLEN := Lib.hid hlen
 have hb : L.length ≤ 9223372036854775807 := by have h1 := h.hc; have h2 := h.hm; unfold maxLen at h2; omega
 clear h hn hLe hr hra hlen
 go_enter Tryd.func43, Tryd.ntmps43
 go_wp2_with fail
 refine HC.out.mono ?_
 rintro e w1 ⟨rfl, hF⟩
 have HL := Lib.hid (HL0.out.fr hF)
 have HLE := Lib.hid (HLE0.out.fr hF (by simp))
 have HF0 := Lib.hid hF
 clear HL0 HLE0 hF HC
 go_wp2_with fail
 go_loopg [19] L.length (fun m s19 W => ∃ (k : Nat), k ≤ L.length ∧ m = L.length - k ∧ s19 = .int .i64 k ∧ Hid (Below w1.heap.size w1 W) ∧ Hid (Bld w1.heap.size w1.heap.size (Pol.text (L.take k)) W))
 case atStart => exact ⟨0, by omega, by omega, rfl, (Below.refl _ _).alloc (Nat.le_refl _) _, fresh_bld w1⟩
 case round =>
  obtain ⟨k, hk, hm, rfl, HW, HB⟩ := hrel
  have HM := Lib.hid hm
  clear hm
  by_cases hlt : k < L.length
  ·have hlt' : (k : Int) < (L.length : Int) := by omega
   have hk0 : (0 : Int) ≤ (k : Int) := by omega
   have HTL := Lib.hid (grows_take Pol.text (fun l x => ⟨_, Pol.text_snoc l x⟩) L (k + 1))
   obtain ⟨u, hx⟩ : ∃ x, L[k]? = some x := ⟨_, List.getElem?_eq_getElem hlt⟩
   obtain ⟨wo, rfl⟩ : ∃ wo : World, wo = wr := ⟨_, rfl⟩
   obtain ⟨ad, rfl, h5⟩ := (HL.out.fr (Fr.of_below HW.out)).hr k u hx
   obtain ⟨q1, c1, q2, c2, g, hA⟩ := HL.out.hx k u hx
   obtain ⟨v0, v1, v2, v3, hf0, a0, a1, a2, a3⟩ := h5
   have hf2 := hA.e
   rw [hf0] at hf2
   simp only [List.cons.injEq, and_true] at hf2
   obtain ⟨rfl, rfl, rfl, rfl⟩ := hf2
   have HS := Lib.hid hA.s
   have HX := Lib.hid hA.l
   have HSH := Lib.hid (HN.out u (List.mem_of_getElem? hx))
   have HRI := Lib.hid (HRT.out u (List.mem_of_getElem? hx))
   have HD := Lib.hid (Pol.text_take hx)
   obtain ⟨ud, us, uw, up⟩ := u
   have hs1 : us.length ≤ 9223372036854775807 := by have h1 := HS.out.hc; have h2 := HS.out.hm; unfold maxLen at h2; simp only [] at h1; omega
   have hs2 : uw.length ≤ 9223372036854775807 := by have h1 := HX.out.hc; have h2 := HX.out.hm; unfold maxLen at h2; simp only [] at h1; omega
   have hbl := World.block_lt_of_cell? wo _ a0
   clear hf0 hx hA
   dsimp only at a0 a1 a2 a3 HS HX HD HSH HRI
   have HTOT : Hid ((Pol.text (L.take k)).length + (lfOf k).length + (Ru.hd ⟨ud, us, uw, up⟩).size + (Ru.scs us).length + (Ru.whs uw).length + 1 < 1000000000) := by
    have h1 := HTL.out
    have h2 := HLEN.out
    rw [HD.out] at h1
    unfold Ru.text at h1
    simp only [List.length_append, List.length_cons, List.length_nil, nats_length] at h1
    show _ < _
    omega
   have HD2 : Hid (Pol.text (L.take (k + 1)) = Pol.text (L.take k) ++ (lfOf k ++ (nats (Ru.hd ⟨ud, us, uw, up⟩) ++ (Ru.scs us ++ (Ru.whs uw ++ [59]))))) := HD.out
   obtain ⟨hdv, hhd⟩ : ∃ X, Hid (Ru.hd ⟨ud, us, uw, up⟩ = X) := ⟨_, rfl⟩
   rw [hhd.out] at HTOT HD2
   clear HD HTL
   go_upto_region 7 with fail
   refine wp_fresh (fun V => PrS w1 (Pol.text (L.take k)) wo.heap.size #[.bool ud, .slice q1 us.length c1, .slice q2 uw.length c2, .int .i64 up] V) (PrS.start HB.out HW.out) ?_
   rintro V hV
   have H := Lib.hid hV
   clear hV a0 a1 a2 a3 hbl
   have hbx := H.out.bx
   have zf : ∀ i, V.frozen? ⟨(wo.heap.size), i, none⟩ = false := fun i => Lib.frozen_of_heap hbx i
   have z0 : V.cell? ⟨(wo.heap.size), 0, none⟩ = some (.bool ud) := by rw [Lib.cell_of_heap hbx]; rfl
   have z1 : V.cell? ⟨(wo.heap.size), 1, none⟩ = some (.slice q1 us.length c1) := by rw [Lib.cell_of_heap hbx]; rfl
   have z2 : V.cell? ⟨(wo.heap.size), 2, none⟩ = some (.slice q2 uw.length c2) := by rw [Lib.cell_of_heap hbx]; rfl
   have z3 : V.cell? ⟨(wo.heap.size), 3, none⟩ = some (.int .i64 up) := by rw [Lib.cell_of_heap hbx]; rfl
   clear hbx
   refine (Classical.em (k = 0)).elim (fun hk9 => ?k0) (fun hk9 => ?k1)
   case k0 =>
    have hk8 : ¬ (k : Int) > 0 := by omega
    have HLF : Hid (lfOf k = []) := by show _ = _; rw [lfOf, if_pos hk9]
    have HDD : Hid (Pol.text (L.take k) = Pol.text (L.take k) ++ lfOf k) := by show _ = _; rw [HLF.out, List.append_nil]
    clear hk9
    cases ud with
    | true =>
     have hh9 : (⟨#[100, 101, 110, 121]⟩ : ByteArray) = hdv := hhd.out
     subst hh9
     go_wp2_with fail
     have HSZ := Lib.hid H.out.bw.size
     obtain ⟨D0, hD0⟩ : ∃ D0, D0 = Pol.text (L.take k) ++ lfOf k := ⟨_, rfl⟩
     have HX0 := H.out
     rw [HDD.out, ← hD0] at HX0
     have H := Lib.hid HX0
     have HDL : Hid (D0.length = (Pol.text (L.take k)).length + (lfOf k).length) := by show _ = _; rw [hD0, List.length_append]
     have HD3 : Hid (Pol.text (L.take (k + 1)) = D0 ++ (nats ⟨#[100, 101, 110, 121]⟩ ++ (Ru.scs us ++ (Ru.whs uw ++ [59])))) := by show _ = _; rw [HD2.out, hD0, List.append_assoc]
     have h1 : D0.length + (⟨#[100, 101, 110, 121]⟩ : ByteArray).size < 1000000000 := by have := HTOT.out; have := HDL.out; omega
     clear HX0 hD0 HDD HD2
     have HC := bld_strF w1.heap.size w1.heap.size D0 ⟨#[100, 101, 110, 121]⟩ _ H.out.bl h1 HSZ.out
     clear h1
     refine HC.mono ?_
     rintro e V2 ⟨rfl, hbl, hbw, hbf⟩
     have H := Lib.hid (H.out.step hbl hbw hbf)
     clear HC hbl hbw hbf z0 z1 z2 z3 zf
     obtain ⟨D1, hD1⟩ : ∃ D1, D0 ++ nats ⟨#[100, 101, 110, 121]⟩ = D1 := ⟨_, rfl⟩
     have HX0 := H.out
     rw [hD1] at HX0
     have H := Lib.hid HX0
     have HDL1 : Hid (D1.length + (Ru.scs us).length + (Ru.whs uw).length + 1 < 1000000000) := by have := HTOT.out; have := HDL.out; show _ < _; rw [← hD1, List.length_append, nats_length]; omega
     have HD4 : Hid (Pol.text (L.take (k + 1)) = D1 ++ (Ru.scs us ++ (Ru.whs uw ++ [59]))) := by show _ = _; rw [HD3.out, ← hD1, List.append_assoc]
     clear HX0 hD1 HD3 HDL HTOT
     have hbx := H.out.bx
     have zf : ∀ i, V2.frozen? ⟨(wo.heap.size), i, none⟩ = false := fun i => Lib.frozen_of_heap hbx i
     have z1 : V2.cell? ⟨(wo.heap.size), 1, none⟩ = some (.slice q1 us.length c1) := by rw [Lib.cell_of_heap hbx]; rfl
     clear hbx
     go_wp2_with fail
     go_loopg [7, 34] us.length (fun m s7 s34 W => ∃ (j : Nat) (S : ByteArray), j ≤ us.length ∧ m = us.length - j ∧ s34 = .int .i64 j ∧ s7 = .string S ∧ Hid (S = scSign j) ∧ Hid (PrS w1 (D1 ++ Ru.scs (us.take j)) wo.heap.size #[.bool true, .slice q1 us.length c1, .slice q2 uw.length c2, .int .i64 up] W))
     case atStart => exact ⟨0, scSign 0, by omega, by omega, rfl, rfl, rfl, by
      show PrS _ _ _ _ _
      rw [List.take_zero, Ru.scs, List.append_nil]
      exact H.out⟩
     case round =>
      clear H z1 zf
      obtain ⟨j, S, hj, hm, rfl, rfl, HSG, H⟩ := hrel
      have HMJ := Lib.hid hm
      clear hm
      by_cases hjl : j < us.length
      ·have hjl' : (j : Int) < (us.length : Int) := by omega
       have hj0 : (0 : Int) ≤ (j : Int) := by omega
       obtain ⟨s, hs⟩ : ∃ s, us[j]? = some s := ⟨_, List.getElem?_eq_getElem hjl⟩
       obtain ⟨sb, so, rfl, sc⟩ := (HS.out.fr (Fr.of_below H.out.bw)).hr j s hs
       have HT := Lib.hid (Ru.scs_take hs)
       have HTL := Lib.hid (grows_take Ru.scs (fun l x => ⟨_, Ru.scs_snoc l x⟩) us (j + 1))
       have HQ := Lib.hid (lex_quote2 wr s (HSH.out.1 s (List.mem_of_getElem? hs)) (HLE.out.fr (Fr.of_below H.out.bw) (by simp)))
       have hS7 : S.size ≤ 7 := by rw [HSG.out]; exact scSign_size j
       have hNL : D1.length + (Ru.scs (us.take j)).length + (S.size + (qt s).size) < 1000000000 := by
        have h1 := HTL.out
        have h2 := HDL1.out
        rw [HT.out, List.length_append, nats_length, ByteArray.size_append, ← HSG.out] at h1
        omega
       have hq9 : (qt s).size ≤ 1000000000 := by omega
       have HNL := Lib.hid hNL
       clear hs hNL
       go_wp2_with fail
       refine HQ.out.mono ?_
       rintro e V3 ⟨rfl, hF⟩
       have H := Lib.hid (H.out.fr hF)
       clear hF HQ sc
       go_wp2_with fail
       have HSZ := Lib.hid H.out.bw.size
       have h1 : (D1 ++ Ru.scs (us.take j)).length + (S ++ qt s).size < 1000000000 := by rw [List.length_append, ByteArray.size_append]; have := HNL.out; omega
       have HC := bld_strF w1.heap.size w1.heap.size _ (S ++ qt s) _ H.out.bl h1 HSZ.out
       clear h1
       refine HC.mono ?_
       rintro e V4 ⟨rfl, hbl, hbw, hbf⟩
       have H := Lib.hid (H.out.step hbl hbw hbf)
       clear HC hbl hbw hbf
       go_wp2_with fail
       go_roundg (us.length - (j + 1))
       case measure => have := HMJ.out; omega
       case rel => exact ⟨j + 1, ⟨#[44, 32]⟩, by omega, rfl, by go_num, rfl, by show _ = scSign (j + 1); rw [scSign, if_neg (by omega)], by
        have h := H.out
        show PrS _ _ _ _ _
        rw [HT.out, ← HSG.out]
        simp only [List.append_assoc] at h ⊢
        exact h⟩
      ·have hjl' : ¬ (j : Int) < (us.length : Int) := by omega
       have hje : j = us.length := by omega
       have HX0 := H.out
       rw [hje, List.take_length] at HX0
       have H := Lib.hid HX0
       have hbx := H.out.bx
       have zf : ∀ i, wr.frozen? ⟨(wo.heap.size), i, none⟩ = false := fun i => Lib.frozen_of_heap hbx i
       have z2 : wr.cell? ⟨(wo.heap.size), 2, none⟩ = some (.slice q2 uw.length c2) := by rw [Lib.cell_of_heap hbx]; rfl
       obtain ⟨D2, hD2⟩ : ∃ D2, D1 ++ Ru.scs us = D2 := ⟨_, rfl⟩
       rw [hD2] at HX0
       have H := Lib.hid HX0
       have HDL2 : Hid (D2.length + (Ru.whs uw).length + 1 < 1000000000) := by have := HDL1.out; show _ < _; rw [← hD2, List.length_append]; omega
       have HD5 : Hid (Pol.text (L.take (k + 1)) = D2 ++ (Ru.whs uw ++ [59])) := by show _ = _; rw [HD4.out, ← hD2, List.append_assoc]
       clear hbx HX0 hje hD2 HD4 HDL1
       obtain ⟨wp, rfl⟩ : ∃ wp : World, wp = wr := ⟨_, rfl⟩
       go_wp2_with fail
       go_loopg [51] uw.length (fun m s51 W => ∃ (i : Nat), i ≤ uw.length ∧ m = uw.length - i ∧ s51 = .int .i64 i ∧ Hid (PrS w1 (D2 ++ Ru.whs (uw.take i)) wo.heap.size #[.bool true, .slice q1 us.length c1, .slice q2 uw.length c2, .int .i64 up] W))
       case atStart => exact ⟨0, by omega, by omega, rfl, by
        show PrS _ _ _ _ _
        rw [List.take_zero, Ru.whs, List.append_nil]
        exact H.out⟩
       case round =>
        clear H z2 zf
        obtain ⟨i, hi, hm, rfl, H⟩ := hrel
        have HMI := Lib.hid hm
        clear hm
        by_cases hil : i < uw.length
        ·have hil' : (i : Int) < (uw.length : Int) := by omega
         have hi0 : (0 : Int) ≤ (i : Int) := by omega
         obtain ⟨x, hx⟩ : ∃ s, uw[i]? = some s := ⟨_, List.getElem?_eq_getElem hil⟩
         obtain ⟨ae, rfl, h5⟩ := HX.out.hr i x hx
         have HT := Lib.hid (Ru.whs_take hx)
         have HTL := Lib.hid (grows_take Ru.whs (fun l x => ⟨_, Ru.whs_snoc l x⟩) uw (i + 1))
         have hri : Ex.right x 1 = true := by
          have h1 := HRI.out
          unfold Ru.right at h1
          rw [Bool.and_eq_true] at h1
          exact Ex.rights_at h1.2 hx
         have HPW := Lib.hid (pol_write (HX.out.hx i x hx) 1 w1.heap.size (ae.add (i * 5)) hri (Ex.shorts_at HSH.out.2 hx) h5 HLE.out)
         have hNL : D2.length + (Ru.whs (uw.take i)).length + (6 + (x.text 1).length) < 1000000000 := by
          have h1 := HTL.out
          have h2 := HDL2.out
          rw [HT.out, List.length_append, List.length_append, nats_length] at h1
          have h3 : (⟨#[32, 119, 104, 101, 110, 32]⟩ : ByteArray).size = 6 := rfl
          omega
         have HNL := Lib.hid hNL
         clear hx hNL hri h5
         go_wp2_with fail
         have HSZ := Lib.hid H.out.bw.size
         have h1 : (D2 ++ Ru.whs (uw.take i)).length + (⟨#[32, 119, 104, 101, 110, 32]⟩ : ByteArray).size < 1000000000 := by rw [List.length_append]; show _ + 6 < _; have := HNL.out; omega
         have HC := bld_strF w1.heap.size w1.heap.size _ ⟨#[32, 119, 104, 101, 110, 32]⟩ _ H.out.bl h1 HSZ.out
         clear h1
         refine HC.mono ?_
         rintro e V3 ⟨rfl, hbl, hbw, hbf⟩
         have H := Lib.hid (H.out.step hbl hbw hbf)
         clear HC hbl hbw hbf
         have hbx := H.out.bx
         have zf : ∀ i, V3.frozen? ⟨(wo.heap.size), i, none⟩ = false := fun i => Lib.frozen_of_heap hbx i
         have z2 : V3.cell? ⟨(wo.heap.size), 2, none⟩ = some (.slice (some ae) uw.length c2) := by rw [Lib.cell_of_heap hbx]; rfl
         clear hbx
         go_wp2_with fail
         have h1 : (D2 ++ Ru.whs (uw.take i) ++ nats ⟨#[32, 119, 104, 101, 110, 32]⟩).length + (x.text 1).length < 1000000000 := by rw [List.length_append, List.length_append, nats_length]; show _ + 6 + _ < _; have := HNL.out; omega
         have HC := HPW.out _ _ 1 H.out.bw H.out.bl h1
         clear h1
         refine HC.mono ?_
         rintro e V4 ⟨rfl, hbl, hbw, hbf⟩
         have H := Lib.hid (H.out.step hbl hbw hbf)
         clear HC hbl hbw hbf z2 zf
         go_wp2_with fail
         go_roundg (uw.length - (i + 1))
         case measure => have := HMI.out; omega
         case rel => exact ⟨i + 1, by omega, rfl, by go_num, by
          have h := H.out
          show PrS _ _ _ _ _
          rw [HT.out]
          simp only [List.append_assoc] at h ⊢
          exact h⟩
        ·have hil' : ¬ (i : Int) < (uw.length : Int) := by omega
         have hie : i = uw.length := by omega
         have HX0 := H.out
         rw [hie, List.take_length] at HX0
         have H := Lib.hid HX0
         clear HX0 hie
         go_wp2_with fail
         have HSZ := Lib.hid H.out.bw.size
         have h1 : (D2 ++ Ru.whs uw).length < 1000000000 := by rw [List.length_append]; have := HDL2.out; omega
         have HC := bld_byteF w1.heap.size w1.heap.size _ 59 _ H.out.bl h1 HSZ.out
         clear h1
         refine HC.mono ?_
         rintro e V3 ⟨rfl, hbl, hbw, hbf⟩
         have H := Lib.hid (H.out.step hbl hbw hbf)
         clear HC hbl hbw hbf
         go_wp2_with fail
         go_roundg (L.length - (k + 1))
         case measure => have := HM.out; omega
         case rel => exact ⟨k + 1, by omega, rfl, by go_num, H.out.bw, by
          have h := H.out.bl
          show Bld _ _ _ _
          rw [HD5.out]
          simp only [List.append_assoc] at h ⊢
          exact h⟩
    | false =>
     have hh9 : (⟨#[112, 101, 114, 109, 105, 116]⟩ : ByteArray) = hdv := hhd.out
     subst hh9
     go_wp2_with fail
     have HSZ := Lib.hid H.out.bw.size
     obtain ⟨D0, hD0⟩ : ∃ D0, D0 = Pol.text (L.take k) ++ lfOf k := ⟨_, rfl⟩
     have HX0 := H.out
     rw [HDD.out, ← hD0] at HX0
     have H := Lib.hid HX0
     have HDL : Hid (D0.length = (Pol.text (L.take k)).length + (lfOf k).length) := by show _ = _; rw [hD0, List.length_append]
     have HD3 : Hid (Pol.text (L.take (k + 1)) = D0 ++ (nats ⟨#[112, 101, 114, 109, 105, 116]⟩ ++ (Ru.scs us ++ (Ru.whs uw ++ [59])))) := by show _ = _; rw [HD2.out, hD0, List.append_assoc]
     have h1 : D0.length + (⟨#[112, 101, 114, 109, 105, 116]⟩ : ByteArray).size < 1000000000 := by have := HTOT.out; have := HDL.out; omega
     clear HX0 hD0 HDD HD2
     have HC := bld_strF w1.heap.size w1.heap.size D0 ⟨#[112, 101, 114, 109, 105, 116]⟩ _ H.out.bl h1 HSZ.out
     clear h1
     refine HC.mono ?_
     rintro e V2 ⟨rfl, hbl, hbw, hbf⟩
     have H := Lib.hid (H.out.step hbl hbw hbf)
     clear HC hbl hbw hbf z0 z1 z2 z3 zf
     obtain ⟨D1, hD1⟩ : ∃ D1, D0 ++ nats ⟨#[112, 101, 114, 109, 105, 116]⟩ = D1 := ⟨_, rfl⟩
     have HX0 := H.out
     rw [hD1] at HX0
     have H := Lib.hid HX0
     have HDL1 : Hid (D1.length + (Ru.scs us).length + (Ru.whs uw).length + 1 < 1000000000) := by have := HTOT.out; have := HDL.out; show _ < _; rw [← hD1, List.length_append, nats_length]; omega
     have HD4 : Hid (Pol.text (L.take (k + 1)) = D1 ++ (Ru.scs us ++ (Ru.whs uw ++ [59]))) := by show _ = _; rw [HD3.out, ← hD1, List.append_assoc]
     clear HX0 hD1 HD3 HDL HTOT
     have hbx := H.out.bx
     have zf : ∀ i, V2.frozen? ⟨(wo.heap.size), i, none⟩ = false := fun i => Lib.frozen_of_heap hbx i
     have z1 : V2.cell? ⟨(wo.heap.size), 1, none⟩ = some (.slice q1 us.length c1) := by rw [Lib.cell_of_heap hbx]; rfl
     clear hbx
     go_wp2_with fail
     go_loopg [7, 34] us.length (fun m s7 s34 W => ∃ (j : Nat) (S : ByteArray), j ≤ us.length ∧ m = us.length - j ∧ s34 = .int .i64 j ∧ s7 = .string S ∧ Hid (S = scSign j) ∧ Hid (PrS w1 (D1 ++ Ru.scs (us.take j)) wo.heap.size #[.bool false, .slice q1 us.length c1, .slice q2 uw.length c2, .int .i64 up] W))
     case atStart => exact ⟨0, scSign 0, by omega, by omega, rfl, rfl, rfl, by
      show PrS _ _ _ _ _
      rw [List.take_zero, Ru.scs, List.append_nil]
      exact H.out⟩
     case round =>
      clear H z1 zf
      obtain ⟨j, S, hj, hm, rfl, rfl, HSG, H⟩ := hrel
      have HMJ := Lib.hid hm
      clear hm
      by_cases hjl : j < us.length
      ·have hjl' : (j : Int) < (us.length : Int) := by omega
       have hj0 : (0 : Int) ≤ (j : Int) := by omega
       obtain ⟨s, hs⟩ : ∃ s, us[j]? = some s := ⟨_, List.getElem?_eq_getElem hjl⟩
       obtain ⟨sb, so, rfl, sc⟩ := (HS.out.fr (Fr.of_below H.out.bw)).hr j s hs
       have HT := Lib.hid (Ru.scs_take hs)
       have HTL := Lib.hid (grows_take Ru.scs (fun l x => ⟨_, Ru.scs_snoc l x⟩) us (j + 1))
       have HQ := Lib.hid (lex_quote2 wr s (HSH.out.1 s (List.mem_of_getElem? hs)) (HLE.out.fr (Fr.of_below H.out.bw) (by simp)))
       have hS7 : S.size ≤ 7 := by rw [HSG.out]; exact scSign_size j
       have hNL : D1.length + (Ru.scs (us.take j)).length + (S.size + (qt s).size) < 1000000000 := by
        have h1 := HTL.out
        have h2 := HDL1.out
        rw [HT.out, List.length_append, nats_length, ByteArray.size_append, ← HSG.out] at h1
        omega
       have hq9 : (qt s).size ≤ 1000000000 := by omega
       have HNL := Lib.hid hNL
       clear hs hNL
       go_wp2_with fail
       refine HQ.out.mono ?_
       rintro e V3 ⟨rfl, hF⟩
       have H := Lib.hid (H.out.fr hF)
       clear hF HQ sc
       go_wp2_with fail
       have HSZ := Lib.hid H.out.bw.size
       have h1 : (D1 ++ Ru.scs (us.take j)).length + (S ++ qt s).size < 1000000000 := by rw [List.length_append, ByteArray.size_append]; have := HNL.out; omega
       have HC := bld_strF w1.heap.size w1.heap.size _ (S ++ qt s) _ H.out.bl h1 HSZ.out
       clear h1
       refine HC.mono ?_
       rintro e V4 ⟨rfl, hbl, hbw, hbf⟩
       have H := Lib.hid (H.out.step hbl hbw hbf)
       clear HC hbl hbw hbf
       go_wp2_with fail
       go_roundg (us.length - (j + 1))
       case measure => have := HMJ.out; omega
       case rel => exact ⟨j + 1, ⟨#[44, 32]⟩, by omega, rfl, by go_num, rfl, by show _ = scSign (j + 1); rw [scSign, if_neg (by omega)], by
        have h := H.out
        show PrS _ _ _ _ _
        rw [HT.out, ← HSG.out]
        simp only [List.append_assoc] at h ⊢
        exact h⟩
      ·have hjl' : ¬ (j : Int) < (us.length : Int) := by omega
       have hje : j = us.length := by omega
       have HX0 := H.out
       rw [hje, List.take_length] at HX0
       have H := Lib.hid HX0
       have hbx := H.out.bx
       have zf : ∀ i, wr.frozen? ⟨(wo.heap.size), i, none⟩ = false := fun i => Lib.frozen_of_heap hbx i
       have z2 : wr.cell? ⟨(wo.heap.size), 2, none⟩ = some (.slice q2 uw.length c2) := by rw [Lib.cell_of_heap hbx]; rfl
       obtain ⟨D2, hD2⟩ : ∃ D2, D1 ++ Ru.scs us = D2 := ⟨_, rfl⟩
       rw [hD2] at HX0
       have H := Lib.hid HX0
       have HDL2 : Hid (D2.length + (Ru.whs uw).length + 1 < 1000000000) := by have := HDL1.out; show _ < _; rw [← hD2, List.length_append]; omega
       have HD5 : Hid (Pol.text (L.take (k + 1)) = D2 ++ (Ru.whs uw ++ [59])) := by show _ = _; rw [HD4.out, ← hD2, List.append_assoc]
       clear hbx HX0 hje hD2 HD4 HDL1
       obtain ⟨wp, rfl⟩ : ∃ wp : World, wp = wr := ⟨_, rfl⟩
       go_wp2_with fail
       go_loopg [51] uw.length (fun m s51 W => ∃ (i : Nat), i ≤ uw.length ∧ m = uw.length - i ∧ s51 = .int .i64 i ∧ Hid (PrS w1 (D2 ++ Ru.whs (uw.take i)) wo.heap.size #[.bool false, .slice q1 us.length c1, .slice q2 uw.length c2, .int .i64 up] W))
       case atStart => exact ⟨0, by omega, by omega, rfl, by
        show PrS _ _ _ _ _
        rw [List.take_zero, Ru.whs, List.append_nil]
        exact H.out⟩
       case round =>
        clear H z2 zf
        obtain ⟨i, hi, hm, rfl, H⟩ := hrel
        have HMI := Lib.hid hm
        clear hm
        by_cases hil : i < uw.length
        ·have hil' : (i : Int) < (uw.length : Int) := by omega
         have hi0 : (0 : Int) ≤ (i : Int) := by omega
         obtain ⟨x, hx⟩ : ∃ s, uw[i]? = some s := ⟨_, List.getElem?_eq_getElem hil⟩
         obtain ⟨ae, rfl, h5⟩ := HX.out.hr i x hx
         have HT := Lib.hid (Ru.whs_take hx)
         have HTL := Lib.hid (grows_take Ru.whs (fun l x => ⟨_, Ru.whs_snoc l x⟩) uw (i + 1))
         have hri : Ex.right x 1 = true := by
          have h1 := HRI.out
          unfold Ru.right at h1
          rw [Bool.and_eq_true] at h1
          exact Ex.rights_at h1.2 hx
         have HPW := Lib.hid (pol_write (HX.out.hx i x hx) 1 w1.heap.size (ae.add (i * 5)) hri (Ex.shorts_at HSH.out.2 hx) h5 HLE.out)
         have hNL : D2.length + (Ru.whs (uw.take i)).length + (6 + (x.text 1).length) < 1000000000 := by
          have h1 := HTL.out
          have h2 := HDL2.out
          rw [HT.out, List.length_append, List.length_append, nats_length] at h1
          have h3 : (⟨#[32, 119, 104, 101, 110, 32]⟩ : ByteArray).size = 6 := rfl
          omega
         have HNL := Lib.hid hNL
         clear hx hNL hri h5
         go_wp2_with fail
         have HSZ := Lib.hid H.out.bw.size
         have h1 : (D2 ++ Ru.whs (uw.take i)).length + (⟨#[32, 119, 104, 101, 110, 32]⟩ : ByteArray).size < 1000000000 := by rw [List.length_append]; show _ + 6 < _; have := HNL.out; omega
         have HC := bld_strF w1.heap.size w1.heap.size _ ⟨#[32, 119, 104, 101, 110, 32]⟩ _ H.out.bl h1 HSZ.out
         clear h1
         refine HC.mono ?_
         rintro e V3 ⟨rfl, hbl, hbw, hbf⟩
         have H := Lib.hid (H.out.step hbl hbw hbf)
         clear HC hbl hbw hbf
         have hbx := H.out.bx
         have zf : ∀ i, V3.frozen? ⟨(wo.heap.size), i, none⟩ = false := fun i => Lib.frozen_of_heap hbx i
         have z2 : V3.cell? ⟨(wo.heap.size), 2, none⟩ = some (.slice (some ae) uw.length c2) := by rw [Lib.cell_of_heap hbx]; rfl
         clear hbx
         go_wp2_with fail
         have h1 : (D2 ++ Ru.whs (uw.take i) ++ nats ⟨#[32, 119, 104, 101, 110, 32]⟩).length + (x.text 1).length < 1000000000 := by rw [List.length_append, List.length_append, nats_length]; show _ + 6 + _ < _; have := HNL.out; omega
         have HC := HPW.out _ _ 1 H.out.bw H.out.bl h1
         clear h1
         refine HC.mono ?_
         rintro e V4 ⟨rfl, hbl, hbw, hbf⟩
         have H := Lib.hid (H.out.step hbl hbw hbf)
         clear HC hbl hbw hbf z2 zf
         go_wp2_with fail
         go_roundg (uw.length - (i + 1))
         case measure => have := HMI.out; omega
         case rel => exact ⟨i + 1, by omega, rfl, by go_num, by
          have h := H.out
          show PrS _ _ _ _ _
          rw [HT.out]
          simp only [List.append_assoc] at h ⊢
          exact h⟩
        ·have hil' : ¬ (i : Int) < (uw.length : Int) := by omega
         have hie : i = uw.length := by omega
         have HX0 := H.out
         rw [hie, List.take_length] at HX0
         have H := Lib.hid HX0
         clear HX0 hie
         go_wp2_with fail
         have HSZ := Lib.hid H.out.bw.size
         have h1 : (D2 ++ Ru.whs uw).length < 1000000000 := by rw [List.length_append]; have := HDL2.out; omega
         have HC := bld_byteF w1.heap.size w1.heap.size _ 59 _ H.out.bl h1 HSZ.out
         clear h1
         refine HC.mono ?_
         rintro e V3 ⟨rfl, hbl, hbw, hbf⟩
         have H := Lib.hid (H.out.step hbl hbw hbf)
         clear HC hbl hbw hbf
         go_wp2_with fail
         go_roundg (L.length - (k + 1))
         case measure => have := HM.out; omega
         case rel => exact ⟨k + 1, by omega, rfl, by go_num, H.out.bw, by
          have h := H.out.bl
          show Bld _ _ _ _
          rw [HD5.out]
          simp only [List.append_assoc] at h ⊢
          exact h⟩
   case k1 =>
    have hk8 : (k : Int) > 0 := by omega
    have HLF : Hid (lfOf k = [10]) := by show _ = _; rw [lfOf, if_neg hk9]
    clear hk9
    go_wp2_with fail
    have HSZ := Lib.hid H.out.bw.size
    have h1 : (Pol.text (L.take k)).length < 1000000000 := by have := HTOT.out; omega
    have HC := bld_byteF w1.heap.size w1.heap.size _ 10 _ H.out.bl h1 HSZ.out
    clear h1
    refine HC.mono ?_
    rintro e V1 ⟨rfl, hbl, hbw, hbf⟩
    have H := Lib.hid (H.out.step hbl hbw hbf)
    clear HC hbl hbw hbf z0 z1 z2 z3 zf
    have hbx := H.out.bx
    have zf : ∀ i, V1.frozen? ⟨(wo.heap.size), i, none⟩ = false := fun i => Lib.frozen_of_heap hbx i
    have z0 : V1.cell? ⟨(wo.heap.size), 0, none⟩ = some (.bool ud) := by rw [Lib.cell_of_heap hbx]; rfl
    have z1 : V1.cell? ⟨(wo.heap.size), 1, none⟩ = some (.slice q1 us.length c1) := by rw [Lib.cell_of_heap hbx]; rfl
    have z2 : V1.cell? ⟨(wo.heap.size), 2, none⟩ = some (.slice q2 uw.length c2) := by rw [Lib.cell_of_heap hbx]; rfl
    have z3 : V1.cell? ⟨(wo.heap.size), 3, none⟩ = some (.int .i64 up) := by rw [Lib.cell_of_heap hbx]; rfl
    clear hbx
    have HDD : Hid (Pol.text (L.take k) ++ [10] = Pol.text (L.take k) ++ lfOf k) := by show _ = _; rw [HLF.out]
    cases ud with
    | true =>
     have hh9 : (⟨#[100, 101, 110, 121]⟩ : ByteArray) = hdv := hhd.out
     subst hh9
     go_wp2_with fail
     have HSZ := Lib.hid H.out.bw.size
     obtain ⟨D0, hD0⟩ : ∃ D0, D0 = Pol.text (L.take k) ++ lfOf k := ⟨_, rfl⟩
     have HX0 := H.out
     rw [HDD.out, ← hD0] at HX0
     have H := Lib.hid HX0
     have HDL : Hid (D0.length = (Pol.text (L.take k)).length + (lfOf k).length) := by show _ = _; rw [hD0, List.length_append]
     have HD3 : Hid (Pol.text (L.take (k + 1)) = D0 ++ (nats ⟨#[100, 101, 110, 121]⟩ ++ (Ru.scs us ++ (Ru.whs uw ++ [59])))) := by show _ = _; rw [HD2.out, hD0, List.append_assoc]
     have h1 : D0.length + (⟨#[100, 101, 110, 121]⟩ : ByteArray).size < 1000000000 := by have := HTOT.out; have := HDL.out; omega
     clear HX0 hD0 HDD HD2
     have HC := bld_strF w1.heap.size w1.heap.size D0 ⟨#[100, 101, 110, 121]⟩ _ H.out.bl h1 HSZ.out
     clear h1
     refine HC.mono ?_
     rintro e V2 ⟨rfl, hbl, hbw, hbf⟩
     have H := Lib.hid (H.out.step hbl hbw hbf)
     clear HC hbl hbw hbf z0 z1 z2 z3 zf
     obtain ⟨D1, hD1⟩ : ∃ D1, D0 ++ nats ⟨#[100, 101, 110, 121]⟩ = D1 := ⟨_, rfl⟩
     have HX0 := H.out
     rw [hD1] at HX0
     have H := Lib.hid HX0
     have HDL1 : Hid (D1.length + (Ru.scs us).length + (Ru.whs uw).length + 1 < 1000000000) := by have := HTOT.out; have := HDL.out; show _ < _; rw [← hD1, List.length_append, nats_length]; omega
     have HD4 : Hid (Pol.text (L.take (k + 1)) = D1 ++ (Ru.scs us ++ (Ru.whs uw ++ [59]))) := by show _ = _; rw [HD3.out, ← hD1, List.append_assoc]
     clear HX0 hD1 HD3 HDL HTOT
     have hbx := H.out.bx
     have zf : ∀ i, V2.frozen? ⟨(wo.heap.size), i, none⟩ = false := fun i => Lib.frozen_of_heap hbx i
     have z1 : V2.cell? ⟨(wo.heap.size), 1, none⟩ = some (.slice q1 us.length c1) := by rw [Lib.cell_of_heap hbx]; rfl
     clear hbx
     go_wp2_with fail
     go_loopg [7, 34] us.length (fun m s7 s34 W => ∃ (j : Nat) (S : ByteArray), j ≤ us.length ∧ m = us.length - j ∧ s34 = .int .i64 j ∧ s7 = .string S ∧ Hid (S = scSign j) ∧ Hid (PrS w1 (D1 ++ Ru.scs (us.take j)) wo.heap.size #[.bool true, .slice q1 us.length c1, .slice q2 uw.length c2, .int .i64 up] W))
     case atStart => exact ⟨0, scSign 0, by omega, by omega, rfl, rfl, rfl, by
      show PrS _ _ _ _ _
      rw [List.take_zero, Ru.scs, List.append_nil]
      exact H.out⟩
     case round =>
      clear H z1 zf
      obtain ⟨j, S, hj, hm, rfl, rfl, HSG, H⟩ := hrel
      have HMJ := Lib.hid hm
      clear hm
      by_cases hjl : j < us.length
      ·have hjl' : (j : Int) < (us.length : Int) := by omega
       have hj0 : (0 : Int) ≤ (j : Int) := by omega
       obtain ⟨s, hs⟩ : ∃ s, us[j]? = some s := ⟨_, List.getElem?_eq_getElem hjl⟩
       obtain ⟨sb, so, rfl, sc⟩ := (HS.out.fr (Fr.of_below H.out.bw)).hr j s hs
       have HT := Lib.hid (Ru.scs_take hs)
       have HTL := Lib.hid (grows_take Ru.scs (fun l x => ⟨_, Ru.scs_snoc l x⟩) us (j + 1))
       have HQ := Lib.hid (lex_quote2 wr s (HSH.out.1 s (List.mem_of_getElem? hs)) (HLE.out.fr (Fr.of_below H.out.bw) (by simp)))
       have hS7 : S.size ≤ 7 := by rw [HSG.out]; exact scSign_size j
       have hNL : D1.length + (Ru.scs (us.take j)).length + (S.size + (qt s).size) < 1000000000 := by
        have h1 := HTL.out
        have h2 := HDL1.out
        rw [HT.out, List.length_append, nats_length, ByteArray.size_append, ← HSG.out] at h1
        omega
       have hq9 : (qt s).size ≤ 1000000000 := by omega
       have HNL := Lib.hid hNL
       clear hs hNL
       go_wp2_with fail
       refine HQ.out.mono ?_
       rintro e V3 ⟨rfl, hF⟩
       have H := Lib.hid (H.out.fr hF)
       clear hF HQ sc
       go_wp2_with fail
       have HSZ := Lib.hid H.out.bw.size
       have h1 : (D1 ++ Ru.scs (us.take j)).length + (S ++ qt s).size < 1000000000 := by rw [List.length_append, ByteArray.size_append]; have := HNL.out; omega
       have HC := bld_strF w1.heap.size w1.heap.size _ (S ++ qt s) _ H.out.bl h1 HSZ.out
       clear h1
       refine HC.mono ?_
       rintro e V4 ⟨rfl, hbl, hbw, hbf⟩
       have H := Lib.hid (H.out.step hbl hbw hbf)
       clear HC hbl hbw hbf
       go_wp2_with fail
       go_roundg (us.length - (j + 1))
       case measure => have := HMJ.out; omega
       case rel => exact ⟨j + 1, ⟨#[44, 32]⟩, by omega, rfl, by go_num, rfl, by show _ = scSign (j + 1); rw [scSign, if_neg (by omega)], by
        have h := H.out
        show PrS _ _ _ _ _
        rw [HT.out, ← HSG.out]
        simp only [List.append_assoc] at h ⊢
        exact h⟩
      ·have hjl' : ¬ (j : Int) < (us.length : Int) := by omega
       have hje : j = us.length := by omega
       have HX0 := H.out
       rw [hje, List.take_length] at HX0
       have H := Lib.hid HX0
       have hbx := H.out.bx
       have zf : ∀ i, wr.frozen? ⟨(wo.heap.size), i, none⟩ = false := fun i => Lib.frozen_of_heap hbx i
       have z2 : wr.cell? ⟨(wo.heap.size), 2, none⟩ = some (.slice q2 uw.length c2) := by rw [Lib.cell_of_heap hbx]; rfl
       obtain ⟨D2, hD2⟩ : ∃ D2, D1 ++ Ru.scs us = D2 := ⟨_, rfl⟩
       rw [hD2] at HX0
       have H := Lib.hid HX0
       have HDL2 : Hid (D2.length + (Ru.whs uw).length + 1 < 1000000000) := by have := HDL1.out; show _ < _; rw [← hD2, List.length_append]; omega
       have HD5 : Hid (Pol.text (L.take (k + 1)) = D2 ++ (Ru.whs uw ++ [59])) := by show _ = _; rw [HD4.out, ← hD2, List.append_assoc]
       clear hbx HX0 hje hD2 HD4 HDL1
       obtain ⟨wp, rfl⟩ : ∃ wp : World, wp = wr := ⟨_, rfl⟩
       go_wp2_with fail
       go_loopg [51] uw.length (fun m s51 W => ∃ (i : Nat), i ≤ uw.length ∧ m = uw.length - i ∧ s51 = .int .i64 i ∧ Hid (PrS w1 (D2 ++ Ru.whs (uw.take i)) wo.heap.size #[.bool true, .slice q1 us.length c1, .slice q2 uw.length c2, .int .i64 up] W))
       case atStart => exact ⟨0, by omega, by omega, rfl, by
        show PrS _ _ _ _ _
        rw [List.take_zero, Ru.whs, List.append_nil]
        exact H.out⟩
       case round =>
        clear H z2 zf
        obtain ⟨i, hi, hm, rfl, H⟩ := hrel
        have HMI := Lib.hid hm
        clear hm
        by_cases hil : i < uw.length
        ·have hil' : (i : Int) < (uw.length : Int) := by omega
         have hi0 : (0 : Int) ≤ (i : Int) := by omega
         obtain ⟨x, hx⟩ : ∃ s, uw[i]? = some s := ⟨_, List.getElem?_eq_getElem hil⟩
         obtain ⟨ae, rfl, h5⟩ := HX.out.hr i x hx
         have HT := Lib.hid (Ru.whs_take hx)
         have HTL := Lib.hid (grows_take Ru.whs (fun l x => ⟨_, Ru.whs_snoc l x⟩) uw (i + 1))
         have hri : Ex.right x 1 = true := by
          have h1 := HRI.out
          unfold Ru.right at h1
          rw [Bool.and_eq_true] at h1
          exact Ex.rights_at h1.2 hx
         have HPW := Lib.hid (pol_write (HX.out.hx i x hx) 1 w1.heap.size (ae.add (i * 5)) hri (Ex.shorts_at HSH.out.2 hx) h5 HLE.out)
         have hNL : D2.length + (Ru.whs (uw.take i)).length + (6 + (x.text 1).length) < 1000000000 := by
          have h1 := HTL.out
          have h2 := HDL2.out
          rw [HT.out, List.length_append, List.length_append, nats_length] at h1
          have h3 : (⟨#[32, 119, 104, 101, 110, 32]⟩ : ByteArray).size = 6 := rfl
          omega
         have HNL := Lib.hid hNL
         clear hx hNL hri h5
         go_wp2_with fail
         have HSZ := Lib.hid H.out.bw.size
         have h1 : (D2 ++ Ru.whs (uw.take i)).length + (⟨#[32, 119, 104, 101, 110, 32]⟩ : ByteArray).size < 1000000000 := by rw [List.length_append]; show _ + 6 < _; have := HNL.out; omega
         have HC := bld_strF w1.heap.size w1.heap.size _ ⟨#[32, 119, 104, 101, 110, 32]⟩ _ H.out.bl h1 HSZ.out
         clear h1
         refine HC.mono ?_
         rintro e V3 ⟨rfl, hbl, hbw, hbf⟩
         have H := Lib.hid (H.out.step hbl hbw hbf)
         clear HC hbl hbw hbf
         have hbx := H.out.bx
         have zf : ∀ i, V3.frozen? ⟨(wo.heap.size), i, none⟩ = false := fun i => Lib.frozen_of_heap hbx i
         have z2 : V3.cell? ⟨(wo.heap.size), 2, none⟩ = some (.slice (some ae) uw.length c2) := by rw [Lib.cell_of_heap hbx]; rfl
         clear hbx
         go_wp2_with fail
         have h1 : (D2 ++ Ru.whs (uw.take i) ++ nats ⟨#[32, 119, 104, 101, 110, 32]⟩).length + (x.text 1).length < 1000000000 := by rw [List.length_append, List.length_append, nats_length]; show _ + 6 + _ < _; have := HNL.out; omega
         have HC := HPW.out _ _ 1 H.out.bw H.out.bl h1
         clear h1
         refine HC.mono ?_
         rintro e V4 ⟨rfl, hbl, hbw, hbf⟩
         have H := Lib.hid (H.out.step hbl hbw hbf)
         clear HC hbl hbw hbf z2 zf
         go_wp2_with fail
         go_roundg (uw.length - (i + 1))
         case measure => have := HMI.out; omega
         case rel => exact ⟨i + 1, by omega, rfl, by go_num, by
          have h := H.out
          show PrS _ _ _ _ _
          rw [HT.out]
          simp only [List.append_assoc] at h ⊢
          exact h⟩
        ·have hil' : ¬ (i : Int) < (uw.length : Int) := by omega
         have hie : i = uw.length := by omega
         have HX0 := H.out
         rw [hie, List.take_length] at HX0
         have H := Lib.hid HX0
         clear HX0 hie
         go_wp2_with fail
         have HSZ := Lib.hid H.out.bw.size
         have h1 : (D2 ++ Ru.whs uw).length < 1000000000 := by rw [List.length_append]; have := HDL2.out; omega
         have HC := bld_byteF w1.heap.size w1.heap.size _ 59 _ H.out.bl h1 HSZ.out
         clear h1
         refine HC.mono ?_
         rintro e V3 ⟨rfl, hbl, hbw, hbf⟩
         have H := Lib.hid (H.out.step hbl hbw hbf)
         clear HC hbl hbw hbf
         go_wp2_with fail
         go_roundg (L.length - (k + 1))
         case measure => have := HM.out; omega
         case rel => exact ⟨k + 1, by omega, rfl, by go_num, H.out.bw, by
          have h := H.out.bl
          show Bld _ _ _ _
          rw [HD5.out]
          simp only [List.append_assoc] at h ⊢
          exact h⟩
    | false =>
     have hh9 : (⟨#[112, 101, 114, 109, 105, 116]⟩ : ByteArray) = hdv := hhd.out
     subst hh9
     go_wp2_with fail
     have HSZ := Lib.hid H.out.bw.size
     obtain ⟨D0, hD0⟩ : ∃ D0, D0 = Pol.text (L.take k) ++ lfOf k := ⟨_, rfl⟩
     have HX0 := H.out
     rw [HDD.out, ← hD0] at HX0
     have H := Lib.hid HX0
     have HDL : Hid (D0.length = (Pol.text (L.take k)).length + (lfOf k).length) := by show _ = _; rw [hD0, List.length_append]
     have HD3 : Hid (Pol.text (L.take (k + 1)) = D0 ++ (nats ⟨#[112, 101, 114, 109, 105, 116]⟩ ++ (Ru.scs us ++ (Ru.whs uw ++ [59])))) := by show _ = _; rw [HD2.out, hD0, List.append_assoc]
     have h1 : D0.length + (⟨#[112, 101, 114, 109, 105, 116]⟩ : ByteArray).size < 1000000000 := by have := HTOT.out; have := HDL.out; omega
     clear HX0 hD0 HDD HD2
     have HC := bld_strF w1.heap.size w1.heap.size D0 ⟨#[112, 101, 114, 109, 105, 116]⟩ _ H.out.bl h1 HSZ.out
     clear h1
     refine HC.mono ?_
     rintro e V2 ⟨rfl, hbl, hbw, hbf⟩
     have H := Lib.hid (H.out.step hbl hbw hbf)
     clear HC hbl hbw hbf z0 z1 z2 z3 zf
     obtain ⟨D1, hD1⟩ : ∃ D1, D0 ++ nats ⟨#[112, 101, 114, 109, 105, 116]⟩ = D1 := ⟨_, rfl⟩
     have HX0 := H.out
     rw [hD1] at HX0
     have H := Lib.hid HX0
     have HDL1 : Hid (D1.length + (Ru.scs us).length + (Ru.whs uw).length + 1 < 1000000000) := by have := HTOT.out; have := HDL.out; show _ < _; rw [← hD1, List.length_append, nats_length]; omega
     have HD4 : Hid (Pol.text (L.take (k + 1)) = D1 ++ (Ru.scs us ++ (Ru.whs uw ++ [59]))) := by show _ = _; rw [HD3.out, ← hD1, List.append_assoc]
     clear HX0 hD1 HD3 HDL HTOT
     have hbx := H.out.bx
     have zf : ∀ i, V2.frozen? ⟨(wo.heap.size), i, none⟩ = false := fun i => Lib.frozen_of_heap hbx i
     have z1 : V2.cell? ⟨(wo.heap.size), 1, none⟩ = some (.slice q1 us.length c1) := by rw [Lib.cell_of_heap hbx]; rfl
     clear hbx
     go_wp2_with fail
     go_loopg [7, 34] us.length (fun m s7 s34 W => ∃ (j : Nat) (S : ByteArray), j ≤ us.length ∧ m = us.length - j ∧ s34 = .int .i64 j ∧ s7 = .string S ∧ Hid (S = scSign j) ∧ Hid (PrS w1 (D1 ++ Ru.scs (us.take j)) wo.heap.size #[.bool false, .slice q1 us.length c1, .slice q2 uw.length c2, .int .i64 up] W))
     case atStart => exact ⟨0, scSign 0, by omega, by omega, rfl, rfl, rfl, by
      show PrS _ _ _ _ _
      rw [List.take_zero, Ru.scs, List.append_nil]
      exact H.out⟩
     case round =>
      clear H z1 zf
      obtain ⟨j, S, hj, hm, rfl, rfl, HSG, H⟩ := hrel
      have HMJ := Lib.hid hm
      clear hm
      by_cases hjl : j < us.length
      ·have hjl' : (j : Int) < (us.length : Int) := by omega
       have hj0 : (0 : Int) ≤ (j : Int) := by omega
       obtain ⟨s, hs⟩ : ∃ s, us[j]? = some s := ⟨_, List.getElem?_eq_getElem hjl⟩
       obtain ⟨sb, so, rfl, sc⟩ := (HS.out.fr (Fr.of_below H.out.bw)).hr j s hs
       have HT := Lib.hid (Ru.scs_take hs)
       have HTL := Lib.hid (grows_take Ru.scs (fun l x => ⟨_, Ru.scs_snoc l x⟩) us (j + 1))
       have HQ := Lib.hid (lex_quote2 wr s (HSH.out.1 s (List.mem_of_getElem? hs)) (HLE.out.fr (Fr.of_below H.out.bw) (by simp)))
       have hS7 : S.size ≤ 7 := by rw [HSG.out]; exact scSign_size j
       have hNL : D1.length + (Ru.scs (us.take j)).length + (S.size + (qt s).size) < 1000000000 := by
        have h1 := HTL.out
        have h2 := HDL1.out
        rw [HT.out, List.length_append, nats_length, ByteArray.size_append, ← HSG.out] at h1
        omega
       have hq9 : (qt s).size ≤ 1000000000 := by omega
       have HNL := Lib.hid hNL
       clear hs hNL
       go_wp2_with fail
       refine HQ.out.mono ?_
       rintro e V3 ⟨rfl, hF⟩
       have H := Lib.hid (H.out.fr hF)
       clear hF HQ sc
       go_wp2_with fail
       have HSZ := Lib.hid H.out.bw.size
       have h1 : (D1 ++ Ru.scs (us.take j)).length + (S ++ qt s).size < 1000000000 := by rw [List.length_append, ByteArray.size_append]; have := HNL.out; omega
       have HC := bld_strF w1.heap.size w1.heap.size _ (S ++ qt s) _ H.out.bl h1 HSZ.out
       clear h1
       refine HC.mono ?_
       rintro e V4 ⟨rfl, hbl, hbw, hbf⟩
       have H := Lib.hid (H.out.step hbl hbw hbf)
       clear HC hbl hbw hbf
       go_wp2_with fail
       go_roundg (us.length - (j + 1))
       case measure => have := HMJ.out; omega
       case rel => exact ⟨j + 1, ⟨#[44, 32]⟩, by omega, rfl, by go_num, rfl, by show _ = scSign (j + 1); rw [scSign, if_neg (by omega)], by
        have h := H.out
        show PrS _ _ _ _ _
        rw [HT.out, ← HSG.out]
        simp only [List.append_assoc] at h ⊢
        exact h⟩
      ·have hjl' : ¬ (j : Int) < (us.length : Int) := by omega
       have hje : j = us.length := by omega
       have HX0 := H.out
       rw [hje, List.take_length] at HX0
       have H := Lib.hid HX0
       have hbx := H.out.bx
       have zf : ∀ i, wr.frozen? ⟨(wo.heap.size), i, none⟩ = false := fun i => Lib.frozen_of_heap hbx i
       have z2 : wr.cell? ⟨(wo.heap.size), 2, none⟩ = some (.slice q2 uw.length c2) := by rw [Lib.cell_of_heap hbx]; rfl
       obtain ⟨D2, hD2⟩ : ∃ D2, D1 ++ Ru.scs us = D2 := ⟨_, rfl⟩
       rw [hD2] at HX0
       have H := Lib.hid HX0
       have HDL2 : Hid (D2.length + (Ru.whs uw).length + 1 < 1000000000) := by have := HDL1.out; show _ < _; rw [← hD2, List.length_append]; omega
       have HD5 : Hid (Pol.text (L.take (k + 1)) = D2 ++ (Ru.whs uw ++ [59])) := by show _ = _; rw [HD4.out, ← hD2, List.append_assoc]
       clear hbx HX0 hje hD2 HD4 HDL1
       obtain ⟨wp, rfl⟩ : ∃ wp : World, wp = wr := ⟨_, rfl⟩
       go_wp2_with fail
       go_loopg [51] uw.length (fun m s51 W => ∃ (i : Nat), i ≤ uw.length ∧ m = uw.length - i ∧ s51 = .int .i64 i ∧ Hid (PrS w1 (D2 ++ Ru.whs (uw.take i)) wo.heap.size #[.bool false, .slice q1 us.length c1, .slice q2 uw.length c2, .int .i64 up] W))
       case atStart => exact ⟨0, by omega, by omega, rfl, by
        show PrS _ _ _ _ _
        rw [List.take_zero, Ru.whs, List.append_nil]
        exact H.out⟩
       case round =>
        clear H z2 zf
        obtain ⟨i, hi, hm, rfl, H⟩ := hrel
        have HMI := Lib.hid hm
        clear hm
        by_cases hil : i < uw.length
        ·have hil' : (i : Int) < (uw.length : Int) := by omega
         have hi0 : (0 : Int) ≤ (i : Int) := by omega
         obtain ⟨x, hx⟩ : ∃ s, uw[i]? = some s := ⟨_, List.getElem?_eq_getElem hil⟩
         obtain ⟨ae, rfl, h5⟩ := HX.out.hr i x hx
         have HT := Lib.hid (Ru.whs_take hx)
         have HTL := Lib.hid (grows_take Ru.whs (fun l x => ⟨_, Ru.whs_snoc l x⟩) uw (i + 1))
         have hri : Ex.right x 1 = true := by
          have h1 := HRI.out
          unfold Ru.right at h1
          rw [Bool.and_eq_true] at h1
          exact Ex.rights_at h1.2 hx
         have HPW := Lib.hid (pol_write (HX.out.hx i x hx) 1 w1.heap.size (ae.add (i * 5)) hri (Ex.shorts_at HSH.out.2 hx) h5 HLE.out)
         have hNL : D2.length + (Ru.whs (uw.take i)).length + (6 + (x.text 1).length) < 1000000000 := by
          have h1 := HTL.out
          have h2 := HDL2.out
          rw [HT.out, List.length_append, List.length_append, nats_length] at h1
          have h3 : (⟨#[32, 119, 104, 101, 110, 32]⟩ : ByteArray).size = 6 := rfl
          omega
         have HNL := Lib.hid hNL
         clear hx hNL hri h5
         go_wp2_with fail
         have HSZ := Lib.hid H.out.bw.size
         have h1 : (D2 ++ Ru.whs (uw.take i)).length + (⟨#[32, 119, 104, 101, 110, 32]⟩ : ByteArray).size < 1000000000 := by rw [List.length_append]; show _ + 6 < _; have := HNL.out; omega
         have HC := bld_strF w1.heap.size w1.heap.size _ ⟨#[32, 119, 104, 101, 110, 32]⟩ _ H.out.bl h1 HSZ.out
         clear h1
         refine HC.mono ?_
         rintro e V3 ⟨rfl, hbl, hbw, hbf⟩
         have H := Lib.hid (H.out.step hbl hbw hbf)
         clear HC hbl hbw hbf
         have hbx := H.out.bx
         have zf : ∀ i, V3.frozen? ⟨(wo.heap.size), i, none⟩ = false := fun i => Lib.frozen_of_heap hbx i
         have z2 : V3.cell? ⟨(wo.heap.size), 2, none⟩ = some (.slice (some ae) uw.length c2) := by rw [Lib.cell_of_heap hbx]; rfl
         clear hbx
         go_wp2_with fail
         have h1 : (D2 ++ Ru.whs (uw.take i) ++ nats ⟨#[32, 119, 104, 101, 110, 32]⟩).length + (x.text 1).length < 1000000000 := by rw [List.length_append, List.length_append, nats_length]; show _ + 6 + _ < _; have := HNL.out; omega
         have HC := HPW.out _ _ 1 H.out.bw H.out.bl h1
         clear h1
         refine HC.mono ?_
         rintro e V4 ⟨rfl, hbl, hbw, hbf⟩
         have H := Lib.hid (H.out.step hbl hbw hbf)
         clear HC hbl hbw hbf z2 zf
         go_wp2_with fail
         go_roundg (uw.length - (i + 1))
         case measure => have := HMI.out; omega
         case rel => exact ⟨i + 1, by omega, rfl, by go_num, by
          have h := H.out
          show PrS _ _ _ _ _
          rw [HT.out]
          simp only [List.append_assoc] at h ⊢
          exact h⟩
        ·have hil' : ¬ (i : Int) < (uw.length : Int) := by omega
         have hie : i = uw.length := by omega
         have HX0 := H.out
         rw [hie, List.take_length] at HX0
         have H := Lib.hid HX0
         clear HX0 hie
         go_wp2_with fail
         have HSZ := Lib.hid H.out.bw.size
         have h1 : (D2 ++ Ru.whs uw).length < 1000000000 := by rw [List.length_append]; have := HDL2.out; omega
         have HC := bld_byteF w1.heap.size w1.heap.size _ 59 _ H.out.bl h1 HSZ.out
         clear h1
         refine HC.mono ?_
         rintro e V3 ⟨rfl, hbl, hbw, hbf⟩
         have H := Lib.hid (H.out.step hbl hbw hbf)
         clear HC hbl hbw hbf
         go_wp2_with fail
         go_roundg (L.length - (k + 1))
         case measure => have := HM.out; omega
         case rel => exact ⟨k + 1, by omega, rfl, by go_num, H.out.bw, by
          have h := H.out.bl
          show Bld _ _ _ _
          rw [HD5.out]
          simp only [List.append_assoc] at h ⊢
          exact h⟩
  ·have hlt' : ¬ (k : Int) < (L.length : Int) := by omega
   have hke : k = L.length := by omega
   have h9 : Bld w1.heap.size w1.heap.size (Pol.text L) wr := by have := HB.out; rwa [hke, List.take_length] at this
   have HC := Lib.hid (bld_string w1.heap.size w1.heap.size _ wr h9 (Pol.text_lt L) HW.out.size)
   clear h9 hke
   go_wp2_with fail
   refine HC.out.mono ?_
   rintro e w2 ⟨rfl, hbw⟩
   have HF2 := Lib.hid (HF0.out.trans0 ((Fr.of_below HW.out).step hbw))
   clear hbw HC
   go_wp2_with fail
   go_ret2
   exact ⟨rfl, HF2.out⟩
end Go.Proofs.YtgklmpooonnmiaaDoor
