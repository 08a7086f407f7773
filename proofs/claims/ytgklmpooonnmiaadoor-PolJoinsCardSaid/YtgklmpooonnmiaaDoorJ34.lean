/-
  Lemmas and contracts that the proofs over this seat use (PolWriteP, PolWriteT); no statement of the seat is claimed in this text, and nothing is assumed in it.
-/
import Derived.Test.YtgklmpooonnmiaaDoorJ28
import Derived.Test.YtgklmpooonnmiaaDoorJ33
import Derived.StillTailTactics
set_option linter.unusedVariables false
set_option linter.unusedSimpArgs false
namespace Go.Proofs.YtgklmpooonnmiaaDoor
open Go.RowKit
def qt (s : ByteArray) : ByteArray := ba ((Lex.quote s).getD [])
def Ex.sgn (op : Int) : ByteArray :=
 if op = 7 then ⟨#[97, 110, 100]⟩ else if op = 8 then ⟨#[111, 114]⟩ else if op = 9 then ⟨#[61]⟩ else if op = 10 then ⟨#[33, 61]⟩ else if op = 11 then ⟨#[60]⟩ else if op = 12 then ⟨#[60, 61]⟩ else ⟨#[104, 97, 115]⟩
def Ex.lo (op : Int) : Int := if op = 7 then 2 else if op = 8 then 1 else 5
def Ex.hi (op : Int) : Int := if op = 7 then 3 else if op = 8 then 2 else 5
def Ex.leaf (op : Int) (s : ByteArray) (n : Int) : ByteArray :=
 if op = 1 then (if n = 1 then ⟨#[116, 114, 117, 101]⟩ else ⟨#[102, 97, 108, 115, 101]⟩)
 else if op = 2 then ba (Dec.print n)
 else if op = 3 then qt s
 else if op = 4 then s
 else ⟨#[99, 108, 97, 105, 109, 40]⟩ ++ qt s ++ ⟨#[41]⟩
mutual
def Ex.text : Ex → Int → List Nat
 | .mk op s n L _, asked => if Pol.level op < asked then 40 :: (Ex.body op s n L ++ [41]) else Ex.body op s n L
def Ex.body (op : Int) (s : ByteArray) (n : Int) : List Ex → List Nat
 | [] => nats (Ex.leaf op s n)
 | a :: l => Ex.rest op (if op = 6 then [110, 111, 116, 32] ++ Ex.text a 3 else if op = 13 then Ex.text a 5 else Ex.text a (Ex.lo op)) l
def Ex.rest (op : Int) (A : List Nat) : List Ex → List Nat
 | [] => A
 | b :: r => if op = 13 then A ++ ([32, 105, 110, 32, 91] ++ (Ex.text b 5 ++ (Ex.more r ++ [93]))) else A ++ (nats (⟨#[32]⟩ ++ Ex.sgn op ++ ⟨#[32]⟩) ++ Ex.text b (Ex.hi op))
def Ex.more : List Ex → List Nat
 | [] => []
 | x :: r => [44, 32] ++ (Ex.text x 5 ++ Ex.more r)
end
def Ex.ins : List Ex → List Nat
 | [] => []
 | b :: r => [32, 105, 110, 32, 91] ++ (Ex.text b 5 ++ Ex.more r)
theorem Ex.more_snoc : ∀ (r : List Ex) (x : Ex), Ex.more (r ++ [x]) = Ex.more r ++ ([44, 32] ++ Ex.text x 5)
 | [], x => by rw [List.nil_append, Ex.more, Ex.more, Ex.more]; simp
 | y :: r, x => by rw [List.cons_append, Ex.more, Ex.more, Ex.more_snoc r x]; simp
theorem Ex.ins_snoc (r : List Ex) (x : Ex) : Ex.ins (r ++ [x]) = Ex.ins r ++ ((if r.length = 0 then [32, 105, 110, 32, 91] else [44, 32]) ++ Ex.text x 5) := by
 cases r with
 | nil => rw [List.nil_append, Ex.ins, Ex.ins, Ex.more]; simp
 | cons y r => rw [List.cons_append, Ex.ins, Ex.ins, Ex.more_snoc]; simp
theorem Ex.ins_take {L : List Ex} {k : Nat} {x : Ex} (h : L[k]? = some x) : Ex.ins (L.take (k + 1)) = Ex.ins (L.take k) ++ ((if k = 0 then [32, 105, 110, 32, 91] else [44, 32]) ++ Ex.text x 5) := by
 obtain ⟨h1, rfl⟩ := List.getElem?_eq_some_iff.1 h
 rw [List.take_succ_eq_append_getElem h1, Ex.ins_snoc, List.length_take, Nat.min_eq_left (by omega)]
theorem Ex.body_two {op : Int} (s : ByteArray) (n : Int) (a b : Ex) (h6 : op ≠ 6) (h13 : op ≠ 13) : Ex.body op s n [a, b] = Ex.text a (Ex.lo op) ++ (nats (⟨#[32]⟩ ++ Ex.sgn op ++ ⟨#[32]⟩) ++ Ex.text b (Ex.hi op)) := by
 rw [Ex.body, if_neg h6, if_neg h13, Ex.rest, if_neg h13]
theorem Ex.body_in (s : ByteArray) (n : Int) (a b : Ex) (r : List Ex) : Ex.body 13 s n (a :: b :: r) = Ex.text a 5 ++ (Ex.ins (b :: r) ++ [93]) := by
 rw [Ex.body, if_neg (by decide), if_pos rfl, Ex.rest, if_pos rfl, Ex.ins]
 simp
theorem Ex.body_not (s : ByteArray) (n : Int) (a : Ex) : Ex.body 6 s n [a] = [110, 111, 116, 32] ++ Ex.text a 3 := by
 rw [Ex.body, if_pos rfl, Ex.rest]
def Writes (w0 : World) (b : Nat) (x : Ex) (ad : Addr) : Prop :=
 ∀ (W : World) (D : List Nat) (asked : Int), Below w0.heap.size w0 W → Bld w0.heap.size b D W → D.length + (x.text asked).length < 1000000000 →
   Calls Tryd.prog 76 #[.pointer (some ⟨b, 0, none⟩), .pointer (some ad), .int .i64 asked] W fun e w' => e = .returned (.tuple #[]) ∧ Bld w0.heap.size b (D ++ x.text asked) w' ∧ Below w0.heap.size W w' ∧ BFr b W w'
set_option maxHeartbeats 4000000 in
theorem write1 (w : World) (s : ByteArray) (hs : s.size ≤ 100000000) (hL : Least w) : Calls Tryd.prog 98 #[.string s] w fun e w' => e = .returned (.string (qt s)) ∧ Fr [] w w' := by
 have HQ := Lib.hid (lex_quote w s hs hL)
 clear hL
 go_enter Tryd.func98, Tryd.ntmps98
 go_wp2_with fail
 refine HQ.out.mono ?_
 rintro e w1 ⟨rfl, hF⟩
 have HF := Lib.hid hF
 clear hF
 go_wp2_with fail
 refine bodyPost_ret (results_tmp rfl _ _ _) rfl ?_
 exact ⟨rfl, HF.out⟩
end Go.Proofs.YtgklmpooonnmiaaDoor

namespace Go.Proofs.YtgklmpooonnmiaaDoor
open Go.RowKit
set_option maxHeartbeats 4000000 in
set_option maxRecDepth 100000 in
theorem write_two (w0 W : World) (b B1 B2 : Nat) (adE ad : Addr) (op : Int) (s : ByteArray) (n p : Int) (k c : Nat) (x0 x1 : Ex) (sg : ByteArray) (l0 l1 : Int) (D : List Nat)
  (hb1 : W.heap[B1]? = some (.cells #[.pointer (some ⟨b, 0, none⟩)] 104 (0, 0))) (hb2 : W.heap[B2]? = some (.cells #[.pointer (some adE)] 129 (0, 0))) (n1 : B1 ≠ b) (n2 : B2 ≠ b)
  (h5 : Five w0 adE [.int .i64 op, .string s, .int .i64 n, .slice (some ad) k c, .int .i64 p]) (hk : 2 ≤ k) (hm : k ≤ 1000000000)
  (hW : Below w0.heap.size w0 W) (hB : Bld w0.heap.size b D W)
  (h0 : Writes w0 b x0 ad) (h1 : Writes w0 b x1 (ad.add 5))
  (hlen : D.length + (x0.text l0).length + (sg.size + 2) + (x1.text l1).length < 1000000000) :
  Calls Tryd.prog 99 #[.string sg, .int .i64 l0, .int .i64 l1, .pointer (some ⟨B1, 0, none⟩), .pointer (some ⟨B2, 0, none⟩)] W fun e w' => e = .returned (.tuple #[]) ∧ Bld w0.heap.size b (D ++ (x0.text l0 ++ (nats (⟨#[32]⟩ ++ sg ++ ⟨#[32]⟩) ++ x1.text l1))) w' ∧ Below w0.heap.size W w' ∧ BFr b W w' := by
 obtain ⟨v0, v1, v2, v3, v4, hv, a0, a1, a2, a3, a4⟩ := h5
 simp only [List.cons.injEq, and_true] at hv
 obtain ⟨rfl, rfl, rfl, rfl, rfl⟩ := hv
 have A3 := Lib.hid a3
 have hk0 : (0 : Int) < (k : Int) := by omega
 have hk1 : (1 : Int) < (k : Int) := by omega
 have hk2 : 0 < k := by omega
 have hk3 : 1 < k := by omega
 have hsg : sg.size ≤ 1000000000 := by omega
 have c1 : W.cell? ⟨B1, 0, none⟩ = some (.pointer (some ⟨b, 0, none⟩)) := by rw [Lib.cell_of_heap hb1]; rfl
 have c2 : W.cell? ⟨B2, 0, none⟩ = some (.pointer (some adE)) := by rw [Lib.cell_of_heap hb2]; rfl
 have c3 := (Fr.of_below hW).cells a3
 have HB1 := Lib.hid hb1
 have HB2 := Lib.hid hb2
 have HW := Lib.hid hW
 have HB := Lib.hid hB
 have H0 := Lib.hid h0
 have H1 := Lib.hid h1
 have HLEN := Lib.hid hlen
 have N1 := Lib.hid n1
 have N2 := Lib.hid n2
 clear a0 a1 a2 a3 a4 hb1 hb2 hW hB h0 h1 hlen n1 n2
 go_enter Tryd.func99, Tryd.ntmps99
 go_wp2_with fail
 go_still_tail 7, (by kernel_rfl)
 go_wp2_with fail
 have h1 : D.length + (x0.text l0).length < 1000000000 := by have := HLEN.out; omega
 have HC := H0.out _ D l0 HW.out.drew HB.out h1
 clear h1
 refine HC.mono ?_
 clear HC
 rintro e w1 ⟨rfl, hbl, hbw, hbf⟩
 have HB := Lib.hid hbl
 have HB1 := Lib.hid (hbf.row (w := W.drew) HB1.out N1.out (by decide))
 have HB2 := Lib.hid (hbf.row (w := W.drew) HB2.out N2.out (by decide))
 have HWW : Hid (Below w0.heap.size W w1) := ((Below.refl _ W).drew).trans hbw
 have HFF : Hid (BFr b W w1) := (BFr.refl b W).trans ⟨hbf.size, hbf.block⟩
 have HW1 := Lib.hid (HW.out.trans HWW.out)
 clear hbl hbw hbf c1 c2 c3
 have c1 : w1.cell? ⟨B1, 0, none⟩ = some (.pointer (some ⟨b, 0, none⟩)) := by rw [Lib.cell_of_heap HB1.out]; rfl
 have c2 : w1.cell? ⟨B2, 0, none⟩ = some (.pointer (some adE)) := by rw [Lib.cell_of_heap HB2.out]; rfl
 have c3 := (Fr.of_below HW1.out).cells A3.out
 have hsz : (⟨#[32]⟩ ++ sg ++ ⟨#[32]⟩ : ByteArray).size = sg.size + 2 := by rw [ByteArray.size_append, ByteArray.size_append]; show 1 + sg.size + 1 = _; omega
 have HS := Lib.hid hsz
 have HW1S := Lib.hid HW1.out.size
 clear hsz
 go_wp2_with fail
 have h1 : (D ++ x0.text l0).length + (⟨#[32]⟩ ++ sg ++ ⟨#[32]⟩ : ByteArray).size < 1000000000 := by rw [HS.out, List.length_append]; have := HLEN.out; omega
 have HC := bld_strF w0.heap.size b (D ++ x0.text l0) (⟨#[32]⟩ ++ sg ++ ⟨#[32]⟩) w1 HB.out h1 HW1S.out
 clear h1
 refine HC.mono ?_
 clear HC
 rintro e w2 ⟨rfl, hbl, hbw, hbf⟩
 have HB := Lib.hid hbl
 have HB1 := Lib.hid (hbf.row HB1.out N1.out (by decide))
 have HB2 := Lib.hid (hbf.row HB2.out N2.out (by decide))
 have HWW := Lib.hid (HWW.out.trans hbw)
 have HFF := Lib.hid (HFF.out.trans hbf)
 have HW2 := Lib.hid (HW1.out.trans hbw)
 clear hbl hbw hbf c1 c2 c3
 have c1 : w2.cell? ⟨B1, 0, none⟩ = some (.pointer (some ⟨b, 0, none⟩)) := by rw [Lib.cell_of_heap HB1.out]; rfl
 have c2 : w2.cell? ⟨B2, 0, none⟩ = some (.pointer (some adE)) := by rw [Lib.cell_of_heap HB2.out]; rfl
 have c3 := (Fr.of_below HW2.out).cells A3.out
 go_wp2_with fail
 go_still_tail 7, (by kernel_rfl)
 go_wp2_with fail
 have h1 : (D ++ x0.text l0 ++ nats (⟨#[32]⟩ ++ sg ++ ⟨#[32]⟩)).length + (x1.text l1).length < 1000000000 := by rw [List.length_append, List.length_append, nats_length, HS.out]; have := HLEN.out; omega
 have HC := H1.out _ _ l1 HW2.out.drew HB.out h1
 clear h1
 refine HC.mono ?_
 clear HC
 rintro e w3 ⟨rfl, hbl, hbw, hbf⟩
 have HB := Lib.hid hbl
 have HWW := Lib.hid (HWW.out.drew.trans hbw)
 have HFF : Hid (BFr b W w3) := HFF.out.trans ⟨hbf.size, hbf.block⟩
 clear hbl hbw hbf c1 c2 c3
 go_wp2_with fail
 go_end0
 refine ⟨rfl, ?_, HWW.out, HFF.out⟩
 have h := HB.out
 simp only [List.append_assoc] at h ⊢
 exact h
end Go.Proofs.YtgklmpooonnmiaaDoor
