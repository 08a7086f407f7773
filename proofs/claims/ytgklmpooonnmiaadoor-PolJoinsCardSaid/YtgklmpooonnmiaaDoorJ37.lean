/-
  Lemmas and contracts that the proofs over this seat use (PolWriteQ, PolQuoted); no statement of the seat is claimed in this text, and nothing is assumed in it.
-/
import Derived.Test.YtgklmpooonnmiaaDoorJ36
import Derived.Test.YtgklmpooonnmiaaDoorJ13
import Derived.Test.YtgklmpooonnmiaaDoorJ4
set_option linter.unusedVariables false
set_option linter.unusedSimpArgs false
namespace Go.Proofs.YtgklmpooonnmiaaDoor
open Go.RowKit
theorem Ex.ins_mono (r : List Ex) (j : Nat) : ∀ k, j ≤ k → k ≤ r.length → (Ex.ins (r.take j)).length ≤ (Ex.ins (r.take k)).length := by
 intro k
 induction k with
 | zero =>
  intro h _
  have e : j = 0 := by omega
  subst e
  exact Nat.le_refl _
 | succ k ih =>
  intro h hk
  by_cases e : j = k + 1
  ·rw [e]; exact Nat.le_refl _
  ·have h1 := ih (by omega) (by omega)
   rw [Ex.ins_take (List.getElem?_eq_getElem (show k < r.length by omega)), List.length_append]
   omega
def insSign (k : Nat) : ByteArray := if k = 0 then ⟨#[32, 105, 110, 32, 91]⟩ else ⟨#[44, 32]⟩
theorem insSign_size (k : Nat) : (insSign k).size ≤ 5 := by unfold insSign; split <;> decide
theorem insSign_nats (k : Nat) : nats (insSign k) = if k = 0 then [32, 105, 110, 32, 91] else [44, 32] := by unfold insSign; split <;> rfl
set_option maxHeartbeats 1000000 in
set_option maxRecDepth 100000 in
theorem write_13 (w0 W : World) (b : Nat) (adE ad : Addr) (op : Int) (s : ByteArray) (n p : Int) (q : Option Addr) (x : Ex) (r L : List Ex) (c : Nat) (D : List Nat) (asked : Int)
  (h5 : Five w0 adE [.int .i64 op, .string s, .int .i64 n, .slice q L.length c, .int .i64 p]) (hW : Below w0.heap.size w0 W) (hB : Bld w0.heap.size b D W) (hl : ¬ Pol.level op < asked)
  (hop : op = 13) (hL : L = x :: r) (hr : 1 ≤ r.length) (hc : L.length ≤ c) (hm : c ≤ maxLen) (hq : q = some ad) (h0 : Writes w0 b x ad) (hy : ∀ i y, r[i]? = some y → Writes w0 b y (ad.add ((i + 1) * 5))) (hlen : D.length + (Ex.body op s n L).length < 1000000000) :
  Calls Tryd.prog 76 #[.pointer (some ⟨b, 0, none⟩), .pointer (some adE), .int .i64 asked] W fun e w' => e = .returned (.tuple #[]) ∧ Bld w0.heap.size b (D ++ Ex.body op s n L) w' ∧ Below w0.heap.size W w' ∧ BFr b W w' := by
 obtain ⟨v0, v1, v2, v3, v4, hv, a0, a1, a2, a3, a4⟩ := h5
 simp only [List.cons.injEq, and_true] at hv
 obtain ⟨rfl, rfl, rfl, rfl, rfl⟩ := hv
 have HW := Lib.hid hW
 have HB := Lib.hid hB
 clear hW hB
 subst hop
 subst hq
 have HE : Hid (Ex.body 13 s n L = Ex.text x 5 ++ (Ex.ins r ++ [93])) := by
  show _ = _
  rw [hL]
  cases r with
  | nil => simp at hr
  | cons y r => exact Ex.body_in s n x y r
 have h2 : D.length + (Ex.text x 5).length + (Ex.ins r).length + 1 < 1000000000 := by rw [HE.out, List.length_append, List.length_append] at hlen; simp only [List.length_cons, List.length_nil] at hlen; omega
 have hLl : L.length = r.length + 1 := by rw [hL]; rfl
 have A3 := Lib.hid a3
 have H0 := Lib.hid h0
 have HY := Lib.hid hy
 have HLEN := Lib.hid h2
 have HLL := Lib.hid hLl
 have k0 : 0 < L.length := by omega
 have k1 : (1 : Int) ≤ (L.length : Int) := by omega
 have k2 : L.length ≤ c := hc
 have k3 : c ≤ 9223372036854775807 := by unfold maxLen at hm; omega
 have k4 : ¬ c = 1 := by omega
 clear hlen a1 a2 a3 a4 h0 h2 hy hLl hm hL hr hc
 have e0 := (Fr.of_below HW.out).cells a0
 have hbl := World.block_lt_of_cell? W _ e0
 go_enter Tryd.func76, Tryd.ntmps76
 go_wp2_with fail
 refine calls_fresh (fun V => WSt w0 W b W.heap.size (W.heap.size + 1) adE D V) (WSt.start HW.out HB.out) ?_
 intro V hV
 have H := Lib.hid hV
 have c1 := hV.c1
 have c2 := hV.c2
 clear e0 hbl
 have e0 := (Fr.of_below hV.w0V).cells a0
 clear hV
 refine (pol_level _ _).mono ?_
 rintro e w1 ⟨rfl, rfl⟩
 have e3 := (Fr.of_below H.out.w0V).cells A3.out
 go_wp2_with fail
 go_still_tail 6, (by kernel_rfl)
 go_wp2_with fail
 have H := Lib.hid (H.out.fr (Fr.refl [] V).drew)
 have h1 : D.length + (Ex.text x 5).length < 1000000000 := by have := HLEN.out; omega
 have HC := H0.out _ _ 5 H.out.w0V H.out.bl h1
 clear h1
 refine HC.mono ?_
 rintro e w1 ⟨rfl, hbl, hbw, hbf⟩
 have H := Lib.hid (H.out.step hbl hbw hbf)
 clear HC hbl hbw hbf c1 c2 e0 e3 H0
 have c1 := H.out.c1
 have c2 := H.out.c2
 have e3 := (Fr.of_below H.out.w0V).cells A3.out
 go_wp2_with fail
 go_loopg [8, 9, 120] r.length (fun m s8 s9 s120 Wx => ∃ (k : Nat) (S : ByteArray), k ≤ r.length ∧ m = r.length - k ∧ s120 = .int .i64 k ∧ s8 = .string S ∧ Hid (S = insSign k) ∧ Hid (WSt w0 W b W.heap.size (W.heap.size + 1) adE (D ++ (Ex.text x 5 ++ Ex.ins (r.take k))) Wx))
 case atStart => exact ⟨0, insSign 0, by omega, by omega, rfl, rfl, rfl, by
  have h := H.out
  show WSt _ _ _ _ _ _ _ _
  rw [List.take_zero, Ex.ins, List.append_nil]
  exact h⟩
 case round =>
  obtain ⟨k, S, hk, hm, rfl, rfl, HS, H⟩ := hrel
  have HM := Lib.hid hm
  have c1 := H.out.c1
  have c2 := H.out.c2
  have e3 := (Fr.of_below H.out.w0V).cells A3.out
  clear hm
  by_cases hlt : k < r.length
  ·have hlt' : (k : Int) < ((L.length - 1 : Nat) : Int) := by have := HLL.out; omega
   obtain ⟨y, hx⟩ : ∃ y, r[k]? = some y := ⟨_, List.getElem?_eq_getElem hlt⟩
   have HW' := Lib.hid (HY.out k y hx)
   have HT := Lib.hid (Ex.ins_take hx)
   have HMO := Lib.hid (Ex.ins_mono r (k + 1) r.length (by omega) (Nat.le_refl _))
   have HZ : Hid (S.size ≤ 5) := by show S.size ≤ 5; rw [HS.out]; exact insSign_size k
   have i0 : (0 : Int) ≤ 1 + (k : Int) := by omega
   have i1 : 1 + (k : Int) < (L.length : Int) := by have := HLL.out; omega
   have i2 : (1 + (k : Int)).toNat = k + 1 := by omega
   have i3 : IntKind.i64.wrap (1 + (k : Int)) = 1 + (k : Int) := IntWalk.i64_in _ (by omega)
   have HZS : Hid (H.out.size = H.out.size) := rfl
   clear hx HZS
   go_wp2_with fail
   have HSZ := Lib.hid H.out.size
   have hLN : (Ex.ins (r.take (k + 1))).length = (Ex.ins (r.take k)).length + S.size + (Ex.text y 5).length := by
    rw [HT.out, List.length_append, List.length_append, HS.out, ← nats_length, insSign_nats]; omega
   have hLM : (Ex.ins (r.take (k + 1))).length ≤ (Ex.ins r).length := by have := HMO.out; rwa [List.take_length] at this
   have hLE := HLEN.out
   have h1 : (D ++ (Ex.text x 5 ++ Ex.ins (r.take k))).length + S.size < 1000000000 := by
    rw [List.length_append, List.length_append]; omega
   have h3 : (D ++ (Ex.text x 5 ++ Ex.ins (r.take k)) ++ nats S).length + (Ex.text y 5).length < 1000000000 := by
    rw [List.length_append, nats_length, List.length_append, List.length_append]; omega
   have H3 := Lib.hid h3
   have HC := bld_strF w0.heap.size b _ S _ H.out.bl h1 HSZ.out
   clear h1 h3 hLN hLM hLE
   refine HC.mono ?_
   rintro e w2 ⟨rfl, hbl, hbw, hbf⟩
   have H := Lib.hid (H.out.step hbl hbw hbf)
   clear HC hbl hbw hbf c1 c2 e3
   have c1 := H.out.c1
   have c2 := H.out.c2
   have e3 := (Fr.of_below H.out.w0V).cells A3.out
   go_wp2_with fail
   go_still_tail 8, (by kernel_rfl)
   go_wp2_with fail
   have H := Lib.hid (H.out.fr (Fr.refl [] w2).drew)
   have HC := HW'.out _ _ 5 H.out.w0V H.out.bl H3.out
   refine HC.mono ?_
   rintro e w3 ⟨rfl, hbl, hbw, hbf⟩
   have H := Lib.hid (H.out.step hbl hbw hbf)
   clear HC hbl hbw hbf c1 c2 e3
   go_wp2_with fail
   go_roundg (r.length - (k + 1))
   case measure => have := HM.out; omega
   case rel => exact ⟨k + 1, ⟨#[44, 32]⟩, by omega, rfl, by go_num, rfl, by show _ = insSign (k + 1); rw [insSign, if_neg (by omega)], by
    have h := H.out
    show WSt _ _ _ _ _ _ _ _
    rw [HT.out, ← insSign_nats, ← HS.out]
    simp only [List.append_assoc] at h ⊢
    exact h⟩
  ·have hlt' : ¬ (k : Int) < ((L.length - 1 : Nat) : Int) := by have := HLL.out; omega
   have hke : k = r.length := by omega
   go_wp2_with fail
   have HSZ := Lib.hid H.out.size
   have h1 : (D ++ (Ex.text x 5 ++ Ex.ins (r.take k))).length < 1000000000 := by
    rw [List.length_append, List.length_append, hke, List.take_length]; have := HLEN.out; omega
   have HC := bld_byteF w0.heap.size b _ 93 _ H.out.bl h1 HSZ.out
   clear h1
   refine HC.mono ?_
   rintro e w2 ⟨rfl, hbl, hbw, hbf⟩
   have H := Lib.hid (H.out.step hbl hbw hbf)
   clear HC hbl hbw hbf c1 c2 e3
   go_wp2_with fail
   go_end0
   refine ⟨rfl, ?_, H.out.bw, H.out.bf⟩
   rw [HE.out]
   have h := H.out.bl
   rw [hke, List.take_length] at h
   simp only [List.append_assoc] at h
   exact h
end Go.Proofs.YtgklmpooonnmiaaDoor

namespace Go.Proofs.YtgklmpooonnmiaaDoor
open Go.RowKit
set_option maxHeartbeats 4000000 in
set_option maxRecDepth 100000 in
theorem pol_quoted (w : World) (s : ByteArray) (hs : s.size ≤ 100000000) (hL : Least w) : Calls Tryd.prog 95 #[.string s] w fun e w' => e = .returned (.bool (Lex.quote s).isSome) ∧ Fr [] w w' := by
 have HQ := Lib.hid (lex_quote w s hs hL)
 clear hL
 go_enter Tryd.func95, Tryd.ntmps95
 go_wp2_with fail
 refine HQ.out.mono ?_
 rintro e w1 ⟨rfl, hF⟩
 have HF := Lib.hid hF
 clear hF
 show _
 go_wp2_with fail
 refine bodyPost_ret (results_tmp rfl _ _ _) rfl ?_
 exact ⟨rfl, HF.out⟩
end Go.Proofs.YtgklmpooonnmiaaDoor
