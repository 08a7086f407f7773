/-
  Lemmas and contracts that the proofs over this seat use (PolWriteL, PolWriteM); no statement of the seat is claimed in this text, and nothing is assumed in it.
-/
import Derived.Test.YtgklmpooonnmiaaDoorJ34
import Derived.Deep.RegionHeld3
set_option linter.unusedVariables false
set_option linter.unusedSimpArgs false
namespace Go.Proofs.YtgklmpooonnmiaaDoor
open Go.RowKit
theorem bld_fr {B b : Nat} {D : List Nat} {w w' : World} (h : Bld B b D w) (hF : Fr [] w w') : Bld B b D w' := by
 rcases h with ⟨h1, v, h2, h3, h4⟩ | ⟨h1, v, h2, h3, h4⟩
 ·exact Or.inl ⟨h1, v, hF.row h2 (by simp), ownsRow_fr h3 hF, h4⟩
 ·exact Or.inr ⟨h1, v, hF.row h2 (by simp), ownsRow_fr h3 hF, h4⟩
structure WSt (w0 W : World) (b B1 B2 : Nat) (adE : Addr) (D : List Nat) (V : World) : Prop where
 n1 : B1 ≠ b
 n2 : B2 ≠ b
 b1 : V.heap[B1]? = some (.cells #[.pointer (some ⟨b, 0, none⟩)] 104 (0, 0))
 b2 : V.heap[B2]? = some (.cells #[.pointer (some adE)] 129 (0, 0))
 bl : Bld w0.heap.size b D V
 w0V : Below w0.heap.size w0 V
 bw : Below w0.heap.size W V
 bf : BFr b W V
theorem WSt.c1 {w0 W : World} {b B1 B2 : Nat} {adE : Addr} {D : List Nat} {V : World} (h : WSt w0 W b B1 B2 adE D V) : V.cell? ⟨B1, 0, none⟩ = some (.pointer (some ⟨b, 0, none⟩)) := by rw [Lib.cell_of_heap h.b1]; rfl
theorem WSt.c2 {w0 W : World} {b B1 B2 : Nat} {adE : Addr} {D : List Nat} {V : World} (h : WSt w0 W b B1 B2 adE D V) : V.cell? ⟨B2, 0, none⟩ = some (.pointer (some adE)) := by rw [Lib.cell_of_heap h.b2]; rfl
theorem WSt.step {w0 W : World} {b B1 B2 : Nat} {adE : Addr} {D D' : List Nat} {V V' : World} (h : WSt w0 W b B1 B2 adE D V) (hb : Bld w0.heap.size b D' V') (hw : Below w0.heap.size V V') (hf : BFr b V V') : WSt w0 W b B1 B2 adE D' V' :=
 ⟨h.n1, h.n2, hf.row h.b1 h.n1 (by decide), hf.row h.b2 h.n2 (by decide), hb, h.w0V.trans hw, h.bw.trans hw, h.bf.trans hf⟩
theorem WSt.fr {w0 W : World} {b B1 B2 : Nat} {adE : Addr} {D : List Nat} {V V' : World} (h : WSt w0 W b B1 B2 adE D V) (hF : Fr [] V V') : WSt w0 W b B1 B2 adE D V' :=
 h.step (bld_fr h.bl hF) (hF.below.mono h.w0V.size) (BFr.of_fr hF)
theorem WSt.start {w0 W : World} {b : Nat} {adE : Addr} {D : List Nat} (hW : Below w0.heap.size w0 W) (hB : Bld w0.heap.size b D W) :
  WSt w0 W b W.heap.size (W.heap.size + 1) adE D ((W.alloc (.cells #[.pointer (some ⟨b, 0, none⟩)] 104)).alloc (.cells #[.pointer (some adE)] 129)) := by
 have hb : b < W.heap.size := by
  rcases hB with ⟨_, v, h, _⟩ | ⟨_, v, h, _⟩
  ·exact row_lt h
  ·exact row_lt h
 have hF : Fr [] W ((W.alloc (.cells #[.pointer (some ⟨b, 0, none⟩)] 104)).alloc (.cells #[.pointer (some adE)] 129)) := ((Fr.refl _ _).alloc _).alloc _
 refine ⟨by omega, by omega, ?_, ?_, bld_fr hB hF, hW.trans (hF.below.mono hW.size), hF.below.mono hW.size, BFr.of_fr hF⟩
 ·rw [Below.heap_alloc _ _ _ (by simp)]; exact heap_alloc_last _ _
 ·have := heap_alloc_last (W.alloc (.cells #[.pointer (some ⟨b, 0, none⟩)] 104)) (.cells #[.pointer (some adE)] 129)
  simpa using this
theorem WSt.size {w0 W : World} {b B1 B2 : Nat} {adE : Addr} {D : List Nat} {V : World} (h : WSt w0 W b B1 B2 adE D V) : w0.heap.size ≤ V.heap.size := h.w0V.size
set_option maxHeartbeats 1000000 in
set_option maxRecDepth 100000 in
theorem write_4 (w0 W : World) (b : Nat) (adE : Addr) (op : Int) (s : ByteArray) (n p : Int) (q : Option Addr) (L : List Ex) (c : Nat) (D : List Nat) (asked : Int)
  (h5 : Five w0 adE [.int .i64 op, .string s, .int .i64 n, .slice q L.length c, .int .i64 p]) (hW : Below w0.heap.size w0 W) (hB : Bld w0.heap.size b D W) (hl : ¬ Pol.level op < asked)
  (hop : op = 4) (hL : L = []) (hlen : D.length + (Ex.body op s n L).length < 1000000000) :
  Calls Tryd.prog 76 #[.pointer (some ⟨b, 0, none⟩), .pointer (some adE), .int .i64 asked] W fun e w' => e = .returned (.tuple #[]) ∧ Bld w0.heap.size b (D ++ Ex.body op s n L) w' ∧ Below w0.heap.size W w' ∧ BFr b W w' := by
 obtain ⟨v0, v1, v2, v3, v4, hv, a0, a1, a2, a3, a4⟩ := h5
 simp only [List.cons.injEq, and_true] at hv
 obtain ⟨rfl, rfl, rfl, rfl, rfl⟩ := hv
 have HW := Lib.hid hW
 have HB := Lib.hid hB
 clear hW hB a4
 subst hop
 subst hL
 have HE : Hid (Ex.body 4 s n [] = nats s) := rfl
 have h1 : D.length + s.size < 1000000000 := by rw [HE.out, nats_length] at hlen; exact hlen
 have A1 := Lib.hid a1
 clear hlen a2 a3
 have e0 := (Fr.of_below HW.out).cells a0
 have hbl := World.block_lt_of_cell? W _ e0
 go_enter Tryd.func76, Tryd.ntmps76
 go_wp2_with fail
 refine calls_fresh (fun V => WSt w0 W b W.heap.size (W.heap.size + 1) adE D V) (WSt.start HW.out HB.out) ?_
 intro V hV
 have H := Lib.hid hV
 have c1 := hV.c1
 have c2 := hV.c2
 clear e0 hbl
 have e0 := (Fr.of_below hV.w0V).cells a0
 clear hV
 refine (pol_level _ _).mono ?_
 rintro e w1 ⟨rfl, rfl⟩
 have e1 := (Fr.of_below H.out.w0V).cells A1.out
 go_wp2_with fail
 go_still_tail 5, (by kernel_rfl)
 go_wp2_with fail
 have H := Lib.hid (H.out.fr (Fr.refl [] V).drew)
 have HS := Lib.hid H.out.size
 have HC := bld_strF w0.heap.size b D s _ H.out.bl h1 HS.out
 clear h1
 refine HC.mono ?_
 rintro e w1 ⟨rfl, hbl, hbw, hbf⟩
 have H := Lib.hid (H.out.step hbl hbw hbf)
 clear HC hbl hbw hbf c1 c2 e0 e1
 go_wp2_with fail
 go_end0
 refine ⟨rfl, ?_, H.out.bw, H.out.bf⟩
 rw [HE.out]
 exact H.out.bl
end Go.Proofs.YtgklmpooonnmiaaDoor

namespace Go.Proofs.YtgklmpooonnmiaaDoor
open Go.RowKit
set_option maxHeartbeats 1000000 in
set_option maxRecDepth 100000 in
theorem write_1_0 (w0 W : World) (b : Nat) (adE : Addr) (op : Int) (s : ByteArray) (n p : Int) (q : Option Addr) (L : List Ex) (c : Nat) (D : List Nat) (asked : Int)
  (h5 : Five w0 adE [.int .i64 op, .string s, .int .i64 n, .slice q L.length c, .int .i64 p]) (hW : Below w0.heap.size w0 W) (hB : Bld w0.heap.size b D W) (hl : ¬ Pol.level op < asked)
  (hop : op = 1) (hL : L = []) (hn : n = 0) (hlen : D.length + (Ex.body op s n L).length < 1000000000) :
  Calls Tryd.prog 76 #[.pointer (some ⟨b, 0, none⟩), .pointer (some adE), .int .i64 asked] W fun e w' => e = .returned (.tuple #[]) ∧ Bld w0.heap.size b (D ++ Ex.body op s n L) w' ∧ Below w0.heap.size W w' ∧ BFr b W w' := by
 obtain ⟨v0, v1, v2, v3, v4, hv, a0, a1, a2, a3, a4⟩ := h5
 simp only [List.cons.injEq, and_true] at hv
 obtain ⟨rfl, rfl, rfl, rfl, rfl⟩ := hv
 have HW := Lib.hid hW
 have HB := Lib.hid hB
 clear hW hB a4
 subst hop
 subst hL
 subst hn
 have HE : Hid (Ex.body 1 s 0 [] = nats (⟨#[102, 97, 108, 115, 101]⟩ : ByteArray)) := rfl
 have h1 : D.length + ((⟨#[102, 97, 108, 115, 101]⟩ : ByteArray) : ByteArray).size < 1000000000 := by rw [HE.out, nats_length] at hlen; exact hlen
 have i0 : ∀ w, (Instr.index 157 (.agg #[.string ⟨#[102, 97, 108, 115, 101]⟩, .string ⟨#[116, 114, 117, 101]⟩]) (.int .i64 0)).run Tryd.prog w = .ok (.string (⟨#[102, 97, 108, 115, 101]⟩ : ByteArray)) w := fun _ => by kernel_rfl
 have A2 := Lib.hid a2
 clear hlen a1 a3
 have e0 := (Fr.of_below HW.out).cells a0
 have hbl := World.block_lt_of_cell? W _ e0
 go_enter Tryd.func76, Tryd.ntmps76
 go_wp2_with fail
 refine calls_fresh (fun V => WSt w0 W b W.heap.size (W.heap.size + 1) adE D V) (WSt.start HW.out HB.out) ?_
 intro V hV
 have H := Lib.hid hV
 have c1 := hV.c1
 have c2 := hV.c2
 clear e0 hbl
 have e0 := (Fr.of_below hV.w0V).cells a0
 clear hV
 refine (pol_level _ _).mono ?_
 rintro e w1 ⟨rfl, rfl⟩
 have e2 := (Fr.of_below H.out.w0V).cells A2.out
 go_wp2_with fail
 go_still_tail 7, (by kernel_rfl)
 go_wp2_with fail
 have H := Lib.hid (H.out.fr (Fr.refl [] V).drew)
 have HS := Lib.hid H.out.size
 have HC := bld_strF w0.heap.size b D (⟨#[102, 97, 108, 115, 101]⟩ : ByteArray) _ H.out.bl h1 HS.out
 clear h1
 refine HC.mono ?_
 rintro e w1 ⟨rfl, hbl, hbw, hbf⟩
 have H := Lib.hid (H.out.step hbl hbw hbf)
 clear HC hbl hbw hbf c1 c2 e0
 go_wp2_with fail
 go_end0
 refine ⟨rfl, ?_, H.out.bw, H.out.bf⟩
 rw [HE.out]
 exact H.out.bl
set_option maxHeartbeats 1000000 in
set_option maxRecDepth 100000 in
theorem write_1_1 (w0 W : World) (b : Nat) (adE : Addr) (op : Int) (s : ByteArray) (n p : Int) (q : Option Addr) (L : List Ex) (c : Nat) (D : List Nat) (asked : Int)
  (h5 : Five w0 adE [.int .i64 op, .string s, .int .i64 n, .slice q L.length c, .int .i64 p]) (hW : Below w0.heap.size w0 W) (hB : Bld w0.heap.size b D W) (hl : ¬ Pol.level op < asked)
  (hop : op = 1) (hL : L = []) (hn : n = 1) (hlen : D.length + (Ex.body op s n L).length < 1000000000) :
  Calls Tryd.prog 76 #[.pointer (some ⟨b, 0, none⟩), .pointer (some adE), .int .i64 asked] W fun e w' => e = .returned (.tuple #[]) ∧ Bld w0.heap.size b (D ++ Ex.body op s n L) w' ∧ Below w0.heap.size W w' ∧ BFr b W w' := by
 obtain ⟨v0, v1, v2, v3, v4, hv, a0, a1, a2, a3, a4⟩ := h5
 simp only [List.cons.injEq, and_true] at hv
 obtain ⟨rfl, rfl, rfl, rfl, rfl⟩ := hv
 have HW := Lib.hid hW
 have HB := Lib.hid hB
 clear hW hB a4
 subst hop
 subst hL
 subst hn
 have HE : Hid (Ex.body 1 s 1 [] = nats (⟨#[116, 114, 117, 101]⟩ : ByteArray)) := rfl
 have h1 : D.length + ((⟨#[116, 114, 117, 101]⟩ : ByteArray) : ByteArray).size < 1000000000 := by rw [HE.out, nats_length] at hlen; exact hlen
 have i0 : ∀ w, (Instr.index 157 (.agg #[.string ⟨#[102, 97, 108, 115, 101]⟩, .string ⟨#[116, 114, 117, 101]⟩]) (.int .i64 1)).run Tryd.prog w = .ok (.string (⟨#[116, 114, 117, 101]⟩ : ByteArray)) w := fun _ => by kernel_rfl
 have A2 := Lib.hid a2
 clear hlen a1 a3
 have e0 := (Fr.of_below HW.out).cells a0
 have hbl := World.block_lt_of_cell? W _ e0
 go_enter Tryd.func76, Tryd.ntmps76
 go_wp2_with fail
 refine calls_fresh (fun V => WSt w0 W b W.heap.size (W.heap.size + 1) adE D V) (WSt.start HW.out HB.out) ?_
 intro V hV
 have H := Lib.hid hV
 have c1 := hV.c1
 have c2 := hV.c2
 clear e0 hbl
 have e0 := (Fr.of_below hV.w0V).cells a0
 clear hV
 refine (pol_level _ _).mono ?_
 rintro e w1 ⟨rfl, rfl⟩
 have e2 := (Fr.of_below H.out.w0V).cells A2.out
 go_wp2_with fail
 go_still_tail 7, (by kernel_rfl)
 go_wp2_with fail
 have H := Lib.hid (H.out.fr (Fr.refl [] V).drew)
 have HS := Lib.hid H.out.size
 have HC := bld_strF w0.heap.size b D (⟨#[116, 114, 117, 101]⟩ : ByteArray) _ H.out.bl h1 HS.out
 clear h1
 refine HC.mono ?_
 rintro e w1 ⟨rfl, hbl, hbw, hbf⟩
 have H := Lib.hid (H.out.step hbl hbw hbf)
 clear HC hbl hbw hbf c1 c2 e0
 go_wp2_with fail
 go_end0
 refine ⟨rfl, ?_, H.out.bw, H.out.bf⟩
 rw [HE.out]
 exact H.out.bl
set_option maxHeartbeats 1000000 in
set_option maxRecDepth 100000 in
theorem write_2 (w0 W : World) (b : Nat) (adE : Addr) (op : Int) (s : ByteArray) (n p : Int) (q : Option Addr) (L : List Ex) (c : Nat) (D : List Nat) (asked : Int)
  (h5 : Five w0 adE [.int .i64 op, .string s, .int .i64 n, .slice q L.length c, .int .i64 p]) (hW : Below w0.heap.size w0 W) (hB : Bld w0.heap.size b D W) (hl : ¬ Pol.level op < asked)
  (hop : op = 2) (hL : L = []) (hn : -9223372036854775808 ≤ n ∧ n ≤ 9223372036854775807) (hlen : D.length + (Ex.body op s n L).length < 1000000000) :
  Calls Tryd.prog 76 #[.pointer (some ⟨b, 0, none⟩), .pointer (some adE), .int .i64 asked] W fun e w' => e = .returned (.tuple #[]) ∧ Bld w0.heap.size b (D ++ Ex.body op s n L) w' ∧ Below w0.heap.size W w' ∧ BFr b W w' := by
 obtain ⟨v0, v1, v2, v3, v4, hv, a0, a1, a2, a3, a4⟩ := h5
 simp only [List.cons.injEq, and_true] at hv
 obtain ⟨rfl, rfl, rfl, rfl, rfl⟩ := hv
 have HW := Lib.hid hW
 have HB := Lib.hid hB
 clear hW hB a4
 subst hop
 subst hL
 have HE : Hid (Ex.body 2 s n [] = nats (ba (Dec.print n))) := rfl
 have h1 : D.length + (ba (Dec.print n)).size < 1000000000 := by rw [HE.out, nats_length] at hlen; exact hlen
 have HP := Lib.hid (fun W => dec_print W n hn)
 have A2 := Lib.hid a2
 clear hlen a1 a3 hn
 have e0 := (Fr.of_below HW.out).cells a0
 have hbl := World.block_lt_of_cell? W _ e0
 go_enter Tryd.func76, Tryd.ntmps76
 go_wp2_with fail
 refine calls_fresh (fun V => WSt w0 W b W.heap.size (W.heap.size + 1) adE D V) (WSt.start HW.out HB.out) ?_
 intro V hV
 have H := Lib.hid hV
 have c1 := hV.c1
 have c2 := hV.c2
 clear e0 hbl
 have e0 := (Fr.of_below hV.w0V).cells a0
 clear hV
 refine (pol_level _ _).mono ?_
 rintro e w1 ⟨rfl, rfl⟩
 have e2 := (Fr.of_below H.out.w0V).cells A2.out
 go_wp2_with fail
 go_region_held3 (fun W' => W'.cell? ⟨W.heap.size, 0, none⟩ = some (.pointer (some ⟨b, 0, none⟩)) ∧ W'.cell? ⟨W.heap.size + 1, 0, none⟩ = some (.pointer (some adE)) ∧ W'.cell? ⟨adE.block, adE.off + 2, none⟩ = some (.int .i64 n))
  (first | exact ⟨c1, c2, e2⟩ | exact ⟨hF.cells c1, hF.cells c2, hF.cells e2⟩ | exact ⟨(HX.out.step hbl hbw hbf).c1, (HX.out.step hbl hbw hbf).c2, (Fr.of_below (HX.out.step hbl hbw hbf).w0V).cells A2.out⟩)
  (first
   | (go_at_call 28; refine (HP.out _ ).mono ?_; rintro e w1 ⟨rfl, hF⟩)
   | (go_at_call 62; have HX := Lib.hid ((H.out.fr (Fr.refl [] V).drew).fr hF); have HC := bld_strF w0.heap.size b D (ba (Dec.print n)) w1 HX.out.bl h1 HX.out.size; with_reducible refine HC.mono ?_; clear HC; rintro e w2 ⟨rfl, hbl, hbw, hbf⟩))
 have H := Lib.hid (HX.out.step hbl hbw hbf)
 clear HX hbl hbw hbf c1 c2 e0 e2 HP hF h1
 go_wp2_with fail
 go_end0
 refine ⟨rfl, ?_, H.out.bw, H.out.bf⟩
 rw [HE.out]
 exact H.out.bl
set_option maxHeartbeats 1000000 in
set_option maxRecDepth 100000 in
theorem write_3 (w0 W : World) (b : Nat) (adE : Addr) (op : Int) (s : ByteArray) (n p : Int) (q : Option Addr) (L : List Ex) (c : Nat) (D : List Nat) (asked : Int)
  (h5 : Five w0 adE [.int .i64 op, .string s, .int .i64 n, .slice q L.length c, .int .i64 p]) (hW : Below w0.heap.size w0 W) (hB : Bld w0.heap.size b D W) (hl : ¬ Pol.level op < asked)
  (hop : op = 3) (hL : L = []) (hs : s.size ≤ 100000000) (hLe : Least w0) (hlen : D.length + (Ex.body op s n L).length < 1000000000) :
  Calls Tryd.prog 76 #[.pointer (some ⟨b, 0, none⟩), .pointer (some adE), .int .i64 asked] W fun e w' => e = .returned (.tuple #[]) ∧ Bld w0.heap.size b (D ++ Ex.body op s n L) w' ∧ Below w0.heap.size W w' ∧ BFr b W w' := by
 obtain ⟨v0, v1, v2, v3, v4, hv, a0, a1, a2, a3, a4⟩ := h5
 simp only [List.cons.injEq, and_true] at hv
 obtain ⟨rfl, rfl, rfl, rfl, rfl⟩ := hv
 have HW := Lib.hid hW
 have HB := Lib.hid hB
 clear hW hB a4
 subst hop
 subst hL
 have HE : Hid (Ex.body 3 s n [] = nats (qt s)) := rfl
 have h1 : D.length + (qt s).size < 1000000000 := by rw [HE.out, nats_length] at hlen; exact hlen
 have HP : Hid (∀ V, Fr [] w0 V → Calls Tryd.prog 98 #[.string s] V fun e w' => e = .returned (.string (qt s)) ∧ Fr [] V w') := fun V hV => write1 V s hs (hLe.fr hV (by simp))
 have A2 := Lib.hid a1
 clear hlen a1 a2 a3 hs hLe
 have e0 := (Fr.of_below HW.out).cells a0
 have hbl := World.block_lt_of_cell? W _ e0
 go_enter Tryd.func76, Tryd.ntmps76
 go_wp2_with fail
 refine calls_fresh (fun V => WSt w0 W b W.heap.size (W.heap.size + 1) adE D V) (WSt.start HW.out HB.out) ?_
 intro V hV
 have H := Lib.hid hV
 have c1 := hV.c1
 have c2 := hV.c2
 clear e0 hbl
 have e0 := (Fr.of_below hV.w0V).cells a0
 clear hV
 refine (pol_level _ _).mono ?_
 rintro e w1 ⟨rfl, rfl⟩
 have e2 := (Fr.of_below H.out.w0V).cells A2.out
 have HVV := Lib.hid (Fr.of_below H.out.w0V)
 go_wp2_with fail
 go_region_held3 (fun W' => W'.cell? ⟨W.heap.size, 0, none⟩ = some (.pointer (some ⟨b, 0, none⟩)) ∧ W'.cell? ⟨W.heap.size + 1, 0, none⟩ = some (.pointer (some adE)) ∧ W'.cell? ⟨adE.block, adE.off + 1, none⟩ = some (.string s))
  (first | exact ⟨c1, c2, e2⟩ | exact ⟨hF.cells c1, hF.cells c2, hF.cells e2⟩ | exact ⟨(HX.out.step hbl hbw hbf).c1, (HX.out.step hbl hbw hbf).c2, (Fr.of_below (HX.out.step hbl hbw hbf).w0V).cells A2.out⟩)
  (first
   | (go_at_call 98; refine (HP.out _ (by first | exact HVV.out | exact HVV.out.drew)).mono ?_; rintro e w1 ⟨rfl, hF⟩)
   | (go_at_call 62; have HX := Lib.hid ((H.out.fr (Fr.refl [] V).drew).fr hF); have HC := bld_strF w0.heap.size b D (qt s) w1 HX.out.bl h1 HX.out.size; with_reducible refine HC.mono ?_; clear HC; rintro e w2 ⟨rfl, hbl, hbw, hbf⟩))
 have H := Lib.hid (HX.out.step hbl hbw hbf)
 clear HX hbl hbw hbf c1 c2 e0 e2 HP hF h1
 go_wp2_with fail
 go_end0
 refine ⟨rfl, ?_, H.out.bw, H.out.bf⟩
 rw [HE.out]
 exact H.out.bl
set_option maxHeartbeats 1000000 in
set_option maxRecDepth 100000 in
theorem write_5 (w0 W : World) (b : Nat) (adE : Addr) (op : Int) (s : ByteArray) (n p : Int) (q : Option Addr) (L : List Ex) (c : Nat) (D : List Nat) (asked : Int)
  (h5 : Five w0 adE [.int .i64 op, .string s, .int .i64 n, .slice q L.length c, .int .i64 p]) (hW : Below w0.heap.size w0 W) (hB : Bld w0.heap.size b D W) (hl : ¬ Pol.level op < asked)
  (hop : op = 5) (hL : L = []) (hs : s.size ≤ 100000000) (hLe : Least w0) (hlen : D.length + (Ex.body op s n L).length < 1000000000) :
  Calls Tryd.prog 76 #[.pointer (some ⟨b, 0, none⟩), .pointer (some adE), .int .i64 asked] W fun e w' => e = .returned (.tuple #[]) ∧ Bld w0.heap.size b (D ++ Ex.body op s n L) w' ∧ Below w0.heap.size W w' ∧ BFr b W w' := by
 obtain ⟨v0, v1, v2, v3, v4, hv, a0, a1, a2, a3, a4⟩ := h5
 simp only [List.cons.injEq, and_true] at hv
 obtain ⟨rfl, rfl, rfl, rfl, rfl⟩ := hv
 have HW := Lib.hid hW
 have HB := Lib.hid hB
 clear hW hB a4
 subst hop
 subst hL
 have HE : Hid (Ex.body 5 s n [] = nats (⟨#[99, 108, 97, 105, 109, 40]⟩ ++ qt s ++ ⟨#[41]⟩)) := rfl
 have h1 : D.length + (⟨#[99, 108, 97, 105, 109, 40]⟩ ++ qt s ++ ⟨#[41]⟩ : ByteArray).size < 1000000000 := by rw [HE.out, nats_length] at hlen; exact hlen
 have hsz : (qt s).size ≤ 1000000000 := by rw [ByteArray.size_append, ByteArray.size_append] at h1; omega
 have HP : Hid (∀ V, Fr [] w0 V → Calls Tryd.prog 98 #[.string s] V fun e w' => e = .returned (.string (qt s)) ∧ Fr [] V w') := fun V hV => write1 V s hs (hLe.fr hV (by simp))
 have A2 := Lib.hid a1
 have z1 : ¬ 9223372036854775807 < 6 + (qt s).size := by omega
 have z2 : ¬ 9223372036854775807 < 6 + (qt s).size + 1 := by omega
 clear hlen a1 a2 a3 hs hLe
 have e0 := (Fr.of_below HW.out).cells a0
 have hbl := World.block_lt_of_cell? W _ e0
 go_enter Tryd.func76, Tryd.ntmps76
 go_wp2_with fail
 refine calls_fresh (fun V => WSt w0 W b W.heap.size (W.heap.size + 1) adE D V) (WSt.start HW.out HB.out) ?_
 intro V hV
 have H := Lib.hid hV
 have c1 := hV.c1
 have c2 := hV.c2
 clear e0 hbl
 have e0 := (Fr.of_below hV.w0V).cells a0
 clear hV
 refine (pol_level _ _).mono ?_
 rintro e w1 ⟨rfl, rfl⟩
 have e2 := (Fr.of_below H.out.w0V).cells A2.out
 have HVV := Lib.hid (Fr.of_below H.out.w0V)
 go_wp2_with fail
 go_region_held3 (fun W' => W'.cell? ⟨W.heap.size, 0, none⟩ = some (.pointer (some ⟨b, 0, none⟩)) ∧ W'.cell? ⟨W.heap.size + 1, 0, none⟩ = some (.pointer (some adE)) ∧ W'.cell? ⟨adE.block, adE.off + 1, none⟩ = some (.string s))
  (first | exact ⟨c1, c2, e2⟩ | exact ⟨hF.cells c1, hF.cells c2, hF.cells e2⟩ | exact ⟨(HX.out.step hbl hbw hbf).c1, (HX.out.step hbl hbw hbf).c2, (Fr.of_below (HX.out.step hbl hbw hbf).w0V).cells A2.out⟩)
  (first
   | (go_at_call 98; refine (HP.out _ (by first | exact HVV.out | exact HVV.out.drew)).mono ?_; rintro e w1 ⟨rfl, hF⟩)
   | (go_at_call 62; have HX := Lib.hid ((H.out.fr (Fr.refl [] V).drew).fr hF); have HC := bld_strF w0.heap.size b D (⟨#[99, 108, 97, 105, 109, 40]⟩ ++ qt s ++ ⟨#[41]⟩) w1 HX.out.bl h1 HX.out.size; with_reducible refine HC.mono ?_; clear HC; rintro e w2 ⟨rfl, hbl, hbw, hbf⟩))
 have H := Lib.hid (HX.out.step hbl hbw hbf)
 clear HX hbl hbw hbf c1 c2 e0 e2 HP hF h1
 go_wp2_with fail
 go_end0
 refine ⟨rfl, ?_, H.out.bw, H.out.bf⟩
 rw [HE.out]
 exact H.out.bl
end Go.Proofs.YtgklmpooonnmiaaDoor
