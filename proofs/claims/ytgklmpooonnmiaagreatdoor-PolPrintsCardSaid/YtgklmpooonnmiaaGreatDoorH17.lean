/-
  Lemmas and contracts that the proofs over this seat use (PolWriteO, PolWriteQ, PolWrite, PolPrintP); no statement of the seat is claimed in this text, and nothing is assumed in it.
-/
import Derived.Test.YtgklmpooonnmiaaGreatDoorH16
import Derived.Test.YtgklmpooonnmiaaGreatDoorH14
import Derived.Test.YtgklmpooonnmiaaGreatDoorH4
set_option linter.unusedVariables false
set_option linter.unusedSimpArgs false
namespace Go.Proofs.YtgklmpooonnmiaaGreatDoor
open Go.RowKit
set_option maxHeartbeats 1000000 in
set_option maxRecDepth 100000 in
theorem write_9 (w0 W : World) (b : Nat) (adE ad : Addr) (op : Int) (s : ByteArray) (n p : Int) (q : Option Addr) (x y : Ex) (L : List Ex) (c : Nat) (D : List Nat) (asked : Int)
  (h5 : Five w0 adE [.int .i64 op, .string s, .int .i64 n, .slice q L.length c, .int .i64 p]) (hW : Below w0.heap.size w0 W) (hB : Bld w0.heap.size b D W) (hl : ¬ Pol.level op < asked)
  (hop : op = 9) (hL : L = [x, y]) (hq : q = some ad) (h0 : Writes w0 b x ad) (hy : Writes w0 b y (ad.add 5)) (hlen : D.length + (Ex.body op s n L).length < 1000000000) :
  Calls Tryz.prog 30 #[.pointer (some ⟨b, 0, none⟩), .pointer (some adE), .int .i64 asked] W fun e w' => e = .returned (.tuple #[]) ∧ Bld w0.heap.size b (D ++ Ex.body op s n L) w' ∧ Below w0.heap.size W w' ∧ BFr b W w' := by
 obtain ⟨v0, v1, v2, v3, v4, hv, a0, a1, a2, a3, a4⟩ := h5
 simp only [List.cons.injEq, and_true] at hv
 obtain ⟨rfl, rfl, rfl, rfl, rfl⟩ := hv
 have HW := Lib.hid hW
 have HB := Lib.hid hB
 clear hW hB
 subst hop
 subst hL
 subst hq
 have HE : Hid (Ex.body 9 s n [x, y] = Ex.text x 5 ++ (nats (⟨#[32]⟩ ++ ⟨#[61]⟩ ++ ⟨#[32]⟩) ++ Ex.text y 5)) := Ex.body_two s n x y (by decide) (by decide)
 have hz : (⟨#[32]⟩ ++ ⟨#[61]⟩ ++ ⟨#[32]⟩ : ByteArray).size = (⟨#[61]⟩ : ByteArray).size + 2 := rfl
 have h2 : D.length + (Ex.text x 5).length + ((⟨#[61]⟩ : ByteArray).size + 2) + (Ex.text y 5).length < 1000000000 := by rw [HE.out, List.length_append, List.length_append, nats_length, hz] at hlen; omega
 have H5 : Hid (Five w0 adE [.int .i64 9, .string s, .int .i64 n, .slice (some ad) 2 c, .int .i64 p]) := ⟨_, _, _, _, _, rfl, a0, a1, a2, a3, by assumption⟩
 have H0 := Lib.hid h0
 have HY := Lib.hid hy
 have HLEN := Lib.hid h2
 clear hlen a1 a2 a3 h0 h2 hy hz
 have hmf : ∀ fn first cap w, (Instr.makeFunc fn first cap).run Tryz.prog w = .ok (.func fn first cap) w := fun _ _ _ _ => rfl
 have i0 : ∀ w, (Instr.index 123 (.agg #[.string ⟨#[]⟩, .string ⟨#[]⟩, .string ⟨#[]⟩, .string ⟨#[]⟩, .string ⟨#[]⟩, .string ⟨#[]⟩, .string ⟨#[]⟩, .string ⟨#[]⟩, .string ⟨#[]⟩, .string ⟨#[61]⟩, .string ⟨#[33, 61]⟩, .string ⟨#[60]⟩, .string ⟨#[60, 61]⟩, .string ⟨#[]⟩, .string ⟨#[104, 97, 115]⟩]) (.int .i64 9)).run Tryz.prog w = .ok (.string ⟨#[61]⟩) w := fun _ => by kernel_rfl
 have e0 := (Fr.of_below HW.out).cells a0
 have hbl := World.block_lt_of_cell? W _ e0
 go_enter Tryz.func30, Tryz.ntmps30
 go_wp2_with fail
 refine calls_fresh (fun V => WSt w0 W b W.heap.size (W.heap.size + 1) adE D V) (WSt.start HW.out HB.out) ?_
 intro V hV
 have H := Lib.hid hV
 have c1 := hV.c1
 have c2 := hV.c2
 clear e0 hbl
 have e0 := (Fr.of_below hV.w0V).cells a0
 clear hV
 refine (pol_level _ _).mono ?_
 rintro e w1 ⟨rfl, rfl⟩
 go_wp2_with fail
 skip
 have HC := write_two w0 _ b W.heap.size (W.heap.size + 1) adE ad 9 s n p 2 c x y ⟨#[61]⟩ 5 5 D H.out.b1 H.out.b2 H.out.n1 H.out.n2 H5.out (by omega) (by omega) H.out.w0V H.out.bl H0.out HY.out HLEN.out
 refine HC.mono ?_
 rintro e w1 ⟨rfl, hbl, hbw, hbf⟩
 have H := Lib.hid (H.out.step hbl hbw hbf)
 clear HC hbl hbw hbf c1 c2 e0
 go_wp2_with fail
 go_end0
 refine ⟨rfl, ?_, H.out.bw, H.out.bf⟩
 rw [HE.out]
 exact H.out.bl
set_option maxHeartbeats 1000000 in
set_option maxRecDepth 100000 in
theorem write_10 (w0 W : World) (b : Nat) (adE ad : Addr) (op : Int) (s : ByteArray) (n p : Int) (q : Option Addr) (x y : Ex) (L : List Ex) (c : Nat) (D : List Nat) (asked : Int)
  (h5 : Five w0 adE [.int .i64 op, .string s, .int .i64 n, .slice q L.length c, .int .i64 p]) (hW : Below w0.heap.size w0 W) (hB : Bld w0.heap.size b D W) (hl : ¬ Pol.level op < asked)
  (hop : op = 10) (hL : L = [x, y]) (hq : q = some ad) (h0 : Writes w0 b x ad) (hy : Writes w0 b y (ad.add 5)) (hlen : D.length + (Ex.body op s n L).length < 1000000000) :
  Calls Tryz.prog 30 #[.pointer (some ⟨b, 0, none⟩), .pointer (some adE), .int .i64 asked] W fun e w' => e = .returned (.tuple #[]) ∧ Bld w0.heap.size b (D ++ Ex.body op s n L) w' ∧ Below w0.heap.size W w' ∧ BFr b W w' := by
 obtain ⟨v0, v1, v2, v3, v4, hv, a0, a1, a2, a3, a4⟩ := h5
 simp only [List.cons.injEq, and_true] at hv
 obtain ⟨rfl, rfl, rfl, rfl, rfl⟩ := hv
 have HW := Lib.hid hW
 have HB := Lib.hid hB
 clear hW hB
 subst hop
 subst hL
 subst hq
 have HE : Hid (Ex.body 10 s n [x, y] = Ex.text x 5 ++ (nats (⟨#[32]⟩ ++ ⟨#[33, 61]⟩ ++ ⟨#[32]⟩) ++ Ex.text y 5)) := Ex.body_two s n x y (by decide) (by decide)
 have hz : (⟨#[32]⟩ ++ ⟨#[33, 61]⟩ ++ ⟨#[32]⟩ : ByteArray).size = (⟨#[33, 61]⟩ : ByteArray).size + 2 := rfl
 have h2 : D.length + (Ex.text x 5).length + ((⟨#[33, 61]⟩ : ByteArray).size + 2) + (Ex.text y 5).length < 1000000000 := by rw [HE.out, List.length_append, List.length_append, nats_length, hz] at hlen; omega
 have H5 : Hid (Five w0 adE [.int .i64 10, .string s, .int .i64 n, .slice (some ad) 2 c, .int .i64 p]) := ⟨_, _, _, _, _, rfl, a0, a1, a2, a3, by assumption⟩
 have H0 := Lib.hid h0
 have HY := Lib.hid hy
 have HLEN := Lib.hid h2
 clear hlen a1 a2 a3 h0 h2 hy hz
 have hmf : ∀ fn first cap w, (Instr.makeFunc fn first cap).run Tryz.prog w = .ok (.func fn first cap) w := fun _ _ _ _ => rfl
 have i0 : ∀ w, (Instr.index 123 (.agg #[.string ⟨#[]⟩, .string ⟨#[]⟩, .string ⟨#[]⟩, .string ⟨#[]⟩, .string ⟨#[]⟩, .string ⟨#[]⟩, .string ⟨#[]⟩, .string ⟨#[]⟩, .string ⟨#[]⟩, .string ⟨#[61]⟩, .string ⟨#[33, 61]⟩, .string ⟨#[60]⟩, .string ⟨#[60, 61]⟩, .string ⟨#[]⟩, .string ⟨#[104, 97, 115]⟩]) (.int .i64 10)).run Tryz.prog w = .ok (.string ⟨#[33, 61]⟩) w := fun _ => by kernel_rfl
 have e0 := (Fr.of_below HW.out).cells a0
 have hbl := World.block_lt_of_cell? W _ e0
 go_enter Tryz.func30, Tryz.ntmps30
 go_wp2_with fail
 refine calls_fresh (fun V => WSt w0 W b W.heap.size (W.heap.size + 1) adE D V) (WSt.start HW.out HB.out) ?_
 intro V hV
 have H := Lib.hid hV
 have c1 := hV.c1
 have c2 := hV.c2
 clear e0 hbl
 have e0 := (Fr.of_below hV.w0V).cells a0
 clear hV
 refine (pol_level _ _).mono ?_
 rintro e w1 ⟨rfl, rfl⟩
 go_wp2_with fail
 skip
 have HC := write_two w0 _ b W.heap.size (W.heap.size + 1) adE ad 10 s n p 2 c x y ⟨#[33, 61]⟩ 5 5 D H.out.b1 H.out.b2 H.out.n1 H.out.n2 H5.out (by omega) (by omega) H.out.w0V H.out.bl H0.out HY.out HLEN.out
 refine HC.mono ?_
 rintro e w1 ⟨rfl, hbl, hbw, hbf⟩
 have H := Lib.hid (H.out.step hbl hbw hbf)
 clear HC hbl hbw hbf c1 c2 e0
 go_wp2_with fail
 go_end0
 refine ⟨rfl, ?_, H.out.bw, H.out.bf⟩
 rw [HE.out]
 exact H.out.bl
set_option maxHeartbeats 1000000 in
set_option maxRecDepth 100000 in
theorem write_11 (w0 W : World) (b : Nat) (adE ad : Addr) (op : Int) (s : ByteArray) (n p : Int) (q : Option Addr) (x y : Ex) (L : List Ex) (c : Nat) (D : List Nat) (asked : Int)
  (h5 : Five w0 adE [.int .i64 op, .string s, .int .i64 n, .slice q L.length c, .int .i64 p]) (hW : Below w0.heap.size w0 W) (hB : Bld w0.heap.size b D W) (hl : ¬ Pol.level op < asked)
  (hop : op = 11) (hL : L = [x, y]) (hq : q = some ad) (h0 : Writes w0 b x ad) (hy : Writes w0 b y (ad.add 5)) (hlen : D.length + (Ex.body op s n L).length < 1000000000) :
  Calls Tryz.prog 30 #[.pointer (some ⟨b, 0, none⟩), .pointer (some adE), .int .i64 asked] W fun e w' => e = .returned (.tuple #[]) ∧ Bld w0.heap.size b (D ++ Ex.body op s n L) w' ∧ Below w0.heap.size W w' ∧ BFr b W w' := by
 obtain ⟨v0, v1, v2, v3, v4, hv, a0, a1, a2, a3, a4⟩ := h5
 simp only [List.cons.injEq, and_true] at hv
 obtain ⟨rfl, rfl, rfl, rfl, rfl⟩ := hv
 have HW := Lib.hid hW
 have HB := Lib.hid hB
 clear hW hB
 subst hop
 subst hL
 subst hq
 have HE : Hid (Ex.body 11 s n [x, y] = Ex.text x 5 ++ (nats (⟨#[32]⟩ ++ ⟨#[60]⟩ ++ ⟨#[32]⟩) ++ Ex.text y 5)) := Ex.body_two s n x y (by decide) (by decide)
 have hz : (⟨#[32]⟩ ++ ⟨#[60]⟩ ++ ⟨#[32]⟩ : ByteArray).size = (⟨#[60]⟩ : ByteArray).size + 2 := rfl
 have h2 : D.length + (Ex.text x 5).length + ((⟨#[60]⟩ : ByteArray).size + 2) + (Ex.text y 5).length < 1000000000 := by rw [HE.out, List.length_append, List.length_append, nats_length, hz] at hlen; omega
 have H5 : Hid (Five w0 adE [.int .i64 11, .string s, .int .i64 n, .slice (some ad) 2 c, .int .i64 p]) := ⟨_, _, _, _, _, rfl, a0, a1, a2, a3, by assumption⟩
 have H0 := Lib.hid h0
 have HY := Lib.hid hy
 have HLEN := Lib.hid h2
 clear hlen a1 a2 a3 h0 h2 hy hz
 have hmf : ∀ fn first cap w, (Instr.makeFunc fn first cap).run Tryz.prog w = .ok (.func fn first cap) w := fun _ _ _ _ => rfl
 have i0 : ∀ w, (Instr.index 123 (.agg #[.string ⟨#[]⟩, .string ⟨#[]⟩, .string ⟨#[]⟩, .string ⟨#[]⟩, .string ⟨#[]⟩, .string ⟨#[]⟩, .string ⟨#[]⟩, .string ⟨#[]⟩, .string ⟨#[]⟩, .string ⟨#[61]⟩, .string ⟨#[33, 61]⟩, .string ⟨#[60]⟩, .string ⟨#[60, 61]⟩, .string ⟨#[]⟩, .string ⟨#[104, 97, 115]⟩]) (.int .i64 11)).run Tryz.prog w = .ok (.string ⟨#[60]⟩) w := fun _ => by kernel_rfl
 have e0 := (Fr.of_below HW.out).cells a0
 have hbl := World.block_lt_of_cell? W _ e0
 go_enter Tryz.func30, Tryz.ntmps30
 go_wp2_with fail
 refine calls_fresh (fun V => WSt w0 W b W.heap.size (W.heap.size + 1) adE D V) (WSt.start HW.out HB.out) ?_
 intro V hV
 have H := Lib.hid hV
 have c1 := hV.c1
 have c2 := hV.c2
 clear e0 hbl
 have e0 := (Fr.of_below hV.w0V).cells a0
 clear hV
 refine (pol_level _ _).mono ?_
 rintro e w1 ⟨rfl, rfl⟩
 go_wp2_with fail
 skip
 have HC := write_two w0 _ b W.heap.size (W.heap.size + 1) adE ad 11 s n p 2 c x y ⟨#[60]⟩ 5 5 D H.out.b1 H.out.b2 H.out.n1 H.out.n2 H5.out (by omega) (by omega) H.out.w0V H.out.bl H0.out HY.out HLEN.out
 refine HC.mono ?_
 rintro e w1 ⟨rfl, hbl, hbw, hbf⟩
 have H := Lib.hid (H.out.step hbl hbw hbf)
 clear HC hbl hbw hbf c1 c2 e0
 go_wp2_with fail
 go_end0
 refine ⟨rfl, ?_, H.out.bw, H.out.bf⟩
 rw [HE.out]
 exact H.out.bl
set_option maxHeartbeats 1000000 in
set_option maxRecDepth 100000 in
theorem write_12 (w0 W : World) (b : Nat) (adE ad : Addr) (op : Int) (s : ByteArray) (n p : Int) (q : Option Addr) (x y : Ex) (L : List Ex) (c : Nat) (D : List Nat) (asked : Int)
  (h5 : Five w0 adE [.int .i64 op, .string s, .int .i64 n, .slice q L.length c, .int .i64 p]) (hW : Below w0.heap.size w0 W) (hB : Bld w0.heap.size b D W) (hl : ¬ Pol.level op < asked)
  (hop : op = 12) (hL : L = [x, y]) (hq : q = some ad) (h0 : Writes w0 b x ad) (hy : Writes w0 b y (ad.add 5)) (hlen : D.length + (Ex.body op s n L).length < 1000000000) :
  Calls Tryz.prog 30 #[.pointer (some ⟨b, 0, none⟩), .pointer (some adE), .int .i64 asked] W fun e w' => e = .returned (.tuple #[]) ∧ Bld w0.heap.size b (D ++ Ex.body op s n L) w' ∧ Below w0.heap.size W w' ∧ BFr b W w' := by
 obtain ⟨v0, v1, v2, v3, v4, hv, a0, a1, a2, a3, a4⟩ := h5
 simp only [List.cons.injEq, and_true] at hv
 obtain ⟨rfl, rfl, rfl, rfl, rfl⟩ := hv
 have HW := Lib.hid hW
 have HB := Lib.hid hB
 clear hW hB
 subst hop
 subst hL
 subst hq
 have HE : Hid (Ex.body 12 s n [x, y] = Ex.text x 5 ++ (nats (⟨#[32]⟩ ++ ⟨#[60, 61]⟩ ++ ⟨#[32]⟩) ++ Ex.text y 5)) := Ex.body_two s n x y (by decide) (by decide)
 have hz : (⟨#[32]⟩ ++ ⟨#[60, 61]⟩ ++ ⟨#[32]⟩ : ByteArray).size = (⟨#[60, 61]⟩ : ByteArray).size + 2 := rfl
 have h2 : D.length + (Ex.text x 5).length + ((⟨#[60, 61]⟩ : ByteArray).size + 2) + (Ex.text y 5).length < 1000000000 := by rw [HE.out, List.length_append, List.length_append, nats_length, hz] at hlen; omega
 have H5 : Hid (Five w0 adE [.int .i64 12, .string s, .int .i64 n, .slice (some ad) 2 c, .int .i64 p]) := ⟨_, _, _, _, _, rfl, a0, a1, a2, a3, by assumption⟩
 have H0 := Lib.hid h0
 have HY := Lib.hid hy
 have HLEN := Lib.hid h2
 clear hlen a1 a2 a3 h0 h2 hy hz
 have hmf : ∀ fn first cap w, (Instr.makeFunc fn first cap).run Tryz.prog w = .ok (.func fn first cap) w := fun _ _ _ _ => rfl
 have i0 : ∀ w, (Instr.index 123 (.agg #[.string ⟨#[]⟩, .string ⟨#[]⟩, .string ⟨#[]⟩, .string ⟨#[]⟩, .string ⟨#[]⟩, .string ⟨#[]⟩, .string ⟨#[]⟩, .string ⟨#[]⟩, .string ⟨#[]⟩, .string ⟨#[61]⟩, .string ⟨#[33, 61]⟩, .string ⟨#[60]⟩, .string ⟨#[60, 61]⟩, .string ⟨#[]⟩, .string ⟨#[104, 97, 115]⟩]) (.int .i64 12)).run Tryz.prog w = .ok (.string ⟨#[60, 61]⟩) w := fun _ => by kernel_rfl
 have e0 := (Fr.of_below HW.out).cells a0
 have hbl := World.block_lt_of_cell? W _ e0
 go_enter Tryz.func30, Tryz.ntmps30
 go_wp2_with fail
 refine calls_fresh (fun V => WSt w0 W b W.heap.size (W.heap.size + 1) adE D V) (WSt.start HW.out HB.out) ?_
 intro V hV
 have H := Lib.hid hV
 have c1 := hV.c1
 have c2 := hV.c2
 clear e0 hbl
 have e0 := (Fr.of_below hV.w0V).cells a0
 clear hV
 refine (pol_level _ _).mono ?_
 rintro e w1 ⟨rfl, rfl⟩
 go_wp2_with fail
 skip
 have HC := write_two w0 _ b W.heap.size (W.heap.size + 1) adE ad 12 s n p 2 c x y ⟨#[60, 61]⟩ 5 5 D H.out.b1 H.out.b2 H.out.n1 H.out.n2 H5.out (by omega) (by omega) H.out.w0V H.out.bl H0.out HY.out HLEN.out
 refine HC.mono ?_
 rintro e w1 ⟨rfl, hbl, hbw, hbf⟩
 have H := Lib.hid (H.out.step hbl hbw hbf)
 clear HC hbl hbw hbf c1 c2 e0
 go_wp2_with fail
 go_end0
 refine ⟨rfl, ?_, H.out.bw, H.out.bf⟩
 rw [HE.out]
 exact H.out.bl
set_option maxHeartbeats 1000000 in
set_option maxRecDepth 100000 in
theorem write_14 (w0 W : World) (b : Nat) (adE ad : Addr) (op : Int) (s : ByteArray) (n p : Int) (q : Option Addr) (x y : Ex) (L : List Ex) (c : Nat) (D : List Nat) (asked : Int)
  (h5 : Five w0 adE [.int .i64 op, .string s, .int .i64 n, .slice q L.length c, .int .i64 p]) (hW : Below w0.heap.size w0 W) (hB : Bld w0.heap.size b D W) (hl : ¬ Pol.level op < asked)
  (hop : op = 14) (hL : L = [x, y]) (hq : q = some ad) (h0 : Writes w0 b x ad) (hy : Writes w0 b y (ad.add 5)) (hlen : D.length + (Ex.body op s n L).length < 1000000000) :
  Calls Tryz.prog 30 #[.pointer (some ⟨b, 0, none⟩), .pointer (some adE), .int .i64 asked] W fun e w' => e = .returned (.tuple #[]) ∧ Bld w0.heap.size b (D ++ Ex.body op s n L) w' ∧ Below w0.heap.size W w' ∧ BFr b W w' := by
 obtain ⟨v0, v1, v2, v3, v4, hv, a0, a1, a2, a3, a4⟩ := h5
 simp only [List.cons.injEq, and_true] at hv
 obtain ⟨rfl, rfl, rfl, rfl, rfl⟩ := hv
 have HW := Lib.hid hW
 have HB := Lib.hid hB
 clear hW hB
 subst hop
 subst hL
 subst hq
 have HE : Hid (Ex.body 14 s n [x, y] = Ex.text x 5 ++ (nats (⟨#[32]⟩ ++ ⟨#[104, 97, 115]⟩ ++ ⟨#[32]⟩) ++ Ex.text y 5)) := Ex.body_two s n x y (by decide) (by decide)
 have hz : (⟨#[32]⟩ ++ ⟨#[104, 97, 115]⟩ ++ ⟨#[32]⟩ : ByteArray).size = (⟨#[104, 97, 115]⟩ : ByteArray).size + 2 := rfl
 have h2 : D.length + (Ex.text x 5).length + ((⟨#[104, 97, 115]⟩ : ByteArray).size + 2) + (Ex.text y 5).length < 1000000000 := by rw [HE.out, List.length_append, List.length_append, nats_length, hz] at hlen; omega
 have H5 : Hid (Five w0 adE [.int .i64 14, .string s, .int .i64 n, .slice (some ad) 2 c, .int .i64 p]) := ⟨_, _, _, _, _, rfl, a0, a1, a2, a3, by assumption⟩
 have H0 := Lib.hid h0
 have HY := Lib.hid hy
 have HLEN := Lib.hid h2
 clear hlen a1 a2 a3 h0 h2 hy hz
 have hmf : ∀ fn first cap w, (Instr.makeFunc fn first cap).run Tryz.prog w = .ok (.func fn first cap) w := fun _ _ _ _ => rfl
 have i0 : ∀ w, (Instr.index 123 (.agg #[.string ⟨#[]⟩, .string ⟨#[]⟩, .string ⟨#[]⟩, .string ⟨#[]⟩, .string ⟨#[]⟩, .string ⟨#[]⟩, .string ⟨#[]⟩, .string ⟨#[]⟩, .string ⟨#[]⟩, .string ⟨#[61]⟩, .string ⟨#[33, 61]⟩, .string ⟨#[60]⟩, .string ⟨#[60, 61]⟩, .string ⟨#[]⟩, .string ⟨#[104, 97, 115]⟩]) (.int .i64 14)).run Tryz.prog w = .ok (.string ⟨#[104, 97, 115]⟩) w := fun _ => by kernel_rfl
 have e0 := (Fr.of_below HW.out).cells a0
 have hbl := World.block_lt_of_cell? W _ e0
 go_enter Tryz.func30, Tryz.ntmps30
 go_wp2_with fail
 refine calls_fresh (fun V => WSt w0 W b W.heap.size (W.heap.size + 1) adE D V) (WSt.start HW.out HB.out) ?_
 intro V hV
 have H := Lib.hid hV
 have c1 := hV.c1
 have c2 := hV.c2
 clear e0 hbl
 have e0 := (Fr.of_below hV.w0V).cells a0
 clear hV
 refine (pol_level _ _).mono ?_
 rintro e w1 ⟨rfl, rfl⟩
 go_wp2_with fail
 skip
 have HC := write_two w0 _ b W.heap.size (W.heap.size + 1) adE ad 14 s n p 2 c x y ⟨#[104, 97, 115]⟩ 5 5 D H.out.b1 H.out.b2 H.out.n1 H.out.n2 H5.out (by omega) (by omega) H.out.w0V H.out.bl H0.out HY.out HLEN.out
 refine HC.mono ?_
 rintro e w1 ⟨rfl, hbl, hbw, hbf⟩
 have H := Lib.hid (H.out.step hbl hbw hbf)
 clear HC hbl hbw hbf c1 c2 e0
 go_wp2_with fail
 go_end0
 refine ⟨rfl, ?_, H.out.bw, H.out.bf⟩
 rw [HE.out]
 exact H.out.bl
end Go.Proofs.YtgklmpooonnmiaaGreatDoor

namespace Go.Proofs.YtgklmpooonnmiaaGreatDoor
open Go.RowKit
theorem Ex.ins_mono (r : List Ex) (j : Nat) : ∀ k, j ≤ k → k ≤ r.length → (Ex.ins (r.take j)).length ≤ (Ex.ins (r.take k)).length := by
 intro k
 induction k with
 | zero =>
  intro h _
  have e : j = 0 := by omega
  subst e
  exact Nat.le_refl _
 | succ k ih =>
  intro h hk
  by_cases e : j = k + 1
  ·rw [e]; exact Nat.le_refl _
  ·have h1 := ih (by omega) (by omega)
   rw [Ex.ins_take (List.getElem?_eq_getElem (show k < r.length by omega)), List.length_append]
   omega
def insSign (k : Nat) : ByteArray := if k = 0 then ⟨#[32, 105, 110, 32, 91]⟩ else ⟨#[44, 32]⟩
theorem insSign_size (k : Nat) : (insSign k).size ≤ 5 := by unfold insSign; split <;> decide
theorem insSign_nats (k : Nat) : nats (insSign k) = if k = 0 then [32, 105, 110, 32, 91] else [44, 32] := by unfold insSign; split <;> rfl
set_option maxHeartbeats 1000000 in
set_option maxRecDepth 100000 in
theorem write_13 (w0 W : World) (b : Nat) (adE ad : Addr) (op : Int) (s : ByteArray) (n p : Int) (q : Option Addr) (x : Ex) (r L : List Ex) (c : Nat) (D : List Nat) (asked : Int)
  (h5 : Five w0 adE [.int .i64 op, .string s, .int .i64 n, .slice q L.length c, .int .i64 p]) (hW : Below w0.heap.size w0 W) (hB : Bld w0.heap.size b D W) (hl : ¬ Pol.level op < asked)
  (hop : op = 13) (hL : L = x :: r) (hr : 1 ≤ r.length) (hc : L.length ≤ c) (hm : c ≤ maxLen) (hq : q = some ad) (h0 : Writes w0 b x ad) (hy : ∀ i y, r[i]? = some y → Writes w0 b y (ad.add ((i + 1) * 5))) (hlen : D.length + (Ex.body op s n L).length < 1000000000) :
  Calls Tryz.prog 30 #[.pointer (some ⟨b, 0, none⟩), .pointer (some adE), .int .i64 asked] W fun e w' => e = .returned (.tuple #[]) ∧ Bld w0.heap.size b (D ++ Ex.body op s n L) w' ∧ Below w0.heap.size W w' ∧ BFr b W w' := by
 obtain ⟨v0, v1, v2, v3, v4, hv, a0, a1, a2, a3, a4⟩ := h5
 simp only [List.cons.injEq, and_true] at hv
 obtain ⟨rfl, rfl, rfl, rfl, rfl⟩ := hv
 have HW := Lib.hid hW
 have HB := Lib.hid hB
 clear hW hB
 subst hop
 subst hq
 have HE : Hid (Ex.body 13 s n L = Ex.text x 5 ++ (Ex.ins r ++ [93])) := by
  show _ = _
  rw [hL]
  cases r with
  | nil => simp at hr
  | cons y r => exact Ex.body_in s n x y r
 have h2 : D.length + (Ex.text x 5).length + (Ex.ins r).length + 1 < 1000000000 := by rw [HE.out, List.length_append, List.length_append] at hlen; simp only [List.length_cons, List.length_nil] at hlen; omega
 have hLl : L.length = r.length + 1 := by rw [hL]; rfl
 have A3 := Lib.hid a3
 have H0 := Lib.hid h0
 have HY := Lib.hid hy
 have HLEN := Lib.hid h2
 have HLL := Lib.hid hLl
 have k0 : 0 < L.length := by omega
 have k1 : (1 : Int) ≤ (L.length : Int) := by omega
 have k2 : L.length ≤ c := hc
 have k3 : c ≤ 9223372036854775807 := by unfold maxLen at hm; omega
 have k4 : ¬ c = 1 := by omega
 clear hlen a1 a2 a3 a4 h0 h2 hy hLl hm hL hr hc
 have e0 := (Fr.of_below HW.out).cells a0
 have hbl := World.block_lt_of_cell? W _ e0
 go_enter Tryz.func30, Tryz.ntmps30
 go_wp2_with fail
 refine calls_fresh (fun V => WSt w0 W b W.heap.size (W.heap.size + 1) adE D V) (WSt.start HW.out HB.out) ?_
 intro V hV
 have H := Lib.hid hV
 have c1 := hV.c1
 have c2 := hV.c2
 clear e0 hbl
 have e0 := (Fr.of_below hV.w0V).cells a0
 clear hV
 refine (pol_level _ _).mono ?_
 rintro e w1 ⟨rfl, rfl⟩
 have e3 := (Fr.of_below H.out.w0V).cells A3.out
 go_wp2_with fail
 go_still_tail 6, (by kernel_rfl)
 go_wp2_with fail
 have H := Lib.hid (H.out.fr (Fr.refl [] V).drew)
 have h1 : D.length + (Ex.text x 5).length < 1000000000 := by have := HLEN.out; omega
 have HC := H0.out _ _ 5 H.out.w0V H.out.bl h1
 clear h1
 refine HC.mono ?_
 rintro e w1 ⟨rfl, hbl, hbw, hbf⟩
 have H := Lib.hid (H.out.step hbl hbw hbf)
 clear HC hbl hbw hbf c1 c2 e0 e3 H0
 have c1 := H.out.c1
 have c2 := H.out.c2
 have e3 := (Fr.of_below H.out.w0V).cells A3.out
 go_wp2_with fail
 go_loopg [8, 9, 120] r.length (fun m s8 s9 s120 Wx => ∃ (k : Nat) (S : ByteArray), k ≤ r.length ∧ m = r.length - k ∧ s120 = .int .i64 k ∧ s8 = .string S ∧ Hid (S = insSign k) ∧ Hid (WSt w0 W b W.heap.size (W.heap.size + 1) adE (D ++ (Ex.text x 5 ++ Ex.ins (r.take k))) Wx))
 case atStart => exact ⟨0, insSign 0, by omega, by omega, rfl, rfl, rfl, by
  have h := H.out
  show WSt _ _ _ _ _ _ _ _
  rw [List.take_zero, Ex.ins, List.append_nil]
  exact h⟩
 case round =>
  obtain ⟨k, S, hk, hm, rfl, rfl, HS, H⟩ := hrel
  have HM := Lib.hid hm
  have c1 := H.out.c1
  have c2 := H.out.c2
  have e3 := (Fr.of_below H.out.w0V).cells A3.out
  clear hm
  by_cases hlt : k < r.length
  ·have hlt' : (k : Int) < ((L.length - 1 : Nat) : Int) := by have := HLL.out; omega
   obtain ⟨y, hx⟩ : ∃ y, r[k]? = some y := ⟨_, List.getElem?_eq_getElem hlt⟩
   have HW' := Lib.hid (HY.out k y hx)
   have HT := Lib.hid (Ex.ins_take hx)
   have HMO := Lib.hid (Ex.ins_mono r (k + 1) r.length (by omega) (Nat.le_refl _))
   have HZ : Hid (S.size ≤ 5) := by show S.size ≤ 5; rw [HS.out]; exact insSign_size k
   have i0 : (0 : Int) ≤ 1 + (k : Int) := by omega
   have i1 : 1 + (k : Int) < (L.length : Int) := by have := HLL.out; omega
   have i2 : (1 + (k : Int)).toNat = k + 1 := by omega
   have i3 : IntKind.i64.wrap (1 + (k : Int)) = 1 + (k : Int) := IntWalk.i64_in _ (by omega)
   have HZS : Hid (H.out.size = H.out.size) := rfl
   clear hx HZS
   go_wp2_with fail
   have HSZ := Lib.hid H.out.size
   have hLN : (Ex.ins (r.take (k + 1))).length = (Ex.ins (r.take k)).length + S.size + (Ex.text y 5).length := by
    rw [HT.out, List.length_append, List.length_append, HS.out, ← nats_length, insSign_nats]; omega
   have hLM : (Ex.ins (r.take (k + 1))).length ≤ (Ex.ins r).length := by have := HMO.out; rwa [List.take_length] at this
   have hLE := HLEN.out
   have h1 : (D ++ (Ex.text x 5 ++ Ex.ins (r.take k))).length + S.size < 1000000000 := by
    rw [List.length_append, List.length_append]; omega
   have h3 : (D ++ (Ex.text x 5 ++ Ex.ins (r.take k)) ++ nats S).length + (Ex.text y 5).length < 1000000000 := by
    rw [List.length_append, nats_length, List.length_append, List.length_append]; omega
   have H3 := Lib.hid h3
   have HC := bld_strF w0.heap.size b _ S _ H.out.bl h1 HSZ.out
   clear h1 h3 hLN hLM hLE
   refine HC.mono ?_
   rintro e w2 ⟨rfl, hbl, hbw, hbf⟩
   have H := Lib.hid (H.out.step hbl hbw hbf)
   clear HC hbl hbw hbf c1 c2 e3
   have c1 := H.out.c1
   have c2 := H.out.c2
   have e3 := (Fr.of_below H.out.w0V).cells A3.out
   go_wp2_with fail
   go_still_tail 8, (by kernel_rfl)
   go_wp2_with fail
   have H := Lib.hid (H.out.fr (Fr.refl [] w2).drew)
   have HC := HW'.out _ _ 5 H.out.w0V H.out.bl H3.out
   refine HC.mono ?_
   rintro e w3 ⟨rfl, hbl, hbw, hbf⟩
   have H := Lib.hid (H.out.step hbl hbw hbf)
   clear HC hbl hbw hbf c1 c2 e3
   go_wp2_with fail
   go_roundg (r.length - (k + 1))
   case measure => have := HM.out; omega
   case rel => exact ⟨k + 1, ⟨#[44, 32]⟩, by omega, rfl, by go_num, rfl, by show _ = insSign (k + 1); rw [insSign, if_neg (by omega)], by
    have h := H.out
    show WSt _ _ _ _ _ _ _ _
    rw [HT.out, ← insSign_nats, ← HS.out]
    simp only [List.append_assoc] at h ⊢
    exact h⟩
  ·have hlt' : ¬ (k : Int) < ((L.length - 1 : Nat) : Int) := by have := HLL.out; omega
   have hke : k = r.length := by omega
   go_wp2_with fail
   have HSZ := Lib.hid H.out.size
   have h1 : (D ++ (Ex.text x 5 ++ Ex.ins (r.take k))).length < 1000000000 := by
    rw [List.length_append, List.length_append, hke, List.take_length]; have := HLEN.out; omega
   have HC := bld_byteF w0.heap.size b _ 93 _ H.out.bl h1 HSZ.out
   clear h1
   refine HC.mono ?_
   rintro e w2 ⟨rfl, hbl, hbw, hbf⟩
   have H := Lib.hid (H.out.step hbl hbw hbf)
   clear HC hbl hbw hbf c1 c2 e3
   go_wp2_with fail
   go_end0
   refine ⟨rfl, ?_, H.out.bw, H.out.bf⟩
   rw [HE.out]
   have h := H.out.bl
   rw [hke, List.take_length] at h
   simp only [List.append_assoc] at h
   exact h
end Go.Proofs.YtgklmpooonnmiaaGreatDoor

namespace Go.Proofs.YtgklmpooonnmiaaGreatDoor
open Go.RowKit
set_option maxHeartbeats 1000000 in
set_option maxRecDepth 100000 in
theorem write_paren (w0 W : World) (b : Nat) (adE : Addr) (op : Int) (s : ByteArray) (n p : Int) (q : Option Addr) (L : List Ex) (c : Nat) (D : List Nat) (asked : Int)
  (h5 : Five w0 adE [.int .i64 op, .string s, .int .i64 n, .slice q L.length c, .int .i64 p]) (hW : Below w0.heap.size w0 W) (hB : Bld w0.heap.size b D W) (hl : Pol.level op < asked)
  (hb : ∀ (W : World) (D : List Nat), Below w0.heap.size w0 W → Bld w0.heap.size b D W → D.length + (Ex.body op s n L).length < 1000000000 →
   Calls Tryz.prog 30 #[.pointer (some ⟨b, 0, none⟩), .pointer (some adE), .int .i64 1] W fun e w' => e = .returned (.tuple #[]) ∧ Bld w0.heap.size b (D ++ Ex.body op s n L) w' ∧ Below w0.heap.size W w' ∧ BFr b W w')
  (hlen : D.length + (Ex.body op s n L).length + 2 < 1000000000) :
  Calls Tryz.prog 30 #[.pointer (some ⟨b, 0, none⟩), .pointer (some adE), .int .i64 asked] W fun e w' => e = .returned (.tuple #[]) ∧ Bld w0.heap.size b (D ++ (40 :: (Ex.body op s n L ++ [41]))) w' ∧ Below w0.heap.size W w' ∧ BFr b W w' := by
 obtain ⟨v0, v1, v2, v3, v4, hv, a0, a1, a2, a3, a4⟩ := h5
 simp only [List.cons.injEq, and_true] at hv
 obtain ⟨rfl, rfl, rfl, rfl, rfl⟩ := hv
 have HW := Lib.hid hW
 have HB := Lib.hid hB
 have HBD := Lib.hid hb
 have HLEN := Lib.hid hlen
 obtain ⟨M, hM⟩ : ∃ M, Ex.body op s n L = M := ⟨_, rfl⟩
 simp only [hM] at HBD HLEN ⊢
 clear hW hB a1 a2 a3 a4 hb hlen hM
 have e0 := (Fr.of_below HW.out).cells a0
 have hbl := World.block_lt_of_cell? W _ e0
 go_enter Tryz.func30, Tryz.ntmps30
 go_wp2_with fail
 refine calls_fresh (fun V => WSt w0 W b W.heap.size (W.heap.size + 1) adE D V) (WSt.start HW.out HB.out) ?_
 intro V hV
 have H := Lib.hid hV
 have c1 := hV.c1
 have c2 := hV.c2
 clear e0 hbl
 have e0 := (Fr.of_below hV.w0V).cells a0
 clear hV
 refine (pol_level _ _).mono ?_
 rintro e w1 ⟨rfl, rfl⟩
 go_wp2_with fail
 have HS := Lib.hid H.out.size
 have h1 : D.length < 1000000000 := by have := HLEN.out; omega
 have HC := bld_byteF w0.heap.size b _ 40 _ H.out.bl h1 HS.out
 clear h1
 refine HC.mono ?_
 rintro e w1 ⟨rfl, hbl, hbw, hbf⟩
 have H := Lib.hid (H.out.step hbl hbw hbf)
 clear HC hbl hbw hbf c1 c2 e0
 have c1 := H.out.c1
 have c2 := H.out.c2
 go_wp2_with fail
 have h1 : (D ++ [40]).length + M.length < 1000000000 := by rw [List.length_append]; have := HLEN.out; simp only [List.length_cons, List.length_nil]; omega
 have HC := HBD.out _ _ H.out.w0V H.out.bl h1
 clear h1
 refine HC.mono ?_
 rintro e w2 ⟨rfl, hbl, hbw, hbf⟩
 have H := Lib.hid (H.out.step hbl hbw hbf)
 clear HC hbl hbw hbf c1 c2
 have c1 := H.out.c1
 have c2 := H.out.c2
 go_wp2_with fail
 have HS := Lib.hid H.out.size
 have h1 : (D ++ [40] ++ M).length < 1000000000 := by rw [List.length_append, List.length_append]; have := HLEN.out; simp only [List.length_cons, List.length_nil]; omega
 have HC := bld_byteF w0.heap.size b _ 41 _ H.out.bl h1 HS.out
 clear h1
 refine HC.mono ?_
 rintro e w3 ⟨rfl, hbl, hbw, hbf⟩
 have H := Lib.hid (H.out.step hbl hbw hbf)
 clear HC hbl hbw hbf c1 c2
 go_wp2_with fail
 refine bodyPost_ret (results_none rfl _ _ _) rfl ?_
 refine ⟨rfl, ?_, H.out.bw, H.out.bf⟩
 have h := H.out.bl
 simp only [List.append_assoc] at h
 exact h
theorem Pol.level_pos (op : Int) : 1 ≤ Pol.level op := by
 unfold Pol.level
 repeat' (split; omega)
 omega
theorem Ex.rights_at : ∀ {L : List Ex} {i : Nat} {x : Ex} {deep : Nat}, Ex.rights L deep = true → L[i]? = some x → Ex.right x deep = true
 | [], i, x, _, _, h => by simp at h
 | y :: r, 0, x, deep, h, e => by
  rw [Ex.rights, Bool.and_eq_true] at h
  simp at e
  subst e
  exact h.1
 | y :: r, i + 1, x, deep, h, e => by
  rw [Ex.rights, Bool.and_eq_true] at h
  exact Ex.rights_at h.2 (by simpa using e)
theorem Ex.head_cases {op : Int} {s : ByteArray} {n : Int} {k : Nat} (h : Ex.head op s n k = true) :
  (op = 1 ∧ k = 0 ∧ (n = 0 ∨ n = 1)) ∨ (op = 2 ∧ k = 0 ∧ -9007199254740991 ≤ n ∧ n ≤ 9007199254740991) ∨ (op = 3 ∧ k = 0) ∨ (op = 5 ∧ k = 0) ∨ (op = 4 ∧ k = 0) ∨ (op = 6 ∧ k = 1) ∨ (((7 ≤ op ∧ op ≤ 12) ∨ op = 14) ∧ k = 2) ∨ (op = 13 ∧ 2 ≤ k) := by
 unfold Ex.head at h
 by_cases e1 : op = 1
 ·rw [if_pos e1] at h
  simp only [Bool.and_eq_true, Bool.or_eq_true, beq_iff_eq] at h
  exact Or.inl ⟨e1, h.2, h.1.1⟩
 rw [if_neg e1] at h
 by_cases e2 : op = 2
 ·rw [if_pos e2] at h
  simp only [Bool.and_eq_true, decide_eq_true_eq, beq_iff_eq] at h
  exact Or.inr (Or.inl ⟨e2, h.2, h.1.1.1, h.1.1.2⟩)
 rw [if_neg e2] at h
 by_cases e3 : op = 3 ∨ op = 5
 ·rw [if_pos e3] at h
  simp only [Bool.and_eq_true, beq_iff_eq] at h
  rcases e3 with e | e
  ·exact Or.inr (Or.inr (Or.inl ⟨e, h.2⟩))
  ·exact Or.inr (Or.inr (Or.inr (Or.inl ⟨e, h.2⟩)))
 rw [if_neg e3] at h
 by_cases e4 : op = 4
 ·rw [if_pos e4] at h
  simp only [Bool.and_eq_true, beq_iff_eq] at h
  exact Or.inr (Or.inr (Or.inr (Or.inr (Or.inl ⟨e4, h.2⟩))))
 rw [if_neg e4] at h
 by_cases e6 : op = 6
 ·rw [if_pos e6] at h
  simp only [Bool.and_eq_true, beq_iff_eq] at h
  exact Or.inr (Or.inr (Or.inr (Or.inr (Or.inr (Or.inl ⟨e6, h.2⟩)))))
 rw [if_neg e6] at h
 by_cases e7 : (7 ≤ op ∧ op ≤ 12) ∨ op = 14
 ·rw [if_pos e7] at h
  simp only [Bool.and_eq_true, beq_iff_eq] at h
  exact Or.inr (Or.inr (Or.inr (Or.inr (Or.inr (Or.inr (Or.inl ⟨e7, h.2⟩))))))
 rw [if_neg e7] at h
 by_cases e13 : op = 13
 ·rw [if_pos e13] at h
  simp only [Bool.and_eq_true, beq_iff_eq, decide_eq_true_eq] at h
  exact Or.inr (Or.inr (Or.inr (Or.inr (Or.inr (Or.inr (Or.inr ⟨e13, h.2⟩))))))
 rw [if_neg e13] at h
 cases h
theorem one_of {L : List Ex} (h : L.length = 1) : ∃ x, L = [x] := by
 cases L with
 | nil => simp at h
 | cons x r => cases r with
   | nil => exact ⟨x, rfl⟩
   | cons _ _ => simp at h
theorem two_of {L : List Ex} (h : L.length = 2) : ∃ x y, L = [x, y] := by
 cases L with
 | nil => simp at h
 | cons x r =>
  obtain ⟨y, rfl⟩ := one_of (L := r) (by simpa using h)
  exact ⟨x, y, rfl⟩
theorem add0 {w0 : World} {b : Nat} {x : Ex} {a : Addr} (h : Writes w0 b x (a.add (0 * 5))) : Writes w0 b x a := by
 have e : a.add (0 * 5) = a := by unfold Addr.add; split <;> simp_all
 rw [e] at h
 exact h
theorem pol_write {w0 : World} {cs : List Value} {x : Ex} (h : RepA w0 cs x) : ∀ (deep : Nat) (b : Nat) (ad : Addr), Ex.right x deep = true → x.short → Five w0 ad cs → Least w0 → Writes w0 b x ad := by
 induction h with
 | mk op s n L p q c f hc hm hr hx ih =>
  intro deep b ad hright hsh h5 hLe
  rw [Ex.short] at hsh
  have hd : ¬ 200 < deep := by
   intro hd
   rw [Ex.right, if_pos hd] at hright
   cases hright
  rw [Ex.right, if_neg hd, Bool.and_eq_true] at hright
  have hch : ∀ i y, L[i]? = some y → ∃ a, q = some a ∧ Writes w0 b y (a.add (i * 5)) := fun i y hi => by
   obtain ⟨a, hq, hf⟩ := hr i y hi
   exact ⟨a, hq, ih i y hi (deep + 1) b (a.add (i * 5)) (Ex.rights_at hright.2 hi) (Ex.shorts_at hsh.2 hi) hf hLe⟩
  have body : ∀ (W : World) (D : List Nat) (asked : Int), ¬ Pol.level op < asked → Below w0.heap.size w0 W → Bld w0.heap.size b D W → D.length + (Ex.body op s n L).length < 1000000000 →
    Calls Tryz.prog 30 #[.pointer (some ⟨b, 0, none⟩), .pointer (some ad), .int .i64 asked] W fun e w' => e = .returned (.tuple #[]) ∧ Bld w0.heap.size b (D ++ Ex.body op s n L) w' ∧ Below w0.heap.size W w' ∧ BFr b W w' := by
   intro W D asked hl hW hB hlen
   rcases Ex.head_cases hright.1 with ⟨e, k, hn⟩ | ⟨e, k, hn⟩ | ⟨e, k⟩ | ⟨e, k⟩ | ⟨e, k⟩ | ⟨e, k⟩ | ⟨e, k⟩ | ⟨e, k⟩
   ·have hL := List.eq_nil_of_length_eq_zero k
    rcases hn with hn | hn
    ·exact write_1_0 w0 W b ad op s n p q L c D asked h5 hW hB hl e hL hn hlen
    ·exact write_1_1 w0 W b ad op s n p q L c D asked h5 hW hB hl e hL hn hlen
   ·exact write_2 w0 W b ad op s n p q L c D asked h5 hW hB hl e (List.eq_nil_of_length_eq_zero k) ⟨by omega, by omega⟩ hlen
   ·exact write_3 w0 W b ad op s n p q L c D asked h5 hW hB hl e (List.eq_nil_of_length_eq_zero k) hsh.1 hLe hlen
   ·exact write_5 w0 W b ad op s n p q L c D asked h5 hW hB hl e (List.eq_nil_of_length_eq_zero k) hsh.1 hLe hlen
   ·exact write_4 w0 W b ad op s n p q L c D asked h5 hW hB hl e (List.eq_nil_of_length_eq_zero k) hlen
   ·obtain ⟨x, hL⟩ := one_of k
    obtain ⟨a, hq, h0⟩ := hch 0 x (by rw [hL]; rfl)
    exact write_6 w0 W b ad _ op s n p q x L c D asked h5 hW hB hl e hL hq (add0 h0) hlen
   ·obtain ⟨x, y, hL⟩ := two_of k
    obtain ⟨a, hq, h0⟩ := hch 0 x (by rw [hL]; rfl)
    obtain ⟨a', hq', h1⟩ := hch 1 y (by rw [hL]; rfl)
    have ha : a' = a := by rw [hq] at hq'; exact (Option.some.inj hq').symm
    subst ha
    by_cases e7 : op = 7
    ·exact write_7 w0 W b ad _ op s n p q x y L c D asked h5 hW hB hl e7 hL hq (add0 h0) h1 hlen
    by_cases e8 : op = 8
    ·exact write_8 w0 W b ad _ op s n p q x y L c D asked h5 hW hB hl e8 hL hq (add0 h0) h1 hlen
    by_cases e9 : op = 9
    ·exact write_9 w0 W b ad _ op s n p q x y L c D asked h5 hW hB hl e9 hL hq (add0 h0) h1 hlen
    by_cases e10 : op = 10
    ·exact write_10 w0 W b ad _ op s n p q x y L c D asked h5 hW hB hl e10 hL hq (add0 h0) h1 hlen
    by_cases e11 : op = 11
    ·exact write_11 w0 W b ad _ op s n p q x y L c D asked h5 hW hB hl e11 hL hq (add0 h0) h1 hlen
    by_cases e12 : op = 12
    ·exact write_12 w0 W b ad _ op s n p q x y L c D asked h5 hW hB hl e12 hL hq (add0 h0) h1 hlen
    exact write_14 w0 W b ad _ op s n p q x y L c D asked h5 hW hB hl (by omega) hL hq (add0 h0) h1 hlen
   ·obtain ⟨x, r, hL⟩ : ∃ x r, L = x :: r := by
     cases L with
     | nil => simp at k
     | cons x r => exact ⟨x, r, rfl⟩
    obtain ⟨a, hq, h0⟩ := hch 0 x (by rw [hL]; rfl)
    refine write_13 w0 W b ad a op s n p q x r L c D asked h5 hW hB hl e hL (by rw [hL] at k; simp at k; omega) hc hm hq (add0 h0) (fun i y hi => ?_) hlen
    obtain ⟨a', hq', h1⟩ := hch (i + 1) y (by rw [hL]; simpa using hi)
    have ha : a' = a := by rw [hq] at hq'; exact (Option.some.inj hq').symm
    rw [← ha]
    exact h1
  intro W D asked hW hB hlen
  rw [Ex.text] at hlen ⊢
  by_cases hl : Pol.level op < asked
  ·rw [if_pos hl] at hlen ⊢
   refine write_paren w0 W b ad op s n p q L c D asked h5 hW hB hl (fun W' D' hW' hB' hlen' => body W' D' 1 (by have := Pol.level_pos op; omega) hW' hB' hlen') ?_
   simp only [List.length_cons, List.length_append, List.length_nil] at hlen
   omega
  ·rw [if_neg hl] at hlen ⊢
   exact body W D asked hl hW hB hlen
end Go.Proofs.YtgklmpooonnmiaaGreatDoor

namespace Go.Proofs.YtgklmpooonnmiaaGreatDoor
open Go.RowKit
theorem grows_le {α : Type} (F : List α → List Nat) (hF : ∀ l x, ∃ X, F (l ++ [x]) = F l ++ X) (b : List α) : ∀ a, (F a).length ≤ (F (a ++ b)).length := by
 induction b with
 | nil => intro a; rw [List.append_nil]; exact Nat.le_refl _
 | cons x b ih =>
  intro a
  have h1 := ih (a ++ [x])
  obtain ⟨X, hX⟩ := hF a x
  rw [hX, List.length_append, List.append_assoc] at h1
  have : a ++ ([x] ++ b) = a ++ x :: b := rfl
  rw [this] at h1
  omega
theorem grows_take {α : Type} (F : List α → List Nat) (hF : ∀ l x, ∃ X, F (l ++ [x]) = F l ++ X) (l : List α) (k : Nat) : (F (l.take k)).length ≤ (F l).length := by
 have := grows_le F hF (l.drop k) (l.take k)
 rwa [List.take_append_drop] at this
def Ru.hd (u : Ru) : ByteArray := if u.deny = true then ⟨#[100, 101, 110, 121]⟩ else ⟨#[112, 101, 114, 109, 105, 116]⟩
def scSign (j : Nat) : ByteArray := if j = 0 then ⟨#[32, 115, 99, 111, 112, 101, 32]⟩ else ⟨#[44, 32]⟩
theorem scSign_size (j : Nat) : (scSign j).size ≤ 7 := by unfold scSign; split <;> decide
def Ru.scsMore : List ByteArray → List Nat
 | [] => []
 | s :: r => nats (⟨#[44, 32]⟩ ++ qt s) ++ Ru.scsMore r
def Ru.scs : List ByteArray → List Nat
 | [] => []
 | s :: r => nats (⟨#[32, 115, 99, 111, 112, 101, 32]⟩ ++ qt s) ++ Ru.scsMore r
theorem Ru.scsMore_snoc : ∀ (r : List ByteArray) (s : ByteArray), Ru.scsMore (r ++ [s]) = Ru.scsMore r ++ nats (⟨#[44, 32]⟩ ++ qt s)
 | [], s => by simp [Ru.scsMore]
 | y :: r, s => by rw [List.cons_append, Ru.scsMore, Ru.scsMore, Ru.scsMore_snoc r s, List.append_assoc]
theorem Ru.scs_snoc (r : List ByteArray) (s : ByteArray) : Ru.scs (r ++ [s]) = Ru.scs r ++ nats (scSign r.length ++ qt s) := by
 cases r with
 | nil => simp [Ru.scs, Ru.scsMore, scSign]
 | cons y r => rw [List.cons_append, Ru.scs, Ru.scs, Ru.scsMore_snoc, List.append_assoc]; rfl
theorem Ru.scs_take {A : List ByteArray} {k : Nat} {s : ByteArray} (h : A[k]? = some s) : Ru.scs (A.take (k + 1)) = Ru.scs (A.take k) ++ nats (scSign k ++ qt s) := by
 obtain ⟨h1, rfl⟩ := List.getElem?_eq_some_iff.1 h
 rw [List.take_succ_eq_append_getElem h1, Ru.scs_snoc, List.length_take, Nat.min_eq_left (by omega)]
def Ru.whs : List Ex → List Nat
 | [] => []
 | x :: r => nats ⟨#[32, 119, 104, 101, 110, 32]⟩ ++ (x.text 1 ++ Ru.whs r)
theorem Ru.whs_snoc : ∀ (r : List Ex) (x : Ex), Ru.whs (r ++ [x]) = Ru.whs r ++ (nats ⟨#[32, 119, 104, 101, 110, 32]⟩ ++ x.text 1)
 | [], x => by simp [Ru.whs]
 | y :: r, x => by rw [List.cons_append, Ru.whs, Ru.whs, Ru.whs_snoc r x]; simp only [List.append_assoc]
theorem Ru.whs_take {L : List Ex} {k : Nat} {x : Ex} (h : L[k]? = some x) : Ru.whs (L.take (k + 1)) = Ru.whs (L.take k) ++ (nats ⟨#[32, 119, 104, 101, 110, 32]⟩ ++ x.text 1) := by
 obtain ⟨h1, rfl⟩ := List.getElem?_eq_some_iff.1 h
 rw [List.take_succ_eq_append_getElem h1, Ru.whs_snoc]
def Ru.text (u : Ru) : List Nat := nats u.hd ++ (Ru.scs u.scopes ++ (Ru.whs u.when_ ++ [59]))
def Pol.textMore : List Ru → List Nat
 | [] => []
 | u :: r => 10 :: (u.text ++ Pol.textMore r)
def Pol.text : List Ru → List Nat
 | [] => []
 | u :: r => u.text ++ Pol.textMore r
def lfOf (k : Nat) : List Nat := if k = 0 then [] else [10]
theorem Pol.textMore_snoc : ∀ (r : List Ru) (u : Ru), Pol.textMore (r ++ [u]) = Pol.textMore r ++ (10 :: u.text)
 | [], u => by simp [Pol.textMore]
 | y :: r, u => by rw [List.cons_append, Pol.textMore, Pol.textMore, Pol.textMore_snoc r u]; simp
theorem Pol.text_snoc (r : List Ru) (u : Ru) : Pol.text (r ++ [u]) = Pol.text r ++ (lfOf r.length ++ u.text) := by
 cases r with
 | nil => simp [Pol.text, Pol.textMore, lfOf]
 | cons y r => rw [List.cons_append, Pol.text, Pol.text, Pol.textMore_snoc, List.append_assoc]; rfl
theorem Pol.text_take {L : List Ru} {k : Nat} {u : Ru} (h : L[k]? = some u) : Pol.text (L.take (k + 1)) = Pol.text (L.take k) ++ (lfOf k ++ u.text) := by
 obtain ⟨h1, rfl⟩ := List.getElem?_eq_some_iff.1 h
 rw [List.take_succ_eq_append_getElem h1, Pol.text_snoc, List.length_take, Nat.min_eq_left (by omega)]
mutual
theorem Ex.text_lt : ∀ (x : Ex) (a : Int), ∀ y ∈ Ex.text x a, y < 256
 | .mk op s n L p, a, y, hy => by
  rw [Ex.text] at hy
  split at hy
  ·simp only [List.mem_cons, List.mem_append, List.not_mem_nil, or_false] at hy
   rcases hy with rfl | hy | rfl
   ·omega
   ·exact Ex.body_lt op s n L y hy
   ·omega
  ·exact Ex.body_lt op s n L y hy
theorem Ex.body_lt (op : Int) (s : ByteArray) (n : Int) : ∀ (L : List Ex), ∀ y ∈ Ex.body op s n L, y < 256
 | [], y, hy => by rw [Ex.body] at hy; exact nats_lt _ y hy
 | x :: l, y, hy => by
  rw [Ex.body] at hy
  refine Ex.rest_lt op _ ?_ l y hy
  intro z hz
  split at hz
  ·simp only [List.mem_append, List.mem_cons, List.not_mem_nil, or_false] at hz
   rcases hz with hz | hz
   ·omega
   ·exact Ex.text_lt x 3 z hz
  ·split at hz
   ·exact Ex.text_lt x 5 z hz
   ·exact Ex.text_lt x _ z hz
theorem Ex.rest_lt (op : Int) (A : List Nat) (hA : ∀ y ∈ A, y < 256) : ∀ (L : List Ex), ∀ y ∈ Ex.rest op A L, y < 256
 | [], y, hy => by rw [Ex.rest] at hy; exact hA y hy
 | x :: r, y, hy => by
  rw [Ex.rest] at hy
  split at hy
  ·simp only [List.mem_append, List.mem_cons, List.not_mem_nil, or_false] at hy
   rcases hy with hy | hy | hy | hy | hy
   ·exact hA y hy
   ·omega
   ·exact Ex.text_lt x 5 y hy
   ·exact Ex.more_lt r y hy
   ·omega
  ·simp only [List.mem_append] at hy
   rcases hy with hy | hy | hy
   ·exact hA y hy
   ·exact nats_lt _ y hy
   ·exact Ex.text_lt x _ y hy
theorem Ex.more_lt : ∀ (L : List Ex), ∀ y ∈ Ex.more L, y < 256
 | [], y, hy => by rw [Ex.more] at hy; simp at hy
 | x :: r, y, hy => by
  rw [Ex.more] at hy
  simp only [List.mem_append, List.mem_cons, List.not_mem_nil, or_false] at hy
  rcases hy with hy | hy | hy
  ·omega
  ·exact Ex.text_lt x 5 y hy
  ·exact Ex.more_lt r y hy
end
theorem Ru.scs_lt : ∀ (A : List ByteArray), ∀ y ∈ Ru.scs A, y < 256 := by
 have more : ∀ (A : List ByteArray), ∀ y ∈ Ru.scsMore A, y < 256 := by
  intro A
  induction A with
  | nil => intro y hy; rw [Ru.scsMore] at hy; simp at hy
  | cons s r ih =>
   intro y hy
   rw [Ru.scsMore, List.mem_append] at hy
   exact hy.elim (nats_lt _ y) (ih y)
 intro A
 cases A with
 | nil => intro y hy; rw [Ru.scs] at hy; simp at hy
 | cons s r =>
  intro y hy
  rw [Ru.scs, List.mem_append] at hy
  exact hy.elim (nats_lt _ y) (more r y)
theorem Ru.whs_lt : ∀ (A : List Ex), ∀ y ∈ Ru.whs A, y < 256 := by
 intro A
 induction A with
 | nil => intro y hy; rw [Ru.whs] at hy; simp at hy
 | cons x r ih =>
  intro y hy
  rw [Ru.whs, List.mem_append, List.mem_append] at hy
  rcases hy with hy | hy | hy
  ·exact nats_lt _ y hy
  ·exact Ex.text_lt x 1 y hy
  ·exact ih y hy
theorem Ru.text_lt (u : Ru) : ∀ y ∈ u.text, y < 256 := by
 intro y hy
 unfold Ru.text at hy
 rw [List.mem_append, List.mem_append, List.mem_append] at hy
 rcases hy with hy | hy | hy | hy
 ·exact nats_lt _ y hy
 ·exact Ru.scs_lt _ y hy
 ·exact Ru.whs_lt _ y hy
 ·simp only [List.mem_cons, List.not_mem_nil, or_false] at hy; omega
theorem Pol.text_lt (L : List Ru) : ∀ y ∈ Pol.text L, y < 256 := by
 have more : ∀ (A : List Ru), ∀ y ∈ Pol.textMore A, y < 256 := by
  intro A
  induction A with
  | nil => intro y hy; rw [Pol.textMore] at hy; simp at hy
  | cons u r ih =>
   intro y hy
   rw [Pol.textMore, List.mem_cons, List.mem_append] at hy
   rcases hy with hy | hy | hy
   ·omega
   ·exact Ru.text_lt u y hy
   ·exact ih y hy
 cases L with
 | nil => intro y hy; rw [Pol.text] at hy; simp at hy
 | cons u r =>
  intro y hy
  rw [Pol.text, List.mem_append] at hy
  exact hy.elim (Ru.text_lt u y) (more r y)
end Go.Proofs.YtgklmpooonnmiaaGreatDoor
