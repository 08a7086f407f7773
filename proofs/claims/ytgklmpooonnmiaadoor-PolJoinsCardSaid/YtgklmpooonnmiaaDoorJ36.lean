/-
  Lemmas and contracts that the proofs over this seat use (PolWriteN, PolWriteO); no statement of the seat is claimed in this text, and nothing is assumed in it.
-/
import Derived.Test.YtgklmpooonnmiaaDoorJ35
set_option linter.unusedVariables false
set_option linter.unusedSimpArgs false
namespace Go.Proofs.YtgklmpooonnmiaaDoor
open Go.RowKit
set_option maxHeartbeats 1000000 in
set_option maxRecDepth 100000 in
theorem write_6 (w0 W : World) (b : Nat) (adE ad : Addr) (op : Int) (s : ByteArray) (n p : Int) (q : Option Addr) (x : Ex) (L : List Ex) (c : Nat) (D : List Nat) (asked : Int)
  (h5 : Five w0 adE [.int .i64 op, .string s, .int .i64 n, .slice q L.length c, .int .i64 p]) (hW : Below w0.heap.size w0 W) (hB : Bld w0.heap.size b D W) (hl : ¬ Pol.level op < asked)
  (hop : op = 6) (hL : L = [x]) (hq : q = some ad) (h0 : Writes w0 b x ad) (hlen : D.length + (Ex.body op s n L).length < 1000000000) :
  Calls Tryd.prog 76 #[.pointer (some ⟨b, 0, none⟩), .pointer (some adE), .int .i64 asked] W fun e w' => e = .returned (.tuple #[]) ∧ Bld w0.heap.size b (D ++ Ex.body op s n L) w' ∧ Below w0.heap.size W w' ∧ BFr b W w' := by
 obtain ⟨v0, v1, v2, v3, v4, hv, a0, a1, a2, a3, a4⟩ := h5
 simp only [List.cons.injEq, and_true] at hv
 obtain ⟨rfl, rfl, rfl, rfl, rfl⟩ := hv
 have HW := Lib.hid hW
 have HB := Lib.hid hB
 clear hW hB
 subst hop
 subst hL
 subst hq
 have HE : Hid (Ex.body 6 s n [x] = nats ⟨#[110, 111, 116, 32]⟩ ++ Ex.text x 3) := Ex.body_not s n x
 have h2 : D.length + 4 + (Ex.text x 3).length < 1000000000 := by rw [HE.out, List.length_append, nats_length] at hlen; exact (by have : (⟨#[110, 111, 116, 32]⟩ : ByteArray).size = 4 := rfl; omega)
 have A3 := Lib.hid a3
 have H0 := Lib.hid h0
 have HLEN := Lib.hid h2
 clear hlen a1 a2 a3 h0 h2
 have e0 := (Fr.of_below HW.out).cells a0
 have hbl := World.block_lt_of_cell? W _ e0
 go_enter Tryd.func76, Tryd.ntmps76
 go_wp2_with fail
 refine calls_fresh (fun V => WSt w0 W b W.heap.size (W.heap.size + 1) adE D V) (WSt.start HW.out HB.out) ?_
 intro V hV
 have H := Lib.hid hV
 have c1 := hV.c1
 have c2 := hV.c2
 clear e0 hbl
 have e0 := (Fr.of_below hV.w0V).cells a0
 clear hV
 refine (pol_level _ _).mono ?_
 rintro e w1 ⟨rfl, rfl⟩
 go_wp2_with fail
 have HS := Lib.hid H.out.size
 have h1 : D.length + (⟨#[110, 111, 116, 32]⟩ : ByteArray).size < 1000000000 := by show D.length + 4 < _; have := HLEN.out; omega
 have HC := bld_strF w0.heap.size b D ⟨#[110, 111, 116, 32]⟩ _ H.out.bl h1 HS.out
 clear h1
 refine HC.mono ?_
 rintro e w1 ⟨rfl, hbl, hbw, hbf⟩
 have H := Lib.hid (H.out.step hbl hbw hbf)
 clear HC hbl hbw hbf c1 c2 e0
 have c1 := H.out.c1
 have c2 := H.out.c2
 have e3 := (Fr.of_below H.out.w0V).cells A3.out
 have k1 : 0 < ([x] : List Ex).length := by simp
 go_wp2_with fail
 go_still_tail 6, (by kernel_rfl)
 go_wp2_with fail
 have H := Lib.hid (H.out.fr (Fr.refl [] w1).drew)
 have h1 : (D ++ nats ⟨#[110, 111, 116, 32]⟩).length + (Ex.text x 3).length < 1000000000 := by rw [List.length_append, nats_length]; have := HLEN.out; exact (by have : (⟨#[110, 111, 116, 32]⟩ : ByteArray).size = 4 := rfl; omega)
 have HC := H0.out _ _ 3 H.out.w0V H.out.bl h1
 clear h1
 refine HC.mono ?_
 rintro e w2 ⟨rfl, hbl, hbw, hbf⟩
 have H := Lib.hid (H.out.step hbl hbw hbf)
 clear HC hbl hbw hbf c1 c2 e3
 go_wp2_with fail
 go_end0
 refine ⟨rfl, ?_, H.out.bw, H.out.bf⟩
 rw [HE.out]
 have h := H.out.bl
 rw [List.append_assoc] at h
 exact h
set_option maxHeartbeats 1000000 in
set_option maxRecDepth 100000 in
theorem write_7 (w0 W : World) (b : Nat) (adE ad : Addr) (op : Int) (s : ByteArray) (n p : Int) (q : Option Addr) (x y : Ex) (L : List Ex) (c : Nat) (D : List Nat) (asked : Int)
  (h5 : Five w0 adE [.int .i64 op, .string s, .int .i64 n, .slice q L.length c, .int .i64 p]) (hW : Below w0.heap.size w0 W) (hB : Bld w0.heap.size b D W) (hl : ¬ Pol.level op < asked)
  (hop : op = 7) (hL : L = [x, y]) (hq : q = some ad) (h0 : Writes w0 b x ad) (hy : Writes w0 b y (ad.add 5)) (hlen : D.length + (Ex.body op s n L).length < 1000000000) :
  Calls Tryd.prog 76 #[.pointer (some ⟨b, 0, none⟩), .pointer (some adE), .int .i64 asked] W fun e w' => e = .returned (.tuple #[]) ∧ Bld w0.heap.size b (D ++ Ex.body op s n L) w' ∧ Below w0.heap.size W w' ∧ BFr b W w' := by
 obtain ⟨v0, v1, v2, v3, v4, hv, a0, a1, a2, a3, a4⟩ := h5
 simp only [List.cons.injEq, and_true] at hv
 obtain ⟨rfl, rfl, rfl, rfl, rfl⟩ := hv
 have HW := Lib.hid hW
 have HB := Lib.hid hB
 clear hW hB
 subst hop
 subst hL
 subst hq
 have HE : Hid (Ex.body 7 s n [x, y] = Ex.text x 2 ++ (nats (⟨#[32]⟩ ++ ⟨#[97, 110, 100]⟩ ++ ⟨#[32]⟩) ++ Ex.text y 3)) := Ex.body_two s n x y (by decide) (by decide)
 have hz : (⟨#[32]⟩ ++ ⟨#[97, 110, 100]⟩ ++ ⟨#[32]⟩ : ByteArray).size = (⟨#[97, 110, 100]⟩ : ByteArray).size + 2 := rfl
 have h2 : D.length + (Ex.text x 2).length + ((⟨#[97, 110, 100]⟩ : ByteArray).size + 2) + (Ex.text y 3).length < 1000000000 := by rw [HE.out, List.length_append, List.length_append, nats_length, hz] at hlen; omega
 have H5 : Hid (Five w0 adE [.int .i64 7, .string s, .int .i64 n, .slice (some ad) 2 c, .int .i64 p]) := ⟨_, _, _, _, _, rfl, a0, a1, a2, a3, by assumption⟩
 have H0 := Lib.hid h0
 have HY := Lib.hid hy
 have HLEN := Lib.hid h2
 clear hlen a1 a2 a3 h0 h2 hy hz
 have hmf : ∀ fn first cap w, (Instr.makeFunc fn first cap).run Tryd.prog w = .ok (.func fn first cap) w := fun _ _ _ _ => rfl
 skip
 have e0 := (Fr.of_below HW.out).cells a0
 have hbl := World.block_lt_of_cell? W _ e0
 go_enter Tryd.func76, Tryd.ntmps76
 go_wp2_with fail
 refine calls_fresh (fun V => WSt w0 W b W.heap.size (W.heap.size + 1) adE D V) (WSt.start HW.out HB.out) ?_
 intro V hV
 have H := Lib.hid hV
 have c1 := hV.c1
 have c2 := hV.c2
 clear e0 hbl
 have e0 := (Fr.of_below hV.w0V).cells a0
 clear hV
 refine (pol_level _ _).mono ?_
 rintro e w1 ⟨rfl, rfl⟩
 go_wp2_with fail
 skip
 have HC := write_two w0 _ b W.heap.size (W.heap.size + 1) adE ad 7 s n p 2 c x y ⟨#[97, 110, 100]⟩ 2 3 D H.out.b1 H.out.b2 H.out.n1 H.out.n2 H5.out (by omega) (by omega) H.out.w0V H.out.bl H0.out HY.out HLEN.out
 refine HC.mono ?_
 rintro e w1 ⟨rfl, hbl, hbw, hbf⟩
 have H := Lib.hid (H.out.step hbl hbw hbf)
 clear HC hbl hbw hbf c1 c2 e0
 go_wp2_with fail
 go_end0
 refine ⟨rfl, ?_, H.out.bw, H.out.bf⟩
 rw [HE.out]
 exact H.out.bl
set_option maxHeartbeats 1000000 in
set_option maxRecDepth 100000 in
theorem write_8 (w0 W : World) (b : Nat) (adE ad : Addr) (op : Int) (s : ByteArray) (n p : Int) (q : Option Addr) (x y : Ex) (L : List Ex) (c : Nat) (D : List Nat) (asked : Int)
  (h5 : Five w0 adE [.int .i64 op, .string s, .int .i64 n, .slice q L.length c, .int .i64 p]) (hW : Below w0.heap.size w0 W) (hB : Bld w0.heap.size b D W) (hl : ¬ Pol.level op < asked)
  (hop : op = 8) (hL : L = [x, y]) (hq : q = some ad) (h0 : Writes w0 b x ad) (hy : Writes w0 b y (ad.add 5)) (hlen : D.length + (Ex.body op s n L).length < 1000000000) :
  Calls Tryd.prog 76 #[.pointer (some ⟨b, 0, none⟩), .pointer (some adE), .int .i64 asked] W fun e w' => e = .returned (.tuple #[]) ∧ Bld w0.heap.size b (D ++ Ex.body op s n L) w' ∧ Below w0.heap.size W w' ∧ BFr b W w' := by
 obtain ⟨v0, v1, v2, v3, v4, hv, a0, a1, a2, a3, a4⟩ := h5
 simp only [List.cons.injEq, and_true] at hv
 obtain ⟨rfl, rfl, rfl, rfl, rfl⟩ := hv
 have HW := Lib.hid hW
 have HB := Lib.hid hB
 clear hW hB
 subst hop
 subst hL
 subst hq
 have HE : Hid (Ex.body 8 s n [x, y] = Ex.text x 1 ++ (nats (⟨#[32]⟩ ++ ⟨#[111, 114]⟩ ++ ⟨#[32]⟩) ++ Ex.text y 2)) := Ex.body_two s n x y (by decide) (by decide)
 have hz : (⟨#[32]⟩ ++ ⟨#[111, 114]⟩ ++ ⟨#[32]⟩ : ByteArray).size = (⟨#[111, 114]⟩ : ByteArray).size + 2 := rfl
 have h2 : D.length + (Ex.text x 1).length + ((⟨#[111, 114]⟩ : ByteArray).size + 2) + (Ex.text y 2).length < 1000000000 := by rw [HE.out, List.length_append, List.length_append, nats_length, hz] at hlen; omega
 have H5 : Hid (Five w0 adE [.int .i64 8, .string s, .int .i64 n, .slice (some ad) 2 c, .int .i64 p]) := ⟨_, _, _, _, _, rfl, a0, a1, a2, a3, by assumption⟩
 have H0 := Lib.hid h0
 have HY := Lib.hid hy
 have HLEN := Lib.hid h2
 clear hlen a1 a2 a3 h0 h2 hy hz
 have hmf : ∀ fn first cap w, (Instr.makeFunc fn first cap).run Tryd.prog w = .ok (.func fn first cap) w := fun _ _ _ _ => rfl
 skip
 have e0 := (Fr.of_below HW.out).cells a0
 have hbl := World.block_lt_of_cell? W _ e0
 go_enter Tryd.func76, Tryd.ntmps76
 go_wp2_with fail
 refine calls_fresh (fun V => WSt w0 W b W.heap.size (W.heap.size + 1) adE D V) (WSt.start HW.out HB.out) ?_
 intro V hV
 have H := Lib.hid hV
 have c1 := hV.c1
 have c2 := hV.c2
 clear e0 hbl
 have e0 := (Fr.of_below hV.w0V).cells a0
 clear hV
 refine (pol_level _ _).mono ?_
 rintro e w1 ⟨rfl, rfl⟩
 go_wp2_with fail
 skip
 have HC := write_two w0 _ b W.heap.size (W.heap.size + 1) adE ad 8 s n p 2 c x y ⟨#[111, 114]⟩ 1 2 D H.out.b1 H.out.b2 H.out.n1 H.out.n2 H5.out (by omega) (by omega) H.out.w0V H.out.bl H0.out HY.out HLEN.out
 refine HC.mono ?_
 rintro e w1 ⟨rfl, hbl, hbw, hbf⟩
 have H := Lib.hid (H.out.step hbl hbw hbf)
 clear HC hbl hbw hbf c1 c2 e0
 go_wp2_with fail
 go_end0
 refine ⟨rfl, ?_, H.out.bw, H.out.bf⟩
 rw [HE.out]
 exact H.out.bl
end Go.Proofs.YtgklmpooonnmiaaDoor

namespace Go.Proofs.YtgklmpooonnmiaaDoor
open Go.RowKit
set_option maxHeartbeats 1000000 in
set_option maxRecDepth 100000 in
theorem write_9 (w0 W : World) (b : Nat) (adE ad : Addr) (op : Int) (s : ByteArray) (n p : Int) (q : Option Addr) (x y : Ex) (L : List Ex) (c : Nat) (D : List Nat) (asked : Int)
  (h5 : Five w0 adE [.int .i64 op, .string s, .int .i64 n, .slice q L.length c, .int .i64 p]) (hW : Below w0.heap.size w0 W) (hB : Bld w0.heap.size b D W) (hl : ¬ Pol.level op < asked)
  (hop : op = 9) (hL : L = [x, y]) (hq : q = some ad) (h0 : Writes w0 b x ad) (hy : Writes w0 b y (ad.add 5)) (hlen : D.length + (Ex.body op s n L).length < 1000000000) :
  Calls Tryd.prog 76 #[.pointer (some ⟨b, 0, none⟩), .pointer (some adE), .int .i64 asked] W fun e w' => e = .returned (.tuple #[]) ∧ Bld w0.heap.size b (D ++ Ex.body op s n L) w' ∧ Below w0.heap.size W w' ∧ BFr b W w' := by
 obtain ⟨v0, v1, v2, v3, v4, hv, a0, a1, a2, a3, a4⟩ := h5
 simp only [List.cons.injEq, and_true] at hv
 obtain ⟨rfl, rfl, rfl, rfl, rfl⟩ := hv
 have HW := Lib.hid hW
 have HB := Lib.hid hB
 clear hW hB
 subst hop
 subst hL
 subst hq
 have HE : Hid (Ex.body 9 s n [x, y] = Ex.text x 5 ++ (nats (⟨#[32]⟩ ++ ⟨#[61]⟩ ++ ⟨#[32]⟩) ++ Ex.text y 5)) := Ex.body_two s n x y (by decide) (by decide)
 have hz : (⟨#[32]⟩ ++ ⟨#[61]⟩ ++ ⟨#[32]⟩ : ByteArray).size = (⟨#[61]⟩ : ByteArray).size + 2 := rfl
 have h2 : D.length + (Ex.text x 5).length + ((⟨#[61]⟩ : ByteArray).size + 2) + (Ex.text y 5).length < 1000000000 := by rw [HE.out, List.length_append, List.length_append, nats_length, hz] at hlen; omega
 have H5 : Hid (Five w0 adE [.int .i64 9, .string s, .int .i64 n, .slice (some ad) 2 c, .int .i64 p]) := ⟨_, _, _, _, _, rfl, a0, a1, a2, a3, by assumption⟩
 have H0 := Lib.hid h0
 have HY := Lib.hid hy
 have HLEN := Lib.hid h2
 clear hlen a1 a2 a3 h0 h2 hy hz
 have hmf : ∀ fn first cap w, (Instr.makeFunc fn first cap).run Tryd.prog w = .ok (.func fn first cap) w := fun _ _ _ _ => rfl
 have i0 : ∀ w, (Instr.index 158 (.agg #[.string ⟨#[]⟩, .string ⟨#[]⟩, .string ⟨#[]⟩, .string ⟨#[]⟩, .string ⟨#[]⟩, .string ⟨#[]⟩, .string ⟨#[]⟩, .string ⟨#[]⟩, .string ⟨#[]⟩, .string ⟨#[61]⟩, .string ⟨#[33, 61]⟩, .string ⟨#[60]⟩, .string ⟨#[60, 61]⟩, .string ⟨#[]⟩, .string ⟨#[104, 97, 115]⟩]) (.int .i64 9)).run Tryd.prog w = .ok (.string ⟨#[61]⟩) w := fun _ => by kernel_rfl
 have e0 := (Fr.of_below HW.out).cells a0
 have hbl := World.block_lt_of_cell? W _ e0
 go_enter Tryd.func76, Tryd.ntmps76
 go_wp2_with fail
 refine calls_fresh (fun V => WSt w0 W b W.heap.size (W.heap.size + 1) adE D V) (WSt.start HW.out HB.out) ?_
 intro V hV
 have H := Lib.hid hV
 have c1 := hV.c1
 have c2 := hV.c2
 clear e0 hbl
 have e0 := (Fr.of_below hV.w0V).cells a0
 clear hV
 refine (pol_level _ _).mono ?_
 rintro e w1 ⟨rfl, rfl⟩
 go_wp2_with fail
 skip
 have HC := write_two w0 _ b W.heap.size (W.heap.size + 1) adE ad 9 s n p 2 c x y ⟨#[61]⟩ 5 5 D H.out.b1 H.out.b2 H.out.n1 H.out.n2 H5.out (by omega) (by omega) H.out.w0V H.out.bl H0.out HY.out HLEN.out
 refine HC.mono ?_
 rintro e w1 ⟨rfl, hbl, hbw, hbf⟩
 have H := Lib.hid (H.out.step hbl hbw hbf)
 clear HC hbl hbw hbf c1 c2 e0
 go_wp2_with fail
 go_end0
 refine ⟨rfl, ?_, H.out.bw, H.out.bf⟩
 rw [HE.out]
 exact H.out.bl
set_option maxHeartbeats 1000000 in
set_option maxRecDepth 100000 in
theorem write_10 (w0 W : World) (b : Nat) (adE ad : Addr) (op : Int) (s : ByteArray) (n p : Int) (q : Option Addr) (x y : Ex) (L : List Ex) (c : Nat) (D : List Nat) (asked : Int)
  (h5 : Five w0 adE [.int .i64 op, .string s, .int .i64 n, .slice q L.length c, .int .i64 p]) (hW : Below w0.heap.size w0 W) (hB : Bld w0.heap.size b D W) (hl : ¬ Pol.level op < asked)
  (hop : op = 10) (hL : L = [x, y]) (hq : q = some ad) (h0 : Writes w0 b x ad) (hy : Writes w0 b y (ad.add 5)) (hlen : D.length + (Ex.body op s n L).length < 1000000000) :
  Calls Tryd.prog 76 #[.pointer (some ⟨b, 0, none⟩), .pointer (some adE), .int .i64 asked] W fun e w' => e = .returned (.tuple #[]) ∧ Bld w0.heap.size b (D ++ Ex.body op s n L) w' ∧ Below w0.heap.size W w' ∧ BFr b W w' := by
 obtain ⟨v0, v1, v2, v3, v4, hv, a0, a1, a2, a3, a4⟩ := h5
 simp only [List.cons.injEq, and_true] at hv
 obtain ⟨rfl, rfl, rfl, rfl, rfl⟩ := hv
 have HW := Lib.hid hW
 have HB := Lib.hid hB
 clear hW hB
 subst hop
 subst hL
 subst hq
 have HE : Hid (Ex.body 10 s n [x, y] = Ex.text x 5 ++ (nats (⟨#[32]⟩ ++ ⟨#[33, 61]⟩ ++ ⟨#[32]⟩) ++ Ex.text y 5)) := Ex.body_two s n x y (by decide) (by decide)
 have hz : (⟨#[32]⟩ ++ ⟨#[33, 61]⟩ ++ ⟨#[32]⟩ : ByteArray).size = (⟨#[33, 61]⟩ : ByteArray).size + 2 := rfl
 have h2 : D.length + (Ex.text x 5).length + ((⟨#[33, 61]⟩ : ByteArray).size + 2) + (Ex.text y 5).length < 1000000000 := by rw [HE.out, List.length_append, List.length_append, nats_length, hz] at hlen; omega
 have H5 : Hid (Five w0 adE [.int .i64 10, .string s, .int .i64 n, .slice (some ad) 2 c, .int .i64 p]) := ⟨_, _, _, _, _, rfl, a0, a1, a2, a3, by assumption⟩
 have H0 := Lib.hid h0
 have HY := Lib.hid hy
 have HLEN := Lib.hid h2
 clear hlen a1 a2 a3 h0 h2 hy hz
 have hmf : ∀ fn first cap w, (Instr.makeFunc fn first cap).run Tryd.prog w = .ok (.func fn first cap) w := fun _ _ _ _ => rfl
 have i0 : ∀ w, (Instr.index 158 (.agg #[.string ⟨#[]⟩, .string ⟨#[]⟩, .string ⟨#[]⟩, .string ⟨#[]⟩, .string ⟨#[]⟩, .string ⟨#[]⟩, .string ⟨#[]⟩, .string ⟨#[]⟩, .string ⟨#[]⟩, .string ⟨#[61]⟩, .string ⟨#[33, 61]⟩, .string ⟨#[60]⟩, .string ⟨#[60, 61]⟩, .string ⟨#[]⟩, .string ⟨#[104, 97, 115]⟩]) (.int .i64 10)).run Tryd.prog w = .ok (.string ⟨#[33, 61]⟩) w := fun _ => by kernel_rfl
 have e0 := (Fr.of_below HW.out).cells a0
 have hbl := World.block_lt_of_cell? W _ e0
 go_enter Tryd.func76, Tryd.ntmps76
 go_wp2_with fail
 refine calls_fresh (fun V => WSt w0 W b W.heap.size (W.heap.size + 1) adE D V) (WSt.start HW.out HB.out) ?_
 intro V hV
 have H := Lib.hid hV
 have c1 := hV.c1
 have c2 := hV.c2
 clear e0 hbl
 have e0 := (Fr.of_below hV.w0V).cells a0
 clear hV
 refine (pol_level _ _).mono ?_
 rintro e w1 ⟨rfl, rfl⟩
 go_wp2_with fail
 skip
 have HC := write_two w0 _ b W.heap.size (W.heap.size + 1) adE ad 10 s n p 2 c x y ⟨#[33, 61]⟩ 5 5 D H.out.b1 H.out.b2 H.out.n1 H.out.n2 H5.out (by omega) (by omega) H.out.w0V H.out.bl H0.out HY.out HLEN.out
 refine HC.mono ?_
 rintro e w1 ⟨rfl, hbl, hbw, hbf⟩
 have H := Lib.hid (H.out.step hbl hbw hbf)
 clear HC hbl hbw hbf c1 c2 e0
 go_wp2_with fail
 go_end0
 refine ⟨rfl, ?_, H.out.bw, H.out.bf⟩
 rw [HE.out]
 exact H.out.bl
set_option maxHeartbeats 1000000 in
set_option maxRecDepth 100000 in
theorem write_11 (w0 W : World) (b : Nat) (adE ad : Addr) (op : Int) (s : ByteArray) (n p : Int) (q : Option Addr) (x y : Ex) (L : List Ex) (c : Nat) (D : List Nat) (asked : Int)
  (h5 : Five w0 adE [.int .i64 op, .string s, .int .i64 n, .slice q L.length c, .int .i64 p]) (hW : Below w0.heap.size w0 W) (hB : Bld w0.heap.size b D W) (hl : ¬ Pol.level op < asked)
  (hop : op = 11) (hL : L = [x, y]) (hq : q = some ad) (h0 : Writes w0 b x ad) (hy : Writes w0 b y (ad.add 5)) (hlen : D.length + (Ex.body op s n L).length < 1000000000) :
  Calls Tryd.prog 76 #[.pointer (some ⟨b, 0, none⟩), .pointer (some adE), .int .i64 asked] W fun e w' => e = .returned (.tuple #[]) ∧ Bld w0.heap.size b (D ++ Ex.body op s n L) w' ∧ Below w0.heap.size W w' ∧ BFr b W w' := by
 obtain ⟨v0, v1, v2, v3, v4, hv, a0, a1, a2, a3, a4⟩ := h5
 simp only [List.cons.injEq, and_true] at hv
 obtain ⟨rfl, rfl, rfl, rfl, rfl⟩ := hv
 have HW := Lib.hid hW
 have HB := Lib.hid hB
 clear hW hB
 subst hop
 subst hL
 subst hq
 have HE : Hid (Ex.body 11 s n [x, y] = Ex.text x 5 ++ (nats (⟨#[32]⟩ ++ ⟨#[60]⟩ ++ ⟨#[32]⟩) ++ Ex.text y 5)) := Ex.body_two s n x y (by decide) (by decide)
 have hz : (⟨#[32]⟩ ++ ⟨#[60]⟩ ++ ⟨#[32]⟩ : ByteArray).size = (⟨#[60]⟩ : ByteArray).size + 2 := rfl
 have h2 : D.length + (Ex.text x 5).length + ((⟨#[60]⟩ : ByteArray).size + 2) + (Ex.text y 5).length < 1000000000 := by rw [HE.out, List.length_append, List.length_append, nats_length, hz] at hlen; omega
 have H5 : Hid (Five w0 adE [.int .i64 11, .string s, .int .i64 n, .slice (some ad) 2 c, .int .i64 p]) := ⟨_, _, _, _, _, rfl, a0, a1, a2, a3, by assumption⟩
 have H0 := Lib.hid h0
 have HY := Lib.hid hy
 have HLEN := Lib.hid h2
 clear hlen a1 a2 a3 h0 h2 hy hz
 have hmf : ∀ fn first cap w, (Instr.makeFunc fn first cap).run Tryd.prog w = .ok (.func fn first cap) w := fun _ _ _ _ => rfl
 have i0 : ∀ w, (Instr.index 158 (.agg #[.string ⟨#[]⟩, .string ⟨#[]⟩, .string ⟨#[]⟩, .string ⟨#[]⟩, .string ⟨#[]⟩, .string ⟨#[]⟩, .string ⟨#[]⟩, .string ⟨#[]⟩, .string ⟨#[]⟩, .string ⟨#[61]⟩, .string ⟨#[33, 61]⟩, .string ⟨#[60]⟩, .string ⟨#[60, 61]⟩, .string ⟨#[]⟩, .string ⟨#[104, 97, 115]⟩]) (.int .i64 11)).run Tryd.prog w = .ok (.string ⟨#[60]⟩) w := fun _ => by kernel_rfl
 have e0 := (Fr.of_below HW.out).cells a0
 have hbl := World.block_lt_of_cell? W _ e0
 go_enter Tryd.func76, Tryd.ntmps76
 go_wp2_with fail
 refine calls_fresh (fun V => WSt w0 W b W.heap.size (W.heap.size + 1) adE D V) (WSt.start HW.out HB.out) ?_
 intro V hV
 have H := Lib.hid hV
 have c1 := hV.c1
 have c2 := hV.c2
 clear e0 hbl
 have e0 := (Fr.of_below hV.w0V).cells a0
 clear hV
 refine (pol_level _ _).mono ?_
 rintro e w1 ⟨rfl, rfl⟩
 go_wp2_with fail
 skip
 have HC := write_two w0 _ b W.heap.size (W.heap.size + 1) adE ad 11 s n p 2 c x y ⟨#[60]⟩ 5 5 D H.out.b1 H.out.b2 H.out.n1 H.out.n2 H5.out (by omega) (by omega) H.out.w0V H.out.bl H0.out HY.out HLEN.out
 refine HC.mono ?_
 rintro e w1 ⟨rfl, hbl, hbw, hbf⟩
 have H := Lib.hid (H.out.step hbl hbw hbf)
 clear HC hbl hbw hbf c1 c2 e0
 go_wp2_with fail
 go_end0
 refine ⟨rfl, ?_, H.out.bw, H.out.bf⟩
 rw [HE.out]
 exact H.out.bl
set_option maxHeartbeats 1000000 in
set_option maxRecDepth 100000 in
theorem write_12 (w0 W : World) (b : Nat) (adE ad : Addr) (op : Int) (s : ByteArray) (n p : Int) (q : Option Addr) (x y : Ex) (L : List Ex) (c : Nat) (D : List Nat) (asked : Int)
  (h5 : Five w0 adE [.int .i64 op, .string s, .int .i64 n, .slice q L.length c, .int .i64 p]) (hW : Below w0.heap.size w0 W) (hB : Bld w0.heap.size b D W) (hl : ¬ Pol.level op < asked)
  (hop : op = 12) (hL : L = [x, y]) (hq : q = some ad) (h0 : Writes w0 b x ad) (hy : Writes w0 b y (ad.add 5)) (hlen : D.length + (Ex.body op s n L).length < 1000000000) :
  Calls Tryd.prog 76 #[.pointer (some ⟨b, 0, none⟩), .pointer (some adE), .int .i64 asked] W fun e w' => e = .returned (.tuple #[]) ∧ Bld w0.heap.size b (D ++ Ex.body op s n L) w' ∧ Below w0.heap.size W w' ∧ BFr b W w' := by
 obtain ⟨v0, v1, v2, v3, v4, hv, a0, a1, a2, a3, a4⟩ := h5
 simp only [List.cons.injEq, and_true] at hv
 obtain ⟨rfl, rfl, rfl, rfl, rfl⟩ := hv
 have HW := Lib.hid hW
 have HB := Lib.hid hB
 clear hW hB
 subst hop
 subst hL
 subst hq
 have HE : Hid (Ex.body 12 s n [x, y] = Ex.text x 5 ++ (nats (⟨#[32]⟩ ++ ⟨#[60, 61]⟩ ++ ⟨#[32]⟩) ++ Ex.text y 5)) := Ex.body_two s n x y (by decide) (by decide)
 have hz : (⟨#[32]⟩ ++ ⟨#[60, 61]⟩ ++ ⟨#[32]⟩ : ByteArray).size = (⟨#[60, 61]⟩ : ByteArray).size + 2 := rfl
 have h2 : D.length + (Ex.text x 5).length + ((⟨#[60, 61]⟩ : ByteArray).size + 2) + (Ex.text y 5).length < 1000000000 := by rw [HE.out, List.length_append, List.length_append, nats_length, hz] at hlen; omega
 have H5 : Hid (Five w0 adE [.int .i64 12, .string s, .int .i64 n, .slice (some ad) 2 c, .int .i64 p]) := ⟨_, _, _, _, _, rfl, a0, a1, a2, a3, by assumption⟩
 have H0 := Lib.hid h0
 have HY := Lib.hid hy
 have HLEN := Lib.hid h2
 clear hlen a1 a2 a3 h0 h2 hy hz
 have hmf : ∀ fn first cap w, (Instr.makeFunc fn first cap).run Tryd.prog w = .ok (.func fn first cap) w := fun _ _ _ _ => rfl
 have i0 : ∀ w, (Instr.index 158 (.agg #[.string ⟨#[]⟩, .string ⟨#[]⟩, .string ⟨#[]⟩, .string ⟨#[]⟩, .string ⟨#[]⟩, .string ⟨#[]⟩, .string ⟨#[]⟩, .string ⟨#[]⟩, .string ⟨#[]⟩, .string ⟨#[61]⟩, .string ⟨#[33, 61]⟩, .string ⟨#[60]⟩, .string ⟨#[60, 61]⟩, .string ⟨#[]⟩, .string ⟨#[104, 97, 115]⟩]) (.int .i64 12)).run Tryd.prog w = .ok (.string ⟨#[60, 61]⟩) w := fun _ => by kernel_rfl
 have e0 := (Fr.of_below HW.out).cells a0
 have hbl := World.block_lt_of_cell? W _ e0
 go_enter Tryd.func76, Tryd.ntmps76
 go_wp2_with fail
 refine calls_fresh (fun V => WSt w0 W b W.heap.size (W.heap.size + 1) adE D V) (WSt.start HW.out HB.out) ?_
 intro V hV
 have H := Lib.hid hV
 have c1 := hV.c1
 have c2 := hV.c2
 clear e0 hbl
 have e0 := (Fr.of_below hV.w0V).cells a0
 clear hV
 refine (pol_level _ _).mono ?_
 rintro e w1 ⟨rfl, rfl⟩
 go_wp2_with fail
 skip
 have HC := write_two w0 _ b W.heap.size (W.heap.size + 1) adE ad 12 s n p 2 c x y ⟨#[60, 61]⟩ 5 5 D H.out.b1 H.out.b2 H.out.n1 H.out.n2 H5.out (by omega) (by omega) H.out.w0V H.out.bl H0.out HY.out HLEN.out
 refine HC.mono ?_
 rintro e w1 ⟨rfl, hbl, hbw, hbf⟩
 have H := Lib.hid (H.out.step hbl hbw hbf)
 clear HC hbl hbw hbf c1 c2 e0
 go_wp2_with fail
 go_end0
 refine ⟨rfl, ?_, H.out.bw, H.out.bf⟩
 rw [HE.out]
 exact H.out.bl
set_option maxHeartbeats 1000000 in
set_option maxRecDepth 100000 in
theorem write_14 (w0 W : World) (b : Nat) (adE ad : Addr) (op : Int) (s : ByteArray) (n p : Int) (q : Option Addr) (x y : Ex) (L : List Ex) (c : Nat) (D : List Nat) (asked : Int)
  (h5 : Five w0 adE [.int .i64 op, .string s, .int .i64 n, .slice q L.length c, .int .i64 p]) (hW : Below w0.heap.size w0 W) (hB : Bld w0.heap.size b D W) (hl : ¬ Pol.level op < asked)
  (hop : op = 14) (hL : L = [x, y]) (hq : q = some ad) (h0 : Writes w0 b x ad) (hy : Writes w0 b y (ad.add 5)) (hlen : D.length + (Ex.body op s n L).length < 1000000000) :
  Calls Tryd.prog 76 #[.pointer (some ⟨b, 0, none⟩), .pointer (some adE), .int .i64 asked] W fun e w' => e = .returned (.tuple #[]) ∧ Bld w0.heap.size b (D ++ Ex.body op s n L) w' ∧ Below w0.heap.size W w' ∧ BFr b W w' := by
 obtain ⟨v0, v1, v2, v3, v4, hv, a0, a1, a2, a3, a4⟩ := h5
 simp only [List.cons.injEq, and_true] at hv
 obtain ⟨rfl, rfl, rfl, rfl, rfl⟩ := hv
 have HW := Lib.hid hW
 have HB := Lib.hid hB
 clear hW hB
 subst hop
 subst hL
 subst hq
 have HE : Hid (Ex.body 14 s n [x, y] = Ex.text x 5 ++ (nats (⟨#[32]⟩ ++ ⟨#[104, 97, 115]⟩ ++ ⟨#[32]⟩) ++ Ex.text y 5)) := Ex.body_two s n x y (by decide) (by decide)
 have hz : (⟨#[32]⟩ ++ ⟨#[104, 97, 115]⟩ ++ ⟨#[32]⟩ : ByteArray).size = (⟨#[104, 97, 115]⟩ : ByteArray).size + 2 := rfl
 have h2 : D.length + (Ex.text x 5).length + ((⟨#[104, 97, 115]⟩ : ByteArray).size + 2) + (Ex.text y 5).length < 1000000000 := by rw [HE.out, List.length_append, List.length_append, nats_length, hz] at hlen; omega
 have H5 : Hid (Five w0 adE [.int .i64 14, .string s, .int .i64 n, .slice (some ad) 2 c, .int .i64 p]) := ⟨_, _, _, _, _, rfl, a0, a1, a2, a3, by assumption⟩
 have H0 := Lib.hid h0
 have HY := Lib.hid hy
 have HLEN := Lib.hid h2
 clear hlen a1 a2 a3 h0 h2 hy hz
 have hmf : ∀ fn first cap w, (Instr.makeFunc fn first cap).run Tryd.prog w = .ok (.func fn first cap) w := fun _ _ _ _ => rfl
 have i0 : ∀ w, (Instr.index 158 (.agg #[.string ⟨#[]⟩, .string ⟨#[]⟩, .string ⟨#[]⟩, .string ⟨#[]⟩, .string ⟨#[]⟩, .string ⟨#[]⟩, .string ⟨#[]⟩, .string ⟨#[]⟩, .string ⟨#[]⟩, .string ⟨#[61]⟩, .string ⟨#[33, 61]⟩, .string ⟨#[60]⟩, .string ⟨#[60, 61]⟩, .string ⟨#[]⟩, .string ⟨#[104, 97, 115]⟩]) (.int .i64 14)).run Tryd.prog w = .ok (.string ⟨#[104, 97, 115]⟩) w := fun _ => by kernel_rfl
 have e0 := (Fr.of_below HW.out).cells a0
 have hbl := World.block_lt_of_cell? W _ e0
 go_enter Tryd.func76, Tryd.ntmps76
 go_wp2_with fail
 refine calls_fresh (fun V => WSt w0 W b W.heap.size (W.heap.size + 1) adE D V) (WSt.start HW.out HB.out) ?_
 intro V hV
 have H := Lib.hid hV
 have c1 := hV.c1
 have c2 := hV.c2
 clear e0 hbl
 have e0 := (Fr.of_below hV.w0V).cells a0
 clear hV
 refine (pol_level _ _).mono ?_
 rintro e w1 ⟨rfl, rfl⟩
 go_wp2_with fail
 skip
 have HC := write_two w0 _ b W.heap.size (W.heap.size + 1) adE ad 14 s n p 2 c x y ⟨#[104, 97, 115]⟩ 5 5 D H.out.b1 H.out.b2 H.out.n1 H.out.n2 H5.out (by omega) (by omega) H.out.w0V H.out.bl H0.out HY.out HLEN.out
 refine HC.mono ?_
 rintro e w1 ⟨rfl, hbl, hbw, hbf⟩
 have H := Lib.hid (H.out.step hbl hbw hbf)
 clear HC hbl hbw hbf c1 c2 e0
 go_wp2_with fail
 go_end0
 refine ⟨rfl, ?_, H.out.bw, H.out.bf⟩
 rw [HE.out]
 exact H.out.bl
end Go.Proofs.YtgklmpooonnmiaaDoor
