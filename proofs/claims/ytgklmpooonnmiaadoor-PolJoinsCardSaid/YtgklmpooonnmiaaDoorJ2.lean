/-
  Lemmas and contracts that the proofs over this seat use (UtfNext, Base); no statement of the seat is claimed in this text, and nothing is assumed in it.
-/
import Derived.Test.YtgklmpooonnmiaaDoorJ1
import Derived.Test.YtgklmpooonnmiaaDoorProg
import Derived.Lib.ConvBytes
import Derived.Laws.BytesString
import Derived.Deep.AppendLies
import Derived.Laws.BitsLemmas
import Derived.OwnWalk
set_option linter.unusedVariables false
set_option linter.unusedSimpArgs false
namespace Go.Proofs.YtgklmpooonnmiaaDoor
open Go.RowKit
structure RB (w : World) (p : Option Addr) (n : Nat) (f : Nat → Nat) : Prop where
 at_ : 0 < n → ∃ g o, p = some ⟨g, o, none⟩ ∧ ∀ i, i < n → w.cell? ⟨g, o + i, none⟩ = some (.int .u8 (f i : Nat))
 lt : ∀ i, f i < 256
 len : n ≤ maxLen
theorem RB.fr {w w' : World} {p : Option Addr} {n : Nat} {f : Nat → Nat} (h : RB w p n f) (hF : Fr [] w w') : RB w' p n f :=
 ⟨fun hn => by obtain ⟨g, o, e, hc⟩ := h.at_ hn; exact ⟨g, o, e, fun i hi => hF.cells (hc i hi)⟩, h.lt, h.len⟩
theorem wraps_i64 (n : Int) (h₀ : 0 ≤ n) (h₁ : n < 2 ^ 31) : IntKind.i64.wrap n = n := by rw [IntKind.wrap_i64]; omega
theorem wraps_i64b (n : Int) (h₀ : 0 ≤ n) (h₁ : n < 2 ^ 8) : IntKind.i64.wrap n = n := by rw [IntKind.wrap_i64]; omega
theorem i64_and31 {x : Int} (h₀ : 0 ≤ x) (h₁ : x < 256) : bits .and .i64 x 31 = x % 32 := bits_mask .i64 8 (by decide) wraps_i64b 5 (by decide) x h₀ h₁
theorem i64_and15 {x : Int} (h₀ : 0 ≤ x) (h₁ : x < 256) : bits .and .i64 x 15 = x % 16 := bits_mask .i64 8 (by decide) wraps_i64b 4 (by decide) x h₀ h₁
theorem i64_and7 {x : Int} (h₀ : 0 ≤ x) (h₁ : x < 256) : bits .and .i64 x 7 = x % 8 := bits_mask .i64 8 (by decide) wraps_i64b 3 (by decide) x h₀ h₁
theorem i64_or6 {x y : Int} (hx₀ : 0 ≤ x) (hx : x % 64 = 0) (hx₁ : x < 2147483648) (h₀ : 0 ≤ y) (h₁ : y < 64) : bits .or .i64 x y = x + y :=
 bits_join .i64 31 (by decide) wraps_i64 6 x y hx₀ hx hx₁ h₀ h₁ (by omega)
theorem u8_and192 (x : Nat) (h : x < 256) : bits .and .u8 (x : Int) 192 = ((x / 64 * 64 : Nat) : Int) := by
 have h2 := bits_nat .u8 8 (by decide) wraps_u8 x 192 h (by decide)
 have h3 : ∀ y : Fin 256, y.1 &&& 192 = y.1 / 64 * 64 := by decide +kernel
 have h4 := h3 ⟨x, h⟩
 simp only at h4
 rw [← h4]
 exact h2.1
theorem wide_none {c : Nat} (h1 : ¬ c < 128) (h : c < 192 ∨ 248 ≤ c) : Utf.wide c = 0 := by
 unfold Utf.wide
 rw [if_neg h1]
 rcases h with h | h
 ·rw [if_pos h]
 ·rw [if_neg (by omega), if_neg (by omega), if_neg (by omega), if_neg (by omega)]
theorem wide_two {c : Nat} (h1 : 192 ≤ c) (h : c < 224) : Utf.wide c = 2 := by
 unfold Utf.wide; rw [if_neg (by omega), if_neg (by omega), if_pos h]
theorem wide_three {c : Nat} (h1 : 224 ≤ c) (h : c < 240) : Utf.wide c = 3 := by
 unfold Utf.wide; rw [if_neg (by omega), if_neg (by omega), if_neg (by omega), if_pos h]
theorem wide_four {c : Nat} (h1 : 240 ≤ c) (h : c < 248) : Utf.wide c = 4 := by
 unfold Utf.wide; rw [if_neg (by omega), if_neg (by omega), if_neg (by omega), if_neg (by omega), if_pos h]
theorem first_lt (c : Nat) : Utf.first c < 32 := by
 unfold Utf.first
 split
 ·omega
 ·split <;> omega
theorem pre_lt (f : Nat → Nat) (k : Nat) : Utf.pre f k < 32 * 64 ^ k := by
 induction k with
 | zero => simpa [Utf.pre] using first_lt (f 0)
 | succ k ih => simp only [Utf.pre, Nat.pow_succ]; omega
theorem next_ok {f : Nat → Nat} {n c S : Nat} (hn : ¬ n = 0) (hc : f 0 = c) (h1 : ¬ c < 128) (hS : Utf.wide c = S) (h2 : 2 ≤ S) (hl : ¬ n < S) :
  Utf.next f n = if Utf.cont f (S - 1) = true ∧ Utf.least S ≤ Utf.pre f (S - 1) ∧ Utf.right (Utf.pre f (S - 1)) = true then (some (Utf.pre f (S - 1)), S) else (none, 1) := by
 unfold Utf.next
 rw [if_neg hn, hc, if_neg h1, hS, if_neg (by omega)]
theorem cont_false {f : Nat → Nat} {k m : Nat} (hk : k < m) (h : ¬ f (k + 1) / 64 = 2) : ¬ Utf.cont f m = true := by
 induction m with
 | zero => omega
 | succ m ih =>
  simp only [Utf.cont, Bool.and_eq_true, decide_eq_true_eq]
  rintro ⟨h1, h2⟩
  by_cases e : k = m
  ·subst e; exact h h2
  ·exact ih (by omega) h1
theorem Least.at_ {w : World} (h : Least w) (S : Nat) (h2 : 2 ≤ S) (h4 : S ≤ 4) : w.cell? ⟨1, S, none⟩ = some (.int .i64 (Utf.least S : Nat)) := by
 rw [h.cell]
 match S, h2, h4 with
 | 2, _, _ => rfl
 | 3, _, _ => rfl
 | 4, _, _ => rfl
set_option maxHeartbeats 4000000 in
set_option maxRecDepth 100000 in
theorem utf_next (w : World) (p : Option Addr) (n cap : Nat) (f : Nat → Nat) (hR : RB w p n f) (hcap : n ≤ cap) (hcm : cap ≤ maxLen) (hL : Least w) :
  Calls Tryd.prog 59 #[.slice p n cap] w fun e w' => e = .returned (.tuple #[.int .i64 (letZ (Utf.next f n).1), .int .i64 ((Utf.next f n).2 : Nat)]) ∧ w = w' := by
 have hl := hR.len
 unfold maxLen at hl hcm
 by_cases hn : n = 0
 ·have e : Utf.next f n = (none, 0) := by simp [Utf.next, hn]
  rw [e]
  subst hn
  clear e
  go_enter Tryd.func59, Tryd.ntmps59
  go_wp2
  go_ret2
  exact ⟨rfl, rfl⟩
 obtain ⟨g, o, rfl, hc⟩ := hR.at_ (by omega)
 have hc0 := hc 0 (by omega)
 obtain ⟨c, hcc⟩ : ∃ c, f 0 = c := ⟨_, rfl⟩
 have hclt := hR.lt 0
 rw [hcc] at hc0 hclt
 rw [Nat.add_zero] at hc0
 have hn' : 0 < n := by omega
 have hn2 : ¬ (n : Int) = 0 := by omega
 by_cases h1 : c < 128
 ·have e : Utf.next f n = (some c, 1) := by simp [Utf.next, hn, hcc, h1]
  rw [e]
  have h1' : (c : Int) < 128 := by omega
  clear e hcc hc hL hR
  go_enter Tryd.func59, Tryd.ntmps59
  go_wp2
  go_ret2
  exact ⟨rfl, rfl⟩
 have h1' : ¬ (c : Int) < 128 := by omega
 by_cases h2 : c < 192 ∨ 248 ≤ c
 ·have e : Utf.next f n = (none, 1) := by
   simp [Utf.next, hn, hcc, h1, wide_none h1 h2]
  rw [e]
  clear e hcc hc hL hR hn
  rcases h2 with h2 | h2
  ·have a1 : ¬ (c : Int) ≥ 192 := by omega
   have a2 : ¬ (c : Int) ≥ 224 := by omega
   have a3 : ¬ (c : Int) ≥ 240 := by omega
   go_enter Tryd.func59, Tryd.ntmps59
   go_wp2
   go_ret2
   exact ⟨rfl, rfl⟩
  ·have a1 : (c : Int) ≥ 192 := by omega
   have a2 : (c : Int) ≥ 224 := by omega
   have a3 : (c : Int) ≥ 240 := by omega
   have b1 : ¬ (c : Int) < 224 := by omega
   have b2 : ¬ (c : Int) < 240 := by omega
   have b3 : ¬ (c : Int) < 248 := by omega
   go_enter Tryd.func59, Tryd.ntmps59
   go_wp2
   go_ret2
   exact ⟨rfl, rfl⟩
 have HR := Lib.hid hR
 have HC := Lib.hid hc
 have HCC := Lib.hid hcc
 clear hc hcc hR
 have g1 : (c : Int) ≥ 192 := by omega
 by_cases h3 : c < 224
 case' pos =>
  have a1 : (c : Int) < 224 := by omega
  have hw : Utf.wide c = 2 := wide_two (by omega) h3
  have hfi : bits .and .i64 (c : Int) 31 = ((Utf.first c : Nat) : Int) := by rw [i64_and31 (by omega) (by omega)]; unfold Utf.first; simp [h3]
  have hn3 : ¬ n < Utf.wide c → ¬ (n : Int) < 2 := by rw [hw]; omega
  have hn4 : n < Utf.wide c → (n : Int) < 2 := by rw [hw]; omega
  have hk3 : Hid (∀ k : Nat, k < Utf.wide c - 1 → (k : Int) < 1) := fun k => by rw [hw]; omega
  have hk4 : Hid (∀ k : Nat, ¬ k < Utf.wide c - 1 → ¬ (k : Int) < 1) := fun k => by rw [hw]; omega
 case' neg =>
  have a1 : ¬ (c : Int) < 224 := by omega
  have a2 : (c : Int) ≥ 224 := by omega
  by_cases h4 : c < 240
  case' pos =>
   have a3 : (c : Int) < 240 := by omega
   have hw : Utf.wide c = 3 := wide_three (by omega) h4
   have hfi : bits .and .i64 (c : Int) 15 = ((Utf.first c : Nat) : Int) := by rw [i64_and15 (by omega) (by omega)]; unfold Utf.first; simp [h3, h4]
   have hn3 : ¬ n < Utf.wide c → ¬ (n : Int) < 3 := by rw [hw]; omega
   have hn4 : n < Utf.wide c → (n : Int) < 3 := by rw [hw]; omega
   have hk3 : Hid (∀ k : Nat, k < Utf.wide c - 1 → (k : Int) < 2) := fun k => by rw [hw]; omega
   have hk4 : Hid (∀ k : Nat, ¬ k < Utf.wide c - 1 → ¬ (k : Int) < 2) := fun k => by rw [hw]; omega
  case' neg =>
   have a3 : ¬ (c : Int) < 240 := by omega
   have a4 : (c : Int) ≥ 240 := by omega
   have a5 : (c : Int) < 248 := by omega
   have hw : Utf.wide c = 4 := wide_four (by omega) (by omega)
   have hfi : bits .and .i64 (c : Int) 7 = ((Utf.first c : Nat) : Int) := by rw [i64_and7 (by omega) (by omega)]; unfold Utf.first; simp [h3, h4]
   have hn3 : ¬ n < Utf.wide c → ¬ (n : Int) < 4 := by rw [hw]; omega
   have hn4 : n < Utf.wide c → (n : Int) < 4 := by rw [hw]; omega
   have hk3 : Hid (∀ k : Nat, k < Utf.wide c - 1 → (k : Int) < 3) := fun k => by rw [hw]; omega
   have hk4 : Hid (∀ k : Nat, ¬ k < Utf.wide c - 1 → ¬ (k : Int) < 3) := fun k => by rw [hw]; omega
 all_goals
  have HFI := Lib.hid hfi
  have hfl := first_lt c
  have hw2 : 2 ≤ Utf.wide c := by omega
  by_cases h5 : n < Utf.wide c
  ·have h5' := hn4 h5
   have e : Utf.next f n = (none, 1) := by simp [Utf.next, hn, HCC.out, h1, h5]
   rw [e]
   clear e hn hL h5 hw2 hw hn3 hn4 h1 h2
   go_enter Tryd.func59, Tryd.ntmps59
   go_wp2
   go_ret2
   exact ⟨rfl, rfl⟩
  have h5' := hn3 h5
  have HW := Lib.hid hw
  have HN := Lib.hid hn
  have h1n := Lib.hid h1
  generalize hp : Utf.first c = P0 at *
  have HP := Lib.hid hp
  clear hn3 hn4 hw hn h1 h2 HFI hw2 hp
  go_enter Tryd.func59, Tryd.ntmps59
  go_wp2
  obtain ⟨S, hS⟩ : ∃ S, Hid (S = Utf.wide c) := ⟨_, rfl⟩
  have HN5 := Lib.hid h5
  have HEQ := Lib.hid (next_ok HN.out HCC.out h1n.out hS.out.symm (by rw [hS.out, HW.out]; decide) (by rw [hS.out]; exact h5))
  go_loop [2, 3, 57] (fun l z t => ∃ k : Nat, k ≤ S - 1 ∧ t = .int .i64 k ∧ z = .int .i64 (S : Nat) ∧ l = .int .i64 (Utf.pre f k : Nat) ∧ Utf.cont f k = true) (fun _ _ t => 3 - (intOf t).toNat)
  case atStart => exact ⟨0, by omega, rfl, by rw [hS.out, HW.out]; rfl, by rw [← HP.out, ← HCC.out]; rfl, rfl⟩
  case round =>
   obtain ⟨k, hk, rfl, rfl, rfl, hcont⟩ := hrel
   have hS4 : S ≤ 4 := by rw [hS.out, HW.out]; decide
   have hpl := pre_lt f k
   have hpl2 : 32 * 64 ^ k ≤ 32 * 64 ^ 3 := Nat.mul_le_mul_left _ (Nat.pow_le_pow_right (by decide) (by omega))
   have hpl3 : Utf.pre f k < 8388608 := by omega
   clear hpl hpl2
   have HCO := Lib.hid hcont
   clear hcont
   by_cases hlt : k < S - 1
   ·have hlt' := hk3.out k (by rw [← hS.out]; exact hlt)
    have hx := HC.out (k + 1) (by have := hS.out; omega)
    rw [show o + (k + 1) = o + 1 + k by omega] at hx
    obtain ⟨x, hxx⟩ : ∃ x, Hid (f (k + 1) = x) := ⟨_, rfl⟩
    have hxl := HR.out.lt (k + 1)
    rw [hxx.out] at hx hxl
    have hx1 := u8_and192 x hxl
    by_cases h64 : x / 64 = 2
    ·have hx2 : ((x / 64 * 64 : Nat) : Int) = 128 := by rw [h64]; rfl
     rw [hx2] at hx1
     have y1 : bits .and .u8 (x : Int) 63 = (x : Int) % 64 := u8_and63 (x := (x : Int)) (by omega) (by omega)
     have y2 : bits .or .i64 ((Utf.pre f k : Int) * 64) ((x : Int) % 64) = ((Utf.pre f (k + 1) : Nat) : Int) := by
      rw [i64_or6 (by omega) (by omega) (by omega) (by omega) (by omega)]
      simp only [Utf.pre, hxx.out]; omega
     have hcs : Hid (Utf.cont f (k + 1) = true) := by show _ = _; simp only [Utf.cont, HCO.out, hxx.out, h64]; rfl
     clear hx2
     go_wp2
     go_round
     case rel => exact ⟨k + 1, by omega, by go_num, rfl, rfl, hcs.out⟩
     case measure => simp [intOf]; omega
    ·have hx2 : ¬ ((x / 64 * 64 : Nat) : Int) = 128 := by omega
     have e : Utf.next f n = (none, 1) := by
      rw [HEQ.out, if_neg]
      exact fun h => cont_false hlt (by rw [hxx.out]; exact h64) h.1
     have HE := Lib.hid e
     clear e HEQ hlt
     go_wp2
     go_ret2
     rw [HE.out]
     exact ⟨rfl, rfl⟩
   ·obtain rfl : k = S - 1 := by omega
    have hlt' := hk4.out (S - 1) (by rw [← hS.out]; exact hlt)
    have hLc := hL.at_ (Utf.wide c) (by rw [HW.out]; decide) (by rw [HW.out]; decide)
    have hml : Utf.least (Utf.wide c) = Utf.least S := by rw [hS.out]
    obtain ⟨L, hL'⟩ : ∃ L, Hid (Utf.least S = L) := ⟨_, rfl⟩
    rw [hml, HW.out, hL'.out] at hLc
    clear hml
    obtain ⟨P, hP⟩ : ∃ P, Hid (Utf.pre f (S - 1) = P) := ⟨_, rfl⟩
    have hE := HEQ.out
    rw [HCO.out, hP.out, hL'.out] at hE
    rw [hP.out] at hpl3 ⊢
    have e2 : S = Utf.wide c := hS.out
    rw [HW.out] at e2
    clear hS HEQ hlt hlt' hL' hP HCO hk3 hk4 h5 HN5
    subst e2
    by_cases hm : P < L
    ·have hm' : (P : Int) < (L : Int) := by omega
     have e : Utf.next f n = (none, 1) := by rw [hE, if_neg (fun h => by omega)]
     have HE := Lib.hid e
     clear e hE
     go_wp2_with fail
     go_ret2
     rw [HE.out]
     exact ⟨rfl, rfl⟩
    ·have hm' : ¬ (P : Int) < (L : Int) := by omega
     by_cases hr : Utf.right P = true
     ·have e := hE
      rw [if_pos ⟨rfl, by omega, hr⟩] at e
      have HE := Lib.hid e
      clear e hE
      have hc2 : Calls Tryd.prog 84 #[.int .i64 P] w fun e w' => e = .returned (.bool true) ∧ w = w' := by have := utf_right P w; rw [hr] at this; exact this
      clear hr
      go_wp2_with (go_at_call 84; refine hc2.mono ?_; rintro e w' ⟨rfl, rfl⟩)
      go_ret2
      rw [HE.out]
      exact ⟨rfl, rfl⟩
     ·have e : Utf.next f n = (none, 1) := by rw [hE, if_neg (fun h => hr h.2.2)]
      have HE := Lib.hid e
      have hr' : Utf.right P = false := by simpa using hr
      clear e hE
      have hc2 : Calls Tryd.prog 84 #[.int .i64 P] w fun e w' => e = .returned (.bool false) ∧ w = w' := by have := utf_right P w; rw [hr'] at this; exact this
      clear hr hr'
      go_wp2_with (go_at_call 84; refine hc2.mono ?_; rintro e w' ⟨rfl, rfl⟩)
      go_ret2
      rw [HE.out]
      exact ⟨rfl, rfl⟩
end Go.Proofs.YtgklmpooonnmiaaDoor

namespace Go.Proofs.YtgklmpooonnmiaaDoor
open Go.RowKit
def u8s (l : List Nat) : List Value := l.map fun (x : Nat) => Value.int .u8 (x : Int)
@[simp] theorem u8s_length (l : List Nat) : (u8s l).length = l.length := by simp [u8s]
def nats (s : ByteArray) : List Nat := s.data.toList.map (·.toNat)
theorem nats_length (s : ByteArray) : (nats s).length = s.size := by simp [nats]
theorem nats_lt (s : ByteArray) : ∀ x ∈ nats s, x < 256 := by
 intro x hx
 simp only [nats, List.mem_map] at hx
 obtain ⟨c, _, rfl⟩ := hx
 exact c.toNat_lt
theorem nats_inj {a b : ByteArray} : nats a = nats b ↔ a = b := by
 constructor
 ·intro h
  have h1 : a.data.toList = b.data.toList := List.map_inj_right (fun x y h => UInt8.toNat_inj.1 h) |>.1 h
  cases a; cases b
  simp at h1
  simpa using h1
 ·rintro rfl; rfl
theorem fr_bytes (w : World) (e : TypeId) (s : ByteArray) : Fr [] w (Lib.bytesWorld w e s) :=
 ⟨by simp [Lib.bytesWorld, World.freeze, World.alloc, World.drew, -World.alloc_eq, -World.drew_eq], by simp [Lib.bytesWorld, World.freeze, World.alloc, World.drew, -World.alloc_eq, -World.drew_eq],
  by simp [Lib.bytesWorld, World.freeze, World.alloc, World.drew, -World.alloc_eq, -World.drew_eq], by rw [Lib.bytesWorld_size]; omega, fun k hk _ => Lib.bytesWorld_at_old w e s k hk⟩
theorem grownCap_ge (w : World) (n : Nat) (e : TypeId) : n ≤ grownCap w n 0 e := by simp [grownCap, Question.cut]
theorem grownCap_le (w : World) (n : Nat) (e : TypeId) (h : n ≤ maxLen) : grownCap w n 0 e ≤ maxLen := by
 have : w.tape w.drawn (.appendCap n 0 e) % (2 ^ 63 - n) < 2 ^ 63 - n := Nat.mod_lt _ (by unfold maxLen at h; omega)
 show n + w.tape w.drawn (.appendCap n 0 e) % (2 ^ 63 - n) ≤ maxLen
 unfold maxLen at *
 omega
theorem Fr.grown {w0 w w' : World} {e : TypeId} {size n : Nat} {v : Value} {xs : List Value} (h : Fr [] w0 w) (ho : w.ownsRow w0.heap.size e size v n xs) (hg : w.grownBy w' v.ownBlock) : Fr [] w0 w' :=
 ⟨hg.os.trans h.os, hg.tape.trans h.tape, hg.output.trans h.output, Nat.le_trans h.size hg.size, fun k hk hn => (hg.block k (Nat.lt_of_lt_of_le hk h.size) (by
  intro hc
  rcases ho.2 with ⟨rfl, _⟩ | ⟨g, cap, cur, rfl, hb, _⟩
  ·cases hc
  ·simp [Value.ownBlock] at hc; omega)).trans (h.block k hk hn)⟩
theorem ownsRow_fr {w w' : World} {b n size : Nat} {e : TypeId} {v : Value} {xs : List Value} (h : w.ownsRow b e size v n xs) (hf : Fr [] w w') : w'.ownsRow b e size v n xs := by
 refine ⟨h.1, ?_⟩
 rcases h.2 with h | ⟨g, cap, cur, hv, hb, hg, hr⟩
 ·exact Or.inl h
 ·exact Or.inr ⟨g, cap, cur, hv, hb, hf.row hg (by simp), hr⟩
theorem ownsRow_nil (w : World) (b size : Nat) (e : TypeId) : w.ownsRow b e size (.slice none 0 0) 0 [] := ⟨by simp, Or.inl ⟨rfl, rfl⟩⟩
theorem ownsRow_cell {w : World} {b n : Nat} {e : TypeId} {p : Option Addr} {l c : Nat} {xs : List Value} (h : w.ownsRow b e 1 (.slice p l c) n xs) (j : Nat) (u : Value) (hj : xs[j]? = some u) :
  l = n ∧ l ≤ c ∧ c ≤ maxLen ∧ ∃ g, p = some ⟨g, 0, none⟩ ∧ b ≤ g ∧ g < w.heap.size ∧ w.cell? ⟨g, j, none⟩ = some u := by
 rcases h.2 with ⟨hv, h0⟩ | ⟨g, cap, cur, hv, hb, hg, h1, h2, h3, h4⟩
 ·have := h.1; rw [h0] at this; simp at this; subst this; simp at hj
 ·cases hv
  refine ⟨rfl, h1, h2, g, rfl, hb, row_lt hg, ?_⟩
  rw [cell_of_row w g j cur e (0, 0) hg]
  rw [← h4] at hj
  rw [List.getElem?_take] at hj
  split at hj
  ·simpa using hj
  ·cases hj
def ba (l : List Nat) : ByteArray := ⟨(l.map UInt8.ofNat).toArray⟩
@[simp] theorem ba_size (l : List Nat) : (ba l).size = l.length := by simp [ba, ByteArray.size]
theorem foldl_push (l : List Nat) : ∀ s : ByteArray, (l.map fun (x : Nat) => (x : Int)).foldl (fun r n => r.push (UInt8.ofNat n.toNat)) s = ⟨s.data ++ (l.map UInt8.ofNat).toArray⟩ := by
 induction l with
 | nil => intro s; simp
 | cons a l ih =>
  intro s
  rw [List.map_cons, List.foldl_cons, ih]
  simp [ByteArray.push]
theorem u8s_ints (l : List Nat) : u8s l = (l.map fun (x : Nat) => (x : Int)).map (Value.int .u8) := by simp [u8s]
theorem owns_str {w : World} {b n : Nat} {v : Value} {D : List Nat} (h : w.ownsRow b 5 1 v n (u8s D)) :
  (convert 36 9 v).run Tryd.prog w = .ok (.string (ba D)) w := by
 have hn : D.length = n := by have := h.1; simpa using this
 rcases h.2 with ⟨rfl, h0⟩ | ⟨g, cap, cur, rfl, _⟩
 ·rw [run_convert_bytes_string w 36 9 5 none 0 0 Tryd.underlying36 Tryd.underlying5 Tryd.underlying9]
  obtain rfl : D = [] := List.eq_nil_of_length_eq_zero (by omega)
  rfl
 ·rw [run_convert_bytes_string w 36 9 5 _ n cap Tryd.underlying36 Tryd.underlying5 Tryd.underlying9]
  rw [run_bytesToString w ⟨g, 0, none⟩ n cap (D.map fun (x : Nat) => (x : Int)) ?_, foldl_push]
  ·simp [ba]
  ·have := run_loadCells_list (P := Tryd.prog) w ⟨g, 0, none⟩ (u8s D) (fun j u hj => by
    obtain ⟨_, _, _, g', hg, _, _, hc⟩ := ownsRow_cell h j u hj
    cases hg
    have hadd : (⟨g, 0, none⟩ : Addr).add j = ⟨g, j, none⟩ := by unfold Addr.add; split <;> simp_all
    rw [hadd]; exact hc)
   rw [u8s_length, hn] at this
   rw [this, u8s_ints]
theorem info8 : (Tryd.prog.info? 5).map (fun i => (i.zero, i.size, i.bytes)) = some (some (.int .u8 0), 1, 1) := by kernel_rfl
theorem app8 {ops : Array Oper} {rest : List Oper} {o : Oper} {a : Act} {w : World} {Q : Exit → Act → World → Prop} (hgd : o.guard = none) (s x : Operand)
  (ho : o.op = .call { callee := .builtin .append, args := #[s, x], argTypes := #[36, 36] })
  (w0 : World) (v : Value) (n : Nat) (D : List Nat) (y : Nat) (hs : a.eval s = v) (hx : a.eval x = .slice (some ⟨w.heap.size, 0, none⟩) 1 1)
  (hown : w.ownsRow w0.heap.size 5 1 v n (u8s D)) (hF : Fr [] w0 w) (hn : n < 1000000000)
  (h : ∀ v' w', w'.ownsRow w0.heap.size 5 1 v' (n + 1) (u8s (D ++ [y])) → Fr [] w0 w' → wpList Tryd.prog ops Q rest (a.put o.dst v') w') : wpList Tryd.prog ops Q (o :: rest) a (w.alloc (.cells #[.int .u8 (y : Int)] 5)) := by
 obtain ⟨i, hi, hz0, hz1, hz2⟩ := info_parts info8
 refine wpList_append_lies (w.alloc _) hgd s x _ ho w0.heap.size 5 i (.int .u8 0) 1 1 Tryd.underlying36 hi hz0 hz1 hz2 rfl (by decide) v n (u8s D) hs (ownsRow_fr hown ((Fr.refl _ _).alloc _)) _ 1 1 [.int .u8 (y : Int)] hx rfl (cell_one_new w _ _) (by simp [Value.oneCell']) (by decide) (by unfold maxLen; omega) (by omega) (Nat.le_trans hF.size (by simp)) _ rfl ?_
 intro g cap w' h1 h2 _ _
 have e : u8s (D ++ [y]) = u8s D ++ [.int .u8 (y : Int)] := by simp [u8s]
 exact h _ _ (by rw [e]; exact h1) ((hF.alloc _).grown (ownsRow_fr hown ((Fr.refl _ _).alloc _)) h2)
theorem nats_at (B : ByteArray) (i : Nat) (h : i < B.size) : B.data[i]'h = UInt8.ofNat ((nats B).getD i 0) := by
 have h2 : i < B.data.size := h
 simp [nats, List.getD]
 rw [Array.getElem?_eq_getElem h2]
 simp
theorem ownsRow_blk {w w' : World} {b n size : Nat} {e : TypeId} {g c : Nat} {xs : List Value} (h : w.ownsRow b e size (.slice (some ⟨g, 0, none⟩) n c) n xs) (hb : w'.heap[g]? = w.heap[g]?) : w'.ownsRow b e size (.slice (some ⟨g, 0, none⟩) n c) n xs := by
 refine ⟨h.1, ?_⟩
 rcases h.2 with ⟨h1, _⟩ | ⟨g', cap, cur, hv, hb', hg, hr⟩
 ·cases h1
 ·cases hv; exact Or.inr ⟨_, _, cur, rfl, hb', by rw [hb]; exact hg, hr⟩
theorem ownsRow_lt {w : World} {b n size : Nat} {e : TypeId} {g c : Nat} {xs : List Value} (h : w.ownsRow b e size (.slice (some ⟨g, 0, none⟩) n c) n xs) : g < w.heap.size := by
 rcases h.2 with ⟨h1, _⟩ | ⟨g', cap, cur, hv, hb', hg, hr⟩
 ·cases h1
 ·cases hv; exact row_lt hg
theorem then_fresh {K : Act → World → Prop} {Q : Exit → Act → World → Prop} {e : Exit} {a : Act} {w : World} (S : World → Prop) (hS : S w) (h : ∀ w, S w → Exit.then K Q e a w) : Exit.then K Q e a w := h w hS
theorem conv (w : World) (s : ByteArray) : (convert 9 36 (.string s)).run Tryd.prog w = .ok (.slice (some ⟨w.heap.size, 0, none⟩) s.size (grownCap w s.size 0 5)) (Lib.bytesWorld w 5 s) :=
 Lib.run_convert_string_bytes w 9 36 5 s Tryd.underlying9 Tryd.underlying36 Tryd.underlying5
end Go.Proofs.YtgklmpooonnmiaaDoor
