/-
  Lemmas and contracts that the proofs over this seat use (part ShaOne); no statement of the seat is claimed in this text, and nothing is assumed in it.
-/
import Derived.Test.YtanegflohbgkdaaShaRef
set_option linter.unusedVariables false
set_option linter.unusedSimpArgs false
namespace Go.Proofs.Ytanegflohbgkdaa
open Go.RowKit Go.BigFrame
/-- the word of the bytes from 4 * t on, its first i bytes. -/
def wpre (d : List Nat) (t : Nat) : Nat → Nat
  | 0 => 0
  | i + 1 => wpre d t i * 256 + Sha.g d (4 * t + i)
theorem g_lt256 {d : List Nat} (hd : ∀ x ∈ d, x < 256) (i : Nat) : Sha.g d i < 256 := by
  unfold Sha.g
  by_cases hi : i < d.length
  · exact getD_lt hd i hi
  · simp [List.getD, hi]
theorem wpre_lt {d : List Nat} (hd : ∀ x ∈ d, x < 256) (t i : Nat) (hi : i ≤ 4) : wpre d t i < 256 ^ i := by
  induction i with
  | zero => simp [wpre]
  | succ i ih => have := ih (by omega); have := g_lt256 hd (4 * t + i); simp only [wpre, Nat.pow_succ]; omega
theorem wpre_4 (d : List Nat) (t : Nat) : wpre d t 4 = Sha.word d t := by
  simp only [wpre, Sha.word]; simp only [Nat.add_zero]; omega
theorem nats_at (B : ByteArray) (i : Nat) (h : i < B.size) : B.data[i]'h = UInt8.ofNat (Sha.g (nats B) i) := by
  have h2 : i < B.data.size := h
  simp [Sha.g, nats, List.getD]
  rw [Array.getElem?_eq_getElem h2]
  simp
theorem ownsRow_at {w : World} {b n : Nat} {e : TypeId} {v : Value} {xs : List Value} (h : w.ownsRow b e 1 v n xs) (hn : 0 < n) :
    ∃ g c, v = .slice (some ⟨g, 0, none⟩) n c ∧ b ≤ g ∧ g < w.heap.size ∧ ∀ (j : Nat) (u : Value), xs[j]? = some u → w.cell? ⟨g, j, none⟩ = some u := by
  rcases h.2 with ⟨_, h0⟩ | ⟨g, c, cur, rfl, hb, hg, h1, h2, h3, h4⟩
  · omega
  · exact ⟨g, c, rfl, hb, row_lt hg, fun j u hj => by
      obtain ⟨_, _, _, g', hg', _, _, hc⟩ := ownsRow_cell h j u hj
      cases hg'; exact hc⟩
theorem sum5b (a b c d e : Nat) : (((a : Int) + (b : Int) + (c : Int) + (d : Int)) % 4294967296 + (e : Int)) % 4294967296 = ((((((a + b) % 4294967296 + c) % 4294967296 + d) % 4294967296 + e) % 4294967296 : Nat) : Int) := by omega
theorem ownsRow_empty (w : World) (e : TypeId) : (w.alloc (.cells #[] e)).ownsRow w.heap.size e 1 (.slice (some ⟨w.heap.size, 0, none⟩) 0 0) 0 [] :=
  ⟨by simp, Or.inr ⟨_, 0, #[], rfl, Nat.le_refl _, heap_alloc_last w _, by omega, by decide, rfl, by simp⟩⟩
theorem app32m {ops : Array Oper} {rest : List Oper} {o : Oper} {a : Act} {w : World} {Q : Exit → Act → World → Prop} (hgd : o.guard = none) (s x : Operand)
    (ho : o.op = .call { callee := .builtin .append, args := #[s, x], argTypes := #[47, 47] })
    (w0 : World) (v : Value) (n : Nat) (D : List Nat) (m c : Nat) (E : List Nat) (hE : E.length = m) (hm : 0 < m) (q : Nat) (hs : a.eval s = v) (hx : a.eval x = .slice (some ⟨q, 0, none⟩) m c)
    (hcl : ∀ i, i < 8 → w.cell? ⟨q, i, none⟩ = some (.int .u32 ((Sha.g E i : Nat) : Int)))
    (hown : w.ownsRow w0.heap.size 33 1 v n (u32s D)) (hF : Fr [] w0 w) (hn : n + m < 1000000000 ∧ m ≤ 8)
    (h : ∀ v' w', w'.ownsRow w0.heap.size 33 1 v' (n + m) (u32s (D ++ E)) → Fr [] w0 w' → wpList Try.prog ops Q rest (a.put o.dst v') w') : wpList Try.prog ops Q (o :: rest) a w := by
  obtain ⟨i, hi, hz0, hz1, hz2⟩ := info_parts info32
  have hnews : ∀ (j : Nat) (u : Value), (u32s E)[j]? = some u → w.cell? ((⟨q, 0, none⟩ : Addr).add j) = some u := by
    intro j u hj
    have hl : j < E.length := by have := (List.getElem?_eq_some_iff.1 hj).1; simpa using this
    rw [getD_u32s _ _ hl] at hj
    have hadd : (⟨q, 0, none⟩ : Addr).add j = ⟨q, j, none⟩ := by unfold Addr.add; split <;> simp_all
    rw [hadd, hcl j (by omega), ← hj]; rfl
  refine wpList_append_lies w hgd s x _ ho w0.heap.size 33 i (.int .u32 0) 1 4 Try.underlying47 hi hz0 hz1 hz2 rfl (by decide) v n (u32s D) hs hown _ m c (u32s E) hx (by simpa using hE) hnews (oc_u32s _) hm (by unfold maxLen; omega) (by omega) hF.size _ rfl ?_
  intro g cap w' h1 h2 _ _
  have e : u32s (D ++ E) = u32s D ++ u32s E := by simp [u32s]
  exact h _ _ (by rw [e]; exact h1) (hF.grown hown h2)
theorem step32 {ops : Array Oper} {o : Oper} {a : Act} {W : World} {K : Act → World → Prop} {Q : Exit → Act → World → Prop} {E : Prop} (hgd : o.guard = none) (s x : Operand)
    (ho : o.op = .call { callee := .builtin .append, args := #[s, x], argTypes := #[47, 47] })
    (w0 w : World) (u : Value) (hW : W = (w.alloc (.cells #[u] 33)).drew) (v : Value) (n : Nat) (D : List Nat) (y : Nat) (hu : u = .int .u32 (y : Int)) (hs : a.eval s = v) (hx : a.eval x = .slice (some ⟨w.heap.size, 0, none⟩) 1 1)
    (hown : w.ownsRow w0.heap.size 33 1 v n (u32s D)) (hF : Fr [] w0 w) (hn : n < 1000000000)
    (h : ∀ v' w', w'.ownsRow w0.heap.size 33 1 v' (n + 1) (u32s (D ++ [y])) → Fr [] w0 w' → K (a.put o.dst v') w') :
    if Region.wanted o (yielded ops a.tmps) = true then Oper.wp Try.prog o a W K Q else E := by
  subst hW hu
  obtain ⟨i, hi, hz0, hz1, hz2⟩ := info_parts info32
  have hown2 : (w.alloc (.cells #[.int .u32 (y : Int)] 33)).drew.ownsRow w0.heap.size 33 1 v n (u32s D) := ownsRow_fr hown ((Fr.refl _ _).alloc _).drew
  refine step_append_lies (w.alloc _).drew hgd s x _ ho w0.heap.size 33 i (.int .u32 0) 1 4 Try.underlying47 hi hz0 hz1 hz2 rfl (by decide) v n (u32s D) hs hown2 _ 1 1 [.int .u32 (y : Int)] hx rfl (fun j u h => cell_one_new w _ _ j u h) (by simp [Value.oneCell']) (by decide) (by unfold maxLen; omega) (by omega) (Nat.le_trans hF.size (by simp [World.drew])) _ rfl ?_
  intro g cap w' h1 h2 _ _
  have e : u32s (D ++ [y]) = u32s D ++ [.int .u32 (y : Int)] := by simp [u32s]
  exact h _ _ (by rw [e]; exact h1) ((hF.alloc _).drew.grown hown2 h2)
theorem ownsRow_base {w : World} {b b' n size : Nat} {e : TypeId} {v : Value} {xs : List Value} (h : w.ownsRow b e size v n xs) (hb : b' ≤ b) : w.ownsRow b' e size v n xs := by
  refine ⟨h.1, ?_⟩
  rcases h.2 with h | ⟨g, cap, cur, hv, hg, hr⟩
  · exact Or.inl h
  · exact Or.inr ⟨g, cap, cur, hv, Nat.le_trans hb hg, hr⟩
theorem sum4b (a b c d : Nat) : (((a : Int) + (b : Int) + (c : Int)) % 4294967296 + (d : Int)) % 4294967296 = (((((a + b) % 4294967296 + c) % 4294967296 + d) % 4294967296 : Nat) : Int) := by omega
theorem sh_bits (x a b c : Nat) (hx : x < 4294967296) :
    bits .xor .u32 (bits .xor .u32 (Sha.rotr x a : Nat) (Sha.rotr x b : Nat)) ((x : Int) / ((2 ^ c : Nat) : Int)) = ((Sha.rotr x a ^^^ Sha.rotr x b ^^^ (x >>> c) : Nat) : Int) := by
  have hs : x >>> c < 4294967296 := by rw [Nat.shiftRight_eq_div_pow]; exact Nat.lt_of_le_of_lt (Nat.div_le_self _ _) hx
  rw [show (x : Int) / ((2 ^ c : Nat) : Int) = ((x >>> c : Nat) : Int) by rw [Nat.shiftRight_eq_div_pow, Int.natCast_ediv], xor3 _ _ _ (rotr_lt x a hx) (rotr_lt x b hx) hs]
set_option maxHeartbeats 4000000 in
set_option maxRecDepth 100000 in
theorem rone (w : World) (q cap : Nat) (B : ByteArray) (s : List Nat) (hB : B.size = 64) (hs : s.length = 8) (hsb : ∀ x ∈ s, x < 4294967296)
    (hq : q < w.heap.size) (hda : ∀ i, i < 8 → w.cell? ⟨q, i, none⟩ = some (.int .u32 ((Sha.g s i : Nat) : Int))) :
    Calls Try.prog 18 #[.slice (some ⟨q, 0, none⟩) 8 cap, .string B] w fun e w' => ∃ g c, e = .returned (.slice (some ⟨g, 0, none⟩) 8 c) ∧ w'.ownsRow w.heap.size 33 1 (.slice (some ⟨g, 0, none⟩) 8 c) 8 (u32s (Sha.one s (nats B))) ∧ Fr [] w w' := by
  have HB := Lib.hid hB
  have hnl := nats_length B
  have HNL := Lib.hid (hnl.trans hB)
  have HLT := Lib.hid (nats_lt B)
  clear hB hnl
  go_enter Try.func18, Try.ntmps18
  go_wp2_with fail
  refine (words w).mono ?_
  rintro e w1 ⟨kb, hkb, rfl, hkrow, hF1⟩
  have HKB := Lib.hid hkrow
  have HF1 := Lib.hid hF1
  have hklt := row_lt hkrow
  have hwle : w.heap.size ≤ w1.heap.size := hF1.size
  clear hkrow hF1
  go_wp2_with fail
  go_loopw [6, 7] (fun v t W => ∃ k : Nat, k ≤ 64 ∧ t = .int .i64 k ∧ W.ownsRow w1.heap.size 33 1 v k (u32s (Sha.sched (nats B) k)) ∧ Fr [] w1 W) (fun _ t _ => 64 - (intOf t).toNat)
  case atStart => exact ⟨0, by omega, rfl, ownsRow_nil _ _ _ _, Fr.refl _ _⟩
  case round =>
    obtain ⟨k, hk, rfl, hown, hF⟩ := hrel
    by_cases hlt : k < 64
    · have hlt' : (k : Int) < 64 := by omega
      by_cases h16 : k < 16
      · have h16' : (k : Int) < 16 := by omega
        have HOWN := Lib.hid hown
        have HF := Lib.hid hF
        clear hown hF
        go_wp2_with fail
        go_loopw [8, 9] (fun x t W => ∃ j : Nat, j ≤ 4 ∧ t = .int .i64 j ∧ x = .int .u32 (wpre (nats B) k j : Nat) ∧ W.ownsRow w1.heap.size 33 1 u6 k (u32s (Sha.sched (nats B) k)) ∧ Fr [] w1 W) (fun _ t _ => 4 - (intOf t).toNat)
        case atStart => exact ⟨0, by omega, rfl, rfl, HOWN.out, HF.out⟩
        case round =>
          clear HOWN HF
          obtain ⟨j, hj, rfl, rfl, hown, hF⟩ := hrel
          have HOWN := Lib.hid hown
          have HF := Lib.hid hF
          clear hown hF
          by_cases hj4 : j < 4
          · have hj4' : (j : Int) < 4 := by omega
            have a0 : IntKind.i64.wrap (4 * (k : Int)) = 4 * (k : Int) := IntWalk.i64_in _ (by omega)
            have a1 : IntKind.i64.wrap (4 * (k : Int) + j) = 4 * (k : Int) + j := IntWalk.i64_in _ (by omega)
            have c0 : 0 ≤ 4 * (k : Int) + j ∧ 4 * (k : Int) + j < 64 := by omega
            have t0 : (4 * (k : Int) + j).toNat = 4 * k + j := by omega
            have hz : 4 * (k : Int) + j < (B.size : Int) := by have := HB.out; omega
            have hbv : Hid (∀ h, (B[4 * k + j]'h).toNat = Sha.g (nats B) (4 * k + j)) := by
              show ∀ h, _ = _
              intro h
              have hg := g_lt256 HLT.out (4 * k + j)
              rw [show B[4 * k + j]'h = UInt8.ofNat (Sha.g (nats B) (4 * k + j)) from nats_at B _ h, UInt8.toNat_ofNat', Nat.mod_eq_of_lt hg]
            have hw := Lib.hid (wpre_lt HLT.out k j hj)
            go_wp2_with fail
            go_roundw
            case rel =>
              refine ⟨j + 1, by omega, by go_num, ?_, HOWN.out, HF.out⟩
              have h1 := hbv.out (by have := HB.out; omega)
              have h2 := hw.out
              have h3 := g_lt256 HLT.out (4 * k + j)
              have h4 : 256 ^ j ≤ 256 ^ 3 := Nat.pow_le_pow_right (by decide) (by omega)
              have h5 : (256 : Nat) ^ 3 = 16777216 := by decide
              rw [h1]
              simp only [wpre]
              congr 1
              omega
            case measure => simp [intOf]; omega
          · obtain rfl : j = 4 := by omega
            rw [wpre_4]
            go_wp2_with (at_builtin; refine app32 rfl (.tmp 78) (.tmp 80) rfl w1 _ k (Sha.sched (nats B) k) (Sha.word (nats B) k) rfl rfl HOWN.out HF.out (by omega) ?_)
            intro v' w2 hown2 hF2
            have e : Sha.sched (nats B) k ++ [Sha.word (nats B) k] = Sha.sched (nats B) (k + 1) := by
              simp only [Sha.sched, Sha.next]; rw [if_pos h16]
            rw [e] at hown2
            have HO2 := Lib.hid hown2
            have HF2 := Lib.hid hF2
            clear hown2 hF2 e
            go_wp2_with fail
            go_roundw
            case rel => first | exact ⟨k + 1, by omega, by go_num, HO2.out, HF2.out⟩ | ((repeat apply Exists.intro); exact ⟨⟨k + 1, by omega, by go_num, HO2.out, HF2.out⟩, rfl⟩)
            case measure => simp [intOf]; omega
      · have h16' : ¬ (k : Int) < 16 := by omega
        obtain ⟨g6, c6, rfl, hg6, hg6', hcl⟩ := ownsRow_at hown (by omega)
        have hcell : ∀ i, i < k → wr.cell? ⟨g6, i, none⟩ = some (.int .u32 ((Sha.g (Sha.sched (nats B) k) i : Nat) : Int)) := fun i hi => hcl i _ (getD_u32s _ _ (by rw [sched_length]; exact hi))
        have hg : ∀ i, i < k → Sha.g (Sha.sched (nats B) k) i < 4294967296 := fun i hi => getD_lt (sched_lt (nats B) HLT.out k) i (by rw [sched_length]; exact hi)
        obtain ⟨x2, hx2, e2⟩ : ∃ x, x < 4294967296 ∧ Sha.g (Sha.sched (nats B) k) (k - 2) = x := ⟨_, hg _ (by omega), rfl⟩
        obtain ⟨x7, hx7, e7⟩ : ∃ x, x < 4294967296 ∧ Sha.g (Sha.sched (nats B) k) (k - 7) = x := ⟨_, hg _ (by omega), rfl⟩
        obtain ⟨x15, hx15, e15⟩ : ∃ x, x < 4294967296 ∧ Sha.g (Sha.sched (nats B) k) (k - 15) = x := ⟨_, hg _ (by omega), rfl⟩
        obtain ⟨x16, hx16, e16⟩ : ∃ x, x < 4294967296 ∧ Sha.g (Sha.sched (nats B) k) (k - 16) = x := ⟨_, hg _ (by omega), rfl⟩
        have b2 := hcell (k - 2) (by omega)
        have b7 := hcell (k - 7) (by omega)
        have b15 := hcell (k - 15) (by omega)
        have b16 := hcell (k - 16) (by omega)
        rw [e2] at b2; rw [e7] at b7; rw [e15] at b15; rw [e16] at b16
        have E : Hid (Sha.next (nats B) (Sha.sched (nats B) k) k = ((((Sha.s1 x2 + x7) % 4294967296 + Sha.s0 x15) % 4294967296 + x16) % 4294967296)) := by
          show Sha.next (nats B) (Sha.sched (nats B) k) k = _
          unfold Sha.next; rw [if_neg (by omega), e2, e7, e15, e16]; rfl
        clear e2 e7 e15 e16 hcell hg hcl
        have HOWN := Lib.hid hown
        have HF := Lib.hid hF
        clear hown hF
        have a2 : IntKind.i64.wrap ((k : Int) - 2) = (k : Int) - 2 := IntWalk.i64_in _ (by omega)
        have a7 : IntKind.i64.wrap ((k : Int) - 7) = (k : Int) - 7 := IntWalk.i64_in _ (by omega)
        have a15 : IntKind.i64.wrap ((k : Int) - 15) = (k : Int) - 15 := IntWalk.i64_in _ (by omega)
        have a16 : IntKind.i64.wrap ((k : Int) - 16) = (k : Int) - 16 := IntWalk.i64_in _ (by omega)
        have c2 : 0 ≤ (k : Int) - 2 ∧ (k : Int) - 2 < k := by omega
        have c7 : 0 ≤ (k : Int) - 7 ∧ (k : Int) - 7 < k := by omega
        have c15 : 0 ≤ (k : Int) - 15 ∧ (k : Int) - 15 < k := by omega
        have c16 : 0 ≤ (k : Int) - 16 ∧ (k : Int) - 16 < k := by omega
        have d2 : (2 : Int) ≤ (k : Int) := by omega
        have d7 : (7 : Int) ≤ (k : Int) := by omega
        have d15 : (15 : Int) ≤ (k : Int) := by omega
        have d16 : (16 : Int) ≤ (k : Int) := by omega
        have t2 : ((k : Int) - 2).toNat = k - 2 := by omega
        have t7 : ((k : Int) - 7).toNat = k - 7 := by omega
        have t15 : ((k : Int) - 15).toNat = k - 15 := by omega
        have t16 : ((k : Int) - 16).toNat = k - 16 := by omega
        go_wp2_with fail
        have r1 : ∀ W, Calls Try.prog 22 #[.int .u32 x2, .int .u64 17] W fun e w' => e = .returned (.int .u32 (Sha.rotr x2 17 : Nat)) ∧ w' = W := fun W => (turn x2 17 hx2 (by decide) (by decide) W).mono fun e w' h => ⟨h.1, h.2.symm⟩
        have r2 : ∀ W, Calls Try.prog 22 #[.int .u32 x2, .int .u64 19] W fun e w' => e = .returned (.int .u32 (Sha.rotr x2 19 : Nat)) ∧ w' = W := fun W => (turn x2 19 hx2 (by decide) (by decide) W).mono fun e w' h => ⟨h.1, h.2.symm⟩
        have r3 : ∀ W, Calls Try.prog 22 #[.int .u32 x15, .int .u64 7] W fun e w' => e = .returned (.int .u32 (Sha.rotr x15 7 : Nat)) ∧ w' = W := fun W => (turn x15 7 hx15 (by decide) (by decide) W).mono fun e w' h => ⟨h.1, h.2.symm⟩
        have r4 : ∀ W, Calls Try.prog 22 #[.int .u32 x15, .int .u64 18] W fun e w' => e = .returned (.int .u32 (Sha.rotr x15 18 : Nat)) ∧ w' = W := fun W => (turn x15 18 hx15 (by decide) (by decide) W).mono fun e w' h => ⟨h.1, h.2.symm⟩
        have R1 := Lib.hid r1
        have R2 := Lib.hid r2
        have R3 := Lib.hid r3
        have R4 := Lib.hid r4
        clear r1 r2 r3 r4
        have hs1 := sh_bits x2 17 19 10 hx2
        have hs0 := sh_bits x15 7 18 3 hx15
        have hX := sum4b (Sha.s1 x2) x7 (Sha.s0 x15) x16
        rw [← E.out] at hX
        have hs1' : bits .xor .u32 (bits .xor .u32 (Sha.rotr x2 17 : Nat) (Sha.rotr x2 19 : Nat)) ((x2 : Int) / 1024) = (Sha.s1 x2 : Nat) := hs1
        have hs0' : bits .xor .u32 (bits .xor .u32 (Sha.rotr x15 7 : Nat) (Sha.rotr x15 18 : Nat)) ((x15 : Int) / 8) = (Sha.s0 x15 : Nat) := hs0
        clear hs1 hs0
        obtain ⟨N, hN⟩ : ∃ N, Hid (N = Sha.next (nats B) (Sha.sched (nats B) k) k) := ⟨_, rfl⟩
        rw [← hN.out] at hX
        clear E
        generalize Sha.s1 x2 = y2 at *
        generalize Sha.s0 x15 = y15 at *
        go_quiet ((go_at_call 22; with_reducible (first
          | exact Calls.quiet_of_same (R1.out _)
          | exact Calls.quiet_of_same (R2.out _)
          | exact Calls.quiet_of_same (R3.out _)
          | exact Calls.quiet_of_same (R4.out _))))
        rw [hX]
        have HO : Hid (∀ m, (wr.drewN m).ownsRow w1.heap.size 33 1 (.slice (some ⟨g6, 0, none⟩) k c6) k (u32s (Sha.sched (nats B) k))) := fun m => ownsRow_fr HOWN.out ((Fr.refl _ _).drewN _)
        have HFV : Hid (∀ m, Fr [] w1 (wr.drewN m)) := fun m => HF.out.drewN _
        clear HOWN HF b2 b7 b15 b16 hX
        go_wp2_with (at_builtin; refine app32 rfl (.tmp 78) (.tmp 80) rfl w1 _ k (Sha.sched (nats B) k) N rfl rfl (HO.out _) (HFV.out _) (by omega) ?_)
        intro v' w2 hown2 hF2
        have e : Sha.sched (nats B) k ++ [N] = Sha.sched (nats B) (k + 1) := by
          rw [hN.out]; rfl
        rw [e] at hown2
        have HO2 := Lib.hid hown2
        have HF2 := Lib.hid hF2
        clear hown2 hF2 e
        go_wp2_with fail
        go_roundw
        case rel => first | exact ⟨k + 1, by omega, by go_num, HO2.out, HF2.out⟩ | ((repeat apply Exists.intro); exact ⟨⟨k + 1, by omega, by go_num, HO2.out, HF2.out⟩, rfl⟩)
        case measure => simp [intOf]; omega
    · obtain rfl : k = 64 := by omega
      obtain ⟨W0, hW0⟩ : ∃ W0, W0 = wr := ⟨_, rfl⟩
      rw [← hW0] at hown hF ⊢
      clear hW0 wr
      obtain ⟨g6, c6, rfl, hg6, hg6', hcl⟩ := ownsRow_at hown (by omega)
      have hW : ∀ i, i < 64 → W0.cell? ⟨g6, i, none⟩ = some (.int .u32 ((Sha.g (Sha.sched (nats B) 64) i : Nat) : Int)) := fun i hi => hcl i _ (getD_u32s _ _ (by rw [sched_length]; exact hi))
      have hsum : ∀ i, i < 8 → W0.cell? ⟨q, i, none⟩ = some (.int .u32 ((Sha.g s i : Nat) : Int)) := fun i hi => (HF1.out.trans0 hF).cells (hda i hi)
      clear hda
      have HKW := Lib.hid (hF.row HKB.out (by simp))
      have HFW := Lib.hid (HF1.out.trans0 hF)
      have HWW := Lib.hid hW
      have HSW := Lib.hid hsum
      have hkw : kb < W0.heap.size := by have := hF.size; omega
      have hww : w.heap.size ≤ W0.heap.size := by have := hF.size; omega
      clear hown hF hcl hW hsum HKB HF1 hg6 hkb
      have HS := Lib.hid hs
      clear hs
      go_wp2_with (at_builtin; refine app32m rfl (.tmp 82) (.tmp 83) rfl W0 _ 0 [] 8 cap s HS.out (by decide) q rfl rfl (hcl := fun i hi => ((Fr.refl [] W0).alloc _).cells (HSW.out i hi)) (ownsRow_empty _ _) ((Fr.refl _ _).alloc _) (by decide) ?_)
      intro v12 w2 hown2 hF2
      obtain ⟨g12, c12, rfl, _, hg12, hcl⟩ := ownsRow_at hown2 (by decide)
      have hc12 : ∀ i, i < 8 → w2.cell? ⟨g12, i, none⟩ = some (.int .u32 ((Sha.g (Sha.rounds (Sha.sched (nats B) 64) s 0) i : Nat) : Int)) := fun i hi => hcl i _ (getD_u32s s i (by rw [HS.out]; exact hi))
      have HC12 := Lib.hid hc12
      have HF2 := Lib.hid hF2
      clear hown2 hF2 hcl hc12
      go_wp2_with fail
      go_loopw [12, 13] (fun v t W => ∃ k : Nat, k ≤ 64 ∧ t = .int .i64 k ∧ ∃ gg cc : Nat, v = .slice (some ⟨gg, 0, none⟩) 8 cc ∧ (∀ i, i < 8 → W.cell? ⟨gg, i, none⟩ = some (.int .u32 ((Sha.g (Sha.rounds (Sha.sched (nats B) 64) s k) i : Nat) : Int))) ∧ Fr [] W0 W) (fun _ t _ => 64 - (intOf t).toNat)
      case atStart => exact ⟨0, by omega, rfl, _, _, rfl, HC12.out, HF2.out⟩
      case round =>
        clear HC12 HF2
        obtain ⟨k, hk, rfl, gg, cc, rfl, hcell, hF⟩ := hrel
        obtain ⟨hl8, hlt8⟩ := rounds_ok (Sha.sched (nats B) 64) s HS.out hsb k
        by_cases hlt : k < 64
        · have hlt' : (k : Int) < 64 := by omega
          have hg : ∀ i, i < 8 → Sha.g (Sha.rounds (Sha.sched (nats B) 64) s k) i < 4294967296 := fun i hi => getD_lt hlt8 i (by omega)
          have E : Hid (Sha.rounds (Sha.sched (nats B) 64) s (k + 1) = Sha.round (Sha.rounds (Sha.sched (nats B) 64) s k) (Sha.g Sha.ks k) (Sha.g (Sha.sched (nats B) 64) k)) := rfl
          have ck : wr.cell? ⟨kb, k, none⟩ = some (.int .u32 ((Sha.g Sha.ks k : Nat) : Int)) := by
            rw [cell_of_row _ _ _ _ _ _ (hF.row HKW.out (by simp)), List.getElem?_toArray, getD_u32s _ _ (by show k < 64; omega)]; rfl
          have cw : wr.cell? ⟨g6, k, none⟩ = some (.int .u32 ((Sha.g (Sha.sched (nats B) 64) k : Nat) : Int)) := hF.cells (HWW.out k hlt)
          generalize Sha.g Sha.ks k = kk at *
          generalize Sha.g (Sha.sched (nats B) 64) k = ww at *
          generalize Sha.rounds (Sha.sched (nats B) 64) s k = S at *
          clear hl8 hlt8
          have c0 := hcell 0 (by omega); have c1 := hcell 1 (by omega); have c2 := hcell 2 (by omega); have c3 := hcell 3 (by omega)
          have c4 := hcell 4 (by omega); have c5 := hcell 5 (by omega); have c6 := hcell 6 (by omega); have c7 := hcell 7 (by omega)
          have g0 := hg 0 (by omega); have g1 := hg 1 (by omega); have g2 := hg 2 (by omega)
          have g4 := hg 4 (by omega); have g5 := hg 5 (by omega); have g6' := hg 6 (by omega)
          clear hcell hg
          have ER : Hid (Sha.round S kk ww = [(Sha.rx S kk ww + Sha.ry S) % 4294967296, Sha.g S 0, Sha.g S 1, Sha.g S 2, (Sha.g S 3 + Sha.rx S kk ww) % 4294967296, Sha.g S 4, Sha.g S 5, Sha.g S 6]) := rfl
          have EX : Hid (Sha.rx S kk ww = ((((Sha.g S 7 + Sha.e1 (Sha.g S 4)) % 4294967296 + Sha.ch (Sha.g S 4) (Sha.g S 5) (Sha.g S 6)) % 4294967296 + kk) % 4294967296 + ww) % 4294967296) := rfl
          have EY : Hid (Sha.ry S = (Sha.e0 (Sha.g S 0) + Sha.maj (Sha.g S 0) (Sha.g S 1) (Sha.g S 2)) % 4294967296) := rfl
          generalize Sha.g S 0 = x0 at *
          generalize Sha.g S 1 = x1 at *
          generalize Sha.g S 2 = x2 at *
          generalize Sha.g S 3 = x3 at *
          generalize Sha.g S 4 = x4 at *
          generalize Sha.g S 5 = x5 at *
          generalize Sha.g S 6 = x6 at *
          generalize Sha.g S 7 = x7 at *
          have hch := ch_bits x4 x5 x6 g4 g5 g6'
          have hmaj := maj_bits x0 x1 x2 g0 g1 g2
          have he1 : bits .xor .u32 (bits .xor .u32 (Sha.rotr x4 6 : Nat) (Sha.rotr x4 11 : Nat)) (Sha.rotr x4 25 : Nat) = (Sha.e1 x4 : Nat) := xor3 _ _ _ (rotr_lt x4 6 g4) (rotr_lt x4 11 g4) (rotr_lt x4 25 g4)
          have he0 : bits .xor .u32 (bits .xor .u32 (Sha.rotr x0 2 : Nat) (Sha.rotr x0 13 : Nat)) (Sha.rotr x0 22 : Nat) = (Sha.e0 x0 : Nat) := xor3 _ _ _ (rotr_lt x0 2 g0) (rotr_lt x0 13 g0) (rotr_lt x0 22 g0)
          have hX := sum5b x7 (Sha.e1 x4) (Sha.ch x4 x5 x6) kk ww
          have hY := sum2 (Sha.e0 x0) (Sha.maj x0 x1 x2)
          have hA := sum2 (Sha.rx S kk ww) (Sha.ry S)
          have hB := sum2 x3 (Sha.rx S kk ww)
          rw [← EX.out] at hX
          rw [← EY.out] at hY
          generalize Sha.rx S kk ww = X at *
          generalize Sha.ry S = Y at *
          generalize (X + Y) % 4294967296 = AA at *
          generalize (x3 + X) % 4294967296 = BB at *
          clear EX EY
          have R1 : Hid (∀ W, Calls Try.prog 22 #[.int .u32 x4, .int .u64 6] W fun e w' => e = .returned (.int .u32 (Sha.rotr x4 6 : Nat)) ∧ w' = W) := fun W => (turn x4 6 g4 (by decide) (by decide) W).mono fun e w' h => ⟨h.1, h.2.symm⟩
          have R2 : Hid (∀ W, Calls Try.prog 22 #[.int .u32 x4, .int .u64 11] W fun e w' => e = .returned (.int .u32 (Sha.rotr x4 11 : Nat)) ∧ w' = W) := fun W => (turn x4 11 g4 (by decide) (by decide) W).mono fun e w' h => ⟨h.1, h.2.symm⟩
          have R3 : Hid (∀ W, Calls Try.prog 22 #[.int .u32 x4, .int .u64 25] W fun e w' => e = .returned (.int .u32 (Sha.rotr x4 25 : Nat)) ∧ w' = W) := fun W => (turn x4 25 g4 (by decide) (by decide) W).mono fun e w' h => ⟨h.1, h.2.symm⟩
          have Z1 : Hid (∀ W, Calls Try.prog 22 #[.int .u32 x0, .int .u64 2] W fun e w' => e = .returned (.int .u32 (Sha.rotr x0 2 : Nat)) ∧ w' = W) := fun W => (turn x0 2 g0 (by decide) (by decide) W).mono fun e w' h => ⟨h.1, h.2.symm⟩
          have Z2 : Hid (∀ W, Calls Try.prog 22 #[.int .u32 x0, .int .u64 13] W fun e w' => e = .returned (.int .u32 (Sha.rotr x0 13 : Nat)) ∧ w' = W) := fun W => (turn x0 13 g0 (by decide) (by decide) W).mono fun e w' h => ⟨h.1, h.2.symm⟩
          have Z3 : Hid (∀ W, Calls Try.prog 22 #[.int .u32 x0, .int .u64 22] W fun e w' => e = .returned (.int .u32 (Sha.rotr x0 22 : Nat)) ∧ w' = W) := fun W => (turn x0 22 g0 (by decide) (by decide) W).mono fun e w' h => ⟨h.1, h.2.symm⟩
          go_wp2_with fail
          go_quiet ((go_at_call 22; with_reducible (first
            | exact Calls.quiet_of_same (R1.out _)
            | exact Calls.quiet_of_same (R2.out _)
            | exact Calls.quiet_of_same (R3.out _))))
          rw [show bits .xor .u32 (bits .and .u32 (x4 : Int) (x5 : Int)) (bits .and .u32 (bits .xor .u32 (if IntKind.u32.signed = true then -1 else IntKind.u32.max) (x4 : Int)) (x6 : Int)) = ((Sha.ch x4 x5 x6 : Nat) : Int) from hch, hX]
          go_wp2_with fail
          refine wp_fresh (fun V => Fr [] wr V) ((Fr.refl _ _).drewN _) ?_
          intro V hV
          replace c0 := hV.cells c0; replace c1 := hV.cells c1; replace c2 := hV.cells c2; replace c3 := hV.cells c3
          replace c4 := hV.cells c4; replace c5 := hV.cells c5; replace c6 := hV.cells c6
          replace hF := hF.trans0 hV
          have HF := Lib.hid hF
          clear hV ck cw c7 hF hX hch
          go_quiet ((go_at_call 22; with_reducible (first
            | exact Calls.quiet_of_same (Z1.out _)
            | exact Calls.quiet_of_same (Z2.out _)
            | exact Calls.quiet_of_same (Z3.out _))))
          rw [hY]
          go_wp2_with fail
          refine wp_fresh (fun U => Fr [] V U) ((Fr.refl _ _).drewN _) ?_
          intro U hU
          replace c0 := hU.cells c0; replace c1 := hU.cells c1; replace c2 := hU.cells c2; replace c3 := hU.cells c3
          replace c4 := hU.cells c4; replace c5 := hU.cells c5; replace c6 := hU.cells c6
          have HFU := Lib.hid (HF.out.trans0 hU)
          clear hU HF hY hmaj he1 he0 HKW
          go_still_tail 26, (by kernel_rfl)
          go_wp2
          go_roundw
          case rel =>
            refine ⟨k + 1, by omega, by go_num, _, _, rfl, ?_, (HFU.out.alloc _).drew⟩
            have hr : (U.alloc (.cells (u32s [AA, x0, x1, x2, BB, x4, x5, x6]).toArray 33)).drew.heap[U.heap.size]? = some (.cells (u32s [AA, x0, x1, x2, BB, x4, x5, x6]).toArray 33 (0, 0)) := heap_alloc_last U _
            intro i hi
            rw [E.out, ER.out]
            refine (cell_of_row _ _ i _ _ _ hr).trans ?_
            rw [List.getElem?_toArray, getD_u32s _ _ hi]; rfl
          case measure => simp [intOf]; omega
        · obtain rfl : k = 64 := by omega
          obtain ⟨W1, hW1⟩ : ∃ W1, W1 = wr := ⟨_, rfl⟩
          rw [← hW1] at hcell hF ⊢
          clear hW1 wr
          have EO : Hid (Sha.one s (nats B) = (List.range 8).map fun i => (Sha.g (Sha.rounds (Sha.sched (nats B) 64) s 64) i + Sha.g s i) % 4294967296) := rfl
          generalize Sha.rounds (Sha.sched (nats B) 64) s 64 = R at *
          have HR := Lib.hid hcell
          have HF := Lib.hid hF
          have hW1 : w.heap.size ≤ W1.heap.size := Nat.le_trans hww hF.size
          clear hlt8 hcell hF HKW
          go_wp2_with fail
          go_loopw [16, 17] (fun v t W => ∃ k : Nat, k ≤ 8 ∧ t = .int .i64 k ∧ W.ownsRow W1.heap.size 33 1 v k (u32s ((Sha.one s (nats B)).take k)) ∧ Fr [] W1 W) (fun _ t _ => 8 - (intOf t).toNat)
          case atStart => exact ⟨0, by omega, rfl, ownsRow_nil _ _ _ _, Fr.refl _ _⟩
          case round =>
            obtain ⟨k, hk, rfl, hown, hF⟩ := hrel
            by_cases hlt : k < 8
            · have hlt' : (k : Int) < 8 := by omega
              have c1 := hF.cells (HR.out k hlt)
              have c2 := hF.cells (HF.out.cells (HSW.out k hlt))
              have hN : Hid ((Sha.one s (nats B)).take k ++ [(Sha.g R k + Sha.g s k) % 4294967296] = (Sha.one s (nats B)).take (k + 1)) := by
                show _ = _
                rw [List.take_add_one, EO.out]
                congr 1
                simp [hlt]
              have cA : Value.int .u32 (IntKind.u32.wrap ((Sha.g R k : Int) + (Sha.g s k : Int))) = .int .u32 ((((Sha.g R k + Sha.g s k) % 4294967296 : Nat) : Int)) := by rw [IntKind.wrap_u32', sum2]
              generalize (Sha.g R k + Sha.g s k) % 4294967296 = A at *
              generalize Sha.g R k = x at *
              generalize Sha.g s k = y at *
              have hAw := Lib.hid cA
              clear cA
              have HO : Hid (∀ (o : Obj), (wr.alloc o).drew.ownsRow W1.heap.size 33 1 u16 k (u32s ((Sha.one s (nats B)).take k))) := fun o => ownsRow_fr hown ((Fr.refl _ _).alloc _).drew
              have HF2 := Lib.hid hF
              have HO2 := Lib.hid hown
              clear hown hF
              go_wp2_with fail
              refine wp_region_any (by kernel_rfl) ?_
              change wpAny _ _ _ _ _ _ _ (World.drew _)
              refine wpAny_take (i := 0) (v := u16) rfl (by kernel_rfl) (by kernel_rfl) (by kernel_rfl) (fun _ _ _ h => h) (Or.inl ⟨by rfl, by intro w; go_simp⟩) ?_
              simp only [Act.put, List.setIfInBounds_toArray, List.set_cons_zero, List.set_cons_succ]
              refine wpAny_take (i := 1) (v := .slice (some ⟨gg, 0, none⟩) 8 cc) rfl (by kernel_rfl) (by kernel_rfl) (by kernel_rfl) (fun _ _ _ h => h) (Or.inl ⟨by rfl, by intro w; go_simp⟩) ?_
              simp only [Act.put, List.setIfInBounds_toArray, List.set_cons_zero, List.set_cons_succ]
              refine wpAny_take (i := 2) (v := .int .i64 (k : Int)) rfl (by kernel_rfl) (by kernel_rfl) (by kernel_rfl) (fun _ _ _ h => h) (Or.inl ⟨by rfl, by intro w; go_simp⟩) ?_
              simp only [Act.put, List.setIfInBounds_toArray, List.set_cons_zero, List.set_cons_succ]
              refine wpAny_take (i := 3) (v := .pointer (some ⟨gg, k, none⟩)) rfl (by kernel_rfl) (by kernel_rfl) (by kernel_rfl) (fun _ _ _ h => h) (Or.inl ⟨by rfl, by intro w; go_simp⟩) ?_
              simp only [Act.put, List.setIfInBounds_toArray, List.set_cons_zero, List.set_cons_succ]
              refine wpAny_take (i := 5) (v := .slice (some ⟨q, 0, none⟩) 8 cap) rfl (by kernel_rfl) (by kernel_rfl) (by kernel_rfl) (fun _ _ _ h => h) (Or.inl ⟨by rfl, by intro w; go_simp⟩) ?_
              simp only [Act.put, List.setIfInBounds_toArray, List.set_cons_zero, List.set_cons_succ]
              refine wpAny_take (i := 6) (v := .int .i64 (k : Int)) rfl (by kernel_rfl) (by kernel_rfl) (by kernel_rfl) (fun _ _ _ h => h) (Or.inl ⟨by rfl, by intro w; go_simp⟩) ?_
              simp only [Act.put, List.setIfInBounds_toArray, List.set_cons_zero, List.set_cons_succ]
              refine wpAny_take (i := 7) (v := .pointer (some ⟨q, k, none⟩)) rfl (by kernel_rfl) (by kernel_rfl) (by kernel_rfl) (fun _ _ _ h => h) (Or.inl ⟨by rfl, by intro w; go_simp⟩) ?_
              simp only [Act.put, List.setIfInBounds_toArray, List.set_cons_zero, List.set_cons_succ]
              refine wpAny_ready (rs := [4, 8]) (by kernel_rfl) (by simp) ?_
              refine AllReady.cons rfl (fun K hK => ?_) ?_
              · skip
                go_simp
                refine hK _ _ ?_
                clear hK K
                refine wpAny_ready (rs := [8]) (by kernel_rfl) (by simp) ?_
                refine AllReady.cons rfl (fun K hK => ?_) ?_
                · skip
                  go_simp
                  refine hK _ _ ?_
                  clear hK K
                  refine wpAny_ready (rs := [9]) (by kernel_rfl) (by simp) ?_
                  refine AllReady.cons rfl (fun K hK => ?_) ?_
                  · skip
                    go_simp
                    refine hK _ _ ?_
                    clear hK K
                    refine wpAny_ready (rs := [10]) (by kernel_rfl) (by simp) ?_
                    refine AllReady.cons rfl (fun K hK => ?_) ?_
                    · skip
                      go_simp
                      refine hK _ _ ?_
                      clear hK K
                      refine wpAny_ready (rs := [11]) (by kernel_rfl) (by simp) ?_
                      refine AllReady.cons rfl (fun K hK => ?_) ?_
                      · skip
                        refine step32 rfl (.tmp 203) (.tmp 213) rfl W1 wr _ rfl u16 k _ A hAw.out rfl rfl HO2.out HF2.out (by omega) ?_
                        intro v' w2 ho hf
                        rw [hN.out] at ho
                        refine hK _ _ ?_
                        clear hK K
                        simp only [Act.put, List.setIfInBounds_toArray, List.set_cons_zero, List.set_cons_succ]
                        refine wpAny_ready (rs := [12]) (by kernel_rfl) (by simp) ?_
                        refine AllReady.cons rfl (fun K hK => ?_) ?_
                        · skip
                          go_simp
                          refine hK _ _ ?_
                          clear hK K
                          refine wpAny_done (by kernel_rfl) ?_ _
                          go_wp2_with fail
                          go_roundw
                          case rel => first | exact ⟨k + 1, by omega, by go_num, ho, hf⟩ | ((repeat apply Exists.intro); exact ⟨⟨k + 1, by omega, by go_num, ho, hf⟩, rfl⟩)
                          case measure => simp [intOf]; omega
                        exact AllReady.nil
                      exact AllReady.nil
                    exact AllReady.nil
                  exact AllReady.nil
                exact AllReady.nil
              refine AllReady.cons rfl (fun K hK => ?_) ?_
              · skip
                go_simp
                refine hK _ _ ?_
                clear hK K
                refine wpAny_ready (rs := [4]) (by kernel_rfl) (by simp) ?_
                refine AllReady.cons rfl (fun K hK => ?_) ?_
                · skip
                  go_simp
                  refine hK _ _ ?_
                  clear hK K
                  refine wpAny_ready (rs := [9]) (by kernel_rfl) (by simp) ?_
                  refine AllReady.cons rfl (fun K hK => ?_) ?_
                  · skip
                    go_simp
                    refine hK _ _ ?_
                    clear hK K
                    refine wpAny_ready (rs := [10]) (by kernel_rfl) (by simp) ?_
                    refine AllReady.cons rfl (fun K hK => ?_) ?_
                    · skip
                      go_simp
                      refine hK _ _ ?_
                      clear hK K
                      refine wpAny_ready (rs := [11]) (by kernel_rfl) (by simp) ?_
                      refine AllReady.cons rfl (fun K hK => ?_) ?_
                      · skip
                        refine step32 rfl (.tmp 203) (.tmp 213) rfl W1 wr _ rfl u16 k _ A hAw.out rfl rfl HO2.out HF2.out (by omega) ?_
                        intro v' w2 ho hf
                        rw [hN.out] at ho
                        refine hK _ _ ?_
                        clear hK K
                        simp only [Act.put, List.setIfInBounds_toArray, List.set_cons_zero, List.set_cons_succ]
                        refine wpAny_ready (rs := [12]) (by kernel_rfl) (by simp) ?_
                        refine AllReady.cons rfl (fun K hK => ?_) ?_
                        · skip
                          go_simp
                          refine hK _ _ ?_
                          clear hK K
                          refine wpAny_done (by kernel_rfl) ?_ _
                          go_wp2_with fail
                          go_roundw
                          case rel => first | exact ⟨k + 1, by omega, by go_num, ho, hf⟩ | ((repeat apply Exists.intro); exact ⟨⟨k + 1, by omega, by go_num, ho, hf⟩, rfl⟩)
                          case measure => simp [intOf]; omega
                        exact AllReady.nil
                      exact AllReady.nil
                    exact AllReady.nil
                  exact AllReady.nil
                exact AllReady.nil
              exact AllReady.nil
            · obtain rfl : k = 8 := by omega
              obtain ⟨g, c, rfl, _, _, _⟩ := ownsRow_at hown (by decide)
              have HO2 := Lib.hid hown
              have HFF := Lib.hid hF
              clear hown hF
              go_wp2_with fail
              refine bodyPost_ret (results_tmp rfl _ _ _) rfl ⟨g, c, rfl, ?_, (HFW.out.trans0 HF.out).trans0 HFF.out⟩
              have h8 : (Sha.one s (nats B)).take 8 = Sha.one s (nats B) := List.take_of_length_le (by rw [EO.out]; simp)
              have h9 := HO2.out
              rw [h8] at h9
              exact ownsRow_base h9 hW1
end Go.Proofs.Ytanegflohbgkdaa
