/-
  Lemmas and contracts that the proofs over this seat use (part ShaRSum); no statement of the seat is claimed in this text, and nothing is assumed in it.
-/
import Derived.Test.YtanegflohbgkdaaShaOne
import Derived.Test.YtanegflohbgkdaaShaText
set_option linter.unusedVariables false
set_option linter.unusedSimpArgs false
namespace Go.Proofs.Ytanegflohbgkdaa
open Go.RowKit
theorem wrap8 (a : Int) : IntKind.u8.wrap a = a % 256 := by rw [IntKind.wrap_u8']
theorem step8m {ops : Array Oper} {o : Oper} {a : Act} {W : World} {K : Act → World → Prop} {Q : Exit → Act → World → Prop} {E : Prop} (hgd : o.guard = none) (s x : Operand)
    (ho : o.op = .call { callee := .builtin .append, args := #[s, x], argTypes := #[26, 26] })
    (w0 w : World) (us : Array Value) (hW : W = (w.alloc (.cells us 5)).drew) (v : Value) (n : Nat) (D : List Nat) (m : Nat) (ys : List Nat) (hu : us = (u8s ys).toArray) (hm : ys.length = m) (hm0 : 0 < m ∧ m ≤ 4) (hs : a.eval s = v) (hx : a.eval x = .slice (some ⟨w.heap.size, 0, none⟩) m m)
    (hown : w.ownsRow w0.heap.size 5 1 v n (u8s D)) (hF : Fr [] w0 w) (hn : n < 1000000000)
    (h : ∀ v' w', w'.ownsRow w0.heap.size 5 1 v' (n + m) (u8s (D ++ ys)) → Fr [] w0 w' → K (a.put o.dst v') w') :
    if Region.wanted o (yielded ops a.tmps) = true then Oper.wp Try.prog o a W K Q else E := by
  subst hW hu
  obtain ⟨i, hi, hz0, hz1, hz2⟩ := info_parts info8
  have hown2 : (w.alloc (.cells (u8s ys).toArray 5)).drew.ownsRow w0.heap.size 5 1 v n (u8s D) := ownsRow_fr hown ((Fr.refl _ _).alloc _).drew
  have hblk : (w.alloc (.cells (u8s ys).toArray 5)).drew.heap[w.heap.size]? = some (.cells (u8s ys).toArray 5 (0, 0)) := heap_alloc_last w _
  refine step_append_lies (w.alloc _).drew hgd s x _ ho w0.heap.size 5 i (.int .u8 0) 1 1 Try.underlying26 hi hz0 hz1 hz2 rfl (by decide) v n (u8s D) hs hown2 _ m m (u8s ys) hx (by simpa using hm) (World.news_of_block hblk) (oc_u8s _) hm0.1 (by unfold maxLen; omega) (by omega) (Nat.le_trans hF.size (by simp [World.drew])) _ rfl ?_
  intro g cap w' h1 h2 _ _
  have e : u8s (D ++ ys) = u8s D ++ u8s ys := by simp [u8s]
  exact h _ _ (by rw [e]; exact h1) ((hF.alloc _).drew.grown hown2 h2)
theorem nats_extract (T : ByteArray) (a b : Nat) : nats (T.extract a (a + b)) = ((nats T).drop a).take b := by
  simp [nats, List.map_take, List.map_drop, List.extract]
theorem blocks_succ (j : Nat) (L : List Nat) : Sha.blocks Sha.iv (j + 1) L = Sha.one (Sha.blocks Sha.iv j L) ((L.drop (64 * j)).take 64) := by
  rw [Sha.blocks_add]; rfl
def lenOf : Value → Nat
  | .slice _ n _ => n
  | _ => 0
set_option maxHeartbeats 4000000 in
set_option maxRecDepth 100000 in
theorem rsum (w : World) (S : ByteArray) (hS : S.size ≤ 1000000) :
    Calls Try.prog 11 #[.string S] w fun e w' => e = .returned (.string (ba (Sha.sum (nats S)))) ∧ Fr [] w w' := by
  have hnl := nats_length S
  have HNL := Lib.hid hnl
  clear hnl
  obtain ⟨z, hz⟩ : ∃ z, z = (119 - S.size % 64) % 64 := ⟨_, rfl⟩
  have HZ := Lib.hid hz
  have hz64 : z < 64 := by rw [hz]; omega
  clear hz
  go_enter Try.func11, Try.ntmps11
  go_wp2_with fail
  refine wp_fresh (fun W => W.ownsRow w.heap.size 5 1 (.slice (some ⟨w.heap.size, 0, none⟩) 1 1) 1 (u8s (128 :: List.replicate (1 - 1) 0)) ∧ Fr [] w W) ⟨⟨rfl, Or.inr ⟨_, 1, _, rfl, Nat.le_refl _, heap_alloc_last w _, Nat.le_refl _, by decide, rfl, rfl⟩⟩, (Fr.refl _ _).alloc _⟩ ?_
  rintro W ⟨hown, hF⟩
  go_loopw [4] (fun v W => ∃ k g c : Nat, 1 ≤ k ∧ k ≤ z + 1 ∧ v = .slice (some ⟨g, 0, none⟩) k c ∧ W.ownsRow w.heap.size 5 1 (.slice (some ⟨g, 0, none⟩) k c) k (u8s (128 :: List.replicate (k - 1) 0)) ∧ Fr [] w W) (fun v _ => 100 - lenOf v)
  case atStart => exact ⟨1, _, _, by omega, by omega, rfl, hown, hF⟩
  case round =>
    clear hown hF
    obtain ⟨k, g, c, hk1, hk, rfl, hown, hF⟩ := hrel
    have HO := Lib.hid hown
    have HF := Lib.hid hF
    clear hown hF
    have hm : ((S.size : Int) + (k : Int) + 8).tmod 64 = (((S.size + k + 8) % 64 : Nat) : Int) := by
      rw [Int.tmod_eq_emod_of_nonneg (by omega)]; omega
    by_cases hlt : k ≤ z
    · have hr : (S.size + k + 8) % 64 ≠ 0 := by have := HZ.out; omega
      have hr' : ¬ (((S.size + k + 8) % 64 : Nat) : Int) = 0 := by omega
      generalize (S.size + k + 8) % 64 = r at *
      go_wp2_with (at_builtin; refine app8 rfl (.tmp 20) (.tmp 21) rfl w _ k _ 0 rfl rfl HO.out HF.out (by omega) ?_)
      intro v' w2 hown2 hF2
      obtain ⟨g2, c2, rfl, _, _, _⟩ := ownsRow_at hown2 (by omega)
      have e : (128 :: (List.replicate (k - 1) 0 ++ [0]) : List Nat) = 128 :: List.replicate (k + 1 - 1) 0 := by
        congr 1
        rw [show k + 1 - 1 = (k - 1) + 1 by omega, List.replicate_succ']
      rw [e] at hown2
      have HO2 := Lib.hid hown2
      have HF2 := Lib.hid hF2
      clear hown2 hF2 e
      go_wp2_with fail
      go_roundw
      case rel => first | exact ⟨k + 1, _, _, by omega, by omega, rfl, HO2.out, HF2.out⟩ | ((repeat apply Exists.intro); exact ⟨⟨k + 1, _, _, by omega, by omega, rfl, HO2.out, HF2.out⟩, rfl⟩)
      case measure => simp [lenOf]; omega
    · obtain rfl : k = z + 1 := by omega
      have hr : (S.size + (z + 1) + 8) % 64 = 0 := by have := HZ.out; omega
      have hr' : (((S.size + (z + 1) + 8) % 64 : Nat) : Int) = 0 := by omega
      rw [hr'] at hm
      go_wp2_with fail
      have ho0 : wr.ownsRow w.heap.size 5 1 (.slice (some ⟨g, 0, none⟩) (z + 1) c) (1 + z + (8 - 8)) (u8s (128 :: (List.replicate z 0 ++ (List.range (8 - 8)).map fun i => S.size * 8 / 2 ^ (56 - 8 * i) % 256))) := by
        have := HO.out
        rw [show 1 + z + (8 - 8) = z + 1 by omega]
        simpa using this
      have HO0 := Lib.hid ho0
      clear ho0
      have hb : (((S.size : Int) + ((z : Int) + 1) + 8) % 64 != 0) = false := by rw [bne_eq_false_iff_eq]; omega
      rw [hb]
      clear HO hr hr' hm hlt hk1 hb
      go_loopw [4, 5] (fun v t W => ∃ m : Nat, m ≤ 8 ∧ t = .int .i64 ((m : Int) - 1) ∧ W.ownsRow w.heap.size 5 1 v (1 + z + (8 - m)) (u8s (128 :: (List.replicate z 0 ++ (List.range (8 - m)).map fun i => S.size * 8 / 2 ^ (56 - 8 * i) % 256))) ∧ Fr [] w W) (fun _ t _ => (intOf t + 1).toNat)
      case atStart => exact ⟨8, by omega, rfl, HO0.out, HF.out⟩
      case round =>
        clear HO0 HF
        obtain ⟨m, hm8, rfl, hown, hF⟩ := hrel
        have HO := Lib.hid hown
        have HF := Lib.hid hF
        clear hown hF
        cases m with
        | zero =>
          have hpad : (128 :: (List.replicate z 0 ++ (List.range (8 - 0)).map fun i => S.size * 8 / 2 ^ (56 - 8 * i) % 256) : List Nat) = Sha.pad S.size := by rw [HZ.out]; rfl
          rw [hpad] at HO
          have cvp := owns_str HO.out
          have hpl : (Sha.pad S.size).length = 9 + z := by rw [← hpad]; simp; omega
          have hplt : ∀ x ∈ Sha.pad S.size, x < 256 := by
            rw [← hpad]
            intro x hx
            simp only [List.mem_cons, List.mem_append, List.mem_replicate, List.mem_map] at hx
            rcases hx with rfl | ⟨_, rfl⟩ | ⟨_, _, rfl⟩
            · decide
            · decide
            · exact Nat.mod_lt _ (by decide)
          have hTn : nats (S ++ ba (Sha.pad S.size)) = nats S ++ Sha.pad S.size := by rw [nats_append, nats_ba _ hplt]
          have hTs : (S ++ ba (Sha.pad S.size)).size = S.size + (9 + z) := by rw [ByteArray.size_append, ba_size, hpl]
          have hTs2 : (ba (Sha.pad S.size)).size = 9 + z := by rw [ba_size, hpl]
          have HTN := Lib.hid hTn
          have HTS := Lib.hid hTs
          clear hpad hTn hTs hplt
          generalize hP : Sha.pad S.size = P at *
          have HP := Lib.hid hP
          clear hP
          have hbig : S.size + (9 + z) ≤ 9223372036854775807 := by omega
          have hSs : (S.size : Int) ≤ 1000000 := by omega
          rw [show ((0 : Nat) : Int) - 1 = -1 from rfl]
          go_wp2_with fail
          have hI : (wr.alloc (.cells (u32s Sha.iv).toArray 33)).ownsRow w.heap.size 33 1 (.slice (some ⟨wr.heap.size, 0, none⟩) 8 8) 8 (u32s Sha.iv) := ⟨rfl, Or.inr ⟨_, 8, _, rfl, HF.out.size, heap_alloc_last wr _, Nat.le_refl _, by decide, rfl, rfl⟩⟩
          refine wp_fresh (fun W => W.ownsRow w.heap.size 33 1 (.slice (some ⟨wr.heap.size, 0, none⟩) 8 8) 8 (u32s Sha.iv) ∧ Fr [] w W) ⟨hI, HF.out.alloc _⟩ ?_
          rintro V ⟨hown, hFV⟩
          obtain ⟨T, hT⟩ : ∃ T, T = S ++ ba P := ⟨_, rfl⟩
          rw [← hT] at HTN HTS ⊢
          clear hT hI HO HF
          obtain ⟨nb, hnb⟩ : ∃ nb, S.size + (9 + z) = 64 * nb := ⟨(S.size + (9 + z)) / 64, by have := HZ.out; omega⟩
          go_loopw [6, 7] (fun v t W => ∃ j g c : Nat, j ≤ nb ∧ t = .int .i64 ((64 * j : Nat) : Int) ∧ v = .slice (some ⟨g, 0, none⟩) 8 c ∧ W.ownsRow w.heap.size 33 1 (.slice (some ⟨g, 0, none⟩) 8 c) 8 (u32s (Sha.blocks Sha.iv j (nats S ++ P))) ∧ Fr [] w W) (fun _ t _ => (64 * nb - (intOf t).toNat))
          case atStart => exact ⟨0, _, _, by omega, rfl, rfl, hown, hFV⟩
          case round =>
            clear hown hFV
            obtain ⟨j, g6, c6, hj, rfl, rfl, hown, hF⟩ := hrel
            have HTZ := Lib.hid (HTS.out.trans hnb)
            by_cases hlt : j < nb
            · have h1 : 64 * (j : Int) + 64 ≤ (T.size : Int) := by have := HTZ.out; omega
              have h2 : 64 * (j : Int) < (T.size : Int) := by have := HTZ.out; omega
              have h3 : (j : Int) ≤ 100000 := by omega
              have h4 : 64 * (j : Int) ≤ 64 * (j : Int) + 64 := by omega
              have h5 : (64 * (j : Int) + 64).toNat = 64 * j + 64 := by omega
              rw [show ((64 * j : Nat) : Int) = 64 * (j : Int) by omega]
              have HO := Lib.hid hown
              have HF := Lib.hid hF
              clear hown hF
              go_wp2_with fail
              have hext : nats (T.extract (64 * j) (64 * j + 64)) = ((nats S ++ P).drop (64 * j)).take 64 := by rw [← HTN.out]; exact nats_extract _ _ _
              obtain ⟨hbl, hbb⟩ := blocks_ok j Sha.iv (nats S ++ P) ⟨rfl, by decide⟩
              obtain ⟨_, _, e6, _, hg6, hcl⟩ := ownsRow_at HO.out (by decide)
              cases e6
              refine (rone wr g6 c6 (T.extract (64 * j) (64 * j + 64)) (Sha.blocks Sha.iv j (nats S ++ P)) (by have := HTZ.out; rw [ByteArray.size_extract]; omega) hbl hbb hg6 (fun i hi => hcl i _ (getD_u32s _ _ (by omega)))).mono ?_
              rintro e w3 ⟨g7, c7, rfl, hown3, hF3⟩
              rw [hext, ← blocks_succ] at hown3
              have HO3 := Lib.hid (ownsRow_base hown3 HF.out.size)
              have HF3 := Lib.hid (HF.out.trans0 hF3)
              clear hown3 hF3 hcl hbl hbb hext
              show _
              go_wp2_with fail
              go_roundw
              case rel =>
                refine ⟨j + 1, _, _, by omega, ?_, rfl, HO3.out, HF3.out⟩
                rw [show ((64 * (j + 1) : Nat) : Int) = 64 * (j : Int) + 64 by omega]
              case measure => simp [intOf]; omega
            · obtain rfl : j = nb := by omega
              have h2 : ¬ 64 * (j : Int) < (T.size : Int) := by have := HTZ.out; omega
              rw [show ((64 * j : Nat) : Int) = 64 * (j : Int) by omega]
              have hst : Sha.blocks Sha.iv j (nats S ++ P) = Sha.st (nats S ++ P) := by
                unfold Sha.st
                rw [show (nats S ++ P).length / 64 = j by rw [List.length_append, HNL.out, hpl, hnb]; omega]
              rw [hst, ← HP.out, ← HNL.out] at hown
              go_wp2_with fail
              have HSTR := Lib.hid hown
              have hst8 := st_ok (nats S ++ Sha.pad (nats S).length)
              have hsum : Hid (Sha.sum (nats S) = Sha.bytes (Sha.st (nats S ++ Sha.pad (nats S).length))) := rfl
              have HFW := Lib.hid hF
              clear hown hF hst HTN
              obtain ⟨W0, hW0⟩ : ∃ W0, W0 = wr := ⟨_, rfl⟩
              rw [← hW0] at HSTR HFW ⊢
              clear hW0 wr
              generalize Sha.st (nats S ++ Sha.pad (nats S).length) = ST at *
              obtain ⟨hst8, hstb⟩ := hst8
              have HST8 := Lib.hid hst8
              obtain ⟨_, _, e6, _, hg6, hcl⟩ := ownsRow_at HSTR.out (by decide)
              cases e6
              have HC6 : Hid (∀ i, i < 8 → W0.cell? ⟨g6, i, none⟩ = some (.int .u32 ((Sha.g ST i : Nat) : Int))) := fun i hi => hcl i _ (getD_u32s _ _ (by omega))
              have HSTB : Hid (∀ i, i < 8 → Sha.g ST i < 4294967296) := fun i hi => getD_lt hstb i (by omega)
              clear hcl hst8 hstb HSTR
              have hown0 : (W0.alloc (.cells #[] 5)).ownsRow W0.heap.size 5 1 (.slice (some ⟨W0.heap.size, 0, none⟩) 0 0) (4 * 0) (u8s (Sha.bytes (ST.take 0))) := by
                simpa [Sha.bytes, u8s] using ownsRow_empty W0 5
              go_loopw [8, 9] (fun v t W => ∃ k : Nat, k ≤ 8 ∧ t = .int .i64 k ∧ W.ownsRow W0.heap.size 5 1 v (4 * k) (u8s (Sha.bytes (ST.take k))) ∧ Fr [] W0 W) (fun _ t _ => 8 - (intOf t).toNat)
              case atStart => exact ⟨0, by omega, rfl, hown0, (Fr.refl _ _).alloc _⟩
              case round =>
                clear hown0
                obtain ⟨k, hk, rfl, hown, hF⟩ := hrel
                by_cases hlt : k < 8
                · have hlt' : (k : Int) < 8 := by omega
                  have c1 := hF.cells (HC6.out k hlt)
                  have hxb := HSTB.out k hlt
                  have HN4 : Hid (Sha.bytes (ST.take k) ++ [Sha.g ST k / 16777216, Sha.g ST k / 65536 % 256, Sha.g ST k / 256 % 256, Sha.g ST k % 256] = Sha.bytes (ST.take (k + 1))) := by
                    show _ = _
                    have hk8 : k < ST.length := by rw [HST8.out]; exact hlt
                    have h1 : ST.take (k + 1) = ST.take k ++ [Sha.g ST k] := by rw [List.take_succ_eq_append_getElem hk8]; simp [Sha.g, List.getD, hk8]
                    rw [h1]
                    unfold Sha.bytes
                    rw [List.flatMap_append]
                    rfl
                  generalize Sha.g ST k = x at *
                  have HB4 : Hid (#[Value.int .u8 ((x : Int) / 16777216 % 256), .int .u8 ((x : Int) / 65536 % 256), .int .u8 ((x : Int) / 256 % 256), .int .u8 ((x : Int) % 256)] = (u8s [x / 16777216, x / 65536 % 256, x / 256 % 256, x % 256]).toArray) := by
                    show _ = _
                    have q1 : (x : Int) / 16777216 % 256 = ((x / 16777216 : Nat) : Int) := by omega
                    have q2 : (x : Int) / 65536 % 256 = ((x / 65536 % 256 : Nat) : Int) := by omega
                    have q3 : (x : Int) / 256 % 256 = ((x / 256 % 256 : Nat) : Int) := by omega
                    have q4 : (x : Int) % 256 = ((x % 256 : Nat) : Int) := by omega
                    rw [q1, q2, q3, q4]; rfl
                  have HO2 := Lib.hid hown
                  have HF2 := Lib.hid hF
                  clear hown hF hxb
                  go_wp2_with fail
                  -- script
                  refine wp_region_any (by kernel_rfl) ?_
                  change wpAny _ _ _ _ _ _ _ (World.drew _)
                  refine wpAny_take (i := 0) (v := u8) rfl (by kernel_rfl) (by kernel_rfl) (by kernel_rfl) (fun _ _ _ h => h) (Or.inl ⟨by rfl, by intro w; go_simp⟩) ?_
                  simp only [Act.put, List.setIfInBounds_toArray, List.set_cons_zero, List.set_cons_succ]
                  refine wpAny_take (i := 1) (v := .slice (some ⟨g6, 0, none⟩) 8 c6) rfl (by kernel_rfl) (by kernel_rfl) (by kernel_rfl) (fun _ _ _ h => h) (Or.inl ⟨by rfl, by intro w; go_simp⟩) ?_
                  simp only [Act.put, List.setIfInBounds_toArray, List.set_cons_zero, List.set_cons_succ]
                  refine wpAny_take (i := 2) (v := .int .i64 (k : Int)) rfl (by kernel_rfl) (by kernel_rfl) (by kernel_rfl) (fun _ _ _ h => h) (Or.inl ⟨by rfl, by intro w; go_simp⟩) ?_
                  simp only [Act.put, List.setIfInBounds_toArray, List.set_cons_zero, List.set_cons_succ]
                  refine wpAny_take (i := 3) (v := .pointer (some ⟨g6, k, none⟩)) rfl (by kernel_rfl) (by kernel_rfl) (by kernel_rfl) (fun _ _ _ h => h) (Or.inl ⟨by rfl, by intro w; go_simp⟩) ?_
                  simp only [Act.put, List.setIfInBounds_toArray, List.set_cons_zero, List.set_cons_succ]
                  refine wpAny_take (i := 7) (v := .slice (some ⟨g6, 0, none⟩) 8 c6) rfl (by kernel_rfl) (by kernel_rfl) (by kernel_rfl) (fun _ _ _ h => h) (Or.inl ⟨by rfl, by intro w; go_simp⟩) ?_
                  simp only [Act.put, List.setIfInBounds_toArray, List.set_cons_zero, List.set_cons_succ]
                  refine wpAny_take (i := 8) (v := .int .i64 (k : Int)) rfl (by kernel_rfl) (by kernel_rfl) (by kernel_rfl) (fun _ _ _ h => h) (Or.inl ⟨by rfl, by intro w; go_simp⟩) ?_
                  simp only [Act.put, List.setIfInBounds_toArray, List.set_cons_zero, List.set_cons_succ]
                  refine wpAny_take (i := 9) (v := .pointer (some ⟨g6, k, none⟩)) rfl (by kernel_rfl) (by kernel_rfl) (by kernel_rfl) (fun _ _ _ h => h) (Or.inl ⟨by rfl, by intro w; go_simp⟩) ?_
                  simp only [Act.put, List.setIfInBounds_toArray, List.set_cons_zero, List.set_cons_succ]
                  refine wpAny_take (i := 13) (v := .slice (some ⟨g6, 0, none⟩) 8 c6) rfl (by kernel_rfl) (by kernel_rfl) (by kernel_rfl) (fun _ _ _ h => h) (Or.inl ⟨by rfl, by intro w; go_simp⟩) ?_
                  simp only [Act.put, List.setIfInBounds_toArray, List.set_cons_zero, List.set_cons_succ]
                  refine wpAny_take (i := 14) (v := .int .i64 (k : Int)) rfl (by kernel_rfl) (by kernel_rfl) (by kernel_rfl) (fun _ _ _ h => h) (Or.inl ⟨by rfl, by intro w; go_simp⟩) ?_
                  simp only [Act.put, List.setIfInBounds_toArray, List.set_cons_zero, List.set_cons_succ]
                  refine wpAny_take (i := 15) (v := .pointer (some ⟨g6, k, none⟩)) rfl (by kernel_rfl) (by kernel_rfl) (by kernel_rfl) (fun _ _ _ h => h) (Or.inl ⟨by rfl, by intro w; go_simp⟩) ?_
                  simp only [Act.put, List.setIfInBounds_toArray, List.set_cons_zero, List.set_cons_succ]
                  refine wpAny_take (i := 19) (v := .slice (some ⟨g6, 0, none⟩) 8 c6) rfl (by kernel_rfl) (by kernel_rfl) (by kernel_rfl) (fun _ _ _ h => h) (Or.inl ⟨by rfl, by intro w; go_simp⟩) ?_
                  simp only [Act.put, List.setIfInBounds_toArray, List.set_cons_zero, List.set_cons_succ]
                  refine wpAny_take (i := 20) (v := .int .i64 (k : Int)) rfl (by kernel_rfl) (by kernel_rfl) (by kernel_rfl) (fun _ _ _ h => h) (Or.inl ⟨by rfl, by intro w; go_simp⟩) ?_
                  simp only [Act.put, List.setIfInBounds_toArray, List.set_cons_zero, List.set_cons_succ]
                  refine wpAny_take (i := 21) (v := .pointer (some ⟨g6, k, none⟩)) rfl (by kernel_rfl) (by kernel_rfl) (by kernel_rfl) (fun _ _ _ h => h) (Or.inl ⟨by rfl, by intro w; go_simp⟩) ?_
                  simp only [Act.put, List.setIfInBounds_toArray, List.set_cons_zero, List.set_cons_succ]
                  refine wpAny_ready (rs := [4, 10, 16, 22]) (by kernel_rfl) (by simp) ?_
                  refine AllReady.cons rfl (fun K hK => ?_) ?_
                  · skip
                    go_simp
                    refine hK _ _ ?_
                    clear hK K
                    refine wpAny_take (i := 5) (v := .int .u32 ((x : Int) / 16777216)) rfl (by kernel_rfl) (by kernel_rfl) (by kernel_rfl) (fun _ _ _ h => h) (Or.inl ⟨by rfl, by intro w; go_simp⟩) ?_
                    simp only [Act.put, List.setIfInBounds_toArray, List.set_cons_zero, List.set_cons_succ]
                    refine wpAny_take (i := 6) (v := .int .u8 ((x : Int) / 16777216 % 256)) rfl (by kernel_rfl) (by kernel_rfl) (by kernel_rfl) (fun _ _ _ h => h) (Or.inl ⟨by rfl, by intro w; go_simp; exact wrap8 _⟩) ?_
                    simp only [Act.put, List.setIfInBounds_toArray, List.set_cons_zero, List.set_cons_succ]
                    refine wpAny_ready (rs := [10, 16, 22]) (by kernel_rfl) (by simp) ?_
                    refine AllReady.cons rfl (fun K hK => ?_) ?_
                    · skip
                      go_simp
                      refine hK _ _ ?_
                      clear hK K
                      refine wpAny_take (i := 11) (v := .int .u32 ((x : Int) / 65536)) rfl (by kernel_rfl) (by kernel_rfl) (by kernel_rfl) (fun _ _ _ h => h) (Or.inl ⟨by rfl, by intro w; go_simp⟩) ?_
                      simp only [Act.put, List.setIfInBounds_toArray, List.set_cons_zero, List.set_cons_succ]
                      refine wpAny_take (i := 12) (v := .int .u8 ((x : Int) / 65536 % 256)) rfl (by kernel_rfl) (by kernel_rfl) (by kernel_rfl) (fun _ _ _ h => h) (Or.inl ⟨by rfl, by intro w; go_simp; exact wrap8 _⟩) ?_
                      simp only [Act.put, List.setIfInBounds_toArray, List.set_cons_zero, List.set_cons_succ]
                      refine wpAny_ready (rs := [16, 22]) (by kernel_rfl) (by simp) ?_
                      refine AllReady.cons rfl (fun K hK => ?_) ?_
                      · skip
                        go_simp
                        refine hK _ _ ?_
                        clear hK K
                        refine wpAny_take (i := 17) (v := .int .u32 ((x : Int) / 256)) rfl (by kernel_rfl) (by kernel_rfl) (by kernel_rfl) (fun _ _ _ h => h) (Or.inl ⟨by rfl, by intro w; go_simp⟩) ?_
                        simp only [Act.put, List.setIfInBounds_toArray, List.set_cons_zero, List.set_cons_succ]
                        refine wpAny_take (i := 18) (v := .int .u8 ((x : Int) / 256 % 256)) rfl (by kernel_rfl) (by kernel_rfl) (by kernel_rfl) (fun _ _ _ h => h) (Or.inl ⟨by rfl, by intro w; go_simp; exact wrap8 _⟩) ?_
                        simp only [Act.put, List.setIfInBounds_toArray, List.set_cons_zero, List.set_cons_succ]
                        refine wpAny_ready (rs := [22]) (by kernel_rfl) (by simp) ?_
                        refine AllReady.cons rfl (fun K hK => ?_) ?_
                        · skip
                          go_simp
                          refine hK _ _ ?_
                          clear hK K
                          refine wpAny_take (i := 23) (v := .int .u8 ((x : Int) % 256)) rfl (by kernel_rfl) (by kernel_rfl) (by kernel_rfl) (fun _ _ _ h => h) (Or.inl ⟨by rfl, by intro w; go_simp; exact wrap8 _⟩) ?_
                          simp only [Act.put, List.setIfInBounds_toArray, List.set_cons_zero, List.set_cons_succ]
                          refine wpAny_ready (rs := [24]) (by kernel_rfl) (by simp) ?_
                          refine AllReady.cons rfl (fun K hK => ?_) ?_
                          · skip
                            go_simp
                            refine hK _ _ ?_
                            clear hK K
                            refine wpAny_ready (rs := [25]) (by kernel_rfl) (by simp) ?_
                            refine AllReady.cons rfl (fun K hK => ?_) ?_
                            · skip
                              refine step8m rfl (.tmp 61) (.tmp 85) rfl W0 wr _ rfl u8 (4 * k) _ 4 [x / 16777216, x / 65536 % 256, x / 256 % 256, x % 256] HB4.out rfl (by decide) rfl rfl HO2.out HF2.out (by omega) ?_
                              intro v' w2 ho hf
                              rw [HN4.out] at ho
                              refine hK _ _ ?_
                              clear hK K
                              simp only [Act.put, List.setIfInBounds_toArray, List.set_cons_zero, List.set_cons_succ]
                              refine wpAny_ready (rs := [26]) (by kernel_rfl) (by simp) ?_
                              refine AllReady.cons rfl (fun K hK => ?_) ?_
                              · skip
                                go_simp
                                refine hK _ _ ?_
                                clear hK K
                                refine wpAny_done (by kernel_rfl) ?_ _
                                go_wp2_with fail
                                go_roundw
                                case rel => first | exact ⟨k + 1, by omega, by go_num, ho, hf⟩ | ((repeat apply Exists.intro); exact ⟨⟨k + 1, by omega, by go_num, ho, hf⟩, rfl⟩)
                                case measure => simp [intOf]; omega
                              exact AllReady.nil
                            exact AllReady.nil
                          exact AllReady.nil
                        exact AllReady.nil
                      refine AllReady.cons rfl (fun K hK => ?_) ?_
                      · skip
                        go_simp
                        refine hK _ _ ?_
                        clear hK K
                        refine wpAny_take (i := 23) (v := .int .u8 ((x : Int) % 256)) rfl (by kernel_rfl) (by kernel_rfl) (by kernel_rfl) (fun _ _ _ h => h) (Or.inl ⟨by rfl, by intro w; go_simp; exact wrap8 _⟩) ?_
                        simp only [Act.put, List.setIfInBounds_toArray, List.set_cons_zero, List.set_cons_succ]
                        refine wpAny_ready (rs := [16]) (by kernel_rfl) (by simp) ?_
                        refine AllReady.cons rfl (fun K hK => ?_) ?_
                        · skip
                          go_simp
                          refine hK _ _ ?_
                          clear hK K
                          refine wpAny_take (i := 17) (v := .int .u32 ((x : Int) / 256)) rfl (by kernel_rfl) (by kernel_rfl) (by kernel_rfl) (fun _ _ _ h => h) (Or.inl ⟨by rfl, by intro w; go_simp⟩) ?_
                          simp only [Act.put, List.setIfInBounds_toArray, List.set_cons_zero, List.set_cons_succ]
                          refine wpAny_take (i := 18) (v := .int .u8 ((x : Int) / 256 % 256)) rfl (by kernel_rfl) (by kernel_rfl) (by kernel_rfl) (fun _ _ _ h => h) (Or.inl ⟨by rfl, by intro w; go_simp; exact wrap8 _⟩) ?_
                          simp only [Act.put, List.setIfInBounds_toArray, List.set_cons_zero, List.set_cons_succ]
                          refine wpAny_ready (rs := [24]) (by kernel_rfl) (by simp) ?_
                          refine AllReady.cons rfl (fun K hK => ?_) ?_
                          · skip
                            go_simp
                            refine hK _ _ ?_
                            clear hK K
                            refine wpAny_ready (rs := [25]) (by kernel_rfl) (by simp) ?_
                            refine AllReady.cons rfl (fun K hK => ?_) ?_
                            · skip
                              refine step8m rfl (.tmp 61) (.tmp 85) rfl W0 wr _ rfl u8 (4 * k) _ 4 [x / 16777216, x / 65536 % 256, x / 256 % 256, x % 256] HB4.out rfl (by decide) rfl rfl HO2.out HF2.out (by omega) ?_
                              intro v' w2 ho hf
                              rw [HN4.out] at ho
                              refine hK _ _ ?_
                              clear hK K
                              simp only [Act.put, List.setIfInBounds_toArray, List.set_cons_zero, List.set_cons_succ]
                              refine wpAny_ready (rs := [26]) (by kernel_rfl) (by simp) ?_
                              refine AllReady.cons rfl (fun K hK => ?_) ?_
                              · skip
                                go_simp
                                refine hK _ _ ?_
                                clear hK K
                                refine wpAny_done (by kernel_rfl) ?_ _
                                go_wp2_with fail
                                go_roundw
                                case rel => first | exact ⟨k + 1, by omega, by go_num, ho, hf⟩ | ((repeat apply Exists.intro); exact ⟨⟨k + 1, by omega, by go_num, ho, hf⟩, rfl⟩)
                                case measure => simp [intOf]; omega
                              exact AllReady.nil
                            exact AllReady.nil
                          exact AllReady.nil
                        exact AllReady.nil
                      exact AllReady.nil
                    refine AllReady.cons rfl (fun K hK => ?_) ?_
                    · skip
                      go_simp
                      refine hK _ _ ?_
                      clear hK K
                      refine wpAny_take (i := 17) (v := .int .u32 ((x : Int) / 256)) rfl (by kernel_rfl) (by kernel_rfl) (by kernel_rfl) (fun _ _ _ h => h) (Or.inl ⟨by rfl, by intro w; go_simp⟩) ?_
                      simp only [Act.put, List.setIfInBounds_toArray, List.set_cons_zero, List.set_cons_succ]
                      refine wpAny_take (i := 18) (v := .int .u8 ((x : Int) / 256 % 256)) rfl (by kernel_rfl) (by kernel_rfl) (by kernel_rfl) (fun _ _ _ h => h) (Or.inl ⟨by rfl, by intro w; go_simp; exact wrap8 _⟩) ?_
                      simp only [Act.put, List.setIfInBounds_toArray, List.set_cons_zero, List.set_cons_succ]
                      refine wpAny_ready (rs := [10, 22]) (by kernel_rfl) (by simp) ?_
                      refine AllReady.cons rfl (fun K hK => ?_) ?_
                      · skip
                        go_simp
                        refine hK _ _ ?_
                        clear hK K
                        refine wpAny_take (i := 11) (v := .int .u32 ((x : Int) / 65536)) rfl (by kernel_rfl) (by kernel_rfl) (by kernel_rfl) (fun _ _ _ h => h) (Or.inl ⟨by rfl, by intro w; go_simp⟩) ?_
                        simp only [Act.put, List.setIfInBounds_toArray, List.set_cons_zero, List.set_cons_succ]
                        refine wpAny_take (i := 12) (v := .int .u8 ((x : Int) / 65536 % 256)) rfl (by kernel_rfl) (by kernel_rfl) (by kernel_rfl) (fun _ _ _ h => h) (Or.inl ⟨by rfl, by intro w; go_simp; exact wrap8 _⟩) ?_
                        simp only [Act.put, List.setIfInBounds_toArray, List.set_cons_zero, List.set_cons_succ]
                        refine wpAny_ready (rs := [22]) (by kernel_rfl) (by simp) ?_
                        refine AllReady.cons rfl (fun K hK => ?_) ?_
                        · skip
                          go_simp
                          refine hK _ _ ?_
                          clear hK K
                          refine wpAny_take (i := 23) (v := .int .u8 ((x : Int) % 256)) rfl (by kernel_rfl) (by kernel_rfl) (by kernel_rfl) (fun _ _ _ h => h) (Or.inl ⟨by rfl, by intro w; go_simp; exact wrap8 _⟩) ?_
                          simp only [Act.put, List.setIfInBounds_toArray, List.set_cons_zero, List.set_cons_succ]
                          refine wpAny_ready (rs := [24]) (by kernel_rfl) (by simp) ?_
                          refine AllReady.cons rfl (fun K hK => ?_) ?_
                          · skip
                            go_simp
                            refine hK _ _ ?_
                            clear hK K
                            refine wpAny_ready (rs := [25]) (by kernel_rfl) (by simp) ?_
                            refine AllReady.cons rfl (fun K hK => ?_) ?_
                            · skip
                              refine step8m rfl (.tmp 61) (.tmp 85) rfl W0 wr _ rfl u8 (4 * k) _ 4 [x / 16777216, x / 65536 % 256, x / 256 % 256, x % 256] HB4.out rfl (by decide) rfl rfl HO2.out HF2.out (by omega) ?_
                              intro v' w2 ho hf
                              rw [HN4.out] at ho
                              refine hK _ _ ?_
                              clear hK K
                              simp only [Act.put, List.setIfInBounds_toArray, List.set_cons_zero, List.set_cons_succ]
                              refine wpAny_ready (rs := [26]) (by kernel_rfl) (by simp) ?_
                              refine AllReady.cons rfl (fun K hK => ?_) ?_
                              · skip
                                go_simp
                                refine hK _ _ ?_
                                clear hK K
                                refine wpAny_done (by kernel_rfl) ?_ _
                                go_wp2_with fail
                                go_roundw
                                case rel => first | exact ⟨k + 1, by omega, by go_num, ho, hf⟩ | ((repeat apply Exists.intro); exact ⟨⟨k + 1, by omega, by go_num, ho, hf⟩, rfl⟩)
                                case measure => simp [intOf]; omega
                              exact AllReady.nil
                            exact AllReady.nil
                          exact AllReady.nil
                        exact AllReady.nil
                      refine AllReady.cons rfl (fun K hK => ?_) ?_
                      · skip
                        go_simp
                        refine hK _ _ ?_
                        clear hK K
                        refine wpAny_take (i := 23) (v := .int .u8 ((x : Int) % 256)) rfl (by kernel_rfl) (by kernel_rfl) (by kernel_rfl) (fun _ _ _ h => h) (Or.inl ⟨by rfl, by intro w; go_simp; exact wrap8 _⟩) ?_
                        simp only [Act.put, List.setIfInBounds_toArray, List.set_cons_zero, List.set_cons_succ]
                        refine wpAny_ready (rs := [10]) (by kernel_rfl) (by simp) ?_
                        refine AllReady.cons rfl (fun K hK => ?_) ?_
                        · skip
                          go_simp
                          refine hK _ _ ?_
                          clear hK K
                          refine wpAny_take (i := 11) (v := .int .u32 ((x : Int) / 65536)) rfl (by kernel_rfl) (by kernel_rfl) (by kernel_rfl) (fun _ _ _ h => h) (Or.inl ⟨by rfl, by intro w; go_simp⟩) ?_
                          simp only [Act.put, List.setIfInBounds_toArray, List.set_cons_zero, List.set_cons_succ]
                          refine wpAny_take (i := 12) (v := .int .u8 ((x : Int) / 65536 % 256)) rfl (by kernel_rfl) (by kernel_rfl) (by kernel_rfl) (fun _ _ _ h => h) (Or.inl ⟨by rfl, by intro w; go_simp; exact wrap8 _⟩) ?_
                          simp only [Act.put, List.setIfInBounds_toArray, List.set_cons_zero, List.set_cons_succ]
                          refine wpAny_ready (rs := [24]) (by kernel_rfl) (by simp) ?_
                          refine AllReady.cons rfl (fun K hK => ?_) ?_
                          · skip
                            go_simp
                            refine hK _ _ ?_
                            clear hK K
                            refine wpAny_ready (rs := [25]) (by kernel_rfl) (by simp) ?_
                            refine AllReady.cons rfl (fun K hK => ?_) ?_
                            · skip
                              refine step8m rfl (.tmp 61) (.tmp 85) rfl W0 wr _ rfl u8 (4 * k) _ 4 [x / 16777216, x / 65536 % 256, x / 256 % 256, x % 256] HB4.out rfl (by decide) rfl rfl HO2.out HF2.out (by omega) ?_
                              intro v' w2 ho hf
                              rw [HN4.out] at ho
                              refine hK _ _ ?_
                              clear hK K
                              simp only [Act.put, List.setIfInBounds_toArray, List.set_cons_zero, List.set_cons_succ]
                              refine wpAny_ready (rs := [26]) (by kernel_rfl) (by simp) ?_
                              refine AllReady.cons rfl (fun K hK => ?_) ?_
                              · skip
                                go_simp
                                refine hK _ _ ?_
                                clear hK K
                                refine wpAny_done (by kernel_rfl) ?_ _
                                go_wp2_with fail
                                go_roundw
                                case rel => first | exact ⟨k + 1, by omega, by go_num, ho, hf⟩ | ((repeat apply Exists.intro); exact ⟨⟨k + 1, by omega, by go_num, ho, hf⟩, rfl⟩)
                                case measure => simp [intOf]; omega
                              exact AllReady.nil
                            exact AllReady.nil
                          exact AllReady.nil
                        exact AllReady.nil
                      exact AllReady.nil
                    refine AllReady.cons rfl (fun K hK => ?_) ?_
                    · skip
                      go_simp
                      refine hK _ _ ?_
                      clear hK K
                      refine wpAny_take (i := 23) (v := .int .u8 ((x : Int) % 256)) rfl (by kernel_rfl) (by kernel_rfl) (by kernel_rfl) (fun _ _ _ h => h) (Or.inl ⟨by rfl, by intro w; go_simp; exact wrap8 _⟩) ?_
                      simp only [Act.put, List.setIfInBounds_toArray, List.set_cons_zero, List.set_cons_succ]
                      refine wpAny_ready (rs := [10, 16]) (by kernel_rfl) (by simp) ?_
                      refine AllReady.cons rfl (fun K hK => ?_) ?_
                      · skip
                        go_simp
                        refine hK _ _ ?_
                        clear hK K
                        refine wpAny_take (i := 11) (v := .int .u32 ((x : Int) / 65536)) rfl (by kernel_rfl) (by kernel_rfl) (by kernel_rfl) (fun _ _ _ h => h) (Or.inl ⟨by rfl, by intro w; go_simp⟩) ?_
                        simp only [Act.put, List.setIfInBounds_toArray, List.set_cons_zero, List.set_cons_succ]
                        refine wpAny_take (i := 12) (v := .int .u8 ((x : Int) / 65536 % 256)) rfl (by kernel_rfl) (by kernel_rfl) (by kernel_rfl) (fun _ _ _ h => h) (Or.inl ⟨by rfl, by intro w; go_simp; exact wrap8 _⟩) ?_
                        simp only [Act.put, List.setIfInBounds_toArray, List.set_cons_zero, List.set_cons_succ]
                        refine wpAny_ready (rs := [16]) (by kernel_rfl) (by simp) ?_
                        refine AllReady.cons rfl (fun K hK => ?_) ?_
                        · skip
                          go_simp
                          refine hK _ _ ?_
                          clear hK K
                          refine wpAny_take (i := 17) (v := .int .u32 ((x : Int) / 256)) rfl (by kernel_rfl) (by kernel_rfl) (by kernel_rfl) (fun _ _ _ h => h) (Or.inl ⟨by rfl, by intro w; go_simp⟩) ?_
                          simp only [Act.put, List.setIfInBounds_toArray, List.set_cons_zero, List.set_cons_succ]
                          refine wpAny_take (i := 18) (v := .int .u8 ((x : Int) / 256 % 256)) rfl (by kernel_rfl) (by kernel_rfl) (by kernel_rfl) (fun _ _ _ h => h) (Or.inl ⟨by rfl, by intro w; go_simp; exact wrap8 _⟩) ?_
                          simp only [Act.put, List.setIfInBounds_toArray, List.set_cons_zero, List.set_cons_succ]
                          refine wpAny_ready (rs := [24]) (by kernel_rfl) (by simp) ?_
                          refine AllReady.cons rfl (fun K hK => ?_) ?_
                          · skip
                            go_simp
                            refine hK _ _ ?_
                            clear hK K
                            refine wpAny_ready (rs := [25]) (by kernel_rfl) (by simp) ?_
                            refine AllReady.cons rfl (fun K hK => ?_) ?_
                            · skip
                              refine step8m rfl (.tmp 61) (.tmp 85) rfl W0 wr _ rfl u8 (4 * k) _ 4 [x / 16777216, x / 65536 % 256, x / 256 % 256, x % 256] HB4.out rfl (by decide) rfl rfl HO2.out HF2.out (by omega) ?_
                              intro v' w2 ho hf
                              rw [HN4.out] at ho
                              refine hK _ _ ?_
                              clear hK K
                              simp only [Act.put, List.setIfInBounds_toArray, List.set_cons_zero, List.set_cons_succ]
                              refine wpAny_ready (rs := [26]) (by kernel_rfl) (by simp) ?_
                              refine AllReady.cons rfl (fun K hK => ?_) ?_
                              · skip
                                go_simp
                                refine hK _ _ ?_
                                clear hK K
                                refine wpAny_done (by kernel_rfl) ?_ _
                                go_wp2_with fail
                                go_roundw
                                case rel => first | exact ⟨k + 1, by omega, by go_num, ho, hf⟩ | ((repeat apply Exists.intro); exact ⟨⟨k + 1, by omega, by go_num, ho, hf⟩, rfl⟩)
                                case measure => simp [intOf]; omega
                              exact AllReady.nil
                            exact AllReady.nil
                          exact AllReady.nil
                        exact AllReady.nil
                      refine AllReady.cons rfl (fun K hK => ?_) ?_
                      · skip
                        go_simp
                        refine hK _ _ ?_
                        clear hK K
                        refine wpAny_take (i := 17) (v := .int .u32 ((x : Int) / 256)) rfl (by kernel_rfl) (by kernel_rfl) (by kernel_rfl) (fun _ _ _ h => h) (Or.inl ⟨by rfl, by intro w; go_simp⟩) ?_
                        simp only [Act.put, List.setIfInBounds_toArray, List.set_cons_zero, List.set_cons_succ]
                        refine wpAny_take (i := 18) (v := .int .u8 ((x : Int) / 256 % 256)) rfl (by kernel_rfl) (by kernel_rfl) (by kernel_rfl) (fun _ _ _ h => h) (Or.inl ⟨by rfl, by intro w; go_simp; exact wrap8 _⟩) ?_
                        simp only [Act.put, List.setIfInBounds_toArray, List.set_cons_zero, List.set_cons_succ]
                        refine wpAny_ready (rs := [10]) (by kernel_rfl) (by simp) ?_
                        refine AllReady.cons rfl (fun K hK => ?_) ?_
                        · skip
                          go_simp
                          refine hK _ _ ?_
                          clear hK K
                          refine wpAny_take (i := 11) (v := .int .u32 ((x : Int) / 65536)) rfl (by kernel_rfl) (by kernel_rfl) (by kernel_rfl) (fun _ _ _ h => h) (Or.inl ⟨by rfl, by intro w; go_simp⟩) ?_
                          simp only [Act.put, List.setIfInBounds_toArray, List.set_cons_zero, List.set_cons_succ]
                          refine wpAny_take (i := 12) (v := .int .u8 ((x : Int) / 65536 % 256)) rfl (by kernel_rfl) (by kernel_rfl) (by kernel_rfl) (fun _ _ _ h => h) (Or.inl ⟨by rfl, by intro w; go_simp; exact wrap8 _⟩) ?_
                          simp only [Act.put, List.setIfInBounds_toArray, List.set_cons_zero, List.set_cons_succ]
                          refine wpAny_ready (rs := [24]) (by kernel_rfl) (by simp) ?_
                          refine AllReady.cons rfl (fun K hK => ?_) ?_
                          · skip
                            go_simp
                            refine hK _ _ ?_
                            clear hK K
                            refine wpAny_ready (rs := [25]) (by kernel_rfl) (by simp) ?_
                            refine AllReady.cons rfl (fun K hK => ?_) ?_
                            · skip
                              refine step8m rfl (.tmp 61) (.tmp 85) rfl W0 wr _ rfl u8 (4 * k) _ 4 [x / 16777216, x / 65536 % 256, x / 256 % 256, x % 256] HB4.out rfl (by decide) rfl rfl HO2.out HF2.out (by omega) ?_
                              intro v' w2 ho hf
                              rw [HN4.out] at ho
                              refine hK _ _ ?_
                              clear hK K
                              simp only [Act.put, List.setIfInBounds_toArray, List.set_cons_zero, List.set_cons_succ]
                              refine wpAny_ready (rs := [26]) (by kernel_rfl) (by simp) ?_
                              refine AllReady.cons rfl (fun K hK => ?_) ?_
                              · skip
                                go_simp
                                refine hK _ _ ?_
                                clear hK K
                                refine wpAny_done (by kernel_rfl) ?_ _
                                go_wp2_with fail
                                go_roundw
                                case rel => first | exact ⟨k + 1, by omega, by go_num, ho, hf⟩ | ((repeat apply Exists.intro); exact ⟨⟨k + 1, by omega, by go_num, ho, hf⟩, rfl⟩)
                                case measure => simp [intOf]; omega
                              exact AllReady.nil
                            exact AllReady.nil
                          exact AllReady.nil
                        exact AllReady.nil
                      exact AllReady.nil
                    exact AllReady.nil
                  refine AllReady.cons rfl (fun K hK => ?_) ?_
                  · skip
                    go_simp
                    refine hK _ _ ?_
                    clear hK K
                    refine wpAny_take (i := 11) (v := .int .u32 ((x : Int) / 65536)) rfl (by kernel_rfl) (by kernel_rfl) (by kernel_rfl) (fun _ _ _ h => h) (Or.inl ⟨by rfl, by intro w; go_simp⟩) ?_
                    simp only [Act.put, List.setIfInBounds_toArray, List.set_cons_zero, List.set_cons_succ]
                    refine wpAny_take (i := 12) (v := .int .u8 ((x : Int) / 65536 % 256)) rfl (by kernel_rfl) (by kernel_rfl) (by kernel_rfl) (fun _ _ _ h => h) (Or.inl ⟨by rfl, by intro w; go_simp; exact wrap8 _⟩) ?_
                    simp only [Act.put, List.setIfInBounds_toArray, List.set_cons_zero, List.set_cons_succ]
                    refine wpAny_ready (rs := [4, 16, 22]) (by kernel_rfl) (by simp) ?_
                    refine AllReady.cons rfl (fun K hK => ?_) ?_
                    · skip
                      go_simp
                      refine hK _ _ ?_
                      clear hK K
                      refine wpAny_take (i := 5) (v := .int .u32 ((x : Int) / 16777216)) rfl (by kernel_rfl) (by kernel_rfl) (by kernel_rfl) (fun _ _ _ h => h) (Or.inl ⟨by rfl, by intro w; go_simp⟩) ?_
                      simp only [Act.put, List.setIfInBounds_toArray, List.set_cons_zero, List.set_cons_succ]
                      refine wpAny_take (i := 6) (v := .int .u8 ((x : Int) / 16777216 % 256)) rfl (by kernel_rfl) (by kernel_rfl) (by kernel_rfl) (fun _ _ _ h => h) (Or.inl ⟨by rfl, by intro w; go_simp; exact wrap8 _⟩) ?_
                      simp only [Act.put, List.setIfInBounds_toArray, List.set_cons_zero, List.set_cons_succ]
                      refine wpAny_ready (rs := [16, 22]) (by kernel_rfl) (by simp) ?_
                      refine AllReady.cons rfl (fun K hK => ?_) ?_
                      · skip
                        go_simp
                        refine hK _ _ ?_
                        clear hK K
                        refine wpAny_take (i := 17) (v := .int .u32 ((x : Int) / 256)) rfl (by kernel_rfl) (by kernel_rfl) (by kernel_rfl) (fun _ _ _ h => h) (Or.inl ⟨by rfl, by intro w; go_simp⟩) ?_
                        simp only [Act.put, List.setIfInBounds_toArray, List.set_cons_zero, List.set_cons_succ]
                        refine wpAny_take (i := 18) (v := .int .u8 ((x : Int) / 256 % 256)) rfl (by kernel_rfl) (by kernel_rfl) (by kernel_rfl) (fun _ _ _ h => h) (Or.inl ⟨by rfl, by intro w; go_simp; exact wrap8 _⟩) ?_
                        simp only [Act.put, List.setIfInBounds_toArray, List.set_cons_zero, List.set_cons_succ]
                        refine wpAny_ready (rs := [22]) (by kernel_rfl) (by simp) ?_
                        refine AllReady.cons rfl (fun K hK => ?_) ?_
                        · skip
                          go_simp
                          refine hK _ _ ?_
                          clear hK K
                          refine wpAny_take (i := 23) (v := .int .u8 ((x : Int) % 256)) rfl (by kernel_rfl) (by kernel_rfl) (by kernel_rfl) (fun _ _ _ h => h) (Or.inl ⟨by rfl, by intro w; go_simp; exact wrap8 _⟩) ?_
                          simp only [Act.put, List.setIfInBounds_toArray, List.set_cons_zero, List.set_cons_succ]
                          refine wpAny_ready (rs := [24]) (by kernel_rfl) (by simp) ?_
                          refine AllReady.cons rfl (fun K hK => ?_) ?_
                          · skip
                            go_simp
                            refine hK _ _ ?_
                            clear hK K
                            refine wpAny_ready (rs := [25]) (by kernel_rfl) (by simp) ?_
                            refine AllReady.cons rfl (fun K hK => ?_) ?_
                            · skip
                              refine step8m rfl (.tmp 61) (.tmp 85) rfl W0 wr _ rfl u8 (4 * k) _ 4 [x / 16777216, x / 65536 % 256, x / 256 % 256, x % 256] HB4.out rfl (by decide) rfl rfl HO2.out HF2.out (by omega) ?_
                              intro v' w2 ho hf
                              rw [HN4.out] at ho
                              refine hK _ _ ?_
                              clear hK K
                              simp only [Act.put, List.setIfInBounds_toArray, List.set_cons_zero, List.set_cons_succ]
                              refine wpAny_ready (rs := [26]) (by kernel_rfl) (by simp) ?_
                              refine AllReady.cons rfl (fun K hK => ?_) ?_
                              · skip
                                go_simp
                                refine hK _ _ ?_
                                clear hK K
                                refine wpAny_done (by kernel_rfl) ?_ _
                                go_wp2_with fail
                                go_roundw
                                case rel => first | exact ⟨k + 1, by omega, by go_num, ho, hf⟩ | ((repeat apply Exists.intro); exact ⟨⟨k + 1, by omega, by go_num, ho, hf⟩, rfl⟩)
                                case measure => simp [intOf]; omega
                              exact AllReady.nil
                            exact AllReady.nil
                          exact AllReady.nil
                        exact AllReady.nil
                      refine AllReady.cons rfl (fun K hK => ?_) ?_
                      · skip
                        go_simp
                        refine hK _ _ ?_
                        clear hK K
                        refine wpAny_take (i := 23) (v := .int .u8 ((x : Int) % 256)) rfl (by kernel_rfl) (by kernel_rfl) (by kernel_rfl) (fun _ _ _ h => h) (Or.inl ⟨by rfl, by intro w; go_simp; exact wrap8 _⟩) ?_
                        simp only [Act.put, List.setIfInBounds_toArray, List.set_cons_zero, List.set_cons_succ]
                        refine wpAny_ready (rs := [16]) (by kernel_rfl) (by simp) ?_
                        refine AllReady.cons rfl (fun K hK => ?_) ?_
                        · skip
                          go_simp
                          refine hK _ _ ?_
                          clear hK K
                          refine wpAny_take (i := 17) (v := .int .u32 ((x : Int) / 256)) rfl (by kernel_rfl) (by kernel_rfl) (by kernel_rfl) (fun _ _ _ h => h) (Or.inl ⟨by rfl, by intro w; go_simp⟩) ?_
                          simp only [Act.put, List.setIfInBounds_toArray, List.set_cons_zero, List.set_cons_succ]
                          refine wpAny_take (i := 18) (v := .int .u8 ((x : Int) / 256 % 256)) rfl (by kernel_rfl) (by kernel_rfl) (by kernel_rfl) (fun _ _ _ h => h) (Or.inl ⟨by rfl, by intro w; go_simp; exact wrap8 _⟩) ?_
                          simp only [Act.put, List.setIfInBounds_toArray, List.set_cons_zero, List.set_cons_succ]
                          refine wpAny_ready (rs := [24]) (by kernel_rfl) (by simp) ?_
                          refine AllReady.cons rfl (fun K hK => ?_) ?_
                          · skip
                            go_simp
                            refine hK _ _ ?_
                            clear hK K
                            refine wpAny_ready (rs := [25]) (by kernel_rfl) (by simp) ?_
                            refine AllReady.cons rfl (fun K hK => ?_) ?_
                            · skip
                              refine step8m rfl (.tmp 61) (.tmp 85) rfl W0 wr _ rfl u8 (4 * k) _ 4 [x / 16777216, x / 65536 % 256, x / 256 % 256, x % 256] HB4.out rfl (by decide) rfl rfl HO2.out HF2.out (by omega) ?_
                              intro v' w2 ho hf
                              rw [HN4.out] at ho
                              refine hK _ _ ?_
                              clear hK K
                              simp only [Act.put, List.setIfInBounds_toArray, List.set_cons_zero, List.set_cons_succ]
                              refine wpAny_ready (rs := [26]) (by kernel_rfl) (by simp) ?_
                              refine AllReady.cons rfl (fun K hK => ?_) ?_
                              · skip
                                go_simp
                                refine hK _ _ ?_
                                clear hK K
                                refine wpAny_done (by kernel_rfl) ?_ _
                                go_wp2_with fail
                                go_roundw
                                case rel => first | exact ⟨k + 1, by omega, by go_num, ho, hf⟩ | ((repeat apply Exists.intro); exact ⟨⟨k + 1, by omega, by go_num, ho, hf⟩, rfl⟩)
                                case measure => simp [intOf]; omega
                              exact AllReady.nil
                            exact AllReady.nil
                          exact AllReady.nil
                        exact AllReady.nil
                      exact AllReady.nil
                    refine AllReady.cons rfl (fun K hK => ?_) ?_
                    · skip
                      go_simp
                      refine hK _ _ ?_
                      clear hK K
                      refine wpAny_take (i := 17) (v := .int .u32 ((x : Int) / 256)) rfl (by kernel_rfl) (by kernel_rfl) (by kernel_rfl) (fun _ _ _ h => h) (Or.inl ⟨by rfl, by intro w; go_simp⟩) ?_
                      simp only [Act.put, List.setIfInBounds_toArray, List.set_cons_zero, List.set_cons_succ]
                      refine wpAny_take (i := 18) (v := .int .u8 ((x : Int) / 256 % 256)) rfl (by kernel_rfl) (by kernel_rfl) (by kernel_rfl) (fun _ _ _ h => h) (Or.inl ⟨by rfl, by intro w; go_simp; exact wrap8 _⟩) ?_
                      simp only [Act.put, List.setIfInBounds_toArray, List.set_cons_zero, List.set_cons_succ]
                      refine wpAny_ready (rs := [4, 22]) (by kernel_rfl) (by simp) ?_
                      refine AllReady.cons rfl (fun K hK => ?_) ?_
                      · skip
                        go_simp
                        refine hK _ _ ?_
                        clear hK K
                        refine wpAny_take (i := 5) (v := .int .u32 ((x : Int) / 16777216)) rfl (by kernel_rfl) (by kernel_rfl) (by kernel_rfl) (fun _ _ _ h => h) (Or.inl ⟨by rfl, by intro w; go_simp⟩) ?_
                        simp only [Act.put, List.setIfInBounds_toArray, List.set_cons_zero, List.set_cons_succ]
                        refine wpAny_take (i := 6) (v := .int .u8 ((x : Int) / 16777216 % 256)) rfl (by kernel_rfl) (by kernel_rfl) (by kernel_rfl) (fun _ _ _ h => h) (Or.inl ⟨by rfl, by intro w; go_simp; exact wrap8 _⟩) ?_
                        simp only [Act.put, List.setIfInBounds_toArray, List.set_cons_zero, List.set_cons_succ]
                        refine wpAny_ready (rs := [22]) (by kernel_rfl) (by simp) ?_
                        refine AllReady.cons rfl (fun K hK => ?_) ?_
                        · skip
                          go_simp
                          refine hK _ _ ?_
                          clear hK K
                          refine wpAny_take (i := 23) (v := .int .u8 ((x : Int) % 256)) rfl (by kernel_rfl) (by kernel_rfl) (by kernel_rfl) (fun _ _ _ h => h) (Or.inl ⟨by rfl, by intro w; go_simp; exact wrap8 _⟩) ?_
                          simp only [Act.put, List.setIfInBounds_toArray, List.set_cons_zero, List.set_cons_succ]
                          refine wpAny_ready (rs := [24]) (by kernel_rfl) (by simp) ?_
                          refine AllReady.cons rfl (fun K hK => ?_) ?_
                          · skip
                            go_simp
                            refine hK _ _ ?_
                            clear hK K
                            refine wpAny_ready (rs := [25]) (by kernel_rfl) (by simp) ?_
                            refine AllReady.cons rfl (fun K hK => ?_) ?_
                            · skip
                              refine step8m rfl (.tmp 61) (.tmp 85) rfl W0 wr _ rfl u8 (4 * k) _ 4 [x / 16777216, x / 65536 % 256, x / 256 % 256, x % 256] HB4.out rfl (by decide) rfl rfl HO2.out HF2.out (by omega) ?_
                              intro v' w2 ho hf
                              rw [HN4.out] at ho
                              refine hK _ _ ?_
                              clear hK K
                              simp only [Act.put, List.setIfInBounds_toArray, List.set_cons_zero, List.set_cons_succ]
                              refine wpAny_ready (rs := [26]) (by kernel_rfl) (by simp) ?_
                              refine AllReady.cons rfl (fun K hK => ?_) ?_
                              · skip
                                go_simp
                                refine hK _ _ ?_
                                clear hK K
                                refine wpAny_done (by kernel_rfl) ?_ _
                                go_wp2_with fail
                                go_roundw
                                case rel => first | exact ⟨k + 1, by omega, by go_num, ho, hf⟩ | ((repeat apply Exists.intro); exact ⟨⟨k + 1, by omega, by go_num, ho, hf⟩, rfl⟩)
                                case measure => simp [intOf]; omega
                              exact AllReady.nil
                            exact AllReady.nil
                          exact AllReady.nil
                        exact AllReady.nil
                      refine AllReady.cons rfl (fun K hK => ?_) ?_
                      · skip
                        go_simp
                        refine hK _ _ ?_
                        clear hK K
                        refine wpAny_take (i := 23) (v := .int .u8 ((x : Int) % 256)) rfl (by kernel_rfl) (by kernel_rfl) (by kernel_rfl) (fun _ _ _ h => h) (Or.inl ⟨by rfl, by intro w; go_simp; exact wrap8 _⟩) ?_
                        simp only [Act.put, List.setIfInBounds_toArray, List.set_cons_zero, List.set_cons_succ]
                        refine wpAny_ready (rs := [4]) (by kernel_rfl) (by simp) ?_
                        refine AllReady.cons rfl (fun K hK => ?_) ?_
                        · skip
                          go_simp
                          refine hK _ _ ?_
                          clear hK K
                          refine wpAny_take (i := 5) (v := .int .u32 ((x : Int) / 16777216)) rfl (by kernel_rfl) (by kernel_rfl) (by kernel_rfl) (fun _ _ _ h => h) (Or.inl ⟨by rfl, by intro w; go_simp⟩) ?_
                          simp only [Act.put, List.setIfInBounds_toArray, List.set_cons_zero, List.set_cons_succ]
                          refine wpAny_take (i := 6) (v := .int .u8 ((x : Int) / 16777216 % 256)) rfl (by kernel_rfl) (by kernel_rfl) (by kernel_rfl) (fun _ _ _ h => h) (Or.inl ⟨by rfl, by intro w; go_simp; exact wrap8 _⟩) ?_
                          simp only [Act.put, List.setIfInBounds_toArray, List.set_cons_zero, List.set_cons_succ]
                          refine wpAny_ready (rs := [24]) (by kernel_rfl) (by simp) ?_
                          refine AllReady.cons rfl (fun K hK => ?_) ?_
                          · skip
                            go_simp
                            refine hK _ _ ?_
                            clear hK K
                            refine wpAny_ready (rs := [25]) (by kernel_rfl) (by simp) ?_
                            refine AllReady.cons rfl (fun K hK => ?_) ?_
                            · skip
                              refine step8m rfl (.tmp 61) (.tmp 85) rfl W0 wr _ rfl u8 (4 * k) _ 4 [x / 16777216, x / 65536 % 256, x / 256 % 256, x % 256] HB4.out rfl (by decide) rfl rfl HO2.out HF2.out (by omega) ?_
                              intro v' w2 ho hf
                              rw [HN4.out] at ho
                              refine hK _ _ ?_
                              clear hK K
                              simp only [Act.put, List.setIfInBounds_toArray, List.set_cons_zero, List.set_cons_succ]
                              refine wpAny_ready (rs := [26]) (by kernel_rfl) (by simp) ?_
                              refine AllReady.cons rfl (fun K hK => ?_) ?_
                              · skip
                                go_simp
                                refine hK _ _ ?_
                                clear hK K
                                refine wpAny_done (by kernel_rfl) ?_ _
                                go_wp2_with fail
                                go_roundw
                                case rel => first | exact ⟨k + 1, by omega, by go_num, ho, hf⟩ | ((repeat apply Exists.intro); exact ⟨⟨k + 1, by omega, by go_num, ho, hf⟩, rfl⟩)
                                case measure => simp [intOf]; omega
                              exact AllReady.nil
                            exact AllReady.nil
                          exact AllReady.nil
                        exact AllReady.nil
                      exact AllReady.nil
                    refine AllReady.cons rfl (fun K hK => ?_) ?_
                    · skip
                      go_simp
                      refine hK _ _ ?_
                      clear hK K
                      refine wpAny_take (i := 23) (v := .int .u8 ((x : Int) % 256)) rfl (by kernel_rfl) (by kernel_rfl) (by kernel_rfl) (fun _ _ _ h => h) (Or.inl ⟨by rfl, by intro w; go_simp; exact wrap8 _⟩) ?_
                      simp only [Act.put, List.setIfInBounds_toArray, List.set_cons_zero, List.set_cons_succ]
                      refine wpAny_ready (rs := [4, 16]) (by kernel_rfl) (by simp) ?_
                      refine AllReady.cons rfl (fun K hK => ?_) ?_
                      · skip
                        go_simp
                        refine hK _ _ ?_
                        clear hK K
                        refine wpAny_take (i := 5) (v := .int .u32 ((x : Int) / 16777216)) rfl (by kernel_rfl) (by kernel_rfl) (by kernel_rfl) (fun _ _ _ h => h) (Or.inl ⟨by rfl, by intro w; go_simp⟩) ?_
                        simp only [Act.put, List.setIfInBounds_toArray, List.set_cons_zero, List.set_cons_succ]
                        refine wpAny_take (i := 6) (v := .int .u8 ((x : Int) / 16777216 % 256)) rfl (by kernel_rfl) (by kernel_rfl) (by kernel_rfl) (fun _ _ _ h => h) (Or.inl ⟨by rfl, by intro w; go_simp; exact wrap8 _⟩) ?_
                        simp only [Act.put, List.setIfInBounds_toArray, List.set_cons_zero, List.set_cons_succ]
                        refine wpAny_ready (rs := [16]) (by kernel_rfl) (by simp) ?_
                        refine AllReady.cons rfl (fun K hK => ?_) ?_
                        · skip
                          go_simp
                          refine hK _ _ ?_
                          clear hK K
                          refine wpAny_take (i := 17) (v := .int .u32 ((x : Int) / 256)) rfl (by kernel_rfl) (by kernel_rfl) (by kernel_rfl) (fun _ _ _ h => h) (Or.inl ⟨by rfl, by intro w; go_simp⟩) ?_
                          simp only [Act.put, List.setIfInBounds_toArray, List.set_cons_zero, List.set_cons_succ]
                          refine wpAny_take (i := 18) (v := .int .u8 ((x : Int) / 256 % 256)) rfl (by kernel_rfl) (by kernel_rfl) (by kernel_rfl) (fun _ _ _ h => h) (Or.inl ⟨by rfl, by intro w; go_simp; exact wrap8 _⟩) ?_
                          simp only [Act.put, List.setIfInBounds_toArray, List.set_cons_zero, List.set_cons_succ]
                          refine wpAny_ready (rs := [24]) (by kernel_rfl) (by simp) ?_
                          refine AllReady.cons rfl (fun K hK => ?_) ?_
                          · skip
                            go_simp
                            refine hK _ _ ?_
                            clear hK K
                            refine wpAny_ready (rs := [25]) (by kernel_rfl) (by simp) ?_
                            refine AllReady.cons rfl (fun K hK => ?_) ?_
                            · skip
                              refine step8m rfl (.tmp 61) (.tmp 85) rfl W0 wr _ rfl u8 (4 * k) _ 4 [x / 16777216, x / 65536 % 256, x / 256 % 256, x % 256] HB4.out rfl (by decide) rfl rfl HO2.out HF2.out (by omega) ?_
                              intro v' w2 ho hf
                              rw [HN4.out] at ho
                              refine hK _ _ ?_
                              clear hK K
                              simp only [Act.put, List.setIfInBounds_toArray, List.set_cons_zero, List.set_cons_succ]
                              refine wpAny_ready (rs := [26]) (by kernel_rfl) (by simp) ?_
                              refine AllReady.cons rfl (fun K hK => ?_) ?_
                              · skip
                                go_simp
                                refine hK _ _ ?_
                                clear hK K
                                refine wpAny_done (by kernel_rfl) ?_ _
                                go_wp2_with fail
                                go_roundw
                                case rel => first | exact ⟨k + 1, by omega, by go_num, ho, hf⟩ | ((repeat apply Exists.intro); exact ⟨⟨k + 1, by omega, by go_num, ho, hf⟩, rfl⟩)
                                case measure => simp [intOf]; omega
                              exact AllReady.nil
                            exact AllReady.nil
                          exact AllReady.nil
                        exact AllReady.nil
                      refine AllReady.cons rfl (fun K hK => ?_) ?_
                      · skip
                        go_simp
                        refine hK _ _ ?_
                        clear hK K
                        refine wpAny_take (i := 17) (v := .int .u32 ((x : Int) / 256)) rfl (by kernel_rfl) (by kernel_rfl) (by kernel_rfl) (fun _ _ _ h => h) (Or.inl ⟨by rfl, by intro w; go_simp⟩) ?_
                        simp only [Act.put, List.setIfInBounds_toArray, List.set_cons_zero, List.set_cons_succ]
                        refine wpAny_take (i := 18) (v := .int .u8 ((x : Int) / 256 % 256)) rfl (by kernel_rfl) (by kernel_rfl) (by kernel_rfl) (fun _ _ _ h => h) (Or.inl ⟨by rfl, by intro w; go_simp; exact wrap8 _⟩) ?_
                        simp only [Act.put, List.setIfInBounds_toArray, List.set_cons_zero, List.set_cons_succ]
                        refine wpAny_ready (rs := [4]) (by kernel_rfl) (by simp) ?_
                        refine AllReady.cons rfl (fun K hK => ?_) ?_
                        · skip
                          go_simp
                          refine hK _ _ ?_
                          clear hK K
                          refine wpAny_take (i := 5) (v := .int .u32 ((x : Int) / 16777216)) rfl (by kernel_rfl) (by kernel_rfl) (by kernel_rfl) (fun _ _ _ h => h) (Or.inl ⟨by rfl, by intro w; go_simp⟩) ?_
                          simp only [Act.put, List.setIfInBounds_toArray, List.set_cons_zero, List.set_cons_succ]
                          refine wpAny_take (i := 6) (v := .int .u8 ((x : Int) / 16777216 % 256)) rfl (by kernel_rfl) (by kernel_rfl) (by kernel_rfl) (fun _ _ _ h => h) (Or.inl ⟨by rfl, by intro w; go_simp; exact wrap8 _⟩) ?_
                          simp only [Act.put, List.setIfInBounds_toArray, List.set_cons_zero, List.set_cons_succ]
                          refine wpAny_ready (rs := [24]) (by kernel_rfl) (by simp) ?_
                          refine AllReady.cons rfl (fun K hK => ?_) ?_
                          · skip
                            go_simp
                            refine hK _ _ ?_
                            clear hK K
                            refine wpAny_ready (rs := [25]) (by kernel_rfl) (by simp) ?_
                            refine AllReady.cons rfl (fun K hK => ?_) ?_
                            · skip
                              refine step8m rfl (.tmp 61) (.tmp 85) rfl W0 wr _ rfl u8 (4 * k) _ 4 [x / 16777216, x / 65536 % 256, x / 256 % 256, x % 256] HB4.out rfl (by decide) rfl rfl HO2.out HF2.out (by omega) ?_
                              intro v' w2 ho hf
                              rw [HN4.out] at ho
                              refine hK _ _ ?_
                              clear hK K
                              simp only [Act.put, List.setIfInBounds_toArray, List.set_cons_zero, List.set_cons_succ]
                              refine wpAny_ready (rs := [26]) (by kernel_rfl) (by simp) ?_
                              refine AllReady.cons rfl (fun K hK => ?_) ?_
                              · skip
                                go_simp
                                refine hK _ _ ?_
                                clear hK K
                                refine wpAny_done (by kernel_rfl) ?_ _
                                go_wp2_with fail
                                go_roundw
                                case rel => first | exact ⟨k + 1, by omega, by go_num, ho, hf⟩ | ((repeat apply Exists.intro); exact ⟨⟨k + 1, by omega, by go_num, ho, hf⟩, rfl⟩)
                                case measure => simp [intOf]; omega
                              exact AllReady.nil
                            exact AllReady.nil
                          exact AllReady.nil
                        exact AllReady.nil
                      exact AllReady.nil
                    exact AllReady.nil
                  refine AllReady.cons rfl (fun K hK => ?_) ?_
                  · skip
                    go_simp
                    refine hK _ _ ?_
                    clear hK K
                    refine wpAny_take (i := 17) (v := .int .u32 ((x : Int) / 256)) rfl (by kernel_rfl) (by kernel_rfl) (by kernel_rfl) (fun _ _ _ h => h) (Or.inl ⟨by rfl, by intro w; go_simp⟩) ?_
                    simp only [Act.put, List.setIfInBounds_toArray, List.set_cons_zero, List.set_cons_succ]
                    refine wpAny_take (i := 18) (v := .int .u8 ((x : Int) / 256 % 256)) rfl (by kernel_rfl) (by kernel_rfl) (by kernel_rfl) (fun _ _ _ h => h) (Or.inl ⟨by rfl, by intro w; go_simp; exact wrap8 _⟩) ?_
                    simp only [Act.put, List.setIfInBounds_toArray, List.set_cons_zero, List.set_cons_succ]
                    refine wpAny_ready (rs := [4, 10, 22]) (by kernel_rfl) (by simp) ?_
                    refine AllReady.cons rfl (fun K hK => ?_) ?_
                    · skip
                      go_simp
                      refine hK _ _ ?_
                      clear hK K
                      refine wpAny_take (i := 5) (v := .int .u32 ((x : Int) / 16777216)) rfl (by kernel_rfl) (by kernel_rfl) (by kernel_rfl) (fun _ _ _ h => h) (Or.inl ⟨by rfl, by intro w; go_simp⟩) ?_
                      simp only [Act.put, List.setIfInBounds_toArray, List.set_cons_zero, List.set_cons_succ]
                      refine wpAny_take (i := 6) (v := .int .u8 ((x : Int) / 16777216 % 256)) rfl (by kernel_rfl) (by kernel_rfl) (by kernel_rfl) (fun _ _ _ h => h) (Or.inl ⟨by rfl, by intro w; go_simp; exact wrap8 _⟩) ?_
                      simp only [Act.put, List.setIfInBounds_toArray, List.set_cons_zero, List.set_cons_succ]
                      refine wpAny_ready (rs := [10, 22]) (by kernel_rfl) (by simp) ?_
                      refine AllReady.cons rfl (fun K hK => ?_) ?_
                      · skip
                        go_simp
                        refine hK _ _ ?_
                        clear hK K
                        refine wpAny_take (i := 11) (v := .int .u32 ((x : Int) / 65536)) rfl (by kernel_rfl) (by kernel_rfl) (by kernel_rfl) (fun _ _ _ h => h) (Or.inl ⟨by rfl, by intro w; go_simp⟩) ?_
                        simp only [Act.put, List.setIfInBounds_toArray, List.set_cons_zero, List.set_cons_succ]
                        refine wpAny_take (i := 12) (v := .int .u8 ((x : Int) / 65536 % 256)) rfl (by kernel_rfl) (by kernel_rfl) (by kernel_rfl) (fun _ _ _ h => h) (Or.inl ⟨by rfl, by intro w; go_simp; exact wrap8 _⟩) ?_
                        simp only [Act.put, List.setIfInBounds_toArray, List.set_cons_zero, List.set_cons_succ]
                        refine wpAny_ready (rs := [22]) (by kernel_rfl) (by simp) ?_
                        refine AllReady.cons rfl (fun K hK => ?_) ?_
                        · skip
                          go_simp
                          refine hK _ _ ?_
                          clear hK K
                          refine wpAny_take (i := 23) (v := .int .u8 ((x : Int) % 256)) rfl (by kernel_rfl) (by kernel_rfl) (by kernel_rfl) (fun _ _ _ h => h) (Or.inl ⟨by rfl, by intro w; go_simp; exact wrap8 _⟩) ?_
                          simp only [Act.put, List.setIfInBounds_toArray, List.set_cons_zero, List.set_cons_succ]
                          refine wpAny_ready (rs := [24]) (by kernel_rfl) (by simp) ?_
                          refine AllReady.cons rfl (fun K hK => ?_) ?_
                          · skip
                            go_simp
                            refine hK _ _ ?_
                            clear hK K
                            refine wpAny_ready (rs := [25]) (by kernel_rfl) (by simp) ?_
                            refine AllReady.cons rfl (fun K hK => ?_) ?_
                            · skip
                              refine step8m rfl (.tmp 61) (.tmp 85) rfl W0 wr _ rfl u8 (4 * k) _ 4 [x / 16777216, x / 65536 % 256, x / 256 % 256, x % 256] HB4.out rfl (by decide) rfl rfl HO2.out HF2.out (by omega) ?_
                              intro v' w2 ho hf
                              rw [HN4.out] at ho
                              refine hK _ _ ?_
                              clear hK K
                              simp only [Act.put, List.setIfInBounds_toArray, List.set_cons_zero, List.set_cons_succ]
                              refine wpAny_ready (rs := [26]) (by kernel_rfl) (by simp) ?_
                              refine AllReady.cons rfl (fun K hK => ?_) ?_
                              · skip
                                go_simp
                                refine hK _ _ ?_
                                clear hK K
                                refine wpAny_done (by kernel_rfl) ?_ _
                                go_wp2_with fail
                                go_roundw
                                case rel => first | exact ⟨k + 1, by omega, by go_num, ho, hf⟩ | ((repeat apply Exists.intro); exact ⟨⟨k + 1, by omega, by go_num, ho, hf⟩, rfl⟩)
                                case measure => simp [intOf]; omega
                              exact AllReady.nil
                            exact AllReady.nil
                          exact AllReady.nil
                        exact AllReady.nil
                      refine AllReady.cons rfl (fun K hK => ?_) ?_
                      · skip
                        go_simp
                        refine hK _ _ ?_
                        clear hK K
                        refine wpAny_take (i := 23) (v := .int .u8 ((x : Int) % 256)) rfl (by kernel_rfl) (by kernel_rfl) (by kernel_rfl) (fun _ _ _ h => h) (Or.inl ⟨by rfl, by intro w; go_simp; exact wrap8 _⟩) ?_
                        simp only [Act.put, List.setIfInBounds_toArray, List.set_cons_zero, List.set_cons_succ]
                        refine wpAny_ready (rs := [10]) (by kernel_rfl) (by simp) ?_
                        refine AllReady.cons rfl (fun K hK => ?_) ?_
                        · skip
                          go_simp
                          refine hK _ _ ?_
                          clear hK K
                          refine wpAny_take (i := 11) (v := .int .u32 ((x : Int) / 65536)) rfl (by kernel_rfl) (by kernel_rfl) (by kernel_rfl) (fun _ _ _ h => h) (Or.inl ⟨by rfl, by intro w; go_simp⟩) ?_
                          simp only [Act.put, List.setIfInBounds_toArray, List.set_cons_zero, List.set_cons_succ]
                          refine wpAny_take (i := 12) (v := .int .u8 ((x : Int) / 65536 % 256)) rfl (by kernel_rfl) (by kernel_rfl) (by kernel_rfl) (fun _ _ _ h => h) (Or.inl ⟨by rfl, by intro w; go_simp; exact wrap8 _⟩) ?_
                          simp only [Act.put, List.setIfInBounds_toArray, List.set_cons_zero, List.set_cons_succ]
                          refine wpAny_ready (rs := [24]) (by kernel_rfl) (by simp) ?_
                          refine AllReady.cons rfl (fun K hK => ?_) ?_
                          · skip
                            go_simp
                            refine hK _ _ ?_
                            clear hK K
                            refine wpAny_ready (rs := [25]) (by kernel_rfl) (by simp) ?_
                            refine AllReady.cons rfl (fun K hK => ?_) ?_
                            · skip
                              refine step8m rfl (.tmp 61) (.tmp 85) rfl W0 wr _ rfl u8 (4 * k) _ 4 [x / 16777216, x / 65536 % 256, x / 256 % 256, x % 256] HB4.out rfl (by decide) rfl rfl HO2.out HF2.out (by omega) ?_
                              intro v' w2 ho hf
                              rw [HN4.out] at ho
                              refine hK _ _ ?_
                              clear hK K
                              simp only [Act.put, List.setIfInBounds_toArray, List.set_cons_zero, List.set_cons_succ]
                              refine wpAny_ready (rs := [26]) (by kernel_rfl) (by simp) ?_
                              refine AllReady.cons rfl (fun K hK => ?_) ?_
                              · skip
                                go_simp
                                refine hK _ _ ?_
                                clear hK K
                                refine wpAny_done (by kernel_rfl) ?_ _
                                go_wp2_with fail
                                go_roundw
                                case rel => first | exact ⟨k + 1, by omega, by go_num, ho, hf⟩ | ((repeat apply Exists.intro); exact ⟨⟨k + 1, by omega, by go_num, ho, hf⟩, rfl⟩)
                                case measure => simp [intOf]; omega
                              exact AllReady.nil
                            exact AllReady.nil
                          exact AllReady.nil
                        exact AllReady.nil
                      exact AllReady.nil
                    refine AllReady.cons rfl (fun K hK => ?_) ?_
                    · skip
                      go_simp
                      refine hK _ _ ?_
                      clear hK K
                      refine wpAny_take (i := 11) (v := .int .u32 ((x : Int) / 65536)) rfl (by kernel_rfl) (by kernel_rfl) (by kernel_rfl) (fun _ _ _ h => h) (Or.inl ⟨by rfl, by intro w; go_simp⟩) ?_
                      simp only [Act.put, List.setIfInBounds_toArray, List.set_cons_zero, List.set_cons_succ]
                      refine wpAny_take (i := 12) (v := .int .u8 ((x : Int) / 65536 % 256)) rfl (by kernel_rfl) (by kernel_rfl) (by kernel_rfl) (fun _ _ _ h => h) (Or.inl ⟨by rfl, by intro w; go_simp; exact wrap8 _⟩) ?_
                      simp only [Act.put, List.setIfInBounds_toArray, List.set_cons_zero, List.set_cons_succ]
                      refine wpAny_ready (rs := [4, 22]) (by kernel_rfl) (by simp) ?_
                      refine AllReady.cons rfl (fun K hK => ?_) ?_
                      · skip
                        go_simp
                        refine hK _ _ ?_
                        clear hK K
                        refine wpAny_take (i := 5) (v := .int .u32 ((x : Int) / 16777216)) rfl (by kernel_rfl) (by kernel_rfl) (by kernel_rfl) (fun _ _ _ h => h) (Or.inl ⟨by rfl, by intro w; go_simp⟩) ?_
                        simp only [Act.put, List.setIfInBounds_toArray, List.set_cons_zero, List.set_cons_succ]
                        refine wpAny_take (i := 6) (v := .int .u8 ((x : Int) / 16777216 % 256)) rfl (by kernel_rfl) (by kernel_rfl) (by kernel_rfl) (fun _ _ _ h => h) (Or.inl ⟨by rfl, by intro w; go_simp; exact wrap8 _⟩) ?_
                        simp only [Act.put, List.setIfInBounds_toArray, List.set_cons_zero, List.set_cons_succ]
                        refine wpAny_ready (rs := [22]) (by kernel_rfl) (by simp) ?_
                        refine AllReady.cons rfl (fun K hK => ?_) ?_
                        · skip
                          go_simp
                          refine hK _ _ ?_
                          clear hK K
                          refine wpAny_take (i := 23) (v := .int .u8 ((x : Int) % 256)) rfl (by kernel_rfl) (by kernel_rfl) (by kernel_rfl) (fun _ _ _ h => h) (Or.inl ⟨by rfl, by intro w; go_simp; exact wrap8 _⟩) ?_
                          simp only [Act.put, List.setIfInBounds_toArray, List.set_cons_zero, List.set_cons_succ]
                          refine wpAny_ready (rs := [24]) (by kernel_rfl) (by simp) ?_
                          refine AllReady.cons rfl (fun K hK => ?_) ?_
                          · skip
                            go_simp
                            refine hK _ _ ?_
                            clear hK K
                            refine wpAny_ready (rs := [25]) (by kernel_rfl) (by simp) ?_
                            refine AllReady.cons rfl (fun K hK => ?_) ?_
                            · skip
                              refine step8m rfl (.tmp 61) (.tmp 85) rfl W0 wr _ rfl u8 (4 * k) _ 4 [x / 16777216, x / 65536 % 256, x / 256 % 256, x % 256] HB4.out rfl (by decide) rfl rfl HO2.out HF2.out (by omega) ?_
                              intro v' w2 ho hf
                              rw [HN4.out] at ho
                              refine hK _ _ ?_
                              clear hK K
                              simp only [Act.put, List.setIfInBounds_toArray, List.set_cons_zero, List.set_cons_succ]
                              refine wpAny_ready (rs := [26]) (by kernel_rfl) (by simp) ?_
                              refine AllReady.cons rfl (fun K hK => ?_) ?_
                              · skip
                                go_simp
                                refine hK _ _ ?_
                                clear hK K
                                refine wpAny_done (by kernel_rfl) ?_ _
                                go_wp2_with fail
                                go_roundw
                                case rel => first | exact ⟨k + 1, by omega, by go_num, ho, hf⟩ | ((repeat apply Exists.intro); exact ⟨⟨k + 1, by omega, by go_num, ho, hf⟩, rfl⟩)
                                case measure => simp [intOf]; omega
                              exact AllReady.nil
                            exact AllReady.nil
                          exact AllReady.nil
                        exact AllReady.nil
                      refine AllReady.cons rfl (fun K hK => ?_) ?_
                      · skip
                        go_simp
                        refine hK _ _ ?_
                        clear hK K
                        refine wpAny_take (i := 23) (v := .int .u8 ((x : Int) % 256)) rfl (by kernel_rfl) (by kernel_rfl) (by kernel_rfl) (fun _ _ _ h => h) (Or.inl ⟨by rfl, by intro w; go_simp; exact wrap8 _⟩) ?_
                        simp only [Act.put, List.setIfInBounds_toArray, List.set_cons_zero, List.set_cons_succ]
                        refine wpAny_ready (rs := [4]) (by kernel_rfl) (by simp) ?_
                        refine AllReady.cons rfl (fun K hK => ?_) ?_
                        · skip
                          go_simp
                          refine hK _ _ ?_
                          clear hK K
                          refine wpAny_take (i := 5) (v := .int .u32 ((x : Int) / 16777216)) rfl (by kernel_rfl) (by kernel_rfl) (by kernel_rfl) (fun _ _ _ h => h) (Or.inl ⟨by rfl, by intro w; go_simp⟩) ?_
                          simp only [Act.put, List.setIfInBounds_toArray, List.set_cons_zero, List.set_cons_succ]
                          refine wpAny_take (i := 6) (v := .int .u8 ((x : Int) / 16777216 % 256)) rfl (by kernel_rfl) (by kernel_rfl) (by kernel_rfl) (fun _ _ _ h => h) (Or.inl ⟨by rfl, by intro w; go_simp; exact wrap8 _⟩) ?_
                          simp only [Act.put, List.setIfInBounds_toArray, List.set_cons_zero, List.set_cons_succ]
                          refine wpAny_ready (rs := [24]) (by kernel_rfl) (by simp) ?_
                          refine AllReady.cons rfl (fun K hK => ?_) ?_
                          · skip
                            go_simp
                            refine hK _ _ ?_
                            clear hK K
                            refine wpAny_ready (rs := [25]) (by kernel_rfl) (by simp) ?_
                            refine AllReady.cons rfl (fun K hK => ?_) ?_
                            · skip
                              refine step8m rfl (.tmp 61) (.tmp 85) rfl W0 wr _ rfl u8 (4 * k) _ 4 [x / 16777216, x / 65536 % 256, x / 256 % 256, x % 256] HB4.out rfl (by decide) rfl rfl HO2.out HF2.out (by omega) ?_
                              intro v' w2 ho hf
                              rw [HN4.out] at ho
                              refine hK _ _ ?_
                              clear hK K
                              simp only [Act.put, List.setIfInBounds_toArray, List.set_cons_zero, List.set_cons_succ]
                              refine wpAny_ready (rs := [26]) (by kernel_rfl) (by simp) ?_
                              refine AllReady.cons rfl (fun K hK => ?_) ?_
                              · skip
                                go_simp
                                refine hK _ _ ?_
                                clear hK K
                                refine wpAny_done (by kernel_rfl) ?_ _
                                go_wp2_with fail
                                go_roundw
                                case rel => first | exact ⟨k + 1, by omega, by go_num, ho, hf⟩ | ((repeat apply Exists.intro); exact ⟨⟨k + 1, by omega, by go_num, ho, hf⟩, rfl⟩)
                                case measure => simp [intOf]; omega
                              exact AllReady.nil
                            exact AllReady.nil
                          exact AllReady.nil
                        exact AllReady.nil
                      exact AllReady.nil
                    refine AllReady.cons rfl (fun K hK => ?_) ?_
                    · skip
                      go_simp
                      refine hK _ _ ?_
                      clear hK K
                      refine wpAny_take (i := 23) (v := .int .u8 ((x : Int) % 256)) rfl (by kernel_rfl) (by kernel_rfl) (by kernel_rfl) (fun _ _ _ h => h) (Or.inl ⟨by rfl, by intro w; go_simp; exact wrap8 _⟩) ?_
                      simp only [Act.put, List.setIfInBounds_toArray, List.set_cons_zero, List.set_cons_succ]
                      refine wpAny_ready (rs := [4, 10]) (by kernel_rfl) (by simp) ?_
                      refine AllReady.cons rfl (fun K hK => ?_) ?_
                      · skip
                        go_simp
                        refine hK _ _ ?_
                        clear hK K
                        refine wpAny_take (i := 5) (v := .int .u32 ((x : Int) / 16777216)) rfl (by kernel_rfl) (by kernel_rfl) (by kernel_rfl) (fun _ _ _ h => h) (Or.inl ⟨by rfl, by intro w; go_simp⟩) ?_
                        simp only [Act.put, List.setIfInBounds_toArray, List.set_cons_zero, List.set_cons_succ]
                        refine wpAny_take (i := 6) (v := .int .u8 ((x : Int) / 16777216 % 256)) rfl (by kernel_rfl) (by kernel_rfl) (by kernel_rfl) (fun _ _ _ h => h) (Or.inl ⟨by rfl, by intro w; go_simp; exact wrap8 _⟩) ?_
                        simp only [Act.put, List.setIfInBounds_toArray, List.set_cons_zero, List.set_cons_succ]
                        refine wpAny_ready (rs := [10]) (by kernel_rfl) (by simp) ?_
                        refine AllReady.cons rfl (fun K hK => ?_) ?_
                        · skip
                          go_simp
                          refine hK _ _ ?_
                          clear hK K
                          refine wpAny_take (i := 11) (v := .int .u32 ((x : Int) / 65536)) rfl (by kernel_rfl) (by kernel_rfl) (by kernel_rfl) (fun _ _ _ h => h) (Or.inl ⟨by rfl, by intro w; go_simp⟩) ?_
                          simp only [Act.put, List.setIfInBounds_toArray, List.set_cons_zero, List.set_cons_succ]
                          refine wpAny_take (i := 12) (v := .int .u8 ((x : Int) / 65536 % 256)) rfl (by kernel_rfl) (by kernel_rfl) (by kernel_rfl) (fun _ _ _ h => h) (Or.inl ⟨by rfl, by intro w; go_simp; exact wrap8 _⟩) ?_
                          simp only [Act.put, List.setIfInBounds_toArray, List.set_cons_zero, List.set_cons_succ]
                          refine wpAny_ready (rs := [24]) (by kernel_rfl) (by simp) ?_
                          refine AllReady.cons rfl (fun K hK => ?_) ?_
                          · skip
                            go_simp
                            refine hK _ _ ?_
                            clear hK K
                            refine wpAny_ready (rs := [25]) (by kernel_rfl) (by simp) ?_
                            refine AllReady.cons rfl (fun K hK => ?_) ?_
                            · skip
                              refine step8m rfl (.tmp 61) (.tmp 85) rfl W0 wr _ rfl u8 (4 * k) _ 4 [x / 16777216, x / 65536 % 256, x / 256 % 256, x % 256] HB4.out rfl (by decide) rfl rfl HO2.out HF2.out (by omega) ?_
                              intro v' w2 ho hf
                              rw [HN4.out] at ho
                              refine hK _ _ ?_
                              clear hK K
                              simp only [Act.put, List.setIfInBounds_toArray, List.set_cons_zero, List.set_cons_succ]
                              refine wpAny_ready (rs := [26]) (by kernel_rfl) (by simp) ?_
                              refine AllReady.cons rfl (fun K hK => ?_) ?_
                              · skip
                                go_simp
                                refine hK _ _ ?_
                                clear hK K
                                refine wpAny_done (by kernel_rfl) ?_ _
                                go_wp2_with fail
                                go_roundw
                                case rel => first | exact ⟨k + 1, by omega, by go_num, ho, hf⟩ | ((repeat apply Exists.intro); exact ⟨⟨k + 1, by omega, by go_num, ho, hf⟩, rfl⟩)
                                case measure => simp [intOf]; omega
                              exact AllReady.nil
                            exact AllReady.nil
                          exact AllReady.nil
                        exact AllReady.nil
                      refine AllReady.cons rfl (fun K hK => ?_) ?_
                      · skip
                        go_simp
                        refine hK _ _ ?_
                        clear hK K
                        refine wpAny_take (i := 11) (v := .int .u32 ((x : Int) / 65536)) rfl (by kernel_rfl) (by kernel_rfl) (by kernel_rfl) (fun _ _ _ h => h) (Or.inl ⟨by rfl, by intro w; go_simp⟩) ?_
                        simp only [Act.put, List.setIfInBounds_toArray, List.set_cons_zero, List.set_cons_succ]
                        refine wpAny_take (i := 12) (v := .int .u8 ((x : Int) / 65536 % 256)) rfl (by kernel_rfl) (by kernel_rfl) (by kernel_rfl) (fun _ _ _ h => h) (Or.inl ⟨by rfl, by intro w; go_simp; exact wrap8 _⟩) ?_
                        simp only [Act.put, List.setIfInBounds_toArray, List.set_cons_zero, List.set_cons_succ]
                        refine wpAny_ready (rs := [4]) (by kernel_rfl) (by simp) ?_
                        refine AllReady.cons rfl (fun K hK => ?_) ?_
                        · skip
                          go_simp
                          refine hK _ _ ?_
                          clear hK K
                          refine wpAny_take (i := 5) (v := .int .u32 ((x : Int) / 16777216)) rfl (by kernel_rfl) (by kernel_rfl) (by kernel_rfl) (fun _ _ _ h => h) (Or.inl ⟨by rfl, by intro w; go_simp⟩) ?_
                          simp only [Act.put, List.setIfInBounds_toArray, List.set_cons_zero, List.set_cons_succ]
                          refine wpAny_take (i := 6) (v := .int .u8 ((x : Int) / 16777216 % 256)) rfl (by kernel_rfl) (by kernel_rfl) (by kernel_rfl) (fun _ _ _ h => h) (Or.inl ⟨by rfl, by intro w; go_simp; exact wrap8 _⟩) ?_
                          simp only [Act.put, List.setIfInBounds_toArray, List.set_cons_zero, List.set_cons_succ]
                          refine wpAny_ready (rs := [24]) (by kernel_rfl) (by simp) ?_
                          refine AllReady.cons rfl (fun K hK => ?_) ?_
                          · skip
                            go_simp
                            refine hK _ _ ?_
                            clear hK K
                            refine wpAny_ready (rs := [25]) (by kernel_rfl) (by simp) ?_
                            refine AllReady.cons rfl (fun K hK => ?_) ?_
                            · skip
                              refine step8m rfl (.tmp 61) (.tmp 85) rfl W0 wr _ rfl u8 (4 * k) _ 4 [x / 16777216, x / 65536 % 256, x / 256 % 256, x % 256] HB4.out rfl (by decide) rfl rfl HO2.out HF2.out (by omega) ?_
                              intro v' w2 ho hf
                              rw [HN4.out] at ho
                              refine hK _ _ ?_
                              clear hK K
                              simp only [Act.put, List.setIfInBounds_toArray, List.set_cons_zero, List.set_cons_succ]
                              refine wpAny_ready (rs := [26]) (by kernel_rfl) (by simp) ?_
                              refine AllReady.cons rfl (fun K hK => ?_) ?_
                              · skip
                                go_simp
                                refine hK _ _ ?_
                                clear hK K
                                refine wpAny_done (by kernel_rfl) ?_ _
                                go_wp2_with fail
                                go_roundw
                                case rel => first | exact ⟨k + 1, by omega, by go_num, ho, hf⟩ | ((repeat apply Exists.intro); exact ⟨⟨k + 1, by omega, by go_num, ho, hf⟩, rfl⟩)
                                case measure => simp [intOf]; omega
                              exact AllReady.nil
                            exact AllReady.nil
                          exact AllReady.nil
                        exact AllReady.nil
                      exact AllReady.nil
                    exact AllReady.nil
                  refine AllReady.cons rfl (fun K hK => ?_) ?_
                  · skip
                    go_simp
                    refine hK _ _ ?_
                    clear hK K
                    refine wpAny_take (i := 23) (v := .int .u8 ((x : Int) % 256)) rfl (by kernel_rfl) (by kernel_rfl) (by kernel_rfl) (fun _ _ _ h => h) (Or.inl ⟨by rfl, by intro w; go_simp; exact wrap8 _⟩) ?_
                    simp only [Act.put, List.setIfInBounds_toArray, List.set_cons_zero, List.set_cons_succ]
                    refine wpAny_ready (rs := [4, 10, 16]) (by kernel_rfl) (by simp) ?_
                    refine AllReady.cons rfl (fun K hK => ?_) ?_
                    · skip
                      go_simp
                      refine hK _ _ ?_
                      clear hK K
                      refine wpAny_take (i := 5) (v := .int .u32 ((x : Int) / 16777216)) rfl (by kernel_rfl) (by kernel_rfl) (by kernel_rfl) (fun _ _ _ h => h) (Or.inl ⟨by rfl, by intro w; go_simp⟩) ?_
                      simp only [Act.put, List.setIfInBounds_toArray, List.set_cons_zero, List.set_cons_succ]
                      refine wpAny_take (i := 6) (v := .int .u8 ((x : Int) / 16777216 % 256)) rfl (by kernel_rfl) (by kernel_rfl) (by kernel_rfl) (fun _ _ _ h => h) (Or.inl ⟨by rfl, by intro w; go_simp; exact wrap8 _⟩) ?_
                      simp only [Act.put, List.setIfInBounds_toArray, List.set_cons_zero, List.set_cons_succ]
                      refine wpAny_ready (rs := [10, 16]) (by kernel_rfl) (by simp) ?_
                      refine AllReady.cons rfl (fun K hK => ?_) ?_
                      · skip
                        go_simp
                        refine hK _ _ ?_
                        clear hK K
                        refine wpAny_take (i := 11) (v := .int .u32 ((x : Int) / 65536)) rfl (by kernel_rfl) (by kernel_rfl) (by kernel_rfl) (fun _ _ _ h => h) (Or.inl ⟨by rfl, by intro w; go_simp⟩) ?_
                        simp only [Act.put, List.setIfInBounds_toArray, List.set_cons_zero, List.set_cons_succ]
                        refine wpAny_take (i := 12) (v := .int .u8 ((x : Int) / 65536 % 256)) rfl (by kernel_rfl) (by kernel_rfl) (by kernel_rfl) (fun _ _ _ h => h) (Or.inl ⟨by rfl, by intro w; go_simp; exact wrap8 _⟩) ?_
                        simp only [Act.put, List.setIfInBounds_toArray, List.set_cons_zero, List.set_cons_succ]
                        refine wpAny_ready (rs := [16]) (by kernel_rfl) (by simp) ?_
                        refine AllReady.cons rfl (fun K hK => ?_) ?_
                        · skip
                          go_simp
                          refine hK _ _ ?_
                          clear hK K
                          refine wpAny_take (i := 17) (v := .int .u32 ((x : Int) / 256)) rfl (by kernel_rfl) (by kernel_rfl) (by kernel_rfl) (fun _ _ _ h => h) (Or.inl ⟨by rfl, by intro w; go_simp⟩) ?_
                          simp only [Act.put, List.setIfInBounds_toArray, List.set_cons_zero, List.set_cons_succ]
                          refine wpAny_take (i := 18) (v := .int .u8 ((x : Int) / 256 % 256)) rfl (by kernel_rfl) (by kernel_rfl) (by kernel_rfl) (fun _ _ _ h => h) (Or.inl ⟨by rfl, by intro w; go_simp; exact wrap8 _⟩) ?_
                          simp only [Act.put, List.setIfInBounds_toArray, List.set_cons_zero, List.set_cons_succ]
                          refine wpAny_ready (rs := [24]) (by kernel_rfl) (by simp) ?_
                          refine AllReady.cons rfl (fun K hK => ?_) ?_
                          · skip
                            go_simp
                            refine hK _ _ ?_
                            clear hK K
                            refine wpAny_ready (rs := [25]) (by kernel_rfl) (by simp) ?_
                            refine AllReady.cons rfl (fun K hK => ?_) ?_
                            · skip
                              refine step8m rfl (.tmp 61) (.tmp 85) rfl W0 wr _ rfl u8 (4 * k) _ 4 [x / 16777216, x / 65536 % 256, x / 256 % 256, x % 256] HB4.out rfl (by decide) rfl rfl HO2.out HF2.out (by omega) ?_
                              intro v' w2 ho hf
                              rw [HN4.out] at ho
                              refine hK _ _ ?_
                              clear hK K
                              simp only [Act.put, List.setIfInBounds_toArray, List.set_cons_zero, List.set_cons_succ]
                              refine wpAny_ready (rs := [26]) (by kernel_rfl) (by simp) ?_
                              refine AllReady.cons rfl (fun K hK => ?_) ?_
                              · skip
                                go_simp
                                refine hK _ _ ?_
                                clear hK K
                                refine wpAny_done (by kernel_rfl) ?_ _
                                go_wp2_with fail
                                go_roundw
                                case rel => first | exact ⟨k + 1, by omega, by go_num, ho, hf⟩ | ((repeat apply Exists.intro); exact ⟨⟨k + 1, by omega, by go_num, ho, hf⟩, rfl⟩)
                                case measure => simp [intOf]; omega
                              exact AllReady.nil
                            exact AllReady.nil
                          exact AllReady.nil
                        exact AllReady.nil
                      refine AllReady.cons rfl (fun K hK => ?_) ?_
                      · skip
                        go_simp
                        refine hK _ _ ?_
                        clear hK K
                        refine wpAny_take (i := 17) (v := .int .u32 ((x : Int) / 256)) rfl (by kernel_rfl) (by kernel_rfl) (by kernel_rfl) (fun _ _ _ h => h) (Or.inl ⟨by rfl, by intro w; go_simp⟩) ?_
                        simp only [Act.put, List.setIfInBounds_toArray, List.set_cons_zero, List.set_cons_succ]
                        refine wpAny_take (i := 18) (v := .int .u8 ((x : Int) / 256 % 256)) rfl (by kernel_rfl) (by kernel_rfl) (by kernel_rfl) (fun _ _ _ h => h) (Or.inl ⟨by rfl, by intro w; go_simp; exact wrap8 _⟩) ?_
                        simp only [Act.put, List.setIfInBounds_toArray, List.set_cons_zero, List.set_cons_succ]
                        refine wpAny_ready (rs := [10]) (by kernel_rfl) (by simp) ?_
                        refine AllReady.cons rfl (fun K hK => ?_) ?_
                        · skip
                          go_simp
                          refine hK _ _ ?_
                          clear hK K
                          refine wpAny_take (i := 11) (v := .int .u32 ((x : Int) / 65536)) rfl (by kernel_rfl) (by kernel_rfl) (by kernel_rfl) (fun _ _ _ h => h) (Or.inl ⟨by rfl, by intro w; go_simp⟩) ?_
                          simp only [Act.put, List.setIfInBounds_toArray, List.set_cons_zero, List.set_cons_succ]
                          refine wpAny_take (i := 12) (v := .int .u8 ((x : Int) / 65536 % 256)) rfl (by kernel_rfl) (by kernel_rfl) (by kernel_rfl) (fun _ _ _ h => h) (Or.inl ⟨by rfl, by intro w; go_simp; exact wrap8 _⟩) ?_
                          simp only [Act.put, List.setIfInBounds_toArray, List.set_cons_zero, List.set_cons_succ]
                          refine wpAny_ready (rs := [24]) (by kernel_rfl) (by simp) ?_
                          refine AllReady.cons rfl (fun K hK => ?_) ?_
                          · skip
                            go_simp
                            refine hK _ _ ?_
                            clear hK K
                            refine wpAny_ready (rs := [25]) (by kernel_rfl) (by simp) ?_
                            refine AllReady.cons rfl (fun K hK => ?_) ?_
                            · skip
                              refine step8m rfl (.tmp 61) (.tmp 85) rfl W0 wr _ rfl u8 (4 * k) _ 4 [x / 16777216, x / 65536 % 256, x / 256 % 256, x % 256] HB4.out rfl (by decide) rfl rfl HO2.out HF2.out (by omega) ?_
                              intro v' w2 ho hf
                              rw [HN4.out] at ho
                              refine hK _ _ ?_
                              clear hK K
                              simp only [Act.put, List.setIfInBounds_toArray, List.set_cons_zero, List.set_cons_succ]
                              refine wpAny_ready (rs := [26]) (by kernel_rfl) (by simp) ?_
                              refine AllReady.cons rfl (fun K hK => ?_) ?_
                              · skip
                                go_simp
                                refine hK _ _ ?_
                                clear hK K
                                refine wpAny_done (by kernel_rfl) ?_ _
                                go_wp2_with fail
                                go_roundw
                                case rel => first | exact ⟨k + 1, by omega, by go_num, ho, hf⟩ | ((repeat apply Exists.intro); exact ⟨⟨k + 1, by omega, by go_num, ho, hf⟩, rfl⟩)
                                case measure => simp [intOf]; omega
                              exact AllReady.nil
                            exact AllReady.nil
                          exact AllReady.nil
                        exact AllReady.nil
                      exact AllReady.nil
                    refine AllReady.cons rfl (fun K hK => ?_) ?_
                    · skip
                      go_simp
                      refine hK _ _ ?_
                      clear hK K
                      refine wpAny_take (i := 11) (v := .int .u32 ((x : Int) / 65536)) rfl (by kernel_rfl) (by kernel_rfl) (by kernel_rfl) (fun _ _ _ h => h) (Or.inl ⟨by rfl, by intro w; go_simp⟩) ?_
                      simp only [Act.put, List.setIfInBounds_toArray, List.set_cons_zero, List.set_cons_succ]
                      refine wpAny_take (i := 12) (v := .int .u8 ((x : Int) / 65536 % 256)) rfl (by kernel_rfl) (by kernel_rfl) (by kernel_rfl) (fun _ _ _ h => h) (Or.inl ⟨by rfl, by intro w; go_simp; exact wrap8 _⟩) ?_
                      simp only [Act.put, List.setIfInBounds_toArray, List.set_cons_zero, List.set_cons_succ]
                      refine wpAny_ready (rs := [4, 16]) (by kernel_rfl) (by simp) ?_
                      refine AllReady.cons rfl (fun K hK => ?_) ?_
                      · skip
                        go_simp
                        refine hK _ _ ?_
                        clear hK K
                        refine wpAny_take (i := 5) (v := .int .u32 ((x : Int) / 16777216)) rfl (by kernel_rfl) (by kernel_rfl) (by kernel_rfl) (fun _ _ _ h => h) (Or.inl ⟨by rfl, by intro w; go_simp⟩) ?_
                        simp only [Act.put, List.setIfInBounds_toArray, List.set_cons_zero, List.set_cons_succ]
                        refine wpAny_take (i := 6) (v := .int .u8 ((x : Int) / 16777216 % 256)) rfl (by kernel_rfl) (by kernel_rfl) (by kernel_rfl) (fun _ _ _ h => h) (Or.inl ⟨by rfl, by intro w; go_simp; exact wrap8 _⟩) ?_
                        simp only [Act.put, List.setIfInBounds_toArray, List.set_cons_zero, List.set_cons_succ]
                        refine wpAny_ready (rs := [16]) (by kernel_rfl) (by simp) ?_
                        refine AllReady.cons rfl (fun K hK => ?_) ?_
                        · skip
                          go_simp
                          refine hK _ _ ?_
                          clear hK K
                          refine wpAny_take (i := 17) (v := .int .u32 ((x : Int) / 256)) rfl (by kernel_rfl) (by kernel_rfl) (by kernel_rfl) (fun _ _ _ h => h) (Or.inl ⟨by rfl, by intro w; go_simp⟩) ?_
                          simp only [Act.put, List.setIfInBounds_toArray, List.set_cons_zero, List.set_cons_succ]
                          refine wpAny_take (i := 18) (v := .int .u8 ((x : Int) / 256 % 256)) rfl (by kernel_rfl) (by kernel_rfl) (by kernel_rfl) (fun _ _ _ h => h) (Or.inl ⟨by rfl, by intro w; go_simp; exact wrap8 _⟩) ?_
                          simp only [Act.put, List.setIfInBounds_toArray, List.set_cons_zero, List.set_cons_succ]
                          refine wpAny_ready (rs := [24]) (by kernel_rfl) (by simp) ?_
                          refine AllReady.cons rfl (fun K hK => ?_) ?_
                          · skip
                            go_simp
                            refine hK _ _ ?_
                            clear hK K
                            refine wpAny_ready (rs := [25]) (by kernel_rfl) (by simp) ?_
                            refine AllReady.cons rfl (fun K hK => ?_) ?_
                            · skip
                              refine step8m rfl (.tmp 61) (.tmp 85) rfl W0 wr _ rfl u8 (4 * k) _ 4 [x / 16777216, x / 65536 % 256, x / 256 % 256, x % 256] HB4.out rfl (by decide) rfl rfl HO2.out HF2.out (by omega) ?_
                              intro v' w2 ho hf
                              rw [HN4.out] at ho
                              refine hK _ _ ?_
                              clear hK K
                              simp only [Act.put, List.setIfInBounds_toArray, List.set_cons_zero, List.set_cons_succ]
                              refine wpAny_ready (rs := [26]) (by kernel_rfl) (by simp) ?_
                              refine AllReady.cons rfl (fun K hK => ?_) ?_
                              · skip
                                go_simp
                                refine hK _ _ ?_
                                clear hK K
                                refine wpAny_done (by kernel_rfl) ?_ _
                                go_wp2_with fail
                                go_roundw
                                case rel => first | exact ⟨k + 1, by omega, by go_num, ho, hf⟩ | ((repeat apply Exists.intro); exact ⟨⟨k + 1, by omega, by go_num, ho, hf⟩, rfl⟩)
                                case measure => simp [intOf]; omega
                              exact AllReady.nil
                            exact AllReady.nil
                          exact AllReady.nil
                        exact AllReady.nil
                      refine AllReady.cons rfl (fun K hK => ?_) ?_
                      · skip
                        go_simp
                        refine hK _ _ ?_
                        clear hK K
                        refine wpAny_take (i := 17) (v := .int .u32 ((x : Int) / 256)) rfl (by kernel_rfl) (by kernel_rfl) (by kernel_rfl) (fun _ _ _ h => h) (Or.inl ⟨by rfl, by intro w; go_simp⟩) ?_
                        simp only [Act.put, List.setIfInBounds_toArray, List.set_cons_zero, List.set_cons_succ]
                        refine wpAny_take (i := 18) (v := .int .u8 ((x : Int) / 256 % 256)) rfl (by kernel_rfl) (by kernel_rfl) (by kernel_rfl) (fun _ _ _ h => h) (Or.inl ⟨by rfl, by intro w; go_simp; exact wrap8 _⟩) ?_
                        simp only [Act.put, List.setIfInBounds_toArray, List.set_cons_zero, List.set_cons_succ]
                        refine wpAny_ready (rs := [4]) (by kernel_rfl) (by simp) ?_
                        refine AllReady.cons rfl (fun K hK => ?_) ?_
                        · skip
                          go_simp
                          refine hK _ _ ?_
                          clear hK K
                          refine wpAny_take (i := 5) (v := .int .u32 ((x : Int) / 16777216)) rfl (by kernel_rfl) (by kernel_rfl) (by kernel_rfl) (fun _ _ _ h => h) (Or.inl ⟨by rfl, by intro w; go_simp⟩) ?_
                          simp only [Act.put, List.setIfInBounds_toArray, List.set_cons_zero, List.set_cons_succ]
                          refine wpAny_take (i := 6) (v := .int .u8 ((x : Int) / 16777216 % 256)) rfl (by kernel_rfl) (by kernel_rfl) (by kernel_rfl) (fun _ _ _ h => h) (Or.inl ⟨by rfl, by intro w; go_simp; exact wrap8 _⟩) ?_
                          simp only [Act.put, List.setIfInBounds_toArray, List.set_cons_zero, List.set_cons_succ]
                          refine wpAny_ready (rs := [24]) (by kernel_rfl) (by simp) ?_
                          refine AllReady.cons rfl (fun K hK => ?_) ?_
                          · skip
                            go_simp
                            refine hK _ _ ?_
                            clear hK K
                            refine wpAny_ready (rs := [25]) (by kernel_rfl) (by simp) ?_
                            refine AllReady.cons rfl (fun K hK => ?_) ?_
                            · skip
                              refine step8m rfl (.tmp 61) (.tmp 85) rfl W0 wr _ rfl u8 (4 * k) _ 4 [x / 16777216, x / 65536 % 256, x / 256 % 256, x % 256] HB4.out rfl (by decide) rfl rfl HO2.out HF2.out (by omega) ?_
                              intro v' w2 ho hf
                              rw [HN4.out] at ho
                              refine hK _ _ ?_
                              clear hK K
                              simp only [Act.put, List.setIfInBounds_toArray, List.set_cons_zero, List.set_cons_succ]
                              refine wpAny_ready (rs := [26]) (by kernel_rfl) (by simp) ?_
                              refine AllReady.cons rfl (fun K hK => ?_) ?_
                              · skip
                                go_simp
                                refine hK _ _ ?_
                                clear hK K
                                refine wpAny_done (by kernel_rfl) ?_ _
                                go_wp2_with fail
                                go_roundw
                                case rel => first | exact ⟨k + 1, by omega, by go_num, ho, hf⟩ | ((repeat apply Exists.intro); exact ⟨⟨k + 1, by omega, by go_num, ho, hf⟩, rfl⟩)
                                case measure => simp [intOf]; omega
                              exact AllReady.nil
                            exact AllReady.nil
                          exact AllReady.nil
                        exact AllReady.nil
                      exact AllReady.nil
                    refine AllReady.cons rfl (fun K hK => ?_) ?_
                    · skip
                      go_simp
                      refine hK _ _ ?_
                      clear hK K
                      refine wpAny_take (i := 17) (v := .int .u32 ((x : Int) / 256)) rfl (by kernel_rfl) (by kernel_rfl) (by kernel_rfl) (fun _ _ _ h => h) (Or.inl ⟨by rfl, by intro w; go_simp⟩) ?_
                      simp only [Act.put, List.setIfInBounds_toArray, List.set_cons_zero, List.set_cons_succ]
                      refine wpAny_take (i := 18) (v := .int .u8 ((x : Int) / 256 % 256)) rfl (by kernel_rfl) (by kernel_rfl) (by kernel_rfl) (fun _ _ _ h => h) (Or.inl ⟨by rfl, by intro w; go_simp; exact wrap8 _⟩) ?_
                      simp only [Act.put, List.setIfInBounds_toArray, List.set_cons_zero, List.set_cons_succ]
                      refine wpAny_ready (rs := [4, 10]) (by kernel_rfl) (by simp) ?_
                      refine AllReady.cons rfl (fun K hK => ?_) ?_
                      · skip
                        go_simp
                        refine hK _ _ ?_
                        clear hK K
                        refine wpAny_take (i := 5) (v := .int .u32 ((x : Int) / 16777216)) rfl (by kernel_rfl) (by kernel_rfl) (by kernel_rfl) (fun _ _ _ h => h) (Or.inl ⟨by rfl, by intro w; go_simp⟩) ?_
                        simp only [Act.put, List.setIfInBounds_toArray, List.set_cons_zero, List.set_cons_succ]
                        refine wpAny_take (i := 6) (v := .int .u8 ((x : Int) / 16777216 % 256)) rfl (by kernel_rfl) (by kernel_rfl) (by kernel_rfl) (fun _ _ _ h => h) (Or.inl ⟨by rfl, by intro w; go_simp; exact wrap8 _⟩) ?_
                        simp only [Act.put, List.setIfInBounds_toArray, List.set_cons_zero, List.set_cons_succ]
                        refine wpAny_ready (rs := [10]) (by kernel_rfl) (by simp) ?_
                        refine AllReady.cons rfl (fun K hK => ?_) ?_
                        · skip
                          go_simp
                          refine hK _ _ ?_
                          clear hK K
                          refine wpAny_take (i := 11) (v := .int .u32 ((x : Int) / 65536)) rfl (by kernel_rfl) (by kernel_rfl) (by kernel_rfl) (fun _ _ _ h => h) (Or.inl ⟨by rfl, by intro w; go_simp⟩) ?_
                          simp only [Act.put, List.setIfInBounds_toArray, List.set_cons_zero, List.set_cons_succ]
                          refine wpAny_take (i := 12) (v := .int .u8 ((x : Int) / 65536 % 256)) rfl (by kernel_rfl) (by kernel_rfl) (by kernel_rfl) (fun _ _ _ h => h) (Or.inl ⟨by rfl, by intro w; go_simp; exact wrap8 _⟩) ?_
                          simp only [Act.put, List.setIfInBounds_toArray, List.set_cons_zero, List.set_cons_succ]
                          refine wpAny_ready (rs := [24]) (by kernel_rfl) (by simp) ?_
                          refine AllReady.cons rfl (fun K hK => ?_) ?_
                          · skip
                            go_simp
                            refine hK _ _ ?_
                            clear hK K
                            refine wpAny_ready (rs := [25]) (by kernel_rfl) (by simp) ?_
                            refine AllReady.cons rfl (fun K hK => ?_) ?_
                            · skip
                              refine step8m rfl (.tmp 61) (.tmp 85) rfl W0 wr _ rfl u8 (4 * k) _ 4 [x / 16777216, x / 65536 % 256, x / 256 % 256, x % 256] HB4.out rfl (by decide) rfl rfl HO2.out HF2.out (by omega) ?_
                              intro v' w2 ho hf
                              rw [HN4.out] at ho
                              refine hK _ _ ?_
                              clear hK K
                              simp only [Act.put, List.setIfInBounds_toArray, List.set_cons_zero, List.set_cons_succ]
                              refine wpAny_ready (rs := [26]) (by kernel_rfl) (by simp) ?_
                              refine AllReady.cons rfl (fun K hK => ?_) ?_
                              · skip
                                go_simp
                                refine hK _ _ ?_
                                clear hK K
                                refine wpAny_done (by kernel_rfl) ?_ _
                                go_wp2_with fail
                                go_roundw
                                case rel => first | exact ⟨k + 1, by omega, by go_num, ho, hf⟩ | ((repeat apply Exists.intro); exact ⟨⟨k + 1, by omega, by go_num, ho, hf⟩, rfl⟩)
                                case measure => simp [intOf]; omega
                              exact AllReady.nil
                            exact AllReady.nil
                          exact AllReady.nil
                        exact AllReady.nil
                      refine AllReady.cons rfl (fun K hK => ?_) ?_
                      · skip
                        go_simp
                        refine hK _ _ ?_
                        clear hK K
                        refine wpAny_take (i := 11) (v := .int .u32 ((x : Int) / 65536)) rfl (by kernel_rfl) (by kernel_rfl) (by kernel_rfl) (fun _ _ _ h => h) (Or.inl ⟨by rfl, by intro w; go_simp⟩) ?_
                        simp only [Act.put, List.setIfInBounds_toArray, List.set_cons_zero, List.set_cons_succ]
                        refine wpAny_take (i := 12) (v := .int .u8 ((x : Int) / 65536 % 256)) rfl (by kernel_rfl) (by kernel_rfl) (by kernel_rfl) (fun _ _ _ h => h) (Or.inl ⟨by rfl, by intro w; go_simp; exact wrap8 _⟩) ?_
                        simp only [Act.put, List.setIfInBounds_toArray, List.set_cons_zero, List.set_cons_succ]
                        refine wpAny_ready (rs := [4]) (by kernel_rfl) (by simp) ?_
                        refine AllReady.cons rfl (fun K hK => ?_) ?_
                        · skip
                          go_simp
                          refine hK _ _ ?_
                          clear hK K
                          refine wpAny_take (i := 5) (v := .int .u32 ((x : Int) / 16777216)) rfl (by kernel_rfl) (by kernel_rfl) (by kernel_rfl) (fun _ _ _ h => h) (Or.inl ⟨by rfl, by intro w; go_simp⟩) ?_
                          simp only [Act.put, List.setIfInBounds_toArray, List.set_cons_zero, List.set_cons_succ]
                          refine wpAny_take (i := 6) (v := .int .u8 ((x : Int) / 16777216 % 256)) rfl (by kernel_rfl) (by kernel_rfl) (by kernel_rfl) (fun _ _ _ h => h) (Or.inl ⟨by rfl, by intro w; go_simp; exact wrap8 _⟩) ?_
                          simp only [Act.put, List.setIfInBounds_toArray, List.set_cons_zero, List.set_cons_succ]
                          refine wpAny_ready (rs := [24]) (by kernel_rfl) (by simp) ?_
                          refine AllReady.cons rfl (fun K hK => ?_) ?_
                          · skip
                            go_simp
                            refine hK _ _ ?_
                            clear hK K
                            refine wpAny_ready (rs := [25]) (by kernel_rfl) (by simp) ?_
                            refine AllReady.cons rfl (fun K hK => ?_) ?_
                            · skip
                              refine step8m rfl (.tmp 61) (.tmp 85) rfl W0 wr _ rfl u8 (4 * k) _ 4 [x / 16777216, x / 65536 % 256, x / 256 % 256, x % 256] HB4.out rfl (by decide) rfl rfl HO2.out HF2.out (by omega) ?_
                              intro v' w2 ho hf
                              rw [HN4.out] at ho
                              refine hK _ _ ?_
                              clear hK K
                              simp only [Act.put, List.setIfInBounds_toArray, List.set_cons_zero, List.set_cons_succ]
                              refine wpAny_ready (rs := [26]) (by kernel_rfl) (by simp) ?_
                              refine AllReady.cons rfl (fun K hK => ?_) ?_
                              · skip
                                go_simp
                                refine hK _ _ ?_
                                clear hK K
                                refine wpAny_done (by kernel_rfl) ?_ _
                                go_wp2_with fail
                                go_roundw
                                case rel => first | exact ⟨k + 1, by omega, by go_num, ho, hf⟩ | ((repeat apply Exists.intro); exact ⟨⟨k + 1, by omega, by go_num, ho, hf⟩, rfl⟩)
                                case measure => simp [intOf]; omega
                              exact AllReady.nil
                            exact AllReady.nil
                          exact AllReady.nil
                        exact AllReady.nil
                      exact AllReady.nil
                    exact AllReady.nil
                  exact AllReady.nil
                  -- end of script
                · obtain rfl : k = 8 := by omega
                  rw [List.take_of_length_le (by rw [HST8.out]; omega), ← hsum.out] at hown
                  have o2 := owns_str hown
                  have HF2 := Lib.hid hF
                  clear hown hF
                  go_wp2_with fail
                  refine bodyPost_ret (results_tmp rfl _ _ _) rfl ⟨rfl, HFW.out.trans0 HF2.out⟩
        | succ m =>
          have e0 : ((m + 1 : Nat) : Int) - 1 = (m : Int) := by omega
          rw [e0]
          clear e0
          have hm' : (m : Int) < 8 := by omega
          have a1 : IntKind.u64.wrap (8 * (m : Int)) = 8 * (m : Int) := by rw [IntKind.wrap_u64]; omega
          have a2 : (8 * (m : Int)).toNat = 8 * m := by omega
          have a3 : min (8 * m) IntKind.u64.bits = 8 * m := by simp [IntKind.bits]; omega
          have a4 : 0 ≤ 8 * (m : Int) := by omega
          have hS' : (S.size : Int) ≤ 1000000 := by omega
          go_wp2_with (at_builtin; refine app8 rfl (.tmp 27) (.tmp 36) rfl w _ (1 + z + (8 - (m + 1))) _ (S.size * 8 / 2 ^ (8 * m) % 256) rfl rfl HO.out HF.out (by omega) ?_)
          intro v' w2 hown2 hF2
          have e : (128 :: (List.replicate z 0 ++ ((List.range (7 - m)).map (fun i => S.size * 8 / 2 ^ (56 - 8 * i) % 256) ++ [S.size * 8 / 2 ^ (8 * m) % 256])) : List Nat) = 128 :: (List.replicate z 0 ++ (List.range (8 - m)).map fun i => S.size * 8 / 2 ^ (56 - 8 * i) % 256) := by
            congr 2
            rw [show 8 - m = (7 - m) + 1 by omega, List.range_succ, List.map_append]
            congr 1
            simp only [List.map_cons, List.map_nil]
            rw [show 56 - 8 * (7 - m) = 8 * m by omega]
          rw [e, show 1 + z + (7 - m) + 1 = 1 + z + (8 - m) by omega] at hown2
          have HO2 := Lib.hid hown2
          have HF2 := Lib.hid hF2
          clear hown2 hF2 e
          go_wp2_with fail
          go_roundw
          case rel =>
            exact ⟨m, by omega, by go_num, HO2.out, HF2.out⟩
          case measure => simp [intOf]
end Go.Proofs.Ytanegflohbgkdaa
