/-
  Lemmas and contracts that the proofs over this seat use (part ShaRMac); no statement of the seat is claimed in this text, and nothing is assumed in it.
-/
import Derived.Test.YtanegflohbgkdaaShaRSum
import Derived.Test.YtanegflohbgkdaaShaMac2
set_option linter.unusedVariables false
set_option linter.unusedSimpArgs false
namespace Go.Proofs.Ytanegflohbgkdaa
open Go.RowKit Go.BigFrame
/-- In a region that draws: a conversion by its run. -/
theorem step_conv {P : Program} {ops : Array Oper} {o : Oper} {a : Act} {w w' : World} {K : Act → World → Prop} {Q : Exit → Act → World → Prop} {E : Prop} (hgd : o.guard = none) (s d : TypeId) (x : Operand) (ho : o.op = .convert s d x)
    (v r : Value) (hx : a.eval x = v) (hr : (convert s d v).run P w = .ok r w') (h : K (a.put o.dst r) w') : if Region.wanted o (yielded ops a.tmps) = true then Oper.wp P o a w K Q else E := by
  rw [if_pos (by simp [Region.wanted, hgd])]
  unfold Oper.wp execOp
  simp only [ho, hx]
  simp [hr]
  exact h
theorem wpAny_fresh {P : Program} {md : Region.Mode} {ops : Array Oper} {Q : Exit → Act → World → Prop} {fuel : Nat} {listed : Array Bool} {a : Act} {w : World} (S : World → Prop) (hS : S w) (h : ∀ w, S w → wpAny P md ops Q fuel listed a w) : wpAny P md ops Q fuel listed a w := h w hS
/-- what 'append' of one byte asks of the program; what it leaves as it is. -/
theorem app8k {ops : Array Oper} {rest : List Oper} {o : Oper} {a : Act} {w : World} {Q : Exit → Act → World → Prop} (hgd : o.guard = none) (s x : Operand)
    (ho : o.op = .call { callee := .builtin .append, args := #[s, x], argTypes := #[26, 26] })
    (w0 : World) (v : Value) (n : Nat) (D : List Nat) (y : Nat) (u : Value) (hu : u = .int .u8 (y : Int)) (hs : a.eval s = v) (hx : a.eval x = .slice (some ⟨w.heap.size, 0, none⟩) 1 1)
    (hown : w.ownsRow w0.heap.size 5 1 v n (u8s D)) (hF : Fr [] w0 w) (hn : n < 1000000000)
    (h : ∀ g c w', w'.ownsRow w0.heap.size 5 1 (.slice (some ⟨g, 0, none⟩) (n + 1) c) (n + 1) (u8s (D ++ [y])) → Fr [] w0 w' → (v.ownBlock = some g ∨ w.heap.size ≤ g) → (∀ g', g' < w.heap.size → v.ownBlock ≠ some g' → w'.heap[g']? = w.heap[g']?) → wpList Try.prog ops Q rest (a.put o.dst (.slice (some ⟨g, 0, none⟩) (n + 1) c)) w') : wpList Try.prog ops Q (o :: rest) a (w.alloc (.cells #[u] 5)) := by
  subst hu
  obtain ⟨i, hi, hz0, hz1, hz2⟩ := info_parts info8
  refine wpList_append_lies (w.alloc _) hgd s x _ ho w0.heap.size 5 i (.int .u8 0) 1 1 Try.underlying26 hi hz0 hz1 hz2 rfl (by decide) v n (u8s D) hs (ownsRow_fr hown ((Fr.refl _ _).alloc _)) _ 1 1 [.int .u8 (y : Int)] hx rfl (cell_one_new w _ _) (by simp [Value.oneCell']) (by decide) (by unfold maxLen; omega) (by omega) (Nat.le_trans hF.size (by simp)) _ rfl ?_
  intro g cap w' h1 h2 h3 _
  have e : u8s (D ++ [y]) = u8s D ++ [.int .u8 (y : Int)] := by simp [u8s]
  refine h g cap w' (by rw [e]; exact h1) ((hF.alloc _).grown (ownsRow_fr hown ((Fr.refl _ _).alloc _)) h2) (h3.imp id (fun h => by rw [h]; simp)) ?_
  intro g' hg' hne
  rw [h2.block g' (by simp; omega) (fun hc => hne hc.symm)]
  exact Below.heap_alloc _ _ _ hg'
/-- a row that is owned, by its block. -/
theorem ownsRow_blk {w w' : World} {b n size : Nat} {e : TypeId} {g c : Nat} {xs : List Value} (h : w.ownsRow b e size (.slice (some ⟨g, 0, none⟩) n c) n xs) (hb : w'.heap[g]? = w.heap[g]?) : w'.ownsRow b e size (.slice (some ⟨g, 0, none⟩) n c) n xs := by
  refine ⟨h.1, ?_⟩
  rcases h.2 with ⟨h1, _⟩ | ⟨g', cap, cur, hv, hb', hg, hr⟩
  · cases h1
  · cases hv; exact Or.inr ⟨_, _, cur, rfl, hb', by rw [hb]; exact hg, hr⟩
theorem ownsRow_lt {w : World} {b n size : Nat} {e : TypeId} {g c : Nat} {xs : List Value} (h : w.ownsRow b e size (.slice (some ⟨g, 0, none⟩) n c) n xs) : g < w.heap.size := by
  rcases h.2 with ⟨h1, _⟩ | ⟨g', cap, cur, hv, hb', hg, hr⟩
  · cases h1
  · cases hv; exact row_lt hg
def mixp (x : Nat) (l : List Nat) (k : Nat) : List Nat := (List.range k).map fun i => Sha.g l i ^^^ x
theorem mixp_succ (x : Nat) (l : List Nat) (k : Nat) : mixp x l (k + 1) = mixp x l k ++ [Sha.g l k ^^^ x] := by simp [mixp, List.range_succ]
theorem sum_ba (l : List Nat) : nats (ba (Sha.sum l)) = Sha.sum l := nats_ba _ (sum_lt _)
set_option maxHeartbeats 4000000 in
set_option maxRecDepth 100000 in
theorem rmac (w : World) (S T : ByteArray) (hS : S.size ≤ 900000) (hT : T.size ≤ 900000) :
    Calls Try.prog 13 #[.string S, .string T] w fun e w' => e = .returned (.string (ba (Sha.mac (nats S) (nats T)))) ∧ Fr [] w w' := by
  have hnl := nats_length S
  have HNL := Lib.hid hnl
  clear hnl
  obtain ⟨R, hR⟩ : ∃ R, R = ba (Sha.mac (nats S) (nats T)) := ⟨_, rfl⟩
  obtain ⟨V, hV⟩ : ∃ V, V = w := ⟨_, rfl⟩
  suffices h : Calls Try.prog 13 #[.string S, .string T] w fun e w' => e = .returned (.string R) ∧ Fr [] V w' by
    rw [hR, hV] at h; exact h
  have hFV : Fr [] V w := by rw [hV]; exact Fr.refl _ _
  have HR := Lib.hid hR
  clear hR hV
  by_cases h64 : 64 < S.size
  case' pos =>
    have h64' : (64 : Int) < (S.size : Int) := by omega
    go_enter Try.func13, Try.ntmps13
    go_wp2_with fail
    refine (rsum w S (by omega)).mono ?_
    rintro e w1 ⟨rfl, hF1⟩
    show _
    have hF := hFV.trans0 hF1
    clear hF1 hFV
    obtain ⟨KB, hKB⟩ : ∃ KB, KB = ba (Sha.sum (nats S)) := ⟨_, rfl⟩
    rw [← hKB]
    have hk1 : nats KB = Sha.key (nats S) := by rw [hKB, sum_ba, Sha.key, if_pos (by rw [HNL.out]; exact h64)]
    have hk2 : KB.size ≤ 64 := by rw [hKB, ba_size, sum_length]; omega
    have HK1 := Lib.hid hk1
    clear hk1 hKB h64 h64'
    go_wp2_with fail
  case' neg =>
    have h64' : ¬ (64 : Int) < (S.size : Int) := by omega
    go_enter Try.func13, Try.ntmps13
    obtain ⟨w1, hw1⟩ : ∃ w1, w1 = w := ⟨_, rfl⟩
    have hF : Fr [] V w1 := by rw [hw1]; exact hFV
    rw [← hw1]
    clear hw1 hFV
    obtain ⟨KB, hKB⟩ : ∃ KB, KB = S := ⟨_, rfl⟩
    rw [← hKB]
    have hk1 : nats KB = Sha.key (nats S) := by rw [hKB, Sha.key, if_neg (by rw [HNL.out]; exact h64)]
    have hk2 : KB.size ≤ 64 := by rw [hKB]; omega
    have HK1 := Lib.hid hk1
    rw [← hKB] at h64'
    clear hk1 hKB h64
    go_wp2_with fail
  all_goals
    have hw1 := hF.size
    have h0 : ∃ (k g1 c1 g2 c2 : Nat), k ≤ 64 ∧ (Value.int .i64 0 : Value) = .int .i64 k ∧ (Value.slice (some ⟨w1.heap.size, 0, none⟩) 0 0 : Value) = .slice (some ⟨g1, 0, none⟩) k c1 ∧ (Value.slice (some ⟨w1.heap.size + 1, 0, none⟩) 0 0 : Value) = .slice (some ⟨g2, 0, none⟩) k c2 ∧ g1 ≠ g2 ∧ ((w1.alloc (.cells #[] 5)).alloc (.cells #[] 5)).ownsRow V.heap.size 5 1 (.slice (some ⟨g1, 0, none⟩) k c1) k (u8s (mixp 54 (nats KB) k)) ∧ ((w1.alloc (.cells #[] 5)).alloc (.cells #[] 5)).ownsRow V.heap.size 5 1 (.slice (some ⟨g2, 0, none⟩) k c2) k (u8s (mixp 92 (nats KB) k)) ∧ Fr [] V ((w1.alloc (.cells #[] 5)).alloc (.cells #[] 5)) :=
      ⟨0, _, _, _, _, by omega, rfl, rfl, rfl, by omega, ⟨rfl, Or.inr ⟨_, 0, #[], rfl, hw1, heap_alloc2_old _ _ _, by omega, by decide, rfl, rfl⟩⟩, ⟨rfl, Or.inr ⟨_, 0, #[], rfl, by omega, heap_alloc2_new _ _ _, by omega, by decide, rfl, rfl⟩⟩, (hF.alloc _).alloc _⟩
    have H0 := Lib.hid h0
    clear h0
    have hKl := Lib.hid (nats_length KB)
    refine wp_fresh (fun W => ∃ (k g1 c1 g2 c2 : Nat), k ≤ 64 ∧ (Value.int .i64 0 : Value) = .int .i64 k ∧ (Value.slice (some ⟨w1.heap.size, 0, none⟩) 0 0 : Value) = .slice (some ⟨g1, 0, none⟩) k c1 ∧ (Value.slice (some ⟨w1.heap.size + 1, 0, none⟩) 0 0 : Value) = .slice (some ⟨g2, 0, none⟩) k c2 ∧ g1 ≠ g2 ∧ W.ownsRow V.heap.size 5 1 (.slice (some ⟨g1, 0, none⟩) k c1) k (u8s (mixp 54 (nats KB) k)) ∧ W.ownsRow V.heap.size 5 1 (.slice (some ⟨g2, 0, none⟩) k c2) k (u8s (mixp 92 (nats KB) k)) ∧ Fr [] V W) H0.out ?_
    clear H0
    intro W0 h0
    have H0 := Lib.hid h0
    clear h0 hF hw1
    go_loopw [5, 6, 7] (fun u v t W => ∃ (k g1 c1 g2 c2 : Nat), k ≤ 64 ∧ t = .int .i64 k ∧ u = .slice (some ⟨g1, 0, none⟩) k c1 ∧ v = .slice (some ⟨g2, 0, none⟩) k c2 ∧ g1 ≠ g2 ∧ W.ownsRow V.heap.size 5 1 (.slice (some ⟨g1, 0, none⟩) k c1) k (u8s (mixp 54 (nats KB) k)) ∧ W.ownsRow V.heap.size 5 1 (.slice (some ⟨g2, 0, none⟩) k c2) k (u8s (mixp 92 (nats KB) k)) ∧ Fr [] V W) (fun _ _ t _ => 64 - (intOf t).toNat)
    case atStart => exact H0.out
    case round =>
      clear H0
      obtain ⟨k, g1, c1, g2, c2, hk, rfl, rfl, rfl, hne, ho1, ho2, hF⟩ := hrel
      have HO1 := Lib.hid ho1
      have HO2 := Lib.hid ho2
      have HF := Lib.hid hF
      have HNE := Lib.hid hne
      clear ho1 ho2 hF hne
      by_cases hlt : k < 64
      · have hlt' : (k : Int) < 64 := by omega
        have hgl : Sha.g (nats KB) k < 256 := g_lt256 (nats_lt KB) k
        have x1 : bits .xor .u8 ((Sha.g (nats KB) k : Nat) : Int) 54 = ((Sha.g (nats KB) k ^^^ 54 : Nat) : Int) := u8_xor_nat _ 54 hgl (by decide)
        have x2 : bits .xor .u8 ((Sha.g (nats KB) k : Nat) : Int) 92 = ((Sha.g (nats KB) k ^^^ 92 : Nat) : Int) := u8_xor_nat _ 92 hgl (by decide)
        have hg0 : Hid (¬ k < KB.size → Sha.g (nats KB) k = 0) := fun h => by
          unfold Sha.g; simp [List.getD, show ¬ k < (nats KB).length by rw [hKl.out]; exact h]
        have hga : Hid (∀ h : k < KB.size, (KB[k]'h).toNat = Sha.g (nats KB) k) := by
          show ∀ h, _
          intro h
          rw [show KB[k]'h = UInt8.ofNat (Sha.g (nats KB) k) from nats_at KB _ h, UInt8.toNat_ofNat', Nat.mod_eq_of_lt hgl]
        have s1 : Hid (mixp 54 (nats KB) (k + 1) = mixp 54 (nats KB) k ++ [Sha.g (nats KB) k ^^^ 54]) := mixp_succ _ _ _
        have s2 : Hid (mixp 92 (nats KB) (k + 1) = mixp 92 (nats KB) k ++ [Sha.g (nats KB) k ^^^ 92]) := mixp_succ _ _ _
        obtain ⟨X, hX⟩ : ∃ X, Hid (X = Sha.g (nats KB) k) := ⟨_, rfl⟩
        rw [← hX.out] at x1 x2 s1 s2 hg0 hga
        by_cases hkb : k < KB.size
        case' pos =>
          have hkb' : (k : Int) < (KB.size : Int) := by omega
          have hz : (KB[k]'hkb).toNat = X := hga.out hkb
        case' neg =>
          have hkb' : ¬ (k : Int) < (KB.size : Int) := by omega
          have hz := hg0.out hkb
          have x1' : bits .xor .u8 0 54 = ((X ^^^ 54 : Nat) : Int) := by rw [← x1, hz]; rfl
          have x2' : bits .xor .u8 0 92 = ((X ^^^ 92 : Nat) : Int) := by rw [← x2, hz]; rfl
          clear hz x1 x2
        all_goals
          clear hg0 hga
          go_wp2_with (at_builtin; refine app8k rfl (.tmp 27) (.tmp 30) rfl V _ k _ (X ^^^ 54) _ (by first | rfl | simp only [*]) rfl rfl HO1.out HF.out (by omega) ?_)
          intro g3 c3 w2 hown hf hb hst
          have hg2 := ownsRow_lt HO2.out
          have hg3 := ownsRow_lt hown
          have hb' : g3 = g1 ∨ wr.heap.size ≤ g3 := hb.imp (fun h => by cases h; rfl) id
          have hne3 : g3 ≠ g2 := by rcases hb' with h | h; exact fun hc => HNE.out (h.symm.trans hc); omega
          have ho2' := ownsRow_blk HO2.out (hst g2 hg2 (fun h => HNE.out (by cases h; rfl)))
          rw [← s1] at hown
          have HO1' := Lib.hid hown
          have HO2' := Lib.hid ho2'
          have HF' := Lib.hid hf
          have HNE3 := Lib.hid hne3
          clear hown ho2' hf hst hb hb' hg2 hne3
          go_wp2_with (at_builtin; refine app8k rfl (.tmp 32) (.tmp 35) rfl V _ k _ (X ^^^ 92) _ (by first | rfl | simp only [*]) rfl rfl HO2'.out HF'.out (by omega) ?_)
          intro g4 c4 w3 hown hf hb hst
          have hb' : g4 = g2 ∨ w2.heap.size ≤ g4 := hb.imp (fun h => by cases h; rfl) id
          have hne4 : g3 ≠ g4 := by rcases hb' with h | h; exact fun hc => HNE3.out (hc.trans h); omega
          have ho1' := ownsRow_blk HO1'.out (hst g3 hg3 (fun h => HNE3.out (by cases h; rfl)))
          rw [← s2] at hown
          have HO2'' := Lib.hid hown
          have HO1'' := Lib.hid ho1'
          have HF'' := Lib.hid hf
          have HNE4 := Lib.hid hne4
          clear hown ho1' hf hst hb hb' hne4
          try clear x1 x2
          go_wp2_with fail
          go_roundw
          case rel => first | exact ⟨k + 1, g3, c3, g4, c4, by omega, by go_num, rfl, rfl, HNE4.out, HO1''.out, HO2''.out, HF''.out⟩ | ((repeat apply Exists.intro); exact ⟨⟨k + 1, g3, c3, g4, c4, by omega, by go_num, rfl, rfl, HNE4.out, HO1''.out, HO2''.out, HF''.out⟩, rfl⟩)
          case measure => simp [intOf]; omega
      · obtain rfl : k = 64 := by omega
        have HOO : Hid (∀ W, Fr [] wr W → W.ownsRow V.heap.size 5 1 (.slice (some ⟨g2, 0, none⟩) 64 c2) 64 (u8s (mixp 92 (nats KB) 64))) := fun W h => ownsRow_fr HO2.out h
        have HII : Hid (∀ W, Fr [] wr W → W.ownsRow V.heap.size 5 1 (.slice (some ⟨g1, 0, none⟩) 64 c1) 64 (u8s (mixp 54 (nats KB) 64))) := fun W h => ownsRow_fr HO1.out h
        have hOL : (mixp 92 (nats KB) 64).length = 64 := by simp [mixp]
        have hIL : (mixp 54 (nats KB) 64).length = 64 := by simp [mixp]
        have hmlt : ∀ x, x < 256 → ∀ y ∈ mixp x (nats KB) 64, y < 256 := fun x hx => mix_lt (nats_lt KB) x hx
        have hI256 := hmlt 54 (by decide)
        have hO256 := hmlt 92 (by decide)
        have hfin : R = ba (Sha.sum (nats (ba (mixp 92 (nats KB) 64) ++ ba (Sha.sum (nats (ba (mixp 54 (nats KB) 64) ++ T)))))) := by
          rw [HR.out, nats_append, nats_append, sum_ba, nats_ba _ hI256, nats_ba _ hO256, HK1.out]; rfl
        have HFIN := Lib.hid hfin
        have HOL := Lib.hid hOL
        have HIL := Lib.hid hIL
        clear hOL hIL hmlt hI256 hO256 hfin HO1 HO2
        obtain ⟨W0, hW0⟩ : ∃ W0, W0 = wr := ⟨_, rfl⟩
        rw [← hW0] at HOO HII HF ⊢
        clear hW0 wr
        generalize mixp 92 (nats KB) 64 = OO at *
        generalize mixp 54 (nats KB) 64 = II at *
        have hb1 : (9223372036854775807 < II.length + T.size) = False := eq_false (by rw [HIL.out]; omega)
        have hb2 : (9223372036854775807 < OO.length + (Sha.sum (nats (ba II ++ T))).length) = False := eq_false (by rw [HOL.out, sum_length]; omega)
        have HFW := Lib.hid (HF.out : Fr [] V W0)
        have HF := Lib.hid ((Fr.refl [] W0).drew)
        go_wp2_with fail
        -- script
        refine wp_region_any (by kernel_rfl) ?_
        change wpAny _ _ _ _ _ _ _ (World.drew _)
        refine wpAny_take (i := 0) (v := .slice (some ⟨g2, 0, none⟩) 64 c2) rfl (by kernel_rfl) (by kernel_rfl) (by kernel_rfl) (fun _ _ _ h => h) (Or.inl ⟨by rfl, by intro w; go_simp⟩) ?_
        simp only [Act.put, List.setIfInBounds_toArray, List.set_cons_zero, List.set_cons_succ]
        refine wpAny_take (i := 2) (v := .slice (some ⟨g1, 0, none⟩) 64 c1) rfl (by kernel_rfl) (by kernel_rfl) (by kernel_rfl) (fun _ _ _ h => h) (Or.inl ⟨by rfl, by intro w; go_simp⟩) ?_
        simp only [Act.put, List.setIfInBounds_toArray, List.set_cons_zero, List.set_cons_succ]
        refine wpAny_take (i := 4) (v := .string T) rfl (by kernel_rfl) (by kernel_rfl) (by kernel_rfl) (fun _ _ _ h => h) (Or.inl ⟨by rfl, by intro w; go_simp⟩) ?_
        simp only [Act.put, List.setIfInBounds_toArray, List.set_cons_zero, List.set_cons_succ]
        refine wpAny_ready (rs := [1, 3]) (by kernel_rfl) (by simp) ?_
        refine AllReady.cons rfl (fun K hK => ?_) ?_
        · skip
          refine step_conv rfl 26 9 (.tmp 37) rfl _ (.string (ba OO)) rfl (owns_str (HOO.out _ HF.out)) ?_
          refine hK _ _ ?_
          clear hK K
          simp only [Act.put, List.setIfInBounds_toArray, List.set_cons_zero, List.set_cons_succ]
          refine wpAny_ready (rs := [3]) (by kernel_rfl) (by simp) ?_
          refine AllReady.cons rfl (fun K hK => ?_) ?_
          · skip
            refine step_conv rfl 26 9 (.tmp 39) rfl _ (.string (ba II)) rfl (owns_str (HII.out _ HF.out)) ?_
            refine hK _ _ ?_
            clear hK K
            simp only [Act.put, List.setIfInBounds_toArray, List.set_cons_zero, List.set_cons_succ]
            refine wpAny_ready (rs := [5]) (by kernel_rfl) (by simp) ?_
            refine AllReady.cons rfl (fun K hK => ?_) ?_
            · skip
              go_simp
              refine hK _ _ ?_
              clear hK K
              refine wpAny_ready (rs := [6]) (by kernel_rfl) (by simp) ?_
              refine AllReady.cons rfl (fun K hK => ?_) ?_
              · skip
                go_simp
                refine (rsum _ (ba II ++ T) (by rw [ByteArray.size_append, ba_size, HIL.out]; omega)).mono ?_
                rintro e W' ⟨rfl, hf⟩
                have HF := Lib.hid (HF.out.trans0 hf)
                clear hf
                go_simp
                refine hK _ _ ?_
                clear hK K
                refine wpAny_ready (rs := [7]) (by kernel_rfl) (by simp) ?_
                refine AllReady.cons rfl (fun K hK => ?_) ?_
                · skip
                  go_simp
                  refine hK _ _ ?_
                  clear hK K
                  refine wpAny_ready (rs := [8]) (by kernel_rfl) (by simp) ?_
                  refine AllReady.cons rfl (fun K hK => ?_) ?_
                  · skip
                    go_simp
                    refine (rsum _ (ba OO ++ ba (Sha.sum (nats (ba II ++ T)))) (by rw [ByteArray.size_append, ba_size, ba_size, HOL.out, sum_length]; omega)).mono ?_
                    rintro e W' ⟨rfl, hf⟩
                    have HF := Lib.hid (HF.out.trans0 hf)
                    clear hf
                    go_simp
                    refine hK _ _ ?_
                    clear hK K
                    refine wpAny_ready (rs := [9]) (by kernel_rfl) (by simp) ?_
                    refine AllReady.cons rfl (fun K hK => ?_) ?_
                    · skip
                      go_simp
                      refine hK _ _ ?_
                      clear hK K
                      refine wpAny_done (by kernel_rfl) ?_ _
                      go_wp2_with fail
                      refine bodyPost_ret (results_tmp rfl _ _ _) rfl ⟨?_, HFW.out.trans0 HF.out⟩
                      rw [HFIN.out]
                      rfl
                    exact AllReady.nil
                  exact AllReady.nil
                exact AllReady.nil
              exact AllReady.nil
            exact AllReady.nil
          exact AllReady.nil
        refine AllReady.cons rfl (fun K hK => ?_) ?_
        · skip
          refine step_conv rfl 26 9 (.tmp 39) rfl _ (.string (ba II)) rfl (owns_str (HII.out _ HF.out)) ?_
          refine hK _ _ ?_
          clear hK K
          simp only [Act.put, List.setIfInBounds_toArray, List.set_cons_zero, List.set_cons_succ]
          refine wpAny_ready (rs := [1, 5]) (by kernel_rfl) (by simp) ?_
          refine AllReady.cons rfl (fun K hK => ?_) ?_
          · skip
            refine step_conv rfl 26 9 (.tmp 37) rfl _ (.string (ba OO)) rfl (owns_str (HOO.out _ HF.out)) ?_
            refine hK _ _ ?_
            clear hK K
            simp only [Act.put, List.setIfInBounds_toArray, List.set_cons_zero, List.set_cons_succ]
            refine wpAny_ready (rs := [5]) (by kernel_rfl) (by simp) ?_
            refine AllReady.cons rfl (fun K hK => ?_) ?_
            · skip
              go_simp
              refine hK _ _ ?_
              clear hK K
              refine wpAny_ready (rs := [6]) (by kernel_rfl) (by simp) ?_
              refine AllReady.cons rfl (fun K hK => ?_) ?_
              · skip
                go_simp
                refine (rsum _ (ba II ++ T) (by rw [ByteArray.size_append, ba_size, HIL.out]; omega)).mono ?_
                rintro e W' ⟨rfl, hf⟩
                have HF := Lib.hid (HF.out.trans0 hf)
                clear hf
                go_simp
                refine hK _ _ ?_
                clear hK K
                refine wpAny_ready (rs := [7]) (by kernel_rfl) (by simp) ?_
                refine AllReady.cons rfl (fun K hK => ?_) ?_
                · skip
                  go_simp
                  refine hK _ _ ?_
                  clear hK K
                  refine wpAny_ready (rs := [8]) (by kernel_rfl) (by simp) ?_
                  refine AllReady.cons rfl (fun K hK => ?_) ?_
                  · skip
                    go_simp
                    refine (rsum _ (ba OO ++ ba (Sha.sum (nats (ba II ++ T)))) (by rw [ByteArray.size_append, ba_size, ba_size, HOL.out, sum_length]; omega)).mono ?_
                    rintro e W' ⟨rfl, hf⟩
                    have HF := Lib.hid (HF.out.trans0 hf)
                    clear hf
                    go_simp
                    refine hK _ _ ?_
                    clear hK K
                    refine wpAny_ready (rs := [9]) (by kernel_rfl) (by simp) ?_
                    refine AllReady.cons rfl (fun K hK => ?_) ?_
                    · skip
                      go_simp
                      refine hK _ _ ?_
                      clear hK K
                      refine wpAny_done (by kernel_rfl) ?_ _
                      go_wp2_with fail
                      refine bodyPost_ret (results_tmp rfl _ _ _) rfl ⟨?_, HFW.out.trans0 HF.out⟩
                      rw [HFIN.out]
                      rfl
                    exact AllReady.nil
                  exact AllReady.nil
                exact AllReady.nil
              exact AllReady.nil
            exact AllReady.nil
          refine AllReady.cons rfl (fun K hK => ?_) ?_
          · skip
            go_simp
            refine hK _ _ ?_
            clear hK K
            refine wpAny_ready (rs := [1, 6]) (by kernel_rfl) (by simp) ?_
            refine AllReady.cons rfl (fun K hK => ?_) ?_
            · skip
              refine step_conv rfl 26 9 (.tmp 37) rfl _ (.string (ba OO)) rfl (owns_str (HOO.out _ HF.out)) ?_
              refine hK _ _ ?_
              clear hK K
              simp only [Act.put, List.setIfInBounds_toArray, List.set_cons_zero, List.set_cons_succ]
              refine wpAny_ready (rs := [6]) (by kernel_rfl) (by simp) ?_
              refine AllReady.cons rfl (fun K hK => ?_) ?_
              · skip
                go_simp
                refine (rsum _ (ba II ++ T) (by rw [ByteArray.size_append, ba_size, HIL.out]; omega)).mono ?_
                rintro e W' ⟨rfl, hf⟩
                have HF := Lib.hid (HF.out.trans0 hf)
                clear hf
                go_simp
                refine hK _ _ ?_
                clear hK K
                refine wpAny_ready (rs := [7]) (by kernel_rfl) (by simp) ?_
                refine AllReady.cons rfl (fun K hK => ?_) ?_
                · skip
                  go_simp
                  refine hK _ _ ?_
                  clear hK K
                  refine wpAny_ready (rs := [8]) (by kernel_rfl) (by simp) ?_
                  refine AllReady.cons rfl (fun K hK => ?_) ?_
                  · skip
                    go_simp
                    refine (rsum _ (ba OO ++ ba (Sha.sum (nats (ba II ++ T)))) (by rw [ByteArray.size_append, ba_size, ba_size, HOL.out, sum_length]; omega)).mono ?_
                    rintro e W' ⟨rfl, hf⟩
                    have HF := Lib.hid (HF.out.trans0 hf)
                    clear hf
                    go_simp
                    refine hK _ _ ?_
                    clear hK K
                    refine wpAny_ready (rs := [9]) (by kernel_rfl) (by simp) ?_
                    refine AllReady.cons rfl (fun K hK => ?_) ?_
                    · skip
                      go_simp
                      refine hK _ _ ?_
                      clear hK K
                      refine wpAny_done (by kernel_rfl) ?_ _
                      go_wp2_with fail
                      refine bodyPost_ret (results_tmp rfl _ _ _) rfl ⟨?_, HFW.out.trans0 HF.out⟩
                      rw [HFIN.out]
                      rfl
                    exact AllReady.nil
                  exact AllReady.nil
                exact AllReady.nil
              exact AllReady.nil
            refine AllReady.cons rfl (fun K hK => ?_) ?_
            · skip
              go_simp
              refine (rsum _ (ba II ++ T) (by rw [ByteArray.size_append, ba_size, HIL.out]; omega)).mono ?_
              rintro e W' ⟨rfl, hf⟩
              have HF := Lib.hid (HF.out.trans0 hf)
              clear hf
              go_simp
              refine hK _ _ ?_
              clear hK K
              refine wpAny_ready (rs := [1]) (by kernel_rfl) (by simp) ?_
              refine AllReady.cons rfl (fun K hK => ?_) ?_
              · skip
                refine step_conv rfl 26 9 (.tmp 37) rfl _ (.string (ba OO)) rfl (owns_str (HOO.out _ HF.out)) ?_
                refine hK _ _ ?_
                clear hK K
                simp only [Act.put, List.setIfInBounds_toArray, List.set_cons_zero, List.set_cons_succ]
                refine wpAny_ready (rs := [7]) (by kernel_rfl) (by simp) ?_
                refine AllReady.cons rfl (fun K hK => ?_) ?_
                · skip
                  go_simp
                  refine hK _ _ ?_
                  clear hK K
                  refine wpAny_ready (rs := [8]) (by kernel_rfl) (by simp) ?_
                  refine AllReady.cons rfl (fun K hK => ?_) ?_
                  · skip
                    go_simp
                    refine (rsum _ (ba OO ++ ba (Sha.sum (nats (ba II ++ T)))) (by rw [ByteArray.size_append, ba_size, ba_size, HOL.out, sum_length]; omega)).mono ?_
                    rintro e W' ⟨rfl, hf⟩
                    have HF := Lib.hid (HF.out.trans0 hf)
                    clear hf
                    go_simp
                    refine hK _ _ ?_
                    clear hK K
                    refine wpAny_ready (rs := [9]) (by kernel_rfl) (by simp) ?_
                    refine AllReady.cons rfl (fun K hK => ?_) ?_
                    · skip
                      go_simp
                      refine hK _ _ ?_
                      clear hK K
                      refine wpAny_done (by kernel_rfl) ?_ _
                      go_wp2_with fail
                      refine bodyPost_ret (results_tmp rfl _ _ _) rfl ⟨?_, HFW.out.trans0 HF.out⟩
                      rw [HFIN.out]
                      rfl
                    exact AllReady.nil
                  exact AllReady.nil
                exact AllReady.nil
              exact AllReady.nil
            exact AllReady.nil
          exact AllReady.nil
        exact AllReady.nil
        -- end of script
end Go.Proofs.Ytanegflohbgkdaa
