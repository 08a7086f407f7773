/-
  Lemmas and contracts that the proofs over this seat use (part ShaKeysLaw); no statement of the seat is claimed in this text, and nothing is assumed in it.
-/
import Derived.Test.YtanegflohbgkdaaShaEq
import Derived.Test.YtanegflohbgkdaaDraw
set_option linter.unusedVariables false
set_option linter.unusedSimpArgs false
namespace Go.Proofs.Ytanegflohbgkdaa
open Go.RowKit
theorem rangeAt_fr {w w' : World} {b o : Nat} {cs : List Value} (h : w.rangeAt b o cs) (hf : Fr [] w w') : w'.rangeAt b o cs := fun j v hv => hf.cells (h j v hv)
/-- a whole variable's load, closed to the walk. -/
def loadArr (ty : TypeId) (b : Nat) : Sem Value := Instr.loadAt ty (.pointer (some ⟨b, 0, none⟩))
theorem loadArr_is (ty : TypeId) (b : Nat) : Instr.loadAt ty (.pointer (some ⟨b, 0, none⟩)) = loadArr ty b := rfl
theorem run_loadArr (A : List Nat) (h : A.length = 32) (b : Nat) (w : World) (hr : w.rangeAt b 0 (u8s A)) : (loadArr 24 b).run Try.prog w = .ok (.agg (u8s A).toArray) w :=
  run_loadAt_mid w b 0 24 (u8s A) _ hr Try.underlying24 rfl (by
    have : (Try.prog.info? 24).map (·.size) = some 32 := by kernel_rfl
    rw [this]; simp [h])
theorem hi32m (k l : List Nat) : (Try.prog.info? 24).map (·.size) = some (u8s (Sha.mac k l)).length := hi32 _
set_option maxHeartbeats 4000000 in
set_option maxRecDepth 100000 in
theorem shaKeys_walk (a b : ByteArray) (ha : a.size ≤ maxLen) (hb : b.size ≤ maxLen) (w : World) :
    Calls Try.prog 7 #[.string a, .string b] w fun e w' => e = .returned (.bool true) ∧ Fr [] w w' := by
  have cv := conv
  unfold maxLen at ha hb
  by_cases h1 : 5000 < a.size
  · go_enter Try.func7, Try.ntmps7
    go_wp2_with fail
    refine (alive w).mono ?_
    rintro e w1 ⟨rfl, hF⟩
    show _
    have h1' : (5000 : Int) < (a.size : Int) := by omega
    go_wp2_with fail
    refine bodyPost_ret (results_tmp rfl _ _ _) rfl ?_
    exact ⟨rfl, hF⟩
  by_cases h2 : 20000 < b.size
  · go_enter Try.func7, Try.ntmps7
    go_wp2_with fail
    refine (alive w).mono ?_
    rintro e w1 ⟨rfl, hF⟩
    show _
    have h1' : ¬ (5000 : Int) < (a.size : Int) := by omega
    have h2' : (20000 : Int) < (b.size : Int) := by omega
    go_wp2_with fail
    refine bodyPost_ret (results_tmp rfl _ _ _) rfl ?_
    exact ⟨rfl, hF⟩
  have ha2 : a.size ≤ maxLen := by unfold maxLen; omega
  have hb2 : b.size ≤ maxLen := by unfold maxLen; omega
  have la := nats_length a
  have lb := nats_length b
  go_enter Try.func7, Try.ntmps7
  go_wp2_with fail
  refine (alive w).mono ?_
  rintro e w1 ⟨rfl, hF⟩
  show _
  have h1' : ¬ (5000 : Int) < (a.size : Int) := by omega
  have h2' : ¬ (20000 : Int) < (b.size : Int) := by omega
  have LA := Lib.hid la
  have LB := Lib.hid lb
  clear la lb
  go_wp2_with fail
  refine (mac _ (strPt w1 5 a) (strPt (Lib.bytesWorld w1 5 a) 5 b) ((strPt_ok _ _ _ ha2).fr (fr_bytes _ _ _)) (strPt_ok _ _ _ hb2) (by show (nats a).length ≤ _; rw [LA.out]; omega) (by show (nats b).length ≤ _; rw [LB.out]; omega)).mono ?_
  rintro e w2 ⟨rfl, hF2⟩
  show _
  have HF := Lib.hid (((hF.trans0 (fr_bytes w1 5 a)).trans0 (fr_bytes _ 5 b)).trans0 hF2)
  have ed : Sha.mac (strPt w1 5 a).d (strPt (Lib.bytesWorld w1 5 a) 5 b).d = Sha.mac (nats a) (nats b) := rfl
  have hi := hi32m (nats a) (nats b)
  have hml := mac_length (nats a) (nats b)
  rw [ed]
  clear ed hF hF2
  generalize strPt w1 5 a = p1
  generalize strPt (Lib.bytesWorld w1 5 a) 5 b = p2
  obtain ⟨A, hA⟩ : ∃ A, Hid (A = Sha.mac (nats a) (nats b)) := ⟨_, rfl⟩
  rw [← hA.out] at hml hi ⊢
  have HML := Lib.hid hml
  have HAB : Hid (∀ y ∈ A, y < 256) := by show ∀ y ∈ A, _; rw [hA.out]; exact mac_lt _ _
  have HI := Lib.hid hi
  clear hml hi
  by_cases h64 : 64 < a.size
  · have h64' : (64 : Int) < (a.size : Int) := by omega
    go_wp2_with (refine wpList_store_new rfl 24 (.tmp 5) (.tmp 21) rfl _ (u8s A).toArray _ rfl rfl ?h1 ?h2 (all_oneCell_toArray (oc_u8s A)) ?_; (case h1 => simp [HML.out]); (case h2 => rw [HI.out]; simp))
    refine calls_fresh (fun W => W.rangeAt w2.heap.size 0 (u8s A) ∧ (strPt (w2.alloc (.cells (u8s A).toArray 24)) 5 a).Ok W ∧ Fr [] w W)
      ⟨rangeAt_fr (rangeAt_row (heap_alloc_last w2 _)) (fr_bytes _ _ _), strPt_ok _ _ _ ha2, (HF.out.alloc _).trans0 (fr_bytes _ _ _)⟩ ?_
    have ed2 : (strPt (w2.alloc (.cells (u8s A).toArray 24)) 5 a).d = nats a := rfl
    generalize strPt (w2.alloc (.cells (u8s A).toArray 24)) 5 a = p3 at *
    generalize w2.heap.size = ab at *
    clear HF w2
    rintro W ⟨hab, hp3, hF⟩
    refine (ssum W p3 hp3 (by rw [ed2, LA.out]; omega)).mono ?_
    rintro e w3 ⟨rfl, hF3⟩
    rw [ed2]
    have hab3 := rangeAt_fr hab hF3
    have hF4 := hF.trans0 hF3
    have hi3 := hi32 (nats a)
    have HSL := Lib.hid (sum_length (nats a))
    have HSB := Lib.hid (sum_lt (nats a))
    have hAk : Hid (Sha.mac (Sha.sum (nats a)) (nats b) = A) := by show _ = _; rw [hA.out, mac_key _ _ (by rw [LA.out]; exact h64)]
    show _
    clear hab hp3 hF hF3 ed2 W
    generalize Sha.sum (nats a) = S at *
    have HAB3 := Lib.hid hab3
    have HF4 := Lib.hid hF4
    have HI3 := Lib.hid hi3
    clear hab3 hF4 hi3
    go_wp2_with (refine wpList_store_new rfl 24 (.tmp 6) (.tmp 27) rfl _ (u8s S).toArray _ rfl rfl ?h1 ?h2 (all_oneCell_toArray (oc_u8s S)) ?_; (case h1 => simp [HSL.out]); (case h2 => rw [HI3.out]; simp))
    refine wp_fresh (fun W => W.rangeAt ab 0 (u8s A) ∧ W.heap[w3.heap.size]? = some (.cells (u8s S).toArray 24 (0, 0)) ∧ Fr [] w W) ⟨rangeAt_fr HAB3.out ((Fr.refl _ _).alloc _), heap_alloc_last w3 _, HF4.out.alloc _⟩ ?_
    generalize w3.heap.size = db at *
    clear HAB3 HF4
    rintro W ⟨hab, hdb, hF⟩
    have he : (Try.prog.info? 5).map (·.size) = some 1 := by kernel_rfl
    have kD := run_cutA_all Try.underlying24 he db 0
    have heq := eql32 A A HML.out HML.out HAB.out HAB.out
    rw [show (A == A) = true from beq_self_eq_true A] at heq
    have q2 : ∀ (V : World) (s : ByteArray), V.rangeAt ab 0 (u8s A) → (Lib.bytesWorld V 5 s).rangeAt ab 0 (u8s A) := fun V s h => rangeAt_fr h (fr_bytes _ _ _)
    have q3 : ∀ V : World, V.rangeAt ab 0 (u8s A) → V.drew.rangeAt ab 0 (u8s A) := fun V h => rangeAt_fr h (Fr.refl _ _).drew
    have HMAC : Hid (Calls Try.prog 12 #[.slice (some ⟨db, 0, none⟩) 32 32, (strPt W.drew 5 b).v] (Lib.bytesWorld W.drew 5 b) fun e w' => e = .returned (.agg (u8s A).toArray) ∧ (Fr [] w w' ∧ w'.rangeAt ab 0 (u8s A))) := by
      have hF0 : Fr [] W (Lib.bytesWorld W.drew 5 b) := (Fr.refl _ _).drew.trans0 (fr_bytes _ _ _)
      have hm := mac (Lib.bytesWorld W.drew 5 b) ⟨some ⟨db, 0, none⟩, 32, 32, S⟩ (strPt W.drew 5 b) (pt_row (hF0.row hdb (by simp)) HSB.out 32 HSL.out (by omega)) (strPt_ok _ _ _ hb2) (by show S.length ≤ _; rw [HSL.out]; decide) (by show (nats b).length ≤ _; rw [LB.out]; omega)
      refine hm.mono fun e w' h => ⟨?_, (hF.trans0 hF0).trans0 h.2, rangeAt_fr hab (hF0.trans0 h.2)⟩
      rw [h.1, show Sha.mac S (strPt W.drew 5 b).d = A from hAk.out]
    clear hdb hF
    refine wp_region_any (by kernel_rfl) ?_
    change wpAny _ _ _ _ _ _ _ (World.drew _)
    refine wpAny_take (i := 0) (v := .slice (some ⟨db, 0, none⟩) 32 32) rfl (by kernel_rfl) (by kernel_rfl) (by kernel_rfl) (fun _ _ _ h => h) (Or.inl ⟨by rfl, by intro w; go_simp⟩) ?_
    refine wpAny_take (i := 1) (v := .string b) rfl (by kernel_rfl) (by kernel_rfl) (by kernel_rfl) (fun _ _ _ h => h) (Or.inl ⟨by rfl, by intro w; go_simp⟩) ?_
    simp only [Act.put, List.setIfInBounds_toArray, List.set_cons_zero, List.set_cons_succ]
    refine wpAny_ready (rs := [2, 4]) (by kernel_rfl) (by simp) ?_
    refine AllReady.cons rfl (fun K hK => ?_) ?_
    · skip
      go_simp
      refine hK _ _ ?_
      clear hK K
      refine wpAny_ready (rs := [3, 4]) (by kernel_rfl) (by simp) ?_
      refine AllReady.cons rfl (fun K hK => ?_) ?_
      · skip
        go_simp
        refine HMAC.out.mono ?_
        rintro e w9 ⟨rfl, hF9, l9⟩
        show _
        go_simp
        refine hK _ _ ?_
        clear hK K
        refine wpAny_ready (rs := [4]) (by kernel_rfl) (by simp) ?_
        refine ready_load 4 rfl rfl 24 (.tmp 5) rfl ab 0 rfl (u8s A) _ (by repeat (first | assumption | refine q2 _ _ ?_ | refine q3 _ ?_)) Try.underlying24 rfl HI.out ?_ ?_
        · skip
          simp only [Act.put, List.setIfInBounds_toArray, List.set_cons_zero, List.set_cons_succ]
          refine wpAny_ready (rs := [5]) (by kernel_rfl) (by simp) ?_
          refine AllReady.cons rfl (fun K hK => ?_) ?_
          · skip
            go_simp
            refine hK _ _ ?_
            clear hK K
            refine wpAny_ready (rs := [6]) (by kernel_rfl) (by simp) ?_
            refine AllReady.cons rfl (fun K hK => ?_) ?_
            · skip
              go_simp
              refine hK _ _ ?_
              clear hK K
              refine wpAny_done (by kernel_rfl) ?_ _
              go_wp2_with fail
              refine bodyPost_ret (results_tmp rfl _ _ _) rfl ?_
              exact ⟨rfl, hF9⟩
            exact AllReady.nil
          exact AllReady.nil
        exact AllReady.nil
      refine ready_load 4 rfl rfl 24 (.tmp 5) rfl ab 0 rfl (u8s A) _ (by repeat (first | assumption | refine q2 _ _ ?_ | refine q3 _ ?_)) Try.underlying24 rfl HI.out ?_ ?_
      · skip
        simp only [Act.put, List.setIfInBounds_toArray, List.set_cons_zero, List.set_cons_succ]
        refine wpAny_ready (rs := [3]) (by kernel_rfl) (by simp) ?_
        refine AllReady.cons rfl (fun K hK => ?_) ?_
        · skip
          go_simp
          refine HMAC.out.mono ?_
          rintro e w9 ⟨rfl, hF9, l9⟩
          show _
          go_simp
          refine hK _ _ ?_
          clear hK K
          refine wpAny_ready (rs := [5]) (by kernel_rfl) (by simp) ?_
          refine AllReady.cons rfl (fun K hK => ?_) ?_
          · skip
            go_simp
            refine hK _ _ ?_
            clear hK K
            refine wpAny_ready (rs := [6]) (by kernel_rfl) (by simp) ?_
            refine AllReady.cons rfl (fun K hK => ?_) ?_
            · skip
              go_simp
              refine hK _ _ ?_
              clear hK K
              refine wpAny_done (by kernel_rfl) ?_ _
              go_wp2_with fail
              refine bodyPost_ret (results_tmp rfl _ _ _) rfl ?_
              exact ⟨rfl, hF9⟩
            exact AllReady.nil
          exact AllReady.nil
        exact AllReady.nil
      exact AllReady.nil
    refine ready_load 4 rfl rfl 24 (.tmp 5) rfl ab 0 rfl (u8s A) _ (by repeat (first | assumption | refine q2 _ _ ?_ | refine q3 _ ?_)) Try.underlying24 rfl HI.out ?_ ?_
    · skip
      simp only [Act.put, List.setIfInBounds_toArray, List.set_cons_zero, List.set_cons_succ]
      refine wpAny_ready (rs := [2]) (by kernel_rfl) (by simp) ?_
      refine AllReady.cons rfl (fun K hK => ?_) ?_
      · skip
        go_simp
        refine hK _ _ ?_
        clear hK K
        refine wpAny_ready (rs := [3]) (by kernel_rfl) (by simp) ?_
        refine AllReady.cons rfl (fun K hK => ?_) ?_
        · skip
          go_simp
          refine HMAC.out.mono ?_
          rintro e w9 ⟨rfl, hF9, l9⟩
          show _
          go_simp
          refine hK _ _ ?_
          clear hK K
          refine wpAny_ready (rs := [5]) (by kernel_rfl) (by simp) ?_
          refine AllReady.cons rfl (fun K hK => ?_) ?_
          · skip
            go_simp
            refine hK _ _ ?_
            clear hK K
            refine wpAny_ready (rs := [6]) (by kernel_rfl) (by simp) ?_
            refine AllReady.cons rfl (fun K hK => ?_) ?_
            · skip
              go_simp
              refine hK _ _ ?_
              clear hK K
              refine wpAny_done (by kernel_rfl) ?_ _
              go_wp2_with fail
              refine bodyPost_ret (results_tmp rfl _ _ _) rfl ?_
              exact ⟨rfl, hF9⟩
            exact AllReady.nil
          exact AllReady.nil
        exact AllReady.nil
      exact AllReady.nil
    exact AllReady.nil
  · have h64' : ¬ (64 : Int) < (a.size : Int) := by omega
    go_wp2_with (refine wpList_store_new rfl 24 (.tmp 5) (.tmp 21) rfl _ (u8s A).toArray _ rfl rfl ?h1 ?h2 (all_oneCell_toArray (oc_u8s A)) ?_; (case h1 => simp [HML.out]); (case h2 => rw [HI.out]; simp))
    by_cases h3 : a.size = 64
    · have h3' : ((a.size : Int) == 64) = true := by rw [h3]; rfl
      go_quiet (fail)
      go_wp2_with fail
      refine bodyPost_ret (results_tmp rfl _ _ _) rfl ?_
      exact ⟨rfl, (HF.out.alloc _).drewN _⟩
    · have h3' : ((a.size : Int) == 64) = false := by simp; omega
      refine wp_fresh (fun W => W.rangeAt w2.heap.size 0 (u8s A) ∧ Fr [] w W)
        ⟨rangeAt_row (heap_alloc_last w2 _), HF.out.alloc _⟩ ?_
      generalize w2.heap.size = ab at *
      clear HF w2
      rintro W ⟨hab, hF⟩
      have q2 : ∀ (V : World) (s : ByteArray), V.rangeAt ab 0 (u8s A) → (Lib.bytesWorld V 5 s).rangeAt ab 0 (u8s A) := fun V s h => rangeAt_fr h (fr_bytes _ _ _)
      have q3 : ∀ V : World, V.rangeAt ab 0 (u8s A) → V.drew.rangeAt ab 0 (u8s A) := fun V h => rangeAt_fr h (Fr.refl _ _).drew
      have heq := eql32 A A HML.out HML.out HAB.out HAB.out
      rw [show (A == A) = true from beq_self_eq_true A] at heq
      have hs1 : (a ++ ⟨#[0]⟩ : ByteArray).size ≤ maxLen := by unfold maxLen; show (a ++ _).size ≤ _; rw [ByteArray.size_append]; show _ + 1 ≤ _; omega
      have HM : Hid (∀ (V : World) (x y : Pt), x.Ok V → x.d = nats a ++ nats ⟨#[0]⟩ → y.Ok V → y.d = nats b → Fr [] w V → V.rangeAt ab 0 (u8s A) → Calls Try.prog 12 #[x.v, y.v] V fun e w' => e = .returned (.agg (u8s A).toArray) ∧ (Fr [] w w' ∧ w'.rangeAt ab 0 (u8s A))) := by
        intro V x y hx ex hy ey hV hr
        refine (mac V x y hx hy (by rw [ex, List.length_append, LA.out]; show _ + 1 ≤ _; omega) (by rw [ey, LB.out]; omega)).mono fun e w' h => ⟨?_, hV.trans0 h.2, rangeAt_fr hr h.2⟩
        rw [h.1, ex, ey, hA.out, show nats ⟨#[0]⟩ = [0] from rfl, mac_nought _ _ (by rw [LA.out]; omega)]
      refine wp_region_any (by kernel_rfl) ?_
      change wpAny _ _ _ _ _ _ _ (World.drew _)
      refine wpAny_take (i := 0) (v := .string a) rfl (by kernel_rfl) (by kernel_rfl) (by kernel_rfl) (fun _ _ _ h => h) (Or.inl ⟨by rfl, by intro w; go_simp⟩) ?_
      simp only [Act.put, List.setIfInBounds_toArray, List.set_cons_zero, List.set_cons_succ]
      refine wpAny_take (i := 1) (v := .int .i64 (a.size : Int)) rfl (by kernel_rfl) (by kernel_rfl) (by kernel_rfl) (fun _ _ _ h => h) (Or.inl ⟨by rfl, by intro w; go_simp⟩) ?_
      simp only [Act.put, List.setIfInBounds_toArray, List.set_cons_zero, List.set_cons_succ]
      refine wpAny_take (i := 2) (v := .bool false) rfl (by kernel_rfl) (by kernel_rfl) (by kernel_rfl) (fun _ _ _ h => h) (Or.inl ⟨by rfl, by intro w; go_simp⟩) ?_
      simp only [Act.put, List.setIfInBounds_toArray, List.set_cons_zero, List.set_cons_succ]
      refine wpAny_take (i := 3) (v := .bool false) rfl (by kernel_rfl) (by kernel_rfl) (by kernel_rfl) (fun _ _ _ h => h) (Or.inl ⟨by rfl, by intro w; go_simp⟩) ?_
      simp only [Act.put, List.setIfInBounds_toArray, List.set_cons_zero, List.set_cons_succ]
      refine wpAny_take (i := 4) (v := .string a) rfl (by kernel_rfl) (by kernel_rfl) (by kernel_rfl) (fun _ _ _ h => h) (Or.inl ⟨by rfl, by intro w; go_simp⟩) ?_
      simp only [Act.put, List.setIfInBounds_toArray, List.set_cons_zero, List.set_cons_succ]
      refine wpAny_take (i := 5) (v := .string (a ++ ⟨#[0]⟩)) rfl (by kernel_rfl) (by kernel_rfl) (by kernel_rfl) (fun _ _ _ h => h) (Or.inl ⟨by rfl, by intro w; go_simp; omega⟩) ?_
      simp only [Act.put, List.setIfInBounds_toArray, List.set_cons_zero, List.set_cons_succ]
      refine wpAny_take (i := 7) (v := .string b) rfl (by kernel_rfl) (by kernel_rfl) (by kernel_rfl) (fun _ _ _ h => h) (Or.inl ⟨by rfl, by intro w; go_simp⟩) ?_
      simp only [Act.put, List.setIfInBounds_toArray, List.set_cons_zero, List.set_cons_succ]
      refine wpAny_ready (rs := [6, 8, 10]) (by kernel_rfl) (by simp) ?_
      refine AllReady.cons rfl (fun K hK => ?_) ?_
      · skip
        go_simp
        refine hK _ _ ?_
        clear hK K
        refine wpAny_ready (rs := [8, 10]) (by kernel_rfl) (by simp) ?_
        refine AllReady.cons rfl (fun K hK => ?_) ?_
        · skip
          go_simp
          refine hK _ _ ?_
          clear hK K
          refine wpAny_ready (rs := [9, 10]) (by kernel_rfl) (by simp) ?_
          refine AllReady.cons rfl (fun K hK => ?_) ?_
          · skip
            go_simp
            refine Calls.mono (HM.out _ (strPt _ 5 _) (strPt _ 5 _) ((strPt_ok _ _ _ hs1).fr (fr_bytes _ _ _)) (nats_append _ _) (strPt_ok _ _ _ hb2) rfl (((hF.trans0 ((Fr.refl _ _).drew)).trans0 (fr_bytes _ _ _)).trans0 (fr_bytes _ _ _)) (q2 _ _ (q2 _ _ (q3 _ hab)))) ?_
            rintro e w9 ⟨rfl, hF9, l9⟩
            show _
            go_simp
            refine hK _ _ ?_
            clear hK K
            refine wpAny_ready (rs := [10]) (by kernel_rfl) (by simp) ?_
            refine ready_load_g 10 rfl (by rfl) 24 (.tmp 5) rfl ab 0 rfl (u8s A) _ l9 Try.underlying24 rfl HI.out ?_ ?_
            · skip
              simp only [Act.put, List.setIfInBounds_toArray, List.set_cons_zero, List.set_cons_succ]
              refine wpAny_ready (rs := [11]) (by kernel_rfl) (by simp) ?_
              refine AllReady.cons rfl (fun K hK => ?_) ?_
              · skip
                go_simp
                refine hK _ _ ?_
                clear hK K
                refine wpAny_ready (rs := [12]) (by kernel_rfl) (by simp) ?_
                refine AllReady.cons rfl (fun K hK => ?_) ?_
                · skip
                  go_simp
                  refine hK _ _ ?_
                  clear hK K
                  refine wpAny_ready (rs := [13]) (by kernel_rfl) (by simp) ?_
                  refine AllReady.cons rfl (fun K hK => ?_) ?_
                  · skip
                    go_simp
                    refine hK _ _ ?_
                    clear hK K
                    refine wpAny_done (by kernel_rfl) ?_ _
                    go_wp2_with fail
                    refine bodyPost_ret (results_tmp rfl _ _ _) rfl ?_
                    exact ⟨rfl, hF9⟩
                  exact AllReady.nil
                exact AllReady.nil
              exact AllReady.nil
            exact AllReady.nil
          refine ready_load_g 10 rfl (by rfl) 24 (.tmp 5) rfl ab 0 rfl (u8s A) _ (q2 _ _ (q2 _ _ (q3 _ hab))) Try.underlying24 rfl HI.out ?_ ?_
          · skip
            simp only [Act.put, List.setIfInBounds_toArray, List.set_cons_zero, List.set_cons_succ]
            refine wpAny_ready (rs := [9]) (by kernel_rfl) (by simp) ?_
            refine AllReady.cons rfl (fun K hK => ?_) ?_
            · skip
              go_simp
              refine Calls.mono (HM.out _ (strPt _ 5 _) (strPt _ 5 _) ((strPt_ok _ _ _ hs1).fr (fr_bytes _ _ _)) (nats_append _ _) (strPt_ok _ _ _ hb2) rfl (((hF.trans0 ((Fr.refl _ _).drew)).trans0 (fr_bytes _ _ _)).trans0 (fr_bytes _ _ _)) (q2 _ _ (q2 _ _ (q3 _ hab)))) ?_
              rintro e w9 ⟨rfl, hF9, l9⟩
              show _
              go_simp
              refine hK _ _ ?_
              clear hK K
              refine wpAny_ready (rs := [11]) (by kernel_rfl) (by simp) ?_
              refine AllReady.cons rfl (fun K hK => ?_) ?_
              · skip
                go_simp
                refine hK _ _ ?_
                clear hK K
                refine wpAny_ready (rs := [12]) (by kernel_rfl) (by simp) ?_
                refine AllReady.cons rfl (fun K hK => ?_) ?_
                · skip
                  go_simp
                  refine hK _ _ ?_
                  clear hK K
                  refine wpAny_ready (rs := [13]) (by kernel_rfl) (by simp) ?_
                  refine AllReady.cons rfl (fun K hK => ?_) ?_
                  · skip
                    go_simp
                    refine hK _ _ ?_
                    clear hK K
                    refine wpAny_done (by kernel_rfl) ?_ _
                    go_wp2_with fail
                    refine bodyPost_ret (results_tmp rfl _ _ _) rfl ?_
                    exact ⟨rfl, hF9⟩
                  exact AllReady.nil
                exact AllReady.nil
              exact AllReady.nil
            exact AllReady.nil
          exact AllReady.nil
        refine ready_load_g 10 rfl (by rfl) 24 (.tmp 5) rfl ab 0 rfl (u8s A) _ (q2 _ _ (q3 _ hab)) Try.underlying24 rfl HI.out ?_ ?_
        · skip
          simp only [Act.put, List.setIfInBounds_toArray, List.set_cons_zero, List.set_cons_succ]
          refine wpAny_ready (rs := [8]) (by kernel_rfl) (by simp) ?_
          refine AllReady.cons rfl (fun K hK => ?_) ?_
          · skip
            go_simp
            refine hK _ _ ?_
            clear hK K
            refine wpAny_ready (rs := [9]) (by kernel_rfl) (by simp) ?_
            refine AllReady.cons rfl (fun K hK => ?_) ?_
            · skip
              go_simp
              refine Calls.mono (HM.out _ (strPt _ 5 _) (strPt _ 5 _) ((strPt_ok _ _ _ hs1).fr (fr_bytes _ _ _)) (nats_append _ _) (strPt_ok _ _ _ hb2) rfl (((hF.trans0 ((Fr.refl _ _).drew)).trans0 (fr_bytes _ _ _)).trans0 (fr_bytes _ _ _)) (q2 _ _ (q2 _ _ (q3 _ hab)))) ?_
              rintro e w9 ⟨rfl, hF9, l9⟩
              show _
              go_simp
              refine hK _ _ ?_
              clear hK K
              refine wpAny_ready (rs := [11]) (by kernel_rfl) (by simp) ?_
              refine AllReady.cons rfl (fun K hK => ?_) ?_
              · skip
                go_simp
                refine hK _ _ ?_
                clear hK K
                refine wpAny_ready (rs := [12]) (by kernel_rfl) (by simp) ?_
                refine AllReady.cons rfl (fun K hK => ?_) ?_
                · skip
                  go_simp
                  refine hK _ _ ?_
                  clear hK K
                  refine wpAny_ready (rs := [13]) (by kernel_rfl) (by simp) ?_
                  refine AllReady.cons rfl (fun K hK => ?_) ?_
                  · skip
                    go_simp
                    refine hK _ _ ?_
                    clear hK K
                    refine wpAny_done (by kernel_rfl) ?_ _
                    go_wp2_with fail
                    refine bodyPost_ret (results_tmp rfl _ _ _) rfl ?_
                    exact ⟨rfl, hF9⟩
                  exact AllReady.nil
                exact AllReady.nil
              exact AllReady.nil
            exact AllReady.nil
          exact AllReady.nil
        exact AllReady.nil
      refine AllReady.cons rfl (fun K hK => ?_) ?_
      · skip
        go_simp
        refine hK _ _ ?_
        clear hK K
        refine wpAny_ready (rs := [6, 10]) (by kernel_rfl) (by simp) ?_
        refine AllReady.cons rfl (fun K hK => ?_) ?_
        · skip
          go_simp
          refine hK _ _ ?_
          clear hK K
          refine wpAny_ready (rs := [9, 10]) (by kernel_rfl) (by simp) ?_
          refine AllReady.cons rfl (fun K hK => ?_) ?_
          · skip
            go_simp
            refine Calls.mono (HM.out _ (strPt _ 5 _) (strPt _ 5 _) (strPt_ok _ _ _ hs1) (nats_append _ _) ((strPt_ok _ _ _ hb2).fr (fr_bytes _ _ _)) rfl (((hF.trans0 ((Fr.refl _ _).drew)).trans0 (fr_bytes _ _ _)).trans0 (fr_bytes _ _ _)) (q2 _ _ (q2 _ _ (q3 _ hab)))) ?_
            rintro e w9 ⟨rfl, hF9, l9⟩
            show _
            go_simp
            refine hK _ _ ?_
            clear hK K
            refine wpAny_ready (rs := [10]) (by kernel_rfl) (by simp) ?_
            refine ready_load_g 10 rfl (by rfl) 24 (.tmp 5) rfl ab 0 rfl (u8s A) _ l9 Try.underlying24 rfl HI.out ?_ ?_
            · skip
              simp only [Act.put, List.setIfInBounds_toArray, List.set_cons_zero, List.set_cons_succ]
              refine wpAny_ready (rs := [11]) (by kernel_rfl) (by simp) ?_
              refine AllReady.cons rfl (fun K hK => ?_) ?_
              · skip
                go_simp
                refine hK _ _ ?_
                clear hK K
                refine wpAny_ready (rs := [12]) (by kernel_rfl) (by simp) ?_
                refine AllReady.cons rfl (fun K hK => ?_) ?_
                · skip
                  go_simp
                  refine hK _ _ ?_
                  clear hK K
                  refine wpAny_ready (rs := [13]) (by kernel_rfl) (by simp) ?_
                  refine AllReady.cons rfl (fun K hK => ?_) ?_
                  · skip
                    go_simp
                    refine hK _ _ ?_
                    clear hK K
                    refine wpAny_done (by kernel_rfl) ?_ _
                    go_wp2_with fail
                    refine bodyPost_ret (results_tmp rfl _ _ _) rfl ?_
                    exact ⟨rfl, hF9⟩
                  exact AllReady.nil
                exact AllReady.nil
              exact AllReady.nil
            exact AllReady.nil
          refine ready_load_g 10 rfl (by rfl) 24 (.tmp 5) rfl ab 0 rfl (u8s A) _ (q2 _ _ (q2 _ _ (q3 _ hab))) Try.underlying24 rfl HI.out ?_ ?_
          · skip
            simp only [Act.put, List.setIfInBounds_toArray, List.set_cons_zero, List.set_cons_succ]
            refine wpAny_ready (rs := [9]) (by kernel_rfl) (by simp) ?_
            refine AllReady.cons rfl (fun K hK => ?_) ?_
            · skip
              go_simp
              refine Calls.mono (HM.out _ (strPt _ 5 _) (strPt _ 5 _) (strPt_ok _ _ _ hs1) (nats_append _ _) ((strPt_ok _ _ _ hb2).fr (fr_bytes _ _ _)) rfl (((hF.trans0 ((Fr.refl _ _).drew)).trans0 (fr_bytes _ _ _)).trans0 (fr_bytes _ _ _)) (q2 _ _ (q2 _ _ (q3 _ hab)))) ?_
              rintro e w9 ⟨rfl, hF9, l9⟩
              show _
              go_simp
              refine hK _ _ ?_
              clear hK K
              refine wpAny_ready (rs := [11]) (by kernel_rfl) (by simp) ?_
              refine AllReady.cons rfl (fun K hK => ?_) ?_
              · skip
                go_simp
                refine hK _ _ ?_
                clear hK K
                refine wpAny_ready (rs := [12]) (by kernel_rfl) (by simp) ?_
                refine AllReady.cons rfl (fun K hK => ?_) ?_
                · skip
                  go_simp
                  refine hK _ _ ?_
                  clear hK K
                  refine wpAny_ready (rs := [13]) (by kernel_rfl) (by simp) ?_
                  refine AllReady.cons rfl (fun K hK => ?_) ?_
                  · skip
                    go_simp
                    refine hK _ _ ?_
                    clear hK K
                    refine wpAny_done (by kernel_rfl) ?_ _
                    go_wp2_with fail
                    refine bodyPost_ret (results_tmp rfl _ _ _) rfl ?_
                    exact ⟨rfl, hF9⟩
                  exact AllReady.nil
                exact AllReady.nil
              exact AllReady.nil
            exact AllReady.nil
          exact AllReady.nil
        refine ready_load_g 10 rfl (by rfl) 24 (.tmp 5) rfl ab 0 rfl (u8s A) _ (q2 _ _ (q3 _ hab)) Try.underlying24 rfl HI.out ?_ ?_
        · skip
          simp only [Act.put, List.setIfInBounds_toArray, List.set_cons_zero, List.set_cons_succ]
          refine wpAny_ready (rs := [6]) (by kernel_rfl) (by simp) ?_
          refine AllReady.cons rfl (fun K hK => ?_) ?_
          · skip
            go_simp
            refine hK _ _ ?_
            clear hK K
            refine wpAny_ready (rs := [9]) (by kernel_rfl) (by simp) ?_
            refine AllReady.cons rfl (fun K hK => ?_) ?_
            · skip
              go_simp
              refine Calls.mono (HM.out _ (strPt _ 5 _) (strPt _ 5 _) (strPt_ok _ _ _ hs1) (nats_append _ _) ((strPt_ok _ _ _ hb2).fr (fr_bytes _ _ _)) rfl (((hF.trans0 ((Fr.refl _ _).drew)).trans0 (fr_bytes _ _ _)).trans0 (fr_bytes _ _ _)) (q2 _ _ (q2 _ _ (q3 _ hab)))) ?_
              rintro e w9 ⟨rfl, hF9, l9⟩
              show _
              go_simp
              refine hK _ _ ?_
              clear hK K
              refine wpAny_ready (rs := [11]) (by kernel_rfl) (by simp) ?_
              refine AllReady.cons rfl (fun K hK => ?_) ?_
              · skip
                go_simp
                refine hK _ _ ?_
                clear hK K
                refine wpAny_ready (rs := [12]) (by kernel_rfl) (by simp) ?_
                refine AllReady.cons rfl (fun K hK => ?_) ?_
                · skip
                  go_simp
                  refine hK _ _ ?_
                  clear hK K
                  refine wpAny_ready (rs := [13]) (by kernel_rfl) (by simp) ?_
                  refine AllReady.cons rfl (fun K hK => ?_) ?_
                  · skip
                    go_simp
                    refine hK _ _ ?_
                    clear hK K
                    refine wpAny_done (by kernel_rfl) ?_ _
                    go_wp2_with fail
                    refine bodyPost_ret (results_tmp rfl _ _ _) rfl ?_
                    exact ⟨rfl, hF9⟩
                  exact AllReady.nil
                exact AllReady.nil
              exact AllReady.nil
            exact AllReady.nil
          exact AllReady.nil
        exact AllReady.nil
      refine ready_load_g 10 rfl (by rfl) 24 (.tmp 5) rfl ab 0 rfl (u8s A) _ (q3 _ hab) Try.underlying24 rfl HI.out ?_ ?_
      · skip
        simp only [Act.put, List.setIfInBounds_toArray, List.set_cons_zero, List.set_cons_succ]
        refine wpAny_ready (rs := [6, 8]) (by kernel_rfl) (by simp) ?_
        refine AllReady.cons rfl (fun K hK => ?_) ?_
        · skip
          go_simp
          refine hK _ _ ?_
          clear hK K
          refine wpAny_ready (rs := [8]) (by kernel_rfl) (by simp) ?_
          refine AllReady.cons rfl (fun K hK => ?_) ?_
          · skip
            go_simp
            refine hK _ _ ?_
            clear hK K
            refine wpAny_ready (rs := [9]) (by kernel_rfl) (by simp) ?_
            refine AllReady.cons rfl (fun K hK => ?_) ?_
            · skip
              go_simp
              refine Calls.mono (HM.out _ (strPt _ 5 _) (strPt _ 5 _) ((strPt_ok _ _ _ hs1).fr (fr_bytes _ _ _)) (nats_append _ _) (strPt_ok _ _ _ hb2) rfl (((hF.trans0 ((Fr.refl _ _).drew)).trans0 (fr_bytes _ _ _)).trans0 (fr_bytes _ _ _)) (q2 _ _ (q2 _ _ (q3 _ hab)))) ?_
              rintro e w9 ⟨rfl, hF9, l9⟩
              show _
              go_simp
              refine hK _ _ ?_
              clear hK K
              refine wpAny_ready (rs := [11]) (by kernel_rfl) (by simp) ?_
              refine AllReady.cons rfl (fun K hK => ?_) ?_
              · skip
                go_simp
                refine hK _ _ ?_
                clear hK K
                refine wpAny_ready (rs := [12]) (by kernel_rfl) (by simp) ?_
                refine AllReady.cons rfl (fun K hK => ?_) ?_
                · skip
                  go_simp
                  refine hK _ _ ?_
                  clear hK K
                  refine wpAny_ready (rs := [13]) (by kernel_rfl) (by simp) ?_
                  refine AllReady.cons rfl (fun K hK => ?_) ?_
                  · skip
                    go_simp
                    refine hK _ _ ?_
                    clear hK K
                    refine wpAny_done (by kernel_rfl) ?_ _
                    go_wp2_with fail
                    refine bodyPost_ret (results_tmp rfl _ _ _) rfl ?_
                    exact ⟨rfl, hF9⟩
                  exact AllReady.nil
                exact AllReady.nil
              exact AllReady.nil
            exact AllReady.nil
          exact AllReady.nil
        refine AllReady.cons rfl (fun K hK => ?_) ?_
        · skip
          go_simp
          refine hK _ _ ?_
          clear hK K
          refine wpAny_ready (rs := [6]) (by kernel_rfl) (by simp) ?_
          refine AllReady.cons rfl (fun K hK => ?_) ?_
          · skip
            go_simp
            refine hK _ _ ?_
            clear hK K
            refine wpAny_ready (rs := [9]) (by kernel_rfl) (by simp) ?_
            refine AllReady.cons rfl (fun K hK => ?_) ?_
            · skip
              go_simp
              refine Calls.mono (HM.out _ (strPt _ 5 _) (strPt _ 5 _) (strPt_ok _ _ _ hs1) (nats_append _ _) ((strPt_ok _ _ _ hb2).fr (fr_bytes _ _ _)) rfl (((hF.trans0 ((Fr.refl _ _).drew)).trans0 (fr_bytes _ _ _)).trans0 (fr_bytes _ _ _)) (q2 _ _ (q2 _ _ (q3 _ hab)))) ?_
              rintro e w9 ⟨rfl, hF9, l9⟩
              show _
              go_simp
              refine hK _ _ ?_
              clear hK K
              refine wpAny_ready (rs := [11]) (by kernel_rfl) (by simp) ?_
              refine AllReady.cons rfl (fun K hK => ?_) ?_
              · skip
                go_simp
                refine hK _ _ ?_
                clear hK K
                refine wpAny_ready (rs := [12]) (by kernel_rfl) (by simp) ?_
                refine AllReady.cons rfl (fun K hK => ?_) ?_
                · skip
                  go_simp
                  refine hK _ _ ?_
                  clear hK K
                  refine wpAny_ready (rs := [13]) (by kernel_rfl) (by simp) ?_
                  refine AllReady.cons rfl (fun K hK => ?_) ?_
                  · skip
                    go_simp
                    refine hK _ _ ?_
                    clear hK K
                    refine wpAny_done (by kernel_rfl) ?_ _
                    go_wp2_with fail
                    refine bodyPost_ret (results_tmp rfl _ _ _) rfl ?_
                    exact ⟨rfl, hF9⟩
                  exact AllReady.nil
                exact AllReady.nil
              exact AllReady.nil
            exact AllReady.nil
          exact AllReady.nil
        exact AllReady.nil
      exact AllReady.nil
end Go.Proofs.Ytanegflohbgkdaa
