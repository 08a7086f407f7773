/-
  Lemmas and contracts that the proofs over this seat use (part ShaCutsLaw); no statement of the seat is claimed in this text, and nothing is assumed in it.
-/
import Derived.Test.YtanegflohbgkdaaShaCutsLib
import Derived.Deep.LoopGhost
set_option linter.unusedVariables false
set_option linter.unusedSimpArgs false
namespace Go.Proofs.Ytanegflohbgkdaa
open Go.RowKit
set_option maxHeartbeats 8000000 in
set_option maxRecDepth 100000 in
theorem shaCuts_walk (A : Option Addr) (c : Nat) (l : List ByteArray) (hlc : l.length ≤ c) (hcm : c ≤ maxLen) (w : World) (hT : Txts w A l) :
    Calls Try.prog 5 #[.slice A l.length c] w fun e w' => e = .returned (.bool true) ∧ Fr [] w w' := by
  have cv := conv2
  unfold maxLen at hcm
  by_cases h1 : 100 < l.length
  · go_enter Try.func5, Try.ntmps5
    go_wp2_with fail
    refine (alive w).mono ?_
    rintro e w1 ⟨rfl, hF⟩
    show _
    have h1' : (100 : Int) < (l.length : Int) := by omega
    go_wp2_with fail
    refine bodyPost_ret (results_tmp rfl _ _ _) rfl ?_
    exact ⟨rfl, hF⟩
  have zH := (zero_of_info (P := Try.prog) (t := 38) (v := .agg (hc (zs 8) (zs 64) 0 false).toArray) (n := 74) (by kernel_rfl)).1
  have HT := Lib.hid hT
  clear hT
  go_enter Try.func5, Try.ntmps5
  go_wp2_with fail
  refine (alive w).mono ?_
  rintro e w1 ⟨rfl, hF⟩
  show _
  have h1' : ¬ (100 : Int) < (l.length : Int) := by omega
  go_wp2_with fail
  refine wp_fresh (fun W => W.heap[w1.heap.size]? = some (.cells (hc (zs 8) (zs 64) 0 false).toArray 38 (0, 0)) ∧ Fr [] w W) ⟨heap_alloc_last _ _, hF.alloc _⟩ ?_
  obtain ⟨hb, hhb, hhb2⟩ : ∃ hb, hb = w1.heap.size ∧ w.heap.size ≤ hb := ⟨_, rfl, hF.size⟩
  rw [← hhb]
  clear hhb hF zH
  rintro W ⟨hcb, hF⟩
  have HI0 : Hid (CutInv w W hb 0 (.slice none 0 0) (hc (zs 8) (zs 64) 0 false) [] []) := ⟨hrep_zero, hcb, ownsRow_nil _ _ _ _, (fun x h => by cases h), hF⟩
  clear hcb hF
  go_loopg [5, 6, 7] l.length (fun q u v t W => ∃ (k : Nat) (cs : List Value) (O : ByteArray) (ps : List Pt) (sp : Option Addr) (sn sc : Nat), k ≤ l.length ∧ q = l.length - k ∧ u = .string O ∧ v = .slice sp sn sc ∧ t = .int .i64 k ∧ Hid (cat ps = nats O) ∧ O.size ≤ 3000 * k ∧ Hid (CutInv w W hb k (.slice sp sn sc) cs (nats O) ps))
  case atStart => exact ⟨0, _, _, [], none, 0, 0, by omega, by omega, rfl, rfl, rfl, rfl, Nat.le_refl _, HI0⟩
  case round =>
    clear HI0
    obtain ⟨k, cs, O, ps, sp, sn, sc, hk, hq, rfl, rfl, rfl, HC, hO, HI⟩ := hrel
    have HQ := Lib.hid hq
    clear hq
    by_cases hlt : k < l.length
    · have hlt' : (k : Int) < (l.length : Int) := by omega
      have hk0 : (0 : Int) ≤ (k : Int) := by omega
      obtain ⟨s, hs⟩ : ∃ s, l[k]? = some s := ⟨_, List.getElem?_eq_getElem hlt⟩
      obtain ⟨ad, rfl, hc0⟩ := (HT.out.fr HI.out.fr) k s hs
      have HSK := Lib.hid hs
      clear hs
      by_cases hbig : 3000 < s.size
      · have hbig' : (3000 : Int) < (s.size : Int) := by omega
        go_wp2_with fail
        refine bodyPost_ret (results_tmp rfl _ _ _) rfl ?_
        exact ⟨rfl, HI.out.fr⟩
      · have hbig' : ¬ (3000 : Int) < (s.size : Int) := by omega
        have hsm : s.size ≤ maxLen := by unfold maxLen; omega
        have HSN := Lib.hid (nats_length s)
        have HON := Lib.hid (nats_length O)
        have HIb := Lib.hid (HI.out.fr0 (fr_bytes wr 5 s))
        have HPB := Lib.hid (pb_new wr s hsm)
        have HW := Lib.hid (write (Lib.bytesWorld wr 5 s) hb cs (nats O) (nats s) (strPt wr 5 s).p (strPt wr 5 s).len (strPt wr 5 s).cap HI.out.rep HIb.out.cell HPB.out.ok.sl (nats_lt s) (fun a ha => by
          obtain ⟨cur, fr, hr⟩ := HPB.out.row a ha
          intro he; rw [he, HIb.out.cell] at hr; revert hr; simp) HPB.out.ok.capb (by rw [HSN.out, HON.out]; omega))
        go_wp2_with fail
        refine HW.out.mono ?_
        rintro e w3 ⟨rfl, hF3, cs2, hR2, hcb2⟩
        show _
        have HC3 := Lib.hid (show w3.cell? (ad.add k) = some (.string s) from by
          obtain ⟨ad2, had2, h2⟩ := HT.out.fr (HIb.out.fr.trans1 hF3 (.inr hhb2)) k s HSK.out
          cases had2; exact h2)
        have HI3 := Lib.hid (HIb.out.wrote hF3 hhb2 hR2 hcb2)
        clear HW HPB hF3 hR2 hcb2 hc0 HIb
        have hc3 := HC3.out
        go_wp2_with fail
        refine ((write_nil (Lib.bytesWorld w3 5 s) (strPt w3 5 s).v).mono (fun e w' h => (⟨h.1, h.2 ▸ fr_bytes w3 _ s⟩ : e = .returned (.tuple #[]) ∧ Fr [] w3 w'))).mono ?_
        rintro e w4 ⟨rfl, hF4⟩
        show _
        have hc4 := hF4.cells hc3
        have HI4 := Lib.hid (HI3.out.fr0 hF4)
        have HI4b := Lib.hid (HI4.out.fr0 (fr_bytes w4 5 s))
        clear hF4 HI3 hc3 HC3
        go_wp2_with (at_builtin; refine appS rfl (.tmp 44) (.tmp 50) rfl w (.slice sp sn sc) k (ps.map Pt.v) (strPt w4 5 s).v rfl rfl (by first | rfl | simp [Lib.bytesWorld_size]) HI4b.out.own HI4b.out.fr (by omega) ?_)
        intro g5 c5 w5 ho5 hf5 hg5
        have HI5 := Lib.hid (HI4b.out.appended (strPt w4 5 s) (pb_new w4 s hsm) hg5 hf5 ho5)
        have HPU : Hid (cat (ps ++ [strPt w4 5 s]) = nats (O ++ s) ∧ (O ++ s).size ≤ 3000 * (k + 1)) := by
          refine ⟨by rw [cat_snoc, nats_append, HC.out]; rfl, by rw [ByteArray.size_append]; omega⟩
        rw [← nats_append] at HI5
        generalize ps ++ [strPt w4 5 s] = ps5 at HI5 HPU
        have hOs : (O ++ s).size ≤ 303000 := by have := HPU.out.2; omega
        have HOS := Lib.hid (nats_length (O ++ s))
        obtain ⟨D, hD⟩ : ∃ D, Hid (Sha.sum (nats (O ++ s)) = D) := ⟨_, rfl⟩
        have HS : Hid (∀ X, Fr [] w5 X → Calls Try.prog 15 #[.pointer (some ⟨hb, 0, none⟩)] X fun e w' => e = .returned (.agg (u8s D).toArray) ∧ Fr [] X w') := fun X hX => by
          have := hsum X (some hb) cs2 (nats (O ++ s)) HI5.out.rep (fun b hb' => by cases hb'; exact (HI5.out.fr0 hX).cell) (fun h => by cases h) (by rw [HOS.out]; omega)
          rwa [hD.out] at this
        have HSS : Hid (∀ X Y, Fr [] (Lib.bytesWorld X 5 (O ++ s)) Y → Calls Try.prog 10 #[.slice (strPt X 5 (O ++ s)).p (strPt X 5 (O ++ s)).len (strPt X 5 (O ++ s)).cap] Y fun e w' => e = .returned (.agg (u8s D).toArray) ∧ Fr [] Y w') := fun X Y hXY => by
          have := ssum Y (strPt X 5 (O ++ s)) ((strPt_ok X 5 (O ++ s) (by unfold maxLen; omega)).fr hXY) (by show (nats (O ++ s)).length ≤ _; rw [HOS.out]; omega)
          rwa [show Sha.sum (strPt X 5 (O ++ s)).d = D from hD.out] at this
        have hne := neq32 D D (by rw [← hD.out]; exact sum_length _) (by rw [← hD.out]; exact sum_length _) (by rw [← hD.out]; exact sum_lt _) (by rw [← hD.out]; exact sum_lt _)
        rw [show (D == D) = true from beq_self_eq_true D] at hne
        simp only [Bool.not_true] at hne
        clear ho5 hf5 hg5 hc4 HI4 HI4b HI hsm hbig hbig' HSN HON hD HOS hOs
        go_wp2_with fail
        refine (HS.out _ (by (repeat (first | assumption | exact Fr.refl _ _ | refine Fr.trans0 ?_ f0 | refine Fr.trans0 ?_ f1 | refine Fr.trans0 ?_ f2 | refine Fr.trans0 ?_ f3 | refine Fr.trans0 ?_ f4 | refine Fr.trans0 ?_ f5 | refine Fr.trans0 ?_ (fr_bytes _ _ _) | refine Fr.drew ?_)))).mono ?_
        rintro e xf0 ⟨rfl, f0⟩
        show _
        go_wp2_with fail
        refine (HSS.out _ _ (by (repeat (first | assumption | exact Fr.refl _ _ | refine Fr.trans0 ?_ f0 | refine Fr.trans0 ?_ f1 | refine Fr.trans0 ?_ f2 | refine Fr.trans0 ?_ f3 | refine Fr.trans0 ?_ f4 | refine Fr.trans0 ?_ f5 | refine Fr.trans0 ?_ (fr_bytes _ _ _) | refine Fr.drew ?_)))).mono ?_
        rintro e xf1 ⟨rfl, f1⟩
        show _
        go_wp2_with fail
        go_roundg (l.length - (k + 1))
        case measure => have := HQ.out; omega
        case rel => first | exact ⟨k + 1, cs2, O ++ s, _, _, _, _, by omega, rfl, rfl, rfl, by go_num, HPU.out.1, HPU.out.2, HI5.out.fr0 (by (repeat (first | assumption | exact Fr.refl _ _ | refine Fr.trans0 ?_ f0 | refine Fr.trans0 ?_ f1 | refine Fr.trans0 ?_ f2 | refine Fr.trans0 ?_ f3 | refine Fr.trans0 ?_ f4 | refine Fr.trans0 ?_ f5 | refine Fr.trans0 ?_ (fr_bytes _ _ _) | refine Fr.drew ?_)))⟩ | ((repeat apply Exists.intro); exact ⟨⟨k + 1, cs2, O ++ s, _, _, _, _, by omega, rfl, rfl, rfl, by go_num, HPU.out.1, HPU.out.2, HI5.out.fr0 (by (repeat (first | assumption | exact Fr.refl _ _ | refine Fr.trans0 ?_ f0 | refine Fr.trans0 ?_ f1 | refine Fr.trans0 ?_ f2 | refine Fr.trans0 ?_ f3 | refine Fr.trans0 ?_ f4 | refine Fr.trans0 ?_ f5 | refine Fr.trans0 ?_ (fr_bytes _ _ _) | refine Fr.drew ?_)))⟩, rfl⟩)

    · obtain rfl : k = l.length := by omega
      have HON := Lib.hid (nats_length O)
      obtain ⟨D, hD⟩ : ∃ D, Hid (Sha.sum (nats O) = D) := ⟨_, rfl⟩
      obtain ⟨E, hE⟩ : ∃ E, Hid (Sha.sum [] = E) := ⟨_, rfl⟩
      have HS : Hid (∀ X, Fr [] wr X → Calls Try.prog 15 #[.pointer (some ⟨hb, 0, none⟩)] X fun e w' => e = .returned (.agg (u8s D).toArray) ∧ Fr [] X w') := fun X hX => by
        have := hsum X (some hb) cs (nats O) HI.out.rep (fun b hb' => by cases hb'; exact (HI.out.fr0 hX).cell) (fun h => by cases h) (by rw [HON.out]; omega)
        rwa [hD.out] at this
      have HSS : Hid (∀ X Y, Fr [] (Lib.bytesWorld X 5 O) Y → Calls Try.prog 10 #[.slice (strPt X 5 O).p (strPt X 5 O).len (strPt X 5 O).cap] Y fun e w' => e = .returned (.agg (u8s D).toArray) ∧ Fr [] Y w') := fun X Y hXY => by
        have := ssum Y (strPt X 5 O) ((strPt_ok X 5 O (by unfold maxLen; omega)).fr hXY) (by show (nats O).length ≤ _; rw [HON.out]; omega)
        rwa [show Sha.sum (strPt X 5 O).d = D from hD.out] at this
      have HJ : Hid (∀ X, Fr [] wr X → Calls Try.prog 16 #[.slice sp sn sc] X fun e w' => e = .returned (.agg (u8s D).toArray) ∧ Fr [] X w') := fun X hX => by
        have := joinL (HI.out.fr0 hX) (by omega) (by rw [HC.out, HON.out]; omega)
        rwa [HC.out, hD.out] at this
      have HN : Hid (∀ X, Calls Try.prog 15 #[.pointer none] X fun e w' => e = .returned (.agg (u8s E).toArray) ∧ Fr [] X w') := fun X => by
        have := hsum X none _ [] hrep_zero (fun b hb' => by cases hb') (fun _ => rfl) (by simp)
        rwa [hE.out] at this
      have HNN : Hid (∀ X, Calls Try.prog 10 #[.slice none 0 0] X fun e w' => e = .returned (.agg (u8s E).toArray) ∧ Fr [] X w') := fun X => by
        have := ssum X ⟨none, 0, 0, []⟩ ⟨⟨rfl, Nat.le_refl _, fun h => absurd h (Nat.lt_irrefl 0)⟩, (fun a ha => by cases ha), (by decide : (0 : Nat) ≤ maxLen), (by decide : (0 : Nat) ≤ maxLen), fun y hy => by cases hy⟩ (by simp)
        rwa [show Sha.sum (Pt.mk none 0 0 []).d = E from hE.out] at this
      have hqD := eql32 D D (by rw [← hD.out]; exact sum_length _) (by rw [← hD.out]; exact sum_length _) (by rw [← hD.out]; exact sum_lt _) (by rw [← hD.out]; exact sum_lt _)
      rw [show (D == D) = true from beq_self_eq_true D] at hqD
      have hqE := eql32 E E (by rw [← hE.out]; exact sum_length _) (by rw [← hE.out]; exact sum_length _) (by rw [← hE.out]; exact sum_lt _) (by rw [← hE.out]; exact sum_lt _)
      rw [show (E == E) = true from beq_self_eq_true E] at hqE
      clear hD hE HON HC
      go_wp2_with fail
      refine (HS.out _ (by (repeat (first | assumption | exact Fr.refl _ _ | refine Fr.trans0 ?_ f0 | refine Fr.trans0 ?_ f1 | refine Fr.trans0 ?_ f2 | refine Fr.trans0 ?_ f3 | refine Fr.trans0 ?_ f4 | refine Fr.trans0 ?_ f5 | refine Fr.trans0 ?_ (fr_bytes _ _ _) | refine Fr.drew ?_)))).mono ?_
      rintro e xf0 ⟨rfl, f0⟩
      show _
      go_wp2_with fail
      refine (HSS.out _ _ (by (repeat (first | assumption | exact Fr.refl _ _ | refine Fr.trans0 ?_ f0 | refine Fr.trans0 ?_ f1 | refine Fr.trans0 ?_ f2 | refine Fr.trans0 ?_ f3 | refine Fr.trans0 ?_ f4 | refine Fr.trans0 ?_ f5 | refine Fr.trans0 ?_ (fr_bytes _ _ _) | refine Fr.drew ?_)))).mono ?_
      rintro e xf1 ⟨rfl, f1⟩
      show _
      go_wp2_with fail
      refine (HJ.out _ (by (repeat (first | assumption | exact Fr.refl _ _ | refine Fr.trans0 ?_ f0 | refine Fr.trans0 ?_ f1 | refine Fr.trans0 ?_ f2 | refine Fr.trans0 ?_ f3 | refine Fr.trans0 ?_ f4 | refine Fr.trans0 ?_ f5 | refine Fr.trans0 ?_ (fr_bytes _ _ _) | refine Fr.drew ?_)))).mono ?_
      rintro e xf2 ⟨rfl, f2⟩
      show _
      go_wp2_with fail
      refine (HS.out _ (by (repeat (first | assumption | exact Fr.refl _ _ | refine Fr.trans0 ?_ f0 | refine Fr.trans0 ?_ f1 | refine Fr.trans0 ?_ f2 | refine Fr.trans0 ?_ f3 | refine Fr.trans0 ?_ f4 | refine Fr.trans0 ?_ f5 | refine Fr.trans0 ?_ (fr_bytes _ _ _) | refine Fr.drew ?_)))).mono ?_
      rintro e xf3 ⟨rfl, f3⟩
      show _
      go_wp2_with fail
      refine (HN.out _).mono ?_
      rintro e xf4 ⟨rfl, f4⟩
      show _
      go_wp2_with fail
      refine (HNN.out _).mono ?_
      rintro e xf5 ⟨rfl, f5⟩
      show _
      go_wp2_with fail
      refine bodyPost_ret (results_tmp rfl _ _ _) rfl ?_
      exact ⟨rfl, HI.out.fr.trans0 (by (repeat (first | assumption | exact Fr.refl _ _ | refine Fr.trans0 ?_ f0 | refine Fr.trans0 ?_ f1 | refine Fr.trans0 ?_ f2 | refine Fr.trans0 ?_ f3 | refine Fr.trans0 ?_ f4 | refine Fr.trans0 ?_ f5 | refine Fr.trans0 ?_ (fr_bytes _ _ _) | refine Fr.drew ?_)))⟩
end Go.Proofs.Ytanegflohbgkdaa
