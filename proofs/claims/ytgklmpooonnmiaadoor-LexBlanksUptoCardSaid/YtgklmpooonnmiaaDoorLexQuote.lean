/-
  Lemmas and contracts that the proofs over this seat use (part LexQuote); no statement of the seat is claimed in this text, and nothing is assumed in it.
-/
import Derived.Test.YtgklmpooonnmiaaDoorUtfCheck
set_option linter.unusedVariables false
set_option linter.unusedSimpArgs false
namespace Go.Proofs.YtgklmpooonnmiaaDoor
open Go.RowKit
/-- a byte of a text. -/
def bn (s : ByteArray) (i : Nat) : Nat := (nats s).getD i 0
theorem bn_lt (s : ByteArray) (i : Nat) : bn s i < 256 := by
  unfold bn
  by_cases h : i < (nats s).length
  · rw [List.getD_eq_getElem?_getD, List.getElem?_eq_getElem h]; exact nats_lt s _ (List.getElem_mem _)
  · rw [List.getD_eq_getElem?_getD, List.getElem?_eq_none (by omega)]; exact (by decide : 0 < 256)
theorem bn_at (s : ByteArray) (i : Nat) : ∀ h : i < s.size, (s[i]'h).toNat = bn s i := fun h => by
  have h1 := bn_lt s i
  unfold bn at h1 ⊢
  rw [show s[i]'h = UInt8.ofNat ((nats s).getD i 0) from nats_at s i h, UInt8.toNat_ofNat', Nat.mod_eq_of_lt h1]
theorem bn_cons (s : ByteArray) (k : Nat) (h : k < s.size) : (nats s).take (k + 1) = (nats s).take k ++ [bn s k] := by
  have h2 : k < (nats s).length := by rw [nats_length]; exact h
  rw [List.take_succ_eq_append_getElem h2]
  unfold bn
  rw [List.getD_eq_getElem?_getD, List.getElem?_eq_getElem h2]; rfl
theorem bn_data (s : ByteArray) (i : Nat) : (s.data.toList.getD i 0).toNat = bn s i := by
  simp only [bn, nats, List.getD_eq_getElem?_getD, List.getElem?_map]
  cases s.data.toList[i]? <;> rfl
/-- a text's bytes, turned into a slice. -/
theorem rb_bytes (w : World) (s : ByteArray) (h : s.size ≤ maxLen) : RB (Lib.bytesWorld w 5 s) (some ⟨w.heap.size, 0, none⟩) s.size (bn s) :=
  ⟨fun _ => ⟨w.heap.size, 0, rfl, fun i hi => by rw [Nat.zero_add, Lib.bytesWorld_cell w 5 s i hi, ← bn_data s i]⟩, bn_lt s, h⟩
namespace Lex
def esc (l : List Nat) : List Nat := l.flatMap fun c => if c = 34 ∨ c = 92 then [92, c] else [c]
theorem esc_snoc (l : List Nat) (c : Nat) : esc (l ++ [c]) = esc l ++ if c = 34 ∨ c = 92 then [92, c] else [c] := by simp [esc]
theorem esc_length (l : List Nat) : (esc l).length ≤ 2 * l.length := by
  induction l with
  | nil => simp [esc]
  | cons c l ih =>
    have e : esc (c :: l) = (if c = 34 ∨ c = 92 then [92, c] else [c]) ++ esc l := by simp [esc]
    rw [e, List.length_append]
    simp only [List.length_cons]
    split <;> simp <;> omega
/-- a text within quotes. -/
def quote (s : ByteArray) : Option (List Nat) :=
  if Utf.bad (bn s) s.size 0 = none ∧ (nats s).all (fun c => 32 ≤ c) = true then some (34 :: (esc (nats s) ++ [34])) else none
end Lex
set_option maxHeartbeats 4000000 in
set_option maxRecDepth 100000 in
theorem lex_quote (w : World) (s : ByteArray) (hs : s.size ≤ 100000000) (hL : Least w) :
    Calls Tryd.prog 12 #[.string s] w fun e w' => e = .returned (.tuple #[.string (ba ((Lex.quote s).getD [])), .bool (Lex.quote s).isSome]) ∧ Fr [] w w' := by
  have hs2 : s.size ≤ maxLen := by unfold maxLen; omega
  have cv := conv w s
  have HCH := Lib.hid (utf_check (Lib.bytesWorld w 5 s) _ s.size (grownCap w s.size 0 5) _ (rb_bytes w s hs2) (grownCap_ge _ _ _) (grownCap_le _ _ _ hs2) (hL.fr (fr_bytes w _ s) (by simp)))
  have HFB := Lib.hid (fr_bytes w 5 s)
  obtain ⟨b, hb⟩ : ∃ b, Hid (Utf.bad (bn s) s.size 0 = b) := ⟨_, rfl⟩
  clear hs2
  go_enter Tryd.func12, Tryd.ntmps12
  go_wp2_with fail
  refine HCH.out.mono ?_
  rintro e w1 ⟨v, rfl, hv, hF⟩
  rw [hb.out] at hv
  have HF1 := Lib.hid (HFB.out.trans0 hF)
  clear hF HCH HFB cv
  cases b with
  | some p =>
    obtain ⟨_, _, rfl, _⟩ := hv
    have HQ : Hid (Lex.quote s = none) := by show _ = _; unfold Lex.quote; rw [hb.out]; simp
    clear hb
    go_wp2_with fail
    go_ret2
    rw [HQ.out]
    exact ⟨rfl, HF1.out⟩
  | none =>
    obtain rfl : v = .nilIface := hv
    go_wp2_with fail
    have hle := HF1.out.size
    have hown0 : (w1.alloc (.cells #[.int .u8 34] 5)).ownsRow w.heap.size 5 1 (.slice (some ⟨w1.heap.size, 0, none⟩) 1 1) (1 + (Lex.esc ((nats s).take 0)).length) (u8s (34 :: Lex.esc ((nats s).take 0))) :=
      ⟨rfl, Or.inr ⟨_, 1, _, rfl, hle, heap_alloc_last _ _, by simp [Lex.esc], by decide, rfl, rfl⟩⟩
    refine wp_fresh (fun W => W.ownsRow w.heap.size 5 1 (.slice (some ⟨w1.heap.size, 0, none⟩) 1 1) (1 + (Lex.esc ((nats s).take 0)).length) (u8s (34 :: Lex.esc ((nats s).take 0))) ∧ Fr [] w W) ⟨hown0, HF1.out.alloc _⟩ ?_
    rintro W0 ⟨ho0, hF0⟩
    have HO0 := Lib.hid ho0
    have HF0 := Lib.hid hF0
    clear hown0 ho0 hF0 HF1 hle hL
    go_loopw [4, 14] (fun v t W => ∃ k : Nat, k ≤ s.size ∧ t = .int .i64 k ∧ W.ownsRow w.heap.size 5 1 v (1 + (Lex.esc ((nats s).take k)).length) (u8s (34 :: Lex.esc ((nats s).take k))) ∧ Fr [] w W ∧ ((nats s).take k).all (fun c => 32 ≤ c) = true) (fun _ t _ => s.size - (intOf t).toNat)
    case atStart => exact ⟨0, by omega, rfl, HO0.out, HF0.out, rfl⟩
    case round =>
      clear HO0 HF0
      obtain ⟨k, hk, rfl, ho, hF, hall⟩ := hrel
      have HO := Lib.hid ho
      have HF := Lib.hid hF
      have HA := Lib.hid hall
      clear ho hF hall
      have HEL := Lib.hid (Lex.esc_length ((nats s).take k))
      have HTL : Hid (((nats s).take k).length ≤ 100000000) := by show _ ≤ _; rw [List.length_take, nats_length]; omega
      by_cases hlt : k < s.size
      · have hlt' : (k : Int) < (s.size : Int) := by omega
        have hbv := Lib.hid (bn_at s k)
        have hbl := bn_lt s k
        have HC := Lib.hid (bn_cons s k hlt)
        obtain ⟨c, hc⟩ : ∃ c, Hid (bn s k = c) := ⟨_, rfl⟩
        rw [hc.out] at hbv hbl HC
        have hz : (s[k]'hlt).toNat = c := hbv.out hlt
        clear hbv
        by_cases h32 : c < 32
        · have h32' : (c : Int) < 32 := by omega
          have HQ : Hid (Lex.quote s = none) := by
            show _ = _
            unfold Lex.quote
            rw [if_neg]
            rintro ⟨_, h⟩
            have h2 := List.all_eq_true.1 h c (by
              have hm : c ∈ (nats s).take (k + 1) := by rw [HC.out]; simp
              exact List.mem_of_mem_take hm)
            simp at h2; omega
          clear hc hb
          go_wp2_with fail
          go_ret2
          rw [HQ.out]
          exact ⟨rfl, HF.out⟩
        · have h32' : ¬ (c : Int) < 32 := by omega
          have HA2 : Hid (((nats s).take (k + 1)).all (fun c => 32 ≤ c) = true) := by show _ = _; rw [HC.out, List.all_append, HA.out]; simp; omega
          by_cases hq : c = 34 ∨ c = 92
          · have HE : Hid (Lex.esc ((nats s).take (k + 1)) = Lex.esc ((nats s).take k) ++ [92, c]) := by show _ = _; rw [HC.out, Lex.esc_snoc, if_pos hq]
            have hlen : 1 + (Lex.esc ((nats s).take k)).length < 300000000 := by have := HEL.out; have := HTL.out; omega
            have ce1 : ((c : Int) == 34) = true ∨ ((c : Int) == 34) = false ∧ ((c : Int) == 92) = true := by
              by_cases e : c = 34
              · exact Or.inl (by rw [e]; rfl)
              · refine Or.inr ⟨by simp; omega, by simp; omega⟩
            have HLEN := Lib.hid hlen
            clear hlen
            rcases ce1 with ce1 | ⟨ce1, ce2⟩
            all_goals
              go_wp2_with (at_builtin; refine app8 rfl (.tmp 28) (.tmp 29) rfl w _ _ _ 92 rfl rfl HO.out HF.out (by have := HLEN.out; omega) ?_)
              intro v1 w2 ho1 hf1
              have HO1 := Lib.hid ho1
              have HF1 := Lib.hid hf1
              clear ho1 hf1
              go_wp2_with (at_builtin; refine app8 rfl (.tmp 31) (.tmp 33) rfl w _ _ _ c rfl rfl HO1.out HF1.out (by have := HLEN.out; omega) ?_)
              intro v2 w3 ho2 hf2
              rw [← HE.out, show 1 + (Lex.esc ((nats s).take k)).length + 1 + 1 = 1 + (Lex.esc ((nats s).take (k + 1))).length by rw [HE.out]; simp; omega] at ho2
              have HO2 := Lib.hid ho2
              have HF2 := Lib.hid hf2
              clear ho2 hf2
              go_wp2_with fail
              go_roundw
              case rel => first | exact ⟨k + 1, by omega, by go_num, HO2.out, HF2.out, HA2.out⟩ | ((repeat apply Exists.intro); exact ⟨⟨k + 1, by omega, by go_num, HO2.out, HF2.out, HA2.out⟩, rfl⟩)
              case measure => simp [intOf]; omega
          · have HE : Hid (Lex.esc ((nats s).take (k + 1)) = Lex.esc ((nats s).take k) ++ [c]) := by show _ = _; rw [HC.out, Lex.esc_snoc, if_neg hq]
            have hlen : 1 + (Lex.esc ((nats s).take k)).length < 300000000 := by have := HEL.out; have := HTL.out; omega
            have ce1 : ((c : Int) == 34) = false := by simp; omega
            have ce2 : ((c : Int) == 92) = false := by simp; omega
            have HLEN := Lib.hid hlen
            clear hlen hq
            go_wp2_with (at_builtin; refine app8 rfl (.tmp 31) (.tmp 33) rfl w _ _ _ c rfl rfl HO.out HF.out (by have := HLEN.out; omega) ?_)
            intro v2 w3 ho2 hf2
            rw [← HE.out, show 1 + (Lex.esc ((nats s).take k)).length + 1 = 1 + (Lex.esc ((nats s).take (k + 1))).length by rw [HE.out]; simp; omega] at ho2
            have HO2 := Lib.hid ho2
            have HF2 := Lib.hid hf2
            clear ho2 hf2
            go_wp2_with fail
            go_roundw
            case rel => first | exact ⟨k + 1, by omega, by go_num, HO2.out, HF2.out, HA2.out⟩ | ((repeat apply Exists.intro); exact ⟨⟨k + 1, by omega, by go_num, HO2.out, HF2.out, HA2.out⟩, rfl⟩)
            case measure => simp [intOf]; omega
      · obtain rfl : k = s.size := by omega
        have ht : (nats s).take s.size = nats s := List.take_of_length_le (by rw [nats_length]; exact Nat.le_refl _)
        rw [ht] at HO HA HEL HTL
        have HQ : Hid (Lex.quote s = some (34 :: (Lex.esc (nats s) ++ [34]))) := by
          show _ = _
          unfold Lex.quote
          rw [if_pos ⟨hb.out, HA.out⟩]
        clear ht hb
        go_wp2_with (at_builtin; refine app8 rfl (.tmp 36) (.tmp 37) rfl w _ _ _ 34 rfl rfl HO.out HF.out (by have := HEL.out; have := HTL.out; omega) ?_)
        intro v2 w3 ho2 hf2
        have cv2 := owns_str ho2
        have HF2 := Lib.hid hf2
        clear ho2 hf2
        go_wp2_with fail
        go_ret2
        rw [HQ.out]
        exact ⟨rfl, HF2.out⟩
end Go.Proofs.YtgklmpooonnmiaaDoor
