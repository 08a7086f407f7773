/-
  Lemmas and contracts that the proofs over this seat use (part ShaJoin); no statement of the seat is claimed in this text, and nothing is assumed in it.
-/
import Derived.Test.YtanegflohbgkdaaShaSum
set_option linter.unusedVariables false
set_option linter.unusedSimpArgs false
namespace Go.Proofs.Ytanegflohbgkdaa
open Go.RowKit
/-- a slice of bytes. -/
structure Pt where
  p : Option Addr
  len : Nat
  cap : Nat
  d : List Nat
def Pt.v (x : Pt) : Value := .slice x.p x.len x.cap
structure Pt.Ok (w : World) (x : Pt) : Prop where
  sl : SLB w x.p x.len x.cap x.d
  old : ∀ a, x.p = some a → a.block < w.heap.size
  capb : x.cap ≤ maxLen
  lenb : x.len ≤ maxLen
  byt : ∀ y ∈ x.d, y < 256
theorem Pt.Ok.fr {w w' : World} {x : Pt} (h : x.Ok w) (hf : Fr [] w w') : x.Ok w' :=
  ⟨h.sl.fr hf (fun _ _ => by simp), fun a ha => by have := h.old a ha; have := hf.size; omega, h.capb, h.lenb, h.byt⟩
def cat (ps : List Pt) : List Nat := ps.flatMap Pt.d
theorem cat_succ (ps : List Pt) (k : Nat) (x : Pt) (hx : ps[k]? = some x) : cat (ps.take (k + 1)) = cat (ps.take k) ++ x.d := by
  obtain ⟨hk, rfl⟩ := List.getElem?_eq_some_iff.1 hx
  unfold cat
  rw [List.take_succ_eq_append_getElem hk, List.flatMap_append]
  simp only [List.flatMap_cons, List.flatMap_nil, List.append_nil]
theorem cat_le (ps : List Pt) (k : Nat) : (cat (ps.take k)).length ≤ (cat ps).length := by
  have : (cat ps).length = (cat (ps.take k)).length + (cat (ps.drop k)).length := by
    rw [← List.length_append, ← (show cat (ps.take k ++ ps.drop k) = cat (ps.take k) ++ cat (ps.drop k) from List.flatMap_append), List.take_append_drop]
  omega
set_option maxHeartbeats 4000000 in
set_option maxRecDepth 100000 in
theorem join (w : World) (pv : Option Addr) (n cap : Nat) (ps : List Pt) (hn : n = ps.length) (hn0 : n ≤ 1000000)
    (hpos : 0 < n → ∃ q o, pv = some ⟨q, o, none⟩ ∧ q < w.heap.size ∧ ∀ (i : Nat) (x : Pt), ps[i]? = some x → w.cell? ⟨q, o + i, none⟩ = some x.v)
    (hok : ∀ x ∈ ps, x.Ok w) (hN : (cat ps).length ≤ 900000000) :
    Calls Try.prog 16 #[.slice pv n cap] w fun e w' => e = .returned (.agg (u8s (Sha.sum (cat ps))).toArray) ∧ Fr [] w w' := by
  have z38 := (zero_of_info (P := Try.prog) (t := 38) (v := .agg (hc (zs 8) (zs 64) 0 false).toArray) (n := 74) (by kernel_rfl)).1
  have HN := Lib.hid hn
  clear hn
  go_enter Try.func16, Try.ntmps16
  go_wp2_with fail
  refine wp_fresh (fun W => W.heap[w.heap.size + 1]? = some (.cells (hc (zs 8) (zs 64) 0 false).toArray 38 (0, 0)) ∧ W.heap[w.heap.size]? = some (.cells (u8s (zs 32)).toArray 24 (0, 0)) ∧ Fr [] w W) ⟨heap_alloc2_new _ _ _, heap_alloc2_old _ _ _, ((Fr.refl _ _).alloc _).alloc _⟩ ?_
  rintro W ⟨hcb, hrb, hF⟩
  obtain ⟨rb, hrb0, hrb1⟩ : ∃ rb, rb = w.heap.size ∧ w.heap.size ≤ rb := ⟨_, rfl, Nat.le_refl _⟩
  obtain ⟨cb, hcb0, hcb1⟩ : ∃ cb, cb = w.heap.size + 1 ∧ w.heap.size ≤ cb := ⟨_, rfl, by omega⟩
  have hrc : rb < cb := by omega
  rw [← hcb0] at hcb ⊢
  rw [← hrb0] at hrb ⊢
  clear hrb0 hcb0 z38
  go_loopw [5, 8] (fun _ t W => ∃ (k : Nat) (cs : List Value), k ≤ n ∧ t = .int .i64 k ∧ HRep cs (cat (ps.take k)) ∧ W.heap[cb]? = some (.cells cs.toArray 38 (0, 0)) ∧ W.heap[rb]? = some (.cells (u8s (zs 32)).toArray 24 (0, 0)) ∧ Fr [] w W) (fun _ t _ => n - (intOf t).toNat)
  case atStart => exact ⟨0, _, by omega, rfl, hrep_zero, hcb, hrb, hF⟩
  case round =>
    clear hcb hrb hF
    obtain ⟨k, cs, hk, rfl, hR, hcb, hrb, hF⟩ := hrel
    by_cases hlt : k < n
    · obtain ⟨q, o, rfl, hq, hcell⟩ := hpos (by omega)
      obtain ⟨x, hx⟩ : ∃ x, ps[k]? = some x := ⟨ps[k]'(by have := HN.out; omega), by simp⟩
      have hc := (hF.cell (p := ⟨q, o + k, none⟩) hq (by simp)).trans (hcell k x hx)
      have hkx := hok x (List.mem_of_getElem? hx)
      have hcat := cat_succ ps k x hx
      have hle := cat_le ps (k + 1)
      rw [hcat, List.length_append] at hle
      rw [Pt.v] at hc
      have HX := Lib.hid hx
      have HCAT := Lib.hid hcat
      clear hcell hx hcat
      go_wp2_with fail
      refine (write wr cb cs _ x.d x.p x.len x.cap hR hcb (hkx.fr hF).sl hkx.byt (fun a ha => by have := hkx.old a ha; omega) hkx.capb (by omega)).mono ?_
      rintro e w3 ⟨rfl, hF3, cs2, hR2, hcb2⟩
      have hrb3 := hF3.row hrb (by simp; omega)
      have hF4 := hF.trans1 hF3 (.inr hcb1)
      rw [← HCAT.out] at hR2
      clear hc hcb hrb hF hF3 hR
      go_wp2_with fail
      go_roundw
      case rel => first | exact ⟨k + 1, cs2, by omega, by go_num, hR2, hcb2, hrb3, hF4⟩ | ((repeat apply Exists.intro); exact ⟨⟨k + 1, cs2, by omega, by go_num, hR2, hcb2, hrb3, hF4⟩, rfl⟩)
      case measure => simp [intOf]; omega
    · obtain rfl : k = n := by omega
      rw [List.take_of_length_le (by have := HN.out; omega)] at hR
      go_wp2_with fail
      refine (hsum wr (some cb) cs (cat ps) hR (fun b hb => by cases hb; exact hcb) (fun h => by cases h) hN).mono ?_
      rintro e w3 ⟨rfl, hF3⟩
      have HRB := Lib.hid (hF3.row hrb (by simp))
      have hF4 := hF.trans0 hF3
      have hsl : (Sha.sum (cat ps)).length = 32 := by rw [Sha.sum, bytes_length, (st_ok _).1]
      have hi24 : (Try.prog.info? 24).map (·.size) = some (u8s (Sha.sum (cat ps))).length := by
        have : (Try.prog.info? 24).map (·.size) = some 32 := by kernel_rfl
        rw [this]; simp [hsl]
      clear hcb hrb hF hF3 hR hN hok hpos
      generalize hS : Sha.sum (cat ps) = S at *
      have HSL := Lib.hid hsl
      have HS := Lib.hid hS
      clear hsl hS
      go_wp2_with (refine wpList_store_part rfl 24 (.tmp 2) (.tmp 15) rfl rb 0 _ _ (u8s S) HRB.out rfl rfl ?h1 hi24 (oc_u8s _) ?_; (case h1 => simp [HSL.out, zs]))
      refine bodyPost_ret (v := .agg (u8s S).toArray) (results_cell_row rfl _ _ rb 24 _ (0, 0) _ rfl ?_ Try.underlying24 rfl ?_) rfl ⟨by rw [HS.out], ?_⟩
      · refine (setRow_heap _ _ _ _ _ _ HRB.out).trans ?_
        congr 3
        simp [HSL.out, zs, u8s]
      · rw [hi24]; simp
      · exact hF4.setRow (.inr hrb1) _
end Go.Proofs.Ytanegflohbgkdaa
