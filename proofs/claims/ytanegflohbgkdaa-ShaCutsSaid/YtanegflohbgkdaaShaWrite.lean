/-
  Lemmas and contracts that the proofs over this seat use (part ShaWrite); no statement of the seat is claimed in this text, and nothing is assumed in it.
-/
import Derived.Test.YtanegflohbgkdaaShaBlock
import Derived.Laws.CopyOwn
set_option linter.unusedVariables false
set_option linter.unusedSimpArgs false
namespace Go.Proofs.Ytanegflohbgkdaa
open Go.RowKit
/-- a slice value reads as the bytes d. -/
structure SLB (w : World) (p : Option Addr) (len cap : Nat) (d : List Nat) : Prop where
  hlen : len = d.length
  hcap : len ≤ cap
  pos : 0 < len → ∃ q o, p = some ⟨q, o, none⟩ ∧ q < w.heap.size ∧ BA w q o d
theorem SLB.fr {bs : List Nat} {w w' : World} {p : Option Addr} {len cap : Nat} {d : List Nat} (h : SLB w p len cap d) (hf : Fr bs w w') (hn : ∀ a, p = some a → a.block ∉ bs) : SLB w' p len cap d :=
  ⟨h.hlen, h.hcap, fun h0 => by
    obtain ⟨q, o, rfl, hq, hb⟩ := h.pos h0
    exact ⟨q, o, rfl, by have := hf.size; omega, hb.fr hf hq (hn _ rfl)⟩⟩
/-- the address behind a cut from n on. -/
def cutAt (p : Option Addr) (cap n : Nat) : Option Addr := if cap = n then p else p.map (·.add n)
theorem cutAt_block {p : Option Addr} {cap n : Nat} {a : Addr} (h : cutAt p cap n = some a) : ∃ a', p = some a' ∧ a'.block = a.block := by
  unfold cutAt at h
  split at h
  · exact ⟨a, h, rfl⟩
  · cases p with
    | none => simp at h
    | some x => simp at h; refine ⟨x, rfl, ?_⟩; rw [← h]; unfold Addr.add; split <;> rfl
theorem SLB.drop {w : World} {p : Option Addr} {len cap : Nat} {d : List Nat} (h : SLB w p len cap d) (n : Nat) (hn : n ≤ len) : SLB w (cutAt p cap n) (len - n) (cap - n) (d.drop n) :=
  ⟨by rw [List.length_drop, h.hlen], by have := h.hcap; omega, fun h0 => by
    obtain ⟨q, o, rfl, hq, hb⟩ := h.pos (by omega)
    have hc := h.hcap
    refine ⟨q, o + n, ?_, hq, ?_⟩
    · unfold cutAt; rw [if_neg (by omega)]; simp [Addr.add_mid]
    · intro i hi
      have := hb (n + i) (by simp at hi; omega)
      rw [← Nat.add_assoc] at this
      rw [this]; simp [List.getD, List.getElem?_drop]⟩
theorem SLB.take {w : World} {p : Option Addr} {len cap : Nat} {d : List Nat} (h : SLB w p len cap d) (n : Nat) (hn : n ≤ len) : SLB w p n cap (d.take n) :=
  ⟨by rw [List.length_take]; have := h.hlen; omega, by have := h.hcap; omega, fun h0 => by
    obtain ⟨q, o, rfl, hq, hb⟩ := h.pos (by omega)
    refine ⟨q, o, rfl, hq, fun i hi => ?_⟩
    rw [hb i (by simp at hi; omega)]
    have : i < n := by simp at hi; omega
    simp [List.getD, List.getElem?_take, this]⟩
theorem run_cut {P : Program} {t : TypeId} {e : TypeId} (ht : P.underlying t = some (.slice e)) (he : (P.info? e).map (·.size) = some 1) (p : Option Addr) (len cap n : Nat) (h : n ≤ len) (w : World) :
    (Instr.slice t (.slice p len cap) (some (.int .i64 (n : Int))) none none).run P w = .ok (.slice (cutAt p cap n) (len - n) (cap - n)) w := by
  cases hq : P.info? e with
  | none => simp [hq] at he
  | some i =>
    have hs : i.size = 1 := by simpa [hq] using he
    simp [Instr.slice, run_underlying ht, Instr.sliceBounds, run_sliceBound, sizeOf, typeInfo, hq, hs, cutAt, h]
theorem run_cutA {P : Program} {t : TypeId} {n : Nat} {e : TypeId} (ht : P.underlying t = some (.array n e)) (he : (P.info? e).map (·.size) = some 1) (b o k : Nat) (h : k < n) (w : World) :
    (Instr.sliceAt t (.pointer (some ⟨b, o, none⟩)) (some (.int .i64 (k : Int))) none none).run P w = .ok (.slice (some ⟨b, o + k, none⟩) (n - k) (n - k)) w := by
  cases hq : P.info? e with
  | none => simp [hq] at he
  | some i =>
    have hs : i.size = 1 := by simpa [hq] using he
    simp [Instr.sliceAt, Instr.sureAddr, run_underlying ht, Instr.sliceBounds, run_sliceBound, sizeOf, typeInfo, hq, hs, Nat.le_of_lt h, Nat.ne_of_gt h, Addr.add_mid, slicedAt, sliced]
theorem run_cutA_all {P : Program} {t : TypeId} {n : Nat} {e : TypeId} (ht : P.underlying t = some (.array n e)) (he : (P.info? e).map (·.size) = some 1) (b o : Nat) (w : World) :
    (Instr.sliceAt t (.pointer (some ⟨b, o, none⟩)) none none none).run P w = .ok (.slice (some ⟨b, o, none⟩) n n) w := by
  cases hq : P.info? e with
  | none => simp [hq] at he
  | some i =>
    have hs : i.size = 1 := by simpa [hq] using he
    simp [Instr.sliceAt, Instr.sureAddr, run_underlying ht, Instr.sliceBounds, run_sliceBound, sizeOf, typeInfo, hq, hs, Addr.add_mid, slicedAt, sliced]
theorem wpList_copy_any {P : Program} {w : World} {ops : Array Oper} {rest : List Oper} {o : Oper} {a : Act} {Q : Exit → Act → World → Prop} (hgd : o.guard = none) (d s : Operand) (dT sT : TypeId)
    (ho : o.op = .call { callee := .builtin .copy, args := #[d, s], argTypes := #[dT, sT] }) (elem : TypeId) (hu : P.underlying dT = some (.slice elem)) (hsz : (P.info? elem).map (·.size) = some 1)
    (dp sp : Option Addr) (dLen dCap sLen sCap : Nat) (hd : a.eval d = .slice dp dLen dCap) (hs : a.eval s = .slice sp sLen sCap)
    (g off : Nat) (cur : List Value) (t : TypeId) (hg : w.heap[g]? = some (.cells cur.toArray t (0, 0))) (cs : List Value) (hn : cs.length = Nat.min sLen dLen)
    (hpos : 0 < cs.length → dp = some ⟨g, off, none⟩ ∧ ∃ ad, sp = some ad ∧ ∀ j v, cs[j]? = some v → w.cell? (ad.add j) = some v)
    (hfit : off + cs.length ≤ cur.length) (h1 : ∀ v ∈ cs, v.oneCell' = true)
    (h : wpList P ops Q rest (a.put o.dst (goInt cs.length)) (w.setRow g (splice cur off cs).toArray)) :
    wpList P ops Q (o :: rest) a w := by
  by_cases h0 : cs.length = 0
  · obtain rfl : cs = [] := List.eq_nil_of_length_eq_zero h0
    refine wpList_copy_nothing hgd d s dT sT ho elem hu hsz dp sp dLen dCap sLen sCap hd hs (by simpa using hn.symm) ?_
    have e : w.setRow g (splice cur off []).toArray = w := by
      simp only [splice, List.nil_append, List.length_nil, Nat.add_zero, List.take_append_drop]
      exact setRow_self w g _ t _ hg
    rw [e] at h; exact h
  · obtain ⟨rfl, ad, rfl, hsrc⟩ := hpos (by omega)
    refine wpList_copy_own hgd d s dT sT ho elem hu hsz g off dLen dCap ad sLen sCap hd hs cur.toArray t hg cs hn hsrc (by simpa using hfit) h1 ?_
    simpa [splice] using h
theorem SLB.src {w : World} {p : Option Addr} {len cap : Nat} {d : List Nat} (h : SLB w p len cap d) (n : Nat) (hn : n ≤ len) :
    0 < (u8s (d.take n)).length → ∃ ad, p = some ad ∧ ∀ j v, (u8s (d.take n))[j]? = some v → w.cell? (ad.add j) = some v := by
  intro h0
  obtain ⟨q, o, rfl, _, hb⟩ := (h.take n hn).pos (by rw [(h.take n hn).hlen]; simpa using h0)
  refine ⟨_, rfl, fun j v hv => ?_⟩
  have hj : j < (d.take n).length := by have := (List.getElem?_eq_some_iff.1 hv).1; simpa using this
  rw [Addr.add_mid, hb j hj]
  rw [getD_u8s _ _ hj] at hv; exact hv
/-- the cells of a digest of the bytes D. -/
def HRep (cs : List Value) (D : List Nat) : Prop :=
  (∀ x ∈ D, x < 256) ∧ ∃ s l on, s.length = 8 ∧ l.length = 64 ∧ cs = hc s l D.length on ∧ (on = true → s = Sha.st D ∧ l.take (D.length % 64) = Sha.rest D) ∧ (on = false → D = [])
theorem begin_any (w : World) (b : Nat) (cs : List Value) (D : List Nat) (h : HRep cs D) (hb : w.heap[b]? = some (.cells cs.toArray 38 (0, 0))) :
    Calls Try.prog 19 #[.pointer (some ⟨b, 0, none⟩)] w fun e w' => e = .returned (.tuple #[]) ∧ Fr [b] w w' ∧ ∃ l, l.length = 64 ∧ l.take (D.length % 64) = Sha.rest D ∧ w'.heap[b]? = some (.cells (hc (Sha.st D) l D.length true).toArray 38 (0, 0)) := by
  obtain ⟨hD, s, l, on, hs, hl, rfl, h1, h2⟩ := h
  cases on with
  | true =>
    obtain ⟨rfl, hr⟩ := h1 rfl
    exact (begin_on w b _ l _ hs hl hb).mono fun e w' ⟨he, hw⟩ => ⟨he, hw ▸ Fr.refl _ _, l, hl, hr, hw ▸ hb⟩
  | false =>
    obtain rfl := h2 rfl
    exact (begin_off w b _ l _ hs hl hb).mono fun e w' ⟨he, hw, h⟩ => ⟨he, hw, l, hl, rfl, h⟩
end Go.Proofs.Ytanegflohbgkdaa
