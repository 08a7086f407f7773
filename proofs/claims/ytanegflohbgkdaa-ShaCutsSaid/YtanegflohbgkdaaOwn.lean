/-
  Lemmas and contracts that the proofs over this seat use (part Own); no statement of the seat is claimed in this text, and nothing is assumed in it.
-/
import Derived.Test.YtanegflohbgkdaaShaEq
import Derived.Laws.BytesString
import Derived.Deep.AppendLies
import Derived.OwnWalk
set_option linter.unusedVariables false
set_option linter.unusedSimpArgs false
namespace Go.Proofs.Ytanegflohbgkdaa
open Go.RowKit
/-- What grew out of rows of its own is still only grown. -/
theorem Fr.grown {w0 w w' : World} {e : TypeId} {size n : Nat} {v : Value} {xs : List Value} (h : Fr [] w0 w) (ho : w.ownsRow w0.heap.size e size v n xs) (hg : w.grownBy w' v.ownBlock) : Fr [] w0 w' :=
  ⟨hg.os.trans h.os, hg.tape.trans h.tape, hg.output.trans h.output, Nat.le_trans h.size hg.size, fun k hk hn => (hg.block k (Nat.lt_of_lt_of_le hk h.size) (by
    intro hc
    rcases ho.2 with ⟨rfl, _⟩ | ⟨g, cap, cur, rfl, hb, _⟩
    · cases hc
    · simp [Value.ownBlock] at hc; omega)).trans (h.block k hk hn)⟩
/-- A row that stands is owned still where only new blocks came. -/
theorem ownsRow_fr {w w' : World} {b n size : Nat} {e : TypeId} {v : Value} {xs : List Value} (h : w.ownsRow b e size v n xs) (hf : Fr [] w w') : w'.ownsRow b e size v n xs := by
  refine ⟨h.1, ?_⟩
  rcases h.2 with h | ⟨g, cap, cur, hv, hb, hg, hr⟩
  · exact Or.inl h
  · exact Or.inr ⟨g, cap, cur, hv, hb, hf.row hg (by simp), hr⟩
theorem ownsRow_nil (w : World) (b size : Nat) (e : TypeId) : w.ownsRow b e size (.slice none 0 0) 0 [] := ⟨by simp, Or.inl ⟨rfl, rfl⟩⟩
/-- the cells of an owned row. -/
theorem ownsRow_cell {w : World} {b n : Nat} {e : TypeId} {p : Option Addr} {l c : Nat} {xs : List Value} (h : w.ownsRow b e 1 (.slice p l c) n xs) (j : Nat) (u : Value) (hj : xs[j]? = some u) :
    l = n ∧ l ≤ c ∧ c ≤ maxLen ∧ ∃ g, p = some ⟨g, 0, none⟩ ∧ b ≤ g ∧ g < w.heap.size ∧ w.cell? ⟨g, j, none⟩ = some u := by
  rcases h.2 with ⟨hv, h0⟩ | ⟨g, cap, cur, hv, hb, hg, h1, h2, h3, h4⟩
  · have := h.1; rw [h0] at this; simp at this; subst this; simp at hj
  · cases hv
    refine ⟨rfl, h1, h2, g, rfl, hb, row_lt hg, ?_⟩
    rw [cell_of_row w g j cur e (0, 0) hg]
    rw [← h4] at hj
    rw [List.getElem?_take] at hj
    split at hj
    · simpa using hj
    · cases hj
/-- a text of bytes. -/
def ba (l : List Nat) : ByteArray := ⟨(l.map UInt8.ofNat).toArray⟩
@[simp] theorem ba_size (l : List Nat) : (ba l).size = l.length := by simp [ba, ByteArray.size]
theorem nats_ba (l : List Nat) (h : ∀ x ∈ l, x < 256) : nats (ba l) = l := by
  have : ∀ l : List Nat, (∀ x ∈ l, x < 256) → (l.map UInt8.ofNat).map (·.toNat) = l := by
    intro l
    induction l with
    | nil => intro _; rfl
    | cons a l ih =>
      intro h
      simp only [List.map_cons]
      rw [ih (fun x hx => h x (List.mem_cons_of_mem _ hx)), UInt8.toNat_ofNat', Nat.mod_eq_of_lt (by simpa using h a (by simp))]
  simpa [nats, ba] using this l h
theorem ba_nats (s : ByteArray) : ba (nats s) = s := nats_inj.1 (nats_ba _ (nats_lt s))
theorem foldl_push (l : List Nat) : ∀ s : ByteArray, (l.map fun (x : Nat) => (x : Int)).foldl (fun r n => r.push (UInt8.ofNat n.toNat)) s = ⟨s.data ++ (l.map UInt8.ofNat).toArray⟩ := by
  induction l with
  | nil => intro s; simp
  | cons a l ih =>
    intro s
    rw [List.map_cons, List.foldl_cons, ih]
    simp [ByteArray.push]
theorem u8s_ints (l : List Nat) : u8s l = (l.map fun (x : Nat) => (x : Int)).map (Value.int .u8) := by simp [u8s]
/-- 'string(b)' of a row that is owned. -/
theorem owns_str {w : World} {b n : Nat} {v : Value} {D : List Nat} (h : w.ownsRow b 5 1 v n (u8s D)) :
    (convert 26 9 v).run Try.prog w = .ok (.string (ba D)) w := by
  have hn : D.length = n := by have := h.1; simpa using this
  rcases h.2 with ⟨rfl, h0⟩ | ⟨g, cap, cur, rfl, _⟩
  · rw [run_convert_bytes_string w 26 9 5 none 0 0 Try.underlying26 Try.underlying5 Try.underlying9]
    obtain rfl : D = [] := List.eq_nil_of_length_eq_zero (by omega)
    rfl
  · rw [run_convert_bytes_string w 26 9 5 _ n cap Try.underlying26 Try.underlying5 Try.underlying9]
    rw [run_bytesToString w ⟨g, 0, none⟩ n cap (D.map fun (x : Nat) => (x : Int)) ?_, foldl_push]
    · simp [ba]
    · have := run_loadCells_list (P := Try.prog) w ⟨g, 0, none⟩ (u8s D) (fun j u hj => by
        obtain ⟨_, _, _, g', hg, _, _, hc⟩ := ownsRow_cell h j u hj
        cases hg
        have hadd : (⟨g, 0, none⟩ : Addr).add j = ⟨g, j, none⟩ := by unfold Addr.add; split <;> simp_all
        rw [hadd]; exact hc)
      rw [u8s_length, hn] at this
      rw [this, u8s_ints]
theorem info8 : (Try.prog.info? 5).map (fun i => (i.zero, i.size, i.bytes)) = some (some (.int .u8 0), 1, 1) := by kernel_rfl
theorem info32 : (Try.prog.info? 33).map (fun i => (i.zero, i.size, i.bytes)) = some (some (.int .u32 0), 1, 4) := by kernel_rfl
/-- what 'append' of one byte asks of the program. -/
theorem app8 {ops : Array Oper} {rest : List Oper} {o : Oper} {a : Act} {w : World} {Q : Exit → Act → World → Prop} (hgd : o.guard = none) (s x : Operand)
    (ho : o.op = .call { callee := .builtin .append, args := #[s, x], argTypes := #[26, 26] })
    (w0 : World) (v : Value) (n : Nat) (D : List Nat) (y : Nat) (hs : a.eval s = v) (hx : a.eval x = .slice (some ⟨w.heap.size, 0, none⟩) 1 1)
    (hown : w.ownsRow w0.heap.size 5 1 v n (u8s D)) (hF : Fr [] w0 w) (hn : n < 1000000000)
    (h : ∀ v' w', w'.ownsRow w0.heap.size 5 1 v' (n + 1) (u8s (D ++ [y])) → Fr [] w0 w' → wpList Try.prog ops Q rest (a.put o.dst v') w') : wpList Try.prog ops Q (o :: rest) a (w.alloc (.cells #[.int .u8 (y : Int)] 5)) := by
  obtain ⟨i, hi, hz0, hz1, hz2⟩ := info_parts info8
  refine wpList_append_lies (w.alloc _) hgd s x _ ho w0.heap.size 5 i (.int .u8 0) 1 1 Try.underlying26 hi hz0 hz1 hz2 rfl (by decide) v n (u8s D) hs (ownsRow_fr hown ((Fr.refl _ _).alloc _)) _ 1 1 [.int .u8 (y : Int)] hx rfl (cell_one_new w _ _) (by simp [Value.oneCell']) (by decide) (by unfold maxLen; omega) (by omega) (Nat.le_trans hF.size (by simp)) _ rfl ?_
  intro g cap w' h1 h2 _ _
  have e : u8s (D ++ [y]) = u8s D ++ [.int .u8 (y : Int)] := by simp [u8s]
  exact h _ _ (by rw [e]; exact h1) ((hF.alloc _).grown (ownsRow_fr hown ((Fr.refl _ _).alloc _)) h2)
/-- likewise of one word. -/
theorem app32 {ops : Array Oper} {rest : List Oper} {o : Oper} {a : Act} {w : World} {Q : Exit → Act → World → Prop} (hgd : o.guard = none) (s x : Operand)
    (ho : o.op = .call { callee := .builtin .append, args := #[s, x], argTypes := #[47, 47] })
    (w0 : World) (v : Value) (n : Nat) (D : List Nat) (y : Nat) (hs : a.eval s = v) (hx : a.eval x = .slice (some ⟨w.heap.size, 0, none⟩) 1 1)
    (hown : w.ownsRow w0.heap.size 33 1 v n (u32s D)) (hF : Fr [] w0 w) (hn : n < 1000000000)
    (h : ∀ v' w', w'.ownsRow w0.heap.size 33 1 v' (n + 1) (u32s (D ++ [y])) → Fr [] w0 w' → wpList Try.prog ops Q rest (a.put o.dst v') w') : wpList Try.prog ops Q (o :: rest) a (w.alloc (.cells #[.int .u32 (y : Int)] 33)) := by
  obtain ⟨i, hi, hz0, hz1, hz2⟩ := info_parts info32
  refine wpList_append_lies (w.alloc _) hgd s x _ ho w0.heap.size 33 i (.int .u32 0) 1 4 Try.underlying47 hi hz0 hz1 hz2 rfl (by decide) v n (u32s D) hs (ownsRow_fr hown ((Fr.refl _ _).alloc _)) _ 1 1 [.int .u32 (y : Int)] hx rfl (cell_one_new w _ _) (by simp [Value.oneCell']) (by decide) (by unfold maxLen; omega) (by omega) (Nat.le_trans hF.size (by simp)) _ rfl ?_
  intro g cap w' h1 h2 _ _
  have e : u32s (D ++ [y]) = u32s D ++ [.int .u32 (y : Int)] := by simp [u32s]
  exact h _ _ (by rw [e]; exact h1) ((hF.alloc _).grown (ownsRow_fr hown ((Fr.refl _ _).alloc _)) h2)
end Go.Proofs.Ytanegflohbgkdaa
