/-
  Lemmas and contracts that the proofs over this seat use (part Base); no statement of the seat is claimed in this text, and nothing is assumed in it.
-/
import Derived.Test.YtgklmpooonnmiaaDoorProg
import Derived.Test.YtgklmpooonnmiaaDoorLib
import Derived.Lib.ConvBytes
import Derived.Laws.BytesString
import Derived.Deep.AppendLies
import Derived.Laws.BitsLemmas
import Derived.OwnWalk
set_option linter.unusedVariables false
set_option linter.unusedSimpArgs false
namespace Go.Proofs.YtgklmpooonnmiaaDoor
open Go.RowKit
def u8s (l : List Nat) : List Value := l.map fun (x : Nat) => Value.int .u8 (x : Int)
@[simp] theorem u8s_length (l : List Nat) : (u8s l).length = l.length := by simp [u8s]
theorem oc_u8s (l : List Nat) : ∀ v ∈ u8s l, v.oneCell' = true := by
  intro v hv
  simp only [u8s, List.mem_map] at hv; obtain ⟨x, _, rfl⟩ := hv; rfl
/-- a text's bytes as numbers. -/
def nats (s : ByteArray) : List Nat := s.data.toList.map (·.toNat)
theorem nats_length (s : ByteArray) : (nats s).length = s.size := by simp [nats]
theorem nats_lt (s : ByteArray) : ∀ x ∈ nats s, x < 256 := by
  intro x hx
  simp only [nats, List.mem_map] at hx
  obtain ⟨c, _, rfl⟩ := hx
  exact c.toNat_lt
theorem nats_inj {a b : ByteArray} : nats a = nats b ↔ a = b := by
  constructor
  · intro h
    have h1 : a.data.toList = b.data.toList := List.map_inj_right (fun x y h => UInt8.toNat_inj.1 h) |>.1 h
    cases a; cases b
    simp at h1
    simpa using h1
  · rintro rfl; rfl
theorem nats_beq (a b : ByteArray) : (nats a == nats b) = (a.toList == b.toList) := by
  rw [Bool.eq_iff_iff, beq_iff_eq, beq_iff_eq, nats_inj]
  constructor
  · rintro rfl; rfl
  · intro h
    rw [ByteArray.toList_eq, ByteArray.toList_eq] at h
    exact ByteArray.ext (Array.toList_inj.mp h)
theorem nats_append (a b : ByteArray) : nats (a ++ b) = nats a ++ nats b := by simp [nats]
theorem fr_bytes (w : World) (e : TypeId) (s : ByteArray) : Fr [] w (Lib.bytesWorld w e s) :=
  ⟨by simp [Lib.bytesWorld, World.freeze, World.alloc, World.drew, -World.alloc_eq, -World.drew_eq], by simp [Lib.bytesWorld, World.freeze, World.alloc, World.drew, -World.alloc_eq, -World.drew_eq],
   by simp [Lib.bytesWorld, World.freeze, World.alloc, World.drew, -World.alloc_eq, -World.drew_eq], by rw [Lib.bytesWorld_size]; omega, fun k hk _ => Lib.bytesWorld_at_old w e s k hk⟩
theorem grownCap_ge (w : World) (n : Nat) (e : TypeId) : n ≤ grownCap w n 0 e := by simp [grownCap, Question.cut]
theorem grownCap_le (w : World) (n : Nat) (e : TypeId) (h : n ≤ maxLen) : grownCap w n 0 e ≤ maxLen := by
  have : w.tape w.drawn (.appendCap n 0 e) % (2 ^ 63 - n) < 2 ^ 63 - n := Nat.mod_lt _ (by unfold maxLen at h; omega)
  show n + w.tape w.drawn (.appendCap n 0 e) % (2 ^ 63 - n) ≤ maxLen
  unfold maxLen at *
  omega
/-- What grew out of rows of its own is still only grown. -/
theorem Fr.grown {w0 w w' : World} {e : TypeId} {size n : Nat} {v : Value} {xs : List Value} (h : Fr [] w0 w) (ho : w.ownsRow w0.heap.size e size v n xs) (hg : w.grownBy w' v.ownBlock) : Fr [] w0 w' :=
  ⟨hg.os.trans h.os, hg.tape.trans h.tape, hg.output.trans h.output, Nat.le_trans h.size hg.size, fun k hk hn => (hg.block k (Nat.lt_of_lt_of_le hk h.size) (by
    intro hc
    rcases ho.2 with ⟨rfl, _⟩ | ⟨g, cap, cur, rfl, hb, _⟩
    · cases hc
    · simp [Value.ownBlock] at hc; omega)).trans (h.block k hk hn)⟩
/-- A row that stands is owned still where only new blocks came. -/
theorem ownsRow_fr {w w' : World} {b n size : Nat} {e : TypeId} {v : Value} {xs : List Value} (h : w.ownsRow b e size v n xs) (hf : Fr [] w w') : w'.ownsRow b e size v n xs := by
  refine ⟨h.1, ?_⟩
  rcases h.2 with h | ⟨g, cap, cur, hv, hb, hg, hr⟩
  · exact Or.inl h
  · exact Or.inr ⟨g, cap, cur, hv, hb, hf.row hg (by simp), hr⟩
theorem ownsRow_nil (w : World) (b size : Nat) (e : TypeId) : w.ownsRow b e size (.slice none 0 0) 0 [] := ⟨by simp, Or.inl ⟨rfl, rfl⟩⟩
/-- the cells of an owned row. -/
theorem ownsRow_cell {w : World} {b n : Nat} {e : TypeId} {p : Option Addr} {l c : Nat} {xs : List Value} (h : w.ownsRow b e 1 (.slice p l c) n xs) (j : Nat) (u : Value) (hj : xs[j]? = some u) :
    l = n ∧ l ≤ c ∧ c ≤ maxLen ∧ ∃ g, p = some ⟨g, 0, none⟩ ∧ b ≤ g ∧ g < w.heap.size ∧ w.cell? ⟨g, j, none⟩ = some u := by
  rcases h.2 with ⟨hv, h0⟩ | ⟨g, cap, cur, hv, hb, hg, h1, h2, h3, h4⟩
  · have := h.1; rw [h0] at this; simp at this; subst this; simp at hj
  · cases hv
    refine ⟨rfl, h1, h2, g, rfl, hb, row_lt hg, ?_⟩
    rw [cell_of_row w g j cur e (0, 0) hg]
    rw [← h4] at hj
    rw [List.getElem?_take] at hj
    split at hj
    · simpa using hj
    · cases hj
/-- a text of bytes. -/
def ba (l : List Nat) : ByteArray := ⟨(l.map UInt8.ofNat).toArray⟩
@[simp] theorem ba_size (l : List Nat) : (ba l).size = l.length := by simp [ba, ByteArray.size]
theorem nats_ba (l : List Nat) (h : ∀ x ∈ l, x < 256) : nats (ba l) = l := by
  have : ∀ l : List Nat, (∀ x ∈ l, x < 256) → (l.map UInt8.ofNat).map (·.toNat) = l := by
    intro l
    induction l with
    | nil => intro _; rfl
    | cons a l ih =>
      intro h
      simp only [List.map_cons]
      rw [ih (fun x hx => h x (List.mem_cons_of_mem _ hx)), UInt8.toNat_ofNat', Nat.mod_eq_of_lt (by simpa using h a (by simp))]
  simpa [nats, ba] using this l h
theorem ba_nats (s : ByteArray) : ba (nats s) = s := nats_inj.1 (nats_ba _ (nats_lt s))
theorem foldl_push (l : List Nat) : ∀ s : ByteArray, (l.map fun (x : Nat) => (x : Int)).foldl (fun r n => r.push (UInt8.ofNat n.toNat)) s = ⟨s.data ++ (l.map UInt8.ofNat).toArray⟩ := by
  induction l with
  | nil => intro s; simp
  | cons a l ih =>
    intro s
    rw [List.map_cons, List.foldl_cons, ih]
    simp [ByteArray.push]
theorem u8s_ints (l : List Nat) : u8s l = (l.map fun (x : Nat) => (x : Int)).map (Value.int .u8) := by simp [u8s]
/-- 'string(b)' of a row that is owned. -/
theorem owns_str {w : World} {b n : Nat} {v : Value} {D : List Nat} (h : w.ownsRow b 5 1 v n (u8s D)) :
    (convert 36 9 v).run Tryd.prog w = .ok (.string (ba D)) w := by
  have hn : D.length = n := by have := h.1; simpa using this
  rcases h.2 with ⟨rfl, h0⟩ | ⟨g, cap, cur, rfl, _⟩
  · rw [run_convert_bytes_string w 36 9 5 none 0 0 Tryd.underlying36 Tryd.underlying5 Tryd.underlying9]
    obtain rfl : D = [] := List.eq_nil_of_length_eq_zero (by omega)
    rfl
  · rw [run_convert_bytes_string w 36 9 5 _ n cap Tryd.underlying36 Tryd.underlying5 Tryd.underlying9]
    rw [run_bytesToString w ⟨g, 0, none⟩ n cap (D.map fun (x : Nat) => (x : Int)) ?_, foldl_push]
    · simp [ba]
    · have := run_loadCells_list (P := Tryd.prog) w ⟨g, 0, none⟩ (u8s D) (fun j u hj => by
        obtain ⟨_, _, _, g', hg, _, _, hc⟩ := ownsRow_cell h j u hj
        cases hg
        have hadd : (⟨g, 0, none⟩ : Addr).add j = ⟨g, j, none⟩ := by unfold Addr.add; split <;> simp_all
        rw [hadd]; exact hc)
      rw [u8s_length, hn] at this
      rw [this, u8s_ints]
theorem info8 : (Tryd.prog.info? 5).map (fun i => (i.zero, i.size, i.bytes)) = some (some (.int .u8 0), 1, 1) := by kernel_rfl
/-- what 'append' of one byte asks of the program. -/
theorem app8 {ops : Array Oper} {rest : List Oper} {o : Oper} {a : Act} {w : World} {Q : Exit → Act → World → Prop} (hgd : o.guard = none) (s x : Operand)
    (ho : o.op = .call { callee := .builtin .append, args := #[s, x], argTypes := #[36, 36] })
    (w0 : World) (v : Value) (n : Nat) (D : List Nat) (y : Nat) (hs : a.eval s = v) (hx : a.eval x = .slice (some ⟨w.heap.size, 0, none⟩) 1 1)
    (hown : w.ownsRow w0.heap.size 5 1 v n (u8s D)) (hF : Fr [] w0 w) (hn : n < 1000000000)
    (h : ∀ v' w', w'.ownsRow w0.heap.size 5 1 v' (n + 1) (u8s (D ++ [y])) → Fr [] w0 w' → wpList Tryd.prog ops Q rest (a.put o.dst v') w') : wpList Tryd.prog ops Q (o :: rest) a (w.alloc (.cells #[.int .u8 (y : Int)] 5)) := by
  obtain ⟨i, hi, hz0, hz1, hz2⟩ := info_parts info8
  refine wpList_append_lies (w.alloc _) hgd s x _ ho w0.heap.size 5 i (.int .u8 0) 1 1 Tryd.underlying36 hi hz0 hz1 hz2 rfl (by decide) v n (u8s D) hs (ownsRow_fr hown ((Fr.refl _ _).alloc _)) _ 1 1 [.int .u8 (y : Int)] hx rfl (cell_one_new w _ _) (by simp [Value.oneCell']) (by decide) (by unfold maxLen; omega) (by omega) (Nat.le_trans hF.size (by simp)) _ rfl ?_
  intro g cap w' h1 h2 _ _
  have e : u8s (D ++ [y]) = u8s D ++ [.int .u8 (y : Int)] := by simp [u8s]
  exact h _ _ (by rw [e]; exact h1) ((hF.alloc _).grown (ownsRow_fr hown ((Fr.refl _ _).alloc _)) h2)
theorem nats_at (B : ByteArray) (i : Nat) (h : i < B.size) : B.data[i]'h = UInt8.ofNat ((nats B).getD i 0) := by
  have h2 : i < B.data.size := h
  simp [nats, List.getD]
  rw [Array.getElem?_eq_getElem h2]
  simp
theorem ownsRow_at {w : World} {b n : Nat} {e : TypeId} {v : Value} {xs : List Value} (h : w.ownsRow b e 1 v n xs) (hn : 0 < n) :
    ∃ g c, v = .slice (some ⟨g, 0, none⟩) n c ∧ b ≤ g ∧ g < w.heap.size ∧ ∀ (j : Nat) (u : Value), xs[j]? = some u → w.cell? ⟨g, j, none⟩ = some u := by
  rcases h.2 with ⟨_, h0⟩ | ⟨g, c, cur, rfl, hb, hg, h1, h2, h3, h4⟩
  · omega
  · exact ⟨g, c, rfl, hb, row_lt hg, fun j u hj => by
      obtain ⟨_, _, _, g', hg', _, _, hc⟩ := ownsRow_cell h j u hj
      cases hg'; exact hc⟩
theorem ownsRow_empty (w : World) (e : TypeId) : (w.alloc (.cells #[] e)).ownsRow w.heap.size e 1 (.slice (some ⟨w.heap.size, 0, none⟩) 0 0) 0 [] :=
  ⟨by simp, Or.inr ⟨_, 0, #[], rfl, Nat.le_refl _, heap_alloc_last w _, by omega, by decide, rfl, by simp⟩⟩
/-- In a region that draws: a conversion by its run. -/
theorem step_conv {P : Program} {ops : Array Oper} {o : Oper} {a : Act} {w w' : World} {K : Act → World → Prop} {Q : Exit → Act → World → Prop} {E : Prop} (hgd : o.guard = none) (s d : TypeId) (x : Operand) (ho : o.op = .convert s d x)
    (v r : Value) (hx : a.eval x = v) (hr : (convert s d v).run P w = .ok r w') (h : K (a.put o.dst r) w') : if Region.wanted o (yielded ops a.tmps) = true then Oper.wp P o a w K Q else E := by
  rw [if_pos (by simp [Region.wanted, hgd])]
  unfold Oper.wp execOp
  simp only [ho, hx]
  simp [hr]
  exact h
theorem wpAny_fresh {P : Program} {md : Region.Mode} {ops : Array Oper} {Q : Exit → Act → World → Prop} {fuel : Nat} {listed : Array Bool} {a : Act} {w : World} (S : World → Prop) (hS : S w) (h : ∀ w, S w → wpAny P md ops Q fuel listed a w) : wpAny P md ops Q fuel listed a w := h w hS
/-- what 'append' of one byte asks of the program; what it leaves as it is. -/
theorem app8k {ops : Array Oper} {rest : List Oper} {o : Oper} {a : Act} {w : World} {Q : Exit → Act → World → Prop} (hgd : o.guard = none) (s x : Operand)
    (ho : o.op = .call { callee := .builtin .append, args := #[s, x], argTypes := #[36, 36] })
    (w0 : World) (v : Value) (n : Nat) (D : List Nat) (y : Nat) (u : Value) (hu : u = .int .u8 (y : Int)) (hs : a.eval s = v) (hx : a.eval x = .slice (some ⟨w.heap.size, 0, none⟩) 1 1)
    (hown : w.ownsRow w0.heap.size 5 1 v n (u8s D)) (hF : Fr [] w0 w) (hn : n < 1000000000)
    (h : ∀ g c w', w'.ownsRow w0.heap.size 5 1 (.slice (some ⟨g, 0, none⟩) (n + 1) c) (n + 1) (u8s (D ++ [y])) → Fr [] w0 w' → (v.ownBlock = some g ∨ w.heap.size ≤ g) → (∀ g', g' < w.heap.size → v.ownBlock ≠ some g' → w'.heap[g']? = w.heap[g']?) → wpList Tryd.prog ops Q rest (a.put o.dst (.slice (some ⟨g, 0, none⟩) (n + 1) c)) w') : wpList Tryd.prog ops Q (o :: rest) a (w.alloc (.cells #[u] 5)) := by
  subst hu
  obtain ⟨i, hi, hz0, hz1, hz2⟩ := info_parts info8
  refine wpList_append_lies (w.alloc _) hgd s x _ ho w0.heap.size 5 i (.int .u8 0) 1 1 Tryd.underlying36 hi hz0 hz1 hz2 rfl (by decide) v n (u8s D) hs (ownsRow_fr hown ((Fr.refl _ _).alloc _)) _ 1 1 [.int .u8 (y : Int)] hx rfl (cell_one_new w _ _) (by simp [Value.oneCell']) (by decide) (by unfold maxLen; omega) (by omega) (Nat.le_trans hF.size (by simp)) _ rfl ?_
  intro g cap w' h1 h2 h3 _
  have e : u8s (D ++ [y]) = u8s D ++ [.int .u8 (y : Int)] := by simp [u8s]
  refine h g cap w' (by rw [e]; exact h1) ((hF.alloc _).grown (ownsRow_fr hown ((Fr.refl _ _).alloc _)) h2) (h3.imp id (fun h => by rw [h]; simp)) ?_
  intro g' hg' hne
  rw [h2.block g' (by simp; omega) (fun hc => hne hc.symm)]
  exact Below.heap_alloc _ _ _ hg'
/-- a row that is owned, by its block. -/
theorem ownsRow_blk {w w' : World} {b n size : Nat} {e : TypeId} {g c : Nat} {xs : List Value} (h : w.ownsRow b e size (.slice (some ⟨g, 0, none⟩) n c) n xs) (hb : w'.heap[g]? = w.heap[g]?) : w'.ownsRow b e size (.slice (some ⟨g, 0, none⟩) n c) n xs := by
  refine ⟨h.1, ?_⟩
  rcases h.2 with ⟨h1, _⟩ | ⟨g', cap, cur, hv, hb', hg, hr⟩
  · cases h1
  · cases hv; exact Or.inr ⟨_, _, cur, rfl, hb', by rw [hb]; exact hg, hr⟩
theorem ownsRow_lt {w : World} {b n size : Nat} {e : TypeId} {g c : Nat} {xs : List Value} (h : w.ownsRow b e size (.slice (some ⟨g, 0, none⟩) n c) n xs) : g < w.heap.size := by
  rcases h.2 with ⟨h1, _⟩ | ⟨g', cap, cur, hv, hb', hg, hr⟩
  · cases h1
  · cases hv; exact row_lt hg
theorem ownsRow_base {w : World} {b b' n size : Nat} {e : TypeId} {v : Value} {xs : List Value} (h : w.ownsRow b e size v n xs) (hb : b' ≤ b) : w.ownsRow b' e size v n xs := by
  refine ⟨h.1, ?_⟩
  rcases h.2 with h | ⟨g, cap, cur, hv, hg, hr⟩
  · exact Or.inl h
  · exact Or.inr ⟨g, cap, cur, hv, Nat.le_trans hb hg, hr⟩
/-- Of the world nothing but S is kept, behind a region. -/
theorem then_fresh {K : Act → World → Prop} {Q : Exit → Act → World → Prop} {e : Exit} {a : Act} {w : World} (S : World → Prop) (hS : S w) (h : ∀ w, S w → Exit.then K Q e a w) : Exit.then K Q e a w := h w hS
theorem wrap8 (a : Int) : IntKind.u8.wrap a = a % 256 := by rw [IntKind.wrap_u8]
theorem conv (w : World) (s : ByteArray) : (convert 9 36 (.string s)).run Tryd.prog w = .ok (.slice (some ⟨w.heap.size, 0, none⟩) s.size (grownCap w s.size 0 5)) (Lib.bytesWorld w 5 s) :=
  Lib.run_convert_string_bytes w 9 36 5 s Tryd.underlying9 Tryd.underlying36 Tryd.underlying5
end Go.Proofs.YtgklmpooonnmiaaDoor
