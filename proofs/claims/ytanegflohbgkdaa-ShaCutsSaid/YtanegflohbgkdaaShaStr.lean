/-
  Lemmas and contracts that the proofs over this seat use (part ShaStr); no statement of the seat is claimed in this text, and nothing is assumed in it.
-/
import Derived.Test.YtanegflohbgkdaaShaAlive
import Derived.Lib.ConvBytes
set_option linter.unusedVariables false
set_option linter.unusedSimpArgs false
namespace Go.Proofs.Ytanegflohbgkdaa
open Go.RowKit
/-- a text's bytes as numbers. -/
def nats (s : ByteArray) : List Nat := s.data.toList.map (·.toNat)
theorem nats_length (s : ByteArray) : (nats s).length = s.size := by simp [nats]
theorem nats_lt (s : ByteArray) : ∀ x ∈ nats s, x < 256 := by
  intro x hx
  simp only [nats, List.mem_map] at hx
  obtain ⟨c, _, rfl⟩ := hx
  exact c.toNat_lt
theorem nats_inj {a b : ByteArray} : nats a = nats b ↔ a = b := by
  constructor
  · intro h
    have h1 : a.data.toList = b.data.toList := List.map_inj_right (fun x y h => UInt8.toNat_inj.1 h) |>.1 h
    cases a; cases b
    simp at h1
    simpa using h1
  · rintro rfl; rfl
theorem nats_beq (a b : ByteArray) : (nats a == nats b) = (a.toList == b.toList) := by
  rw [Bool.eq_iff_iff, beq_iff_eq, beq_iff_eq, nats_inj]
  constructor
  · rintro rfl; rfl
  · intro h
    rw [ByteArray.toList_eq, ByteArray.toList_eq] at h
    exact ByteArray.ext (Array.toList_inj.mp h)
theorem nats_append (a b : ByteArray) : nats (a ++ b) = nats a ++ nats b := by simp [nats]
theorem fr_bytes (w : World) (e : TypeId) (s : ByteArray) : Fr [] w (Lib.bytesWorld w e s) :=
  ⟨by simp [Lib.bytesWorld, World.freeze, World.alloc, World.drew, -World.alloc_eq, -World.drew_eq], by simp [Lib.bytesWorld, World.freeze, World.alloc, World.drew, -World.alloc_eq, -World.drew_eq],
   by simp [Lib.bytesWorld, World.freeze, World.alloc, World.drew, -World.alloc_eq, -World.drew_eq], by rw [Lib.bytesWorld_size]; omega, fun k hk _ => Lib.bytesWorld_at_old w e s k hk⟩
theorem grownCap_ge (w : World) (n : Nat) (e : TypeId) : n ≤ grownCap w n 0 e := by simp [grownCap, Question.cut]
theorem grownCap_le (w : World) (n : Nat) (e : TypeId) (h : n ≤ maxLen) : grownCap w n 0 e ≤ maxLen := by
  have : w.tape w.drawn (.appendCap n 0 e) % (2 ^ 63 - n) < 2 ^ 63 - n := Nat.mod_lt _ (by unfold maxLen at h; omega)
  show n + w.tape w.drawn (.appendCap n 0 e) % (2 ^ 63 - n) ≤ maxLen
  unfold maxLen at *
  omega
/-- the slice of a text's bytes. -/
def strPt (w : World) (e : TypeId) (s : ByteArray) : Pt := ⟨some ⟨w.heap.size, 0, none⟩, s.size, grownCap w s.size 0 e, nats s⟩
theorem strPt_ok (w : World) (e : TypeId) (s : ByteArray) (h : s.size ≤ maxLen) : (strPt w e s).Ok (Lib.bytesWorld w e s) :=
  ⟨⟨(nats_length s).symm, grownCap_ge _ _ _, fun _ => ⟨w.heap.size, 0, rfl, by rw [Lib.bytesWorld_size]; omega, fun i hi => by
    have hi' : i < s.size := by have := nats_length s; simp only [strPt] at hi; omega
    rw [Nat.zero_add, Lib.bytesWorld_cell w e s i hi']
    have hi2 : i < s.data.size := hi'
    simp [strPt, nats, List.getD]
    rw [Array.getElem?_eq_getElem hi2]; rfl⟩⟩, fun a ha => by cases ha; rw [Lib.bytesWorld_size]; show w.heap.size < _; omega, grownCap_le _ _ _ h, h, nats_lt s⟩
theorem conv (w : World) (s : ByteArray) : (convert 9 26 (.string s)).run Try.prog w = .ok (strPt w 5 s).v (Lib.bytesWorld w 5 s) :=
  Lib.run_convert_string_bytes w 9 26 5 s Try.underlying9 Try.underlying26 Try.underlying5
end Go.Proofs.Ytanegflohbgkdaa
