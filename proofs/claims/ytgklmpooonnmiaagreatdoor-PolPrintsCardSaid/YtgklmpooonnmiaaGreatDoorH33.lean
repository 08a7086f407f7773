/-
  Lemmas and contracts that the proofs over this seat use (ErrAs2); no statement of the seat is claimed in this text, and nothing is assumed in it.
-/
import Derived.Test.YtgklmpooonnmiaaGreatDoorH32
set_option linter.unusedVariables false
set_option linter.unusedSimpArgs false
namespace Go.Proofs.YtgklmpooonnmiaaGreatDoor
open Go.RowKit Go.Extern.Stop Go.Stop Go.Extern
def ErrT (w : World) : Prop := w.cell? ⟨0, 0, none⟩ = some (.iface 137 (.agg #[.pointer (some ⟨3, 25, none⟩)]))
theorem implementsNo (w : World) : (ReflectliteType.relation "Implements" ReflectliteType.implements_ #[.agg #[.pointer (some ⟨3, 57, none⟩)], .iface 137 (.agg #[.pointer (some ⟨3, 25, none⟩)])]).run Tryz.prog w = .ok (.bool true) w := by kernel_rfl
set_option maxHeartbeats 4000000 in
set_option maxRecDepth 100000 in
theorem as_num_no (n : Int) (t : Addr) (w : World) (hg : ErrT w) (hlt : 0 < w.heap.size) (old : Value) (ht0 : w.cell? t = some old) (hf0 : w.frozen? t = false) :
  Calls Tryz.prog 24 #[.iface 57 (.int .i64 n), .iface 65 (.pointer (some t))] w fun e w' => e = .returned (.bool true) ∧ w' = ((((w.alloc (.cells #[.pointer (some t)] 65)).alloc (.cells #[.pointer (some ⟨3, 65, none⟩), .pointer (some ⟨w.heap.size, 0, none⟩), .int .u64 150] 108)).alloc (.cells #[.pointer (some ⟨3, 65, none⟩), .pointer (some ⟨w.heap.size, 0, none⟩), .int .u64 150] 108)).alloc (.cells #[.int .i64 n] 57)).setCell t (.int .i64 n) := by
 have c0 := @run_callFunc_extern Tryz.prog 55 _ (fun args => ReflectliteValue.unpack (args.getD 0 (.tuple #[]))) Tryz.func55 (by kernel_rfl) (by kernel_rfl) (by kernel_rfl) (by kernel_rfl)
 have c1 := @run_callFunc_extern Tryz.prog 56 _ (ReflectliteValue.methodAny (ReflectliteValue.valueError "reflectlite.Value.Type" 0) (fun t _ _ _ => ReflectliteType.toType t)) Tryz.func56 (by kernel_rfl) (by kernel_rfl) (by kernel_rfl) (by kernel_rfl)
 have c2 := @run_callFunc_extern Tryz.prog 57 _ (ReflectliteValue.method (ReflectliteValue.valueError "reflectlite.Value.IsNil" 0) ReflectliteValue.isNil) Tryz.func57 (by kernel_rfl) (by kernel_rfl) (by kernel_rfl) (by kernel_rfl)
 have c3 := @run_callFunc_extern Tryz.prog 122 _ (ReflectliteType.abiMethod fun t => do pure (.int .u8 (← Rtype.kind t))) Tryz.func122 (by kernel_rfl) (by kernel_rfl) (by kernel_rfl) (by kernel_rfl)
 have c4 := @run_callFunc_extern Tryz.prog 135 _ (ReflectliteType.method ReflectliteType.elem) Tryz.func135 (by kernel_rfl) (by kernel_rfl) (by kernel_rfl) (by kernel_rfl)
 have c5 := @run_callFunc_extern Tryz.prog 136 _ (ReflectliteType.relation "Implements" ReflectliteType.implements_) Tryz.func136 (by kernel_rfl) (by kernel_rfl) (by kernel_rfl) (by kernel_rfl)
 have c6 := @run_callFunc_extern Tryz.prog 84 _ ReflectliteType.typeOf Tryz.func84 (by kernel_rfl) (by kernel_rfl) (by kernel_rfl) (by kernel_rfl)
 have c7 := @run_callFunc_extern Tryz.prog 133 _ (ReflectliteType.relation "AssignableTo" ReflectliteType.assignableTo) Tryz.func133 (by kernel_rfl) (by kernel_rfl) (by kernel_rfl) (by kernel_rfl)
 have c8 := @run_callFunc_extern Tryz.prog 85 _ (ReflectliteValue.method (ReflectliteValue.valueError "reflectlite.Value.Elem" 0) ReflectliteValue.elem) Tryz.func85 (by kernel_rfl) (by kernel_rfl) (by kernel_rfl) (by kernel_rfl)
 have c9 := @run_callFunc_extern Tryz.prog 86 _ ReflectliteValue.set Tryz.func86 (by kernel_rfl) (by kernel_rfl) (by kernel_rfl) (by kernel_rfl)
 have f6 := valueOfTN
 have f7 := typeTN
 have mK := methodKind
 have mE := methodElem
 have mI := methodImplements
 have mA := methodAssignableTo
 have kT := kindTN
 have kE := kindEN
 have eT := elemTN
 have iN := implementsNo
 have tO := typeOfNo
 have aE := assignN
 have vE := valueOfEN
 have n8 := isNilTN ⟨w.heap.size, 0, none⟩ t ((w.alloc (.cells #[.pointer (some t)] 65)).alloc (.cells #[.pointer (some ⟨3, 65, none⟩), .pointer (some ⟨w.heap.size, 0, none⟩), .int .u64 150] 108)) (by simp)
 have hg2 : ((w.alloc (.cells #[.pointer (some t)] 65)).alloc (.cells #[.pointer (some ⟨3, 65, none⟩), .pointer (some ⟨w.heap.size, 0, none⟩), .int .u64 150] 108)).cell? ⟨0, 0, none⟩ = some (.iface 137 (.agg #[.pointer (some ⟨3, 25, none⟩)])) := by
  rw [World.cell?_alloc_lt _ _ ⟨0, 0, none⟩ (by simp), World.cell?_alloc_lt _ _ ⟨0, 0, none⟩ hlt]; exact hg
 have htl : t.block < w.heap.size := World.block_lt_of_cell? w _ ht0
 have el := elemVN ⟨w.heap.size, 0, none⟩ t (((w.alloc (.cells #[.pointer (some t)] 65)).alloc (.cells #[.pointer (some ⟨3, 65, none⟩), .pointer (some ⟨w.heap.size, 0, none⟩), .int .u64 150] 108)).alloc (.cells #[.pointer (some ⟨3, 65, none⟩), .pointer (some ⟨w.heap.size, 0, none⟩), .int .u64 150] 108)) (by rw [World.cell?_alloc_lt _ _ ⟨w.heap.size, 0, none⟩ (by simp; omega)]; simp)
 have st := setN t ⟨w.heap.size + 1 + 1 + 1, 0, none⟩ n old ((((w.alloc (.cells #[.pointer (some t)] 65)).alloc (.cells #[.pointer (some ⟨3, 65, none⟩), .pointer (some ⟨w.heap.size, 0, none⟩), .int .u64 150] 108)).alloc (.cells #[.pointer (some ⟨3, 65, none⟩), .pointer (some ⟨w.heap.size, 0, none⟩), .int .u64 150] 108)).alloc (.cells #[.int .i64 n] 57))
  (by rw [World.cell?_alloc_at _ _ _ _ (by simp)]; rfl)
  (by rw [World.cell?_alloc_lt _ _ t (by simp; omega), World.cell?_alloc_lt _ _ t (by simp; omega), World.cell?_alloc_lt _ _ t (by simp; omega), World.cell?_alloc_lt _ _ t htl]; exact ht0)
  (by rw [World.frozen?_alloc_old _ _ t (by simp; omega), World.frozen?_alloc_old _ _ t (by simp; omega), World.frozen?_alloc_old _ _ t (by simp; omega), World.frozen?_alloc_old _ _ t (Nat.ne_of_lt htl)]; exact hf0)
 go_enter Tryz.func24, Tryz.ntmps24
 go_wp2
 refine wp_loop_rounds 1 ?_
 rw [rounds_succ]
 go_wp2
 go_ret
 exact ⟨rfl, rfl⟩
set_option maxHeartbeats 4000000 in
set_option maxRecDepth 100000 in
theorem as_num_at (n : Int) (b : Nat) (p : Value) (t : Addr) (w : World) (hb : w.heap[b]? = some (.cells #[p, .iface 57 (.int .i64 n)] 68 (0, 0))) (hg : ErrT w) (hlt : 0 < w.heap.size) (old : Value) (ht0 : w.cell? t = some old) (hf0 : w.frozen? t = false) :
  Calls Tryz.prog 24 #[.iface 46 (.pointer (some ⟨b, 0, none⟩)), .iface 65 (.pointer (some t))] w fun e w' => e = .returned (.bool true) ∧ w' = ((((w.alloc (.cells #[.pointer (some t)] 65)).alloc (.cells #[.pointer (some ⟨3, 65, none⟩), .pointer (some ⟨w.heap.size, 0, none⟩), .int .u64 150] 108)).alloc (.cells #[.pointer (some ⟨3, 65, none⟩), .pointer (some ⟨w.heap.size, 0, none⟩), .int .u64 150] 108)).alloc (.cells #[.int .i64 n] 57)).setCell t (.int .i64 n) := by
 have c0 := @run_callFunc_extern Tryz.prog 55 _ (fun args => ReflectliteValue.unpack (args.getD 0 (.tuple #[]))) Tryz.func55 (by kernel_rfl) (by kernel_rfl) (by kernel_rfl) (by kernel_rfl)
 have c1 := @run_callFunc_extern Tryz.prog 56 _ (ReflectliteValue.methodAny (ReflectliteValue.valueError "reflectlite.Value.Type" 0) (fun t _ _ _ => ReflectliteType.toType t)) Tryz.func56 (by kernel_rfl) (by kernel_rfl) (by kernel_rfl) (by kernel_rfl)
 have c2 := @run_callFunc_extern Tryz.prog 57 _ (ReflectliteValue.method (ReflectliteValue.valueError "reflectlite.Value.IsNil" 0) ReflectliteValue.isNil) Tryz.func57 (by kernel_rfl) (by kernel_rfl) (by kernel_rfl) (by kernel_rfl)
 have c3 := @run_callFunc_extern Tryz.prog 122 _ (ReflectliteType.abiMethod fun t => do pure (.int .u8 (← Rtype.kind t))) Tryz.func122 (by kernel_rfl) (by kernel_rfl) (by kernel_rfl) (by kernel_rfl)
 have c4 := @run_callFunc_extern Tryz.prog 135 _ (ReflectliteType.method ReflectliteType.elem) Tryz.func135 (by kernel_rfl) (by kernel_rfl) (by kernel_rfl) (by kernel_rfl)
 have c5 := @run_callFunc_extern Tryz.prog 136 _ (ReflectliteType.relation "Implements" ReflectliteType.implements_) Tryz.func136 (by kernel_rfl) (by kernel_rfl) (by kernel_rfl) (by kernel_rfl)
 have c6 := @run_callFunc_extern Tryz.prog 84 _ ReflectliteType.typeOf Tryz.func84 (by kernel_rfl) (by kernel_rfl) (by kernel_rfl) (by kernel_rfl)
 have c7 := @run_callFunc_extern Tryz.prog 133 _ (ReflectliteType.relation "AssignableTo" ReflectliteType.assignableTo) Tryz.func133 (by kernel_rfl) (by kernel_rfl) (by kernel_rfl) (by kernel_rfl)
 have c8 := @run_callFunc_extern Tryz.prog 85 _ (ReflectliteValue.method (ReflectliteValue.valueError "reflectlite.Value.Elem" 0) ReflectliteValue.elem) Tryz.func85 (by kernel_rfl) (by kernel_rfl) (by kernel_rfl) (by kernel_rfl)
 have c9 := @run_callFunc_extern Tryz.prog 86 _ ReflectliteValue.set Tryz.func86 (by kernel_rfl) (by kernel_rfl) (by kernel_rfl) (by kernel_rfl)
 have f6 := valueOfTN
 have f7 := typeTN
 have mK := methodKind
 have mE := methodElem
 have mI := methodImplements
 have mA := methodAssignableTo
 have kT := kindTN
 have kE := kindEN
 have eT := elemTN
 have iN := implementsNo
 have tA := typeOfAt
 have aF := assignAtN
 have nA := noAsAt
 have uA := unwAt
 have mU := methodUnwrap
 have tO := typeOfNo
 have aE := assignN
 have vE := valueOfEN
 have n8 := isNilTN ⟨w.heap.size, 0, none⟩ t ((w.alloc (.cells #[.pointer (some t)] 65)).alloc (.cells #[.pointer (some ⟨3, 65, none⟩), .pointer (some ⟨w.heap.size, 0, none⟩), .int .u64 150] 108)) (by simp)
 have hg2 : ((w.alloc (.cells #[.pointer (some t)] 65)).alloc (.cells #[.pointer (some ⟨3, 65, none⟩), .pointer (some ⟨w.heap.size, 0, none⟩), .int .u64 150] 108)).cell? ⟨0, 0, none⟩ = some (.iface 137 (.agg #[.pointer (some ⟨3, 25, none⟩)])) := by
  rw [World.cell?_alloc_lt _ _ ⟨0, 0, none⟩ (by simp), World.cell?_alloc_lt _ _ ⟨0, 0, none⟩ hlt]; exact hg
 have htb : b < w.heap.size := row_lt hb
 have cb : (((w.alloc (.cells #[.pointer (some t)] 65)).alloc (.cells #[.pointer (some ⟨3, 65, none⟩), .pointer (some ⟨w.heap.size, 0, none⟩), .int .u64 150] 108)).alloc (.cells #[.pointer (some ⟨3, 65, none⟩), .pointer (some ⟨w.heap.size, 0, none⟩), .int .u64 150] 108)).cell? ⟨b, 1, none⟩ = some (.iface 57 (.int .i64 n)) := by
  rw [World.cell?_alloc_lt _ _ ⟨b, 1, none⟩ (by simp; omega), World.cell?_alloc_lt _ _ ⟨b, 1, none⟩ (by simp; omega), World.cell?_alloc_lt _ _ ⟨b, 1, none⟩ htb]; exact cell_of_row w b 1 _ _ (0, 0) hb
 have htl : t.block < w.heap.size := World.block_lt_of_cell? w _ ht0
 have el := elemVN ⟨w.heap.size, 0, none⟩ t (((w.alloc (.cells #[.pointer (some t)] 65)).alloc (.cells #[.pointer (some ⟨3, 65, none⟩), .pointer (some ⟨w.heap.size, 0, none⟩), .int .u64 150] 108)).alloc (.cells #[.pointer (some ⟨3, 65, none⟩), .pointer (some ⟨w.heap.size, 0, none⟩), .int .u64 150] 108)) (by rw [World.cell?_alloc_lt _ _ ⟨w.heap.size, 0, none⟩ (by simp; omega)]; simp)
 have st := setN t ⟨w.heap.size + 1 + 1 + 1, 0, none⟩ n old ((((w.alloc (.cells #[.pointer (some t)] 65)).alloc (.cells #[.pointer (some ⟨3, 65, none⟩), .pointer (some ⟨w.heap.size, 0, none⟩), .int .u64 150] 108)).alloc (.cells #[.pointer (some ⟨3, 65, none⟩), .pointer (some ⟨w.heap.size, 0, none⟩), .int .u64 150] 108)).alloc (.cells #[.int .i64 n] 57))
  (by rw [World.cell?_alloc_at _ _ _ _ (by simp)]; rfl)
  (by rw [World.cell?_alloc_lt _ _ t (by simp; omega), World.cell?_alloc_lt _ _ t (by simp; omega), World.cell?_alloc_lt _ _ t (by simp; omega), World.cell?_alloc_lt _ _ t htl]; exact ht0)
  (by rw [World.frozen?_alloc_old _ _ t (by simp; omega), World.frozen?_alloc_old _ _ t (by simp; omega), World.frozen?_alloc_old _ _ t (by simp; omega), World.frozen?_alloc_old _ _ t (Nat.ne_of_lt htl)]; exact hf0)
 go_enter Tryz.func24, Tryz.ntmps24
 go_wp2
 refine wp_loop_rounds 2 ?_
 rw [rounds_succ]
 go_wp2
 rw [rounds_succ]
 go_wp2
 go_ret
 exact ⟨rfl, rfl⟩
set_option maxHeartbeats 4000000 in
set_option maxRecDepth 100000 in
theorem as_pos_at (b : Addr) (t : Addr) (w : World) (hg : ErrT w) (hlt : 0 < w.heap.size) (old : Value) (ht0 : w.cell? t = some old) (hf0 : w.frozen? t = false) :
  Calls Tryz.prog 24 #[.iface 46 (.pointer (some b)), .iface 66 (.pointer (some t))] w fun e w' => e = .returned (.bool true) ∧ w' = ((((w.alloc (.cells #[.pointer (some t)] 66)).alloc (.cells #[.pointer (some ⟨3, 66, none⟩), .pointer (some ⟨w.heap.size, 0, none⟩), .int .u64 150] 108)).alloc (.cells #[.pointer (some ⟨3, 66, none⟩), .pointer (some ⟨w.heap.size, 0, none⟩), .int .u64 150] 108)).alloc (.cells #[.pointer (some b)] 46)).setCell t (.pointer (some b)) := by
 have c0 := @run_callFunc_extern Tryz.prog 55 _ (fun args => ReflectliteValue.unpack (args.getD 0 (.tuple #[]))) Tryz.func55 (by kernel_rfl) (by kernel_rfl) (by kernel_rfl) (by kernel_rfl)
 have c1 := @run_callFunc_extern Tryz.prog 56 _ (ReflectliteValue.methodAny (ReflectliteValue.valueError "reflectlite.Value.Type" 0) (fun t _ _ _ => ReflectliteType.toType t)) Tryz.func56 (by kernel_rfl) (by kernel_rfl) (by kernel_rfl) (by kernel_rfl)
 have c2 := @run_callFunc_extern Tryz.prog 57 _ (ReflectliteValue.method (ReflectliteValue.valueError "reflectlite.Value.IsNil" 0) ReflectliteValue.isNil) Tryz.func57 (by kernel_rfl) (by kernel_rfl) (by kernel_rfl) (by kernel_rfl)
 have c3 := @run_callFunc_extern Tryz.prog 122 _ (ReflectliteType.abiMethod fun t => do pure (.int .u8 (← Rtype.kind t))) Tryz.func122 (by kernel_rfl) (by kernel_rfl) (by kernel_rfl) (by kernel_rfl)
 have c4 := @run_callFunc_extern Tryz.prog 135 _ (ReflectliteType.method ReflectliteType.elem) Tryz.func135 (by kernel_rfl) (by kernel_rfl) (by kernel_rfl) (by kernel_rfl)
 have c5 := @run_callFunc_extern Tryz.prog 136 _ (ReflectliteType.relation "Implements" ReflectliteType.implements_) Tryz.func136 (by kernel_rfl) (by kernel_rfl) (by kernel_rfl) (by kernel_rfl)
 have c6 := @run_callFunc_extern Tryz.prog 84 _ ReflectliteType.typeOf Tryz.func84 (by kernel_rfl) (by kernel_rfl) (by kernel_rfl) (by kernel_rfl)
 have c7 := @run_callFunc_extern Tryz.prog 133 _ (ReflectliteType.relation "AssignableTo" ReflectliteType.assignableTo) Tryz.func133 (by kernel_rfl) (by kernel_rfl) (by kernel_rfl) (by kernel_rfl)
 have c8 := @run_callFunc_extern Tryz.prog 85 _ (ReflectliteValue.method (ReflectliteValue.valueError "reflectlite.Value.Elem" 0) ReflectliteValue.elem) Tryz.func85 (by kernel_rfl) (by kernel_rfl) (by kernel_rfl) (by kernel_rfl)
 have c9 := @run_callFunc_extern Tryz.prog 86 _ ReflectliteValue.set Tryz.func86 (by kernel_rfl) (by kernel_rfl) (by kernel_rfl) (by kernel_rfl)
 have f6 := valueOfTA
 have f7 := typeTA
 have mK := methodKind
 have mE := methodElem
 have mI := methodImplements
 have mA := methodAssignableTo
 have kT := kindTA
 have kE := kindEA
 have eT := elemTA
 have tO := typeOfAt
 have aE := assignA
 have vE := valueOfEA
 have iA := implementsAt
 have n8 := isNilTA ⟨w.heap.size, 0, none⟩ t ((w.alloc (.cells #[.pointer (some t)] 66)).alloc (.cells #[.pointer (some ⟨3, 66, none⟩), .pointer (some ⟨w.heap.size, 0, none⟩), .int .u64 150] 108)) (by simp)
 have hg2 : ((w.alloc (.cells #[.pointer (some t)] 66)).alloc (.cells #[.pointer (some ⟨3, 66, none⟩), .pointer (some ⟨w.heap.size, 0, none⟩), .int .u64 150] 108)).cell? ⟨0, 0, none⟩ = some (.iface 137 (.agg #[.pointer (some ⟨3, 25, none⟩)])) := by
  rw [World.cell?_alloc_lt _ _ ⟨0, 0, none⟩ (by simp), World.cell?_alloc_lt _ _ ⟨0, 0, none⟩ hlt]; exact hg
 have htl : t.block < w.heap.size := World.block_lt_of_cell? w _ ht0
 have el := elemVA ⟨w.heap.size, 0, none⟩ t (((w.alloc (.cells #[.pointer (some t)] 66)).alloc (.cells #[.pointer (some ⟨3, 66, none⟩), .pointer (some ⟨w.heap.size, 0, none⟩), .int .u64 150] 108)).alloc (.cells #[.pointer (some ⟨3, 66, none⟩), .pointer (some ⟨w.heap.size, 0, none⟩), .int .u64 150] 108)) (by rw [World.cell?_alloc_lt _ _ ⟨w.heap.size, 0, none⟩ (by simp; omega)]; simp)
 have st := setA t ⟨w.heap.size + 1 + 1 + 1, 0, none⟩ b old ((((w.alloc (.cells #[.pointer (some t)] 66)).alloc (.cells #[.pointer (some ⟨3, 66, none⟩), .pointer (some ⟨w.heap.size, 0, none⟩), .int .u64 150] 108)).alloc (.cells #[.pointer (some ⟨3, 66, none⟩), .pointer (some ⟨w.heap.size, 0, none⟩), .int .u64 150] 108)).alloc (.cells #[.pointer (some b)] 46))
  (by rw [World.cell?_alloc_at _ _ _ _ (by simp)]; rfl)
  (by rw [World.cell?_alloc_lt _ _ t (by simp; omega), World.cell?_alloc_lt _ _ t (by simp; omega), World.cell?_alloc_lt _ _ t (by simp; omega), World.cell?_alloc_lt _ _ t htl]; exact ht0)
  (by rw [World.frozen?_alloc_old _ _ t (by simp; omega), World.frozen?_alloc_old _ _ t (by simp; omega), World.frozen?_alloc_old _ _ t (by simp; omega), World.frozen?_alloc_old _ _ t (Nat.ne_of_lt htl)]; exact hf0)
 go_enter Tryz.func24, Tryz.ntmps24
 go_wp2
 refine wp_loop_rounds 1 ?_
 rw [rounds_succ]
 go_wp2
 go_ret
 exact ⟨rfl, rfl⟩
set_option maxHeartbeats 4000000 in
set_option maxRecDepth 100000 in
theorem as_pos_no (n : Int) (t : Addr) (w : World) (hg : ErrT w) (hlt : 0 < w.heap.size)  :
  Calls Tryz.prog 24 #[.iface 57 (.int .i64 n), .iface 66 (.pointer (some t))] w fun e w' => e = .returned (.bool false) ∧ w' = (((w.alloc (.cells #[.pointer (some t)] 66)).alloc (.cells #[.pointer (some ⟨3, 66, none⟩), .pointer (some ⟨w.heap.size, 0, none⟩), .int .u64 150] 108)).alloc (.cells #[.pointer (some ⟨3, 66, none⟩), .pointer (some ⟨w.heap.size, 0, none⟩), .int .u64 150] 108)) := by
 have c0 := @run_callFunc_extern Tryz.prog 55 _ (fun args => ReflectliteValue.unpack (args.getD 0 (.tuple #[]))) Tryz.func55 (by kernel_rfl) (by kernel_rfl) (by kernel_rfl) (by kernel_rfl)
 have c1 := @run_callFunc_extern Tryz.prog 56 _ (ReflectliteValue.methodAny (ReflectliteValue.valueError "reflectlite.Value.Type" 0) (fun t _ _ _ => ReflectliteType.toType t)) Tryz.func56 (by kernel_rfl) (by kernel_rfl) (by kernel_rfl) (by kernel_rfl)
 have c2 := @run_callFunc_extern Tryz.prog 57 _ (ReflectliteValue.method (ReflectliteValue.valueError "reflectlite.Value.IsNil" 0) ReflectliteValue.isNil) Tryz.func57 (by kernel_rfl) (by kernel_rfl) (by kernel_rfl) (by kernel_rfl)
 have c3 := @run_callFunc_extern Tryz.prog 122 _ (ReflectliteType.abiMethod fun t => do pure (.int .u8 (← Rtype.kind t))) Tryz.func122 (by kernel_rfl) (by kernel_rfl) (by kernel_rfl) (by kernel_rfl)
 have c4 := @run_callFunc_extern Tryz.prog 135 _ (ReflectliteType.method ReflectliteType.elem) Tryz.func135 (by kernel_rfl) (by kernel_rfl) (by kernel_rfl) (by kernel_rfl)
 have c5 := @run_callFunc_extern Tryz.prog 136 _ (ReflectliteType.relation "Implements" ReflectliteType.implements_) Tryz.func136 (by kernel_rfl) (by kernel_rfl) (by kernel_rfl) (by kernel_rfl)
 have c6 := @run_callFunc_extern Tryz.prog 84 _ ReflectliteType.typeOf Tryz.func84 (by kernel_rfl) (by kernel_rfl) (by kernel_rfl) (by kernel_rfl)
 have c7 := @run_callFunc_extern Tryz.prog 133 _ (ReflectliteType.relation "AssignableTo" ReflectliteType.assignableTo) Tryz.func133 (by kernel_rfl) (by kernel_rfl) (by kernel_rfl) (by kernel_rfl)
 have c8 := @run_callFunc_extern Tryz.prog 85 _ (ReflectliteValue.method (ReflectliteValue.valueError "reflectlite.Value.Elem" 0) ReflectliteValue.elem) Tryz.func85 (by kernel_rfl) (by kernel_rfl) (by kernel_rfl) (by kernel_rfl)
 have c9 := @run_callFunc_extern Tryz.prog 86 _ ReflectliteValue.set Tryz.func86 (by kernel_rfl) (by kernel_rfl) (by kernel_rfl) (by kernel_rfl)
 have f6 := valueOfTA
 have f7 := typeTA
 have mK := methodKind
 have mE := methodElem
 have mI := methodImplements
 have mA := methodAssignableTo
 have kT := kindTA
 have kE := kindEA
 have eT := elemTA
 have tO := typeOfNo
 have aF := assignNA
 have nA := noAsNo
 have u1 := noUnwNo
 have u2 := noUnwsNo
 have iA := implementsAt
 have n8 := isNilTA ⟨w.heap.size, 0, none⟩ t ((w.alloc (.cells #[.pointer (some t)] 66)).alloc (.cells #[.pointer (some ⟨3, 66, none⟩), .pointer (some ⟨w.heap.size, 0, none⟩), .int .u64 150] 108)) (by simp)
 have hg2 : ((w.alloc (.cells #[.pointer (some t)] 66)).alloc (.cells #[.pointer (some ⟨3, 66, none⟩), .pointer (some ⟨w.heap.size, 0, none⟩), .int .u64 150] 108)).cell? ⟨0, 0, none⟩ = some (.iface 137 (.agg #[.pointer (some ⟨3, 25, none⟩)])) := by
  rw [World.cell?_alloc_lt _ _ ⟨0, 0, none⟩ (by simp), World.cell?_alloc_lt _ _ ⟨0, 0, none⟩ hlt]; exact hg
 go_enter Tryz.func24, Tryz.ntmps24
 go_wp2
 refine wp_loop_rounds 1 ?_
 rw [rounds_succ]
 go_wp2
 go_ret
 exact ⟨rfl, rfl⟩
end Go.Proofs.YtgklmpooonnmiaaGreatDoor
