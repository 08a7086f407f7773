/-
  Lemmas and contracts that the proofs over this seat use (ErrAs, ErrAs2); no statement of the seat is claimed in this text, and nothing is assumed in it.
-/
import Derived.Test.YtgklmpooonnmiaaDoorJ3
import Derived.LaidEql
import Derived.Stop.Asserts
import Derived.RowKitTokens
set_option linter.unusedVariables false
set_option linter.unusedSimpArgs false
namespace Go.Proofs.YtgklmpooonnmiaaDoor
open Go.RowKit Go.Extern.Stop Go.Stop Go.Extern
theorem methodKind (h : Value) (w : World) : (Go.method 293 140 (.agg #[h]) "Kind").run Tryd.prog w = .ok (128, h) w := by kernel_rfl
theorem methodElem (h : Value) (w : World) : (Go.method 293 140 (.agg #[h]) "Elem").run Tryd.prog w = .ok (141, .agg #[h]) w := by kernel_rfl
theorem methodImplements (h : Value) (w : World) : (Go.method 293 140 (.agg #[h]) "Implements").run Tryd.prog w = .ok (142, .agg #[h]) w := by kernel_rfl
theorem methodAssignableTo (h : Value) (w : World) : (Go.method 293 140 (.agg #[h]) "AssignableTo").run Tryd.prog w = .ok (139, .agg #[h]) w := by kernel_rfl
theorem methodUnwrap (v : Value) (w : World) : (Go.method 293 70 v "Unwrap").run Tryd.prog w = .ok (133, v) w := by kernel_rfl
theorem rlm (z : Sem Value) (f : TypeId → Addr → Nat → Nat → Sem Value) (v : Value) :
  ReflectliteValue.method z f #[v] = (do match ← ReflectliteValue.parts v with | none => z | some (t, a, fl) => f t a fl (fl % 32)) := rfl
theorem rls (v x : Value) : ReflectliteValue.set #[v, x] = (do
  let (some (dst, a, fl), some (src, b, _)) := (← ReflectliteValue.parts v, ← ReflectliteValue.parts x)
   | unsupported (.noEntry "extern/(internal/reflectlite.Value).Set.zeroValue")
  if fl / ReflectliteValue.flagAddr % 2 == 0 then unsupported (.noEntry "extern/(internal/reflectlite.Value).Set.unaddressable")
  let val ← loadVar src b
  if ← Rtype.directlyAssignable dst src then storeVar dst a val
  else if ← Rtype.implements dst src then
   if (← Rtype.kind src) == 20 then
    match val with
    | .nilIface => unsupported (.noEntry "extern/reflectlite: a nil value of one interface type handed on as a value of another")
    | _ => storeVar dst a val
   else storeVar dst a (.iface src val)
  else panicString ("reflectlite.Set: value of type " ++ (← Rtype.spelt src) ++ " is not assignable to type " ++ (← Rtype.spelt dst))
  pure (.tuple #[])) := rfl
/-! the target N -/
theorem valueOfTN (t : Addr) (w : World) : (ReflectliteValue.unpack (.iface 69 (.pointer (some t)))).run Tryd.prog w
  = .ok (.agg #[.pointer (some ⟨3, 69, none⟩), .pointer (some ⟨w.heap.size, 0, none⟩), .int .u64 150]) (w.alloc (.cells #[.pointer (some t)] 69)) := by kernel_rfl
theorem typeTN (a : Addr) (w : World) : (ReflectliteValue.methodAny (ReflectliteValue.valueError "reflectlite.Value.Type" 0) (fun t _ _ _ => ReflectliteType.toType t) #[.agg #[.pointer (some ⟨3, 69, none⟩), .pointer (some a), .int .u64 150]]).run Tryd.prog w
  = .ok (.iface 140 (.agg #[.pointer (some ⟨3, 69, none⟩)])) w := by kernel_rfl
theorem kindTN (w : World) : ((ReflectliteType.abiMethod fun t => (fun a : Nat => Value.int IntKind.u8 (a : Int)) <$> Rtype.kind t) #[.pointer (some ⟨3, 69, none⟩)]).run Tryd.prog w = .ok (.int .u8 22) w := by kernel_rfl
theorem kindEN (w : World) : ((ReflectliteType.abiMethod fun t => (fun a : Nat => Value.int IntKind.u8 (a : Int)) <$> Rtype.kind t) #[.pointer (some ⟨3, 57, none⟩)]).run Tryd.prog w = .ok (.int .u8 2) w := by kernel_rfl
theorem partsTN (a : Addr) (w : World) : (ReflectliteValue.parts (.agg #[.pointer (some ⟨3, 69, none⟩), .pointer (some a), .int .u64 150])).run Tryd.prog w = .ok (some (69, a, 150)) w := by kernel_rfl
theorem isNilTN (a p : Addr) (W : World) (ha : W.cell? a = some (.pointer (some p))) :
  (ReflectliteValue.method (ReflectliteValue.valueError "reflectlite.Value.IsNil" 0) ReflectliteValue.isNil #[.agg #[.pointer (some ⟨3, 69, none⟩), .pointer (some a), .int .u64 150]]).run Tryd.prog W = .ok (.bool false) W := by
 rw [rlm]
 simp only [Sem.run_bind, partsTN, Result.andThen]
 simp [ReflectliteValue.isNil, loadVar, isAgg, underlying, Tryd.underlying69, ha, Result.andThen]
theorem elemTN (w : World) : (ReflectliteType.method ReflectliteType.elem #[.agg #[.pointer (some ⟨3, 69, none⟩)]]).run Tryd.prog w = .ok (.iface 140 (.agg #[.pointer (some ⟨3, 57, none⟩)])) w := by kernel_rfl
theorem assignN (w : World) : (ReflectliteType.relation "AssignableTo" ReflectliteType.assignableTo #[.agg #[.pointer (some ⟨3, 57, none⟩)], .iface 140 (.agg #[.pointer (some ⟨3, 57, none⟩)])]).run Tryd.prog w = .ok (.bool true) w := by kernel_rfl
theorem elemOfN (w : World) : (Rtype.elem? 69).run Tryd.prog w = .ok (some 57) w := by kernel_rfl
theorem mkEN (p : Addr) (w : World) : (ReflectliteValue.mk 57 p ReflectliteValue.flagAddr).run Tryd.prog w = .ok (.agg #[.pointer (some ⟨3, 57, none⟩), .pointer (some p), .int .u64 386]) w := by kernel_rfl
theorem elemVN (a p : Addr) (W : World) (ha : W.cell? a = some (.pointer (some p))) :
  (ReflectliteValue.method (ReflectliteValue.valueError "reflectlite.Value.Elem" 0) ReflectliteValue.elem #[.agg #[.pointer (some ⟨3, 69, none⟩), .pointer (some a), .int .u64 150]]).run Tryd.prog W
   = .ok (.agg #[.pointer (some ⟨3, 57, none⟩), .pointer (some p), .int .u64 386]) W := by
 rw [rlm]
 simp only [Sem.run_bind, partsTN, Result.andThen]
 simp [ReflectliteValue.elem, loadVar, isAgg, underlying, Tryd.underlying69, ha, Result.andThen, elemOfN, mkEN]
theorem valueOfEN (n : Int) (w : World) : (ReflectliteValue.unpack (.iface 57 (.int .i64 n))).run Tryd.prog w
  = .ok (.agg #[.pointer (some ⟨3, 57, none⟩), .pointer (some ⟨w.heap.size, 0, none⟩), .int .u64 130]) (w.alloc (.cells #[.int .i64 n] 57)) := by kernel_rfl
theorem partsAN (a : Addr) (w : World) : (ReflectliteValue.parts (.agg #[.pointer (some ⟨3, 57, none⟩), .pointer (some a), .int .u64 386])).run Tryd.prog w = .ok (some (57, a, 386)) w := by kernel_rfl
theorem partsEN (a : Addr) (w : World) : (ReflectliteValue.parts (.agg #[.pointer (some ⟨3, 57, none⟩), .pointer (some a), .int .u64 130])).run Tryd.prog w = .ok (some (57, a, 130)) w := by kernel_rfl
theorem directN (w : World) : (Rtype.directlyAssignable 57 57).run Tryd.prog w = .ok true w := by kernel_rfl
theorem sizeEN (w : World) : (sizeOf 57).run Tryd.prog w = .ok 1 w := by kernel_rfl
theorem setN (ta b : Addr) (n : Int) (old : Value) (W : World) (hb : W.cell? b = some (.int .i64 n)) (ht : W.cell? ta = some old) (hf : W.frozen? ta = false) :
  (ReflectliteValue.set #[.agg #[.pointer (some ⟨3, 57, none⟩), .pointer (some ta), .int .u64 386], .agg #[.pointer (some ⟨3, 57, none⟩), .pointer (some b), .int .u64 130]]).run Tryd.prog W
   = .ok (.tuple #[]) (W.setCell ta (.int .i64 n)) := by
 rw [rls]
 simp only [Sem.run_bind, partsAN, partsEN, Result.andThen]
 simp [ReflectliteValue.flagAddr, loadVar, isAgg, underlying, Tryd.underlying57, hb, Result.andThen, directN, storeVar, Value.cells, storeCells, Addr.add, sizeEN]
 rw [run_store Tryd.prog W ta _ _ (by rfl)]
 simp [ht, hf]
/-! the target A -/
/-! the errors' own types -/
theorem typeOfNo (v : Value) (w : World) : (ReflectliteType.typeOf #[.iface 57 v]).run Tryd.prog w = .ok (.iface 140 (.agg #[.pointer (some ⟨3, 57, none⟩)])) w := by kernel_rfl
theorem typeOfAt (v : Value) (w : World) : (ReflectliteType.typeOf #[.iface 70 v]).run Tryd.prog w = .ok (.iface 140 (.agg #[.pointer (some ⟨3, 70, none⟩)])) w := by kernel_rfl
theorem assignAtN (w : World) : (ReflectliteType.relation "AssignableTo" ReflectliteType.assignableTo #[.agg #[.pointer (some ⟨3, 70, none⟩)], .iface 140 (.agg #[.pointer (some ⟨3, 57, none⟩)])]).run Tryd.prog w = .ok (.bool false) w := by kernel_rfl
theorem noAsAt (v : Value) (xT : TypeId) (w : World) : (Instr.typeAssert (.iface 70 v) xT 145 true).run Tryd.prog w = .ok (.tuple #[.nilIface, .bool false]) w :=
 run_typeAssert_lacksB Tryd.underlying145 (by kernel_rfl) (by kernel_rfl) v xT w
theorem unwAt (v : Value) (xT : TypeId) (w : World) : (Instr.typeAssert (.iface 70 v) xT 148 true).run Tryd.prog w = .ok (.tuple #[.iface 70 v, .bool true]) w :=
 run_typeAssert_hasB Tryd.underlying148 (by kernel_rfl) v xT w
end Go.Proofs.YtgklmpooonnmiaaDoor

namespace Go.Proofs.YtgklmpooonnmiaaDoor
open Go.RowKit Go.Extern.Stop Go.Stop Go.Extern
def ErrT (w : World) : Prop := w.cell? ⟨0, 0, none⟩ = some (.iface 140 (.agg #[.pointer (some ⟨3, 32, none⟩)]))
theorem implementsNo (w : World) : (ReflectliteType.relation "Implements" ReflectliteType.implements_ #[.agg #[.pointer (some ⟨3, 57, none⟩)], .iface 140 (.agg #[.pointer (some ⟨3, 32, none⟩)])]).run Tryd.prog w = .ok (.bool true) w := by kernel_rfl
set_option maxHeartbeats 4000000 in
set_option maxRecDepth 100000 in
theorem as_num_no (n : Int) (t : Addr) (w : World) (hg : ErrT w) (hlt : 0 < w.heap.size) (old : Value) (ht0 : w.cell? t = some old) (hf0 : w.frozen? t = false) :
  Calls Tryd.prog 42 #[.iface 57 (.int .i64 n), .iface 69 (.pointer (some t))] w fun e w' => e = .returned (.bool true) ∧ w' = ((((w.alloc (.cells #[.pointer (some t)] 69)).alloc (.cells #[.pointer (some ⟨3, 69, none⟩), .pointer (some ⟨w.heap.size, 0, none⟩), .int .u64 150] 118)).alloc (.cells #[.pointer (some ⟨3, 69, none⟩), .pointer (some ⟨w.heap.size, 0, none⟩), .int .u64 150] 118)).alloc (.cells #[.int .i64 n] 57)).setCell t (.int .i64 n) := by
 have c0 := @run_callFunc_extern Tryd.prog 70 _ (fun args => ReflectliteValue.unpack (args.getD 0 (.tuple #[]))) Tryd.func70 (by kernel_rfl) (by kernel_rfl) (by kernel_rfl) (by kernel_rfl)
 have c1 := @run_callFunc_extern Tryd.prog 71 _ (ReflectliteValue.methodAny (ReflectliteValue.valueError "reflectlite.Value.Type" 0) (fun t _ _ _ => ReflectliteType.toType t)) Tryd.func71 (by kernel_rfl) (by kernel_rfl) (by kernel_rfl) (by kernel_rfl)
 have c2 := @run_callFunc_extern Tryd.prog 72 _ (ReflectliteValue.method (ReflectliteValue.valueError "reflectlite.Value.IsNil" 0) ReflectliteValue.isNil) Tryd.func72 (by kernel_rfl) (by kernel_rfl) (by kernel_rfl) (by kernel_rfl)
 have c3 := @run_callFunc_extern Tryd.prog 128 _ (ReflectliteType.abiMethod fun t => do pure (.int .u8 (← Rtype.kind t))) Tryd.func128 (by kernel_rfl) (by kernel_rfl) (by kernel_rfl) (by kernel_rfl)
 have c4 := @run_callFunc_extern Tryd.prog 141 _ (ReflectliteType.method ReflectliteType.elem) Tryd.func141 (by kernel_rfl) (by kernel_rfl) (by kernel_rfl) (by kernel_rfl)
 have c5 := @run_callFunc_extern Tryd.prog 142 _ (ReflectliteType.relation "Implements" ReflectliteType.implements_) Tryd.func142 (by kernel_rfl) (by kernel_rfl) (by kernel_rfl) (by kernel_rfl)
 have c6 := @run_callFunc_extern Tryd.prog 90 _ ReflectliteType.typeOf Tryd.func90 (by kernel_rfl) (by kernel_rfl) (by kernel_rfl) (by kernel_rfl)
 have c7 := @run_callFunc_extern Tryd.prog 139 _ (ReflectliteType.relation "AssignableTo" ReflectliteType.assignableTo) Tryd.func139 (by kernel_rfl) (by kernel_rfl) (by kernel_rfl) (by kernel_rfl)
 have c8 := @run_callFunc_extern Tryd.prog 91 _ (ReflectliteValue.method (ReflectliteValue.valueError "reflectlite.Value.Elem" 0) ReflectliteValue.elem) Tryd.func91 (by kernel_rfl) (by kernel_rfl) (by kernel_rfl) (by kernel_rfl)
 have c9 := @run_callFunc_extern Tryd.prog 92 _ ReflectliteValue.set Tryd.func92 (by kernel_rfl) (by kernel_rfl) (by kernel_rfl) (by kernel_rfl)
 have f6 := valueOfTN
 have f7 := typeTN
 have mK := methodKind
 have mE := methodElem
 have mI := methodImplements
 have mA := methodAssignableTo
 have kT := kindTN
 have kE := kindEN
 have eT := elemTN
 have iN := implementsNo
 have tO := typeOfNo
 have aE := assignN
 have vE := valueOfEN
 have n8 := isNilTN ⟨w.heap.size, 0, none⟩ t ((w.alloc (.cells #[.pointer (some t)] 69)).alloc (.cells #[.pointer (some ⟨3, 69, none⟩), .pointer (some ⟨w.heap.size, 0, none⟩), .int .u64 150] 118)) (by simp)
 have hg2 : ((w.alloc (.cells #[.pointer (some t)] 69)).alloc (.cells #[.pointer (some ⟨3, 69, none⟩), .pointer (some ⟨w.heap.size, 0, none⟩), .int .u64 150] 118)).cell? ⟨0, 0, none⟩ = some (.iface 140 (.agg #[.pointer (some ⟨3, 32, none⟩)])) := by
  rw [World.cell?_alloc_lt _ _ ⟨0, 0, none⟩ (by simp), World.cell?_alloc_lt _ _ ⟨0, 0, none⟩ hlt]; exact hg
 have htl : t.block < w.heap.size := World.block_lt_of_cell? w _ ht0
 have el := elemVN ⟨w.heap.size, 0, none⟩ t (((w.alloc (.cells #[.pointer (some t)] 69)).alloc (.cells #[.pointer (some ⟨3, 69, none⟩), .pointer (some ⟨w.heap.size, 0, none⟩), .int .u64 150] 118)).alloc (.cells #[.pointer (some ⟨3, 69, none⟩), .pointer (some ⟨w.heap.size, 0, none⟩), .int .u64 150] 118)) (by rw [World.cell?_alloc_lt _ _ ⟨w.heap.size, 0, none⟩ (by simp; omega)]; simp)
 have st := setN t ⟨w.heap.size + 1 + 1 + 1, 0, none⟩ n old ((((w.alloc (.cells #[.pointer (some t)] 69)).alloc (.cells #[.pointer (some ⟨3, 69, none⟩), .pointer (some ⟨w.heap.size, 0, none⟩), .int .u64 150] 118)).alloc (.cells #[.pointer (some ⟨3, 69, none⟩), .pointer (some ⟨w.heap.size, 0, none⟩), .int .u64 150] 118)).alloc (.cells #[.int .i64 n] 57))
  (by rw [World.cell?_alloc_at _ _ _ _ (by simp)]; rfl)
  (by rw [World.cell?_alloc_lt _ _ t (by simp; omega), World.cell?_alloc_lt _ _ t (by simp; omega), World.cell?_alloc_lt _ _ t (by simp; omega), World.cell?_alloc_lt _ _ t htl]; exact ht0)
  (by rw [World.frozen?_alloc_old _ _ t (by simp; omega), World.frozen?_alloc_old _ _ t (by simp; omega), World.frozen?_alloc_old _ _ t (by simp; omega), World.frozen?_alloc_old _ _ t (Nat.ne_of_lt htl)]; exact hf0)
 go_enter Tryd.func42, Tryd.ntmps42
 go_wp2
 refine wp_loop_rounds 1 ?_
 rw [rounds_succ]
 go_wp2
 go_ret
 exact ⟨rfl, rfl⟩
set_option maxHeartbeats 4000000 in
set_option maxRecDepth 100000 in
theorem as_num_at (n : Int) (b : Nat) (p : Value) (t : Addr) (w : World) (hb : w.heap[b]? = some (.cells #[p, .iface 57 (.int .i64 n)] 73 (0, 0))) (hg : ErrT w) (hlt : 0 < w.heap.size) (old : Value) (ht0 : w.cell? t = some old) (hf0 : w.frozen? t = false) :
  Calls Tryd.prog 42 #[.iface 70 (.pointer (some ⟨b, 0, none⟩)), .iface 69 (.pointer (some t))] w fun e w' => e = .returned (.bool true) ∧ w' = ((((w.alloc (.cells #[.pointer (some t)] 69)).alloc (.cells #[.pointer (some ⟨3, 69, none⟩), .pointer (some ⟨w.heap.size, 0, none⟩), .int .u64 150] 118)).alloc (.cells #[.pointer (some ⟨3, 69, none⟩), .pointer (some ⟨w.heap.size, 0, none⟩), .int .u64 150] 118)).alloc (.cells #[.int .i64 n] 57)).setCell t (.int .i64 n) := by
 have c0 := @run_callFunc_extern Tryd.prog 70 _ (fun args => ReflectliteValue.unpack (args.getD 0 (.tuple #[]))) Tryd.func70 (by kernel_rfl) (by kernel_rfl) (by kernel_rfl) (by kernel_rfl)
 have c1 := @run_callFunc_extern Tryd.prog 71 _ (ReflectliteValue.methodAny (ReflectliteValue.valueError "reflectlite.Value.Type" 0) (fun t _ _ _ => ReflectliteType.toType t)) Tryd.func71 (by kernel_rfl) (by kernel_rfl) (by kernel_rfl) (by kernel_rfl)
 have c2 := @run_callFunc_extern Tryd.prog 72 _ (ReflectliteValue.method (ReflectliteValue.valueError "reflectlite.Value.IsNil" 0) ReflectliteValue.isNil) Tryd.func72 (by kernel_rfl) (by kernel_rfl) (by kernel_rfl) (by kernel_rfl)
 have c3 := @run_callFunc_extern Tryd.prog 128 _ (ReflectliteType.abiMethod fun t => do pure (.int .u8 (← Rtype.kind t))) Tryd.func128 (by kernel_rfl) (by kernel_rfl) (by kernel_rfl) (by kernel_rfl)
 have c4 := @run_callFunc_extern Tryd.prog 141 _ (ReflectliteType.method ReflectliteType.elem) Tryd.func141 (by kernel_rfl) (by kernel_rfl) (by kernel_rfl) (by kernel_rfl)
 have c5 := @run_callFunc_extern Tryd.prog 142 _ (ReflectliteType.relation "Implements" ReflectliteType.implements_) Tryd.func142 (by kernel_rfl) (by kernel_rfl) (by kernel_rfl) (by kernel_rfl)
 have c6 := @run_callFunc_extern Tryd.prog 90 _ ReflectliteType.typeOf Tryd.func90 (by kernel_rfl) (by kernel_rfl) (by kernel_rfl) (by kernel_rfl)
 have c7 := @run_callFunc_extern Tryd.prog 139 _ (ReflectliteType.relation "AssignableTo" ReflectliteType.assignableTo) Tryd.func139 (by kernel_rfl) (by kernel_rfl) (by kernel_rfl) (by kernel_rfl)
 have c8 := @run_callFunc_extern Tryd.prog 91 _ (ReflectliteValue.method (ReflectliteValue.valueError "reflectlite.Value.Elem" 0) ReflectliteValue.elem) Tryd.func91 (by kernel_rfl) (by kernel_rfl) (by kernel_rfl) (by kernel_rfl)
 have c9 := @run_callFunc_extern Tryd.prog 92 _ ReflectliteValue.set Tryd.func92 (by kernel_rfl) (by kernel_rfl) (by kernel_rfl) (by kernel_rfl)
 have f6 := valueOfTN
 have f7 := typeTN
 have mK := methodKind
 have mE := methodElem
 have mI := methodImplements
 have mA := methodAssignableTo
 have kT := kindTN
 have kE := kindEN
 have eT := elemTN
 have iN := implementsNo
 have tA := typeOfAt
 have aF := assignAtN
 have nA := noAsAt
 have uA := unwAt
 have mU := methodUnwrap
 have tO := typeOfNo
 have aE := assignN
 have vE := valueOfEN
 have n8 := isNilTN ⟨w.heap.size, 0, none⟩ t ((w.alloc (.cells #[.pointer (some t)] 69)).alloc (.cells #[.pointer (some ⟨3, 69, none⟩), .pointer (some ⟨w.heap.size, 0, none⟩), .int .u64 150] 118)) (by simp)
 have hg2 : ((w.alloc (.cells #[.pointer (some t)] 69)).alloc (.cells #[.pointer (some ⟨3, 69, none⟩), .pointer (some ⟨w.heap.size, 0, none⟩), .int .u64 150] 118)).cell? ⟨0, 0, none⟩ = some (.iface 140 (.agg #[.pointer (some ⟨3, 32, none⟩)])) := by
  rw [World.cell?_alloc_lt _ _ ⟨0, 0, none⟩ (by simp), World.cell?_alloc_lt _ _ ⟨0, 0, none⟩ hlt]; exact hg
 have htb : b < w.heap.size := row_lt hb
 have cb : (((w.alloc (.cells #[.pointer (some t)] 69)).alloc (.cells #[.pointer (some ⟨3, 69, none⟩), .pointer (some ⟨w.heap.size, 0, none⟩), .int .u64 150] 118)).alloc (.cells #[.pointer (some ⟨3, 69, none⟩), .pointer (some ⟨w.heap.size, 0, none⟩), .int .u64 150] 118)).cell? ⟨b, 1, none⟩ = some (.iface 57 (.int .i64 n)) := by
  rw [World.cell?_alloc_lt _ _ ⟨b, 1, none⟩ (by simp; omega), World.cell?_alloc_lt _ _ ⟨b, 1, none⟩ (by simp; omega), World.cell?_alloc_lt _ _ ⟨b, 1, none⟩ htb]; exact cell_of_row w b 1 _ _ (0, 0) hb
 have htl : t.block < w.heap.size := World.block_lt_of_cell? w _ ht0
 have el := elemVN ⟨w.heap.size, 0, none⟩ t (((w.alloc (.cells #[.pointer (some t)] 69)).alloc (.cells #[.pointer (some ⟨3, 69, none⟩), .pointer (some ⟨w.heap.size, 0, none⟩), .int .u64 150] 118)).alloc (.cells #[.pointer (some ⟨3, 69, none⟩), .pointer (some ⟨w.heap.size, 0, none⟩), .int .u64 150] 118)) (by rw [World.cell?_alloc_lt _ _ ⟨w.heap.size, 0, none⟩ (by simp; omega)]; simp)
 have st := setN t ⟨w.heap.size + 1 + 1 + 1, 0, none⟩ n old ((((w.alloc (.cells #[.pointer (some t)] 69)).alloc (.cells #[.pointer (some ⟨3, 69, none⟩), .pointer (some ⟨w.heap.size, 0, none⟩), .int .u64 150] 118)).alloc (.cells #[.pointer (some ⟨3, 69, none⟩), .pointer (some ⟨w.heap.size, 0, none⟩), .int .u64 150] 118)).alloc (.cells #[.int .i64 n] 57))
  (by rw [World.cell?_alloc_at _ _ _ _ (by simp)]; rfl)
  (by rw [World.cell?_alloc_lt _ _ t (by simp; omega), World.cell?_alloc_lt _ _ t (by simp; omega), World.cell?_alloc_lt _ _ t (by simp; omega), World.cell?_alloc_lt _ _ t htl]; exact ht0)
  (by rw [World.frozen?_alloc_old _ _ t (by simp; omega), World.frozen?_alloc_old _ _ t (by simp; omega), World.frozen?_alloc_old _ _ t (by simp; omega), World.frozen?_alloc_old _ _ t (Nat.ne_of_lt htl)]; exact hf0)
 go_enter Tryd.func42, Tryd.ntmps42
 go_wp2
 refine wp_loop_rounds 2 ?_
 rw [rounds_succ]
 go_wp2
 rw [rounds_succ]
 go_wp2
 go_ret
 exact ⟨rfl, rfl⟩
end Go.Proofs.YtgklmpooonnmiaaDoor
