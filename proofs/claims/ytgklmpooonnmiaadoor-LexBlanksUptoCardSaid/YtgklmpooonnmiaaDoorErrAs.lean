/-
  Lemmas and contracts that the proofs over this seat use (part ErrAs); no statement of the seat is claimed in this text, and nothing is assumed in it.
-/
import Derived.Test.YtgklmpooonnmiaaDoorErr
import Derived.LaidEql
import Derived.Stop.Asserts
import Derived.RowKitTokens
set_option linter.unusedVariables false
set_option linter.unusedSimpArgs false
namespace Go.Proofs.YtgklmpooonnmiaaDoor
open Go.RowKit Go.Extern.Stop Go.Stop Go.Extern
/-- errors.As(nil, target). -/
theorem as_nil (t : Value) (w : World) :
    Calls Tryd.prog 42 #[.nilIface, t] w fun e w' => e = .returned (.bool false) ∧ w' = w := by
  go_enter Tryd.func42, Tryd.ntmps42
  go_wp2
  go_ret
  exact ⟨rfl, rfl⟩
theorem methodKind (h : Value) (w : World) : (Go.method 293 140 (.agg #[h]) "Kind").run Tryd.prog w = .ok (128, h) w := by kernel_rfl
theorem methodElem (h : Value) (w : World) : (Go.method 293 140 (.agg #[h]) "Elem").run Tryd.prog w = .ok (141, .agg #[h]) w := by kernel_rfl
theorem methodImplements (h : Value) (w : World) : (Go.method 293 140 (.agg #[h]) "Implements").run Tryd.prog w = .ok (142, .agg #[h]) w := by kernel_rfl
theorem methodAssignableTo (h : Value) (w : World) : (Go.method 293 140 (.agg #[h]) "AssignableTo").run Tryd.prog w = .ok (139, .agg #[h]) w := by kernel_rfl
theorem methodUnwrap (v : Value) (w : World) : (Go.method 293 70 v "Unwrap").run Tryd.prog w = .ok (133, v) w := by kernel_rfl
theorem rlm (z : Sem Value) (f : TypeId → Addr → Nat → Nat → Sem Value) (v : Value) :
    ReflectliteValue.method z f #[v] = (do match ← ReflectliteValue.parts v with | none => z | some (t, a, fl) => f t a fl (fl % 32)) := rfl
theorem rls (v x : Value) : ReflectliteValue.set #[v, x] = (do
    let (some (dst, a, fl), some (src, b, _)) := (← ReflectliteValue.parts v, ← ReflectliteValue.parts x)
      | unsupported (.noEntry "extern/(internal/reflectlite.Value).Set.zeroValue")
    if fl / ReflectliteValue.flagAddr % 2 == 0 then unsupported (.noEntry "extern/(internal/reflectlite.Value).Set.unaddressable")
    let val ← loadVar src b
    if ← Rtype.directlyAssignable dst src then storeVar dst a val
    else if ← Rtype.implements dst src then
      if (← Rtype.kind src) == 20 then
        match val with
        | .nilIface => unsupported (.noEntry "extern/reflectlite: a nil value of one interface type handed on as a value of another")
        | _ => storeVar dst a val
      else storeVar dst a (.iface src val)
    else panicString ("reflectlite.Set: value of type " ++ (← Rtype.spelt src) ++ " is not assignable to type " ++ (← Rtype.spelt dst))
    pure (.tuple #[])) := rfl
/-! the target N -/
theorem valueOfTN (t : Addr) (w : World) : (ReflectliteValue.unpack (.iface 69 (.pointer (some t)))).run Tryd.prog w
    = .ok (.agg #[.pointer (some ⟨3, 69, none⟩), .pointer (some ⟨w.heap.size, 0, none⟩), .int .u64 150]) (w.alloc (.cells #[.pointer (some t)] 69)) := by kernel_rfl
theorem typeTN (a : Addr) (w : World) : (ReflectliteValue.methodAny (ReflectliteValue.valueError "reflectlite.Value.Type" 0) (fun t _ _ _ => ReflectliteType.toType t) #[.agg #[.pointer (some ⟨3, 69, none⟩), .pointer (some a), .int .u64 150]]).run Tryd.prog w
    = .ok (.iface 140 (.agg #[.pointer (some ⟨3, 69, none⟩)])) w := by kernel_rfl
theorem kindTN (w : World) : ((ReflectliteType.abiMethod fun t => (fun a : Nat => Value.int IntKind.u8 (a : Int)) <$> Rtype.kind t) #[.pointer (some ⟨3, 69, none⟩)]).run Tryd.prog w = .ok (.int .u8 22) w := by kernel_rfl
theorem kindEN (w : World) : ((ReflectliteType.abiMethod fun t => (fun a : Nat => Value.int IntKind.u8 (a : Int)) <$> Rtype.kind t) #[.pointer (some ⟨3, 57, none⟩)]).run Tryd.prog w = .ok (.int .u8 2) w := by kernel_rfl
theorem partsTN (a : Addr) (w : World) : (ReflectliteValue.parts (.agg #[.pointer (some ⟨3, 69, none⟩), .pointer (some a), .int .u64 150])).run Tryd.prog w = .ok (some (69, a, 150)) w := by kernel_rfl
theorem isNilTN (a p : Addr) (W : World) (ha : W.cell? a = some (.pointer (some p))) :
    (ReflectliteValue.method (ReflectliteValue.valueError "reflectlite.Value.IsNil" 0) ReflectliteValue.isNil #[.agg #[.pointer (some ⟨3, 69, none⟩), .pointer (some a), .int .u64 150]]).run Tryd.prog W = .ok (.bool false) W := by
  rw [rlm]
  simp only [Sem.run_bind, partsTN, Result.andThen]
  simp [ReflectliteValue.isNil, loadVar, isAgg, underlying, Tryd.underlying69, ha, Result.andThen]
theorem elemTN (w : World) : (ReflectliteType.method ReflectliteType.elem #[.agg #[.pointer (some ⟨3, 69, none⟩)]]).run Tryd.prog w = .ok (.iface 140 (.agg #[.pointer (some ⟨3, 57, none⟩)])) w := by kernel_rfl
theorem assignN (w : World) : (ReflectliteType.relation "AssignableTo" ReflectliteType.assignableTo #[.agg #[.pointer (some ⟨3, 57, none⟩)], .iface 140 (.agg #[.pointer (some ⟨3, 57, none⟩)])]).run Tryd.prog w = .ok (.bool true) w := by kernel_rfl
theorem elemOfN (w : World) : (Rtype.elem? 69).run Tryd.prog w = .ok (some 57) w := by kernel_rfl
theorem mkEN (p : Addr) (w : World) : (ReflectliteValue.mk 57 p ReflectliteValue.flagAddr).run Tryd.prog w = .ok (.agg #[.pointer (some ⟨3, 57, none⟩), .pointer (some p), .int .u64 386]) w := by kernel_rfl
theorem elemVN (a p : Addr) (W : World) (ha : W.cell? a = some (.pointer (some p))) :
    (ReflectliteValue.method (ReflectliteValue.valueError "reflectlite.Value.Elem" 0) ReflectliteValue.elem #[.agg #[.pointer (some ⟨3, 69, none⟩), .pointer (some a), .int .u64 150]]).run Tryd.prog W
      = .ok (.agg #[.pointer (some ⟨3, 57, none⟩), .pointer (some p), .int .u64 386]) W := by
  rw [rlm]
  simp only [Sem.run_bind, partsTN, Result.andThen]
  simp [ReflectliteValue.elem, loadVar, isAgg, underlying, Tryd.underlying69, ha, Result.andThen, elemOfN, mkEN]
theorem valueOfEN (n : Int) (w : World) : (ReflectliteValue.unpack (.iface 57 (.int .i64 n))).run Tryd.prog w
    = .ok (.agg #[.pointer (some ⟨3, 57, none⟩), .pointer (some ⟨w.heap.size, 0, none⟩), .int .u64 130]) (w.alloc (.cells #[.int .i64 n] 57)) := by kernel_rfl
theorem partsAN (a : Addr) (w : World) : (ReflectliteValue.parts (.agg #[.pointer (some ⟨3, 57, none⟩), .pointer (some a), .int .u64 386])).run Tryd.prog w = .ok (some (57, a, 386)) w := by kernel_rfl
theorem partsEN (a : Addr) (w : World) : (ReflectliteValue.parts (.agg #[.pointer (some ⟨3, 57, none⟩), .pointer (some a), .int .u64 130])).run Tryd.prog w = .ok (some (57, a, 130)) w := by kernel_rfl
theorem directN (w : World) : (Rtype.directlyAssignable 57 57).run Tryd.prog w = .ok true w := by kernel_rfl
theorem sizeEN (w : World) : (sizeOf 57).run Tryd.prog w = .ok 1 w := by kernel_rfl
theorem setN (ta b : Addr) (n : Int) (old : Value) (W : World) (hb : W.cell? b = some (.int .i64 n)) (ht : W.cell? ta = some old) (hf : W.frozen? ta = false) :
    (ReflectliteValue.set #[.agg #[.pointer (some ⟨3, 57, none⟩), .pointer (some ta), .int .u64 386], .agg #[.pointer (some ⟨3, 57, none⟩), .pointer (some b), .int .u64 130]]).run Tryd.prog W
      = .ok (.tuple #[]) (W.setCell ta (.int .i64 n)) := by
  rw [rls]
  simp only [Sem.run_bind, partsAN, partsEN, Result.andThen]
  simp [ReflectliteValue.flagAddr, loadVar, isAgg, underlying, Tryd.underlying57, hb, Result.andThen, directN, storeVar, Value.cells, storeCells, Addr.add, sizeEN]
  rw [run_store Tryd.prog W ta _ _ (by rfl)]
  simp [ht, hf]
/-! the target A -/
theorem valueOfTA (t : Addr) (w : World) : (ReflectliteValue.unpack (.iface 71 (.pointer (some t)))).run Tryd.prog w
    = .ok (.agg #[.pointer (some ⟨3, 71, none⟩), .pointer (some ⟨w.heap.size, 0, none⟩), .int .u64 150]) (w.alloc (.cells #[.pointer (some t)] 71)) := by kernel_rfl
theorem typeTA (a : Addr) (w : World) : (ReflectliteValue.methodAny (ReflectliteValue.valueError "reflectlite.Value.Type" 0) (fun t _ _ _ => ReflectliteType.toType t) #[.agg #[.pointer (some ⟨3, 71, none⟩), .pointer (some a), .int .u64 150]]).run Tryd.prog w
    = .ok (.iface 140 (.agg #[.pointer (some ⟨3, 71, none⟩)])) w := by kernel_rfl
theorem kindTA (w : World) : ((ReflectliteType.abiMethod fun t => (fun a : Nat => Value.int IntKind.u8 (a : Int)) <$> Rtype.kind t) #[.pointer (some ⟨3, 71, none⟩)]).run Tryd.prog w = .ok (.int .u8 22) w := by kernel_rfl
theorem kindEA (w : World) : ((ReflectliteType.abiMethod fun t => (fun a : Nat => Value.int IntKind.u8 (a : Int)) <$> Rtype.kind t) #[.pointer (some ⟨3, 70, none⟩)]).run Tryd.prog w = .ok (.int .u8 22) w := by kernel_rfl
theorem partsTA (a : Addr) (w : World) : (ReflectliteValue.parts (.agg #[.pointer (some ⟨3, 71, none⟩), .pointer (some a), .int .u64 150])).run Tryd.prog w = .ok (some (71, a, 150)) w := by kernel_rfl
theorem isNilTA (a p : Addr) (W : World) (ha : W.cell? a = some (.pointer (some p))) :
    (ReflectliteValue.method (ReflectliteValue.valueError "reflectlite.Value.IsNil" 0) ReflectliteValue.isNil #[.agg #[.pointer (some ⟨3, 71, none⟩), .pointer (some a), .int .u64 150]]).run Tryd.prog W = .ok (.bool false) W := by
  rw [rlm]
  simp only [Sem.run_bind, partsTA, Result.andThen]
  simp [ReflectliteValue.isNil, loadVar, isAgg, underlying, Tryd.underlying71, ha, Result.andThen]
theorem elemTA (w : World) : (ReflectliteType.method ReflectliteType.elem #[.agg #[.pointer (some ⟨3, 71, none⟩)]]).run Tryd.prog w = .ok (.iface 140 (.agg #[.pointer (some ⟨3, 70, none⟩)])) w := by kernel_rfl
theorem assignA (w : World) : (ReflectliteType.relation "AssignableTo" ReflectliteType.assignableTo #[.agg #[.pointer (some ⟨3, 70, none⟩)], .iface 140 (.agg #[.pointer (some ⟨3, 70, none⟩)])]).run Tryd.prog w = .ok (.bool true) w := by kernel_rfl
theorem elemOfA (w : World) : (Rtype.elem? 71).run Tryd.prog w = .ok (some 70) w := by kernel_rfl
theorem mkEA (p : Addr) (w : World) : (ReflectliteValue.mk 70 p ReflectliteValue.flagAddr).run Tryd.prog w = .ok (.agg #[.pointer (some ⟨3, 70, none⟩), .pointer (some p), .int .u64 406]) w := by kernel_rfl
theorem elemVA (a p : Addr) (W : World) (ha : W.cell? a = some (.pointer (some p))) :
    (ReflectliteValue.method (ReflectliteValue.valueError "reflectlite.Value.Elem" 0) ReflectliteValue.elem #[.agg #[.pointer (some ⟨3, 71, none⟩), .pointer (some a), .int .u64 150]]).run Tryd.prog W
      = .ok (.agg #[.pointer (some ⟨3, 70, none⟩), .pointer (some p), .int .u64 406]) W := by
  rw [rlm]
  simp only [Sem.run_bind, partsTA, Result.andThen]
  simp [ReflectliteValue.elem, loadVar, isAgg, underlying, Tryd.underlying71, ha, Result.andThen, elemOfA, mkEA]
theorem valueOfEA (n : Addr) (w : World) : (ReflectliteValue.unpack (.iface 70 (.pointer (some n)))).run Tryd.prog w
    = .ok (.agg #[.pointer (some ⟨3, 70, none⟩), .pointer (some ⟨w.heap.size, 0, none⟩), .int .u64 150]) (w.alloc (.cells #[.pointer (some n)] 70)) := by kernel_rfl
theorem partsAA (a : Addr) (w : World) : (ReflectliteValue.parts (.agg #[.pointer (some ⟨3, 70, none⟩), .pointer (some a), .int .u64 406])).run Tryd.prog w = .ok (some (70, a, 406)) w := by kernel_rfl
theorem partsEA (a : Addr) (w : World) : (ReflectliteValue.parts (.agg #[.pointer (some ⟨3, 70, none⟩), .pointer (some a), .int .u64 150])).run Tryd.prog w = .ok (some (70, a, 150)) w := by kernel_rfl
theorem directA (w : World) : (Rtype.directlyAssignable 70 70).run Tryd.prog w = .ok true w := by kernel_rfl
theorem sizeEA (w : World) : (sizeOf 70).run Tryd.prog w = .ok 1 w := by kernel_rfl
theorem setA (ta b : Addr) (n : Addr) (old : Value) (W : World) (hb : W.cell? b = some (.pointer (some n))) (ht : W.cell? ta = some old) (hf : W.frozen? ta = false) :
    (ReflectliteValue.set #[.agg #[.pointer (some ⟨3, 70, none⟩), .pointer (some ta), .int .u64 406], .agg #[.pointer (some ⟨3, 70, none⟩), .pointer (some b), .int .u64 150]]).run Tryd.prog W
      = .ok (.tuple #[]) (W.setCell ta (.pointer (some n))) := by
  rw [rls]
  simp only [Sem.run_bind, partsAA, partsEA, Result.andThen]
  simp [ReflectliteValue.flagAddr, loadVar, isAgg, underlying, Tryd.underlying70, hb, Result.andThen, directA, storeVar, Value.cells, storeCells, Addr.add, sizeEA]
  rw [run_store Tryd.prog W ta _ _ (by rfl)]
  simp [ht, hf]
/-! the errors' own types -/
theorem typeOfNo (v : Value) (w : World) : (ReflectliteType.typeOf #[.iface 57 v]).run Tryd.prog w = .ok (.iface 140 (.agg #[.pointer (some ⟨3, 57, none⟩)])) w := by kernel_rfl
theorem typeOfAt (v : Value) (w : World) : (ReflectliteType.typeOf #[.iface 70 v]).run Tryd.prog w = .ok (.iface 140 (.agg #[.pointer (some ⟨3, 70, none⟩)])) w := by kernel_rfl
theorem implementsAt (w : World) : (ReflectliteType.relation "Implements" ReflectliteType.implements_ #[.agg #[.pointer (some ⟨3, 70, none⟩)], .iface 140 (.agg #[.pointer (some ⟨3, 32, none⟩)])]).run Tryd.prog w = .ok (.bool true) w := by kernel_rfl
theorem assignAtN (w : World) : (ReflectliteType.relation "AssignableTo" ReflectliteType.assignableTo #[.agg #[.pointer (some ⟨3, 70, none⟩)], .iface 140 (.agg #[.pointer (some ⟨3, 57, none⟩)])]).run Tryd.prog w = .ok (.bool false) w := by kernel_rfl
theorem assignNA (w : World) : (ReflectliteType.relation "AssignableTo" ReflectliteType.assignableTo #[.agg #[.pointer (some ⟨3, 57, none⟩)], .iface 140 (.agg #[.pointer (some ⟨3, 70, none⟩)])]).run Tryd.prog w = .ok (.bool false) w := by kernel_rfl
theorem noAsAt (v : Value) (xT : TypeId) (w : World) : (Instr.typeAssert (.iface 70 v) xT 145 true).run Tryd.prog w = .ok (.tuple #[.nilIface, .bool false]) w :=
  run_typeAssert_lacksB Tryd.underlying145 (by kernel_rfl) (by kernel_rfl) v xT w
theorem noAsNo (v : Value) (xT : TypeId) (w : World) : (Instr.typeAssert (.iface 57 v) xT 145 true).run Tryd.prog w = .ok (.tuple #[.nilIface, .bool false]) w :=
  run_typeAssert_lacksB Tryd.underlying145 (by kernel_rfl) (by kernel_rfl) v xT w
theorem unwAt (v : Value) (xT : TypeId) (w : World) : (Instr.typeAssert (.iface 70 v) xT 148 true).run Tryd.prog w = .ok (.tuple #[.iface 70 v, .bool true]) w :=
  run_typeAssert_hasB Tryd.underlying148 (by kernel_rfl) v xT w
theorem noUnwNo (v : Value) (xT : TypeId) (w : World) : (Instr.typeAssert (.iface 57 v) xT 148 true).run Tryd.prog w = .ok (.tuple #[.nilIface, .bool false]) w :=
  run_typeAssert_lacksB Tryd.underlying148 (by kernel_rfl) (by kernel_rfl) v xT w
theorem noUnwsNo (v : Value) (xT : TypeId) (w : World) : (Instr.typeAssert (.iface 57 v) xT 150 true).run Tryd.prog w = .ok (.tuple #[.nilIface, .bool false]) w :=
  run_typeAssert_lacksB Tryd.underlying150 (by kernel_rfl) (by kernel_rfl) v xT w
end Go.Proofs.YtgklmpooonnmiaaDoor
