/-
  Lemmas and contracts that the proofs over this seat use (ErrAs, ErrAs2, Num, RefRead); no statement of the seat is claimed in this text, and nothing is assumed in it.
-/
import Derived.Test.YtgklmpooonnmiaaGreatDoorK2
import Derived.LaidEql
import Derived.Stop.Asserts
import Derived.RowKitTokens
import Derived.Test.YtgklmpooonnmiaaGreatDoorK22
set_option linter.unusedVariables false
set_option linter.unusedSimpArgs false
namespace Go.Proofs.YtgklmpooonnmiaaGreatDoor
open Go.RowKit Go.Extern.Stop Go.Stop Go.Extern
theorem methodKind (h:Value) (w:World):(Go.method 289 137 (.agg #[h]) "Kind").run Tryz.prog w=.ok (122,h) w:=by kernel_rfl
theorem methodElem (h:Value) (w:World):(Go.method 289 137 (.agg #[h]) "Elem").run Tryz.prog w=.ok (135,.agg #[h]) w:=by kernel_rfl
theorem methodImplements (h:Value) (w:World):(Go.method 289 137 (.agg #[h]) "Implements").run Tryz.prog w=.ok (136,.agg #[h]) w:=by kernel_rfl
theorem methodAssignableTo (h:Value) (w:World):(Go.method 289 137 (.agg #[h]) "AssignableTo").run Tryz.prog w=.ok (133,.agg #[h]) w:=by kernel_rfl
theorem methodUnwrap (v:Value) (w:World):(Go.method 289 46 v "Unwrap").run Tryz.prog w=.ok (126,v) w:=by kernel_rfl
theorem rlm (z:Sem Value) (f:TypeId → Addr → Nat → Nat → Sem Value) (v:Value) :
  ReflectliteValue.method z f #[v]=(do match ← ReflectliteValue.parts v with | none=>z | some (t,a,fl)=>f t a fl (fl % 32)):=rfl
theorem rls (v x:Value):ReflectliteValue.set #[v,x]=(do
  let (some (dst,a,fl),some (src,b,_)):=(← ReflectliteValue.parts v,← ReflectliteValue.parts x)
   | unsupported (.noEntry "extern/(internal/reflectlite.Value).Set.zeroValue")
  if fl / ReflectliteValue.flagAddr % 2 == 0 then unsupported (.noEntry "extern/(internal/reflectlite.Value).Set.unaddressable")
  let val ← loadVar src b
  if ← Rtype.directlyAssignable dst src then storeVar dst a val
  else if ← Rtype.implements dst src then
   if (← Rtype.kind src) == 20 then
    match val with
    | .nilIface=>unsupported (.noEntry "extern/reflectlite: a nil value of one interface type handed on as a value of another")
    | _=>storeVar dst a val
   else storeVar dst a (.iface src val)
  else panicString ("reflectlite.Set: value of type " ++ (← Rtype.spelt src) ++ " is not assignable to type " ++ (← Rtype.spelt dst))
  pure (.tuple #[])):=rfl
/-! the target N -/
theorem valueOfTN (t:Addr) (w:World):(ReflectliteValue.unpack (.iface 65 (.pointer (some t)))).run Tryz.prog w
  = .ok (.agg #[.pointer (some ⟨3,65,none⟩),.pointer (some ⟨w.heap.size,0,none⟩),.int .u64 150]) (w.alloc (.cells #[.pointer (some t)] 65)):=by kernel_rfl
theorem typeTN (a:Addr) (w:World):(ReflectliteValue.methodAny (ReflectliteValue.valueError "reflectlite.Value.Type" 0) (fun t _ _ _=>ReflectliteType.toType t) #[.agg #[.pointer (some ⟨3,65,none⟩),.pointer (some a),.int .u64 150]]).run Tryz.prog w
  = .ok (.iface 137 (.agg #[.pointer (some ⟨3,65,none⟩)])) w:=by kernel_rfl
theorem kindTN (w:World):((ReflectliteType.abiMethod fun t=>(fun a:Nat=>Value.int IntKind.u8 (a:Int)) <$> Rtype.kind t) #[.pointer (some ⟨3,65,none⟩)]).run Tryz.prog w=.ok (.int .u8 22) w:=by kernel_rfl
theorem kindEN (w:World):((ReflectliteType.abiMethod fun t=>(fun a:Nat=>Value.int IntKind.u8 (a:Int)) <$> Rtype.kind t) #[.pointer (some ⟨3,57,none⟩)]).run Tryz.prog w=.ok (.int .u8 2) w:=by kernel_rfl
theorem partsTN (a:Addr) (w:World):(ReflectliteValue.parts (.agg #[.pointer (some ⟨3,65,none⟩),.pointer (some a),.int .u64 150])).run Tryz.prog w=.ok (some (65,a,150)) w:=by kernel_rfl
theorem isNilTN (a p:Addr) (W:World) (ha:W.cell? a=some (.pointer (some p))) :
  (ReflectliteValue.method (ReflectliteValue.valueError "reflectlite.Value.IsNil" 0) ReflectliteValue.isNil #[.agg #[.pointer (some ⟨3,65,none⟩),.pointer (some a),.int .u64 150]]).run Tryz.prog W=.ok (.bool false) W:=by
 rw [rlm]
 simp only [Sem.run_bind,partsTN,Result.andThen]
 simp [ReflectliteValue.isNil,loadVar,isAgg,underlying,Tryz.underlying65,ha,Result.andThen]
theorem elemTN (w:World):(ReflectliteType.method ReflectliteType.elem #[.agg #[.pointer (some ⟨3,65,none⟩)]]).run Tryz.prog w=.ok (.iface 137 (.agg #[.pointer (some ⟨3,57,none⟩)])) w:=by kernel_rfl
theorem assignN (w:World):(ReflectliteType.relation "AssignableTo" ReflectliteType.assignableTo #[.agg #[.pointer (some ⟨3,57,none⟩)],.iface 137 (.agg #[.pointer (some ⟨3,57,none⟩)])]).run Tryz.prog w=.ok (.bool true) w:=by kernel_rfl
theorem elemOfN (w:World):(Rtype.elem? 65).run Tryz.prog w=.ok (some 57) w:=by kernel_rfl
theorem mkEN (p:Addr) (w:World):(ReflectliteValue.mk 57 p ReflectliteValue.flagAddr).run Tryz.prog w=.ok (.agg #[.pointer (some ⟨3,57,none⟩),.pointer (some p),.int .u64 386]) w:=by kernel_rfl
theorem elemVN (a p:Addr) (W:World) (ha:W.cell? a=some (.pointer (some p))) :
  (ReflectliteValue.method (ReflectliteValue.valueError "reflectlite.Value.Elem" 0) ReflectliteValue.elem #[.agg #[.pointer (some ⟨3, 65, none⟩), .pointer (some a), .int .u64 150]]).run Tryz.prog W
   = .ok (.agg #[.pointer (some ⟨3,57,none⟩),.pointer (some p),.int .u64 386]) W:=by
 rw [rlm]
 simp only [Sem.run_bind,partsTN,Result.andThen]
 simp [ReflectliteValue.elem,loadVar,isAgg,underlying,Tryz.underlying65,ha,Result.andThen,elemOfN,mkEN]
theorem valueOfEN (n:Int) (w:World):(ReflectliteValue.unpack (.iface 57 (.int .i64 n))).run Tryz.prog w
  = .ok (.agg #[.pointer (some ⟨3,57,none⟩),.pointer (some ⟨w.heap.size,0,none⟩),.int .u64 130]) (w.alloc (.cells #[.int .i64 n] 57)):=by kernel_rfl
theorem partsAN (a:Addr) (w:World):(ReflectliteValue.parts (.agg #[.pointer (some ⟨3,57,none⟩),.pointer (some a),.int .u64 386])).run Tryz.prog w=.ok (some (57,a,386)) w:=by kernel_rfl
theorem partsEN (a:Addr) (w:World):(ReflectliteValue.parts (.agg #[.pointer (some ⟨3,57,none⟩),.pointer (some a),.int .u64 130])).run Tryz.prog w=.ok (some (57,a,130)) w:=by kernel_rfl
theorem directN (w:World):(Rtype.directlyAssignable 57 57).run Tryz.prog w=.ok true w:=by kernel_rfl
theorem sizeEN (w:World):(sizeOf 57).run Tryz.prog w=.ok 1 w:=by kernel_rfl
theorem setN (ta b:Addr) (n:Int) (old:Value) (W:World) (hb:W.cell? b=some (.int .i64 n)) (ht:W.cell? ta=some old) (hf:W.frozen? ta=false) :
  (ReflectliteValue.set #[.agg #[.pointer (some ⟨3, 57, none⟩), .pointer (some ta), .int .u64 386], .agg #[.pointer (some ⟨3, 57, none⟩), .pointer (some b), .int .u64 130]]).run Tryz.prog W
   = .ok (.tuple #[]) (W.setCell ta (.int .i64 n)):=by
 rw [rls]
 simp only [Sem.run_bind,partsAN,partsEN,Result.andThen]
 simp [ReflectliteValue.flagAddr,loadVar,isAgg,underlying,Tryz.underlying57,hb,Result.andThen,directN,storeVar,Value.cells,storeCells,Addr.add,sizeEN]
 rw [run_store Tryz.prog W ta _ _ (by rfl)]
 simp [ht,hf]
/-! the target A -/
theorem valueOfTA (t:Addr) (w:World):(ReflectliteValue.unpack (.iface 66 (.pointer (some t)))).run Tryz.prog w
  = .ok (.agg #[.pointer (some ⟨3,66,none⟩),.pointer (some ⟨w.heap.size,0,none⟩),.int .u64 150]) (w.alloc (.cells #[.pointer (some t)] 66)):=by kernel_rfl
theorem typeTA (a:Addr) (w:World):(ReflectliteValue.methodAny (ReflectliteValue.valueError "reflectlite.Value.Type" 0) (fun t _ _ _=>ReflectliteType.toType t) #[.agg #[.pointer (some ⟨3,66,none⟩),.pointer (some a),.int .u64 150]]).run Tryz.prog w
  = .ok (.iface 137 (.agg #[.pointer (some ⟨3,66,none⟩)])) w:=by kernel_rfl
theorem kindTA (w:World):((ReflectliteType.abiMethod fun t=>(fun a:Nat=>Value.int IntKind.u8 (a:Int)) <$> Rtype.kind t) #[.pointer (some ⟨3,66,none⟩)]).run Tryz.prog w=.ok (.int .u8 22) w:=by kernel_rfl
theorem kindEA (w:World):((ReflectliteType.abiMethod fun t=>(fun a:Nat=>Value.int IntKind.u8 (a:Int)) <$> Rtype.kind t) #[.pointer (some ⟨3,46,none⟩)]).run Tryz.prog w=.ok (.int .u8 22) w:=by kernel_rfl
theorem partsTA (a:Addr) (w:World):(ReflectliteValue.parts (.agg #[.pointer (some ⟨3,66,none⟩),.pointer (some a),.int .u64 150])).run Tryz.prog w=.ok (some (66,a,150)) w:=by kernel_rfl
theorem isNilTA (a p:Addr) (W:World) (ha:W.cell? a=some (.pointer (some p))) :
  (ReflectliteValue.method (ReflectliteValue.valueError "reflectlite.Value.IsNil" 0) ReflectliteValue.isNil #[.agg #[.pointer (some ⟨3,66,none⟩),.pointer (some a),.int .u64 150]]).run Tryz.prog W=.ok (.bool false) W:=by
 rw [rlm]
 simp only [Sem.run_bind,partsTA,Result.andThen]
 simp [ReflectliteValue.isNil,loadVar,isAgg,underlying,Tryz.underlying66,ha,Result.andThen]
theorem elemTA (w:World):(ReflectliteType.method ReflectliteType.elem #[.agg #[.pointer (some ⟨3,66,none⟩)]]).run Tryz.prog w=.ok (.iface 137 (.agg #[.pointer (some ⟨3,46,none⟩)])) w:=by kernel_rfl
theorem assignA (w:World):(ReflectliteType.relation "AssignableTo" ReflectliteType.assignableTo #[.agg #[.pointer (some ⟨3,46,none⟩)],.iface 137 (.agg #[.pointer (some ⟨3,46,none⟩)])]).run Tryz.prog w=.ok (.bool true) w:=by kernel_rfl
theorem elemOfA (w:World):(Rtype.elem? 66).run Tryz.prog w=.ok (some 46) w:=by kernel_rfl
theorem mkEA (p:Addr) (w:World):(ReflectliteValue.mk 46 p ReflectliteValue.flagAddr).run Tryz.prog w=.ok (.agg #[.pointer (some ⟨3,46,none⟩),.pointer (some p),.int .u64 406]) w:=by kernel_rfl
theorem elemVA (a p:Addr) (W:World) (ha:W.cell? a=some (.pointer (some p))) :
  (ReflectliteValue.method (ReflectliteValue.valueError "reflectlite.Value.Elem" 0) ReflectliteValue.elem #[.agg #[.pointer (some ⟨3, 66, none⟩), .pointer (some a), .int .u64 150]]).run Tryz.prog W
   = .ok (.agg #[.pointer (some ⟨3,46,none⟩),.pointer (some p),.int .u64 406]) W:=by
 rw [rlm]
 simp only [Sem.run_bind,partsTA,Result.andThen]
 simp [ReflectliteValue.elem,loadVar,isAgg,underlying,Tryz.underlying66,ha,Result.andThen,elemOfA,mkEA]
theorem valueOfEA (n:Addr) (w:World):(ReflectliteValue.unpack (.iface 46 (.pointer (some n)))).run Tryz.prog w
  = .ok (.agg #[.pointer (some ⟨3,46,none⟩),.pointer (some ⟨w.heap.size,0,none⟩),.int .u64 150]) (w.alloc (.cells #[.pointer (some n)] 46)):=by kernel_rfl
theorem partsAA (a:Addr) (w:World):(ReflectliteValue.parts (.agg #[.pointer (some ⟨3,46,none⟩),.pointer (some a),.int .u64 406])).run Tryz.prog w=.ok (some (46,a,406)) w:=by kernel_rfl
theorem partsEA (a:Addr) (w:World):(ReflectliteValue.parts (.agg #[.pointer (some ⟨3,46,none⟩),.pointer (some a),.int .u64 150])).run Tryz.prog w=.ok (some (46,a,150)) w:=by kernel_rfl
theorem directA (w:World):(Rtype.directlyAssignable 46 46).run Tryz.prog w=.ok true w:=by kernel_rfl
theorem sizeEA (w:World):(sizeOf 46).run Tryz.prog w=.ok 1 w:=by kernel_rfl
theorem setA (ta b:Addr) (n:Addr) (old:Value) (W:World) (hb:W.cell? b=some (.pointer (some n))) (ht:W.cell? ta=some old) (hf:W.frozen? ta=false) :
  (ReflectliteValue.set #[.agg #[.pointer (some ⟨3, 46, none⟩), .pointer (some ta), .int .u64 406], .agg #[.pointer (some ⟨3, 46, none⟩), .pointer (some b), .int .u64 150]]).run Tryz.prog W
   = .ok (.tuple #[]) (W.setCell ta (.pointer (some n))):=by
 rw [rls]
 simp only [Sem.run_bind,partsAA,partsEA,Result.andThen]
 simp [ReflectliteValue.flagAddr,loadVar,isAgg,underlying,Tryz.underlying46,hb,Result.andThen,directA,storeVar,Value.cells,storeCells,Addr.add,sizeEA]
 rw [run_store Tryz.prog W ta _ _ (by rfl)]
 simp [ht,hf]
/-! the errors' own types -/
theorem typeOfNo (v:Value) (w:World):(ReflectliteType.typeOf #[.iface 57 v]).run Tryz.prog w=.ok (.iface 137 (.agg #[.pointer (some ⟨3,57,none⟩)])) w:=by kernel_rfl
theorem typeOfAt (v:Value) (w:World):(ReflectliteType.typeOf #[.iface 46 v]).run Tryz.prog w=.ok (.iface 137 (.agg #[.pointer (some ⟨3,46,none⟩)])) w:=by kernel_rfl
theorem implementsAt (w:World):(ReflectliteType.relation "Implements" ReflectliteType.implements_ #[.agg #[.pointer (some ⟨3,46,none⟩)],.iface 137 (.agg #[.pointer (some ⟨3,25,none⟩)])]).run Tryz.prog w=.ok (.bool true) w:=by kernel_rfl
theorem assignAtN (w:World):(ReflectliteType.relation "AssignableTo" ReflectliteType.assignableTo #[.agg #[.pointer (some ⟨3,46,none⟩)],.iface 137 (.agg #[.pointer (some ⟨3,57,none⟩)])]).run Tryz.prog w=.ok (.bool false) w:=by kernel_rfl
theorem assignNA (w:World):(ReflectliteType.relation "AssignableTo" ReflectliteType.assignableTo #[.agg #[.pointer (some ⟨3,57,none⟩)],.iface 137 (.agg #[.pointer (some ⟨3,46,none⟩)])]).run Tryz.prog w=.ok (.bool false) w:=by kernel_rfl
theorem noAsAt (v:Value) (xT:TypeId) (w:World):(Instr.typeAssert (.iface 46 v) xT 142 true).run Tryz.prog w=.ok (.tuple #[.nilIface,.bool false]) w :=
 run_typeAssert_lacksB Tryz.underlying142 (by kernel_rfl) (by kernel_rfl) v xT w
theorem noAsNo (v:Value) (xT:TypeId) (w:World):(Instr.typeAssert (.iface 57 v) xT 142 true).run Tryz.prog w=.ok (.tuple #[.nilIface,.bool false]) w :=
 run_typeAssert_lacksB Tryz.underlying142 (by kernel_rfl) (by kernel_rfl) v xT w
theorem unwAt (v:Value) (xT:TypeId) (w:World):(Instr.typeAssert (.iface 46 v) xT 145 true).run Tryz.prog w=.ok (.tuple #[.iface 46 v,.bool true]) w :=
 run_typeAssert_hasB Tryz.underlying145 (by kernel_rfl) v xT w
theorem noUnwNo (v:Value) (xT:TypeId) (w:World):(Instr.typeAssert (.iface 57 v) xT 145 true).run Tryz.prog w=.ok (.tuple #[.nilIface,.bool false]) w :=
 run_typeAssert_lacksB Tryz.underlying145 (by kernel_rfl) (by kernel_rfl) v xT w
theorem noUnwsNo (v:Value) (xT:TypeId) (w:World):(Instr.typeAssert (.iface 57 v) xT 147 true).run Tryz.prog w=.ok (.tuple #[.nilIface,.bool false]) w :=
 run_typeAssert_lacksB Tryz.underlying147 (by kernel_rfl) (by kernel_rfl) v xT w
end Go.Proofs.YtgklmpooonnmiaaGreatDoor

namespace Go.Proofs.YtgklmpooonnmiaaGreatDoor
open Go.RowKit Go.Extern.Stop Go.Stop Go.Extern
def ErrT (w:World):Prop:=w.cell? ⟨0,0,none⟩=some (.iface 137 (.agg #[.pointer (some ⟨3,25,none⟩)]))
theorem implementsNo (w:World):(ReflectliteType.relation "Implements" ReflectliteType.implements_ #[.agg #[.pointer (some ⟨3,57,none⟩)],.iface 137 (.agg #[.pointer (some ⟨3,25,none⟩)])]).run Tryz.prog w=.ok (.bool true) w:=by kernel_rfl
set_option maxHeartbeats 4000000 in
set_option maxRecDepth 100000 in
theorem as_num_no (n:Int) (t:Addr) (w:World) (hg:ErrT w) (hlt:0 < w.heap.size) (old:Value) (ht0:w.cell? t=some old) (hf0:w.frozen? t=false) :
  Calls Tryz.prog 24 #[.iface 57 (.int .i64 n),.iface 65 (.pointer (some t))] w fun e w'=>e=.returned (.bool true) ∧ w'=((((w.alloc (.cells #[.pointer (some t)] 65)).alloc (.cells #[.pointer (some ⟨3,65,none⟩),.pointer (some ⟨w.heap.size,0,none⟩),.int .u64 150] 108)).alloc (.cells #[.pointer (some ⟨3,65,none⟩),.pointer (some ⟨w.heap.size,0,none⟩),.int .u64 150] 108)).alloc (.cells #[.int .i64 n] 57)).setCell t (.int .i64 n):=by
 have c0:=@run_callFunc_extern Tryz.prog 55 _ (fun args=>ReflectliteValue.unpack (args.getD 0 (.tuple #[]))) Tryz.func55 (by kernel_rfl) (by kernel_rfl) (by kernel_rfl) (by kernel_rfl)
 have c1:=@run_callFunc_extern Tryz.prog 56 _ (ReflectliteValue.methodAny (ReflectliteValue.valueError "reflectlite.Value.Type" 0) (fun t _ _ _=>ReflectliteType.toType t)) Tryz.func56 (by kernel_rfl) (by kernel_rfl) (by kernel_rfl) (by kernel_rfl)
 have c2:=@run_callFunc_extern Tryz.prog 57 _ (ReflectliteValue.method (ReflectliteValue.valueError "reflectlite.Value.IsNil" 0) ReflectliteValue.isNil) Tryz.func57 (by kernel_rfl) (by kernel_rfl) (by kernel_rfl) (by kernel_rfl)
 have c3:=@run_callFunc_extern Tryz.prog 122 _ (ReflectliteType.abiMethod fun t=>do pure (.int .u8 (← Rtype.kind t))) Tryz.func122 (by kernel_rfl) (by kernel_rfl) (by kernel_rfl) (by kernel_rfl)
 have c4:=@run_callFunc_extern Tryz.prog 135 _ (ReflectliteType.method ReflectliteType.elem) Tryz.func135 (by kernel_rfl) (by kernel_rfl) (by kernel_rfl) (by kernel_rfl)
 have c5:=@run_callFunc_extern Tryz.prog 136 _ (ReflectliteType.relation "Implements" ReflectliteType.implements_) Tryz.func136 (by kernel_rfl) (by kernel_rfl) (by kernel_rfl) (by kernel_rfl)
 have c6:=@run_callFunc_extern Tryz.prog 84 _ ReflectliteType.typeOf Tryz.func84 (by kernel_rfl) (by kernel_rfl) (by kernel_rfl) (by kernel_rfl)
 have c7:=@run_callFunc_extern Tryz.prog 133 _ (ReflectliteType.relation "AssignableTo" ReflectliteType.assignableTo) Tryz.func133 (by kernel_rfl) (by kernel_rfl) (by kernel_rfl) (by kernel_rfl)
 have c8:=@run_callFunc_extern Tryz.prog 85 _ (ReflectliteValue.method (ReflectliteValue.valueError "reflectlite.Value.Elem" 0) ReflectliteValue.elem) Tryz.func85 (by kernel_rfl) (by kernel_rfl) (by kernel_rfl) (by kernel_rfl)
 have c9:=@run_callFunc_extern Tryz.prog 86 _ ReflectliteValue.set Tryz.func86 (by kernel_rfl) (by kernel_rfl) (by kernel_rfl) (by kernel_rfl)
 have f6:=valueOfTN
 have f7:=typeTN
 have mK:=methodKind
 have mE:=methodElem
 have mI:=methodImplements
 have mA:=methodAssignableTo
 have kT:=kindTN
 have kE:=kindEN
 have eT:=elemTN
 have iN:=implementsNo
 have tO:=typeOfNo
 have aE:=assignN
 have vE:=valueOfEN
 have n8:=isNilTN ⟨w.heap.size,0,none⟩ t ((w.alloc (.cells #[.pointer (some t)] 65)).alloc (.cells #[.pointer (some ⟨3,65,none⟩),.pointer (some ⟨w.heap.size,0,none⟩),.int .u64 150] 108)) (by simp)
 have hg2:((w.alloc (.cells #[.pointer (some t)] 65)).alloc (.cells #[.pointer (some ⟨3,65,none⟩),.pointer (some ⟨w.heap.size,0,none⟩),.int .u64 150] 108)).cell? ⟨0,0,none⟩=some (.iface 137 (.agg #[.pointer (some ⟨3,25,none⟩)])):=by
  rw [World.cell?_alloc_lt _ _ ⟨0,0,none⟩ (by simp),World.cell?_alloc_lt _ _ ⟨0,0,none⟩ hlt];exact hg
 have htl:t.block < w.heap.size:=World.block_lt_of_cell? w _ ht0
 have el:=elemVN ⟨w.heap.size,0,none⟩ t (((w.alloc (.cells #[.pointer (some t)] 65)).alloc (.cells #[.pointer (some ⟨3,65,none⟩),.pointer (some ⟨w.heap.size,0,none⟩),.int .u64 150] 108)).alloc (.cells #[.pointer (some ⟨3,65,none⟩),.pointer (some ⟨w.heap.size,0,none⟩),.int .u64 150] 108)) (by rw [World.cell?_alloc_lt _ _ ⟨w.heap.size,0,none⟩ (by simp;omega)];simp)
 have st:=setN t ⟨w.heap.size+1+1+1,0,none⟩ n old ((((w.alloc (.cells #[.pointer (some t)] 65)).alloc (.cells #[.pointer (some ⟨3,65,none⟩),.pointer (some ⟨w.heap.size,0,none⟩),.int .u64 150] 108)).alloc (.cells #[.pointer (some ⟨3,65,none⟩),.pointer (some ⟨w.heap.size,0,none⟩),.int .u64 150] 108)).alloc (.cells #[.int .i64 n] 57))
  (by rw [World.cell?_alloc_at _ _ _ _ (by simp)];rfl)
  (by rw [World.cell?_alloc_lt _ _ t (by simp;omega),World.cell?_alloc_lt _ _ t (by simp;omega),World.cell?_alloc_lt _ _ t (by simp;omega),World.cell?_alloc_lt _ _ t htl];exact ht0)
  (by rw [World.frozen?_alloc_old _ _ t (by simp;omega),World.frozen?_alloc_old _ _ t (by simp;omega),World.frozen?_alloc_old _ _ t (by simp;omega),World.frozen?_alloc_old _ _ t (Nat.ne_of_lt htl)];exact hf0)
 go_enter Tryz.func24,Tryz.ntmps24
 go_wp2
 refine wp_loop_rounds 1 ?_
 rw [rounds_succ]
 go_wp2
 go_ret
 exact ⟨rfl,rfl⟩
set_option maxHeartbeats 4000000 in
set_option maxRecDepth 100000 in
theorem as_num_at (n:Int) (b:Nat) (p:Value) (t:Addr) (w:World) (hb:w.heap[b]?=some (.cells #[p,.iface 57 (.int .i64 n)] 68 (0,0))) (hg:ErrT w) (hlt:0 < w.heap.size) (old:Value) (ht0:w.cell? t=some old) (hf0:w.frozen? t=false) :
  Calls Tryz.prog 24 #[.iface 46 (.pointer (some ⟨b,0,none⟩)),.iface 65 (.pointer (some t))] w fun e w'=>e=.returned (.bool true) ∧ w'=((((w.alloc (.cells #[.pointer (some t)] 65)).alloc (.cells #[.pointer (some ⟨3,65,none⟩),.pointer (some ⟨w.heap.size,0,none⟩),.int .u64 150] 108)).alloc (.cells #[.pointer (some ⟨3,65,none⟩),.pointer (some ⟨w.heap.size,0,none⟩),.int .u64 150] 108)).alloc (.cells #[.int .i64 n] 57)).setCell t (.int .i64 n):=by
 have c0:=@run_callFunc_extern Tryz.prog 55 _ (fun args=>ReflectliteValue.unpack (args.getD 0 (.tuple #[]))) Tryz.func55 (by kernel_rfl) (by kernel_rfl) (by kernel_rfl) (by kernel_rfl)
 have c1:=@run_callFunc_extern Tryz.prog 56 _ (ReflectliteValue.methodAny (ReflectliteValue.valueError "reflectlite.Value.Type" 0) (fun t _ _ _=>ReflectliteType.toType t)) Tryz.func56 (by kernel_rfl) (by kernel_rfl) (by kernel_rfl) (by kernel_rfl)
 have c2:=@run_callFunc_extern Tryz.prog 57 _ (ReflectliteValue.method (ReflectliteValue.valueError "reflectlite.Value.IsNil" 0) ReflectliteValue.isNil) Tryz.func57 (by kernel_rfl) (by kernel_rfl) (by kernel_rfl) (by kernel_rfl)
 have c3:=@run_callFunc_extern Tryz.prog 122 _ (ReflectliteType.abiMethod fun t=>do pure (.int .u8 (← Rtype.kind t))) Tryz.func122 (by kernel_rfl) (by kernel_rfl) (by kernel_rfl) (by kernel_rfl)
 have c4:=@run_callFunc_extern Tryz.prog 135 _ (ReflectliteType.method ReflectliteType.elem) Tryz.func135 (by kernel_rfl) (by kernel_rfl) (by kernel_rfl) (by kernel_rfl)
 have c5:=@run_callFunc_extern Tryz.prog 136 _ (ReflectliteType.relation "Implements" ReflectliteType.implements_) Tryz.func136 (by kernel_rfl) (by kernel_rfl) (by kernel_rfl) (by kernel_rfl)
 have c6:=@run_callFunc_extern Tryz.prog 84 _ ReflectliteType.typeOf Tryz.func84 (by kernel_rfl) (by kernel_rfl) (by kernel_rfl) (by kernel_rfl)
 have c7:=@run_callFunc_extern Tryz.prog 133 _ (ReflectliteType.relation "AssignableTo" ReflectliteType.assignableTo) Tryz.func133 (by kernel_rfl) (by kernel_rfl) (by kernel_rfl) (by kernel_rfl)
 have c8:=@run_callFunc_extern Tryz.prog 85 _ (ReflectliteValue.method (ReflectliteValue.valueError "reflectlite.Value.Elem" 0) ReflectliteValue.elem) Tryz.func85 (by kernel_rfl) (by kernel_rfl) (by kernel_rfl) (by kernel_rfl)
 have c9:=@run_callFunc_extern Tryz.prog 86 _ ReflectliteValue.set Tryz.func86 (by kernel_rfl) (by kernel_rfl) (by kernel_rfl) (by kernel_rfl)
 have f6:=valueOfTN
 have f7:=typeTN
 have mK:=methodKind
 have mE:=methodElem
 have mI:=methodImplements
 have mA:=methodAssignableTo
 have kT:=kindTN
 have kE:=kindEN
 have eT:=elemTN
 have iN:=implementsNo
 have tA:=typeOfAt
 have aF:=assignAtN
 have nA:=noAsAt
 have uA:=unwAt
 have mU:=methodUnwrap
 have tO:=typeOfNo
 have aE:=assignN
 have vE:=valueOfEN
 have n8:=isNilTN ⟨w.heap.size,0,none⟩ t ((w.alloc (.cells #[.pointer (some t)] 65)).alloc (.cells #[.pointer (some ⟨3,65,none⟩),.pointer (some ⟨w.heap.size,0,none⟩),.int .u64 150] 108)) (by simp)
 have hg2:((w.alloc (.cells #[.pointer (some t)] 65)).alloc (.cells #[.pointer (some ⟨3,65,none⟩),.pointer (some ⟨w.heap.size,0,none⟩),.int .u64 150] 108)).cell? ⟨0,0,none⟩=some (.iface 137 (.agg #[.pointer (some ⟨3,25,none⟩)])):=by
  rw [World.cell?_alloc_lt _ _ ⟨0,0,none⟩ (by simp),World.cell?_alloc_lt _ _ ⟨0,0,none⟩ hlt];exact hg
 have htb:b < w.heap.size:=row_lt hb
 have cb:(((w.alloc (.cells #[.pointer (some t)] 65)).alloc (.cells #[.pointer (some ⟨3,65,none⟩),.pointer (some ⟨w.heap.size,0,none⟩),.int .u64 150] 108)).alloc (.cells #[.pointer (some ⟨3,65,none⟩),.pointer (some ⟨w.heap.size,0,none⟩),.int .u64 150] 108)).cell? ⟨b,1,none⟩=some (.iface 57 (.int .i64 n)):=by
  rw [World.cell?_alloc_lt _ _ ⟨b,1,none⟩ (by simp;omega),World.cell?_alloc_lt _ _ ⟨b,1,none⟩ (by simp;omega),World.cell?_alloc_lt _ _ ⟨b,1,none⟩ htb];exact cell_of_row w b 1 _ _ (0,0) hb
 have htl:t.block < w.heap.size:=World.block_lt_of_cell? w _ ht0
 have el:=elemVN ⟨w.heap.size,0,none⟩ t (((w.alloc (.cells #[.pointer (some t)] 65)).alloc (.cells #[.pointer (some ⟨3,65,none⟩),.pointer (some ⟨w.heap.size,0,none⟩),.int .u64 150] 108)).alloc (.cells #[.pointer (some ⟨3,65,none⟩),.pointer (some ⟨w.heap.size,0,none⟩),.int .u64 150] 108)) (by rw [World.cell?_alloc_lt _ _ ⟨w.heap.size,0,none⟩ (by simp;omega)];simp)
 have st:=setN t ⟨w.heap.size+1+1+1,0,none⟩ n old ((((w.alloc (.cells #[.pointer (some t)] 65)).alloc (.cells #[.pointer (some ⟨3,65,none⟩),.pointer (some ⟨w.heap.size,0,none⟩),.int .u64 150] 108)).alloc (.cells #[.pointer (some ⟨3,65,none⟩),.pointer (some ⟨w.heap.size,0,none⟩),.int .u64 150] 108)).alloc (.cells #[.int .i64 n] 57))
  (by rw [World.cell?_alloc_at _ _ _ _ (by simp)];rfl)
  (by rw [World.cell?_alloc_lt _ _ t (by simp;omega),World.cell?_alloc_lt _ _ t (by simp;omega),World.cell?_alloc_lt _ _ t (by simp;omega),World.cell?_alloc_lt _ _ t htl];exact ht0)
  (by rw [World.frozen?_alloc_old _ _ t (by simp;omega),World.frozen?_alloc_old _ _ t (by simp;omega),World.frozen?_alloc_old _ _ t (by simp;omega),World.frozen?_alloc_old _ _ t (Nat.ne_of_lt htl)];exact hf0)
 go_enter Tryz.func24,Tryz.ntmps24
 go_wp2
 refine wp_loop_rounds 2 ?_
 rw [rounds_succ]
 go_wp2
 rw [rounds_succ]
 go_wp2
 go_ret
 exact ⟨rfl,rfl⟩
set_option maxHeartbeats 4000000 in
set_option maxRecDepth 100000 in
theorem as_pos_at (b:Addr) (t:Addr) (w:World) (hg:ErrT w) (hlt:0 < w.heap.size) (old:Value) (ht0:w.cell? t=some old) (hf0:w.frozen? t=false) :
  Calls Tryz.prog 24 #[.iface 46 (.pointer (some b)),.iface 66 (.pointer (some t))] w fun e w'=>e=.returned (.bool true) ∧ w'=((((w.alloc (.cells #[.pointer (some t)] 66)).alloc (.cells #[.pointer (some ⟨3,66,none⟩),.pointer (some ⟨w.heap.size,0,none⟩),.int .u64 150] 108)).alloc (.cells #[.pointer (some ⟨3,66,none⟩),.pointer (some ⟨w.heap.size,0,none⟩),.int .u64 150] 108)).alloc (.cells #[.pointer (some b)] 46)).setCell t (.pointer (some b)):=by
 have c0:=@run_callFunc_extern Tryz.prog 55 _ (fun args=>ReflectliteValue.unpack (args.getD 0 (.tuple #[]))) Tryz.func55 (by kernel_rfl) (by kernel_rfl) (by kernel_rfl) (by kernel_rfl)
 have c1:=@run_callFunc_extern Tryz.prog 56 _ (ReflectliteValue.methodAny (ReflectliteValue.valueError "reflectlite.Value.Type" 0) (fun t _ _ _=>ReflectliteType.toType t)) Tryz.func56 (by kernel_rfl) (by kernel_rfl) (by kernel_rfl) (by kernel_rfl)
 have c2:=@run_callFunc_extern Tryz.prog 57 _ (ReflectliteValue.method (ReflectliteValue.valueError "reflectlite.Value.IsNil" 0) ReflectliteValue.isNil) Tryz.func57 (by kernel_rfl) (by kernel_rfl) (by kernel_rfl) (by kernel_rfl)
 have c3:=@run_callFunc_extern Tryz.prog 122 _ (ReflectliteType.abiMethod fun t=>do pure (.int .u8 (← Rtype.kind t))) Tryz.func122 (by kernel_rfl) (by kernel_rfl) (by kernel_rfl) (by kernel_rfl)
 have c4:=@run_callFunc_extern Tryz.prog 135 _ (ReflectliteType.method ReflectliteType.elem) Tryz.func135 (by kernel_rfl) (by kernel_rfl) (by kernel_rfl) (by kernel_rfl)
 have c5:=@run_callFunc_extern Tryz.prog 136 _ (ReflectliteType.relation "Implements" ReflectliteType.implements_) Tryz.func136 (by kernel_rfl) (by kernel_rfl) (by kernel_rfl) (by kernel_rfl)
 have c6:=@run_callFunc_extern Tryz.prog 84 _ ReflectliteType.typeOf Tryz.func84 (by kernel_rfl) (by kernel_rfl) (by kernel_rfl) (by kernel_rfl)
 have c7:=@run_callFunc_extern Tryz.prog 133 _ (ReflectliteType.relation "AssignableTo" ReflectliteType.assignableTo) Tryz.func133 (by kernel_rfl) (by kernel_rfl) (by kernel_rfl) (by kernel_rfl)
 have c8:=@run_callFunc_extern Tryz.prog 85 _ (ReflectliteValue.method (ReflectliteValue.valueError "reflectlite.Value.Elem" 0) ReflectliteValue.elem) Tryz.func85 (by kernel_rfl) (by kernel_rfl) (by kernel_rfl) (by kernel_rfl)
 have c9:=@run_callFunc_extern Tryz.prog 86 _ ReflectliteValue.set Tryz.func86 (by kernel_rfl) (by kernel_rfl) (by kernel_rfl) (by kernel_rfl)
 have f6:=valueOfTA
 have f7:=typeTA
 have mK:=methodKind
 have mE:=methodElem
 have mI:=methodImplements
 have mA:=methodAssignableTo
 have kT:=kindTA
 have kE:=kindEA
 have eT:=elemTA
 have tO:=typeOfAt
 have aE:=assignA
 have vE:=valueOfEA
 have iA:=implementsAt
 have n8:=isNilTA ⟨w.heap.size,0,none⟩ t ((w.alloc (.cells #[.pointer (some t)] 66)).alloc (.cells #[.pointer (some ⟨3,66,none⟩),.pointer (some ⟨w.heap.size,0,none⟩),.int .u64 150] 108)) (by simp)
 have hg2:((w.alloc (.cells #[.pointer (some t)] 66)).alloc (.cells #[.pointer (some ⟨3,66,none⟩),.pointer (some ⟨w.heap.size,0,none⟩),.int .u64 150] 108)).cell? ⟨0,0,none⟩=some (.iface 137 (.agg #[.pointer (some ⟨3,25,none⟩)])):=by
  rw [World.cell?_alloc_lt _ _ ⟨0,0,none⟩ (by simp),World.cell?_alloc_lt _ _ ⟨0,0,none⟩ hlt];exact hg
 have htl:t.block < w.heap.size:=World.block_lt_of_cell? w _ ht0
 have el:=elemVA ⟨w.heap.size,0,none⟩ t (((w.alloc (.cells #[.pointer (some t)] 66)).alloc (.cells #[.pointer (some ⟨3,66,none⟩),.pointer (some ⟨w.heap.size,0,none⟩),.int .u64 150] 108)).alloc (.cells #[.pointer (some ⟨3,66,none⟩),.pointer (some ⟨w.heap.size,0,none⟩),.int .u64 150] 108)) (by rw [World.cell?_alloc_lt _ _ ⟨w.heap.size,0,none⟩ (by simp;omega)];simp)
 have st:=setA t ⟨w.heap.size+1+1+1,0,none⟩ b old ((((w.alloc (.cells #[.pointer (some t)] 66)).alloc (.cells #[.pointer (some ⟨3,66,none⟩),.pointer (some ⟨w.heap.size,0,none⟩),.int .u64 150] 108)).alloc (.cells #[.pointer (some ⟨3,66,none⟩),.pointer (some ⟨w.heap.size,0,none⟩),.int .u64 150] 108)).alloc (.cells #[.pointer (some b)] 46))
  (by rw [World.cell?_alloc_at _ _ _ _ (by simp)];rfl)
  (by rw [World.cell?_alloc_lt _ _ t (by simp;omega),World.cell?_alloc_lt _ _ t (by simp;omega),World.cell?_alloc_lt _ _ t (by simp;omega),World.cell?_alloc_lt _ _ t htl];exact ht0)
  (by rw [World.frozen?_alloc_old _ _ t (by simp;omega),World.frozen?_alloc_old _ _ t (by simp;omega),World.frozen?_alloc_old _ _ t (by simp;omega),World.frozen?_alloc_old _ _ t (Nat.ne_of_lt htl)];exact hf0)
 go_enter Tryz.func24,Tryz.ntmps24
 go_wp2
 refine wp_loop_rounds 1 ?_
 rw [rounds_succ]
 go_wp2
 go_ret
 exact ⟨rfl,rfl⟩
set_option maxHeartbeats 4000000 in
set_option maxRecDepth 100000 in
theorem as_pos_no (n:Int) (t:Addr) (w:World) (hg:ErrT w) (hlt:0 < w.heap.size)  :
  Calls Tryz.prog 24 #[.iface 57 (.int .i64 n),.iface 66 (.pointer (some t))] w fun e w'=>e=.returned (.bool false) ∧ w'=(((w.alloc (.cells #[.pointer (some t)] 66)).alloc (.cells #[.pointer (some ⟨3,66,none⟩),.pointer (some ⟨w.heap.size,0,none⟩),.int .u64 150] 108)).alloc (.cells #[.pointer (some ⟨3,66,none⟩),.pointer (some ⟨w.heap.size,0,none⟩),.int .u64 150] 108)):=by
 have c0:=@run_callFunc_extern Tryz.prog 55 _ (fun args=>ReflectliteValue.unpack (args.getD 0 (.tuple #[]))) Tryz.func55 (by kernel_rfl) (by kernel_rfl) (by kernel_rfl) (by kernel_rfl)
 have c1:=@run_callFunc_extern Tryz.prog 56 _ (ReflectliteValue.methodAny (ReflectliteValue.valueError "reflectlite.Value.Type" 0) (fun t _ _ _=>ReflectliteType.toType t)) Tryz.func56 (by kernel_rfl) (by kernel_rfl) (by kernel_rfl) (by kernel_rfl)
 have c2:=@run_callFunc_extern Tryz.prog 57 _ (ReflectliteValue.method (ReflectliteValue.valueError "reflectlite.Value.IsNil" 0) ReflectliteValue.isNil) Tryz.func57 (by kernel_rfl) (by kernel_rfl) (by kernel_rfl) (by kernel_rfl)
 have c3:=@run_callFunc_extern Tryz.prog 122 _ (ReflectliteType.abiMethod fun t=>do pure (.int .u8 (← Rtype.kind t))) Tryz.func122 (by kernel_rfl) (by kernel_rfl) (by kernel_rfl) (by kernel_rfl)
 have c4:=@run_callFunc_extern Tryz.prog 135 _ (ReflectliteType.method ReflectliteType.elem) Tryz.func135 (by kernel_rfl) (by kernel_rfl) (by kernel_rfl) (by kernel_rfl)
 have c5:=@run_callFunc_extern Tryz.prog 136 _ (ReflectliteType.relation "Implements" ReflectliteType.implements_) Tryz.func136 (by kernel_rfl) (by kernel_rfl) (by kernel_rfl) (by kernel_rfl)
 have c6:=@run_callFunc_extern Tryz.prog 84 _ ReflectliteType.typeOf Tryz.func84 (by kernel_rfl) (by kernel_rfl) (by kernel_rfl) (by kernel_rfl)
 have c7:=@run_callFunc_extern Tryz.prog 133 _ (ReflectliteType.relation "AssignableTo" ReflectliteType.assignableTo) Tryz.func133 (by kernel_rfl) (by kernel_rfl) (by kernel_rfl) (by kernel_rfl)
 have c8:=@run_callFunc_extern Tryz.prog 85 _ (ReflectliteValue.method (ReflectliteValue.valueError "reflectlite.Value.Elem" 0) ReflectliteValue.elem) Tryz.func85 (by kernel_rfl) (by kernel_rfl) (by kernel_rfl) (by kernel_rfl)
 have c9:=@run_callFunc_extern Tryz.prog 86 _ ReflectliteValue.set Tryz.func86 (by kernel_rfl) (by kernel_rfl) (by kernel_rfl) (by kernel_rfl)
 have f6:=valueOfTA
 have f7:=typeTA
 have mK:=methodKind
 have mE:=methodElem
 have mI:=methodImplements
 have mA:=methodAssignableTo
 have kT:=kindTA
 have kE:=kindEA
 have eT:=elemTA
 have tO:=typeOfNo
 have aF:=assignNA
 have nA:=noAsNo
 have u1:=noUnwNo
 have u2:=noUnwsNo
 have iA:=implementsAt
 have n8:=isNilTA ⟨w.heap.size,0,none⟩ t ((w.alloc (.cells #[.pointer (some t)] 66)).alloc (.cells #[.pointer (some ⟨3,66,none⟩),.pointer (some ⟨w.heap.size,0,none⟩),.int .u64 150] 108)) (by simp)
 have hg2:((w.alloc (.cells #[.pointer (some t)] 66)).alloc (.cells #[.pointer (some ⟨3,66,none⟩),.pointer (some ⟨w.heap.size,0,none⟩),.int .u64 150] 108)).cell? ⟨0,0,none⟩=some (.iface 137 (.agg #[.pointer (some ⟨3,25,none⟩)])):=by
  rw [World.cell?_alloc_lt _ _ ⟨0,0,none⟩ (by simp),World.cell?_alloc_lt _ _ ⟨0,0,none⟩ hlt];exact hg
 go_enter Tryz.func24,Tryz.ntmps24
 go_wp2
 refine wp_loop_rounds 1 ?_
 rw [rounds_succ]
 go_wp2
 go_ret
 exact ⟨rfl,rfl⟩
end Go.Proofs.YtgklmpooonnmiaaGreatDoor

namespace Go.Proofs.YtgklmpooonnmiaaGreatDoor
open Go.RowKit
def Er.num:Er → Int
 | .ok=>0
 | .no n=>n
 | .pl _ n=>n
def Er.pos:Er → Int
 | .ok=>-1
 | .no _=>-1
 | .pl p _=>p
theorem ErrT.fr {bs:List Nat} {w w':World} (h:ErrT w) (hlt:0 < w.heap.size) (hF:Fr bs w w') (hn:0 ∉ bs):ErrT w':=by
 unfold ErrT
 rw [hF.cell (p:=⟨0,0,none⟩) hlt hn]
 exact h
theorem as_num (e:Er) (w:World) (B g:Nat) (v:Value) (hv:ErV w B e v) (hne:e ≠ .ok) (hg:ErrT w) (hlt:0 < w.heap.size) (hr:w.heap[g]?=some (.cells #[.int .i64 0] 57 (0,0))) :
  Calls Tryz.prog 24 #[v,.iface 65 (.pointer (some ⟨g,0,none⟩))] w fun e' w'=>e'=.returned (.bool true) ∧ w'.heap[g]?=some (.cells #[.int .i64 e.num] 57 (0,0)) ∧ Fr [g] w w':=by
 have hc:w.cell? ⟨g,0,none⟩=some (.int .i64 0):=cell_of_row w g 0 _ _ (0,0) hr
 have hf:w.frozen? ⟨g,0,none⟩=false:=Lib.frozen_of_heap hr 0
 have fin:∀ (W:World) (n:Int),Fr [] w W → (W.setCell ⟨g,0,none⟩ (.int .i64 n)).heap[g]?=some (.cells #[.int .i64 n] 57 (0,0)) ∧ Fr [g] w (W.setCell ⟨g,0,none⟩ (.int .i64 n)):=fun W n hF =>
  ⟨heap_setCell_same W g 0 _ _ _ (hF.row hr (by simp)),((Fr.refl [g] w).trans0 hF).setCell (.inl (by simp)) _⟩
 cases e with
 | ok=>exact absurd rfl hne
 | no n =>
  obtain rfl:v=.iface 57 (.int .i64 (n:Nat)):=hv
  refine (as_num_no n ⟨g,0,none⟩ w hg hlt _ hc hf).mono ?_
  rintro e w' ⟨rfl,rfl⟩
  exact ⟨rfl,fin _ _ (((((Fr.refl [] w).alloc _).alloc _).alloc _).alloc _)⟩
 | pl p n =>
  obtain ⟨b,hB,rfl,hb⟩:=hv
  refine (as_num_at n b _ ⟨g,0,none⟩ w hb hg hlt _ hc hf).mono ?_
  rintro e w' ⟨rfl,rfl⟩
  exact ⟨rfl,fin _ _ (((((Fr.refl [] w).alloc _).alloc _).alloc _).alloc _)⟩
set_option maxHeartbeats 4000000 in
set_option maxRecDepth 100000 in
theorem law_num (w:World) (B:Nat) (e:Er) (v:Value) (hv:ErV w B e v) (hg:ErrT w) (hlt:0 < w.heap.size) :
  Calls Tryz.prog 8 #[v] w fun e' w'=>e'=.returned (.int .i64 e.num) ∧ Fr [] w w':=by
 by_cases hne:e=.ok
 ·subst hne
  obtain rfl:v=.nilIface:=hv
  go_enter Tryz.func8,Tryz.ntmps8
  go_wp2_with fail
  go_ret
  exact ⟨rfl,Fr.refl _ _⟩
 have hF0:Fr [] w (w.alloc (.cells #[.int .i64 0] 57)):=(Fr.refl _ _).alloc _
 have HAS:=Lib.hid (as_num e _ B w.heap.size v (hv.fr hF0) hne (hg.fr hlt hF0 (by simp)) (Nat.lt_of_lt_of_le hlt hF0.size) (heap_alloc_last w _))
 have hvn:∃ t u,v=.iface t u:=by
  cases e with
  | ok=>exact absurd rfl hne
  | no n=>exact ⟨_,_,hv⟩
  | pl p n=>obtain ⟨b,_,h,_⟩:=hv;exact ⟨_,_,h⟩
 obtain ⟨t,u,rfl⟩:=hvn
 have HF0:=Lib.hid hF0
 clear hv hg hF0 hne
 go_enter Tryz.func8,Tryz.ntmps8
 go_wp2_with fail
 refine HAS.out.mono ?_
 rintro e' w1 ⟨rfl,hr,hF⟩
 have hc:w1.cell? ⟨w.heap.size,0,none⟩=some (.int .i64 e.num):=cell_of_row w1 _ 0 _ _ (0,0) hr
 have HF:Hid (Fr [] w w1):=HF0.out.trans1 hF (.inr (Nat.le_refl _))
 clear hr hF HAS HF0
 go_wp2_with fail
 go_ret
 exact ⟨rfl,HF.out⟩
theorem as_pos (p n:Nat) (w:World) (B g:Nat) (v:Value) (hv:ErV w B (.pl p n) v) (hg:ErrT w) (hlt:0 < w.heap.size) (hr:w.heap[g]?=some (.cells #[.pointer none] 46 (0,0))) :
  Calls Tryz.prog 24 #[v,.iface 66 (.pointer (some ⟨g,0,none⟩))] w fun e' w'=>e'=.returned (.bool true) ∧ (∃ b,w'.heap[g]?=some (.cells #[.pointer (some ⟨b,0,none⟩)] 46 (0,0)) ∧ w'.heap[b]?=some (.cells #[.int .i64 (p:Nat),.iface 57 (.int .i64 (n:Nat))] 68 (0,0))) ∧ Fr [g] w w':=by
 have hc:w.cell? ⟨g,0,none⟩=some (.pointer none):=cell_of_row w g 0 _ _ (0,0) hr
 have hf:w.frozen? ⟨g,0,none⟩=false:=Lib.frozen_of_heap hr 0
 have fin:∀ (W:World) (u:Value),Fr [] w W → (W.setCell ⟨g,0,none⟩ u).heap[g]?=some (.cells #[u] 46 (0,0)) ∧ Fr [g] w (W.setCell ⟨g,0,none⟩ u):=fun W u hF =>
  ⟨heap_setCell_same W g 0 _ _ _ (hF.row hr (by simp)),((Fr.refl [g] w).trans0 hF).setCell (.inl (by simp)) _⟩
 obtain ⟨b,hB,rfl,hb⟩:=hv
 have hbg:b ≠ g:=by
  rintro rfl
  rw [hb] at hr
  simp at hr
 refine (as_pos_at ⟨b,0,none⟩ ⟨g,0,none⟩ w hg hlt _ hc hf).mono ?_
 rintro e w' ⟨rfl,rfl⟩
 obtain ⟨h1,h2⟩:=fin _ (.pointer (some ⟨b,0,none⟩)) (((((Fr.refl [] w).alloc _).alloc _).alloc _).alloc _)
 exact ⟨rfl,⟨b,h1,h2.row hb (by simpa using hbg)⟩,h2⟩
set_option maxHeartbeats 4000000 in
set_option maxRecDepth 100000 in
theorem law_pos (w:World) (B:Nat) (e:Er) (v:Value) (hv:ErV w B e v) (hg:ErrT w) (hlt:0 < w.heap.size) :
  Calls Tryz.prog 9 #[v] w fun e' w'=>e'=.returned (.int .i64 e.pos) ∧ Fr [] w w':=by
 have hF0:Fr [] w (w.alloc (.cells #[.pointer none] 46)):=(Fr.refl _ _).alloc _
 have HF0:=Lib.hid hF0
 cases e with
 | ok =>
  obtain rfl:v=.nilIface:=hv
  go_enter Tryz.func9,Tryz.ntmps9
  go_wp2_with fail
  go_ret
  exact ⟨rfl,HF0.out⟩
 | no n =>
  obtain rfl:v=.iface 57 (.int .i64 (n:Nat)):=hv
  have HAS:Hid (Calls Tryz.prog 24 #[.iface 57 (.int .i64 (n:Nat)),.iface 66 (.pointer (some ⟨w.heap.size,0,none⟩))] (w.alloc (.cells #[.pointer none] 46)) fun e w'=>e=.returned (.bool false) ∧ Fr [] w w'):=by
   show Calls _ _ _ _ _
   refine (as_pos_no n ⟨w.heap.size,0,none⟩ _ (hg.fr hlt hF0 (by simp)) (Nat.lt_of_lt_of_le hlt hF0.size)).mono ?_
   rintro e w' ⟨rfl,rfl⟩
   exact ⟨rfl,((hF0.alloc _).alloc _).alloc _⟩
  clear hg hF0
  go_enter Tryz.func9,Tryz.ntmps9
  go_wp2_with fail
  refine HAS.out.mono ?_
  rintro e' w1 ⟨rfl,hF1⟩
  go_wp2_with fail
  go_ret
  exact ⟨rfl,hF1⟩
 | pl p n =>
  have HAS:=Lib.hid (as_pos p n _ B w.heap.size v (hv.fr hF0) (hg.fr hlt hF0 (by simp)) (Nat.lt_of_lt_of_le hlt hF0.size) (heap_alloc_last w _))
  obtain ⟨b,hB,rfl,_⟩:=hv
  clear hg hF0
  go_enter Tryz.func9,Tryz.ntmps9
  go_wp2_with fail
  refine HAS.out.mono ?_
  rintro e' w1 ⟨rfl,⟨b2,hr,hb⟩,hF⟩
  have hc:w1.cell? ⟨w.heap.size,0,none⟩=some (.pointer (some ⟨b2,0,none⟩)):=cell_of_row w1 _ 0 _ _ (0,0) hr
  have hc2:w1.cell? ⟨b2,0,none⟩=some (.int .i64 (p:Nat)):=cell_of_row w1 _ 0 _ _ (0,0) hb
  have HF:Hid (Fr [] w w1):=HF0.out.trans1 hF (.inr (Nat.le_refl _))
  clear hr hb hF HAS HF0
  go_wp2_with fail
  go_ret
  exact ⟨rfl,HF.out⟩
end Go.Proofs.YtgklmpooonnmiaaGreatDoor

namespace Go.Proofs.YtgklmpooonnmiaaGreatDoor
open Go.RowKit
def limP:ByteArray:=⟨#[57,50,50,51,51,55,50,48,51,54,56,53,52,55,55,53,56,48,55]⟩
def limN:ByteArray:=⟨#[57,50,50,51,51,55,50,48,51,54,56,53,52,55,55,53,56,48,56]⟩
set_option maxHeartbeats 4000000 in
set_option maxRecDepth 100000 in
theorem ref_read_neg (w:World) (s:ByteArray) (hs:s.size ≤ 1000000000) (lo hi:Int) (hlo:-9223372036854775808 ≤ lo ∧ lo ≤ 9223372036854775807) (hhi:-9223372036854775808 ≤ hi ∧ hi ≤ 9223372036854775807) (hfm:Dec.form (bn s) s.size=true) (hsg:Dec.sgn (bn s) s.size=1) :
  Calls Tryz.prog 52 #[.string s,.int .i64 lo,.int .i64 hi] w fun e w'=>e=.returned (.tuple #[.int .i64 (Dec.read (bn s) s.size lo hi).1,.int .i64 (Dec.read (bn s) s.size lo hi).2.num,.int .i64 (Dec.read (bn s) s.size lo hi).2.pos]) ∧ w=w':=by
 have h0:0 < s.size:=by simp [Dec.form] at hfm;omega
 have HFM:Hid (∀ W,Calls Tryz.prog 81 #[.string s] W fun e w'=>e=.returned (.bool true) ∧ W=w'):=fun W=>by rw [← hfm];exact ref_form W s (by unfold maxLen;omega)
 obtain ⟨hi1,hi2,hi3⟩:=(Dec.form_iff _ _ h0).1 hfm
 have hrd:=Dec.form_read' (bn s) s.size hfm lo hi
 rw [hsg] at hi1 hi2 hi3 hrd
 obtain ⟨T,hT⟩:∃ T,s.extract 1 s.size=T:=⟨_,rfl⟩
 have hTs:T.size=s.size - 1:=by rw [← hT];simp
 have hTb:∀ i,i < T.size → bn T i=bn s (1+i):=fun i hi=>by rw [← hT];exact bn_ext s 1 s.size i (Nat.le_refl _) (by rw [← hT] at hi;simp at hi;omega)
 have hTp:0 < T.size:=by omega
 have hTd:∀ i,i < T.size → Dec.dig (bn T i)=true:=fun i hi=>by rw [hTb i hi];exact hi3 _ (by omega) (by omega)
 have hvl:Dec.vl (bn s) 1 (s.size - 1)=Dec.vl (bn T) 0 T.size:=by rw [hTs];exact (Dec.vl_congr _ fun i hi=>by rw [Nat.zero_add];exact hTb i (by omega)).symm
 have hless:Dec.lessB limN T=decide (9223372036854775808 < Dec.vl (bn T) 0 T.size):=by
  have:=Dec.lessB_iff limN T rfl (by decide) (by decide) (by decide) hTp hTd (fun h=>by rw [hTb 0 hTp] at h;have:=hi2 h;omega)
  rw [this];rfl
 obtain ⟨V,hV⟩:∃ V,Hid (Dec.vl (bn T) 0 T.size=V):=⟨_,rfl⟩
 rw [hV.out] at hless hvl
 have HR:Hid (Dec.read (bn s) s.size lo hi=if 9223372036854775808 < V then (0,.no 41) else Dec.chk lo hi (-(V:Int))):=by
  show _=_
  rw [hrd,hvl]
  rw [if_pos rfl]
 have HLS:Hid (∀ W,Calls Tryz.prog 82 #[.string limN,.string T] W fun e w'=>e=.returned (.bool (decide (9223372036854775808 < V))) ∧ W=w'):=fun W=>by rw [← hless];exact ref_less W limN T
 unfold limN at HLS
 have q45:(((bn s 0:Nat):Int) == 45)=true:=by
  have:bn s 0=45:=by unfold Dec.sgn at hsg;split at hsg;(rename_i h;exact h.2);omega
  rw [this];rfl
 have hz0:(s[0]'h0).toNat=bn s 0:=bn_at s 0 h0
 obtain ⟨c0,hc0⟩:∃ c0,bn s 0=c0:=⟨_,rfl⟩
 rw [hc0] at q45 hz0
 have n1:(1:Int) ≤ (s.size:Int):=by omega
 have hTbn:=Lib.hid (bn_at T)
 have HTD:=Lib.hid hTd
 have HTS:=Lib.hid hTs
 have hex:s.extract 1 s.size=T:=hT
 have hTle:T.size ≤ 1000000000:=by omega
 clear hi1 hi2 hi3 hrd hTb hvl hless hc0 hTd hfm hsg hTs hT
 by_cases hov:9223372036854775808 < V
 ·have hb:decide (9223372036854775808 < V)=true:=decide_eq_true hov
  have HX:Hid (Dec.read (bn s) s.size lo hi=(0,.no 41)):=by show _=_;rw [HR.out,if_pos hov]
  rw [hb] at HLS
  clear hov hb
  go_enter Tryz.func52,Tryz.ntmps52
  go_wp2_with fail
  refine (HFM.out _).mono ?_
  rintro e w1 ⟨rfl,rfl⟩
  go_wp2_with fail
  refine (HLS.out _).mono ?_
  rintro e w1 ⟨rfl,rfl⟩
  go_wp2_with fail
  go_ret3
  rw [HX.out]
  exact ⟨rfl,rfl⟩
 have hb:decide (9223372036854775808 < V)=false:=decide_eq_false hov
 rw [hb] at HLS
 have HR2:Hid (Dec.read (bn s) s.size lo hi=Dec.chk lo hi (-(V:Int))):=by show _=_;rw [HR.out,if_neg hov]
 have HVL:Hid (V ≤ 9223372036854775808):=Nat.le_of_not_lt hov
 have HVM:Hid (∀ k,k ≤ T.size → Dec.vl (bn T) 0 k ≤ 9223372036854775808):=fun k hk=>by
  have h1:=Dec.vl_mono (bn T) 0 hk
  rw [hV.out] at h1
  exact Nat.le_trans h1 HVL.out
 clear hov hb HR
 go_enter Tryz.func52,Tryz.ntmps52
 go_wp2_with fail
 refine (HFM.out _).mono ?_
 rintro e w1 ⟨rfl,rfl⟩
 go_wp2_with fail
 refine (HLS.out _).mono ?_
 rintro e w1 ⟨rfl,rfl⟩
 go_wp2_with fail
 go_loop [12,13] (fun n t=>∃ k:Nat,k ≤ T.size ∧ t=.int .i64 k ∧ n=.int .i64 (-(Dec.vl (bn T) 0 k:Int))) (fun _ t=>T.size - (intOf t).toNat)
 case atStart=>exact ⟨0,by omega,rfl,rfl⟩
 case round =>
  obtain ⟨k,hk,rfl,rfl⟩:=hrel
  by_cases hlt:k < T.size
  ·have hlt':(k:Int) < (T.size:Int):=by omega
   have hzk:=hTbn.out k hlt
   have hd:=HTD.out k hlt
   have hv2:=HVM.out (k+1) hlt
   have hvs:Dec.vl (bn T) 0 (k+1)=Dec.vl (bn T) 0 k * 10+(bn T k - 48):=by simp only [Dec.vl,Nat.zero_add]
   obtain ⟨v,hvv⟩:∃ v,Hid (Dec.vl (bn T) 0 k=v):=⟨_,rfl⟩
   obtain ⟨x,hxx⟩:∃ x,Hid (bn T k=x):=⟨_,rfl⟩
   rw [hxx.out] at hd hzk
   rw [hvv.out,hxx.out] at hvs
   rw [hvs] at hv2
   rw [hvv.out]
   have hd48:48 ≤ x:=by simp [Dec.dig] at hd;omega
   have hd57:x ≤ 57:=by simp [Dec.dig] at hd;omega
   have HVS:=Lib.hid hvs
   have a2:IntKind.i64.wrap ((-(v:Int)) * 10)=(-(v:Int)) * 10:=IntWalk.i64_in _ (by omega)
   have a3:IntKind.i64.wrap ((-(v:Int)) * 10 - ((x:Int) - 48))=(-(v:Int)) * 10 - ((x:Int) - 48):=IntWalk.i64_in _ (by omega)
   have b2:-9223372036854775808 ≤ (-(v:Int)) * 10 - ((x:Int) - 48) ∧ (-(v:Int)) * 10 - ((x:Int) - 48) ≤ 9223372036854775807:=by omega
   obtain ⟨b3,b4⟩:=b2
   clear hd hvs hv2
   go_wp2_with fail
   go_round
   case rel =>
    refine ⟨k+1,by omega,by go_num,?_⟩
    rw [HVS.out]
    congr 1
    omega
   case measure=>simp [intOf];omega
  ·obtain rfl:k=T.size:=by omega
   rw [hV.out]
   have hVL:=HVL.out
   by_cases t1:(-(V:Int)) < lo
   ·have HC:Hid (Dec.chk lo hi (-(V:Int))=(0,.no 41)):=by show _=_;unfold Dec.chk;rw [if_pos (Or.inl t1)]
    go_wp2_with fail
    go_ret3
    rw [HR2.out,HC.out]
    exact ⟨rfl,rfl⟩
   by_cases t2:hi < (-(V:Int))
   ·have HC:Hid (Dec.chk lo hi (-(V:Int))=(0,.no 41)):=by show _=_;unfold Dec.chk;rw [if_pos (Or.inr t2)]
    have t2':(-(V:Int)) > hi:=t2
    go_wp2_with fail
    go_ret3
    rw [HR2.out,HC.out]
    exact ⟨rfl,rfl⟩
   have HC:Hid (Dec.chk lo hi (-(V:Int))=((-(V:Int)),.ok)):=by show _=_;unfold Dec.chk;rw [if_neg (by omega)]
   have t2':¬ (-(V:Int)) > hi:=t2
   go_wp2_with fail
   go_ret3
   rw [HR2.out,HC.out]
   exact ⟨rfl,rfl⟩
set_option maxHeartbeats 4000000 in
set_option maxRecDepth 100000 in
theorem ref_read_pos (w:World) (s:ByteArray) (hs:s.size ≤ 1000000000) (lo hi:Int) (hlo:-9223372036854775808 ≤ lo ∧ lo ≤ 9223372036854775807) (hhi:-9223372036854775808 ≤ hi ∧ hi ≤ 9223372036854775807) (hfm:Dec.form (bn s) s.size=true) (hsg:Dec.sgn (bn s) s.size=0) :
  Calls Tryz.prog 52 #[.string s,.int .i64 lo,.int .i64 hi] w fun e w'=>e=.returned (.tuple #[.int .i64 (Dec.read (bn s) s.size lo hi).1,.int .i64 (Dec.read (bn s) s.size lo hi).2.num,.int .i64 (Dec.read (bn s) s.size lo hi).2.pos]) ∧ w=w':=by
 have h0:0 < s.size:=by simp [Dec.form] at hfm;omega
 have HFM:Hid (∀ W,Calls Tryz.prog 81 #[.string s] W fun e w'=>e=.returned (.bool true) ∧ W=w'):=fun W=>by rw [← hfm];exact ref_form W s (by unfold maxLen;omega)
 obtain ⟨hi1,hi2,hi3⟩:=(Dec.form_iff _ _ h0).1 hfm
 have hrd:=Dec.form_read' (bn s) s.size hfm lo hi
 rw [hsg] at hi1 hi2 hi3 hrd
 have hTs:s.size=s.size - 0:=rfl
 have hTb:∀ i,i < s.size → bn s i=bn s (0+i):=fun i hi=>by rw [Nat.zero_add]
 have hTp:0 < s.size:=by omega
 have hTd:∀ i,i < s.size → Dec.dig (bn s i)=true:=fun i hi=>by rw [hTb i hi];exact hi3 _ (by omega) (by omega)
 have hless:Dec.lessB limP s=decide (9223372036854775807 < Dec.vl (bn s) 0 s.size):=by
  have:=Dec.lessB_iff limP s rfl (by decide) (by decide) (by decide) hTp hTd (fun h=>by rw [hTb 0 hTp] at h;have:=hi2 h;omega)
  rw [this];rfl
 obtain ⟨V,hV⟩:∃ V,Hid (Dec.vl (bn s) 0 s.size=V):=⟨_,rfl⟩
 rw [hV.out] at hless
 have HR:Hid (Dec.read (bn s) s.size lo hi=if 9223372036854775807 < V then (0,.no 41) else Dec.chk lo hi (V:Int)):=by
  show _=_
  rw [hrd,hV.out]
  rw [if_neg (by decide)];by_cases e:9223372036854775807 < V
  ·rw [if_pos e,if_pos (by omega)]
  ·rw [if_neg e,if_neg (by omega)]
 have HLS:Hid (∀ W,Calls Tryz.prog 82 #[.string limP,.string s] W fun e w'=>e=.returned (.bool (decide (9223372036854775807 < V))) ∧ W=w'):=fun W=>by rw [← hless];exact ref_less W limP s
 unfold limP at HLS
 have q45:(((bn s 0:Nat):Int) == 45)=false:=by
  refine beq_eq_false_iff_ne.2 fun h=>?_
  unfold Dec.sgn at hsg;rw [if_pos ⟨h0,by omega⟩] at hsg;omega
 have hz0:(s[0]'h0).toNat=bn s 0:=bn_at s 0 h0
 obtain ⟨c0,hc0⟩:∃ c0,bn s 0=c0:=⟨_,rfl⟩
 rw [hc0] at q45 hz0
 have n1:(1:Int) ≤ (s.size:Int):=by omega
 have hTbn:=Lib.hid (bn_at s)
 have HTD:=Lib.hid hTd
 have HTS:=Lib.hid hTs
 have hTle:s.size ≤ 1000000000:=by omega
 clear hi1 hi2 hi3 hrd hTb hless hc0 hTd hfm hsg hTs
 by_cases hov:9223372036854775807 < V
 ·have hb:decide (9223372036854775807 < V)=true:=decide_eq_true hov
  have HX:Hid (Dec.read (bn s) s.size lo hi=(0,.no 41)):=by show _=_;rw [HR.out,if_pos hov]
  rw [hb] at HLS
  clear hov hb
  go_enter Tryz.func52,Tryz.ntmps52
  go_wp2_with fail
  refine (HFM.out _).mono ?_
  rintro e w1 ⟨rfl,rfl⟩
  go_wp2_with fail
  refine (HLS.out _).mono ?_
  rintro e w1 ⟨rfl,rfl⟩
  go_wp2_with fail
  go_ret3
  rw [HX.out]
  exact ⟨rfl,rfl⟩
 have hb:decide (9223372036854775807 < V)=false:=decide_eq_false hov
 rw [hb] at HLS
 have HR2:Hid (Dec.read (bn s) s.size lo hi=Dec.chk lo hi (V:Int)):=by show _=_;rw [HR.out,if_neg hov]
 have HVL:Hid (V ≤ 9223372036854775807):=Nat.le_of_not_lt hov
 have HVM:Hid (∀ k,k ≤ s.size → Dec.vl (bn s) 0 k ≤ 9223372036854775807):=fun k hk=>by
  have h1:=Dec.vl_mono (bn s) 0 hk
  rw [hV.out] at h1
  exact Nat.le_trans h1 HVL.out
 clear hov hb HR
 go_enter Tryz.func52,Tryz.ntmps52
 go_wp2_with fail
 refine (HFM.out _).mono ?_
 rintro e w1 ⟨rfl,rfl⟩
 go_wp2_with fail
 refine (HLS.out _).mono ?_
 rintro e w1 ⟨rfl,rfl⟩
 go_wp2_with fail
 go_loop [12,13] (fun n t=>∃ k:Nat,k ≤ s.size ∧ t=.int .i64 k ∧ n=.int .i64 (Dec.vl (bn s) 0 k:Int)) (fun _ t=>s.size - (intOf t).toNat)
 case atStart=>exact ⟨0,by omega,rfl,rfl⟩
 case round =>
  obtain ⟨k,hk,rfl,rfl⟩:=hrel
  by_cases hlt:k < s.size
  ·have hlt':(k:Int) < (s.size:Int):=by omega
   have hzk:=hTbn.out k hlt
   have hd:=HTD.out k hlt
   have hv2:=HVM.out (k+1) hlt
   have hvs:Dec.vl (bn s) 0 (k+1)=Dec.vl (bn s) 0 k * 10+(bn s k - 48):=by simp only [Dec.vl,Nat.zero_add]
   obtain ⟨v,hvv⟩:∃ v,Hid (Dec.vl (bn s) 0 k=v):=⟨_,rfl⟩
   obtain ⟨x,hxx⟩:∃ x,Hid (bn s k=x):=⟨_,rfl⟩
   rw [hxx.out] at hd hzk
   rw [hvv.out,hxx.out] at hvs
   rw [hvs] at hv2
   rw [hvv.out]
   have hd48:48 ≤ x:=by simp [Dec.dig] at hd;omega
   have hd57:x ≤ 57:=by simp [Dec.dig] at hd;omega
   have HVS:=Lib.hid hvs
   have a2:IntKind.i64.wrap ((v:Int) * 10)=(v:Int) * 10:=IntWalk.i64_in _ (by omega)
   have a3:IntKind.i64.wrap ((v:Int) * 10+((x:Int) - 48))=(v:Int) * 10+((x:Int) - 48):=IntWalk.i64_in _ (by omega)
   have b2:-9223372036854775808 ≤ (v:Int) * 10+((x:Int) - 48) ∧ (v:Int) * 10+((x:Int) - 48) ≤ 9223372036854775807:=by omega
   obtain ⟨b3,b4⟩:=b2
   clear hd hvs hv2
   go_wp2_with fail
   go_round
   case rel =>
    refine ⟨k+1,by omega,by go_num,?_⟩
    rw [HVS.out]
    congr 1
    omega
   case measure=>simp [intOf];omega
  ·obtain rfl:k=s.size:=by omega
   rw [hV.out]
   have hVL:=HVL.out
   by_cases t1:(V:Int) < lo
   ·have HC:Hid (Dec.chk lo hi (V:Int)=(0,.no 41)):=by show _=_;unfold Dec.chk;rw [if_pos (Or.inl t1)]
    go_wp2_with fail
    go_ret3
    rw [HR2.out,HC.out]
    exact ⟨rfl,rfl⟩
   by_cases t2:hi < (V:Int)
   ·have HC:Hid (Dec.chk lo hi (V:Int)=(0,.no 41)):=by show _=_;unfold Dec.chk;rw [if_pos (Or.inr t2)]
    have t2':(V:Int) > hi:=t2
    go_wp2_with fail
    go_ret3
    rw [HR2.out,HC.out]
    exact ⟨rfl,rfl⟩
   have HC:Hid (Dec.chk lo hi (V:Int)=((V:Int),.ok)):=by show _=_;unfold Dec.chk;rw [if_neg (by omega)]
   have t2':¬ (V:Int) > hi:=t2
   go_wp2_with fail
   go_ret3
   rw [HR2.out,HC.out]
   exact ⟨rfl,rfl⟩
set_option maxHeartbeats 4000000 in
set_option maxRecDepth 100000 in
theorem ref_read (w:World) (s:ByteArray) (hs:s.size ≤ 1000000000) (lo hi:Int) (hlo:-9223372036854775808 ≤ lo ∧ lo ≤ 9223372036854775807) (hhi:-9223372036854775808 ≤ hi ∧ hi ≤ 9223372036854775807) :
  Calls Tryz.prog 52 #[.string s,.int .i64 lo,.int .i64 hi] w fun e w'=>e=.returned (.tuple #[.int .i64 (Dec.read (bn s) s.size lo hi).1,.int .i64 (Dec.read (bn s) s.size lo hi).2.num,.int .i64 (Dec.read (bn s) s.size lo hi).2.pos]) ∧ w=w':=by
 cases hfm:Dec.form (bn s) s.size with
 | true =>
  by_cases hsg:Dec.sgn (bn s) s.size=1
  ·exact ref_read_neg w s hs lo hi hlo hhi hfm hsg
  ·refine ref_read_pos w s hs lo hi hlo hhi hfm ?_
   unfold Dec.sgn at hsg ⊢
   split at hsg
   ·omega
   ·rename_i h;rw [if_neg h]
 | false =>
  have HFM:Hid (∀ W,Calls Tryz.prog 81 #[.string s] W fun e w'=>e=.returned (.bool false) ∧ W=w'):=fun W=>by rw [← hfm];exact ref_form W s (by unfold maxLen;omega)
  have HLD:Hid (∀ W,Calls Tryz.prog 51 #[.string s] W fun e w'=>e=.returned (.int .i64 (Dec.lead (bn s) s.size:Nat)) ∧ W=w'):=fun W=>ref_lead W s hs
  have HR:=Lib.hid (Dec.form_read (bn s) s.size hfm lo hi)
  clear hfm
  go_enter Tryz.func52,Tryz.ntmps52
  go_wp2_with fail
  refine (HFM.out _).mono ?_
  rintro e w1 ⟨rfl,rfl⟩
  go_wp2_with fail
  refine (HLD.out _).mono ?_
  rintro e w1 ⟨rfl,rfl⟩
  go_wp2_with fail
  go_ret3
  rw [HR.out]
  exact ⟨rfl,rfl⟩
end Go.Proofs.YtgklmpooonnmiaaGreatDoor
