/- Closed facts on the model's entries for internal/reflectlite, at this program's types. -/
import Derived.Test.YtgehndnlbbkieaaDoorProg
import Derived.WalkKit
import Derived.LaidEql
import Derived.Stop.Asserts
import Derived.RowKitTokens
import Derived.Below
import Derived.Deep.LoopGhost
namespace Go.Proofs.YtgehndnlbbkieaaDoor
open Go.RowKit Go.Extern.Stop Go.Stop Go.Extern

/-! ### closed facts on the model's entries for internal/reflectlite, at this program's types: 24: api.Errno · 53: *api.Errno · 40: *api.Fault · 44: **api.Fault · 26: error · 68: *errors.errorString · 72: *errors.joinError · 76: reflectlite's rtype -/
theorem Fw.valueOf (t : Addr) (w : World) : (ReflectliteValue.unpack (.iface 53 (.pointer (some t)))).run Tryd.prog w
    = .ok (.agg #[.pointer (some ⟨1, 53, none⟩), .pointer (some ⟨w.heap.size, 0, none⟩), .int .u64 150]) (w.alloc (.cells #[.pointer (some t)] 53)) := by kernel_rfl
theorem Fw.type53 (a : Addr) (w : World) : (ReflectliteValue.methodAny (ReflectliteValue.valueError "reflectlite.Value.Type" 0) (fun t _ _ _ => ReflectliteType.toType t) #[.agg #[.pointer (some ⟨1, 53, none⟩), .pointer (some a), .int .u64 150]]).run Tryd.prog w
    = .ok (.iface 76 (.agg #[.pointer (some ⟨1, 53, none⟩)])) w := by kernel_rfl
theorem Fw.methodKind (h : Value) (w : World) : (Go.method 220 76 (.agg #[h]) "Kind").run Tryd.prog w = .ok (40, h) w := by kernel_rfl
theorem Fw.kind53 (w : World) : ((ReflectliteType.abiMethod fun t => (fun a : Nat => Value.int IntKind.u8 (a : Int)) <$> Rtype.kind t) #[.pointer (some ⟨1, 53, none⟩)]).run Tryd.prog w = .ok (.int .u8 22) w := by kernel_rfl
theorem Fw.kind24 (w : World) : ((ReflectliteType.abiMethod fun t => (fun a : Nat => Value.int IntKind.u8 (a : Int)) <$> Rtype.kind t) #[.pointer (some ⟨1, 24, none⟩)]).run Tryd.prog w = .ok (.int .u8 2) w := by kernel_rfl
theorem Fw.methodElem (h : Value) (w : World) : (Go.method 220 76 (.agg #[h]) "Elem").run Tryd.prog w = .ok (55, .agg #[h]) w := by kernel_rfl
theorem Fw.methodImplements (h : Value) (w : World) : (Go.method 220 76 (.agg #[h]) "Implements").run Tryd.prog w = .ok (56, .agg #[h]) w := by kernel_rfl
theorem Fw.methodAssignableTo (h : Value) (w : World) : (Go.method 220 76 (.agg #[h]) "AssignableTo").run Tryd.prog w = .ok (53, .agg #[h]) w := by kernel_rfl
theorem Fw.methodComparable (h : Value) (w : World) : (Go.method 220 76 (.agg #[h]) "Comparable").run Tryd.prog w = .ok (54, .agg #[h]) w := by kernel_rfl
theorem Fw.unwrap40 (h : Value) (w : World) : (Go.method 220 40 h "Unwrap").run Tryd.prog w = .ok (45, h) w := by kernel_rfl
theorem Fw.elem53 (w : World) : (ReflectliteType.method ReflectliteType.elem #[.agg #[.pointer (some ⟨1, 53, none⟩)]]).run Tryd.prog w = .ok (.iface 76 (.agg #[.pointer (some ⟨1, 24, none⟩)])) w := by kernel_rfl
theorem Fw.implements24 (w : World) : (ReflectliteType.relation "Implements" ReflectliteType.implements_ #[.agg #[.pointer (some ⟨1, 24, none⟩)], .iface 76 (.agg #[.pointer (some ⟨1, 26, none⟩)])]).run Tryd.prog w = .ok (.bool true) w := by kernel_rfl
theorem Fw.typeOf24 (v : Value) (w : World) : (ReflectliteType.typeOf #[.iface 24 v]).run Tryd.prog w = .ok (.iface 76 (.agg #[.pointer (some ⟨1, 24, none⟩)])) w := by kernel_rfl
theorem Fw.typeOf40 (v : Value) (w : World) : (ReflectliteType.typeOf #[.iface 40 v]).run Tryd.prog w = .ok (.iface 76 (.agg #[.pointer (some ⟨1, 40, none⟩)])) w := by kernel_rfl
theorem Fw.typeOf68 (v : Value) (w : World) : (ReflectliteType.typeOf #[.iface 68 v]).run Tryd.prog w = .ok (.iface 76 (.agg #[.pointer (some ⟨1, 68, none⟩)])) w := by kernel_rfl
theorem Fw.typeOf72 (v : Value) (w : World) : (ReflectliteType.typeOf #[.iface 72 v]).run Tryd.prog w = .ok (.iface 76 (.agg #[.pointer (some ⟨1, 72, none⟩)])) w := by kernel_rfl
theorem Fw.as24_24 (w : World) : (ReflectliteType.relation "AssignableTo" ReflectliteType.assignableTo #[.agg #[.pointer (some ⟨1, 24, none⟩)], .iface 76 (.agg #[.pointer (some ⟨1, 24, none⟩)])]).run Tryd.prog w = .ok (.bool true) w := by kernel_rfl
theorem Fw.as40_24 (w : World) : (ReflectliteType.relation "AssignableTo" ReflectliteType.assignableTo #[.agg #[.pointer (some ⟨1, 40, none⟩)], .iface 76 (.agg #[.pointer (some ⟨1, 24, none⟩)])]).run Tryd.prog w = .ok (.bool false) w := by kernel_rfl
theorem Fw.as68_24 (w : World) : (ReflectliteType.relation "AssignableTo" ReflectliteType.assignableTo #[.agg #[.pointer (some ⟨1, 68, none⟩)], .iface 76 (.agg #[.pointer (some ⟨1, 24, none⟩)])]).run Tryd.prog w = .ok (.bool false) w := by kernel_rfl
theorem Fw.as72_24 (w : World) : (ReflectliteType.relation "AssignableTo" ReflectliteType.assignableTo #[.agg #[.pointer (some ⟨1, 72, none⟩)], .iface 76 (.agg #[.pointer (some ⟨1, 24, none⟩)])]).run Tryd.prog w = .ok (.bool false) w := by kernel_rfl
theorem Fw.valueOf24 (k : Int) (w : World) : (ReflectliteValue.unpack (.iface 24 (.int .i64 k))).run Tryd.prog w
    = .ok (.agg #[.pointer (some ⟨1, 24, none⟩), .pointer (some ⟨w.heap.size, 0, none⟩), .int .u64 130]) (w.alloc (.cells #[.int .i64 k] 24)) := by kernel_rfl
theorem Fw.ta24_87 (v : Value) (w : World) : (Instr.typeAssert (.iface 24 v) 26 87 true).run Tryd.prog w = .ok (.tuple #[.nilIface, .bool false]) w := run_typeAssert_lacksB Tryd.underlying87 (by kernel_rfl) (by kernel_rfl) v 26 w
theorem Fw.ta24_81 (v : Value) (w : World) : (Instr.typeAssert (.iface 24 v) 26 81 true).run Tryd.prog w = .ok (.tuple #[.nilIface, .bool false]) w := run_typeAssert_lacksB Tryd.underlying81 (by kernel_rfl) (by kernel_rfl) v 26 w
theorem Fw.ta24_83 (v : Value) (w : World) : (Instr.typeAssert (.iface 24 v) 26 83 true).run Tryd.prog w = .ok (.tuple #[.nilIface, .bool false]) w := run_typeAssert_lacksB Tryd.underlying83 (by kernel_rfl) (by kernel_rfl) v 26 w
theorem Fw.ta24_78 (v : Value) (w : World) : (Instr.typeAssert (.iface 24 v) 26 78 true).run Tryd.prog w = .ok (.tuple #[.nilIface, .bool false]) w := run_typeAssert_lacksB Tryd.underlying78 (by kernel_rfl) (by kernel_rfl) v 26 w
theorem Fw.ta40_87 (v : Value) (w : World) : (Instr.typeAssert (.iface 40 v) 26 87 true).run Tryd.prog w = .ok (.tuple #[.nilIface, .bool false]) w := run_typeAssert_lacksB Tryd.underlying87 (by kernel_rfl) (by kernel_rfl) v 26 w
theorem Fw.ta40_81 (v : Value) (w : World) : (Instr.typeAssert (.iface 40 v) 26 81 true).run Tryd.prog w = .ok (.tuple #[.iface 40 v, .bool true]) w := run_typeAssert_hasB Tryd.underlying81 (by kernel_rfl) v 26 w
theorem Fw.ta40_83 (v : Value) (w : World) : (Instr.typeAssert (.iface 40 v) 26 83 true).run Tryd.prog w = .ok (.tuple #[.nilIface, .bool false]) w := run_typeAssert_lacksB Tryd.underlying83 (by kernel_rfl) (by kernel_rfl) v 26 w
theorem Fw.ta40_78 (v : Value) (w : World) : (Instr.typeAssert (.iface 40 v) 26 78 true).run Tryd.prog w = .ok (.tuple #[.nilIface, .bool false]) w := run_typeAssert_lacksB Tryd.underlying78 (by kernel_rfl) (by kernel_rfl) v 26 w
theorem Fw.ta68_87 (v : Value) (w : World) : (Instr.typeAssert (.iface 68 v) 26 87 true).run Tryd.prog w = .ok (.tuple #[.nilIface, .bool false]) w := run_typeAssert_lacksB Tryd.underlying87 (by kernel_rfl) (by kernel_rfl) v 26 w
theorem Fw.ta68_81 (v : Value) (w : World) : (Instr.typeAssert (.iface 68 v) 26 81 true).run Tryd.prog w = .ok (.tuple #[.nilIface, .bool false]) w := run_typeAssert_lacksB Tryd.underlying81 (by kernel_rfl) (by kernel_rfl) v 26 w
theorem Fw.ta68_83 (v : Value) (w : World) : (Instr.typeAssert (.iface 68 v) 26 83 true).run Tryd.prog w = .ok (.tuple #[.nilIface, .bool false]) w := run_typeAssert_lacksB Tryd.underlying83 (by kernel_rfl) (by kernel_rfl) v 26 w
theorem Fw.ta68_78 (v : Value) (w : World) : (Instr.typeAssert (.iface 68 v) 26 78 true).run Tryd.prog w = .ok (.tuple #[.nilIface, .bool false]) w := run_typeAssert_lacksB Tryd.underlying78 (by kernel_rfl) (by kernel_rfl) v 26 w
theorem Fw.ta72_87 (v : Value) (w : World) : (Instr.typeAssert (.iface 72 v) 26 87 true).run Tryd.prog w = .ok (.tuple #[.nilIface, .bool false]) w := run_typeAssert_lacksB Tryd.underlying87 (by kernel_rfl) (by kernel_rfl) v 26 w
theorem Fw.ta72_81 (v : Value) (w : World) : (Instr.typeAssert (.iface 72 v) 26 81 true).run Tryd.prog w = .ok (.tuple #[.nilIface, .bool false]) w := run_typeAssert_lacksB Tryd.underlying81 (by kernel_rfl) (by kernel_rfl) v 26 w
theorem Fw.ta72_83 (v : Value) (w : World) : (Instr.typeAssert (.iface 72 v) 26 83 true).run Tryd.prog w = .ok (.tuple #[.iface 72 v, .bool true]) w := run_typeAssert_hasB Tryd.underlying83 (by kernel_rfl) v 26 w
theorem Fw.ta72_78 (v : Value) (w : World) : (Instr.typeAssert (.iface 72 v) 26 78 true).run Tryd.prog w = .ok (.tuple #[.nilIface, .bool false]) w := run_typeAssert_lacksB Tryd.underlying78 (by kernel_rfl) (by kernel_rfl) v 26 w
/-! the target **api.Fault -/
theorem Fw.valueOf44 (t : Addr) (w : World) : (ReflectliteValue.unpack (.iface 44 (.pointer (some t)))).run Tryd.prog w
    = .ok (.agg #[.pointer (some ⟨1, 44, none⟩), .pointer (some ⟨w.heap.size, 0, none⟩), .int .u64 150]) (w.alloc (.cells #[.pointer (some t)] 44)) := by kernel_rfl
theorem Fw.type44 (a : Addr) (w : World) : (ReflectliteValue.methodAny (ReflectliteValue.valueError "reflectlite.Value.Type" 0) (fun t _ _ _ => ReflectliteType.toType t) #[.agg #[.pointer (some ⟨1, 44, none⟩), .pointer (some a), .int .u64 150]]).run Tryd.prog w
    = .ok (.iface 76 (.agg #[.pointer (some ⟨1, 44, none⟩)])) w := by kernel_rfl
theorem Fw.kind44 (w : World) : ((ReflectliteType.abiMethod fun t => (fun a : Nat => Value.int IntKind.u8 (a : Int)) <$> Rtype.kind t) #[.pointer (some ⟨1, 44, none⟩)]).run Tryd.prog w = .ok (.int .u8 22) w := by kernel_rfl
theorem Fw.kind40 (w : World) : ((ReflectliteType.abiMethod fun t => (fun a : Nat => Value.int IntKind.u8 (a : Int)) <$> Rtype.kind t) #[.pointer (some ⟨1, 40, none⟩)]).run Tryd.prog w = .ok (.int .u8 22) w := by kernel_rfl
theorem Fw.elem44 (w : World) : (ReflectliteType.method ReflectliteType.elem #[.agg #[.pointer (some ⟨1, 44, none⟩)]]).run Tryd.prog w = .ok (.iface 76 (.agg #[.pointer (some ⟨1, 40, none⟩)])) w := by kernel_rfl
theorem Fw.implements40 (w : World) : (ReflectliteType.relation "Implements" ReflectliteType.implements_ #[.agg #[.pointer (some ⟨1, 40, none⟩)], .iface 76 (.agg #[.pointer (some ⟨1, 26, none⟩)])]).run Tryd.prog w = .ok (.bool true) w := by kernel_rfl
theorem Fw.as40_40 (w : World) : (ReflectliteType.relation "AssignableTo" ReflectliteType.assignableTo #[.agg #[.pointer (some ⟨1, 40, none⟩)], .iface 76 (.agg #[.pointer (some ⟨1, 40, none⟩)])]).run Tryd.prog w = .ok (.bool true) w := by kernel_rfl
theorem Fw.as24_40 (w : World) : (ReflectliteType.relation "AssignableTo" ReflectliteType.assignableTo #[.agg #[.pointer (some ⟨1, 24, none⟩)], .iface 76 (.agg #[.pointer (some ⟨1, 40, none⟩)])]).run Tryd.prog w = .ok (.bool false) w := by kernel_rfl
theorem Fw.as68_40 (w : World) : (ReflectliteType.relation "AssignableTo" ReflectliteType.assignableTo #[.agg #[.pointer (some ⟨1, 68, none⟩)], .iface 76 (.agg #[.pointer (some ⟨1, 40, none⟩)])]).run Tryd.prog w = .ok (.bool false) w := by kernel_rfl
theorem Fw.as72_40 (w : World) : (ReflectliteType.relation "AssignableTo" ReflectliteType.assignableTo #[.agg #[.pointer (some ⟨1, 72, none⟩)], .iface 76 (.agg #[.pointer (some ⟨1, 40, none⟩)])]).run Tryd.prog w = .ok (.bool false) w := by kernel_rfl
theorem Fw.valueOf40 (e : Addr) (w : World) : (ReflectliteValue.unpack (.iface 40 (.pointer (some e)))).run Tryd.prog w
    = .ok (.agg #[.pointer (some ⟨1, 40, none⟩), .pointer (some ⟨w.heap.size, 0, none⟩), .int .u64 150]) (w.alloc (.cells #[.pointer (some e)] 40)) := by kernel_rfl
theorem Fw.comp24 (w : World) : (ReflectliteType.method (fun t => do Rtype.noPackHeld "Comparable" t; pure (.bool (← typeInfo t).comparable)) #[.agg #[.pointer (some ⟨1, 24, none⟩)]]).run Tryd.prog w = .ok (.bool true) w := by kernel_rfl

/-! ### the entries that read or write memory -/
theorem Fw.rlm (z : Sem Value) (f : TypeId → Addr → Nat → Nat → Sem Value) (v : Value) :
    ReflectliteValue.method z f #[v] = (do match ← ReflectliteValue.parts v with | none => z | some (t, a, fl) => f t a fl (fl % 32)) := rfl
theorem Fw.parts53 (a : Addr) (w : World) : (ReflectliteValue.parts (.agg #[.pointer (some ⟨1, 53, none⟩), .pointer (some a), .int .u64 150])).run Tryd.prog w = .ok (some (53, a, 150)) w := by kernel_rfl
theorem Fw.parts44 (a : Addr) (w : World) : (ReflectliteValue.parts (.agg #[.pointer (some ⟨1, 44, none⟩), .pointer (some a), .int .u64 150])).run Tryd.prog w = .ok (some (44, a, 150)) w := by kernel_rfl
theorem Fw.isNil53 (a p : Addr) (W : World) (ha : W.cell? a = some (.pointer (some p))) :
    (ReflectliteValue.method (ReflectliteValue.valueError "reflectlite.Value.IsNil" 0) ReflectliteValue.isNil #[.agg #[.pointer (some ⟨1, 53, none⟩), .pointer (some a), .int .u64 150]]).run Tryd.prog W = .ok (.bool false) W := by
  rw [Fw.rlm]
  simp only [Sem.run_bind, Fw.parts53, Result.andThen]
  simp [ReflectliteValue.isNil, loadVar, isAgg, underlying, Tryd.underlying53, ha, Result.andThen]
theorem Fw.isNil44 (a p : Addr) (W : World) (ha : W.cell? a = some (.pointer (some p))) :
    (ReflectliteValue.method (ReflectliteValue.valueError "reflectlite.Value.IsNil" 0) ReflectliteValue.isNil #[.agg #[.pointer (some ⟨1, 44, none⟩), .pointer (some a), .int .u64 150]]).run Tryd.prog W = .ok (.bool false) W := by
  rw [Fw.rlm]
  simp only [Sem.run_bind, Fw.parts44, Result.andThen]
  simp [ReflectliteValue.isNil, loadVar, isAgg, underlying, Tryd.underlying44, ha, Result.andThen]
theorem Fw.elemOf53 (w : World) : (Rtype.elem? 53).run Tryd.prog w = .ok (some 24) w := by kernel_rfl
theorem Fw.elemOf44 (w : World) : (Rtype.elem? 44).run Tryd.prog w = .ok (some 40) w := by kernel_rfl
theorem Fw.mk24 (p : Addr) (w : World) : (ReflectliteValue.mk 24 p ReflectliteValue.flagAddr).run Tryd.prog w = .ok (.agg #[.pointer (some ⟨1, 24, none⟩), .pointer (some p), .int .u64 386]) w := by kernel_rfl
theorem Fw.mk40 (p : Addr) (w : World) : (ReflectliteValue.mk 40 p ReflectliteValue.flagAddr).run Tryd.prog w = .ok (.agg #[.pointer (some ⟨1, 40, none⟩), .pointer (some p), .int .u64 406]) w := by kernel_rfl
theorem Fw.elemV53 (a p : Addr) (W : World) (ha : W.cell? a = some (.pointer (some p))) :
    (ReflectliteValue.method (ReflectliteValue.valueError "reflectlite.Value.Elem" 0) ReflectliteValue.elem #[.agg #[.pointer (some ⟨1, 53, none⟩), .pointer (some a), .int .u64 150]]).run Tryd.prog W
      = .ok (.agg #[.pointer (some ⟨1, 24, none⟩), .pointer (some p), .int .u64 386]) W := by
  rw [Fw.rlm]
  simp only [Sem.run_bind, Fw.parts53, Result.andThen]
  simp [ReflectliteValue.elem, loadVar, isAgg, underlying, Tryd.underlying53, ha, Result.andThen, Fw.elemOf53, Fw.mk24]
theorem Fw.elemV44 (a p : Addr) (W : World) (ha : W.cell? a = some (.pointer (some p))) :
    (ReflectliteValue.method (ReflectliteValue.valueError "reflectlite.Value.Elem" 0) ReflectliteValue.elem #[.agg #[.pointer (some ⟨1, 44, none⟩), .pointer (some a), .int .u64 150]]).run Tryd.prog W
      = .ok (.agg #[.pointer (some ⟨1, 40, none⟩), .pointer (some p), .int .u64 406]) W := by
  rw [Fw.rlm]
  simp only [Sem.run_bind, Fw.parts44, Result.andThen]
  simp [ReflectliteValue.elem, loadVar, isAgg, underlying, Tryd.underlying44, ha, Result.andThen, Fw.elemOf44, Fw.mk40]
theorem Fw.rls (v x : Value) : ReflectliteValue.set #[v, x] = (do
    let (some (dst, a, fl), some (src, b, _)) := (← ReflectliteValue.parts v, ← ReflectliteValue.parts x)
      | unsupported (.noEntry "extern/(internal/reflectlite.Value).Set.zeroValue")
    if fl / ReflectliteValue.flagAddr % 2 == 0 then unsupported (.noEntry "extern/(internal/reflectlite.Value).Set.unaddressable")
    let val ← loadVar src b
    if ← Rtype.directlyAssignable dst src then storeVar dst a val
    else if ← Rtype.implements dst src then
      if (← Rtype.kind src) == 20 then
        match val with
        | .nilIface => unsupported (.noEntry "extern/reflectlite: a nil value of one interface type handed on as a value of another")
        | _ => storeVar dst a val
      else storeVar dst a (.iface src val)
    else panicString ("reflectlite.Set: value of type " ++ (← Rtype.spelt src) ++ " is not assignable to type " ++ (← Rtype.spelt dst))
    pure (.tuple #[])) := rfl
theorem Fw.parts24a (a : Addr) (w : World) : (ReflectliteValue.parts (.agg #[.pointer (some ⟨1, 24, none⟩), .pointer (some a), .int .u64 386])).run Tryd.prog w = .ok (some (24, a, 386)) w := by kernel_rfl
theorem Fw.parts24 (a : Addr) (w : World) : (ReflectliteValue.parts (.agg #[.pointer (some ⟨1, 24, none⟩), .pointer (some a), .int .u64 130])).run Tryd.prog w = .ok (some (24, a, 130)) w := by kernel_rfl
theorem Fw.parts40a (a : Addr) (w : World) : (ReflectliteValue.parts (.agg #[.pointer (some ⟨1, 40, none⟩), .pointer (some a), .int .u64 406])).run Tryd.prog w = .ok (some (40, a, 406)) w := by kernel_rfl
theorem Fw.parts40 (a : Addr) (w : World) : (ReflectliteValue.parts (.agg #[.pointer (some ⟨1, 40, none⟩), .pointer (some a), .int .u64 150])).run Tryd.prog w = .ok (some (40, a, 150)) w := by kernel_rfl
theorem Fw.direct24 (w : World) : (Rtype.directlyAssignable 24 24).run Tryd.prog w = .ok true w := by kernel_rfl
theorem Fw.direct40 (w : World) : (Rtype.directlyAssignable 40 40).run Tryd.prog w = .ok true w := by kernel_rfl
theorem Fw.size24 (w : World) : (sizeOf 24).run Tryd.prog w = .ok 1 w := by kernel_rfl
theorem Fw.size40 (w : World) : (sizeOf 40).run Tryd.prog w = .ok 1 w := by kernel_rfl
theorem Fw.set24 (ta b : Addr) (k : Int) (old : Value) (W : World) (hb : W.cell? b = some (.int .i64 k)) (ht : W.cell? ta = some old) (hf : W.frozen? ta = false) :
    (ReflectliteValue.set #[.agg #[.pointer (some ⟨1, 24, none⟩), .pointer (some ta), .int .u64 386], .agg #[.pointer (some ⟨1, 24, none⟩), .pointer (some b), .int .u64 130]]).run Tryd.prog W
      = .ok (.tuple #[]) (W.setCell ta (.int .i64 k)) := by
  rw [Fw.rls]
  simp only [Sem.run_bind, Fw.parts24a, Fw.parts24, Result.andThen]
  simp [ReflectliteValue.flagAddr, loadVar, isAgg, underlying, Tryd.underlying24, hb, Result.andThen, Fw.direct24, storeVar, Value.cells, storeCells, Addr.add]
  rw [run_store Tryd.prog W ta _ _ (by rfl)]
  simp [ht, hf]
theorem Fw.set40 (ta b e : Addr) (old : Value) (W : World) (hb : W.cell? b = some (.pointer (some e))) (ht : W.cell? ta = some old) (hf : W.frozen? ta = false) :
    (ReflectliteValue.set #[.agg #[.pointer (some ⟨1, 40, none⟩), .pointer (some ta), .int .u64 406], .agg #[.pointer (some ⟨1, 40, none⟩), .pointer (some b), .int .u64 150]]).run Tryd.prog W
      = .ok (.tuple #[]) (W.setCell ta (.pointer (some e))) := by
  rw [Fw.rls]
  simp only [Sem.run_bind, Fw.parts40a, Fw.parts40, Result.andThen]
  simp [ReflectliteValue.flagAddr, loadVar, isAgg, underlying, Tryd.underlying40, hb, Result.andThen, Fw.direct40, storeVar, Value.cells, storeCells, Addr.add]
  rw [run_store Tryd.prog W ta _ _ (by rfl)]
  simp [ht, hf]
end Go.Proofs.YtgehndnlbbkieaaDoor
