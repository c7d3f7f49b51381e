/- errors.As at the target *json.wrong: a json.wrong is found; an *errors.errorString is none. (json.told, (*json.reader).fail.) -/
import Derived.Test.YtakgcaehkphepaaGreatDoorJb
import Derived.LaidEql
import Derived.Stop.Asserts
import Derived.RowKitTokens
namespace Go.Proofs.YtakgcaehkphepaaGreatDoor
open Go.RowKit Go.Extern.Stop Go.Stop Go.Extern
set_option linter.unusedVariables false
set_option linter.unusedSimpArgs false

/-! ### What an error is: nil, or a json.wrong with its number -/

theorem as_nil (t : Value) (w : World) :
    Calls Tryz.prog 52 #[.nilIface, t] w fun e w' => e = .returned (.bool false) ∧ w' = w := by
  go_enter Tryz.func52, Tryz.ntmps52
  go_wp2
  go_ret
  exact ⟨rfl, rfl⟩

theorem Ja.valueOf73 (t : Addr) (w : World) : (ReflectliteValue.unpack (.iface 73 (.pointer (some t)))).run Tryz.prog w
    = .ok (.agg #[.pointer (some ⟨10, 73, none⟩), .pointer (some ⟨w.heap.size, 0, none⟩), .int .u64 150]) (w.alloc (.cells #[.pointer (some t)] 73)) := by kernel_rfl
theorem Ja.type73 (a : Addr) (w : World) : (ReflectliteValue.methodAny (ReflectliteValue.valueError "reflectlite.Value.Type" 0) (fun t _ _ _ => ReflectliteType.toType t) #[.agg #[.pointer (some ⟨10, 73, none⟩), .pointer (some a), .int .u64 150]]).run Tryz.prog w
    = .ok (.iface 141 (.agg #[.pointer (some ⟨10, 73, none⟩)])) w := by kernel_rfl
theorem Ja.methodKind (h : Value) (w : World) : (Go.method 327 141 (.agg #[h]) "Kind").run Tryz.prog w = .ok (175, h) w := by kernel_rfl
theorem Ja.kind73 (w : World) : ((ReflectliteType.abiMethod fun t => (fun a : Nat => Value.int IntKind.u8 (a : Int)) <$> Rtype.kind t) #[.pointer (some ⟨10, 73, none⟩)]).run Tryz.prog w = .ok (.int .u8 22) w := by kernel_rfl
theorem Ja.kind71 (w : World) : ((ReflectliteType.abiMethod fun t => (fun a : Nat => Value.int IntKind.u8 (a : Int)) <$> Rtype.kind t) #[.pointer (some ⟨10, 71, none⟩)]).run Tryz.prog w = .ok (.int .u8 25) w := by kernel_rfl
theorem rlm (z : Sem Value) (f : TypeId → Addr → Nat → Nat → Sem Value) (v : Value) :
    ReflectliteValue.method z f #[v] = (do match ← ReflectliteValue.parts v with | none => z | some (t, a, fl) => f t a fl (fl % 32)) := rfl
theorem Ja.parts73 (a : Addr) (w : World) : (ReflectliteValue.parts (.agg #[.pointer (some ⟨10, 73, none⟩), .pointer (some a), .int .u64 150])).run Tryz.prog w = .ok (some (73, a, 150)) w := by kernel_rfl
theorem Ja.isNil73 (a p : Addr) (W : World) (ha : W.cell? a = some (.pointer (some p))) :
    (ReflectliteValue.method (ReflectliteValue.valueError "reflectlite.Value.IsNil" 0) ReflectliteValue.isNil #[.agg #[.pointer (some ⟨10, 73, none⟩), .pointer (some a), .int .u64 150]]).run Tryz.prog W = .ok (.bool false) W := by
  rw [rlm]
  simp only [Sem.run_bind, Ja.parts73, Result.andThen]
  simp [ReflectliteValue.isNil, loadVar, isAgg, underlying, Tryz.underlying73, ha, Result.andThen]
theorem Ja.methodElem (h : Value) (w : World) : (Go.method 327 141 (.agg #[h]) "Elem").run Tryz.prog w = .ok (187, .agg #[h]) w := by kernel_rfl
theorem Ja.methodImplements (h : Value) (w : World) : (Go.method 327 141 (.agg #[h]) "Implements").run Tryz.prog w = .ok (188, .agg #[h]) w := by kernel_rfl
theorem Ja.methodAssignableTo (h : Value) (w : World) : (Go.method 327 141 (.agg #[h]) "AssignableTo").run Tryz.prog w = .ok (185, .agg #[h]) w := by kernel_rfl
theorem Ja.elem73 (w : World) : (ReflectliteType.method ReflectliteType.elem #[.agg #[.pointer (some ⟨10, 73, none⟩)]]).run Tryz.prog w = .ok (.iface 141 (.agg #[.pointer (some ⟨10, 71, none⟩)])) w := by kernel_rfl
theorem Ja.implements71 (w : World) : (ReflectliteType.relation "Implements" ReflectliteType.implements_ #[.agg #[.pointer (some ⟨10, 71, none⟩)], .iface 141 (.agg #[.pointer (some ⟨10, 49, none⟩)])]).run Tryz.prog w = .ok (.bool true) w := by kernel_rfl
theorem Ja.typeOf71 (v : Value) (w : World) : (ReflectliteType.typeOf #[.iface 71 v]).run Tryz.prog w = .ok (.iface 141 (.agg #[.pointer (some ⟨10, 71, none⟩)])) w := by kernel_rfl
theorem Ja.assignable71 (w : World) : (ReflectliteType.relation "AssignableTo" ReflectliteType.assignableTo #[.agg #[.pointer (some ⟨10, 71, none⟩)], .iface 141 (.agg #[.pointer (some ⟨10, 71, none⟩)])]).run Tryz.prog w = .ok (.bool true) w := by kernel_rfl
theorem Ja.valueOf71 (y e : Value) (w : World) : (ReflectliteValue.unpack (.iface 71 (.agg #[y, e]))).run Tryz.prog w
    = .ok (.agg #[.pointer (some ⟨10, 71, none⟩), .pointer (some ⟨w.heap.size, 0, none⟩), .int .u64 153]) (w.alloc (.cells #[y, e] 71)) := by kernel_rfl
theorem Ja.elemOf73 (w : World) : (Rtype.elem? 73).run Tryz.prog w = .ok (some 71) w := by kernel_rfl
theorem Ja.mk71 (p : Addr) (w : World) : (ReflectliteValue.mk 71 p ReflectliteValue.flagAddr).run Tryz.prog w = .ok (.agg #[.pointer (some ⟨10, 71, none⟩), .pointer (some p), .int .u64 409]) w := by kernel_rfl
theorem Ja.elemV73 (a p : Addr) (W : World) (ha : W.cell? a = some (.pointer (some p))) :
    (ReflectliteValue.method (ReflectliteValue.valueError "reflectlite.Value.Elem" 0) ReflectliteValue.elem #[.agg #[.pointer (some ⟨10, 73, none⟩), .pointer (some a), .int .u64 150]]).run Tryz.prog W
      = .ok (.agg #[.pointer (some ⟨10, 71, none⟩), .pointer (some p), .int .u64 409]) W := by
  rw [rlm]
  simp only [Sem.run_bind, Ja.parts73, Result.andThen]
  simp [ReflectliteValue.elem, loadVar, isAgg, underlying, Tryz.underlying73, ha, Result.andThen, Ja.elemOf73, Ja.mk71]
theorem rls (v x : Value) : ReflectliteValue.set #[v, x] = (do
    let (some (dst, a, fl), some (src, b, _)) := (← ReflectliteValue.parts v, ← ReflectliteValue.parts x)
      | unsupported (.noEntry "extern/(internal/reflectlite.Value).Set.zeroValue")
    if fl / ReflectliteValue.flagAddr % 2 == 0 then unsupported (.noEntry "extern/(internal/reflectlite.Value).Set.unaddressable")
    let val ← loadVar src b
    if ← Rtype.directlyAssignable dst src then storeVar dst a val
    else if ← Rtype.implements dst src then
      if (← Rtype.kind src) == 20 then
        match val with
        | .nilIface => unsupported (.noEntry "extern/reflectlite: a nil value of one interface type handed on as a value of another")
        | _ => storeVar dst a val
      else storeVar dst a (.iface src val)
    else panicString ("reflectlite.Set: value of type " ++ (← Rtype.spelt src) ++ " is not assignable to type " ++ (← Rtype.spelt dst))
    pure (.tuple #[])) := rfl
theorem Ja.parts71a (a : Addr) (w : World) : (ReflectliteValue.parts (.agg #[.pointer (some ⟨10, 71, none⟩), .pointer (some a), .int .u64 409])).run Tryz.prog w = .ok (some (71, a, 409)) w := by kernel_rfl
theorem Ja.parts71 (a : Addr) (w : World) : (ReflectliteValue.parts (.agg #[.pointer (some ⟨10, 71, none⟩), .pointer (some a), .int .u64 153])).run Tryz.prog w = .ok (some (71, a, 153)) w := by kernel_rfl
theorem Ja.direct71 (w : World) : (Rtype.directlyAssignable 71 71).run Tryz.prog w = .ok true w := by kernel_rfl
theorem Ja.typeOf195 (v : Value) (w : World) : (ReflectliteType.typeOf #[.iface 195 v]).run Tryz.prog w = .ok (.iface 141 (.agg #[.pointer (some ⟨10, 195, none⟩)])) w := by kernel_rfl
theorem Ja.assignable195 (w : World) : (ReflectliteType.relation "AssignableTo" ReflectliteType.assignableTo #[.agg #[.pointer (some ⟨10, 195, none⟩)], .iface 141 (.agg #[.pointer (some ⟨10, 71, none⟩)])]).run Tryz.prog w = .ok (.bool false) w := by kernel_rfl
theorem Ja.noAs (v : Value) (xT : TypeId) (w : World) : (Instr.typeAssert (.iface 195 v) xT 146 true).run Tryz.prog w = .ok (.tuple #[.nilIface, .bool false]) w := run_typeAssert_lacksB Tryz.underlying146 (by kernel_rfl) (by kernel_rfl) v xT w
theorem Ja.noUnwrap (v : Value) (xT : TypeId) (w : World) : (Instr.typeAssert (.iface 195 v) xT 149 true).run Tryz.prog w = .ok (.tuple #[.nilIface, .bool false]) w := run_typeAssert_lacksB Tryz.underlying149 (by kernel_rfl) (by kernel_rfl) v xT w
theorem Ja.noUnwraps (v : Value) (xT : TypeId) (w : World) : (Instr.typeAssert (.iface 195 v) xT 151 true).run Tryz.prog w = .ok (.tuple #[.nilIface, .bool false]) w := run_typeAssert_lacksB Tryz.underlying151 (by kernel_rfl) (by kernel_rfl) v xT w

end Go.Proofs.YtakgcaehkphepaaGreatDoor
