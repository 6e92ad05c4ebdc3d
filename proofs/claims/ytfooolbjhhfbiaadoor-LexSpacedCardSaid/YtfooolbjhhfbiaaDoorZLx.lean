/- errors.As at the scanner's errors -/
import Derived.Test.YtfooolbjhhfbiaaDoorChecked
import Derived.WalkKit
import Derived.LaidEql
import Derived.Stop.Asserts
import Derived.RowKitTokens
namespace Go.Proofs.ZLX
open Go Go.RowKit Go.Extern.Stop Go.Stop Go.Extern Go.Proofs

theorem valueOf49 (t : Addr) (w : World) : (ReflectliteValue.unpack (.iface 49 (.pointer (some t)))).run Tryd.prog w
    = .ok (.agg #[.pointer (some ⟨6, 49, none⟩), .pointer (some ⟨w.heap.size, 0, none⟩), .int .u64 150]) (w.alloc (.cells #[.pointer (some t)] 49)) := by kernel_rfl
theorem type49 (a : Addr) (w : World) : (ReflectliteValue.methodAny (ReflectliteValue.valueError "reflectlite.Value.Type" 0) (fun t _ _ _ => ReflectliteType.toType t) #[.agg #[.pointer (some ⟨6, 49, none⟩), .pointer (some a), .int .u64 150]]).run Tryd.prog w
    = .ok (.iface 68 (.agg #[.pointer (some ⟨6, 49, none⟩)])) w := by kernel_rfl
theorem methodKind (h : Value) (w : World) : (Go.method 253 68 (.agg #[h]) "Kind").run Tryd.prog w = .ok (84, h) w := by kernel_rfl
theorem kind49 (w : World) : ((ReflectliteType.abiMethod fun t => (fun a : Nat => Value.int IntKind.u8 (a : Int)) <$> Rtype.kind t) #[.pointer (some ⟨6, 49, none⟩)]).run Tryd.prog w = .ok (.int .u8 22) w := by kernel_rfl
theorem kind47 (w : World) : ((ReflectliteType.abiMethod fun t => (fun a : Nat => Value.int IntKind.u8 (a : Int)) <$> Rtype.kind t) #[.pointer (some ⟨6, 47, none⟩)]).run Tryd.prog w = .ok (.int .u8 25) w := by kernel_rfl
theorem methodElem (h : Value) (w : World) : (Go.method 253 68 (.agg #[h]) "Elem").run Tryd.prog w = .ok (94, .agg #[h]) w := by kernel_rfl
theorem methodImplements (h : Value) (w : World) : (Go.method 253 68 (.agg #[h]) "Implements").run Tryd.prog w = .ok (95, .agg #[h]) w := by kernel_rfl
theorem methodAssignableTo (h : Value) (w : World) : (Go.method 253 68 (.agg #[h]) "AssignableTo").run Tryd.prog w = .ok (92, .agg #[h]) w := by kernel_rfl
theorem elem49 (w : World) : (ReflectliteType.method ReflectliteType.elem #[.agg #[.pointer (some ⟨6, 49, none⟩)]]).run Tryd.prog w = .ok (.iface 68 (.agg #[.pointer (some ⟨6, 47, none⟩)])) w := by kernel_rfl
theorem implements47 (w : World) : (ReflectliteType.relation "Implements" ReflectliteType.implements_ #[.agg #[.pointer (some ⟨6, 47, none⟩)], .iface 68 (.agg #[.pointer (some ⟨6, 44, none⟩)])]).run Tryd.prog w = .ok (.bool true) w := by kernel_rfl
theorem typeOf47 (v : Value) (w : World) : (ReflectliteType.typeOf #[.iface 47 v]).run Tryd.prog w = .ok (.iface 68 (.agg #[.pointer (some ⟨6, 47, none⟩)])) w := by kernel_rfl
theorem typeOf81 (v : Value) (w : World) : (ReflectliteType.typeOf #[.iface 81 v]).run Tryd.prog w = .ok (.iface 68 (.agg #[.pointer (some ⟨6, 81, none⟩)])) w := by kernel_rfl
theorem assignable47 (w : World) : (ReflectliteType.relation "AssignableTo" ReflectliteType.assignableTo #[.agg #[.pointer (some ⟨6, 47, none⟩)], .iface 68 (.agg #[.pointer (some ⟨6, 47, none⟩)])]).run Tryd.prog w = .ok (.bool true) w := by kernel_rfl
theorem assignable81 (w : World) : (ReflectliteType.relation "AssignableTo" ReflectliteType.assignableTo #[.agg #[.pointer (some ⟨6, 81, none⟩)], .iface 68 (.agg #[.pointer (some ⟨6, 47, none⟩)])]).run Tryd.prog w = .ok (.bool false) w := by kernel_rfl
theorem valueOf47 (v : Value) (w : World) : (ReflectliteValue.unpack (.iface 47 (.agg #[v]))).run Tryd.prog w
    = .ok (.agg #[.pointer (some ⟨6, 47, none⟩), .pointer (some ⟨w.heap.size, 0, none⟩), .int .u64 153]) (w.alloc (.cells #[v] 47)) := by kernel_rfl
theorem elemOf49 (w : World) : (Rtype.elem? 49).run Tryd.prog w = .ok (some 47) w := by kernel_rfl
theorem mk47 (p : Addr) (w : World) : (ReflectliteValue.mk 47 p ReflectliteValue.flagAddr).run Tryd.prog w = .ok (.agg #[.pointer (some ⟨6, 47, none⟩), .pointer (some p), .int .u64 409]) w := by kernel_rfl
theorem parts49 (a : Addr) (w : World) : (ReflectliteValue.parts (.agg #[.pointer (some ⟨6, 49, none⟩), .pointer (some a), .int .u64 150])).run Tryd.prog w = .ok (some (49, a, 150)) w := by kernel_rfl
theorem parts47a (a : Addr) (w : World) : (ReflectliteValue.parts (.agg #[.pointer (some ⟨6, 47, none⟩), .pointer (some a), .int .u64 409])).run Tryd.prog w = .ok (some (47, a, 409)) w := by kernel_rfl
theorem parts47 (a : Addr) (w : World) : (ReflectliteValue.parts (.agg #[.pointer (some ⟨6, 47, none⟩), .pointer (some a), .int .u64 153])).run Tryd.prog w = .ok (some (47, a, 153)) w := by kernel_rfl
theorem direct47 (w : World) : (Rtype.directlyAssignable 47 47).run Tryd.prog w = .ok true w := by kernel_rfl
theorem rtypeT : (Tryd.prog.cutTypes.find? (·.1 == "internal/reflectlite.rtype")).map (·.2) = some 68 := by kernel_rfl
theorem et : Tryd.prog.globalNamed "errors.errorType" = some 0 := by kernel_rfl
theorem oneRow : ((List.range 153).filter fun t => Tryd.prog.rowNamed t [101, 114, 114, 111, 114]) = [44] := by kernel_rfl
theorem tsize : Tryd.prog.types.size = 153 := by kernel_rfl

theorem rlm (z : Sem Value) (f : TypeId → Addr → Nat → Nat → Sem Value) (v : Value) :
    ReflectliteValue.method z f #[v] = (do match ← ReflectliteValue.parts v with | none => z | some (t, a, fl) => f t a fl (fl % 32)) := rfl
theorem isNil49 (a p : Addr) (W : World) (ha : W.cell? a = some (.pointer (some p))) :
    (ReflectliteValue.method (ReflectliteValue.valueError "reflectlite.Value.IsNil" 0) ReflectliteValue.isNil #[.agg #[.pointer (some ⟨6, 49, none⟩), .pointer (some a), .int .u64 150]]).run Tryd.prog W = .ok (.bool false) W := by
  rw [rlm]
  simp only [Sem.run_bind, parts49, Result.andThen]
  simp [ReflectliteValue.isNil, loadVar, isAgg, underlying, Tryd.underlying49, ha, Result.andThen]
theorem elemV49 (a p : Addr) (W : World) (ha : W.cell? a = some (.pointer (some p))) :
    (ReflectliteValue.method (ReflectliteValue.valueError "reflectlite.Value.Elem" 0) ReflectliteValue.elem #[.agg #[.pointer (some ⟨6, 49, none⟩), .pointer (some a), .int .u64 150]]).run Tryd.prog W
      = .ok (.agg #[.pointer (some ⟨6, 47, none⟩), .pointer (some p), .int .u64 409]) W := by
  rw [rlm]
  simp only [Sem.run_bind, parts49, Result.andThen]
  simp [ReflectliteValue.elem, loadVar, isAgg, underlying, Tryd.underlying49, ha, Result.andThen, elemOf49, mk47]
theorem rls (v x : Value) : ReflectliteValue.set #[v, x] = (do
    let (some (dst, a, fl), some (src, b, _)) := (← ReflectliteValue.parts v, ← ReflectliteValue.parts x)
      | unsupported (.noEntry "extern/(internal/reflectlite.Value).Set.zeroValue")
    if fl / ReflectliteValue.flagAddr % 2 == 0 then unsupported (.noEntry "extern/(internal/reflectlite.Value).Set.unaddressable")
    let val ← loadVar src b
    if ← Rtype.directlyAssignable dst src then storeVar dst a val
    else if ← Rtype.implements dst src then
      if (← Rtype.kind src) == 20 then
        match val with
        | .nilIface => unsupported (.noEntry "extern/reflectlite: a nil value of one interface type handed on as a value of another")
        | _ => storeVar dst a val
      else storeVar dst a (.iface src val)
    else panicString ("reflectlite.Set: value of type " ++ (← Rtype.spelt src) ++ " is not assignable to type " ++ (← Rtype.spelt dst))
    pure (.tuple #[])) := rfl
theorem load47 (b : Addr) (v : Value) (W : World) (hb : W.cell? b = some v) : (loadVar 47 b).run Tryd.prog W = .ok (.agg #[v]) W := by
  have h1 : (isAgg 47).run Tryd.prog W = .ok true W := by kernel_rfl
  have h2 : (sizeOf 47).run Tryd.prog W = .ok 1 W := by kernel_rfl
  have h3 := run_loadCells_list (P := Tryd.prog) W b [v] (fun j u hu => by
    cases j with
    | zero => simp at hu; subst hu; simpa [Addr.add] using hb
    | succ j => simp at hu)
  simp at h3
  simp [loadVar, h1, h2, h3, Result.andThen]
theorem set47 (ta b : Addr) (v : Value) (W W' : World) (hb : W.cell? b = some v) (hst : (storeVar 47 ta (.agg #[v])).run Tryd.prog W = .ok () W') :
    (ReflectliteValue.set #[.agg #[.pointer (some ⟨6, 47, none⟩), .pointer (some ta), .int .u64 409], .agg #[.pointer (some ⟨6, 47, none⟩), .pointer (some b), .int .u64 153]]).run Tryd.prog W = .ok (.tuple #[]) W' := by
  rw [rls]
  simp only [Sem.run_bind, parts47a, parts47, Result.andThen]
  simp [ReflectliteValue.flagAddr, load47 b v W hb, Result.andThen, direct47, hst]

end Go.Proofs.ZLX
