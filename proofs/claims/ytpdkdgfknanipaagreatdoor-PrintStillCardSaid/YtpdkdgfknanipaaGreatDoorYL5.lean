/- errors.As at the errors of the parser. -/
import Derived.Test.YtpdkdgfknanipaaGreatDoorChecked
import Derived.WalkKit
import Derived.LaidEql
import Derived.Stop.Asserts
import Derived.RowKitTokens
section
namespace Go.Proofs.ZLW
open Go Go.RowKit Go.Extern.Stop Go.Stop Go.Extern Go.Proofs

theorem qN (t : Addr) (w : World) : (ReflectliteValue.unpack (.iface 62 (.pointer (some t)))).run Tryz.prog w
  = .ok (.agg #[.pointer (some ⟨7, 62, none⟩), .pointer (some ⟨w.heap.size, 0, none⟩), .int .u64 150]) (w.alloc (.cells #[.pointer (some t)] 62)) := by kernel_rfl
theorem type49 (a : Addr) (w : World) : (ReflectliteValue.methodAny (ReflectliteValue.valueError "reflectlite.Value.Type" 0) (fun t _ _ _ => ReflectliteType.toType t) #[.agg #[.pointer (some ⟨7, 62, none⟩), .pointer (some a), .int .u64 150]]).run Tryz.prog w
  = .ok (.iface 116 (.agg #[.pointer (some ⟨7, 62, none⟩)])) w := by kernel_rfl
theorem oM (h : Value) (w : World) : (Go.method 407 116 (.agg #[h]) "Kind").run Tryz.prog w = .ok (275, h) w := by kernel_rfl
theorem zK (w : World) : ((ReflectliteType.abiMethod fun t => (fun a : Nat => Value.int IntKind.u8 (a : Int)) <$> Rtype.kind t) #[.pointer (some ⟨7, 62, none⟩)]).run Tryz.prog w = .ok (.int .u8 22) w := by kernel_rfl
theorem zJ (w : World) : ((ReflectliteType.abiMethod fun t => (fun a : Nat => Value.int IntKind.u8 (a : Int)) <$> Rtype.kind t) #[.pointer (some ⟨7, 60, none⟩)]).run Tryz.prog w = .ok (.int .u8 25) w := by kernel_rfl
theorem oL (h : Value) (w : World) : (Go.method 407 116 (.agg #[h]) "Elem").run Tryz.prog w = .ok (290, .agg #[h]) w := by kernel_rfl
theorem gV (h : Value) (w : World) : (Go.method 407 116 (.agg #[h]) "Implements").run Tryz.prog w = .ok (291, .agg #[h]) w := by kernel_rfl
theorem fL (h : Value) (w : World) : (Go.method 407 116 (.agg #[h]) "AssignableTo").run Tryz.prog w = .ok (288, .agg #[h]) w := by kernel_rfl
theorem zC (w : World) : (ReflectliteType.method ReflectliteType.elem #[.agg #[.pointer (some ⟨7, 62, none⟩)]]).run Tryz.prog w = .ok (.iface 116 (.agg #[.pointer (some ⟨7, 60, none⟩)])) w := by kernel_rfl
theorem lM (w : World) : (ReflectliteType.relation "Implements" ReflectliteType.implements_ #[.agg #[.pointer (some ⟨7, 60, none⟩)], .iface 116 (.agg #[.pointer (some ⟨7, 56, none⟩)])]).run Tryz.prog w = .ok (.bool true) w := by kernel_rfl
theorem sZ (v : Value) (w : World) : (ReflectliteType.typeOf #[.iface 60 v]).run Tryz.prog w = .ok (.iface 116 (.agg #[.pointer (some ⟨7, 60, none⟩)])) w := by kernel_rfl
theorem xL (v : Value) (w : World) : (ReflectliteType.typeOf #[.iface 84 v]).run Tryz.prog w = .ok (.iface 116 (.agg #[.pointer (some ⟨7, 84, none⟩)])) w := by kernel_rfl
theorem lJ (w : World) : (ReflectliteType.relation "AssignableTo" ReflectliteType.assignableTo #[.agg #[.pointer (some ⟨7, 60, none⟩)], .iface 116 (.agg #[.pointer (some ⟨7, 60, none⟩)])]).run Tryz.prog w = .ok (.bool true) w := by kernel_rfl
theorem oD (w : World) : (ReflectliteType.relation "AssignableTo" ReflectliteType.assignableTo #[.agg #[.pointer (some ⟨7, 84, none⟩)], .iface 116 (.agg #[.pointer (some ⟨7, 60, none⟩)])]).run Tryz.prog w = .ok (.bool false) w := by kernel_rfl
theorem qM (v u : Value) (w : World) : (ReflectliteValue.unpack (.iface 60 (.agg #[v, u]))).run Tryz.prog w
  = .ok (.agg #[.pointer (some ⟨7, 60, none⟩), .pointer (some ⟨w.heap.size, 0, none⟩), .int .u64 153]) (w.alloc (.cells #[v, u] 60)) := by kernel_rfl
theorem wH (w : World) : (Rtype.elem? 62).run Tryz.prog w = .ok (some 60) w := by kernel_rfl
theorem aNe (p : Addr) (w : World) : (ReflectliteValue.mk 60 p ReflectliteValue.flagAddr).run Tryz.prog w = .ok (.agg #[.pointer (some ⟨7, 60, none⟩), .pointer (some p), .int .u64 409]) w := by kernel_rfl
theorem sN (a : Addr) (w : World) : (ReflectliteValue.parts (.agg #[.pointer (some ⟨7, 62, none⟩), .pointer (some a), .int .u64 150])).run Tryz.prog w = .ok (some (62, a, 150)) w := by kernel_rfl
theorem w6 (a : Addr) (w : World) : (ReflectliteValue.parts (.agg #[.pointer (some ⟨7, 60, none⟩), .pointer (some a), .int .u64 409])).run Tryz.prog w = .ok (some (60, a, 409)) w := by kernel_rfl
theorem zU (a : Addr) (w : World) : (ReflectliteValue.parts (.agg #[.pointer (some ⟨7, 60, none⟩), .pointer (some a), .int .u64 153])).run Tryz.prog w = .ok (some (60, a, 153)) w := by kernel_rfl
theorem wG (w : World) : (Rtype.directlyAssignable 60 60).run Tryz.prog w = .ok true w := by kernel_rfl
theorem aIm : (Tryz.prog.cutTypes.find? (·.1 == "internal/reflectlite.rtype")).map (·.2) = some 116 := by kernel_rfl
theorem et : Tryz.prog.globalNamed "errors.errorType" = some 0 := by kernel_rfl
theorem aH7 : ((List.range 307).filter fun t => Tryz.prog.rowNamed t [101, 114, 114, 111, 114]) = [56] := by kernel_rfl
theorem aMf : Tryz.prog.types.size = 307 := by kernel_rfl

theorem rlm (z : Sem Value) (f : TypeId → Addr → Nat → Nat → Sem Value) (v : Value) :
  ReflectliteValue.method z f #[v] = (do match ← ReflectliteValue.parts v with | none => z | some (t, a, fl) => f t a fl (fl % 32)) := rfl
theorem vF (a p : Addr) (W : World) (ha : W.cell? a = some (.pointer (some p))) :
  (ReflectliteValue.method (ReflectliteValue.valueError "reflectlite.Value.IsNil" 0) ReflectliteValue.isNil #[.agg #[.pointer (some ⟨7, 62, none⟩), .pointer (some a), .int .u64 150]]).run Tryz.prog W = .ok (.bool false) W := by
 rw [rlm]
 simp only [Sem.run_bind, sN, Result.andThen]
 simp [ReflectliteValue.isNil, loadVar, isAgg, underlying, Tryz.underlying62, ha, Result.andThen]
theorem vD (a p : Addr) (W : World) (ha : W.cell? a = some (.pointer (some p))) :
  (ReflectliteValue.method (ReflectliteValue.valueError "reflectlite.Value.Elem" 0) ReflectliteValue.elem #[.agg #[.pointer (some ⟨7, 62, none⟩), .pointer (some a), .int .u64 150]]).run Tryz.prog W
   = .ok (.agg #[.pointer (some ⟨7, 60, none⟩), .pointer (some p), .int .u64 409]) W := by
 rw [rlm]
 simp only [Sem.run_bind, sN, Result.andThen]
 simp [ReflectliteValue.elem, loadVar, isAgg, underlying, Tryz.underlying62, ha, Result.andThen, wH, aNe]
theorem rls (v x : Value) : ReflectliteValue.set #[v, x] = (do
  let (some (dst, a, fl), some (src, b, _)) := (← ReflectliteValue.parts v, ← ReflectliteValue.parts x)
   | unsupported (.noEntry "extern/(internal/reflectlite.Value).Set.zeroValue")
  if fl / ReflectliteValue.flagAddr % 2 == 0 then unsupported (.noEntry "extern/(internal/reflectlite.Value).Set.unaddressable")
  let val ← loadVar src b
  if ← Rtype.directlyAssignable dst src then storeVar dst a val
  else if ← Rtype.implements dst src then
   if (← Rtype.kind src) == 20 then
    match val with
    | .nilIface => unsupported (.noEntry "extern/reflectlite: a nil value of one interface type handed on as a value of another")
    | _ => storeVar dst a val
   else storeVar dst a (.iface src val)
  else panicString ("reflectlite.Set: value of type " ++ (← Rtype.spelt src) ++ " is not assignable to type " ++ (← Rtype.spelt dst))
  pure (.tuple #[])) := rfl
theorem aDa (b : Addr) (v u : Value) (W : World) (hb : W.cell? b = some v) (hb2 : W.cell? (b.add 1) = some u) : (loadVar 60 b).run Tryz.prog W = .ok (.agg #[v, u]) W := by
 have h1 : (isAgg 60).run Tryz.prog W = .ok true W := by kernel_rfl
 have h2 : (sizeOf 60).run Tryz.prog W = .ok 2 W := by kernel_rfl
 have h3 := run_loadCells_list (P := Tryz.prog) W b [v, u] (fun j x hx => by
  rcases j with _ | _ | j
  ·simp at hx; subst hx; simpa [Addr.add] using hb
  ·simp at hx; subst hx; exact hb2
  ·simp at hx)
 simp at h3
 simp [loadVar, h1, h2, h3, Result.andThen]
theorem aEv (ta b : Addr) (v u : Value) (W W' : World) (hb : W.cell? b = some v) (hb2 : W.cell? (b.add 1) = some u) (hst : (storeVar 60 ta (.agg #[v, u])).run Tryz.prog W = .ok () W') :
  (ReflectliteValue.set #[.agg #[.pointer (some ⟨7, 60, none⟩), .pointer (some ta), .int .u64 409], .agg #[.pointer (some ⟨7, 60, none⟩), .pointer (some b), .int .u64 153]]).run Tryz.prog W = .ok (.tuple #[]) W' := by
 rw [rls]
 simp only [Sem.run_bind, w6, zU, Result.andThen]
 simp [ReflectliteValue.flagAddr, aDa b v u W hb hb2, Result.andThen, wG, hst]

end Go.Proofs.ZLW
end

section
namespace Go.Proofs.ZLW
open Go Go.RowKit Go.Extern.Stop Go.Stop Go.Extern Go.Proofs

set_option maxHeartbeats 4000000 in
set_option maxRecDepth 100000 in
theorem aE3 (p q : Value) (t : Addr) (w W' : World) (hg : w.cell? ⟨0, 0, none⟩ = some (.iface 116 (.agg #[.pointer (some ⟨7, 56, none⟩)]))) (_htl : t.block < w.heap.size)
  (hst : (storeVar 60 t (.agg #[p, q])).run Tryz.prog (((((w.alloc (.cells #[.pointer (some t)] 62)).alloc (.cells #[.pointer (some ⟨7, 62, none⟩), .pointer (some ⟨w.heap.size, 0, none⟩), .int .u64 150] 91)).alloc (.cells #[.pointer (some ⟨7, 62, none⟩), .pointer (some ⟨w.heap.size, 0, none⟩), .int .u64 150] 91)).alloc (.cells #[.iface 60 (.agg #[p, q])] 84)).alloc (.cells #[p, q] 60)) = .ok () W') :
  Calls Tryz.prog 28 #[.iface 84 (.agg #[.iface 60 (.agg #[p, q])]), .iface 62 (.pointer (some t))] w fun ev w' => ev = .returned (.bool true) ∧ w' = W' := by
 have h21 := @run_callFunc_extern Tryz.prog 52 _ (fun args => ReflectliteValue.unpack (args.getD 0 (.tuple #[]))) Tryz.func52 (by kernel_rfl) (by kernel_rfl) (by kernel_rfl) (by kernel_rfl)
 have h22 := @run_callFunc_extern Tryz.prog 53 _ (ReflectliteValue.methodAny (ReflectliteValue.valueError "reflectlite.Value.Type" 0) (fun t _ _ _ => ReflectliteType.toType t)) Tryz.func53 (by kernel_rfl) (by kernel_rfl) (by kernel_rfl) (by kernel_rfl)
 have h23 := @run_callFunc_extern Tryz.prog 54 _ (ReflectliteValue.method (ReflectliteValue.valueError "reflectlite.Value.IsNil" 0) ReflectliteValue.isNil) Tryz.func54 (by kernel_rfl) (by kernel_rfl) (by kernel_rfl) (by kernel_rfl)
 have h84 := @run_callFunc_extern Tryz.prog 275 _ (ReflectliteType.abiMethod fun t => do pure (.int .u8 (← Rtype.kind t))) Tryz.func275 (by kernel_rfl) (by kernel_rfl) (by kernel_rfl) (by kernel_rfl)
 have h94 := @run_callFunc_extern Tryz.prog 290 _ (ReflectliteType.method ReflectliteType.elem) Tryz.func290 (by kernel_rfl) (by kernel_rfl) (by kernel_rfl) (by kernel_rfl)
 have h95 := @run_callFunc_extern Tryz.prog 291 _ (ReflectliteType.relation "Implements" ReflectliteType.implements_) Tryz.func291 (by kernel_rfl) (by kernel_rfl) (by kernel_rfl) (by kernel_rfl)
 have h35 := @run_callFunc_extern Tryz.prog 88 _ ReflectliteType.typeOf Tryz.func88 (by kernel_rfl) (by kernel_rfl) (by kernel_rfl) (by kernel_rfl)
 have h92 := @run_callFunc_extern Tryz.prog 288 _ (ReflectliteType.relation "AssignableTo" ReflectliteType.assignableTo) Tryz.func288 (by kernel_rfl) (by kernel_rfl) (by kernel_rfl) (by kernel_rfl)
 have h36 := @run_callFunc_extern Tryz.prog 89 _ (ReflectliteValue.method (ReflectliteValue.valueError "reflectlite.Value.Elem" 0) ReflectliteValue.elem) Tryz.func89 (by kernel_rfl) (by kernel_rfl) (by kernel_rfl) (by kernel_rfl)
 have h37 := @run_callFunc_extern Tryz.prog 90 _ ReflectliteValue.set Tryz.func90 (by kernel_rfl) (by kernel_rfl) (by kernel_rfl) (by kernel_rfl)
 have tO := sZ
 have tO81 := xL
 have a81 := oD
 have ta73 : ∀ w, (Instr.typeAssert (.iface 84 (.agg #[.iface 60 (.agg #[p, q])])) 56 121 true).run Tryz.prog w = .ok (.tuple #[.nilIface, .bool false]) w := fun w => run_typeAssert_lacksB Tryz.underlying121 (by kernel_rfl) (by kernel_rfl) _ _ w
 have ta76 : ∀ w, (Instr.typeAssert (.iface 84 (.agg #[.iface 60 (.agg #[p, q])])) 56 124 true).run Tryz.prog w = .ok (.tuple #[.iface 84 (.agg #[.iface 60 (.agg #[p, q])]), .bool true]) w := fun w => by kernel_rfl
 have mU : ∀ w, (Go.method 407 84 (.agg #[.iface 60 (.agg #[p, q])]) "Unwrap").run Tryz.prog w = .ok (283, .agg #[.iface 60 (.agg #[p, q])]) w := fun w => by kernel_rfl
 have mA := fL
 have a47 := lJ
 have v47 := qM
 have f49 := qN
 have t49 := type49
 have mK := oM
 have mE := oL
 have mI := gV
 have k49 := zK
 have k47 := zJ
 have e49 := zC
 have i47 := lM
 have n49 := vF ⟨w.heap.size, 0, none⟩ t ((w.alloc (.cells #[.pointer (some t)] 62)).alloc (.cells #[.pointer (some ⟨7, 62, none⟩), .pointer (some ⟨w.heap.size, 0, none⟩), .int .u64 150] 91)) (by simp)
 have hlt : 0 < w.heap.size := by
  rcases Nat.eq_zero_or_pos w.heap.size with h0 | h
  ·simp [World.cell?, h0] at hg
  ·exact h
 have hg2 : ((w.alloc (.cells #[.pointer (some t)] 62)).alloc (.cells #[.pointer (some ⟨7, 62, none⟩), .pointer (some ⟨w.heap.size, 0, none⟩), .int .u64 150] 91)).cell? ⟨0, 0, none⟩ = some (.iface 116 (.agg #[.pointer (some ⟨7, 56, none⟩)])) := by
  rw [World.cell?_alloc_lt _ _ ⟨0, 0, none⟩ (by simp), World.cell?_alloc_lt _ _ ⟨0, 0, none⟩ hlt]; exact hg
 have el := vD ⟨w.heap.size, 0, none⟩ t ((((w.alloc (.cells #[.pointer (some t)] 62)).alloc (.cells #[.pointer (some ⟨7, 62, none⟩), .pointer (some ⟨w.heap.size, 0, none⟩), .int .u64 150] 91)).alloc (.cells #[.pointer (some ⟨7, 62, none⟩), .pointer (some ⟨w.heap.size, 0, none⟩), .int .u64 150] 91)).alloc (.cells #[.iface 60 (.agg #[p, q])] 84)) (by rw [World.cell?_alloc_lt _ _ ⟨w.heap.size, 0, none⟩ (by simp; omega), World.cell?_alloc_lt _ _ ⟨w.heap.size, 0, none⟩ (by simp; omega)]; simp)
 have st := aEv t ⟨w.heap.size + 1 + 1 + 1 + 1, 0, none⟩ p q _ W' (by rw [World.cell?_alloc_at _ _ _ _ (by simp)]; rfl) (by show World.cell? _ ⟨w.heap.size + 1 + 1 + 1 + 1, 0 + 1, none⟩ = _; rw [World.cell?_alloc_at _ _ _ _ (by simp)]; rfl) hst
 go_enter Tryz.func28, Tryz.ntmps28
 go_wp2
 refine wp_loop_rounds 2 ?_
 rw [rounds_succ]
 go_wp2
 rw [rounds_succ]
 go_wp2
 go_ret
 exact ⟨rfl, rfl⟩

set_option maxHeartbeats 4000000 in
set_option maxRecDepth 100000 in
theorem aMi (v : Value) (w : World) : Calls Tryz.prog 28 #[.nilIface, v] w fun ev w' => ev = .returned (.bool false) ∧ w' = w := by
 go_enter Tryz.func28, Tryz.ntmps28
 go_wp2
 go_ret
 exact ⟨rfl, rfl⟩
end Go.Proofs.ZLW
end
