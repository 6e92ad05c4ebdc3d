/- errors.As at the errors of the scanner. -/
import Derived.Test.YtoifleamknbeaaaGreatDoorChecked
import Derived.WalkKit
import Derived.LaidEql
import Derived.Stop.Asserts
import Derived.RowKitTokens
section
namespace Go.Proofs.ZLX
open Go Go.RowKit Go.Extern.Stop Go.Stop Go.Extern Go.Proofs

theorem pQ (t : Addr) (w : World) : (ReflectliteValue.unpack (.iface 69 (.pointer (some t)))).run Tryz.prog w
  = .ok (.agg #[.pointer (some ⟨6, 69, none⟩), .pointer (some ⟨w.heap.size, 0, none⟩), .int .u64 150]) (w.alloc (.cells #[.pointer (some t)] 69)) := by kernel_rfl
theorem type49 (a : Addr) (w : World) : (ReflectliteValue.methodAny (ReflectliteValue.valueError "reflectlite.Value.Type" 0) (fun t _ _ _ => ReflectliteType.toType t) #[.agg #[.pointer (some ⟨6, 69, none⟩), .pointer (some a), .int .u64 150]]).run Tryz.prog w
  = .ok (.iface 98 (.agg #[.pointer (some ⟨6, 69, none⟩)])) w := by kernel_rfl
theorem oA (h : Value) (w : World) : (Go.method 302 98 (.agg #[h]) "Kind").run Tryz.prog w = .ok (188, h) w := by kernel_rfl
theorem w9 (w : World) : ((ReflectliteType.abiMethod fun t => (fun a : Nat => Value.int IntKind.u8 (a : Int)) <$> Rtype.kind t) #[.pointer (some ⟨6, 69, none⟩)]).run Tryz.prog w = .ok (.int .u8 22) w := by kernel_rfl
theorem yH (w : World) : ((ReflectliteType.abiMethod fun t => (fun a : Nat => Value.int IntKind.u8 (a : Int)) <$> Rtype.kind t) #[.pointer (some ⟨6, 68, none⟩)]).run Tryz.prog w = .ok (.int .u8 25) w := by kernel_rfl
theorem nZ (h : Value) (w : World) : (Go.method 302 98 (.agg #[h]) "Elem").run Tryz.prog w = .ok (202, .agg #[h]) w := by kernel_rfl
theorem gU (h : Value) (w : World) : (Go.method 302 98 (.agg #[h]) "Implements").run Tryz.prog w = .ok (203, .agg #[h]) w := by kernel_rfl
theorem fN (h : Value) (w : World) : (Go.method 302 98 (.agg #[h]) "AssignableTo").run Tryz.prog w = .ok (200, .agg #[h]) w := by kernel_rfl
theorem yF (w : World) : (ReflectliteType.method ReflectliteType.elem #[.agg #[.pointer (some ⟨6, 69, none⟩)]]).run Tryz.prog w = .ok (.iface 98 (.agg #[.pointer (some ⟨6, 68, none⟩)])) w := by kernel_rfl
theorem k4 (w : World) : (ReflectliteType.relation "Implements" ReflectliteType.implements_ #[.agg #[.pointer (some ⟨6, 68, none⟩)], .iface 98 (.agg #[.pointer (some ⟨6, 47, none⟩)])]).run Tryz.prog w = .ok (.bool true) w := by kernel_rfl
theorem qU (v : Value) (w : World) : (ReflectliteType.typeOf #[.iface 68 v]).run Tryz.prog w = .ok (.iface 98 (.agg #[.pointer (some ⟨6, 68, none⟩)])) w := by kernel_rfl
theorem tT (v : Value) (w : World) : (ReflectliteType.typeOf #[.iface 115 v]).run Tryz.prog w = .ok (.iface 98 (.agg #[.pointer (some ⟨6, 115, none⟩)])) w := by kernel_rfl
theorem kW (w : World) : (ReflectliteType.relation "AssignableTo" ReflectliteType.assignableTo #[.agg #[.pointer (some ⟨6, 68, none⟩)], .iface 98 (.agg #[.pointer (some ⟨6, 68, none⟩)])]).run Tryz.prog w = .ok (.bool true) w := by kernel_rfl
theorem nW (w : World) : (ReflectliteType.relation "AssignableTo" ReflectliteType.assignableTo #[.agg #[.pointer (some ⟨6, 115, none⟩)], .iface 98 (.agg #[.pointer (some ⟨6, 68, none⟩)])]).run Tryz.prog w = .ok (.bool false) w := by kernel_rfl
theorem pN (v : Value) (w : World) : (ReflectliteValue.unpack (.iface 68 (.agg #[v]))).run Tryz.prog w
  = .ok (.agg #[.pointer (some ⟨6, 68, none⟩), .pointer (some ⟨w.heap.size, 0, none⟩), .int .u64 153]) (w.alloc (.cells #[v] 68)) := by kernel_rfl
theorem u5 (w : World) : (Rtype.elem? 69).run Tryz.prog w = .ok (some 68) w := by kernel_rfl
theorem aJt (p : Addr) (w : World) : (ReflectliteValue.mk 68 p ReflectliteValue.flagAddr).run Tryz.prog w = .ok (.agg #[.pointer (some ⟨6, 68, none⟩), .pointer (some p), .int .u64 409]) w := by kernel_rfl
theorem q9 (a : Addr) (w : World) : (ReflectliteValue.parts (.agg #[.pointer (some ⟨6, 69, none⟩), .pointer (some a), .int .u64 150])).run Tryz.prog w = .ok (some (69, a, 150)) w := by kernel_rfl
theorem uQ (a : Addr) (w : World) : (ReflectliteValue.parts (.agg #[.pointer (some ⟨6, 68, none⟩), .pointer (some a), .int .u64 409])).run Tryz.prog w = .ok (some (68, a, 409)) w := by kernel_rfl
theorem yJ (a : Addr) (w : World) : (ReflectliteValue.parts (.agg #[.pointer (some ⟨6, 68, none⟩), .pointer (some a), .int .u64 153])).run Tryz.prog w = .ok (some (68, a, 153)) w := by kernel_rfl
theorem vR (w : World) : (Rtype.directlyAssignable 68 68).run Tryz.prog w = .ok true w := by kernel_rfl
theorem aFv : (Tryz.prog.cutTypes.find? (·.1 == "internal/reflectlite.rtype")).map (·.2) = some 98 := by kernel_rfl
theorem et : Tryz.prog.globalNamed "errors.errorType" = some 0 := by kernel_rfl
theorem aEk : ((List.range 202).filter fun t => Tryz.prog.rowNamed t [101, 114, 114, 111, 114]) = [47] := by kernel_rfl
theorem aIj : Tryz.prog.types.size = 202 := by kernel_rfl

theorem rlm (z : Sem Value) (f : TypeId → Addr → Nat → Nat → Sem Value) (v : Value) :
  ReflectliteValue.method z f #[v] = (do match ← ReflectliteValue.parts v with | none => z | some (t, a, fl) => f t a fl (fl % 32)) := rfl
theorem tQ (a p : Addr) (W : World) (ha : W.cell? a = some (.pointer (some p))) :
  (ReflectliteValue.method (ReflectliteValue.valueError "reflectlite.Value.IsNil" 0) ReflectliteValue.isNil #[.agg #[.pointer (some ⟨6, 69, none⟩), .pointer (some a), .int .u64 150]]).run Tryz.prog W = .ok (.bool false) W := by
 rw [rlm]
 simp only [Sem.run_bind, q9, Result.andThen]
 simp [ReflectliteValue.isNil, loadVar, isAgg, underlying, Tryz.underlying69, ha, Result.andThen]
theorem tM (a p : Addr) (W : World) (ha : W.cell? a = some (.pointer (some p))) :
  (ReflectliteValue.method (ReflectliteValue.valueError "reflectlite.Value.Elem" 0) ReflectliteValue.elem #[.agg #[.pointer (some ⟨6, 69, none⟩), .pointer (some a), .int .u64 150]]).run Tryz.prog W
   = .ok (.agg #[.pointer (some ⟨6, 68, none⟩), .pointer (some p), .int .u64 409]) W := by
 rw [rlm]
 simp only [Sem.run_bind, q9, Result.andThen]
 simp [ReflectliteValue.elem, loadVar, isAgg, underlying, Tryz.underlying69, ha, Result.andThen, u5, aJt]
theorem rls (v x : Value) : ReflectliteValue.set #[v, x] = (do
  let (some (dst, a, fl), some (src, b, _)) := (← ReflectliteValue.parts v, ← ReflectliteValue.parts x)
   | unsupported (.noEntry "extern/(internal/reflectlite.Value).Set.zeroValue")
  if fl / ReflectliteValue.flagAddr % 2 == 0 then unsupported (.noEntry "extern/(internal/reflectlite.Value).Set.unaddressable")
  let val ← loadVar src b
  if ← Rtype.directlyAssignable dst src then storeVar dst a val
  else if ← Rtype.implements dst src then
   if (← Rtype.kind src) == 20 then
    match val with
    | .nilIface => unsupported (.noEntry "extern/reflectlite: a nil value of one interface type handed on as a value of another")
    | _ => storeVar dst a val
   else storeVar dst a (.iface src val)
  else panicString ("reflectlite.Set: value of type " ++ (← Rtype.spelt src) ++ " is not assignable to type " ++ (← Rtype.spelt dst))
  pure (.tuple #[])) := rfl
theorem aAm (b : Addr) (v : Value) (W : World) (hb : W.cell? b = some v) : (loadVar 68 b).run Tryz.prog W = .ok (.agg #[v]) W := by
 have h1 : (isAgg 68).run Tryz.prog W = .ok true W := by kernel_rfl
 have h2 : (sizeOf 68).run Tryz.prog W = .ok 1 W := by kernel_rfl
 have h3 := run_loadCells_list (P := Tryz.prog) W b [v] (fun j u hu => by
  cases j with
  | zero => simp at hu; subst hu; simpa [Addr.add] using hb
  | succ j => simp at hu)
 simp at h3
 simp [loadVar, h1, h2, h3, Result.andThen]
theorem aCb (ta b : Addr) (v : Value) (W W' : World) (hb : W.cell? b = some v) (hst : (storeVar 68 ta (.agg #[v])).run Tryz.prog W = .ok () W') :
  (ReflectliteValue.set #[.agg #[.pointer (some ⟨6, 68, none⟩), .pointer (some ta), .int .u64 409], .agg #[.pointer (some ⟨6, 68, none⟩), .pointer (some b), .int .u64 153]]).run Tryz.prog W = .ok (.tuple #[]) W' := by
 rw [rls]
 simp only [Sem.run_bind, uQ, yJ, Result.andThen]
 simp [ReflectliteValue.flagAddr, aAm b v W hb, Result.andThen, vR, hst]

end Go.Proofs.ZLX
end

section
namespace Go.Proofs.ZLX
open Go Go.RowKit Go.Extern.Stop Go.Stop Go.Extern Go.Proofs

set_option maxHeartbeats 4000000 in
set_option maxRecDepth 100000 in
theorem aEs (p : Value) (t : Addr) (w W' : World) (hg : w.cell? ⟨0, 0, none⟩ = some (.iface 98 (.agg #[.pointer (some ⟨6, 47, none⟩)]))) (_htl : t.block < w.heap.size)
  (hst : (storeVar 68 t (.agg #[p])).run Tryz.prog ((((w.alloc (.cells #[.pointer (some t)] 69)).alloc (.cells #[.pointer (some ⟨6, 69, none⟩), .pointer (some ⟨w.heap.size, 0, none⟩), .int .u64 150] 81)).alloc (.cells #[.pointer (some ⟨6, 69, none⟩), .pointer (some ⟨w.heap.size, 0, none⟩), .int .u64 150] 81)).alloc (.cells #[p] 68)) = .ok () W') :
  Calls Tryz.prog 21 #[.iface 68 (.agg #[p]), .iface 69 (.pointer (some t))] w fun ev w' => ev = .returned (.bool true) ∧ w' = W' := by
 have h21 := @run_callFunc_extern Tryz.prog 32 _ (fun args => ReflectliteValue.unpack (args.getD 0 (.tuple #[]))) Tryz.func32 (by kernel_rfl) (by kernel_rfl) (by kernel_rfl) (by kernel_rfl)
 have h22 := @run_callFunc_extern Tryz.prog 33 _ (ReflectliteValue.methodAny (ReflectliteValue.valueError "reflectlite.Value.Type" 0) (fun t _ _ _ => ReflectliteType.toType t)) Tryz.func33 (by kernel_rfl) (by kernel_rfl) (by kernel_rfl) (by kernel_rfl)
 have h23 := @run_callFunc_extern Tryz.prog 34 _ (ReflectliteValue.method (ReflectliteValue.valueError "reflectlite.Value.IsNil" 0) ReflectliteValue.isNil) Tryz.func34 (by kernel_rfl) (by kernel_rfl) (by kernel_rfl) (by kernel_rfl)
 have h84 := @run_callFunc_extern Tryz.prog 188 _ (ReflectliteType.abiMethod fun t => do pure (.int .u8 (← Rtype.kind t))) Tryz.func188 (by kernel_rfl) (by kernel_rfl) (by kernel_rfl) (by kernel_rfl)
 have h94 := @run_callFunc_extern Tryz.prog 202 _ (ReflectliteType.method ReflectliteType.elem) Tryz.func202 (by kernel_rfl) (by kernel_rfl) (by kernel_rfl) (by kernel_rfl)
 have h95 := @run_callFunc_extern Tryz.prog 203 _ (ReflectliteType.relation "Implements" ReflectliteType.implements_) Tryz.func203 (by kernel_rfl) (by kernel_rfl) (by kernel_rfl) (by kernel_rfl)
 have h35 := @run_callFunc_extern Tryz.prog 54 _ ReflectliteType.typeOf Tryz.func54 (by kernel_rfl) (by kernel_rfl) (by kernel_rfl) (by kernel_rfl)
 have h92 := @run_callFunc_extern Tryz.prog 200 _ (ReflectliteType.relation "AssignableTo" ReflectliteType.assignableTo) Tryz.func200 (by kernel_rfl) (by kernel_rfl) (by kernel_rfl) (by kernel_rfl)
 have h36 := @run_callFunc_extern Tryz.prog 55 _ (ReflectliteValue.method (ReflectliteValue.valueError "reflectlite.Value.Elem" 0) ReflectliteValue.elem) Tryz.func55 (by kernel_rfl) (by kernel_rfl) (by kernel_rfl) (by kernel_rfl)
 have h37 := @run_callFunc_extern Tryz.prog 56 _ ReflectliteValue.set Tryz.func56 (by kernel_rfl) (by kernel_rfl) (by kernel_rfl) (by kernel_rfl)
 have tO := qU
 have mA := fN
 have a47 := kW
 have v47 := pN
 have f49 := pQ
 have t49 := type49
 have mK := oA
 have mE := nZ
 have mI := gU
 have k49 := w9
 have k47 := yH
 have e49 := yF
 have i47 := k4
 have n49 := tQ ⟨w.heap.size, 0, none⟩ t ((w.alloc (.cells #[.pointer (some t)] 69)).alloc (.cells #[.pointer (some ⟨6, 69, none⟩), .pointer (some ⟨w.heap.size, 0, none⟩), .int .u64 150] 81)) (by simp)
 have hlt : 0 < w.heap.size := by
  rcases Nat.eq_zero_or_pos w.heap.size with h0 | h
  ·simp [World.cell?, h0] at hg
  ·exact h
 have hg2 : ((w.alloc (.cells #[.pointer (some t)] 69)).alloc (.cells #[.pointer (some ⟨6, 69, none⟩), .pointer (some ⟨w.heap.size, 0, none⟩), .int .u64 150] 81)).cell? ⟨0, 0, none⟩ = some (.iface 98 (.agg #[.pointer (some ⟨6, 47, none⟩)])) := by
  rw [World.cell?_alloc_lt _ _ ⟨0, 0, none⟩ (by simp), World.cell?_alloc_lt _ _ ⟨0, 0, none⟩ hlt]; exact hg
 have el := tM ⟨w.heap.size, 0, none⟩ t (((w.alloc (.cells #[.pointer (some t)] 69)).alloc (.cells #[.pointer (some ⟨6, 69, none⟩), .pointer (some ⟨w.heap.size, 0, none⟩), .int .u64 150] 81)).alloc (.cells #[.pointer (some ⟨6, 69, none⟩), .pointer (some ⟨w.heap.size, 0, none⟩), .int .u64 150] 81)) (by rw [World.cell?_alloc_lt _ _ ⟨w.heap.size, 0, none⟩ (by simp; omega)]; simp)
 have st := aCb t ⟨w.heap.size + 1 + 1 + 1, 0, none⟩ p _ W' (by rw [World.cell?_alloc_at _ _ _ _ (by simp)]; rfl) hst
 go_enter Tryz.func21, Tryz.ntmps21
 go_wp2
 refine wp_loop_rounds 1 ?_
 rw [rounds_succ]
 go_wp2
 go_ret
 exact ⟨rfl, rfl⟩
set_option maxHeartbeats 4000000 in
set_option maxRecDepth 100000 in
theorem aHs (s : ByteArray) (p : Value) (t : Addr) (w W' : World) (hg : w.cell? ⟨0, 0, none⟩ = some (.iface 98 (.agg #[.pointer (some ⟨6, 47, none⟩)]))) (_htl : t.block < w.heap.size)
  (hst : (storeVar 68 t (.agg #[p])).run Tryz.prog (((((w.alloc (.cells #[.pointer (some t)] 69)).alloc (.cells #[.pointer (some ⟨6, 69, none⟩), .pointer (some ⟨w.heap.size, 0, none⟩), .int .u64 150] 81)).alloc (.cells #[.pointer (some ⟨6, 69, none⟩), .pointer (some ⟨w.heap.size, 0, none⟩), .int .u64 150] 81)).alloc (.cells #[.string s, .iface 68 (.agg #[p])] 115)).alloc (.cells #[p] 68)) = .ok () W') :
  Calls Tryz.prog 21 #[.iface 115 (.agg #[.string s, .iface 68 (.agg #[p])]), .iface 69 (.pointer (some t))] w fun ev w' => ev = .returned (.bool true) ∧ w' = W' := by
 have h21 := @run_callFunc_extern Tryz.prog 32 _ (fun args => ReflectliteValue.unpack (args.getD 0 (.tuple #[]))) Tryz.func32 (by kernel_rfl) (by kernel_rfl) (by kernel_rfl) (by kernel_rfl)
 have h22 := @run_callFunc_extern Tryz.prog 33 _ (ReflectliteValue.methodAny (ReflectliteValue.valueError "reflectlite.Value.Type" 0) (fun t _ _ _ => ReflectliteType.toType t)) Tryz.func33 (by kernel_rfl) (by kernel_rfl) (by kernel_rfl) (by kernel_rfl)
 have h23 := @run_callFunc_extern Tryz.prog 34 _ (ReflectliteValue.method (ReflectliteValue.valueError "reflectlite.Value.IsNil" 0) ReflectliteValue.isNil) Tryz.func34 (by kernel_rfl) (by kernel_rfl) (by kernel_rfl) (by kernel_rfl)
 have h84 := @run_callFunc_extern Tryz.prog 188 _ (ReflectliteType.abiMethod fun t => do pure (.int .u8 (← Rtype.kind t))) Tryz.func188 (by kernel_rfl) (by kernel_rfl) (by kernel_rfl) (by kernel_rfl)
 have h94 := @run_callFunc_extern Tryz.prog 202 _ (ReflectliteType.method ReflectliteType.elem) Tryz.func202 (by kernel_rfl) (by kernel_rfl) (by kernel_rfl) (by kernel_rfl)
 have h95 := @run_callFunc_extern Tryz.prog 203 _ (ReflectliteType.relation "Implements" ReflectliteType.implements_) Tryz.func203 (by kernel_rfl) (by kernel_rfl) (by kernel_rfl) (by kernel_rfl)
 have h35 := @run_callFunc_extern Tryz.prog 54 _ ReflectliteType.typeOf Tryz.func54 (by kernel_rfl) (by kernel_rfl) (by kernel_rfl) (by kernel_rfl)
 have h92 := @run_callFunc_extern Tryz.prog 200 _ (ReflectliteType.relation "AssignableTo" ReflectliteType.assignableTo) Tryz.func200 (by kernel_rfl) (by kernel_rfl) (by kernel_rfl) (by kernel_rfl)
 have h36 := @run_callFunc_extern Tryz.prog 55 _ (ReflectliteValue.method (ReflectliteValue.valueError "reflectlite.Value.Elem" 0) ReflectliteValue.elem) Tryz.func55 (by kernel_rfl) (by kernel_rfl) (by kernel_rfl) (by kernel_rfl)
 have h37 := @run_callFunc_extern Tryz.prog 56 _ ReflectliteValue.set Tryz.func56 (by kernel_rfl) (by kernel_rfl) (by kernel_rfl) (by kernel_rfl)
 have tO := qU
 have tO81 := tT
 have a81 := nW
 have ta73 : ∀ w, (Instr.typeAssert (.iface 115 (.agg #[.string s, .iface 68 (.agg #[p])])) 47 103 true).run Tryz.prog w = .ok (.tuple #[.nilIface, .bool false]) w := fun w => run_typeAssert_lacksB Tryz.underlying103 (by kernel_rfl) (by kernel_rfl) _ _ w
 have ta76 : ∀ w, (Instr.typeAssert (.iface 115 (.agg #[.string s, .iface 68 (.agg #[p])])) 47 106 true).run Tryz.prog w = .ok (.tuple #[.iface 115 (.agg #[.string s, .iface 68 (.agg #[p])]), .bool true]) w := fun w => by kernel_rfl
 have mU : ∀ w, (Go.method 302 115 (.agg #[.string s, .iface 68 (.agg #[p])]) "Unwrap").run Tryz.prog w = .ok (211, .agg #[.string s, .iface 68 (.agg #[p])]) w := fun w => by kernel_rfl
 have mA := fN
 have a47 := kW
 have v47 := pN
 have f49 := pQ
 have t49 := type49
 have mK := oA
 have mE := nZ
 have mI := gU
 have k49 := w9
 have k47 := yH
 have e49 := yF
 have i47 := k4
 have n49 := tQ ⟨w.heap.size, 0, none⟩ t ((w.alloc (.cells #[.pointer (some t)] 69)).alloc (.cells #[.pointer (some ⟨6, 69, none⟩), .pointer (some ⟨w.heap.size, 0, none⟩), .int .u64 150] 81)) (by simp)
 have hlt : 0 < w.heap.size := by
  rcases Nat.eq_zero_or_pos w.heap.size with h0 | h
  ·simp [World.cell?, h0] at hg
  ·exact h
 have hg2 : ((w.alloc (.cells #[.pointer (some t)] 69)).alloc (.cells #[.pointer (some ⟨6, 69, none⟩), .pointer (some ⟨w.heap.size, 0, none⟩), .int .u64 150] 81)).cell? ⟨0, 0, none⟩ = some (.iface 98 (.agg #[.pointer (some ⟨6, 47, none⟩)])) := by
  rw [World.cell?_alloc_lt _ _ ⟨0, 0, none⟩ (by simp), World.cell?_alloc_lt _ _ ⟨0, 0, none⟩ hlt]; exact hg
 have el := tM ⟨w.heap.size, 0, none⟩ t ((((w.alloc (.cells #[.pointer (some t)] 69)).alloc (.cells #[.pointer (some ⟨6, 69, none⟩), .pointer (some ⟨w.heap.size, 0, none⟩), .int .u64 150] 81)).alloc (.cells #[.pointer (some ⟨6, 69, none⟩), .pointer (some ⟨w.heap.size, 0, none⟩), .int .u64 150] 81)).alloc (.cells #[.string s, .iface 68 (.agg #[p])] 115)) (by rw [World.cell?_alloc_lt _ _ ⟨w.heap.size, 0, none⟩ (by simp; omega), World.cell?_alloc_lt _ _ ⟨w.heap.size, 0, none⟩ (by simp; omega)]; simp)
 have st := aCb t ⟨w.heap.size + 1 + 1 + 1 + 1, 0, none⟩ p _ W' (by rw [World.cell?_alloc_at _ _ _ _ (by simp)]; rfl) hst
 go_enter Tryz.func21, Tryz.ntmps21
 go_wp2
 refine wp_loop_rounds 2 ?_
 rw [rounds_succ]
 go_wp2
 rw [rounds_succ]
 go_wp2
 go_ret
 exact ⟨rfl, rfl⟩
end Go.Proofs.ZLX
end
