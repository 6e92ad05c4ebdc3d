/- errors.As at the scanner's errors: the walk of Go's own text -/
import Derived.Test.YtfooolbjhhfbiaaDoorZLx
namespace Go.Proofs.ZLX
open Go Go.RowKit Go.Extern.Stop Go.Stop Go.Extern Go.Proofs

/-- The world after what errors.As allocates. -/
def asW (w : World) (t : Addr) : World := ((w.alloc (.cells #[.pointer (some t)] 49)).alloc (.cells #[.agg #[.pointer (some ⟨6, 49, none⟩)], .agg #[], .int .u64 150] 56)).alloc (.cells #[.agg #[]] 56)

set_option maxHeartbeats 4000000 in
set_option maxRecDepth 100000 in
theorem as_stuck (p : Value) (t : Addr) (w W' : World) (hg : w.cell? ⟨0, 0, none⟩ = some (.iface 68 (.agg #[.pointer (some ⟨6, 44, none⟩)]))) (_htl : t.block < w.heap.size)
    (hst : (storeVar 47 t (.agg #[p])).run Tryd.prog ((((w.alloc (.cells #[.pointer (some t)] 49)).alloc (.cells #[.pointer (some ⟨6, 49, none⟩), .pointer (some ⟨w.heap.size, 0, none⟩), .int .u64 150] 56)).alloc (.cells #[.pointer (some ⟨6, 49, none⟩), .pointer (some ⟨w.heap.size, 0, none⟩), .int .u64 150] 56)).alloc (.cells #[p] 47)) = .ok () W') :
    Calls Tryd.prog 16 #[.iface 47 (.agg #[p]), .iface 49 (.pointer (some t))] w fun ev w' => ev = .returned (.bool true) ∧ w' = W' := by
  have h21 := @run_callFunc_extern Tryd.prog 21 _ (fun args => ReflectliteValue.unpack (args.getD 0 (.tuple #[]))) Tryd.func21 (by kernel_rfl) (by kernel_rfl) (by kernel_rfl) (by kernel_rfl)
  have h22 := @run_callFunc_extern Tryd.prog 22 _ (ReflectliteValue.methodAny (ReflectliteValue.valueError "reflectlite.Value.Type" 0) (fun t _ _ _ => ReflectliteType.toType t)) Tryd.func22 (by kernel_rfl) (by kernel_rfl) (by kernel_rfl) (by kernel_rfl)
  have h23 := @run_callFunc_extern Tryd.prog 23 _ (ReflectliteValue.method (ReflectliteValue.valueError "reflectlite.Value.IsNil" 0) ReflectliteValue.isNil) Tryd.func23 (by kernel_rfl) (by kernel_rfl) (by kernel_rfl) (by kernel_rfl)
  have h84 := @run_callFunc_extern Tryd.prog 84 _ (ReflectliteType.abiMethod fun t => do pure (.int .u8 (← Rtype.kind t))) Tryd.func84 (by kernel_rfl) (by kernel_rfl) (by kernel_rfl) (by kernel_rfl)
  have h94 := @run_callFunc_extern Tryd.prog 94 _ (ReflectliteType.method ReflectliteType.elem) Tryd.func94 (by kernel_rfl) (by kernel_rfl) (by kernel_rfl) (by kernel_rfl)
  have h95 := @run_callFunc_extern Tryd.prog 95 _ (ReflectliteType.relation "Implements" ReflectliteType.implements_) Tryd.func95 (by kernel_rfl) (by kernel_rfl) (by kernel_rfl) (by kernel_rfl)
  have h35 := @run_callFunc_extern Tryd.prog 35 _ ReflectliteType.typeOf Tryd.func35 (by kernel_rfl) (by kernel_rfl) (by kernel_rfl) (by kernel_rfl)
  have h92 := @run_callFunc_extern Tryd.prog 92 _ (ReflectliteType.relation "AssignableTo" ReflectliteType.assignableTo) Tryd.func92 (by kernel_rfl) (by kernel_rfl) (by kernel_rfl) (by kernel_rfl)
  have h36 := @run_callFunc_extern Tryd.prog 36 _ (ReflectliteValue.method (ReflectliteValue.valueError "reflectlite.Value.Elem" 0) ReflectliteValue.elem) Tryd.func36 (by kernel_rfl) (by kernel_rfl) (by kernel_rfl) (by kernel_rfl)
  have h37 := @run_callFunc_extern Tryd.prog 37 _ ReflectliteValue.set Tryd.func37 (by kernel_rfl) (by kernel_rfl) (by kernel_rfl) (by kernel_rfl)
  have tO := typeOf47
  have mA := methodAssignableTo
  have a47 := assignable47
  have v47 := valueOf47
  have f49 := valueOf49
  have t49 := type49
  have mK := methodKind
  have mE := methodElem
  have mI := methodImplements
  have k49 := kind49
  have k47 := kind47
  have e49 := elem49
  have i47 := implements47
  have n49 := isNil49 ⟨w.heap.size, 0, none⟩ t ((w.alloc (.cells #[.pointer (some t)] 49)).alloc (.cells #[.pointer (some ⟨6, 49, none⟩), .pointer (some ⟨w.heap.size, 0, none⟩), .int .u64 150] 56)) (by simp)
  have hlt : 0 < w.heap.size := by
    rcases Nat.eq_zero_or_pos w.heap.size with h0 | h
    · simp [World.cell?, h0] at hg
    · exact h
  have hg2 : ((w.alloc (.cells #[.pointer (some t)] 49)).alloc (.cells #[.pointer (some ⟨6, 49, none⟩), .pointer (some ⟨w.heap.size, 0, none⟩), .int .u64 150] 56)).cell? ⟨0, 0, none⟩ = some (.iface 68 (.agg #[.pointer (some ⟨6, 44, none⟩)])) := by
    rw [World.cell?_alloc_lt _ _ ⟨0, 0, none⟩ (by simp), World.cell?_alloc_lt _ _ ⟨0, 0, none⟩ hlt]; exact hg
  have el := elemV49 ⟨w.heap.size, 0, none⟩ t (((w.alloc (.cells #[.pointer (some t)] 49)).alloc (.cells #[.pointer (some ⟨6, 49, none⟩), .pointer (some ⟨w.heap.size, 0, none⟩), .int .u64 150] 56)).alloc (.cells #[.pointer (some ⟨6, 49, none⟩), .pointer (some ⟨w.heap.size, 0, none⟩), .int .u64 150] 56)) (by rw [World.cell?_alloc_lt _ _ ⟨w.heap.size, 0, none⟩ (by simp; omega)]; simp)
  have st := set47 t ⟨w.heap.size + 1 + 1 + 1, 0, none⟩ p _ W' (by rw [World.cell?_alloc_at _ _ _ _ (by simp)]; rfl) hst
  go_enter Tryd.func16, Tryd.ntmps16
  go_wp2
  refine wp_loop_rounds 1 ?_
  rw [rounds_succ]
  go_wp2
  go_ret
  exact ⟨rfl, rfl⟩
set_option maxHeartbeats 4000000 in
set_option maxRecDepth 100000 in
theorem as_long (s : ByteArray) (p : Value) (t : Addr) (w W' : World) (hg : w.cell? ⟨0, 0, none⟩ = some (.iface 68 (.agg #[.pointer (some ⟨6, 44, none⟩)]))) (_htl : t.block < w.heap.size)
    (hst : (storeVar 47 t (.agg #[p])).run Tryd.prog (((((w.alloc (.cells #[.pointer (some t)] 49)).alloc (.cells #[.pointer (some ⟨6, 49, none⟩), .pointer (some ⟨w.heap.size, 0, none⟩), .int .u64 150] 56)).alloc (.cells #[.pointer (some ⟨6, 49, none⟩), .pointer (some ⟨w.heap.size, 0, none⟩), .int .u64 150] 56)).alloc (.cells #[.string s, .iface 47 (.agg #[p])] 81)).alloc (.cells #[p] 47)) = .ok () W') :
    Calls Tryd.prog 16 #[.iface 81 (.agg #[.string s, .iface 47 (.agg #[p])]), .iface 49 (.pointer (some t))] w fun ev w' => ev = .returned (.bool true) ∧ w' = W' := by
  have h21 := @run_callFunc_extern Tryd.prog 21 _ (fun args => ReflectliteValue.unpack (args.getD 0 (.tuple #[]))) Tryd.func21 (by kernel_rfl) (by kernel_rfl) (by kernel_rfl) (by kernel_rfl)
  have h22 := @run_callFunc_extern Tryd.prog 22 _ (ReflectliteValue.methodAny (ReflectliteValue.valueError "reflectlite.Value.Type" 0) (fun t _ _ _ => ReflectliteType.toType t)) Tryd.func22 (by kernel_rfl) (by kernel_rfl) (by kernel_rfl) (by kernel_rfl)
  have h23 := @run_callFunc_extern Tryd.prog 23 _ (ReflectliteValue.method (ReflectliteValue.valueError "reflectlite.Value.IsNil" 0) ReflectliteValue.isNil) Tryd.func23 (by kernel_rfl) (by kernel_rfl) (by kernel_rfl) (by kernel_rfl)
  have h84 := @run_callFunc_extern Tryd.prog 84 _ (ReflectliteType.abiMethod fun t => do pure (.int .u8 (← Rtype.kind t))) Tryd.func84 (by kernel_rfl) (by kernel_rfl) (by kernel_rfl) (by kernel_rfl)
  have h94 := @run_callFunc_extern Tryd.prog 94 _ (ReflectliteType.method ReflectliteType.elem) Tryd.func94 (by kernel_rfl) (by kernel_rfl) (by kernel_rfl) (by kernel_rfl)
  have h95 := @run_callFunc_extern Tryd.prog 95 _ (ReflectliteType.relation "Implements" ReflectliteType.implements_) Tryd.func95 (by kernel_rfl) (by kernel_rfl) (by kernel_rfl) (by kernel_rfl)
  have h35 := @run_callFunc_extern Tryd.prog 35 _ ReflectliteType.typeOf Tryd.func35 (by kernel_rfl) (by kernel_rfl) (by kernel_rfl) (by kernel_rfl)
  have h92 := @run_callFunc_extern Tryd.prog 92 _ (ReflectliteType.relation "AssignableTo" ReflectliteType.assignableTo) Tryd.func92 (by kernel_rfl) (by kernel_rfl) (by kernel_rfl) (by kernel_rfl)
  have h36 := @run_callFunc_extern Tryd.prog 36 _ (ReflectliteValue.method (ReflectliteValue.valueError "reflectlite.Value.Elem" 0) ReflectliteValue.elem) Tryd.func36 (by kernel_rfl) (by kernel_rfl) (by kernel_rfl) (by kernel_rfl)
  have h37 := @run_callFunc_extern Tryd.prog 37 _ ReflectliteValue.set Tryd.func37 (by kernel_rfl) (by kernel_rfl) (by kernel_rfl) (by kernel_rfl)
  have tO := typeOf47
  have tO81 := typeOf81
  have a81 := assignable81
  have ta73 : ∀ w, (Instr.typeAssert (.iface 81 (.agg #[.string s, .iface 47 (.agg #[p])])) 44 73 true).run Tryd.prog w = .ok (.tuple #[.nilIface, .bool false]) w := fun w => run_typeAssert_lacksB Tryd.underlying73 (by kernel_rfl) (by kernel_rfl) _ _ w
  have ta76 : ∀ w, (Instr.typeAssert (.iface 81 (.agg #[.string s, .iface 47 (.agg #[p])])) 44 76 true).run Tryd.prog w = .ok (.tuple #[.iface 81 (.agg #[.string s, .iface 47 (.agg #[p])]), .bool true]) w := fun w => by kernel_rfl
  have mU : ∀ w, (Go.method 253 81 (.agg #[.string s, .iface 47 (.agg #[p])]) "Unwrap").run Tryd.prog w = .ok (103, .agg #[.string s, .iface 47 (.agg #[p])]) w := fun w => by kernel_rfl
  have mA := methodAssignableTo
  have a47 := assignable47
  have v47 := valueOf47
  have f49 := valueOf49
  have t49 := type49
  have mK := methodKind
  have mE := methodElem
  have mI := methodImplements
  have k49 := kind49
  have k47 := kind47
  have e49 := elem49
  have i47 := implements47
  have n49 := isNil49 ⟨w.heap.size, 0, none⟩ t ((w.alloc (.cells #[.pointer (some t)] 49)).alloc (.cells #[.pointer (some ⟨6, 49, none⟩), .pointer (some ⟨w.heap.size, 0, none⟩), .int .u64 150] 56)) (by simp)
  have hlt : 0 < w.heap.size := by
    rcases Nat.eq_zero_or_pos w.heap.size with h0 | h
    · simp [World.cell?, h0] at hg
    · exact h
  have hg2 : ((w.alloc (.cells #[.pointer (some t)] 49)).alloc (.cells #[.pointer (some ⟨6, 49, none⟩), .pointer (some ⟨w.heap.size, 0, none⟩), .int .u64 150] 56)).cell? ⟨0, 0, none⟩ = some (.iface 68 (.agg #[.pointer (some ⟨6, 44, none⟩)])) := by
    rw [World.cell?_alloc_lt _ _ ⟨0, 0, none⟩ (by simp), World.cell?_alloc_lt _ _ ⟨0, 0, none⟩ hlt]; exact hg
  have el := elemV49 ⟨w.heap.size, 0, none⟩ t ((((w.alloc (.cells #[.pointer (some t)] 49)).alloc (.cells #[.pointer (some ⟨6, 49, none⟩), .pointer (some ⟨w.heap.size, 0, none⟩), .int .u64 150] 56)).alloc (.cells #[.pointer (some ⟨6, 49, none⟩), .pointer (some ⟨w.heap.size, 0, none⟩), .int .u64 150] 56)).alloc (.cells #[.string s, .iface 47 (.agg #[p])] 81)) (by rw [World.cell?_alloc_lt _ _ ⟨w.heap.size, 0, none⟩ (by simp; omega), World.cell?_alloc_lt _ _ ⟨w.heap.size, 0, none⟩ (by simp; omega)]; simp)
  have st := set47 t ⟨w.heap.size + 1 + 1 + 1 + 1, 0, none⟩ p _ W' (by rw [World.cell?_alloc_at _ _ _ _ (by simp)]; rfl) hst
  go_enter Tryd.func16, Tryd.ntmps16
  go_wp2
  refine wp_loop_rounds 2 ?_
  rw [rounds_succ]
  go_wp2
  rw [rounds_succ]
  go_wp2
  go_ret
  exact ⟨rfl, rfl⟩
end Go.Proofs.ZLX
