/- faults and tokens that are compared -/
import Derived.Test.YtfooolbjhhfbiaaDoorZLo
open Go Go.Am
namespace Go.Proofs.ZL
set_option maxRecDepth 100000
set_option maxHeartbeats 4000000

theorem guard26 : Tryd.prog.eqGuardType Tryd.prog.depth 26 = false := by decide +kernel
theorem guard31 : Tryd.prog.eqGuardType Tryd.prog.depth 31 = false := by decide +kernel
theorem stood26 : Tryd.prog.stoodInHeld 26 = false := by decide +kernel
theorem stood31 : Tryd.prog.stoodInHeld 31 = false := by decide +kernel

theorem ask26 {x y : Operand} {a b : Array Value} : eqAsk Tryd.prog .eql 26 x y (.agg a) (.agg b) = true := by unfold eqAsk eqAskBoth; simp only [guard26]; rfl
theorem ask31 {x y : Operand} {a b : Array Value} : eqAsk Tryd.prog .eql 31 x y (.agg a) (.agg b) = true := by unfold eqAsk eqAskBoth; simp only [guard31]; rfl
theorem ask26n {x y : Operand} {a b : Array Value} : eqAsk Tryd.prog .neq 26 x y (.agg a) (.agg b) = true := by unfold eqAsk eqAskBoth; simp only [guard26]; rfl
theorem ask31n {x y : Operand} {a b : Array Value} : eqAsk Tryd.prog .neq 31 x y (.agg a) (.agg b) = true := by unfold eqAsk eqAskBoth; simp only [guard31]; rfl

theorem eqI {d : Nat} {a b : Int} : eqA Tryd.prog (d + 1) 3 (.int .i64 a) (.int .i64 b) = some (decide (a = b)) := by
  have hu : Tryd.prog.underlying 3 = some (.int .i64) := rfl
  unfold eqA; simp only [hu, if_true]; rfl
theorem beqB (a b : ByteArray) : (a == b) = decide (a = b) := by
  have h : (a == b) = (a.data == b.data) := rfl
  rw [h]
  by_cases e : a = b
  · subst e; simp
  · have : a.data ≠ b.data := fun h => e (ByteArray.ext h)
    simp [e, this]
theorem eqS {d : Nat} {a b : ByteArray} : eqA Tryd.prog (d + 1) 9 (.string a) (.string b) = some (decide (a = b)) := by
  have hu : Tryd.prog.underlying 9 = some .string := rfl
  unfold eqA; simp only [hu, beqB]

theorem eqFs_step {P : Program} {eq : TypeId → Value → Value → Option Bool} {f : Field} {fs : List Field} {xs ys : List Value} {u w : Value} {p q : Prop} [Decidable p] [Decidable q] (hn : (f.name == "_") = false) (hu : partA P f.type xs f.offset = some u) (hw : partA P f.type ys f.offset = some w)
    (he : eq f.type u w = some (decide p)) (hr : eqA.eqFs P eq fs xs ys = some (decide q)) : eqA.eqFs P eq (f :: fs) xs ys = some (decide (p ∧ q)) := by
  unfold eqA.eqFs
  rw [if_neg (by intro h; rw [h] at hn; simp at hn)]
  simp only [hu, hw, he]
  by_cases hp : p
  · simp only [hp, decide_true, true_and]; exact hr
  · simp [hp]
theorem eqFs_nil {P : Program} {eq : TypeId → Value → Value → Option Bool} {xs ys : List Value} : eqA.eqFs P eq [] xs ys = some (decide True) := by unfold eqA.eqFs; rfl

theorem eqA26 {a b c d : Int} : eqA Tryd.prog 5 26 (.agg #[.int .i64 a, .int .i64 b]) (.agg #[.int .i64 c, .int .i64 d]) = some (decide (a = c ∧ b = d ∧ True)) := by
  have hu : Tryd.prog.underlying 26 = some (.struct #[_, _]) := rfl
  unfold eqA
  simp only [hu, stood26, Bool.false_eq_true, if_false]
  exact eqFs_step (by decide +kernel) rfl rfl eqI (eqFs_step (by decide +kernel) rfl rfl eqI eqFs_nil)
theorem eqA31 {a a' b b' c c' : Int} {s s' : ByteArray} : eqA Tryd.prog 5 31 (.agg #[.int .i64 a, .string s, .int .i64 b, .int .i64 c]) (.agg #[.int .i64 a', .string s', .int .i64 b', .int .i64 c']) = some (decide (a = a' ∧ s = s' ∧ b = b' ∧ c = c' ∧ True)) := by
  have hu : Tryd.prog.underlying 31 = some (.struct #[_, _, _, _]) := rfl
  unfold eqA
  simp only [hu, stood31, Bool.false_eq_true, if_false]
  exact eqFs_step (by decide +kernel) rfl rfl eqI (eqFs_step (by decide +kernel) rfl rfl eqS (eqFs_step (by decide +kernel) rfl rfl eqI (eqFs_step (by decide +kernel) rfl rfl eqI eqFs_nil)))

section
variable {n : Nat} {F : List PanicEntry → Heap → Prop} {env : Env} {h : Heap} {lt : Bool} {ops : Array Oper} {d : Nat} {t : TypeId} {p : String} {a : Array Edge} {g : Option (Nat × Bool)} {K : Env → Heap → (Heap → Prop) → Prop}
theorem WS_eq26 {x y : Operand} {c} {i j i' j' : Int} (hg : gOk ops env g = some true) (hn : Nat.blt d n = true) (hx : evalA G env x = some (.agg #[.int .i64 i, .int .i64 j])) (hy : evalA G env y = some (.agg #[.int .i64 i', .int .i64 j']))
    (h1 : i = i' ∧ j = j' ∧ True → K (upd env d (.bool true)) h fun _ => True) (h2 : ¬(i = i' ∧ j = j' ∧ True) → K (upd env d (.bool false)) h fun _ => True) : WS Tryd.prog G X n lt ops ⟨some d, .binOp .eql 26 x y c, t, p, a, g⟩ env h K F :=
  WS.askP hg hn (fun h => by simp only [opA, hx, hy, ask26, if_true, binA, eqA26, Option.map_some]) h1 h2
theorem WS_eq31 {x y : Operand} {c} {i j k i' j' k' : Int} {s s' : ByteArray} (hg : gOk ops env g = some true) (hn : Nat.blt d n = true) (hx : evalA G env x = some (.agg #[.int .i64 i, .string s, .int .i64 j, .int .i64 k])) (hy : evalA G env y = some (.agg #[.int .i64 i', .string s', .int .i64 j', .int .i64 k']))
    (h1 : i = i' ∧ s = s' ∧ j = j' ∧ k = k' ∧ True → K (upd env d (.bool true)) h fun _ => True) (h2 : ¬(i = i' ∧ s = s' ∧ j = j' ∧ k = k' ∧ True) → K (upd env d (.bool false)) h fun _ => True) : WS Tryd.prog G X n lt ops ⟨some d, .binOp .eql 31 x y c, t, p, a, g⟩ env h K F :=
  WS.askP hg hn (fun h => by simp only [opA, hx, hy, ask31, if_true, binA, eqA31, Option.map_some]) h1 h2
theorem WS_ne31 {x y : Operand} {c} {i j k i' j' k' : Int} {s s' : ByteArray} (hg : gOk ops env g = some true) (hn : Nat.blt d n = true) (hx : evalA G env x = some (.agg #[.int .i64 i, .string s, .int .i64 j, .int .i64 k])) (hy : evalA G env y = some (.agg #[.int .i64 i', .string s', .int .i64 j', .int .i64 k']))
    (h1 : i = i' ∧ s = s' ∧ j = j' ∧ k = k' ∧ True → K (upd env d (.bool false)) h fun _ => True) (h2 : ¬(i = i' ∧ s = s' ∧ j = j' ∧ k = k' ∧ True) → K (upd env d (.bool true)) h fun _ => True) : WS Tryd.prog G X n lt ops ⟨some d, .binOp .neq 31 x y c, t, p, a, g⟩ env h K F := by
  refine WS.askP (p := ¬(i = i' ∧ s = s' ∧ j = j' ∧ k = k' ∧ True)) hg hn (fun h => ?_) h2 (fun hc => h1 (Decidable.of_not_not hc))
  simp only [opA, hx, hy, ask31n, if_true, binA, eqA31, Option.map_some, decide_not]
end

end Go.Proofs.ZL
