/-
  The abstract machine, part 21: from the walk to the model's calls.
-/
import Derived.Test.YtfooolbjhhfbiaaDoorZamRules
namespace Go.Am
open Go.RowKit (Below)

theorem WCall.calls {P : Program} {G B : Nat} {w0 : World} {X : ExtFn} {ρ : Ren} {h : Heap} {w : World} {f : FuncId} {args : List Value} {args' : Array Value} {Q : ARes → Prop}
    (E : ExtOk P G B w0 X) (hm : P.follows .mixedOrders = true) (R : Rel G B w0 ρ h w) (hargs : LRel ρ args args'.toList) (hw : WCall P G X f args h Q) :
    Calls P f args' w fun e w' => ∃ r, Q r ∧ EndRel G B w0 ρ h r e w' := by
  obtain ⟨k, r, hr, hq⟩ := WCall.out hw
  exact (callN_sound E hm k f args h r hr ρ w args' R hargs).mono fun e w' he => ⟨r, hq, he⟩

/-- A world at whose beginning nothing is known of the heap. -/
theorem Rel.start (w : World) : Rel 0 w.heap.size w (fun _ => none) ⟨0, fun _ => none⟩ w where
  below := Below.refl _ _
  base := Nat.le_refl _
  dom := fun _ _ _ _ h => by cases h
  glob := fun _ h => by omega
  live := fun _ _ _ _ _ h => by cases h
  inj := fun _ _ _ _ _ _ _ _ _ _ _ h => by cases h

end Go.Am
