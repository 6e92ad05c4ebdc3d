/- The tactics' lemmas: growth of the logical heap, and the clear lists of a drawn region. -/
import Derived.Test.YtfooolbjhhfbiaaDoorZamRules
namespace Go.Am
/-- The heap has grown. -/
def Gr (h h' : Heap) : Prop := h.next ≤ h'.next ∧ ∀ j, j < h.next → h'.obj j = h.obj j
theorem Gr.refl (h : Heap) : Gr h h := ⟨Nat.le_refl _, fun _ _ => rfl⟩
theorem Gr.trans {a b c : Heap} (x : Gr a b) (y : Gr b c) : Gr a c := ⟨Nat.le_trans x.1 y.1, fun j hj => (y.2 j (Nat.lt_of_lt_of_le hj x.1)).trans (x.2 j hj)⟩
theorem Gr.alloc (h : Heap) (o : AObj) : Gr h (h.alloc o) := ⟨by simp, fun j hj => obj_old (by omega) rfl⟩
theorem Gr.put {h h' : Heap} (g : Gr h h') {i : Nat} {o : Option AObj} (hi : h.next ≤ i) : Gr h (h'.put i o) := ⟨g.1, fun j hj => obj_else (by omega) (g.2 j hj)⟩
theorem Gr.at {h h' : Heap} (g : Gr h h') {i : Nat} {o : AObj} (hi : i < h.next) (ho : h.obj i = some o) : h'.obj i = some o := (g.2 i hi).trans ho
theorem ClearS.keep {i : Nat} {S : Heap → Prop} {r : List Pe} {h : Heap} (hr : ClearS r h) : ClearS ((i, S, false) :: r) h := hr
theorem ClearS.ask {i : Nat} {S : Heap → Prop} {r : List Pe} {h : Heap} (hs : S h) (hr : ClearS r h) : ClearS ((i, S, true) :: r) h := ⟨hs, hr⟩















end Go.Am
