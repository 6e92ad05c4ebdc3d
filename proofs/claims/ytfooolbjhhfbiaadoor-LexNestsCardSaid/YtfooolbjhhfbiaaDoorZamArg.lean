/-
  The abstract machine, part 23: an argument that is a slice, at the beginning of a call.
-/
import Derived.Test.YtfooolbjhhfbiaaDoorZamEnd
import Derived.WideShapes
namespace Go.Am
open Go.RowKit (Below)

/-- The heap that holds an argument's cells, and nothing else. -/
def argHeap (vs : List Value) : Heap := ⟨1, fun i => if i = 0 then some (.cells true vs) else none⟩

/-- A slice of cells that are only read. -/
def ASl (h : Heap) (b : Option Addr) (n es : Nat) (vs : List Value) : Prop :=
  (b = none ∧ n = 0 ∧ es = 0 ∧ vs = []) ∨ ∃ i, b = some ⟨i, 0, none⟩ ∧ i < h.next ∧ es = 1 ∧ n = vs.length ∧ h.obj i = some (.cells true vs)

theorem ASl.len {h : Heap} {b : Option Addr} {n es : Nat} {vs : List Value} (ha : ASl h b n es vs) : n = vs.length := by
  rcases ha with ⟨_, rfl, _, rfl⟩ | ⟨i, _, _, _, rfl, _⟩ <;> rfl

theorem slice_at {P : Program} {w : World} {base : Nat} {t e : TypeId} {a : Addr} {len cap : Nat} (ht : P.underlying t = some (.slice e)) (h : Value.okWide P w .any base t (.slice (some a) len cap)) :
    len ≤ cap ∧ a.spot = none ∧ a.block < w.heap.size := by
  unfold Value.okWide at h
  rw [ht] at h
  simp only at h
  unfold Cell.okWide at h
  rw [ht] at h
  simp only at h
  unfold Cell.ok at h
  rw [ht] at h
  simp only at h
  obtain ⟨h1, _, h2⟩ := h
  unfold World.has at h2
  obtain ⟨_, h3, row, cells, h4, _⟩ := h2
  refine ⟨h1, h3, ?_⟩
  rcases Nat.lt_or_ge a.block w.heap.size with h5 | h5
  · exact h5
  · unfold World.shape? at h4
    rw [Array.getElem?_eq_none h5] at h4
    simp at h4

theorem Rel.arg {w : World} {vs : List Value} {a : Addr} {len cap : Nat} (hs : a.spot = none) (hb : a.block < w.heap.size) (hlen : vs.length = len) (hle : len ≤ cap)
    (hc : ∀ m v, vs[m]? = some v → w.cell? (a.add m) = some v) (hcl : ∀ v ∈ vs, closedV 1 v = true) :
    ∃ ρ, Rel 0 w.heap.size w ρ (argHeap vs) w ∧ VRel ρ (.slice (some ⟨0, 0, none⟩) len 1) (.slice (some a) len cap) := by
  obtain ⟨b, off, spot⟩ := a
  simp only at hs hb
  subst hs
  refine ⟨fun i => if i = 0 then some (b, off, cap) else none, ⟨Below.refl _ _, Nat.le_refl _, ?_, ?_, ?_, ?_⟩, ?_⟩
  · intro i b' base n hi
    split at hi
    · rename_i h0; subst h0
      cases hi
      exact ⟨by simp [argHeap], hb⟩
    · cases hi
  · intro g hg; omega
  · intro i b' base n o hi ho
    split at hi
    · rename_i h0; subst h0
      cases hi
      simp only [argHeap, if_true] at ho
      cases ho
      refine ⟨by omega, fun m v hm => ⟨v, ?_, VRel.closed 1 (hcl v (List.mem_of_getElem? hm))⟩, fun h => by cases h⟩
      have := hc m v hm
      rcases Nat.eq_zero_or_pos m with rfl | h0
      · simpa [Addr.add] using this
      · simpa [Addr.add, Nat.ne_of_gt h0] using this
    · cases hi
  · intro i j b' base n b2 base2 n2 oi oj hij hi hj _ _ _
    split at hi
    · split at hj
      · omega
      · cases hj
    · cases hi
  · exact VRel.slice (cap := cap) (es := 1) hle (.inr ⟨off, cap, by simp, by simp, by omega⟩)

theorem ASl.arg (vs : List Value) : ASl (argHeap vs) (some ⟨0, 0, none⟩) vs.length 1 vs := .inr ⟨0, rfl, by simp [argHeap], rfl, rfl, by simp [argHeap]⟩
theorem ASl.argNil : ASl (argHeap []) none 0 0 [] := .inl ⟨rfl, rfl, rfl, rfl⟩
theorem Rel.argNil (w : World) : Rel 0 w.heap.size w (fun _ => none) (argHeap []) w where
  below := Below.refl _ _
  base := Nat.le_refl _
  dom := fun _ _ _ _ h => by cases h
  glob := fun _ h => by omega
  live := fun _ _ _ _ _ h => by cases h
  inj := fun _ _ _ _ _ _ _ _ _ _ _ h => by cases h

end Go.Am
