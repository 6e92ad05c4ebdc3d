/-
  The abstract machine, part 3: reading and writing cells, new rows, append.
-/
import Derived.Test.YtfooolbjhhfbiaaDoorZamHeap
namespace Go.Am
open Go.RowKit (Below)

/-- Some cells of a logical row. -/
def Heap.cells (h : Heap) (i off n : Nat) : Option (List Value) :=
  match h.obj i with
  | some (.cells _ cs) => if off + n ≤ cs.length then some ((cs.drop off).take n) else none
  | _ => none

def Heap.cell (h : Heap) (i off : Nat) : Option Value :=
  match h.obj i with
  | some (.cells _ cs) => cs[off]?
  | _ => none

def setMany (cs : List Value) : Nat → List Value → List Value
  | _, [] => cs
  | off, v :: r => setMany (cs.set off v) (off + 1) r

def Heap.store (h : Heap) (i off : Nat) (vs : List Value) : Option Heap :=
  match h.obj i with
  | some (.cells false cs) => if off + vs.length ≤ cs.length && vs.all (·.oneCell') then some (h.put i (some (.cells false (setMany cs off vs)))) else none
  | _ => none

theorem Heap.store_next {h h' : Heap} {i off : Nat} {vs : List Value} (hs : h.store i off vs = some h') : h'.next = h.next := by
  unfold Heap.store at hs
  split at hs
  · split at hs
    · cases hs; rfl
    · cases hs
  · cases hs

section
variable {G B : Nat} {w0 : World} {ρ : Ren} {h : Heap} {w : World} {P : Program}

theorem Rel.cell (R : Rel G B w0 ρ h w) {i b base n off : Nat} {v : Value} (hi : ρ i = some (b, base, n)) (hc : h.cell i off = some v) :
    ∃ v', w.cell? ⟨b, base + off, none⟩ = some v' ∧ VRel ρ v v' := by
  unfold Heap.cell at hc
  split at hc
  · rename_i ro cs ho
    exact (R.live i b base n _ hi ho).2.1 off v hc
  · cases hc

theorem Rel.cells (R : Rel G B w0 ρ h w) {i b base n off k : Nat} {vs : List Value} (hi : ρ i = some (b, base, n)) (hc : h.cells i off k = some vs) :
    vs.length = k ∧ off + k ≤ n ∧ ∃ vs', LRel ρ vs vs' ∧ ∀ j v, vs'[j]? = some v → w.cell? ⟨b, base + off + j, none⟩ = some v := by
  unfold Heap.cells at hc
  split at hc
  · rename_i ro cs ho
    split at hc
    · rename_i hle
      have hl := R.live i b base n _ hi ho
      simp only [Option.some.injEq] at hc
      subst hc
      refine ⟨by simp; omega, Nat.le_trans hle hl.1, ?_⟩
      refine ⟨(List.range k).map fun j => (w.cell? ⟨b, base + off + j, none⟩).getD undef, ⟨by simp; omega, fun j v v' hv hv' => ?_⟩, fun j v hv => ?_⟩
      · rw [List.getElem?_take] at hv
        split at hv
        · rename_i hj
          rw [List.getElem?_drop] at hv
          obtain ⟨u, hu, hru⟩ := hl.2.1 (off + j) v hv
          simp only [List.getElem?_map, List.getElem?_range hj, Option.map_some, Option.some.injEq] at hv'
          rw [show base + off + j = base + (off + j) by omega, hu] at hv'
          simp at hv'
          subst hv'
          exact hru
        · cases hv
      · have hj : j < k := by
          rcases Nat.lt_or_ge j k with h | h
          · exact h
          · rw [List.getElem?_eq_none (by simpa using h)] at hv; cases hv
        have hlt : off + j < cs.length := by omega
        obtain ⟨u, hu, _⟩ := hl.2.1 (off + j) cs[off + j] (List.getElem?_eq_getElem hlt)
        simp only [List.getElem?_map, List.getElem?_range hj, Option.map_some, Option.some.injEq] at hv
        rw [show base + off + j = base + (off + j) by omega, hu] at hv
        simp at hv
        subst hv
        rw [show base + off + j = base + (off + j) by omega]
        exact hu
    · cases hc
  · cases hc

theorem setCells_heap (b : Nat) : ∀ (vs : List Value) (o : Nat) (w : World) (k : Nat), k ≠ b → (w.setCells b o vs).heap[k]? = w.heap[k]?
  | [], _, _, _, _ => rfl
  | v :: r, o, w, k, hk => by rw [World.setCells, setCells_heap b r _ _ k hk]; exact Go.RowKit.Below.heap_setCell w ⟨b, o, none⟩ v k hk
theorem setCells_size (b : Nat) : ∀ (vs : List Value) (o : Nat) (w : World), (w.setCells b o vs).heap.size = w.heap.size
  | [], _, _ => rfl
  | v :: r, o, w => by rw [World.setCells, setCells_size b r]; simp [World.setCell]
theorem setCells_os (b : Nat) : ∀ (vs : List Value) (o : Nat) (w : World), (w.setCells b o vs).os = w.os
  | [], _, _ => rfl
  | v :: r, o, w => by rw [World.setCells, setCells_os b r]; rfl
theorem setCells_tape (b : Nat) : ∀ (vs : List Value) (o : Nat) (w : World), (w.setCells b o vs).tape = w.tape
  | [], _, _ => rfl
  | v :: r, o, w => by rw [World.setCells, setCells_tape b r]; rfl
theorem setCells_output (b : Nat) : ∀ (vs : List Value) (o : Nat) (w : World), (w.setCells b o vs).output = w.output
  | [], _, _ => rfl
  | v :: r, o, w => by rw [World.setCells, setCells_output b r]; rfl

theorem setMany_length : ∀ (vs cs : List Value) (off : Nat), (setMany cs off vs).length = cs.length
  | [], _, _ => rfl
  | v :: r, cs, off => by rw [setMany, setMany_length r]; simp

theorem setMany_get : ∀ (vs cs : List Value) (off m : Nat), off + vs.length ≤ cs.length →
    (setMany cs off vs)[m]? = if off ≤ m ∧ m < off + vs.length then vs[m - off]? else cs[m]?
  | [], cs, off, m, _ => by simp only [setMany, List.length_nil]; rw [if_neg (by omega)]
  | v :: r, cs, off, m, hl => by
    simp at hl
    rw [setMany, setMany_get r _ _ m (by simp; omega)]
    by_cases h1 : off + 1 ≤ m ∧ m < off + 1 + r.length
    · rw [if_pos h1, if_pos (by simp; omega)]
      rw [show m - off = (m - (off + 1)) + 1 by omega]
      simp
    · rw [if_neg h1]
      by_cases h2 : m = off
      · subst h2
        rw [if_pos (by simp)]
        rw [List.getElem?_set_self (by omega)]
        simp
      · rw [if_neg (by simp; omega), List.getElem?_set_ne (by omega)]

theorem cell_setCells (b : Nat) (vs : List Value) (o : Nat) (w : World) (hs : ∀ j, j < vs.length → (w.cell? ⟨b, o + j, none⟩).isSome = true) (m : Nat) :
    (w.setCells b o vs).cell? ⟨b, m, none⟩ = if o ≤ m ∧ m < o + vs.length then vs[m - o]? else w.cell? ⟨b, m, none⟩ := by
  split
  · rename_i hm
    have hj : m - o < vs.length := by omega
    have := World.cell?_setCells_in b vs o w hs (m - o) hj
    rw [show o + (m - o) = m by omega] at this
    rw [this, List.getElem?_eq_getElem hj]
  · rename_i hm
    exact World.cell?_setCells_out b vs o w _ (fun _ _ => by simp; omega)

theorem LRel.allOne {vs vs' : List Value} (hl : LRel ρ vs vs') (h1 : vs.all (·.oneCell') = true) : ∀ v ∈ vs', v.oneCell' = true := by
  intro v hv
  obtain ⟨j, hj⟩ := List.mem_iff_getElem?.1 hv
  have hlt : j < vs'.length := by
    rcases Nat.lt_or_ge j vs'.length with h | h
    · exact h
    · rw [List.getElem?_eq_none h] at hj; cases hj
  have hlt' : j < vs.length := hl.1 ▸ hlt
  have := hl.2 j _ _ (List.getElem?_eq_getElem hlt') hj
  rw [this.oneCell]
  exact List.all_eq_true.1 h1 _ (List.getElem_mem hlt')

theorem Rel.store (R : Rel G B w0 ρ h w) {i b base n off : Nat} {vs vs' : List Value} {h' : Heap} (hi : ρ i = some (b, base, n)) (hs : h.store i off vs = some h') (hv : LRel ρ vs vs') :
    (storeCells ⟨b, base + off, none⟩ vs').run P w = .ok () (w.setCells b (base + off) vs') ∧ Rel G B w0 ρ h' (w.setCells b (base + off) vs') := by
  unfold Heap.store at hs
  split at hs
  · rename_i cs ho
    split at hs
    · rename_i hc
      rw [Bool.and_eq_true] at hc
      obtain ⟨hle, hone⟩ := hc
      simp only [decide_eq_true_eq] at hle
      simp only [Option.some.injEq] at hs
      subst hs
      have hl := R.live i b base n _ hi ho
      obtain ⟨hB, hcells⟩ := hl.2.2 rfl
      have hsome : ∀ j, j < vs'.length → (w.cell? ⟨b, base + off + j, none⟩).isSome = true := fun j hj => by
        have := (hcells (off + j) (by have := hl.1; have := hv.1; omega)).1
        rwa [← Nat.add_assoc] at this
      have hfro : ∀ j, j < vs'.length → w.frozen? ⟨b, base + off + j, none⟩ = false := fun j hj => by
        have := (hcells (off + j) (by have := hl.1; have := hv.1; omega)).2
        rwa [← Nat.add_assoc] at this
      refine ⟨?_, ?_⟩
      · have := run_storeCells_cells (P := P) b (base + off) vs' 0 w (by simpa using hsome) (by simpa using hfro) (hv.allOne hone)
        simpa using this
      · refine R.update hi ho rfl (setCells_os ..) (setCells_tape ..) (setCells_output ..) (setCells_size ..) (fun k hk => setCells_heap b vs' _ w k hk) ?_
        intro o eo
        simp only [Option.some.injEq] at eo
        subst eo
        refine ⟨⟨by rw [setMany_length]; exact hl.1, fun m v hm => ?_, fun _ => ⟨hB, fun m hm => ⟨?_, ?_⟩⟩⟩, rfl⟩
        · rw [setMany_get _ _ _ _ hle] at hm
          rw [cell_setCells b vs' (base + off) w hsome]
          by_cases h1 : off ≤ m ∧ m < off + vs.length
          · rw [if_pos h1] at hm
            rw [if_pos (by have := hv.1; omega)]
            obtain ⟨v', h2, h3⟩ := hv.get hm
            exact ⟨v', by rw [show base + m - (base + off) = m - off by omega]; exact h2, h3⟩
          · rw [if_neg h1] at hm
            rw [if_neg (by have := hv.1; omega)]
            exact hl.2.1 m v hm
        · rw [cell_setCells b vs' (base + off) w hsome]
          split
          · rename_i h1
            rw [List.getElem?_eq_getElem (by omega)]; rfl
          · exact (hcells m hm).1
        · rw [World.frozen?_setCells]; exact (hcells m hm).2
    · cases hs
  · cases hs

theorem addr_add (b o k : Nat) : (⟨b, o, none⟩ : Addr).add k = ⟨b, o + k, none⟩ := by
  unfold Addr.add
  split
  · rename_i e; subst e; rfl
  · rfl

end

end Go.Am
