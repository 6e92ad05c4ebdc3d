/- The laws: an argument that is a slice of numbers. -/
import Derived.Test.YtoifleamknbeaaaGreatDoorYCPa
import Derived.Test.YtoifleamknbeaaaGreatDoorZA4
import Derived.ChangeSlices
namespace Go.Proofs.YtoifleamknbeaaaGreatDoor
open Go Go.Am Go.ChangeShapes Go.WideShapes Go.ChangeAt Go.RowKit
set_option maxRecDepth 100000

theorem arg_rel {α : Type} {W : World} {base : Nat} {t e : TypeId} {v : Value} (f : α → Value) (hcl : ∀ x, closedV 1 (f x) = true) (ht : Tryz.prog.underlying t = some (.slice e)) (hval : Value.okWide Tryz.prog W .any base t v)
  (hop : v = .slice none 0 0 ∨ ∃ (a : Addr) (len cap : Nat) (xs : List α), v = .slice (some a) len cap ∧ len ≤ xs.length ∧ ∀ i x, xs[i]? = some x → W.cell? (a.add i) = some (f x)) :
  ∃ ρ b n es ys, Rel 0 W.heap.size W ρ (argHeap (List.map f ys)) W ∧ VRel ρ (.slice b n es) v ∧ ASl (argHeap (ys.map f)) b n es (ys.map f) ∧
   (v = .slice none 0 0 ∧ ys = [] ∨ ∃ (a : Addr) (len cap : Nat), v = .slice (some a) len cap ∧ ys.length = len ∧ ∀ i x, ys[i]? = some x → W.cell? (a.add i) = some (f x)) := by
 rcases hop with rfl | ⟨a, len, cap, xs, rfl, hle, hc⟩
 ·exact ⟨_, none, 0, 0, [], Rel.argNil W, .nilSlice, ASl.argNil, .inl ⟨rfl, rfl⟩⟩
 ·obtain ⟨h1, h2, h3⟩ := slice_at ht hval
  have hc' : ∀ i x, (xs.take len)[i]? = some x → W.cell? (a.add i) = some (f x) := fun i x hx => by
   rw [List.getElem?_take] at hx
   split at hx
   ·exact hc i x hx
   ·cases hx
  have hl : (xs.take len).length = len := by rw [List.length_take]; omega
  obtain ⟨ρ, R, hv⟩ := Rel.arg (vs := (xs.take len).map f) h2 h3 (by rw [List.length_map, hl]) h1 (fun m v hm => by
   rw [List.getElem?_map] at hm
   obtain ⟨x, hx, rfl⟩ := Option.map_eq_some_iff.1 hm
   exact hc' m x hx) (fun v hv => by
   obtain ⟨x, _, rfl⟩ := List.mem_map.1 hv
   exact hcl x)
  refine ⟨ρ, some ⟨0, 0, none⟩, len, 1, xs.take len, R, hv, ?_, .inr ⟨a, len, cap, rfl, hl, hc'⟩⟩
  have := ASl.arg ((xs.take len).map f)
  rw [List.length_map, hl] at this
  exact this

section
variable {H : Type} {enc : TypeId × Value → H}

theorem ints_arg {W : World} {base : Nat} {t e : TypeId} {k : IntKind} {v : Value} {d : DataW H} {p : List MemPlace} (ht : Tryz.prog.underlying t = some (.slice e)) (he : Tryz.prog.underlying e = some (.int k)) (hc : Tryz.prog.cellsOf e = 1)
  (hval : Value.okWide Tryz.prog W .any base t v) (h : DataW.Trod enc Tryz.prog W 0 (fun _ => true) true t v d p) :
  ∃ ρ b n es ys, Rel 0 W.heap.size W ρ (argHeap (List.map (Value.int k) ys)) W ∧ VRel ρ (.slice b n es) v ∧ ASl (argHeap (ys.map (Value.int k))) b n es (ys.map (Value.int k)) ∧ ∀ z ∈ ys, (Lit.int k z).wf = true := by
 obtain ⟨a0, len0, cap0, hv⟩ := okWide_slice ht hval
 obtain ⟨fuel, hf⟩ := h
 have hcells : v.cells.toList = [v] := by rw [hv]; rfl
 rcases open_ints ht he hc hf with ⟨h1, h2⟩ | ⟨a, len, cap, zs, h1, _, hlc, _, hlen, h2, h3, h4⟩
 ·rw [hcells] at h1
  obtain ⟨ρ, b, n, es, ys, R, hr, hA, hy⟩ := arg_rel (Value.int k) (fun _ => rfl) ht hval (.inl (by simpa using h1))
  refine ⟨ρ, b, n, es, ys, R, hr, hA, ?_⟩
  rcases hy with ⟨_, rfl⟩ | ⟨a, len, cap, e1, _, _⟩
  ·simp
  ·rw [show v = .slice none 0 0 by simpa using h1] at e1; cases e1
 ·rw [hcells] at h1
  have hv1 : v = .slice (some a) len cap := by simpa using h1
  have hget : ∀ i x, zs[i]? = some x → W.cell? (a.add i) = some (.int k x) := fun i x hx => by
   have hi : i < zs.length := (List.getElem?_eq_some_iff.1 hx).1
   rw [h3 i hi, List.getD_eq_getElem?_getD, hx]; rfl
  have hle : len ≤ zs.length := by rw [hlen]; simp; exact hlc
  obtain ⟨ρ, b, n, es, ys, R, hr, hA, hy⟩ := arg_rel (Value.int k) (fun _ => rfl) ht hval (.inr ⟨a, len, cap, zs, hv1, hle, hget⟩)
  refine ⟨ρ, b, n, es, ys, R, hr, hA, fun z hz => ?_⟩
  rcases hy with ⟨_, rfl⟩ | ⟨a', len', cap', e1, el, hc'⟩
  ·cases hz
  ·rw [hv1] at e1
   cases e1
   obtain ⟨i, hi⟩ := List.getElem?_of_mem hz
   have h5 := hc' i z hi
   have hi' : i < ys.length := (List.getElem?_eq_some_iff.1 hi).1
   rw [h3 i (by omega)] at h5
   have h6 : zs.getD i 0 = z := by simpa using h5
   rw [← h6, List.getD_eq_getElem?_getD, List.getElem?_eq_getElem (show i < zs.length by omega)]
   exact h4 _ (List.getElem_mem _)

end

theorem law_run2 {W : World} (hg : W.cell? ⟨0, 0, none⟩ = some (.iface 98 (.agg #[.pointer (some ⟨6, 47, none⟩)]))) {f : FuncId} {args : List Value} {args' : Array Value} {ρ : Ren} {h : Heap} (R : Rel 0 W.heap.size W ρ h W) (hargs : LRel ρ args args'.toList)
  (hw : WCall Tryz.prog ZL.G ZL.X f args h fun r => ∃ h', r = .ret (.bool true) h') :
  Calls Tryz.prog f args' W fun e W' => e = .returned (.bool true) ∧ Below W.heap.size W W' := by
 have hlt : 0 < W.heap.size := by
  rcases Nat.eq_zero_or_pos W.heap.size with h0 | h
  ·simp [World.cell?, h0] at hg
  ·exact h
 refine (WCall.calls (ZL.ext_ok mixed hlt hg) mixed R hargs hw).mono fun e W' ⟨r, ⟨h', hr⟩, he⟩ => ?_
 subst hr
 cases e with
 | returned v =>
  obtain ⟨ρ', _, R', hv⟩ := he
  cases hv
  exact ⟨rfl, R'.below⟩
 | _ => exact he.elim
end Go.Proofs.YtoifleamknbeaaaGreatDoor
