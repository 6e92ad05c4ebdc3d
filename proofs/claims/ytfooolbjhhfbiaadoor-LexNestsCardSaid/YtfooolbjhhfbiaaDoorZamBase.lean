/-
  The abstract machine, part 1: renamings, related values, the logical heap, and the relation between the logical heap and the model's world.
-/
import Derived.Orders
import Derived.Below
import Derived.Eval
import Derived.Laws.IdiomCopy
import Derived.Laws.Append
namespace Go.Am
open Go.RowKit (Below)

/-- Where a logical object lies: the block, the first cell in it, how many cells of the block are its. -/
abbrev Ren := Nat → Option (Nat × Nat × Nat)

def Ren.le (ρ ρ' : Ren) : Prop := ∀ i x, ρ i = some x → ρ' i = some x

theorem Ren.le.refl (ρ : Ren) : ρ.le ρ := fun _ _ h => h
theorem Ren.le.trans {a b c : Ren} (h : a.le b) (k : b.le c) : a.le c := fun i x hx => k i x (h i x hx)

/-- A logical value and the model's. The third place of a logical slice is the size of its elements. -/
inductive VRel (ρ : Ren) : Value → Value → Prop
  | bool (b : Bool) : VRel ρ (.bool b) (.bool b)
  | int (k : IntKind) (n : Int) : VRel ρ (.int k n) (.int k n)
  | string (s : ByteArray) : VRel ρ (.string s) (.string s)
  | nilPtr : VRel ρ (.pointer none) (.pointer none)
  | ptr {i off b base n : Nat} : ρ i = some (b, base, n) → VRel ρ (.pointer (some ⟨i, off, none⟩)) (.pointer (some ⟨b, base + off, none⟩))
  | nilSlice : VRel ρ (.slice none 0 0) (.slice none 0 0)
  | slice {i off len es b off' cap : Nat} : len ≤ cap →
      (cap = 0 ∨ ∃ base n, ρ i = some (b, base, n) ∧ off' = base + off ∧ off + cap * es ≤ n) →
      VRel ρ (.slice (some ⟨i, off, none⟩) len es) (.slice (some ⟨b, off', none⟩) len cap)
  | nilMap : VRel ρ (.map none) (.map none)
  | map {i b base n : Nat} : ρ i = some (b, base, n) → VRel ρ (.map (some i)) (.map (some b))
  | nilFunc : VRel ρ .nilFunc .nilFunc
  | func {fn : Fn} {f f' c c' : Array Value} : f.size = f'.size → (∀ j (h : j < f.size) (h' : j < f'.size), VRel ρ f[j] f'[j]) →
      c.size = c'.size → (∀ j (h : j < c.size) (h' : j < c'.size), VRel ρ c[j] c'[j]) → VRel ρ (.func fn f c) (.func fn f' c')
  | nilIface : VRel ρ .nilIface .nilIface
  | iface {t : TypeId} {v v' : Value} : VRel ρ v v' → VRel ρ (.iface t v) (.iface t v')
  | agg {c c' : Array Value} : c.size = c'.size → (∀ j (h : j < c.size) (h' : j < c'.size), VRel ρ c[j] c'[j]) → VRel ρ (.agg c) (.agg c')
  | tuple {c c' : Array Value} : c.size = c'.size → (∀ j (h : j < c.size) (h' : j < c'.size), VRel ρ c[j] c'[j]) → VRel ρ (.tuple c) (.tuple c')

theorem VRel.mono {ρ ρ' : Ren} (hl : ρ.le ρ') {v v' : Value} (h : VRel ρ v v') : VRel ρ' v v' := by
  induction h with
  | bool b => exact .bool b
  | int k n => exact .int k n
  | string s => exact .string s
  | nilPtr => exact .nilPtr
  | ptr h => exact .ptr (hl _ _ h)
  | nilSlice => exact .nilSlice
  | slice h1 h2 => exact .slice h1 (h2.imp id fun ⟨base, n, h, e⟩ => ⟨base, n, hl _ _ h, e⟩)
  | nilMap => exact .nilMap
  | map h => exact .map (hl _ _ h)
  | nilFunc => exact .nilFunc
  | func h1 _ h3 _ ih1 ih2 => exact .func h1 ih1 h3 ih2
  | nilIface => exact .nilIface
  | iface _ ih => exact .iface ih
  | agg h _ ih => exact .agg h ih
  | tuple h _ ih => exact .tuple h ih

/-- Lists of related values. -/
def LRel (ρ : Ren) (l l' : List Value) : Prop := l.length = l'.length ∧ ∀ (j : Nat) v v', l[j]? = some v → l'[j]? = some v' → VRel ρ v v'

theorem LRel.nil (ρ : Ren) : LRel ρ [] [] := ⟨rfl, by simp⟩
theorem LRel.cons {ρ : Ren} {v v' : Value} {l l' : List Value} (h : VRel ρ v v') (hl : LRel ρ l l') : LRel ρ (v :: l) (v' :: l') :=
  ⟨by simp [hl.1], fun j a b ha hb => by cases j with
    | zero => simp at ha hb; subst ha hb; exact h
    | succ j => simp at ha hb; exact hl.2 j a b ha hb⟩
theorem LRel.mono {ρ ρ' : Ren} (hl : ρ.le ρ') {l l' : List Value} (h : LRel ρ l l') : LRel ρ' l l' :=
  ⟨h.1, fun j a b ha hb => (h.2 j a b ha hb).mono hl⟩
theorem LRel.cons_inv {ρ : Ren} {v : Value} {l r : List Value} (h : LRel ρ (v :: l) r) : ∃ v' l', r = v' :: l' ∧ VRel ρ v v' ∧ LRel ρ l l' := by
  cases r with
  | nil => have := h.1; simp at this
  | cons v' l' => exact ⟨v', l', rfl, h.2 0 v v' rfl rfl, by have := h.1; simpa using this, fun j a b ha hb => h.2 (j + 1) a b (by simpa using ha) (by simpa using hb)⟩
theorem LRel.nil_inv {ρ : Ren} {r : List Value} (h : LRel ρ [] r) : r = [] := by
  have := h.1; simp at this; exact List.eq_nil_of_length_eq_zero this.symm
theorem LRel.append {ρ : Ren} {a a' b b' : List Value} (h : LRel ρ a a') (k : LRel ρ b b') : LRel ρ (a ++ b) (a' ++ b') := by
  refine ⟨by simp [h.1, k.1], fun j v v' hv hv' => ?_⟩
  by_cases hj : j < a.length
  · rw [List.getElem?_append_left hj] at hv
    rw [List.getElem?_append_left (h.1 ▸ hj)] at hv'
    exact h.2 j v v' hv hv'
  · rw [List.getElem?_append_right (by omega)] at hv
    rw [List.getElem?_append_right (by have := h.1; omega)] at hv'
    rw [← h.1] at hv'
    exact k.2 _ v v' hv hv'
theorem LRel.drop {ρ : Ren} {a a' : List Value} (h : LRel ρ a a') (n : Nat) : LRel ρ (a.drop n) (a'.drop n) :=
  ⟨by simp [h.1], fun j v v' hv hv' => h.2 (n + j) v v' (by simpa using hv) (by simpa using hv')⟩
theorem LRel.take {ρ : Ren} {a a' : List Value} (h : LRel ρ a a') (n : Nat) : LRel ρ (a.take n) (a'.take n) := by
  refine ⟨by simp [h.1], fun j v v' hv hv' => ?_⟩
  rw [List.getElem?_take] at hv hv'
  split at hv
  · rename_i hj
    rw [if_pos hj] at hv'
    exact h.2 j v v' hv hv'
  · cases hv
theorem LRel.get {ρ : Ren} {a a' : List Value} (h : LRel ρ a a') {j : Nat} {v : Value} (hv : a[j]? = some v) : ∃ v', a'[j]? = some v' ∧ VRel ρ v v' := by
  have hj : j < a.length := by
    rcases Nat.lt_or_ge j a.length with h | h
    · exact h
    · rw [List.getElem?_eq_none h] at hv; cases hv
  have hj' : j < a'.length := h.1 ▸ hj
  exact ⟨a'[j], List.getElem?_eq_getElem hj', h.2 j v _ hv (List.getElem?_eq_getElem hj')⟩
theorem LRel.set {ρ : Ren} {a a' : List Value} (h : LRel ρ a a') (j : Nat) {v v' : Value} (hv : VRel ρ v v') : LRel ρ (a.set j v) (a'.set j v') := by
  refine ⟨by simp [h.1], fun i x x' hx hx' => ?_⟩
  rw [List.getElem?_set] at hx hx'
  by_cases e : j = i
  · subst e
    simp only [if_true] at hx hx'
    split at hx <;> simp at hx
    rename_i hj
    rw [if_pos (h.1 ▸ hj)] at hx'
    simp at hx'
    subst hx hx'
    exact hv
  · simp only [e, if_false] at hx hx'
    exact h.2 i x x' hx hx'

theorem VRel.agg_iff {ρ : Ren} {c c' : Array Value} : VRel ρ (.agg c) (.agg c') ↔ LRel ρ c.toList c'.toList := by
  constructor
  · intro h
    cases h with
    | agg hs hj =>
      refine ⟨by simpa using hs, fun j v v' hv hv' => ?_⟩
      simp at hv hv'
      obtain ⟨h1, rfl⟩ := Array.getElem?_eq_some_iff.1 hv
      obtain ⟨h2, rfl⟩ := Array.getElem?_eq_some_iff.1 hv'
      exact hj j h1 h2
  · intro h
    exact .agg (by simpa using h.1) fun j h1 h2 => h.2 j _ _ (by simp [h1]) (by simp [h2])
theorem VRel.tuple_iff {ρ : Ren} {c c' : Array Value} : VRel ρ (.tuple c) (.tuple c') ↔ LRel ρ c.toList c'.toList := by
  constructor
  · intro h
    cases h with
    | tuple hs hj =>
      refine ⟨by simpa using hs, fun j v v' hv hv' => ?_⟩
      simp at hv hv'
      obtain ⟨h1, rfl⟩ := Array.getElem?_eq_some_iff.1 hv
      obtain ⟨h2, rfl⟩ := Array.getElem?_eq_some_iff.1 hv'
      exact hj j h1 h2
  · intro h
    exact .tuple (by simpa using h.1) fun j h1 h2 => h.2 j _ _ (by simp [h1]) (by simp [h2])
theorem VRel.func_iff {ρ : Ren} {fn : Fn} {f f' c c' : Array Value} : VRel ρ (.func fn f c) (.func fn f' c') ↔ LRel ρ f.toList f'.toList ∧ LRel ρ c.toList c'.toList := by
  constructor
  · intro h
    cases h with
    | func h1 h2 h3 h4 =>
      refine ⟨⟨by simpa using h1, fun j v v' hv hv' => ?_⟩, ⟨by simpa using h3, fun j v v' hv hv' => ?_⟩⟩
      all_goals
        simp at hv hv'
        obtain ⟨k1, rfl⟩ := Array.getElem?_eq_some_iff.1 hv
        obtain ⟨k2, rfl⟩ := Array.getElem?_eq_some_iff.1 hv'
        first | exact h2 j k1 k2 | exact h4 j k1 k2
  · intro ⟨h, k⟩
    exact .func (by simpa using h.1) (fun j h1 h2 => h.2 j _ _ (by simp [h1]) (by simp [h2])) (by simpa using k.1) (fun j h1 h2 => k.2 j _ _ (by simp [h1]) (by simp [h2]))

/-- A value's cells are related cell by cell. -/
theorem VRel.cells {ρ : Ren} {v v' : Value} (h : VRel ρ v v') : LRel ρ v.cells.toList v'.cells.toList := by
  cases h with
  | agg hs hj => exact VRel.agg_iff.1 (.agg hs hj)
  | bool b => exact .cons (.bool b) (.nil _)
  | int k n => exact .cons (.int k n) (.nil _)
  | string s => exact .cons (.string s) (.nil _)
  | nilPtr => exact .cons .nilPtr (.nil _)
  | ptr h => exact .cons (.ptr h) (.nil _)
  | nilSlice => exact .cons .nilSlice (.nil _)
  | slice h1 h2 => exact .cons (.slice h1 h2) (.nil _)
  | nilMap => exact .cons .nilMap (.nil _)
  | map h => exact .cons (.map h) (.nil _)
  | nilFunc => exact .cons .nilFunc (.nil _)
  | func h1 h2 h3 h4 => exact .cons (.func h1 h2 h3 h4) (.nil _)
  | nilIface => exact .cons .nilIface (.nil _)
  | iface h => exact .cons (.iface h) (.nil _)
  | tuple h1 h2 => exact .cons (.tuple h1 h2) (.nil _)

theorem VRel.oneCell {ρ : Ren} {v v' : Value} (h : VRel ρ v v') : v'.oneCell' = v.oneCell' := by cases h <;> rfl

/-- A value without memory: it is itself under every renaming. -/
def closedV : Nat → Value → Bool
  | _, .bool _ | _, .int _ _ | _, .string _ | _, .pointer none | _, .slice none 0 0 | _, .map none | _, .nilFunc | _, .nilIface => true
  | d + 1, .iface _ v => closedV d v
  | d + 1, .agg cs => cs.toList.all (closedV d)
  | d + 1, .tuple cs => cs.toList.all (closedV d)
  | d + 1, .func _ f c => f.toList.all (closedV d) && c.toList.all (closedV d)
  | _, _ => false

theorem VRel.closed {ρ : Ren} : ∀ (d : Nat) {v : Value}, closedV d v = true → VRel ρ v v := by
  have key : ∀ (d : Nat) (ih : ∀ {v : Value}, closedV d v = true → VRel ρ v v) (l : List Value), l.all (closedV d) = true → LRel ρ l l := by
    intro d ih l hl
    refine ⟨rfl, fun j v v' hv hv' => ?_⟩
    rw [hv] at hv'; cases hv'
    exact ih (List.all_eq_true.1 hl v (List.mem_of_getElem? hv))
  intro d
  induction d with
  | zero =>
    intro v h
    unfold closedV at h
    split at h <;> first | exact .bool _ | exact .int _ _ | exact .string _ | exact .nilPtr | exact .nilSlice | exact .nilMap | exact .nilFunc | exact .nilIface | (cases h; done) | skip
    all_goals (rename_i hh; simp at hh)
  | succ d ih =>
    intro v h
    unfold closedV at h
    split at h <;> first | exact .bool _ | exact .int _ _ | exact .string _ | exact .nilPtr | exact .nilSlice | exact .nilMap | exact .nilFunc | exact .nilIface | (cases h; done) | skip
    · rename_i d' _ v hd; simp at hd; subst hd; exact .iface (ih h)
    · rename_i d' _ cs hd; simp at hd; subst hd; exact VRel.agg_iff.2 (key d (fun {v} => ih) _ h)
    · rename_i d' _ cs hd; simp at hd; subst hd; exact VRel.tuple_iff.2 (key d (fun {v} => ih) _ h)
    · rename_i d' _ f c hd; simp at hd; subst hd
      rw [Bool.and_eq_true] at h
      exact VRel.func_iff.2 ⟨key d (fun {v} => ih) _ h.1, key d (fun {v} => ih) _ h.2⟩

end Go.Am
