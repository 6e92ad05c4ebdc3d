/- The abstract machine, first part: its heap, its operations, one step. -/
import Derived.Orders
import Derived.Below
import Derived.Eval
import Derived.Laws.IdiomCopy
import Derived.Laws.Append
import Derived.Laws.StructEq
section
namespace Go.Am
open Go.RowKit (Below)

abbrev Ren := Nat → Option (Nat × Nat × Nat)

def Ren.le (ρ ρ' : Ren) : Prop := ∀ i x, ρ i = some x → ρ' i = some x

theorem Ren.le.refl (ρ : Ren) : ρ.le ρ := fun _ _ h => h
theorem Ren.le.trans {a b c : Ren} (h : a.le b) (k : b.le c) : a.le c := fun i x hx => k i x (h i x hx)

inductive bA (ρ : Ren) : Value → Value → Prop
 | bool (b : Bool) : bA ρ (.bool b) (.bool b)
 | int (k : IntKind) (n : Int) : bA ρ (.int k n) (.int k n)
 | string (s : ByteArray) : bA ρ (.string s) (.string s)
 | nilPtr : bA ρ (.pointer none) (.pointer none)
 | ptr {i off b base n : Nat} : ρ i = some (b, base, n) → bA ρ (.pointer (some ⟨i, off, none⟩)) (.pointer (some ⟨b, base + off, none⟩))
 | gQ : bA ρ (.slice none 0 0) (.slice none 0 0)
 | slice {i off len es b off' cap : Nat} : len ≤ cap →
   (cap = 0 ∨ ∃ base n, ρ i = some (b, base, n) ∧ off' = base + off ∧ off + cap * es ≤ n) →
   bA ρ (.slice (some ⟨i, off, none⟩) len es) (.slice (some ⟨b, off', none⟩) len cap)
 | tQ : bA ρ (.map none) (.map none)
 | map {i b base n : Nat} : ρ i = some (b, base, n) → bA ρ (.map (some i)) (.map (some b))
 | nilFunc : bA ρ .nilFunc .nilFunc
 | func {fn : Fn} {f f' c c' : Array Value} : f.size = f'.size → (∀ j (h : j < f.size) (h' : j < f'.size), bA ρ f[j] f'[j]) →
   c.size = c'.size → (∀ j (h : j < c.size) (h' : j < c'.size), bA ρ c[j] c'[j]) → bA ρ (.func fn f c) (.func fn f' c')
 | nilIface : bA ρ .nilIface .nilIface
 | iface {t : TypeId} {v v' : Value} : bA ρ v v' → bA ρ (.iface t v) (.iface t v')
 | agg {c c' : Array Value} : c.size = c'.size → (∀ j (h : j < c.size) (h' : j < c'.size), bA ρ c[j] c'[j]) → bA ρ (.agg c) (.agg c')
 | tuple {c c' : Array Value} : c.size = c'.size → (∀ j (h : j < c.size) (h' : j < c'.size), bA ρ c[j] c'[j]) → bA ρ (.tuple c) (.tuple c')

theorem bA.mono {ρ ρ' : Ren} (hl : ρ.le ρ') {v v' : Value} (h : bA ρ v v') : bA ρ' v v' := by
 induction h with
 | bool b => exact .bool b
 | int k n => exact .int k n
 | string s => exact .string s
 | nilPtr => exact .nilPtr
 | ptr h => exact .ptr (hl _ _ h)
 | gQ => exact .gQ
 | slice h1 h2 => exact .slice h1 (h2.imp id fun ⟨base, n, h, e⟩ => ⟨base, n, hl _ _ h, e⟩)
 | tQ => exact .tQ
 | map h => exact .map (hl _ _ h)
 | nilFunc => exact .nilFunc
 | func h1 _ h3 _ ih1 ih2 => exact .func h1 ih1 h3 ih2
 | nilIface => exact .nilIface
 | iface _ ih => exact .iface ih
 | agg h _ ih => exact .agg h ih
 | tuple h _ ih => exact .tuple h ih

def bP (ρ : Ren) (l l' : List Value) : Prop := l.length = l'.length ∧ ∀ (j : Nat) v v', l[j]? = some v → l'[j]? = some v' → bA ρ v v'

theorem bP.nil (ρ : Ren) : bP ρ [] [] := ⟨rfl, by simp⟩
theorem bP.cons {ρ : Ren} {v v' : Value} {l l' : List Value} (h : bA ρ v v') (hl : bP ρ l l') : bP ρ (v :: l) (v' :: l') :=
 ⟨by simp [hl.1], fun j a b ha hb => by cases j with
  | zero => simp at ha hb; subst ha hb; exact h
  | succ j => simp at ha hb; exact hl.2 j a b ha hb⟩
theorem bP.mono {ρ ρ' : Ren} (hl : ρ.le ρ') {l l' : List Value} (h : bP ρ l l') : bP ρ' l l' :=
 ⟨h.1, fun j a b ha hb => (h.2 j a b ha hb).mono hl⟩
theorem bP.cons_inv {ρ : Ren} {v : Value} {l r : List Value} (h : bP ρ (v :: l) r) : ∃ v' l', r = v' :: l' ∧ bA ρ v v' ∧ bP ρ l l' := by
 cases r with
 | nil => have := h.1; simp at this
 | cons v' l' => exact ⟨v', l', rfl, h.2 0 v v' rfl rfl, by have := h.1; simpa using this, fun j a b ha hb => h.2 (j + 1) a b (by simpa using ha) (by simpa using hb)⟩
theorem bP.dN {ρ : Ren} {r : List Value} (h : bP ρ [] r) : r = [] := by
 have := h.1; simp at this; exact List.eq_nil_of_length_eq_zero this.symm
theorem bP.append {ρ : Ren} {a a' b b' : List Value} (h : bP ρ a a') (k : bP ρ b b') : bP ρ (a ++ b) (a' ++ b') := by
 refine ⟨by simp [h.1, k.1], fun j v v' hv hv' => ?_⟩
 by_cases hj : j < a.length
 ·rw [List.getElem?_append_left hj] at hv
  rw [List.getElem?_append_left (h.1 ▸ hj)] at hv'
  exact h.2 j v v' hv hv'
 ·rw [List.getElem?_append_right (by omega)] at hv
  rw [List.getElem?_append_right (by have := h.1; omega)] at hv'
  rw [← h.1] at hv'
  exact k.2 _ v v' hv hv'
theorem bP.drop {ρ : Ren} {a a' : List Value} (h : bP ρ a a') (n : Nat) : bP ρ (a.drop n) (a'.drop n) :=
 ⟨by simp [h.1], fun j v v' hv hv' => h.2 (n + j) v v' (by simpa using hv) (by simpa using hv')⟩
theorem bP.take {ρ : Ren} {a a' : List Value} (h : bP ρ a a') (n : Nat) : bP ρ (a.take n) (a'.take n) := by
 refine ⟨by simp [h.1], fun j v v' hv hv' => ?_⟩
 rw [List.getElem?_take] at hv hv'
 split at hv
 ·rename_i hj
  rw [if_pos hj] at hv'
  exact h.2 j v v' hv hv'
 ·cases hv
theorem bP.get {ρ : Ren} {a a' : List Value} (h : bP ρ a a') {j : Nat} {v : Value} (hv : a[j]? = some v) : ∃ v', a'[j]? = some v' ∧ bA ρ v v' := by
 have hj : j < a.length := by
  rcases Nat.lt_or_ge j a.length with h | h
  ·exact h
  ·rw [List.getElem?_eq_none h] at hv; cases hv
 have hj' : j < a'.length := h.1 ▸ hj
 exact ⟨a'[j], List.getElem?_eq_getElem hj', h.2 j v _ hv (List.getElem?_eq_getElem hj')⟩
theorem bP.set {ρ : Ren} {a a' : List Value} (h : bP ρ a a') (j : Nat) {v v' : Value} (hv : bA ρ v v') : bP ρ (a.set j v) (a'.set j v') := by
 refine ⟨by simp [h.1], fun i x x' hx hx' => ?_⟩
 rw [List.getElem?_set] at hx hx'
 by_cases e : j = i
 ·subst e
  simp only [if_true] at hx hx'
  split at hx <;> simp at hx
  rename_i hj
  rw [if_pos (h.1 ▸ hj)] at hx'
  simp at hx'
  subst hx hx'
  exact hv
 ·simp only [e, if_false] at hx hx'
  exact h.2 i x x' hx hx'

theorem bA.fI {ρ : Ren} {c c' : Array Value} : bA ρ (.agg c) (.agg c') ↔ bP ρ c.toList c'.toList := by
 constructor
 ·intro h
  cases h with
  | agg hs hj =>
   refine ⟨by simpa using hs, fun j v v' hv hv' => ?_⟩
   simp at hv hv'
   obtain ⟨h1, rfl⟩ := Array.getElem?_eq_some_iff.1 hv
   obtain ⟨h2, rfl⟩ := Array.getElem?_eq_some_iff.1 hv'
   exact hj j h1 h2
 ·intro h
  exact .agg (by simpa using h.1) fun j h1 h2 => h.2 j _ _ (by simp [h1]) (by simp [h2])
theorem bA.gX {ρ : Ren} {c c' : Array Value} : bA ρ (.tuple c) (.tuple c') ↔ bP ρ c.toList c'.toList := by
 constructor
 ·intro h
  cases h with
  | tuple hs hj =>
   refine ⟨by simpa using hs, fun j v v' hv hv' => ?_⟩
   simp at hv hv'
   obtain ⟨h1, rfl⟩ := Array.getElem?_eq_some_iff.1 hv
   obtain ⟨h2, rfl⟩ := Array.getElem?_eq_some_iff.1 hv'
   exact hj j h1 h2
 ·intro h
  exact .tuple (by simpa using h.1) fun j h1 h2 => h.2 j _ _ (by simp [h1]) (by simp [h2])
theorem bA.lZ {ρ : Ren} {fn : Fn} {f f' c c' : Array Value} : bA ρ (.func fn f c) (.func fn f' c') ↔ bP ρ f.toList f'.toList ∧ bP ρ c.toList c'.toList := by
 constructor
 ·intro h
  cases h with
  | func h1 h2 h3 h4 =>
   refine ⟨⟨by simpa using h1, fun j v v' hv hv' => ?_⟩, ⟨by simpa using h3, fun j v v' hv hv' => ?_⟩⟩
   all_goals
    simp at hv hv'
    obtain ⟨k1, rfl⟩ := Array.getElem?_eq_some_iff.1 hv
    obtain ⟨k2, rfl⟩ := Array.getElem?_eq_some_iff.1 hv'
    first | exact h2 j k1 k2 | exact h4 j k1 k2
 ·intro ⟨h, k⟩
  exact .func (by simpa using h.1) (fun j h1 h2 => h.2 j _ _ (by simp [h1]) (by simp [h2])) (by simpa using k.1) (fun j h1 h2 => k.2 j _ _ (by simp [h1]) (by simp [h2]))

theorem bA.cells {ρ : Ren} {v v' : Value} (h : bA ρ v v') : bP ρ v.cells.toList v'.cells.toList := by
 cases h with
 | agg hs hj => exact bA.fI.1 (.agg hs hj)
 | bool b => exact .cons (.bool b) (.nil _)
 | int k n => exact .cons (.int k n) (.nil _)
 | string s => exact .cons (.string s) (.nil _)
 | nilPtr => exact .cons .nilPtr (.nil _)
 | ptr h => exact .cons (.ptr h) (.nil _)
 | gQ => exact .cons .gQ (.nil _)
 | slice h1 h2 => exact .cons (.slice h1 h2) (.nil _)
 | tQ => exact .cons .tQ (.nil _)
 | map h => exact .cons (.map h) (.nil _)
 | nilFunc => exact .cons .nilFunc (.nil _)
 | func h1 h2 h3 h4 => exact .cons (.func h1 h2 h3 h4) (.nil _)
 | nilIface => exact .cons .nilIface (.nil _)
 | iface h => exact .cons (.iface h) (.nil _)
 | tuple h1 h2 => exact .cons (.tuple h1 h2) (.nil _)

theorem bA.aKp {ρ : Ren} {v v' : Value} (h : bA ρ v v') : v'.oneCell' = v.oneCell' := by cases h <;> rfl

def iL : Nat → Value → Bool
 | _, .bool _ | _, .int _ _ | _, .string _ | _, .pointer none | _, .slice none 0 0 | _, .map none | _, .nilFunc | _, .nilIface => true
 | d + 1, .iface _ v => iL d v
 | d + 1, .agg cs => cs.toList.all (iL d)
 | d + 1, .tuple cs => cs.toList.all (iL d)
 | d + 1, .func _ f c => f.toList.all (iL d) && c.toList.all (iL d)
 | _, _ => false

theorem bA.closed {ρ : Ren} : ∀ (d : Nat) {v : Value}, iL d v = true → bA ρ v v := by
 have key : ∀ (d : Nat) (ih : ∀ {v : Value}, iL d v = true → bA ρ v v) (l : List Value), l.all (iL d) = true → bP ρ l l := by
  intro d ih l hl
  refine ⟨rfl, fun j v v' hv hv' => ?_⟩
  rw [hv] at hv'; cases hv'
  exact ih (List.all_eq_true.1 hl v (List.mem_of_getElem? hv))
 intro d
 induction d with
 | zero =>
  intro v h
  unfold iL at h
  split at h <;> first | exact .bool _ | exact .int _ _ | exact .string _ | exact .nilPtr | exact .gQ | exact .tQ | exact .nilFunc | exact .nilIface | (cases h; done) | skip
  all_goals (rename_i hh; simp at hh)
 | succ d ih =>
  intro v h
  unfold iL at h
  split at h <;> first | exact .bool _ | exact .int _ _ | exact .string _ | exact .nilPtr | exact .gQ | exact .tQ | exact .nilFunc | exact .nilIface | (cases h; done) | skip
  ·rename_i d' _ v hd; simp at hd; subst hd; exact .iface (ih h)
  ·rename_i d' _ cs hd; simp at hd; subst hd; exact bA.fI.2 (key d (fun {v} => ih) _ h)
  ·rename_i d' _ cs hd; simp at hd; subst hd; exact bA.gX.2 (key d (fun {v} => ih) _ h)
  ·rename_i d' _ f c hd; simp at hd; subst hd
   rw [Bool.and_eq_true] at h
   exact bA.lZ.2 ⟨key d (fun {v} => ih) _ h.1, key d (fun {v} => ih) _ h.2⟩

end Go.Am
end

section
namespace Go.Am
open Go.RowKit (Below)

inductive dS where
 | cells (ro : Bool) (cs : List Value)
 | map (es : List (Value × Value))

def dS.ro : dS → Bool
 | .cells r _ => r
 | .map _ => false

structure aA where
 next : Nat
 obj : Nat → Option dS
 ty : Nat → Option TypeId := fun _ => none

def aA.put (h : aA) (i : Nat) (o : Option dS) : aA := { h with obj := fun j => if j = i then o else h.obj j }
def aA.alloc (h : aA) (o : dS) : aA := { next := h.next + 1, obj := fun j => if j = h.next then some o else h.obj j, ty := fun j => if j = h.next then none else h.ty j }
def aA.note (h : aA) (i : Nat) (t : Option TypeId) : aA := { h with ty := fun j => if j = i then t else h.ty j }
@[simp] theorem aA.aOh (h : aA) (i : Nat) (t : Option TypeId) : (h.note i t).next = h.next := rfl
theorem aA.eV (h : aA) (i : Nat) (t : Option TypeId) : (h.note i t).obj = h.obj := rfl

@[simp] theorem aA.aE (h : aA) (i : Nat) (o : Option dS) : (h.put i o).next = h.next := rfl
@[simp] theorem aA.aC (h : aA) (o : dS) : (h.alloc o).next = h.next + 1 := rfl
theorem aA.lN (h : aA) (i j : Nat) (o : Option dS) : (h.put i o).obj j = if j = i then o else h.obj j := rfl
theorem aA.iX (h : aA) (j : Nat) (o : dS) : (h.alloc o).obj j = if j = h.next then some o else h.obj j := rfl

def xT (ρ : Ren) (es : List (Value × Value)) (es' : List MapEntry) : Prop :=
 bP ρ (es.map (·.1)) (es'.map (·.key)) ∧ bP ρ (es.map (·.2)) (es'.map (·.val))

theorem xT.mono {ρ ρ' : Ren} (hl : ρ.le ρ') {es : List (Value × Value)} {es' : List MapEntry} (h : xT ρ es es') : xT ρ' es es' := ⟨h.1.mono hl, h.2.mono hl⟩

def Holds (ρ : Ren) (B : Nat) (w : World) (b base n : Nat) : dS → Prop
 | .cells ro cs => cs.length ≤ n ∧ (∀ m v, cs[m]? = some v → ∃ v', w.cell? ⟨b, base + m, none⟩ = some v' ∧ bA ρ v v') ∧
   (ro = false → B ≤ b ∧ ∀ m, m < n → (w.cell? ⟨b, base + m, none⟩).isSome = true ∧ w.frozen? ⟨b, base + m, none⟩ = false)
 | .map es => B ≤ b ∧ ∃ es' clock, w.heap[b]? = some (.map es' clock) ∧ xT ρ es es'.toList

theorem Holds.mono {ρ ρ' : Ren} (hl : ρ.le ρ') {B : Nat} {w : World} {b base n : Nat} {o : dS} (h : Holds ρ B w b base n o) : Holds ρ' B w b base n o := by
 cases o with
 | cells ro cs =>
  exact ⟨h.1, fun m v hm => let ⟨v', h1, h2⟩ := h.2.1 m v hm; ⟨v', h1, h2.mono hl⟩, h.2.2⟩
 | map es => obtain ⟨hb, es', c, h1, h2⟩ := h; exact ⟨hb, es', c, h1, h2.mono hl⟩

theorem Holds.block {ρ : Ren} {B : Nat} {w w' : World} {b base n : Nat} {o : dS} (hb : w'.heap[b]? = w.heap[b]?) (h : Holds ρ B w b base n o) : Holds ρ B w' b base n o := by
 have hc : ∀ off, w'.cell? ⟨b, off, none⟩ = w.cell? ⟨b, off, none⟩ := fun off => World.cell?_of_block (w := w) (a := ⟨b, off, none⟩) hb
 have hf : ∀ off, w'.frozen? ⟨b, off, none⟩ = w.frozen? ⟨b, off, none⟩ := fun off => World.frozen?_of_block (w := w) (a := ⟨b, off, none⟩) hb
 cases o with
 | cells ro cs =>
  refine ⟨h.1, fun m v hm => ?_, fun hr => ⟨(h.2.2 hr).1, fun m hm => ?_⟩⟩
  ·rw [hc]; exact h.2.1 m v hm
  ·rw [hc, hf]; exact (h.2.2 hr).2 m hm
 | map es => obtain ⟨hB, es', c, h1, h2⟩ := h; exact ⟨hB, es', c, by rw [hb]; exact h1, h2⟩

structure Rel (G B : Nat) (w0 : World) (ρ : Ren) (h : aA) (w : World) : Prop where
 below : Below B w0 w
 base : B ≤ w0.heap.size
 qT : ∀ i b base n, ρ i = some (b, base, n) → i < h.next ∧ b < w.heap.size
 r8 : ∀ g, g < G → ∃ n, ρ g = some (g, 0, n)
 live : ∀ i b base n o, ρ i = some (b, base, n) → h.obj i = some o → Holds ρ B w b base n o
 inj : ∀ i j b base n b' base' n' oi oj, i ≠ j → ρ i = some (b, base, n) → ρ j = some (b', base', n') → h.obj i = some oi → h.obj j = some oj → oi.ro = false → b ≠ b'
 shp : ∀ i t, h.ty i = some t → ∃ b n, ρ i = some (b, 0, n) ∧ w.shape? b = some (t, n)

theorem World.o8 {w w' : World} {b : Nat} (hb : w'.heap[b]? = w.heap[b]?) : w'.shape? b = w.shape? b := by unfold World.shape?; rw [hb]

section
variable {G B : Nat} {w0 : World} {ρ : Ren} {h : aA} {w : World}

theorem Rel.size (R : Rel G B w0 ρ h w) : B ≤ w.heap.size := Nat.le_trans R.base R.below.size

theorem Rel.grow (R : Rel G B w0 ρ h w) {w' : World} (hb : Below w.heap.size w w') : Rel G B w0 ρ h w' where
 below := R.below.trans (hb.mono R.size)
 base := R.base
 qT i b base n hi := ⟨(R.qT i b base n hi).1, Nat.lt_of_lt_of_le (R.qT i b base n hi).2 hb.size⟩
 r8 := R.r8
 live i b base n o hi ho := (R.live i b base n o hi ho).block (hb.block b (R.qT i b base n hi).2)
 inj := R.inj
 shp i t ht := by
  obtain ⟨b, n, h1, h2⟩ := R.shp i t ht
  exact ⟨b, n, h1, by rw [World.o8 (hb.block b (R.qT i b 0 n h1).2)]; exact h2⟩

theorem Rel.drew (R : Rel G B w0 ρ h w) : Rel G B w0 ρ h w.drew := R.grow (Below.refl _ _).drew

theorem Rel.kill (R : Rel G B w0 ρ h w) (i : Nat) : Rel G B w0 ρ (h.put i none) w where
 below := R.below
 base := R.base
 qT := R.qT
 r8 := R.r8
 live j b base n o hj ho := by
  rw [aA.lN] at ho
  split at ho
  ·cases ho
  ·exact R.live j b base n o hj ho
 inj a c b base n b' base' n' oi oj hne ha hc hoa hoc hr := by
  rw [aA.lN] at hoa hoc
  split at hoa
  ·cases hoa
  split at hoc
  ·cases hoc
  exact R.inj a c b base n b' base' n' oi oj hne ha hc hoa hoc hr
 shp := R.shp

theorem Rel.note (R : Rel G B w0 ρ h w) {i : Nat} {t : Option TypeId} (ht : ∀ t', t = some t' → ∃ b n, ρ i = some (b, 0, n) ∧ w.shape? b = some (t', n)) : Rel G B w0 ρ (h.note i t) w where
 below := R.below
 base := R.base
 qT := R.qT
 r8 := R.r8
 live := R.live
 inj := R.inj
 shp j t' h2 := by
  unfold aA.note at h2
  simp only at h2
  split at h2
  ·rename_i e
   subst e
   exact ht t' h2
  ·exact R.shp j t' h2

def Ren.bL (ρ : Ren) (i : Nat) (x : Nat × Nat × Nat) : Ren := fun j => if j = i then some x else ρ j

theorem Rel.pR (R : Rel G B w0 ρ h w) (x : Nat × Nat × Nat) : ρ.le (ρ.bL h.next x) := by
 intro i y hy
 obtain ⟨b, base, n⟩ := y
 have := (R.qT i b base n hy).1
 unfold Ren.bL
 rw [if_neg (by omega)]
 exact hy

def Ext (ρ : Ren) (h : aA) (ρ' : Ren) (h' : aA) : Prop := h.next ≤ h'.next ∧ ∀ i, i < h.next → ρ' i = ρ i

theorem Ext.refl (ρ : Ren) (h : aA) : Ext ρ h ρ h := ⟨Nat.le_refl _, fun _ _ => rfl⟩
theorem Ext.trans {a b c : Ren} {ha hb hc : aA} (x : Ext a ha b hb) (y : Ext b hb c hc) : Ext a ha c hc :=
 ⟨Nat.le_trans x.1 y.1, fun i hi => (y.2 i (Nat.lt_of_lt_of_le hi x.1)).trans (x.2 i hi)⟩
theorem Ext.bL (ρ : Ren) (h : aA) (x : Nat × Nat × Nat) (o : dS) : Ext ρ h (ρ.bL h.next x) (h.alloc o) :=
 ⟨by simp, fun i hi => by unfold Ren.bL; rw [if_neg (by omega)]⟩
theorem Ext.same (ρ : Ren) {h h' : aA} (e : h'.next = h.next) : Ext ρ h ρ h' := ⟨by omega, fun _ _ => rfl⟩
theorem Ext.note {ρ ρ' : Ren} {h h' : aA} (e : Ext ρ h ρ' h') (i : Nat) (t : Option TypeId) : Ext ρ h ρ' (h'.note i t) := e
theorem Ext.le (R : Rel G B w0 ρ h w) {ρ' : Ren} {h' : aA} (x : Ext ρ h ρ' h') : ρ.le ρ' := by
 intro i y hy
 obtain ⟨b, base, n⟩ := y
 rw [x.2 i (R.qT i b base n hy).1]
 exact hy

theorem Rel.extend (R : Rel G B w0 ρ h w) {b base n : Nat} {o : dS} (hb : b < w.heap.size)
  (hh : Holds (ρ.bL h.next (b, base, n)) B w b base n o)
  (hne : ∀ j b' base' n' oj, ρ j = some (b', base', n') → h.obj j = some oj → b' ≠ b) :
  Rel G B w0 (ρ.bL h.next (b, base, n)) (h.alloc o) w where
 below := R.below
 base := R.base
 qT i b' base' n' hi := by
  unfold Ren.bL at hi
  split at hi
  ·simp only [Option.some.injEq, Prod.mk.injEq] at hi
   obtain ⟨rfl, rfl, rfl⟩ := hi
   exact ⟨by simp; omega, hb⟩
  ·have := R.qT i b' base' n' hi
   exact ⟨by simp; omega, this.2⟩
 r8 g hg := by
  obtain ⟨k, hk⟩ := R.r8 g hg
  exact ⟨k, R.pR _ _ _ hk⟩
 live i b' base' n' o' hi ho := by
  rw [aA.iX] at ho
  unfold Ren.bL at hi
  by_cases e : i = h.next
  ·simp only [e, if_true, Option.some.injEq, Prod.mk.injEq] at hi ho
   obtain ⟨rfl, rfl, rfl⟩ := hi
   subst ho
   exact hh
  ·simp only [e, if_false] at hi ho
   exact (R.live i b' base' n' o' hi ho).mono (R.pR _)
 inj i j b1 base1 n1 b2 base2 n2 oi oj hij hi hj hoi hoj hr := by
  rw [aA.iX] at hoi hoj
  unfold Ren.bL at hi hj
  by_cases e : i = h.next
  ·have e' : j ≠ h.next := fun k => hij (e.trans k.symm)
   simp only [e, e', if_true, if_false, Option.some.injEq, Prod.mk.injEq] at hi hj hoi hoj
   obtain ⟨rfl, rfl, rfl⟩ := hi
   exact (hne j b2 base2 n2 oj hj hoj).symm
  ·simp only [e, if_false] at hi hoi
   by_cases e' : j = h.next
   ·simp only [e', if_true, Option.some.injEq, Prod.mk.injEq] at hj
    obtain ⟨rfl, rfl, rfl⟩ := hj
    exact hne i b1 base1 n1 oi hi hoi
   ·simp only [e', if_false] at hj hoj
    exact R.inj i j b1 base1 n1 b2 base2 n2 oi oj hij hi hj hoi hoj hr
 shp i t ht := by
  unfold aA.alloc at ht
  simp only at ht
  by_cases e : i = h.next
  ·simp only [e, if_true] at ht; cases ht
  ·simp only [e, if_false] at ht
   obtain ⟨b1, n1, h1, h2⟩ := R.shp i t ht
   exact ⟨b1, n1, R.pR _ _ _ h1, h2⟩

theorem Rel.update (R : Rel G B w0 ρ h w) {i b base n : Nat} {oi : dS} (hi : ρ i = some (b, base, n)) (ho : h.obj i = some oi) (hr : oi.ro = false)
  {w' : World} (os : w'.os = w.os) (tape : w'.tape = w.tape) (out : w'.output = w.output) (size : w'.heap.size = w.heap.size)
  (other : ∀ k, k ≠ b → w'.heap[k]? = w.heap[k]?) (hsh : w'.shape? b = w.shape? b) {o' : Option dS} (ok : ∀ o, o' = some o → Holds ρ B w' b base n o ∧ o.ro = false) :
  Rel G B w0 ρ (h.put i o') w' := by
 have hB : B ≤ b := by
  have := R.live i b base n oi hi ho
  cases oi with
  | cells ro cs => exact (this.2.2 hr).1
  | map es => exact this.1
 refine ⟨?_, R.base, ?_, R.r8, ?_, ?_, ?_⟩
 ·exact R.below.trans ⟨os, tape, out, by omega, fun k hk => other k (by omega)⟩
 ·intro j b' base' n' hj
  have := R.qT j b' base' n' hj
  exact ⟨this.1, by omega⟩
 ·intro j b' base' n' o hj hoj
  rw [aA.lN] at hoj
  split at hoj
  ·rename_i e
   subst e
   rw [hi] at hj
   cases hj
   exact (ok o hoj).1
  ·rename_i e
   refine (R.live j b' base' n' o hj hoj).block (other b' ?_)
   exact (R.inj i j b base n b' base' n' oi o (fun k => e k.symm) hi hj ho hoj hr).symm
 ·intro a c b1 base1 n1 b2 base2 n2 oa oc hne ha hc hoa hoc hro
  rw [aA.lN] at hoa hoc
  by_cases ea : a = i
  ·subst ea
   have ec : c ≠ a := fun k => hne k.symm
   simp only [ec, if_false] at hoc
   rw [hi] at ha
   simp only [Option.some.injEq, Prod.mk.injEq] at ha
   obtain ⟨rfl, rfl, rfl⟩ := ha
   exact R.inj a c b base n b2 base2 n2 oi oc hne hi hc ho hoc hr
  ·simp only [ea, if_false] at hoa
   by_cases ec : c = i
   ·subst ec
    rw [hi] at hc
    simp only [Option.some.injEq, Prod.mk.injEq] at hc
    obtain ⟨rfl, rfl, rfl⟩ := hc
    exact (R.inj c a b base n b1 base1 n1 oi oa (fun k => hne k.symm) hi ha ho hoa hr).symm
   ·simp only [ec, if_false] at hoc
    exact R.inj a c b1 base1 n1 b2 base2 n2 oa oc hne ha hc hoa hoc hro
 ·intro j t ht
  obtain ⟨b1, n1, h1, h2⟩ := R.shp j t ht
  refine ⟨b1, n1, h1, ?_⟩
  by_cases e : b1 = b
  ·rw [e, hsh, ← e]; exact h2
  ·rw [World.o8 (other b1 e)]; exact h2

theorem Rel.new (R : Rel G B w0 ρ h w) {w' : World} {C : Array Value} {t : TypeId} {fz : Nat × Nat} {cs : List Value}
  (hb : Below w.heap.size w w') (hs : w.heap.size < w'.heap.size) (hnew : w'.heap[w.heap.size]? = some (.cells C t fz)) (hfz : C.size ≤ fz.1 ∨ fz.2 ≤ 0) (hlen : cs.length ≤ C.size)
  (hrel : ∀ (m : Nat) v, cs[m]? = some v → ∃ v', C[m]? = some v' ∧ bA ρ v v') :
  Rel G B w0 (ρ.bL h.next (w.heap.size, 0, C.size)) (h.alloc (.cells false cs)) w' := by
 have R' := R.grow hb
 have hcell : ∀ m, w'.cell? ⟨w.heap.size, 0 + m, none⟩ = C[m]? := fun m => by simp [World.cell?, hnew]
 have hfro : ∀ m, m < C.size → w'.frozen? ⟨w.heap.size, 0 + m, none⟩ = false := fun m hm => by
  simp [World.frozen?, hnew]; omega
 refine R'.extend (b := w.heap.size) (base := 0) (n := C.size) hs ⟨hlen, fun m v hm => ?_, fun _ => ⟨R.size, fun m hm => ⟨?_, hfro m hm⟩⟩⟩ ?_
 ·obtain ⟨v', h1, h2⟩ := hrel m v hm
  exact ⟨v', by rw [hcell]; exact h1, h2.mono (R.pR _)⟩
 ·rw [hcell]; simp [hm]
 ·intro j b' base' n' oj hj hoj
  have := (R.qT j b' base' n' hj).2
  omega
end

end Go.Am
end

section
namespace Go.Am
open Go.RowKit (Below)

def aA.cells (h : aA) (i off n : Nat) : Option (List Value) :=
 match h.obj i with
 | some (.cells _ cs) => if off + n ≤ cs.length then some ((cs.drop off).take n) else none
 | _ => none

def aA.cell (h : aA) (i off : Nat) : Option Value :=
 match h.obj i with
 | some (.cells _ cs) => cs[off]?
 | _ => none

def cI (cs : List Value) : Nat → List Value → List Value
 | _, [] => cs
 | off, v :: r => cI (cs.set off v) (off + 1) r

def aA.store (h : aA) (i off : Nat) (vs : List Value) : Option aA :=
 match h.obj i with
 | some (.cells false cs) => if off + vs.length ≤ cs.length && vs.all (·.oneCell') then some (h.put i (some (.cells false (cI cs off vs)))) else none
 | _ => none

theorem aA.xE {h h' : aA} {i off : Nat} {vs : List Value} (hs : h.store i off vs = some h') : h'.next = h.next := by
 unfold aA.store at hs
 split at hs
 ·split at hs
  ·cases hs; rfl
  ·cases hs
 ·cases hs

section
variable {G B : Nat} {w0 : World} {ρ : Ren} {h : aA} {w : World} {P : Program}

theorem Rel.cell (R : Rel G B w0 ρ h w) {i b base n off : Nat} {v : Value} (hi : ρ i = some (b, base, n)) (hc : h.cell i off = some v) :
  ∃ v', w.cell? ⟨b, base + off, none⟩ = some v' ∧ bA ρ v v' := by
 unfold aA.cell at hc
 split at hc
 ·rename_i ro cs ho
  exact (R.live i b base n _ hi ho).2.1 off v hc
 ·cases hc

theorem Rel.cells (R : Rel G B w0 ρ h w) {i b base n off k : Nat} {vs : List Value} (hi : ρ i = some (b, base, n)) (hc : h.cells i off k = some vs) :
  vs.length = k ∧ off + k ≤ n ∧ ∃ vs', bP ρ vs vs' ∧ ∀ j v, vs'[j]? = some v → w.cell? ⟨b, base + off + j, none⟩ = some v := by
 unfold aA.cells at hc
 split at hc
 ·rename_i ro cs ho
  split at hc
  ·rename_i hle
   have hl := R.live i b base n _ hi ho
   simp only [Option.some.injEq] at hc
   subst hc
   refine ⟨by simp; omega, Nat.le_trans hle hl.1, ?_⟩
   refine ⟨(List.range k).map fun j => (w.cell? ⟨b, base + off + j, none⟩).getD undef, ⟨by simp; omega, fun j v v' hv hv' => ?_⟩, fun j v hv => ?_⟩
   ·rw [List.getElem?_take] at hv
    split at hv
    ·rename_i hj
     rw [List.getElem?_drop] at hv
     obtain ⟨u, hu, hru⟩ := hl.2.1 (off + j) v hv
     simp only [List.getElem?_map, List.getElem?_range hj, Option.map_some, Option.some.injEq] at hv'
     rw [show base + off + j = base + (off + j) by omega, hu] at hv'
     simp at hv'
     subst hv'
     exact hru
    ·cases hv
   ·have hj : j < k := by
     rcases Nat.lt_or_ge j k with h | h
     ·exact h
     ·rw [List.getElem?_eq_none (by simpa using h)] at hv; cases hv
    have hlt : off + j < cs.length := by omega
    obtain ⟨u, hu, _⟩ := hl.2.1 (off + j) cs[off + j] (List.getElem?_eq_getElem hlt)
    simp only [List.getElem?_map, List.getElem?_range hj, Option.map_some, Option.some.injEq] at hv
    rw [show base + off + j = base + (off + j) by omega, hu] at hv
    simp at hv
    subst hv
    rw [show base + off + j = base + (off + j) by omega]
    exact hu
  ·cases hc
 ·cases hc

theorem nH (b : Nat) : ∀ (vs : List Value) (o : Nat) (w : World) (k : Nat), k ≠ b → (w.setCells b o vs).heap[k]? = w.heap[k]?
 | [], _, _, _, _ => rfl
 | v :: r, o, w, k, hk => by rw [World.setCells, nH b r _ _ k hk]; exact Go.RowKit.Below.heap_setCell w ⟨b, o, none⟩ v k hk
theorem kL (b : Nat) : ∀ (vs : List Value) (o : Nat) (w : World), (w.setCells b o vs).heap.size = w.heap.size
 | [], _, _ => rfl
 | v :: r, o, w => by rw [World.setCells, kL b r]; simp [World.setCell]
theorem p5 (b : Nat) : ∀ (vs : List Value) (o : Nat) (w : World), (w.setCells b o vs).os = w.os
 | [], _, _ => rfl
 | v :: r, o, w => by rw [World.setCells, p5 b r]; rfl
theorem nI (b : Nat) : ∀ (vs : List Value) (o : Nat) (w : World), (w.setCells b o vs).tape = w.tape
 | [], _, _ => rfl
 | v :: r, o, w => by rw [World.setCells, nI b r]; rfl
theorem lE (b : Nat) : ∀ (vs : List Value) (o : Nat) (w : World), (w.setCells b o vs).output = w.output
 | [], _, _ => rfl
 | v :: r, o, w => by rw [World.setCells, lE b r]; rfl

theorem yF (w : World) (a : Addr) (v : Value) (k : Nat) : (w.setCell a v).shape? k = w.shape? k := by
 unfold World.setCell World.shape?
 simp only [Array.getElem?_modify]
 by_cases e : a.block = k
 ·subst e
  simp only [if_true]
  cases h : w.heap[a.block]? with
  | none => rfl
  | some o =>
   cases o with
   | cells c e f =>
    simp only [Option.map_some]
    split <;> simp
   | _ => rfl
 ·simp only [e, if_false]
theorem jV (b : Nat) (k : Nat) : ∀ (vs : List Value) (o : Nat) (w : World), (w.setCells b o vs).shape? k = w.shape? k
 | [], _, _ => rfl
 | v :: r, o, w => by rw [World.setCells, jV b k r, yF]

theorem mB : ∀ (vs cs : List Value) (off : Nat), (cI cs off vs).length = cs.length
 | [], _, _ => rfl
 | v :: r, cs, off => by rw [cI, mB r]; simp

theorem uU : ∀ (vs cs : List Value) (off m : Nat), off + vs.length ≤ cs.length →
  (cI cs off vs)[m]? = if off ≤ m ∧ m < off + vs.length then vs[m - off]? else cs[m]?
 | [], cs, off, m, _ => by simp only [cI, List.length_nil]; rw [if_neg (by omega)]
 | v :: r, cs, off, m, hl => by
  simp at hl
  rw [cI, uU r _ _ m (by simp; omega)]
  by_cases h1 : off + 1 ≤ m ∧ m < off + 1 + r.length
  ·rw [if_pos h1, if_pos (by simp; omega)]
   rw [show m - off = (m - (off + 1)) + 1 by omega]
   simp
  ·rw [if_neg h1]
   by_cases h2 : m = off
   ·subst h2
    rw [if_pos (by simp)]
    rw [List.getElem?_set_self (by omega)]
    simp
   ·rw [if_neg (by simp; omega), List.getElem?_set_ne (by omega)]

theorem kH (b : Nat) (vs : List Value) (o : Nat) (w : World) (hs : ∀ j, j < vs.length → (w.cell? ⟨b, o + j, none⟩).isSome = true) (m : Nat) :
  (w.setCells b o vs).cell? ⟨b, m, none⟩ = if o ≤ m ∧ m < o + vs.length then vs[m - o]? else w.cell? ⟨b, m, none⟩ := by
 split
 ·rename_i hm
  have hj : m - o < vs.length := by omega
  have := World.cell?_setCells_in b vs o w hs (m - o) hj
  rw [show o + (m - o) = m by omega] at this
  rw [this, List.getElem?_eq_getElem hj]
 ·rename_i hm
  exact World.cell?_setCells_out b vs o w _ (fun _ _ => by simp; omega)

theorem bP.aGg {vs vs' : List Value} (hl : bP ρ vs vs') (h1 : vs.all (·.oneCell') = true) : ∀ v ∈ vs', v.oneCell' = true := by
 intro v hv
 obtain ⟨j, hj⟩ := List.mem_iff_getElem?.1 hv
 have hlt : j < vs'.length := by
  rcases Nat.lt_or_ge j vs'.length with h | h
  ·exact h
  ·rw [List.getElem?_eq_none h] at hj; cases hj
 have hlt' : j < vs.length := hl.1 ▸ hlt
 have := hl.2 j _ _ (List.getElem?_eq_getElem hlt') hj
 rw [this.aKp]
 exact List.all_eq_true.1 h1 _ (List.getElem_mem hlt')

theorem Rel.store (R : Rel G B w0 ρ h w) {i b base n off : Nat} {vs vs' : List Value} {h' : aA} (hi : ρ i = some (b, base, n)) (hs : h.store i off vs = some h') (hv : bP ρ vs vs') :
  (storeCells ⟨b, base + off, none⟩ vs').run P w = .ok () (w.setCells b (base + off) vs') ∧ Rel G B w0 ρ h' (w.setCells b (base + off) vs') := by
 unfold aA.store at hs
 split at hs
 ·rename_i cs ho
  split at hs
  ·rename_i hc
   rw [Bool.and_eq_true] at hc
   obtain ⟨hle, hone⟩ := hc
   simp only [decide_eq_true_eq] at hle
   simp only [Option.some.injEq] at hs
   subst hs
   have hl := R.live i b base n _ hi ho
   obtain ⟨hB, hcells⟩ := hl.2.2 rfl
   have hsome : ∀ j, j < vs'.length → (w.cell? ⟨b, base + off + j, none⟩).isSome = true := fun j hj => by
    have := (hcells (off + j) (by have := hl.1; have := hv.1; omega)).1
    rwa [← Nat.add_assoc] at this
   have hfro : ∀ j, j < vs'.length → w.frozen? ⟨b, base + off + j, none⟩ = false := fun j hj => by
    have := (hcells (off + j) (by have := hl.1; have := hv.1; omega)).2
    rwa [← Nat.add_assoc] at this
   refine ⟨?_, ?_⟩
   ·have := run_storeCells_cells (P := P) b (base + off) vs' 0 w (by simpa using hsome) (by simpa using hfro) (hv.aGg hone)
    simpa using this
   ·refine R.update hi ho rfl (p5 ..) (nI ..) (lE ..) (kL ..) (fun k hk => nH b vs' _ w k hk) (jV ..) ?_
    intro o eo
    simp only [Option.some.injEq] at eo
    subst eo
    refine ⟨⟨by rw [mB]; exact hl.1, fun m v hm => ?_, fun _ => ⟨hB, fun m hm => ⟨?_, ?_⟩⟩⟩, rfl⟩
    ·rw [uU _ _ _ _ hle] at hm
     rw [kH b vs' (base + off) w hsome]
     by_cases h1 : off ≤ m ∧ m < off + vs.length
     ·rw [if_pos h1] at hm
      rw [if_pos (by have := hv.1; omega)]
      obtain ⟨v', h2, h3⟩ := hv.get hm
      exact ⟨v', by rw [show base + m - (base + off) = m - off by omega]; exact h2, h3⟩
     ·rw [if_neg h1] at hm
      rw [if_neg (by have := hv.1; omega)]
      exact hl.2.1 m v hm
    ·rw [kH b vs' (base + off) w hsome]
     split
     ·rename_i h1
      rw [List.getElem?_eq_getElem (by omega)]; rfl
     ·exact (hcells m hm).1
    ·rw [World.frozen?_setCells]; exact (hcells m hm).2
  ·cases hs
 ·cases hs

theorem iD (b o k : Nat) : (⟨b, o, none⟩ : Addr).add k = ⟨b, o + k, none⟩ := by
 unfold Addr.add
 split
 ·rename_i e; subst e; rfl
 ·rfl

end

end Go.Am
end

section
namespace Go.Am
open Go.RowKit (Below)

def eM (size : Nat) (h : aA) : Value → Option (Nat × List Value)
 | .slice none 0 0 => some (0, [])
 | .slice (some ⟨j, off, none⟩) n es => if n = 0 then some (0, []) else if es = size then (h.cells j off (n * size)).map fun vs => (n, vs) else none
 | .string s => if size = 1 then some (s.size, s.data.toList.map fun b => Value.int .u8 b.toNat) else none
 | _ => none

def dY (P : Program) (elem : TypeId) : Option (Nat × Nat) :=
 match P.info? elem with
 | some ei => match ei.zero with
  | some z => if z.cells.size = ei.size && 0 < ei.size && 0 < ei.bytes then some (ei.size, ei.bytes) else none
  | none => none
 | none => none

def room : Nat := 140737488355328

def eR (P : Program) (argTypes : Array TypeId) (args : List Value) (h : aA) : Option (Value × aA) :=
 match argTypes[0]?, argTypes[1]?, args with
 | some sType, some xType, [s, x] =>
  match P.underlying sType, P.underlying xType with
  | some (.slice _), some (.int _) => none
  | some (.slice elem), some _ =>
   match dY P elem with
   | none => none
   | some (size, bytes) =>
    match eM size h x with
    | none => none
    | some (n, new) =>
     if n = 0 then (match s with
      | .slice none 0 0 => some (s, h)
      | .slice (some ⟨_, _, none⟩) _ es => if es = size then some (s, h) else none
      | _ => none)
     else match s with
      | .slice none 0 0 => if n * bytes ≤ room then some (.slice (some ⟨h.next, 0, none⟩) n size, (h.alloc (.cells false new)).note h.next (some elem)) else none
      | .slice (some ⟨i, off, none⟩) sLen es =>
       if es = size && decide ((sLen + n) * bytes ≤ room) && new.all (·.oneCell') then
        match h.obj i with
        | some (.cells false _) =>
         (h.cells i off (sLen * size)).map fun old => (.slice (some ⟨h.next, 0, none⟩) (sLen + n) size, ((h.put i none).alloc (.cells false (old ++ new))).note h.next (if off = 0 ∧ h.ty i = some elem then some elem else none))
        | _ => none
       else none
      | _ => none
  | _, _ => none
 | _, _, _ => none

section
variable {G B : Nat} {w0 : World} {ρ : Ren} {h : aA} {w : World} {P : Program}

theorem p4 {a : Addr} {n cap size : Nat} {vs : List Value} (hl : vs.length = n * size) (hc : ∀ j v, vs[j]? = some v → w.cell? (a.add j) = some v) :
  (Builtin.firstCells size n (.slice (some a) n cap)).run P w = .ok vs.toArray w := by
 have := run_loadCells_list (P := P) w a vs hc
 simp only [Builtin.firstCells]
 rw [← hl]; exact this

theorem u1 (R : Rel G B w0 ρ h w) {size n : Nat} {x x' : Value} {new : List Value} (ha : eM size h x = some (n, new)) (hx : bA ρ x x') :
  (Builtin.lenOf x').run P w = .ok n w ∧ new.length = n * size ∧ ∃ new', bP ρ new new' ∧ (∀ w1 : World, w1.heap = w.heap → (Builtin.firstCells size n x').run P w1 = .ok new'.toArray w1) := by
 unfold eM at ha
 split at ha
 ·simp at ha
  obtain ⟨rfl, rfl⟩ := ha
  cases hx
  exact ⟨rfl, by simp, [], .nil _, fun w1 _ => rfl⟩
 ·rename_i j off n' es
  split at ha
  ·rename_i h0
   subst h0
   simp at ha
   obtain ⟨rfl, rfl⟩ := ha
   cases hx with
   | slice hcap halt =>
    exact ⟨rfl, by simp, [], .nil _, fun w1 _ => by simp [Builtin.firstCells, loadCells, loadCellsFrom]⟩
  ·rename_i h0
   split at ha
   ·rename_i hes
    subst hes
    cases hc : h.cells j off (n' * es) with
    | none => simp [hc] at ha
    | some vs =>
     simp only [hc, Option.map_some, Option.some.injEq, Prod.mk.injEq] at ha
     obtain ⟨rfl, rfl⟩ := ha
     cases hx with
     | @slice _ _ _ _ b off' cap hcap halt =>
      rcases halt with h1 | ⟨base, N, hi, rfl, hN⟩
      ·omega
      obtain ⟨hlen, _, vs', hv, hcell⟩ := R.cells hi hc
      refine ⟨rfl, hlen, vs', hv, fun w1 e => ?_⟩
      refine p4 (by rw [← hv.1, hlen]) fun k v hk => ?_
      rw [iD]
      have := hcell k v hk
      simp only [World.cell?, e] at this ⊢
      exact this
   ·cases ha
 ·split at ha
  ·rename_i s h1
   subst h1
   simp at ha
   obtain ⟨rfl, rfl⟩ := ha
   cases hx
   refine ⟨rfl, by simp, s.data.toList.map fun b => Value.int .u8 b.toNat, ⟨rfl, fun j v v' hv hv' => ?_⟩, fun w1 _ => ?_⟩
   ·rw [hv] at hv'; cases hv'
    rw [List.getElem?_map] at hv
    cases hb : s.data.toList[j]? with
    | none => rw [hb] at hv; cases hv
    | some b => rw [hb] at hv; simp at hv; subst hv; exact .int _ _
   ·have he : s.extract 0 s.size = s := by
     apply ByteArray.ext
     rw [ByteArray.data_extract]
     show s.data.extract 0 s.data.size = s.data
     simp
    have hm : (s.data.map fun b => Value.int .u8 b.toNat) = (s.data.toList.map fun b => Value.int .u8 b.toNat).toArray := Array.ext' (by rw [Array.toList_map])
    show (pure ((s.extract 0 s.size).data.map fun b => Value.int .u8 b.toNat) : Sem _).run P w1 = _
    rw [he, hm]; rfl
  ·cases ha
 ·cases ha

theorem mZ {elem : TypeId} {size bytes : Nat} (he : dY P elem = some (size, bytes)) :
  ∃ ei z, P.info? elem = some ei ∧ ei.zero = some z ∧ ei.size = size ∧ ei.bytes = bytes ∧ z.cells.size = size ∧ 0 < size ∧ 0 < bytes := by
 unfold dY at he
 split at he
 ·rename_i ei hi
  split at he
  ·rename_i z hz
   split at he
   ·rename_i hc
    simp at he hc
    obtain ⟨rfl, rfl⟩ := he
    exact ⟨ei, z, hi, hz, rfl, rfl, hc.1.1, hc.1.2, hc.2⟩
   ·cases he
  ·cases he
 ·cases he

theorem xN (z : Array Value) (k : Nat) : (Builtin.zeroCells z k).size = k * z.size := by simp [Builtin.zeroCells]

set_option maxHeartbeats 1600000 in
theorem aB0 {elem : TypeId} {size bytes : Nat} (he : dY P elem = some (size, bytes)) {sType xType : TypeId} (hs : P.underlying sType = some (.slice elem)) {dx : TypeDesc}
  (hx : P.underlying xType = some dx) (hnx : ∀ k, dx ≠ .int k) {base : Option Addr} {sLen sCap n : Nat} {x' : Value} {old new : List Value} {ty : TypeId} {argTypes : Array TypeId}
  (h0 : argTypes[0]? = some sType) (h1 : argTypes[1]? = some xType) (hg : sCap < sLen + n) (hroom : (sLen + n) * bytes ≤ room)
  (hlen : (Builtin.lenOf x').run P w = .ok n w) (hold : ∀ w1 : World, w1.heap = w.heap → (Builtin.firstCells size sLen (.slice base sLen sCap)).run P w1 = .ok old.toArray w1)
  (hnew : ∀ w1 : World, w1.heap = w.heap → (Builtin.firstCells size n x').run P w1 = .ok new.toArray w1) (holdl : old.length = sLen * size) (hnewl : new.length = n * size) :
  ∃ w' C cap, (Builtin.append_ argTypes ty #[.slice base sLen sCap, x']).run P w = .ok (.slice (some ⟨w.heap.size, 0, none⟩) (sLen + n) cap) w' ∧
   Below w.heap.size w w' ∧ w.heap.size < w'.heap.size ∧ w'.heap[w.heap.size]? = some (.cells C elem (0, 0)) ∧ sLen + n ≤ cap ∧ C.size = cap * size ∧
   (∀ (m : Nat) v, (old ++ new)[m]? = some v → C[m]? = some v) := by
 obtain ⟨ei, z, hi, hz, hsz, hby, hzs, hp, hpb⟩ := mZ he
 have hneed : ¬ (sLen + n ≤ sCap) := by omega
 have hfit : ¬ (Builtin.nextslicecap (sLen + n) sCap * ei.bytes > 2 ^ 48) := by
  have := growslice_fits (bytes := bytes) hg hroom
  rw [hby]; omega
 have hbig : ¬ (((sLen + n : Nat) : Int) > IntKind.i64.max ∧ (false = true ∨ ei.bytes = 0)) := by
  rw [hby]; intro hh; rcases hh.2 with h | h
  ·cases h
  ·omega
 have hforced : (Question.appendCap (sLen + n) sCap elem).forced = false := rfl
 let cap := (Question.appendCap (sLen + n) sCap elem).cut (w.tape w.drawn (.appendCap (sLen + n) sCap elem))
 have hcap : sLen + n ≤ cap := by show _ ≤ (sLen + n) + _; omega
 let C : Array Value := old.toArray ++ new.toArray ++ Builtin.zeroCells z.cells (cap - (sLen + n))
 refine ⟨(w.drew).alloc (.cells C elem), C, cap, ?_, (Below.refl _ _).drew.alloc (Nat.le_refl _) _, by simp, heap_alloc_new w.drew _, hcap, ?_, ?_⟩
 ·have e1 := hold w.drew rfl
  have e2 := hnew w.drew rfl
  have hb0 : ¬ ei.bytes = 0 := by omega
  have hz1 : ∀ w1 : World, (zeroValue elem).run P w1 = .ok z w1 := fun w1 => by simp [zeroValue, typeInfo, hi, hz]
  have hm : (match dx with | TypeDesc.int _ => true | _ => false) = false := by cases dx <;> first | rfl | exact absurd rfl (hnx _)
  first
   | (simp [Builtin.append_, h0, h1, run_underlying hs, run_underlying hx, sizeOf, typeInfo, hi, hsz, hlen, hneed, hfit, hb0, Question.forced, hz1, e1, e2, newRow, cap, C]; done)
 ·simp [C, holdl, hnewl, xN, hzs]
  rw [← Nat.add_mul, ← Nat.add_mul]
  congr 1
  omega
 ·intro m v hm
  have hlt : m < (old ++ new).length := by
   rcases Nat.lt_or_ge m (old ++ new).length with h | h
   ·exact h
   ·rw [List.getElem?_eq_none h] at hm; cases hm
  have : (old.toArray ++ new.toArray)[m]? = some v := by simpa using hm
  simp only [C]
  rw [Array.getElem?_append_left (by simpa using hlt)]
  exact this


theorem w4 {ρ : Ren} {i : Nat} {w' : World} {b : Nat} {C : Array Value} {e : TypeId} {fz : Nat × Nat} (hnew : w'.heap[b]? = some (.cells C e fz)) (t' : TypeId) (ht : some e = some t') : ∃ b2 n2, (ρ.bL i (b, 0, C.size)) i = some (b2, 0, n2) ∧ w'.shape? b2 = some (t', n2) := by
 cases ht
 exact ⟨b, C.size, by simp [Ren.bL], by unfold World.shape?; rw [hnew]⟩
theorem Rel.newRow (R : Rel G B w0 ρ h w) {w' : World} {C : Array Value} {t : TypeId} {cs cs' : List Value}
  (hb : Below w.heap.size w w') (hs : w.heap.size < w'.heap.size) (hnew : w'.heap[w.heap.size]? = some (.cells C t (0, 0))) (hl : bP ρ cs cs') (hC : ∀ (m : Nat) v, cs'[m]? = some v → C[m]? = some v) :
  Rel G B w0 (ρ.bL h.next (w.heap.size, 0, C.size)) (h.alloc (.cells false cs)) w' := by
 refine R.new hb hs hnew (Or.inr (Nat.le_refl _)) ?_ ?_
 ·rcases Nat.lt_or_ge C.size cs.length with hlt | hge
  ·have hj : C.size < cs'.length := hl.1 ▸ hlt
   have := hC C.size _ (List.getElem?_eq_getElem hj)
   simp at this
  ·exact hge
 ·intro m v hm
  obtain ⟨v', h1, h2⟩ := hl.get hm
  exact ⟨v', hC m v' h1, h2⟩

theorem bA.aDe {ρ : Ren} (i b n : Nat) : bA (ρ.bL i (b, 0, n)) (.pointer (some ⟨i, 0, none⟩)) (.pointer (some ⟨b, 0, none⟩)) := by
 have : (ρ.bL i (b, 0, n)) i = some (b, 0, n) := by simp [Ren.bL]
 have k := bA.ptr (off := 0) this
 simpa using k

set_option maxHeartbeats 1600000 in
theorem xV (R : Rel G B w0 ρ h w) {argTypes : Array TypeId} {args args' : List Value} {v : Value} {h' : aA} (ha : eR P argTypes args h = some (v, h')) (hargs : bP ρ args args') (ty : TypeId) :
  ∃ v' w' ρ', (Builtin.append_ argTypes ty args'.toArray).run P w = .ok v' w' ∧ Ext ρ h ρ' h' ∧ Rel G B w0 ρ' h' w' ∧ bA ρ' v v' := by
 unfold eR at ha
 split at ha
 case h_2 => cases ha
 rename_i sType xType s x ht0 ht1
 obtain ⟨s', r, rfl, hs, hr⟩ := hargs.cons_inv
 obtain ⟨x', r, rfl, hx, hr⟩ := hr.cons_inv
 obtain rfl := hr.dN
 split at ha
 ·cases ha
 case h_3 => cases ha
 rename_i elem dx hnx hus hux
 have hnx' : ∀ k, dx ≠ .int k := hnx
 have hm : (match dx with | TypeDesc.int _ => true | _ => false) = false := by cases dx <;> first | rfl | exact absurd rfl (hnx' _)
 split at ha
 ·cases ha
 rename_i size bytes hfit
 split at ha
 ·cases ha
 rename_i n new hnewA
 obtain ⟨hlen, hnewl, new', hnr, hfirst⟩ := u1 (P := P) R hnewA hx
 obtain ⟨ei, z, hi, hz, hsz, hby, hzs, hp, hpb⟩ := mZ hfit
 -- nothing to append
 have noop : ∀ (b : Option Addr) (len cap : Nat), n = 0 → len ≤ cap → s' = .slice b len cap → ∃ w', (Builtin.append_ argTypes ty #[s', x']).run P w = .ok s' w' ∧ w' = w := by
  intro b len cap hn hle hs'
  subst hn
  have hn0 : new' = [] := List.eq_nil_of_length_eq_zero (by rw [← hnr.1, hnewl]; simp)
  have hf := hfirst w rfl
  rw [hn0] at hf
  refine ⟨w, ?_, rfl⟩
  subst hs'
  first
   | (cases b <;> simp [Builtin.append_, ht0, ht1, run_underlying hus, run_underlying hux, sizeOf, typeInfo, hi, hsz, hlen, hle, hf, storeCells]; done)
 split at ha
 ·rename_i hn
  split at ha
  ·simp only [Option.some.injEq, Prod.mk.injEq] at ha
   obtain ⟨rfl, rfl⟩ := ha
   cases hs
   obtain ⟨w', hrun, rfl⟩ := noop none 0 0 hn (Nat.le_refl _) rfl
   exact ⟨_, _, ρ, hrun, Ext.refl _ _, R, .gQ⟩
  ·split at ha
   ·simp only [Option.some.injEq, Prod.mk.injEq] at ha
    obtain ⟨rfl, rfl⟩ := ha
    cases hs with
    | slice hc halt =>
     obtain ⟨w', hrun, rfl⟩ := noop _ _ _ hn hc rfl
     exact ⟨_, _, ρ, hrun, Ext.refl _ _, R, .slice hc halt⟩
   ·cases ha
  ·cases ha
 ·rename_i hn
  split at ha
  ·-- onto nil
   split at ha
   ·rename_i hroom
    simp only [Option.some.injEq, Prod.mk.injEq] at ha
    obtain ⟨rfl, rfl⟩ := ha
    cases hs
    have hnl : new'.length = n * size := by rw [← hnr.1]; exact hnewl
    obtain ⟨w', C, cap, hrun, hb, hs2, hnew, hcap, hC, hcells⟩ := aB0 (w := w) (ty := ty) (argTypes := argTypes) (base := none) (sLen := 0) (sCap := 0) (n := n) (x' := x') (old := []) (new := new') hfit hus hux hnx' ht0 ht1
     (by omega) (by simpa using hroom) hlen (fun w1 _ => rfl) hfirst (by simp) hnl
    refine ⟨_, w', ρ.bL h.next (w.heap.size, 0, C.size), hrun, (Ext.bL _ _ _ (.cells false new)).note _ _, (R.newRow hb hs2 hnew hnr (by simpa using hcells)).note (w4 hnew), ?_⟩
    simp only [Nat.zero_add] at hcap ⊢
    exact .slice hcap (.inr ⟨0, C.size, by simp [Ren.bL], by simp, by omega⟩)
   ·cases ha
  ·rename_i i off sLen es
   split at ha
   case isFalse => cases ha
   rename_i hc
   simp only [Bool.and_eq_true, decide_eq_true_eq] at hc
   obtain ⟨⟨rfl, hroom⟩, hone⟩ := hc
   split at ha
   case h_2 => cases ha
   rename_i cs0 hobj
   cases hold : h.cells i off (sLen * es) with
   | none => simp [hold] at ha
   | some old =>
    simp only [hold, Option.map_some, Option.some.injEq, Prod.mk.injEq] at ha
    obtain ⟨rfl, rfl⟩ := ha
    have hnl : new'.length = n * es := by rw [← hnr.1]; exact hnewl
    cases hs with
    | @slice _ _ _ _ b off' cap hcapl halt =>
     by_cases hin : sLen + n ≤ cap
     ·-- there is room
      rcases halt with h1 | ⟨base, N, hi', rfl, hN⟩
      ·omega
      obtain ⟨holdl, holdN, old', hor, hocell⟩ := R.cells hi' hold
      have hl := R.live i b base N _ hi' hobj
      obtain ⟨hB, hcells⟩ := hl.2.2 rfl
      have hspan : off + sLen * es + n * es ≤ N := by
       have : (sLen + n) * es ≤ cap * es := Nat.mul_le_mul_right _ hin
       rw [Nat.add_mul] at this
       omega
      have hsome : ∀ j, j < new'.length → (w.cell? ⟨b, base + off + sLen * es + j, none⟩).isSome = true := fun j hj => by
       have := (hcells (off + sLen * es + j) (by omega)).1
       rwa [show base + (off + sLen * es + j) = base + off + sLen * es + j by omega] at this
      have hfro : ∀ j, j < new'.length → w.frozen? ⟨b, base + off + sLen * es + j, none⟩ = false := fun j hj => by
       have := (hcells (off + sLen * es + j) (by omega)).2
       rwa [show base + (off + sLen * es + j) = base + off + sLen * es + j by omega] at this
      have hst := run_storeCells_cells (P := P) b (base + off + sLen * es) new' 0 w (by simpa using hsome) (by simpa using hfro) (hnr.aGg hone)
      simp only [Nat.add_zero] at hst
      have hf := hfirst w rfl
      have hrun : (Builtin.append_ argTypes ty #[.slice (some ⟨b, base + off, none⟩) sLen cap, x']).run P w =
        .ok (.slice (some ⟨b, base + off, none⟩) (sLen + n) cap) (w.setCells b (base + off + sLen * es) new') := by
       first
        | (simp [Builtin.append_, ht0, ht1, run_underlying hus, run_underlying hux, sizeOf, typeInfo, hi, hsz, hlen, hin, hf, iD, hst]; done)
      have R1 := R.update (o' := none) hi' hobj rfl (p5 b new' (base + off + sLen * es) w) (nI ..) (lE ..) (kL ..)
       (fun k hk => nH b new' _ w k hk) (jV ..) (by intro o e; cases e)
      have hblk : b < (w.setCells b (base + off + sLen * es) new').heap.size := by rw [kL]; exact (R.qT _ _ _ _ hi').2
      have R2 := R1.extend (b := b) (base := base + off) (n := N - off) (o := .cells false (old ++ new)) hblk ?_ ?_
      ·refine ⟨_, _, _, by simpa using hrun, (Ext.bL ρ (h.put i none) _ (.cells false (old ++ new))).note _ _, R2.note ?_, ?_⟩
       ·intro t' ht
        split at ht
        ·rename_i hoff
         cases ht
         obtain ⟨b2, n2, h1, h2⟩ := R.shp _ _ hoff.2
         rw [hi'] at h1
         simp only [Option.some.injEq, Prod.mk.injEq] at h1
         obtain ⟨rfl, rfl, rfl⟩ := h1
         refine ⟨b, N - off, ?_, ?_⟩
         ·simp [Ren.bL, hoff.1]
         ·rw [jV, h2, hoff.1, Nat.sub_zero]
        ·cases ht
       refine .slice hin (.inr ⟨base + off, N - off, by simp [Ren.bL], by simp, by omega⟩)
      ·refine ⟨by simp [holdl, hnewl]; omega, fun m v hm => ?_, fun _ => ⟨hB, fun m hm => ⟨?_, ?_⟩⟩⟩
       ·rw [kH b new' _ w hsome]
        by_cases hmo : m < old.length
        ·rw [List.getElem?_append_left hmo] at hm
         rw [if_neg (by omega)]
         obtain ⟨v', h1, h2⟩ := hor.get hm
         exact ⟨v', hocell m v' h1, h2.mono (R1.pR _)⟩
        ·rw [List.getElem?_append_right (by omega)] at hm
         obtain ⟨v', h1, h2⟩ := hnr.get hm
         have hlt : m - old.length < new'.length := by
          rcases Nat.lt_or_ge (m - old.length) new'.length with h | h
          ·exact h
          ·rw [List.getElem?_eq_none h] at h1; cases h1
         rw [if_pos (by omega)]
         refine ⟨v', ?_, h2.mono (R1.pR _)⟩
         rw [← h1]; congr 1; omega
       ·rw [kH b new' _ w hsome]
        split
        ·rw [List.getElem?_eq_getElem (by omega)]; rfl
        ·have := (hcells (off + m) (by omega)).1
         rwa [show base + (off + m) = base + off + m by omega] at this
       ·rw [World.frozen?_setCells]
        have := (hcells (off + m) (by omega)).2
        rwa [show base + (off + m) = base + off + m by omega] at this
      ·intro j b' base' n' oj hj hoj
       rw [aA.lN] at hoj
       split at hoj
       ·cases hoj
       ·rename_i hji
        exact (R.inj i j b base N b' base' n' _ oj (fun k => hji k.symm) hi' hj hobj hoj rfl).symm
     ·-- it grows
      have hfo : ∃ old', bP ρ old old' ∧ (∀ w1 : World, w1.heap = w.heap → (Builtin.firstCells es sLen (.slice (some ⟨b, off', none⟩) sLen cap)).run P w1 = .ok old'.toArray w1) ∧ old.length = sLen * es := by
       by_cases hz0 : sLen = 0
       ·subst hz0
        have : old = [] := by
         unfold aA.cells at hold
         rw [hobj] at hold
         simp at hold
         exact hold.2
        subst this
        exact ⟨[], .nil _, fun w1 _ => by simp [Builtin.firstCells, loadCells, loadCellsFrom], by simp⟩
       ·rcases halt with h1 | ⟨base, N, hi', rfl, hN⟩
        ·omega
        obtain ⟨holdl, holdN, old', hor, hocell⟩ := R.cells hi' hold
        refine ⟨old', hor, fun w1 e => p4 (by rw [← hor.1, holdl]) fun k v hk => ?_, holdl⟩
        rw [iD]
        have := hocell k v hk
        simp only [World.cell?, e] at this ⊢
        exact this
      obtain ⟨old', hor, hof, holdl⟩ := hfo
      obtain ⟨w', C, cap', hrun, hb, hs2, hnew, hcap, hC, hcells⟩ := aB0 (w := w) (ty := ty) (argTypes := argTypes) (base := some ⟨b, off', none⟩) (sLen := sLen) (sCap := cap) (n := n) (x' := x') (old := old') (new := new') hfit hus hux hnx' ht0 ht1
       (by omega) hroom hlen hof hfirst (by rw [← hor.1]; exact holdl) hnl
      have R1 := R.kill i
      refine ⟨_, w', ρ.bL h.next (w.heap.size, 0, C.size), by simpa using hrun, (Ext.bL ρ (h.put i none) _ (.cells false (old ++ new))).note _ _, (R1.newRow hb hs2 hnew (hor.append hnr) hcells).note (fun t' ht => ?_), ?_⟩
      ·split at ht
       ·cases ht
        exact w4 hnew _ rfl
       ·cases ht
      exact .slice hcap (.inr ⟨0, C.size, by simp [Ren.bL], by simp, by omega⟩)
  ·cases ha

end
end Go.Am
end

section
namespace Go.Am
open Go.RowKit (Below)

def dF (P : Program) (t : TypeId) : Option Nat := (P.info? t).map (·.size)

def u0 (P : Program) (t : TypeId) : Option Bool :=
 match P.underlying t with
 | some (.struct _) => some true
 | some (.array _ _) => some true
 | some _ => some false
 | none => none

def gC (P : Program) (t : TypeId) : Option Value :=
 match P.info? t with
 | some i => match i.zero with
  | some z => if iL 3 z then some z else none
  | none => none
 | none => none

def pS (P : Program) (t : TypeId) (i off : Nat) (h : aA) : Option Value :=
 match u0 P t with
 | some true => match dF P t with
  | some n => (h.cells i off n).map fun vs => .agg vs.toArray
  | none => none
 | some false => h.cell i off
 | none => none

def fW (P : Program) (t : TypeId) (i off : Nat) (v : Value) (h : aA) : Option aA :=
 if dF P t = some v.cells.size then h.store i off v.cells.toList else none

theorem p7 {P : Program} {t : TypeId} {i off : Nat} {v : Value} {h h' : aA} (hs : fW P t i off v h = some h') : h'.next = h.next := by
 unfold fW at hs
 split at hs
 ·exact aA.xE hs
 ·cases hs

def uR (P : Program) (t : TypeId) (cs : List Value) (off : Nat) : Option Value :=
 match u0 P t with
 | some true => match dF P t with
  | some n => some (.agg ((cs.drop off).take n).toArray)
  | none => none
 | some false => cs[off]?
 | none => none

section
variable {G B : Nat} {w0 : World} {ρ : Ren} {h : aA} {w : World} {P : Program}

theorem dL {t : TypeId} {n : Nat} (hs : dF P t = some n) (w : World) : (sizeOf t).run P w = .ok n w := by
 unfold dF at hs
 cases hi : P.info? t with
 | none => simp [hi] at hs
 | some i => simp [hi] at hs; simp [sizeOf, typeInfo, hi, hs]

theorem rT {t : TypeId} {b : Bool} (hs : u0 P t = some b) (w : World) : (isAgg t).run P w = .ok b w := by
 unfold u0 at hs
 split at hs <;> simp at hs
 all_goals (rename_i hu; subst hs; simp [isAgg, run_underlying hu])

theorem dW {t : TypeId} {z : Value} (hs : gC P t = some z) (w : World) : (zeroValue t).run P w = .ok z w ∧ bA ρ z z := by
 unfold gC at hs
 split at hs
 ·rename_i i hi
  split at hs
  ·rename_i z' hz
   split at hs
   ·rename_i hc
    simp at hs; subst hs
    exact ⟨by simp [zeroValue, typeInfo, hi, hz], bA.closed 3 hc⟩
   ·cases hs
  ·cases hs
 ·cases hs

theorem uM (R : Rel G B w0 ρ h w) {t : TypeId} {i b base n off : Nat} {v : Value} (hi : ρ i = some (b, base, n)) (hl : pS P t i off h = some v) :
  ∃ v', (loadVar t ⟨b, base + off, none⟩).run P w = .ok v' w ∧ bA ρ v v' := by
 unfold pS at hl
 split at hl
 ·rename_i ha
  split at hl
  ·rename_i k hk
   cases hc : h.cells i off k with
   | none => simp [hc] at hl
   | some vs =>
    simp [hc] at hl; subst hl
    obtain ⟨hlen, _, vs', hv, hcell⟩ := R.cells hi hc
    refine ⟨.agg vs'.toArray, ?_, bA.fI.2 (by simpa using hv)⟩
    have := run_loadCells_list (P := P) w ⟨b, base + off, none⟩ vs' (fun j u hu => by rw [iD]; exact hcell j u hu)
    rw [show vs'.length = k by rw [← hv.1, hlen]] at this
    simp [loadVar, rT ha, dL hk, this]
  ·cases hl
 ·rename_i ha
  obtain ⟨v', h1, h2⟩ := R.cell hi hl
  refine ⟨v', ?_, h2⟩
  simp [loadVar, rT ha, h1]
 ·cases hl

theorem oR (R : Rel G B w0 ρ h w) {t : TypeId} {i b base n off : Nat} {v v' : Value} {h' : aA} (hi : ρ i = some (b, base, n)) (hl : fW P t i off v h = some h') (hv : bA ρ v v') :
  ∃ w', (storeVar t ⟨b, base + off, none⟩ v').run P w = .ok () w' ∧ Rel G B w0 ρ h' w' := by
 unfold fW at hl
 split at hl
 ·rename_i hs
  have hc := hv.cells
  obtain ⟨h1, h2⟩ := R.store (P := P) hi hl hc
  refine ⟨_, ?_, h2⟩
  have hsz : v'.cells.size = v.cells.size := by have := hc.1; simpa using this.symm
  simp [storeVar, dL hs, hsz, h1]
 ·cases hl

theorem mQ {t : TypeId} {cs : List Value} {cs' : Array Value} {off : Nat} {v : Value} (hl : uR P t cs off = some v) (hv : bP ρ cs cs'.toList) (w : World) :
  ∃ v', (part t cs' off).run P w = .ok v' w ∧ bA ρ v v' := by
 unfold uR at hl
 split at hl
 ·rename_i ha
  split at hl
  ·rename_i k hk
   simp at hl; subst hl
   refine ⟨.agg (cs'.extract off (off + k)), by simp [part, rT ha, dL hk], bA.fI.2 ?_⟩
   have : (cs'.extract off (off + k)).toList = (cs'.toList.drop off).take k := by
    rw [Array.toList_extract, List.extract_eq_take_drop]
    congr 1; omega
   rw [this]
   simpa using (hv.drop off).take k
  ·cases hl
 ·rename_i ha
  obtain ⟨v', h1, h2⟩ := hv.get hl
  refine ⟨v', ?_, h2⟩
  have : cs'[off]? = some v' := by simpa using h1
  simp [part, rT ha, this]
 ·cases hl

theorem iT (R : Rel G B w0 ρ h w) (t : TypeId) {cs : List Value} {cs' : Array Value} (hv : bP ρ cs cs'.toList) :
  (newRow t cs').run P w = .ok ⟨w.heap.size, 0, none⟩ (w.alloc (.cells cs' t)) ∧ Rel G B w0 (ρ.bL h.next (w.heap.size, 0, cs'.size)) (h.alloc (.cells false cs)) (w.alloc (.cells cs' t)) := by
 refine ⟨by simp [newRow], R.newRow ((Below.refl _ _).alloc (Nat.le_refl _) _) (by simp) (heap_alloc_new w _) hv fun m v hm => by simpa using hm⟩

end

def jQ (op : BinOp) (k : IntKind) (a b : Int) : Option Value :=
 match op with
 | .add => some (.int k (k.wrap (a + b)))
 | .sub => some (.int k (k.wrap (a - b)))
 | .mul => some (.int k (k.wrap (a * b)))
 | .quo => if b = 0 then none else some (.int k (k.wrap (a.tdiv b)))
 | .rem => if b = 0 then none else some (.int k (a.tmod b))
 | .and => some (.int k (k.wrap (BitVec.ofInt k.bits a &&& BitVec.ofInt k.bits b).toNat))
 | .or => some (.int k (k.wrap (BitVec.ofInt k.bits a ||| BitVec.ofInt k.bits b).toNat))
 | .xor => some (.int k (k.wrap (BitVec.ofInt k.bits a ^^^ BitVec.ofInt k.bits b).toNat))
 | .andNot => some (.int k (k.wrap (BitVec.ofInt k.bits a &&& ~~~ BitVec.ofInt k.bits b).toNat))
 | .eql => some (.bool (a == b))
 | .neq => some (.bool (a != b))
 | .lss => some (.bool (a < b))
 | .leq => some (.bool (a ≤ b))
 | .gtr => some (.bool (a > b))
 | .geq => some (.bool (a ≥ b))
 | _ => none

def p8 (op : BinOp) (x y : ByteArray) : Option Value :=
 match op with
 | .add => if x.size + y.size ≤ 140737488355328 then some (.string (x ++ y)) else none
 | .eql => some (.bool (x.toList == y.toList))
 | .neq => some (.bool !(x.toList == y.toList))
 | .lss => some (.bool (Op.bytesLess x.toList y.toList))
 | .leq => some (.bool (Op.bytesLess x.toList y.toList || x.toList == y.toList))
 | .gtr => some (.bool !(Op.bytesLess x.toList y.toList || x.toList == y.toList))
 | .geq => some (.bool !(Op.bytesLess x.toList y.toList))
 | _ => none

def vE (P : Program) : Nat → TypeId → Value → Value → Option Bool
 | 0, _, _, _ => none
 | d + 1, t, x, y =>
  match P.underlying t, x, y with
  | some .bool, .bool a, .bool b => some (a == b)
  | some (.int _), .int k a, .int k' b => if k = k' then some (a == b) else none
  | some .string, .string a, .string b => some (a == b)
  | some (.pointer _), .pointer none, .pointer b => some b.isNone
  | some (.pointer _), .pointer (some _), .pointer none => some false
  | some (.interface _), .nilIface, .nilIface => some true
  | some (.interface _), .nilIface, .iface _ _ => some false
  | some (.interface _), .iface _ _, .nilIface => some false
  | some (.interface _), .iface tx vx, .iface ty vy =>
   if tx ≠ ty then some false else match P.info? tx with
    | some i => if i.comparable then vE P d tx vx vy else none
    | none => none
  | some (.struct fields), .agg xs, .agg ys => if P.stoodInHeld t then none else eqFs (vE P d) fields.toList xs.toList ys.toList
  | some (.slice _), .slice none _ _, .slice b _ _ => some b.isNone
  | some (.slice _), .slice (some _) _ _, .slice none _ _ => some false
  | some (.map _ _), .map none, .map b => some b.isNone
  | some (.map _ _), .map (some _), .map none => some false
  | some (.func _ _ _), .nilFunc, .nilFunc => some true
  | some (.func _ _ _), .nilFunc, .func _ _ _ => some false
  | some (.func _ _ _), .func _ _ _, .nilFunc => some false
  | _, _, _ => none
where
 eqFs (eq : TypeId → Value → Value → Option Bool) : List Field → List Value → List Value → Option Bool
  | [], _, _ => some true
  | f :: fs, xs, ys =>
   if f.name = "_" then none else
   match uR P f.type xs f.offset, uR P f.type ys f.offset with
   | some a, some b => match eq f.type a b with
    | some true => eqFs eq fs xs ys
    | some false => some false
    | none => none
   | _, _ => none

def Operand.wN : Operand → Bool
 | .const _ => true
 | _ => false

def j7 (P : Program) (t : TypeId) (x y : Operand) : Value → Value → Bool
 | .nilIface, .nilIface => Operand.wN x || Operand.wN y
 | .agg _, .agg _ => !P.eqGuardType P.depth t
 | _, _ => true

def isEq : BinOp → Bool
 | .eql | .neq => true
 | _ => false

def o0 (P : Program) (op : BinOp) (t : TypeId) (x y : Operand) (a b : Value) : Bool := !isEq op || j7 P t x y a b

def nL (P : Program) (op : BinOp) (t : TypeId) (a b : Value) : Option Value :=
 match a, b with
 | .int k n, .int k' m =>
  match op with
  | .shl => if m < 0 then none else some (.int k (k.wrap (n * 2 ^ (min m.toNat k.bits))))
  | .shr => if m < 0 then none else some (.int k (n.fdiv (2 ^ (min m.toNat k.bits))))
  | _ => if k = k' then jQ op k n m else none
 | .string x, .string y => p8 op x y
 | x, y => match op with
  | .eql => (vE P 5 t x y).map .bool
  | .neq => (vE P 5 t x y).map fun b => .bool !b
  | _ => none

section
variable {G B : Nat} {w0 : World} {ρ : Ren} {h : aA} {w : World} {P : Program}

theorem zH {op : BinOp} {t : TypeId} {k : IntKind} {a b : Int} {v : Value} (hb : jQ op k a b = some v) (w : World) : (binOp op t (.int k a) (.int k b)).run P w = .ok v w := by
 cases op <;> simp only [jQ] at hb <;> first
  | (cases hb; done)
  | (simp at hb; subst hb; simp [binOp, Op.intArith, Op.intCmp, Op.intBits]; done)
  | (split at hb <;> simp at hb; subst hb; rename_i hz; simp [binOp, Op.intDiv, hz]; done)

theorem z7 {op : BinOp} {t : TypeId} {a b : ByteArray} {v : Value} (hb : p8 op a b = some v) (w : World) : (binOp op t (.string a) (.string b)).run P w = .ok v w := by
  cases op <;> simp only [p8] at hb <;> first
    | (cases hb; done)
    | (simp at hb; subst hb; simp [binOp, Op.stringOp]; done)
    | (split at hb <;> simp at hb; subst hb; rename_i hz
       simp [binOp, Op.stringOp]; omega)


theorem aA7 {t : TypeId} {fs : Array Field} (hu : P.underlying t = some (.struct fs)) : P.fieldsOf t = fs := by
 simp [Program.fieldsOf, hu]

theorem yQ : ∀ (d D : Nat) (t : TypeId) (x y x' y' : Value) (r : Bool), d ≤ D → vE P d t x y = some r → bA ρ x x' → bA ρ y y' → ∀ w : World, (Op.equalIn D t x' y').run P w = .ok r w := by
 intro d
 induction d with
 | zero => intro D t x y x' y' r _ he; simp [vE] at he
 | succ d ih =>
  intro D t x y x' y' r hD he hx hy w
  obtain ⟨D, rfl⟩ : ∃ k, D = k + 1 := ⟨D - 1, by omega⟩
  have hfs : ∀ (fs : List Field) (xs ys : List Value) (xs' ys' : Array Value) (r : Bool), vE.eqFs P (vE P d) fs xs ys = some r → bP ρ xs xs'.toList → bP ρ ys ys'.toList →
    ∀ w : World, (Op.eqFields D xs' ys' fs).run P w = .ok r w := by
   intro fs
   induction fs with
   | nil => intro xs ys xs' ys' r he _ _ w; simp [vE.eqFs] at he; subst he; rfl
   | cons f fs ihf =>
    intro xs ys xs' ys' r he hxs hys w
    unfold vE.eqFs at he
    split at he
    ·cases he
    ·rename_i hn
     split at he
     ·rename_i a b hpa hpb
      obtain ⟨a', ra, va⟩ := mQ (ρ := ρ) hpa hxs w
      obtain ⟨b', rb, vb⟩ := mQ (ρ := ρ) hpb hys w
      split at he
      ·rename_i ht
       have hr := ih D f.type a b a' b' true (by omega) ht va vb w
       have hrest := ihf xs ys xs' ys' r he hxs hys w
       simp [Op.eqFields, hn, ra, rb, hr, hrest]
      ·rename_i ht
       have hr := ih D f.type a b a' b' false (by omega) ht va vb w
       simp at he; subst he
       simp [Op.eqFields, hn, ra, rb, hr]
      ·cases he
     ·cases he
  unfold vE at he
  split at he
  case h_1 => rename_i hu; cases hx; cases hy; simp at he; subst he; simp [Op.equalIn, run_underlying hu]
  case h_2 =>
   rename_i hu; cases hx; cases hy
   split at he <;> simp at he
   rename_i hk; subst he hk
   simp [Op.equalIn, run_underlying hu]
  case h_3 => rename_i hu; cases hx; cases hy; simp at he; subst he; simp [Op.equalIn, run_underlying hu]
  case h_4 =>
   rename_i hu; simp at he; subst he
   cases hx
   cases hy <;> simp [Op.equalIn, run_underlying hu]
  case h_5 =>
   rename_i hu; simp at he; subst he
   cases hy
   cases hx; simp [Op.equalIn, run_underlying hu]
  case h_6 => rename_i hu; cases hx; cases hy; simp at he; subst he; simp [Op.equalIn, run_underlying hu]
  case h_7 => rename_i hu; cases hx; cases hy; simp at he; subst he; simp [Op.equalIn, run_underlying hu]
  case h_8 => rename_i hu; cases hx; cases hy; simp at he; subst he; simp [Op.equalIn, run_underlying hu]
  case h_9 =>
   rename_i tx vx ty vy hu
   cases hx with
   | iface hvx => cases hy with
    | iface hvy =>
     split at he
     ·rename_i hne
      simp at he; subst he
      simp [Op.equalIn, run_underlying hu, hne]
     ·rename_i hne
      simp at hne; subst hne
      split at he
      ·rename_i i hi
       split at he
       ·rename_i hc
        have := ih D tx vx vy _ _ r (by omega) he hvx hvy w
        simp [Op.equalIn, run_underlying hu, typeInfo, hi, hc, this]
       ·cases he
      ·cases he
  case h_10 =>
   rename_i fields xs ys hu
   split at he
   ·cases he
   ·rename_i hst
    cases hx with
    | agg h1 h2 => cases hy with
     | agg h3 h4 =>
      have hf := aA7 hu
      rw [run_equalIn_struct w D t _ _ (by rw [hf]; exact hu) (by simpa using hst), hf]
      exact hfs _ _ _ _ _ _ he (bA.fI.1 (.agg h1 h2)) (bA.fI.1 (.agg h3 h4)) w
  case h_11 => rename_i hu; simp at he; subst he; cases hx; cases hy <;> simp [Op.equalIn, run_underlying hu]
  case h_12 => rename_i hu; simp at he; subst he; cases hx; cases hy; simp [Op.equalIn, run_underlying hu]
  case h_13 => rename_i hu; simp at he; subst he; cases hx; cases hy <;> simp [Op.equalIn, run_underlying hu]
  case h_14 => rename_i hu; simp at he; subst he; cases hx; cases hy; simp [Op.equalIn, run_underlying hu]
  case h_15 => rename_i hu; cases hx; cases hy; simp at he; subst he; simp [Op.equalIn, run_underlying hu]
  case h_16 => rename_i hu; cases hx; cases hy; simp at he; subst he; simp [Op.equalIn, run_underlying hu]
  case h_17 => rename_i hu; cases hx; cases hy; simp at he; subst he; simp [Op.equalIn, run_underlying hu]
  case h_18 => cases he

theorem aA5 {op : BinOp} {t : TypeId} {x y : Operand} {a b a' b' : Value} (he : o0 P op t x y a b = true) (ha : bA ρ a a') (hb : bA ρ b b') (w : World) :
  (eqGuard op t x y a' b').run P w = .ok () w := by
 by_cases hop : isEq op = true
 ·have he2 : j7 P t x y a b = true := by simpa [o0, hop] using he
  have hop2 : op = .eql ∨ op = .neq := by cases op <;> simp [isEq] at hop <;> simp
  cases ha <;> cases hb <;> first
   | (exact run_eqGuard_agg w op t x y _ _ (by simpa [j7] using he2))
   | (rcases hop2 with rfl | rfl <;> rfl)
   | skip
  cases x <;> cases y <;> simp [j7, Operand.wN] at he2 <;> (rcases hop2 with rfl | rfl <;> rfl)
 ·cases op <;> simp [isEq] at hop <;> rfl

theorem aCo {op : BinOp} {t : TypeId} {a b a' b' v : Value} (he : nL P op t a b = some v) (ha : bA ρ a a') (hb : bA ρ b b') (w : World) :
  (binOp op t a' b').run P w = .ok v w ∧ bA ρ v v := by
 have hpure : ∀ {v : Value}, (∃ b, v = .bool b) ∨ (∃ k n, v = .int k n) ∨ (∃ s, v = .string s) → bA ρ v v := by
  rintro v (⟨b, rfl⟩ | ⟨k, n, rfl⟩ | ⟨s, rfl⟩)
  ·exact .bool _
  ·exact .int _ _
  ·exact .string _
 unfold nL at he
 split at he
 ·rename_i k n k' m
  cases ha; cases hb
  split at he
  ·split at he
   ·cases he
   ·rename_i hm
    simp at he; subst he
    exact ⟨by simp [binOp, Op.shift, hm], .int _ _⟩
  ·split at he
   ·cases he
   ·rename_i hm
    simp at he; subst he
    exact ⟨by simp [binOp, Op.shift, hm], .int _ _⟩
  ·split at he
   ·rename_i hk
    subst hk
    refine ⟨zH he w, hpure ?_⟩
    cases op <;> simp only [jQ] at he <;> first
     | (cases he; done)
     | (simp at he; subst he; first | exact .inl ⟨_, rfl⟩ | exact .inr (.inl ⟨_, _, rfl⟩))
     | (split at he <;> simp at he; subst he; exact .inr (.inl ⟨_, _, rfl⟩))
   ·cases he
 ·cases ha; cases hb
  refine ⟨z7 he w, hpure ?_⟩
  cases op <;> simp only [p8] at he <;> first
   | (cases he; done)
   | (simp at he; subst he; first | exact .inl ⟨_, rfl⟩ | exact .inr (.inr ⟨_, rfl⟩))
   | (split at he <;> simp at he; subst he; exact .inr (.inr ⟨_, rfl⟩))
 ·rename_i hni hns
  split at he
  ·cases hq : vE P 5 t a b with
   | none => simp [hq] at he
   | some r =>
    simp [hq] at he; subst he
    have hr := yQ 5 Op.maxDepth t a b a' b' r (by decide) hq ha hb w
    refine ⟨?_, .bool _⟩
    cases ha <;> cases hb <;> first
     | (exfalso; exact hni _ _ _ _ rfl rfl)
     | (exfalso; exact hns _ _ rfl rfl)
     | (simp [binOp, Op.equal, hr]; done)
  ·cases hq : vE P 5 t a b with
   | none => simp [hq] at he
   | some r =>
    simp [hq] at he; subst he
    have hr := yQ 5 Op.maxDepth t a b a' b' r (by decide) hq ha hb w
    refine ⟨?_, .bool _⟩
    cases ha <;> cases hb <;> first
     | (exfalso; exact hni _ _ _ _ rfl rfl)
     | (exfalso; exact hns _ _ rfl rfl)
     | (simp [binOp, Op.equal, hr]; done)
  ·cases he

end
end Go.Am
end

section
namespace Go.Am
open Go.RowKit (Below)

inductive mF where
 | val (v : Value) (h : aA)
 | skip (h : aA)
 | enter (f : FuncId) (args : List Value)
 | panic (v : Value)

abbrev Env := Nat → Option Value

def aJ (G : Nat) (env : Env) : Operand → Option Value
 | .tmp t => env t
 | .const v => if iL 3 v then some v else none
 | .global g => if g < G then some (.pointer (some ⟨g, 0, none⟩)) else none
 | .func f => some (.func (.func f) #[] #[])

def bO (G : Nat) (env : Env) : List Operand → Option (List Value)
 | [] => some []
 | x :: xs => match aJ G env x, bO G env xs with
  | some v, some vs => some (v :: vs)
  | _, _ => none

def c9 (G : Nat) (env : Env) : List (Nat × Operand) → Option (List (Nat × Value))
 | [] => some []
 | (i, x) :: xs => match aJ G env x, c9 G env xs with
  | some v, some vs => some ((i, v) :: vs)
  | _, _ => none

def sO (P : Program) : List Field → Option (List (Nat × Nat))
 | [] => some []
 | f :: fs => match dF P f.type, sO P fs with
  | some n, some l => some ((f.offset, n) :: l)
  | _, _ => none

def jA (place : Nat → Option (Nat × Nat)) (cells : List Value) : List (Nat × Value) → Option (List Value)
 | [] => some cells
 | (i, v) :: rest =>
  match place i with
  | none => none
  | some (off, size) => if v.cells.size ≠ size || off + v.cells.size > cells.length then none else jA place (cI cells off v.cells.toList) rest

def q9 (P : Program) (t : TypeId) (parts : List (Nat × Value)) : Option Value :=
 match gC P t, P.underlying t with
 | some z, some (.struct fields) => match sO P fields.toList with
  | some pl => (jA (fun i => pl[i]?) z.cells.toList parts).map fun cs => .agg cs.toArray
  | none => none
 | some z, some (.array _ e) => match dF P e with
  | some n => (jA (fun i => some (i * n, n)) z.cells.toList parts).map fun cs => .agg cs.toArray
  | none => none
 | _, _ => none

def fN (z : Value) : Nat → List Value
 | 0 => []
 | n + 1 => z.cells.toList ++ fN z n

def fD (P : Program) (t : TypeId) (len : Nat) (parts : List (Nat × Value)) (h : aA) : Option (Value × aA) :=
 match P.underlying t with
 | some (.slice e) => match dF P e, gC P e with
  | some n, some z =>
   if z.cells.size = n && 0 < n && len * n ≤ 16777216 then
    (jA (fun i => some (i * n, n)) (fN z len) parts).map fun cs => (.slice (some ⟨h.next, 0, none⟩) len n, h.alloc (.cells false cs))
   else none
  | _, _ => none
 | _ => none

def gP (P : Program) (t : TypeId) (len cap : Value) (h : aA) : Option (Value × aA) :=
 match P.underlying t, len, cap with
 | some (.slice e), .int _ l, .int _ c => match dY P e, gC P e with
  | some (n, bytes), some z =>
   if 0 ≤ l && l ≤ c && c ≤ 1152921504606846976 && bytes * c ≤ 281474976710656 && z.cells.size = n then some (.slice (some ⟨h.next, 0, none⟩) l.toNat n, h.alloc (.cells false (fN z c.toNat))) else none
  | _, _ => none
 | _, _, _ => none

def unA (op : UnOp) (x : Value) : Option Value :=
 match op, x with
 | .neg, .int k n => some (.int k (k.wrap (0 - n)))
 | .not, .bool b => some (.bool !b)
 | .xor, .int k n => some (.int k (k.wrap (BitVec.ofInt k.bits (if k.signed then -1 else k.max) ^^^ BitVec.ofInt k.bits n).toNat))
 | _, _ => none

def cP : List Value → Option (List Int)
 | [] => some []
 | .int .u8 n :: r => match cP r with
  | some l => some (n :: l)
  | none => none
 | _ :: _ => none

def iG (P : Program) (src dst : TypeId) (x : Value) (h : aA) : Option (Value × aA) :=
 match P.underlying src, P.underlying dst, x with
 | some _, some (.int k), .int _ n => some (.int k (k.wrap n), h)
 | some _, some .string, .int _ n => some (.string (Utf8.encode n), h)
 | some _, some .string, .string s => some (.string s, h)
 | some _, some (.slice e), .string s => match P.underlying e with
  | some (.int .u8) => some (.slice (some ⟨h.next, 0, none⟩) s.size 1, h.alloc (.cells false (s.data.toList.map fun b => Value.int .u8 b.toNat)))
  | _ => none
 | some (.slice e), some .string, .slice a len es => match P.underlying e with
  | some (.int .u8) => match a with
   | none => some (.string .empty, h)
   | some ⟨i, off, none⟩ => if len = 0 then some (.string .empty, h) else if es = 1 then match h.cells i off len with
    | some vs => (cP vs).map fun ns => (.string ⟨(ns.map fun n => UInt8.ofNat n.toNat).toArray⟩, h)
    | none => none
    else none
   | _ => none
  | _ => none
 | _, _, _ => none

def jM (limit : Nat) : Option Value → Nat → Option Nat
 | none, d => some d
 | some (.int _ i), _ => if 0 ≤ i && i ≤ limit then some i.toNat else none
 | some _, _ => none

def iB (P : Program) (t : TypeId) (x : Value) (lo hi : Option Value) : Option Value :=
 match P.underlying t, x with
 | some .string, .string s => match jM s.size hi s.size with
  | some hh => match jM hh lo 0 with
   | some l => some (.string (s.extract l hh))
   | none => none
  | none => none
 | some (.slice e), .slice a len es => match jM len hi len with
  | some hh => match jM hh lo 0 with
   | some l => match a with
    | none => if len = 0 && (dF P e).isSome then some (.slice none 0 0) else none
    | some ⟨i, off, none⟩ => if dF P e = some es then some (.slice (some ⟨i, off + l * es, none⟩) (hh - l) es) else none
    | _ => none
   | none => none
  | none => none
 | _, _ => none

def kB (P : Program) (t : TypeId) (x ix : Value) : Option Value :=
 match P.underlying t, x, ix with
 | some (.array len e), .pointer (some ⟨i, off, none⟩), .int _ k => match dF P e with
  | some n => if 0 ≤ k && k < len then some (.pointer (some ⟨i, off + k.toNat * n, none⟩)) else none
  | none => none
 | some (.slice e), .slice (some ⟨i, off, none⟩) len es, .int _ k =>
  if dF P e = some es && 0 ≤ k && k < len then some (.pointer (some ⟨i, off + k.toNat * es, none⟩)) else none
 | _, _, _ => none

def tG (P : Program) (t : TypeId) (x ix : Value) : Option Value :=
 match P.underlying t, x, ix with
 | some (.array len e), .agg cs, .int _ k => match dF P e with
  | some n => if 0 ≤ k && k < len then uR P e cs.toList (k.toNat * n) else none
  | none => none
 | some .string, .string s, .int _ k => if 0 ≤ k then (s[k.toNat]?).map fun b => .int .u8 b.toNat else none
 | _, _, _ => none

def j8 (P : Program) (t : TypeId) (x : Value) (f : Nat) : Option Value :=
 match P.underlying t, x with
 | some (.struct fields), .pointer (some ⟨i, off, none⟩) => match fields[f]? with
  | some fd => match dF P fd.type with
   | some n => if n = 0 then none else some (.pointer (some ⟨i, off + fd.offset, none⟩))
   | none => none
  | none => none
 | _, _ => none

def rD (P : Program) (t : TypeId) (x : Value) (f : Nat) : Option Value :=
 match P.underlying t, x with
 | some (.struct fields), .agg cs => match fields[f]? with
  | some fd => uR P fd.type cs.toList fd.offset
  | none => none
 | _, _ => none

def u9 (P : Program) (x : Value) (asserted : TypeId) (ok : Bool) : Option Value :=
 match P.underlying asserted, x with
 | some (.interface want), .iface t _ => match P.info? t with
  | some i => match Instr.missingMethod want i.methods with
   | none => some (if ok then .tuple #[x, .bool true] else x)
   | some _ => if ok then (gC P asserted).map fun z => .tuple #[z, .bool false] else none
  | none => none
 | some _, .nilIface => if ok then (gC P asserted).map fun z => .tuple #[z, .bool false] else none
 | some _, .iface t v => if t = asserted then some (if ok then .tuple #[v, .bool true] else v)
   else if ok then (gC P asserted).map fun z => .tuple #[z, .bool false] else none
 | _, _ => none

def oK (P : Program) (t : TypeId) (v : Value) (name : String) : Option (FuncId × Value) :=
 match P.info? t with
 | some i => match i.methods.find? (·.name == name) with
  | some m => if m.path.isEmpty then match m.func with
   | some (f, ptr) => match P.underlying t with
    | some (.pointer _) => if ptr then some (f, v) else none
    | some _ => if ptr then none else some (f, v)
    | none => none
   | none => none
   else none
  | none => none
 | none => none

def aQ (P : Program) (f : FuncId) (args : List Value) : Option mF :=
 match P.funcs[f]? with
 | some fn => if fn.body.isSome && !(fn.name == "runtime.NumGoroutine") then some (.enter f args) else none
 | none => none

def oI (P : Program) (fn : Fn) (args captured : List Value) : Option mF :=
 match fn with
 | .func f => aQ P f (args ++ captured)
 | .method name => match args with
  | .iface t v :: rest => match oK P t v name with
   | some (f, r) => aQ P f (r :: rest)
   | none => none
  | _ => none
 | _ => none

def aFc (P : Program) (t : TypeId) (x : Value) (h : aA) : Option Value :=
 match P.underlying t, x with
 | some .string, .string s => some (.int .i64 s.size)
 | some (.array n _), _ => some (.int .i64 n)
 | some (.slice _), .slice _ n _ => some (.int .i64 n)
 | some (.map _ _), .map none => some (.int .i64 0)
 | some (.map _ _), .map (some r) => match h.obj r with
  | some (.map es) => some (.int .i64 es.length)
  | _ => none
 | _, _ => none

def rZ (P : Program) (argTypes : Array TypeId) (args : List Value) (h : aA) : Option (Value × aA) :=
 match argTypes[0]?, args with
 | some dType, [.slice b dLen es, src] => match P.underlying dType with
  | some (.slice e) => match dF P e with
   | some n => if n = 0 then none else
    match src with
    | .slice sb sLen es' =>
     let k := Nat.min sLen dLen
     if k = 0 then some (.int .i64 0, h) else
     match b, sb with
     | some ⟨i, off, none⟩, some ⟨j, off', none⟩ => if es = n && es' = n then match h.cells j off' (k * n) with
      | some vs => (h.store i off vs).map fun h' => (.int .i64 k, h')
      | none => none
      else none
     | _, _ => none
    | _ => none
   | none => none
  | _ => none
 | _, _ => none

def aBm (isMax : Bool) : List Value → Option Value
 | [.int k x, .int _ y] => if isMax then some (.int k (if y > x then y else x)) else some (.int k (if y < x then y else x))
 | _ => none

def qW (k : Value) : List (Value × Value) → Nat → Option (Option (Nat × Value))
 | [], _ => some none
 | (k', v) :: es, i =>
  match k, k' with
  | .int q a, .int q' b => if q = q' then (if a == b then some (some (i, v)) else qW k es (i + 1)) else none
  | .string a, .string b => if a == b then some (some (i, v)) else qW k es (i + 1)
  | .bool a, .bool b => if a == b then some (some (i, v)) else qW k es (i + 1)
  | _, _ => none

def aFa (P : Program) (t : TypeId) (k : Value) : Bool :=
 match P.underlying t, k with
 | some (.int q), .int q' _ => q' == q
 | some .string, .string _ => true
 | some .bool, .bool _ => true
 | _, _ => false

def mapOf (h : aA) : Value → Option (List (Value × Value))
 | .map none => some []
 | .map (some r) => match h.obj r with
  | some (.map es) => some es
  | _ => none
 | _ => none

def vG (P : Program) (t : TypeId) (x k : Value) (ok : Bool) (h : aA) : Option Value :=
 match P.underlying t with
 | some (.map kt e) =>
  if aFa P kt k then match mapOf h x with
   | some es => match qW k es 0 with
    | some (some (_, v)) => some (if ok then .tuple #[v, .bool true] else v)
    | some none => (gC P e).map fun z => if ok then .tuple #[z, .bool false] else z
    | none => none
   | none => none
  else none
 | _ => none

def oT (P : Program) (t : TypeId) (m k x : Value) (h : aA) : Option aA :=
 match P.underlying t, m with
 | some (.map kt _), .map (some r) =>
  if aFa P kt k then match h.obj r with
   | some (.map es) => match qW k es 0 with
    | some (some (i, _)) => some (h.put r (some (.map (es.set i (k, x)))))
    | some none => some (h.put r (some (.map (es ++ [(k, x)]))))
    | none => none
   | _ => none
  else none
 | _, _ => none

def nW (P : Program) : Value → Option Value
 | .pointer (some a) => some (.pointer (some a))
 | .iface t v => some (.iface t v)
 | .func (.func f) a b => some (.func (.func f) a b)
 | .func (.method name) a b => match a.toList with
  | .iface t v :: _ => match oK P t v name with
   | some _ => match v with
    | .pointer none => none
    | _ => some (.func (.method name) a b)
   | none => none
  | _ => none
 | _ => none

def iF (P : Program) (G : Nat) (env : Env) (c : Call) (h : aA) : Option mF :=
 match bO G env c.args.toList with
 | none => none
 | some args => match c.callee with
  | .value f => match aJ G env f with
   | some (.func fn first captured) => oI P fn (first.toList ++ args) captured.toList
   | _ => none
  | .invoke recv name => match aJ G env recv with
   | some v => oI P (.method name) (v :: args) []
   | none => none
  | .builtin b => match b with
   | .append => (eR P c.argTypes args h).map fun (v, h') => .val v h'
   | .len => match c.argTypes[0]?, args with
    | some t, [x] => (aFc P t x h).map fun v => .val v h
    | _, _ => none
   | .copy => (rZ P c.argTypes args h).map fun (v, h') => .val v h'
   | .max => (aBm true args).map fun v => .val v h
   | .min => (aBm false args).map fun v => .val v h
   | .panic => match args with
    | [.iface t v] => some (.panic (.iface t v))
    | _ => none
   | _ => none

def c6 (P : Program) (G : Nat) (env : Env) (o : Oper) (h : aA) : Option mF :=
 match o.op with
 | .move x => (aJ G env x).map fun v => .val v h
 | .assign x => (aJ G env x).map fun v => .val v h
 | .pick c a b => match aJ G env c with
  | some (.bool true) => (aJ G env a).map fun v => .val v h
  | some (.bool false) => (aJ G env b).map fun v => .val v h
  | _ => none
 | .alloc e => (gC P e).map fun z => .val (.pointer (some ⟨h.next, 0, none⟩)) (h.alloc (.cells false z.cells.toList))
 | .box _ x => (aJ G env x).map fun v => .val (.pointer (some ⟨h.next, 0, none⟩)) (h.alloc (.cells false v.cells.toList))
 | .build t parts => match c9 G env parts.toList with
  | some ps => (q9 P t ps).map fun v => .val v h
  | none => none
 | .buildSlice t len parts => match c9 G env parts.toList with
  | some ps => (fD P t len ps h).map fun (v, h') => .val v h'
  | none => none
 | .load t a => match aJ G env a with
  | some (.pointer (some ⟨i, off, none⟩)) => (pS P t i off h).map fun v => .val v h
  | _ => none
 | .store t a x => match aJ G env a, aJ G env x with
  | some (.pointer (some ⟨i, off, none⟩)), some v => (fW P t i off v h).map .skip
  | _, _ => none
 | .nilCheck x => match aJ G env x with
  | some v => (nW P v).map fun v => .val v h
  | none => none
 | .binOp op t x y _ => match aJ G env x, aJ G env y with
  | some a, some b => if o0 P op t x y a b then (nL P op t a b).map fun v => .val v h else none
  | _, _ => none
 | .unOp op _ x => match aJ G env x with
  | some v => (unA op v).map fun v => .val v h
  | none => none
 | .convert s d x => match aJ G env x with
  | some v => (iG P s d v h).map fun (v, h') => .val v h'
  | none => none
 | .makeInterface t x => match P.underlying t, aJ G env x with
  | some (.interface _), _ => none
  | some _, some v => some (.val (.iface t v) h)
  | _, _ => none
 | .makeFunc fn first captured => match bO G env first.toList, bO G env captured.toList with
  | some f, some c => some (.val (.func fn f.toArray c.toArray) h)
  | _, _ => none
 | .makeMap _ none => some (.val (.map (some h.next)) (h.alloc (.map [])))
 | .makeSlice t l c => match aJ G env l, aJ G env c with
  | some l, some c => (gP P t l c h).map fun (v, h') => .val v h'
  | _, _ => none
 | .slice t x lo hi none => match aJ G env x, bO G env lo.toList, bO G env hi.toList with
  | some v, some l, some hh => (iB P t v l.head? hh.head?).map fun v => .val v h
  | _, _, _ => none
 | .fieldAddr t x f => match aJ G env x with
  | some v => (j8 P t v f).map fun v => .val v h
  | none => none
 | .field t x f => match aJ G env x with
  | some v => (rD P t v f).map fun v => .val v h
  | none => none
 | .indexAddr t x i => match aJ G env x, aJ G env i with
  | some v, some k => (kB P t v k).map fun v => .val v h
  | _, _ => none
 | .index t x i => match aJ G env x, aJ G env i with
  | some v, some k => (tG P t v k).map fun v => .val v h
  | _, _ => none
 | .lookup t x k ok => match aJ G env x, aJ G env k with
  | some m, some k => (vG P t m k ok h).map fun v => .val v h
  | _, _ => none
 | .mapUpdate t m k x | .insert t m k x => match aJ G env m, aJ G env k, aJ G env x with
  | some m, some k, some x => (oT P t m k x h).map .skip
  | _, _, _ => none
 | .typeAssert x _ t ok => match aJ G env x with
  | some v => (u9 P v t ok).map fun v => .val v h
  | none => none
 | .extract t i => match aJ G env t with
  | some (.tuple vs) => (vs[i]?).map fun v => .val v h
  | _ => none
 | .call c => iF P G env c h
 | .panic x => match aJ G env x with
  | some (.iface t v) => some (.panic (.iface t v))
  | _ => none
 | _ => none

end Go.Am
end
