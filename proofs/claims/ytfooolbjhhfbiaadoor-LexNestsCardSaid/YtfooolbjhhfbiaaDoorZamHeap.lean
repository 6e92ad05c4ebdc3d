/-
  The abstract machine, part 2: the logical heap and its relation to the model's world.
-/
import Derived.Test.YtfooolbjhhfbiaaDoorZamBase
namespace Go.Am
open Go.RowKit (Below)

/-- A logical object: a row of cells (what is known of it; 'ro': never written), or a map. -/
inductive AObj where
  | cells (ro : Bool) (cs : List Value)
  | map (es : List (Value × Value))

def AObj.ro : AObj → Bool
  | .cells r _ => r
  | .map _ => false

structure Heap where
  next : Nat
  obj : Nat → Option AObj

def Heap.put (h : Heap) (i : Nat) (o : Option AObj) : Heap := { h with obj := fun j => if j = i then o else h.obj j }
def Heap.alloc (h : Heap) (o : AObj) : Heap := { next := h.next + 1, obj := fun j => if j = h.next then some o else h.obj j }

@[simp] theorem Heap.put_next (h : Heap) (i : Nat) (o : Option AObj) : (h.put i o).next = h.next := rfl
@[simp] theorem Heap.alloc_next (h : Heap) (o : AObj) : (h.alloc o).next = h.next + 1 := rfl
theorem Heap.put_obj (h : Heap) (i j : Nat) (o : Option AObj) : (h.put i o).obj j = if j = i then o else h.obj j := rfl
theorem Heap.alloc_obj (h : Heap) (j : Nat) (o : AObj) : (h.alloc o).obj j = if j = h.next then some o else h.obj j := rfl

def ERel (ρ : Ren) (es : List (Value × Value)) (es' : List MapEntry) : Prop :=
  LRel ρ (es.map (·.1)) (es'.map (·.key)) ∧ LRel ρ (es.map (·.2)) (es'.map (·.val))

theorem ERel.mono {ρ ρ' : Ren} (hl : ρ.le ρ') {es : List (Value × Value)} {es' : List MapEntry} (h : ERel ρ es es') : ERel ρ' es es' := ⟨h.1.mono hl, h.2.mono hl⟩

/-- What the world holds of a logical object. -/
def Holds (ρ : Ren) (B : Nat) (w : World) (b base n : Nat) : AObj → Prop
  | .cells ro cs => cs.length ≤ n ∧ (∀ m v, cs[m]? = some v → ∃ v', w.cell? ⟨b, base + m, none⟩ = some v' ∧ VRel ρ v v') ∧
      (ro = false → B ≤ b ∧ ∀ m, m < n → (w.cell? ⟨b, base + m, none⟩).isSome = true ∧ w.frozen? ⟨b, base + m, none⟩ = false)
  | .map es => B ≤ b ∧ ∃ es' clock, w.heap[b]? = some (.map es' clock) ∧ ERel ρ es es'.toList

theorem Holds.mono {ρ ρ' : Ren} (hl : ρ.le ρ') {B : Nat} {w : World} {b base n : Nat} {o : AObj} (h : Holds ρ B w b base n o) : Holds ρ' B w b base n o := by
  cases o with
  | cells ro cs =>
    exact ⟨h.1, fun m v hm => let ⟨v', h1, h2⟩ := h.2.1 m v hm; ⟨v', h1, h2.mono hl⟩, h.2.2⟩
  | map es => obtain ⟨hb, es', c, h1, h2⟩ := h; exact ⟨hb, es', c, h1, h2.mono hl⟩

theorem Holds.block {ρ : Ren} {B : Nat} {w w' : World} {b base n : Nat} {o : AObj} (hb : w'.heap[b]? = w.heap[b]?) (h : Holds ρ B w b base n o) : Holds ρ B w' b base n o := by
  have hc : ∀ off, w'.cell? ⟨b, off, none⟩ = w.cell? ⟨b, off, none⟩ := fun off => World.cell?_of_block (w := w) (a := ⟨b, off, none⟩) hb
  have hf : ∀ off, w'.frozen? ⟨b, off, none⟩ = w.frozen? ⟨b, off, none⟩ := fun off => World.frozen?_of_block (w := w) (a := ⟨b, off, none⟩) hb
  cases o with
  | cells ro cs =>
    refine ⟨h.1, fun m v hm => ?_, fun hr => ⟨(h.2.2 hr).1, fun m hm => ?_⟩⟩
    · rw [hc]; exact h.2.1 m v hm
    · rw [hc, hf]; exact (h.2.2 hr).2 m hm
  | map es => obtain ⟨hB, es', c, h1, h2⟩ := h; exact ⟨hB, es', c, by rw [hb]; exact h1, h2⟩

structure Rel (G B : Nat) (w0 : World) (ρ : Ren) (h : Heap) (w : World) : Prop where
  below : Below B w0 w
  base : B ≤ w0.heap.size
  dom : ∀ i b base n, ρ i = some (b, base, n) → i < h.next ∧ b < w.heap.size
  glob : ∀ g, g < G → ∃ n, ρ g = some (g, 0, n)
  live : ∀ i b base n o, ρ i = some (b, base, n) → h.obj i = some o → Holds ρ B w b base n o
  inj : ∀ i j b base n b' base' n' oi oj, i ≠ j → ρ i = some (b, base, n) → ρ j = some (b', base', n') → h.obj i = some oi → h.obj j = some oj → oi.ro = false → b ≠ b'

section
variable {G B : Nat} {w0 : World} {ρ : Ren} {h : Heap} {w : World}

theorem Rel.size (R : Rel G B w0 ρ h w) : B ≤ w.heap.size := Nat.le_trans R.base R.below.size

/-- The world has grown; what was there is as it was. -/
theorem Rel.grow (R : Rel G B w0 ρ h w) {w' : World} (hb : Below w.heap.size w w') : Rel G B w0 ρ h w' where
  below := R.below.trans (hb.mono R.size)
  base := R.base
  dom i b base n hi := ⟨(R.dom i b base n hi).1, Nat.lt_of_lt_of_le (R.dom i b base n hi).2 hb.size⟩
  glob := R.glob
  live i b base n o hi ho := (R.live i b base n o hi ho).block (hb.block b (R.dom i b base n hi).2)
  inj := R.inj

theorem Rel.drew (R : Rel G B w0 ρ h w) : Rel G B w0 ρ h w.drew := R.grow (Below.refl _ _).drew

/-- An object is forgotten. -/
theorem Rel.kill (R : Rel G B w0 ρ h w) (i : Nat) : Rel G B w0 ρ (h.put i none) w where
  below := R.below
  base := R.base
  dom := R.dom
  glob := R.glob
  live j b base n o hj ho := by
    rw [Heap.put_obj] at ho
    split at ho
    · cases ho
    · exact R.live j b base n o hj ho
  inj a c b base n b' base' n' oi oj hne ha hc hoa hoc hr := by
    rw [Heap.put_obj] at hoa hoc
    split at hoa
    · cases hoa
    split at hoc
    · cases hoc
    exact R.inj a c b base n b' base' n' oi oj hne ha hc hoa hoc hr

def Ren.upd (ρ : Ren) (i : Nat) (x : Nat × Nat × Nat) : Ren := fun j => if j = i then some x else ρ j

theorem Rel.le_upd (R : Rel G B w0 ρ h w) (x : Nat × Nat × Nat) : ρ.le (ρ.upd h.next x) := by
  intro i y hy
  obtain ⟨b, base, n⟩ := y
  have := (R.dom i b base n hy).1
  unfold Ren.upd
  rw [if_neg (by omega)]
  exact hy

/-- Later: what was numbered before is numbered so still, and nothing that was not is numbered now among the old numbers. -/
def Ext (ρ : Ren) (h : Heap) (ρ' : Ren) (h' : Heap) : Prop := h.next ≤ h'.next ∧ ∀ i, i < h.next → ρ' i = ρ i

theorem Ext.refl (ρ : Ren) (h : Heap) : Ext ρ h ρ h := ⟨Nat.le_refl _, fun _ _ => rfl⟩
theorem Ext.trans {a b c : Ren} {ha hb hc : Heap} (x : Ext a ha b hb) (y : Ext b hb c hc) : Ext a ha c hc :=
  ⟨Nat.le_trans x.1 y.1, fun i hi => (y.2 i (Nat.lt_of_lt_of_le hi x.1)).trans (x.2 i hi)⟩
theorem Ext.upd (ρ : Ren) (h : Heap) (x : Nat × Nat × Nat) (o : AObj) : Ext ρ h (ρ.upd h.next x) (h.alloc o) :=
  ⟨by simp, fun i hi => by unfold Ren.upd; rw [if_neg (by omega)]⟩
theorem Ext.same (ρ : Ren) {h h' : Heap} (e : h'.next = h.next) : Ext ρ h ρ h' := ⟨by omega, fun _ _ => rfl⟩
theorem Ext.le (R : Rel G B w0 ρ h w) {ρ' : Ren} {h' : Heap} (x : Ext ρ h ρ' h') : ρ.le ρ' := by
  intro i y hy
  obtain ⟨b, base, n⟩ := y
  rw [x.2 i (R.dom i b base n hy).1]
  exact hy

/-- A new logical object, over a block of which no other live object knows. -/
theorem Rel.extend (R : Rel G B w0 ρ h w) {b base n : Nat} {o : AObj} (hb : b < w.heap.size)
    (hh : Holds (ρ.upd h.next (b, base, n)) B w b base n o)
    (hne : ∀ j b' base' n' oj, ρ j = some (b', base', n') → h.obj j = some oj → b' ≠ b) :
    Rel G B w0 (ρ.upd h.next (b, base, n)) (h.alloc o) w where
  below := R.below
  base := R.base
  dom i b' base' n' hi := by
    unfold Ren.upd at hi
    split at hi
    · simp only [Option.some.injEq, Prod.mk.injEq] at hi
      obtain ⟨rfl, rfl, rfl⟩ := hi
      exact ⟨by simp; omega, hb⟩
    · have := R.dom i b' base' n' hi
      exact ⟨by simp; omega, this.2⟩
  glob g hg := by
    obtain ⟨k, hk⟩ := R.glob g hg
    exact ⟨k, R.le_upd _ _ _ hk⟩
  live i b' base' n' o' hi ho := by
    rw [Heap.alloc_obj] at ho
    unfold Ren.upd at hi
    by_cases e : i = h.next
    · simp only [e, if_true, Option.some.injEq, Prod.mk.injEq] at hi ho
      obtain ⟨rfl, rfl, rfl⟩ := hi
      subst ho
      exact hh
    · simp only [e, if_false] at hi ho
      exact (R.live i b' base' n' o' hi ho).mono (R.le_upd _)
  inj i j b1 base1 n1 b2 base2 n2 oi oj hij hi hj hoi hoj hr := by
    rw [Heap.alloc_obj] at hoi hoj
    unfold Ren.upd at hi hj
    by_cases e : i = h.next
    · have e' : j ≠ h.next := fun k => hij (e.trans k.symm)
      simp only [e, e', if_true, if_false, Option.some.injEq, Prod.mk.injEq] at hi hj hoi hoj
      obtain ⟨rfl, rfl, rfl⟩ := hi
      exact (hne j b2 base2 n2 oj hj hoj).symm
    · simp only [e, if_false] at hi hoi
      by_cases e' : j = h.next
      · simp only [e', if_true, Option.some.injEq, Prod.mk.injEq] at hj
        obtain ⟨rfl, rfl, rfl⟩ := hj
        exact hne i b1 base1 n1 oi hi hoi
      · simp only [e', if_false] at hj hoj
        exact R.inj i j b1 base1 n1 b2 base2 n2 oi oj hij hi hj hoi hoj hr

/-- One block's contents change, that of one live object (or of one that is forgotten with it). -/
theorem Rel.update (R : Rel G B w0 ρ h w) {i b base n : Nat} {oi : AObj} (hi : ρ i = some (b, base, n)) (ho : h.obj i = some oi) (hr : oi.ro = false)
    {w' : World} (os : w'.os = w.os) (tape : w'.tape = w.tape) (out : w'.output = w.output) (size : w'.heap.size = w.heap.size)
    (other : ∀ k, k ≠ b → w'.heap[k]? = w.heap[k]?) {o' : Option AObj} (ok : ∀ o, o' = some o → Holds ρ B w' b base n o ∧ o.ro = false) :
    Rel G B w0 ρ (h.put i o') w' := by
  have hB : B ≤ b := by
    have := R.live i b base n oi hi ho
    cases oi with
    | cells ro cs => exact (this.2.2 hr).1
    | map es => exact this.1
  refine ⟨?_, R.base, ?_, R.glob, ?_, ?_⟩
  · exact R.below.trans ⟨os, tape, out, by omega, fun k hk => other k (by omega)⟩
  · intro j b' base' n' hj
    have := R.dom j b' base' n' hj
    exact ⟨this.1, by omega⟩
  · intro j b' base' n' o hj hoj
    rw [Heap.put_obj] at hoj
    split at hoj
    · rename_i e
      subst e
      rw [hi] at hj
      cases hj
      exact (ok o hoj).1
    · rename_i e
      refine (R.live j b' base' n' o hj hoj).block (other b' ?_)
      exact (R.inj i j b base n b' base' n' oi o (fun k => e k.symm) hi hj ho hoj hr).symm
  · intro a c b1 base1 n1 b2 base2 n2 oa oc hne ha hc hoa hoc hro
    rw [Heap.put_obj] at hoa hoc
    by_cases ea : a = i
    · subst ea
      have ec : c ≠ a := fun k => hne k.symm
      simp only [ec, if_false] at hoc
      rw [hi] at ha
      simp only [Option.some.injEq, Prod.mk.injEq] at ha
      obtain ⟨rfl, rfl, rfl⟩ := ha
      exact R.inj a c b base n b2 base2 n2 oi oc hne hi hc ho hoc hr
    · simp only [ea, if_false] at hoa
      by_cases ec : c = i
      · subst ec
        rw [hi] at hc
        simp only [Option.some.injEq, Prod.mk.injEq] at hc
        obtain ⟨rfl, rfl, rfl⟩ := hc
        exact (R.inj c a b base n b1 base1 n1 oi oa (fun k => hne k.symm) hi ha ho hoa hr).symm
      · simp only [ec, if_false] at hoc
        exact R.inj a c b1 base1 n1 b2 base2 n2 oa oc hne ha hc hoa hoc hro

/-- A new block of cells. -/
theorem Rel.new (R : Rel G B w0 ρ h w) {w' : World} {C : Array Value} {t : TypeId} {fz : Nat × Nat} {cs : List Value}
    (hb : Below w.heap.size w w') (hs : w.heap.size < w'.heap.size) (hnew : w'.heap[w.heap.size]? = some (.cells C t fz)) (hfz : C.size ≤ fz.1 ∨ fz.2 ≤ 0) (hlen : cs.length ≤ C.size)
    (hrel : ∀ (m : Nat) v, cs[m]? = some v → ∃ v', C[m]? = some v' ∧ VRel ρ v v') :
    Rel G B w0 (ρ.upd h.next (w.heap.size, 0, C.size)) (h.alloc (.cells false cs)) w' := by
  have R' := R.grow hb
  have hcell : ∀ m, w'.cell? ⟨w.heap.size, 0 + m, none⟩ = C[m]? := fun m => by simp [World.cell?, hnew]
  have hfro : ∀ m, m < C.size → w'.frozen? ⟨w.heap.size, 0 + m, none⟩ = false := fun m hm => by
    simp [World.frozen?, hnew]; omega
  refine R'.extend (b := w.heap.size) (base := 0) (n := C.size) hs ⟨hlen, fun m v hm => ?_, fun _ => ⟨R.size, fun m hm => ⟨?_, hfro m hm⟩⟩⟩ ?_
  · obtain ⟨v', h1, h2⟩ := hrel m v hm
    exact ⟨v', by rw [hcell]; exact h1, h2.mono (R.le_upd _)⟩
  · rw [hcell]; simp [hm]
  · intro j b' base' n' oj hj hoj
    have := (R.dom j b' base' n' hj).2
    omega
end

end Go.Am
