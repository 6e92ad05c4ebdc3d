/-
  The abstract machine, part 14: a region whose order is drawn. Its operations are run in one order that a plan gives; the plan's conditions, and that what was
  read or made is still so behind each operation that may come between, make every other order come to the same.
-/
import Derived.Test.YtfooolbjhhfbiaaDoorZamKind
namespace Go.Am
open Go.RowKit (Below)

/-- An operation in a plan: its number, its kind, and (as bits) those that come ahead of it in every order. -/
structure PItem where
  i : Nat
  kind : LKind
  bef : Nat
  deriving DecidableEq

def maskOf (seen : List PItem) : List Edge → Option Nat
  | [] => some 0
  | e :: es => if Region.binds .any e then
      match seen.find? (·.i == e.on), maskOf seen es with
      | some y, some r => some ((2 ^ e.on ||| y.bef) ||| r)
      | _, _ => none
    else maskOf seen es

def conflictA (ops : Array Oper) (x y : Oper) : Bool :=
  (match x.dst with | some d => (y.looksAt ops).contains d | none => false) || (match y.dst with | some d => (x.looksAt ops).contains d | none => false)

def itemOk (P : Program) (ops : Array Oper) (seen : List PItem) (x : PItem) : Bool :=
  match ops[x.i]? with
  | none => false
  | some o => kindOf P o.op == x.kind && maskOf seen o.after.toList == some x.bef &&
      seen.all fun y => y.i != x.i && match ops[y.i]? with
        | none => false
        | some oy => (!(y.kind == .heavy || conflictA ops oy o) || x.bef.testBit y.i) && (o.dst.isNone || oy.dst != o.dst)

def planOk (P : Program) (ops : Array Oper) : List PItem → List PItem → Bool
  | _, [] => true
  | seen, x :: rest => itemOk P ops seen x && planOk P ops (x :: seen) rest

/-- The first operation that may come next, one of no effect if there is one. -/
def nextOf (P : Program) (ops : Array Oper) (seen : List PItem) : Option PItem :=
  let free (i : Nat) : Option PItem := match ops[i]? with
    | none => none
    | some o => if seen.any (·.i == i) then none else (maskOf seen o.after.toList).map fun m => ⟨i, kindOf P o.op, m⟩
  let all := (List.range ops.size).filterMap free
  match all.find? (·.kind != .heavy) with
  | some x => some x
  | none => all.head?

def mkPlan (P : Program) (ops : Array Oper) : Nat → List PItem → List PItem
  | 0, seen => seen.reverse
  | k + 1, seen => match nextOf P ops seen with
    | some x => mkPlan P ops k (x :: seen)
    | none => seen.reverse

def plan (P : Program) (ops : Array Oper) : Option (List PItem) :=
  let l := mkPlan P ops ops.size []
  if l.length = ops.size && planOk P ops [] l then some l else none

/-- An operation without effect, as it was run. -/
structure PRec where
  x : PItem
  o : Oper
  env : Env
  h : Heap
  h1 : Heap
  v : Value
  w : Bool

/-- Would it come to the same on this heap? -/
def PRec.Stable (P : Program) (G : Nat) (p : PRec) (H : Heap) : Prop :=
  p.w = true → match p.x.kind with
    | .read => opA P G p.env p.o H = some (.val p.v H)
    | .alloc => H.obj p.h.next = p.h1.obj p.h.next
    | _ => True

def lightRec (P : Program) (G n : Nat) (ops : Array Oper) (x : PItem) (o : Oper) (env : Env) (h : Heap) : Option (PRec × Env × Heap) :=
  match wantedA ops env o with
  | none => none
  | some false => (putA n o.dst undef env).map fun e => (⟨x, o, env, h, h, undef, false⟩, e, h)
  | some true => match opA P G env o h with
    | some (.val v h') => (putA n o.dst v env).map fun e => (⟨x, o, env, h, h', v, true⟩, e, h')
    | _ => none

def dirt (l : List (PRec × Bool)) : List (PRec × Bool) := l.map fun p => (p.1, true)

def Clear (P : Program) (G : Nat) (pend : List (PRec × Bool)) (H : Heap) : Prop := ∀ p ∈ pend, p.2 = true → p.1.Stable P G H

open Classical in
/-- The operations in the plan's order. -/
noncomputable def runPi (P : Program) (G : Nat) (C : CallFn) (n : Nat) (ops : Array Oper) : List PItem → List (PRec × Bool) → Env → Heap → Option SRes
  | [], pend, env, h => if Clear P G pend h then some (.ok env h) else none
  | x :: rest, pend, env, h => match ops[x.i]? with
    | none => none
    | some o => match x.kind with
      | .heavy => if Clear P G pend h then match stepA P G C n ops o env h with
          | some (.ok env' h') => runPi P G C n ops rest (dirt (pend.filter fun p => !x.bef.testBit p.1.x.i)) env' h'
          | r => r
        else none
      | .pure => match lightRec P G n ops x o env h with
        | some (_, e, h') => runPi P G C n ops rest pend e h'
        | none => none
      | .read => match lightRec P G n ops x o env h with
        | some (p, e, h') => runPi P G C n ops rest (pend ++ [(p, false)]) e h'
        | none => none
      | .alloc => match lightRec P G n ops x o env h with
        | some (p, e, h') => runPi P G C n ops rest (dirt pend ++ [(p, false)]) e h'
        | none => none

noncomputable def drawA (P : Program) (G : Nat) (C : CallFn) (n : Nat) (ops : Array Oper) (env : Env) (h : Heap) : Option SRes :=
  match plan P ops with
  | some l => runPi P G C n ops l [] env h
  | none => none

/-- In every order j comes ahead of i. -/
inductive Anc (ops : Array Oper) : Nat → Nat → Prop
  | one {i : Nat} {o : Oper} {e : Edge} : ops[i]? = some o → e ∈ o.after.toList → Region.binds .any e = true → Anc ops i e.on
  | more {i j : Nat} {o : Oper} {e : Edge} : ops[i]? = some o → e ∈ o.after.toList → Region.binds .any e = true → Anc ops e.on j → Anc ops i j

theorem maskOf_anc {ops : Array Oper} {seen : List PItem} (hs : ∀ y ∈ seen, ∀ j, y.bef.testBit j = true → Anc ops y.i j) {i : Nat} {o : Oper} (ho : ops[i]? = some o) :
    ∀ {es : List Edge} {m : Nat}, (∀ e ∈ es, e ∈ o.after.toList) → maskOf seen es = some m → (∀ j, m.testBit j = true → Anc ops i j) ∧ ∀ e ∈ es, Region.binds .any e = true → ∃ y ∈ seen, y.i = e.on
  | [], m, _, hm => by simp [maskOf] at hm; subst hm; exact ⟨fun j hj => by simp at hj, by simp⟩
  | e :: es, m, hin, hm => by
    unfold maskOf at hm
    split at hm
    · rename_i hb
      split at hm
      · rename_i y r hy hr
        cases hm
        obtain ⟨h1, h2⟩ := maskOf_anc hs ho (fun e' he' => hin e' (by simp [he'])) hr
        have hye : y.i = e.on := by have := List.find?_some hy; simpa using this
        have hymem := List.mem_of_find?_eq_some hy
        refine ⟨fun j hj => ?_, fun e' he' hb' => ?_⟩
        · rw [Nat.testBit_or, Nat.testBit_or] at hj
          simp only [Bool.or_eq_true] at hj
          rcases hj with (hj | hj) | hj
          · rw [Nat.testBit_two_pow] at hj
            have : e.on = j := by simpa using hj
            subst this
            exact .one ho (hin e (by simp)) hb
          · have := hs y hymem j hj
            rw [hye] at this
            exact .more ho (hin e (by simp)) hb this
          · exact h1 j hj
        · simp only [List.mem_cons] at he'
          rcases he' with rfl | he'
          · exact ⟨y, hymem, hye⟩
          · exact h2 e' he' hb'
      · cases hm
    · rename_i hb
      obtain ⟨h1, h2⟩ := maskOf_anc hs ho (fun e' he' => hin e' (by simp [he'])) hm
      refine ⟨h1, fun e' he' hb' => ?_⟩
      simp only [List.mem_cons] at he'
      rcases he' with rfl | he'
      · exact (hb hb').elim
      · exact h2 e' he' hb'

/-- What has been listed is closed. -/
def ClosedS (ops : Array Oper) (S : Array Bool) : Prop := ∀ i o, ops[i]? = some o → S.getD i true = true → ∀ e ∈ o.after.toList, Region.binds .any e = true → S.getD e.on false = true

def PredsIn (ops : Array Oper) (S : Array Bool) (i : Nat) : Prop := ∀ o, ops[i]? = some o → ∀ e ∈ o.after.toList, Region.binds .any e = true → S.getD e.on false = true

theorem getD_true_of_false {S : Array Bool} {i : Nat} (h : S.getD i false = true) : S.getD i true = true ∧ i < S.size := by
  rw [Array.getD_eq_getD_getElem?] at h ⊢
  cases hi : S[i]? with
  | none => rw [hi] at h; cases h
  | some b => rw [hi] at h; exact ⟨h, (Array.getElem?_eq_some_iff.1 hi).1⟩

theorem Anc.listed {ops : Array Oper} {S : Array Bool} (hc : ClosedS ops S) {i j : Nat} (h : Anc ops i j) : PredsIn ops S i → S.getD j false = true := by
  induction h with
  | one ho he hb => intro hp; exact hp _ ho _ he hb
  | more ho he hb _ ih =>
    intro hp
    have h1 := hp _ ho _ he hb
    exact ih fun o' ho' e' he' hb' => hc _ o' ho' (getD_true_of_false h1).1 e' he' hb'


section
variable {G B : Nat} {w0 : World} {P : Program} {n : Nat} {ops : Array Oper}

/-- A logical object that is there already comes to lie in a new block. -/
theorem Rel.materialize {ρ : Ren} {H : Heap} {w : World} (R : Rel G B w0 ρ H w) {id b N : Nat} {o : AObj} (hid : id < H.next) (hρ : ρ id = none) (ho : H.obj id = some o) {w' : World}
    (hb : Below w.heap.size w w') (hlt : w.heap.size < w'.heap.size) (hbs : b = w.heap.size) (hh : Holds (ρ.upd id (b, 0, N)) B w' b 0 N o) :
    Rel G B w0 (ρ.upd id (b, 0, N)) H w' := by
  subst hbs
  have R' := R.grow hb
  have hle : ρ.le (ρ.upd id (w.heap.size, 0, N)) := by
    intro i y hy
    unfold Ren.upd
    split
    · rename_i e; subst e; rw [hρ] at hy; cases hy
    · exact hy
  refine ⟨R'.below, R'.base, ?_, ?_, ?_, ?_⟩
  · intro i b base m hi
    unfold Ren.upd at hi
    split at hi
    · rename_i e; cases hi; exact ⟨by omega, hlt⟩
    · exact R'.dom i b base m hi
  · intro g hg
    obtain ⟨k, hk⟩ := R'.glob g hg
    exact ⟨k, hle _ _ hk⟩
  · intro i b base m oi hi hoi
    unfold Ren.upd at hi
    by_cases e : i = id
    · simp only [e, if_true, Option.some.injEq, Prod.mk.injEq] at hi
      obtain ⟨rfl, rfl, rfl⟩ := hi
      rw [e, ho] at hoi
      cases hoi
      exact hh
    · simp only [e, if_false] at hi
      exact (R'.live i b base m oi hi hoi).mono hle
  · intro i j b1 base1 m1 b2 base2 m2 oi oj hij hi hj hoi hoj hr
    unfold Ren.upd at hi hj
    by_cases e : i = id
    · have e' : j ≠ id := fun k => hij (e.trans k.symm)
      simp only [e, e', if_true, if_false, Option.some.injEq, Prod.mk.injEq] at hi hj
      obtain ⟨rfl, rfl, rfl⟩ := hi
      have := (R.dom j b2 base2 m2 hj).2
      omega
    · simp only [e, if_false] at hi
      by_cases e' : j = id
      · simp only [e', if_true, Option.some.injEq, Prod.mk.injEq] at hj
        obtain ⟨rfl, rfl, rfl⟩ := hj
        have := (R.dom i b1 base1 m1 hi).2
        omega
      · simp only [e', if_false] at hj
        exact R'.inj i j b1 base1 m1 b2 base2 m2 oi oj hij hi hj hoi hoj hr

def NoPred (ops : Array Oper) (i j : Nat) : Prop := ∀ o, ops[i]? = some o → ∀ e ∈ o.after.toList, Region.binds .any e = true → e.on ≠ j

/-- What a record says of itself. -/
structure PRec.Ok (P : Program) (G n : Nat) (ops : Array Oper) (u : PRec) : Prop where
  op : ops[u.x.i]? = some u.o
  kind : kindOf P u.o.op = u.x.kind
  light : u.x.kind ≠ .heavy
  want : wantedA ops u.env u.o = some u.w
  run : u.w = true → opA P G u.env u.o u.h = some (.val u.v u.h1)
  skip : u.w = false → u.v = undef ∧ u.h1 = u.h
  lt : ∀ d, u.o.dst = some d → d < n

structure Inv (P : Program) (G B : Nat) (w0 : World) (C : CallFn) (n : Nat) (ops : Array Oper) (r : SRes) (ρ0 : Ren) (h0 : Heap) (ds : List Deferred)
    (done rest : List PItem) (U : List PRec) (pend : List (PRec × Bool)) (env : Env) (h : Heap) (ρ : Ren) (S : Array Bool) (a : Act) (w : World) : Prop where
  run : runPi P G C n ops rest pend env h = some r
  stat : planOk P ops done rest = true
  doneOk : ∀ y ∈ done, (∃ oy, ops[y.i]? = some oy ∧ kindOf P oy.op = y.kind) ∧ ∀ j, y.bef.testBit j = true → Anc ops y.i j
  cover : ∀ i, i < ops.size → (∃ y ∈ done, y.i = i) ∨ ∃ y ∈ rest, y.i = i
  uDone : ∀ u ∈ U, u.x ∈ done ∧ u.Ok P G n ops
  size : S.size = ops.size
  listed : ∀ i, i < ops.size → (S.getD i true = true ↔ (∀ u ∈ U, u.x.i ≠ i) ∧ ∀ y ∈ rest, y.i ≠ i)
  closed : ClosedS ops S
  distinct : U.Pairwise fun u u' => u.x.i ≠ u'.x.i
  order : U.Pairwise fun u u' => NoPred ops u.x.i u'.x.i
  self : ∀ u ∈ U, NoPred ops u.x.i u.x.i
  noRest : ∀ u ∈ U, ∀ y ∈ rest, NoPred ops u.x.i y.i
  frSize : a.tmps.size = n
  fr : ∀ d v, env d = some v → d < n ∧ ((∃ u ∈ U, u.o.dst = some d) ∨ VRel ρ v (a.tmps.getD d undef))
  pv : ∀ u ∈ U, ∀ d, u.o.dst = some d → env d = some u.v
  opnd : ∀ u ∈ U, ∀ d ∈ u.o.looksAt ops, (∃ u' ∈ U, u'.o.dst = some d ∧ u.x.bef.testBit u'.x.i = true ∧ u.env d = some u'.v) ∨
    ((∀ u' ∈ U, u'.x.i ≠ u.x.i → u'.o.dst = some d → u'.x.bef.testBit u.x.i = true) ∧ ∀ v, u.env d = some v → d < n ∧ VRel ρ v (a.tmps.getD d undef))
  uniq : ∀ u ∈ U, ∀ u' ∈ U, u'.x.i ≠ u.x.i → ∀ d, u.o.dst = some d → u'.o.dst ≠ some d
  plt : ∀ u ∈ U, ∀ e ∈ u.o.after.toList, Region.binds .any e = true → e.on < ops.size
  rel : Rel G B w0 ρ h w
  inPend : ∀ u ∈ U, (u.x.kind = .read ∨ u.x.kind = .alloc) → ∃ b, (u, b) ∈ pend
  clean : ∀ p ∈ pend, p.2 = false → h = p.1.h1
  pOk : ∀ p ∈ pend, p.1.Ok P G n ops
  made : ∀ u ∈ U, u.x.kind = .alloc → u.w = true → u.h.next < h.next ∧ ρ u.h.next = none ∧ h0.next ≤ u.h.next
  apart : U.Pairwise fun u u' => u.x.kind = .alloc → u.w = true → u'.x.kind = .alloc → u'.w = true → u.h.next ≠ u'.h.next
  ext : Ext ρ0 h0 ρ h
  defers : a.defers = ds

/-- Are the next operations a heavy one, or none? -/
def atBound : List PItem → Prop
  | [] => True
  | x :: _ => x.kind = .heavy

theorem clear_of {C : CallFn} {rest : List PItem} {pend : List (PRec × Bool)} {env : Env} {h : Heap} {r : SRes} (hb : atBound rest) (hr : runPi P G C n ops rest pend env h = some r) : Clear P G pend h := by
  cases rest with
  | nil =>
    simp only [runPi] at hr
    split at hr
    · assumption
    · cases hr
  | cons x rest =>
    simp only [runPi] at hr
    split at hr
    · cases hr
    · have hk : x.kind = .heavy := hb
      rw [hk] at hr
      simp only at hr
      split at hr
      · assumption
      · cases hr

theorem itemOk_out {seen : List PItem} {x : PItem} (hs : itemOk P ops seen x = true) : ∃ o, ops[x.i]? = some o ∧ kindOf P o.op = x.kind ∧ maskOf seen o.after.toList = some x.bef ∧
    ∀ y ∈ seen, y.i ≠ x.i ∧ ∃ oy, ops[y.i]? = some oy ∧ ((y.kind = .heavy ∨ conflictA ops oy o = true) → x.bef.testBit y.i = true) ∧ ∀ d, o.dst = some d → oy.dst ≠ some d := by
  unfold itemOk at hs
  split at hs
  · cases hs
  · rename_i o ho
    simp only [Bool.and_eq_true, beq_iff_eq, List.all_eq_true] at hs
    obtain ⟨⟨h1, h2⟩, h3⟩ := hs
    refine ⟨o, ho, h1, h2, fun y hy => ?_⟩
    have := h3 y hy
    simp only [bne_iff_ne, ne_eq] at this
    obtain ⟨h4, h5⟩ := this
    refine ⟨h4, ?_⟩
    split at h5
    · cases h5
    · rename_i oy hoy
      simp only [Bool.and_eq_true, Bool.or_eq_true, Bool.not_eq_true', bne_iff_ne, ne_eq] at h5
      obtain ⟨h6, h7⟩ := h5
      refine ⟨oy, hoy, fun hh => ?_, fun d hd hd' => ?_⟩
      · rcases h6 with h6 | h6
        · exfalso
          rcases hh with hh | hh
          · rw [hh] at h6; simp at h6
          · rw [hh] at h6; simp at h6
        · exact h6
      · rcases h7 with h7 | h7
        · rw [hd] at h7; cases h7
        · exact h7 (by rw [hd', hd])

theorem planOk_distinct : ∀ {rest seen : List PItem}, planOk P ops seen rest = true → ∀ y ∈ rest, ∀ z ∈ seen, z.i ≠ y.i
  | [], _, _, y, hy, _, _ => by simp at hy
  | x :: rest, seen, hp, y, hy, z, hz => by
    simp only [planOk, Bool.and_eq_true] at hp
    simp only [List.mem_cons] at hy
    rcases hy with rfl | hy
    · obtain ⟨o, _, _, _, h⟩ := itemOk_out hp.1
      exact (h z hz).1
    · exact planOk_distinct hp.2 y hy z (by simp [hz])

end
end Go.Am
