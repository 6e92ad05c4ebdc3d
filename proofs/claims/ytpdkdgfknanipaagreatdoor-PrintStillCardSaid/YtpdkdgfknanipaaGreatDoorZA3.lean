/- The abstract machine, third part: regions whose order is drawn, and calls. -/
import Derived.Test.YtpdkdgfknanipaaGreatDoorZA2
section
namespace Go.Am
open Go.RowKit (Below)

inductive aLl where
 | pure | read | alloc | aF
 deriving DecidableEq

def kindOf (P : Program) : Op → aLl
 | .move _ | .assign _ | .pick .. | .build .. | .nilCheck _ | .binOp .. | .unOp .. | .makeInterface .. | .makeFunc .. | .slice .. | .fieldAddr .. | .field ..
 | .indexAddr .. | .index .. | .typeAssert .. | .extract .. => .pure
 | .load .. | .lookup .. => .read
 | .convert _ d _ => match P.underlying d with
  | some (.slice _) => .aF
  | _ => .read
 | .call c => match c.callee with
  | .builtin .len | .builtin .max | .builtin .min => .read
  | _ => .aF
 | .alloc _ | .box .. | .buildSlice .. | .makeMap .. | .makeSlice .. => .alloc
 | _ => .aF

section
variable {G B : Nat} {w0 : World} {P : Program}

theorem fV {env env' : Env} : ∀ {l : List Operand}, (∀ x ∈ l, aJ G env x = aJ G env' x) → bO G env l = bO G env' l
 | [], _ => rfl
 | x :: l, h => by
  simp only [bO]
  rw [h x (by simp), fV fun y hy => h y (by simp [hy])]

theorem kX {env env' : Env} : ∀ {l : List (Nat × Operand)}, (∀ x ∈ l.map (·.2), aJ G env x = aJ G env' x) → c9 G env l = c9 G env' l
 | [], _ => rfl
 | (i, x) :: l, h => by
  simp only [c9]
  rw [h x (by simp), kX fun y hy => h y (by simp at hy ⊢; exact .inr hy)]

theorem aAk {env env' : Env} {c : Call} {h : aA} (he : ∀ x ∈ c.operands, aJ G env x = aJ G env' x) : iF P G env c h = iF P G env' c h := by
 have ha : bO G env c.args.toList = bO G env' c.args.toList := fV fun x hx => he x (by simp [Call.operands]; right; simpa using hx)
 unfold iF
 rw [ha]
 cases hc : c.callee with
 | value f => simp only [he f (by simp [Call.operands, hc])]
 | invoke r m => simp only [he r (by simp [Call.operands, hc])]
 | builtin b => rfl

theorem aFk {env env' : Env} {o : Oper} {h : aA} (he : ∀ x ∈ o.op.operands, aJ G env x = aJ G env' x) : c6 P G env o h = c6 P G env' o h := by
 unfold c6
 cases hop : o.op <;> rw [hop] at he <;> simp only [Op.operands] at he
 case move x => simp only [he x (by simp)]
 case assign x => simp only [he x (by simp)]
 case pick c x y => simp only [he c (by simp), he x (by simp), he y (by simp)]
 case box e x => simp only [he x (by simp)]
 case build t ps => simp only [kX (l := ps.toList) fun x hx => he x (by simpa using hx)]
 case buildSlice t n ps => simp only [kX (l := ps.toList) fun x hx => he x (by simpa using hx)]
 case load t x => simp only [he x (by simp)]
 case makeMap t r => cases r <;> rfl
 case store t x y => simp only [he x (by simp), he y (by simp)]
 case nilCheck x => simp only [he x (by simp)]
 case binOp op t x y yt => simp only [he x (by simp), he y (by simp)]
 case unOp op t x => simp only [he x (by simp)]
 case convert s d x => simp only [he x (by simp)]
 case makeInterface t x => simp only [he x (by simp)]
 case makeFunc fn f c => simp only [fV (l := f.toList) fun x hx => he x (by simp; left; simpa using hx), fV (l := c.toList) fun x hx => he x (by simp; right; simpa using hx)]
 case makeSlice t l c => simp only [he l (by simp), he c (by simp)]
 case slice t x lo hi mx =>
  cases mx with
  | some m => rfl
  | none => simp only [he x (by simp), fV (l := lo.toList) fun y hy => he y (by simp; simp at hy; exact .inr (.inl hy)), fV (l := hi.toList) fun y hy => he y (by simp; simp at hy; exact .inr (.inr hy))]
 case fieldAddr t x f => simp only [he x (by simp)]
 case field t x f => simp only [he x (by simp)]
 case indexAddr t x i => simp only [he x (by simp), he i (by simp)]
 case index t x i => simp only [he x (by simp), he i (by simp)]
 case lookup t x k ok => simp only [he x (by simp), he k (by simp)]
 case mapUpdate t m k x => simp only [he m (by simp), he k (by simp), he x (by simp)]
 case insert t m k x => simp only [he m (by simp), he k (by simp), he x (by simp)]
 case typeAssert x xt t ok => simp only [he x (by simp)]
 case extract t i => simp only [he t (by simp)]
 case call c => exact aAk he
 case panic x => simp only [he x (by simp)]

theorem Option.dM {α : Type} {o : Option α} {f : α → mF} {r : mF} (h : o.map f = some r) : ∃ a, o = some a ∧ r = f a := by
 cases o with
 | none => cases h
 | some a => simp at h; exact ⟨a, rfl, h.symm⟩

theorem aBs {env : Env} {o : Oper} {h : aA} {r : mF} (hk : kindOf P o.op = .pure) (hr : c6 P G env o h = some r) :
    ∃ v, r = .val v h ∧ ∀ h', c6 P G env o h' = some (.val v h') := by
  unfold c6 at hr
  cases hop : o.op <;> rw [hop] at hk hr <;> simp only [kindOf] at hk <;> simp only at hr <;> first
    | (cases hk; done)
    | (split at hk <;> cases hk; done)
    | (obtain ⟨v, h1, rfl⟩ := Option.dM hr; exact ⟨v, rfl, fun h' => by simp only [c6, hop, h1, Option.map_some]⟩)
    | (split at hr
       · rename_i h0; obtain ⟨v, h1, rfl⟩ := Option.dM hr; refine ⟨v, rfl, fun h' => ?_⟩; simp only [c6, hop, h0, h1, Option.map_some]; done
       · cases hr
       done)
    | (split at hr
       · rename_i h0 h1; obtain ⟨v, h2, rfl⟩ := Option.dM hr; refine ⟨v, rfl, fun h' => ?_⟩; simp only [c6, hop, h0, h1, h2, Option.map_some]; done
       · cases hr
       done)
    | skip
  case pick c x y =>
    split at hr
    · rename_i h0; obtain ⟨v, h1, rfl⟩ := Option.dM hr; exact ⟨v, rfl, fun h' => by simp only [c6, hop, h0, h1, Option.map_some]⟩
    · rename_i h0; obtain ⟨v, h1, rfl⟩ := Option.dM hr; exact ⟨v, rfl, fun h' => by simp only [c6, hop, h0, h1, Option.map_some]⟩
    · cases hr
  case binOp op t x y yt =>
    split at hr
    · rename_i u v hx hy
      split at hr
      · rename_i hq; obtain ⟨z, h1, rfl⟩ := Option.dM hr; exact ⟨z, rfl, fun h' => by simp only [c6, hop, hx, hy, hq, h1, if_true, Option.map_some]⟩
      · cases hr
    · cases hr
  case makeInterface t x =>
    split at hr
    · cases hr
    · rename_i d v hd hu hx
      cases hr
      refine ⟨.iface t v, rfl, fun h' => ?_⟩
      simp only [c6, hop, hu, hx]
    · cases hr
  case makeFunc fn f c =>
    split at hr
    · rename_i f' c' h1 h2; cases hr; exact ⟨_, rfl, fun h' => by simp only [c6, hop, h1, h2]⟩
    · cases hr
  case slice t x lo hi mx =>
    cases mx with
    | some m => cases hr
    | none =>
      simp only at hr
      split at hr
      · rename_i h0 h1 h2; obtain ⟨v, h3, rfl⟩ := Option.dM hr; exact ⟨v, rfl, fun h' => by simp only [c6, hop, h0, h1, h2, h3, Option.map_some]⟩
      · cases hr

theorem aBt {env : Env} {o : Oper} {h : aA} {r : mF} (hk : kindOf P o.op = .read) (hr : c6 P G env o h = some r) : ∃ v, r = .val v h := by
 unfold c6 at hr
 cases hop : o.op <;> rw [hop] at hk hr <;> simp only [kindOf] at hk <;> simp only at hr <;> first
  | (cases hk; done)
  | skip
 case load t x =>
  split at hr
  ·obtain ⟨v, h1, rfl⟩ := Option.dM hr; exact ⟨v, rfl⟩
  ·cases hr
 case lookup t x k ok =>
  split at hr
  ·obtain ⟨v, h1, rfl⟩ := Option.dM hr; exact ⟨v, rfl⟩
  ·cases hr
 case convert s d x =>
  split at hk
  ·cases hk
  ·rename_i hns
   split at hr
   ·rename_i v hv
    obtain ⟨z, h1, rfl⟩ := Option.dM hr
    obtain ⟨z, h'⟩ := z
    refine ⟨z, ?_⟩
    unfold iG at h1
    split at h1
    ·cases h1; rfl
    ·cases h1; rfl
    ·cases h1; rfl
    ·rename_i hd; exact (hns _ hd).elim
    ·split at h1
     ·split at h1
      ·cases h1; rfl
      ·split at h1
       ·cases h1; rfl
       ·split at h1
        ·split at h1
         ·rename_i vs hvs
          cases hb : cP vs with
          | none => simp [hb] at h1
          | some l => simp [hb] at h1; rw [h1.2]
         ·cases h1
        ·cases h1
      ·cases h1
     ·cases h1
    ·cases h1
   ·cases hr
 case call c =>
  unfold iF at hr
  split at hr
  ·cases hr
  ·rename_i args hargs
   split at hk <;> rename_i hc <;> try (cases hk; done)
   all_goals
    rw [hc] at hr
    simp only at hr
   ·split at hr
    ·obtain ⟨v, h1, rfl⟩ := Option.dM hr; exact ⟨v, rfl⟩
    ·cases hr
   ·obtain ⟨v, h1, rfl⟩ := Option.dM hr; exact ⟨v, rfl⟩
   ·obtain ⟨v, h1, rfl⟩ := Option.dM hr; exact ⟨v, rfl⟩


def aJe (P : Program) (ρ : Ren) (a : Act) (o : Oper) (v : Value) (id : Nat) (obj : dS) : Prop :=
 (∃ cs cs' t, obj = .cells false cs ∧ bP ρ cs cs'.toList ∧ ∃ mk : Nat → Value, (∀ w : World, (execOp a.eval o).run P w = .ok (.value (mk w.heap.size)) (w.alloc (.cells cs' t))) ∧
  ∀ (ρ' : Ren) (b : Nat), ρ.le ρ' → ρ' id = some (b, 0, cs'.size) → bA ρ' v (mk b)) ∨
 (obj = .map [] ∧ (∀ w : World, (execOp a.eval o).run P w = .ok (.value (.map (some w.heap.size))) (w.alloc (.map #[] 0))) ∧ v = .map (some id))

theorem aFj {ρ : Ren} {H : aA} {w : World} {a : Act} {env : Env} {o : Oper} {h : aA} {r : mF} (R : Rel G B w0 ρ H w) (he : mV ρ env a) (hk : kindOf P o.op = .alloc) (hr : c6 P G env o h = some r) :
  ∃ v obj, r = .val v (h.alloc obj) ∧ aJe P ρ a o v h.next obj := by
 unfold c6 at hr
 cases hop : o.op <;> rw [hop] at hk hr <;> simp only [kindOf] at hk <;> simp only at hr <;> first
  | (cases hk; done)
  | (split at hk <;> cases hk; done)
  | skip
 case alloc e =>
  obtain ⟨z, hz, rfl⟩ := Option.dM hr
  have hzc : bA ρ z z := (dW (ρ := ρ) hz w).2
  refine ⟨_, _, rfl, .inl ⟨_, z.cells, e, rfl, hzc.cells, fun b => .pointer (some ⟨b, 0, none⟩), fun w1 => ?_, fun ρ' b hl hi => ?_⟩⟩
  ·have h1 := (dW (P := P) (ρ := ρ) hz w1).1
   simp [execOp, hop, Instr.alloc, h1, newVar, newRow]
  ·have := bA.ptr (off := 0) hi; simpa using this
 case box e x =>
  obtain ⟨v, hx, rfl⟩ := Option.dM hr
  have hv := aX R he hx
  refine ⟨_, _, rfl, .inl ⟨_, (a.eval x).cells, e, rfl, hv.cells, fun b => .pointer (some ⟨b, 0, none⟩), fun w1 => ?_, fun ρ' b hl hi => ?_⟩⟩
  ·simp [execOp, hop, Instr.box, newVar, newRow]
  ·have := bA.ptr (off := 0) hi; simpa using this
 case buildSlice t len parts =>
  split at hr
  ·rename_i ps hps
   obtain ⟨x, hb, rfl⟩ := Option.dM hr
   obtain ⟨v, h'⟩ := x
   have hp := iM R he hps
   have e1 : (parts.map fun (i, x) => (i, a.eval x)) = (parts.toList.map fun (i, x) => (i, a.eval x)).toArray := by apply Array.ext'; rw [Array.toList_map]
   obtain ⟨n, cs, cs', e, rfl, rfl, h2, hsz, hrun⟩ := nM hb hp
   refine ⟨_, _, rfl, .inl ⟨cs, cs', e, rfl, h2, fun b => .slice (some ⟨b, 0, none⟩) len len, fun w1 => ?_, fun ρ' b hl hi => ?_⟩⟩
   ·simp only [execOp, hop]
    rw [e1]
    have := hrun w1
    simp at this
    simp [this]
   ·exact .slice (Nat.le_refl _) (.inr ⟨0, cs'.size, hi, by simp, by omega⟩)
  ·cases hr
 case makeMap t res =>
  cases res with
  | some q => cases hr
  | none =>
   cases hr
   exact ⟨_, _, rfl, .inr ⟨rfl, fun w1 => by simp [execOp, hop, Instr.makeMap], rfl⟩⟩
 case makeSlice t l c =>
  split at hr
  ·rename_i lv cv hl hc
   obtain ⟨x, hb, rfl⟩ := Option.dM hr
   obtain ⟨v, h'⟩ := x
   obtain ⟨n, len, cap, cs, cs', e, rfl, rfl, hle, h2, hsz, hrun⟩ := o6 hb (aX R he hl) (aX R he hc)
   refine ⟨_, _, rfl, .inl ⟨cs, cs', e, rfl, h2, fun b => .slice (some ⟨b, 0, none⟩) len cap, fun w1 => ?_, fun ρ' b hl hi => ?_⟩⟩
   ·simp [execOp, hop, hrun w1]
   ·exact .slice hle (.inr ⟨0, cs'.size, hi, by simp, by omega⟩)
  ·cases hr

end
end Go.Am
end

section
namespace Go.Am
open Go.RowKit (Below)

structure cQ where
 i : Nat
 kind : aLl
 iA : Nat
 deriving DecidableEq

def pW (seen : List cQ) : List Edge → Option Nat
 | [] => some 0
 | e :: es => if Region.binds .any e then
   match seen.find? (·.i == e.on), pW seen es with
   | some y, some r => some ((2 ^ e.on ||| y.iA) ||| r)
   | _, _ => none
  else pW seen es

def iY (ops : Array Oper) (x y : Oper) : Bool :=
 (match x.dst with | some d => (y.looksAt ops).contains d | none => false) || (match y.dst with | some d => (x.looksAt ops).contains d | none => false)

def aC6 (P : Program) (ops : Array Oper) (seen : List cQ) (x : cQ) : Bool :=
 match ops[x.i]? with
 | none => false
 | some o => kindOf P o.op == x.kind && pW seen o.after.toList == some x.iA &&
   seen.all fun y => y.i != x.i && match ops[y.i]? with
    | none => false
    | some oy => (!(y.kind == .aF || iY ops oy o) || x.iA.testBit y.i) && (o.dst.isNone || oy.dst != o.dst)

def iV (P : Program) (ops : Array Oper) : List cQ → List cQ → Bool
 | _, [] => true
 | seen, x :: rest => aC6 P ops seen x && iV P ops (x :: seen) rest

def aNj (P : Program) (ops : Array Oper) (seen : List cQ) : Option cQ :=
 let free (i : Nat) : Option cQ := match ops[i]? with
  | none => none
  | some o => if seen.any (·.i == i) then none else (pW seen o.after.toList).map fun m => ⟨i, kindOf P o.op, m⟩
 let all := (List.range ops.size).filterMap free
 match all.find? (·.kind != .aF) with
 | some x => some x
 | none => all.head?

def wV (P : Program) (ops : Array Oper) : Nat → List cQ → List cQ
 | 0, seen => seen.reverse
 | k + 1, seen => match aNj P ops seen with
  | some x => wV P ops k (x :: seen)
  | none => seen.reverse

def aK0 (P : Program) (ops : Array Oper) : Option (List cQ) :=
 let l := wV P ops ops.size []
 if l.length = ops.size && iV P ops [] l then some l else none

structure gD where
 x : cQ
 o : Oper
 env : Env
 h : aA
 h1 : aA
 v : Value
 w : Bool

def gD.y2 (P : Program) (G : Nat) (p : gD) (H : aA) : Prop :=
 p.w = true → match p.x.kind with
  | .read => c6 P G p.env p.o H = some (.val p.v H)
  | .alloc => H.obj p.h.next = p.h1.obj p.h.next
  | _ => True

def fQ (P : Program) (G n : Nat) (ops : Array Oper) (x : cQ) (o : Oper) (env : Env) (h : aA) : Option (gD × Env × aA) :=
 match dG ops env o with
 | none => none
 | some false => (gE n o.dst undef env).map fun e => (⟨x, o, env, h, h, undef, false⟩, e, h)
 | some true => match c6 P G env o h with
  | some (.val v h') => (gE n o.dst v env).map fun e => (⟨x, o, env, h, h', v, true⟩, e, h')
  | _ => none

def pM (l : List (gD × Bool)) : List (gD × Bool) := l.map fun p => (p.1, true)

def Clear (P : Program) (G : Nat) (pend : List (gD × Bool)) (H : aA) : Prop := ∀ p ∈ pend, p.2 = true → p.1.y2 P G H

open Classical in
noncomputable def fE (P : Program) (G : Nat) (C : bK) (n : Nat) (ops : Array Oper) : List cQ → List (gD × Bool) → Env → aA → Option jZ
 | [], pend, env, h => if Clear P G pend h then some (.ok env h) else none
 | x :: rest, pend, env, h => match ops[x.i]? with
  | none => none
  | some o => match x.kind with
   | .aF => if Clear P G pend h then match jD P G C n ops o env h with
     | some (.ok env' h') => fE P G C n ops rest (pM (pend.filter fun p => !x.iA.testBit p.1.x.i)) env' h'
     | r => r
    else none
   | .pure => match fQ P G n ops x o env h with
    | some (_, e, h') => fE P G C n ops rest pend e h'
    | none => none
   | .read => match fQ P G n ops x o env h with
    | some (p, e, h') => fE P G C n ops rest (pend ++ [(p, false)]) e h'
    | none => none
   | .alloc => match fQ P G n ops x o env h with
    | some (p, e, h') => fE P G C n ops rest (pM pend ++ [(p, false)]) e h'
    | none => none

noncomputable def aAv (P : Program) (G : Nat) (C : bK) (n : Nat) (ops : Array Oper) (env : Env) (h : aA) : Option jZ :=
 match aK0 P ops with
 | some l => fE P G C n ops l [] env h
 | none => none

inductive Anc (ops : Array Oper) : Nat → Nat → Prop
 | one {i : Nat} {o : Oper} {e : Edge} : ops[i]? = some o → e ∈ o.after.toList → Region.binds .any e = true → Anc ops i e.on
 | more {i j : Nat} {o : Oper} {e : Edge} : ops[i]? = some o → e ∈ o.after.toList → Region.binds .any e = true → Anc ops e.on j → Anc ops i j

theorem iS {ops : Array Oper} {seen : List cQ} (hs : ∀ y ∈ seen, ∀ j, y.iA.testBit j = true → Anc ops y.i j) {i : Nat} {o : Oper} (ho : ops[i]? = some o) :
  ∀ {es : List Edge} {m : Nat}, (∀ e ∈ es, e ∈ o.after.toList) → pW seen es = some m → (∀ j, m.testBit j = true → Anc ops i j) ∧ ∀ e ∈ es, Region.binds .any e = true → ∃ y ∈ seen, y.i = e.on
 | [], m, _, hm => by simp [pW] at hm; subst hm; exact ⟨fun j hj => by simp at hj, by simp⟩
 | e :: es, m, hin, hm => by
  unfold pW at hm
  split at hm
  ·rename_i hb
   split at hm
   ·rename_i y r hy hr
    cases hm
    obtain ⟨h1, h2⟩ := iS hs ho (fun e' he' => hin e' (by simp [he'])) hr
    have hye : y.i = e.on := by have := List.find?_some hy; simpa using this
    have hymem := List.mem_of_find?_eq_some hy
    refine ⟨fun j hj => ?_, fun e' he' hb' => ?_⟩
    ·rw [Nat.testBit_or, Nat.testBit_or] at hj
     simp only [Bool.or_eq_true] at hj
     rcases hj with (hj | hj) | hj
     ·rw [Nat.testBit_two_pow] at hj
      have : e.on = j := by simpa using hj
      subst this
      exact .one ho (hin e (by simp)) hb
     ·have := hs y hymem j hj
      rw [hye] at this
      exact .more ho (hin e (by simp)) hb this
     ·exact h1 j hj
    ·simp only [List.mem_cons] at he'
     rcases he' with rfl | he'
     ·exact ⟨y, hymem, hye⟩
     ·exact h2 e' he' hb'
   ·cases hm
  ·rename_i hb
   obtain ⟨h1, h2⟩ := iS hs ho (fun e' he' => hin e' (by simp [he'])) hm
   refine ⟨h1, fun e' he' hb' => ?_⟩
   simp only [List.mem_cons] at he'
   rcases he' with rfl | he'
   ·exact (hb hb').elim
   ·exact h2 e' he' hb'

def aDw (ops : Array Oper) (S : Array Bool) : Prop := ∀ i o, ops[i]? = some o → S.getD i true = true → ∀ e ∈ o.after.toList, Region.binds .any e = true → S.getD e.on false = true

def u6 (ops : Array Oper) (S : Array Bool) (i : Nat) : Prop := ∀ o, ops[i]? = some o → ∀ e ∈ o.after.toList, Region.binds .any e = true → S.getD e.on false = true

theorem iR {S : Array Bool} {i : Nat} (h : S.getD i false = true) : S.getD i true = true ∧ i < S.size := by
 rw [Array.getD_eq_getD_getElem?] at h ⊢
 cases hi : S[i]? with
 | none => rw [hi] at h; cases h
 | some b => rw [hi] at h; exact ⟨h, (Array.getElem?_eq_some_iff.1 hi).1⟩

theorem Anc.listed {ops : Array Oper} {S : Array Bool} (hc : aDw ops S) {i j : Nat} (h : Anc ops i j) : u6 ops S i → S.getD j false = true := by
 induction h with
 | one ho he hb => intro hp; exact hp _ ho _ he hb
 | more ho he hb _ ih =>
  intro hp
  have h1 := hp _ ho _ he hb
  exact ih fun o' ho' e' he' hb' => hc _ o' ho' (iR h1).1 e' he' hb'


section
variable {G B : Nat} {w0 : World} {P : Program} {n : Nat} {ops : Array Oper}

theorem Rel.aBl {ρ : Ren} {H : aA} {w : World} (R : Rel G B w0 ρ H w) {id b N : Nat} {o : dS} (hid : id < H.next) (hρ : ρ id = none) (ho : H.obj id = some o) {w' : World}
  (hb : Below w.heap.size w w') (hlt : w.heap.size < w'.heap.size) (hbs : b = w.heap.size) (hh : Holds (ρ.bL id (b, 0, N)) B w' b 0 N o) :
  Rel G B w0 (ρ.bL id (b, 0, N)) H w' := by
 subst hbs
 have R' := R.grow hb
 have hle : ρ.le (ρ.bL id (w.heap.size, 0, N)) := by
  intro i y hy
  unfold Ren.bL
  split
  ·rename_i e; subst e; rw [hρ] at hy; cases hy
  ·exact hy
 refine ⟨R'.below, R'.base, ?_, ?_, ?_, ?_, fun i t ht => by obtain ⟨b1, n1, h1, h2⟩ := R'.shp i t ht; exact ⟨b1, n1, hle _ _ h1, h2⟩⟩
 ·intro i b base m hi
  unfold Ren.bL at hi
  split at hi
  ·rename_i e; cases hi; exact ⟨by omega, hlt⟩
  ·exact R'.qT i b base m hi
 ·intro g hg
  obtain ⟨k, hk⟩ := R'.r8 g hg
  exact ⟨k, hle _ _ hk⟩
 ·intro i b base m oi hi hoi
  unfold Ren.bL at hi
  by_cases e : i = id
  ·simp only [e, if_true, Option.some.injEq, Prod.mk.injEq] at hi
   obtain ⟨rfl, rfl, rfl⟩ := hi
   rw [e, ho] at hoi
   cases hoi
   exact hh
  ·simp only [e, if_false] at hi
   exact (R'.live i b base m oi hi hoi).mono hle
 ·intro i j b1 base1 m1 b2 base2 m2 oi oj hij hi hj hoi hoj hr
  unfold Ren.bL at hi hj
  by_cases e : i = id
  ·have e' : j ≠ id := fun k => hij (e.trans k.symm)
   simp only [e, e', if_true, if_false, Option.some.injEq, Prod.mk.injEq] at hi hj
   obtain ⟨rfl, rfl, rfl⟩ := hi
   have := (R.qT j b2 base2 m2 hj).2
   omega
  ·simp only [e, if_false] at hi
   by_cases e' : j = id
   ·simp only [e', if_true, Option.some.injEq, Prod.mk.injEq] at hj
    obtain ⟨rfl, rfl, rfl⟩ := hj
    have := (R.qT i b1 base1 m1 hi).2
    omega
   ·simp only [e', if_false] at hj
    exact R'.inj i j b1 base1 m1 b2 base2 m2 oi oj hij hi hj hoi hoj hr

def aCl (ops : Array Oper) (i j : Nat) : Prop := ∀ o, ops[i]? = some o → ∀ e ∈ o.after.toList, Region.binds .any e = true → e.on ≠ j

structure gD.Ok (P : Program) (G n : Nat) (ops : Array Oper) (u : gD) : Prop where
 op : ops[u.x.i]? = some u.o
 kind : kindOf P u.o.op = u.x.kind
 aHr : u.x.kind ≠ .aF
 want : dG ops u.env u.o = some u.w
 run : u.w = true → c6 P G u.env u.o u.h = some (.val u.v u.h1)
 skip : u.w = false → u.v = undef ∧ u.h1 = u.h
 lt : ∀ d, u.o.dst = some d → d < n

structure Inv (P : Program) (G B : Nat) (w0 : World) (C : bK) (n : Nat) (ops : Array Oper) (r : jZ) (ρ0 : Ren) (h0 : aA) (ds : List Deferred)
  (done rest : List cQ) (U : List gD) (pend : List (gD × Bool)) (env : Env) (h : aA) (ρ : Ren) (S : Array Bool) (a : Act) (w : World) : Prop where
 run : fE P G C n ops rest pend env h = some r
 stat : iV P ops done rest = true
 iQ : ∀ y ∈ done, (∃ oy, ops[y.i]? = some oy ∧ kindOf P oy.op = y.kind) ∧ ∀ j, y.iA.testBit j = true → Anc ops y.i j
 cover : ∀ i, i < ops.size → (∃ y ∈ done, y.i = i) ∨ ∃ y ∈ rest, y.i = i
 gR : ∀ u ∈ U, u.x ∈ done ∧ u.Ok P G n ops
 size : S.size = ops.size
 listed : ∀ i, i < ops.size → (S.getD i true = true ↔ (∀ u ∈ U, u.x.i ≠ i) ∧ ∀ y ∈ rest, y.i ≠ i)
 closed : aDw ops S
 distinct : U.Pairwise fun u u' => u.x.i ≠ u'.x.i
 order : U.Pairwise fun u u' => aCl ops u.x.i u'.x.i
 self : ∀ u ∈ U, aCl ops u.x.i u.x.i
 oN : ∀ u ∈ U, ∀ y ∈ rest, aCl ops u.x.i y.i
 lY : a.tmps.size = n
 fr : ∀ d v, env d = some v → d < n ∧ ((∃ u ∈ U, u.o.dst = some d) ∨ bA ρ v (a.tmps.getD d undef))
 pv : ∀ u ∈ U, ∀ d, u.o.dst = some d → env d = some u.v
 zS : ∀ u ∈ U, ∀ d ∈ u.o.looksAt ops, (∃ u' ∈ U, u'.o.dst = some d ∧ u.x.iA.testBit u'.x.i = true ∧ u.env d = some u'.v) ∨
  ((∀ u' ∈ U, u'.x.i ≠ u.x.i → u'.o.dst = some d → u'.x.iA.testBit u.x.i = true) ∧ ∀ v, u.env d = some v → d < n ∧ bA ρ v (a.tmps.getD d undef))
 uniq : ∀ u ∈ U, ∀ u' ∈ U, u'.x.i ≠ u.x.i → ∀ d, u.o.dst = some d → u'.o.dst ≠ some d
 plt : ∀ u ∈ U, ∀ e ∈ u.o.after.toList, Region.binds .any e = true → e.on < ops.size
 rel : Rel G B w0 ρ h w
 oH : ∀ u ∈ U, (u.x.kind = .read ∨ u.x.kind = .alloc) → ∃ b, (u, b) ∈ pend
 clean : ∀ p ∈ pend, p.2 = false → h = p.1.h1
 pOk : ∀ p ∈ pend, p.1.Ok P G n ops
 made : ∀ u ∈ U, u.x.kind = .alloc → u.w = true → u.h.next < h.next ∧ ρ u.h.next = none ∧ h0.next ≤ u.h.next
 apart : U.Pairwise fun u u' => u.x.kind = .alloc → u.w = true → u'.x.kind = .alloc → u'.w = true → u.h.next ≠ u'.h.next
 ext : Ext ρ0 h0 ρ h
 defers : a.defers = ds

def vA : List cQ → Prop
 | [] => True
 | x :: _ => x.kind = .aF

theorem aAq {C : bK} {rest : List cQ} {pend : List (gD × Bool)} {env : Env} {h : aA} {r : jZ} (hb : vA rest) (hr : fE P G C n ops rest pend env h = some r) : Clear P G pend h := by
 cases rest with
 | nil =>
  simp only [fE] at hr
  split at hr
  ·assumption
  ·cases hr
 | cons x rest =>
  simp only [fE] at hr
  split at hr
  ·cases hr
  ·have hk : x.kind = .aF := hb
   rw [hk] at hr
   simp only at hr
   split at hr
   ·assumption
   ·cases hr

theorem gO {seen : List cQ} {x : cQ} (hs : aC6 P ops seen x = true) : ∃ o, ops[x.i]? = some o ∧ kindOf P o.op = x.kind ∧ pW seen o.after.toList = some x.iA ∧
  ∀ y ∈ seen, y.i ≠ x.i ∧ ∃ oy, ops[y.i]? = some oy ∧ ((y.kind = .aF ∨ iY ops oy o = true) → x.iA.testBit y.i = true) ∧ ∀ d, o.dst = some d → oy.dst ≠ some d := by
 unfold aC6 at hs
 split at hs
 ·cases hs
 ·rename_i o ho
  simp only [Bool.and_eq_true, beq_iff_eq, List.all_eq_true] at hs
  obtain ⟨⟨h1, h2⟩, h3⟩ := hs
  refine ⟨o, ho, h1, h2, fun y hy => ?_⟩
  have := h3 y hy
  simp only [bne_iff_ne, ne_eq] at this
  obtain ⟨h4, h5⟩ := this
  refine ⟨h4, ?_⟩
  split at h5
  ·cases h5
  ·rename_i oy hoy
   simp only [Bool.and_eq_true, Bool.or_eq_true, Bool.not_eq_true', bne_iff_ne, ne_eq] at h5
   obtain ⟨h6, h7⟩ := h5
   refine ⟨oy, hoy, fun hh => ?_, fun d hd hd' => ?_⟩
   ·rcases h6 with h6 | h6
    ·exfalso
     rcases hh with hh | hh
     ·rw [hh] at h6; simp at h6
     ·rw [hh] at h6; simp at h6
    ·exact h6
   ·rcases h7 with h7 | h7
    ·rw [hd] at h7; cases h7
    ·exact h7 (by rw [hd', hd])

theorem eP : ∀ {rest seen : List cQ}, iV P ops seen rest = true → ∀ y ∈ rest, ∀ z ∈ seen, z.i ≠ y.i
 | [], _, _, y, hy, _, _ => by simp at hy
 | x :: rest, seen, hp, y, hy, z, hz => by
  simp only [iV, Bool.and_eq_true] at hp
  simp only [List.mem_cons] at hy
  rcases hy with rfl | hy
  ·obtain ⟨o, _, _, _, h⟩ := gO hp.1
   exact (h z hz).1
  ·exact eP hp.2 y hy z (by simp [hz])

end
end Go.Am
end

section
namespace Go.Am
open Go.RowKit (Below)

section
variable {G B : Nat} {w0 : World} {P : Program} {n : Nat} {ops : Array Oper}

theorem Rel.aJ4 {ρ : Ren} {h : aA} {w : World} (R : Rel G B w0 ρ h w) (o : dS) : Rel G B w0 ρ (h.alloc o) w where
 below := R.below
 base := R.base
 qT i b base n hi := ⟨by have := (R.qT i b base n hi).1; simp; omega, (R.qT i b base n hi).2⟩
 r8 := R.r8
 live i b base n oi hi ho := by
  rw [aA.iX, if_neg (by have := (R.qT i b base n hi).1; omega)] at ho
  exact R.live i b base n oi hi ho
 inj i j b base n b' base' n' oi oj hne hi hj hoi hoj hr := by
  rw [aA.iX, if_neg (by have := (R.qT i b base n hi).1; omega)] at hoi
  rw [aA.iX, if_neg (by have := (R.qT j b' base' n' hj).1; omega)] at hoj
  exact R.inj i j b base n b' base' n' oi oj hne hi hj hoi hoj hr
 shp i t ht := by
  unfold aA.alloc at ht
  simp only at ht
  split at ht
  ·cases ht
  ·exact R.shp i t ht

theorem pZ {dst : Option Tmp} {v : Value} {env env' : Env} (hp : gE n dst v env = some env') :
  (∀ d, dst = some d → d < n ∧ env' d = some v) ∧ ∀ d, dst ≠ some d → env' d = env d := by
 unfold gE at hp
 split at hp
 ·cases hp; exact ⟨(fun d hd => by cases hd), fun d _ => rfl⟩
 ·rename_i d
  split at hp
  ·rename_i hd
   cases hp
   refine ⟨fun d' hd' => ?_, fun d' hd' => ?_⟩
   ·cases hd'; exact ⟨hd, by simp⟩
   ·have : d' ≠ d := fun e => hd' (by rw [e])
    simp [this]
  ·cases hp

theorem zM {x : cQ} {o : Oper} {env e : Env} {h h' : aA} {p : gD} (ho : ops[x.i]? = some o) (hk : kindOf P o.op = x.kind) (hx : x.kind ≠ .aF) (hl : fQ P G n ops x o env h = some (p, e, h')) :
  p.x = x ∧ p.o = o ∧ p.env = env ∧ p.h = h ∧ p.h1 = h' ∧ gE n o.dst p.v env = some e ∧ p.Ok P G n ops ∧
   ((h' = h ∧ (x.kind = .alloc → p.w = false)) ∨ (x.kind = .alloc ∧ ∃ v obj, h' = h.alloc obj ∧ p.w = true ∧ c6 P G env o h = some (.val v (h.alloc obj)))) := by
 unfold fQ at hl
 split at hl
 ·cases hl
 ·rename_i hw
  cases hp : gE n o.dst undef env with
  | none => simp [hp] at hl
  | some e' =>
   simp only [hp, Option.map_some, Option.some.injEq, Prod.mk.injEq] at hl
   obtain ⟨rfl, rfl, rfl⟩ := hl
   exact ⟨rfl, rfl, rfl, rfl, rfl, hp, ⟨ho, hk, hx, hw, (fun h => by cases h), (fun _ => ⟨rfl, rfl⟩), fun d hd => ((pZ hp).1 d hd).1⟩, .inl ⟨rfl, fun _ => rfl⟩⟩
 ·rename_i hw
  split at hl
  ·rename_i v h2 hop
   cases hp : gE n o.dst v env with
   | none => simp [hp] at hl
   | some e' =>
    simp only [hp, Option.map_some, Option.some.injEq, Prod.mk.injEq] at hl
    obtain ⟨rfl, rfl, rfl⟩ := hl
    refine ⟨rfl, rfl, rfl, rfl, rfl, hp, ⟨ho, hk, hx, hw, (fun _ => hop), (fun h => by cases h), fun d hd => ((pZ hp).1 d hd).1⟩, ?_⟩
    cases hkx : x.kind with
    | aF => exact absurd hkx hx
    | pure =>
     obtain ⟨v', e1, _⟩ := aBs (hk.trans hkx) hop
     cases e1
     exact .inl ⟨rfl, fun h => by cases h⟩
    | read =>
     obtain ⟨v', e1⟩ := aBt (hk.trans hkx) hop
     cases e1
     exact .inl ⟨rfl, fun h => by cases h⟩
    | alloc =>
     have hform : ∃ obj, h2 = h.alloc obj := by
      -- the form of what is made
      have hk2 := hk.trans hkx
      unfold c6 at hop
      cases hoo : o.op <;> rw [hoo] at hk2 hop <;> simp only [kindOf] at hk2 <;> simp only at hop <;> first
       | (cases hk2; done)
       | (split at hk2 <;> cases hk2; done)
       | skip
      case alloc e =>
       obtain ⟨z, hz, e1⟩ := Option.dM hop; cases e1; exact ⟨_, rfl⟩
      case box e y =>
       obtain ⟨z, hz, e1⟩ := Option.dM hop; cases e1; exact ⟨_, rfl⟩
      case buildSlice t len parts =>
       split at hop
       ·obtain ⟨z, hz, e1⟩ := Option.dM hop
        obtain ⟨z, hh⟩ := z
        cases e1
        unfold fD at hz
        split at hz
        ·split at hz
         ·split at hz
          ·obtain ⟨cs, hcs, e2⟩ := (by
            rename_i n0 z0 _ _ _
            cases hfa : jA (fun i => some (i * n0, n0)) (fN z0 len) _ with
            | none => rw [hfa] at hz; cases hz
            | some cs => rw [hfa] at hz; simp only [Option.map_some, Option.some.injEq, Prod.mk.injEq] at hz; exact ⟨cs, trivial, hz.2⟩ : ∃ cs, True ∧ h.alloc (.cells false cs) = hh)
           exact ⟨_, e2.symm⟩
          ·cases hz
         ·cases hz
        ·cases hz
       ·cases hop
      case makeMap t res =>
       cases res with
       | some q => cases hop
       | none => cases hop; exact ⟨_, rfl⟩
      case makeSlice t l c =>
       split at hop
       ·obtain ⟨z, hz, e1⟩ := Option.dM hop
        obtain ⟨z, hh⟩ := z
        cases e1
        unfold gP at hz
        split at hz
        ·split at hz
         ·split at hz
          ·cases hz; exact ⟨_, rfl⟩
          ·cases hz
         ·cases hz
        ·cases hz
       ·cases hop
     obtain ⟨obj, rfl⟩ := hform
     exact .inr ⟨rfl, v, obj, rfl, rfl, hop⟩
  ·cases hl

theorem Pairwise.snoc {α : Type} {R : α → α → Prop} {l : List α} {x : α} (h : l.Pairwise R) (hx : ∀ y ∈ l, R y x) : (l ++ [x]).Pairwise R := by
 rw [List.pairwise_append]
 exact ⟨h, by simp, fun y hy z hz => by simp at hz; subst hz; exact hx y hy⟩

variable {C : bK} {r : jZ} {ρ0 : Ren} {h0 : aA} {ds : List Deferred} {done rest : List cQ} {U : List gD} {pend : List (gD × Bool)} {env : Env} {h : aA} {ρ : Ren} {S : Array Bool} {a : Act} {w : World}

theorem Inv.advance {x : cQ} (I : Inv P G B w0 C n ops r ρ0 h0 ds done (x :: rest) U pend env h ρ S a w) (hx : x.kind ≠ .aF) :
  ∃ p pend' env' h', Inv P G B w0 C n ops r ρ0 h0 ds (x :: done) rest (U ++ [p]) pend' env' h' ρ S a w := by
 have hst := I.stat
 simp only [iV, Bool.and_eq_true] at hst
 obtain ⟨hitem, hst⟩ := hst
 obtain ⟨o, ho, hk, hmask, hseen⟩ := gO hitem
 obtain ⟨hanc, hpreds⟩ := iS (fun y hy => (I.iQ y hy).2) ho (fun e he => he) hmask
 have hrun := I.run
 simp only [fE, ho] at hrun
 -- the step, whatever its kind
 have key : ∃ p env' h' pend', fQ P G n ops x o env h = some (p, env', h') ∧ fE P G C n ops rest pend' env' h' = some r ∧
   ((x.kind ≠ .alloc ∧ (pend' = pend ∨ pend' = pend ++ [(p, false)]) ∧ (x.kind = .read → pend' = pend ++ [(p, false)])) ∨ (x.kind = .alloc ∧ pend' = pM pend ++ [(p, false)])) := by
  cases hkx : x.kind with
  | aF => exact absurd hkx hx
  | pure =>
   rw [hkx] at hrun; simp only at hrun
   split at hrun
   ·rename_i p e h' hl; exact ⟨p, e, h', pend, hl, hrun, .inl ⟨by simp, .inl rfl, by simp⟩⟩
   ·cases hrun
  | read =>
   rw [hkx] at hrun; simp only at hrun
   split at hrun
   ·rename_i p e h' hl; exact ⟨p, e, h', _, hl, hrun, .inl ⟨by simp, .inr rfl, fun _ => rfl⟩⟩
   ·cases hrun
  | alloc =>
   rw [hkx] at hrun; simp only at hrun
   split at hrun
   ·rename_i p e h' hl; exact ⟨p, e, h', _, hl, hrun, .inr ⟨rfl, rfl⟩⟩
   ·cases hrun
 obtain ⟨p, env', h', pend', hl, hrun', hpend⟩ := key
 obtain ⟨hpx, hpo, hpe, hph, hph1, hput, hpok, hheap⟩ := zM ho hk hx hl
 obtain ⟨hg1, hg2⟩ := pZ hput
 have hnext : h.next ≤ h'.next := by
  rcases hheap with ⟨rfl, _⟩ | ⟨_, v, obj, rfl, _⟩
  ·exact Nat.le_refl _
  ·simp
 have hR : Rel G B w0 ρ h' w := by
  rcases hheap with ⟨rfl, _⟩ | ⟨_, v, obj, rfl, _⟩
  ·exact I.rel
  ·exact I.rel.aJ4 obj
 have hinU : ∀ u ∈ U ++ [p], u ∈ U ∨ u = p := fun u hu => by simpa using hu
 have hdd : ∀ u ∈ U, ∀ d, o.dst = some d → u.o.dst ≠ some d := fun u hu d hd => by
  obtain ⟨hud, huok⟩ := I.gR u hu
  obtain ⟨_, oy, hoy, _, hne⟩ := hseen u.x hud
  rw [huok.op] at hoy; cases hoy
  exact hne d hd
 refine ⟨p, pend', env', h', ?_⟩
 constructor
 case run => exact hrun'
 case stat => exact hst
 case iQ =>
  intro y hy
  simp only [List.mem_cons] at hy
  rcases hy with rfl | hy
  ·exact ⟨⟨o, ho, hk⟩, hanc⟩
  ·exact I.iQ y hy
 case cover =>
  intro i hi
  rcases I.cover i hi with ⟨y, hy, e⟩ | ⟨y, hy, e⟩
  ·exact .inl ⟨y, by simp [hy], e⟩
  ·simp only [List.mem_cons] at hy
   rcases hy with rfl | hy
   ·exact .inl ⟨_, by simp, e⟩
   ·exact .inr ⟨y, hy, e⟩
 case gR =>
  intro u hu
  rcases hinU u hu with hu | rfl
  ·exact ⟨by simp [(I.gR u hu).1], (I.gR u hu).2⟩
  ·exact ⟨by simp [hpx], hpok⟩
 case size => exact I.size
 case listed =>
  intro i hi
  rw [I.listed i hi]
  constructor
  ·rintro ⟨h1, h2⟩
   refine ⟨fun u hu => ?_, fun y hy => h2 y (by simp [hy])⟩
   rcases hinU u hu with hu | rfl
   ·exact h1 u hu
   ·rw [hpx]; exact h2 x (by simp)
  ·rintro ⟨h1, h2⟩
   refine ⟨fun u hu => h1 u (by simp [hu]), fun y hy => ?_⟩
   simp only [List.mem_cons] at hy
   rcases hy with rfl | hy
   ·have := h1 p (by simp); rwa [hpx] at this
   ·exact h2 y hy
 case closed => exact I.closed
 case distinct =>
  refine Pairwise.snoc I.distinct fun u hu => ?_
  rw [hpx]
  exact (hseen u.x (I.gR u hu).1).1
 case order =>
  refine Pairwise.snoc I.order fun u hu => ?_
  rw [hpx]
  exact I.oN u hu x (by simp)
 case self =>
  intro u hu
  rcases hinU u hu with hu | rfl
  ·exact I.self u hu
  ·intro o' ho' e he hb hon
   rw [hpx] at ho'
   rw [ho] at ho'
   cases ho'
   obtain ⟨y, hy, hye⟩ := hpreds e he hb
   have := (hseen y hy).1
   rw [hpx] at hon
   omega
 case oN =>
  intro u hu y hy
  rcases hinU u hu with hu | rfl
  ·exact I.oN u hu y (by simp [hy])
  ·intro o' ho' e he hb hon
   rw [hpx] at ho'
   rw [ho] at ho'
   cases ho'
   obtain ⟨z, hz, hze⟩ := hpreds e he hb
   have := eP hst y hy z (by simp [hz])
   omega
 case lY => exact I.lY
 case fr =>
  intro d v hd
  by_cases hdst : o.dst = some d
  ·exact ⟨(hg1 d hdst).1, .inl ⟨p, by simp, by rw [hpo]; exact hdst⟩⟩
  ·rw [hg2 d hdst] at hd
   obtain ⟨h1, h2⟩ := I.fr d v hd
   refine ⟨h1, h2.imp (fun ⟨u, hu, e⟩ => ⟨u, by simp [hu], e⟩) id⟩
 case pv =>
  intro u hu d hd
  rcases hinU u hu with hu | rfl
  ·rw [hg2 d (fun e => hdd u hu d e hd)]
   exact I.pv u hu d hd
  ·rw [hpo] at hd
   exact (hg1 d hd).2
 case zS =>
  intro u hu0 d hd
  rcases hinU u hu0 with hu | rfl
  ·rcases I.zS u hu d hd with ⟨u', hu', h1, h2, h3⟩ | h1
   ·exact .inl ⟨u', by simp [hu'], h1, h2, h3⟩
   ·refine .inr ⟨fun u' hu' hne hd' => ?_, h1.2⟩
    rcases hinU u' hu' with hu' | rfl
    ·exact h1.1 u' hu' hne hd'
    ·obtain ⟨hud, huok⟩ := I.gR u hu
     obtain ⟨_, oy, hoy, hc, _⟩ := hseen u.x hud
     rw [huok.op] at hoy; cases hoy
     rw [hpx]
     refine hc (.inr ?_)
     rw [hpo] at hd'
     simp only [iY, hd', Bool.or_eq_true]
     exact .inr (by simpa using hd)
  ·rw [hpo] at hd
   by_cases hex : ∃ u' ∈ U, u'.o.dst = some d
   ·obtain ⟨u', hu', hd'⟩ := hex
    refine .inl ⟨u', by simp [hu'], hd', ?_, ?_⟩
    ·obtain ⟨hud, huok⟩ := I.gR u' hu'
     obtain ⟨_, oy, hoy, hc, _⟩ := hseen u'.x hud
     rw [huok.op] at hoy; cases hoy
     rw [hpx]
     refine hc (.inr ?_)
     simp only [iY, hd', Bool.or_eq_true]
     exact .inl (by simpa using hd)
    ·rw [hpe]; exact I.pv u' hu' d hd'
   ·refine .inr ⟨fun u' hu' hne hd' => ?_, fun v hv => ?_⟩
    ·rcases hinU u' hu' with hu' | rfl
     ·exact absurd ⟨u', hu', hd'⟩ hex
     ·exact absurd rfl hne
    rw [hpe] at hv
    obtain ⟨h1, h2⟩ := I.fr d v hv
    exact ⟨h1, h2.resolve_left fun ⟨u', hu', hd'⟩ => hex ⟨u', hu', hd'⟩⟩
 case uniq =>
  intro u hu0 u' hu0' hne d hd hd'
  rcases hinU u hu0 with hu | rfl
  ·rcases hinU u' hu0' with hu' | rfl
   ·exact I.uniq u hu u' hu' hne d hd hd'
   ·rw [hpo] at hd'
    exact hdd u hu d hd' hd
  ·rcases hinU u' hu0' with hu' | rfl
   ·rw [hpo] at hd
    exact hdd u' hu' d hd hd'
   ·exact hne rfl
 case plt =>
  intro u hu e he hb
  rcases hinU u hu with hu | rfl
  ·exact I.plt u hu e he hb
  ·rw [hpo] at he
   obtain ⟨y, hy, hye⟩ := hpreds e he hb
   obtain ⟨⟨oy, hoy, _⟩, _⟩ := I.iQ y hy
   rw [← hye]
   exact (Array.getElem?_eq_some_iff.1 hoy).1
 case rel => exact hR
 case oH =>
  intro u hu hkk
  rcases hinU u hu with hu | rfl
  ·obtain ⟨b, hb⟩ := I.oH u hu hkk
   rcases hpend with ⟨_, hp, _⟩ | ⟨_, rfl⟩
   ·rcases hp with rfl | rfl
    ·exact ⟨b, hb⟩
    ·exact ⟨b, by simp [hb]⟩
   ·exact ⟨true, by simp only [pM, List.mem_append, List.mem_map]; exact .inl ⟨_, hb, rfl⟩⟩
  ·rw [hpx] at hkk
   rcases hpend with ⟨hna, _, hread⟩ | ⟨_, rfl⟩
   ·rcases hkk with hkk | hkk
    ·rw [hread hkk]; exact ⟨false, by simp⟩
    ·exact absurd hkk hna
   ·exact ⟨false, by simp⟩
 case clean =>
  intro q hq hf
  rcases hpend with ⟨hna, hp, _⟩ | ⟨_, rfl⟩
  ·have hsame : h' = h := by
    rcases hheap with ⟨e, _⟩ | ⟨e, _⟩
    ·exact e
    ·exact absurd e hna
   have : q ∈ pend ∨ q = (p, false) := by
    rcases hp with rfl | rfl
    ·exact .inl hq
    ·simpa using hq
   rcases this with hq | rfl
   ·rw [hsame]; exact I.clean q hq hf
   ·exact hph1.symm
  ·simp only [pM, List.mem_append, List.mem_map, List.mem_singleton] at hq
   rcases hq with ⟨q', _, rfl⟩ | rfl
   ·cases hf
   ·exact hph1.symm
 case pOk =>
  intro q hq
  have : (∃ q' ∈ pend, q.1 = q'.1) ∨ q.1 = p := by
   rcases hpend with ⟨_, hp, _⟩ | ⟨_, rfl⟩
   ·rcases hp with rfl | rfl
    ·exact .inl ⟨q, hq, rfl⟩
    ·simp only [List.mem_append, List.mem_singleton] at hq
     rcases hq with hq | rfl
     ·exact .inl ⟨q, hq, rfl⟩
     ·exact .inr rfl
   ·simp only [pM, List.mem_append, List.mem_map, List.mem_singleton] at hq
    rcases hq with ⟨q', hq', rfl⟩ | rfl
    ·exact .inl ⟨q', hq', rfl⟩
    ·exact .inr rfl
  rcases this with ⟨q', hq', e⟩ | e
  ·rw [e]; exact I.pOk q' hq'
  ·rw [e]; exact hpok
 case made =>
  intro u hu hka hw
  rcases hinU u hu with hu | rfl
  ·obtain ⟨h1, h2⟩ := I.made u hu hka hw
   exact ⟨by omega, h2⟩
  ·have h0n := I.ext.1
   rw [hpx] at hka
   rcases hheap with ⟨_, e⟩ | ⟨_, v, obj, e, _, _⟩
   ·rw [e hka] at hw; cases hw
   ·rw [hph, e]
    refine ⟨by simp, ?_, h0n⟩
    cases hq : ρ h.next with
    | none => rfl
    | some q => have := (I.rel.qT _ _ _ _ hq).1; omega
 case apart =>
  refine Pairwise.snoc I.apart fun u hu hka hw _ _ => ?_
  have := (I.made u hu hka hw).1
  rw [hph]; omega
 case ext => exact ⟨Nat.le_trans I.ext.1 hnext, I.ext.2⟩
 case defers => exact I.defers

theorem Inv.bound : ∀ (rest : List cQ) {done : List cQ} {U : List gD} {pend : List (gD × Bool)} {env : Env} {h : aA}, Inv P G B w0 C n ops r ρ0 h0 ds done rest U pend env h ρ S a w →
  ∃ done' rest' U' pend' env' h', vA rest' ∧ U'.length + rest'.length = U.length + rest.length ∧ Inv P G B w0 C n ops r ρ0 h0 ds done' rest' U' pend' env' h' ρ S a w
 | [], done, U, pend, env, h, I => ⟨done, [], U, pend, env, h, trivial, rfl, I⟩
 | x :: rest, done, U, pend, env, h, I => by
  by_cases hx : x.kind = .aF
  ·exact ⟨done, x :: rest, U, pend, env, h, hx, rfl, I⟩
  ·obtain ⟨p, pend', env', h', I'⟩ := I.advance hx
   obtain ⟨d, r', U', pe, e, hh, hb, hlen, I2⟩ := Inv.bound rest I'
   exact ⟨d, r', U', pe, e, hh, hb, by rw [hlen]; simp; omega, I2⟩


theorem yA {o : Oper} {t : Tmp} (h : Operand.tmp t ∈ o.op.operands) : t ∈ o.looksAt ops := by
 simp only [Oper.looksAt, List.mem_append, List.mem_filterMap]
 exact .inl ⟨.tmp t, by simpa using h, rfl⟩

theorem q8 {env env' : Env} {o : Oper} (he : ∀ d ∈ o.looksAt ops, env d = env' d) : dG ops env o = dG ops env' o := by
 unfold dG
 cases hg : o.guard with
 | none => rfl
 | some jw =>
  obtain ⟨j, want⟩ := jw
  simp only
  cases hd : (ops[j]?).bind (·.dst) with
  | none => rfl
  | some d =>
   have : d ∈ o.looksAt ops := by
    simp only [Oper.looksAt, List.mem_append]
    right
    simp [hg, hd]
   simp only [he d this]

theorem tR {env env' : Env} {o : Oper} {h : aA} (he : ∀ d ∈ o.looksAt ops, env d = env' d) : c6 P G env o h = c6 P G env' o h := by
 refine aFk fun x hx => ?_
 cases x with
 | tmp t => exact he t (yA hx)
 | _ => rfl

theorem aB2 {C : bK} {env env' : Env} {o : Oper} {h : aA} (he : ∀ d ∈ o.looksAt ops, env d = env' d) {r : jZ} (hs : jD P G C n ops o env h = some r) :
  (∃ v e h', r = .ok e h' ∧ gE n o.dst v env = some e ∧ ∃ e', gE n o.dst v env' = some e' ∧ jD P G C n ops o env' h = some (.ok e' h')) ∨
  (∃ ch h', r = .panic ch h' ∧ jD P G C n ops o env' h = some (.panic ch h')) := by
 have hput : ∀ {v : Value} {e : Env}, gE n o.dst v env = some e → ∃ e', gE n o.dst v env' = some e' := by
  intro v e hp
  unfold gE at hp ⊢
  cases hd : o.dst with
  | none => exact ⟨_, rfl⟩
  | some d =>
   rw [hd] at hp
   simp only at hp ⊢
   split at hp
   ·rename_i h; rw [if_pos h]; exact ⟨_, rfl⟩
   ·cases hp
 unfold jD at hs ⊢
 rw [← q8 he, ← tR he]
 split at hs
 ·cases hs
 ·rename_i hw
  cases hp : gE n o.dst undef env with
  | none => simp [hp] at hs
  | some e =>
   simp [hp] at hs; subst hs
   obtain ⟨e', he'⟩ := hput hp
   exact .inl ⟨undef, e, h, rfl, hp, e', he', by simp [he']⟩
 ·rename_i hw
  split at hs
  ·cases hs
  ·rename_i v h' ho
   cases hp : gE n o.dst v env with
   | none => simp [hp] at hs
   | some e =>
    simp [hp] at hs; subst hs
    obtain ⟨e', he'⟩ := hput hp
    exact .inl ⟨v, e, h', rfl, hp, e', he', by simp [he']⟩
  ·rename_i h' ho
   cases hp : gE n o.dst undef env with
   | none => simp [hp] at hs
   | some e =>
    simp [hp] at hs; subst hs
    obtain ⟨e', he'⟩ := hput hp
    exact .inl ⟨undef, e, h', rfl, hp, e', he', by simp [he']⟩
  ·rename_i f args ho
   split at hs
   ·cases hs
   ·rename_i v h' hc
    cases hp : gE n o.dst v env with
    | none => simp [hp] at hs
    | some e =>
     simp [hp] at hs; subst hs
     obtain ⟨e', he'⟩ := hput hp
     exact .inl ⟨v, e, h', rfl, hp, e', he', by simp [he']⟩
   ·rename_i ch h' hc
    cases hs
    exact .inr ⟨ch, h', rfl, by simp⟩
  ·rename_i v ho
   cases hs
   exact .inr ⟨_, h, rfl, by simp⟩

theorem w8 : ∀ {rest seen : List cQ}, iV P ops seen rest = true → (∀ y ∈ seen, ∀ j, y.iA.testBit j = true → Anc ops y.i j) → ∀ y ∈ rest, ∀ j, y.iA.testBit j = true → Anc ops y.i j
 | [], _, _, _, y, hy => by simp at hy
 | x :: rest, seen, hp, hs, y, hy => by
  simp only [iV, Bool.and_eq_true] at hp
  obtain ⟨o, ho, _, hm, _⟩ := gO hp.1
  have hx := (iS hs ho (fun e he => he) hm).1
  simp only [List.mem_cons] at hy
  rcases hy with rfl | hy
  ·exact hx
  ·refine w8 hp.2 (fun z hz => ?_) y hy
   simp only [List.mem_cons] at hz
   rcases hz with rfl | hz
   ·exact hx
   ·exact hs z hz

theorem sP : ∀ {rest seen : List cQ}, iV P ops seen rest = true → ∀ x ∈ seen, x.kind = .aF → ∀ y ∈ rest, y.iA.testBit x.i = true
 | [], _, _, x, _, _, y, hy => by simp at hy
 | z :: rest, seen, hp, x, hx, hk, y, hy => by
  simp only [iV, Bool.and_eq_true] at hp
  simp only [List.mem_cons] at hy
  rcases hy with rfl | hy
  ·obtain ⟨o, _, _, _, h⟩ := gO hp.1
   obtain ⟨_, oy, _, hc, _⟩ := h x hx
   exact hc (.inl hk)
  ·exact sP hp.2 x (by simp [hx]) hk y hy

theorem fM {S : Array Bool} {i j : Nat} {b : Bool} (hi : i < S.size) : (S.setIfInBounds i true).getD j b = if j = i then true else S.getD j b := by
 rw [Array.getD_eq_getD_getElem?, Array.getD_eq_getD_getElem?]
 by_cases e : j = i
 ·subst e
  rw [Array.getElem?_setIfInBounds_self_of_lt hi]; simp
 ·rw [Array.getElem?_setIfInBounds_ne (fun k => e k.symm), if_neg e]


variable {Q : Exit → Act → World → Prop}

structure aMh (G B : Nat) (w0 : World) (n : Nat) (r : jZ) (ρ0 : Ren) (h0 : aA) (ds : List Deferred) (Q : Exit → Act → World → Prop) : Prop where
 ok : ∀ env' h', r = .ok env' h' → ∀ ρ' a' w', Ext ρ0 h0 ρ' h' → Rel G B w0 ρ' h' w' → bU ρ' n env' a' → a'.defers = ds → Q .normal a' w'
 panic : ∀ ch h', r = .panic ch h' → ∀ ρ' ch' a' w', Ext ρ0 h0 ρ' h' → Rel G B w0 ρ' h' w' → lS ρ' ch ch' → a'.defers = ds → Q (.panic ch') a' w'

theorem mem_ready {i : Nat} : i ∈ Region.ready .any ops S ↔ i < ops.size ∧ S.getD i true = false ∧ ∃ o, ops[i]? = some o ∧ ∀ e ∈ o.after.toList, Region.binds .any e = true → S.getD e.on false = true := by
 unfold Region.ready
 simp only [List.mem_filter, List.mem_range, Bool.and_eq_true, Bool.not_eq_true']
 constructor
 ·rintro ⟨h1, h2, h3⟩
  refine ⟨h1, h2, ops[i], Array.getElem?_eq_getElem h1, fun e he hb => ?_⟩
  rw [Array.getElem?_eq_getElem h1] at h3
  simp only [Option.map_some, Option.getD_some] at h3
  rw [← Array.all_toList, List.all_eq_true] at h3
  have := h3 e he
  rw [hb] at this
  simpa using this
 ·rintro ⟨h1, h2, o, ho, h3⟩
  refine ⟨h1, h2, ?_⟩
  rw [ho]
  simp only [Option.map_some, Option.getD_some]
  rw [← Array.all_toList, List.all_eq_true]
  intro e he
  cases hb : Region.binds .any e with
  | false => rfl
  | true => simp [h3 e he hb]

theorem Inv.yW (I : Inv P G B w0 C n ops r ρ0 h0 ds done rest U pend env h ρ S a w) {i : Nat} (hi : i < ops.size) (hl : S.getD i true = false) : (∃ u ∈ U, u.x.i = i) ∨ ∃ y ∈ rest, y.i = i := by
 by_cases h1 : ∃ u ∈ U, u.x.i = i
 ·exact .inl h1
 ·by_cases h2 : ∃ y ∈ rest, y.i = i
  ·exact .inr h2
  ·have := (I.listed i hi).2 ⟨fun u hu e => h1 ⟨u, hu, e⟩, fun y hy e => h2 ⟨y, hy, e⟩⟩
   rw [hl] at this; cases this

theorem Inv.pending (I : Inv P G B w0 C n ops r ρ0 h0 ds done rest U pend env h ρ S a w) {u : gD} (hu : u ∈ U) : S.getD u.x.i false = false ∧ S.getD u.x.i true = false ∧ u.x.i < ops.size := by
 have hi : u.x.i < ops.size := (Array.getElem?_eq_some_iff.1 (I.gR u hu).2.op).1
 have hf : S.getD u.x.i true = false := by
  cases hq : S.getD u.x.i true with
  | false => rfl
  | true => exact absurd rfl (((I.listed _ hi).1 hq).1 u hu)
 refine ⟨?_, hf, hi⟩
 cases hq : S.getD u.x.i false with
 | false => rfl
 | true => rw [(iR hq).1] at hf; cases hf

theorem Inv.aBw (I : Inv P G B w0 C n ops r ρ0 h0 ds done rest U pend env h ρ S a w) {y : cQ} (hy : y ∈ rest) (hi : y.i < ops.size) : S.getD y.i false = false := by
 cases hq : S.getD y.i false with
 | false => rfl
 | true => exact absurd rfl (((I.listed _ hi).1 (iR hq).1).2 y hy)

theorem Inv.ready (I : Inv P G B w0 C n ops r ρ0 h0 ds done rest U pend env h ρ S a w) (hr : Region.ready .any ops S = []) : U = [] ∧ rest = [] := by
 cases U with
 | cons u U2 =>
  exfalso
  have hu : u ∈ u :: U2 := by simp
  obtain ⟨_, h1, h2⟩ := I.pending hu
  have : u.x.i ∈ Region.ready .any ops S := by
   refine mem_ready.2 ⟨h2, h1, u.o, (I.gR u hu).2.op, fun e he hb => ?_⟩
   have hlt := I.plt u hu e he hb
   have hl := (I.listed e.on hlt).2 ⟨fun u' hu' e' => ?_, fun y hy e' => ?_⟩
   ·rw [Array.getD_eq_getD_getElem?] at hl ⊢
    rw [Array.getElem?_eq_getElem (by rw [I.size]; exact hlt)] at hl ⊢
    exact hl
   ·simp only [List.mem_cons] at hu'
    rcases hu' with rfl | hu'
    ·exact I.self u' hu u'.o (I.gR u' hu).2.op e he hb e'.symm
    ·exact (List.pairwise_cons.1 I.order).1 u' hu' u.o (I.gR u hu).2.op e he hb e'.symm
   ·exact I.oN u hu y hy u.o (I.gR u hu).2.op e he hb e'.symm
  rw [hr] at this; cases this
 | nil =>
  cases rest with
  | nil => exact ⟨rfl, rfl⟩
  | cons x rest =>
   exfalso
   have hst := I.stat
   simp only [iV, Bool.and_eq_true] at hst
   obtain ⟨o, ho, _, hm, hseen⟩ := gO hst.1
   obtain ⟨_, hpreds⟩ := iS (fun y hy => (I.iQ y hy).2) ho (fun e he => he) hm
   have hi : x.i < ops.size := (Array.getElem?_eq_some_iff.1 ho).1
   have h1 : S.getD x.i true = false := by
    cases hq : S.getD x.i true with
    | false => rfl
    | true => exact absurd rfl (((I.listed _ hi).1 hq).2 x (by simp))
   have : x.i ∈ Region.ready .any ops S := by
    refine mem_ready.2 ⟨hi, h1, o, ho, fun e he hb => ?_⟩
    obtain ⟨y, hy, hye⟩ := hpreds e he hb
    obtain ⟨⟨oy, hoy, _⟩, _⟩ := I.iQ y hy
    have hlt : e.on < ops.size := by rw [← hye]; exact (Array.getElem?_eq_some_iff.1 hoy).1
    have hl := (I.listed e.on hlt).2 ⟨fun u' hu' => by simp at hu', fun z hz e' => eP I.stat z hz y hy (by omega)⟩
    rw [Array.getD_eq_getD_getElem?] at hl ⊢
    rw [Array.getElem?_eq_getElem (by rw [I.size]; exact hlt)] at hl ⊢
    exact hl
   rw [hr] at this; cases this

end
end Go.Am
end

section
namespace Go.Am
open Go.RowKit (Below)

section
variable {G B : Nat} {w0 : World} {P : Program} {n : Nat} {ops : Array Oper} {C : bK} {r : jZ} {ρ0 : Ren} {h0 : aA} {ds : List Deferred} {done rest : List cQ} {U : List gD} {pend : List (gD × Bool)} {env : Env} {h : aA} {ρ : Ren} {S : Array Bool} {a : Act} {w : World} {Q : Exit → Act → World → Prop}

theorem Inv.aNt (I : Inv P G B w0 C n ops r ρ0 h0 ds done rest U pend env h ρ S a w) (hb : vA rest) {u : gD} (hu : u ∈ U) : u.y2 P G h := by
 intro hw
 have hok := (I.gR u hu).2
 cases hk : u.x.kind with
 | pure => trivial
 | aF => trivial
 | read =>
  simp only
  obtain ⟨b, hp⟩ := I.oH u hu (.inl hk)
  cases b with
  | true =>
   have := aAq hb I.run _ hp rfl hw
   simp only [hk] at this
   exact this
  | false =>
   have hc := I.clean _ hp rfl
   simp only at hc
   have hrun := hok.run hw
   obtain ⟨v, e⟩ := aBt (hok.kind.trans hk) hrun
   injection e with e1 e2
   rw [hc, e2]
   rw [e2] at hrun
   exact hrun
 | alloc =>
  simp only
  obtain ⟨b, hp⟩ := I.oH u hu (.inr hk)
  cases b with
  | true =>
   have := aAq hb I.run _ hp rfl hw
   simp only [hk] at this
   exact this
  | false => rw [I.clean _ hp rfl]


theorem Inv.aHr {Ub Ua : List gD} {u : gD} (I : Inv P G B w0 C n ops r ρ0 h0 ds done rest (Ub ++ u :: Ua) pend env h ρ S a w) (hb : vA rest) (hp : u6 ops S u.x.i)
  {K : Act → World → Prop}
  (hK : ∀ (ρ' : Ren) (a' : Act) (w' : World), Inv P G B w0 C n ops r ρ0 h0 ds done rest (Ub ++ Ua) pend env h ρ' (S.setIfInBounds u.x.i true) a' w' → K a' w') :
  wpOp P ops Q u.x.i K a w := by
 have hu : u ∈ Ub ++ u :: Ua := by simp
 obtain ⟨hud, hok⟩ := I.gR u hu
 obtain ⟨hpf, hpt, hlt⟩ := I.pending hu
 have hsub : ∀ u' ∈ Ub ++ Ua, u' ∈ Ub ++ u :: Ua := fun u' hu' => by
  simp only [List.mem_append, List.mem_cons] at hu' ⊢
  rcases hu' with h | h
  ·exact .inl h
  ·exact .inr (.inr h)
 have hsplit : ∀ u' ∈ Ub ++ u :: Ua, u' = u ∨ u' ∈ Ub ++ Ua := fun u' hu' => by
  simp only [List.mem_append, List.mem_cons] at hu' ⊢
  rcases hu' with h | h | h
  ·exact .inr (.inl h)
  ·exact .inl h
  ·exact .inr (.inr h)
 have hsl : List.Sublist (Ub ++ Ua) (Ub ++ u :: Ua) := List.Sublist.append (List.Sublist.refl _) (List.sublist_cons_self u Ua)
 have hne : ∀ u' ∈ Ub ++ Ua, u'.x.i ≠ u.x.i := by
  intro u' hu' e
  have hd := I.distinct
  rw [List.pairwise_append] at hd
  simp only [List.mem_append] at hu'
  rcases hu' with h | h
  ·exact hd.2.2 u' h u (by simp) e
  ·exact (List.pairwise_cons.1 hd.2.1).1 u' h e.symm
 have hnr : ∀ y ∈ rest, y.i ≠ u.x.i := fun y hy => (eP I.stat y hy u.x hud).symm
 have hanc : ∀ j, u.x.iA.testBit j = true → S.getD j false = true := fun j hj => ((I.iQ u.x hud).2 j hj).listed I.closed hp
 -- what the operation looks at is as it was
 let envR : Env := fun t => if t ∈ u.o.looksAt ops then u.env t else none
 have hagree : ∀ d ∈ u.o.looksAt ops, u.env d = envR d := fun d hd => by simp only [envR]; rw [if_pos hd]
 have FR : bU ρ n envR a := by
  refine ⟨I.lY, fun t v ht => ?_, fun t v ht => ?_⟩
  all_goals
   simp only [envR] at ht
   split at ht
   ·rename_i hl
    rcases I.zS u hu t hl with ⟨u', hu', _, hbit, _⟩ | ⟨_, h2⟩
    ·have := hanc _ hbit
     rw [(I.pending hu').1] at this; cases this
    ·first | exact (h2 v ht).1 | exact (h2 v ht).2
   ·cases ht
 -- behind it
 have after : ∀ (ρ' : Ren) (v' : Value) (w' : World), bA ρ' u.v v' → ρ.le ρ' → Rel G B w0 ρ' h w' → Ext ρ0 h0 ρ' h → (∀ u' ∈ Ub ++ Ua, u'.x.kind = .alloc → u'.w = true → ρ' u'.h.next = none) → K (a.put u.o.dst v') w' := by
  intro ρ' v' w' hv hle hR hext hmade
  refine hK ρ' _ w' ?_
  have hget : ∀ d, u.o.dst = some d → (a.put u.o.dst v').tmps.getD d undef = v' := fun d hd => by
   rw [hd]
   simp only [Act.put]
   rw [Array.getD_eq_getD_getElem?, Array.getElem?_setIfInBounds_self_of_lt (by rw [I.lY]; exact hok.lt d hd)]; rfl
  have hget2 : ∀ d, u.o.dst ≠ some d → (a.put u.o.dst v').tmps.getD d undef = a.tmps.getD d undef := fun d hd => by
   cases hq : u.o.dst with
   | none => rfl
   | some d0 =>
    simp only [Act.put]
    rw [Array.getD_eq_getD_getElem?, Array.getD_eq_getD_getElem?, Array.getElem?_setIfInBounds_ne (fun e => hd (by rw [hq, e]))]
  constructor
  case run => exact I.run
  case stat => exact I.stat
  case iQ => exact I.iQ
  case cover => exact I.cover
  case gR => exact fun u' hu' => I.gR u' (hsub u' hu')
  case size => rw [Array.size_setIfInBounds]; exact I.size
  case listed =>
   intro i hi
   rw [fM (by rw [I.size]; exact hlt)]
   by_cases e : i = u.x.i
   ·subst e
    simp only [if_true, true_iff]
    exact ⟨hne, hnr⟩
   ·rw [if_neg e, I.listed i hi]
    constructor
    ·rintro ⟨h1, h2⟩; exact ⟨fun u' hu' => h1 u' (hsub u' hu'), h2⟩
    ·rintro ⟨h1, h2⟩
     refine ⟨fun u' hu' => ?_, h2⟩
     rcases hsplit u' hu' with rfl | hu'
     ·exact fun k => e k.symm
     ·exact h1 u' hu'
  case closed =>
   intro i o ho hi e he hbd
   rw [fM (by rw [I.size]; exact hlt)] at hi ⊢
   split
   ·rfl
   ·by_cases e1 : i = u.x.i
    ·subst e1; exact hp o ho e he hbd
    ·rw [if_neg e1] at hi; exact I.closed i o ho hi e he hbd
  case distinct => exact I.distinct.sublist hsl
  case order => exact I.order.sublist hsl
  case self => exact fun u' hu' => I.self u' (hsub u' hu')
  case oN => exact fun u' hu' => I.oN u' (hsub u' hu')
  case lY => cases hq : u.o.dst <;> simp [Act.put, I.lY]
  case fr =>
   intro d v hd
   obtain ⟨h1, h2⟩ := I.fr d v hd
   refine ⟨h1, ?_⟩
   by_cases e : u.o.dst = some d
   ·have := I.pv u hu d e
    rw [hd] at this; cases this
    rw [hget d e]
    exact .inr hv
   ·rw [hget2 d e]
    rcases h2 with ⟨u', hu', e'⟩ | h2
    ·rcases hsplit u' hu' with rfl | hu'
     ·exact absurd e' e
     ·exact .inl ⟨u', hu', e'⟩
    ·exact .inr (h2.mono hle)
  case pv => exact fun u' hu' => I.pv u' (hsub u' hu')
  case zS =>
   intro u2 hu2 d hd
   by_cases e : u.o.dst = some d
   ·rcases I.zS u2 (hsub u2 hu2) d hd with ⟨u', hu', h1, h2, h3⟩ | ⟨h1, _⟩
    ·rcases hsplit u' hu' with rfl | hu'
     ·refine .inr ⟨fun u3 hu3 _ hd3 => ?_, fun v hv2 => ?_⟩
      ·-- two that write one place: there are none
       exact absurd hd3 (I.uniq _ hu u3 (hsub u3 hu3) (hne u3 hu3) d e)
      ·rw [h3] at hv2; cases hv2
       exact ⟨hok.lt d e, by rw [hget d e]; exact hv⟩
     ·exact absurd h1 (I.uniq u hu u' (hsub u' hu') (hne u' hu') d e)
    ·have hbit := h1 u hu (fun k => hne u2 hu2 k.symm) e
     have := hanc _ hbit
     rw [(I.pending (hsub u2 hu2)).1] at this; cases this
   ·rw [hget2 d e]
    rcases I.zS u2 (hsub u2 hu2) d hd with ⟨u', hu', h1, h2, h3⟩ | ⟨h1, h2⟩
    ·rcases hsplit u' hu' with rfl | hu'
     ·exact absurd h1 e
     ·exact .inl ⟨u', hu', h1, h2, h3⟩
    ·exact .inr ⟨fun u' hu' => h1 u' (hsub u' hu'), fun v hv2 => ⟨(h2 v hv2).1, (h2 v hv2).2.mono hle⟩⟩
  case uniq => exact fun u2 hu2 u3 hu3 => I.uniq u2 (hsub u2 hu2) u3 (hsub u3 hu3)
  case plt => exact fun u' hu' => I.plt u' (hsub u' hu')
  case rel => exact hR
  case oH => exact fun u' hu' => I.oH u' (hsub u' hu')
  case clean => exact I.clean
  case pOk => exact I.pOk
  case made => exact fun u' hu' hk hw => ⟨(I.made u' (hsub u' hu') hk hw).1, hmade u' hu' hk hw, (I.made u' (hsub u' hu') hk hw).2.2⟩
  case apart => exact I.apart.sublist hsl
  case ext => exact hext
  case defers => rw [put_defers]; exact I.defers
 have hext0 : Ext ρ0 h0 ρ h := I.ext
 have hmade0 : ∀ u' ∈ Ub ++ Ua, u'.x.kind = .alloc → u'.w = true → u'.h.next < h.next ∧ ρ u'.h.next = none := fun u' hu' hk hw => ⟨(I.made u' (hsub u' hu') hk hw).1, (I.made u' (hsub u' hu') hk hw).2.1⟩
 have hwant : Region.wanted u.o (yielded ops a.tmps) = u.w := nJ FR (by rw [← q8 hagree]; exact hok.want)
 unfold wpOp
 rw [hok.op]
 simp only
 rw [hwant]
 cases hw : u.w with
 | false =>
  simp only [Bool.false_eq_true, if_false]
  obtain ⟨e1, _⟩ := hok.skip hw
  have : bA ρ u.v undef := by rw [e1]; exact bA.gX.2 (.nil _)
  exact after ρ undef w this (Ren.le.refl _) I.rel hext0 fun u' hu' hk hw => (hmade0 u' hu' hk hw).2
 | true =>
  simp only [if_true]
  left
  have hrun := hok.run hw
  have hst := I.aNt hb hu hw
  -- an operation that leaves the heap
  have plain : c6 P G u.env u.o h = some (.val u.v h) → u.o.wp P a w K Q := by
   intro hop
   rw [tR hagree] at hop
   obtain ⟨v', w', ρ', hr, hext, hR, hv⟩ := nX I.rel FR.rel hop
   unfold Oper.wp
   rw [hr]
   exact after ρ' v' w' hv (hext.le I.rel) hR (hext0.trans hext) fun u' hu' hk hw => by
    obtain ⟨h1, h2⟩ := hmade0 u' hu' hk hw
    rw [hext.2 _ h1]; exact h2
  cases hk : u.x.kind with
  | aF => exact absurd hk hok.aHr
  | pure =>
   obtain ⟨v, e, hall⟩ := aBs (hok.kind.trans hk) hrun
   injection e with e1 e2
   subst e1
   exact plain (hall h)
  | read => simp only [hk] at hst; exact plain hst
  | alloc =>
   simp only [hk] at hst
   have hrunR := hrun
   rw [tR hagree] at hrunR
   obtain ⟨v, obj, e, hm⟩ := aFj I.rel FR.rel (hok.kind.trans hk) hrunR
   injection e with e1 e2
   subst e1
   obtain ⟨hidlt, hidn, hid0⟩ := I.made u hu hk hw
   have hobj : h.obj u.h.next = some obj := by rw [hst, e2, aA.iX, if_pos rfl]
   have hids : ∀ u' ∈ Ub ++ Ua, u'.x.kind = .alloc → u'.w = true → u'.h.next ≠ u.h.next := by
    intro u' hu' hk' hw' e
    have hd := I.apart
    rw [List.pairwise_append] at hd
    simp only [List.mem_append] at hu'
    rcases hu' with h1 | h1
    ·exact hd.2.2 u' h1 u (by simp) hk' hw' hk hw e
    ·exact (List.pairwise_cons.1 hd.2.1).1 u' h1 hk hw hk' hw' e.symm
   have hfin : ∀ (ob : Obj) (N : Nat) (v' : Value), Holds (ρ.bL u.h.next (w.heap.size, 0, N)) B (w.alloc ob) w.heap.size 0 N obj → bA (ρ.bL u.h.next (w.heap.size, 0, N)) u.v v' → K (a.put u.o.dst v') (w.alloc ob) := by
    intro ob N v' hh hv
    have hbel : Below w.heap.size w (w.alloc ob) := (Below.refl _ _).alloc (Nat.le_refl _) _
    have hR := I.rel.aBl hidlt hidn hobj hbel (by simp) rfl hh
    refine after _ v' _ hv ?_ hR ⟨hext0.1, fun i hi => ?_⟩ fun u' hu' hk' hw' => ?_
    ·intro i y hy
     unfold Ren.bL
     split
     ·rename_i e; subst e; rw [hidn] at hy; cases hy
     ·exact hy
    ·unfold Ren.bL
     rw [if_neg (by omega)]
     exact hext0.2 i hi
    ·unfold Ren.bL
     rw [if_neg (hids u' hu' hk' hw')]
     exact (hmade0 u' hu' hk' hw').2
   have hle : ∀ x, ρ.le (ρ.bL u.h.next x) := fun x i y hy => by
    unfold Ren.bL
    split
    ·rename_i e; subst e; rw [hidn] at hy; cases hy
    ·exact hy
   unfold Oper.wp
   rcases hm with ⟨cs, cs', t, rfl, hl, mk, hrun', hmk⟩ | ⟨rfl, hrun', hv⟩
   ·rw [hrun' w]
    refine hfin (.cells cs' t) cs'.size _ ⟨by have := hl.1; simp at this; omega, fun m x hx => ?_, fun _ => ⟨I.rel.size, fun m hm => ⟨?_, ?_⟩⟩⟩ (hmk _ _ (hle _) (by simp [Ren.bL]))
    ·obtain ⟨x', h1, h2⟩ := hl.get hx
     refine ⟨x', ?_, h2.mono (hle _)⟩
     have hn := heap_alloc_new w (.cells cs' t)
     simp only [World.cell?, hn, Nat.zero_add]
     simpa using h1
    ·have hn := heap_alloc_new w (.cells cs' t)
     simp only [World.cell?, hn, Nat.zero_add]
     simp [hm]
    ·have hn := heap_alloc_new w (.cells cs' t)
     simp only [World.frozen?, hn]
     simp
   ·rw [hrun' w]
    refine hfin (.map #[] 0) 0 _ ⟨I.rel.size, #[], 0, heap_alloc_new w _, .nil _, .nil _⟩ ?_
    rw [hv]
    exact .map (by simp [Ren.bL]; exact ⟨rfl, rfl⟩)


theorem Inv.aF (SC : hZ P G B w0 C) {x : cQ} (I : Inv P G B w0 C n ops r ρ0 h0 ds done (x :: rest) U pend env h ρ S a w) (hx : x.kind = .aF) (hp : u6 ops S x.i)
  (O : aMh G B w0 n r ρ0 h0 ds Q) {K : Act → World → Prop}
  (hK : ∀ (pend' : List (gD × Bool)) (env' : Env) (h' : aA) (ρ' : Ren) (a' : Act) (w' : World), Inv P G B w0 C n ops r ρ0 h0 ds (x :: done) rest U pend' env' h' ρ' (S.setIfInBounds x.i true) a' w' → K a' w') :
  wpOp P ops Q x.i K a w := by
 have hst := I.stat
 simp only [iV, Bool.and_eq_true] at hst
 obtain ⟨hitem, hst⟩ := hst
 obtain ⟨o, ho, hk, hmask, hseen⟩ := gO hitem
 obtain ⟨hanc, hpreds⟩ := iS (fun y hy => (I.iQ y hy).2) ho (fun e he => he) hmask
 have hlt : x.i < ops.size := (Array.getElem?_eq_some_iff.1 ho).1
 have hbit : ∀ j, x.iA.testBit j = true → S.getD j false = true := fun j hj => (hanc j hj).listed I.closed hp
 have hnb : ∀ u ∈ U, x.iA.testBit u.x.i = false := fun u hu => by
  cases hq : x.iA.testBit u.x.i with
  | false => rfl
  | true => have := hbit _ hq; rw [(I.pending hu).1] at this; cases this
 have hconf : ∀ u ∈ U, iY ops u.o o = false := fun u hu => by
  obtain ⟨hud, huok⟩ := I.gR u hu
  obtain ⟨_, oy, hoy, hc, _⟩ := hseen u.x hud
  rw [huok.op] at hoy; cases hoy
  cases hq : iY ops u.o o with
  | false => rfl
  | true => have := hc (.inr hq); rw [hnb u hu] at this; cases this
 have hdd : ∀ u ∈ U, ∀ d, o.dst = some d → u.o.dst ≠ some d := fun u hu d hd => by
  obtain ⟨hud, huok⟩ := I.gR u hu
  obtain ⟨_, oy, hoy, _, hne⟩ := hseen u.x hud
  rw [huok.op] at hoy; cases hoy
  exact hne d hd
 have hne : ∀ u ∈ U, u.x.i ≠ x.i := fun u hu => (hseen u.x (I.gR u hu).1).1
 have hrun := I.run
 simp only [fE, ho, hx] at hrun
 split at hrun
 case isFalse => cases hrun
 let envR : Env := fun t => if t ∈ o.looksAt ops then env t else none
 have hagree : ∀ d ∈ o.looksAt ops, env d = envR d := fun d hd => by simp only [envR]; rw [if_pos hd]
 have FR : bU ρ n envR a := by
  refine ⟨I.lY, fun t v ht => ?_, fun t v ht => ?_⟩
  all_goals
   simp only [envR] at ht
   split at ht
   ·rename_i hl
    obtain ⟨h1, h2⟩ := I.fr t v ht
    have h3 : ¬ ∃ u ∈ U, u.o.dst = some t := fun ⟨u, hu, hd⟩ => by
     have := hconf u hu
     simp only [iY, hd, Bool.or_eq_false_iff] at this
     simp [hl] at this
    first | exact h1 | exact h2.resolve_left h3
   ·cases ht
 cases hs : jD P G C n ops o env h with
 | none => rw [hs] at hrun; cases hrun
 | some q =>
  rcases aB2 hagree hs with ⟨v, e, h', rfl, hput, e', hput', hs'⟩ | ⟨ch, h', rfl, hs'⟩
  ·rw [hs] at hrun
   simp only at hrun
   obtain ⟨hg1, hg2⟩ := pZ hput
   obtain ⟨hg1', _⟩ := pZ hput'
   refine jE SC I.rel FR ho hs' ?_ (fun ch h'' e2 => by cases e2)
   intro env2 h2 e2 ρ' v' w' hext hR hF
   cases e2
   refine hK (pM (pend.filter fun p => !x.iA.testBit p.1.x.i)) e h' ρ' _ w' ?_
   have hle := hext.le I.rel
   have hget2 : ∀ d, o.dst ≠ some d → (a.put o.dst v').tmps.getD d undef = a.tmps.getD d undef := fun d hd => by
    cases hq : o.dst with
    | none => rfl
    | some d0 =>
     simp only [Act.put]
     rw [Array.getD_eq_getD_getElem?, Array.getD_eq_getD_getElem?, Array.getElem?_setIfInBounds_ne (fun e => hd (by rw [hq, e]))]
   constructor
   case run => exact hrun
   case stat => exact hst
   case iQ =>
    intro y hy
    simp only [List.mem_cons] at hy
    rcases hy with rfl | hy
    ·exact ⟨⟨o, ho, hk⟩, hanc⟩
    ·exact I.iQ y hy
   case cover =>
    intro i hi
    rcases I.cover i hi with ⟨y, hy, e⟩ | ⟨y, hy, e⟩
    ·exact .inl ⟨y, by simp [hy], e⟩
    ·simp only [List.mem_cons] at hy
     rcases hy with rfl | hy
     ·exact .inl ⟨_, by simp, e⟩
     ·exact .inr ⟨y, hy, e⟩
   case gR => exact fun u hu => ⟨by simp [(I.gR u hu).1], (I.gR u hu).2⟩
   case size => rw [Array.size_setIfInBounds]; exact I.size
   case listed =>
    intro i hi
    rw [fM (by rw [I.size]; exact hlt)]
    by_cases e1 : i = x.i
    ·subst e1
     simp only [if_true, true_iff]
     exact ⟨hne, fun y hy e2 => eP hst y hy x (by simp) e2.symm⟩
    ·rw [if_neg e1, I.listed i hi]
     constructor
     ·rintro ⟨h1, h2⟩; exact ⟨h1, fun y hy => h2 y (by simp [hy])⟩
     ·rintro ⟨h1, h2⟩
      refine ⟨h1, fun y hy => ?_⟩
      simp only [List.mem_cons] at hy
      rcases hy with rfl | hy
      ·exact fun k => e1 k.symm
      ·exact h2 y hy
   case closed =>
    intro i o2 ho2 hi e2 he2 hbd
    rw [fM (by rw [I.size]; exact hlt)] at hi ⊢
    split
    ·rfl
    ·by_cases e1 : i = x.i
     ·subst e1; exact hp o2 ho2 e2 he2 hbd
     ·rw [if_neg e1] at hi; exact I.closed i o2 ho2 hi e2 he2 hbd
   case distinct => exact I.distinct
   case order => exact I.order
   case self => exact I.self
   case oN => exact fun u hu y hy => I.oN u hu y (by simp [hy])
   case lY => cases hq : o.dst <;> simp [Act.put, I.lY]
   case fr =>
    intro d v2 hd
    by_cases hdst : o.dst = some d
    ·have h1 := (hg1 d hdst)
     rw [h1.2] at hd; cases hd
     exact ⟨h1.1, .inr (hF.rel d _ (hg1' d hdst).2)⟩
    ·rw [hg2 d hdst] at hd
     obtain ⟨h1, h2⟩ := I.fr d v2 hd
     rw [hget2 d hdst]
     exact ⟨h1, h2.imp id fun h3 => h3.mono hle⟩
   case pv =>
    intro u hu d hd
    rw [hg2 d (fun e => hdd u hu d e hd)]
    exact I.pv u hu d hd
   case zS =>
    intro u hu d hd
    have hdst : o.dst ≠ some d := fun e => by
     have := hconf u hu
     simp only [iY, e, Bool.or_eq_false_iff] at this
     simp [hd] at this
    rw [hget2 d hdst]
    rcases I.zS u hu d hd with h1 | ⟨h1, h2⟩
    ·exact .inl h1
    ·exact .inr ⟨h1, fun v2 hv2 => ⟨(h2 v2 hv2).1, (h2 v2 hv2).2.mono hle⟩⟩
   case uniq => exact I.uniq
   case plt => exact I.plt
   case rel => exact hR
   case oH =>
    intro u hu hkk
    obtain ⟨b, hb⟩ := I.oH u hu hkk
    refine ⟨true, ?_⟩
    simp only [pM, List.mem_map, List.mem_filter]
    exact ⟨(u, b), ⟨hb, by simp [hnb u hu]⟩, rfl⟩
   case clean =>
    intro q hq hf
    simp only [pM, List.mem_map] at hq
    obtain ⟨q', _, rfl⟩ := hq
    cases hf
   case pOk =>
    intro q hq
    simp only [pM, List.mem_map, List.mem_filter] at hq
    obtain ⟨q', ⟨hq', _⟩, rfl⟩ := hq
    exact I.pOk q' hq'
   case made =>
    intro u hu hka hw
    obtain ⟨h1, h2, h3⟩ := I.made u hu hka hw
    exact ⟨Nat.lt_of_lt_of_le h1 hext.1, by rw [hext.2 _ h1]; exact h2, h3⟩
   case apart => exact I.apart
   case ext => exact I.ext.trans hext
   case defers => rw [put_defers]; exact I.defers
  ·rw [hs] at hrun
   simp only [Option.some.injEq] at hrun
   refine jE SC I.rel FR ho hs' (fun env' h'' e2 => by cases e2) ?_
   intro ch2 h2 e2 ρ' ch' w' hext hR hc
   cases e2
   exact O.panic ch h' hrun.symm ρ' ch' a w' (I.ext.trans hext) hR hc I.defers

theorem o7 : ∀ (N : Nat) (l : List Nat), l.Nodup → (∀ x ∈ l, x < N) → l.length ≤ N
 | 0, l, _, h => by
  cases l with
  | nil => simp
  | cons x l => have := h x (by simp); omega
 | N + 1, l, hn, h => by
  have h1 := o7 N (l.erase N) (hn.erase N) fun x hx => by
   have h2 := (hn.mem_erase_iff).1 hx
   have := h x h2.2
   omega
  rw [List.length_erase] at h1
  split at h1 <;> omega

theorem zP {N : Nat} {l : List Nat} (hn : l.Nodup) (h : ∀ x ∈ l, x < N) (hl : l.length = N) : ∀ i, i < N → i ∈ l := by
 intro i hi
 by_cases hm : i ∈ l
 ·exact hm
 ·exfalso
  -- with i beside it there would be too many
  have := o7 N (i :: l) (List.nodup_cons.2 ⟨hm, hn⟩) fun x hx => by
   simp only [List.mem_cons] at hx
   rcases hx with rfl | hx
   ·exact hi
   ·exact h x hx
  simp at this
  omega

theorem aG3 (SC : hZ P G B w0 C) (O : aMh G B w0 n r ρ0 h0 ds Q) : ∀ (fuel : Nat) {done rest : List cQ} {U : List gD} {pend : List (gD × Bool)} {env : Env} {h : aA} {ρ : Ren} {S : Array Bool} {a : Act} {w : World},
  Inv P G B w0 C n ops r ρ0 h0 ds done rest U pend env h ρ S a w → U.length + rest.length = fuel → wpAny P .any ops Q fuel S a w := by
 have fin : ∀ {done : List cQ} {pend : List (gD × Bool)} {env : Env} {h : aA} {ρ : Ren} {S : Array Bool} {a : Act} {w : World},
   Inv P G B w0 C n ops r ρ0 h0 ds done [] [] pend env h ρ S a w → Q .normal a w := by
  intro done pend env h ρ S a w I
  have hrun := I.run
  simp only [fE] at hrun
  split at hrun
  ·simp only [Option.some.injEq] at hrun
   refine O.ok env h hrun.symm ρ a w I.ext I.rel ⟨I.lY, fun t v ht => (I.fr t v ht).1, fun t v ht => ?_⟩ I.defers
   exact (I.fr t v ht).2.resolve_left fun ⟨u, hu, _⟩ => by simp at hu
  ·cases hrun
 intro fuel
 induction fuel with
 | zero =>
  intro done rest U pend env h ρ S a w I hlen
  have hU : U = [] := List.eq_nil_of_length_eq_zero (by omega)
  have hr : rest = [] := List.eq_nil_of_length_eq_zero (by omega)
  subst hU hr
  refine ⟨?_, fin I⟩
  rw [List.eq_nil_iff_forall_not_mem]
  intro i hi
  obtain ⟨h1, h2, _⟩ := mem_ready.1 hi
  rcases I.yW h1 h2 with ⟨u, hu, _⟩ | ⟨y, hy, _⟩
  ·simp at hu
  ·simp at hy
 | succ fuel ih =>
  intro done rest U pend env h ρ S a w I hlen
  refine ⟨fun hr => ?_, fun i hi => ?_⟩
  ·obtain ⟨rfl, rfl⟩ := I.ready hr
   exact fin I
  ·obtain ⟨done, rest', U', pend', env', h', hb, hl2, I⟩ := Inv.bound rest I
   obtain ⟨h1, h2, o, ho, hpreds⟩ := mem_ready.1 hi
   have hp : u6 ops S i := fun o' ho' => by rw [ho] at ho'; cases ho'; exact hpreds
   rcases I.yW h1 h2 with ⟨u, hu, rfl⟩ | ⟨y, hy, rfl⟩
   ·obtain ⟨Ub, Ua, rfl⟩ := List.append_of_mem hu
    refine I.aHr hb hp fun ρ' a' w' I' => ih I' ?_
    simp at hl2 ⊢; omega
   ·cases rest' with
    | nil => simp at hy
    | cons x rest2 =>
     have hx : x.kind = .aF := hb
     have hyx : y = x := by
      simp only [List.mem_cons] at hy
      rcases hy with rfl | hy
      ·rfl
      ·exfalso
       have hst := I.stat
       simp only [iV, Bool.and_eq_true] at hst
       have hbit := sP hst.2 x (by simp) hx y hy
       obtain ⟨ox, hox, _, hm, _⟩ := gO hst.1
       have hxa := (iS (fun y hy => (I.iQ y hy).2) hox (fun e he => he) hm).1
       have hanc := w8 hst.2 (fun z hz => by
        simp only [List.mem_cons] at hz
        rcases hz with rfl | hz
        ·exact hxa
        ·exact (I.iQ z hz).2) y hy _ hbit
       have := hanc.listed I.closed hp
       rw [I.aBw (by simp) (Array.getElem?_eq_some_iff.1 hox).1] at this
       cases this
     subst hyx
     refine I.aF SC hx hp O fun pend' env' h' ρ' a' w' I' => ih I' ?_
     simp at hl2 ⊢; omega

theorem aAw (SC : hZ P G B w0 C) (hm : P.follows .mixedOrders = true) {env : Env} {h : aA} {r : jZ} (hd : aAv P G C n ops env h = some r) {id : Nat} {ρ : Ren} {w : World} {a : Act}
  (R : Rel G B w0 ρ h w) (F : bU ρ n env a) (O : aMh G B w0 n r ρ h a.defers Q) : (Code.region id ops true).wp P Q a w := by
 unfold aAv at hd
 split at hd
 case h_2 => cases hd
 rename_i l hl
 unfold aK0 at hl
 simp only at hl
 split at hl
 case isFalse => cases hl
 rename_i hc
 cases hl
 simp only [Bool.and_eq_true, decide_eq_true_eq] at hc
 obtain ⟨hlen, hok⟩ := hc
 refine wp_region_any hm ?_
 -- all are there
 have hall : ∀ (l seen : List cQ), iV P ops seen l = true → (∀ y ∈ l, y.i < ops.size) ∧ (l.map (·.i)).Nodup := by
  intro l
  induction l with
  | nil => intro seen _; exact ⟨by simp, by simp⟩
  | cons x l ih =>
   intro seen hs
   simp only [iV, Bool.and_eq_true] at hs
   obtain ⟨h1, h2⟩ := ih _ hs.2
   obtain ⟨o, ho, _⟩ := gO hs.1
   refine ⟨fun y hy => ?_, ?_⟩
   ·simp only [List.mem_cons] at hy
    rcases hy with rfl | hy
    ·exact (Array.getElem?_eq_some_iff.1 ho).1
    ·exact h1 y hy
   ·simp only [List.map_cons, List.nodup_cons]
    refine ⟨fun hmem => ?_, h2⟩
    obtain ⟨y, hy, e⟩ := List.mem_map.1 hmem
    exact eP hs.2 y hy x (by simp) e.symm
 obtain ⟨hlt, hnd⟩ := hall _ _ hok
 have hcover : ∀ i, i < ops.size → ∃ y ∈ wV P ops ops.size [], y.i = i := by
  intro i hi
  have : i ∈ (wV P ops ops.size []).map (·.i) := zP hnd (fun j hj => by
   obtain ⟨y, hy, rfl⟩ := List.mem_map.1 hj
   exact hlt y hy) (by simp [hlen]) i hi
  obtain ⟨y, hy, e⟩ := List.mem_map.1 this
  exact ⟨y, hy, e⟩
 refine aG3 (C := C) (r := r) (ρ0 := ρ) (h0 := h) (ds := a.defers) SC O ops.size (done := []) (rest := wV P ops ops.size []) (U := []) (pend := []) (env := env) (h := h) (ρ := ρ) ?_ (by simp [hlen])
 have hrep : ∀ (i : Nat) (b : Bool), i < ops.size → (Array.replicate ops.size false).getD i b = false := fun i b hi => by
  rw [Array.getD_eq_getD_getElem?]; simp [hi]
 constructor
 case run => exact hd
 case stat => exact hok
 case iQ => simp
 case cover => exact fun i hi => .inr (hcover i hi)
 case gR => simp
 case size => simp
 case listed =>
  intro i hi
  rw [hrep i true hi]
  simp only [Bool.false_eq_true, false_iff]
  rintro ⟨_, h2⟩
  obtain ⟨y, hy, e⟩ := hcover i hi
  exact h2 y hy e
 case closed =>
  intro i o ho hi
  rw [hrep i true (Array.getElem?_eq_some_iff.1 ho).1] at hi
  cases hi
 case distinct => simp
 case order => simp
 case self => simp
 case oN => simp
 case lY => exact F.size
 case fr => exact fun d v hdv => ⟨F.lt d v hdv, .inr (F.rel d v hdv)⟩
 case pv => simp
 case zS => simp
 case uniq => simp
 case plt => simp
 case rel => exact R.drew
 case oH => simp
 case clean => simp
 case pOk => simp
 case made => simp
 case apart => simp
 case ext => exact Ext.refl _ _
 case defers => rfl

end
end Go.Am
end

section
namespace Go.Am
open Go.RowKit (Below)

noncomputable def lO (P : Program) (G : Nat) (C : bK) (n : Nat) : oV := fun ops draw env h =>
 if draw then aAv P G C n ops env h else dT P G C n ops (List.range ops.size) env h

abbrev eQ := FuncId → Option (bK → List Value → aA → Option bR)

noncomputable def bZ (P : Program) (G : Nat) (X : eQ) : Nat → bK
 | 0 => fun _ _ _ => none
 | k + 1 => fun f args h => match X f with
  | some o => o (bZ P G X k) args h
  | none => jN P G (lO P G (bZ P G X k)) k f args h

def bK.le (C C' : bK) : Prop := ∀ f args h r, C f args h = some r → C' f args h = some r

structure aGa (P : Program) (G B : Nat) (w0 : World) (X : eQ) : Prop where
 sound : ∀ f o, X f = some o → ∀ C, hZ P G B w0 C → ∀ args h r, o C args h = some r → ∀ ρ w args', Rel G B w0 ρ h w → bP ρ args args'.toList → Calls P f args' w (iP G B w0 ρ h r)

structure bW (X : eQ) : Prop where
 mono : ∀ f o, X f = some o → ∀ C C', bK.le C C' → ∀ args h r, o C args h = some r → o C' args h = some r

section
variable {G B : Nat} {w0 : World} {P : Program} {n : Nat}

theorem xB {C : bK} (SC : hZ P G B w0 C) (hm : P.follows .mixedOrders = true) (n : Nat) : vP P G B w0 n (lO P G C n) := by
 intro ops draw env h r hr id ρ w a R F
 unfold lO at hr
 split at hr
 ·rename_i hd
  subst hd
  refine aAw SC hm hr R F ⟨?_, ?_⟩
  ·intro env' h' e ρ' a' w' h1 h2 h3 h4
   subst e
   exact ⟨h4, ρ', h1, h2, h3⟩
  ·intro ch h' e ρ' ch' a' w' h1 h2 h3 h4
   subst e
   exact ⟨h4, ρ', h1, h2, h3⟩
 ·rename_i hd
  have : draw = false := by simpa using hd
  subst this
  refine wp_region ?_
  refine nA SC _ R F hr ?_ ?_
  ·intro env' h' e ρ' a' w' h1 h2 h3 h4
   subst e
   exact ⟨h4, ρ', h1, h2, h3⟩
  ·intro ch h' e ρ' ch' a' w' h1 h2 h3 h4
   subst e
   exact ⟨h4, ρ', h1, h2, h3⟩

theorem uC {X : eQ} (hX : aGa P G B w0 X) (hm : P.follows .mixedOrders = true) : ∀ k, hZ P G B w0 (bZ P G X k)
 | 0 => fun f args h r hc => by simp [bZ] at hc
 | k + 1 => by
  intro f args h r hc ρ w args' R hargs
  have SC := uC hX hm k
  simp only [bZ] at hc
  split at hc
  ·rename_i o ho
   exact hX.sound f o ho _ SC args h r hc ρ w args' R hargs
  ·exact vZ (fun n => xB SC hm n) k f args h r hc ρ w args' R hargs

theorem n6 {C C' : bK} (hl : bK.le C C') {ops : Array Oper} {o : Oper} {env : Env} {h : aA} {r : jZ} (hs : jD P G C n ops o env h = some r) : jD P G C' n ops o env h = some r := by
 unfold jD at hs ⊢
 split at hs
 ·cases hs
 ·exact hs
 ·split at hs
  ·cases hs
  ·exact hs
  ·exact hs
  ·rename_i f args ho
   split at hs
   ·cases hs
   ·rename_i v h' hc
    rw [hl _ _ _ _ hc]; exact hs
   ·rename_i ch h' hc
    rw [hl _ _ _ _ hc]; exact hs
  ·exact hs

theorem dZ {C C' : bK} (hl : bK.le C C') {ops : Array Oper} : ∀ (l : List Nat) {env : Env} {h : aA} {r : jZ}, dT P G C n ops l env h = some r → dT P G C' n ops l env h = some r
 | [], env, h, r, he => he
 | i :: rest, env, h, r, he => by
  unfold dT at he ⊢
  split at he
  ·exact dZ hl rest he
  ·rename_i o ho
   split at he
   ·rename_i env' h' hs
    rw [n6 hl hs]
    exact dZ hl rest he
   ·rename_i hno
    cases hq : jD P G C n ops o env h with
    | none => rw [hq] at he; cases he
    | some q =>
     rw [hq] at he
     rw [n6 hl hq]
     cases q with
     | ok e h' => exact (hno _ _ hq).elim
     | panic ch h' => exact he

theorem l9 {C C' : bK} (hl : bK.le C C') {ops : Array Oper} : ∀ (l : List cQ) {pend : List (gD × Bool)} {env : Env} {h : aA} {r : jZ}, fE P G C n ops l pend env h = some r → fE P G C' n ops l pend env h = some r
 | [], pend, env, h, r, he => he
 | x :: rest, pend, env, h, r, he => by
  simp only [fE] at he ⊢
  split at he
  ·cases he
  ·rename_i o ho
   split at he
   ·split at he
    ·rename_i hc
     rw [if_pos hc]
     split at he
     ·rename_i env' h' hs
      rw [n6 hl hs]
      exact l9 hl rest he
     ·rename_i hno
      cases hq : jD P G C n ops o env h with
      | none => rw [hq] at he; cases he
      | some q =>
       rw [hq] at he
       rw [n6 hl hq]
       cases q with
       | ok e h' => exact (hno _ _ hq).elim
       | panic ch h' => exact he
    ·cases he
   ·split at he
    ·exact l9 hl rest he
    ·cases he
   ·split at he
    ·exact l9 hl rest he
    ·cases he
   ·split at he
    ·exact l9 hl rest he
    ·cases he

def aGc (r1 r2 : oV) : Prop := ∀ ops draw env h r, r1 ops draw env h = some r → r2 ops draw env h = some r

theorem jU {C C' : bK} (hl : bK.le C C') (n : Nat) : aGc (lO P G C n) (lO P G C' n) := by
 intro ops draw env h r hr
 unfold lO at hr ⊢
 split at hr
 ·rename_i hd
  rw [if_pos hd]
  unfold aAv at hr ⊢
  split at hr
  ·rename_i l hpl
   simp only [l9 hl l hr]
  ·cases hr
 ·rename_i hd
  rw [if_neg hd]
  exact dZ hl _ hr

theorem dU {r1 r2 : oV} (hl : aGc r1 r2) : ∀ (k : Nat) (c : Code) (env : Env) (h : aA) (r : gZ × Env × aA), exec G r1 k c env h = some r → exec G r2 k c env h = some r := by
 intro k
 induction k with
 | zero => intro c env h r he; simp [exec] at he
 | succ k ih =>
  intro c env h r he
  unfold exec at he ⊢
  cases c with
  | region id ops draw =>
   simp only at he ⊢
   split at he
   ·rename_i e h' hr; rw [hl _ _ _ _ _ hr]; exact he
   ·rename_i ch h' hr; rw [hl _ _ _ _ _ hr]; exact he
   ·cases he
  | seq x y =>
   simp only at he ⊢
   split at he
   ·rename_i e h' hr
    rw [ih x env h _ hr]
    exact ih y e h' r he
   ·rename_i hno
    rw [ih x env h _ he]
    obtain ⟨ax, e, h'⟩ := r
    cases ax <;> first | rfl | exact (hno _ _ he).elim
  | cond c x y =>
   simp only at he ⊢
   split at he
   ·exact ih x env h r he
   ·exact ih y env h r he
   ·cases he
  | block id b =>
   simp only at he ⊢
   split at he
   ·rename_i id' e h' hr
    rw [ih b env h _ hr]
    exact he
   ·rename_i hno
    rw [ih b env h _ he]
    obtain ⟨ax, e, h'⟩ := r
    cases ax <;> first | rfl | exact (hno _ _ _ he).elim
  | loop b =>
   simp only at he ⊢
   split at he
   ·rename_i e h' hr
    rw [ih b env h _ hr]
    exact ih (.loop b) e h' r he
   ·rename_i hno
    rw [ih b env h _ he]
    obtain ⟨ax, e, h'⟩ := r
    cases ax <;> first | rfl | exact (hno _ _ he).elim
  | _ => exact he

theorem aAm {r1 r2 : Nat → oV} (hl : ∀ n, aGc (r1 n) (r2 n)) {k k' : Nat} (hk : k ≤ k') {f : FuncId} {args : List Value} {h : aA} {r : bR} (hc : jN P G r1 k f args h = some r) : jN P G r2 k' f args h = some r := by
 unfold jN at hc ⊢
 split at hc
 ·cases hc
 ·rename_i fn hf
  split at hc
  ·cases hc
  ·rename_i c hb
   split at hc
   ·rename_i hle
    rw [if_pos hle]
    cases hq : exec G (r1 fn.ntmps) k c (jL args) h with
    | none => rw [hq] at hc; cases hc
    | some q =>
     rw [hq] at hc
     have := mL hk (dU (hl fn.ntmps) k c _ _ _ hq)
     rw [this]
     exact hc
   ·cases hc

theorem wA {X : eQ} (hX : bW X) : ∀ k, bK.le (bZ P G X k) (bZ P G X (k + 1))
 | 0 => fun f args h r hc => by simp [bZ] at hc
 | k + 1 => by
  intro f args h r hc
  have ih := wA hX k
  simp only [bZ] at hc
  have hn : bZ P G X (k + 1 + 1) f args h = (match X f with
   | some o => o (bZ P G X (k + 1)) args h
   | none => jN P G (lO P G (bZ P G X (k + 1))) (k + 1) f args h) := rfl
  rw [hn]
  split at hc
  ·rename_i o ho
   exact hX.mono f o ho _ _ ih args h r hc
  ·rename_i ho
   exact aAm (fun n => jU ih n) (Nat.le_succ k) hc

theorem cR {X : eQ} (hX : bW X) {k k' : Nat} (hk : k ≤ k') : bK.le (bZ P G X k) (bZ P G X k') := by
 intro f args h r hc
 induction hk with
 | refl => exact hc
 | step _ ih => exact wA hX _ f args h r ih

def aMg (P : Program) (G : Nat) (X : eQ) (f : FuncId) (args : List Value) (h : aA) (r : bR) : Prop := ∃ k, bZ P G X k f args h = some r

end
end Go.Am
end
