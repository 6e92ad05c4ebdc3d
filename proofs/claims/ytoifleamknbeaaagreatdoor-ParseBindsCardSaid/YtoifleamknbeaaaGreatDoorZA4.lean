/- The abstract machine, fourth part: the walk, its rules, and what a law asks. -/
import Derived.Test.YtoifleamknbeaaaGreatDoorZA3
import Derived.Defers
import Derived.WideShapes
import Derived.Carry
import Derived.ChangeSame
import Derived.RowKit
import Derived.OpenShut
section
namespace Go.Am
open Go.RowKit (Below)

def upd (env : Env) (d : Nat) (v : Value) : Env := fun t => if t = d then some v else env t

section
variable (P : Program) (G : Nat) (X : ExtFn) (n : Nat)

def WCall (f : FuncId) (args : List Value) (h : Heap) (Q : ARes → Prop) : Prop := ∃ k r, callN P G X k f args h = some r ∧ Q r

def WCode (c : Code) (env : Env) (h : Heap) (Q : AExit → Env → Heap → Prop) : Prop :=
 ∃ k x e h', exec G (regA P G (callN P G X k) n) k c env h = some (x, e, h') ∧ Q x e h'

def WPut (dst : Option Tmp) (v : Value) (env : Env) (K : Env → Prop) : Prop :=
 match dst with
 | none => K env
 | some d => d < n ∧ K (upd env d v)

def WStep (ops : Array Oper) (o : Oper) (env : Env) (h : Heap) (K : SRes → Prop) : Prop :=
 match wantedA ops env o with
 | none => False
 | some false => WPut n o.dst undef env fun e => K (.ok e h)
 | some true => match opA P G env o h with
  | none => False
  | some (.val v h') => WPut n o.dst v env fun e => K (.ok e h')
  | some (.skip h') => WPut n o.dst undef env fun e => K (.ok e h')
  | some (.enter f args) => WCall P G X f args h fun r => match r with
   | .ret v h' => WPut n o.dst v env fun e => K (.ok e h')
   | .panic ch h' => K (.panic ch h')
  | some (.panic v) => K (.panic [{ v, recovered := false }] h)

def WOps (ops : Array Oper) : List Oper → Env → Heap → (SRes → Prop) → Prop
 | [], env, h, Q => Q (.ok env h)
 | o :: l, env, h, Q => WStep P G X n ops o env h fun r => match r with
  | .ok e h' => WOps ops l e h' Q
  | .panic ch h' => Q (.panic ch h')

end

section
variable {P : Program} {G : Nat} {X : ExtFn} {n : Nat}

theorem WCall.mono {f : FuncId} {args : List Value} {h : Heap} {Q Q' : ARes → Prop} (hw : WCall P G X f args h Q) (hq : ∀ r, Q r → Q' r) : WCall P G X f args h Q' :=
 let ⟨k, r, hr, h'⟩ := hw; ⟨k, r, hr, hq r h'⟩

theorem WCall.of {f : FuncId} {args : List Value} {h : Heap} {r : ARes} (hc : CallsA P G X f args h r) {Q : ARes → Prop} (hq : Q r) : WCall P G X f args h Q :=
 let ⟨k, hk⟩ := hc; ⟨k, r, hk, hq⟩

theorem WCode.mono {c : Code} {env : Env} {h : Heap} {Q Q' : AExit → Env → Heap → Prop} (hw : WCode P G X n c env h Q) (hq : ∀ x e h, Q x e h → Q' x e h) : WCode P G X n c env h Q' :=
 let ⟨k, x, e, h', hr, h2⟩ := hw; ⟨k, x, e, h', hr, hq _ _ _ h2⟩

theorem putA_upd {dst : Option Tmp} {v : Value} {env : Env} {K : Env → Prop} (hp : WPut n dst v env K) : ∃ e, putA n dst v env = some e ∧ K e := by
 unfold WPut at hp
 unfold putA
 cases dst with
 | none => exact ⟨env, rfl, hp⟩
 | some d => exact ⟨_, if_pos hp.1, hp.2⟩

theorem WStep.out {ops : Array Oper} {o : Oper} {env : Env} {h : Heap} {K : SRes → Prop} (hw : WStep P G X n ops o env h K) : ∃ k r, stepA P G (callN P G X k) n ops o env h = some r ∧ K r := by
 unfold WStep at hw
 unfold stepA
 cases hwant : wantedA ops env o with
 | none => rw [hwant] at hw; exact hw.elim
 | some b =>
  rw [hwant] at hw
  cases b with
  | false =>
   obtain ⟨e, he, hk⟩ := putA_upd hw
   exact ⟨0, _, by simp only [he, Option.map_some], hk⟩
  | true =>
   cases ho : opA P G env o h with
   | none => simp only [ho] at hw
   | some a =>
    simp only [ho] at hw
    cases a with
    | val v h' =>
     obtain ⟨e, he, hk⟩ := putA_upd hw
     exact ⟨0, _, by simp only [he, Option.map_some], hk⟩
    | skip h' =>
     obtain ⟨e, he, hk⟩ := putA_upd hw
     exact ⟨0, _, by simp only [he, Option.map_some], hk⟩
    | enter f args =>
     obtain ⟨k, r, hr, hq⟩ := hw
     cases r with
     | ret v h' =>
      obtain ⟨e, he, hk⟩ := putA_upd hq
      exact ⟨k, _, by simp only [hr, he, Option.map_some], hk⟩
     | panic ch h' => exact ⟨k, _, by simp only [hr], hq⟩
    | panic v => exact ⟨0, _, rfl, hw⟩

theorem WOps.out (hX : ExtMono X) {ops : Array Oper} : ∀ (l : List Nat) (os : List Oper) {env : Env} {h : Heap} {Q : SRes → Prop}, (l.map fun i => ops[i]?) = os.map some → WOps P G X n ops os env h Q →
  ∃ k r, execOps P G (callN P G X k) n ops l env h = some r ∧ Q r
 | [], [], env, h, Q, _, hw => ⟨0, _, rfl, hw⟩
 | [], o :: os, env, h, Q, he, hw => by simp at he
 | i :: l, [], env, h, Q, he, hw => by simp at he
 | i :: l, o :: os, env, h, Q, he, hw => by
  simp only [List.map_cons, List.cons.injEq] at he
  obtain ⟨hi, hl⟩ := he
  obtain ⟨k, r, hs, hr⟩ := WStep.out hw
  cases r with
  | ok e h' =>
   obtain ⟨k2, r2, h2, h3⟩ := WOps.out hX l os hl hr
   refine ⟨max k k2, r2, ?_, h3⟩
   unfold execOps
   rw [hi]
   simp only [stepA_le (callN_le hX (Nat.le_max_left k k2)) hs]
   exact execOps_le (callN_le hX (Nat.le_max_right k k2)) l h2
  | panic ch h' =>
   refine ⟨k, _, ?_, hr⟩
   unfold execOps
   rw [hi]
   simp only [hs]

theorem range_getElem? (ops : Array Oper) : ((List.range ops.size).map fun i => ops[i]?) = ops.toList.map some := by
 apply List.ext_getElem?
 intro i
 by_cases hi : i < ops.size
 ·simp [hi]
 ·simp [hi]

theorem WCode.region (hX : ExtMono X) {id : Nat} {ops : Array Oper} {env : Env} {h : Heap} {Q : AExit → Env → Heap → Prop}
  (hw : WOps P G X n ops ops.toList env h fun r => match r with | .ok e h' => Q .normal e h' | .panic ch h' => Q (.panic ch) env h') : WCode P G X n (.region id ops false) env h Q := by
 obtain ⟨k, r, hr, hq⟩ := WOps.out hX _ _ (range_getElem? ops) hw
 have hreg : regA P G (callN P G X (k + 1)) n ops false env h = some r := by
  unfold regA
  simp only [Bool.false_eq_true, if_false]
  exact execOps_le (callN_le hX (Nat.le_succ k)) _ hr
 cases r with
 | ok e h' => exact ⟨k + 1, .normal, e, h', by simp only [exec, hreg], hq⟩
 | panic ch h' => exact ⟨k + 1, .panic ch, env, h', by simp only [exec, hreg], hq⟩

theorem WCode.le (hX : ExtMono X) {k k' : Nat} (hk : k ≤ k') {c : Code} {env : Env} {h : Heap} {r : AExit × Env × Heap} (he : exec G (regA P G (callN P G X k) n) k c env h = some r) :
  exec G (regA P G (callN P G X k') n) k' c env h = some r :=
 exec_le hk (exec_reg_le (regA_le (callN_le hX hk) n) k c env h r he)

theorem WCode.seq (hX : ExtMono X) {a b : Code} {env : Env} {h : Heap} {Q : AExit → Env → Heap → Prop}
  (hw : WCode P G X n a env h fun x e h' => match x with | .normal => WCode P G X n b e h' Q | x => Q x e h') : WCode P G X n (.seq a b) env h Q := by
 obtain ⟨k, x, e, h', he, hq⟩ := hw
 cases x with
 | normal =>
  obtain ⟨k2, x2, e2, h2, he2, hq2⟩ := hq
  refine ⟨max k k2 + 1, x2, e2, h2, ?_, hq2⟩
  have h3 := WCode.le hX (Nat.le_succ_of_le (Nat.le_max_left k k2)) he
  have h4 := WCode.le hX (Nat.le_succ_of_le (Nat.le_max_right k k2)) he2
  have h3' : exec G (regA P G (callN P G X (max k k2 + 1)) n) (max k k2) a env h = some (.normal, e, h') := exec_reg_le (regA_le (callN_le hX (by omega)) n) _ _ _ _ _ (exec_le (Nat.le_max_left k k2) he)
  have h4' : exec G (regA P G (callN P G X (max k k2 + 1)) n) (max k k2) b e h' = some (x2, e2, h2) := exec_reg_le (regA_le (callN_le hX (by omega)) n) _ _ _ _ _ (exec_le (Nat.le_max_right k k2) he2)
  simp only [exec, h3', h4']
 | _ =>
  refine ⟨k + 1, _, e, h', ?_, hq⟩
  have h3' : exec G (regA P G (callN P G X (k + 1)) n) k a env h = _ := exec_reg_le (regA_le (callN_le hX (Nat.le_succ k)) n) _ _ _ _ _ he
  simp only [exec, h3']

theorem WCode.cond (hX : ExtMono X) {c : Operand} {a b : Code} {env : Env} {h : Heap} {Q : AExit → Env → Heap → Prop} {t : Bool} (hc : evalA G env c = some (.bool t))
  (hw : WCode P G X n (if t then a else b) env h Q) : WCode P G X n (.cond c a b) env h Q := by
 obtain ⟨k, x, e, h', he, hq⟩ := hw
 refine ⟨k + 1, x, e, h', ?_, hq⟩
 have h3 := exec_reg_le (regA_le (callN_le (P := P) (G := G) hX (Nat.le_succ k)) n) _ _ _ _ _ he
 cases t
 ·simp only [exec, hc]; exact h3
 ·simp only [exec, hc]; exact h3

theorem WCode.block (hX : ExtMono X) {id : Nat} {b : Code} {env : Env} {h : Heap} {Q : AExit → Env → Heap → Prop}
  (hw : WCode P G X n b env h fun x e h' => match x with | .exit id' => if id' = id then Q .normal e h' else Q (.exit id') e h' | x => Q x e h') : WCode P G X n (.block id b) env h Q := by
 obtain ⟨k, x, e, h', he, hq⟩ := hw
 have h3 := exec_reg_le (regA_le (callN_le (P := P) (G := G) hX (Nat.le_succ k)) n) _ _ _ _ _ he
 cases x with
 | exit id' =>
  simp only at hq
  by_cases hid : id' = id
  ·rw [if_pos hid] at hq
   exact ⟨k + 1, .normal, e, h', by simp only [exec, h3, if_pos hid], hq⟩
  ·rw [if_neg hid] at hq
   exact ⟨k + 1, .exit id', e, h', by simp only [exec, h3, if_neg hid], hq⟩
 | normal => exact ⟨k + 1, _, e, h', by simp only [exec, h3], hq⟩
 | ret => exact ⟨k + 1, _, e, h', by simp only [exec, h3], hq⟩
 | panic ch => exact ⟨k + 1, _, e, h', by simp only [exec, h3], hq⟩

theorem WCode.loop (hX : ExtMono X) {b : Code} {env : Env} {h : Heap} {Q : AExit → Env → Heap → Prop}
  (hw : WCode P G X n b env h fun x e h' => match x with | .normal => WCode P G X n (.loop b) e h' Q | x => Q x e h') : WCode P G X n (.loop b) env h Q := by
 obtain ⟨k, x, e, h', he, hq⟩ := hw
 cases x with
 | normal =>
  obtain ⟨k2, x2, e2, h2, he2, hq2⟩ := hq
  refine ⟨max k k2 + 1, x2, e2, h2, ?_, hq2⟩
  have h3' : exec G (regA P G (callN P G X (max k k2 + 1)) n) (max k k2) b env h = some (.normal, e, h') := exec_reg_le (regA_le (callN_le hX (by omega)) n) _ _ _ _ _ (exec_le (Nat.le_max_left k k2) he)
  have h4' : exec G (regA P G (callN P G X (max k k2 + 1)) n) (max k k2) (.loop b) e h' = some (x2, e2, h2) := exec_reg_le (regA_le (callN_le hX (by omega)) n) _ _ _ _ _ (exec_le (Nat.le_max_right k k2) he2)
  unfold exec
  simp only [h3', h4']
 | _ =>
  refine ⟨k + 1, _, e, h', ?_, hq⟩
  have h3' := exec_reg_le (regA_le (callN_le (P := P) (G := G) hX (Nat.le_succ k)) n) _ _ _ _ _ he
  unfold exec
  simp only [h3']

theorem WCode.skip {env : Env} {h : Heap} {Q : AExit → Env → Heap → Prop} (hq : Q .normal env h) : WCode P G X n .skip env h Q := ⟨1, .normal, env, h, rfl, hq⟩
theorem WCode.exit {id : Nat} {env : Env} {h : Heap} {Q : AExit → Env → Heap → Prop} (hq : Q (.exit id) env h) : WCode P G X n (.exit id) env h Q := ⟨1, .exit id, env, h, rfl, hq⟩
theorem WCode.ret {env : Env} {h : Heap} {Q : AExit → Env → Heap → Prop} (hq : Q .ret env h) : WCode P G X n .ret env h Q := ⟨1, .ret, env, h, rfl, hq⟩

def Ends (P : Program) (results : List ResultVar) (Q : ARes → Prop) (x : AExit) (e : Env) (h : Heap) : Prop :=
 match x with
 | .normal | .ret => match resultA P e h results with
  | some vs => Q (.ret (answer vs) h)
  | none => False
 | .panic ch => Q (.panic ch h)
 | .exit _ => False

theorem WCall.body (_hX : ExtMono X) {f : FuncId} {fn : Func} {c : Code} {args : List Value} {h : Heap} {Q : ARes → Prop} (hf : P.funcs[f]? = some fn) (hb : fn.body = some c) (hx : X f = none) (hl : args.length ≤ fn.ntmps)
    (hw : WCode P G X fn.ntmps c (argEnv args) h (Ends P fn.results.toList Q)) : WCall P G X f args h Q := by
  obtain ⟨k, x, e, h', he, hq⟩ := hw
  have key : ∀ r, (match (some (x, e, h') : Option (AExit × Env × Heap)) with
        | some (.normal, env, h') => (resultA P env h' fn.results.toList).map fun vs => ARes.ret (answer vs) h'
        | some (.ret, env, h') => (resultA P env h' fn.results.toList).map fun vs => .ret (answer vs) h'
        | some (.panic ch, _, h') => some (.panic ch h')
        | _ => none) = some r → callN P G X (k + 1) f args h = some r := by
    intro r hr
    have : callN P G X (k + 1) f args h = callBody P G (regA P G (callN P G X k)) k f args h := by simp only [callN, hx]
    rw [this]
    unfold callBody
    rw [hf]
    simp only
    rw [hb]
    simp only
    rw [if_pos hl, he]
    exact hr
  unfold Ends at hq
  cases x with
  | normal =>
    simp only at hq
    split at hq
    · rename_i vs hv; exact ⟨k + 1, _, key _ (by simp only [hv, Option.map_some]), hq⟩
    · exact hq.elim
  | ret =>
    simp only at hq
    split at hq
    · rename_i vs hv; exact ⟨k + 1, _, key _ (by simp only [hv, Option.map_some]), hq⟩
    · exact hq.elim
  | panic ch => exact ⟨k + 1, _, key _ rfl, hq⟩
  | exit id => exact hq.elim

theorem WCall.out {f : FuncId} {args : List Value} {h : Heap} {Q : ARes → Prop} (hw : WCall P G X f args h Q) : ∃ k r, callN P G X k f args h = some r ∧ Q r := hw
theorem WCall.intro {f : FuncId} {args : List Value} {h : Heap} {Q : ARes → Prop} (hw : ∃ k r, callN P G X k f args h = some r ∧ Q r) : WCall P G X f args h Q := hw

attribute [irreducible] WCall

end
end Go.Am
end

section
namespace Go.Am
open Go.RowKit (Below)

section
variable (P : Program) (G : Nat) (X : ExtFn) (n : Nat)

def WC (c : Code) (env : Env) (h : Heap) (N : Env → Heap → Prop) (E : Nat → Env → Heap → Prop) (R : Env → Heap → Prop) (F : List PanicEntry → Heap → Prop) : Prop :=
 WCode P G X n c env h fun x e h => match x with
  | .normal => N e h
  | .exit i => E i e h
  | .ret => R e h
  | .panic ch => F ch h

def WR (ops : Array Oper) (l : List Oper) (env : Env) (h : Heap) (N : Env → Heap → Prop) (F : List PanicEntry → Heap → Prop) : Prop :=
 WOps P G X n ops l env h fun r => match r with
  | .ok e h => N e h
  | .panic ch h => F ch h

end

section
variable {P : Program} {G : Nat} {X : ExtFn} {n : Nat} {N : Env → Heap → Prop} {E : Nat → Env → Heap → Prop} {R : Env → Heap → Prop} {F : List PanicEntry → Heap → Prop} {env : Env} {h : Heap}

theorem WC.seq (hX : ExtMono X) {a b : Code} (hw : WC P G X n a env h (fun e h => WC P G X n b e h N E R F) E R F) : WC P G X n (.seq a b) env h N E R F := by
 refine WCode.seq hX (WCode.mono hw fun x e h' hq => ?_)
 cases x <;> exact hq

theorem WC.cond (hX : ExtMono X) {c : Operand} {a b : Code} {t : Bool} (hc : evalA G env c = some (.bool t)) (hw : WC P G X n (if t then a else b) env h N E R F) : WC P G X n (.cond c a b) env h N E R F :=
 WCode.cond hX hc hw

theorem WC.condT (hX : ExtMono X) {c : Operand} {a b : Code} (hc : evalA G env c = some (.bool true) := by first | rfl | assumption) (hw : WC P G X n a env h N E R F) : WC P G X n (.cond c a b) env h N E R F :=
 WCode.cond hX hc hw
theorem WC.condF (hX : ExtMono X) {c : Operand} {a b : Code} (hc : evalA G env c = some (.bool false) := by first | rfl | assumption) (hw : WC P G X n b env h N E R F) : WC P G X n (.cond c a b) env h N E R F :=
 WCode.cond hX hc hw
theorem WC.condB (hX : ExtMono X) {c : Operand} {a b : Code} {t : Bool} (hc : evalA G env c = some (.bool t) := by first | rfl | assumption) (h1 : t = true → WC P G X n a env h N E R F) (h2 : t = false → WC P G X n b env h N E R F) : WC P G X n (.cond c a b) env h N E R F := by
 cases t
 ·exact WC.condF hX hc (h2 rfl)
 ·exact WC.condT hX hc (h1 rfl)

theorem WC.block (hX : ExtMono X) {id : Nat} {b : Code} (hw : WC P G X n b env h N (fun i e h => if i = id then N e h else E i e h) R F) : WC P G X n (.block id b) env h N E R F := by
 refine WCode.block hX (WCode.mono hw fun x e h' hq => ?_)
 cases x with
 | exit i =>
  simp only at hq ⊢
  split
  ·rename_i hi; rw [if_pos hi] at hq; exact hq
  ·rename_i hi; rw [if_neg hi] at hq; exact hq
 | _ => exact hq

theorem exit_here {i : Nat} {a b : Prop} (h : a) : if i = i then a else b := by rw [if_pos rfl]; exact h
theorem exit_up {i j : Nat} (hne : (i == j) = false) {a b : Prop} (h : b) : if i = j then a else b := by
 rw [if_neg (by intro e; subst e; simp at hne)]; exact h

theorem WC.loopInv (hX : ExtMono X) {α : Type} {b : Code} (m : α → Nat) (Inv : α → Env → Heap → Prop) (a0 : α) (h0 : Inv a0 env h)
  (step : ∀ a env h, (∀ a' env' h', m a' < m a → Inv a' env' h' → WC P G X n (.loop b) env' h' N E R F) → Inv a env h →
   WC P G X n b env h (fun env' h' => WC P G X n (.loop b) env' h' N E R F) E R F) : WC P G X n (.loop b) env h N E R F := by
 suffices ∀ k a env h, m a < k → Inv a env h → WC P G X n (.loop b) env h N E R F from this _ a0 env h (Nat.lt_succ_self _) h0
 intro k
 induction k with
 | zero => intro a env h hm; omega
 | succ k ih =>
  intro a env h hm hi
  refine WCode.loop hX (WCode.mono (step a env h (fun a' env' h' hl hi' => ih a' env' h' (by omega) hi') hi) fun x e h' hq => ?_)
  cases x <;> exact hq

theorem WC.skip (hq : N env h) : WC P G X n .skip env h N E R F := WCode.skip hq
theorem WC.exit {id : Nat} (hq : E id env h) : WC P G X n (.exit id) env h N E R F := WCode.exit hq
theorem WC.ret (hq : R env h) : WC P G X n .ret env h N E R F := WCode.ret hq

theorem WC.region (hX : ExtMono X) {id : Nat} {ops : Array Oper} (hw : WR P G X n ops ops.toList env h N F) : WC P G X n (.region id ops false) env h N E R F := by
 refine WCode.region hX ?_
 have : ∀ (l : List Oper) (env : Env) (h : Heap) (Q Q' : SRes → Prop), (∀ r, Q r → Q' r) → WOps P G X n ops l env h Q → WOps P G X n ops l env h Q' := by
  intro l
  induction l with
  | nil => intro env h Q Q' hq hw; exact hq _ hw
  | cons o l ih =>
   intro env h Q Q' hq hw
   have mono : ∀ (K K' : SRes → Prop), (∀ r, K r → K' r) → WStep P G X n ops o env h K → WStep P G X n ops o env h K' := by
    intro K K' hk hs
    have put : ∀ (dst : Option Tmp) (v : Value) (env : Env) (A A' : Env → Prop), (∀ e, A e → A' e) → WPut n dst v env A → WPut n dst v env A' := by
     intro dst v env A A' ha hp
     unfold WPut at hp ⊢
     cases dst with
     | none => exact ha _ hp
     | some d => exact ⟨hp.1, ha _ hp.2⟩
    unfold WStep at hs ⊢
    cases hwant : wantedA ops env o with
    | none => rw [hwant] at hs; exact hs.elim
    | some b =>
     rw [hwant] at hs
     cases b with
     | false => exact put _ _ _ _ _ (fun e => hk _) hs
     | true =>
      cases ho : opA P G env o h with
      | none => simp only [ho] at hs
      | some a =>
       simp only [ho] at hs ⊢
       cases a with
       | val v h' => exact put _ _ _ _ _ (fun e => hk _) hs
       | skip h' => exact put _ _ _ _ _ (fun e => hk _) hs
       | enter f args =>
        obtain ⟨k, r, hr, hq⟩ := WCall.out hs
        refine WCall.intro ⟨k, r, hr, ?_⟩
        cases r with
        | ret v h' => exact put _ _ _ _ _ (fun e => hk _) hq
        | panic ch h' => exact hk _ hq
       | panic v => exact hk _ hs
   refine mono _ _ (fun r hr => ?_) hw
   cases r with
   | ok e h' => exact ih _ _ _ _ hq hr
   | panic ch h' => exact hq _ hr
 refine this _ _ _ _ _ (fun r hr => ?_) hw
 cases r <;> exact hr

theorem WR.nil {ops : Array Oper} (hq : N env h) : WR P G X n ops [] env h N F := hq

theorem WR.val {ops : Array Oper} {o : Oper} {l : List Oper} {d : Nat} {v : Value} {h' : Heap} (hg : wantedA ops env o = some true) (hd : o.dst = some d) (hn : Nat.blt d n = true) (ho : opA P G env o h = some (.val v h'))
  (hk : WR P G X n ops l (upd env d v) h' N F) : WR P G X n ops (o :: l) env h N F := by
 unfold WR WOps WStep
 rw [hg]
 simp only [ho, hd, WPut]
 exact ⟨by simpa [Nat.blt_eq] using hn, hk⟩

theorem WR.ask {ops : Array Oper} {o : Oper} {l : List Oper} {d : Nat} {b : Bool} {h' : Heap} (hg : wantedA ops env o = some true) (hd : o.dst = some d) (hn : Nat.blt d n = true) (ho : opA P G env o h = some (.val (.bool b) h'))
  (h1 : b = true → WR P G X n ops l (upd env d (.bool true)) h' N F) (h2 : b = false → WR P G X n ops l (upd env d (.bool false)) h' N F) : WR P G X n ops (o :: l) env h N F := by
 refine WR.val hg hd hn ho ?_
 cases b
 ·exact h2 rfl
 ·exact h1 rfl

theorem WR.askP {ops : Array Oper} {o : Oper} {l : List Oper} {d : Nat} {p : Prop} [Decidable p] {h' : Heap} (hg : wantedA ops env o = some true) (hd : o.dst = some d) (hn : Nat.blt d n = true) (ho : opA P G env o h = some (.val (.bool (decide p)) h'))
  (h1 : p → WR P G X n ops l (upd env d (.bool true)) h' N F) (h2 : ¬p → WR P G X n ops l (upd env d (.bool false)) h' N F) : WR P G X n ops (o :: l) env h N F := by
 refine WR.ask hg hd hn ho (fun hb => h1 (by simpa using hb)) (fun hb => h2 (by simpa using hb))

theorem WR.unwanted {ops : Array Oper} {o : Oper} {l : List Oper} {d : Nat} (hg : wantedA ops env o = some false) (hd : o.dst = some d) (hn : Nat.blt d n = true)
  (hk : WR P G X n ops l (upd env d undef) h N F) : WR P G X n ops (o :: l) env h N F := by
 unfold WR WOps WStep
 rw [hg]
 simp only [hd, WPut]
 exact ⟨by simpa [Nat.blt_eq] using hn, hk⟩

theorem WR.unwanted' {ops : Array Oper} {o : Oper} {l : List Oper} (hg : wantedA ops env o = some false) (hd : o.dst = none)
  (hk : WR P G X n ops l env h N F) : WR P G X n ops (o :: l) env h N F := by
 unfold WR WOps WStep
 rw [hg]
 simp only [hd, WPut]
 exact hk

theorem WR.store {ops : Array Oper} {o : Oper} {l : List Oper} {h' : Heap} (hg : wantedA ops env o = some true) (hd : o.dst = none) (ho : opA P G env o h = some (.skip h'))
  (hk : WR P G X n ops l env h' N F) : WR P G X n ops (o :: l) env h N F := by
 unfold WR WOps WStep
 rw [hg]
 simp only [ho, hd, WPut]
 exact hk

theorem WR.call {ops : Array Oper} {o : Oper} {l : List Oper} {d : Nat} {f : FuncId} {args : List Value} (hg : wantedA ops env o = some true) (hd : o.dst = some d) (hn : Nat.blt d n = true) (ho : opA P G env o h = some (.enter f args))
  (hk : WCall P G X f args h fun r => match r with | .ret v h' => WR P G X n ops l (upd env d v) h' N F | .panic ch h' => F ch h') : WR P G X n ops (o :: l) env h N F := by
 unfold WR WOps WStep
 rw [hg]
 simp only [ho, hd, WPut]
 refine WCall.mono hk fun r hr => ?_
 cases r with
 | ret v h' => exact ⟨by simpa [Nat.blt_eq] using hn, hr⟩
 | panic ch h' => exact hr

theorem WCall.walk (hX : ExtMono X) {f : FuncId} {fn : Func} {c : Code} {args : List Value} {Q : ARes → Prop} (hf : P.funcs[f]? = some fn) (hb : fn.body = some c) (hx : X f = none) (hn : fn.ntmps = n) (hl : Nat.ble args.length n = true)
  (hw : WC P G X n c (argEnv args) h (fun e h => ∃ vs, resultA P e h fn.results.toList = some vs ∧ Q (.ret (answer vs) h)) (fun _ _ _ => False)
   (fun e h => ∃ vs, resultA P e h fn.results.toList = some vs ∧ Q (.ret (answer vs) h)) fun ch h => Q (.panic ch h)) : WCall P G X f args h Q := by
 subst hn
 refine WCall.body hX hf hb hx (by simpa [Nat.ble_eq] using hl) (WCode.mono hw fun x e h' hq => ?_)
 unfold Ends
 cases x with
 | normal => obtain ⟨vs, hv, hq⟩ := hq; simp only [hv]; exact hq
 | ret => obtain ⟨vs, hv, hq⟩ := hq; simp only [hv]; exact hq
 | exit i => exact hq
 | panic ch => exact hq

/- The operations. -/

theorem opA_move {d t p a g} {x : Operand} {v : Value} (hx : evalA G env x = some v) : opA P G env ⟨d, .move x, t, p, a, g⟩ h = some (.val v h) := by simp only [opA, hx, Option.map_some]
theorem opA_assign {d t p a g} {x : Operand} {v : Value} (hx : evalA G env x = some v) : opA P G env ⟨d, .assign x, t, p, a, g⟩ h = some (.val v h) := by simp only [opA, hx, Option.map_some]
theorem opA_pickT {d t p a g} {c x y : Operand} {v : Value} (hc : evalA G env c = some (.bool true)) (hx : evalA G env x = some v) : opA P G env ⟨d, .pick c x y, t, p, a, g⟩ h = some (.val v h) := by simp only [opA, hc, hx, Option.map_some]
theorem opA_pickF {d t p a g} {c x y : Operand} {v : Value} (hc : evalA G env c = some (.bool false)) (hy : evalA G env y = some v) : opA P G env ⟨d, .pick c x y, t, p, a, g⟩ h = some (.val v h) := by simp only [opA, hc, hy, Option.map_some]

theorem opA_int {d t p a g} {op : BinOp} {ty : TypeId} {x y : Operand} {c} {k : IntKind} {i j : Int} {v : Value} (hx : evalA G env x = some (.int k i)) (hy : evalA G env y = some (.int k j)) (hv : binA P op ty (.int k i) (.int k j) = some v) :
  opA P G env ⟨d, .binOp op ty x y c, t, p, a, g⟩ h = some (.val v h) := by
 have : eqAsk P op ty x y (.int k i) (.int k j) = true := by unfold eqAsk eqAskBoth; simp
 simp only [opA, hx, hy, this, hv, Option.map_some, if_true]

theorem opA_eqI {d t p a g} {ty : TypeId} {x y : Operand} {c} {k : IntKind} {i j : Int} (hx : evalA G env x = some (.int k i)) (hy : evalA G env y = some (.int k j)) : opA P G env ⟨d, .binOp .eql ty x y c, t, p, a, g⟩ h = some (.val (.bool (decide (i = j))) h) :=
 opA_int hx hy (by simp [binA, intBin]; rfl)
theorem opA_neI {d t p a g} {ty : TypeId} {x y : Operand} {c} {k : IntKind} {i j : Int} (hx : evalA G env x = some (.int k i)) (hy : evalA G env y = some (.int k j)) : opA P G env ⟨d, .binOp .neq ty x y c, t, p, a, g⟩ h = some (.val (.bool (decide (i ≠ j))) h) :=
 opA_int hx hy (by simp only [binA, intBin, if_true]; congr 2; by_cases e : i = j <;> simp [e])
theorem opA_ltI {d t p a g} {ty : TypeId} {x y : Operand} {c} {k : IntKind} {i j : Int} (hx : evalA G env x = some (.int k i)) (hy : evalA G env y = some (.int k j)) : opA P G env ⟨d, .binOp .lss ty x y c, t, p, a, g⟩ h = some (.val (.bool (decide (i < j))) h) :=
 opA_int hx hy (by simp [binA, intBin])
theorem opA_leI {d t p a g} {ty : TypeId} {x y : Operand} {c} {k : IntKind} {i j : Int} (hx : evalA G env x = some (.int k i)) (hy : evalA G env y = some (.int k j)) : opA P G env ⟨d, .binOp .leq ty x y c, t, p, a, g⟩ h = some (.val (.bool (decide (i ≤ j))) h) :=
 opA_int hx hy (by simp [binA, intBin])
theorem opA_gtI {d t p a g} {ty : TypeId} {x y : Operand} {c} {k : IntKind} {i j : Int} (hx : evalA G env x = some (.int k i)) (hy : evalA G env y = some (.int k j)) : opA P G env ⟨d, .binOp .gtr ty x y c, t, p, a, g⟩ h = some (.val (.bool (decide (j < i))) h) :=
 opA_int hx hy (by simp [binA, intBin])
theorem opA_geI {d t p a g} {ty : TypeId} {x y : Operand} {c} {k : IntKind} {i j : Int} (hx : evalA G env x = some (.int k i)) (hy : evalA G env y = some (.int k j)) : opA P G env ⟨d, .binOp .geq ty x y c, t, p, a, g⟩ h = some (.val (.bool (decide (j ≤ i))) h) :=
 opA_int hx hy (by simp [binA, intBin])

theorem wrap_i64_in {n : Int} (h : -9223372036854775808 ≤ n ∧ n ≤ 9223372036854775807) : IntKind.i64.wrap n = n := by rw [IntKind.wrap_i64]; omega

theorem opA_addI {d t p a g} {ty : TypeId} {x y : Operand} {c} {i j : Int} (hx : evalA G env x = some (.int .i64 i)) (hy : evalA G env y = some (.int .i64 j)) (hr : -9223372036854775808 ≤ i + j ∧ i + j ≤ 9223372036854775807) :
  opA P G env ⟨d, .binOp .add ty x y c, t, p, a, g⟩ h = some (.val (.int .i64 (i + j)) h) := opA_int hx hy (by simp [binA, intBin, wrap_i64_in hr])
theorem opA_subI {d t p a g} {ty : TypeId} {x y : Operand} {c} {i j : Int} (hx : evalA G env x = some (.int .i64 i)) (hy : evalA G env y = some (.int .i64 j)) (hr : -9223372036854775808 ≤ i - j ∧ i - j ≤ 9223372036854775807) :
  opA P G env ⟨d, .binOp .sub ty x y c, t, p, a, g⟩ h = some (.val (.int .i64 (i - j)) h) := opA_int hx hy (by simp [binA, intBin, wrap_i64_in hr])
theorem opA_mulI {d t p a g} {ty : TypeId} {x y : Operand} {c} {i j : Int} (hx : evalA G env x = some (.int .i64 i)) (hy : evalA G env y = some (.int .i64 j)) (hr : -9223372036854775808 ≤ i * j ∧ i * j ≤ 9223372036854775807) :
  opA P G env ⟨d, .binOp .mul ty x y c, t, p, a, g⟩ h = some (.val (.int .i64 (i * j)) h) := opA_int hx hy (by simp [binA, intBin, wrap_i64_in hr])

theorem opA_str {d t p a g} {op : BinOp} {ty : TypeId} {x y : Operand} {c} {i j : ByteArray} {v : Value} (hx : evalA G env x = some (.string i)) (hy : evalA G env y = some (.string j)) (hv : strBin op i j = some v) :
  opA P G env ⟨d, .binOp op ty x y c, t, p, a, g⟩ h = some (.val v h) := by
 have : eqAsk P op ty x y (.string i) (.string j) = true := by unfold eqAsk eqAskBoth; simp
 simp only [opA, hx, hy, this, binA, hv, Option.map_some, if_true]

theorem toList_beq (i j : ByteArray) : (i.toList == j.toList) = decide (i = j) := by
 by_cases e : i = j
 ·subst e; simp
 ·have : i.toList ≠ j.toList := by
   intro h
   apply e
   rw [ByteArray.toList_eq, ByteArray.toList_eq] at h
   apply ByteArray.ext
   exact Array.ext' h
  simp [e, this]

theorem opA_eqS {d t p a g} {ty : TypeId} {x y : Operand} {c} {i j : ByteArray} (hx : evalA G env x = some (.string i)) (hy : evalA G env y = some (.string j)) : opA P G env ⟨d, .binOp .eql ty x y c, t, p, a, g⟩ h = some (.val (.bool (decide (i = j))) h) :=
 opA_str hx hy (by simp [strBin, toList_beq])
theorem opA_neS {d t p a g} {ty : TypeId} {x y : Operand} {c} {i j : ByteArray} (hx : evalA G env x = some (.string i)) (hy : evalA G env y = some (.string j)) : opA P G env ⟨d, .binOp .neq ty x y c, t, p, a, g⟩ h = some (.val (.bool (decide (i ≠ j))) h) :=
 opA_str hx hy (by simp [strBin, toList_beq])
theorem opA_addS {d t p a g} {ty : TypeId} {x y : Operand} {c} {i j : ByteArray} (hx : evalA G env x = some (.string i)) (hy : evalA G env y = some (.string j)) (hs : i.size + j.size ≤ 140737488355328) :
  opA P G env ⟨d, .binOp .add ty x y c, t, p, a, g⟩ h = some (.val (.string (i ++ j)) h) :=
 opA_str hx hy (by simp [strBin, hs])

theorem opA_not {d t p a g} {ty : TypeId} {x : Operand} {b : Bool} (hx : evalA G env x = some (.bool b)) : opA P G env ⟨d, .unOp .not ty x, t, p, a, g⟩ h = some (.val (.bool !b) h) := by simp only [opA, hx, unA, Option.map_some]

theorem opA_load {d t p a g} {ty : TypeId} {x : Operand} {i off : Nat} {v : Value} (hx : evalA G env x = some (.pointer (some ⟨i, off, none⟩))) (hv : loadA P ty i off h = some v) : opA P G env ⟨d, .load ty x, t, p, a, g⟩ h = some (.val v h) := by
 simp only [opA, hx, hv, Option.map_some]
theorem opA_store {d t p a g} {ty : TypeId} {x y : Operand} {i off : Nat} {v : Value} {h' : Heap} (hx : evalA G env x = some (.pointer (some ⟨i, off, none⟩))) (hy : evalA G env y = some v) (hv : storeA P ty i off v h = some h') : opA P G env ⟨d, .store ty x y, t, p, a, g⟩ h = some (.skip h') := by
 simp only [opA, hx, hy, hv, Option.map_some]

def gOk (ops : Array Oper) (env : Env) : Option (Nat × Bool) → Option Bool
 | none => some true
 | some (j, want) => match (ops[j]?).bind (·.dst) with
  | none => some false
  | some d => match env d with
   | some (.bool b) => some (b == want)
   | some _ => some false
   | none => none

theorem wantedA_gOk {ops : Array Oper} {env : Env} {o : Oper} : wantedA ops env o = gOk ops env o.guard := by
 unfold wantedA gOk
 cases o.guard <;> rfl

end

def WS (P : Program) (G : Nat) (X : ExtFn) (n : Nat) (lt : Bool) (ops : Array Oper) (o : Oper) (env : Env) (h : Heap) (K : Env → Heap → (Heap → Prop) → Prop) (F : List PanicEntry → Heap → Prop) : Prop :=
 (∃ e, wantedA ops env o = some false ∧ putA n o.dst undef env = some e ∧ K e h fun _ => True) ∨
 (∃ v h' e S, wantedA ops env o = some true ∧ opA P G env o h = some (.val v h') ∧ putA n o.dst v env = some e ∧ (∀ H, S H → opA P G env o H = some (.val v H)) ∧ K e h' S) ∨
 (lt = false ∧ (
  (∃ h' e, wantedA ops env o = some true ∧ opA P G env o h = some (.skip h') ∧ putA n o.dst undef env = some e ∧ K e h' fun _ => True) ∨
  (∃ f args, wantedA ops env o = some true ∧ opA P G env o h = some (.enter f args) ∧ WCall P G X f args h fun r => match r with
   | .ret v h' => ∃ e, putA n o.dst v env = some e ∧ K e h' fun _ => True
   | .panic ch h' => F ch h') ∨
  (∃ v, wantedA ops env o = some true ∧ opA P G env o h = some (.panic v) ∧ F [{ v, recovered := false }] h)))

abbrev Pe := Nat × (Heap → Prop) × Bool

inductive CoversL (P : Program) (G : Nat) : List Pe → List (PRec × Bool) → Prop
 | nil : CoversL P G [] []
 | cons {i : Nat} {S : Heap → Prop} {d : Bool} {q : PRec} {l : List Pe} {r : List (PRec × Bool)} : q.x.i = i → (∀ H, S H → q.Stable P G H) → CoversL P G l r → CoversL P G ((i, S, d) :: l) ((q, d) :: r)

def ClearS : List Pe → Heap → Prop
 | [], _ => True
 | (_, S, true) :: r, h => S h ∧ ClearS r h
 | (_, _, false) :: r, h => ClearS r h

def dirtS : List Pe → List Pe
 | [] => []
 | (i, S, _) :: r => (i, S, true) :: dirtS r

def keepS (bef : Nat) : List Pe → List Pe
 | [] => []
 | (i, S, b) :: r => if bef.testBit i then keepS bef r else (i, S, b) :: keepS bef r

def WD (P : Program) (G : Nat) (X : ExtFn) (n : Nat) (ops : Array Oper) (items : List PItem) (pend : List Pe) (env : Env) (h : Heap) (N : Env → Heap → Prop) (F : List PanicEntry → Heap → Prop) : Prop :=
 ∀ pr, CoversL P G pend pr → ∃ k r, runPi P G (callN P G X k) n ops items pr env h = some r ∧ match r with
  | .ok e h => N e h
  | .panic ch h => F ch h

section
variable {P : Program} {G : Nat} {X : ExtFn} {n : Nat} {N : Env → Heap → Prop} {E : Nat → Env → Heap → Prop} {R : Env → Heap → Prop} {F : List PanicEntry → Heap → Prop} {env : Env} {h : Heap}

theorem CoversL.clear {pend : List Pe} {pr : List (PRec × Bool)} {h : Heap} (hc : CoversL P G pend pr) (hs : ClearS pend h) : Clear P G pr h := by
 induction hc with
 | nil => intro p hp; cases hp
 | @cons i S d q l r hi hS hc ih =>
  intro p hp hd
  cases d with
  | true =>
   rcases List.mem_cons.1 hp with rfl | hp
   ·exact hS _ hs.1
   ·exact ih hs.2 p hp hd
  | false =>
   rcases List.mem_cons.1 hp with rfl | hp
   ·cases hd
   ·exact ih hs p hp hd

theorem CoversL.dirt {pend : List Pe} {pr : List (PRec × Bool)} (hc : CoversL P G pend pr) : CoversL P G (dirtS pend) (Go.Am.dirt pr) := by
 induction hc with
 | nil => exact .nil
 | cons hi hS hc ih => exact .cons hi hS ih

theorem CoversL.keep {bef : Nat} {pend : List Pe} {pr : List (PRec × Bool)} (hc : CoversL P G pend pr) : CoversL P G (keepS bef pend) (pr.filter fun p => !bef.testBit p.1.x.i) := by
 induction hc with
 | nil => exact .nil
 | @cons i S d q l r hi hS hc ih =>
  unfold keepS
  rw [List.filter_cons, hi]
  by_cases hb : bef.testBit i = true
  ·simp only [hb, if_true, Bool.not_true, Bool.false_eq_true, if_false]
   exact ih
  ·have hb' : bef.testBit i = false := by simpa using hb
   simp only [hb', Bool.false_eq_true, if_false, Bool.not_false, if_true]
   exact .cons hi hS ih

theorem CoversL.snoc {i : Nat} {S : Heap → Prop} {d : Bool} {q : PRec} (hi : q.x.i = i) (hS : ∀ H, S H → q.Stable P G H) {pend : List Pe} {pr : List (PRec × Bool)} (hc : CoversL P G pend pr) : CoversL P G (pend ++ [(i, S, d)]) (pr ++ [(q, d)]) := by
 induction hc with
 | nil => exact .cons hi hS .nil
 | cons hi' hS' hc ih => exact .cons hi' hS' ih

theorem putA_WPut {dst : Option Tmp} {v : Value} {env e : Env} {K : Env → Prop} (hp : putA n dst v env = some e) (hk : K e) : WPut n dst v env K := by
 unfold putA at hp
 unfold WPut
 cases dst with
 | none => cases hp; exact hk
 | some d =>
  simp only at hp
  split at hp
  ·rename_i hd; cases hp; exact ⟨hd, hk⟩
  ·cases hp

theorem WR.cons {ops : Array Oper} {o : Oper} {l : List Oper} (hw : WS P G X n false ops o env h (fun e h _ => WR P G X n ops l e h N F) F) : WR P G X n ops (o :: l) env h N F := by
 unfold WR WOps WStep
 rcases hw with ⟨e, h1, h2, h3⟩ | ⟨v, h', e, S, h1, h2, h3, _, h4⟩ | ⟨_, ⟨h', e, h1, h2, h3, h4⟩ | ⟨f, args, h1, h2, h3⟩ | ⟨v, h1, h2, h3⟩⟩
 ·rw [h1]; exact putA_WPut h2 h3
 ·simp only [h1, h2]; exact putA_WPut h3 h4
 ·simp only [h1, h2]; exact putA_WPut h3 h4
 ·simp only [h1, h2]
  refine WCall.mono h3 fun r hr => ?_
  cases r with
  | ret v h' => obtain ⟨e, he, hk⟩ := hr; exact putA_WPut he hk
  | panic ch h' => exact hr
 ·simp only [h1, h2]; exact h3

theorem WD.nil {ops : Array Oper} {pend : List Pe} (hc : ClearS pend h := by repeat (first | exact trivial | (apply ClearS.keep) | (apply ClearS.ask; (· first | exact trivial | repeat (first | assumption | (with_reducible rfl) | exact obj_new | exact obj_put | (refine obj_old (by first | omega | (simp only [Heap.alloc_next, Heap.put_next]; omega)) ?_) | (refine obj_else (by first | omega | (simp only [Heap.alloc_next, Heap.put_next]; omega)) ?_) | (apply Gr.at; (· assumption); (· first | omega | (simp only [Heap.alloc_next, Heap.put_next]; omega))) | (apply Fr1.at; (· assumption); (· first | omega | (simp only [Heap.alloc_next, Heap.put_next]; omega)); (· first | omega | (simp only [Heap.alloc_next, Heap.put_next]; omega)))))))) (hq : N env h) : WD P G X n ops [] pend env h N F := by
 intro pr hp
 exact ⟨0, _, by simp only [runPi]; rw [if_pos (CoversL.clear hp hc)], hq⟩

theorem WD.pure {ops : Array Oper} {i bef : Nat} {o : Oper} {l : List PItem} {pend : List Pe} (ho : ops[i]? = some o := by rfl)
  (hw : WS P G X n true ops o env h (fun e h _ => WD P G X n ops l pend e h N F) F) : WD P G X n ops (⟨i, .pure, bef⟩ :: l) pend env h N F := by
 intro pr hp
 rcases hw with ⟨e, h1, h2, h3⟩ | ⟨v, h', e, S, h1, h2, h3, _, h4⟩ | ⟨hc, _⟩
 ·obtain ⟨k, r, hr, hq⟩ := h3 pr hp
  refine ⟨k, r, ?_, hq⟩
  simp only [runPi, ho, lightRec, h1, h2, Option.map_some]
  exact hr
 ·obtain ⟨k, r, hr, hq⟩ := h4 pr hp
  refine ⟨k, r, ?_, hq⟩
  simp only [runPi, ho, lightRec, h1, h2, h3, Option.map_some]
  exact hr
 ·cases hc

theorem WD.read {ops : Array Oper} {i bef : Nat} {o : Oper} {l : List PItem} {pend : List Pe} (ho : ops[i]? = some o := by rfl)
  (hw : WS P G X n true ops o env h (fun e h S => WD P G X n ops l (pend ++ [(i, S, false)]) e h N F) F) : WD P G X n ops (⟨i, .read, bef⟩ :: l) pend env h N F := by
 intro pr hp
 rcases hw with ⟨e, h1, h2, h3⟩ | ⟨v, h', e, S, h1, h2, h3, h5, h4⟩ | ⟨hc, _⟩
 ·obtain ⟨k, r, hr, hq⟩ := h3 (pr ++ [(⟨⟨i, .read, bef⟩, o, env, h, h, undef, false⟩, false)]) (CoversL.snoc (q := ⟨⟨i, .read, bef⟩, o, env, h, h, undef, false⟩) rfl (fun H _ => by intro hf; cases hf) hp)
  refine ⟨k, r, ?_, hq⟩
  simp only [runPi, ho, lightRec, h1, h2, Option.map_some]
  exact hr
 ·obtain ⟨k, r, hr, hq⟩ := h4 (pr ++ [(⟨⟨i, .read, bef⟩, o, env, h, h', v, true⟩, false)]) (CoversL.snoc (q := ⟨⟨i, .read, bef⟩, o, env, h, h', v, true⟩) rfl (fun H hS => by intro _; exact h5 H hS) hp)
  refine ⟨k, r, ?_, hq⟩
  simp only [runPi, ho, lightRec, h1, h2, h3, Option.map_some]
  exact hr
 ·cases hc

theorem WD.alloc {ops : Array Oper} {i bef : Nat} {o : Oper} {l : List PItem} {pend : List Pe} (ho : ops[i]? = some o := by rfl)
  (hw : WS P G X n true ops o env h (fun e h' _ => WD P G X n ops l (dirtS pend ++ [(i, fun H => H.obj h.next = h'.obj h.next, false)]) e h' N F) F) : WD P G X n ops (⟨i, .alloc, bef⟩ :: l) pend env h N F := by
 intro pr hp
 rcases hw with ⟨e, h1, h2, h3⟩ | ⟨v, h', e, S, h1, h2, h3, h5, h4⟩ | ⟨hc, _⟩
 ·obtain ⟨k, r, hr, hq⟩ := h3 (dirt pr ++ [(⟨⟨i, .alloc, bef⟩, o, env, h, h, undef, false⟩, false)]) (CoversL.snoc (q := ⟨⟨i, .alloc, bef⟩, o, env, h, h, undef, false⟩) rfl (fun H _ => by intro hf; cases hf) (CoversL.dirt hp))
  refine ⟨k, r, ?_, hq⟩
  simp only [runPi, ho, lightRec, h1, h2, Option.map_some]
  exact hr
 ·obtain ⟨k, r, hr, hq⟩ := h4 (dirt pr ++ [(⟨⟨i, .alloc, bef⟩, o, env, h, h', v, true⟩, false)]) (CoversL.snoc (q := ⟨⟨i, .alloc, bef⟩, o, env, h, h', v, true⟩) rfl (fun H hS => by intro _; exact hS) (CoversL.dirt hp))
  refine ⟨k, r, ?_, hq⟩
  simp only [runPi, ho, lightRec, h1, h2, h3, Option.map_some]
  exact hr
 ·cases hc

theorem WS.step {ops : Array Oper} {o : Oper} {K : Env → Heap → (Heap → Prop) → Prop} {lt : Bool} (hw : WS P G X n lt ops o env h K F) :
  ∃ k r, stepA P G (callN P G X k) n ops o env h = some r ∧ match r with | .ok e h' => ∃ S, K e h' S | .panic ch h' => F ch h' := by
 unfold stepA
 rcases hw with ⟨e, h1, h2, h3⟩ | ⟨v, h', e, S, h1, h2, h3, _, h4⟩ | ⟨_, ⟨h', e, h1, h2, h3, h4⟩ | ⟨f, args, h1, h2, h3⟩ | ⟨v, h1, h2, h3⟩⟩
 ·exact ⟨0, .ok e h, by simp only [h1, h2, Option.map_some], _, h3⟩
 ·exact ⟨0, .ok e h', by simp only [h1, h2, h3, Option.map_some], _, h4⟩
 ·exact ⟨0, .ok e h', by simp only [h1, h2, h3, Option.map_some], _, h4⟩
 ·obtain ⟨k, r, hr, hq⟩ := WCall.out h3
  cases r with
  | ret v h' => obtain ⟨e, he, hk⟩ := hq; exact ⟨k, .ok e h', by simp only [h1, h2, hr, he, Option.map_some], _, hk⟩
  | panic ch h' => exact ⟨k, .panic ch h', by simp only [h1, h2, hr], hq⟩
 ·exact ⟨0, .panic _ h, by simp only [h1, h2], h3⟩

theorem WD.heavy (hX : ExtMono X) {ops : Array Oper} {i bef : Nat} {o : Oper} {l : List PItem} {pend : List Pe} (ho : ops[i]? = some o := by rfl) (hc : ClearS pend h := by repeat (first | exact trivial | (apply ClearS.keep) | (apply ClearS.ask; (· first | exact trivial | repeat (first | assumption | (with_reducible rfl) | exact obj_new | exact obj_put | (refine obj_old (by first | omega | (simp only [Heap.alloc_next, Heap.put_next]; omega)) ?_) | (refine obj_else (by first | omega | (simp only [Heap.alloc_next, Heap.put_next]; omega)) ?_) | (apply Gr.at; (· assumption); (· first | omega | (simp only [Heap.alloc_next, Heap.put_next]; omega))) | (apply Fr1.at; (· assumption); (· first | omega | (simp only [Heap.alloc_next, Heap.put_next]; omega)); (· first | omega | (simp only [Heap.alloc_next, Heap.put_next]; omega))))))))
  (hw : WS P G X n false ops o env h (fun e h' _ => WD P G X n ops l (dirtS (keepS bef pend)) e h' N F) F) : WD P G X n ops (⟨i, .heavy, bef⟩ :: l) pend env h N F := by
 intro pr hp
 obtain ⟨k, r, hs, hr⟩ := WS.step hw
 cases r with
 | ok e h' =>
  obtain ⟨S, hr⟩ := hr
  obtain ⟨k2, r2, h2, hq⟩ := hr _ (CoversL.dirt (CoversL.keep hp))
  refine ⟨max k k2, r2, ?_, hq⟩
  simp only [runPi, ho]
  rw [if_pos (CoversL.clear hp hc), stepA_le (callN_le hX (Nat.le_max_left k k2)) hs]
  exact runPi_le (callN_le hX (Nat.le_max_right k k2)) l h2
 | panic ch h' =>
  refine ⟨k, .panic ch h', ?_, hr⟩
  simp only [runPi, ho]
  rw [if_pos (CoversL.clear hp hc), hs]

theorem WC.drawn (hX : ExtMono X) {id : Nat} {ops : Array Oper} {l : List PItem} (hp : plan P ops = some l := by decide +kernel) (hw : WD P G X n ops l [] env h N F) : WC P G X n (.region id ops true) env h N E R F := by
 obtain ⟨k, r, hr, hq⟩ := hw [] .nil
 have hreg : regA P G (callN P G X (k + 1)) n ops true env h = some r := by
  unfold regA drawA
  simp only [if_true, hp]
  exact runPi_le (callN_le hX (Nat.le_succ k)) l hr
 cases r with
 | ok e h' => exact ⟨k + 1, .normal, e, h', by simp only [exec, hreg], hq⟩
 | panic ch h' => exact ⟨k + 1, .panic ch, env, h', by simp only [exec, hreg], hq⟩

theorem WS.val {lt : Bool} {ops : Array Oper} {op : Op} {d t p a g} {v : Value} {h' : Heap} {K : Env → Heap → (Heap → Prop) → Prop} (S : Heap → Prop) (hg : gOk ops env g = some true) (hn : Nat.blt d n = true) (ho : opA P G env ⟨some d, op, t, p, a, g⟩ h = some (.val v h'))
  (hS : ∀ H, S H → opA P G env ⟨some d, op, t, p, a, g⟩ H = some (.val v H)) (hk : K (upd env d v) h' S) : WS P G X n lt ops ⟨some d, op, t, p, a, g⟩ env h K F :=
 .inr (.inl ⟨v, h', _, S, wantedA_gOk.trans hg, ho, if_pos (by simpa [Nat.blt_eq] using hn), hS, hk⟩)

theorem WS.same {lt : Bool} {ops : Array Oper} {op : Op} {d t p a g} {v : Value} {K : Env → Heap → (Heap → Prop) → Prop} (hg : gOk ops env g = some true) (hn : Nat.blt d n = true) (ho : ∀ h, opA P G env ⟨some d, op, t, p, a, g⟩ h = some (.val v h))
  (hk : K (upd env d v) h fun _ => True) : WS P G X n lt ops ⟨some d, op, t, p, a, g⟩ env h K F := WS.val _ hg hn (ho h) (fun H _ => ho H) hk

theorem WS.uw {lt : Bool} {ops : Array Oper} {op : Op} {d t p a g} {K : Env → Heap → (Heap → Prop) → Prop} (hg : gOk ops env (some g) = some false := by rfl) (hn : Nat.blt d n = true := by rfl)
  (hk : K (upd env d undef) h fun _ => True) : WS P G X n lt ops ⟨some d, op, t, p, a, some g⟩ env h K F := .inl ⟨_, wantedA_gOk.trans hg, if_pos (by simpa [Nat.blt_eq] using hn), hk⟩
theorem WS.uw' {lt : Bool} {ops : Array Oper} {op : Op} {t p a g} {K : Env → Heap → (Heap → Prop) → Prop} (hg : gOk ops env (some g) = some false := by rfl)
  (hk : K env h fun _ => True) : WS P G X n lt ops ⟨none, op, t, p, a, some g⟩ env h K F := .inl ⟨_, wantedA_gOk.trans hg, rfl, hk⟩
theorem WS.skip {ops : Array Oper} {op : Op} {t p a g} {h' : Heap} {K : Env → Heap → (Heap → Prop) → Prop} (hg : gOk ops env g = some true) (ho : opA P G env ⟨none, op, t, p, a, g⟩ h = some (.skip h'))
  (hk : K env h' fun _ => True) : WS P G X n false ops ⟨none, op, t, p, a, g⟩ env h K F := .inr (.inr ⟨rfl, .inl ⟨h', _, wantedA_gOk.trans hg, ho, rfl, hk⟩⟩)
theorem WS.enter {ops : Array Oper} {op : Op} {d t p a g} {f : FuncId} {args : List Value} {K : Env → Heap → (Heap → Prop) → Prop} (hg : gOk ops env g = some true) (hn : Nat.blt d n = true) (ho : opA P G env ⟨some d, op, t, p, a, g⟩ h = some (.enter f args))
  (hk : WCall P G X f args h fun r => match r with | .ret v h' => K (upd env d v) h' (fun _ => True) | .panic ch h' => F ch h') : WS P G X n false ops ⟨some d, op, t, p, a, g⟩ env h K F := by
 refine .inr (.inr ⟨rfl, .inr (.inl ⟨f, args, wantedA_gOk.trans hg, ho, WCall.mono hk fun r hr => ?_⟩)⟩)
 cases r with
 | ret v h' => exact ⟨_, if_pos (by simpa [Nat.blt_eq] using hn), hr⟩
 | panic ch h' => exact hr
theorem WS.panic {ops : Array Oper} {op : Op} {d t p a g} {v : Value} {K : Env → Heap → (Heap → Prop) → Prop} (hg : gOk ops env g = some true) (ho : opA P G env ⟨d, op, t, p, a, g⟩ h = some (.panic v))
  (hk : F [{ v, recovered := false }] h) : WS P G X n false ops ⟨d, op, t, p, a, g⟩ env h K F := .inr (.inr ⟨rfl, .inr (.inr ⟨v, wantedA_gOk.trans hg, ho, hk⟩)⟩)

theorem WS.askP {lt : Bool} {ops : Array Oper} {op : Op} {d t q a g} {p : Prop} [Decidable p] {K : Env → Heap → (Heap → Prop) → Prop} (hg : gOk ops env g = some true) (hn : Nat.blt d n = true) (ho : ∀ h, opA P G env ⟨some d, op, t, q, a, g⟩ h = some (.val (.bool (decide p)) h))
  (h1 : p → K (upd env d (.bool true)) h fun _ => True) (h2 : ¬p → K (upd env d (.bool false)) h fun _ => True) : WS P G X n lt ops ⟨some d, op, t, q, a, g⟩ env h K F := by
 by_cases hp : p
 ·refine WS.same hg hn (v := .bool true) (fun h => ?_) (h1 hp)
  rw [ho h, decide_eq_true hp]
 ·refine WS.same hg hn (v := .bool false) (fun h => ?_) (h2 hp)
  rw [ho h, decide_eq_false hp]
theorem WS.askB {lt : Bool} {ops : Array Oper} {op : Op} {d t q a g} {b : Bool} {K : Env → Heap → (Heap → Prop) → Prop} (hg : gOk ops env g = some true) (hn : Nat.blt d n = true) (ho : ∀ h, opA P G env ⟨some d, op, t, q, a, g⟩ h = some (.val (.bool b) h))
  (h1 : b = true → K (upd env d (.bool true)) h fun _ => True) (h2 : b = false → K (upd env d (.bool false)) h fun _ => True) : WS P G X n lt ops ⟨some d, op, t, q, a, g⟩ env h K F := by
 cases b
 ·exact WS.same hg hn ho (h2 rfl)
 ·exact WS.same hg hn ho (h1 rfl)

attribute [irreducible] WC WR WD WS

end
end Go.Am
end

section
namespace Go.Am
set_option linter.unusedVariables false
set_option linter.unusedSimpArgs false
open Go.RowKit (Below)

section
variable {P : Program} {G : Nat} {X : ExtFn} {n : Nat} {F : List PanicEntry → Heap → Prop} {env : Env} {h : Heap} {lt : Bool} {ops : Array Oper} {d : Nat} {t : TypeId} {p : String} {a : Array Edge} {g : Option (Nat × Bool)} {K : Env → Heap → (Heap → Prop) → Prop}

theorem evalAll_cons {x : Operand} {xs : List Operand} {v : Value} {vs : List Value} (hx : evalA G env x = some v) (hl : evalAll G env xs = some vs) : evalAll G env (x :: xs) = some (v :: vs) := by simp only [evalAll, hx, hl]

def forceL : List Value → Option (List Value)
 | [] => some []
 | a :: l => match forceL l with
  | some l' => some (a :: l')
  | none => none

theorem forceL_eq : ∀ {l l' : List Value}, forceL l = some l' → l = l'
 | [], l', h => by simp [forceL] at h; exact h.symm
 | a :: l, l', h => by
  unfold forceL at h
  split at h
  ·rename_i l2 h2
   simp at h; subst h
   rw [forceL_eq h2]
  ·cases h

def normV : Value → Option Value
 | .agg cs => match forceL cs.toList with
  | some l => some (.agg (List.toArray l))
  | none => none
 | .bool b => some (.bool b)
 | .int k n => some (.int k n)
 | .string s => some (.string s)
 | .pointer a => some (.pointer a)
 | .slice a n c => some (.slice a n c)
 | .iface t v => some (.iface t v)
 | .nilIface => some .nilIface
 | .nilFunc => some .nilFunc
 | .map m => some (.map m)
 | .func f a b => some (.func f a b)
 | .tuple cs => match forceL cs.toList with
  | some l => some (.tuple (List.toArray l))
  | none => none
 | _ => none

theorem normV_eq {v v' : Value} (h : normV v = some v') : v = v' := by
 unfold normV at h
 split at h
 case h_1 cs =>
  split at h
  ·rename_i l hl
   simp at h; subst h
   rw [← forceL_eq hl]
  ·cases h
 case h_12 cs =>
  split at h
  ·rename_i l hl
   simp at h; subst h
   rw [← forceL_eq hl]
  ·cases h
 all_goals first | (cases h; done) | (simp at h; exact h)

def fieldOffs (P : Program) (t : TypeId) : List (Option Nat) :=
 match P.underlying t with
 | some (.struct fields) => fields.toList.map fun fd => match sizeT P fd.type with
  | some (_ + 1) => some fd.offset
  | _ => none
 | _ => []

theorem fieldAddrA_of {ty : TypeId} {f o i off : Nat} (h : (fieldOffs P ty)[f]? = some (some o)) : fieldAddrA P ty (.pointer (some ⟨i, off, none⟩)) f = some (.pointer (some ⟨i, off + o, none⟩)) := by
 unfold fieldOffs at h
 unfold fieldAddrA
 split at h
 ·rename_i fields hu
  simp only [hu]
  rw [List.getElem?_map] at h
  have hf : fields[f]? = fields.toList[f]? := by simp
  rw [hf]
  cases hq : fields.toList[f]? with
  | none => rw [hq] at h; cases h
  | some fd =>
   rw [hq] at h
   simp only [Option.map_some, Option.some.injEq] at h
   split at h
   ·rename_i m hm
    simp only [Option.some.injEq] at h
    subst h
    simp only [hm]
    rw [if_neg (Nat.succ_ne_zero m)]
   ·cases h
 ·simp at h

theorem WS.move {x : Operand} {v : Value} (hg : gOk ops env g = some true := by rfl) (hn : Nat.blt d n = true := by rfl) (hx : evalA G env x = some v := by first | rfl | assumption)
  (hk : K (upd env d v) h fun _ => True) : WS P G X n lt ops ⟨some d, .move x, t, p, a, g⟩ env h K F := WS.same hg hn (fun h => opA_move hx) hk
theorem WS.assign {x : Operand} {v : Value} (hg : gOk ops env g = some true := by rfl) (hn : Nat.blt d n = true := by rfl) (hx : evalA G env x = some v := by first | rfl | assumption)
  (hk : K (upd env d v) h fun _ => True) : WS P G X n lt ops ⟨some d, .assign x, t, p, a, g⟩ env h K F := WS.same hg hn (fun h => opA_assign hx) hk
theorem WS.pickT {c x y : Operand} {v : Value} (hg : gOk ops env g = some true := by rfl) (hn : Nat.blt d n = true := by rfl) (hc : evalA G env c = some (.bool true) := by first | rfl | assumption)(hx : evalA G env x = some v := by first | rfl | assumption)
  (hk : K (upd env d v) h fun _ => True) : WS P G X n lt ops ⟨some d, .pick c x y, t, p, a, g⟩ env h K F := WS.same hg hn (fun h => opA_pickT hc hx) hk
theorem WS.pickF {c x y : Operand} {v : Value} (hg : gOk ops env g = some true := by rfl) (hn : Nat.blt d n = true := by rfl) (hc : evalA G env c = some (.bool false) := by first | rfl | assumption)(hy : evalA G env y = some v := by first | rfl | assumption)
  (hk : K (upd env d v) h fun _ => True) : WS P G X n lt ops ⟨some d, .pick c x y, t, p, a, g⟩ env h K F := WS.same hg hn (fun h => opA_pickF hc hy) hk
theorem WS.not {ty : TypeId} {x : Operand} {b : Bool} (hg : gOk ops env g = some true := by rfl) (hn : Nat.blt d n = true := by rfl) (hx : evalA G env x = some (.bool b) := by first | rfl | assumption)
  (hk : K (upd env d (.bool !b)) h fun _ => True) : WS P G X n lt ops ⟨some d, .unOp .not ty x, t, p, a, g⟩ env h K F := WS.same hg hn (fun h => opA_not hx) hk
theorem WS.addI {ty : TypeId} {x y : Operand} {c} {i j : Int} (hg : gOk ops env g = some true := by rfl) (hn : Nat.blt d n = true := by rfl) (hx : evalA G env x = some (.int .i64 i) := by first | rfl | assumption)(hy : evalA G env y = some (.int .i64 j) := by first | rfl | assumption)(hr : -9223372036854775808 ≤ i + j ∧ i + j ≤ 9223372036854775807 := by omega)
  (hk : K (upd env d (.int .i64 (i + j))) h fun _ => True) : WS P G X n lt ops ⟨some d, .binOp .add ty x y c, t, p, a, g⟩ env h K F := WS.same hg hn (fun h => opA_addI hx hy hr) hk
theorem WS.subI {ty : TypeId} {x y : Operand} {c} {i j : Int} (hg : gOk ops env g = some true := by rfl) (hn : Nat.blt d n = true := by rfl) (hx : evalA G env x = some (.int .i64 i) := by first | rfl | assumption)(hy : evalA G env y = some (.int .i64 j) := by first | rfl | assumption)(hr : -9223372036854775808 ≤ i - j ∧ i - j ≤ 9223372036854775807 := by omega)
  (hk : K (upd env d (.int .i64 (i - j))) h fun _ => True) : WS P G X n lt ops ⟨some d, .binOp .sub ty x y c, t, p, a, g⟩ env h K F := WS.same hg hn (fun h => opA_subI hx hy hr) hk
theorem WS.mulI {ty : TypeId} {x y : Operand} {c} {i j : Int} (hg : gOk ops env g = some true := by rfl) (hn : Nat.blt d n = true := by rfl) (hx : evalA G env x = some (.int .i64 i) := by first | rfl | assumption)(hy : evalA G env y = some (.int .i64 j) := by first | rfl | assumption)(hr : -9223372036854775808 ≤ i * j ∧ i * j ≤ 9223372036854775807 := by omega)
  (hk : K (upd env d (.int .i64 (i * j))) h fun _ => True) : WS P G X n lt ops ⟨some d, .binOp .mul ty x y c, t, p, a, g⟩ env h K F := WS.same hg hn (fun h => opA_mulI hx hy hr) hk
theorem lit_size (a : Array UInt8) : (ByteArray.mk a).size = a.size := rfl
theorem WS.addS {ty : TypeId} {x y : Operand} {c} {i j : ByteArray} (hg : gOk ops env g = some true := by rfl) (hn : Nat.blt d n = true := by rfl) (hx : evalA G env x = some (.string i) := by first | rfl | assumption)(hy : evalA G env y = some (.string j) := by first | rfl | assumption)(hs : i.size + j.size ≤ 140737488355328 := by first | omega | ((try simp only [ByteArray.size_append, lit_size, List.size_toArray, List.length_cons, List.length_nil]); omega))
  (hk : K (upd env d (.string (i ++ j))) h fun _ => True) : WS P G X n lt ops ⟨some d, .binOp .add ty x y c, t, p, a, g⟩ env h K F := WS.same hg hn (fun h => opA_addS hx hy hs) hk
theorem WS.bin {op : BinOp} {ty : TypeId} {x y : Operand} {c} {u w v : Value} (hg : gOk ops env g = some true) (hn : Nat.blt d n = true) (hx : evalA G env x = some u)(hy : evalA G env y = some w)(hq : eqAsk P op ty x y u w = true) (hv : binA P op ty u w = some v)
  (hk : K (upd env d v) h fun _ => True) : WS P G X n lt ops ⟨some d, .binOp op ty x y c, t, p, a, g⟩ env h K F := WS.same hg hn (fun h => by simp only [opA, hx, hy, hq, if_true, hv, Option.map_some]) hk
theorem WS.un {op : UnOp} {ty : TypeId} {x : Operand} {u v : Value} (hg : gOk ops env g = some true) (hn : Nat.blt d n = true) (hx : evalA G env x = some u)(hv : unA op u = some v)
  (hk : K (upd env d v) h fun _ => True) : WS P G X n lt ops ⟨some d, .unOp op ty x, t, p, a, g⟩ env h K F := WS.same hg hn (fun h => by simp only [opA, hx, hv, Option.map_some]) hk
theorem WS.nilCheck {x : Operand} {q : Addr} (hg : gOk ops env g = some true := by rfl) (hn : Nat.blt d n = true := by rfl) (hx : evalA G env x = some (.pointer (some q)) := by first | rfl | assumption)
  (hk : K (upd env d (.pointer (some q))) h fun _ => True) : WS P G X n lt ops ⟨some d, .nilCheck x, t, p, a, g⟩ env h K F := WS.same hg hn (fun h => by simp only [opA, hx, nilCheckA, Option.map_some]) hk
theorem WS.nilCheckG {x : Operand} {u v : Value} (hg : gOk ops env g = some true) (hn : Nat.blt d n = true) (hx : evalA G env x = some u)(hv : nilCheckA P u = some v)
  (hk : K (upd env d v) h fun _ => True) : WS P G X n lt ops ⟨some d, .nilCheck x, t, p, a, g⟩ env h K F := WS.same hg hn (fun h => by simp only [opA, hx, hv, Option.map_some]) hk
theorem WS.fieldAddr {ty : TypeId} {x : Operand} {f : Nat} {i off o : Nat} (hg : gOk ops env g = some true := by rfl) (hn : Nat.blt d n = true := by rfl) (hx : evalA G env x = some (.pointer (some ⟨i, off, none⟩)) := by first | rfl | assumption) (hv : (fieldOffs P ty)[f]? = some (some o) := by exact offs_at rfl rfl)
  (hk : K (upd env d (.pointer (some ⟨i, off + o, none⟩))) h fun _ => True) : WS P G X n lt ops ⟨some d, .fieldAddr ty x f, t, p, a, g⟩ env h K F := WS.same hg hn (fun h => by simp only [opA, hx, fieldAddrA_of hv, Option.map_some]) hk
theorem WS.field {ty : TypeId} {x : Operand} {f : Nat} {u v0 v : Value} (hg : gOk ops env g = some true := by rfl) (hn : Nat.blt d n = true := by rfl) (hx : evalA G env x = some u := by first | rfl | assumption)(hv0 : fieldA P ty u f = some v0 := by rfl) (hf : normV v0 = some v := by rfl)
  (hk : K (upd env d v) h fun _ => True) : WS P G X n lt ops ⟨some d, .field ty x f, t, p, a, g⟩ env h K F := WS.same hg hn (fun h => by cases normV_eq hf; simp only [opA, hx, hv0, Option.map_some]) hk
theorem WS.indexAddr {ty : TypeId} {x y : Operand} {e : TypeId} {i off len es : Nat} {k : Int} {q} (hg : gOk ops env g = some true := by rfl) (hn : Nat.blt d n = true := by rfl) (hx : evalA G env x = some (.slice (some ⟨i, off, none⟩) len es) := by first | rfl | assumption)(hy : evalA G env y = some (.int q k) := by first | rfl | assumption)(hu : P.underlying ty = some (.slice e) := by rfl) (hs : sizeT P e = some es := by exact sz_at rfl) (hb : 0 ≤ k ∧ k < len := by omega)
  (hk : K (upd env d (.pointer (some ⟨i, off + k.toNat * es, none⟩))) h fun _ => True) : WS P G X n lt ops ⟨some d, .indexAddr ty x y, t, p, a, g⟩ env h K F := WS.same hg hn (fun h => by simp only [opA, hx, hy, indexAddrA, hu, hs]; rw [if_pos (by simp [hb.1, hb.2])]; rfl) hk
theorem WS.indexAddrP {ty : TypeId} {x y : Operand} {e : TypeId} {i off len es : Nat} {k : Int} {q} (hg : gOk ops env g = some true := by rfl) (hn : Nat.blt d n = true := by rfl) (hx : evalA G env x = some (.pointer (some ⟨i, off, none⟩)) := by first | rfl | assumption)(hy : evalA G env y = some (.int q k) := by first | rfl | assumption)(hu : P.underlying ty = some (.array len e) := by rfl) (hs : sizeT P e = some es := by exact sz_at rfl) (hb : 0 ≤ k ∧ k < len := by omega)
  (hk : K (upd env d (.pointer (some ⟨i, off + k.toNat * es, none⟩))) h fun _ => True) : WS P G X n lt ops ⟨some d, .indexAddr ty x y, t, p, a, g⟩ env h K F := WS.same hg hn (fun h => by simp only [opA, hx, hy, indexAddrA, hu, hs]; rw [if_pos (by simp [hb.1, hb.2])]; rfl) hk

def byteN (s : ByteArray) (k : Int) : Int := (s.data.toList.getD k.toNat 0).toNat

theorem byteN_at {s : ByteArray} {k : Int} (hb : 0 ≤ k ∧ k < s.size) : ∃ b : UInt8, s[k.toNat]? = some b ∧ byteN s k = b.toNat := by
 have hk : k.toNat < s.size := by omega
 refine ⟨s[k.toNat], by simp [hk], ?_⟩
 unfold byteN
 rw [List.getD_eq_getElem?_getD]
 have : s.data.toList[k.toNat]? = some s[k.toNat] := by
  rw [List.getElem?_eq_getElem (by simpa using hk)]
  rfl
 rw [this]; rfl

theorem byteN_range (s : ByteArray) (k : Int) : 0 ≤ byteN s k ∧ byteN s k ≤ 255 := by
 unfold byteN
 have := (s.data.toList.getD k.toNat 0).toNat_lt
 omega

theorem WS.indexS {ty : TypeId} {x y : Operand} {s : ByteArray} {k : Int} {q} (hg : gOk ops env g = some true := by rfl) (hn : Nat.blt d n = true := by rfl) (hx : evalA G env x = some (.string s) := by first | rfl | assumption)(hy : evalA G env y = some (.int q k) := by first | rfl | assumption)(hu : P.underlying ty = some .string := by rfl) (hb : 0 ≤ k ∧ k < s.size := by omega)
  (hk : K (upd env d (.int .u8 (byteN s k))) h fun _ => True) : WS P G X n lt ops ⟨some d, .index ty x y, t, p, a, g⟩ env h K F := WS.same hg hn (fun h => by obtain ⟨b, h1, h2⟩ := byteN_at hb; simp only [opA, hx, hy, indexA, hu]; rw [if_pos hb.1, h1, h2]; rfl) hk
theorem WS.index {ty : TypeId} {x y : Operand} {u w v : Value} (hg : gOk ops env g = some true) (hn : Nat.blt d n = true) (hx : evalA G env x = some u)(hy : evalA G env y = some w)(hv : indexA P ty u w = some v)
  (hk : K (upd env d v) h fun _ => True) : WS P G X n lt ops ⟨some d, .index ty x y, t, p, a, g⟩ env h K F := WS.same hg hn (fun h => by simp only [opA, hx, hy, hv, Option.map_some]) hk
def bsub (s : ByteArray) (l r : Int) : ByteArray := s.extract l.toNat r.toNat
theorem bsub_eq (s : ByteArray) (l r : Int) : bsub s l r = s.extract l.toNat r.toNat := rfl
theorem bsub_size {s : ByteArray} {l r : Int} (h : 0 ≤ l ∧ l ≤ r ∧ r ≤ s.size) : ((bsub s l r).size : Int) = r - l := by
 unfold bsub; rw [ByteArray.size_extract]; omega

theorem WS.sliceS {ty : TypeId} {x lo hi : Operand} {s : ByteArray} {l r : Int} {q q2} (hg : gOk ops env g = some true := by rfl) (hn : Nat.blt d n = true := by rfl) (hx : evalA G env x = some (.string s) := by first | rfl | assumption)(hlo : evalA G env lo = some (.int q l) := by first | rfl | assumption)(hhi : evalA G env hi = some (.int q2 r) := by first | rfl | assumption)(hu : P.underlying ty = some .string := by rfl) (hb : 0 ≤ l ∧ l ≤ r ∧ r ≤ s.size := by omega)
  (hk : K (upd env d (.string (bsub s l r))) h fun _ => True) : WS P G X n lt ops ⟨some d, .slice ty x (some lo) (some hi) none, t, p, a, g⟩ env h K F := WS.same hg hn (fun h => by simp only [opA, hx, evalAll, hlo, hhi, sliceA, hu, boundA, Option.toList, List.head?_cons]; rw [if_pos (by simp; omega)]; simp only []; rw [if_pos (by simp; omega)]; rfl) hk
theorem WS.sliceSlo {ty : TypeId} {x lo : Operand} {s : ByteArray} {l : Int} {q} (hg : gOk ops env g = some true := by rfl) (hn : Nat.blt d n = true := by rfl) (hx : evalA G env x = some (.string s) := by first | rfl | assumption)(hlo : evalA G env lo = some (.int q l) := by first | rfl | assumption)(hu : P.underlying ty = some .string := by rfl) (hb : 0 ≤ l ∧ l ≤ s.size := by omega)
  (hk : K (upd env d (.string (bsub s l s.size))) h fun _ => True) : WS P G X n lt ops ⟨some d, .slice ty x (some lo) none none, t, p, a, g⟩ env h K F := WS.same hg hn (fun h => by simp only [opA, hx, evalAll, hlo, sliceA, hu, boundA, Option.toList, List.head?_cons, List.head?_nil]; rw [if_pos (by simp; omega)]; rfl) hk
theorem WS.sliceShi {ty : TypeId} {x hi : Operand} {s : ByteArray} {r : Int} {q} (hg : gOk ops env g = some true := by rfl) (hn : Nat.blt d n = true := by rfl) (hx : evalA G env x = some (.string s) := by first | rfl | assumption)(hhi : evalA G env hi = some (.int q r) := by first | rfl | assumption)(hu : P.underlying ty = some .string := by rfl) (hb : 0 ≤ r ∧ r ≤ s.size := by omega)
  (hk : K (upd env d (.string (bsub s 0 r))) h fun _ => True) : WS P G X n lt ops ⟨some d, .slice ty x none (some hi) none, t, p, a, g⟩ env h K F := WS.same hg hn (fun h => by simp only [opA, hx, evalAll, hhi, sliceA, hu, boundA, Option.toList, List.head?_cons, List.head?_nil]; rw [if_pos (by simp; omega)]; rfl) hk
theorem WS.slice {ty : TypeId} {x : Operand} {lo hi : Option Operand} {u v : Value} {l r : List Value} (hg : gOk ops env g = some true) (hn : Nat.blt d n = true) (hx : evalA G env x = some u)(hl : evalAll G env lo.toList = some l) (hh : evalAll G env hi.toList = some r) (hv : sliceA P ty u l.head? r.head? = some v)
  (hk : K (upd env d v) h fun _ => True) : WS P G X n lt ops ⟨some d, .slice ty x lo hi none, t, p, a, g⟩ env h K F := WS.same hg hn (fun h => by simp only [opA, hx, hl, hh, hv, Option.map_some]) hk
theorem WS.build {ty : TypeId} {parts} {ps} {v0 v : Value} (hg : gOk ops env g = some true := by rfl) (hn : Nat.blt d n = true := by rfl) (hp : evalParts G env parts.toList = some ps := by rfl) (hv0 : buildA P ty ps = some v0 := by rfl) (hf : normV v0 = some v := by rfl)
  (hk : K (upd env d v) h fun _ => True) : WS P G X n lt ops ⟨some d, .build ty parts, t, p, a, g⟩ env h K F := WS.same hg hn (fun h => by cases normV_eq hf; simp only [opA, hp, hv0, Option.map_some]) hk
theorem WS.iface {ty : TypeId} {x : Operand} {v : Value} {u} (hg : gOk ops env g = some true := by rfl) (hn : Nat.blt d n = true := by rfl) (hx : evalA G env x = some v := by first | rfl | assumption)(hu : P.underlying ty = some u := by rfl) (hi : ∀ m, u ≠ .interface m := by (intro m hm; cases hm))
  (hk : K (upd env d (.iface ty v)) h fun _ => True) : WS P G X n lt ops ⟨some d, .makeInterface ty x, t, p, a, g⟩ env h K F := WS.same hg hn (fun h => by cases u <;> first | exact (hi _ rfl).elim | simp only [opA, hx, hu]) hk
theorem WS.makeFunc {fn : Fn} {first cap : Array Operand} {f c} (hg : gOk ops env g = some true := by rfl) (hn : Nat.blt d n = true := by rfl) (hf : evalAll G env first.toList = some f := by first | rfl | exact evalAll_cons (by first | rfl | assumption) rfl | exact evalAll_cons (by first | rfl | assumption) (evalAll_cons (by first | rfl | assumption) rfl) | exact evalAll_cons (by first | rfl | assumption) (evalAll_cons (by first | rfl | assumption) (evalAll_cons (by first | rfl | assumption) rfl))) (hc : evalAll G env cap.toList = some c := by first | rfl | exact evalAll_cons (by first | rfl | assumption) rfl | exact evalAll_cons (by first | rfl | assumption) (evalAll_cons (by first | rfl | assumption) rfl) | exact evalAll_cons (by first | rfl | assumption) (evalAll_cons (by first | rfl | assumption) (evalAll_cons (by first | rfl | assumption) rfl)))
  (hk : K (upd env d (.func fn f.toArray c.toArray)) h fun _ => True) : WS P G X n lt ops ⟨some d, .makeFunc fn first cap, t, p, a, g⟩ env h K F := WS.same hg hn (fun h => by simp only [opA, hf, hc]) hk
theorem WS.extractN {x : Operand} {i : Nat} {vs : Array Value} {v0 v : Value} (hg : gOk ops env g = some true := by rfl) (hn : Nat.blt d n = true := by rfl) (hx : evalA G env x = some (.tuple vs) := by first | rfl | assumption) (hv : vs[i]? = some v0 := by rfl) (hf : normV v0 = some v := by rfl)
  (hk : K (upd env d v) h fun _ => True) : WS P G X n lt ops ⟨some d, .extract x i, t, p, a, g⟩ env h K F := WS.same hg hn (fun h => by cases normV_eq hf; simp only [opA, hx, hv, Option.map_some]) hk
theorem WS.extract {x : Operand} {i : Nat} {vs : Array Value} {v : Value} (hg : gOk ops env g = some true := by rfl) (hn : Nat.blt d n = true := by rfl) (hx : evalA G env x = some (.tuple vs) := by first | rfl | assumption)(hv : vs[i]? = some v := by rfl)
  (hk : K (upd env d v) h fun _ => True) : WS P G X n lt ops ⟨some d, .extract x i, t, p, a, g⟩ env h K F := WS.same hg hn (fun h => by simp only [opA, hx, hv, Option.map_some]) hk
theorem WS.assert {ty ty2 : TypeId} {ok : Bool} {x : Operand} {u v : Value} (hg : gOk ops env g = some true) (hn : Nat.blt d n = true) (hx : evalA G env x = some u)(hv : assertA P u ty2 ok = some v)
  (hk : K (upd env d v) h fun _ => True) : WS P G X n lt ops ⟨some d, .typeAssert x ty ty2 ok, t, p, a, g⟩ env h K F := WS.same hg hn (fun h => by simp only [opA, hx, hv, Option.map_some]) hk
theorem WS.lenS {ty : TypeId} {x : Operand} {s : ByteArray} (hg : gOk ops env g = some true := by rfl) (hn : Nat.blt d n = true := by rfl) (hx : evalA G env x = some (.string s) := by first | rfl | assumption)(hu : P.underlying ty = some .string := by rfl)
  (hk : K (upd env d (.int .i64 s.size)) h fun _ => True) : WS P G X n lt ops ⟨some d, .call ⟨.builtin .len, #[x], #[ty]⟩, t, p, a, g⟩ env h K F := WS.same hg hn (fun h => by simp only [opA, callA, evalAll, hx, lenA, hu, List.getElem?_toArray, List.getElem?_cons_zero, Option.map_some]) hk
theorem WS.lenL {ty e : TypeId} {x : Operand} {b} {m es : Nat} (hg : gOk ops env g = some true := by rfl) (hn : Nat.blt d n = true := by rfl) (hx : evalA G env x = some (.slice b m es) := by first | rfl | assumption)(hu : P.underlying ty = some (.slice e) := by rfl)
  (hk : K (upd env d (.int .i64 m)) h fun _ => True) : WS P G X n lt ops ⟨some d, .call ⟨.builtin .len, #[x], #[ty]⟩, t, p, a, g⟩ env h K F := WS.same hg hn (fun h => by simp only [opA, callA, evalAll, hx, lenA, hu, List.getElem?_toArray, List.getElem?_cons_zero, Option.map_some]) hk
theorem WS.max {tys} {x y : Operand} {k k2 : IntKind} {i j : Int} (hg : gOk ops env g = some true := by rfl) (hn : Nat.blt d n = true := by rfl) (hx : evalA G env x = some (.int k i) := by first | rfl | assumption)(hy : evalA G env y = some (.int k2 j) := by first | rfl | assumption)
  (hk : K (upd env d (.int k (if j > i then j else i))) h fun _ => True) : WS P G X n lt ops ⟨some d, .call ⟨.builtin .max, #[x, y], tys⟩, t, p, a, g⟩ env h K F := WS.same hg hn (fun h => by simp only [opA, callA, evalAll, hx, hy, maxA, if_true, Option.map_some]) hk
theorem WS.min {tys} {x y : Operand} {k k2 : IntKind} {i j : Int} (hg : gOk ops env g = some true := by rfl) (hn : Nat.blt d n = true := by rfl) (hx : evalA G env x = some (.int k i) := by first | rfl | assumption)(hy : evalA G env y = some (.int k2 j) := by first | rfl | assumption)
  (hk : K (upd env d (.int k (if j < i then j else i))) h fun _ => True) : WS P G X n lt ops ⟨some d, .call ⟨.builtin .min, #[x, y], tys⟩, t, p, a, g⟩ env h K F := WS.same hg hn (fun h => by simp only [opA, callA, evalAll, hx, hy, maxA, Bool.false_eq_true, if_false, Option.map_some]) hk
theorem WS.convI {ty ty2 : TypeId} {x : Operand} {k k2 : IntKind} {i : Int} {u} (hg : gOk ops env g = some true := by rfl) (hn : Nat.blt d n = true := by rfl) (hx : evalA G env x = some (.int k2 i) := by first | rfl | assumption)(hu : P.underlying ty = some u := by rfl) (hu2 : P.underlying ty2 = some (.int k) := by rfl) (hr : k.wrap i = i := by first | (rw [IntKind.wrap_i64]; omega) | (rw [IntKind.wrap_u8]; omega) | (rw [IntKind.wrap_u64]; omega))
  (hk : K (upd env d (.int k i)) h fun _ => True) : WS P G X n lt ops ⟨some d, .convert ty ty2 x, t, p, a, g⟩ env h K F := WS.same hg hn (fun h => by simp only [opA, hx, convertA, hu, hu2, hr, Option.map_some]) hk
theorem WS.convG {ty ty2 : TypeId} {x : Operand} {u v : Value} (hg : gOk ops env g = some true) (hn : Nat.blt d n = true) (hx : evalA G env x = some u)(hv : ∀ h, convertA P ty ty2 u h = some (v, h))
  (hk : K (upd env d v) h fun _ => True) : WS P G X n lt ops ⟨some d, .convert ty ty2 x, t, p, a, g⟩ env h K F := WS.same hg hn (fun h => by simp only [opA, hx, hv, Option.map_some]) hk
theorem WS.addK {ty : TypeId} {x y : Operand} {c} {k : IntKind} {i j : Int} (hg : gOk ops env g = some true := by rfl) (hn : Nat.blt d n = true := by rfl) (hx : evalA G env x = some (.int k i) := by first | rfl | assumption)(hy : evalA G env y = some (.int k j) := by first | rfl | assumption)(hr : k.wrap (i + j) = i + j := by first | (rw [IntKind.wrap_i64]; omega) | (rw [IntKind.wrap_u8]; omega) | (rw [IntKind.wrap_u64]; omega))
  (hk : K (upd env d (.int k (i + j))) h fun _ => True) : WS P G X n lt ops ⟨some d, .binOp .add ty x y c, t, p, a, g⟩ env h K F := WS.same hg hn (fun h => opA_int hx hy (by simp [binA, intBin, hr])) hk
theorem WS.subK {ty : TypeId} {x y : Operand} {c} {k : IntKind} {i j : Int} (hg : gOk ops env g = some true := by rfl) (hn : Nat.blt d n = true := by rfl) (hx : evalA G env x = some (.int k i) := by first | rfl | assumption)(hy : evalA G env y = some (.int k j) := by first | rfl | assumption)(hr : k.wrap (i - j) = i - j := by first | (rw [IntKind.wrap_i64]; omega) | (rw [IntKind.wrap_u8]; omega) | (rw [IntKind.wrap_u64]; omega))
  (hk : K (upd env d (.int k (i - j))) h fun _ => True) : WS P G X n lt ops ⟨some d, .binOp .sub ty x y c, t, p, a, g⟩ env h K F := WS.same hg hn (fun h => opA_int hx hy (by simp [binA, intBin, hr])) hk
theorem WS.mulK {ty : TypeId} {x y : Operand} {c} {k : IntKind} {i j : Int} (hg : gOk ops env g = some true := by rfl) (hn : Nat.blt d n = true := by rfl) (hx : evalA G env x = some (.int k i) := by first | rfl | assumption)(hy : evalA G env y = some (.int k j) := by first | rfl | assumption)(hr : k.wrap (i * j) = i * j := by first | (rw [IntKind.wrap_i64]; omega) | (rw [IntKind.wrap_u8]; omega) | (rw [IntKind.wrap_u64]; omega))
  (hk : K (upd env d (.int k (i * j))) h fun _ => True) : WS P G X n lt ops ⟨some d, .binOp .mul ty x y c, t, p, a, g⟩ env h K F := WS.same hg hn (fun h => opA_int hx hy (by simp [binA, intBin, hr])) hk
theorem WS.bytesOf {ty ty2 e : TypeId} {x : Operand} {s : ByteArray} {u} (hg : gOk ops env g = some true := by rfl) (hn : Nat.blt d n = true := by rfl) (hx : evalA G env x = some (.string s) := by first | rfl | assumption) (hu : P.underlying ty = some u := by rfl) (hu2 : P.underlying ty2 = some (.slice e) := by rfl) (hu3 : P.underlying e = some (.int .u8) := by rfl)
  (hk : K (upd env d (.slice (some ⟨h.next, 0, none⟩) s.size 1)) (h.alloc (.cells false (s.data.toList.map fun b => Value.int .u8 b.toNat))) fun _ => False) : WS P G X n lt ops ⟨some d, .convert ty ty2 x, t, p, a, g⟩ env h K F :=
 WS.val _ hg hn (by simp only [opA, hx, convertA, hu, hu2, hu3, Option.map_some]) (fun _ hf => hf.elim) hk
theorem WS.eqI {ty : TypeId} {x y : Operand} {c} {k : IntKind} {i j : Int} (hg : gOk ops env g = some true := by rfl) (hn : Nat.blt d n = true := by rfl) (hx : evalA G env x = some (.int k i) := by first | rfl | assumption) (hy : evalA G env y = some (.int k j) := by first | rfl | assumption)
  (h1 : i = j → K (upd env d (.bool true)) h fun _ => True) (h2 : ¬(i = j) → K (upd env d (.bool false)) h fun _ => True) : WS P G X n lt ops ⟨some d, .binOp .eql ty x y c, t, p, a, g⟩ env h K F := WS.askP hg hn (fun h => opA_eqI hx hy) h1 h2
theorem WS.neI {ty : TypeId} {x y : Operand} {c} {k : IntKind} {i j : Int} (hg : gOk ops env g = some true := by rfl) (hn : Nat.blt d n = true := by rfl) (hx : evalA G env x = some (.int k i) := by first | rfl | assumption) (hy : evalA G env y = some (.int k j) := by first | rfl | assumption)
  (h1 : i ≠ j → K (upd env d (.bool true)) h fun _ => True) (h2 : ¬(i ≠ j) → K (upd env d (.bool false)) h fun _ => True) : WS P G X n lt ops ⟨some d, .binOp .neq ty x y c, t, p, a, g⟩ env h K F := WS.askP hg hn (fun h => opA_neI hx hy) h1 h2
theorem WS.ltI {ty : TypeId} {x y : Operand} {c} {k : IntKind} {i j : Int} (hg : gOk ops env g = some true := by rfl) (hn : Nat.blt d n = true := by rfl) (hx : evalA G env x = some (.int k i) := by first | rfl | assumption) (hy : evalA G env y = some (.int k j) := by first | rfl | assumption)
  (h1 : i < j → K (upd env d (.bool true)) h fun _ => True) (h2 : ¬(i < j) → K (upd env d (.bool false)) h fun _ => True) : WS P G X n lt ops ⟨some d, .binOp .lss ty x y c, t, p, a, g⟩ env h K F := WS.askP hg hn (fun h => opA_ltI hx hy) h1 h2
theorem WS.leI {ty : TypeId} {x y : Operand} {c} {k : IntKind} {i j : Int} (hg : gOk ops env g = some true := by rfl) (hn : Nat.blt d n = true := by rfl) (hx : evalA G env x = some (.int k i) := by first | rfl | assumption) (hy : evalA G env y = some (.int k j) := by first | rfl | assumption)
  (h1 : i ≤ j → K (upd env d (.bool true)) h fun _ => True) (h2 : ¬(i ≤ j) → K (upd env d (.bool false)) h fun _ => True) : WS P G X n lt ops ⟨some d, .binOp .leq ty x y c, t, p, a, g⟩ env h K F := WS.askP hg hn (fun h => opA_leI hx hy) h1 h2
theorem WS.gtI {ty : TypeId} {x y : Operand} {c} {k : IntKind} {i j : Int} (hg : gOk ops env g = some true := by rfl) (hn : Nat.blt d n = true := by rfl) (hx : evalA G env x = some (.int k i) := by first | rfl | assumption) (hy : evalA G env y = some (.int k j) := by first | rfl | assumption)
  (h1 : j < i → K (upd env d (.bool true)) h fun _ => True) (h2 : ¬(j < i) → K (upd env d (.bool false)) h fun _ => True) : WS P G X n lt ops ⟨some d, .binOp .gtr ty x y c, t, p, a, g⟩ env h K F := WS.askP hg hn (fun h => opA_gtI hx hy) h1 h2
theorem WS.geI {ty : TypeId} {x y : Operand} {c} {k : IntKind} {i j : Int} (hg : gOk ops env g = some true := by rfl) (hn : Nat.blt d n = true := by rfl) (hx : evalA G env x = some (.int k i) := by first | rfl | assumption) (hy : evalA G env y = some (.int k j) := by first | rfl | assumption)
  (h1 : j ≤ i → K (upd env d (.bool true)) h fun _ => True) (h2 : ¬(j ≤ i) → K (upd env d (.bool false)) h fun _ => True) : WS P G X n lt ops ⟨some d, .binOp .geq ty x y c, t, p, a, g⟩ env h K F := WS.askP hg hn (fun h => opA_geI hx hy) h1 h2
theorem WS.eqS {ty : TypeId} {x y : Operand} {c} {i j : ByteArray} (hg : gOk ops env g = some true := by rfl) (hn : Nat.blt d n = true := by rfl) (hx : evalA G env x = some (.string i) := by first | rfl | assumption) (hy : evalA G env y = some (.string j) := by first | rfl | assumption)
  (h1 : i = j → K (upd env d (.bool true)) h fun _ => True) (h2 : ¬(i = j) → K (upd env d (.bool false)) h fun _ => True) : WS P G X n lt ops ⟨some d, .binOp .eql ty x y c, t, p, a, g⟩ env h K F := WS.askP hg hn (fun h => opA_eqS hx hy) h1 h2
theorem WS.neS {ty : TypeId} {x y : Operand} {c} {i j : ByteArray} (hg : gOk ops env g = some true := by rfl) (hn : Nat.blt d n = true := by rfl) (hx : evalA G env x = some (.string i) := by first | rfl | assumption) (hy : evalA G env y = some (.string j) := by first | rfl | assumption)
  (h1 : i ≠ j → K (upd env d (.bool true)) h fun _ => True) (h2 : ¬(i ≠ j) → K (upd env d (.bool false)) h fun _ => True) : WS P G X n lt ops ⟨some d, .binOp .neq ty x y c, t, p, a, g⟩ env h K F := WS.askP hg hn (fun h => opA_neS hx hy) h1 h2
theorem WS.eqG {ty : TypeId} {x y : Operand} {c} {u w : Value} {b : Bool} (hg : gOk ops env g = some true := by rfl) (hn : Nat.blt d n = true := by rfl) (hx : evalA G env x = some u := by first | rfl | assumption) (hy : evalA G env y = some w := by first | rfl | assumption) (hq : eqAsk P .eql ty x y u w = true := by rfl) (hv : binA P .eql ty u w = some (.bool b) := by rfl)
  (h1 : b = true → K (upd env d (.bool true)) h fun _ => True) (h2 : b = false → K (upd env d (.bool false)) h fun _ => True) : WS P G X n lt ops ⟨some d, .binOp .eql ty x y c, t, p, a, g⟩ env h K F :=
 WS.askB hg hn (fun h => by simp only [opA, hx, hy, hq, if_true, hv, Option.map_some]) h1 h2
theorem WS.neG {ty : TypeId} {x y : Operand} {c} {u w : Value} {b : Bool} (hg : gOk ops env g = some true := by rfl) (hn : Nat.blt d n = true := by rfl) (hx : evalA G env x = some u := by first | rfl | assumption) (hy : evalA G env y = some w := by first | rfl | assumption) (hq : eqAsk P .neq ty x y u w = true := by rfl) (hv : binA P .neq ty u w = some (.bool b) := by rfl)
  (h1 : b = true → K (upd env d (.bool true)) h fun _ => True) (h2 : b = false → K (upd env d (.bool false)) h fun _ => True) : WS P G X n lt ops ⟨some d, .binOp .neq ty x y c, t, p, a, g⟩ env h K F :=
 WS.askB hg hn (fun h => by simp only [opA, hx, hy, hq, if_true, hv, Option.map_some]) h1 h2

theorem WS.loadS {ty : TypeId} {x : Operand} {i off : Nat} {v : Value} {ro : Bool} {cs : List Value} (hg : gOk ops env g = some true := by rfl) (hn : Nat.blt d n = true := by rfl) (hx : evalA G env x = some (.pointer (some ⟨i, off, none⟩)) := by first | rfl | assumption) (ht : aggT P ty = some false := by rfl)
  (ho : h.obj i = some (.cells ro cs) := by repeat (first | assumption | (with_reducible rfl) | exact obj_new | exact obj_put | (refine obj_old (by first | omega | (simp only [Heap.alloc_next, Heap.put_next]; omega)) ?_) | (refine obj_else (by first | omega | (simp only [Heap.alloc_next, Heap.put_next]; omega)) ?_) | (apply Gr.at; (· assumption); (· first | omega | (simp only [Heap.alloc_next, Heap.put_next]; omega))) | (apply Fr1.at; (· assumption); (· first | omega | (simp only [Heap.alloc_next, Heap.put_next]; omega)); (· first | omega | (simp only [Heap.alloc_next, Heap.put_next]; omega))))) (hc : cs[off]? = some v := by rfl) (hk : K (upd env d v) h fun H => H.obj i = some (.cells ro cs)) : WS P G X n lt ops ⟨some d, .load ty x, t, p, a, g⟩ env h K F := by
 have : ∀ H : Heap, H.obj i = some (.cells ro cs) → opA P G env ⟨some d, .load ty x, t, p, a, g⟩ H = some (.val v H) := by
  intro H hH
  refine opA_load hx ?_
  simp only [loadA, ht, Heap.cell, hH, hc]
 exact WS.val _ hg hn (this h ho) (fun H hH => this H hH) hk

theorem WS.loadG {ty : TypeId} {x : Operand} {i off m : Nat} {ro : Bool} {cs vs : List Value} (hg : gOk ops env g = some true := by rfl) (hn : Nat.blt d n = true := by rfl) (hx : evalA G env x = some (.pointer (some ⟨i, off, none⟩)) := by first | rfl | assumption) (ht : aggT P ty = some true := by rfl) (hs : sizeT P ty = some m := by exact sz_at rfl)
  (ho : h.obj i = some (.cells ro cs) := by repeat (first | assumption | (with_reducible rfl) | exact obj_new | exact obj_put | (refine obj_old (by first | omega | (simp only [Heap.alloc_next, Heap.put_next]; omega)) ?_) | (refine obj_else (by first | omega | (simp only [Heap.alloc_next, Heap.put_next]; omega)) ?_) | (apply Gr.at; (· assumption); (· first | omega | (simp only [Heap.alloc_next, Heap.put_next]; omega))) | (apply Fr1.at; (· assumption); (· first | omega | (simp only [Heap.alloc_next, Heap.put_next]; omega)); (· first | omega | (simp only [Heap.alloc_next, Heap.put_next]; omega))))) (hc : off + m ≤ cs.length := by first | (exact Nat.le_of_ble_eq_true rfl) | (simp; done) | omega) (hv' : forceL ((cs.drop off).take m) = some vs := by rfl) (hk : K (upd env d (.agg vs.toArray)) h fun H => H.obj i = some (.cells ro cs)) : WS P G X n lt ops ⟨some d, .load ty x, t, p, a, g⟩ env h K F := by
 have hv := forceL_eq hv'
 have : ∀ H : Heap, H.obj i = some (.cells ro cs) → opA P G env ⟨some d, .load ty x, t, p, a, g⟩ H = some (.val (.agg vs.toArray) H) := by
  intro H hH
  refine opA_load hx ?_
  simp only [loadA, ht, hs, Heap.cells, hH, if_pos hc, hv, Option.map_some]
 exact WS.val _ hg hn (this h ho) (fun H hH => this H hH) hk

theorem WS.store {ty : TypeId} {x y : Operand} {i off : Nat} {v : Value} {cs cs' : List Value} (hg : gOk ops env g = some true := by rfl) (hx : evalA G env x = some (.pointer (some ⟨i, off, none⟩)) := by first | rfl | assumption) (hy : evalA G env y = some v := by first | rfl | assumption)
  (hz : sizeT P ty = some v.cells.size := by rfl) (ho : h.obj i = some (.cells false cs) := by repeat (first | assumption | (with_reducible rfl) | exact obj_new | exact obj_put | (refine obj_old (by first | omega | (simp only [Heap.alloc_next, Heap.put_next]; omega)) ?_) | (refine obj_else (by first | omega | (simp only [Heap.alloc_next, Heap.put_next]; omega)) ?_) | (apply Gr.at; (· assumption); (· first | omega | (simp only [Heap.alloc_next, Heap.put_next]; omega))) | (apply Fr1.at; (· assumption); (· first | omega | (simp only [Heap.alloc_next, Heap.put_next]; omega)); (· first | omega | (simp only [Heap.alloc_next, Heap.put_next]; omega))))) (hf : off + v.cells.size ≤ cs.length := by first | (exact Nat.le_of_ble_eq_true rfl) | (simp; done) | omega) (h1 : v.cells.toList.all (·.oneCell') = true := by rfl) (hs' : forceL (setMany cs off v.cells.toList) = some cs' := by rfl)
  (hk : K env (h.put i (some (.cells false cs'))) fun _ => True) : WS P G X n false ops ⟨none, .store ty x y, t, p, a, g⟩ env h K F := by
 have hs := forceL_eq hs'
 refine WS.skip hg (opA_store hx hy ?_) hk
 simp only [storeA, hz, if_true, Heap.store, ho]
 rw [if_pos (by simp only [Array.length_toList, h1, Bool.and_true, decide_eq_true_eq]; exact hf), hs]

theorem WS.alloc {e : TypeId} {z : Value} {cs : List Value} (hg : gOk ops env g = some true := by rfl) (hn : Nat.blt d n = true := by rfl) (hz : zeroT P e = some z := by rfl) (hcs' : forceL z.cells.toList = some cs := by rfl)
  (hk : K (upd env d (.pointer (some ⟨h.next, 0, none⟩))) (h.alloc (.cells false cs)) fun _ => False) : WS P G X n lt ops ⟨some d, .alloc e, t, p, a, g⟩ env h K F :=
 WS.val _ hg hn (by simp only [opA, hz, Option.map_some, forceL_eq hcs']) (fun _ hf => hf.elim) hk

theorem WS.box {e : TypeId} {x : Operand} {v : Value} {cs : List Value} (hg : gOk ops env g = some true := by rfl) (hn : Nat.blt d n = true := by rfl) (hx : evalA G env x = some v := by first | rfl | assumption) (hcs' : forceL v.cells.toList = some cs := by rfl)
  (hk : K (upd env d (.pointer (some ⟨h.next, 0, none⟩))) (h.alloc (.cells false cs)) fun _ => False) : WS P G X n lt ops ⟨some d, .box e x, t, p, a, g⟩ env h K F :=
 WS.val _ hg hn (by simp only [opA, hx, Option.map_some, forceL_eq hcs']) (fun _ hf => hf.elim) hk

theorem WS.buildSlice {ty e : TypeId} {parts} {ps} {len m : Nat} {z : Value} {cs0 cs : List Value} (hg : gOk ops env g = some true := by rfl) (hn : Nat.blt d n = true := by rfl) (hp : evalParts G env parts.toList = some ps := by rfl) (hu : P.underlying ty = some (.slice e) := by rfl) (hm : sizeT P e = some m := by exact sz_at rfl) (hz : zeroT P e = some z := by rfl)
  (hok : (z.cells.size = m && 0 < m && len * m ≤ 16777216) = true := by rfl) (hcs0 : fillA (fun i => some (i * m, m)) (zerosA z len) ps = some cs0 := by rfl) (hcs' : forceL cs0 = some cs := by rfl)
  (hk : K (upd env d (.slice (some ⟨h.next, 0, none⟩) len m)) (h.alloc (.cells false cs)) fun _ => False) : WS P G X n lt ops ⟨some d, .buildSlice ty len parts, t, p, a, g⟩ env h K F :=
 WS.val _ hg hn (by simp only [opA, hp, buildSliceA, hu, hm, hz]; rw [if_pos (by simpa using hok), hcs0, forceL_eq hcs']; rfl) (fun _ hf => hf.elim) hk

theorem WS.conv {ty ty2 : TypeId} {x : Operand} {u v : Value} (S : Heap → Prop) (hg : gOk ops env g = some true) (hn : Nat.blt d n = true) (hx : evalA G env x = some u) (hS : S h) (hv : ∀ H, S H → convertA P ty ty2 u H = some (v, H))
  (hk : K (upd env d v) h S) : WS P G X n lt ops ⟨some d, .convert ty ty2 x, t, p, a, g⟩ env h K F := by
 have : ∀ H, S H → opA P G env ⟨some d, .convert ty ty2 x, t, p, a, g⟩ H = some (.val v H) := fun H hH => by simp only [opA, hx, hv H hH, Option.map_some]
 exact WS.val S hg hn (this h hS) this hk

theorem WS.heapV {op : Op} {v : Value} {h' : Heap} (hg : gOk ops env g = some true) (hn : Nat.blt d n = true) (ho : opA P G env ⟨some d, op, t, p, a, g⟩ h = some (.val v h'))
  (hk : K (upd env d v) h' fun _ => False) : WS P G X n lt ops ⟨some d, op, t, p, a, g⟩ env h K F := WS.val _ hg hn ho (fun _ hf => hf.elim) hk

theorem resultA_nil : resultA P env h [] = some [] := rfl
theorem resultA_tmp {t : Tmp} {l : List ResultVar} {v : Value} {vs : List Value} (hx : env t = some v) (hr : resultA P env h l = some vs) : resultA P env h (.tmp t :: l) = some (v :: vs) := by simp only [resultA, hx, hr]
theorem resultA_cellG {t : Tmp} {ty : TypeId} {l : List ResultVar} {i off m : Nat} {ro : Bool} {cs ws vs : List Value} (hx : env t = some (.pointer (some ⟨i, off, none⟩))) (ht : aggT P ty = some true) (hs : sizeT P ty = some m) (ho : h.obj i = some (.cells ro cs)) (hc : off + m ≤ cs.length)
  (hv : forceL ((cs.drop off).take m) = some ws) (hr : resultA P env h l = some vs) : resultA P env h (.cell t ty :: l) = some (.agg ws.toArray :: vs) := by
 simp only [resultA, hx, hr, loadA, ht, hs, Heap.cells, ho, if_pos hc, forceL_eq hv, Option.map_some]
theorem resultA_cellS {t : Tmp} {ty : TypeId} {l : List ResultVar} {i off : Nat} {ro : Bool} {cs vs : List Value} {v : Value} (hx : env t = some (.pointer (some ⟨i, off, none⟩))) (ht : aggT P ty = some false) (ho : h.obj i = some (.cells ro cs)) (hc : cs[off]? = some v)
  (hr : resultA P env h l = some vs) : resultA P env h (.cell t ty :: l) = some (v :: vs) := by
 simp only [resultA, hx, hr, loadA, ht, Heap.cell, ho, hc, Option.map_some]

theorem WS.callF {f : FuncId} {args tys} {vs : List Value} (hg : gOk ops env g = some true := by rfl) (hn : Nat.blt d n = true := by rfl) (ha : evalAll G env args.toList = some vs := by rfl) (he : ∀ vs, enterA P f vs = some (.enter f vs))
  (hk : WCall P G X f vs h fun r => match r with | .ret v h' => K (upd env d v) h' (fun _ => True) | .panic ch h' => F ch h') : WS P G X n false ops ⟨some d, .call ⟨.value (.func f), args, tys⟩, t, p, a, g⟩ env h K F :=
 WS.enter hg hn (by simp only [opA, callA, ha, evalA, invokeA]; rw [show ((#[] : Array Value).toList ++ vs ++ (#[] : Array Value).toList) = vs by simp, he]) hk

theorem WS.callV {x : Operand} {f : FuncId} {args tys} {fs cs} {vs ws : List Value} (hg : gOk ops env g = some true) (hn : Nat.blt d n = true) (hx : evalA G env x = some (.func (.func f) fs cs)) (ha : evalAll G env args.toList = some vs) (hw : fs.toList ++ vs ++ cs.toList = ws) (he : ∀ vs, enterA P f vs = some (.enter f vs))
  (hk : WCall P G X f ws h fun r => match r with | .ret v h' => K (upd env d v) h' (fun _ => True) | .panic ch h' => F ch h') : WS P G X n false ops ⟨some d, .call ⟨.value x, args, tys⟩, t, p, a, g⟩ env h K F :=
 WS.enter hg hn (by simp only [opA, callA, ha, hx, invokeA]; rw [hw, he]) hk

theorem WS.invoke {x : Operand} {name : String} {f : FuncId} {args tys} {ty : TypeId} {u r : Value} {vs : List Value} (hg : gOk ops env g = some true) (hn : Nat.blt d n = true) (hx : evalA G env x = some (.iface ty u)) (ha : evalAll G env args.toList = some vs) (hm : methodA P ty u name = some (f, r)) (he : ∀ vs, enterA P f vs = some (.enter f vs))
  (hk : WCall P G X f (r :: vs) h fun r => match r with | .ret v h' => K (upd env d v) h' (fun _ => True) | .panic ch h' => F ch h') : WS P G X n false ops ⟨some d, .call ⟨.invoke x name, args, tys⟩, t, p, a, g⟩ env h K F :=
 WS.enter hg hn (by simp only [opA, callA, ha, hx, invokeA, hm, he]) hk

/- Objects of a heap. -/
theorem obj_new {o : AObj} : (h.alloc o).obj h.next = some o := by rw [Heap.alloc_obj, if_pos rfl]
theorem obj_old {i : Nat} {o : AObj} {x : Option AObj} (hne : i ≠ h.next) (ho : h.obj i = x) : (h.alloc o).obj i = x := by rw [Heap.alloc_obj, if_neg hne]; exact ho
theorem obj_put {i : Nat} {o : Option AObj} : (h.put i o).obj i = o := by rw [Heap.put_obj, if_pos rfl]
theorem obj_else {i j : Nat} {o x : Option AObj} (hne : i ≠ j) (ho : h.obj i = x) : (h.put j o).obj i = x := by rw [Heap.put_obj, if_neg hne]; exact ho

def SliceAt (h : Heap) (b : Option Addr) (n es size : Nat) (old : List Value) : Prop :=
 (b = none ∧ n = 0 ∧ es = 0 ∧ old = []) ∨ ∃ i off cells, b = some ⟨i, off, none⟩ ∧ es = size ∧ h.obj i = some (.cells false cells) ∧ off + n * size ≤ cells.length ∧ (cells.drop off).take (n * size) = old

theorem appendA_of {ty ty' e : TypeId} {u : TypeDesc} {b : Option Addr} {len es j off m size bytes : Nat} {ro : Bool} {cs old new : List Value} (hu : P.underlying ty = some (.slice e)) (hu' : P.underlying ty' = some u) (hi : ∀ k, u ≠ .int k) (he : elemFits P e = some (size, bytes))
  (hm : 0 < m) (ho : h.obj j = some (.cells ro cs)) (hl : off + m * size ≤ cs.length) (hnew : (cs.drop off).take (m * size) = new) (hr : (len + m) * bytes ≤ room) (h1 : new.all (·.oneCell') = true) (hs : SliceAt h b len es size old) :
  ∃ h', appendA P #[ty, ty'] [.slice b len es, .slice (some ⟨j, off, none⟩) m size] h = some (.slice (some ⟨h.next, 0, none⟩) (len + m) size, h') ∧ h'.next = h.next + 1 ∧ h'.obj h.next = some (.cells false (old ++ new)) ∧
   ∀ i, i < h.next → (∀ off, b ≠ some ⟨i, off, none⟩) → h'.obj i = h.obj i := by
 have ha : appendedV size h (.slice (some ⟨j, off, none⟩) m size) = some (m, new) := by
  simp only [appendedV]
  rw [if_neg (by omega)]
  simp only [if_true, Heap.cells, ho, if_pos hl, hnew, Option.map_some]
 rcases hs with ⟨rfl, rfl, rfl, rfl⟩ | ⟨i, off', cells, rfl, rfl, hob, hle, hold⟩
 ·refine ⟨h.alloc (.cells false new), ?_, rfl, by rw [obj_new]; rfl, fun i hlt _ => obj_old (by omega) rfl⟩
  simp only [appendA, List.getElem?_toArray, List.getElem?_cons_zero, List.getElem?_cons_succ, hu, hu', he, ha]
  cases u <;> first | exact (hi _ rfl).elim | (rw [if_neg (by omega), if_pos (by simpa using hr)]; simp)
 ·refine ⟨(h.put i none).alloc (.cells false (old ++ new)), ?_, rfl, ?_, fun k hlt hne => ?_⟩
  ·simp only [appendA, List.getElem?_toArray, List.getElem?_cons_zero, List.getElem?_cons_succ, hu, hu', he, ha]
   cases u <;> first | exact (hi _ rfl).elim | (rw [if_neg (by omega)]; simp only [decide_true, hr, h1, Bool.and_self, if_true, hob, Heap.cells, if_pos hle, hold, Option.map_some])
  ·exact obj_new (h := h.put i none)
  ·refine obj_old (h := h.put i none) (by simp only [Heap.put_next]; omega) (obj_else (fun e => ?_) rfl)
   subst e
   exact hne off' rfl

theorem WS.append {ty ty' e : TypeId} {u : TypeDesc} {x y : Operand} {b : Option Addr} {len es j off m size bytes : Nat} {ro : Bool} {cs old new : List Value} (hg : gOk ops env g = some true) (hn : Nat.blt d n = true) (hx : evalA G env x = some (.slice b len es)) (hy : evalA G env y = some (.slice (some ⟨j, off, none⟩) m size))
  (hu : P.underlying ty = some (.slice e)) (hu' : P.underlying ty' = some u) (hi : ∀ k, u ≠ .int k) (he : elemFits P e = some (size, bytes))
  (hm : 0 < m) (ho : h.obj j = some (.cells ro cs)) (hl : off + m * size ≤ cs.length) (hnew' : forceL ((cs.drop off).take (m * size)) = some new) (hr : (len + m) * bytes ≤ room) (h1 : new.all (·.oneCell') = true) (hs : SliceAt h b len es size old)
  (hk : ∀ h', h'.next = h.next + 1 → h'.obj h.next = some (.cells false (old ++ new)) → (∀ i, i < h.next → (∀ off, b ≠ some ⟨i, off, none⟩) → h'.obj i = h.obj i) → K (upd env d (.slice (some ⟨h.next, 0, none⟩) (len + m) size)) h' fun _ => False) :
  WS P G X n lt ops ⟨some d, .call ⟨.builtin .append, #[x, y], #[ty, ty']⟩, t, p, a, g⟩ env h K F := by
 obtain ⟨h', h1', h2, h3, h4⟩ := appendA_of hu hu' hi he hm ho hl (forceL_eq hnew') hr h1 hs
 refine WS.heapV hg hn (v := .slice (some ⟨h.next, 0, none⟩) (len + m) size) (h' := h') ?_ (hk h' h2 h3 h4)
 simp only [opA, callA, evalAll, hx, hy, h1', Option.map_some]

attribute [irreducible] byteN bsub

end
end Go.Am
end

section
namespace Go.Am

theorem setMany_mid : ∀ (v p q : List Value), v.length ≤ q.length → setMany (p ++ q) p.length v = p ++ v ++ q.drop v.length
 | [], p, q, _ => by simp [setMany]
 | a :: v, p, q, h => by
  cases q with
  | nil => simp at h
  | cons b q =>
   have e : (p ++ b :: q).set p.length a = (p ++ [a]) ++ q := by
    rw [List.set_append_right _ _ (Nat.le_refl _), Nat.sub_self]; simp
   have ih := setMany_mid v (p ++ [a]) q (by simp at h; omega)
   rw [List.length_append, List.length_singleton] at ih
   show setMany ((p ++ b :: q).set p.length a) (p.length + 1) v = _
   rw [e, ih]; simp

def partsAggs : Nat → List (Nat × Value) → Option (List (Array Value))
 | _, [] => some []
 | k, (i, .agg a) :: r => if i = k then (match partsAggs (k + 1) r with
   | some l => some (a :: l)
   | none => none) else none
 | _, _ => none

theorem fillA_aggs {m : Nat} : ∀ (ps : List (Nat × Value)) (k : Nat) (vs : List (Array Value)) (p q : List Value), partsAggs k ps = some vs → p.length = k * m → (∀ a ∈ vs, a.size = m) → q.length = vs.length * m →
  fillA (fun i => some (i * m, m)) (p ++ q) ps = some (p ++ (vs.map (·.toList)).flatten)
 | [], k, vs, p, q, h, hp, hv, hq => by
  cases h
  have : q = [] := List.eq_nil_of_length_eq_zero (by simpa using hq)
  subst this; simp [fillA]
 | (i, v) :: r, k, vs, p, q, h, hp, hv, hq => by
  cases v with
  | agg a =>
   unfold partsAggs at h
   split at h
   ·rename_i hi
    split at h
    ·rename_i l hl
     cases h
     subst hi
     have ha := hv a (List.mem_cons_self ..)
     have hal : a.toList.length = m := by simpa using ha
     simp only [List.length_cons, Nat.succ_mul] at hq
     have ih := fillA_aggs (m := m) r (i + 1) l (p ++ a.toList) (q.drop m) hl (by rw [List.length_append, hp, hal, Nat.succ_mul]) (fun b hb => hv b (List.mem_cons_of_mem _ hb)) (by rw [List.length_drop]; omega)
     have hsm := setMany_mid a.toList p q (by omega)
     rw [hp, hal] at hsm
     unfold fillA
     simp only
     rw [if_neg (by simp [Value.cells, ha, hp]; omega)]
     show fillA _ (setMany (p ++ q) (i * m) a.toList) r = _
     rw [hsm, ih]
     simp
    ·cases h
   ·cases h
  | _ => simp [partsAggs] at h

theorem zerosA_len (z : Value) {m : Nat} (hz : z.cells.size = m) : ∀ n, (zerosA z n).length = n * m
 | 0 => by simp [zerosA]
 | n + 1 => by
  have hl : z.cells.toList.length = m := by simpa using hz
  simp only [zerosA, List.length_append, hl, zerosA_len z hz n, Nat.succ_mul]; omega

section
variable {P : Program} {G : Nat} {X : ExtFn} {n : Nat} {F : List PanicEntry → Heap → Prop} {env : Env} {h : Heap} {lt : Bool} {ops : Array Oper} {d : Nat} {t : TypeId} {p : String} {a : Array Edge} {g : Option (Nat × Bool)} {K : Env → Heap → (Heap → Prop) → Prop}

theorem WS.buildAggs {ty e : TypeId} {parts} {ps : List (Nat × Value)} {vs : List (Array Value)} {len m : Nat} {z : Value} {cs : List Value} (hg : gOk ops env g = some true := by rfl) (hn : Nat.blt d n = true := by rfl) (hp : evalParts G env parts.toList = some ps := by rfl) (hu : P.underlying ty = some (.slice e) := by rfl) (hm : sizeT P e = some m := by exact sz_at rfl) (hz : zeroT P e = some z := by rfl)
  (hok : (z.cells.size = m && 0 < m && len * m ≤ 16777216) = true := by rfl) (hv : partsAggs 0 ps = some vs := by rfl) (hl : vs.length = len := by rfl) (hs : vs.all (fun a => a.size == m) = true := by rfl) (hcs' : forceL (vs.map (·.toList)).flatten = some cs := by rfl)
  (hk : K (upd env d (.slice (some ⟨h.next, 0, none⟩) len m)) (h.alloc (.cells false cs)) fun _ => False) : WS P G X n lt ops ⟨some d, .buildSlice ty len parts, t, p, a, g⟩ env h K F := by
 have hzs : z.cells.size = m := by simp only [Bool.and_eq_true, decide_eq_true_eq] at hok; exact hok.1.1
 have hf := fillA_aggs (m := m) ps 0 vs [] (zerosA z len) hv (by simp) (fun a ha => by simpa using List.all_eq_true.1 hs a ha) (by rw [zerosA_len z hzs, hl])
 rw [List.nil_append, List.nil_append, forceL_eq hcs'] at hf
 exact WS.val _ hg hn (by simp only [opA, hp, buildSliceA, hu, hm, hz]; rw [if_pos (by simpa using hok), hf]; rfl) (fun _ hf => hf.elim) hk
end
end Go.Am
end

section
namespace Go.Am
open Go.RowKit (Below)

theorem WCall.calls {P : Program} {G B : Nat} {w0 : World} {X : ExtFn} {ρ : Ren} {h : Heap} {w : World} {f : FuncId} {args : List Value} {args' : Array Value} {Q : ARes → Prop}
  (E : ExtOk P G B w0 X) (hm : P.follows .mixedOrders = true) (R : Rel G B w0 ρ h w) (hargs : LRel ρ args args'.toList) (hw : WCall P G X f args h Q) :
  Calls P f args' w fun e w' => ∃ r, Q r ∧ EndRel G B w0 ρ h r e w' := by
 obtain ⟨k, r, hr, hq⟩ := WCall.out hw
 exact (callN_sound E hm k f args h r hr ρ w args' R hargs).mono fun e w' he => ⟨r, hq, he⟩

theorem Rel.start (w : World) : Rel 0 w.heap.size w (fun _ => none) ⟨0, fun _ => none⟩ w where
 below := Below.refl _ _
 base := Nat.le_refl _
 dom := fun _ _ _ _ h => by cases h
 glob := fun _ h => by omega
 live := fun _ _ _ _ _ h => by cases h
 inj := fun _ _ _ _ _ _ _ _ _ _ _ h => by cases h

end Go.Am
end

section
namespace Go.Am
open Go.RowKit (Below)
set_option linter.unusedVariables false
set_option linter.unusedSimpArgs false

def regsCode : List (Nat × Array Oper) → Code
 | [] => .ret
 | (id, ops) :: l => .seq (.region id ops false) (regsCode l)

def execRegs (P : Program) (G : Nat) (C : CallFn) (n : Nat) : List (Nat × Array Oper) → Env → Heap → Option SRes
 | [], env, h => some (.ok env h)
 | (_, ops) :: l, env, h => match execOps P G C n ops (List.range ops.size) env h with
  | some (.ok e h') => execRegs P G C n l e h'
  | r => r

def keepsT (t : Tmp) (ops : Array Oper) : Bool := ops.toList.all fun o => o.dst != some t

section
variable {G B : Nat} {w0 : World} {P : Program} {n : Nat}

theorem putA_keep {dst : Option Tmp} {v : Value} {env env' : Env} {t : Tmp} (hp : putA n dst v env = some env') (ht : dst ≠ some t) : env' t = env t := by
 unfold putA at hp
 split at hp
 ·cases hp; rfl
 ·rename_i d
  split at hp
  ·cases hp
   simp only
   rw [if_neg (fun e => ht (by rw [e]))]
  ·cases hp

theorem stepA_keep {C : CallFn} {ops : Array Oper} {o : Oper} {env env' : Env} {h h' : Heap} {t : Tmp} (hs : stepA P G C n ops o env h = some (.ok env' h')) (ht : o.dst ≠ some t) : env' t = env t := by
 unfold stepA at hs
 split at hs
 ·cases hs
 ·obtain ⟨e, he, h1⟩ := Option.map_eq_some_iff.1 hs
  cases h1; exact putA_keep he ht
 ·split at hs
  ·cases hs
  ·obtain ⟨e, he, h1⟩ := Option.map_eq_some_iff.1 hs
   cases h1; exact putA_keep he ht
  ·obtain ⟨e, he, h1⟩ := Option.map_eq_some_iff.1 hs
   cases h1; exact putA_keep he ht
  ·split at hs
   ·cases hs
   ·obtain ⟨e, he, h1⟩ := Option.map_eq_some_iff.1 hs
    cases h1; exact putA_keep he ht
   ·cases hs
  ·cases hs

theorem keepsT_at {t : Tmp} {ops : Array Oper} (hk : keepsT t ops = true) {i : Nat} {o : Oper} (hi : ops[i]? = some o) : o.dst ≠ some t := by
 have := List.all_eq_true.1 hk o (by rw [Array.getElem?_eq_some_iff] at hi; obtain ⟨hlt, rfl⟩ := hi; simp)
 simpa using this

theorem execOps_soundE {C : CallFn} (SC : SoundC P G B w0 C) {ops : Array Oper} {Q : Exit → Act → World → Prop} : ∀ (l : List Nat) {ρ : Ren} {h : Heap} {w : World} {env : Env} {a : Act} {r : SRes},
  Rel G B w0 ρ h w → FrameRel ρ n env a → execOps P G C n ops l env h = some r →
  (∀ env' h', r = .ok env' h' → ∀ ρ' a' w', Ext ρ h ρ' h' → Rel G B w0 ρ' h' w' → FrameRel ρ' n env' a' → a'.defers = a.defers → (∀ t, keepsT t ops = true → env' t = env t) → Q .normal a' w') →
  (∀ ch h', r = .panic ch h' → ∀ ρ' ch' a' w' env', Ext ρ h ρ' h' → Rel G B w0 ρ' h' w' → ChRel ρ' ch ch' → a'.defers = a.defers → FrameRel ρ' n env' a' → (∀ t, keepsT t ops = true → env' t = env t) → Q (.panic ch') a' w') →
  wpOps P ops Q l a w
 | [], ρ, h, w, env, a, r, R, F, he, hok, _ => by
  simp only [execOps] at he
  cases he
  exact hok env h rfl ρ a w (Ext.refl _ _) R F rfl fun _ _ => rfl
 | i :: rest, ρ, h, w, env, a, r, R, F, he, hok, hpanic => by
  rw [wpOps_cons]
  unfold execOps at he
  split at he
  ·rename_i hi
   simp only [wpOp, hi]
   exact execOps_soundE SC rest R F he hok hpanic
  ·rename_i o hi
   split at he
   ·rename_i env' h' hs
    refine stepA_sound SC R F hi hs ?_ (fun ch h'' e => by cases e)
    intro env2 h2 e2 ρ' v' w' hext hR hF
    cases e2
    have hkk : ∀ t, keepsT t ops = true → env' t = env t := fun t ht => stepA_keep hs (keepsT_at ht hi)
    refine execOps_soundE SC rest hR hF he ?_ ?_
    ·intro env3 h3 e3 ρ3 a3 w3 hext3 hR3 hF3 hd3 hk3
     exact hok env3 h3 e3 ρ3 a3 w3 (hext.trans hext3) hR3 hF3 (by rw [hd3, put_defers]) fun t ht => (hk3 t ht).trans (hkk t ht)
    ·intro ch h3 e3 ρ3 ch3 a3 w3 env3 hext3 hR3 hc3 hd3 hF3 hk3
     exact hpanic ch h3 e3 ρ3 ch3 a3 w3 env3 (hext.trans hext3) hR3 hc3 (by rw [hd3, put_defers]) hF3 fun t ht => (hk3 t ht).trans (hkk t ht)
   ·rename_i hno
    refine stepA_sound SC R F hi he (fun env' h' e => ?_) fun ch h' e ρ' ch' w' hext hR hc => hpanic ch h' e ρ' ch' a w' env hext hR hc rfl (F.mono (hext.le R)) fun _ _ => rfl
    subst e
    exact (hno _ _ he).elim

theorem execRegs_sound {C : CallFn} (SC : SoundC P G B w0 C) {Q : Exit → Act → World → Prop} : ∀ (l : List (Nat × Array Oper)) {ρ : Ren} {h : Heap} {w : World} {env : Env} {a : Act} {r : SRes},
  Rel G B w0 ρ h w → FrameRel ρ n env a → execRegs P G C n l env h = some r →
  (∀ env' h', r = .ok env' h' → ∀ ρ' a' w', Ext ρ h ρ' h' → Rel G B w0 ρ' h' w' → FrameRel ρ' n env' a' → a'.defers = a.defers → Q .ret a' w') →
  (∀ ch h', r = .panic ch h' → ∀ ρ' ch' a' w' env', Ext ρ h ρ' h' → Rel G B w0 ρ' h' w' → ChRel ρ' ch ch' → a'.defers = a.defers → FrameRel ρ' n env' a' → (∀ t, (∀ x ∈ l, keepsT t x.2 = true) → env' t = env t) → Q (.panic ch') a' w') →
  (regsCode l).wp P Q a w
 | [], ρ, h, w, env, a, r, R, F, he, hok, _ => by
  simp only [execRegs] at he
  cases he
  exact wp_ret (hok env h rfl ρ a w (Ext.refl _ _) R F rfl)
 | (id, ops) :: rest, ρ, h, w, env, a, r, R, F, he, hok, hpanic => by
  unfold execRegs at he
  refine wp_seq ?_
  split at he
  ·rename_i e h' hs
   refine wp_region (execOps_soundE SC _ R F hs ?_ (fun ch h'' e => by cases e))
   intro env2 h2 e2 ρ2 a2 w2 hext hR hF hd hk
   cases e2
   refine execRegs_sound SC rest hR hF he ?_ ?_
   ·intro env3 h3 e3 ρ3 a3 w3 hext3 hR3 hF3 hd3
    exact hok env3 h3 e3 ρ3 a3 w3 (hext.trans hext3) hR3 hF3 (hd3.trans hd)
   ·intro ch h3 e3 ρ3 ch3 a3 w3 env3 hext3 hR3 hc3 hd3 hF3 hk3
    exact hpanic ch h3 e3 ρ3 ch3 a3 w3 env3 (hext.trans hext3) hR3 hc3 (hd3.trans hd) hF3 fun t ht => (hk3 t fun x hx => ht x (List.mem_cons_of_mem _ hx)).trans (hk t (ht _ (List.mem_cons_self ..)))
  ·rename_i hno
   refine wp_region (execOps_soundE SC _ R F he (fun env' h' e => by subst e; exact (hno _ _ he).elim) ?_)
   intro ch h3 e3 ρ3 ch3 a3 w3 env3 hext3 hR3 hc3 hd3 hF3 hk3
   exact hpanic ch h3 e3 ρ3 ch3 a3 w3 env3 hext3 hR3 hc3 hd3 hF3 fun t ht => hk3 t (ht _ (List.mem_cons_self ..))

def placeR : ResultVar → Tmp
 | .tmp t => t
 | .cell t _ => t

theorem resultA_congr {env env' : Env} {h : Heap} : ∀ (l : List ResultVar), (∀ r ∈ l, env' (placeR r) = env (placeR r)) → resultA P env' h l = resultA P env h l
 | [], _ => rfl
 | .tmp t :: l, hk => by
  have h1 := hk (.tmp t) (List.mem_cons_self ..)
  simp only [placeR] at h1
  simp only [resultA, h1, resultA_congr l fun r hr => hk r (List.mem_cons_of_mem _ hr)]
 | .cell t ty :: l, hk => by
  have h1 := hk (.cell t ty) (List.mem_cons_self ..)
  simp only [placeR] at h1
  simp only [resultA, h1, resultA_congr l fun r hr => hk r (List.mem_cons_of_mem _ hr)]

abbrev CatchFn := CallFn → Value → Value → List PanicEntry → Heap → Option Heap

noncomputable def deferO (P : Program) (G n : Nat) (results : List ResultVar) (ops : Array Oper) (t1 t2 d : Tmp) (g : FuncId) (regs : List (Nat × Array Oper)) (catchO : CatchFn) : CallFn → List Value → Heap → Option ARes := fun C args h =>
 if args.length ≤ n then match execOps P G C n ops (List.range ops.size) (argEnv args) h with
  | some (.ok e1 h1) => match e1 t1, e1 t2 with
   | some v1, some v2 => match execRegs P G C n regs (upd e1 d (.func (.func g) #[] #[v1, v2])) h1 with
    | some (.ok e3 h3) => (resultA P e3 h3 results).map fun vs => .ret (answer vs) h3
    | some (.panic ch h3) => match catchO C v1 v2 ch h3 with
     | some h4 => (resultA P (upd e1 d (.func (.func g) #[] #[v1, v2])) h4 results).map fun vs => .ret (answer vs) h4
     | none => none
    | none => none
   | _, _ => none
  | _ => none
 else none

theorem frame_enter {ρ : Ren} {args : List Value} {args' : Array Value} (hargs : LRel ρ args args'.toList) (hle : args.length ≤ n) : FrameRel ρ n (argEnv args) { tmps := args' ++ Array.replicate (n - args'.size) undef, defers := [] } := by
 have hsz : args'.size = args.length := by have := hargs.1; simp at this; omega
 refine ⟨by simp; omega, fun t v ht => ?_, fun t v ht => ?_⟩
 ·have : t < args.length := by
   rcases Nat.lt_or_ge t args.length with h | h
   ·exact h
   ·simp only [argEnv] at ht; rw [List.getElem?_eq_none h] at ht; cases ht
  omega
 ·obtain ⟨v', h1, h2⟩ := hargs.get ht
  have hlt : t < args'.size := by
   rcases Nat.lt_or_ge t args'.size with h | h
   ·exact h
   ·rw [List.getElem?_eq_none (by simpa using h)] at h1; cases h1
  simp only
  rw [Array.getD_eq_getD_getElem?, Array.getElem?_append_left hlt]
  have : args'[t]? = some v' := by simpa using h1
  rw [this]
  exact h2

theorem deferO_sound {f : FuncId} {fn : Func} {ops : Array Oper} {i0 : Nat} {t1 t2 d : Tmp} {g : FuncId} {regs : List (Nat × Array Oper)} {catchO : CatchFn} {cd : Code}
  (hf : P.funcs[f]? = some fn) (hb : fn.body = some (.seq (.region i0 ops false) (.seq cd (regsCode regs)))) (hd : d < fn.ntmps)
  (hcd : ∀ (a : Act) (w : World) (Q : Exit → Act → World → Prop), a.tmps.size = fn.ntmps → Q .normal { a.put (some d) (.func (.func g) #[] #[a.tmps.getD t1 undef, a.tmps.getD t2 undef]) with defers := { target := .fn (.func g) #[a.tmps.getD t1 undef, a.tmps.getD t2 undef], args := #[] } :: a.defers } w → cd.wp P Q a w)
  (hin : ∀ (v1 v2 : Value) (w : World), (invoke (.fn (.func g) #[v1, v2]) #[]).run P w = .ok (.enter g #[v1, v2]) w)
  (hkeep : ∀ r ∈ fn.results.toList, ∀ x ∈ regs, keepsT (placeR r) x.2 = true)
  (hidle : ∀ (v1 v2 : Value) (w : World), CallsD P g #[v1, v2] .returning w fun e u' w' => (∃ v, e = .returned v) ∧ u' = .returning ∧ Below w.heap.size w w')
  {C : CallFn} (hcatch : ∀ v1 v2 ch h h4, catchO C v1 v2 ch h = some h4 → ∀ ρ w v1' v2' ch', Rel G B w0 ρ h w → VRel ρ v1 v1' → VRel ρ v2 v2' → ChRel ρ ch ch' →
   CallsD P g #[v1', v2'] (.panicking ch') w fun e u' w' => (∃ v, e = .returned v) ∧ settle u' = .returning ∧ ∃ ρ', Ext ρ h ρ' h4 ∧ Rel G B w0 ρ' h4 w')
  (SC : SoundC P G B w0 C) {args : List Value} {h : Heap} {r : ARes} (hr : deferO P G fn.ntmps fn.results.toList ops t1 t2 d g regs catchO C args h = some r)
  {ρ : Ren} {w : World} {args' : Array Value} (R : Rel G B w0 ρ h w) (hargs : LRel ρ args args'.toList) : Calls P f args' w (EndRel G B w0 ρ h r) := by
 unfold deferO at hr
 split at hr
 case isFalse => cases hr
 rename_i hle
 refine calls_of_wp_defers hf hb ?_
 have F := frame_enter (n := fn.ntmps) hargs hle
 split at hr
 case h_2 => cases hr
 rename_i e1 h1 hops
 refine wp_seq (wp_region (execOps_soundE SC _ R F hops ?_ fun ch h'' e => by cases e))
 intro env2 h2 e2 ρ1 a1 w1 hext1 R1 F1 hd1 _
 cases e2
 split at hr
 case h_2 => cases hr
 rename_i v1 v2 ht1 ht2
 have hv1 := F1.rel t1 v1 ht1
 have hv2 := F1.rel t2 v2 ht2
 refine wp_seq (hcd a1 w1 _ F1.size ?_)
 generalize ha1 : a1.tmps.getD t1 undef = v1' at *
 generalize ha2 : a1.tmps.getD t2 undef = v2' at *
 have F2 : FrameRel ρ1 fn.ntmps (upd e1 d (.func (.func g) #[] #[v1, v2])) { a1.put (some d) (.func (.func g) #[] #[v1', v2']) with defers := { target := .fn (.func g) #[v1', v2'], args := #[] } :: a1.defers } := by
  have := F1.put (dst := some d) (v := .func (.func g) #[] #[v1, v2]) (v' := .func (.func g) #[] #[v1', v2']) (env' := upd e1 d (.func (.func g) #[] #[v1, v2])) (if_pos hd) (VRel.func_iff.2 ⟨LRel.nil _, .cons hv1 (.cons hv2 (LRel.nil _))⟩)
  exact ⟨this.size, this.lt, this.rel⟩
 have hdf : a1.defers = [] := hd1
 split at hr
 case h_3 => cases hr
 ·rename_i e3 h3 hregs
  obtain ⟨vs, hvs, rfl⟩ := Option.map_eq_some_iff.1 hr
  refine execRegs_sound SC _ R1 F2 hregs ?_ fun ch h'' e => by cases e
  intro env3 h3' e3' ρ3 a3 w3 hext3 R3 F3 hd3
  cases e3'
  simp only [hdf] at hd3
  show Leaves P fn a3.tmps _ a3.defers .returning w3
  rw [hd3]
  refine leaves_cons (by simp) (hin v1' v2' w3) ((hidle v1' v2' w3).mono ?_)
  rintro e u' w' ⟨⟨v, rfl⟩, rfl, hbel⟩
  have R4 := R3.grow hbel
  obtain ⟨v', h5, h6⟩ := results_sound (fn := fn) R4 F3.rel hvs
  exact ⟨v', h5, ρ3, hext1.trans hext3, R4, h6⟩
 ·rename_i ch h3 hregs
  split at hr
  case h_2 => cases hr
  rename_i h4 hc
  obtain ⟨vs, hvs, rfl⟩ := Option.map_eq_some_iff.1 hr
  refine execRegs_sound SC _ R1 F2 hregs (fun env' h' e => by cases e) ?_
  intro ch3 h3' e3' ρ3 ch' a3 w3 env3 hext3 R3 hch hd3 F3 hk3
  cases e3'
  simp only [hdf] at hd3
  show Leaves P fn a3.tmps _ a3.defers (.panicking ch') w3
  rw [hd3]
  refine leaves_cons (by simp) (hin v1' v2' w3) ((hcatch v1 v2 ch h3 h4 hc ρ3 w3 v1' v2' ch' R3 (hv1.mono (hext3.le R1)) (hv2.mono (hext3.le R1)) hch).mono ?_)
  rintro e u' w' ⟨⟨v, rfl⟩, hs, ρ4, hext4, R4⟩
  simp only [hs]
  have F4 := F3.mono (hext4.le R3)
  rw [← resultA_congr _ (fun r hr => hk3 _ (hkeep r hr))] at hvs
  obtain ⟨v', h5, h6⟩ := results_sound (fn := fn) R4 F4.rel hvs
  exact ⟨v', h5, ρ4, (hext1.trans hext3).trans hext4, R4, h6⟩

theorem execRegs_le {C C' : CallFn} (hl : CallFn.le C C') : ∀ (l : List (Nat × Array Oper)) {env : Env} {h : Heap} {r : SRes}, execRegs P G C n l env h = some r → execRegs P G C' n l env h = some r
 | [], _, _, _, he => he
 | (id, ops) :: l, env, h, r, he => by
  unfold execRegs at he ⊢
  split at he
  ·rename_i e h' hs
   rw [execOps_le hl _ hs]
   exact execRegs_le hl l he
  ·rename_i hno
   cases hq : execOps P G C n ops (List.range ops.size) env h with
   | none => rw [hq] at he; cases he
   | some q =>
    rw [hq] at he
    rw [execOps_le hl _ hq]
    cases q with
    | ok e h' => exact (hno _ _ hq).elim
    | panic ch h' => exact he

theorem deferO_le {results : List ResultVar} {ops : Array Oper} {t1 t2 d : Tmp} {g : FuncId} {regs : List (Nat × Array Oper)} {catchO : CatchFn} {C C' : CallFn} (hl : CallFn.le C C') (hm : ∀ v1 v2 ch h h4, catchO C v1 v2 ch h = some h4 → catchO C' v1 v2 ch h = some h4) {args : List Value} {h : Heap} {r : ARes}
  (hr : deferO P G n results ops t1 t2 d g regs catchO C args h = some r) : deferO P G n results ops t1 t2 d g regs catchO C' args h = some r := by
 unfold deferO at hr ⊢
 split at hr
 case isFalse => cases hr
 rename_i hle
 rw [if_pos hle]
 split at hr
 case h_2 => cases hr
 rename_i e1 h1 hops
 rw [execOps_le hl _ hops]
 simp only
 split at hr
 case h_2 => cases hr
 rename_i v1 v2 ht1 ht2
 split at hr
 case h_3 => cases hr
 ·rename_i e3 h3 hregs
  rw [execRegs_le hl _ hregs]; exact hr
 ·rename_i ch h3 hregs
  rw [execRegs_le hl _ hregs]
  simp only
  split at hr
  case h_2 => cases hr
  rename_i h4 hc
  rw [hm _ _ _ _ _ hc]; exact hr

end

section
variable (P : Program) (G : Nat) (X : ExtFn) (n : Nat)
def WRegs : List (Nat × Array Oper) → Env → Heap → (Env → Heap → Prop) → (List PanicEntry → Heap → Prop) → Prop
 | [], e, h, N, _ => N e h
 | (_, ops) :: l, e, h, N, F => WR P G X n ops ops.toList e h (fun e' h' => WRegs l e' h' N F) F
end

section
variable {P : Program} {G : Nat} {X : ExtFn} {n : Nat}

theorem WR.out (hX : ExtMono X) {ops : Array Oper} {env : Env} {h : Heap} {N : Env → Heap → Prop} {F : List PanicEntry → Heap → Prop} (hw : WR P G X n ops ops.toList env h N F) :
  ∃ k r, execOps P G (callN P G X k) n ops (List.range ops.size) env h = some r ∧ match r with | .ok e h => N e h | .panic ch h => F ch h := by
 unfold WR at hw
 obtain ⟨k, r, h1, h2⟩ := WOps.out hX _ _ (range_getElem? ops) hw
 exact ⟨k, r, h1, by cases r <;> exact h2⟩

theorem WRegs.out (hX : ExtMono X) : ∀ (l : List (Nat × Array Oper)) {env : Env} {h : Heap} {N : Env → Heap → Prop} {F : List PanicEntry → Heap → Prop}, WRegs P G X n l env h N F →
  ∃ k r, execRegs P G (callN P G X k) n l env h = some r ∧ match r with | .ok e h => N e h | .panic ch h => F ch h
 | [], env, h, N, F, hw => ⟨0, _, rfl, hw⟩
 | (id, ops) :: l, env, h, N, F, hw => by
  obtain ⟨k1, r1, h1, hq1⟩ := WR.out hX hw
  cases r1 with
  | ok e h' =>
   obtain ⟨k2, r2, h2, hq2⟩ := WRegs.out hX l hq1
   refine ⟨max k1 k2, r2, ?_, hq2⟩
   unfold execRegs
   rw [execOps_le (callN_le hX (Nat.le_max_left k1 k2)) _ h1]
   exact execRegs_le (callN_le hX (Nat.le_max_right k1 k2)) l h2
  | panic ch h' =>
   refine ⟨k1, .panic ch h', ?_, hq1⟩
   unfold execRegs
   rw [h1]

theorem WCall.defer (hX : ExtMono X) {f : FuncId} {results : List ResultVar} {ops : Array Oper} {t1 t2 d : Tmp} {g : FuncId} {regs : List (Nat × Array Oper)} {catchO : CatchFn} {args : List Value} {h : Heap} {Q : ARes → Prop}
  (hx : X f = some (deferO P G n results ops t1 t2 d g regs catchO)) (hm : ∀ C C', CallFn.le C C' → ∀ v1 v2 ch h h4, catchO C v1 v2 ch h = some h4 → catchO C' v1 v2 ch h = some h4) (hl : args.length ≤ n)
  (hw : WR P G X n ops ops.toList (argEnv args) h (fun e1 h1 => ∃ v1 v2, e1 t1 = some v1 ∧ e1 t2 = some v2 ∧ WRegs P G X n regs (upd e1 d (.func (.func g) #[] #[v1, v2])) h1 (fun e3 h3 => ∃ vs, resultA P e3 h3 results = some vs ∧ Q (.ret (answer vs) h3))
   (fun ch h3 => ∃ k h4 vs, catchO (callN P G X k) v1 v2 ch h3 = some h4 ∧ resultA P (upd e1 d (.func (.func g) #[] #[v1, v2])) h4 results = some vs ∧ Q (.ret (answer vs) h4))) (fun _ _ => False)) : WCall P G X f args h Q := by
 obtain ⟨k1, r1, h1, hq1⟩ := WR.out hX hw
 cases r1 with
 | panic ch h' => exact hq1.elim
 | ok e1 h1' =>
  obtain ⟨v1, v2, ht1, ht2, hw2⟩ := hq1
  obtain ⟨k2, r2, h2, hq2⟩ := WRegs.out hX _ hw2
  have h1' := execOps_le (callN_le hX (Nat.le_max_left k1 k2)) _ h1
  have h2' := execRegs_le (callN_le hX (Nat.le_max_right k1 k2)) _ h2
  refine WCall.intro ?_
  have key : ∀ r, deferO P G n results ops t1 t2 d g regs catchO (callN P G X (max k1 k2)) args h = some r → callN P G X (max k1 k2 + 1) f args h = some r := by
   intro r hr
   simp only [callN, hx]; exact hr
  cases r2 with
  | ok e3 h3 =>
   obtain ⟨vs, hvs, hq⟩ := hq2
   refine ⟨max k1 k2 + 1, _, key _ ?_, hq⟩
   unfold deferO
   rw [if_pos hl]
   simp only [h1', ht1, ht2, h2', hvs, Option.map_some]
  | panic ch h3 =>
   obtain ⟨k3, h4, vs, hc, hvs, hq⟩ := hq2
   have h1' := execOps_le (callN_le hX (Nat.le_trans (Nat.le_max_left k1 k2) (Nat.le_max_left _ k3))) _ h1
   have h2' := execRegs_le (callN_le hX (Nat.le_trans (Nat.le_max_right k1 k2) (Nat.le_max_left _ k3))) _ h2
   have hc' := hm _ _ (callN_le hX (Nat.le_max_right (max k1 k2) k3)) _ _ _ _ _ hc
   refine ⟨max (max k1 k2) k3 + 1, .ret (answer vs) h4, ?_, hq⟩
   have hr : deferO P G n results ops t1 t2 d g regs catchO (callN P G X (max (max k1 k2) k3)) args h = some (.ret (answer vs) h4) := by
    unfold deferO
    rw [if_pos hl]
    simp only [h1', ht1, ht2, h2', hc', hvs, Option.map_some]
   simp only [callN, hx]; exact hr

theorem WC.regOut {id : Nat} {ops : Array Oper} {dr : Bool} {env : Env} {h : Heap} {N : Env → Heap → Prop} (hw : WC P G X n (.region id ops dr) env h N (fun _ _ _ => False) (fun _ _ => False) (fun _ _ => False)) :
  ∃ k e h', regA P G (callN P G X k) n ops dr env h = some (.ok e h') ∧ N e h' := by
 unfold WC at hw
 obtain ⟨k, x, e, h', he, hq⟩ := hw
 cases k with
 | zero => simp [exec] at he
 | succ k =>
  unfold exec at he
  simp only at he
  split at he
  ·rename_i e2 h2 hr
   cases he
   exact ⟨k + 1, _, _, hr, hq⟩
  ·cases he; exact hq.elim
  ·cases he

end
end Go.Am
end

section
namespace Go.Am
open Go.RowKit (Below)

def argHeap (vs : List Value) : Heap := ⟨1, fun i => if i = 0 then some (.cells true vs) else none⟩

def ASl (h : Heap) (b : Option Addr) (n es : Nat) (vs : List Value) : Prop :=
 (b = none ∧ n = 0 ∧ es = 0 ∧ vs = []) ∨ ∃ i, b = some ⟨i, 0, none⟩ ∧ i < h.next ∧ es = 1 ∧ n = vs.length ∧ h.obj i = some (.cells true vs)

theorem ASl.len {h : Heap} {b : Option Addr} {n es : Nat} {vs : List Value} (ha : ASl h b n es vs) : n = vs.length := by
 rcases ha with ⟨_, rfl, _, rfl⟩ | ⟨i, _, _, _, rfl, _⟩ <;> rfl

theorem slice_at {P : Program} {w : World} {base : Nat} {t e : TypeId} {a : Addr} {len cap : Nat} (ht : P.underlying t = some (.slice e)) (h : Value.okWide P w .any base t (.slice (some a) len cap)) :
  len ≤ cap ∧ a.spot = none ∧ a.block < w.heap.size := by
 unfold Value.okWide at h
 rw [ht] at h
 simp only at h
 unfold Cell.okWide at h
 rw [ht] at h
 simp only at h
 unfold Cell.ok at h
 rw [ht] at h
 simp only at h
 obtain ⟨h1, _, h2⟩ := h
 unfold World.has at h2
 obtain ⟨_, h3, row, cells, h4, _⟩ := h2
 refine ⟨h1, h3, ?_⟩
 rcases Nat.lt_or_ge a.block w.heap.size with h5 | h5
 ·exact h5
 ·unfold World.shape? at h4
  rw [Array.getElem?_eq_none h5] at h4
  simp at h4

theorem Rel.arg {w : World} {vs : List Value} {a : Addr} {len cap : Nat} (hs : a.spot = none) (hb : a.block < w.heap.size) (hlen : vs.length = len) (hle : len ≤ cap)
  (hc : ∀ m v, vs[m]? = some v → w.cell? (a.add m) = some v) (hcl : ∀ v ∈ vs, closedV 1 v = true) :
  ∃ ρ, Rel 0 w.heap.size w ρ (argHeap vs) w ∧ VRel ρ (.slice (some ⟨0, 0, none⟩) len 1) (.slice (some a) len cap) := by
 obtain ⟨b, off, spot⟩ := a
 simp only at hs hb
 subst hs
 refine ⟨fun i => if i = 0 then some (b, off, cap) else none, ⟨Below.refl _ _, Nat.le_refl _, ?_, ?_, ?_, ?_⟩, ?_⟩
 ·intro i b' base n hi
  split at hi
  ·rename_i h0; subst h0
   cases hi
   exact ⟨by simp [argHeap], hb⟩
  ·cases hi
 ·intro g hg; omega
 ·intro i b' base n o hi ho
  split at hi
  ·rename_i h0; subst h0
   cases hi
   simp only [argHeap, if_true] at ho
   cases ho
   refine ⟨by omega, fun m v hm => ⟨v, ?_, VRel.closed 1 (hcl v (List.mem_of_getElem? hm))⟩, fun h => by cases h⟩
   have := hc m v hm
   rcases Nat.eq_zero_or_pos m with rfl | h0
   ·simpa [Addr.add] using this
   ·simpa [Addr.add, Nat.ne_of_gt h0] using this
  ·cases hi
 ·intro i j b' base n b2 base2 n2 oi oj hij hi hj _ _ _
  split at hi
  ·split at hj
   ·omega
   ·cases hj
  ·cases hi
 ·exact VRel.slice (cap := cap) (es := 1) hle (.inr ⟨off, cap, by simp, by simp, by omega⟩)

theorem ASl.arg (vs : List Value) : ASl (argHeap vs) (some ⟨0, 0, none⟩) vs.length 1 vs := .inr ⟨0, rfl, by simp [argHeap], rfl, rfl, by simp [argHeap]⟩
theorem ASl.argNil : ASl (argHeap []) none 0 0 [] := .inl ⟨rfl, rfl, rfl, rfl⟩
theorem Rel.argNil (w : World) : Rel 0 w.heap.size w (fun _ => none) (argHeap []) w where
 below := Below.refl _ _
 base := Nat.le_refl _
 dom := fun _ _ _ _ h => by cases h
 glob := fun _ h => by omega
 live := fun _ _ _ _ _ h => by cases h
 inj := fun _ _ _ _ _ _ _ _ _ _ _ h => by cases h

end Go.Am
end

section
namespace Go.Am
open Go.RowKit Go.ChangeShapes

section
variable {H : Type} {enc : TypeId × Value → H} {P : Program}

theorem trodAll_below (hlo : laidOutB P = true) {W W' : World} (hb : Below W.heap.size W W') {sp : Nat → Bool} : ∀ (ts : List TypeId) (vs : List Value) (ds : List (DataW H)) (p : List MemPlace),
  ts.all (fun t => P.readableRec t && decide (t < P.types.size)) = true → DataW.TrodAll enc P W 0 (fun _ => true) true ts vs ds p → (∀ x ∈ p, x.block < W.heap.size) →
  (∀ x ∈ p, sp x.block = true) → DataW.TrodAll enc P W' 0 sp true ts vs ds p
 | [], vs, ds, p, _, h, _, _ => by
  obtain ⟨rfl, rfl, rfl⟩ := trodAll_nil h
  exact trodAll_mk0
 | t :: ts, vs, ds, p, hr, h, hlt, hsp => by
  obtain ⟨v, vs', d, ds', p1, p2, rfl, rfl, rfl, h1, h2⟩ := trodAll_cons h
  simp only [List.all_cons, Bool.and_eq_true, decide_eq_true_eq] at hr
  refine trodAll_cons_mk (WideElems.Trod_stays hlo hr.1.1 hr.1.2 h1 (fun x hx => hb.same (hlt x (List.mem_append_left _ hx))) (fun x hx => hsp x (List.mem_append_left _ hx))) ?_
  exact trodAll_below hlo hb ts vs' ds' p2 hr.2 h2 (fun x hx => hlt x (List.mem_append_right _ hx)) (fun x hx => hsp x (List.mem_append_right _ hx))

theorem law_post {f : Func} {s : ChangeSpec} {apart fresh handsOn again : Bool} {t : TypeId} {W W' : World} {args : Array Value} {ds gs : List (DataW H)} {before : List MemPlace}
  (hlo : laidOutB P = true) (hvars : s.vars = []) (hres : f.resultTypes = #[t]) (hu : P.underlying t = some .bool)
  (hread : f.params.toList.all (fun t => P.readableRec t && decide (t < P.types.size)) = true)
  (hfn : s.fn H (ds ++ []) = { results := [.lit (.bool true)], args := ds })
  (hW : DataW.Whole enc P f.params.toList s.vars apart W args.toList ds gs before) (hb : Below W.heap.size W W') :
  s.post enc P f apart fresh handsOn again W args (.bool true) W' := by
 have hlt := hW.lt
 have hW0 := hW
 obtain ⟨p, q, hA, hV, rfl, hz, hn⟩ := hW
 rw [hvars] at hV
 obtain ⟨rfl, rfl⟩ := trodVars_none hV
 have hlt' : ∀ x ∈ p, x.block < W.heap.size := fun x hx => hlt x (List.mem_append_left _ hx)
 have hargs : ∀ sp : Nat → Bool, (∀ x ∈ p, sp x.block = true) → DataW.TrodAll enc P W' 0 sp true f.params.toList args.toList ds p := fun sp hsp => trodAll_below hlo hb _ _ _ _ hread hA hlt' hsp
 have hr1 : ∀ (b : Nat) (sp : Nat → Bool) (hd : Bool), DataW.TrodAll enc P W' b sp hd f.resultTypes.toList ((Value.bool true).resultList f.resultTypes.size) [DataW.lit (.bool true)] [] := by
  intro b sp hd
  rw [hres]
  exact trodAll_mk1 (shut_bool hu true)
 refine ⟨ds, [], p ++ [], [], p, [], hW0, ?_, ?_, ?_, hb.frame _, fun _ => ⟨?_, [DataW.lit (.bool true)] ++ ds, [], p ++ [], ⟨p, [], ?_, ?_, rfl, ?_, ?_⟩, ?_⟩⟩
 ·rw [hfn]; exact hr1 _ _ _
 ·rw [hfn]; exact hargs _ fun x hx => by simpa using hlt' x hx
 ·rw [hfn, hvars]; rfl
 ·exact ok_one hres rfl (okWide_bool_mk hu true)
 ·have := trodAll_append (hargs (fun _ => true) fun _ _ => rfl) (hr1 0 (fun _ => true) true)
  simpa using this
 ·rw [hvars]; rfl
 ·intro b off hp
  rw [hb.frozen (p := ⟨b, off, none⟩) (hlt _ hp)]
  exact hz b off hp
 ·exact hn
 ·intro x hx _; exact hx
end
end Go.Am
end

section
namespace Go.Am
def Gr (h h' : Heap) : Prop := h.next ≤ h'.next ∧ ∀ j, j < h.next → h'.obj j = h.obj j
theorem Gr.refl (h : Heap) : Gr h h := ⟨Nat.le_refl _, fun _ _ => rfl⟩
theorem Gr.trans {a b c : Heap} (x : Gr a b) (y : Gr b c) : Gr a c := ⟨Nat.le_trans x.1 y.1, fun j hj => (y.2 j (Nat.lt_of_lt_of_le hj x.1)).trans (x.2 j hj)⟩
theorem Gr.alloc (h : Heap) (o : AObj) : Gr h (h.alloc o) := ⟨by simp, fun j hj => obj_old (by omega) rfl⟩
theorem Gr.put {h h' : Heap} (g : Gr h h') {i : Nat} {o : Option AObj} (hi : h.next ≤ i) : Gr h (h'.put i o) := ⟨g.1, fun j hj => obj_else (by omega) (g.2 j hj)⟩
theorem Gr.at {h h' : Heap} (g : Gr h h') {i : Nat} {o : Option AObj} (hi : i < h.next) (ho : h.obj i = o) : h'.obj i = o := (g.2 i hi).trans ho
def Fr1 (p : Nat) (h h' : Heap) : Prop := h.next ≤ h'.next ∧ ∀ j, j < h.next → j ≠ p → h'.obj j = h.obj j
theorem Fr1.refl (p : Nat) (h : Heap) : Fr1 p h h := ⟨Nat.le_refl _, fun _ _ _ => rfl⟩
theorem Fr1.trans {p : Nat} {a b c : Heap} (x : Fr1 p a b) (y : Fr1 p b c) : Fr1 p a c := ⟨Nat.le_trans x.1 y.1, fun j hj hp => (y.2 j (Nat.lt_of_lt_of_le hj x.1) hp).trans (x.2 j hj hp)⟩
theorem Fr1.of {p : Nat} {a b : Heap} (x : Gr a b) : Fr1 p a b := ⟨x.1, fun j hj _ => x.2 j hj⟩
theorem Fr1.alloc {p : Nat} {h h' : Heap} (f : Fr1 p h h') (o : AObj) : Fr1 p h (h'.alloc o) := f.trans (.of (Gr.alloc _ _))
theorem Fr1.put {p : Nat} {h h' : Heap} (f : Fr1 p h h') {i : Nat} {o : Option AObj} (hi : h.next ≤ i) : Fr1 p h (h'.put i o) := ⟨f.1, fun j hj hp => obj_else (by omega) (f.2 j hj hp)⟩
theorem Fr1.self {p : Nat} {h h' : Heap} (f : Fr1 p h h') {o : Option AObj} : Fr1 p h (h'.put p o) := ⟨f.1, fun _ hj hp => obj_else hp (f.2 _ hj hp)⟩
theorem Fr1.gr {p : Nat} {h h' h2 : Heap} (f : Fr1 p h h') (g : Gr h' h2) : Fr1 p h h2 := f.trans (.of g)
theorem Fr1.at {p : Nat} {a b : Heap} (f : Fr1 p a b) {j : Nat} {o : Option AObj} (hj : j < a.next) (hp : j ≠ p) (ho : a.obj j = o) : b.obj j = o := (f.2 j hj hp).trans ho
theorem ClearS.keep {i : Nat} {S : Heap → Prop} {r : List Pe} {h : Heap} (hr : ClearS r h) : ClearS ((i, S, false) :: r) h := hr
theorem ClearS.ask {i : Nat} {S : Heap → Prop} {r : List Pe} {h : Heap} (hs : S h) (hr : ClearS r h) : ClearS ((i, S, true) :: r) h := ⟨hs, hr⟩


















theorem Wwev {p : Prop} (h : p := by first | rfl | assumption) : p := h
theorem Wwne {p : Prop} (h : p := by first | omega | (simp only [Heap.alloc_next, Heap.put_next]; omega)) : p := h
theorem Wwobj {p : Prop} (h : p := by repeat (first | assumption | (with_reducible rfl) | exact obj_new | exact obj_put | (refine obj_old (by (first | omega | (simp only [Heap.alloc_next, Heap.put_next]; omega))) ?_) | (refine obj_else (by (first | omega | (simp only [Heap.alloc_next, Heap.put_next]; omega))) ?_) | (apply Gr.at; (· assumption); (· (first | omega | (simp only [Heap.alloc_next, Heap.put_next]; omega)))) | (apply Fr1.at; (· assumption); (· (first | omega | (simp only [Heap.alloc_next, Heap.put_next]; omega))); (· (first | omega | (simp only [Heap.alloc_next, Heap.put_next]; omega)))))) : p := h
theorem Wwlist {p : Prop} (h : p := by first | (simp only [List.drop_succ_cons, List.drop_zero, List.take_succ_cons, List.take_zero, setMany, List.set_cons_zero, List.set_cons_succ, Array.toList]; done) | (simp only [List.drop_succ_cons, List.drop_zero, List.take_succ_cons, List.take_zero, setMany, List.set_cons_zero, List.set_cons_succ]; rfl) | rfl) : p := h
theorem Wwlen {p : Prop} (h : p := by first | (exact Nat.le_of_ble_eq_true rfl) | (simp; done) | omega) : p := h
theorem Wwclear {p : Prop} (h : p := by repeat (first | exact trivial | (apply ClearS.keep) | (apply ClearS.ask; (· first | exact trivial | (repeat (first | assumption | (with_reducible rfl) | exact obj_new | exact obj_put | (refine obj_old (by (first | omega | (simp only [Heap.alloc_next, Heap.put_next]; omega))) ?_) | (refine obj_else (by (first | omega | (simp only [Heap.alloc_next, Heap.put_next]; omega))) ?_) | (apply Gr.at; (· assumption); (· (first | omega | (simp only [Heap.alloc_next, Heap.put_next]; omega)))) | (apply Fr1.at; (· assumption); (· (first | omega | (simp only [Heap.alloc_next, Heap.put_next]; omega))); (· (first | omega | (simp only [Heap.alloc_next, Heap.put_next]; omega)))))))))) : p := h
theorem Wwsz {p : Prop} (h : p := by ((try simp only [ByteArray.size_append]); omega)) : p := h
theorem Wwbd {p : Prop} (h : p := by omega) : p := h
theorem Wwconv {p : Prop} (h : p := by first | (rw [IntKind.wrap_i64]; omega) | (rw [IntKind.wrap_u8]; omega) | (rw [IntKind.wrap_u64]; omega)) : p := h
theorem Wwgr {p : Prop} (h : p := by repeat (first | assumption | exact Gr.refl _ | (refine Gr.put ?_ (by first | omega | (simp only [Heap.alloc_next, Heap.put_next]; omega))) | (refine Gr.trans ?_ (Gr.alloc _ _)))) : p := h
theorem Wwfr {p : Prop} (h : p := by repeat (first | assumption | exact Fr1.refl _ _ | (refine Fr1.put ?_ (by first | omega | (simp only [Heap.alloc_next, Heap.put_next]; omega))) | (refine Fr1.alloc ?_ _) | (refine Fr1.self ?_) | (refine Fr1.trans ?_ (by assumption)) | (refine Fr1.gr ?_ (by assumption)))) : p := h
theorem Wwps {p : Prop} (h : p := by repeat (first | assumption | (refine PSt.put ?_ (by (first | omega | (simp only [Heap.alloc_next, Heap.put_next]; omega)))) | (refine PSt.alloc ?_ _) | (refine PSt.gr ?_ (by assumption)))) : p := h
theorem Wwag {p : Prop} (h : p := by repeat (first | rfl | (refine obj_else (by (first | omega | (simp only [Heap.alloc_next, Heap.put_next]; omega))) ?_) | (refine obj_old (by (first | omega | (simp only [Heap.alloc_next, Heap.put_next]; omega))) ?_) | (apply Fr1.at; (· assumption); (· (first | omega | (simp only [Heap.alloc_next, Heap.put_next]; omega))); (· (first | omega | (simp only [Heap.alloc_next, Heap.put_next]; omega)))) | (apply Gr.at; (· assumption); (· (first | omega | (simp only [Heap.alloc_next, Heap.put_next]; omega)))))) : p := h
theorem Wwres {p : Prop} (h : p := by repeat (first | exact resultA_nil | (apply resultA_tmp; (· (first | rfl | assumption))) | (apply resultA_cellG; (· (first | rfl | assumption)); (· rfl); (· exact sz_at rfl); (· (repeat (first | assumption | (with_reducible rfl) | exact obj_new | exact obj_put | (refine obj_old (by (first | omega | (simp only [Heap.alloc_next, Heap.put_next]; omega))) ?_) | (refine obj_else (by (first | omega | (simp only [Heap.alloc_next, Heap.put_next]; omega))) ?_) | (apply Gr.at; (· assumption); (· (first | omega | (simp only [Heap.alloc_next, Heap.put_next]; omega)))) | (apply Fr1.at; (· assumption); (· (first | omega | (simp only [Heap.alloc_next, Heap.put_next]; omega))); (· (first | omega | (simp only [Heap.alloc_next, Heap.put_next]; omega))))))); (· (first | (exact Nat.le_of_ble_eq_true rfl) | (simp; done) | omega)); (· rfl)) | (apply resultA_cellS; (· (first | rfl | assumption)); (· rfl); (· (repeat (first | assumption | (with_reducible rfl) | exact obj_new | exact obj_put | (refine obj_old (by (first | omega | (simp only [Heap.alloc_next, Heap.put_next]; omega))) ?_) | (refine obj_else (by (first | omega | (simp only [Heap.alloc_next, Heap.put_next]; omega))) ?_) | (apply Gr.at; (· assumption); (· (first | omega | (simp only [Heap.alloc_next, Heap.put_next]; omega)))) | (apply Fr1.at; (· assumption); (· (first | omega | (simp only [Heap.alloc_next, Heap.put_next]; omega))); (· (first | omega | (simp only [Heap.alloc_next, Heap.put_next]; omega))))))); (· rfl)))) : p := h
section
variable {P : Program} {G : Nat} {X : ExtFn} {n : Nat} {N : Env → Heap → Prop} {E : Nat → Env → Heap → Prop} {R : Env → Heap → Prop} {F : List PanicEntry → Heap → Prop} {env : Env} {h : Heap} {ops o2 : Array Oper} {c : Operand} {a b : Code} {id i bef : Nat} {o : Oper} {l : List Oper} {m : List PItem} {pend : List Pe}
theorem QK (hw : WS P G X n false ops o env h (fun e h _ => WR P G X n ops l e h N F) F) : WR P G X n ops (o :: l) env h N F := WR.cons hw
theorem QL (hq : N env h) : WR P G X n ops [] env h N F := WR.nil hq
theorem QM (hq : R env h) : WR P G X n ops [] env h (fun e h => WC P G X n .ret e h N E R F) F := WR.nil (WC.ret hq)
theorem QN (hX : ExtMono X) (hw : WR P G X n ops ops.toList env h (fun e h => WC P G X n b e h N E R F) F) : WC P G X n (.seq (.region id ops false) b) env h N E R F := WC.seq hX (WC.region hX hw)
theorem QO (hX : ExtMono X) (hw : WR P G X n o2 o2.toList env h (fun e h => WC P G X n b e h N E R F) F) : WR P G X n ops [] env h (fun e h => WC P G X n (.seq (.region id o2 false) b) e h N E R F) F := WR.nil (WC.seq hX (WC.region hX hw))
theorem QP (hX : ExtMono X) (hw : WC P G X n b env h N E R F) (hc : evalA G env c = some (.bool false) := by first | rfl | assumption) : WR P G X n ops [] env h (fun e h => WC P G X n (.cond c a b) e h N E R F) F := WR.nil (WC.condF hX hc hw)
theorem QQ (hX : ExtMono X) (hw : WC P G X n a env h N E R F) (hc : evalA G env c = some (.bool true) := by first | rfl | assumption) : WR P G X n ops [] env h (fun e h => WC P G X n (.cond c a b) e h N E R F) F := WR.nil (WC.condT hX hc hw)
theorem QR (hX : ExtMono X) (hw : WC P G X n a env h N E R F) (hc : evalA G env c = some (.bool true) := by first | rfl | assumption) : WC P G X n (.cond c a b) env h N E R F := WC.condT hX hc hw
theorem QS (hX : ExtMono X) (hw : WC P G X n b env h N E R F) (hc : evalA G env c = some (.bool false) := by first | rfl | assumption) : WC P G X n (.cond c a b) env h N E R F := WC.condF hX hc hw
theorem QU (hX : ExtMono X) (hw : WC P G X n a env h (fun e h => WC P G X n b e h N E R F) E R F) : WC P G X n (.seq a b) env h N E R F := WC.seq hX hw
theorem QV (hX : ExtMono X) (hw : WR P G X n ops ops.toList env h N F) : WC P G X n (.region id ops false) env h N E R F := WC.region hX hw
theorem UA (hq : N env h) : WC P G X n .skip env h N E R F := WC.skip hq
theorem QW (ho : ops[i]? = some o := by rfl) (k : WS P G X n true ops o env h (fun e h _ => WD P G X n ops m pend e h N F) F) : WD P G X n ops (⟨i, .pure, bef⟩ :: m) pend env h N F := WD.pure ho k
theorem QX (ho : ops[i]? = some o := by rfl) (k : WS P G X n true ops o env h (fun e h S => WD P G X n ops m (pend ++ [(i, S, false)]) e h N F) F) : WD P G X n ops (⟨i, .read, bef⟩ :: m) pend env h N F := WD.read ho k
end
section
variable {P : Program} {G : Nat} {X : ExtFn} {n : Nat} {F : List PanicEntry → Heap → Prop} {env : Env} {h : Heap} {lt : Bool} {ops : Array Oper} {d : Nat} {t : TypeId} {p : String} {a : Array Edge} {g : Option (Nat × Bool)} {K : Env → Heap → (Heap → Prop) → Prop}
theorem Qa {x : Operand} {v : Value} (hk : K (upd env d v) h fun _ => True) (hg : gOk ops env g = some true := by rfl) (hn : Nat.blt d n = true := by rfl) (hx : evalA G env x = some v := by first | rfl | assumption) : WS P G X n lt ops ⟨some d, .move x, t, p, a, g⟩ env h K F := WS.move (hg := hg) (hn := hn) (hx := hx) (hk := hk)
theorem Qb {x : Operand} {v : Value} (hk : K (upd env d v) h fun _ => True) (hg : gOk ops env g = some true := by rfl) (hn : Nat.blt d n = true := by rfl) (hx : evalA G env x = some v := by first | rfl | assumption) : WS P G X n lt ops ⟨some d, .assign x, t, p, a, g⟩ env h K F := WS.assign (hg := hg) (hn := hn) (hx := hx) (hk := hk)
theorem Qc {c x y : Operand} {v : Value} (hk : K (upd env d v) h fun _ => True) (hg : gOk ops env g = some true := by rfl) (hn : Nat.blt d n = true := by rfl) (hc : evalA G env c = some (.bool true) := by first | rfl | assumption) (hx : evalA G env x = some v := by first | rfl | assumption) : WS P G X n lt ops ⟨some d, .pick c x y, t, p, a, g⟩ env h K F := WS.pickT (hg := hg) (hn := hn) (hc := hc) (hx := hx) (hk := hk)
theorem Qd {c x y : Operand} {v : Value} (hk : K (upd env d v) h fun _ => True) (hg : gOk ops env g = some true := by rfl) (hn : Nat.blt d n = true := by rfl) (hc : evalA G env c = some (.bool false) := by first | rfl | assumption) (hy : evalA G env y = some v := by first | rfl | assumption) : WS P G X n lt ops ⟨some d, .pick c x y, t, p, a, g⟩ env h K F := WS.pickF (hg := hg) (hn := hn) (hc := hc) (hy := hy) (hk := hk)
theorem Qe {ty : TypeId} {x : Operand} {b : Bool} (hk : K (upd env d (.bool !b)) h fun _ => True) (hg : gOk ops env g = some true := by rfl) (hn : Nat.blt d n = true := by rfl) (hx : evalA G env x = some (.bool b) := by first | rfl | assumption) : WS P G X n lt ops ⟨some d, .unOp .not ty x, t, p, a, g⟩ env h K F := WS.not (hg := hg) (hn := hn) (hx := hx) (hk := hk)
theorem Qf {ty : TypeId} {x y : Operand} {c} {i j : Int} (hk : K (upd env d (.int .i64 (i + j))) h fun _ => True) (hg : gOk ops env g = some true := by rfl) (hn : Nat.blt d n = true := by rfl) (hx : evalA G env x = some (.int .i64 i) := by first | rfl | assumption) (hy : evalA G env y = some (.int .i64 j) := by first | rfl | assumption) (hr : -9223372036854775808 ≤ i + j ∧ i + j ≤ 9223372036854775807 := by omega) : WS P G X n lt ops ⟨some d, .binOp .add ty x y c, t, p, a, g⟩ env h K F := WS.addI (hg := hg) (hn := hn) (hx := hx) (hy := hy) (hr := hr) (hk := hk)
theorem Qg {ty : TypeId} {x y : Operand} {c} {i j : Int} (hk : K (upd env d (.int .i64 (i - j))) h fun _ => True) (hg : gOk ops env g = some true := by rfl) (hn : Nat.blt d n = true := by rfl) (hx : evalA G env x = some (.int .i64 i) := by first | rfl | assumption) (hy : evalA G env y = some (.int .i64 j) := by first | rfl | assumption) (hr : -9223372036854775808 ≤ i - j ∧ i - j ≤ 9223372036854775807 := by omega) : WS P G X n lt ops ⟨some d, .binOp .sub ty x y c, t, p, a, g⟩ env h K F := WS.subI (hg := hg) (hn := hn) (hx := hx) (hy := hy) (hr := hr) (hk := hk)
theorem Qh {ty : TypeId} {x y : Operand} {c} {i j : ByteArray} (hk : K (upd env d (.string (i ++ j))) h fun _ => True) (hg : gOk ops env g = some true := by rfl) (hn : Nat.blt d n = true := by rfl) (hx : evalA G env x = some (.string i) := by first | rfl | assumption) (hy : evalA G env y = some (.string j) := by first | rfl | assumption) (hs : i.size + j.size ≤ 140737488355328 := by first | omega | ((try simp only [ByteArray.size_append, lit_size, List.size_toArray, List.length_cons, List.length_nil]); omega)) : WS P G X n lt ops ⟨some d, .binOp .add ty x y c, t, p, a, g⟩ env h K F := WS.addS (hg := hg) (hn := hn) (hx := hx) (hy := hy) (hs := hs) (hk := hk)
theorem Qi {x : Operand} {q : Addr} (hk : K (upd env d (.pointer (some q))) h fun _ => True) (hg : gOk ops env g = some true := by rfl) (hn : Nat.blt d n = true := by rfl) (hx : evalA G env x = some (.pointer (some q)) := by first | rfl | assumption) : WS P G X n lt ops ⟨some d, .nilCheck x, t, p, a, g⟩ env h K F := WS.nilCheck (hg := hg) (hn := hn) (hx := hx) (hk := hk)
theorem Qj {ty : TypeId} {x : Operand} {f : Nat} {i off o : Nat} (hk : K (upd env d (.pointer (some ⟨i, off + o, none⟩))) h fun _ => True) (hg : gOk ops env g = some true := by rfl) (hn : Nat.blt d n = true := by rfl) (hx : evalA G env x = some (.pointer (some ⟨i, off, none⟩)) := by first | rfl | assumption) (hv : (fieldOffs P ty)[f]? = some (some o) := by exact offs_at rfl rfl) : WS P G X n lt ops ⟨some d, .fieldAddr ty x f, t, p, a, g⟩ env h K F := WS.fieldAddr (hg := hg) (hn := hn) (hx := hx) (hv := hv) (hk := hk)
theorem Qk {ty : TypeId} {x : Operand} {f : Nat} {u v0 v : Value} (hk : K (upd env d v) h fun _ => True) (hg : gOk ops env g = some true := by rfl) (hn : Nat.blt d n = true := by rfl) (hx : evalA G env x = some u := by first | rfl | assumption) (hv0 : fieldA P ty u f = some v0 := by rfl) (hf : normV v0 = some v := by rfl) : WS P G X n lt ops ⟨some d, .field ty x f, t, p, a, g⟩ env h K F := WS.field (hg := hg) (hn := hn) (hx := hx) (hv0 := hv0) (hf := hf) (hk := hk)
theorem Ql {ty : TypeId} {x y : Operand} {e : TypeId} {i off len es : Nat} {k : Int} {q} (hk : K (upd env d (.pointer (some ⟨i, off + k.toNat * es, none⟩))) h fun _ => True) (hg : gOk ops env g = some true := by rfl) (hn : Nat.blt d n = true := by rfl) (hx : evalA G env x = some (.slice (some ⟨i, off, none⟩) len es) := by first | rfl | assumption) (hy : evalA G env y = some (.int q k) := by first | rfl | assumption) (hu : P.underlying ty = some (.slice e) := by rfl) (hs : sizeT P e = some es := by exact sz_at rfl) (hb : 0 ≤ k ∧ k < len := by omega) : WS P G X n lt ops ⟨some d, .indexAddr ty x y, t, p, a, g⟩ env h K F := WS.indexAddr (hg := hg) (hn := hn) (hx := hx) (hy := hy) (hu := hu) (hs := hs) (hb := hb) (hk := hk)
theorem Qm {ty : TypeId} {x y : Operand} {s : ByteArray} {k : Int} {q} (hk : K (upd env d (.int .u8 (byteN s k))) h fun _ => True) (hg : gOk ops env g = some true := by rfl) (hn : Nat.blt d n = true := by rfl) (hx : evalA G env x = some (.string s) := by first | rfl | assumption) (hy : evalA G env y = some (.int q k) := by first | rfl | assumption) (hu : P.underlying ty = some .string := by rfl) (hb : 0 ≤ k ∧ k < s.size := by omega) : WS P G X n lt ops ⟨some d, .index ty x y, t, p, a, g⟩ env h K F := WS.indexS (hg := hg) (hn := hn) (hx := hx) (hy := hy) (hu := hu) (hb := hb) (hk := hk)
theorem Qn {ty : TypeId} {parts} {ps} {v0 v : Value} (hk : K (upd env d v) h fun _ => True) (hg : gOk ops env g = some true := by rfl) (hn : Nat.blt d n = true := by rfl) (hp : evalParts G env parts.toList = some ps := by rfl) (hv0 : buildA P ty ps = some v0 := by rfl) (hf : normV v0 = some v := by rfl) : WS P G X n lt ops ⟨some d, .build ty parts, t, p, a, g⟩ env h K F := WS.build (hg := hg) (hn := hn) (hp := hp) (hv0 := hv0) (hf := hf) (hk := hk)
theorem Qo {ty : TypeId} {x : Operand} {v : Value} {u} (hk : K (upd env d (.iface ty v)) h fun _ => True) (hg : gOk ops env g = some true := by rfl) (hn : Nat.blt d n = true := by rfl) (hx : evalA G env x = some v := by first | rfl | assumption) (hu : P.underlying ty = some u := by rfl) (hi : ∀ m, u ≠ .interface m := by (intro m hm; cases hm)) : WS P G X n lt ops ⟨some d, .makeInterface ty x, t, p, a, g⟩ env h K F := WS.iface (hg := hg) (hn := hn) (hx := hx) (hu := hu) (hi := hi) (hk := hk)
theorem Qp {fn : Fn} {first cap : Array Operand} {f c} (hk : K (upd env d (.func fn f.toArray c.toArray)) h fun _ => True) (hg : gOk ops env g = some true := by rfl) (hn : Nat.blt d n = true := by rfl) (hf : evalAll G env first.toList = some f := by first | rfl | exact evalAll_cons (by first | rfl | assumption) rfl | exact evalAll_cons (by first | rfl | assumption) (evalAll_cons (by first | rfl | assumption) rfl) | exact evalAll_cons (by first | rfl | assumption) (evalAll_cons (by first | rfl | assumption) (evalAll_cons (by first | rfl | assumption) rfl))) (hc : evalAll G env cap.toList = some c := by first | rfl | exact evalAll_cons (by first | rfl | assumption) rfl | exact evalAll_cons (by first | rfl | assumption) (evalAll_cons (by first | rfl | assumption) rfl) | exact evalAll_cons (by first | rfl | assumption) (evalAll_cons (by first | rfl | assumption) (evalAll_cons (by first | rfl | assumption) rfl))) : WS P G X n lt ops ⟨some d, .makeFunc fn first cap, t, p, a, g⟩ env h K F := WS.makeFunc (hg := hg) (hn := hn) (hf := hf) (hc := hc) (hk := hk)
theorem Qq {x : Operand} {i : Nat} {vs : Array Value} {v0 v : Value} (hk : K (upd env d v) h fun _ => True) (hg : gOk ops env g = some true := by rfl) (hn : Nat.blt d n = true := by rfl) (hx : evalA G env x = some (.tuple vs) := by first | rfl | assumption) (hv : vs[i]? = some v0 := by rfl) (hf : normV v0 = some v := by rfl) : WS P G X n lt ops ⟨some d, .extract x i, t, p, a, g⟩ env h K F := WS.extractN (hg := hg) (hn := hn) (hx := hx) (hv := hv) (hf := hf) (hk := hk)
theorem Qr {ty : TypeId} {x : Operand} {s : ByteArray} (hk : K (upd env d (.int .i64 s.size)) h fun _ => True) (hg : gOk ops env g = some true := by rfl) (hn : Nat.blt d n = true := by rfl) (hx : evalA G env x = some (.string s) := by first | rfl | assumption) (hu : P.underlying ty = some .string := by rfl) : WS P G X n lt ops ⟨some d, .call ⟨.builtin .len, #[x], #[ty]⟩, t, p, a, g⟩ env h K F := WS.lenS (hg := hg) (hn := hn) (hx := hx) (hu := hu) (hk := hk)
theorem Qs {ty e : TypeId} {x : Operand} {b} {m es : Nat} (hk : K (upd env d (.int .i64 m)) h fun _ => True) (hg : gOk ops env g = some true := by rfl) (hn : Nat.blt d n = true := by rfl) (hx : evalA G env x = some (.slice b m es) := by first | rfl | assumption) (hu : P.underlying ty = some (.slice e) := by rfl) : WS P G X n lt ops ⟨some d, .call ⟨.builtin .len, #[x], #[ty]⟩, t, p, a, g⟩ env h K F := WS.lenL (hg := hg) (hn := hn) (hx := hx) (hu := hu) (hk := hk)
theorem Qt {ty : TypeId} {x : Operand} {i off : Nat} {v : Value} {ro : Bool} {cs : List Value} (hk : K (upd env d v) h fun H => H.obj i = some (.cells ro cs)) (hg : gOk ops env g = some true := by rfl) (hn : Nat.blt d n = true := by rfl) (hx : evalA G env x = some (.pointer (some ⟨i, off, none⟩)) := by first | rfl | assumption) (ht : aggT P ty = some false := by rfl) (ho : h.obj i = some (.cells ro cs) := by repeat (first | assumption | (with_reducible rfl) | exact obj_new | exact obj_put | (refine obj_old (by first | omega | (simp only [Heap.alloc_next, Heap.put_next]; omega)) ?_) | (refine obj_else (by first | omega | (simp only [Heap.alloc_next, Heap.put_next]; omega)) ?_) | (apply Gr.at; (· assumption); (· first | omega | (simp only [Heap.alloc_next, Heap.put_next]; omega))) | (apply Fr1.at; (· assumption); (· first | omega | (simp only [Heap.alloc_next, Heap.put_next]; omega)); (· first | omega | (simp only [Heap.alloc_next, Heap.put_next]; omega))))) (hc : cs[off]? = some v := by rfl) : WS P G X n lt ops ⟨some d, .load ty x, t, p, a, g⟩ env h K F := WS.loadS (hg := hg) (hn := hn) (hx := hx) (ht := ht) (ho := ho) (hc := hc) (hk := hk)
theorem Qu {ty : TypeId} {x : Operand} {i off m : Nat} {ro : Bool} {cs vs : List Value} (hk : K (upd env d (.agg vs.toArray)) h fun H => H.obj i = some (.cells ro cs)) (hg : gOk ops env g = some true := by rfl) (hn : Nat.blt d n = true := by rfl) (hx : evalA G env x = some (.pointer (some ⟨i, off, none⟩)) := by first | rfl | assumption) (ht : aggT P ty = some true := by rfl) (hs : sizeT P ty = some m := by exact sz_at rfl) (ho : h.obj i = some (.cells ro cs) := by repeat (first | assumption | (with_reducible rfl) | exact obj_new | exact obj_put | (refine obj_old (by first | omega | (simp only [Heap.alloc_next, Heap.put_next]; omega)) ?_) | (refine obj_else (by first | omega | (simp only [Heap.alloc_next, Heap.put_next]; omega)) ?_) | (apply Gr.at; (· assumption); (· first | omega | (simp only [Heap.alloc_next, Heap.put_next]; omega))) | (apply Fr1.at; (· assumption); (· first | omega | (simp only [Heap.alloc_next, Heap.put_next]; omega)); (· first | omega | (simp only [Heap.alloc_next, Heap.put_next]; omega))))) (hc : off + m ≤ cs.length := by first | (exact Nat.le_of_ble_eq_true rfl) | (simp; done) | omega) (hv' : forceL ((cs.drop off).take m) = some vs := by rfl) : WS P G X n lt ops ⟨some d, .load ty x, t, p, a, g⟩ env h K F := WS.loadG (hg := hg) (hn := hn) (hx := hx) (ht := ht) (hs := hs) (ho := ho) (hc := hc) (hv' := hv') (hk := hk)
theorem Qv {ty : TypeId} {x y : Operand} {i off : Nat} {v : Value} {cs cs' : List Value} (hk : K env (h.put i (some (.cells false cs'))) fun _ => True) (hg : gOk ops env g = some true := by rfl) (hx : evalA G env x = some (.pointer (some ⟨i, off, none⟩)) := by first | rfl | assumption) (hy : evalA G env y = some v := by first | rfl | assumption) (hz : sizeT P ty = some v.cells.size := by rfl) (ho : h.obj i = some (.cells false cs) := by repeat (first | assumption | (with_reducible rfl) | exact obj_new | exact obj_put | (refine obj_old (by first | omega | (simp only [Heap.alloc_next, Heap.put_next]; omega)) ?_) | (refine obj_else (by first | omega | (simp only [Heap.alloc_next, Heap.put_next]; omega)) ?_) | (apply Gr.at; (· assumption); (· first | omega | (simp only [Heap.alloc_next, Heap.put_next]; omega))) | (apply Fr1.at; (· assumption); (· first | omega | (simp only [Heap.alloc_next, Heap.put_next]; omega)); (· first | omega | (simp only [Heap.alloc_next, Heap.put_next]; omega))))) (hf : off + v.cells.size ≤ cs.length := by first | (exact Nat.le_of_ble_eq_true rfl) | (simp; done) | omega) (h1 : v.cells.toList.all (·.oneCell') = true := by rfl) (hs' : forceL (setMany cs off v.cells.toList) = some cs' := by rfl) : WS P G X n false ops ⟨none, .store ty x y, t, p, a, g⟩ env h K F := WS.store (hg := hg) (hx := hx) (hy := hy) (hz := hz) (ho := ho) (hf := hf) (h1 := h1) (hs' := hs') (hk := hk)
theorem Qw {e : TypeId} {z : Value} {cs : List Value} (hk : K (upd env d (.pointer (some ⟨h.next, 0, none⟩))) (h.alloc (.cells false cs)) fun _ => False) (hg : gOk ops env g = some true := by rfl) (hn : Nat.blt d n = true := by rfl) (hz : zeroT P e = some z := by rfl) (hcs' : forceL z.cells.toList = some cs := by rfl) : WS P G X n lt ops ⟨some d, .alloc e, t, p, a, g⟩ env h K F := WS.alloc (hg := hg) (hn := hn) (hz := hz) (hcs' := hcs') (hk := hk)
theorem Qx {e : TypeId} {x : Operand} {v : Value} {cs : List Value} (hk : K (upd env d (.pointer (some ⟨h.next, 0, none⟩))) (h.alloc (.cells false cs)) fun _ => False) (hg : gOk ops env g = some true := by rfl) (hn : Nat.blt d n = true := by rfl) (hx : evalA G env x = some v := by first | rfl | assumption) (hcs' : forceL v.cells.toList = some cs := by rfl) : WS P G X n lt ops ⟨some d, .box e x, t, p, a, g⟩ env h K F := WS.box (hg := hg) (hn := hn) (hx := hx) (hcs' := hcs') (hk := hk)
theorem Qy {ty e : TypeId} {parts} {ps} {len m : Nat} {z : Value} {cs0 cs : List Value} (hk : K (upd env d (.slice (some ⟨h.next, 0, none⟩) len m)) (h.alloc (.cells false cs)) fun _ => False) (hg : gOk ops env g = some true := by rfl) (hn : Nat.blt d n = true := by rfl) (hp : evalParts G env parts.toList = some ps := by rfl) (hu : P.underlying ty = some (.slice e) := by rfl) (hm : sizeT P e = some m := by exact sz_at rfl) (hz : zeroT P e = some z := by rfl) (hok : (z.cells.size = m && 0 < m && len * m ≤ 16777216) = true := by rfl) (hcs0 : fillA (fun i => some (i * m, m)) (zerosA z len) ps = some cs0 := by rfl) (hcs' : forceL cs0 = some cs := by rfl) : WS P G X n lt ops ⟨some d, .buildSlice ty len parts, t, p, a, g⟩ env h K F := WS.buildSlice (hg := hg) (hn := hn) (hp := hp) (hu := hu) (hm := hm) (hz := hz) (hok := hok) (hcs0 := hcs0) (hcs' := hcs') (hk := hk)
theorem Qz {ty e : TypeId} {parts} {ps : List (Nat × Value)} {vs : List (Array Value)} {len m : Nat} {z : Value} {cs : List Value} (hk : K (upd env d (.slice (some ⟨h.next, 0, none⟩) len m)) (h.alloc (.cells false cs)) fun _ => False) (hg : gOk ops env g = some true := by rfl) (hn : Nat.blt d n = true := by rfl) (hp : evalParts G env parts.toList = some ps := by rfl) (hu : P.underlying ty = some (.slice e) := by rfl) (hm : sizeT P e = some m := by exact sz_at rfl) (hz : zeroT P e = some z := by rfl) (hok : (z.cells.size = m && 0 < m && len * m ≤ 16777216) = true := by rfl) (hv : partsAggs 0 ps = some vs := by rfl) (hl : vs.length = len := by rfl) (hs : vs.all (fun a => a.size == m) = true := by rfl) (hcs' : forceL (vs.map (·.toList)).flatten = some cs := by rfl) : WS P G X n lt ops ⟨some d, .buildSlice ty len parts, t, p, a, g⟩ env h K F := WS.buildAggs (hg := hg) (hn := hn) (hp := hp) (hu := hu) (hm := hm) (hz := hz) (hok := hok) (hv := hv) (hl := hl) (hs := hs) (hcs' := hcs') (hk := hk)
theorem QA {lt : Bool} {ops : Array Oper} {op : Op} {d t p a g} {K : Env → Heap → (Heap → Prop) → Prop} (hk : K (upd env d undef) h fun _ => True) (hg : gOk ops env (some g) = some false := by rfl) (hn : Nat.blt d n = true := by rfl) : WS P G X n lt ops ⟨some d, op, t, p, a, some g⟩ env h K F := WS.uw (hg := hg) (hn := hn) (hk := hk)
theorem QB {ty : TypeId} {x y : Operand} {c} {i j : ByteArray} (h1 : i = j → K (upd env d (.bool true)) h fun _ => True) (h2 : ¬(i = j) → K (upd env d (.bool false)) h fun _ => True) (hg : gOk ops env g = some true := by rfl) (hn : Nat.blt d n = true := by rfl) (hx : evalA G env x = some (.string i) := by first | rfl | assumption) (hy : evalA G env y = some (.string j) := by first | rfl | assumption) : WS P G X n lt ops ⟨some d, .binOp .eql ty x y c, t, p, a, g⟩ env h K F := WS.eqS (hg := hg) (hn := hn) (hx := hx) (hy := hy) (h1 := h1) (h2 := h2)
theorem QC {ty : TypeId} {x y : Operand} {c} {i j : ByteArray} (h1 : i ≠ j → K (upd env d (.bool true)) h fun _ => True) (h2 : ¬(i ≠ j) → K (upd env d (.bool false)) h fun _ => True) (hg : gOk ops env g = some true := by rfl) (hn : Nat.blt d n = true := by rfl) (hx : evalA G env x = some (.string i) := by first | rfl | assumption) (hy : evalA G env y = some (.string j) := by first | rfl | assumption) : WS P G X n lt ops ⟨some d, .binOp .neq ty x y c, t, p, a, g⟩ env h K F := WS.neS (hg := hg) (hn := hn) (hx := hx) (hy := hy) (h1 := h1) (h2 := h2)
theorem QD {ty : TypeId} {x y : Operand} {c} {k : IntKind} {i j : Int} (h1 : i = j → K (upd env d (.bool true)) h fun _ => True) (h2 : ¬(i = j) → K (upd env d (.bool false)) h fun _ => True) (hg : gOk ops env g = some true := by rfl) (hn : Nat.blt d n = true := by rfl) (hx : evalA G env x = some (.int k i) := by first | rfl | assumption) (hy : evalA G env y = some (.int k j) := by first | rfl | assumption) : WS P G X n lt ops ⟨some d, .binOp .eql ty x y c, t, p, a, g⟩ env h K F := WS.eqI (hg := hg) (hn := hn) (hx := hx) (hy := hy) (h1 := h1) (h2 := h2)
theorem QE {ty : TypeId} {x y : Operand} {c} {k : IntKind} {i j : Int} (h1 : i ≠ j → K (upd env d (.bool true)) h fun _ => True) (h2 : ¬(i ≠ j) → K (upd env d (.bool false)) h fun _ => True) (hg : gOk ops env g = some true := by rfl) (hn : Nat.blt d n = true := by rfl) (hx : evalA G env x = some (.int k i) := by first | rfl | assumption) (hy : evalA G env y = some (.int k j) := by first | rfl | assumption) : WS P G X n lt ops ⟨some d, .binOp .neq ty x y c, t, p, a, g⟩ env h K F := WS.neI (hg := hg) (hn := hn) (hx := hx) (hy := hy) (h1 := h1) (h2 := h2)
theorem QF {ty : TypeId} {x y : Operand} {c} {k : IntKind} {i j : Int} (h1 : i < j → K (upd env d (.bool true)) h fun _ => True) (h2 : ¬(i < j) → K (upd env d (.bool false)) h fun _ => True) (hg : gOk ops env g = some true := by rfl) (hn : Nat.blt d n = true := by rfl) (hx : evalA G env x = some (.int k i) := by first | rfl | assumption) (hy : evalA G env y = some (.int k j) := by first | rfl | assumption) : WS P G X n lt ops ⟨some d, .binOp .lss ty x y c, t, p, a, g⟩ env h K F := WS.ltI (hg := hg) (hn := hn) (hx := hx) (hy := hy) (h1 := h1) (h2 := h2)
theorem QG {ty : TypeId} {x y : Operand} {c} {k : IntKind} {i j : Int} (h1 : i ≤ j → K (upd env d (.bool true)) h fun _ => True) (h2 : ¬(i ≤ j) → K (upd env d (.bool false)) h fun _ => True) (hg : gOk ops env g = some true := by rfl) (hn : Nat.blt d n = true := by rfl) (hx : evalA G env x = some (.int k i) := by first | rfl | assumption) (hy : evalA G env y = some (.int k j) := by first | rfl | assumption) : WS P G X n lt ops ⟨some d, .binOp .leq ty x y c, t, p, a, g⟩ env h K F := WS.leI (hg := hg) (hn := hn) (hx := hx) (hy := hy) (h1 := h1) (h2 := h2)
theorem QH {ty : TypeId} {x y : Operand} {c} {k : IntKind} {i j : Int} (h1 : j < i → K (upd env d (.bool true)) h fun _ => True) (h2 : ¬(j < i) → K (upd env d (.bool false)) h fun _ => True) (hg : gOk ops env g = some true := by rfl) (hn : Nat.blt d n = true := by rfl) (hx : evalA G env x = some (.int k i) := by first | rfl | assumption) (hy : evalA G env y = some (.int k j) := by first | rfl | assumption) : WS P G X n lt ops ⟨some d, .binOp .gtr ty x y c, t, p, a, g⟩ env h K F := WS.gtI (hg := hg) (hn := hn) (hx := hx) (hy := hy) (h1 := h1) (h2 := h2)
theorem QI {ty : TypeId} {x y : Operand} {c} {k : IntKind} {i j : Int} (h1 : j ≤ i → K (upd env d (.bool true)) h fun _ => True) (h2 : ¬(j ≤ i) → K (upd env d (.bool false)) h fun _ => True) (hg : gOk ops env g = some true := by rfl) (hn : Nat.blt d n = true := by rfl) (hx : evalA G env x = some (.int k i) := by first | rfl | assumption) (hy : evalA G env y = some (.int k j) := by first | rfl | assumption) : WS P G X n lt ops ⟨some d, .binOp .geq ty x y c, t, p, a, g⟩ env h K F := WS.geI (hg := hg) (hn := hn) (hx := hx) (hy := hy) (h1 := h1) (h2 := h2)
theorem QJ {f : FuncId} {args tys} {vs : List Value} (he : ∀ vs, enterA P f vs = some (.enter f vs)) (hk : WCall P G X f vs h fun r => match r with | .ret v h' => K (upd env d v) h' (fun _ => True) | .panic ch h' => F ch h') (hg : gOk ops env g = some true := by rfl) (hn : Nat.blt d n = true := by rfl) (ha : evalAll G env args.toList = some vs := by rfl) : WS P G X n false ops ⟨some d, .call ⟨.value (.func f), args, tys⟩, t, p, a, g⟩ env h K F := WS.callF (hg := hg) (hn := hn) (ha := ha) (he := he) (hk := hk)
end
theorem UB (h : Heap) (o : AObj) : (h.alloc o).next = h.next + 1 := rfl
theorem UC (h : Heap) (i : Nat) (o : Option AObj) : (h.put i o).next = h.next := rfl
end Go.Am
end
