/-
  The abstract machine, part 18: what is to be shown of a call, as a proposition that is taken apart operation by operation.
-/
import Derived.Test.YtfooolbjhhfbiaaDoorZamCall
namespace Go.Am
open Go.RowKit (Below)

def upd (env : Env) (d : Nat) (v : Value) : Env := fun t => if t = d then some v else env t

section
variable (P : Program) (G : Nat) (X : ExtFn) (n : Nat)

def WCall (f : FuncId) (args : List Value) (h : Heap) (Q : ARes → Prop) : Prop := ∃ k r, callN P G X k f args h = some r ∧ Q r

def WCode (c : Code) (env : Env) (h : Heap) (Q : AExit → Env → Heap → Prop) : Prop :=
  ∃ k x e h', exec G (regA P G (callN P G X k) n) k c env h = some (x, e, h') ∧ Q x e h'

def WPut (dst : Option Tmp) (v : Value) (env : Env) (K : Env → Prop) : Prop :=
  match dst with
  | none => K env
  | some d => d < n ∧ K (upd env d v)

def WStep (ops : Array Oper) (o : Oper) (env : Env) (h : Heap) (K : SRes → Prop) : Prop :=
  match wantedA ops env o with
  | none => False
  | some false => WPut n o.dst undef env fun e => K (.ok e h)
  | some true => match opA P G env o h with
    | none => False
    | some (.val v h') => WPut n o.dst v env fun e => K (.ok e h')
    | some (.skip h') => WPut n o.dst undef env fun e => K (.ok e h')
    | some (.enter f args) => WCall P G X f args h fun r => match r with
      | .ret v h' => WPut n o.dst v env fun e => K (.ok e h')
      | .panic ch h' => K (.panic ch h')
    | some (.panic v) => K (.panic [{ v, recovered := false }] h)

def WOps (ops : Array Oper) : List Oper → Env → Heap → (SRes → Prop) → Prop
  | [], env, h, Q => Q (.ok env h)
  | o :: l, env, h, Q => WStep P G X n ops o env h fun r => match r with
    | .ok e h' => WOps ops l e h' Q
    | .panic ch h' => Q (.panic ch h')

end

section
variable {P : Program} {G : Nat} {X : ExtFn} {n : Nat}

theorem WCall.mono {f : FuncId} {args : List Value} {h : Heap} {Q Q' : ARes → Prop} (hw : WCall P G X f args h Q) (hq : ∀ r, Q r → Q' r) : WCall P G X f args h Q' :=
  let ⟨k, r, hr, h'⟩ := hw; ⟨k, r, hr, hq r h'⟩

theorem WCall.of {f : FuncId} {args : List Value} {h : Heap} {r : ARes} (hc : CallsA P G X f args h r) {Q : ARes → Prop} (hq : Q r) : WCall P G X f args h Q :=
  let ⟨k, hk⟩ := hc; ⟨k, r, hk, hq⟩

theorem WCode.mono {c : Code} {env : Env} {h : Heap} {Q Q' : AExit → Env → Heap → Prop} (hw : WCode P G X n c env h Q) (hq : ∀ x e h, Q x e h → Q' x e h) : WCode P G X n c env h Q' :=
  let ⟨k, x, e, h', hr, h2⟩ := hw; ⟨k, x, e, h', hr, hq _ _ _ h2⟩

theorem putA_upd {dst : Option Tmp} {v : Value} {env : Env} {K : Env → Prop} (hp : WPut n dst v env K) : ∃ e, putA n dst v env = some e ∧ K e := by
  unfold WPut at hp
  unfold putA
  cases dst with
  | none => exact ⟨env, rfl, hp⟩
  | some d => exact ⟨_, if_pos hp.1, hp.2⟩

theorem WStep.out {ops : Array Oper} {o : Oper} {env : Env} {h : Heap} {K : SRes → Prop} (hw : WStep P G X n ops o env h K) : ∃ k r, stepA P G (callN P G X k) n ops o env h = some r ∧ K r := by
  unfold WStep at hw
  unfold stepA
  cases hwant : wantedA ops env o with
  | none => rw [hwant] at hw; exact hw.elim
  | some b =>
    rw [hwant] at hw
    cases b with
    | false =>
      obtain ⟨e, he, hk⟩ := putA_upd hw
      exact ⟨0, _, by simp only [he, Option.map_some], hk⟩
    | true =>
      cases ho : opA P G env o h with
      | none => simp only [ho] at hw
      | some a =>
        simp only [ho] at hw
        cases a with
        | val v h' =>
          obtain ⟨e, he, hk⟩ := putA_upd hw
          exact ⟨0, _, by simp only [he, Option.map_some], hk⟩
        | skip h' =>
          obtain ⟨e, he, hk⟩ := putA_upd hw
          exact ⟨0, _, by simp only [he, Option.map_some], hk⟩
        | enter f args =>
          obtain ⟨k, r, hr, hq⟩ := hw
          cases r with
          | ret v h' =>
            obtain ⟨e, he, hk⟩ := putA_upd hq
            exact ⟨k, _, by simp only [hr, he, Option.map_some], hk⟩
          | panic ch h' => exact ⟨k, _, by simp only [hr], hq⟩
        | panic v => exact ⟨0, _, rfl, hw⟩

theorem WOps.out (hX : ExtMono X) {ops : Array Oper} : ∀ (l : List Nat) (os : List Oper) {env : Env} {h : Heap} {Q : SRes → Prop}, (l.map fun i => ops[i]?) = os.map some → WOps P G X n ops os env h Q →
    ∃ k r, execOps P G (callN P G X k) n ops l env h = some r ∧ Q r
  | [], [], env, h, Q, _, hw => ⟨0, _, rfl, hw⟩
  | [], o :: os, env, h, Q, he, hw => by simp at he
  | i :: l, [], env, h, Q, he, hw => by simp at he
  | i :: l, o :: os, env, h, Q, he, hw => by
    simp only [List.map_cons, List.cons.injEq] at he
    obtain ⟨hi, hl⟩ := he
    obtain ⟨k, r, hs, hr⟩ := WStep.out hw
    cases r with
    | ok e h' =>
      obtain ⟨k2, r2, h2, h3⟩ := WOps.out hX l os hl hr
      refine ⟨max k k2, r2, ?_, h3⟩
      unfold execOps
      rw [hi]
      simp only [stepA_le (callN_le hX (Nat.le_max_left k k2)) hs]
      exact execOps_le (callN_le hX (Nat.le_max_right k k2)) l h2
    | panic ch h' =>
      refine ⟨k, _, ?_, hr⟩
      unfold execOps
      rw [hi]
      simp only [hs]

theorem range_getElem? (ops : Array Oper) : ((List.range ops.size).map fun i => ops[i]?) = ops.toList.map some := by
  apply List.ext_getElem?
  intro i
  by_cases hi : i < ops.size
  · simp [hi]
  · simp [hi]

theorem WCode.region (hX : ExtMono X) {id : Nat} {ops : Array Oper} {env : Env} {h : Heap} {Q : AExit → Env → Heap → Prop}
    (hw : WOps P G X n ops ops.toList env h fun r => match r with | .ok e h' => Q .normal e h' | .panic ch h' => Q (.panic ch) env h') : WCode P G X n (.region id ops false) env h Q := by
  obtain ⟨k, r, hr, hq⟩ := WOps.out hX _ _ (range_getElem? ops) hw
  have hreg : regA P G (callN P G X (k + 1)) n ops false env h = some r := by
    unfold regA
    simp only [Bool.false_eq_true, if_false]
    exact execOps_le (callN_le hX (Nat.le_succ k)) _ hr
  cases r with
  | ok e h' => exact ⟨k + 1, .normal, e, h', by simp only [exec, hreg], hq⟩
  | panic ch h' => exact ⟨k + 1, .panic ch, env, h', by simp only [exec, hreg], hq⟩

theorem WCode.le (hX : ExtMono X) {k k' : Nat} (hk : k ≤ k') {c : Code} {env : Env} {h : Heap} {r : AExit × Env × Heap} (he : exec G (regA P G (callN P G X k) n) k c env h = some r) :
    exec G (regA P G (callN P G X k') n) k' c env h = some r :=
  exec_le hk (exec_reg_le (regA_le (callN_le hX hk) n) k c env h r he)

theorem WCode.seq (hX : ExtMono X) {a b : Code} {env : Env} {h : Heap} {Q : AExit → Env → Heap → Prop}
    (hw : WCode P G X n a env h fun x e h' => match x with | .normal => WCode P G X n b e h' Q | x => Q x e h') : WCode P G X n (.seq a b) env h Q := by
  obtain ⟨k, x, e, h', he, hq⟩ := hw
  cases x with
  | normal =>
    obtain ⟨k2, x2, e2, h2, he2, hq2⟩ := hq
    refine ⟨max k k2 + 1, x2, e2, h2, ?_, hq2⟩
    have h3 := WCode.le hX (Nat.le_succ_of_le (Nat.le_max_left k k2)) he
    have h4 := WCode.le hX (Nat.le_succ_of_le (Nat.le_max_right k k2)) he2
    have h3' : exec G (regA P G (callN P G X (max k k2 + 1)) n) (max k k2) a env h = some (.normal, e, h') := exec_reg_le (regA_le (callN_le hX (by omega)) n) _ _ _ _ _ (exec_le (Nat.le_max_left k k2) he)
    have h4' : exec G (regA P G (callN P G X (max k k2 + 1)) n) (max k k2) b e h' = some (x2, e2, h2) := exec_reg_le (regA_le (callN_le hX (by omega)) n) _ _ _ _ _ (exec_le (Nat.le_max_right k k2) he2)
    simp only [exec, h3', h4']
  | _ =>
    refine ⟨k + 1, _, e, h', ?_, hq⟩
    have h3' : exec G (regA P G (callN P G X (k + 1)) n) k a env h = _ := exec_reg_le (regA_le (callN_le hX (Nat.le_succ k)) n) _ _ _ _ _ he
    simp only [exec, h3']

theorem WCode.cond (hX : ExtMono X) {c : Operand} {a b : Code} {env : Env} {h : Heap} {Q : AExit → Env → Heap → Prop} {t : Bool} (hc : evalA G env c = some (.bool t))
    (hw : WCode P G X n (if t then a else b) env h Q) : WCode P G X n (.cond c a b) env h Q := by
  obtain ⟨k, x, e, h', he, hq⟩ := hw
  refine ⟨k + 1, x, e, h', ?_, hq⟩
  have h3 := exec_reg_le (regA_le (callN_le (P := P) (G := G) hX (Nat.le_succ k)) n) _ _ _ _ _ he
  cases t
  · simp only [exec, hc]; exact h3
  · simp only [exec, hc]; exact h3

theorem WCode.block (hX : ExtMono X) {id : Nat} {b : Code} {env : Env} {h : Heap} {Q : AExit → Env → Heap → Prop}
    (hw : WCode P G X n b env h fun x e h' => match x with | .exit id' => if id' = id then Q .normal e h' else Q (.exit id') e h' | x => Q x e h') : WCode P G X n (.block id b) env h Q := by
  obtain ⟨k, x, e, h', he, hq⟩ := hw
  have h3 := exec_reg_le (regA_le (callN_le (P := P) (G := G) hX (Nat.le_succ k)) n) _ _ _ _ _ he
  cases x with
  | exit id' =>
    simp only at hq
    by_cases hid : id' = id
    · rw [if_pos hid] at hq
      exact ⟨k + 1, .normal, e, h', by simp only [exec, h3, if_pos hid], hq⟩
    · rw [if_neg hid] at hq
      exact ⟨k + 1, .exit id', e, h', by simp only [exec, h3, if_neg hid], hq⟩
  | normal => exact ⟨k + 1, _, e, h', by simp only [exec, h3], hq⟩
  | ret => exact ⟨k + 1, _, e, h', by simp only [exec, h3], hq⟩
  | panic ch => exact ⟨k + 1, _, e, h', by simp only [exec, h3], hq⟩

theorem WCode.loop (hX : ExtMono X) {b : Code} {env : Env} {h : Heap} {Q : AExit → Env → Heap → Prop}
    (hw : WCode P G X n b env h fun x e h' => match x with | .normal => WCode P G X n (.loop b) e h' Q | x => Q x e h') : WCode P G X n (.loop b) env h Q := by
  obtain ⟨k, x, e, h', he, hq⟩ := hw
  cases x with
  | normal =>
    obtain ⟨k2, x2, e2, h2, he2, hq2⟩ := hq
    refine ⟨max k k2 + 1, x2, e2, h2, ?_, hq2⟩
    have h3' : exec G (regA P G (callN P G X (max k k2 + 1)) n) (max k k2) b env h = some (.normal, e, h') := exec_reg_le (regA_le (callN_le hX (by omega)) n) _ _ _ _ _ (exec_le (Nat.le_max_left k k2) he)
    have h4' : exec G (regA P G (callN P G X (max k k2 + 1)) n) (max k k2) (.loop b) e h' = some (x2, e2, h2) := exec_reg_le (regA_le (callN_le hX (by omega)) n) _ _ _ _ _ (exec_le (Nat.le_max_right k k2) he2)
    unfold exec
    simp only [h3', h4']
  | _ =>
    refine ⟨k + 1, _, e, h', ?_, hq⟩
    have h3' := exec_reg_le (regA_le (callN_le (P := P) (G := G) hX (Nat.le_succ k)) n) _ _ _ _ _ he
    unfold exec
    simp only [h3']

theorem WCode.skip {env : Env} {h : Heap} {Q : AExit → Env → Heap → Prop} (hq : Q .normal env h) : WCode P G X n .skip env h Q := ⟨1, .normal, env, h, rfl, hq⟩
theorem WCode.exit {id : Nat} {env : Env} {h : Heap} {Q : AExit → Env → Heap → Prop} (hq : Q (.exit id) env h) : WCode P G X n (.exit id) env h Q := ⟨1, .exit id, env, h, rfl, hq⟩
theorem WCode.ret {env : Env} {h : Heap} {Q : AExit → Env → Heap → Prop} (hq : Q .ret env h) : WCode P G X n .ret env h Q := ⟨1, .ret, env, h, rfl, hq⟩

/-- What a body owes to its call. -/
def Ends (P : Program) (results : List ResultVar) (Q : ARes → Prop) (x : AExit) (e : Env) (h : Heap) : Prop :=
  match x with
  | .normal | .ret => match resultA P e h results with
    | some vs => Q (.ret (answer vs) h)
    | none => False
  | .panic ch => Q (.panic ch h)
  | .exit _ => False

theorem WCall.body (_hX : ExtMono X) {f : FuncId} {fn : Func} {c : Code} {args : List Value} {h : Heap} {Q : ARes → Prop} (hf : P.funcs[f]? = some fn) (hb : fn.body = some c) (hx : X f = none) (hl : args.length ≤ fn.ntmps)
    (hw : WCode P G X fn.ntmps c (argEnv args) h (Ends P fn.results.toList Q)) : WCall P G X f args h Q := by
  obtain ⟨k, x, e, h', he, hq⟩ := hw
  have key : ∀ r, (match (some (x, e, h') : Option (AExit × Env × Heap)) with
        | some (.normal, env, h') => (resultA P env h' fn.results.toList).map fun vs => ARes.ret (answer vs) h'
        | some (.ret, env, h') => (resultA P env h' fn.results.toList).map fun vs => .ret (answer vs) h'
        | some (.panic ch, _, h') => some (.panic ch h')
        | _ => none) = some r → callN P G X (k + 1) f args h = some r := by
    intro r hr
    have : callN P G X (k + 1) f args h = callBody P G (regA P G (callN P G X k)) k f args h := by simp only [callN, hx]
    rw [this]
    unfold callBody
    rw [hf]
    simp only
    rw [hb]
    simp only
    rw [if_pos hl, he]
    exact hr
  unfold Ends at hq
  cases x with
  | normal =>
    simp only at hq
    split at hq
    · rename_i vs hv; exact ⟨k + 1, _, key _ (by simp only [hv, Option.map_some]), hq⟩
    · exact hq.elim
  | ret =>
    simp only at hq
    split at hq
    · rename_i vs hv; exact ⟨k + 1, _, key _ (by simp only [hv, Option.map_some]), hq⟩
    · exact hq.elim
  | panic ch => exact ⟨k + 1, _, key _ rfl, hq⟩
  | exit id => exact hq.elim

theorem WCall.out {f : FuncId} {args : List Value} {h : Heap} {Q : ARes → Prop} (hw : WCall P G X f args h Q) : ∃ k r, callN P G X k f args h = some r ∧ Q r := hw
theorem WCall.intro {f : FuncId} {args : List Value} {h : Heap} {Q : ARes → Prop} (hw : ∃ k r, callN P G X k f args h = some r ∧ Q r) : WCall P G X f args h Q := hw

attribute [irreducible] WCall

end
end Go.Am
