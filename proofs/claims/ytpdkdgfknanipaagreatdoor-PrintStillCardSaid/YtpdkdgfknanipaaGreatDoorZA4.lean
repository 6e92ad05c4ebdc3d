/- The abstract machine, fourth part: the walk, its rules, and what a law asks. -/
import Derived.Test.YtpdkdgfknanipaaGreatDoorZA3
import Derived.Defers
import Derived.WideShapes
import Derived.Carry
import Derived.ChangeSame
import Derived.RowKit
import Derived.OpenShut
section
namespace Go.Am
theorem aB {p : Prop} (h : p := by first | omega | (simp only [aA.aC, aA.aE]; omega)) : p := h
theorem aD {p : Prop} (h : p := by repeat (first | assumption | (with_reducible rfl) | exact cY | exact eG | (refine bX aB ?_) | (refine bF aB ?_) | (apply Gr.at; (· assumption); (· exact aB)) | (apply cJ.at; (· assumption); (· exact aB); (· exact aB)))) : p := h
theorem aL {p : Prop} (h : p := by first | rfl | assumption) : p := h
theorem iC {p : Prop} (h : p := by first | (exact Nat.le_of_ble_eq_true rfl) | (simp; done) | omega) : p := h
theorem fG {p : Prop} (h : p := by repeat (first | assumption | exact Gr.refl _ | (refine Gr.put ?_ aB) | (refine Gr.trans ?_ (Gr.alloc _ _)))) : p := h
theorem aT {p : Prop} (h : p := by repeat (first | assumption | exact cJ.refl _ _ | (refine cJ.put ?_ aB) | (refine cJ.alloc ?_ _) | (refine cJ.self ?_) | (refine cJ.trans ?_ (by assumption)) | (refine cJ.gr ?_ (by assumption)))) : p := h
theorem aI {p : Prop} (h : p := by repeat (first | assumption | (refine cF.put ?_ aB) | (refine cF.alloc ?_ _) | (refine cF.gr ?_ (by assumption)))) : p := h
theorem bB {p : Prop} (h : p := by repeat (first | rfl | (refine bF aB ?_) | (refine bX aB ?_) | (apply cJ.at; (· assumption); (· exact aB); (· exact aB)) | (apply Gr.at; (· assumption); (· exact aB)))) : p := h
theorem aM {p : Prop} (h : p := by repeat (first | exact dO | (apply dV; (· (first | rfl | assumption))) | (apply cW; (· (first | rfl | assumption)); (· rfl); (· exact fF rfl); (· (exact aD)); (· (first | (exact Nat.le_of_ble_eq_true rfl) | (simp; done) | omega)); (· rfl)) | (apply cX; (· (first | rfl | assumption)); (· rfl); (· (exact aD)); (· rfl)))) : p := h
open Go.RowKit (Below)

def bL (env : Env) (d : Nat) (v : Value) : Env := fun t => if t = d then some v else env t

section
variable (P : Program) (G : Nat) (X : eQ) (n : Nat)

def aS (f : FuncId) (args : List Value) (h : aA) (Q : bR → Prop) : Prop := ∃ k r, bZ P G X k f args h = some r ∧ Q r

def cO (c : Code) (env : Env) (h : aA) (Q : gZ → Env → aA → Prop) : Prop :=
 ∃ k x e h', exec G (lO P G (bZ P G X k) n) k c env h = some (x, e, h') ∧ Q x e h'

def rS (dst : Option Tmp) (v : Value) (env : Env) (K : Env → Prop) : Prop :=
 match dst with
 | none => K env
 | some d => d < n ∧ K (bL env d v)

def oW (ops : Array Oper) (o : Oper) (env : Env) (h : aA) (K : jZ → Prop) : Prop :=
 match dG ops env o with
 | none => False
 | some false => rS n o.dst undef env fun e => K (.ok e h)
 | some true => match c6 P G env o h with
  | none => False
  | some (.val v h') => rS n o.dst v env fun e => K (.ok e h')
  | some (.skip h') => rS n o.dst undef env fun e => K (.ok e h')
  | some (.enter f args) => aS P G X f args h fun r => match r with
   | .ret v h' => rS n o.dst v env fun e => K (.ok e h')
   | .panic ch h' => K (.panic ch h')
  | some (.panic v) => K (.panic [{ v, recovered := false }] h)

def rR (ops : Array Oper) : List Oper → Env → aA → (jZ → Prop) → Prop
 | [], env, h, Q => Q (.ok env h)
 | o :: l, env, h, Q => oW P G X n ops o env h fun r => match r with
  | .ok e h' => rR ops l e h' Q
  | .panic ch h' => Q (.panic ch h')

end

section
variable {P : Program} {G : Nat} {X : eQ} {n : Nat}

theorem aS.mono {f : FuncId} {args : List Value} {h : aA} {Q Q' : bR → Prop} (hw : aS P G X f args h Q) (hq : ∀ r, Q r → Q' r) : aS P G X f args h Q' :=
 let ⟨k, r, hr, h'⟩ := hw; ⟨k, r, hr, hq r h'⟩

theorem aS.of {f : FuncId} {args : List Value} {h : aA} {r : bR} (hc : aMg P G X f args h r) {Q : bR → Prop} (hq : Q r) : aS P G X f args h Q :=
 let ⟨k, hk⟩ := hc; ⟨k, r, hk, hq⟩

theorem cO.mono {c : Code} {env : Env} {h : aA} {Q Q' : gZ → Env → aA → Prop} (hw : cO P G X n c env h Q) (hq : ∀ x e h, Q x e h → Q' x e h) : cO P G X n c env h Q' :=
 let ⟨k, x, e, h', hr, h2⟩ := hw; ⟨k, x, e, h', hr, hq _ _ _ h2⟩

theorem sQ {dst : Option Tmp} {v : Value} {env : Env} {K : Env → Prop} (hp : rS n dst v env K) : ∃ e, gE n dst v env = some e ∧ K e := by
 unfold rS at hp
 unfold gE
 cases dst with
 | none => exact ⟨env, rfl, hp⟩
 | some d => exact ⟨_, if_pos hp.1, hp.2⟩

theorem oW.out {ops : Array Oper} {o : Oper} {env : Env} {h : aA} {K : jZ → Prop} (hw : oW P G X n ops o env h K) : ∃ k r, jD P G (bZ P G X k) n ops o env h = some r ∧ K r := by
 unfold oW at hw
 unfold jD
 cases hwant : dG ops env o with
 | none => rw [hwant] at hw; exact hw.elim
 | some b =>
  rw [hwant] at hw
  cases b with
  | false =>
   obtain ⟨e, he, hk⟩ := sQ hw
   exact ⟨0, _, by simp only [he, Option.map_some], hk⟩
  | true =>
   cases ho : c6 P G env o h with
   | none => simp only [ho] at hw
   | some a =>
    simp only [ho] at hw
    cases a with
    | val v h' =>
     obtain ⟨e, he, hk⟩ := sQ hw
     exact ⟨0, _, by simp only [he, Option.map_some], hk⟩
    | skip h' =>
     obtain ⟨e, he, hk⟩ := sQ hw
     exact ⟨0, _, by simp only [he, Option.map_some], hk⟩
    | enter f args =>
     obtain ⟨k, r, hr, hq⟩ := hw
     cases r with
     | ret v h' =>
      obtain ⟨e, he, hk⟩ := sQ hq
      exact ⟨k, _, by simp only [hr, he, Option.map_some], hk⟩
     | panic ch h' => exact ⟨k, _, by simp only [hr], hq⟩
    | panic v => exact ⟨0, _, rfl, hw⟩

theorem rR.out (hX : bW X) {ops : Array Oper} : ∀ (l : List Nat) (os : List Oper) {env : Env} {h : aA} {Q : jZ → Prop}, (l.map fun i => ops[i]?) = os.map some → rR P G X n ops os env h Q →
  ∃ k r, dT P G (bZ P G X k) n ops l env h = some r ∧ Q r
 | [], [], env, h, Q, _, hw => ⟨0, _, rfl, hw⟩
 | [], o :: os, env, h, Q, he, hw => by simp at he
 | i :: l, [], env, h, Q, he, hw => by simp at he
 | i :: l, o :: os, env, h, Q, he, hw => by
  simp only [List.map_cons, List.cons.injEq] at he
  obtain ⟨hi, hl⟩ := he
  obtain ⟨k, r, hs, hr⟩ := oW.out hw
  cases r with
  | ok e h' =>
   obtain ⟨k2, r2, h2, h3⟩ := rR.out hX l os hl hr
   refine ⟨max k k2, r2, ?_, h3⟩
   unfold dT
   rw [hi]
   simp only [n6 (cR hX (Nat.le_max_left k k2)) hs]
   exact dZ (cR hX (Nat.le_max_right k k2)) l h2
  | panic ch h' =>
   refine ⟨k, _, ?_, hr⟩
   unfold dT
   rw [hi]
   simp only [hs]

theorem p0 (ops : Array Oper) : ((List.range ops.size).map fun i => ops[i]?) = ops.toList.map some := by
 apply List.ext_getElem?
 intro i
 by_cases hi : i < ops.size
 ·simp [hi]
 ·simp [hi]

theorem cO.region (hX : bW X) {id : Nat} {ops : Array Oper} {env : Env} {h : aA} {Q : gZ → Env → aA → Prop}
  (hw : rR P G X n ops ops.toList env h fun r => match r with | .ok e h' => Q .normal e h' | .panic ch h' => Q (.panic ch) env h') : cO P G X n (.region id ops false) env h Q := by
 obtain ⟨k, r, hr, hq⟩ := rR.out hX _ _ (p0 ops) hw
 have hreg : lO P G (bZ P G X (k + 1)) n ops false env h = some r := by
  unfold lO
  simp only [Bool.false_eq_true, if_false]
  exact dZ (cR hX (Nat.le_succ k)) _ hr
 cases r with
 | ok e h' => exact ⟨k + 1, .normal, e, h', by simp only [exec, hreg], hq⟩
 | panic ch h' => exact ⟨k + 1, .panic ch, env, h', by simp only [exec, hreg], hq⟩

theorem cO.le (hX : bW X) {k k' : Nat} (hk : k ≤ k') {c : Code} {env : Env} {h : aA} {r : gZ × Env × aA} (he : exec G (lO P G (bZ P G X k) n) k c env h = some r) :
  exec G (lO P G (bZ P G X k') n) k' c env h = some r :=
 mL hk (dU (jU (cR hX hk) n) k c env h r he)

theorem cO.seq (hX : bW X) {a b : Code} {env : Env} {h : aA} {Q : gZ → Env → aA → Prop}
  (hw : cO P G X n a env h fun x e h' => match x with | .normal => cO P G X n b e h' Q | x => Q x e h') : cO P G X n (.seq a b) env h Q := by
 obtain ⟨k, x, e, h', he, hq⟩ := hw
 cases x with
 | normal =>
  obtain ⟨k2, x2, e2, h2, he2, hq2⟩ := hq
  refine ⟨max k k2 + 1, x2, e2, h2, ?_, hq2⟩
  have h3 := cO.le hX (Nat.le_succ_of_le (Nat.le_max_left k k2)) he
  have h4 := cO.le hX (Nat.le_succ_of_le (Nat.le_max_right k k2)) he2
  have h3' : exec G (lO P G (bZ P G X (max k k2 + 1)) n) (max k k2) a env h = some (.normal, e, h') := dU (jU (cR hX (by omega)) n) _ _ _ _ _ (mL (Nat.le_max_left k k2) he)
  have h4' : exec G (lO P G (bZ P G X (max k k2 + 1)) n) (max k k2) b e h' = some (x2, e2, h2) := dU (jU (cR hX (by omega)) n) _ _ _ _ _ (mL (Nat.le_max_right k k2) he2)
  simp only [exec, h3', h4']
 | _ =>
  refine ⟨k + 1, _, e, h', ?_, hq⟩
  have h3' : exec G (lO P G (bZ P G X (k + 1)) n) k a env h = _ := dU (jU (cR hX (Nat.le_succ k)) n) _ _ _ _ _ he
  simp only [exec, h3']

theorem cO.cond (hX : bW X) {c : Operand} {a b : Code} {env : Env} {h : aA} {Q : gZ → Env → aA → Prop} {t : Bool} (hc : aJ G env c = some (.bool t))
  (hw : cO P G X n (if t then a else b) env h Q) : cO P G X n (.cond c a b) env h Q := by
 obtain ⟨k, x, e, h', he, hq⟩ := hw
 refine ⟨k + 1, x, e, h', ?_, hq⟩
 have h3 := dU (jU (cR (P := P) (G := G) hX (Nat.le_succ k)) n) _ _ _ _ _ he
 cases t
 ·simp only [exec, hc]; exact h3
 ·simp only [exec, hc]; exact h3

theorem cO.block (hX : bW X) {id : Nat} {b : Code} {env : Env} {h : aA} {Q : gZ → Env → aA → Prop}
  (hw : cO P G X n b env h fun x e h' => match x with | .exit id' => if id' = id then Q .normal e h' else Q (.exit id') e h' | x => Q x e h') : cO P G X n (.block id b) env h Q := by
 obtain ⟨k, x, e, h', he, hq⟩ := hw
 have h3 := dU (jU (cR (P := P) (G := G) hX (Nat.le_succ k)) n) _ _ _ _ _ he
 cases x with
 | exit id' =>
  simp only at hq
  by_cases hid : id' = id
  ·rw [if_pos hid] at hq
   exact ⟨k + 1, .normal, e, h', by simp only [exec, h3, if_pos hid], hq⟩
  ·rw [if_neg hid] at hq
   exact ⟨k + 1, .exit id', e, h', by simp only [exec, h3, if_neg hid], hq⟩
 | normal => exact ⟨k + 1, _, e, h', by simp only [exec, h3], hq⟩
 | ret => exact ⟨k + 1, _, e, h', by simp only [exec, h3], hq⟩
 | panic ch => exact ⟨k + 1, _, e, h', by simp only [exec, h3], hq⟩

theorem cO.loop (hX : bW X) {b : Code} {env : Env} {h : aA} {Q : gZ → Env → aA → Prop}
  (hw : cO P G X n b env h fun x e h' => match x with | .normal => cO P G X n (.loop b) e h' Q | x => Q x e h') : cO P G X n (.loop b) env h Q := by
 obtain ⟨k, x, e, h', he, hq⟩ := hw
 cases x with
 | normal =>
  obtain ⟨k2, x2, e2, h2, he2, hq2⟩ := hq
  refine ⟨max k k2 + 1, x2, e2, h2, ?_, hq2⟩
  have h3' : exec G (lO P G (bZ P G X (max k k2 + 1)) n) (max k k2) b env h = some (.normal, e, h') := dU (jU (cR hX (by omega)) n) _ _ _ _ _ (mL (Nat.le_max_left k k2) he)
  have h4' : exec G (lO P G (bZ P G X (max k k2 + 1)) n) (max k k2) (.loop b) e h' = some (x2, e2, h2) := dU (jU (cR hX (by omega)) n) _ _ _ _ _ (mL (Nat.le_max_right k k2) he2)
  unfold exec
  simp only [h3', h4']
 | _ =>
  refine ⟨k + 1, _, e, h', ?_, hq⟩
  have h3' := dU (jU (cR (P := P) (G := G) hX (Nat.le_succ k)) n) _ _ _ _ _ he
  unfold exec
  simp only [h3']

theorem cO.skip {env : Env} {h : aA} {Q : gZ → Env → aA → Prop} (hq : Q .normal env h) : cO P G X n .skip env h Q := ⟨1, .normal, env, h, rfl, hq⟩
theorem cO.exit {id : Nat} {env : Env} {h : aA} {Q : gZ → Env → aA → Prop} (hq : Q (.exit id) env h) : cO P G X n (.exit id) env h Q := ⟨1, .exit id, env, h, rfl, hq⟩
theorem cO.ret {env : Env} {h : aA} {Q : gZ → Env → aA → Prop} (hq : Q .ret env h) : cO P G X n .ret env h Q := ⟨1, .ret, env, h, rfl, hq⟩

def Ends (P : Program) (results : List ResultVar) (Q : bR → Prop) (x : gZ) (e : Env) (h : aA) : Prop :=
 match x with
 | .normal | .ret => match bV P e h results with
  | some vs => Q (.ret (answer vs) h)
  | none => False
 | .panic ch => Q (.panic ch h)
 | .exit _ => False

theorem aS.body (_hX : bW X) {f : FuncId} {fn : Func} {c : Code} {args : List Value} {h : aA} {Q : bR → Prop} (hf : P.funcs[f]? = some fn) (hb : fn.body = some c) (hx : X f = none) (hl : args.length ≤ fn.ntmps)
    (hw : cO P G X fn.ntmps c (jL args) h (Ends P fn.results.toList Q)) : aS P G X f args h Q := by
  obtain ⟨k, x, e, h', he, hq⟩ := hw
  have key : ∀ r, (match (some (x, e, h') : Option (gZ × Env × aA)) with
        | some (.normal, env, h') => (bV P env h' fn.results.toList).map fun vs => bR.ret (answer vs) h'
        | some (.ret, env, h') => (bV P env h' fn.results.toList).map fun vs => .ret (answer vs) h'
        | some (.panic ch, _, h') => some (.panic ch h')
        | _ => none) = some r → bZ P G X (k + 1) f args h = some r := by
    intro r hr
    have : bZ P G X (k + 1) f args h = jN P G (lO P G (bZ P G X k)) k f args h := by simp only [bZ, hx]
    rw [this]
    unfold jN
    rw [hf]
    simp only
    rw [hb]
    simp only
    rw [if_pos hl, he]
    exact hr
  unfold Ends at hq
  cases x with
  | normal =>
    simp only at hq
    split at hq
    · rename_i vs hv; exact ⟨k + 1, _, key _ (by simp only [hv, Option.map_some]), hq⟩
    · exact hq.elim
  | ret =>
    simp only at hq
    split at hq
    · rename_i vs hv; exact ⟨k + 1, _, key _ (by simp only [hv, Option.map_some]), hq⟩
    · exact hq.elim
  | panic ch => exact ⟨k + 1, _, key _ rfl, hq⟩
  | exit id => exact hq.elim

theorem aS.out {f : FuncId} {args : List Value} {h : aA} {Q : bR → Prop} (hw : aS P G X f args h Q) : ∃ k r, bZ P G X k f args h = some r ∧ Q r := hw
theorem aS.intro {f : FuncId} {args : List Value} {h : aA} {Q : bR → Prop} (hw : ∃ k r, bZ P G X k f args h = some r ∧ Q r) : aS P G X f args h Q := hw

attribute [irreducible] aS

end
end Go.Am
end

section
namespace Go.Am
open Go.RowKit (Below)

section
variable (P : Program) (G : Nat) (X : eQ) (n : Nat)

def WC (c : Code) (env : Env) (h : aA) (N : Env → aA → Prop) (E : Nat → Env → aA → Prop) (R : Env → aA → Prop) (F : List PanicEntry → aA → Prop) : Prop :=
 cO P G X n c env h fun x e h => match x with
  | .normal => N e h
  | .exit i => E i e h
  | .ret => R e h
  | .panic ch => F ch h

def WR (ops : Array Oper) (l : List Oper) (env : Env) (h : aA) (N : Env → aA → Prop) (F : List PanicEntry → aA → Prop) : Prop :=
 rR P G X n ops l env h fun r => match r with
  | .ok e h => N e h
  | .panic ch h => F ch h

end

section
variable {P : Program} {G : Nat} {X : eQ} {n : Nat} {N : Env → aA → Prop} {E : Nat → Env → aA → Prop} {R : Env → aA → Prop} {F : List PanicEntry → aA → Prop} {env : Env} {h : aA}

theorem WC.seq (hX : bW X) {a b : Code} (hw : WC P G X n a env h (fun e h => WC P G X n b e h N E R F) E R F) : WC P G X n (.seq a b) env h N E R F := by
 refine cO.seq hX (cO.mono hw fun x e h' hq => ?_)
 cases x <;> exact hq

theorem WC.cond (hX : bW X) {c : Operand} {a b : Code} {t : Bool} (hc : aJ G env c = some (.bool t)) (hw : WC P G X n (if t then a else b) env h N E R F) : WC P G X n (.cond c a b) env h N E R F :=
 cO.cond hX hc hw

theorem WC.aD5 (hX : bW X) {c : Operand} {a b : Code} (hc : aJ G env c = some (.bool true) := by first | rfl | assumption) (hw : WC P G X n a env h N E R F) : WC P G X n (.cond c a b) env h N E R F :=
 cO.cond hX hc hw
theorem WC.aGz (hX : bW X) {c : Operand} {a b : Code} (hc : aJ G env c = some (.bool false) := by first | rfl | assumption) (hw : WC P G X n b env h N E R F) : WC P G X n (.cond c a b) env h N E R F :=
 cO.cond hX hc hw
theorem WC.aD4 (hX : bW X) {c : Operand} {a b : Code} {t : Bool} (hc : aJ G env c = some (.bool t) := by first | rfl | assumption) (h1 : t = true → WC P G X n a env h N E R F) (h2 : t = false → WC P G X n b env h N E R F) : WC P G X n (.cond c a b) env h N E R F := by
 cases t
 ·exact WC.aGz hX hc (h2 rfl)
 ·exact WC.aD5 hX hc (h1 rfl)

theorem WC.block (hX : bW X) {id : Nat} {b : Code} (hw : WC P G X n b env h N (fun i e h => if i = id then N e h else E i e h) R F) : WC P G X n (.block id b) env h N E R F := by
 refine cO.block hX (cO.mono hw fun x e h' hq => ?_)
 cases x with
 | exit i =>
  simp only at hq ⊢
  split
  ·rename_i hi; rw [if_pos hi] at hq; exact hq
  ·rename_i hi; rw [if_neg hi] at hq; exact hq
 | _ => exact hq

theorem aH {i : Nat} {a b : Prop} (h : a) : if i = i then a else b := by rw [if_pos rfl]; exact h
theorem bE {i j : Nat} (hne : (i == j) = false) {a b : Prop} (h : b) : if i = j then a else b := by
 rw [if_neg (by intro e; subst e; simp at hne)]; exact h

theorem WC.cB (hX : bW X) {α : Type} {b : Code} (m : α → Nat) (Inv : α → Env → aA → Prop) (a0 : α) (h0 : Inv a0 env h)
  (step : ∀ a env h, (∀ a' env' h', m a' < m a → Inv a' env' h' → WC P G X n (.loop b) env' h' N E R F) → Inv a env h →
   WC P G X n b env h (fun env' h' => WC P G X n (.loop b) env' h' N E R F) E R F) : WC P G X n (.loop b) env h N E R F := by
 suffices ∀ k a env h, m a < k → Inv a env h → WC P G X n (.loop b) env h N E R F from this _ a0 env h (Nat.lt_succ_self _) h0
 intro k
 induction k with
 | zero => intro a env h hm; omega
 | succ k ih =>
  intro a env h hm hi
  refine cO.loop hX (cO.mono (step a env h (fun a' env' h' hl hi' => ih a' env' h' (by omega) hi') hi) fun x e h' hq => ?_)
  cases x <;> exact hq

theorem WC.skip (hq : N env h) : WC P G X n .skip env h N E R F := cO.skip hq
theorem WC.exit {id : Nat} (hq : E id env h) : WC P G X n (.exit id) env h N E R F := cO.exit hq
theorem WC.ret (hq : R env h) : WC P G X n .ret env h N E R F := cO.ret hq

theorem WC.region (hX : bW X) {id : Nat} {ops : Array Oper} (hw : WR P G X n ops ops.toList env h N F) : WC P G X n (.region id ops false) env h N E R F := by
 refine cO.region hX ?_
 have : ∀ (l : List Oper) (env : Env) (h : aA) (Q Q' : jZ → Prop), (∀ r, Q r → Q' r) → rR P G X n ops l env h Q → rR P G X n ops l env h Q' := by
  intro l
  induction l with
  | nil => intro env h Q Q' hq hw; exact hq _ hw
  | cons o l ih =>
   intro env h Q Q' hq hw
   have mono : ∀ (K K' : jZ → Prop), (∀ r, K r → K' r) → oW P G X n ops o env h K → oW P G X n ops o env h K' := by
    intro K K' hk hs
    have put : ∀ (dst : Option Tmp) (v : Value) (env : Env) (A A' : Env → Prop), (∀ e, A e → A' e) → rS n dst v env A → rS n dst v env A' := by
     intro dst v env A A' ha hp
     unfold rS at hp ⊢
     cases dst with
     | none => exact ha _ hp
     | some d => exact ⟨hp.1, ha _ hp.2⟩
    unfold oW at hs ⊢
    cases hwant : dG ops env o with
    | none => rw [hwant] at hs; exact hs.elim
    | some b =>
     rw [hwant] at hs
     cases b with
     | false => exact put _ _ _ _ _ (fun e => hk _) hs
     | true =>
      cases ho : c6 P G env o h with
      | none => simp only [ho] at hs
      | some a =>
       simp only [ho] at hs ⊢
       cases a with
       | val v h' => exact put _ _ _ _ _ (fun e => hk _) hs
       | skip h' => exact put _ _ _ _ _ (fun e => hk _) hs
       | enter f args =>
        obtain ⟨k, r, hr, hq⟩ := aS.out hs
        refine aS.intro ⟨k, r, hr, ?_⟩
        cases r with
        | ret v h' => exact put _ _ _ _ _ (fun e => hk _) hq
        | panic ch h' => exact hk _ hq
       | panic v => exact hk _ hs
   refine mono _ _ (fun r hr => ?_) hw
   cases r with
   | ok e h' => exact ih _ _ _ _ hq hr
   | panic ch h' => exact hq _ hr
 refine this _ _ _ _ _ (fun r hr => ?_) hw
 cases r <;> exact hr

theorem WR.nil {ops : Array Oper} (hq : N env h) : WR P G X n ops [] env h N F := hq

theorem WR.val {ops : Array Oper} {o : Oper} {l : List Oper} {d : Nat} {v : Value} {h' : aA} (hg : dG ops env o = some true) (hd : o.dst = some d) (hn : Nat.blt d n = true) (ho : c6 P G env o h = some (.val v h'))
  (hk : WR P G X n ops l (bL env d v) h' N F) : WR P G X n ops (o :: l) env h N F := by
 unfold WR rR oW
 rw [hg]
 simp only [ho, hd, rS]
 exact ⟨by simpa [Nat.blt_eq] using hn, hk⟩

theorem WR.ask {ops : Array Oper} {o : Oper} {l : List Oper} {d : Nat} {b : Bool} {h' : aA} (hg : dG ops env o = some true) (hd : o.dst = some d) (hn : Nat.blt d n = true) (ho : c6 P G env o h = some (.val (.bool b) h'))
  (h1 : b = true → WR P G X n ops l (bL env d (.bool true)) h' N F) (h2 : b = false → WR P G X n ops l (bL env d (.bool false)) h' N F) : WR P G X n ops (o :: l) env h N F := by
 refine WR.val hg hd hn ho ?_
 cases b
 ·exact h2 rfl
 ·exact h1 rfl

theorem WR.xW {ops : Array Oper} {o : Oper} {l : List Oper} {d : Nat} {p : Prop} [Decidable p] {h' : aA} (hg : dG ops env o = some true) (hd : o.dst = some d) (hn : Nat.blt d n = true) (ho : c6 P G env o h = some (.val (.bool (decide p)) h'))
  (h1 : p → WR P G X n ops l (bL env d (.bool true)) h' N F) (h2 : ¬p → WR P G X n ops l (bL env d (.bool false)) h' N F) : WR P G X n ops (o :: l) env h N F := by
 refine WR.ask hg hd hn ho (fun hb => h1 (by simpa using hb)) (fun hb => h2 (by simpa using hb))

theorem WR.store {ops : Array Oper} {o : Oper} {l : List Oper} {h' : aA} (hg : dG ops env o = some true) (hd : o.dst = none) (ho : c6 P G env o h = some (.skip h'))
  (hk : WR P G X n ops l env h' N F) : WR P G X n ops (o :: l) env h N F := by
 unfold WR rR oW
 rw [hg]
 simp only [ho, hd, rS]
 exact hk

theorem WR.call {ops : Array Oper} {o : Oper} {l : List Oper} {d : Nat} {f : FuncId} {args : List Value} (hg : dG ops env o = some true) (hd : o.dst = some d) (hn : Nat.blt d n = true) (ho : c6 P G env o h = some (.enter f args))
  (hk : aS P G X f args h fun r => match r with | .ret v h' => WR P G X n ops l (bL env d v) h' N F | .panic ch h' => F ch h') : WR P G X n ops (o :: l) env h N F := by
 unfold WR rR oW
 rw [hg]
 simp only [ho, hd, rS]
 refine aS.mono hk fun r hr => ?_
 cases r with
 | ret v h' => exact ⟨by simpa [Nat.blt_eq] using hn, hr⟩
 | panic ch h' => exact hr

theorem aS.walk (hX : bW X) {f : FuncId} {fn : Func} {c : Code} {args : List Value} {Q : bR → Prop} (hf : P.funcs[f]? = some fn) (hb : fn.body = some c) (hx : X f = none) (hn : fn.ntmps = n) (hl : Nat.ble args.length n = true)
  (hw : WC P G X n c (jL args) h (fun e h => ∃ vs, bV P e h fn.results.toList = some vs ∧ Q (.ret (answer vs) h)) (fun _ _ _ => False)
   (fun e h => ∃ vs, bV P e h fn.results.toList = some vs ∧ Q (.ret (answer vs) h)) fun ch h => Q (.panic ch h)) : aS P G X f args h Q := by
 subst hn
 refine aS.body hX hf hb hx (by simpa [Nat.ble_eq] using hl) (cO.mono hw fun x e h' hq => ?_)
 unfold Ends
 cases x with
 | normal => obtain ⟨vs, hv, hq⟩ := hq; simp only [hv]; exact hq
 | ret => obtain ⟨vs, hv, hq⟩ := hq; simp only [hv]; exact hq
 | exit i => exact hq
 | panic ch => exact hq

/- The operations. -/

theorem aIb {d t p a g} {x : Operand} {v : Value} (hx : aJ G env x = some v) : c6 P G env ⟨d, .move x, t, p, a, g⟩ h = some (.val v h) := by simp only [c6, hx, Option.map_some]
theorem aDg {d t p a g} {x : Operand} {v : Value} (hx : aJ G env x = some v) : c6 P G env ⟨d, .assign x, t, p, a, g⟩ h = some (.val v h) := by simp only [c6, hx, Option.map_some]
theorem aFm {d t p a g} {c x y : Operand} {v : Value} (hc : aJ G env c = some (.bool true)) (hx : aJ G env x = some v) : c6 P G env ⟨d, .pick c x y, t, p, a, g⟩ h = some (.val v h) := by simp only [c6, hc, hx, Option.map_some]
theorem aFl {d t p a g} {c x y : Operand} {v : Value} (hc : aJ G env c = some (.bool false)) (hy : aJ G env y = some v) : c6 P G env ⟨d, .pick c x y, t, p, a, g⟩ h = some (.val v h) := by simp only [c6, hc, hy, Option.map_some]

theorem kJ {d t p a g} {op : BinOp} {ty : TypeId} {x y : Operand} {c} {k : IntKind} {i j : Int} {v : Value} (hx : aJ G env x = some (.int k i)) (hy : aJ G env y = some (.int k j)) (hv : nL P op ty (.int k i) (.int k j) = some v) :
  c6 P G env ⟨d, .binOp op ty x y c, t, p, a, g⟩ h = some (.val v h) := by
 have : o0 P op ty x y (.int k i) (.int k j) = true := by unfold o0 j7; simp
 simp only [c6, hx, hy, this, hv, Option.map_some, if_true]

theorem aKq {d t p a g} {ty : TypeId} {x y : Operand} {c} {k : IntKind} {i j : Int} (hx : aJ G env x = some (.int k i)) (hy : aJ G env y = some (.int k j)) : c6 P G env ⟨d, .binOp .eql ty x y c, t, p, a, g⟩ h = some (.val (.bool (decide (i = j))) h) :=
 kJ hx hy (by simp [nL, jQ]; rfl)
theorem aKw {d t p a g} {ty : TypeId} {x y : Operand} {c} {k : IntKind} {i j : Int} (hx : aJ G env x = some (.int k i)) (hy : aJ G env y = some (.int k j)) : c6 P G env ⟨d, .binOp .neq ty x y c, t, p, a, g⟩ h = some (.val (.bool (decide (i ≠ j))) h) :=
 kJ hx hy (by simp only [nL, jQ, if_true]; congr 2; by_cases e : i = j <;> simp [e])
theorem aKv {d t p a g} {ty : TypeId} {x y : Operand} {c} {k : IntKind} {i j : Int} (hx : aJ G env x = some (.int k i)) (hy : aJ G env y = some (.int k j)) : c6 P G env ⟨d, .binOp .lss ty x y c, t, p, a, g⟩ h = some (.val (.bool (decide (i < j))) h) :=
 kJ hx hy (by simp [nL, jQ])
theorem aKu {d t p a g} {ty : TypeId} {x y : Operand} {c} {k : IntKind} {i j : Int} (hx : aJ G env x = some (.int k i)) (hy : aJ G env y = some (.int k j)) : c6 P G env ⟨d, .binOp .leq ty x y c, t, p, a, g⟩ h = some (.val (.bool (decide (i ≤ j))) h) :=
 kJ hx hy (by simp [nL, jQ])
theorem aKt {d t p a g} {ty : TypeId} {x y : Operand} {c} {k : IntKind} {i j : Int} (hx : aJ G env x = some (.int k i)) (hy : aJ G env y = some (.int k j)) : c6 P G env ⟨d, .binOp .gtr ty x y c, t, p, a, g⟩ h = some (.val (.bool (decide (j < i))) h) :=
 kJ hx hy (by simp [nL, jQ])
theorem aKs {d t p a g} {ty : TypeId} {x y : Operand} {c} {k : IntKind} {i j : Int} (hx : aJ G env x = some (.int k i)) (hy : aJ G env y = some (.int k j)) : c6 P G env ⟨d, .binOp .geq ty x y c, t, p, a, g⟩ h = some (.val (.bool (decide (j ≤ i))) h) :=
 kJ hx hy (by simp [nL, jQ])

theorem qC {n : Int} (h : -9223372036854775808 ≤ n ∧ n ≤ 9223372036854775807) : IntKind.i64.wrap n = n := by rw [IntKind.wrap_i64]; omega

theorem aH8 {d t p a g} {ty : TypeId} {x y : Operand} {c} {i j : Int} (hx : aJ G env x = some (.int .i64 i)) (hy : aJ G env y = some (.int .i64 j)) (hr : -9223372036854775808 ≤ i + j ∧ i + j ≤ 9223372036854775807) :
  c6 P G env ⟨d, .binOp .add ty x y c, t, p, a, g⟩ h = some (.val (.int .i64 (i + j)) h) := kJ hx hy (by simp [nL, jQ, qC hr])
theorem aId {d t p a g} {ty : TypeId} {x y : Operand} {c} {i j : Int} (hx : aJ G env x = some (.int .i64 i)) (hy : aJ G env y = some (.int .i64 j)) (hr : -9223372036854775808 ≤ i - j ∧ i - j ≤ 9223372036854775807) :
  c6 P G env ⟨d, .binOp .sub ty x y c, t, p, a, g⟩ h = some (.val (.int .i64 (i - j)) h) := kJ hx hy (by simp [nL, jQ, qC hr])
theorem aIc {d t p a g} {ty : TypeId} {x y : Operand} {c} {i j : Int} (hx : aJ G env x = some (.int .i64 i)) (hy : aJ G env y = some (.int .i64 j)) (hr : -9223372036854775808 ≤ i * j ∧ i * j ≤ 9223372036854775807) :
  c6 P G env ⟨d, .binOp .mul ty x y c, t, p, a, g⟩ h = some (.val (.int .i64 (i * j)) h) := kJ hx hy (by simp [nL, jQ, qC hr])

theorem zR {d t p a g} {op : BinOp} {ty : TypeId} {x y : Operand} {c} {i j : ByteArray} {v : Value} (hx : aJ G env x = some (.string i)) (hy : aJ G env y = some (.string j)) (hv : p8 op i j = some v) :
  c6 P G env ⟨d, .binOp op ty x y c, t, p, a, g⟩ h = some (.val v h) := by
 have : o0 P op ty x y (.string i) (.string j) = true := by unfold o0 j7; simp
 simp only [c6, hx, hy, this, nL, hv, Option.map_some, if_true]

theorem xI (i j : ByteArray) : (i.toList == j.toList) = decide (i = j) := by
 by_cases e : i = j
 ·subst e; simp
 ·have : i.toList ≠ j.toList := by
   intro h
   apply e
   rw [ByteArray.toList_eq, ByteArray.toList_eq] at h
   apply ByteArray.ext
   exact Array.ext' h
  simp [e, this]

theorem aKr {d t p a g} {ty : TypeId} {x y : Operand} {c} {i j : ByteArray} (hx : aJ G env x = some (.string i)) (hy : aJ G env y = some (.string j)) : c6 P G env ⟨d, .binOp .eql ty x y c, t, p, a, g⟩ h = some (.val (.bool (decide (i = j))) h) :=
 zR hx hy (by simp [p8, xI])
theorem aKx {d t p a g} {ty : TypeId} {x y : Operand} {c} {i j : ByteArray} (hx : aJ G env x = some (.string i)) (hy : aJ G env y = some (.string j)) : c6 P G env ⟨d, .binOp .neq ty x y c, t, p, a, g⟩ h = some (.val (.bool (decide (i ≠ j))) h) :=
 zR hx hy (by simp [p8, xI])
theorem aH9 {d t p a g} {ty : TypeId} {x y : Operand} {c} {i j : ByteArray} (hx : aJ G env x = some (.string i)) (hy : aJ G env y = some (.string j)) (hs : i.size + j.size ≤ 140737488355328) :
  c6 P G env ⟨d, .binOp .add ty x y c, t, p, a, g⟩ h = some (.val (.string (i ++ j)) h) :=
 zR hx hy (by simp [p8, hs])

theorem aKy {d t p a g} {ty : TypeId} {x : Operand} {b : Bool} (hx : aJ G env x = some (.bool b)) : c6 P G env ⟨d, .unOp .not ty x, t, p, a, g⟩ h = some (.val (.bool !b) h) := by simp only [c6, hx, unA, Option.map_some]

theorem aBr {d t p a g} {ty : TypeId} {x : Operand} {i off : Nat} {v : Value} (hx : aJ G env x = some (.pointer (some ⟨i, off, none⟩))) (hv : pS P ty i off h = some v) : c6 P G env ⟨d, .load ty x, t, p, a, g⟩ h = some (.val v h) := by
 simp only [c6, hx, hv, Option.map_some]
theorem aFn {d t p a g} {ty : TypeId} {x y : Operand} {i off : Nat} {v : Value} {h' : aA} (hx : aJ G env x = some (.pointer (some ⟨i, off, none⟩))) (hy : aJ G env y = some v) (hv : fW P ty i off v h = some h') : c6 P G env ⟨d, .store ty x y, t, p, a, g⟩ h = some (.skip h') := by
 simp only [c6, hx, hy, hv, Option.map_some]

def cT (ops : Array Oper) (env : Env) : Option (Nat × Bool) → Option Bool
 | none => some true
 | some (j, want) => match (ops[j]?).bind (·.dst) with
  | none => some false
  | some d => match env d with
   | some (.bool b) => some (b == want)
   | some _ => some false
   | none => none

theorem kV {ops : Array Oper} {env : Env} {o : Oper} : dG ops env o = cT ops env o.guard := by
 unfold dG cT
 cases o.guard <;> rfl

end

def WS (P : Program) (G : Nat) (X : eQ) (n : Nat) (lt : Bool) (ops : Array Oper) (o : Oper) (env : Env) (h : aA) (K : Env → aA → (aA → Prop) → Prop) (F : List PanicEntry → aA → Prop) : Prop :=
 (∃ e, dG ops env o = some false ∧ gE n o.dst undef env = some e ∧ K e h fun _ => True) ∨
 (∃ v h' e S, dG ops env o = some true ∧ c6 P G env o h = some (.val v h') ∧ gE n o.dst v env = some e ∧ (∀ H, S H → c6 P G env o H = some (.val v H)) ∧ K e h' S) ∨
 (lt = false ∧ (
  (∃ h' e, dG ops env o = some true ∧ c6 P G env o h = some (.skip h') ∧ gE n o.dst undef env = some e ∧ K e h' fun _ => True) ∨
  (∃ f args, dG ops env o = some true ∧ c6 P G env o h = some (.enter f args) ∧ aS P G X f args h fun r => match r with
   | .ret v h' => ∃ e, gE n o.dst v env = some e ∧ K e h' fun _ => True
   | .panic ch h' => F ch h') ∨
  (∃ v, dG ops env o = some true ∧ c6 P G env o h = some (.panic v) ∧ F [{ v, recovered := false }] h)))

abbrev Pe := Nat × (aA → Prop) × Bool

inductive cV (P : Program) (G : Nat) : List Pe → List (gD × Bool) → Prop
 | nil : cV P G [] []
 | cons {i : Nat} {S : aA → Prop} {d : Bool} {q : gD} {l : List Pe} {r : List (gD × Bool)} : q.x.i = i → (∀ H, S H → q.y2 P G H) → cV P G l r → cV P G ((i, S, d) :: l) ((q, d) :: r)

def iO : List Pe → aA → Prop
 | [], _ => True
 | (_, S, true) :: r, h => S h ∧ iO r h
 | (_, _, false) :: r, h => iO r h

def uG : List Pe → List Pe
 | [] => []
 | (i, S, _) :: r => (i, S, true) :: uG r

def sA (iA : Nat) : List Pe → List Pe
 | [] => []
 | (i, S, b) :: r => if iA.testBit i then sA iA r else (i, S, b) :: sA iA r

def WD (P : Program) (G : Nat) (X : eQ) (n : Nat) (ops : Array Oper) (items : List cQ) (pend : List Pe) (env : Env) (h : aA) (N : Env → aA → Prop) (F : List PanicEntry → aA → Prop) : Prop :=
 ∀ pr, cV P G pend pr → ∃ k r, fE P G (bZ P G X k) n ops items pr env h = some r ∧ match r with
  | .ok e h => N e h
  | .panic ch h => F ch h

section
variable {P : Program} {G : Nat} {X : eQ} {n : Nat} {N : Env → aA → Prop} {E : Nat → Env → aA → Prop} {R : Env → aA → Prop} {F : List PanicEntry → aA → Prop} {env : Env} {h : aA}

theorem cV.clear {pend : List Pe} {pr : List (gD × Bool)} {h : aA} (hc : cV P G pend pr) (hs : iO pend h) : Clear P G pr h := by
 induction hc with
 | nil => intro p hp; cases hp
 | @cons i S d q l r hi hS hc ih =>
  intro p hp hd
  cases d with
  | true =>
   rcases List.mem_cons.1 hp with rfl | hp
   ·exact hS _ hs.1
   ·exact ih hs.2 p hp hd
  | false =>
   rcases List.mem_cons.1 hp with rfl | hp
   ·cases hd
   ·exact ih hs p hp hd

theorem cV.pM {pend : List Pe} {pr : List (gD × Bool)} (hc : cV P G pend pr) : cV P G (uG pend) (Go.Am.pM pr) := by
 induction hc with
 | nil => exact .nil
 | cons hi hS hc ih => exact .cons hi hS ih

theorem cV.dC {iA : Nat} {pend : List Pe} {pr : List (gD × Bool)} (hc : cV P G pend pr) : cV P G (sA iA pend) (pr.filter fun p => !iA.testBit p.1.x.i) := by
 induction hc with
 | nil => exact .nil
 | @cons i S d q l r hi hS hc ih =>
  unfold sA
  rw [List.filter_cons, hi]
  by_cases hb : iA.testBit i = true
  ·simp only [hb, if_true, Bool.not_true, Bool.false_eq_true, if_false]
   exact ih
  ·have hb' : iA.testBit i = false := by simpa using hb
   simp only [hb', Bool.false_eq_true, if_false, Bool.not_false, if_true]
   exact .cons hi hS ih

theorem cV.snoc {i : Nat} {S : aA → Prop} {d : Bool} {q : gD} (hi : q.x.i = i) (hS : ∀ H, S H → q.y2 P G H) {pend : List Pe} {pr : List (gD × Bool)} (hc : cV P G pend pr) : cV P G (pend ++ [(i, S, d)]) (pr ++ [(q, d)]) := by
 induction hc with
 | nil => exact .cons hi hS .nil
 | cons hi' hS' hc ih => exact .cons hi' hS' ih

theorem qI {dst : Option Tmp} {v : Value} {env e : Env} {K : Env → Prop} (hp : gE n dst v env = some e) (hk : K e) : rS n dst v env K := by
 unfold gE at hp
 unfold rS
 cases dst with
 | none => cases hp; exact hk
 | some d =>
  simp only at hp
  split at hp
  ·rename_i hd; cases hp; exact ⟨hd, hk⟩
  ·cases hp

theorem WR.cons {ops : Array Oper} {o : Oper} {l : List Oper} (hw : WS P G X n false ops o env h (fun e h _ => WR P G X n ops l e h N F) F) : WR P G X n ops (o :: l) env h N F := by
 unfold WR rR oW
 rcases hw with ⟨e, h1, h2, h3⟩ | ⟨v, h', e, S, h1, h2, h3, _, h4⟩ | ⟨_, ⟨h', e, h1, h2, h3, h4⟩ | ⟨f, args, h1, h2, h3⟩ | ⟨v, h1, h2, h3⟩⟩
 ·rw [h1]; exact qI h2 h3
 ·simp only [h1, h2]; exact qI h3 h4
 ·simp only [h1, h2]; exact qI h3 h4
 ·simp only [h1, h2]
  refine aS.mono h3 fun r hr => ?_
  cases r with
  | ret v h' => obtain ⟨e, he, hk⟩ := hr; exact qI he hk
  | panic ch h' => exact hr
 ·simp only [h1, h2]; exact h3

theorem WD.nil {ops : Array Oper} {pend : List Pe} (hc : iO pend h := by repeat (first | exact trivial | (apply iO.dC) | (apply iO.ask; (· first | exact trivial | exact aD)))) (hq : N env h) : WD P G X n ops [] pend env h N F := by
 intro pr hp
 exact ⟨0, _, by simp only [fE]; rw [if_pos (cV.clear hp hc)], hq⟩

theorem WD.pure {ops : Array Oper} {i iA : Nat} {o : Oper} {l : List cQ} {pend : List Pe} (ho : ops[i]? = some o := by rfl)
  (hw : WS P G X n true ops o env h (fun e h _ => WD P G X n ops l pend e h N F) F) : WD P G X n ops (⟨i, .pure, iA⟩ :: l) pend env h N F := by
 intro pr hp
 rcases hw with ⟨e, h1, h2, h3⟩ | ⟨v, h', e, S, h1, h2, h3, _, h4⟩ | ⟨hc, _⟩
 ·obtain ⟨k, r, hr, hq⟩ := h3 pr hp
  refine ⟨k, r, ?_, hq⟩
  simp only [fE, ho, fQ, h1, h2, Option.map_some]
  exact hr
 ·obtain ⟨k, r, hr, hq⟩ := h4 pr hp
  refine ⟨k, r, ?_, hq⟩
  simp only [fE, ho, fQ, h1, h2, h3, Option.map_some]
  exact hr
 ·cases hc

theorem WD.read {ops : Array Oper} {i iA : Nat} {o : Oper} {l : List cQ} {pend : List Pe} (ho : ops[i]? = some o := by rfl)
  (hw : WS P G X n true ops o env h (fun e h S => WD P G X n ops l (pend ++ [(i, S, false)]) e h N F) F) : WD P G X n ops (⟨i, .read, iA⟩ :: l) pend env h N F := by
 intro pr hp
 rcases hw with ⟨e, h1, h2, h3⟩ | ⟨v, h', e, S, h1, h2, h3, h5, h4⟩ | ⟨hc, _⟩
 ·obtain ⟨k, r, hr, hq⟩ := h3 (pr ++ [(⟨⟨i, .read, iA⟩, o, env, h, h, undef, false⟩, false)]) (cV.snoc (q := ⟨⟨i, .read, iA⟩, o, env, h, h, undef, false⟩) rfl (fun H _ => by intro hf; cases hf) hp)
  refine ⟨k, r, ?_, hq⟩
  simp only [fE, ho, fQ, h1, h2, Option.map_some]
  exact hr
 ·obtain ⟨k, r, hr, hq⟩ := h4 (pr ++ [(⟨⟨i, .read, iA⟩, o, env, h, h', v, true⟩, false)]) (cV.snoc (q := ⟨⟨i, .read, iA⟩, o, env, h, h', v, true⟩) rfl (fun H hS => by intro _; exact h5 H hS) hp)
  refine ⟨k, r, ?_, hq⟩
  simp only [fE, ho, fQ, h1, h2, h3, Option.map_some]
  exact hr
 ·cases hc

theorem WD.alloc {ops : Array Oper} {i iA : Nat} {o : Oper} {l : List cQ} {pend : List Pe} (ho : ops[i]? = some o := by rfl)
  (hw : WS P G X n true ops o env h (fun e h' _ => WD P G X n ops l (uG pend ++ [(i, fun H => H.obj h.next = h'.obj h.next, false)]) e h' N F) F) : WD P G X n ops (⟨i, .alloc, iA⟩ :: l) pend env h N F := by
 intro pr hp
 rcases hw with ⟨e, h1, h2, h3⟩ | ⟨v, h', e, S, h1, h2, h3, h5, h4⟩ | ⟨hc, _⟩
 ·obtain ⟨k, r, hr, hq⟩ := h3 (pM pr ++ [(⟨⟨i, .alloc, iA⟩, o, env, h, h, undef, false⟩, false)]) (cV.snoc (q := ⟨⟨i, .alloc, iA⟩, o, env, h, h, undef, false⟩) rfl (fun H _ => by intro hf; cases hf) (cV.pM hp))
  refine ⟨k, r, ?_, hq⟩
  simp only [fE, ho, fQ, h1, h2, Option.map_some]
  exact hr
 ·obtain ⟨k, r, hr, hq⟩ := h4 (pM pr ++ [(⟨⟨i, .alloc, iA⟩, o, env, h, h', v, true⟩, false)]) (cV.snoc (q := ⟨⟨i, .alloc, iA⟩, o, env, h, h', v, true⟩) rfl (fun H hS => by intro _; exact hS) (cV.pM hp))
  refine ⟨k, r, ?_, hq⟩
  simp only [fE, ho, fQ, h1, h2, h3, Option.map_some]
  exact hr
 ·cases hc

theorem WS.step {ops : Array Oper} {o : Oper} {K : Env → aA → (aA → Prop) → Prop} {lt : Bool} (hw : WS P G X n lt ops o env h K F) :
  ∃ k r, jD P G (bZ P G X k) n ops o env h = some r ∧ match r with | .ok e h' => ∃ S, K e h' S | .panic ch h' => F ch h' := by
 unfold jD
 rcases hw with ⟨e, h1, h2, h3⟩ | ⟨v, h', e, S, h1, h2, h3, _, h4⟩ | ⟨_, ⟨h', e, h1, h2, h3, h4⟩ | ⟨f, args, h1, h2, h3⟩ | ⟨v, h1, h2, h3⟩⟩
 ·exact ⟨0, .ok e h, by simp only [h1, h2, Option.map_some], _, h3⟩
 ·exact ⟨0, .ok e h', by simp only [h1, h2, h3, Option.map_some], _, h4⟩
 ·exact ⟨0, .ok e h', by simp only [h1, h2, h3, Option.map_some], _, h4⟩
 ·obtain ⟨k, r, hr, hq⟩ := aS.out h3
  cases r with
  | ret v h' => obtain ⟨e, he, hk⟩ := hq; exact ⟨k, .ok e h', by simp only [h1, h2, hr, he, Option.map_some], _, hk⟩
  | panic ch h' => exact ⟨k, .panic ch h', by simp only [h1, h2, hr], hq⟩
 ·exact ⟨0, .panic _ h, by simp only [h1, h2], h3⟩

theorem WD.aF (hX : bW X) {ops : Array Oper} {i iA : Nat} {o : Oper} {l : List cQ} {pend : List Pe} (ho : ops[i]? = some o := by rfl) (hc : iO pend h := by repeat (first | exact trivial | (apply iO.dC) | (apply iO.ask; (· first | exact trivial | exact aD))))
  (hw : WS P G X n false ops o env h (fun e h' _ => WD P G X n ops l (uG (sA iA pend)) e h' N F) F) : WD P G X n ops (⟨i, .aF, iA⟩ :: l) pend env h N F := by
 intro pr hp
 obtain ⟨k, r, hs, hr⟩ := WS.step hw
 cases r with
 | ok e h' =>
  obtain ⟨S, hr⟩ := hr
  obtain ⟨k2, r2, h2, hq⟩ := hr _ (cV.pM (cV.dC hp))
  refine ⟨max k k2, r2, ?_, hq⟩
  simp only [fE, ho]
  rw [if_pos (cV.clear hp hc), n6 (cR hX (Nat.le_max_left k k2)) hs]
  exact l9 (cR hX (Nat.le_max_right k k2)) l h2
 | panic ch h' =>
  refine ⟨k, .panic ch h', ?_, hr⟩
  simp only [fE, ho]
  rw [if_pos (cV.clear hp hc), hs]

theorem WC.drawn (hX : bW X) {id : Nat} {ops : Array Oper} {l : List cQ} (hp : aK0 P ops = some l := by decide +kernel) (hw : WD P G X n ops l [] env h N F) : WC P G X n (.region id ops true) env h N E R F := by
 obtain ⟨k, r, hr, hq⟩ := hw [] .nil
 have hreg : lO P G (bZ P G X (k + 1)) n ops true env h = some r := by
  unfold lO aAv
  simp only [if_true, hp]
  exact l9 (cR hX (Nat.le_succ k)) l hr
 cases r with
 | ok e h' => exact ⟨k + 1, .normal, e, h', by simp only [exec, hreg], hq⟩
 | panic ch h' => exact ⟨k + 1, .panic ch, env, h', by simp only [exec, hreg], hq⟩

theorem WS.val {lt : Bool} {ops : Array Oper} {op : Op} {d t p a g} {v : Value} {h' : aA} {K : Env → aA → (aA → Prop) → Prop} (S : aA → Prop) (hg : cT ops env g = some true) (hn : Nat.blt d n = true) (ho : c6 P G env ⟨some d, op, t, p, a, g⟩ h = some (.val v h'))
  (hS : ∀ H, S H → c6 P G env ⟨some d, op, t, p, a, g⟩ H = some (.val v H)) (hk : K (bL env d v) h' S) : WS P G X n lt ops ⟨some d, op, t, p, a, g⟩ env h K F :=
 .inr (.inl ⟨v, h', _, S, kV.trans hg, ho, if_pos (by simpa [Nat.blt_eq] using hn), hS, hk⟩)

theorem WS.same {lt : Bool} {ops : Array Oper} {op : Op} {d t p a g} {v : Value} {K : Env → aA → (aA → Prop) → Prop} (hg : cT ops env g = some true) (hn : Nat.blt d n = true) (ho : ∀ h, c6 P G env ⟨some d, op, t, p, a, g⟩ h = some (.val v h))
  (hk : K (bL env d v) h fun _ => True) : WS P G X n lt ops ⟨some d, op, t, p, a, g⟩ env h K F := WS.val _ hg hn (ho h) (fun H _ => ho H) hk

theorem WS.uw {lt : Bool} {ops : Array Oper} {op : Op} {d t p a g} {K : Env → aA → (aA → Prop) → Prop} (hg : cT ops env (some g) = some false := by rfl) (hn : Nat.blt d n = true := by rfl)
  (hk : K (bL env d undef) h fun _ => True) : WS P G X n lt ops ⟨some d, op, t, p, a, some g⟩ env h K F := .inl ⟨_, kV.trans hg, if_pos (by simpa [Nat.blt_eq] using hn), hk⟩
theorem WS.skip {ops : Array Oper} {op : Op} {t p a g} {h' : aA} {K : Env → aA → (aA → Prop) → Prop} (hg : cT ops env g = some true) (ho : c6 P G env ⟨none, op, t, p, a, g⟩ h = some (.skip h'))
  (hk : K env h' fun _ => True) : WS P G X n false ops ⟨none, op, t, p, a, g⟩ env h K F := .inr (.inr ⟨rfl, .inl ⟨h', _, kV.trans hg, ho, rfl, hk⟩⟩)
theorem WS.enter {ops : Array Oper} {op : Op} {d t p a g} {f : FuncId} {args : List Value} {K : Env → aA → (aA → Prop) → Prop} (hg : cT ops env g = some true) (hn : Nat.blt d n = true) (ho : c6 P G env ⟨some d, op, t, p, a, g⟩ h = some (.enter f args))
  (hk : aS P G X f args h fun r => match r with | .ret v h' => K (bL env d v) h' (fun _ => True) | .panic ch h' => F ch h') : WS P G X n false ops ⟨some d, op, t, p, a, g⟩ env h K F := by
 refine .inr (.inr ⟨rfl, .inr (.inl ⟨f, args, kV.trans hg, ho, aS.mono hk fun r hr => ?_⟩)⟩)
 cases r with
 | ret v h' => exact ⟨_, if_pos (by simpa [Nat.blt_eq] using hn), hr⟩
 | panic ch h' => exact hr
theorem WS.panic {ops : Array Oper} {op : Op} {d t p a g} {v : Value} {K : Env → aA → (aA → Prop) → Prop} (hg : cT ops env g = some true) (ho : c6 P G env ⟨d, op, t, p, a, g⟩ h = some (.panic v))
  (hk : F [{ v, recovered := false }] h) : WS P G X n false ops ⟨d, op, t, p, a, g⟩ env h K F := .inr (.inr ⟨rfl, .inr (.inr ⟨v, kV.trans hg, ho, hk⟩)⟩)

theorem WS.xW {lt : Bool} {ops : Array Oper} {op : Op} {d t q a g} {p : Prop} [Decidable p] {K : Env → aA → (aA → Prop) → Prop} (hg : cT ops env g = some true) (hn : Nat.blt d n = true) (ho : ∀ h, c6 P G env ⟨some d, op, t, q, a, g⟩ h = some (.val (.bool (decide p)) h))
  (h1 : p → K (bL env d (.bool true)) h fun _ => True) (h2 : ¬p → K (bL env d (.bool false)) h fun _ => True) : WS P G X n lt ops ⟨some d, op, t, q, a, g⟩ env h K F := by
 by_cases hp : p
 ·refine WS.same hg hn (v := .bool true) (fun h => ?_) (h1 hp)
  rw [ho h, decide_eq_true hp]
 ·refine WS.same hg hn (v := .bool false) (fun h => ?_) (h2 hp)
  rw [ho h, decide_eq_false hp]
theorem WS.aOn {lt : Bool} {ops : Array Oper} {op : Op} {d t q a g} {b : Bool} {K : Env → aA → (aA → Prop) → Prop} (hg : cT ops env g = some true) (hn : Nat.blt d n = true) (ho : ∀ h, c6 P G env ⟨some d, op, t, q, a, g⟩ h = some (.val (.bool b) h))
  (h1 : b = true → K (bL env d (.bool true)) h fun _ => True) (h2 : b = false → K (bL env d (.bool false)) h fun _ => True) : WS P G X n lt ops ⟨some d, op, t, q, a, g⟩ env h K F := by
 cases b
 ·exact WS.same hg hn ho (h2 rfl)
 ·exact WS.same hg hn ho (h1 rfl)

attribute [irreducible] WC WR WD WS

end
end Go.Am
end

section
namespace Go.Am
set_option linter.unusedVariables false
set_option linter.unusedSimpArgs false
open Go.RowKit (Below)

section
variable {P : Program} {G : Nat} {X : eQ} {n : Nat} {F : List PanicEntry → aA → Prop} {env : Env} {h : aA} {lt : Bool} {ops : Array Oper} {d : Nat} {t : TypeId} {p : String} {a : Array Edge} {g : Option (Nat × Bool)} {K : Env → aA → (aA → Prop) → Prop}

theorem bC {x : Operand} {xs : List Operand} {v : Value} {vs : List Value} (hx : aJ G env x = some v) (hl : bO G env xs = some vs) : bO G env (x :: xs) = some (v :: vs) := by simp only [bO, hx, hl]

def dB : List Value → Option (List Value)
 | [] => some []
 | a :: l => match dB l with
  | some l' => some (a :: l')
  | none => none

theorem eO : ∀ {l l' : List Value}, dB l = some l' → l = l'
 | [], l', h => by simp [dB] at h; exact h.symm
 | a :: l, l', h => by
  unfold dB at h
  split at h
  ·rename_i l2 h2
   simp at h; subst h
   rw [eO h2]
  ·cases h

def q3 : Value → Option Value
 | .agg cs => match dB cs.toList with
  | some l => some (.agg (List.toArray l))
  | none => none
 | .bool b => some (.bool b)
 | .int k n => some (.int k n)
 | .string s => some (.string s)
 | .pointer a => some (.pointer a)
 | .slice a n c => some (.slice a n c)
 | .iface t v => some (.iface t v)
 | .nilIface => some .nilIface
 | .nilFunc => some .nilFunc
 | .map m => some (.map m)
 | .func f a b => some (.func f a b)
 | .tuple cs => match dB cs.toList with
  | some l => some (.tuple (List.toArray l))
  | none => none
 | _ => none

theorem wZ {v v' : Value} (h : q3 v = some v') : v = v' := by
 unfold q3 at h
 split at h
 case h_1 cs =>
  split at h
  ·rename_i l hl
   simp at h; subst h
   rw [← eO hl]
  ·cases h
 case h_12 cs =>
  split at h
  ·rename_i l hl
   simp at h; subst h
   rw [← eO hl]
  ·cases h
 all_goals first | (cases h; done) | (simp at h; exact h)

def kA (P : Program) (t : TypeId) : List (Option Nat) :=
 match P.underlying t with
 | some (.struct fields) => fields.toList.map fun fd => match dF P fd.type with
  | some (_ + 1) => some fd.offset
  | _ => none
 | _ => []

theorem x0 {ty : TypeId} {f o i off : Nat} (h : (kA P ty)[f]? = some (some o)) : j8 P ty (.pointer (some ⟨i, off, none⟩)) f = some (.pointer (some ⟨i, off + o, none⟩)) := by
 unfold kA at h
 unfold j8
 split at h
 ·rename_i fields hu
  simp only [hu]
  rw [List.getElem?_map] at h
  have hf : fields[f]? = fields.toList[f]? := by simp
  rw [hf]
  cases hq : fields.toList[f]? with
  | none => rw [hq] at h; cases h
  | some fd =>
   rw [hq] at h
   simp only [Option.map_some, Option.some.injEq] at h
   split at h
   ·rename_i m hm
    simp only [Option.some.injEq] at h
    subst h
    simp only [hm]
    rw [if_neg (Nat.succ_ne_zero m)]
   ·cases h
 ·simp at h

theorem WS.move {x : Operand} {v : Value} (hg : cT ops env g = some true := by rfl) (hn : Nat.blt d n = true := by rfl) (hx : aJ G env x = some v := by first | rfl | assumption)
  (hk : K (bL env d v) h fun _ => True) : WS P G X n lt ops ⟨some d, .move x, t, p, a, g⟩ env h K F := WS.same hg hn (fun h => aIb hx) hk
theorem WS.assign {x : Operand} {v : Value} (hg : cT ops env g = some true := by rfl) (hn : Nat.blt d n = true := by rfl) (hx : aJ G env x = some v := by first | rfl | assumption)
  (hk : K (bL env d v) h fun _ => True) : WS P G X n lt ops ⟨some d, .assign x, t, p, a, g⟩ env h K F := WS.same hg hn (fun h => aDg hx) hk
theorem WS.aL8 {c x y : Operand} {v : Value} (hg : cT ops env g = some true := by rfl) (hn : Nat.blt d n = true := by rfl) (hc : aJ G env c = some (.bool true) := by first | rfl | assumption)(hx : aJ G env x = some v := by first | rfl | assumption)
  (hk : K (bL env d v) h fun _ => True) : WS P G X n lt ops ⟨some d, .pick c x y, t, p, a, g⟩ env h K F := WS.same hg hn (fun h => aFm hc hx) hk
theorem WS.aL7 {c x y : Operand} {v : Value} (hg : cT ops env g = some true := by rfl) (hn : Nat.blt d n = true := by rfl) (hc : aJ G env c = some (.bool false) := by first | rfl | assumption)(hy : aJ G env y = some v := by first | rfl | assumption)
  (hk : K (bL env d v) h fun _ => True) : WS P G X n lt ops ⟨some d, .pick c x y, t, p, a, g⟩ env h K F := WS.same hg hn (fun h => aFl hc hy) hk
theorem WS.not {ty : TypeId} {x : Operand} {b : Bool} (hg : cT ops env g = some true := by rfl) (hn : Nat.blt d n = true := by rfl) (hx : aJ G env x = some (.bool b) := by first | rfl | assumption)
  (hk : K (bL env d (.bool !b)) h fun _ => True) : WS P G X n lt ops ⟨some d, .unOp .not ty x, t, p, a, g⟩ env h K F := WS.same hg hn (fun h => aKy hx) hk
theorem WS.aOk {ty : TypeId} {x y : Operand} {c} {i j : Int} (hg : cT ops env g = some true := by rfl) (hn : Nat.blt d n = true := by rfl) (hx : aJ G env x = some (.int .i64 i) := by first | rfl | assumption)(hy : aJ G env y = some (.int .i64 j) := by first | rfl | assumption)(hr : -9223372036854775808 ≤ i + j ∧ i + j ≤ 9223372036854775807 := by omega)
  (hk : K (bL env d (.int .i64 (i + j))) h fun _ => True) : WS P G X n lt ops ⟨some d, .binOp .add ty x y c, t, p, a, g⟩ env h K F := WS.same hg hn (fun h => aH8 hx hy hr) hk
theorem WS.aQa {ty : TypeId} {x y : Operand} {c} {i j : Int} (hg : cT ops env g = some true := by rfl) (hn : Nat.blt d n = true := by rfl) (hx : aJ G env x = some (.int .i64 i) := by first | rfl | assumption)(hy : aJ G env y = some (.int .i64 j) := by first | rfl | assumption)(hr : -9223372036854775808 ≤ i - j ∧ i - j ≤ 9223372036854775807 := by omega)
  (hk : K (bL env d (.int .i64 (i - j))) h fun _ => True) : WS P G X n lt ops ⟨some d, .binOp .sub ty x y c, t, p, a, g⟩ env h K F := WS.same hg hn (fun h => aId hx hy hr) hk
theorem WS.aNf {ty : TypeId} {x y : Operand} {c} {i j : Int} (hg : cT ops env g = some true := by rfl) (hn : Nat.blt d n = true := by rfl) (hx : aJ G env x = some (.int .i64 i) := by first | rfl | assumption)(hy : aJ G env y = some (.int .i64 j) := by first | rfl | assumption)(hr : -9223372036854775808 ≤ i * j ∧ i * j ≤ 9223372036854775807 := by omega)
  (hk : K (bL env d (.int .i64 (i * j))) h fun _ => True) : WS P G X n lt ops ⟨some d, .binOp .mul ty x y c, t, p, a, g⟩ env h K F := WS.same hg hn (fun h => aIc hx hy hr) hk
theorem aBi (a : Array UInt8) : (ByteArray.mk a).size = a.size := rfl
theorem WS.aQk {ty : TypeId} {x y : Operand} {c} {i j : ByteArray} (hg : cT ops env g = some true := by rfl) (hn : Nat.blt d n = true := by rfl) (hx : aJ G env x = some (.string i) := by first | rfl | assumption)(hy : aJ G env y = some (.string j) := by first | rfl | assumption)(hs : i.size + j.size ≤ 140737488355328 := by first | omega | ((try simp only [ByteArray.size_append, aBi, List.size_toArray, List.length_cons, List.length_nil]); omega))
  (hk : K (bL env d (.string (i ++ j))) h fun _ => True) : WS P G X n lt ops ⟨some d, .binOp .add ty x y c, t, p, a, g⟩ env h K F := WS.same hg hn (fun h => aH9 hx hy hs) hk
theorem WS.bin {op : BinOp} {ty : TypeId} {x y : Operand} {c} {u w v : Value} (hg : cT ops env g = some true) (hn : Nat.blt d n = true) (hx : aJ G env x = some u)(hy : aJ G env y = some w)(hq : o0 P op ty x y u w = true) (hv : nL P op ty u w = some v)
  (hk : K (bL env d v) h fun _ => True) : WS P G X n lt ops ⟨some d, .binOp op ty x y c, t, p, a, g⟩ env h K F := WS.same hg hn (fun h => by simp only [c6, hx, hy, hq, if_true, hv, Option.map_some]) hk
theorem WS.nilCheck {x : Operand} {q : Addr} (hg : cT ops env g = some true := by rfl) (hn : Nat.blt d n = true := by rfl) (hx : aJ G env x = some (.pointer (some q)) := by first | rfl | assumption)
  (hk : K (bL env d (.pointer (some q))) h fun _ => True) : WS P G X n lt ops ⟨some d, .nilCheck x, t, p, a, g⟩ env h K F := WS.same hg hn (fun h => by simp only [c6, hx, nW, Option.map_some]) hk
theorem WS.fieldAddr {ty : TypeId} {x : Operand} {f : Nat} {i off o : Nat} (hg : cT ops env g = some true := by rfl) (hn : Nat.blt d n = true := by rfl) (hx : aJ G env x = some (.pointer (some ⟨i, off, none⟩)) := by first | rfl | assumption) (hv : (kA P ty)[f]? = some (some o) := by exact zQ rfl rfl)
  (hk : K (bL env d (.pointer (some ⟨i, off + o, none⟩))) h fun _ => True) : WS P G X n lt ops ⟨some d, .fieldAddr ty x f, t, p, a, g⟩ env h K F := WS.same hg hn (fun h => by simp only [c6, hx, x0 hv, Option.map_some]) hk
theorem WS.field {ty : TypeId} {x : Operand} {f : Nat} {u v0 v : Value} (hg : cT ops env g = some true := by rfl) (hn : Nat.blt d n = true := by rfl) (hx : aJ G env x = some u := by first | rfl | assumption)(hv0 : rD P ty u f = some v0 := by rfl) (hf : q3 v0 = some v := by rfl)
  (hk : K (bL env d v) h fun _ => True) : WS P G X n lt ops ⟨some d, .field ty x f, t, p, a, g⟩ env h K F := WS.same hg hn (fun h => by cases wZ hf; simp only [c6, hx, hv0, Option.map_some]) hk
theorem WS.indexAddr {ty : TypeId} {x y : Operand} {e : TypeId} {i off len es : Nat} {k : Int} {q} (hg : cT ops env g = some true := by rfl) (hn : Nat.blt d n = true := by rfl) (hx : aJ G env x = some (.slice (some ⟨i, off, none⟩) len es) := by first | rfl | assumption)(hy : aJ G env y = some (.int q k) := by first | rfl | assumption)(hu : P.underlying ty = some (.slice e) := by rfl) (hs : dF P e = some es := by exact fF rfl) (hb : 0 ≤ k ∧ k < len := by omega)
  (hk : K (bL env d (.pointer (some ⟨i, off + k.toNat * es, none⟩))) h fun _ => True) : WS P G X n lt ops ⟨some d, .indexAddr ty x y, t, p, a, g⟩ env h K F := WS.same hg hn (fun h => by simp only [c6, hx, hy, kB, hu, hs]; rw [if_pos (by simp [hb.1, hb.2])]; rfl) hk
theorem WS.eC {ty : TypeId} {x y : Operand} {e : TypeId} {i off len es : Nat} {k : Int} {q} (hg : cT ops env g = some true := by rfl) (hn : Nat.blt d n = true := by rfl) (hx : aJ G env x = some (.pointer (some ⟨i, off, none⟩)) := by first | rfl | assumption)(hy : aJ G env y = some (.int q k) := by first | rfl | assumption)(hu : P.underlying ty = some (.array len e) := by rfl) (hs : dF P e = some es := by exact fF rfl) (hb : 0 ≤ k ∧ k < len := by omega)
  (hk : K (bL env d (.pointer (some ⟨i, off + k.toNat * es, none⟩))) h fun _ => True) : WS P G X n lt ops ⟨some d, .indexAddr ty x y, t, p, a, g⟩ env h K F := WS.same hg hn (fun h => by simp only [c6, hx, hy, kB, hu, hs]; rw [if_pos (by simp [hb.1, hb.2])]; rfl) hk

def bD (s : ByteArray) (k : Int) : Int := (s.data.toList.getD k.toNat 0).toNat

theorem aGs {s : ByteArray} {k : Int} (hb : 0 ≤ k ∧ k < s.size) : ∃ b : UInt8, s[k.toNat]? = some b ∧ bD s k = b.toNat := by
 have hk : k.toNat < s.size := by omega
 refine ⟨s[k.toNat], by simp [hk], ?_⟩
 unfold bD
 rw [List.getD_eq_getElem?_getD]
 have : s.data.toList[k.toNat]? = some s[k.toNat] := by
  rw [List.getElem?_eq_getElem (by simpa using hk)]
  rfl
 rw [this]; rfl

theorem aAj (s : ByteArray) (k : Int) : 0 ≤ bD s k ∧ bD s k ≤ 255 := by
 unfold bD
 have := (s.data.toList.getD k.toNat 0).toNat_lt
 omega

theorem WS.aHl {ty : TypeId} {x y : Operand} {s : ByteArray} {k : Int} {q} (hg : cT ops env g = some true := by rfl) (hn : Nat.blt d n = true := by rfl) (hx : aJ G env x = some (.string s) := by first | rfl | assumption)(hy : aJ G env y = some (.int q k) := by first | rfl | assumption)(hu : P.underlying ty = some .string := by rfl) (hb : 0 ≤ k ∧ k < s.size := by omega)
  (hk : K (bL env d (.int .u8 (bD s k))) h fun _ => True) : WS P G X n lt ops ⟨some d, .index ty x y, t, p, a, g⟩ env h K F := WS.same hg hn (fun h => by obtain ⟨b, h1, h2⟩ := aGs hb; simp only [c6, hx, hy, tG, hu]; rw [if_pos hb.1, h1, h2]; rfl) hk
theorem WS.index {ty : TypeId} {x y : Operand} {u w v : Value} (hg : cT ops env g = some true) (hn : Nat.blt d n = true) (hx : aJ G env x = some u)(hy : aJ G env y = some w)(hv : tG P ty u w = some v)
  (hk : K (bL env d v) h fun _ => True) : WS P G X n lt ops ⟨some d, .index ty x y, t, p, a, g⟩ env h K F := WS.same hg hn (fun h => by simp only [c6, hx, hy, hv, Option.map_some]) hk
def jG (s : ByteArray) (l r : Int) : ByteArray := s.extract l.toNat r.toNat
theorem vB (s : ByteArray) (l r : Int) : jG s l r = s.extract l.toNat r.toNat := rfl
theorem lQ {s : ByteArray} {l r : Int} (h : 0 ≤ l ∧ l ≤ r ∧ r ≤ s.size) : ((jG s l r).size : Int) = r - l := by
 unfold jG; rw [ByteArray.size_extract]; omega

theorem WS.aIx {ty : TypeId} {x lo hi : Operand} {s : ByteArray} {l r : Int} {q q2} (hg : cT ops env g = some true := by rfl) (hn : Nat.blt d n = true := by rfl) (hx : aJ G env x = some (.string s) := by first | rfl | assumption)(hlo : aJ G env lo = some (.int q l) := by first | rfl | assumption)(hhi : aJ G env hi = some (.int q2 r) := by first | rfl | assumption)(hu : P.underlying ty = some .string := by rfl) (hb : 0 ≤ l ∧ l ≤ r ∧ r ≤ s.size := by omega)
  (hk : K (bL env d (.string (jG s l r))) h fun _ => True) : WS P G X n lt ops ⟨some d, .slice ty x (some lo) (some hi) none, t, p, a, g⟩ env h K F := WS.same hg hn (fun h => by simp only [c6, hx, bO, hlo, hhi, iB, hu, jM, Option.toList, List.head?_cons]; rw [if_pos (by simp; omega)]; simp only []; rw [if_pos (by simp; omega)]; rfl) hk
theorem WS.xC {ty : TypeId} {x lo : Operand} {s : ByteArray} {l : Int} {q} (hg : cT ops env g = some true := by rfl) (hn : Nat.blt d n = true := by rfl) (hx : aJ G env x = some (.string s) := by first | rfl | assumption)(hlo : aJ G env lo = some (.int q l) := by first | rfl | assumption)(hu : P.underlying ty = some .string := by rfl) (hb : 0 ≤ l ∧ l ≤ s.size := by omega)
  (hk : K (bL env d (.string (jG s l s.size))) h fun _ => True) : WS P G X n lt ops ⟨some d, .slice ty x (some lo) none none, t, p, a, g⟩ env h K F := WS.same hg hn (fun h => by simp only [c6, hx, bO, hlo, iB, hu, jM, Option.toList, List.head?_cons, List.head?_nil]; rw [if_pos (by simp; omega)]; rfl) hk
theorem WS.sY {ty : TypeId} {x hi : Operand} {s : ByteArray} {r : Int} {q} (hg : cT ops env g = some true := by rfl) (hn : Nat.blt d n = true := by rfl) (hx : aJ G env x = some (.string s) := by first | rfl | assumption)(hhi : aJ G env hi = some (.int q r) := by first | rfl | assumption)(hu : P.underlying ty = some .string := by rfl) (hb : 0 ≤ r ∧ r ≤ s.size := by omega)
  (hk : K (bL env d (.string (jG s 0 r))) h fun _ => True) : WS P G X n lt ops ⟨some d, .slice ty x none (some hi) none, t, p, a, g⟩ env h K F := WS.same hg hn (fun h => by simp only [c6, hx, bO, hhi, iB, hu, jM, Option.toList, List.head?_cons, List.head?_nil]; rw [if_pos (by simp; omega)]; rfl) hk
theorem WS.slice {ty : TypeId} {x : Operand} {lo hi : Option Operand} {u v : Value} {l r : List Value} (hg : cT ops env g = some true) (hn : Nat.blt d n = true) (hx : aJ G env x = some u)(hl : bO G env lo.toList = some l) (hh : bO G env hi.toList = some r) (hv : iB P ty u l.head? r.head? = some v)
  (hk : K (bL env d v) h fun _ => True) : WS P G X n lt ops ⟨some d, .slice ty x lo hi none, t, p, a, g⟩ env h K F := WS.same hg hn (fun h => by simp only [c6, hx, hl, hh, hv, Option.map_some]) hk
theorem WS.build {ty : TypeId} {parts} {ps} {v0 v : Value} (hg : cT ops env g = some true := by rfl) (hn : Nat.blt d n = true := by rfl) (hp : c9 G env parts.toList = some ps := by rfl) (hv0 : q9 P ty ps = some v0 := by rfl) (hf : q3 v0 = some v := by rfl)
  (hk : K (bL env d v) h fun _ => True) : WS P G X n lt ops ⟨some d, .build ty parts, t, p, a, g⟩ env h K F := WS.same hg hn (fun h => by cases wZ hf; simp only [c6, hp, hv0, Option.map_some]) hk
theorem WS.iface {ty : TypeId} {x : Operand} {v : Value} {u} (hg : cT ops env g = some true := by rfl) (hn : Nat.blt d n = true := by rfl) (hx : aJ G env x = some v := by first | rfl | assumption)(hu : P.underlying ty = some u := by rfl) (hi : ∀ m, u ≠ .interface m := by (intro m hm; cases hm))
  (hk : K (bL env d (.iface ty v)) h fun _ => True) : WS P G X n lt ops ⟨some d, .makeInterface ty x, t, p, a, g⟩ env h K F := WS.same hg hn (fun h => by cases u <;> first | exact (hi _ rfl).elim | simp only [c6, hx, hu]) hk
theorem WS.makeFunc {fn : Fn} {first cap : Array Operand} {f c} (hg : cT ops env g = some true := by rfl) (hn : Nat.blt d n = true := by rfl) (hf : bO G env first.toList = some f := by first | rfl | exact bC (by first | rfl | assumption) rfl | exact bC (by first | rfl | assumption) (bC (by first | rfl | assumption) rfl) | exact bC (by first | rfl | assumption) (bC (by first | rfl | assumption) (bC (by first | rfl | assumption) rfl))) (hc : bO G env cap.toList = some c := by first | rfl | exact bC (by first | rfl | assumption) rfl | exact bC (by first | rfl | assumption) (bC (by first | rfl | assumption) rfl) | exact bC (by first | rfl | assumption) (bC (by first | rfl | assumption) (bC (by first | rfl | assumption) rfl)))
  (hk : K (bL env d (.func fn f.toArray c.toArray)) h fun _ => True) : WS P G X n lt ops ⟨some d, .makeFunc fn first cap, t, p, a, g⟩ env h K F := WS.same hg hn (fun h => by simp only [c6, hf, hc]) hk
theorem WS.aHc {x : Operand} {i : Nat} {vs : Array Value} {v0 v : Value} (hg : cT ops env g = some true := by rfl) (hn : Nat.blt d n = true := by rfl) (hx : aJ G env x = some (.tuple vs) := by first | rfl | assumption) (hv : vs[i]? = some v0 := by rfl) (hf : q3 v0 = some v := by rfl)
  (hk : K (bL env d v) h fun _ => True) : WS P G X n lt ops ⟨some d, .extract x i, t, p, a, g⟩ env h K F := WS.same hg hn (fun h => by cases wZ hf; simp only [c6, hx, hv, Option.map_some]) hk
theorem WS.extract {x : Operand} {i : Nat} {vs : Array Value} {v : Value} (hg : cT ops env g = some true := by rfl) (hn : Nat.blt d n = true := by rfl) (hx : aJ G env x = some (.tuple vs) := by first | rfl | assumption)(hv : vs[i]? = some v := by rfl)
  (hk : K (bL env d v) h fun _ => True) : WS P G X n lt ops ⟨some d, .extract x i, t, p, a, g⟩ env h K F := WS.same hg hn (fun h => by simp only [c6, hx, hv, Option.map_some]) hk
theorem WS.aP2 {ty : TypeId} {x : Operand} {s : ByteArray} (hg : cT ops env g = some true := by rfl) (hn : Nat.blt d n = true := by rfl) (hx : aJ G env x = some (.string s) := by first | rfl | assumption)(hu : P.underlying ty = some .string := by rfl)
  (hk : K (bL env d (.int .i64 s.size)) h fun _ => True) : WS P G X n lt ops ⟨some d, .call ⟨.builtin .len, #[x], #[ty]⟩, t, p, a, g⟩ env h K F := WS.same hg hn (fun h => by simp only [c6, iF, bO, hx, aFc, hu, List.getElem?_toArray, List.getElem?_cons_zero, Option.map_some]) hk
theorem WS.aP1 {ty e : TypeId} {x : Operand} {b} {m es : Nat} (hg : cT ops env g = some true := by rfl) (hn : Nat.blt d n = true := by rfl) (hx : aJ G env x = some (.slice b m es) := by first | rfl | assumption)(hu : P.underlying ty = some (.slice e) := by rfl)
  (hk : K (bL env d (.int .i64 m)) h fun _ => True) : WS P G X n lt ops ⟨some d, .call ⟨.builtin .len, #[x], #[ty]⟩, t, p, a, g⟩ env h K F := WS.same hg hn (fun h => by simp only [c6, iF, bO, hx, aFc, hu, List.getElem?_toArray, List.getElem?_cons_zero, Option.map_some]) hk
theorem WS.max {tys} {x y : Operand} {k k2 : IntKind} {i j : Int} (hg : cT ops env g = some true := by rfl) (hn : Nat.blt d n = true := by rfl) (hx : aJ G env x = some (.int k i) := by first | rfl | assumption)(hy : aJ G env y = some (.int k2 j) := by first | rfl | assumption)
  (hk : K (bL env d (.int k (if j > i then j else i))) h fun _ => True) : WS P G X n lt ops ⟨some d, .call ⟨.builtin .max, #[x, y], tys⟩, t, p, a, g⟩ env h K F := WS.same hg hn (fun h => by simp only [c6, iF, bO, hx, hy, aBm, if_true, Option.map_some]) hk
theorem WS.min {tys} {x y : Operand} {k k2 : IntKind} {i j : Int} (hg : cT ops env g = some true := by rfl) (hn : Nat.blt d n = true := by rfl) (hx : aJ G env x = some (.int k i) := by first | rfl | assumption)(hy : aJ G env y = some (.int k2 j) := by first | rfl | assumption)
  (hk : K (bL env d (.int k (if j < i then j else i))) h fun _ => True) : WS P G X n lt ops ⟨some d, .call ⟨.builtin .min, #[x, y], tys⟩, t, p, a, g⟩ env h K F := WS.same hg hn (fun h => by simp only [c6, iF, bO, hx, hy, aBm, Bool.false_eq_true, if_false, Option.map_some]) hk
theorem WS.aOs {ty ty2 : TypeId} {x : Operand} {k k2 : IntKind} {i : Int} {u} (hg : cT ops env g = some true := by rfl) (hn : Nat.blt d n = true := by rfl) (hx : aJ G env x = some (.int k2 i) := by first | rfl | assumption)(hu : P.underlying ty = some u := by rfl) (hu2 : P.underlying ty2 = some (.int k) := by rfl) (hr : k.wrap i = i := by first | (rw [IntKind.wrap_i64]; omega) | (rw [IntKind.wrap_u8]; omega) | (rw [IntKind.wrap_u64]; omega))
  (hk : K (bL env d (.int k i)) h fun _ => True) : WS P G X n lt ops ⟨some d, .convert ty ty2 x, t, p, a, g⟩ env h K F := WS.same hg hn (fun h => by simp only [c6, hx, iG, hu, hu2, hr, Option.map_some]) hk
theorem WS.aRc {ty : TypeId} {x y : Operand} {c} {k : IntKind} {i j : Int} (hg : cT ops env g = some true := by rfl) (hn : Nat.blt d n = true := by rfl) (hx : aJ G env x = some (.int k i) := by first | rfl | assumption)(hy : aJ G env y = some (.int k j) := by first | rfl | assumption)(hr : k.wrap (i - j) = i - j := by first | (rw [IntKind.wrap_i64]; omega) | (rw [IntKind.wrap_u8]; omega) | (rw [IntKind.wrap_u64]; omega))
  (hk : K (bL env d (.int k (i - j))) h fun _ => True) : WS P G X n lt ops ⟨some d, .binOp .sub ty x y c, t, p, a, g⟩ env h K F := WS.same hg hn (fun h => kJ hx hy (by simp [nL, jQ, hr])) hk
theorem WS.bytesOf {ty ty2 e : TypeId} {x : Operand} {s : ByteArray} {u} (hg : cT ops env g = some true := by rfl) (hn : Nat.blt d n = true := by rfl) (hx : aJ G env x = some (.string s) := by first | rfl | assumption) (hu : P.underlying ty = some u := by rfl) (hu2 : P.underlying ty2 = some (.slice e) := by rfl) (hu3 : P.underlying e = some (.int .u8) := by rfl)
  (hk : K (bL env d (.slice (some ⟨h.next, 0, none⟩) s.size 1)) (h.alloc (.cells false (s.data.toList.map fun b => Value.int .u8 b.toNat))) fun _ => False) : WS P G X n lt ops ⟨some d, .convert ty ty2 x, t, p, a, g⟩ env h K F :=
 WS.val _ hg hn (by simp only [c6, hx, iG, hu, hu2, hu3, Option.map_some]) (fun _ hf => hf.elim) hk
theorem WS.eqI {ty : TypeId} {x y : Operand} {c} {k : IntKind} {i j : Int} (hg : cT ops env g = some true := by rfl) (hn : Nat.blt d n = true := by rfl) (hx : aJ G env x = some (.int k i) := by first | rfl | assumption) (hy : aJ G env y = some (.int k j) := by first | rfl | assumption)
  (h1 : i = j → K (bL env d (.bool true)) h fun _ => True) (h2 : ¬(i = j) → K (bL env d (.bool false)) h fun _ => True) : WS P G X n lt ops ⟨some d, .binOp .eql ty x y c, t, p, a, g⟩ env h K F := WS.xW hg hn (fun h => aKq hx hy) h1 h2
theorem WS.neI {ty : TypeId} {x y : Operand} {c} {k : IntKind} {i j : Int} (hg : cT ops env g = some true := by rfl) (hn : Nat.blt d n = true := by rfl) (hx : aJ G env x = some (.int k i) := by first | rfl | assumption) (hy : aJ G env y = some (.int k j) := by first | rfl | assumption)
  (h1 : i ≠ j → K (bL env d (.bool true)) h fun _ => True) (h2 : ¬(i ≠ j) → K (bL env d (.bool false)) h fun _ => True) : WS P G X n lt ops ⟨some d, .binOp .neq ty x y c, t, p, a, g⟩ env h K F := WS.xW hg hn (fun h => aKw hx hy) h1 h2
theorem WS.ltI {ty : TypeId} {x y : Operand} {c} {k : IntKind} {i j : Int} (hg : cT ops env g = some true := by rfl) (hn : Nat.blt d n = true := by rfl) (hx : aJ G env x = some (.int k i) := by first | rfl | assumption) (hy : aJ G env y = some (.int k j) := by first | rfl | assumption)
  (h1 : i < j → K (bL env d (.bool true)) h fun _ => True) (h2 : ¬(i < j) → K (bL env d (.bool false)) h fun _ => True) : WS P G X n lt ops ⟨some d, .binOp .lss ty x y c, t, p, a, g⟩ env h K F := WS.xW hg hn (fun h => aKv hx hy) h1 h2
theorem WS.leI {ty : TypeId} {x y : Operand} {c} {k : IntKind} {i j : Int} (hg : cT ops env g = some true := by rfl) (hn : Nat.blt d n = true := by rfl) (hx : aJ G env x = some (.int k i) := by first | rfl | assumption) (hy : aJ G env y = some (.int k j) := by first | rfl | assumption)
  (h1 : i ≤ j → K (bL env d (.bool true)) h fun _ => True) (h2 : ¬(i ≤ j) → K (bL env d (.bool false)) h fun _ => True) : WS P G X n lt ops ⟨some d, .binOp .leq ty x y c, t, p, a, g⟩ env h K F := WS.xW hg hn (fun h => aKu hx hy) h1 h2
theorem WS.gtI {ty : TypeId} {x y : Operand} {c} {k : IntKind} {i j : Int} (hg : cT ops env g = some true := by rfl) (hn : Nat.blt d n = true := by rfl) (hx : aJ G env x = some (.int k i) := by first | rfl | assumption) (hy : aJ G env y = some (.int k j) := by first | rfl | assumption)
  (h1 : j < i → K (bL env d (.bool true)) h fun _ => True) (h2 : ¬(j < i) → K (bL env d (.bool false)) h fun _ => True) : WS P G X n lt ops ⟨some d, .binOp .gtr ty x y c, t, p, a, g⟩ env h K F := WS.xW hg hn (fun h => aKt hx hy) h1 h2
theorem WS.geI {ty : TypeId} {x y : Operand} {c} {k : IntKind} {i j : Int} (hg : cT ops env g = some true := by rfl) (hn : Nat.blt d n = true := by rfl) (hx : aJ G env x = some (.int k i) := by first | rfl | assumption) (hy : aJ G env y = some (.int k j) := by first | rfl | assumption)
  (h1 : j ≤ i → K (bL env d (.bool true)) h fun _ => True) (h2 : ¬(j ≤ i) → K (bL env d (.bool false)) h fun _ => True) : WS P G X n lt ops ⟨some d, .binOp .geq ty x y c, t, p, a, g⟩ env h K F := WS.xW hg hn (fun h => aKs hx hy) h1 h2
theorem WS.eqS {ty : TypeId} {x y : Operand} {c} {i j : ByteArray} (hg : cT ops env g = some true := by rfl) (hn : Nat.blt d n = true := by rfl) (hx : aJ G env x = some (.string i) := by first | rfl | assumption) (hy : aJ G env y = some (.string j) := by first | rfl | assumption)
  (h1 : i = j → K (bL env d (.bool true)) h fun _ => True) (h2 : ¬(i = j) → K (bL env d (.bool false)) h fun _ => True) : WS P G X n lt ops ⟨some d, .binOp .eql ty x y c, t, p, a, g⟩ env h K F := WS.xW hg hn (fun h => aKr hx hy) h1 h2
theorem WS.neS {ty : TypeId} {x y : Operand} {c} {i j : ByteArray} (hg : cT ops env g = some true := by rfl) (hn : Nat.blt d n = true := by rfl) (hx : aJ G env x = some (.string i) := by first | rfl | assumption) (hy : aJ G env y = some (.string j) := by first | rfl | assumption)
  (h1 : i ≠ j → K (bL env d (.bool true)) h fun _ => True) (h2 : ¬(i ≠ j) → K (bL env d (.bool false)) h fun _ => True) : WS P G X n lt ops ⟨some d, .binOp .neq ty x y c, t, p, a, g⟩ env h K F := WS.xW hg hn (fun h => aKx hx hy) h1 h2
theorem WS.eqG {ty : TypeId} {x y : Operand} {c} {u w : Value} {b : Bool} (hg : cT ops env g = some true := by rfl) (hn : Nat.blt d n = true := by rfl) (hx : aJ G env x = some u := by first | rfl | assumption) (hy : aJ G env y = some w := by first | rfl | assumption) (hq : o0 P .eql ty x y u w = true := by rfl) (hv : nL P .eql ty u w = some (.bool b) := by rfl)
  (h1 : b = true → K (bL env d (.bool true)) h fun _ => True) (h2 : b = false → K (bL env d (.bool false)) h fun _ => True) : WS P G X n lt ops ⟨some d, .binOp .eql ty x y c, t, p, a, g⟩ env h K F :=
 WS.aOn hg hn (fun h => by simp only [c6, hx, hy, hq, if_true, hv, Option.map_some]) h1 h2
theorem WS.neG {ty : TypeId} {x y : Operand} {c} {u w : Value} {b : Bool} (hg : cT ops env g = some true := by rfl) (hn : Nat.blt d n = true := by rfl) (hx : aJ G env x = some u := by first | rfl | assumption) (hy : aJ G env y = some w := by first | rfl | assumption) (hq : o0 P .neq ty x y u w = true := by rfl) (hv : nL P .neq ty u w = some (.bool b) := by rfl)
  (h1 : b = true → K (bL env d (.bool true)) h fun _ => True) (h2 : b = false → K (bL env d (.bool false)) h fun _ => True) : WS P G X n lt ops ⟨some d, .binOp .neq ty x y c, t, p, a, g⟩ env h K F :=
 WS.aOn hg hn (fun h => by simp only [c6, hx, hy, hq, if_true, hv, Option.map_some]) h1 h2

theorem WS.jC {ty : TypeId} {x : Operand} {i off : Nat} {v : Value} {ro : Bool} {cs : List Value} (hg : cT ops env g = some true := by rfl) (hn : Nat.blt d n = true := by rfl) (hx : aJ G env x = some (.pointer (some ⟨i, off, none⟩)) := by first | rfl | assumption) (ht : u0 P ty = some false := by rfl)
  (ho : h.obj i = some (.cells ro cs) := by exact aD) (hc : cs[off]? = some v := by rfl) (hk : K (bL env d v) h fun H => H.obj i = some (.cells ro cs)) : WS P G X n lt ops ⟨some d, .load ty x, t, p, a, g⟩ env h K F := by
 have : ∀ H : aA, H.obj i = some (.cells ro cs) → c6 P G env ⟨some d, .load ty x, t, p, a, g⟩ H = some (.val v H) := by
  intro H hH
  refine aBr hx ?_
  simp only [pS, ht, aA.cell, hH, hc]
 exact WS.val _ hg hn (this h ho) (fun H hH => this H hH) hk

theorem WS.pT {ty : TypeId} {x : Operand} {i off m : Nat} {ro : Bool} {cs vs : List Value} (hg : cT ops env g = some true := by rfl) (hn : Nat.blt d n = true := by rfl) (hx : aJ G env x = some (.pointer (some ⟨i, off, none⟩)) := by first | rfl | assumption) (ht : u0 P ty = some true := by rfl) (hs : dF P ty = some m := by exact fF rfl)
  (ho : h.obj i = some (.cells ro cs) := by exact aD) (hc : off + m ≤ cs.length := by first | (exact Nat.le_of_ble_eq_true rfl) | (simp; done) | omega) (hv' : dB ((cs.drop off).take m) = some vs := by rfl) (hk : K (bL env d (.agg vs.toArray)) h fun H => H.obj i = some (.cells ro cs)) : WS P G X n lt ops ⟨some d, .load ty x, t, p, a, g⟩ env h K F := by
 have hv := eO hv'
 have : ∀ H : aA, H.obj i = some (.cells ro cs) → c6 P G env ⟨some d, .load ty x, t, p, a, g⟩ H = some (.val (.agg vs.toArray) H) := by
  intro H hH
  refine aBr hx ?_
  simp only [pS, ht, hs, aA.cells, hH, if_pos hc, hv, Option.map_some]
 exact WS.val _ hg hn (this h ho) (fun H hH => this H hH) hk

theorem WS.store {ty : TypeId} {x y : Operand} {i off : Nat} {v : Value} {cs cs' : List Value} (hg : cT ops env g = some true := by rfl) (hx : aJ G env x = some (.pointer (some ⟨i, off, none⟩)) := by first | rfl | assumption) (hy : aJ G env y = some v := by first | rfl | assumption)
  (hz : dF P ty = some v.cells.size := by rfl) (ho : h.obj i = some (.cells false cs) := by exact aD) (hf : off + v.cells.size ≤ cs.length := by first | (exact Nat.le_of_ble_eq_true rfl) | (simp; done) | omega) (h1 : v.cells.toList.all (·.oneCell') = true := by rfl) (hs' : dB (cI cs off v.cells.toList) = some cs' := by rfl)
  (hk : K env (h.put i (some (.cells false cs'))) fun _ => True) : WS P G X n false ops ⟨none, .store ty x y, t, p, a, g⟩ env h K F := by
 have hs := eO hs'
 refine WS.skip hg (aFn hx hy ?_) hk
 simp only [fW, hz, if_true, aA.store, ho]
 rw [if_pos (by simp only [Array.length_toList, h1, Bool.and_true, decide_eq_true_eq]; exact hf), hs]

theorem WS.alloc {e : TypeId} {z : Value} {cs : List Value} (hg : cT ops env g = some true := by rfl) (hn : Nat.blt d n = true := by rfl) (hz : gC P e = some z := by rfl) (hcs' : dB z.cells.toList = some cs := by rfl)
  (hk : K (bL env d (.pointer (some ⟨h.next, 0, none⟩))) (h.alloc (.cells false cs)) fun _ => False) : WS P G X n lt ops ⟨some d, .alloc e, t, p, a, g⟩ env h K F :=
 WS.val _ hg hn (by simp only [c6, hz, Option.map_some, eO hcs']) (fun _ hf => hf.elim) hk

theorem WS.box {e : TypeId} {x : Operand} {v : Value} {cs : List Value} (hg : cT ops env g = some true := by rfl) (hn : Nat.blt d n = true := by rfl) (hx : aJ G env x = some v := by first | rfl | assumption) (hcs' : dB v.cells.toList = some cs := by rfl)
  (hk : K (bL env d (.pointer (some ⟨h.next, 0, none⟩))) (h.alloc (.cells false cs)) fun _ => False) : WS P G X n lt ops ⟨some d, .box e x, t, p, a, g⟩ env h K F :=
 WS.val _ hg hn (by simp only [c6, hx, Option.map_some, eO hcs']) (fun _ hf => hf.elim) hk

theorem WS.buildSlice {ty e : TypeId} {parts} {ps} {len m : Nat} {z : Value} {cs0 cs : List Value} (hg : cT ops env g = some true := by rfl) (hn : Nat.blt d n = true := by rfl) (hp : c9 G env parts.toList = some ps := by rfl) (hu : P.underlying ty = some (.slice e) := by rfl) (hm : dF P e = some m := by exact fF rfl) (hz : gC P e = some z := by rfl)
  (hok : (z.cells.size = m && 0 < m && len * m ≤ 16777216) = true := by rfl) (hcs0 : jA (fun i => some (i * m, m)) (fN z len) ps = some cs0 := by rfl) (hcs' : dB cs0 = some cs := by rfl)
  (hk : K (bL env d (.slice (some ⟨h.next, 0, none⟩) len m)) (h.alloc (.cells false cs)) fun _ => False) : WS P G X n lt ops ⟨some d, .buildSlice ty len parts, t, p, a, g⟩ env h K F :=
 WS.val _ hg hn (by simp only [c6, hp, fD, hu, hm, hz]; rw [if_pos (by simpa using hok), hcs0, eO hcs']; rfl) (fun _ hf => hf.elim) hk

theorem WS.conv {ty ty2 : TypeId} {x : Operand} {u v : Value} (S : aA → Prop) (hg : cT ops env g = some true) (hn : Nat.blt d n = true) (hx : aJ G env x = some u) (hS : S h) (hv : ∀ H, S H → iG P ty ty2 u H = some (v, H))
  (hk : K (bL env d v) h S) : WS P G X n lt ops ⟨some d, .convert ty ty2 x, t, p, a, g⟩ env h K F := by
 have : ∀ H, S H → c6 P G env ⟨some d, .convert ty ty2 x, t, p, a, g⟩ H = some (.val v H) := fun H hH => by simp only [c6, hx, hv H hH, Option.map_some]
 exact WS.val S hg hn (this h hS) this hk

theorem WS.r9 {op : Op} {v : Value} {h' : aA} (hg : cT ops env g = some true) (hn : Nat.blt d n = true) (ho : c6 P G env ⟨some d, op, t, p, a, g⟩ h = some (.val v h'))
  (hk : K (bL env d v) h' fun _ => False) : WS P G X n lt ops ⟨some d, op, t, p, a, g⟩ env h K F := WS.val _ hg hn ho (fun _ hf => hf.elim) hk

theorem dO : bV P env h [] = some [] := rfl
theorem dV {t : Tmp} {l : List ResultVar} {v : Value} {vs : List Value} (hx : env t = some v) (hr : bV P env h l = some vs) : bV P env h (.tmp t :: l) = some (v :: vs) := by simp only [bV, hx, hr]
theorem cW {t : Tmp} {ty : TypeId} {l : List ResultVar} {i off m : Nat} {ro : Bool} {cs ws vs : List Value} (hx : env t = some (.pointer (some ⟨i, off, none⟩))) (ht : u0 P ty = some true) (hs : dF P ty = some m) (ho : h.obj i = some (.cells ro cs)) (hc : off + m ≤ cs.length)
  (hv : dB ((cs.drop off).take m) = some ws) (hr : bV P env h l = some vs) : bV P env h (.cell t ty :: l) = some (.agg ws.toArray :: vs) := by
 simp only [bV, hx, hr, pS, ht, hs, aA.cells, ho, if_pos hc, eO hv, Option.map_some]
theorem cX {t : Tmp} {ty : TypeId} {l : List ResultVar} {i off : Nat} {ro : Bool} {cs vs : List Value} {v : Value} (hx : env t = some (.pointer (some ⟨i, off, none⟩))) (ht : u0 P ty = some false) (ho : h.obj i = some (.cells ro cs)) (hc : cs[off]? = some v)
  (hr : bV P env h l = some vs) : bV P env h (.cell t ty :: l) = some (v :: vs) := by
 simp only [bV, hx, hr, pS, ht, aA.cell, ho, hc, Option.map_some]

theorem WS.pJ {f : FuncId} {args tys} {vs : List Value} (hg : cT ops env g = some true := by rfl) (hn : Nat.blt d n = true := by rfl) (ha : bO G env args.toList = some vs := by rfl) (he : ∀ vs, aQ P f vs = some (.enter f vs))
  (hk : aS P G X f vs h fun r => match r with | .ret v h' => K (bL env d v) h' (fun _ => True) | .panic ch h' => F ch h') : WS P G X n false ops ⟨some d, .call ⟨.value (.func f), args, tys⟩, t, p, a, g⟩ env h K F :=
 WS.enter hg hn (by simp only [c6, iF, ha, aJ, oI]; rw [show ((#[] : Array Value).toList ++ vs ++ (#[] : Array Value).toList) = vs by simp, he]) hk

theorem WS.uD {x : Operand} {f : FuncId} {args tys} {fs cs} {vs ws : List Value} (hg : cT ops env g = some true) (hn : Nat.blt d n = true) (hx : aJ G env x = some (.func (.func f) fs cs)) (ha : bO G env args.toList = some vs) (hw : fs.toList ++ vs ++ cs.toList = ws) (he : ∀ vs, aQ P f vs = some (.enter f vs))
  (hk : aS P G X f ws h fun r => match r with | .ret v h' => K (bL env d v) h' (fun _ => True) | .panic ch h' => F ch h') : WS P G X n false ops ⟨some d, .call ⟨.value x, args, tys⟩, t, p, a, g⟩ env h K F :=
 WS.enter hg hn (by simp only [c6, iF, ha, hx, oI]; rw [hw, he]) hk

theorem WS.invoke {x : Operand} {name : String} {f : FuncId} {args tys} {ty : TypeId} {u r : Value} {vs : List Value} (hg : cT ops env g = some true) (hn : Nat.blt d n = true) (hx : aJ G env x = some (.iface ty u)) (ha : bO G env args.toList = some vs) (hm : oK P ty u name = some (f, r)) (he : ∀ vs, aQ P f vs = some (.enter f vs))
  (hk : aS P G X f (r :: vs) h fun r => match r with | .ret v h' => K (bL env d v) h' (fun _ => True) | .panic ch h' => F ch h') : WS P G X n false ops ⟨some d, .call ⟨.invoke x name, args, tys⟩, t, p, a, g⟩ env h K F :=
 WS.enter hg hn (by simp only [c6, iF, ha, hx, oI, hm, he]) hk

/- Objects of a heap. -/
theorem cY {o : dS} : (h.alloc o).obj h.next = some o := by rw [aA.iX, if_pos rfl]
theorem bX {i : Nat} {o : dS} {x : Option dS} (hne : i ≠ h.next) (ho : h.obj i = x) : (h.alloc o).obj i = x := by rw [aA.iX, if_neg hne]; exact ho
theorem eG {i : Nat} {o : Option dS} : (h.put i o).obj i = o := by rw [aA.lN, if_pos rfl]
theorem bF {i j : Nat} {o x : Option dS} (hne : i ≠ j) (ho : h.obj i = x) : (h.put j o).obj i = x := by rw [aA.lN, if_neg hne]; exact ho

def kG (h : aA) (b : Option Addr) (n es size : Nat) (old : List Value) : Prop :=
 (b = none ∧ n = 0 ∧ es = 0 ∧ old = []) ∨ ∃ i off cells, b = some ⟨i, off, none⟩ ∧ es = size ∧ h.obj i = some (.cells false cells) ∧ off + n * size ≤ cells.length ∧ (cells.drop off).take (n * size) = old

theorem vU {ty ty' e : TypeId} {u : TypeDesc} {b : Option Addr} {len es j off m size bytes : Nat} {ro : Bool} {cs old new : List Value} (hu : P.underlying ty = some (.slice e)) (hu' : P.underlying ty' = some u) (hi : ∀ k, u ≠ .int k) (he : dY P e = some (size, bytes))
  (hm : 0 < m) (ho : h.obj j = some (.cells ro cs)) (hl : off + m * size ≤ cs.length) (hnew : (cs.drop off).take (m * size) = new) (hr : (len + m) * bytes ≤ room) (h1 : new.all (·.oneCell') = true) (hs : kG h b len es size old) :
  ∃ h', eR P #[ty, ty'] [.slice b len es, .slice (some ⟨j, off, none⟩) m size] h = some (.slice (some ⟨h.next, 0, none⟩) (len + m) size, h') ∧ h'.next = h.next + 1 ∧ h'.obj h.next = some (.cells false (old ++ new)) ∧
   ∀ i, i < h.next → (∀ off, b ≠ some ⟨i, off, none⟩) → h'.obj i = h.obj i := by
 have ha : eM size h (.slice (some ⟨j, off, none⟩) m size) = some (m, new) := by
  simp only [eM]
  rw [if_neg (by omega)]
  simp only [if_true, aA.cells, ho, if_pos hl, hnew, Option.map_some]
 rcases hs with ⟨rfl, rfl, rfl, rfl⟩ | ⟨i, off', cells, rfl, rfl, hob, hle, hold⟩
 ·refine ⟨(h.alloc (.cells false new)).note h.next (some e), ?_, rfl, by rw [aA.eV, cY]; rfl, fun i hlt _ => by rw [aA.eV]; exact bX (by omega) rfl⟩
  simp only [eR, List.getElem?_toArray, List.getElem?_cons_zero, List.getElem?_cons_succ, hu, hu', he, ha]
  cases u <;> first | exact (hi _ rfl).elim | (rw [if_neg (by omega), if_pos (by simpa using hr)]; simp)
 ·refine ⟨((h.put i none).alloc (.cells false (old ++ new))).note h.next (if off' = 0 ∧ h.ty i = some e then some e else none), ?_, rfl, ?_, fun k hlt hne => ?_⟩
  ·simp only [eR, List.getElem?_toArray, List.getElem?_cons_zero, List.getElem?_cons_succ, hu, hu', he, ha]
   cases u <;> first | exact (hi _ rfl).elim | (rw [if_neg (by omega)]; simp only [decide_true, hr, h1, Bool.and_self, if_true, hob, aA.cells, if_pos hle, hold, Option.map_some])
  ·rw [aA.eV]; exact cY (h := h.put i none)
  ·rw [aA.eV]; refine bX (h := h.put i none) (by simp only [aA.aE]; omega) (bF (fun e => ?_) rfl)
   subst e
   exact hne off' rfl

theorem WS.append {ty ty' e : TypeId} {u : TypeDesc} {x y : Operand} {b : Option Addr} {len es j off m size bytes : Nat} {ro : Bool} {cs old new : List Value} (hg : cT ops env g = some true) (hn : Nat.blt d n = true) (hx : aJ G env x = some (.slice b len es)) (hy : aJ G env y = some (.slice (some ⟨j, off, none⟩) m size))
  (hu : P.underlying ty = some (.slice e)) (hu' : P.underlying ty' = some u) (hi : ∀ k, u ≠ .int k) (he : dY P e = some (size, bytes))
  (hm : 0 < m) (ho : h.obj j = some (.cells ro cs)) (hl : off + m * size ≤ cs.length) (hnew' : dB ((cs.drop off).take (m * size)) = some new) (hr : (len + m) * bytes ≤ room) (h1 : new.all (·.oneCell') = true) (hs : kG h b len es size old)
  (hk : ∀ h', h'.next = h.next + 1 → h'.obj h.next = some (.cells false (old ++ new)) → (∀ i, i < h.next → (∀ off, b ≠ some ⟨i, off, none⟩) → h'.obj i = h.obj i) → K (bL env d (.slice (some ⟨h.next, 0, none⟩) (len + m) size)) h' fun _ => False) :
  WS P G X n lt ops ⟨some d, .call ⟨.builtin .append, #[x, y], #[ty, ty']⟩, t, p, a, g⟩ env h K F := by
 obtain ⟨h', h1', h2, h3, h4⟩ := vU hu hu' hi he hm ho hl (eO hnew') hr h1 hs
 refine WS.r9 hg hn (v := .slice (some ⟨h.next, 0, none⟩) (len + m) size) (h' := h') ?_ (hk h' h2 h3 h4)
 simp only [c6, iF, bO, hx, hy, h1', Option.map_some]

attribute [irreducible] bD jG

end
end Go.Am
end

section
namespace Go.Am

theorem uV : ∀ (v p q : List Value), v.length ≤ q.length → cI (p ++ q) p.length v = p ++ v ++ q.drop v.length
 | [], p, q, _ => by simp [cI]
 | a :: v, p, q, h => by
  cases q with
  | nil => simp at h
  | cons b q =>
   have e : (p ++ b :: q).set p.length a = (p ++ [a]) ++ q := by
    rw [List.set_append_right _ _ (Nat.le_refl _), Nat.sub_self]; simp
   have ih := uV v (p ++ [a]) q (by simp at h; omega)
   rw [List.length_append, List.length_singleton] at ih
   show cI ((p ++ b :: q).set p.length a) (p.length + 1) v = _
   rw [e, ih]; simp

def kC : Nat → List (Nat × Value) → Option (List (Array Value))
 | _, [] => some []
 | k, (i, .agg a) :: r => if i = k then (match kC (k + 1) r with
   | some l => some (a :: l)
   | none => none) else none
 | _, _ => none

theorem wL {m : Nat} : ∀ (ps : List (Nat × Value)) (k : Nat) (vs : List (Array Value)) (p q : List Value), kC k ps = some vs → p.length = k * m → (∀ a ∈ vs, a.size = m) → q.length = vs.length * m →
  jA (fun i => some (i * m, m)) (p ++ q) ps = some (p ++ (vs.map (·.toList)).flatten)
 | [], k, vs, p, q, h, hp, hv, hq => by
  cases h
  have : q = [] := List.eq_nil_of_length_eq_zero (by simpa using hq)
  subst this; simp [jA]
 | (i, v) :: r, k, vs, p, q, h, hp, hv, hq => by
  cases v with
  | agg a =>
   unfold kC at h
   split at h
   ·rename_i hi
    split at h
    ·rename_i l hl
     cases h
     subst hi
     have ha := hv a (List.mem_cons_self ..)
     have hal : a.toList.length = m := by simpa using ha
     simp only [List.length_cons, Nat.succ_mul] at hq
     have ih := wL (m := m) r (i + 1) l (p ++ a.toList) (q.drop m) hl (by rw [List.length_append, hp, hal, Nat.succ_mul]) (fun b hb => hv b (List.mem_cons_of_mem _ hb)) (by rw [List.length_drop]; omega)
     have hsm := uV a.toList p q (by omega)
     rw [hp, hal] at hsm
     unfold jA
     simp only
     rw [if_neg (by simp [Value.cells, ha, hp]; omega)]
     show jA _ (cI (p ++ q) (i * m) a.toList) r = _
     rw [hsm, ih]
     simp
    ·cases h
   ·cases h
  | _ => simp [kC] at h

theorem xP (z : Value) {m : Nat} (hz : z.cells.size = m) : ∀ n, (fN z n).length = n * m
 | 0 => by simp [fN]
 | n + 1 => by
  have hl : z.cells.toList.length = m := by simpa using hz
  simp only [fN, List.length_append, hl, xP z hz n, Nat.succ_mul]; omega

section
variable {P : Program} {G : Nat} {X : eQ} {n : Nat} {F : List PanicEntry → aA → Prop} {env : Env} {h : aA} {lt : Bool} {ops : Array Oper} {d : Nat} {t : TypeId} {p : String} {a : Array Edge} {g : Option (Nat × Bool)} {K : Env → aA → (aA → Prop) → Prop}

theorem WS.yH {ty e : TypeId} {parts} {ps : List (Nat × Value)} {vs : List (Array Value)} {len m : Nat} {z : Value} {cs : List Value} (hg : cT ops env g = some true := by rfl) (hn : Nat.blt d n = true := by rfl) (hp : c9 G env parts.toList = some ps := by rfl) (hu : P.underlying ty = some (.slice e) := by rfl) (hm : dF P e = some m := by exact fF rfl) (hz : gC P e = some z := by rfl)
  (hok : (z.cells.size = m && 0 < m && len * m ≤ 16777216) = true := by rfl) (hv : kC 0 ps = some vs := by rfl) (hl : vs.length = len := by rfl) (hs : vs.all (fun a => a.size == m) = true := by rfl) (hcs' : dB (vs.map (·.toList)).flatten = some cs := by rfl)
  (hk : K (bL env d (.slice (some ⟨h.next, 0, none⟩) len m)) (h.alloc (.cells false cs)) fun _ => False) : WS P G X n lt ops ⟨some d, .buildSlice ty len parts, t, p, a, g⟩ env h K F := by
 have hzs : z.cells.size = m := by simp only [Bool.and_eq_true, decide_eq_true_eq] at hok; exact hok.1.1
 have hf := wL (m := m) ps 0 vs [] (fN z len) hv (by simp) (fun a ha => by simpa using List.all_eq_true.1 hs a ha) (by rw [xP z hzs, hl])
 rw [List.nil_append, List.nil_append, eO hcs'] at hf
 exact WS.val _ hg hn (by simp only [c6, hp, fD, hu, hm, hz]; rw [if_pos (by simpa using hok), hf]; rfl) (fun _ hf => hf.elim) hk
end
end Go.Am
end

section
namespace Go.Am
open Go.RowKit (Below)

theorem aS.calls {P : Program} {G B : Nat} {w0 : World} {X : eQ} {ρ : Ren} {h : aA} {w : World} {f : FuncId} {args : List Value} {args' : Array Value} {Q : bR → Prop}
  (E : aGa P G B w0 X) (hm : P.follows .mixedOrders = true) (R : Rel G B w0 ρ h w) (hargs : bP ρ args args'.toList) (hw : aS P G X f args h Q) :
  Calls P f args' w fun e w' => ∃ r, Q r ∧ iP G B w0 ρ h r e w' := by
 obtain ⟨k, r, hr, hq⟩ := aS.out hw
 exact (uC E hm k f args h r hr ρ w args' R hargs).mono fun e w' he => ⟨r, hq, he⟩

theorem Rel.start (w : World) : Rel 0 w.heap.size w (fun _ => none) { next := 0, obj := fun _ => none } w where
 below := Below.refl _ _
 base := Nat.le_refl _
 qT := fun _ _ _ _ h => by cases h
 r8 := fun _ h => by omega
 live := fun _ _ _ _ _ h => by cases h
 inj := fun _ _ _ _ _ _ _ _ _ _ _ h => by cases h
 shp := fun _ _ h => by cases h

end Go.Am
end

section
namespace Go.Am
open Go.RowKit (Below)
set_option linter.unusedVariables false
set_option linter.unusedSimpArgs false

def sS : List (Nat × Array Oper) → Code
 | [] => .ret
 | (id, ops) :: l => .seq (.region id ops false) (sS l)

def gN (P : Program) (G : Nat) (C : bK) (n : Nat) : List (Nat × Array Oper) → Env → aA → Option jZ
 | [], env, h => some (.ok env h)
 | (_, ops) :: l, env, h => match dT P G C n ops (List.range ops.size) env h with
  | some (.ok e h') => gN P G C n l e h'
  | r => r

def tI (t : Tmp) (ops : Array Oper) : Bool := ops.toList.all fun o => o.dst != some t

section
variable {G B : Nat} {w0 : World} {P : Program} {n : Nat}

theorem qJ {dst : Option Tmp} {v : Value} {env env' : Env} {t : Tmp} (hp : gE n dst v env = some env') (ht : dst ≠ some t) : env' t = env t := by
 unfold gE at hp
 split at hp
 ·cases hp; rfl
 ·rename_i d
  split at hp
  ·cases hp
   simp only
   rw [if_neg (fun e => ht (by rw [e]))]
  ·cases hp

theorem aDn {C : bK} {ops : Array Oper} {o : Oper} {env env' : Env} {h h' : aA} {t : Tmp} (hs : jD P G C n ops o env h = some (.ok env' h')) (ht : o.dst ≠ some t) : env' t = env t := by
 unfold jD at hs
 split at hs
 ·cases hs
 ·obtain ⟨e, he, h1⟩ := Option.map_eq_some_iff.1 hs
  cases h1; exact qJ he ht
 ·split at hs
  ·cases hs
  ·obtain ⟨e, he, h1⟩ := Option.map_eq_some_iff.1 hs
   cases h1; exact qJ he ht
  ·obtain ⟨e, he, h1⟩ := Option.map_eq_some_iff.1 hs
   cases h1; exact qJ he ht
  ·split at hs
   ·cases hs
   ·obtain ⟨e, he, h1⟩ := Option.map_eq_some_iff.1 hs
    cases h1; exact qJ he ht
   ·cases hs
  ·cases hs

theorem aE9 {t : Tmp} {ops : Array Oper} (hk : tI t ops = true) {i : Nat} {o : Oper} (hi : ops[i]? = some o) : o.dst ≠ some t := by
 have := List.all_eq_true.1 hk o (by rw [Array.getElem?_eq_some_iff] at hi; obtain ⟨hlt, rfl⟩ := hi; simp)
 simpa using this

theorem gM {C : bK} (SC : hZ P G B w0 C) {ops : Array Oper} {Q : Exit → Act → World → Prop} : ∀ (l : List Nat) {ρ : Ren} {h : aA} {w : World} {env : Env} {a : Act} {r : jZ},
  Rel G B w0 ρ h w → bU ρ n env a → dT P G C n ops l env h = some r →
  (∀ env' h', r = .ok env' h' → ∀ ρ' a' w', Ext ρ h ρ' h' → Rel G B w0 ρ' h' w' → bU ρ' n env' a' → a'.defers = a.defers → (∀ t, tI t ops = true → env' t = env t) → Q .normal a' w') →
  (∀ ch h', r = .panic ch h' → ∀ ρ' ch' a' w' env', Ext ρ h ρ' h' → Rel G B w0 ρ' h' w' → lS ρ' ch ch' → a'.defers = a.defers → bU ρ' n env' a' → (∀ t, tI t ops = true → env' t = env t) → Q (.panic ch') a' w') →
  wpOps P ops Q l a w
 | [], ρ, h, w, env, a, r, R, F, he, hok, _ => by
  simp only [dT] at he
  cases he
  exact hok env h rfl ρ a w (Ext.refl _ _) R F rfl fun _ _ => rfl
 | i :: rest, ρ, h, w, env, a, r, R, F, he, hok, hpanic => by
  rw [wpOps_cons]
  unfold dT at he
  split at he
  ·rename_i hi
   simp only [wpOp, hi]
   exact gM SC rest R F he hok hpanic
  ·rename_i o hi
   split at he
   ·rename_i env' h' hs
    refine jE SC R F hi hs ?_ (fun ch h'' e => by cases e)
    intro env2 h2 e2 ρ' v' w' hext hR hF
    cases e2
    have hkk : ∀ t, tI t ops = true → env' t = env t := fun t ht => aDn hs (aE9 ht hi)
    refine gM SC rest hR hF he ?_ ?_
    ·intro env3 h3 e3 ρ3 a3 w3 hext3 hR3 hF3 hd3 hk3
     exact hok env3 h3 e3 ρ3 a3 w3 (hext.trans hext3) hR3 hF3 (by rw [hd3, put_defers]) fun t ht => (hk3 t ht).trans (hkk t ht)
    ·intro ch h3 e3 ρ3 ch3 a3 w3 env3 hext3 hR3 hc3 hd3 hF3 hk3
     exact hpanic ch h3 e3 ρ3 ch3 a3 w3 env3 (hext.trans hext3) hR3 hc3 (by rw [hd3, put_defers]) hF3 fun t ht => (hk3 t ht).trans (hkk t ht)
   ·rename_i hno
    refine jE SC R F hi he (fun env' h' e => ?_) fun ch h' e ρ' ch' w' hext hR hc => hpanic ch h' e ρ' ch' a w' env hext hR hc rfl (F.mono (hext.le R)) fun _ _ => rfl
    subst e
    exact (hno _ _ he).elim

theorem lX {C : bK} (SC : hZ P G B w0 C) {Q : Exit → Act → World → Prop} : ∀ (l : List (Nat × Array Oper)) {ρ : Ren} {h : aA} {w : World} {env : Env} {a : Act} {r : jZ},
  Rel G B w0 ρ h w → bU ρ n env a → gN P G C n l env h = some r →
  (∀ env' h', r = .ok env' h' → ∀ ρ' a' w', Ext ρ h ρ' h' → Rel G B w0 ρ' h' w' → bU ρ' n env' a' → a'.defers = a.defers → Q .ret a' w') →
  (∀ ch h', r = .panic ch h' → ∀ ρ' ch' a' w' env', Ext ρ h ρ' h' → Rel G B w0 ρ' h' w' → lS ρ' ch ch' → a'.defers = a.defers → bU ρ' n env' a' → (∀ t, (∀ x ∈ l, tI t x.2 = true) → env' t = env t) → Q (.panic ch') a' w') →
  (sS l).wp P Q a w
 | [], ρ, h, w, env, a, r, R, F, he, hok, _ => by
  simp only [gN] at he
  cases he
  exact wp_ret (hok env h rfl ρ a w (Ext.refl _ _) R F rfl)
 | (id, ops) :: rest, ρ, h, w, env, a, r, R, F, he, hok, hpanic => by
  unfold gN at he
  refine wp_seq ?_
  split at he
  ·rename_i e h' hs
   refine wp_region (gM SC _ R F hs ?_ (fun ch h'' e => by cases e))
   intro env2 h2 e2 ρ2 a2 w2 hext hR hF hd hk
   cases e2
   refine lX SC rest hR hF he ?_ ?_
   ·intro env3 h3 e3 ρ3 a3 w3 hext3 hR3 hF3 hd3
    exact hok env3 h3 e3 ρ3 a3 w3 (hext.trans hext3) hR3 hF3 (hd3.trans hd)
   ·intro ch h3 e3 ρ3 ch3 a3 w3 env3 hext3 hR3 hc3 hd3 hF3 hk3
    exact hpanic ch h3 e3 ρ3 ch3 a3 w3 env3 (hext.trans hext3) hR3 hc3 (hd3.trans hd) hF3 fun t ht => (hk3 t fun x hx => ht x (List.mem_cons_of_mem _ hx)).trans (hk t (ht _ (List.mem_cons_self ..)))
  ·rename_i hno
   refine wp_region (gM SC _ R F he (fun env' h' e => by subst e; exact (hno _ _ he).elim) ?_)
   intro ch h3 e3 ρ3 ch3 a3 w3 env3 hext3 hR3 hc3 hd3 hF3 hk3
   exact hpanic ch h3 e3 ρ3 ch3 a3 w3 env3 hext3 hR3 hc3 hd3 hF3 fun t ht => hk3 t (ht _ (List.mem_cons_self ..))

def w7 : ResultVar → Tmp
 | .tmp t => t
 | .cell t _ => t

theorem nF {env env' : Env} {h : aA} : ∀ (l : List ResultVar), (∀ r ∈ l, env' (w7 r) = env (w7 r)) → bV P env' h l = bV P env h l
 | [], _ => rfl
 | .tmp t :: l, hk => by
  have h1 := hk (.tmp t) (List.mem_cons_self ..)
  simp only [w7] at h1
  simp only [bV, h1, nF l fun r hr => hk r (List.mem_cons_of_mem _ hr)]
 | .cell t ty :: l, hk => by
  have h1 := hk (.cell t ty) (List.mem_cons_self ..)
  simp only [w7] at h1
  simp only [bV, h1, nF l fun r hr => hk r (List.mem_cons_of_mem _ hr)]

abbrev rQ := bK → Value → Value → List PanicEntry → aA → Option aA

noncomputable def lW (P : Program) (G n : Nat) (results : List ResultVar) (ops : Array Oper) (t1 t2 d : Tmp) (g : FuncId) (regs : List (Nat × Array Oper)) (catchO : rQ) : bK → List Value → aA → Option bR := fun C args h =>
 if args.length ≤ n then match dT P G C n ops (List.range ops.size) (jL args) h with
  | some (.ok e1 h1) => match e1 t1, e1 t2 with
   | some v1, some v2 => match gN P G C n regs (bL e1 d (.func (.func g) #[] #[v1, v2])) h1 with
    | some (.ok e3 h3) => (bV P e3 h3 results).map fun vs => .ret (answer vs) h3
    | some (.panic ch h3) => match catchO C v1 v2 ch h3 with
     | some h4 => (bV P (bL e1 d (.func (.func g) #[] #[v1, v2])) h4 results).map fun vs => .ret (answer vs) h4
     | none => none
    | none => none
   | _, _ => none
  | _ => none
 else none

theorem aBa {ρ : Ren} {args : List Value} {args' : Array Value} (hargs : bP ρ args args'.toList) (hle : args.length ≤ n) : bU ρ n (jL args) { tmps := args' ++ Array.replicate (n - args'.size) undef, defers := [] } := by
 have hsz : args'.size = args.length := by have := hargs.1; simp at this; omega
 refine ⟨by simp; omega, fun t v ht => ?_, fun t v ht => ?_⟩
 ·have : t < args.length := by
   rcases Nat.lt_or_ge t args.length with h | h
   ·exact h
   ·simp only [jL] at ht; rw [List.getElem?_eq_none h] at ht; cases ht
  omega
 ·obtain ⟨v', h1, h2⟩ := hargs.get ht
  have hlt : t < args'.size := by
   rcases Nat.lt_or_ge t args'.size with h | h
   ·exact h
   ·rw [List.getElem?_eq_none (by simpa using h)] at h1; cases h1
  simp only
  rw [Array.getD_eq_getD_getElem?, Array.getElem?_append_left hlt]
  have : args'[t]? = some v' := by simpa using h1
  rw [this]
  exact h2

theorem y9 {f : FuncId} {fn : Func} {ops : Array Oper} {i0 : Nat} {t1 t2 d : Tmp} {g : FuncId} {regs : List (Nat × Array Oper)} {catchO : rQ} {cd : Code}
  (hf : P.funcs[f]? = some fn) (hb : fn.body = some (.seq (.region i0 ops false) (.seq cd (sS regs)))) (hd : d < fn.ntmps)
  (hcd : ∀ (a : Act) (w : World) (Q : Exit → Act → World → Prop), a.tmps.size = fn.ntmps → Q .normal { a.put (some d) (.func (.func g) #[] #[a.tmps.getD t1 undef, a.tmps.getD t2 undef]) with defers := { target := .fn (.func g) #[a.tmps.getD t1 undef, a.tmps.getD t2 undef], args := #[] } :: a.defers } w → cd.wp P Q a w)
  (hin : ∀ (v1 v2 : Value) (w : World), (invoke (.fn (.func g) #[v1, v2]) #[]).run P w = .ok (.enter g #[v1, v2]) w)
  (hkeep : ∀ r ∈ fn.results.toList, ∀ x ∈ regs, tI (w7 r) x.2 = true)
  (hidle : ∀ (v1 v2 : Value) (w : World), CallsD P g #[v1, v2] .returning w fun e u' w' => (∃ v, e = .returned v) ∧ u' = .returning ∧ Below w.heap.size w w')
  {C : bK} (hcatch : ∀ v1 v2 ch h h4, catchO C v1 v2 ch h = some h4 → ∀ ρ w v1' v2' ch', Rel G B w0 ρ h w → bA ρ v1 v1' → bA ρ v2 v2' → lS ρ ch ch' →
   CallsD P g #[v1', v2'] (.panicking ch') w fun e u' w' => (∃ v, e = .returned v) ∧ settle u' = .returning ∧ ∃ ρ', Ext ρ h ρ' h4 ∧ Rel G B w0 ρ' h4 w')
  (SC : hZ P G B w0 C) {args : List Value} {h : aA} {r : bR} (hr : lW P G fn.ntmps fn.results.toList ops t1 t2 d g regs catchO C args h = some r)
  {ρ : Ren} {w : World} {args' : Array Value} (R : Rel G B w0 ρ h w) (hargs : bP ρ args args'.toList) : Calls P f args' w (iP G B w0 ρ h r) := by
 unfold lW at hr
 split at hr
 case isFalse => cases hr
 rename_i hle
 refine calls_of_wp_defers hf hb ?_
 have F := aBa (n := fn.ntmps) hargs hle
 split at hr
 case h_2 => cases hr
 rename_i e1 h1 hops
 refine wp_seq (wp_region (gM SC _ R F hops ?_ fun ch h'' e => by cases e))
 intro env2 h2 e2 ρ1 a1 w1 hext1 R1 F1 hd1 _
 cases e2
 split at hr
 case h_2 => cases hr
 rename_i v1 v2 ht1 ht2
 have hv1 := F1.rel t1 v1 ht1
 have hv2 := F1.rel t2 v2 ht2
 refine wp_seq (hcd a1 w1 _ F1.size ?_)
 generalize ha1 : a1.tmps.getD t1 undef = v1' at *
 generalize ha2 : a1.tmps.getD t2 undef = v2' at *
 have F2 : bU ρ1 fn.ntmps (bL e1 d (.func (.func g) #[] #[v1, v2])) { a1.put (some d) (.func (.func g) #[] #[v1', v2']) with defers := { target := .fn (.func g) #[v1', v2'], args := #[] } :: a1.defers } := by
  have := F1.put (dst := some d) (v := .func (.func g) #[] #[v1, v2]) (v' := .func (.func g) #[] #[v1', v2']) (env' := bL e1 d (.func (.func g) #[] #[v1, v2])) (if_pos hd) (bA.lZ.2 ⟨bP.nil _, .cons hv1 (.cons hv2 (bP.nil _))⟩)
  exact ⟨this.size, this.lt, this.rel⟩
 have hdf : a1.defers = [] := hd1
 split at hr
 case h_3 => cases hr
 ·rename_i e3 h3 hregs
  obtain ⟨vs, hvs, rfl⟩ := Option.map_eq_some_iff.1 hr
  refine lX SC _ R1 F2 hregs ?_ fun ch h'' e => by cases e
  intro env3 h3' e3' ρ3 a3 w3 hext3 R3 F3 hd3
  cases e3'
  simp only [hdf] at hd3
  show Leaves P fn a3.tmps _ a3.defers .returning w3
  rw [hd3]
  refine leaves_cons (by simp) (hin v1' v2' w3) ((hidle v1' v2' w3).mono ?_)
  rintro e u' w' ⟨⟨v, rfl⟩, rfl, hbel⟩
  have R4 := R3.grow hbel
  obtain ⟨v', h5, h6⟩ := kK (fn := fn) R4 F3.rel hvs
  exact ⟨v', h5, ρ3, hext1.trans hext3, R4, h6⟩
 ·rename_i ch h3 hregs
  split at hr
  case h_2 => cases hr
  rename_i h4 hc
  obtain ⟨vs, hvs, rfl⟩ := Option.map_eq_some_iff.1 hr
  refine lX SC _ R1 F2 hregs (fun env' h' e => by cases e) ?_
  intro ch3 h3' e3' ρ3 ch' a3 w3 env3 hext3 R3 hch hd3 F3 hk3
  cases e3'
  simp only [hdf] at hd3
  show Leaves P fn a3.tmps _ a3.defers (.panicking ch') w3
  rw [hd3]
  refine leaves_cons (by simp) (hin v1' v2' w3) ((hcatch v1 v2 ch h3 h4 hc ρ3 w3 v1' v2' ch' R3 (hv1.mono (hext3.le R1)) (hv2.mono (hext3.le R1)) hch).mono ?_)
  rintro e u' w' ⟨⟨v, rfl⟩, hs, ρ4, hext4, R4⟩
  simp only [hs]
  have F4 := F3.mono (hext4.le R3)
  rw [← nF _ (fun r hr => hk3 _ (hkeep r hr))] at hvs
  obtain ⟨v', h5, h6⟩ := kK (fn := fn) R4 F4.rel hvs
  exact ⟨v', h5, ρ4, (hext1.trans hext3).trans hext4, R4, h6⟩

theorem iZ {C C' : bK} (hl : bK.le C C') : ∀ (l : List (Nat × Array Oper)) {env : Env} {h : aA} {r : jZ}, gN P G C n l env h = some r → gN P G C' n l env h = some r
 | [], _, _, _, he => he
 | (id, ops) :: l, env, h, r, he => by
  unfold gN at he ⊢
  split at he
  ·rename_i e h' hs
   rw [dZ hl _ hs]
   exact iZ hl l he
  ·rename_i hno
   cases hq : dT P G C n ops (List.range ops.size) env h with
   | none => rw [hq] at he; cases he
   | some q =>
    rw [hq] at he
    rw [dZ hl _ hq]
    cases q with
    | ok e h' => exact (hno _ _ hq).elim
    | panic ch h' => exact he

theorem aE6 {results : List ResultVar} {ops : Array Oper} {t1 t2 d : Tmp} {g : FuncId} {regs : List (Nat × Array Oper)} {catchO : rQ} {C C' : bK} (hl : bK.le C C') (hm : ∀ v1 v2 ch h h4, catchO C v1 v2 ch h = some h4 → catchO C' v1 v2 ch h = some h4) {args : List Value} {h : aA} {r : bR}
  (hr : lW P G n results ops t1 t2 d g regs catchO C args h = some r) : lW P G n results ops t1 t2 d g regs catchO C' args h = some r := by
 unfold lW at hr ⊢
 split at hr
 case isFalse => cases hr
 rename_i hle
 rw [if_pos hle]
 split at hr
 case h_2 => cases hr
 rename_i e1 h1 hops
 rw [dZ hl _ hops]
 simp only
 split at hr
 case h_2 => cases hr
 rename_i v1 v2 ht1 ht2
 split at hr
 case h_3 => cases hr
 ·rename_i e3 h3 hregs
  rw [iZ hl _ hregs]; exact hr
 ·rename_i ch h3 hregs
  rw [iZ hl _ hregs]
  simp only
  split at hr
  case h_2 => cases hr
  rename_i h4 hc
  rw [hm _ _ _ _ _ hc]; exact hr

end

section
variable (P : Program) (G : Nat) (X : eQ) (n : Nat)
def yG : List (Nat × Array Oper) → Env → aA → (Env → aA → Prop) → (List PanicEntry → aA → Prop) → Prop
 | [], e, h, N, _ => N e h
 | (_, ops) :: l, e, h, N, F => WR P G X n ops ops.toList e h (fun e' h' => yG l e' h' N F) F
end

section
variable {P : Program} {G : Nat} {X : eQ} {n : Nat}

theorem WR.out (hX : bW X) {ops : Array Oper} {env : Env} {h : aA} {N : Env → aA → Prop} {F : List PanicEntry → aA → Prop} (hw : WR P G X n ops ops.toList env h N F) :
  ∃ k r, dT P G (bZ P G X k) n ops (List.range ops.size) env h = some r ∧ match r with | .ok e h => N e h | .panic ch h => F ch h := by
 unfold WR at hw
 obtain ⟨k, r, h1, h2⟩ := rR.out hX _ _ (p0 ops) hw
 exact ⟨k, r, h1, by cases r <;> exact h2⟩

theorem yG.out (hX : bW X) : ∀ (l : List (Nat × Array Oper)) {env : Env} {h : aA} {N : Env → aA → Prop} {F : List PanicEntry → aA → Prop}, yG P G X n l env h N F →
  ∃ k r, gN P G (bZ P G X k) n l env h = some r ∧ match r with | .ok e h => N e h | .panic ch h => F ch h
 | [], env, h, N, F, hw => ⟨0, _, rfl, hw⟩
 | (id, ops) :: l, env, h, N, F, hw => by
  obtain ⟨k1, r1, h1, hq1⟩ := WR.out hX hw
  cases r1 with
  | ok e h' =>
   obtain ⟨k2, r2, h2, hq2⟩ := yG.out hX l hq1
   refine ⟨max k1 k2, r2, ?_, hq2⟩
   unfold gN
   rw [dZ (cR hX (Nat.le_max_left k1 k2)) _ h1]
   exact iZ (cR hX (Nat.le_max_right k1 k2)) l h2
  | panic ch h' =>
   refine ⟨k1, .panic ch h', ?_, hq1⟩
   unfold gN
   rw [h1]

theorem aS.defer (hX : bW X) {f : FuncId} {results : List ResultVar} {ops : Array Oper} {t1 t2 d : Tmp} {g : FuncId} {regs : List (Nat × Array Oper)} {catchO : rQ} {args : List Value} {h : aA} {Q : bR → Prop}
  (hx : X f = some (lW P G n results ops t1 t2 d g regs catchO)) (hm : ∀ C C', bK.le C C' → ∀ v1 v2 ch h h4, catchO C v1 v2 ch h = some h4 → catchO C' v1 v2 ch h = some h4) (hl : args.length ≤ n)
  (hw : WR P G X n ops ops.toList (jL args) h (fun e1 h1 => ∃ v1 v2, e1 t1 = some v1 ∧ e1 t2 = some v2 ∧ yG P G X n regs (bL e1 d (.func (.func g) #[] #[v1, v2])) h1 (fun e3 h3 => ∃ vs, bV P e3 h3 results = some vs ∧ Q (.ret (answer vs) h3))
   (fun ch h3 => ∃ k h4 vs, catchO (bZ P G X k) v1 v2 ch h3 = some h4 ∧ bV P (bL e1 d (.func (.func g) #[] #[v1, v2])) h4 results = some vs ∧ Q (.ret (answer vs) h4))) (fun _ _ => False)) : aS P G X f args h Q := by
 obtain ⟨k1, r1, h1, hq1⟩ := WR.out hX hw
 cases r1 with
 | panic ch h' => exact hq1.elim
 | ok e1 h1' =>
  obtain ⟨v1, v2, ht1, ht2, hw2⟩ := hq1
  obtain ⟨k2, r2, h2, hq2⟩ := yG.out hX _ hw2
  have h1' := dZ (cR hX (Nat.le_max_left k1 k2)) _ h1
  have h2' := iZ (cR hX (Nat.le_max_right k1 k2)) _ h2
  refine aS.intro ?_
  have key : ∀ r, lW P G n results ops t1 t2 d g regs catchO (bZ P G X (max k1 k2)) args h = some r → bZ P G X (max k1 k2 + 1) f args h = some r := by
   intro r hr
   simp only [bZ, hx]; exact hr
  cases r2 with
  | ok e3 h3 =>
   obtain ⟨vs, hvs, hq⟩ := hq2
   refine ⟨max k1 k2 + 1, _, key _ ?_, hq⟩
   unfold lW
   rw [if_pos hl]
   simp only [h1', ht1, ht2, h2', hvs, Option.map_some]
  | panic ch h3 =>
   obtain ⟨k3, h4, vs, hc, hvs, hq⟩ := hq2
   have h1' := dZ (cR hX (Nat.le_trans (Nat.le_max_left k1 k2) (Nat.le_max_left _ k3))) _ h1
   have h2' := iZ (cR hX (Nat.le_trans (Nat.le_max_right k1 k2) (Nat.le_max_left _ k3))) _ h2
   have hc' := hm _ _ (cR hX (Nat.le_max_right (max k1 k2) k3)) _ _ _ _ _ hc
   refine ⟨max (max k1 k2) k3 + 1, .ret (answer vs) h4, ?_, hq⟩
   have hr : lW P G n results ops t1 t2 d g regs catchO (bZ P G X (max (max k1 k2) k3)) args h = some (.ret (answer vs) h4) := by
    unfold lW
    rw [if_pos hl]
    simp only [h1', ht1, ht2, h2', hc', hvs, Option.map_some]
   simp only [bZ, hx]; exact hr

theorem WC.aNo {id : Nat} {ops : Array Oper} {dr : Bool} {env : Env} {h : aA} {N : Env → aA → Prop} (hw : WC P G X n (.region id ops dr) env h N (fun _ _ _ => False) (fun _ _ => False) (fun _ _ => False)) :
  ∃ k e h', lO P G (bZ P G X k) n ops dr env h = some (.ok e h') ∧ N e h' := by
 unfold WC at hw
 obtain ⟨k, x, e, h', he, hq⟩ := hw
 cases k with
 | zero => simp [exec] at he
 | succ k =>
  unfold exec at he
  simp only at he
  split at he
  ·rename_i e2 h2 hr
   cases he
   exact ⟨k + 1, _, _, hr, hq⟩
  ·cases he; exact hq.elim
  ·cases he

end
end Go.Am
end

section
namespace Go.Am
open Go.RowKit (Below)

def ASl (h : aA) (b : Option Addr) (n es : Nat) (vs : List Value) : Prop :=
 (b = none ∧ n = 0 ∧ es = 0 ∧ vs = []) ∨ ∃ i, b = some ⟨i, 0, none⟩ ∧ i < h.next ∧ es = 1 ∧ n = vs.length ∧ h.obj i = some (.cells true vs)

theorem ASl.len {h : aA} {b : Option Addr} {n es : Nat} {vs : List Value} (ha : ASl h b n es vs) : n = vs.length := by
 rcases ha with ⟨_, rfl, _, rfl⟩ | ⟨i, _, _, _, rfl, _⟩ <;> rfl

end Go.Am
end

section
namespace Go.Am
open Go.RowKit Go.ChangeShapes

section
variable {H : Type} {enc : TypeId × Value → H} {P : Program}

theorem q6 (hlo : laidOutB P = true) {W W' : World} (hb : Below W.heap.size W W') {sp : Nat → Bool} : ∀ (ts : List TypeId) (vs : List Value) (ds : List (DataW H)) (p : List MemPlace),
  ts.all (fun t => P.readableRec t && decide (t < P.types.size)) = true → DataW.TrodAll enc P W 0 (fun _ => true) true ts vs ds p → (∀ x ∈ p, x.block < W.heap.size) →
  (∀ x ∈ p, sp x.block = true) → DataW.TrodAll enc P W' 0 sp true ts vs ds p
 | [], vs, ds, p, _, h, _, _ => by
  obtain ⟨rfl, rfl, rfl⟩ := trodAll_nil h
  exact trodAll_mk0
 | t :: ts, vs, ds, p, hr, h, hlt, hsp => by
  obtain ⟨v, vs', d, ds', p1, p2, rfl, rfl, rfl, h1, h2⟩ := trodAll_cons h
  simp only [List.all_cons, Bool.and_eq_true, decide_eq_true_eq] at hr
  refine trodAll_cons_mk (WideElems.Trod_stays hlo hr.1.1 hr.1.2 h1 (fun x hx => hb.same (hlt x (List.mem_append_left _ hx))) (fun x hx => hsp x (List.mem_append_left _ hx))) ?_
  exact q6 hlo hb ts vs' ds' p2 hr.2 h2 (fun x hx => hlt x (List.mem_append_right _ hx)) (fun x hx => hsp x (List.mem_append_right _ hx))

theorem aHo {f : Func} {s : ChangeSpec} {apart fresh handsOn again : Bool} {t : TypeId} {W W' : World} {args : Array Value} {ds gs : List (DataW H)} {before : List MemPlace}
  (hlo : laidOutB P = true) (hvars : s.vars = []) (hres : f.resultTypes = #[t]) (hu : P.underlying t = some .bool)
  (hread : f.params.toList.all (fun t => P.readableRec t && decide (t < P.types.size)) = true)
  (hfn : s.fn H (ds ++ []) = { results := [.lit (.bool true)], args := ds })
  (hW : DataW.Whole enc P f.params.toList s.vars apart W args.toList ds gs before) (hb : Below W.heap.size W W') :
  s.post enc P f apart fresh handsOn again W args (.bool true) W' := by
 have hlt := hW.lt
 have hW0 := hW
 obtain ⟨p, q, hA, hV, rfl, hz, hn⟩ := hW
 rw [hvars] at hV
 obtain ⟨rfl, rfl⟩ := trodVars_none hV
 have hlt' : ∀ x ∈ p, x.block < W.heap.size := fun x hx => hlt x (List.mem_append_left _ hx)
 have hargs : ∀ sp : Nat → Bool, (∀ x ∈ p, sp x.block = true) → DataW.TrodAll enc P W' 0 sp true f.params.toList args.toList ds p := fun sp hsp => q6 hlo hb _ _ _ _ hread hA hlt' hsp
 have hr1 : ∀ (b : Nat) (sp : Nat → Bool) (hd : Bool), DataW.TrodAll enc P W' b sp hd f.resultTypes.toList ((Value.bool true).resultList f.resultTypes.size) [DataW.lit (.bool true)] [] := by
  intro b sp hd
  rw [hres]
  exact trodAll_mk1 (shut_bool hu true)
 refine ⟨ds, [], p ++ [], [], p, [], hW0, ?_, ?_, ?_, hb.frame _, fun _ => ⟨?_, [DataW.lit (.bool true)] ++ ds, [], p ++ [], ⟨p, [], ?_, ?_, rfl, ?_, ?_⟩, ?_⟩⟩
 ·rw [hfn]; exact hr1 _ _ _
 ·rw [hfn]; exact hargs _ fun x hx => by simpa using hlt' x hx
 ·rw [hfn, hvars]; rfl
 ·exact ok_one hres rfl (okWide_bool_mk hu true)
 ·have := trodAll_append (hargs (fun _ => true) fun _ _ => rfl) (hr1 0 (fun _ => true) true)
  simpa using this
 ·rw [hvars]; rfl
 ·intro b off hp
  rw [hb.frozen (p := ⟨b, off, none⟩) (hlt _ hp)]
  exact hz b off hp
 ·exact hn
 ·intro x hx _; exact hx
end
end Go.Am
end

section
namespace Go.Am
def Gr (h h' : aA) : Prop := h.next ≤ h'.next ∧ ∀ j, j < h.next → h'.obj j = h.obj j
theorem Gr.refl (h : aA) : Gr h h := ⟨Nat.le_refl _, fun _ _ => rfl⟩
theorem Gr.trans {a b c : aA} (x : Gr a b) (y : Gr b c) : Gr a c := ⟨Nat.le_trans x.1 y.1, fun j hj => (y.2 j (Nat.lt_of_lt_of_le hj x.1)).trans (x.2 j hj)⟩
theorem Gr.alloc (h : aA) (o : dS) : Gr h (h.alloc o) := ⟨by simp, fun j hj => bX (by omega) rfl⟩
theorem Gr.put {h h' : aA} (g : Gr h h') {i : Nat} {o : Option dS} (hi : h.next ≤ i) : Gr h (h'.put i o) := ⟨g.1, fun j hj => bF (by omega) (g.2 j hj)⟩
theorem Gr.at {h h' : aA} (g : Gr h h') {i : Nat} {o : Option dS} (hi : i < h.next) (ho : h.obj i = o) : h'.obj i = o := (g.2 i hi).trans ho
def cJ (p : Nat) (h h' : aA) : Prop := h.next ≤ h'.next ∧ ∀ j, j < h.next → j ≠ p → h'.obj j = h.obj j
theorem cJ.refl (p : Nat) (h : aA) : cJ p h h := ⟨Nat.le_refl _, fun _ _ _ => rfl⟩
theorem cJ.trans {p : Nat} {a b c : aA} (x : cJ p a b) (y : cJ p b c) : cJ p a c := ⟨Nat.le_trans x.1 y.1, fun j hj hp => (y.2 j (Nat.lt_of_lt_of_le hj x.1) hp).trans (x.2 j hj hp)⟩
theorem cJ.of {p : Nat} {a b : aA} (x : Gr a b) : cJ p a b := ⟨x.1, fun j hj _ => x.2 j hj⟩
theorem cJ.alloc {p : Nat} {h h' : aA} (f : cJ p h h') (o : dS) : cJ p h (h'.alloc o) := f.trans (.of (Gr.alloc _ _))
theorem cJ.put {p : Nat} {h h' : aA} (f : cJ p h h') {i : Nat} {o : Option dS} (hi : h.next ≤ i) : cJ p h (h'.put i o) := ⟨f.1, fun j hj hp => bF (by omega) (f.2 j hj hp)⟩
theorem cJ.self {p : Nat} {h h' : aA} (f : cJ p h h') {o : Option dS} : cJ p h (h'.put p o) := ⟨f.1, fun _ hj hp => bF hp (f.2 _ hj hp)⟩
theorem cJ.gr {p : Nat} {h h' h2 : aA} (f : cJ p h h') (g : Gr h' h2) : cJ p h h2 := f.trans (.of g)
theorem cJ.at {p : Nat} {a b : aA} (f : cJ p a b) {j : Nat} {o : Option dS} (hj : j < a.next) (hp : j ≠ p) (ho : a.obj j = o) : b.obj j = o := (f.2 j hj hp).trans ho
theorem iO.dC {i : Nat} {S : aA → Prop} {r : List Pe} {h : aA} (hr : iO r h) : iO ((i, S, false) :: r) h := hr
theorem iO.ask {i : Nat} {S : aA → Prop} {r : List Pe} {h : aA} (hs : S h) (hr : iO r h) : iO ((i, S, true) :: r) h := ⟨hs, hr⟩


















section
variable {P : Program} {G : Nat} {X : eQ} {n : Nat} {N : Env → aA → Prop} {E : Nat → Env → aA → Prop} {R : Env → aA → Prop} {F : List PanicEntry → aA → Prop} {env : Env} {h : aA} {ops o2 : Array Oper} {c : Operand} {a b : Code} {id i iA : Nat} {o : Oper} {l : List Oper} {m : List cQ} {pend : List Pe}
theorem QK (hw : WS P G X n false ops o env h (fun e h _ => WR P G X n ops l e h N F) F) : WR P G X n ops (o :: l) env h N F := WR.cons hw
theorem QL (hq : N env h) : WR P G X n ops [] env h N F := WR.nil hq
theorem QM (hq : R env h) : WR P G X n ops [] env h (fun e h => WC P G X n .ret e h N E R F) F := WR.nil (WC.ret hq)
theorem QN (hX : bW X) (hw : WR P G X n ops ops.toList env h (fun e h => WC P G X n b e h N E R F) F) : WC P G X n (.seq (.region id ops false) b) env h N E R F := WC.seq hX (WC.region hX hw)
theorem QO (hX : bW X) (hw : WR P G X n o2 o2.toList env h (fun e h => WC P G X n b e h N E R F) F) : WR P G X n ops [] env h (fun e h => WC P G X n (.seq (.region id o2 false) b) e h N E R F) F := WR.nil (WC.seq hX (WC.region hX hw))
theorem QP (hX : bW X) (hw : WC P G X n b env h N E R F) (hc : aJ G env c = some (.bool false) := by first | rfl | assumption) : WR P G X n ops [] env h (fun e h => WC P G X n (.cond c a b) e h N E R F) F := WR.nil (WC.aGz hX hc hw)
theorem QQ (hX : bW X) (hw : WC P G X n a env h N E R F) (hc : aJ G env c = some (.bool true) := by first | rfl | assumption) : WR P G X n ops [] env h (fun e h => WC P G X n (.cond c a b) e h N E R F) F := WR.nil (WC.aD5 hX hc hw)
theorem QR (hX : bW X) (hw : WC P G X n a env h N E R F) (hc : aJ G env c = some (.bool true) := by first | rfl | assumption) : WC P G X n (.cond c a b) env h N E R F := WC.aD5 hX hc hw
theorem QS (hX : bW X) (hw : WC P G X n b env h N E R F) (hc : aJ G env c = some (.bool false) := by first | rfl | assumption) : WC P G X n (.cond c a b) env h N E R F := WC.aGz hX hc hw
theorem QU (hX : bW X) (hw : WC P G X n a env h (fun e h => WC P G X n b e h N E R F) E R F) : WC P G X n (.seq a b) env h N E R F := WC.seq hX hw
theorem QV (hX : bW X) (hw : WR P G X n ops ops.toList env h N F) : WC P G X n (.region id ops false) env h N E R F := WC.region hX hw
theorem UA (hq : N env h) : WC P G X n .skip env h N E R F := WC.skip hq
theorem QW (ho : ops[i]? = some o := by rfl) (k : WS P G X n true ops o env h (fun e h _ => WD P G X n ops m pend e h N F) F) : WD P G X n ops (⟨i, .pure, iA⟩ :: m) pend env h N F := WD.pure ho k
theorem QX (ho : ops[i]? = some o := by rfl) (k : WS P G X n true ops o env h (fun e h S => WD P G X n ops m (pend ++ [(i, S, false)]) e h N F) F) : WD P G X n ops (⟨i, .read, iA⟩ :: m) pend env h N F := WD.read ho k
end
section
variable {P : Program} {G : Nat} {X : eQ} {n : Nat} {F : List PanicEntry → aA → Prop} {env : Env} {h : aA} {lt : Bool} {ops : Array Oper} {d : Nat} {t : TypeId} {p : String} {a : Array Edge} {g : Option (Nat × Bool)} {K : Env → aA → (aA → Prop) → Prop}
theorem Qg {ty : TypeId} {x y : Operand} {c} {i j : Int} (hk : K (bL env d (.int .i64 (i - j))) h fun _ => True) (hg : cT ops env g = some true := by rfl) (hn : Nat.blt d n = true := by rfl) (hx : aJ G env x = some (.int .i64 i) := by first | rfl | assumption) (hy : aJ G env y = some (.int .i64 j) := by first | rfl | assumption) (hr : -9223372036854775808 ≤ i - j ∧ i - j ≤ 9223372036854775807 := by omega) : WS P G X n lt ops ⟨some d, .binOp .sub ty x y c, t, p, a, g⟩ env h K F := WS.aQa (hg := hg) (hn := hn) (hx := hx) (hy := hy) (hr := hr) (hk := hk)
theorem Qo {ty : TypeId} {x : Operand} {v : Value} {u} (hk : K (bL env d (.iface ty v)) h fun _ => True) (hg : cT ops env g = some true := by rfl) (hn : Nat.blt d n = true := by rfl) (hx : aJ G env x = some v := by first | rfl | assumption) (hu : P.underlying ty = some u := by rfl) (hi : ∀ m, u ≠ .interface m := by (intro m hm; cases hm)) : WS P G X n lt ops ⟨some d, .makeInterface ty x, t, p, a, g⟩ env h K F := WS.iface (hg := hg) (hn := hn) (hx := hx) (hu := hu) (hi := hi) (hk := hk)
theorem Qv {ty : TypeId} {x y : Operand} {i off : Nat} {v : Value} {cs cs' : List Value} (hk : K env (h.put i (some (.cells false cs'))) fun _ => True) (hg : cT ops env g = some true := by rfl) (hx : aJ G env x = some (.pointer (some ⟨i, off, none⟩)) := by first | rfl | assumption) (hy : aJ G env y = some v := by first | rfl | assumption) (hz : dF P ty = some v.cells.size := by rfl) (ho : h.obj i = some (.cells false cs) := by exact aD) (hf : off + v.cells.size ≤ cs.length := by first | (exact Nat.le_of_ble_eq_true rfl) | (simp; done) | omega) (h1 : v.cells.toList.all (·.oneCell') = true := by rfl) (hs' : dB (cI cs off v.cells.toList) = some cs' := by rfl) : WS P G X n false ops ⟨none, .store ty x y, t, p, a, g⟩ env h K F := WS.store (hg := hg) (hx := hx) (hy := hy) (hz := hz) (ho := ho) (hf := hf) (h1 := h1) (hs' := hs') (hk := hk)
theorem Qw {e : TypeId} {z : Value} {cs : List Value} (hk : K (bL env d (.pointer (some ⟨h.next, 0, none⟩))) (h.alloc (.cells false cs)) fun _ => False) (hg : cT ops env g = some true := by rfl) (hn : Nat.blt d n = true := by rfl) (hz : gC P e = some z := by rfl) (hcs' : dB z.cells.toList = some cs := by rfl) : WS P G X n lt ops ⟨some d, .alloc e, t, p, a, g⟩ env h K F := WS.alloc (hg := hg) (hn := hn) (hz := hz) (hcs' := hcs') (hk := hk)
theorem Qz {ty e : TypeId} {parts} {ps : List (Nat × Value)} {vs : List (Array Value)} {len m : Nat} {z : Value} {cs : List Value} (hk : K (bL env d (.slice (some ⟨h.next, 0, none⟩) len m)) (h.alloc (.cells false cs)) fun _ => False) (hg : cT ops env g = some true := by rfl) (hn : Nat.blt d n = true := by rfl) (hp : c9 G env parts.toList = some ps := by rfl) (hu : P.underlying ty = some (.slice e) := by rfl) (hm : dF P e = some m := by exact fF rfl) (hz : gC P e = some z := by rfl) (hok : (z.cells.size = m && 0 < m && len * m ≤ 16777216) = true := by rfl) (hv : kC 0 ps = some vs := by rfl) (hl : vs.length = len := by rfl) (hs : vs.all (fun a => a.size == m) = true := by rfl) (hcs' : dB (vs.map (·.toList)).flatten = some cs := by rfl) : WS P G X n lt ops ⟨some d, .buildSlice ty len parts, t, p, a, g⟩ env h K F := WS.yH (hg := hg) (hn := hn) (hp := hp) (hu := hu) (hm := hm) (hz := hz) (hok := hok) (hv := hv) (hl := hl) (hs := hs) (hcs' := hcs') (hk := hk)
theorem QA {lt : Bool} {ops : Array Oper} {op : Op} {d t p a g} {K : Env → aA → (aA → Prop) → Prop} (hk : K (bL env d undef) h fun _ => True) (hg : cT ops env (some g) = some false := by rfl) (hn : Nat.blt d n = true := by rfl) : WS P G X n lt ops ⟨some d, op, t, p, a, some g⟩ env h K F := WS.uw (hg := hg) (hn := hn) (hk := hk)
theorem QB {ty : TypeId} {x y : Operand} {c} {i j : ByteArray} (h1 : i = j → K (bL env d (.bool true)) h fun _ => True) (h2 : ¬(i = j) → K (bL env d (.bool false)) h fun _ => True) (hg : cT ops env g = some true := by rfl) (hn : Nat.blt d n = true := by rfl) (hx : aJ G env x = some (.string i) := by first | rfl | assumption) (hy : aJ G env y = some (.string j) := by first | rfl | assumption) : WS P G X n lt ops ⟨some d, .binOp .eql ty x y c, t, p, a, g⟩ env h K F := WS.eqS (hg := hg) (hn := hn) (hx := hx) (hy := hy) (h1 := h1) (h2 := h2)
theorem QD {ty : TypeId} {x y : Operand} {c} {k : IntKind} {i j : Int} (h1 : i = j → K (bL env d (.bool true)) h fun _ => True) (h2 : ¬(i = j) → K (bL env d (.bool false)) h fun _ => True) (hg : cT ops env g = some true := by rfl) (hn : Nat.blt d n = true := by rfl) (hx : aJ G env x = some (.int k i) := by first | rfl | assumption) (hy : aJ G env y = some (.int k j) := by first | rfl | assumption) : WS P G X n lt ops ⟨some d, .binOp .eql ty x y c, t, p, a, g⟩ env h K F := WS.eqI (hg := hg) (hn := hn) (hx := hx) (hy := hy) (h1 := h1) (h2 := h2)
theorem QF {ty : TypeId} {x y : Operand} {c} {k : IntKind} {i j : Int} (h1 : i < j → K (bL env d (.bool true)) h fun _ => True) (h2 : ¬(i < j) → K (bL env d (.bool false)) h fun _ => True) (hg : cT ops env g = some true := by rfl) (hn : Nat.blt d n = true := by rfl) (hx : aJ G env x = some (.int k i) := by first | rfl | assumption) (hy : aJ G env y = some (.int k j) := by first | rfl | assumption) : WS P G X n lt ops ⟨some d, .binOp .lss ty x y c, t, p, a, g⟩ env h K F := WS.ltI (hg := hg) (hn := hn) (hx := hx) (hy := hy) (h1 := h1) (h2 := h2)
theorem QJ {f : FuncId} {args tys} {vs : List Value} (he : ∀ vs, aQ P f vs = some (.enter f vs)) (hk : aS P G X f vs h fun r => match r with | .ret v h' => K (bL env d v) h' (fun _ => True) | .panic ch h' => F ch h') (hg : cT ops env g = some true := by rfl) (hn : Nat.blt d n = true := by rfl) (ha : bO G env args.toList = some vs := by rfl) : WS P G X n false ops ⟨some d, .call ⟨.value (.func f), args, tys⟩, t, p, a, g⟩ env h K F := WS.pJ (hg := hg) (hn := hn) (ha := ha) (he := he) (hk := hk)
end
theorem UB (h : aA) (o : dS) : (h.alloc o).next = h.next + 1 := rfl
theorem UC (h : aA) (i : Nat) (o : Option dS) : (h.put i o).next = h.next := rfl
section
variable {P : Program} {G : Nat} {X : eQ} {n : Nat} {F : List PanicEntry → aA → Prop} {env : Env} {h : aA} {ops : Array Oper} {l : List Oper} {N : Env → aA → Prop} {d : Nat} {t : TypeId} {p : String} {a : Array Edge} {g : Option (Nat × Bool)}
theorem Ma {x : Operand} {v : Value} (hg : cT ops env g = some true := by rfl) (hn : Nat.blt d n = true := by rfl) (hx : aJ G env x = some v := by first | rfl | assumption) (w : WR P G X n ops l (bL env d v) h N F) : WR P G X n ops (⟨some d, .move x, t, p, a, g⟩ :: l) env h N F := WR.cons (WS.move (hg := hg) (hn := hn) (hx := hx) (hk := w))
theorem Mb {x : Operand} {v : Value} (hg : cT ops env g = some true := by rfl) (hn : Nat.blt d n = true := by rfl) (hx : aJ G env x = some v := by first | rfl | assumption) (w : WR P G X n ops l (bL env d v) h N F) : WR P G X n ops (⟨some d, .assign x, t, p, a, g⟩ :: l) env h N F := WR.cons (WS.assign (hg := hg) (hn := hn) (hx := hx) (hk := w))
theorem Mc {c x y : Operand} {v : Value} (hg : cT ops env g = some true := by rfl) (hn : Nat.blt d n = true := by rfl) (hc : aJ G env c = some (.bool true) := by first | rfl | assumption) (hx : aJ G env x = some v := by first | rfl | assumption) (w : WR P G X n ops l (bL env d v) h N F) : WR P G X n ops (⟨some d, .pick c x y, t, p, a, g⟩ :: l) env h N F := WR.cons (WS.aL8 (hg := hg) (hn := hn) (hc := hc) (hx := hx) (hk := w))
theorem Md {c x y : Operand} {v : Value} (hg : cT ops env g = some true := by rfl) (hn : Nat.blt d n = true := by rfl) (hc : aJ G env c = some (.bool false) := by first | rfl | assumption) (hy : aJ G env y = some v := by first | rfl | assumption) (w : WR P G X n ops l (bL env d v) h N F) : WR P G X n ops (⟨some d, .pick c x y, t, p, a, g⟩ :: l) env h N F := WR.cons (WS.aL7 (hg := hg) (hn := hn) (hc := hc) (hy := hy) (hk := w))
theorem Me {ty : TypeId} {x : Operand} {b : Bool} (hg : cT ops env g = some true := by rfl) (hn : Nat.blt d n = true := by rfl) (hx : aJ G env x = some (.bool b) := by first | rfl | assumption) (w : WR P G X n ops l (bL env d (.bool !b)) h N F) : WR P G X n ops (⟨some d, .unOp .not ty x, t, p, a, g⟩ :: l) env h N F := WR.cons (WS.not (hg := hg) (hn := hn) (hx := hx) (hk := w))
theorem Mf {ty : TypeId} {x y : Operand} {c} {i j : Int} (hg : cT ops env g = some true := by rfl) (hn : Nat.blt d n = true := by rfl) (hx : aJ G env x = some (.int .i64 i) := by first | rfl | assumption) (hy : aJ G env y = some (.int .i64 j) := by first | rfl | assumption) (hr : -9223372036854775808 ≤ i + j ∧ i + j ≤ 9223372036854775807 := by omega) (w : WR P G X n ops l (bL env d (.int .i64 (i + j))) h N F) : WR P G X n ops (⟨some d, .binOp .add ty x y c, t, p, a, g⟩ :: l) env h N F := WR.cons (WS.aOk (hg := hg) (hn := hn) (hx := hx) (hy := hy) (hr := hr) (hk := w))
theorem Mg {ty : TypeId} {x y : Operand} {c} {i j : Int} (hg : cT ops env g = some true := by rfl) (hn : Nat.blt d n = true := by rfl) (hx : aJ G env x = some (.int .i64 i) := by first | rfl | assumption) (hy : aJ G env y = some (.int .i64 j) := by first | rfl | assumption) (hr : -9223372036854775808 ≤ i - j ∧ i - j ≤ 9223372036854775807 := by omega) (w : WR P G X n ops l (bL env d (.int .i64 (i - j))) h N F) : WR P G X n ops (⟨some d, .binOp .sub ty x y c, t, p, a, g⟩ :: l) env h N F := WR.cons (WS.aQa (hg := hg) (hn := hn) (hx := hx) (hy := hy) (hr := hr) (hk := w))
theorem Mh {ty : TypeId} {x y : Operand} {c} {i j : ByteArray} (hg : cT ops env g = some true := by rfl) (hn : Nat.blt d n = true := by rfl) (hx : aJ G env x = some (.string i) := by first | rfl | assumption) (hy : aJ G env y = some (.string j) := by first | rfl | assumption) (hs : i.size + j.size ≤ 140737488355328 := by first | omega | ((try simp only [ByteArray.size_append, aBi, List.size_toArray, List.length_cons, List.length_nil]); omega)) (w : WR P G X n ops l (bL env d (.string (i ++ j))) h N F) : WR P G X n ops (⟨some d, .binOp .add ty x y c, t, p, a, g⟩ :: l) env h N F := WR.cons (WS.aQk (hg := hg) (hn := hn) (hx := hx) (hy := hy) (hs := hs) (hk := w))
theorem Mi {x : Operand} {q : Addr} (hg : cT ops env g = some true := by rfl) (hn : Nat.blt d n = true := by rfl) (hx : aJ G env x = some (.pointer (some q)) := by first | rfl | assumption) (w : WR P G X n ops l (bL env d (.pointer (some q))) h N F) : WR P G X n ops (⟨some d, .nilCheck x, t, p, a, g⟩ :: l) env h N F := WR.cons (WS.nilCheck (hg := hg) (hn := hn) (hx := hx) (hk := w))
theorem Mj {ty : TypeId} {x : Operand} {f : Nat} {i off o : Nat} (hg : cT ops env g = some true := by rfl) (hn : Nat.blt d n = true := by rfl) (hx : aJ G env x = some (.pointer (some ⟨i, off, none⟩)) := by first | rfl | assumption) (hv : (kA P ty)[f]? = some (some o) := by exact zQ rfl rfl) (w : WR P G X n ops l (bL env d (.pointer (some ⟨i, off + o, none⟩))) h N F) : WR P G X n ops (⟨some d, .fieldAddr ty x f, t, p, a, g⟩ :: l) env h N F := WR.cons (WS.fieldAddr (hg := hg) (hn := hn) (hx := hx) (hv := hv) (hk := w))
theorem Mk {ty : TypeId} {x : Operand} {f : Nat} {u v0 v : Value} (hg : cT ops env g = some true := by rfl) (hn : Nat.blt d n = true := by rfl) (hx : aJ G env x = some u := by first | rfl | assumption) (hv0 : rD P ty u f = some v0 := by rfl) (hf : q3 v0 = some v := by rfl) (w : WR P G X n ops l (bL env d v) h N F) : WR P G X n ops (⟨some d, .field ty x f, t, p, a, g⟩ :: l) env h N F := WR.cons (WS.field (hg := hg) (hn := hn) (hx := hx) (hv0 := hv0) (hf := hf) (hk := w))
theorem Ml {ty : TypeId} {x y : Operand} {e : TypeId} {i off len es : Nat} {k : Int} {q} (hg : cT ops env g = some true := by rfl) (hn : Nat.blt d n = true := by rfl) (hx : aJ G env x = some (.slice (some ⟨i, off, none⟩) len es) := by first | rfl | assumption) (hy : aJ G env y = some (.int q k) := by first | rfl | assumption) (hu : P.underlying ty = some (.slice e) := by rfl) (hs : dF P e = some es := by exact fF rfl) (hb : 0 ≤ k ∧ k < len := by omega) (w : WR P G X n ops l (bL env d (.pointer (some ⟨i, off + k.toNat * es, none⟩))) h N F) : WR P G X n ops (⟨some d, .indexAddr ty x y, t, p, a, g⟩ :: l) env h N F := WR.cons (WS.indexAddr (hg := hg) (hn := hn) (hx := hx) (hy := hy) (hu := hu) (hs := hs) (hb := hb) (hk := w))
theorem Mm {ty : TypeId} {x y : Operand} {s : ByteArray} {k : Int} {q} (hg : cT ops env g = some true := by rfl) (hn : Nat.blt d n = true := by rfl) (hx : aJ G env x = some (.string s) := by first | rfl | assumption) (hy : aJ G env y = some (.int q k) := by first | rfl | assumption) (hu : P.underlying ty = some .string := by rfl) (hb : 0 ≤ k ∧ k < s.size := by omega) (w : WR P G X n ops l (bL env d (.int .u8 (bD s k))) h N F) : WR P G X n ops (⟨some d, .index ty x y, t, p, a, g⟩ :: l) env h N F := WR.cons (WS.aHl (hg := hg) (hn := hn) (hx := hx) (hy := hy) (hu := hu) (hb := hb) (hk := w))
theorem Mn {ty : TypeId} {parts} {ps} {v0 v : Value} (hg : cT ops env g = some true := by rfl) (hn : Nat.blt d n = true := by rfl) (hp : c9 G env parts.toList = some ps := by rfl) (hv0 : q9 P ty ps = some v0 := by rfl) (hf : q3 v0 = some v := by rfl) (w : WR P G X n ops l (bL env d v) h N F) : WR P G X n ops (⟨some d, .build ty parts, t, p, a, g⟩ :: l) env h N F := WR.cons (WS.build (hg := hg) (hn := hn) (hp := hp) (hv0 := hv0) (hf := hf) (hk := w))
theorem Mo {ty : TypeId} {x : Operand} {v : Value} {u} (hg : cT ops env g = some true := by rfl) (hn : Nat.blt d n = true := by rfl) (hx : aJ G env x = some v := by first | rfl | assumption) (hu : P.underlying ty = some u := by rfl) (hi : ∀ m, u ≠ .interface m := by (intro m hm; cases hm)) (w : WR P G X n ops l (bL env d (.iface ty v)) h N F) : WR P G X n ops (⟨some d, .makeInterface ty x, t, p, a, g⟩ :: l) env h N F := WR.cons (WS.iface (hg := hg) (hn := hn) (hx := hx) (hu := hu) (hi := hi) (hk := w))
theorem Mp {fn : Fn} {first cap : Array Operand} {f c} (hg : cT ops env g = some true := by rfl) (hn : Nat.blt d n = true := by rfl) (hf : bO G env first.toList = some f := by first | rfl | exact bC (by first | rfl | assumption) rfl | exact bC (by first | rfl | assumption) (bC (by first | rfl | assumption) rfl) | exact bC (by first | rfl | assumption) (bC (by first | rfl | assumption) (bC (by first | rfl | assumption) rfl))) (hc : bO G env cap.toList = some c := by first | rfl | exact bC (by first | rfl | assumption) rfl | exact bC (by first | rfl | assumption) (bC (by first | rfl | assumption) rfl) | exact bC (by first | rfl | assumption) (bC (by first | rfl | assumption) (bC (by first | rfl | assumption) rfl))) (w : WR P G X n ops l (bL env d (.func fn f.toArray c.toArray)) h N F) : WR P G X n ops (⟨some d, .makeFunc fn first cap, t, p, a, g⟩ :: l) env h N F := WR.cons (WS.makeFunc (hg := hg) (hn := hn) (hf := hf) (hc := hc) (hk := w))
theorem Mq {x : Operand} {i : Nat} {vs : Array Value} {v0 v : Value} (hg : cT ops env g = some true := by rfl) (hn : Nat.blt d n = true := by rfl) (hx : aJ G env x = some (.tuple vs) := by first | rfl | assumption) (hv : vs[i]? = some v0 := by rfl) (hf : q3 v0 = some v := by rfl) (w : WR P G X n ops l (bL env d v) h N F) : WR P G X n ops (⟨some d, .extract x i, t, p, a, g⟩ :: l) env h N F := WR.cons (WS.aHc (hg := hg) (hn := hn) (hx := hx) (hv := hv) (hf := hf) (hk := w))
theorem Mr {ty : TypeId} {x : Operand} {s : ByteArray} (hg : cT ops env g = some true := by rfl) (hn : Nat.blt d n = true := by rfl) (hx : aJ G env x = some (.string s) := by first | rfl | assumption) (hu : P.underlying ty = some .string := by rfl) (w : WR P G X n ops l (bL env d (.int .i64 s.size)) h N F) : WR P G X n ops (⟨some d, .call ⟨.builtin .len, #[x], #[ty]⟩, t, p, a, g⟩ :: l) env h N F := WR.cons (WS.aP2 (hg := hg) (hn := hn) (hx := hx) (hu := hu) (hk := w))
theorem Ms {ty e : TypeId} {x : Operand} {b} {m es : Nat} (hg : cT ops env g = some true := by rfl) (hn : Nat.blt d n = true := by rfl) (hx : aJ G env x = some (.slice b m es) := by first | rfl | assumption) (hu : P.underlying ty = some (.slice e) := by rfl) (w : WR P G X n ops l (bL env d (.int .i64 m)) h N F) : WR P G X n ops (⟨some d, .call ⟨.builtin .len, #[x], #[ty]⟩, t, p, a, g⟩ :: l) env h N F := WR.cons (WS.aP1 (hg := hg) (hn := hn) (hx := hx) (hu := hu) (hk := w))
theorem Mt {ty : TypeId} {x : Operand} {i off : Nat} {v : Value} {ro : Bool} {cs : List Value} (hg : cT ops env g = some true := by rfl) (hn : Nat.blt d n = true := by rfl) (hx : aJ G env x = some (.pointer (some ⟨i, off, none⟩)) := by first | rfl | assumption) (ht : u0 P ty = some false := by rfl) (ho : h.obj i = some (.cells ro cs) := by exact aD) (hc : cs[off]? = some v := by rfl) (w : WR P G X n ops l (bL env d v) h N F) : WR P G X n ops (⟨some d, .load ty x, t, p, a, g⟩ :: l) env h N F := WR.cons (WS.jC (hg := hg) (hn := hn) (hx := hx) (ht := ht) (ho := ho) (hc := hc) (hk := w))
theorem Mu {ty : TypeId} {x : Operand} {i off m : Nat} {ro : Bool} {cs vs : List Value} (hg : cT ops env g = some true := by rfl) (hn : Nat.blt d n = true := by rfl) (hx : aJ G env x = some (.pointer (some ⟨i, off, none⟩)) := by first | rfl | assumption) (ht : u0 P ty = some true := by rfl) (hs : dF P ty = some m := by exact fF rfl) (ho : h.obj i = some (.cells ro cs) := by exact aD) (hc : off + m ≤ cs.length := by first | (exact Nat.le_of_ble_eq_true rfl) | (simp; done) | omega) (hv' : dB ((cs.drop off).take m) = some vs := by rfl) (w : WR P G X n ops l (bL env d (.agg vs.toArray)) h N F) : WR P G X n ops (⟨some d, .load ty x, t, p, a, g⟩ :: l) env h N F := WR.cons (WS.pT (hg := hg) (hn := hn) (hx := hx) (ht := ht) (hs := hs) (ho := ho) (hc := hc) (hv' := hv') (hk := w))
theorem Mv {ty : TypeId} {x y : Operand} {i off : Nat} {v : Value} {cs cs' : List Value} (hg : cT ops env g = some true := by rfl) (hx : aJ G env x = some (.pointer (some ⟨i, off, none⟩)) := by first | rfl | assumption) (hy : aJ G env y = some v := by first | rfl | assumption) (hz : dF P ty = some v.cells.size := by rfl) (ho : h.obj i = some (.cells false cs) := by exact aD) (hf : off + v.cells.size ≤ cs.length := by first | (exact Nat.le_of_ble_eq_true rfl) | (simp; done) | omega) (h1 : v.cells.toList.all (·.oneCell') = true := by rfl) (hs' : dB (cI cs off v.cells.toList) = some cs' := by rfl) (w : WR P G X n ops l env (h.put i (some (.cells false cs'))) N F) : WR P G X n ops (⟨none, .store ty x y, t, p, a, g⟩ :: l) env h N F := WR.cons (WS.store (hg := hg) (hx := hx) (hy := hy) (hz := hz) (ho := ho) (hf := hf) (h1 := h1) (hs' := hs') (hk := w))
theorem Mw {e : TypeId} {z : Value} {cs : List Value} (hg : cT ops env g = some true := by rfl) (hn : Nat.blt d n = true := by rfl) (hz : gC P e = some z := by rfl) (hcs' : dB z.cells.toList = some cs := by rfl) (w : WR P G X n ops l (bL env d (.pointer (some ⟨h.next, 0, none⟩))) (h.alloc (.cells false cs)) N F) : WR P G X n ops (⟨some d, .alloc e, t, p, a, g⟩ :: l) env h N F := WR.cons (WS.alloc (hg := hg) (hn := hn) (hz := hz) (hcs' := hcs') (hk := w))
theorem Mx {e : TypeId} {x : Operand} {v : Value} {cs : List Value} (hg : cT ops env g = some true := by rfl) (hn : Nat.blt d n = true := by rfl) (hx : aJ G env x = some v := by first | rfl | assumption) (hcs' : dB v.cells.toList = some cs := by rfl) (w : WR P G X n ops l (bL env d (.pointer (some ⟨h.next, 0, none⟩))) (h.alloc (.cells false cs)) N F) : WR P G X n ops (⟨some d, .box e x, t, p, a, g⟩ :: l) env h N F := WR.cons (WS.box (hg := hg) (hn := hn) (hx := hx) (hcs' := hcs') (hk := w))
theorem My {ty e : TypeId} {parts} {ps} {len m : Nat} {z : Value} {cs0 cs : List Value} (hg : cT ops env g = some true := by rfl) (hn : Nat.blt d n = true := by rfl) (hp : c9 G env parts.toList = some ps := by rfl) (hu : P.underlying ty = some (.slice e) := by rfl) (hm : dF P e = some m := by exact fF rfl) (hz : gC P e = some z := by rfl) (hok : (z.cells.size = m && 0 < m && len * m ≤ 16777216) = true := by rfl) (hcs0 : jA (fun i => some (i * m, m)) (fN z len) ps = some cs0 := by rfl) (hcs' : dB cs0 = some cs := by rfl) (w : WR P G X n ops l (bL env d (.slice (some ⟨h.next, 0, none⟩) len m)) (h.alloc (.cells false cs)) N F) : WR P G X n ops (⟨some d, .buildSlice ty len parts, t, p, a, g⟩ :: l) env h N F := WR.cons (WS.buildSlice (hg := hg) (hn := hn) (hp := hp) (hu := hu) (hm := hm) (hz := hz) (hok := hok) (hcs0 := hcs0) (hcs' := hcs') (hk := w))
theorem Mz {ty e : TypeId} {parts} {ps : List (Nat × Value)} {vs : List (Array Value)} {len m : Nat} {z : Value} {cs : List Value} (hg : cT ops env g = some true := by rfl) (hn : Nat.blt d n = true := by rfl) (hp : c9 G env parts.toList = some ps := by rfl) (hu : P.underlying ty = some (.slice e) := by rfl) (hm : dF P e = some m := by exact fF rfl) (hz : gC P e = some z := by rfl) (hok : (z.cells.size = m && 0 < m && len * m ≤ 16777216) = true := by rfl) (hv : kC 0 ps = some vs := by rfl) (hl : vs.length = len := by rfl) (hs : vs.all (fun a => a.size == m) = true := by rfl) (hcs' : dB (vs.map (·.toList)).flatten = some cs := by rfl) (w : WR P G X n ops l (bL env d (.slice (some ⟨h.next, 0, none⟩) len m)) (h.alloc (.cells false cs)) N F) : WR P G X n ops (⟨some d, .buildSlice ty len parts, t, p, a, g⟩ :: l) env h N F := WR.cons (WS.yH (hg := hg) (hn := hn) (hp := hp) (hu := hu) (hm := hm) (hz := hz) (hok := hok) (hv := hv) (hl := hl) (hs := hs) (hcs' := hcs') (hk := w))
theorem MA {ops : Array Oper} {op : Op} {d t p a g} (hg : cT ops env (some g) = some false := by rfl) (hn : Nat.blt d n = true := by rfl) (w : WR P G X n ops l (bL env d undef) h N F) : WR P G X n ops (⟨some d, op, t, p, a, some g⟩ :: l) env h N F := WR.cons (WS.uw (hg := hg) (hn := hn) (hk := w))
theorem MB {ty : TypeId} {x y : Operand} {c} {i j : ByteArray} (hg : cT ops env g = some true := by rfl) (hn : Nat.blt d n = true := by rfl) (hx : aJ G env x = some (.string i) := by first | rfl | assumption) (hy : aJ G env y = some (.string j) := by first | rfl | assumption) (w : i = j → WR P G X n ops l (bL env d (.bool true)) h N F) (v : ¬(i = j) → WR P G X n ops l (bL env d (.bool false)) h N F) : WR P G X n ops (⟨some d, .binOp .eql ty x y c, t, p, a, g⟩ :: l) env h N F := WR.cons (WS.eqS (hg := hg) (hn := hn) (hx := hx) (hy := hy) (h1 := w) (h2 := v))
theorem MC {ty : TypeId} {x y : Operand} {c} {i j : ByteArray} (hg : cT ops env g = some true := by rfl) (hn : Nat.blt d n = true := by rfl) (hx : aJ G env x = some (.string i) := by first | rfl | assumption) (hy : aJ G env y = some (.string j) := by first | rfl | assumption) (w : i ≠ j → WR P G X n ops l (bL env d (.bool true)) h N F) (v : ¬(i ≠ j) → WR P G X n ops l (bL env d (.bool false)) h N F) : WR P G X n ops (⟨some d, .binOp .neq ty x y c, t, p, a, g⟩ :: l) env h N F := WR.cons (WS.neS (hg := hg) (hn := hn) (hx := hx) (hy := hy) (h1 := w) (h2 := v))
theorem MD {ty : TypeId} {x y : Operand} {c} {k : IntKind} {i j : Int} (hg : cT ops env g = some true := by rfl) (hn : Nat.blt d n = true := by rfl) (hx : aJ G env x = some (.int k i) := by first | rfl | assumption) (hy : aJ G env y = some (.int k j) := by first | rfl | assumption) (w : i = j → WR P G X n ops l (bL env d (.bool true)) h N F) (v : ¬(i = j) → WR P G X n ops l (bL env d (.bool false)) h N F) : WR P G X n ops (⟨some d, .binOp .eql ty x y c, t, p, a, g⟩ :: l) env h N F := WR.cons (WS.eqI (hg := hg) (hn := hn) (hx := hx) (hy := hy) (h1 := w) (h2 := v))
theorem ME {ty : TypeId} {x y : Operand} {c} {k : IntKind} {i j : Int} (hg : cT ops env g = some true := by rfl) (hn : Nat.blt d n = true := by rfl) (hx : aJ G env x = some (.int k i) := by first | rfl | assumption) (hy : aJ G env y = some (.int k j) := by first | rfl | assumption) (w : i ≠ j → WR P G X n ops l (bL env d (.bool true)) h N F) (v : ¬(i ≠ j) → WR P G X n ops l (bL env d (.bool false)) h N F) : WR P G X n ops (⟨some d, .binOp .neq ty x y c, t, p, a, g⟩ :: l) env h N F := WR.cons (WS.neI (hg := hg) (hn := hn) (hx := hx) (hy := hy) (h1 := w) (h2 := v))
theorem MF {ty : TypeId} {x y : Operand} {c} {k : IntKind} {i j : Int} (hg : cT ops env g = some true := by rfl) (hn : Nat.blt d n = true := by rfl) (hx : aJ G env x = some (.int k i) := by first | rfl | assumption) (hy : aJ G env y = some (.int k j) := by first | rfl | assumption) (w : i < j → WR P G X n ops l (bL env d (.bool true)) h N F) (v : ¬(i < j) → WR P G X n ops l (bL env d (.bool false)) h N F) : WR P G X n ops (⟨some d, .binOp .lss ty x y c, t, p, a, g⟩ :: l) env h N F := WR.cons (WS.ltI (hg := hg) (hn := hn) (hx := hx) (hy := hy) (h1 := w) (h2 := v))
theorem MG {ty : TypeId} {x y : Operand} {c} {k : IntKind} {i j : Int} (hg : cT ops env g = some true := by rfl) (hn : Nat.blt d n = true := by rfl) (hx : aJ G env x = some (.int k i) := by first | rfl | assumption) (hy : aJ G env y = some (.int k j) := by first | rfl | assumption) (w : i ≤ j → WR P G X n ops l (bL env d (.bool true)) h N F) (v : ¬(i ≤ j) → WR P G X n ops l (bL env d (.bool false)) h N F) : WR P G X n ops (⟨some d, .binOp .leq ty x y c, t, p, a, g⟩ :: l) env h N F := WR.cons (WS.leI (hg := hg) (hn := hn) (hx := hx) (hy := hy) (h1 := w) (h2 := v))
theorem MH {ty : TypeId} {x y : Operand} {c} {k : IntKind} {i j : Int} (hg : cT ops env g = some true := by rfl) (hn : Nat.blt d n = true := by rfl) (hx : aJ G env x = some (.int k i) := by first | rfl | assumption) (hy : aJ G env y = some (.int k j) := by first | rfl | assumption) (w : j < i → WR P G X n ops l (bL env d (.bool true)) h N F) (v : ¬(j < i) → WR P G X n ops l (bL env d (.bool false)) h N F) : WR P G X n ops (⟨some d, .binOp .gtr ty x y c, t, p, a, g⟩ :: l) env h N F := WR.cons (WS.gtI (hg := hg) (hn := hn) (hx := hx) (hy := hy) (h1 := w) (h2 := v))
theorem MI {ty : TypeId} {x y : Operand} {c} {k : IntKind} {i j : Int} (hg : cT ops env g = some true := by rfl) (hn : Nat.blt d n = true := by rfl) (hx : aJ G env x = some (.int k i) := by first | rfl | assumption) (hy : aJ G env y = some (.int k j) := by first | rfl | assumption) (w : j ≤ i → WR P G X n ops l (bL env d (.bool true)) h N F) (v : ¬(j ≤ i) → WR P G X n ops l (bL env d (.bool false)) h N F) : WR P G X n ops (⟨some d, .binOp .geq ty x y c, t, p, a, g⟩ :: l) env h N F := WR.cons (WS.geI (hg := hg) (hn := hn) (hx := hx) (hy := hy) (h1 := w) (h2 := v))
theorem MJ {f : FuncId} {args tys} {vs : List Value} (he : ∀ vs, aQ P f vs = some (.enter f vs)) (hg : cT ops env g = some true := by rfl) (hn : Nat.blt d n = true := by rfl) (ha : bO G env args.toList = some vs := by rfl) (w : aS P G X f vs h fun r => match r with | .ret v h' => WR P G X n ops l (bL env d v) h' N F | .panic ch h' => F ch h') : WR P G X n ops (⟨some d, .call ⟨.value (.func f), args, tys⟩, t, p, a, g⟩ :: l) env h N F := WR.cons (WS.pJ (he := he) (hg := hg) (hn := hn) (ha := ha) (hk := w))
variable {i0 iA : Nat} {m0 : List cQ} {pend : List Pe}
theorem Da {x : Operand} {v : Value} (ho0 : ops[i0]? = some ⟨some d, .move x, t, p, a, g⟩ := by rfl) (hg : cT ops env g = some true := by rfl) (hn : Nat.blt d n = true := by rfl) (hx : aJ G env x = some v := by first | rfl | assumption) (w : WD P G X n ops m0 pend (bL env d v) h N F) : WD P G X n ops (⟨i0, .pure, iA⟩ :: m0) pend env h N F := WD.pure ho0 (WS.move (hg := hg) (hn := hn) (hx := hx) (hk := w))
theorem Dj {ty : TypeId} {x : Operand} {f : Nat} {i off o : Nat} (ho0 : ops[i0]? = some ⟨some d, .fieldAddr ty x f, t, p, a, g⟩ := by rfl) (hg : cT ops env g = some true := by rfl) (hn : Nat.blt d n = true := by rfl) (hx : aJ G env x = some (.pointer (some ⟨i, off, none⟩)) := by first | rfl | assumption) (hv : (kA P ty)[f]? = some (some o) := by exact zQ rfl rfl) (w : WD P G X n ops m0 pend (bL env d (.pointer (some ⟨i, off + o, none⟩))) h N F) : WD P G X n ops (⟨i0, .pure, iA⟩ :: m0) pend env h N F := WD.pure ho0 (WS.fieldAddr (hg := hg) (hn := hn) (hx := hx) (hv := hv) (hk := w))
theorem DA {op : Op} {g : Nat × Bool} (ho0 : ops[i0]? = some ⟨some d, op, t, p, a, some g⟩ := by rfl) (hg : cT ops env (some g) = some false := by rfl) (hn : Nat.blt d n = true := by rfl) (w : WD P G X n ops m0 pend (bL env d undef) h N F) : WD P G X n ops (⟨i0, .pure, iA⟩ :: m0) pend env h N F := WD.pure ho0 (WS.uw (hg := hg) (hn := hn) (hk := w))
theorem Di {x : Operand} {q : Addr} (ho0 : ops[i0]? = some ⟨some d, .nilCheck x, t, p, a, g⟩ := by rfl) (hg : cT ops env g = some true := by rfl) (hn : Nat.blt d n = true := by rfl) (hx : aJ G env x = some (.pointer (some q)) := by first | rfl | assumption) (w : WD P G X n ops m0 pend (bL env d (.pointer (some q))) h N F) : WD P G X n ops (⟨i0, .pure, iA⟩ :: m0) pend env h N F := WD.pure ho0 (WS.nilCheck (hg := hg) (hn := hn) (hx := hx) (hk := w))
theorem Db {x : Operand} {v : Value} (ho0 : ops[i0]? = some ⟨some d, .assign x, t, p, a, g⟩ := by rfl) (hg : cT ops env g = some true := by rfl) (hn : Nat.blt d n = true := by rfl) (hx : aJ G env x = some v := by first | rfl | assumption) (w : WD P G X n ops m0 pend (bL env d v) h N F) : WD P G X n ops (⟨i0, .pure, iA⟩ :: m0) pend env h N F := WD.pure ho0 (WS.assign (hg := hg) (hn := hn) (hx := hx) (hk := w))
theorem Df {ty : TypeId} {x y : Operand} {c} {i j : Int} (ho0 : ops[i0]? = some ⟨some d, .binOp .add ty x y c, t, p, a, g⟩ := by rfl) (hg : cT ops env g = some true := by rfl) (hn : Nat.blt d n = true := by rfl) (hx : aJ G env x = some (.int .i64 i) := by first | rfl | assumption) (hy : aJ G env y = some (.int .i64 j) := by first | rfl | assumption) (hr : -9223372036854775808 ≤ i + j ∧ i + j ≤ 9223372036854775807 := by omega) (w : WD P G X n ops m0 pend (bL env d (.int .i64 (i + j))) h N F) : WD P G X n ops (⟨i0, .pure, iA⟩ :: m0) pend env h N F := WD.pure ho0 (WS.aOk (hg := hg) (hn := hn) (hx := hx) (hy := hy) (hr := hr) (hk := w))
theorem Dl {ty : TypeId} {x y : Operand} {e : TypeId} {i off len es : Nat} {k : Int} {q} (ho0 : ops[i0]? = some ⟨some d, .indexAddr ty x y, t, p, a, g⟩ := by rfl) (hg : cT ops env g = some true := by rfl) (hn : Nat.blt d n = true := by rfl) (hx : aJ G env x = some (.slice (some ⟨i, off, none⟩) len es) := by first | rfl | assumption) (hy : aJ G env y = some (.int q k) := by first | rfl | assumption) (hu : P.underlying ty = some (.slice e) := by rfl) (hs : dF P e = some es := by exact fF rfl) (hb : 0 ≤ k ∧ k < len := by omega) (w : WD P G X n ops m0 pend (bL env d (.pointer (some ⟨i, off + k.toNat * es, none⟩))) h N F) : WD P G X n ops (⟨i0, .pure, iA⟩ :: m0) pend env h N F := WD.pure ho0 (WS.indexAddr (hg := hg) (hn := hn) (hx := hx) (hy := hy) (hu := hu) (hs := hs) (hb := hb) (hk := w))
theorem Dc {c x y : Operand} {v : Value} (ho0 : ops[i0]? = some ⟨some d, .pick c x y, t, p, a, g⟩ := by rfl) (hg : cT ops env g = some true := by rfl) (hn : Nat.blt d n = true := by rfl) (hc : aJ G env c = some (.bool true) := by first | rfl | assumption) (hx : aJ G env x = some v := by first | rfl | assumption) (w : WD P G X n ops m0 pend (bL env d v) h N F) : WD P G X n ops (⟨i0, .pure, iA⟩ :: m0) pend env h N F := WD.pure ho0 (WS.aL8 (hg := hg) (hn := hn) (hc := hc) (hx := hx) (hk := w))
theorem Dp {fn : Fn} {first cap : Array Operand} {f c} (ho0 : ops[i0]? = some ⟨some d, .makeFunc fn first cap, t, p, a, g⟩ := by rfl) (hg : cT ops env g = some true := by rfl) (hn : Nat.blt d n = true := by rfl) (hf : bO G env first.toList = some f := by first | rfl | exact bC (by first | rfl | assumption) rfl | exact bC (by first | rfl | assumption) (bC (by first | rfl | assumption) rfl) | exact bC (by first | rfl | assumption) (bC (by first | rfl | assumption) (bC (by first | rfl | assumption) rfl))) (hc : bO G env cap.toList = some c := by first | rfl | exact bC (by first | rfl | assumption) rfl | exact bC (by first | rfl | assumption) (bC (by first | rfl | assumption) rfl) | exact bC (by first | rfl | assumption) (bC (by first | rfl | assumption) (bC (by first | rfl | assumption) rfl))) (w : WD P G X n ops m0 pend (bL env d (.func fn f.toArray c.toArray)) h N F) : WD P G X n ops (⟨i0, .pure, iA⟩ :: m0) pend env h N F := WD.pure ho0 (WS.makeFunc (hg := hg) (hn := hn) (hf := hf) (hc := hc) (hk := w))
theorem Dn {ty : TypeId} {parts} {ps} {v0 v : Value} (ho0 : ops[i0]? = some ⟨some d, .build ty parts, t, p, a, g⟩ := by rfl) (hg : cT ops env g = some true := by rfl) (hn : Nat.blt d n = true := by rfl) (hp : c9 G env parts.toList = some ps := by rfl) (hv0 : q9 P ty ps = some v0 := by rfl) (hf : q3 v0 = some v := by rfl) (w : WD P G X n ops m0 pend (bL env d v) h N F) : WD P G X n ops (⟨i0, .pure, iA⟩ :: m0) pend env h N F := WD.pure ho0 (WS.build (hg := hg) (hn := hn) (hp := hp) (hv0 := hv0) (hf := hf) (hk := w))
theorem Dd {c x y : Operand} {v : Value} (ho0 : ops[i0]? = some ⟨some d, .pick c x y, t, p, a, g⟩ := by rfl) (hg : cT ops env g = some true := by rfl) (hn : Nat.blt d n = true := by rfl) (hc : aJ G env c = some (.bool false) := by first | rfl | assumption) (hy : aJ G env y = some v := by first | rfl | assumption) (w : WD P G X n ops m0 pend (bL env d v) h N F) : WD P G X n ops (⟨i0, .pure, iA⟩ :: m0) pend env h N F := WD.pure ho0 (WS.aL7 (hg := hg) (hn := hn) (hc := hc) (hy := hy) (hk := w))
theorem Dm {ty : TypeId} {x y : Operand} {s : ByteArray} {k : Int} {q} (ho0 : ops[i0]? = some ⟨some d, .index ty x y, t, p, a, g⟩ := by rfl) (hg : cT ops env g = some true := by rfl) (hn : Nat.blt d n = true := by rfl) (hx : aJ G env x = some (.string s) := by first | rfl | assumption) (hy : aJ G env y = some (.int q k) := by first | rfl | assumption) (hu : P.underlying ty = some .string := by rfl) (hb : 0 ≤ k ∧ k < s.size := by omega) (w : WD P G X n ops m0 pend (bL env d (.int .u8 (bD s k))) h N F) : WD P G X n ops (⟨i0, .pure, iA⟩ :: m0) pend env h N F := WD.pure ho0 (WS.aHl (hg := hg) (hn := hn) (hx := hx) (hy := hy) (hu := hu) (hb := hb) (hk := w))
theorem Dk {ty : TypeId} {x : Operand} {f : Nat} {u v0 v : Value} (ho0 : ops[i0]? = some ⟨some d, .field ty x f, t, p, a, g⟩ := by rfl) (hg : cT ops env g = some true := by rfl) (hn : Nat.blt d n = true := by rfl) (hx : aJ G env x = some u := by first | rfl | assumption) (hv0 : rD P ty u f = some v0 := by rfl) (hf : q3 v0 = some v := by rfl) (w : WD P G X n ops m0 pend (bL env d v) h N F) : WD P G X n ops (⟨i0, .pure, iA⟩ :: m0) pend env h N F := WD.pure ho0 (WS.field (hg := hg) (hn := hn) (hx := hx) (hv0 := hv0) (hf := hf) (hk := w))
theorem Rt {ty : TypeId} {x : Operand} {i off : Nat} {v : Value} {ro : Bool} {cs : List Value} (ho0 : ops[i0]? = some ⟨some d, .load ty x, t, p, a, g⟩ := by rfl) (hg : cT ops env g = some true := by rfl) (hn : Nat.blt d n = true := by rfl) (hx : aJ G env x = some (.pointer (some ⟨i, off, none⟩)) := by first | rfl | assumption) (ht : u0 P ty = some false := by rfl) (ho : h.obj i = some (.cells ro cs) := by exact aD) (hc : cs[off]? = some v := by rfl) (w : WD P G X n ops m0 (pend ++ [(i0, fun H => H.obj i = some (.cells ro cs), false)]) (bL env d v) h N F) : WD P G X n ops (⟨i0, .read, iA⟩ :: m0) pend env h N F := WD.read ho0 (WS.jC (hg := hg) (hn := hn) (hx := hx) (ht := ht) (ho := ho) (hc := hc) (hk := w))
theorem Ru {ty : TypeId} {x : Operand} {i off m : Nat} {ro : Bool} {cs vs : List Value} (ho0 : ops[i0]? = some ⟨some d, .load ty x, t, p, a, g⟩ := by rfl) (hg : cT ops env g = some true := by rfl) (hn : Nat.blt d n = true := by rfl) (hx : aJ G env x = some (.pointer (some ⟨i, off, none⟩)) := by first | rfl | assumption) (ht : u0 P ty = some true := by rfl) (hs : dF P ty = some m := by exact fF rfl) (ho : h.obj i = some (.cells ro cs) := by exact aD) (hc : off + m ≤ cs.length := by first | (exact Nat.le_of_ble_eq_true rfl) | (simp; done) | omega) (hv' : dB ((cs.drop off).take m) = some vs := by rfl) (w : WD P G X n ops m0 (pend ++ [(i0, fun H => H.obj i = some (.cells ro cs), false)]) (bL env d (.agg vs.toArray)) h N F) : WD P G X n ops (⟨i0, .read, iA⟩ :: m0) pend env h N F := WD.read ho0 (WS.pT (hg := hg) (hn := hn) (hx := hx) (ht := ht) (hs := hs) (ho := ho) (hc := hc) (hv' := hv') (hk := w))
theorem RA {op : Op} {g : Nat × Bool} (ho0 : ops[i0]? = some ⟨some d, op, t, p, a, some g⟩ := by rfl) (hg : cT ops env (some g) = some false := by rfl) (hn : Nat.blt d n = true := by rfl) (w : WD P G X n ops m0 (pend ++ [(i0, fun _ => True, false)]) (bL env d undef) h N F) : WD P G X n ops (⟨i0, .read, iA⟩ :: m0) pend env h N F := WD.read ho0 (WS.uw (hg := hg) (hn := hn) (hk := w))
theorem Rr {ty : TypeId} {x : Operand} {s : ByteArray} (ho0 : ops[i0]? = some ⟨some d, .call ⟨.builtin .len, #[x], #[ty]⟩, t, p, a, g⟩ := by rfl) (hg : cT ops env g = some true := by rfl) (hn : Nat.blt d n = true := by rfl) (hx : aJ G env x = some (.string s) := by first | rfl | assumption) (hu : P.underlying ty = some .string := by rfl) (w : WD P G X n ops m0 (pend ++ [(i0, fun _ => True, false)]) (bL env d (.int .i64 s.size)) h N F) : WD P G X n ops (⟨i0, .read, iA⟩ :: m0) pend env h N F := WD.read ho0 (WS.aP2 (hg := hg) (hn := hn) (hx := hx) (hu := hu) (hk := w))
theorem Rs {ty e : TypeId} {x : Operand} {b} {m es : Nat} (ho0 : ops[i0]? = some ⟨some d, .call ⟨.builtin .len, #[x], #[ty]⟩, t, p, a, g⟩ := by rfl) (hg : cT ops env g = some true := by rfl) (hn : Nat.blt d n = true := by rfl) (hx : aJ G env x = some (.slice b m es) := by first | rfl | assumption) (hu : P.underlying ty = some (.slice e) := by rfl) (w : WD P G X n ops m0 (pend ++ [(i0, fun _ => True, false)]) (bL env d (.int .i64 m)) h N F) : WD P G X n ops (⟨i0, .read, iA⟩ :: m0) pend env h N F := WD.read ho0 (WS.aP1 (hg := hg) (hn := hn) (hx := hx) (hu := hu) (hk := w))
end
theorem nx {a b c : Nat} (h : a ≤ b) (e : a = c := by first | (simp only [UB, UC]; done) | (simp only [UB, UC]; exact rfl) | exact rfl) : c ≤ b := e ▸ h
abbrev Z0 : dS := .cells false [.int .i64 0, .string .empty, .int .i64 0, .int .i64 0, .string .empty, .int .i64 0, .slice none 0 0]
end Go.Am
end
