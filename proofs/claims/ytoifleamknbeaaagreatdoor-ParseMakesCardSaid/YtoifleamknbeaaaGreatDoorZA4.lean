/- The abstract machine, fourth part: the walk, its rules, and what a law asks. -/
import Derived.Test.YtoifleamknbeaaaGreatDoorZA3
import Derived.Defers
import Derived.WideShapes
import Derived.Carry
import Derived.ChangeSame
import Derived.RowKit
import Derived.OpenShut
section
namespace Go.Am
theorem aB {p : Prop} (h : p := by first | omega | (simp only [aE.bX, aE.mQ]; omega)) : p := h
theorem aA {p : Prop} (h : p := by repeat (first | assumption | (with_reducible rfl) | exact eQ | exact fX | (refine cR aB ?_) | (refine bF aB ?_) | (apply Gr.at; (· assumption); (· exact aB)) | (apply bB.at; (· assumption); (· exact aB); (· exact aB)))) : p := h
theorem aD {p : Prop} (h : p := by first | rfl | assumption) : p := h
theorem fC {p : Prop} (h : p := by first | (exact Nat.le_of_ble_eq_true rfl) | (simp; done) | omega) : p := h
theorem cC {p : Prop} (h : p := by repeat (first | assumption | exact Gr.refl _ | (refine Gr.put ?_ aB) | (refine Gr.trans ?_ (Gr.alloc _ _)))) : p := h
theorem aI {p : Prop} (h : p := by repeat (first | assumption | exact bB.refl _ _ | (refine bB.put ?_ aB) | (refine bB.alloc ?_ _) | (refine bB.self ?_) | (refine bB.trans ?_ (by assumption)) | (refine bB.gr ?_ (by assumption)))) : p := h
theorem aK {p : Prop} (h : p := by repeat (first | assumption | (refine cG.put ?_ aB) | (refine cG.alloc ?_ _) | (refine cG.gr ?_ (by assumption)))) : p := h
theorem bJ {p : Prop} (h : p := by repeat (first | rfl | (refine bF aB ?_) | (refine cR aB ?_) | (apply bB.at; (· assumption); (· exact aB); (· exact aB)) | (apply Gr.at; (· assumption); (· exact aB)))) : p := h
theorem aJ {p : Prop} (h : p := by repeat (first | exact dP | (apply eB; (· (first | rfl | assumption))) | (apply c7; (· (first | rfl | assumption)); (· rfl); (· exact fK rfl); (· (exact aA)); (· (first | (exact Nat.le_of_ble_eq_true rfl) | (simp; done) | omega)); (· rfl)) | (apply c5; (· (first | rfl | assumption)); (· rfl); (· (exact aA)); (· rfl)))) : p := h
open Go.RowKit (Below)

def bE (env : Env) (d : Nat) (v : Value) : Env := fun t => if t = d then some v else env t

section
variable (P : Program) (G : Nat) (X : fE) (n : Nat)

def aP (f : FuncId) (args : List Value) (h : aE) (Q : bW → Prop) : Prop := ∃ k r, cJ P G X k f args h = some r ∧ Q r

def cP (c : Code) (env : Env) (h : aE) (Q : gW → Env → aE → Prop) : Prop :=
 ∃ k x e h', exec G (kY P G (cJ P G X k) n) k c env h = some (x, e, h') ∧ Q x e h'

def q0 (dst : Option Tmp) (v : Value) (env : Env) (K : Env → Prop) : Prop :=
 match dst with
 | none => K env
 | some d => d < n ∧ K (bE env d v)

def oE (ops : Array Oper) (o : Oper) (env : Env) (h : aE) (K : jW → Prop) : Prop :=
 match dH ops env o with
 | none => False
 | some false => q0 n o.dst undef env fun e => K (.ok e h)
 | some true => match dD P G env o h with
  | none => False
  | some (.val v h') => q0 n o.dst v env fun e => K (.ok e h')
  | some (.skip h') => q0 n o.dst undef env fun e => K (.ok e h')
  | some (.enter f args) => aP P G X f args h fun r => match r with
   | .ret v h' => q0 n o.dst v env fun e => K (.ok e h')
   | .panic ch h' => K (.panic ch h')
  | some (.panic v) => K (.panic [{ v, recovered := false }] h)

def qT (ops : Array Oper) : List Oper → Env → aE → (jW → Prop) → Prop
 | [], env, h, Q => Q (.ok env h)
 | o :: l, env, h, Q => oE P G X n ops o env h fun r => match r with
  | .ok e h' => qT ops l e h' Q
  | .panic ch h' => Q (.panic ch h')

end

section
variable {P : Program} {G : Nat} {X : fE} {n : Nat}

theorem aP.mono {f : FuncId} {args : List Value} {h : aE} {Q Q' : bW → Prop} (hw : aP P G X f args h Q) (hq : ∀ r, Q r → Q' r) : aP P G X f args h Q' :=
 let ⟨k, r, hr, h'⟩ := hw; ⟨k, r, hr, hq r h'⟩

theorem aP.of {f : FuncId} {args : List Value} {h : aE} {r : bW} (hc : aJv P G X f args h r) {Q : bW → Prop} (hq : Q r) : aP P G X f args h Q :=
 let ⟨k, hk⟩ := hc; ⟨k, r, hk, hq⟩

theorem cP.mono {c : Code} {env : Env} {h : aE} {Q Q' : gW → Env → aE → Prop} (hw : cP P G X n c env h Q) (hq : ∀ x e h, Q x e h → Q' x e h) : cP P G X n c env h Q' :=
 let ⟨k, x, e, h', hr, h2⟩ := hw; ⟨k, x, e, h', hr, hq _ _ _ h2⟩

theorem qS {dst : Option Tmp} {v : Value} {env : Env} {K : Env → Prop} (hp : q0 n dst v env K) : ∃ e, gA n dst v env = some e ∧ K e := by
 unfold q0 at hp
 unfold gA
 cases dst with
 | none => exact ⟨env, rfl, hp⟩
 | some d => exact ⟨_, if_pos hp.1, hp.2⟩

theorem oE.out {ops : Array Oper} {o : Oper} {env : Env} {h : aE} {K : jW → Prop} (hw : oE P G X n ops o env h K) : ∃ k r, jA P G (cJ P G X k) n ops o env h = some r ∧ K r := by
 unfold oE at hw
 unfold jA
 cases hwant : dH ops env o with
 | none => rw [hwant] at hw; exact hw.elim
 | some b =>
  rw [hwant] at hw
  cases b with
  | false =>
   obtain ⟨e, he, hk⟩ := qS hw
   exact ⟨0, _, by simp only [he, Option.map_some], hk⟩
  | true =>
   cases ho : dD P G env o h with
   | none => simp only [ho] at hw
   | some a =>
    simp only [ho] at hw
    cases a with
    | val v h' =>
     obtain ⟨e, he, hk⟩ := qS hw
     exact ⟨0, _, by simp only [he, Option.map_some], hk⟩
    | skip h' =>
     obtain ⟨e, he, hk⟩ := qS hw
     exact ⟨0, _, by simp only [he, Option.map_some], hk⟩
    | enter f args =>
     obtain ⟨k, r, hr, hq⟩ := hw
     cases r with
     | ret v h' =>
      obtain ⟨e, he, hk⟩ := qS hq
      exact ⟨k, _, by simp only [hr, he, Option.map_some], hk⟩
     | panic ch h' => exact ⟨k, _, by simp only [hr], hq⟩
    | panic v => exact ⟨0, _, rfl, hw⟩

theorem qT.out (hX : bZ X) {ops : Array Oper} : ∀ (l : List Nat) (os : List Oper) {env : Env} {h : aE} {Q : jW → Prop}, (l.map fun i => ops[i]?) = os.map some → qT P G X n ops os env h Q →
  ∃ k r, dW P G (cJ P G X k) n ops l env h = some r ∧ Q r
 | [], [], env, h, Q, _, hw => ⟨0, _, rfl, hw⟩
 | [], o :: os, env, h, Q, he, hw => by simp at he
 | i :: l, [], env, h, Q, he, hw => by simp at he
 | i :: l, o :: os, env, h, Q, he, hw => by
  simp only [List.map_cons, List.cons.injEq] at he
  obtain ⟨hi, hl⟩ := he
  obtain ⟨k, r, hs, hr⟩ := oE.out hw
  cases r with
  | ok e h' =>
   obtain ⟨k2, r2, h2, h3⟩ := qT.out hX l os hl hr
   refine ⟨max k k2, r2, ?_, h3⟩
   unfold dW
   rw [hi]
   simp only [mT (cV hX (Nat.le_max_left k k2)) hs]
   exact eG (cV hX (Nat.le_max_right k k2)) l h2
  | panic ch h' =>
   refine ⟨k, _, ?_, hr⟩
   unfold dW
   rw [hi]
   simp only [hs]

theorem o5 (ops : Array Oper) : ((List.range ops.size).map fun i => ops[i]?) = ops.toList.map some := by
 apply List.ext_getElem?
 intro i
 by_cases hi : i < ops.size
 ·simp [hi]
 ·simp [hi]

theorem cP.region (hX : bZ X) {id : Nat} {ops : Array Oper} {env : Env} {h : aE} {Q : gW → Env → aE → Prop}
  (hw : qT P G X n ops ops.toList env h fun r => match r with | .ok e h' => Q .normal e h' | .panic ch h' => Q (.panic ch) env h') : cP P G X n (.region id ops false) env h Q := by
 obtain ⟨k, r, hr, hq⟩ := qT.out hX _ _ (o5 ops) hw
 have hreg : kY P G (cJ P G X (k + 1)) n ops false env h = some r := by
  unfold kY
  simp only [Bool.false_eq_true, if_false]
  exact eG (cV hX (Nat.le_succ k)) _ hr
 cases r with
 | ok e h' => exact ⟨k + 1, .normal, e, h', by simp only [exec, hreg], hq⟩
 | panic ch h' => exact ⟨k + 1, .panic ch, env, h', by simp only [exec, hreg], hq⟩

theorem cP.le (hX : bZ X) {k k' : Nat} (hk : k ≤ k') {c : Code} {env : Env} {h : aE} {r : gW × Env × aE} (he : exec G (kY P G (cJ P G X k) n) k c env h = some r) :
  exec G (kY P G (cJ P G X k') n) k' c env h = some r :=
 l6 hk (eC (jG (cV hX hk) n) k c env h r he)

theorem cP.seq (hX : bZ X) {a b : Code} {env : Env} {h : aE} {Q : gW → Env → aE → Prop}
  (hw : cP P G X n a env h fun x e h' => match x with | .normal => cP P G X n b e h' Q | x => Q x e h') : cP P G X n (.seq a b) env h Q := by
 obtain ⟨k, x, e, h', he, hq⟩ := hw
 cases x with
 | normal =>
  obtain ⟨k2, x2, e2, h2, he2, hq2⟩ := hq
  refine ⟨max k k2 + 1, x2, e2, h2, ?_, hq2⟩
  have h3 := cP.le hX (Nat.le_succ_of_le (Nat.le_max_left k k2)) he
  have h4 := cP.le hX (Nat.le_succ_of_le (Nat.le_max_right k k2)) he2
  have h3' : exec G (kY P G (cJ P G X (max k k2 + 1)) n) (max k k2) a env h = some (.normal, e, h') := eC (jG (cV hX (by omega)) n) _ _ _ _ _ (l6 (Nat.le_max_left k k2) he)
  have h4' : exec G (kY P G (cJ P G X (max k k2 + 1)) n) (max k k2) b e h' = some (x2, e2, h2) := eC (jG (cV hX (by omega)) n) _ _ _ _ _ (l6 (Nat.le_max_right k k2) he2)
  simp only [exec, h3', h4']
 | _ =>
  refine ⟨k + 1, _, e, h', ?_, hq⟩
  have h3' : exec G (kY P G (cJ P G X (k + 1)) n) k a env h = _ := eC (jG (cV hX (Nat.le_succ k)) n) _ _ _ _ _ he
  simp only [exec, h3']

theorem cP.cond (hX : bZ X) {c : Operand} {a b : Code} {env : Env} {h : aE} {Q : gW → Env → aE → Prop} {t : Bool} (hc : aL G env c = some (.bool t))
  (hw : cP P G X n (if t then a else b) env h Q) : cP P G X n (.cond c a b) env h Q := by
 obtain ⟨k, x, e, h', he, hq⟩ := hw
 refine ⟨k + 1, x, e, h', ?_, hq⟩
 have h3 := eC (jG (cV (P := P) (G := G) hX (Nat.le_succ k)) n) _ _ _ _ _ he
 cases t
 ·simp only [exec, hc]; exact h3
 ·simp only [exec, hc]; exact h3

theorem cP.block (hX : bZ X) {id : Nat} {b : Code} {env : Env} {h : aE} {Q : gW → Env → aE → Prop}
  (hw : cP P G X n b env h fun x e h' => match x with | .exit id' => if id' = id then Q .normal e h' else Q (.exit id') e h' | x => Q x e h') : cP P G X n (.block id b) env h Q := by
 obtain ⟨k, x, e, h', he, hq⟩ := hw
 have h3 := eC (jG (cV (P := P) (G := G) hX (Nat.le_succ k)) n) _ _ _ _ _ he
 cases x with
 | exit id' =>
  simp only at hq
  by_cases hid : id' = id
  ·rw [if_pos hid] at hq
   exact ⟨k + 1, .normal, e, h', by simp only [exec, h3, if_pos hid], hq⟩
  ·rw [if_neg hid] at hq
   exact ⟨k + 1, .exit id', e, h', by simp only [exec, h3, if_neg hid], hq⟩
 | normal => exact ⟨k + 1, _, e, h', by simp only [exec, h3], hq⟩
 | ret => exact ⟨k + 1, _, e, h', by simp only [exec, h3], hq⟩
 | panic ch => exact ⟨k + 1, _, e, h', by simp only [exec, h3], hq⟩

theorem cP.loop (hX : bZ X) {b : Code} {env : Env} {h : aE} {Q : gW → Env → aE → Prop}
  (hw : cP P G X n b env h fun x e h' => match x with | .normal => cP P G X n (.loop b) e h' Q | x => Q x e h') : cP P G X n (.loop b) env h Q := by
 obtain ⟨k, x, e, h', he, hq⟩ := hw
 cases x with
 | normal =>
  obtain ⟨k2, x2, e2, h2, he2, hq2⟩ := hq
  refine ⟨max k k2 + 1, x2, e2, h2, ?_, hq2⟩
  have h3' : exec G (kY P G (cJ P G X (max k k2 + 1)) n) (max k k2) b env h = some (.normal, e, h') := eC (jG (cV hX (by omega)) n) _ _ _ _ _ (l6 (Nat.le_max_left k k2) he)
  have h4' : exec G (kY P G (cJ P G X (max k k2 + 1)) n) (max k k2) (.loop b) e h' = some (x2, e2, h2) := eC (jG (cV hX (by omega)) n) _ _ _ _ _ (l6 (Nat.le_max_right k k2) he2)
  unfold exec
  simp only [h3', h4']
 | _ =>
  refine ⟨k + 1, _, e, h', ?_, hq⟩
  have h3' := eC (jG (cV (P := P) (G := G) hX (Nat.le_succ k)) n) _ _ _ _ _ he
  unfold exec
  simp only [h3']

theorem cP.skip {env : Env} {h : aE} {Q : gW → Env → aE → Prop} (hq : Q .normal env h) : cP P G X n .skip env h Q := ⟨1, .normal, env, h, rfl, hq⟩
theorem cP.exit {id : Nat} {env : Env} {h : aE} {Q : gW → Env → aE → Prop} (hq : Q (.exit id) env h) : cP P G X n (.exit id) env h Q := ⟨1, .exit id, env, h, rfl, hq⟩
theorem cP.ret {env : Env} {h : aE} {Q : gW → Env → aE → Prop} (hq : Q .ret env h) : cP P G X n .ret env h Q := ⟨1, .ret, env, h, rfl, hq⟩

def Ends (P : Program) (results : List ResultVar) (Q : bW → Prop) (x : gW) (e : Env) (h : aE) : Prop :=
 match x with
 | .normal | .ret => match bV P e h results with
  | some vs => Q (.ret (answer vs) h)
  | none => False
 | .panic ch => Q (.panic ch h)
 | .exit _ => False

theorem aP.body (_hX : bZ X) {f : FuncId} {fn : Func} {c : Code} {args : List Value} {h : aE} {Q : bW → Prop} (hf : P.funcs[f]? = some fn) (hb : fn.body = some c) (hx : X f = none) (hl : args.length ≤ fn.ntmps)
    (hw : cP P G X fn.ntmps c (jD args) h (Ends P fn.results.toList Q)) : aP P G X f args h Q := by
  obtain ⟨k, x, e, h', he, hq⟩ := hw
  have key : ∀ r, (match (some (x, e, h') : Option (gW × Env × aE)) with
        | some (.normal, env, h') => (bV P env h' fn.results.toList).map fun vs => bW.ret (answer vs) h'
        | some (.ret, env, h') => (bV P env h' fn.results.toList).map fun vs => .ret (answer vs) h'
        | some (.panic ch, _, h') => some (.panic ch h')
        | _ => none) = some r → cJ P G X (k + 1) f args h = some r := by
    intro r hr
    have : cJ P G X (k + 1) f args h = jF P G (kY P G (cJ P G X k)) k f args h := by simp only [cJ, hx]
    rw [this]
    unfold jF
    rw [hf]
    simp only
    rw [hb]
    simp only
    rw [if_pos hl, he]
    exact hr
  unfold Ends at hq
  cases x with
  | normal =>
    simp only at hq
    split at hq
    · rename_i vs hv; exact ⟨k + 1, _, key _ (by simp only [hv, Option.map_some]), hq⟩
    · exact hq.elim
  | ret =>
    simp only at hq
    split at hq
    · rename_i vs hv; exact ⟨k + 1, _, key _ (by simp only [hv, Option.map_some]), hq⟩
    · exact hq.elim
  | panic ch => exact ⟨k + 1, _, key _ rfl, hq⟩
  | exit id => exact hq.elim

theorem aP.out {f : FuncId} {args : List Value} {h : aE} {Q : bW → Prop} (hw : aP P G X f args h Q) : ∃ k r, cJ P G X k f args h = some r ∧ Q r := hw
theorem aP.intro {f : FuncId} {args : List Value} {h : aE} {Q : bW → Prop} (hw : ∃ k r, cJ P G X k f args h = some r ∧ Q r) : aP P G X f args h Q := hw

attribute [irreducible] aP

end
end Go.Am
end

section
namespace Go.Am
open Go.RowKit (Below)

section
variable (P : Program) (G : Nat) (X : fE) (n : Nat)

def WC (c : Code) (env : Env) (h : aE) (N : Env → aE → Prop) (E : Nat → Env → aE → Prop) (R : Env → aE → Prop) (F : List PanicEntry → aE → Prop) : Prop :=
 cP P G X n c env h fun x e h => match x with
  | .normal => N e h
  | .exit i => E i e h
  | .ret => R e h
  | .panic ch => F ch h

def WR (ops : Array Oper) (l : List Oper) (env : Env) (h : aE) (N : Env → aE → Prop) (F : List PanicEntry → aE → Prop) : Prop :=
 qT P G X n ops l env h fun r => match r with
  | .ok e h => N e h
  | .panic ch h => F ch h

end

section
variable {P : Program} {G : Nat} {X : fE} {n : Nat} {N : Env → aE → Prop} {E : Nat → Env → aE → Prop} {R : Env → aE → Prop} {F : List PanicEntry → aE → Prop} {env : Env} {h : aE}

theorem WC.seq (hX : bZ X) {a b : Code} (hw : WC P G X n a env h (fun e h => WC P G X n b e h N E R F) E R F) : WC P G X n (.seq a b) env h N E R F := by
 refine cP.seq hX (cP.mono hw fun x e h' hq => ?_)
 cases x <;> exact hq

theorem WC.cond (hX : bZ X) {c : Operand} {a b : Code} {t : Bool} (hc : aL G env c = some (.bool t)) (hw : WC P G X n (if t then a else b) env h N E R F) : WC P G X n (.cond c a b) env h N E R F :=
 cP.cond hX hc hw

theorem WC.aDz (hX : bZ X) {c : Operand} {a b : Code} (hc : aL G env c = some (.bool true) := by first | rfl | assumption) (hw : WC P G X n a env h N E R F) : WC P G X n (.cond c a b) env h N E R F :=
 cP.cond hX hc hw
theorem WC.aEo (hX : bZ X) {c : Operand} {a b : Code} (hc : aL G env c = some (.bool false) := by first | rfl | assumption) (hw : WC P G X n b env h N E R F) : WC P G X n (.cond c a b) env h N E R F :=
 cP.cond hX hc hw
theorem WC.aAa (hX : bZ X) {c : Operand} {a b : Code} {t : Bool} (hc : aL G env c = some (.bool t) := by first | rfl | assumption) (h1 : t = true → WC P G X n a env h N E R F) (h2 : t = false → WC P G X n b env h N E R F) : WC P G X n (.cond c a b) env h N E R F := by
 cases t
 ·exact WC.aEo hX hc (h2 rfl)
 ·exact WC.aDz hX hc (h1 rfl)

theorem WC.block (hX : bZ X) {id : Nat} {b : Code} (hw : WC P G X n b env h N (fun i e h => if i = id then N e h else E i e h) R F) : WC P G X n (.block id b) env h N E R F := by
 refine cP.block hX (cP.mono hw fun x e h' hq => ?_)
 cases x with
 | exit i =>
  simp only at hq ⊢
  split
  ·rename_i hi; rw [if_pos hi] at hq; exact hq
  ·rename_i hi; rw [if_neg hi] at hq; exact hq
 | _ => exact hq

theorem aG {i : Nat} {a b : Prop} (h : a) : if i = i then a else b := by rw [if_pos rfl]; exact h
theorem aZ {i j : Nat} (hne : (i == j) = false) {a b : Prop} (h : b) : if i = j then a else b := by
 rw [if_neg (by intro e; subst e; simp at hne)]; exact h

theorem WC.bK (hX : bZ X) {α : Type} {b : Code} (m : α → Nat) (Inv : α → Env → aE → Prop) (a0 : α) (h0 : Inv a0 env h)
  (step : ∀ a env h, (∀ a' env' h', m a' < m a → Inv a' env' h' → WC P G X n (.loop b) env' h' N E R F) → Inv a env h →
   WC P G X n b env h (fun env' h' => WC P G X n (.loop b) env' h' N E R F) E R F) : WC P G X n (.loop b) env h N E R F := by
 suffices ∀ k a env h, m a < k → Inv a env h → WC P G X n (.loop b) env h N E R F from this _ a0 env h (Nat.lt_succ_self _) h0
 intro k
 induction k with
 | zero => intro a env h hm; omega
 | succ k ih =>
  intro a env h hm hi
  refine cP.loop hX (cP.mono (step a env h (fun a' env' h' hl hi' => ih a' env' h' (by omega) hi') hi) fun x e h' hq => ?_)
  cases x <;> exact hq

theorem WC.skip (hq : N env h) : WC P G X n .skip env h N E R F := cP.skip hq
theorem WC.exit {id : Nat} (hq : E id env h) : WC P G X n (.exit id) env h N E R F := cP.exit hq
theorem WC.ret (hq : R env h) : WC P G X n .ret env h N E R F := cP.ret hq

theorem WC.region (hX : bZ X) {id : Nat} {ops : Array Oper} (hw : WR P G X n ops ops.toList env h N F) : WC P G X n (.region id ops false) env h N E R F := by
 refine cP.region hX ?_
 have : ∀ (l : List Oper) (env : Env) (h : aE) (Q Q' : jW → Prop), (∀ r, Q r → Q' r) → qT P G X n ops l env h Q → qT P G X n ops l env h Q' := by
  intro l
  induction l with
  | nil => intro env h Q Q' hq hw; exact hq _ hw
  | cons o l ih =>
   intro env h Q Q' hq hw
   have mono : ∀ (K K' : jW → Prop), (∀ r, K r → K' r) → oE P G X n ops o env h K → oE P G X n ops o env h K' := by
    intro K K' hk hs
    have put : ∀ (dst : Option Tmp) (v : Value) (env : Env) (A A' : Env → Prop), (∀ e, A e → A' e) → q0 n dst v env A → q0 n dst v env A' := by
     intro dst v env A A' ha hp
     unfold q0 at hp ⊢
     cases dst with
     | none => exact ha _ hp
     | some d => exact ⟨hp.1, ha _ hp.2⟩
    unfold oE at hs ⊢
    cases hwant : dH ops env o with
    | none => rw [hwant] at hs; exact hs.elim
    | some b =>
     rw [hwant] at hs
     cases b with
     | false => exact put _ _ _ _ _ (fun e => hk _) hs
     | true =>
      cases ho : dD P G env o h with
      | none => simp only [ho] at hs
      | some a =>
       simp only [ho] at hs ⊢
       cases a with
       | val v h' => exact put _ _ _ _ _ (fun e => hk _) hs
       | skip h' => exact put _ _ _ _ _ (fun e => hk _) hs
       | enter f args =>
        obtain ⟨k, r, hr, hq⟩ := aP.out hs
        refine aP.intro ⟨k, r, hr, ?_⟩
        cases r with
        | ret v h' => exact put _ _ _ _ _ (fun e => hk _) hq
        | panic ch h' => exact hk _ hq
       | panic v => exact hk _ hs
   refine mono _ _ (fun r hr => ?_) hw
   cases r with
   | ok e h' => exact ih _ _ _ _ hq hr
   | panic ch h' => exact hq _ hr
 refine this _ _ _ _ _ (fun r hr => ?_) hw
 cases r <;> exact hr

theorem WR.nil {ops : Array Oper} (hq : N env h) : WR P G X n ops [] env h N F := hq

theorem WR.val {ops : Array Oper} {o : Oper} {l : List Oper} {d : Nat} {v : Value} {h' : aE} (hg : dH ops env o = some true) (hd : o.dst = some d) (hn : Nat.blt d n = true) (ho : dD P G env o h = some (.val v h'))
  (hk : WR P G X n ops l (bE env d v) h' N F) : WR P G X n ops (o :: l) env h N F := by
 unfold WR qT oE
 rw [hg]
 simp only [ho, hd, q0]
 exact ⟨by simpa [Nat.blt_eq] using hn, hk⟩

theorem WR.ask {ops : Array Oper} {o : Oper} {l : List Oper} {d : Nat} {b : Bool} {h' : aE} (hg : dH ops env o = some true) (hd : o.dst = some d) (hn : Nat.blt d n = true) (ho : dD P G env o h = some (.val (.bool b) h'))
  (h1 : b = true → WR P G X n ops l (bE env d (.bool true)) h' N F) (h2 : b = false → WR P G X n ops l (bE env d (.bool false)) h' N F) : WR P G X n ops (o :: l) env h N F := by
 refine WR.val hg hd hn ho ?_
 cases b
 ·exact h2 rfl
 ·exact h1 rfl

theorem WR.uF {ops : Array Oper} {o : Oper} {l : List Oper} {d : Nat} {p : Prop} [Decidable p] {h' : aE} (hg : dH ops env o = some true) (hd : o.dst = some d) (hn : Nat.blt d n = true) (ho : dD P G env o h = some (.val (.bool (decide p)) h'))
  (h1 : p → WR P G X n ops l (bE env d (.bool true)) h' N F) (h2 : ¬p → WR P G X n ops l (bE env d (.bool false)) h' N F) : WR P G X n ops (o :: l) env h N F := by
 refine WR.ask hg hd hn ho (fun hb => h1 (by simpa using hb)) (fun hb => h2 (by simpa using hb))

theorem WR.store {ops : Array Oper} {o : Oper} {l : List Oper} {h' : aE} (hg : dH ops env o = some true) (hd : o.dst = none) (ho : dD P G env o h = some (.skip h'))
  (hk : WR P G X n ops l env h' N F) : WR P G X n ops (o :: l) env h N F := by
 unfold WR qT oE
 rw [hg]
 simp only [ho, hd, q0]
 exact hk

theorem WR.call {ops : Array Oper} {o : Oper} {l : List Oper} {d : Nat} {f : FuncId} {args : List Value} (hg : dH ops env o = some true) (hd : o.dst = some d) (hn : Nat.blt d n = true) (ho : dD P G env o h = some (.enter f args))
  (hk : aP P G X f args h fun r => match r with | .ret v h' => WR P G X n ops l (bE env d v) h' N F | .panic ch h' => F ch h') : WR P G X n ops (o :: l) env h N F := by
 unfold WR qT oE
 rw [hg]
 simp only [ho, hd, q0]
 refine aP.mono hk fun r hr => ?_
 cases r with
 | ret v h' => exact ⟨by simpa [Nat.blt_eq] using hn, hr⟩
 | panic ch h' => exact hr

theorem aP.walk (hX : bZ X) {f : FuncId} {fn : Func} {c : Code} {args : List Value} {Q : bW → Prop} (hf : P.funcs[f]? = some fn) (hb : fn.body = some c) (hx : X f = none) (hn : fn.ntmps = n) (hl : Nat.ble args.length n = true)
  (hw : WC P G X n c (jD args) h (fun e h => ∃ vs, bV P e h fn.results.toList = some vs ∧ Q (.ret (answer vs) h)) (fun _ _ _ => False)
   (fun e h => ∃ vs, bV P e h fn.results.toList = some vs ∧ Q (.ret (answer vs) h)) fun ch h => Q (.panic ch h)) : aP P G X f args h Q := by
 subst hn
 refine aP.body hX hf hb hx (by simpa [Nat.ble_eq] using hl) (cP.mono hw fun x e h' hq => ?_)
 unfold Ends
 cases x with
 | normal => obtain ⟨vs, hv, hq⟩ := hq; simp only [hv]; exact hq
 | ret => obtain ⟨vs, hv, hq⟩ := hq; simp only [hv]; exact hq
 | exit i => exact hq
 | panic ch => exact hq

/- The operations. -/

theorem aE9 {d t p a g} {x : Operand} {v : Value} (hx : aL G env x = some v) : dD P G env ⟨d, .move x, t, p, a, g⟩ h = some (.val v h) := by simp only [dD, hx, Option.map_some]
theorem aBd {d t p a g} {x : Operand} {v : Value} (hx : aL G env x = some v) : dD P G env ⟨d, .assign x, t, p, a, g⟩ h = some (.val v h) := by simp only [dD, hx, Option.map_some]
theorem aDa {d t p a g} {c x y : Operand} {v : Value} (hc : aL G env c = some (.bool true)) (hx : aL G env x = some v) : dD P G env ⟨d, .pick c x y, t, p, a, g⟩ h = some (.val v h) := by simp only [dD, hc, hx, Option.map_some]
theorem aCl {d t p a g} {c x y : Operand} {v : Value} (hc : aL G env c = some (.bool false)) (hy : aL G env y = some v) : dD P G env ⟨d, .pick c x y, t, p, a, g⟩ h = some (.val v h) := by simp only [dD, hc, hy, Option.map_some]

theorem kF {d t p a g} {op : BinOp} {ty : TypeId} {x y : Operand} {c} {k : IntKind} {i j : Int} {v : Value} (hx : aL G env x = some (.int k i)) (hy : aL G env y = some (.int k j)) (hv : nO P op ty (.int k i) (.int k j) = some v) :
  dD P G env ⟨d, .binOp op ty x y c, t, p, a, g⟩ h = some (.val v h) := by
 have : oK P op ty x y (.int k i) (.int k j) = true := by unfold oK iR; simp
 simp only [dD, hx, hy, this, hv, Option.map_some, if_true]

theorem aHf {d t p a g} {ty : TypeId} {x y : Operand} {c} {k : IntKind} {i j : Int} (hx : aL G env x = some (.int k i)) (hy : aL G env y = some (.int k j)) : dD P G env ⟨d, .binOp .eql ty x y c, t, p, a, g⟩ h = some (.val (.bool (decide (i = j))) h) :=
 kF hx hy (by simp [nO, jB]; rfl)
theorem aG3 {d t p a g} {ty : TypeId} {x y : Operand} {c} {k : IntKind} {i j : Int} (hx : aL G env x = some (.int k i)) (hy : aL G env y = some (.int k j)) : dD P G env ⟨d, .binOp .neq ty x y c, t, p, a, g⟩ h = some (.val (.bool (decide (i ≠ j))) h) :=
 kF hx hy (by simp only [nO, jB, if_true]; congr 2; by_cases e : i = j <;> simp [e])
theorem aG5 {d t p a g} {ty : TypeId} {x y : Operand} {c} {k : IntKind} {i j : Int} (hx : aL G env x = some (.int k i)) (hy : aL G env y = some (.int k j)) : dD P G env ⟨d, .binOp .lss ty x y c, t, p, a, g⟩ h = some (.val (.bool (decide (i < j))) h) :=
 kF hx hy (by simp [nO, jB])
theorem aG1 {d t p a g} {ty : TypeId} {x y : Operand} {c} {k : IntKind} {i j : Int} (hx : aL G env x = some (.int k i)) (hy : aL G env y = some (.int k j)) : dD P G env ⟨d, .binOp .leq ty x y c, t, p, a, g⟩ h = some (.val (.bool (decide (i ≤ j))) h) :=
 kF hx hy (by simp [nO, jB])
theorem aG2 {d t p a g} {ty : TypeId} {x y : Operand} {c} {k : IntKind} {i j : Int} (hx : aL G env x = some (.int k i)) (hy : aL G env y = some (.int k j)) : dD P G env ⟨d, .binOp .gtr ty x y c, t, p, a, g⟩ h = some (.val (.bool (decide (j < i))) h) :=
 kF hx hy (by simp [nO, jB])
theorem aGr {d t p a g} {ty : TypeId} {x y : Operand} {c} {k : IntKind} {i j : Int} (hx : aL G env x = some (.int k i)) (hy : aL G env y = some (.int k j)) : dD P G env ⟨d, .binOp .geq ty x y c, t, p, a, g⟩ h = some (.val (.bool (decide (j ≤ i))) h) :=
 kF hx hy (by simp [nO, jB])

theorem pA {n : Int} (h : -9223372036854775808 ≤ n ∧ n ≤ 9223372036854775807) : IntKind.i64.wrap n = n := by rw [IntKind.wrap_i64]; omega

theorem aEy {d t p a g} {ty : TypeId} {x y : Operand} {c} {i j : Int} (hx : aL G env x = some (.int .i64 i)) (hy : aL G env y = some (.int .i64 j)) (hr : -9223372036854775808 ≤ i + j ∧ i + j ≤ 9223372036854775807) :
  dD P G env ⟨d, .binOp .add ty x y c, t, p, a, g⟩ h = some (.val (.int .i64 (i + j)) h) := kF hx hy (by simp [nO, jB, pA hr])
theorem aFw {d t p a g} {ty : TypeId} {x y : Operand} {c} {i j : Int} (hx : aL G env x = some (.int .i64 i)) (hy : aL G env y = some (.int .i64 j)) (hr : -9223372036854775808 ≤ i - j ∧ i - j ≤ 9223372036854775807) :
  dD P G env ⟨d, .binOp .sub ty x y c, t, p, a, g⟩ h = some (.val (.int .i64 (i - j)) h) := kF hx hy (by simp [nO, jB, pA hr])
theorem aF3 {d t p a g} {ty : TypeId} {x y : Operand} {c} {i j : Int} (hx : aL G env x = some (.int .i64 i)) (hy : aL G env y = some (.int .i64 j)) (hr : -9223372036854775808 ≤ i * j ∧ i * j ≤ 9223372036854775807) :
  dD P G env ⟨d, .binOp .mul ty x y c, t, p, a, g⟩ h = some (.val (.int .i64 (i * j)) h) := kF hx hy (by simp [nO, jB, pA hr])

theorem xY {d t p a g} {op : BinOp} {ty : TypeId} {x y : Operand} {c} {i j : ByteArray} {v : Value} (hx : aL G env x = some (.string i)) (hy : aL G env y = some (.string j)) (hv : pC op i j = some v) :
  dD P G env ⟨d, .binOp op ty x y c, t, p, a, g⟩ h = some (.val v h) := by
 have : oK P op ty x y (.string i) (.string j) = true := by unfold oK iR; simp
 simp only [dD, hx, hy, this, nO, hv, Option.map_some, if_true]

theorem vL (i j : ByteArray) : (i.toList == j.toList) = decide (i = j) := by
 by_cases e : i = j
 ·subst e; simp
 ·have : i.toList ≠ j.toList := by
   intro h
   apply e
   rw [ByteArray.toList_eq, ByteArray.toList_eq] at h
   apply ByteArray.ext
   exact Array.ext' h
  simp [e, this]

theorem aHj {d t p a g} {ty : TypeId} {x y : Operand} {c} {i j : ByteArray} (hx : aL G env x = some (.string i)) (hy : aL G env y = some (.string j)) : dD P G env ⟨d, .binOp .eql ty x y c, t, p, a, g⟩ h = some (.val (.bool (decide (i = j))) h) :=
 xY hx hy (by simp [pC, vL])
theorem aHd {d t p a g} {ty : TypeId} {x y : Operand} {c} {i j : ByteArray} (hx : aL G env x = some (.string i)) (hy : aL G env y = some (.string j)) : dD P G env ⟨d, .binOp .neq ty x y c, t, p, a, g⟩ h = some (.val (.bool (decide (i ≠ j))) h) :=
 xY hx hy (by simp [pC, vL])
theorem aF8 {d t p a g} {ty : TypeId} {x y : Operand} {c} {i j : ByteArray} (hx : aL G env x = some (.string i)) (hy : aL G env y = some (.string j)) (hs : i.size + j.size ≤ 140737488355328) :
  dD P G env ⟨d, .binOp .add ty x y c, t, p, a, g⟩ h = some (.val (.string (i ++ j)) h) :=
 xY hx hy (by simp [pC, hs])

theorem aGz {d t p a g} {ty : TypeId} {x : Operand} {b : Bool} (hx : aL G env x = some (.bool b)) : dD P G env ⟨d, .unOp .not ty x, t, p, a, g⟩ h = some (.val (.bool !b) h) := by simp only [dD, hx, unA, Option.map_some]

theorem zE {d t p a g} {ty : TypeId} {x : Operand} {i off : Nat} {v : Value} (hx : aL G env x = some (.pointer (some ⟨i, off, none⟩))) (hv : oU P ty i off h = some v) : dD P G env ⟨d, .load ty x, t, p, a, g⟩ h = some (.val v h) := by
 simp only [dD, hx, hv, Option.map_some]
theorem aCq {d t p a g} {ty : TypeId} {x y : Operand} {i off : Nat} {v : Value} {h' : aE} (hx : aL G env x = some (.pointer (some ⟨i, off, none⟩))) (hy : aL G env y = some v) (hv : fV P ty i off v h = some h') : dD P G env ⟨d, .store ty x y, t, p, a, g⟩ h = some (.skip h') := by
 simp only [dD, hx, hy, hv, Option.map_some]

def cX (ops : Array Oper) (env : Env) : Option (Nat × Bool) → Option Bool
 | none => some true
 | some (j, want) => match (ops[j]?).bind (·.dst) with
  | none => some false
  | some d => match env d with
   | some (.bool b) => some (b == want)
   | some _ => some false
   | none => none

theorem kJ {ops : Array Oper} {env : Env} {o : Oper} : dH ops env o = cX ops env o.guard := by
 unfold dH cX
 cases o.guard <;> rfl

end

def WS (P : Program) (G : Nat) (X : fE) (n : Nat) (lt : Bool) (ops : Array Oper) (o : Oper) (env : Env) (h : aE) (K : Env → aE → (aE → Prop) → Prop) (F : List PanicEntry → aE → Prop) : Prop :=
 (∃ e, dH ops env o = some false ∧ gA n o.dst undef env = some e ∧ K e h fun _ => True) ∨
 (∃ v h' e S, dH ops env o = some true ∧ dD P G env o h = some (.val v h') ∧ gA n o.dst v env = some e ∧ (∀ H, S H → dD P G env o H = some (.val v H)) ∧ K e h' S) ∨
 (lt = false ∧ (
  (∃ h' e, dH ops env o = some true ∧ dD P G env o h = some (.skip h') ∧ gA n o.dst undef env = some e ∧ K e h' fun _ => True) ∨
  (∃ f args, dH ops env o = some true ∧ dD P G env o h = some (.enter f args) ∧ aP P G X f args h fun r => match r with
   | .ret v h' => ∃ e, gA n o.dst v env = some e ∧ K e h' fun _ => True
   | .panic ch h' => F ch h') ∨
  (∃ v, dH ops env o = some true ∧ dD P G env o h = some (.panic v) ∧ F [{ v, recovered := false }] h)))

abbrev Pe := Nat × (aE → Prop) × Bool

inductive cZ (P : Program) (G : Nat) : List Pe → List (gC × Bool) → Prop
 | nil : cZ P G [] []
 | cons {i : Nat} {S : aE → Prop} {d : Bool} {q : gC} {l : List Pe} {r : List (gC × Bool)} : q.x.i = i → (∀ H, S H → q.xK P G H) → cZ P G l r → cZ P G ((i, S, d) :: l) ((q, d) :: r)

def iI : List Pe → aE → Prop
 | [], _ => True
 | (_, S, true) :: r, h => S h ∧ iI r h
 | (_, _, false) :: r, h => iI r h

def aCg : List Pe → List Pe
 | [] => []
 | (i, S, _) :: r => (i, S, true) :: aCg r

def zT (hG : Nat) : List Pe → List Pe
 | [] => []
 | (i, S, b) :: r => if hG.testBit i then zT hG r else (i, S, b) :: zT hG r

def WD (P : Program) (G : Nat) (X : fE) (n : Nat) (ops : Array Oper) (items : List cT) (pend : List Pe) (env : Env) (h : aE) (N : Env → aE → Prop) (F : List PanicEntry → aE → Prop) : Prop :=
 ∀ pr, cZ P G pend pr → ∃ k r, fL P G (cJ P G X k) n ops items pr env h = some r ∧ match r with
  | .ok e h => N e h
  | .panic ch h => F ch h

section
variable {P : Program} {G : Nat} {X : fE} {n : Nat} {N : Env → aE → Prop} {E : Nat → Env → aE → Prop} {R : Env → aE → Prop} {F : List PanicEntry → aE → Prop} {env : Env} {h : aE}

theorem cZ.clear {pend : List Pe} {pr : List (gC × Bool)} {h : aE} (hc : cZ P G pend pr) (hs : iI pend h) : Clear P G pr h := by
 induction hc with
 | nil => intro p hp; cases hp
 | @cons i S d q l r hi hS hc ih =>
  intro p hp hd
  cases d with
  | true =>
   rcases List.mem_cons.1 hp with rfl | hp
   ·exact hS _ hs.1
   ·exact ih hs.2 p hp hd
  | false =>
   rcases List.mem_cons.1 hp with rfl | hp
   ·cases hd
   ·exact ih hs p hp hd

theorem cZ.oT {pend : List Pe} {pr : List (gC × Bool)} (hc : cZ P G pend pr) : cZ P G (aCg pend) (Go.Am.oT pr) := by
 induction hc with
 | nil => exact .nil
 | cons hi hS hc ih => exact .cons hi hS ih

theorem cZ.bH {hG : Nat} {pend : List Pe} {pr : List (gC × Bool)} (hc : cZ P G pend pr) : cZ P G (zT hG pend) (pr.filter fun p => !hG.testBit p.1.x.i) := by
 induction hc with
 | nil => exact .nil
 | @cons i S d q l r hi hS hc ih =>
  unfold zT
  rw [List.filter_cons, hi]
  by_cases hb : hG.testBit i = true
  ·simp only [hb, if_true, Bool.not_true, Bool.false_eq_true, if_false]
   exact ih
  ·have hb' : hG.testBit i = false := by simpa using hb
   simp only [hb', Bool.false_eq_true, if_false, Bool.not_false, if_true]
   exact .cons hi hS ih

theorem cZ.snoc {i : Nat} {S : aE → Prop} {d : Bool} {q : gC} (hi : q.x.i = i) (hS : ∀ H, S H → q.xK P G H) {pend : List Pe} {pr : List (gC × Bool)} (hc : cZ P G pend pr) : cZ P G (pend ++ [(i, S, d)]) (pr ++ [(q, d)]) := by
 induction hc with
 | nil => exact .cons hi hS .nil
 | cons hi' hS' hc ih => exact .cons hi' hS' ih

theorem pU {dst : Option Tmp} {v : Value} {env e : Env} {K : Env → Prop} (hp : gA n dst v env = some e) (hk : K e) : q0 n dst v env K := by
 unfold gA at hp
 unfold q0
 cases dst with
 | none => cases hp; exact hk
 | some d =>
  simp only at hp
  split at hp
  ·rename_i hd; cases hp; exact ⟨hd, hk⟩
  ·cases hp

theorem WR.cons {ops : Array Oper} {o : Oper} {l : List Oper} (hw : WS P G X n false ops o env h (fun e h _ => WR P G X n ops l e h N F) F) : WR P G X n ops (o :: l) env h N F := by
 unfold WR qT oE
 rcases hw with ⟨e, h1, h2, h3⟩ | ⟨v, h', e, S, h1, h2, h3, _, h4⟩ | ⟨_, ⟨h', e, h1, h2, h3, h4⟩ | ⟨f, args, h1, h2, h3⟩ | ⟨v, h1, h2, h3⟩⟩
 ·rw [h1]; exact pU h2 h3
 ·simp only [h1, h2]; exact pU h3 h4
 ·simp only [h1, h2]; exact pU h3 h4
 ·simp only [h1, h2]
  refine aP.mono h3 fun r hr => ?_
  cases r with
  | ret v h' => obtain ⟨e, he, hk⟩ := hr; exact pU he hk
  | panic ch h' => exact hr
 ·simp only [h1, h2]; exact h3

theorem WD.nil {ops : Array Oper} {pend : List Pe} (hc : iI pend h := by repeat (first | exact trivial | (apply iI.bH) | (apply iI.ask; (· first | exact trivial | exact aA)))) (hq : N env h) : WD P G X n ops [] pend env h N F := by
 intro pr hp
 exact ⟨0, _, by simp only [fL]; rw [if_pos (cZ.clear hp hc)], hq⟩

theorem WD.pure {ops : Array Oper} {i hG : Nat} {o : Oper} {l : List cT} {pend : List Pe} (ho : ops[i]? = some o := by rfl)
  (hw : WS P G X n true ops o env h (fun e h _ => WD P G X n ops l pend e h N F) F) : WD P G X n ops (⟨i, .pure, hG⟩ :: l) pend env h N F := by
 intro pr hp
 rcases hw with ⟨e, h1, h2, h3⟩ | ⟨v, h', e, S, h1, h2, h3, _, h4⟩ | ⟨hc, _⟩
 ·obtain ⟨k, r, hr, hq⟩ := h3 pr hp
  refine ⟨k, r, ?_, hq⟩
  simp only [fL, ho, fS, h1, h2, Option.map_some]
  exact hr
 ·obtain ⟨k, r, hr, hq⟩ := h4 pr hp
  refine ⟨k, r, ?_, hq⟩
  simp only [fL, ho, fS, h1, h2, h3, Option.map_some]
  exact hr
 ·cases hc

theorem WD.read {ops : Array Oper} {i hG : Nat} {o : Oper} {l : List cT} {pend : List Pe} (ho : ops[i]? = some o := by rfl)
  (hw : WS P G X n true ops o env h (fun e h S => WD P G X n ops l (pend ++ [(i, S, false)]) e h N F) F) : WD P G X n ops (⟨i, .read, hG⟩ :: l) pend env h N F := by
 intro pr hp
 rcases hw with ⟨e, h1, h2, h3⟩ | ⟨v, h', e, S, h1, h2, h3, h5, h4⟩ | ⟨hc, _⟩
 ·obtain ⟨k, r, hr, hq⟩ := h3 (pr ++ [(⟨⟨i, .read, hG⟩, o, env, h, h, undef, false⟩, false)]) (cZ.snoc (q := ⟨⟨i, .read, hG⟩, o, env, h, h, undef, false⟩) rfl (fun H _ => by intro hf; cases hf) hp)
  refine ⟨k, r, ?_, hq⟩
  simp only [fL, ho, fS, h1, h2, Option.map_some]
  exact hr
 ·obtain ⟨k, r, hr, hq⟩ := h4 (pr ++ [(⟨⟨i, .read, hG⟩, o, env, h, h', v, true⟩, false)]) (cZ.snoc (q := ⟨⟨i, .read, hG⟩, o, env, h, h', v, true⟩) rfl (fun H hS => by intro _; exact h5 H hS) hp)
  refine ⟨k, r, ?_, hq⟩
  simp only [fL, ho, fS, h1, h2, h3, Option.map_some]
  exact hr
 ·cases hc

theorem WD.alloc {ops : Array Oper} {i hG : Nat} {o : Oper} {l : List cT} {pend : List Pe} (ho : ops[i]? = some o := by rfl)
  (hw : WS P G X n true ops o env h (fun e h' _ => WD P G X n ops l (aCg pend ++ [(i, fun H => H.obj h.next = h'.obj h.next, false)]) e h' N F) F) : WD P G X n ops (⟨i, .alloc, hG⟩ :: l) pend env h N F := by
 intro pr hp
 rcases hw with ⟨e, h1, h2, h3⟩ | ⟨v, h', e, S, h1, h2, h3, h5, h4⟩ | ⟨hc, _⟩
 ·obtain ⟨k, r, hr, hq⟩ := h3 (oT pr ++ [(⟨⟨i, .alloc, hG⟩, o, env, h, h, undef, false⟩, false)]) (cZ.snoc (q := ⟨⟨i, .alloc, hG⟩, o, env, h, h, undef, false⟩) rfl (fun H _ => by intro hf; cases hf) (cZ.oT hp))
  refine ⟨k, r, ?_, hq⟩
  simp only [fL, ho, fS, h1, h2, Option.map_some]
  exact hr
 ·obtain ⟨k, r, hr, hq⟩ := h4 (oT pr ++ [(⟨⟨i, .alloc, hG⟩, o, env, h, h', v, true⟩, false)]) (cZ.snoc (q := ⟨⟨i, .alloc, hG⟩, o, env, h, h', v, true⟩) rfl (fun H hS => by intro _; exact hS) (cZ.oT hp))
  refine ⟨k, r, ?_, hq⟩
  simp only [fL, ho, fS, h1, h2, h3, Option.map_some]
  exact hr
 ·cases hc

theorem WS.step {ops : Array Oper} {o : Oper} {K : Env → aE → (aE → Prop) → Prop} {lt : Bool} (hw : WS P G X n lt ops o env h K F) :
  ∃ k r, jA P G (cJ P G X k) n ops o env h = some r ∧ match r with | .ok e h' => ∃ S, K e h' S | .panic ch h' => F ch h' := by
 unfold jA
 rcases hw with ⟨e, h1, h2, h3⟩ | ⟨v, h', e, S, h1, h2, h3, _, h4⟩ | ⟨_, ⟨h', e, h1, h2, h3, h4⟩ | ⟨f, args, h1, h2, h3⟩ | ⟨v, h1, h2, h3⟩⟩
 ·exact ⟨0, .ok e h, by simp only [h1, h2, Option.map_some], _, h3⟩
 ·exact ⟨0, .ok e h', by simp only [h1, h2, h3, Option.map_some], _, h4⟩
 ·exact ⟨0, .ok e h', by simp only [h1, h2, h3, Option.map_some], _, h4⟩
 ·obtain ⟨k, r, hr, hq⟩ := aP.out h3
  cases r with
  | ret v h' => obtain ⟨e, he, hk⟩ := hq; exact ⟨k, .ok e h', by simp only [h1, h2, hr, he, Option.map_some], _, hk⟩
  | panic ch h' => exact ⟨k, .panic ch h', by simp only [h1, h2, hr], hq⟩
 ·exact ⟨0, .panic _ h, by simp only [h1, h2], h3⟩

theorem WD.aC (hX : bZ X) {ops : Array Oper} {i hG : Nat} {o : Oper} {l : List cT} {pend : List Pe} (ho : ops[i]? = some o := by rfl) (hc : iI pend h := by repeat (first | exact trivial | (apply iI.bH) | (apply iI.ask; (· first | exact trivial | exact aA))))
  (hw : WS P G X n false ops o env h (fun e h' _ => WD P G X n ops l (aCg (zT hG pend)) e h' N F) F) : WD P G X n ops (⟨i, .aC, hG⟩ :: l) pend env h N F := by
 intro pr hp
 obtain ⟨k, r, hs, hr⟩ := WS.step hw
 cases r with
 | ok e h' =>
  obtain ⟨S, hr⟩ := hr
  obtain ⟨k2, r2, h2, hq⟩ := hr _ (cZ.oT (cZ.bH hp))
  refine ⟨max k k2, r2, ?_, hq⟩
  simp only [fL, ho]
  rw [if_pos (cZ.clear hp hc), mT (cV hX (Nat.le_max_left k k2)) hs]
  exact lD (cV hX (Nat.le_max_right k k2)) l h2
 | panic ch h' =>
  refine ⟨k, .panic ch h', ?_, hr⟩
  simp only [fL, ho]
  rw [if_pos (cZ.clear hp hc), hs]

theorem WC.drawn (hX : bZ X) {id : Nat} {ops : Array Oper} {l : List cT} (hp : aGj P ops = some l := by decide +kernel) (hw : WD P G X n ops l [] env h N F) : WC P G X n (.region id ops true) env h N E R F := by
 obtain ⟨k, r, hr, hq⟩ := hw [] .nil
 have hreg : kY P G (cJ P G X (k + 1)) n ops true env h = some r := by
  unfold kY yN
  simp only [if_true, hp]
  exact lD (cV hX (Nat.le_succ k)) l hr
 cases r with
 | ok e h' => exact ⟨k + 1, .normal, e, h', by simp only [exec, hreg], hq⟩
 | panic ch h' => exact ⟨k + 1, .panic ch, env, h', by simp only [exec, hreg], hq⟩

theorem WS.val {lt : Bool} {ops : Array Oper} {op : Op} {d t p a g} {v : Value} {h' : aE} {K : Env → aE → (aE → Prop) → Prop} (S : aE → Prop) (hg : cX ops env g = some true) (hn : Nat.blt d n = true) (ho : dD P G env ⟨some d, op, t, p, a, g⟩ h = some (.val v h'))
  (hS : ∀ H, S H → dD P G env ⟨some d, op, t, p, a, g⟩ H = some (.val v H)) (hk : K (bE env d v) h' S) : WS P G X n lt ops ⟨some d, op, t, p, a, g⟩ env h K F :=
 .inr (.inl ⟨v, h', _, S, kJ.trans hg, ho, if_pos (by simpa [Nat.blt_eq] using hn), hS, hk⟩)

theorem WS.same {lt : Bool} {ops : Array Oper} {op : Op} {d t p a g} {v : Value} {K : Env → aE → (aE → Prop) → Prop} (hg : cX ops env g = some true) (hn : Nat.blt d n = true) (ho : ∀ h, dD P G env ⟨some d, op, t, p, a, g⟩ h = some (.val v h))
  (hk : K (bE env d v) h fun _ => True) : WS P G X n lt ops ⟨some d, op, t, p, a, g⟩ env h K F := WS.val _ hg hn (ho h) (fun H _ => ho H) hk

theorem WS.uw {lt : Bool} {ops : Array Oper} {op : Op} {d t p a g} {K : Env → aE → (aE → Prop) → Prop} (hg : cX ops env (some g) = some false := by rfl) (hn : Nat.blt d n = true := by rfl)
  (hk : K (bE env d undef) h fun _ => True) : WS P G X n lt ops ⟨some d, op, t, p, a, some g⟩ env h K F := .inl ⟨_, kJ.trans hg, if_pos (by simpa [Nat.blt_eq] using hn), hk⟩
theorem WS.skip {ops : Array Oper} {op : Op} {t p a g} {h' : aE} {K : Env → aE → (aE → Prop) → Prop} (hg : cX ops env g = some true) (ho : dD P G env ⟨none, op, t, p, a, g⟩ h = some (.skip h'))
  (hk : K env h' fun _ => True) : WS P G X n false ops ⟨none, op, t, p, a, g⟩ env h K F := .inr (.inr ⟨rfl, .inl ⟨h', _, kJ.trans hg, ho, rfl, hk⟩⟩)
theorem WS.enter {ops : Array Oper} {op : Op} {d t p a g} {f : FuncId} {args : List Value} {K : Env → aE → (aE → Prop) → Prop} (hg : cX ops env g = some true) (hn : Nat.blt d n = true) (ho : dD P G env ⟨some d, op, t, p, a, g⟩ h = some (.enter f args))
  (hk : aP P G X f args h fun r => match r with | .ret v h' => K (bE env d v) h' (fun _ => True) | .panic ch h' => F ch h') : WS P G X n false ops ⟨some d, op, t, p, a, g⟩ env h K F := by
 refine .inr (.inr ⟨rfl, .inr (.inl ⟨f, args, kJ.trans hg, ho, aP.mono hk fun r hr => ?_⟩)⟩)
 cases r with
 | ret v h' => exact ⟨_, if_pos (by simpa [Nat.blt_eq] using hn), hr⟩
 | panic ch h' => exact hr
theorem WS.panic {ops : Array Oper} {op : Op} {d t p a g} {v : Value} {K : Env → aE → (aE → Prop) → Prop} (hg : cX ops env g = some true) (ho : dD P G env ⟨d, op, t, p, a, g⟩ h = some (.panic v))
  (hk : F [{ v, recovered := false }] h) : WS P G X n false ops ⟨d, op, t, p, a, g⟩ env h K F := .inr (.inr ⟨rfl, .inr (.inr ⟨v, kJ.trans hg, ho, hk⟩)⟩)

theorem WS.uF {lt : Bool} {ops : Array Oper} {op : Op} {d t q a g} {p : Prop} [Decidable p] {K : Env → aE → (aE → Prop) → Prop} (hg : cX ops env g = some true) (hn : Nat.blt d n = true) (ho : ∀ h, dD P G env ⟨some d, op, t, q, a, g⟩ h = some (.val (.bool (decide p)) h))
  (h1 : p → K (bE env d (.bool true)) h fun _ => True) (h2 : ¬p → K (bE env d (.bool false)) h fun _ => True) : WS P G X n lt ops ⟨some d, op, t, q, a, g⟩ env h K F := by
 by_cases hp : p
 ·refine WS.same hg hn (v := .bool true) (fun h => ?_) (h1 hp)
  rw [ho h, decide_eq_true hp]
 ·refine WS.same hg hn (v := .bool false) (fun h => ?_) (h2 hp)
  rw [ho h, decide_eq_false hp]
theorem WS.aM0 {lt : Bool} {ops : Array Oper} {op : Op} {d t q a g} {b : Bool} {K : Env → aE → (aE → Prop) → Prop} (hg : cX ops env g = some true) (hn : Nat.blt d n = true) (ho : ∀ h, dD P G env ⟨some d, op, t, q, a, g⟩ h = some (.val (.bool b) h))
  (h1 : b = true → K (bE env d (.bool true)) h fun _ => True) (h2 : b = false → K (bE env d (.bool false)) h fun _ => True) : WS P G X n lt ops ⟨some d, op, t, q, a, g⟩ env h K F := by
 cases b
 ·exact WS.same hg hn ho (h2 rfl)
 ·exact WS.same hg hn ho (h1 rfl)

attribute [irreducible] WC WR WD WS

end
end Go.Am
end

section
namespace Go.Am
set_option linter.unusedVariables false
set_option linter.unusedSimpArgs false
open Go.RowKit (Below)

section
variable {P : Program} {G : Nat} {X : fE} {n : Nat} {F : List PanicEntry → aE → Prop} {env : Env} {h : aE} {lt : Bool} {ops : Array Oper} {d : Nat} {t : TypeId} {p : String} {a : Array Edge} {g : Option (Nat × Bool)} {K : Env → aE → (aE → Prop) → Prop}

theorem aW {x : Operand} {xs : List Operand} {v : Value} {vs : List Value} (hx : aL G env x = some v) (hl : bM G env xs = some vs) : bM G env (x :: xs) = some (v :: vs) := by simp only [bM, hx, hl]

def dG : List Value → Option (List Value)
 | [] => some []
 | a :: l => match dG l with
  | some l' => some (a :: l')
  | none => none

theorem eM : ∀ {l l' : List Value}, dG l = some l' → l = l'
 | [], l', h => by simp [dG] at h; exact h.symm
 | a :: l, l', h => by
  unfold dG at h
  split at h
  ·rename_i l2 h2
   simp at h; subst h
   rw [eM h2]
  ·cases h

def p8 : Value → Option Value
 | .agg cs => match dG cs.toList with
  | some l => some (.agg (List.toArray l))
  | none => none
 | .bool b => some (.bool b)
 | .int k n => some (.int k n)
 | .string s => some (.string s)
 | .pointer a => some (.pointer a)
 | .slice a n c => some (.slice a n c)
 | .iface t v => some (.iface t v)
 | .nilIface => some .nilIface
 | .nilFunc => some .nilFunc
 | .map m => some (.map m)
 | .func f a b => some (.func f a b)
 | .tuple cs => match dG cs.toList with
  | some l => some (.tuple (List.toArray l))
  | none => none
 | _ => none

theorem vN {v v' : Value} (h : p8 v = some v') : v = v' := by
 unfold p8 at h
 split at h
 case h_1 cs =>
  split at h
  ·rename_i l hl
   simp at h; subst h
   rw [← eM hl]
  ·cases h
 case h_12 cs =>
  split at h
  ·rename_i l hl
   simp at h; subst h
   rw [← eM hl]
  ·cases h
 all_goals first | (cases h; done) | (simp at h; exact h)

def jV (P : Program) (t : TypeId) : List (Option Nat) :=
 match P.underlying t with
 | some (.struct fields) => fields.toList.map fun fd => match dJ P fd.type with
  | some (_ + 1) => some fd.offset
  | _ => none
 | _ => []

theorem vY {ty : TypeId} {f o i off : Nat} (h : (jV P ty)[f]? = some (some o)) : jU P ty (.pointer (some ⟨i, off, none⟩)) f = some (.pointer (some ⟨i, off + o, none⟩)) := by
 unfold jV at h
 unfold jU
 split at h
 ·rename_i fields hu
  simp only [hu]
  rw [List.getElem?_map] at h
  have hf : fields[f]? = fields.toList[f]? := by simp
  rw [hf]
  cases hq : fields.toList[f]? with
  | none => rw [hq] at h; cases h
  | some fd =>
   rw [hq] at h
   simp only [Option.map_some, Option.some.injEq] at h
   split at h
   ·rename_i m hm
    simp only [Option.some.injEq] at h
    subst h
    simp only [hm]
    rw [if_neg (Nat.succ_ne_zero m)]
   ·cases h
 ·simp at h

theorem WS.move {x : Operand} {v : Value} (hg : cX ops env g = some true := by rfl) (hn : Nat.blt d n = true := by rfl) (hx : aL G env x = some v := by first | rfl | assumption)
  (hk : K (bE env d v) h fun _ => True) : WS P G X n lt ops ⟨some d, .move x, t, p, a, g⟩ env h K F := WS.same hg hn (fun h => aE9 hx) hk
theorem WS.assign {x : Operand} {v : Value} (hg : cX ops env g = some true := by rfl) (hn : Nat.blt d n = true := by rfl) (hx : aL G env x = some v := by first | rfl | assumption)
  (hk : K (bE env d v) h fun _ => True) : WS P G X n lt ops ⟨some d, .assign x, t, p, a, g⟩ env h K F := WS.same hg hn (fun h => aBd hx) hk
theorem WS.aIr {c x y : Operand} {v : Value} (hg : cX ops env g = some true := by rfl) (hn : Nat.blt d n = true := by rfl) (hc : aL G env c = some (.bool true) := by first | rfl | assumption)(hx : aL G env x = some v := by first | rfl | assumption)
  (hk : K (bE env d v) h fun _ => True) : WS P G X n lt ops ⟨some d, .pick c x y, t, p, a, g⟩ env h K F := WS.same hg hn (fun h => aDa hc hx) hk
theorem WS.aIp {c x y : Operand} {v : Value} (hg : cX ops env g = some true := by rfl) (hn : Nat.blt d n = true := by rfl) (hc : aL G env c = some (.bool false) := by first | rfl | assumption)(hy : aL G env y = some v := by first | rfl | assumption)
  (hk : K (bE env d v) h fun _ => True) : WS P G X n lt ops ⟨some d, .pick c x y, t, p, a, g⟩ env h K F := WS.same hg hn (fun h => aCl hc hy) hk
theorem WS.not {ty : TypeId} {x : Operand} {b : Bool} (hg : cX ops env g = some true := by rfl) (hn : Nat.blt d n = true := by rfl) (hx : aL G env x = some (.bool b) := by first | rfl | assumption)
  (hk : K (bE env d (.bool !b)) h fun _ => True) : WS P G X n lt ops ⟨some d, .unOp .not ty x, t, p, a, g⟩ env h K F := WS.same hg hn (fun h => aGz hx) hk
theorem WS.aK8 {ty : TypeId} {x y : Operand} {c} {i j : Int} (hg : cX ops env g = some true := by rfl) (hn : Nat.blt d n = true := by rfl) (hx : aL G env x = some (.int .i64 i) := by first | rfl | assumption)(hy : aL G env y = some (.int .i64 j) := by first | rfl | assumption)(hr : -9223372036854775808 ≤ i + j ∧ i + j ≤ 9223372036854775807 := by omega)
  (hk : K (bE env d (.int .i64 (i + j))) h fun _ => True) : WS P G X n lt ops ⟨some d, .binOp .add ty x y c, t, p, a, g⟩ env h K F := WS.same hg hn (fun h => aEy hx hy hr) hk
theorem WS.aLn {ty : TypeId} {x y : Operand} {c} {i j : Int} (hg : cX ops env g = some true := by rfl) (hn : Nat.blt d n = true := by rfl) (hx : aL G env x = some (.int .i64 i) := by first | rfl | assumption)(hy : aL G env y = some (.int .i64 j) := by first | rfl | assumption)(hr : -9223372036854775808 ≤ i - j ∧ i - j ≤ 9223372036854775807 := by omega)
  (hk : K (bE env d (.int .i64 (i - j))) h fun _ => True) : WS P G X n lt ops ⟨some d, .binOp .sub ty x y c, t, p, a, g⟩ env h K F := WS.same hg hn (fun h => aFw hx hy hr) hk
theorem WS.aK6 {ty : TypeId} {x y : Operand} {c} {i j : Int} (hg : cX ops env g = some true := by rfl) (hn : Nat.blt d n = true := by rfl) (hx : aL G env x = some (.int .i64 i) := by first | rfl | assumption)(hy : aL G env y = some (.int .i64 j) := by first | rfl | assumption)(hr : -9223372036854775808 ≤ i * j ∧ i * j ≤ 9223372036854775807 := by omega)
  (hk : K (bE env d (.int .i64 (i * j))) h fun _ => True) : WS P G X n lt ops ⟨some d, .binOp .mul ty x y c, t, p, a, g⟩ env h K F := WS.same hg hn (fun h => aF3 hx hy hr) hk
theorem zQ (a : Array UInt8) : (ByteArray.mk a).size = a.size := rfl
theorem WS.aMj {ty : TypeId} {x y : Operand} {c} {i j : ByteArray} (hg : cX ops env g = some true := by rfl) (hn : Nat.blt d n = true := by rfl) (hx : aL G env x = some (.string i) := by first | rfl | assumption)(hy : aL G env y = some (.string j) := by first | rfl | assumption)(hs : i.size + j.size ≤ 140737488355328 := by first | omega | ((try simp only [ByteArray.size_append, zQ, List.size_toArray, List.length_cons, List.length_nil]); omega))
  (hk : K (bE env d (.string (i ++ j))) h fun _ => True) : WS P G X n lt ops ⟨some d, .binOp .add ty x y c, t, p, a, g⟩ env h K F := WS.same hg hn (fun h => aF8 hx hy hs) hk
theorem WS.un {op : UnOp} {ty : TypeId} {x : Operand} {u v : Value} (hg : cX ops env g = some true) (hn : Nat.blt d n = true) (hx : aL G env x = some u)(hv : unA op u = some v)
  (hk : K (bE env d v) h fun _ => True) : WS P G X n lt ops ⟨some d, .unOp op ty x, t, p, a, g⟩ env h K F := WS.same hg hn (fun h => by simp only [dD, hx, hv, Option.map_some]) hk
theorem WS.nilCheck {x : Operand} {q : Addr} (hg : cX ops env g = some true := by rfl) (hn : Nat.blt d n = true := by rfl) (hx : aL G env x = some (.pointer (some q)) := by first | rfl | assumption)
  (hk : K (bE env d (.pointer (some q))) h fun _ => True) : WS P G X n lt ops ⟨some d, .nilCheck x, t, p, a, g⟩ env h K F := WS.same hg hn (fun h => by simp only [dD, hx, nA, Option.map_some]) hk
theorem WS.fieldAddr {ty : TypeId} {x : Operand} {f : Nat} {i off o : Nat} (hg : cX ops env g = some true := by rfl) (hn : Nat.blt d n = true := by rfl) (hx : aL G env x = some (.pointer (some ⟨i, off, none⟩)) := by first | rfl | assumption) (hv : (jV P ty)[f]? = some (some o) := by exact xR rfl rfl)
  (hk : K (bE env d (.pointer (some ⟨i, off + o, none⟩))) h fun _ => True) : WS P G X n lt ops ⟨some d, .fieldAddr ty x f, t, p, a, g⟩ env h K F := WS.same hg hn (fun h => by simp only [dD, hx, vY hv, Option.map_some]) hk
theorem WS.field {ty : TypeId} {x : Operand} {f : Nat} {u v0 v : Value} (hg : cX ops env g = some true := by rfl) (hn : Nat.blt d n = true := by rfl) (hx : aL G env x = some u := by first | rfl | assumption)(hv0 : qI P ty u f = some v0 := by rfl) (hf : p8 v0 = some v := by rfl)
  (hk : K (bE env d v) h fun _ => True) : WS P G X n lt ops ⟨some d, .field ty x f, t, p, a, g⟩ env h K F := WS.same hg hn (fun h => by cases vN hf; simp only [dD, hx, hv0, Option.map_some]) hk
theorem WS.indexAddr {ty : TypeId} {x y : Operand} {e : TypeId} {i off len es : Nat} {k : Int} {q} (hg : cX ops env g = some true := by rfl) (hn : Nat.blt d n = true := by rfl) (hx : aL G env x = some (.slice (some ⟨i, off, none⟩) len es) := by first | rfl | assumption)(hy : aL G env y = some (.int q k) := by first | rfl | assumption)(hu : P.underlying ty = some (.slice e) := by rfl) (hs : dJ P e = some es := by exact fK rfl) (hb : 0 ≤ k ∧ k < len := by omega)
  (hk : K (bE env d (.pointer (some ⟨i, off + k.toNat * es, none⟩))) h fun _ => True) : WS P G X n lt ops ⟨some d, .indexAddr ty x y, t, p, a, g⟩ env h K F := WS.same hg hn (fun h => by simp only [dD, hx, hy, lC, hu, hs]; rw [if_pos (by simp [hb.1, hb.2])]; rfl) hk
def aT (s : ByteArray) (k : Int) : Int := (s.data.toList.getD k.toNat 0).toNat

theorem aD2 {s : ByteArray} {k : Int} (hb : 0 ≤ k ∧ k < s.size) : ∃ b : UInt8, s[k.toNat]? = some b ∧ aT s k = b.toNat := by
 have hk : k.toNat < s.size := by omega
 refine ⟨s[k.toNat], by simp [hk], ?_⟩
 unfold aT
 rw [List.getD_eq_getElem?_getD]
 have : s.data.toList[k.toNat]? = some s[k.toNat] := by
  rw [List.getElem?_eq_getElem (by simpa using hk)]
  rfl
 rw [this]; rfl

theorem zB (s : ByteArray) (k : Int) : 0 ≤ aT s k ∧ aT s k ≤ 255 := by
 unfold aT
 have := (s.data.toList.getD k.toNat 0).toNat_lt
 omega

theorem WS.aGg {ty : TypeId} {x y : Operand} {s : ByteArray} {k : Int} {q} (hg : cX ops env g = some true := by rfl) (hn : Nat.blt d n = true := by rfl) (hx : aL G env x = some (.string s) := by first | rfl | assumption)(hy : aL G env y = some (.int q k) := by first | rfl | assumption)(hu : P.underlying ty = some .string := by rfl) (hb : 0 ≤ k ∧ k < s.size := by omega)
  (hk : K (bE env d (.int .u8 (aT s k))) h fun _ => True) : WS P G X n lt ops ⟨some d, .index ty x y, t, p, a, g⟩ env h K F := WS.same hg hn (fun h => by obtain ⟨b, h1, h2⟩ := aD2 hb; simp only [dD, hx, hy, sE, hu]; rw [if_pos hb.1, h1, h2]; rfl) hk
theorem WS.index {ty : TypeId} {x y : Operand} {u w v : Value} (hg : cX ops env g = some true) (hn : Nat.blt d n = true) (hx : aL G env x = some u)(hy : aL G env y = some w)(hv : sE P ty u w = some v)
  (hk : K (bE env d v) h fun _ => True) : WS P G X n lt ops ⟨some d, .index ty x y, t, p, a, g⟩ env h K F := WS.same hg hn (fun h => by simp only [dD, hx, hy, hv, Option.map_some]) hk
def gR (s : ByteArray) (l r : Int) : ByteArray := s.extract l.toNat r.toNat
theorem rJ (s : ByteArray) (l r : Int) : gR s l r = s.extract l.toNat r.toNat := rfl
theorem k7 {s : ByteArray} {l r : Int} (h : 0 ≤ l ∧ l ≤ r ∧ r ≤ s.size) : ((gR s l r).size : Int) = r - l := by
 unfold gR; rw [ByteArray.size_extract]; omega

theorem WS.fU {ty : TypeId} {x lo hi : Operand} {s : ByteArray} {l r : Int} {q q2} (hg : cX ops env g = some true := by rfl) (hn : Nat.blt d n = true := by rfl) (hx : aL G env x = some (.string s) := by first | rfl | assumption)(hlo : aL G env lo = some (.int q l) := by first | rfl | assumption)(hhi : aL G env hi = some (.int q2 r) := by first | rfl | assumption)(hu : P.underlying ty = some .string := by rfl) (hb : 0 ≤ l ∧ l ≤ r ∧ r ≤ s.size := by omega)
  (hk : K (bE env d (.string (gR s l r))) h fun _ => True) : WS P G X n lt ops ⟨some d, .slice ty x (some lo) (some hi) none, t, p, a, g⟩ env h K F := WS.same hg hn (fun h => by simp only [dD, hx, bM, hlo, hhi, kP, hu, lJ, Option.toList, List.head?_cons]; rw [if_pos (by simp; omega)]; simp only []; rw [if_pos (by simp; omega)]; rfl) hk
theorem WS.vM {ty : TypeId} {x lo : Operand} {s : ByteArray} {l : Int} {q} (hg : cX ops env g = some true := by rfl) (hn : Nat.blt d n = true := by rfl) (hx : aL G env x = some (.string s) := by first | rfl | assumption)(hlo : aL G env lo = some (.int q l) := by first | rfl | assumption)(hu : P.underlying ty = some .string := by rfl) (hb : 0 ≤ l ∧ l ≤ s.size := by omega)
  (hk : K (bE env d (.string (gR s l s.size))) h fun _ => True) : WS P G X n lt ops ⟨some d, .slice ty x (some lo) none none, t, p, a, g⟩ env h K F := WS.same hg hn (fun h => by simp only [dD, hx, bM, hlo, kP, hu, lJ, Option.toList, List.head?_cons, List.head?_nil]; rw [if_pos (by simp; omega)]; rfl) hk
theorem WS.qW {ty : TypeId} {x hi : Operand} {s : ByteArray} {r : Int} {q} (hg : cX ops env g = some true := by rfl) (hn : Nat.blt d n = true := by rfl) (hx : aL G env x = some (.string s) := by first | rfl | assumption)(hhi : aL G env hi = some (.int q r) := by first | rfl | assumption)(hu : P.underlying ty = some .string := by rfl) (hb : 0 ≤ r ∧ r ≤ s.size := by omega)
  (hk : K (bE env d (.string (gR s 0 r))) h fun _ => True) : WS P G X n lt ops ⟨some d, .slice ty x none (some hi) none, t, p, a, g⟩ env h K F := WS.same hg hn (fun h => by simp only [dD, hx, bM, hhi, kP, hu, lJ, Option.toList, List.head?_cons, List.head?_nil]; rw [if_pos (by simp; omega)]; rfl) hk
theorem WS.slice {ty : TypeId} {x : Operand} {lo hi : Option Operand} {u v : Value} {l r : List Value} (hg : cX ops env g = some true) (hn : Nat.blt d n = true) (hx : aL G env x = some u)(hl : bM G env lo.toList = some l) (hh : bM G env hi.toList = some r) (hv : kP P ty u l.head? r.head? = some v)
  (hk : K (bE env d v) h fun _ => True) : WS P G X n lt ops ⟨some d, .slice ty x lo hi none, t, p, a, g⟩ env h K F := WS.same hg hn (fun h => by simp only [dD, hx, hl, hh, hv, Option.map_some]) hk
theorem WS.build {ty : TypeId} {parts} {ps} {v0 v : Value} (hg : cX ops env g = some true := by rfl) (hn : Nat.blt d n = true := by rfl) (hp : dC G env parts.toList = some ps := by rfl) (hv0 : qE P ty ps = some v0 := by rfl) (hf : p8 v0 = some v := by rfl)
  (hk : K (bE env d v) h fun _ => True) : WS P G X n lt ops ⟨some d, .build ty parts, t, p, a, g⟩ env h K F := WS.same hg hn (fun h => by cases vN hf; simp only [dD, hp, hv0, Option.map_some]) hk
theorem WS.iface {ty : TypeId} {x : Operand} {v : Value} {u} (hg : cX ops env g = some true := by rfl) (hn : Nat.blt d n = true := by rfl) (hx : aL G env x = some v := by first | rfl | assumption)(hu : P.underlying ty = some u := by rfl) (hi : ∀ m, u ≠ .interface m := by (intro m hm; cases hm))
  (hk : K (bE env d (.iface ty v)) h fun _ => True) : WS P G X n lt ops ⟨some d, .makeInterface ty x, t, p, a, g⟩ env h K F := WS.same hg hn (fun h => by cases u <;> first | exact (hi _ rfl).elim | simp only [dD, hx, hu]) hk
theorem WS.makeFunc {fn : Fn} {first cap : Array Operand} {f c} (hg : cX ops env g = some true := by rfl) (hn : Nat.blt d n = true := by rfl) (hf : bM G env first.toList = some f := by first | rfl | exact aW (by first | rfl | assumption) rfl | exact aW (by first | rfl | assumption) (aW (by first | rfl | assumption) rfl) | exact aW (by first | rfl | assumption) (aW (by first | rfl | assumption) (aW (by first | rfl | assumption) rfl))) (hc : bM G env cap.toList = some c := by first | rfl | exact aW (by first | rfl | assumption) rfl | exact aW (by first | rfl | assumption) (aW (by first | rfl | assumption) rfl) | exact aW (by first | rfl | assumption) (aW (by first | rfl | assumption) (aW (by first | rfl | assumption) rfl)))
  (hk : K (bE env d (.func fn f.toArray c.toArray)) h fun _ => True) : WS P G X n lt ops ⟨some d, .makeFunc fn first cap, t, p, a, g⟩ env h K F := WS.same hg hn (fun h => by simp only [dD, hf, hc]) hk
theorem WS.aGh {x : Operand} {i : Nat} {vs : Array Value} {v0 v : Value} (hg : cX ops env g = some true := by rfl) (hn : Nat.blt d n = true := by rfl) (hx : aL G env x = some (.tuple vs) := by first | rfl | assumption) (hv : vs[i]? = some v0 := by rfl) (hf : p8 v0 = some v := by rfl)
  (hk : K (bE env d v) h fun _ => True) : WS P G X n lt ops ⟨some d, .extract x i, t, p, a, g⟩ env h K F := WS.same hg hn (fun h => by cases vN hf; simp only [dD, hx, hv, Option.map_some]) hk
theorem WS.extract {x : Operand} {i : Nat} {vs : Array Value} {v : Value} (hg : cX ops env g = some true := by rfl) (hn : Nat.blt d n = true := by rfl) (hx : aL G env x = some (.tuple vs) := by first | rfl | assumption)(hv : vs[i]? = some v := by rfl)
  (hk : K (bE env d v) h fun _ => True) : WS P G X n lt ops ⟨some d, .extract x i, t, p, a, g⟩ env h K F := WS.same hg hn (fun h => by simp only [dD, hx, hv, Option.map_some]) hk
theorem WS.aKy {ty : TypeId} {x : Operand} {s : ByteArray} (hg : cX ops env g = some true := by rfl) (hn : Nat.blt d n = true := by rfl) (hx : aL G env x = some (.string s) := by first | rfl | assumption)(hu : P.underlying ty = some .string := by rfl)
  (hk : K (bE env d (.int .i64 s.size)) h fun _ => True) : WS P G X n lt ops ⟨some d, .call ⟨.builtin .len, #[x], #[ty]⟩, t, p, a, g⟩ env h K F := WS.same hg hn (fun h => by simp only [dD, iO, bM, hx, aCw, hu, List.getElem?_toArray, List.getElem?_cons_zero, Option.map_some]) hk
theorem WS.aL7 {ty e : TypeId} {x : Operand} {b} {m es : Nat} (hg : cX ops env g = some true := by rfl) (hn : Nat.blt d n = true := by rfl) (hx : aL G env x = some (.slice b m es) := by first | rfl | assumption)(hu : P.underlying ty = some (.slice e) := by rfl)
  (hk : K (bE env d (.int .i64 m)) h fun _ => True) : WS P G X n lt ops ⟨some d, .call ⟨.builtin .len, #[x], #[ty]⟩, t, p, a, g⟩ env h K F := WS.same hg hn (fun h => by simp only [dD, iO, bM, hx, aCw, hu, List.getElem?_toArray, List.getElem?_cons_zero, Option.map_some]) hk
theorem WS.max {tys} {x y : Operand} {k k2 : IntKind} {i j : Int} (hg : cX ops env g = some true := by rfl) (hn : Nat.blt d n = true := by rfl) (hx : aL G env x = some (.int k i) := by first | rfl | assumption)(hy : aL G env y = some (.int k2 j) := by first | rfl | assumption)
  (hk : K (bE env d (.int k (if j > i then j else i))) h fun _ => True) : WS P G X n lt ops ⟨some d, .call ⟨.builtin .max, #[x, y], tys⟩, t, p, a, g⟩ env h K F := WS.same hg hn (fun h => by simp only [dD, iO, bM, hx, hy, yY, if_true, Option.map_some]) hk
theorem WS.min {tys} {x y : Operand} {k k2 : IntKind} {i j : Int} (hg : cX ops env g = some true := by rfl) (hn : Nat.blt d n = true := by rfl) (hx : aL G env x = some (.int k i) := by first | rfl | assumption)(hy : aL G env y = some (.int k2 j) := by first | rfl | assumption)
  (hk : K (bE env d (.int k (if j < i then j else i))) h fun _ => True) : WS P G X n lt ops ⟨some d, .call ⟨.builtin .min, #[x, y], tys⟩, t, p, a, g⟩ env h K F := WS.same hg hn (fun h => by simp only [dD, iO, bM, hx, hy, yY, Bool.false_eq_true, if_false, Option.map_some]) hk
theorem WS.aIe {ty ty2 : TypeId} {x : Operand} {k k2 : IntKind} {i : Int} {u} (hg : cX ops env g = some true := by rfl) (hn : Nat.blt d n = true := by rfl) (hx : aL G env x = some (.int k2 i) := by first | rfl | assumption)(hu : P.underlying ty = some u := by rfl) (hu2 : P.underlying ty2 = some (.int k) := by rfl) (hr : k.wrap i = i := by first | (rw [IntKind.wrap_i64]; omega) | (rw [IntKind.wrap_u8]; omega) | (rw [IntKind.wrap_u64]; omega))
  (hk : K (bE env d (.int k i)) h fun _ => True) : WS P G X n lt ops ⟨some d, .convert ty ty2 x, t, p, a, g⟩ env h K F := WS.same hg hn (fun h => by simp only [dD, hx, hZ, hu, hu2, hr, Option.map_some]) hk
theorem WS.aMz {ty : TypeId} {x y : Operand} {c} {k : IntKind} {i j : Int} (hg : cX ops env g = some true := by rfl) (hn : Nat.blt d n = true := by rfl) (hx : aL G env x = some (.int k i) := by first | rfl | assumption)(hy : aL G env y = some (.int k j) := by first | rfl | assumption)(hr : k.wrap (i - j) = i - j := by first | (rw [IntKind.wrap_i64]; omega) | (rw [IntKind.wrap_u8]; omega) | (rw [IntKind.wrap_u64]; omega))
  (hk : K (bE env d (.int k (i - j))) h fun _ => True) : WS P G X n lt ops ⟨some d, .binOp .sub ty x y c, t, p, a, g⟩ env h K F := WS.same hg hn (fun h => kF hx hy (by simp [nO, jB, hr])) hk
theorem WS.bytesOf {ty ty2 e : TypeId} {x : Operand} {s : ByteArray} {u} (hg : cX ops env g = some true := by rfl) (hn : Nat.blt d n = true := by rfl) (hx : aL G env x = some (.string s) := by first | rfl | assumption) (hu : P.underlying ty = some u := by rfl) (hu2 : P.underlying ty2 = some (.slice e) := by rfl) (hu3 : P.underlying e = some (.int .u8) := by rfl)
  (hk : K (bE env d (.slice (some ⟨h.next, 0, none⟩) s.size 1)) (h.alloc (.cells false (s.data.toList.map fun b => Value.int .u8 b.toNat))) fun _ => False) : WS P G X n lt ops ⟨some d, .convert ty ty2 x, t, p, a, g⟩ env h K F :=
 WS.val _ hg hn (by simp only [dD, hx, hZ, hu, hu2, hu3, Option.map_some]) (fun _ hf => hf.elim) hk
theorem WS.eqI {ty : TypeId} {x y : Operand} {c} {k : IntKind} {i j : Int} (hg : cX ops env g = some true := by rfl) (hn : Nat.blt d n = true := by rfl) (hx : aL G env x = some (.int k i) := by first | rfl | assumption) (hy : aL G env y = some (.int k j) := by first | rfl | assumption)
  (h1 : i = j → K (bE env d (.bool true)) h fun _ => True) (h2 : ¬(i = j) → K (bE env d (.bool false)) h fun _ => True) : WS P G X n lt ops ⟨some d, .binOp .eql ty x y c, t, p, a, g⟩ env h K F := WS.uF hg hn (fun h => aHf hx hy) h1 h2
theorem WS.neI {ty : TypeId} {x y : Operand} {c} {k : IntKind} {i j : Int} (hg : cX ops env g = some true := by rfl) (hn : Nat.blt d n = true := by rfl) (hx : aL G env x = some (.int k i) := by first | rfl | assumption) (hy : aL G env y = some (.int k j) := by first | rfl | assumption)
  (h1 : i ≠ j → K (bE env d (.bool true)) h fun _ => True) (h2 : ¬(i ≠ j) → K (bE env d (.bool false)) h fun _ => True) : WS P G X n lt ops ⟨some d, .binOp .neq ty x y c, t, p, a, g⟩ env h K F := WS.uF hg hn (fun h => aG3 hx hy) h1 h2
theorem WS.ltI {ty : TypeId} {x y : Operand} {c} {k : IntKind} {i j : Int} (hg : cX ops env g = some true := by rfl) (hn : Nat.blt d n = true := by rfl) (hx : aL G env x = some (.int k i) := by first | rfl | assumption) (hy : aL G env y = some (.int k j) := by first | rfl | assumption)
  (h1 : i < j → K (bE env d (.bool true)) h fun _ => True) (h2 : ¬(i < j) → K (bE env d (.bool false)) h fun _ => True) : WS P G X n lt ops ⟨some d, .binOp .lss ty x y c, t, p, a, g⟩ env h K F := WS.uF hg hn (fun h => aG5 hx hy) h1 h2
theorem WS.leI {ty : TypeId} {x y : Operand} {c} {k : IntKind} {i j : Int} (hg : cX ops env g = some true := by rfl) (hn : Nat.blt d n = true := by rfl) (hx : aL G env x = some (.int k i) := by first | rfl | assumption) (hy : aL G env y = some (.int k j) := by first | rfl | assumption)
  (h1 : i ≤ j → K (bE env d (.bool true)) h fun _ => True) (h2 : ¬(i ≤ j) → K (bE env d (.bool false)) h fun _ => True) : WS P G X n lt ops ⟨some d, .binOp .leq ty x y c, t, p, a, g⟩ env h K F := WS.uF hg hn (fun h => aG1 hx hy) h1 h2
theorem WS.gtI {ty : TypeId} {x y : Operand} {c} {k : IntKind} {i j : Int} (hg : cX ops env g = some true := by rfl) (hn : Nat.blt d n = true := by rfl) (hx : aL G env x = some (.int k i) := by first | rfl | assumption) (hy : aL G env y = some (.int k j) := by first | rfl | assumption)
  (h1 : j < i → K (bE env d (.bool true)) h fun _ => True) (h2 : ¬(j < i) → K (bE env d (.bool false)) h fun _ => True) : WS P G X n lt ops ⟨some d, .binOp .gtr ty x y c, t, p, a, g⟩ env h K F := WS.uF hg hn (fun h => aG2 hx hy) h1 h2
theorem WS.geI {ty : TypeId} {x y : Operand} {c} {k : IntKind} {i j : Int} (hg : cX ops env g = some true := by rfl) (hn : Nat.blt d n = true := by rfl) (hx : aL G env x = some (.int k i) := by first | rfl | assumption) (hy : aL G env y = some (.int k j) := by first | rfl | assumption)
  (h1 : j ≤ i → K (bE env d (.bool true)) h fun _ => True) (h2 : ¬(j ≤ i) → K (bE env d (.bool false)) h fun _ => True) : WS P G X n lt ops ⟨some d, .binOp .geq ty x y c, t, p, a, g⟩ env h K F := WS.uF hg hn (fun h => aGr hx hy) h1 h2
theorem WS.eqS {ty : TypeId} {x y : Operand} {c} {i j : ByteArray} (hg : cX ops env g = some true := by rfl) (hn : Nat.blt d n = true := by rfl) (hx : aL G env x = some (.string i) := by first | rfl | assumption) (hy : aL G env y = some (.string j) := by first | rfl | assumption)
  (h1 : i = j → K (bE env d (.bool true)) h fun _ => True) (h2 : ¬(i = j) → K (bE env d (.bool false)) h fun _ => True) : WS P G X n lt ops ⟨some d, .binOp .eql ty x y c, t, p, a, g⟩ env h K F := WS.uF hg hn (fun h => aHj hx hy) h1 h2
theorem WS.neS {ty : TypeId} {x y : Operand} {c} {i j : ByteArray} (hg : cX ops env g = some true := by rfl) (hn : Nat.blt d n = true := by rfl) (hx : aL G env x = some (.string i) := by first | rfl | assumption) (hy : aL G env y = some (.string j) := by first | rfl | assumption)
  (h1 : i ≠ j → K (bE env d (.bool true)) h fun _ => True) (h2 : ¬(i ≠ j) → K (bE env d (.bool false)) h fun _ => True) : WS P G X n lt ops ⟨some d, .binOp .neq ty x y c, t, p, a, g⟩ env h K F := WS.uF hg hn (fun h => aHd hx hy) h1 h2
theorem WS.neG {ty : TypeId} {x y : Operand} {c} {u w : Value} {b : Bool} (hg : cX ops env g = some true := by rfl) (hn : Nat.blt d n = true := by rfl) (hx : aL G env x = some u := by first | rfl | assumption) (hy : aL G env y = some w := by first | rfl | assumption) (hq : oK P .neq ty x y u w = true := by rfl) (hv : nO P .neq ty u w = some (.bool b) := by rfl)
  (h1 : b = true → K (bE env d (.bool true)) h fun _ => True) (h2 : b = false → K (bE env d (.bool false)) h fun _ => True) : WS P G X n lt ops ⟨some d, .binOp .neq ty x y c, t, p, a, g⟩ env h K F :=
 WS.aM0 hg hn (fun h => by simp only [dD, hx, hy, hq, if_true, hv, Option.map_some]) h1 h2

theorem WS.jQ {ty : TypeId} {x : Operand} {i off : Nat} {v : Value} {ro : Bool} {cs : List Value} (hg : cX ops env g = some true := by rfl) (hn : Nat.blt d n = true := by rfl) (hx : aL G env x = some (.pointer (some ⟨i, off, none⟩)) := by first | rfl | assumption) (ht : tH P ty = some false := by rfl)
  (ho : h.obj i = some (.cells ro cs) := by exact aA) (hc : cs[off]? = some v := by rfl) (hk : K (bE env d v) h fun H => H.obj i = some (.cells ro cs)) : WS P G X n lt ops ⟨some d, .load ty x, t, p, a, g⟩ env h K F := by
 have : ∀ H : aE, H.obj i = some (.cells ro cs) → dD P G env ⟨some d, .load ty x, t, p, a, g⟩ H = some (.val v H) := by
  intro H hH
  refine zE hx ?_
  simp only [oU, ht, aE.cell, hH, hc]
 exact WS.val _ hg hn (this h ho) (fun H hH => this H hH) hk

theorem WS.lA {ty : TypeId} {x : Operand} {i off m : Nat} {ro : Bool} {cs vs : List Value} (hg : cX ops env g = some true := by rfl) (hn : Nat.blt d n = true := by rfl) (hx : aL G env x = some (.pointer (some ⟨i, off, none⟩)) := by first | rfl | assumption) (ht : tH P ty = some true := by rfl) (hs : dJ P ty = some m := by exact fK rfl)
  (ho : h.obj i = some (.cells ro cs) := by exact aA) (hc : off + m ≤ cs.length := by first | (exact Nat.le_of_ble_eq_true rfl) | (simp; done) | omega) (hv' : dG ((cs.drop off).take m) = some vs := by rfl) (hk : K (bE env d (.agg vs.toArray)) h fun H => H.obj i = some (.cells ro cs)) : WS P G X n lt ops ⟨some d, .load ty x, t, p, a, g⟩ env h K F := by
 have hv := eM hv'
 have : ∀ H : aE, H.obj i = some (.cells ro cs) → dD P G env ⟨some d, .load ty x, t, p, a, g⟩ H = some (.val (.agg vs.toArray) H) := by
  intro H hH
  refine zE hx ?_
  simp only [oU, ht, hs, aE.cells, hH, if_pos hc, hv, Option.map_some]
 exact WS.val _ hg hn (this h ho) (fun H hH => this H hH) hk

theorem WS.store {ty : TypeId} {x y : Operand} {i off : Nat} {v : Value} {cs cs' : List Value} (hg : cX ops env g = some true := by rfl) (hx : aL G env x = some (.pointer (some ⟨i, off, none⟩)) := by first | rfl | assumption) (hy : aL G env y = some v := by first | rfl | assumption)
  (hz : dJ P ty = some v.cells.size := by rfl) (ho : h.obj i = some (.cells false cs) := by exact aA) (hf : off + v.cells.size ≤ cs.length := by first | (exact Nat.le_of_ble_eq_true rfl) | (simp; done) | omega) (h1 : v.cells.toList.all (·.oneCell') = true := by rfl) (hs' : dG (cH cs off v.cells.toList) = some cs' := by rfl)
  (hk : K env (h.put i (some (.cells false cs'))) fun _ => True) : WS P G X n false ops ⟨none, .store ty x y, t, p, a, g⟩ env h K F := by
 have hs := eM hs'
 refine WS.skip hg (aCq hx hy ?_) hk
 simp only [fV, hz, if_true, aE.store, ho]
 rw [if_pos (by simp only [Array.length_toList, h1, Bool.and_true, decide_eq_true_eq]; exact hf), hs]

theorem WS.alloc {e : TypeId} {z : Value} {cs : List Value} (hg : cX ops env g = some true := by rfl) (hn : Nat.blt d n = true := by rfl) (hz : gJ P e = some z := by rfl) (hcs' : dG z.cells.toList = some cs := by rfl)
  (hk : K (bE env d (.pointer (some ⟨h.next, 0, none⟩))) (h.alloc (.cells false cs)) fun _ => False) : WS P G X n lt ops ⟨some d, .alloc e, t, p, a, g⟩ env h K F :=
 WS.val _ hg hn (by simp only [dD, hz, Option.map_some, eM hcs']) (fun _ hf => hf.elim) hk

theorem WS.box {e : TypeId} {x : Operand} {v : Value} {cs : List Value} (hg : cX ops env g = some true := by rfl) (hn : Nat.blt d n = true := by rfl) (hx : aL G env x = some v := by first | rfl | assumption) (hcs' : dG v.cells.toList = some cs := by rfl)
  (hk : K (bE env d (.pointer (some ⟨h.next, 0, none⟩))) (h.alloc (.cells false cs)) fun _ => False) : WS P G X n lt ops ⟨some d, .box e x, t, p, a, g⟩ env h K F :=
 WS.val _ hg hn (by simp only [dD, hx, Option.map_some, eM hcs']) (fun _ hf => hf.elim) hk

theorem WS.buildSlice {ty e : TypeId} {parts} {ps} {len m : Nat} {z : Value} {cs0 cs : List Value} (hg : cX ops env g = some true := by rfl) (hn : Nat.blt d n = true := by rfl) (hp : dC G env parts.toList = some ps := by rfl) (hu : P.underlying ty = some (.slice e) := by rfl) (hm : dJ P e = some m := by exact fK rfl) (hz : gJ P e = some z := by rfl)
  (hok : (z.cells.size = m && 0 < m && len * m ≤ 16777216) = true := by rfl) (hcs0 : iZ (fun i => some (i * m, m)) (gM z len) ps = some cs0 := by rfl) (hcs' : dG cs0 = some cs := by rfl)
  (hk : K (bE env d (.slice (some ⟨h.next, 0, none⟩) len m)) (h.alloc (.cells false cs)) fun _ => False) : WS P G X n lt ops ⟨some d, .buildSlice ty len parts, t, p, a, g⟩ env h K F :=
 WS.val _ hg hn (by simp only [dD, hp, fJ, hu, hm, hz]; rw [if_pos (by simpa using hok), hcs0, eM hcs']; rfl) (fun _ hf => hf.elim) hk

theorem WS.conv {ty ty2 : TypeId} {x : Operand} {u v : Value} (S : aE → Prop) (hg : cX ops env g = some true) (hn : Nat.blt d n = true) (hx : aL G env x = some u) (hS : S h) (hv : ∀ H, S H → hZ P ty ty2 u H = some (v, H))
  (hk : K (bE env d v) h S) : WS P G X n lt ops ⟨some d, .convert ty ty2 x, t, p, a, g⟩ env h K F := by
 have : ∀ H, S H → dD P G env ⟨some d, .convert ty ty2 x, t, p, a, g⟩ H = some (.val v H) := fun H hH => by simp only [dD, hx, hv H hH, Option.map_some]
 exact WS.val S hg hn (this h hS) this hk

theorem WS.wY {op : Op} {v : Value} {h' : aE} (hg : cX ops env g = some true) (hn : Nat.blt d n = true) (ho : dD P G env ⟨some d, op, t, p, a, g⟩ h = some (.val v h'))
  (hk : K (bE env d v) h' fun _ => False) : WS P G X n lt ops ⟨some d, op, t, p, a, g⟩ env h K F := WS.val _ hg hn ho (fun _ hf => hf.elim) hk

theorem dP : bV P env h [] = some [] := rfl
theorem eB {t : Tmp} {l : List ResultVar} {v : Value} {vs : List Value} (hx : env t = some v) (hr : bV P env h l = some vs) : bV P env h (.tmp t :: l) = some (v :: vs) := by simp only [bV, hx, hr]
theorem c7 {t : Tmp} {ty : TypeId} {l : List ResultVar} {i off m : Nat} {ro : Bool} {cs ws vs : List Value} (hx : env t = some (.pointer (some ⟨i, off, none⟩))) (ht : tH P ty = some true) (hs : dJ P ty = some m) (ho : h.obj i = some (.cells ro cs)) (hc : off + m ≤ cs.length)
  (hv : dG ((cs.drop off).take m) = some ws) (hr : bV P env h l = some vs) : bV P env h (.cell t ty :: l) = some (.agg ws.toArray :: vs) := by
 simp only [bV, hx, hr, oU, ht, hs, aE.cells, ho, if_pos hc, eM hv, Option.map_some]
theorem c5 {t : Tmp} {ty : TypeId} {l : List ResultVar} {i off : Nat} {ro : Bool} {cs vs : List Value} {v : Value} (hx : env t = some (.pointer (some ⟨i, off, none⟩))) (ht : tH P ty = some false) (ho : h.obj i = some (.cells ro cs)) (hc : cs[off]? = some v)
  (hr : bV P env h l = some vs) : bV P env h (.cell t ty :: l) = some (v :: vs) := by
 simp only [bV, hx, hr, oU, ht, aE.cell, ho, hc, Option.map_some]

theorem WS.oW {f : FuncId} {args tys} {vs : List Value} (hg : cX ops env g = some true := by rfl) (hn : Nat.blt d n = true := by rfl) (ha : bM G env args.toList = some vs := by rfl) (he : ∀ vs, aO P f vs = some (.enter f vs))
  (hk : aP P G X f vs h fun r => match r with | .ret v h' => K (bE env d v) h' (fun _ => True) | .panic ch h' => F ch h') : WS P G X n false ops ⟨some d, .call ⟨.value (.func f), args, tys⟩, t, p, a, g⟩ env h K F :=
 WS.enter hg hn (by simp only [dD, iO, ha, aL, nP]; rw [show ((#[] : Array Value).toList ++ vs ++ (#[] : Array Value).toList) = vs by simp, he]) hk

theorem WS.aBv {x : Operand} {f : FuncId} {args tys} {fs cs} {vs ws : List Value} (hg : cX ops env g = some true) (hn : Nat.blt d n = true) (hx : aL G env x = some (.func (.func f) fs cs)) (ha : bM G env args.toList = some vs) (hw : fs.toList ++ vs ++ cs.toList = ws) (he : ∀ vs, aO P f vs = some (.enter f vs))
  (hk : aP P G X f ws h fun r => match r with | .ret v h' => K (bE env d v) h' (fun _ => True) | .panic ch h' => F ch h') : WS P G X n false ops ⟨some d, .call ⟨.value x, args, tys⟩, t, p, a, g⟩ env h K F :=
 WS.enter hg hn (by simp only [dD, iO, ha, hx, nP]; rw [hw, he]) hk

theorem WS.invoke {x : Operand} {name : String} {f : FuncId} {args tys} {ty : TypeId} {u r : Value} {vs : List Value} (hg : cX ops env g = some true) (hn : Nat.blt d n = true) (hx : aL G env x = some (.iface ty u)) (ha : bM G env args.toList = some vs) (hm : pP P ty u name = some (f, r)) (he : ∀ vs, aO P f vs = some (.enter f vs))
  (hk : aP P G X f (r :: vs) h fun r => match r with | .ret v h' => K (bE env d v) h' (fun _ => True) | .panic ch h' => F ch h') : WS P G X n false ops ⟨some d, .call ⟨.invoke x name, args, tys⟩, t, p, a, g⟩ env h K F :=
 WS.enter hg hn (by simp only [dD, iO, ha, hx, nP, hm, he]) hk

/- Objects of a heap. -/
theorem eQ {o : fI} : (h.alloc o).obj h.next = some o := by rw [aE.iY, if_pos rfl]
theorem cR {i : Nat} {o : fI} {x : Option fI} (hne : i ≠ h.next) (ho : h.obj i = x) : (h.alloc o).obj i = x := by rw [aE.iY, if_neg hne]; exact ho
theorem fX {i : Nat} {o : Option fI} : (h.put i o).obj i = o := by rw [aE.nH, if_pos rfl]
theorem bF {i j : Nat} {o x : Option fI} (hne : i ≠ j) (ho : h.obj i = x) : (h.put j o).obj i = x := by rw [aE.nH, if_neg hne]; exact ho

def l9 (h : aE) (b : Option Addr) (n es size : Nat) (old : List Value) : Prop :=
 (b = none ∧ n = 0 ∧ es = 0 ∧ old = []) ∨ ∃ i off cells, b = some ⟨i, off, none⟩ ∧ es = size ∧ h.obj i = some (.cells false cells) ∧ off + n * size ≤ cells.length ∧ (cells.drop off).take (n * size) = old

theorem nI {ty ty' e : TypeId} {u : TypeDesc} {b : Option Addr} {len es j off m size bytes : Nat} {ro : Bool} {cs old new : List Value} (hu : P.underlying ty = some (.slice e)) (hu' : P.underlying ty' = some u) (hi : ∀ k, u ≠ .int k) (he : eV P e = some (size, bytes))
  (hm : 0 < m) (ho : h.obj j = some (.cells ro cs)) (hl : off + m * size ≤ cs.length) (hnew : (cs.drop off).take (m * size) = new) (hr : (len + m) * bytes ≤ room) (h1 : new.all (·.oneCell') = true) (hs : l9 h b len es size old) :
  ∃ h', kZ P #[ty, ty'] [.slice b len es, .slice (some ⟨j, off, none⟩) m size] h = some (.slice (some ⟨h.next, 0, none⟩) (len + m) size, h') ∧ h'.next = h.next + 1 ∧ h'.obj h.next = some (.cells false (old ++ new)) ∧
   ∀ i, i < h.next → (∀ off, b ≠ some ⟨i, off, none⟩) → h'.obj i = h.obj i := by
 have ha : jS size h (.slice (some ⟨j, off, none⟩) m size) = some (m, new) := by
  simp only [jS]
  rw [if_neg (by omega)]
  simp only [if_true, aE.cells, ho, if_pos hl, hnew, Option.map_some]
 rcases hs with ⟨rfl, rfl, rfl, rfl⟩ | ⟨i, off', cells, rfl, rfl, hob, hle, hold⟩
 ·refine ⟨h.alloc (.cells false new), ?_, rfl, by rw [eQ]; rfl, fun i hlt _ => cR (by omega) rfl⟩
  simp only [kZ, List.getElem?_toArray, List.getElem?_cons_zero, List.getElem?_cons_succ, hu, hu', he, ha]
  cases u <;> first | exact (hi _ rfl).elim | (rw [if_neg (by omega), if_pos (by simpa using hr)]; simp)
 ·refine ⟨(h.put i none).alloc (.cells false (old ++ new)), ?_, rfl, ?_, fun k hlt hne => ?_⟩
  ·simp only [kZ, List.getElem?_toArray, List.getElem?_cons_zero, List.getElem?_cons_succ, hu, hu', he, ha]
   cases u <;> first | exact (hi _ rfl).elim | (rw [if_neg (by omega)]; simp only [decide_true, hr, h1, Bool.and_self, if_true, hob, aE.cells, if_pos hle, hold, Option.map_some])
  ·exact eQ (h := h.put i none)
  ·refine cR (h := h.put i none) (by simp only [aE.mQ]; omega) (bF (fun e => ?_) rfl)
   subst e
   exact hne off' rfl

theorem WS.append {ty ty' e : TypeId} {u : TypeDesc} {x y : Operand} {b : Option Addr} {len es j off m size bytes : Nat} {ro : Bool} {cs old new : List Value} (hg : cX ops env g = some true) (hn : Nat.blt d n = true) (hx : aL G env x = some (.slice b len es)) (hy : aL G env y = some (.slice (some ⟨j, off, none⟩) m size))
  (hu : P.underlying ty = some (.slice e)) (hu' : P.underlying ty' = some u) (hi : ∀ k, u ≠ .int k) (he : eV P e = some (size, bytes))
  (hm : 0 < m) (ho : h.obj j = some (.cells ro cs)) (hl : off + m * size ≤ cs.length) (hnew' : dG ((cs.drop off).take (m * size)) = some new) (hr : (len + m) * bytes ≤ room) (h1 : new.all (·.oneCell') = true) (hs : l9 h b len es size old)
  (hk : ∀ h', h'.next = h.next + 1 → h'.obj h.next = some (.cells false (old ++ new)) → (∀ i, i < h.next → (∀ off, b ≠ some ⟨i, off, none⟩) → h'.obj i = h.obj i) → K (bE env d (.slice (some ⟨h.next, 0, none⟩) (len + m) size)) h' fun _ => False) :
  WS P G X n lt ops ⟨some d, .call ⟨.builtin .append, #[x, y], #[ty, ty']⟩, t, p, a, g⟩ env h K F := by
 obtain ⟨h', h1', h2, h3, h4⟩ := nI hu hu' hi he hm ho hl (eM hnew') hr h1 hs
 refine WS.wY hg hn (v := .slice (some ⟨h.next, 0, none⟩) (len + m) size) (h' := h') ?_ (hk h' h2 h3 h4)
 simp only [dD, iO, bM, hx, hy, h1', Option.map_some]

attribute [irreducible] aT gR

end
end Go.Am
end

section
namespace Go.Am

theorem sO : ∀ (v p q : List Value), v.length ≤ q.length → cH (p ++ q) p.length v = p ++ v ++ q.drop v.length
 | [], p, q, _ => by simp [cH]
 | a :: v, p, q, h => by
  cases q with
  | nil => simp at h
  | cons b q =>
   have e : (p ++ b :: q).set p.length a = (p ++ [a]) ++ q := by
    rw [List.set_append_right _ _ (Nat.le_refl _), Nat.sub_self]; simp
   have ih := sO v (p ++ [a]) q (by simp at h; omega)
   rw [List.length_append, List.length_singleton] at ih
   show cH ((p ++ b :: q).set p.length a) (p.length + 1) v = _
   rw [e, ih]; simp

def jY : Nat → List (Nat × Value) → Option (List (Array Value))
 | _, [] => some []
 | k, (i, .agg a) :: r => if i = k then (match jY (k + 1) r with
   | some l => some (a :: l)
   | none => none) else none
 | _, _ => none

theorem tY {m : Nat} : ∀ (ps : List (Nat × Value)) (k : Nat) (vs : List (Array Value)) (p q : List Value), jY k ps = some vs → p.length = k * m → (∀ a ∈ vs, a.size = m) → q.length = vs.length * m →
  iZ (fun i => some (i * m, m)) (p ++ q) ps = some (p ++ (vs.map (·.toList)).flatten)
 | [], k, vs, p, q, h, hp, hv, hq => by
  cases h
  have : q = [] := List.eq_nil_of_length_eq_zero (by simpa using hq)
  subst this; simp [iZ]
 | (i, v) :: r, k, vs, p, q, h, hp, hv, hq => by
  cases v with
  | agg a =>
   unfold jY at h
   split at h
   ·rename_i hi
    split at h
    ·rename_i l hl
     cases h
     subst hi
     have ha := hv a (List.mem_cons_self ..)
     have hal : a.toList.length = m := by simpa using ha
     simp only [List.length_cons, Nat.succ_mul] at hq
     have ih := tY (m := m) r (i + 1) l (p ++ a.toList) (q.drop m) hl (by rw [List.length_append, hp, hal, Nat.succ_mul]) (fun b hb => hv b (List.mem_cons_of_mem _ hb)) (by rw [List.length_drop]; omega)
     have hsm := sO a.toList p q (by omega)
     rw [hp, hal] at hsm
     unfold iZ
     simp only
     rw [if_neg (by simp [Value.cells, ha, hp]; omega)]
     show iZ _ (cH (p ++ q) (i * m) a.toList) r = _
     rw [hsm, ih]
     simp
    ·cases h
   ·cases h
  | _ => simp [jY] at h

theorem vB (z : Value) {m : Nat} (hz : z.cells.size = m) : ∀ n, (gM z n).length = n * m
 | 0 => by simp [gM]
 | n + 1 => by
  have hl : z.cells.toList.length = m := by simpa using hz
  simp only [gM, List.length_append, hl, vB z hz n, Nat.succ_mul]; omega

section
variable {P : Program} {G : Nat} {X : fE} {n : Nat} {F : List PanicEntry → aE → Prop} {env : Env} {h : aE} {lt : Bool} {ops : Array Oper} {d : Nat} {t : TypeId} {p : String} {a : Array Edge} {g : Option (Nat × Bool)} {K : Env → aE → (aE → Prop) → Prop}

theorem WS.w5 {ty e : TypeId} {parts} {ps : List (Nat × Value)} {vs : List (Array Value)} {len m : Nat} {z : Value} {cs : List Value} (hg : cX ops env g = some true := by rfl) (hn : Nat.blt d n = true := by rfl) (hp : dC G env parts.toList = some ps := by rfl) (hu : P.underlying ty = some (.slice e) := by rfl) (hm : dJ P e = some m := by exact fK rfl) (hz : gJ P e = some z := by rfl)
  (hok : (z.cells.size = m && 0 < m && len * m ≤ 16777216) = true := by rfl) (hv : jY 0 ps = some vs := by rfl) (hl : vs.length = len := by rfl) (hs : vs.all (fun a => a.size == m) = true := by rfl) (hcs' : dG (vs.map (·.toList)).flatten = some cs := by rfl)
  (hk : K (bE env d (.slice (some ⟨h.next, 0, none⟩) len m)) (h.alloc (.cells false cs)) fun _ => False) : WS P G X n lt ops ⟨some d, .buildSlice ty len parts, t, p, a, g⟩ env h K F := by
 have hzs : z.cells.size = m := by simp only [Bool.and_eq_true, decide_eq_true_eq] at hok; exact hok.1.1
 have hf := tY (m := m) ps 0 vs [] (gM z len) hv (by simp) (fun a ha => by simpa using List.all_eq_true.1 hs a ha) (by rw [vB z hzs, hl])
 rw [List.nil_append, List.nil_append, eM hcs'] at hf
 exact WS.val _ hg hn (by simp only [dD, hp, fJ, hu, hm, hz]; rw [if_pos (by simpa using hok), hf]; rfl) (fun _ hf => hf.elim) hk
end
end Go.Am
end

section
namespace Go.Am
open Go.RowKit (Below)

theorem aP.calls {P : Program} {G B : Nat} {w0 : World} {X : fE} {ρ : dB} {h : aE} {w : World} {f : FuncId} {args : List Value} {args' : Array Value} {Q : bW → Prop}
  (E : aFp P G B w0 X) (hm : P.follows .mixedOrders = true) (R : Rel G B w0 ρ h w) (hargs : bU ρ args args'.toList) (hw : aP P G X f args h Q) :
  Calls P f args' w fun e w' => ∃ r, Q r ∧ qQ G B w0 ρ h r e w' := by
 obtain ⟨k, r, hr, hq⟩ := aP.out hw
 exact (sV E hm k f args h r hr ρ w args' R hargs).mono fun e w' he => ⟨r, hq, he⟩

theorem Rel.start (w : World) : Rel 0 w.heap.size w (fun _ => none) ⟨0, fun _ => none⟩ w where
 below := Below.refl _ _
 base := Nat.le_refl _
 sA := fun _ _ _ _ h => by cases h
 tG := fun _ h => by omega
 live := fun _ _ _ _ _ h => by cases h
 inj := fun _ _ _ _ _ _ _ _ _ _ _ h => by cases h

end Go.Am
end

section
namespace Go.Am
open Go.RowKit (Below)
set_option linter.unusedVariables false
set_option linter.unusedSimpArgs false

def rN : List (Nat × Array Oper) → Code
 | [] => .ret
 | (id, ops) :: l => .seq (.region id ops false) (rN l)

def gK (P : Program) (G : Nat) (C : bS) (n : Nat) : List (Nat × Array Oper) → Env → aE → Option jW
 | [], env, h => some (.ok env h)
 | (_, ops) :: l, env, h => match dW P G C n ops (List.range ops.size) env h with
  | some (.ok e h') => gK P G C n l e h'
  | r => r

def r8 (t : Tmp) (ops : Array Oper) : Bool := ops.toList.all fun o => o.dst != some t

section
variable {G B : Nat} {w0 : World} {P : Program} {n : Nat}

theorem pK {dst : Option Tmp} {v : Value} {env env' : Env} {t : Tmp} (hp : gA n dst v env = some env') (ht : dst ≠ some t) : env' t = env t := by
 unfold gA at hp
 split at hp
 ·cases hp; rfl
 ·rename_i d
  split at hp
  ·cases hp
   simp only
   rw [if_neg (fun e => ht (by rw [e]))]
  ·cases hp

theorem aA3 {C : bS} {ops : Array Oper} {o : Oper} {env env' : Env} {h h' : aE} {t : Tmp} (hs : jA P G C n ops o env h = some (.ok env' h')) (ht : o.dst ≠ some t) : env' t = env t := by
 unfold jA at hs
 split at hs
 ·cases hs
 ·obtain ⟨e, he, h1⟩ := Option.map_eq_some_iff.1 hs
  cases h1; exact pK he ht
 ·split at hs
  ·cases hs
  ·obtain ⟨e, he, h1⟩ := Option.map_eq_some_iff.1 hs
   cases h1; exact pK he ht
  ·obtain ⟨e, he, h1⟩ := Option.map_eq_some_iff.1 hs
   cases h1; exact pK he ht
  ·split at hs
   ·cases hs
   ·obtain ⟨e, he, h1⟩ := Option.map_eq_some_iff.1 hs
    cases h1; exact pK he ht
   ·cases hs
  ·cases hs

theorem aC1 {t : Tmp} {ops : Array Oper} (hk : r8 t ops = true) {i : Nat} {o : Oper} (hi : ops[i]? = some o) : o.dst ≠ some t := by
 have := List.all_eq_true.1 hk o (by rw [Array.getElem?_eq_some_iff] at hi; obtain ⟨hlt, rfl⟩ := hi; simp)
 simpa using this

theorem gP {C : bS} (SC : jK P G B w0 C) {ops : Array Oper} {Q : Exit → Act → World → Prop} : ∀ (l : List Nat) {ρ : dB} {h : aE} {w : World} {env : Env} {a : Act} {r : jW},
  Rel G B w0 ρ h w → bR ρ n env a → dW P G C n ops l env h = some r →
  (∀ env' h', r = .ok env' h' → ∀ ρ' a' w', Ext ρ h ρ' h' → Rel G B w0 ρ' h' w' → bR ρ' n env' a' → a'.defers = a.defers → (∀ t, r8 t ops = true → env' t = env t) → Q .normal a' w') →
  (∀ ch h', r = .panic ch h' → ∀ ρ' ch' a' w' env', Ext ρ h ρ' h' → Rel G B w0 ρ' h' w' → lI ρ' ch ch' → a'.defers = a.defers → bR ρ' n env' a' → (∀ t, r8 t ops = true → env' t = env t) → Q (.panic ch') a' w') →
  wpOps P ops Q l a w
 | [], ρ, h, w, env, a, r, R, F, he, hok, _ => by
  simp only [dW] at he
  cases he
  exact hok env h rfl ρ a w (Ext.refl _ _) R F rfl fun _ _ => rfl
 | i :: rest, ρ, h, w, env, a, r, R, F, he, hok, hpanic => by
  rw [wpOps_cons]
  unfold dW at he
  split at he
  ·rename_i hi
   simp only [wpOp, hi]
   exact gP SC rest R F he hok hpanic
  ·rename_i o hi
   split at he
   ·rename_i env' h' hs
    refine iX SC R F hi hs ?_ (fun ch h'' e => by cases e)
    intro env2 h2 e2 ρ' v' w' hext hR hF
    cases e2
    have hkk : ∀ t, r8 t ops = true → env' t = env t := fun t ht => aA3 hs (aC1 ht hi)
    refine gP SC rest hR hF he ?_ ?_
    ·intro env3 h3 e3 ρ3 a3 w3 hext3 hR3 hF3 hd3 hk3
     exact hok env3 h3 e3 ρ3 a3 w3 (hext.trans hext3) hR3 hF3 (by rw [hd3, put_defers]) fun t ht => (hk3 t ht).trans (hkk t ht)
    ·intro ch h3 e3 ρ3 ch3 a3 w3 env3 hext3 hR3 hc3 hd3 hF3 hk3
     exact hpanic ch h3 e3 ρ3 ch3 a3 w3 env3 (hext.trans hext3) hR3 hc3 (by rw [hd3, put_defers]) hF3 fun t ht => (hk3 t ht).trans (hkk t ht)
   ·rename_i hno
    refine iX SC R F hi he (fun env' h' e => ?_) fun ch h' e ρ' ch' w' hext hR hc => hpanic ch h' e ρ' ch' a w' env hext hR hc rfl (F.mono (hext.le R)) fun _ _ => rfl
    subst e
    exact (hno _ _ he).elim

theorem lM {C : bS} (SC : jK P G B w0 C) {Q : Exit → Act → World → Prop} : ∀ (l : List (Nat × Array Oper)) {ρ : dB} {h : aE} {w : World} {env : Env} {a : Act} {r : jW},
  Rel G B w0 ρ h w → bR ρ n env a → gK P G C n l env h = some r →
  (∀ env' h', r = .ok env' h' → ∀ ρ' a' w', Ext ρ h ρ' h' → Rel G B w0 ρ' h' w' → bR ρ' n env' a' → a'.defers = a.defers → Q .ret a' w') →
  (∀ ch h', r = .panic ch h' → ∀ ρ' ch' a' w' env', Ext ρ h ρ' h' → Rel G B w0 ρ' h' w' → lI ρ' ch ch' → a'.defers = a.defers → bR ρ' n env' a' → (∀ t, (∀ x ∈ l, r8 t x.2 = true) → env' t = env t) → Q (.panic ch') a' w') →
  (rN l).wp P Q a w
 | [], ρ, h, w, env, a, r, R, F, he, hok, _ => by
  simp only [gK] at he
  cases he
  exact wp_ret (hok env h rfl ρ a w (Ext.refl _ _) R F rfl)
 | (id, ops) :: rest, ρ, h, w, env, a, r, R, F, he, hok, hpanic => by
  unfold gK at he
  refine wp_seq ?_
  split at he
  ·rename_i e h' hs
   refine wp_region (gP SC _ R F hs ?_ (fun ch h'' e => by cases e))
   intro env2 h2 e2 ρ2 a2 w2 hext hR hF hd hk
   cases e2
   refine lM SC rest hR hF he ?_ ?_
   ·intro env3 h3 e3 ρ3 a3 w3 hext3 hR3 hF3 hd3
    exact hok env3 h3 e3 ρ3 a3 w3 (hext.trans hext3) hR3 hF3 (hd3.trans hd)
   ·intro ch h3 e3 ρ3 ch3 a3 w3 env3 hext3 hR3 hc3 hd3 hF3 hk3
    exact hpanic ch h3 e3 ρ3 ch3 a3 w3 env3 (hext.trans hext3) hR3 hc3 (hd3.trans hd) hF3 fun t ht => (hk3 t fun x hx => ht x (List.mem_cons_of_mem _ hx)).trans (hk t (ht _ (List.mem_cons_self ..)))
  ·rename_i hno
   refine wp_region (gP SC _ R F he (fun env' h' e => by subst e; exact (hno _ _ he).elim) ?_)
   intro ch h3 e3 ρ3 ch3 a3 w3 env3 hext3 hR3 hc3 hd3 hF3 hk3
   exact hpanic ch h3 e3 ρ3 ch3 a3 w3 env3 hext3 hR3 hc3 hd3 hF3 fun t ht => hk3 t (ht _ (List.mem_cons_self ..))

def tU : ResultVar → Tmp
 | .tmp t => t
 | .cell t _ => t

theorem mD {env env' : Env} {h : aE} : ∀ (l : List ResultVar), (∀ r ∈ l, env' (tU r) = env (tU r)) → bV P env' h l = bV P env h l
 | [], _ => rfl
 | .tmp t :: l, hk => by
  have h1 := hk (.tmp t) (List.mem_cons_self ..)
  simp only [tU] at h1
  simp only [bV, h1, mD l fun r hr => hk r (List.mem_cons_of_mem _ hr)]
 | .cell t ty :: l, hk => by
  have h1 := hk (.cell t ty) (List.mem_cons_self ..)
  simp only [tU] at h1
  simp only [bV, h1, mD l fun r hr => hk r (List.mem_cons_of_mem _ hr)]

abbrev rH := bS → Value → Value → List PanicEntry → aE → Option aE

noncomputable def lG (P : Program) (G n : Nat) (results : List ResultVar) (ops : Array Oper) (t1 t2 d : Tmp) (g : FuncId) (regs : List (Nat × Array Oper)) (catchO : rH) : bS → List Value → aE → Option bW := fun C args h =>
 if args.length ≤ n then match dW P G C n ops (List.range ops.size) (jD args) h with
  | some (.ok e1 h1) => match e1 t1, e1 t2 with
   | some v1, some v2 => match gK P G C n regs (bE e1 d (.func (.func g) #[] #[v1, v2])) h1 with
    | some (.ok e3 h3) => (bV P e3 h3 results).map fun vs => .ret (answer vs) h3
    | some (.panic ch h3) => match catchO C v1 v2 ch h3 with
     | some h4 => (bV P (bE e1 d (.func (.func g) #[] #[v1, v2])) h4 results).map fun vs => .ret (answer vs) h4
     | none => none
    | none => none
   | _, _ => none
  | _ => none
 else none

theorem y8 {ρ : dB} {args : List Value} {args' : Array Value} (hargs : bU ρ args args'.toList) (hle : args.length ≤ n) : bR ρ n (jD args) { tmps := args' ++ Array.replicate (n - args'.size) undef, defers := [] } := by
 have hsz : args'.size = args.length := by have := hargs.1; simp at this; omega
 refine ⟨by simp; omega, fun t v ht => ?_, fun t v ht => ?_⟩
 ·have : t < args.length := by
   rcases Nat.lt_or_ge t args.length with h | h
   ·exact h
   ·simp only [jD] at ht; rw [List.getElem?_eq_none h] at ht; cases ht
  omega
 ·obtain ⟨v', h1, h2⟩ := hargs.get ht
  have hlt : t < args'.size := by
   rcases Nat.lt_or_ge t args'.size with h | h
   ·exact h
   ·rw [List.getElem?_eq_none (by simpa using h)] at h1; cases h1
  simp only
  rw [Array.getD_eq_getD_getElem?, Array.getElem?_append_left hlt]
  have : args'[t]? = some v' := by simpa using h1
  rw [this]
  exact h2

theorem yC {f : FuncId} {fn : Func} {ops : Array Oper} {i0 : Nat} {t1 t2 d : Tmp} {g : FuncId} {regs : List (Nat × Array Oper)} {catchO : rH} {cd : Code}
  (hf : P.funcs[f]? = some fn) (hb : fn.body = some (.seq (.region i0 ops false) (.seq cd (rN regs)))) (hd : d < fn.ntmps)
  (hcd : ∀ (a : Act) (w : World) (Q : Exit → Act → World → Prop), a.tmps.size = fn.ntmps → Q .normal { a.put (some d) (.func (.func g) #[] #[a.tmps.getD t1 undef, a.tmps.getD t2 undef]) with defers := { target := .fn (.func g) #[a.tmps.getD t1 undef, a.tmps.getD t2 undef], args := #[] } :: a.defers } w → cd.wp P Q a w)
  (hin : ∀ (v1 v2 : Value) (w : World), (invoke (.fn (.func g) #[v1, v2]) #[]).run P w = .ok (.enter g #[v1, v2]) w)
  (hkeep : ∀ r ∈ fn.results.toList, ∀ x ∈ regs, r8 (tU r) x.2 = true)
  (hidle : ∀ (v1 v2 : Value) (w : World), CallsD P g #[v1, v2] .returning w fun e u' w' => (∃ v, e = .returned v) ∧ u' = .returning ∧ Below w.heap.size w w')
  {C : bS} (hcatch : ∀ v1 v2 ch h h4, catchO C v1 v2 ch h = some h4 → ∀ ρ w v1' v2' ch', Rel G B w0 ρ h w → aV ρ v1 v1' → aV ρ v2 v2' → lI ρ ch ch' →
   CallsD P g #[v1', v2'] (.panicking ch') w fun e u' w' => (∃ v, e = .returned v) ∧ settle u' = .returning ∧ ∃ ρ', Ext ρ h ρ' h4 ∧ Rel G B w0 ρ' h4 w')
  (SC : jK P G B w0 C) {args : List Value} {h : aE} {r : bW} (hr : lG P G fn.ntmps fn.results.toList ops t1 t2 d g regs catchO C args h = some r)
  {ρ : dB} {w : World} {args' : Array Value} (R : Rel G B w0 ρ h w) (hargs : bU ρ args args'.toList) : Calls P f args' w (qQ G B w0 ρ h r) := by
 unfold lG at hr
 split at hr
 case isFalse => cases hr
 rename_i hle
 refine calls_of_wp_defers hf hb ?_
 have F := y8 (n := fn.ntmps) hargs hle
 split at hr
 case h_2 => cases hr
 rename_i e1 h1 hops
 refine wp_seq (wp_region (gP SC _ R F hops ?_ fun ch h'' e => by cases e))
 intro env2 h2 e2 ρ1 a1 w1 hext1 R1 F1 hd1 _
 cases e2
 split at hr
 case h_2 => cases hr
 rename_i v1 v2 ht1 ht2
 have hv1 := F1.rel t1 v1 ht1
 have hv2 := F1.rel t2 v2 ht2
 refine wp_seq (hcd a1 w1 _ F1.size ?_)
 generalize ha1 : a1.tmps.getD t1 undef = v1' at *
 generalize ha2 : a1.tmps.getD t2 undef = v2' at *
 have F2 : bR ρ1 fn.ntmps (bE e1 d (.func (.func g) #[] #[v1, v2])) { a1.put (some d) (.func (.func g) #[] #[v1', v2']) with defers := { target := .fn (.func g) #[v1', v2'], args := #[] } :: a1.defers } := by
  have := F1.put (dst := some d) (v := .func (.func g) #[] #[v1, v2]) (v' := .func (.func g) #[] #[v1', v2']) (env' := bE e1 d (.func (.func g) #[] #[v1, v2])) (if_pos hd) (aV.nC.2 ⟨bU.nil _, .cons hv1 (.cons hv2 (bU.nil _))⟩)
  exact ⟨this.size, this.lt, this.rel⟩
 have hdf : a1.defers = [] := hd1
 split at hr
 case h_3 => cases hr
 ·rename_i e3 h3 hregs
  obtain ⟨vs, hvs, rfl⟩ := Option.map_eq_some_iff.1 hr
  refine lM SC _ R1 F2 hregs ?_ fun ch h'' e => by cases e
  intro env3 h3' e3' ρ3 a3 w3 hext3 R3 F3 hd3
  cases e3'
  simp only [hdf] at hd3
  show Leaves P fn a3.tmps _ a3.defers .returning w3
  rw [hd3]
  refine leaves_cons (by simp) (hin v1' v2' w3) ((hidle v1' v2' w3).mono ?_)
  rintro e u' w' ⟨⟨v, rfl⟩, rfl, hbel⟩
  have R4 := R3.grow hbel
  obtain ⟨v', h5, h6⟩ := kE (fn := fn) R4 F3.rel hvs
  exact ⟨v', h5, ρ3, hext1.trans hext3, R4, h6⟩
 ·rename_i ch h3 hregs
  split at hr
  case h_2 => cases hr
  rename_i h4 hc
  obtain ⟨vs, hvs, rfl⟩ := Option.map_eq_some_iff.1 hr
  refine lM SC _ R1 F2 hregs (fun env' h' e => by cases e) ?_
  intro ch3 h3' e3' ρ3 ch' a3 w3 env3 hext3 R3 hch hd3 F3 hk3
  cases e3'
  simp only [hdf] at hd3
  show Leaves P fn a3.tmps _ a3.defers (.panicking ch') w3
  rw [hd3]
  refine leaves_cons (by simp) (hin v1' v2' w3) ((hcatch v1 v2 ch h3 h4 hc ρ3 w3 v1' v2' ch' R3 (hv1.mono (hext3.le R1)) (hv2.mono (hext3.le R1)) hch).mono ?_)
  rintro e u' w' ⟨⟨v, rfl⟩, hs, ρ4, hext4, R4⟩
  simp only [hs]
  have F4 := F3.mono (hext4.le R3)
  rw [← mD _ (fun r hr => hk3 _ (hkeep r hr))] at hvs
  obtain ⟨v', h5, h6⟩ := kE (fn := fn) R4 F4.rel hvs
  exact ⟨v', h5, ρ4, (hext1.trans hext3).trans hext4, R4, h6⟩

theorem iP {C C' : bS} (hl : bS.le C C') : ∀ (l : List (Nat × Array Oper)) {env : Env} {h : aE} {r : jW}, gK P G C n l env h = some r → gK P G C' n l env h = some r
 | [], _, _, _, he => he
 | (id, ops) :: l, env, h, r, he => by
  unfold gK at he ⊢
  split at he
  ·rename_i e h' hs
   rw [eG hl _ hs]
   exact iP hl l he
  ·rename_i hno
   cases hq : dW P G C n ops (List.range ops.size) env h with
   | none => rw [hq] at he; cases he
   | some q =>
    rw [hq] at he
    rw [eG hl _ hq]
    cases q with
    | ok e h' => exact (hno _ _ hq).elim
    | panic ch h' => exact he

theorem aDh {results : List ResultVar} {ops : Array Oper} {t1 t2 d : Tmp} {g : FuncId} {regs : List (Nat × Array Oper)} {catchO : rH} {C C' : bS} (hl : bS.le C C') (hm : ∀ v1 v2 ch h h4, catchO C v1 v2 ch h = some h4 → catchO C' v1 v2 ch h = some h4) {args : List Value} {h : aE} {r : bW}
  (hr : lG P G n results ops t1 t2 d g regs catchO C args h = some r) : lG P G n results ops t1 t2 d g regs catchO C' args h = some r := by
 unfold lG at hr ⊢
 split at hr
 case isFalse => cases hr
 rename_i hle
 rw [if_pos hle]
 split at hr
 case h_2 => cases hr
 rename_i e1 h1 hops
 rw [eG hl _ hops]
 simp only
 split at hr
 case h_2 => cases hr
 rename_i v1 v2 ht1 ht2
 split at hr
 case h_3 => cases hr
 ·rename_i e3 h3 hregs
  rw [iP hl _ hregs]; exact hr
 ·rename_i ch h3 hregs
  rw [iP hl _ hregs]
  simp only
  split at hr
  case h_2 => cases hr
  rename_i h4 hc
  rw [hm _ _ _ _ _ hc]; exact hr

end

section
variable (P : Program) (G : Nat) (X : fE) (n : Nat)
def wO : List (Nat × Array Oper) → Env → aE → (Env → aE → Prop) → (List PanicEntry → aE → Prop) → Prop
 | [], e, h, N, _ => N e h
 | (_, ops) :: l, e, h, N, F => WR P G X n ops ops.toList e h (fun e' h' => wO l e' h' N F) F
end

section
variable {P : Program} {G : Nat} {X : fE} {n : Nat}

theorem WR.out (hX : bZ X) {ops : Array Oper} {env : Env} {h : aE} {N : Env → aE → Prop} {F : List PanicEntry → aE → Prop} (hw : WR P G X n ops ops.toList env h N F) :
  ∃ k r, dW P G (cJ P G X k) n ops (List.range ops.size) env h = some r ∧ match r with | .ok e h => N e h | .panic ch h => F ch h := by
 unfold WR at hw
 obtain ⟨k, r, h1, h2⟩ := qT.out hX _ _ (o5 ops) hw
 exact ⟨k, r, h1, by cases r <;> exact h2⟩

theorem wO.out (hX : bZ X) : ∀ (l : List (Nat × Array Oper)) {env : Env} {h : aE} {N : Env → aE → Prop} {F : List PanicEntry → aE → Prop}, wO P G X n l env h N F →
  ∃ k r, gK P G (cJ P G X k) n l env h = some r ∧ match r with | .ok e h => N e h | .panic ch h => F ch h
 | [], env, h, N, F, hw => ⟨0, _, rfl, hw⟩
 | (id, ops) :: l, env, h, N, F, hw => by
  obtain ⟨k1, r1, h1, hq1⟩ := WR.out hX hw
  cases r1 with
  | ok e h' =>
   obtain ⟨k2, r2, h2, hq2⟩ := wO.out hX l hq1
   refine ⟨max k1 k2, r2, ?_, hq2⟩
   unfold gK
   rw [eG (cV hX (Nat.le_max_left k1 k2)) _ h1]
   exact iP (cV hX (Nat.le_max_right k1 k2)) l h2
  | panic ch h' =>
   refine ⟨k1, .panic ch h', ?_, hq1⟩
   unfold gK
   rw [h1]

theorem aP.defer (hX : bZ X) {f : FuncId} {results : List ResultVar} {ops : Array Oper} {t1 t2 d : Tmp} {g : FuncId} {regs : List (Nat × Array Oper)} {catchO : rH} {args : List Value} {h : aE} {Q : bW → Prop}
  (hx : X f = some (lG P G n results ops t1 t2 d g regs catchO)) (hm : ∀ C C', bS.le C C' → ∀ v1 v2 ch h h4, catchO C v1 v2 ch h = some h4 → catchO C' v1 v2 ch h = some h4) (hl : args.length ≤ n)
  (hw : WR P G X n ops ops.toList (jD args) h (fun e1 h1 => ∃ v1 v2, e1 t1 = some v1 ∧ e1 t2 = some v2 ∧ wO P G X n regs (bE e1 d (.func (.func g) #[] #[v1, v2])) h1 (fun e3 h3 => ∃ vs, bV P e3 h3 results = some vs ∧ Q (.ret (answer vs) h3))
   (fun ch h3 => ∃ k h4 vs, catchO (cJ P G X k) v1 v2 ch h3 = some h4 ∧ bV P (bE e1 d (.func (.func g) #[] #[v1, v2])) h4 results = some vs ∧ Q (.ret (answer vs) h4))) (fun _ _ => False)) : aP P G X f args h Q := by
 obtain ⟨k1, r1, h1, hq1⟩ := WR.out hX hw
 cases r1 with
 | panic ch h' => exact hq1.elim
 | ok e1 h1' =>
  obtain ⟨v1, v2, ht1, ht2, hw2⟩ := hq1
  obtain ⟨k2, r2, h2, hq2⟩ := wO.out hX _ hw2
  have h1' := eG (cV hX (Nat.le_max_left k1 k2)) _ h1
  have h2' := iP (cV hX (Nat.le_max_right k1 k2)) _ h2
  refine aP.intro ?_
  have key : ∀ r, lG P G n results ops t1 t2 d g regs catchO (cJ P G X (max k1 k2)) args h = some r → cJ P G X (max k1 k2 + 1) f args h = some r := by
   intro r hr
   simp only [cJ, hx]; exact hr
  cases r2 with
  | ok e3 h3 =>
   obtain ⟨vs, hvs, hq⟩ := hq2
   refine ⟨max k1 k2 + 1, _, key _ ?_, hq⟩
   unfold lG
   rw [if_pos hl]
   simp only [h1', ht1, ht2, h2', hvs, Option.map_some]
  | panic ch h3 =>
   obtain ⟨k3, h4, vs, hc, hvs, hq⟩ := hq2
   have h1' := eG (cV hX (Nat.le_trans (Nat.le_max_left k1 k2) (Nat.le_max_left _ k3))) _ h1
   have h2' := iP (cV hX (Nat.le_trans (Nat.le_max_right k1 k2) (Nat.le_max_left _ k3))) _ h2
   have hc' := hm _ _ (cV hX (Nat.le_max_right (max k1 k2) k3)) _ _ _ _ _ hc
   refine ⟨max (max k1 k2) k3 + 1, .ret (answer vs) h4, ?_, hq⟩
   have hr : lG P G n results ops t1 t2 d g regs catchO (cJ P G X (max (max k1 k2) k3)) args h = some (.ret (answer vs) h4) := by
    unfold lG
    rw [if_pos hl]
    simp only [h1', ht1, ht2, h2', hc', hvs, Option.map_some]
   simp only [cJ, hx]; exact hr

theorem WC.aI7 {id : Nat} {ops : Array Oper} {dr : Bool} {env : Env} {h : aE} {N : Env → aE → Prop} (hw : WC P G X n (.region id ops dr) env h N (fun _ _ _ => False) (fun _ _ => False) (fun _ _ => False)) :
  ∃ k e h', kY P G (cJ P G X k) n ops dr env h = some (.ok e h') ∧ N e h' := by
 unfold WC at hw
 obtain ⟨k, x, e, h', he, hq⟩ := hw
 cases k with
 | zero => simp [exec] at he
 | succ k =>
  unfold exec at he
  simp only at he
  split at he
  ·rename_i e2 h2 hr
   cases he
   exact ⟨k + 1, _, _, hr, hq⟩
  ·cases he; exact hq.elim
  ·cases he

end
end Go.Am
end

section
namespace Go.Am
open Go.RowKit (Below)

def ASl (h : aE) (b : Option Addr) (n es : Nat) (vs : List Value) : Prop :=
 (b = none ∧ n = 0 ∧ es = 0 ∧ vs = []) ∨ ∃ i, b = some ⟨i, 0, none⟩ ∧ i < h.next ∧ es = 1 ∧ n = vs.length ∧ h.obj i = some (.cells true vs)

theorem ASl.len {h : aE} {b : Option Addr} {n es : Nat} {vs : List Value} (ha : ASl h b n es vs) : n = vs.length := by
 rcases ha with ⟨_, rfl, _, rfl⟩ | ⟨i, _, _, _, rfl, _⟩ <;> rfl

end Go.Am
end

section
namespace Go.Am
open Go.RowKit Go.ChangeShapes

section
variable {H : Type} {enc : TypeId × Value → H} {P : Program}

theorem p4 (hlo : laidOutB P = true) {W W' : World} (hb : Below W.heap.size W W') {sp : Nat → Bool} : ∀ (ts : List TypeId) (vs : List Value) (ds : List (DataW H)) (p : List MemPlace),
  ts.all (fun t => P.readableRec t && decide (t < P.types.size)) = true → DataW.TrodAll enc P W 0 (fun _ => true) true ts vs ds p → (∀ x ∈ p, x.block < W.heap.size) →
  (∀ x ∈ p, sp x.block = true) → DataW.TrodAll enc P W' 0 sp true ts vs ds p
 | [], vs, ds, p, _, h, _, _ => by
  obtain ⟨rfl, rfl, rfl⟩ := trodAll_nil h
  exact trodAll_mk0
 | t :: ts, vs, ds, p, hr, h, hlt, hsp => by
  obtain ⟨v, vs', d, ds', p1, p2, rfl, rfl, rfl, h1, h2⟩ := trodAll_cons h
  simp only [List.all_cons, Bool.and_eq_true, decide_eq_true_eq] at hr
  refine trodAll_cons_mk (WideElems.Trod_stays hlo hr.1.1 hr.1.2 h1 (fun x hx => hb.same (hlt x (List.mem_append_left _ hx))) (fun x hx => hsp x (List.mem_append_left _ hx))) ?_
  exact p4 hlo hb ts vs' ds' p2 hr.2 h2 (fun x hx => hlt x (List.mem_append_right _ hx)) (fun x hx => hsp x (List.mem_append_right _ hx))

theorem aFo {f : Func} {s : ChangeSpec} {apart fresh handsOn again : Bool} {t : TypeId} {W W' : World} {args : Array Value} {ds gs : List (DataW H)} {before : List MemPlace}
  (hlo : laidOutB P = true) (hvars : s.vars = []) (hres : f.resultTypes = #[t]) (hu : P.underlying t = some .bool)
  (hread : f.params.toList.all (fun t => P.readableRec t && decide (t < P.types.size)) = true)
  (hfn : s.fn H (ds ++ []) = { results := [.lit (.bool true)], args := ds })
  (hW : DataW.Whole enc P f.params.toList s.vars apart W args.toList ds gs before) (hb : Below W.heap.size W W') :
  s.post enc P f apart fresh handsOn again W args (.bool true) W' := by
 have hlt := hW.lt
 have hW0 := hW
 obtain ⟨p, q, hA, hV, rfl, hz, hn⟩ := hW
 rw [hvars] at hV
 obtain ⟨rfl, rfl⟩ := trodVars_none hV
 have hlt' : ∀ x ∈ p, x.block < W.heap.size := fun x hx => hlt x (List.mem_append_left _ hx)
 have hargs : ∀ sp : Nat → Bool, (∀ x ∈ p, sp x.block = true) → DataW.TrodAll enc P W' 0 sp true f.params.toList args.toList ds p := fun sp hsp => p4 hlo hb _ _ _ _ hread hA hlt' hsp
 have hr1 : ∀ (b : Nat) (sp : Nat → Bool) (hd : Bool), DataW.TrodAll enc P W' b sp hd f.resultTypes.toList ((Value.bool true).resultList f.resultTypes.size) [DataW.lit (.bool true)] [] := by
  intro b sp hd
  rw [hres]
  exact trodAll_mk1 (shut_bool hu true)
 refine ⟨ds, [], p ++ [], [], p, [], hW0, ?_, ?_, ?_, hb.frame _, fun _ => ⟨?_, [DataW.lit (.bool true)] ++ ds, [], p ++ [], ⟨p, [], ?_, ?_, rfl, ?_, ?_⟩, ?_⟩⟩
 ·rw [hfn]; exact hr1 _ _ _
 ·rw [hfn]; exact hargs _ fun x hx => by simpa using hlt' x hx
 ·rw [hfn, hvars]; rfl
 ·exact ok_one hres rfl (okWide_bool_mk hu true)
 ·have := trodAll_append (hargs (fun _ => true) fun _ _ => rfl) (hr1 0 (fun _ => true) true)
  simpa using this
 ·rw [hvars]; rfl
 ·intro b off hp
  rw [hb.frozen (p := ⟨b, off, none⟩) (hlt _ hp)]
  exact hz b off hp
 ·exact hn
 ·intro x hx _; exact hx
end
end Go.Am
end

section
namespace Go.Am
def Gr (h h' : aE) : Prop := h.next ≤ h'.next ∧ ∀ j, j < h.next → h'.obj j = h.obj j
theorem Gr.refl (h : aE) : Gr h h := ⟨Nat.le_refl _, fun _ _ => rfl⟩
theorem Gr.trans {a b c : aE} (x : Gr a b) (y : Gr b c) : Gr a c := ⟨Nat.le_trans x.1 y.1, fun j hj => (y.2 j (Nat.lt_of_lt_of_le hj x.1)).trans (x.2 j hj)⟩
theorem Gr.alloc (h : aE) (o : fI) : Gr h (h.alloc o) := ⟨by simp, fun j hj => cR (by omega) rfl⟩
theorem Gr.put {h h' : aE} (g : Gr h h') {i : Nat} {o : Option fI} (hi : h.next ≤ i) : Gr h (h'.put i o) := ⟨g.1, fun j hj => bF (by omega) (g.2 j hj)⟩
theorem Gr.at {h h' : aE} (g : Gr h h') {i : Nat} {o : Option fI} (hi : i < h.next) (ho : h.obj i = o) : h'.obj i = o := (g.2 i hi).trans ho
def bB (p : Nat) (h h' : aE) : Prop := h.next ≤ h'.next ∧ ∀ j, j < h.next → j ≠ p → h'.obj j = h.obj j
theorem bB.refl (p : Nat) (h : aE) : bB p h h := ⟨Nat.le_refl _, fun _ _ _ => rfl⟩
theorem bB.trans {p : Nat} {a b c : aE} (x : bB p a b) (y : bB p b c) : bB p a c := ⟨Nat.le_trans x.1 y.1, fun j hj hp => (y.2 j (Nat.lt_of_lt_of_le hj x.1) hp).trans (x.2 j hj hp)⟩
theorem bB.of {p : Nat} {a b : aE} (x : Gr a b) : bB p a b := ⟨x.1, fun j hj _ => x.2 j hj⟩
theorem bB.alloc {p : Nat} {h h' : aE} (f : bB p h h') (o : fI) : bB p h (h'.alloc o) := f.trans (.of (Gr.alloc _ _))
theorem bB.put {p : Nat} {h h' : aE} (f : bB p h h') {i : Nat} {o : Option fI} (hi : h.next ≤ i) : bB p h (h'.put i o) := ⟨f.1, fun j hj hp => bF (by omega) (f.2 j hj hp)⟩
theorem bB.self {p : Nat} {h h' : aE} (f : bB p h h') {o : Option fI} : bB p h (h'.put p o) := ⟨f.1, fun _ hj hp => bF hp (f.2 _ hj hp)⟩
theorem bB.gr {p : Nat} {h h' h2 : aE} (f : bB p h h') (g : Gr h' h2) : bB p h h2 := f.trans (.of g)
theorem bB.at {p : Nat} {a b : aE} (f : bB p a b) {j : Nat} {o : Option fI} (hj : j < a.next) (hp : j ≠ p) (ho : a.obj j = o) : b.obj j = o := (f.2 j hj hp).trans ho
theorem iI.bH {i : Nat} {S : aE → Prop} {r : List Pe} {h : aE} (hr : iI r h) : iI ((i, S, false) :: r) h := hr
theorem iI.ask {i : Nat} {S : aE → Prop} {r : List Pe} {h : aE} (hs : S h) (hr : iI r h) : iI ((i, S, true) :: r) h := ⟨hs, hr⟩


















section
variable {P : Program} {G : Nat} {X : fE} {n : Nat} {N : Env → aE → Prop} {E : Nat → Env → aE → Prop} {R : Env → aE → Prop} {F : List PanicEntry → aE → Prop} {env : Env} {h : aE} {ops o2 : Array Oper} {c : Operand} {a b : Code} {id i hG : Nat} {o : Oper} {l : List Oper} {m : List cT} {pend : List Pe}
theorem QK (hw : WS P G X n false ops o env h (fun e h _ => WR P G X n ops l e h N F) F) : WR P G X n ops (o :: l) env h N F := WR.cons hw
theorem QL (hq : N env h) : WR P G X n ops [] env h N F := WR.nil hq
theorem QM (hq : R env h) : WR P G X n ops [] env h (fun e h => WC P G X n .ret e h N E R F) F := WR.nil (WC.ret hq)
theorem QN (hX : bZ X) (hw : WR P G X n ops ops.toList env h (fun e h => WC P G X n b e h N E R F) F) : WC P G X n (.seq (.region id ops false) b) env h N E R F := WC.seq hX (WC.region hX hw)
theorem QO (hX : bZ X) (hw : WR P G X n o2 o2.toList env h (fun e h => WC P G X n b e h N E R F) F) : WR P G X n ops [] env h (fun e h => WC P G X n (.seq (.region id o2 false) b) e h N E R F) F := WR.nil (WC.seq hX (WC.region hX hw))
theorem QP (hX : bZ X) (hw : WC P G X n b env h N E R F) (hc : aL G env c = some (.bool false) := by first | rfl | assumption) : WR P G X n ops [] env h (fun e h => WC P G X n (.cond c a b) e h N E R F) F := WR.nil (WC.aEo hX hc hw)
theorem QQ (hX : bZ X) (hw : WC P G X n a env h N E R F) (hc : aL G env c = some (.bool true) := by first | rfl | assumption) : WR P G X n ops [] env h (fun e h => WC P G X n (.cond c a b) e h N E R F) F := WR.nil (WC.aDz hX hc hw)
theorem QR (hX : bZ X) (hw : WC P G X n a env h N E R F) (hc : aL G env c = some (.bool true) := by first | rfl | assumption) : WC P G X n (.cond c a b) env h N E R F := WC.aDz hX hc hw
theorem QS (hX : bZ X) (hw : WC P G X n b env h N E R F) (hc : aL G env c = some (.bool false) := by first | rfl | assumption) : WC P G X n (.cond c a b) env h N E R F := WC.aEo hX hc hw
theorem QU (hX : bZ X) (hw : WC P G X n a env h (fun e h => WC P G X n b e h N E R F) E R F) : WC P G X n (.seq a b) env h N E R F := WC.seq hX hw
theorem QV (hX : bZ X) (hw : WR P G X n ops ops.toList env h N F) : WC P G X n (.region id ops false) env h N E R F := WC.region hX hw
theorem UA (hq : N env h) : WC P G X n .skip env h N E R F := WC.skip hq
theorem QW (ho : ops[i]? = some o := by rfl) (k : WS P G X n true ops o env h (fun e h _ => WD P G X n ops m pend e h N F) F) : WD P G X n ops (⟨i, .pure, hG⟩ :: m) pend env h N F := WD.pure ho k
end
section
variable {P : Program} {G : Nat} {X : fE} {n : Nat} {F : List PanicEntry → aE → Prop} {env : Env} {h : aE} {lt : Bool} {ops : Array Oper} {d : Nat} {t : TypeId} {p : String} {a : Array Edge} {g : Option (Nat × Bool)} {K : Env → aE → (aE → Prop) → Prop}
theorem Qg {ty : TypeId} {x y : Operand} {c} {i j : Int} (hk : K (bE env d (.int .i64 (i - j))) h fun _ => True) (hg : cX ops env g = some true := by rfl) (hn : Nat.blt d n = true := by rfl) (hx : aL G env x = some (.int .i64 i) := by first | rfl | assumption) (hy : aL G env y = some (.int .i64 j) := by first | rfl | assumption) (hr : -9223372036854775808 ≤ i - j ∧ i - j ≤ 9223372036854775807 := by omega) : WS P G X n lt ops ⟨some d, .binOp .sub ty x y c, t, p, a, g⟩ env h K F := WS.aLn (hg := hg) (hn := hn) (hx := hx) (hy := hy) (hr := hr) (hk := hk)
theorem Qo {ty : TypeId} {x : Operand} {v : Value} {u} (hk : K (bE env d (.iface ty v)) h fun _ => True) (hg : cX ops env g = some true := by rfl) (hn : Nat.blt d n = true := by rfl) (hx : aL G env x = some v := by first | rfl | assumption) (hu : P.underlying ty = some u := by rfl) (hi : ∀ m, u ≠ .interface m := by (intro m hm; cases hm)) : WS P G X n lt ops ⟨some d, .makeInterface ty x, t, p, a, g⟩ env h K F := WS.iface (hg := hg) (hn := hn) (hx := hx) (hu := hu) (hi := hi) (hk := hk)
theorem Qv {ty : TypeId} {x y : Operand} {i off : Nat} {v : Value} {cs cs' : List Value} (hk : K env (h.put i (some (.cells false cs'))) fun _ => True) (hg : cX ops env g = some true := by rfl) (hx : aL G env x = some (.pointer (some ⟨i, off, none⟩)) := by first | rfl | assumption) (hy : aL G env y = some v := by first | rfl | assumption) (hz : dJ P ty = some v.cells.size := by rfl) (ho : h.obj i = some (.cells false cs) := by exact aA) (hf : off + v.cells.size ≤ cs.length := by first | (exact Nat.le_of_ble_eq_true rfl) | (simp; done) | omega) (h1 : v.cells.toList.all (·.oneCell') = true := by rfl) (hs' : dG (cH cs off v.cells.toList) = some cs' := by rfl) : WS P G X n false ops ⟨none, .store ty x y, t, p, a, g⟩ env h K F := WS.store (hg := hg) (hx := hx) (hy := hy) (hz := hz) (ho := ho) (hf := hf) (h1 := h1) (hs' := hs') (hk := hk)
theorem Qw {e : TypeId} {z : Value} {cs : List Value} (hk : K (bE env d (.pointer (some ⟨h.next, 0, none⟩))) (h.alloc (.cells false cs)) fun _ => False) (hg : cX ops env g = some true := by rfl) (hn : Nat.blt d n = true := by rfl) (hz : gJ P e = some z := by rfl) (hcs' : dG z.cells.toList = some cs := by rfl) : WS P G X n lt ops ⟨some d, .alloc e, t, p, a, g⟩ env h K F := WS.alloc (hg := hg) (hn := hn) (hz := hz) (hcs' := hcs') (hk := hk)
theorem Qz {ty e : TypeId} {parts} {ps : List (Nat × Value)} {vs : List (Array Value)} {len m : Nat} {z : Value} {cs : List Value} (hk : K (bE env d (.slice (some ⟨h.next, 0, none⟩) len m)) (h.alloc (.cells false cs)) fun _ => False) (hg : cX ops env g = some true := by rfl) (hn : Nat.blt d n = true := by rfl) (hp : dC G env parts.toList = some ps := by rfl) (hu : P.underlying ty = some (.slice e) := by rfl) (hm : dJ P e = some m := by exact fK rfl) (hz : gJ P e = some z := by rfl) (hok : (z.cells.size = m && 0 < m && len * m ≤ 16777216) = true := by rfl) (hv : jY 0 ps = some vs := by rfl) (hl : vs.length = len := by rfl) (hs : vs.all (fun a => a.size == m) = true := by rfl) (hcs' : dG (vs.map (·.toList)).flatten = some cs := by rfl) : WS P G X n lt ops ⟨some d, .buildSlice ty len parts, t, p, a, g⟩ env h K F := WS.w5 (hg := hg) (hn := hn) (hp := hp) (hu := hu) (hm := hm) (hz := hz) (hok := hok) (hv := hv) (hl := hl) (hs := hs) (hcs' := hcs') (hk := hk)
theorem QA {lt : Bool} {ops : Array Oper} {op : Op} {d t p a g} {K : Env → aE → (aE → Prop) → Prop} (hk : K (bE env d undef) h fun _ => True) (hg : cX ops env (some g) = some false := by rfl) (hn : Nat.blt d n = true := by rfl) : WS P G X n lt ops ⟨some d, op, t, p, a, some g⟩ env h K F := WS.uw (hg := hg) (hn := hn) (hk := hk)
theorem QB {ty : TypeId} {x y : Operand} {c} {i j : ByteArray} (h1 : i = j → K (bE env d (.bool true)) h fun _ => True) (h2 : ¬(i = j) → K (bE env d (.bool false)) h fun _ => True) (hg : cX ops env g = some true := by rfl) (hn : Nat.blt d n = true := by rfl) (hx : aL G env x = some (.string i) := by first | rfl | assumption) (hy : aL G env y = some (.string j) := by first | rfl | assumption) : WS P G X n lt ops ⟨some d, .binOp .eql ty x y c, t, p, a, g⟩ env h K F := WS.eqS (hg := hg) (hn := hn) (hx := hx) (hy := hy) (h1 := h1) (h2 := h2)
theorem QD {ty : TypeId} {x y : Operand} {c} {k : IntKind} {i j : Int} (h1 : i = j → K (bE env d (.bool true)) h fun _ => True) (h2 : ¬(i = j) → K (bE env d (.bool false)) h fun _ => True) (hg : cX ops env g = some true := by rfl) (hn : Nat.blt d n = true := by rfl) (hx : aL G env x = some (.int k i) := by first | rfl | assumption) (hy : aL G env y = some (.int k j) := by first | rfl | assumption) : WS P G X n lt ops ⟨some d, .binOp .eql ty x y c, t, p, a, g⟩ env h K F := WS.eqI (hg := hg) (hn := hn) (hx := hx) (hy := hy) (h1 := h1) (h2 := h2)
theorem QF {ty : TypeId} {x y : Operand} {c} {k : IntKind} {i j : Int} (h1 : i < j → K (bE env d (.bool true)) h fun _ => True) (h2 : ¬(i < j) → K (bE env d (.bool false)) h fun _ => True) (hg : cX ops env g = some true := by rfl) (hn : Nat.blt d n = true := by rfl) (hx : aL G env x = some (.int k i) := by first | rfl | assumption) (hy : aL G env y = some (.int k j) := by first | rfl | assumption) : WS P G X n lt ops ⟨some d, .binOp .lss ty x y c, t, p, a, g⟩ env h K F := WS.ltI (hg := hg) (hn := hn) (hx := hx) (hy := hy) (h1 := h1) (h2 := h2)
theorem QJ {f : FuncId} {args tys} {vs : List Value} (he : ∀ vs, aO P f vs = some (.enter f vs)) (hk : aP P G X f vs h fun r => match r with | .ret v h' => K (bE env d v) h' (fun _ => True) | .panic ch h' => F ch h') (hg : cX ops env g = some true := by rfl) (hn : Nat.blt d n = true := by rfl) (ha : bM G env args.toList = some vs := by rfl) : WS P G X n false ops ⟨some d, .call ⟨.value (.func f), args, tys⟩, t, p, a, g⟩ env h K F := WS.oW (hg := hg) (hn := hn) (ha := ha) (he := he) (hk := hk)
end
theorem UB (h : aE) (o : fI) : (h.alloc o).next = h.next + 1 := rfl
theorem UC (h : aE) (i : Nat) (o : Option fI) : (h.put i o).next = h.next := rfl
section
variable {P : Program} {G : Nat} {X : fE} {n : Nat} {F : List PanicEntry → aE → Prop} {env : Env} {h : aE} {ops : Array Oper} {l : List Oper} {N : Env → aE → Prop} {d : Nat} {t : TypeId} {p : String} {a : Array Edge} {g : Option (Nat × Bool)}
theorem Ma {x : Operand} {v : Value} (hg : cX ops env g = some true := by rfl) (hn : Nat.blt d n = true := by rfl) (hx : aL G env x = some v := by first | rfl | assumption) (w : WR P G X n ops l (bE env d v) h N F) : WR P G X n ops (⟨some d, .move x, t, p, a, g⟩ :: l) env h N F := WR.cons (WS.move (hg := hg) (hn := hn) (hx := hx) (hk := w))
theorem Mb {x : Operand} {v : Value} (hg : cX ops env g = some true := by rfl) (hn : Nat.blt d n = true := by rfl) (hx : aL G env x = some v := by first | rfl | assumption) (w : WR P G X n ops l (bE env d v) h N F) : WR P G X n ops (⟨some d, .assign x, t, p, a, g⟩ :: l) env h N F := WR.cons (WS.assign (hg := hg) (hn := hn) (hx := hx) (hk := w))
theorem Mc {c x y : Operand} {v : Value} (hg : cX ops env g = some true := by rfl) (hn : Nat.blt d n = true := by rfl) (hc : aL G env c = some (.bool true) := by first | rfl | assumption) (hx : aL G env x = some v := by first | rfl | assumption) (w : WR P G X n ops l (bE env d v) h N F) : WR P G X n ops (⟨some d, .pick c x y, t, p, a, g⟩ :: l) env h N F := WR.cons (WS.aIr (hg := hg) (hn := hn) (hc := hc) (hx := hx) (hk := w))
theorem Md {c x y : Operand} {v : Value} (hg : cX ops env g = some true := by rfl) (hn : Nat.blt d n = true := by rfl) (hc : aL G env c = some (.bool false) := by first | rfl | assumption) (hy : aL G env y = some v := by first | rfl | assumption) (w : WR P G X n ops l (bE env d v) h N F) : WR P G X n ops (⟨some d, .pick c x y, t, p, a, g⟩ :: l) env h N F := WR.cons (WS.aIp (hg := hg) (hn := hn) (hc := hc) (hy := hy) (hk := w))
theorem Me {ty : TypeId} {x : Operand} {b : Bool} (hg : cX ops env g = some true := by rfl) (hn : Nat.blt d n = true := by rfl) (hx : aL G env x = some (.bool b) := by first | rfl | assumption) (w : WR P G X n ops l (bE env d (.bool !b)) h N F) : WR P G X n ops (⟨some d, .unOp .not ty x, t, p, a, g⟩ :: l) env h N F := WR.cons (WS.not (hg := hg) (hn := hn) (hx := hx) (hk := w))
theorem Mf {ty : TypeId} {x y : Operand} {c} {i j : Int} (hg : cX ops env g = some true := by rfl) (hn : Nat.blt d n = true := by rfl) (hx : aL G env x = some (.int .i64 i) := by first | rfl | assumption) (hy : aL G env y = some (.int .i64 j) := by first | rfl | assumption) (hr : -9223372036854775808 ≤ i + j ∧ i + j ≤ 9223372036854775807 := by omega) (w : WR P G X n ops l (bE env d (.int .i64 (i + j))) h N F) : WR P G X n ops (⟨some d, .binOp .add ty x y c, t, p, a, g⟩ :: l) env h N F := WR.cons (WS.aK8 (hg := hg) (hn := hn) (hx := hx) (hy := hy) (hr := hr) (hk := w))
theorem Mg {ty : TypeId} {x y : Operand} {c} {i j : Int} (hg : cX ops env g = some true := by rfl) (hn : Nat.blt d n = true := by rfl) (hx : aL G env x = some (.int .i64 i) := by first | rfl | assumption) (hy : aL G env y = some (.int .i64 j) := by first | rfl | assumption) (hr : -9223372036854775808 ≤ i - j ∧ i - j ≤ 9223372036854775807 := by omega) (w : WR P G X n ops l (bE env d (.int .i64 (i - j))) h N F) : WR P G X n ops (⟨some d, .binOp .sub ty x y c, t, p, a, g⟩ :: l) env h N F := WR.cons (WS.aLn (hg := hg) (hn := hn) (hx := hx) (hy := hy) (hr := hr) (hk := w))
theorem Mh {ty : TypeId} {x y : Operand} {c} {i j : ByteArray} (hg : cX ops env g = some true := by rfl) (hn : Nat.blt d n = true := by rfl) (hx : aL G env x = some (.string i) := by first | rfl | assumption) (hy : aL G env y = some (.string j) := by first | rfl | assumption) (hs : i.size + j.size ≤ 140737488355328 := by first | omega | ((try simp only [ByteArray.size_append, zQ, List.size_toArray, List.length_cons, List.length_nil]); omega)) (w : WR P G X n ops l (bE env d (.string (i ++ j))) h N F) : WR P G X n ops (⟨some d, .binOp .add ty x y c, t, p, a, g⟩ :: l) env h N F := WR.cons (WS.aMj (hg := hg) (hn := hn) (hx := hx) (hy := hy) (hs := hs) (hk := w))
theorem Mi {x : Operand} {q : Addr} (hg : cX ops env g = some true := by rfl) (hn : Nat.blt d n = true := by rfl) (hx : aL G env x = some (.pointer (some q)) := by first | rfl | assumption) (w : WR P G X n ops l (bE env d (.pointer (some q))) h N F) : WR P G X n ops (⟨some d, .nilCheck x, t, p, a, g⟩ :: l) env h N F := WR.cons (WS.nilCheck (hg := hg) (hn := hn) (hx := hx) (hk := w))
theorem Mj {ty : TypeId} {x : Operand} {f : Nat} {i off o : Nat} (hg : cX ops env g = some true := by rfl) (hn : Nat.blt d n = true := by rfl) (hx : aL G env x = some (.pointer (some ⟨i, off, none⟩)) := by first | rfl | assumption) (hv : (jV P ty)[f]? = some (some o) := by exact xR rfl rfl) (w : WR P G X n ops l (bE env d (.pointer (some ⟨i, off + o, none⟩))) h N F) : WR P G X n ops (⟨some d, .fieldAddr ty x f, t, p, a, g⟩ :: l) env h N F := WR.cons (WS.fieldAddr (hg := hg) (hn := hn) (hx := hx) (hv := hv) (hk := w))
theorem Mk {ty : TypeId} {x : Operand} {f : Nat} {u v0 v : Value} (hg : cX ops env g = some true := by rfl) (hn : Nat.blt d n = true := by rfl) (hx : aL G env x = some u := by first | rfl | assumption) (hv0 : qI P ty u f = some v0 := by rfl) (hf : p8 v0 = some v := by rfl) (w : WR P G X n ops l (bE env d v) h N F) : WR P G X n ops (⟨some d, .field ty x f, t, p, a, g⟩ :: l) env h N F := WR.cons (WS.field (hg := hg) (hn := hn) (hx := hx) (hv0 := hv0) (hf := hf) (hk := w))
theorem Ml {ty : TypeId} {x y : Operand} {e : TypeId} {i off len es : Nat} {k : Int} {q} (hg : cX ops env g = some true := by rfl) (hn : Nat.blt d n = true := by rfl) (hx : aL G env x = some (.slice (some ⟨i, off, none⟩) len es) := by first | rfl | assumption) (hy : aL G env y = some (.int q k) := by first | rfl | assumption) (hu : P.underlying ty = some (.slice e) := by rfl) (hs : dJ P e = some es := by exact fK rfl) (hb : 0 ≤ k ∧ k < len := by omega) (w : WR P G X n ops l (bE env d (.pointer (some ⟨i, off + k.toNat * es, none⟩))) h N F) : WR P G X n ops (⟨some d, .indexAddr ty x y, t, p, a, g⟩ :: l) env h N F := WR.cons (WS.indexAddr (hg := hg) (hn := hn) (hx := hx) (hy := hy) (hu := hu) (hs := hs) (hb := hb) (hk := w))
theorem Mm {ty : TypeId} {x y : Operand} {s : ByteArray} {k : Int} {q} (hg : cX ops env g = some true := by rfl) (hn : Nat.blt d n = true := by rfl) (hx : aL G env x = some (.string s) := by first | rfl | assumption) (hy : aL G env y = some (.int q k) := by first | rfl | assumption) (hu : P.underlying ty = some .string := by rfl) (hb : 0 ≤ k ∧ k < s.size := by omega) (w : WR P G X n ops l (bE env d (.int .u8 (aT s k))) h N F) : WR P G X n ops (⟨some d, .index ty x y, t, p, a, g⟩ :: l) env h N F := WR.cons (WS.aGg (hg := hg) (hn := hn) (hx := hx) (hy := hy) (hu := hu) (hb := hb) (hk := w))
theorem Mn {ty : TypeId} {parts} {ps} {v0 v : Value} (hg : cX ops env g = some true := by rfl) (hn : Nat.blt d n = true := by rfl) (hp : dC G env parts.toList = some ps := by rfl) (hv0 : qE P ty ps = some v0 := by rfl) (hf : p8 v0 = some v := by rfl) (w : WR P G X n ops l (bE env d v) h N F) : WR P G X n ops (⟨some d, .build ty parts, t, p, a, g⟩ :: l) env h N F := WR.cons (WS.build (hg := hg) (hn := hn) (hp := hp) (hv0 := hv0) (hf := hf) (hk := w))
theorem Mo {ty : TypeId} {x : Operand} {v : Value} {u} (hg : cX ops env g = some true := by rfl) (hn : Nat.blt d n = true := by rfl) (hx : aL G env x = some v := by first | rfl | assumption) (hu : P.underlying ty = some u := by rfl) (hi : ∀ m, u ≠ .interface m := by (intro m hm; cases hm)) (w : WR P G X n ops l (bE env d (.iface ty v)) h N F) : WR P G X n ops (⟨some d, .makeInterface ty x, t, p, a, g⟩ :: l) env h N F := WR.cons (WS.iface (hg := hg) (hn := hn) (hx := hx) (hu := hu) (hi := hi) (hk := w))
theorem Mp {fn : Fn} {first cap : Array Operand} {f c} (hg : cX ops env g = some true := by rfl) (hn : Nat.blt d n = true := by rfl) (hf : bM G env first.toList = some f := by first | rfl | exact aW (by first | rfl | assumption) rfl | exact aW (by first | rfl | assumption) (aW (by first | rfl | assumption) rfl) | exact aW (by first | rfl | assumption) (aW (by first | rfl | assumption) (aW (by first | rfl | assumption) rfl))) (hc : bM G env cap.toList = some c := by first | rfl | exact aW (by first | rfl | assumption) rfl | exact aW (by first | rfl | assumption) (aW (by first | rfl | assumption) rfl) | exact aW (by first | rfl | assumption) (aW (by first | rfl | assumption) (aW (by first | rfl | assumption) rfl))) (w : WR P G X n ops l (bE env d (.func fn f.toArray c.toArray)) h N F) : WR P G X n ops (⟨some d, .makeFunc fn first cap, t, p, a, g⟩ :: l) env h N F := WR.cons (WS.makeFunc (hg := hg) (hn := hn) (hf := hf) (hc := hc) (hk := w))
theorem Mq {x : Operand} {i : Nat} {vs : Array Value} {v0 v : Value} (hg : cX ops env g = some true := by rfl) (hn : Nat.blt d n = true := by rfl) (hx : aL G env x = some (.tuple vs) := by first | rfl | assumption) (hv : vs[i]? = some v0 := by rfl) (hf : p8 v0 = some v := by rfl) (w : WR P G X n ops l (bE env d v) h N F) : WR P G X n ops (⟨some d, .extract x i, t, p, a, g⟩ :: l) env h N F := WR.cons (WS.aGh (hg := hg) (hn := hn) (hx := hx) (hv := hv) (hf := hf) (hk := w))
theorem Mr {ty : TypeId} {x : Operand} {s : ByteArray} (hg : cX ops env g = some true := by rfl) (hn : Nat.blt d n = true := by rfl) (hx : aL G env x = some (.string s) := by first | rfl | assumption) (hu : P.underlying ty = some .string := by rfl) (w : WR P G X n ops l (bE env d (.int .i64 s.size)) h N F) : WR P G X n ops (⟨some d, .call ⟨.builtin .len, #[x], #[ty]⟩, t, p, a, g⟩ :: l) env h N F := WR.cons (WS.aKy (hg := hg) (hn := hn) (hx := hx) (hu := hu) (hk := w))
theorem Ms {ty e : TypeId} {x : Operand} {b} {m es : Nat} (hg : cX ops env g = some true := by rfl) (hn : Nat.blt d n = true := by rfl) (hx : aL G env x = some (.slice b m es) := by first | rfl | assumption) (hu : P.underlying ty = some (.slice e) := by rfl) (w : WR P G X n ops l (bE env d (.int .i64 m)) h N F) : WR P G X n ops (⟨some d, .call ⟨.builtin .len, #[x], #[ty]⟩, t, p, a, g⟩ :: l) env h N F := WR.cons (WS.aL7 (hg := hg) (hn := hn) (hx := hx) (hu := hu) (hk := w))
theorem Mt {ty : TypeId} {x : Operand} {i off : Nat} {v : Value} {ro : Bool} {cs : List Value} (hg : cX ops env g = some true := by rfl) (hn : Nat.blt d n = true := by rfl) (hx : aL G env x = some (.pointer (some ⟨i, off, none⟩)) := by first | rfl | assumption) (ht : tH P ty = some false := by rfl) (ho : h.obj i = some (.cells ro cs) := by exact aA) (hc : cs[off]? = some v := by rfl) (w : WR P G X n ops l (bE env d v) h N F) : WR P G X n ops (⟨some d, .load ty x, t, p, a, g⟩ :: l) env h N F := WR.cons (WS.jQ (hg := hg) (hn := hn) (hx := hx) (ht := ht) (ho := ho) (hc := hc) (hk := w))
theorem Mu {ty : TypeId} {x : Operand} {i off m : Nat} {ro : Bool} {cs vs : List Value} (hg : cX ops env g = some true := by rfl) (hn : Nat.blt d n = true := by rfl) (hx : aL G env x = some (.pointer (some ⟨i, off, none⟩)) := by first | rfl | assumption) (ht : tH P ty = some true := by rfl) (hs : dJ P ty = some m := by exact fK rfl) (ho : h.obj i = some (.cells ro cs) := by exact aA) (hc : off + m ≤ cs.length := by first | (exact Nat.le_of_ble_eq_true rfl) | (simp; done) | omega) (hv' : dG ((cs.drop off).take m) = some vs := by rfl) (w : WR P G X n ops l (bE env d (.agg vs.toArray)) h N F) : WR P G X n ops (⟨some d, .load ty x, t, p, a, g⟩ :: l) env h N F := WR.cons (WS.lA (hg := hg) (hn := hn) (hx := hx) (ht := ht) (hs := hs) (ho := ho) (hc := hc) (hv' := hv') (hk := w))
theorem Mv {ty : TypeId} {x y : Operand} {i off : Nat} {v : Value} {cs cs' : List Value} (hg : cX ops env g = some true := by rfl) (hx : aL G env x = some (.pointer (some ⟨i, off, none⟩)) := by first | rfl | assumption) (hy : aL G env y = some v := by first | rfl | assumption) (hz : dJ P ty = some v.cells.size := by rfl) (ho : h.obj i = some (.cells false cs) := by exact aA) (hf : off + v.cells.size ≤ cs.length := by first | (exact Nat.le_of_ble_eq_true rfl) | (simp; done) | omega) (h1 : v.cells.toList.all (·.oneCell') = true := by rfl) (hs' : dG (cH cs off v.cells.toList) = some cs' := by rfl) (w : WR P G X n ops l env (h.put i (some (.cells false cs'))) N F) : WR P G X n ops (⟨none, .store ty x y, t, p, a, g⟩ :: l) env h N F := WR.cons (WS.store (hg := hg) (hx := hx) (hy := hy) (hz := hz) (ho := ho) (hf := hf) (h1 := h1) (hs' := hs') (hk := w))
theorem Mw {e : TypeId} {z : Value} {cs : List Value} (hg : cX ops env g = some true := by rfl) (hn : Nat.blt d n = true := by rfl) (hz : gJ P e = some z := by rfl) (hcs' : dG z.cells.toList = some cs := by rfl) (w : WR P G X n ops l (bE env d (.pointer (some ⟨h.next, 0, none⟩))) (h.alloc (.cells false cs)) N F) : WR P G X n ops (⟨some d, .alloc e, t, p, a, g⟩ :: l) env h N F := WR.cons (WS.alloc (hg := hg) (hn := hn) (hz := hz) (hcs' := hcs') (hk := w))
theorem Mx {e : TypeId} {x : Operand} {v : Value} {cs : List Value} (hg : cX ops env g = some true := by rfl) (hn : Nat.blt d n = true := by rfl) (hx : aL G env x = some v := by first | rfl | assumption) (hcs' : dG v.cells.toList = some cs := by rfl) (w : WR P G X n ops l (bE env d (.pointer (some ⟨h.next, 0, none⟩))) (h.alloc (.cells false cs)) N F) : WR P G X n ops (⟨some d, .box e x, t, p, a, g⟩ :: l) env h N F := WR.cons (WS.box (hg := hg) (hn := hn) (hx := hx) (hcs' := hcs') (hk := w))
theorem My {ty e : TypeId} {parts} {ps} {len m : Nat} {z : Value} {cs0 cs : List Value} (hg : cX ops env g = some true := by rfl) (hn : Nat.blt d n = true := by rfl) (hp : dC G env parts.toList = some ps := by rfl) (hu : P.underlying ty = some (.slice e) := by rfl) (hm : dJ P e = some m := by exact fK rfl) (hz : gJ P e = some z := by rfl) (hok : (z.cells.size = m && 0 < m && len * m ≤ 16777216) = true := by rfl) (hcs0 : iZ (fun i => some (i * m, m)) (gM z len) ps = some cs0 := by rfl) (hcs' : dG cs0 = some cs := by rfl) (w : WR P G X n ops l (bE env d (.slice (some ⟨h.next, 0, none⟩) len m)) (h.alloc (.cells false cs)) N F) : WR P G X n ops (⟨some d, .buildSlice ty len parts, t, p, a, g⟩ :: l) env h N F := WR.cons (WS.buildSlice (hg := hg) (hn := hn) (hp := hp) (hu := hu) (hm := hm) (hz := hz) (hok := hok) (hcs0 := hcs0) (hcs' := hcs') (hk := w))
theorem Mz {ty e : TypeId} {parts} {ps : List (Nat × Value)} {vs : List (Array Value)} {len m : Nat} {z : Value} {cs : List Value} (hg : cX ops env g = some true := by rfl) (hn : Nat.blt d n = true := by rfl) (hp : dC G env parts.toList = some ps := by rfl) (hu : P.underlying ty = some (.slice e) := by rfl) (hm : dJ P e = some m := by exact fK rfl) (hz : gJ P e = some z := by rfl) (hok : (z.cells.size = m && 0 < m && len * m ≤ 16777216) = true := by rfl) (hv : jY 0 ps = some vs := by rfl) (hl : vs.length = len := by rfl) (hs : vs.all (fun a => a.size == m) = true := by rfl) (hcs' : dG (vs.map (·.toList)).flatten = some cs := by rfl) (w : WR P G X n ops l (bE env d (.slice (some ⟨h.next, 0, none⟩) len m)) (h.alloc (.cells false cs)) N F) : WR P G X n ops (⟨some d, .buildSlice ty len parts, t, p, a, g⟩ :: l) env h N F := WR.cons (WS.w5 (hg := hg) (hn := hn) (hp := hp) (hu := hu) (hm := hm) (hz := hz) (hok := hok) (hv := hv) (hl := hl) (hs := hs) (hcs' := hcs') (hk := w))
theorem MA {ops : Array Oper} {op : Op} {d t p a g} (hg : cX ops env (some g) = some false := by rfl) (hn : Nat.blt d n = true := by rfl) (w : WR P G X n ops l (bE env d undef) h N F) : WR P G X n ops (⟨some d, op, t, p, a, some g⟩ :: l) env h N F := WR.cons (WS.uw (hg := hg) (hn := hn) (hk := w))
theorem MB {ty : TypeId} {x y : Operand} {c} {i j : ByteArray} (hg : cX ops env g = some true := by rfl) (hn : Nat.blt d n = true := by rfl) (hx : aL G env x = some (.string i) := by first | rfl | assumption) (hy : aL G env y = some (.string j) := by first | rfl | assumption) (w : i = j → WR P G X n ops l (bE env d (.bool true)) h N F) (v : ¬(i = j) → WR P G X n ops l (bE env d (.bool false)) h N F) : WR P G X n ops (⟨some d, .binOp .eql ty x y c, t, p, a, g⟩ :: l) env h N F := WR.cons (WS.eqS (hg := hg) (hn := hn) (hx := hx) (hy := hy) (h1 := w) (h2 := v))
theorem MC {ty : TypeId} {x y : Operand} {c} {i j : ByteArray} (hg : cX ops env g = some true := by rfl) (hn : Nat.blt d n = true := by rfl) (hx : aL G env x = some (.string i) := by first | rfl | assumption) (hy : aL G env y = some (.string j) := by first | rfl | assumption) (w : i ≠ j → WR P G X n ops l (bE env d (.bool true)) h N F) (v : ¬(i ≠ j) → WR P G X n ops l (bE env d (.bool false)) h N F) : WR P G X n ops (⟨some d, .binOp .neq ty x y c, t, p, a, g⟩ :: l) env h N F := WR.cons (WS.neS (hg := hg) (hn := hn) (hx := hx) (hy := hy) (h1 := w) (h2 := v))
theorem MD {ty : TypeId} {x y : Operand} {c} {k : IntKind} {i j : Int} (hg : cX ops env g = some true := by rfl) (hn : Nat.blt d n = true := by rfl) (hx : aL G env x = some (.int k i) := by first | rfl | assumption) (hy : aL G env y = some (.int k j) := by first | rfl | assumption) (w : i = j → WR P G X n ops l (bE env d (.bool true)) h N F) (v : ¬(i = j) → WR P G X n ops l (bE env d (.bool false)) h N F) : WR P G X n ops (⟨some d, .binOp .eql ty x y c, t, p, a, g⟩ :: l) env h N F := WR.cons (WS.eqI (hg := hg) (hn := hn) (hx := hx) (hy := hy) (h1 := w) (h2 := v))
theorem ME {ty : TypeId} {x y : Operand} {c} {k : IntKind} {i j : Int} (hg : cX ops env g = some true := by rfl) (hn : Nat.blt d n = true := by rfl) (hx : aL G env x = some (.int k i) := by first | rfl | assumption) (hy : aL G env y = some (.int k j) := by first | rfl | assumption) (w : i ≠ j → WR P G X n ops l (bE env d (.bool true)) h N F) (v : ¬(i ≠ j) → WR P G X n ops l (bE env d (.bool false)) h N F) : WR P G X n ops (⟨some d, .binOp .neq ty x y c, t, p, a, g⟩ :: l) env h N F := WR.cons (WS.neI (hg := hg) (hn := hn) (hx := hx) (hy := hy) (h1 := w) (h2 := v))
theorem MF {ty : TypeId} {x y : Operand} {c} {k : IntKind} {i j : Int} (hg : cX ops env g = some true := by rfl) (hn : Nat.blt d n = true := by rfl) (hx : aL G env x = some (.int k i) := by first | rfl | assumption) (hy : aL G env y = some (.int k j) := by first | rfl | assumption) (w : i < j → WR P G X n ops l (bE env d (.bool true)) h N F) (v : ¬(i < j) → WR P G X n ops l (bE env d (.bool false)) h N F) : WR P G X n ops (⟨some d, .binOp .lss ty x y c, t, p, a, g⟩ :: l) env h N F := WR.cons (WS.ltI (hg := hg) (hn := hn) (hx := hx) (hy := hy) (h1 := w) (h2 := v))
theorem MG {ty : TypeId} {x y : Operand} {c} {k : IntKind} {i j : Int} (hg : cX ops env g = some true := by rfl) (hn : Nat.blt d n = true := by rfl) (hx : aL G env x = some (.int k i) := by first | rfl | assumption) (hy : aL G env y = some (.int k j) := by first | rfl | assumption) (w : i ≤ j → WR P G X n ops l (bE env d (.bool true)) h N F) (v : ¬(i ≤ j) → WR P G X n ops l (bE env d (.bool false)) h N F) : WR P G X n ops (⟨some d, .binOp .leq ty x y c, t, p, a, g⟩ :: l) env h N F := WR.cons (WS.leI (hg := hg) (hn := hn) (hx := hx) (hy := hy) (h1 := w) (h2 := v))
theorem MH {ty : TypeId} {x y : Operand} {c} {k : IntKind} {i j : Int} (hg : cX ops env g = some true := by rfl) (hn : Nat.blt d n = true := by rfl) (hx : aL G env x = some (.int k i) := by first | rfl | assumption) (hy : aL G env y = some (.int k j) := by first | rfl | assumption) (w : j < i → WR P G X n ops l (bE env d (.bool true)) h N F) (v : ¬(j < i) → WR P G X n ops l (bE env d (.bool false)) h N F) : WR P G X n ops (⟨some d, .binOp .gtr ty x y c, t, p, a, g⟩ :: l) env h N F := WR.cons (WS.gtI (hg := hg) (hn := hn) (hx := hx) (hy := hy) (h1 := w) (h2 := v))
theorem MI {ty : TypeId} {x y : Operand} {c} {k : IntKind} {i j : Int} (hg : cX ops env g = some true := by rfl) (hn : Nat.blt d n = true := by rfl) (hx : aL G env x = some (.int k i) := by first | rfl | assumption) (hy : aL G env y = some (.int k j) := by first | rfl | assumption) (w : j ≤ i → WR P G X n ops l (bE env d (.bool true)) h N F) (v : ¬(j ≤ i) → WR P G X n ops l (bE env d (.bool false)) h N F) : WR P G X n ops (⟨some d, .binOp .geq ty x y c, t, p, a, g⟩ :: l) env h N F := WR.cons (WS.geI (hg := hg) (hn := hn) (hx := hx) (hy := hy) (h1 := w) (h2 := v))
theorem MJ {f : FuncId} {args tys} {vs : List Value} (he : ∀ vs, aO P f vs = some (.enter f vs)) (hg : cX ops env g = some true := by rfl) (hn : Nat.blt d n = true := by rfl) (ha : bM G env args.toList = some vs := by rfl) (w : aP P G X f vs h fun r => match r with | .ret v h' => WR P G X n ops l (bE env d v) h' N F | .panic ch h' => F ch h') : WR P G X n ops (⟨some d, .call ⟨.value (.func f), args, tys⟩, t, p, a, g⟩ :: l) env h N F := WR.cons (WS.oW (he := he) (hg := hg) (hn := hn) (ha := ha) (hk := w))
variable {i0 hG : Nat} {m0 : List cT} {pend : List Pe}
theorem Da {x : Operand} {v : Value} (ho0 : ops[i0]? = some ⟨some d, .move x, t, p, a, g⟩ := by rfl) (hg : cX ops env g = some true := by rfl) (hn : Nat.blt d n = true := by rfl) (hx : aL G env x = some v := by first | rfl | assumption) (w : WD P G X n ops m0 pend (bE env d v) h N F) : WD P G X n ops (⟨i0, .pure, hG⟩ :: m0) pend env h N F := WD.pure ho0 (WS.move (hg := hg) (hn := hn) (hx := hx) (hk := w))
theorem Dj {ty : TypeId} {x : Operand} {f : Nat} {i off o : Nat} (ho0 : ops[i0]? = some ⟨some d, .fieldAddr ty x f, t, p, a, g⟩ := by rfl) (hg : cX ops env g = some true := by rfl) (hn : Nat.blt d n = true := by rfl) (hx : aL G env x = some (.pointer (some ⟨i, off, none⟩)) := by first | rfl | assumption) (hv : (jV P ty)[f]? = some (some o) := by exact xR rfl rfl) (w : WD P G X n ops m0 pend (bE env d (.pointer (some ⟨i, off + o, none⟩))) h N F) : WD P G X n ops (⟨i0, .pure, hG⟩ :: m0) pend env h N F := WD.pure ho0 (WS.fieldAddr (hg := hg) (hn := hn) (hx := hx) (hv := hv) (hk := w))
theorem DA {op : Op} {g : Nat × Bool} (ho0 : ops[i0]? = some ⟨some d, op, t, p, a, some g⟩ := by rfl) (hg : cX ops env (some g) = some false := by rfl) (hn : Nat.blt d n = true := by rfl) (w : WD P G X n ops m0 pend (bE env d undef) h N F) : WD P G X n ops (⟨i0, .pure, hG⟩ :: m0) pend env h N F := WD.pure ho0 (WS.uw (hg := hg) (hn := hn) (hk := w))
theorem Di {x : Operand} {q : Addr} (ho0 : ops[i0]? = some ⟨some d, .nilCheck x, t, p, a, g⟩ := by rfl) (hg : cX ops env g = some true := by rfl) (hn : Nat.blt d n = true := by rfl) (hx : aL G env x = some (.pointer (some q)) := by first | rfl | assumption) (w : WD P G X n ops m0 pend (bE env d (.pointer (some q))) h N F) : WD P G X n ops (⟨i0, .pure, hG⟩ :: m0) pend env h N F := WD.pure ho0 (WS.nilCheck (hg := hg) (hn := hn) (hx := hx) (hk := w))
theorem Db {x : Operand} {v : Value} (ho0 : ops[i0]? = some ⟨some d, .assign x, t, p, a, g⟩ := by rfl) (hg : cX ops env g = some true := by rfl) (hn : Nat.blt d n = true := by rfl) (hx : aL G env x = some v := by first | rfl | assumption) (w : WD P G X n ops m0 pend (bE env d v) h N F) : WD P G X n ops (⟨i0, .pure, hG⟩ :: m0) pend env h N F := WD.pure ho0 (WS.assign (hg := hg) (hn := hn) (hx := hx) (hk := w))
theorem Df {ty : TypeId} {x y : Operand} {c} {i j : Int} (ho0 : ops[i0]? = some ⟨some d, .binOp .add ty x y c, t, p, a, g⟩ := by rfl) (hg : cX ops env g = some true := by rfl) (hn : Nat.blt d n = true := by rfl) (hx : aL G env x = some (.int .i64 i) := by first | rfl | assumption) (hy : aL G env y = some (.int .i64 j) := by first | rfl | assumption) (hr : -9223372036854775808 ≤ i + j ∧ i + j ≤ 9223372036854775807 := by omega) (w : WD P G X n ops m0 pend (bE env d (.int .i64 (i + j))) h N F) : WD P G X n ops (⟨i0, .pure, hG⟩ :: m0) pend env h N F := WD.pure ho0 (WS.aK8 (hg := hg) (hn := hn) (hx := hx) (hy := hy) (hr := hr) (hk := w))
theorem Dl {ty : TypeId} {x y : Operand} {e : TypeId} {i off len es : Nat} {k : Int} {q} (ho0 : ops[i0]? = some ⟨some d, .indexAddr ty x y, t, p, a, g⟩ := by rfl) (hg : cX ops env g = some true := by rfl) (hn : Nat.blt d n = true := by rfl) (hx : aL G env x = some (.slice (some ⟨i, off, none⟩) len es) := by first | rfl | assumption) (hy : aL G env y = some (.int q k) := by first | rfl | assumption) (hu : P.underlying ty = some (.slice e) := by rfl) (hs : dJ P e = some es := by exact fK rfl) (hb : 0 ≤ k ∧ k < len := by omega) (w : WD P G X n ops m0 pend (bE env d (.pointer (some ⟨i, off + k.toNat * es, none⟩))) h N F) : WD P G X n ops (⟨i0, .pure, hG⟩ :: m0) pend env h N F := WD.pure ho0 (WS.indexAddr (hg := hg) (hn := hn) (hx := hx) (hy := hy) (hu := hu) (hs := hs) (hb := hb) (hk := w))
theorem Dc {c x y : Operand} {v : Value} (ho0 : ops[i0]? = some ⟨some d, .pick c x y, t, p, a, g⟩ := by rfl) (hg : cX ops env g = some true := by rfl) (hn : Nat.blt d n = true := by rfl) (hc : aL G env c = some (.bool true) := by first | rfl | assumption) (hx : aL G env x = some v := by first | rfl | assumption) (w : WD P G X n ops m0 pend (bE env d v) h N F) : WD P G X n ops (⟨i0, .pure, hG⟩ :: m0) pend env h N F := WD.pure ho0 (WS.aIr (hg := hg) (hn := hn) (hc := hc) (hx := hx) (hk := w))
theorem Dp {fn : Fn} {first cap : Array Operand} {f c} (ho0 : ops[i0]? = some ⟨some d, .makeFunc fn first cap, t, p, a, g⟩ := by rfl) (hg : cX ops env g = some true := by rfl) (hn : Nat.blt d n = true := by rfl) (hf : bM G env first.toList = some f := by first | rfl | exact aW (by first | rfl | assumption) rfl | exact aW (by first | rfl | assumption) (aW (by first | rfl | assumption) rfl) | exact aW (by first | rfl | assumption) (aW (by first | rfl | assumption) (aW (by first | rfl | assumption) rfl))) (hc : bM G env cap.toList = some c := by first | rfl | exact aW (by first | rfl | assumption) rfl | exact aW (by first | rfl | assumption) (aW (by first | rfl | assumption) rfl) | exact aW (by first | rfl | assumption) (aW (by first | rfl | assumption) (aW (by first | rfl | assumption) rfl))) (w : WD P G X n ops m0 pend (bE env d (.func fn f.toArray c.toArray)) h N F) : WD P G X n ops (⟨i0, .pure, hG⟩ :: m0) pend env h N F := WD.pure ho0 (WS.makeFunc (hg := hg) (hn := hn) (hf := hf) (hc := hc) (hk := w))
theorem Dn {ty : TypeId} {parts} {ps} {v0 v : Value} (ho0 : ops[i0]? = some ⟨some d, .build ty parts, t, p, a, g⟩ := by rfl) (hg : cX ops env g = some true := by rfl) (hn : Nat.blt d n = true := by rfl) (hp : dC G env parts.toList = some ps := by rfl) (hv0 : qE P ty ps = some v0 := by rfl) (hf : p8 v0 = some v := by rfl) (w : WD P G X n ops m0 pend (bE env d v) h N F) : WD P G X n ops (⟨i0, .pure, hG⟩ :: m0) pend env h N F := WD.pure ho0 (WS.build (hg := hg) (hn := hn) (hp := hp) (hv0 := hv0) (hf := hf) (hk := w))
theorem Dd {c x y : Operand} {v : Value} (ho0 : ops[i0]? = some ⟨some d, .pick c x y, t, p, a, g⟩ := by rfl) (hg : cX ops env g = some true := by rfl) (hn : Nat.blt d n = true := by rfl) (hc : aL G env c = some (.bool false) := by first | rfl | assumption) (hy : aL G env y = some v := by first | rfl | assumption) (w : WD P G X n ops m0 pend (bE env d v) h N F) : WD P G X n ops (⟨i0, .pure, hG⟩ :: m0) pend env h N F := WD.pure ho0 (WS.aIp (hg := hg) (hn := hn) (hc := hc) (hy := hy) (hk := w))
theorem Dm {ty : TypeId} {x y : Operand} {s : ByteArray} {k : Int} {q} (ho0 : ops[i0]? = some ⟨some d, .index ty x y, t, p, a, g⟩ := by rfl) (hg : cX ops env g = some true := by rfl) (hn : Nat.blt d n = true := by rfl) (hx : aL G env x = some (.string s) := by first | rfl | assumption) (hy : aL G env y = some (.int q k) := by first | rfl | assumption) (hu : P.underlying ty = some .string := by rfl) (hb : 0 ≤ k ∧ k < s.size := by omega) (w : WD P G X n ops m0 pend (bE env d (.int .u8 (aT s k))) h N F) : WD P G X n ops (⟨i0, .pure, hG⟩ :: m0) pend env h N F := WD.pure ho0 (WS.aGg (hg := hg) (hn := hn) (hx := hx) (hy := hy) (hu := hu) (hb := hb) (hk := w))
theorem Dk {ty : TypeId} {x : Operand} {f : Nat} {u v0 v : Value} (ho0 : ops[i0]? = some ⟨some d, .field ty x f, t, p, a, g⟩ := by rfl) (hg : cX ops env g = some true := by rfl) (hn : Nat.blt d n = true := by rfl) (hx : aL G env x = some u := by first | rfl | assumption) (hv0 : qI P ty u f = some v0 := by rfl) (hf : p8 v0 = some v := by rfl) (w : WD P G X n ops m0 pend (bE env d v) h N F) : WD P G X n ops (⟨i0, .pure, hG⟩ :: m0) pend env h N F := WD.pure ho0 (WS.field (hg := hg) (hn := hn) (hx := hx) (hv0 := hv0) (hf := hf) (hk := w))
theorem Rt {ty : TypeId} {x : Operand} {i off : Nat} {v : Value} {ro : Bool} {cs : List Value} (ho0 : ops[i0]? = some ⟨some d, .load ty x, t, p, a, g⟩ := by rfl) (hg : cX ops env g = some true := by rfl) (hn : Nat.blt d n = true := by rfl) (hx : aL G env x = some (.pointer (some ⟨i, off, none⟩)) := by first | rfl | assumption) (ht : tH P ty = some false := by rfl) (ho : h.obj i = some (.cells ro cs) := by exact aA) (hc : cs[off]? = some v := by rfl) (w : WD P G X n ops m0 (pend ++ [(i0, fun H => H.obj i = some (.cells ro cs), false)]) (bE env d v) h N F) : WD P G X n ops (⟨i0, .read, hG⟩ :: m0) pend env h N F := WD.read ho0 (WS.jQ (hg := hg) (hn := hn) (hx := hx) (ht := ht) (ho := ho) (hc := hc) (hk := w))
theorem Ru {ty : TypeId} {x : Operand} {i off m : Nat} {ro : Bool} {cs vs : List Value} (ho0 : ops[i0]? = some ⟨some d, .load ty x, t, p, a, g⟩ := by rfl) (hg : cX ops env g = some true := by rfl) (hn : Nat.blt d n = true := by rfl) (hx : aL G env x = some (.pointer (some ⟨i, off, none⟩)) := by first | rfl | assumption) (ht : tH P ty = some true := by rfl) (hs : dJ P ty = some m := by exact fK rfl) (ho : h.obj i = some (.cells ro cs) := by exact aA) (hc : off + m ≤ cs.length := by first | (exact Nat.le_of_ble_eq_true rfl) | (simp; done) | omega) (hv' : dG ((cs.drop off).take m) = some vs := by rfl) (w : WD P G X n ops m0 (pend ++ [(i0, fun H => H.obj i = some (.cells ro cs), false)]) (bE env d (.agg vs.toArray)) h N F) : WD P G X n ops (⟨i0, .read, hG⟩ :: m0) pend env h N F := WD.read ho0 (WS.lA (hg := hg) (hn := hn) (hx := hx) (ht := ht) (hs := hs) (ho := ho) (hc := hc) (hv' := hv') (hk := w))
theorem RA {op : Op} {g : Nat × Bool} (ho0 : ops[i0]? = some ⟨some d, op, t, p, a, some g⟩ := by rfl) (hg : cX ops env (some g) = some false := by rfl) (hn : Nat.blt d n = true := by rfl) (w : WD P G X n ops m0 (pend ++ [(i0, fun _ => True, false)]) (bE env d undef) h N F) : WD P G X n ops (⟨i0, .read, hG⟩ :: m0) pend env h N F := WD.read ho0 (WS.uw (hg := hg) (hn := hn) (hk := w))
theorem Rr {ty : TypeId} {x : Operand} {s : ByteArray} (ho0 : ops[i0]? = some ⟨some d, .call ⟨.builtin .len, #[x], #[ty]⟩, t, p, a, g⟩ := by rfl) (hg : cX ops env g = some true := by rfl) (hn : Nat.blt d n = true := by rfl) (hx : aL G env x = some (.string s) := by first | rfl | assumption) (hu : P.underlying ty = some .string := by rfl) (w : WD P G X n ops m0 (pend ++ [(i0, fun _ => True, false)]) (bE env d (.int .i64 s.size)) h N F) : WD P G X n ops (⟨i0, .read, hG⟩ :: m0) pend env h N F := WD.read ho0 (WS.aKy (hg := hg) (hn := hn) (hx := hx) (hu := hu) (hk := w))
theorem Rs {ty e : TypeId} {x : Operand} {b} {m es : Nat} (ho0 : ops[i0]? = some ⟨some d, .call ⟨.builtin .len, #[x], #[ty]⟩, t, p, a, g⟩ := by rfl) (hg : cX ops env g = some true := by rfl) (hn : Nat.blt d n = true := by rfl) (hx : aL G env x = some (.slice b m es) := by first | rfl | assumption) (hu : P.underlying ty = some (.slice e) := by rfl) (w : WD P G X n ops m0 (pend ++ [(i0, fun _ => True, false)]) (bE env d (.int .i64 m)) h N F) : WD P G X n ops (⟨i0, .read, hG⟩ :: m0) pend env h N F := WD.read ho0 (WS.aL7 (hg := hg) (hn := hn) (hx := hx) (hu := hu) (hk := w))
end
theorem nx {a b c : Nat} (h : a ≤ b) (e : a = c := by first | (simp only [UB, UC]; done) | (simp only [UB, UC]; exact rfl) | exact rfl) : c ≤ b := e ▸ h
abbrev Z0 : fI := .cells false [.int .i64 0, .string .empty, .int .i64 0, .int .i64 0, .string .empty, .int .i64 0, .slice none 0 0]
end Go.Am
end
