/-
  The abstract machine, part 12: code and calls.
-/
import Derived.Test.YtfooolbjhhfbiaaDoorZamExec
import Derived.LoopN
namespace Go.Am
open Go.RowKit (Below)

inductive AExit where
  | normal
  | exit (id : Nat)
  | ret
  | panic (ch : List PanicEntry)

abbrev RegFn := Array Oper → Bool → Env → Heap → Option SRes

/-- Code; the number bounds the depth (a loop's rounds count). -/
def exec (G : Nat) (reg : RegFn) : Nat → Code → Env → Heap → Option (AExit × Env × Heap)
  | 0, _, _, _ => none
  | k + 1, c, env, h => match c with
    | .skip => some (.normal, env, h)
    | .region _ ops draw => match reg ops draw env h with
      | some (.ok e h') => some (.normal, e, h')
      | some (.panic ch h') => some (.panic ch, env, h')
      | none => none
    | .seq a b => match exec G reg k a env h with
      | some (.normal, e, h') => exec G reg k b e h'
      | r => r
    | .cond c a b => match evalA G env c with
      | some (.bool true) => exec G reg k a env h
      | some (.bool false) => exec G reg k b env h
      | _ => none
    | .block id b => match exec G reg k b env h with
      | some (.exit id', e, h') => if id' = id then some (.normal, e, h') else some (.exit id', e, h')
      | r => r
    | .loop b => match exec G reg k b env h with
      | some (.normal, e, h') => exec G reg k (.loop b) e h'
      | r => r
    | .exit id => some (.exit id, env, h)
    | .ret => some (.ret, env, h)
    | _ => none

/-- What code comes to, beside ours. -/
def Post (G B : Nat) (w0 : World) (n : Nat) (ρ : Ren) (h : Heap) (ds : List Deferred) (r : AExit × Env × Heap) (e : Exit) (a' : Act) (w' : World) : Prop :=
  a'.defers = ds ∧ ∃ ρ', Ext ρ h ρ' r.2.2 ∧ Rel G B w0 ρ' r.2.2 w' ∧ match r.1, e with
    | .normal, .normal => FrameRel ρ' n r.2.1 a'
    | .exit id, .exit id' => id' = id ∧ FrameRel ρ' n r.2.1 a'
    | .ret, .ret => FrameRel ρ' n r.2.1 a'
    | .panic ch, .panic ch' => ChRel ρ' ch ch'
    | _, _ => False

/-- What is asked of the regions. -/
def SoundReg (P : Program) (G B : Nat) (w0 : World) (n : Nat) (reg : RegFn) : Prop :=
  ∀ ops draw env h r, reg ops draw env h = some r → ∀ id ρ w a, Rel G B w0 ρ h w → FrameRel ρ n env a →
    (Code.region id ops draw).wp P (fun e a' w' => a'.defers = a.defers ∧ ∃ ρ', match r, e with
      | .ok env' h', .normal => Ext ρ h ρ' h' ∧ Rel G B w0 ρ' h' w' ∧ FrameRel ρ' n env' a'
      | .panic ch h', .panic ch' => Ext ρ h ρ' h' ∧ Rel G B w0 ρ' h' w' ∧ ChRel ρ' ch ch'
      | _, _ => False) a w

section
variable {G B : Nat} {w0 : World} {P : Program} {n : Nat}

theorem Post.later {ρ ρ1 : Ren} {h h1 : Heap} {ds : List Deferred} {r : AExit × Env × Heap} {e : Exit} {a' : Act} {w' : World} (x : Ext ρ h ρ1 h1) (p : Post G B w0 n ρ1 h1 ds r e a' w') : Post G B w0 n ρ h ds r e a' w' := by
  obtain ⟨hd, ρ', hx, rest⟩ := p
  exact ⟨hd, ρ', x.trans hx, rest⟩

theorem rounds_mono {c : Code} {Q Q' : Exit → Act → World → Prop} (hq : ∀ e a w, Q e a w → Q' e a w) : ∀ (m : Nat) (a : Act) (w : World), Code.rounds P c Q m a w → Code.rounds P c Q' m a w
  | 0, _, _, h => h
  | m + 1, a, w, h => by
    rw [rounds_succ] at h ⊢
    refine wp_mono h fun e a w he => ?_
    cases e <;> first | exact rounds_mono hq m _ _ he | exact hq _ _ _ he

theorem exec_mono {reg : RegFn} : ∀ (m : Nat) (c : Code) (env : Env) (h : Heap) (r : AExit × Env × Heap), exec G reg m c env h = some r → exec G reg (m + 1) c env h = some r := by
  intro m
  induction m with
  | zero => intro c env h r he; simp [exec] at he
  | succ m ih =>
    intro c env h r he
    unfold exec at he ⊢
    cases c with
    | seq x y =>
      simp only at he ⊢
      split at he
      · rename_i e h' hr
        rw [ih x env h _ hr]
        exact ih y e h' r he
      · rename_i hno
        rw [ih x env h _ he]
        obtain ⟨ax, e, h'⟩ := r
        cases ax <;> first | rfl | exact (hno _ _ he).elim
    | cond c x y =>
      simp only at he ⊢
      split at he
      · exact ih x env h r he
      · exact ih y env h r he
      · cases he
    | block id b =>
      simp only at he ⊢
      split at he
      · rename_i id' e h' hr
        rw [ih b env h _ hr]
        exact he
      · rename_i hno
        rw [ih b env h _ he]
        obtain ⟨ax, e, h'⟩ := r
        cases ax <;> first | rfl | exact (hno _ _ _ he).elim
    | loop b =>
      simp only at he ⊢
      split at he
      · rename_i e h' hr
        rw [ih b env h _ hr]
        exact ih (.loop b) e h' r he
      · rename_i hno
        rw [ih b env h _ he]
        obtain ⟨ax, e, h'⟩ := r
        cases ax <;> first | rfl | exact (hno _ _ he).elim
    | _ => exact he

theorem exec_add {reg : RegFn} (d : Nat) {m : Nat} {c : Code} {env : Env} {h : Heap} {r : AExit × Env × Heap} (he : exec G reg m c env h = some r) : exec G reg (m + d) c env h = some r := by
  induction d with
  | zero => exact he
  | succ d ih => exact exec_mono _ _ _ _ _ ih

theorem exec_le {reg : RegFn} {m m' : Nat} (hm : m ≤ m') {c : Code} {env : Env} {h : Heap} {r : AExit × Env × Heap} (he : exec G reg m c env h = some r) : exec G reg m' c env h = some r := by
  have := exec_add (m' - m) he
  rwa [show m + (m' - m) = m' by omega] at this

theorem exec_sound {reg : RegFn} (SR : SoundReg P G B w0 n reg) : ∀ (k : Nat) (c : Code) (env : Env) (h : Heap) (r : AExit × Env × Heap), exec G reg k c env h = some r →
    ∀ (ρ : Ren) (w : World) (a : Act), Rel G B w0 ρ h w → FrameRel ρ n env a → c.wp P (Post G B w0 n ρ h a.defers r) a w := by
  intro k
  induction k with
  | zero => intro c env h r he; simp [exec] at he
  | succ k ih =>
    intro c env h r he ρ w a R F
    unfold exec at he
    cases c with
    | skip => cases he; exact wp_skip ⟨rfl, ρ, Ext.refl _ _, R, F⟩
    | region id ops draw =>
      simp only at he
      split at he
      · rename_i e h' hr
        cases he
        refine wp_mono (SR ops draw env h _ hr id ρ w a R F) fun e a' w' hq => ?_
        obtain ⟨hd, ρ', hq⟩ := hq
        cases e <;> first | (obtain ⟨h1, h2, h3⟩ := hq; exact ⟨hd, ρ', h1, h2, h3⟩) | exact hq.elim
      · rename_i ch h' hr
        cases he
        refine wp_mono (SR ops draw env h _ hr id ρ w a R F) fun e a' w' hq => ?_
        obtain ⟨hd, ρ', hq⟩ := hq
        cases e <;> first | (obtain ⟨h1, h2, h3⟩ := hq; exact ⟨hd, ρ', h1, h2, h3⟩) | exact hq.elim
      · cases he
    | seq x y =>
      simp only at he
      refine wp_seq ?_
      split at he
      · rename_i e h' hr
        refine wp_mono (ih x env h _ hr ρ w a R F) fun ex a' w' hq => ?_
        obtain ⟨hd, ρ', h1, h2, h3⟩ := hq
        cases ex <;> first | exact h3.elim | skip
        show Exit.then _ _ .normal a' w'
        simp only [Exit.then]
        have := ih y e h' r he ρ' w' a' h2 h3
        rw [hd] at this
        exact wp_mono this fun _ _ _ p => p.later h1
      · rename_i hno
        refine wp_mono (ih x env h _ he ρ w a R F) fun ex a' w' hq => ?_
        cases ex with
        | normal =>
          obtain ⟨hd, ρ', h1, h2, h3⟩ := hq
          obtain ⟨ax, e, h'⟩ := r
          cases ax <;> first | exact h3.elim | exact (hno _ _ he).elim
        | _ => exact hq
    | cond c x y =>
      simp only at he
      split at he
      · rename_i hc
        have hv := evalA_sound R F.rel hc
        have : a.eval c = .bool true := by generalize a.eval c = q at hv; cases hv; rfl
        exact wp_cond_true this (ih x env h r he ρ w a R F)
      · rename_i hc
        have hv := evalA_sound R F.rel hc
        have : a.eval c = .bool false := by generalize a.eval c = q at hv; cases hv; rfl
        exact wp_cond_false this (ih y env h r he ρ w a R F)
      · cases he
    | block id b =>
      simp only at he
      refine wp_block ?_
      split at he
      · rename_i id' e h' hr
        refine wp_mono (ih b env h _ hr ρ w a R F) fun ex a' w' hq => ?_
        obtain ⟨hd, ρ', h1, h2, h3⟩ := hq
        cases ex with
        | exit id2 =>
          obtain ⟨rfl, h3⟩ := h3
          simp only [Exit.inBlock]
          split at he
          · rename_i hid; cases he; rw [if_pos hid]; exact ⟨hd, ρ', h1, h2, h3⟩
          · rename_i hid; cases he; rw [if_neg hid]; exact ⟨hd, ρ', h1, h2, rfl, h3⟩
        | _ => exact h3.elim
      · rename_i hno
        refine wp_mono (ih b env h _ he ρ w a R F) fun ex a' w' hq => ?_
        cases ex with
        | exit id2 =>
          obtain ⟨hd, ρ', h1, h2, h3⟩ := hq
          obtain ⟨ax, e, h'⟩ := r
          cases ax <;> first | exact h3.elim | exact (hno _ _ _ he).elim
        | _ => exact hq
    | loop b =>
      -- so many rounds as there are
      have key : ∀ (k' : Nat), k' ≤ k + 1 → ∀ (env : Env) (h : Heap) (r : AExit × Env × Heap), exec G reg k' (.loop b) env h = some r → ∀ (ρ : Ren) (w : World) (a : Act), Rel G B w0 ρ h w → FrameRel ρ n env a →
          Code.rounds P b (Post G B w0 n ρ h a.defers r) k' a w := by
        intro k'
        induction k' with
        | zero => intro _ env h r he; simp [exec] at he
        | succ k' ihk =>
          intro hk env h r he ρ w a R F
          rw [rounds_succ]
          unfold exec at he
          simp only at he
          split at he
          · rename_i e h' hr
            have hr' := exec_le (by omega : k' ≤ k) hr
            refine wp_mono (ih b env h _ hr' ρ w a R F) fun ex a' w' hq => ?_
            obtain ⟨hd, ρ', h1, h2, h3⟩ := hq
            cases ex <;> first | exact h3.elim | skip
            have := ihk (by omega) e h' r he ρ' w' a' h2 h3
            rw [hd] at this
            exact rounds_mono (fun _ _ _ p => p.later h1) k' a' w' this
          · rename_i hno
            have hr' := exec_le (by omega : k' ≤ k) he
            refine wp_mono (ih b env h _ hr' ρ w a R F) fun ex a' w' hq => ?_
            cases ex with
            | normal =>
              obtain ⟨hd, ρ', h1, h2, h3⟩ := hq
              obtain ⟨ax, e, h'⟩ := r
              cases ax <;> first | exact h3.elim | exact (hno _ _ he).elim
            | _ => exact hq
      refine wp_loop_rounds (k + 1) (key (k + 1) (Nat.le_refl _) env h r ?_ ρ w a R F)
      unfold exec
      exact he
    | exit id => cases he; exact wp_exit ⟨rfl, ρ, Ext.refl _ _, R, rfl, F⟩
    | ret => cases he; exact wp_ret ⟨rfl, ρ, Ext.refl _ _, R, F⟩
    | rangeFunc f ps x y => cases he
    | scope b => cases he
    | label l => cases he
    | goto l => cases he
    | refuse why => cases he


/-- The result of a call, out of the frame it leaves. -/
def resultA (P : Program) (env : Env) (h : Heap) : List ResultVar → Option (List Value)
  | [] => some []
  | .tmp t :: l => match env t, resultA P env h l with
    | some v, some vs => some (v :: vs)
    | _, _ => none
  | .cell a t :: l => match env a, resultA P env h l with
    | some (.pointer (some ⟨i, off, none⟩)), some vs => (loadA P t i off h).map fun v => v :: vs
    | _, _ => none

def answer : List Value → Value
  | [v] => v
  | vs => .tuple vs.toArray

/-- A result variable, read. -/
def readRV (tmps : Array Value) : ResultVar → Sem Value
  | .tmp t => pure (tmps.getD t undef)
  | .cell x t => do loadVar t (← asAddr (tmps.getD x undef))

theorem results_eq (fn : Func) (tmps : Array Value) : results fn tmps = (do
    let vs ← fn.results.mapM (readRV tmps)
    pure (if h : vs.size = 1 then vs[0] else .tuple vs)) := by
  unfold results
  congr 1

theorem resultA_sound {ρ : Ren} {h : Heap} {w : World} (R : Rel G B w0 ρ h w) {env : Env} {a : Act} (F : EnvRel ρ env a) : ∀ {l : List ResultVar} {vs : List Value}, resultA P env h l = some vs →
    ∃ vs', (l.mapM (m := Sem) (readRV a.tmps)).run P w = .ok vs' w ∧ LRel ρ vs vs'
  | [], vs, hr => by simp [resultA] at hr; subst hr; exact ⟨[], rfl, .nil _⟩
  | .tmp t :: l, vs, hr => by
    unfold resultA at hr
    split at hr
    · rename_i v vs1 h1 h2
      cases hr
      obtain ⟨vs', h3, h4⟩ := resultA_sound R F h2
      refine ⟨a.tmps.getD t undef :: vs', ?_, .cons (F t v h1) h4⟩
      rw [List.mapM_cons]
      simp only [Sem.run_bind, readRV, Sem.run_pure, Result.andThen_ok, h3]
    · cases hr
  | .cell x t :: l, vs, hr => by
    unfold resultA at hr
    split at hr
    · rename_i i off vs1 h1 h2
      cases hl : loadA P t i off h with
      | none => simp [hl] at hr
      | some v =>
        simp [hl] at hr; subst hr
        obtain ⟨vs', h3, h4⟩ := resultA_sound R F h2
        have hp := F x _ h1
        generalize hq : a.tmps.getD x undef = q at hp
        cases hp with
        | ptr hi =>
          obtain ⟨v', h5, h6⟩ := loadA_sound (P := P) R hi hl
          refine ⟨v' :: vs', ?_, .cons h6 h4⟩
          have h7 : (readRV a.tmps (.cell x t)).run P w = .ok v' w := by simp only [readRV, Sem.run_bind, hq, asAddr, Sem.run_pure, Result.andThen_ok, h5]
          rw [List.mapM_cons]
          simp only [Sem.run_bind, h7, Result.andThen_ok, h3, Sem.run_pure]
    · cases hr

theorem results_sound {ρ : Ren} {h : Heap} {w : World} (R : Rel G B w0 ρ h w) {env : Env} {a : Act} (F : EnvRel ρ env a) {fn : Func} {vs : List Value} (hr : resultA P env h fn.results.toList = some vs) :
    ∃ v', (results fn a.tmps).run P w = .ok v' w ∧ VRel ρ (answer vs) v' := by
  obtain ⟨vs', h1, h2⟩ := resultA_sound (P := P) R F hr
  have hm : (results fn a.tmps).run P w = .ok (if hh : vs'.toArray.size = 1 then vs'.toArray[0] else .tuple vs'.toArray) w := by
    rw [results_eq, Array.mapM_eq_mapM_toList]
    simp only [Sem.run_bind, Sem.run_map, h1, Result.andThen_ok, Sem.run_pure]
  refine ⟨_, hm, ?_⟩
  cases vs with
  | nil => obtain rfl := h2.nil_inv; exact VRel.tuple_iff.2 (.nil _)
  | cons v l =>
    obtain ⟨v', l', rfl, h3, h4⟩ := h2.cons_inv
    cases l with
    | nil => obtain rfl := h4.nil_inv; simpa [answer] using h3
    | cons v2 l2 =>
      obtain ⟨v2', l2', rfl, h5, h6⟩ := h4.cons_inv
      simp only [answer, List.size_toArray, List.length_cons]
      rw [dif_neg (by omega)]
      exact VRel.tuple_iff.2 (.cons h3 (.cons h5 h6))

def argEnv (args : List Value) : Env := fun t => args[t]?

/-- A call of a function of the program, its regions given. -/
def callBody (P : Program) (G : Nat) (reg : Nat → RegFn) (k : Nat) (f : FuncId) (args : List Value) (h : Heap) : Option ARes :=
  match P.funcs[f]? with
  | none => none
  | some fn => match fn.body with
    | none => none
    | some c =>
      if args.length ≤ fn.ntmps then
        match exec G (reg fn.ntmps) k c (argEnv args) h with
        | some (.normal, env, h') => (resultA P env h' fn.results.toList).map fun vs => .ret (answer vs) h'
        | some (.ret, env, h') => (resultA P env h' fn.results.toList).map fun vs => .ret (answer vs) h'
        | some (.panic ch, _, h') => some (.panic ch h')
        | _ => none
      else none

theorem callBody_sound {reg : Nat → RegFn} (SR : ∀ n, SoundReg P G B w0 n (reg n)) (k : Nat) : SoundC P G B w0 (callBody P G reg k) := by
  intro f args h r hc ρ w args' R hargs
  unfold callBody at hc
  split at hc
  · cases hc
  rename_i fn hf
  split at hc
  · cases hc
  rename_i c hb
  split at hc
  case isFalse => cases hc
  rename_i hle
  have hsz : args'.size = args.length := by have := hargs.1; simp at this; omega
  refine calls_of_wp hf hb ?_
  have F : FrameRel ρ fn.ntmps (argEnv args) { tmps := args' ++ Array.replicate (fn.ntmps - args'.size) undef, defers := [] } := by
    refine ⟨by simp; omega, fun t v ht => ?_, fun t v ht => ?_⟩
    · have : t < args.length := by
        rcases Nat.lt_or_ge t args.length with h | h
        · exact h
        · simp only [argEnv] at ht; rw [List.getElem?_eq_none h] at ht; cases ht
      omega
    · obtain ⟨v', h1, h2⟩ := hargs.get ht
      have hlt : t < args'.size := by
        rcases Nat.lt_or_ge t args'.size with h | h
        · exact h
        · rw [List.getElem?_eq_none (by simpa using h)] at h1; cases h1
      simp only
      rw [Array.getD_eq_getD_getElem?, Array.getElem?_append_left hlt]
      have : args'[t]? = some v' := by simpa using h1
      rw [this]
      exact h2
  split at hc
  · rename_i env h' he
    cases hr : resultA P env h' fn.results.toList with
    | none => simp [hr] at hc
    | some vs =>
      simp [hr] at hc; subst hc
      refine wp_mono (exec_sound (SR fn.ntmps) k c (argEnv args) h _ he ρ w _ R F) fun e a' w' hq => ?_
      obtain ⟨hd, ρ', h1, h2, h3⟩ := hq
      cases e <;> first | exact h3.elim | skip
      obtain ⟨v', h4, h5⟩ := results_sound h2 h3.rel hr
      exact ⟨hd, v', h4, ρ', h1, h2, h5⟩
  · rename_i env h' he
    cases hr : resultA P env h' fn.results.toList with
    | none => simp [hr] at hc
    | some vs =>
      simp [hr] at hc; subst hc
      refine wp_mono (exec_sound (SR fn.ntmps) k c (argEnv args) h _ he ρ w _ R F) fun e a' w' hq => ?_
      obtain ⟨hd, ρ', h1, h2, h3⟩ := hq
      cases e <;> first | exact h3.elim | skip
      obtain ⟨v', h4, h5⟩ := results_sound h2 h3.rel hr
      exact ⟨hd, v', h4, ρ', h1, h2, h5⟩
  · rename_i ch env h' he
    cases hc
    refine wp_mono (exec_sound (SR fn.ntmps) k c (argEnv args) h _ he ρ w _ R F) fun e a' w' hq => ?_
    obtain ⟨hd, ρ', h1, h2, h3⟩ := hq
    cases e <;> first | exact h3.elim | skip
    exact ⟨hd, ρ', h1, h2, h3⟩
  · cases hc

end
end Go.Am
