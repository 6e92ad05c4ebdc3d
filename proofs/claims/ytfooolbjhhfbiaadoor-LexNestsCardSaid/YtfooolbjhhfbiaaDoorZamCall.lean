/-
  The abstract machine, part 17: calls in calls; more depth changes nothing that came out.
-/
import Derived.Test.YtfooolbjhhfbiaaDoorZamDraw3
namespace Go.Am
open Go.RowKit (Below)

noncomputable def regA (P : Program) (G : Nat) (C : CallFn) (n : Nat) : RegFn := fun ops draw env h =>
  if draw then drawA P G C n ops env h else execOps P G C n ops (List.range ops.size) env h

/-- A function that is taken by what it is known to come to. -/
abbrev ExtFn := FuncId → Option (CallFn → List Value → Heap → Option ARes)

noncomputable def callN (P : Program) (G : Nat) (X : ExtFn) : Nat → CallFn
  | 0 => fun _ _ _ => none
  | k + 1 => fun f args h => match X f with
    | some o => o (callN P G X k) args h
    | none => callBody P G (regA P G (callN P G X k)) k f args h

def CallFn.le (C C' : CallFn) : Prop := ∀ f args h r, C f args h = some r → C' f args h = some r

/-- What is asked of the functions that are taken so. -/
structure ExtOk (P : Program) (G B : Nat) (w0 : World) (X : ExtFn) : Prop where
  sound : ∀ f o, X f = some o → ∀ C, SoundC P G B w0 C → ∀ args h r, o C args h = some r → ∀ ρ w args', Rel G B w0 ρ h w → LRel ρ args args'.toList → Calls P f args' w (EndRel G B w0 ρ h r)

structure ExtMono (X : ExtFn) : Prop where
  mono : ∀ f o, X f = some o → ∀ C C', CallFn.le C C' → ∀ args h r, o C args h = some r → o C' args h = some r

section
variable {G B : Nat} {w0 : World} {P : Program} {n : Nat}

theorem regA_sound {C : CallFn} (SC : SoundC P G B w0 C) (hm : P.follows .mixedOrders = true) (n : Nat) : SoundReg P G B w0 n (regA P G C n) := by
  intro ops draw env h r hr id ρ w a R F
  unfold regA at hr
  split at hr
  · rename_i hd
    subst hd
    refine drawA_sound SC hm hr R F ⟨?_, ?_⟩
    · intro env' h' e ρ' a' w' h1 h2 h3 h4
      subst e
      exact ⟨h4, ρ', h1, h2, h3⟩
    · intro ch h' e ρ' ch' a' w' h1 h2 h3 h4
      subst e
      exact ⟨h4, ρ', h1, h2, h3⟩
  · rename_i hd
    have : draw = false := by simpa using hd
    subst this
    refine wp_region ?_
    refine execOps_sound SC _ R F hr ?_ ?_
    · intro env' h' e ρ' a' w' h1 h2 h3 h4
      subst e
      exact ⟨h4, ρ', h1, h2, h3⟩
    · intro ch h' e ρ' ch' a' w' h1 h2 h3 h4
      subst e
      exact ⟨h4, ρ', h1, h2, h3⟩

theorem callN_sound {X : ExtFn} (hX : ExtOk P G B w0 X) (hm : P.follows .mixedOrders = true) : ∀ k, SoundC P G B w0 (callN P G X k)
  | 0 => fun f args h r hc => by simp [callN] at hc
  | k + 1 => by
    intro f args h r hc ρ w args' R hargs
    have SC := callN_sound hX hm k
    simp only [callN] at hc
    split at hc
    · rename_i o ho
      exact hX.sound f o ho _ SC args h r hc ρ w args' R hargs
    · exact callBody_sound (fun n => regA_sound SC hm n) k f args h r hc ρ w args' R hargs

theorem stepA_le {C C' : CallFn} (hl : CallFn.le C C') {ops : Array Oper} {o : Oper} {env : Env} {h : Heap} {r : SRes} (hs : stepA P G C n ops o env h = some r) : stepA P G C' n ops o env h = some r := by
  unfold stepA at hs ⊢
  split at hs
  · cases hs
  · exact hs
  · split at hs
    · cases hs
    · exact hs
    · exact hs
    · rename_i f args ho
      split at hs
      · cases hs
      · rename_i v h' hc
        rw [hl _ _ _ _ hc]; exact hs
      · rename_i ch h' hc
        rw [hl _ _ _ _ hc]; exact hs
    · exact hs

theorem execOps_le {C C' : CallFn} (hl : CallFn.le C C') {ops : Array Oper} : ∀ (l : List Nat) {env : Env} {h : Heap} {r : SRes}, execOps P G C n ops l env h = some r → execOps P G C' n ops l env h = some r
  | [], env, h, r, he => he
  | i :: rest, env, h, r, he => by
    unfold execOps at he ⊢
    split at he
    · exact execOps_le hl rest he
    · rename_i o ho
      split at he
      · rename_i env' h' hs
        rw [stepA_le hl hs]
        exact execOps_le hl rest he
      · rename_i hno
        cases hq : stepA P G C n ops o env h with
        | none => rw [hq] at he; cases he
        | some q =>
          rw [hq] at he
          rw [stepA_le hl hq]
          cases q with
          | ok e h' => exact (hno _ _ hq).elim
          | panic ch h' => exact he

theorem runPi_le {C C' : CallFn} (hl : CallFn.le C C') {ops : Array Oper} : ∀ (l : List PItem) {pend : List (PRec × Bool)} {env : Env} {h : Heap} {r : SRes}, runPi P G C n ops l pend env h = some r → runPi P G C' n ops l pend env h = some r
  | [], pend, env, h, r, he => he
  | x :: rest, pend, env, h, r, he => by
    simp only [runPi] at he ⊢
    split at he
    · cases he
    · rename_i o ho
      split at he
      · split at he
        · rename_i hc
          rw [if_pos hc]
          split at he
          · rename_i env' h' hs
            rw [stepA_le hl hs]
            exact runPi_le hl rest he
          · rename_i hno
            cases hq : stepA P G C n ops o env h with
            | none => rw [hq] at he; cases he
            | some q =>
              rw [hq] at he
              rw [stepA_le hl hq]
              cases q with
              | ok e h' => exact (hno _ _ hq).elim
              | panic ch h' => exact he
        · cases he
      · split at he
        · exact runPi_le hl rest he
        · cases he
      · split at he
        · exact runPi_le hl rest he
        · cases he
      · split at he
        · exact runPi_le hl rest he
        · cases he

def RegLe (r1 r2 : RegFn) : Prop := ∀ ops draw env h r, r1 ops draw env h = some r → r2 ops draw env h = some r

theorem regA_le {C C' : CallFn} (hl : CallFn.le C C') (n : Nat) : RegLe (regA P G C n) (regA P G C' n) := by
  intro ops draw env h r hr
  unfold regA at hr ⊢
  split at hr
  · rename_i hd
    rw [if_pos hd]
    unfold drawA at hr ⊢
    split at hr
    · rename_i l hpl
      simp only [runPi_le hl l hr]
    · cases hr
  · rename_i hd
    rw [if_neg hd]
    exact execOps_le hl _ hr

theorem exec_reg_le {r1 r2 : RegFn} (hl : RegLe r1 r2) : ∀ (k : Nat) (c : Code) (env : Env) (h : Heap) (r : AExit × Env × Heap), exec G r1 k c env h = some r → exec G r2 k c env h = some r := by
  intro k
  induction k with
  | zero => intro c env h r he; simp [exec] at he
  | succ k ih =>
    intro c env h r he
    unfold exec at he ⊢
    cases c with
    | region id ops draw =>
      simp only at he ⊢
      split at he
      · rename_i e h' hr; rw [hl _ _ _ _ _ hr]; exact he
      · rename_i ch h' hr; rw [hl _ _ _ _ _ hr]; exact he
      · cases he
    | seq x y =>
      simp only at he ⊢
      split at he
      · rename_i e h' hr
        rw [ih x env h _ hr]
        exact ih y e h' r he
      · rename_i hno
        rw [ih x env h _ he]
        obtain ⟨ax, e, h'⟩ := r
        cases ax <;> first | rfl | exact (hno _ _ he).elim
    | cond c x y =>
      simp only at he ⊢
      split at he
      · exact ih x env h r he
      · exact ih y env h r he
      · cases he
    | block id b =>
      simp only at he ⊢
      split at he
      · rename_i id' e h' hr
        rw [ih b env h _ hr]
        exact he
      · rename_i hno
        rw [ih b env h _ he]
        obtain ⟨ax, e, h'⟩ := r
        cases ax <;> first | rfl | exact (hno _ _ _ he).elim
    | loop b =>
      simp only at he ⊢
      split at he
      · rename_i e h' hr
        rw [ih b env h _ hr]
        exact ih (.loop b) e h' r he
      · rename_i hno
        rw [ih b env h _ he]
        obtain ⟨ax, e, h'⟩ := r
        cases ax <;> first | rfl | exact (hno _ _ he).elim
    | _ => exact he

theorem callBody_le {r1 r2 : Nat → RegFn} (hl : ∀ n, RegLe (r1 n) (r2 n)) {k k' : Nat} (hk : k ≤ k') {f : FuncId} {args : List Value} {h : Heap} {r : ARes} (hc : callBody P G r1 k f args h = some r) : callBody P G r2 k' f args h = some r := by
  unfold callBody at hc ⊢
  split at hc
  · cases hc
  · rename_i fn hf
    split at hc
    · cases hc
    · rename_i c hb
      split at hc
      · rename_i hle
        rw [if_pos hle]
        cases hq : exec G (r1 fn.ntmps) k c (argEnv args) h with
        | none => rw [hq] at hc; cases hc
        | some q =>
          rw [hq] at hc
          have := exec_le hk (exec_reg_le (hl fn.ntmps) k c _ _ _ hq)
          rw [this]
          exact hc
      · cases hc

theorem callN_step {X : ExtFn} (hX : ExtMono X) : ∀ k, CallFn.le (callN P G X k) (callN P G X (k + 1))
  | 0 => fun f args h r hc => by simp [callN] at hc
  | k + 1 => by
    intro f args h r hc
    have ih := callN_step hX k
    simp only [callN] at hc
    have hn : callN P G X (k + 1 + 1) f args h = (match X f with
      | some o => o (callN P G X (k + 1)) args h
      | none => callBody P G (regA P G (callN P G X (k + 1))) (k + 1) f args h) := rfl
    rw [hn]
    split at hc
    · rename_i o ho
      exact hX.mono f o ho _ _ ih args h r hc
    · rename_i ho
      exact callBody_le (fun n => regA_le ih n) (Nat.le_succ k) hc

theorem callN_le {X : ExtFn} (hX : ExtMono X) {k k' : Nat} (hk : k ≤ k') : CallFn.le (callN P G X k) (callN P G X k') := by
  intro f args h r hc
  induction hk with
  | refl => exact hc
  | step _ ih => exact callN_step hX _ f args h r ih

/-- A call comes to this, with depth enough. -/
def CallsA (P : Program) (G : Nat) (X : ExtFn) (f : FuncId) (args : List Value) (h : Heap) (r : ARes) : Prop := ∃ k, callN P G X k f args h = some r

end
end Go.Am
