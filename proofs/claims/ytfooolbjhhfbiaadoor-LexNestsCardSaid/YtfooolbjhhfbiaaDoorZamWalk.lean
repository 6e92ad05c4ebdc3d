/-
  The abstract machine, part 19: the walk: rules that take code and its regions apart, one operation at a time.
-/
import Derived.Test.YtfooolbjhhfbiaaDoorZamWp
namespace Go.Am
open Go.RowKit (Below)

section
variable (P : Program) (G : Nat) (X : ExtFn) (n : Nat)

/-- What is to be shown of code, by the four ways in which it may end. -/
def WC (c : Code) (env : Env) (h : Heap) (N : Env → Heap → Prop) (E : Nat → Env → Heap → Prop) (R : Env → Heap → Prop) (F : List PanicEntry → Heap → Prop) : Prop :=
  WCode P G X n c env h fun x e h => match x with
    | .normal => N e h
    | .exit i => E i e h
    | .ret => R e h
    | .panic ch => F ch h

def WR (ops : Array Oper) (l : List Oper) (env : Env) (h : Heap) (N : Env → Heap → Prop) (F : List PanicEntry → Heap → Prop) : Prop :=
  WOps P G X n ops l env h fun r => match r with
    | .ok e h => N e h
    | .panic ch h => F ch h

end

section
variable {P : Program} {G : Nat} {X : ExtFn} {n : Nat} {N : Env → Heap → Prop} {E : Nat → Env → Heap → Prop} {R : Env → Heap → Prop} {F : List PanicEntry → Heap → Prop} {env : Env} {h : Heap}

theorem WC.seq (hX : ExtMono X) {a b : Code} (hw : WC P G X n a env h (fun e h => WC P G X n b e h N E R F) E R F) : WC P G X n (.seq a b) env h N E R F := by
  refine WCode.seq hX (WCode.mono hw fun x e h' hq => ?_)
  cases x <;> exact hq

theorem WC.cond (hX : ExtMono X) {c : Operand} {a b : Code} {t : Bool} (hc : evalA G env c = some (.bool t)) (hw : WC P G X n (if t then a else b) env h N E R F) : WC P G X n (.cond c a b) env h N E R F :=
  WCode.cond hX hc hw

theorem WC.condT (hX : ExtMono X) {c : Operand} {a b : Code} (hc : evalA G env c = some (.bool true)) (hw : WC P G X n a env h N E R F) : WC P G X n (.cond c a b) env h N E R F :=
  WCode.cond hX hc hw
theorem WC.condF (hX : ExtMono X) {c : Operand} {a b : Code} (hc : evalA G env c = some (.bool false)) (hw : WC P G X n b env h N E R F) : WC P G X n (.cond c a b) env h N E R F :=
  WCode.cond hX hc hw
theorem WC.condB (hX : ExtMono X) {c : Operand} {a b : Code} {t : Bool} (hc : evalA G env c = some (.bool t)) (h1 : t = true → WC P G X n a env h N E R F) (h2 : t = false → WC P G X n b env h N E R F) : WC P G X n (.cond c a b) env h N E R F := by
  cases t
  · exact WC.condF hX hc (h2 rfl)
  · exact WC.condT hX hc (h1 rfl)

theorem WC.block (hX : ExtMono X) {id : Nat} {b : Code} (hw : WC P G X n b env h N (fun i e h => if i = id then N e h else E i e h) R F) : WC P G X n (.block id b) env h N E R F := by
  refine WCode.block hX (WCode.mono hw fun x e h' hq => ?_)
  cases x with
  | exit i =>
    simp only at hq ⊢
    split
    · rename_i hi; rw [if_pos hi] at hq; exact hq
    · rename_i hi; rw [if_neg hi] at hq; exact hq
  | _ => exact hq

theorem exit_here {i : Nat} {a b : Prop} (h : a) : if i = i then a else b := by rw [if_pos rfl]; exact h
theorem exit_up {i j : Nat} (hne : (i == j) = false) {a b : Prop} (h : b) : if i = j then a else b := by
  rw [if_neg (by intro e; subst e; simp at hne)]; exact h

theorem WC.loopInv (hX : ExtMono X) {α : Type} {b : Code} (m : α → Nat) (Inv : α → Env → Heap → Prop) (a0 : α) (h0 : Inv a0 env h)
    (step : ∀ a env h, (∀ a' env' h', m a' < m a → Inv a' env' h' → WC P G X n (.loop b) env' h' N E R F) → Inv a env h →
      WC P G X n b env h (fun env' h' => WC P G X n (.loop b) env' h' N E R F) E R F) : WC P G X n (.loop b) env h N E R F := by
  suffices ∀ k a env h, m a < k → Inv a env h → WC P G X n (.loop b) env h N E R F from this _ a0 env h (Nat.lt_succ_self _) h0
  intro k
  induction k with
  | zero => intro a env h hm; omega
  | succ k ih =>
    intro a env h hm hi
    refine WCode.loop hX (WCode.mono (step a env h (fun a' env' h' hl hi' => ih a' env' h' (by omega) hi') hi) fun x e h' hq => ?_)
    cases x <;> exact hq

theorem WC.skip (hq : N env h) : WC P G X n .skip env h N E R F := WCode.skip hq
theorem WC.exit {id : Nat} (hq : E id env h) : WC P G X n (.exit id) env h N E R F := WCode.exit hq
theorem WC.ret (hq : R env h) : WC P G X n .ret env h N E R F := WCode.ret hq

theorem WC.region (hX : ExtMono X) {id : Nat} {ops : Array Oper} (hw : WR P G X n ops ops.toList env h N F) : WC P G X n (.region id ops false) env h N E R F := by
  refine WCode.region hX ?_
  have : ∀ (l : List Oper) (env : Env) (h : Heap) (Q Q' : SRes → Prop), (∀ r, Q r → Q' r) → WOps P G X n ops l env h Q → WOps P G X n ops l env h Q' := by
    intro l
    induction l with
    | nil => intro env h Q Q' hq hw; exact hq _ hw
    | cons o l ih =>
      intro env h Q Q' hq hw
      have mono : ∀ (K K' : SRes → Prop), (∀ r, K r → K' r) → WStep P G X n ops o env h K → WStep P G X n ops o env h K' := by
        intro K K' hk hs
        have put : ∀ (dst : Option Tmp) (v : Value) (env : Env) (A A' : Env → Prop), (∀ e, A e → A' e) → WPut n dst v env A → WPut n dst v env A' := by
          intro dst v env A A' ha hp
          unfold WPut at hp ⊢
          cases dst with
          | none => exact ha _ hp
          | some d => exact ⟨hp.1, ha _ hp.2⟩
        unfold WStep at hs ⊢
        cases hwant : wantedA ops env o with
        | none => rw [hwant] at hs; exact hs.elim
        | some b =>
          rw [hwant] at hs
          cases b with
          | false => exact put _ _ _ _ _ (fun e => hk _) hs
          | true =>
            cases ho : opA P G env o h with
            | none => simp only [ho] at hs
            | some a =>
              simp only [ho] at hs ⊢
              cases a with
              | val v h' => exact put _ _ _ _ _ (fun e => hk _) hs
              | skip h' => exact put _ _ _ _ _ (fun e => hk _) hs
              | enter f args =>
                obtain ⟨k, r, hr, hq⟩ := WCall.out hs
                refine WCall.intro ⟨k, r, hr, ?_⟩
                cases r with
                | ret v h' => exact put _ _ _ _ _ (fun e => hk _) hq
                | panic ch h' => exact hk _ hq
              | panic v => exact hk _ hs
      refine mono _ _ (fun r hr => ?_) hw
      cases r with
      | ok e h' => exact ih _ _ _ _ hq hr
      | panic ch h' => exact hq _ hr
  refine this _ _ _ _ _ (fun r hr => ?_) hw
  cases r <;> exact hr

theorem WR.nil {ops : Array Oper} (hq : N env h) : WR P G X n ops [] env h N F := hq

theorem WR.val {ops : Array Oper} {o : Oper} {l : List Oper} {d : Nat} {v : Value} {h' : Heap} (hg : wantedA ops env o = some true) (hd : o.dst = some d) (hn : Nat.blt d n = true) (ho : opA P G env o h = some (.val v h'))
    (hk : WR P G X n ops l (upd env d v) h' N F) : WR P G X n ops (o :: l) env h N F := by
  unfold WR WOps WStep
  rw [hg]
  simp only [ho, hd, WPut]
  exact ⟨by simpa [Nat.blt_eq] using hn, hk⟩

/-- An answer of yes or no: taken apart at once. -/
theorem WR.ask {ops : Array Oper} {o : Oper} {l : List Oper} {d : Nat} {b : Bool} {h' : Heap} (hg : wantedA ops env o = some true) (hd : o.dst = some d) (hn : Nat.blt d n = true) (ho : opA P G env o h = some (.val (.bool b) h'))
    (h1 : b = true → WR P G X n ops l (upd env d (.bool true)) h' N F) (h2 : b = false → WR P G X n ops l (upd env d (.bool false)) h' N F) : WR P G X n ops (o :: l) env h N F := by
  refine WR.val hg hd hn ho ?_
  cases b
  · exact h2 rfl
  · exact h1 rfl

theorem WR.askP {ops : Array Oper} {o : Oper} {l : List Oper} {d : Nat} {p : Prop} [Decidable p] {h' : Heap} (hg : wantedA ops env o = some true) (hd : o.dst = some d) (hn : Nat.blt d n = true) (ho : opA P G env o h = some (.val (.bool (decide p)) h'))
    (h1 : p → WR P G X n ops l (upd env d (.bool true)) h' N F) (h2 : ¬p → WR P G X n ops l (upd env d (.bool false)) h' N F) : WR P G X n ops (o :: l) env h N F := by
  refine WR.ask hg hd hn ho (fun hb => h1 (by simpa using hb)) (fun hb => h2 (by simpa using hb))

theorem WR.unwanted {ops : Array Oper} {o : Oper} {l : List Oper} {d : Nat} (hg : wantedA ops env o = some false) (hd : o.dst = some d) (hn : Nat.blt d n = true)
    (hk : WR P G X n ops l (upd env d undef) h N F) : WR P G X n ops (o :: l) env h N F := by
  unfold WR WOps WStep
  rw [hg]
  simp only [hd, WPut]
  exact ⟨by simpa [Nat.blt_eq] using hn, hk⟩

theorem WR.unwanted' {ops : Array Oper} {o : Oper} {l : List Oper} (hg : wantedA ops env o = some false) (hd : o.dst = none)
    (hk : WR P G X n ops l env h N F) : WR P G X n ops (o :: l) env h N F := by
  unfold WR WOps WStep
  rw [hg]
  simp only [hd, WPut]
  exact hk

theorem WR.store {ops : Array Oper} {o : Oper} {l : List Oper} {h' : Heap} (hg : wantedA ops env o = some true) (hd : o.dst = none) (ho : opA P G env o h = some (.skip h'))
    (hk : WR P G X n ops l env h' N F) : WR P G X n ops (o :: l) env h N F := by
  unfold WR WOps WStep
  rw [hg]
  simp only [ho, hd, WPut]
  exact hk

theorem WR.call {ops : Array Oper} {o : Oper} {l : List Oper} {d : Nat} {f : FuncId} {args : List Value} (hg : wantedA ops env o = some true) (hd : o.dst = some d) (hn : Nat.blt d n = true) (ho : opA P G env o h = some (.enter f args))
    (hk : WCall P G X f args h fun r => match r with | .ret v h' => WR P G X n ops l (upd env d v) h' N F | .panic ch h' => F ch h') : WR P G X n ops (o :: l) env h N F := by
  unfold WR WOps WStep
  rw [hg]
  simp only [ho, hd, WPut]
  refine WCall.mono hk fun r hr => ?_
  cases r with
  | ret v h' => exact ⟨by simpa [Nat.blt_eq] using hn, hr⟩
  | panic ch h' => exact hr

/-- What a body owes to its call. -/
theorem WCall.walk (hX : ExtMono X) {f : FuncId} {fn : Func} {c : Code} {args : List Value} {Q : ARes → Prop} (hf : P.funcs[f]? = some fn) (hb : fn.body = some c) (hx : X f = none) (hn : fn.ntmps = n) (hl : Nat.ble args.length n = true)
    (hw : WC P G X n c (argEnv args) h (fun e h => ∃ vs, resultA P e h fn.results.toList = some vs ∧ Q (.ret (answer vs) h)) (fun _ _ _ => False)
      (fun e h => ∃ vs, resultA P e h fn.results.toList = some vs ∧ Q (.ret (answer vs) h)) fun ch h => Q (.panic ch h)) : WCall P G X f args h Q := by
  subst hn
  refine WCall.body hX hf hb hx (by simpa [Nat.ble_eq] using hl) (WCode.mono hw fun x e h' hq => ?_)
  unfold Ends
  cases x with
  | normal => obtain ⟨vs, hv, hq⟩ := hq; simp only [hv]; exact hq
  | ret => obtain ⟨vs, hv, hq⟩ := hq; simp only [hv]; exact hq
  | exit i => exact hq
  | panic ch => exact hq

/- The operations. -/

theorem opA_move {d t p a g} {x : Operand} {v : Value} (hx : evalA G env x = some v) : opA P G env ⟨d, .move x, t, p, a, g⟩ h = some (.val v h) := by simp only [opA, hx, Option.map_some]
theorem opA_assign {d t p a g} {x : Operand} {v : Value} (hx : evalA G env x = some v) : opA P G env ⟨d, .assign x, t, p, a, g⟩ h = some (.val v h) := by simp only [opA, hx, Option.map_some]
theorem opA_pickT {d t p a g} {c x y : Operand} {v : Value} (hc : evalA G env c = some (.bool true)) (hx : evalA G env x = some v) : opA P G env ⟨d, .pick c x y, t, p, a, g⟩ h = some (.val v h) := by simp only [opA, hc, hx, Option.map_some]
theorem opA_pickF {d t p a g} {c x y : Operand} {v : Value} (hc : evalA G env c = some (.bool false)) (hy : evalA G env y = some v) : opA P G env ⟨d, .pick c x y, t, p, a, g⟩ h = some (.val v h) := by simp only [opA, hc, hy, Option.map_some]

theorem opA_int {d t p a g} {op : BinOp} {ty : TypeId} {x y : Operand} {c} {k : IntKind} {i j : Int} {v : Value} (hx : evalA G env x = some (.int k i)) (hy : evalA G env y = some (.int k j)) (hv : binA P op ty (.int k i) (.int k j) = some v) :
    opA P G env ⟨d, .binOp op ty x y c, t, p, a, g⟩ h = some (.val v h) := by
  have : eqAsk P op ty x y (.int k i) (.int k j) = true := by unfold eqAsk eqAskBoth; simp
  simp only [opA, hx, hy, this, hv, Option.map_some, if_true]

theorem opA_eqI {d t p a g} {ty : TypeId} {x y : Operand} {c} {k : IntKind} {i j : Int} (hx : evalA G env x = some (.int k i)) (hy : evalA G env y = some (.int k j)) : opA P G env ⟨d, .binOp .eql ty x y c, t, p, a, g⟩ h = some (.val (.bool (decide (i = j))) h) :=
  opA_int hx hy (by simp [binA, intBin]; rfl)
theorem opA_neI {d t p a g} {ty : TypeId} {x y : Operand} {c} {k : IntKind} {i j : Int} (hx : evalA G env x = some (.int k i)) (hy : evalA G env y = some (.int k j)) : opA P G env ⟨d, .binOp .neq ty x y c, t, p, a, g⟩ h = some (.val (.bool (decide (i ≠ j))) h) :=
  opA_int hx hy (by simp only [binA, intBin, if_true]; congr 2; by_cases e : i = j <;> simp [e])
theorem opA_ltI {d t p a g} {ty : TypeId} {x y : Operand} {c} {k : IntKind} {i j : Int} (hx : evalA G env x = some (.int k i)) (hy : evalA G env y = some (.int k j)) : opA P G env ⟨d, .binOp .lss ty x y c, t, p, a, g⟩ h = some (.val (.bool (decide (i < j))) h) :=
  opA_int hx hy (by simp [binA, intBin])
theorem opA_leI {d t p a g} {ty : TypeId} {x y : Operand} {c} {k : IntKind} {i j : Int} (hx : evalA G env x = some (.int k i)) (hy : evalA G env y = some (.int k j)) : opA P G env ⟨d, .binOp .leq ty x y c, t, p, a, g⟩ h = some (.val (.bool (decide (i ≤ j))) h) :=
  opA_int hx hy (by simp [binA, intBin])
theorem opA_gtI {d t p a g} {ty : TypeId} {x y : Operand} {c} {k : IntKind} {i j : Int} (hx : evalA G env x = some (.int k i)) (hy : evalA G env y = some (.int k j)) : opA P G env ⟨d, .binOp .gtr ty x y c, t, p, a, g⟩ h = some (.val (.bool (decide (j < i))) h) :=
  opA_int hx hy (by simp [binA, intBin])
theorem opA_geI {d t p a g} {ty : TypeId} {x y : Operand} {c} {k : IntKind} {i j : Int} (hx : evalA G env x = some (.int k i)) (hy : evalA G env y = some (.int k j)) : opA P G env ⟨d, .binOp .geq ty x y c, t, p, a, g⟩ h = some (.val (.bool (decide (j ≤ i))) h) :=
  opA_int hx hy (by simp [binA, intBin])

theorem wrap_i64_in {n : Int} (h : -9223372036854775808 ≤ n ∧ n ≤ 9223372036854775807) : IntKind.i64.wrap n = n := by rw [IntKind.wrap_i64]; omega

theorem opA_addI {d t p a g} {ty : TypeId} {x y : Operand} {c} {i j : Int} (hx : evalA G env x = some (.int .i64 i)) (hy : evalA G env y = some (.int .i64 j)) (hr : -9223372036854775808 ≤ i + j ∧ i + j ≤ 9223372036854775807) :
    opA P G env ⟨d, .binOp .add ty x y c, t, p, a, g⟩ h = some (.val (.int .i64 (i + j)) h) := opA_int hx hy (by simp [binA, intBin, wrap_i64_in hr])
theorem opA_subI {d t p a g} {ty : TypeId} {x y : Operand} {c} {i j : Int} (hx : evalA G env x = some (.int .i64 i)) (hy : evalA G env y = some (.int .i64 j)) (hr : -9223372036854775808 ≤ i - j ∧ i - j ≤ 9223372036854775807) :
    opA P G env ⟨d, .binOp .sub ty x y c, t, p, a, g⟩ h = some (.val (.int .i64 (i - j)) h) := opA_int hx hy (by simp [binA, intBin, wrap_i64_in hr])
theorem opA_mulI {d t p a g} {ty : TypeId} {x y : Operand} {c} {i j : Int} (hx : evalA G env x = some (.int .i64 i)) (hy : evalA G env y = some (.int .i64 j)) (hr : -9223372036854775808 ≤ i * j ∧ i * j ≤ 9223372036854775807) :
    opA P G env ⟨d, .binOp .mul ty x y c, t, p, a, g⟩ h = some (.val (.int .i64 (i * j)) h) := opA_int hx hy (by simp [binA, intBin, wrap_i64_in hr])

theorem opA_str {d t p a g} {op : BinOp} {ty : TypeId} {x y : Operand} {c} {i j : ByteArray} {v : Value} (hx : evalA G env x = some (.string i)) (hy : evalA G env y = some (.string j)) (hv : strBin op i j = some v) :
    opA P G env ⟨d, .binOp op ty x y c, t, p, a, g⟩ h = some (.val v h) := by
  have : eqAsk P op ty x y (.string i) (.string j) = true := by unfold eqAsk eqAskBoth; simp
  simp only [opA, hx, hy, this, binA, hv, Option.map_some, if_true]

theorem toList_beq (i j : ByteArray) : (i.toList == j.toList) = decide (i = j) := by
  by_cases e : i = j
  · subst e; simp
  · have : i.toList ≠ j.toList := by
      intro h
      apply e
      rw [ByteArray.toList_eq, ByteArray.toList_eq] at h
      apply ByteArray.ext
      exact Array.ext' h
    simp [e, this]

theorem opA_eqS {d t p a g} {ty : TypeId} {x y : Operand} {c} {i j : ByteArray} (hx : evalA G env x = some (.string i)) (hy : evalA G env y = some (.string j)) : opA P G env ⟨d, .binOp .eql ty x y c, t, p, a, g⟩ h = some (.val (.bool (decide (i = j))) h) :=
  opA_str hx hy (by simp [strBin, toList_beq])
theorem opA_neS {d t p a g} {ty : TypeId} {x y : Operand} {c} {i j : ByteArray} (hx : evalA G env x = some (.string i)) (hy : evalA G env y = some (.string j)) : opA P G env ⟨d, .binOp .neq ty x y c, t, p, a, g⟩ h = some (.val (.bool (decide (i ≠ j))) h) :=
  opA_str hx hy (by simp [strBin, toList_beq])
theorem opA_addS {d t p a g} {ty : TypeId} {x y : Operand} {c} {i j : ByteArray} (hx : evalA G env x = some (.string i)) (hy : evalA G env y = some (.string j)) (hs : i.size + j.size ≤ 140737488355328) :
    opA P G env ⟨d, .binOp .add ty x y c, t, p, a, g⟩ h = some (.val (.string (i ++ j)) h) :=
  opA_str hx hy (by simp [strBin, hs])

theorem opA_not {d t p a g} {ty : TypeId} {x : Operand} {b : Bool} (hx : evalA G env x = some (.bool b)) : opA P G env ⟨d, .unOp .not ty x, t, p, a, g⟩ h = some (.val (.bool !b) h) := by simp only [opA, hx, unA, Option.map_some]

theorem opA_load {d t p a g} {ty : TypeId} {x : Operand} {i off : Nat} {v : Value} (hx : evalA G env x = some (.pointer (some ⟨i, off, none⟩))) (hv : loadA P ty i off h = some v) : opA P G env ⟨d, .load ty x, t, p, a, g⟩ h = some (.val v h) := by
  simp only [opA, hx, hv, Option.map_some]
theorem opA_store {d t p a g} {ty : TypeId} {x y : Operand} {i off : Nat} {v : Value} {h' : Heap} (hx : evalA G env x = some (.pointer (some ⟨i, off, none⟩))) (hy : evalA G env y = some v) (hv : storeA P ty i off v h = some h') : opA P G env ⟨d, .store ty x y, t, p, a, g⟩ h = some (.skip h') := by
  simp only [opA, hx, hy, hv, Option.map_some]

/-- The guard alone. -/
def gOk (ops : Array Oper) (env : Env) : Option (Nat × Bool) → Option Bool
  | none => some true
  | some (j, want) => match (ops[j]?).bind (·.dst) with
    | none => some false
    | some d => match env d with
      | some (.bool b) => some (b == want)
      | some _ => some false
      | none => none

theorem wantedA_gOk {ops : Array Oper} {env : Env} {o : Oper} : wantedA ops env o = gOk ops env o.guard := by
  unfold wantedA gOk
  cases o.guard <;> rfl

end

/-- One operation: what is to be shown behind it; `lt`: it is none that writes, calls or panics. The third argument of K tells on which heaps the operation, if it reads, would read the same. -/
def WS (P : Program) (G : Nat) (X : ExtFn) (n : Nat) (lt : Bool) (ops : Array Oper) (o : Oper) (env : Env) (h : Heap) (K : Env → Heap → (Heap → Prop) → Prop) (F : List PanicEntry → Heap → Prop) : Prop :=
  (∃ e, wantedA ops env o = some false ∧ putA n o.dst undef env = some e ∧ K e h fun _ => True) ∨
  (∃ v h' e S, wantedA ops env o = some true ∧ opA P G env o h = some (.val v h') ∧ putA n o.dst v env = some e ∧ (∀ H, S H → opA P G env o H = some (.val v H)) ∧ K e h' S) ∨
  (lt = false ∧ (
    (∃ h' e, wantedA ops env o = some true ∧ opA P G env o h = some (.skip h') ∧ putA n o.dst undef env = some e ∧ K e h' fun _ => True) ∨
    (∃ f args, wantedA ops env o = some true ∧ opA P G env o h = some (.enter f args) ∧ WCall P G X f args h fun r => match r with
      | .ret v h' => ∃ e, putA n o.dst v env = some e ∧ K e h' fun _ => True
      | .panic ch h' => F ch h') ∨
    (∃ v, wantedA ops env o = some true ∧ opA P G env o h = some (.panic v) ∧ F [{ v, recovered := false }] h)))

/-- What is noted of an operation of a drawn region: its number, where it stays so, whether it is to be asked again. -/
abbrev Pe := Nat × (Heap → Prop) × Bool

inductive CoversL (P : Program) (G : Nat) : List Pe → List (PRec × Bool) → Prop
  | nil : CoversL P G [] []
  | cons {i : Nat} {S : Heap → Prop} {d : Bool} {q : PRec} {l : List Pe} {r : List (PRec × Bool)} : q.x.i = i → (∀ H, S H → q.Stable P G H) → CoversL P G l r → CoversL P G ((i, S, d) :: l) ((q, d) :: r)

def ClearS : List Pe → Heap → Prop
  | [], _ => True
  | (_, S, true) :: r, h => S h ∧ ClearS r h
  | (_, _, false) :: r, h => ClearS r h

def dirtS : List Pe → List Pe
  | [] => []
  | (i, S, _) :: r => (i, S, true) :: dirtS r

def keepS (bef : Nat) : List Pe → List Pe
  | [] => []
  | (i, S, b) :: r => if bef.testBit i then keepS bef r else (i, S, b) :: keepS bef r

def WD (P : Program) (G : Nat) (X : ExtFn) (n : Nat) (ops : Array Oper) (items : List PItem) (pend : List Pe) (env : Env) (h : Heap) (N : Env → Heap → Prop) (F : List PanicEntry → Heap → Prop) : Prop :=
  ∀ pr, CoversL P G pend pr → ∃ k r, runPi P G (callN P G X k) n ops items pr env h = some r ∧ match r with
    | .ok e h => N e h
    | .panic ch h => F ch h

section
variable {P : Program} {G : Nat} {X : ExtFn} {n : Nat} {N : Env → Heap → Prop} {E : Nat → Env → Heap → Prop} {R : Env → Heap → Prop} {F : List PanicEntry → Heap → Prop} {env : Env} {h : Heap}

theorem CoversL.clear {pend : List Pe} {pr : List (PRec × Bool)} {h : Heap} (hc : CoversL P G pend pr) (hs : ClearS pend h) : Clear P G pr h := by
  induction hc with
  | nil => intro p hp; cases hp
  | @cons i S d q l r hi hS hc ih =>
    intro p hp hd
    cases d with
    | true =>
      rcases List.mem_cons.1 hp with rfl | hp
      · exact hS _ hs.1
      · exact ih hs.2 p hp hd
    | false =>
      rcases List.mem_cons.1 hp with rfl | hp
      · cases hd
      · exact ih hs p hp hd

theorem CoversL.dirt {pend : List Pe} {pr : List (PRec × Bool)} (hc : CoversL P G pend pr) : CoversL P G (dirtS pend) (Go.Am.dirt pr) := by
  induction hc with
  | nil => exact .nil
  | cons hi hS hc ih => exact .cons hi hS ih

theorem CoversL.keep {bef : Nat} {pend : List Pe} {pr : List (PRec × Bool)} (hc : CoversL P G pend pr) : CoversL P G (keepS bef pend) (pr.filter fun p => !bef.testBit p.1.x.i) := by
  induction hc with
  | nil => exact .nil
  | @cons i S d q l r hi hS hc ih =>
    unfold keepS
    rw [List.filter_cons, hi]
    by_cases hb : bef.testBit i = true
    · simp only [hb, if_true, Bool.not_true, Bool.false_eq_true, if_false]
      exact ih
    · have hb' : bef.testBit i = false := by simpa using hb
      simp only [hb', Bool.false_eq_true, if_false, Bool.not_false, if_true]
      exact .cons hi hS ih

theorem CoversL.snoc {i : Nat} {S : Heap → Prop} {d : Bool} {q : PRec} (hi : q.x.i = i) (hS : ∀ H, S H → q.Stable P G H) {pend : List Pe} {pr : List (PRec × Bool)} (hc : CoversL P G pend pr) : CoversL P G (pend ++ [(i, S, d)]) (pr ++ [(q, d)]) := by
  induction hc with
  | nil => exact .cons hi hS .nil
  | cons hi' hS' hc ih => exact .cons hi' hS' ih

theorem putA_WPut {dst : Option Tmp} {v : Value} {env e : Env} {K : Env → Prop} (hp : putA n dst v env = some e) (hk : K e) : WPut n dst v env K := by
  unfold putA at hp
  unfold WPut
  cases dst with
  | none => cases hp; exact hk
  | some d =>
    simp only at hp
    split at hp
    · rename_i hd; cases hp; exact ⟨hd, hk⟩
    · cases hp

theorem WR.cons {ops : Array Oper} {o : Oper} {l : List Oper} (hw : WS P G X n false ops o env h (fun e h _ => WR P G X n ops l e h N F) F) : WR P G X n ops (o :: l) env h N F := by
  unfold WR WOps WStep
  rcases hw with ⟨e, h1, h2, h3⟩ | ⟨v, h', e, S, h1, h2, h3, _, h4⟩ | ⟨_, ⟨h', e, h1, h2, h3, h4⟩ | ⟨f, args, h1, h2, h3⟩ | ⟨v, h1, h2, h3⟩⟩
  · rw [h1]; exact putA_WPut h2 h3
  · simp only [h1, h2]; exact putA_WPut h3 h4
  · simp only [h1, h2]; exact putA_WPut h3 h4
  · simp only [h1, h2]
    refine WCall.mono h3 fun r hr => ?_
    cases r with
    | ret v h' => obtain ⟨e, he, hk⟩ := hr; exact putA_WPut he hk
    | panic ch h' => exact hr
  · simp only [h1, h2]; exact h3

theorem WD.nil {ops : Array Oper} {pend : List Pe} (hc : ClearS pend h) (hq : N env h) : WD P G X n ops [] pend env h N F := by
  intro pr hp
  exact ⟨0, _, by simp only [runPi]; rw [if_pos (CoversL.clear hp hc)], hq⟩

theorem WD.pure {ops : Array Oper} {i bef : Nat} {o : Oper} {l : List PItem} {pend : List Pe} (ho : ops[i]? = some o)
    (hw : WS P G X n true ops o env h (fun e h _ => WD P G X n ops l pend e h N F) F) : WD P G X n ops (⟨i, .pure, bef⟩ :: l) pend env h N F := by
  intro pr hp
  rcases hw with ⟨e, h1, h2, h3⟩ | ⟨v, h', e, S, h1, h2, h3, _, h4⟩ | ⟨hc, _⟩
  · obtain ⟨k, r, hr, hq⟩ := h3 pr hp
    refine ⟨k, r, ?_, hq⟩
    simp only [runPi, ho, lightRec, h1, h2, Option.map_some]
    exact hr
  · obtain ⟨k, r, hr, hq⟩ := h4 pr hp
    refine ⟨k, r, ?_, hq⟩
    simp only [runPi, ho, lightRec, h1, h2, h3, Option.map_some]
    exact hr
  · cases hc

theorem WD.read {ops : Array Oper} {i bef : Nat} {o : Oper} {l : List PItem} {pend : List Pe} (ho : ops[i]? = some o)
    (hw : WS P G X n true ops o env h (fun e h S => WD P G X n ops l (pend ++ [(i, S, false)]) e h N F) F) : WD P G X n ops (⟨i, .read, bef⟩ :: l) pend env h N F := by
  intro pr hp
  rcases hw with ⟨e, h1, h2, h3⟩ | ⟨v, h', e, S, h1, h2, h3, h5, h4⟩ | ⟨hc, _⟩
  · obtain ⟨k, r, hr, hq⟩ := h3 (pr ++ [(⟨⟨i, .read, bef⟩, o, env, h, h, undef, false⟩, false)]) (CoversL.snoc (q := ⟨⟨i, .read, bef⟩, o, env, h, h, undef, false⟩) rfl (fun H _ => by intro hf; cases hf) hp)
    refine ⟨k, r, ?_, hq⟩
    simp only [runPi, ho, lightRec, h1, h2, Option.map_some]
    exact hr
  · obtain ⟨k, r, hr, hq⟩ := h4 (pr ++ [(⟨⟨i, .read, bef⟩, o, env, h, h', v, true⟩, false)]) (CoversL.snoc (q := ⟨⟨i, .read, bef⟩, o, env, h, h', v, true⟩) rfl (fun H hS => by intro _; exact h5 H hS) hp)
    refine ⟨k, r, ?_, hq⟩
    simp only [runPi, ho, lightRec, h1, h2, h3, Option.map_some]
    exact hr
  · cases hc

theorem WD.alloc {ops : Array Oper} {i bef : Nat} {o : Oper} {l : List PItem} {pend : List Pe} (ho : ops[i]? = some o)
    (hw : WS P G X n true ops o env h (fun e h' _ => WD P G X n ops l (dirtS pend ++ [(i, fun H => H.obj h.next = h'.obj h.next, false)]) e h' N F) F) : WD P G X n ops (⟨i, .alloc, bef⟩ :: l) pend env h N F := by
  intro pr hp
  rcases hw with ⟨e, h1, h2, h3⟩ | ⟨v, h', e, S, h1, h2, h3, h5, h4⟩ | ⟨hc, _⟩
  · obtain ⟨k, r, hr, hq⟩ := h3 (dirt pr ++ [(⟨⟨i, .alloc, bef⟩, o, env, h, h, undef, false⟩, false)]) (CoversL.snoc (q := ⟨⟨i, .alloc, bef⟩, o, env, h, h, undef, false⟩) rfl (fun H _ => by intro hf; cases hf) (CoversL.dirt hp))
    refine ⟨k, r, ?_, hq⟩
    simp only [runPi, ho, lightRec, h1, h2, Option.map_some]
    exact hr
  · obtain ⟨k, r, hr, hq⟩ := h4 (dirt pr ++ [(⟨⟨i, .alloc, bef⟩, o, env, h, h', v, true⟩, false)]) (CoversL.snoc (q := ⟨⟨i, .alloc, bef⟩, o, env, h, h', v, true⟩) rfl (fun H hS => by intro _; exact hS) (CoversL.dirt hp))
    refine ⟨k, r, ?_, hq⟩
    simp only [runPi, ho, lightRec, h1, h2, h3, Option.map_some]
    exact hr
  · cases hc

theorem WS.step {ops : Array Oper} {o : Oper} {K : Env → Heap → (Heap → Prop) → Prop} {lt : Bool} (hw : WS P G X n lt ops o env h K F) :
    ∃ k r, stepA P G (callN P G X k) n ops o env h = some r ∧ match r with | .ok e h' => ∃ S, K e h' S | .panic ch h' => F ch h' := by
  unfold stepA
  rcases hw with ⟨e, h1, h2, h3⟩ | ⟨v, h', e, S, h1, h2, h3, _, h4⟩ | ⟨_, ⟨h', e, h1, h2, h3, h4⟩ | ⟨f, args, h1, h2, h3⟩ | ⟨v, h1, h2, h3⟩⟩
  · exact ⟨0, .ok e h, by simp only [h1, h2, Option.map_some], _, h3⟩
  · exact ⟨0, .ok e h', by simp only [h1, h2, h3, Option.map_some], _, h4⟩
  · exact ⟨0, .ok e h', by simp only [h1, h2, h3, Option.map_some], _, h4⟩
  · obtain ⟨k, r, hr, hq⟩ := WCall.out h3
    cases r with
    | ret v h' => obtain ⟨e, he, hk⟩ := hq; exact ⟨k, .ok e h', by simp only [h1, h2, hr, he, Option.map_some], _, hk⟩
    | panic ch h' => exact ⟨k, .panic ch h', by simp only [h1, h2, hr], hq⟩
  · exact ⟨0, .panic _ h, by simp only [h1, h2], h3⟩

theorem WD.heavy (hX : ExtMono X) {ops : Array Oper} {i bef : Nat} {o : Oper} {l : List PItem} {pend : List Pe} (ho : ops[i]? = some o) (hc : ClearS pend h)
    (hw : WS P G X n false ops o env h (fun e h' _ => WD P G X n ops l (dirtS (keepS bef pend)) e h' N F) F) : WD P G X n ops (⟨i, .heavy, bef⟩ :: l) pend env h N F := by
  intro pr hp
  obtain ⟨k, r, hs, hr⟩ := WS.step hw
  cases r with
  | ok e h' =>
    obtain ⟨S, hr⟩ := hr
    obtain ⟨k2, r2, h2, hq⟩ := hr _ (CoversL.dirt (CoversL.keep hp))
    refine ⟨max k k2, r2, ?_, hq⟩
    simp only [runPi, ho]
    rw [if_pos (CoversL.clear hp hc), stepA_le (callN_le hX (Nat.le_max_left k k2)) hs]
    exact runPi_le (callN_le hX (Nat.le_max_right k k2)) l h2
  | panic ch h' =>
    refine ⟨k, .panic ch h', ?_, hr⟩
    simp only [runPi, ho]
    rw [if_pos (CoversL.clear hp hc), hs]

theorem WC.drawn (hX : ExtMono X) {id : Nat} {ops : Array Oper} {l : List PItem} (hp : plan P ops = some l) (hw : WD P G X n ops l [] env h N F) : WC P G X n (.region id ops true) env h N E R F := by
  obtain ⟨k, r, hr, hq⟩ := hw [] .nil
  have hreg : regA P G (callN P G X (k + 1)) n ops true env h = some r := by
    unfold regA drawA
    simp only [if_true, hp]
    exact runPi_le (callN_le hX (Nat.le_succ k)) l hr
  cases r with
  | ok e h' => exact ⟨k + 1, .normal, e, h', by simp only [exec, hreg], hq⟩
  | panic ch h' => exact ⟨k + 1, .panic ch, env, h', by simp only [exec, hreg], hq⟩

theorem WS.val {lt : Bool} {ops : Array Oper} {op : Op} {d t p a g} {v : Value} {h' : Heap} {K : Env → Heap → (Heap → Prop) → Prop} (S : Heap → Prop) (hg : gOk ops env g = some true) (hn : Nat.blt d n = true) (ho : opA P G env ⟨some d, op, t, p, a, g⟩ h = some (.val v h'))
    (hS : ∀ H, S H → opA P G env ⟨some d, op, t, p, a, g⟩ H = some (.val v H)) (hk : K (upd env d v) h' S) : WS P G X n lt ops ⟨some d, op, t, p, a, g⟩ env h K F :=
  .inr (.inl ⟨v, h', _, S, wantedA_gOk.trans hg, ho, if_pos (by simpa [Nat.blt_eq] using hn), hS, hk⟩)

theorem WS.same {lt : Bool} {ops : Array Oper} {op : Op} {d t p a g} {v : Value} {K : Env → Heap → (Heap → Prop) → Prop} (hg : gOk ops env g = some true) (hn : Nat.blt d n = true) (ho : ∀ h, opA P G env ⟨some d, op, t, p, a, g⟩ h = some (.val v h))
    (hk : K (upd env d v) h fun _ => True) : WS P G X n lt ops ⟨some d, op, t, p, a, g⟩ env h K F := WS.val _ hg hn (ho h) (fun H _ => ho H) hk

theorem WS.uw {lt : Bool} {ops : Array Oper} {op : Op} {d t p a g} {K : Env → Heap → (Heap → Prop) → Prop} (hg : gOk ops env (some g) = some false) (hn : Nat.blt d n = true)
    (hk : K (upd env d undef) h fun _ => True) : WS P G X n lt ops ⟨some d, op, t, p, a, some g⟩ env h K F := .inl ⟨_, wantedA_gOk.trans hg, if_pos (by simpa [Nat.blt_eq] using hn), hk⟩
theorem WS.uw' {lt : Bool} {ops : Array Oper} {op : Op} {t p a g} {K : Env → Heap → (Heap → Prop) → Prop} (hg : gOk ops env (some g) = some false)
    (hk : K env h fun _ => True) : WS P G X n lt ops ⟨none, op, t, p, a, some g⟩ env h K F := .inl ⟨_, wantedA_gOk.trans hg, rfl, hk⟩
theorem WS.skip {ops : Array Oper} {op : Op} {t p a g} {h' : Heap} {K : Env → Heap → (Heap → Prop) → Prop} (hg : gOk ops env g = some true) (ho : opA P G env ⟨none, op, t, p, a, g⟩ h = some (.skip h'))
    (hk : K env h' fun _ => True) : WS P G X n false ops ⟨none, op, t, p, a, g⟩ env h K F := .inr (.inr ⟨rfl, .inl ⟨h', _, wantedA_gOk.trans hg, ho, rfl, hk⟩⟩)
theorem WS.enter {ops : Array Oper} {op : Op} {d t p a g} {f : FuncId} {args : List Value} {K : Env → Heap → (Heap → Prop) → Prop} (hg : gOk ops env g = some true) (hn : Nat.blt d n = true) (ho : opA P G env ⟨some d, op, t, p, a, g⟩ h = some (.enter f args))
    (hk : WCall P G X f args h fun r => match r with | .ret v h' => K (upd env d v) h' (fun _ => True) | .panic ch h' => F ch h') : WS P G X n false ops ⟨some d, op, t, p, a, g⟩ env h K F := by
  refine .inr (.inr ⟨rfl, .inr (.inl ⟨f, args, wantedA_gOk.trans hg, ho, WCall.mono hk fun r hr => ?_⟩)⟩)
  cases r with
  | ret v h' => exact ⟨_, if_pos (by simpa [Nat.blt_eq] using hn), hr⟩
  | panic ch h' => exact hr
theorem WS.panic {ops : Array Oper} {op : Op} {d t p a g} {v : Value} {K : Env → Heap → (Heap → Prop) → Prop} (hg : gOk ops env g = some true) (ho : opA P G env ⟨d, op, t, p, a, g⟩ h = some (.panic v))
    (hk : F [{ v, recovered := false }] h) : WS P G X n false ops ⟨d, op, t, p, a, g⟩ env h K F := .inr (.inr ⟨rfl, .inr (.inr ⟨v, wantedA_gOk.trans hg, ho, hk⟩)⟩)

theorem WS.askP {lt : Bool} {ops : Array Oper} {op : Op} {d t q a g} {p : Prop} [Decidable p] {K : Env → Heap → (Heap → Prop) → Prop} (hg : gOk ops env g = some true) (hn : Nat.blt d n = true) (ho : ∀ h, opA P G env ⟨some d, op, t, q, a, g⟩ h = some (.val (.bool (decide p)) h))
    (h1 : p → K (upd env d (.bool true)) h fun _ => True) (h2 : ¬p → K (upd env d (.bool false)) h fun _ => True) : WS P G X n lt ops ⟨some d, op, t, q, a, g⟩ env h K F := by
  by_cases hp : p
  · refine WS.same hg hn (v := .bool true) (fun h => ?_) (h1 hp)
    rw [ho h, decide_eq_true hp]
  · refine WS.same hg hn (v := .bool false) (fun h => ?_) (h2 hp)
    rw [ho h, decide_eq_false hp]
theorem WS.askB {lt : Bool} {ops : Array Oper} {op : Op} {d t q a g} {b : Bool} {K : Env → Heap → (Heap → Prop) → Prop} (hg : gOk ops env g = some true) (hn : Nat.blt d n = true) (ho : ∀ h, opA P G env ⟨some d, op, t, q, a, g⟩ h = some (.val (.bool b) h))
    (h1 : b = true → K (upd env d (.bool true)) h fun _ => True) (h2 : b = false → K (upd env d (.bool false)) h fun _ => True) : WS P G X n lt ops ⟨some d, op, t, q, a, g⟩ env h K F := by
  cases b
  · exact WS.same hg hn ho (h2 rfl)
  · exact WS.same hg hn ho (h1 rfl)

attribute [irreducible] WC WR WD WS

end
end Go.Am
