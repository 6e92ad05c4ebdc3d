/-
  The abstract machine, part 11: a region in its text's order, code, calls.
-/
import Derived.Test.YtfooolbjhhfbiaaDoorZamOp
namespace Go.Am
open Go.RowKit (Below)

inductive ARes where
  | ret (v : Value) (h : Heap)
  | panic (ch : List PanicEntry) (h : Heap)

abbrev CallFn := FuncId → List Value → Heap → Option ARes

inductive SRes where
  | ok (env : Env) (h : Heap)
  | panic (ch : List PanicEntry) (h : Heap)

/-- Is the operation's guard met? -/
def wantedA (ops : Array Oper) (env : Env) (o : Oper) : Option Bool :=
  match o.guard with
  | none => some true
  | some (j, want) => match (ops[j]?).bind (·.dst) with
    | none => some false
    | some d => match env d with
      | some (.bool b) => some (b == want)
      | some _ => some false
      | none => none

def putA (n : Nat) (dst : Option Tmp) (v : Value) (env : Env) : Option Env :=
  match dst with
  | none => some env
  | some d => if d < n then some (fun t => if t = d then some v else env t) else none

/-- One operation of a region, with its guard and its place for the answer. -/
def stepA (P : Program) (G : Nat) (C : CallFn) (n : Nat) (ops : Array Oper) (o : Oper) (env : Env) (h : Heap) : Option SRes :=
  match wantedA ops env o with
  | none => none
  | some false => (putA n o.dst undef env).map fun e => .ok e h
  | some true => match opA P G env o h with
    | none => none
    | some (.val v h') => (putA n o.dst v env).map fun e => .ok e h'
    | some (.skip h') => (putA n o.dst undef env).map fun e => .ok e h'
    | some (.enter f args) => match C f args h with
      | none => none
      | some (.ret v h') => (putA n o.dst v env).map fun e => .ok e h'
      | some (.panic ch h') => some (.panic ch h')
    | some (.panic v) => some (.panic [{ v, recovered := false }] h)

def execOps (P : Program) (G : Nat) (C : CallFn) (n : Nat) (ops : Array Oper) : List Nat → Env → Heap → Option SRes
  | [], env, h => some (.ok env h)
  | i :: rest, env, h => match ops[i]? with
    | none => execOps P G C n ops rest env h
    | some o => match stepA P G C n ops o env h with
      | some (.ok env' h') => execOps P G C n ops rest env' h'
      | r => r

/-- Chains of panics. -/
def ChRel (ρ : Ren) : List PanicEntry → List PanicEntry → Prop
  | [], [] => True
  | e :: l, e' :: l' => VRel ρ e.v e'.v ∧ e'.recovered = e.recovered ∧ e'.goexit = e.goexit ∧ ChRel ρ l l'
  | _, _ => False

theorem ChRel.mono {ρ ρ' : Ren} (hl : ρ.le ρ') : ∀ {l l' : List PanicEntry}, ChRel ρ l l' → ChRel ρ' l l'
  | [], [], _ => trivial
  | _ :: _, _ :: _, h => ⟨h.1.mono hl, h.2.1, h.2.2.1, ChRel.mono hl h.2.2.2⟩

/-- How a call ends, beside ours. -/
def EndRel (G B : Nat) (w0 : World) (ρ : Ren) (h : Heap) : ARes → Ending → World → Prop
  | .ret v h', .returned v', w' => ∃ ρ', Ext ρ h ρ' h' ∧ Rel G B w0 ρ' h' w' ∧ VRel ρ' v v'
  | .panic ch h', .panicked ch', w' => ∃ ρ', Ext ρ h ρ' h' ∧ Rel G B w0 ρ' h' w' ∧ ChRel ρ' ch ch'
  | _, _, _ => False

def SoundC (P : Program) (G B : Nat) (w0 : World) (C : CallFn) : Prop :=
  ∀ f args h r, C f args h = some r → ∀ ρ w args', Rel G B w0 ρ h w → LRel ρ args args'.toList → Calls P f args' w (EndRel G B w0 ρ h r)

/-- A frame and ours. -/
structure FrameRel (ρ : Ren) (n : Nat) (env : Env) (a : Act) : Prop where
  size : a.tmps.size = n
  lt : ∀ t v, env t = some v → t < n
  rel : EnvRel ρ env a

section
variable {G B : Nat} {w0 : World} {ρ : Ren} {h : Heap} {w : World} {P : Program} {env : Env} {a : Act} {n : Nat}

theorem FrameRel.mono {ρ' : Ren} (hl : ρ.le ρ') (F : FrameRel ρ n env a) : FrameRel ρ' n env a := ⟨F.size, F.lt, fun t v ht => (F.rel t v ht).mono hl⟩

theorem FrameRel.put (F : FrameRel ρ n env a) {dst : Option Tmp} {v v' : Value} {env' : Env} (hp : putA n dst v env = some env') (hv : VRel ρ v v') : FrameRel ρ n env' (a.put dst v') := by
  unfold putA at hp
  split at hp
  · cases hp; exact F
  · rename_i d
    split at hp
    · rename_i hd
      cases hp
      refine ⟨by simp [Act.put, F.size], fun t x ht => ?_, fun t x ht => ?_⟩
      · change (if t = d then some v else env t) = some x at ht
        split at ht
        · rename_i e; rw [e]; exact hd
        · exact F.lt t x ht
      · change (if t = d then some v else env t) = some x at ht
        split at ht
        · rename_i e
          subst e
          cases ht
          simp only [Act.put]
          rw [Array.getD_eq_getD_getElem?, Array.getElem?_setIfInBounds_self_of_lt (by rw [F.size]; exact hd)]
          exact hv
        · rename_i e
          simp only [Act.put]
          rw [Array.getD_eq_getD_getElem?, Array.getElem?_setIfInBounds_ne (fun k => e k.symm), ← Array.getD_eq_getD_getElem?]
          exact F.rel t x ht
    · cases hp

theorem wantedA_sound (F : FrameRel ρ n env a) {ops : Array Oper} {o : Oper} {b : Bool} (hw : wantedA ops env o = some b) : Region.wanted o (yielded ops a.tmps) = b := by
  unfold wantedA at hw
  unfold Region.wanted
  split at hw
  · rename_i hg; cases hw; rw [hg]
  · rename_i j want hg
    rw [hg]
    simp only
    split at hw
    · rename_i hd
      cases hw
      simp [yielded, hd]
    · rename_i d hd
      have hy : yielded ops a.tmps j = match a.tmps[d]? with | some (.bool b) => some b | _ => none := by
        unfold yielded; rw [hd]; rfl
      split at hw
      · rename_i x he
        cases hw
        have hv := F.rel d _ he
        have hlt := F.lt d _ he
        rw [hy]
        rw [Array.getD_eq_getD_getElem?] at hv
        have : d < a.tmps.size := by rw [F.size]; exact hlt
        rw [Array.getElem?_eq_getElem this] at hv ⊢
        simp only [Option.getD_some] at hv
        generalize a.tmps[d] = q at hv
        cases hv
        rfl
      · rename_i x hx he
        cases hw
        have hv := F.rel d _ he
        have hlt := F.lt d _ he
        rw [hy]
        rw [Array.getD_eq_getD_getElem?] at hv
        have : d < a.tmps.size := by rw [F.size]; exact hlt
        rw [Array.getElem?_eq_getElem this] at hv ⊢
        simp only [Option.getD_some] at hv
        generalize a.tmps[d] = q at hv
        cases hv <;> first | rfl | exact (hx _ rfl).elim
      · cases hw

theorem stepA_sound {C : CallFn} (SC : SoundC P G B w0 C) (R : Rel G B w0 ρ h w) (F : FrameRel ρ n env a) {ops : Array Oper} {i : Nat} {o : Oper} (hi : ops[i]? = some o) {r : SRes}
    (hs : stepA P G C n ops o env h = some r) {K : Act → World → Prop} {Q : Exit → Act → World → Prop}
    (hok : ∀ env' h', r = .ok env' h' → ∀ ρ' v' w', Ext ρ h ρ' h' → Rel G B w0 ρ' h' w' → FrameRel ρ' n env' (a.put o.dst v') → K (a.put o.dst v') w')
    (hpanic : ∀ ch h', r = .panic ch h' → ∀ ρ' ch' w', Ext ρ h ρ' h' → Rel G B w0 ρ' h' w' → ChRel ρ' ch ch' → Q (.panic ch') a w') :
    wpOp P ops Q i K a w := by
  unfold stepA at hs
  unfold wpOp
  rw [hi]
  simp only
  split at hs
  · cases hs
  · rename_i hw
    rw [wantedA_sound F hw]
    simp only [Bool.false_eq_true, if_false]
    cases hp : putA n o.dst undef env with
    | none => simp [hp] at hs
    | some e =>
      simp [hp] at hs; subst hs
      exact hok e h rfl ρ undef w (Ext.refl _ _) R (F.put hp (VRel.tuple_iff.2 (.nil _)))
  · rename_i hw
    rw [wantedA_sound F hw]
    simp only [if_true]
    left
    unfold Oper.wp
    split at hs
    · cases hs
    · rename_i v h' ho
      obtain ⟨v', w', ρ', hrun, hext, hR, hv⟩ := opA_sound R F.rel ho
      rw [hrun]
      simp only [Oper.upon]
      cases hp : putA n o.dst v env with
      | none => simp [hp] at hs
      | some e =>
        simp [hp] at hs; subst hs
        exact hok e h' rfl ρ' v' w' hext hR ((F.mono (hext.le R)).put hp hv)
    · rename_i h' ho
      obtain ⟨w', ρ', hrun, hext, hR⟩ := opA_sound R F.rel ho
      rw [hrun]
      simp only [Oper.upon]
      cases hp : putA n o.dst undef env with
      | none => simp [hp] at hs
      | some e =>
        simp [hp] at hs; subst hs
        exact hok e h' rfl ρ' undef w' hext hR ((F.mono (hext.le R)).put hp (VRel.tuple_iff.2 (.nil _)))
    · rename_i f args ho
      obtain ⟨_, args', hrun, hargs⟩ := opA_sound R F.rel ho
      rw [hrun]
      simp only [Oper.upon]
      split at hs
      · cases hs
      · rename_i v h' hc
        refine (SC f args h _ hc ρ w args' R hargs).mono fun e w' he => ?_
        cases e with
        | returned v' =>
          obtain ⟨ρ', hext, hR, hv⟩ := he
          simp only
          cases hp : putA n o.dst v env with
          | none => simp [hp] at hs
          | some e =>
            simp [hp] at hs; subst hs
            exact hok e h' rfl ρ' v' w' hext hR ((F.mono (hext.le R)).put hp hv)
        | panicked ch => exact he.elim
        | outgrown => exact he.elim
      · rename_i ch h' hc
        cases hs
        refine (SC f args h _ hc ρ w args' R hargs).mono fun e w' he => ?_
        cases e with
        | returned v' => exact he.elim
        | panicked ch' =>
          obtain ⟨ρ', hext, hR, hv⟩ := he
          exact hpanic ch h' rfl ρ' ch' w' hext hR hv
        | outgrown => exact he.elim
    · rename_i v ho
      cases hs
      obtain ⟨v', hrun, hv⟩ := opA_sound R F.rel ho
      rw [hrun]
      simp only [Oper.upon]
      exact hpanic _ h rfl ρ _ w (Ext.refl _ _) R ⟨hv, rfl, rfl, trivial⟩

theorem put_defers (a : Act) (dst : Option Tmp) (v : Value) : (a.put dst v).defers = a.defers := by cases dst <;> rfl

theorem execOps_sound {C : CallFn} (SC : SoundC P G B w0 C) {ops : Array Oper} {Q : Exit → Act → World → Prop} : ∀ (l : List Nat) {ρ : Ren} {h : Heap} {w : World} {env : Env} {a : Act} {r : SRes},
    Rel G B w0 ρ h w → FrameRel ρ n env a → execOps P G C n ops l env h = some r →
    (∀ env' h', r = .ok env' h' → ∀ ρ' a' w', Ext ρ h ρ' h' → Rel G B w0 ρ' h' w' → FrameRel ρ' n env' a' → a'.defers = a.defers → Q .normal a' w') →
    (∀ ch h', r = .panic ch h' → ∀ ρ' ch' a' w', Ext ρ h ρ' h' → Rel G B w0 ρ' h' w' → ChRel ρ' ch ch' → a'.defers = a.defers → Q (.panic ch') a' w') →
    wpOps P ops Q l a w
  | [], ρ, h, w, env, a, r, R, F, he, hok, _ => by
    simp only [execOps] at he
    cases he
    exact hok env h rfl ρ a w (Ext.refl _ _) R F rfl
  | i :: rest, ρ, h, w, env, a, r, R, F, he, hok, hpanic => by
    rw [wpOps_cons]
    unfold execOps at he
    split at he
    · rename_i hi
      simp only [wpOp, hi]
      exact execOps_sound SC rest R F he hok hpanic
    · rename_i o hi
      split at he
      · rename_i env' h' hs
        refine stepA_sound SC R F hi hs ?_ (fun ch h'' e => by cases e)
        intro env2 h2 e2 ρ' v' w' hext hR hF
        cases e2
        refine execOps_sound SC rest hR hF he ?_ ?_
        · intro env3 h3 e3 ρ3 a3 w3 hext3 hR3 hF3 hd3
          exact hok env3 h3 e3 ρ3 a3 w3 (hext.trans hext3) hR3 hF3 (by rw [hd3, put_defers])
        · intro ch h3 e3 ρ3 ch3 a3 w3 hext3 hR3 hc3 hd3
          exact hpanic ch h3 e3 ρ3 ch3 a3 w3 (hext.trans hext3) hR3 hc3 (by rw [hd3, put_defers])
      · rename_i hno
        refine stepA_sound SC R F hi he (fun env' h' e => ?_) fun ch h' e ρ' ch' w' hext hR hc => hpanic ch h' e ρ' ch' a w' hext hR hc rfl
        subst e
        exact (hno _ _ he).elim

end
end Go.Am
