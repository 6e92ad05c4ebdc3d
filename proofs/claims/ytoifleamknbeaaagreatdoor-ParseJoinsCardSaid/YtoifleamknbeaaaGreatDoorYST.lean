/- Whether the last primary was bare is set anew by each primary: what a run answers does not hang on it. -/
import Derived.Test.YtoifleamknbeaaaGreatDoorYSS
open Go Go.Am
namespace Go.Proofs.ZL
set_option linter.unusedSimpArgs false
set_option linter.unusedVariables false

/-- Two runs that answer the same at the same place. -/
def Ind {α : Type} : R α → R α → Prop
  | .ok x s, .ok x' s' => x = x' ∧ s.k = s'.k
  | .bad i, .bad i' => i = i'
  | .out, .out => True
  | _, _ => False

section
variable {α β : Type} {L : List Tok} {s s' : St} {r r' : R α}
theorem Ind.of_eq (h : r = r') : Ind r r' := by subst h; cases r <;> simp [Ind]
theorem Ind.okk {x x' : α} (hx : x = x') (hs : s.k = s'.k) : Ind (.ok x s) (.ok x' s') := ⟨hx, hs⟩
theorem Ind.fail (h : s.k = s'.k) : Ind (failR L s : R α) (failR L s') := h
theorem Ind.outs : Ind (.out : R α) .out := trivial
theorem Ind.ite {c : Prop} [Decidable c] {A A' B B' : R α} (h1 : c → Ind A A') (h2 : ¬ c → Ind B B') : Ind (if c then A else B) (if c then A' else B') := by
  split
  · rename_i h; exact h1 h
  · rename_i h; exact h2 h
theorem Ind.then {f f' : α → St → R β} (h : Ind r r') (hk : ∀ x k b b', Ind (f x ⟨k, b⟩) (f' x ⟨k, b'⟩)) : Ind (r.then f) (r'.then f') := by
  cases r with
  | ok x s => cases r' with
    | ok x' s' => obtain ⟨k, b⟩ := s; obtain ⟨k', b'⟩ := s'; obtain ⟨rfl, h2⟩ := h; simp only at h2; subst h2; exact hk _ _ _ _
    | bad i => exact h.elim
    | out => exact h.elim
  | bad i => cases r' with
    | ok x' s' => exact h.elim
    | bad i => exact h
    | out => exact h.elim
  | out => cases r' with
    | ok x' s' => exact h.elim
    | bad i => exact h.elim
    | out => trivial
theorem Ind.thenE {f f' : α → St → R β} (h : Ind r r') (hk : ∀ x k b b', f x ⟨k, b⟩ = f' x ⟨k, b'⟩) : r.then f = r'.then f' := by
  cases r with
  | ok x s => cases r' with
    | ok x' s' => obtain ⟨k, b⟩ := s; obtain ⟨k', b'⟩ := s'; obtain ⟨rfl, h2⟩ := h; simp only at h2; subst h2; exact hk _ _ _ _
    | bad i => exact h.elim
    | out => exact h.elim
  | bad i => cases r' with
    | ok x' s' => exact h.elim
    | bad i => cases h; rfl
    | out => exact h.elim
  | out => cases r' with
    | ok x' s' => exact h.elim
    | bad i => exact h.elim
    | out => rfl
theorem isR_i (h : s.k = s'.k) (ts : List ByteArray) : isR L s ts = isR L s' ts := by unfold isR; rw [h]
theorem want_i {t : ByteArray} (h : s.k = s'.k) : Ind (wantR L s t) (wantR L s' t) := by
  unfold wantR
  rw [isR_i h, h]
  exact .ite (fun _ => .okk rfl (by simp only [next_k]; omega)) fun _ => .fail h
theorem name_i (h : s.k = s'.k) : Ind (nameR L s) (nameR L s') := by
  unfold nameR
  rw [h]
  exact .ite (fun _ => .okk rfl (by simp only [next_k]; omega)) fun _ => .fail h
theorem sep_i {first : Bool} (h : s.k = s'.k) : Ind (sepR L s first) (sepR L s' first) := by
  unfold sepR
  exact .ite (fun _ => .okk rfl h) fun _ => .then (want_i h) fun _ _ _ _ => .okk rfl rfl
theorem until_i {ts : List ByteArray} {f f' : α → St → R α} (hf : ∀ x k b b', Ind (f x ⟨k, b⟩) (f' x ⟨k, b'⟩)) : ∀ n x k b b', Ind (untilR L ts f n x ⟨k, b⟩) (untilR L ts f' n x ⟨k, b'⟩)
  | 0, _, _, _, _ => trivial
  | n + 1, x, k, b, b' => by
    unfold untilR
    exact .ite (fun _ => .okk rfl rfl) fun _ => .then (hf _ _ _ _) fun _ _ _ _ => until_i hf n _ _ _ _
end

/-- What is known of the functions that call one another. -/
structure IndR (L : List Tok) (r : Rec) : Prop where
  typ : ∀ hd (s s' : St), s.k = s'.k → Ind (r.typ L hd s) (r.typ L hd s')
  function : ∀ hd (s s' : St), s.k = s'.k → Ind (r.function L hd s) (r.function L hd s')
  block : ∀ hd (s s' : St), s.k = s'.k → Ind (r.block L hd s) (r.block L hd s')
  stmts : ∀ hd (s s' : St), s.k = s'.k → Ind (r.stmts L hd s) (r.stmts L hd s')
  stmt : ∀ hd (s s' : St), s.k = s'.k → Ind (r.stmt L hd s) (r.stmt L hd s')
  nested : ∀ hd (s s' : St), s.k = s'.k → Ind (r.nested L hd s) (r.nested L hd s')
  branch : ∀ hd (s s' : St), s.k = s'.k → Ind (r.branch L hd s) (r.branch L hd s')
  expr : ∀ hd (s s' : St), s.k = s'.k → r.expr L hd s = r.expr L hd s'
  binary : ∀ least hd (s s' : St), s.k = s'.k → r.binary least L hd s = r.binary least L hd s'
  unary : ∀ hd (s s' : St), s.k = s'.k → r.unary L hd s = r.unary L hd s'
  primary : ∀ hd (s s' : St), s.k = s'.k → r.primary L hd s = r.primary L hd s'
  simple : ∀ hd (s s' : St), s.k = s'.k → Ind (r.simple L hd s) (r.simple L hd s')

section
variable {L : List Tok} {n : Nat} {r : Rec} (c : IndR L r) (hd : Bool) (k : Nat) (b b' : Bool)
include c
theorem typ_i : Ind (typF n r L hd ⟨k, b⟩) (typF n r L hd ⟨k, b'⟩) := by
  unfold typF
  repeat' (first | exact Ind.okk rfl rfl | exact Ind.fail rfl | exact Ind.outs | exact want_i rfl | exact name_i rfl | exact sep_i rfl | exact c.typ _ _ _ rfl | exact c.function _ _ _ rfl | exact c.block _ _ _ rfl | exact c.stmts _ _ _ rfl | exact c.stmt _ _ _ rfl | exact c.nested _ _ _ rfl | exact c.branch _ _ _ rfl | exact c.simple _ _ _ rfl | exact .of_eq (c.expr _ _ _ rfl) | exact .of_eq (c.binary _ _ _ _ rfl) | exact .of_eq (c.unary _ _ _ rfl) | exact .of_eq (c.primary _ _ _ rfl) | (refine until_i (fun _ _ _ _ => ?_) _ _ _ _ _) | refine Ind.ite (fun _ => ?_) fun _ => ?_ | refine Ind.then ?_ fun _ _ _ _ => ?_)
theorem function_i : Ind (functionF n r L hd ⟨k, b⟩) (functionF n r L hd ⟨k, b'⟩) := by
  unfold functionF
  repeat' (first | exact Ind.okk rfl rfl | exact Ind.fail rfl | exact Ind.outs | exact want_i rfl | exact name_i rfl | exact sep_i rfl | exact c.typ _ _ _ rfl | exact c.function _ _ _ rfl | exact c.block _ _ _ rfl | exact c.stmts _ _ _ rfl | exact c.stmt _ _ _ rfl | exact c.nested _ _ _ rfl | exact c.branch _ _ _ rfl | exact c.simple _ _ _ rfl | exact .of_eq (c.expr _ _ _ rfl) | exact .of_eq (c.binary _ _ _ _ rfl) | exact .of_eq (c.unary _ _ _ rfl) | exact .of_eq (c.primary _ _ _ rfl) | (refine until_i (fun _ _ _ _ => ?_) _ _ _ _ _) | refine Ind.ite (fun _ => ?_) fun _ => ?_ | refine Ind.then ?_ fun _ _ _ _ => ?_)
theorem block_i : Ind (blockF r L hd ⟨k, b⟩) (blockF r L hd ⟨k, b'⟩) := by
  unfold blockF
  repeat' (first | exact Ind.okk rfl rfl | exact Ind.fail rfl | exact Ind.outs | exact want_i rfl | exact name_i rfl | exact sep_i rfl | exact c.typ _ _ _ rfl | exact c.function _ _ _ rfl | exact c.block _ _ _ rfl | exact c.stmts _ _ _ rfl | exact c.stmt _ _ _ rfl | exact c.nested _ _ _ rfl | exact c.branch _ _ _ rfl | exact c.simple _ _ _ rfl | exact .of_eq (c.expr _ _ _ rfl) | exact .of_eq (c.binary _ _ _ _ rfl) | exact .of_eq (c.unary _ _ _ rfl) | exact .of_eq (c.primary _ _ _ rfl) | refine Ind.ite (fun _ => ?_) fun _ => ?_ | refine Ind.then ?_ fun _ _ _ _ => ?_)
theorem stmtsGo_i : ∀ n x k b b', Ind (stmtsGo r L hd n x ⟨k, b⟩) (stmtsGo r L hd n x ⟨k, b'⟩) := by
  intro n
  induction n with
  | zero => intros; trivial
  | succ n ih =>
    intro x k b b'
    unfold stmtsGo
    repeat' (first | exact Ind.okk rfl rfl | exact Ind.fail rfl | exact Ind.outs | exact want_i rfl | exact name_i rfl | exact sep_i rfl | exact c.typ _ _ _ rfl | exact c.function _ _ _ rfl | exact c.block _ _ _ rfl | exact c.stmts _ _ _ rfl | exact c.stmt _ _ _ rfl | exact c.nested _ _ _ rfl | exact c.branch _ _ _ rfl | exact c.simple _ _ _ rfl | exact .of_eq (c.expr _ _ _ rfl) | exact .of_eq (c.binary _ _ _ _ rfl) | exact .of_eq (c.unary _ _ _ rfl) | exact .of_eq (c.primary _ _ _ rfl) | exact ih _ _ _ _ | refine Ind.ite (fun _ => ?_) fun _ => ?_ | refine Ind.then ?_ fun _ _ _ _ => ?_)
theorem stmts_i : Ind (stmtsF n r L hd ⟨k, b⟩) (stmtsF n r L hd ⟨k, b'⟩) := stmtsGo_i c hd n [] k b b'
theorem call_i : Ind (callF r L hd ⟨k, b⟩) (callF r L hd ⟨k, b'⟩) := .of_eq (by unfold callF; rw [c.primary hd ⟨k, b⟩ ⟨k, b'⟩ rfl])
theorem rest_i (x : Nd) (bare : Bool) : Ind (restF r x bare L hd ⟨k, b⟩) (restF r x bare L hd ⟨k, b'⟩) := by
  unfold restF
  repeat' (first | exact Ind.okk rfl rfl | exact Ind.fail rfl | exact Ind.outs | exact want_i rfl | exact name_i rfl | exact sep_i rfl | exact c.typ _ _ _ rfl | exact c.function _ _ _ rfl | exact c.block _ _ _ rfl | exact c.stmts _ _ _ rfl | exact c.stmt _ _ _ rfl | exact c.nested _ _ _ rfl | exact c.branch _ _ _ rfl | exact c.simple _ _ _ rfl | exact .of_eq (c.expr _ _ _ rfl) | exact .of_eq (c.binary _ _ _ _ rfl) | exact .of_eq (c.unary _ _ _ rfl) | exact .of_eq (c.primary _ _ _ rfl) | refine Ind.ite (fun _ => ?_) fun _ => ?_ | refine Ind.then ?_ fun _ _ _ _ => ?_)
theorem simple_i : Ind (simpleF r L hd ⟨k, b⟩) (simpleF r L hd ⟨k, b'⟩) := by
  unfold simpleF
  rw [c.primary hd ⟨k, b⟩ ⟨k, b'⟩ rfl]
  repeat' (first | exact Ind.okk rfl rfl | exact Ind.fail rfl | exact Ind.outs | exact want_i rfl | exact name_i rfl | exact sep_i rfl | exact c.typ _ _ _ rfl | exact c.function _ _ _ rfl | exact c.block _ _ _ rfl | exact c.stmts _ _ _ rfl | exact c.stmt _ _ _ rfl | exact c.nested _ _ _ rfl | exact c.branch _ _ _ rfl | exact c.simple _ _ _ rfl | exact .of_eq (c.expr _ _ _ rfl) | exact .of_eq (c.binary _ _ _ _ rfl) | exact .of_eq (c.unary _ _ _ rfl) | exact .of_eq (c.primary _ _ _ rfl) | exact .of_eq rfl | refine Ind.ite (fun _ => ?_) fun _ => ?_ | refine Ind.then ?_ fun _ _ _ _ => ?_)
theorem plain_i : Ind (plainF r L hd ⟨k, b⟩) (plainF r L hd ⟨k, b'⟩) := by
  unfold plainF
  repeat' (first | exact Ind.okk rfl rfl | exact Ind.fail rfl | exact Ind.outs | exact want_i rfl | exact name_i rfl | exact sep_i rfl | exact c.typ _ _ _ rfl | exact c.function _ _ _ rfl | exact c.block _ _ _ rfl | exact c.stmts _ _ _ rfl | exact c.stmt _ _ _ rfl | exact c.nested _ _ _ rfl | exact c.branch _ _ _ rfl | exact c.simple _ _ _ rfl | exact .of_eq (c.expr _ _ _ rfl) | exact .of_eq (c.binary _ _ _ _ rfl) | exact .of_eq (c.unary _ _ _ rfl) | exact .of_eq (c.primary _ _ _ rfl) | refine Ind.ite (fun _ => ?_) fun _ => ?_ | refine Ind.then ?_ fun _ _ _ _ => ?_)
theorem stmt_i : Ind (stmtF r L hd ⟨k, b⟩) (stmtF r L hd ⟨k, b'⟩) := by
  unfold stmtF
  repeat' (first | exact Ind.okk rfl rfl | exact Ind.fail rfl | exact Ind.outs | exact want_i rfl | exact name_i rfl | exact sep_i rfl | exact c.typ _ _ _ rfl | exact c.function _ _ _ rfl | exact c.block _ _ _ rfl | exact c.stmts _ _ _ rfl | exact c.stmt _ _ _ rfl | exact c.nested _ _ _ rfl | exact c.branch _ _ _ rfl | exact c.simple _ _ _ rfl | exact .of_eq (c.expr _ _ _ rfl) | exact .of_eq (c.binary _ _ _ _ rfl) | exact .of_eq (c.unary _ _ _ rfl) | exact .of_eq (c.primary _ _ _ rfl) | exact call_i c _ _ _ _ | exact plain_i c _ _ _ _ | refine Ind.ite (fun _ => ?_) fun _ => ?_ | refine Ind.then ?_ fun _ _ _ _ => ?_)
theorem branch_i : Ind (branchF r L hd ⟨k, b⟩) (branchF r L hd ⟨k, b'⟩) := by
  unfold branchF
  repeat' (first | exact Ind.okk rfl rfl | exact Ind.fail rfl | exact Ind.outs | exact want_i rfl | exact name_i rfl | exact sep_i rfl | exact c.typ _ _ _ rfl | exact c.function _ _ _ rfl | exact c.block _ _ _ rfl | exact c.stmts _ _ _ rfl | exact c.stmt _ _ _ rfl | exact c.nested _ _ _ rfl | exact c.branch _ _ _ rfl | exact c.simple _ _ _ rfl | exact .of_eq (c.expr _ _ _ rfl) | exact .of_eq (c.binary _ _ _ _ rfl) | exact .of_eq (c.unary _ _ _ rfl) | exact .of_eq (c.primary _ _ _ rfl) | refine Ind.ite (fun _ => ?_) fun _ => ?_ | refine Ind.then ?_ fun _ _ _ _ => ?_)
theorem behind_i : Ind (behindF r L hd ⟨k, b⟩) (behindF r L hd ⟨k, b'⟩) := by
  unfold behindF
  repeat' (first | exact Ind.okk rfl rfl | exact Ind.fail rfl | exact Ind.outs | exact want_i rfl | exact name_i rfl | exact sep_i rfl | exact c.typ _ _ _ rfl | exact c.function _ _ _ rfl | exact c.block _ _ _ rfl | exact c.stmts _ _ _ rfl | exact c.stmt _ _ _ rfl | exact c.nested _ _ _ rfl | exact c.branch _ _ _ rfl | exact c.simple _ _ _ rfl | exact .of_eq (c.expr _ _ _ rfl) | exact .of_eq (c.binary _ _ _ _ rfl) | exact .of_eq (c.unary _ _ _ rfl) | exact .of_eq (c.primary _ _ _ rfl) | refine Ind.ite (fun _ => ?_) fun _ => ?_ | refine Ind.then ?_ fun _ _ _ _ => ?_)
theorem commasGo_i : ∀ n x k b b', Ind (commasGo r L hd n x ⟨k, b⟩) (commasGo r L hd n x ⟨k, b'⟩) := by
  intro n
  induction n with
  | zero => intros; trivial
  | succ n ih =>
    intro x k b b'
    unfold commasGo
    repeat' (first | exact Ind.okk rfl rfl | exact Ind.fail rfl | exact Ind.outs | exact want_i rfl | exact name_i rfl | exact sep_i rfl | exact c.typ _ _ _ rfl | exact c.function _ _ _ rfl | exact c.block _ _ _ rfl | exact c.stmts _ _ _ rfl | exact c.stmt _ _ _ rfl | exact c.nested _ _ _ rfl | exact c.branch _ _ _ rfl | exact c.simple _ _ _ rfl | exact .of_eq (c.expr _ _ _ rfl) | exact .of_eq (c.binary _ _ _ _ rfl) | exact .of_eq (c.unary _ _ _ rfl) | exact .of_eq (c.primary _ _ _ rfl) | exact ih _ _ _ _ | refine Ind.ite (fun _ => ?_) fun _ => ?_ | refine Ind.then ?_ fun _ _ _ _ => ?_)
theorem clause_i : Ind (clauseF n r L hd ⟨k, b⟩) (clauseF n r L hd ⟨k, b'⟩) := by
  unfold clauseF
  repeat' (first | exact Ind.okk rfl rfl | exact Ind.fail rfl | exact Ind.outs | exact want_i rfl | exact name_i rfl | exact sep_i rfl | exact c.typ _ _ _ rfl | exact c.function _ _ _ rfl | exact c.block _ _ _ rfl | exact c.stmts _ _ _ rfl | exact c.stmt _ _ _ rfl | exact c.nested _ _ _ rfl | exact c.branch _ _ _ rfl | exact c.simple _ _ _ rfl | exact .of_eq (c.expr _ _ _ rfl) | exact .of_eq (c.binary _ _ _ _ rfl) | exact .of_eq (c.unary _ _ _ rfl) | exact .of_eq (c.primary _ _ _ rfl) | exact behind_i c _ _ _ _ | exact commasGo_i c _ _ _ _ _ _ | refine Ind.ite (fun _ => ?_) fun _ => ?_ | refine Ind.then ?_ fun _ _ _ _ => ?_)
theorem comm_i : Ind (commF r L hd ⟨k, b⟩) (commF r L hd ⟨k, b'⟩) := by
  unfold commF
  repeat' (first | exact Ind.okk rfl rfl | exact Ind.fail rfl | exact Ind.outs | exact want_i rfl | exact name_i rfl | exact sep_i rfl | exact c.typ _ _ _ rfl | exact c.function _ _ _ rfl | exact c.block _ _ _ rfl | exact c.stmts _ _ _ rfl | exact c.stmt _ _ _ rfl | exact c.nested _ _ _ rfl | exact c.branch _ _ _ rfl | exact c.simple _ _ _ rfl | exact .of_eq (c.expr _ _ _ rfl) | exact .of_eq (c.binary _ _ _ _ rfl) | exact .of_eq (c.unary _ _ _ rfl) | exact .of_eq (c.primary _ _ _ rfl) | exact behind_i c _ _ _ _ | refine Ind.ite (fun _ => ?_) fun _ => ?_ | refine Ind.then ?_ fun _ _ _ _ => ?_)
omit c in
theorem clauses_i {one : PF Nd} (h1 : ∀ k b b', Ind (one L false ⟨k, b⟩) (one L false ⟨k, b'⟩)) : Ind (clausesF n one L hd ⟨k, b⟩) (clausesF n one L hd ⟨k, b'⟩) := by
  unfold clausesF
  exact .then (want_i rfl) fun _ _ _ _ => .then (until_i (fun _ _ _ _ => .then (h1 _ _ _) fun _ _ _ _ => .okk rfl rfl) _ _ _ _ _) fun _ _ _ _ => .okk rfl rfl
theorem first_i : Ind (firstF r L hd ⟨k, b⟩) (firstF r L hd ⟨k, b'⟩) := by
  unfold firstF
  rw [c.expr true ⟨k, b⟩ ⟨k, b'⟩ rfl]
  exact .of_eq rfl
theorem loopC_i (t : Tok) (f : Nd) (cl : Nd × Nd) : Ind (loopC r t L hd f cl ⟨k, b⟩) (loopC r t L hd f cl ⟨k, b'⟩) := by
  unfold loopC
  repeat' (first | exact Ind.okk rfl rfl | exact Ind.fail rfl | exact Ind.outs | exact want_i rfl | exact name_i rfl | exact sep_i rfl | exact c.typ _ _ _ rfl | exact c.function _ _ _ rfl | exact c.block _ _ _ rfl | exact c.stmts _ _ _ rfl | exact c.stmt _ _ _ rfl | exact c.nested _ _ _ rfl | exact c.branch _ _ _ rfl | exact c.simple _ _ _ rfl | exact .of_eq (c.expr _ _ _ rfl) | exact .of_eq (c.binary _ _ _ _ rfl) | exact .of_eq (c.unary _ _ _ rfl) | exact .of_eq (c.primary _ _ _ rfl) | refine Ind.ite (fun _ => ?_) fun _ => ?_ | refine Ind.then ?_ fun _ _ _ _ => ?_)
theorem loopB_i (t : Tok) (fc : Nd × Nd) : Ind (loopB r t L hd fc ⟨k, b⟩) (loopB r t L hd fc ⟨k, b'⟩) := by
  unfold loopB
  repeat' (first | exact Ind.okk rfl rfl | exact Ind.fail rfl | exact Ind.outs | exact want_i rfl | exact name_i rfl | exact sep_i rfl | exact c.typ _ _ _ rfl | exact c.function _ _ _ rfl | exact c.block _ _ _ rfl | exact c.stmts _ _ _ rfl | exact c.stmt _ _ _ rfl | exact c.nested _ _ _ rfl | exact c.branch _ _ _ rfl | exact c.simple _ _ _ rfl | exact .of_eq (c.expr _ _ _ rfl) | exact .of_eq (c.binary _ _ _ _ rfl) | exact .of_eq (c.unary _ _ _ rfl) | exact .of_eq (c.primary _ _ _ rfl) | exact loopC_i c _ _ _ _ _ _ _ | refine Ind.ite (fun _ => ?_) fun _ => ?_ | refine Ind.then ?_ fun _ _ _ _ => ?_)
theorem loop_i (t : Tok) : Ind (loopF r t L hd ⟨k, b⟩) (loopF r t L hd ⟨k, b'⟩) := by
  unfold loopF
  repeat' (first | exact Ind.okk rfl rfl | exact Ind.fail rfl | exact Ind.outs | exact want_i rfl | exact name_i rfl | exact sep_i rfl | exact c.typ _ _ _ rfl | exact c.function _ _ _ rfl | exact c.block _ _ _ rfl | exact c.stmts _ _ _ rfl | exact c.stmt _ _ _ rfl | exact c.nested _ _ _ rfl | exact c.branch _ _ _ rfl | exact c.simple _ _ _ rfl | exact .of_eq (c.expr _ _ _ rfl) | exact .of_eq (c.binary _ _ _ _ rfl) | exact .of_eq (c.unary _ _ _ rfl) | exact .of_eq (c.primary _ _ _ rfl) | exact loopB_i c _ _ _ _ _ _ | exact first_i c _ _ _ _ | refine Ind.ite (fun _ => ?_) fun _ => ?_ | refine Ind.then ?_ fun _ _ _ _ => ?_)
theorem nested_i : Ind (nestedF n r L hd ⟨k, b⟩) (nestedF n r L hd ⟨k, b'⟩) := by
  unfold nestedF
  repeat' (first | exact Ind.okk rfl rfl | exact Ind.fail rfl | exact Ind.outs | exact want_i rfl | exact name_i rfl | exact sep_i rfl | exact c.typ _ _ _ rfl | exact c.function _ _ _ rfl | exact c.block _ _ _ rfl | exact c.stmts _ _ _ rfl | exact c.stmt _ _ _ rfl | exact c.nested _ _ _ rfl | exact c.branch _ _ _ rfl | exact c.simple _ _ _ rfl | exact .of_eq (c.expr _ _ _ rfl) | exact .of_eq (c.binary _ _ _ _ rfl) | exact .of_eq (c.unary _ _ _ rfl) | exact .of_eq (c.primary _ _ _ rfl) | exact loop_i c _ _ _ _ _ | exact clauses_i _ _ _ _ fun _ _ _ => clause_i c _ _ _ _ | exact clauses_i _ _ _ _ fun _ _ _ => comm_i c _ _ _ _ | refine Ind.ite (fun _ => ?_) fun _ => ?_ | refine Ind.then ?_ fun _ _ _ _ => ?_)
theorem binary_i (least : Int) : binaryF n r least L hd ⟨k, b⟩ = binaryF n r least L hd ⟨k, b'⟩ := by
  unfold binaryF
  rw [c.unary hd ⟨k, b⟩ ⟨k, b'⟩ rfl]
theorem unary_i : unaryF r L hd ⟨k, b⟩ = unaryF r L hd ⟨k, b'⟩ := by
  unfold unaryF
  rw [isR_i (s := ⟨k, b⟩) (s' := ⟨k, b'⟩) rfl, c.primary hd ⟨k, b⟩ ⟨k, b'⟩ rfl, c.unary hd (St.next ⟨k, b⟩) (St.next ⟨k, b'⟩) rfl]
theorem exprs_i (e : ByteArray) : Ind (exprsF n r e L hd ⟨k, b⟩) (exprsF n r e L hd ⟨k, b'⟩) := by
  unfold exprsF
  repeat' (first | exact Ind.okk rfl rfl | exact Ind.fail rfl | exact Ind.outs | exact want_i rfl | exact name_i rfl | exact sep_i rfl | exact c.typ _ _ _ rfl | exact c.function _ _ _ rfl | exact c.block _ _ _ rfl | exact c.stmts _ _ _ rfl | exact c.stmt _ _ _ rfl | exact c.nested _ _ _ rfl | exact c.branch _ _ _ rfl | exact c.simple _ _ _ rfl | exact .of_eq (c.expr _ _ _ rfl) | exact .of_eq (c.binary _ _ _ _ rfl) | exact .of_eq (c.unary _ _ _ rfl) | exact .of_eq (c.primary _ _ _ rfl) | (refine until_i (fun _ _ _ _ => ?_) _ _ _ _ _) | refine Ind.ite (fun _ => ?_) fun _ => ?_ | refine Ind.then ?_ fun _ _ _ _ => ?_)
omit c in
theorem comma_i : Ind (commaR L ⟨k, b⟩) (commaR L ⟨k, b'⟩) := by
  unfold commaR
  exact .ite (fun _ => .okk rfl rfl) fun _ => .then (want_i rfl) fun _ _ _ _ => .okk rfl rfl
omit c in
theorem items_i {one : St → R Nd} (h1 : ∀ k b b', Ind (one ⟨k, b⟩) (one ⟨k, b'⟩)) : ∀ n x k b b', Ind (itemsGo r L hd one n x ⟨k, b⟩) (itemsGo r L hd one n x ⟨k, b'⟩) := by
  intro n
  induction n with
  | zero => intros; trivial
  | succ n ih =>
    intro x k b b'
    unfold itemsGo
    exact .ite (fun _ => .okk rfl rfl) fun _ => .then (h1 _ _ _) fun _ _ _ _ => .then (comma_i _ _ _) fun _ _ _ _ => ih _ _ _ _
theorem marked_i (t : Tok) : Ind (markedF n r t L hd ⟨k, b⟩) (markedF n r t L hd ⟨k, b'⟩) := by
  unfold markedF
  repeat' (first | exact Ind.okk rfl rfl | exact Ind.fail rfl | exact Ind.outs | exact want_i rfl | exact name_i rfl | exact sep_i rfl | exact c.typ _ _ _ rfl | exact c.function _ _ _ rfl | exact c.block _ _ _ rfl | exact c.stmts _ _ _ rfl | exact c.stmt _ _ _ rfl | exact c.nested _ _ _ rfl | exact c.branch _ _ _ rfl | exact c.simple _ _ _ rfl | exact .of_eq (c.expr _ _ _ rfl) | exact .of_eq (c.binary _ _ _ _ rfl) | exact .of_eq (c.unary _ _ _ rfl) | exact .of_eq (c.primary _ _ _ rfl) | (refine items_i _ (fun _ _ _ => ?_) _ _ _ _ _) | refine Ind.ite (fun _ => ?_) fun _ => ?_ | refine Ind.then ?_ fun _ _ _ _ => ?_)
theorem worded_i (t : Tok) : Ind (wordedF n r t L hd ⟨k, b⟩) (wordedF n r t L hd ⟨k, b'⟩) := by
  unfold wordedF
  repeat' (first | exact Ind.okk rfl rfl | exact Ind.fail rfl | exact Ind.outs | exact want_i rfl | exact name_i rfl | exact sep_i rfl | exact c.typ _ _ _ rfl | exact c.function _ _ _ rfl | exact c.block _ _ _ rfl | exact c.stmts _ _ _ rfl | exact c.stmt _ _ _ rfl | exact c.nested _ _ _ rfl | exact c.branch _ _ _ rfl | exact c.simple _ _ _ rfl | exact .of_eq (c.expr _ _ _ rfl) | exact .of_eq (c.binary _ _ _ _ rfl) | exact .of_eq (c.unary _ _ _ rfl) | exact .of_eq (c.primary _ _ _ rfl) | exact exprs_i c _ _ _ _ _ | refine Ind.ite (fun _ => ?_) fun _ => ?_ | refine Ind.then ?_ fun _ _ _ _ => ?_)
theorem operand_i : Ind (operandF n r L hd ⟨k, b⟩) (operandF n r L hd ⟨k, b'⟩) := by
  unfold operandF
  repeat' (first | exact Ind.okk rfl rfl | exact Ind.fail rfl | exact Ind.outs | exact want_i rfl | exact name_i rfl | exact sep_i rfl | exact c.typ _ _ _ rfl | exact c.function _ _ _ rfl | exact c.block _ _ _ rfl | exact c.stmts _ _ _ rfl | exact c.stmt _ _ _ rfl | exact c.nested _ _ _ rfl | exact c.branch _ _ _ rfl | exact c.simple _ _ _ rfl | exact .of_eq (c.expr _ _ _ rfl) | exact .of_eq (c.binary _ _ _ _ rfl) | exact .of_eq (c.unary _ _ _ rfl) | exact .of_eq (c.primary _ _ _ rfl) | exact marked_i c _ _ _ _ _ | exact worded_i c _ _ _ _ _ | refine Ind.ite (fun _ => ?_) fun _ => ?_ | refine Ind.then ?_ fun _ _ _ _ => ?_)
theorem index_i (t : Tok) (x : Nd) : Ind (indexF r t x L hd ⟨k, b⟩) (indexF r t x L hd ⟨k, b'⟩) := by
  unfold indexF
  repeat' (first | exact Ind.okk rfl rfl | exact Ind.fail rfl | exact Ind.outs | exact want_i rfl | exact name_i rfl | exact sep_i rfl | exact c.typ _ _ _ rfl | exact c.function _ _ _ rfl | exact c.block _ _ _ rfl | exact c.stmts _ _ _ rfl | exact c.stmt _ _ _ rfl | exact c.nested _ _ _ rfl | exact c.branch _ _ _ rfl | exact c.simple _ _ _ rfl | exact .of_eq (c.expr _ _ _ rfl) | exact .of_eq (c.binary _ _ _ _ rfl) | exact .of_eq (c.unary _ _ _ rfl) | exact .of_eq (c.primary _ _ _ rfl) | refine Ind.ite (fun _ => ?_) fun _ => ?_ | refine Ind.then ?_ fun _ _ _ _ => ?_)
theorem primaryGo_i (nn : Nat) : ∀ n x bare k b b', Ind (primaryGo nn r L n x bare ⟨k, b⟩) (primaryGo nn r L n x bare ⟨k, b'⟩) := by
  intro n
  induction n with
  | zero => intros; trivial
  | succ n ih =>
    intro x bare k b b'
    unfold primaryGo
    repeat' (first | exact Ind.okk rfl rfl | exact Ind.fail rfl | exact Ind.outs | exact want_i rfl | exact name_i rfl | exact sep_i rfl | exact c.typ _ _ _ rfl | exact c.function _ _ _ rfl | exact c.block _ _ _ rfl | exact c.stmts _ _ _ rfl | exact c.stmt _ _ _ rfl | exact c.nested _ _ _ rfl | exact c.branch _ _ _ rfl | exact c.simple _ _ _ rfl | exact .of_eq (c.expr _ _ _ rfl) | exact .of_eq (c.binary _ _ _ _ rfl) | exact .of_eq (c.unary _ _ _ rfl) | exact .of_eq (c.primary _ _ _ rfl) | exact ih _ _ _ _ _ | exact exprs_i c _ _ _ _ _ | exact index_i c _ _ _ _ _ _ | refine Ind.ite (fun _ => ?_) fun _ => ?_ | refine Ind.then ?_ fun _ _ _ _ => ?_)
theorem primary_i : primaryF n r L hd ⟨k, b⟩ = primaryF n r L hd ⟨k, b'⟩ := by
  unfold primaryF
  exact Ind.thenE (operand_i c _ _ _ _) fun x k b b' => Ind.thenE (primaryGo_i c _ _ _ _ _ _ _) fun y k b b' => rfl
end

theorem rec_i (L : List Tok) : ∀ n, IndR L (recN n)
  | 0 => by
    constructor
    all_goals intros
    all_goals first | exact Ind.outs | rfl
  | n + 1 => by
    have c := rec_i L n
    constructor
    · rintro hd ⟨k, b⟩ ⟨k', b'⟩ h; obtain rfl : k = k' := h; exact typ_i c _ _ _ _
    · rintro hd ⟨k, b⟩ ⟨k', b'⟩ h; obtain rfl : k = k' := h; exact function_i c _ _ _ _
    · rintro hd ⟨k, b⟩ ⟨k', b'⟩ h; obtain rfl : k = k' := h; exact block_i c _ _ _ _
    · rintro hd ⟨k, b⟩ ⟨k', b'⟩ h; obtain rfl : k = k' := h; exact stmts_i c _ _ _ _
    · rintro hd ⟨k, b⟩ ⟨k', b'⟩ h; obtain rfl : k = k' := h; exact stmt_i c _ _ _ _
    · rintro hd ⟨k, b⟩ ⟨k', b'⟩ h; obtain rfl : k = k' := h; exact nested_i c _ _ _ _
    · rintro hd ⟨k, b⟩ ⟨k', b'⟩ h; obtain rfl : k = k' := h; exact branch_i c _ _ _ _
    · rintro hd ⟨k, b⟩ ⟨k', b'⟩ h; obtain rfl : k = k' := h; exact c.binary _ _ _ _ rfl
    · rintro least hd ⟨k, b⟩ ⟨k', b'⟩ h; obtain rfl : k = k' := h; exact binary_i c _ _ _ _ _
    · rintro hd ⟨k, b⟩ ⟨k', b'⟩ h; obtain rfl : k = k' := h; exact unary_i c _ _ _ _
    · rintro hd ⟨k, b⟩ ⟨k', b'⟩ h; obtain rfl : k = k' := h; exact primary_i c _ _ _ _
    · rintro hd ⟨k, b⟩ ⟨k', b'⟩ h; obtain rfl : k = k' := h; exact simple_i c _ _ _ _

section
variable {L : List Tok} {m : Nat} {r : Rec} (c : IndR L r) (hd : Bool) (k : Nat) (b b' : Bool)
include c
theorem decl_i : Ind (declF m r L hd ⟨k, b⟩) (declF m r L hd ⟨k, b'⟩) := by
  unfold declF fieldsR
  repeat' (first | exact Ind.okk rfl rfl | exact Ind.fail rfl | exact Ind.outs | exact want_i rfl | exact name_i rfl | exact sep_i rfl | exact c.typ _ _ _ rfl | exact c.function _ _ _ rfl | exact c.block _ _ _ rfl | exact c.stmts _ _ _ rfl | exact c.stmt _ _ _ rfl | exact c.nested _ _ _ rfl | exact c.branch _ _ _ rfl | exact c.simple _ _ _ rfl | exact .of_eq (c.expr _ _ _ rfl) | exact .of_eq (c.binary _ _ _ _ rfl) | exact .of_eq (c.unary _ _ _ rfl) | exact .of_eq (c.primary _ _ _ rfl) | (refine until_i (fun _ _ _ _ => ?_) _ _ _ _ _) | refine Ind.ite (fun _ => ?_) fun _ => ?_ | refine Ind.then ?_ fun _ _ _ _ => ?_)
theorem fileGo_i : ∀ n x k b b', Ind (fileGo m r L hd n x ⟨k, b⟩) (fileGo m r L hd n x ⟨k, b'⟩) := by
  intro n
  induction n with
  | zero => intros; trivial
  | succ n ih =>
    intro x k b b'
    unfold fileGo
    repeat' (first | exact Ind.okk rfl rfl | exact Ind.fail rfl | exact Ind.outs | exact want_i rfl | exact name_i rfl | exact sep_i rfl | exact c.typ _ _ _ rfl | exact c.function _ _ _ rfl | exact c.block _ _ _ rfl | exact c.stmts _ _ _ rfl | exact c.stmt _ _ _ rfl | exact c.nested _ _ _ rfl | exact c.branch _ _ _ rfl | exact c.simple _ _ _ rfl | exact .of_eq (c.expr _ _ _ rfl) | exact .of_eq (c.binary _ _ _ _ rfl) | exact .of_eq (c.unary _ _ _ rfl) | exact .of_eq (c.primary _ _ _ rfl) | exact ih _ _ _ _ | exact decl_i c _ _ _ _ | refine Ind.ite (fun _ => ?_) fun _ => ?_ | refine Ind.then ?_ fun _ _ _ _ => ?_)
end

end Go.Proofs.ZL
