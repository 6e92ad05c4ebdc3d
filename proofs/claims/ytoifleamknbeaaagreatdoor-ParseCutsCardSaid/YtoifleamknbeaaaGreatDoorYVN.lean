/- A fault stands at a token: the parser goes not beyond its tokens. -/
import Derived.Test.YtoifleamknbeaaaGreatDoorYSJ
open Go Go.Am
namespace Go.Proofs.ZL
set_option linter.unusedSimpArgs false
set_option linter.unusedVariables false

def Inb {α : Type} (N : Nat) : R α → Prop
 | .ok _ s => s.k ≤ N
 | .bad i => i ≤ N
 | .out => True

section
variable {α β : Type} {L : List Tok} {s : St} {r : R α} {N : Nat}
theorem Inb.ok {x : α} (h : s.k ≤ N) : Inb N (.ok x s) := h
theorem Inb.fail (h : s.k ≤ N) : Inb N (failR L s : R α) := h
theorem Inb.out : Inb N (.out : R α) := trivial
theorem Inb.ite {c : Prop} [Decidable c] {A B : R α} (h1 : c → Inb N A) (h2 : ¬ c → Inb N B) : Inb N (if c then A else B) := by
 split
 ·rename_i h; exact h1 h
 ·rename_i h; exact h2 h
theorem Inb.then {f : α → St → R β} (h : Inb N r) (hk : ∀ x s, s.k ≤ N → Inb N (f x s)) : Inb N (r.then f) := by
 cases r with
 | ok x s => exact hk x s h
 | bad i => exact h
 | out => trivial
theorem nx {ts : List ByteArray} (h : isR L s ts = true) : s.next.k ≤ L.length := isR_lt h
theorem nx1 (h : (tokAt L s.k).kind ≠ 6) : s.next.k ≤ L.length := tokAt_lt h
theorem andL {a b : Bool} (h : (a && b) = true) : a = true := by cases a <;> simp_all
theorem mark2 {a : Bool} {x : ByteArray} (h : (a && isMark (tokAt L (s.k + 1)) x) = true) : (s.goto (s.k + 2)).k ≤ L.length := by
 have h2 : isMark (tokAt L (s.k + 1)) x = true := by cases a <;> simp_all
 unfold isMark at h2
 simp only [Bool.and_eq_true, decide_eq_true_eq] at h2
 exact tokAt_lt (k := s.k + 1) (by omega)
theorem want_n {t : ByteArray} (h : s.k ≤ L.length) : Inb L.length (wantR L s t) := by
 unfold wantR
 exact .ite (fun hi => .ok (nx hi)) fun _ => .fail h
theorem name_n (h : s.k ≤ L.length) : Inb L.length (nameR L s) := by
 unfold nameR
 exact .ite (fun hi => .ok (nx1 (by omega))) fun _ => .fail h
theorem sep_n {first : Bool} (h : s.k ≤ L.length) : Inb L.length (sepR L s first) := by
 unfold sepR
 exact .ite (fun _ => .ok h) fun _ => .then (want_n h) fun _ _ h => .ok h
theorem until_n {ts : List ByteArray} {f : α → St → R α} (hf : ∀ x s, s.k ≤ L.length → Inb L.length (f x s)) : ∀ n x s, s.k ≤ L.length → Inb L.length (untilR L ts f n x s)
 | 0, _, _, _ => trivial
 | n + 1, x, s, h => by
  unfold untilR
  exact .ite (fun _ => .ok h) fun _ => .then (hf _ _ h) fun _ _ h => until_n hf n _ _ h
theorem until_x {ts : List ByteArray} {f : α → St → R α} {g : α → St → R β} (hf : ∀ x s, s.k ≤ L.length → Inb L.length (f x s)) (hg : ∀ x s, s.next.k ≤ L.length → Inb L.length (g x s)) : ∀ n x s, s.k ≤ L.length → Inb L.length ((untilR L ts f n x s).then g) := by
 intro n
 induction n with
 | zero => intros; trivial
 | succ n ih =>
  intro x s h
  unfold untilR
  split
  ·rename_i hi; exact hg _ _ (nx hi)
  ·rw [R.then_assoc]
   exact .then (hf _ _ h) fun _ _ h => ih _ _ h
end

structure InbR (L : List Tok) (r : Rec) : Prop where
 typ : ∀ hd (s : St), s.k ≤ L.length → Inb L.length (r.typ L hd s)
 function : ∀ hd (s : St), s.k ≤ L.length → Inb L.length (r.function L hd s)
 block : ∀ hd (s : St), s.k ≤ L.length → Inb L.length (r.block L hd s)
 stmts : ∀ hd (s : St), s.k ≤ L.length → Inb L.length (r.stmts L hd s)
 stmt : ∀ hd (s : St), s.k ≤ L.length → Inb L.length (r.stmt L hd s)
 nested : ∀ hd (s : St), s.k ≤ L.length → Inb L.length (r.nested L hd s)
 branch : ∀ hd (s : St), s.k ≤ L.length → Inb L.length (r.branch L hd s)
 expr : ∀ hd (s : St), s.k ≤ L.length → Inb L.length (r.expr L hd s)
 binary : ∀ least hd (s : St), s.k ≤ L.length → Inb L.length (r.binary least L hd s)
 unary : ∀ hd (s : St), s.k ≤ L.length → Inb L.length (r.unary L hd s)
 primary : ∀ hd (s : St), s.k ≤ L.length → Inb L.length (r.primary L hd s)
 simple : ∀ hd (s : St), s.k ≤ L.length → Inb L.length (r.simple L hd s)

theorem Wnk {p : Prop} (h : p := by first | assumption | exact nx ‹_› | exact nx (andL ‹_›) | exact nx (andL (andL ‹_›)) | exact nx1 (by omega) | exact mark2 ‹_› | exact Nat.le_trans (Nat.le_succ _) (nx ‹_›)) : p := h
theorem Wlf {p : Prop} (h : p := by first | exact .ok Wnk | exact .fail Wnk | exact .out | exact want_n Wnk | exact name_n Wnk | exact sep_n Wnk | exact (‹InbR _ _›).typ _ _ Wnk | exact (‹InbR _ _›).function _ _ Wnk | exact (‹InbR _ _›).block _ _ Wnk | exact (‹InbR _ _›).stmts _ _ Wnk | exact (‹InbR _ _›).stmt _ _ Wnk | exact (‹InbR _ _›).nested _ _ Wnk | exact (‹InbR _ _›).branch _ _ Wnk | exact (‹InbR _ _›).simple _ _ Wnk | exact (‹InbR _ _›).expr _ _ Wnk | exact (‹InbR _ _›).binary _ _ _ Wnk | exact (‹InbR _ _›).unary _ _ Wnk | exact (‹InbR _ _›).primary _ _ Wnk) : p := h

section
variable {L : List Tok} {n : Nat} {r : Rec} (c : InbR L r) (hd : Bool) {s : St} (h : s.k ≤ L.length)
include c h
theorem typ_n : Inb L.length (typF n r L hd s) := by
 unfold typF
 repeat' (first | exact Wlf | (refine until_x (fun _ _ _ => ?_) (fun _ _ _ => ?_) _ _ _ Wnk) | refine Inb.ite (fun _ => ?_) fun _ => ?_ | refine Inb.then ?_ fun _ _ _ => ?_)
theorem function_n : Inb L.length (functionF n r L hd s) := by
 unfold functionF
 repeat' (first | exact Wlf | (refine until_x (fun _ _ _ => ?_) (fun _ _ _ => ?_) _ _ _ Wnk) | refine Inb.ite (fun _ => ?_) fun _ => ?_ | refine Inb.then ?_ fun _ _ _ => ?_)
theorem block_n : Inb L.length (blockF r L hd s) := by
 unfold blockF
 repeat' (first | exact Wlf | refine Inb.ite (fun _ => ?_) fun _ => ?_ | refine Inb.then ?_ fun _ _ _ => ?_)
omit h in
theorem stmtsGo_n : ∀ n x (s : St), s.k ≤ L.length → Inb L.length (stmtsGo r L hd n x s) := by
 intro n
 induction n with
 | zero => intros; trivial
 | succ n ih =>
  intro x s h
  unfold stmtsGo
  repeat' (first | exact Wlf | exact ih _ _ Wnk | refine Inb.ite (fun _ => ?_) fun _ => ?_ | refine Inb.then ?_ fun _ _ _ => ?_)
theorem stmts_n : Inb L.length (stmtsF n r L hd s) := stmtsGo_n c hd n [] s h
theorem call_n : Inb L.length (callF r L hd s) := by
 unfold callF
 repeat' (first | exact Wlf | refine Inb.ite (fun _ => ?_) fun _ => ?_ | refine Inb.then ?_ fun _ _ _ => ?_)
theorem rest_n (x : Nd) (bare : Bool) : Inb L.length (restF r x bare L hd s) := by
 unfold restF
 repeat' (first | exact Wlf | refine Inb.ite (fun _ => ?_) fun _ => ?_ | refine Inb.then ?_ fun _ _ _ => ?_)
theorem simple_n : Inb L.length (simpleF r L hd s) := by
 unfold simpleF
 repeat' (first | exact Wlf | exact rest_n c _ Wnk _ _ | refine Inb.ite (fun _ => ?_) fun _ => ?_ | refine Inb.then ?_ fun _ _ _ => ?_)
theorem plain_n : Inb L.length (plainF r L hd s) := by
 unfold plainF
 repeat' (first | exact Wlf | refine Inb.ite (fun _ => ?_) fun _ => ?_ | refine Inb.then ?_ fun _ _ _ => ?_)
theorem stmt_n : Inb L.length (stmtF r L hd s) := by
 unfold stmtF
 repeat' (first | exact Wlf | exact call_n c _ Wnk | exact plain_n c _ Wnk | refine Inb.ite (fun _ => ?_) fun _ => ?_ | refine Inb.then ?_ fun _ _ _ => ?_)
omit h in
theorem branch_n : Inb L.length (branchF r L hd s) := by
 unfold branchF
 repeat' (first | exact Wlf | refine Inb.ite (fun _ => ?_) fun _ => ?_ | refine Inb.then ?_ fun _ _ _ => ?_)
theorem behind_n : Inb L.length (behindF r L hd s) := by
 unfold behindF
 repeat' (first | exact Wlf | refine Inb.ite (fun _ => ?_) fun _ => ?_ | refine Inb.then ?_ fun _ _ _ => ?_)
omit h in
theorem commasGo_n : ∀ n x (s : St), s.k ≤ L.length → Inb L.length (commasGo r L hd n x s) := by
 intro n
 induction n with
 | zero => intros; trivial
 | succ n ih =>
  intro x s h
  unfold commasGo
  repeat' (first | exact Wlf | exact ih _ _ Wnk | refine Inb.ite (fun _ => ?_) fun _ => ?_ | refine Inb.then ?_ fun _ _ _ => ?_)
theorem clause_n : Inb L.length (clauseF n r L hd s) := by
 unfold clauseF
 repeat' (first | exact Wlf | exact behind_n c _ Wnk | exact commasGo_n c _ _ _ _ Wnk | refine Inb.ite (fun _ => ?_) fun _ => ?_ | refine Inb.then ?_ fun _ _ _ => ?_)
theorem comm_n : Inb L.length (commF r L hd s) := by
 unfold commF
 repeat' (first | exact Wlf | exact behind_n c _ Wnk | refine Inb.ite (fun _ => ?_) fun _ => ?_ | refine Inb.then ?_ fun _ _ _ => ?_)
omit c in
theorem clauses_n {one : PF Nd} (h1 : ∀ s : St, s.k ≤ L.length → Inb L.length (one L false s)) : Inb L.length (clausesF n one L hd s) := by
 unfold clausesF
 exact .then (want_n h) fun _ s h => until_x (fun _ _ h => .then (h1 _ h) fun _ _ h => .ok h) (fun _ _ h => .ok h) _ _ _ h
theorem first_n : Inb L.length (firstF r L hd s) := by
 unfold firstF
 repeat' (first | exact Wlf | exact rest_n c _ Wnk _ _ | refine Inb.ite (fun _ => ?_) fun _ => ?_ | refine Inb.then ?_ fun _ _ _ => ?_)
theorem loopC_n (t : Tok) (f : Nd) (cl : Nd × Nd) : Inb L.length (loopC r t L hd f cl s) := by
 unfold loopC
 repeat' (first | exact Wlf | refine Inb.ite (fun _ => ?_) fun _ => ?_ | refine Inb.then ?_ fun _ _ _ => ?_)
theorem loopB_n (t : Tok) (fc : Nd × Nd) : Inb L.length (loopB r t L hd fc s) := by
 unfold loopB
 repeat' (first | exact Wlf | exact loopC_n c _ Wnk _ _ _ | refine Inb.ite (fun _ => ?_) fun _ => ?_ | refine Inb.then ?_ fun _ _ _ => ?_)
theorem loop_n (t : Tok) : Inb L.length (loopF r t L hd s) := by
 unfold loopF
 repeat' (first | exact Wlf | exact loopB_n c _ Wnk _ _ | exact first_n c _ Wnk | refine Inb.ite (fun _ => ?_) fun _ => ?_ | refine Inb.then ?_ fun _ _ _ => ?_)
omit h in
theorem nested_n : Inb L.length (nestedF n r L hd s) := by
 unfold nestedF
 repeat' (first | exact Wlf | exact loop_n c _ Wnk _ | exact clauses_n _ Wnk fun _ h => clause_n c _ h | exact clauses_n _ Wnk fun _ h => comm_n c _ h | refine Inb.ite (fun _ => ?_) fun _ => ?_ | refine Inb.then ?_ fun _ _ _ => ?_)
omit h in
theorem binaryGo_n (least : Int) : ∀ n x (s : St), s.k ≤ L.length → Inb L.length (binaryGo r least L hd n x s) := by
 intro n
 induction n with
 | zero => intros; trivial
 | succ n ih =>
  intro x s h
  unfold binaryGo
  have hlv : ¬ (level (tokAt L s.k) < least ∨ level (tokAt L s.k) = 0) → (tokAt L s.k).kind = 5 := fun hn => Decidable.byContradiction fun h5 => hn (.inr (by unfold level; rw [if_pos h5]))
  repeat' (first | exact .ok Wnk | exact c.binary _ _ _ (nx1 (by have := hlv ‹_›; omega)) | exact Wlf | exact ih _ _ Wnk | refine Inb.ite (fun _ => ?_) fun _ => ?_ | refine Inb.then ?_ fun _ _ _ => ?_)
theorem binary_n (least : Int) : Inb L.length (binaryF n r least L hd s) := by
 unfold binaryF
 repeat' (first | exact Wlf | exact binaryGo_n c _ _ _ _ _ Wnk | refine Inb.ite (fun _ => ?_) fun _ => ?_ | refine Inb.then ?_ fun _ _ _ => ?_)
theorem unary_n : Inb L.length (unaryF r L hd s) := by
 unfold unaryF
 repeat' (first | exact Wlf | refine Inb.ite (fun _ => ?_) fun _ => ?_ | refine Inb.then ?_ fun _ _ _ => ?_)
theorem exprs_n (e : ByteArray) : Inb L.length (exprsF n r e L hd s) := by
 unfold exprsF
 repeat' (first | exact Wlf | (refine until_x (fun _ _ _ => ?_) (fun _ _ _ => ?_) _ _ _ Wnk) | refine Inb.ite (fun _ => ?_) fun _ => ?_ | refine Inb.then ?_ fun _ _ _ => ?_)
omit c in
theorem comma_n : Inb L.length (commaR L s) := by
 unfold commaR
 exact .ite (fun _ => .ok h) fun _ => .then (want_n h) fun _ _ h => .ok h
omit c h in
theorem items_n {one : St → R Nd} (h1 : ∀ s : St, s.k ≤ L.length → Inb L.length (one s)) : ∀ n x (s : St), s.k ≤ L.length → Inb L.length (itemsGo r L hd one n x s) := by
 intro n
 induction n with
 | zero => intros; trivial
 | succ n ih =>
  intro x s h
  unfold itemsGo
  exact .ite (fun hi => .ok (nx hi)) fun _ => .then (h1 _ h) fun _ _ h => .then (comma_n h) fun _ _ h => ih _ _ h
theorem marked_n (t : Tok) (h6 : s.next.k ≤ L.length) : Inb L.length (markedF n r t L hd s) := by
 unfold markedF
 repeat' (first | exact Wlf | (refine items_n _ (fun _ _ => ?_) _ _ _ Wnk) | refine Inb.ite (fun _ => ?_) fun _ => ?_ | refine Inb.then ?_ fun _ _ _ => ?_)
theorem worded_n (t : Tok) (h6 : s.next.k ≤ L.length) : Inb L.length (wordedF n r t L hd s) := by
 unfold wordedF
 repeat' (first | exact Wlf | exact exprs_n c _ Wnk _ | refine Inb.ite (fun _ => ?_) fun _ => ?_ | refine Inb.then ?_ fun _ _ _ => ?_)
theorem operand_n : Inb L.length (operandF n r L hd s) := by
 unfold operandF
 repeat' (first | exact Wlf | exact marked_n c _ Wnk _ (nx1 (by omega)) | exact worded_n c _ Wnk _ (nx1 (by omega)) | refine Inb.ite (fun _ => ?_) fun _ => ?_ | refine Inb.then ?_ fun _ _ _ => ?_)
theorem index_n (t : Tok) (x : Nd) : Inb L.length (indexF r t x L hd s) := by
 unfold indexF
 repeat' (first | exact Wlf | refine Inb.ite (fun _ => ?_) fun _ => ?_ | refine Inb.then ?_ fun _ _ _ => ?_)
omit h in
theorem primaryGo_n (nn : Nat) : ∀ n x bare (s : St), s.k ≤ L.length → Inb L.length (primaryGo nn r L n x bare s) := by
 intro n
 induction n with
 | zero => intros; trivial
 | succ n ih =>
  intro x bare s h
  unfold primaryGo
  repeat' (first | exact Wlf | exact ih _ _ _ Wnk | exact exprs_n c _ Wnk _ | exact index_n c _ Wnk _ _ | refine Inb.ite (fun _ => ?_) fun _ => ?_ | refine Inb.then ?_ fun _ _ _ => ?_)
theorem primary_n : Inb L.length (primaryF n r L hd s) := by
 unfold primaryF
 exact .then (operand_n c _ h) fun x s h => .then (primaryGo_n c _ _ _ _ _ h) fun y s h => .ok h
end

theorem rec_n (L : List Tok) : ∀ n, InbR L (recN n)
 | 0 => by
  constructor
  all_goals intros
  all_goals exact trivial
 | n + 1 => by
  have c := rec_n L n
  constructor
  ·exact fun hd s h => typ_n c hd h
  ·exact fun hd s h => function_n c hd h
  ·exact fun hd s h => block_n c hd h
  ·exact fun hd s h => stmts_n c hd h
  ·exact fun hd s h => stmt_n c hd h
  ·exact fun hd s h => nested_n c hd
  ·exact fun hd s h => branch_n c hd
  ·exact fun hd s h => c.binary _ hd s h
  ·exact fun least hd s h => binary_n c hd h least
  ·exact fun hd s h => unary_n c hd h
  ·exact fun hd s h => primary_n c hd h
  ·exact fun hd s h => simple_n c hd h

section
variable {L : List Tok} {m : Nat} {r : Rec} (c : InbR L r) (hd : Bool) {s : St} (h : s.k ≤ L.length)
include c h
theorem decl_n : Inb L.length (declF m r L hd s) := by
 unfold declF fieldsR
 repeat' (first | exact Wlf | (refine until_x (fun _ _ _ => ?_) (fun _ _ _ => ?_) _ _ _ Wnk) | refine Inb.ite (fun _ => ?_) fun _ => ?_ | refine Inb.then ?_ fun _ _ _ => ?_)
omit h in
theorem fileGo_n : ∀ n x (s : St), s.k ≤ L.length → Inb L.length (fileGo m r L hd n x s) := by
 intro n
 induction n with
 | zero => intros; trivial
 | succ n ih =>
  intro x s h
  unfold fileGo
  repeat' (first | exact Wlf | exact ih _ _ Wnk | exact decl_n c _ Wnk | refine Inb.ite (fun _ => ?_) fun _ => ?_ | refine Inb.then ?_ fun _ _ _ => ?_)
theorem file_n : Inb L.length (fileF m r L hd s) := by
 unfold fileF
 exact .then (fileGo_n c _ _ _ _ h) fun _ _ h => .ok h
end

end Go.Proofs.ZL
