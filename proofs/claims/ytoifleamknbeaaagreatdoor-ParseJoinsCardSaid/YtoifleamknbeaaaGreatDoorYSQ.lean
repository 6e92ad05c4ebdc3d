/- What was parsed has its brackets closed: clauses, loops, all functions, files. -/
import Derived.Test.YtoifleamknbeaaaGreatDoorYSP
open Go Go.Am
namespace Go.Proofs.ZL
set_option linter.unusedSimpArgs false
set_option linter.unusedVariables false

section
variable {α β : Type} {L : List Tok} {k0 : Nat} {b q q1 : Int} {s : St}
theorem comm_c {r : Rec} (c : RecC L r) (hd : Bool) (s : St) : Clo L s (commF r L hd s) := by
  unfold Clo commF
  refine Blc.ite (fun h => cC (behind_c c hd s.next) ((cN 0 h (by decide +kernel) (.refl L s)).cast (by omega)) fun _ s1 h1 => .ok h1) fun _ => ?_
  refine cW 0 (by decide +kernel) (.refl L s) fun _ s1 h1 => ?_
  have h1 := h1.cast (q1 := depN L s.k) (by omega)
  refine Blc.then (q1 := depN L s.k) (Blc.ite (fun h => ?_) fun _ => .ok h1) fun kids s2 h2 => ?_
  · simp only [Bool.and_eq_true, decide_eq_true_eq] at h
    have h2 := h1.zero (wt_kind (by omega) (by omega)) (Int.le_refl _)
    have h3 : Opn L s.k (depN L s.k) (depN L s.k) (s1.goto (s1.k + 2)) := h2.zero (wt_mark h.2 (by decide +kernel)) (Int.le_refl _)
    exact Blc.ite (fun _ => .ok h3) fun _ => .fail
  refine Blc.ite (fun h => cC (c.unary hd s2.next) ((cN 0 h (by decide +kernel) h2).cast (by omega)) fun _ s3 h3 => cC (behind_c c hd s3) h3 fun _ s4 h4 => .ok h4) fun _ => ?_
  exact cC (c.primary hd s2) h2 fun _ s3 h3 => cW 0 (by decide +kernel) h3 fun _ s4 h4 => cC (c.expr hd s4) (h4.cast (q1 := depN L s.k) (by omega)) fun _ s5 h5 => cC (behind_c c hd s5) h5 fun _ s6 h6 => .ok h6
theorem clauses_c {n : Nat} {one : PF Nd} (h1 : ∀ s, Clo L s (one L false s)) (hd : Bool) (s : St) : Clo L s (clausesF n one L hd s) := by
  unfold Clo clausesF
  refine cW 1 (by decide +kernel) (.refl L s) fun _ s1 h2 => ?_
  refine Blc.until h2 (fun x s2 h3 => cC (h1 s2) h3 fun _ s3 h4 => .ok h4) fun kids s2 h3 h4 => .ok ((cN (-1) h4 (by decide +kernel) h3).cast (by omega))
theorem first_c {r : Rec} (c : RecC L r) (hd : Bool) (s : St) : Clo L s (firstF r L hd s) := by
  unfold Clo firstF
  refine cC (c.expr true s) (.refl L s) fun x s1 h1 => ?_
  refine Blc.ite (fun _ => .ok h1) fun _ => ?_
  refine Blc.ite (fun _ => Blc.ite (fun _ => .ok h1) fun _ => .fail) fun _ => ?_
  refine Blc.ite (fun _ => .fail) fun _ => ?_
  exact cC (rest_c c x s1.bare true s1) h1 fun _ s2 h2 => Blc.ite (fun _ => .ok h2) fun _ => .fail
theorem loop_c {r : Rec} (c : RecC L r) (hd : Bool) {t : Tok} (s : St) : Clo L s (loopF r t L hd s) := by
  unfold Clo loopF
  refine Blc.then (q1 := depN L s.k) (Blc.ite (fun _ => .ok (.refl L s)) fun _ => cC (first_c c hd s) (.refl L s) fun _ s1 h1 => .ok h1) fun fc s1 h1 => ?_
  unfold loopB
  refine Blc.then (q1 := depN L s.k) (Blc.ite (fun h => ?_) fun _ => .ok h1) fun cl s2 h2 => ?_
  · have h2 := (cN 0 h (by decide +kernel) h1).cast (q1 := depN L s.k) (by omega)
    refine Blc.then (q1 := depN L s.k) (Blc.ite (fun _ => .ok h2) fun _ => (c.expr true s1.next).use h2 (Int.le_refl _)) fun _ s3 h3 => ?_
    refine cW 0 (by decide +kernel) h3 fun _ s4 h4 => ?_
    have h4 := h4.cast (q1 := depN L s.k) (by omega)
    exact Blc.then (q1 := depN L s.k) (Blc.ite (fun _ => .ok h4) fun _ => (c.simple true s4).use h4 (Int.le_refl _)) fun _ s5 h5 => .ok h5
  unfold loopC
  exact cC (c.block hd s2) h2 fun _ s3 h3 => .ok h3
theorem nested_c {n : Nat} {r : Rec} (c : RecC L r) (hd : Bool) (s : St) (hw : wtT (tokAt L s.k) = 0) : Clo L s (nestedF n r L hd s) := by
  unfold Clo nestedF
  have h1 := (Opn.refl L s).zero hw (Int.le_refl _)
  refine Blc.ite (fun _ => .out) fun _ => ?_
  refine Blc.ite (fun _ => (loop_c c hd s.next).use h1 (Int.le_refl _)) fun _ => ?_
  refine Blc.ite (fun _ => ?_) fun _ => cC (clauses_c (fun s => comm_c c false s) hd s.next) h1 fun _ s2 h2 => .ok h2
  refine Blc.then (q1 := depN L s.k) (Blc.ite (fun _ => .ok h1) fun _ => (c.expr true s.next).use h1 (Int.le_refl _)) fun _ s2 h2 => ?_
  exact cC (clauses_c (fun s => clause_c c false s) hd s2) h2 fun _ s3 h3 => .ok h3

theorem rec_c (L : List Tok) : ∀ n, RecC L (recN n)
  | 0 => by
    constructor
    all_goals intros
    all_goals exact Blc.out
  | n + 1 => by
    have c := rec_c L n
    exact ⟨typ_c c, function_c c, block_c c, stmts_c c, stmt_c c, nested_c c, branch_c c, c.binary 1, binary_c c, unary_c c, primary_c c, simple_c c⟩
end
end Go.Proofs.ZL
