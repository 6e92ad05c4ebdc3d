/- What was parsed has its brackets closed: statements. -/
import Derived.Test.YtoifleamknbeaaaGreatDoorYSO
open Go Go.Am
namespace Go.Proofs.ZL
set_option linter.unusedSimpArgs false
set_option linter.unusedVariables false

section
variable {α β : Type} {L : List Tok} {k0 : Nat} {b q q1 : Int} {s : St}
theorem rest_c {r : Rec} (c : RecC L r) (n : Nd) (bare hd : Bool) (s : St) : Clo L s (restF r n bare L hd s) := by
  unfold Clo restF
  have ho := Opn.refl L s
  generalize depN L s.k = q at *
  have nx : ∀ {ts}, isR L s ts = true → ts.all (fun x => decide (wtX x = 0)) = true → Opn L s.k q q s.next := fun h hw => (cN 0 h hw ho).cast (by omega)
  refine Blc.ite (fun h => ?_) fun _ => ?_
  · simp only [Bool.and_eq_true] at h
    exact cC (c.expr hd s.next) (nx h.1.1 (by decide +kernel)) fun _ s1 h1 => .ok h1
  refine Blc.ite (fun h => ?_) fun _ => ?_
  · simp only [Bool.and_eq_true] at h
    exact cC (c.expr hd s.next) (nx h.1.1 (by decide +kernel)) fun _ s1 h1 => .ok h1
  refine Blc.ite (fun h => ?_) fun _ => ?_
  · simp only [Bool.and_eq_true] at h
    exact .ok (nx h.1.1 (by decide +kernel))
  refine Blc.ite (fun h => cC (c.expr hd s.next) (nx h (by decide +kernel)) fun _ s1 h1 => .ok h1) fun _ => ?_
  exact Blc.ite (fun _ => .ok ho) fun _ => .fail
theorem simple_c {r : Rec} (c : RecC L r) (hd : Bool) (s : St) : Clo L s (simpleF r L hd s) := by
  unfold Clo simpleF
  refine Blc.ite (fun h => cC (c.unary hd s.next) ((cN 0 h (by decide +kernel) (.refl L s)).cast (by omega)) fun _ s1 h1 => .ok h1) fun _ => ?_
  exact cC (c.primary hd s) (.refl L s) fun x s1 h1 => (rest_c c x s1.bare hd s1).use h1 (Int.le_refl _)
theorem call_c {r : Rec} (c : RecC L r) (hd : Bool) (s : St) : Clo L s (callF r L hd s) := by
  unfold Clo callF
  exact cC (c.primary hd s) (.refl L s) fun x s1 h1 => Blc.ite (fun _ => .fail) fun _ => .ok h1

theorem behind_c {r : Rec} (c : RecC L r) (hd : Bool) (s : St) : Clo L s (behindF r L hd s) := by
  unfold Clo behindF
  exact cW 0 (by decide +kernel) (.refl L s) fun _ s1 h1 => cC (c.stmts hd s1) h1 fun _ s2 h2 => .ok (h2.cast (by omega))
theorem commas_c {r : Rec} (c : RecC L r) (hd : Bool) (hb : b ≤ q) : ∀ n x s, Opn L k0 b q s → Blc L k0 b q (commasGo r L hd n x s) := by
  intro n
  induction n with
  | zero => exact fun _ _ _ => .out
  | succ n ih =>
    intro x s ho
    unfold commasGo
    exact Blc.ite (fun h => cC (c.expr hd s.next) ((cN 0 h (by decide +kernel) ho).cast (by omega)) fun y s1 h1 => ih _ _ h1) fun _ => .ok ho
theorem clause_c {n : Nat} {r : Rec} (c : RecC L r) (hd : Bool) (s : St) : Clo L s (clauseF n r L hd s) := by
  unfold Clo clauseF
  refine Blc.ite (fun h => cC (behind_c c hd s.next) ((cN 0 h (by decide +kernel) (.refl L s)).cast (by omega)) fun _ s1 h1 => .ok h1) fun _ => ?_
  refine cW 0 (by decide +kernel) (.refl L s) fun _ s1 h1 => cC (c.expr hd s1) (h1.cast (q1 := depN L s.k) (by omega)) fun _ s2 h2 => ?_
  exact Blc.then (commas_c c hd (Int.le_refl _) _ _ _ h2) fun _ s3 h3 => cC (behind_c c hd s3) h3 fun _ s4 h4 => .ok h4

theorem wt_kind {t : Tok} (h4 : t.kind ≠ 4) (h5 : t.kind ≠ 5) : wtT t = 0 := by unfold wtT; rw [if_neg (by omega)]
theorem wt_mark {t : Tok} {x : ByteArray} (h : isMark t x = true) (hx : decide (wtX x = 0) = true) : wtT t = 0 := by
  unfold isMark at h
  simp only [Bool.and_eq_true, decide_eq_true_eq] at h
  unfold wtT
  rw [if_pos (.inr h.1), h.2]
  exact of_decide_eq_true hx
theorem plain_c {r : Rec} (c : RecC L r) (hd : Bool) (s : St) : Clo L s (plainF r L hd s) := by
  unfold Clo plainF
  refine Blc.ite (fun h => ?_) fun _ => c.simple hd s
  simp only [Bool.and_eq_true, decide_eq_true_eq] at h
  have h1 := (Opn.refl L s).zero (wt_kind (by omega) (by omega)) (Int.le_refl _)
  have h2 : Opn L s.k (depN L s.k) (depN L s.k) (s.goto (s.k + 2)) := h1.zero (wt_mark h.2 (by decide +kernel)) (Int.le_refl _)
  refine Blc.ite (fun h3 => ?_) fun _ => .fail
  exact cC (c.nested hd (s.goto (s.k + 2)) (wt_in h3 (by decide +kernel))) h2 fun _ s1 h1 => .ok h1
theorem branch_c {r : Rec} (c : RecC L r) (hd : Bool) (s : St) (hw : wtT (tokAt L s.k) = 0) : Clo L s (branchF r L hd s) := by
  unfold Clo branchF
  refine Blc.ite (fun _ => .out) fun _ => ?_
  refine cC (c.expr true s.next) ((Opn.refl L s).zero hw (Int.le_refl _)) fun _ s1 h1 => cC (c.block hd s1) h1 fun _ s2 h2 => ?_
  refine Blc.then (q1 := depN L s.k) (Blc.ite (fun h => ?_) fun _ => .ok h2) fun _ s3 h3 => .ok h3
  have h3 := (cN 0 h (by decide +kernel) h2).cast (q1 := depN L s.k) (by omega)
  exact Blc.ite (fun h => (c.branch hd s2.next (wt_in h (by decide +kernel))).use h3 (Int.le_refl _)) fun _ => (c.block hd s2.next).use h3 (Int.le_refl _)

theorem stmt_c {r : Rec} (c : RecC L r) (hd : Bool) (s : St) : Clo L s (stmtF r L hd s) := by
  unfold Clo stmtF
  have ho := Opn.refl L s
  refine Blc.ite (fun h => Blc.ite (fun _ => c.block hd s) fun _ => plain_c c hd s) fun h4 => ?_
  have h4 : (tokAt L s.k).kind = 4 := Decidable.not_not.1 h4
  have ht : wtT (tokAt L s.k) = wtX (tokAt L s.k).text := by unfold wtT; rw [if_pos (.inl h4)]
  have w0 : ∀ {x : ByteArray}, (tokAt L s.k).text = x → decide (wtX x = 0) = true → wtT (tokAt L s.k) = 0 := fun h1 h2 => by rw [ht, h1]; exact of_decide_eq_true h2
  have nx : ∀ {x : ByteArray}, (tokAt L s.k).text = x → decide (wtX x = 0) = true → Opn L s.k (depN L s.k) (depN L s.k) s.next := fun h1 h2 => ho.zero (w0 h1 h2) (Int.le_refl _)
  refine Blc.ite (fun h => ?_) fun _ => ?_
  · refine cM (nx h (by decide +kernel)) fun x s1 h1 => cC (c.typ hd s1) h1 fun ty s2 h2 => ?_
    refine Blc.then (q1 := depN L s.k) (Blc.ite (fun h => (c.expr hd s2.next).use ((cN 0 h (by decide +kernel) h2).cast (by omega)) (Int.le_refl _)) fun _ => .ok h2) fun _ s3 h3 => .ok h3
  refine Blc.ite (fun h => c.branch hd s (w0 h (by decide +kernel))) fun _ => ?_
  refine Blc.ite (fun h => c.nested hd s (by rcases h with h | h | h <;> exact w0 h (by decide +kernel))) fun _ => ?_
  refine Blc.ite (fun h => ?_) fun _ => ?_
  · have h1 : Opn L s.k (depN L s.k) (depN L s.k) s.next := by rcases h with h | h <;> exact nx h (by decide +kernel)
    exact Blc.ite (fun h => .ok (h1.zero (wt_kind (by omega) (by omega)) (Int.le_refl _))) fun _ => .ok h1
  refine Blc.ite (fun h => .ok (nx h (by decide +kernel))) fun _ => ?_
  refine Blc.ite (fun h => Blc.ite (fun _ => .ok (nx h (by decide +kernel))) fun _ => cC (c.expr hd s.next) (nx h (by decide +kernel)) fun _ s1 h1 => .ok h1) fun _ => ?_
  refine Blc.ite (fun h => cC (call_c c hd s.next) (by rcases h with h | h <;> exact nx h (by decide +kernel)) fun _ s1 h1 => .ok h1) fun _ => plain_c c hd s
end
end Go.Proofs.ZL
