/- What was parsed has its brackets closed: lists of statements, expressions. -/
import Derived.Test.YtoifleamknbeaaaGreatDoorYSM
open Go Go.Am
namespace Go.Proofs.ZL
set_option linter.unusedSimpArgs false
set_option linter.unusedVariables false

section
variable {α β : Type} {L : List Tok} {k0 : Nat} {b q q1 : Int} {s : St}
theorem stmtsGo_c {r : Rec} (c : RecC L r) (hd : Bool) (hb : b ≤ q) : ∀ n out s, Opn L k0 b q s → Blc L k0 b q (stmtsGo r L hd n out s) := by
  intro n
  induction n with
  | zero => exact fun _ _ _ => .out
  | succ n ih =>
    intro out s ho
    unfold stmtsGo
    refine Blc.ite (fun h => ih _ _ ((cN 0 h (by decide +kernel) ho).cast (by omega))) fun _ => ?_
    refine Blc.ite (fun h => .ok ho) fun _ => ?_
    refine cC (c.stmt hd s) ho fun x s1 h1 => ?_
    refine Blc.then (q1 := q) (Blc.ite (fun _ => .ok h1) fun _ => cW 0 (by decide +kernel) h1 fun t s2 h2 => .ok (h2.cast (by omega))) fun _ s2 h2 => ih _ _ h2
theorem stmts_c {n : Nat} {r : Rec} (c : RecC L r) (hd : Bool) (s : St) : Clo L s (stmtsF n r L hd s) := stmtsGo_c c hd (Int.le_refl _) _ _ _ (.refl L s)

theorem comma_c (ho : Opn L k0 b q s) (hb : b ≤ q) : Blc L k0 b q (commaR L s) := by
  unfold commaR
  exact Blc.ite (fun _ => .ok ho) fun _ => cW 0 (by decide +kernel) ho fun t s2 h2 => .ok (h2.cast (by omega))
/-- Items up to the closing brace, which is taken. -/
theorem items_c {r : Rec} {hd : Bool} {one : St → R Nd} (h1 : ∀ s, Opn L k0 b (q + 1) s → Blc L k0 b (q + 1) (one s)) (hb : b ≤ q) : ∀ n out s, Opn L k0 b (q + 1) s → Blc L k0 b q (itemsGo r L hd one n out s) := by
  intro n
  induction n with
  | zero => exact fun _ _ _ => .out
  | succ n ih =>
    intro out s ho
    unfold itemsGo
    refine Blc.ite (fun h => .ok ((cN (-1) h (by decide +kernel) ho).cast (by omega))) fun _ => ?_
    exact Blc.then (h1 s ho) fun x s1 h2 => Blc.then (comma_c h2 (by omega)) fun _ s2 h3 => ih _ _ h3
theorem exprs_c {n : Nat} {r : Rec} (c : RecC L r) (hd : Bool) (ho : Opn L k0 b (q + 1) s) (hb : b ≤ q) : Blc L k0 b q (exprsF n r (⟨#[41]⟩ : ByteArray) L hd s) := by
  unfold exprsF
  refine Blc.until ho (fun x s2 h2 => ?_) fun kids s2 h2 h3 => ?_
  · exact Blc.then (sep_c h2 (by omega)) fun _ s3 h3 => cC (c.expr hd s3) h3 fun t s4 h4 => .ok h4
  · exact .ok ((cN (-1) h3 (by decide +kernel) h2).cast (by omega))

theorem marked_c {n : Nat} {r : Rec} (c : RecC L r) (hd : Bool) (s : St) (hk : (tokAt L s.k).kind = 5) : Clo L s (markedF n r (tokAt L s.k) L hd s) := by
  unfold Clo markedF
  have ho := Opn.refl L s
  have ht : wtT (tokAt L s.k) = wtX (tokAt L s.k).text := by unfold wtT; rw [if_pos (.inr hk)]
  generalize depN L s.k = q at *
  have nx : ∀ {x : ByteArray} (w : Int), (tokAt L s.k).text = x → decide (wtX x = w) = true → q ≤ q + w → Opn L s.k q (q + w) s.next := fun w h1 h2 h3 => ho.next (by rw [ht, h1]; exact of_decide_eq_true h2) h3
  refine Blc.ite (fun h => cC (c.expr false s.next) (nx 1 h (by decide +kernel) (by omega)) fun x s1 h1 => cW (-1) (by decide +kernel) h1 fun _ s2 h2 => .ok (h2.cast (by omega))) fun _ => ?_
  refine Blc.ite (fun _ => .fail) fun _ => ?_
  refine Blc.ite (fun h => cM ((nx 0 h (by decide +kernel) (by omega)).cast (q1 := q) (by omega)) fun x s1 h1 => cW 1 (by decide +kernel) h1 fun _ s2 h2 => ?_) fun _ => ?_
  · refine Blc.then (q1 := q) (items_c (q := q) (fun s3 h3 => ?_) (Int.le_refl _) _ _ _ h2) fun kids s3 h3 => .ok h3
    exact cM h3 fun x s4 h4 => cW 0 (by decide +kernel) h4 fun _ s5 h5 => cC (c.expr hd s5) h5 fun x s6 h6 => .ok (h6.cast (by omega))
  refine Blc.ite (fun h => cW (-1) (by decide +kernel) (nx 1 h (by decide +kernel) (by omega)) fun _ s1 h1 => cC (c.typ hd s1) h1 fun _ s2 h2 => cW 1 (by decide +kernel) h2 fun _ s3 h3 => ?_) fun _ => .fail
  refine Blc.then (q1 := q) (items_c (q := q) (fun s4 h4 => ?_) (Int.le_refl _) _ _ _ (h3.cast (by omega))) fun kids s3 h3 => .ok h3
  exact (c.expr hd s4).use h4 (by omega)

theorem worded_c {n : Nat} {r : Rec} (c : RecC L r) (hd : Bool) (s : St) (hk : (tokAt L s.k).kind = 4) : Clo L s (wordedF n r (tokAt L s.k) L hd s) := by
  unfold Clo wordedF
  have ho := Opn.refl L s
  have ht : wtT (tokAt L s.k) = wtX (tokAt L s.k).text := by unfold wtT; rw [if_pos (.inl hk)]
  generalize depN L s.k = q at *
  have nx : ∀ {x : ByteArray}, (tokAt L s.k).text = x → decide (wtX x = 0) = true → Opn L s.k q q s.next := fun h1 h2 => ho.zero (by rw [ht, h1]; exact of_decide_eq_true h2) (Int.le_refl _)
  refine Blc.ite (fun h => .ok (by rcases h with h | h <;> exact nx h (by decide +kernel))) fun _ => ?_
  refine Blc.ite (fun h => .ok (nx h (by decide +kernel))) fun _ => ?_
  refine Blc.ite (fun h => cC (c.function hd s.next) (nx h (by decide +kernel)) fun x s1 h1 => .ok h1) fun _ => ?_
  refine Blc.ite (fun h => cW 1 (by decide +kernel) (nx h (by decide +kernel)) fun _ s1 h1 => cC (c.typ hd s1) h1 fun _ s2 h2 => ?_) fun _ => ?_
  · refine Blc.then (q1 := q + 1) (Blc.ite (fun h => cC (c.expr false s2.next) (cN 0 h (by decide +kernel) h2) fun _ s3 h3 => .ok (h3.cast (by omega))) fun _ => .ok h2) fun _ s4 h4 => ?_
    exact cW (-1) (by decide +kernel) h4 fun _ s5 h5 => .ok (h5.cast (by omega))
  refine Blc.ite (fun h => cW 1 (by decide +kernel) (nx h (by decide +kernel)) fun _ s1 h1 => cM h1 fun _ s2 h2 => cW (-1) (by decide +kernel) h2 fun _ s5 h5 => .ok (h5.cast (by omega))) fun _ => ?_
  refine Blc.ite (fun h => ?_) fun _ => .fail
  have hw : wtT (tokAt L s.k) = 0 := by
    rw [ht]
    have hall : callTexts.all (fun x => decide (wtX x = 0)) = true := by decide +kernel
    exact of_decide_eq_true (List.all_eq_true.1 hall _ (inS_iff.1 h))
  refine cW 1 (by decide +kernel) (ho.zero hw (Int.le_refl _)) fun _ s1 h1 => ?_
  exact Blc.then (exprs_c c false h1 (Int.le_refl _)) fun _ s2 h2 => .ok h2

theorem operand_c {n : Nat} {r : Rec} (c : RecC L r) (hd : Bool) (s : St) : Clo L s (operandF n r L hd s) := by
  unfold operandF
  have ho := Opn.refl L s
  have nx : wtT (tokAt L s.k) = 0 → Opn L s.k (depN L s.k) (depN L s.k) s.next := fun h => ho.zero h (Int.le_refl _)
  refine Blc.ite (fun h => .ok (nx (by unfold wtT; rw [if_neg (by omega)]))) fun _ => ?_
  refine Blc.ite (fun h => .ok (nx (by unfold wtT; rw [if_neg (by omega)]))) fun _ => ?_
  refine Blc.ite (fun h => .ok (nx (by unfold wtT; rw [if_neg (by omega)]))) fun _ => ?_
  refine Blc.ite (fun h => marked_c c hd s h) fun _ => ?_
  exact Blc.ite (fun h => worded_c c hd s h) fun _ => .fail
end
end Go.Proofs.ZL
