/- What was parsed has its brackets closed: primaries, operators, simple statements. -/
import Derived.Test.YtoifleamknbeaaaGreatDoorYSN
open Go Go.Am
namespace Go.Proofs.ZL
set_option linter.unusedSimpArgs false
set_option linter.unusedVariables false

section
variable {α β : Type} {L : List Tok} {k0 : Nat} {b q q1 : Int} {s : St}
theorem slice_c {r : Rec} (c : RecC L r) (hd : Bool) {n low : Nd} {t : Tok} (ho : Opn L k0 b (q + 1) s) (hb : b ≤ q) :
    Blc L k0 b q ((wantR L s (⟨#[58]⟩ : ByteArray)).then fun _ s => (if isR L s [(⟨#[93]⟩ : ByteArray)] then .ok noneN s else r.expr L hd s).then fun high s => (wantR L s (⟨#[93]⟩ : ByteArray)).then fun _ s => .ok (nd 46 t (⟨#[]⟩ : ByteArray) [n, low, high]) s) := by
  refine cW 0 (by decide +kernel) ho fun _ s1 h1 => ?_
  refine Blc.then (q1 := q + 1) (Blc.ite (fun _ => .ok (h1.cast (by omega))) fun _ => (c.expr hd s1).use (h1.cast (by omega)) (by omega)) fun x s2 h2 => ?_
  exact cW (-1) (by decide +kernel) h2 fun _ s3 h3 => .ok (h3.cast (by omega))
theorem index_c {r : Rec} (c : RecC L r) (hd : Bool) {n : Nd} {t : Tok} (ho : Opn L k0 b (q + 1) s) (hb : b ≤ q) : Blc L k0 b q (indexF r t n L hd s) := by
  unfold indexF
  refine Blc.ite (fun _ => slice_c c hd ho hb) fun _ => ?_
  refine cC (c.expr hd s) ho fun x s1 h1 => ?_
  exact Blc.ite (fun h => .ok ((cN (-1) h (by decide +kernel) h1).cast (by omega))) fun _ => slice_c c hd h1 hb

theorem primaryGo_c {m : Nat} {r : Rec} (c : RecC L r) (hb : b ≤ q) : ∀ n x bare s, Opn L k0 b q s → Blc L k0 b q (primaryGo m r L n x bare s) := by
  intro n
  induction n with
  | zero => exact fun _ _ _ _ => .out
  | succ n ih =>
    intro x bare s ho
    unfold primaryGo
    refine Blc.ite (fun h => ?_) fun _ => .ok ho
    have ht := wt_text h
    have hm : (tokAt L s.k).text = (⟨#[40]⟩ : ByteArray) ∨ (tokAt L s.k).text = (⟨#[91]⟩ : ByteArray) ∨ (tokAt L s.k).text = (⟨#[46]⟩ : ByteArray) := by
      unfold isR isTok at h
      simp only [Bool.and_eq_true] at h
      have := inS_iff.1 h.2
      simpa only [List.mem_cons, List.not_mem_nil, or_false] using this
    have nx : ∀ {x : ByteArray} (w : Int), (tokAt L s.k).text = x → decide (wtX x = w) = true → q ≤ q + w → Opn L k0 b (q + w) s.next := fun w h1 h2 h3 => ho.next (by rw [ht, h1]; exact of_decide_eq_true h2) (by omega)
    refine Blc.then (q1 := q) ?_ fun y s1 h1 => ih _ _ _ h1
    refine Blc.ite (fun h => Blc.then (exprs_c c false (nx 1 h (by decide +kernel) (by omega)) hb) fun _ s2 h2 => .ok h2) fun n1 => ?_
    refine Blc.ite (fun h => index_c c false (nx 1 h (by decide +kernel) (by omega)) hb) fun n2 => ?_
    have h3 : (tokAt L s.k).text = (⟨#[46]⟩ : ByteArray) := by rcases hm with h | h | h; exact (n1 h).elim; exact (n2 h).elim; exact h
    exact cM ((nx 0 h3 (by decide +kernel) (by omega)).cast (q1 := q) (by omega)) fun _ s2 h2 => .ok h2

theorem primary_c {m : Nat} {r : Rec} (c : RecC L r) (hd : Bool) (s : St) : Clo L s (primaryF m r L hd s) := by
  unfold Clo primaryF
  refine cC (operand_c c hd s) (.refl L s) fun x s1 h1 => ?_
  exact Blc.then (primaryGo_c c (Int.le_refl _) _ _ _ _ h1) fun y s2 h2 => .ok h2
theorem unary_c {r : Rec} (c : RecC L r) (hd : Bool) (s : St) : Clo L s (unaryF r L hd s) := by
  unfold Clo unaryF
  refine Blc.ite (fun h => ?_) fun _ => c.primary hd s
  exact cC (c.unary hd s.next) (((cN 0 h (by decide +kernel) (.refl L s)).cast (by omega))) fun u s1 h1 => .ok h1
theorem level_wt {t : Tok} (h : level t ≠ 0) : wtT t = 0 := by
  unfold level at h
  split at h
  · exact (h rfl).elim
  rename_i hk
  have hk : t.kind = 5 := by simpa using hk
  have e : wtT t = wtX t.text := by unfold wtT; rw [if_pos (.inr hk)]
  rw [e]
  split at h
  · rename_i h2; rw [h2]; decide +kernel
  split at h
  · rename_i h2; rw [h2]; decide +kernel
  have go : ∀ {ts : List ByteArray}, ts.all (fun x => decide (wtX x = 0)) = true → inS ts t.text = true → wtX t.text = 0 := fun h1 h2 => of_decide_eq_true (List.all_eq_true.1 h1 _ (inS_iff.1 h2))
  split at h
  · rename_i h2; exact go (by decide +kernel) h2
  split at h
  · rename_i h2; exact go (by decide +kernel) h2
  split at h
  · rename_i h2; exact go (by decide +kernel) h2
  · exact (h rfl).elim
theorem binaryGo_c {r : Rec} (c : RecC L r) (least : Int) (hd : Bool) (hb : b ≤ q) : ∀ n x s, Opn L k0 b q s → Blc L k0 b q (binaryGo r least L hd n x s) := by
  intro n
  induction n with
  | zero => exact fun _ _ _ => .out
  | succ n ih =>
    intro x s ho
    unfold binaryGo
    refine Blc.ite (fun _ => .ok ho) fun h => ?_
    exact cC (c.binary _ hd s.next) (ho.zero (level_wt fun h2 => h (.inr h2)) hb) fun y s1 h1 => ih _ _ h1
theorem binary_c {m : Nat} {r : Rec} (c : RecC L r) (least : Int) (hd : Bool) (s : St) : Clo L s (binaryF m r least L hd s) := by
  unfold Clo binaryF
  exact cC (c.unary hd s) (.refl L s) fun x s1 h1 => binaryGo_c c least hd (Int.le_refl _) _ _ _ h1
end
end Go.Proofs.ZL
