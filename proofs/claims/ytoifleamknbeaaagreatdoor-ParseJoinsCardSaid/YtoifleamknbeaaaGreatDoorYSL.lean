/- What was parsed has its brackets closed: types, functions, blocks. -/
import Derived.Test.YtoifleamknbeaaaGreatDoorYSK
open Go Go.Am
namespace Go.Proofs.ZL
set_option linter.unusedSimpArgs false
set_option linter.unusedVariables false

section
variable {α β : Type} {L : List Tok} {k0 : Nat} {b q q1 : Int} {s : St}
theorem wt_in {ts : List ByteArray} {w : Int} (h : isR L s ts = true) (hw : ts.all (fun x => decide (wtX x = w)) = true) : wtT (tokAt L s.k) = w := by
  unfold isR isTok at h
  simp only [Bool.and_eq_true, Bool.or_eq_true, decide_eq_true_eq] at h
  unfold wtT
  rw [if_pos h.1]
  have := List.all_eq_true.1 hw _ (inS_iff.1 h.2)
  exact of_decide_eq_true this
theorem Opn.zero (h : Opn L k0 b q s) (hw : wtT (tokAt L s.k) = 0) (hb : b ≤ q) : Opn L k0 b q s.next := by
  have := h.next hw (by omega)
  rwa [Int.add_zero] at this
theorem until_c {ts : List ByteArray} {f : α → St → R α} (hf : ∀ x s, Opn L k0 b q s → Blc L k0 b q (f x s)) : ∀ n x s, Opn L k0 b q s → ∀ y s1, untilR L ts f n x s = .ok y s1 → Opn L k0 b q s1 ∧ isR L s1 ts = true := by
  intro n
  induction n with
  | zero => intro x s _ y s1 he; cases he
  | succ n ih =>
    intro x s ho y s1 he
    unfold untilR at he
    split at he
    · rename_i h; cases he; exact ⟨ho, h⟩
    · cases hr : f x s with
      | ok z s2 => rw [hr] at he; exact ih z s2 (hf x s ho z s2 hr) y s1 he
      | bad i => rw [hr] at he; cases he
      | out => rw [hr] at he; cases he
theorem Blc.until {ts : List ByteArray} {f : α → St → R α} {g : α → St → R β} {n : Nat} {x : α} (ho : Opn L k0 b q1 s) (hf : ∀ x s, Opn L k0 b q1 s → Blc L k0 b q1 (f x s)) (hk : ∀ y s1, Opn L k0 b q1 s1 → isR L s1 ts = true → Blc L k0 b q (g y s1)) : Blc L k0 b q ((untilR L ts f n x s).then g) := by
  intro y s2 he
  cases hr : untilR L ts f n x s with
  | ok z s3 =>
    rw [hr] at he
    obtain ⟨h1, h2⟩ := until_c hf n x s ho z s3 hr
    exact hk z s3 h1 h2 y s2 he
  | bad i => rw [hr] at he; cases he
  | out => rw [hr] at he; cases he
theorem sep_c {first : Bool} (ho : Opn L k0 b q s) (hb : b ≤ q) : Blc L k0 b q (sepR L s first) := by
  unfold sepR
  refine Blc.ite (fun _ => .ok ho) fun _ => ?_
  refine Blc.then (q1 := q) ?_ fun x s1 h1 => .ok h1
  have := Blc.want (x := (⟨#[44]⟩ : ByteArray)) ho (by rw [show wtX (⟨#[44]⟩ : ByteArray) = 0 from by decide +kernel]; omega)
  rwa [show wtX (⟨#[44]⟩ : ByteArray) = 0 from by decide +kernel, Int.add_zero] at this
end

/-- What is known of the functions that call one another. -/
structure RecC (L : List Tok) (r : Rec) : Prop where
  typ : ∀ hd s, Clo L s (r.typ L hd s)
  function : ∀ hd s, Clo L s (r.function L hd s)
  block : ∀ hd s, Clo L s (r.block L hd s)
  stmts : ∀ hd s, Clo L s (r.stmts L hd s)
  stmt : ∀ hd s, Clo L s (r.stmt L hd s)
  nested : ∀ hd s, wtT (tokAt L s.k) = 0 → Clo L s (r.nested L hd s)
  branch : ∀ hd s, wtT (tokAt L s.k) = 0 → Clo L s (r.branch L hd s)
  expr : ∀ hd s, Clo L s (r.expr L hd s)
  binary : ∀ least hd s, Clo L s (r.binary least L hd s)
  unary : ∀ hd s, Clo L s (r.unary L hd s)
  primary : ∀ hd s, Clo L s (r.primary L hd s)
  simple : ∀ hd s, Clo L s (r.simple L hd s)

end Go.Proofs.ZL
