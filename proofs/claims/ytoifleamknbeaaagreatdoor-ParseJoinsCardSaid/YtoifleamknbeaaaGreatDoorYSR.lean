/- What was parsed has its brackets closed: files. -/
import Derived.Test.YtoifleamknbeaaaGreatDoorYSQ
open Go Go.Am
namespace Go.Proofs.ZL
set_option linter.unusedSimpArgs false
set_option linter.unusedVariables false

section
variable {α β : Type} {L : List Tok} {k0 : Nat} {b q q1 : Int} {s : St}
theorem decl_c {n : Nat} {r : Rec} (c : RecC L r) (hd : Bool) (s : St) : Clo L s (declF n r L hd s) := by
  unfold Clo declF
  have nx : ∀ {ts}, isR L s ts = true → ts.all (fun x => decide (wtX x = 0)) = true → Opn L s.k (depN L s.k) (depN L s.k) s.next := fun h hw => (cN 0 h hw (.refl L s)).cast (by omega)
  refine Blc.ite (fun h => ?_) fun _ => ?_
  · refine cM (nx h (by decide +kernel)) fun _ s1 h1 => cW 0 (by decide +kernel) h1 fun _ s2 h2 => cW 1 (by decide +kernel) h2 fun _ s3 h3 => ?_
    unfold fieldsR
    refine Blc.until h3 (fun x s4 h4 => ?_) fun kids s4 h4 h5 => .ok ((cN (-1) h5 (by decide +kernel) h4).cast (by omega))
    exact cM h4 fun _ s5 h5 => cC (c.typ hd s5) h5 fun _ s6 h6 => cW 0 (by decide +kernel) h6 fun _ s7 h7 => .ok (h7.cast (by omega))
  refine Blc.ite (fun h => cM (nx h (by decide +kernel)) fun _ s1 h1 => cC (c.typ hd s1) h1 fun _ s2 h2 => .ok h2) fun _ => ?_
  exact Blc.ite (fun h => cM (nx h (by decide +kernel)) fun _ s1 h1 => cC (c.function hd s1) h1 fun _ s2 h2 => .ok h2) fun _ => .fail
theorem fileGo_c {m : Nat} {r : Rec} (c : RecC L r) (hd : Bool) (hb : b ≤ q) : ∀ n x s, Opn L k0 b q s → Blc L k0 b q (fileGo m r L hd n x s) := by
  intro n
  induction n with
  | zero => exact fun _ _ _ => .out
  | succ n ih =>
    intro x s ho
    unfold fileGo
    exact Blc.ite (fun _ => .ok ho) fun _ => cC (decl_c c hd s) ho fun _ s1 h1 => cW 0 (by decide +kernel) h1 fun _ s2 h2 => ih _ _ (h2.cast (by omega))
end
end Go.Proofs.ZL
