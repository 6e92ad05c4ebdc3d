/- What was parsed has its brackets closed: types, functions, blocks. -/
import Derived.Test.YtoifleamknbeaaaGreatDoorYSL
open Go Go.Am
namespace Go.Proofs.ZL
set_option linter.unusedSimpArgs false
set_option linter.unusedVariables false

section
variable {α β : Type} {L : List Tok} {k0 : Nat} {b q q1 : Int} {s : St}
theorem cW {x : ByteArray} {f : Tok → St → R β} (w : Int) (hw : decide (wtX x = w) = true) (ho : Opn L k0 b q1 s) (hk : ∀ t s1, Opn L k0 b (q1 + w) s1 → Blc L k0 b q (f t s1)) (hb : b ≤ q1 + w := by omega) : Blc L k0 b q ((wantR L s x).then f) := by
  have e := of_decide_eq_true hw
  refine Blc.then (q1 := q1 + w) ?_ hk
  rw [← e]; exact Blc.want ho (by rw [e]; exact hb)
theorem cM {f : Tok → St → R β} (ho : Opn L k0 b q1 s) (hk : ∀ t s1, Opn L k0 b q1 s1 → Blc L k0 b q (f t s1)) (hb : b ≤ q1 := by omega) : Blc L k0 b q ((nameR L s).then f) := Blc.then (Blc.name ho hb) hk
theorem cC {r : R α} {f : α → St → R β} (h : Clo L s r) (ho : Opn L k0 b q1 s) (hk : ∀ t s1, Opn L k0 b q1 s1 → Blc L k0 b q (f t s1)) (hb : b ≤ q1 := by omega) : Blc L k0 b q (r.then f) := Blc.then (h.use ho hb) hk
theorem cN {ts : List ByteArray} (w : Int) (h : isR L s ts = true) (hw : ts.all (fun x => decide (wtX x = w)) = true) (ho : Opn L k0 b q s) (hb : b ≤ q + w := by omega) : Opn L k0 b (q + w) s.next := ho.next (wt_in h hw) hb

theorem block_c {r : Rec} (c : RecC L r) (hd : Bool) (s : St) : Clo L s (blockF r L hd s) := by
  unfold Clo blockF
  have ho := Opn.refl L s
  generalize depN L s.k = q at *
  refine cW 1 (by decide +kernel) ho fun t s1 h1 => ?_
  refine cC (c.stmts hd s1) h1 fun l s2 h2 => ?_
  refine cW (-1) (by decide +kernel) h2 fun t s3 h3 => ?_
  rw [show q + 1 + -1 = q by omega] at h3
  exact .ok h3

theorem wt_text {ts : List ByteArray} (h : isR L s ts = true) : wtT (tokAt L s.k) = wtX (tokAt L s.k).text := by
  unfold isR isTok at h
  simp only [Bool.and_eq_true, Bool.or_eq_true, decide_eq_true_eq] at h
  unfold wtT
  rw [if_pos h.1]
theorem Opn.cast (h : Opn L k0 b q s) (e : q = q1) : Opn L k0 b q1 s := e ▸ h

theorem typ_c {n : Nat} {r : Rec} (c : RecC L r) (hd : Bool) (s : St) : Clo L s (typF n r L hd s) := by
  unfold Clo typF
  have ho := Opn.refl L s
  generalize depN L s.k = q at *
  refine Blc.ite (fun h => ?_) fun _ => .fail
  have ht := wt_text h
  have nx : ∀ {x : ByteArray} (w : Int), (tokAt L s.k).text = x → decide (wtX x = w) = true → q ≤ q + w → Opn L s.k q (q + w) s.next := fun w h1 h2 h3 => ho.next (by rw [ht, h1]; exact of_decide_eq_true h2) h3
  simp only
  refine Blc.ite (fun h => .ok ((nx 0 h (by decide +kernel) (by omega)).cast (by omega))) fun _ => ?_
  refine Blc.ite (fun h => .ok ((nx 0 h (by decide +kernel) (by omega)).cast (by omega))) fun _ => ?_
  refine Blc.ite (fun h => .ok ((nx 0 h (by decide +kernel) (by omega)).cast (by omega))) fun _ => ?_
  refine Blc.ite (fun h => cM ((nx 0 h (by decide +kernel) (by omega)).cast (q1 := q) (by omega)) fun t s1 h1 => .ok h1) fun _ => ?_
  refine Blc.ite (fun h => cW (-1) (by decide +kernel) (nx 1 h (by decide +kernel) (by omega)) fun t s1 h1 => cC (c.typ hd s1) h1 fun t s2 h2 => .ok (h2.cast (by omega))) fun _ => ?_
  refine Blc.ite (fun h => cC (c.typ hd s.next) (nx 0 h (by decide +kernel) (by omega)) fun t s2 h2 => .ok (h2.cast (by omega))) fun _ => ?_
  have hf : (tokAt L s.k).text = (⟨#[102, 117, 110, 99]⟩ : ByteArray) := by
    unfold isR isTok at h
    simp only [Bool.and_eq_true, Bool.or_eq_true, decide_eq_true_eq] at h
    have hm := inS_iff.1 h.2
    simp only [typeTexts, List.mem_cons, List.not_mem_nil, or_false] at hm
    rcases hm with h | h | h | h | h | h | h <;> first | exact h | contradiction
  have h0 := (nx 0 hf (by decide +kernel) (by omega)).cast (q1 := q) (by omega)
  refine cW 1 (by decide +kernel) h0 fun t s1 h1 => ?_
  refine Blc.until h1 (fun x s2 h2 => ?_) fun kids s2 h2 h3 => ?_
  · exact Blc.then (sep_c h2 (by omega)) fun _ s3 h3 => cC (c.typ hd s3) h3 fun t s4 h4 => .ok h4
  · have h4 := (cN (-1) h3 (by decide +kernel) h2).cast (q1 := q) (by omega)
    exact Blc.ite (fun _ => cC (c.typ hd s2.next) h4 fun t s5 h5 => .ok h5) fun _ => .ok h4

theorem function_c {n : Nat} {r : Rec} (c : RecC L r) (hd : Bool) (s : St) : Clo L s (functionF n r L hd s) := by
  unfold Clo functionF
  have ho := Opn.refl L s
  generalize depN L s.k = q at *
  refine cW 1 (by decide +kernel) ho fun t s1 h1 => ?_
  refine Blc.until h1 (fun x s2 h2 => ?_) fun kids s2 h2 h3 => ?_
  · exact Blc.then (sep_c h2 (by omega)) fun _ s3 h3 => cM h3 fun x s4 h4 => cC (c.typ hd s4) h4 fun t s5 h5 => .ok h5
  · have h4 := (cN (-1) h3 (by decide +kernel) h2).cast (q1 := q) (by omega)
    refine Blc.then (q1 := q) (Blc.ite (fun _ => .ok h4) fun _ => (c.typ hd s2.next).use h4 (Int.le_refl _)) fun x s3 h5 => ?_
    exact cC (c.block false s3) h5 fun x s4 h6 => .ok h6
end
end Go.Proofs.ZL
