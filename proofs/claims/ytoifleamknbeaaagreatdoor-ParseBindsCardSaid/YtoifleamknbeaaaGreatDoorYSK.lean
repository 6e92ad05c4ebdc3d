/- What was parsed has its brackets closed: the rules. -/
import Derived.Test.YtoifleamknbeaaaGreatDoorYSJ
open Go Go.Am
namespace Go.Proofs.ZL
set_option linter.unusedSimpArgs false
set_option linter.unusedVariables false

def wtX (x : ByteArray) : Int := if inS opensB x then 1 else if inS closesB x then -1 else 0
def wtT (t : Tok) : Int := if t.kind = 4 ∨ t.kind = 5 then wtX t.text else 0
def depN (L : List Tok) : Nat → Int
 | 0 => 0
 | k + 1 => depN L k + wtT (tokAt L k)

def Opn (L : List Tok) (k0 : Nat) (b : Int) (q : Int) (s : St) : Prop := k0 ≤ s.k ∧ depN L s.k = q ∧ ∀ i, k0 ≤ i → i ≤ s.k → b ≤ depN L i
def Blc {α : Type} (L : List Tok) (k0 : Nat) (b q : Int) (r : R α) : Prop := ∀ x s, r = .ok x s → Opn L k0 b q s
def Clo {α : Type} (L : List Tok) (s : St) (r : R α) : Prop := Blc L s.k (depN L s.k) (depN L s.k) r

section
variable {α β : Type} {L : List Tok} {k0 : Nat} {b q q1 : Int} {s : St}
theorem Opn.refl (L : List Tok) (s : St) : Opn L s.k (depN L s.k) (depN L s.k) s := ⟨Nat.le_refl _, rfl, fun i h1 h2 => by rw [Nat.le_antisymm h1 h2]; exact Int.le_refl _⟩
theorem Opn.next (h : Opn L k0 b q s) {w : Int} (hw : wtT (tokAt L s.k) = w) (hb : b ≤ q + w) : Opn L k0 b (q + w) s.next := by
 obtain ⟨h1, h2, h3⟩ := h
 have e : depN L (s.k + 1) = q + w := by rw [← h2, ← hw]; rfl
 refine ⟨Nat.le_succ_of_le h1, e, fun i hi hj => ?_⟩
 rcases Nat.lt_or_ge i (s.k + 1) with h | h
 ·exact h3 i hi (Nat.lt_succ_iff.1 h)
 ·rw [Nat.le_antisymm hj h]; show b ≤ depN L (s.k + 1); rw [e]; exact hb
theorem Blc.then {r : R α} {f : α → St → R β} (h : Blc L k0 b q1 r) (hk : ∀ x s, Opn L k0 b q1 s → Blc L k0 b q (f x s)) : Blc L k0 b q (r.then f) := by
 intro y s2 he
 cases hr : r with
 | ok x s => rw [hr] at he; exact hk x s (h x s hr) y s2 he
 | bad i => rw [hr] at he; cases he
 | out => rw [hr] at he; cases he
theorem Blc.ite {c : Prop} [Decidable c] {A B : R α} (h1 : c → Blc L k0 b q A) (h2 : ¬ c → Blc L k0 b q B) : Blc L k0 b q (if c then A else B) := by split <;> rename_i h; exact h1 h; exact h2 h
theorem Blc.ok {x : α} (h : Opn L k0 b q s) : Blc L k0 b q (.ok x s) := fun y s2 he => by cases he; exact h
theorem Blc.fail : Blc L k0 b q (failR L s : R α) := fun y s2 he => by cases he
theorem Blc.out : Blc L k0 b q (.out : R α) := fun y s2 he => by cases he
theorem Clo.use {r : R α} (h : Clo L s r) (ho : Opn L k0 b q s) (hb : b ≤ q) : Blc L k0 b q r := by
 intro x s1 he
 obtain ⟨h1, h2, h3⟩ := h x s1 he
 obtain ⟨o1, o2, o3⟩ := ho
 refine ⟨Nat.le_trans o1 h1, by rw [h2, o2], fun i hi hj => ?_⟩
 rcases Nat.lt_or_ge i s.k with h | h
 ·exact o3 i hi (Nat.le_of_lt h)
 ·have := h3 i h hj; rw [o2] at this; exact Int.le_trans hb this
theorem wt_is {x : ByteArray} (h : isR L s [x] = true) : wtT (tokAt L s.k) = wtX x := by
 unfold isR isTok at h
 simp only [Bool.and_eq_true, Bool.or_eq_true, decide_eq_true_eq] at h
 unfold wtT
 rw [if_pos h.1]
 have := inS_iff.1 h.2
 simp only [List.mem_singleton] at this
 rw [this]
theorem Blc.want {x : ByteArray} (ho : Opn L k0 b q s) (hb : b ≤ q + wtX x) : Blc L k0 b (q + wtX x) (wantR L s x) := by
 unfold wantR
 exact Blc.ite (fun h => .ok (ho.next (wt_is h) hb)) fun _ => .fail
theorem Blc.name (ho : Opn L k0 b q s) (hb : b ≤ q) : Blc L k0 b q (nameR L s) := by
 unfold nameR
 refine Blc.ite (fun h => .ok ?_) fun _ => .fail
 have := ho.next (w := 0) (by unfold wtT; rw [if_neg (by omega)]) (by omega)
 rwa [Int.add_zero] at this
end

end Go.Proofs.ZL
