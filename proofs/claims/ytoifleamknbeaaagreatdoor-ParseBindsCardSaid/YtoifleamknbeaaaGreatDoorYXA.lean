/- Operators bind as their levels say: rows of units, and what merging two units of the strongest level changes. -/
import Derived.Test.YtoifleamknbeaaaGreatDoorYNO
open Go Go.Am
namespace Go.Proofs.ZL
set_option maxRecDepth 100000
set_option linter.unusedSimpArgs false
set_option linter.unusedVariables false

def opL : List ByteArray := [(⟨#[124, 124]⟩ : ByteArray), (⟨#[38, 38]⟩ : ByteArray), (⟨#[61, 61]⟩ : ByteArray), (⟨#[33, 61]⟩ : ByteArray), (⟨#[60]⟩ : ByteArray), (⟨#[60, 61]⟩ : ByteArray), (⟨#[62]⟩ : ByteArray), (⟨#[62, 61]⟩ : ByteArray), (⟨#[43]⟩ : ByteArray), (⟨#[45]⟩ : ByteArray), (⟨#[42]⟩ : ByteArray), (⟨#[47]⟩ : ByteArray), (⟨#[37]⟩ : ByteArray)]
def lvL : List Nat := [1, 2, 3, 3, 3, 3, 3, 3, 4, 4, 5, 5, 5]
def opX (k : Nat) : ByteArray := opL.getD k .empty
def lv (k : Nat) : Nat := lvL.getD k 0

inductive Ex
 | nm (x : List UInt8)
 | pr (l : Ex) (k : Nat) (r : Ex)

def bin (k : Nat) (l r : Nd) : Nd := .mk 42 (opX k) 0 0 (⟨#[]⟩ : ByteArray) 0 [l, r]
def Ex.tr : Ex → Nd
 | .nm x => .mk 40 (bts x) 0 0 (⟨#[]⟩ : ByteArray) 0 []
 | .pr l k r => bin k l.tr r.tr

inductive Bnd : Nat → Nd → List (Nat × Ex) → Nd → List (Nat × Ex) → Prop
 | nil {n : Nat} {u : Nd} : Bnd n u [] u []
 | stop {n k : Nat} {u : Nd} {e : Ex} {r : List (Nat × Ex)} : lv k < n → Bnd n u ((k, e) :: r) u ((k, e) :: r)
 | step {n k : Nat} {u x t : Nd} {e : Ex} {r m o : List (Nat × Ex)} : n ≤ lv k → Bnd (lv k + 1) e.tr r x m → Bnd n (bin k u x) m t o → Bnd n u ((k, e) :: r) t o

inductive Mg (l : Nat) : Ex → List (Nat × Ex) → Ex → List (Nat × Ex) → Prop
 | here {k : Nat} {u e : Ex} {r : List (Nat × Ex)} : lv k = l → (∀ p ∈ r, lv p.1 ≤ l) → Mg l u ((k, e) :: r) (.pr u k e) r
 | later {k : Nat} {u e e' : Ex} {r r' : List (Nat × Ex)} : lv k < l → Mg l e r e' r' → Mg l u ((k, e) :: r) u ((k, e') :: r')
def MgN (l : Nat) (u : Nd) (r : List (Nat × Ex)) (u' : Nd) (r' : List (Nat × Ex)) : Prop :=
 (∃ k e, r = (k, e) :: r' ∧ u' = bin k u e.tr ∧ lv k = l ∧ ∀ p ∈ r', lv p.1 ≤ l) ∨
 (u = u' ∧ ∃ k e s e' s', r = (k, e) :: s ∧ r' = (k, e') :: s' ∧ lv k < l ∧ Mg l e s e' s')
theorem Mg.toN {l : Nat} {u u' : Ex} {r r' : List (Nat × Ex)} (h : Mg l u r u' r') : MgN l u.tr r u'.tr r' := by
 cases h with
 | here h1 h2 => exact .inl ⟨_, _, rfl, rfl, h1, h2⟩
 | later h1 h2 => exact .inr ⟨rfl, _, _, _, _, _, rfl, rfl, h1, h2⟩

theorem Bnd.weak {l : Nat} {u t : Nd} {r o : List (Nat × Ex)} (h : Bnd (l + 1) u r t o) (hr : ∀ p ∈ r, lv p.1 ≤ l) : t = u ∧ o = r := by
 cases h with
 | nil => exact ⟨rfl, rfl⟩
 | stop => exact ⟨rfl, rfl⟩
 | step h1 _ _ => exact absurd (hr _ List.mem_cons_self) (by simp only; omega)

theorem Bnd.mg {n : Nat} {u t : Nd} {r o : List (Nat × Ex)} (h : Bnd n u r t o) : ∀ {l : Nat} {u' : Nd} {r' : List (Nat × Ex)}, ((u = u' ∧ r = r') ∨ MgN l u r u' r') → n ≤ l →
  ∃ o', Bnd n u' r' t o' ∧ (o = o' ∨ ∃ k e s e' s', o = (k, e) :: s ∧ o' = (k, e') :: s' ∧ lv k < l ∧ Mg l e s e' s') := by
 induction h with
 | @nil n u =>
  intro l u' r' h hn
  rcases h with ⟨rfl, rfl⟩ | ⟨k, e, h, _⟩ | ⟨_, k, e, s, e', s', h, _⟩
  ·exact ⟨[], .nil, .inl rfl⟩
  ·cases h
  ·cases h
 | @stop n k u e r hk =>
  intro l u' r' h hn
  rcases h with ⟨rfl, rfl⟩ | ⟨k2, e2, h, _, h2, _⟩ | ⟨rfl, k2, e2, s, e', s', h, rfl, h2, h3⟩
  ·exact ⟨_, .stop hk, .inl rfl⟩
  ·cases h; omega
  ·cases h; exact ⟨_, .stop hk, .inr ⟨_, _, _, _, _, rfl, rfl, h2, h3⟩⟩
 | @step n k u x t e r m o hk h1 h2 ih1 ih2 =>
  intro l u' r' h hn
  rcases h with ⟨rfl, rfl⟩ | ⟨k2, e2, h, rfl, h3, h4⟩ | ⟨rfl, k2, e2, s, e', s', h, rfl, h3, h4⟩
  ·exact ⟨_, .step hk h1 h2, .inl rfl⟩
  ·cases h
   rw [h3] at h1
   obtain ⟨rfl, rfl⟩ := h1.weak h4
   exact ⟨_, h2, .inl rfl⟩
  ·cases h
   obtain ⟨m', g1, g2⟩ := ih1 (.inr h4.toN) (by omega)
   have hrel : (bin k u x = bin k u x ∧ m = m') ∨ MgN l (bin k u x) m (bin k u x) m' := by
    rcases g2 with rfl | ⟨k3, e3, s3, e4, s4, rfl, rfl, h5, h6⟩
    ·exact .inl ⟨rfl, rfl⟩
    ·exact .inr (.inr ⟨rfl, _, _, _, _, _, rfl, rfl, h5, h6⟩)
   obtain ⟨o', g3, g4⟩ := ih2 hrel hn
   exact ⟨o', .step hk g1 g3, g4⟩

theorem Bnd.all {n : Nat} {u t : Nd} {r o : List (Nat × Ex)} (h : Bnd n u r t o) : (∀ p ∈ r, n ≤ lv p.1) → o = [] ∨ ∃ k e s, o = (k, e) :: s ∧ lv k < n := by
 induction h with
 | nil => intro _; exact .inl rfl
 | stop hk => intro _; exact .inr ⟨_, _, _, rfl, hk⟩
 | @step n k u x t e r m o hk h1 h2 ih1 ih2 =>
  intro hr
  refine ih2 fun p hp => ?_
  have : ∀ {n u t r o}, Bnd n u r t o → ∀ p ∈ o, p ∈ r := by
   intro n u t r o h
   induction h with
   | nil => exact fun p hp => hp
   | stop _ => exact fun p hp => hp
   | step _ _ _ i1 i2 => exact fun p hp => List.mem_cons_of_mem _ (i1 p (i2 p hp))
  exact hr p (List.mem_cons_of_mem _ (this h1 p hp))

theorem Bnd.ex : ∀ (m n : Nat) (u : Nd) (r : List (Nat × Ex)), r.length ≤ m → ∃ t o, Bnd n u r t o ∧ o.length ≤ r.length
 | _, n, u, [], _ => ⟨u, [], .nil, Nat.le_refl _⟩
 | 0, n, u, p :: r, h => by simp at h
 | m + 1, n, u, (k, e) :: r, h => by
  rcases Nat.lt_or_ge (lv k) n with hk | hk
  ·exact ⟨u, _, .stop hk, Nat.le_refl _⟩
  ·obtain ⟨x, q, h1, h2⟩ := Bnd.ex m (lv k + 1) e.tr r (by simp at h; omega)
   obtain ⟨t, o, h3, h4⟩ := Bnd.ex m n (bin k u x) q (by simp at h; omega)
   exact ⟨t, o, .step hk h1 h3, by simp; omega⟩
theorem Bnd.one {u : Nd} {r : List (Nat × Ex)} (hr : ∀ p ∈ r, 1 ≤ lv p.1) : ∃ t, Bnd 1 u r t [] := by
 obtain ⟨t, o, h, _⟩ := Bnd.ex r.length 1 u r (Nat.le_refl _)
 rcases h.all hr with rfl | ⟨k, e, s, rfl, hk⟩
 ·exact ⟨t, h⟩
 ·have hm : ∀ {n u t r o}, Bnd n u r t o → ∀ p ∈ o, p ∈ r := by
   intro n u t r o h
   induction h with
   | nil => exact fun p hp => hp
   | stop _ => exact fun p hp => hp
   | step _ _ _ i1 i2 => exact fun p hp => List.mem_cons_of_mem _ (i1 p (i2 p hp))
  have := hr _ (hm h _ List.mem_cons_self)
  simp only at this
  omega

theorem Bnd.merge {l : Nat} {u u' : Ex} {r r' : List (Nat × Ex)} {t : Nd} (h : Bnd 1 u.tr r t []) (hm : Mg l u r u' r') (hl : 1 ≤ l) : Bnd 1 u'.tr r' t [] := by
 obtain ⟨o', h1, h2⟩ := h.mg (.inr hm.toN) hl
 rcases h2 with rfl | ⟨_, _, _, _, _, h, _⟩
 ·exact h1
 ·cases h
end Go.Proofs.ZL
