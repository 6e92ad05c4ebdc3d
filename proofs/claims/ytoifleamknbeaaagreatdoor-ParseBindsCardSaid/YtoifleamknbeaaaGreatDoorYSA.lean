/- The parser on two lists of tokens that are alike over a stretch: what it does there is alike; and it ends. The rules. -/
import Derived.Test.YtoifleamknbeaaaGreatDoorYRA
open Go Go.Am
namespace Go.Proofs.ZL
set_option linter.unusedSimpArgs false
set_option linter.unusedVariables false

def TokR (P : Int → Int → Prop) (t t' : Tok) : Prop := ∃ p, P t.pos p ∧ t' = ⟨t.kind, t.text, t.num, p⟩

inductive NdR (P : Int → Int → Prop) : Nd → Nd → Prop
 | mk (kind : Int) (text : ByteArray) (num pos pos' : Int) (typ : ByteArray) (ref : Int) (kids kids' : List Nd) : P pos pos' → kids.length = kids'.length →
   (∀ (i : Nat) t t', kids[i]? = some t → kids'[i]? = some t' → NdR P t t') → NdR P (.mk kind text num pos typ ref kids) (.mk kind text num pos' typ ref kids')
def LR (P : Int → Int → Prop) (l l' : List Nd) : Prop := l.length = l'.length ∧ ∀ (i : Nat) t t', l[i]? = some t → l'[i]? = some t' → NdR P t t'

theorem NdR.of {P : Int → Int → Prop} {kids kids' : List Nd} {pos pos' : Int} (hp : P pos pos') (hk : LR P kids kids') (kind : Int) (text : ByteArray) (num : Int) (typ : ByteArray) (ref : Int) : NdR P (.mk kind text num pos typ ref kids) (.mk kind text num pos' typ ref kids') :=
 .mk _ _ _ _ _ _ _ _ _ hp hk.1 hk.2
theorem LR.nil (P : Int → Int → Prop) : LR P [] [] := ⟨rfl, fun i t t' h => by cases h⟩
theorem LR.cons {P : Int → Int → Prop} {t t' : Nd} {l l' : List Nd} (h : NdR P t t') (hl : LR P l l') : LR P (t :: l) (t' :: l') := by
 refine ⟨by rw [List.length_cons, List.length_cons, hl.1], fun i u u' h1 h2 => ?_⟩
 cases i with
 | zero => simp only [List.getElem?_cons_zero, Option.some.injEq] at h1 h2; subst h1; subst h2; exact h
 | succ i => exact hl.2 i u u' (by simpa using h1) (by simpa using h2)
theorem LR.app {P : Int → Int → Prop} {l l' m m' : List Nd} (hl : LR P l l') (hm : LR P m m') : LR P (l ++ m) (l' ++ m') := by
 refine ⟨by rw [List.length_append, List.length_append, hl.1, hm.1], fun i u u' h1 h2 => ?_⟩
 rcases Nat.lt_or_ge i l.length with h | h
 ·rw [List.getElem?_append_left h] at h1
  rw [List.getElem?_append_left (by rw [← hl.1]; exact h)] at h2
  exact hl.2 i u u' h1 h2
 ·rw [List.getElem?_append_right h] at h1
  rw [List.getElem?_append_right (by rw [← hl.1]; exact h), ← hl.1] at h2
  exact hm.2 _ u u' h1 h2
theorem LR.one {P : Int → Int → Prop} {t t' : Nd} (h : NdR P t t') : LR P [t] [t'] := .cons h (.nil P)

mutual
theorem NdR.tot {P : Int → Int → Prop} (h : ∀ p, ∃ p', P p p') : ∀ t : Nd, ∃ t', NdR P t t'
 | .mk k x n p ty r ks => by
  obtain ⟨p', hp⟩ := h p
  obtain ⟨l', hl⟩ := LR.tot h ks
  exact ⟨_, NdR.of hp hl k x n ty r⟩
theorem LR.tot {P : Int → Int → Prop} (h : ∀ p, ∃ p', P p p') : ∀ l : List Nd, ∃ l', LR P l l'
 | [] => ⟨[], .nil P⟩
 | t :: l => by
  obtain ⟨t', ht⟩ := NdR.tot h t
  obtain ⟨l', hl⟩ := LR.tot h l
  exact ⟨_, .cons ht hl⟩
end

theorem TokR.tot {P : Int → Int → Prop} (h : ∀ p, ∃ p', P p p') (t : Tok) : ∃ t', TokR P t t' := by
 obtain ⟨p, hp⟩ := h t.pos
 exact ⟨_, p, hp, rfl⟩

def St.sh (d : Nat) (s : St) : St := ⟨d + s.k, s.bare⟩

structure Alike (P : Int → Int → Prop) (L L' : List Tok) (d a0 e : Nat) : Prop where
 zero : P 0 0
 tot : ∀ p, ∃ p', P p p'
 agr : ∀ i, a0 ≤ i → i ≤ e → TokR P (tokAt L i) (tokAt L' (d + i))

def Bd {α : Type} (e d len : Nat) (W : α → St → Prop) (V : α → α → Prop) (Fu : Prop) (a b : Nat) (r r' : R α) : Prop := match r with
 | .ok x s => b ≤ s.k ∧ s.k ≤ len ∧ W x s ∧ (s.k ≤ e → ∃ x', r' = .ok x' (s.sh d) ∧ V x x')
 | .bad i => a ≤ i ∧ (i ≤ e → r' = .bad (d + i))
 | .out => ¬ Fu

section
variable {α β : Type} {e d len : Nat} {W : α → St → Prop} {V : α → α → Prop} {W2 : β → St → Prop} {V2 : β → β → Prop} {Fu Fu' : Prop} {a b a' b' : Nat} {r r' : R α}

theorem Bd.weak (h : Bd e d len W V Fu' a' b' r r') (hf : Fu → Fu') (ha : a ≤ a') (hb : b ≤ b') : Bd e d len W V Fu a b r r' := by
 cases r with
 | ok x s => exact ⟨Nat.le_trans hb h.1, h.2⟩
 | bad i => exact ⟨Nat.le_trans ha h.1, h.2⟩
 | out => exact fun hu => h (hf hu)

theorem Bd.then {f f' : α → St → R β} (h : Bd e d len W V Fu' a' b' r r') (hf : Fu → Fu') (ha : a ≤ a') (hb : a ≤ b') (tot : ∀ x s, W x s → ∃ x', V x x')
  (hk : ∀ x x' s, b' ≤ s.k → s.k ≤ len → W x s → V x x' → Bd e d len W2 V2 Fu s.k (max b s.k) (f x s) (f' x' (s.sh d))) : Bd e d len W2 V2 Fu a b (r.then f) (r'.then f') := by
 cases r with
 | ok x s =>
  obtain ⟨h1, h2, h3, h4⟩ := h
  obtain ⟨x', hx⟩ := tot x s h3
  have hc := hk x x' s h1 h2 h3 hx
  show Bd e d len W2 V2 Fu a b (f x s) (r'.then f')
  cases hr : f x s with
  | ok y s2 =>
   rw [hr] at hc
   obtain ⟨c1, c2, c3, _⟩ := hc
   refine ⟨by omega, c2, c3, fun he => ?_⟩
   obtain ⟨y', hy, hv⟩ := h4 (by omega)
   have hc2 := hk x y' s h1 h2 h3 hv
   rw [hr] at hc2
   obtain ⟨z, hz, hv2⟩ := hc2.2.2.2 he
   exact ⟨z, by rw [hy]; exact hz, hv2⟩
  | bad i =>
   rw [hr] at hc
   have c1 : s.k ≤ i := hc.1
   refine ⟨by omega, fun he => ?_⟩
   obtain ⟨y', hy, hv⟩ := h4 (by omega)
   have hc2 := hk x y' s h1 h2 h3 hv
   rw [hr] at hc2
   rw [hy]; exact hc2.2 he
  | out => rw [hr] at hc; exact hc
 | bad i => exact ⟨Nat.le_trans ha h.1, fun he => by rw [h.2 he]; rfl⟩
 | out => exact fun hu => h (hf hu)

theorem Bd.at (k : Nat) (hk : a ≤ k) (h : Bd e d len W V Fu k (max b k) r r') : Bd e d len W V Fu a b r r' := h.weak id hk (by omega)

theorem Bd.ite {c c' : Prop} [Decidable c] [Decidable c'] {A B A' B' : R α} (hs : a ≤ e → (c' ↔ c)) (hab : a ≤ b) (h1 : c → Bd e d len W V Fu a b A A') (h2 : ¬ c → Bd e d len W V Fu a b B B') :
  Bd e d len W V Fu a b (if c then A else B) (if c' then A' else B') := by
 by_cases hc : c
 ·rw [if_pos hc]
  have h := h1 hc
  cases hr : A with
  | ok x s => rw [hr] at h; exact ⟨h.1, h.2.1, h.2.2.1, fun he => by have := h.1; rw [if_pos ((hs (by omega)).2 hc)]; exact h.2.2.2 he⟩
  | bad i => rw [hr] at h; exact ⟨h.1, fun he => by have := h.1; rw [if_pos ((hs (by omega)).2 hc)]; exact h.2 he⟩
  | out => rw [hr] at h; exact h
 ·rw [if_neg hc]
  have h := h2 hc
  cases hr : B with
  | ok x s => rw [hr] at h; exact ⟨h.1, h.2.1, h.2.2.1, fun he => by have := h.1; rw [if_neg (fun x => hc ((hs (by omega)).1 x))]; exact h.2.2.2 he⟩
  | bad i => rw [hr] at h; exact ⟨h.1, fun he => by have := h.1; rw [if_neg (fun x => hc ((hs (by omega)).1 x))]; exact h.2 he⟩
  | out => rw [hr] at h; exact h

theorem Bd.ok {x x' : α} {s : St} (hb : b ≤ s.k) (hl : s.k ≤ len) (hw : W x s) (hv : s.k ≤ e → V x x') : Bd e d len W V Fu a b (.ok x s) (.ok x' (s.sh d)) := ⟨hb, hl, hw, fun he => ⟨x', rfl, hv he⟩⟩
theorem Bd.fail {L L' : List Tok} {s : St} (ha : a ≤ s.k) : Bd e d len W V Fu a b (failR L s) (failR L' (s.sh d)) := ⟨ha, fun _ => rfl⟩
theorem Bd.out (h : ¬ Fu) : Bd e d len W V Fu a b .out r' := h
end

theorem tokAt_lt {L : List Tok} {k : Nat} (h : (tokAt L k).kind ≠ 6) : k < L.length := by
 rcases Nat.lt_or_ge k L.length with h' | h'
 ·exact h'
 ·exfalso; apply h; unfold tokAt; rw [List.getD_eq_getElem?_getD, List.getElem?_eq_none h']; rfl
theorem isR_lt {L : List Tok} {s : St} {ts : List ByteArray} (h : isR L s ts = true) : s.k < L.length := tokAt_lt (isTok_kind h)

section
variable {P : Int → Int → Prop} {L L' : List Tok} {d a0 e : Nat}
theorem Alike.is (g : Alike P L L' d a0 e) {s : St} {ts : List ByteArray} (ha : a0 ≤ s.k) (he : s.k ≤ e) : isR L' (s.sh d) ts = isR L s ts := by
 obtain ⟨p, _, h⟩ := g.agr s.k ha he
 unfold isR
 rw [show (s.sh d).k = d + s.k from rfl, h]
 rfl

abbrev BT (P : Int → Int → Prop) (e d len : Nat) (Fu : Prop) (a b : Nat) (r r' : R Tok) : Prop := Bd e d len (fun t _ => t.kind ≠ 6) (TokR P) Fu a b r r'
abbrev BN (P : Int → Int → Prop) (e d len : Nat) (Fu : Prop) (a b : Nat) (r r' : R Nd) : Prop := Bd e d len (fun t _ => Small (len + 10) t) (NdR P) Fu a b r r'
def LW (len : Nat) (l : List Nd) (s : St) : Prop := l.length ≤ s.k + 5 ∧ ∀ (i : Nat) t, l[i]? = some t → Small (len + 10) t
abbrev BL (P : Int → Int → Prop) (e d len : Nat) (Fu : Prop) (a b : Nat) (r r' : R (List Nd)) : Prop := Bd e d len (fun l s => LW len l s) (LR P) Fu a b r r'

theorem want_b (g : Alike P L L' d a0 e) {s : St} {t : ByteArray} {Fu : Prop} (ha : a0 ≤ s.k) : BT P e d L.length Fu s.k (s.k + 1) (wantR L s t) (wantR L' (s.sh d) t) := by
 unfold wantR
 refine Bd.ite (fun he => by rw [g.is ha he]) (by omega) (fun h => ?_) (fun _ => Bd.fail (Nat.le_refl _))
 exact Bd.ok (Nat.le_refl _) (isR_lt h) (isTok_kind h) fun he => g.agr _ ha (Nat.le_trans (Nat.le_succ _) he)
theorem name_b (g : Alike P L L' d a0 e) {s : St} {Fu : Prop} (ha : a0 ≤ s.k) : BT P e d L.length Fu s.k (s.k + 1) (nameR L s) (nameR L' (s.sh d)) := by
 unfold nameR
 refine Bd.ite (fun he => ?_) (by omega) (fun h => ?_) (fun _ => Bd.fail (Nat.le_refl _))
 ·obtain ⟨p, _, h⟩ := g.agr _ ha he
  rw [show (s.sh d).k = d + s.k from rfl, h]
 ·exact Bd.ok (Nat.le_refl _) (tokAt_lt (by omega)) (by omega) fun he => g.agr _ ha (Nat.le_trans (Nat.le_succ _) he)
end

end Go.Proofs.ZL
