/- The parser on two lists of tokens that are alike over a stretch: primaries, operators, simple statements. -/
import Derived.Test.YtoifleamknbeaaaGreatDoorYSC
open Go Go.Am
namespace Go.Proofs.ZL
set_option linter.unusedSimpArgs false
set_option linter.unusedVariables false

section
variable {P : Int → Int → Prop} {L L' : List Tok} {d a0 e : Nat}

theorem Bd.eqv {α β : Type} {W : α → St → Prop} {V : α → α → Prop} {Fu : Prop} {a b len k : Nat} {v : β} {r : R α} {F : β → R α} (hk : k ≤ a) (hab : a ≤ b) (h : Bd e d len W V Fu a b r (F v)) : ∀ v', (k ≤ e → v' = v) → Bd e d len W V Fu a b r (F v') := by
 intro v' hv
 by_cases hke : k ≤ e
 ·rw [hv hke]; exact h
 ·cases r with
  | ok x s => exact ⟨h.1, h.2.1, h.2.2.1, fun he => by have := h.1; omega⟩
  | bad i => exact ⟨h.1, fun he => by have := h.1; omega⟩
  | out => exact h

theorem primary_go (g : Alike P L L' d a0 e) {m : Nat} {r : Rec} (c : RecB P L L' d a0 e m r) {k0 : Nat} (ha : a0 ≤ k0) : ∀ (n : Nat) (x x' : Nd) (bare : Bool) (s : St), k0 ≤ s.k → s.k ≤ L.length → Small (L.length + 10) x → NdR P x x' →
  Bd e d L.length (fun y _ => Small (L.length + 10) y.1) (fun y y' => NdR P y.1 y'.1 ∧ y'.2 = y.2) (10 * (L.length - k0) + 4 ≤ m ∧ L.length - s.k < n) s.k s.k (primaryGo m r L n x bare s) (primaryGo m r L' n x' bare (s.sh d)) := by
 intro n
 induction n with
 | zero => exact fun _ _ _ s _ _ _ _ => Bd.out (by omega)
 | succ n ih =>
  intro x x' bare s hk hl hx hxx
  unfold primaryGo
  refine is_b g (fun h hl2 => ?_) (fun _ => Bd.ok (Nat.le_refl _) hl hx fun _ => ⟨hxx, rfl⟩)
  have ht : s.k ≤ e → TokR P (tokAt L s.k) (tokAt L' (s.sh d).k) := g.agr _ (by omega)
  generalize tokAt L s.k = t at *
  generalize tokAt L' (s.sh d).k = t' at ht ⊢
  revert t'
  refine Bd.tok g (Nat.le_refl _) (Nat.le_refl _) fun t' htt => ?_
  obtain ⟨p', hp, rfl⟩ := id htt
  simp only
  refine thenN (Fu' := 10 * (L.length - k0) + 4 ≤ m) (a' := s.k) (b' := s.k + 1) g ?_ (fun y y' s1 h1 h2 hy hyy => ?_) (fun h => h.1)
  ·refine Bd.ite (fun _ => Iff.rfl) (by omega) (fun _ => ?_) fun _ => ?_
   ·refine thenL g (exprs_b g c _ false s.next (by simp only [next_k]; omega) hl2) fun l l' s2 h3 h4 hs hv => ?_
    simp only [next_k] at h3
    exact Bd.node (by omega) h4 (.cons hx hs.2) (by have := hs.1; simp only [List.length_cons]; omega) fun _ => ⟨htt, rfl, .cons hxx hv⟩
   refine Bd.ite (fun _ => Iff.rfl) (by omega) (fun _ => ?_) fun _ => ?_
   ·exact (index_b g c false htt hx hxx s.next (by simp only [next_k]; omega)).weak (fun _ => by simp only [next_k]; omega) (Nat.le_succ _) (by simp only [next_k]; omega)
   ·refine thenM g (s := s.next) fun y y' s1 h1 h2 _ hy => ?_
    simp only [next_k] at h1
    exact Bd.node (by omega) h2 (.cons hx (.nil _)) (by simp) fun _ => ⟨htt, hy.text, .one hxx⟩
  ·exact (ih y y' false s1 (by omega) h2 hy hyy).weak (fun h => ⟨h.1, by omega⟩) (Nat.le_refl _) (by omega)

theorem primary_b (g : Alike P L L' d a0 e) {m : Nat} {r : Rec} (c : RecB P L L' d a0 e m r) (hd : Bool) (s : St) (a : Nat) (ha : a0 ≤ s.k) (h1 : s.k ≤ a) (h2 : a ≤ s.k + 1) (h3 : a = s.k ∨ (tokAt L s.k).kind = 1) :
  BN P e d L.length (10 * (L.length - s.k) + 1 ≤ m + 1) a (s.k + 1) (primaryF m r L hd s) (primaryF m r L' hd (s.sh d)) := by
 unfold primaryF
 have hb : s.k ≤ e → isR L' (s.sh d) [(⟨#[40]⟩ : ByteArray)] = isR L s [(⟨#[40]⟩ : ByteArray)] := g.is ha
 generalize isR L' (s.sh d) [(⟨#[40]⟩ : ByteArray)] = b' at hb ⊢
 revert b'
 refine Bd.eqv h1 h2 ?_
 simp only
 refine thenN g (operand_b g c hd s a ha h1 h2 h3) fun x x' s1 h4 h5 hx hxx => ?_
 refine Bd.then (primary_go g c (k0 := s1.k) (by omega) m x x' _ s1 (Nat.le_refl _) h5 hx hxx) (fun _ => by omega) (Nat.le_refl _) (Nat.le_refl _) (fun y _ _ => by obtain ⟨z, hz⟩ := g.nd y.1; exact ⟨(z, y.2), hz, rfl⟩) fun y y' s2 h6 h7 hy hyy => ?_
 rw [show y'.2 = y.2 from hyy.2]
 exact Bd.ok (s := s2.with y.2) (by simp only [with_k]; omega) h7 hy fun _ => hyy.1

theorem unary_b (g : Alike P L L' d a0 e) {m : Nat} {r : Rec} (c : RecB P L L' d a0 e m r) (hd : Bool) (s : St) (ha : a0 ≤ s.k) :
  BN P e d L.length (10 * (L.length - s.k) + 2 ≤ m + 1) s.k (s.k + 1) (unaryF r L hd s) (unaryF r L' hd (s.sh d)) := by
 unfold unaryF
 refine is_b g (fun h hl => ?_) fun _ => (c.primary hd s s.k ha (Nat.le_refl _) (Nat.le_succ _) (.inl rfl)).weak (fun _ => by omega) (Nat.le_refl _) (Nat.le_refl _)
 have ht : s.k ≤ e → TokR P (tokAt L s.k) (tokAt L' (s.sh d).k) := g.agr _ ha
 generalize tokAt L s.k = t at *
 generalize tokAt L' (s.sh d).k = t' at ht ⊢
 refine thenN g (c.unary hd s.next (Nat.le_succ_of_le ha)) fun x x' s1 h1 h2 hx hxx => ?_
 simp only [next_k] at h1
 exact Bd.node (s := s1.with false) (by simp only [with_k]; omega) h2 (.cons hx (.nil _)) (by simp) fun he => ⟨ht (by simp only [with_k] at he; omega), (ht (by simp only [with_k] at he; omega)).text, .one hxx⟩

theorem level_lt {L : List Tok} {k : Nat} (h : level (tokAt L k) ≠ 0) : k < L.length := by
 refine tokAt_lt fun h6 => h ?_
 unfold level
 rw [if_pos (by omega)]

theorem binary_go (g : Alike P L L' d a0 e) {m : Nat} {r : Rec} (c : RecB P L L' d a0 e m r) (least : Int) (hd : Bool) {k0 : Nat} (ha : a0 ≤ k0) : ∀ (n : Nat) (x x' : Nd) (s : St), k0 ≤ s.k → s.k ≤ L.length → Small (L.length + 10) x → NdR P x x' →
  BN P e d L.length (10 * (L.length - k0) + 3 ≤ m ∧ L.length - s.k < n) s.k s.k (binaryGo r least L hd n x s) (binaryGo r least L' hd n x' (s.sh d)) := by
 intro n
 induction n with
 | zero => exact fun _ _ s _ _ _ _ => Bd.out (by omega)
 | succ n ih =>
  intro x x' s hk hl hx hxx
  unfold binaryGo
  have ht : s.k ≤ e → TokR P (tokAt L s.k) (tokAt L' (s.sh d).k) := g.agr _ (by omega)
  have hlev := level_lt (L := L) (k := s.k)
  generalize tokAt L s.k = t at *
  generalize tokAt L' (s.sh d).k = t' at ht ⊢
  revert t'
  refine Bd.tok g (Nat.le_refl _) (Nat.le_refl _) fun t' htt => ?_
  obtain ⟨p', hp, rfl⟩ := id htt
  have el : level ⟨t.kind, t.text, t.num, p'⟩ = level t := rfl
  simp only [el]
  refine Bd.ite (fun _ => Iff.rfl) (Nat.le_refl _) (fun _ => Bd.ok (Nat.le_refl _) hl hx fun _ => hxx) fun h => ?_
  have hl2 := hlev (fun h2 => h (.inr h2))
  refine thenN g (c.binary _ hd s.next (by simp only [next_k]; omega)) (fun y y' s1 h1 h2 hy hyy => ?_) (fun h => by simp only [next_k]; omega)
  simp only [next_k] at h1
  exact (ih (nd 42 t t.text [x, y]) (nd 42 ⟨t.kind, t.text, t.num, p'⟩ t.text [x', y']) (s1.with false) (by simp only [with_k]; omega) h2 (.of (.cons hx (.cons hy (.nil _))) (by simp) _ _ _ _ _ _) (htt.nd (.cons hxx (.one hyy)) _ _)).weak (fun h => ⟨h.1, by simp only [with_k]; omega⟩) (Nat.le_refl _) (by simp only [with_k]; omega)

theorem binary_b (g : Alike P L L' d a0 e) {m : Nat} {r : Rec} (c : RecB P L L' d a0 e m r) (least : Int) (hd : Bool) (s : St) (ha : a0 ≤ s.k) :
  BN P e d L.length (10 * (L.length - s.k) + 3 ≤ m + 1) s.k (s.k + 1) (binaryF m r least L hd s) (binaryF m r least L' hd (s.sh d)) := by
 unfold binaryF
 refine thenN g (c.unary hd s ha) fun x x' s1 h1 h2 hx hxx => ?_
 exact (binary_go g c least hd (k0 := s1.k) (by omega) m x x' s1 (Nat.le_refl _) h2 hx hxx).weak (fun _ => by omega) (Nat.le_refl _) (by omega)

end
end Go.Proofs.ZL
