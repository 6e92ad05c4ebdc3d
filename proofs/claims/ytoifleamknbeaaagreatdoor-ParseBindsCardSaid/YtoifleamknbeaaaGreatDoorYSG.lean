/- The parser on two lists of tokens that are alike over a stretch: clauses and loops. -/
import Derived.Test.YtoifleamknbeaaaGreatDoorYSF
open Go Go.Am
namespace Go.Proofs.ZL
set_option linter.unusedSimpArgs false
set_option linter.unusedVariables false

theorem ite_then {α β : Type} {c : Prop} [Decidable c] (A B : R α) (f : α → St → R β) : (if c then A else B).then f = if c then A.then f else B.then f := by split <;> rfl

section
variable {P : Int → Int → Prop} {L L' : List Tok} {d a0 e : Nat}

theorem Bd.failThen {α β : Type} {W : α → St → Prop} {V : α → α → Prop} {Fu : Prop} {a b len : Nat} {f f' : β → St → R α} {s : St} (ha : a ≤ s.k) : Bd e d len W V Fu a b ((failR L s).then f) ((failR L' (s.sh d)).then f') := ⟨ha, fun _ => rfl⟩

theorem clause_b (g : Alike P L L' d a0 e) {m : Nat} {r : Rec} (c : RecB P L L' d a0 e m r) (hd : Bool) (s : St) (ha : a0 ≤ s.k) :
  BN P e d L.length (10 * (L.length - s.k) + 1 ≤ m) s.k (s.k + 1) (clauseF m r L hd s) (clauseF m r L' hd (s.sh d)) := by
 unfold clauseF
 have ht : s.k ≤ e → TokR P (tokAt L s.k) (tokAt L' (s.sh d).k) := g.agr _ ha
 generalize tokAt L s.k = t at *
 generalize tokAt L' (s.sh d).k = t' at ht ⊢
 revert t'
 refine Bd.tok g (Nat.le_refl _) (by omega) fun t' htt => ?_
 refine is_b g (fun _ hl => ?_) fun _ => ?_
 ·refine thenN g (behind_b g c hd s.next (Nat.le_succ_of_le ha)) fun x x' s1 h1 h2 hx hxx => ?_
  simp only [next_k] at h1
  exact Bd.node (by omega) h2 (.cons hx (.nil _)) (by simp) fun he => ⟨htt, rfl, .one hxx⟩
 ·refine thenW g fun _ _ s1 h1 h2 _ _ => ?_
  refine thenN g (c.expr hd s1 (by omega)) fun x x' s2 h3 h4 hx hxx => ?_
  refine thenL g (commas_b g c hd (k0 := s2.k) (by omega) m [x] [x'] s2 (Nat.le_refl _) h4 ⟨by simp, SL.cons hx (.nil _)⟩ (.one hxx)) fun l l' s3 h5 h6 hs hv => ?_
  refine thenN g (behind_b g c hd s3 (by omega)) fun y y' s4 h7 h8 hy hyy => ?_
  exact Bd.node (by omega) h8 (.app hs.2 (.cons hy (.nil _))) (by have := hs.1; simp only [List.length_append, List.length_singleton]; omega) fun he => ⟨htt, rfl, hv.app (.one hyy)⟩

def commRest (r : Rec) (t : Tok) (L : List Tok) (hd : Bool) (kids : List Nd) (s : St) : R Nd :=
 if isR L s [(⟨#[60, 45]⟩ : ByteArray)] then (r.unary L hd s.next).then fun u s => (behindF r L hd s).then fun b s => .ok (nd 26 t (⟨#[114, 101, 99, 118]⟩ : ByteArray) (kids ++ [u] ++ [b])) s
 else (r.primary L hd s).then fun c s => (wantR L s (⟨#[60, 45]⟩ : ByteArray)).then fun _ s => (r.expr L hd s).then fun e s => (behindF r L hd s).then fun b s => .ok (nd 26 t (⟨#[115, 101, 110, 100]⟩ : ByteArray) [c, e, b]) s

theorem commRest_b (g : Alike P L L' d a0 e) {m : Nat} {r : Rec} (c : RecB P L L' d a0 e m r) (hd : Bool) {t t' : Tok} (ht : TokR P t t') {l l' : List Nd} (hs : LW L.length l ⟨0, false⟩) (hv : LR P l l') (s : St) (a : Nat) (ha : a0 ≤ s.k) (h1 : s.k ≤ a) (h2 : a ≤ s.k + 1) (h3 : a = s.k ∨ (tokAt L s.k).kind = 1) :
  BN P e d L.length (10 * (L.length - s.k) + 1 ≤ m) a (s.k + 1) (commRest r t L hd l s) (commRest r t' L' hd l' (s.sh d)) := by
 unfold commRest
 refine is_b g (fun _ hl => ?_) fun _ => ?_
 ·refine thenN g (c.unary hd s.next (Nat.le_succ_of_le ha)) fun x x' s1 h1 h2 hx hxx => ?_
  simp only [next_k] at h1
  refine thenN g (behind_b g c hd s1 (by omega)) fun y y' s4 h7 h8 hy hyy => ?_
  exact Bd.node (by omega) h8 (.app (.app hs.2 (.cons hx (.nil _))) (.cons hy (.nil _))) (by have : l.length ≤ 0 + 5 := hs.1; simp only [List.length_append, List.length_singleton]; omega) fun he => ⟨ht, rfl, (hv.app (.one hxx)).app (.one hyy)⟩
 ·refine thenN g (c.primary hd s a ha h1 h2 h3) fun x x' s1 h1 h2 hx hxx => ?_
  refine thenW g fun _ _ s2 h3 h4 _ _ => ?_
  refine thenN g (c.expr hd s2 (by omega)) fun z z' s3 h5 h6 hz hzz => ?_
  refine thenN g (behind_b g c hd s3 (by omega)) fun y y' s4 h7 h8 hy hyy => ?_
  exact Bd.node (by omega) h8 (.cons hx (.cons hz (.cons hy (.nil _)))) (by simp) fun he => ⟨ht, rfl, .cons hxx (.cons hzz (.one hyy))⟩

theorem comm_b (g : Alike P L L' d a0 e) {m : Nat} {r : Rec} (c : RecB P L L' d a0 e m r) (hd : Bool) (s : St) (ha : a0 ≤ s.k) :
  BN P e d L.length (10 * (L.length - s.k) + 1 ≤ m) s.k (s.k + 1) (commF r L hd s) (commF r L' hd (s.sh d)) := by
 unfold commF
 have ht : s.k ≤ e → TokR P (tokAt L s.k) (tokAt L' (s.sh d).k) := g.agr _ ha
 generalize tokAt L s.k = t at *
 generalize tokAt L' (s.sh d).k = t' at ht ⊢
 revert t'
 refine Bd.tok g (Nat.le_refl _) (by omega) fun t' htt => ?_
 refine is_b g (fun _ hl => ?_) fun _ => ?_
 ·refine thenN g (behind_b g c hd s.next (Nat.le_succ_of_le ha)) fun x x' s1 h1 h2 hx hxx => ?_
  simp only [next_k] at h1
  exact Bd.node (by omega) h2 (.cons hx (.nil _)) (by simp) fun he => ⟨htt, rfl, .one hxx⟩
 refine thenW g fun _ _ s1 h1 h2 _ _ => ?_
 simp only [ite_then, R.then_ok]
 have hrest := fun l l' (hs : LW L.length l ⟨0, false⟩) hv s a ha h1 h2 h3 => commRest_b (a0 := a0) g c hd htt (l := l) (l' := l') hs hv s a ha h1 h2 h3
 have hn : s1.k ≤ e → TokR P (tokAt L s1.k) (tokAt L' (s1.sh d).k) := g.agr _ (by omega)
 have hn1 : s1.k + 1 ≤ e → TokR P (tokAt L (s1.k + 1)) (tokAt L' ((s1.sh d).k + 1)) := g.agr _ (by omega)
 have hl1 : (tokAt L (s1.k + 1)).kind ≠ 6 → s1.k + 1 < L.length := tokAt_lt
 have hr1 := fun a ha h1 h2 h3 => hrest [] [] ⟨by simp, fun i t h => by cases h⟩ (.nil P) s1 a ha h1 h2 h3
 generalize tokAt L s1.k = n at *
 generalize tokAt L' (s1.sh d).k = n' at hn ⊢
 generalize tokAt L (s1.k + 1) = u at *
 generalize tokAt L' ((s1.sh d).k + 1) = u' at hn1 ⊢
 by_cases hk : n.kind = 1
 ·refine Bd.at (s1.k + 1) (Nat.le_succ _) ?_
  revert n'
  refine Bd.tok g (Nat.le_succ _) (by omega) fun n' hnn => ?_
  revert u'
  refine Bd.tok g (Nat.le_refl _) (by omega) fun u' huu => ?_
  have eu : isMark u' (⟨#[58, 61]⟩ : ByteArray) = isMark u (⟨#[58, 61]⟩ : ByteArray) := by unfold isMark; rw [huu.kind, huu.text]
  simp only [hnn.kind, hnn.text, eu]
  refine Bd.ite (fun _ => Iff.rfl) (by omega) (fun h => ?_) fun _ => ?_
  ·have hm : u.kind = 5 := by
    simp only [Bool.and_eq_true, isMark, decide_eq_true_eq] at h
    exact h.2.1
   have hl2 := hl1 (by omega)
   refine Bd.at (s1.k + 2) (Nat.le_succ _) ?_
   refine is_b g (s := s1.goto (s1.k + 2)) (fun h hl3 => ?_) fun _ => Bd.failThen (s := s1.goto (s1.k + 2)) (Nat.le_refl _)
   simp only [goto_k] at hl3
   have := hrest [nd 7 n n.text []] [nd 7 n' n.text []] ⟨by simp, SL.cons (.of (.nil _) (by simp) _ _ _ _ _ _) (.nil _)⟩ (.one (hnn.nd (.nil P) _ _)) (s1.goto (s1.k + 2)) (s1.k + 2) (by simp only [goto_k]; omega) (Nat.le_refl _) (Nat.le_succ _) (.inl rfl)
   exact this.weak (fun _ => by simp only [goto_k]; omega) (Nat.le_refl _) (by simp only [goto_k]; omega)
  ·exact (hr1 (s1.k + 1) (by omega) (Nat.le_succ _) (Nat.le_refl _) (.inr hk)).weak (fun _ => by omega) (Nat.le_refl _) (by omega)
 ·revert n'
  refine Bd.tok g (Nat.le_refl _) (by omega) fun n' hnn => ?_
  have e1 : decide (n.kind = 1) = false := decide_eq_false hk
  simp only [hnn.kind, e1, Bool.false_and, Bool.false_eq_true, if_false]
  exact (hr1 s1.k (by omega) (Nat.le_refl _) (Nat.le_succ _) (.inl rfl)).weak (fun _ => by omega) (Nat.le_refl _) (by omega)

theorem clauses_b (g : Alike P L L' d a0 e) {m : Nat} {one : PF Nd} {Fu : Prop} (s : St) (ha : a0 ≤ s.k) (h : ∀ s1, s.k + 1 ≤ s1.k → BN P e d L.length Fu s1.k (s1.k + 1) (one L false s1) (one L' false (s1.sh d))) (hd : Bool) :
  BL P e d L.length (Fu ∧ L.length - s.k ≤ m) s.k (s.k + 1) (clausesF m one L hd s) (clausesF m one L' hd (s.sh d)) := by
 unfold clausesF
 refine thenW g fun _ _ s1 h1 h2 _ _ => ?_
 refine Bd.then (until_b (W := fun l s => LW L.length l s) (V := LR P) (Fu := Fu) (k0 := s1.k) g (by omega) (fun x => g.list x) (fun l l' s2 h3 h4 hs hv => ?_) m [] [] s1 (Nat.le_refl _) h2 ⟨Nat.zero_le _, fun i t h => by cases h⟩ (.nil P)) (fun h => ⟨h.1, by omega⟩) (by omega) (by omega) (fun x _ _ => g.list x) fun kids kids' s2 h3 h4 hs hv => ?_
 ·refine thenN g (h s2 (by omega)) fun x x' s4 h7 h8 hx hxx => ?_
  exact Bd.ok (by omega) h8 ⟨by have := hs.1; simp only [List.length_append, List.length_singleton]; omega, SL.app hs.2 (.cons hx (.nil _))⟩ fun _ => hv.app (.one hxx)
 ·have hl2 := isR_lt hs.2
  exact Bd.ok (s := s2.next) (by simp only [next_k]; omega) hl2 ⟨by have := hs.1.1; simp only [next_k]; omega, hs.1.2⟩ fun _ => hv

end
end Go.Proofs.ZL
