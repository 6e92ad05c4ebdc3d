/- The parser on two lists of tokens that are alike over a stretch: statements. -/
import Derived.Test.YtoifleamknbeaaaGreatDoorYSD
open Go Go.Am
namespace Go.Proofs.ZL
set_option linter.unusedSimpArgs false
set_option linter.unusedVariables false

section
variable {P : Int → Int → Prop} {L L' : List Tok} {d a0 e : Nat}

theorem NdR.kind {t t' : Nd} (h : NdR P t t') : t'.kind = t.kind := by cases h; rfl
theorem NdR.text {t t' : Nd} (h : NdR P t t') : t'.text = t.text := by cases h; rfl
theorem NdR.pos {t t' : Nd} (h : NdR P t t') : P t.pos t'.pos := by cases h; assumption
theorem NdR.called {t t' : Nd} (h : NdR P t t') : calledN t' = calledN t := by unfold calledN valueN; rw [h.kind, h.text]
theorem NdR.target {t t' : Nd} (h : NdR P t t') : targetN t' = targetN t := by unfold targetN; rw [h.kind]

theorem rest_b (g : Alike P L L' d a0 e) {m : Nat} {r : Rec} (c : RecB P L L' d a0 e m r) {n n' : Nd} (hn : Small (L.length + 10) n) (hnn : NdR P n n') (bare hd : Bool) (s : St) (ha : a0 ≤ s.k) (hl : s.k ≤ L.length) :
  BN P e d L.length (10 * (L.length - s.k) + 1 ≤ m + 1) s.k s.k (restF r n bare L hd s) (restF r n' bare L' hd (s.sh d)) := by
 unfold restF
 have hlt : ∀ {ts}, isR L s ts = true → s.k < L.length := isR_lt
 have ht : s.k ≤ e → TokR P (tokAt L s.k) (tokAt L' (s.sh d).k) := g.agr _ ha
 generalize tokAt L s.k = t at *
 generalize tokAt L' (s.sh d).k = t' at ht ⊢
 revert t'
 refine Bd.tok g (Nat.le_refl _) (Nat.le_refl _) fun t' htt => ?_
 simp only [hnn.kind, hnn.text, hnn.called, hnn.target, htt.text]
 refine Bd.ite (fun he => by rw [g.is ha he]) (Nat.le_refl _) (fun h => ?_) fun _ => ?_
 ·simp only [Bool.and_eq_true] at h
  have hl2 := hlt h.1.1
  refine thenN g (c.expr hd s.next (Nat.le_succ_of_le ha)) fun x x' s1 h1 h2 hx hxx => ?_
  simp only [next_k] at h1
  exact Bd.ok (by omega) h2 (.of (.cons hx (.nil _)) (by simp) _ _ _ _ _ _) fun _ => .of hnn.pos (.one hxx) _ _ _ _ _
 refine Bd.ite (fun he => by rw [g.is ha he]) (Nat.le_refl _) (fun h => ?_) fun _ => ?_
 ·simp only [Bool.and_eq_true] at h
  have hl2 := hlt h.1.1
  refine thenN g (c.expr hd s.next (Nat.le_succ_of_le ha)) fun x x' s1 h1 h2 hx hxx => ?_
  simp only [next_k] at h1
  exact Bd.node (by omega) h2 (.cons hn (.cons hx (.nil _))) (by simp) fun _ => ⟨htt, rfl, .cons hnn (.one hxx)⟩
 refine Bd.ite (fun he => by rw [g.is ha he]) (Nat.le_refl _) (fun h => ?_) fun _ => ?_
 ·simp only [Bool.and_eq_true] at h
  have hl2 := hlt h.1.1
  exact Bd.node (s := s.next) (by simp only [next_k]; omega) hl2 (.cons hn (.nil _)) (by simp) fun _ => ⟨htt, rfl, .one hnn⟩
 refine is_b g (fun h hl2 => ?_) fun _ => ?_
 ·refine thenN g (c.expr hd s.next (Nat.le_succ_of_le ha)) fun x x' s1 h1 h2 hx hxx => ?_
  simp only [next_k] at h1
  exact Bd.node (by omega) h2 (.cons hn (.cons hx (.nil _))) (by simp) fun _ => ⟨htt, rfl, .cons hnn (.one hxx)⟩
 refine Bd.ite (fun he => Iff.rfl) (Nat.le_refl _) (fun h => ?_) fun _ => Bd.fail (Nat.le_refl _)
 exact Bd.ok (Nat.le_refl _) hl (.of (.cons hn (.nil _)) (by simp) _ _ _ _ _ _) fun _ => .of hnn.pos (.one hnn) _ _ _ _ _

theorem simple_b (g : Alike P L L' d a0 e) {m : Nat} {r : Rec} (c : RecB P L L' d a0 e m r) (hd : Bool) (s : St) (a : Nat) (ha : a0 ≤ s.k) (h1 : s.k ≤ a) (h2 : a ≤ s.k + 1) (h3 : a = s.k ∨ (tokAt L s.k).kind = 1) :
  BN P e d L.length (10 * (L.length - s.k) + 2 ≤ m + 1) a (s.k + 1) (simpleF r L hd s) (simpleF r L' hd (s.sh d)) := by
 unfold simpleF
 refine is_b g (fun h hl => ?_) fun _ => ?_
 ·have ht : s.k ≤ e → TokR P (tokAt L s.k) (tokAt L' (s.sh d).k) := g.agr _ ha
  generalize tokAt L s.k = t at *
  generalize tokAt L' (s.sh d).k = t' at ht ⊢
  refine thenN g (c.unary hd s.next (Nat.le_succ_of_le ha)) fun x x' s1 h4 h5 hx hxx => ?_
  simp only [next_k] at h4
  exact Bd.node (by omega) h5 (.cons (.of (.cons hx (.nil _)) (by simp) _ _ _ _ _ _) (.nil _)) (by simp) fun he => ⟨ht (by omega), rfl, .one ((ht (by omega)).nd (.one hxx) _ _)⟩
 ·refine thenN g (c.primary hd s a ha h1 h2 h3) fun x x' s1 h4 h5 hx hxx => ?_
  exact (rest_b g c hx hxx s1.bare hd s1 (by omega) h5).weak (fun _ => by omega) (Nat.le_refl _) (by omega)

theorem call_b (g : Alike P L L' d a0 e) {m : Nat} {r : Rec} (c : RecB P L L' d a0 e m r) (hd : Bool) (s : St) (ha : a0 ≤ s.k) :
  BN P e d L.length (10 * (L.length - s.k) + 1 ≤ m) s.k (s.k + 1) (callF r L hd s) (callF r L' hd (s.sh d)) := by
 unfold callF
 refine thenN g (c.primary hd s s.k ha (Nat.le_refl _) (Nat.le_succ _) (.inl rfl)) fun x x' s1 h4 h5 hx hxx => ?_
 rw [hxx.called]
 exact Bd.ite (fun _ => Iff.rfl) (by omega) (fun _ => Bd.fail (Nat.le_refl _)) fun _ => Bd.ok (by omega) h5 hx fun _ => hxx

theorem plain_b (g : Alike P L L' d a0 e) {m : Nat} {r : Rec} (c : RecB P L L' d a0 e m r) (hd : Bool) (s : St) (ha : a0 ≤ s.k) :
  BN P e d L.length (10 * (L.length - s.k) + 2 ≤ m) s.k (s.k + 1) (plainF r L hd s) (plainF r L' hd (s.sh d)) := by
 unfold plainF
 have hs := fun a h1 h2 h3 => c.simple hd s a ha h1 h2 h3
 have ht : s.k ≤ e → TokR P (tokAt L s.k) (tokAt L' (s.sh d).k) := g.agr _ ha
 have ht1 : s.k + 1 ≤ e → TokR P (tokAt L (s.k + 1)) (tokAt L' ((s.sh d).k + 1)) := g.agr _ (by omega)
 have hl1 : (tokAt L (s.k + 1)).kind ≠ 6 → s.k + 1 < L.length := tokAt_lt
 generalize tokAt L s.k = t at *
 generalize tokAt L' (s.sh d).k = t' at ht ⊢
 generalize tokAt L (s.k + 1) = u at *
 generalize tokAt L' ((s.sh d).k + 1) = u' at ht1 ⊢
 by_cases hk : t.kind = 1
 ·refine Bd.at (s.k + 1) (Nat.le_succ _) ?_
  revert t'
  refine Bd.tok g (Nat.le_succ _) (by omega) fun t' htt => ?_
  revert u'
  refine Bd.tok g (Nat.le_refl _) (by omega) fun u' huu => ?_
  have eu : isMark u' (⟨#[58]⟩ : ByteArray) = isMark u (⟨#[58]⟩ : ByteArray) := by unfold isMark; rw [huu.kind, huu.text]
  simp only [htt.kind, htt.text, eu]
  refine Bd.ite (fun _ => Iff.rfl) (by omega) (fun h => ?_) fun _ => ?_
  ·have hm : u.kind = 5 := by
    simp only [Bool.and_eq_true, isMark, decide_eq_true_eq] at h
    exact h.2.1
   have hl2 := hl1 (by omega)
   refine Bd.at (s.k + 2) (Nat.le_succ _) ?_
   refine is_b g (s := s.goto (s.k + 2)) (fun h hl3 => ?_) fun _ => Bd.fail (s := s.goto (s.k + 2)) (Nat.le_refl _)
   simp only [goto_k] at hl3
   refine thenN g (c.nested hd (s.goto (s.k + 2)) (by simp only [goto_k]; omega)) (fun x x' s1 h4 h5 hx hxx => ?_) (fun hu => ⟨by simp only [goto_k]; omega, isTok_kind h⟩)
   simp only [goto_k] at h4
   exact Bd.node (by omega) h5 (.cons hx (.nil _)) (by simp) fun he => ⟨htt, rfl, .one hxx⟩
  ·exact (hs (s.k + 1) (Nat.le_succ _) (Nat.le_refl _) (.inr hk)).weak id (Nat.le_refl _) (by omega)
 ·revert t'
  refine Bd.tok g (Nat.le_refl _) (by omega) fun t' htt => ?_
  have e1 : decide (t.kind = 1) = false := decide_eq_false hk
  simp only [htt.kind, e1, Bool.false_and, Bool.false_eq_true, if_false]
  exact hs s.k (Nat.le_refl _) (Nat.le_succ _) (.inl rfl)

end
end Go.Proofs.ZL
