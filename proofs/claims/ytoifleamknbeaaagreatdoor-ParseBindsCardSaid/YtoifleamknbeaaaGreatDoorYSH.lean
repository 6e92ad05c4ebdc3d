/- The parser on two lists of tokens that are alike over a stretch: loops, what is nested, and all functions together. -/
import Derived.Test.YtoifleamknbeaaaGreatDoorYSG
open Go Go.Am
namespace Go.Proofs.ZL
set_option linter.unusedSimpArgs false
set_option linter.unusedVariables false

section
variable {P : Int → Int → Prop} {L L' : List Tok} {d a0 e : Nat}

theorem first_b (g : Alike P L L' d a0 e) {m : Nat} {r : Rec} (c : RecB P L L' d a0 e m r) (hd : Bool) (s0 : St) (ha : a0 ≤ s0.k) :
  Bd e d L.length (fun y _ => Small (L.length + 10) y.1) (fun y y' => NdR P y.1 y'.1 ∧ y'.2 = y.2) (10 * (L.length - s0.k) + 4 ≤ m) s0.k (s0.k + 1) (firstF r L hd s0) (firstF r L' hd (s0.sh d)) := by
 unfold firstF
 refine thenN g (c.expr true s0 ha) fun x x' s h1 h2 hx hxx => ?_
 simp only [hxx.kind, hxx.text]
 refine is_b g (fun _ hl => Bd.ok (by omega) h2 hx fun _ => ⟨hxx, rfl⟩) fun _ => ?_
 refine Bd.ite (fun he => by rw [g.is ha (by omega)]) (by omega) (fun _ => ?_) fun _ => ?_
 ·refine is_b g (fun _ hl => ?_) fun _ => Bd.fail (Nat.le_refl _)
  exact Bd.ok (by omega) h2 (.of (.cons hx (.nil _)) (by simp) _ _ _ _ _ _) fun _ => ⟨.of hxx.pos (.one hxx) _ _ _ _ _, rfl⟩
 refine Bd.ite (fun he => by rw [g.is ha (by omega)]; exact Iff.rfl) (by omega) (fun _ => Bd.fail (Nat.le_refl _)) fun _ => ?_
 refine thenN g (rest_b g c hx hxx s.bare true s (by omega) h2) fun y y' s1 h3 h4 hy hyy => ?_
 refine is_b g (fun _ hl => Bd.ok (by omega) h4 hy fun _ => ⟨hyy, rfl⟩) fun _ => Bd.fail (Nat.le_refl _)

abbrev B2 (P : Int → Int → Prop) (e d len : Nat) (Fu : Prop) (a b : Nat) (r r' : R (Nd × Nd)) : Prop := Bd e d len (fun y _ => Small (len + 10) y.1 ∧ Small (len + 10) y.2) (fun y y' => NdR P y.1 y'.1 ∧ NdR P y.2 y'.2) Fu a b r r'
theorem then2 (g : Alike P L L' d a0 e) {α : Type} {W : α → St → Prop} {V : α → α → Prop} {Fu : Prop} {a b b' : Nat} {r r' : R (Nd × Nd)} {f f' : (Nd × Nd) → St → R α} (h : B2 P e d L.length Fu a b' r r') (hb : a ≤ b')
  (hk : ∀ x x' s, b' ≤ s.k → s.k ≤ L.length → Small (L.length + 10) x.1 → Small (L.length + 10) x.2 → NdR P x.1 x'.1 → NdR P x.2 x'.2 → Bd e d L.length W V Fu s.k (max b s.k) (f x s) (f' x' (s.sh d))) :
  Bd e d L.length W V Fu a b (r.then f) (r'.then f') :=
 Bd.then h id (Nat.le_refl _) hb (fun x _ _ => by obtain ⟨y, hy⟩ := g.nd x.1; obtain ⟨z, hz⟩ := g.nd x.2; exact ⟨(y, z), hy, hz⟩) fun x x' s h1 h2 hw hv => hk x x' s h1 h2 hw.1 hw.2 hv.1 hv.2

theorem loop_b (g : Alike P L L' d a0 e) {m : Nat} {r : Rec} (c : RecB P L L' d a0 e m r) (hd : Bool) {t t' : Tok} (ht : TokR P t t') (s : St) (ha : a0 ≤ s.k) (hl : s.k ≤ L.length) :
  BN P e d L.length (10 * (L.length - s.k) + 4 ≤ m) s.k (s.k + 1) (loopF r t L hd s) (loopF r t' L' hd (s.sh d)) := by
 unfold loopF
 refine then2 (b' := s.k) g (is_b g (fun _ _ => Bd.ok (Nat.le_refl _) hl ⟨.none _, .none _⟩ fun _ => ⟨g.none, g.none⟩) fun _ => ?_) (Nat.le_refl _) fun fc fc' s1 h1 h2 hx hy hxx hyy => ?_
 ·refine Bd.then (first_b g c hd s ha) id (Nat.le_refl _) (by omega) (fun y _ _ => by obtain ⟨z, hz⟩ := g.nd y.1; exact ⟨(z, y.2), hz, rfl⟩) fun y y' s2 h6 h7 hy hyy => ?_
  refine Bd.ok (by omega) h7 ?_ fun _ => ?_
  ·split <;> exact ⟨by first | exact hy | exact .none _, by first | exact hy | exact .none _⟩
  ·rw [hyy.2]; split <;> exact ⟨by first | exact hyy.1 | exact g.none, by first | exact hyy.1 | exact g.none⟩
 unfold loopB
 refine then2 (b' := s1.k) g (is_b g (fun _ hl1 => ?_) fun _ => Bd.ok (Nat.le_refl _) h2 ⟨hy, .none _⟩ fun _ => ⟨hyy, g.none⟩) (Nat.le_refl _) fun cl cl' s2 h3 h4 hz hw hzz hww => ?_
 ·refine Bd.at (s1.k + 1) (Nat.le_succ _) ?_
  refine thenN (Fu' := 10 * (L.length - s.k) + 4 ≤ m) (a' := s1.k + 1) (b' := s1.k + 1) g (is_b g (s := s1.next) (fun _ _ => Bd.ok (s := s1.next) (Nat.le_refl _) hl1 hy fun _ => hyy) fun _ => ?_) fun x x' s3 h5 h6 hx hxx => ?_
  ·exact (c.expr true s1.next (by simp only [next_k]; omega)).weak (fun _ => by simp only [next_k]; omega) (by simp only [next_k]; omega) (by simp only [next_k]; omega)
  refine thenW g fun _ _ s4 h7 h8 _ _ => ?_
  refine thenN (Fu' := 10 * (L.length - s.k) + 4 ≤ m) (a' := s4.k) (b' := s4.k) g (is_b g (fun _ _ => Bd.ok (Nat.le_refl _) h8 (.none _) fun _ => g.none) fun _ => ?_) fun x x' s5 h9 h10 hx hxx => ?_
  ·exact (c.simple true s4 s4.k (by omega) (Nat.le_refl _) (Nat.le_succ _) (.inl rfl)).weak (fun _ => by omega) (Nat.le_refl _) (by omega)
  ·exact Bd.ok (by omega) h10 ⟨by assumption, hx⟩ fun _ => ⟨by assumption, hxx⟩
 unfold loopC
 refine thenN g (c.block hd s2 (by omega)) fun x x' s3 h5 h6 hb hbb => ?_
 exact Bd.node (by omega) h6 (.cons hx (.cons hz (.cons hw (.cons hb (.nil _))))) (by simp) fun _ => ⟨ht, rfl, .cons hxx (.cons hzz (.cons hww (.one hbb)))⟩

theorem nested_b (g : Alike P L L' d a0 e) {m : Nat} {r : Rec} (c : RecB P L L' d a0 e m r) (hd : Bool) (s : St) (ha : a0 ≤ s.k) :
  BN P e d L.length (10 * (L.length - s.k) + 1 ≤ m + 1 ∧ (tokAt L s.k).kind ≠ 6) s.k (s.k + 1) (nestedF m r L hd s) (nestedF m r L' hd (s.sh d)) := by
 unfold nestedF
 have hlt : (tokAt L s.k).kind ≠ 6 → s.k < L.length := tokAt_lt
 have ht : s.k ≤ e → TokR P (tokAt L s.k) (tokAt L' (s.sh d).k) := g.agr _ ha
 generalize tokAt L s.k = t at *
 generalize tokAt L' (s.sh d).k = t' at ht ⊢
 revert t'
 refine Bd.tok g (Nat.le_refl _) (by omega) fun t' htt => ?_
 simp only [htt.kind, htt.text]
 refine Bd.ite (fun _ => Iff.rfl) (by omega) (fun h => Bd.out (fun hu => hu.2 h)) fun h6 => ?_
 have hl := hlt h6
 refine Bd.ite (fun _ => Iff.rfl) (by omega) (fun h => ?_) fun _ => ?_
 ·exact (loop_b g c hd htt s.next (by simp only [next_k]; omega) hl).weak (fun _ => by simp only [next_k]; omega) (by simp only [next_k]; omega) (by simp only [next_k]; omega)
 refine Bd.ite (fun _ => Iff.rfl) (by omega) (fun h => ?_) fun _ => ?_
 ·refine Bd.at (s.k + 1) (Nat.le_succ _) ?_
  refine thenN (Fu' := 10 * (L.length - s.k) + 1 ≤ m + 1) (a' := s.k + 1) (b' := s.k + 1) g (is_b g (s := s.next) (fun _ _ => Bd.ok (s := s.next) (Nat.le_refl _) hl (.none _) fun _ => g.none) fun _ => ?_) (fun x x' s3 h5 h6 hx hxx => ?_) (fun h => h.1)
  ·exact (c.expr true s.next (by simp only [next_k]; omega)).weak (fun _ => by simp only [next_k]; omega) (by simp only [next_k]; omega) (by simp only [next_k]; omega)
  refine thenL g (clauses_b (m := m) (Fu := 10 * (L.length - s.k) + 1 ≤ m + 1) g s3 (by omega) (fun s4 h7 => (clause_b g c false s4 (by omega)).weak (fun _ => by omega) (Nat.le_refl _) (Nat.le_refl _)) hd) (fun l l' s4 h7 h8 hs hv => ?_) (fun h => ⟨h.1, by omega⟩)
  exact Bd.node (by omega) h8 (.cons hx hs.2) (by have := hs.1; simp only [List.length_cons]; omega) fun _ => ⟨htt, rfl, .cons hxx hv⟩
 ·refine thenL g (clauses_b (m := m) (Fu := 10 * (L.length - s.k) + 1 ≤ m + 1) g s.next (by simp only [next_k]; omega) (fun s4 h7 => (comm_b g c false s4 (by simp only [next_k] at h7; omega)).weak (fun _ => by simp only [next_k] at h7; omega) (Nat.le_refl _) (Nat.le_refl _)) hd) (fun l l' s4 h7 h8 hs hv => ?_) (fun h => ⟨h.1, by simp only [next_k]; omega⟩)
  simp only [next_k] at h7
  exact Bd.node (by omega) h8 hs.2 (by have := hs.1; omega) fun _ => ⟨htt, rfl, hv⟩

end
end Go.Proofs.ZL
