/- The parser on two lists of tokens that are alike over a stretch: all statements, declarations, files. -/
import Derived.Test.YtoifleamknbeaaaGreatDoorYSE
open Go Go.Am
namespace Go.Proofs.ZL
set_option linter.unusedSimpArgs false
set_option linter.unusedVariables false

section
variable {P : Int → Int → Prop} {L L' : List Tok} {d a0 e : Nat}

theorem opt_b (g : Alike P L L' d a0 e) {Fu : Prop} {s : St} {ts : List ByteArray} {A A' : R Nd} {b : Nat} (ha : a0 ≤ s.k) (hl : s.k ≤ L.length) (hb : s.k ≤ b) (h : BN P e d L.length Fu s.k s.k A A') :
  BN P e d L.length Fu s.k s.k (if isR L s ts then .ok noneN s else A) (if isR L' (s.sh d) ts then .ok noneN (s.sh d) else A') :=
 is_b g (fun _ _ => Bd.ok (Nat.le_refl _) hl (.none _) fun _ => g.none) fun _ => h

theorem branch_b (g : Alike P L L' d a0 e) {m : Nat} {r : Rec} (c : RecB P L L' d a0 e m r) (hd : Bool) (s : St) (ha : a0 ≤ s.k) :
  BN P e d L.length (10 * (L.length - s.k) + 1 ≤ m + 1 ∧ (tokAt L s.k).kind ≠ 6) s.k (s.k + 1) (branchF r L hd s) (branchF r L' hd (s.sh d)) := by
 unfold branchF
 have hlt : (tokAt L s.k).kind ≠ 6 → s.k < L.length := tokAt_lt
 have ht : s.k ≤ e → TokR P (tokAt L s.k) (tokAt L' (s.sh d).k) := g.agr _ ha
 generalize tokAt L s.k = t at *
 generalize tokAt L' (s.sh d).k = t' at ht ⊢
 revert t'
 refine Bd.tok g (Nat.le_refl _) (by omega) fun t' htt => ?_
 simp only [htt.kind]
 refine Bd.ite (fun _ => Iff.rfl) (by omega) (fun h => Bd.out (fun hu => hu.2 h)) fun h6 => ?_
 have hl := hlt h6
 refine thenN g (c.expr true s.next (Nat.le_succ_of_le ha)) fun x x' s1 h1 h2 hx hxx => ?_
 simp only [next_k] at h1
 refine thenN g (c.block hd s1 (by omega)) fun y y' s2 h3 h4 hy hyy => ?_
 refine thenN (Fu' := 10 * (L.length - s.k) + 1 ≤ m + 1) (a' := s2.k) (b' := s2.k) g (is_b g (fun _ hl2 => ?_) fun _ => Bd.ok (Nat.le_refl _) h4 (.none _) fun _ => g.none) (fun z z' s3 h5 h6 hz hzz => ?_) (fun h => h.1)
 ·refine Bd.at (s2.k + 1) (Nat.le_succ _) ?_
  refine is_b g (s := s2.next) (fun h hl3 => ?_) fun _ => ?_
  ·exact (c.branch hd s2.next (by simp only [next_k]; omega)).weak (fun _ => ⟨by simp only [next_k]; omega, isTok_kind h⟩) (by simp only [next_k]; omega) (by simp only [next_k]; omega)
  ·exact (c.block hd s2.next (by simp only [next_k]; omega)).weak (fun _ => by simp only [next_k]; omega) (by simp only [next_k]; omega) (by simp only [next_k]; omega)
 ·exact Bd.node (by omega) h6 (.cons hx (.cons hy (.cons hz (.nil _)))) (by simp) fun he => ⟨htt, rfl, .cons hxx (.cons hyy (.one hzz))⟩

theorem stmt_b (g : Alike P L L' d a0 e) {m : Nat} {r : Rec} (c : RecB P L L' d a0 e m r) (hd : Bool) (s : St) (ha : a0 ≤ s.k) :
  BN P e d L.length (10 * (L.length - s.k) + 6 ≤ m + 1) s.k (s.k + 1) (stmtF r L hd s) (stmtF r L' hd (s.sh d)) := by
 unfold stmtF
 have hlt : (tokAt L s.k).kind ≠ 6 → s.k < L.length := tokAt_lt
 have hb := c.branch hd s ha
 have hn := c.nested hd s ha
 have hpl := (plain_b g c hd s ha).weak (Fu := 10 * (L.length - s.k) + 6 ≤ m + 1) (fun _ => by omega) (Nat.le_refl _) (Nat.le_refl _)
 have ht : s.k ≤ e → TokR P (tokAt L s.k) (tokAt L' (s.sh d).k) := g.agr _ ha
 generalize tokAt L s.k = t at *
 generalize tokAt L' (s.sh d).k = t' at ht ⊢
 revert t'
 refine Bd.tok g (Nat.le_refl _) (by omega) fun t' htt => ?_
 simp only [htt.kind, htt.text]
 refine Bd.ite (fun _ => Iff.rfl) (by omega) (fun h => ?_) fun h4 => ?_
 ·exact is_b g (fun _ hl => (c.block hd s ha).weak (fun _ => by omega) (Nat.le_refl _) (Nat.le_refl _)) fun _ => hpl
 have hl := hlt (by omega)
 refine Bd.ite (fun _ => Iff.rfl) (by omega) (fun h => ?_) fun _ => ?_
 ·refine thenM g (s := s.next) fun x x' s1 h1 h2 _ hx => ?_
  simp only [next_k] at h1
  refine thenN g (c.typ hd s1 (by omega)) fun y y' s2 h3 h4 hy hyy => ?_
  refine thenN (Fu' := 10 * (L.length - s.k) + 6 ≤ m + 1) (a' := s2.k) (b' := s2.k) g (is_b g (fun _ hl2 => ?_) fun _ => Bd.ok (Nat.le_refl _) h4 (.none _) fun _ => g.none) (fun z z' s3 h5 h6 hz hzz => ?_)
  ·exact (c.expr hd s2.next (by simp only [next_k]; omega)).weak (fun _ => by simp only [next_k]; omega) (by simp only [next_k]; omega) (by simp only [next_k]; omega)
  ·exact Bd.node (by omega) h6 (.cons hy (.cons hz (.nil _))) (by simp) fun he => ⟨htt, hx.text, .cons hyy (.one hzz)⟩
 refine Bd.ite (fun _ => Iff.rfl) (by omega) (fun h => hb.weak (fun _ => ⟨by omega, by omega⟩) (Nat.le_refl _) (Nat.le_refl _)) fun _ => ?_
 refine Bd.ite (fun _ => Iff.rfl) (by omega) (fun h => hn.weak (fun _ => ⟨by omega, by omega⟩) (Nat.le_refl _) (Nat.le_refl _)) fun _ => ?_
 refine Bd.ite (fun _ => Iff.rfl) (by omega) (fun h => ?_) fun _ => ?_
 ·refine Bd.at (s.k + 1) (Nat.le_succ _) ?_
  have hu : s.k + 1 ≤ e → TokR P (tokAt L s.next.k) (tokAt L' (s.sh d).next.k) := g.agr _ (by omega)
  have hlu : (tokAt L s.next.k).kind ≠ 6 → s.next.k < L.length := tokAt_lt
  generalize tokAt L s.next.k = u at *
  generalize tokAt L' (s.sh d).next.k = u' at hu ⊢
  revert u'
  refine Bd.tok g (Nat.le_refl _) (by omega) fun u' huu => ?_
  simp only [huu.kind, huu.text]
  refine Bd.ite (fun _ => Iff.rfl) (by omega) (fun h => ?_) fun _ => ?_
  ·have := hlu (by omega)
   exact Bd.node (s := s.next.next) (by simp only [next_k]; omega) this (.nil _) (by simp) fun he => ⟨htt, rfl, .nil P⟩
  ·exact Bd.node (s := s.next) (by simp only [next_k]; omega) hl (.nil _) (by simp) fun he => ⟨htt, rfl, .nil P⟩
 refine Bd.ite (fun _ => Iff.rfl) (by omega) (fun h => Bd.node (s := s.next) (by simp only [next_k]; omega) hl (.nil _) (by simp) fun he => ⟨htt, rfl, .nil P⟩) fun _ => ?_
 refine Bd.ite (fun _ => Iff.rfl) (by omega) (fun h => ?_) fun _ => ?_
 ·refine Bd.at (s.k + 1) (Nat.le_succ _) ?_
  refine is_b g (s := s.next) (fun h hl3 => Bd.node (s := s.next) (by simp only [next_k]; omega) hl (.cons (.none _) (.nil _)) (by simp) fun he => ⟨htt, rfl, .one g.none⟩) fun _ => ?_
  refine thenN g (c.expr hd s.next (by simp only [next_k]; omega)) fun x x' s1 h1 h2 hx hxx => ?_
  simp only [next_k] at h1
  exact Bd.node (by omega) h2 (.cons hx (.nil _)) (by simp) fun he => ⟨htt, rfl, .one hxx⟩
 refine Bd.ite (fun _ => Iff.rfl) (by omega) (fun h => ?_) fun _ => hpl
 refine thenN g (call_b g c hd s.next (by simp only [next_k]; omega)) fun x x' s1 h1 h2 hx hxx => ?_
 simp only [next_k] at h1
 exact Bd.node (by omega) h2 (.cons hx (.nil _)) (by simp) fun he => ⟨htt, rfl, .one hxx⟩

theorem behind_b (g : Alike P L L' d a0 e) {m : Nat} {r : Rec} (c : RecB P L L' d a0 e m r) (hd : Bool) (s : St) (ha : a0 ≤ s.k) :
  BN P e d L.length (10 * (L.length - s.k) + 1 ≤ m + 4) s.k (s.k + 1) (behindF r L hd s) (behindF r L' hd (s.sh d)) := by
 unfold behindF
 refine thenW g fun t t' s1 h1 h2 _ ht => ?_
 refine thenL g (c.stmts hd s1 (by omega) h2) fun l l' s2 h3 h4 hs hv => ?_
 exact Bd.node (by omega) h4 hs.2 (by have := hs.1; omega) fun _ => ⟨ht, rfl, hv⟩

theorem commas_b (g : Alike P L L' d a0 e) {m : Nat} {r : Rec} (c : RecB P L L' d a0 e m r) (hd : Bool) {k0 : Nat} (ha : a0 ≤ k0) : ∀ (n : Nat) (l l' : List Nd) (s : St), k0 ≤ s.k → s.k ≤ L.length → LW L.length l s → LR P l l' →
  BL P e d L.length (10 * (L.length - k0) + 1 ≤ m + 4 ∧ L.length - s.k < n) s.k s.k (commasGo r L hd n l s) (commasGo r L' hd n l' (s.sh d)) := by
 intro n
 induction n with
 | zero => exact fun _ _ s _ _ _ _ => Bd.out (by omega)
 | succ n ih =>
  intro l l' s hk hl hw hv
  unfold commasGo
  refine is_b g (fun h hl2 => ?_) fun _ => Bd.ok (Nat.le_refl _) hl hw fun _ => hv
  refine thenN g (c.expr hd s.next (by simp only [next_k]; omega)) fun x x' s1 h1 h2 hx hxx => ?_
  simp only [next_k] at h1
  exact (ih (l ++ [x]) (l' ++ [x']) s1 (by omega) h2 ⟨by have := hw.1; simp only [List.length_append, List.length_singleton]; omega, SL.app hw.2 (.cons hx (.nil _))⟩ (hv.app (.one hxx))).weak (fun h => ⟨h.1, by omega⟩) (by omega) (by omega)

end
end Go.Proofs.ZL
