/- The parser on two lists of tokens that are alike over a stretch: all functions, files; the parser ends. -/
import Derived.Test.YtoifleamknbeaaaGreatDoorYSH
open Go Go.Am
namespace Go.Proofs.ZL
set_option linter.unusedSimpArgs false
set_option linter.unusedVariables false

section
variable {P : Int → Int → Prop} {L L' : List Tok} {d a0 e : Nat}

theorem rec_b (g : Alike P L L' d a0 e) : ∀ n, RecB P L L' d a0 e n (recN n)
 | 0 => by
  constructor
  all_goals intros
  all_goals exact Bd.out (by omega)
 | n + 1 => by
  have c := rec_b g n
  constructor
  ·exact fun hd s ha => typ_b g c hd s ha
  ·exact fun hd s ha => function_b g c hd s ha
  ·exact fun hd s ha => block_b g c hd s ha
  ·exact fun hd s ha hl => stmts_b g c hd s ha hl
  ·exact fun hd s ha => stmt_b g c hd s ha
  ·exact fun hd s ha => nested_b g c hd s ha
  ·exact fun hd s ha => branch_b g c hd s ha
  ·exact fun hd s ha => (c.binary 1 hd s ha).weak (fun _ => by omega) (Nat.le_refl _) (Nat.le_refl _)
  ·exact fun least hd s ha => binary_b g c least hd s ha
  ·exact fun hd s ha => unary_b g c hd s ha
  ·exact fun hd s a ha h1 h2 h3 => primary_b g c hd s a ha h1 h2 h3
  ·exact fun hd s a ha h1 h2 h3 => simple_b g c hd s a ha h1 h2 h3

theorem decl_b (g : Alike P L L' d a0 e) {m : Nat} {r : Rec} (c : RecB P L L' d a0 e m r) (hd : Bool) (s : St) (ha : a0 ≤ s.k) :
  BN P e d L.length (10 * (L.length - s.k) + 1 ≤ m) s.k (s.k + 1) (declF m r L hd s) (declF m r L' hd (s.sh d)) := by
 unfold declF
 have ht : s.k ≤ e → TokR P (tokAt L s.k) (tokAt L' (s.sh d).k) := g.agr _ ha
 generalize tokAt L s.k = t at *
 generalize tokAt L' (s.sh d).k = t' at ht ⊢
 revert t'
 refine Bd.tok g (Nat.le_refl _) (by omega) fun t' htt => ?_
 refine is_b g (fun _ hl => ?_) fun _ => ?_
 ·refine thenM g (s := s.next) fun x x' s1 h1 h2 _ hx => ?_
  simp only [next_k] at h1
  refine thenW g fun _ _ s2 h3 h4 _ _ => ?_
  refine thenW g fun _ _ s3 h5 h6 _ _ => ?_
  unfold fieldsR
  refine Bd.then (until_b (W := fun l s => LW L.length l s) (V := LR P) (Fu := 10 * (L.length - s.k) + 1 ≤ m) (k0 := s3.k) g (by omega) (fun x => g.list x) (fun l l' s4 h7 h8 hs hv => ?_) m [] [] s3 (Nat.le_refl _) h6 ⟨Nat.zero_le _, fun i t h => by cases h⟩ (.nil P)) (fun h => ⟨h, by omega⟩) (by omega) (by omega) (fun x _ _ => g.list x) fun kids kids' s4 h7 h8 hs hv => ?_
  ·refine thenM g fun y y' s5 h9 h10 _ hy => ?_
   refine thenN g (c.typ hd s5 (by omega)) fun z z' s6 h11 h12 hz hzz => ?_
   refine thenW g fun _ _ s7 h13 h14 _ _ => ?_
   exact Bd.ok (by omega) h14 ⟨by have := hs.1; simp only [List.length_append, List.length_singleton]; omega, SL.app hs.2 (.cons (.of (.cons hz (.nil _)) (by simp) _ _ _ _ _ _) (.nil _))⟩ fun _ => hv.app (.one (by rw [hy.text]; exact hy.nd (.one hzz) _ _))
  ·have hl2 := isR_lt hs.2
   exact Bd.node (s := s4.next) (by simp only [next_k]; omega) hl2 hs.1.2 (by have := hs.1.1; omega) fun _ => ⟨htt, hx.text, hv⟩
 refine is_b g (fun _ hl => ?_) fun _ => ?_
 ·refine thenM g (s := s.next) fun x x' s1 h1 h2 _ hx => ?_
  simp only [next_k] at h1
  refine thenN g (c.typ hd s1 (by omega)) fun z z' s6 h11 h12 hz hzz => ?_
  exact Bd.node (by omega) h12 (.cons hz (.nil _)) (by simp) fun _ => ⟨htt, hx.text, .one hzz⟩
 refine is_b g (fun _ hl => ?_) fun _ => Bd.fail (Nat.le_refl _)
 refine thenM g (s := s.next) fun x x' s1 h1 h2 _ hx => ?_
 simp only [next_k] at h1
 refine thenL g (c.function hd s1 (by omega)) fun l l' s2 h3 h4 hs hv => ?_
 exact Bd.node (by omega) h4 hs.2 (by have := hs.1; omega) fun _ => ⟨htt, hx.text, hv⟩

theorem fileGo_b (g : Alike P L L' d a0 e) {m : Nat} {r : Rec} (c : RecB P L L' d a0 e m r) (hd : Bool) {k0 : Nat} (ha : a0 ≤ k0) : ∀ (n : Nat) (l l' : List Nd) (s : St), k0 ≤ s.k → s.k ≤ L.length → LW L.length l s → LR P l l' →
  BL P e d L.length (10 * (L.length - k0) + 1 ≤ m ∧ L.length - s.k < n) s.k s.k (fileGo m r L hd n l s) (fileGo m r L' hd n l' (s.sh d)) := by
 intro n
 induction n with
 | zero => exact fun _ _ s _ _ _ _ => Bd.out (by omega)
 | succ n ih =>
  intro l l' s hk hl hw hv
  unfold fileGo
  refine Bd.ite (fun he => ?_) (Nat.le_refl _) (fun _ => Bd.ok (Nat.le_refl _) hl hw fun _ => hv) fun _ => ?_
  ·have ht : TokR P (tokAt L s.k) (tokAt L' (s.sh d).k) := g.agr _ (by omega) he
   rw [ht.kind]
  refine thenN g (decl_b g c hd s (by omega)) fun x x' s1 h1 h2 hx hxx => ?_
  refine thenW g fun _ _ s2 h3 h4 _ _ => ?_
  exact (ih (l ++ [x]) (l' ++ [x']) s2 (by omega) h4 ⟨by have := hw.1; simp only [List.length_append, List.length_singleton]; omega, SL.app hw.2 (.cons hx (.nil _))⟩ (hv.app (.one hxx))).weak (fun h => ⟨h.1, by omega⟩) (by omega) (by omega)

theorem file_b (g : Alike P L L' d 0 e) {m : Nat} (hd : Bool) (s : St) (hl : s.k ≤ L.length) :
  BN P e d L.length (10 * L.length + 1 ≤ m) s.k s.k (fileF m (recN m) L hd s) (fileF m (recN m) L' hd (s.sh d)) := by
 unfold fileF
 refine thenL g (fileGo_b g (rec_b g m) hd (k0 := 0) (Nat.le_refl _) m [] [] s (Nat.zero_le _) hl ⟨Nat.zero_le _, fun i t h => by cases h⟩ (.nil P)) (fun l l' s2 h3 h4 hs hv => ?_) (fun h => ⟨by omega, by omega⟩)
 exact Bd.ok (by omega) h4 (.of hs.2 (by have := hs.1; omega) _ _ _ _ _ _) fun _ => .of g.zero hv _ _ _ _ _
end

theorem file_ends {L : List Tok} {m : Nat} (hm : 10 * L.length + 1 ≤ m) : fileF m (recN m) L false ⟨0, false⟩ ≠ .out := by
 have g : Alike (fun _ _ => True) L L 0 0 0 := ⟨trivial, fun p => ⟨p, trivial⟩, fun i _ _ => ⟨(tokAt L i).pos, trivial, by rw [Nat.zero_add]⟩⟩
 have h := file_b g (m := m) false ⟨0, false⟩ (Nat.zero_le _)
 intro h2
 rw [h2] at h
 exact h hm

end Go.Proofs.ZL
