/- The parser on two lists of tokens that are alike over a stretch: expressions. -/
import Derived.Test.YtoifleamknbeaaaGreatDoorYSB
open Go Go.Am
namespace Go.Proofs.ZL
set_option linter.unusedSimpArgs false
set_option linter.unusedVariables false

section
variable {P : Int → Int → Prop} {L L' : List Tok} {d a0 e : Nat}
section
variable {α : Type} {W : α → St → Prop} {V : α → α → Prop} {Fu Fu' : Prop} {a b a' b' : Nat}

theorem Bd.tok (g : Alike P L L' d a0 e) {k : Nat} {t : Tok} {r : R α} {F : Tok → R α} (hk : k ≤ a) (hab : a ≤ b) (h : ∀ t', TokR P t t' → Bd e d L.length W V Fu a b r (F t')) : ∀ t', (k ≤ e → TokR P t t') → Bd e d L.length W V Fu a b r (F t') := by
 intro t' ht
 by_cases hke : k ≤ e
 ·exact h t' (ht hke)
 ·obtain ⟨t2, ht2⟩ := TokR.tot g.tot t
  have h2 := h t2 ht2
  cases r with
  | ok x s => exact ⟨h2.1, h2.2.1, h2.2.2.1, fun he => by have := h2.1; omega⟩
  | bad i => exact ⟨h2.1, fun he => by have := h2.1; omega⟩
  | out => exact h2

theorem comma_b (g : Alike P L L' d a0 e) {s : St} {Fu : Prop} (ha : a0 ≤ s.k) (hl : s.k ≤ L.length) : Bd e d L.length (fun _ _ => True) (fun _ _ => True) Fu s.k s.k (commaR L s) (commaR L' (s.sh d)) := by
 unfold commaR
 refine is_b g (fun _ _ => Bd.ok (Nat.le_refl _) hl trivial fun _ => trivial) fun _ => ?_
 refine thenW g fun t t' s2 h1 h2 _ ht => ?_
 exact Bd.ok (by omega) h2 trivial fun _ => trivial
end

theorem items_b (g : Alike P L L' d a0 e) {r : Rec} {hd : Bool} {k0 : Nat} {Fu : Prop} (ha : a0 ≤ k0) {one one' : St → R Nd} (h1 : ∀ s, k0 ≤ s.k → s.k ≤ L.length → BN P e d L.length Fu s.k (s.k + 1) (one s) (one' (s.sh d))) :
  ∀ (n : Nat) (out out' : List Nd) (s : St), k0 ≤ s.k → s.k ≤ L.length → LW L.length out s → LR P out out' → BL P e d L.length (Fu ∧ L.length - s.k < n) s.k (s.k + 1) (itemsGo r L hd one n out s) (itemsGo r L' hd one' n out' (s.sh d)) := by
 intro n
 induction n with
 | zero => exact fun _ _ s _ _ _ _ => Bd.out (by omega)
 | succ n ih =>
  intro out out' s hk hl hw hv
  unfold itemsGo
  refine is_b g (fun h hl2 => Bd.ok (s := s.next) (Nat.le_refl _) hl2 ⟨by have := hw.1; simp only [next_k]; omega, hw.2⟩ fun _ => hv) (fun _ => ?_)
  refine thenN (b' := s.k + 1) (a' := s.k) (Fu' := Fu) g (h1 s hk hl) (fun x x' s1 h1 h2 hx hxx => ?_) (fun h => h.1)
  refine thenU g (comma_b g (by omega) h2) fun s2 h3 h4 => ?_
  exact (ih (out ++ [x]) (out' ++ [x']) s2 (by omega) h4 ⟨by have := hw.1; simp only [List.length_append, List.length_singleton]; omega, SL.app hw.2 (.cons hx (.nil _))⟩ (hv.app (.one hxx))).weak (fun h => ⟨h.1, by omega⟩) (by omega) (by omega)

theorem exprs_b (g : Alike P L L' d a0 e) {m : Nat} {r : Rec} (c : RecB P L L' d a0 e m r) (t : ByteArray) (hd : Bool) (s : St) (ha : a0 ≤ s.k) (hl : s.k ≤ L.length) :
  BL P e d L.length (10 * (L.length - s.k) + 4 ≤ m) s.k (s.k + 1) (exprsF m r t L hd s) (exprsF m r t L' hd (s.sh d)) := by
 unfold exprsF
 refine Bd.then (until_b (W := fun l s => LW L.length l s) (V := LR P) (Fu := 10 * (L.length - s.k) + 4 ≤ m) (k0 := s.k) g ha (fun x => g.list x) (fun l l' s2 h3 h4 hs hv => ?_) m [] [] s (Nat.le_refl _) hl ⟨Nat.zero_le _, fun i t h => by cases h⟩ (.nil P)) (fun h => ⟨h, by omega⟩) (by omega) (by omega) (fun x _ _ => g.list x) fun kids kids' s2 h3 h4 hs hv => ?_
 ·refine thenU g (sep_b g (by omega) h4 (by cases l <;> cases l' <;> first | rfl | cases hv.1)) fun s3 h5 h6 => ?_
  refine thenN g (c.expr hd s3 (by omega)) fun x x' s4 h7 h8 hx hxx => ?_
  exact Bd.ok (by omega) h8 ⟨by have := hs.1; simp only [List.length_append, List.length_singleton]; omega, SL.app hs.2 (.cons hx (.nil _))⟩ fun _ => hv.app (.one hxx)
 ·have hl2 := isR_lt hs.2
  exact Bd.ok (s := s2.next) (by simp only [next_k]; omega) hl2 ⟨by have := hs.1.1; simp only [next_k]; omega, hs.1.2⟩ fun _ => hv

theorem marked_b (g : Alike P L L' d a0 e) {m : Nat} {r : Rec} (c : RecB P L L' d a0 e m r) (hd : Bool) (s : St) (ha : a0 ≤ s.k) (hl : s.k < L.length) {t' : Tok} (ht : TokR P (tokAt L s.k) t') :
  BN P e d L.length (10 * (L.length - s.k) + 1 ≤ m + 1) s.k (s.k + 1) (markedF m r (tokAt L s.k) L hd s) (markedF m r t' L' hd (s.sh d)) := by
 unfold markedF
 generalize tokAt L s.k = t at *
 obtain ⟨p', hp, rfl⟩ := ht
 have htt : TokR P t ⟨t.kind, t.text, t.num, p'⟩ := ⟨p', hp, rfl⟩
 simp only
 refine Bd.ite (fun _ => Iff.rfl) (by omega) (fun _ => ?_) fun _ => ?_
 ·refine thenN g (c.expr false s.next (Nat.le_succ_of_le ha)) fun x x' s1 h1 h2 hx hxx => ?_
  simp only [next_k] at h1
  refine thenW g fun t t' s2 h1 h2 _ ht => ?_
  exact Bd.ok (by omega) h2 hx fun _ => hxx
 refine Bd.ite (fun _ => Iff.rfl) (by omega) (fun _ => Bd.fail (Nat.le_refl _)) fun _ => ?_
 refine Bd.ite (fun _ => Iff.rfl) (by omega) (fun _ => ?_) fun _ => ?_
 ·refine thenM g (s := s.next) fun x x' s1 h1 h2 _ hx => ?_
  simp only [next_k] at h1
  refine thenW g fun _ _ s2 h3 h4 _ _ => ?_
  refine thenL (Fu' := 10 * (L.length - s.k) + 1 ≤ m + 1 ∧ L.length - s2.k < m) (a' := s2.k) (b' := s2.k + 1) g (items_b g (k0 := s2.k) (by omega) (fun s3 h5 h6 => ?_) m [] [] s2 (Nat.le_refl _) h4 ⟨Nat.zero_le _, fun i t h => by cases h⟩ (.nil P)) (fun l l' s3 h5 h6 hs hv => ?_)
  ·refine thenM g fun y y' s4 h7 h8 _ hy => ?_
   refine thenW g fun _ _ s5 h9 h10 _ _ => ?_
   refine thenN g (c.expr hd s5 (by omega)) fun z z' s6 h11 h12 hz hzz => ?_
   exact Bd.node (by omega) h12 (.cons hz (.nil _)) (by simp) fun _ => ⟨hy, hy.text, .one hzz⟩
  ·exact Bd.node (by omega) h6 hs.2 (by have := hs.1; omega) fun _ => ⟨htt, hx.text, hv⟩
 refine Bd.ite (fun _ => Iff.rfl) (by omega) (fun _ => ?_) fun _ => Bd.fail (Nat.le_refl _)
 ·refine thenW g (s := s.next) fun x x' s1 h1 h2 _ hx => ?_
  simp only [next_k] at h1
  refine thenN g (c.typ hd s1 (by omega)) fun ty ty' s2 h3 h4 hty htyy => ?_
  refine thenW g fun _ _ s3 h5 h6 _ _ => ?_
  refine thenL (Fu' := 10 * (L.length - s.k) + 1 ≤ m + 1 ∧ L.length - s3.k < m) (a' := s3.k) (b' := s3.k + 1) g (items_b g (k0 := s3.k) (by omega) (fun s4 h7 h8 => ?_) m [ty] [ty'] s3 (Nat.le_refl _) h6 ⟨by simp, SL.cons hty (.nil _)⟩ (.one htyy)) (fun l l' s4 h7 h8 hs hv => ?_)
  ·exact (c.expr hd s4 (by omega)).weak (fun _ => by omega) (Nat.le_refl _) (Nat.le_refl _)
  ·exact Bd.node (by omega) h8 hs.2 (by have := hs.1; omega) fun _ => ⟨htt, rfl, hv⟩

theorem worded_b (g : Alike P L L' d a0 e) {m : Nat} {r : Rec} (c : RecB P L L' d a0 e m r) (hd : Bool) (s : St) (ha : a0 ≤ s.k) (hl : s.k < L.length) {t' : Tok} (ht : TokR P (tokAt L s.k) t') :
  BN P e d L.length (10 * (L.length - s.k) + 1 ≤ m + 1) s.k (s.k + 1) (wordedF m r (tokAt L s.k) L hd s) (wordedF m r t' L' hd (s.sh d)) := by
 unfold wordedF
 generalize tokAt L s.k = t at *
 obtain ⟨p', hp, rfl⟩ := ht
 have htt : TokR P t ⟨t.kind, t.text, t.num, p'⟩ := ⟨p', hp, rfl⟩
 simp only
 refine Bd.ite (fun _ => Iff.rfl) (by omega) (fun _ => Bd.node (s := s.next) (Nat.le_refl _) hl (.nil _) (by simp) fun _ => ⟨htt, rfl, .nil P⟩) fun _ => ?_
 refine Bd.ite (fun _ => Iff.rfl) (by omega) (fun _ => Bd.node (s := s.next) (Nat.le_refl _) hl (.nil _) (by simp) fun _ => ⟨htt, rfl, .nil P⟩) fun _ => ?_
 refine Bd.ite (fun _ => Iff.rfl) (by omega) (fun _ => ?_) fun _ => ?_
 ·refine thenL g (c.function hd s.next (Nat.le_succ_of_le ha)) fun l l' s1 h1 h2 hs hv => ?_
  simp only [next_k] at h1
  exact Bd.node (by omega) h2 hs.2 (by have := hs.1; omega) fun _ => ⟨htt, rfl, hv⟩
 refine Bd.ite (fun _ => Iff.rfl) (by omega) (fun _ => ?_) fun _ => ?_
 ·refine thenW g (s := s.next) fun _ _ s1 h1 h2 _ _ => ?_
  simp only [next_k] at h1
  refine thenN g (c.typ hd s1 (by omega)) fun ty ty' s2 h3 h4 hty htyy => ?_
  refine thenL (Fu' := 10 * (L.length - s.k) + 1 ≤ m + 1) (a' := s2.k) (b' := s2.k) g (is_b g (fun _ hl2 => ?_) (fun _ => Bd.ok (Nat.le_refl _) h4 ⟨by simp, SL.cons hty (.nil _)⟩ fun _ => .one htyy)) (fun l l' s4 h7 h8 hs hv => ?_)
  ·refine thenN g (c.expr false s2.next (by simp only [next_k]; omega)) fun x x' s3 h5 h6 hx hxx => ?_
   simp only [next_k] at h5
   exact Bd.ok (by omega) h6 ⟨by simp, SL.cons hty (.cons hx (.nil _))⟩ fun _ => .cons htyy (.one hxx)
  ·refine thenW g fun _ _ s5 h9 h10 _ _ => ?_
   exact Bd.node (by omega) h10 hs.2 (by have := hs.1; omega) fun _ => ⟨htt, rfl, hv⟩
 refine Bd.ite (fun _ => Iff.rfl) (by omega) (fun _ => ?_) fun _ => ?_
 ·refine thenW g (s := s.next) fun _ _ s1 h1 h2 _ _ => ?_
  simp only [next_k] at h1
  refine thenM g fun x x' s2 h3 h4 _ hx => ?_
  refine thenW g fun _ _ s3 h5 h6 _ _ => ?_
  exact Bd.node (by omega) h6 (.cons (.of (.nil _) (by simp) _ _ _ _ _ _) (.nil _)) (by simp) fun _ => ⟨htt, rfl, .one (by rw [hx.text]; exact hx.nd (.nil P) _ _)⟩
 refine Bd.ite (fun _ => Iff.rfl) (by omega) (fun _ => ?_) fun _ => Bd.fail (Nat.le_refl _)
 ·refine thenW g (s := s.next) fun _ _ s1 h1 h2 _ _ => ?_
  simp only [next_k] at h1
  refine thenL g (exprs_b g c _ false s1 (by omega) h2) fun l l' s2 h3 h4 hs hv => ?_
  exact Bd.node (by omega) h4 hs.2 (by have := hs.1; omega) fun _ => ⟨htt, rfl, hv⟩

theorem operand_b (g : Alike P L L' d a0 e) {m : Nat} {r : Rec} (c : RecB P L L' d a0 e m r) (hd : Bool) (s : St) (a : Nat) (ha : a0 ≤ s.k) (h1 : s.k ≤ a) (h2 : a ≤ s.k + 1) (h3 : a = s.k ∨ (tokAt L s.k).kind = 1) :
  BN P e d L.length (10 * (L.length - s.k) + 1 ≤ m + 1) a (s.k + 1) (operandF m r L hd s) (operandF m r L' hd (s.sh d)) := by
 unfold operandF
 have hlt : (tokAt L s.k).kind ≠ 6 → s.k < L.length := tokAt_lt
 have ht : s.k ≤ e → TokR P (tokAt L s.k) (tokAt L' (s.sh d).k) := g.agr _ ha
 generalize tokAt L' (s.sh d).k = t' at ht ⊢
 revert t'
 refine Bd.tok g h1 h2 fun t' ht => ?_
 obtain ⟨p', hp, rfl⟩ := ht
 have htt : TokR P (tokAt L s.k) ⟨(tokAt L s.k).kind, (tokAt L s.k).text, (tokAt L s.k).num, p'⟩ := ⟨p', hp, rfl⟩
 simp only
 refine Bd.ite (fun _ => Iff.rfl) h2 (fun h => ?_) fun _ => ?_
 ·exact Bd.ok (s := s.next) (Nat.le_refl _) (hlt (by omega)) (.of (.nil _) (by simp) _ _ _ _ _ _) fun _ => .of hp (.nil P) _ _ _ _ _
 refine Bd.ite (fun _ => Iff.rfl) h2 (fun h => ?_) fun _ => ?_
 ·exact Bd.node (s := s.next) (Nat.le_refl _) (hlt (by omega)) (.nil _) (by simp) fun _ => ⟨htt, rfl, .nil P⟩
 refine Bd.ite (fun _ => Iff.rfl) h2 (fun h => ?_) fun hne => ?_
 ·exact Bd.node (s := s.next) (Nat.le_refl _) (hlt (by omega)) (.nil _) (by simp) fun _ => ⟨htt, rfl, .nil P⟩
 obtain rfl : a = s.k := by omega
 refine Bd.ite (fun _ => Iff.rfl) h2 (fun h => marked_b g c hd s ha (hlt (by omega)) htt) fun _ => ?_
 exact Bd.ite (fun _ => Iff.rfl) h2 (fun h => worded_b g c hd s ha (hlt (by omega)) htt) fun _ => Bd.fail (Nat.le_refl _)

theorem slice_b (g : Alike P L L' d a0 e) {m : Nat} {r : Rec} (c : RecB P L L' d a0 e m r) (hd : Bool) {n n' low low' : Nd} {t t' : Tok} (ht : TokR P t t') (hn : Small (L.length + 10) n) (hnn : NdR P n n') (hl : Small (L.length + 10) low) (hll : NdR P low low') (s : St) (ha : a0 ≤ s.k) :
  BN P e d L.length (10 * (L.length - s.k) + 4 ≤ m) s.k (s.k + 1)
   ((wantR L s (⟨#[58]⟩ : ByteArray)).then fun _ s => (if isR L s [(⟨#[93]⟩ : ByteArray)] then .ok noneN s else r.expr L hd s).then fun high s => (wantR L s (⟨#[93]⟩ : ByteArray)).then fun _ s => .ok (nd 46 t (⟨#[]⟩ : ByteArray) [n, low, high]) s)
   ((wantR L' (s.sh d) (⟨#[58]⟩ : ByteArray)).then fun _ s => (if isR L' s [(⟨#[93]⟩ : ByteArray)] then .ok noneN s else r.expr L' hd s).then fun high s => (wantR L' s (⟨#[93]⟩ : ByteArray)).then fun _ s => .ok (nd 46 t' (⟨#[]⟩ : ByteArray) [n', low', high]) s) := by
 refine thenW g fun _ _ s1 h1 h2 _ _ => ?_
 refine thenN (Fu' := 10 * (L.length - s.k) + 4 ≤ m) (a' := s1.k) (b' := s1.k) g (is_b g (fun _ _ => Bd.ok (Nat.le_refl _) h2 (.none _) fun _ => g.none) fun _ => ?_) fun x x' s2 h3 h4 hx hxx => ?_
 ·exact (c.expr hd s1 (by omega)).weak (fun _ => by omega) (Nat.le_refl _) (by omega)
 refine thenW g fun _ _ s3 h5 h6 _ _ => ?_
 exact Bd.node (by omega) h6 (.cons hn (.cons hl (.cons hx (.nil _)))) (by simp) fun _ => ⟨ht, rfl, .cons hnn (.cons hll (.one hxx))⟩

theorem index_b (g : Alike P L L' d a0 e) {m : Nat} {r : Rec} (c : RecB P L L' d a0 e m r) (hd : Bool) {n n' : Nd} {t t' : Tok} (ht : TokR P t t') (hn : Small (L.length + 10) n) (hnn : NdR P n n') (s : St) (ha : a0 ≤ s.k) :
  BN P e d L.length (10 * (L.length - s.k) + 4 ≤ m) s.k (s.k + 1) (indexF r t n L hd s) (indexF r t' n' L' hd (s.sh d)) := by
 unfold indexF
 refine is_b g (fun _ _ => slice_b g c hd ht hn hnn (.none _) g.none s ha) fun _ => ?_
 refine thenN g (c.expr hd s ha) fun x x' s1 h1 h2 hx hxx => ?_
 refine is_b g (fun _ hl => Bd.node (s := s1.next) (by simp only [next_k]; omega) hl (.cons hn (.cons hx (.nil _))) (by simp) fun _ => ⟨ht, rfl, .cons hnn (.one hxx)⟩) fun _ => ?_
 exact (slice_b g c hd ht hn hnn hx hxx s1 (by omega)).weak (fun _ => by omega) (Nat.le_refl _) (by omega)

end
end Go.Proofs.ZL
