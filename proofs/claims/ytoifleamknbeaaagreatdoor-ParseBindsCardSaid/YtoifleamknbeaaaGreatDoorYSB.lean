/- The parser on two lists of tokens that are alike over a stretch: types, functions, blocks. -/
import Derived.Test.YtoifleamknbeaaaGreatDoorYSA
open Go Go.Am
namespace Go.Proofs.ZL
set_option linter.unusedSimpArgs false
set_option linter.unusedVariables false

def SL (n : Nat) (l : List Nd) : Prop := ∀ (i : Nat) t, l[i]? = some t → Small n t
theorem SL.nil (n : Nat) : SL n [] := fun i t h => by cases h
theorem SL.cons {n : Nat} {t : Nd} {l : List Nd} (h : Small n t) (hl : SL n l) : SL n (t :: l) := by
 intro i u hu
 cases i with
 | zero => simp only [List.getElem?_cons_zero, Option.some.injEq] at hu; subst hu; exact h
 | succ i => exact hl i u (by simpa using hu)
theorem SL.app {n : Nat} {l m : List Nd} (hl : SL n l) (hm : SL n m) : SL n (l ++ m) := by
 intro i u hu
 rcases Nat.lt_or_ge i l.length with h | h
 ·rw [List.getElem?_append_left h] at hu; exact hl i u hu
 ·rw [List.getElem?_append_right h] at hu; exact hm _ u hu
theorem Small.of {n : Nat} {l : List Nd} (hl : SL n l) (h : l.length ≤ n) (kind : Int) (text : ByteArray) (num pos : Int) (typ : ByteArray) (ref : Int) : Small n (.mk kind text num pos typ ref l) := .mk _ _ _ _ _ _ _ h hl
theorem Small.none (n : Nat) : Small n noneN := .of (.nil _) (Nat.zero_le _) _ _ _ _ _ _

section
variable {P : Int → Int → Prop} {L L' : List Tok} {d a0 e : Nat}

theorem Alike.nd (g : Alike P L L' d a0 e) (t : Nd) : ∃ t', NdR P t t' := NdR.tot g.tot t
theorem Alike.list (g : Alike P L L' d a0 e) (t : List Nd) : ∃ t', LR P t t' := LR.tot g.tot t
theorem Alike.none (g : Alike P L L' d a0 e) : NdR P noneN noneN := NdR.of g.zero (.nil P) _ _ _ _ _

structure RecB (P : Int → Int → Prop) (L L' : List Tok) (d a0 e : Nat) (m : Nat) (r : Rec) : Prop where
 typ : ∀ hd s, a0 ≤ s.k → BN P e d L.length (10 * (L.length - s.k) + 1 ≤ m) s.k (s.k + 1) (r.typ L hd s) (r.typ L' hd (s.sh d))
 function : ∀ hd s, a0 ≤ s.k → BL P e d L.length (10 * (L.length - s.k) + 1 ≤ m) s.k (s.k + 1) (r.function L hd s) (r.function L' hd (s.sh d))
 block : ∀ hd s, a0 ≤ s.k → BN P e d L.length (10 * (L.length - s.k) + 1 ≤ m) s.k (s.k + 1) (r.block L hd s) (r.block L' hd (s.sh d))
 stmts : ∀ hd s, a0 ≤ s.k → s.k ≤ L.length → BL P e d L.length (10 * (L.length - s.k) + 7 ≤ m) s.k s.k (r.stmts L hd s) (r.stmts L' hd (s.sh d))
 stmt : ∀ hd s, a0 ≤ s.k → BN P e d L.length (10 * (L.length - s.k) + 6 ≤ m) s.k (s.k + 1) (r.stmt L hd s) (r.stmt L' hd (s.sh d))
 nested : ∀ hd s, a0 ≤ s.k → BN P e d L.length (10 * (L.length - s.k) + 1 ≤ m ∧ (tokAt L s.k).kind ≠ 6) s.k (s.k + 1) (r.nested L hd s) (r.nested L' hd (s.sh d))
 branch : ∀ hd s, a0 ≤ s.k → BN P e d L.length (10 * (L.length - s.k) + 1 ≤ m ∧ (tokAt L s.k).kind ≠ 6) s.k (s.k + 1) (r.branch L hd s) (r.branch L' hd (s.sh d))
 expr : ∀ hd s, a0 ≤ s.k → BN P e d L.length (10 * (L.length - s.k) + 4 ≤ m) s.k (s.k + 1) (r.expr L hd s) (r.expr L' hd (s.sh d))
 binary : ∀ least hd s, a0 ≤ s.k → BN P e d L.length (10 * (L.length - s.k) + 3 ≤ m) s.k (s.k + 1) (r.binary least L hd s) (r.binary least L' hd (s.sh d))
 unary : ∀ hd s, a0 ≤ s.k → BN P e d L.length (10 * (L.length - s.k) + 2 ≤ m) s.k (s.k + 1) (r.unary L hd s) (r.unary L' hd (s.sh d))
 primary : ∀ hd s a, a0 ≤ s.k → s.k ≤ a → a ≤ s.k + 1 → (a = s.k ∨ (tokAt L s.k).kind = 1) → BN P e d L.length (10 * (L.length - s.k) + 1 ≤ m) a (s.k + 1) (r.primary L hd s) (r.primary L' hd (s.sh d))
 simple : ∀ hd s a, a0 ≤ s.k → s.k ≤ a → a ≤ s.k + 1 → (a = s.k ∨ (tokAt L s.k).kind = 1) → BN P e d L.length (10 * (L.length - s.k) + 2 ≤ m) a (s.k + 1) (r.simple L hd s) (r.simple L' hd (s.sh d))

theorem until_b {α : Type} {W : α → St → Prop} {V : α → α → Prop} {Fu : Prop} {k0 : Nat} {ts : List ByteArray} {f f' : α → St → R α} (g : Alike P L L' d a0 e) (ha : a0 ≤ k0) (tot : ∀ x, ∃ x', V x x')
  (hf : ∀ x x' s, k0 ≤ s.k → s.k ≤ L.length → W x s → V x x' → Bd e d L.length W V Fu s.k (s.k + 1) (f x s) (f' x' (s.sh d))) :
  ∀ (n : Nat) x x' s, k0 ≤ s.k → s.k ≤ L.length → W x s → V x x' → Bd e d L.length (fun x s => W x s ∧ isR L s ts = true) V (Fu ∧ L.length - s.k < n) s.k s.k (untilR L ts f n x s) (untilR L' ts f' n x' (s.sh d)) := by
 intro n
 induction n with
 | zero => exact fun x x' s _ _ _ _ => Bd.out (by omega)
 | succ n ih =>
  intro x x' s hk hl hw hv
  unfold untilR
  refine Bd.ite (fun he => by rw [g.is (by omega) he]) (Nat.le_refl _) (fun h => Bd.ok (Nat.le_refl _) hl ⟨hw, h⟩ fun _ => hv) fun h => ?_
  refine Bd.then (hf x x' s hk hl hw hv) (fun h => h.1) (Nat.le_refl _) (by omega) (fun x _ _ => tot x) fun y y' s1 h1 h2 h3 h4 => ?_
  exact (ih y y' s1 (by omega) h2 h3 h4).weak (fun h => ⟨h.1, by omega⟩) (Nat.le_refl _) (by omega)

theorem sep_b (g : Alike P L L' d a0 e) {s : St} {first first' : Bool} {Fu : Prop} (ha : a0 ≤ s.k) (hl : s.k ≤ L.length) (h : first' = first) : Bd e d L.length (fun _ _ => True) (fun _ _ => True) Fu s.k s.k (sepR L s first) (sepR L' (s.sh d) first') := by
 subst h
 unfold sepR
 refine Bd.ite (fun _ => Iff.rfl) (Nat.le_refl _) (fun _ => Bd.ok (Nat.le_refl _) hl trivial fun _ => trivial) fun _ => ?_
 refine Bd.then (want_b g ha) id (Nat.le_refl _) (by omega) (fun x _ _ => TokR.tot g.tot x) fun t t' s1 h1 h2 _ _ => ?_
 exact Bd.ok (by omega) h2 trivial fun _ => trivial

theorem TokR.text {t t' : Tok} (h : TokR P t t') : t'.text = t.text := by obtain ⟨p, _, rfl⟩ := h; rfl
theorem TokR.kind {t t' : Tok} (h : TokR P t t') : t'.kind = t.kind := by obtain ⟨p, _, rfl⟩ := h; rfl
theorem TokR.nd {t t' : Tok} (h : TokR P t t') {l l' : List Nd} (hl : LR P l l') (k : Int) (x : ByteArray) : NdR P (nd k t x l) (nd k t' x l') := by obtain ⟨p, hp, rfl⟩ := h; exact .of hp hl _ _ _ _ _

theorem next_k (s : St) : s.next.k = s.k + 1 := rfl
theorem goto_k (s : St) (k : Nat) : (s.goto k).k = k := rfl
theorem with_k (s : St) (b : Bool) : (s.with b).k = s.k := rfl

section
variable {α : Type} {W : α → St → Prop} {V : α → α → Prop} {Fu Fu' : Prop} {a b a' b' : Nat}
theorem thenN (g : Alike P L L' d a0 e) {r r' : R Nd} {f f' : Nd → St → R α} (h : BN P e d L.length Fu' a' b' r r')
  (hk : ∀ x x' s, b' ≤ s.k → s.k ≤ L.length → Small (L.length + 10) x → NdR P x x' → Bd e d L.length W V Fu s.k (max b s.k) (f x s) (f' x' (s.sh d)))
  (hf : Fu → Fu' := by first | exact id | (intro _; first | omega | (simp only [next_k, goto_k, with_k]; omega))) (ha : a ≤ a' := by first | omega | (simp only [next_k, goto_k, with_k]; omega)) (hb : a ≤ b' := by first | omega | (simp only [next_k, goto_k, with_k]; omega)) :
  Bd e d L.length W V Fu a b (r.then f) (r'.then f') := Bd.then h hf ha hb (fun x _ _ => g.nd x) hk
theorem thenL (g : Alike P L L' d a0 e) {r r' : R (List Nd)} {f f' : List Nd → St → R α} (h : BL P e d L.length Fu' a' b' r r')
  (hk : ∀ x x' s, b' ≤ s.k → s.k ≤ L.length → LW L.length x s → LR P x x' → Bd e d L.length W V Fu s.k (max b s.k) (f x s) (f' x' (s.sh d)))
  (hf : Fu → Fu' := by first | exact id | (intro _; first | omega | (simp only [next_k, goto_k, with_k]; omega))) (ha : a ≤ a' := by first | omega | (simp only [next_k, goto_k, with_k]; omega)) (hb : a ≤ b' := by first | omega | (simp only [next_k, goto_k, with_k]; omega)) :
  Bd e d L.length W V Fu a b (r.then f) (r'.then f') := Bd.then h hf ha hb (fun x _ _ => g.list x) hk
theorem thenW (g : Alike P L L' d a0 e) {s : St} {t : ByteArray} {f f' : Tok → St → R α}
  (hk : ∀ x x' s1, s.k + 1 ≤ s1.k → s1.k ≤ L.length → x.kind ≠ 6 → TokR P x x' → Bd e d L.length W V Fu s1.k (max b s1.k) (f x s1) (f' x' (s1.sh d)))
  (h0 : a0 ≤ s.k := by first | omega | (simp only [next_k, goto_k, with_k]; omega)) (ha : a ≤ s.k := by first | omega | (simp only [next_k, goto_k, with_k]; omega)) :
  Bd e d L.length W V Fu a b ((wantR L s t).then f) ((wantR L' (s.sh d) t).then f') := Bd.then (want_b g h0) id ha (by omega) (fun x _ _ => TokR.tot g.tot x) hk
theorem thenM (g : Alike P L L' d a0 e) {s : St} {f f' : Tok → St → R α}
  (hk : ∀ x x' s1, s.k + 1 ≤ s1.k → s1.k ≤ L.length → x.kind ≠ 6 → TokR P x x' → Bd e d L.length W V Fu s1.k (max b s1.k) (f x s1) (f' x' (s1.sh d)))
  (h0 : a0 ≤ s.k := by first | omega | (simp only [next_k, goto_k, with_k]; omega)) (ha : a ≤ s.k := by first | omega | (simp only [next_k, goto_k, with_k]; omega)) :
  Bd e d L.length W V Fu a b ((nameR L s).then f) ((nameR L' (s.sh d)).then f') := Bd.then (name_b g h0) id ha (by omega) (fun x _ _ => TokR.tot g.tot x) hk
theorem thenU (g : Alike P L L' d a0 e) {r r' : R Unit} {f f' : Unit → St → R α} (h : Bd e d L.length (fun _ _ => True) (fun _ _ => True) Fu a' b' r r')
  (hk : ∀ s, b' ≤ s.k → s.k ≤ L.length → Bd e d L.length W V Fu s.k (max b s.k) (f () s) (f' () (s.sh d)))
  (ha : a ≤ a' := by first | omega | (simp only [next_k, goto_k, with_k]; omega)) (hb : a ≤ b' := by first | omega | (simp only [next_k, goto_k, with_k]; omega)) :
  Bd e d L.length W V Fu a b (r.then f) (r'.then f') := Bd.then h id ha hb (fun x _ _ => ⟨(), trivial⟩) fun x x' s h1 h2 _ _ => hk s h1 h2
theorem is_b (g : Alike P L L' d a0 e) {s : St} {ts : List ByteArray} {A B A' B' : R α} (h1 : isR L s ts = true → s.k < L.length → Bd e d L.length W V Fu a b A A') (h2 : isR L s ts = false → Bd e d L.length W V Fu a b B B')
  (h0 : a0 ≤ s.k := by first | omega | (simp only [next_k, goto_k, with_k]; omega)) (ha : s.k ≤ a := by first | omega | (simp only [next_k, goto_k, with_k]; omega)) (hab : a ≤ b := by first | omega | (simp only [next_k, goto_k, with_k]; omega)) :
  Bd e d L.length W V Fu a b (if isR L s ts then A else B) (if isR L' (s.sh d) ts then A' else B') :=
 Bd.ite (fun he => by rw [g.is h0 (by omega)]) hab (fun h => h1 h (isR_lt h)) (fun h => h2 (by simpa using h))
theorem Bd.node {k : Int} {t t' : Tok} {x x' : ByteArray} {l l' : List Nd} {s : St} (hb : b ≤ s.k) (hl : s.k ≤ L.length) (hs : SL (L.length + 10) l) (hn : l.length ≤ L.length + 10) (hv : s.k ≤ e → TokR P t t' ∧ x' = x ∧ LR P l l') :
  BN P e d L.length Fu a b (.ok (nd k t x l) s) (.ok (nd k t' x' l') (s.sh d)) := Bd.ok hb hl (.of hs hn _ _ _ _ _ _) fun he => by obtain ⟨h1, rfl, h3⟩ := hv he; exact h1.nd h3 _ _
end

theorem typ_b (g : Alike P L L' d a0 e) {m : Nat} {r : Rec} (c : RecB P L L' d a0 e m r) (hd : Bool) (s : St) (ha : a0 ≤ s.k) :
  BN P e d L.length (10 * (L.length - s.k) + 1 ≤ m + 1) s.k (s.k + 1) (typF m r L hd s) (typF m r L' hd (s.sh d)) := by
 unfold typF
 refine is_b g (fun h hl => ?_) (fun _ => Bd.fail (Nat.le_refl _))
 have ht : s.k ≤ e → TokR P (tokAt L s.k) (tokAt L' (s.sh d).k) := g.agr _ ha
 generalize tokAt L s.k = t at *
 generalize tokAt L' (s.sh d).k = t' at *
 simp only
 have leaf : ∀ k : Int, BN P e d L.length (10 * (L.length - s.k) + 1 ≤ m + 1) s.k (s.k + 1) (.ok (nd k t (⟨#[]⟩ : ByteArray) []) s.next) (.ok (nd k t' (⟨#[]⟩ : ByteArray) []) (s.sh d).next) := fun k =>
  Bd.node (s := s.next) (Nat.le_refl _) hl (.nil _) (by simp) fun he => ⟨ht (Nat.le_trans (Nat.le_succ _) he), rfl, .nil P⟩
 have cx : ∀ {x}, s.k ≤ e → (t'.text = x ↔ t.text = x) := fun he => by rw [(ht he).text]
 refine Bd.ite cx (by omega) (fun _ => leaf _) fun _ => ?_
 refine Bd.ite cx (by omega) (fun _ => leaf _) fun _ => ?_
 refine Bd.ite cx (by omega) (fun _ => leaf _) fun _ => ?_
 refine Bd.ite cx (by omega) (fun _ => ?_) fun _ => ?_
 ·refine thenM g (s := s.next) fun x x' s1 h1 h2 _ hx => ?_
  simp only [next_k] at h1
  exact Bd.node (by omega) h2 (.nil _) (by simp) fun he => ⟨ht (by omega), hx.text, .nil P⟩
 refine Bd.ite cx (by omega) (fun _ => ?_) fun _ => ?_
 ·refine thenW g (s := s.next) fun x x' s1 h1 h2 _ hx => ?_
  simp only [next_k] at h1
  refine thenN g (c.typ hd s1 (by omega)) fun x x' s2 h3 h4 hs hx => ?_
  exact Bd.node (by omega) h4 (.cons hs (.nil _)) (by simp) fun he => ⟨ht (by omega), rfl, .one hx⟩
 refine Bd.ite cx (by omega) (fun _ => ?_) fun _ => ?_
 ·refine thenN g (c.typ hd s.next (Nat.le_succ_of_le ha)) fun x x' s2 h3 h4 hs hx => ?_
  simp only [next_k] at h3
  exact Bd.node (by omega) h4 (.cons hs (.nil _)) (by simp) fun he => ⟨ht (by omega), rfl, .one hx⟩
 ·refine thenW g (s := s.next) fun x x' s1 h1 h2 _ hx => ?_
  simp only [next_k] at h1
  refine Bd.then (until_b (W := fun l s => LW L.length l s) (V := LR P) (Fu := 10 * (L.length - s.k) + 1 ≤ m + 1) (k0 := s1.k) g (by omega) (fun x => g.list x) (fun l l' s2 h3 h4 hs hv => ?_) m [] [] s1 (Nat.le_refl _) h2 ⟨Nat.zero_le _, fun i t h => by cases h⟩ (.nil P)) (fun h => ⟨h, by omega⟩) (by omega) (by omega) (fun x _ _ => g.list x) fun kids kids' s2 h3 h4 hs hv => ?_
  ·refine thenU g (sep_b g (by omega) h4 (by cases l <;> cases l' <;> first | rfl | cases hv.1)) fun s3 h5 h6 => ?_
   refine thenN g (c.typ hd s3 (by omega)) fun x x' s4 h7 h8 hx hxx => ?_
   exact Bd.ok (by omega) h8 ⟨by have := hs.1; simp only [List.length_append, List.length_singleton]; omega, SL.app hs.2 (.cons hx (.nil _))⟩ fun _ => hv.app (.one hxx)
  ·have hl2 := isR_lt hs.2
   refine Bd.at s2.next.k (Nat.le_succ _) ?_
   simp only [next_k]
   refine is_b g (s := s2.next) (fun h hl => ?_) (fun _ => ?_)
   ·refine thenN g (c.typ hd s2.next (by simp only [next_k]; omega)) fun x x' s4 h7 h8 hx hxx => ?_
    simp only [next_k] at h7
    exact Bd.node (by omega) h8 (.app hs.1.2 (.cons hx (.nil _))) (by have := hs.1.1; simp only [List.length_append, List.length_singleton]; omega) fun he => ⟨ht (by omega), rfl, hv.app (.one hxx)⟩
   ·exact Bd.node (s := s2.next) (by simp only [next_k]; omega) hl2 (.app hs.1.2 (.cons (.none _) (.nil _))) (by have := hs.1.1; simp only [List.length_append, List.length_singleton]; omega) fun he => ⟨ht (by simp only [next_k] at he; omega), rfl, hv.app (.one g.none)⟩

theorem function_b (g : Alike P L L' d a0 e) {m : Nat} {r : Rec} (c : RecB P L L' d a0 e m r) (hd : Bool) (s : St) (ha : a0 ≤ s.k) :
  BL P e d L.length (10 * (L.length - s.k) + 1 ≤ m + 1) s.k (s.k + 1) (functionF m r L hd s) (functionF m r L' hd (s.sh d)) := by
 unfold functionF
 refine thenW g fun t t' s1 h1 h2 _ ht => ?_
 refine Bd.then (until_b (W := fun l s => LW L.length l s) (V := LR P) (Fu := 10 * (L.length - s.k) + 1 ≤ m + 1) (k0 := s1.k) g (by omega) (fun x => g.list x) (fun l l' s2 h3 h4 hs hv => ?_) m [] [] s1 (Nat.le_refl _) h2 ⟨Nat.zero_le _, fun i t h => by cases h⟩ (.nil P)) (fun h => ⟨h, by omega⟩) (by omega) (by omega) (fun x _ _ => g.list x) fun kids kids' s2 h3 h4 hs hv => ?_
 ·refine thenU g (sep_b g (by omega) h4 (by cases l <;> cases l' <;> first | rfl | cases hv.1)) fun s3 h5 h6 => ?_
  refine thenM g fun x x' s4 h7 h8 _ hx => ?_
  refine thenN g (c.typ hd s4 (by omega)) fun y y' s5 h9 h10 hy hyy => ?_
  exact Bd.ok (by omega) h10 ⟨by have := hs.1; simp only [List.length_append, List.length_singleton]; omega, SL.app hs.2 (.cons (.of (.cons hy (.nil _)) (by simp) _ _ _ _ _ _) (.nil _))⟩ fun _ => hv.app (.one (by rw [hx.text]; exact hx.nd (.one hyy) _ _))
 ·have hl2 := isR_lt hs.2
  have hkl : kids.length ≤ L.length + 10 := by have := hs.1.1; omega
  refine Bd.at s2.next.k (Nat.le_succ _) ?_
  simp only [next_k]
  refine thenN (b' := s2.k + 1) (a' := s2.k + 1) (Fu' := 10 * (L.length - s.k) + 1 ≤ m + 1) g (is_b g (s := s2.next) (fun h hl => Bd.ok (Nat.le_refl _) hl2 (.none _) fun _ => g.none) fun _ => ?_) fun x x' s4 h7 h8 hx hxx => ?_
  ·exact (c.typ hd s2.next (by simp only [next_k]; omega)).weak (fun _ => by simp only [next_k]; omega) (Nat.le_refl _) (by simp only [next_k]; omega)
  ·refine thenN g (c.block false s4 (by omega)) fun y y' s5 h9 h10 hy hyy => ?_
   exact Bd.ok (by omega) h10 ⟨by simp, SL.cons (.of hs.1.2 hkl _ _ _ _ _ _) (.cons hx (.cons hy (.nil _)))⟩ fun _ => .cons (ht.nd hv _ _) (.cons hxx (.one hyy))

theorem block_b (g : Alike P L L' d a0 e) {m : Nat} {r : Rec} (c : RecB P L L' d a0 e m r) (hd : Bool) (s : St) (ha : a0 ≤ s.k) :
  BN P e d L.length (10 * (L.length - s.k) + 1 ≤ m + 1) s.k (s.k + 1) (blockF r L hd s) (blockF r L' hd (s.sh d)) := by
 unfold blockF
 refine thenW g fun t t' s1 h1 h2 _ ht => ?_
 refine thenL g (c.stmts hd s1 (by omega) h2) fun l l' s2 h3 h4 hs hv => ?_
 refine thenW g fun x x' s3 h5 h6 _ _ => ?_
 exact Bd.node (by omega) h6 hs.2 (by have := hs.1; omega) fun _ => ⟨ht, rfl, hv⟩

theorem stmts_go (g : Alike P L L' d a0 e) {m : Nat} {r : Rec} (c : RecB P L L' d a0 e m r) (hd : Bool) {k0 : Nat} (ha : a0 ≤ k0) : ∀ (n : Nat) (out out' : List Nd) (s : St), k0 ≤ s.k → s.k ≤ L.length → LW L.length out s → LR P out out' →
  BL P e d L.length (10 * (L.length - k0) + 6 ≤ m ∧ L.length - s.k < n) s.k s.k (stmtsGo r L hd n out s) (stmtsGo r L' hd n out' (s.sh d)) := by
 intro n
 induction n with
 | zero => exact fun _ _ s _ _ _ _ => Bd.out (by omega)
 | succ n ih =>
  intro out out' s hk hl hw hv
  unfold stmtsGo
  refine is_b g (fun h hl2 => ?_) (fun _ => ?_)
  ·exact (ih out out' s.next (by simp only [next_k]; omega) hl2 ⟨by have := hw.1; simp only [next_k]; omega, hw.2⟩ hv).weak (fun h => ⟨h.1, by simp only [next_k]; omega⟩) (Nat.le_succ _) (Nat.le_succ _)
  refine is_b g (fun h hl2 => Bd.ok (Nat.le_refl _) hl hw fun _ => hv) (fun _ => ?_)
  refine thenN g (c.stmt hd s (by omega)) fun x x' s1 h1 h2 hx hxx => ?_
  refine thenU (b' := s1.k) (a' := s1.k) g (is_b g (fun _ _ => Bd.ok (Nat.le_refl _) h2 trivial fun _ => trivial) fun _ => ?_) fun s2 h3 h4 => ?_
  ·refine thenW g fun t t' s2 h1 h2 _ ht => ?_
   exact Bd.ok (by omega) h2 trivial fun _ => trivial
  ·exact (ih (out ++ [x]) (out' ++ [x']) s2 (by omega) h4 ⟨by have := hw.1; simp only [List.length_append, List.length_singleton]; omega, SL.app hw.2 (.cons hx (.nil _))⟩ (hv.app (.one hxx))).weak (fun h => ⟨h.1, by omega⟩) (by omega) (by omega)

theorem stmts_b (g : Alike P L L' d a0 e) {m : Nat} {r : Rec} (c : RecB P L L' d a0 e m r) (hd : Bool) (s : St) (ha : a0 ≤ s.k) (hl : s.k ≤ L.length) :
  BL P e d L.length (10 * (L.length - s.k) + 7 ≤ m + 1) s.k s.k (stmtsF m r L hd s) (stmtsF m r L' hd (s.sh d)) := by
 unfold stmtsF
 exact (stmts_go g c hd ha m [] [] s (Nat.le_refl _) hl ⟨Nat.zero_le _, fun i t h => by cases h⟩ (.nil P)).weak (fun _ => by omega) (Nat.le_refl _) (Nat.le_refl _)

end
end Go.Proofs.ZL
