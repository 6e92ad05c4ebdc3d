/- How long a printed file is, and how its lines end. -/
import Derived.Test.YtpdkdgfknanipaaGreatDoorYE1
section
open Go Go.Am
namespace Go.Proofs.ZL
set_option maxRecDepth 100000
set_option linter.unusedSimpArgs false
set_option linter.unusedVariables false
set_option maxHeartbeats 4000000
theorem cZ (X l : ByteArray) : X.size ≤ (X ++ l).size := by rw [ByteArray.size_append]; omega

theorem lI {c : Prop} [Decidable c] {A B : ByteArray} {k : Nat} (h1 : k ≤ A.size) (h2 : k ≤ B.size) : k ≤ (if c then A else B).size := by
 by_cases hc : c
 ·rw [if_pos hc]; exact h1
 ·rw [if_neg hc]; exact h2
structure RecM (r : Pr) : Prop where
 cD : ∀ t X, X.size ≤ (r.cD t X).size
 expr : ∀ d t X, X.size ≤ (r.expr d t X).size
 stmt : ∀ d t X, X.size ≤ (r.stmt d t X).size

theorem wS {f : Nd → ByteArray → ByteArray} (c : ∀ t X, X.size ≤ (f t X).size) : ∀ (l : List Nd) (b : Bool) (X : ByteArray), X.size ≤ (kY f b l X).size
 | [], _, _ => Nat.le_refl _
 | t :: l, b, X => by
  unfold kY
  refine Nat.le_trans ?_ (wS c l _ _)
  refine Nat.le_trans ?_ (c _ _)
  split
  ·exact Nat.le_refl _
  ·exact cZ _ _
theorem jS {f : Nd → ByteArray → ByteArray} (c : ∀ t X, X.size ≤ (f t X).size) (l : List Nd) (X : ByteArray) : X.size ≤ (fR f l X).size := wS c l _ _

section
variable {r : Pr}
theorem wT {f : Nd → ByteArray → ByteArray} (c : ∀ t X, X.size ≤ (f t X).size) (t : Nd) (X : ByteArray) : X.size ≤ (hJ f t X).size := by
 unfold hJ; split; exact Nat.le_refl _; exact c _ _
theorem aDc {f : Nd → ByteArray → ByteArray} (c : ∀ t X, X.size ≤ (f t X).size) (w : ByteArray) (t : Nd) (X : ByteArray) : X.size ≤ (mT f w t X).size := by
 unfold mT; split
 ·exact cZ _ _
 ·exact Nat.le_trans (cZ _ _) (Nat.le_trans (cZ _ _) (c _ _))
theorem aP4 (c : RecM r) (t : Nd) (X : ByteArray) : X.size ≤ (xK r t X).size := by
 unfold xK
 dsimp only
 (repeat' (with_reducible first | exact Nat.le_refl _ | refine Nat.le_trans ?_ (c.cD _ _) | refine Nat.le_trans ?_ (jS c.cD _ _) | refine Nat.le_trans ?_ (cZ _ _) | refine lI ?_ ?_))
theorem oJ (c : RecM r) (t : Nd) (X : ByteArray) : X.size ≤ (eJ r t X).size := by
 unfold eJ
 (repeat' (with_reducible first | exact Nat.le_refl _ | refine lI ?_ ?_ | refine Nat.le_trans ?_ (cZ _ _) | refine Nat.le_trans ?_ (c.cD _ _) | refine Nat.le_trans ?_ (c.expr _ _ _) | refine Nat.le_trans ?_ (c.stmt _ _ _)))
theorem tM (c : RecM r) (d : Int) : ∀ (l : List Nd) (X : ByteArray), X.size ≤ (fT r d l X).size
 | [], _ => Nat.le_refl _
 | t :: l, X => by
  unfold fT
  refine Nat.le_trans ?_ (tM c d l _)
  (repeat' (with_reducible first | exact Nat.le_refl _ | refine lI ?_ ?_ | refine Nat.le_trans ?_ (cZ _ _) | refine Nat.le_trans ?_ (c.cD _ _) | refine Nat.le_trans ?_ (c.expr _ _ _) | refine Nat.le_trans ?_ (c.stmt _ _ _)))
theorem vI (c : RecM r) (d : Int) (l : List Nd) (X : ByteArray) : X.size ≤ (lF r d l X).size := tM c _ l X
theorem vH (c : RecM r) (d : Int) (t : Nd) (X : ByteArray) : X.size ≤ (eX r d t X).size := by
 unfold eX
 split
 ·exact Nat.le_trans (cZ _ _) (Nat.le_trans (vI c _ _ _) (Nat.le_trans (cZ _ _) (cZ _ _)))
 ·exact cZ _ _
theorem rJ (c : RecM r) (d : Int) (t : Nd) (X : ByteArray) : X.size ≤ (dK r d t X).size := by
 unfold dK
 dsimp only
 refine Nat.le_trans ?_ (vH c _ _ _)
 (repeat' (with_reducible first | exact Nat.le_refl _ | refine Nat.le_trans ?_ (c.cD _ _) | refine Nat.le_trans ?_ (jS (oJ c) _ _) | refine Nat.le_trans ?_ (cZ _ _) | refine lI ?_ ?_))
theorem zN (c : RecM r) (d : Int) (t : Nd) (s X : ByteArray) : X.size ≤ (jY r d t s X).size := by
 unfold jY
 (repeat' (with_reducible first | exact Nat.le_refl _ | refine lI ?_ ?_ | refine Nat.le_trans ?_ (cZ _ _) | refine Nat.le_trans ?_ (c.cD _ _) | refine Nat.le_trans ?_ (c.expr _ _ _) | refine Nat.le_trans ?_ (c.stmt _ _ _)))
theorem aNb (c : RecM r) (d : Int) (t : Nd) (X : ByteArray) : X.size ≤ (pU r d t X).size := by
 unfold pU
 dsimp only
 refine Nat.le_trans ?_ (vH c _ _ _)
 (repeat' (with_reducible first | exact Nat.le_refl _ | refine Nat.le_trans ?_ (c.expr _ _ _) | refine Nat.le_trans ?_ (wT (c.expr _) _ _) | refine Nat.le_trans ?_ (wT (c.stmt _) _ _) | refine Nat.le_trans ?_ (cZ _ _) | refine lI ?_ ?_))
theorem aDb (c : RecM r) (d : Int) (t : Nd) (X : ByteArray) : X.size ≤ (qY r d t X).size := by
 unfold qY
 (repeat' (with_reducible first | exact Nat.le_refl _ | refine Nat.le_trans ?_ (c.expr _ _ _) | refine Nat.le_trans ?_ (jS (c.expr _) _ _) | refine Nat.le_trans ?_ (zN c _ _ _ _) | refine Nat.le_trans ?_ (cZ _ _) | refine lI ?_ ?_))
theorem kT (c : RecM r) (d : Int) : ∀ (l : List Nd) (X : ByteArray), X.size ≤ (dP r d l X).size
 | [], _ => Nat.le_refl _
 | t :: l, X => by
  unfold dP
  exact Nat.le_trans (cZ _ _) (Nat.le_trans (aDb c _ _ _) (Nat.le_trans (cZ _ _) (Nat.le_trans (vI c _ _ _) (kT c d l _))))
theorem aFf (c : RecM r) (d : Int) (t : Nd) (X : ByteArray) : X.size ≤ (fO r d t X).size := by
 unfold fO
 dsimp only
 refine Nat.le_trans ?_ (Nat.le_trans (kT c _ _ _) (Nat.le_trans (cZ _ _) (cZ _ _)))
 refine Nat.le_trans ?_ (cZ _ _)
 split
 ·exact aDc (c.expr _) _ _ _
 ·exact cZ _ _
theorem aKj (c : RecM r) (d : Int) (t : Nd) (X : ByteArray) : X.size ≤ (jW r d t X).size := by
 unfold jW
 dsimp only
 (repeat' (with_reducible first | exact Nat.le_refl _ | refine Nat.le_trans ?_ (c.expr _ _ _) | refine Nat.le_trans ?_ (aDc (c.expr _) _ _ _) | refine Nat.le_trans ?_ (zN c _ _ _ _) | refine Nat.le_trans ?_ (cZ _ _) | refine lI ?_ ?_))
theorem aNc (c : RecM r) (d : Int) (t : Nd) (X : ByteArray) : X.size ≤ (p6 r d t X).size := by
 unfold p6
 dsimp only
 (repeat' (with_reducible first | exact Nat.le_refl _ | refine Nat.le_trans ?_ (c.expr _ _ _) | refine Nat.le_trans ?_ (c.stmt _ _ _) | refine Nat.le_trans ?_ (aNb c _ _ _) | refine Nat.le_trans ?_ (aFf c _ _ _) | refine Nat.le_trans ?_ (aKj c _ _ _) | refine Nat.le_trans ?_ (oJ c _ _) | refine Nat.le_trans ?_ (zN c _ _ _ _) | refine Nat.le_trans ?_ (vH c _ _ _) | refine Nat.le_trans ?_ (cZ _ _) | refine lI ?_ ?_))
theorem aFe (c : RecM r) (d : Int) (t : Nd) (X : ByteArray) : X.size ≤ (gJ r d t X).size := by
 unfold gJ
 dsimp only
 (repeat' (with_reducible first | exact Nat.le_refl _ | refine Nat.le_trans ?_ (c.expr _ _ _) | refine Nat.le_trans ?_ (c.cD _ _) | refine Nat.le_trans ?_ (jS (c.expr _) _ _) | refine Nat.le_trans ?_ (cZ _ _) | refine lI ?_ ?_))
theorem zO (c : RecM r) (d : Int) (t : Nd) (X : ByteArray) : X.size ≤ (nB r d t X).size := by
 unfold nB
 (repeat' (with_reducible first | exact Nat.le_refl _ | refine lI ?_ ?_ | refine Nat.le_trans ?_ (cZ _ _) | refine Nat.le_trans ?_ (c.cD _ _) | refine Nat.le_trans ?_ (c.expr _ _ _) | refine Nat.le_trans ?_ (c.stmt _ _ _)))
theorem aFg (c : RecM r) (d : Int) (t : Nd) (X : ByteArray) : X.size ≤ (fS r d t X).size := by
 unfold fS
 (repeat' (with_reducible first | exact Nat.le_refl _ | refine Nat.le_trans ?_ (c.cD _ _) | refine Nat.le_trans ?_ (jS (c.expr _) _ _) | refine Nat.le_trans ?_ (jS (zO c _) _ _) | refine Nat.le_trans ?_ (cZ _ _) | refine lI ?_ ?_))
theorem aNa (c : RecM r) (d : Int) (t : Nd) (X : ByteArray) : X.size ≤ (pN r d t X).size := by
 unfold pN
 (repeat' (with_reducible first | exact Nat.le_refl _ | refine Nat.le_trans ?_ (c.expr _ _ _) | refine Nat.le_trans ?_ (jS (c.expr _) _ _) | refine Nat.le_trans ?_ (zN c _ _ _ _) | refine Nat.le_trans ?_ (aFe c _ _ _) | refine Nat.le_trans ?_ (wT (c.expr _) _ _) | refine Nat.le_trans ?_ (rJ c _ _ _) | refine Nat.le_trans ?_ (aFg c _ _ _) | refine Nat.le_trans ?_ (cZ _ _) | refine lI ?_ ?_))
end
theorem aBy : ∀ n, RecM (prN n)
 | 0 => ⟨fun _ _ => Nat.le_refl _, fun _ _ _ => Nat.le_refl _, fun _ _ _ => Nat.le_refl _⟩
 | n + 1 => ⟨aP4 (aBy n), aNa (aBy n), aNc (aBy n)⟩
theorem wR {r : Pr} (c : RecM r) : ∀ (l : List Nd) (X : ByteArray), X.size ≤ (eT r l X).size
 | [], _ => Nat.le_refl _
 | t :: l, X => by
  unfold eT
  exact Nat.le_trans (cZ _ _) (Nat.le_trans (oJ c _ _) (Nat.le_trans (cZ _ _) (wR c l _)))
theorem aM9 {r : Pr} (c : RecM r) (t : Nd) (X : ByteArray) : X.size ≤ (qS r t X).size := by
 unfold qS
 (repeat' (with_reducible first | exact Nat.le_refl _ | refine Nat.le_trans ?_ (wR c _ _) | refine Nat.le_trans ?_ (oJ c _ _) | refine Nat.le_trans ?_ (rJ c _ _ _) | refine Nat.le_trans ?_ (cZ _ _) | refine lI ?_ ?_))
theorem aHt {r : Pr} (c : RecM r) : ∀ (l : List Nd) (X : ByteArray), X.size ≤ (eZ r l X).size
 | [], _ => Nat.le_refl _
 | t :: l, X => by
  unfold eZ
  exact Nat.le_trans (aM9 c _ _) (aHt c l _)

/-! ## From above -/
mutual
def cN (D : Nat) : Nd → Nat
 | .mk _ _ _ _ _ _ ks => cL D ks + (5000 + 10 * D)
def cL (D : Nat) : List Nd → Nat
 | [] => 0
 | t :: l => cN D t + cL D l + (D + 100)
end
theorem pI (D : Nat) (t : Nd) : cN D t = cL D t.kids + (5000 + 10 * D) := by cases t; rfl
mutual
theorem aOq (D : Nat) : ∀ t, cN D t + (D + 100) ≤ jH t * (6000 + 20 * D)
 | .mk _ _ _ _ _ _ ks => by
  have := aGu D ks
  simp only [cN, jH, Nat.add_mul, Nat.one_mul]
  omega
theorem aGu (D : Nat) : ∀ l, cL D l ≤ lG l * (6000 + 20 * D)
 | [] => by simp [cL]
 | t :: l => by
  have := aOq D t
  have := aGu D l
  simp only [cL, lG, Nat.add_mul]
  omega
end
def cK (D : Nat) (l : List Nd) (i : Nat) : Nat := match l[i]? with
 | some u => cN D u
 | none => 1
theorem aMk (D : Nat) (l m : List Nd) : cL D (l ++ m) = cL D l + cL D m := by
 induction l with
 | nil => simp [cL]
 | cons t l ih => simp only [List.cons_append, cL, ih]; omega
theorem vY (D : Nat) (l : List Nd) : cK D l 0 + cK D l 1 + cK D l 2 + cK D l 3 ≤ cL D l + 4 := by
 rcases l with _ | ⟨a, _ | ⟨b, _ | ⟨c, _ | ⟨d, l⟩⟩⟩⟩ <;> simp only [cK, cL, List.getElem?_nil, List.getElem?_cons_zero, List.getElem?_cons_succ] <;> omega
theorem y6 (D : Nat) (l : List Nd) : cL D (l.drop 1) + cK D l 0 ≤ cL D l + 1 := by
 rcases l with _ | ⟨a, l⟩ <;> simp [cK, cL] <;> omega
theorem y7 (D : Nat) (l : List Nd) : cL D (l.take (l.length - 1)) + cK D l (l.length - 1) ≤ cL D l + 1 := by
 rcases List.eq_nil_or_concat l with rfl | ⟨m, x, rfl⟩
 ·simp [cK, cL]
 ·simp only [List.concat_eq_append, List.length_append, List.length_singleton, Nat.add_sub_cancel]
  rw [List.take_left' rfl, aMk]
  unfold cK
  rw [List.getElem?_append_right (Nat.le_refl _), Nat.sub_self]
  simp only [List.getElem?_cons_zero, cL]
  omega
theorem aGt (D : Nat) (l : List Nd) (i : Nat) (h : i + 1 < l.length) : cK D l i + cK D l (l.length - 1) ≤ cL D l := by
 induction l generalizing i with
 | nil => simp at h
 | cons a l ih =>
  simp only [List.length_cons] at h ⊢
  rw [show l.length + 1 - 1 = (l.length - 1) + 1 by omega]
  have hs : ∀ j, cK D (a :: l) (j + 1) = cK D l j := fun j => by simp only [cK, List.getElem?_cons_succ]
  rw [hs]
  cases i with
  | zero =>
   have hl := y7 D l
   simp only [cK, List.getElem?_cons_zero, cL] at hl ⊢
   omega
  | succ i =>
   rw [hs]
   have := ih i (by omega)
   simp only [cL]
   omega
theorem aOp (D : Nat) (l : List Nd) (h : 3 ≤ l.length) : cK D l 0 + cK D l 1 + cK D l (l.length - 1) ≤ cL D l := by
 rcases l with _ | ⟨a, l⟩
 ·simp at h
 ·simp only [List.length_cons] at h ⊢
  have := aGt D l 0 (by omega)
  rw [show l.length + 1 - 1 = (l.length - 1) + 1 by omega]
  simp only [cK, List.getElem?_cons_zero, List.getElem?_cons_succ, cL] at this ⊢
  omega
theorem vC (D : Nat) (t : Nd) (i : Nat) : cL D (aW t i).kids + 1 ≤ cK D t.kids i := by
 unfold aW cK
 rw [List.getD_eq_getElem?_getD]
 cases h : t.kids[i]? with
 | none => simp [kW, Nd.kids, cL]
 | some u => simp only [Option.getD_some]; rw [pI]; omega

def Ft (t : Nd) : Prop := ∃ m, Tr m t
def FtL (l : List Nd) : Prop := ∀ t ∈ l, Ft t
theorem Ft.gd {t : Nd} : Ft t → Fit t.kind t.text t.num t.kids := fun ⟨_, h⟩ => h.gd
theorem Ft.kids {t : Nd} : Ft t → FtL t.kids := fun ⟨_, h⟩ u hu => ⟨_, h.kids u hu⟩
theorem aLc {m : Int} (h : 0 ≤ m) : Tr m kW := .of (l0 (by decide) (by decide)) (by decide) h .nil
theorem aJ3 : Ft kW := ⟨0, aLc (by decide)⟩
theorem Ft.eF {t : Nd} (h : Ft t) (i : Nat) : Ft (aW t i) := by
 by_cases hi : i < t.kids.length
 ·exact h.kids _ (aEg hi)
 ·rw [gA hi]; exact aJ3
theorem FtL.take {l : List Nd} (h : FtL l) (n : Nat) : FtL (l.take n) := fun t ht => h t (List.mem_of_mem_take ht)
theorem FtL.drop {l : List Nd} (h : FtL l) (n : Nat) : FtL (l.drop n) := fun t ht => h t (List.mem_of_mem_drop ht)

def CF (D : Nat) (f : Nd → ByteArray → ByteArray) : Prop := (∀ X, (f kW X).size ≤ X.size + 1) ∧ ∀ t X, Ft t → (f t X).size ≤ X.size + cN D t
theorem CF.eF {D : Nat} {f : Nd → ByteArray → ByteArray} (c : CF D f) {t : Nd} (h : Ft t) {i : Nat} {X : ByteArray} {m : Nat} (hX : X.size ≤ m) : (f (aW t i) X).size ≤ m + cK D t.kids i := by
 unfold cK aW
 rw [List.getD_eq_getElem?_getD]
 cases hk : t.kids[i]? with
 | none => have := c.1 X; simp only [Option.getD_none]; omega
 | some u => have := c.2 u X (h.kids _ (List.mem_of_getElem? hk)); simp only [Option.getD_some]; omega
theorem CF.list {D : Nat} {f : Nd → ByteArray → ByteArray} (c : ∀ t X, Ft t → (f t X).size ≤ X.size + (cN D t + 90)) : ∀ {l : List Nd} {b : Bool} {X : ByteArray} {m : Nat}, FtL l → X.size ≤ m → (kY f b l X).size ≤ m + cL D l
 | [], _, _, _, _, h => by simp only [kY, cL]; omega
 | t :: l, b, X, m, ht, h => by
  unfold kY
  have h1 : (if b then X else X ++ (⟨#[44, 32]⟩ :ByteArray)).size ≤ m + 2 := by
   split
   ·omega
   ·rw [ByteArray.size_append]; show X.size + 2 ≤ _; omega
  have h2 := c t (if b then X else X ++ (⟨#[44, 32]⟩ :ByteArray)) (ht t List.mem_cons_self)
  have h3 := CF.list c (l := l) (b := false) (X := f t (if b then X else X ++ (⟨#[44, 32]⟩ :ByteArray))) (fun u hu => ht u (List.mem_cons_of_mem _ hu)) (Nat.le_refl _)
  simp only [cL]
  omega
theorem CF.l {D : Nat} {f : Nd → ByteArray → ByteArray} (c : CF D f) {l : List Nd} {X : ByteArray} {m : Nat} (h : FtL l) (hX : X.size ≤ m) : (fR f l X).size ≤ m + cL D l := CF.list (fun t X ht => by have := c.2 t X ht; omega) h hX
theorem uY {c : Prop} [Decidable c] {A B : ByteArray} {m : Nat} (h1 : c → A.size ≤ m) (h2 : ¬ c → B.size ≤ m) : (if c then A else B).size ≤ m := by
 by_cases hc : c
 ·rw [if_pos hc]; exact h1 hc
 ·rw [if_neg hc]; exact h2 hc
theorem CF.lp {D : Nat} {f : Nd → ByteArray → ByteArray} (c : ∀ t X, Ft t → (f t X).size ≤ X.size + (cN D t + 90)) {l : List Nd} {X : ByteArray} {m : Nat} (h : FtL l) (hX : X.size ≤ m) : (fR f l X).size ≤ m + cL D l := CF.list c h hX
theorem c7 {X l : ByteArray} {m : Nat} (h : X.size ≤ m) : (X ++ l).size ≤ m + l.size := by rw [ByteArray.size_append]; omega
theorem uA {X : ByteArray} {m D : Nat} {d : Int} (hd : d.toNat ≤ D) (h : X.size ≤ m) : (X ++ fU d).size ≤ m + D := by
 rw [ByteArray.size_append]
 have : (fU d).size = d.toNat := by unfold fU; show (Lib.repeatL [(9 : UInt8)] d.toNat).toArray.size = _; simp [Lib.repeatL_length]
 omega
theorem aDv {D : Nat} {f : Nd → ByteArray → ByteArray} (c : CF D f) {t : Nd} (h : Ft t) {i : Nat} {X : ByteArray} {m : Nat} (hX : X.size ≤ m) : (hJ f (aW t i) X).size ≤ m + cK D t.kids i := by
 unfold hJ
 split
 ·omega
 ·exact c.eF h hX
theorem aJc {D : Nat} {f : Nd → ByteArray → ByteArray} (c : CF D f) {w : ByteArray} {t : Nd} (h : Ft t) {i : Nat} {X : ByteArray} {m : Nat} (hX : X.size ≤ m) : (mT f w (aW t i) X).size ≤ m + w.size + 1 + cK D t.kids i := by
 unfold mT
 split
 ·have := c7 (l := w) hX; omega
 ·exact c.eF h (c7 (c7 hX))

structure lT (D n : Nat) (r : Pr) : Prop where
 cD : CF D r.cD
 expr : ∀ d : Int, d.toNat + n ≤ D → CF D (r.expr d)
 stmt : ∀ d : Int, d.toNat + n ≤ D → CF D (r.stmt d)

section
variable {D n : Nat} {r : Pr}
theorem Ft.txt {t : Nd} (h : Ft t) : t.text.size ≤ 1000 := h.gd.sz
theorem aQj (c : lT D n r) {t : Nd} {X : ByteArray} (h : Ft t) : (xK r t X).size ≤ X.size + cN D t := by
 have h1 := h.txt
 have h4 := vY D t.kids
 have hl := y7 D t.kids
 have hn := pI D t
 unfold xK
 dsimp only
 repeat' (with_reducible refine uY (fun _ => ?_) (fun _ => ?_))
 all_goals (apply Nat.le_trans; (· repeat (with_reducible first | apply c.cD.eF h | apply c.cD.l (h.kids.take _) | apply c7 | exact Nat.le_refl _)); (· simp only [ByteArray.size, List.size_toArray, List.length_cons, List.length_nil] at *; omega))
theorem aAg (c : lT D n r) {t : Nd} {X : ByteArray} {m : Nat} (h : Ft t) (hX : X.size ≤ m) : (eJ r t X).size ≤ m + (cK D t.kids 0 + 1001) := by
 have h1 := h.txt
 unfold eJ
 have h2 := c.cD.eF h (i := 0) (c7 (l := (⟨#[32]⟩ :ByteArray)) (c7 (l := t.text) hX))
 have h3 : ((⟨#[32]⟩ :ByteArray)).size = 1 := rfl
 omega
theorem aCi (c : lT D n r) (t : Nd) (X : ByteArray) (h : Ft t) : (eJ r t X).size ≤ X.size + (cN D t + 90) := by
 have h1 := aAg c h (Nat.le_refl X.size)
 have h2 := vY D t.kids
 have h3 := pI D t
 omega
theorem y0 (c : lT D n r) {d : Int} (hd : d.toNat + n ≤ D) : ∀ {l : List Nd} {X : ByteArray} {m : Nat}, FtL l → X.size ≤ m → (fT r d l X).size ≤ m + cL D l
 | [], _, _, _, h => by simp only [fT, cL]; omega
 | t :: l, X, m, ht, h => by
  unfold fT
  have h2 := (c.stmt d hd).2 t (X ++ fU d) (ht t List.mem_cons_self)
  have h0 := uA (show d.toNat ≤ D by omega) h
  have h3 := y0 c hd (l := l) (X := r.stmt d t (X ++ fU d) ++ (⟨#[10]⟩ :ByteArray)) (fun u hu => ht u (List.mem_cons_of_mem _ hu)) (c7 (Nat.le_refl _))
  have h4 : ((⟨#[10]⟩ :ByteArray)).size = 1 := rfl
  simp only [cL]
  omega
theorem aDr (d : Int) : (d + 1).toNat ≤ d.toNat + 1 := by omega
theorem aAh (c : lT D n r) {d : Int} (hd : d.toNat + (n + 1) ≤ D) {l : List Nd} {X : ByteArray} {m : Nat} (h : FtL l) (hX : X.size ≤ m) : (lF r d l X).size ≤ m + cL D l := by
 have := aDr d
 exact y0 c (by omega) h hX
theorem vO (c : lT D n r) {d : Int} (hd : d.toNat + (n + 1) ≤ D) {t : Nd} {i : Nat} {X : ByteArray} {m : Nat} (h : Ft t) (hX : X.size ≤ m) : (eX r d (aW t i) X).size ≤ m + (cK D t.kids i + D + 10) := by
 have h1 := vC D t i
 unfold eX
 split
 ·have h2 := c7 (l := (⟨#[125]⟩ :ByteArray)) (uA (show d.toNat ≤ D by omega) (aAh c hd (h.eF i).kids (c7 (l := (⟨#[123, 10]⟩ :ByteArray)) hX)))
  have h3 : ((⟨#[123, 10]⟩ :ByteArray)).size = 2 := rfl
  have h4 : ((⟨#[125]⟩ :ByteArray)).size = 1 := rfl
  omega
 ·have h2 := c7 (l := (⟨#[63]⟩ :ByteArray)) hX
  have h3 : ((⟨#[63]⟩ :ByteArray)).size = 1 := rfl
  omega
theorem aI9 (c : lT D n r) {d : Int} (hd : d.toNat + (n + 1) ≤ D) {t : Nd} {X : ByteArray} (h : Ft t) : (eX r d t X).size ≤ X.size + (cL D t.kids + D + 10) := by
 unfold eX
 split
 ·have h2 := c7 (l := (⟨#[125]⟩ :ByteArray)) (uA (show d.toNat ≤ D by omega) (aAh c hd h.kids (c7 (l := (⟨#[123, 10]⟩ :ByteArray)) (Nat.le_refl X.size))))
  have h3 : ((⟨#[123, 10]⟩ :ByteArray)).size = 2 := rfl
  have h4 : ((⟨#[125]⟩ :ByteArray)).size = 1 := rfl
  omega
 ·have h2 := c7 (l := (⟨#[63]⟩ :ByteArray)) (Nat.le_refl X.size)
  have h3 : ((⟨#[63]⟩ :ByteArray)).size = 1 := rfl
  omega
theorem xM (c : lT D n r) {d : Int} (hd : d.toNat + (n + 1) ≤ D) {t : Nd} {X : ByteArray} {m : Nat} (h : Ft t) (hX : X.size ≤ m) : (dK r d t X).size ≤ m + (cL D t.kids + D + 100) := by
 have h4 := vY D t.kids
 have h5 := vC D t 0
 unfold dK
 dsimp only
 have h6 := c7 (l := (⟨#[41, 32]⟩ :ByteArray)) (CF.list (aCi c) (b := true) (h.eF 0).kids (c7 (l := (⟨#[40]⟩ :ByteArray)) hX))
 have h7 := c7 (l := (⟨#[32]⟩ :ByteArray)) (c.cD.eF h (i := 1) h6)
 have h8 : ((⟨#[41, 32]⟩ :ByteArray)).size = 2 := rfl
 have h9 : ((⟨#[40]⟩ :ByteArray)).size = 1 := rfl
 have h10 : ((⟨#[32]⟩ :ByteArray)).size = 1 := rfl
 rw [h8, h9] at h6 h7
 rw [h10] at h7
 split
 ·have := vO c hd (i := 2) h h6
  unfold fR
  omega
 ·have := vO c hd (i := 2) h h7
  unfold fR
  omega
theorem aAf (c : lT D n r) {d : Int} (hd : d.toNat + n ≤ D) {t : Nd} {s X : ByteArray} {m : Nat} (h : Ft t) (hX : X.size ≤ m) : (jY r d t s X).size ≤ m + cK D t.kids 0 + s.size + cK D t.kids 1 :=
 (c.expr d hd).eF h (c7 ((c.expr d hd).eF h hX))
theorem aOf (c : lT D n r) {d : Int} (hd : d.toNat + (n + 1) ≤ D) {t : Nd} {X : ByteArray} (h : Ft t) : (pU r d t X).size ≤ X.size + (cL D t.kids + D + 100) := by
 have h4 := vY D t.kids
 have hd' : d.toNat + n ≤ D := by omega
 have ce := c.expr d hd'
 have cs := c.stmt d hd'
 unfold pU
 dsimp only
 refine Nat.le_trans (m := ?m) ?a ?b
 case a =>
  refine vO c hd h (m := X.size + 20 + cK D t.kids 0 + cK D t.kids 1 + cK D t.kids 2) ?_
  repeat' (with_reducible refine uY (fun _ => ?_) (fun _ => ?_))
  all_goals (apply Nat.le_trans; (· repeat (with_reducible first | apply ce.eF h | apply aDv ce h | apply aDv cs h | apply c7 | exact Nat.le_refl _)); (· simp only [ByteArray.size, List.size_toArray, List.length_cons, List.length_nil] at *; omega))
 case b => omega
theorem aOe (c : lT D n r) {d : Int} (hd : d.toNat + n ≤ D) {t : Nd} {X : ByteArray} (h : Ft t) : (qY r d t X).size + cK D t.kids (t.kids.length - 1) ≤ X.size + (cL D t.kids + 2000) := by
 have hl := y7 D t.kids
 have ce := c.expr d hd
 have h0 := (h.eF 0).txt
 unfold qY
 split
 ·have := ce.l (h.kids.take (t.kids.length - 1)) (c7 (l := (⟨#[99, 97, 115, 101, 32]⟩ :ByteArray)) (Nat.le_refl X.size))
  have h1 : ((⟨#[99, 97, 115, 101, 32]⟩ :ByteArray)).size = 5 := rfl
  omega
 split
 ·rename_i h2
  have h3 := h.gd.recv h2.1 h2.2
  have h4 := aGt D t.kids (t.kids.length - 1 - 1) (by omega)
  refine Nat.le_trans (Nat.add_le_add_right (m := ?m) ?a _) ?b
  case a =>
   refine ce.eF h (c7 (m := X.size + 1010) ?_)
   split
   all_goals (apply Nat.le_trans; (· repeat (with_reducible first | apply c7 | exact Nat.le_refl _)); (· simp only [ByteArray.size, List.size_toArray, List.length_cons, List.length_nil] at *; omega))
  case b => (simp only [ByteArray.size, List.size_toArray, List.length_cons, List.length_nil] at *; omega)
 split
 ·rename_i h2
  have h3 := h.gd.send h2.1 h2.2
  have h4 := aOp D t.kids h3
  have h5 := aAf c hd (s := (⟨#[32, 60, 45, 32]⟩ :ByteArray)) h (c7 (l := (⟨#[99, 97, 115, 101, 32]⟩ :ByteArray)) (Nat.le_refl X.size))
  have h6 : ((⟨#[99, 97, 115, 101, 32]⟩ :ByteArray)).size = 5 := rfl
  have h7 : ((⟨#[32, 60, 45, 32]⟩ :ByteArray)).size = 4 := rfl
  omega
 ·have := c7 (l := (⟨#[100, 101, 102, 97, 117, 108, 116]⟩ :ByteArray)) (Nat.le_refl X.size)
  have h1 : ((⟨#[100, 101, 102, 97, 117, 108, 116]⟩ :ByteArray)).size = 7 := rfl
  omega
theorem qF (c : lT D n r) {d : Int} (hd : d.toNat + (n + 1) ≤ D) : ∀ {l : List Nd} {X : ByteArray} {m : Nat}, FtL l → X.size ≤ m → (dP r d l X).size ≤ m + cL D l
 | [], _, _, _, h => by simp only [dP, cL]; omega
 | t :: l, X, m, ht, h => by
  unfold dP
  have htt := ht t List.mem_cons_self
  have h1 := aOe c (X := X ++ fU d) (show d.toNat + n ≤ D by omega) htt
  have h2 := uA (show d.toNat ≤ D by omega) h
  have h3 := aAh c hd (htt.eF (t.kids.length - 1)).kids (c7 (l := (⟨#[58, 10]⟩ :ByteArray)) (Nat.le_refl (qY r d t (X ++ fU d)).size))
  have h4 := vC D t (t.kids.length - 1)
  have h5 := qF c hd (l := l) (fun u hu => ht u (List.mem_cons_of_mem _ hu)) h3
  have h6 : ((⟨#[58, 10]⟩ :ByteArray)).size = 2 := rfl
  have h7 := pI D t
  simp only [cL]
  omega
theorem aF7 (c : lT D n r) {d : Int} (hd : d.toNat + (n + 1) ≤ D) {t : Nd} {X : ByteArray} (h : Ft t) : (fO r d t X).size ≤ X.size + (cL D t.kids + D + 100) := by
 unfold fO
 dsimp only
 have hdr := y6 D t.kids
 have h4 : ((⟨#[32, 123, 10]⟩ :ByteArray)).size = 3 := rfl
 have h5 : ((⟨#[125]⟩ :ByteArray)).size = 1 := rfl
 have h6 : ((⟨#[115, 119, 105, 116, 99, 104]⟩ :ByteArray)).size = 6 := rfl
 have h7 : ((⟨#[115, 101, 108, 101, 99, 116]⟩ :ByteArray)).size = 6 := rfl
 split
 ·have h1 := aJc (c.expr d (by omega)) (w := (⟨#[115, 119, 105, 116, 99, 104]⟩ :ByteArray)) h (i := 0) (Nat.le_refl X.size)
  have h2 := c7 (l := (⟨#[125]⟩ :ByteArray)) (uA (d := d) (show d.toNat ≤ D by omega) (qF c hd (h.kids.drop 1) (c7 (l := (⟨#[32, 123, 10]⟩ :ByteArray)) h1)))
  omega
 ·have h2 := c7 (l := (⟨#[125]⟩ :ByteArray)) (uA (d := d) (show d.toNat ≤ D by omega) (qF c hd h.kids (c7 (l := (⟨#[32, 123, 10]⟩ :ByteArray)) (c7 (l := (⟨#[115, 101, 108, 101, 99, 116]⟩ :ByteArray)) (Nat.le_refl X.size)))))
  omega
theorem aLk (c : lT D n r) {d : Int} (hd : d.toNat + n ≤ D) {t : Nd} {X : ByteArray} (h : Ft t) : (jW r d t X).size ≤ X.size + cN D t := by
 have h1 := h.txt
 have h0 := (h.eF 0).txt
 have h4 := vY D t.kids
 have h5 := vY D (aW t 0).kids
 have h6 := vC D t 0
 have hn := pI D t
 have ce := c.expr d hd
 unfold jW
 dsimp only
 repeat' (with_reducible refine uY (fun _ => ?_) (fun _ => ?_))
 all_goals (apply Nat.le_trans; (· repeat (with_reducible first | apply ce.eF h | apply ce.eF (h.eF 0) | apply aJc ce h | apply aAf c hd h | apply c7 | exact Nat.le_refl _)); (· simp only [ByteArray.size, List.size_toArray, List.length_cons, List.length_nil] at *; omega))
theorem aOg (c : lT D n r) {d : Int} (hd : d.toNat + (n + 1) ≤ D) {t : Nd} {X : ByteArray} (h : Ft t) : (p6 r d t X).size ≤ X.size + cN D t := by
 have h1 := h.txt
 have h4 := vY D t.kids
 have hn := pI D t
 have hd' : d.toNat + n ≤ D := by omega
 have ce := c.expr d hd'
 have cs := c.stmt d hd'
 have hb := aI9 c hd (X := X) h
 have hlp := aOf c hd (X := X) h
 have hcl := aF7 c hd (X := X) h
 have hsm := aLk c hd' (X := X) h
 have hsz : ((⟨#[32]⟩ :ByteArray) ++ t.text ++ (⟨#[32]⟩ :ByteArray)).size = t.text.size + 2 := by rw [ByteArray.size_append, ByteArray.size_append]; show 1 + t.text.size + 1 = _; omega
 unfold p6
 dsimp only
 repeat' (with_reducible refine uY (fun _ => ?_) (fun _ => ?_))
 all_goals first | omega | skip
 all_goals (apply Nat.le_trans; (· repeat (with_reducible first | apply ce.eF h | apply cs.eF h | apply vO c hd h | apply aAg c h | apply aAf c hd' h | apply c7 | exact Nat.le_refl _)); (· (try rw [hsz]); clear hb hlp hcl hsm hsz; simp only [ByteArray.size, List.size_toArray, List.length_cons, List.length_nil] at *; omega))
theorem aF6 (c : lT D n r) {d : Int} (hd : d.toNat + n ≤ D) {t : Nd} {X : ByteArray} (h : Ft t) : (gJ r d t X).size ≤ X.size + cN D t := by
 have h1 := h.txt
 have h0 := (h.eF 0).txt
 have h4 := vY D t.kids
 have hn := pI D t
 have ce := c.expr d hd
 unfold gJ
 dsimp only
 rw [ByteArray.size_append]
 show _ + 1 ≤ _
 suffices hsu : _ ≤ X.size + (cN D t - 1) from Nat.le_trans (Nat.add_le_add_right hsu 1) (by omega)
 repeat' (with_reducible refine uY (fun _ => ?_) (fun _ => ?_))
 all_goals (apply Nat.le_trans; (· repeat (with_reducible first | apply ce.eF h | apply c.cD.eF h | apply ce.l h.kids | apply c7 | exact Nat.le_refl _)); (· simp only [ByteArray.size, List.size_toArray, List.length_cons, List.length_nil] at *; omega))
theorem aJa (c : lT D n r) {d : Int} (hd : d.toNat + n ≤ D) (t : Nd) (X : ByteArray) (h : Ft t) : (nB r d t X).size ≤ X.size + (cN D t + 90) := by
 have h1 := h.txt
 have h4 := vY D t.kids
 have hn := pI D t
 unfold nB
 have h2 := (c.expr d hd).eF h (i := 0) (c7 (l := (⟨#[58, 32]⟩ :ByteArray)) (c7 (l := t.text) (Nat.le_refl X.size)))
 have h3 : ((⟨#[58, 32]⟩ :ByteArray)).size = 2 := rfl
 omega
theorem aF8 (c : lT D n r) {d : Int} (hd : d.toNat + n ≤ D) {t : Nd} {X : ByteArray} (h : Ft t) : (fS r d t X).size ≤ X.size + cN D t := by
 have h1 := h.txt
 have h4 := y6 D t.kids
 have hn := pI D t
 have ce := c.expr d hd
 unfold fS
 repeat' (with_reducible refine uY (fun _ => ?_) (fun _ => ?_))
 all_goals (apply Nat.le_trans; (· repeat (with_reducible first | apply c.cD.eF h | apply ce.l (h.kids.drop 1) | apply CF.lp (aJa c hd) h.kids | apply c7 | exact Nat.le_refl _)); (· simp only [ByteArray.size, List.size_toArray, List.length_cons, List.length_nil] at *; omega))
theorem aAu : ∀ (k n : Nat), n < 10 ^ (k + 1) → (Lib.decDigits n).length ≤ k + 1
 | 0, n, h => by
  unfold Lib.decDigits
  rw [dif_pos (by simpa using h)]
  exact Nat.le_refl _
 | k + 1, n, h => by
  unfold Lib.decDigits
  split
  ·simp
  ·have := aAu k (n / 10) (by rw [Nat.pow_succ] at h; omega)
   simp only [List.length_append, List.length_singleton]
   omega
theorem aJs {n : Int} (h : 0 ≤ n ∧ n < 1000000000000000000) : (xY n).size ≤ 18 := by
 have := aAu 17 n.toNat (by show n.toNat < 1000000000000000000; omega)
 unfold xY Lib.itoa
 rw [if_neg (by omega)]
 show (Lib.decDigits n.toNat).toArray.size ≤ 18
 simp only [List.size_toArray]
 exact this
theorem aIg (b : UInt8) : (nY b).length ≤ 2 := by
 unfold nY
 by_cases h1 : b = 10
 ·rw [if_pos h1]; decide
 rw [if_neg h1]
 by_cases h2 : b = 34
 ·rw [if_pos h2]; decide
 rw [if_neg h2]
 by_cases h3 : b = 92
 ·rw [if_pos h3]; decide
 ·rw [if_neg h3]; exact (by decide : 1 ≤ 2)
theorem aEq : ∀ l : List UInt8, (l.flatMap nY).length ≤ 2 * l.length
 | [] => by simp
 | b :: l => by
  have := aIg b
  have := aEq l
  simp only [List.flatMap_cons, List.length_append, List.length_cons]
  omega
theorem aK2 (s : ByteArray) : (sR s).size ≤ 2 * s.size := by
 have := aEq s.data.toList
 unfold sR
 show (s.data.toList.flatMap nY).toArray.size ≤ 2 * s.data.size
 simpa using this
theorem aOd (c : lT D n r) {d : Int} (hd : d.toNat + (n + 1) ≤ D) {t : Nd} {X : ByteArray} (h : Ft t) : (pN r d t X).size ≤ X.size + cN D t := by
 have h1 := h.txt
 have h4 := vY D t.kids
 have h5 := y6 D t.kids
 have hn := pI D t
 have hd' : d.toNat + n ≤ D := by omega
 have ce := c.expr d hd'
 have hbu := aF6 c hd' (X := X) h
 have hli := aF8 c hd' (X := X) h
 have hdg := aJs h.gd.num
 have hqu := aK2 t.text
 have hsz : ((⟨#[32]⟩ :ByteArray) ++ t.text ++ (⟨#[32]⟩ :ByteArray)).size = t.text.size + 2 := by rw [ByteArray.size_append, ByteArray.size_append]; show 1 + t.text.size + 1 = _; omega
 unfold pN
 repeat' (with_reducible refine uY (fun _ => ?_) (fun _ => ?_))
 all_goals first | omega | skip
 all_goals (apply Nat.le_trans; (· repeat (with_reducible first | apply ce.eF h | apply aAf c hd' h | apply ce.l (h.kids.drop 1) | apply aDv ce h | apply xM c hd h | apply c7 | exact Nat.le_refl _)); (· (try rw [hsz]); clear hbu hli hsz; simp only [ByteArray.size, List.size_toArray, List.length_cons, List.length_nil] at *; omega))
end
theorem aL9 : ∀ {n : Nat} (D : Nat), lT D n (prN n)
 | 0, D =>
  have h : CF D fun _ a => a := ⟨fun X => Nat.le_add_right _ _, fun t X _ => Nat.le_add_right _ _⟩
  ⟨h, fun _ _ => h, fun _ _ => h⟩
 | n + 1, D =>
  have c := aL9 (n := n) D
  ⟨⟨fun X => c7 (l := (⟨#[63]⟩ :ByteArray)) (Nat.le_refl _), fun t X h => aQj c h⟩, fun d hd => ⟨fun X => c7 (l := (⟨#[63]⟩ :ByteArray)) (Nat.le_refl _), fun t X h => aOd c hd h⟩, fun d hd => ⟨fun X => c7 (l := (⟨#[63]⟩ :ByteArray)) (Nat.le_refl _), fun t X h => aOg c hd h⟩⟩
theorem aCh {D n : Nat} {r : Pr} (c : lT D n r) : ∀ {l : List Nd} {X : ByteArray} {m : Nat}, FtL l → X.size ≤ m → (eT r l X).size ≤ m + cL D l
 | [], _, _, _, h => by simp only [eT, cL]; omega
 | t :: l, X, m, ht, h => by
  unfold eT
  have h2 := aCi c t (X ++ (⟨#[9]⟩ :ByteArray)) (ht t List.mem_cons_self)
  have h0 := c7 (l := (⟨#[9]⟩ :ByteArray)) h
  have h3 := aCh c (l := l) (X := eJ r t (X ++ (⟨#[9]⟩ :ByteArray)) ++ (⟨#[10]⟩ :ByteArray)) (fun u hu => ht u (List.mem_cons_of_mem _ hu)) (c7 (Nat.le_refl _))
  have h4 : ((⟨#[10]⟩ :ByteArray)).size = 1 := rfl
  have h5 : ((⟨#[9]⟩ :ByteArray)).size = 1 := rfl
  simp only [cL]
  omega
theorem aOc {D n : Nat} {r : Pr} (c : lT D n r) (hd : n + 1 ≤ D) {t : Nd} {X : ByteArray} (h : Ft t) : (qS r t X).size ≤ X.size + cN D t := by
 have h1 := h.txt
 have h4 := vY D t.kids
 have hn := pI D t
 have hd0 : (0 : Int).toNat + (n + 1) ≤ D := by simpa using hd
 unfold qS
 rw [ByteArray.size_append]
 show _ + 1 ≤ _
 suffices hsu : _ ≤ X.size + (cN D t - 1) from Nat.le_trans (Nat.add_le_add_right hsu 1) (by omega)
 repeat' (with_reducible refine uY (fun _ => ?_) (fun _ => ?_))
 all_goals (apply Nat.le_trans; (· repeat (with_reducible first | apply aCh c h.kids | apply aAg c h | apply xM c hd0 h | apply c7 | exact Nat.le_refl _)); (· simp only [ByteArray.size, List.size_toArray, List.length_cons, List.length_nil] at *; omega))
theorem aJb {D n : Nat} {r : Pr} (c : lT D n r) (hd : n + 1 ≤ D) : ∀ {l : List Nd} {X : ByteArray} {m : Nat}, FtL l → X.size ≤ m → (eZ r l X).size ≤ m + cL D l
 | [], _, _, _, h => by simp only [eZ, cL]; omega
 | t :: l, X, m, ht, h => by
  unfold eZ
  have h2 := aOc c hd (X := X) (ht t List.mem_cons_self)
  have h3 := aJb c hd (l := l) (X := qS r t X) (fun u hu => ht u (List.mem_cons_of_mem _ hu)) (Nat.le_refl _)
  simp only [cL]
  omega
theorem aEd {t : Nd} (h : Ft t) (hw : jH t ≤ 50000) : (qV 60000 t).size ≤ 1000000000000 := by
 have h1 := aJb (aL9 (n := 60000) 60001) (Nat.le_refl _) (l := t.kids) (X := (⟨#[]⟩ :ByteArray)) (m := 0) h.kids (Nat.le_refl _)
 have h2 := aGu 60001 t.kids
 have h3 := mC t
 have h4 : lG t.kids * (6000 + 20 * 60001) ≤ 50000 * (6000 + 20 * 60001) := Nat.mul_le_mul_right _ (by omega)
 unfold qV
 omega

def oP (o : Option Bool) (c : UInt8) : Option Bool := match o with
 | none => none
 | some b => if c = 10 then (if b then some false else none) else if c = 32 ∨ c = 9 then some false else some true
def S0 (a : ByteArray) : Option Bool := a.data.toList.foldl oP (some false)
theorem mX (a b : ByteArray) : S0 (a ++ b) = b.data.toList.foldl oP (S0 a) := by
 unfold S0
 rw [ByteArray.data_append, Array.toList_append, List.foldl_append]
def Hd (a : ByteArray) : Prop := ∃ c l, a.data.toList = c :: l ∧ c ≠ 32 ∧ c ≠ 9
theorem Hd.app {a : ByteArray} (h : Hd a) (b : ByteArray) : Hd (a ++ b) := by
 obtain ⟨c, l, h, hc⟩ := h
 exact ⟨c, l ++ b.data.toList, by rw [ByteArray.data_append, Array.toList_append, h]; rfl, hc⟩
def NB (a : ByteArray) : Prop := Hd a ∧ ∃ b, S0 a = some b
def TB (a : ByteArray) : Prop := Hd a ∧ S0 a = some true
theorem TB.nb {a : ByteArray} (h : TB a) : NB a := ⟨h.1, _, h.2⟩
theorem cU {X l : ByteArray} (h : NB X) (hl : ((l.data.toList.foldl oP (some true)).isSome && (l.data.toList.foldl oP (some false)).isSome) = true) : NB (X ++ l) := by
 obtain ⟨hd, b, h⟩ := h
 rw [Bool.and_eq_true, Option.isSome_iff_exists, Option.isSome_iff_exists] at hl
 refine ⟨hd.app _, ?_⟩
 rw [mX, h]
 cases b
 ·exact hl.2
 ·exact hl.1
theorem jX {X l : ByteArray} (h : NB X) (hl : (decide (l.data.toList.foldl oP (some true) = some true) && decide (l.data.toList.foldl oP (some false) = some true)) = true) : TB (X ++ l) := by
 obtain ⟨hd, b, h⟩ := h
 rw [Bool.and_eq_true, decide_eq_true_eq, decide_eq_true_eq] at hl
 refine ⟨hd.app _, ?_⟩
 rw [mX, h]
 cases b
 ·exact hl.2
 ·exact hl.1
theorem aHz {X : ByteArray} (h : TB X) : NB (X ++ (⟨#[10]⟩ :ByteArray)) := by
 refine ⟨h.1.app _, false, ?_⟩
 rw [mX, h.2]
 rfl
theorem vJ : ∀ (l : List UInt8) (b : Bool), (l.all fun b => decide (32 < b.toNat)) = true → l.foldl oP (some b) = some (if l = [] then b else true)
 | [], b, _ => rfl
 | c :: l, b, h => by
  rw [List.all_cons, Bool.and_eq_true, decide_eq_true_eq] at h
  have h1 : oP (some b) c = some true := by
   unfold oP
   have h2 : c ≠ 10 := fun e => by rw [e] at h; exact absurd h.1 (by decide)
   have h3 : ¬ (c = 32 ∨ c = 9) := fun e => by rcases e with e | e <;> (rw [e] at h; exact absurd h.1 (by decide))
   simp only [if_neg h2, if_neg h3]
  rw [List.foldl_cons, h1, vJ l true h.2, if_neg (List.cons_ne_nil _ _)]
  split <;> rfl
theorem lA {X l : ByteArray} (h : NB X) (hl : o9 l = true) : NB (X ++ l) := by
 obtain ⟨hd, b, h⟩ := h
 exact ⟨hd.app _, _, by rw [mX, h]; exact vJ _ b hl⟩
theorem aN3 {X l : ByteArray} (h : TB X) (hl : o9 l = true) : TB (X ++ l) := by
 refine ⟨h.1.app _, ?_⟩
 rw [mX, h.2, vJ _ true hl]
 split <;> rfl
theorem aEy {X l : ByteArray} (h : NB X) (hl : o9 l = true) (hn : l.size ≠ 0) : TB (X ++ l) := by
 obtain ⟨hd, b, h⟩ := h
 refine ⟨hd.app _, ?_⟩
 rw [mX, h, vJ _ b hl, if_neg]
 intro e
 apply hn
 show l.data.size = 0
 rw [← Array.length_toList, e]; rfl
theorem aIo : ∀ (l : List UInt8) (b : Bool), (∀ c ∈ l, c ≠ 10) → ∃ b', l.foldl oP (some b) = some b'
 | [], b, _ => ⟨b, rfl⟩
 | c :: l, b, h => by
  have h1 : ∃ b', oP (some b) c = some b' := by
   unfold oP
   simp only [if_neg (h c List.mem_cons_self)]
   split <;> exact ⟨_, rfl⟩
  obtain ⟨b', h1⟩ := h1
  rw [List.foldl_cons, h1]
  exact aIo l b' fun c hc => h c (List.mem_cons_of_mem _ hc)
theorem aL6 {X l : ByteArray} (h : NB X) (hl : ∀ c ∈ l.data.toList, c ≠ 10) : NB (X ++ l) := by
 obtain ⟨hd, b, h⟩ := h
 refine ⟨hd.app _, ?_⟩
 rw [mX, h]
 exact aIo _ b hl
theorem sJ {X : ByteArray} {d : Int} (h : NB X) : NB (X ++ fU d) := aL6 h fun c hc => by
 unfold fU at hc
 rw [show (⟨(Lib.repeatL [(9 : UInt8)] d.toNat).toArray⟩ : ByteArray).data.toList = Lib.repeatL [9] d.toNat from rfl] at hc
 have key : ∀ k, c ∈ Lib.repeatL [(9 : UInt8)] k → c = 9 := by
  intro k
  induction k with
  | zero => intro h; cases h
  | succ k ih =>
   intro h
   unfold Lib.repeatL at h
   rcases List.mem_append.1 h with h | h
   ·exact List.mem_singleton.1 h
   ·exact ih h
 rw [key _ hc]; decide
theorem aNh {X s : ByteArray} (h : NB X) : NB (X ++ sR s) := aL6 h fun c hc => by
 unfold sR at hc
 rw [show (⟨(s.data.toList.flatMap nY).toArray⟩ : ByteArray).data.toList = s.data.toList.flatMap nY from rfl] at hc
 obtain ⟨b, _, hb⟩ := List.mem_flatMap.1 hc
 unfold nY at hb
 repeat' split at hb
 all_goals (simp only [List.mem_cons, List.not_mem_nil, or_false] at hb)
 ·rcases hb with rfl | rfl <;> decide
 ·rcases hb with rfl | rfl <;> decide
 ·rcases hb with rfl | rfl <;> decide
 ·rw [hb]; assumption
theorem zA (n : Nat) : (Lib.decDigits n).all (fun b => decide (32 < b.toNat)) = true ∧ Lib.decDigits n ≠ [] := by
 induction n using Nat.strongRecOn with
 | _ n ih =>
  have hd : ∀ k, k < 10 → decide (32 < (UInt8.ofNat (48 + k)).toNat) = true := by decide
  unfold Lib.decDigits
  split
  ·rename_i h
   exact ⟨by simp only [List.all_cons, List.all_nil, Bool.and_true]; exact hd n h, List.cons_ne_nil _ _⟩
  ·rename_i h
   have := ih (n / 10) (by omega)
   refine ⟨?_, by simp⟩
   rw [List.all_append, Bool.and_eq_true]
   exact ⟨this.1, by simp only [List.all_cons, List.all_nil, Bool.and_true]; exact hd _ (by omega)⟩
theorem aN2 {X : ByteArray} {n : Int} (h : NB X) : TB (X ++ xY n) := by
 have h1 : o9 (xY n) = true := by
  unfold xY Lib.itoa o9
  simp only
  split
  ·rw [List.all_cons, Bool.and_eq_true]; exact ⟨by decide, (zA _).1⟩
  ·exact (zA _).1
 refine aEy h h1 ?_
 unfold xY Lib.itoa
 split
 ·simp [ByteArray.size]
 ·have := (zA n.toNat).2
  simpa [ByteArray.size] using this

def Fw (n : Nat) (t : Nd) : Prop := Ft t ∧ Fu n t
def Sf (n : Nat) (t : Nd) : Prop := Ft t ∧ jH t ≤ n
theorem Sf.eF {n : Nat} {t : Nd} (w : Sf n t) (i : Nat) : Fw n (aW t i) := by
 refine ⟨w.1.eF i, ?_⟩
 have h1 := w.2
 have h2 := oU t
 by_cases hi : i < t.kids.length
 ·have := mO hi
  exact .of (by omega)
 ·rw [gA hi]; exact .zero (by omega)
theorem Sf.self {n : Nat} {t : Nd} (w : Sf n t) (i : Nat) : Sf n (aW t i) := by
 refine ⟨w.1.eF i, ?_⟩
 have h1 := w.2
 have h2 := oU t
 by_cases hi : i < t.kids.length
 ·have := mO hi
  omega
 ·rw [gA hi]
  have : jH kW = 1 := by simp [kW, jH, lG]
  omega
theorem Sf.mem {n : Nat} {t u : Nd} (w : Sf n t) (hu : u ∈ t.kids) : Sf n u ∧ Fw n u := by
 have h1 := w.2
 have h2 := qO hu
 rw [mC] at h1
 exact ⟨⟨w.1.kids u hu, by omega⟩, w.1.kids u hu, .of (by omega)⟩
theorem Sf.o9 {n : Nat} {t : Nd} (w : Sf n t) (hk : t.kind ≠ 37) : o9 t.text = true := w.1.gd.o9 hk
theorem Sf.of {n : Nat} {t : Nd} (w : Fw (n + 1) t) (hk : t.kind ≠ 0) : Sf n t := ⟨w.1, by have := w.2.2 hk; omega⟩

theorem aEh {f : Nd → ByteArray → ByteArray} : ∀ {l : List Nd} (c : ∀ t ∈ l, ∀ X, NB X → TB (f t X)) (b : Bool) (X : ByteArray), NB X → NB (kY f b l X)
 | [], _, _, _, h => h
 | t :: l, c, b, X, h => by
  unfold kY
  refine aEh (fun u hu => c u (List.mem_cons_of_mem _ hu)) _ _ (c t List.mem_cons_self _ ?_).nb
  split
  ·exact h
  ·exact cU h (by decide)
theorem nV {f : Nd → ByteArray → ByteArray} {l : List Nd} {X : ByteArray} (c : ∀ t ∈ l, ∀ X, NB X → TB (f t X)) (h : NB X) : NB (fR f l X) := aEh c _ X h
theorem aEi {f : Nd → ByteArray → ByteArray} {t : Nd} {X : ByteArray} (c : ∀ X, NB X → TB (f t X)) (h : NB X) : NB (hJ f t X) := by
 unfold hJ
 split
 ·exact h
 ·exact (c _ h).nb
theorem aAc {f : Nd → ByteArray → ByteArray} {w : ByteArray} {t : Nd} {X : ByteArray} (c : ∀ X, NB X → TB (f t X)) (h : NB X) (hw : o9 w = true) (hn : w.size ≠ 0) : TB (mT f w t X) := by
 unfold mT
 split
 ·exact aEy h hw hn
 ·exact c _ (cU (lA h hw) (by decide))

structure mW (n : Nat) (r : Pr) : Prop where
 cD : ∀ {t X}, Fw n t → NB X → TB (r.cD t X)
 expr : ∀ {d t X}, Fw n t → NB X → TB (r.expr d t X)
 stmt : ∀ {d t X}, Fw n t → NB X → TB (r.stmt d t X)
section
variable {n : Nat} {r : Pr}
theorem aBo {t : Nd} {k : Nat} {u : Nd} (h : u ∈ t.kids.take k) : u ∈ t.kids := List.mem_of_mem_take h
theorem aBn {t : Nd} {k : Nat} {u : Nd} (h : u ∈ t.kids.drop k) : u ∈ t.kids := List.mem_of_mem_drop h

theorem jJ {p : Prop} (h : p := by (repeat (first | assumption | apply jX _ (by decide) | apply cU _ (by decide) | apply aHz | apply sJ | apply aNh | apply aN2 | apply c.cD (w.eF _) | apply TB.nb (c.cD (w.eF _) _) | apply c.expr (w.eF _) | apply TB.nb (c.expr (w.eF _) _) | apply c.stmt (w.eF _) | apply TB.nb (c.stmt (w.eF _) _) | apply nV (fun u hu X h => c.cD (w.mem (aBo hu)).2 h) | apply nV (fun u hu X h => c.expr (w.mem (aBo hu)).2 h) | apply nV (fun u hu X h => c.expr (w.mem (aBn hu)).2 h) | apply nV (fun u hu X h => c.expr (w.mem hu).2 h) | apply aEi (fun X h => c.expr (w.eF _) h) | apply aEi (fun X h => c.stmt (w.eF _) h) | apply aN3 _ (w.o9 (by omega)) | apply lA _ (w.o9 (by omega)) | apply TB.nb (aAc (fun X h => c.expr (w.eF _) h) _ (by decide) (by decide)) | apply aAc (fun X h => c.expr (w.eF _) h) _ (by decide) (by decide)))) : p := h
theorem aQc (c : mW n r) {t : Nd} {X : ByteArray} (w : Sf n t) (hX : NB X) : TB (xK r t X) := by
 unfold xK
 try dsimp only
 repeat' split
 all_goals exact jJ
theorem vM (c : mW n r) {t : Nd} {X : ByteArray} (w : Sf n t) (hk : t.kind ≠ 37) (hX : NB X) : TB (eJ r t X) := by
 unfold eJ
 exact jJ
theorem wW (c : mW n r) (d : Int) : ∀ (l : List Nd) (X : ByteArray), (∀ u ∈ l, Fw n u) → NB X → NB (fT r d l X)
 | [], _, _, h => h
 | t :: l, X, ht, h => by
  unfold fT
  exact wW c d l _ (fun u hu => ht u (List.mem_cons_of_mem _ hu)) (aHz (c.stmt (ht t List.mem_cons_self) (sJ h)))
theorem aBq (c : mW n r) (d : Int) {t : Nd} {X : ByteArray} (w : Sf n t) (h : NB X) : NB (lF r d t.kids X) := wW c _ _ X (fun u hu => (w.mem hu).2) h
theorem vL (c : mW n r) (d : Int) {t : Nd} {X : ByteArray} (w : Sf n t) (hX : NB X) : TB (eX r d t X) := by
 unfold eX
 split
 ·exact jX (sJ (aBq c d w (cU hX (by decide)))) (by decide)
 ·exact jX hX (by decide)
theorem aFb {t : Nd} {u : Nd} (hu : u ∈ (aW t 0).kids) : t.kids[0]? = some (aW t 0) := by
 by_cases hi : 0 < t.kids.length
 ·rw [List.getElem?_eq_getElem hi]
  unfold aW
  rw [List.getD_eq_getElem?_getD, List.getElem?_eq_getElem hi, Option.getD_some]
 ·rw [gA hi] at hu; cases hu
theorem xF (c : mW n r) (d : Int) {t : Nd} {X : ByteArray} (w : Sf n t) (hk : t.kind = 4 ∨ t.kind = 48) (hX : NB X) : TB (dK r d t X) := by
 unfold dK
 refine vL c d (w.self 2) ?_
 have hp : NB (fR (eJ r) (aW t 0).kids (X ++ (⟨#[40]⟩ :ByteArray)) ++ (⟨#[41, 32]⟩ :ByteArray)) := cU (nV (fun u hu X h => by
  have h6 := w.1.gd.fn hk _ (aFb hu)
  exact vM c ((w.self 0).mem hu).1 ((w.self 0).1.gd.fld (.inr (.inl h6)) u hu) h) (cU hX (by decide))) (by decide)
 split
 ·exact hp
 ·exact cU (c.cD (w.eF 1) hp).nb (by decide)
theorem aAa (c : mW n r) {d : Int} {t : Nd} {s X : ByteArray} (w : Sf n t) (hs : ∀ Y, TB Y → NB (Y ++ s)) (hX : NB X) : TB (jY r d t s X) := c.expr (w.eF 1) (hs _ (c.expr (w.eF 0) hX))
theorem aN0 (c : mW n r) (d : Int) {t : Nd} {X : ByteArray} (w : Sf n t) (hX : NB X) : TB (pU r d t X) := by
 unfold pU
 refine vL c d (w.self 3) ?_
 try dsimp only
 repeat' split
 all_goals exact jJ
theorem aKk (c : mW n r) (d : Int) {t : Nd} {X : ByteArray} (w : Sf n t) (hX : NB X) : NB (qY r d t X) := by
 unfold qY
 by_cases h1 : t.kind = 24 ∧ t.text = (⟨#[99, 97, 115, 101]⟩ :ByteArray)
 ·rw [if_pos h1]
  exact jJ
 rw [if_neg h1]
 by_cases h2 : t.kind = 26 ∧ t.text = (⟨#[114, 101, 99, 118]⟩ :ByteArray)
 ·rw [if_pos h2]
  refine (c.expr (w.eF _) (cU ?_ (by decide))).nb
  by_cases h3 : t.kids.length = 3
  ·rw [if_pos h3]
   have hk := w.1.gd.got h2.1 h2.2 h3 (aW t 0) (by unfold aW; rw [List.getD_eq_getElem?_getD, List.getElem?_eq_getElem (by omega), Option.getD_some])
   exact cU (lA (cU hX (by decide)) ((w.self 0).o9 hk)) (by decide)
  ·rw [if_neg h3]
   exact cU hX (by decide)
 rw [if_neg h2]
 by_cases h3 : t.kind = 26 ∧ t.text = (⟨#[115, 101, 110, 100]⟩ :ByteArray)
 ·rw [if_pos h3]
  exact (aAa c w (fun Y h => cU h.nb (by decide)) (cU hX (by decide))).nb
 ·rw [if_neg h3]
  exact cU hX (by decide)
theorem sH (c : mW n r) (d : Int) : ∀ (l : List Nd) (X : ByteArray), (∀ u ∈ l, Sf n u) → NB X → NB (dP r d l X)
 | [], _, _, h => h
 | t :: l, X, ht, h => by
  unfold dP
  have w := ht t List.mem_cons_self
  exact sH c d l _ (fun u hu => ht u (List.mem_cons_of_mem _ hu)) (aBq c d (w.self _) (cU (aKk c d w (sJ h)) (by decide)))
theorem aF1 (c : mW n r) (d : Int) {t : Nd} {X : ByteArray} (w : Sf n t) (hX : NB X) : TB (fO r d t X) := by
 unfold fO
 try dsimp only
 refine jX (sJ (sH c d _ _ (fun u hu => ?_) (cU ?_ (by decide)))) (by decide)
 ·split at hu
  ·exact (w.mem (aBn hu)).1
  ·exact (w.mem hu).1
 ·split
  ·exact (aAc (fun X h => c.expr (w.eF _) h) hX (by decide) (by decide)).nb
  ·exact cU hX (by decide)
theorem aI1 {X s : ByteArray} (h : TB X) (hs : o9 s = true) : TB (if s = (⟨#[]⟩ :ByteArray) then X else X ++ (⟨#[32]⟩ :ByteArray) ++ s) := by
 split
 ·exact h
 ·rename_i hn
  refine aEy (cU h.nb (by decide)) hs fun h0 => hn ?_
  rcases s with ⟨⟨l⟩⟩
  cases l with
  | nil => rfl
  | cons a l => simp [ByteArray.size] at h0
theorem aLb (c : mW n r) (d : Int) {t : Nd} {X : ByteArray} (w : Sf n t) (hX : NB X) : TB (jW r d t X) := by
 unfold jW
 try dsimp only
 by_cases h1 : t.kind = 27
 ·rw [if_pos h1]; exact aI1 (jX hX (by decide)) (w.o9 (by omega))
 rw [if_neg h1]
 by_cases h2 : t.kind = 28
 ·rw [if_pos h2]; exact aI1 (jX hX (by decide)) (w.o9 (by omega))
 rw [if_neg h2]
 by_cases h3 : t.kind = 33
 ·simp only [h3, Int.reduceEq, if_false, if_true]
  exact aAa c w (fun Y h => cU h.nb (by decide)) hX
 by_cases h4 : t.kind = 34
 ·simp only [h4, Int.reduceEq, if_false, if_true]
  split
  ·rename_i h5
   exact c.expr ((w.self 0).eF 0) (lA hX ((w.self 0).o9 (by omega)))
  ·exact jJ
 simp only [h3, h4, if_false]
 repeat' split
 all_goals exact jJ
theorem aQb (c : mW n r) {d : Int} {t : Nd} {X : ByteArray} (w : Sf n t) (hk : t.kind ≠ 37) (hX : NB X) : TB (jY r d t ((⟨#[32]⟩ :ByteArray) ++ t.text ++ (⟨#[32]⟩ :ByteArray)) X) :=
 aAa c w (fun Y h => by
  rw [← ByteArray.append_assoc, ← ByteArray.append_assoc]
  exact cU (lA (cU h.nb (by decide)) (w.o9 hk)) (by decide)) hX
theorem aN1 (c : mW n r) (d : Int) {t : Nd} {X : ByteArray} (w : Sf n t) (hX : NB X) : TB (p6 r d t X) := by
 unfold p6
 try dsimp only
 by_cases h1 : t.kind = 16
 ·rw [if_pos h1]; exact vL c d w hX
 rw [if_neg h1]
 by_cases h2 : t.kind = 18
 ·simp only [h2, Int.reduceEq, if_false, if_true]
  have hn := vM c w (by omega) (cU hX (l := (⟨#[118, 97, 114, 32]⟩ :ByteArray)) (by decide))
  split
  ·exact hn
  ·exact c.expr (w.eF 1) (cU hn.nb (by decide))
 by_cases h3 : t.kind = 19
 ·simp only [h3, Int.reduceEq, if_false, if_true]
  exact aQb c w (by omega) hX
 by_cases h4 : t.kind = 21
 ·simp only [h4, Int.reduceEq, if_false, if_true]
  have hb := vL c d (w.self 1) (X := r.expr d (aW t 0) (X ++ (⟨#[105, 102, 32]⟩ :ByteArray)) ++ (⟨#[32]⟩ :ByteArray)) jJ
  split
  ·exact hb
  ·exact c.stmt (w.eF 2) (cU hb.nb (by decide))
 by_cases h5 : t.kind = 22
 ·simp only [h5, Int.reduceEq, if_false, if_true]; exact aN0 c d w hX
 by_cases h6 : t.kind = 23 ∨ t.kind = 25
 ·simp only [h2, h3, h4, h5, if_false]
  by_cases h7 : t.kind = 17
  ·omega
  by_cases h8 : t.kind = 20
  ·omega
  rw [if_neg h7, if_neg h8, if_pos h6]
  exact aF1 c d w hX
 simp only [h2, h3, h4, h5, h6, if_false]
 by_cases h7 : t.kind = 17
 ·rw [if_pos h7]; exact jJ
 rw [if_neg h7]
 by_cases h8 : t.kind = 20
 ·rw [if_pos h8]; exact jJ
 rw [if_neg h8]
 by_cases h9 : t.kind = 35
 ·rw [if_pos h9]; exact jJ
 ·rw [if_neg h9]; exact aLb c d w hX
theorem aF0 (c : mW n r) (d : Int) {t : Nd} {X : ByteArray} (w : Sf n t) (hk : t.kind = 44) (hX : NB X) : TB (gJ r d t X) := by
 unfold gJ
 try dsimp only
 refine jX ?_ (by decide)
 have h0 : NB (X ++ t.text ++ (⟨#[40]⟩ :ByteArray)) := cU (lA hX (w.o9 (by omega))) (by decide)
 by_cases h1 : t.text = (⟨#[110, 101, 119]⟩ :ByteArray)
 ·rw [if_pos h1]
  by_cases hi : 0 < t.kids.length
  ·have hn := w.1.gd.new hk h1 (aW t 0) (by unfold aW; rw [List.getD_eq_getElem?_getD, List.getElem?_eq_getElem hi, Option.getD_some])
   exact lA h0 ((w.self 0).o9 hn)
  ·rw [gA hi]; exact lA h0 (by decide)
 rw [if_neg h1]
 repeat' split
 all_goals exact jJ
theorem aF2 (c : mW n r) (d : Int) {t : Nd} {X : ByteArray} (w : Sf n t) (hX : NB X) : TB (fS r d t X) := by
 unfold fS
 by_cases h1 : t.kind = 49
 ·rw [if_pos h1]
  refine jX (nV (fun u hu X h => ?_) (cU (lA (cU hX (by decide)) (w.o9 (by omega))) (by decide))) (by decide)
  have hk := w.1.gd.fld (.inr (.inr h1)) u hu
  have wu := (w.mem hu).1
  exact c.expr (wu.eF 0) (cU (lA h (wu.o9 hk)) (by decide))
 rw [if_neg h1]
 repeat' split
 all_goals exact jJ
theorem aNz (c : mW n r) (d : Int) {t : Nd} {X : ByteArray} (w : Sf n t) (hX : NB X) : TB (pN r d t X) := by
 unfold pN
 try dsimp only
 by_cases h1 : t.kind = 37
 ·simp only [h1, Int.reduceEq, if_false, if_true]
  exact jJ
 by_cases h2 : t.kind = 38 ∨ t.kind = 40
 ·have h36 : t.kind ≠ 36 := by omega
  have h39 : t.kind ≠ 39 := by omega
  rw [if_neg h36, if_neg h1, if_neg h39, if_pos h2]
  exact aEy hX (w.o9 (by omega)) (w.1.gd.ne h2)
 by_cases h3 : t.kind = 42
 ·simp only [h3, Int.reduceEq, if_false, if_true, or_false, false_or]
  exact jX (aQb c w (by omega) (cU hX (by decide))).nb (by decide)
 by_cases h4 : t.kind = 44
 ·simp only [h4, Int.reduceEq, if_false, if_true, or_false, false_or]
  exact aF0 c d w h4 hX
 by_cases h5 : t.kind = 45
 ·simp only [h5, Int.reduceEq, if_false, if_true, or_false, false_or]
  exact jX (aAa c w (fun Y h => cU h.nb (by decide)) hX).nb (by decide)
 by_cases h6 : t.kind = 48
 ·simp only [h6, Int.reduceEq, if_false, if_true, or_false, false_or]
  exact xF c d w (.inr h6) (cU hX (by decide))
 simp only [h1, h2, h3, h4, h5, h6, if_false]
 by_cases h7 : t.kind = 36
 ·rw [if_pos h7]; exact jJ
 rw [if_neg h7]
 by_cases h8 : t.kind = 39
 ·rw [if_pos h8]; exact jJ
 rw [if_neg h8]
 by_cases h9 : t.kind = 41
 ·rw [if_pos h9]; exact jJ
 rw [if_neg h9]
 by_cases h10 : t.kind = 43
 ·rw [if_pos h10]; exact jJ
 rw [if_neg h10]
 by_cases h11 : t.kind = 46
 ·rw [if_pos h11]; exact jJ
 rw [if_neg h11]
 by_cases h12 : t.kind = 47
 ·rw [if_pos h12]; exact jJ
 ·rw [if_neg h12]; exact aF2 c d w hX
end
theorem aMa : ∀ n, mW n (prN n)
 | 0 => ⟨fun w _ => absurd w.2.1 (Nat.lt_irrefl _), fun w _ => absurd w.2.1 (Nat.lt_irrefl _), fun w _ => absurd w.2.1 (Nat.lt_irrefl _)⟩
 | n + 1 =>
  have c := aMa n
  ⟨fun {t X} w hX => by
   by_cases hk : t.kind = 0
   ·show TB (xK _ t X)
    unfold xK
    simp only [hk, Int.reduceEq, if_false]
    exact jX hX (by decide)
   ·exact aQc c (.of w hk) hX,
  fun {d t X} w hX => by
   by_cases hk : t.kind = 0
   ·show TB (pN _ d t X)
    unfold pN fS
    simp only [hk, Int.reduceEq, if_false, or_false]
    exact jX hX (by decide)
   ·exact aNz c d (.of w hk) hX,
  fun {d t X} w hX => by
   by_cases hk : t.kind = 0
   ·show TB (p6 _ d t X)
    unfold p6 jW
    simp only [hk, Int.reduceEq, if_false, or_false]
    exact jX hX (by decide)
   ·exact aN1 c d (.of w hk) hX⟩
section
variable {n : Nat} {r : Pr}
theorem yV (c : mW n r) : ∀ (l : List Nd) (X : ByteArray), (∀ u ∈ l, Sf n u ∧ u.kind ≠ 37) → NB X → NB (eT r l X)
 | [], _, _, h => h
 | t :: l, X, ht, h => by
  unfold eT
  have w := ht t List.mem_cons_self
  exact yV c l _ (fun u hu => ht u (List.mem_cons_of_mem _ hu)) (aHz (vM c w.1 w.2 (cU h (by decide))))
def NL (a : ByteArray) : Prop := S0 a = some false ∧ (a = (⟨#[]⟩ :ByteArray) ∨ Hd a ∧ a.data.toList.getLast? = some 10)
theorem sI {X l : ByteArray} (h : NL X) (hl : ((l.data.toList.foldl oP (some false)).isSome && (match l.data.toList with | [] => false | c :: _ => decide (c ≠ 32 ∧ c ≠ 9))) = true) : NB (X ++ l) := by
 rw [Bool.and_eq_true, Option.isSome_iff_exists] at hl
 refine ⟨?_, by rw [mX, h.1]; exact hl.1⟩
 rcases h.2 with rfl | h
 ·rw [show (⟨#[]⟩ :ByteArray) ++ l = l by apply ByteArray.ext; rw [ByteArray.data_append]; apply Array.toList_inj.1; rw [Array.toList_append]; rfl]
  have h2 := hl.2
  cases hc : l.data.toList with
  | nil => rw [hc] at h2; cases h2
  | cons c m => rw [hc] at h2; exact ⟨c, m, hc, of_decide_eq_true h2⟩
 ·exact h.1.app _
theorem aP6 {X : ByteArray} (h : TB X) : NL (X ++ (⟨#[10]⟩ :ByteArray)) := by
 refine ⟨?_, .inr ⟨h.1.app _, ?_⟩⟩
 ·rw [mX, h.2]; rfl
 ·rw [ByteArray.data_append, Array.toList_append]
  show (X.data.toList ++ [10]).getLast? = some 10
  rw [List.getLast?_append]; rfl
theorem aNy (c : mW n r) {t : Nd} {X : ByteArray} (w : Sf n t) (hX : NL X) : NL (qS r t X) := by
 unfold qS
 refine aP6 ?_
 by_cases h1 : t.kind = 2
 ·rw [if_pos h1]
  have hv := w.o9 (by omega)
  exact jX (yV c _ _ (fun u hu => ⟨(w.mem hu).1, w.1.gd.fld (.inl h1) u hu⟩) (cU (lA (sI hX (by decide)) hv) (by decide))) (by decide)
 rw [if_neg h1]
 by_cases h2 : t.kind = 3
 ·rw [if_pos h2]; exact vM c w (by omega) (sI hX (by decide))
 rw [if_neg h2]
 by_cases h3 : t.kind = 4
 ·rw [if_pos h3]; exact xF c 0 w (.inl h3) (lA (sI hX (by decide)) (w.o9 (by omega)))
 ·rw [if_neg h3]
  have h4 := sI (l := (⟨#[63]⟩ :ByteArray)) hX (by decide)
  exact ⟨h4.1, by rw [mX, hX.1]; rfl⟩
theorem aI0 (c : mW n r) : ∀ (l : List Nd) (X : ByteArray), (∀ u ∈ l, Sf n u) → NL X → NL (eZ r l X)
 | [], _, _, h => h
 | t :: l, X, ht, h => by
  unfold eZ
  exact aI0 c l _ (fun u hu => ht u (List.mem_cons_of_mem _ hu)) (aNy c (ht t List.mem_cons_self) h)
end
theorem aJx {t : Nd} (h : Ft t) (hw : jH t ≤ 50000) : NL (qV 60000 t) :=
 aI0 (aMa 60000) _ _ (fun u hu => (Sf.mem (n := 60000) ⟨h, by omega⟩ hu).1) ⟨rfl, .inl rfl⟩

theorem aIn : ∀ (l m : List UInt8) (b : Bool) (x y : UInt8), l.foldl oP (some b) ≠ none → ∀ (i : Nat), l[i]? = some x → l[i + 1]? = some 10 → x ≠ 32 ∧ x ≠ 9 ∧ x ≠ 10
 | [], _, _, _, _, _, _, h, _ => by cases h
 | [a], _, _, _, _, _, _, _, h => by simp at h
 | a :: c :: l, m, b, x, y, hn, i, h1, h2 => by
  have none_stays : ∀ l : List UInt8, l.foldl oP none = none := by
   intro l
   induction l with
   | nil => rfl
   | cons u l ih => rw [List.foldl_cons]; exact ih
  rw [List.foldl_cons] at hn
  cases hr : oP (some b) a with
  | none => rw [hr, none_stays] at hn; exact (hn rfl).elim
  | some b' =>
   rw [hr] at hn
   cases i with
   | succ i => exact aIn (c :: l) m b' x y hn i h1 h2
   | zero =>
    simp only [List.getElem?_cons_zero, Option.some.injEq, Nat.zero_add, List.getElem?_cons_succ] at h1 h2
    subst h1 h2
    rw [List.foldl_cons] at hn
    have hb : b' = true := by
     cases b' with
     | true => rfl
     | false =>
      rw [show oP (some false) 10 = none from rfl, none_stays] at hn
      exact (hn rfl).elim
    subst hb
    unfold oP at hr
    split at hr
    ·cases hr
    ·rename_i b0 e0
     cases e0
     split at hr
     ·split at hr <;> cases hr
     ·rename_i h10
      split at hr
      ·cases hr
      ·rename_i h3
       exact ⟨fun e => h3 (.inl e), fun e => h3 (.inr e), h10⟩

theorem aNl {s : ByteArray} (h : NL s) : (s ≠ (⟨#[]⟩ :ByteArray) → 0 < s.size ∧ bD s ((s.size : Int) - 1) = 10 ∧ bD s 0 ≠ 9 ∧ bD s 0 ≠ 32) ∧ ∀ i : Nat, i + 1 < s.size → bD s ((i + 1 : Nat) : Int) = 10 → bD s (i : Int) ≠ 32 ∧ bD s (i : Int) ≠ 9 ∧ bD s (i : Int) ≠ 10 := by
 have hsz : s.data.toList.length = s.size := by simp
 have hb : ∀ (k : Nat) (c : UInt8), s.data.toList[k]? = some c → bD s (k : Int) = (c.toNat : Int) := fun k c hc => by
  unfold bD
  rw [Int.toNat_natCast, List.getD_eq_getElem?_getD, hc]; rfl
 have hne : ∀ {c d : UInt8}, c ≠ d → (c.toNat : Int) ≠ (d.toNat : Int) := fun hcd e => hcd (UInt8.toNat_inj.1 (by omega))
 constructor
 ·intro hn
  rcases h.2 with rfl | ⟨⟨c, l, hl, h1, h2⟩, h3⟩
  ·exact (hn rfl).elim
  ·have hpos : 0 < s.size := by rw [← hsz, hl, List.length_cons]; omega
   refine ⟨hpos, ?_, ?_, ?_⟩
   ·rw [List.getLast?_eq_getElem?] at h3
    have := hb _ _ h3
    rw [hsz] at this
    rw [show ((s.size : Int) - 1) = ((s.size - 1 : Nat) : Int) by omega, this]; rfl
   ·have := hb 0 c (by rw [hl]; rfl)
    rw [show (0 : Int) = ((0 : Nat) : Int) from rfl, this]
    exact hne (d := 9) h2
   ·have := hb 0 c (by rw [hl]; rfl)
    rw [show (0 : Int) = ((0 : Nat) : Int) from rfl, this]
    exact hne (d := 32) h1
 ·intro i hi h10
  have h1 := List.getElem?_eq_getElem (l := s.data.toList) (i := i) (by omega)
  have h2 := List.getElem?_eq_getElem (l := s.data.toList) (i := i + 1) (by omega)
  generalize s.data.toList[i] = x at h1
  generalize s.data.toList[i + 1] = y at h2
  rw [hb _ _ h2] at h10
  have hy : y = 10 := UInt8.toNat_inj.1 (by have : (10 : UInt8).toNat = 10 := rfl; omega)
  subst hy
  have hrun : s.data.toList.foldl oP (some false) ≠ none := fun e => by have := h.1; unfold S0 at this; rw [e] at this; cases this
  obtain ⟨a1, a2, a3⟩ := aIn _ [] false x 0 hrun i h1 h2
  rw [hb _ _ h1]
  exact ⟨hne (d := 32) a1, hne (d := 9) a2, hne (d := 10) a3⟩

end Go.Proofs.ZL
end
