/- How long a printed file is, and how its lines end. -/
import Derived.Test.YtpdkdgfknanipaaGreatDoorYE1
section
open Go Go.Am
namespace Go.Proofs.ZL
set_option maxRecDepth 100000
set_option linter.unusedSimpArgs false
set_option linter.unusedVariables false
set_option maxHeartbeats 4000000
theorem cZ (X l : ByteArray) : X.size ≤ (X ++ l).size := by rw [ByteArray.size_append]; omega

theorem lI {c : Prop} [Decidable c] {A B : ByteArray} {k : Nat} (h1 : k ≤ A.size) (h2 : k ≤ B.size) : k ≤ (if c then A else B).size := by
 by_cases hc : c
 ·rw [if_pos hc]; exact h1
 ·rw [if_neg hc]; exact h2
structure RecM (r : Pr) : Prop where
 cD : ∀ t X, X.size ≤ (r.cD t X).size
 expr : ∀ d t X, X.size ≤ (r.expr d t X).size
 stmt : ∀ d t X, X.size ≤ (r.stmt d t X).size

theorem wS {f : Nd → ByteArray → ByteArray} (c : ∀ t X, X.size ≤ (f t X).size) : ∀ (l : List Nd) (b : Bool) (X : ByteArray), X.size ≤ (kY f b l X).size
 | [], _, _ => Nat.le_refl _
 | t :: l, b, X => by
  unfold kY
  refine Nat.le_trans ?_ (wS c l _ _)
  refine Nat.le_trans ?_ (c _ _)
  split
  ·exact Nat.le_refl _
  ·exact cZ _ _
theorem jS {f : Nd → ByteArray → ByteArray} (c : ∀ t X, X.size ≤ (f t X).size) (l : List Nd) (X : ByteArray) : X.size ≤ (fR f l X).size := wS c l _ _

section
variable {r : Pr}
theorem wT {f : Nd → ByteArray → ByteArray} (c : ∀ t X, X.size ≤ (f t X).size) (t : Nd) (X : ByteArray) : X.size ≤ (hJ f t X).size := by
 unfold hJ; split; exact Nat.le_refl _; exact c _ _
theorem aDc {f : Nd → ByteArray → ByteArray} (c : ∀ t X, X.size ≤ (f t X).size) (w : ByteArray) (t : Nd) (X : ByteArray) : X.size ≤ (mT f w t X).size := by
 unfold mT; split
 ·exact cZ _ _
 ·exact Nat.le_trans (cZ _ _) (Nat.le_trans (cZ _ _) (c _ _))
theorem aP4 (c : RecM r) (t : Nd) (X : ByteArray) : X.size ≤ (xK r t X).size := by
 unfold xK
 dsimp only
 (repeat' (with_reducible first | exact Nat.le_refl _ | refine Nat.le_trans ?_ (c.cD _ _) | refine Nat.le_trans ?_ (jS c.cD _ _) | refine Nat.le_trans ?_ (cZ _ _) | refine lI ?_ ?_))
theorem oJ (c : RecM r) (t : Nd) (X : ByteArray) : X.size ≤ (eJ r t X).size := by
 unfold eJ
 (repeat' (with_reducible first | exact Nat.le_refl _ | refine lI ?_ ?_ | refine Nat.le_trans ?_ (cZ _ _) | refine Nat.le_trans ?_ (c.cD _ _) | refine Nat.le_trans ?_ (c.expr _ _ _) | refine Nat.le_trans ?_ (c.stmt _ _ _)))
theorem tM (c : RecM r) (d : Int) : ∀ (l : List Nd) (X : ByteArray), X.size ≤ (fT r d l X).size
 | [], _ => Nat.le_refl _
 | t :: l, X => by
  unfold fT
  refine Nat.le_trans ?_ (tM c d l _)
  (repeat' (with_reducible first | exact Nat.le_refl _ | refine lI ?_ ?_ | refine Nat.le_trans ?_ (cZ _ _) | refine Nat.le_trans ?_ (c.cD _ _) | refine Nat.le_trans ?_ (c.expr _ _ _) | refine Nat.le_trans ?_ (c.stmt _ _ _)))
theorem vI (c : RecM r) (d : Int) (l : List Nd) (X : ByteArray) : X.size ≤ (lF r d l X).size := tM c _ l X
theorem vH (c : RecM r) (d : Int) (t : Nd) (X : ByteArray) : X.size ≤ (eX r d t X).size := by
 unfold eX
 split
 ·exact Nat.le_trans (cZ _ _) (Nat.le_trans (vI c _ _ _) (Nat.le_trans (cZ _ _) (cZ _ _)))
 ·exact cZ _ _
theorem rJ (c : RecM r) (d : Int) (t : Nd) (X : ByteArray) : X.size ≤ (dK r d t X).size := by
 unfold dK
 dsimp only
 refine Nat.le_trans ?_ (vH c _ _ _)
 (repeat' (with_reducible first | exact Nat.le_refl _ | refine Nat.le_trans ?_ (c.cD _ _) | refine Nat.le_trans ?_ (jS (oJ c) _ _) | refine Nat.le_trans ?_ (cZ _ _) | refine lI ?_ ?_))
theorem zN (c : RecM r) (d : Int) (t : Nd) (s X : ByteArray) : X.size ≤ (jY r d t s X).size := by
 unfold jY
 (repeat' (with_reducible first | exact Nat.le_refl _ | refine lI ?_ ?_ | refine Nat.le_trans ?_ (cZ _ _) | refine Nat.le_trans ?_ (c.cD _ _) | refine Nat.le_trans ?_ (c.expr _ _ _) | refine Nat.le_trans ?_ (c.stmt _ _ _)))
theorem aNb (c : RecM r) (d : Int) (t : Nd) (X : ByteArray) : X.size ≤ (pU r d t X).size := by
 unfold pU
 dsimp only
 refine Nat.le_trans ?_ (vH c _ _ _)
 (repeat' (with_reducible first | exact Nat.le_refl _ | refine Nat.le_trans ?_ (c.expr _ _ _) | refine Nat.le_trans ?_ (wT (c.expr _) _ _) | refine Nat.le_trans ?_ (wT (c.stmt _) _ _) | refine Nat.le_trans ?_ (cZ _ _) | refine lI ?_ ?_))
theorem aDb (c : RecM r) (d : Int) (t : Nd) (X : ByteArray) : X.size ≤ (qY r d t X).size := by
 unfold qY
 (repeat' (with_reducible first | exact Nat.le_refl _ | refine Nat.le_trans ?_ (c.expr _ _ _) | refine Nat.le_trans ?_ (jS (c.expr _) _ _) | refine Nat.le_trans ?_ (zN c _ _ _ _) | refine Nat.le_trans ?_ (cZ _ _) | refine lI ?_ ?_))
theorem kT (c : RecM r) (d : Int) : ∀ (l : List Nd) (X : ByteArray), X.size ≤ (dP r d l X).size
 | [], _ => Nat.le_refl _
 | t :: l, X => by
  unfold dP
  exact Nat.le_trans (cZ _ _) (Nat.le_trans (aDb c _ _ _) (Nat.le_trans (cZ _ _) (Nat.le_trans (vI c _ _ _) (kT c d l _))))
theorem aFf (c : RecM r) (d : Int) (t : Nd) (X : ByteArray) : X.size ≤ (fO r d t X).size := by
 unfold fO
 dsimp only
 refine Nat.le_trans ?_ (Nat.le_trans (kT c _ _ _) (Nat.le_trans (cZ _ _) (cZ _ _)))
 refine Nat.le_trans ?_ (cZ _ _)
 split
 ·exact aDc (c.expr _) _ _ _
 ·exact cZ _ _
theorem aKj (c : RecM r) (d : Int) (t : Nd) (X : ByteArray) : X.size ≤ (jW r d t X).size := by
 unfold jW
 dsimp only
 (repeat' (with_reducible first | exact Nat.le_refl _ | refine Nat.le_trans ?_ (c.expr _ _ _) | refine Nat.le_trans ?_ (aDc (c.expr _) _ _ _) | refine Nat.le_trans ?_ (zN c _ _ _ _) | refine Nat.le_trans ?_ (cZ _ _) | refine lI ?_ ?_))
theorem aNc (c : RecM r) (d : Int) (t : Nd) (X : ByteArray) : X.size ≤ (p6 r d t X).size := by
 unfold p6
 dsimp only
 (repeat' (with_reducible first | exact Nat.le_refl _ | refine Nat.le_trans ?_ (c.expr _ _ _) | refine Nat.le_trans ?_ (c.stmt _ _ _) | refine Nat.le_trans ?_ (aNb c _ _ _) | refine Nat.le_trans ?_ (aFf c _ _ _) | refine Nat.le_trans ?_ (aKj c _ _ _) | refine Nat.le_trans ?_ (oJ c _ _) | refine Nat.le_trans ?_ (zN c _ _ _ _) | refine Nat.le_trans ?_ (vH c _ _ _) | refine Nat.le_trans ?_ (cZ _ _) | refine lI ?_ ?_))
theorem aFe (c : RecM r) (d : Int) (t : Nd) (X : ByteArray) : X.size ≤ (gJ r d t X).size := by
 unfold gJ
 dsimp only
 (repeat' (with_reducible first | exact Nat.le_refl _ | refine Nat.le_trans ?_ (c.expr _ _ _) | refine Nat.le_trans ?_ (c.cD _ _) | refine Nat.le_trans ?_ (jS (c.expr _) _ _) | refine Nat.le_trans ?_ (cZ _ _) | refine lI ?_ ?_))
theorem zO (c : RecM r) (d : Int) (t : Nd) (X : ByteArray) : X.size ≤ (nB r d t X).size := by
 unfold nB
 (repeat' (with_reducible first | exact Nat.le_refl _ | refine lI ?_ ?_ | refine Nat.le_trans ?_ (cZ _ _) | refine Nat.le_trans ?_ (c.cD _ _) | refine Nat.le_trans ?_ (c.expr _ _ _) | refine Nat.le_trans ?_ (c.stmt _ _ _)))
theorem aFg (c : RecM r) (d : Int) (t : Nd) (X : ByteArray) : X.size ≤ (fS r d t X).size := by
 unfold fS
 (repeat' (with_reducible first | exact Nat.le_refl _ | refine Nat.le_trans ?_ (c.cD _ _) | refine Nat.le_trans ?_ (jS (c.expr _) _ _) | refine Nat.le_trans ?_ (jS (zO c _) _ _) | refine Nat.le_trans ?_ (cZ _ _) | refine lI ?_ ?_))
theorem aNa (c : RecM r) (d : Int) (t : Nd) (X : ByteArray) : X.size ≤ (pN r d t X).size := by
 unfold pN
 (repeat' (with_reducible first | exact Nat.le_refl _ | refine Nat.le_trans ?_ (c.expr _ _ _) | refine Nat.le_trans ?_ (jS (c.expr _) _ _) | refine Nat.le_trans ?_ (zN c _ _ _ _) | refine Nat.le_trans ?_ (aFe c _ _ _) | refine Nat.le_trans ?_ (wT (c.expr _) _ _) | refine Nat.le_trans ?_ (rJ c _ _ _) | refine Nat.le_trans ?_ (aFg c _ _ _) | refine Nat.le_trans ?_ (cZ _ _) | refine lI ?_ ?_))
end
theorem aBy : ∀ n, RecM (prN n)
 | 0 => ⟨fun _ _ => Nat.le_refl _, fun _ _ _ => Nat.le_refl _, fun _ _ _ => Nat.le_refl _⟩
 | n + 1 => ⟨aP4 (aBy n), aNa (aBy n), aNc (aBy n)⟩
theorem wR {r : Pr} (c : RecM r) : ∀ (l : List Nd) (X : ByteArray), X.size ≤ (eT r l X).size
 | [], _ => Nat.le_refl _
 | t :: l, X => by
  unfold eT
  exact Nat.le_trans (cZ _ _) (Nat.le_trans (oJ c _ _) (Nat.le_trans (cZ _ _) (wR c l _)))
theorem aM9 {r : Pr} (c : RecM r) (t : Nd) (X : ByteArray) : X.size ≤ (qS r t X).size := by
 unfold qS
 (repeat' (with_reducible first | exact Nat.le_refl _ | refine Nat.le_trans ?_ (wR c _ _) | refine Nat.le_trans ?_ (oJ c _ _) | refine Nat.le_trans ?_ (rJ c _ _ _) | refine Nat.le_trans ?_ (cZ _ _) | refine lI ?_ ?_))
theorem aHt {r : Pr} (c : RecM r) : ∀ (l : List Nd) (X : ByteArray), X.size ≤ (eZ r l X).size
 | [], _ => Nat.le_refl _
 | t :: l, X => by
  unfold eZ
  exact Nat.le_trans (aM9 c _ _) (aHt c l _)

/-! ## From above -/
mutual
def cN (D : Nat) : Nd → Nat
 | .mk _ _ _ _ _ _ ks => cL D ks + (5000 + 10 * D)
def cL (D : Nat) : List Nd → Nat
 | [] => 0
 | t :: l => cN D t + cL D l + (D + 100)
end
theorem pI (D : Nat) (t : Nd) : cN D t = cL D t.kids + (5000 + 10 * D) := by cases t; rfl
mutual
theorem aOq (D : Nat) : ∀ t, cN D t + (D + 100) ≤ jH t * (6000 + 20 * D)
 | .mk _ _ _ _ _ _ ks => by
  have := aGu D ks
  simp only [cN, jH, Nat.add_mul, Nat.one_mul]
  omega
theorem aGu (D : Nat) : ∀ l, cL D l ≤ lG l * (6000 + 20 * D)
 | [] => by simp [cL]
 | t :: l => by
  have := aOq D t
  have := aGu D l
  simp only [cL, lG, Nat.add_mul]
  omega
end
def cK (D : Nat) (l : List Nd) (i : Nat) : Nat := match l[i]? with
 | some u => cN D u
 | none => 1
theorem aMk (D : Nat) (l m : List Nd) : cL D (l ++ m) = cL D l + cL D m := by
 induction l with
 | nil => simp [cL]
 | cons t l ih => simp only [List.cons_append, cL, ih]; omega
theorem vY (D : Nat) (l : List Nd) : cK D l 0 + cK D l 1 + cK D l 2 + cK D l 3 ≤ cL D l + 4 := by
 rcases l with _ | ⟨a, _ | ⟨b, _ | ⟨c, _ | ⟨d, l⟩⟩⟩⟩ <;> simp only [cK, cL, List.getElem?_nil, List.getElem?_cons_zero, List.getElem?_cons_succ] <;> omega
theorem y6 (D : Nat) (l : List Nd) : cL D (l.drop 1) + cK D l 0 ≤ cL D l + 1 := by
 rcases l with _ | ⟨a, l⟩ <;> simp [cK, cL] <;> omega
theorem y7 (D : Nat) (l : List Nd) : cL D (l.take (l.length - 1)) + cK D l (l.length - 1) ≤ cL D l + 1 := by
 rcases List.eq_nil_or_concat l with rfl | ⟨m, x, rfl⟩
 ·simp [cK, cL]
 ·simp only [List.concat_eq_append, List.length_append, List.length_singleton, Nat.add_sub_cancel]
  rw [List.take_left' rfl, aMk]
  unfold cK
  rw [List.getElem?_append_right (Nat.le_refl _), Nat.sub_self]
  simp only [List.getElem?_cons_zero, cL]
  omega
theorem aGt (D : Nat) (l : List Nd) (i : Nat) (h : i + 1 < l.length) : cK D l i + cK D l (l.length - 1) ≤ cL D l := by
 induction l generalizing i with
 | nil => simp at h
 | cons a l ih =>
  simp only [List.length_cons] at h ⊢
  rw [show l.length + 1 - 1 = (l.length - 1) + 1 by omega]
  have hs : ∀ j, cK D (a :: l) (j + 1) = cK D l j := fun j => by simp only [cK, List.getElem?_cons_succ]
  rw [hs]
  cases i with
  | zero =>
   have hl := y7 D l
   simp only [cK, List.getElem?_cons_zero, cL] at hl ⊢
   omega
  | succ i =>
   rw [hs]
   have := ih i (by omega)
   simp only [cL]
   omega
theorem aOp (D : Nat) (l : List Nd) (h : 3 ≤ l.length) : cK D l 0 + cK D l 1 + cK D l (l.length - 1) ≤ cL D l := by
 rcases l with _ | ⟨a, l⟩
 ·simp at h
 ·simp only [List.length_cons] at h ⊢
  have := aGt D l 0 (by omega)
  rw [show l.length + 1 - 1 = (l.length - 1) + 1 by omega]
  simp only [cK, List.getElem?_cons_zero, List.getElem?_cons_succ, cL] at this ⊢
  omega
theorem vC (D : Nat) (t : Nd) (i : Nat) : cL D (aW t i).kids + 1 ≤ cK D t.kids i := by
 unfold aW cK
 rw [List.getD_eq_getElem?_getD]
 cases h : t.kids[i]? with
 | none => simp [kW, Nd.kids, cL]
 | some u => simp only [Option.getD_some]; rw [pI]; omega

def Ft (t : Nd) : Prop := ∃ m, Tr m t
def FtL (l : List Nd) : Prop := ∀ t ∈ l, Ft t
theorem Ft.gd {t : Nd} : Ft t → Fit t.kind t.text t.num t.kids := fun ⟨_, h⟩ => h.gd
theorem Ft.kids {t : Nd} : Ft t → FtL t.kids := fun ⟨_, h⟩ u hu => ⟨_, h.kids u hu⟩
theorem aLc {m : Int} (h : 0 ≤ m) : Tr m kW := .of (l0 (by decide) (by decide)) (by decide) h .nil
theorem aJ3 : Ft kW := ⟨0, aLc (by decide)⟩
theorem Ft.eF {t : Nd} (h : Ft t) (i : Nat) : Ft (aW t i) := by
 by_cases hi : i < t.kids.length
 ·exact h.kids _ (aEg hi)
 ·rw [gA hi]; exact aJ3
theorem FtL.take {l : List Nd} (h : FtL l) (n : Nat) : FtL (l.take n) := fun t ht => h t (List.mem_of_mem_take ht)
theorem FtL.drop {l : List Nd} (h : FtL l) (n : Nat) : FtL (l.drop n) := fun t ht => h t (List.mem_of_mem_drop ht)

def CF (D : Nat) (f : Nd → ByteArray → ByteArray) : Prop := (∀ X, (f kW X).size ≤ X.size + 1) ∧ ∀ t X, Ft t → (f t X).size ≤ X.size + cN D t
theorem CF.eF {D : Nat} {f : Nd → ByteArray → ByteArray} (c : CF D f) {t : Nd} (h : Ft t) {i : Nat} {X : ByteArray} {m : Nat} (hX : X.size ≤ m) : (f (aW t i) X).size ≤ m + cK D t.kids i := by
 unfold cK aW
 rw [List.getD_eq_getElem?_getD]
 cases hk : t.kids[i]? with
 | none => have := c.1 X; simp only [Option.getD_none]; omega
 | some u => have := c.2 u X (h.kids _ (List.mem_of_getElem? hk)); simp only [Option.getD_some]; omega
theorem CF.list {D : Nat} {f : Nd → ByteArray → ByteArray} (c : ∀ t X, Ft t → (f t X).size ≤ X.size + (cN D t + 90)) : ∀ {l : List Nd} {b : Bool} {X : ByteArray} {m : Nat}, FtL l → X.size ≤ m → (kY f b l X).size ≤ m + cL D l
 | [], _, _, _, _, h => by simp only [kY, cL]; omega
 | t :: l, b, X, m, ht, h => by
  unfold kY
  have h1 : (if b then X else X ++ (⟨#[44, 32]⟩ :ByteArray)).size ≤ m + 2 := by
   split
   ·omega
   ·rw [ByteArray.size_append]; show X.size + 2 ≤ _; omega
  have h2 := c t (if b then X else X ++ (⟨#[44, 32]⟩ :ByteArray)) (ht t List.mem_cons_self)
  have h3 := CF.list c (l := l) (b := false) (X := f t (if b then X else X ++ (⟨#[44, 32]⟩ :ByteArray))) (fun u hu => ht u (List.mem_cons_of_mem _ hu)) (Nat.le_refl _)
  simp only [cL]
  omega
theorem CF.l {D : Nat} {f : Nd → ByteArray → ByteArray} (c : CF D f) {l : List Nd} {X : ByteArray} {m : Nat} (h : FtL l) (hX : X.size ≤ m) : (fR f l X).size ≤ m + cL D l := CF.list (fun t X ht => by have := c.2 t X ht; omega) h hX
theorem uY {c : Prop} [Decidable c] {A B : ByteArray} {m : Nat} (h1 : c → A.size ≤ m) (h2 : ¬ c → B.size ≤ m) : (if c then A else B).size ≤ m := by
 by_cases hc : c
 ·rw [if_pos hc]; exact h1 hc
 ·rw [if_neg hc]; exact h2 hc
theorem CF.lp {D : Nat} {f : Nd → ByteArray → ByteArray} (c : ∀ t X, Ft t → (f t X).size ≤ X.size + (cN D t + 90)) {l : List Nd} {X : ByteArray} {m : Nat} (h : FtL l) (hX : X.size ≤ m) : (fR f l X).size ≤ m + cL D l := CF.list c h hX
theorem c7 {X l : ByteArray} {m : Nat} (h : X.size ≤ m) : (X ++ l).size ≤ m + l.size := by rw [ByteArray.size_append]; omega
theorem uA {X : ByteArray} {m D : Nat} {d : Int} (hd : d.toNat ≤ D) (h : X.size ≤ m) : (X ++ fU d).size ≤ m + D := by
 rw [ByteArray.size_append]
 have : (fU d).size = d.toNat := by unfold fU; show (Lib.repeatL [(9 : UInt8)] d.toNat).toArray.size = _; simp [Lib.repeatL_length]
 omega
theorem aDv {D : Nat} {f : Nd → ByteArray → ByteArray} (c : CF D f) {t : Nd} (h : Ft t) {i : Nat} {X : ByteArray} {m : Nat} (hX : X.size ≤ m) : (hJ f (aW t i) X).size ≤ m + cK D t.kids i := by
 unfold hJ
 split
 ·omega
 ·exact c.eF h hX
theorem aJc {D : Nat} {f : Nd → ByteArray → ByteArray} (c : CF D f) {w : ByteArray} {t : Nd} (h : Ft t) {i : Nat} {X : ByteArray} {m : Nat} (hX : X.size ≤ m) : (mT f w (aW t i) X).size ≤ m + w.size + 1 + cK D t.kids i := by
 unfold mT
 split
 ·have := c7 (l := w) hX; omega
 ·exact c.eF h (c7 (c7 hX))

structure lT (D n : Nat) (r : Pr) : Prop where
 cD : CF D r.cD
 expr : ∀ d : Int, d.toNat + n ≤ D → CF D (r.expr d)
 stmt : ∀ d : Int, d.toNat + n ≤ D → CF D (r.stmt d)

section
variable {D n : Nat} {r : Pr}
theorem Ft.txt {t : Nd} (h : Ft t) : t.text.size ≤ 1000 := h.gd.sz
theorem aQj (c : lT D n r) {t : Nd} {X : ByteArray} (h : Ft t) : (xK r t X).size ≤ X.size + cN D t := by
 have h1 := h.txt
 have h4 := vY D t.kids
 have hl := y7 D t.kids
 have hn := pI D t
 unfold xK
 dsimp only
 repeat' (with_reducible refine uY (fun _ => ?_) (fun _ => ?_))
 all_goals (apply Nat.le_trans; (· repeat (with_reducible first | apply c.cD.eF h | apply c.cD.l (h.kids.take _) | apply c7 | exact Nat.le_refl _)); (· simp only [ByteArray.size, List.size_toArray, List.length_cons, List.length_nil] at *; omega))
theorem aAg (c : lT D n r) {t : Nd} {X : ByteArray} {m : Nat} (h : Ft t) (hX : X.size ≤ m) : (eJ r t X).size ≤ m + (cK D t.kids 0 + 1001) := by
 have h1 := h.txt
 unfold eJ
 have h2 := c.cD.eF h (i := 0) (c7 (l := (⟨#[32]⟩ :ByteArray)) (c7 (l := t.text) hX))
 have h3 : ((⟨#[32]⟩ :ByteArray)).size = 1 := rfl
 omega
theorem aCi (c : lT D n r) (t : Nd) (X : ByteArray) (h : Ft t) : (eJ r t X).size ≤ X.size + (cN D t + 90) := by
 have h1 := aAg c h (Nat.le_refl X.size)
 have h2 := vY D t.kids
 have h3 := pI D t
 omega
theorem y0 (c : lT D n r) {d : Int} (hd : d.toNat + n ≤ D) : ∀ {l : List Nd} {X : ByteArray} {m : Nat}, FtL l → X.size ≤ m → (fT r d l X).size ≤ m + cL D l
 | [], _, _, _, h => by simp only [fT, cL]; omega
 | t :: l, X, m, ht, h => by
  unfold fT
  have h2 := (c.stmt d hd).2 t (X ++ fU d) (ht t List.mem_cons_self)
  have h0 := uA (show d.toNat ≤ D by omega) h
  have h3 := y0 c hd (l := l) (X := r.stmt d t (X ++ fU d) ++ (⟨#[10]⟩ :ByteArray)) (fun u hu => ht u (List.mem_cons_of_mem _ hu)) (c7 (Nat.le_refl _))
  have h4 : ((⟨#[10]⟩ :ByteArray)).size = 1 := rfl
  simp only [cL]
  omega
theorem aDr (d : Int) : (d + 1).toNat ≤ d.toNat + 1 := by omega
theorem aAh (c : lT D n r) {d : Int} (hd : d.toNat + (n + 1) ≤ D) {l : List Nd} {X : ByteArray} {m : Nat} (h : FtL l) (hX : X.size ≤ m) : (lF r d l X).size ≤ m + cL D l := by
 have := aDr d
 exact y0 c (by omega) h hX
theorem vO (c : lT D n r) {d : Int} (hd : d.toNat + (n + 1) ≤ D) {t : Nd} {i : Nat} {X : ByteArray} {m : Nat} (h : Ft t) (hX : X.size ≤ m) : (eX r d (aW t i) X).size ≤ m + (cK D t.kids i + D + 10) := by
 have h1 := vC D t i
 unfold eX
 split
 ·have h2 := c7 (l := (⟨#[125]⟩ :ByteArray)) (uA (show d.toNat ≤ D by omega) (aAh c hd (h.eF i).kids (c7 (l := (⟨#[123, 10]⟩ :ByteArray)) hX)))
  have h3 : ((⟨#[123, 10]⟩ :ByteArray)).size = 2 := rfl
  have h4 : ((⟨#[125]⟩ :ByteArray)).size = 1 := rfl
  omega
 ·have h2 := c7 (l := (⟨#[63]⟩ :ByteArray)) hX
  have h3 : ((⟨#[63]⟩ :ByteArray)).size = 1 := rfl
  omega
theorem aI9 (c : lT D n r) {d : Int} (hd : d.toNat + (n + 1) ≤ D) {t : Nd} {X : ByteArray} (h : Ft t) : (eX r d t X).size ≤ X.size + (cL D t.kids + D + 10) := by
 unfold eX
 split
 ·have h2 := c7 (l := (⟨#[125]⟩ :ByteArray)) (uA (show d.toNat ≤ D by omega) (aAh c hd h.kids (c7 (l := (⟨#[123, 10]⟩ :ByteArray)) (Nat.le_refl X.size))))
  have h3 : ((⟨#[123, 10]⟩ :ByteArray)).size = 2 := rfl
  have h4 : ((⟨#[125]⟩ :ByteArray)).size = 1 := rfl
  omega
 ·have h2 := c7 (l := (⟨#[63]⟩ :ByteArray)) (Nat.le_refl X.size)
  have h3 : ((⟨#[63]⟩ :ByteArray)).size = 1 := rfl
  omega
theorem xM (c : lT D n r) {d : Int} (hd : d.toNat + (n + 1) ≤ D) {t : Nd} {X : ByteArray} {m : Nat} (h : Ft t) (hX : X.size ≤ m) : (dK r d t X).size ≤ m + (cL D t.kids + D + 100) := by
 have h4 := vY D t.kids
 have h5 := vC D t 0
 unfold dK
 dsimp only
 have h6 := c7 (l := (⟨#[41, 32]⟩ :ByteArray)) (CF.list (aCi c) (b := true) (h.eF 0).kids (c7 (l := (⟨#[40]⟩ :ByteArray)) hX))
 have h7 := c7 (l := (⟨#[32]⟩ :ByteArray)) (c.cD.eF h (i := 1) h6)
 have h8 : ((⟨#[41, 32]⟩ :ByteArray)).size = 2 := rfl
 have h9 : ((⟨#[40]⟩ :ByteArray)).size = 1 := rfl
 have h10 : ((⟨#[32]⟩ :ByteArray)).size = 1 := rfl
 rw [h8, h9] at h6 h7
 rw [h10] at h7
 split
 ·have := vO c hd (i := 2) h h6
  unfold fR
  omega
 ·have := vO c hd (i := 2) h h7
  unfold fR
  omega
theorem aAf (c : lT D n r) {d : Int} (hd : d.toNat + n ≤ D) {t : Nd} {s X : ByteArray} {m : Nat} (h : Ft t) (hX : X.size ≤ m) : (jY r d t s X).size ≤ m + cK D t.kids 0 + s.size + cK D t.kids 1 :=
 (c.expr d hd).eF h (c7 ((c.expr d hd).eF h hX))
theorem aOf (c : lT D n r) {d : Int} (hd : d.toNat + (n + 1) ≤ D) {t : Nd} {X : ByteArray} (h : Ft t) : (pU r d t X).size ≤ X.size + (cL D t.kids + D + 100) := by
 have h4 := vY D t.kids
 have hd' : d.toNat + n ≤ D := by omega
 have ce := c.expr d hd'
 have cs := c.stmt d hd'
 unfold pU
 dsimp only
 refine Nat.le_trans (m := ?m) ?a ?b
 case a =>
  refine vO c hd h (m := X.size + 20 + cK D t.kids 0 + cK D t.kids 1 + cK D t.kids 2) ?_
  repeat' (with_reducible refine uY (fun _ => ?_) (fun _ => ?_))
  all_goals (apply Nat.le_trans; (· repeat (with_reducible first | apply ce.eF h | apply aDv ce h | apply aDv cs h | apply c7 | exact Nat.le_refl _)); (· simp only [ByteArray.size, List.size_toArray, List.length_cons, List.length_nil] at *; omega))
 case b => omega
theorem aOe (c : lT D n r) {d : Int} (hd : d.toNat + n ≤ D) {t : Nd} {X : ByteArray} (h : Ft t) : (qY r d t X).size + cK D t.kids (t.kids.length - 1) ≤ X.size + (cL D t.kids + 2000) := by
 have hl := y7 D t.kids
 have ce := c.expr d hd
 have h0 := (h.eF 0).txt
 unfold qY
 split
 ·have := ce.l (h.kids.take (t.kids.length - 1)) (c7 (l := (⟨#[99, 97, 115, 101, 32]⟩ :ByteArray)) (Nat.le_refl X.size))
  have h1 : ((⟨#[99, 97, 115, 101, 32]⟩ :ByteArray)).size = 5 := rfl
  omega
 split
 ·rename_i h2
  have h3 := h.gd.recv h2.1 h2.2
  have h4 := aGt D t.kids (t.kids.length - 1 - 1) (by omega)
  refine Nat.le_trans (Nat.add_le_add_right (m := ?m) ?a _) ?b
  case a =>
   refine ce.eF h (c7 (m := X.size + 1010) ?_)
   split
   all_goals (apply Nat.le_trans; (· repeat (with_reducible first | apply c7 | exact Nat.le_refl _)); (· simp only [ByteArray.size, List.size_toArray, List.length_cons, List.length_nil] at *; omega))
  case b => (simp only [ByteArray.size, List.size_toArray, List.length_cons, List.length_nil] at *; omega)
 split
 ·rename_i h2
  have h3 := h.gd.send h2.1 h2.2
  have h4 := aOp D t.kids h3
  have h5 := aAf c hd (s := (⟨#[32, 60, 45, 32]⟩ :ByteArray)) h (c7 (l := (⟨#[99, 97, 115, 101, 32]⟩ :ByteArray)) (Nat.le_refl X.size))
  have h6 : ((⟨#[99, 97, 115, 101, 32]⟩ :ByteArray)).size = 5 := rfl
  have h7 : ((⟨#[32, 60, 45, 32]⟩ :ByteArray)).size = 4 := rfl
  omega
 ·have := c7 (l := (⟨#[100, 101, 102, 97, 117, 108, 116]⟩ :ByteArray)) (Nat.le_refl X.size)
  have h1 : ((⟨#[100, 101, 102, 97, 117, 108, 116]⟩ :ByteArray)).size = 7 := rfl
  omega
theorem qF (c : lT D n r) {d : Int} (hd : d.toNat + (n + 1) ≤ D) : ∀ {l : List Nd} {X : ByteArray} {m : Nat}, FtL l → X.size ≤ m → (dP r d l X).size ≤ m + cL D l
 | [], _, _, _, h => by simp only [dP, cL]; omega
 | t :: l, X, m, ht, h => by
  unfold dP
  have htt := ht t List.mem_cons_self
  have h1 := aOe c (X := X ++ fU d) (show d.toNat + n ≤ D by omega) htt
  have h2 := uA (show d.toNat ≤ D by omega) h
  have h3 := aAh c hd (htt.eF (t.kids.length - 1)).kids (c7 (l := (⟨#[58, 10]⟩ :ByteArray)) (Nat.le_refl (qY r d t (X ++ fU d)).size))
  have h4 := vC D t (t.kids.length - 1)
  have h5 := qF c hd (l := l) (fun u hu => ht u (List.mem_cons_of_mem _ hu)) h3
  have h6 : ((⟨#[58, 10]⟩ :ByteArray)).size = 2 := rfl
  have h7 := pI D t
  simp only [cL]
  omega
theorem aF7 (c : lT D n r) {d : Int} (hd : d.toNat + (n + 1) ≤ D) {t : Nd} {X : ByteArray} (h : Ft t) : (fO r d t X).size ≤ X.size + (cL D t.kids + D + 100) := by
 unfold fO
 dsimp only
 have hdr := y6 D t.kids
 have h4 : ((⟨#[32, 123, 10]⟩ :ByteArray)).size = 3 := rfl
 have h5 : ((⟨#[125]⟩ :ByteArray)).size = 1 := rfl
 have h6 : ((⟨#[115, 119, 105, 116, 99, 104]⟩ :ByteArray)).size = 6 := rfl
 have h7 : ((⟨#[115, 101, 108, 101, 99, 116]⟩ :ByteArray)).size = 6 := rfl
 split
 ·have h1 := aJc (c.expr d (by omega)) (w := (⟨#[115, 119, 105, 116, 99, 104]⟩ :ByteArray)) h (i := 0) (Nat.le_refl X.size)
  have h2 := c7 (l := (⟨#[125]⟩ :ByteArray)) (uA (d := d) (show d.toNat ≤ D by omega) (qF c hd (h.kids.drop 1) (c7 (l := (⟨#[32, 123, 10]⟩ :ByteArray)) h1)))
  omega
 ·have h2 := c7 (l := (⟨#[125]⟩ :ByteArray)) (uA (d := d) (show d.toNat ≤ D by omega) (qF c hd h.kids (c7 (l := (⟨#[32, 123, 10]⟩ :ByteArray)) (c7 (l := (⟨#[115, 101, 108, 101, 99, 116]⟩ :ByteArray)) (Nat.le_refl X.size)))))
  omega
theorem aLk (c : lT D n r) {d : Int} (hd : d.toNat + n ≤ D) {t : Nd} {X : ByteArray} (h : Ft t) : (jW r d t X).size ≤ X.size + cN D t := by
 have h1 := h.txt
 have h0 := (h.eF 0).txt
 have h4 := vY D t.kids
 have h5 := vY D (aW t 0).kids
 have h6 := vC D t 0
 have hn := pI D t
 have ce := c.expr d hd
 unfold jW
 dsimp only
 repeat' (with_reducible refine uY (fun _ => ?_) (fun _ => ?_))
 all_goals (apply Nat.le_trans; (· repeat (with_reducible first | apply ce.eF h | apply ce.eF (h.eF 0) | apply aJc ce h | apply aAf c hd h | apply c7 | exact Nat.le_refl _)); (· simp only [ByteArray.size, List.size_toArray, List.length_cons, List.length_nil] at *; omega))
theorem aOg (c : lT D n r) {d : Int} (hd : d.toNat + (n + 1) ≤ D) {t : Nd} {X : ByteArray} (h : Ft t) : (p6 r d t X).size ≤ X.size + cN D t := by
 have h1 := h.txt
 have h4 := vY D t.kids
 have hn := pI D t
 have hd' : d.toNat + n ≤ D := by omega
 have ce := c.expr d hd'
 have cs := c.stmt d hd'
 have hb := aI9 c hd (X := X) h
 have hlp := aOf c hd (X := X) h
 have hcl := aF7 c hd (X := X) h
 have hsm := aLk c hd' (X := X) h
 have hsz : ((⟨#[32]⟩ :ByteArray) ++ t.text ++ (⟨#[32]⟩ :ByteArray)).size = t.text.size + 2 := by rw [ByteArray.size_append, ByteArray.size_append]; show 1 + t.text.size + 1 = _; omega
 unfold p6
 dsimp only
 repeat' (with_reducible refine uY (fun _ => ?_) (fun _ => ?_))
 all_goals first | omega | skip
 all_goals (apply Nat.le_trans; (· repeat (with_reducible first | apply ce.eF h | apply cs.eF h | apply vO c hd h | apply aAg c h | apply aAf c hd' h | apply c7 | exact Nat.le_refl _)); (· (try rw [hsz]); clear hb hlp hcl hsm hsz; simp only [ByteArray.size, List.size_toArray, List.length_cons, List.length_nil] at *; omega))
theorem aF6 (c : lT D n r) {d : Int} (hd : d.toNat + n ≤ D) {t : Nd} {X : ByteArray} (h : Ft t) : (gJ r d t X).size ≤ X.size + cN D t := by
 have h1 := h.txt
 have h0 := (h.eF 0).txt
 have h4 := vY D t.kids
 have hn := pI D t
 have ce := c.expr d hd
 unfold gJ
 dsimp only
 rw [ByteArray.size_append]
 show _ + 1 ≤ _
 suffices hsu : _ ≤ X.size + (cN D t - 1) from Nat.le_trans (Nat.add_le_add_right hsu 1) (by omega)
 repeat' (with_reducible refine uY (fun _ => ?_) (fun _ => ?_))
 all_goals (apply Nat.le_trans; (· repeat (with_reducible first | apply ce.eF h | apply c.cD.eF h | apply ce.l h.kids | apply c7 | exact Nat.le_refl _)); (· simp only [ByteArray.size, List.size_toArray, List.length_cons, List.length_nil] at *; omega))
theorem aJa (c : lT D n r) {d : Int} (hd : d.toNat + n ≤ D) (t : Nd) (X : ByteArray) (h : Ft t) : (nB r d t X).size ≤ X.size + (cN D t + 90) := by
 have h1 := h.txt
 have h4 := vY D t.kids
 have hn := pI D t
 unfold nB
 have h2 := (c.expr d hd).eF h (i := 0) (c7 (l := (⟨#[58, 32]⟩ :ByteArray)) (c7 (l := t.text) (Nat.le_refl X.size)))
 have h3 : ((⟨#[58, 32]⟩ :ByteArray)).size = 2 := rfl
 omega
theorem aF8 (c : lT D n r) {d : Int} (hd : d.toNat + n ≤ D) {t : Nd} {X : ByteArray} (h : Ft t) : (fS r d t X).size ≤ X.size + cN D t := by
 have h1 := h.txt
 have h4 := y6 D t.kids
 have hn := pI D t
 have ce := c.expr d hd
 unfold fS
 repeat' (with_reducible refine uY (fun _ => ?_) (fun _ => ?_))
 all_goals (apply Nat.le_trans; (· repeat (with_reducible first | apply c.cD.eF h | apply ce.l (h.kids.drop 1) | apply CF.lp (aJa c hd) h.kids | apply c7 | exact Nat.le_refl _)); (· simp only [ByteArray.size, List.size_toArray, List.length_cons, List.length_nil] at *; omega))
theorem aAu : ∀ (k n : Nat), n < 10 ^ (k + 1) → (Lib.decDigits n).length ≤ k + 1
 | 0, n, h => by
  unfold Lib.decDigits
  rw [dif_pos (by simpa using h)]
  exact Nat.le_refl _
 | k + 1, n, h => by
  unfold Lib.decDigits
  split
  ·simp
  ·have := aAu k (n / 10) (by rw [Nat.pow_succ] at h; omega)
   simp only [List.length_append, List.length_singleton]
   omega
theorem aJs {n : Int} (h : 0 ≤ n ∧ n < 1000000000000000000) : (xY n).size ≤ 18 := by
 have := aAu 17 n.toNat (by show n.toNat < 1000000000000000000; omega)
 unfold xY Lib.itoa
 rw [if_neg (by omega)]
 show (Lib.decDigits n.toNat).toArray.size ≤ 18
 simp only [List.size_toArray]
 exact this
theorem aIg (b : UInt8) : (nY b).length ≤ 2 := by
 unfold nY
 by_cases h1 : b = 10
 ·rw [if_pos h1]; decide
 rw [if_neg h1]
 by_cases h2 : b = 34
 ·rw [if_pos h2]; decide
 rw [if_neg h2]
 by_cases h3 : b = 92
 ·rw [if_pos h3]; decide
 ·rw [if_neg h3]; exact (by decide : 1 ≤ 2)
theorem aEq : ∀ l : List UInt8, (l.flatMap nY).length ≤ 2 * l.length
 | [] => by simp
 | b :: l => by
  have := aIg b
  have := aEq l
  simp only [List.flatMap_cons, List.length_append, List.length_cons]
  omega
theorem aK2 (s : ByteArray) : (sR s).size ≤ 2 * s.size := by
 have := aEq s.data.toList
 unfold sR
 show (s.data.toList.flatMap nY).toArray.size ≤ 2 * s.data.size
 simpa using this
theorem aOd (c : lT D n r) {d : Int} (hd : d.toNat + (n + 1) ≤ D) {t : Nd} {X : ByteArray} (h : Ft t) : (pN r d t X).size ≤ X.size + cN D t := by
 have h1 := h.txt
 have h4 := vY D t.kids
 have h5 := y6 D t.kids
 have hn := pI D t
 have hd' : d.toNat + n ≤ D := by omega
 have ce := c.expr d hd'
 have hbu := aF6 c hd' (X := X) h
 have hli := aF8 c hd' (X := X) h
 have hdg := aJs h.gd.num
 have hqu := aK2 t.text
 have hsz : ((⟨#[32]⟩ :ByteArray) ++ t.text ++ (⟨#[32]⟩ :ByteArray)).size = t.text.size + 2 := by rw [ByteArray.size_append, ByteArray.size_append]; show 1 + t.text.size + 1 = _; omega
 unfold pN
 repeat' (with_reducible refine uY (fun _ => ?_) (fun _ => ?_))
 all_goals first | omega | skip
 all_goals (apply Nat.le_trans; (· repeat (with_reducible first | apply ce.eF h | apply aAf c hd' h | apply ce.l (h.kids.drop 1) | apply aDv ce h | apply xM c hd h | apply c7 | exact Nat.le_refl _)); (· (try rw [hsz]); clear hbu hli hsz; simp only [ByteArray.size, List.size_toArray, List.length_cons, List.length_nil] at *; omega))
end
theorem aL9 : ∀ {n : Nat} (D : Nat), lT D n (prN n)
 | 0, D =>
  have h : CF D fun _ a => a := ⟨fun X => Nat.le_add_right _ _, fun t X _ => Nat.le_add_right _ _⟩
  ⟨h, fun _ _ => h, fun _ _ => h⟩
 | n + 1, D =>
  have c := aL9 (n := n) D
  ⟨⟨fun X => c7 (l := (⟨#[63]⟩ :ByteArray)) (Nat.le_refl _), fun t X h => aQj c h⟩, fun d hd => ⟨fun X => c7 (l := (⟨#[63]⟩ :ByteArray)) (Nat.le_refl _), fun t X h => aOd c hd h⟩, fun d hd => ⟨fun X => c7 (l := (⟨#[63]⟩ :ByteArray)) (Nat.le_refl _), fun t X h => aOg c hd h⟩⟩
theorem aCh {D n : Nat} {r : Pr} (c : lT D n r) : ∀ {l : List Nd} {X : ByteArray} {m : Nat}, FtL l → X.size ≤ m → (eT r l X).size ≤ m + cL D l
 | [], _, _, _, h => by simp only [eT, cL]; omega
 | t :: l, X, m, ht, h => by
  unfold eT
  have h2 := aCi c t (X ++ (⟨#[9]⟩ :ByteArray)) (ht t List.mem_cons_self)
  have h0 := c7 (l := (⟨#[9]⟩ :ByteArray)) h
  have h3 := aCh c (l := l) (X := eJ r t (X ++ (⟨#[9]⟩ :ByteArray)) ++ (⟨#[10]⟩ :ByteArray)) (fun u hu => ht u (List.mem_cons_of_mem _ hu)) (c7 (Nat.le_refl _))
  have h4 : ((⟨#[10]⟩ :ByteArray)).size = 1 := rfl
  have h5 : ((⟨#[9]⟩ :ByteArray)).size = 1 := rfl
  simp only [cL]
  omega
theorem aOc {D n : Nat} {r : Pr} (c : lT D n r) (hd : n + 1 ≤ D) {t : Nd} {X : ByteArray} (h : Ft t) : (qS r t X).size ≤ X.size + cN D t := by
 have h1 := h.txt
 have h4 := vY D t.kids
 have hn := pI D t
 have hd0 : (0 : Int).toNat + (n + 1) ≤ D := by simpa using hd
 unfold qS
 rw [ByteArray.size_append]
 show _ + 1 ≤ _
 suffices hsu : _ ≤ X.size + (cN D t - 1) from Nat.le_trans (Nat.add_le_add_right hsu 1) (by omega)
 repeat' (with_reducible refine uY (fun _ => ?_) (fun _ => ?_))
 all_goals (apply Nat.le_trans; (· repeat (with_reducible first | apply aCh c h.kids | apply aAg c h | apply xM c hd0 h | apply c7 | exact Nat.le_refl _)); (· simp only [ByteArray.size, List.size_toArray, List.length_cons, List.length_nil] at *; omega))
theorem aJb {D n : Nat} {r : Pr} (c : lT D n r) (hd : n + 1 ≤ D) : ∀ {l : List Nd} {X : ByteArray} {m : Nat}, FtL l → X.size ≤ m → (eZ r l X).size ≤ m + cL D l
 | [], _, _, _, h => by simp only [eZ, cL]; omega
 | t :: l, X, m, ht, h => by
  unfold eZ
  have h2 := aOc c hd (X := X) (ht t List.mem_cons_self)
  have h3 := aJb c hd (l := l) (X := qS r t X) (fun u hu => ht u (List.mem_cons_of_mem _ hu)) (Nat.le_refl _)
  simp only [cL]
  omega
theorem aEd {t : Nd} (h : Ft t) (hw : jH t ≤ 50000) : (qV 60000 t).size ≤ 1000000000000 := by
 have h1 := aJb (aL9 (n := 60000) 60001) (Nat.le_refl _) (l := t.kids) (X := (⟨#[]⟩ :ByteArray)) (m := 0) h.kids (Nat.le_refl _)
 have h2 := aGu 60001 t.kids
 have h3 := mC t
 have h4 : lG t.kids * (6000 + 20 * 60001) ≤ 50000 * (6000 + 20 * 60001) := Nat.mul_le_mul_right _ (by omega)
 unfold qV
 omega

def oP (o : Option Bool) (c : UInt8) : Option Bool := match o with
 | none => none
 | some b => if c = 10 then (if b then some false else none) else if c = 32 ∨ c = 9 then some false else some true
def S0 (a : ByteArray) : Option Bool := a.data.toList.foldl oP (some false)
def Hd (a : ByteArray) : Prop := ∃ c l, a.data.toList = c :: l ∧ c ≠ 32 ∧ c ≠ 9
theorem Hd.app {a : ByteArray} (h : Hd a) (b : ByteArray) : Hd (a ++ b) := by
 obtain ⟨c, l, h, hc⟩ := h
 exact ⟨c, l ++ b.data.toList, by rw [ByteArray.data_append, Array.toList_append, h]; rfl, hc⟩
def NB (a : ByteArray) : Prop := Hd a ∧ ∃ b, S0 a = some b
def TB (a : ByteArray) : Prop := Hd a ∧ S0 a = some true
def Fw (n : Nat) (t : Nd) : Prop := Ft t ∧ Fu n t
def Sf (n : Nat) (t : Nd) : Prop := Ft t ∧ jH t ≤ n
theorem Sf.eF {n : Nat} {t : Nd} (w : Sf n t) (i : Nat) : Fw n (aW t i) := by
 refine ⟨w.1.eF i, ?_⟩
 have h1 := w.2
 have h2 := oU t
 by_cases hi : i < t.kids.length
 ·have := mO hi
  exact .of (by omega)
 ·rw [gA hi]; exact .zero (by omega)
theorem Sf.self {n : Nat} {t : Nd} (w : Sf n t) (i : Nat) : Sf n (aW t i) := by
 refine ⟨w.1.eF i, ?_⟩
 have h1 := w.2
 have h2 := oU t
 by_cases hi : i < t.kids.length
 ·have := mO hi
  omega
 ·rw [gA hi]
  have : jH kW = 1 := by simp [kW, jH, lG]
  omega
theorem Sf.mem {n : Nat} {t u : Nd} (w : Sf n t) (hu : u ∈ t.kids) : Sf n u ∧ Fw n u := by
 have h1 := w.2
 have h2 := qO hu
 rw [mC] at h1
 exact ⟨⟨w.1.kids u hu, by omega⟩, w.1.kids u hu, .of (by omega)⟩
theorem Sf.o9 {n : Nat} {t : Nd} (w : Sf n t) (hk : t.kind ≠ 37) : o9 t.text = true := w.1.gd.o9 hk
theorem Sf.of {n : Nat} {t : Nd} (w : Fw (n + 1) t) (hk : t.kind ≠ 0) : Sf n t := ⟨w.1, by have := w.2.2 hk; omega⟩

structure mW (n : Nat) (r : Pr) : Prop where
 cD : ∀ {t X}, Fw n t → NB X → TB (r.cD t X)
 expr : ∀ {d t X}, Fw n t → NB X → TB (r.expr d t X)
 stmt : ∀ {d t X}, Fw n t → NB X → TB (r.stmt d t X)
section
variable {n : Nat} {r : Pr}
end
section
variable {n : Nat} {r : Pr}
end
theorem aRg (t : Nd) : (aGj t).kind = t.kind := by cases t; simp only [aGj, Nd.kind]
theorem aRj (t : Nd) : (aGj t).text = t.text := by cases t; simp only [aGj, Nd.text]
theorem aRo (t : Nd) : (aGj t).num = t.num := by cases t; simp only [aGj, Nd.num]
theorem aRh (t : Nd) : (aGj t).kids = t.kids.map aGj := by cases t; simp only [aGj, Nd.kids]
theorem aSh : aGj kW = kW := by simp only [kW, aGj, List.map_nil]
theorem aRi (t : Nd) (i : Nat) : aW (aGj t) i = aGj (aW t i) := by
 unfold aW
 rw [aRh, List.getD_eq_getElem?_getD, List.getD_eq_getElem?_getD, List.getElem?_map]
 cases t.kids[i]? with
 | none => exact aSh.symm
 | some u => rfl
theorem aRn (t : Nd) : (aGj t).kids.length = t.kids.length := by rw [aRh, List.length_map]

theorem aSm {f g : Nd → ByteArray → ByteArray} (c : ∀ t X, f (aGj t) X = g t X) : ∀ (l : List Nd) (b : Bool) (X : ByteArray), kY f b (l.map aGj) X = kY g b l X
 | [], _, _ => rfl
 | t :: l, b, X => by simp only [List.map_cons, kY, c]; exact aSm c l _ _
theorem aRk {f g : Nd → ByteArray → ByteArray} (c : ∀ t X, f (aGj t) X = g t X) (l : List Nd) (X : ByteArray) : fR f (l.map aGj) X = fR g l X := aSm c l _ X

structure aRl (r : Pr) : Prop where
 cD : ∀ t X, r.cD (aGj t) X = r.cD t X
 expr : ∀ d t X, r.expr d (aGj t) X = r.expr d t X
 stmt : ∀ d t X, r.stmt d (aGj t) X = r.stmt d t X
section
variable {r : Pr}
theorem aS2 (c : aRl r) (t : Nd) (X : ByteArray) : xK r (aGj t) X = xK r t X := by
 unfold xK
 simp only [aRg, aRj, aRo, aRi, aRn, aRh, ← List.map_take, ← List.map_drop, List.length_map, c.cD, c.expr, c.stmt, aRk c.cD, aRk (c.expr _)]
theorem aRq (c : aRl r) (t : Nd) (X : ByteArray) : eJ r (aGj t) X = eJ r t X := by
 unfold eJ
 simp only [aRg, aRj, aRo, aRi, aRn, aRh, ← List.map_take, ← List.map_drop, List.length_map, c.cD, c.expr, c.stmt, aRk c.cD, aRk (c.expr _)]
theorem aRt (c : aRl r) (d : Int) : ∀ (l : List Nd) (X : ByteArray), fT r d (l.map aGj) X = fT r d l X
 | [], _ => rfl
 | t :: l, X => by simp only [List.map_cons, fT, c.stmt]; exact aRt c d l _
theorem aR8 (c : aRl r) (d : Int) (l : List Nd) (X : ByteArray) : lF r d (l.map aGj) X = lF r d l X := aRt c _ l X
theorem aRu (c : aRl r) (d : Int) (t : Nd) (X : ByteArray) : eX r d (aGj t) X = eX r d t X := by
 unfold eX
 simp only [aRg, aRh, aR8 c]
theorem aRr (c : aRl r) (d : Int) (t : Nd) (X : ByteArray) : dK r d (aGj t) X = dK r d t X := by
 unfold dK
 simp only [aRi, aRg, aRh, aRu c, aRk (aRq c), c.cD]
theorem aRv (c : aRl r) (d : Int) (t : Nd) (s X : ByteArray) : jY r d (aGj t) s X = jY r d t s X := by
 unfold jY
 simp only [aRg, aRj, aRo, aRi, aRn, aRh, ← List.map_take, ← List.map_drop, List.length_map, c.cD, c.expr, c.stmt, aRk c.cD, aRk (c.expr _)]
theorem aR4 {f : Nd → ByteArray → ByteArray} (c : ∀ t X, f (aGj t) X = f t X) (t : Nd) (X : ByteArray) : hJ f (aGj t) X = hJ f t X := by
 unfold hJ
 simp only [aRg, c]
theorem aSn {f : Nd → ByteArray → ByteArray} (c : ∀ t X, f (aGj t) X = f t X) (w : ByteArray) (t : Nd) (X : ByteArray) : mT f w (aGj t) X = mT f w t X := by
 unfold mT
 simp only [aRg, c]
theorem aSy (c : aRl r) (d : Int) (t : Nd) (X : ByteArray) : pU r d (aGj t) X = pU r d t X := by
 unfold pU
 simp only [aRi, aRg, aRu c, aR4 (c.expr _), aR4 (c.stmt _), c.expr]
theorem aSx (c : aRl r) (d : Int) (t : Nd) (X : ByteArray) : qY r d (aGj t) X = qY r d t X := by
 unfold qY
 simp only [aRi, aRg, aRj, aRn, aRh, List.length_map, ← List.map_take, aRk (c.expr _), aRv c, c.expr]
theorem aRm (c : aRl r) (d : Int) : ∀ (l : List Nd) (X : ByteArray), dP r d (l.map aGj) X = dP r d l X
 | [], _ => rfl
 | t :: l, X => by simp only [List.map_cons, dP, aRi, aRh, List.length_map, aR8 c, aSx c]; exact aRm c d l _
theorem aSe (c : aRl r) (d : Int) (t : Nd) (X : ByteArray) : fO r d (aGj t) X = fO r d t X := by
 unfold fO
 by_cases h : t.kind = 23
 ·simp only [aRi, aRg, aRh, if_pos h, ← List.map_drop, aRm c, aSn (c.expr _)]
 ·simp only [aRi, aRg, aRh, if_neg h, aRm c]
theorem aSq (c : aRl r) (d : Int) (t : Nd) (X : ByteArray) : jW r d (aGj t) X = jW r d t X := by
 unfold jW
 simp only [aRi, aRg, aRj, aSn (c.expr _), aRv c, c.expr]
theorem aSz (c : aRl r) (d : Int) (t : Nd) (X : ByteArray) : p6 r d (aGj t) X = p6 r d t X := by
 unfold p6
 simp only [aRi, aRg, aRj, aRu c, aRq c, aRv c, aSy c, aSe c, aSq c, c.expr, c.stmt]
theorem aSd (c : aRl r) (d : Int) (t : Nd) (X : ByteArray) : gJ r d (aGj t) X = gJ r d t X := by
 unfold gJ
 simp only [aRi, aRj, aRh, List.length_map, aRk (c.expr _), c.expr, c.cD]
theorem aSp (c : aRl r) (d : Int) (t : Nd) (X : ByteArray) : nB r d (aGj t) X = nB r d t X := by
 unfold nB
 simp only [aRg, aRj, aRo, aRi, aRn, aRh, ← List.map_take, ← List.map_drop, List.length_map, c.cD, c.expr, c.stmt, aRk c.cD, aRk (c.expr _)]
theorem aSf (c : aRl r) (d : Int) (t : Nd) (X : ByteArray) : fS r d (aGj t) X = fS r d t X := by
 unfold fS
 simp only [aRi, aRg, aRj, aRh, ← List.map_drop, aRk (c.expr _), aRk (aSp c d), c.cD]
theorem aSw (c : aRl r) (d : Int) (t : Nd) (X : ByteArray) : pN r d (aGj t) X = pN r d t X := by
 unfold pN
 simp only [aRi, aRg, aRj, aRo, aRh, ← List.map_drop, aRk (c.expr _), aRv c, aSd c, aR4 (c.expr _), aRr c, aSf c, c.expr]
end
theorem aSb : ∀ n, aRl (prN n)
 | 0 => ⟨fun _ _ => rfl, fun _ _ _ => rfl, fun _ _ _ => rfl⟩
 | n + 1 => ⟨aS2 (aSb n), aSw (aSb n), aSz (aSb n)⟩
theorem aRz {r : Pr} (c : aRl r) : ∀ (l : List Nd) (X : ByteArray), eT r (l.map aGj) X = eT r l X
 | [], _ => rfl
 | t :: l, X => by simp only [List.map_cons, eT, aRq c]; exact aRz c l _
theorem aSv {r : Pr} (c : aRl r) (t : Nd) (X : ByteArray) : qS r (aGj t) X = qS r t X := by
 unfold qS
 simp only [aRg, aRj, aRh, aRz c, aRq c, aRr c]
theorem aSl {r : Pr} (c : aRl r) : ∀ (l : List Nd) (X : ByteArray), eZ r (l.map aGj) X = eZ r l X
 | [], _ => rfl
 | t :: l, X => by simp only [List.map_cons, eZ, aSv c]; exact aSl c l _
theorem aSi (n : Nat) (t : Nd) : qV n (aGj t) = qV n t := by
 unfold qV
 rw [aRh]
 exact aSl (aSb n) _ _
mutual
theorem aR9 : ∀ t : Nd, jH (aGj t) = jH t
 | .mk _ _ _ _ _ _ ks => by simp only [aGj, jH, aR0 ks]
theorem aR0 : ∀ l : List Nd, lG (l.map aGj) = lG l
 | [] => rfl
 | t :: l => by simp only [List.map_cons, lG, aR9 t, aR0 l]
end

end Go.Proofs.ZL
end
