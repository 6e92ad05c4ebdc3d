/- The printer, purely; what the parser makes is fit to be printed. -/
import Derived.Test.YtpdkdgfknanipaaGreatDoorYU1
import Derived.Test.YtpdkdgfknanipaaGreatDoorYU2
section
open Go Go.Am
namespace Go.Proofs.ZL
set_option maxRecDepth 100000
set_option linter.unusedSimpArgs false
set_option linter.unusedVariables false
set_option maxHeartbeats 4000000
variable {h : aA} {Q : bR → Prop} {L : List Tok} {p : Nat} {hd : Bool} {src : ByteArray}
def pA (x : ByteArray) : Int := if lR tS x then 1 else if lR qG x then -1 else 0
def qE (t : Tok) : Int := if t.kind = 4 ∨ t.kind = 5 then pA t.text else 0
def aU (L : List Tok) : Nat → Int
 | 0 => 0
 | k + 1 => aU L k + qE (aK L k)

def Opn (L : List Tok) (k0 : Nat) (b : Int) (q : Int) (s : St) : Prop := k0 ≤ s.k ∧ aU L s.k = q ∧ ∀ i, k0 ≤ i → i ≤ s.k → b ≤ aU L i
def xR {α : Type} (L : List Tok) (k0 : Nat) (b q : Int) (r : R α) : Prop := ∀ x s, r = .ok x s → Opn L k0 b q s
def Clo {α : Type} (L : List Tok) (s : St) (r : R α) : Prop := xR L s.k (aU L s.k) (aU L s.k) r

section
variable {α β : Type} {L : List Tok} {k0 : Nat} {b q q1 : Int} {s : St}
theorem Opn.refl (L : List Tok) (s : St) : Opn L s.k (aU L s.k) (aU L s.k) s := ⟨Nat.le_refl _, rfl, fun i h1 h2 => by rw [Nat.le_antisymm h1 h2]; exact Int.le_refl _⟩
theorem Opn.next (h : Opn L k0 b q s) {w : Int} (hw : qE (aK L s.k) = w) (hb : b ≤ q + w) : Opn L k0 b (q + w) s.next := by
 obtain ⟨h1, h2, h3⟩ := h
 have e : aU L (s.k + 1) = q + w := by rw [← h2, ← hw]; rfl
 refine ⟨Nat.le_succ_of_le h1, e, fun i hi hj => ?_⟩
 rcases Nat.lt_or_ge i (s.k + 1) with h | h
 ·exact h3 i hi (Nat.lt_succ_iff.1 h)
 ·rw [Nat.le_antisymm hj h]; show b ≤ aU L (s.k + 1); rw [e]; exact hb
theorem xR.then {r : R α} {f : α → St → R β} (h : xR L k0 b q1 r) (hk : ∀ x s, Opn L k0 b q1 s → xR L k0 b q (f x s)) : xR L k0 b q (r.then f) := by
 intro y s2 he
 cases hr : r with
 | ok x s => rw [hr] at he; exact hk x s (h x s hr) y s2 he
 | bad i => rw [hr] at he; cases he
 | out => rw [hr] at he; cases he
theorem xR.ite {c : Prop} [Decidable c] {A B : R α} (h1 : c → xR L k0 b q A) (h2 : ¬ c → xR L k0 b q B) : xR L k0 b q (if c then A else B) := by split <;> rename_i h; exact h1 h; exact h2 h
theorem xR.ok {x : α} (h : Opn L k0 b q s) : xR L k0 b q (.ok x s) := fun y s2 he => by cases he; exact h
theorem xR.fail : xR L k0 b q (fY L s : R α) := fun y s2 he => by cases he
theorem xR.out : xR L k0 b q (.out : R α) := fun y s2 he => by cases he
theorem Clo.use {r : R α} (h : Clo L s r) (ho : Opn L k0 b q s) (hb : b ≤ q) : xR L k0 b q r := by
 intro x s1 he
 obtain ⟨h1, h2, h3⟩ := h x s1 he
 obtain ⟨o1, o2, o3⟩ := ho
 refine ⟨Nat.le_trans o1 h1, by rw [h2, o2], fun i hi hj => ?_⟩
 rcases Nat.lt_or_ge i s.k with h | h
 ·exact o3 i hi (Nat.le_of_lt h)
 ·have := h3 i h hj; rw [o2] at this; exact Int.le_trans hb this
theorem aQh {x : ByteArray} (h : cC L s [x] = true) : qE (aK L s.k) = pA x := by
 unfold cC q0 at h
 simp only [Bool.and_eq_true, Bool.or_eq_true, decide_eq_true_eq] at h
 unfold qE
 rw [if_pos h.1]
 have := iN.1 h.2
 simp only [List.mem_singleton] at this
 rw [this]
theorem xR.want {x : ByteArray} (ho : Opn L k0 b q s) (hb : b ≤ q + pA x) : xR L k0 b (q + pA x) (cM L s x) := by
 unfold cM
 exact xR.ite (fun h => .ok (ho.next (aQh h) hb)) fun _ => .fail
theorem xR.name (ho : Opn L k0 b q s) (hb : b ≤ q) : xR L k0 b q (gB L s) := by
 unfold gB
 refine xR.ite (fun h => .ok ?_) fun _ => .fail
 have := ho.next (w := 0) (by unfold qE; rw [if_neg (by omega)]) (by omega)
 rwa [Int.add_zero] at this
end

def aW (t : Nd) (i : Nat) : Nd := t.kids.getD i kW

structure Pr where
 cD : Nd → ByteArray → ByteArray
 expr : Int → Nd → ByteArray → ByteArray
 stmt : Int → Nd → ByteArray → ByteArray
def Pr.none : Pr := ⟨fun _ a => a, fun _ _ a => a, fun _ _ a => a⟩

def xY (n : Int) : ByteArray := ⟨(Lib.itoa n).toArray⟩
def nY (b : UInt8) : List UInt8 := if b = 10 then [92, 110] else if b = 34 then [92, 34] else if b = 92 then [92, 92] else [b]
def sR (s : ByteArray) : ByteArray := ⟨(s.data.toList.flatMap nY).toArray⟩
def fU (d : Int) : ByteArray := ⟨(Lib.repeatL [9] d.toNat).toArray⟩

def kY (f : Nd → ByteArray → ByteArray) : Bool → List Nd → ByteArray → ByteArray
 | _, [], a => a
 | first, n :: l, a => kY f false l (f n (if first then a else a ++ ⟨#[44, 32]⟩))
def fR (f : Nd → ByteArray → ByteArray) (l : List Nd) (a : ByteArray) : ByteArray := kY f true l a

def xK (r : Pr) (t : Nd) (a : ByteArray) : ByteArray :=
 if t.kind = 9 then a ++ ⟨#[105, 110, 116]⟩
 else if t.kind = 10 then a ++ ⟨#[98, 111, 111, 108]⟩
 else if t.kind = 11 then a ++ ⟨#[115, 116, 114, 105, 110, 103]⟩
 else if t.kind = 12 then a ++ ⟨#[42]⟩ ++ t.text
 else if t.kind = 13 then r.cD (aW t 0) (a ++ ⟨#[91, 93]⟩)
 else if t.kind = 14 then r.cD (aW t 0) (a ++ ⟨#[99, 104, 97, 110, 32]⟩)
 else if t.kind = 15 then
  let b := fR r.cD (t.kids.take (t.kids.length - 1)) (a ++ ⟨#[102, 117, 110, 99, 40]⟩) ++ ⟨#[41]⟩
  if (aW t (t.kids.length - 1)).kind = 8 then b else r.cD (aW t (t.kids.length - 1)) (b ++ ⟨#[32]⟩)
 else a ++ ⟨#[63]⟩

def eJ (r : Pr) (t : Nd) (a : ByteArray) : ByteArray := r.cD (aW t 0) (a ++ t.text ++ ⟨#[32]⟩)

def fT (r : Pr) (d : Int) : List Nd → ByteArray → ByteArray
 | [], a => a
 | n :: l, a => fT r d l (r.stmt d n (a ++ fU d) ++ ⟨#[10]⟩)
def lF (r : Pr) (d : Int) (l : List Nd) (a : ByteArray) : ByteArray := fT r (d + 1) l a

def eX (r : Pr) (d : Int) (t : Nd) (a : ByteArray) : ByteArray :=
 if t.kind = 16 then lF r d t.kids (a ++ ⟨#[123, 10]⟩) ++ fU d ++ ⟨#[125]⟩ else a ++ ⟨#[63]⟩

def dK (r : Pr) (d : Int) (t : Nd) (a : ByteArray) : ByteArray :=
 let b := fR (eJ r) (aW t 0).kids (a ++ ⟨#[40]⟩) ++ ⟨#[41, 32]⟩
 eX r d (aW t 2) (if (aW t 1).kind = 8 then b else r.cD (aW t 1) b ++ ⟨#[32]⟩)

def jY (r : Pr) (d : Int) (t : Nd) (s a : ByteArray) : ByteArray := r.expr d (aW t 1) (r.expr d (aW t 0) a ++ s)
def hJ (f : Nd → ByteArray → ByteArray) (t : Nd) (a : ByteArray) : ByteArray := if t.kind = 8 then a else f t a
def mT (f : Nd → ByteArray → ByteArray) (w : ByteArray) (t : Nd) (a : ByteArray) : ByteArray := if t.kind = 8 then a ++ w else f t (a ++ w ++ ⟨#[32]⟩)

def pU (r : Pr) (d : Int) (t : Nd) (a : ByteArray) : ByteArray :=
 let b := a ++ ⟨#[102, 111, 114, 32]⟩
 let b :=
  if (aW t 0).kind = 8 ∧ (aW t 2).kind = 8 then
   (if (aW t 1).kind = 8 then b else r.expr d (aW t 1) b ++ ⟨#[32]⟩)
  else hJ (r.stmt d) (aW t 2) (hJ (r.expr d) (aW t 1) (hJ (r.stmt d) (aW t 0) b ++ ⟨#[59, 32]⟩) ++ ⟨#[59, 32]⟩) ++ ⟨#[32]⟩
 eX r d (aW t 3) b

def qY (r : Pr) (d : Int) (c : Nd) (a : ByteArray) : ByteArray :=
 if c.kind = 24 ∧ c.text = ⟨#[99, 97, 115, 101]⟩ then fR (r.expr d) (c.kids.take (c.kids.length - 1)) (a ++ ⟨#[99, 97, 115, 101, 32]⟩)
 else if c.kind = 26 ∧ c.text = ⟨#[114, 101, 99, 118]⟩ then
  r.expr d (aW c (c.kids.length - 1 - 1)) ((if c.kids.length = 3 then a ++ ⟨#[99, 97, 115, 101, 32]⟩ ++ (aW c 0).text ++ ⟨#[32, 58, 61, 32]⟩ else a ++ ⟨#[99, 97, 115, 101, 32]⟩) ++ ⟨#[60, 45]⟩)
 else if c.kind = 26 ∧ c.text = ⟨#[115, 101, 110, 100]⟩ then jY r d c ⟨#[32, 60, 45, 32]⟩ (a ++ ⟨#[99, 97, 115, 101, 32]⟩)
 else a ++ ⟨#[100, 101, 102, 97, 117, 108, 116]⟩
def dP (r : Pr) (d : Int) : List Nd → ByteArray → ByteArray
 | [], a => a
 | c :: l, a => dP r d l (lF r d (aW c (c.kids.length - 1)).kids (qY r d c (a ++ fU d) ++ ⟨#[58, 10]⟩))
def fO (r : Pr) (d : Int) (t : Nd) (a : ByteArray) : ByteArray :=
 let b := if t.kind = 23 then mT (r.expr d) ⟨#[115, 119, 105, 116, 99, 104]⟩ (aW t 0) a else a ++ ⟨#[115, 101, 108, 101, 99, 116]⟩
 dP r d (if t.kind = 23 then t.kids.drop 1 else t.kids) (b ++ ⟨#[32, 123, 10]⟩) ++ fU d ++ ⟨#[125]⟩

def jW (r : Pr) (d : Int) (t : Nd) (a : ByteArray) : ByteArray :=
 let lab (b : ByteArray) : ByteArray := if t.text = ⟨#[]⟩ then b else b ++ ⟨#[32]⟩ ++ t.text
 if t.kind = 27 then lab (a ++ ⟨#[98, 114, 101, 97, 107]⟩)
 else if t.kind = 28 then lab (a ++ ⟨#[99, 111, 110, 116, 105, 110, 117, 101]⟩)
 else if t.kind = 29 then a ++ ⟨#[102, 97, 108, 108, 116, 104, 114, 111, 117, 103, 104]⟩
 else if t.kind = 30 then mT (r.expr d) ⟨#[114, 101, 116, 117, 114, 110]⟩ (aW t 0) a
 else if t.kind = 31 then r.expr d (aW t 0) (a ++ ⟨#[103, 111, 32]⟩)
 else if t.kind = 32 then r.expr d (aW t 0) (a ++ ⟨#[100, 101, 102, 101, 114, 32]⟩)
 else if t.kind = 33 then jY r d t ⟨#[32, 60, 45, 32]⟩ a
 else if t.kind = 34 then (if (aW t 0).kind = 41 then r.expr d (aW (aW t 0) 0) (a ++ (aW t 0).text) else r.expr d (aW t 0) a)
 else a ++ ⟨#[63]⟩

def p6 (r : Pr) (d : Int) (t : Nd) (a : ByteArray) : ByteArray :=
  if t.kind = 16 then eX r d t a
  else if t.kind = 17 then r.expr d (aW t 0) (a ++ t.text ++ ⟨#[32, 58, 61, 32]⟩)
  else if t.kind = 18 then
    (let b := eJ r t (a ++ ⟨#[118, 97, 114, 32]⟩)
     if (aW t 1).kind = 8 then b else r.expr d (aW t 1) (b ++ ⟨#[32, 61, 32]⟩))
  else if t.kind = 19 then jY r d t (⟨#[32]⟩ ++ t.text ++ ⟨#[32]⟩) a
  else if t.kind = 20 then r.expr d (aW t 0) a ++ t.text
  else if t.kind = 21 then
    (let b := eX r d (aW t 1) (r.expr d (aW t 0) (a ++ ⟨#[105, 102, 32]⟩) ++ ⟨#[32]⟩)
     if (aW t 2).kind = 8 then b else r.stmt d (aW t 2) (b ++ ⟨#[32, 101, 108, 115, 101, 32]⟩))
  else if t.kind = 22 then pU r d t a
  else if t.kind = 23 ∨ t.kind = 25 then fO r d t a
  else if t.kind = 35 then r.stmt d (aW t 0) (a ++ t.text ++ ⟨#[58, 32]⟩)
  else jW r d t a

def gJ (r : Pr) (d : Int) (t : Nd) (a : ByteArray) : ByteArray :=
 let b := a ++ t.text ++ ⟨#[40]⟩
 let b :=
  if t.text = ⟨#[110, 101, 119]⟩ then b ++ (aW t 0).text
  else if t.text = ⟨#[109, 97, 107, 101]⟩ then (if 1 < t.kids.length then r.expr d (aW t 1) (r.cD (aW t 0) b ++ ⟨#[44, 32]⟩) else r.cD (aW t 0) b)
  else fR (r.expr d) t.kids b
 b ++ ⟨#[41]⟩

def nB (r : Pr) (d : Int) (f : Nd) (a : ByteArray) : ByteArray := r.expr d (aW f 0) (a ++ f.text ++ ⟨#[58, 32]⟩)
def fS (r : Pr) (d : Int) (t : Nd) (a : ByteArray) : ByteArray :=
 if t.kind = 49 then fR (nB r d) t.kids (a ++ ⟨#[40, 38]⟩ ++ t.text ++ ⟨#[123]⟩) ++ ⟨#[125, 41]⟩
 else if t.kind = 50 then fR (r.expr d) (t.kids.drop 1) (r.cD (aW t 0) (a ++ ⟨#[40, 91, 93]⟩) ++ ⟨#[123]⟩) ++ ⟨#[125, 41]⟩
 else a ++ ⟨#[63]⟩

def pN (r : Pr) (d : Int) (t : Nd) (a : ByteArray) : ByteArray :=
 if t.kind = 36 then a ++ xY t.num
 else if t.kind = 37 then a ++ ⟨#[34]⟩ ++ sR t.text ++ ⟨#[34]⟩
 else if t.kind = 39 then a ++ ⟨#[110, 105, 108]⟩
 else if t.kind = 38 ∨ t.kind = 40 then a ++ t.text
 else if t.kind = 41 then r.expr d (aW t 0) (a ++ ⟨#[40]⟩ ++ t.text) ++ ⟨#[41]⟩
 else if t.kind = 42 then jY r d t (⟨#[32]⟩ ++ t.text ++ ⟨#[32]⟩) (a ++ ⟨#[40]⟩) ++ ⟨#[41]⟩
 else if t.kind = 43 then fR (r.expr d) (t.kids.drop 1) (r.expr d (aW t 0) a ++ ⟨#[40]⟩) ++ ⟨#[41]⟩
 else if t.kind = 44 then gJ r d t a
 else if t.kind = 45 then jY r d t ⟨#[91]⟩ a ++ ⟨#[93]⟩
 else if t.kind = 46 then hJ (r.expr d) (aW t 2) (hJ (r.expr d) (aW t 1) (r.expr d (aW t 0) a ++ ⟨#[91]⟩) ++ ⟨#[58]⟩) ++ ⟨#[93]⟩
 else if t.kind = 47 then r.expr d (aW t 0) a ++ ⟨#[46]⟩ ++ t.text
 else if t.kind = 48 then dK r d t (a ++ ⟨#[102, 117, 110, 99]⟩)
 else fS r d t a

def Pr.step (r : Pr) : Pr := ⟨xK r, pN r, p6 r⟩
def prN : Nat → Pr
 | 0 => .none
 | n + 1 => (prN n).step

def eT (r : Pr) : List Nd → ByteArray → ByteArray
 | [], a => a
 | f :: l, a => eT r l (eJ r f (a ++ ⟨#[9]⟩) ++ ⟨#[10]⟩)
def qS (r : Pr) (t : Nd) (a : ByteArray) : ByteArray :=
  (if t.kind = 2 then eT r t.kids (a ++ ⟨#[116, 121, 112, 101, 32]⟩ ++ t.text ++ ⟨#[32, 115, 116, 114, 117, 99, 116, 32, 123, 10]⟩) ++ ⟨#[125]⟩
   else if t.kind = 3 then eJ r t (a ++ ⟨#[118, 97, 114, 32]⟩)
   else if t.kind = 4 then dK r 0 t (a ++ ⟨#[102, 117, 110, 99, 32]⟩ ++ t.text)
   else a ++ ⟨#[63]⟩) ++ ⟨#[10]⟩
def eZ (r : Pr) : List Nd → ByteArray → ByteArray
 | [], a => a
 | t :: l, a => eZ r l (qS r t a)
def qV (n : Nat) (t : Nd) : ByteArray := eZ (prN n) t.kids ⟨#[]⟩

/-! ## How large a tree is, and what fuel is enough -/
mutual
def jH : Nd → Nat
 | .mk _ _ _ _ _ _ ks => lG ks + 1
def lG : List Nd → Nat
 | [] => 0
 | t :: l => jH t + lG l
end
theorem mC (t : Nd) : jH t = lG t.kids + 1 := by cases t; rfl
theorem oU (t : Nd) : 0 < jH t := by rw [mC]; omega
theorem aLh (l m : List Nd) : lG (l ++ m) = lG l + lG m := by
 induction l with
 | nil => simp [lG]
 | cons t l ih => simp only [List.cons_append, lG, ih]; omega
theorem qO {l : List Nd} {t : Nd} (h : t ∈ l) : jH t ≤ lG l := by
 induction l with
 | nil => cases h
 | cons u l ih =>
  rcases List.mem_cons.1 h with rfl | h
  ·simp only [lG]; omega
  ·have := ih h; simp only [lG]; omega
theorem aAe (l : List Nd) : l.length ≤ lG l := by
 induction l with
 | nil => simp
 | cons u l ih => have := oU u; simp only [lG, List.length_cons]; omega
theorem mO {t : Nd} {i : Nat} (h : i < t.kids.length) : jH (aW t i) < jH t := by
 unfold aW
 rw [List.getD_eq_getElem?_getD, List.getElem?_eq_getElem h, Option.getD_some, mC t]
 have := qO (List.getElem_mem h)
 omega
theorem gA {t : Nd} {i : Nat} (h : ¬ i < t.kids.length) : aW t i = kW := by
 unfold aW
 rw [List.getD_eq_getElem?_getD, List.getElem?_eq_none (by omega), Option.getD_none]
theorem aEg {t : Nd} {i : Nat} (h : i < t.kids.length) : aW t i ∈ t.kids := by
 unfold aW
 rw [List.getD_eq_getElem?_getD, List.getElem?_eq_getElem h, Option.getD_some]
 exact List.getElem_mem h

def Fu (n : Nat) (t : Nd) : Prop := 0 < n ∧ (t.kind ≠ 0 → jH t < n)
theorem Fu.mono {n m : Nat} {t : Nd} (h : Fu n t) (hm : n ≤ m) : Fu m t := ⟨by have := h.1; omega, fun hk => by have := h.2 hk; omega⟩
theorem Fu.of {n : Nat} {t : Nd} (h : jH t < n) : Fu n t := ⟨by omega, fun _ => h⟩
theorem Fu.zero {n : Nat} (h : 0 < n) : Fu n kW := ⟨h, fun hk => (hk rfl).elim⟩
theorem Fu.eF {n : Nat} {t : Nd} (h : Fu (n + 1) t) (hk : t.kind ≠ 0) (i : Nat) : Fu n (aW t i) := by
 have h2 := h.2 hk
 have := oU t
 by_cases hi : i < t.kids.length
 ·have := mO hi
  exact .of (by omega)
 ·rw [gA hi]; exact .zero (by omega)
theorem Fu.mem {n : Nat} {t u : Nd} (h : Fu (n + 1) t) (hk : t.kind ≠ 0) (hu : u ∈ t.kids) : Fu n u := by
 have h2 := h.2 hk
 have := qO hu
 rw [mC] at h2
 exact .of (by omega)
theorem Fu.yC {n : Nat} {t u : Nd} (h : Fu (n + 1) t) (hk : t.kind ≠ 0) {i : Nat} (hu : u ∈ (aW t i).kids) : Fu n u := by
 by_cases hi : i < t.kids.length
 ·have h2 := h.2 hk
  have h3 := mO hi
  have h4 := qO hu
  rw [mC] at h3
  exact .of (by omega)
 ·rw [gA hi] at hu; cases hu

def o9 (s : ByteArray) : Bool := s.data.toList.all fun b => decide (32 < b.toNat)
structure Fit (k : Int) (x : ByteArray) (num : Int) (ks : List Nd) : Prop where
 sz : x.size ≤ 1000
 num : 0 ≤ num ∧ num < 1000000000000000000
 o9 : k ≠ 37 → o9 x = true
 ne : k = 38 ∨ k = 40 → x.size ≠ 0
 recv : k = 26 → x = ⟨#[114, 101, 99, 118]⟩ → 2 ≤ ks.length
 send : k = 26 → x = ⟨#[115, 101, 110, 100]⟩ → 3 ≤ ks.length
 last : k = 24 ∨ k = 26 → ∀ t, ks[ks.length - 1]? = some t → t.kind = 16
 fld : k = 2 ∨ k = 6 ∨ k = 49 → ∀ t ∈ ks, t.kind ≠ 37
 fn : k = 4 ∨ k = 48 → ∀ t, ks[0]? = some t → t.kind = 6
 new : k = 44 → x = ⟨#[110, 101, 119]⟩ → ∀ t, ks[0]? = some t → t.kind ≠ 37
 got : k = 26 → x = ⟨#[114, 101, 99, 118]⟩ → ks.length = 3 → ∀ t, ks[0]? = some t → t.kind ≠ 37
inductive Tr : Int → Nd → Prop
 | mk (m : Int) (kind : Int) (text : ByteArray) (num pos : Int) (cD : ByteArray) (ref : Int) (kids : List Nd) : Fit kind text num kids → 0 ≤ m → (∀ t ∈ kids, Tr (if kind = 16 then m - 1 else m) t) → Tr m (.mk kind text num pos cD ref kids)
def mD (m : Int) (l : List Nd) : Prop := ∀ t ∈ l, Tr m t
theorem mD.nil {m : Int} : mD m [] := fun t h => by cases h
theorem mD.cons {m : Int} {t : Nd} {l : List Nd} (h : Tr m t) (hl : mD m l) : mD m (t :: l) := fun u hu => by
 rcases List.mem_cons.1 hu with rfl | hu
 ·exact h
 ·exact hl u hu
theorem mD.app {m : Int} {l k : List Nd} (hl : mD m l) (hm : mD m k) : mD m (l ++ k) := fun u hu => by
 rcases List.mem_append.1 hu with hu | hu
 ·exact hl u hu
 ·exact hm u hu
theorem Tr.mono {m m' : Int} {t : Nd} (h : Tr m t) (hm : m ≤ m') : Tr m' t := by
 induction h generalizing m' with
 | mk m kind text num pos cD ref kids h1 h2 h3 ih =>
  refine .mk _ _ _ _ _ _ _ _ h1 (by omega) fun t ht => ih t ht ?_
  split <;> omega
theorem mD.mono {m m' : Int} {l : List Nd} (h : mD m l) (hm : m ≤ m') : mD m' l := fun t ht => (h t ht).mono hm
theorem Tr.gd {m : Int} {t : Nd} (h : Tr m t) : Fit t.kind t.text t.num t.kids := by cases h; assumption
theorem Tr.nn {m : Int} {t : Nd} (h : Tr m t) : 0 ≤ m := by cases h; assumption
theorem Tr.kids {m : Int} {t : Nd} (h : Tr m t) : mD (if t.kind = 16 then m - 1 else m) t.kids := by cases h; assumption
theorem Tr.of {m : Int} {k : Int} {x : ByteArray} {num pos : Int} {ty : ByteArray} {ref : Int} {ks : List Nd} (h : Fit k x num ks) (hk : k ≠ 16) (hm : 0 ≤ m) (hl : mD m ks) : Tr m (.mk k x num pos ty ref ks) := .mk _ _ _ _ _ _ _ _ h hm (by rw [if_neg hk]; exact hl)
theorem Tr.blk {m : Int} {x : ByteArray} {num pos : Int} {ty : ByteArray} {ref : Int} {ks : List Nd} (h : Fit 16 x num ks) (hm : 0 ≤ m) (hl : mD (m - 1) ks) : Tr m (.mk 16 x num pos ty ref ks) := .mk _ _ _ _ _ _ _ _ h hm (by rw [if_pos rfl]; exact hl)

structure TK (t : Tok) : Prop where
 sz : t.text.size ≤ 1000
 num : 0 ≤ t.num ∧ t.num < 1000000000000000000
 o9 : t.kind ≠ 3 → Go.Proofs.ZL.o9 t.text = true
 ne : t.kind = 1 ∨ t.kind = 4 → t.text.size ≠ 0
 br : t.kind ≠ 5 → qE t = 0
structure TL (L : List Tok) : Prop where
 tk : ∀ k, TK (aK L k)
 dep : ∀ k, aU L k ≤ 40

theorem l0 {k : Int} {x : ByteArray} {ks : List Nd} (h1 : (decide (x.size ≤ 1000) && o9 x) = true) (h2 : k ≠ 2 ∧ k ≠ 6 ∧ k ≠ 49 ∧ k ≠ 4 ∧ k ≠ 48 ∧ k ≠ 44 ∧ k ≠ 38 ∧ k ≠ 40 ∧ k ≠ 24 ∧ k ≠ 26) : Fit k x 0 ks := by
 rw [Bool.and_eq_true] at h1
 exact ⟨of_decide_eq_true h1.1, by omega, fun _ => h1.2, fun h => by omega, fun a => by omega, fun a => by omega, fun a => by omega, fun a => by omega, fun a => by omega, fun a => by omega, fun a => by omega⟩
theorem aM2 {k : Int} {x : ByteArray} {l : List Nd} {b : Nd} (h5 : k = 26 → x = ⟨#[114, 101, 99, 118]⟩ → l.length = 2 → ∀ t, l[0]? = some t → t.kind ≠ 37) : k = 26 → x = ⟨#[114, 101, 99, 118]⟩ → (l ++ [b]).length = 3 → ∀ t, (l ++ [b])[0]? = some t → t.kind ≠ 37 := fun a c d t ht => by
 rw [List.length_append, List.length_singleton] at d
 rw [List.getElem?_append_left (by omega)] at ht
 exact h5 a c (by omega) t ht
theorem kd {k : Int} {x : ByteArray} {t : Tok} {l : List Nd} (h : k ≠ 37) : (nd k t x l).kind ≠ 37 := h
theorem aBb {k : Int} {x : ByteArray} {l : List Nd} {b : Nd} (h1 : (decide (x.size ≤ 1000) && o9 x) = true) (h2 : k = 24 ∨ k = 26) (h3 : k = 26 → x = ⟨#[114, 101, 99, 118]⟩ → 1 ≤ l.length) (h4 : k = 26 → x = ⟨#[115, 101, 110, 100]⟩ → 2 ≤ l.length) (hb : b.kind = 16) (h5 : k = 26 → x = ⟨#[114, 101, 99, 118]⟩ → l.length = 2 → ∀ t, l[0]? = some t → t.kind ≠ 37) : Fit k x 0 (l ++ [b]) := by
 rw [Bool.and_eq_true] at h1
 refine ⟨of_decide_eq_true h1.1, by omega, fun _ => h1.2, fun h => by omega, fun a b => by have := h3 a b; simp; omega, fun a b => by have := h4 a b; simp; omega, fun _ t ht => ?_, fun a => by omega, fun a => by omega, fun a => by omega, fun a c d t ht => aM2 h5 a c d t ht⟩
 rw [List.length_append, List.length_singleton, Nat.add_sub_cancel, List.getElem?_append_right (Nat.le_refl _), Nat.sub_self] at ht
 cases ht
 exact hb
theorem rF {k : Int} {t : Tok} {ks : List Nd} (h : TK t) (h1 : t.kind ≠ 3) (h2 : k ≠ 2 ∧ k ≠ 6 ∧ k ≠ 49 ∧ k ≠ 4 ∧ k ≠ 48 ∧ k ≠ 44 ∧ k ≠ 24 ∧ k ≠ 26) (h3 : k = 38 ∨ k = 40 → t.kind = 1 ∨ t.kind = 4) : Fit k t.text 0 ks :=
 ⟨h.sz, by omega, fun _ => h.o9 h1, fun a => h.ne (h3 a), fun a => by omega, fun a => by omega, fun a => by omega, fun a => by omega, fun a => by omega, fun a => by omega, fun a => by omega⟩
theorem aM3 {k : Int} {t : Tok} {ks : List Nd} (h : TK t) (h1 : t.kind ≠ 3) (h2 : k = 2 ∨ k = 49) (h3 : ∀ u ∈ ks, u.kind ≠ 37) : Fit k t.text 0 ks :=
 ⟨h.sz, by omega, fun _ => h.o9 h1, fun a => by omega, fun a => by omega, fun a => by omega, fun a => by omega, fun _ => h3, fun a => by omega, fun a => by omega, fun a => by omega⟩
theorem aM4 {ks : List Nd} (h3 : ∀ u ∈ ks, u.kind ≠ 37) : Fit 6 ⟨#[]⟩ 0 ks :=
 ⟨by decide, by omega, fun _ => by decide, fun a => by omega, fun a => by omega, fun a => by omega, fun a => by omega, fun _ => h3, fun a => by omega, fun a => by omega, fun a => by omega⟩
theorem aPy {t : Tok} {ks : List Nd} (h : TK t) (h1 : t.kind ≠ 3) (h3 : ∀ u, ks[0]? = some u → u.kind = 6) : Fit 4 t.text 0 ks :=
 ⟨h.sz, by omega, fun _ => h.o9 h1, fun a => by omega, fun a => by omega, fun a => by omega, fun a => by omega, fun a => by omega, fun _ => h3, fun a => by omega, fun a => by omega⟩
theorem aPz {ks : List Nd} (h3 : ∀ u, ks[0]? = some u → u.kind = 6) : Fit 48 ⟨#[]⟩ 0 ks :=
 ⟨by decide, by omega, fun _ => by decide, fun a => by omega, fun a => by omega, fun a => by omega, fun a => by omega, fun a => by omega, fun _ => h3, fun a => by omega, fun a => by omega⟩
theorem aL5 {t : Tok} {ks : List Nd} (h : TK t) (h1 : t.kind ≠ 3) (h3 : t.text = ⟨#[110, 101, 119]⟩ → ∀ u, ks[0]? = some u → u.kind ≠ 37) : Fit 44 t.text 0 ks :=
 ⟨h.sz, by omega, fun _ => h.o9 h1, fun a => by omega, fun a => by omega, fun a => by omega, fun a => by omega, fun a => by omega, fun a => by omega, fun _ => h3, fun a => by omega⟩
theorem aP0 {k m : Int} {t : Nd} {ks : List Nd} (h : Tr m t) (h1 : t.kind = 40) (h2 : k ≠ 2 ∧ k ≠ 6 ∧ k ≠ 49 ∧ k ≠ 4 ∧ k ≠ 48 ∧ k ≠ 44 ∧ k ≠ 24 ∧ k ≠ 26 ∧ k ≠ 38 ∧ k ≠ 40) : Fit k t.text 0 ks :=
 ⟨h.gd.sz, by omega, fun _ => h.gd.o9 (by omega), fun a => by omega, fun a => by omega, fun a => by omega, fun a => by omega, fun a => by omega, fun a => by omega, fun a => by omega, fun a => by omega⟩
theorem lP {m : Int} (h : 0 ≤ m) : Tr m c5 := .of (l0 (by decide) (by decide)) (by decide) h .nil

theorem wx1 : pA ⟨#[40]⟩ = 1 := by decide +kernel
theorem wx2 : pA ⟨#[41]⟩ = -1 := by decide +kernel
theorem wx3 : pA ⟨#[91]⟩ = 1 := by decide +kernel
theorem wx4 : pA ⟨#[93]⟩ = -1 := by decide +kernel
theorem wx5 : pA ⟨#[123]⟩ = 1 := by decide +kernel
theorem wx6 : pA ⟨#[125]⟩ = -1 := by decide +kernel
theorem wx7 : pA ⟨#[44]⟩ = 0 := by decide +kernel
theorem wx8 : pA ⟨#[59]⟩ = 0 := by decide +kernel
theorem wx9 : pA ⟨#[58]⟩ = 0 := by decide +kernel
theorem aQi : pA ⟨#[60, 45]⟩ = 0 := by decide +kernel
theorem aI8 : ∀ x ∈ [⟨#[99, 97, 115, 101]⟩, ⟨#[115, 116, 114, 117, 99, 116]⟩, ⟨#[58, 61]⟩, ⟨#[61]⟩, ⟨#[43, 43]⟩, ⟨#[45]⟩, ⟨#[102, 111, 114]⟩, ⟨#[105, 102]⟩, ⟨#[101, 108, 115, 101]⟩, ⟨#[100, 101, 102, 97, 117, 108, 116]⟩, ⟨#[116, 121, 112, 101]⟩, ⟨#[118, 97, 114]⟩, ⟨#[102, 117, 110, 99]⟩, ⟨#[105, 110, 116]⟩], pA x = 0 := by decide +kernel

def Ok {α : Type} (W : α → St → Prop) : R α → Prop
 | .ok x s => W x s
 | .bad _ => True
 | .out => True
section
variable {α β : Type} {W : α → St → Prop} {V : β → St → Prop}
theorem Ok.then {r : R α} {f : α → St → R β} (h : Ok W r) (hf : ∀ x s, W x s → Ok V (f x s)) : Ok V (r.then f) := by
 cases r with
 | ok x s => exact hf _ _ h
 | bad e => exact trivial
 | out => exact trivial
theorem Ok.eY {r : R α} {W' : α → St → Prop} (h : Ok W r) (hf : ∀ x s, W x s → W' x s) : Ok W' r := by
 cases r with
 | ok x s => exact hf _ _ h
 | bad e => exact trivial
 | out => exact trivial
theorem Ok.ite {c : Prop} [Decidable c] {A B : R α} (h1 : c → Ok W A) (h2 : ¬ c → Ok W B) : Ok W (if c then A else B) := by
 by_cases hc : c
 ·rw [if_pos hc]; exact h1 hc
 ·rw [if_neg hc]; exact h2 hc
theorem Ok.fail {s : St} : Ok W (fY L s) := trivial
theorem dH {c : Prop} [Decidable c] {A B : R α} {f : α → St → R β} : (if c then A else B).then f = if c then A.then f else B.then f := by
 by_cases hc : c
 ·rw [if_pos hc, if_pos hc]
 ·rw [if_neg hc, if_neg hc]
theorem eN {s : St} {f : α → St → R β} : (fY L s).then f = fY L s := rfl

theorem wO {s : St} {ts : List ByteArray} (h : cC L s ts = true) : (aK L s.k).kind = 4 ∨ (aK L s.k).kind = 5 := by
 unfold cC q0 at h
 simp only [Bool.and_eq_true, Bool.or_eq_true, decide_eq_true_eq] at h
 exact h.1
theorem aC5 {s : St} {ts : List ByteArray} (h : cC L s ts = true) : (aK L s.k).text ∈ ts := by
 unfold cC q0 at h
 simp only [Bool.and_eq_true, Bool.or_eq_true, decide_eq_true_eq] at h
 exact iN.1 h.2
theorem zI {s : St} {ts : List ByteArray} (h : cC L s ts = true) : aU L (s.k + 1) = aU L s.k + pA (aK L s.k).text := by
 show aU L s.k + qE (aK L s.k) = _
 unfold qE
 rw [if_pos (wO h)]
theorem nU {s : St} {ts : List ByteArray} {v : Int} (h : cC L s ts = true) (hu : (ts.all fun x => decide (pA x = v)) = true) : aU L (s.k + 1) = aU L s.k + v := by
 rw [zI h]
 have := List.all_eq_true.1 hu _ (aC5 h)
 rw [of_decide_eq_true this]
theorem TL.k0 (tl : TL L) {k : Nat} (h : (aK L k).kind ≠ 5) : aU L (k + 1) = aU L k := by
 show aU L k + qE (aK L k) = _
 rw [(tl.tk k).br h, Int.add_zero]
theorem aI7 {k : Nat} (h : qE (aK L k) = 0) : aU L (k + 1) = aU L k := by
 show aU L k + qE (aK L k) = _
 rw [h, Int.add_zero]

variable {L : List Tok} {s : St}
theorem rH {ts : List ByteArray} {A B : R α} (tl : TL L) (hu : (ts.all fun x => decide (pA x = 0)) = true) (h1 : TK (aK L s.k) → cC L s ts = true → (aK L s.k).kind = 4 ∨ (aK L s.k).kind = 5 → aU L (s.k + 1) = aU L s.k → Ok W A) (h2 : cC L s ts ≠ true → Ok W B) : Ok W (if cC L s ts = true then A else B) :=
 Ok.ite (fun h => h1 (tl.tk _) h (wO h) (by rw [nU h hu, Int.add_zero])) h2
theorem eK {x : ByteArray} {k : Tok → St → R α} (tl : TL L) (hk : ∀ t s1, s1.k = s.k + 1 → aU L s1.k = aU L s.k + pA x → aU L s1.k ≤ 40 → TK t → t.kind = 4 ∨ t.kind = 5 → Ok W (k t s1)) : Ok W ((cM L s x).then k) := by
 unfold cM
 rw [dH]
 exact Ok.ite (fun h => hk _ _ rfl (nU (v := pA x) h (by simp)) (tl.dep _) (tl.tk _) (wO h)) fun _ => trivial
theorem rK {k : Tok → St → R α} (tl : TL L) (hk : ∀ t s1, s1.k = s.k + 1 → aU L s1.k = aU L s.k → TK t → t.kind = 1 → Ok W (k t s1)) : Ok W ((gB L s).then k) := by
 unfold gB
 rw [dH]
 exact Ok.ite (fun a => hk _ _ rfl (tl.k0 (by omega)) (tl.tk _) a) fun _ => trivial
theorem aIt {b : Bool} {k : Unit → St → R α} (tl : TL L) (hk : ∀ s1, s.k ≤ s1.k → aU L s1.k = aU L s.k → Ok W (k () s1)) : Ok W ((sW L s b).then k) := by
 unfold sW
 rw [dH]
 refine Ok.ite (fun _ => hk _ (Nat.le_refl _) rfl) fun _ => ?_
 rw [R.then_assoc]
 exact eK tl fun t s1 h hd _ _ _ => hk s1 (by omega) (by rw [hd, wx7, Int.add_zero])
theorem y8 {k : Unit → St → R α} (tl : TL L) (hk : ∀ s1, s.k ≤ s1.k → aU L s1.k = aU L s.k → Ok W (k () s1)) : Ok W ((pL L s).then k) := by
 unfold pL
 rw [dH]
 refine Ok.ite (fun _ => hk _ (Nat.le_refl _) rfl) fun _ => ?_
 rw [R.then_assoc]
 exact eK tl fun t s1 h hd _ _ _ => hk s1 (by omega) (by rw [hd, wx7, Int.add_zero])

abbrev YS (L : List Tok) (s0 : St) (r : R Nd) : Prop := Ok (fun x s => Tr (40 - aU L s0.k) x ∧ jH x + 4 * s0.k ≤ 4 * s.k ∧ aU L s.k = aU L s0.k) r
abbrev YE (L : List Tok) (s0 : St) (r : R Nd) : Prop := Ok (fun x s => Tr (40 - aU L s0.k) x ∧ jH x + 1 + 4 * s0.k ≤ 4 * s.k ∧ aU L s.k = aU L s0.k) r
abbrev YL (L : List Tok) (s0 : St) (r : R (List Nd)) : Prop := Ok (fun x s => mD (40 - aU L s0.k) x ∧ lG x + 4 * s0.k ≤ 4 * s.k ∧ aU L s.k = aU L s0.k) r
theorem aLj {r : R Nd} {k : Nd → St → R α} (tl : TL L) (h : YS L s r) (hk : ∀ x s1, Tr (40 - aU L s.k) x → jH x + 4 * s.k ≤ 4 * s1.k → aU L s1.k = aU L s.k → Ok W (k x s1)) : Ok W (r.then k) := h.then fun x s1 w => hk x s1 w.1 w.2.1 w.2.2
theorem gG {r : R Nd} {k : Nd → St → R α} (tl : TL L) (h : YE L s r) (hk : ∀ x s1, Tr (40 - aU L s.k) x → jH x + 1 + 4 * s.k ≤ 4 * s1.k → aU L s1.k = aU L s.k → Ok W (k x s1)) : Ok W (r.then k) := h.then fun x s1 w => hk x s1 w.1 w.2.1 w.2.2
theorem aLi {r : R (List Nd)} {k : List Nd → St → R α} (tl : TL L) (h : YL L s r) (hk : ∀ x s1, mD (40 - aU L s.k) x → lG x + 4 * s.k ≤ 4 * s1.k → aU L s1.k = aU L s.k → Ok W (k x s1)) : Ok W (r.then k) := h.then fun x s1 w => hk x s1 w.1 w.2.1 w.2.2
theorem YE.toS {s0 : St} {r : R Nd} (h : YE L s0 r) : YS L s0 r := h.eY fun x s w => ⟨w.1, by have := w.2.1; omega, w.2.2⟩

theorem aCd {x : ByteArray} {f : List Nd → St → R (List Nd)} {n : Nat} {k : List Nd → St → R α} (tl : TL L) (hf : ∀ l s1, mD (40 - aU L s.k) l → lG l + 4 * s.k ≤ 4 * s1.k → aU L s1.k = aU L s.k → YL L s (f l s1)) (hk : ∀ l s1, mD (40 - aU L s.k) l → lG l + 4 * s.k ≤ 4 * s1.k → aU L s1.k = aU L s.k ∧ aU L (s1.k + 1) = aU L s.k + pA x → Ok W (k l s1)) : Ok W ((dI L [x] f n [] s).then k) := by
 have key : ∀ (n : Nat) (a : List Nd) (s1 : St), (mD (40 - aU L s.k) a ∧ lG a + 4 * s.k ≤ 4 * s1.k ∧ aU L s1.k = aU L s.k) → Ok (fun a s1 => mD (40 - aU L s.k) a ∧ lG a + 4 * s.k ≤ 4 * s1.k ∧ aU L s1.k = aU L s.k ∧ aU L (s1.k + 1) = aU L s.k + pA x) (dI L [x] f n a s1) := by
  intro n
  induction n with
  | zero => intro a s1 _; exact trivial
  | succ n ih =>
   intro a s1 h
   unfold dI
   refine Ok.ite (fun hi => ⟨h.1, h.2.1, h.2.2, ?_⟩) fun _ => (hf a s1 h.1 h.2.1 h.2.2).then fun a s h => ih a s h
   rw [nU (v := pA x) hi (by simp), h.2.2]
 exact (key n [] s ⟨.nil, by simp [lG], rfl⟩).then fun x s1 w => hk x s1 w.1 w.2.1 w.2.2
theorem aCe {P : Nd → Prop} {x : ByteArray} {f : List Nd → St → R (List Nd)} {n : Nat} {k : List Nd → St → R α} (tl : TL L) (hf : ∀ l s1, mD (40 - aU L s.k) l → lG l + 4 * s.k ≤ 4 * s1.k → aU L s1.k = aU L s.k → (∀ t ∈ l, P t) → Ok (fun a s2 => mD (40 - aU L s.k) a ∧ lG a + 4 * s.k ≤ 4 * s2.k ∧ aU L s2.k = aU L s.k ∧ ∀ t ∈ a, P t) (f l s1)) (hk : ∀ l s1, mD (40 - aU L s.k) l → lG l + 4 * s.k ≤ 4 * s1.k → aU L s1.k = aU L s.k ∧ aU L (s1.k + 1) = aU L s.k + pA x → (∀ t ∈ l, P t) → Ok W (k l s1)) : Ok W ((dI L [x] f n [] s).then k) := by
 have key : ∀ (n : Nat) (a : List Nd) (s1 : St), (mD (40 - aU L s.k) a ∧ lG a + 4 * s.k ≤ 4 * s1.k ∧ aU L s1.k = aU L s.k ∧ ∀ t ∈ a, P t) → Ok (fun a s1 => mD (40 - aU L s.k) a ∧ lG a + 4 * s.k ≤ 4 * s1.k ∧ aU L s1.k = aU L s.k ∧ aU L (s1.k + 1) = aU L s.k + pA x ∧ ∀ t ∈ a, P t) (dI L [x] f n a s1) := by
  intro n
  induction n with
  | zero => intro a s1 _; exact trivial
  | succ n ih =>
   intro a s1 h
   unfold dI
   refine Ok.ite (fun hi => ⟨h.1, h.2.1, h.2.2.1, ?_, h.2.2.2⟩) fun _ => (hf a s1 h.1 h.2.1 h.2.2.1 h.2.2.2).then fun a s h => ih a s h
   rw [nU (v := pA x) hi (by simp), h.2.2.1]
 exact (key n [] s ⟨.nil, by simp [lG], rfl, fun t h => by cases h⟩).then fun x s1 w => hk x s1 w.1 w.2.1 ⟨w.2.2.1, w.2.2.2.1⟩ w.2.2.2.2
abbrev YF (L : List Tok) (s0 : St) (r : R (List Nd)) : Prop := Ok (fun x s => (mD (40 - aU L s0.k) x ∧ lG x + 4 * s0.k ≤ 4 * s.k ∧ aU L s.k = aU L s0.k) ∧ ∀ u, x[0]? = some u → u.kind = 6) r
theorem aRf {r : R (List Nd)} {k : List Nd → St → R α} (tl : TL L) (h : YF L s r) (hk : ∀ x s1, mD (40 - aU L s.k) x → lG x + 4 * s.k ≤ 4 * s1.k → aU L s1.k = aU L s.k → (∀ u, x[0]? = some u → u.kind = 6) → Ok W (k x s1)) : Ok W (r.then k) := h.then fun x s w => hk x s w.1.1 w.1.2.1 w.1.2.2 w.2
theorem qH {l : List Nd} {u : Nd} (h : ∀ t ∈ l, t.kind ≠ 37) (hu : u.kind ≠ 37) : ∀ t ∈ l ++ [u], t.kind ≠ 37 := fun t ht => by
 rcases List.mem_append.1 ht with ht | ht
 ·exact h t ht
 ·rw [List.mem_singleton.1 ht]; exact hu
theorem tJ : ∀ t ∈ ([] : List Nd), t.kind ≠ 37 := fun t ht => by cases ht
end

structure hY (L : List Tok) (r : Rec) : Prop where
 cD : ∀ hd s, YE L s (r.cD L hd s)
 function : ∀ hd s, YF L s (r.function L hd s)
 block : ∀ hd s, YE L s (r.block L hd s)
 stmts : ∀ hd s, YL L s (r.stmts L hd s)
 stmt : ∀ hd s, YS L s (r.stmt L hd s)
 nested : ∀ hd s, qE (aK L s.k) = 0 → YE L s (r.nested L hd s)
 branch : ∀ hd s, qE (aK L s.k) = 0 → YE L s (r.branch L hd s)
 expr : ∀ hd s, YE L s (r.expr L hd s)
 binary : ∀ l hd s, YE L s (r.binary l L hd s)
 unary : ∀ hd s, YE L s (r.unary L hd s)
 cH : ∀ hd s, YE L s (r.cH L hd s)
 simple : ∀ hd s, YS L s (r.simple L hd s)

theorem bJ {p : Prop} (h : p := by ((try simp only [nd, aKl, c5, jH, lG, aLh, St.next, St.goto, St.with, wx1, wx2, wx3, wx4, wx5, wx6, wx7, wx8, wx9, aQi, aI8, Nat.add_assoc, Nat.reduceAdd] at *); omega)) : p := h
theorem vR {p : Prop} (h : p := by (repeat' (first | exact mD.nil | exact Tr.mono (by assumption) bJ | exact mD.mono (by assumption) bJ | exact lP bJ | refine mD.cons ?_ ?_ | refine mD.app ?_ ?_ | refine Tr.of ?_ (by decide) bJ ?_ | refine Tr.blk ?_ bJ ?_ | exact l0 (by decide) (by decide) | exact rF (by assumption) (by omega) (by decide) (by omega) | exact aPz (by assumption) | exact aPy (by assumption) (by omega) (by assumption) | exact aM4 (by assumption) | exact aM3 (by assumption) (by omega) (by decide) (by assumption) | exact aL5 (by assumption) (by omega) (fun e => absurd e (by assumption))))) : p := h
theorem aGf {p : Prop} (h : p := by (refine ⟨?_, ?_, ?_⟩; (· exact vR); (· exact bJ); (· exact bJ))) : p := h
theorem jK {p : Prop} (h : p := by (repeat' (first | refine eK tl fun _ _ _ _ _ _ _ => ?_ | refine rK tl fun _ _ _ _ _ _ => ?_ | refine aIt tl fun _ _ _ => ?_ | refine y8 tl fun _ _ _ => ?_ | refine aCd tl (fun _ _ _ _ _ => ?_) (fun _ _ _ _ _ => ?_) | refine gG tl (c.cD _ _) fun _ _ _ _ _ => ?_ | refine gG tl (c.expr _ _) fun _ _ _ _ _ => ?_ | refine gG tl (c.block _ _) fun _ _ _ _ _ => ?_ | refine gG tl (c.unary _ _) fun _ _ _ _ _ => ?_ | refine gG tl (c.cH _ _) fun _ _ _ _ _ => ?_ | refine gG tl (c.nested _ _ (by assumption)) fun _ _ _ _ _ => ?_ | refine gG tl (c.branch _ _ (by assumption)) fun _ _ _ _ _ => ?_ | refine aLj tl (c.stmt _ _) fun _ _ _ _ _ => ?_ | refine aLj tl (c.simple _ _) fun _ _ _ _ _ => ?_ | refine aRf tl (c.function _ _) fun _ _ _ _ _ _ => ?_ | refine aLi tl (c.stmts _ _) fun _ _ _ _ _ => ?_ | refine rH tl (by decide +kernel) (fun _ _ _ _ => ?_) (fun _ => ?_) | refine Ok.ite (fun _ => ?_) (fun _ => ?_) | exact Ok.fail | exact aGf))) : p := h
theorem aN5 {x : ByteArray} (h : x ∈ gY) (h1 : ¬ x = ⟨#[91]⟩) : pA x = 0 := by
 simp only [gY, List.mem_cons, List.not_mem_nil, or_false] at h
 rcases h with rfl | rfl | rfl | rfl | rfl | rfl | rfl <;> first | exact absurd rfl h1 | decide +kernel
theorem aQf {n : Nat} {r : Rec} {s : St} (tl : TL L) (c : hY L r) : YE L s (aCc n r L hd s) := by
 have hd0 := tl.dep s.k
 unfold aCc
 try simp only [R.then_assoc, R.then_ok, dH, eN]
 refine Ok.ite (fun h0 => ?_) fun _ => Ok.fail
 have hdep := zI h0
 have hin := aN5 (aC5 h0)
 by_cases hb : (aK L s.k).text = ⟨#[91]⟩
 ·rw [hb] at hdep ⊢
  simp only [show ¬ ((⟨#[91]⟩ : ByteArray) = ⟨#[105, 110, 116]⟩) by decide, show ¬ ((⟨#[91]⟩ : ByteArray) = ⟨#[98, 111, 111, 108]⟩) by decide, show ¬ ((⟨#[91]⟩ : ByteArray) = ⟨#[115, 116, 114, 105, 110, 103]⟩) by decide, show ¬ ((⟨#[91]⟩ : ByteArray) = ⟨#[42]⟩) by decide, if_false, if_true]
  exact jK
 ·have hin := hin hb
  rw [hin] at hdep
  simp only [if_neg hb]
  exact jK

theorem aC4 {n : Nat} {r : Rec} {s : St} (tl : TL L) (c : hY L r) : YF L s (jB n r L hd s) := by
 have hd0 := tl.dep s.k
 unfold jB
 try simp only [R.then_assoc, R.then_ok]
 refine eK tl fun t s1 h1 h2 h3 _ _ => aCe (P := fun t => t.kind ≠ 37) tl (fun l s2 h4 h5 h6 h7 => aIt tl fun s3 h8 h9 => rK tl fun x s4 h10 h11 h12 h13 => gG tl (c.cD _ _) fun y s5 h14 h15 h16 => ⟨?_, ?_, ?_, qH h7 (kd (by decide))⟩) fun l s2 h4 h5 h6 h7 => ?_
 ·exact vR
 ·exact bJ
 ·exact bJ
 obtain ⟨h8, h9⟩ := h6
 have fin : ∀ (b y : Nd), ∀ u, [nd 6 t ⟨#[]⟩ l, y, b][0]? = some u → u.kind = 6 := fun b y u hu => by cases hu; rfl
 refine Ok.then (W := fun y s3 => Tr (40 - aU L s.k) y ∧ jH y + 4 * s2.next.k ≤ 4 * s3.k + 1 ∧ aU L s3.k = aU L s.k) ?_ fun y s3 w => ?_
 ·refine Ok.ite (fun _ => ?_) fun _ => (c.cD _ _).eY fun x s w => ?_
  ·exact ⟨lP (by omega), bJ, bJ⟩
  ·obtain ⟨w1, w2, w3⟩ := w
   exact ⟨w1.mono bJ, bJ, bJ⟩
 ·obtain ⟨k1, k2, k3⟩ := w
  refine gG tl (c.block _ _) fun b s4 k4 k5 k6 => ⟨?_, fin b y⟩
  exact aGf

theorem aJn {r : Rec} {s : St} (tl : TL L) (c : hY L r) : YE L s (pF r L hd s) := by
 have hd0 := tl.dep s.k
 unfold pF
 try simp only [R.then_assoc, R.then_ok, dH, eN]
 exact jK

theorem qK {r : Rec} (tl : TL L) (c : hY L r) {s0 : St} : ∀ (n : Nat) (out : List Nd) (s : St), mD (40 - aU L s0.k) out → lG out + 4 * s0.k ≤ 4 * s.k → aU L s.k = aU L s0.k → YL L s0 (kM r L hd n out s)
 | 0, _, _, _, _, _ => trivial
 | n + 1, out, s, h1, h2, hd0 => by
  unfold kM
  try simp only [R.then_assoc, R.then_ok, dH, eN]
  refine rH tl (by decide +kernel) (fun _ _ _ hs => qK tl c n _ _ h1 bJ bJ) fun _ => Ok.ite (fun _ => ⟨h1, h2, hd0⟩) fun _ => ?_
  refine aLj tl (c.stmt _ _) fun x s1 h3 h4 h5 => ?_
  rw [hd0] at h3
  refine Ok.ite (fun _ => ?_) fun _ => eK tl fun t s2 h6 h7 _ _ _ => ?_
  ·exact qK tl c n _ _ (.app h1 (.cons h3 .nil)) bJ (by omega)
  ·exact qK tl c n _ _ (.app h1 (.cons h3 .nil)) bJ bJ
theorem aK9 {n : Nat} {r : Rec} {s : St} (tl : TL L) (c : hY L r) : YL L s (rM n r L hd s) := qK tl c n [] s .nil (by simp [lG]) rfl

theorem aMm {r : Rec} {s : St} (tl : TL L) (c : hY L r) : YE L s (pJ r L hd s) := by
 unfold pJ
 try simp only [R.then_assoc, R.then_ok, dH, eN]
 exact gG tl (c.cH _ _) fun x s1 h1 h2 h3 => Ok.ite (fun _ => Ok.fail) fun _ => ⟨h1, h2, h3⟩

theorem aIl {r : Rec} {s s0 : St} {x : Nd} {bare : Bool} (tl : TL L) (c : hY L r) (hx : Tr (40 - aU L s0.k) x) (hw : jH x + 1 + 4 * s0.k ≤ 4 * s.k) (hdd : aU L s.k = aU L s0.k) : YS L s0 (nZ r x bare L hd s) := by
 have hd0 := tl.dep s0.k
 unfold nZ
 try simp only [R.then_assoc, R.then_ok, dH, eN]
 have htk := tl.tk s.k
 refine Ok.ite (fun h => ?_) fun _ => Ok.ite (fun h => ?_) fun _ => Ok.ite (fun h => ?_) fun _ => rH tl (by decide +kernel) (fun _ _ _ hs => ?_) fun _ => Ok.ite (fun h => ?_) fun _ => Ok.fail
 ·simp only [Bool.and_eq_true, decide_eq_true_eq] at h
  have hs := nU (v := 0) h.1.1 (by decide +kernel)
  refine gG tl (c.expr _ _) fun e s1 h1 h2 h3 => ⟨.of (aP0 hx h.1.2 (by decide)) (by decide) (by omega) ?_, bJ, bJ⟩
  exact vR
 ·simp only [Bool.and_eq_true] at h
  have h45 := wO h.1.1
  have hs := nU (v := 0) h.1.1 (by decide +kernel)
  refine gG tl (c.expr _ _) fun e s1 h1 h2 h3 => ⟨.of (rF htk (by omega) (by decide) (by omega)) (by decide) (by omega) ?_, bJ, bJ⟩
  exact vR
 ·simp only [Bool.and_eq_true] at h
  have h45 := wO h.1.1
  have hs := nU (v := 0) h.1.1 (by decide +kernel)
  exact ⟨.of (rF htk (by omega) (by decide) (by omega)) (by decide) (by omega) (.cons hx .nil), bJ, bJ⟩
 ·refine gG tl (c.expr _ _) fun e s1 h1 h2 h3 => ⟨.of (l0 (by decide) (by decide)) (by decide) (by omega) ?_, bJ, bJ⟩
  exact vR
 ·exact ⟨.of (l0 (by decide) (by decide)) (by decide) (by omega) (.cons hx .nil), bJ, hdd⟩

theorem aIw {r : Rec} {s : St} (tl : TL L) (c : hY L r) : YS L s (mS r L hd s) := by
 have hd0 := tl.dep s.k
 unfold mS
 try simp only [R.then_assoc, R.then_ok, dH, eN]
 refine rH tl (by decide +kernel) (fun _ _ _ hs => ?_) fun _ => ?_
 ·exact jK
 ·exact gG tl (c.cH _ _) fun x s1 h1 h2 h3 => aIl tl c h1 h2 h3

theorem aEo {r : Rec} {s : St} (tl : TL L) (c : hY L r) : YS L s (l7 r L hd s) := by
 have hd0 := tl.dep s.k
 unfold l7
 try simp only [R.then_assoc, R.then_ok, dH, eN]
 have htk := tl.tk s.k
 refine Ok.ite (fun h => ?_) fun _ => c.simple _ _
 simp only [jR, Bool.and_eq_true, decide_eq_true_eq] at h
 obtain ⟨h1, h2, h3⟩ := h
 have e1 := tl.k0 (k := s.k) (by omega)
 have e2 : aU L (s.k + 2) = aU L (s.k + 1) + pA ⟨#[58]⟩ := by
  show aU L (s.k + 1) + qE (aK L (s.k + 1)) = _
  unfold qE
  rw [if_pos (.inr h2), h3]
 refine Ok.ite (fun h4 => ?_) fun _ => Ok.fail
 have e3 : qE (aK L (s.goto (s.k + 2)).k) = 0 := by
  have := nU (v := 0) h4 (by decide +kernel)
  have e4 : aU L ((s.goto (s.k + 2)).k + 1) = aU L (s.goto (s.k + 2)).k + qE (aK L (s.goto (s.k + 2)).k) := rfl
  omega
 refine gG tl (c.nested _ _ e3) fun x s1 h5 h6 h7 => ?_
 exact aGf

theorem aNw {r : Rec} {s : St} (tl : TL L) (c : hY L r) : YS L s (uX r L hd s) := by
 have hd0 := tl.dep s.k
 unfold uX
 try simp only [R.then_assoc, R.then_ok, dH, eN]
 have htk := tl.tk s.k
 have htk1 := tl.tk (s.k + 1)
 refine Ok.ite (fun _ => Ok.ite (fun _ => (c.block _ _).toS) fun _ => aEo tl c) fun h4 => ?_
 have h4' : (aK L s.k).kind = 4 := Decidable.not_not.1 h4
 have e1 := tl.k0 (k := s.k) (by omega)
 have e0 : qE (aK L s.k) = 0 := htk.br (by omega)
 refine Ok.ite (fun _ => ?_) fun _ => Ok.ite (fun _ => (c.branch _ _ e0).toS) fun _ => Ok.ite (fun _ => (c.nested _ _ e0).toS) fun _ => Ok.ite (fun _ => ?_) fun _ => Ok.ite (fun _ => ?_) fun _ => Ok.ite (fun _ => ?_) fun _ => Ok.ite (fun _ => ?_) fun _ => aEo tl c
 ·exact jK
 ·refine Ok.ite (fun h1 => ?_) fun h1 => ?_
  ·have h1' : (aK L (s.k + 1)).kind = 1 := h1
   have e2 := tl.k0 (k := s.k + 1) (by omega)
   refine ⟨?_, bJ, bJ⟩
   split
   ·exact .of (rF htk1 (by omega) (by decide) (by omega)) (by decide) (by omega) .nil
   ·exact .of (rF htk1 (by omega) (by decide) (by omega)) (by decide) (by omega) .nil
  ·refine ⟨?_, bJ, bJ⟩
   split
   ·exact .of (l0 (by decide) (by decide)) (by decide) (by omega) .nil
   ·exact .of (l0 (by decide) (by decide)) (by decide) (by omega) .nil
 ·exact jK
 ·exact jK
 ·refine gG tl (aMm tl c) fun x s1 h1 h2 h3 => ⟨?_, bJ, bJ⟩
  split
  ·exact .of (l0 (by decide) (by decide)) (by decide) (by omega) (.cons (h1.mono bJ) .nil)
  ·exact .of (l0 (by decide) (by decide)) (by decide) (by omega) (.cons (h1.mono bJ) .nil)

theorem aGr {r : Rec} {s : St} (tl : TL L) (c : hY L r) (h0 : qE (aK L s.k) = 0) : YE L s (mG r L hd s) := by
 have hd0 := tl.dep s.k
 have e1 := aI7 h0
 unfold mG
 try simp only [R.then_assoc, R.then_ok, dH, eN]
 refine Ok.ite (fun _ => trivial) fun _ => gG tl (c.expr _ _) fun x s1 h1 h2 h3 => gG tl (c.block _ _) fun b s2 h4 h5 h6 => rH tl (by decide +kernel) (fun _ _ _ h7 => Ok.ite (fun h8 => ?_) fun _ => ?_) fun _ => ?_
 ·have e3 : qE (aK L s2.next.k) = 0 := by
   have := nU (v := 0) h8 (by decide +kernel)
   have e4 : aU L (s2.next.k + 1) = aU L s2.next.k + qE (aK L s2.next.k) := rfl
   omega
  refine gG tl (c.branch _ _ e3) fun y s3 h9 h10 h11 => ?_
  exact aGf
 ·exact jK
 ·exact jK

abbrev YC (L : List Tok) (s0 : St) (r : R Nd) : Prop := Ok (fun x s => Tr (41 - aU L s0.k) x ∧ jH x + 1 + 4 * s0.k ≤ 4 * s.k ∧ aU L s.k = aU L s0.k) r
theorem pE {r : Rec} {s : St} {α : Type} {W : α → St → Prop} {k : Nd → St → R α} (tl : TL L) (c : hY L r) (hk : ∀ x s1, Tr (41 - aU L s.k) x → jH x + 1 + 4 * s.k ≤ 4 * s1.k → aU L s1.k = aU L s.k → x.kind = 16 → Ok W (k x s1)) : Ok W ((fJ r L hd s).then k) := by
 have hd0 := tl.dep s.k
 unfold fJ
 try simp only [R.then_assoc, R.then_ok, dH, eN]
 refine eK tl fun t s1 h1 h2 h3 _ _ => aLi tl (c.stmts _ _) fun l s2 h5 h6 h7 => hk _ _ (.blk (l0 (by decide) (by decide)) (by omega) (h5.mono bJ)) bJ bJ rfl

theorem aAr {r : Rec} (tl : TL L) (c : hY L r) {s0 : St} : ∀ (n : Nat) (out : List Nd) (s : St), mD (40 - aU L s0.k) out → lG out + 4 * s0.k ≤ 4 * s.k → aU L s.k = aU L s0.k → YL L s0 (jO r L hd n out s)
 | 0, _, _, _, _, _ => trivial
 | n + 1, out, s, h1, h2, h3 => by
  unfold jO
  refine rH tl (by decide +kernel) (fun _ _ _ hs => gG tl (c.expr _ _) fun x s1 h4 h5 h6 => ?_) fun _ => ⟨h1, h2, h3⟩
  exact aAr tl c n _ _ (.app h1 (.cons (h4.mono bJ) .nil)) bJ bJ

theorem aGx {n : Nat} {r : Rec} {s : St} (tl : TL L) (c : hY L r) : YC L s (mH n r L hd s) := by
 have hd0 := tl.dep s.k
 unfold mH
 refine rH tl (by decide +kernel) (fun _ _ _ hs => pE tl c fun b s1 h1 h2 h3 hb => ?_) fun _ => eK tl fun t s1 h1 h2 _ _ _ => gG tl (c.expr _ _) fun e s2 h4 h5 h6 => ?_
 ·exact ⟨.of (aBb (l := []) (by decide) (.inl rfl) (fun a => by omega) (fun a => by omega) hb (fun a => by omega)) (by decide) (by omega) (.cons (h1.mono bJ) .nil), bJ, bJ⟩
 ·have e1 := aI8 ⟨#[99, 97, 115, 101]⟩ (by simp)
  rw [e1] at h2
  refine Ok.then (aAr tl c (s0 := s1) n [e] s2 (.cons h4 .nil) bJ h6) fun l s3 w => ?_
  obtain ⟨h7, h8, h9⟩ := w
  refine pE tl c fun b s4 h10 h11 h12 hb => ?_
  exact ⟨.of (aBb (by decide) (.inl rfl) (fun a => by omega) (fun a => by omega) hb (fun a => by omega)) (by decide) (by omega) (.app (h7.mono (by omega)) (.cons (h10.mono (by omega)) .nil)), bJ, by omega⟩

theorem aMq {r : Rec} {s : St} (tl : TL L) (c : hY L r) : YC L s (uE r L hd s) := by
 have hd0 := tl.dep s.k
 unfold uE
 refine rH tl (by decide +kernel) (fun _ _ _ hs => pE tl c fun b s1 h1 h2 h3 hb => ?_) fun _ => eK tl fun t s1 h1 h2 _ _ _ => ?_
 ·exact ⟨.of (aBb (l := []) (by decide) (.inr rfl) (fun _ a => absurd a (by decide)) (fun _ a => absurd a (by decide)) hb (fun _ a => absurd a (by decide))) (by decide) (by omega) (.cons (h1.mono bJ) .nil), bJ, bJ⟩
 ·have e1 := aI8 ⟨#[99, 97, 115, 101]⟩ (by simp)
  rw [e1] at h2
  have htk := tl.tk s1.k
  refine Ok.then (W := fun l s2 => mD (40 - aU L s1.k) l ∧ lG l + 4 * s1.k ≤ 4 * s2.k ∧ aU L s2.k = aU L s1.k ∧ ∀ t ∈ l, t.kind ≠ 37) ?_ fun l s2 w => ?_
  ·refine Ok.ite (fun h => Ok.ite (fun _ => ?_) fun _ => Ok.fail) fun _ => ⟨.nil, by simp [lG], rfl, tJ⟩
   simp only [jR, Bool.and_eq_true, decide_eq_true_eq] at h
   obtain ⟨h3, h4, h5⟩ := h
   have e2 := tl.k0 (k := s1.k) (by omega)
   have e3 : aU L (s1.k + 1 + 1) = aU L (s1.k + 1) + pA ⟨#[58, 61]⟩ := by
    show aU L (s1.k + 1) + qE (aK L (s1.k + 1)) = _
    unfold qE
    rw [if_pos (.inr h4), h5]
   rw [aI8 ⟨#[58, 61]⟩ (by simp)] at e3
   exact ⟨.cons (.of (rF htk (by omega) (by decide) (by omega)) (by decide) (by omega) .nil) .nil, bJ, bJ, qH (l := []) tJ (kd (by decide))⟩
  ·obtain ⟨h6, h7, h8, hkk⟩ := w
   refine rH tl (by decide +kernel) (fun _ _ _ hs => gG tl (c.unary _ _) fun u s3 h9 h10 h11 => pE tl c fun b s4 h12 h13 h14 hb => ?_) fun _ => ?_
   ·refine ⟨.of (aBb (by decide) (.inr rfl) (fun _ _ => by simp) (fun _ a => absurd a (by decide)) hb (fun _ _ hl t ht => by
     rw [List.length_append, List.length_singleton] at hl
     rw [List.getElem?_append_left (by omega)] at ht
     exact hkk t (List.mem_of_getElem? ht))) (by decide) (by omega) (.app (.app (h6.mono (by omega)) (.cons (h9.mono bJ) .nil)) (.cons (h12.mono bJ) .nil)), bJ, bJ⟩
   ·refine gG tl (c.cH _ _) fun x s3 h9 h10 h11 => eK tl fun t s4 h12 h13 _ _ _ => gG tl (c.expr _ _) fun e s5 h14 h15 h16 => pE tl c fun b s6 h17 h18 h19 hb => ?_
    rw [aQi] at h13
    exact ⟨.of (aBb (l := [x, e]) (by decide) (.inr rfl) (fun _ a => absurd a (by decide)) (fun _ _ => by simp) hb (fun _ a => absurd a (by decide))) (by decide) (by omega) (.cons (h9.mono (by omega)) (.cons (h14.mono (by omega)) (.cons (h17.mono (by omega)) .nil))), bJ, by omega⟩

theorem yM {n : Nat} {one : PF Nd} {s : St} (tl : TL L) (c : ∀ hd s, YC L s (one L hd s)) : YL L s (gL n one L hd s) := by
 unfold gL
 refine eK tl fun t s1 h1 h2 _ _ _ => ?_
 rw [wx5] at h2
 refine Ok.then (W := fun l s2 => mD (40 - aU L s.k) l ∧ lG l + 4 * s.k + 4 ≤ 4 * s2.k ∧ aU L s2.k = aU L s.k + 1 ∧ aU L (s2.k + 1) = aU L s.k) ?_ fun l s2 w => ⟨w.1, by have := w.2.1; exact bJ, w.2.2.2⟩
 have key : ∀ (m : Nat) (l : List Nd) (s2 : St), mD (40 - aU L s.k) l → lG l + 4 * s.k + 4 ≤ 4 * s2.k → aU L s2.k = aU L s.k + 1 → Ok (fun l s2 => mD (40 - aU L s.k) l ∧ lG l + 4 * s.k + 4 ≤ 4 * s2.k ∧ aU L s2.k = aU L s.k + 1 ∧ aU L (s2.k + 1) = aU L s.k) (dI L [⟨#[125]⟩] (fun out s => (one L false s).then fun x s => .ok (out ++ [x]) s) m l s2) := by
  intro m
  induction m with
  | zero => intro l s2 _ _ _; exact trivial
  | succ m ih =>
   intro l s2 h3 h4 h5
   unfold dI
   refine Ok.ite (fun hi => ⟨h3, h4, h5, ?_⟩) fun _ => ?_
   ·rw [nU (v := -1) hi (by decide +kernel), h5]; omega
   ·rw [R.then_assoc]
    refine (c false s2).then fun x s3 w => ?_
    obtain ⟨h6, h7, h8⟩ := w
    exact ih (l ++ [x]) s3 (.app h3 (.cons (h6.mono (by omega)) .nil)) bJ (by omega)
 exact key n [] s1 .nil (by simp only [lG]; omega) (by omega)

theorem aJ1 {r : Rec} {s : St} (tl : TL L) (c : hY L r) : Ok (fun (x : Nd × Bool) s' => Tr (40 - aU L s.k) x.1 ∧ jH x.1 + 4 * s.k ≤ 4 * s'.k ∧ aU L s'.k = aU L s.k) (pO r L hd s) := by
 have hd0 := tl.dep s.k
 unfold pO
 refine gG tl (c.expr _ _) fun e s1 h1 h2 h3 => ?_
 refine Ok.ite (fun _ => ⟨h1, bJ, h3⟩) fun _ => Ok.ite (fun _ => Ok.ite (fun _ => ⟨?_, bJ, h3⟩) fun _ => Ok.fail) fun _ => Ok.ite (fun _ => Ok.fail) fun _ => ?_
 ·exact .of (l0 (by decide) (by decide)) (by decide) (by omega) (.cons h1 .nil)
 ·exact aLj tl (aIl tl c h1 h2 h3) fun x s2 h4 h5 h6 => Ok.ite (fun _ => ⟨h4, h5, h6⟩) fun _ => Ok.fail

theorem aKh {r : Rec} {t : Tok} {f : Nd} {cl : Nd × Nd} {s s0 : St} (tl : TL L) (c : hY L r) (h1 : Tr (40 - aU L s0.k) f) (h2 : Tr (40 - aU L s0.k) cl.1) (h3 : Tr (40 - aU L s0.k) cl.2) (hw : jH f + jH cl.1 + jH cl.2 + 1 + 4 * s0.k ≤ 4 * s.k) (hdd : aU L s.k = aU L s0.k) : YE L s0 (yU r t L hd f cl s) := by
 have hd0 := tl.dep s0.k
 unfold yU
 exact jK
theorem aKg {r : Rec} {t : Tok} {fc : Nd × Nd} {s s0 : St} (tl : TL L) (c : hY L r) (h1 : Tr (40 - aU L s0.k) fc.1) (h2 : Tr (40 - aU L s0.k) fc.2) (hw : jH fc.1 + jH fc.2 + 2 + 4 * s0.k ≤ 4 * s.k) (hdd : aU L s.k = aU L s0.k) : YE L s0 (yT r t L hd fc s) := by
 have hd0 := tl.dep s0.k
 unfold yT
 refine Ok.then (W := fun x s2 => Tr (40 - aU L s0.k) x.1 ∧ Tr (40 - aU L s0.k) x.2 ∧ jH fc.1 + jH x.1 + jH x.2 + 1 + 4 * s0.k ≤ 4 * s2.k ∧ aU L s2.k = aU L s0.k) ?_ fun x s2 w => aKh tl c h1 w.1 w.2.1 w.2.2.1 w.2.2.2
 refine rH tl (by decide +kernel) (fun _ _ _ hs => ?_) fun _ => ⟨h2, lP (by omega), bJ, hdd⟩
 refine Ok.then (W := fun x s2 => Tr (40 - aU L s0.k) x ∧ jH fc.1 + jH x + 2 + 4 * s0.k ≤ 4 * s2.k ∧ aU L s2.k = aU L s0.k) ?_ fun x s2 w => ?_
 ·refine Ok.ite (fun _ => ⟨h2, bJ, bJ⟩) fun _ => (c.expr _ _).eY fun x s2 w => ?_
  obtain ⟨w1, w2, w3⟩ := w
  exact ⟨w1.mono bJ, bJ, bJ⟩
 ·obtain ⟨h3, h4, h5⟩ := w
  refine eK tl fun t s3 h6 h7 _ _ _ => ?_
  rw [wx8] at h7
  refine Ok.then (W := fun x s2 => Tr (40 - aU L s0.k) x ∧ jH x + 4 * s3.k ≤ 4 * s2.k + 1 ∧ aU L s2.k = aU L s0.k) ?_ fun l s4 w => ⟨h3, w.1, by have := w.2.1; exact bJ, w.2.2⟩
  refine Ok.ite (fun _ => ⟨lP (by omega), bJ, by omega⟩) fun _ => (c.simple _ _).eY fun x s2 w => ?_
  obtain ⟨w1, w2, w3⟩ := w
  exact ⟨w1.mono (by omega), bJ, by omega⟩
theorem aM8 {r : Rec} {t : Tok} {s s0 : St} (tl : TL L) (c : hY L r) (hs : s.k = s0.k + 1) (hdd : aU L s.k = aU L s0.k) : YE L s0 (sE r t L hd s) := by
 have hd0 := tl.dep s0.k
 unfold sE
 refine Ok.then (W := fun x s2 => Tr (40 - aU L s0.k) x.1 ∧ Tr (40 - aU L s0.k) x.2 ∧ jH x.1 + jH x.2 + 2 + 4 * s0.k ≤ 4 * s2.k ∧ aU L s2.k = aU L s0.k) ?_ fun x s2 w => aKg tl c w.1 w.2.1 w.2.2.1 w.2.2.2
 refine Ok.ite (fun _ => ⟨lP (by omega), lP (by omega), bJ, hdd⟩) fun _ => Ok.then (aJ1 tl c) fun x s1 w => ?_
 obtain ⟨h1, h2, h3⟩ := w
 rw [hdd] at h1 h3
 by_cases hb : x.2 = true
 ·rw [if_pos hb]; exact ⟨h1, lP (by omega), bJ, h3⟩
 ·rw [if_neg hb]; exact ⟨lP (by omega), h1, bJ, h3⟩

theorem aH2 {n : Nat} {r : Rec} {s : St} (tl : TL L) (c : hY L r) (h0 : qE (aK L s.k) = 0) : YE L s (mP n r L hd s) := by
 have hd0 := tl.dep s.k
 have e1 := aI7 h0
 unfold mP
 refine Ok.ite (fun _ => trivial) fun _ => Ok.ite (fun _ => aM8 tl c rfl e1) fun _ => Ok.ite (fun _ => ?_) fun _ => aLi tl (yM tl fun _ _ => aMq tl c) fun l s1 h1 h2 h3 => ?_
 ·refine Ok.then (W := fun x s2 => Tr (40 - aU L s.k) x ∧ jH x + 4 * (s.k + 1) ≤ 4 * s2.k + 1 ∧ aU L s2.k = aU L s.k) ?_ fun x s2 w => ?_
  ·refine Ok.ite (fun _ => ⟨lP (by omega), bJ, e1⟩) fun _ => (c.expr _ _).eY fun x s2 w => ?_
   obtain ⟨w1, w2, w3⟩ := w
   exact ⟨w1.mono bJ, bJ, bJ⟩
  ·obtain ⟨h3, h4, h5⟩ := w
   refine aLi tl (yM tl fun _ _ => aGx tl c) fun l s1 h6 h7 h8 => ?_
   exact jK
 ·exact jK

theorem aKd {t : Tok} (h : ¬ level t = 0) : t.kind = 5 ∧ pA t.text = 0 := by
 unfold level at h
 by_cases hk : t.kind ≠ 5
 ·rw [if_pos hk] at h; exact (h rfl).elim
 rw [if_neg hk] at h
 refine ⟨Decidable.not_not.1 hk, ?_⟩
 split at h
 ·rename_i e; rw [e]; decide +kernel
 split at h
 ·rename_i e; rw [e]; decide +kernel
 have key : ∀ {l : List ByteArray}, (l.all fun x => decide (pA x = 0)) = true → lR l t.text = true → pA t.text = 0 := fun hl hi => of_decide_eq_true (List.all_eq_true.1 hl _ (iN.1 hi))
 split at h
 ·rename_i e; exact key (by decide +kernel) e
 split at h
 ·rename_i e; exact key (by decide +kernel) e
 split at h
 ·rename_i e; exact key (by decide +kernel) e
 ·exact (h rfl).elim
theorem vV {r : Rec} {least : Int} (tl : TL L) (c : hY L r) {s0 : St} : ∀ (n : Nat) (x : Nd) (s : St), Tr (40 - aU L s0.k) x → jH x + 1 + 4 * s0.k ≤ 4 * s.k → aU L s.k = aU L s0.k → YE L s0 (iE r least L hd n x s)
 | 0, _, _, _, _, _ => trivial
 | n + 1, x, s, h1, h2, h3 => by
  have hd0 := tl.dep s0.k
  unfold iE
  refine Ok.ite (fun _ => ⟨h1, h2, h3⟩) fun h => gG tl (c.binary _ _ _) fun y s1 h4 h5 h6 => ?_
  have h7 := aKd fun e => h (.inr e)
  have e1 : aU L (s.k + 1) = aU L s.k := by
   show aU L s.k + qE (aK L s.k) = _
   unfold qE
   rw [if_pos (.inr h7.1), h7.2, Int.add_zero]
  exact vV tl c n _ _ (.of (rF (tl.tk _) (by omega) (by decide) (by omega)) (by decide) (by omega) (.cons h1 (.cons (h4.mono bJ) .nil))) bJ bJ
theorem aGm {n : Nat} {r : Rec} {least : Int} {s : St} (tl : TL L) (c : hY L r) : YE L s (oF n r least L hd s) :=
 gG tl (c.unary _ _) fun x s1 h1 h2 h3 => vV tl c n x s1 h1 h2 h3

theorem aLf {r : Rec} {s : St} (tl : TL L) (c : hY L r) : YE L s (qA r L hd s) := by
 have hd0 := tl.dep s.k
 unfold qA
 refine rH tl (by decide +kernel) (fun htk _ _ hs => ?_) fun _ => c.cH _ _
 exact jK

abbrev YX (L : List Tok) (s0 : St) (r : R (List Nd)) : Prop := Ok (fun x s => mD (40 - aU L s0.k) x ∧ lG x + 4 + 4 * s0.k ≤ 4 * s.k ∧ aU L s.k = aU L s0.k - 1) r
theorem aEc {n : Nat} {r : Rec} {s : St} (tl : TL L) (c : hY L r) : YX L s (eA n r ⟨#[41]⟩ L hd s) := by
 unfold eA
 refine aCd tl (fun l s2 h2 h3 h4 => aIt tl fun s3 h5 h6 => gG tl (c.expr _ _) fun x s4 h7 h8 h9 => ?_) fun l s2 h2 h3 h4 => ?_
 ·exact ⟨.app h2 (.cons (h7.mono (by omega)) .nil), bJ, by omega⟩
 ·obtain ⟨h5, h6⟩ := h4
  exact ⟨h2, bJ, bJ⟩

theorem aEf {r : Rec} {one : St → R Nd} (tl : TL L) (c : ∀ s, Ok (fun x s' => (Tr (40 - aU L s.k) x ∧ jH x + 1 + 4 * s.k ≤ 4 * s'.k ∧ aU L s'.k = aU L s.k) ∧ x.kind ≠ 37) (one s)) {s0 : St} : ∀ (n : Nat) (out : List Nd) (s : St), mD (40 - aU L s0.k) out → (∀ t ∈ out, t.kind ≠ 37) → lG out + 4 * s0.k ≤ 4 * s.k → aU L s.k = aU L s0.k → Ok (fun x s' => (mD (40 - aU L s0.k) x ∧ lG x + 4 + 4 * s0.k ≤ 4 * s'.k ∧ aU L s'.k = aU L s0.k - 1) ∧ ∀ t ∈ x, t.kind ≠ 37) (fZ r L hd one n out s)
 | 0, _, _, _, _, _, _ => trivial
 | n + 1, out, s, h1, hk, h2, h3 => by
  unfold fZ
  refine Ok.ite (fun hi => ⟨⟨h1, bJ, ?_⟩, hk⟩) fun _ => (c _).then fun x s1 w => y8 tl fun s2 h7 h8 => ?_
  ·show aU L (s.k + 1) = _
   rw [nU (v := -1) hi (by decide +kernel), h3]; omega
  ·obtain ⟨⟨h4, h5, h6⟩, h9⟩ := w
   exact aEf tl c n _ _ (.app h1 (.cons (h4.mono (by omega)) .nil)) (qH hk h9) bJ (by omega)

theorem aHw {n : Nat} {r : Rec} {t : Tok} {s : St} (tl : TL L) (c : hY L r) (hs : aU L (s.k + 1) = aU L s.k + pA t.text) : YE L s (kI n r t L hd s) := by
 have hd0 := tl.dep s.k
 unfold kI
 refine Ok.ite (fun h => ?_) fun _ => Ok.ite (fun _ => Ok.fail) fun _ => Ok.ite (fun h => ?_) fun _ => Ok.ite (fun h => ?_) fun _ => Ok.fail
 ·rw [h] at hs
  exact jK
 ·rw [h, show pA ⟨#[38]⟩ = 0 by decide +kernel] at hs
  refine rK tl fun x s1 h1 h2 h3 h4 => eK tl fun _ s2 h5 h6 _ _ _ => Ok.then (aEf tl (s0 := s2) (fun s => ?_) n [] s2 .nil tJ (by simp [lG]) rfl) fun l s3 w => ?_
  ·have hd1 := tl.dep s.k
   refine rK tl fun x s4 k1 k2 k3 k4 => eK tl fun _ s5 k5 k6 _ _ _ => gG tl (c.expr _ _) fun e s6 k7 k8 k9 => ⟨?_, kd (by decide)⟩
   rw [wx9] at k6
   exact aGf
  ·obtain ⟨⟨h7, h8, h9⟩, hkk⟩ := w
   rw [wx5] at h6
   exact jK
 ·rw [h] at hs
  refine eK tl fun _ s1 h1 h2 _ _ _ => gG tl (c.cD _ _) fun y s2 h3 h4 h5 => eK tl fun _ s3 h6 h7 _ _ _ => ?_
  rw [wx3] at hs; rw [wx4] at h2; rw [wx5] at h7
  refine Ok.then (W := fun x s' => mD (40 - aU L s.k) x ∧ lG x + 8 + 4 * s.k ≤ 4 * s'.k ∧ aU L s'.k = aU L s.k) ?_ fun l s4 w => ?_
  ·have key : ∀ (m : Nat) (out : List Nd) (s4 : St), mD (40 - aU L s.k) out → lG out + 8 + 4 * s.k ≤ 4 * s4.k → aU L s4.k = aU L s.k + 1 → Ok (fun x s' => mD (40 - aU L s.k) x ∧ lG x + 8 + 4 * s.k ≤ 4 * s'.k ∧ aU L s'.k = aU L s.k) (fZ r L hd (fun s => r.expr L hd s) m out s4) := by
    intro m
    induction m with
    | zero => intro _ _ _ _ _; exact trivial
    | succ m ih =>
     intro out s4 k1 k2 k3
     unfold fZ
     refine Ok.ite (fun hi => ⟨k1, bJ, ?_⟩) fun _ => gG tl (c.expr _ _) fun x s5 k4 k5 k6 => y8 tl fun s6 k7 k8 => ?_
     ·show aU L (s4.k + 1) = _
      rw [nU (v := -1) hi (by decide +kernel), k3]; omega
     ·exact ih _ _ (.app k1 (.cons (k4.mono (by omega)) .nil)) bJ (by omega)
   exact key n [y] s3 (.cons (h3.mono bJ) .nil) bJ bJ
  ·obtain ⟨h8, h9, h10⟩ := w
   exact jK

theorem aJ5 {t : Tok} (h : t.text = ⟨#[116, 114, 117, 101]⟩ ∨ t.text = ⟨#[102, 97, 108, 115, 101]⟩) : Fit 38 t.text 0 [] := by
 rcases h with h | h <;> rw [h] <;> exact ⟨by decide, by omega, fun _ => by decide, fun _ => by decide, fun a => by omega, fun a => by omega, fun a => by omega, fun a => by omega, fun a => by omega, fun a => by omega, fun a => by omega⟩

theorem aI6 {n : Nat} {r : Rec} {t : Tok} {s : St} (tl : TL L) (c : hY L r) (htk : TK t) (hk : t.kind = 4) (hs : aU L (s.k + 1) = aU L s.k) : YE L s (kN n r t L hd s) := by
 have hd0 := tl.dep s.k
 unfold kN
 refine Ok.ite (fun h => ⟨.of (aJ5 h) (by decide) (by omega) .nil, bJ, hs⟩) fun _ => Ok.ite (fun _ => ?_) fun _ => Ok.ite (fun _ => ?_) fun _ => Ok.ite (fun hmk => ?_) fun _ => Ok.ite (fun _ => ?_) fun hnn => Ok.ite (fun _ => ?_) fun _ => Ok.fail
 ·exact jK
 ·exact jK
 ·try simp only [R.then_assoc, R.then_ok, dH, eN]
  have hnn : ¬ t.text = ⟨#[110, 101, 119]⟩ := fun e => absurd (hmk.symm.trans e) (by decide)
  exact jK
 ·refine eK tl fun _ s1 h1 h2 _ _ _ => rK tl fun x s2 h3 h4 h5 h6 => eK tl fun _ s3 h7 h8 _ _ _ => ⟨.of (aL5 htk (by omega) fun _ u hu => by cases hu; exact kd (by decide)) (by decide) (by omega) ?_, ?_, ?_⟩
  ·exact vR
  ·exact bJ
  ·exact bJ
 ·refine eK tl fun _ s1 h1 h2 _ _ _ => Ok.then (aEc tl c) fun l s2 w => ?_
  obtain ⟨h3, h4, h5⟩ := w
  exact jK

theorem aFq {n : Nat} {r : Rec} {s : St} (tl : TL L) (c : hY L r) : YE L s (kU n r L hd s) := by
 have hd0 := tl.dep s.k
 unfold kU
 have htk := tl.tk s.k
 refine Ok.ite (fun h => ⟨.of ⟨by decide, htk.num, fun _ => by decide, fun a => by omega, fun a => by omega, fun a => by omega, fun a => by omega, fun a => by omega, fun a => by omega, fun a => by omega, fun a => by omega⟩ (by decide) (by omega) .nil, bJ, tl.k0 (by omega)⟩) fun _ => Ok.ite (fun h => ⟨.of ⟨htk.sz, by omega, fun a => (a rfl).elim, fun a => by omega, fun a => by omega, fun a => by omega, fun a => by omega, fun a => by omega, fun a => by omega, fun a => by omega, fun a => by omega⟩ (by decide) (by omega) .nil, bJ, tl.k0 (by omega)⟩) fun _ =>
  Ok.ite (fun h => ?_) fun _ => Ok.ite (fun h => aHw tl c ?_) fun _ => Ok.ite (fun h => aI6 tl c htk h (tl.k0 (by omega))) fun _ => Ok.fail
 ·have e1 := tl.k0 (k := s.k) (by omega)
  exact jK
 ·show aU L s.k + qE (aK L s.k) = _
  unfold qE
  rw [if_pos (.inr h)]

theorem aJ9 {r : Rec} {t : Tok} {x : Nd} {s s0 : St} (tl : TL L) (c : hY L r) (hx : Tr (40 - aU L s0.k) x) (hw : jH x + 4 + 4 * s0.k ≤ 4 * s.k) (hdd : aU L s.k = aU L s0.k + 1) : YE L s0 (l4 r t x L hd s) := by
 have hd0 := tl.dep s.k
 unfold l4
 try simp only [R.then_assoc, R.then_ok, dH, eN]
 refine rH tl (by decide +kernel) (fun _ _ _ _ => ?_) (fun _ => ?_)
 ·exact jK
 ·refine gG tl (c.expr _ _) fun e s1 h1 h2 h3 => Ok.ite (fun hi => ?_) fun _ => ?_
  ·have := nU (v := -1) hi (by decide +kernel)
   exact jK
  ·exact jK

theorem uS {nn : Nat} {r : Rec} (tl : TL L) (c : hY L r) {s0 : St} : ∀ (n : Nat) (x : Nd) (b : Bool) (s : St), Tr (40 - aU L s0.k) x → jH x + 1 + 4 * s0.k ≤ 4 * s.k → aU L s.k = aU L s0.k → Ok (fun (x : Nd × Bool) s' => Tr (40 - aU L s0.k) x.1 ∧ jH x.1 + 1 + 4 * s0.k ≤ 4 * s'.k ∧ aU L s'.k = aU L s0.k) (gW nn r L n x b s)
 | 0, _, _, _, _, _, _ => trivial
 | n + 1, x, b, s, h1, h2, h3 => by
  have hd0 := tl.dep s0.k
  unfold gW
  refine Ok.ite (fun hi => ?_) fun _ => ⟨h1, h2, h3⟩
  have hdep := zI hi
  have hin := aC5 hi
  refine gG tl (s := s0) ?_ fun y s1 h4 h5 h6 => uS tl c n y false s1 h4 h5 h6
  refine Ok.ite (fun h => ?_) fun g1 => Ok.ite (fun h => aJ9 tl c h1 bJ ?_) fun g2 => ?_
  ·rw [h] at hdep
   refine Ok.then (aEc tl c) fun l s2 w => ?_
   obtain ⟨h4, h5, h6⟩ := w
   exact jK
  ·rw [h] at hdep
   show aU L (s.k + 1) = _
   rw [hdep, wx3, h3]
  ·have e0 : pA (aK L s.k).text = 0 := by
    simp only [List.mem_cons, List.not_mem_nil, or_false] at hin
    rcases hin with h | h | h
    ·exact (g1 h).elim
    ·exact (g2 h).elim
    ·rw [h]; decide +kernel
   rw [e0] at hdep
   exact jK
theorem aFu {n : Nat} {r : Rec} {s : St} (tl : TL L) (c : hY L r) : YE L s (l8 n r L hd s) :=
 gG tl (aFq tl c) fun x s1 h1 h2 h3 => Ok.then (uS tl c n x _ s1 h1 h2 h3) fun y s2 w => w

theorem aMc (tl : TL L) : ∀ n, hY L (qQ n)
 | 0 => ⟨fun _ _ => trivial, fun _ _ => trivial, fun _ _ => trivial, fun _ _ => trivial, fun _ _ => trivial, fun _ _ _ => trivial, fun _ _ _ => trivial, fun _ _ => trivial, fun _ _ _ => trivial, fun _ _ => trivial, fun _ _ => trivial, fun _ _ => trivial⟩
 | n + 1 =>
  have c := aMc tl n
  ⟨fun _ _ => aQf tl c, fun _ _ => aC4 tl c, fun _ _ => aJn tl c, fun _ _ => aK9 tl c, fun _ _ => aNw tl c, fun _ _ h => aH2 tl c h, fun _ _ h => aGr tl c h, fun _ _ => c.binary _ _ _, fun _ _ _ => aGm tl c, fun _ _ => aLf tl c, fun _ _ => aFu tl c, fun _ _ => aIw tl c⟩

theorem aMt {n : Nat} {r : Rec} {s : St} (tl : TL L) (c : hY L r) : YE L s (uF n r L hd s) := by
 have hd0 := tl.dep s.k
 unfold uF r6
 refine rH tl (by decide +kernel) (fun _ _ _ hs => ?_) fun _ => rH tl (by decide +kernel) (fun _ _ _ hs => ?_) fun _ => rH tl (by decide +kernel) (fun _ _ _ hs => ?_) fun _ => Ok.fail
 ·refine rK tl fun x s1 h1 h2 h3 h4 => eK tl fun _ s2 h5 h6 _ _ _ => eK tl fun _ s3 h7 h8 _ _ _ => ?_
  rw [aI8 ⟨#[115, 116, 114, 117, 99, 116]⟩ (by simp)] at h6
  refine aCe (P := fun t => t.kind ≠ 37) tl (fun l s2 k2 k3 k4 k6 => ?_) fun l s2 k2 k3 k4 k6 => ?_
  ·refine rK tl fun x s4 h10 h11 h12 h13 => gG tl (c.cD _ _) fun y s5 h14 h15 h16 => eK tl fun _ s6 h17 h18 _ _ _ => ⟨?_, ?_, ?_, qH k6 (kd (by decide))⟩
   ·exact vR
   ·exact bJ
   ·rw [wx8] at h18
    exact bJ
  ·obtain ⟨k4, k5⟩ := k4
   exact jK
 ·exact jK
 ·exact jK

theorem aA8 {n : Nat} {r : Rec} (tl : TL L) (c : hY L r) {s0 : St} : ∀ (m : Nat) (out : List Nd) (s : St), mD (40 - aU L s0.k) out → lG out + 4 * s0.k ≤ 4 * s.k → aU L s.k = aU L s0.k → YL L s0 (nC n r L hd m out s)
 | 0, _, _, _, _, _ => trivial
 | m + 1, out, s, h1, h2, h3 => by
  unfold nC
  refine Ok.ite (fun _ => ⟨h1, h2, h3⟩) fun _ => gG tl (aMt tl c) fun x s1 h4 h5 h6 => eK tl fun t s2 h7 h8 _ _ _ => ?_
  rw [wx8] at h8
  exact aA8 tl c m _ _ (.app h1 (.cons (h4.mono (by omega)) .nil)) bJ (by omega)
theorem aM1 {n m : Nat} {s : St} (tl : TL L) (hs : s.k = 0) : Ok (fun x s' => Tr 40 x ∧ jH x ≤ 4 * s'.k + 1) (lH m (qQ n) L hd s) := by
 unfold lH
 refine Ok.then (aA8 tl (aMc tl n) (s0 := s) m [] s .nil (by simp [lG]) rfl) fun l s1 w => ?_
 obtain ⟨h1, h2, h3⟩ := w
 have e0 : aU L s.k = 0 := by rw [hs]; rfl
 rw [e0] at h1
 exact ⟨.of ⟨by decide, by omega, fun _ => by decide, fun a => by omega, fun a => by omega, fun a => by omega, fun a => by omega, fun a => by omega, fun a => by omega, fun a => by omega, fun a => by omega⟩ (by decide) (by omega) h1, bJ⟩

theorem aEj : ∀ (u : List UInt8) (a : Int) (m : Nat), 0 ≤ a → a < (m : Int) → (∀ b ∈ u, bN b.toNat = true) → 0 ≤ rL u a ∧ rL u a < ((m * 10 ^ u.length : Nat) : Int)
 | [], a, m, ha, hm, _ => by simp only [rL, List.length_nil, Nat.pow_zero, Nat.mul_one]; omega
 | b :: u, a, m, ha, hm, h => by
  have hb := h b List.mem_cons_self
  unfold bN at hb
  have hb := of_decide_eq_true hb
  have ih := aEj u (a * 10 + ((b.toNat : Int) - 48)) (m * 10) (by omega) (by omega) fun x hx => h x (List.mem_cons_of_mem _ hx)
  simp only [rL, List.length_cons]
  rw [Nat.pow_succ, Nat.mul_comm (10 ^ u.length) 10, ← Nat.mul_assoc]
  exact ih
theorem aKo {u : List UInt8} (h : ∀ b ∈ u, bN b.toNat = true) (hl : u.length ≤ 18) : 0 ≤ rL u 0 ∧ rL u 0 < 1000000000000000000 := by
 have h1 := aEj u 0 1 (Int.le_refl _) (by omega) h
 have h2 : (10 : Nat) ^ u.length ≤ 10 ^ 18 := Nat.pow_le_pow_right (by omega) hl
 have h3 : (10 : Nat) ^ 18 = 1000000000000000000 := by decide
 rw [Nat.one_mul] at h1
 omega
theorem aEz {u : List UInt8} : o9 (pG u) = u.all fun b => decide (32 < b.toNat) := rfl
theorem aFh : marks.all (fun w => decide (w.size ≤ 1000) && o9 w) = true := by decide +kernel

theorem aF5 : words.all (fun w => decide (pA w = 0)) = true := by decide +kernel
theorem aCg {t : Tok} (h : ¬ (t.kind = 4 ∨ t.kind = 5)) : qE t = 0 := by unfold qE; rw [if_neg h]
theorem aOa {A : List Tok} {t : Tok} (h : Val A t) : TK t := by
 rcases h with ⟨h1, h2, zs, h3, h4⟩ | ⟨h1, h2, h3, _⟩ | ⟨h1, h2, h3⟩ | ⟨h1, h2, u, h3, h4, _, h5, h6, h8⟩ | ⟨h1, u, h3, h4, h5, h6, _, h7⟩
 ·refine ⟨?_, by omega, fun h => (h h1).elim, fun h => by omega, fun _ => aCg (by omega)⟩
  rw [h3]
  have := h4.1
  show (strOf zs).data.size ≤ 1000
  unfold strOf
  simp only [List.size_toArray, List.length_map]
  omega
 ·exact ⟨by rw [h3]; decide, by omega, fun _ => by rw [h3]; decide, fun h => by omega, fun h => (h h1).elim⟩
 ·have h := List.all_eq_true.1 aFh _ (iN.1 h3)
  rw [Bool.and_eq_true, decide_eq_true_eq] at h
  exact ⟨h.1, by omega, fun _ => h.2, fun h => by omega, fun h => (h h1).elim⟩
 ·have hl : t.text.size = u.length := by rw [h3]; simp [pG, ByteArray.size]
  refine ⟨by omega, by omega, fun _ => ?_, fun _ => by rw [hl]; exact fun e => h4 (List.length_eq_zero_iff.1 e), fun _ => ?_⟩
  rotate_left
  ·rcases h1 with h1 | h1
   ·exact aCg (by omega)
   ·cases hw : lR words t.text with
    | false => rw [hw, if_neg (by simp)] at h8; omega
    | true =>
     unfold qE
     rw [if_pos (.inl h1)]
     exact of_decide_eq_true (List.all_eq_true.1 aF5 _ (iN.1 hw))
  rw [h3, aEz, List.all_eq_true]
  intro b hb
  have := h5 b hb
  unfold dQ eU bN at this
  simp only [Bool.or_eq_true, decide_eq_true_eq] at this
  exact decide_eq_true (by omega)
 ·have hl : t.text.size = u.length := by rw [h3]; simp [pG, ByteArray.size]
  refine ⟨by omega, by rw [h7]; exact aKo h5 h6, fun _ => ?_, fun h => by omega, fun _ => aCg (by omega)⟩
  rw [h3, aEz, List.all_eq_true]
  intro b hb
  have := h5 b hb
  unfold bN at this
  simp only [decide_eq_true_eq] at this
  exact decide_eq_true (by omega)

theorem aG1 (hk : ∀ k, TK (aK L k)) (h : fK L 0 = none) : ∀ k, aU L k ≤ 40 := by
 have key : ∀ k, k ≤ L.length → ∃ c, aU L k ≤ c ∧ 0 ≤ c ∧ c ≤ 40 ∧ fK (L.drop k) c = none := by
  intro k
  induction k with
  | zero => intro _; exact ⟨0, Int.le_refl _, by omega, by omega, h⟩
  | succ k ih =>
   intro hl
   obtain ⟨c, h1, h2, h3, h4⟩ := ih (by omega)
   have ht : aK L k = L[k] := by unfold aK; rw [List.getD_eq_getElem?_getD, List.getElem?_eq_getElem (by omega), Option.getD_some]
   rw [List.drop_eq_getElem_cons (by omega : k < L.length), ← ht] at h4
   have hd : aU L (k + 1) = aU L k + qE (aK L k) := rfl
   have hbr := (hk k).br
   unfold fK at h4
   by_cases h5 : (aK L k).kind ≠ 5
   ·rw [if_pos h5] at h4
    exact ⟨c, by rw [hd, hbr h5]; omega, h2, h3, h4⟩
   rw [if_neg h5] at h4
   have hw : qE (aK L k) = pA (aK L k).text := by unfold qE; rw [if_pos (.inr (Decidable.not_not.1 h5))]
   rw [hw] at hd
   unfold pA at hd
   by_cases h6 : lR tS (aK L k).text = true
   ·rw [if_pos h6] at h4 hd
    by_cases h7 : 40 < c + 1
    ·rw [if_pos h7] at h4; cases h4
    ·rw [if_neg h7] at h4
     exact ⟨c + 1, by omega, by omega, by omega, h4⟩
   rw [if_neg h6] at h4 hd
   by_cases h7 : lR qG (aK L k).text = true
   ·rw [if_pos h7] at h4 hd
    refine ⟨_, ?_, ?_, ?_, h4⟩ <;> split <;> omega
   ·rw [if_neg h7] at h4 hd
    exact ⟨c, by omega, h2, h3, h4⟩
 intro k
 rcases Nat.le_total k L.length with hl | hl
 ·obtain ⟨c, h1, _, h3, _⟩ := key k hl
  omega
 ·obtain ⟨c, h1, _, h3, _⟩ := key L.length (Nat.le_refl _)
  have : ∀ j, aU L (L.length + j) = aU L L.length := by
   intro j
   induction j with
   | zero => rfl
   | succ j ih =>
    show aU L (L.length + j) + qE (aK L (L.length + j)) = _
    have : aK L (L.length + j) = ⟨6, ⟨#[]⟩, 0, 0⟩ := by unfold aK; rw [List.getD_eq_getElem?_getD, List.getElem?_eq_none (by omega)]; rfl
    rw [ih, this, aCg (by decide), Int.add_zero]
  have h5 := this (k - L.length)
  rw [Nat.add_sub_cancel' hl] at h5
  omega

theorem aK4 (h : (eE src).uW = 0) : TL (eE src).tY := by
 have hz : src.size ≤ 8192 := by
  rcases Nat.lt_or_ge 8192 src.size with hz | hz
  ·unfold eE at h; rw [if_pos hz] at h; cases h
  ·exact hz
 obtain ⟨o, ho, e⟩ := aIq hz
 have h6 : ∀ p, TK ⟨6, ⟨#[]⟩, 0, p⟩ := fun p => { sz := Nat.zero_le _, num := ⟨Int.le_refl _, by show (0 : Int) < 1000000000000000000; decide⟩, o9 := fun _ => rfl, ne := fun h => absurd (show (6 : Int) = 1 ∨ (6 : Int) = 4 from h) (by decide), br := fun _ => aCg fun h => absurd (show (6 : Int) = 4 ∨ (6 : Int) = 5 from h) (by decide) }
 have hall : (∀ t ∈ (eE src).tY, TK t) ∧ fK (eE src).tY 0 = none := by
  cases hk : o.err.isOk with
  | false => rw [e, hk] at h; cases h
  | true =>
   obtain ⟨A, hA, hv, _⟩ := ho.aRd (fun i t h => by simp at h) hk
   rw [hk] at e
   simp only [if_true] at e
   cases hd : fK o.list 0 with
   | some p => rw [hd] at e; rw [e] at h; cases h
   | none =>
    rw [hd] at e
    rw [e]
    refine ⟨?_, hd⟩
    intro t ht
    replace ht : t ∈ o.list := ht
    rw [hA] at ht
    rcases List.mem_append.1 ht with ht | ht
    ·obtain ⟨i, hi⟩ := List.getElem?_of_mem ht
     exact aOa (hv i t hi)
    ·rw [List.mem_singleton.1 ht]; exact h6 _
 have hk : ∀ k, TK (aK (eE src).tY k) := by
  intro k
  unfold aK
  rw [List.getD_eq_getElem?_getD]
  rcases Nat.lt_or_ge k (eE src).tY.length with hk | hk
  ·rw [List.getElem?_eq_getElem hk]; exact hall.1 _ (List.getElem_mem hk)
  ·rw [List.getElem?_eq_none hk]; exact h6 _
 exact ⟨hk, aG1 hk hall.2⟩

theorem aBu (h : (lC src).2.1 = 0) : Tr 40 (lC src).1 ∧ jH (lC src).1 ≤ 50000 ∧ (lC src).1.kind = 1 := by
 have hp := (uQ src).1
 unfold tT at hp
 by_cases h0 : (eE src).uW = 0
 ·rw [if_neg (by simp [h0])] at hp
  obtain ⟨wf, _, _⟩ := vK h0
  have hl := wf.size
  have tl := aK4 h0
  generalize (eE src).tY = L at *
  have g : Alike (fun _ _ => True) L L 0 0 0 := ⟨trivial, fun p => ⟨p, trivial⟩, fun i _ _ => ⟨(aK L i).pos, trivial, by rw [Nat.zero_add]⟩⟩
  have hb := aHh g (m := 200000) false ⟨0, false⟩ (Nat.zero_le _)
  have hy := aM1 (n := 200000) (m := 200000) (hd := false) (s := ⟨0, false⟩) tl rfl
  have hk1 : ∀ t s, lH 200000 (qQ 200000) L false ⟨0, false⟩ = .ok t s → t.kind = 1 := by
   intro t s hr
   unfold lH at hr
   cases hg : nC 200000 (qQ 200000) L false 200000 [] ⟨0, false⟩ with
   | ok l s1 => rw [hg] at hr; injection hr with h1 _; rw [← h1]; rfl
   | bad i => rw [hg] at hr; cases hr
   | out => rw [hg] at hr; cases hr
  cases hr : lH 200000 (qQ 200000) L false ⟨0, false⟩ with
  | ok t s =>
   have hk := hk1 t s hr
   rw [hr] at hb hy hp
   have hpt := Option.some.inj hp
   rw [← hpt]
   obtain ⟨_, hs, _⟩ := hb
   obtain ⟨h1, h2⟩ := hy
   exact ⟨h1, by show jH t ≤ 50000; omega, hk⟩
  | bad i =>
   rw [hr] at hp
   have hpt := Option.some.inj hp
   rw [← hpt] at h; cases h
  | out => rw [hr] at hp; cases hp
 ·rw [if_pos h0] at hp
  have hpt := Option.some.inj hp
  rw [← hpt] at h
  exact (h0 h).elim

end Go.Proofs.ZL
end
