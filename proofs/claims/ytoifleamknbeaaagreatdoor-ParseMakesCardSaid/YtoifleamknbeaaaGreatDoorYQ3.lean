/- The document's parser, third part: rows of operators, statements. -/
import Derived.Test.YtoifleamknbeaaaGreatDoorYP1
import Derived.Test.YtoifleamknbeaaaGreatDoorYP3
import Derived.Test.YtoifleamknbeaaaGreatDoorYQ1
import Derived.Test.YtoifleamknbeaaaGreatDoorYQ2
section
open Go Go.Am
namespace Go.Proofs.ZL
set_option maxRecDepth 100000
set_option linter.unusedSimpArgs false
set_option linter.unusedVariables false
set_option maxHeartbeats 4000000
variable {h : aE} {Q : bW → Prop} {L : List Tok} {p : Nat} {hd : Bool} {src : ByteArray}
def pass (k : Int) : Nd → List (Tok × Nd) → Nd × List (Tok × Nd)
 | u, [] => (u, [])
 | u, (o, v) :: l => if level o = k then pass k (nd 42 o o.text [u, v]) l else (u, (o, (pass k v l).1) :: (pass k v l).2)
theorem m6 (k : Int) (u : Nd) : pass k u [] = (u, []) := by unfold pass; rfl
theorem iT (k : Int) (u v : Nd) (o : Tok) (l : List (Tok × Nd)) : pass k u ((o, v) :: l) = if level o = k then pass k (nd 42 o o.text [u, v]) l else (u, (o, (pass k v l).1) :: (pass k v l).2) := by rw [pass]
def cE : Nat → Nd × List (Tok × Nd) → Nd × List (Tok × Nd)
 | 0, x => x
 | d + 1, x => pass (5 - (d : Int)) (cE d x).1 (cE d x).2

theorem uU (k : Int) : ∀ (l : List (Tok × Nd)) (u : Nd), (pass k u l).2.length ≤ l.length
 | [], u => by rw [m6]; exact Nat.le_refl _
 | (o, v) :: l, u => by
  rw [iT]
  split
  ·exact Nat.le_trans (uU k l _) (by simp)
  ·simp only [List.length_cons]; exact Nat.succ_le_succ (uU k l v)

inductive Tr : Nd → List (Tok × Nd) → Nd → Prop
 | unit (u : Nd) : Tr u [] u
 | node {u t1 v t2 : Nd} {l1 l2 : List (Tok × Nd)} {o : Tok} : Tr u l1 t1 → Tr v l2 t2 → (∀ p ∈ l1, level o ≤ level p.1) → (∀ p ∈ l2, level o < level p.1) → Tr u (l1 ++ (o, v) :: l2) (nd 42 o o.text [t1, t2])

theorem vG {k : Int} {o : Tok} {v : Nd} {l2 : List (Tok × Nd)} (ho : level o ≠ k) : ∀ (l1 : List (Tok × Nd)) (u : Nd), pass k u (l1 ++ (o, v) :: l2) = ((pass k u l1).1, (pass k u l1).2 ++ (o, (pass k v l2).1) :: (pass k v l2).2)
 | [], u => by rw [List.nil_append, iT, if_neg ho, m6]; rfl
 | (o1, v1) :: l1, u => by
  rw [List.cons_append, iT, iT]
  by_cases h : level o1 = k
  ·rw [if_pos h, if_pos h]; exact vG ho l1 _
  ·rw [if_neg h, if_neg h, vG ho l1 v1]; rfl
theorem wI {k : Int} {o : Tok} {v : Nd} (ho : level o = k) : ∀ (l : List (Tok × Nd)) (u T : Nd), pass k u l = (T, []) → pass k u (l ++ [(o, v)]) = (nd 42 o o.text [T, v], [])
 | [], u, T, h => by rw [m6] at h; cases h; rw [List.nil_append, iT, if_pos ho, m6]
 | (o1, v1) :: l, u, T, h => by
  rw [iT] at h
  by_cases h1 : level o1 = k
  ·rw [if_pos h1] at h; rw [List.cons_append, iT, if_pos h1]; exact wI ho l _ T h
  ·rw [if_neg h1] at h; cases h
theorem uV {o : Tok} {u v : Nd} {l1 l2 : List (Tok × Nd)} : ∀ d : Nat, (∀ e : Nat, e < d → level o ≠ 5 - (e : Int)) → cE d (u, l1 ++ (o, v) :: l2) = ((cE d (u, l1)).1, (cE d (u, l1)).2 ++ (o, (cE d (v, l2)).1) :: (cE d (v, l2)).2)
 | 0, _ => rfl
 | d + 1, h => by
  show pass _ (cE d _).1 (cE d _).2 = _
  rw [uV d fun e he => h e (by omega)]
  exact vG (h d (by omega)) _ _
theorem pE : ∀ (f d : Nat) (x : Nd × List (Tok × Nd)) (T : Nd), cE d x = (T, []) → cE (d + f) x = (T, [])
 | 0, _, _, _, h => h
 | f + 1, d, x, T, h => by
  show pass _ (cE (d + f) x).1 (cE (d + f) x).2 = _
  rw [pE f d x T h]
  exact m6 _ _
theorem Tr.cE {u T : Nd} {l : List (Tok × Nd)} (h : Tr u l T) : ∀ d : Nat, d ≤ 5 → (∀ p ∈ l, 6 - (d : Int) ≤ level p.1 ∧ level p.1 ≤ 5) → cE d (u, l) = (T, []) := by
 induction h with
 | unit u => intro d _ _; have h := pE d 0 (u, []) u rfl; rwa [Nat.zero_add] at h
 | @node u t1 v t2 l1 l2 o h1 h2 g1 g2 ih1 ih2 =>
  intro d hd hl
  have ho := hl (o, v) (by simp)
  simp only at ho
  obtain ⟨e, he⟩ : ∃ e : Nat, level o = 5 - (e : Int) := ⟨(5 - level o).toNat, by omega⟩
  have i1 := ih1 (e + 1) (by omega) fun p hp => ⟨by have := g1 p hp; omega, (hl p (by simp [hp])).2⟩
  have i2 := ih2 e (by omega) fun p hp => ⟨by have := g2 p hp; omega, (hl p (by simp [hp])).2⟩
  have i3 : ZL.cE e (u, l1 ++ (o, v) :: l2) = ((ZL.cE e (u, l1)).1, (ZL.cE e (u, l1)).2 ++ [(o, t2)]) := by rw [uV e fun f hf => by omega, i2]
  have i4 : ZL.cE (e + 1) (u, l1 ++ (o, v) :: l2) = (nd 42 o o.text [t1, t2], []) := by
   show pass _ (ZL.cE e _).1 (ZL.cE e _).2 = _
   rw [i3]
   exact wI he _ _ _ i1
  have h := pE (d - (e + 1)) (e + 1) _ _ i4
  rwa [show e + 1 + (d - (e + 1)) = d by omega] at h

inductive Row (N : Nat) (L : List Tok) (hd : Bool) : St → Nd → List (Tok × Nd) → St → Prop
 | one {m : Nat} {s s' : St} {u : Nd} : m < N → (cU m).unary L hd s = .ok u s' → Row N L hd s u [] s'
 | more {s s1 s2 : St} {u v : Nd} {l l2 : List (Tok × Nd)} : Row N L hd s u l s1 → level (aF L s1.k) ≠ 0 → Row N L hd s1.next v l2 s2 → Row N L hd s u (l ++ (aF L s1.k, v) :: l2) (s2.with false)
inductive lH (N : Nat) (L : List Tok) (hd : Bool) : St → Nat → Prop
 | one {m : Nat} {s : St} {e : Nat} : m < N → (cU m).unary L hd s = .bad e → lH N L hd s e
 | more {s s1 : St} {u : Nd} {l : List (Tok × Nd)} {e : Nat} : Row N L hd s u l s1 → level (aF L s1.k) ≠ 0 → lH N L hd s1.next e → lH N L hd s e
theorem Row.mono {N : Nat} {s s' : St} {u : Nd} {l : List (Tok × Nd)} (h : Row N L hd s u l s') : Row (N + 1) L hd s u l s' := by
 induction h with
 | one hm hu => exact .one (by omega) hu
 | more _ hl _ i1 i2 => exact .more i1 hl i2
theorem lH.mono {N : Nat} {s : St} {e : Nat} (h : lH N L hd s e) : lH (N + 1) L hd s e := by
 induction h with
 | one hm hu => exact .one (by omega) hu
 | more r hl _ i => exact .more r.mono hl i
def uO (N : Nat) (L : List Tok) (hd : Bool) (least : Int) (s0 : St) : R Nd → Prop
 | .ok T s' => ∃ u l, Row N L hd s0 u l s' ∧ Tr u l T ∧ (∀ p ∈ l, least ≤ level p.1) ∧ (level (aF L s'.k) < least ∨ level (aF L s'.k) = 0)
 | .bad e => lH N L hd s0 e
 | .out => True
theorem uO.mono {N : Nat} {least : Int} {s0 : St} {r : R Nd} (h : uO N L hd least s0 r) : uO (N + 1) L hd least s0 r := by
 cases r with
 | ok T s' => obtain ⟨u, l, h1, h2⟩ := h; exact ⟨u, l, h1.mono, h2⟩
 | bad e => exact lH.mono h
 | out => trivial

theorem aIy {N m : Nat} {least : Int} {s0 : St} {u : Nd} (hb : ∀ least s, uO N L hd least s ((cU m).binary least L hd s)) : ∀ (f : Nat) (left : Nd) (s : St) (l : List (Tok × Nd)), Row N L hd s0 u l s → Tr u l left → (∀ p ∈ l, least ≤ level p.1) →
  (∀ p ∈ l, level (aF L s.k) ≤ level p.1) → uO N L hd least s0 (eX (cU m) least L hd f left s)
 | 0, _, _, _, _, _, _, _ => trivial
 | f + 1, left, s, l, row, tr, hl, hn => by
  unfold eX
  simp only
  by_cases hs : level (aF L s.k) < least ∨ level (aF L s.k) = 0
  ·rw [if_pos hs]; exact ⟨u, l, row, tr, hl, hs⟩
  ·rw [if_neg hs]
   have h2 := hb (level (aF L s.k) + 1) s.next
   cases hr : (cU m).binary (level (aF L s.k) + 1) L hd s.next with
   | out => trivial
   | bad e => rw [hr] at h2; exact .more row (fun h => hs (.inr h)) h2
   | ok T s2 =>
    rw [hr] at h2
    obtain ⟨v, l2, row2, tr2, hl2, hn2⟩ := h2
    rw [R.then_ok]
    refine aIy hb f _ _ _ (.more row (fun h => hs (.inr h)) row2) (.node tr tr2 hn fun p hp => by have := hl2 p hp; omega) (fun p hp => ?_) fun p hp => ?_
    ·rcases List.mem_append.1 hp with h | h
     ·exact hl p h
     ·rcases List.mem_cons.1 h with rfl | h
      ·simp only; omega
      ·have := hl2 p h; omega
    ·have hk : (s2.with false).k = s2.k := rfl
     rw [hk]
     have h0 : level (aF L s2.k) ≤ level (aF L s.k) := by
      have h5 : ¬ level (aF L s.k) = 0 := fun h => hs (.inr h)
      have h6 : 0 ≤ level (aF L s.k) := by unfold level; (repeat' split) <;> omega
      omega
     rcases List.mem_append.1 hp with h | h
     ·have := hn p h; omega
     ·rcases List.mem_cons.1 h with rfl | h
      ·exact h0
      ·have := hl2 p h; omega
theorem aEx : ∀ (n : Nat) (least : Int) (L : List Tok) (hd : Bool) (s : St), uO n L hd least s ((cU n).binary least L hd s)
 | 0, _, _, _, _ => trivial
 | n + 1, least, L, hd, s => by
  show uO _ _ _ _ _ (((cU n).unary L hd s).then fun u s => eX (cU n) least L hd n u s)
  cases hu : (cU n).unary L hd s with
  | out => trivial
  | bad e => exact .one (Nat.lt_succ_self _) hu
  | ok u s1 => exact aIy (fun least s => (aEx n least L hd s).mono) n u s1 [] (.one (Nat.lt_succ_self _) hu) (.unit u) (by simp) (by simp)

inductive Seq (N : Nat) (L : List Tok) (hd : Bool) : Nat → List (Tok × Nd) → Except Nat Nat → Prop
 | stop {k : Nat} : level (aF L k) = 0 → Seq N L hd k [] (.ok k)
 | step {k m : Nat} {b : Bool} {v : Nd} {s' : St} {l : List (Tok × Nd)} {r : Except Nat Nat} : level (aF L k) ≠ 0 → m < N → (cU m).unary L hd ⟨k + 1, b⟩ = .ok v s' → Seq N L hd s'.k l r → Seq N L hd k ((aF L k, v) :: l) r
 | bad {k m : Nat} {b : Bool} {e : Nat} : level (aF L k) ≠ 0 → m < N → (cU m).unary L hd ⟨k + 1, b⟩ = .bad e → Seq N L hd k [] (.error e)
theorem Row.seq {N : Nat} {s s' : St} {u : Nd} {l : List (Tok × Nd)} (h : Row N L hd s u l s') :
  ∃ m s1, m < N ∧ (cU m).unary L hd s = .ok u s1 ∧ s' = ⟨s'.k, l.isEmpty && s1.bare⟩ ∧ ∀ l2 r, Seq N L hd s'.k l2 r → Seq N L hd s1.k (l ++ l2) r := by
 induction h with
 | @one m s s' u hm hu => exact ⟨m, s', hm, hu, rfl, fun _ _ h => h⟩
 | @more s s1 s2 u v l l2 _ hl _ i1 i2 =>
  obtain ⟨m, sa, hm, hu, _, hs⟩ := i1
  obtain ⟨m2, sb, hm2, hu2, _, hs2⟩ := i2
  refine ⟨m, sa, hm, hu, by cases l <;> rfl, fun l3 r h => ?_⟩
  rw [List.append_assoc]
  exact hs _ _ (.step hl hm2 hu2 (hs2 _ _ h))
theorem lH.seq {N : Nat} {s : St} {e : Nat} (h : lH N L hd s e) :
  (∃ m, m < N ∧ (cU m).unary L hd s = .bad e) ∨ ∃ m u s1 l, m < N ∧ (cU m).unary L hd s = .ok u s1 ∧ Seq N L hd s1.k l (.error e) := by
 induction h with
 | @one m s e hm hu => exact .inl ⟨m, hm, hu⟩
 | @more s s1 u l e row hl _ i =>
  obtain ⟨m, sa, hm, hu, _, hs⟩ := row.seq
  refine .inr ⟨m, u, sa, ?_⟩
  rcases i with ⟨m2, hm2, hu2⟩ | ⟨m2, v, s3, l3, hm2, hu2, h3⟩
  ·exact ⟨_, hm, hu, hs _ _ (.bad hl hm2 hu2)⟩
  ·exact ⟨_, hm, hu, hs _ _ (.step hl hm2 hu2 h3)⟩
theorem uS (t : Tok) : 0 ≤ level t ∧ level t ≤ 5 := by unfold level; (repeat' split) <;> omega
theorem aFc {n : Nat} {s : St} (ho : (cU (n + 1)).expr L hd s ≠ .out) : (∃ m e, m < n ∧ (cU m).unary L hd s = .bad e ∧ (cU (n + 1)).expr L hd s = .bad e) ∨
  ∃ m u s1 l, m < n ∧ (cU m).unary L hd s = .ok u s1 ∧ ((∃ k, Seq n L hd s1.k l (.ok k) ∧ (cU (n + 1)).expr L hd s = .ok (cE 5 (u, l)).1 ⟨k, l.isEmpty && s1.bare⟩) ∨ ∃ e, Seq n L hd s1.k l (.error e) ∧ (cU (n + 1)).expr L hd s = .bad e) := by
 have h := aEx n 1 L hd s
 change (cU n).binary 1 L hd s ≠ .out at ho
 show (∃ m e, m < n ∧ (cU m).unary L hd s = .bad e ∧ (cU n).binary 1 L hd s = .bad e) ∨
  ∃ m u s1 l, m < n ∧ (cU m).unary L hd s = .ok u s1 ∧ ((∃ k, Seq n L hd s1.k l (.ok k) ∧ (cU n).binary 1 L hd s = .ok (cE 5 (u, l)).1 ⟨k, l.isEmpty && s1.bare⟩) ∨ ∃ e, Seq n L hd s1.k l (.error e) ∧ (cU n).binary 1 L hd s = .bad e)
 cases hr : (cU n).binary 1 L hd s with
 | out => exact (ho hr).elim
 | bad e =>
  rw [hr] at h
  rcases lH.seq h with ⟨m, hm, hu⟩ | ⟨m, u, s1, l, hm, hu, hs⟩
  ·exact .inl ⟨m, e, hm, hu, rfl⟩
  ·exact .inr ⟨m, u, s1, l, hm, hu, .inr ⟨e, hs, rfl⟩⟩
 | ok T s' =>
  rw [hr] at h
  obtain ⟨u, l, row, tr, hl, hn⟩ := h
  obtain ⟨m, s1, hm, hu, hb, hs⟩ := row.seq
  have hp := tr.cE 5 (by omega) fun p hp => ⟨by have := hl p hp; omega, (uS _).2⟩
  have h0 : level (aF L s'.k) = 0 := by have := uS (aF L s'.k); omega
  have hq := hs [] _ (.stop h0)
  rw [List.append_nil] at hq
  exact .inr ⟨m, u, s1, l, hm, hu, .inl ⟨s'.k, hq, by rw [hp, ← hb]⟩⟩

def uL {α : Type} (z : Nat) (C : List Value → α → Prop) (cs : List Value) (l : List α) : Prop := l.length * z ≤ cs.length ∧ ∀ q t, l[q]? = some t → C ((cs.drop (q * z)).take z) t
section
variable {α : Type} {z m : Nat} {C : List Value → α → Prop} {cs cs' vs : List Value} {l : List α} {t : α}
theorem uL.mono {C' : List Value → α → Prop} (h : uL z C cs l) (hC : ∀ vs t, C vs t → C' vs t) : uL z C' cs l := ⟨h.1, fun q t ht => hC _ _ (h.2 q t ht)⟩
theorem jL (cs : List Value) (a z N : Nat) (h : a + z ≤ N) : ((cs.take N).drop a).take z = (cs.drop a).take z := by rw [List.drop_take, List.take_take, Nat.min_eq_left (by omega)]
theorem uL.del (h : uL z C cs l) (hm : m < l.length) (hl' : (l.length - 1) * z ≤ cs'.length) (ht : cs'.take ((l.length - 1) * z) = cs.take (m * z) ++ (cs.drop ((m + 1) * z)).take ((l.length - 1 - m) * z)) : uL z C cs' (l.eraseIdx m) := by
 obtain ⟨h1, h2⟩ := h
 have hmz := Nat.le_trans (Nat.mul_le_mul_right z (show m + 1 ≤ l.length from hm)) h1
 have e0 := Nat.add_mul m 1 z
 have hA : (cs.take (m * z)).length = m * z := by rw [List.length_take]; omega
 refine ⟨by rw [List.length_eraseIdx, if_pos hm]; exact hl', fun q t hq => ?_⟩
 have hqN : q < l.length - 1 := by have := (List.getElem?_eq_some_iff.1 hq).1; rw [List.length_eraseIdx, if_pos hm] at this; exact this
 rw [List.getElem?_eraseIdx] at hq
 have e1 := Nat.add_mul q 1 z
 have e2 := Nat.mul_le_mul_right z (show q + 1 ≤ l.length - 1 from hqN)
 rw [← jL cs' (q * z) z ((l.length - 1) * z) (by omega), ht]
 by_cases hqm : q < m
 ·rw [if_pos hqm] at hq
  have e3 := Nat.mul_le_mul_right z (show q + 1 ≤ m from hqm)
  rw [List.drop_append_of_le_length (by omega), List.take_append_of_le_length (by rw [List.length_drop]; omega), jL _ _ _ _ (by omega)]
  exact h2 q t hq
 ·rw [if_neg hqm] at hq
  have e4 : q * z = m * z + (q - m) * z := by rw [← Nat.add_mul]; congr 1; omega
  have e5 := Nat.mul_le_mul_right z (show (q - m) + 1 ≤ l.length - 1 - m by omega)
  have e6 := Nat.add_mul (q - m) 1 z
  rw [List.drop_append, hA, List.drop_eq_nil_of_le (by omega), List.nil_append, show q * z - m * z = (q - m) * z by omega, jL _ _ _ _ (by omega), List.drop_drop, show (m + 1) * z + (q - m) * z = (q + 1) * z by rw [← Nat.add_mul]; congr 1; omega]
  exact h2 (q + 1) t hq
theorem uL.set (h : uL z C cs l) (hm : m < l.length) (hv : vs.length = z) (hc : C vs t) : uL z C (cH cs (m * z) vs) (l.set m t) := by
 obtain ⟨h1, h2⟩ := h
 have hmz := Nat.le_trans (Nat.mul_le_mul_right z (show m + 1 ≤ l.length from hm)) h1
 have e0 := Nat.add_mul m 1 z
 refine ⟨by rw [List.length_set, jI]; exact h1, fun q u hq => ?_⟩
 have hqN : q < l.length := by have := (List.getElem?_eq_some_iff.1 hq).1; rwa [List.length_set] at this
 have e1 := Nat.add_mul q 1 z
 by_cases hqm : q = m
 ·subst hqm
  rw [List.getElem?_set_self hm] at hq
  cases hq
  have : ((cH cs (q * z) vs).drop (q * z)).take z = vs := by
   apply List.ext_getElem?
   intro r
   by_cases hr : r < z
   ·rw [List.getElem?_take_of_lt hr, List.getElem?_drop, lT _ _ _ _ (by omega), if_pos (by omega), show q * z + r - q * z = r by omega]
   ·rw [List.getElem?_eq_none (by rw [List.length_take]; omega), List.getElem?_eq_none (by omega)]
  rw [this]
  exact hc
 ·rw [List.getElem?_set_ne (fun e => hqm e.symm)] at hq
  have : ((cH cs (m * z) vs).drop (q * z)).take z = (cs.drop (q * z)).take z := by
   apply List.ext_getElem?
   intro r
   by_cases hr : r < z
   ·rw [List.getElem?_take_of_lt hr, List.getElem?_take_of_lt hr, List.getElem?_drop, List.getElem?_drop, lT _ _ _ _ (by omega), if_neg]
    rcases Nat.lt_or_gt_of_ne hqm with h | h
    ·have := Nat.mul_le_mul_right z (show q + 1 ≤ m from h)
     omega
    ·have := Nat.mul_le_mul_right z (show m + 1 ≤ q from h)
     omega
   ·rw [List.getElem?_eq_none (by rw [List.length_take]; omega), List.getElem?_eq_none (by rw [List.length_take]; omega)]
  rw [this]
  exact h2 q u hq
theorem uL.snoc {old : List Value} (h : uL z C cs l) (ho : cs.take (l.length * z) = old) (hv : vs.length = z) (hc : C vs t) : uL z C (old ++ vs) (l ++ [t]) := by
 obtain ⟨h1, h2⟩ := h
 subst ho
 have hA : (cs.take (l.length * z)).length = l.length * z := by rw [List.length_take]; omega
 have e0 := Nat.add_mul l.length 1 z
 refine ⟨by rw [List.length_append, List.length_append, List.length_singleton, hA]; omega, fun q u hq => ?_⟩
 have e1 := Nat.add_mul q 1 z
 rcases Nat.lt_or_ge q l.length with h | h
 ·rw [List.getElem?_append_left h] at hq
  have e3 := Nat.mul_le_mul_right z (show q + 1 ≤ l.length from h)
  rw [List.drop_append_of_le_length (by omega), List.take_append_of_le_length (by rw [List.length_drop]; omega), jL _ _ _ _ (by omega)]
  exact h2 q u hq
 ·rw [List.getElem?_append_right h] at hq
  have hq0 : q = l.length := by
   have := (List.getElem?_eq_some_iff.1 hq).1
   rw [List.length_singleton] at this
   omega
  subst hq0
  rw [Nat.sub_self] at hq
  cases hq
  rw [List.drop_append, hA, List.drop_eq_nil_of_le (by omega), List.nil_append, Nat.sub_self, List.drop_zero, List.take_of_length_le (by omega)]
  exact hc
theorem uL.all (h : uL z C cs l) (hC : ∀ vs t, C vs t → vs.all (·.oneCell') = true) : ∀ n a, a + n ≤ l.length → ((cs.drop (a * z)).take (n * z)).all (·.oneCell') = true
 | 0, a, _ => by rw [Nat.zero_mul, List.take_zero]; rfl
 | n + 1, a, hn => by
  rw [show (n + 1) * z = z + n * z by rw [Nat.add_mul]; omega, List.take_add, List.all_append, List.drop_drop, show a * z + z = (a + 1) * z by rw [Nat.add_mul]; omega, uL.all h hC n (a + 1) (by omega), Bool.and_true]
  exact hC _ _ (h.2 a _ (List.getElem?_eq_getElem (by omega)))
end

theorem aId {P : Program} {ty e : TypeId} {j m z : Nat} {k : Int} {q : IntKind} (hu : P.underlying ty = some (.slice e)) (hs : dJ P e = some z) (hk : 0 ≤ k ∧ k ≤ m) :
  kP P ty (.slice (some ⟨j, 0, none⟩) m z) none (some (.int q k)) = some (.slice (some ⟨j, 0, none⟩) k.toNat z) := by
 unfold kP
 simp only [hu, lJ, hs]
 simp [hk.1, hk.2]
theorem aIv {P : Program} {ty e : TypeId} {j m z : Nat} {k : Int} {q : IntKind} (hu : P.underlying ty = some (.slice e)) (hs : dJ P e = some z) (hk : 0 ≤ k ∧ k ≤ m) :
  kP P ty (.slice (some ⟨j, 0, none⟩) m z) (some (.int q k)) none = some (.slice (some ⟨j, k.toNat * z, none⟩) (m - k.toNat) z) := by
 unfold kP
 simp only [hu, lJ, hs]
 simp [hk.1, hk.2]

section
variable {n : Nat} {F : List PanicEntry → aE → Prop} {env : Env} {h : aE} {lt : Bool} {ops : Array Oper} {d : Nat} {t : TypeId} {p : String} {a : Array Edge} {g : Option (Nat × Bool)} {K : Env → aE → (aE → Prop) → Prop}
theorem WS.del {ty ty' e : TypeId} {u : TypeDesc} {x y : Operand} {j m l z bytes off : Nat} {cs : List Value}
  (hx : aL G env x = some (.slice (some ⟨j, 0, none⟩) m z)) (hy : aL G env y = some (.slice (some ⟨j, off, none⟩) l z)) (hoff : off = (m + 1) * z)
  (ho : h.obj j = some (.cells false cs)) (hl : (m + 1 + l) * z ≤ cs.length) (hj : j < h.next) (h1 : ((cs.drop ((m + 1) * z)).take (l * z)).all (·.oneCell') = true) (hr : (m + l) * bytes ≤ room)
  (hg : cX ops env g = some true) (hn : Nat.blt d n = true) (hu : Tryz.prog.underlying ty = some (.slice e)) (hu' : Tryz.prog.underlying ty' = some u) (hi : ∀ k, u ≠ .int k) (he : eV Tryz.prog e = some (z, bytes))
  (hk : ∀ h' j' cs', h.next ≤ h'.next → (j' = j ∨ j' = h.next) → j' < h'.next → h'.obj j' = some (.cells false cs') → (m + l) * z ≤ cs'.length → cs'.take ((m + l) * z) = cs.take (m * z) ++ (cs.drop ((m + 1) * z)).take (l * z) → (∀ i, i < h.next → i ≠ j → h'.obj i = h.obj i) →
   K (bE env d (.slice (some ⟨j', 0, none⟩) (m + l) z)) h' fun _ => False) :
  WS Tryz.prog G X n lt ops ⟨some d, .call ⟨.builtin .append, #[x, y], #[ty, ty']⟩, t, p, a, g⟩ env h K F := by
 subst hoff
 have e1 := Nat.add_mul (m + 1) l z
 have e2 := Nat.add_mul m 1 z
 have e3 := Nat.add_mul m l z
 rcases Nat.eq_zero_or_pos l with h0 | hpos
 ·subst h0
  refine WS.wY hg hn (v := .slice (some ⟨j, 0, none⟩) m z) (h' := h) ?_ ?_
  ·simp only [dD, iO, bM, hx, hy, kZ, List.getElem?_toArray, List.getElem?_cons_zero, List.getElem?_cons_succ, hu, hu', he, jS]
   cases u <;> first | exact (hi _ rfl).elim | simp
  ·exact hk h j cs (Nat.le_refl _) (.inl rfl) hj ho (by omega) (by rw [Nat.zero_mul, List.take_zero, List.append_nil]; rfl) fun _ _ _ => rfl
 ·have hsa : l9 h (some ⟨j, 0, none⟩) m z z (cs.take (m * z)) := .inr ⟨j, 0, cs, rfl, rfl, ho, by omega, by rw [List.drop_zero]⟩
  obtain ⟨h', q1, q2, q3, q4⟩ := nI (P := Tryz.prog) (ty := ty) (ty' := ty') (j := j) (off := (m + 1) * z) (m := l) hu hu' hi he hpos ho (by omega) rfl hr h1 hsa
  refine WS.wY hg hn (v := .slice (some ⟨h.next, 0, none⟩) (m + l) z) (h' := h') ?_ ?_
  ·simp only [dD, iO, bM, hx, hy, q1, Option.map_some]
  ·have hlen : (cs.take (m * z) ++ (cs.drop ((m + 1) * z)).take (l * z)).length = (m + l) * z := by
    rw [List.length_append, List.length_take, List.length_take, List.length_drop]
    omega
   exact hk h' h.next _ (by omega) (.inr rfl) (by omega) q3 (by omega) (by rw [← hlen, List.take_length]) fun i hi hne => q4 i hi fun off e => hne (by cases e; rfl)
theorem WS.aLg {ty ty' e : TypeId} {u : TypeDesc} {x y : Operand} {b : Option Addr} {n1 es j z bytes : Nat} {old vs : List Value}
  (hx : aL G env x = some (.slice b n1 es)) (hy : aL G env y = some (.slice (some ⟨j, 0, none⟩) 1 z)) (hs : l9 h b n1 es z old) (ho : h.obj j = some (.cells false vs)) (hv : vs.length = z) (h1 : vs.all (·.oneCell') = true) (hr : (n1 + 1) * bytes ≤ room)
  (hg : cX ops env g = some true) (hn : Nat.blt d n = true) (hu : Tryz.prog.underlying ty = some (.slice e)) (hu' : Tryz.prog.underlying ty' = some u) (hi : ∀ k, u ≠ .int k) (he : eV Tryz.prog e = some (z, bytes))
  (hk : ∀ h', h'.next = h.next + 1 → h'.obj h.next = some (.cells false (old ++ vs)) → (∀ i, i < h.next → (∀ off, b ≠ some ⟨i, off, none⟩) → h'.obj i = h.obj i) → K (bE env d (.slice (some ⟨h.next, 0, none⟩) (n1 + 1) z)) h' fun _ => False) :
  WS Tryz.prog G X n lt ops ⟨some d, .call ⟨.builtin .append, #[x, y], #[ty, ty']⟩, t, p, a, g⟩ env h K F := by
 obtain ⟨h', q1, q2, q3, q4⟩ := nI (P := Tryz.prog) (ty := ty) (ty' := ty') (j := j) (off := 0) (m := 1) (new := vs) hu hu' hi he Nat.one_pos ho (by omega) (by rw [List.drop_zero, Nat.one_mul, List.take_of_length_le (by omega)]) hr h1 hs
 refine WS.wY hg hn (v := .slice (some ⟨h.next, 0, none⟩) (n1 + 1) z) (h' := h') ?_ (hk h' q2 q3 q4)
 simp only [dD, iO, bM, hx, hy, q1, Option.map_some]
end

def TV (h : aE) (S : Nat → Prop) (b : Option Addr) (n es : Nat) (l : List Tok) : Prop :=
 (b = none ∧ n = 0 ∧ es = 0 ∧ l = []) ∨ ∃ i cs, b = some ⟨i, 0, none⟩ ∧ S i ∧ i < h.next ∧ es = 4 ∧ n = l.length ∧ h.obj i = some (.cells false cs) ∧ uL 4 (fun vs t => vs = t.cells) cs l
theorem TV.mono {h h' : aE} {S S' : Nat → Prop} {b : Option Addr} {n es : Nat} {l : List Tok} (hn : h.next ≤ h'.next) (ho : ∀ j, S j → j < h.next → S' j ∧ h'.obj j = h.obj j) (hk : TV h S b n es l) : TV h' S' b n es l := by
 rcases hk with ⟨rfl, rfl, rfl, rfl⟩ | ⟨i, cs, rfl, h1, h2, rfl, rfl, h3, h4⟩
 ·exact .inl ⟨rfl, rfl, rfl, rfl⟩
 ·exact .inr ⟨i, cs, rfl, (ho i h1 h2).1, Nat.lt_of_lt_of_le h2 hn, rfl, rfl, by rw [(ho i h1 h2).2]; exact h3, h4⟩
theorem TV.kp {h h' : aE} {S S' : Nat → Prop} {b : Option Addr} {n es : Nat} {l : List Tok} (hk : TV h S b n es l) (hn : h.next ≤ h'.next := by exact aB) (ho : ∀ j, S j → j < h.next → S' j ∧ h'.obj j = h.obj j := by (intro j hS hj; (try simp only [UB, UC] at hS); first | exact ⟨aB, bJ⟩ | exact ⟨⟨aB, aB⟩, bJ⟩ | exact ⟨⟨aB, aB, aB⟩, bJ⟩)) : TV h' S' b n es l := TV.mono hn ho hk
theorem TV.len {S : Nat → Prop} {b : Option Addr} {n es : Nat} {l : List Tok} (hk : TV h S b n es l) : n = l.length := by
 rcases hk with ⟨_, rfl, _, rfl⟩ | ⟨i, cs, _, _, _, _, rfl, _⟩ <;> rfl
theorem TV.sliceAt {S : Nat → Prop} {b : Option Addr} {n es : Nat} {l : List Tok} (hk : TV h S b n es l) : ∃ old, l9 h b n es 4 old ∧ (∀ j off, b = some ⟨j, off, none⟩ → S j ∧ j < h.next) ∧ ∀ t : Tok, uL 4 (fun vs t => vs = t.cells) (old ++ t.cells) (l ++ [t]) := by
 rcases hk with ⟨rfl, rfl, rfl, rfl⟩ | ⟨i, cs, rfl, h1, h2, rfl, rfl, h3, h4⟩
 ·exact ⟨[], .inl ⟨rfl, rfl, rfl, rfl⟩, (fun j off e => by cases e), fun t => uL.snoc (cs := []) (l := []) ⟨by simp, by simp⟩ rfl rfl rfl⟩
 ·exact ⟨cs.take (l.length * 4), .inr ⟨i, 0, cs, rfl, rfl, h3, by have := h4.1; omega, by rw [List.drop_zero]⟩, (fun j off e => by cases e; exact ⟨h1, h2⟩), fun t => h4.snoc rfl rfl rfl⟩

theorem WS.aMq {n : Nat} {F : List PanicEntry → aE → Prop} {env : Env} {lt : Bool} {ops : Array Oper} {d : Nat} {t : TypeId} {p : String} {a : Array Edge} {g : Option (Nat × Bool)} {K : Env → aE → (aE → Prop) → Prop}
  {ty ty' e : TypeId} {u : TypeDesc} {x y : Operand} {b : Option Addr} {n1 es j bytes : Nat} {S : Nat → Prop} {l : List Tok} {tk : Tok}
  (tv : TV h S b n1 es l) (ho : h.obj j = some (.cells false tk.cells)) (hr : (n1 + 1) * bytes ≤ room)
  (hg : cX ops env g = some true) (hn : Nat.blt d n = true) (hx : aL G env x = some (.slice b n1 es)) (hy : aL G env y = some (.slice (some ⟨j, 0, none⟩) 1 4)) (hu : Tryz.prog.underlying ty = some (.slice e)) (hu' : Tryz.prog.underlying ty' = some u) (hi : ∀ k, u ≠ .int k) (he : eV Tryz.prog e = some (4, bytes))
  (hk : ∀ h', h'.next = h.next + 1 → (∀ i, i < h.next → (∀ off, b ≠ some ⟨i, off, none⟩) → h'.obj i = h.obj i) → TV h' (fun x => S x ∨ x = h.next) (some ⟨h.next, 0, none⟩) (n1 + 1) 4 (l ++ [tk]) → K (bE env d (.slice (some ⟨h.next, 0, none⟩) (n1 + 1) 4)) h' fun _ => False) :
  WS Tryz.prog G X n lt ops ⟨some d, .call ⟨.builtin .append, #[x, y], #[ty, ty']⟩, t, p, a, g⟩ env h K F := by
 obtain ⟨old, hsl, hob, hck⟩ := tv.sliceAt
 have hlen := tv.len
 exact WS.aLg hx hy hsl ho rfl rfl hr hg hn hu hu' hi he fun h' h1 h2 h3 => hk h' h1 h3 (.inr ⟨h.next, _, rfl, .inr rfl, by omega, rfl, by rw [List.length_append, List.length_singleton, hlen], h2, hck tk⟩)

theorem TV.at {S : Nat → Prop} {i n es : Nat} {l : List Tok} (tv : TV h S (some ⟨i, 0, none⟩) n es l) : TV h (fun j => j = i) (some ⟨i, 0, none⟩) n es l := by
 rcases tv with ⟨e, _⟩ | ⟨j, cs, e, h1, h2⟩
 ·cases e
 ·cases e; exact .inr ⟨i, cs, rfl, rfl, h2⟩

def dS : List ByteArray := [⟨#[118, 97, 114]⟩, ⟨#[98, 114, 101, 97, 107]⟩, ⟨#[99, 111, 110, 116, 105, 110, 117, 101]⟩, ⟨#[102, 97, 108, 108, 116, 104, 114, 111, 117, 103, 104]⟩, ⟨#[114, 101, 116, 117, 114, 110]⟩, ⟨#[103, 111]⟩, ⟨#[100, 101, 102, 101, 114]⟩]
def wK (r : Rec) (t : Tok) : PF Nd := fun L hd s =>
 if t.text = ⟨#[118, 97, 114]⟩ then (eD L s).then fun n s => (r.cW L hd s).then fun ty s => (if bA L s [⟨#[61]⟩] then r.expr L hd s.next else .ok aY s).then fun e s => .ok (nd 18 t n.text [ty, e]) s
 else if t.text = ⟨#[98, 114, 101, 97, 107]⟩ ∨ t.text = ⟨#[99, 111, 110, 116, 105, 110, 117, 101]⟩ then
  (if (aF L s.k).kind = 1 then .ok (nd (if t.text = ⟨#[98, 114, 101, 97, 107]⟩ then 27 else 28) t (aF L s.k).text []) s.next else .ok (nd (if t.text = ⟨#[98, 114, 101, 97, 107]⟩ then 27 else 28) t ⟨#[]⟩ []) s)
 else if t.text = ⟨#[102, 97, 108, 108, 116, 104, 114, 111, 117, 103, 104]⟩ then .ok (nd 29 t ⟨#[]⟩ []) s
 else if t.text = ⟨#[114, 101, 116, 117, 114, 110]⟩ then (if bA L s [⟨#[59]⟩, ⟨#[125]⟩, ⟨#[99, 97, 115, 101]⟩, ⟨#[100, 101, 102, 97, 117, 108, 116]⟩] then .ok (nd 30 t ⟨#[]⟩ [aY]) s else (r.expr L hd s).then fun e s => .ok (nd 30 t ⟨#[]⟩ [e]) s)
 else (oW r L hd s).then fun c s => .ok (nd (if t.text = ⟨#[100, 101, 102, 101, 114]⟩ then 32 else 31) t ⟨#[]⟩ [c]) s
def aEr (r : Rec) : PF Nd := fun L hd s =>
 if bA L s [⟨#[123]⟩] then r.block L hd s
 else if bA L s cK then r.nested L hd s
 else if decide ((aF L s.k).kind = 1) && dL (aF L (s.k + 1)) ⟨#[58]⟩ then
  (if bA L (s.goto (s.k + 2)) cK then (r.nested L hd (s.goto (s.k + 2))).then fun x s' => .ok (nd 35 (aF L s.k) (aF L s.k).text [x]) s' else eA L (s.goto (s.k + 2)))
 else if bA L s [⟨#[105, 102]⟩] then r.branch L hd s
 else if decide ((aF L s.k).kind = 4) && dE dS (aF L s.k).text then wK r (aF L s.k) L hd s.next
 else r.simple L hd s

theorem aHi (w : WFX L) (r : Rec) (hd : Bool) (s : St) : rS r L hd s = aEr r L hd s := by
 have hwd := w.wd s.k
 have hmk := w.mks s.k
 unfold rS aEr mN
 simp only
 by_cases h4 : (aF L s.k).kind = 4
 ·have hm := hwd h4
  have e : ∀ ts, bA L s ts = dE ts (aF L s.k).text := by intro ts; unfold bA kI; rw [decide_eq_true h4]; simp
  have h1 : decide ((aF L s.k).kind = 1) = false := decide_eq_false (by omega)
  rw [if_neg (show ¬ ((aF L s.k).kind ≠ 4) by simp [h4])]
  simp only [e, decide_eq_true h4, h1, Bool.true_and, Bool.false_and]
  clear e h1 hwd hmk
  generalize aF L s.k = t at *
  unfold wK
  have hne : dE [⟨#[123]⟩] t.text = false := by
   cases hb : dE [⟨#[123]⟩] t.text with
   | false => rfl
   | true =>
    have := bL.1 hb
    simp only [List.mem_cons, List.not_mem_nil, or_false] at this
    rw [this] at hm
    exact absurd hm (by decide +kernel)
  rw [hne]
  by_cases hl : dE cK t.text = true
  ·have h := bL.1 hl
   unfold cK at h
   simp only [List.mem_cons, List.not_mem_nil, or_false] at h
   rcases h with h | h | h <;> (simp only [h]; repeat (first | rw [if_pos (by decide +kernel)] | rw [if_neg (by decide +kernel)]))
  by_cases hw : dE dS t.text = true
  ·have h := bL.1 hw
   unfold dS at h
   simp only [List.mem_cons, List.not_mem_nil, or_false] at h
   generalize (if bA L s.next [⟨#[59]⟩, ⟨#[125]⟩, ⟨#[99, 97, 115, 101]⟩, ⟨#[100, 101, 102, 97, 117, 108, 116]⟩] then R.ok (nd 30 t ⟨#[]⟩ [aY]) s.next else (r.expr L hd s.next).then fun e s => R.ok (nd 30 t ⟨#[]⟩ [e]) s : R Nd) = Z
   by_cases hk : (aF L s.next.k).kind = 1 <;> rcases h with h | h | h | h | h | h | h <;> (simp only [h, hk, if_true, if_false]; repeat (first | rw [if_pos (by decide +kernel)] | rw [if_neg (by decide +kernel)]))
  by_cases hi : t.text = ⟨#[105, 102]⟩
  ·simp only [hi]
   repeat (first | rw [if_pos (by decide +kernel)] | rw [if_neg (by decide +kernel)])
  ·have n1 : ∀ w ∈ cK, ¬ t.text = w := fun w hw' e => hl (bL.2 (e ▸ hw'))
   have n2 : ∀ w ∈ dS, ¬ t.text = w := fun w hw' e => hw (bL.2 (e ▸ hw'))
   have q : ∀ w, dE [w] t.text = true ↔ t.text = w := by intro w; rw [bL]; simp
   have a1 := n1 ⟨#[102, 111, 114]⟩ (by simp [cK])
   have a2 := n1 ⟨#[115, 119, 105, 116, 99, 104]⟩ (by simp [cK])
   have a3 := n1 ⟨#[115, 101, 108, 101, 99, 116]⟩ (by simp [cK])
   have b1 := n2 ⟨#[118, 97, 114]⟩ (by simp [dS])
   have b2 := n2 ⟨#[98, 114, 101, 97, 107]⟩ (by simp [dS])
   have b3 := n2 ⟨#[99, 111, 110, 116, 105, 110, 117, 101]⟩ (by simp [dS])
   have b4 := n2 ⟨#[102, 97, 108, 108, 116, 104, 114, 111, 117, 103, 104]⟩ (by simp [dS])
   have b5 := n2 ⟨#[114, 101, 116, 117, 114, 110]⟩ (by simp [dS])
   have b6 := n2 ⟨#[103, 111]⟩ (by simp [dS])
   have b7 := n2 ⟨#[100, 101, 102, 101, 114]⟩ (by simp [dS])
   rw [if_neg b1, if_neg hi, if_neg (by simp only [a1, a2, a3, or_self, not_false_eq_true]), if_neg (by simp only [b2, b3, or_self, not_false_eq_true]), if_neg b4, if_neg b5, if_neg (by simp only [b6, b7, or_self, not_false_eq_true]), if_neg Bool.false_ne_true,
    if_neg Bool.false_ne_true, if_neg hl, if_neg Bool.false_ne_true, if_neg (fun h => hi ((q _).1 h)), if_neg hw]
 ·rw [if_pos (show (aF L s.k).kind ≠ 4 from h4)]
  have e : ∀ ts, ts.all (fun x => !dE marks x) = true → bA L s ts = false := by
   intro ts ht
   unfold bA kI
   by_cases h5 : (aF L s.k).kind = 5
   ·cases hb : dE ts (aF L s.k).text with
    | false => rw [Bool.and_false]
    | true =>
     have := (List.all_eq_true.1 ht) _ (bL.1 hb)
     rw [hmk h5] at this
     cases this
   ·rw [decide_eq_false h4, decide_eq_false h5]; rfl
  rw [e cK (by decide +kernel), e [⟨#[105, 102]⟩] (by decide +kernel), decide_eq_false h4, if_neg Bool.false_ne_true, Bool.false_and, if_neg Bool.false_ne_true, if_neg Bool.false_ne_true]
  rfl

def yK (r : Rec) : Prop := ∀ (L : List Tok) (hd : Bool) (s : St) (e : Nd) (s' : St), bA L s [⟨#[45]⟩, ⟨#[33]⟩, ⟨#[60, 45]⟩] = true → r.expr L hd s = .ok e s' → (e.kind = 42 → s'.bare = false) ∧ (bA L s [⟨#[60, 45]⟩] = true → e.kind = 41 → e.text = ⟨#[60, 45]⟩)
theorem zI {r : Rec} {least : Int} : ∀ (n : Nat) (left : Nd) (s : St) (T : Nd) (s' : St), eX r least L hd n left s = .ok T s' → (T = left ∧ s' = s) ∨ (T.kind = 42 ∧ (s.bare = false → s'.bare = false) ∧ (left.kind = 42 ∨ s'.bare = false))
 | 0, _, _, _, _, h => by cases h
 | n + 1, left, s, T, s', h => by
  unfold eX at h
  simp only at h
  split at h
  ·cases h; exact .inl ⟨rfl, rfl⟩
  ·cases hr : r.binary (level (aF L s.k) + 1) L hd s.next with
   | out => rw [hr] at h; cases h
   | bad e => rw [hr] at h; cases h
   | ok y s2 =>
    rw [hr, R.then_ok] at h
    rcases zI n _ _ _ _ h with ⟨rfl, rfl⟩ | ⟨h1, h2, h3⟩
    ·exact .inr ⟨rfl, fun _ => rfl, .inr rfl⟩
    ·exact .inr ⟨h1, fun _ => h2 rfl, .inr (h2 rfl)⟩
theorem aHm (n : Nat) : yK (cU n) := by
 intro L hd s e s' hb he
 rcases n with _ | _ | n
 ·cases he
 ·cases he
 change ((cU n).unary L hd s).then (fun u s => eX (cU n) 1 L hd n u s) = .ok e s' at he
 rcases n with _ | n
 ·cases he
 change (mL (cU n) L hd s).then _ = _ at he
 unfold mL at he
 rw [if_pos hb] at he
 simp only [R.then_assoc, R.then_ok] at he
 cases hu : (cU n).unary L hd s.next with
 | out => rw [hu] at he; cases he
 | bad e => rw [hu] at he; cases he
 | ok u s1 =>
  rw [hu, R.then_ok] at he
  rcases zI _ _ _ _ _ he with ⟨rfl, rfl⟩ | ⟨h1, h2, h3⟩
  ·refine ⟨(fun h => by cases h), fun h _ => ?_⟩
   unfold bA kI at h
   rw [Bool.and_eq_true] at h
   have := bL.1 h.2
   show (aF L s.k).text = _
   simpa using this
  ·exact ⟨fun _ => h2 rfl, (fun _ h => by rw [h1] at h; cases h)⟩

def uC (r : Rec) (L : List Tok) (s0 : St) : R ((Nd × Nd) × Bool) := (r.expr L true s0).then fun e s =>
 if bA L s [⟨#[123]⟩] then .ok ((aY, e), false) s
 else if bA L s0 [⟨#[60, 45]⟩] && decide (e.kind = 41) && bA L s [⟨#[59]⟩] then .ok ((zP 34 e.pos ⟨#[]⟩ [e], aY), true) s
 else if bA L s0 [⟨#[45]⟩, ⟨#[33]⟩, ⟨#[60, 45]⟩] || (decide (e.kind = 42) && !s.bare) then eA L s
 else (jC r e s.bare L true s).then fun x s => .ok ((x, aY), true) s
def lY (r : Rec) (t : Tok) (L : List Tok) (hd : Bool) (y : (Nd × Nd) × Bool) (s : St) : R Nd :=
  (if y.2 then (bI L s ⟨#[59]⟩).then fun _ s => (if bA L s [⟨#[59]⟩] then .ok y.1.2 s else r.expr L true s).then fun c s => (bI L s ⟨#[59]⟩).then fun _ s => (if bA L s [⟨#[123]⟩] then .ok aY s else r.simple L true s).then fun l s => .ok (c, l) s
   else .ok (y.1.2, aY) s).then (rI r t L hd y.1.1)
def vQ (r : Rec) (t : Tok) : PF Nd := fun L hd s =>
 if bA L s [⟨#[123]⟩] then rI r t L hd aY (aY, aY) s
 else (if bA L s [⟨#[59]⟩] then .ok ((aY, aY), true) s else uC r L s).then (lY r t L hd)
theorem aG6 {s : St} {a b : ByteArray} : bA L s [a, b] = (bA L s [a] || bA L s [b]) := by
 unfold bA kI dE
 cases decide ((aF L s.k).kind = 4) <;> cases decide ((aF L s.k).kind = 5) <;> simp
theorem aGw {s : St} {a b : List ByteArray} (h : bA L s a = true) (hd : a.all (fun x => dE b x) = true) : bA L s b = true := by
 unfold bA kI at *
 rw [Bool.and_eq_true] at h ⊢
 exact ⟨h.1, (List.all_eq_true.1 hd) _ (bL.1 h.2)⟩
theorem rQ {s : St} {a b : List ByteArray} (h : bA L s a = true) (hd : a.all (fun x => !dE b x) = true) : bA L s b = false := by
 unfold bA kI at *
 rw [Bool.and_eq_true] at h
 have h2 := (List.all_eq_true.1 hd) _ (bL.1 h.2)
 rw [Bool.not_eq_true'] at h2
 rw [h2, Bool.and_false]
theorem aH8 {r : Rec} (hu : yK r) (t : Tok) (L : List Tok) (hd : Bool) (s : St) : rX r t L hd s = vQ r t L hd s := by
 unfold rX vQ
 rw [aG6]
 cases h1 : bA L s [⟨#[123]⟩] with
 | true =>
  rw [Bool.true_or, if_pos rfl, if_pos rfl, R.then_ok]
  unfold p9
  rw [rQ h1 (by decide +kernel)]
  rfl
 | false =>
  rw [Bool.false_or, if_neg Bool.false_ne_true]
  cases h2 : bA L s [⟨#[59]⟩] with
  | true =>
   rw [if_pos rfl, if_pos rfl, R.then_ok, R.then_ok]
   unfold p9 lY
   rw [h2, if_pos rfl, if_pos rfl]
   simp only [bI, h2, if_true, R.then_ok]
  | false =>
   rw [if_neg Bool.false_ne_true, if_neg Bool.false_ne_true]
   unfold qP uC
   simp only [R.then_assoc]
   cases he : r.expr L true s with
   | out => rfl
   | bad e => rfl
   | ok e s' =>
    rw [R.then_ok, R.then_ok]
    cases h3 : bA L s' [⟨#[123]⟩] with
    | true =>
     rw [if_pos rfl, if_pos rfl, R.then_ok, R.then_ok, R.then_ok]
     unfold p9 lY
     rw [rQ h3 (by decide +kernel)]
     rfl
    | false =>
     rw [if_neg Bool.false_ne_true, if_neg Bool.false_ne_true]
     have key : ∀ x : Nd, ((if bA L s' [⟨#[59]⟩] then .ok (x, true) s' else eA L s' : R (Nd × Bool)).then fun x s => .ok (if x.2 then (x.1, aY) else (aY, x.1)) s).then (p9 r t L hd) = lY r t L hd ((x, aY), true) s' := by
      intro x
      unfold lY
      simp only [if_true]
      cases h5 : bA L s' [⟨#[59]⟩] with
      | false => simp only [bI, h5]; rfl
      | true =>
       simp only [bI, h5, if_true, R.then_ok]
       unfold p9
       simp only [h5, if_true]
       rfl
     cases h4 : bA L s [⟨#[45]⟩, ⟨#[33]⟩, ⟨#[60, 45]⟩] with
     | true =>
      obtain ⟨hu1, hu2⟩ := hu L true s e s' h4 he
      cases h6 : bA L s [⟨#[60, 45]⟩] with
      | true =>
       by_cases hk : e.kind = 41
       ·rw [hu2 h6 hk, decide_eq_true hk, decide_eq_true rfl]
        simp only [Bool.and_true, Bool.true_and, if_true, Bool.true_or]
        cases h5 : bA L s' [⟨#[59]⟩] with
        | true =>
         have := key (zP 34 e.pos ⟨#[]⟩ [e])
         rw [h5, if_pos rfl] at this
         rw [if_pos rfl, if_pos rfl, R.then_ok, R.then_ok]
         exact this
        | false => rfl
       ·rw [decide_eq_false hk]
        simp only [Bool.false_and, Bool.and_false, Bool.true_or, if_true, Bool.not_true, Bool.false_or]
        by_cases hk2 : e.kind = 42
        ·rw [hu1 hk2]; simp; rfl
        ·rw [decide_eq_false hk2]; rfl
      | false =>
       simp only [Bool.false_and, Bool.and_false, Bool.true_or, if_true, Bool.not_true, Bool.false_or]
       by_cases hk2 : e.kind = 42
       ·rw [hu1 hk2]; simp; rfl
       ·rw [decide_eq_false hk2]; rfl
     | false =>
      have h6 : bA L s [⟨#[60, 45]⟩] = false := by
       cases hb : bA L s [⟨#[60, 45]⟩] with
       | false => rfl
       | true => rw [aGw hb (by decide +kernel)] at h4; cases h4
      rw [h6]
      simp only [Bool.false_and, Bool.and_false, Bool.not_false, Bool.true_and, Bool.false_or, Bool.false_eq_true, if_false]
      have hc : (!(decide (e.kind ≠ 42) || decide (e.kind = 42) && s'.bare)) = (decide (e.kind = 42) && !s'.bare) := by
       by_cases hk : e.kind = 42
       ·simp [hk]
       ·simp [hk]
      rw [hc]
      cases hx : (decide (e.kind = 42) && !s'.bare) with
      | true => rfl
      | false =>
       rw [if_neg Bool.false_ne_true, if_neg Bool.false_ne_true]
       cases hr : jC r e s'.bare L true s' with
       | out => rfl
       | bad e => rfl
       | ok x s3 =>
        rw [R.then_ok, R.then_ok, R.then_ok]
        unfold lY
        simp only [if_true]
        cases h5 : bA L s3 [⟨#[59]⟩] with
        | false => simp only [bI, h5]; rfl
        | true =>
         simp only [bI, h5, if_true, R.then_ok]
         unfold p9
         simp only [h5, if_true]
         rfl

theorem Xs.yD {α : Type} {ts : List ByteArray} (x : Xs) (b : Bool) (A B : St → R α) : (x.run fun s => if (bA L s ts && b) = true then A s else B s) = if (x.is L ts && b) = true then x.run A else x.run B := by
 cases x with
 | live s => rfl
 | dead e s => rfl
def y3 (r : Rec) (n : Nd) (to bare : Bool) : PF Nd := fun L hd s =>
 if (bA L s [⟨#[60, 45]⟩] && true) = true then (r.expr L hd s.next).then fun e s' => .ok (nd 33 (aF L s.k) ⟨#[]⟩ [n, e]) s'
 else if (bA L s [⟨#[58, 61]⟩] && (to && decide (n.kind = 40))) = true then (r.expr L hd s.next).then fun e s' => .ok (zP 17 n.pos n.text [e]) s'
 else if (bA L s [⟨#[61]⟩, ⟨#[43, 61]⟩, ⟨#[45, 61]⟩, ⟨#[42, 61]⟩] && to) = true then (r.expr L hd s.next).then fun e s' => .ok (nd 19 (aF L s.k) (aF L s.k).text [n, e]) s'
 else if (bA L s [⟨#[43, 43]⟩, ⟨#[45, 45]⟩] && to) = true then .ok (nd 20 (aF L s.k) (aF L s.k).text [n]) s.next
 else if (dY n && !bare) = true then .ok (zP 34 n.pos ⟨#[]⟩ [n]) s
 else eA L s
theorem aHo (r : Rec) (n : Nd) (bare : Bool) (L : List Tok) (hd : Bool) (s : St) : jC r n bare L hd s = y3 r n (cY n && !bare) bare L hd s := by
 unfold jC y3
 simp only
 have h1 : (bA L s [⟨#[58, 61]⟩] && decide (n.kind = 40) && !bare) = (bA L s [⟨#[58, 61]⟩] && ((cY n && !bare) && decide (n.kind = 40))) := by
  unfold cY
  by_cases h : n.kind = 40
  ·rw [decide_eq_true h]; simp
  ·rw [decide_eq_false h]; simp
 rw [h1, Bool.and_assoc (bA L s [⟨#[61]⟩, ⟨#[43, 61]⟩, ⟨#[45, 61]⟩, ⟨#[42, 61]⟩]), Bool.and_assoc (bA L s [⟨#[43, 43]⟩, ⟨#[45, 45]⟩]), Bool.and_true]
 generalize (cY n && !bare) = to
 cases hb : bA L s [⟨#[60, 45]⟩] with
 | false => simp only [Bool.false_eq_true, if_false]
 | true =>
  rw [rQ hb (by decide +kernel), rQ hb (by decide +kernel), rQ hb (by decide +kernel)]
  rfl
theorem aGf {x : Xs} {V : aE → Nd → Value → Prop} {r : Rec} {n : Nd} {bare : Bool} (hq : aU V p L hd h Q (x.run (jC r n bare L hd))) : aU V p L hd h Q (x.run fun s => y3 r n (cY n && !bare) bare L hd s) := by
 rw [show (fun s => y3 r n (cY n && !bare) bare L hd s) = jC r n bare L hd by funext s; rw [aHo]]; exact hq
theorem Xs.xU {x : Xs} {ts : List ByteArray} {b : Bool} (h : (x.is L ts && b) = true) : (∃ s, x = .live s ∧ bA L s ts = true) ∧ b = true := by
 rw [Bool.and_eq_true] at h
 exact ⟨Xs.fZ h.1, h.2⟩

def qA (p : Nat) (L : List Tok) (hd : Bool) (x : Xs) (h : aE) (c : List Value) (bare : Bool) (tk : Tok) (n1 y : Nat) (b to : Bool) (e : Env) (h' : aE) : Prop :=
 e y = some (.bool b) ∧ e 8 = some (.bool to) ∧ e 0 = some (pV p) ∧ e 2 = some (.bool bare) ∧ e 4 = some (.pointer (some ⟨h.next, 0, none⟩)) ∧ e 6 = some (.pointer (some ⟨h.next + 1, 0, none⟩)) ∧ e 7 = some (.pointer (some ⟨n1, 0, none⟩)) ∧
  bG h' p L hd x ∧ bB p h h' ∧ h'.obj h.next = some (.cells false c) ∧ h'.obj (h.next + 1) = some (Z0) ∧ h'.obj n1 = some (.cells false tk.cells) ∧ n1 < h'.next ∧ h.next + 1 < n1

theorem aFa {r : Rec} (c : gE r) {tn : Nd} {bn : Option Addr} {nn esn : Nat} {bare : Bool} {p : Nat} {L : List Tok} {hd : Bool} {x0 : Xs} {h : aE} {Q : bW → Prop} {S0 : Nat → Prop} (ps : bG h p L hd x0) (hS0 : ∀ j, S0 j → p < j ∧ j < h.next) (nv : NV h S0 (aH tn bn nn esn) tn)
  (hq0 : aU (VN (fun j => S0 j ∨ h.next ≤ j)) p L hd h Q (x0.run (jC r tn bare L hd))) : aP Tryz.prog G X 113 [pV p, .agg (aH tn bn nn esn).toArray, .bool bare] h Q := by
 have hp := ps.lt
 have hz := ps.wf.size
 have hq0 := aGf hq0
 unfold y3 at hq0
 refine Wk Tryz.func113 Tryz.ntmps113 (w:=QN (Mx (w:=Mw (w:=QO (Ma (w:=MJ gG (w:=cN (L := L) (hd := hd) (x := x0) (aQ) fun h1 g1 => ?_)))))))
 have hn1 := nx g1.1
 generalize htk : aF L x0.st.k = tk at *
 generalize hto : (cY tn && !bare) = to at *
 refine Mw (w:=Mv (w:=QL (QU ?_)))
 refine WC.cut (N' := qA p L hd x0 h (aH tn bn nn esn) bare tk h1.next 8 (to) to) ?_ ?_
 ·unfold cY at hto
  cases bare
  ·refine QV (Ma (w:=Me (w:=Ma (w:=Mj (w:=Mt (w:=MD (w:=fun hh => Ma (w:=MA (w:=MA (w:=MA (w:=Mc (w:=Ma (w:=MA (w:=MA (w:=MA (w:=Mc (w:=Mc (w:=Mb (w:=QL ?_))))))))))))) (v:=fun hh => Ma (w:=Mj (w:=Mt (w:=MD (w:=fun hh => Md (w:=Ma (w:=MA (w:=MA (w:=MA (w:=Mc (w:=Mc (w:=Mb (w:=QL ?_))))))))) (v:=fun hh => Md (w:=Ma (w:=Mj (w:=Mt (w:=MD (w:=fun hh => Md (w:=Mc (w:=Mb (w:=QL ?_)))) (v:=fun hh => Md (w:=Mc (w:=Mb (w:=QL ?_)))))))))))))))))))
   all_goals
    rw [← hto]
    exact ⟨by simp [*, bE], by simp [*, bE], aD, aD, aD, aD, aD, aQ, aI, aA, aA, aA, aB, aB⟩
  ·refine QV (Ma (w:=Me (w:=Ma (w:=MA (w:=MA (w:=MA (w:=MA (w:=MA (w:=MA (w:=MA (w:=MA (w:=MA (w:=MA (w:=MA (w:=MA (w:=MA (w:=Md (w:=Mb (w:=QL ?_)))))))))))))))))))
   rw [← hto]
   exact ⟨by simp [*, bE], by simp [*, bE], aD, aD, aD, aD, aD, aQ, aI, aA, aA, aA, aB, aB⟩
 rintro e2 h2 ⟨et, e8, e0, e2, e4, e6, e7, ps2, fr2, ho4, ho6, ho7, hn2, hn1b⟩
 have hnn2 := fr2.1
 clear et
 refine QU (QU ?_)
 refine WC.cut (N' := qA p L hd x0 h (aH tn bn nn esn) bare tk h1.next 32 (x0.is L [⟨#[60, 45]⟩] && true) to) ?_ ?_
 ·refine QV (Ma (w:=MJ gY (w:=gX (L := L) (hd := hd) (x := x0) (aQ) fun h3 g3 => ?_)))
  have hn3 := nx g3.1
  cases hb3 : Xs.is L [⟨#[60, 45]⟩] x0
  all_goals
   refine QL ?_
   exact ⟨by simp [*, bE], aD, aD, aD, aD, aD, aD, aQ, aI, aA, aA, aA, aB, aB⟩
 clear e0 e2 e4 e6 e7 e8 ho4 ho6 ho7
 rintro e4 h4 ⟨et, e8, e0, e2, e4, e6, e7, ps4, fr4, ho4, ho6, ho7, hn4, hn1b⟩
 have hnn4 := fr4.1
 rw [Xs.yD] at hq0
 generalize hc4 : (x0.is L [⟨#[60, 45]⟩] && true) = b4 at et hq0
 cases b4
 case true =>
  rw [if_pos rfl] at hq0
  obtain ⟨⟨s4, rfl, hs4⟩, hto4⟩ := Xs.xU hc4
  rw [Xs.a8] at hq0
  obtain ⟨hk20, j20, br20, hj20, ho20, hl20⟩ := bG.live (show bG (h4) p L hd (.live s4) from aQ)
  have hm20 := ps.wf.toWF.is hk20 hs4
  (try rw [show aF L s4.k = tk from htk] at hq0)
  refine QR (QN (Ma (w:=Mi (w:=Mj (w:=Mt (w:=Mf (w:=Mi (w:=Mj (w:=Mv (w:=QO (Ma (w:=MJ iW (w:=c.expr (hd := hd) (aQ) (El hq0 (k:=fun t11 x11 h11 b11 n11 es11 ps11 fr11 kv11 hn11 hq11 => ?_)))))))))))))))
  refine Mw (w:=Mv (w:=QO (Mj (w:=Mt (w:=Mu (w:=Mu (w:=Mz (w:=MJ cL (w:=bN fun h12 g12 => ?_)))))))))
  have hn12 := nx g12.1
  refine Mv (w:=QM ?_)
  refine ⟨_, aJ, ?_⟩
  refine hq11.fin aQ aI ⟨_, _, _, rfl, NV.aN ?_ _ _ _ _ _ _⟩
  exact (KV.two (S := fun j => (S0 j ∨ h.next ≤ j) ∧ j < h11.next) aB aB aA (nv.mono aB (fun j hS hj => by have := hS0 j hS; exact ⟨⟨.inl hS, aB⟩, bJ⟩)) (kv11.mono aB (fun j hS hj => by (try simp only [UB, UC] at hS); exact ⟨⟨.inr aB, hj⟩, bJ⟩)) (fun j hS hj => ⟨hS.1, by have := hS.2; exact aB⟩))
 rw [if_neg Bool.false_ne_true] at hq0
 refine QS (UA (QU (QU ?_)))
 refine WC.cut (N' := qA p L hd x0 h (aH tn bn nn esn) bare tk h1.next 57 (x0.is L [⟨#[58, 61]⟩] && (to && decide (tn.kind = 40))) to) ?_ ?_
 ·cases to
  ·refine QV (Ma (w:=Ma (w:=MA (w:=MA (w:=MA (w:=Md (w:=Ma (w:=MA (w:=MA (w:=Md (w:=QL ?_)))))))))))
   exact ⟨by simp [*, bE], aD, aD, aD, aD, aD, aD, aQ, aI, aA, aA, aA, aB, aB⟩
  ·refine QV (Ma (w:=Ma (w:=Mj (w:=Mt (w:=MD (w:=fun hh => Mc (w:=Ma (w:=Ma (w:=QK ?_)))) (v:=fun hh => Mc (w:=Ma (w:=MA (w:=MA (w:=Md (w:=QL ?_)))))))))))
   ·refine QJ gY ?_
    refine gX (L := L) (hd := hd) (x := x0) (aQ) fun h5 g5 => ?_
    have hn5 := nx g5.1
    cases hb5 : Xs.is L [⟨#[58, 61]⟩] x0
    all_goals
     refine Mc (w:=QL ?_)
     exact ⟨by simp [*, bE], aD, aD, aD, aD, aD, aD, aQ, aI, aA, aA, aA, aB, aB⟩
   ·exact ⟨by simp [*, bE], aD, aD, aD, aD, aD, aD, aQ, aI, aA, aA, aA, aB, aB⟩
 clear e0 e2 e4 e6 e7 e8 ho4 ho6 ho7 et
 rintro e6 h6 ⟨et, e8, e0, e2, e4, e6, e7, ps6, fr6, ho4, ho6, ho7, hn6, hn1b⟩
 have hnn6 := fr6.1
 rw [Xs.yD] at hq0
 generalize hc6 : (x0.is L [⟨#[58, 61]⟩] && (to && decide (tn.kind = 40))) = b6 at et hq0
 cases b6
 case true =>
  rw [if_pos rfl] at hq0
  obtain ⟨⟨s6, rfl, hs6⟩, hto6⟩ := Xs.xU hc6
  rw [Xs.a8] at hq0
  obtain ⟨hk20, j20, br20, hj20, ho20, hl20⟩ := bG.live (show bG (h6) p L hd (.live s6) from aQ)
  have hm20 := ps.wf.toWF.is hk20 hs6
  (try rw [show aF L s6.k = tk from htk] at hq0)
  refine QR (QN (Ma (w:=Mi (w:=Mj (w:=Mt (w:=Mf (w:=Mi (w:=Mj (w:=Mv (w:=QO (Ma (w:=MJ iW (w:=c.expr (hd := hd) (aQ) (El hq0 (k:=fun t11 x11 h11 b11 n11 es11 ps11 fr11 kv11 hn11 hq11 => ?_)))))))))))))))
  refine Mw (w:=Mv (w:=QO (Mj (w:=Mt (w:=Mj (w:=Mt (w:=Mu (w:=Mz (w:=MJ cL (w:=bN fun h12 g12 => ?_))))))))))
  have hn12 := nx g12.1
  refine Mv (w:=QM ?_)
  refine ⟨_, aJ, ?_⟩
  exact hq11.fin aQ aI ⟨_, _, _, rfl, NV.aN (KV.one (S := fun j => (S0 j ∨ h.next ≤ j) ∧ j < h11.next) aB aB aA (kv11.mono aB (fun j hS hj => by (try simp only [UB, UC] at hS); exact ⟨⟨.inr aB, hj⟩, bJ⟩)) (fun j hS hj => ⟨hS.1, by have := hS.2; exact aB⟩)) _ _ _ _ _ _⟩
 rw [if_neg Bool.false_ne_true] at hq0
 refine QS (UA (QU (QU ?_)))
 refine WC.cut (N' := qA p L hd x0 h (aH tn bn nn esn) bare tk h1.next 78 (x0.is L [⟨#[61]⟩, ⟨#[43, 61]⟩, ⟨#[45, 61]⟩, ⟨#[42, 61]⟩] && to) to) ?_ ?_
 ·cases to
  ·refine QV (Ma (w:=Ma (w:=MA (w:=MA (w:=Md (w:=QL ?_))))))
   exact ⟨by simp [*, bE], aD, aD, aD, aD, aD, aD, aQ, aI, aA, aA, aA, aB, aB⟩
  ·refine QV (Ma (w:=Ma (w:=Ma (w:=MJ o7 (w:=eR (L := L) (hd := hd) (x := x0) (ws := [⟨#[61]⟩, ⟨#[43, 61]⟩, ⟨#[45, 61]⟩, ⟨#[42, 61]⟩]) (by decide +kernel) (by decide) (aQ) fun h7 g7 => ?_)))))
   have hn7 := nx g7.1
   cases hb7 : Xs.is L [⟨#[61]⟩, ⟨#[43, 61]⟩, ⟨#[45, 61]⟩, ⟨#[42, 61]⟩] x0
   all_goals
    refine Mc (w:=QL ?_)
    exact ⟨by simp [*, bE], aD, aD, aD, aD, aD, aD, aQ, aI, aA, aA, aA, aB, aB⟩
 clear e0 e2 e4 e6 e7 e8 ho4 ho6 ho7 et
 rintro e8 h8 ⟨et, e8, e0, e2, e4, e6, e7, ps8, fr8, ho4, ho6, ho7, hn8, hn1b⟩
 have hnn8 := fr8.1
 rw [Xs.yD] at hq0
 generalize hc8 : (x0.is L [⟨#[61]⟩, ⟨#[43, 61]⟩, ⟨#[45, 61]⟩, ⟨#[42, 61]⟩] && to) = b8 at et hq0
 cases b8
 case true =>
  rw [if_pos rfl] at hq0
  obtain ⟨⟨s8, rfl, hs8⟩, hto8⟩ := Xs.xU hc8
  rw [Xs.a8] at hq0
  obtain ⟨hk20, j20, br20, hj20, ho20, hl20⟩ := bG.live (show bG (h8) p L hd (.live s8) from aQ)
  have hm20 := ps.wf.toWF.is hk20 hs8
  (try rw [show aF L s8.k = tk from htk] at hq0)
  refine QR (QN (Ma (w:=Mi (w:=Mj (w:=Mt (w:=Mf (w:=Mi (w:=Mj (w:=Mv (w:=QO (Ma (w:=MJ iW (w:=c.expr (hd := hd) (aQ) (El hq0 (k:=fun t11 x11 h11 b11 n11 es11 ps11 fr11 kv11 hn11 hq11 => ?_)))))))))))))))
  refine Mw (w:=Mv (w:=QO (Mj (w:=Mt (w:=Mj (w:=Mt (w:=Mu (w:=Mu (w:=Mz (w:=MJ cL (w:=bN fun h12 g12 => ?_)))))))))))
  have hn12 := nx g12.1
  refine Mv (w:=QM ?_)
  refine ⟨_, aJ, ?_⟩
  refine hq11.fin aQ aI ⟨_, _, _, rfl, NV.aN ?_ _ _ _ _ _ _⟩
  exact (KV.two (S := fun j => (S0 j ∨ h.next ≤ j) ∧ j < h11.next) aB aB aA (nv.mono aB (fun j hS hj => by have := hS0 j hS; exact ⟨⟨.inl hS, aB⟩, bJ⟩)) (kv11.mono aB (fun j hS hj => by (try simp only [UB, UC] at hS); exact ⟨⟨.inr aB, hj⟩, bJ⟩)) (fun j hS hj => ⟨hS.1, by have := hS.2; exact aB⟩))
 rw [if_neg Bool.false_ne_true] at hq0
 refine QS (UA (QU (QU ?_)))
 refine WC.cut (N' := qA p L hd x0 h (aH tn bn nn esn) bare tk h1.next 100 (x0.is L [⟨#[43, 43]⟩, ⟨#[45, 45]⟩] && to) to) ?_ ?_
 ·cases to
  ·refine QV (Ma (w:=Ma (w:=MA (w:=MA (w:=Md (w:=QL ?_))))))
   exact ⟨by simp [*, bE], aD, aD, aD, aD, aD, aD, aQ, aI, aA, aA, aA, aB, aB⟩
  ·refine QV (Ma (w:=Ma (w:=Ma (w:=MJ o7 (w:=eR (L := L) (hd := hd) (x := x0) (ws := [⟨#[43, 43]⟩, ⟨#[45, 45]⟩]) (by decide +kernel) (by decide) (aQ) fun h7 g7 => ?_)))))
   have hn7 := nx g7.1
   cases hb7 : Xs.is L [⟨#[43, 43]⟩, ⟨#[45, 45]⟩] x0
   all_goals
    refine Mc (w:=QL ?_)
    exact ⟨by simp [*, bE], aD, aD, aD, aD, aD, aD, aQ, aI, aA, aA, aA, aB, aB⟩
 clear e0 e2 e4 e6 e7 e8 ho4 ho6 ho7 et
 rintro e10 h10 ⟨et, e8, e0, e2, e4, e6, e7, ps10, fr10, ho4, ho6, ho7, hn10, hn1b⟩
 have hnn10 := fr10.1
 rw [Xs.yD] at hq0
 generalize hc10 : (x0.is L [⟨#[43, 43]⟩, ⟨#[45, 45]⟩] && to) = b10 at et hq0
 cases b10
 case true =>
  rw [if_pos rfl] at hq0
  obtain ⟨⟨s10, rfl, hs10⟩, hto10⟩ := Xs.xU hc10
  rw [Xs.a8] at hq0
  obtain ⟨hk20, j20, br20, hj20, ho20, hl20⟩ := bG.live (show bG (h10) p L hd (.live s10) from aQ)
  have hm20 := ps.wf.toWF.is hk20 hs10
  (try rw [show aF L s10.k = tk from htk] at hq0)
  refine QR (QN (Ma (w:=Mi (w:=Mj (w:=Mt (w:=Mf (w:=Mi (w:=Mj (w:=Mv (w:=QO (Mj (w:=Mt (w:=Mj (w:=Mt (w:=Mu (w:=Mz (w:=MJ cL (w:=bN fun h12 g12 => ?_))))))))))))))))))
  have hn12 := nx g12.1
  refine Mv (w:=QM ?_)
  refine ⟨_, aJ, ?_⟩
  refine hq0.qL aQ aI ⟨_, _, _, rfl, NV.aN ?_ _ _ _ _ _ _⟩
  exact (KV.one (S := fun j => (S0 j ∨ h.next ≤ j) ∧ j < h10.next) aB aB aA (nv.mono aB (fun j hS hj => by have := hS0 j hS; exact ⟨⟨.inl hS, aB⟩, bJ⟩)) (fun j hS hj => ⟨hS.1, by have := hS.2; exact aB⟩))
 rw [if_neg Bool.false_ne_true] at hq0
 obtain ⟨j10, br10, hj10, hp10, hl10⟩ := ps10.tok
 cases x0 with
 | dead e s =>
  have hb10 := ps10.dA
  generalize hbd : Xs.bad L (Xs.dead e s) = bd at *
  refine QS (UA (QU (QN (Ma (w:=Mi (w:=Mj (w:=Mt (w:=MF (w:=fun hh => by omega) (v:=fun hh => Ma (w:=MA (w:=MA (w:=Md (w:=Ma (w:=MA (w:=MA (w:=Md (w:=QP (UA (QN (Ma (w:=MJ oM (w:=eI (L := L) (hd := hd) (x := .dead e s) (aQ) fun h20 ps20 fr20 => ?_))))))))))))))))))))))
  have hn20 := nx fr20.1
  refine Mv (w:=QM ?_)
  refine ⟨_, aJ, ?_⟩
  exact hq0.2 _ _ (.dead e s) eY rfl aQ aI ⟨none, 0, 0, rfl, NV.leaf _ _ _ _ _ _⟩
 | live s =>
  have hb10 : Xs.bad L (Xs.live s) = -1 := rfl
  rw [hb10] at hp10
  rw [Xs.a8] at hq0
  refine QS (UA (QU (QN (Ma (w:=Mi (w:=Mj (w:=Mt (w:=MF (w:=fun hh => Ma (w:=Mu (w:=MJ aIn (w:=z5 fun h20 g20 => ?_)))) (v:=fun hh => by omega)))))))))
  have hn20 := nx g20.1
  cases hb20 : dY tn
  ·rw [hb20, Bool.false_and, if_neg Bool.false_ne_true] at hq0
   refine Mc (w:=Ma (w:=MA (w:=MA (w:=Md (w:=QP (UA (QN (Ma (w:=MJ oM (w:=eI (L := L) (hd := hd) (x := .live s) (aQ) fun h22 ps22 fr22 => ?_))))))))))
   have hn22 := nx fr22.1
   refine Mv (w:=QM ?_)
   refine ⟨_, aJ, ?_⟩
   exact hq0.q6 eY aQ aI ⟨none, 0, 0, rfl, NV.leaf _ _ _ _ _ _⟩
  ·rw [hb20, Bool.true_and] at hq0
   cases bare
   ·rw [Bool.not_false, if_pos rfl] at hq0
    refine Mc (w:=Ma (w:=Ma (w:=Me (w:=Mc (w:=QQ (QN (Mj (w:=Mt (w:=Mu (w:=Mz (w:=MJ cL (w:=bN fun h21 g21 => ?_))))))))))))
    have hn21 := nx g21.1
    refine Mv (w:=QM ?_)
    refine ⟨_, aJ, ?_⟩
    refine hq0.qL aQ aI ⟨_, _, _, rfl, NV.aN ?_ _ _ _ _ _ _⟩
    exact (KV.one (S := fun j => (S0 j ∨ h.next ≤ j) ∧ j < h20.next) aB aB aA (nv.mono aB (fun j hS hj => by have := hS0 j hS; exact ⟨⟨.inl hS, aB⟩, bJ⟩)) (fun j hS hj => ⟨hS.1, by have := hS.2; exact aB⟩))
   ·rw [Bool.not_true, if_neg Bool.false_ne_true] at hq0
    refine Mc (w:=Ma (w:=Ma (w:=Me (w:=Mc (w:=QP (UA (QN (Ma (w:=MJ oM (w:=eI (L := L) (hd := hd) (x := .live s) (aQ) fun h22 ps22 fr22 => ?_))))))))))
    have hn22 := nx fr22.1
    refine Mv (w:=QM ?_)
    refine ⟨_, aJ, ?_⟩
    exact hq0.q6 eY aQ aI ⟨none, 0, 0, rfl, NV.leaf _ _ _ _ _ _⟩

theorem aJ4 {tn : Nd} {bn : Option Addr} {nn esn : Nat} {bare : Bool} {e : Nat} {s : St} (ps : bG h p L hd (.dead e s)) (hq : ∀ h', bG h' p L hd (.dead e s) → bB p h h' → Q (.ret (.agg (aH eY none 0 0).toArray) h')) :
  aP Tryz.prog G X 113 [pV p, .agg (aH tn bn nn esn).toArray, .bool bare] h Q := by
 have hp := ps.lt
 refine Wk Tryz.func113 Tryz.ntmps113 (w:=QN (Mx (w:=Mw (w:=QO (Ma (w:=MJ gG (w:=cN (L := L) (hd := hd) (x := .dead e s) (aQ) fun h1 g1 => ?_)))))))
 have hn1 := nx g1.1
 generalize htk : aF L (Xs.dead e s).st.k = tk at *
 generalize hto : (cY tn && !bare) = to at *
 refine Mw (w:=Mv (w:=QL (QU ?_)))
 refine WC.cut (N' := qA p L hd (.dead e s) h (aH tn bn nn esn) bare tk h1.next 8 to to) ?_ ?_
 ·unfold cY at hto
  cases bare
  ·refine QV (Ma (w:=Me (w:=Ma (w:=Mj (w:=Mt (w:=MD (w:=fun hh => Ma (w:=MA (w:=MA (w:=MA (w:=Mc (w:=Ma (w:=MA (w:=MA (w:=MA (w:=Mc (w:=Mc (w:=Mb (w:=QL ?_))))))))))))) (v:=fun hh => Ma (w:=Mj (w:=Mt (w:=MD (w:=fun hh => Md (w:=Ma (w:=MA (w:=MA (w:=MA (w:=Mc (w:=Mc (w:=Mb (w:=QL ?_))))))))) (v:=fun hh => Md (w:=Ma (w:=Mj (w:=Mt (w:=MD (w:=fun hh => Md (w:=Mc (w:=Mb (w:=QL ?_)))) (v:=fun hh => Md (w:=Mc (w:=Mb (w:=QL ?_)))))))))))))))))))
   all_goals
    rw [← hto]
    exact ⟨by simp [*, bE], by simp [*, bE], aD, aD, aD, aD, aD, aQ, aI, aA, aA, aA, aB, aB⟩
  ·refine QV (Ma (w:=Me (w:=Ma (w:=MA (w:=MA (w:=MA (w:=MA (w:=MA (w:=MA (w:=MA (w:=MA (w:=MA (w:=MA (w:=MA (w:=MA (w:=MA (w:=Md (w:=Mb (w:=QL ?_)))))))))))))))))))
   rw [← hto]
   exact ⟨by simp [*, bE], by simp [*, bE], aD, aD, aD, aD, aD, aQ, aI, aA, aA, aA, aB, aB⟩
 rintro e2 h2 ⟨et, e8, e0, e2, e4, e6, e7, ps2, fr2, ho4, ho6, ho7, hn2, hn1b⟩
 have hnn2 := fr2.1
 clear et
 refine QU (QU ?_)
 refine WC.cut (N' := qA p L hd (.dead e s) h (aH tn bn nn esn) bare tk h1.next 32 false to) ?_ ?_
 ·refine QV (Ma (w:=MJ gY (w:=gX (L := L) (hd := hd) (x := .dead e s) (aQ) fun h3 g3 => ?_)))
  have hn3 := nx g3.1
  cases hb3 : Xs.is L [⟨#[60, 45]⟩] (.dead e s)
  ·refine QL ?_
   exact ⟨by simp [*, bE], aD, aD, aD, aD, aD, aD, aQ, aI, aA, aA, aA, aB, aB⟩
  ·cases hb3
 clear e0 e2 e4 e6 e7 e8 ho4 ho6 ho7
 rintro e4 h4 ⟨et4, e8, e0, e2, e4, e6, e7, ps4, fr4, ho4, ho6, ho7, hn4, hn1b⟩
 have hnn4 := fr4.1
 refine QS (UA (QU (QU ?_)))
 refine WC.cut (N' := qA p L hd (.dead e s) h (aH tn bn nn esn) bare tk h1.next 57 false to) ?_ ?_
 ·cases to
  ·refine QV (Ma (w:=Ma (w:=MA (w:=MA (w:=MA (w:=Md (w:=Ma (w:=MA (w:=MA (w:=Md (w:=QL ?_)))))))))))
   exact ⟨by simp [*, bE], aD, aD, aD, aD, aD, aD, aQ, aI, aA, aA, aA, aB, aB⟩
  ·refine QV (Ma (w:=Ma (w:=Mj (w:=Mt (w:=MD (w:=fun hh => Mc (w:=Ma (w:=Ma (w:=QK ?_)))) (v:=fun hh => Mc (w:=Ma (w:=MA (w:=MA (w:=Md (w:=QL ?_)))))))))))
   ·refine QJ gY ?_
    refine gX (L := L) (hd := hd) (x := .dead e s) (aQ) fun h5 g5 => ?_
    have hn5 := nx g5.1
    cases hb5 : Xs.is L [⟨#[58, 61]⟩] (.dead e s)
    ·refine Mc (w:=QL ?_)
     exact ⟨by simp [*, bE], aD, aD, aD, aD, aD, aD, aQ, aI, aA, aA, aA, aB, aB⟩
    ·cases hb5
   ·exact ⟨by simp [*, bE], aD, aD, aD, aD, aD, aD, aQ, aI, aA, aA, aA, aB, aB⟩
 clear e0 e2 e4 e6 e7 e8 ho4 ho6 ho7
 rintro e6 h6 ⟨et6, e8, e0, e2, e4, e6, e7, ps6, fr6, ho4, ho6, ho7, hn6, hn1b⟩
 have hnn6 := fr6.1
 refine QS (UA (QU (QU ?_)))
 refine WC.cut (N' := qA p L hd (.dead e s) h (aH tn bn nn esn) bare tk h1.next 78 false to) ?_ ?_
 ·cases to
  ·refine QV (Ma (w:=Ma (w:=MA (w:=MA (w:=Md (w:=QL ?_))))))
   exact ⟨by simp [*, bE], aD, aD, aD, aD, aD, aD, aQ, aI, aA, aA, aA, aB, aB⟩
  ·refine QV (Ma (w:=Ma (w:=Ma (w:=MJ o7 (w:=eR (L := L) (hd := hd) (x := .dead e s) (ws := [⟨#[61]⟩, ⟨#[43, 61]⟩, ⟨#[45, 61]⟩, ⟨#[42, 61]⟩]) (by decide +kernel) (by decide) (aQ) fun h7 g7 => ?_)))))
   have hn7 := nx g7.1
   cases hb7 : Xs.is L [⟨#[61]⟩, ⟨#[43, 61]⟩, ⟨#[45, 61]⟩, ⟨#[42, 61]⟩] (.dead e s)
   ·refine Mc (w:=QL ?_)
    exact ⟨by simp [*, bE], aD, aD, aD, aD, aD, aD, aQ, aI, aA, aA, aA, aB, aB⟩
   ·cases hb7
 clear e0 e2 e4 e6 e7 e8 ho4 ho6 ho7
 rintro e8 h8 ⟨et8, e8, e0, e2, e4, e6, e7, ps8, fr8, ho4, ho6, ho7, hn8, hn1b⟩
 have hnn8 := fr8.1
 refine QS (UA (QU (QU ?_)))
 refine WC.cut (N' := qA p L hd (.dead e s) h (aH tn bn nn esn) bare tk h1.next 100 false to) ?_ ?_
 ·cases to
  ·refine QV (Ma (w:=Ma (w:=MA (w:=MA (w:=Md (w:=QL ?_))))))
   exact ⟨by simp [*, bE], aD, aD, aD, aD, aD, aD, aQ, aI, aA, aA, aA, aB, aB⟩
  ·refine QV (Ma (w:=Ma (w:=Ma (w:=MJ o7 (w:=eR (L := L) (hd := hd) (x := .dead e s) (ws := [⟨#[43, 43]⟩, ⟨#[45, 45]⟩]) (by decide +kernel) (by decide) (aQ) fun h7 g7 => ?_)))))
   have hn7 := nx g7.1
   cases hb7 : Xs.is L [⟨#[43, 43]⟩, ⟨#[45, 45]⟩] (.dead e s)
   ·refine Mc (w:=QL ?_)
    exact ⟨by simp [*, bE], aD, aD, aD, aD, aD, aD, aQ, aI, aA, aA, aA, aB, aB⟩
   ·cases hb7
 clear e0 e2 e4 e6 e7 e8 ho4 ho6 ho7
 rintro e10 h10 ⟨et10, e8, e0, e2, e4, e6, e7, ps10, fr10, ho4, ho6, ho7, hn10, hn1b⟩
 have hnn10 := fr10.1
 obtain ⟨j10, br10, hj10, hp10, hl10⟩ := ps10.tok
 have hb10 := ps10.dA
 generalize hbd : Xs.bad L (Xs.dead e s) = bd at *
 refine QS (UA (QU (QN (Ma (w:=Mi (w:=Mj (w:=Mt (w:=MF (w:=fun hh => by omega) (v:=fun hh => Ma (w:=MA (w:=MA (w:=Md (w:=Ma (w:=MA (w:=MA (w:=Md (w:=QP (UA (QN (Ma (w:=MJ oM (w:=eI (L := L) (hd := hd) (x := .dead e s) (aQ) fun h20 ps20 fr20 => ?_))))))))))))))))))))))
 have hn20 := nx fr20.1
 refine Mv (w:=QM ?_)
 refine ⟨_, aJ, ?_⟩
 exact hq _ aQ aI

theorem aEc {r : Rec} (c : gE r) : XN 98 (lZ r) := by
 intro p L hd x0 h Q ps hq0
 have hp := ps.lt
 unfold lZ at hq0
 refine Wk Tryz.func98 Tryz.ntmps98 (w:=QN (Mw (w:=QO (Ma (w:=MJ gG (w:=cN (L := L) (hd := hd) (x := x0) (aQ) fun h1 g1 => ?_))))))
 have hn1 := nx g1.1
 generalize htk : aF L x0.st.k = tk at *
 refine Mk (w:=Mb (w:=QO (Ma (w:=MJ qX (w:=lV (L := L) (hd := hd) (x := x0) (aQ) fun h2 ps2 fr2 => ?_)))))
 have hn2 := nx fr2.1
 cases hb2 : Xs.is L [⟨#[60, 45]⟩] x0
 ·rw [Xs.gT hb2] at ps2
  rw [Xs.lQ hb2] at hq0
  refine Mb (w:=QL (QU (QN (Ma (w:=QP (UA (QN (Ma (w:=MJ wV (w:=c.mR (hd := hd) (aQ) (aU.aGx (hd' := hd) aI hq0 fun t3 x3 h3 v3 ps3 bx3 fr3 hv3 hq3 => ?_)))))))))))
  obtain ⟨b3, n3, es3, rfl, kv3⟩ := hv3
  have hn3 := nx fr3.1
  obtain ⟨sl3, k3, bd3, hw3, ho3⟩ := bx3
  obtain ⟨j3, br3, hj3, hp3, hl3⟩ := ps3.tok
  cases ho3.symm.trans hp3
  have hq3 : aU (VN (fun j => h.next ≤ j)) p L hd h Q (x3.run fun s => (jC r t3 x3.st.bare L hd s).then fun a s => .ok a s) := by
   rw [← Xs.aA7]
   cases x3 with
   | live s => exact hq3
   | dead e s => exact hq3
  refine Mw (w:=Mv (w:=QL (QU (Gd [⟨0, .pure, 0⟩, ⟨1, .read, 0⟩, ⟨2, .pure, 0⟩, ⟨3, .pure, 4⟩, ⟨4, .pure, 12⟩, ⟨5, .read, 28⟩, ⟨6, .aC, 63⟩, ⟨7, .aC, 127⟩] (w:=Da (w:=Ru (w:=Da (w:=Di (w:=Dj (w:=Rt (w:=?_)))))))))));refine WD.aC hX (hw := ?_)
  refine QJ aDx ?_
  refine aFa c (hd := hd) (S0 := fun j => h.next < j ∧ j < h3.next) (aQ) (fun j hj => ⟨by omega, by have := hj.2; exact aB⟩) (kv3.kp) (Eu hq3 (k:=fun t4 x4 h4 b4 n4 es4 ps4 fr4 kv4 hn4 hq4 => ?_))
  refine WD.aC hX (hw := Qv ?_);refine WD.nil (hq:=WC.ret ?_)
  refine ⟨_, aJ, ?_⟩
  exact hq4.fin aQ aI ⟨_, _, _, rfl, kv4.mono aB (fun j hS hj => by (try simp only [UB, UC] at hS); exact ⟨by omega, bJ⟩)⟩
 ·obtain ⟨s2, rfl, hs2⟩ := Xs.fZ hb2
  rw [Xs.iE hs2] at ps2
  rw [Xs.a8, if_pos hs2] at hq0
  rw [show aF L s2.k = tk from htk] at hq0
  refine Mb (w:=QL (QU (QN (Ma (w:=QQ (QN (Ma (w:=MJ y9 (w:=c.unary (hd := hd) (aQ) (El hq0 (k:=fun t4 x4 h4 b4 n4 es4 ps4 fr4 kv4 hn4 hq4 => ?_)))))))))))
  refine Mw (w:=Mv (w:=QO (Ma (w:=Ma (w:=Mu (w:=Mz (w:=MJ cL (w:=bN fun h5 g5 => ?_))))))))
  have hn5 := nx g5.1
  refine Mz (w:=MJ cL (w:=bN fun h6 g6 => ?_))
  have hn6 := nx g6.1
  refine Mv (w:=QM ?_)
  refine ⟨_, aJ, ?_⟩
  refine hq4.fin aQ aI ⟨_, _, _, rfl, NV.aN ?_ _ _ _ _ _ _⟩
  exact KV.one (t := nd 41 tk ⟨#[60, 45]⟩ [t4]) (b := some ⟨h4.next + 1, 0, none⟩) (n := 1) (es := 7) (S := fun j => h.next ≤ j ∧ j < h5.next) aB aB aA (NV.aN (KV.one (S := fun j => h.next ≤ j ∧ j < h4.next) aB aB aA (kv4.kp) (fun j hS hj => ⟨⟨hS.1, by have := hS.2; exact aB⟩, by have := hS.2; exact aB⟩)) _ _ _ _ _ _) (fun j hS hj => ⟨hS.1, by have := hS.2; exact aB⟩)
theorem aFx : XD 98 VN := by
 intro p L hd e s h Q ps hq
 have hp := ps.lt
 refine Wk Tryz.func98 Tryz.ntmps98 (w:=QN (Mw (w:=QO (Ma (w:=MJ gG (w:=cN (L := L) (hd := hd) (x := .dead e s) (aQ) fun h1 g1 => ?_))))))
 have hn1 := nx g1.1
 generalize htk : aF L (Xs.dead e s).st.k = tk at *
 refine Mk (w:=Mb (w:=QO (Ma (w:=MJ qX (w:=lV (L := L) (hd := hd) (x := .dead e s) (aQ) fun h2 ps2 fr2 => ?_)))))
 have hn2 := nx fr2.1
 cases hb2 : Xs.is L [⟨#[60, 45]⟩] (.dead e s)
 ·rw [Xs.gT hb2] at ps2
  refine Mb (w:=QL (QU (QN (Ma (w:=QP (UA (QN (Ma (w:=MJ wV (w:=sJ (L := L) (hd := hd) (e := e) (s := s) (aQ) fun h3 t3 v3 s3 ps3 fr3 hv3 => ?_))))))))))
  obtain ⟨b3, n3, es3, rfl, kv3⟩ := hv3
  have hn3 := nx fr3.1
  obtain ⟨j3, br3, hj3, hp3, hl3⟩ := ps3.tok
  refine Mw (w:=Mv (w:=QL (QU (Gd [⟨0, .pure, 0⟩, ⟨1, .read, 0⟩, ⟨2, .pure, 0⟩, ⟨3, .pure, 4⟩, ⟨4, .pure, 12⟩, ⟨5, .read, 28⟩, ⟨6, .aC, 63⟩, ⟨7, .aC, 127⟩] (w:=Da (w:=Ru (w:=Da (w:=Di (w:=Dj (w:=Rt (w:=?_)))))))))));refine WD.aC hX (hw := ?_)
  refine QJ aDx ?_
  refine aJ4 (L := L) (hd := hd) (e := e) (s := s3) (aQ) fun h4 ps4 fr4 => ?_
  have hn4 := nx fr4.1
  refine WD.aC hX (hw := Qv ?_);refine WD.nil (hq:=WC.ret ?_)
  refine ⟨_, aJ, ?_⟩
  exact hq _ eY _ _ aQ aI ⟨none, 0, 0, rfl, NV.leaf _ _ _ _ _ _⟩
 ·cases hb2

theorem aDv {r : Rec} (c : gE r) {p : Nat} {L : List Tok} {hd : Bool} {s0 : St} {h : aE} {Q : bW → Prop} {tk : Tok} (ht : dE dS tk.text = true) (ps : bG h p L hd (.live s0)) (hq0 : aU (VN (fun j => h.next ≤ j)) p L hd h Q (wK r tk L hd s0)) :
  aP Tryz.prog G X 97 [pV p, .agg tk.cells.toArray] h Q := by
 have hp := ps.lt
 unfold wK at hq0
 refine Wk Tryz.func97 Tryz.ntmps97 (w:=QN (Mx (w:=Mw (w:=QL (QU (QN (Mj (w:=Mt (w:=QL (Bk (QN (MB (w:=fun hh => Mb (w:=QQ (QN (Ma (w:=QK ?_))))) (v:=fun hh => Mb (w:=QP (QU (QN (MB (w:=fun hh => Mb (w:=QQ (UA (QR (QN (Mb (w:=QL (QU (QN (Ma (w:=QK ?_))))))))))) (v:=fun hh => Mb (w:=QP (QV (MB (w:=fun hh => Mb (w:=QQ (QN (Mb (w:=QL (QU (QN (Ma (w:=QK ?_))))))))) (v:=fun hh => Mb (w:=QP (QN (MB (w:=fun hh => Mb (w:=QQ (QN (Mj (w:=Mt (w:=QK ?_)))))) (v:=fun hh => Mb (w:=QP (QN (MB (w:=fun hh => Mb (w:=QQ (QU (QN (Ma (w:=QK ?_)))))) (v:=fun hh => Mb (w:=QP (UA (QN (Ma (w:=QK ?_)))))))))))))))))))))))))))))))))))
 all_goals (repeat (first | rw [if_pos (by assumption)] at hq0 | rw [if_pos (Or.inl (by assumption))] at hq0 | rw [if_pos (Or.inr (by assumption))] at hq0 | rw [if_neg (by assumption)] at hq0 | rw [if_neg (aBr (by assumption) (by assumption))] at hq0))
 ·refine QJ q7 ?_
  refine jH (hd := hd) (aQ) (aU.kH (hd' := hd) aI hq0 fun tk1 x1 h1 v1 ps1 fr1 hv1 hq1 => ?_)
  obtain ⟨rfl, hp1⟩ := hv1
  have hn1 := nx fr1.1
  clear hp1
  refine Mb (w:=QO (Ma (w:=MJ r4 (w:=c.cW (hd := hd) (aQ) (Eu hq1 (k:=fun t2 x2 h2 b2 n2 es2 ps2 fr2 kv2 hn2 hq2 => ?_))))))
  refine MJ tI (w:=kN fun h3 g3 => ?_)
  have hn3 := nx g3.1
  refine Mz (w:=Mb (w:=QO (Ma (w:=MJ qX (w:=lV (L := L) (hd := hd) (x := x2) (aQ) fun h4 ps4 fr4 => ?_)))))
  have hn4 := nx fr4.1
  cases hb4 : Xs.is L [⟨#[61]⟩] x2
  ·rw [Xs.gT hb4] at ps4
   rw [Xs.hY hb4] at hq2
   have hq2 : aU _ _ _ _ _ _ (x2.run fun s => _) := hq2
   refine Mb (w:=QL (QU (QN (Ma (w:=QP (UA (QN (Mj (w:=Mt (w:=Ma (w:=Ma (w:=MJ cL (w:=bN fun h6 g6 => ?_)))))))))))))
   have hn6 := nx g6.1
   refine Mv (w:=QM ?_)
   refine ⟨_, aJ, ?_⟩
   exact hq2.fin aQ aI ⟨_, _, _, rfl, NV.aN (KV.two (b2 := none) (n2 := 0) (es2 := 0) (S := fun j => h.next ≤ j ∧ j < h3.next) aB aB aA (kv2.kp) (NV.none _ _) (fun j hS hj => ⟨hS.1, by have := hS.2; exact aB⟩)) _ _ _ _ _ _⟩
  ·rw [Xs.iA hb4] at hq2
   obtain ⟨s4, rfl, hs4⟩ := Xs.fZ hb4
   rw [Xs.iE hs4] at ps4
   rw [Xs.a8] at hq2
   refine Mb (w:=QL (QU (QN (Ma (w:=QQ (QV (Ma (w:=Ma (w:=MJ iW (w:=c.expr (hd := hd) (aQ) (El hq2 (k:=fun t5 x5 h5 b5 n5 es5 ps5 fr5 kv5 hn5 hq5 => ?_))))))))))))
   refine Ml (w:=Mv (w:=QO (Mj (w:=Mt (w:=Ma (w:=Ma (w:=MJ cL (w:=bN fun h6 g6 => ?_))))))))
   have hn6 := nx g6.1
   refine Mv (w:=QM ?_)
   refine ⟨_, aJ, ?_⟩
   exact hq5.fin aQ aI ⟨_, _, _, rfl, NV.aN (KV.two (S := fun j => h.next ≤ j ∧ j < h6.next ∧ j ≠ h3.next) aB aB aA (kv2.kp) (kv5.kp) (fun j hS hj => ⟨hS.1, by have := hS.2; exact aB⟩)) _ _ _ _ _ _⟩
 ·have hnc : ¬ tk.text = ⟨#[99, 111, 110, 116, 105, 110, 117, 101]⟩ := fun e => absurd ((show tk.text = ⟨#[98, 114, 101, 97, 107]⟩ by assumption).symm.trans e) (by decide +kernel)
  (first | rw [if_pos (show tk.text = ⟨#[98, 114, 101, 97, 107]⟩ by assumption)] at hq0 | rw [if_neg (show ¬tk.text = ⟨#[98, 114, 101, 97, 107]⟩ by assumption)] at hq0)
  refine QJ gG ?_
  refine cN (L := L) (hd := hd) (x := .live s0) (aQ) fun h3 g3 => ?_
  have hn3 := nx g3.1
  by_cases hk3 : (aF L s0.k).kind = 1
  ·replace hq0 : aU (VN fun j => h.next ≤ j) p L hd h Q ((eD L s0).then fun y s => .ok (nd 27 tk y.text []) s) := by unfold eD; rw [if_pos hk3] at hq0 ⊢; exact hq0
   generalize htt : aF L s0.k = t3 at *
   refine Mk (w:=MD (w:=fun hh => QQ (QV (Ma (w:=MJ q7 (w:=jH (hd := hd) (aQ) (aU.kH (hd' := hd) aI hq0 fun tk4 x4 h4 v4 ps4 fr4 hv4 hq4 => ?_)))))) (v:=fun hh => by omega))
   obtain ⟨rfl, hp4⟩ := hv4
   have hn4 := nx fr4.1
   refine Mb (w:=QO (Mb (w:=QL (QU (QN (Mj (w:=Mt (w:=MB (w:=fun hh => by exact absurd hh (by assumption)) (v:=fun hh => QP (UA (QN (Ma (w:=Mj (w:=Mt (w:=Ma (w:=MJ cL (w:=bN fun h5 g5 => ?_)))))))))))))))))
   have hn5 := nx g5.1
   refine Mv (w:=QM ?_)
   refine ⟨_, aJ, ?_⟩
   exact hq4.fin aQ aI ⟨_, _, _, rfl, NV.leaf _ _ _ _ _ _⟩
  ·rw [if_neg hk3] at hq0
   generalize htt : aF L s0.k = t3 at *
   refine Mk (w:=MD (w:=fun hh => by omega) (v:=fun hh => QP (UA (QN (Mb (w:=QL (QU (QN (Mj (w:=Mt (w:=MB (w:=fun hh => by exact absurd hh (by assumption)) (v:=fun hh => QP (UA (QN (Ma (w:=Mj (w:=Mt (w:=Ma (w:=MJ cL (w:=bN fun h5 g5 => ?_))))))))))))))))))))
   have hn5 := nx g5.1
   refine Mv (w:=QM ?_)
   refine ⟨_, aJ, ?_⟩
   exact hq0.qL aQ aI ⟨_, _, _, rfl, NV.leaf _ _ _ _ _ _⟩
 ·(first | rw [if_pos (show tk.text = ⟨#[98, 114, 101, 97, 107]⟩ by assumption)] at hq0 | rw [if_neg (show ¬tk.text = ⟨#[98, 114, 101, 97, 107]⟩ by assumption)] at hq0)
  refine QJ gG ?_
  refine cN (L := L) (hd := hd) (x := .live s0) (aQ) fun h3 g3 => ?_
  have hn3 := nx g3.1
  by_cases hk3 : (aF L s0.k).kind = 1
  ·replace hq0 : aU (VN fun j => h.next ≤ j) p L hd h Q ((eD L s0).then fun y s => .ok (nd 28 tk y.text []) s) := by unfold eD; rw [if_pos hk3] at hq0 ⊢; exact hq0
   generalize htt : aF L s0.k = t3 at *
   refine Mk (w:=MD (w:=fun hh => QQ (QV (Ma (w:=MJ q7 (w:=jH (hd := hd) (aQ) (aU.kH (hd' := hd) aI hq0 fun tk4 x4 h4 v4 ps4 fr4 hv4 hq4 => ?_)))))) (v:=fun hh => by omega))
   obtain ⟨rfl, hp4⟩ := hv4
   have hn4 := nx fr4.1
   refine Mb (w:=QO (Mb (w:=QL (QU (QN (Mj (w:=Mt (w:=MB (w:=fun hh => QQ (QV (Mb (w:=QO (Ma (w:=Mj (w:=Mt (w:=Ma (w:=MJ cL (w:=bN fun h5 g5 => ?_)))))))))) (v:=fun hh => by exact absurd (by assumption) hh)))))))))
   have hn5 := nx g5.1
   refine Mv (w:=QM ?_)
   refine ⟨_, aJ, ?_⟩
   exact hq4.fin aQ aI ⟨_, _, _, rfl, NV.leaf _ _ _ _ _ _⟩
  ·rw [if_neg hk3] at hq0
   generalize htt : aF L s0.k = t3 at *
   refine Mk (w:=MD (w:=fun hh => by omega) (v:=fun hh => QP (UA (QN (Mb (w:=QL (QU (QN (Mj (w:=Mt (w:=MB (w:=fun hh => QQ (QV (Mb (w:=QO (Ma (w:=Mj (w:=Mt (w:=Ma (w:=MJ cL (w:=bN fun h5 g5 => ?_)))))))))) (v:=fun hh => by exact absurd (by assumption) hh))))))))))))
   have hn5 := nx g5.1
   refine Mv (w:=QM ?_)
   refine ⟨_, aJ, ?_⟩
   exact hq0.qL aQ aI ⟨_, _, _, rfl, NV.leaf _ _ _ _ _ _⟩
 ·refine QJ cL ?_
  refine bN fun h5 g5 => ?_
  have hn5 := nx g5.1
  refine Mv (w:=QM ?_)
  refine ⟨_, aJ, ?_⟩
  exact hq0.qL aQ aI ⟨_, _, _, rfl, NV.leaf _ _ _ _ _ _⟩
 ·refine QJ o7 ?_
  refine eR (L := L) (hd := hd) (x := .live s0) (ws := [⟨#[59]⟩, ⟨#[125]⟩, ⟨#[99, 97, 115, 101]⟩, ⟨#[100, 101, 102, 97, 117, 108, 116]⟩]) (by decide +kernel) (by decide) (aQ) fun h3 g3 => ?_
  have hn3 := nx g3.1
  cases hb3 : Xs.is L [⟨#[59]⟩, ⟨#[125]⟩, ⟨#[99, 97, 115, 101]⟩, ⟨#[100, 101, 102, 97, 117, 108, 116]⟩] (.live s0)
  ·have hs3 : bA L s0 [⟨#[59]⟩, ⟨#[125]⟩, ⟨#[99, 97, 115, 101]⟩, ⟨#[100, 101, 102, 97, 117, 108, 116]⟩] = false := hb3
   rw [hs3, if_neg Bool.false_ne_true] at hq0
   refine QP (UA (QN (Ma (w:=MJ iW (w:=c.expr (hd := hd) (aQ) (El hq0 (k:=fun t4 x4 h4 b4 n4 es4 ps4 fr4 kv4 hn4 hq4 => ?_)))))))
   refine Mw (w:=Mv (w:=QO (Mj (w:=Mt (w:=Mu (w:=Mz (w:=MJ cL (w:=bN fun h5 g5 => ?_))))))))
   have hn5 := nx g5.1
   refine Mv (w:=QM ?_)
   refine ⟨_, aJ, ?_⟩
   exact hq4.fin aQ aI ⟨_, _, _, rfl, NV.aN (KV.one (S := fun j => h.next ≤ j ∧ j < h4.next) aB aB aA (kv4.kp) (fun j hS hj => ⟨hS.1, by have := hS.2; exact aB⟩)) _ _ _ _ _ _⟩
  ·have hs3 : bA L s0 [⟨#[59]⟩, ⟨#[125]⟩, ⟨#[99, 97, 115, 101]⟩, ⟨#[100, 101, 102, 97, 117, 108, 116]⟩] = true := hb3
   rw [hs3, if_pos rfl] at hq0
   refine QQ (QU (Gd [⟨0, .pure, 0⟩, ⟨1, .read, 1⟩, ⟨2, .aC, 0⟩, ⟨3, .alloc, 4⟩, ⟨4, .aC, 15⟩, ⟨5, .aC, 31⟩] (w:=Dj (w:=Rt (w:=?_)))));refine WD.aC hX (hw := ?_)
   refine QJ tI ?_
   refine kN fun h4 g4 => ?_
   have hn4 := nx g4.1
   refine WD.alloc (hw := Qz ?_);refine WD.aC hX (hw := ?_)
   refine QJ cL ?_
   refine bN fun h5 g5 => ?_
   have hn5 := nx g5.1
   refine WD.aC hX (hw := Qv ?_);refine WD.nil (hq:=WC.ret ?_)
   refine ⟨_, aJ, ?_⟩
   exact hq0.qL aQ aI ⟨_, _, _, rfl, NV.aN (KV.one (b := none) (n := 0) (es := 0) (S := fun j => h.next ≤ j ∧ j < h4.next) aB aB aA (NV.none _ _) (fun j hS hj => ⟨hS.1, by have := hS.2; exact aB⟩)) _ _ _ _ _ _⟩
 ·unfold oW at hq0
  rw [R.then_assoc] at hq0
  refine QJ wV ?_
  refine c.mR (hd := hd) (aQ) (aU.aI1 (hd' := hd) aI hq0 fun t3 x3 h3 v3 ps3 bx3 fr3 hv3 hq3 => ?_)
  obtain ⟨b3, n3, es3, rfl, kv3⟩ := hv3
  have hn3 := nx fr3.1
  obtain ⟨sl3, k3, bd3, hw3, ho3⟩ := bx3
  obtain ⟨j3, br3, hj3, hp3, hl3⟩ := ps3.tok
  cases ho3.symm.trans hp3
  cases x3 with
  | dead e s =>
   have hb3 := ps3.dA
   generalize hbd : Xs.bad L (Xs.dead e s) = bd at *
   refine Mw (w:=Mv (w:=QL (QU (QN (Ma (w:=Mi (w:=Mj (w:=Mt (w:=MI (w:=fun hh => Ma (w:=MA (w:=MA (w:=MA (w:=Mc (w:=Ma (w:=MA (w:=MA (w:=MA (w:=MA (w:=Mc (w:=QQ (QN (Ma (w:=MJ oM (w:=eI (L := L) (hd := hd) (x := .dead e s) (aQ) fun h4 ps4 fr4 => ?_)))))))))))))))) (v:=fun hh => by omega))))))))))
   have hn4 := nx fr4.1
   refine Mv (w:=QM ?_)
   refine ⟨_, aJ, ?_⟩
   exact hq3.2 _ _ (.dead e s) eY rfl aQ aI ⟨none, 0, 0, rfl, NV.leaf _ _ _ _ _ _⟩
  | live s3 =>
   have hb3 : Xs.bad L (Xs.live s3) = -1 := rfl
   rw [hb3] at hp3
   have hbr : (Xs.live s3).st.bare = s3.bare := rfl
   rw [hbr] at hp3
   rw [Xs.a8] at hq3
   refine Mw (w:=Mv (w:=QL (QU (QN (Ma (w:=Mi (w:=Mj (w:=Mt (w:=MI (w:=fun hh => by omega) (v:=fun hh => Ma (w:=Mu (w:=MJ aIn (w:=z5 fun h4 g4 => ?_)))))))))))))
   have hn4 := nx g4.1
   cases hb4 : dY t3
   ·rw [hb4, Bool.not_false, Bool.true_or, if_pos rfl] at hq3
    refine Me (w:=Md (w:=Ma (w:=MA (w:=MA (w:=MA (w:=MA (w:=Mc (w:=QQ (QN (Ma (w:=MJ oM (w:=eI (L := L) (hd := hd) (x := .live s3) (aQ) fun h5 ps5 fr5 => ?_))))))))))))
    have hn5 := nx fr5.1
    refine Mv (w:=QM ?_)
    refine ⟨_, aJ, ?_⟩
    exact hq3.q6 eY aQ aI ⟨none, 0, 0, rfl, NV.leaf _ _ _ _ _ _⟩
   ·rw [hb4, Bool.not_true, Bool.false_or] at hq3
    cases hr : s3.bare
    ·rw [hr, if_neg Bool.false_ne_true, R.then_ok] at hq3
     rw [hr] at hp3
     refine Me (w:=Md (w:=Ma (w:=Ma (w:=Mi (w:=Mj (w:=Mt (w:=Md (w:=QP (UA (QN (Mb (w:=QL (QU (QN (Mj (w:=Mt (w:=MB (w:=fun hh => QQ (QV (Mb (w:=QO (Ma (w:=Mj (w:=Mt (w:=Mu (w:=Mz (w:=QK ?_)))))))))) (v:=fun hh => QP (UA (QN (Ma (w:=Mj (w:=Mt (w:=Mu (w:=Mz (w:=QK ?_))))))))))))))))))))))))))
     all_goals
      refine QJ cL ?_
      refine bN fun h6 g6 => ?_
      have hn6 := nx g6.1
      refine Mv (w:=QM ?_)
      refine ⟨_, aJ, ?_⟩
      (first | rw [if_pos (show tk.text = ⟨#[100, 101, 102, 101, 114]⟩ by assumption)] at hq3 | rw [if_neg (show ¬tk.text = ⟨#[100, 101, 102, 101, 114]⟩ by assumption)] at hq3)
      exact hq3.qL aQ aI ⟨_, _, _, rfl, NV.aN (KV.one (S := fun j => h.next ≤ j ∧ j < h3.next) aB aB aA (kv3.kp) (fun j hS hj => ⟨hS.1, by have := hS.2; exact aB⟩)) _ _ _ _ _ _⟩
    ·rw [hr, if_pos rfl] at hq3
     rw [hr] at hp3
     refine Me (w:=Md (w:=Ma (w:=Ma (w:=Mi (w:=Mj (w:=Mt (w:=Md (w:=QQ (QN (Ma (w:=MJ oM (w:=eI (L := L) (hd := hd) (x := .live s3) (aQ) fun h5 ps5 fr5 => ?_))))))))))))
     have hn5 := nx fr5.1
     refine Mv (w:=QM ?_)
     refine ⟨_, aJ, ?_⟩
     exact hq3.q6 eY aQ aI ⟨none, 0, 0, rfl, NV.leaf _ _ _ _ _ _⟩

theorem bG.aJj {s : St} {k : Int} {sl b hv br : Value} (ps : bG h p L hd (.live s)) (ho : h.obj p = some (.cells false [sl, .int .i64 k, b, hv, br])) (hk : s.k + 2 < L.length) : bG (h.put p (some (.cells false [sl, .int .i64 (k + 2), b, hv, br]))) p L hd (.live (s.goto (s.k + 2))) := by
 obtain ⟨j, br0, hj, h1, h2⟩ := ps.tok
 have e := ho.symm.trans h1
 cases e
 exact ⟨ps.lt, ⟨j, br0, hj, fX, bF (by omega) h2⟩, hk, ps.wf⟩

theorem aJa {r : Rec} (c : gE r) : XNl 89 (rS r) (fun _ _ => True) := by
 intro p L hd s0 h Q _ ps hq0
 have hp := ps.lt
 have hwf := ps.wf
 have hz := ps.wf.size
 rw [aHi hwf] at hq0
 unfold aEr at hq0
 refine Wk Tryz.func89 Tryz.ntmps89 (w:=QN (Mw (w:=QO (Ma (w:=MJ gG (w:=cN (L := L) (hd := hd) (x := .live s0) (aQ) fun h1 g1 => ?_))))))
 have hn1 := nx g1.1
 refine Mw (w:=Mv (w:=QL (QU (QN (Ma (w:=MJ gY (w:=gX (L := L) (hd := hd) (x := .live s0) (aQ) fun h2 g2 => ?_)))))))
 have hn2 := nx g2.1
 cases hb2 : Xs.is L [⟨#[123]⟩] (.live s0)
 case true =>
  have hs2 : bA L s0 [⟨#[123]⟩] = true := hb2
  rw [hs2, if_pos rfl] at hq0
  rw [← R.bT (r.block L hd s0)] at hq0
  refine QQ (QN (Ma (w:=MJ yA (w:=c.block (hd := hd) (aQ) (El hq0 (k:=fun t20 x20 h20 b20 n20 es20 ps20 fr20 kv20 hn20 hq20 => ?_))))))
  refine Mv (w:=QM ?_)
  refine ⟨_, aJ, ?_⟩
  exact hq20.fin aQ aI ⟨_, _, _, rfl, kv20.kp⟩
 have hs2 : bA L s0 [⟨#[123]⟩] = false := hb2
 rw [hs2, if_neg Bool.false_ne_true] at hq0
 refine QP (UA (QU (QN (Ma (w:=MJ o7 (w:=eR (L := L) (hd := hd) (x := .live s0) (ws := cK) (by decide +kernel) (by decide) (aQ) fun h3 g3 => ?_))))))
 have hn3 := nx g3.1
 cases hb3 : Xs.is L cK (.live s0)
 case true =>
  have hs3 : bA L s0 cK = true := hb3
  rw [hs3, if_pos rfl] at hq0
  rw [← R.bT (r.nested L hd s0)] at hq0
  refine QQ (QN (Ma (w:=MJ aLu (w:=c.nested (hd := hd) hs3 (aQ) (aU.wB (hd' := hd) (F := r.nested L hd) aI hq0 fun t20 x20 h20 v20 ps20 fr20 hv20 hq20 => ?_)))))
  obtain ⟨b20, n20, es20, rfl, kv20⟩ := hv20
  have hn20 := nx fr20.1
  refine Mv (w:=QM ?_)
  refine ⟨_, aJ, ?_⟩
  exact hq20.fin aQ aI ⟨_, _, _, rfl, kv20.kp⟩
 have hs3 : bA L s0 cK = false := hb3
 rw [hs3, if_neg Bool.false_ne_true] at hq0
 have hk0 := ps.at_
 have hm1 := hwf.toWF.more ps.at_
 have hm2 : ∀ h : s0.k + 1 < L.length, (aF L (s0.k + 1)).kind ≠ 6 → s0.k + 1 + 1 < L.length := fun h => hwf.toWF.more h
 have htx := hwf.txt s0.k
 have hts := hwf.small s0.k
 have hfo : ∀ {w : ByteArray} {h : aE} {Q : bW → Prop}, bG h p L hd (.live s0) → (∀ h', Gr h h' → Q (.ret (.bool (dL (aF L (s0.k + 1)) w)) h')) → aP Tryz.prog G X 95 [pV p, .string w] h Q := fun ps hq => wM (x := .live s0) ps hq
 generalize htk : aF L (Xs.live s0).st.k = tk at *
 have htk : aF L s0.k = tk := htk
 generalize aF L (s0.k + 1) = t2 at *
 generalize hlb : (decide (tk.kind = 1) && dL t2 ⟨#[58]⟩) = lb at *
 refine QP (UA (QU (QU ?_)))
 refine WC.cut (N' := fun e h' => e 21 = some (.bool lb) ∧ e 0 = some (pV p) ∧ e 2 = some (.pointer (some ⟨h.next, 0, none⟩)) ∧ e 3 = some (.pointer (some ⟨h1.next, 0, none⟩)) ∧ bG h' p L hd (.live s0) ∧ bB p h h' ∧ h'.obj h.next = some (Z0) ∧ h'.obj h1.next = some (.cells false tk.cells) ∧ h1.next < h'.next) ?_ ?_
 ·subst hlb
  refine QV (Mj (w:=Mt (w:=MD (w:=fun hh => Ma (w:=Ma (w:=QK ?_))) (v:=fun hh => Ma (w:=MA (w:=MA (w:=Md (w:=QL ?_))))))))
  ·refine QJ aMd ?_
   refine hfo (aQ) fun h4 g4 => ?_
   have hn4 := nx g4.1
   rw [decide_eq_true (show tk.kind = 1 by assumption), Bool.true_and]
   generalize dL t2 ⟨#[58]⟩ = lb at *
   cases lb
   all_goals
    refine Mc (w:=QL ?_)
    exact ⟨by simp [*, bE], aD, aD, aD, aQ, aI, aA, aA, aB⟩
  ·rw [decide_eq_false (show ¬ tk.kind = 1 by assumption), Bool.false_and]
   exact ⟨by simp [*, bE], aD, aD, aD, aQ, aI, aA, aA, aB⟩
 rintro e5 h5 ⟨et, e0, e2, e3, ps5, fr5, ho2, ho3, hn5⟩
 have hnn5 := fr5.1
 cases lb with
 | true =>
  rw [if_pos rfl] at hq0
  rw [Bool.and_eq_true] at hlb
  have hk1 := of_decide_eq_true hlb.1
  have hk2 := hlb.2
  unfold dL at hk2
  rw [Bool.and_eq_true] at hk2
  have hk2 := of_decide_eq_true hk2.1
  have hm2 : s0.k + 2 < L.length := hm2 (hm1 (by omega)) (by omega)
  obtain ⟨hk9, j9, br9, hj9, hp9, hl9⟩ := ps5.live
  clear hm1
  refine QR (QN (Ma (w:=Mi (w:=Mj (w:=Mt (w:=Mf (w:=Mi (w:=Mj (w:=Mv (w:=QL (QU (QN (Ma (w:=MJ o7 (w:=eR (L := L) (hd := hd) (x := .live (s0.goto (s0.k + 2))) (ws := cK) (by decide +kernel) (by decide) (bG.aJj ps5 aA hm2) fun h6 g6 => ?_)))))))))))))))
  have hn6 := nx g6.1
  have ps6 : bG h6 p L hd (.live (s0.goto (s0.k + 2))) := bG.gr (bG.aJj ps5 aA hm2) g6
  generalize s0.goto (s0.k + 2) = s1 at *
  cases hb6 : Xs.is L cK (.live s1)
  ·have hs6 : bA L s1 cK = false := hb6
   rw [hs6, if_neg Bool.false_ne_true] at hq0
   refine Me (w:=QQ (QN (Ma (w:=MJ oM (w:=eI (L := L) (hd := hd) (x := .live s1) (aQ) fun h7 ps7 fr7 => ?_)))))
   have hn7 := nx fr7.1
   refine Mv (w:=QM ?_)
   refine ⟨_, aJ, ?_⟩
   exact hq0.q6 eY aQ aI ⟨none, 0, 0, rfl, NV.leaf _ _ _ _ _ _⟩
  ·have hs6 : bA L s1 cK = true := hb6
   rw [hs6, if_pos rfl] at hq0
   refine Me (w:=QP (UA (QN (Ma (w:=MJ aLu (w:=c.nested (hd := hd) hs6 (aQ) (aU.wB (hd' := hd) (F := r.nested L hd) aI hq0 fun t20 x20 h20 v20 ps20 fr20 hv20 hq20 => ?_)))))))
   obtain ⟨b20, n20, es20, rfl, kv20⟩ := hv20
   have hn20 := nx fr20.1
   refine Mw (w:=Mv (w:=QO (Mj (w:=Mt (w:=Mj (w:=Mt (w:=Mu (w:=Mz (w:=MJ cL (w:=bN fun h21 g21 => ?_))))))))))
   have hn21 := nx g21.1
   refine Mv (w:=QM ?_)
   refine ⟨_, aJ, ?_⟩
   exact hq20.fin aQ aI ⟨_, _, _, rfl, NV.aN (KV.one (S := fun j => h.next ≤ j ∧ j < h20.next) aB aB aA (kv20.kp) (fun j hS hj => ⟨hS.1, by have := hS.2; exact aB⟩)) _ _ _ _ _ _⟩
 | false =>
  rw [if_neg Bool.false_ne_true] at hq0
  refine QS (UA (QU (QN (Ma (w:=MJ gY (w:=gX (L := L) (hd := hd) (x := .live s0) (aQ) fun h6 g6 => ?_))))))
  have hn6 := nx g6.1
  cases hb6 : Xs.is L [⟨#[105, 102]⟩] (.live s0)
  case true =>
   have hs6 : bA L s0 [⟨#[105, 102]⟩] = true := hb6
   rw [hs6, if_pos rfl] at hq0
   rw [← R.bT (r.branch L hd s0)] at hq0
   refine QQ (QN (Ma (w:=MJ aLx (w:=c.branch (hd := hd) hs6 (aQ) (aU.wB (hd' := hd) (F := r.branch L hd) aI hq0 fun t20 x20 h20 v20 ps20 fr20 hv20 hq20 => ?_)))))
   obtain ⟨b20, n20, es20, rfl, kv20⟩ := hv20
   have hn20 := nx fr20.1
   refine Mv (w:=QM ?_)
   refine ⟨_, aJ, ?_⟩
   exact hq20.fin aQ aI ⟨_, _, _, rfl, kv20.kp⟩
  have hs6 : bA L s0 [⟨#[105, 102]⟩] = false := hb6
  rw [hs6, if_neg Bool.false_ne_true] at hq0
  by_cases hk4 : tk.kind = 4
  ·have hm1 := hm1 (by omega)
   rw [decide_eq_true hk4, Bool.true_and] at hq0
   obtain ⟨hk9, j9, br9, hj9, hp9, hl9⟩ := ps5.live
   refine QP (UA (QU (QN (Mj (w:=Mt (w:=MD (w:=fun hh => Ma (w:=Mj (w:=Mt (w:=MJ uX (w:=tC (ws := dS) (by decide +kernel) (htx (.inl hk4)) (by decide) (hts (.inl hk4)) ?_))))) (v:=fun hh => by omega)))))))
   cases hw : dE dS tk.text
   ·rw [hw, if_neg Bool.false_ne_true] at hq0
    rw [← R.bT (r.simple L hd s0)] at hq0
    refine Mc (w:=QP (UA (QN (Ma (w:=MJ aH7 (w:=c.simple (hd := hd) (aQ) (El hq0 (k:=fun t20 x20 h20 b20 n20 es20 ps20 fr20 kv20 hn20 hq20 => ?_))))))))
    refine Mv (w:=QM ?_)
    refine ⟨_, aJ, ?_⟩
    exact hq20.fin aQ aI ⟨_, _, _, rfl, kv20.kp⟩
   ·rw [hw, if_pos rfl, ← R.bT (wK r tk L hd s0.next)] at hq0
    refine Mc (w:=QQ (QN (Ma (w:=Mi (w:=Mj (w:=Mt (w:=Mf (w:=Mi (w:=Mj (w:=Mv (w:=QO (Ma (w:=Mu (w:=MJ aM1 (w:=aDv c (hd := hd) (s0 := s0.next) hw (aQ) (aU.wB (hd' := hd) (F := wK r tk L hd) aI hq0 fun t20 x20 h20 v20 ps20 fr20 hv20 hq20 => ?_))))))))))))))))
    obtain ⟨b20, n20, es20, rfl, kv20⟩ := hv20
    have hn20 := nx fr20.1
    refine Mv (w:=QM ?_)
    refine ⟨_, aJ, ?_⟩
    exact hq20.fin aQ aI ⟨_, _, _, rfl, kv20.kp⟩
  ·rw [decide_eq_false hk4, Bool.false_and, if_neg Bool.false_ne_true] at hq0
   rw [← R.bT (r.simple L hd s0)] at hq0
   refine QP (UA (QU (QN (Mj (w:=Mt (w:=MD (w:=fun hh => by omega) (v:=fun hh => Ma (w:=MA (w:=MA (w:=MA (w:=Md (w:=QP (UA (QN (Ma (w:=MJ aH7 (w:=c.simple (hd := hd) (aQ) (El hq0 (k:=fun t20 x20 h20 b20 n20 es20 ps20 fr20 kv20 hn20 hq20 => ?_)))))))))))))))))))
   refine Mv (w:=QM ?_)
   refine ⟨_, aJ, ?_⟩
   exact hq20.fin aQ aI ⟨_, _, _, rfl, kv20.kp⟩

end Go.Proofs.ZL
end
