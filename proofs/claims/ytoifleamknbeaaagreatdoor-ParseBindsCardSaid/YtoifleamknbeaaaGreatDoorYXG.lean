/- ParseBinds: the rows that its loops go through. -/
import Derived.Test.YtoifleamknbeaaaGreatDoorYXF
open Go Go.Am
namespace Go.Proofs.ZL
set_option maxRecDepth 100000
set_option linter.unusedSimpArgs false
set_option linter.unusedVariables false

def mgAt : Nat → Ex → List (Nat × Ex) → Ex × List (Nat × Ex)
 | _, u, [] => (u, [])
 | 0, u, (k, e) :: r => (.pr u k e, r)
 | i + 1, u, (k, e) :: r => (u, (k, (mgAt i e r).1) :: (mgAt i e r).2)
theorem mgAt_mg {l : Nat} : ∀ (i : Nat) (u : Ex) (r : List (Nat × Ex)) (h : i < r.length), lv (r[i]).1 = l → (∀ j (hj : j < i), lv (r[j]'(by omega)).1 < l) → (∀ p ∈ r, lv p.1 ≤ l) → Mg l u r (mgAt i u r).1 (mgAt i u r).2
 | _, u, [], h, _, _, _ => by simp at h
 | 0, u, (k, e) :: r, h, h1, _, h3 => .here h1 fun p hp => h3 p (List.mem_cons_of_mem _ hp)
 | i + 1, u, (k, e) :: r, h, h1, h2, h3 => by
  refine .later (h2 0 (by omega)) (mgAt_mg i e r (by simp at h; omega) (by simpa using h1) (fun j hj => ?_) fun p hp => h3 p (List.mem_cons_of_mem _ hp))
  simpa using h2 (j + 1) (by omega)

def us (u : Ex) (r : List (Nat × Ex)) : List Ex := u :: r.map fun p => p.2
def os (r : List (Nat × Ex)) : List Nat := r.map fun p => p.1
theorem us_len (u : Ex) (r : List (Nat × Ex)) : (us u r).length = r.length + 1 := by simp [us]
theorem os_len (r : List (Nat × Ex)) : (os r).length = r.length := by simp [os]
theorem mgAt_us : ∀ (i : Nat) (u : Ex) (r : List (Nat × Ex)) (x y : Ex) (k : Nat), (us u r)[i]? = some x → (us u r)[i + 1]? = some y → (os r)[i]? = some k →
  us (mgAt i u r).1 (mgAt i u r).2 = (us u r).take i ++ .pr x k y :: (us u r).drop (i + 2) ∧ os (mgAt i u r).2 = (os r).take i ++ (os r).drop (i + 1)
 | _, u, [], x, y, k, _, h2, _ => by simp [us] at h2
 | 0, u, (k', e) :: r, x, y, k, h1, h2, h3 => by
  simp [us] at h1 h2
  simp [os] at h3
  subst h1; subst h2; subst h3
  exact ⟨rfl, rfl⟩
 | i + 1, u, (k', e) :: r, x, y, k, h1, h2, h3 => by
  obtain ⟨g1, g2⟩ := mgAt_us i e r x y k (by simpa [us] using h1) (by simpa [us] using h2) (by simpa [os] using h3)
  constructor
  ·show us u ((k', (mgAt i e r).1) :: (mgAt i e r).2) = _
   have e1 : us u ((k', (mgAt i e r).1) :: (mgAt i e r).2) = u :: us (mgAt i e r).1 (mgAt i e r).2 := rfl
   have e2 : us u ((k', e) :: r) = u :: us e r := rfl
   rw [e1, e2, g1]
   simp
  ·have e1 : os ((k', (mgAt i e r).1) :: (mgAt i e r).2) = k' :: os (mgAt i e r).2 := rfl
   have e2 : os ((k', e) :: r) = k' :: os r := rfl
   show os ((k', (mgAt i e r).1) :: (mgAt i e r).2) = _
   rw [e1, e2, g2]
   simp
theorem mgAt_len : ∀ (i : Nat) (u : Ex) (r : List (Nat × Ex)), i < r.length → (mgAt i u r).2.length + 1 = r.length
 | _, u, [], h => by simp at h
 | 0, u, (k, e) :: r, _ => rfl
 | i + 1, u, (k, e) :: r, h => by
  have := mgAt_len i e r (by simp at h; omega)
  show ((k, (mgAt i e r).1) :: (mgAt i e r).2).length + 1 = _
  simp only [List.length_cons]; omega

def dsum (r : List (Nat × Ex)) : Nat := (r.map fun p => p.2.dp).sum
structure RowI (N W : Nat) (t : Nd) (u : Ex) (r : List (Nat × Ex)) : Prop where
 ok : u.ok ∧ rok r
 nms : u.nms ∧ rnms r
 dp : u.dp + dsum r + r.length = N
 wt : (u.tx ++ rtx r).length + 2 * r.length = W
 bnd : Bnd 1 u.tr r t []

theorem mgAt_all : ∀ (i : Nat) (u : Ex) (r : List (Nat × Ex)), i < r.length → u.ok → rok r → u.nms → rnms r → ((mgAt i u r).1.ok ∧ rok (mgAt i u r).2) ∧ ((mgAt i u r).1.nms ∧ rnms (mgAt i u r).2) ∧
  (mgAt i u r).1.dp + dsum (mgAt i u r).2 + (mgAt i u r).2.length = u.dp + dsum r + r.length ∧ ((mgAt i u r).1.tx ++ rtx (mgAt i u r).2).length + 2 * (mgAt i u r).2.length = (u.tx ++ rtx r).length + 2 * r.length
 | _, u, [], h, _, _, _, _ => by simp at h
 | 0, u, (k, e) :: r, _, h1, h2, h3, h4 => by
  have hk := h2 _ List.mem_cons_self
  have hn := h4 _ List.mem_cons_self
  refine ⟨⟨⟨h1, hk.1, hk.2⟩, fun p hp => h2 p (List.mem_cons_of_mem _ hp)⟩, ⟨⟨h3, hn⟩, fun p hp => h4 p (List.mem_cons_of_mem _ hp)⟩, ?_, ?_⟩
  ·show (Ex.pr u k e).dp + dsum r + r.length = _
   simp [dsum, Ex.dp]; omega
  ·show ((Ex.pr u k e).tx ++ rtx r).length + 2 * r.length = _
   simp [rtx, Ex.tx]; omega
 | i + 1, u, (k, e) :: r, h, h1, h2, h3, h4 => by
  have hk := h2 _ List.mem_cons_self
  have hn := h4 _ List.mem_cons_self
  obtain ⟨⟨g1, g2⟩, ⟨g3, g4⟩, g5, g6⟩ := mgAt_all i e r (by simp at h; omega) hk.2 (fun p hp => h2 p (List.mem_cons_of_mem _ hp)) hn fun p hp => h4 p (List.mem_cons_of_mem _ hp)
  refine ⟨⟨h1, fun p hp => ?_⟩, ⟨h3, fun p hp => ?_⟩, ?_, ?_⟩
  ·rcases List.mem_cons.1 hp with rfl | hp
   ·exact ⟨hk.1, g1⟩
   ·exact g2 p hp
  ·rcases List.mem_cons.1 hp with rfl | hp
   ·exact g3
   ·exact g4 p hp
  ·show u.dp + dsum ((k, (mgAt i e r).1) :: (mgAt i e r).2) + ((k, (mgAt i e r).1) :: (mgAt i e r).2).length = _
   simp only [dsum, List.map_cons, List.sum_cons, List.length_cons] at g5 ⊢
   omega
  ·show (u.tx ++ rtx ((k, (mgAt i e r).1) :: (mgAt i e r).2)).length + 2 * ((k, (mgAt i e r).1) :: (mgAt i e r).2).length = _
   simp only [rtx, List.flatMap_cons, List.length_append, List.length_cons] at g6 ⊢
   omega

theorem RowI.merge {N W l i : Nat} {t : Nd} {u : Ex} {r : List (Nat × Ex)} (h : RowI N W t u r) (hi : i < r.length) (h1 : lv (r[i]).1 = l) (h2 : ∀ j (hj : j < i), lv (r[j]'(by omega)).1 < l) (h3 : ∀ p ∈ r, lv p.1 ≤ l) (hl : 1 ≤ l) :
  RowI N W t (mgAt i u r).1 (mgAt i u r).2 := by
 obtain ⟨g1, g2, g3, g4⟩ := mgAt_all i u r hi h.ok.1 h.ok.2 h.nms.1 h.nms.2
 exact ⟨g1, g2, by rw [g3, h.dp], by rw [g4, h.wt], h.bnd.merge (mgAt_mg i u r hi h1 h2 h3) hl⟩

def nmI (i : Nat) : List UInt8 := [98, zb (97 + ((i % 26 : Nat) : Int))]
def row0 : List Nat → Nat → List (Nat × Ex)
 | [], _ => []
 | k :: ks, i => (k, .nm (nmI i)) :: row0 ks (i + 1)
theorem row0_app : ∀ (a b : List Nat) (i : Nat), row0 (a ++ b) i = row0 a i ++ row0 b (i + a.length)
 | [], b, i => by simp [row0]
 | k :: a, b, i => by
  show (k, Ex.nm (nmI i)) :: row0 (a ++ b) (i + 1) = ((k, Ex.nm (nmI i)) :: row0 a (i + 1)) ++ row0 b (i + (a.length + 1))
  rw [row0_app a b (i + 1), List.cons_append, show i + 1 + a.length = i + (a.length + 1) by omega]
theorem nm_tab : (List.range 26).all (fun i => decide ((nmI i).length ≤ 24 ∧ letterN (hd (nmI i)) = true) && (nmI i).all (fun b => alnumN b.toNat) && !inS words (bts (nmI i))) = true := by decide +kernel
theorem nmI_ok (i : Nat) : NmOk (nmI i) := by
 have e : nmI i = nmI (i % 26) := by unfold nmI; rw [Nat.mod_mod]
 have := List.all_eq_true.1 nm_tab (i % 26) (List.mem_range.2 (Nat.mod_lt _ (by omega)))
 rw [← e] at this
 simp only [Bool.and_eq_true, decide_eq_true_eq] at this
 exact ⟨this.1.1.1, this.1.1.2, fun b hb => List.all_eq_true.1 this.1.2 b hb, by simpa using this.2⟩
theorem nmA_ok : NmOk [97] := ⟨by simp, by decide, by decide, by decide +kernel⟩

theorem row0_fact : ∀ (ks : List Nat) (i : Nat), (∀ k ∈ ks, k < 13) → rok (row0 ks i) ∧ rnms (row0 ks i) ∧ dsum (row0 ks i) = 0 ∧ (row0 ks i).length = ks.length ∧ (rtx (row0 ks i)).length ≤ 4 * ks.length ∧ ∀ p ∈ row0 ks i, 1 ≤ lv p.1 ∧ lv p.1 ≤ 5
 | [], i, _ => ⟨(fun p hp => by cases hp), (fun p hp => by cases hp), rfl, rfl, Nat.le_refl _, (fun p hp => by cases hp)⟩
 | k :: ks, i, h => by
  obtain ⟨h1, h2, h3, h4, h5, h6⟩ := row0_fact ks (i + 1) fun k hk => h k (List.mem_cons_of_mem _ hk)
  have hk := h k List.mem_cons_self
  have hop := op_at hk
  unfold row0
  refine ⟨fun p hp => ?_, fun p hp => ?_, ?_, by simp [h4], ?_, fun p hp => ?_⟩
  ·rcases List.mem_cons.1 hp with rfl | hp
   ·exact ⟨hk, trivial⟩
   ·exact h1 p hp
  ·rcases List.mem_cons.1 hp with rfl | hp
   ·exact nmI_ok i
   ·exact h2 p hp
  ·unfold dsum at h3 ⊢
   rw [List.map_cons, List.sum_cons, h3]; rfl
  ·unfold rtx at h5 ⊢
   rw [List.flatMap_cons, List.length_append, List.length_append, List.length_cons]
   have h7 : (opB k).length ≤ 2 := by rcases (op_at2 hk).2.2.1 with h | h <;> omega
   have h8 : (Ex.nm (nmI i)).tx.length = 2 := rfl
   simp only at h7 h8 ⊢
   omega
  ·rcases List.mem_cons.1 hp with rfl | hp
   ·exact ⟨hop.2.1, hop.2.2.1⟩
   ·exact h6 p hp
theorem row0_I {ks : List Nat} (h : ∀ k ∈ ks, k < 13) : ∃ t W, RowI ks.length W t (.nm [97]) (row0 ks 0) ∧ W ≤ 6 * ks.length + 1 := by
 obtain ⟨h1, h2, h3, h4, h5, h6⟩ := row0_fact ks 0 h
 obtain ⟨t, ht⟩ := Bnd.one (u := (Ex.nm [97]).tr) fun p hp => (h6 p hp).1
 refine ⟨t, _, ⟨⟨trivial, h1⟩, ⟨nmA_ok, h2⟩, by rw [h3, h4]; show 0 + 0 + _ = _; omega, rfl, ht⟩, ?_⟩
 rw [List.length_append, h4]
 have : (Ex.nm [97]).tx.length = 1 := rfl
 omega
end Go.Proofs.ZL
