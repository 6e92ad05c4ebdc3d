/- A row of units, written: its tokens. -/
import Derived.Test.YtoifleamknbeaaaGreatDoorYXC
import Derived.Test.YtoifleamknbeaaaGreatDoorYWB
open Go Go.Am
namespace Go.Proofs.ZL
set_option maxRecDepth 100000
set_option linter.unusedSimpArgs false
set_option linter.unusedVariables false

def opB (k : Nat) : List UInt8 := (opX k).data.toList
def Ex.tx : Ex → List UInt8
 | .nm x => x
 | .pr l k r => 40 :: (l.tx ++ (opB k ++ (r.tx ++ [41])))
def rtx (r : List (Nat × Ex)) : List UInt8 := r.flatMap fun p => opB p.1 ++ p.2.tx
def NmOk (x : List UInt8) : Prop := x.length ≤ 24 ∧ letterN (hd x) = true ∧ (∀ b ∈ x, alnumN b.toNat = true) ∧ inS words (bts x) = false
def Ex.nms : Ex → Prop
 | .nm x => NmOk x
 | .pr l _ r => l.nms ∧ r.nms
def rnms (r : List (Nat × Ex)) : Prop := ∀ p ∈ r, p.2.nms

theorem blank_step {Z : List UInt8} {k : Nat} {A : List Tok} {o : Out} (h : Scans Z (k + 1) A o) : Scans (32 :: Z) k A o :=
 .step 1 A (by omega) (by simp) (nextL_blank (.inl rfl) _ _) h
theorem name_step {u Z : List UInt8} {y : UInt8} {k : Nat} {A : List Tok} {o : Out} (hu : u.length ≤ 24 ∧ letterN (hd u) = true ∧ ∀ b ∈ u, alnumN b.toNat = true) (hy : alnumN y.toNat = false)
  (h : Scans (y :: Z) (k + u.length) (A ++ [⟨if inS words (bts u) then 4 else 1, bts u, 0, k⟩]) o) : Scans (u ++ y :: Z) k A o := by
 have hne : u ≠ [] := by intro e; subst e; exact absurd hu.2.1 (by decide)
 have hu1 : 1 ≤ u.length := List.length_pos_iff.2 hne
 have hrun : runL alnumN (u ++ y :: Z) = u.length := runL_all hu.2.2 (fun b hb => by cases hb; exact hy)
 refine .step u.length _ hu1 (by simp) ?_ (by rw [List.drop_left' rfl]; exact h)
 rw [nextL_name (by rw [hd_app hne]; exact hu.2.1)]
 unfold nameL
 rw [hrun, if_neg (by omega), List.take_left' rfl]
theorem mark_step {u Z : List UInt8} {y : UInt8} {k : Nat} {A : List Tok} {o : Out} (hm : inS marks (bts u) = true) (h1 : markL (u ++ y :: Z) = u) (h2 : (u ++ y :: Z).take 2 ≠ [47, 47])
  (h : Scans (y :: Z) (k + u.length) (A ++ [⟨5, bts u, 0, k⟩]) o) : Scans (u ++ y :: Z) k A o := by
 have hs := List.all_eq_true.1 marks_shape _ (inS_iff.1 hm)
 simp only [Bool.and_eq_true, decide_eq_true_eq, bts_list, Bool.not_eq_true'] at hs
 obtain ⟨⟨⟨⟨hl, h32, h9, h10, h34, _⟩, hlet⟩, hdig⟩, _⟩ := hs
 have hne : u ≠ [] := by intro e; subst e; simp at hl
 have hu1 : 1 ≤ u.length := List.length_pos_iff.2 hne
 refine .step u.length _ hu1 (by simp) ?_ (by rw [List.drop_left' rfl]; exact h)
 rw [nextL_mark (by rw [hd_app hne]; exact ⟨h32, h9, h10, h34⟩) h2 (by rw [hd_app hne]; exact hlet) (by rw [hd_app hne]; exact hdig) h1 hne]

theorem marks_pairs : marks.all (fun m => decide (m.data.toList.length = 1) || (decide (m.data.toList.head? ≠ some 40 ∧ m.data.toList.head? ≠ some 41 ∧ m.data.toList.head? ≠ some 123) &&
 (m.data.toList.drop 1).all (fun b => decide (b = 61 ∨ b = 38 ∨ b = 124 ∨ b = 45 ∨ b = 43)))) = true := by decide +kernel
theorem pair_no {a b : UInt8} (h : (a = 40 ∨ a = 41 ∨ a = 123) ∨ ¬ (b = 61 ∨ b = 38 ∨ b = 124 ∨ b = 45 ∨ b = 43)) : inS marks (bts [a, b]) = false := by
 rw [← Bool.not_eq_true]
 intro hm
 have hs := List.all_eq_true.1 marks_pairs _ (inS_iff.1 hm)
 simp only [bts_list, List.length_cons, List.length_nil, Bool.or_eq_true, Bool.and_eq_true, decide_eq_true_eq, List.head?_cons, List.drop_succ_cons, List.drop_zero, List.all_cons, List.all_nil] at hs
 rcases hs with hs | ⟨⟨h1, h2, h3⟩, h4, _⟩
 ·omega
 ·rcases h with (rfl | rfl | rfl) | h
  ·exact h1 rfl
  ·exact h2 rfl
  ·exact h3 rfl
  ·exact h h4

theorem mark_one {a y : UInt8} (Z : List UInt8) (hm : inS marks (bts [a]) = true) (h : inS marks (bts [a, y]) = false) (h47 : a ≠ 47 ∨ y ≠ 47) : markL ([a] ++ y :: Z) = [a] ∧ ([a] ++ y :: Z).take 2 ≠ [47, 47] := by
 constructor
 ·unfold markL
  have h1 : ([a] ++ y :: Z).take 2 = [a, y] := by simp
  have h2 : ([a] ++ y :: Z).take 1 = [a] := by simp
  rw [h1, h2, h, hm]
  simp
 ·intro e
  simp at e
  rcases h47 with h47 | h47
  ·exact h47 e.1
  ·exact h47 e.2
theorem mark_two {a b : UInt8} (Y : List UInt8) (hm : inS marks (bts [a, b]) = true) : markL ([a, b] ++ Y) = [a, b] ∧ ([a, b] ++ Y).take 2 ≠ [47, 47] := by
 constructor
 ·unfold markL
  have h1 : ([a, b] ++ Y).take 2 = [a, b] := by simp
  rw [h1, hm]
  simp
 ·intro e
  simp at e
  rw [e.1, e.2] at hm
  exact absurd hm (by decide +kernel)

theorem op_shape : (List.range 13).all (fun k => inS marks (bts (opB k)) && decide (bts (opB k) = opX k) && (decide ((opB k).length = 1) || decide ((opB k).length = 2)) && decide (alnumN (hd (opB k)) = false ∧ opB k ≠ [])) = true := by decide +kernel
theorem op_at2 {k : Nat} (h : k < 13) : inS marks (bts (opB k)) = true ∧ bts (opB k) = opX k ∧ ((opB k).length = 1 ∨ (opB k).length = 2) ∧ alnumN (hd (opB k)) = false ∧ opB k ≠ [] := by
 have := List.all_eq_true.1 op_shape k (List.mem_range.2 h)
 simp only [Bool.and_eq_true, Bool.or_eq_true, decide_eq_true_eq] at this
 exact ⟨this.1.1.1, this.1.1.2, this.1.2, this.2⟩

theorem op_step {kk : Nat} (hk : kk < 13) {y : UInt8} {Z : List UInt8} (hy : ¬ (y = 61 ∨ y = 38 ∨ y = 124 ∨ y = 45 ∨ y = 43) ∧ y ≠ 47) {k : Nat} {A : List Tok} {o : Out}
  (h : Scans (y :: Z) (k + (opB kk).length) (A ++ [⟨5, opX kk, 0, k⟩]) o) : Scans (opB kk ++ y :: Z) k A o := by
 obtain ⟨h1, h2, h3, _⟩ := op_at2 hk
 rw [← h2] at h
 generalize opB kk = u at *
 match u, h3 with
 | [a], _ =>
  obtain ⟨m1, m2⟩ := mark_one Z h1 (pair_no (.inr hy.1)) (.inr hy.2)
  exact mark_step h1 m1 m2 h
 | [a, b], _ =>
  obtain ⟨m1, m2⟩ := mark_two (y :: Z) h1
  exact mark_step h1 m1 m2 h
 | [], h3 => simp at h3
 | _ :: _ :: _ :: _, h3 => simp at h3

theorem tx_head : ∀ e : Ex, e.nms → ∃ y Z, e.tx = y :: Z ∧ ¬ (y = 61 ∨ y = 38 ∨ y = 124 ∨ y = 45 ∨ y = 43) ∧ y ≠ 47
 | .nm x, h => by
  obtain ⟨_, h2, _⟩ := h
  cases x with
  | nil => exact absurd h2 (by decide)
  | cons y Z =>
   refine ⟨y, Z, rfl, ?_, ?_⟩
   ·rintro (rfl | rfl | rfl | rfl | rfl) <;> exact absurd h2 (by rw [hd_cons]; decide)
   ·rintro rfl; exact absurd h2 (by rw [hd_cons]; decide)
 | .pr l k r, h => ⟨40, _, rfl, by decide, by decide⟩
theorem op_head {k : Nat} (hk : k < 13) : ∃ y Z, opB k = y :: Z ∧ alnumN y.toNat = false := by
 obtain ⟨_, _, _, h4, h5⟩ := op_at2 hk
 cases h : opB k with
 | nil => exact (h5 h).elim
 | cons y Z => rw [h, hd_cons] at h4; exact ⟨y, Z, rfl, h4⟩

theorem ex_scan : ∀ (e : Ex), e.ok → e.nms → ∀ (y : UInt8) (Z : List UInt8) (k : Nat) (A : List Tok), alnumN y.toNat = false →
  ∃ B, bares B = e.bt ∧ ∀ o, Scans (y :: Z) (k + e.tx.length) (A ++ B) o → Scans (e.tx ++ y :: Z) k A o
 | .nm x, _, hx, y, Z, k, A, hy => by
  obtain ⟨h1, h2, h3, h4⟩ := hx
  refine ⟨[⟨1, bts x, 0, k⟩], rfl, fun o ho => name_step ⟨h1, h2, h3⟩ hy ?_⟩
  show Scans _ _ (A ++ [⟨if inS words (bts x) then 4 else 1, bts x, 0, k⟩]) o
  rw [h4]
  exact ho
 | .pr l kk r, ⟨ol, hk, orr⟩, ⟨nl, nr⟩, y, Z, k, A, hy => by
  obtain ⟨y1, Z1, t1, t2, t3⟩ := tx_head r nr
  obtain ⟨y2, Z2, o1, o2⟩ := op_head hk
  obtain ⟨y3, Z3, t4, _, t5⟩ := tx_head l nl
  obtain ⟨B1, b1, s1⟩ := ex_scan l ol nl y2 (Z2 ++ (r.tx ++ 41 :: y :: Z)) (k + 1) (A ++ [⟨5, bts [40], 0, k⟩]) o2
  obtain ⟨B2, b2, s2⟩ := ex_scan r orr nr 41 (y :: Z) (k + 1 + l.tx.length + (opB kk).length) (A ++ [⟨5, bts [40], 0, k⟩] ++ B1 ++ [⟨5, opX kk, 0, ((k + 1 + l.tx.length : Nat) : Int)⟩]) (by decide)
  refine ⟨[⟨5, bts [40], 0, k⟩] ++ B1 ++ [⟨5, opX kk, 0, ((k + 1 + l.tx.length : Nat) : Int)⟩] ++ B2 ++ [⟨5, bts [41], 0, ((k + 1 + l.tx.length + (opB kk).length + r.tx.length : Nat) : Int)⟩], ?_, fun o ho => ?_⟩
  ·simp only [bares_app, b1, b2, Ex.bt]
   simp [bares, Tok.bare, mt]
   exact ⟨rfl, rfl⟩
  ·have e : (Ex.pr l kk r).tx ++ y :: Z = [40] ++ y3 :: (Z3 ++ (opB kk ++ (r.tx ++ 41 :: y :: Z))) := by simp [Ex.tx, t4]
   rw [e]
   obtain ⟨m1, m2⟩ := mark_one (Z3 ++ (opB kk ++ (r.tx ++ 41 :: y :: Z))) (a := 40) (y := y3) (by decide +kernel) (pair_no (.inl (.inl rfl))) (.inl (by decide))
   refine mark_step (by decide +kernel) m1 m2 ?_
   have e2 : y3 :: (Z3 ++ (opB kk ++ (r.tx ++ 41 :: y :: Z))) = l.tx ++ y2 :: (Z2 ++ (r.tx ++ 41 :: y :: Z)) := by rw [t4, o1]; simp
   rw [e2]
   refine s1 o ?_
   have e3 : y2 :: (Z2 ++ (r.tx ++ 41 :: y :: Z)) = opB kk ++ y1 :: (Z1 ++ 41 :: y :: Z) := by rw [o1, t1]; simp
   rw [e3]
   refine op_step hk ⟨t2, t3⟩ ?_
   have e4 : y1 :: (Z1 ++ 41 :: y :: Z) = r.tx ++ 41 :: y :: Z := by rw [t1]; rfl
   rw [e4]
   refine s2 o ?_
   obtain ⟨m3, m4⟩ := mark_one Z (a := 41) (y := y) (by decide +kernel) (pair_no (.inl (.inr (.inl rfl)))) (.inl (by decide))
   refine mark_step (u := [41]) (by decide +kernel) m3 m4 ?_
   have el : k + (Ex.pr l kk r).tx.length = k + 1 + l.tx.length + (opB kk).length + r.tx.length + [(41 : UInt8)].length := by simp [Ex.tx]; omega
   rw [el] at ho
   simp only [List.append_assoc] at ho ⊢
   exact ho

theorem row_scan : ∀ (r : List (Nat × Ex)), rok r → rnms r → ∀ (y : UInt8) (Z : List UInt8) (k : Nat) (A : List Tok), alnumN y.toNat = false →
  ∃ B, bares B = rt r ∧ ∀ o, Scans (y :: Z) (k + (rtx r).length) (A ++ B) o → Scans (rtx r ++ y :: Z) k A o
 | [], _, _, y, Z, k, A, hy => ⟨[], rfl, fun o h => by simpa [rtx] using h⟩
 | (kk, e) :: r, hr, hn, y, Z, k, A, hy => by
  obtain ⟨hk, he⟩ := hr _ List.mem_cons_self
  have hne := hn _ List.mem_cons_self
  obtain ⟨y1, Z1, t1, t2, t3⟩ := tx_head e hne
  have hw : ∃ y2 Z2, rtx r ++ y :: Z = y2 :: Z2 ∧ alnumN y2.toNat = false := by
   cases r with
   | nil => exact ⟨y, Z, rfl, hy⟩
   | cons p r =>
    obtain ⟨k2, e2⟩ := p
    obtain ⟨y2, Z2, o1, o2⟩ := op_head (hr _ (List.mem_cons_of_mem _ List.mem_cons_self)).1
    refine ⟨y2, Z2 ++ (e2.tx ++ (rtx r ++ y :: Z)), ?_, o2⟩
    unfold rtx
    rw [List.flatMap_cons]
    simp only at o1 ⊢
    rw [o1]
    simp
  obtain ⟨y2, Z2, w1, w2⟩ := hw
  obtain ⟨B1, b1, s1⟩ := ex_scan e he hne y2 Z2 (k + (opB kk).length) (A ++ [⟨5, opX kk, 0, k⟩]) w2
  obtain ⟨B2, b2, s2⟩ := row_scan r (fun p hp => hr p (List.mem_cons_of_mem _ hp)) (fun p hp => hn p (List.mem_cons_of_mem _ hp)) y Z (k + (opB kk).length + e.tx.length) (A ++ [⟨5, opX kk, 0, k⟩] ++ B1) hy
  refine ⟨[⟨5, opX kk, 0, k⟩] ++ B1 ++ B2, ?_, fun o ho => ?_⟩
  ·rw [rt_cons, bares_app, bares_app, b1, b2]
   simp [bares, Tok.bare, mt]
  ·have e1 : rtx ((kk, e) :: r) ++ y :: Z = opB kk ++ y1 :: (Z1 ++ y2 :: Z2) := by
    unfold rtx at w1 ⊢
    rw [List.flatMap_cons, ← w1]
    simp only
    rw [t1]
    simp
   rw [e1]
   refine op_step hk ⟨t2, t3⟩ ?_
   have e4 : y1 :: (Z1 ++ y2 :: Z2) = e.tx ++ y2 :: Z2 := by rw [t1]; rfl
   rw [e4]
   refine s1 o ?_
   rw [← w1]
   refine s2 o ?_
   have el : k + (rtx ((kk, e) :: r)).length = k + (opB kk).length + e.tx.length + (rtx r).length := by unfold rtx; rw [List.flatMap_cons, List.length_append, List.length_append]; simp only; omega
   rw [el] at ho
   simp only [List.append_assoc] at ho ⊢
   exact ho
end Go.Proofs.ZL
