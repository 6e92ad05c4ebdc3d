/- A source that is cut off where a token begins, and a line's end there: the tokens ahead are the same. -/
import Derived.Test.YtoifleamknbeaaaGreatDoorYNO
open Go Go.Am
namespace Go.Proofs.ZL
set_option maxRecDepth 100000
set_option linter.unusedSimpArgs false
set_option linter.unusedVariables false

theorem runL_cut {p : Int → Bool} (A B : List UInt8) (h : runL p (A ++ B) ≤ A.length) : runL p A = runL p (A ++ B) := by
 unfold runL at h ⊢
 induction A with
 | nil => simp only [List.nil_append, List.length_nil, Nat.le_zero] at h; rw [List.nil_append, h]; rfl
 | cons a A ih =>
  rw [List.cons_append, List.takeWhile_cons] at h ⊢
  rw [List.takeWhile_cons]
  split
  ·rename_i ha
   rw [if_pos ha] at h
   simp only [List.length_cons] at h ⊢
   rw [ih (by omega)]
  ·rfl
theorem take_cut (A B : List UInt8) {n : Nat} (h : n ≤ A.length) : (A ++ B).take n = A.take n := List.take_append_of_le_length h

theorem textL_adv {k : Nat} {l : List Tok} : ∀ (m : Nat) (r : List UInt8) (i : Nat) (out : List Int), r.length ≤ m → (textL k l r i out).err.isOk = true → i < (textL k l r i out).pos
 | m, [], i, out, _, h => by simp [textL, SErr.isOk] at h
 | 0, a :: r, _, _, h, _ => by simp at h
 | m + 1, [c], i, out, _, h => by
  unfold textL at h ⊢
  split at h
  ·rename_i c1
   rw [if_pos c1]
   split at h
   ·simp [SErr.isOk] at h
   ·rename_i c2; rw [if_neg c2]; exact Nat.lt_succ_self _
  ·split at h
   ·simp [SErr.isOk] at h
   ·split at h <;> simp [SErr.isOk] at h
 | m + 1, c :: d :: r, i, out, hm, h => by
  have ih1 := textL_adv (k := k) (l := l) m (d :: r) (i + 1) (out ++ [(c.toNat : Int)]) (by simp at hm ⊢; omega)
  have ih2 := textL_adv (k := k) (l := l) m r (i + 2) (out ++ [if (d.toNat : Int) = 110 then 10 else (d.toNat : Int)]) (by simp at hm ⊢; omega)
  unfold textL at h ⊢
  by_cases c1 : (c.toNat : Int) = 34
  ·rw [if_pos c1] at h ⊢
   split at h
   ·simp [SErr.isOk] at h
   ·rename_i c2; rw [if_neg c2]; exact Nat.lt_succ_self _
  rw [if_neg c1] at h ⊢
  by_cases c2 : (c.toNat : Int) = 92
  ·rw [if_pos c2] at h ⊢
   by_cases c4 : (d.toNat : Int) = 110 ∨ (d.toNat : Int) = 34 ∨ (d.toNat : Int) = 92
   ·rw [if_pos c4] at h ⊢; have := ih2 h; omega
   ·rw [if_neg c4] at h; simp [SErr.isOk] at h
  rw [if_neg c2] at h ⊢
  by_cases c3 : (c.toNat : Int) < 32 ∨ 126 < (c.toNat : Int)
  ·rw [if_pos c3] at h; simp [SErr.isOk] at h
  ·rw [if_neg c3] at h ⊢; have := ih1 h; omega

theorem textL_cut {k : Nat} {l : List Tok} (B : List UInt8) : ∀ (m : Nat) (A : List UInt8) (i : Nat) (out : List Int) (p : Nat) (l' : List Tok), A.length ≤ m → textL k l (A ++ B) i out = ⟨.ok, p, l'⟩ → p ≤ i + A.length → textL k l A i out = ⟨.ok, p, l'⟩
 | m, [], i, out, p, l', _, h, hp => by
  exfalso
  have := (textL_adv (k := k) (l := l) _ B i out (Nat.le_refl _)) (by rw [List.nil_append] at h; rw [h]; rfl)
  rw [List.nil_append] at h
  rw [h] at this
  simp only [List.length_nil] at hp this
  omega
 | 0, a :: r, _, _, _, _, h, _, _ => by simp at h
 | m + 1, [c], i, out, p, l', _, h, hp => by
  cases B with
  | nil => simpa using h
  | cons d r =>
   rw [List.cons_append, List.nil_append] at h
   unfold textL at h ⊢
   by_cases c1 : (c.toNat : Int) = 34
   ·rw [if_pos c1] at h ⊢; exact h
   rw [if_neg c1] at h ⊢
   by_cases c2 : (c.toNat : Int) = 92
   ·rw [if_pos c2] at h ⊢
    exfalso
    split at h
    ·have := (textL_adv (k := k) (l := l) _ r (i + 2) _ (Nat.le_refl _)) (by rw [h]; rfl)
     rw [h] at this
     simp only [List.length_singleton] at hp this
     omega
    ·simp at h
   rw [if_neg c2] at h ⊢
   by_cases c3 : (c.toNat : Int) < 32 ∨ 126 < (c.toNat : Int)
   ·rw [if_pos c3] at h; simp at h
   ·rw [if_neg c3] at h
    exfalso
    have := (textL_adv (k := k) (l := l) _ (d :: r) (i + 1) _ (Nat.le_refl _)) (by rw [h]; rfl)
    rw [h] at this
    simp only [List.length_singleton] at hp this
    omega
 | m + 1, c :: d :: A, i, out, p, l', hm, h, hp => by
  rw [List.cons_append, List.cons_append] at h
  have ih1 := textL_cut (k := k) (l := l) B m (d :: A) (i + 1) (out ++ [(c.toNat : Int)]) p l' (by simp at hm ⊢; omega)
  have ih2 := textL_cut (k := k) (l := l) B m A (i + 2) (out ++ [if (d.toNat : Int) = 110 then 10 else (d.toNat : Int)]) p l' (by simp at hm ⊢; omega)
  rw [List.cons_append] at ih1
  simp only [List.length_cons] at hp ih1
  unfold textL at h ⊢
  by_cases c1 : (c.toNat : Int) = 34
  ·rw [if_pos c1] at h ⊢; exact h
  rw [if_neg c1] at h ⊢
  by_cases c2 : (c.toNat : Int) = 92
  ·rw [if_pos c2] at h ⊢
   by_cases c4 : (d.toNat : Int) = 110 ∨ (d.toNat : Int) = 34 ∨ (d.toNat : Int) = 92
   ·rw [if_pos c4] at h ⊢; exact ih2 h (by omega)
   ·rw [if_neg c4] at h; simp at h
  rw [if_neg c2] at h ⊢
  by_cases c3 : (c.toNat : Int) < 32 ∨ 126 < (c.toNat : Int)
  ·rw [if_pos c3] at h; simp at h
  ·rw [if_neg c3] at h ⊢; exact ih1 h (by omega)

theorem hd_cut {A : List UInt8} (hA : A ≠ []) (B : List UInt8) : hd (A ++ B) = hd A := hd_app hA B

theorem nextL_cut {A : List UInt8} (hA : A ≠ []) (B : List UInt8) {k n : Nat} {l l' : List Tok} (h : nextL (A ++ B) k l = ⟨.ok, k + n, l'⟩) (hn : n ≤ A.length) : nextL A k l = ⟨.ok, k + n, l'⟩ := by
 have hlen : 1 ≤ A.length := List.length_pos_iff.2 hA
 unfold nextL at h ⊢
 rw [hd_cut hA] at h
 split
 ·rename_i c; rw [if_pos c] at h; exact h
 rename_i c; rw [if_neg c] at h
 split
 ·rename_i c; rw [if_pos c] at h; exact h
 rename_i c; rw [if_neg c] at h
 by_cases c2 : (A ++ B).take 2 = [47, 47]
 ·rw [if_pos c2] at h
  have e := h
  simp only [Out.mk.injEq, true_and] at e
  have hrun : runL noLine (A ++ B) = n := by omega
  have hr := runL_cut (p := noLine) A B (by omega)
  have h2 : 2 ≤ A.length := by
   rcases Nat.lt_or_ge A.length 2 with hlt | hge
   ·exfalso
    have : 2 ≤ runL noLine (A ++ B) := by
     cases hAB : A ++ B with
     | nil => rw [hAB] at c2; simp at c2
     | cons a r => cases r with
      | nil => rw [hAB] at c2; simp at c2
      | cons b r =>
       rw [hAB] at c2
       simp at c2
       unfold runL
       rw [c2.1, c2.2]
       rw [List.takeWhile_cons, if_pos (by decide), List.takeWhile_cons, if_pos (by decide)]
       simp
    omega
   ·exact hge
  rw [take_cut A B h2] at c2
  rw [if_pos c2, hr]; exact h
 rw [if_neg c2] at h
 have c2' : ¬ A.take 2 = [47, 47] := fun hc => by
  apply c2
  have : 2 ≤ A.length := by have := congrArg List.length hc; simp at this; omega
  rw [take_cut A B this]; exact hc
 rw [if_neg c2']
 split
 ·rename_i c; rw [if_pos c] at h
  unfold nameL at h ⊢
  split at h
  ·simp at h
  ·rename_i h24
   have e := h
   simp only [Out.mk.injEq, true_and] at e
   have hr := runL_cut (p := alnumN) A B (by omega)
   rw [hr, if_neg h24, ← take_cut A B (by omega)]; exact h
 rename_i c; rw [if_neg c] at h
 split
 ·rename_i c; rw [if_pos c] at h
  unfold numberL at h ⊢
  split at h
  ·simp at h
  rename_i h18
  split at h
  ·simp at h
  rename_i h0
  split at h
  ·simp at h
  rename_i hlt
  have e := h
  simp only [Out.mk.injEq, true_and] at e
  have hr := runL_cut (p := digitN) A B (by omega)
  rw [hd_cut hA] at h0
  rw [hr, if_neg h18, if_neg h0]
  have hl : ¬ (runL digitN (A ++ B) < A.length ∧ letterN (hd (A.drop (runL digitN (A ++ B)))) = true) := fun hc => hlt ⟨by rw [List.length_append]; omega, by
   rw [List.drop_append_of_le_length (by omega), hd_cut (by intro e2; have := congrArg List.length e2; simp at this; omega)]; exact hc.2⟩
  rw [if_neg hl, ← take_cut A B (by omega)]; exact h
 rename_i c; rw [if_neg c] at h
 split
 ·rename_i c; rw [if_pos c] at h
  have ht : (A ++ B).tail = A.tail ++ B := by cases A with
   | nil => exact (hA rfl).elim
   | cons a r => rfl
  rw [ht] at h
  exact textL_cut B _ A.tail (k + 1) [] _ _ (Nat.le_refl _) h (by rw [List.length_tail]; omega)
 rename_i c; rw [if_neg c] at h
 have hm : markL (A ++ B) ≠ [] → (markL (A ++ B)).length ≤ A.length → markL A = markL (A ++ B) := by
  intro hne hle
  unfold markL at hne hle ⊢
  have t1 := take_cut A B hlen
  rw [t1] at hne hle ⊢
  rw [List.length_append] at hne hle ⊢
  by_cases h2 : 2 ≤ A.length
  ·rw [take_cut A B h2]
   have e1 : (2 ≤ A.length + B.length) = True := by simp; omega
   have e2 : (2 ≤ A.length) = True := by simp [h2]
   have e3 : (1 ≤ A.length + B.length) = True := by simp; omega
   have e4 : (1 ≤ A.length) = True := by simp; omega
   simp only [e1, e2, e3, e4]
  ·by_cases c3 : 2 ≤ A.length + B.length ∧ inS marks (bts ((A ++ B).take 2)) = true
   ·rw [if_pos c3] at hle
    rw [List.length_take, List.length_append] at hle
    omega
   ·rw [if_neg c3]
    have : ¬ (2 ≤ A.length ∧ inS marks (bts (A.take 2)) = true) := fun hc => h2 hc.1
    rw [if_neg this]
    have e3 : (1 ≤ A.length + B.length) = True := by simp; omega
    have e4 : (1 ≤ A.length) = True := by simp; omega
    simp only [e3, e4]
 split at h
 ·simp at h
 ·rename_i hne
  have e := h
  simp only [Out.mk.injEq, true_and] at e
  have := hm hne (by omega)
  rw [this, if_neg hne]; exact h

theorem Scans.grow {r : List UInt8} {k : Nat} {l : List Tok} {o : Out} (h : Scans r k l o) : ∃ z, o.list = l ++ z ∧ ∀ t ∈ z, (k : Int) ≤ t.pos := by
 have one : ∀ {k : Nat} {l l' : List Tok}, (l' = l ∨ ∃ t, l' = l ++ [t] ∧ t.pos = (k : Int)) → ∃ z, l' = l ++ z ∧ ∀ t ∈ z, (k : Int) ≤ t.pos := by
  rintro k l l' (rfl | ⟨t, rfl, ht⟩)
  ·exact ⟨[], by simp, fun t h => by cases h⟩
  ·exact ⟨[t], rfl, fun u hu => by rw [List.mem_singleton.1 hu, ht]; exact Int.le_refl _⟩
 induction h with
 | done k l =>
  obtain ⟨z, h1, h2⟩ := one (lineL_list k l)
  refine ⟨z ++ [⟨6, (⟨#[]⟩ : ByteArray), 0, k⟩], by simp only; rw [h1, List.append_assoc], fun t ht => ?_⟩
  rcases List.mem_append.1 ht with ht | ht
  ·exact h2 t ht
  ·rw [List.mem_singleton.1 ht]; exact Int.le_refl _
 | @fail r k l hne he => exact one (nextL_list r k l)
 | @step r k l o n l' h0 hn he hs ih =>
  have hl := nextL_list r k l
  rw [he] at hl
  obtain ⟨z1, h1, h2⟩ := one hl
  obtain ⟨z2, h3, h4⟩ := ih
  simp only at h1
  refine ⟨z1 ++ z2, by rw [h3, h1, List.append_assoc], fun t ht => ?_⟩
  rcases List.mem_append.1 ht with ht | ht
  ·exact h2 t ht
  ·have := h4 t ht; omega

theorem Scans.sorted {r : List UInt8} {k : Nat} {l : List Tok} {o : Out} (h : Scans r k l o) : (∀ t ∈ l, t.pos ≤ (k : Int)) → l.Pairwise (fun t u => t.pos ≤ u.pos) → o.list.Pairwise (fun t u => t.pos ≤ u.pos) := by
 have one : ∀ {k : Nat} {l l' : List Tok}, (l' = l ∨ ∃ t, l' = l ++ [t] ∧ t.pos = (k : Int)) → (∀ t ∈ l, t.pos ≤ (k : Int)) → l.Pairwise (fun t u => t.pos ≤ u.pos) → l'.Pairwise (fun t u => t.pos ≤ u.pos) ∧ ∀ t ∈ l', t.pos ≤ (k : Int) := by
  rintro k l l' (rfl | ⟨t, rfl, ht⟩) hl hp
  ·exact ⟨hp, hl⟩
  ·refine ⟨List.pairwise_append.2 ⟨hp, List.pairwise_singleton _ _, fun a ha b hb => ?_⟩, fun u hu => ?_⟩
   ·rw [List.mem_singleton.1 hb, ht]; exact hl a ha
   ·rcases List.mem_append.1 hu with hu | hu
    ·exact hl u hu
    ·rw [List.mem_singleton.1 hu, ht]; exact Int.le_refl _
 induction h with
 | done k l =>
  intro hl hp
  obtain ⟨h1, h2⟩ := one (lineL_list k l) hl hp
  exact (one (k := k) (.inr ⟨_, rfl, rfl⟩) h2 h1).1
 | @fail r k l hne he => exact fun hl hp => (one (nextL_list r k l) hl hp).1
 | @step r k l o n l' h0 hn he hs ih =>
  intro hl hp
  have h2 := nextL_list r k l
  rw [he] at h2
  obtain ⟨h3, h4⟩ := one h2 hl hp
  exact ih (fun t ht => by have := h4 t ht; omega) h3

theorem Scans.cut {r : List UInt8} {k : Nat} {l : List Tok} {o : Out} (h : Scans r k l o) : ∀ A B X : List UInt8, r = A ++ B → o.err.isOk = true → (B = [] ∨ ∃ (j : Nat) (t : Tok), o.list[j]? = some t ∧ l.length ≤ j ∧ t.pos = ((k + A.length : Nat) : Int)) →
  ∃ l' z, o.list = l' ++ z ∧ l.length ≤ l'.length ∧ (∀ t ∈ z, ((k + A.length : Nat) : Int) ≤ t.pos) ∧ ∀ o2, Scans (10 :: X) (k + A.length) l' o2 → Scans (A ++ 10 :: X) k l o2 := by
 induction h with
 | done k l =>
  intro A B X hr ho _
  obtain ⟨rfl, rfl⟩ := List.append_eq_nil_iff.1 hr.symm
  obtain ⟨z, h1, h2⟩ := (Scans.done k l).grow
  exact ⟨l, z, h1, Nat.le_refl _, h2, fun o2 h => h⟩
 | @fail r k l hne he => intro A B X hr ho _; rw [he] at ho; cases ho
 | @step r k l o n l1 h0 hn he hs ih =>
  intro A B X hr ho hB
  have hl := nextL_list r k l
  rw [he] at hl
  have hl1 : l.length ≤ l1.length ∧ ∀ j t, l1[j]? = some t → l.length ≤ j → t.pos = (k : Int) := by
   rcases hl with hl | ⟨t, hl, ht⟩
   ·simp only at hl
    subst hl
    exact ⟨Nat.le_refl _, fun j t h hj => by rw [List.getElem?_eq_none hj] at h; cases h⟩
   ·simp only at hl
    subst hl
    refine ⟨by simp, fun j u hu hj => ?_⟩
    rw [List.getElem?_append_right hj] at hu
    cases hjj : j - l.length with
    | zero => rw [hjj] at hu; simp at hu; rw [← hu]; exact ht
    | succ m => rw [hjj] at hu; simp at hu
  by_cases hA : A = []
  ·subst hA
   obtain ⟨z, h1, h2⟩ := (Scans.step n l1 h0 hn he hs).grow
   exact ⟨l, z, h1, Nat.le_refl _, h2, fun o2 h => h⟩
  have hAl : 1 ≤ A.length := List.length_pos_iff.2 hA
  have hB' : n ≤ A.length ∧ (B = [] ∨ ∃ (j : Nat) (t : Tok), o.list[j]? = some t ∧ l1.length ≤ j ∧ t.pos = ((k + A.length : Nat) : Int)) := by
   rcases hB with hB | ⟨j, t, hj1, hj2, hj3⟩
   ·subst hB
    rw [List.append_nil] at hr
    exact ⟨by rw [← hr]; exact hn, .inl rfl⟩
   ·obtain ⟨z, h1, h2⟩ := hs.grow
    rcases Nat.lt_or_ge j l1.length with hlt | hge
    ·rw [h1, List.getElem?_append_left hlt] at hj1
     have := hl1.2 j t hj1 hj2
     omega
    ·refine ⟨?_, .inr ⟨j, t, hj1, hge, hj3⟩⟩
     rw [h1, List.getElem?_append_right hge] at hj1
     have := h2 t (List.mem_of_getElem? hj1)
     omega
  obtain ⟨hnA, hB'⟩ := hB'
  have hk : k + n + (A.drop n).length = k + A.length := by rw [List.length_drop]; omega
  obtain ⟨l', z, h1, h2, h3, h4⟩ := ih (A.drop n) B X (by rw [hr, List.drop_append_of_le_length hnA]) ho (by rw [hk]; exact hB')
  rw [hk] at h3 h4
  subst hr
  refine ⟨l', z, h1, by omega, h3, fun o2 ho2 => ?_⟩
  refine .step n l1 h0 (by simp; omega) ?_ (by rw [List.drop_append_of_le_length hnA]; exact h4 o2 ho2)
  rw [nextL_stop hA, nextL_cut hA B he hnA]

end Go.Proofs.ZL
