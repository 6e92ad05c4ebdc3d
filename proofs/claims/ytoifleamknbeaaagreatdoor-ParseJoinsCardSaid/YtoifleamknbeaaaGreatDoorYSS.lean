/- The tokens of a scan; what is parsed leaves no bracket open. -/
import Derived.Test.YtoifleamknbeaaaGreatDoorYSR
import Derived.Test.YtoifleamknbeaaaGreatDoorYNc
open Go Go.Am
namespace Go.Proofs.ZL
set_option linter.unusedSimpArgs false
set_option linter.unusedVariables false

/-- A token that is not the end; a word is no bracket. -/
def Okt (t : Tok) : Prop := t.kind ≠ 6 ∧ (t.kind = 4 → wtX t.text = 0)
theorem okt_of {k n p : Int} {x : ByteArray} (h6 : k ≠ 6) (h4 : k ≠ 4) : Okt ⟨k, x, n, p⟩ := ⟨h6, fun h => absurd h h4⟩
theorem words_wt : words.all (fun x => decide (wtX x = 0)) = true := by decide +kernel

theorem textL_okt {k : Nat} {l : List Tok} : ∀ (m : Nat) (r : List UInt8) (i : Nat) (out : List Int), r.length ≤ m → (textL k l r i out).list = l ∨ ∃ t, (textL k l r i out).list = l ++ [t] ∧ Okt t
  | m, [], i, out, _ => by unfold textL; exact .inl rfl
  | 0, a :: r, _, _, h => by simp at h
  | m + 1, [c], i, out, _ => by
    unfold textL
    split
    · split
      · exact .inl rfl
      · exact .inr ⟨_, rfl, okt_of (by omega) (by omega)⟩
    split
    · exact .inl rfl
    split
    · exact .inl rfl
    · exact .inl rfl
  | m + 1, c :: d :: r, i, out, h => by
    unfold textL
    split
    · split
      · exact .inl rfl
      · exact .inr ⟨_, rfl, okt_of (by omega) (by omega)⟩
    split
    · split
      · exact textL_okt m r _ _ (by simp at h ⊢; omega)
      · exact .inl rfl
    split
    · exact .inl rfl
    · exact textL_okt m (d :: r) _ _ (by simp at h ⊢; omega)
theorem lineL_okt (k : Nat) (l : List Tok) : lineL k l = l ∨ ∃ t, lineL k l = l ++ [t] ∧ Okt t := by
  unfold lineL
  split
  · exact .inr ⟨_, rfl, okt_of (by omega) (by omega)⟩
  · exact .inl rfl
theorem nextL_okt (r : List UInt8) (k : Nat) (l : List Tok) : (nextL r k l).list = l ∨ ∃ t, (nextL r k l).list = l ++ [t] ∧ Okt t := by
  unfold nextL
  split
  · exact .inl rfl
  split
  · exact lineL_okt k l
  split
  · exact .inl rfl
  split
  · unfold nameL
    split
    · exact .inl rfl
    · refine .inr ⟨_, rfl, ?_⟩
      split
      · rename_i h
        exact ⟨by simp, fun _ => of_decide_eq_true (List.all_eq_true.1 words_wt _ (inS_iff.1 h))⟩
      · exact okt_of (by omega) (by omega)
  split
  · unfold numberL
    split
    · exact .inl rfl
    split
    · exact .inl rfl
    split
    · exact .inl rfl
    · exact .inr ⟨_, rfl, okt_of (by omega) (by omega)⟩
  split
  · exact textL_okt _ _ _ _ (Nat.le_refl _)
  split
  · exact .inl rfl
  · exact .inr ⟨_, rfl, okt_of (by omega) (by omega)⟩

theorem Scans.okt {r : List UInt8} {k : Nat} {l : List Tok} {o : Out} (h : Scans r k l o) : (∀ t ∈ l, Okt t) → o.err.isOk = true → ∃ A t, o.list = A ++ [t] ∧ t.kind = 6 ∧ ∀ u ∈ A, Okt u := by
  have hx : ∀ {l l' : List Tok}, (l' = l ∨ ∃ t, l' = l ++ [t] ∧ Okt t) → (∀ t ∈ l, Okt t) → ∀ t ∈ l', Okt t := by
    rintro l l' (rfl | ⟨t, rfl, ht⟩) hl u hu
    · exact hl u hu
    · rcases List.mem_append.1 hu with hu | hu
      · exact hl u hu
      · rw [List.mem_singleton.1 hu]; exact ht
  induction h with
  | done k l => exact fun hl _ => ⟨_, _, rfl, rfl, hx (lineL_okt k l) hl⟩
  | @fail r k l hne he => intro _ h; rw [he] at h; cases h
  | @step r k l o n l' h0 hn he hs ih =>
    intro hl ho
    have hl' := nextL_okt r k l
    rw [he] at hl'
    exact ih (hx hl' hl) ho

/-- The tokens of a source that is scanned well. -/
theorem scan_toks {src : ByteArray} (h : (scanS src).stage = 0) : ∃ A t, (scanS src).toks = A ++ [t] ∧ t.kind = 6 ∧ (∀ u ∈ A, Okt u) ∧ deepGo (A ++ [t]) 0 = none := by
  rcases Nat.lt_or_ge 8192 src.size with hz | hz
  · unfold scanS at h; rw [if_pos hz] at h; cases h
  obtain ⟨o, ho, e⟩ := scanS_ex hz
  cases hk : o.err.isOk with
  | false => rw [e, hk] at h; cases h
  | true =>
    obtain ⟨A, t, h1, h2, h3⟩ := ho.okt (fun _ h => by cases h) hk
    rw [hk] at e
    simp only [if_true] at e
    cases hd : deepGo o.list 0 with
    | some p => rw [hd] at e; rw [e] at h; cases h
    | none => rw [hd] at e; rw [e]; exact ⟨A, t, h1, h2, h3, h1 ▸ hd⟩

/-- The brackets that a stretch of tokens opens and doesn't close. -/
def wS : List Tok → Int
  | [] => 0
  | t :: l => wtT t + wS l
theorem wS_app : ∀ l m : List Tok, wS (l ++ m) = wS l + wS m
  | [], m => by simp [wS]
  | t :: l, m => by simp only [List.cons_append, wS, wS_app l m]; omega
theorem dep_wS (L : List Tok) : ∀ k, k ≤ L.length → depN L k = wS (L.take k)
  | 0, _ => by simp [depN, wS]
  | k + 1, h => by
    rw [List.take_succ_eq_append_getElem (by omega), wS_app, ← dep_wS L k (by omega)]
    show depN L k + wtT (tokAt L k) = _
    unfold tokAt
    rw [List.getD_eq_getElem?_getD, List.getElem?_eq_getElem (by omega)]
    simp [wS]

theorem wt_cases (t : Tok) (h : Okt t) : (t.kind ≠ 5 ∧ wtT t = 0) ∨ (t.kind = 5 ∧ wtT t = wtX t.text) := by
  unfold wtT
  by_cases h5 : t.kind = 5
  · exact .inr ⟨h5, by rw [if_pos (.inr h5)]⟩
  · refine .inl ⟨h5, ?_⟩
    split
    · rename_i h4; exact h.2 (by omega)
    · rfl

theorem deepGo_cons (t : Tok) (r : List Tok) (n : Int) : deepGo (t :: r) n = if t.kind ≠ 5 then deepGo r n else if inS opensB t.text = true then (if 40 < n + 1 then some t.pos else deepGo r (n + 1))
    else if inS closesB t.text = true then deepGo r (if n - 1 > 0 then n - 1 else 0) else deepGo r n := rfl
theorem deep_app (B C : List Tok) : ∀ (A : List Tok) (n : Int), (∀ u ∈ A, Okt u) → (∀ i, i ≤ A.length → 0 ≤ n + wS (A.take i)) → deepGo (A ++ B) n = none → deepGo (A ++ C) n = deepGo C (n + wS A)
  | [], n, _, _, _ => by simp [wS]
  | t :: A, n, hO, hp, h => by
    have hp' : ∀ i, i ≤ A.length → 0 ≤ n + wtT t + wS (A.take i) := fun i hi => by
      have := hp (i + 1) (by simp; omega)
      simp only [List.take_succ_cons, wS] at this
      omega
    have ih := deep_app B C A (n + wtT t) (fun u hu => hO u (List.mem_cons_of_mem _ hu)) hp'
    have h0 := hp' 0 (Nat.zero_le _)
    simp only [List.take_zero, wS] at h0
    rw [List.cons_append] at h ⊢
    have e : n + wS (t :: A) = n + wtT t + wS A := by simp only [wS]; omega
    rw [e]
    rw [deepGo_cons] at h ⊢
    rcases wt_cases t (hO t List.mem_cons_self) with ⟨h5, hw⟩ | ⟨h5, hw⟩
    · rw [if_pos h5] at h ⊢
      rw [hw, Int.add_zero] at ih
      rw [hw, Int.add_zero]
      exact ih h
    · rw [if_neg (by omega)] at h ⊢
      rw [hw] at ih h0 ⊢
      unfold wtX at ih h0 ⊢
      by_cases c1 : inS opensB t.text = true
      · rw [if_pos c1] at h ih ⊢
        rw [if_pos c1]
        split at h
        · cases h
        · rename_i h40
          rw [if_neg h40]
          exact ih h
      · rw [if_neg c1] at h ih h0 ⊢
        rw [if_neg c1]
        by_cases c2 : inS closesB t.text = true
        · rw [if_pos c2] at h ih h0 ⊢
          rw [if_pos c2]
          have e2 : (if n - 1 > 0 then n - 1 else 0) = n + -1 := by split <;> omega
          rw [e2] at h ⊢
          exact ih h
        · rw [if_neg c2] at h ih ⊢
          rw [if_neg c2, Int.add_zero]
          rw [Int.add_zero] at ih
          exact ih h

theorem deep_sh (K : Nat) : ∀ (B : List Tok) (n : Int), deepGo B n = none → deepGo (B.map (Tok.sh K)) n = none
  | [], n, _ => rfl
  | t :: B, n, h => by
    rw [List.map_cons]
    rw [deepGo_cons] at h ⊢
    rw [show (Tok.sh K t).kind = t.kind from rfl, show (Tok.sh K t).text = t.text from rfl]
    split
    · rename_i c; rw [if_pos c] at h; exact deep_sh K B n h
    · rename_i c; rw [if_neg c] at h
      split
      · rename_i c1; rw [if_pos c1] at h
        split
        · rename_i c2; rw [if_pos c2] at h; cases h
        · rename_i c2; rw [if_neg c2] at h; exact deep_sh K B _ h
      · rename_i c1; rw [if_neg c1] at h
        split
        · rename_i c2; rw [if_pos c2] at h; exact deep_sh K B _ h
        · rename_i c2; rw [if_neg c2] at h; exact deep_sh K B _ h

section
variable {A : List Tok} {t : Tok}
theorem tok_in {C : List Tok} {k : Nat} (h : k < A.length) : tokAt (A ++ C) k = A[k] := by
  unfold tokAt
  rw [List.getD_eq_getElem?_getD, List.getElem?_append_left h, List.getElem?_eq_getElem h]
  rfl
theorem tok_lt (hO : ∀ u ∈ A, Okt u) (ht : t.kind = 6) {k : Nat} : (tokAt (A ++ [t]) k).kind ≠ 6 ↔ k < A.length := by
  constructor
  · intro h
    rcases Nat.lt_or_ge k A.length with h' | h'
    · exact h'
    · exfalso
      apply h
      unfold tokAt
      rw [List.getD_eq_getElem?_getD, List.getElem?_append_right h']
      cases k - A.length with
      | zero => exact ht
      | succ j => rfl
  · intro h
    rw [tok_in h]
    exact (hO _ (List.getElem_mem h)).1

/-- A file that is parsed ends at its last token. -/
theorem go_end (hO : ∀ u ∈ A, Okt u) (ht : t.kind = 6) {m : Nat} {r : Rec} {hd : Bool} : ∀ n x s y s1, s.k ≤ A.length → fileGo m r (A ++ [t]) hd n x s = .ok y s1 → s1.k = A.length := by
  intro n
  induction n with
  | zero => intro x s y s1 _ h; cases h
  | succ n ih =>
    intro x s y s1 hs h
    unfold fileGo at h
    split at h
    · rename_i h6
      cases h
      have := mt (tok_lt hO ht).2 (fun h => h h6)
      omega
    · cases hd1 : declF m r (A ++ [t]) hd s with
      | ok d s2 =>
        rw [hd1] at h
        rw [R.then_ok] at h
        cases hw : wantR (A ++ [t]) s2 (⟨#[59]⟩ : ByteArray) with
        | ok u s3 =>
          rw [hw] at h
          refine ih _ s3 y s1 ?_ h
          unfold wantR at hw
          split at hw
          · rename_i hi
            cases hw
            exact (tok_lt hO ht).1 (isTok_kind hi)
          · cases hw
        | bad i => rw [hw] at h; cases h
        | out => rw [hw] at h; cases h
      | bad i => rw [hd1] at h; cases h
      | out => rw [hd1] at h; cases h

/-- It leaves no bracket open. -/
theorem go_flat (hO : ∀ u ∈ A, Okt u) (ht : t.kind = 6) {m n : Nat} {hd : Bool} {y : List Nd} {s1 : St} (h : fileGo m (recN m) (A ++ [t]) hd n [] ⟨0, false⟩ = .ok y s1) : wS A = 0 ∧ ∀ i, i ≤ A.length → 0 ≤ 0 + wS (A.take i) := by
  have hk := go_end hO ht _ _ _ _ _ (Nat.zero_le _) h
  obtain ⟨h1, h2, h3⟩ := fileGo_c (rec_c (A ++ [t]) m) hd (k0 := 0) (b := 0) (q := 0) (Int.le_refl _) n [] ⟨0, false⟩ (Opn.refl _ ⟨0, false⟩) y s1 h
  have e : ∀ i, i ≤ A.length → depN (A ++ [t]) i = wS (A.take i) := fun i hi => by
    rw [dep_wS _ i (by simp; omega), List.take_append_of_le_length hi]
  constructor
  · rw [hk, e _ (Nat.le_refl _), List.take_length] at h2; exact h2
  · intro i hi
    rw [Int.zero_add, ← e i hi]
    exact h3 i (Nat.zero_le _) (by omega)
end

end Go.Proofs.ZL
