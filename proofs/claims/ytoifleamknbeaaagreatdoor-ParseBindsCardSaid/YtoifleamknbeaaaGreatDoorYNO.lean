/- The tokens of a scan: their kinds. -/
import Derived.Test.YtoifleamknbeaaaGreatDoorYSK
import Derived.Test.YtoifleamknbeaaaGreatDoorYNc
open Go Go.Am
namespace Go.Proofs.ZL
set_option linter.unusedSimpArgs false
set_option linter.unusedVariables false

def Okt (t : Tok) : Prop := t.kind ≠ 6 ∧ (t.kind = 4 → wtX t.text = 0)
theorem okt_of {k n p : Int} {x : ByteArray} (h6 : k ≠ 6) (h4 : k ≠ 4) : Okt ⟨k, x, n, p⟩ := ⟨h6, fun h => absurd h h4⟩
theorem words_wt : words.all (fun x => decide (wtX x = 0)) = true := by decide +kernel

theorem textL_okt {k : Nat} {l : List Tok} : ∀ (m : Nat) (r : List UInt8) (i : Nat) (out : List Int), r.length ≤ m → (textL k l r i out).list = l ∨ ∃ t, (textL k l r i out).list = l ++ [t] ∧ Okt t
 | m, [], i, out, _ => by unfold textL; exact .inl rfl
 | 0, a :: r, _, _, h => by simp at h
 | m + 1, [c], i, out, _ => by
  unfold textL
  split
  ·split
   ·exact .inl rfl
   ·exact .inr ⟨_, rfl, okt_of (by omega) (by omega)⟩
  split
  ·exact .inl rfl
  split
  ·exact .inl rfl
  ·exact .inl rfl
 | m + 1, c :: d :: r, i, out, h => by
  unfold textL
  split
  ·split
   ·exact .inl rfl
   ·exact .inr ⟨_, rfl, okt_of (by omega) (by omega)⟩
  split
  ·split
   ·exact textL_okt m r _ _ (by simp at h ⊢; omega)
   ·exact .inl rfl
  split
  ·exact .inl rfl
  ·exact textL_okt m (d :: r) _ _ (by simp at h ⊢; omega)
theorem lineL_okt (k : Nat) (l : List Tok) : lineL k l = l ∨ ∃ t, lineL k l = l ++ [t] ∧ Okt t := by
 unfold lineL
 split
 ·exact .inr ⟨_, rfl, okt_of (by omega) (by omega)⟩
 ·exact .inl rfl
theorem nextL_okt (r : List UInt8) (k : Nat) (l : List Tok) : (nextL r k l).list = l ∨ ∃ t, (nextL r k l).list = l ++ [t] ∧ Okt t := by
 unfold nextL
 split
 ·exact .inl rfl
 split
 ·exact lineL_okt k l
 split
 ·exact .inl rfl
 split
 ·unfold nameL
  split
  ·exact .inl rfl
  ·refine .inr ⟨_, rfl, ?_⟩
   split
   ·rename_i h
    exact ⟨by simp, fun _ => of_decide_eq_true (List.all_eq_true.1 words_wt _ (inS_iff.1 h))⟩
   ·exact okt_of (by omega) (by omega)
 split
 ·unfold numberL
  split
  ·exact .inl rfl
  split
  ·exact .inl rfl
  split
  ·exact .inl rfl
  ·exact .inr ⟨_, rfl, okt_of (by omega) (by omega)⟩
 split
 ·exact textL_okt _ _ _ _ (Nat.le_refl _)
 split
 ·exact .inl rfl
 ·exact .inr ⟨_, rfl, okt_of (by omega) (by omega)⟩

theorem Scans.okt {r : List UInt8} {k : Nat} {l : List Tok} {o : Out} (h : Scans r k l o) : (∀ t ∈ l, Okt t) → o.err.isOk = true → ∃ A, o.list = A ++ [⟨6, (⟨#[]⟩ : ByteArray), 0, ((k + r.length : Nat) : Int)⟩] ∧ ∀ u ∈ A, Okt u := by
 have hx : ∀ {l l' : List Tok}, (l' = l ∨ ∃ t, l' = l ++ [t] ∧ Okt t) → (∀ t ∈ l, Okt t) → ∀ t ∈ l', Okt t := by
  rintro l l' (rfl | ⟨t, rfl, ht⟩) hl u hu
  ·exact hl u hu
  ·rcases List.mem_append.1 hu with hu | hu
   ·exact hl u hu
   ·rw [List.mem_singleton.1 hu]; exact ht
 induction h with
 | done k l => exact fun hl _ => ⟨_, rfl, hx (lineL_okt k l) hl⟩
 | @fail r k l hne he => intro _ h; rw [he] at h; cases h
 | @step r k l o n l' h0 hn he hs ih =>
  intro hl ho
  have hl' := nextL_okt r k l
  rw [he] at hl'
  obtain ⟨A, h1, h3⟩ := ih (hx hl' hl) ho
  exact ⟨A, by rw [h1, List.length_drop, show k + n + (r.length - n) = k + r.length by omega], h3⟩

end Go.Proofs.ZL
