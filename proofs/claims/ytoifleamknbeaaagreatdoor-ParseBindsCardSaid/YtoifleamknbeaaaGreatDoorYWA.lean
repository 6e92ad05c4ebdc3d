/- What the tokens of a source are, each behind those ahead of it. -/
import Derived.Test.YtoifleamknbeaaaGreatDoorYNO
open Go Go.Am
namespace Go.Proofs.ZL
set_option maxRecDepth 100000
set_option linter.unusedSimpArgs false
set_option linter.unusedVariables false

def TextB (zs : List Int) : Prop := zs.length ≤ 256 ∧ ∀ z ∈ zs, z = 10 ∨ 32 ≤ z ∧ z ≤ 126
def Val (A : List Tok) (t : Tok) : Prop :=
 (t.kind = 3 ∧ t.num = 0 ∧ ∃ zs : List Int, t.text = strOf zs ∧ TextB zs) ∨
 (t.kind = 5 ∧ t.num = 1 ∧ t.text = (⟨#[59]⟩ : ByteArray) ∧ endsL A = true) ∨
 (t.kind = 5 ∧ t.num = 0 ∧ inS marks t.text = true) ∨
 ((t.kind = 1 ∨ t.kind = 4) ∧ t.num = 0 ∧ ∃ u : List UInt8, t.text = bts u ∧ u ≠ [] ∧ letterN (hd u) = true ∧ (∀ b ∈ u, alnumN b.toNat = true) ∧ u.length ≤ 24 ∧ t.kind = if inS words t.text then 4 else 1) ∨
 (t.kind = 2 ∧ ∃ u : List UInt8, t.text = bts u ∧ u ≠ [] ∧ (∀ b ∈ u, digitN b.toNat = true) ∧ u.length ≤ 18 ∧ ¬ (1 < u.length ∧ hd u = 48) ∧ t.num = numL u 0)

theorem textL_val {k : Nat} {l : List Tok} : ∀ (m : Nat) (r : List UInt8) (i : Nat) (out : List Int), r.length ≤ m → (∀ z ∈ out, z = 10 ∨ 32 ≤ z ∧ z ≤ 126) → (textL k l r i out).err.isOk = true → ∃ t, (textL k l r i out).list = l ++ [t] ∧ Val l t
 | m, [], i, out, _, _, h => by simp [textL, SErr.isOk] at h
 | 0, a :: r, _, _, h, _, _ => by simp at h
 | m + 1, [c], i, out, _, ho, h => by
  unfold textL at h ⊢
  split at h
  ·rename_i c1
   rw [if_pos c1]
   split at h
   ·simp [SErr.isOk] at h
   ·rename_i c2; rw [if_neg c2]; exact ⟨_, rfl, .inl ⟨rfl, rfl, out, rfl, by omega, ho⟩⟩
  ·split at h
   ·simp [SErr.isOk] at h
   ·split at h <;> simp [SErr.isOk] at h
 | m + 1, c :: d :: r, i, out, hm, ho, h => by
  have ih1 := fun hx => textL_val (k := k) (l := l) m (d :: r) (i + 1) (out ++ [(c.toNat : Int)]) (by simp at hm ⊢; omega) hx
  have ih2 := fun hx => textL_val (k := k) (l := l) m r (i + 2) (out ++ [if (d.toNat : Int) = 110 then 10 else (d.toNat : Int)]) (by simp at hm ⊢; omega) hx
  have snoc : ∀ z : Int, (z = 10 ∨ 32 ≤ z ∧ z ≤ 126) → ∀ y ∈ out ++ [z], y = 10 ∨ 32 ≤ y ∧ y ≤ 126 := fun z hz y hy => by
   rcases List.mem_append.1 hy with hy | hy
   ·exact ho y hy
   ·rw [List.mem_singleton.1 hy]; exact hz
  unfold textL at h ⊢
  by_cases c1 : (c.toNat : Int) = 34
  ·rw [if_pos c1] at h ⊢
   split at h
   ·simp [SErr.isOk] at h
   ·rename_i c2; rw [if_neg c2]; exact ⟨_, rfl, .inl ⟨rfl, rfl, out, rfl, by omega, ho⟩⟩
  rw [if_neg c1] at h ⊢
  by_cases c2 : (c.toNat : Int) = 92
  ·rw [if_pos c2] at h ⊢
   by_cases c4 : (d.toNat : Int) = 110 ∨ (d.toNat : Int) = 34 ∨ (d.toNat : Int) = 92
   ·rw [if_pos c4] at h ⊢
    refine ih2 (snoc _ ?_) h
    split
    ·exact .inl rfl
    ·exact .inr (by omega)
   ·rw [if_neg c4] at h; simp [SErr.isOk] at h
  rw [if_neg c2] at h ⊢
  by_cases c3 : (c.toNat : Int) < 32 ∨ 126 < (c.toNat : Int)
  ·rw [if_pos c3] at h; simp [SErr.isOk] at h
  ·rw [if_neg c3] at h ⊢; exact ih1 (snoc _ (.inr (by omega))) h

theorem lineL_val (k : Nat) (l : List Tok) : lineL k l = l ∨ ∃ t, lineL k l = l ++ [t] ∧ Val l t := by
 unfold lineL
 split
 ·rename_i h; exact .inr ⟨_, rfl, .inr (.inl ⟨rfl, rfl, rfl, h⟩)⟩
 ·exact .inl rfl
theorem run_mem {p : Int → Bool} (r : List UInt8) : ∀ b ∈ r.take (runL p r), p b.toNat = true := by
 intro b hb
 have h := List.prefix_iff_eq_take.1 (List.takeWhile_prefix (fun b : UInt8 => p b.toNat) (l := r))
 unfold runL at hb
 rw [← h] at hb
 exact List.all_eq_true.1 (List.all_takeWhile (p := fun b : UInt8 => p b.toNat) (l := r)) b hb
theorem run_pos {p : Int → Bool} {r : List UInt8} (h : p (hd r) = true) (h0 : p 0 = false) : 0 < runL p r ∧ hd (r.take (runL p r)) = hd r := by
 cases r with
 | nil => exact (by rw [show hd [] = 0 from rfl, h0] at h; cases h)
 | cons a r =>
  have : runL p (a :: r) = runL p r + 1 := by
   unfold runL
   rw [List.takeWhile_cons, if_pos (by exact h)]
   simp
  rw [this]
  exact ⟨Nat.succ_pos _, rfl⟩
theorem nextL_val (r : List UInt8) (k : Nat) (l : List Tok) (h : (nextL r k l).err.isOk = true) : (nextL r k l).list = l ∨ ∃ t, (nextL r k l).list = l ++ [t] ∧ Val l t := by
 unfold nextL at h ⊢
 split
 ·exact .inl rfl
 rename_i c; rw [if_neg c] at h
 split
 ·exact lineL_val k l
 rename_i c; rw [if_neg c] at h
 split
 ·exact .inl rfl
 rename_i c; rw [if_neg c] at h
 split
 ·rename_i c; rw [if_pos c] at h
  unfold nameL at h ⊢
  split
  ·exact .inl rfl
  ·rename_i h24
   obtain ⟨h1, h2⟩ := run_pos (p := alnumN) (r := r) (by unfold alnumN; rw [c]; rfl) (by decide)
   have hl := runL_le alnumN r
   refine .inr ⟨_, rfl, .inr (.inr (.inr (.inl ⟨?_, rfl, r.take (runL alnumN r), rfl, ?_, by rw [h2]; exact c, run_mem r, by rw [List.length_take]; omega, rfl⟩)))⟩
   ·simp only; split <;> simp
   ·intro e; have := congrArg List.length e; rw [List.length_take, List.length_nil] at this; omega
 rename_i c; rw [if_neg c] at h
 split
 ·rename_i c; rw [if_pos c] at h
  unfold numberL at h ⊢
  split
  ·exact .inl rfl
  rename_i h18
  split
  ·exact .inl rfl
  rename_i h0
  split
  ·exact .inl rfl
  obtain ⟨h1, h2⟩ := run_pos (p := digitN) (r := r) c (by decide)
  have hl := runL_le digitN r
  have hlt : (r.take (runL digitN r)).length = runL digitN r := by rw [List.length_take]; omega
  refine .inr ⟨_, rfl, .inr (.inr (.inr (.inr ⟨rfl, r.take (runL digitN r), rfl, ?_, run_mem r, by omega, by rw [h2, hlt]; exact h0, rfl⟩)))⟩
  intro e; have := congrArg List.length e; rw [hlt, List.length_nil] at this; omega
 rename_i c; rw [if_neg c] at h
 split
 ·rename_i c; rw [if_pos c] at h
  exact .inr (textL_val _ _ _ _ (Nat.le_refl _) (fun z hz => by cases hz) h)
 rename_i c; rw [if_neg c] at h
 split
 ·exact .inl rfl
 ·rename_i hne
  refine .inr ⟨_, rfl, .inr (.inr (.inl ⟨rfl, rfl, ?_⟩))⟩
  simp only
  unfold markL at hne ⊢
  split
  ·rename_i h; exact h.2
  ·rename_i h1
   rw [if_neg h1] at hne
   split
   ·rename_i h; exact h.2
   ·rename_i h2; rw [if_neg h2] at hne; exact (hne rfl).elim

def Vals (l : List Tok) : Prop := ∀ i t, l[i]? = some t → Val (l.take i) t
theorem Vals.snoc {l l' : List Tok} (h : Vals l) (hl : l' = l ∨ ∃ t, l' = l ++ [t] ∧ Val l t) : Vals l' := by
 rcases hl with rfl | ⟨t, rfl, ht⟩
 ·exact h
 ·intro i u hu
  rcases Nat.lt_trichotomy i l.length with hi | hi | hi
  ·rw [List.getElem?_append_left hi] at hu
   rw [List.take_append_of_le_length (Nat.le_of_lt hi)]
   exact h i u hu
  ·subst hi
   rw [List.getElem?_append_right (Nat.le_refl _), Nat.sub_self] at hu
   simp at hu
   subst hu
   rw [List.take_left' rfl]; exact ht
  ·rw [List.getElem?_eq_none (by simp; omega)] at hu; cases hu
theorem Scans.vals {r : List UInt8} {k : Nat} {l : List Tok} {o : Out} (h : Scans r k l o) : Vals l → o.err.isOk = true → ∃ A, o.list = A ++ [⟨6, (⟨#[]⟩ : ByteArray), 0, ((k + r.length : Nat) : Int)⟩] ∧ Vals A ∧ endsL A = false := by
 induction h with
 | done k l => exact fun hl _ => ⟨_, rfl, hl.snoc (lineL_val k l), endsL_line k l⟩
 | @fail r k l hne he => intro _ h; rw [he] at h; cases h
 | @step r k l o n l' h0 hn he hs ih =>
  intro hl ho
  have h2 := nextL_val r k l (by rw [he]; rfl)
  rw [he] at h2
  obtain ⟨A, h1, h3⟩ := ih (hl.snoc h2) ho
  exact ⟨A, by rw [h1, List.length_drop, show k + n + (r.length - n) = k + r.length by omega], h3⟩

end Go.Proofs.ZL
