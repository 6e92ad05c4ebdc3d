/- Two sources that are parsed, and the line's end between them: the declarations of both. -/
import Derived.Test.YtoifleamknbeaaaGreatDoorYST
open Go Go.Am
namespace Go.Proofs.ZL
set_option linter.unusedSimpArgs false
set_option linter.unusedVariables false

theorem NdR.eq {t t' : Nd} (h : NdR Eq t t') : t = t' := by
  induction h with
  | mk kind text num pos pos' typ ref kids kids' hp hl hk ih =>
    subst hp
    have : kids = kids' := by
      apply List.ext_getElem? 
      intro i
      rcases Nat.lt_or_ge i kids.length with h | h
      · have h' : i < kids'.length := by omega
        rw [List.getElem?_eq_getElem h, List.getElem?_eq_getElem h', ih i _ _ (List.getElem?_eq_getElem h) (List.getElem?_eq_getElem h')]
      · rw [List.getElem?_eq_none h, List.getElem?_eq_none (by omega)]
    rw [this]
theorem NdR.bare {P : Int → Int → Prop} {t t' : Nd} (h : NdR P t t') : bareN t = bareN t' := by
  induction h with
  | mk kind text num pos pos' typ ref kids kids' hp hl hk ih =>
    unfold bareN
    have : kids.map bareN = kids'.map bareN := by
      apply List.ext_getElem?
      intro i
      rw [List.getElem?_map, List.getElem?_map]
      rcases Nat.lt_or_ge i kids.length with h | h
      · have h' : i < kids'.length := by omega
        rw [List.getElem?_eq_getElem h, List.getElem?_eq_getElem h', Option.map_some, Option.map_some, ih i _ _ (List.getElem?_eq_getElem h) (List.getElem?_eq_getElem h')]
      · rw [List.getElem?_eq_none h, List.getElem?_eq_none (by omega)]
    rw [this]

theorem St.sh_zero (s : St) : s.sh 0 = s := by obtain ⟨k, b⟩ := s; unfold St.sh; simp

section
variable {A B C : List Tok} {t : Tok} {m : Nat} {hd : Bool}
theorem want_pre (hO : ∀ u ∈ A, Okt u) (ht : t.kind = 6) {s s1 : St} {x : ByteArray} {u : Tok} (h : wantR (A ++ [t]) s x = .ok u s1) : s.k < A.length ∧ s1.k = s.k + 1 ∧ wantR (A ++ C) s x = .ok u s1 := by
  unfold wantR at h
  split at h
  · rename_i hi
    cases h
    have hk := (tok_lt hO ht).1 (isTok_kind hi)
    refine ⟨hk, rfl, ?_⟩
    unfold wantR
    have e : tokAt (A ++ C) s.k = tokAt (A ++ [t]) s.k := by rw [tok_in hk, tok_in hk]
    unfold isR at hi ⊢
    rw [e, if_pos hi]
  · cases h

/-- What a file begins with is parsed as if nothing else stood behind. -/
theorem go_pre (hO : ∀ u ∈ A, Okt u) (ht : t.kind = 6) : ∀ n x s y s1, s.k ≤ A.length → fileGo m (recN m) (A ++ [t]) hd n x s = .ok y s1 →
    ∃ j, j + s.k ≤ A.length ∧ ∀ N, fileGo m (recN m) (A ++ C) hd (N + j) x s = fileGo m (recN m) (A ++ C) hd N y s1 := by
  intro n
  induction n with
  | zero => intro x s y s1 _ h; cases h
  | succ n ih =>
    intro x s y s1 hs h
    unfold fileGo at h
    split at h
    · cases h; exact ⟨0, by omega, fun N => rfl⟩
    · rename_i h6
      have hk := (tok_lt hO ht).1 h6
      cases hd1 : declF m (recN m) (A ++ [t]) hd s with
      | ok d s2 =>
        rw [hd1] at h
        rw [R.then_ok] at h
        cases hw : wantR (A ++ [t]) s2 (⟨#[59]⟩ : ByteArray) with
        | ok u s3 =>
          rw [hw] at h
          obtain ⟨h1, h2, h3⟩ := want_pre (C := C) hO ht hw
          obtain ⟨j, h4, h5⟩ := ih (x ++ [d]) s3 y s1 (by omega) h
          have g : Alike Eq (A ++ [t]) (A ++ C) 0 0 s2.k := ⟨rfl, fun p => ⟨p, rfl⟩, fun i _ hi => ⟨_, rfl, by rw [Nat.zero_add, tok_in (show i < A.length by omega), tok_in (show i < A.length by omega)]⟩⟩
          have hb := decl_b g (rec_b g m) hd s (Nat.zero_le _)
          rw [hd1] at hb
          obtain ⟨b1, _, _, b4⟩ := hb
          obtain ⟨d', e1, e2⟩ := b4 (Nat.le_refl _)
          rw [← e2.eq, St.sh_zero, St.sh_zero] at e1
          refine ⟨j + 1, by omega, fun N => ?_⟩
          rw [← h5 N, ← Nat.add_assoc]
          show (if (tokAt (A ++ C) s.k).kind = 6 then _ else _) = _
          have ek : (tokAt (A ++ C) s.k).kind ≠ 6 := by rw [tok_in hk]; exact (hO _ (List.getElem_mem hk)).1
          rw [if_neg ek, e1, R.then_ok, h3, R.then_ok]
        | bad i => rw [hw] at h; cases h
        | out => rw [hw] at h; cases h
      | bad i => rw [hd1] at h; cases h
      | out => rw [hd1] at h; cases h

/-- What was parsed before stands ahead of what is parsed. -/
theorem go_acc {L : List Tok} {r : Rec} (z : List Nd) : ∀ n x s y s1, fileGo m r L hd n x s = .ok y s1 → fileGo m r L hd n (z ++ x) s = .ok (z ++ y) s1 := by
  intro n
  induction n with
  | zero => intro x s y s1 h; cases h
  | succ n ih =>
    intro x s y s1 h
    unfold fileGo at h ⊢
    split
    · rename_i c; rw [if_pos c] at h; cases h; rfl
    · rename_i c; rw [if_neg c] at h
      cases hd1 : declF m r L hd s with
      | ok d s2 =>
        rw [hd1, R.then_ok] at h
        rw [R.then_ok]
        cases hw : wantR L s2 (⟨#[59]⟩ : ByteArray) with
        | ok u s3 =>
          rw [hw, R.then_ok] at h
          rw [R.then_ok, List.append_assoc]
          exact ih _ _ _ _ h
        | bad i => rw [hw] at h; cases h
        | out => rw [hw] at h; cases h
      | bad i => rw [hd1] at h; cases h
      | out => rw [hd1] at h; cases h

/-- More steps than are needed change nothing. -/
theorem go_more {L : List Tok} {r : Rec} : ∀ n x s, fileGo m r L hd n x s ≠ .out → ∀ N, n ≤ N → fileGo m r L hd N x s = fileGo m r L hd n x s := by
  intro n
  induction n with
  | zero => intro x s h; exact (h rfl).elim
  | succ n ih =>
    intro x s h N hN
    obtain ⟨N, rfl⟩ : ∃ M, N = M + 1 := ⟨N - 1, by omega⟩
    unfold fileGo at h ⊢
    split
    · rfl
    · rename_i c; rw [if_neg c] at h
      cases hd1 : declF m r L hd s with
      | ok d s2 =>
        rw [hd1, R.then_ok] at h
        rw [R.then_ok, R.then_ok]
        cases hw : wantR L s2 (⟨#[59]⟩ : ByteArray) with
        | ok u s3 =>
          rw [hw, R.then_ok] at h
          rw [R.then_ok, R.then_ok]
          exact ih _ _ h N (by omega)
        | bad i => rfl
        | out => rfl
      | bad i => rfl
      | out => rfl

theorem tok_sh (K : Nat) (A B : List Tok) (i : Nat) : TokR (fun _ _ => True) (tokAt B i) (tokAt (A ++ B.map (Tok.sh K)) (A.length + i)) := by
  unfold tokAt
  rw [List.getD_eq_getElem?_getD, List.getD_eq_getElem?_getD, List.getElem?_append_right (Nat.le_add_right _ _), Nat.add_sub_cancel_left, List.getElem?_map]
  cases h : B[i]? with
  | none => exact ⟨_, trivial, rfl⟩
  | some u => exact ⟨_, trivial, rfl⟩

/-- A file behind another one. -/
theorem go_join {K : Nat} {ka kb : List Nd} {sa sb : St} (hO : ∀ u ∈ A, Okt u) (ht : t.kind = 6) (hm : 10 * B.length + A.length < m)
    (ha : fileGo m (recN m) (A ++ [t]) hd m [] ⟨0, false⟩ = .ok ka sa) (hb : fileGo m (recN m) B hd m [] ⟨0, false⟩ = .ok kb sb) :
    ∃ kb' s, fileGo m (recN m) (A ++ B.map (Tok.sh K)) hd m [] ⟨0, false⟩ = .ok (ka ++ kb') s ∧ LR (fun _ _ => True) kb kb' := by
  have hka := go_end hO ht _ _ _ _ _ (Nat.zero_le _) ha
  obtain ⟨j, h1, h2⟩ := go_pre (C := B.map (Tok.sh K)) hO ht _ _ _ _ _ (Nat.zero_le _) ha
  simp only [Nat.add_zero] at h1
  have g : Alike (fun _ _ => True) B (A ++ B.map (Tok.sh K)) A.length 0 B.length := ⟨trivial, fun p => ⟨p, trivial⟩, fun i _ _ => tok_sh K A B i⟩
  have e := fileGo_b g (rec_b g m) hd (k0 := 0) (Nat.le_refl _) (m - j) [] [] ⟨0, false⟩ (Nat.zero_le _) (Nat.zero_le _) ⟨Nat.zero_le _, fun i t h => by cases h⟩ (.nil _)
  have hmj := h2 (m - j)
  rw [show m - j + j = m by omega] at hmj
  rw [hmj]
  have hin := fileGo_i (m := m) (rec_i (A ++ B.map (Tok.sh K)) m) hd (m - j) ka A.length sa.bare false
  rw [show (⟨A.length, sa.bare⟩ : St) = sa by rw [← hka]] at hin
  have hno : fileGo m (recN m) B hd (m - j) [] ⟨0, false⟩ ≠ .out := fun h => by rw [h] at e; exact e ⟨by omega, by simp only; omega⟩
  rw [← go_more _ _ _ hno m (by omega), hb] at e
  obtain ⟨_, e2, _, e4⟩ := e
  obtain ⟨kb', e5, e6⟩ := e4 e2
  have e7 := go_acc ka _ _ _ _ _ e5
  rw [List.append_nil, show St.sh A.length ⟨0, false⟩ = ⟨A.length, false⟩ from rfl] at e7
  rw [e7] at hin
  cases hs : fileGo m (recN m) (A ++ B.map (Tok.sh K)) hd (m - j) ka sa with
  | ok z s2 => rw [hs] at hin; exact ⟨kb', s2, by rw [← hin.1], e6⟩
  | bad i => rw [hs] at hin; exact hin.elim
  | out => rw [hs] at hin; exact hin.elim
end

end Go.Proofs.ZL
