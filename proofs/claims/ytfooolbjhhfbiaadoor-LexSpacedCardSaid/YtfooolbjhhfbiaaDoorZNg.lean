/- Facts on the pure scan: blanks and a comment more at a line's end. -/
import Derived.Test.YtfooolbjhhfbiaaDoorZNf
open Go Go.Am
namespace Go.Proofs.ZL
set_option maxRecDepth 100000

/-- A token but for its place. -/
def Tok.bare (t : Tok) : Tok := { t with pos := 0 }
def bares (l : List Tok) : List Tok := l.map Tok.bare

theorem bares_app (a b : List Tok) : bares (a ++ b) = bares a ++ bares b := List.map_append
theorem endsL_bare {l l' : List Tok} (h : bares l = bares l') : endsL l = endsL l' := by
  have h1 : ∀ x : List Tok, endsL (bares x) = endsL x := by
    intro x
    unfold endsL bares
    rw [List.getLast?_map]
    cases x.getLast? <;> rfl
  rw [← h1 l, ← h1 l', h]
theorem lineL_bare {l l' : List Tok} (h : bares l = bares l') (k k' : Nat) : bares (lineL k l) = bares (lineL k' l') := by
  unfold lineL
  rw [endsL_bare h]
  split
  · rw [bares_app, bares_app, h]; rfl
  · exact h
theorem lineL_twice (k k' : Nat) (l : List Tok) : lineL k' (lineL k l) = lineL k l := by
  have h := endsL_line k l
  generalize lineL k l = x at h
  unfold lineL
  rw [h]; rfl

/-- The same step from two places. -/
def Alike (k k' : Nat) (o o' : Out) : Prop := o.err.isOk = o'.err.isOk ∧ (o.err.isOk = true → o.pos + k' = o'.pos + k ∧ bares o.list = bares o'.list)

theorem textL_alike {k k' : Nat} {l l' : List Tok} (hl : bares l = bares l') : ∀ (m : Nat) (r : List UInt8) (i i' : Nat) (out : List Int), r.length ≤ m → i + k' = i' + k → Alike k k' (textL k l r i out) (textL k' l' r i' out)
  | m, [], i, i', out, _, _ => by unfold textL; exact ⟨rfl, fun h => by simp [SErr.isOk] at h⟩
  | 0, a :: r, _, _, _, h, _ => by simp at h
  | m + 1, [c], i, i', out, _, hi => by
    unfold textL
    by_cases c1 : (c.toNat : Int) = 34
    · rw [if_pos c1, if_pos c1]
      split
      · exact ⟨rfl, fun h => by simp [SErr.isOk] at h⟩
      · exact ⟨rfl, fun _ => ⟨by simp only; omega, by simp only [bares_app, hl]; rfl⟩⟩
    rw [if_neg c1, if_neg c1]
    by_cases c2 : (c.toNat : Int) = 92
    · rw [if_pos c2, if_pos c2]; exact ⟨rfl, fun h => by simp [SErr.isOk] at h⟩
    rw [if_neg c2, if_neg c2]
    by_cases c3 : (c.toNat : Int) < 32 ∨ 126 < (c.toNat : Int)
    · rw [if_pos c3, if_pos c3]; exact ⟨rfl, fun h => by simp [SErr.isOk] at h⟩
    · rw [if_neg c3, if_neg c3]; exact ⟨rfl, fun h => by simp [SErr.isOk] at h⟩
  | m + 1, c :: d :: r, i, i', out, h, hi => by
    have ih1 := textL_alike (k := k) (k' := k') hl m (d :: r) (i + 1) (i' + 1) (out ++ [(c.toNat : Int)]) (by simp at h ⊢; omega) (by omega)
    have ih2 := textL_alike (k := k) (k' := k') hl m r (i + 2) (i' + 2) (out ++ [if (d.toNat : Int) = 110 then 10 else (d.toNat : Int)]) (by simp at h ⊢; omega) (by omega)
    unfold textL
    by_cases c1 : (c.toNat : Int) = 34
    · rw [if_pos c1, if_pos c1]
      split
      · exact ⟨rfl, fun h => by simp [SErr.isOk] at h⟩
      · exact ⟨rfl, fun _ => ⟨by simp only; omega, by simp only [bares_app, hl]; rfl⟩⟩
    rw [if_neg c1, if_neg c1]
    by_cases c2 : (c.toNat : Int) = 92
    · rw [if_pos c2, if_pos c2]
      by_cases c4 : (d.toNat : Int) = 110 ∨ (d.toNat : Int) = 34 ∨ (d.toNat : Int) = 92
      · rw [if_pos c4, if_pos c4]; exact ih2
      · rw [if_neg c4, if_neg c4]; exact ⟨rfl, fun h => by simp [SErr.isOk] at h⟩
    rw [if_neg c2, if_neg c2]
    by_cases c3 : (c.toNat : Int) < 32 ∨ 126 < (c.toNat : Int)
    · rw [if_pos c3, if_pos c3]; exact ⟨rfl, fun h => by simp [SErr.isOk] at h⟩
    · rw [if_neg c3, if_neg c3]; exact ih1

theorem nextL_alike {k k' : Nat} {l l' : List Tok} (hl : bares l = bares l') (r : List UInt8) : Alike k k' (nextL r k l) (nextL r k' l') := by
  have ht := textL_alike (k := k) (k' := k') hl _ r.tail (k + 1) (k' + 1) [] (Nat.le_refl _) (by omega)
  have bad : ∀ {e e' : SErr} {p p' : Nat} {x x' : List Tok}, e.isOk = false → e'.isOk = false → Alike k k' ⟨e, p, x⟩ ⟨e', p', x'⟩ := fun h h' => ⟨h.trans h'.symm, fun h2 => by rw [h] at h2; cases h2⟩
  have good : ∀ {n : Nat} {x x' : List Tok}, bares x = bares x' → Alike k k' ⟨.ok, k + n, x⟩ ⟨.ok, k' + n, x'⟩ := fun h => ⟨rfl, fun _ => ⟨by simp only; omega, h⟩⟩
  have more : ∀ {t t' : Tok}, t.bare = t'.bare → bares (l ++ [t]) = bares (l' ++ [t']) := fun h => by rw [bares_app, bares_app, hl]; simp [bares, h]
  unfold nextL
  split
  · exact good hl
  split
  · exact good (lineL_bare hl _ _)
  split
  · exact good hl
  split
  · unfold nameL
    split
    · exact bad rfl rfl
    · exact good (more rfl)
  split
  · unfold numberL
    split
    · exact bad rfl rfl
    split
    · exact bad rfl rfl
    split
    · exact bad rfl rfl
    · exact good (more rfl)
  split
  · exact ht
  split
  · exact bad rfl rfl
  · exact good (more rfl)

/-- A blank behind a rest that is no comment. -/
theorem nextL_stop32 {r : List UInt8} (hr : r ≠ []) (h47 : r.take 2 ≠ [47, 47]) (x : List UInt8) (k : Nat) (l : List Tok) (hx : ∀ i out, ∃ j, textL k l (32 :: x) i out = ⟨.stuck j, k, l⟩) :
    ((nextL r k l).err.isOk = true → nextL (r ++ 32 :: x) k l = nextL r k l) ∧ ((nextL r k l).err.isOk = false → (nextL (r ++ 32 :: x) k l).err.isOk = false) := by
  have ht : (r ++ 32 :: x).tail = r.tail ++ 32 :: x := by cases r with
    | nil => exact (hr rfl).elim
    | cons a r => rfl
  have htl := (textL_stop (.inr rfl) x (fun _ => hx) _ r.tail (k + 1) [] (Nat.le_refl _)).2
  unfold nextL
  rw [hd_app hr, nameL_stop rfl, numberL_stop rfl rfl hr, ht, markL_stop (.inr rfl) hr]
  simp only [take2_stop (b := 32) (by decide) hr x]
  split
  · exact ⟨fun _ => rfl, fun h => h⟩
  split
  · exact ⟨fun _ => rfl, fun h => h⟩
  split
  · exact ⟨fun _ => rfl, fun h => h⟩
  split
  · exact ⟨fun _ => rfl, fun h => h⟩
  split
  · exact htl
  split
  · exact ⟨fun _ => rfl, fun h => h⟩
  · exact ⟨fun _ => rfl, fun h => h⟩

/-- Ends that are alike. -/
def Ends2 (o o' : Out) : Prop := o.err.isOk = o'.err.isOk ∧ (o.err.isOk = true → bares o.list = bares o'.list)

theorem Scans.inv {r : List UInt8} {k : Nat} {l : List Tok} {o : Out} (h : Scans r k l o) (hr : r ≠ []) :
    ((nextL r k l).err.isOk = false ∧ o = nextL r k l) ∨ ∃ n l', 0 < n ∧ n ≤ r.length ∧ nextL r k l = ⟨.ok, k + n, l'⟩ ∧ Scans (r.drop n) (k + n) l' o := by
  cases h with
  | done => exact (hr rfl).elim
  | fail _ he => exact .inl ⟨he, rfl⟩
  | step n l' h0 hn he hs => exact .inr ⟨n, l', h0, hn, he, hs⟩
theorem Scans.inv_ok {r : List UInt8} {k n : Nat} {l l' : List Tok} {o : Out} (h : Scans r k l o) (hr : r ≠ []) (he : nextL r k l = ⟨.ok, k + n, l'⟩) : Scans (r.drop n) (k + n) l' o := by
  rcases h.inv hr with ⟨h1, _⟩ | ⟨n', l2, _, _, h2, h3⟩
  · rw [he] at h1; cases h1
  · rw [he] at h2
    have e1 : k + n = k + n' := congrArg Out.pos h2
    have e2 : l' = l2 := congrArg Out.list h2
    have e3 : n = n' := by omega
    subst e2; subst e3
    exact h3

def W7 : List UInt8 := [47, 47, 32, 97, 32, 40]
theorem W7_text (k : Nat) (l : List Tok) (Y : List UInt8) (i : Nat) (out : List Int) : ∃ j, textL k l (32 :: (W7 ++ 10 :: 10 :: Y)) i out = ⟨.stuck j, k, l⟩ := by
  refine ⟨i + 7, ?_⟩
  simp [W7, textL]

/-- One line's rest. -/
theorem line_alike {X Y : List UInt8} (H : ∀ k l k' l' o o', bares l = bares l' → Scans X k l o → Scans Y k' l' o' → Ends2 o o') : ∀ (m : Nat) (u : List UInt8) (k : Nat) (l : List Tok) (k' : Nat) (l' : List Tok) (o o' : Out),
    u.length ≤ m → (∀ b ∈ u, b ≠ 10) → bares l = bares l' → Scans (u ++ 10 :: X) k l o → Scans (u ++ 32 :: (W7 ++ 10 :: 10 :: Y)) k' l' o' → Ends2 o o'
  | m, [], k, l, k', l', o, o', _, _, hl, h1, h2 => by
    have a1 := h1.inv_ok (n := 1) (by simp) (nextL_line rfl k l)
    have b1 := h2.inv_ok (n := 1) (by simp) (nextL_blank (.inl rfl) k' l')
    simp only [List.nil_append, List.drop_succ_cons, List.drop_zero] at a1 b1
    have hcm : nextL (W7 ++ 10 :: 10 :: Y) (k' + 1) l' = ⟨.ok, k' + 1 + 6, l'⟩ := by
      have hw : hd (W7 ++ 10 :: 10 :: Y) = 47 := rfl
      unfold nextL
      rw [if_neg (by rw [hw]; decide), if_neg (by rw [hw]; decide), if_pos (by rfl), show runL noLine (W7 ++ 10 :: 10 :: Y) = 6 from runL_stop rfl _ _ |>.trans rfl]
    have b2 := b1.inv_ok (by simp [W7]) hcm
    rw [show (W7 ++ 10 :: 10 :: Y).drop 6 = 10 :: 10 :: Y from rfl] at b2
    have b3 := b2.inv_ok (n := 1) (by simp) (nextL_line rfl _ l')
    simp only [List.drop_succ_cons, List.drop_zero] at b3
    have b4 := b3.inv_ok (n := 1) (by simp) (nextL_line rfl _ _)
    simp only [List.drop_succ_cons, List.drop_zero] at b4
    rw [lineL_twice] at b4
    exact H _ _ _ _ _ _ (lineL_bare hl _ _) a1 b4
  | 0, a :: u, _, _, _, _, _, _, h, _, _, _, _ => by simp at h
  | m + 1, a :: u, k, l, k', l', o, o', hm, hnl, hl, h1, h2 => by
    have hne : a :: u ≠ [] := by simp
    have hst := nextL_stop hne X k l
    have hal := nextL_alike (k := k) (k' := k') hl (a :: u)
    by_cases h47 : (a :: u).take 2 = [47, 47]
    · -- a comment
      have h47a : ((a :: u) ++ 10 :: X).take 2 = [47, 47] := (take2_stop (by decide) hne X).2 h47
      have h47b : ((a :: u) ++ 32 :: (W7 ++ 10 :: 10 :: Y)).take 2 = [47, 47] := (take2_stop (by decide) hne _).2 h47
      have hall : ∀ b ∈ a :: u, noLine b.toNat = true := fun b hb => by
        unfold noLine
        rw [decide_eq_true_eq]
        intro e
        apply hnl b hb
        apply UInt8.toNat_inj.1
        have : b.toNat = 10 := by omega
        rw [this]; rfl
      have ra : runL noLine ((a :: u) ++ 10 :: X) = (a :: u).length := runL_all hall (fun b hb => by cases hb; rfl)
      have rb : runL noLine ((a :: u) ++ 32 :: (W7 ++ 10 :: 10 :: Y)) = (a :: u).length + 7 := by
        rw [show (a :: u) ++ 32 :: (W7 ++ 10 :: 10 :: Y) = ((a :: u) ++ 32 :: W7) ++ 10 :: 10 :: Y by simp]
        rw [runL_all (u := (a :: u) ++ 32 :: W7) (x := 10 :: 10 :: Y) (fun b hb => by
          rcases List.mem_append.1 hb with hb | hb
          · exact hall b hb
          · simp only [W7, List.mem_cons, List.not_mem_nil, or_false] at hb
            rcases hb with rfl | rfl | rfl | rfl | rfl | rfl | rfl <;> rfl) (fun b hb => by cases hb; rfl)]
        simp [W7]
      have hh : ∀ r : List UInt8, r.take 2 = [47, 47] → ∀ (k : Nat) (l : List Tok), nextL r k l = ⟨.ok, k + runL noLine r, l⟩ := fun r hr k l => by
        have := take2_hd hr
        unfold nextL
        rw [if_neg (by rw [this]; decide), if_neg (by rw [this]; decide), if_pos hr]
      have na := hh _ h47a k l
      have nb := hh _ h47b k' l'
      rw [ra] at na
      rw [rb] at nb
      have a1 := h1.inv_ok (by simp) na
      have b1 := h2.inv_ok (by simp) nb
      rw [List.drop_left' rfl] at a1
      rw [show (a :: u) ++ 32 :: (W7 ++ 10 :: 10 :: Y) = ((a :: u) ++ 32 :: W7) ++ 10 :: 10 :: Y by simp, List.drop_left' (by simp [W7])] at b1
      have a2 := a1.inv_ok (n := 1) (by simp) (nextL_line rfl _ _)
      have b2 := b1.inv_ok (n := 1) (by simp) (nextL_line rfl _ _)
      simp only [List.drop_succ_cons, List.drop_zero] at a2 b2
      have b3 := b2.inv_ok (n := 1) (by simp) (nextL_line rfl _ _)
      simp only [List.drop_succ_cons, List.drop_zero] at b3
      rw [lineL_twice] at b3
      exact H _ _ _ _ _ _ (lineL_bare hl _ _) a2 b3
    · have h32 := nextL_stop32 hne h47 (W7 ++ 10 :: 10 :: Y) k' l' (W7_text k' l' Y)
      cases hok : (nextL (a :: u) k l).err.isOk with
      | false =>
        have hok' : (nextL (a :: u) k' l').err.isOk = false := by rw [← hal.1]; exact hok
        have e1 : o.err.isOk = false := by
          rcases h1.inv (by simp) with ⟨h3, rfl⟩ | ⟨n, l2, _, _, h3, _⟩
          · exact h3
          · rw [hst] at h3; rw [h3] at hok; cases hok
        have e2 : o'.err.isOk = false := by
          rcases h2.inv (by simp) with ⟨h3, rfl⟩ | ⟨n, l2, _, _, h3, _⟩
          · exact h3
          · have := h32.2 hok'; rw [h3] at this; cases this
        exact ⟨by rw [e1, e2], fun h => by rw [e1] at h; cases h⟩
      | true =>
        obtain ⟨n, l2, hn0, hn, he, _⟩ := nextL_ok hne hok
        have hok' : (nextL (a :: u) k' l').err.isOk = true := by rw [← hal.1]; exact hok
        obtain ⟨n', l2', hn0', hn', he', _⟩ := nextL_ok hne hok'
        have hp := hal.2 hok
        rw [he, he'] at hp
        simp only at hp
        have hnn : n = n' := by omega
        subst hnn
        rw [he] at hst
        have a1 := h1.inv_ok (by simp) hst
        have hst' : nextL (a :: u ++ 32 :: (W7 ++ 10 :: 10 :: Y)) k' l' = ⟨.ok, k' + n, l2'⟩ := by rw [h32.1 hok', he']
        have b1 := h2.inv_ok (by simp) hst'
        rw [List.drop_append_of_le_length hn] at a1 b1
        exact line_alike H m ((a :: u).drop n) _ _ _ _ _ _ (by rw [List.length_drop]; simp at hm ⊢; omega) (fun b hb => hnl b (List.mem_of_mem_drop hb)) hp.2 a1 b1

def srcA (ls : List (List UInt8)) : List UInt8 := ls.flatMap fun s => s ++ [10]
def srcB (ls : List (List UInt8)) : List UInt8 := ls.flatMap fun s => [32, 9] ++ s ++ (32 :: W7) ++ [10, 10]

theorem lines_alike : ∀ (ls : List (List UInt8)), (∀ s ∈ ls, ∀ b ∈ s, b ≠ 10) → ∀ (k : Nat) (l : List Tok) (k' : Nat) (l' : List Tok) (o o' : Out), bares l = bares l' → Scans (srcA ls) k l o → Scans (srcB ls) k' l' o' → Ends2 o o'
  | [], _, k, l, k', l', o, o', hl, h1, h2 => by
    have e1 : o = ⟨.ok, k, lineL k l ++ [⟨6, (⟨#[]⟩ : ByteArray), 0, k⟩]⟩ := by
      cases h1 with
      | done => rfl
      | fail hne _ => exact (hne rfl).elim
      | step n l' h0 hn _ _ => simp [srcA] at hn; omega
    have e2 : o' = ⟨.ok, k', lineL k' l' ++ [⟨6, (⟨#[]⟩ : ByteArray), 0, k'⟩]⟩ := by
      cases h2 with
      | done => rfl
      | fail hne _ => exact (hne rfl).elim
      | step n l' h0 hn _ _ => simp [srcB] at hn; omega
    rw [e1, e2]
    exact ⟨rfl, fun _ => by simp only [bares_app]; rw [lineL_bare hl k k']; rfl⟩
  | s :: ls, hnl, k, l, k', l', o, o', hl, h1, h2 => by
    have ea : srcA (s :: ls) = s ++ 10 :: srcA ls := by unfold srcA; rw [List.flatMap_cons]; simp
    have eb : srcB (s :: ls) = 32 :: 9 :: (s ++ 32 :: (W7 ++ 10 :: 10 :: srcB ls)) := by unfold srcB; rw [List.flatMap_cons]; simp
    rw [ea] at h1
    rw [eb] at h2
    have b1 := h2.inv_ok (n := 1) (by simp) (nextL_blank (.inl rfl) _ _)
    simp only [List.drop_succ_cons, List.drop_zero] at b1
    have b2 := b1.inv_ok (n := 1) (by simp) (nextL_blank (.inr rfl) _ _)
    simp only [List.drop_succ_cons, List.drop_zero] at b2
    exact line_alike (lines_alike ls (fun t ht => hnl t (List.mem_cons_of_mem _ ht))) _ s _ _ _ _ _ _ (Nat.le_refl _) (hnl s (List.mem_cons_self ..)) hl h1 b2

theorem deepGo_bare : ∀ (l l' : List Tok) (n : Int), bares l = bares l' → (deepGo l n).isSome = (deepGo l' n).isSome
  | [], [], _, _ => rfl
  | [], b :: l', _, h => by simp [bares] at h
  | a :: l, [], _, h => by simp [bares] at h
  | a :: l, b :: l', n, h => by
    unfold bares at h
    rw [List.map_cons, List.map_cons, List.cons.injEq] at h
    have hk : a.kind = b.kind := by have e := congrArg Tok.kind h.1; exact e
    have ht : a.text = b.text := by have e := congrArg Tok.text h.1; exact e
    have ih : ∀ m, (deepGo l m).isSome = (deepGo l' m).isSome := fun m => deepGo_bare l l' m h.2
    simp only [deepGo, hk, ht]
    split
    · exact ih _
    split
    · split
      · rfl
      · exact ih _
    split
    · exact ih _
    · exact ih _

theorem scan_spaced {ls : List (List UInt8)} (hnl : ∀ s ∈ ls, ∀ b ∈ s, b ≠ 10) (ha : (srcA ls).length ≤ 8192) (hb : (srcB ls).length ≤ 8192) :
    (scanS (bts (srcA ls))).stage = (scanS (bts (srcB ls))).stage ∧ bares (scanS (bts (srcA ls))).toks = bares (scanS (bts (srcB ls))).toks := by
  obtain ⟨oa, sa, ea⟩ := scanS_ex (src := bts (srcA ls)) (by rw [bts_size]; exact ha)
  obtain ⟨ob, sb, eb⟩ := scanS_ex (src := bts (srcB ls)) (by rw [bts_size]; exact hb)
  rw [bts_list] at sa sb
  obtain ⟨h1, h2⟩ := lines_alike ls hnl 0 [] 0 [] oa ob rfl sa sb
  rw [ea, eb, ← h1]
  cases hk : oa.err.isOk with
  | false => exact ⟨rfl, rfl⟩
  | true =>
    simp only [if_true]
    have hl := h2 hk
    have hd := deepGo_bare oa.list ob.list 0 hl
    cases hda : deepGo oa.list 0 with
    | none =>
      cases hdb : deepGo ob.list 0 with
      | none => exact ⟨rfl, hl⟩
      | some q => rw [hda, hdb] at hd; cases hd
    | some p =>
      cases hdb : deepGo ob.list 0 with
      | none => rw [hda, hdb] at hd; cases hd
      | some q => exact ⟨rfl, rfl⟩

end Go.Proofs.ZL
