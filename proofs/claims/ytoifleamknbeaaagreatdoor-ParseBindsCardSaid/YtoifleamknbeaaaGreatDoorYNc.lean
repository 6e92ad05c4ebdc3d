/- Facts on the pure scan: a line's end parts a source; where a scan stands moves its tokens alone. -/
import Derived.Test.YtoifleamknbeaaaGreatDoorYNb
open Go Go.Am
namespace Go.Proofs.ZL
set_option maxRecDepth 100000
set_option linter.unusedSimpArgs false
set_option linter.unusedVariables false

def marksL : List (List UInt8) := marks.map fun m => m.data.toList
theorem inS_marks {r : List UInt8} : inS marks (bts r) = true ↔ r ∈ marksL := by
 rw [inS_iff]
 unfold marksL
 rw [List.mem_map]
 constructor
 ·intro h; exact ⟨_, h, bts_list r⟩
 ·rintro ⟨m, hm, rfl⟩; rw [of_list]; exact hm

theorem takeWhile_stop {p : UInt8 → Bool} {b : UInt8} (hb : p b = false) (x : List UInt8) : ∀ r : List UInt8, (r ++ b :: x).takeWhile p = r.takeWhile p
 | [] => by rw [List.nil_append, List.takeWhile_cons, if_neg (by rw [hb]; simp)]; rfl
 | a :: r => by
  rw [List.cons_append, List.takeWhile_cons, List.takeWhile_cons, takeWhile_stop hb x r]
theorem runL_stop {p : Int → Bool} {b : UInt8} (hb : p b.toNat = false) (x r : List UInt8) : runL p (r ++ b :: x) = runL p r := by
 unfold runL; rw [takeWhile_stop hb]
theorem runL_le (p : Int → Bool) (r : List UInt8) : runL p r ≤ r.length := (List.takeWhile_sublist _).length_le
theorem hd_app {r : List UInt8} (h : r ≠ []) (x : List UInt8) : hd (r ++ x) = hd r := by
 cases r with
 | nil => exact (h rfl).elim
 | cons a r => rfl

theorem textL_stop {k : Nat} {l : List Tok} {b : UInt8} (hb : b = 10 ∨ b = 32) (x : List UInt8) (hx : b = 32 → ∀ i out, ∃ j, textL k l (b :: x) i out = ⟨.stuck j, k, l⟩) : ∀ (m : Nat) (r : List UInt8) (i : Nat) (out : List Int), r.length ≤ m →
  (b = 10 → textL k l (r ++ b :: x) i out = textL k l r i out) ∧
  ((textL k l r i out).err.isOk = true → textL k l (r ++ b :: x) i out = textL k l r i out) ∧
  ((textL k l r i out).err.isOk = false → (textL k l (r ++ b :: x) i out).err.isOk = false)
 | m, [], i, out, _ => by
  refine ⟨?_, ?_, ?_⟩
  ·rintro rfl
   cases x <;> (simp only [List.nil_append]; unfold textL; rfl)
  ·intro h; simp [textL, SErr.isOk] at h
  ·intro _
   rcases hb with rfl | rfl
   ·cases x <;> (simp only [List.nil_append]; unfold textL; rfl)
   ·obtain ⟨j, hj⟩ := hx rfl i out
    rw [List.nil_append, hj]; rfl
 | 0, a :: r, _, _, h => by simp at h
 | m + 1, [c], i, out, _ => by
  rw [List.cons_append, List.nil_append]
  have hb3 : ¬((b.toNat : Int) = 110 ∨ (b.toNat : Int) = 34 ∨ (b.toNat : Int) = 92) := by rcases hb with rfl | rfl <;> decide
  have ih := textL_stop hb x hx m [] (i + 1) (out ++ [(c.toNat : Int)]) (by simp)
  rw [List.nil_append] at ih
  unfold textL
  by_cases c1 : (c.toNat : Int) = 34
  ·rw [if_pos c1, if_pos c1]; exact ⟨fun _ => rfl, fun _ => rfl, fun h => h⟩
  rw [if_neg c1, if_neg c1]
  by_cases c2 : (c.toNat : Int) = 92
  ·rw [if_pos c2, if_pos c2, if_neg hb3]; exact ⟨fun _ => rfl, fun _ => rfl, fun h => h⟩
  rw [if_neg c2, if_neg c2]
  by_cases c3 : (c.toNat : Int) < 32 ∨ 126 < (c.toNat : Int)
  ·rw [if_pos c3, if_pos c3]; exact ⟨fun _ => rfl, fun _ => rfl, fun h => h⟩
  ·rw [if_neg c3, if_neg c3]
   have e : textL k l [] (i + 1) (out ++ [(c.toNat : Int)]) = ⟨.stuck (i + 1), k, l⟩ := by unfold textL; rfl
   rw [e] at ih
   exact ih
 | m + 1, c :: d :: r, i, out, h => by
  rw [List.cons_append, List.cons_append]
  have ih1 := textL_stop hb x hx m (d :: r) (i + 1) (out ++ [(c.toNat : Int)]) (by simp at h ⊢; omega)
  have ih2 := textL_stop hb x hx m r (i + 2) (out ++ [if (d.toNat : Int) = 110 then 10 else (d.toNat : Int)]) (by simp at h ⊢; omega)
  rw [List.cons_append] at ih1
  unfold textL
  by_cases c1 : (c.toNat : Int) = 34
  ·rw [if_pos c1, if_pos c1]; exact ⟨fun _ => rfl, fun _ => rfl, fun h => h⟩
  rw [if_neg c1, if_neg c1]
  by_cases c2 : (c.toNat : Int) = 92
  ·rw [if_pos c2, if_pos c2]
   by_cases c4 : (d.toNat : Int) = 110 ∨ (d.toNat : Int) = 34 ∨ (d.toNat : Int) = 92
   ·rw [if_pos c4, if_pos c4]; exact ih2
   ·rw [if_neg c4, if_neg c4]; exact ⟨fun _ => rfl, fun _ => rfl, fun h => h⟩
  rw [if_neg c2, if_neg c2]
  by_cases c3 : (c.toNat : Int) < 32 ∨ 126 < (c.toNat : Int)
  ·rw [if_pos c3, if_pos c3]; exact ⟨fun _ => rfl, fun _ => rfl, fun h => h⟩
  ·rw [if_neg c3, if_neg c3]; exact ih1

theorem no2 {b : UInt8} (hb : b = 10 ∨ b = 32) (c : UInt8) : inS marks (bts [c, b]) = false := by
 rw [← Bool.not_eq_true, inS_marks]
 intro h
 rcases hb with rfl | rfl <;> simp [marksL, marks] at h

theorem markL_stop {b : UInt8} (hb : b = 10 ∨ b = 32) {r : List UInt8} (hr : r ≠ []) (x : List UInt8) : markL (r ++ b :: x) = markL r := by
 match r, hr with
 | [c], _ =>
  unfold markL
  have h1 : ([c] ++ b :: x).take 2 = [c, b] := by simp
  have h2 : ([c] ++ b :: x).take 1 = [c] := by simp
  rw [h1, h2, no2 hb]
  simp
 | c :: d :: r, _ =>
  unfold markL
  have h1 : (c :: d :: r ++ b :: x).take 2 = [c, d] := by simp
  have h2 : (c :: d :: r ++ b :: x).take 1 = [c] := by simp
  rw [h1, h2]
  simp

theorem take2_stop {b : UInt8} (hb : b ≠ 47) {r : List UInt8} (hr : r ≠ []) (x : List UInt8) : (r ++ b :: x).take 2 = [47, 47] ↔ r.take 2 = [47, 47] := by
 match r, hr with
 | [c], _ => simp [hb]
 | c :: d :: r, _ => simp

theorem nameL_stop {b : UInt8} (hb : alnumN b.toNat = false) (r x : List UInt8) (k : Nat) (l : List Tok) : nameL (r ++ b :: x) k l = nameL r k l := by
 unfold nameL
 rw [runL_stop hb, List.take_append_of_le_length (runL_le _ _)]
theorem numberL_stop {b : UInt8} (hb : digitN b.toNat = false) (hb2 : letterN b.toNat = false) {r : List UInt8} (hr : r ≠ []) (x : List UInt8) (k : Nat) (l : List Tok) : numberL (r ++ b :: x) k l = numberL r k l := by
 unfold numberL
 rw [runL_stop hb, List.take_append_of_le_length (runL_le _ _), hd_app hr, List.drop_append_of_le_length (runL_le _ _)]
 have hc : (runL digitN r < (r ++ b :: x).length ∧ letterN (hd (r.drop (runL digitN r) ++ b :: x)) = true) ↔ (runL digitN r < r.length ∧ letterN (hd (r.drop (runL digitN r))) = true) := by
  rcases Nat.lt_or_ge (runL digitN r) r.length with h | h
  ·rw [hd_app (by intro e; have := congrArg List.length e; simp at this; omega)]
   simp; omega
  ·rw [List.drop_eq_nil_of_le h, List.nil_append]
   constructor
   ·rintro ⟨_, h2⟩; rw [hd_cons, hb2] at h2; cases h2
   ·rintro ⟨h1, _⟩; omega
 simp only [hc]

theorem nextL_stop {r : List UInt8} (hr : r ≠ []) (x : List UInt8) (k : Nat) (l : List Tok) : nextL (r ++ 10 :: x) k l = nextL r k l := by
 have ht : (r ++ 10 :: x).tail = r.tail ++ 10 :: x := by cases r with
  | nil => exact (hr rfl).elim
  | cons a r => rfl
 unfold nextL
 rw [hd_app hr, runL_stop (p := noLine) (b := 10) rfl, nameL_stop rfl, numberL_stop rfl rfl hr, ht, (textL_stop (.inl rfl) x (fun h => by cases h) _ r.tail (k + 1) [] (Nat.le_refl _)).1 rfl, markL_stop (.inl rfl) hr]
 simp only [take2_stop (b := 10) (by decide) hr x]

theorem Scans.join {r : List UInt8} {k : Nat} {l : List Tok} {o : Out} (h : Scans r k l o) (x : List UInt8) :
  (o.err.isOk = false → Scans (r ++ 10 :: x) k l o) ∧
  (o.err.isOk = true → ∃ l', o = ⟨.ok, k + r.length, lineL (k + r.length) l' ++ [⟨6, (⟨#[]⟩ : ByteArray), 0, (k + r.length : Nat)⟩]⟩ ∧ ∀ o2, Scans x (k + r.length + 1) (lineL (k + r.length) l') o2 → Scans (r ++ 10 :: x) k l o2) := by
 induction h with
 | done k l =>
  refine ⟨fun h => by simp [SErr.isOk] at h, fun _ => ⟨l, rfl, fun o2 h2 => ?_⟩⟩
  rw [List.nil_append]
  exact .step 1 (lineL k l) (by omega) (by simp) (nextL_line rfl k l) h2
 | @fail r k l hne he =>
  refine ⟨fun _ => ?_, fun h => by rw [he] at h; cases h⟩
  rw [← nextL_stop hne x]
  exact .fail (by simp) (by rw [nextL_stop hne]; exact he)
 | @step r k l o n l' h0 hn he hs ih =>
  have hne : r ≠ [] := by intro e; subst e; simp at hn; omega
  have hnx : nextL (r ++ 10 :: x) k l = ⟨.ok, k + n, l'⟩ := by rw [nextL_stop hne, he]
  have hdr : (r ++ 10 :: x).drop n = r.drop n ++ 10 :: x := List.drop_append_of_le_length hn
  have hlen : k + n + (r.drop n).length = k + r.length := by rw [List.length_drop]; omega
  rw [hlen] at ih
  refine ⟨fun h => .step n l' h0 (by simp; omega) hnx (by rw [hdr]; exact ih.1 h), fun h => ?_⟩
  obtain ⟨l2, h1, h2⟩ := ih.2 h
  exact ⟨l2, h1, fun o2 h3 => .step n l' h0 (by simp; omega) hnx (by rw [hdr]; exact h2 o2 h3)⟩

def Tok.sh (K : Nat) (t : Tok) : Tok := { t with pos := t.pos + K }
def SErr.sh (K : Nat) : SErr → SErr
 | .ok => .ok
 | .stuck k => .stuck (K + k)
 | .long w k => .long w (K + k)
def Out.sh (K : Nat) (L : List Tok) (o : Out) : Out := ⟨o.err.sh K, K + o.pos, L ++ o.list.map (Tok.sh K)⟩

theorem endsL_sh {K : Nat} {L : List Tok} (hL : endsL L = false) (l : List Tok) : endsL (L ++ l.map (Tok.sh K)) = endsL l := by
 rcases List.eq_nil_or_concat l with rfl | ⟨l', t, rfl⟩
 ·rw [List.map_nil, List.append_nil, hL]; rfl
 ·unfold endsL
  simp [List.concat_eq_append, List.map_append, ← List.append_assoc, endsTok, Tok.sh]
theorem lineL_sh {K : Nat} {L : List Tok} (hL : endsL L = false) (k : Nat) (l : List Tok) : lineL (K + k) (L ++ l.map (Tok.sh K)) = L ++ (lineL k l).map (Tok.sh K) := by
 unfold lineL
 rw [endsL_sh hL]
 split
 ·simp [Tok.sh, Int.add_comm]
 ·rfl
theorem textL_sh {K : Nat} {L : List Tok} {k : Nat} {l : List Tok} : ∀ (m : Nat) (r : List UInt8) (i : Nat) (out : List Int), r.length ≤ m → textL (K + k) (L ++ l.map (Tok.sh K)) r (K + i) out = (textL k l r i out).sh K L
 | m, [], i, out, _ => by unfold textL; rfl
 | 0, a :: r, _, _, h => by simp at h
 | m + 1, [c], i, out, _ => by
  unfold textL
  by_cases c1 : (c.toNat : Int) = 34
  ·rw [if_pos c1, if_pos c1]
   split
   ·rfl
   ·simp [Out.sh, SErr.sh, Tok.sh, Int.add_comm, Nat.add_assoc]
  rw [if_neg c1, if_neg c1]
  split
  ·rfl
  split
  ·rfl
  ·rfl
 | m + 1, c :: d :: r, i, out, h => by
  have ih1 := textL_sh (K := K) (L := L) (k := k) (l := l) m (d :: r) (i + 1) (out ++ [(c.toNat : Int)]) (by simp at h ⊢; omega)
  have ih2 := textL_sh (K := K) (L := L) (k := k) (l := l) m r (i + 2) (out ++ [if (d.toNat : Int) = 110 then 10 else (d.toNat : Int)]) (by simp at h ⊢; omega)
  unfold textL
  by_cases c1 : (c.toNat : Int) = 34
  ·rw [if_pos c1, if_pos c1]
   split
   ·rfl
   ·simp [Out.sh, SErr.sh, Tok.sh, Int.add_comm, Nat.add_assoc]
  rw [if_neg c1, if_neg c1]
  by_cases c2 : (c.toNat : Int) = 92
  ·rw [if_pos c2, if_pos c2]
   by_cases c4 : (d.toNat : Int) = 110 ∨ (d.toNat : Int) = 34 ∨ (d.toNat : Int) = 92
   ·rw [if_pos c4, if_pos c4]; exact ih2
   ·rw [if_neg c4, if_neg c4]; rfl
  rw [if_neg c2, if_neg c2]
  by_cases c3 : (c.toNat : Int) < 32 ∨ 126 < (c.toNat : Int)
  ·rw [if_pos c3, if_pos c3]; rfl
  ·rw [if_neg c3, if_neg c3]; exact ih1

theorem nextL_sh {K : Nat} {L : List Tok} (hL : endsL L = false) (r : List UInt8) (k : Nat) (l : List Tok) : nextL r (K + k) (L ++ l.map (Tok.sh K)) = (nextL r k l).sh K L := by
 have ht := textL_sh (K := K) (L := L) (k := k) (l := l) _ r.tail (k + 1) [] (Nat.le_refl _)
 unfold nextL
 split
 ·rfl
 split
 ·rw [lineL_sh hL]; rfl
 split
 ·simp [Out.sh, SErr.sh, Nat.add_assoc]
 split
 ·unfold nameL
  split
  ·rfl
  ·simp [Out.sh, SErr.sh, Tok.sh, Int.add_comm, Nat.add_assoc]
 split
 ·unfold numberL
  split
  ·rfl
  split
  ·rfl
  split
  ·simp [Out.sh, SErr.sh, Nat.add_assoc]
  ·simp [Out.sh, SErr.sh, Tok.sh, Int.add_comm, Nat.add_assoc]
 split
 ·exact ht
 split
 ·rfl
 ·simp [Out.sh, SErr.sh, Tok.sh, Int.add_comm, Nat.add_assoc]

theorem SErr.sh_ok (K : Nat) (e : SErr) : (e.sh K).isOk = e.isOk := by cases e <;> rfl

theorem Scans.sh {K : Nat} {L : List Tok} (hL : endsL L = false) {r : List UInt8} {k : Nat} {l : List Tok} {o : Out} (h : Scans r k l o) : Scans r (K + k) (L ++ l.map (Tok.sh K)) (o.sh K L) := by
 induction h with
 | done k l =>
  have := Scans.done (K + k) (L ++ l.map (Tok.sh K))
  rw [lineL_sh hL] at this
  simpa [Out.sh, SErr.sh, Tok.sh, Int.add_comm] using this
 | @fail r k l hne he =>
  rw [← nextL_sh hL]
  exact .fail hne (by rw [nextL_sh hL]; show (SErr.sh K _).isOk = false; rw [SErr.sh_ok]; exact he)
 | @step r k l o n l' h0 hn he hs ih =>
  refine .step n (L ++ l'.map (Tok.sh K)) h0 hn ?_ (by rw [Nat.add_assoc]; exact ih)
  rw [nextL_sh hL, he]
  simp [Out.sh, SErr.sh, Nat.add_assoc]

theorem endsL_line (k : Nat) (l : List Tok) : endsL (lineL k l) = false := by
 unfold lineL
 split
 ·unfold endsL
  rw [List.getLast?_append]
  rfl
 ·rename_i h; simpa using h

theorem textL_list {k : Nat} {l : List Tok} : ∀ (m : Nat) (r : List UInt8) (i : Nat) (out : List Int), r.length ≤ m → (textL k l r i out).list = l ∨ ∃ t, (textL k l r i out).list = l ++ [t] ∧ t.pos = (k : Int)
 | m, [], i, out, _ => by unfold textL; exact .inl rfl
 | 0, a :: r, _, _, h => by simp at h
 | m + 1, [c], i, out, _ => by
  unfold textL
  split
  ·split
   ·exact .inl rfl
   ·exact .inr ⟨_, rfl, rfl⟩
  split
  ·exact .inl rfl
  split
  ·exact .inl rfl
  ·exact .inl rfl
 | m + 1, c :: d :: r, i, out, h => by
  unfold textL
  split
  ·split
   ·exact .inl rfl
   ·exact .inr ⟨_, rfl, rfl⟩
  split
  ·split
   ·exact textL_list m r _ _ (by simp at h ⊢; omega)
   ·exact .inl rfl
  split
  ·exact .inl rfl
  ·exact textL_list m (d :: r) _ _ (by simp at h ⊢; omega)
theorem lineL_list (k : Nat) (l : List Tok) : lineL k l = l ∨ ∃ t, lineL k l = l ++ [t] ∧ t.pos = (k : Int) := by
 unfold lineL
 split
 ·exact .inr ⟨_, rfl, rfl⟩
 ·exact .inl rfl
theorem nextL_list (r : List UInt8) (k : Nat) (l : List Tok) : (nextL r k l).list = l ∨ ∃ t, (nextL r k l).list = l ++ [t] ∧ t.pos = (k : Int) := by
 unfold nextL
 split
 ·exact .inl rfl
 split
 ·exact lineL_list k l
 split
 ·exact .inl rfl
 split
 ·unfold nameL
  split
  ·exact .inl rfl
  ·exact .inr ⟨_, rfl, rfl⟩
 split
 ·unfold numberL
  split
  ·exact .inl rfl
  split
  ·exact .inl rfl
  split
  ·exact .inl rfl
  ·exact .inr ⟨_, rfl, rfl⟩
 split
 ·exact textL_list _ _ _ _ (Nat.le_refl _)
 split
 ·exact .inl rfl
 ·exact .inr ⟨_, rfl, rfl⟩

theorem Scans.pos {r : List UInt8} {k : Nat} {l : List Tok} {o : Out} (h : Scans r k l o) : (∀ t ∈ l, 0 ≤ t.pos ∧ t.pos ≤ k) → ∀ t ∈ o.list, 0 ≤ t.pos ∧ t.pos ≤ (k + r.length : Nat) := by
 have hx : ∀ {k m : Nat} {l l' : List Tok}, (l' = l ∨ ∃ t, l' = l ++ [t] ∧ t.pos = (k : Int)) → k ≤ m → (∀ t ∈ l, 0 ≤ t.pos ∧ t.pos ≤ k) → ∀ t ∈ l', 0 ≤ t.pos ∧ t.pos ≤ (m : Nat) := by
  rintro k m l l' (rfl | ⟨t, rfl, ht⟩) hm hl u hu
  ·have := hl u hu; omega
  ·rcases List.mem_append.1 hu with hu | hu
   ·have := hl u hu; omega
   ·rw [List.mem_singleton.1 hu]; omega
 induction h with
 | done k l =>
  intro hl t ht
  rcases List.mem_append.1 ht with ht | ht
  ·exact hx (lineL_list k l) (by simp) hl t ht
  ·rw [List.mem_singleton.1 ht]; simp only [List.length_nil]; omega
 | @fail r k l hne he =>
  intro hl
  exact hx (nextL_list r k l) (by omega) hl
 | @step r k l o n l' h0 hn he hs ih =>
  intro hl
  have hl' := nextL_list r k l
  rw [he] at hl'
  have := ih (hx hl' (by omega) hl)
  intro t ht
  have h2 := this t ht
  rw [List.length_drop] at h2
  omega

theorem scanS_ex {src : ByteArray} (hz : src.size ≤ 8192) : ∃ o, Scans src.data.toList 0 [] o ∧ scanS src = if o.err.isOk then (match deepGo o.list 0 with | some p => ⟨[], 3, p⟩ | none => ⟨o.list, 0, 0⟩) else ⟨[], 2, o.err.pos⟩ := by
 obtain ⟨o, ho⟩ := Scans.total _ src.data.toList 0 [] (Nat.le_refl _)
 exact ⟨o, ho, scanS_of hz ho⟩

theorem scanS_len (src : ByteArray) : (scanS src).toks.length ≤ 8194 := by
 unfold scanS
 split
 ·simp
 ·rename_i hz
  split
  ·rename_i hk
   split
   ·simp
   ·have := allGo_len (src := src) (src.size + 1) 0 [] (by omega) (by simp) hk
    unfold ZL.allS
    simp only
    omega
  ·simp

theorem scan_join {a b : List UInt8} (hz : a.length + b.length ≤ 8000) :
  ((scanS (bts a)).stage = 2 → scanS (bts (a ++ 10 :: b)) = scanS (bts a)) ∧
  ((scanS (bts a)).stage = 0 → (scanS (bts b)).stage = 0 → ∃ L t, (scanS (bts a)).toks = L ++ [t] ∧ (deepGo (L ++ (scanS (bts b)).toks.map (Tok.sh (a.length + 1))) 0 ≠ none ∨
   (scanS (bts (a ++ 10 :: b))).stage = 0 ∧ (scanS (bts (a ++ 10 :: b))).toks = L ++ (scanS (bts b)).toks.map (Tok.sh (a.length + 1)))) ∧
  (∀ t ∈ (scanS (bts b)).toks, 0 ≤ t.pos ∧ t.pos ≤ 8192) := by
 obtain ⟨oa, sa, ea⟩ := scanS_ex (src := bts a) (by rw [bts_size]; omega)
 obtain ⟨ob, sb, eb⟩ := scanS_ex (src := bts b) (by rw [bts_size]; omega)
 rw [bts_list] at sa sb
 have hj := sa.join b
 have hzc : (bts (a ++ 10 :: b)).size ≤ 8192 := by rw [bts_size]; simp; omega
 have hpb := sb.pos (by simp)
 refine ⟨fun h2 => ?_, fun h0 h0' => ?_, fun t ht => ?_⟩
 ·cases hk : oa.err.isOk with
  | true =>
   rw [ea, hk] at h2
   simp only [if_true] at h2
   split at h2 <;> cases h2
  | false =>
   have ec := scanS_of hzc (by rw [bts_list]; exact hj.1 hk)
   rw [ec, ea, hk]
   simp only [Bool.false_eq_true, if_false]
 ·have hka : oa.err.isOk = true := by
   cases hk : oa.err.isOk with
   | true => rfl
   | false => rw [ea, hk] at h0; simp at h0
  have hkb : ob.err.isOk = true := by
   cases hk : ob.err.isOk with
   | true => rfl
   | false => rw [eb, hk] at h0'; simp at h0'
  obtain ⟨l', hoa, hgo⟩ := hj.2 hka
  simp only [Nat.zero_add] at hoa hgo
  have hs2 := hgo _ (by simpa using sb.sh (K := a.length + 1) (endsL_line a.length l'))
  have ec := scanS_of hzc (by rw [bts_list]; exact hs2)
  have hkc : (ob.sh (a.length + 1) (lineL a.length l')).err.isOk = true := by
   show (SErr.sh _ _).isOk = true
   rw [SErr.sh_ok]; exact hkb
  rw [hkc] at ec
  rw [hka] at ea
  rw [hkb] at eb
  simp only [if_true] at ea eb ec
  cases hda : deepGo oa.list 0 with
  | some p => rw [hda] at ea; rw [ea] at h0; cases h0
  | none =>
   cases hdb : deepGo ob.list 0 with
   | some p => rw [hdb] at eb; rw [eb] at h0'; cases h0'
   | none =>
    rw [hda] at ea
    rw [hdb] at eb
    cases hdc : deepGo (ob.sh (a.length + 1) (lineL a.length l')).list 0 with
    | some p => rw [ea, eb, hoa]; exact ⟨_, _, rfl, .inl (by intro h; rw [show lineL a.length l' ++ ob.list.map (Tok.sh (a.length + 1)) = (ob.sh (a.length + 1) (lineL a.length l')).list from rfl, hdc] at h; cases h)⟩
    | none =>
     rw [hdc] at ec
     rw [ea, eb, ec, hoa]
     exact ⟨_, _, rfl, .inr ⟨rfl, rfl⟩⟩
 ·rw [eb] at ht
  split at ht
  ·split at ht
   ·cases ht
   ·have := hpb t ht
    omega
  ·cases ht

end Go.Proofs.ZL
