/- A source's tokens written anew, each behind a blank: their scan. -/
import Derived.Test.YtoifleamknbeaaaGreatDoorYWA
open Go Go.Am
namespace Go.Proofs.ZL
set_option maxRecDepth 100000
set_option linter.unusedSimpArgs false
set_option linter.unusedVariables false

def zb (z : Int) : UInt8 := UInt8.ofNat z.toNat
theorem zb_nat {z : Int} (h : 0 ≤ z ∧ z ≤ 255) : ((zb z).toNat : Int) = z := by
 unfold zb
 rw [UInt8.toNat_ofNat']
 omega
def quo (z : Int) : List UInt8 := if z = 10 then [92, 110] else if z = 34 ∨ z = 92 then [92, zb z] else [zb z]
def quos (zs : List Int) : List UInt8 := zs.flatMap quo

theorem textL_quo {k : Nat} {l : List Tok} {z : Int} (hg : z = 10 ∨ 32 ≤ z ∧ z ≤ 126) {r : List UInt8} (hne : r ≠ []) (i : Nat) (out : List Int) :
  textL k l (quo z ++ r) i out = textL k l r (i + (quo z).length) (out ++ [z]) := by
 have hz := zb_nat (z := z) (by omega)
 unfold quo
 by_cases h10 : z = 10
 ·subst h10
  rw [if_pos rfl]
  simp only [List.cons_append, List.nil_append, List.length_cons, List.length_nil]
  rw [textL]
  simp
 ·rw [if_neg h10]
  by_cases hq : z = 34 ∨ z = 92
  ·rw [if_pos hq]
   simp only [List.cons_append, List.nil_append, List.length_cons, List.length_nil]
   rw [textL]
   simp only [hz]
   rw [if_neg (by decide), if_pos (by decide), if_pos (by omega), if_neg (by omega)]
  ·rw [if_neg hq]
   cases r with
   | nil => exact (hne rfl).elim
   | cons d r =>
    simp only [List.cons_append, List.nil_append, List.length_cons, List.length_nil]
    rw [textL]
    simp only [hz]
    rw [if_neg (by omega), if_neg (by omega), if_neg (by omega)]
theorem textL_quos {k : Nat} {l : List Tok} (Y : List UInt8) : ∀ (zs : List Int) (i : Nat) (out : List Int), (∀ z ∈ zs, z = 10 ∨ 32 ≤ z ∧ z ≤ 126) → (out ++ zs).length ≤ 256 →
  textL k l (quos zs ++ 34 :: Y) i out = ⟨.ok, i + (quos zs).length + 1, l ++ [⟨3, strOf (out ++ zs), 0, k⟩]⟩
 | [], i, out, _, h => by
  rw [List.append_nil] at h ⊢
  show textL k l (34 :: Y) i out = _
  cases Y with
  | nil =>
   unfold textL
   rw [if_pos (by decide), if_neg (by omega)]
   rfl
  | cons y Y =>
   unfold textL
   rw [if_pos (by decide), if_neg (by omega)]
   rfl
 | z :: zs, i, out, h2, h => by
  have ih := textL_quos (k := k) (l := l) Y zs (i + (quo z).length) (out ++ [z]) (fun y hy => h2 y (List.mem_cons_of_mem _ hy)) (by simp at h ⊢; omega)
  have e : quos (z :: zs) ++ 34 :: Y = quo z ++ (quos zs ++ 34 :: Y) := by unfold quos; rw [List.flatMap_cons, List.append_assoc]
  have e2 : (quos (z :: zs)).length = (quo z).length + (quos zs).length := by unfold quos; rw [List.flatMap_cons, List.length_append]
  rw [e, textL_quo (h2 z (List.mem_cons_self ..)) (by simp), ih, e2, List.append_assoc]
  simp only [List.singleton_append, Nat.add_assoc]

def Tok.bare (t : Tok) : Tok := { t with pos := 0 }
def bares (l : List Tok) : List Tok := l.map Tok.bare
theorem bares_app (a b : List Tok) : bares (a ++ b) = bares a ++ bares b := List.map_append
theorem endsL_bare {l l' : List Tok} (h : bares l = bares l') : endsL l = endsL l' := by
 have h1 : ∀ x : List Tok, endsL (bares x) = endsL x := by
  intro x
  unfold endsL bares
  rw [List.getLast?_map]
  cases x.getLast? <;> rfl
 rw [← h1 l, ← h1 l', h]
theorem deepGo_bare : ∀ (l l' : List Tok) (n : Int), bares l = bares l' → (deepGo l n).isSome = (deepGo l' n).isSome
 | [], [], _, _ => rfl
 | [], b :: l', _, h => by simp [bares] at h
 | a :: l, [], _, h => by simp [bares] at h
 | a :: l, b :: l', n, h => by
  unfold bares at h
  rw [List.map_cons, List.map_cons, List.cons.injEq] at h
  have hk : a.kind = b.kind := by have e := congrArg Tok.kind h.1; exact e
  have ht : a.text = b.text := by have e := congrArg Tok.text h.1; exact e
  have ih : ∀ m, (deepGo l m).isSome = (deepGo l' m).isSome := fun m => deepGo_bare l l' m h.2
  simp only [deepGo, hk, ht]
  split
  ·exact ih _
  split
  ·split
   ·rfl
   ·exact ih _
  split
  ·exact ih _
  ·exact ih _

def zsOf (x : ByteArray) : List Int := x.data.toList.map fun b => (b.toNat : Int)
theorem zsOf_strOf {zs : List Int} (h : ∀ z ∈ zs, z = 10 ∨ 32 ≤ z ∧ z ≤ 126) : zsOf (strOf zs) = zs := by
 unfold zsOf strOf
 simp only [List.map_map]
 induction zs with
 | nil => rfl
 | cons z zs ih =>
  have hz := h z List.mem_cons_self
  rw [List.map_cons, ih fun y hy => h y (List.mem_cons_of_mem _ hy)]
  congr 1
  simp only [Function.comp]
  rw [UInt8.toNat_ofNat']
  omega

def rend (t : Tok) : List UInt8 := if t.kind = 3 then 32 :: 34 :: (quos (zsOf t.text) ++ [34]) else if t.kind = 5 ∧ t.num = 1 then [32, 47, 47, 32, 59, 10, 10] else 9 :: t.text.data.toList
def Blank (Y : List UInt8) : Prop := ∃ y Z, Y = y :: Z ∧ (y = 9 ∨ y = 32)
theorem rend_blank (t : Tok) (Y : List UInt8) : Blank (rend t ++ Y) := by
 unfold rend
 split
 ·exact ⟨32, _, rfl, .inr rfl⟩
 split
 ·exact ⟨32, _, rfl, .inr rfl⟩
 ·exact ⟨9, _, rfl, .inl rfl⟩

theorem marks_shape : marks.all (fun m => decide ((m.data.toList.length = 1 ∨ m.data.toList.length = 2) ∧ hd m.data.toList ≠ 32 ∧ hd m.data.toList ≠ 9 ∧ hd m.data.toList ≠ 10 ∧ hd m.data.toList ≠ 34 ∧ m.data.toList ≠ [47, 47]) && !letterN (hd m.data.toList) && !digitN (hd m.data.toList) && m.data.toList.all (fun b => decide (b ≠ 9 ∧ b ≠ 32))) = true := by decide +kernel

theorem markL_blank {u : List UInt8} (hm : inS marks (bts u) = true) {y : UInt8} (hy : y = 9 ∨ y = 32) (Z : List UInt8) : markL (u ++ y :: Z) = u ∧ (u ++ y :: Z).take 2 ≠ [47, 47] := by
 have h := List.all_eq_true.1 marks_shape _ (inS_iff.1 hm)
 simp only [Bool.and_eq_true, decide_eq_true_eq, bts_list] at h
 obtain ⟨⟨⟨⟨hl, _, _, _, _, hne⟩, _⟩, _⟩, _⟩ := h
 have hno : ∀ c : UInt8, inS marks (bts [c, y]) = false := fun c => by
  rw [← Bool.not_eq_true]
  intro h2
  have h3 := List.all_eq_true.1 marks_shape _ (inS_iff.1 h2)
  simp only [Bool.and_eq_true, bts_list] at h3
  have := of_decide_eq_true (List.all_eq_true.1 h3.2 y (by simp))
  rcases hy with rfl | rfl
  ·exact this.1 rfl
  ·exact this.2 rfl
 match u, hl, hne, hm with
 | [c], _, _, hm =>
  constructor
  ·unfold markL
   have h1 : ([c] ++ y :: Z).take 2 = [c, y] := by simp
   have h2 : ([c] ++ y :: Z).take 1 = [c] := by simp
   rw [h1, h2, hno, hm]
   simp
  ·rcases hy with rfl | rfl <;> simp
 | [c, d], _, hne, hm =>
  constructor
  ·unfold markL
   have h1 : ([c, d] ++ y :: Z).take 2 = [c, d] := by simp
   rw [h1, hm]
   simp
  ·simpa using hne
 | [], hl, _, _ => simp at hl
 | _ :: _ :: _ :: _, hl, _, _ => simp at hl

theorem rend_scan {t : Tok} {A A' : List Tok} (hA : bares A = bares A') (hv : Val A t) {Y : List UInt8} (hY : Blank Y) (k : Nat) :
  ∃ t', t'.bare = t.bare ∧ ∀ o, Scans Y (k + (rend t).length) (A' ++ [t']) o → Scans (rend t ++ Y) k A' o := by
 obtain ⟨y, Z, rfl, hy⟩ := hY
 have hyn : ∀ {p : Int → Bool}, p 9 = false → p 32 = false → ∀ b, (y :: Z).head? = some b → p b.toNat = false := fun h9 h32 b hb => by
  cases hb; rcases hy with rfl | rfl
  ·exact h9
  ·exact h32
 rcases hv with ⟨hk, hn, zs, hx, hz1, hz2⟩ | ⟨hk, hn, hx, he⟩ | ⟨hk, hn, hx⟩ | ⟨hk, hn, u, hx, hne, hl, ha, h24, hw⟩ | ⟨hk, u, hx, hne, ha, h18, h0, hn⟩
 ·have hr : rend t = 32 :: 34 :: (quos zs ++ [34]) := by unfold rend; rw [if_pos hk, hx, zsOf_strOf hz2]
  rw [hr]
  refine ⟨⟨3, strOf zs, 0, ((k + 1 : Nat) : Int)⟩, by unfold Tok.bare; rw [hk, hx, hn], fun o ho => ?_⟩
  refine .step 1 A' (by omega) (by simp) (nextL_blank (.inl rfl) _ _) ?_
  simp only [List.cons_append, List.drop_succ_cons, List.drop_zero]
  refine .step ((quos zs).length + 2) (A' ++ [⟨3, strOf zs, 0, ((k + 1 : Nat) : Int)⟩]) (by omega) (by simp) ?_ ?_
  ·rw [nextL_text rfl, List.tail_cons, List.append_assoc, List.singleton_append, textL_quos _ zs _ [] hz2 (by simpa using hz1)]
   simp; omega
  ·have e : (34 :: (quos zs ++ [34] ++ y :: Z)).drop ((quos zs).length + 2) = y :: Z := by
    rw [List.drop_succ_cons, List.append_assoc, List.drop_append, List.drop_eq_nil_of_le (by omega)]
    simp
   rw [e]
   have e2 : k + (32 :: 34 :: (quos zs ++ [34])).length = k + 1 + ((quos zs).length + 2) := by simp; omega
   rw [e2] at ho
   exact ho
 ·have hr : rend t = [32, 47, 47, 32, 59, 10, 10] := by unfold rend; rw [if_neg (by omega), if_pos ⟨hk, hn⟩]
  rw [hr]
  have he' : endsL A' = true := by rw [← endsL_bare hA]; exact he
  refine ⟨⟨5, (⟨#[59]⟩ : ByteArray), 1, ((k + 5 : Nat) : Int)⟩, by unfold Tok.bare; rw [hk, hx, hn], fun o ho => ?_⟩
  refine .step 1 A' (by omega) (by simp) (nextL_blank (.inl rfl) _ _) ?_
  simp only [List.cons_append, List.nil_append, List.drop_succ_cons, List.drop_zero]
  refine .step 4 A' (by omega) (by simp) ?_ ?_
  ·unfold nextL
   rw [hd_cons, if_neg (by decide), if_neg (by decide), if_pos (by simp)]
   rfl
  simp only [List.drop_succ_cons, List.drop_zero]
  have e1 : lineL (k + 1 + 4) A' = A' ++ [⟨5, (⟨#[59]⟩ : ByteArray), 1, ((k + 5 : Nat) : Int)⟩] := by unfold lineL; rw [if_pos he']
  refine .step 1 (A' ++ [⟨5, (⟨#[59]⟩ : ByteArray), 1, ((k + 5 : Nat) : Int)⟩]) (by omega) (by simp) (by rw [nextL_line rfl, e1]) ?_
  simp only [List.drop_succ_cons, List.drop_zero]
  have e2 : lineL (k + 1 + 4 + 1) (A' ++ [⟨5, (⟨#[59]⟩ : ByteArray), 1, ((k + 5 : Nat) : Int)⟩]) = A' ++ [⟨5, (⟨#[59]⟩ : ByteArray), 1, ((k + 5 : Nat) : Int)⟩] := by
   unfold lineL endsL
   rw [List.getLast?_append]
   rfl
  refine .step 1 _ (by omega) (by simp) (by rw [nextL_line rfl, e2]) ?_
  simp only [List.drop_succ_cons, List.drop_zero]
  exact ho
 ·have hr : rend t = 9 :: t.text.data.toList := by unfold rend; rw [if_neg (by omega), if_neg (by omega)]
  rw [hr]
  generalize hu : t.text.data.toList = u
  have hbt : t.text = bts u := by rw [← hu, of_list]
  rw [hbt] at hx
  obtain ⟨m1, m2⟩ := markL_blank hx hy Z
  have h := List.all_eq_true.1 marks_shape _ (inS_iff.1 hx)
  simp only [Bool.and_eq_true, decide_eq_true_eq, bts_list, Bool.not_eq_true'] at h
  obtain ⟨⟨⟨⟨hl, h32, h9, h10, h34, _⟩, hlet⟩, hdig⟩, _⟩ := h
  have hune : u ≠ [] := by intro e; subst e; simp at hl
  refine ⟨⟨5, bts u, 0, ((k + 1 : Nat) : Int)⟩, by unfold Tok.bare; rw [hk, hbt, hn], fun o ho => ?_⟩
  refine .step 1 A' (by omega) (by simp) (nextL_blank (.inr rfl) _ _) ?_
  simp only [List.cons_append, List.drop_succ_cons, List.drop_zero]
  have hu1 : 1 ≤ u.length := List.length_pos_iff.2 hune
  refine .step u.length (A' ++ [⟨5, bts u, 0, ((k + 1 : Nat) : Int)⟩]) hu1 (by simp) ?_ ?_
  ·rw [nextL_mark (by rw [hd_app hune]; exact ⟨h32, h9, h10, h34⟩) m2 (by rw [hd_app hune]; exact hlet) (by rw [hd_app hune]; exact hdig) m1 hune]
  ·rw [List.drop_left' rfl]
   have e2 : k + (9 :: u).length = k + 1 + u.length := by simp; omega
   rw [e2] at ho
   exact ho
 ·have hr : rend t = 9 :: t.text.data.toList := by unfold rend; rw [if_neg (by omega), if_neg (by omega)]
  rw [hr, hx, bts_list]
  refine ⟨⟨t.kind, bts u, 0, ((k + 1 : Nat) : Int)⟩, by unfold Tok.bare; rw [hx, hn], fun o ho => ?_⟩
  refine .step 1 A' (by omega) (by simp) (nextL_blank (.inr rfl) _ _) ?_
  simp only [List.cons_append, List.drop_succ_cons, List.drop_zero]
  have hu1 : 1 ≤ u.length := List.length_pos_iff.2 hne
  have hrun : runL alnumN (u ++ y :: Z) = u.length := runL_all ha (hyn (by decide) (by decide))
  refine .step u.length (A' ++ [⟨t.kind, bts u, 0, ((k + 1 : Nat) : Int)⟩]) hu1 (by simp) ?_ ?_
  ·rw [nextL_name (by rw [hd_app hne]; exact hl)]
   unfold nameL
   rw [hrun, if_neg (by omega), List.take_left' rfl, hw, hx]
  ·rw [List.drop_left' rfl]
   have e2 : k + (9 :: u).length = k + 1 + u.length := by simp; omega
   rw [e2] at ho
   exact ho
 ·have hr : rend t = 9 :: t.text.data.toList := by unfold rend; rw [if_neg (by omega), if_neg (by omega)]
  rw [hr, hx, bts_list]
  refine ⟨⟨2, bts u, numL u 0, ((k + 1 : Nat) : Int)⟩, by unfold Tok.bare; rw [hk, hx, hn], fun o ho => ?_⟩
  refine .step 1 A' (by omega) (by simp) (nextL_blank (.inr rfl) _ _) ?_
  simp only [List.cons_append, List.drop_succ_cons, List.drop_zero]
  have hu1 : 1 ≤ u.length := List.length_pos_iff.2 hne
  have hrun : runL digitN (u ++ y :: Z) = u.length := runL_all ha (hyn (by decide) (by decide))
  have hhd : digitN (hd u) = true := by
   cases u with
   | nil => exact (hne rfl).elim
   | cons a u => exact ha a List.mem_cons_self
  refine .step u.length (A' ++ [⟨2, bts u, numL u 0, ((k + 1 : Nat) : Int)⟩]) hu1 (by simp) ?_ ?_
  ·rw [nextL_number (by rw [hd_app hne]; exact hhd)]
   unfold numberL
   rw [hrun, if_neg (by omega), hd_app hne, if_neg h0, List.drop_left' rfl, hd_cons, List.take_left' rfl]
   rw [if_neg (fun hc => by
    have := hc.2
    rcases hy with rfl | rfl
    ·exact absurd this (by decide)
    ·exact absurd this (by decide))]
  ·rw [List.drop_left' rfl]
   have e2 : k + (9 :: u).length = k + 1 + u.length := by simp; omega
   rw [e2] at ho
   exact ho

theorem all_scan : ∀ (ts A A' : List Tok) (k : Nat), bares A = bares A' → (∀ i t, ts[i]? = some t → Val (A ++ ts.take i) t) → ∀ Z, Blank Z →
  ∃ B', bares B' = bares ts ∧ ∀ o, Scans Z (k + (ts.flatMap rend).length) (A' ++ B') o → Scans (ts.flatMap rend ++ Z) k A' o
 | [], A, A', k, hA, _, Z, _ => ⟨[], rfl, fun o h => by simpa using h⟩
 | t :: ts, A, A', k, hA, hv, Z, hZ => by
  have hY : Blank (ts.flatMap rend ++ Z) := by
   cases ts with
   | nil => exact hZ
   | cons u ts => rw [List.flatMap_cons, List.append_assoc]; exact rend_blank u _
  obtain ⟨t', h1, h2⟩ := rend_scan hA (by simpa using hv 0 t rfl) hY k
  obtain ⟨B', h3, h4⟩ := all_scan ts (A ++ [t]) (A' ++ [t']) (k + (rend t).length) (by rw [bares_app, bares_app, hA]; unfold bares; simp [h1]) (fun i u hu => by
   have := hv (i + 1) u (by simpa using hu)
   rw [List.take_succ_cons] at this
   rw [List.append_assoc]; exact this) Z hZ
  refine ⟨t' :: B', by unfold bares at h3 ⊢; rw [List.map_cons, List.map_cons, h1, h3], fun o ho => ?_⟩
  rw [List.flatMap_cons, List.append_assoc]
  refine h2 o (h4 o ?_)
  rw [List.flatMap_cons, List.length_append, ← Nat.add_assoc] at ho
  rw [List.append_assoc]
  exact ho

theorem spaced_scan {src : ByteArray} (hz : src.size ≤ 8192) (h0 : (scanS src).stage = 0) (hs : ((scanS src).toks.flatMap rend).length ≤ 8192) :
  (scanS (bts ((scanS src).toks.flatMap rend))).stage = 0 ∧ bares (scanS (bts ((scanS src).toks.flatMap rend))).toks = bares (scanS src).toks := by
 obtain ⟨o, ho, e⟩ := scanS_ex hz
 have hk : o.err.isOk = true ∧ deepGo o.list 0 = none ∧ (scanS src).toks = o.list := by
  cases hk : o.err.isOk with
  | false => rw [e, hk] at h0; cases h0
  | true =>
   rw [hk] at e
   simp only [if_true] at e
   cases hd : deepGo o.list 0 with
   | some p => rw [hd] at e; rw [e] at h0; cases h0
   | none => rw [hd] at e; rw [e]; exact ⟨rfl, rfl, rfl⟩
 obtain ⟨hok, hdp, hL⟩ := hk
 obtain ⟨A, h1, h2, h3⟩ := ho.vals (fun i t h => by cases h) hok
 rw [hL] at hs ⊢
 have hlast : rend ⟨6, (⟨#[]⟩ : ByteArray), 0, ((0 + src.data.toList.length : Nat) : Int)⟩ = [9] := by unfold rend; rfl
 have hfl : o.list.flatMap rend = A.flatMap rend ++ [9] := by rw [h1, List.flatMap_append, List.flatMap_singleton, hlast]
 obtain ⟨B, h4, h5⟩ := all_scan A [] [] 0 rfl (fun i t ht => h2 i t ht) [9] ⟨9, [], rfl, .inl rfl⟩
 simp only [List.nil_append, Nat.zero_add] at h5
 have hsc : Scans (A.flatMap rend ++ [9]) 0 [] ⟨.ok, (A.flatMap rend).length + 1, B ++ [⟨6, (⟨#[]⟩ : ByteArray), 0, (((A.flatMap rend).length + 1 : Nat) : Int)⟩]⟩ := by
  refine h5 _ (.step 1 B (by omega) (by simp) (nextL_blank (.inr rfl) _ _) ?_)
  have hd := Scans.done ((A.flatMap rend).length + 1) B
  have hl : lineL ((A.flatMap rend).length + 1) B = B := by
   unfold lineL
   rw [endsL_bare h4, h3]; rfl
  rw [hl] at hd
  exact hd
 rw [hfl] at hs ⊢
 have e2 := scanS_of (src := bts (A.flatMap rend ++ [9])) (by rw [bts_size]; exact hs) (by rw [bts_list]; exact hsc)
 have hb : bares (B ++ [⟨6, (⟨#[]⟩ : ByteArray), 0, (((A.flatMap rend).length + 1 : Nat) : Int)⟩]) = bares o.list := by rw [h1, bares_app, bares_app, h4]; rfl
 have hdp2 := deepGo_bare _ _ 0 hb
 rw [hdp] at hdp2
 simp only [show SErr.ok.isOk = true from rfl, if_true] at e2
 cases hd2 : deepGo (B ++ [⟨6, (⟨#[]⟩ : ByteArray), 0, (((A.flatMap rend).length + 1 : Nat) : Int)⟩]) 0 with
 | some p => rw [hd2] at hdp2; cases hdp2
 | none => rw [hd2] at e2; rw [e2]; exact ⟨rfl, hb⟩

end Go.Proofs.ZL
