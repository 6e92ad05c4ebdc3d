/- Facts on the pure scan: brackets. -/
import Derived.Test.YtfooolbjhhfbiaaDoorZNc
open Go Go.Am
namespace Go.Proofs.ZL
set_option maxRecDepth 100000

def isBr (c : UInt8) : Prop := c = 40 ∨ c = 41 ∨ c = 91 ∨ c = 123
/-- The tokens of a row of brackets. -/
def tk : List UInt8 → Nat → List Tok
  | [], _ => []
  | c :: r, k => ⟨5, bts [c], 0, k⟩ :: tk r (k + 1)

theorem tk_len : ∀ (u : List UInt8) (k : Nat), (tk u k).length = u.length
  | [], _ => rfl
  | c :: r, k => by simp only [tk, List.length_cons, tk_len r]

theorem br_mark {c : UInt8} (hc : isBr c) (r : List UInt8) : markL (c :: r) = [c] := by
  have h1 : inS marks (bts [c]) = true := by
    rw [inS_marks]; rcases hc with rfl | rfl | rfl | rfl <;> simp [marksL, marks]
  have h2 : ∀ d, inS marks (bts [c, d]) = false := fun d => by
    rw [← Bool.not_eq_true, inS_marks]
    intro h
    rcases hc with rfl | rfl | rfl | rfl <;> simp [marksL, marks] at h
  unfold markL
  cases r with
  | nil => simp [h1]
  | cons d r =>
    rw [show (c :: d :: r).take 2 = [c, d] by simp, show (c :: d :: r).take 1 = [c] by simp, h2, h1]
    simp

theorem br_next {c : UInt8} (hc : isBr c) (r : List UInt8) (k : Nat) (l : List Tok) : nextL (c :: r) k l = ⟨.ok, k + 1, l ++ [⟨5, bts [c], 0, k⟩]⟩ := by
  have hh : hd (c :: r) = (c.toNat : Int) := rfl
  refine nextL_mark (m := [c]) ?_ ?_ ?_ ?_ (br_mark hc r) (by simp) k l
  · rw [hh]; rcases hc with rfl | rfl | rfl | rfl <;> decide
  · refine noslash ?_
    rw [hh]; rcases hc with rfl | rfl | rfl | rfl <;> decide
  · rw [hh]; rcases hc with rfl | rfl | rfl | rfl <;> decide
  · rw [hh]; rcases hc with rfl | rfl | rfl | rfl <;> decide

theorem br_scans : ∀ (u : List UInt8) (k : Nat) (l : List Tok), (∀ c ∈ u, isBr c) → Scans u k l ⟨.ok, k + u.length, lineL (k + u.length) (l ++ tk u k) ++ [⟨6, (⟨#[]⟩ : ByteArray), 0, (k + u.length : Nat)⟩]⟩
  | [], k, l, _ => by simpa [tk] using Scans.done k l
  | c :: r, k, l, h => by
    have ih := br_scans r (k + 1) (l ++ [⟨5, bts [c], 0, k⟩]) (fun d hd => h d (List.mem_cons_of_mem _ hd))
    have e : k + (c :: r).length = k + 1 + r.length := by simp; omega
    rw [e]
    refine .step 1 _ (by omega) (by simp) (br_next (h c (List.mem_cons_self ..)) r k l) ?_
    simpa [tk] using ih

theorem deep_close (k : Nat) (r : List UInt8) (X : List Tok) : deepGo (tk (40 :: 41 :: r) k ++ X) 0 = deepGo (tk r (k + 2) ++ X) 0 := by
  simp only [tk, List.cons_append, deepGo]
  rw [if_neg (by decide), if_pos (by decide +kernel), if_neg (by decide), if_neg (by decide), if_neg (by decide +kernel), if_pos (by decide +kernel)]
  rfl
theorem deep_closes : ∀ (m k : Nat) (r : List UInt8) (X : List Tok), deepGo (tk ((List.replicate m [40, 41]).flatten ++ r) k ++ X) 0 = deepGo (tk r (k + 2 * m) ++ X) 0
  | 0, k, r, X => rfl
  | m + 1, k, r, X => by
    have := deep_closes m (k + 2) r X
    rw [show k + 2 * (m + 1) = k + 2 + 2 * m by omega, ← this]
    exact deep_close k _ X
theorem deep_opens {X : List Tok} : ∀ (r : List UInt8) (k n : Nat), (∀ c ∈ r, c = 40 ∨ c = 91 ∨ c = 123) → n ≤ 40 →
    deepGo (tk r k ++ X) n = if 40 < n + r.length then some ((k + 40 - n : Nat) : Int) else deepGo X ((n + r.length : Nat) : Int)
  | [], k, n, _, hn => by
    rw [if_neg (by simp; omega)]; rfl
  | c :: r, k, n, h, hn => by
    have hc := h c (List.mem_cons_self ..)
    have ho : inS opensB (bts [c]) = true := by rcases hc with rfl | rfl | rfl <;> decide +kernel
    simp only [tk, List.cons_append, deepGo]
    rw [if_neg (by decide), if_pos ho]
    by_cases h40 : (40 : Int) < n + 1
    · rw [if_pos h40, if_pos (by simp; omega)]
      congr 1; omega
    · rw [if_neg h40]
      have ih := deep_opens (X := X) r (k + 1) (n + 1) (fun d hd => h d (List.mem_cons_of_mem _ hd)) (by omega)
      rw [show ((n : Int) + 1) = ((n + 1 : Nat) : Int) by omega, ih]
      have e : n + 1 + r.length = n + (c :: r).length := by simp; omega
      rw [e, show k + 1 + 40 - (n + 1) = k + 40 - n by omega]

/-- The bracket of a kind. -/
def br (z : Int) : UInt8 := if z.tmod 3 = 0 then 40 else if z.tmod 3 = 1 then 91 else 123
def srcN (m : Nat) (zs : List Int) : List UInt8 := (List.replicate m [40, 41]).flatten ++ zs.map br
theorem br_open (z : Int) : br z = 40 ∨ br z = 91 ∨ br z = 123 := by
  unfold br; split
  · exact .inl rfl
  · split
    · exact .inr (.inl rfl)
    · exact .inr (.inr rfl)
theorem pairs_len : ∀ m : Nat, ((List.replicate m ([40, 41] : List UInt8)).flatten).length = 2 * m
  | 0 => rfl
  | m + 1 => by rw [List.replicate_succ, List.flatten_cons, List.length_append, pairs_len m]; simp; omega
theorem srcN_len (m : Nat) (zs : List Int) : (srcN m zs).length = 2 * m + zs.length := by
  unfold srcN; rw [List.length_append, pairs_len, List.length_map]
theorem pairs_mem : ∀ (m : Nat) (c : UInt8), c ∈ (List.replicate m ([40, 41] : List UInt8)).flatten → c = 40 ∨ c = 41
  | 0, c, h => by simp at h
  | m + 1, c, h => by
    rw [List.replicate_succ, List.flatten_cons, List.mem_append] at h
    rcases h with h | h
    · simpa using h
    · exact pairs_mem m c h

theorem scan_nest {m : Nat} {zs : List Int} (hm : m ≤ 100) (hz : zs.length ≤ 100) :
    if 40 < zs.length then scanS (bts (srcN m zs)) = ⟨[], 3, (2 * m + 40 : Nat)⟩
    else (scanS (bts (srcN m zs))).stage = 0 ∧ (scanS (bts (srcN m zs))).pos = 0 ∧ zs.length + 2 * m + 1 ≤ (scanS (bts (srcN m zs))).toks.length := by
  have hlen := srcN_len m zs
  have hb : ∀ c ∈ srcN m zs, isBr c := fun c hc => by
    unfold srcN at hc
    rcases List.mem_append.1 hc with hc | hc
    · rcases pairs_mem m c hc with h | h
      · exact .inl h
      · exact .inr (.inl h)
    · obtain ⟨z, _, rfl⟩ := List.mem_map.1 hc
      rcases br_open z with h | h | h
      · exact .inl h
      · exact .inr (.inr (.inl h))
      · exact .inr (.inr (.inr h))
  have hs := scanS_of (src := bts (srcN m zs)) (by rw [bts_size, hlen]; omega) (by rw [bts_list]; exact br_scans (srcN m zs) 0 [] hb)
  simp only [SErr.isOk, if_true, Nat.zero_add, List.nil_append] at hs
  have hX : ∃ X, lineL (srcN m zs).length (tk (srcN m zs) 0) ++ [⟨6, (⟨#[]⟩ : ByteArray), 0, ((srcN m zs).length : Nat)⟩] = tk (srcN m zs) 0 ++ X ∧ 1 ≤ X.length ∧ ∀ n, deepGo X n = none := by
    unfold lineL
    split
    · exact ⟨_, by rw [List.append_assoc], by simp, fun n => by simp only [List.singleton_append, deepGo]; rw [if_neg (by decide), if_neg (by decide +kernel), if_neg (by decide +kernel), if_pos (by decide)]⟩
    · exact ⟨_, rfl, by simp, fun n => by simp only [deepGo]; rw [if_pos (by decide)]⟩
  obtain ⟨X, hXe, hXl, hXd⟩ := hX
  rw [hXe] at hs
  have hd := deep_closes m 0 (zs.map br) X
  have ho := deep_opens (X := X) (zs.map br) (0 + 2 * m) 0 (fun c hc => by obtain ⟨z, _, rfl⟩ := List.mem_map.1 hc; exact br_open z) (by omega)
  rw [show ((0 : Nat) : Int) = 0 from rfl, ← hd, List.length_map, Nat.zero_add, hXd] at ho
  rw [show (List.replicate m [40, 41]).flatten ++ zs.map br = srcN m zs from rfl] at ho
  rw [ho] at hs
  by_cases h40 : 40 < zs.length
  · rw [if_pos h40] at hs ⊢
    rw [hs]
    simp
  · rw [if_neg h40] at hs ⊢
    rw [hs]
    refine ⟨rfl, rfl, ?_⟩
    simp only [List.length_append, tk_len, hlen]
    omega

end Go.Proofs.ZL
