/- Facts on the pure scan: what a name, a number, a blank comes to. -/
import Derived.Test.YtoifleamknbeaaaGreatDoorYNa
open Go Go.Am
namespace Go.Proofs.ZL
set_option maxRecDepth 100000

theorem runL_all {p : Int → Bool} : ∀ {u x : List UInt8}, (∀ b ∈ u, p b.toNat = true) → (∀ b, x.head? = some b → p b.toNat = false) → runL p (u ++ x) = u.length
 | [], x, _, hx => by
  unfold runL
  cases x with
  | nil => rfl
  | cons b x =>
   rw [List.nil_append, List.takeWhile_cons, if_neg (by rw [hx b rfl]; simp)]
 | a :: u, x, hu, hx => by
  have := runL_all (u := u) (x := x) (fun b hb => hu b (List.mem_cons_of_mem _ hb)) hx
  unfold runL at this ⊢
  rw [List.cons_append, List.takeWhile_cons, if_pos (hu a (List.mem_cons_self ..)), List.length_cons, this, List.length_cons]

theorem take2_hd {r : List UInt8} {a b : UInt8} (h : r.take 2 = [a, b]) : hd r = (a.toNat : Int) := by
 cases r with
 | nil => simp at h
 | cons c r => simp at h; rw [← h.1]; rfl
theorem hd_cons (a : UInt8) (r : List UInt8) : hd (a :: r) = (a.toNat : Int) := rfl
theorem hd_range (r : List UInt8) : 0 ≤ hd r ∧ hd r ≤ 255 := by
 unfold hd
 have := (r.head?.getD 0).toNat_lt
 omega

theorem nextL_blank {r : List UInt8} (h : hd r = 32 ∨ hd r = 9) (k : Nat) (l : List Tok) : nextL r k l = ⟨.ok, k + 1, l⟩ := by unfold nextL; rw [if_pos h]
theorem nextL_line {r : List UInt8} (h : hd r = 10) (k : Nat) (l : List Tok) : nextL r k l = ⟨.ok, k + 1, lineL k l⟩ := by unfold nextL; rw [if_neg (by omega), if_pos h]
theorem noslash {r : List UInt8} (h : hd r ≠ 47) : ¬ r.take 2 = [47, 47] := fun hc => h (take2_hd hc)
theorem nextL_name {r : List UInt8} (h : letterN (hd r) = true) (k : Nat) (l : List Tok) : nextL r k l = nameL r k l := by
 have h' := h
 simp only [letterN, decide_eq_true_eq] at h'
 unfold nextL
 rw [if_neg (by omega), if_neg (by omega), if_neg (noslash (by omega)), if_pos h]
theorem nextL_number {r : List UInt8} (h : digitN (hd r) = true) (k : Nat) (l : List Tok) : nextL r k l = numberL r k l := by
 have h' := h
 simp only [digitN, decide_eq_true_eq] at h'
 have hl : letterN (hd r) = false := by unfold letterN; rw [decide_eq_false_iff_not]; omega
 unfold nextL
 rw [if_neg (by omega), if_neg (by omega), if_neg (noslash (by omega)), hl, if_neg (by simp), if_pos h]
theorem nextL_text {r : List UInt8} (h : hd r = 34) (k : Nat) (l : List Tok) : nextL r k l = textL k l r.tail (k + 1) [] := by
 have hl : letterN (hd r) = false := by unfold letterN; rw [decide_eq_false_iff_not]; omega
 have hd' : digitN (hd r) = false := by unfold digitN; rw [decide_eq_false_iff_not]; omega
 unfold nextL
 rw [if_neg (by omega), if_neg (by omega), if_neg (noslash (by omega)), hl, if_neg (by simp), hd', if_neg (by simp), if_pos h]
theorem nextL_mark {r m : List UInt8} (h1 : hd r ≠ 32 ∧ hd r ≠ 9 ∧ hd r ≠ 10 ∧ hd r ≠ 34) (h2 : r.take 2 ≠ [47, 47]) (h3 : letterN (hd r) = false) (h4 : digitN (hd r) = false) (hm : markL r = m) (hne : m ≠ []) (k : Nat) (l : List Tok) :
  nextL r k l = ⟨.ok, k + m.length, l ++ [⟨5, bts m, 0, k⟩]⟩ := by
 unfold nextL
 rw [if_neg (by omega), if_neg (by omega), if_neg h2, h3, if_neg (by simp), h4, if_neg (by simp), if_neg h1.2.2.2, hm, if_neg hne]

theorem scanS_of {src : ByteArray} {o : Out} (hz : src.size ≤ 8192) (h : Scans src.data.toList 0 [] o) :
  scanS src = if o.err.isOk then (match deepGo o.list 0 with | some p => ⟨[], 3, p⟩ | none => ⟨o.list, 0, 0⟩) else ⟨[], 2, o.err.pos⟩ := by
 unfold scanS
 rw [if_neg (by omega), h.allS]
 by_cases he : o.err.isOk = true
 ·rw [if_pos he, if_pos he]; cases deepGo o.list 0 <;> rfl
 ·rw [if_neg he, if_neg he]

theorem app_bts (s : ByteArray) (x : List UInt8) : s ++ bts x = bts (s.data.toList ++ x) := by
 apply ByteArray.ext
 apply Array.toList_inj.1
 rw [ByteArray.data_append]
 simp [bts]
theorem bts_app (s : ByteArray) (x : List UInt8) : bts x ++ s = bts (x ++ s.data.toList) := by
 apply ByteArray.ext
 apply Array.toList_inj.1
 rw [ByteArray.data_append]
 simp [bts]
theorem byteN_mem {s : ByteArray} {b : UInt8} (h : b ∈ s.data.toList) : ∃ j, j < s.size ∧ byteN s (j : Nat) = b.toNat := by
 obtain ⟨j, hj, he⟩ := List.getElem_of_mem h
 have hj' : j < s.size := by simpa using hj
 obtain ⟨c, hc, hv⟩ := byteN_get hj'
 rw [List.getElem?_eq_getElem hj] at hc
 exact ⟨j, hj', by rw [hv, ← Option.some.inj hc, he]⟩

end Go.Proofs.ZL
