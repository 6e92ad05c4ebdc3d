/- The document's answer: the token that stands at a place. -/
import Derived.Test.YtoifleamknbeaaaGreatDoorYUD
open Go Go.Am
namespace Go.Proofs.ZL
set_option maxRecDepth 100000
set_option linter.unusedSimpArgs false
set_option linter.unusedVariables false
set_option maxHeartbeats 1000000

theorem rest_sub (src : ByteArray) (k n : Nat) : bsub (rest src k) 0 (n : Int) = sub src k n := by rw [rest_bts, bts_sub, sub_bts]

def twos : List ByteArray := marks.filter fun m => decide (m.size = 2)
def ones : List ByteArray := marks.filter fun m => decide (m.size = 1)
theorem in_twos {s : ByteArray} (h : s.size = 2) : inS twos s = inS marks s := by
 rw [Bool.eq_iff_iff, inS_iff, inS_iff]
 unfold twos
 rw [List.mem_filter]
 exact ⟨fun h => h.1, fun hm => ⟨hm, by rw [decide_eq_true_eq]; exact h⟩⟩
theorem in_ones {s : ByteArray} (h : s.size = 1) : inS ones s = inS marks s := by
 rw [Bool.eq_iff_iff, inS_iff, inS_iff]
 unfold ones
 rw [List.mem_filter]
 exact ⟨fun h => h.1, fun hm => ⟨hm, by rw [decide_eq_true_eq]; exact h⟩⟩

theorem markOf_rest {src : ByteArray} {k : Nat} (hk : k < src.size) : markOf (rest src k) = if k + 2 ≤ src.size ∧ inS twos (sub src k 2) = true then sub src k 2 else if inS ones (sub src k 1) = true then sub src k 1 else .empty := by
 have h1 := rest_sub src k 1
 have h2 := rest_sub src k 2
 have hs := rest_size (Nat.le_of_lt hk)
 unfold markOf
 rw [hs, show (2 : Int) = ((2 : Nat) : Int) from rfl, show (1 : Int) = ((1 : Nat) : Int) from rfl, h1, h2]
 by_cases c : k + 2 ≤ src.size
 ·rw [in_twos (sub_size c), in_ones (sub_size (by omega))]
  simp only [show (2 ≤ src.size - k) = True by simp; omega, show (k + 2 ≤ src.size) = True by simp [c], show (1 ≤ src.size - k) = True by simp; omega, true_and]
 ·rw [in_ones (sub_size (by omega))]
  simp only [show (2 ≤ src.size - k) = False by simp; omega, show (k + 2 ≤ src.size) = False by simp [c], show (1 ≤ src.size - k) = True by simp; omega, true_and, false_and, if_false]

theorem marks_bytes : marks.all (fun m => decide (m ≠ .empty) && m.data.toList.all (fun b => decide (33 ≤ b.toNat ∧ b.toNat ≤ 126))) = true := by decide +kernel
theorem words_bytes : words.all (fun m => m.data.toList.all (fun b => decide (33 ≤ b.toNat ∧ b.toNat ≤ 126))) = true := by decide +kernel
theorem noB_marks {s : ByteArray} (h : inS marks s = true) : noB s := fun b hb e => by
 have := List.all_eq_true.1 marks_bytes s (inS_iff.1 h)
 rw [Bool.and_eq_true] at this
 have := of_decide_eq_true (List.all_eq_true.1 this.2 b hb)
 subst e; exact absurd this (by decide)
theorem noB_words {s : ByteArray} (h : inS words s = true) : noB s := fun b hb e => by
 have := of_decide_eq_true (List.all_eq_true.1 (List.all_eq_true.1 words_bytes s (inS_iff.1 h)) b hb)
 subst e; exact absurd this (by decide)

theorem sub_list {src : ByteArray} {k n : Nat} : (sub src k n).data.toList = (src.data.toList.drop k).take n := by
 rw [sub_eq, ByteArray.data_extract, Array.toList_extract, List.extract_eq_take_drop, Nat.add_sub_cancel_left]
theorem noB_run {src : ByteArray} {k : Nat} (hk : k ≤ src.size) : noB (sub src k (runN alnumN src k)) := fun b hb e => by
 rw [sub_list] at hb
 obtain ⟨j, hj, he⟩ := List.getElem_of_mem hb
 simp only [List.length_take, List.length_drop] at hj
 have h2 := runN_all (p := alnumN) (j := j) hk (by omega)
 have hl : src.data.toList.length = src.size := by simp
 obtain ⟨c, hc, hv⟩ := byteN_get (s := src) (k := k + j) (by omega)
 rw [hv] at h2
 rw [List.getElem_take, List.getElem_drop] at he
 rw [List.getElem?_eq_getElem (by omega)] at hc
 rw [← Option.some.inj hc, he, e] at h2
 exact absurd h2 (by decide)

theorem sub2_cases {src : ByteArray} {k : Nat} (h : k + 2 ≤ src.size) (hb : byteN src k ≠ 32) : noB (sub src k 2) ∨ ∃ a, (sub src k 2).data.toList = a ++ [32] := by
 obtain ⟨a, ha, va⟩ := byteN_get (s := src) (k := k) (by omega)
 obtain ⟨b, hb', vb⟩ := byteN_get (s := src) (k := k + 1) (by omega)
 have e : (sub src k 2).data.toList = [a, b] := by
  rw [sub_list]
  refine List.ext_getElem? fun i => ?_
  rw [List.getElem?_take]
  rcases i with _ | _ | i
  ·rw [if_pos (by omega), List.getElem?_drop, Nat.add_zero, ha]; rfl
  ·rw [if_pos (by omega), List.getElem?_drop, hb']; rfl
  ·rw [if_neg (by omega)]; rfl
 by_cases h32 : b = 32
 ·right; exact ⟨[a], by rw [e, h32]; rfl⟩
 ·left
  intro c hc e2
  rw [e] at hc
  simp only [List.mem_cons, List.not_mem_nil, or_false] at hc
  rcases hc with rfl | rfl
  ·rw [e2] at va; exact hb va
  ·exact h32 e2

def TOk (t : Tok) : Prop := 1 ≤ t.kind ∧ t.kind ≤ 3 ∨ t.kind = 4 ∧ inS words t.text = true ∨ t.kind = 5 ∧ inS marks t.text = true

end Go.Proofs.ZL
