/- ParseBinds: the law. -/
import Derived.Test.YtoifleamknbeaaaGreatDoorYXD
open Go Go.Am
namespace Go.Proofs.ZL
set_option maxRecDepth 100000
set_option linter.unusedSimpArgs false
set_option linter.unusedVariables false

def preB : List UInt8 := [102, 117, 110, 99, 32, 102, 40, 41, 32, 123, 32, 120, 32, 61, 32]
def rowB (u : Ex) (r : List (Nat × Ex)) : List UInt8 := preB ++ (u.tx ++ (rtx r ++ [32, 125]))

theorem file_scan {u : Ex} {r : List (Nat × Ex)} (hu : u.ok) (hr : rok r) (nu : u.nms) (nr : rnms r) : ∃ n M, Scans (rowB u r) 0 [] ⟨.ok, n, M⟩ ∧ bares M = rowT u r := by
 have hw : ∃ y2 Z2, rtx r ++ [32, 125] = y2 :: Z2 ∧ alnumN y2.toNat = false := by
  cases r with
  | nil => exact ⟨32, [125], rfl, by decide⟩
  | cons p r =>
   obtain ⟨k2, e2⟩ := p
   obtain ⟨y2, Z2, o1, o2⟩ := op_head (hr _ List.mem_cons_self).1
   refine ⟨y2, Z2 ++ (e2.tx ++ (rtx r ++ [32, 125])), ?_, o2⟩
   unfold rtx
   rw [List.flatMap_cons]
   simp only at o1 ⊢
   rw [o1]
   simp
 obtain ⟨y2, Z2, w1, w2⟩ := hw
 generalize hP : ([] : List Tok) ++ [⟨4, bts [102, 117, 110, 99], 0, ((0 : Nat) : Int)⟩] ++ [⟨1, bts [102], 0, ((5 : Nat) : Int)⟩] ++ [⟨5, bts [40], 0, ((6 : Nat) : Int)⟩] ++ [⟨5, bts [41], 0, ((7 : Nat) : Int)⟩] ++ [⟨5, bts [123], 0, ((9 : Nat) : Int)⟩] ++ [⟨1, bts [120], 0, ((11 : Nat) : Int)⟩] ++ [⟨5, bts [61], 0, ((13 : Nat) : Int)⟩] = Pt
 obtain ⟨B1, b1, s1⟩ := ex_scan u hu nu y2 Z2 15 Pt w2
 obtain ⟨B2, b2, s2⟩ := row_scan r hr nr 32 [125] (15 + u.tx.length) (Pt ++ B1) (by decide)
 generalize hn : 15 + u.tx.length + (rtx r).length = n at s2
 refine ⟨n + 2, Pt ++ B1 ++ B2 ++ [⟨5, bts [125], 0, ((n + 1 : Nat) : Int)⟩] ++ [⟨5, (⟨#[59]⟩ : ByteArray), 1, ((n + 2 : Nat) : Int)⟩] ++ [⟨6, (⟨#[]⟩ : ByteArray), 0, ((n + 2 : Nat) : Int)⟩], ?_, ?_⟩
 ·have e : rowB u r = [102, 117, 110, 99] ++ 32 :: ([102] ++ 40 :: (41 :: 32 :: 123 :: 32 :: 120 :: 32 :: 61 :: 32 :: (u.tx ++ (rtx r ++ [32, 125])))) := rfl
  rw [e]
  refine name_step ⟨by simp, by decide, by decide⟩ (by decide) ?_
  rw [show inS words (bts [102, 117, 110, 99]) = true by decide +kernel, if_pos rfl]
  refine blank_step ?_
  refine name_step ⟨by simp, by decide, by decide⟩ (by decide) ?_
  rw [show inS words (bts [102]) = false by decide +kernel, if_neg Bool.false_ne_true]
  obtain ⟨m1, m2⟩ := mark_one (32 :: 123 :: 32 :: 120 :: 32 :: 61 :: 32 :: (u.tx ++ (rtx r ++ [32, 125]))) (a := 40) (y := 41) (by decide +kernel) (pair_no (.inl (.inl rfl))) (.inl (by decide))
  refine mark_step (u := [40]) (by decide +kernel) m1 m2 ?_
  obtain ⟨m1, m2⟩ := mark_one (123 :: 32 :: 120 :: 32 :: 61 :: 32 :: (u.tx ++ (rtx r ++ [32, 125]))) (a := 41) (y := 32) (by decide +kernel) (pair_no (.inl (.inr (.inl rfl)))) (.inl (by decide))
  refine mark_step (u := [41]) (by decide +kernel) m1 m2 ?_
  refine blank_step ?_
  obtain ⟨m1, m2⟩ := mark_one (120 :: 32 :: 61 :: 32 :: (u.tx ++ (rtx r ++ [32, 125]))) (a := 123) (y := 32) (by decide +kernel) (pair_no (.inl (.inr (.inr rfl)))) (.inl (by decide))
  refine mark_step (u := [123]) (by decide +kernel) m1 m2 ?_
  refine blank_step ?_
  refine name_step (u := [120]) ⟨by simp, by decide, by decide⟩ (by decide) ?_
  rw [show inS words (bts [120]) = false by decide +kernel, if_neg Bool.false_ne_true]
  refine blank_step ?_
  obtain ⟨m1, m2⟩ := mark_one (u.tx ++ (rtx r ++ [32, 125])) (a := 61) (y := 32) (by decide +kernel) (pair_no (.inr (by decide))) (.inl (by decide))
  refine mark_step (u := [61]) (by decide +kernel) m1 m2 ?_
  refine blank_step ?_
  have hA : ∀ {A : List Tok} {k : Nat}, A = Pt → k = 15 → Scans (u.tx ++ (rtx r ++ [32, 125])) 15 Pt _ → Scans (u.tx ++ (rtx r ++ [32, 125])) k A ⟨.ok, n + 2, Pt ++ B1 ++ B2 ++ [⟨5, bts [125], 0, ((n + 1 : Nat) : Int)⟩] ++ [⟨5, (⟨#[59]⟩ : ByteArray), 1, ((n + 2 : Nat) : Int)⟩] ++ [⟨6, (⟨#[]⟩ : ByteArray), 0, ((n + 2 : Nat) : Int)⟩]⟩ := fun h1 h2 h => by subst h1; subst h2; exact h
  refine hA (by rw [← hP]; rfl) rfl ?_
  rw [w1]
  refine s1 _ ?_
  rw [← w1]
  refine s2 _ (blank_step ?_)
  refine .step 1 (Pt ++ B1 ++ B2 ++ [⟨5, bts [125], 0, ((n + 1 : Nat) : Int)⟩]) (by omega) (by simp) ?_ ?_
  ·rw [nextL_mark (m := [125]) (by decide) (by decide) (by decide) (by decide) (by decide +kernel) (by decide)]
   rfl
  ·have hd := Scans.done (n + 1 + 1) (Pt ++ B1 ++ B2 ++ [⟨5, bts [125], 0, ((n + 1 : Nat) : Int)⟩])
   have hl : lineL (n + 1 + 1) (Pt ++ B1 ++ B2 ++ [⟨5, bts [125], 0, ((n + 1 : Nat) : Int)⟩]) = Pt ++ B1 ++ B2 ++ [⟨5, bts [125], 0, ((n + 1 : Nat) : Int)⟩] ++ [⟨5, (⟨#[59]⟩ : ByteArray), 1, ((n + 2 : Nat) : Int)⟩] := by
    unfold lineL endsL
    rw [List.getLast?_append]
    rfl
   rw [hl] at hd
   exact hd
 ·simp only [bares_app, b1, b2, ← hP, rowT, preT, sufT]
  simp [bares, Tok.bare]
  refine ⟨rfl, rfl, rfl, rfl, rfl, rfl, rfl, ?_⟩
  rfl
end Go.Proofs.ZL
