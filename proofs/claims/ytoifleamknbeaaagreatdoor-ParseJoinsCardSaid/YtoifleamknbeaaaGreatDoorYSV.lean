/- Two sources that are parsed, and the line's end between them: their trees. -/
import Derived.Test.YtoifleamknbeaaaGreatDoorYSU
open Go Go.Am
namespace Go.Proofs.ZL
set_option linter.unusedSimpArgs false
set_option linter.unusedVariables false

/-- A source that is parsed. -/
theorem parseT_fine {src : ByteArray} (h : (parseT src).2.1 = 0) : (scanS src).stage = 0 ∧ (parseT src).2.2 = 0 ∧ ∃ s, fileGo 200000 (recN 200000) (scanS src).toks false 200000 [] ⟨0, false⟩ = .ok (parseT src).1.kids s := by
  have hp := (parseN_some src).1
  unfold parseN at hp
  split at hp
  · rename_i h0
    have := Option.some.inj hp
    rw [← this] at h
    exact (h0 h).elim
  · rename_i h0
    refine ⟨Decidable.not_not.1 h0, ?_⟩
    unfold fileF at hp
    cases hr : fileGo 200000 (recN 200000) (scanS src).toks false 200000 [] ⟨0, false⟩ with
    | ok t s => rw [hr] at hp; rw [← Option.some.inj hp]; exact ⟨rfl, s, rfl⟩
    | bad i => rw [hr] at hp; rw [← Option.some.inj hp] at h; cases h
    | out => rw [hr] at hp; cases hp
theorem parseT_of {src : ByteArray} {k : List Nd} {s : St} (h0 : (scanS src).stage = 0) (h : fileGo 200000 (recN 200000) (scanS src).toks false 200000 [] ⟨0, false⟩ = .ok k s) : parseT src = (.mk 1 (⟨#[]⟩ : ByteArray) 0 0 (⟨#[]⟩ : ByteArray) 0 k, 0, 0) := by
  have hp := (parseN_some src).1
  unfold parseN at hp
  rw [if_neg (fun e => e h0)] at hp
  unfold fileF at hp
  rw [h] at hp
  exact (Option.some.inj hp).symm

theorem join_law {a b : ByteArray} (hz : a.size + b.size ≤ 8000) (ha : (parseT a).2.1 = 0) (hb : (parseT b).2.1 = 0) :
    (parseT (a ++ (⟨#[10]⟩ : ByteArray) ++ b)).2.1 = 0 ∧ (parseT (a ++ (⟨#[10]⟩ : ByteArray) ++ b)).2.2 = 0 ∧ ∃ kc, (parseT (a ++ (⟨#[10]⟩ : ByteArray) ++ b)).1.kids = (parseT a).1.kids ++ kc ∧ (parseT b).1.kids.map bareN = kc.map bareN := by
  obtain ⟨a0, _, sa, ga⟩ := parseT_fine ha
  obtain ⟨b0, _, sb, gb⟩ := parseT_fine hb
  have e : a ++ (⟨#[10]⟩ : ByteArray) ++ b = bts (a.data.toList ++ 10 :: b.data.toList) := by
    apply ByteArray.ext
    apply Array.toList_inj.1
    rw [ByteArray.data_append, ByteArray.data_append]
    simp [bts]
  have la : a.data.toList.length = a.size := by simp
  have lb : b.data.toList.length = b.size := by simp
  obtain ⟨_, hj, _⟩ := scan_join (a := a.data.toList) (b := b.data.toList) (by omega)
  rw [← e, show bts a.data.toList = a from of_list a, show bts b.data.toList = b from of_list b] at hj
  obtain ⟨A, t, eA, hor⟩ := hj a0 b0
  obtain ⟨A2, t2, eA2, ht, hO, hdA⟩ := scan_toks a0
  rw [eA] at eA2
  obtain ⟨rfl, h1⟩ := List.append_inj' eA2 rfl
  cases h1
  obtain ⟨B, tB, eB, _, _, hdB⟩ := scan_toks b0
  rw [← eB] at hdB
  rw [eA] at ga
  obtain ⟨f1, f2⟩ := go_flat hO ht ga
  rcases hor with hbad | ⟨c0, ec⟩
  · refine (hbad ?_).elim
    rw [deep_app [t] _ A 0 hO f2 hdA, f1]
    exact deep_sh _ _ _ hdB
  · have l1 := scanS_len a
    have l2 := scanS_len b
    rw [eA, List.length_append] at l1
    obtain ⟨kc, s, g1, g2⟩ := go_join (K := a.data.toList.length + 1) hO ht (by simp only [List.length_singleton] at l1; omega) ga gb
    rw [← ec] at g1
    rw [parseT_of c0 g1]
    refine ⟨rfl, rfl, kc, rfl, ?_⟩
    refine List.ext_getElem? fun i => ?_
    rw [List.getElem?_map, List.getElem?_map]
    have hl := g2.1
    rcases Nat.lt_or_ge i (parseT b).1.kids.length with h | h
    · have h' : i < kc.length := by omega
      rw [List.getElem?_eq_getElem h, List.getElem?_eq_getElem h', Option.map_some, Option.map_some, (g2.2 i _ _ (List.getElem?_eq_getElem h) (List.getElem?_eq_getElem h')).bare]
    · rw [List.getElem?_eq_none h, List.getElem?_eq_none (by omega)]

end Go.Proofs.ZL
