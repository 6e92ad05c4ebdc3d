/- A fault of the syntax hangs on nothing that stands behind its token. -/
import Derived.Test.YtoifleamknbeaaaGreatDoorYVN
import Derived.Test.YtoifleamknbeaaaGreatDoorYVA
open Go Go.Am
namespace Go.Proofs.ZL
set_option maxRecDepth 100000
set_option linter.unusedSimpArgs false
set_option linter.unusedVariables false

theorem scanS_stage (src : ByteArray) : (scanS src).stage ≠ 4 := by
 unfold scanS
 split
 ·simp
 split
 ·split <;> simp
 ·simp

theorem parseT_bad {src : ByteArray} (h : (parseT src).2.1 = 4) : (scanS src).stage = 0 ∧ ∃ e, fileF 200000 (recN 200000) (scanS src).toks false ⟨0, false⟩ = .bad e ∧ (parseT src).2.2 = (tokAt (scanS src).toks e).pos := by
 have hp := (parseN_some src).1
 unfold parseN at hp
 split at hp
 ·rename_i h0
  have := Option.some.inj hp
  rw [← this] at h
  exact (scanS_stage src h).elim
 ·rename_i h0
  refine ⟨Decidable.not_not.1 h0, ?_⟩
  cases hr : fileF 200000 (recN 200000) (scanS src).toks false ⟨0, false⟩ with
  | ok t s => rw [hr] at hp; rw [← Option.some.inj hp] at h; cases h
  | bad i => rw [hr] at hp; rw [← Option.some.inj hp]; exact ⟨i, rfl, rfl⟩
  | out => rw [hr] at hp; cases hp
theorem parseT_badOf {src : ByteArray} {e : Nat} (h0 : (scanS src).stage = 0) (h : fileF 200000 (recN 200000) (scanS src).toks false ⟨0, false⟩ = .bad e) : parseT src = (zeroN, 4, (tokAt (scanS src).toks e).pos) := by
 have hp := (parseN_some src).1
 unfold parseN at hp
 rw [if_neg (fun e => e h0), h] at hp
 exact (Option.some.inj hp).symm

theorem scan_list {src : ByteArray} (hz : src.size ≤ 8192) (h : (scanS src).stage = 0) : ∃ o, Scans src.data.toList 0 [] o ∧ o.err.isOk = true ∧ o.list = (scanS src).toks := by
 obtain ⟨o, ho, e⟩ := scanS_ex hz
 cases hk : o.err.isOk with
 | false => rw [e, hk] at h; cases h
 | true =>
  rw [hk] at e
  simp only [if_true] at e
  cases hd : deepGo o.list 0 with
  | some p => rw [hd] at e; rw [e] at h; cases h
  | none => rw [hd] at e; exact ⟨o, ho, hk, by rw [e]⟩

theorem scan_pos {src : ByteArray} (hz : src.size ≤ 8192) (h : (scanS src).stage = 0) {i : Nat} {t : Tok} (ht : (scanS src).toks[i]? = some t) : 0 ≤ t.pos ∧ t.pos ≤ src.size := by
 obtain ⟨o, ho, _, e⟩ := scan_list hz h
 have := ho.pos (fun t h => by cases h) t (by rw [e]; exact List.mem_of_getElem? ht)
 have hl : src.data.toList.length = src.size := by simp
 omega

def cutAt (src : ByteArray) (i : Nat) : Nat := if i + 1 < (scanS src).toks.length then (tokAt (scanS src).toks (i + 1)).pos.toNat else src.size

theorem getE {L : List Tok} {k : Nat} (h : k < L.length) : L[k]? = some (tokAt L k) := by
 unfold tokAt
 rw [List.getD_eq_getElem?_getD, List.getElem?_eq_getElem h]
 rfl

theorem bad_lt {A : List Tok} {p : Int} {e : Nat} (hl : A.length ≤ 10000) (h : fileF 200000 (recN 200000) (A ++ [⟨6, (⟨#[]⟩ : ByteArray), 0, p⟩]) false ⟨0, false⟩ = .bad e) : e < (A ++ [(⟨6, (⟨#[]⟩ : ByteArray), 0, p⟩ : Tok)]).length := by
 have g : ∀ E, Alike (fun _ _ => True) A (A ++ [⟨6, (⟨#[]⟩ : ByteArray), 0, p⟩]) 0 0 E := fun E => ⟨trivial, fun p => ⟨p, trivial⟩, fun i _ _ => by
  unfold tokAt
  rw [Nat.zero_add, List.getD_eq_getElem?_getD, List.getD_eq_getElem?_getD]
  rcases Nat.lt_trichotomy i A.length with hi | hi | hi
  ·rw [List.getElem?_append_left hi, List.getElem?_eq_getElem hi]; exact ⟨_, trivial, rfl⟩
  ·subst hi; rw [List.getElem?_append_right (Nat.le_refl _), List.getElem?_eq_none (Nat.le_refl _), Nat.sub_self]; exact ⟨_, trivial, rfl⟩
  ·rw [List.getElem?_append_right (Nat.le_of_lt hi), List.getElem?_eq_none (Nat.le_of_lt hi), List.getElem?_eq_none (by simp; omega)]; exact ⟨_, trivial, rfl⟩⟩
 have hn := file_n (m := 200000) (rec_n A 200000) false (s := ⟨0, false⟩) (Nat.zero_le _)
 cases hr : fileF 200000 (recN 200000) A false ⟨0, false⟩ with
 | ok t s =>
  have hb := file_b (g s.k) (m := 200000) false ⟨0, false⟩ (Nat.zero_le _)
  rw [hr] at hb
  obtain ⟨x, hx, _⟩ := hb.2.2.2 (Nat.le_refl _)
  rw [show St.sh 0 ⟨0, false⟩ = ⟨0, false⟩ from rfl, h] at hx
  cases hx
 | bad i =>
  have hb := file_b (g i) (m := 200000) false ⟨0, false⟩ (Nat.zero_le _)
  rw [hr] at hb hn
  have hx := hb.2 (Nat.le_refl _)
  rw [show St.sh 0 ⟨0, false⟩ = ⟨0, false⟩ from rfl, h] at hx
  cases hx
  have : i ≤ A.length := hn
  simp; omega
 | out =>
  have hb := file_b (g 0) (m := 200000) false ⟨0, false⟩ (Nat.zero_le _)
  rw [hr] at hb
  exact (hb (by omega)).elim

theorem cut_law {src more : ByteArray} {i : Nat} {t : Tok} (hz : src.size ≤ 4000) (hm : more.size ≤ 4000) (h4 : (parseT src).2.1 = 4) (ht : (scanS src).toks[i]? = some t) (hp : t.pos = (parseT src).2.2)
  (hn : i + 1 < (scanS src).toks.length → (tokAt (scanS src).toks (i + 1)).pos ≠ t.pos) {rest : ByteArray} (hr : rest = bts (src.data.toList.take (cutAt src i) ++ 10 :: more.data.toList))
  (h0 : (scanS rest).stage = 0) (hi : (scanS rest).toks[i]? = some t) : (parseT rest).2.1 = 4 ∧ (parseT rest).2.2 = (parseT src).2.2 := by
 have ls : src.data.toList.length = src.size := by simp
 have lm : more.data.toList.length = more.size := by simp
 obtain ⟨s0, e, hb, hpe⟩ := parseT_bad h4
 obtain ⟨o, ho, hok, ol⟩ := scan_list (by omega) s0
 have hzr : rest.size ≤ 8192 := by rw [hr, bts_size, List.length_append, List.length_cons, List.length_take]; omega
 obtain ⟨o2, ho2, hok2, ol2⟩ := scan_list hzr h0
 have hlen := scanS_len src
 have hcut : cutAt src i = if i + 1 < (scanS src).toks.length then (tokAt (scanS src).toks (i + 1)).pos.toNat else src.size := rfl
 have hpos : ∀ {j : Nat} {u : Tok}, (scanS src).toks[j]? = some u → 0 ≤ u.pos ∧ u.pos ≤ src.size := fun h => scan_pos (by omega) s0 h
 rw [hpe] at hp ⊢
 generalize (scanS src).toks = L at *
 have hil : i < L.length := by
  rcases Nat.lt_or_ge i L.length with h | h
  ·exact h
  ·rw [List.getElem?_eq_none h] at ht; cases ht
 have hti : tokAt L i = t := by have := getE hil; rw [ht] at this; exact (Option.some.inj this).symm
 have hsort := ho.sorted (fun t h => by cases h) .nil
 obtain ⟨A1, e1, hO1⟩ := ho.okt (fun t h => by cases h) hok
 obtain ⟨A2, e2, hO2⟩ := ho2.okt (fun t h => by cases h) hok2
 rw [ol] at hsort e1
 rw [ls, Nat.zero_add] at e1
 have hel : e < L.length := by
  rw [e1] at hb hlen ⊢
  exact bad_lt (by simp at hlen; omega) hb
 have hord : ∀ {a b : Nat}, a < b → b < L.length → (tokAt L a).pos ≤ (tokAt L b).pos := fun {a b} h1 h2 => by
  have := List.pairwise_iff_getElem.1 hsort a b (by omega) h2 h1
  have ga := getE (L := L) (k := a) (by omega)
  have gb := getE h2
  rw [List.getElem?_eq_getElem (by omega)] at ga gb
  rw [← Option.some.inj ga, ← Option.some.inj gb]; exact this
 by_cases hi1 : i + 1 < L.length
 ·rw [if_pos hi1] at hcut
  have hne := hn hi1
  have hle := hord (a := i) (b := i + 1) (by omega) hi1
  rw [hti] at hle
  have hei : e ≤ i := by
   rcases Nat.lt_or_ge i e with h | h
   ·exfalso
    rcases Nat.lt_or_ge (i + 1) e with h' | h'
    ·have := hord h' hel; omega
    ·have : e = i + 1 := by omega
     subst this; omega
   ·exact h
  have hq := hpos (getE hi1)
  have hfin : (src.data.toList.take (cutAt src i)).length = cutAt src i := by rw [List.length_take]; omega
  obtain ⟨l', z, h1, h2, h3, h5⟩ := ho.cut (src.data.toList.take (cutAt src i)) (src.data.toList.drop (cutAt src i)) more.data.toList (List.take_append_drop _ _).symm hok (.inr ⟨i + 1, _, by rw [ol]; exact getE hi1, Nat.zero_le _, by rw [hfin, Nat.zero_add, hcut]; omega⟩)
  rw [hfin, Nat.zero_add] at h3 h5
  rw [ol] at h1
  have hil' : i < l'.length := by
   rcases Nat.lt_or_ge i l'.length with h | h
   ·exact h
   ·exfalso
    rw [h1, List.getElem?_append_right h] at ht
    have := h3 t (List.mem_of_getElem? ht)
    omega
  obtain ⟨o3, ho3⟩ := Scans.total _ (10 :: more.data.toList) (cutAt src i) l' (Nat.le_refl _)
  have ho4 := h5 o3 ho3
  have e3 : o2 = o3 := by
   rw [← ho2.allS]
   exact Scans.allS (by rw [hr, bts_list]; exact ho4)
  obtain ⟨z3, g1, _⟩ := ho3.grow
  rw [← e3, ol2] at g1
  have hag : ∀ j, j ≤ i → tokAt L j = tokAt (scanS rest).toks j := fun j hj => by
   unfold tokAt
   rw [g1, h1, List.getD_eq_getElem?_getD, List.getD_eq_getElem?_getD, List.getElem?_append_left (by omega), List.getElem?_append_left (by omega)]
  have g : Alike Eq L (scanS rest).toks 0 0 e := ⟨rfl, fun p => ⟨p, rfl⟩, fun j _ hj => ⟨_, rfl, by rw [Nat.zero_add, ← hag j (by omega)]⟩⟩
  have hbd := file_b g (m := 200000) false ⟨0, false⟩ (Nat.zero_le _)
  rw [hb] at hbd
  have hx := hbd.2 (Nat.le_refl _)
  rw [show St.sh 0 ⟨0, false⟩ = ⟨0, false⟩ from rfl, Nat.zero_add] at hx
  rw [parseT_badOf h0 hx, ← hag e hei]
  exact ⟨rfl, rfl⟩
 ·exfalso
  rw [if_neg hi1] at hcut
  have hlast : t = ⟨6, (⟨#[]⟩ : ByteArray), 0, ((src.size : Nat) : Int)⟩ := by
   have : i = A1.length := by rw [e1] at hi1 hil; simp at hi1 hil; omega
   rw [e1, this, List.getElem?_append_right (Nat.le_refl _), Nat.sub_self] at ht
   simpa using ht.symm
  rw [← ol2, e2] at hi
  rcases Nat.lt_or_ge i A2.length with h | h
  ·rw [List.getElem?_append_left h] at hi
   have := (hO2 t (List.mem_of_getElem? hi)).1
   rw [hlast] at this
   exact this rfl
  ·rw [List.getElem?_append_right h] at hi
   have := List.mem_of_getElem? hi
   rw [List.mem_singleton, hlast] at this
   have := congrArg Tok.pos this
   simp only [Nat.zero_add] at this
   rw [hr, bts_list, List.length_append, List.length_take, List.length_cons, hcut] at this
   omega

end Go.Proofs.ZL
