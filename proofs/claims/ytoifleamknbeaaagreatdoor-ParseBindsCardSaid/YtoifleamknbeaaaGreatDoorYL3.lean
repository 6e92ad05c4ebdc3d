/- The lexer, third part: the scan. -/
import Derived.Test.YtoifleamknbeaaaGreatDoorYL2
section
open Go Go.Am
namespace Go.Proofs.ZL
set_option maxRecDepth 100000
set_option linter.unusedSimpArgs false
set_option linter.unusedVariables false
set_option maxHeartbeats 4000000

def noLine (c : Int) : Bool := decide (c ≠ 10)
theorem tells_noLine : Tells 63 noLine := ⟨en63, fun c h Q hc hq => by
 refine WCall.walk hX Tryz.func63 rfl rfl Tryz.ntmps63 rfl ?_
 refine QN hX ?_;refine QK (Qb ?_);refine QO hX ?_;refine QK (Qa ?_);refine QK (QE ?_ ?_);intro hh;refine QK (Qb ?_);refine QM ?_;rotate_left;intro hh;refine QK (Qb ?_);refine QM ?_;rotate_left
 all_goals (refine ⟨_, rfl, ret_bool ?_ hq⟩; symm; unfold noLine; first | (rw [decide_eq_true_eq]; exact hh) | (rw [decide_eq_false_iff_not]; exact hh))⟩

def rest (src : ByteArray) (k : Nat) : ByteArray := bsub src k src.size
def slashes (src : ByteArray) (k : Nat) : Bool := decide ((⟨#[47, 47]⟩ : ByteArray).size ≤ (rest src k).size ∧ bsub (rest src k) 0 (⟨#[47, 47]⟩ : ByteArray).size = (⟨#[47, 47]⟩ : ByteArray))

theorem rest_size {src : ByteArray} {k : Nat} (hk : k ≤ src.size) : (rest src k).size = src.size - k := by
 have := bsub_size (s := src) (l := k) (r := src.size) (by omega)
 unfold rest; omega

theorem slashes_w {src : ByteArray} {k : Nat} {h : Heap} {Q : ARes → Prop} (hz : src.size ≤ 100000) (hk : k ≤ src.size) (hq : Q (.ret (.bool (slashes src k)) h)) : WCall Tryz.prog G X 61 [.string (bsub src k src.size), .string (⟨#[47, 47]⟩ : ByteArray)] h Q :=
 hasPrefix_w (by have := rest_size hk; unfold rest at this; omega) (by decide) hq

def nextS (src : ByteArray) (k : Nat) (l : List Tok) : Out :=
 if byteN src k = 32 ∨ byteN src k = 9 then ⟨.ok, k + 1, l⟩
 else if byteN src k = 10 then ⟨.ok, k + 1, lineL k l⟩
 else if slashes src k then ⟨.ok, k + runN noLine src k, l⟩
 else if letterN (byteN src k) then nameS src k l
 else if digitN (byteN src k) then numberS src k l
 else if byteN src k = 34 then textS src k l
 else if markOf (rest src k) = (⟨#[]⟩ : ByteArray) then ⟨.stuck k, k, l⟩
 else ⟨.ok, k + (markOf (rest src k)).size, l ++ [⟨5, markOf (rest src k), 0, k⟩]⟩

theorem Sc.put {h : Heap} {s : Nat} {src : ByteArray} {k' : Nat} {l : List Tok} {b : Option Addr} {n es : Nat} (hlt : s < h.next) (ht : Toks h (s + 1) b n es l) :
  Sc (h.put s (some (.cells false [.string src, .int .i64 k', .slice b n es]))) s src k' l ∧ Fr s h (h.put s (some (.cells false [.string src, .int .i64 k', .slice b n es]))) :=
 ⟨⟨hlt, b, n, es, obj_put, ht.mono (Nat.le_refl _) fun j hj _ => obj_else (by omega) rfl⟩, Nat.le_refl _, fun j hj => obj_else (by omega) rfl⟩

theorem next_w {s : Nat} {src : ByteArray} {k : Nat} {l : List Tok} {h : Heap} {Q : ARes → Prop} (hs : Sc h s src k l) (hl : l.length ≤ 100000) (hz : src.size ≤ 100000) (hk : k < src.size)
  (hq : ∀ h', Sc h' s src (nextS src k l).pos (nextS src k l).list → Fr s h h' → Q (.ret (nextS src k l).err.val h')) : WCall Tryz.prog G X 48 [.pointer (some ⟨s, 0, none⟩)] h Q := by
 have hs0 := hs
 obtain ⟨hlt, b, n, es, ho, ht⟩ := hs
 refine WCall.walk hX Tryz.func48 rfl rfl Tryz.ntmps48 rfl ?_
 refine QN hX ?_;refine QK (Qb ?_);refine QL ?_;refine QU hX ?_;refine WC.drawn (id := 1) hX (l := [⟨0, .pure, 0⟩, ⟨1, .pure, 1⟩, ⟨2, .pure, 3⟩, ⟨3, .read, 7⟩, ⟨4, .pure, 0⟩, ⟨5, .pure, 16⟩, ⟨6, .pure, 48⟩, ⟨7, .read, 112⟩, ⟨8, .pure, 255⟩, ⟨9, .pure, 511⟩]) (hw := ?_);refine QW (k := Qa ?_);refine QW (k := Qi ?_);refine QW (k := Qj ?_);refine QX (k := Qt ?_);refine QW (k := Qa ?_);refine QW (k := Qi ?_);refine QW (k := Qj ?_);refine QX (k := Qt ?_);refine QW (k := Qm ?_);refine QW (k := Qb ?_);refine WD.nil (hq := ?_);refine QU hX ?_;refine WC.block hX ?_;refine QN hX ?_;refine QK (Qa ?_);refine QK (QD ?_ ?_);intro hh;refine QK (Qa ?_);refine QK (QA ?_);refine QK (QA ?_);refine QK (Qc ?_);refine QK (Qb ?_);refine QQ hX ?_;refine QV hX ?_;refine QK (Qa ?_);refine QK (Qi ?_);refine QK (Qj ?_);refine QK (Qt ?_);refine QK (Qf ?_);refine QK (Qi ?_);refine QK (Qj ?_);refine QK (Qv ?_);refine QO hX ?_;refine QK (Qb ?_);refine QM ?_;rotate_left;intro hh;refine QK (Qa ?_);refine QK (Qa ?_);refine QK (QD ?_ ?_);intro hh;refine QK (Qd ?_);refine QK (Qb ?_);refine QQ hX ?_;refine QV hX ?_;refine QK (Qa ?_);refine QK (Qi ?_);refine QK (Qj ?_);refine QK (Qt ?_);refine QK (Qf ?_);refine QK (Qi ?_);refine QK (Qj ?_);refine QK (Qv ?_);refine QO hX ?_;refine QK (Qb ?_);refine QM ?_;rotate_left;intro hh;refine QK (Qd ?_);refine QK (Qb ?_);refine QP hX ?_;refine QN hX ?_;refine QK (Qa ?_);refine QK (QD ?_ ?_);intro hh;refine QK (Qb ?_);refine QQ hX ?_;refine QN hX ?_;refine QK (Qa ?_);refine QK ?_;rotate_left;intro hh;refine QK (Qb ?_);refine QP hX ?_;refine QU hX ?_;refine WC.drawn (id := 11) hX (l := [⟨0, .pure, 0⟩, ⟨1, .pure, 1⟩, ⟨2, .pure, 3⟩, ⟨3, .read, 7⟩, ⟨4, .pure, 0⟩, ⟨5, .pure, 16⟩, ⟨6, .pure, 48⟩, ⟨7, .read, 112⟩, ⟨8, .pure, 255⟩, ⟨9, .heavy, 511⟩, ⟨10, .pure, 1023⟩]) (hw := ?_);refine QW (k := Qa ?_);refine QW (k := Qi ?_);refine QW (k := Qj ?_);refine QX (k := Qt ?_);refine QW (k := Qa ?_);refine QW (k := Qi ?_);refine QW (k := Qj ?_);refine QX (k := Qt ?_);refine QW (k := WS.sliceSlo (hk := ?_));refine WD.heavy hX (hw := ?_);rotate_left
 ·have hn : nextS src k l = ⟨.ok, k + 1, l⟩ := by unfold nextS; rw [if_pos (.inl hh)]
  rw [hn] at hq
  have hp := Sc.put (src := src) (k' := k + 1) hlt ht
  simp only [Int.natCast_add, Int.natCast_one] at hp
  exact ⟨_, rfl, hq _ hp.1 hp.2⟩
 ·have hn : nextS src k l = ⟨.ok, k + 1, l⟩ := by unfold nextS; rw [if_pos (.inr hh)]
  rw [hn] at hq
  have hp := Sc.put (src := src) (k' := k + 1) hlt ht
  simp only [Int.natCast_add, Int.natCast_one] at hp
  exact ⟨_, rfl, hq _ hp.1 hp.2⟩
 ·have hn : nextS src k l = ⟨.ok, k + 1, lineL k l⟩ := by unfold nextS; rw [if_neg (by omega), if_pos hh]
  rw [hn] at hq
  refine QJ en49 ?_
  refine line_w hs0 hl (by omega) fun h1 hs1 fr1 => ?_
  obtain ⟨hlt1, b1, n1, es1, ho1, ht1⟩ := hs1
  refine QL ?_;refine QV hX ?_;refine QK (Qa ?_);refine QK (Qi ?_);refine QK (Qj ?_);refine QK (Qt ?_);refine QK (Qf ?_);refine QK (Qi ?_);refine QK (Qj ?_);refine QK (Qv ?_);refine QO hX ?_;refine QK (Qb ?_);refine QM ?_
  have hp := Sc.put (src := src) (k' := k + 1) hlt1 ht1
  simp only [Int.natCast_add, Int.natCast_one] at hp
  exact ⟨_, rfl, hq _ hp.1 (fr1.trans hp.2)⟩
 ·refine QJ en61 ?_
  refine slashes_w hz (Nat.le_of_lt hk) ?_
  cases hsl : slashes src k
  ·refine QW (k := Qb ?_);refine WD.nil (hq := ?_);refine QS hX ?_;refine QN hX ?_;refine QK (Qa ?_);refine QK ?_
   refine QJ en64 ?_
   refine letter_w ?_
   cases hle : letterN (byteN src k)
   ·refine QK (Qb ?_);refine QP hX ?_;refine QN hX ?_;refine QK (Qa ?_);refine QK ?_
    refine QJ en66 ?_
    refine digit_w ?_
    cases hdi : digitN (byteN src k)
    ·refine QK (Qb ?_);refine QP hX ?_;refine QN hX ?_;refine QK (Qa ?_);refine QK (QD ?_ ?_);intro hh;refine QK (Qb ?_);refine QQ hX ?_;refine QN hX ?_;refine QK (Qa ?_);refine QK ?_;rotate_left;intro hh;refine QK (Qb ?_);refine QP hX ?_;refine QU hX ?_;refine WC.drawn (id := 2) hX (l := [⟨0, .pure, 0⟩, ⟨1, .pure, 1⟩, ⟨2, .pure, 3⟩, ⟨3, .read, 7⟩, ⟨4, .pure, 0⟩, ⟨5, .pure, 16⟩, ⟨6, .pure, 48⟩, ⟨7, .read, 112⟩, ⟨8, .pure, 255⟩, ⟨9, .heavy, 511⟩, ⟨10, .pure, 1023⟩]) (hw := ?_);refine QW (k := Qa ?_);refine QW (k := Qi ?_);refine QW (k := Qj ?_);refine QX (k := Qt ?_);refine QW (k := Qa ?_);refine QW (k := Qi ?_);refine QW (k := Qj ?_);refine QX (k := Qt ?_);refine QW (k := WS.sliceSlo (hk := ?_));refine WD.heavy hX (hw := ?_);rotate_left
     ·have hn : nextS src k l = textS src k l := by unfold nextS; rw [if_neg (by omega), if_neg (by omega), hsl, hle, hdi]; simp only [Bool.false_eq_true, if_false]; rw [if_pos hh]
      rw [hn] at hq
      refine QJ en68 ?_
      refine text_w hs0 hl hz hk fun h1 hs1 fr1 => ?_
      refine QK (Qb ?_);refine QM ?_
      exact ⟨_, rfl, hq _ hs1 fr1⟩
     ·refine QJ en69 ?_
      have hrs := rest_size (Nat.le_of_lt hk)
      refine mark_w (s := rest src k) (by omega) ?_
      have hn : nextS src k l = if markOf (rest src k) = (⟨#[]⟩ : ByteArray) then ⟨.stuck k, k, l⟩ else ⟨.ok, k + (markOf (rest src k)).size, l ++ [⟨5, markOf (rest src k), 0, k⟩]⟩ := by
       unfold nextS; rw [if_neg (by omega), if_neg (by omega), hsl, hle, hdi]; simp only [Bool.false_eq_true, if_false]; rw [if_neg hh]
      have hms : (markOf (rest src k)).size ≤ 2 := by
       unfold markOf
       split
       ·have := bsub_size (s := rest src k) (l := 0) (r := 2) (by omega); omega
       ·split
        ·have := bsub_size (s := rest src k) (l := 0) (r := 1) (by omega); omega
        ·decide
      refine QW (k := Qb ?_);refine WD.nil (hq := ?_);refine QU hX ?_;refine QN hX ?_;refine QK (Qa ?_);refine QK (QB ?_ ?_);intro hh;refine QQ hX ?_;refine QN hX ?_;refine QK (Qa ?_);refine QK (Qi ?_);refine QK (Qj ?_);refine QK (Qt ?_);refine QK (Qn ?_);refine QK (Qo ?_);refine QK (Qb ?_);refine QM ?_;rotate_left;intro hh;refine QP hX ?_;refine UA ?_;refine QV hX ?_;refine QK (Qa ?_);refine QK (Qa ?_);refine QK (Qa ?_);refine QK (Qr ?_);refine QK ?_;rotate_left
      ·rw [hn, if_pos hh] at hq
       exact ⟨_, rfl, hq _ hs0 (Fr.refl _ _)⟩
      ·rw [hn, if_neg hh] at hq
       refine QJ en50 ?_
       refine add_w hs0 hl (by omega) (by omega) fun h2 hs2 fr2 => ?_
       refine QO hX ?_;refine QK (Qb ?_);refine QM ?_
       exact ⟨_, rfl, hq _ hs2 fr2⟩
    ·refine QK (Qb ?_);refine QQ hX ?_;refine QN hX ?_;refine QK (Qa ?_);refine QK ?_
     have hn : nextS src k l = numberS src k l := by unfold nextS; rw [if_neg (by omega), if_neg (by omega), hsl, hle, hdi]; simp only [Bool.false_eq_true, if_false, if_true]
     rw [hn] at hq
     refine QJ en67 ?_
     refine number_w hs0 hl hz hk hdi fun h1 hs1 fr1 => ?_
     refine QK (Qb ?_);refine QM ?_
     exact ⟨_, rfl, hq _ hs1 fr1⟩
   ·refine QK (Qb ?_);refine QQ hX ?_;refine QN hX ?_;refine QK (Qa ?_);refine QK ?_
    have hn : nextS src k l = nameS src k l := by unfold nextS; rw [if_neg (by omega), if_neg (by omega), hsl, hle]; simp only [Bool.false_eq_true, if_false, if_true]
    rw [hn] at hq
    refine QJ en65 ?_
    refine lname_w hs0 hl hz (Nat.le_of_lt hk) fun h1 hs1 fr1 => ?_
    refine QK (Qb ?_);refine QM ?_
    exact ⟨_, rfl, hq _ hs1 fr1⟩
  ·have hn : nextS src k l = ⟨.ok, k + runN noLine src k, l⟩ := by unfold nextS; rw [if_neg (by omega), if_neg (by omega), hsl]; simp only [if_true]
   rw [hn] at hq
   have hrun := runN_le (p := noLine) (Nat.le_of_lt hk)
   refine QW (k := Qb ?_);refine WD.nil (hq := ?_);refine QR hX ?_;refine WC.drawn (id := 12) hX (l := [⟨0, .pure, 0⟩, ⟨1, .pure, 1⟩, ⟨2, .pure, 3⟩, ⟨3, .read, 7⟩, ⟨4, .pure, 0⟩, ⟨5, .heavy, 16⟩, ⟨6, .pure, 63⟩, ⟨7, .pure, 127⟩, ⟨8, .pure, 255⟩, ⟨9, .heavy, 511⟩]) (hw := ?_);refine QW (k := Qa ?_);refine QW (k := Qi ?_);refine QW (k := Qj ?_);refine QX (k := Qt ?_);refine QW (k := Qa ?_);refine WD.heavy hX (hw := ?_)
   refine QJ en62 ?_
   refine run_w tells_noLine hz ho (Nat.le_of_lt hk) ?_
   refine QW (k := Qf ?_);refine QW (k := Qi ?_);refine QW (k := Qj ?_);refine WD.heavy hX (hw := Qv ?_);refine WD.nil (hq := ?_);refine QN hX ?_;refine QK (Qb ?_);refine QM ?_
   have hp := Sc.put (src := src) (k' := k + runN noLine src k) hlt ht
   simp only [Int.natCast_add] at hp
   exact ⟨_, rfl, hq _ hp.1 hp.2⟩

end Go.Proofs.ZL
end

section
open Go Go.Am
namespace Go.Proofs.ZL
set_option maxRecDepth 100000
set_option linter.unusedSimpArgs false
set_option linter.unusedVariables false
set_option maxHeartbeats 4000000

def SErr.isOk : SErr → Bool
 | .ok => true
 | _ => false

theorem runN_pos {p : Int → Bool} {src : ByteArray} {k : Nat} (hk : k < src.size) (hp : p (byteN src k) = true) : 1 ≤ runN p src k := by
 obtain ⟨c, hc, hw⟩ := byteN_get hk
 unfold runN
 rw [List.drop_eq_getElem_cons (by simpa using hk), List.takeWhile_cons]
 rw [List.getElem?_eq_getElem (by simpa using hk)] at hc
 rw [Option.some.inj hc, ← hw, if_pos hp]
 simp

theorem lineL_len (k : Nat) (l : List Tok) : (lineL k l).length ≤ l.length + 1 := by
 unfold lineL; split <;> simp

theorem textGo_ok {src : ByteArray} {k : Nat} {l : List Tok} : ∀ (m i : Nat) (out : List Int), k < i → (textGo src k l m i out).err.isOk = true →
  k < (textGo src k l m i out).pos ∧ (textGo src k l m i out).pos ≤ src.size ∧ (textGo src k l m i out).list.length = l.length + 1
 | 0, i, out, _, h => by simp [textGo, SErr.isOk] at h
 | m + 1, i, out, hi, h => by
  unfold textGo at h ⊢
  split at h
  ·simp [SErr.isOk] at h
  rename_i h1
  rw [if_neg h1]
  split at h
  ·rename_i h2
   rw [if_pos h2]
   split at h
   ·simp [SErr.isOk] at h
   ·rename_i h3
    rw [if_neg h3]
    refine ⟨by simp only; omega, by simp only; omega, by simp⟩
  rename_i h2
  rw [if_neg h2]
  split at h
  ·rename_i h3
   rw [if_pos h3]
   split at h
   ·rename_i h4
    rw [if_pos h4]
    exact textGo_ok m _ _ (by omega) h
   ·simp [SErr.isOk] at h
  rename_i h3
  rw [if_neg h3]
  split at h
  ·simp [SErr.isOk] at h
  rename_i h4
  rw [if_neg h4]
  exact textGo_ok m _ _ (by omega) h

theorem markOf_size (s : ByteArray) : (markOf s).size ≤ 2 ∧ (markOf s).size ≤ s.size ∧ (markOf s ≠ (⟨#[]⟩ : ByteArray) → 1 ≤ (markOf s).size) := by
 unfold markOf
 split
 ·have := bsub_size (s := s) (l := 0) (r := 2) (by omega); omega
 ·split
  ·have := bsub_size (s := s) (l := 0) (r := 1) (by omega); omega
  ·exact ⟨by decide, by simp, fun h => (h rfl).elim⟩

theorem nextS_ok {src : ByteArray} {k : Nat} {l : List Tok} (hk : k < src.size) (h : (nextS src k l).err.isOk = true) :
  k < (nextS src k l).pos ∧ (nextS src k l).pos ≤ src.size ∧ (nextS src k l).list.length ≤ l.length + 1 := by
 unfold nextS at h ⊢
 split at h
 ·rename_i h1; rw [if_pos h1]; exact ⟨by simp only; omega, by simp only; omega, by simp⟩
 rename_i h1; rw [if_neg h1]
 split at h
 ·rename_i h2; rw [if_pos h2]; exact ⟨by simp only; omega, by simp only; omega, lineL_len k l⟩
 rename_i h2; rw [if_neg h2]
 split at h
 ·rename_i h3; rw [if_pos h3]
  have := runN_le (p := noLine) (Nat.le_of_lt hk)
  have := runN_pos (p := noLine) hk (by unfold noLine; rw [decide_eq_true_eq]; exact h2)
  exact ⟨by simp only; omega, by simp only; omega, by simp⟩
 rename_i h3; rw [if_neg h3]
 split at h
 ·rename_i h4; rw [if_pos h4]
  have := runN_le (p := alnumN) (Nat.le_of_lt hk)
  have := runN_pos (p := alnumN) hk (by unfold alnumN; rw [h4]; rfl)
  unfold nameS at h ⊢
  split at h
  ·simp [SErr.isOk] at h
  ·rename_i h5; rw [if_neg h5]; exact ⟨by simp only; omega, by simp only; omega, by simp⟩
 rename_i h4; rw [if_neg h4]
 split at h
 ·rename_i h5; rw [if_pos h5]
  have := runN_le (p := digitN) (Nat.le_of_lt hk)
  have := runN_pos (p := digitN) hk h5
  unfold numberS at h ⊢
  split at h
  ·simp [SErr.isOk] at h
  rename_i h6; rw [if_neg h6]
  split at h
  ·simp [SErr.isOk] at h
  rename_i h7; rw [if_neg h7]
  split at h
  ·simp [SErr.isOk] at h
  rename_i h8; rw [if_neg h8]
  exact ⟨by simp only; omega, by simp only; omega, by simp⟩
 rename_i h5; rw [if_neg h5]
 split at h
 ·rename_i h6; rw [if_pos h6]
  have := textGo_ok _ _ _ (Nat.lt_succ_self k) h
  exact ⟨this.1, this.2.1, Nat.le_of_eq this.2.2⟩
 rename_i h6; rw [if_neg h6]
 split at h
 ·simp [SErr.isOk] at h
 rename_i h7; rw [if_neg h7]
 have hm := markOf_size (rest src k)
 have hr := rest_size (Nat.le_of_lt hk)
 have := hm.2.2 h7
 exact ⟨by simp only; omega, by simp only; omega, by simp⟩

def allGo (src : ByteArray) : Nat → Nat → List Tok → Out
 | 0, k, l => ⟨.ok, k, l⟩
 | m + 1, k, l => if src.size ≤ k then ⟨.ok, k, lineL k l ++ [⟨6, (⟨#[]⟩ : ByteArray), 0, k⟩]⟩ else if (nextS src k l).err.isOk then allGo src m (nextS src k l).pos (nextS src k l).list else nextS src k l

def allS (src : ByteArray) : Out := allGo src (src.size + 1) 0 []

theorem val_ok {e : SErr} (h : e.isOk = true) : e = .ok := by cases e <;> simp [SErr.isOk] at h; rfl

theorem all_w {s : Nat} {src : ByteArray} {h : Heap} {Q : ARes → Prop} (hs : Sc h s src 0 []) (hz : src.size ≤ 20000)
  (hq : ∀ h', Sc h' s src (allS src).pos (allS src).list → Fr s h h' → Q (.ret (allS src).err.val h')) : WCall Tryz.prog G X 28 [.pointer (some ⟨s, 0, none⟩)] h Q := by
 refine WCall.walk hX Tryz.func28 rfl rfl Tryz.ntmps28 rfl ?_
 refine QN hX ?_;refine QK (Qb ?_);refine QL ?_;refine QU hX ?_;refine WC.block hX ?_
 refine WC.loopInv hX (α := Nat × Nat × List Tok) (m := fun a => a.1) (Inv := fun a e h' => e 0 = some (.pointer (some ⟨s, 0, none⟩)) ∧ Sc h' s src a.2.1 a.2.2 ∧ Fr s h h' ∧ a.2.1 ≤ src.size ∧ a.2.2.length ≤ a.2.1 ∧ src.size + 1 ≤ a.1 + a.2.1 ∧ allGo src a.1 a.2.1 a.2.2 = allS src)
  (src.size + 1, 0, []) ⟨rfl, hs, Fr.refl _ _, by simp, by simp, by simp, rfl⟩ ?_
 rintro ⟨m, k, l⟩ env h1 ih ⟨e0, hs1, fr1, hk, hlk, hm, heq⟩
 simp only at hs1 hk hlk hm heq
 have hs1' := hs1
 obtain ⟨hlt1, b1, n1, es1, ho1, ht1⟩ := hs1
 obtain ⟨m, rfl⟩ : ∃ m', m = m' + 1 := ⟨m - 1, by omega⟩
 unfold allGo at heq
 refine QU hX ?_;refine QU hX ?_;refine WC.drawn (id := 1) hX (l := [⟨0, .pure, 0⟩, ⟨1, .pure, 1⟩, ⟨2, .pure, 3⟩, ⟨3, .read, 7⟩, ⟨4, .pure, 0⟩, ⟨5, .pure, 16⟩, ⟨6, .pure, 48⟩, ⟨7, .read, 112⟩, ⟨8, .read, 240⟩, ⟨9, .pure, 511⟩]) (hw := ?_);refine QW (k := Qa ?_);refine QW (k := Qi ?_);refine QW (k := Qj ?_);refine QX (k := Qt ?_);refine QW (k := Qa ?_);refine QW (k := Qi ?_);refine QW (k := Qj ?_);refine QX (k := Qt ?_);refine QX (k := Qr ?_);refine QW (k := QF ?_ ?_);intro hh;refine WD.nil (hq := ?_);refine QR hX ?_;refine UA ?_;refine WC.block hX ?_;refine QN hX ?_;refine QK (Qa ?_);refine QK ?_;rotate_left;intro hh;refine WD.nil (hq := ?_);refine QS hX ?_;refine WC.exit ?_;refine exit_here ?_;refine QN hX ?_;refine QK (Qa ?_);refine QK ?_;rotate_left
 ·refine QJ en48 ?_
  rw [if_neg (by omega)] at heq
  refine next_w hs1' (by omega) (by omega) (by omega) fun h2 hs2 fr2 => ?_
  cases hok : (nextS src k l).err with
  | ok =>
   have hok' : (nextS src k l).err.isOk = true := by rw [hok]; rfl
   have hnx := nextS_ok (by omega) hok'
   rw [if_pos hok'] at heq
   simp only [SErr.val]
   refine QK (Qb ?_);refine QO hX ?_;refine QK (Qa ?_);refine QK (WS.neG (h1 := ?_) (h2 := ?_));intro hh;exact Bool.noConfusion hh;intro hh;refine QP hX ?_;refine UA ?_
   exact ih (m, (nextS src k l).pos, (nextS src k l).list) _ _ (by simp) ⟨e0, hs2, fr1.trans fr2, hnx.2.1, by simp only; omega, by simp only; omega, heq⟩
  | stuck p =>
   rw [if_neg (by rw [hok]; simp [SErr.isOk])] at heq
   rw [← heq, hok] at hq
   simp only [SErr.val]
   refine QK (Qb ?_);refine QO hX ?_;refine QK (Qa ?_);refine QK (WS.neG (h1 := ?_) (h2 := ?_));intro hh;refine QQ hX ?_;refine QN hX ?_;refine QK (Qa ?_);refine QK (Qb ?_);refine QM ?_;rotate_left;intro hh;exact Bool.noConfusion hh
   exact ⟨_, rfl, hq _ hs2 (fr1.trans fr2)⟩
  | long w p =>
   rw [if_neg (by rw [hok]; simp [SErr.isOk])] at heq
   rw [← heq, hok] at hq
   simp only [SErr.val]
   refine QK (Qb ?_);refine QO hX ?_;refine QK (Qa ?_);refine QK (WS.neG (h1 := ?_) (h2 := ?_));intro hh;refine QQ hX ?_;refine QN hX ?_;refine QK (Qa ?_);refine QK (Qb ?_);refine QM ?_;rotate_left;intro hh;exact Bool.noConfusion hh
   exact ⟨_, rfl, hq _ hs2 (fr1.trans fr2)⟩
 ·refine QJ en49 ?_
  rw [if_pos (by omega)] at heq
  rw [← heq] at hq
  refine line_w hs1' (by omega) (by omega) fun h2 hs2 fr2 => ?_
  refine QO hX ?_;refine QK (Qa ?_);refine QK ?_
  refine QJ en50 ?_
  have := lineL_len k l
  refine add_w (size := 0) hs2 (by omega) (by omega) (by omega) fun h3 hs3 fr3 => ?_
  refine QO hX ?_;refine QK (Qb ?_);refine QM ?_
  exact ⟨_, rfl, hq _ hs3 ((fr1.trans fr2).trans fr3)⟩

end Go.Proofs.ZL
end

section
open Go Go.Am
namespace Go.Proofs.ZL
set_option maxRecDepth 100000
set_option linter.unusedSimpArgs false
set_option linter.unusedVariables false
set_option maxHeartbeats 4000000

def opensB : List ByteArray := [(⟨#[40]⟩ : ByteArray), (⟨#[91]⟩ : ByteArray), (⟨#[123]⟩ : ByteArray)]
def closesB : List ByteArray := [(⟨#[41]⟩ : ByteArray), (⟨#[93]⟩ : ByteArray), (⟨#[125]⟩ : ByteArray)]

def deepGo : List Tok → Int → Option Int
 | [], _ => none
 | t :: r, n =>
  if t.kind ≠ 5 then deepGo r n
  else if inS opensB t.text then (if 40 < n + 1 then some t.pos else deepGo r (n + 1))
  else if inS closesB t.text then deepGo r (if n - 1 > 0 then n - 1 else 0)
  else deepGo r n

def deepV : Option Int → Value
 | none => .tuple #[.int .i64 0, .bool false]
 | some p => .tuple #[.int .i64 p, .bool true]

theorem deep_w {lo : Nat} {b : Option Addr} {n es : Nat} {l : List Tok} {h : Heap} {Q : ARes → Prop} (ht : Toks h lo b n es l) (hl : l.length ≤ 100000)
    (hq : ∀ h', Gr h h' → Q (.ret (deepV (deepGo l 0)) h')) : WCall Tryz.prog G X 29 [.slice b n es] h Q := by
  have hlen := ht.len
  generalize hD : deepGo l 0 = D at *
  refine WCall.walk hX Tryz.func29 rfl rfl Tryz.ntmps29 rfl ?_
  refine QN hX ?_;refine QK (Qb ?_);refine QK (Qb ?_);refine QO hX ?_;refine QK (Qb ?_);refine QL ?_;refine QU hX ?_;refine QN hX ?_;refine QK (Qa ?_);refine QK (Qs ?_);refine QK (Qa ?_);refine QL ?_;refine WC.block hX ?_
  refine WC.loopInv hX (α := Nat × Int) (m := fun a => l.length - a.1) (Inv := fun a e h' => e 4 = some (.int .i64 a.2) ∧ e 7 = some (.slice b n es) ∧ e 8 = some (.int .i64 n) ∧ e 9 = some (.int .i64 (a.1 : Nat)) ∧ Gr h h' ∧ a.1 ≤ l.length ∧ 0 ≤ a.2 ∧ a.2 ≤ 40 ∧ deepGo (l.drop a.1) a.2 = D)
    (0, 0) ⟨rfl, rfl, rfl, rfl, Gr.refl _, by simp, by simp, by simp, by simpa using hD⟩ ?_
  rintro ⟨i, c⟩ env h1 ih ⟨e4, e7, e8, e9, hg, hi, hc0, hc40, heq⟩
  simp only at e4 e9 hi hc0 hc40 heq
  have hgn := hg.1
  by_cases hil : i < l.length
  · rcases ht with ⟨_, rfl, _, rfl⟩ | ⟨j, rfl, h1j, h2j, rfl, _, h3j⟩
    · simp at hil
    have hget : l[i]? = some l[i] := List.getElem?_eq_getElem hil
    rw [List.drop_eq_getElem_cons hil] at heq
    unfold deepGo at heq
    generalize l[i] = t at *
    have h3' := hg.at h2j h3j
    refine QN hX ?_;refine QK (QF ?_ ?_);intro hh;refine QL ?_;refine QU hX ?_;refine QR hX ?_;refine UA ?_;refine QU hX ?_;refine WC.block hX ?_;refine QN hX ?_;refine QK (Ql ?_);refine QK ?_;rotate_left;intro hh;exfalso;omega
    refine WS.loadG (vs := t.cells) (hc := ?_) (hv' := ?_) (hk := ?_)
    (· rw [cellsOf_length]; omega); (· rw [show 0 + (i : Int).toNat * 4 = i * 4 by omega, cells_at hget]; rfl)
    refine QK (Qw ?_);refine QK (Qv ?_);refine QL ?_;refine QU hX ?_;refine QN hX ?_;refine QK (Qj ?_);refine QK (Qt ?_);refine QK (QE ?_ ?_);intro hh;refine QQ hX ?_;refine WC.exit ?_;refine exit_here ?_;refine QV hX ?_;refine QK (Qf ?_);refine QK (Qa ?_);refine QL ?_;rotate_left;intro hh;refine QP hX ?_;refine UA ?_;refine QN hX ?_;refine QK (Qj ?_);refine QK (Qt ?_);refine QL ?_;refine WC.block hX ?_;refine QU hX ?_;refine QN hX ?_;refine QK (QB ?_ ?_);intro hh;refine QK (Qb ?_);refine QQ hX ?_;refine UA ?_;refine QR hX ?_;refine QN hX ?_;refine QK (Qa ?_);refine QK (Qf ?_);refine QK (Qb ?_);refine QO hX ?_;refine QK (Qa ?_);refine QK (QH ?_ ?_);intro hh;refine QQ hX ?_;refine QN hX ?_;refine QK (Qj ?_);refine QK (Qt ?_);refine QK (Qb ?_);refine QK (Qb ?_);refine QM ?_;rotate_left;intro hh;refine QP hX ?_;refine UA ?_;refine QV hX ?_;refine QK (Qf ?_);refine QK (Qa ?_);refine QL ?_;rotate_left;intro hh;refine QK (Qb ?_);refine QP hX ?_;refine QN hX ?_;refine QK (QB ?_ ?_);intro hh;refine QK (Qb ?_);refine QQ hX ?_;refine UA ?_;refine QR hX ?_;refine QN hX ?_;refine QK (Qa ?_);refine QK (Qf ?_);refine QK (Qb ?_);refine QO hX ?_;refine QK (Qa ?_);refine QK (QH ?_ ?_);intro hh;refine QQ hX ?_;refine QN hX ?_;refine QK (Qj ?_);refine QK (Qt ?_);refine QK (Qb ?_);refine QK (Qb ?_);refine QM ?_;rotate_left;intro hh;refine QP hX ?_;refine UA ?_;refine QV hX ?_;refine QK (Qf ?_);refine QK (Qa ?_);refine QL ?_;rotate_left;intro hh;refine QK (Qb ?_);refine QP hX ?_;refine QV hX ?_;refine QK (QB ?_ ?_);intro hh;refine QK (Qb ?_);refine QQ hX ?_;refine QN hX ?_;refine QK (Qa ?_);refine QK (Qf ?_);refine QK (Qb ?_);refine QO hX ?_;refine QK (Qa ?_);refine QK (QH ?_ ?_);intro hh;refine QQ hX ?_;refine QN hX ?_;refine QK (Qj ?_);refine QK (Qt ?_);refine QK (Qb ?_);refine QK (Qb ?_);refine QM ?_;rotate_left;intro hh;refine QP hX ?_;refine UA ?_;refine QV hX ?_;refine QK (Qf ?_);refine QK (Qa ?_);refine QL ?_;rotate_left;intro hh;refine QK (Qb ?_);refine QP hX ?_;refine QU hX ?_;refine QN hX ?_;refine QK (QB ?_ ?_);intro hh;refine QK (Qb ?_);refine QQ hX ?_;refine UA ?_;refine QR hX ?_;refine QV hX ?_;refine QK (Qa ?_);refine QK (Qg ?_);refine QK (WS.max (hk := ?_));refine QK (Qb ?_);refine QL ?_;refine QV hX ?_;refine QK (Qf ?_);refine QK (Qa ?_);refine QL ?_;rotate_left;intro hh;refine QK (Qb ?_);refine QP hX ?_;refine QN hX ?_;refine QK (QB ?_ ?_);intro hh;refine QK (Qb ?_);refine QQ hX ?_;refine UA ?_;refine QR hX ?_;refine QV hX ?_;refine QK (Qa ?_);refine QK (Qg ?_);refine QK (WS.max (hk := ?_));refine QK (Qb ?_);refine QL ?_;refine QV hX ?_;refine QK (Qf ?_);refine QK (Qa ?_);refine QL ?_;rotate_left;intro hh;refine QK (Qb ?_);refine QP hX ?_;refine QV hX ?_;refine QK (QB ?_ ?_);intro hh;refine QK (Qb ?_);refine QQ hX ?_;refine QV hX ?_;refine QK (Qa ?_);refine QK (Qg ?_);refine QK (WS.max (hk := ?_));refine QK (Qb ?_);refine QL ?_;refine QV hX ?_;refine QK (Qf ?_);refine QK (Qa ?_);refine QL ?_;rotate_left;intro hh;refine QK (Qb ?_);refine QP hX ?_;refine UA ?_;refine QV hX ?_;refine QK (Qf ?_);refine QK (Qa ?_);refine QL ?_;rotate_left
    all_goals (try (have hk5 : ¬t.kind ≠ 5 := by assumption))
    all_goals first
      | (rw [if_pos hh] at heq
         exact ih (i + 1, c) _ _ (by simp only; omega) ⟨e4, e7, e8, by simp only [Int.natCast_add]; rfl, Wwgr, by simp only; omega, by simp only; omega, by simp only; omega, heq⟩)
      | skip
    all_goals (rw [if_neg hk5] at heq)
    all_goals (try (have hO : inS opensB t.text = true := by
                      first
                        | (rw [show t.text = (⟨#[40]⟩ : ByteArray) by assumption]; decide +kernel)
                        | (rw [show t.text = (⟨#[91]⟩ : ByteArray) by assumption]; decide +kernel)
                        | (rw [show t.text = (⟨#[123]⟩ : ByteArray) by assumption]; decide +kernel)
                    rw [if_pos hO] at heq
                    first
                      | (rw [if_pos hh] at heq
                         rw [← heq] at hq
                         exact ⟨_, rfl, hq _ Wwgr⟩)
                      | (rw [if_neg hh] at heq
                         exact ih (i + 1, c + 1) _ _ (by simp only; omega) ⟨rfl, e7, e8, by simp only [Int.natCast_add]; rfl, Wwgr, by simp only; omega, by simp only; omega, by simp only; omega, heq⟩)))
    all_goals (have hO : inS opensB t.text = false := by
                 rw [← Bool.not_eq_true, inS_iff]; intro hm; simp only [opensB, List.mem_cons, List.not_mem_nil, or_false] at hm; repeat (first | contradiction | (rcases hm with hm | hm)))
    all_goals (rw [hO] at heq; simp only [Bool.false_eq_true, if_false] at heq)
    all_goals first
      | (have hC : inS closesB t.text = true := by
           first
             | (rw [show t.text = (⟨#[41]⟩ : ByteArray) by assumption]; decide +kernel)
             | (rw [show t.text = (⟨#[93]⟩ : ByteArray) by assumption]; decide +kernel)
             | (rw [show t.text = (⟨#[125]⟩ : ByteArray) by assumption]; decide +kernel)
         rw [if_pos hC] at heq
         have hc' : 0 ≤ (if c - 1 > 0 then c - 1 else 0) ∧ (if c - 1 > 0 then c - 1 else 0) ≤ 40 := by split <;> omega
         exact ih (i + 1, if c - 1 > 0 then c - 1 else 0) _ _ (by simp only; omega) ⟨rfl, e7, e8, by simp only [Int.natCast_add]; rfl, Wwgr, by simp only; omega, hc'.1, hc'.2, heq⟩)
      | (have hC : inS closesB t.text = false := by
           rw [← Bool.not_eq_true, inS_iff]; intro hm; simp only [closesB, List.mem_cons, List.not_mem_nil, or_false] at hm; repeat (first | contradiction | (rcases hm with hm | hm))
         rw [hC] at heq; simp only [Bool.false_eq_true, if_false] at heq
         exact ih (i + 1, c) _ _ (by simp only; omega) ⟨e4, e7, e8, by simp only [Int.natCast_add]; rfl, Wwgr, by simp only; omega, by simp only; omega, by simp only; omega, heq⟩)
  · have hi' : i = l.length := by omega
    subst hi'
    rw [List.drop_length] at heq
    unfold deepGo at heq
    rw [← heq] at hq
    refine QN hX ?_;refine QK (QF ?_ ?_);intro hh;exfalso;omega;intro hh;refine QL ?_;refine QU hX ?_;refine QS hX ?_;refine WC.exit ?_;refine exit_here ?_;refine QN hX ?_;refine QK (Qb ?_);refine QK (Qb ?_);refine QM ?_
    exact ⟨_, rfl, hq _ hg⟩

end Go.Proofs.ZL
end

section
open Go Go.Am
namespace Go.Proofs.ZL
set_option maxRecDepth 100000
set_option linter.unusedSimpArgs false
set_option linter.unusedVariables false
set_option maxHeartbeats 4000000

theorem allGo_len {src : ByteArray} : ∀ (m k : Nat) (l : List Tok), k ≤ src.size → l.length ≤ k → (allGo src m k l).err.isOk = true → (allGo src m k l).list.length ≤ src.size + 2
 | 0, k, l, hk, hl, _ => by simp only [allGo]; omega
 | m + 1, k, l, hk, hl, h => by
  unfold allGo at h ⊢
  split at h
  ·rename_i h1; rw [if_pos h1]
   have := lineL_len k l
   simp only [List.length_append, List.length_singleton]; omega
  ·rename_i h1; rw [if_neg h1]
   split at h
   ·rename_i h2; rw [if_pos h2]
    have := nextS_ok (l := l) (show k < src.size by omega) h2
    exact allGo_len m _ _ this.2.1 (by omega) h
   ·rename_i h2; exact (h2 h).elim

theorem WCall.ext {P : Program} {G : Nat} {X : ExtFn} {f : FuncId} {o : CallFn → List Value → Heap → Option ARes} {args : List Value} {h : Heap} {r : ARes} {Q : ARes → Prop} (hx : X f = some o) (ho : ∀ C, o C args h = some r) (hq : Q r) : WCall P G X f args h Q :=
 WCall.intro ⟨1, r, by simp only [callN, hx, ho], hq⟩

theorem storeA_of {P : Program} {ty : TypeId} {i off : Nat} {v : Value} {h : Heap} {cs cs' : List Value} (hz : sizeT P ty = some v.cells.size) (ho : h.obj i = some (.cells false cs)) (hf : off + v.cells.size ≤ cs.length)
  (h1 : v.cells.toList.all (·.oneCell') = true) (hs' : forceL (setMany cs off v.cells.toList) = some cs') : storeA P ty i off v h = some (h.put i (some (.cells false cs'))) := by
 simp only [storeA, hz, if_true, Heap.store, ho]
 rw [if_pos (by simp only [Array.length_toList, h1, Bool.and_true, decide_eq_true_eq]; exact hf), forceL_eq hs']

structure ScanR where
 toks : List Tok
 stage : Int
 pos : Int
 deriving DecidableEq

def SErr.pos : SErr → Nat
 | .ok => 0
 | .stuck k => k
 | .long _ k => k

def scanS (src : ByteArray) : ScanR :=
 if 8192 < src.size then ⟨[], 1, 8192⟩
 else if (allS src).err.isOk then
  match deepGo (allS src).list 0 with
  | some p => ⟨[], 3, p⟩
  | none => ⟨(allS src).list, 0, 0⟩
 else ⟨[], 2, (allS src).err.pos⟩

theorem scan_w {src : ByteArray} {h : Heap} {Q : ARes → Prop}
  (hq : ∀ h' b n es, Gr h h' → Toks h' h.next b n es (scanS src).toks → Q (.ret (.tuple #[.slice b n es, .agg #[.int .i64 (scanS src).stage, .int .i64 (scanS src).pos]]) h')) : WCall Tryz.prog G X 19 [.string src] h Q := by
 generalize hS : scanS src = S at *
 unfold scanS at hS
 refine WCall.walk hX Tryz.func19 rfl rfl Tryz.ntmps19 rfl ?_
 refine QN hX ?_;refine QK (Qb ?_);refine QK (Qw ?_);refine QL ?_;refine QU hX ?_;refine QN hX ?_;refine QK (Qa ?_);refine QK (Qr ?_);refine QK (QH ?_ ?_);intro hh;refine QQ hX ?_;refine QN hX ?_;refine QK (Qn ?_);refine QK (Qb ?_);refine QK (Qv ?_);refine QM ?_;rotate_left;intro hh;refine QP hX ?_;refine UA ?_;refine QN hX ?_;refine QK (Qa ?_);refine QK (Qn ?_);refine QK (Qx ?_);refine QK (Qb ?_);refine QL ?_;refine QU hX ?_;refine QN hX ?_;refine QK (Qa ?_);refine QK ?_;rotate_left
 ·rw [if_pos (by omega)] at hS
  subst hS
  refine ⟨_, Wwres, ?_⟩
  exact hq _ _ _ _ Wwgr (.inl ⟨rfl, rfl, rfl, rfl⟩)
 ·rw [if_neg (by omega)] at hS
  refine QJ en28 ?_
  refine all_w (src := src) ⟨by simp, none, 0, 0, obj_new, .inl ⟨rfl, rfl, rfl, rfl⟩⟩ (by omega) fun h1 hs1 fr1 => ?_
  simp only [Heap.alloc_next] at hs1 fr1
  have hn1 : h.next + 2 ≤ h1.next := fr1.1
  have ho3 : h1.obj h.next = some (.cells false [.int .i64 0, .int .i64 0]) := by
   rw [fr1.2 h.next (by omega)]; exact obj_old (by simp) obj_new
  have hg1 : Gr h h1 := ⟨by omega, fun j hj => by rw [fr1.2 j (by omega)]; exact obj_old (by simp; omega) (obj_old (by omega) rfl)⟩
  cases hok : (allS src).err with
  | ok =>
   rw [hok] at hS
   simp only [SErr.isOk, if_true] at hS
   simp only [SErr.val]
   have hlen := allGo_len (src := src) (src.size + 1) 0 [] (by omega) (by simp) (by have := hok; unfold allS at this; rw [this]; rfl)
   obtain ⟨hlt1, b1, n1, es1, ho1, ht1⟩ := hs1
   refine QK (Qb ?_);refine QO hX ?_;refine QK (Qa ?_);refine QK (WS.neG (h1 := ?_) (h2 := ?_));intro hh;exact Bool.noConfusion hh;intro hh;refine QP hX ?_;refine UA ?_;refine QU hX ?_;refine QN hX ?_;refine QK (Qa ?_);refine QK (Qi ?_);refine QK (Qj ?_);refine QK (Qt ?_);refine QK ?_
   refine QJ en29 ?_
   refine deep_w ht1 (by unfold allS; omega) fun h2 hg2 => ?_
   have hn2 := hg2.1
   have ho2 := hg2.at hlt1 ho1
   have ho4 := hg2.at (by omega) ho3
   cases hd : deepGo (allS src).list 0 with
   | none =>
    rw [hd] at hS
    simp only at hS
    subst hS
    simp only [deepV]
    refine QK (Qa ?_);refine QK (Qq ?_);refine QK (Qq ?_);refine QK (Qb ?_);refine QK (Qb ?_);refine QO hX ?_;refine QK (Qa ?_);refine QP hX ?_;refine UA ?_;refine QN hX ?_;refine QK (Qa ?_);refine QK (Qi ?_);refine QK (Qj ?_);refine QK (Qt ?_);refine QK (Qn ?_);refine QK (Qb ?_);refine QK (Qv ?_);refine QM ?_
    refine ⟨_, Wwres, ?_⟩
    refine hq _ _ _ _ ((hg1.trans hg2).put (Nat.le_refl _)) ?_
    rcases ht1 with ⟨rfl, rfl, rfl, hnil⟩ | ⟨j, rfl, h1j, h2j, rfl, hnl, h3j⟩
    ·exact .inl ⟨rfl, rfl, rfl, hnil⟩
    ·exact .inr ⟨j, rfl, by omega, by simp; omega, rfl, hnl, obj_else (by omega) (hg2.at h2j h3j)⟩
   | some p =>
    rw [hd] at hS
    simp only at hS
    subst hS
    simp only [deepV]
    refine QK (Qa ?_);refine QK (Qq ?_);refine QK (Qq ?_);refine QK (Qb ?_);refine QK (Qb ?_);refine QO hX ?_;refine QK (Qa ?_);refine QQ hX ?_;refine QN hX ?_;refine QK (Qa ?_);refine QK (Qn ?_);refine QK (Qb ?_);refine QK (Qv ?_);refine QM ?_
    refine ⟨_, Wwres, ?_⟩
    exact hq _ _ _ _ ((hg1.trans hg2).put (Nat.le_refl _)) (.inl ⟨rfl, rfl, rfl, rfl⟩)
  | stuck p =>
   rw [hok] at hS
   simp only [SErr.isOk, Bool.false_eq_true, if_false, SErr.pos] at hS
   subst hS
   simp only [SErr.val]
   refine QK (Qb ?_);refine QO hX ?_;refine QK (Qa ?_);refine QK (WS.neG (h1 := ?_) (h2 := ?_));intro hh;refine QQ hX ?_;refine QN hX ?_;refine QK (Qw ?_);refine QO hX ?_;refine QK (Qa ?_);refine QK (Qo ?_);refine QK ?_;rotate_left;intro hh;exact Bool.noConfusion hh
   refine QJ en21 ?_
   have hst : storeA Tryz.prog 68 h1.next 0 (.agg #[.int .i64 p]) (h1.alloc (.cells false [.int .i64 0])) = some ((h1.alloc (.cells false [.int .i64 0])).put h1.next (some (.cells false [.int .i64 p]))) :=
    storeA_of rfl obj_new (Nat.le_refl 1) rfl rfl
   refine WCall.ext (X := X) (o := asO) (r := .ret (.bool true) ((h1.alloc (.cells false [.int .i64 0])).put h1.next (some (.cells false [.int .i64 p])))) rfl (fun C => ?_) ?_
   ·show (storeA Tryz.prog 68 h1.next 0 (.agg #[.int .i64 p]) (h1.alloc (.cells false [.int .i64 0]))).map _ = _
    rw [hst]; rfl
   refine QL ?_;refine QU hX ?_;refine WC.drawn (id := 8) hX (l := [⟨0, .pure, 0⟩, ⟨1, .read, 1⟩, ⟨2, .pure, 3⟩, ⟨3, .pure, 0⟩, ⟨4, .heavy, 15⟩]) (hw := ?_);refine QW (k := Qj ?_);refine QX (k := Qt ?_);refine QW (k := Qn ?_);refine QW (k := Qb ?_);refine WD.heavy hX (hw := Qv ?_);refine WD.nil (hq := ?_);refine WC.ret ?_
   refine ⟨_, Wwres, ?_⟩
   exact hq _ _ _ _ (Gr.put (Gr.put (hg1.trans (Gr.alloc _ _)) (by omega)) (Nat.le_refl _)) (.inl ⟨rfl, rfl, rfl, rfl⟩)
  | long w p =>
   rw [hok] at hS
   simp only [SErr.isOk, Bool.false_eq_true, if_false, SErr.pos] at hS
   subst hS
   simp only [SErr.val]
   refine QK (Qb ?_);refine QO hX ?_;refine QK (Qa ?_);refine QK (WS.neG (h1 := ?_) (h2 := ?_));intro hh;refine QQ hX ?_;refine QN hX ?_;refine QK (Qw ?_);refine QO hX ?_;refine QK (Qa ?_);refine QK (Qo ?_);refine QK ?_;rotate_left;intro hh;exact Bool.noConfusion hh
   refine QJ en21 ?_
   have hst : storeA Tryz.prog 68 h1.next 0 (.agg #[.int .i64 p]) (h1.alloc (.cells false [.int .i64 0])) = some ((h1.alloc (.cells false [.int .i64 0])).put h1.next (some (.cells false [.int .i64 p]))) :=
    storeA_of rfl obj_new (Nat.le_refl 1) rfl rfl
   refine WCall.ext (X := X) (o := asO) (r := .ret (.bool true) ((h1.alloc (.cells false [.int .i64 0])).put h1.next (some (.cells false [.int .i64 p])))) rfl (fun C => ?_) ?_
   ·show (storeA Tryz.prog 68 h1.next 0 (.agg #[.int .i64 p]) (h1.alloc (.cells false [.int .i64 0]))).map _ = _
    rw [hst]; rfl
   refine QL ?_;refine QU hX ?_;refine WC.drawn (id := 8) hX (l := [⟨0, .pure, 0⟩, ⟨1, .read, 1⟩, ⟨2, .pure, 3⟩, ⟨3, .pure, 0⟩, ⟨4, .heavy, 15⟩]) (hw := ?_);refine QW (k := Qj ?_);refine QX (k := Qt ?_);refine QW (k := Qn ?_);refine QW (k := Qb ?_);refine WD.heavy hX (hw := Qv ?_);refine WD.nil (hq := ?_);refine WC.ret ?_
   refine ⟨_, Wwres, ?_⟩
   exact hq _ _ _ _ (Gr.put (Gr.put (hg1.trans (Gr.alloc _ _)) (by omega)) (Nat.le_refl _)) (.inl ⟨rfl, rfl, rfl, rfl⟩)

end Go.Proofs.ZL
end

section
open Go Go.Am
namespace Go.Proofs.ZL
set_option maxRecDepth 100000
set_option linter.unusedSimpArgs false
set_option linter.unusedVariables false
set_option maxHeartbeats 4000000

theorem guard26 : Tryz.prog.eqGuardType Tryz.prog.depth 27 = false := by decide +kernel
theorem guard31 : Tryz.prog.eqGuardType Tryz.prog.depth 36 = false := by decide +kernel
theorem stood26 : Tryz.prog.stoodInHeld 27 = false := by decide +kernel
theorem stood31 : Tryz.prog.stoodInHeld 36 = false := by decide +kernel

theorem ask26 {x y : Operand} {a b : Array Value} : eqAsk Tryz.prog .eql 27 x y (.agg a) (.agg b) = true := by unfold eqAsk eqAskBoth; simp only [guard26]; rfl
theorem ask31 {x y : Operand} {a b : Array Value} : eqAsk Tryz.prog .eql 36 x y (.agg a) (.agg b) = true := by unfold eqAsk eqAskBoth; simp only [guard31]; rfl
theorem ask26n {x y : Operand} {a b : Array Value} : eqAsk Tryz.prog .neq 27 x y (.agg a) (.agg b) = true := by unfold eqAsk eqAskBoth; simp only [guard26]; rfl
theorem ask31n {x y : Operand} {a b : Array Value} : eqAsk Tryz.prog .neq 36 x y (.agg a) (.agg b) = true := by unfold eqAsk eqAskBoth; simp only [guard31]; rfl

theorem eqI {d : Nat} {a b : Int} : eqA Tryz.prog (d + 1) 3 (.int .i64 a) (.int .i64 b) = some (decide (a = b)) := by
 have hu : Tryz.prog.underlying 3 = some (.int .i64) := rfl
 unfold eqA; simp only [hu, if_true]; rfl
theorem beqB (a b : ByteArray) : (a == b) = decide (a = b) := by
 have h : (a == b) = (a.data == b.data) := rfl
 rw [h]
 by_cases e : a = b
 ·subst e; simp
 ·have : a.data ≠ b.data := fun h => e (ByteArray.ext h)
  simp [e, this]
theorem eqS {d : Nat} {a b : ByteArray} : eqA Tryz.prog (d + 1) 9 (.string a) (.string b) = some (decide (a = b)) := by
 have hu : Tryz.prog.underlying 9 = some .string := rfl
 unfold eqA; simp only [hu, beqB]

theorem eqFs_step {P : Program} {eq : TypeId → Value → Value → Option Bool} {f : Field} {fs : List Field} {xs ys : List Value} {u w : Value} {p q : Prop} [Decidable p] [Decidable q] (hn : (f.name == "_") = false) (hu : partA P f.type xs f.offset = some u) (hw : partA P f.type ys f.offset = some w)
  (he : eq f.type u w = some (decide p)) (hr : eqA.eqFs P eq fs xs ys = some (decide q)) : eqA.eqFs P eq (f :: fs) xs ys = some (decide (p ∧ q)) := by
 unfold eqA.eqFs
 rw [if_neg (by intro h; rw [h] at hn; simp at hn)]
 simp only [hu, hw, he]
 by_cases hp : p
 ·simp only [hp, decide_true, true_and]; exact hr
 ·simp [hp]
theorem eqFs_nil {P : Program} {eq : TypeId → Value → Value → Option Bool} {xs ys : List Value} : eqA.eqFs P eq [] xs ys = some (decide True) := by unfold eqA.eqFs; rfl

theorem eqA26 {a b c d : Int} : eqA Tryz.prog 5 27 (.agg #[.int .i64 a, .int .i64 b]) (.agg #[.int .i64 c, .int .i64 d]) = some (decide (a = c ∧ b = d ∧ True)) := by
 have hu : Tryz.prog.underlying 27 = some (.struct #[_, _]) := rfl
 unfold eqA
 simp only [hu, stood26, Bool.false_eq_true, if_false]
 exact eqFs_step (by decide +kernel) rfl rfl eqI (eqFs_step (by decide +kernel) rfl rfl eqI eqFs_nil)
theorem eqA31 {a a' b b' c c' : Int} {s s' : ByteArray} : eqA Tryz.prog 5 36 (.agg #[.int .i64 a, .string s, .int .i64 b, .int .i64 c]) (.agg #[.int .i64 a', .string s', .int .i64 b', .int .i64 c']) = some (decide (a = a' ∧ s = s' ∧ b = b' ∧ c = c' ∧ True)) := by
 have hu : Tryz.prog.underlying 36 = some (.struct #[_, _, _, _]) := rfl
 unfold eqA
 simp only [hu, stood31, Bool.false_eq_true, if_false]
 exact eqFs_step (by decide +kernel) rfl rfl eqI (eqFs_step (by decide +kernel) rfl rfl eqS (eqFs_step (by decide +kernel) rfl rfl eqI (eqFs_step (by decide +kernel) rfl rfl eqI eqFs_nil)))

section
variable {n : Nat} {F : List PanicEntry → Heap → Prop} {env : Env} {h : Heap} {lt : Bool} {ops : Array Oper} {d : Nat} {t : TypeId} {p : String} {a : Array Edge} {g : Option (Nat × Bool)} {K : Env → Heap → (Heap → Prop) → Prop}
theorem WS_eq26 {x y : Operand} {c} {i j i' j' : Int} (hg : gOk ops env g = some true := by rfl) (hn : Nat.blt d n = true := by rfl) (hx : evalA G env x = some (.agg #[.int .i64 i, .int .i64 j]) := by first | rfl | assumption) (hy : evalA G env y = some (.agg #[.int .i64 i', .int .i64 j']) := by first | rfl | assumption)
  (h1 : i = i' ∧ j = j' ∧ True → K (upd env d (.bool true)) h fun _ => True) (h2 : ¬(i = i' ∧ j = j' ∧ True) → K (upd env d (.bool false)) h fun _ => True) : WS Tryz.prog G X n lt ops ⟨some d, .binOp .eql 27 x y c, t, p, a, g⟩ env h K F :=
 WS.askP hg hn (fun h => by simp only [opA, hx, hy, ask26, if_true, binA, eqA26, Option.map_some]) h1 h2
theorem WS_eq31 {x y : Operand} {c} {i j k i' j' k' : Int} {s s' : ByteArray} (hg : gOk ops env g = some true := by rfl) (hn : Nat.blt d n = true := by rfl) (hx : evalA G env x = some (.agg #[.int .i64 i, .string s, .int .i64 j, .int .i64 k]) := by first | rfl | assumption) (hy : evalA G env y = some (.agg #[.int .i64 i', .string s', .int .i64 j', .int .i64 k']) := by first | rfl | assumption)
  (h1 : i = i' ∧ s = s' ∧ j = j' ∧ k = k' ∧ True → K (upd env d (.bool true)) h fun _ => True) (h2 : ¬(i = i' ∧ s = s' ∧ j = j' ∧ k = k' ∧ True) → K (upd env d (.bool false)) h fun _ => True) : WS Tryz.prog G X n lt ops ⟨some d, .binOp .eql 36 x y c, t, p, a, g⟩ env h K F :=
 WS.askP hg hn (fun h => by simp only [opA, hx, hy, ask31, if_true, binA, eqA31, Option.map_some]) h1 h2
theorem WS_ne31 {x y : Operand} {c} {i j k i' j' k' : Int} {s s' : ByteArray} (hg : gOk ops env g = some true := by rfl) (hn : Nat.blt d n = true := by rfl) (hx : evalA G env x = some (.agg #[.int .i64 i, .string s, .int .i64 j, .int .i64 k]) := by first | rfl | assumption) (hy : evalA G env y = some (.agg #[.int .i64 i', .string s', .int .i64 j', .int .i64 k']) := by first | rfl | assumption)
  (h1 : i = i' ∧ s = s' ∧ j = j' ∧ k = k' ∧ True → K (upd env d (.bool false)) h fun _ => True) (h2 : ¬(i = i' ∧ s = s' ∧ j = j' ∧ k = k' ∧ True) → K (upd env d (.bool true)) h fun _ => True) : WS Tryz.prog G X n lt ops ⟨some d, .binOp .neq 36 x y c, t, p, a, g⟩ env h K F := by
 refine WS.askP (p := ¬(i = i' ∧ s = s' ∧ j = j' ∧ k = k' ∧ True)) hg hn (fun h => ?_) h2 (fun hc => h1 (Decidable.of_not_not hc))
 simp only [opA, hx, hy, ask31n, if_true, binA, eqA31, Option.map_some, decide_not]
theorem WS_ne26 {x y : Operand} {c} {i j i' j' : Int} (hg : gOk ops env g = some true := by rfl) (hn : Nat.blt d n = true := by rfl) (hx : evalA G env x = some (.agg #[.int .i64 i, .int .i64 j]) := by first | rfl | assumption) (hy : evalA G env y = some (.agg #[.int .i64 i', .int .i64 j']) := by first | rfl | assumption)
  (h1 : i = i' ∧ j = j' ∧ True → K (upd env d (.bool false)) h fun _ => True) (h2 : ¬(i = i' ∧ j = j' ∧ True) → K (upd env d (.bool true)) h fun _ => True) : WS Tryz.prog G X n lt ops ⟨some d, .binOp .neq 27 x y c, t, p, a, g⟩ env h K F := by
 refine WS.askP (p := ¬(i = i' ∧ j = j' ∧ True)) hg hn (fun h => ?_) h2 (fun hc => h1 (Decidable.of_not_not hc))
 simp only [opA, hx, hy, ask26n, if_true, binA, eqA26, Option.map_some, decide_not]
end

end Go.Proofs.ZL
end
