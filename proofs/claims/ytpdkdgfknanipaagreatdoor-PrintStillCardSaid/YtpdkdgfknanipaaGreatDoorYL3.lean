/- The lexer, third part: the scan. -/
import Derived.Test.YtpdkdgfknanipaaGreatDoorYL2
section
open Go Go.Am
namespace Go.Proofs.ZL
set_option maxRecDepth 100000
set_option linter.unusedSimpArgs false
set_option linter.unusedVariables false
set_option maxHeartbeats 4000000
variable {h : aA} {Q : bR → Prop} {L : List Tok} {p : Nat} {hd : Bool} {src : ByteArray}
def nE (c : Int) : Bool := decide (c ≠ 10)
theorem aAd : aDx 102 nE := ⟨aOy, fun c h Q hc hq => by
 refine Wk Tryz.func102 Tryz.ntmps102 (w:=QN (Mb (w:=QO (Ma (w:=ME (w:=fun hh => Mb (w:=QM ?_)) (v:=fun hh => Mb (w:=QM ?_)))))))
 all_goals (refine ⟨_, rfl, fC ?_ hq⟩; symm; unfold nE; first | (rw [decide_eq_true_eq]; exact hh) | (rw [decide_eq_false_iff_not]; exact hh))⟩

def rest (src : ByteArray) (k : Nat) : ByteArray := jG src k src.size
def sX (src : ByteArray) (k : Nat) : Bool := decide ((⟨#[47, 47]⟩ : ByteArray).size ≤ (rest src k).size ∧ jG (rest src k) 0 (⟨#[47, 47]⟩ : ByteArray).size = ⟨#[47, 47]⟩)

theorem tU {k : Nat} (hk : k ≤ src.size) : (rest src k).size = src.size - k := by
 have := lQ (s := src) (l := k) (r := src.size) (by omega)
 unfold rest; omega

theorem aFx {k : Nat} (hz : src.size ≤ 100000) (hk : k ≤ src.size) (hq : Q (.ret (.bool (sX src k)) h)) : aS Tryz.prog G X 100 [.string (jG src k src.size), .string ⟨#[47, 47]⟩] h Q :=
 aBc (by have := tU hk; unfold rest at this; omega) (by decide) hq

def dD (src : ByteArray) (k : Nat) (l : List Tok) : Out :=
 if bD src k = 32 ∨ bD src k = 9 then ⟨.ok, k + 1, l⟩
 else if bD src k = 10 then ⟨.ok, k + 1, iI k l⟩
 else if sX src k then ⟨.ok, k + runN nE src k, l⟩
 else if eU (bD src k) then pX src k l
 else if bN (bD src k) then dE src k l
 else if bD src k = 34 then xH src k l
 else if eD (rest src k) = ⟨#[]⟩ then ⟨.stuck k, k, l⟩
 else ⟨.ok, k + (eD (rest src k)).size, l ++ [⟨5, eD (rest src k), 0, k⟩]⟩

theorem Sc.put {s : Nat} {k' : Nat} {l : List Tok} {b : Option Addr} {n es : Nat} (hlt : s < h.next) (ht : vQ h (s + 1) b n es l) :
  Sc (h.put s (some (.cells false [.string src, .int .i64 k', .slice b n es]))) s src k' l ∧ Fr s h (h.put s (some (.cells false [.string src, .int .i64 k', .slice b n es]))) :=
 ⟨⟨hlt, b, n, es, eG, ht.mono (Nat.le_refl _) fun j hj _ => bF (by omega) rfl⟩, Nat.le_refl _, fun j hj => bF (by omega) rfl⟩

theorem aNk {s : Nat} {k : Nat} {l : List Tok} (hs : Sc h s src k l) (hl : l.length ≤ 100000) (hz : src.size ≤ 100000) (hk : k < src.size)
  (hq : ∀ h', Sc h' s src (dD src k l).pos (dD src k l).list → Fr s h h' → Q (.ret (dD src k l).err.val h')) : aS Tryz.prog G X 82 [.pointer (some ⟨s, 0, none⟩)] h Q := by
 have hs0 := hs
 obtain ⟨hlt, b, n, es, ho, ht⟩ := hs
 refine Wk Tryz.func82 Tryz.ntmps82 (w:=?_)
 refine QN (Mb (w:=QL (QU (Gd [⟨0, .pure, 0⟩, ⟨1, .pure, 1⟩, ⟨2, .pure, 3⟩, ⟨3, .read, 7⟩, ⟨4, .pure, 0⟩, ⟨5, .pure, 16⟩, ⟨6, .pure, 48⟩, ⟨7, .read, 112⟩, ⟨8, .pure, 255⟩, ⟨9, .pure, 511⟩] (w:=Da (w:=Di (w:=Dj (w:=Rt (w:=Da (w:=Di (w:=Dj (w:=Rt (w:=Dm (w:=Db (w:=WD.nil (hq:=QU (Bk (QN (Ma (w:=MD (w:=fun hh => Ma (w:=MA (w:=MA (w:=Mc (w:=Mb (w:=QQ (QV (Ma (w:=Mi (w:=Mj (w:=Mt (w:=Mf (w:=Mi (w:=Mj (w:=Mv (w:=QO (Mb (w:=QM ?_)))))))))))))))))) (v:=fun hh => Ma (w:=Ma (w:=MD (w:=fun hh => Md (w:=Mb (w:=QQ (QV (Ma (w:=Mi (w:=Mj (w:=Mt (w:=Mf (w:=Mi (w:=Mj (w:=Mv (w:=QO (Mb (w:=QM ?_))))))))))))))) (v:=fun hh => Md (w:=Mb (w:=QP (QN (Ma (w:=MD (w:=fun hh => Mb (w:=QQ (QN (Ma (w:=QK ?_))))) (v:=fun hh => Mb (w:=QP (QU (Gd [⟨0, .pure, 0⟩, ⟨1, .pure, 1⟩, ⟨2, .pure, 3⟩, ⟨3, .read, 7⟩, ⟨4, .pure, 0⟩, ⟨5, .pure, 16⟩, ⟨6, .pure, 48⟩, ⟨7, .read, 112⟩, ⟨8, .pure, 255⟩, ⟨9, .aF, 511⟩, ⟨10, .pure, 1023⟩] (w:=Da (w:=Di (w:=Dj (w:=Rt (w:=Da (w:=Di (w:=Dj (w:=Rt (w:=?_))))))))))))))))))))))))))))))))))))))))));rotate_left 3;refine QW (k := WS.xC (hk := ?_));refine WD.aF hX (hw := ?_);rotate_left
 ·have hn : dD src k l = ⟨.ok, k + 1, l⟩ := by unfold dD; rw [if_pos (.inl hh)]
  rw [hn] at hq
  have hp := Sc.put (src := src) (k' := k + 1) hlt ht
  simp only [Int.natCast_add, Int.natCast_one] at hp
  exact ⟨_, rfl, hq _ hp.1 hp.2⟩
 ·have hn : dD src k l = ⟨.ok, k + 1, l⟩ := by unfold dD; rw [if_pos (.inr hh)]
  rw [hn] at hq
  have hp := Sc.put (src := src) (k' := k + 1) hlt ht
  simp only [Int.natCast_add, Int.natCast_one] at hp
  exact ⟨_, rfl, hq _ hp.1 hp.2⟩
 ·have hn : dD src k l = ⟨.ok, k + 1, iI k l⟩ := by unfold dD; rw [if_neg (by omega), if_pos hh]
  rw [hn] at hq
  refine QJ aPv ?_
  refine aHs hs0 hl (by omega) fun h1 hs1 fr1 => ?_
  obtain ⟨hlt1, b1, n1, es1, ho1, ht1⟩ := hs1
  refine QL (QV (Ma (w:=Mi (w:=Mj (w:=Mt (w:=Mf (w:=Mi (w:=Mj (w:=Mv (w:=QO (Mb (w:=QM ?_))))))))))))
  have hp := Sc.put (src := src) (k' := k + 1) hlt1 ht1
  simp only [Int.natCast_add, Int.natCast_one] at hp
  exact ⟨_, rfl, hq _ hp.1 (fr1.trans hp.2)⟩
 ·refine QJ aOx ?_
  refine aFx hz (Nat.le_of_lt hk) ?_
  cases hsl : sX src k
  ·refine Db (w:=WD.nil (hq:=QS (QN (Ma (w:=MJ aD6 (w:=sC ?_))))))
   cases hle : eU (bD src k)
   ·refine Mb (w:=QP (QN (Ma (w:=MJ aG5 (w:=zB ?_)))))
    cases hdi : bN (bD src k)
    ·refine Mb (w:=QP (QN (Ma (w:=MD (w:=fun hh => Mb (w:=QQ (QN (Ma (w:=QK ?_))))) (v:=fun hh => Mb (w:=QP (QU (Gd [⟨0, .pure, 0⟩, ⟨1, .pure, 1⟩, ⟨2, .pure, 3⟩, ⟨3, .read, 7⟩, ⟨4, .pure, 0⟩, ⟨5, .pure, 16⟩, ⟨6, .pure, 48⟩, ⟨7, .read, 112⟩, ⟨8, .pure, 255⟩, ⟨9, .aF, 511⟩, ⟨10, .pure, 1023⟩] (w:=Da (w:=Di (w:=Dj (w:=Rt (w:=Da (w:=Di (w:=Dj (w:=Rt (w:=?_)))))))))))))))));rotate_left;refine QW (k := WS.xC (hk := ?_));refine WD.aF hX (hw := ?_);rotate_left
     ·have hn : dD src k l = xH src k l := by unfold dD; rw [if_neg (by omega), if_neg (by omega), hsl, hle, hdi]; simp only [Bool.false_eq_true, if_false]; rw [if_pos hh]
      rw [hn] at hq
      refine QJ aO1 ?_
      refine aN4 hs0 hl hz hk fun h1 hs1 fr1 => ?_
      refine Mb (w:=QM ?_)
      exact ⟨_, rfl, hq _ hs1 fr1⟩
     ·refine QJ aO2 ?_
      have hrs := tU (Nat.le_of_lt hk)
      refine aNd (s := rest src k) (by omega) ?_
      have hn : dD src k l = if eD (rest src k) = ⟨#[]⟩ then ⟨.stuck k, k, l⟩ else ⟨.ok, k + (eD (rest src k)).size, l ++ [⟨5, eD (rest src k), 0, k⟩]⟩ := by
       unfold dD; rw [if_neg (by omega), if_neg (by omega), hsl, hle, hdi]; simp only [Bool.false_eq_true, if_false]; rw [if_neg hh]
      have hms : (eD (rest src k)).size ≤ 2 := by
       unfold eD
       split
       ·have := lQ (s := rest src k) (l := 0) (r := 2) (by omega); omega
       ·split
        ·have := lQ (s := rest src k) (l := 0) (r := 1) (by omega); omega
        ·decide
      refine Db (w:=WD.nil (hq:=QU (QN (Ma (w:=MB (w:=fun hh => QQ (QN (Ma (w:=Mi (w:=Mj (w:=Mt (w:=Mn (w:=Mo (w:=Mb (w:=QM ?_)))))))))) (v:=fun hh => QP (UA (QV (Ma (w:=Ma (w:=Ma (w:=Mr (w:=QK ?_)))))))))))))
      ·rw [hn, if_pos hh] at hq
       exact ⟨_, rfl, hq _ hs0 (Fr.refl _ _)⟩
      ·rw [hn, if_neg hh] at hq
       refine QJ xZ ?_
       refine qR hs0 hl (by omega) (by omega) fun h2 hs2 fr2 => ?_
       refine QO (Mb (w:=QM ?_))
       exact ⟨_, rfl, hq _ hs2 fr2⟩
    ·refine Mb (w:=QQ (QN (Ma (w:=QK ?_))))
     have hn : dD src k l = dE src k l := by unfold dD; rw [if_neg (by omega), if_neg (by omega), hsl, hle, hdi]; simp only [Bool.false_eq_true, if_false, if_true]
     rw [hn] at hq
     refine QJ aO0 ?_
     refine aH4 hs0 hl hz hk hdi fun h1 hs1 fr1 => ?_
     refine Mb (w:=QM ?_)
     exact ⟨_, rfl, hq _ hs1 fr1⟩
   ·refine Mb (w:=QQ (QN (Ma (w:=QK ?_))))
    have hn : dD src k l = pX src k l := by unfold dD; rw [if_neg (by omega), if_neg (by omega), hsl, hle]; simp only [Bool.false_eq_true, if_false, if_true]
    rw [hn] at hq
    refine QJ aOz ?_
    refine aKf hs0 hl hz (Nat.le_of_lt hk) fun h1 hs1 fr1 => ?_
    refine Mb (w:=QM ?_)
    exact ⟨_, rfl, hq _ hs1 fr1⟩
  ·have hn : dD src k l = ⟨.ok, k + runN nE src k, l⟩ := by unfold dD; rw [if_neg (by omega), if_neg (by omega), hsl]; simp only [if_true]
   rw [hn] at hq
   have hrun := oQ (p := nE) (Nat.le_of_lt hk)
   refine Db (w:=WD.nil (hq:=QR (Gd [⟨0, .pure, 0⟩, ⟨1, .pure, 1⟩, ⟨2, .pure, 3⟩, ⟨3, .read, 7⟩, ⟨4, .pure, 0⟩, ⟨5, .aF, 16⟩, ⟨6, .pure, 63⟩, ⟨7, .pure, 127⟩, ⟨8, .pure, 255⟩, ⟨9, .aF, 511⟩] (w:=Da (w:=Di (w:=Dj (w:=Rt (w:=Da (w:=?_)))))))));refine WD.aF hX (hw := ?_)
   refine QJ aG4 ?_
   refine aIp aAd hz ho (Nat.le_of_lt hk) ?_
   refine Df (w:=Di (w:=Dj (w:=?_)));refine WD.aF hX (hw := Qv ?_);refine WD.nil (hq:=QN (Mb (w:=QM ?_)))
   have hp := Sc.put (src := src) (k' := k + runN nE src k) hlt ht
   simp only [Int.natCast_add] at hp
   exact ⟨_, rfl, hq _ hp.1 hp.2⟩

def dJ.isOk : dJ → Bool
 | .ok => true
 | _ => false

theorem sV {p : Int → Bool} {k : Nat} (hk : k < src.size) (hp : p (bD src k) = true) : 1 ≤ runN p src k := by
 obtain ⟨c, hc, hw⟩ := gT hk
 unfold runN
 rw [List.drop_eq_getElem_cons (by simpa using hk), List.takeWhile_cons]
 rw [List.getElem?_eq_getElem (by simpa using hk)] at hc
 rw [Option.some.inj hc, ← hw, if_pos hp]
 simp

theorem tL (k : Nat) (l : List Tok) : (iI k l).length ≤ l.length + 1 := by
 unfold iI; split <;> simp

theorem tW {k : Nat} {l : List Tok} : ∀ (m i : Nat) (out : List Int), k < i → (kD src k l m i out).err.isOk = true →
  k < (kD src k l m i out).pos ∧ (kD src k l m i out).pos ≤ src.size ∧ (kD src k l m i out).list.length = l.length + 1
 | 0, i, out, _, h => by simp [kD, dJ.isOk] at h
 | m + 1, i, out, hi, h => by
  unfold kD at h ⊢
  split at h
  ·simp [dJ.isOk] at h
  rename_i h1
  rw [if_neg h1]
  split at h
  ·rename_i h2
   rw [if_pos h2]
   split at h
   ·simp [dJ.isOk] at h
   ·rename_i h3
    rw [if_neg h3]
    refine ⟨by simp only; omega, by simp only; omega, by simp⟩
  rename_i h2
  rw [if_neg h2]
  split at h
  ·rename_i h3
   rw [if_pos h3]
   split at h
   ·rename_i h4
    rw [if_pos h4]
    exact tW m _ _ (by omega) h
   ·simp [dJ.isOk] at h
  rename_i h3
  rw [if_neg h3]
  split at h
  ·simp [dJ.isOk] at h
  rename_i h4
  rw [if_neg h4]
  exact tW m _ _ (by omega) h

theorem aBk (s : ByteArray) : (eD s).size ≤ 2 ∧ (eD s).size ≤ s.size ∧ (eD s ≠ ⟨#[]⟩ → 1 ≤ (eD s).size) := by
 unfold eD
 split
 ·have := lQ (s := s) (l := 0) (r := 2) (by omega); omega
 ·split
  ·have := lQ (s := s) (l := 0) (r := 1) (by omega); omega
  ·exact ⟨by decide, by simp, fun h => (h rfl).elim⟩

theorem sK {k : Nat} {l : List Tok} (hk : k < src.size) (h : (dD src k l).err.isOk = true) :
  k < (dD src k l).pos ∧ (dD src k l).pos ≤ src.size ∧ (dD src k l).list.length ≤ l.length + 1 := by
 unfold dD at h ⊢
 split at h
 ·rename_i h1; rw [if_pos h1]; exact ⟨by simp only; omega, by simp only; omega, by simp⟩
 rename_i h1; rw [if_neg h1]
 split at h
 ·rename_i h2; rw [if_pos h2]; exact ⟨by simp only; omega, by simp only; omega, tL k l⟩
 rename_i h2; rw [if_neg h2]
 split at h
 ·rename_i h3; rw [if_pos h3]
  have := oQ (p := nE) (Nat.le_of_lt hk)
  have := sV (p := nE) hk (by unfold nE; rw [decide_eq_true_eq]; exact h2)
  exact ⟨by simp only; omega, by simp only; omega, by simp⟩
 rename_i h3; rw [if_neg h3]
 split at h
 ·rename_i h4; rw [if_pos h4]
  have := oQ (p := dQ) (Nat.le_of_lt hk)
  have := sV (p := dQ) hk (by unfold dQ; rw [h4]; rfl)
  unfold pX at h ⊢
  split at h
  ·simp [dJ.isOk] at h
  ·rename_i h5; rw [if_neg h5]; exact ⟨by simp only; omega, by simp only; omega, by simp⟩
 rename_i h4; rw [if_neg h4]
 split at h
 ·rename_i h5; rw [if_pos h5]
  have := oQ (p := bN) (Nat.le_of_lt hk)
  have := sV (p := bN) hk h5
  unfold dE at h ⊢
  split at h
  ·simp [dJ.isOk] at h
  rename_i h6; rw [if_neg h6]
  split at h
  ·simp [dJ.isOk] at h
  rename_i h7; rw [if_neg h7]
  split at h
  ·simp [dJ.isOk] at h
  rename_i h8; rw [if_neg h8]
  exact ⟨by simp only; omega, by simp only; omega, by simp⟩
 rename_i h5; rw [if_neg h5]
 split at h
 ·rename_i h6; rw [if_pos h6]
  have := tW _ _ _ (Nat.lt_succ_self k) h
  exact ⟨this.1, this.2.1, Nat.le_of_eq this.2.2⟩
 rename_i h6; rw [if_neg h6]
 split at h
 ·simp [dJ.isOk] at h
 rename_i h7; rw [if_neg h7]
 have hm := aBk (rest src k)
 have hr := tU (Nat.le_of_lt hk)
 have := hm.2.2 h7
 exact ⟨by simp only; omega, by simp only; omega, by simp⟩

def kP (src : ByteArray) : Nat → Nat → List Tok → Out
 | 0, k, l => ⟨.ok, k, l⟩
 | m + 1, k, l => if src.size ≤ k then ⟨.ok, k, iI k l ++ [⟨6, ⟨#[]⟩, 0, k⟩]⟩ else if (dD src k l).err.isOk then kP src m (dD src k l).pos (dD src k l).list else dD src k l

def pB (src : ByteArray) : Out := kP src (src.size + 1) 0 []

theorem aN9 {e : dJ} (h : e.isOk = true) : e = .ok := by cases e <;> simp [dJ.isOk] at h; rfl

theorem aOl {s : Nat} (hs : Sc h s src 0 []) (hz : src.size ≤ 20000)
  (hq : ∀ h', Sc h' s src (pB src).pos (pB src).list → Fr s h h' → Q (.ret (pB src).err.val h')) : aS Tryz.prog G X 48 [.pointer (some ⟨s, 0, none⟩)] h Q := by
 refine Wk Tryz.func48 Tryz.ntmps48 (w:=QN (Mb (w:=QL (QU (Bk ?_)))))
 refine WC.cB hX (α := Nat × Nat × List Tok) (m := fun a => a.1) (Inv := fun a e h' => e 0 = some (.pointer (some ⟨s, 0, none⟩)) ∧ Sc h' s src a.2.1 a.2.2 ∧ Fr s h h' ∧ a.2.1 ≤ src.size ∧ a.2.2.length ≤ a.2.1 ∧ src.size + 1 ≤ a.1 + a.2.1 ∧ kP src a.1 a.2.1 a.2.2 = pB src)
  (src.size + 1, 0, []) ⟨rfl, hs, Fr.refl _ _, by simp, by simp, by simp, rfl⟩ ?_
 rintro ⟨m, k, l⟩ env h1 ih ⟨e0, hs1, fr1, hk, hlk, hm, heq⟩
 simp only at hs1 hk hlk hm heq
 have hs1' := hs1
 obtain ⟨hlt1, b1, n1, es1, ho1, ht1⟩ := hs1
 obtain ⟨m, rfl⟩ : ∃ m', m = m' + 1 := ⟨m - 1, by omega⟩
 unfold kP at heq
 refine QU (QU (Gd [⟨0, .pure, 0⟩, ⟨1, .pure, 1⟩, ⟨2, .pure, 3⟩, ⟨3, .read, 7⟩, ⟨4, .pure, 0⟩, ⟨5, .pure, 16⟩, ⟨6, .pure, 48⟩, ⟨7, .read, 112⟩, ⟨8, .read, 240⟩, ⟨9, .pure, 511⟩] (w:=Da (w:=Di (w:=Dj (w:=Rt (w:=Da (w:=Di (w:=Dj (w:=Rt (w:=Rr (w:=?_))))))))))));refine QW (k := QF ?_ ?_);intro hh;refine WD.nil (hq:=QR (UA (Bk (QN (Ma (w:=QK ?_))))));rotate_left;intro hh;refine WD.nil (hq:=QS (WC.exit (aH (QN (Ma (w:=QK ?_))))));rotate_left
 ·refine QJ aQ1 ?_
  rw [if_neg (by omega)] at heq
  refine aNk hs1' (by omega) (by omega) (by omega) fun h2 hs2 fr2 => ?_
  cases hok : (dD src k l).err with
  | ok =>
   have hok' : (dD src k l).err.isOk = true := by rw [hok]; rfl
   have hnx := sK (by omega) hok'
   rw [if_pos hok'] at heq
   simp only [dJ.val]
   refine Mb (w:=QO (Ma (w:=?_)));refine QK (WS.neG (h1 := ?_) (h2 := ?_));intro hh;exact Bool.noConfusion hh;intro hh;refine QP (UA ?_)
   exact ih (m, (dD src k l).pos, (dD src k l).list) _ _ (by simp) ⟨e0, hs2, fr1.trans fr2, hnx.2.1, by simp only; omega, by simp only; omega, heq⟩
  | stuck p =>
   rw [if_neg (by rw [hok]; simp [dJ.isOk])] at heq
   rw [← heq, hok] at hq
   simp only [dJ.val]
   refine Mb (w:=QO (Ma (w:=?_)));refine QK (WS.neG (h1 := ?_) (h2 := ?_));intro hh;refine QQ (QN (Ma (w:=Mb (w:=QM ?_))));rotate_left;intro hh;exact Bool.noConfusion hh
   exact ⟨_, rfl, hq _ hs2 (fr1.trans fr2)⟩
  | long w p =>
   rw [if_neg (by rw [hok]; simp [dJ.isOk])] at heq
   rw [← heq, hok] at hq
   simp only [dJ.val]
   refine Mb (w:=QO (Ma (w:=?_)));refine QK (WS.neG (h1 := ?_) (h2 := ?_));intro hh;refine QQ (QN (Ma (w:=Mb (w:=QM ?_))));rotate_left;intro hh;exact Bool.noConfusion hh
   exact ⟨_, rfl, hq _ hs2 (fr1.trans fr2)⟩
 ·refine QJ aPv ?_
  rw [if_pos (by omega)] at heq
  rw [← heq] at hq
  refine aHs hs1' (by omega) (by omega) fun h2 hs2 fr2 => ?_
  refine QO (Ma (w:=MJ xZ (w:=?_)))
  have := tL k l
  refine qR (size := 0) hs2 (by omega) (by omega) (by omega) fun h3 hs3 fr3 => ?_
  refine QO (Mb (w:=QM ?_))
  exact ⟨_, rfl, hq _ hs3 ((fr1.trans fr2).trans fr3)⟩

def tS : List ByteArray := [⟨#[40]⟩, ⟨#[91]⟩, ⟨#[123]⟩]
def qG : List ByteArray := [⟨#[41]⟩, ⟨#[93]⟩, ⟨#[125]⟩]

def fK : List Tok → Int → Option Int
 | [], _ => none
 | t :: r, n =>
  if t.kind ≠ 5 then fK r n
  else if lR tS t.text then (if 40 < n + 1 then some t.pos else fK r (n + 1))
  else if lR qG t.text then fK r (if n - 1 > 0 then n - 1 else 0)
  else fK r n

def aG0 : Option Int → Value
 | none => .tuple #[.int .i64 0, .bool false]
 | some p => .tuple #[.int .i64 p, .bool true]

theorem aMu {lo : Nat} {b : Option Addr} {n es : Nat} {l : List Tok} (ht : vQ h lo b n es l) (hl : l.length ≤ 100000)
    (hq : ∀ h', Gr h h' → Q (.ret (aG0 (fK l 0)) h')) : aS Tryz.prog G X 49 [.slice b n es] h Q := by
  have hlen := ht.len
  generalize hD : fK l 0 = D at *
  refine Wk Tryz.func49 Tryz.ntmps49 (w:=QN (Mb (w:=Mb (w:=QO (Mb (w:=QL (QU (QN (Ma (w:=Ms (w:=Ma (w:=QL (Bk ?_)))))))))))))
  refine WC.cB hX (α := Nat × Int) (m := fun a => l.length - a.1) (Inv := fun a e h' => e 4 = some (.int .i64 a.2) ∧ e 7 = some (.slice b n es) ∧ e 8 = some (.int .i64 n) ∧ e 9 = some (.int .i64 (a.1 : Nat)) ∧ Gr h h' ∧ a.1 ≤ l.length ∧ 0 ≤ a.2 ∧ a.2 ≤ 40 ∧ fK (l.drop a.1) a.2 = D)
    (0, 0) ⟨rfl, rfl, rfl, rfl, Gr.refl _, by simp, by simp, by simp, by simpa using hD⟩ ?_
  rintro ⟨i, c⟩ env h1 ih ⟨e4, e7, e8, e9, hg, hi, hc0, hc40, heq⟩
  simp only at e4 e9 hi hc0 hc40 heq
  have hgn := hg.1
  by_cases hil : i < l.length
  · rcases ht with ⟨_, rfl, _, rfl⟩ | ⟨j, rfl, h1j, h2j, rfl, _, h3j⟩
    · simp at hil
    have hget : l[i]? = some l[i] := List.getElem?_eq_getElem hil
    rw [List.drop_eq_getElem_cons hil] at heq
    unfold fK at heq
    generalize l[i] = t at *
    have h3' := hg.at h2j h3j
    refine QN (MF (w:=fun hh => QL (QU (QR (UA (QU (Bk (QN (Ml (w:=QK ?_))))))))) (v:=fun hh => by omega))
    refine WS.pT (vs := t.cells) (hc := ?_) (hv' := ?_) (hk := ?_)
    (· rw [gK]; omega); (· rw [show 0 + (i : Int).toNat * 4 = i * 4 by omega, rX hget]; rfl)
    refine Mw (w:=Mv (w:=QL (QU (QN (Mj (w:=Mt (w:=ME (w:=fun hh => QQ (WC.exit (aH (QV (Mf (w:=Ma (w:=QL ?_))))))) (v:=fun hh => QP (UA (QN (Mj (w:=Mt (w:=QL (Bk (QU (QN (MB (w:=fun hh => Mb (w:=QQ (UA (QR (QN (Ma (w:=Mf (w:=Mb (w:=QO (Ma (w:=MH (w:=fun hh => QQ (QN (Mj (w:=Mt (w:=Mb (w:=Mb (w:=QM ?_))))))) (v:=fun hh => QP (UA (QV (Mf (w:=Ma (w:=QL ?_))))))))))))))))) (v:=fun hh => Mb (w:=QP (QN (MB (w:=fun hh => Mb (w:=QQ (UA (QR (QN (Ma (w:=Mf (w:=Mb (w:=QO (Ma (w:=MH (w:=fun hh => QQ (QN (Mj (w:=Mt (w:=Mb (w:=Mb (w:=QM ?_))))))) (v:=fun hh => QP (UA (QV (Mf (w:=Ma (w:=QL ?_))))))))))))))))) (v:=fun hh => Mb (w:=QP (QV (MB (w:=fun hh => Mb (w:=QQ (QN (Ma (w:=Mf (w:=Mb (w:=QO (Ma (w:=MH (w:=fun hh => QQ (QN (Mj (w:=Mt (w:=Mb (w:=Mb (w:=QM ?_))))))) (v:=fun hh => QP (UA (QV (Mf (w:=Ma (w:=QL ?_))))))))))))))) (v:=fun hh => Mb (w:=QP (QU (QN (MB (w:=fun hh => Mb (w:=QQ (UA (QR (QV (Ma (w:=Mg (w:=?_)))))))) (v:=?_)))))))))))))))))))))))))))))));rotate_left 7;refine QK (WS.max (hk := ?_));refine Mb (w:=QL (QV (Mf (w:=Ma (w:=QL ?_)))));rotate_left;intro hh;refine Mb (w:=QP (QN (MB (w:=fun hh => Mb (w:=QQ (UA (QR (QV (Ma (w:=Mg (w:=?_)))))))) (v:=?_))));refine QK (WS.max (hk := ?_));refine Mb (w:=QL (QV (Mf (w:=Ma (w:=QL ?_)))));rotate_left;intro hh;refine Mb (w:=QP (QV (MB (w:=fun hh => Mb (w:=QQ (QV (Ma (w:=Mg (w:=?_)))))) (v:=?_))));refine QK (WS.max (hk := ?_));refine Mb (w:=QL (QV (Mf (w:=Ma (w:=QL ?_)))));rotate_left;intro hh;refine Mb (w:=QP (UA (QV (Mf (w:=Ma (w:=QL ?_))))));rotate_left
    all_goals (try (have hk5 : ¬t.kind ≠ 5 := by assumption))
    all_goals first
      | (rw [if_pos hh] at heq
         exact ih (i + 1, c) _ _ (by simp only; omega) ⟨e4, e7, e8, by simp only [Int.natCast_add]; rfl, fG, by simp only; omega, by simp only; omega, by simp only; omega, heq⟩)
      | skip
    all_goals (rw [if_neg hk5] at heq)
    all_goals (try (have hO : lR tS t.text = true := by
                      first
                        | (rw [show t.text = ⟨#[40]⟩ by assumption]; decide +kernel)
                        | (rw [show t.text = ⟨#[91]⟩ by assumption]; decide +kernel)
                        | (rw [show t.text = ⟨#[123]⟩ by assumption]; decide +kernel)
                    rw [if_pos hO] at heq
                    first
                      | (rw [if_pos hh] at heq
                         rw [← heq] at hq
                         exact ⟨_, rfl, hq _ fG⟩)
                      | (rw [if_neg hh] at heq
                         exact ih (i + 1, c + 1) _ _ (by simp only; omega) ⟨rfl, e7, e8, by simp only [Int.natCast_add]; rfl, fG, by simp only; omega, by simp only; omega, by simp only; omega, heq⟩)))
    all_goals (have hO : lR tS t.text = false := by
                 rw [← Bool.not_eq_true, iN]; intro hm; simp only [tS, List.mem_cons, List.not_mem_nil, or_false] at hm; repeat (first | contradiction | (rcases hm with hm | hm)))
    all_goals (rw [hO] at heq; simp only [Bool.false_eq_true, if_false] at heq)
    all_goals first
      | (have hC : lR qG t.text = true := by
           first
             | (rw [show t.text = ⟨#[41]⟩ by assumption]; decide +kernel)
             | (rw [show t.text = ⟨#[93]⟩ by assumption]; decide +kernel)
             | (rw [show t.text = ⟨#[125]⟩ by assumption]; decide +kernel)
         rw [if_pos hC] at heq
         have hc' : 0 ≤ (if c - 1 > 0 then c - 1 else 0) ∧ (if c - 1 > 0 then c - 1 else 0) ≤ 40 := by split <;> omega
         exact ih (i + 1, if c - 1 > 0 then c - 1 else 0) _ _ (by simp only; omega) ⟨rfl, e7, e8, by simp only [Int.natCast_add]; rfl, fG, by simp only; omega, hc'.1, hc'.2, heq⟩)
      | (have hC : lR qG t.text = false := by
           rw [← Bool.not_eq_true, iN]; intro hm; simp only [qG, List.mem_cons, List.not_mem_nil, or_false] at hm; repeat (first | contradiction | (rcases hm with hm | hm))
         rw [hC] at heq; simp only [Bool.false_eq_true, if_false] at heq
         exact ih (i + 1, c) _ _ (by simp only; omega) ⟨e4, e7, e8, by simp only [Int.natCast_add]; rfl, fG, by simp only; omega, by simp only; omega, by simp only; omega, heq⟩)
  · have hi' : i = l.length := by omega
    subst hi'
    rw [List.drop_length] at heq
    unfold fK at heq
    rw [← heq] at hq
    refine QN (MF (w:=fun hh => by omega) (v:=fun hh => QL (QU (QS (WC.exit (aH (QN (Mb (w:=Mb (w:=QM ?_))))))))))
    exact ⟨_, rfl, hq _ hg⟩

theorem tD : ∀ (m k : Nat) (l : List Tok), k ≤ src.size → l.length ≤ k → (kP src m k l).err.isOk = true → (kP src m k l).list.length ≤ src.size + 2
 | 0, k, l, hk, hl, _ => by simp only [kP]; omega
 | m + 1, k, l, hk, hl, h => by
  unfold kP at h ⊢
  split at h
  ·rename_i h1; rw [if_pos h1]
   have := tL k l
   simp only [List.length_append, List.length_singleton]; omega
  ·rename_i h1; rw [if_neg h1]
   split at h
   ·rename_i h2; rw [if_pos h2]
    have := sK (l := l) (show k < src.size by omega) h2
    exact tD m _ _ this.2.1 (by omega) h
   ·rename_i h2; exact (h2 h).elim

theorem aS.ext {P : Program} {G : Nat} {X : eQ} {f : FuncId} {o : bK → List Value → aA → Option bR} {args : List Value} {r : bR} (hx : X f = some o) (ho : ∀ C, o C args h = some r) (hq : Q r) : aS P G X f args h Q :=
 aS.intro ⟨1, r, by simp only [bZ, hx, ho], hq⟩

theorem tV {P : Program} {ty : TypeId} {i off : Nat} {v : Value} {cs cs' : List Value} (hz : dF P ty = some v.cells.size) (ho : h.obj i = some (.cells false cs)) (hf : off + v.cells.size ≤ cs.length)
  (h1 : v.cells.toList.all (·.oneCell') = true) (hs' : dB (cI cs off v.cells.toList) = some cs') : fW P ty i off v h = some (h.put i (some (.cells false cs'))) := by
 simp only [fW, hz, if_true, aA.store, ho]
 rw [if_pos (by simp only [Array.length_toList, h1, Bool.and_true, decide_eq_true_eq]; exact hf), eO hs']

structure aOi where
 tY : List Tok
 uW : Int
 pos : Int
 deriving DecidableEq

def dJ.pos : dJ → Nat
 | .ok => 0
 | .stuck k => k
 | .long _ k => k

def eE (src : ByteArray) : aOi :=
 if 8192 < src.size then ⟨[], 1, 8192⟩
 else if (pB src).err.isOk then
  match fK (pB src).list 0 with
  | some p => ⟨[], 3, p⟩
  | none => ⟨(pB src).list, 0, 0⟩
 else ⟨[], 2, (pB src).err.pos⟩

theorem aNr 
  (hq : ∀ h' b n es, Gr h h' → vQ h' h.next b n es (eE src).tY → Q (.ret (.tuple #[.slice b n es, .agg #[.int .i64 (eE src).uW, .int .i64 (eE src).pos]]) h')) : aS Tryz.prog G X 26 [.string src] h Q := by
 generalize hS : eE src = S at *
 unfold eE at hS
 refine Wk Tryz.func26 Tryz.ntmps26 (w:=QN (Mb (w:=Mw (w:=QL (QU (QN (Ma (w:=Mr (w:=MH (w:=fun hh => QQ (QN (Mn (w:=Mb (w:=Mv (w:=QM ?_)))))) (v:=fun hh => QP (UA (QN (Ma (w:=Mn (w:=Mx (w:=Mb (w:=QL (QU (QN (Ma (w:=QK ?_)))))))))))))))))))))
 ·rw [if_pos (by omega)] at hS
  subst hS
  refine ⟨_, aM, ?_⟩
  exact hq _ _ _ _ fG (.inl ⟨rfl, rfl, rfl, rfl⟩)
 ·rw [if_neg (by omega)] at hS
  refine QJ aQt ?_
  refine aOl (src := src) ⟨by simp, none, 0, 0, cY, .inl ⟨rfl, rfl, rfl, rfl⟩⟩ (by omega) fun h1 hs1 fr1 => ?_
  simp only [aA.aC] at hs1 fr1
  have hn1 : h.next + 2 ≤ h1.next := fr1.1
  have ho3 : h1.obj h.next = some (.cells false [.int .i64 0, .int .i64 0]) := by
   rw [fr1.2 h.next (by omega)]; exact bX (by simp) cY
  have hg1 : Gr h h1 := ⟨by omega, fun j hj => by rw [fr1.2 j (by omega)]; exact bX (by simp; omega) (bX (by omega) rfl)⟩
  cases hok : (pB src).err with
  | ok =>
   rw [hok] at hS
   simp only [dJ.isOk, if_true] at hS
   simp only [dJ.val]
   have hlen := tD (src := src) (src.size + 1) 0 [] (by omega) (by simp) (by have := hok; unfold pB at this; rw [this]; rfl)
   obtain ⟨hlt1, b1, n1, es1, ho1, ht1⟩ := hs1
   refine Mb (w:=QO (Ma (w:=?_)));refine QK (WS.neG (h1 := ?_) (h2 := ?_));intro hh;exact Bool.noConfusion hh;intro hh;refine QP (UA (QU (QN (Ma (w:=Mi (w:=Mj (w:=Mt (w:=MJ aQu (w:=aMu ht1 (by unfold pB; omega) fun h2 hg2 => ?_)))))))))
   have hn2 := hg2.1
   have ho2 := hg2.at hlt1 ho1
   have ho4 := hg2.at (by omega) ho3
   cases hd : fK (pB src).list 0 with
   | none =>
    rw [hd] at hS
    simp only at hS
    subst hS
    simp only [aG0]
    refine Ma (w:=Mq (w:=Mq (w:=Mb (w:=Mb (w:=QO (Ma (w:=QP (UA (QN (Ma (w:=Mi (w:=Mj (w:=Mt (w:=Mn (w:=Mb (w:=Mv (w:=QM ?_)))))))))))))))))
    refine ⟨_, aM, ?_⟩
    refine hq _ _ _ _ ((hg1.trans hg2).put (Nat.le_refl _)) ?_
    rcases ht1 with ⟨rfl, rfl, rfl, hnil⟩ | ⟨j, rfl, h1j, h2j, rfl, hnl, h3j⟩
    ·exact .inl ⟨rfl, rfl, rfl, hnil⟩
    ·exact .inr ⟨j, rfl, by omega, by simp; omega, rfl, hnl, bF (by omega) (hg2.at h2j h3j)⟩
   | some p =>
    rw [hd] at hS
    simp only at hS
    subst hS
    simp only [aG0]
    refine Ma (w:=Mq (w:=Mq (w:=Mb (w:=Mb (w:=QO (Ma (w:=QQ (QN (Ma (w:=Mn (w:=Mb (w:=Mv (w:=QM ?_)))))))))))))
    refine ⟨_, aM, ?_⟩
    exact hq _ _ _ _ ((hg1.trans hg2).put (Nat.le_refl _)) (.inl ⟨rfl, rfl, rfl, rfl⟩)
  | stuck p =>
   rw [hok] at hS
   simp only [dJ.isOk, Bool.false_eq_true, if_false, dJ.pos] at hS
   subst hS
   simp only [dJ.val]
   refine Mb (w:=QO (Ma (w:=?_)));refine QK (WS.neG (h1 := ?_) (h2 := ?_));intro hh;refine QQ (QN (Mw (w:=QO (Ma (w:=Mo (w:=QK ?_))))));rotate_left;intro hh;exact Bool.noConfusion hh
   refine QJ aJt ?_
   have hst : fW Tryz.prog 78 h1.next 0 (.agg #[.int .i64 p]) (h1.alloc (.cells false [.int .i64 0])) = some ((h1.alloc (.cells false [.int .i64 0])).put h1.next (some (.cells false [.int .i64 p]))) :=
    tV rfl cY (Nat.le_refl 1) rfl rfl
   refine aS.ext (X := X) (o := asO) (r := .ret (.bool true) ((h1.alloc (.cells false [.int .i64 0])).put h1.next (some (.cells false [.int .i64 p])))) rfl (fun C => ?_) ?_
   ·show (fW Tryz.prog 78 h1.next 0 (.agg #[.int .i64 p]) (h1.alloc (.cells false [.int .i64 0]))).map _ = _
    rw [hst]; rfl
   refine QL (QU (Gd [⟨0, .pure, 0⟩, ⟨1, .read, 1⟩, ⟨2, .pure, 3⟩, ⟨3, .pure, 0⟩, ⟨4, .aF, 15⟩] (w:=Dj (w:=Rt (w:=Dn (w:=Db (w:=?_)))))));refine WD.aF hX (hw := Qv ?_);refine WD.nil (hq:=WC.ret ?_)
   refine ⟨_, aM, ?_⟩
   exact hq _ _ _ _ (Gr.put (Gr.put (hg1.trans (Gr.alloc _ _)) (by omega)) (Nat.le_refl _)) (.inl ⟨rfl, rfl, rfl, rfl⟩)
  | long w p =>
   rw [hok] at hS
   simp only [dJ.isOk, Bool.false_eq_true, if_false, dJ.pos] at hS
   subst hS
   simp only [dJ.val]
   refine Mb (w:=QO (Ma (w:=?_)));refine QK (WS.neG (h1 := ?_) (h2 := ?_));intro hh;refine QQ (QN (Mw (w:=QO (Ma (w:=Mo (w:=QK ?_))))));rotate_left;intro hh;exact Bool.noConfusion hh
   refine QJ aJt ?_
   have hst : fW Tryz.prog 78 h1.next 0 (.agg #[.int .i64 p]) (h1.alloc (.cells false [.int .i64 0])) = some ((h1.alloc (.cells false [.int .i64 0])).put h1.next (some (.cells false [.int .i64 p]))) :=
    tV rfl cY (Nat.le_refl 1) rfl rfl
   refine aS.ext (X := X) (o := asO) (r := .ret (.bool true) ((h1.alloc (.cells false [.int .i64 0])).put h1.next (some (.cells false [.int .i64 p])))) rfl (fun C => ?_) ?_
   ·show (fW Tryz.prog 78 h1.next 0 (.agg #[.int .i64 p]) (h1.alloc (.cells false [.int .i64 0]))).map _ = _
    rw [hst]; rfl
   refine QL (QU (Gd [⟨0, .pure, 0⟩, ⟨1, .read, 1⟩, ⟨2, .pure, 3⟩, ⟨3, .pure, 0⟩, ⟨4, .aF, 15⟩] (w:=Dj (w:=Rt (w:=Dn (w:=Db (w:=?_)))))));refine WD.aF hX (hw := Qv ?_);refine WD.nil (hq:=WC.ret ?_)
   refine ⟨_, aM, ?_⟩
   exact hq _ _ _ _ (Gr.put (Gr.put (hg1.trans (Gr.alloc _ _)) (by omega)) (Nat.le_refl _)) (.inl ⟨rfl, rfl, rfl, rfl⟩)

theorem aJ6 : Tryz.prog.eqGuardType Tryz.prog.depth 27 = false := by decide +kernel
theorem aLa : Tryz.prog.stoodInHeld 27 = false := by decide +kernel
theorem aMj {x y : Operand} {a b : Array Value} : o0 Tryz.prog .neq 27 x y (.agg a) (.agg b) = true := by unfold o0 j7; simp only [aJ6]; rfl
theorem eqI {d : Nat} {a b : Int} : vE Tryz.prog (d + 1) 3 (.int .i64 a) (.int .i64 b) = some (decide (a = b)) := by
 have hu : Tryz.prog.underlying 3 = some (.int .i64) := rfl
 unfold vE; simp only [hu, if_true]; rfl
theorem aQl (a b : ByteArray) : (a == b) = decide (a = b) := by
 have h : (a == b) = (a.data == b.data) := rfl
 rw [h]
 by_cases e : a = b
 ·subst e; simp
 ·have : a.data ≠ b.data := fun h => e (ByteArray.ext h)
  simp [e, this]
theorem eqS {d : Nat} {a b : ByteArray} : vE Tryz.prog (d + 1) 9 (.string a) (.string b) = some (decide (a = b)) := by
 have hu : Tryz.prog.underlying 9 = some .string := rfl
 unfold vE; simp only [hu, aQl]

theorem yR {P : Program} {eq : TypeId → Value → Value → Option Bool} {f : Field} {fs : List Field} {xs ys : List Value} {u w : Value} {p q : Prop} [Decidable p] [Decidable q] (hn : (f.name == "_") = false) (hu : uR P f.type xs f.offset = some u) (hw : uR P f.type ys f.offset = some w)
  (he : eq f.type u w = some (decide p)) (hr : vE.eqFs P eq fs xs ys = some (decide q)) : vE.eqFs P eq (f :: fs) xs ys = some (decide (p ∧ q)) := by
 unfold vE.eqFs
 rw [if_neg (by intro h; rw [h] at hn; simp at hn)]
 simp only [hu, hw, he]
 by_cases hp : p
 ·simp only [hp, decide_true, true_and]; exact hr
 ·simp [hp]
theorem aG9 {P : Program} {eq : TypeId → Value → Value → Option Bool} {xs ys : List Value} : vE.eqFs P eq [] xs ys = some (decide True) := by unfold vE.eqFs; rfl

theorem aPx {a b c d : Int} : vE Tryz.prog 5 27 (.agg #[.int .i64 a, .int .i64 b]) (.agg #[.int .i64 c, .int .i64 d]) = some (decide (a = c ∧ b = d ∧ True)) := by
 have hu : Tryz.prog.underlying 27 = some (.struct #[_, _]) := rfl
 unfold vE
 simp only [hu, aLa, Bool.false_eq_true, if_false]
 exact yR (by decide +kernel) rfl rfl eqI (yR (by decide +kernel) rfl rfl eqI aG9)
section
variable {n : Nat} {F : List PanicEntry → aA → Prop} {env : Env} {h : aA} {lt : Bool} {ops : Array Oper} {d : Nat} {t : TypeId} {p : String} {a : Array Edge} {g : Option (Nat × Bool)} {K : Env → aA → (aA → Prop) → Prop}
theorem aDy {x y : Operand} {c} {i j i' j' : Int} (hg : cT ops env g = some true := by rfl) (hn : Nat.blt d n = true := by rfl) (hx : aJ G env x = some (.agg #[.int .i64 i, .int .i64 j]) := by first | rfl | assumption) (hy : aJ G env y = some (.agg #[.int .i64 i', .int .i64 j']) := by first | rfl | assumption)
  (h1 : i = i' ∧ j = j' ∧ True → K (bL env d (.bool false)) h fun _ => True) (h2 : ¬(i = i' ∧ j = j' ∧ True) → K (bL env d (.bool true)) h fun _ => True) : WS Tryz.prog G X n lt ops ⟨some d, .binOp .neq 27 x y c, t, p, a, g⟩ env h K F := by
 refine WS.xW (p := ¬(i = i' ∧ j = j' ∧ True)) hg hn (fun h => ?_) h2 (fun hc => h1 (Decidable.of_not_not hc))
 simp only [c6, hx, hy, aMj, if_true, nL, aPx, Option.map_some, decide_not]
end

end Go.Proofs.ZL
end
