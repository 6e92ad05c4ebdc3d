/- The lexer, second part: names, numbers, texts, marks. -/
import Derived.Test.YtpdkdgfknanipaaGreatDoorYL1
section
open Go Go.Am
namespace Go.Proofs.ZL
set_option maxRecDepth 100000
set_option linter.unusedSimpArgs false
set_option linter.unusedVariables false
set_option maxHeartbeats 4000000
variable {h : aA} {Q : bR → Prop} {L : List Tok} {p : Nat} {hd : Bool} {src : ByteArray}
inductive dJ where
 | ok
 | stuck (k : Nat)
 | long (w : ByteArray) (k : Nat)

def dJ.val : dJ → Value
 | .ok => .nilIface
 | .stuck k => .iface 78 (.agg #[.int .i64 k])
 | .long w k => .iface 156 (.agg #[.string w, .iface 78 (.agg #[.int .i64 k])])

structure Out where
 err : dJ
 pos : Nat
 list : List Tok

def sub (src : ByteArray) (k n : Nat) : ByteArray := jG src (k : Int) ((k : Int) + (n : Int))
theorem sub_eq (src : ByteArray) (k n : Nat) : sub src k n = src.extract k (k + n) := by
 unfold sub; rw [vB, Int.toNat_natCast, show ((k : Int) + n).toNat = k + n by omega]
theorem aB6 {k n : Nat} (h : k + n ≤ src.size) : (sub src k n).size = n := by
 rw [sub_eq, ByteArray.size_extract]; omega

theorem oQ {p : Int → Bool} {k : Nat} (hk : k ≤ src.size) : k + runN p src k ≤ src.size := by
 unfold runN
 have : ((src.data.toList.drop k).takeWhile fun b => p b.toNat).length ≤ (src.data.toList.drop k).length := (List.takeWhile_sublist _).length_le
 have h2 : src.data.toList.length = src.size := by simp
 rw [List.length_drop, h2] at this
 omega

def dQ (c : Int) : Bool := eU c || bN c

theorem aCa : aDx 105 bN := ⟨aG5, fun _ _ _ _ hq => zB hq⟩
theorem aB9 : aDx 129 dQ := ⟨aO8, fun c h Q hc hq => by
 refine Wk Tryz.func129 Tryz.ntmps129 (w:=QN (Mb (w:=QO (Ma (w:=MJ aD6 (w:=sC ?_))))))
 cases hl : eU c
 ·refine Ma (w:=Ma (w:=MJ aG5 (w:=zB ?_)))
  refine Md (w:=Mb (w:=QM ?_))
  refine ⟨_, rfl, fC ?_ hq⟩
  unfold dQ; rw [hl]; rfl
 ·refine Ma (w:=MA (w:=MA (w:=Mc (w:=Mb (w:=QM ?_)))))
  refine ⟨_, rfl, fC ?_ hq⟩
  unfold dQ; rw [hl]; rfl⟩

def pX (src : ByteArray) (k : Nat) (l : List Tok) : Out :=
 if 24 < runN dQ src k then ⟨.long ⟨#[97, 32, 110, 97, 109, 101]⟩ k, k, l⟩
 else ⟨.ok, k + runN dQ src k, l ++ [⟨if lR words (sub src k (runN dQ src k)) then 4 else 1, sub src k (runN dQ src k), 0, k⟩]⟩

theorem aKf {s : Nat} {k : Nat} {l : List Tok} (hs : Sc h s src k l) (hl : l.length ≤ 100000) (hz : src.size ≤ 100000) (hk : k ≤ src.size)
  (hq : ∀ h', Sc h' s src (pX src k l).pos (pX src k l).list → Fr s h h' → Q (.ret (pX src k l).err.val h')) : aS Tryz.prog G X 104 [.pointer (some ⟨s, 0, none⟩)] h Q := by
 have hs0 := hs
 obtain ⟨hlt, b, n, es, ho, ht⟩ := hs
 have hrun := oQ (p := dQ) hk
 refine Wk Tryz.func104 Tryz.ntmps104 (w:=QN (Mb (w:=QO (Ma (w:=MJ aG4 (w:=aIp aB9 hz ho hk ?_))))))
 refine Mb (w:=QL (QU (Gd [⟨0, .pure, 0⟩, ⟨1, .pure, 1⟩, ⟨2, .pure, 3⟩, ⟨3, .read, 7⟩, ⟨4, .pure, 0⟩, ⟨5, .pure, 16⟩, ⟨6, .pure, 48⟩, ⟨7, .read, 112⟩, ⟨8, .pure, 0⟩, ⟨9, .pure, 256⟩, ⟨10, .pure, 768⟩, ⟨11, .read, 1792⟩, ⟨12, .pure, 0⟩, ⟨13, .pure, 7936⟩, ⟨14, .pure, 16383⟩, ⟨15, .pure, 32767⟩] (w:=Da (w:=Di (w:=Dj (w:=Rt (w:=Da (w:=Di (w:=Dj (w:=Rt (w:=Da (w:=Di (w:=Dj (w:=Rt (w:=Da (w:=Df (w:=?_))))))))))))))))));refine QW (k := WS.aIx (hk := ?_));refine Db (w:=WD.nil (hq:=QU (Bk (QN (Ma (w:=MH (w:=fun hh => Mb (w:=QQ (QN (Ma (w:=Mi (w:=Mj (w:=Mt (w:=Mn (w:=Mo (w:=Mn (w:=Mo (w:=Mb (w:=QM ?_))))))))))))) (v:=fun hh => Mb (w:=QP (QN (Ma (w:=QK ?_)))))))))))
 ·have hn : pX src k l = ⟨.long ⟨#[97, 32, 110, 97, 109, 101]⟩ k, k, l⟩ := by unfold pX; rw [if_pos (by omega)]
  rw [hn] at hq
  exact ⟨_, rfl, hq _ hs0 (Fr.refl _ _)⟩
 ·have hn : pX src k l = ⟨.ok, k + runN dQ src k, l ++ [⟨if lR words (sub src k (runN dQ src k)) then 4 else 1, sub src k (runN dQ src k), 0, k⟩]⟩ := by unfold pX; rw [if_neg (by omega)]
  rw [hn] at hq
  refine QJ aO9 ?_
  refine aHm ?_
  cases hw : lR words (sub src k (runN dQ src k))
  ·unfold sub at hw; rw [hw]
   refine Mb (w:=QP (QV (Ma (w:=Ma (w:=Ma (w:=MJ xZ (w:=qR hs0 hl (by omega) (by omega) fun h2 hs2 fr2 => ?_)))))))
   refine QO (Mb (w:=QM ?_))
   refine ⟨_, rfl, hq _ ?_ fr2⟩
   unfold sub; rw [hw]; exact hs2
  ·unfold sub at hw; rw [hw]
   refine Mb (w:=QQ (QV (Ma (w:=Ma (w:=Ma (w:=MJ xZ (w:=qR hs0 hl (by omega) (by omega) fun h2 hs2 fr2 => ?_)))))))
   refine QO (Mb (w:=QM ?_))
   refine ⟨_, rfl, hq _ ?_ fr2⟩
   unfold sub; rw [hw]; exact hs2

def rL : List UInt8 → Int → Int
 | [], a => a
 | b :: l, a => rL l (a * 10 + ((b.toNat : Int) - 48))
def numOf (s : ByteArray) : Int := rL s.data.toList 0

theorem yX (b : UInt8) : ∀ (l : List UInt8) (a : Int), rL (l ++ [b]) a = rL l a * 10 + ((b.toNat : Int) - 48)
 | [], _ => rfl
 | c :: l, a => by simp only [List.cons_append, rL]; exact yX b l _

def sL (s : ByteArray) (i : Nat) : Int := rL (s.data.toList.take i) 0

theorem w5 {s : ByteArray} {i : Nat} (hi : i < s.size) : sL s (i + 1) = sL s i * 10 + (bD s i - 48) := by
 obtain ⟨b, hb, hv⟩ := gT hi
 unfold sL
 rw [List.take_add_one, hb]
 simp only [Option.toList]
 rw [yX, hv]

theorem uO {s : ByteArray} (hd : ∀ j, j < s.size → bN (bD s (j : Nat)) = true) : ∀ i, i ≤ s.size → 0 ≤ sL s i ∧ sL s i < 10 ^ i
 | 0, _ => by simp [sL, rL]
 | i + 1, hi => by
  have ih := uO hd i (by omega)
  rw [w5 (by omega)]
  have := hd i (by omega)
  simp only [bN, decide_eq_true_eq] at this
  rw [Int.pow_succ]
  omega

theorem aJk {s : ByteArray} (h1 : 1 ≤ s.size) (h18 : s.size ≤ 18) (hd : ∀ j, j < s.size → bN (bD s (j : Nat)) = true)
  (hq : ∀ h', Gr h h' → Q (.ret (.tuple #[.int .i64 (numOf s), .nilIface]) h')) : aS Tryz.prog G X 156 [.string s] h Q := by
 have h0 := hd 0 (by omega)
 simp only [bN, decide_eq_true_eq] at h0
 simp only [Int.natCast_zero] at h0
 refine Wk Tryz.func156 Tryz.ntmps156 (w:=?_)
 refine QN (Mb (w:=Mb (w:=QO (Ma (w:=Mr (w:=Mb (w:=QL (QU (QN (Ma (w:=MA (w:=MA (w:=MA (w:=MA (w:=MA (w:=MA (w:=Md (w:=Ma (w:=Ma (w:=Ma (w:=MF (w:=fun hh => Ma (w:=Ma (w:=MF (w:=fun hh => Mc (w:=Mc (w:=Md (w:=QQ (QN (Ma (w:=Mb (w:=QL (QU (QN (Ma (w:=Mm (w:=MD (w:=fun hh => by omega) (v:=fun hh => Ma (w:=Ma (w:=Mm (w:=MD (w:=fun hh => by omega) (v:=fun hh => Md (w:=QP (UA (QN (Mb (w:=QL (QU (QN (Ma (w:=?_))))))))))))))))))))))))))) (v:=?_)))) (v:=?_))))))))))))))))))))));refine QK (WS.bytesOf (hk := ?_));refine Ms (w:=Ma (w:=QL (Bk ?_)));rotate_left;intro hh;exfalso;omega;intro hh;exfalso;omega
 refine WC.cB hX (m := fun i : Nat => s.size - i) (Inv := fun i e h' => e 5 = some (.string s) ∧ e 47 = some (.slice (some ⟨h.next, 0, none⟩) s.size 1) ∧ e 48 = some (.int .i64 s.size) ∧ e 49 = some (.int .i64 i) ∧ e 6 = some (.int .i64 (sL s i)) ∧
  h' = h.alloc (.cells false (s.data.toList.map fun b => Value.int .u8 b.toNat)) ∧ i ≤ s.size) 0 ⟨rfl, rfl, rfl, rfl, rfl, rfl, by omega⟩ ?_
 intro i env h' ih ⟨e5, e47, e48, e49, e6, eh, hle⟩
 subst eh
 refine QN (MF (w:=fun hh => QL (QU (QR (UA (QU (Bk (QN (Ml (w:=QK ?_))))))))) (v:=fun hh => QL (QU (QS (WC.exit (aH (QU (QN (Ma (w:=Mm (w:=MD (w:=fun hh => by omega) (v:=fun hh => QP (UA (QN (Ma (w:=Mb (w:=Mb (w:=QM ?_))))))))))))))))))
 ·have hi : i < s.size := by omega
  have hb := hd i hi
  simp only [bN, decide_eq_true_eq] at hb
  have hr := uO hd i hle
  have hp : (10 : Int) ^ i ≤ 10 ^ 17 := by
   have := Nat.pow_le_pow_right (n := 10) (by decide) (show i ≤ 17 by omega)
   exact_mod_cast this
  have hp2 : (10 : Int) ^ 17 = 100000000000000000 := by decide
  rw [hp2] at hp
  refine WS.jC (v := .int .u8 (bD s i)) (hc := ?_) (hk := ?_)
  ·obtain ⟨b, h1, h2⟩ := gT hi
   rw [h2]
   have h1' : s.data[i]? = some b := by simpa using h1
   simp [h1']
  refine Mb (w:=QO (Ma (w:=?_)));refine QK (WS.aRc (hk := ?_));refine Mb (w:=QL (QU (QN (Ma (w:=MH (w:=fun hh => by omega) (v:=fun hh => QP (UA (QV (Ma (w:=?_))))))))));refine QK (WS.aNf (hk := ?_));refine Ma (w:=?_);refine QK (WS.aOs (hk := ?_));refine Mf (w:=Mb (w:=QL (QV (Mf (w:=Ma (w:=QL ?_))))))
  refine ih (i + 1) _ _ (by omega) ⟨e5, e47, e48, rfl, ?_, rfl, by omega⟩
  rw [w5 hi]; rfl
 ·refine ⟨_, rfl, ?_⟩
  have hi : i = s.size := by omega
  subst hi
  have : sL s s.size = numOf s := by
   unfold sL numOf
   rw [List.take_of_length_le (by simp)]
  rw [← this] at hq
  exact hq _ fG

theorem y3 {s : ByteArray} (h1 : 1 ≤ s.size) (h18 : s.size ≤ 18) (hd : ∀ j, j < s.size → bN (bD s (j : Nat)) = true)
  (hq : ∀ h', Gr h h' → Q (.ret (.tuple #[.int .i64 (numOf s), .nilIface]) h')) : aS Tryz.prog G X 131 [.string s] h Q := by
 refine Wk Tryz.func131 Tryz.ntmps131 (w:=QN (Mb (w:=Mb (w:=QO (Ma (w:=MJ aPd (w:=aJk h1 h18 hd fun h' g => ?_)))))))
 refine Ma (w:=Mq (w:=Mq (w:=Mb (w:=Mb (w:=QL (QU (QN (Ma (w:=?_)))))))));refine QK (WS.neG (h1 := ?_) (h2 := ?_));intro hh;exact Bool.noConfusion hh;intro hh;refine QP (UA (QN (Ma (w:=Mb (w:=Mb (w:=QM ?_))))))
 exact ⟨_, rfl, hq _ g⟩

def dE (src : ByteArray) (k : Nat) (l : List Tok) : Out :=
 if 18 < runN bN src k then ⟨.long ⟨#[97, 32, 110, 117, 109, 98, 101, 114]⟩ k, k, l⟩
 else if 1 < runN bN src k ∧ bD (sub src k (runN bN src k)) 0 = 48 then ⟨.stuck k, k, l⟩
 else if k + runN bN src k < src.size ∧ eU (bD src ((k : Int) + (runN bN src k : Int))) = true then ⟨.stuck (k + runN bN src k), k, l⟩
 else ⟨.ok, k + runN bN src k, l ++ [⟨2, sub src k (runN bN src k), numOf (sub src k (runN bN src k)), k⟩]⟩

theorem nN {k n j : Nat} (h : k + n ≤ src.size) (hj : j < n) : bD (sub src k n) (j : Nat) = bD src ((k + j : Nat) : Int) := by
 obtain ⟨b, hb, hv⟩ := gT (s := sub src k n) (k := j) (by rw [aB6 h]; exact hj)
 obtain ⟨c, hc, hw⟩ := gT (s := src) (k := k + j) (by omega)
 rw [hv, hw]
 have : (sub src k n).data.toList = (src.data.toList.drop k).take n := by
  rw [sub_eq, ByteArray.data_extract, Array.toList_extract, List.extract_eq_take_drop]
  congr 1; omega
 rw [this, List.getElem?_take, if_pos hj, List.getElem?_drop, hc] at hb
 cases hb; rfl

theorem sU {p : Int → Bool} {k j : Nat} (hk : k ≤ src.size) (hj : j < runN p src k) : p (bD src ((k + j : Nat) : Int)) = true := by
  have hle := oQ (p := p) hk
  obtain ⟨c, hc, hw⟩ := gT (s := src) (k := k + j) (by omega)
  rw [hw]
  have hjle : k + j < src.size := by omega
  unfold runN at hj
  have hm : ((src.data.toList.drop k).takeWhile fun b => p b.toNat)[j]? = some c := by
    rw [List.getElem?_eq_getElem hj]
    have h1 := (List.takeWhile_prefix (fun b : UInt8 => p b.toNat) (l := src.data.toList.drop k)).getElem hj
    rw [h1]
    have : (src.data.toList.drop k)[j]? = some c := by rw [List.getElem?_drop]; exact hc
    rw [List.getElem?_eq_getElem (by rw [List.length_drop]; have : src.data.toList.length = src.size := by simp
                                     rw [this]; exact Nat.lt_sub_of_add_lt (by rw [Nat.add_comm]; exact hjle))] at this
    exact this
  have hmem := List.mem_of_getElem? hm
  exact (List.all_eq_true.1 (List.all_takeWhile (p := fun b : UInt8 => p b.toNat) (l := src.data.toList.drop k))) c hmem

theorem aH4 {s : Nat} {k : Nat} {l : List Tok} (hs : Sc h s src k l) (hl : l.length ≤ 100000) (hz : src.size ≤ 100000) (hk : k < src.size) (hd : bN (bD src k) = true)
  (hq : ∀ h', Sc h' s src (dE src k l).pos (dE src k l).list → Fr s h h' → Q (.ret (dE src k l).err.val h')) : aS Tryz.prog G X 106 [.pointer (some ⟨s, 0, none⟩)] h Q := by
 have hs0 := hs
 obtain ⟨hlt, b, n, es, ho, ht⟩ := hs
 have hrun := oQ (p := bN) (Nat.le_of_lt hk)
 have hone : 1 ≤ runN bN src k := by
  rcases Nat.eq_zero_or_pos (runN bN src k) with h0 | h0
  ·exfalso
   obtain ⟨c, hc, hw⟩ := gT hk
   unfold runN at h0
   rw [List.drop_eq_getElem_cons (by simpa using hk), List.takeWhile_cons] at h0
   rw [List.getElem?_eq_getElem (by simpa using hk)] at hc
   rw [Option.some.inj hc, ← hw, if_pos hd] at h0
   simp at h0
  ·exact h0
 have hsz := aB6 hrun
 refine Wk Tryz.func106 Tryz.ntmps106 (w:=QN (Mb (w:=QO (Ma (w:=MJ aG4 (w:=aIp aCa hz ho (Nat.le_of_lt hk) ?_))))))
 generalize hN : runN bN src k = N at *
 have hsz' : (jG src (k : Int) ((k : Int) + (N : Int))).size = N := hsz
 refine Mb (w:=QL (QU (Gd [⟨0, .pure, 0⟩, ⟨1, .pure, 1⟩, ⟨2, .pure, 3⟩, ⟨3, .read, 7⟩, ⟨4, .pure, 0⟩, ⟨5, .pure, 16⟩, ⟨6, .pure, 48⟩, ⟨7, .read, 112⟩, ⟨8, .pure, 0⟩, ⟨9, .pure, 256⟩, ⟨10, .pure, 768⟩, ⟨11, .read, 1792⟩, ⟨12, .pure, 0⟩, ⟨13, .pure, 7936⟩, ⟨14, .pure, 16383⟩, ⟨15, .pure, 32767⟩] (w:=Da (w:=Di (w:=Dj (w:=Rt (w:=Da (w:=Di (w:=Dj (w:=Rt (w:=Da (w:=Di (w:=Dj (w:=Rt (w:=Da (w:=Df (w:=?_))))))))))))))))));refine QW (k := WS.aIx (hk := ?_));refine Db (w:=WD.nil (hq:=QU (Bk (QN (Ma (w:=MH (w:=fun hh => Mb (w:=QQ (QN (Ma (w:=Mi (w:=Mj (w:=Mt (w:=Mn (w:=Mo (w:=Mn (w:=Mo (w:=Mb (w:=QM ?_))))))))))))) (v:=fun hh => Mb (w:=QP (QN (Ma (w:=MH (w:=fun hh => Ma (w:=Ma (w:=Mm (w:=MD (w:=fun hh => Mc (w:=Mb (w:=QQ (QN (Ma (w:=Mi (w:=Mj (w:=Mt (w:=Mn (w:=Mo (w:=Mb (w:=QM ?_)))))))))))) (v:=fun hh => Mc (w:=Mb (w:=QP (QU (Gd [⟨0, .pure, 0⟩, ⟨1, .pure, 1⟩, ⟨2, .pure, 3⟩, ⟨3, .read, 7⟩, ⟨4, .pure, 0⟩, ⟨5, .pure, 31⟩, ⟨6, .pure, 0⟩, ⟨7, .pure, 64⟩, ⟨8, .pure, 192⟩, ⟨9, .read, 448⟩, ⟨10, .read, 960⟩, ⟨11, .pure, 2047⟩, ⟨12, .pure, 4095⟩, ⟨13, .pure, 8191⟩, ⟨14, .pure, 16383⟩, ⟨15, .pure, 32767⟩, ⟨16, .read, 65535⟩, ⟨17, .pure, 8191⟩, ⟨18, .pure, 139263⟩, ⟨19, .pure, 401407⟩, ⟨20, .read, 925695⟩, ⟨21, .pure, 8191⟩, ⟨22, .pure, 4071423⟩, ⟨23, .pure, 8388607⟩, ⟨24, .aF, 16777215⟩, ⟨25, .pure, 33554431⟩, ⟨26, .pure, 67108863⟩] (w:=Da (w:=Di (w:=Dj (w:=Rt (w:=Da (w:=Df (w:=Da (w:=Di (w:=Dj (w:=Rt (w:=Rr (w:=?_))))))))))))))))))))) (v:=?_))))))))))));rotate_left 2;refine QW (k := QF ?_ ?_);intro hh;refine Da (w:=Da (w:=Di (w:=Dj (w:=Rt (w:=Da (w:=Di (w:=Dj (w:=Rt (w:=Da (w:=Df (w:=Dm (w:=?_))))))))))));refine WD.aF hX (hw := ?_);rotate_left;intro hh;refine Da (w:=DA (w:=DA (w:=DA (w:=RA (w:=DA (w:=DA (w:=DA (w:=RA (w:=DA (w:=DA (w:=DA (w:=?_))))))))))));refine WD.aF hX (hw := QA ?_);refine Dd (w:=Db (w:=WD.nil (hq:=QS (UA (QN (Ma (w:=QK ?_)))))));rotate_left;intro hh;refine Ma (w:=MA (w:=MA (w:=MA (w:=Md (w:=Mb (w:=QP (QU (Gd [⟨0, .pure, 0⟩, ⟨1, .pure, 1⟩, ⟨2, .pure, 3⟩, ⟨3, .read, 7⟩, ⟨4, .pure, 0⟩, ⟨5, .pure, 31⟩, ⟨6, .pure, 0⟩, ⟨7, .pure, 64⟩, ⟨8, .pure, 192⟩, ⟨9, .read, 448⟩, ⟨10, .read, 960⟩, ⟨11, .pure, 2047⟩, ⟨12, .pure, 4095⟩, ⟨13, .pure, 8191⟩, ⟨14, .pure, 16383⟩, ⟨15, .pure, 32767⟩, ⟨16, .read, 65535⟩, ⟨17, .pure, 8191⟩, ⟨18, .pure, 139263⟩, ⟨19, .pure, 401407⟩, ⟨20, .read, 925695⟩, ⟨21, .pure, 8191⟩, ⟨22, .pure, 4071423⟩, ⟨23, .pure, 8388607⟩, ⟨24, .aF, 16777215⟩, ⟨25, .pure, 33554431⟩, ⟨26, .pure, 67108863⟩] (w:=Da (w:=Di (w:=Dj (w:=Rt (w:=Da (w:=Df (w:=Da (w:=Di (w:=Dj (w:=Rt (w:=Rr (w:=?_))))))))))))))))))));refine QW (k := QF ?_ ?_);intro hh;refine Da (w:=Da (w:=Di (w:=Dj (w:=Rt (w:=Da (w:=Di (w:=Dj (w:=Rt (w:=Da (w:=Df (w:=Dm (w:=?_))))))))))));refine WD.aF hX (hw := ?_);rotate_left;intro hh;refine Da (w:=DA (w:=DA (w:=DA (w:=RA (w:=DA (w:=DA (w:=DA (w:=RA (w:=DA (w:=DA (w:=DA (w:=?_))))))))))));refine WD.aF hX (hw := QA ?_);refine Dd (w:=Db (w:=WD.nil (hq:=QS (UA (QN (Ma (w:=QK ?_)))))));rotate_left
 ·have hn : dE src k l = ⟨.long ⟨#[97, 32, 110, 117, 109, 98, 101, 114]⟩ k, k, l⟩ := by unfold dE; rw [hN, if_pos (by omega)]
  rw [hn] at hq
  exact ⟨_, rfl, hq _ hs0 (Fr.refl _ _)⟩
 ·have hn : dE src k l = ⟨.stuck k, k, l⟩ := by unfold dE; rw [hN, if_neg (by omega), if_pos ⟨by omega, hh⟩]
  rw [hn] at hq
  exact ⟨_, rfl, hq _ hs0 (Fr.refl _ _)⟩
 ·have hno : ¬(1 < N ∧ bD (sub src k N) 0 = 48) := fun hc => absurd hc.2 (by assumption)
  refine QJ aD6 ?_
  refine sC ?_
  cases hlt2 : eU (bD src ((k : Int) + (N : Int)))
  ·have hno2 : ¬(k + N < src.size ∧ eU (bD src ((k : Int) + (N : Int))) = true) := fun hc => by rw [hlt2] at hc; exact Bool.noConfusion hc.2
   refine Dc (w:=Db (w:=WD.nil (hq:=QS (UA (QN (Ma (w:=QK ?_)))))))
   have hn : dE src k l = ⟨.ok, k + N, l ++ [⟨2, sub src k N, numOf (sub src k N), k⟩]⟩ := by
    unfold dE; rw [hN, if_neg (by omega), if_neg hno, if_neg hno2]
   rw [hn] at hq
   refine QJ aD7 ?_
   refine y3 (s := sub src k N) (by rw [hsz]; exact hone) (by rw [hsz]; omega) (fun j hj => by rw [hsz] at hj; rw [nN hrun hj]; exact sU (Nat.le_of_lt hk) (by rw [hN]; exact hj)) fun h1 g1 => ?_
   refine Ma (w:=Mq (w:=Mq (w:=Mb (w:=Mb (w:=QO (Ma (w:=Ma (w:=Ma (w:=Ma (w:=MJ xZ (w:=qR (Sc.grow hs0 g1) hl (by omega) (by omega) fun h2 hs2 fr2 => ?_)))))))))))
   refine QO (Mb (w:=QM ?_))
   exact ⟨_, rfl, hq _ hs2 ((pP (by omega) g1).trans fr2)⟩
  ·refine Dc (w:=Db (w:=WD.nil (hq:=QR (QN (Ma (w:=Mi (w:=Mj (w:=Mt (w:=Ma (w:=Mf (w:=Mn (w:=Mo (w:=Mb (w:=QM ?_))))))))))))))
   have hn : dE src k l = ⟨.stuck (k + N), k, l⟩ := by
    unfold dE; rw [hN, if_neg (by omega), if_neg hno, if_pos ⟨by omega, hlt2⟩]
   rw [hn] at hq
   exact ⟨_, rfl, hq _ hs0 (Fr.refl _ _)⟩
 ·have hno : ¬(1 < N ∧ bD (sub src k N) 0 = 48) := fun hc => absurd hc.2 (by assumption)
  have hno2 : ¬(k + N < src.size ∧ eU (bD src ((k : Int) + (N : Int))) = true) := fun hc => by omega
  have hn : dE src k l = ⟨.ok, k + N, l ++ [⟨2, sub src k N, numOf (sub src k N), k⟩]⟩ := by
   unfold dE; rw [hN, if_neg (by omega), if_neg hno, if_neg hno2]
  rw [hn] at hq
  refine QJ aD7 ?_
  refine y3 (s := sub src k N) (by rw [hsz]; exact hone) (by rw [hsz]; omega) (fun j hj => by rw [hsz] at hj; rw [nN hrun hj]; exact sU (Nat.le_of_lt hk) (by rw [hN]; exact hj)) fun h1 g1 => ?_
  refine Ma (w:=Mq (w:=Mq (w:=Mb (w:=Mb (w:=QO (Ma (w:=Ma (w:=Ma (w:=Ma (w:=MJ xZ (w:=qR (Sc.grow hs0 g1) hl (by omega) (by omega) fun h2 hs2 fr2 => ?_)))))))))))
  refine QO (Mb (w:=QM ?_))
  exact ⟨_, rfl, hq _ hs2 ((pP (by omega) g1).trans fr2)⟩
 ·have hno : ¬(1 < N ∧ bD (sub src k N) 0 = 48) := fun hc => by omega
  refine QJ aD6 ?_
  refine sC ?_
  cases hlt2 : eU (bD src ((k : Int) + (N : Int)))
  ·have hno2 : ¬(k + N < src.size ∧ eU (bD src ((k : Int) + (N : Int))) = true) := fun hc => by rw [hlt2] at hc; exact Bool.noConfusion hc.2
   refine Dc (w:=Db (w:=WD.nil (hq:=QS (UA (QN (Ma (w:=QK ?_)))))))
   have hn : dE src k l = ⟨.ok, k + N, l ++ [⟨2, sub src k N, numOf (sub src k N), k⟩]⟩ := by
    unfold dE; rw [hN, if_neg (by omega), if_neg hno, if_neg hno2]
   rw [hn] at hq
   refine QJ aD7 ?_
   refine y3 (s := sub src k N) (by rw [hsz]; exact hone) (by rw [hsz]; omega) (fun j hj => by rw [hsz] at hj; rw [nN hrun hj]; exact sU (Nat.le_of_lt hk) (by rw [hN]; exact hj)) fun h1 g1 => ?_
   refine Ma (w:=Mq (w:=Mq (w:=Mb (w:=Mb (w:=QO (Ma (w:=Ma (w:=Ma (w:=Ma (w:=MJ xZ (w:=qR (Sc.grow hs0 g1) hl (by omega) (by omega) fun h2 hs2 fr2 => ?_)))))))))))
   refine QO (Mb (w:=QM ?_))
   exact ⟨_, rfl, hq _ hs2 ((pP (by omega) g1).trans fr2)⟩
  ·refine Dc (w:=Db (w:=WD.nil (hq:=QR (QN (Ma (w:=Mi (w:=Mj (w:=Mt (w:=Ma (w:=Mf (w:=Mn (w:=Mo (w:=Mb (w:=QM ?_))))))))))))))
   have hn : dE src k l = ⟨.stuck (k + N), k, l⟩ := by
    unfold dE; rw [hN, if_neg (by omega), if_neg hno, if_pos ⟨by omega, hlt2⟩]
   rw [hn] at hq
   exact ⟨_, rfl, hq _ hs0 (Fr.refl _ _)⟩
 ·have hno : ¬(1 < N ∧ bD (sub src k N) 0 = 48) := fun hc => by omega
  have hno2 : ¬(k + N < src.size ∧ eU (bD src ((k : Int) + (N : Int))) = true) := fun hc => by omega
  have hn : dE src k l = ⟨.ok, k + N, l ++ [⟨2, sub src k N, numOf (sub src k N), k⟩]⟩ := by
   unfold dE; rw [hN, if_neg (by omega), if_neg hno, if_neg hno2]
  rw [hn] at hq
  refine QJ aD7 ?_
  refine y3 (s := sub src k N) (by rw [hsz]; exact hone) (by rw [hsz]; omega) (fun j hj => by rw [hsz] at hj; rw [nN hrun hj]; exact sU (Nat.le_of_lt hk) (by rw [hN]; exact hj)) fun h1 g1 => ?_
  refine Ma (w:=Mq (w:=Mq (w:=Mb (w:=Mb (w:=QO (Ma (w:=Ma (w:=Ma (w:=Ma (w:=MJ xZ (w:=qR (Sc.grow hs0 g1) hl (by omega) (by omega) fun h2 hs2 fr2 => ?_)))))))))))
  refine QO (Mb (w:=QM ?_))
  exact ⟨_, rfl, hq _ hs2 ((pP (by omega) g1).trans fr2)⟩

theorem aHa {s : ByteArray} 
    (hq : Q (.ret (.tuple #[.int .u8 (if s.size = 0 then 0 else if bD s 0 = 110 then 10 else if bD s 0 = 34 ∨ bD s 0 = 92 then bD s 0 else 0), .bool (decide (s.size ≠ 0 ∧ (bD s 0 = 110 ∨ bD s 0 = 34 ∨ bD s 0 = 92)))]) h)) : aS Tryz.prog G X 132 [.string s] h Q := by
  refine Wk Tryz.func132 Tryz.ntmps132 (w:=QN (Mb (w:=Mb (w:=QL (QU (QN (Ma (w:=Mr (w:=MD (w:=fun hh => QQ (QN (Mb (w:=Mb (w:=QM ?_))))) (v:=fun hh => QP (UA (QU (QN (Ma (w:=Mm (w:=Mb (w:=QO (Ma (w:=QL (Bk (QN (MD (w:=fun hh => Mb (w:=QQ (QN (Mb (w:=Mb (w:=QM ?_)))))) (v:=fun hh => Mb (w:=QP (QU (QN (MD (w:=fun hh => Mb (w:=QQ (UA (QR (QN (Ma (w:=Mb (w:=Mb (w:=QM ?_))))))))) (v:=fun hh => Mb (w:=QP (QV (MD (w:=fun hh => Mb (w:=QQ (QN (Ma (w:=Mb (w:=Mb (w:=QM ?_))))))) (v:=fun hh => Mb (w:=QP (UA (QN (Mb (w:=Mb (w:=QM ?_))))))))))))))))))))))))))))))))))))))
  all_goals (refine ⟨_, rfl, cast (congrArg Q ?_) hq⟩; clear hq; have e1 : (s.size : Int) = 0 ↔ s.size = 0 := by omega
             simp only [e1] at *; simp [answer, *])

def y1 (h : aA) (lo : Nat) (b : Option Addr) (n es : Nat) (out : List Int) : Prop :=
 (b = none ∧ n = 0 ∧ es = 0 ∧ out = []) ∨ ∃ i, b = some ⟨i, 0, none⟩ ∧ lo ≤ i ∧ i < h.next ∧ es = 1 ∧ n = out.length ∧ h.obj i = some (.cells false (out.map (Value.int .u8)))

theorem y1.len {lo : Nat} {b : Option Addr} {n es : Nat} {l : List Int} (ht : y1 h lo b n es l) : n = l.length := by
 rcases ht with ⟨_, rfl, _, rfl⟩ | ⟨i, _, _, _, _, rfl, _⟩ <;> rfl
theorem y1.at {lo : Nat} {b : Option Addr} {n es : Nat} {l : List Int} (ht : y1 h lo b n es l) : kG h b n es 1 (l.map (Value.int .u8)) := by
 rcases ht with ⟨rfl, rfl, rfl, rfl⟩ | ⟨i, rfl, _, _, rfl, rfl, ho⟩
 ·exact .inl ⟨rfl, rfl, rfl, rfl⟩
 ·exact .inr ⟨i, 0, _, rfl, rfl, ho, by simp, by rw [List.drop_zero, List.take_of_length_le (by simp)]⟩
theorem y1.mono {h h' : aA} {lo : Nat} {b : Option Addr} {n es : Nat} {l : List Int} (ht : y1 h lo b n es l) (hn : h.next ≤ h'.next) (ho : ∀ j, lo ≤ j → j < h.next → h'.obj j = h.obj j) : y1 h' lo b n es l := by
 rcases ht with ⟨rfl, rfl, rfl, rfl⟩ | ⟨i, rfl, h1, h2, rfl, rfl, h3⟩
 ·exact .inl ⟨rfl, rfl, rfl, rfl⟩
 ·exact .inr ⟨i, rfl, h1, by omega, rfl, rfl, by rw [ho i h1 h2]; exact h3⟩

def strOf (l : List Int) : ByteArray := ⟨(l.map fun n => UInt8.ofNat n.toNat).toArray⟩

theorem j5 : ∀ l : List Int, cP (l.map (Value.int .u8)) = some l
 | [] => rfl
 | a :: l => by simp only [List.map_cons, cP, j5 l]

theorem y1.str {lo : Nat} {b : Option Addr} {n es : Nat} {l : List Int} (ht : y1 h lo b n es l) : iG Tryz.prog 47 9 (.slice b n es) h = some (.string (strOf l), h) := by
 rcases ht with ⟨rfl, rfl, rfl, rfl⟩ | ⟨i, rfl, _, _, rfl, rfl, ho⟩
 ·rfl
 ·cases l with
  | nil => rfl
  | cons a l =>
   have h1 : h.cells i 0 (l.length + 1) = some ((a :: l).map (Value.int .u8)) := by
    simp only [aA.cells, ho]
    rw [if_pos (by simp), List.drop_zero, List.take_of_length_le (by simp)]
   have hu : Tryz.prog.underlying 47 = some (.slice 5) := rfl
   have hu9 : Tryz.prog.underlying 9 = some .string := rfl
   have hu5 : Tryz.prog.underlying 5 = some (.int .u8) := rfl
   simp only [iG, hu, hu9, hu5, List.length_cons]
   rw [if_neg (by omega)]
   simp only [if_true, h1, j5, Option.map_some]
   rfl

def kD (src : ByteArray) (k : Nat) (l : List Tok) : Nat → Nat → List Int → Out
 | 0, _, _ => ⟨.stuck src.size, k, l⟩
 | m + 1, i, out =>
  if src.size ≤ i then ⟨.stuck src.size, k, l⟩
  else if bD src i = 34 then (if 256 < out.length then ⟨.long ⟨#[97, 32, 116, 101, 120, 116]⟩ k, k, l⟩ else ⟨.ok, i + 1, l ++ [⟨3, strOf out, 0, k⟩]⟩)
  else if bD src i = 92 then
   (if i + 1 < src.size ∧ (bD src ((i + 1 : Nat) : Int) = 110 ∨ bD src ((i + 1 : Nat) : Int) = 34 ∨ bD src ((i + 1 : Nat) : Int) = 92) then
    kD src k l m (i + 2) (out ++ [if bD src ((i + 1 : Nat) : Int) = 110 then 10 else bD src ((i + 1 : Nat) : Int)])
   else ⟨.stuck i, k, l⟩)
  else if bD src i < 32 ∨ 126 < bD src i then ⟨.stuck i, k, l⟩
  else kD src k l m (i + 1) (out ++ [bD src i])

def xH (src : ByteArray) (k : Nat) (l : List Tok) : Out := kD src k l (src.size + 1) (k + 1) []

theorem vX {s : ByteArray} {l r j : Int} (hb : 0 ≤ l ∧ l ≤ r ∧ r ≤ s.size) (hj : 0 ≤ j ∧ j < r - l) : bD (jG s l r) j = bD s (l + j) := by
 have h1 : jG s l r = sub s l.toNat (r - l).toNat := by
  rw [sub_eq, vB]; congr 1; omega
 have h2 := nN (src := s) (k := l.toNat) (n := (r - l).toNat) (j := j.toNat) (by omega) (by omega)
 rw [h1]
 rw [show ((j.toNat : Nat) : Int) = j by omega] at h2
 rw [h2]
 congr 1; omega

theorem aA6 {s : ByteArray} {v : Int} {b : Bool} (hv : v = if s.size = 0 then 0 else if bD s 0 = 110 then 10 else if bD s 0 = 34 ∨ bD s 0 = 92 then bD s 0 else 0)
  (hb : b = decide (s.size ≠ 0 ∧ (bD s 0 = 110 ∨ bD s 0 = 34 ∨ bD s 0 = 92))) (hq : Q (.ret (.tuple #[.int .u8 v, .bool b]) h)) : aS Tryz.prog G X 132 [.string s] h Q := by
 subst hv hb
 exact aHa hq

theorem y1.snoc {h0 h' h2 : aA} {lo : Nat} {b : Option Addr} {n es : Nat} {out : List Int} {v : Int} {o : dS} (hb : y1 h' lo b n es out) (hlo : lo ≤ h'.next) (hg : Gr h0 h') (he : lo = h0.next)
  (hn : h2.next = (h'.alloc o).next + 1) (ho : h2.obj (h'.alloc o).next = some (.cells false (out.map (Value.int .u8) ++ [.int .u8 v])))
  (hf : ∀ i, i < (h'.alloc o).next → (∀ off, b ≠ some ⟨i, off, none⟩) → h2.obj i = (h'.alloc o).obj i) :
  y1 h2 lo (some ⟨(h'.alloc o).next, 0, none⟩) (n + 1) 1 (out ++ [v]) ∧ Gr h0 h2 := by
 have hlen := hb.len
 simp only [aA.aC] at hn ho hf ⊢
 refine ⟨.inr ⟨h'.next + 1, rfl, by omega, by omega, rfl, by simp [hlen], by rw [ho]; simp⟩, by have := hg.1; omega, fun j hj => ?_⟩
 rw [hf j (by have := hg.1; omega) (by rcases hb with ⟨rfl, _⟩ | ⟨i, rfl, h1, _⟩ <;> intro off e <;> cases e; omega)]
 rw [bX (by have := hg.1; omega) rfl]
 exact hg.2 j hj

theorem aN4 {s : Nat} {k : Nat} {l : List Tok} (hs : Sc h s src k l) (hl : l.length ≤ 100000) (hz : src.size ≤ 100000) (hk : k < src.size)
  (hq : ∀ h', Sc h' s src (xH src k l).pos (xH src k l).list → Fr s h h' → Q (.ret (xH src k l).err.val h')) : aS Tryz.prog G X 107 [.pointer (some ⟨s, 0, none⟩)] h Q := by
 have hs0 := hs
 obtain ⟨hlt, b0, n0, es0, ho, ht⟩ := hs
 refine Wk Tryz.func107 Tryz.ntmps107 (w:=QN (Mb (w:=QO (Mb (w:=QO (Ma (w:=Mi (w:=Mj (w:=Mt (w:=Mf (w:=Mb (w:=QL (Bk ?_)))))))))))))
 refine WC.cB hX (α := Nat × Nat × List Int) (m := fun a => a.1) (Inv := fun a e h' => ∃ b n es, e 0 = some (.pointer (some ⟨s, 0, none⟩)) ∧ e 3 = some (.slice b n es) ∧ e 4 = some (.int .i64 (a.2.1 : Nat)) ∧
  Gr h h' ∧ y1 h' h.next b n es a.2.2 ∧ src.size + 1 ≤ a.1 + a.2.1 ∧ k < a.2.1 ∧ a.2.1 ≤ src.size ∧ a.2.2.length ≤ a.2.1 ∧ kD src k l a.1 a.2.1 a.2.2 = xH src k l) (src.size + 1, k + 1, []) ⟨none, 0, 0, rfl, rfl, by rfl, Gr.refl _, .inl ⟨rfl, rfl, rfl, rfl⟩, by simp only; omega, by simp only; omega, by simp only; omega, by simp, rfl⟩ ?_
 rintro ⟨m, i, out⟩ env h' ih ⟨b, n, es, e0, e3, e4, hg, hb, hm, hki, hi2, hol, heq⟩
 simp only at e4 hb hm hki hi2 hol heq
 have ho' := hg.at hlt ho
 have hlen := hb.len
 obtain ⟨m, rfl⟩ : ∃ m', m = m' + 1 := ⟨m - 1, by omega⟩
 unfold kD at heq
 refine QU (Bk (QU (QN (Ma (w:=Ma (w:=Mi (w:=Mj (w:=Mt (w:=Mr (w:=MI (w:=fun hh => QQ (QN (Ma (w:=Mi (w:=Mj (w:=Mt (w:=Mr (w:=Mn (w:=Mo (w:=Mb (w:=QM ?_))))))))))) (v:=fun hh => QP (UA (QN (Ma (w:=Mi (w:=Mj (w:=Mt (w:=Ma (w:=Mm (w:=Mb (w:=QL (Bk (QN (Ma (w:=MD (w:=fun hh => Mb (w:=QQ (QU (QN (Ma (w:=Ms (w:=MH (w:=fun hh => QQ (QN (Ma (w:=Mi (w:=Mj (w:=Mt (w:=Mn (w:=Mo (w:=Mn (w:=Mo (w:=Mb (w:=QM ?_)))))))))))) (v:=fun hh => QP (UA (QU (Gd [⟨0, .pure, 0⟩, ⟨1, .pure, 0⟩, ⟨2, .read, 2⟩, ⟨3, .pure, 0⟩, ⟨4, .pure, 8⟩, ⟨5, .pure, 0⟩, ⟨6, .pure, 32⟩, ⟨7, .pure, 96⟩, ⟨8, .read, 224⟩, ⟨9, .pure, 504⟩, ⟨10, .aF, 1023⟩] (w:=Da (w:=Da (w:=?_)))))))))))))) (v:=?_))))))))))))))))))))))))));rotate_left 2;refine WD.read (hw := ?_);rotate_left;intro hh;refine Mb (w:=QP (QN (Ma (w:=MD (w:=fun hh => Mb (w:=QQ (QN (Ma (w:=Mi (w:=Mj (w:=Mt (w:=Ma (w:=Mf (w:=?_)))))))))) (v:=?_)))));refine QK (WS.xC (hk := ?_));refine QK ?_;rotate_left;intro hh;refine Mb (w:=QP (QN (Ma (w:=MF (w:=fun hh => Ma (w:=MA (w:=MA (w:=Mc (w:=Mb (w:=QQ (QN (Ma (w:=Mn (w:=Mo (w:=Mb (w:=QM ?_)))))))))))) (v:=?_)))));rotate_left;intro hh;refine Ma (w:=Ma (w:=MH (w:=fun hh => Md (w:=Mb (w:=QQ (QN (Ma (w:=Mn (w:=Mo (w:=Mb (w:=QM ?_))))))))) (v:=?_)));rotate_left;intro hh;refine Md (w:=Mb (w:=QP (QV (Ma (w:=Ma (w:=My (w:=QK ?_)))))));rotate_left
 ·rw [if_pos (by omega)] at heq
  rw [← heq] at hq
  exact ⟨_, rfl, hq _ (hs0.grow hg) (pP (by omega) hg)⟩
 ·rw [if_neg (by omega), if_pos (by assumption), if_pos (by omega)] at heq
  rw [← heq] at hq
  exact ⟨_, rfl, hq _ (hs0.grow hg) (pP (by omega) hg)⟩
 ·rw [if_neg (by omega), if_pos (by assumption), if_neg (by omega)] at heq
  rw [← heq] at hq
  apply WS.conv (fun H => y1 H h.next b n es out); (· rfl); (· rfl); (· exact aL); (· exact hb); (· exact fun H hH => hH.str)
  refine Da (w:=Df (w:=Da (w:=Di (w:=Dj (w:=Rt (w:=?_))))));refine QW (k := Qg ?_);refine WD.aF hX (hw := ?_)
  refine QJ xZ ?_
  rw [show (i : Int) + 1 - k = ((i + 1 - k : Nat) : Int) by omega]
  refine qR (hs0.grow hg) hl (by omega) (by omega) fun h3 hs3 fr3 => ?_
  refine WD.nil (hq:=QN (Mb (w:=QM ?_)))
  rw [show k + (i + 1 - k) = i + 1 by omega] at hs3
  exact ⟨_, rfl, hq _ hs3 ((pP (by omega) hg).trans fr3)⟩
 ·rw [if_neg (by omega), if_neg (by assumption), if_pos (by assumption)] at heq
  refine QJ aPa ?_
  have hbs := lQ (s := src) (l := (i : Int) + 1) (r := src.size) (by omega)
  by_cases hesc : i + 1 < src.size ∧ (bD src ((i + 1 : Nat) : Int) = 110 ∨ bD src ((i + 1 : Nat) : Int) = 34 ∨ bD src ((i + 1 : Nat) : Int) = 92)
  ·rw [if_pos hesc] at heq
   have hb0 : bD (jG src ((i : Int) + 1) src.size) 0 = bD src ((i + 1 : Nat) : Int) := by
    rw [vX (by omega) (by omega)]; congr 1
   refine aA6 (v := if bD src ((i + 1 : Nat) : Int) = 110 then 10 else bD src ((i + 1 : Nat) : Int)) (b := true) ?_ ?_ ?_
   ·rw [hb0, if_neg (show ¬(jG src ((i : Int) + 1) src.size).size = 0 by omega)]
    rcases hesc.2 with h | h | h <;> rw [h] <;> decide
   ·rw [hb0]; symm; rw [decide_eq_true_eq]; exact ⟨by omega, hesc.2⟩
   refine Ma (w:=Mq (w:=Mq (w:=Mb (w:=Mb (w:=QL (QU (QN (Ma (w:=Me (w:=QP (UA (QN (Ma (w:=Ma (w:=My (w:=QK ?_))))))))))))))))
   apply WS.append
   (· rfl); (· rfl); (· exact aL); (· exact aL); (· rfl); (· rfl); (· intro k hk; cases hk); (· exact cE rfl); (· decide); (· exact aD); (· exact iC); (· rfl); (· unfold room; omega); (· rfl)
   (· exact (hb.mono (h' := h'.alloc _) (by simp) (fun j _ hj => bX (by omega) rfl)).at)
   intro h2 hn2 ho2 hf2
   obtain ⟨hb2, hg2⟩ := hb.snoc hg.1 hg rfl hn2 ho2 hf2
   refine Mb (w:=QL (QV (Ma (w:=Mf (w:=Mb (w:=QL (QV (Ma (w:=Mf (w:=Mb (w:=QL ?_)))))))))))

   refine ih (m, i + 2, _) _ _ (by simp) ⟨_, _, _, e0, rfl, by simp only [Int.natCast_add]; rfl, hg2, hb2, by simp only; omega, by simp only; omega, by simp only; omega, by simp only [List.length_append, List.length_singleton]; omega, heq⟩
  ·rw [if_neg hesc] at heq
   rw [← heq] at hq
   refine aA6 (v := _) (b := false) rfl ?_ ?_
   ·symm; rw [decide_eq_false_iff_not]
    intro hc
    refine hesc ⟨by omega, ?_⟩
    have hb0 : bD (jG src ((i : Int) + 1) src.size) 0 = bD src ((i + 1 : Nat) : Int) := by
     rw [vX (by omega) (by omega)]; congr 1
    rw [hb0] at hc; exact hc.2
   refine Ma (w:=Mq (w:=Mq (w:=Mb (w:=Mb (w:=QL (QU (QN (Ma (w:=Me (w:=QQ (QN (Ma (w:=Mn (w:=Mo (w:=Mb (w:=QM ?_))))))))))))))))
   exact ⟨_, rfl, hq _ (hs0.grow hg) (pP (by omega) hg)⟩
 ·rw [if_neg (by omega), if_neg (by assumption), if_neg (by assumption), if_pos (by omega)] at heq
  rw [← heq] at hq
  exact ⟨_, rfl, hq _ (hs0.grow hg) (pP (by omega) hg)⟩
 ·rw [if_neg (by omega), if_neg (by assumption), if_neg (by assumption), if_pos (by omega)] at heq
  rw [← heq] at hq
  exact ⟨_, rfl, hq _ (hs0.grow hg) (pP (by omega) hg)⟩
 ·rw [if_neg (by omega), if_neg (by assumption), if_neg (by assumption), if_neg (by omega)] at heq
  apply WS.append
  (· rfl); (· rfl); (· exact aL); (· exact aL); (· rfl); (· rfl); (· intro k hk; cases hk); (· exact cE rfl); (· decide); (· exact aD); (· exact iC); (· rfl); (· unfold room; omega); (· rfl)
  (· exact (hb.mono (h' := h'.alloc _) (by simp) (fun j _ hj => bX (by omega) rfl)).at)
  intro h2 hn2 ho2 hf2
  obtain ⟨hb2, hg2⟩ := hb.snoc hg.1 hg rfl hn2 ho2 hf2
  refine Mb (w:=QL (QV (Ma (w:=Mf (w:=Mb (w:=QL ?_))))))

  refine ih (m, i + 1, _) _ _ (by simp) ⟨_, _, _, e0, rfl, by simp only [Int.natCast_add]; rfl, hg2, hb2, by simp only; omega, by simp only; omega, by simp only; omega, by simp only [List.length_append, List.length_singleton]; omega, heq⟩

theorem WC.aDt {P : Program} {G : Nat} {X : eQ} {n : Nat} (hX : bW X) {b : Code} {env : Env} {h : aA} {N : Env → aA → Prop} {E : Nat → Env → aA → Prop} {R : Env → aA → Prop} {F : List PanicEntry → aA → Prop}
  (hw : WC P G X n b env h (fun e h => WC P G X n (.loop b) e h N E R F) E R F) : WC P G X n (.loop b) env h N E R F :=
 WC.cB hX (α := Nat) (fun k => k) (fun k e h' => k = 1 ∧ e = env ∧ h' = h ∨ k = 0 ∧ False) 1 (.inl ⟨rfl, rfl, rfl⟩) (by
  rintro k e h' _ (⟨_, rfl, rfl⟩ | ⟨_, hf⟩)
  ·exact hw
  ·exact hf.elim)

def marks : List ByteArray := [⟨#[58, 61]⟩, ⟨#[61, 61]⟩, ⟨#[33, 61]⟩, ⟨#[60, 61]⟩, ⟨#[62, 61]⟩, ⟨#[38, 38]⟩, ⟨#[124, 124]⟩, ⟨#[60, 45]⟩, ⟨#[43, 43]⟩, ⟨#[45, 45]⟩, ⟨#[43, 61]⟩, ⟨#[45, 61]⟩, ⟨#[42, 61]⟩, ⟨#[40]⟩, ⟨#[41]⟩, ⟨#[91]⟩, ⟨#[93]⟩, ⟨#[123]⟩, ⟨#[125]⟩, ⟨#[44]⟩, ⟨#[59]⟩, ⟨#[58]⟩, ⟨#[46]⟩, ⟨#[61]⟩, ⟨#[60]⟩, ⟨#[62]⟩, ⟨#[43]⟩, ⟨#[45]⟩, ⟨#[42]⟩, ⟨#[47]⟩, ⟨#[37]⟩, ⟨#[33]⟩, ⟨#[38]⟩]

def eD (s : ByteArray) : ByteArray := if 2 ≤ s.size ∧ lR marks (jG s 0 2) = true then jG s 0 2 else if 1 ≤ s.size ∧ lR marks (jG s 0 1) = true then jG s 0 1 else .empty

theorem zF {s p : ByteArray} (_hs : s.size ≤ 100000) (hp : p.size ≤ 100000) (hq : Q (.ret (.bool (decide (p.size ≤ s.size ∧ jG s 0 p.size = p))) h)) : aS Tryz.prog G X 128 [.string s, .string p] h Q := by
 refine Wk Tryz.func128 Tryz.ntmps128 (w:=?_)
 refine QN (Mb (w:=QO (Ma (w:=Mr (w:=Ma (w:=Mr (w:=MI (w:=fun hh => Ma (w:=Ma (w:=Ma (w:=Mr (w:=?_))))) (v:=?_))))))));refine QK (WS.sY (hk := ?_));refine Ma (w:=MB (w:=fun hh => Mc (w:=Mb (w:=QM ?_))) (v:=?_));rotate_left;intro hh;refine Mc (w:=Mb (w:=QM ?_));rotate_left;intro hh;refine Ma (w:=MA (w:=MA (w:=MA (w:=MA (w:=MA (w:=MA (w:=Md (w:=Mb (w:=QM ?_)))))))));rotate_left
 all_goals (refine ⟨_, rfl, fC ?_ hq⟩; symm; first
  | (rw [decide_eq_true_eq]; exact ⟨by omega, hh⟩)
  | (rw [decide_eq_false_iff_not]; intro hc; exact absurd hc.2 hh)
  | (rw [decide_eq_false_iff_not]; intro hc; omega))

theorem aBc {s p : ByteArray} (hs : s.size ≤ 100000) (hp : p.size ≤ 100000) (hq : Q (.ret (.bool (decide (p.size ≤ s.size ∧ jG s 0 p.size = p))) h)) : aS Tryz.prog G X 100 [.string s, .string p] h Q := by
 refine Wk Tryz.func100 Tryz.ntmps100 (w:=QN (Mb (w:=QO (Ma (w:=Ma (w:=MJ aO7 (w:=zF hs hp ?_)))))))
 refine Mb (w:=QM ?_)
 exact ⟨_, rfl, hq⟩

theorem aNd {s : ByteArray} (hs : s.size ≤ 100000) (hq : Q (.ret (.string (eD s)) h)) : aS Tryz.prog G X 108 [.string s] h Q := by
  refine Wk Tryz.func108 Tryz.ntmps108 (w:=QN (Mb (w:=QL (QU (QN (Mn (w:=Ma (w:=QL (Bk ?_)))))))))
  refine WC.aDt hX ?_
  refine QN (MF (w:=fun hh => QL (QU (QR (UA (QU (Bk (QN (QK ?_)))))))) (v:=?_));rotate_left;intro hh;exfalso;omega
  apply WS.index (v := .int .i64 2); (· rfl); (· rfl); (· exact aL); (· exact aL); (· rfl)
  refine Mb (w:=QL (QU (QN (Ma (w:=Mr (w:=Ma (w:=MF (w:=fun hh => QQ (WC.exit (aH (QV (Mf (w:=Ma (w:=QL ?_))))))) (v:=?_))))))));rotate_left;intro hh;refine QP (UA (QN (Ma (w:=Ma (w:=?_)))));refine QK (WS.sY (hk := ?_));refine Mb (w:=QO (Ma (w:=QL (Bk (QU (Bk (Bk (QU (QU (QU (QN (MB (w:=fun hh => Mb (w:=QQ (UA (QR (WC.exit (aH (QU (QN (Ma (w:=Mb (w:=QM ?_))))))))))) (v:=?_)))))))))))));rotate_left;intro hh;refine Mb (w:=QP (QN (MB (w:=fun hh => Mb (w:=QQ (UA (QR (WC.exit (aH (QU (QN (Ma (w:=Mb (w:=QM ?_))))))))))) (v:=?_))));rotate_left;intro hh;refine Mb (w:=QP (QN (MB (w:=fun hh => Mb (w:=QQ (UA (QR (WC.exit (aH (QU (QN (Ma (w:=Mb (w:=QM ?_))))))))))) (v:=?_))));rotate_left;intro hh;refine Mb (w:=QP (QN (MB (w:=fun hh => Mb (w:=QQ (UA (QR (WC.exit (aH (QU (QN (Ma (w:=Mb (w:=QM ?_))))))))))) (v:=?_))));rotate_left;intro hh;refine Mb (w:=QP (QN (MB (w:=fun hh => Mb (w:=QQ (UA (QR (WC.exit (aH (QU (QN (Ma (w:=Mb (w:=QM ?_))))))))))) (v:=?_))));rotate_left;intro hh;refine Mb (w:=QP (QN (MB (w:=fun hh => Mb (w:=QQ (UA (QR (WC.exit (aH (QU (QN (Ma (w:=Mb (w:=QM ?_))))))))))) (v:=?_))));rotate_left;intro hh;refine Mb (w:=QP (QN (MB (w:=fun hh => Mb (w:=QQ (UA (QR (WC.exit (aH (QU (QN (Ma (w:=Mb (w:=QM ?_))))))))))) (v:=?_))));rotate_left;intro hh;refine Mb (w:=QP (QN (MB (w:=fun hh => Mb (w:=QQ (UA (QR (WC.exit (aH (QU (QN (Ma (w:=Mb (w:=QM ?_))))))))))) (v:=?_))));rotate_left;intro hh;refine Mb (w:=QP (QN (MB (w:=fun hh => Mb (w:=QQ (UA (QR (WC.exit (aH (QU (QN (Ma (w:=Mb (w:=QM ?_))))))))))) (v:=?_))));rotate_left;intro hh;refine Mb (w:=QP (QN (MB (w:=fun hh => Mb (w:=QQ (UA (QR (WC.exit (aH (QU (QN (Ma (w:=Mb (w:=QM ?_))))))))))) (v:=?_))));rotate_left;intro hh;refine Mb (w:=QP (QN (MB (w:=fun hh => Mb (w:=QQ (UA (QR (WC.exit (aH (QU (QN (Ma (w:=Mb (w:=QM ?_))))))))))) (v:=?_))));rotate_left;intro hh;refine Mb (w:=QP (QN (MB (w:=fun hh => Mb (w:=QQ (UA (QR (WC.exit (aH (QU (QN (Ma (w:=Mb (w:=QM ?_))))))))))) (v:=?_))));rotate_left;intro hh;refine Mb (w:=QP (QV (MB (w:=fun hh => Mb (w:=QQ (WC.exit (aH (QU (QN (Ma (w:=Mb (w:=QM ?_))))))))) (v:=?_))));rotate_left;intro hh;refine Mb (w:=QP (UA (QU (QN (MB (w:=fun hh => Mb (w:=QQ (UA (QR (WC.exit ?_))))) (v:=?_))))));refine bE rfl ?_;refine aH (QU (QN (Ma (w:=Mb (w:=QM ?_)))));rotate_left;intro hh;refine Mb (w:=QP (QN (MB (w:=fun hh => Mb (w:=QQ (UA (QR (WC.exit ?_))))) (v:=?_))));refine bE rfl ?_;refine aH (QU (QN (Ma (w:=Mb (w:=QM ?_)))));rotate_left;intro hh;refine Mb (w:=QP (QN (MB (w:=fun hh => Mb (w:=QQ (UA (QR (WC.exit ?_))))) (v:=?_))));refine bE rfl ?_;refine aH (QU (QN (Ma (w:=Mb (w:=QM ?_)))));rotate_left;intro hh;refine Mb (w:=QP (QN (MB (w:=fun hh => Mb (w:=QQ (UA (QR (WC.exit ?_))))) (v:=?_))));refine bE rfl ?_;refine aH (QU (QN (Ma (w:=Mb (w:=QM ?_)))));rotate_left;intro hh;refine Mb (w:=QP (QN (MB (w:=fun hh => Mb (w:=QQ (UA (QR (WC.exit ?_))))) (v:=?_))));refine bE rfl ?_;refine aH (QU (QN (Ma (w:=Mb (w:=QM ?_)))));rotate_left;intro hh;refine Mb (w:=QP (QN (MB (w:=fun hh => Mb (w:=QQ (UA (QR (WC.exit ?_))))) (v:=?_))));refine bE rfl ?_;refine aH (QU (QN (Ma (w:=Mb (w:=QM ?_)))));rotate_left;intro hh;refine Mb (w:=QP (QN (MB (w:=fun hh => Mb (w:=QQ (UA (QR (WC.exit ?_))))) (v:=?_))));refine bE rfl ?_;refine aH (QU (QN (Ma (w:=Mb (w:=QM ?_)))));rotate_left;intro hh;refine Mb (w:=QP (QN (MB (w:=fun hh => Mb (w:=QQ (UA (QR (WC.exit ?_))))) (v:=?_))));refine bE rfl ?_;refine aH (QU (QN (Ma (w:=Mb (w:=QM ?_)))));rotate_left;intro hh;refine Mb (w:=QP (QN (MB (w:=fun hh => Mb (w:=QQ (UA (QR (WC.exit ?_))))) (v:=?_))));refine bE rfl ?_;refine aH (QU (QN (Ma (w:=Mb (w:=QM ?_)))));rotate_left;intro hh;refine Mb (w:=QP (QN (MB (w:=fun hh => Mb (w:=QQ (UA (QR (WC.exit ?_))))) (v:=?_))));refine bE rfl ?_;refine aH (QU (QN (Ma (w:=Mb (w:=QM ?_)))));rotate_left;intro hh;refine Mb (w:=QP (QN (MB (w:=fun hh => Mb (w:=QQ (UA (QR (WC.exit ?_))))) (v:=?_))));refine bE rfl ?_;refine aH (QU (QN (Ma (w:=Mb (w:=QM ?_)))));rotate_left;intro hh;refine Mb (w:=QP (QN (MB (w:=fun hh => Mb (w:=QQ (UA (QR (WC.exit ?_))))) (v:=?_))));refine bE rfl ?_;refine aH (QU (QN (Ma (w:=Mb (w:=QM ?_)))));rotate_left;intro hh;refine Mb (w:=QP (QN (MB (w:=fun hh => Mb (w:=QQ (UA (QR (WC.exit ?_))))) (v:=?_))));refine bE rfl ?_;refine aH (QU (QN (Ma (w:=Mb (w:=QM ?_)))));rotate_left;intro hh;refine Mb (w:=QP (QN (MB (w:=fun hh => Mb (w:=QQ (UA (QR (WC.exit ?_))))) (v:=?_))));refine bE rfl ?_;refine aH (QU (QN (Ma (w:=Mb (w:=QM ?_)))));rotate_left;intro hh;refine Mb (w:=QP (QN (MB (w:=fun hh => Mb (w:=QQ (UA (QR (WC.exit ?_))))) (v:=?_))));refine bE rfl ?_;refine aH (QU (QN (Ma (w:=Mb (w:=QM ?_)))));rotate_left;intro hh;refine Mb (w:=QP (QN (MB (w:=fun hh => Mb (w:=QQ (UA (QR (WC.exit ?_))))) (v:=?_))));refine bE rfl ?_;refine aH (QU (QN (Ma (w:=Mb (w:=QM ?_)))));rotate_left;intro hh;refine Mb (w:=QP (QN (MB (w:=fun hh => Mb (w:=QQ (UA (QR (WC.exit ?_))))) (v:=?_))));refine bE rfl ?_;refine aH (QU (QN (Ma (w:=Mb (w:=QM ?_)))));rotate_left;intro hh;refine Mb (w:=QP (QN (MB (w:=fun hh => Mb (w:=QQ (UA (QR (WC.exit ?_))))) (v:=?_))));refine bE rfl ?_;refine aH (QU (QN (Ma (w:=Mb (w:=QM ?_)))));rotate_left;intro hh;refine Mb (w:=QP (QN (MB (w:=fun hh => Mb (w:=QQ (UA (QR (WC.exit ?_))))) (v:=?_))));refine bE rfl ?_;refine aH (QU (QN (Ma (w:=Mb (w:=QM ?_)))));rotate_left;intro hh;refine Mb (w:=QP (QV (MB (w:=fun hh => Mb (w:=QQ (WC.exit ?_))) (v:=?_))));refine bE rfl ?_;refine aH (QU (QN (Ma (w:=Mb (w:=QM ?_)))));rotate_left;intro hh;refine Mb (w:=QP (UA (WC.exit ?_)));refine bE rfl ?_;refine bE rfl ?_;refine aH (QV (Mf (w:=Ma (w:=QL ?_))));rotate_left
  all_goals (try (
    have hm : lR marks (jG s 0 2) = true := by rw [hh]; decide +kernel
    have he : eD s = jG s 0 2 := by unfold eD; rw [if_pos ⟨by omega, hm⟩]
    rw [he] at hq
    exact ⟨_, rfl, hq⟩))
  all_goals (have hno : ¬(2 ≤ s.size ∧ lR marks (jG s 0 2) = true) := by
               first
                 | omega
                 | (intro hc; have hm := iN.1 hc.2; simp only [marks, List.mem_cons, List.not_mem_nil, or_false] at hm; repeat (first | contradiction | (rcases hm with hm | hm))))
  all_goals (refine WC.aDt hX ?_)
  refine QN (MF (w:=fun hh => QL (QU (QR (UA (QU (Bk (QN (QK ?_)))))))) (v:=fun hh => by omega));rotate_left;refine QN (MF (w:=fun hh => QL (QU (QR (UA (QU (Bk (QN (QK ?_)))))))) (v:=?_));rotate_left;intro hh;exfalso;omega
  all_goals (apply WS.index (v := .int .i64 1); (· rfl); (· rfl); (· exact aL); (· exact aL); (· rfl))
  refine Mb (w:=QL (QU (QN (Ma (w:=Mr (w:=Ma (w:=MF (w:=fun hh => QQ (WC.exit (aH (QV (Mf (w:=Ma (w:=QL ?_))))))) (v:=?_))))))));rotate_left;intro hh;refine QP (UA (QN (Ma (w:=Ma (w:=?_)))));refine QK (WS.sY (hk := ?_));refine Mb (w:=QO (Ma (w:=QL (Bk (QU (Bk (Bk (QU (QU (QU (QN (MB (w:=fun hh => Mb (w:=QQ (UA (QR (WC.exit (aH (QU (QN (Ma (w:=Mb (w:=QM ?_))))))))))) (v:=?_)))))))))))));rotate_left;intro hh;refine Mb (w:=QP (QN (MB (w:=fun hh => Mb (w:=QQ (UA (QR (WC.exit (aH (QU (QN (Ma (w:=Mb (w:=QM ?_))))))))))) (v:=?_))));rotate_left;intro hh;refine Mb (w:=QP (QN (MB (w:=fun hh => Mb (w:=QQ (UA (QR (WC.exit (aH (QU (QN (Ma (w:=Mb (w:=QM ?_))))))))))) (v:=?_))));rotate_left;intro hh;refine Mb (w:=QP (QN (MB (w:=fun hh => Mb (w:=QQ (UA (QR (WC.exit (aH (QU (QN (Ma (w:=Mb (w:=QM ?_))))))))))) (v:=?_))));rotate_left;intro hh;refine Mb (w:=QP (QN (MB (w:=fun hh => Mb (w:=QQ (UA (QR (WC.exit (aH (QU (QN (Ma (w:=Mb (w:=QM ?_))))))))))) (v:=?_))));rotate_left;intro hh;refine Mb (w:=QP (QN (MB (w:=fun hh => Mb (w:=QQ (UA (QR (WC.exit (aH (QU (QN (Ma (w:=Mb (w:=QM ?_))))))))))) (v:=?_))));rotate_left;intro hh;refine Mb (w:=QP (QN (MB (w:=fun hh => Mb (w:=QQ (UA (QR (WC.exit (aH (QU (QN (Ma (w:=Mb (w:=QM ?_))))))))))) (v:=?_))));rotate_left;intro hh;refine Mb (w:=QP (QN (MB (w:=fun hh => Mb (w:=QQ (UA (QR (WC.exit (aH (QU (QN (Ma (w:=Mb (w:=QM ?_))))))))))) (v:=?_))));rotate_left;intro hh;refine Mb (w:=QP (QN (MB (w:=fun hh => Mb (w:=QQ (UA (QR (WC.exit (aH (QU (QN (Ma (w:=Mb (w:=QM ?_))))))))))) (v:=?_))));rotate_left;intro hh;refine Mb (w:=QP (QN (MB (w:=fun hh => Mb (w:=QQ (UA (QR (WC.exit (aH (QU (QN (Ma (w:=Mb (w:=QM ?_))))))))))) (v:=?_))));rotate_left;intro hh;refine Mb (w:=QP (QN (MB (w:=fun hh => Mb (w:=QQ (UA (QR (WC.exit (aH (QU (QN (Ma (w:=Mb (w:=QM ?_))))))))))) (v:=?_))));rotate_left;intro hh;refine Mb (w:=QP (QN (MB (w:=fun hh => Mb (w:=QQ (UA (QR (WC.exit (aH (QU (QN (Ma (w:=Mb (w:=QM ?_))))))))))) (v:=?_))));rotate_left;intro hh;refine Mb (w:=QP (QV (MB (w:=fun hh => Mb (w:=QQ (WC.exit (aH (QU (QN (Ma (w:=Mb (w:=QM ?_))))))))) (v:=?_))));rotate_left;intro hh;refine Mb (w:=QP (UA (QU (QN (MB (w:=fun hh => Mb (w:=QQ (UA (QR (WC.exit ?_))))) (v:=?_))))));refine bE rfl ?_;refine aH (QU (QN (Ma (w:=Mb (w:=QM ?_)))));rotate_left;intro hh;refine Mb (w:=QP (QN (MB (w:=fun hh => Mb (w:=QQ (UA (QR (WC.exit ?_))))) (v:=?_))));refine bE rfl ?_;refine aH (QU (QN (Ma (w:=Mb (w:=QM ?_)))));rotate_left;intro hh;refine Mb (w:=QP (QN (MB (w:=fun hh => Mb (w:=QQ (UA (QR (WC.exit ?_))))) (v:=?_))));refine bE rfl ?_;refine aH (QU (QN (Ma (w:=Mb (w:=QM ?_)))));rotate_left;intro hh;refine Mb (w:=QP (QN (MB (w:=fun hh => Mb (w:=QQ (UA (QR (WC.exit ?_))))) (v:=?_))));refine bE rfl ?_;refine aH (QU (QN (Ma (w:=Mb (w:=QM ?_)))));rotate_left;intro hh;refine Mb (w:=QP (QN (MB (w:=fun hh => Mb (w:=QQ (UA (QR (WC.exit ?_))))) (v:=?_))));refine bE rfl ?_;refine aH (QU (QN (Ma (w:=Mb (w:=QM ?_)))));rotate_left;intro hh;refine Mb (w:=QP (QN (MB (w:=fun hh => Mb (w:=QQ (UA (QR (WC.exit ?_))))) (v:=?_))));refine bE rfl ?_;refine aH (QU (QN (Ma (w:=Mb (w:=QM ?_)))));rotate_left;intro hh;refine Mb (w:=QP (QN (MB (w:=fun hh => Mb (w:=QQ (UA (QR (WC.exit ?_))))) (v:=?_))));refine bE rfl ?_;refine aH (QU (QN (Ma (w:=Mb (w:=QM ?_)))));rotate_left;intro hh;refine Mb (w:=QP (QN (MB (w:=fun hh => Mb (w:=QQ (UA (QR (WC.exit ?_))))) (v:=?_))));refine bE rfl ?_;refine aH (QU (QN (Ma (w:=Mb (w:=QM ?_)))));rotate_left;intro hh;refine Mb (w:=QP (QN (MB (w:=fun hh => Mb (w:=QQ (UA (QR (WC.exit ?_))))) (v:=?_))));refine bE rfl ?_;refine aH (QU (QN (Ma (w:=Mb (w:=QM ?_)))));rotate_left;intro hh;refine Mb (w:=QP (QN (MB (w:=fun hh => Mb (w:=QQ (UA (QR (WC.exit ?_))))) (v:=?_))));refine bE rfl ?_;refine aH (QU (QN (Ma (w:=Mb (w:=QM ?_)))));rotate_left;intro hh;refine Mb (w:=QP (QN (MB (w:=fun hh => Mb (w:=QQ (UA (QR (WC.exit ?_))))) (v:=?_))));refine bE rfl ?_;refine aH (QU (QN (Ma (w:=Mb (w:=QM ?_)))));rotate_left;intro hh;refine Mb (w:=QP (QN (MB (w:=fun hh => Mb (w:=QQ (UA (QR (WC.exit ?_))))) (v:=?_))));refine bE rfl ?_;refine aH (QU (QN (Ma (w:=Mb (w:=QM ?_)))));rotate_left;intro hh;refine Mb (w:=QP (QN (MB (w:=fun hh => Mb (w:=QQ (UA (QR (WC.exit ?_))))) (v:=?_))));refine bE rfl ?_;refine aH (QU (QN (Ma (w:=Mb (w:=QM ?_)))));rotate_left;intro hh;refine Mb (w:=QP (QN (MB (w:=fun hh => Mb (w:=QQ (UA (QR (WC.exit ?_))))) (v:=?_))));refine bE rfl ?_;refine aH (QU (QN (Ma (w:=Mb (w:=QM ?_)))));rotate_left;intro hh;refine Mb (w:=QP (QN (MB (w:=fun hh => Mb (w:=QQ (UA (QR (WC.exit ?_))))) (v:=?_))));refine bE rfl ?_;refine aH (QU (QN (Ma (w:=Mb (w:=QM ?_)))));rotate_left;intro hh;refine Mb (w:=QP (QN (MB (w:=fun hh => Mb (w:=QQ (UA (QR (WC.exit ?_))))) (v:=?_))));refine bE rfl ?_;refine aH (QU (QN (Ma (w:=Mb (w:=QM ?_)))));rotate_left;intro hh;refine Mb (w:=QP (QN (MB (w:=fun hh => Mb (w:=QQ (UA (QR (WC.exit ?_))))) (v:=?_))));refine bE rfl ?_;refine aH (QU (QN (Ma (w:=Mb (w:=QM ?_)))));rotate_left;intro hh;refine Mb (w:=QP (QN (MB (w:=fun hh => Mb (w:=QQ (UA (QR (WC.exit ?_))))) (v:=?_))));refine bE rfl ?_;refine aH (QU (QN (Ma (w:=Mb (w:=QM ?_)))));rotate_left;intro hh;refine Mb (w:=QP (QN (MB (w:=fun hh => Mb (w:=QQ (UA (QR (WC.exit ?_))))) (v:=?_))));refine bE rfl ?_;refine aH (QU (QN (Ma (w:=Mb (w:=QM ?_)))));rotate_left;intro hh;refine Mb (w:=QP (QV (MB (w:=fun hh => Mb (w:=QQ (WC.exit ?_))) (v:=?_))));refine bE rfl ?_;refine aH (QU (QN (Ma (w:=Mb (w:=QM ?_)))));rotate_left;intro hh;refine Mb (w:=QP (UA (WC.exit ?_)));refine bE rfl ?_;refine bE rfl ?_;refine aH (QV (Mf (w:=Ma (w:=QL ?_))));rotate_left;refine Mb (w:=QL (QU (QN (Ma (w:=Mr (w:=Ma (w:=MF (w:=fun hh => by omega) (v:=fun hh => QP (UA (QN (Ma (w:=Ma (w:=?_)))))))))))));refine QK (WS.sY (hk := ?_));refine Mb (w:=QO (Ma (w:=QL (Bk (QU (Bk (Bk (QU (QU (QU (QN (MB (w:=fun hh => Mb (w:=QQ (UA (QR (WC.exit (aH (QU (QN (Ma (w:=Mb (w:=QM ?_))))))))))) (v:=?_)))))))))))));rotate_left;intro hh;refine Mb (w:=QP (QN (MB (w:=fun hh => Mb (w:=QQ (UA (QR (WC.exit (aH (QU (QN (Ma (w:=Mb (w:=QM ?_))))))))))) (v:=?_))));rotate_left;intro hh;refine Mb (w:=QP (QN (MB (w:=fun hh => Mb (w:=QQ (UA (QR (WC.exit (aH (QU (QN (Ma (w:=Mb (w:=QM ?_))))))))))) (v:=?_))));rotate_left;intro hh;refine Mb (w:=QP (QN (MB (w:=fun hh => Mb (w:=QQ (UA (QR (WC.exit (aH (QU (QN (Ma (w:=Mb (w:=QM ?_))))))))))) (v:=?_))));rotate_left;intro hh;refine Mb (w:=QP (QN (MB (w:=fun hh => Mb (w:=QQ (UA (QR (WC.exit (aH (QU (QN (Ma (w:=Mb (w:=QM ?_))))))))))) (v:=?_))));rotate_left;intro hh;refine Mb (w:=QP (QN (MB (w:=fun hh => Mb (w:=QQ (UA (QR (WC.exit (aH (QU (QN (Ma (w:=Mb (w:=QM ?_))))))))))) (v:=?_))));rotate_left;intro hh;refine Mb (w:=QP (QN (MB (w:=fun hh => Mb (w:=QQ (UA (QR (WC.exit (aH (QU (QN (Ma (w:=Mb (w:=QM ?_))))))))))) (v:=?_))));rotate_left;intro hh;refine Mb (w:=QP (QN (MB (w:=fun hh => Mb (w:=QQ (UA (QR (WC.exit (aH (QU (QN (Ma (w:=Mb (w:=QM ?_))))))))))) (v:=?_))));rotate_left;intro hh;refine Mb (w:=QP (QN (MB (w:=fun hh => Mb (w:=QQ (UA (QR (WC.exit (aH (QU (QN (Ma (w:=Mb (w:=QM ?_))))))))))) (v:=?_))));rotate_left;intro hh;refine Mb (w:=QP (QN (MB (w:=fun hh => Mb (w:=QQ (UA (QR (WC.exit (aH (QU (QN (Ma (w:=Mb (w:=QM ?_))))))))))) (v:=?_))));rotate_left;intro hh;refine Mb (w:=QP (QN (MB (w:=fun hh => Mb (w:=QQ (UA (QR (WC.exit (aH (QU (QN (Ma (w:=Mb (w:=QM ?_))))))))))) (v:=?_))));rotate_left;intro hh;refine Mb (w:=QP (QN (MB (w:=fun hh => Mb (w:=QQ (UA (QR (WC.exit (aH (QU (QN (Ma (w:=Mb (w:=QM ?_))))))))))) (v:=?_))));rotate_left;intro hh;refine Mb (w:=QP (QV (MB (w:=fun hh => Mb (w:=QQ (WC.exit (aH (QU (QN (Ma (w:=Mb (w:=QM ?_))))))))) (v:=?_))));rotate_left;intro hh;refine Mb (w:=QP (UA (QU (QN (MB (w:=fun hh => Mb (w:=QQ (UA (QR (WC.exit ?_))))) (v:=?_))))));refine bE rfl ?_;refine aH (QU (QN (Ma (w:=Mb (w:=QM ?_)))));rotate_left;intro hh;refine Mb (w:=QP (QN (MB (w:=fun hh => Mb (w:=QQ (UA (QR (WC.exit ?_))))) (v:=?_))));refine bE rfl ?_;refine aH (QU (QN (Ma (w:=Mb (w:=QM ?_)))));rotate_left;intro hh;refine Mb (w:=QP (QN (MB (w:=fun hh => Mb (w:=QQ (UA (QR (WC.exit ?_))))) (v:=?_))));refine bE rfl ?_;refine aH (QU (QN (Ma (w:=Mb (w:=QM ?_)))));rotate_left;intro hh;refine Mb (w:=QP (QN (MB (w:=fun hh => Mb (w:=QQ (UA (QR (WC.exit ?_))))) (v:=?_))));refine bE rfl ?_;refine aH (QU (QN (Ma (w:=Mb (w:=QM ?_)))));rotate_left;intro hh;refine Mb (w:=QP (QN (MB (w:=fun hh => Mb (w:=QQ (UA (QR (WC.exit ?_))))) (v:=?_))));refine bE rfl ?_;refine aH (QU (QN (Ma (w:=Mb (w:=QM ?_)))));rotate_left;intro hh;refine Mb (w:=QP (QN (MB (w:=fun hh => Mb (w:=QQ (UA (QR (WC.exit ?_))))) (v:=?_))));refine bE rfl ?_;refine aH (QU (QN (Ma (w:=Mb (w:=QM ?_)))));rotate_left;intro hh;refine Mb (w:=QP (QN (MB (w:=fun hh => Mb (w:=QQ (UA (QR (WC.exit ?_))))) (v:=?_))));refine bE rfl ?_;refine aH (QU (QN (Ma (w:=Mb (w:=QM ?_)))));rotate_left;intro hh;refine Mb (w:=QP (QN (MB (w:=fun hh => Mb (w:=QQ (UA (QR (WC.exit ?_))))) (v:=?_))));refine bE rfl ?_;refine aH (QU (QN (Ma (w:=Mb (w:=QM ?_)))));rotate_left;intro hh;refine Mb (w:=QP (QN (MB (w:=fun hh => Mb (w:=QQ (UA (QR (WC.exit ?_))))) (v:=?_))));refine bE rfl ?_;refine aH (QU (QN (Ma (w:=Mb (w:=QM ?_)))));rotate_left;intro hh;refine Mb (w:=QP (QN (MB (w:=fun hh => Mb (w:=QQ (UA (QR (WC.exit ?_))))) (v:=?_))));refine bE rfl ?_;refine aH (QU (QN (Ma (w:=Mb (w:=QM ?_)))));rotate_left;intro hh;refine Mb (w:=QP (QN (MB (w:=fun hh => Mb (w:=QQ (UA (QR (WC.exit ?_))))) (v:=?_))));refine bE rfl ?_;refine aH (QU (QN (Ma (w:=Mb (w:=QM ?_)))));rotate_left;intro hh;refine Mb (w:=QP (QN (MB (w:=fun hh => Mb (w:=QQ (UA (QR (WC.exit ?_))))) (v:=?_))));refine bE rfl ?_;refine aH (QU (QN (Ma (w:=Mb (w:=QM ?_)))));rotate_left;intro hh;refine Mb (w:=QP (QN (MB (w:=fun hh => Mb (w:=QQ (UA (QR (WC.exit ?_))))) (v:=?_))));refine bE rfl ?_;refine aH (QU (QN (Ma (w:=Mb (w:=QM ?_)))));rotate_left;intro hh;refine Mb (w:=QP (QN (MB (w:=fun hh => Mb (w:=QQ (UA (QR (WC.exit ?_))))) (v:=?_))));refine bE rfl ?_;refine aH (QU (QN (Ma (w:=Mb (w:=QM ?_)))));rotate_left;intro hh;refine Mb (w:=QP (QN (MB (w:=fun hh => Mb (w:=QQ (UA (QR (WC.exit ?_))))) (v:=?_))));refine bE rfl ?_;refine aH (QU (QN (Ma (w:=Mb (w:=QM ?_)))));rotate_left;intro hh;refine Mb (w:=QP (QN (MB (w:=fun hh => Mb (w:=QQ (UA (QR (WC.exit ?_))))) (v:=?_))));refine bE rfl ?_;refine aH (QU (QN (Ma (w:=Mb (w:=QM ?_)))));rotate_left;intro hh;refine Mb (w:=QP (QN (MB (w:=fun hh => Mb (w:=QQ (UA (QR (WC.exit ?_))))) (v:=?_))));refine bE rfl ?_;refine aH (QU (QN (Ma (w:=Mb (w:=QM ?_)))));rotate_left;intro hh;refine Mb (w:=QP (QN (MB (w:=fun hh => Mb (w:=QQ (UA (QR (WC.exit ?_))))) (v:=?_))));refine bE rfl ?_;refine aH (QU (QN (Ma (w:=Mb (w:=QM ?_)))));rotate_left;intro hh;refine Mb (w:=QP (QN (MB (w:=fun hh => Mb (w:=QQ (UA (QR (WC.exit ?_))))) (v:=?_))));refine bE rfl ?_;refine aH (QU (QN (Ma (w:=Mb (w:=QM ?_)))));rotate_left;intro hh;refine Mb (w:=QP (QV (MB (w:=fun hh => Mb (w:=QQ (WC.exit ?_))) (v:=?_))));refine bE rfl ?_;refine aH (QU (QN (Ma (w:=Mb (w:=QM ?_)))));rotate_left;intro hh;refine Mb (w:=QP (UA (WC.exit ?_)));refine bE rfl ?_;refine bE rfl ?_;refine aH (QV (Mf (w:=Ma (w:=QL ?_))));rotate_left
  all_goals (try (
    have hm : lR marks (jG s 0 1) = true := by rw [hh]; decide +kernel
    have he : eD s = jG s 0 1 := by unfold eD; rw [if_neg hno, if_pos ⟨by omega, hm⟩]
    rw [he] at hq
    exact ⟨_, rfl, hq⟩))
  all_goals (have hno1 : ¬(1 ≤ s.size ∧ lR marks (jG s 0 1) = true) := by
               first
                 | omega
                 | (intro hc; have hm := iN.1 hc.2; simp only [marks, List.mem_cons, List.not_mem_nil, or_false] at hm; repeat (first | contradiction | (rcases hm with hm | hm))))
  all_goals (refine WC.aDt hX ?_)
  refine QN (MF (w:=fun hh => by omega) (v:=fun hh => QL (QU (QS (WC.exit (aH (QN (Mb (w:=QM ?_)))))))));rotate_left;refine QN (MF (w:=fun hh => by omega) (v:=fun hh => QL (QU (QS (WC.exit (aH (QN (Mb (w:=QM ?_)))))))));rotate_left;refine QN (MF (w:=fun hh => by omega) (v:=fun hh => QL (QU (QS (WC.exit (aH (QN (Mb (w:=QM ?_)))))))));rotate_left
  all_goals (
    have he : eD s = .empty := by unfold eD; rw [if_neg hno, if_neg hno1]
    rw [he] at hq
    exact ⟨_, rfl, hq⟩)

end Go.Proofs.ZL
end
