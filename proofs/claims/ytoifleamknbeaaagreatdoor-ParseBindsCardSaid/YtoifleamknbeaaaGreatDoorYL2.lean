/- The lexer, second part: names, numbers, texts, marks. -/
import Derived.Test.YtoifleamknbeaaaGreatDoorYL1
section
open Go Go.Am
namespace Go.Proofs.ZL
set_option maxRecDepth 100000
set_option linter.unusedSimpArgs false
set_option linter.unusedVariables false
set_option maxHeartbeats 4000000

inductive SErr where
 | ok
 | stuck (k : Nat)
 | long (w : ByteArray) (k : Nat)

def SErr.val : SErr → Value
 | .ok => .nilIface
 | .stuck k => .iface 68 (.agg #[.int .i64 k])
 | .long w k => .iface 115 (.agg #[.string w, .iface 68 (.agg #[.int .i64 k])])

structure Out where
 err : SErr
 pos : Nat
 list : List Tok

def sub (src : ByteArray) (k n : Nat) : ByteArray := bsub src (k : Int) ((k : Int) + (n : Int))
theorem sub_eq (src : ByteArray) (k n : Nat) : sub src k n = src.extract k (k + n) := by
 unfold sub; rw [bsub_eq, Int.toNat_natCast, show ((k : Int) + n).toNat = k + n by omega]
theorem sub_size {src : ByteArray} {k n : Nat} (h : k + n ≤ src.size) : (sub src k n).size = n := by
 rw [sub_eq, ByteArray.size_extract]; omega

theorem runN_le {p : Int → Bool} {src : ByteArray} {k : Nat} (hk : k ≤ src.size) : k + runN p src k ≤ src.size := by
 unfold runN
 have : ((src.data.toList.drop k).takeWhile fun b => p b.toNat).length ≤ (src.data.toList.drop k).length := (List.takeWhile_sublist _).length_le
 have h2 : src.data.toList.length = src.size := by simp
 rw [List.length_drop, h2] at this
 omega

def alnumN (c : Int) : Bool := letterN c || digitN c

theorem tells_letter : Tells 64 letterN := ⟨en64, fun _ _ _ _ hq => letter_w hq⟩
theorem tells_digit : Tells 66 digitN := ⟨en66, fun _ _ _ _ hq => digit_w hq⟩
theorem tells_alnum : Tells 81 alnumN := ⟨en81, fun c h Q hc hq => by
 refine WCall.walk hX Tryz.func81 rfl rfl Tryz.ntmps81 rfl ?_
 refine QN hX ?_;refine QK (Qb ?_);refine QO hX ?_;refine QK (Qa ?_);refine QK ?_
 refine QJ en64 ?_
 refine letter_w ?_
 cases hl : letterN c
 ·refine QK (Qa ?_);refine QK (Qa ?_);refine QK ?_
  refine QJ en66 ?_
  refine digit_w ?_
  refine QK (Qd ?_);refine QK (Qb ?_);refine QM ?_
  refine ⟨_, rfl, ret_bool ?_ hq⟩
  unfold alnumN; rw [hl]; rfl
 ·refine QK (Qa ?_);refine QK (QA ?_);refine QK (QA ?_);refine QK (Qc ?_);refine QK (Qb ?_);refine QM ?_
  refine ⟨_, rfl, ret_bool ?_ hq⟩
  unfold alnumN; rw [hl]; rfl⟩

def nameS (src : ByteArray) (k : Nat) (l : List Tok) : Out :=
 if 24 < runN alnumN src k then ⟨.long (⟨#[97, 32, 110, 97, 109, 101]⟩ : ByteArray) k, k, l⟩
 else ⟨.ok, k + runN alnumN src k, l ++ [⟨if inS words (sub src k (runN alnumN src k)) then 4 else 1, sub src k (runN alnumN src k), 0, k⟩]⟩

theorem lname_w {s : Nat} {src : ByteArray} {k : Nat} {l : List Tok} {h : Heap} {Q : ARes → Prop} (hs : Sc h s src k l) (hl : l.length ≤ 100000) (hz : src.size ≤ 100000) (hk : k ≤ src.size)
  (hq : ∀ h', Sc h' s src (nameS src k l).pos (nameS src k l).list → Fr s h h' → Q (.ret (nameS src k l).err.val h')) : WCall Tryz.prog G X 65 [.pointer (some ⟨s, 0, none⟩)] h Q := by
 have hs0 := hs
 obtain ⟨hlt, b, n, es, ho, ht⟩ := hs
 have hrun := runN_le (p := alnumN) hk
 refine WCall.walk hX Tryz.func65 rfl rfl Tryz.ntmps65 rfl ?_
 refine QN hX ?_;refine QK (Qb ?_);refine QO hX ?_;refine QK (Qa ?_);refine QK ?_
 refine QJ en62 ?_
 refine run_w tells_alnum hz ho hk ?_
 refine QK (Qb ?_);refine QL ?_;refine QU hX ?_;refine WC.drawn (id := 2) hX (l := [⟨0, .pure, 0⟩, ⟨1, .pure, 1⟩, ⟨2, .pure, 3⟩, ⟨3, .read, 7⟩, ⟨4, .pure, 0⟩, ⟨5, .pure, 16⟩, ⟨6, .pure, 48⟩, ⟨7, .read, 112⟩, ⟨8, .pure, 0⟩, ⟨9, .pure, 256⟩, ⟨10, .pure, 768⟩, ⟨11, .read, 1792⟩, ⟨12, .pure, 0⟩, ⟨13, .pure, 7936⟩, ⟨14, .pure, 16383⟩, ⟨15, .pure, 32767⟩]) (hw := ?_);refine QW (k := Qa ?_);refine QW (k := Qi ?_);refine QW (k := Qj ?_);refine QX (k := Qt ?_);refine QW (k := Qa ?_);refine QW (k := Qi ?_);refine QW (k := Qj ?_);refine QX (k := Qt ?_);refine QW (k := Qa ?_);refine QW (k := Qi ?_);refine QW (k := Qj ?_);refine QX (k := Qt ?_);refine QW (k := Qa ?_);refine QW (k := Qf ?_);refine QW (k := WS.sliceS (hk := ?_));refine QW (k := Qb ?_);refine WD.nil (hq := ?_);refine QU hX ?_;refine WC.block hX ?_;refine QN hX ?_;refine QK (Qa ?_);refine QK (QH ?_ ?_);intro hh;refine QK (Qb ?_);refine QQ hX ?_;refine QN hX ?_;refine QK (Qa ?_);refine QK (Qi ?_);refine QK (Qj ?_);refine QK (Qt ?_);refine QK (Qn ?_);refine QK (Qo ?_);refine QK (Qn ?_);refine QK (Qo ?_);refine QK (Qb ?_);refine QM ?_;rotate_left;intro hh;refine QK (Qb ?_);refine QP hX ?_;refine QN hX ?_;refine QK (Qa ?_);refine QK ?_;rotate_left
 ·have hn : nameS src k l = ⟨.long (⟨#[97, 32, 110, 97, 109, 101]⟩ : ByteArray) k, k, l⟩ := by unfold nameS; rw [if_pos (by omega)]
  rw [hn] at hq
  exact ⟨_, rfl, hq _ hs0 (Fr.refl _ _)⟩
 ·have hn : nameS src k l = ⟨.ok, k + runN alnumN src k, l ++ [⟨if inS words (sub src k (runN alnumN src k)) then 4 else 1, sub src k (runN alnumN src k), 0, k⟩]⟩ := by unfold nameS; rw [if_neg (by omega)]
  rw [hn] at hq
  refine QJ en82 ?_
  refine isWord_w ?_
  cases hw : inS words (sub src k (runN alnumN src k))
  ·unfold sub at hw; rw [hw]
   refine QK (Qb ?_);refine QP hX ?_;refine QV hX ?_;refine QK (Qa ?_);refine QK (Qa ?_);refine QK (Qa ?_);refine QK ?_
   refine QJ en50 ?_
   refine add_w hs0 hl (by omega) (by omega) fun h2 hs2 fr2 => ?_
   refine QO hX ?_;refine QK (Qb ?_);refine QM ?_
   refine ⟨_, rfl, hq _ ?_ fr2⟩
   unfold sub; rw [hw]; exact hs2
  ·unfold sub at hw; rw [hw]
   refine QK (Qb ?_);refine QQ hX ?_;refine QV hX ?_;refine QK (Qa ?_);refine QK (Qa ?_);refine QK (Qa ?_);refine QK ?_
   refine QJ en50 ?_
   refine add_w hs0 hl (by omega) (by omega) fun h2 hs2 fr2 => ?_
   refine QO hX ?_;refine QK (Qb ?_);refine QM ?_
   refine ⟨_, rfl, hq _ ?_ fr2⟩
   unfold sub; rw [hw]; exact hs2

end Go.Proofs.ZL
end

section
open Go Go.Am
namespace Go.Proofs.ZL
set_option maxRecDepth 100000
set_option linter.unusedSimpArgs false
set_option linter.unusedVariables false
set_option maxHeartbeats 4000000

def numL : List UInt8 → Int → Int
 | [], a => a
 | b :: l, a => numL l (a * 10 + ((b.toNat : Int) - 48))
def numOf (s : ByteArray) : Int := numL s.data.toList 0

theorem numL_snoc (b : UInt8) : ∀ (l : List UInt8) (a : Int), numL (l ++ [b]) a = numL l a * 10 + ((b.toNat : Int) - 48)
 | [], _ => rfl
 | c :: l, a => by simp only [List.cons_append, numL]; exact numL_snoc b l _

def numTo (s : ByteArray) (i : Nat) : Int := numL (s.data.toList.take i) 0

theorem numTo_succ {s : ByteArray} {i : Nat} (hi : i < s.size) : numTo s (i + 1) = numTo s i * 10 + (byteN s i - 48) := by
 obtain ⟨b, hb, hv⟩ := byteN_get hi
 unfold numTo
 rw [List.take_add_one, hb]
 simp only [Option.toList]
 rw [numL_snoc, hv]

theorem numTo_range {s : ByteArray} (hd : ∀ j, j < s.size → digitN (byteN s (j : Nat)) = true) : ∀ i, i ≤ s.size → 0 ≤ numTo s i ∧ numTo s i < 10 ^ i
 | 0, _ => by simp [numTo, numL]
 | i + 1, hi => by
  have ih := numTo_range hd i (by omega)
  rw [numTo_succ (by omega)]
  have := hd i (by omega)
  simp only [digitN, decide_eq_true_eq] at this
  rw [Int.pow_succ]
  omega

theorem atoi2_w {s : ByteArray} {h : Heap} {Q : ARes → Prop} (h1 : 1 ≤ s.size) (h18 : s.size ≤ 18) (hd : ∀ j, j < s.size → digitN (byteN s (j : Nat)) = true)
  (hq : ∀ h', Gr h h' → Q (.ret (.tuple #[.int .i64 (numOf s), .nilIface]) h')) : WCall Tryz.prog G X 90 [.string s] h Q := by
 have h0 := hd 0 (by omega)
 simp only [digitN, decide_eq_true_eq] at h0
 simp only [Int.natCast_zero] at h0
 refine WCall.walk hX Tryz.func90 rfl rfl Tryz.ntmps90 rfl ?_
 refine QN hX ?_;refine QK (Qb ?_);refine QK (Qb ?_);refine QO hX ?_;refine QK (Qa ?_);refine QK (Qr ?_);refine QK (Qb ?_);refine QL ?_;refine QU hX ?_;refine QN hX ?_;refine QK (Qa ?_);refine QK (QA ?_);refine QK (QA ?_);refine QK (QA ?_);refine QK (QA ?_);refine QK (QA ?_);refine QK (QA ?_);refine QK (Qd ?_);refine QK (Qa ?_);refine QK (Qa ?_);refine QK (Qa ?_);refine QK (QF ?_ ?_);intro hh;refine QK (Qa ?_);refine QK (Qa ?_);refine QK (QF ?_ ?_);intro hh;refine QK (Qc ?_);refine QK (Qc ?_);refine QK (Qd ?_);refine QQ hX ?_;refine QN hX ?_;refine QK (Qa ?_);refine QK (Qb ?_);refine QL ?_;refine QU hX ?_;refine QN hX ?_;refine QK (Qa ?_);refine QK (Qm ?_);refine QK (QD ?_ ?_);intro hh;exfalso;omega;intro hh;refine QK (Qa ?_);refine QK (Qa ?_);refine QK (Qm ?_);refine QK (QD ?_ ?_);intro hh;exfalso;omega;intro hh;refine QK (Qd ?_);refine QP hX ?_;refine UA ?_;refine QN hX ?_;refine QK (Qb ?_);refine QL ?_;refine QU hX ?_;refine QN hX ?_;refine QK (Qa ?_);refine QK (WS.bytesOf (hk := ?_));refine QK (Qs ?_);refine QK (Qa ?_);refine QL ?_;refine WC.block hX ?_;rotate_left;intro hh;exfalso;omega;intro hh;exfalso;omega
 refine WC.loopInv hX (m := fun i : Nat => s.size - i) (Inv := fun i e h' => e 5 = some (.string s) ∧ e 47 = some (.slice (some ⟨h.next, 0, none⟩) s.size 1) ∧ e 48 = some (.int .i64 s.size) ∧ e 49 = some (.int .i64 i) ∧ e 6 = some (.int .i64 (numTo s i)) ∧
  h' = h.alloc (.cells false (s.data.toList.map fun b => Value.int .u8 b.toNat)) ∧ i ≤ s.size) 0 ⟨rfl, rfl, rfl, rfl, rfl, rfl, by omega⟩ ?_
 intro i env h' ih ⟨e5, e47, e48, e49, e6, eh, hle⟩
 subst eh
 refine QN hX ?_;refine QK (QF ?_ ?_);intro hh;refine QL ?_;refine QU hX ?_;refine QR hX ?_;refine UA ?_;refine QU hX ?_;refine WC.block hX ?_;refine QN hX ?_;refine QK (Ql ?_);refine QK ?_;rotate_left;intro hh;refine QL ?_;refine QU hX ?_;refine QS hX ?_;refine WC.exit ?_;refine exit_here ?_;refine QU hX ?_;refine QN hX ?_;refine QK (Qa ?_);refine QK (Qm ?_);refine QK (QD ?_ ?_);intro hh;exfalso;omega;intro hh;refine QP hX ?_;refine UA ?_;refine QN hX ?_;refine QK (Qa ?_);refine QK (Qb ?_);refine QK (Qb ?_);refine QM ?_;rotate_left
 ·have hi : i < s.size := by omega
  have hb := hd i hi
  simp only [digitN, decide_eq_true_eq] at hb
  have hr := numTo_range hd i hle
  have hp : (10 : Int) ^ i ≤ 10 ^ 17 := by
   have := Nat.pow_le_pow_right (n := 10) (by decide) (show i ≤ 17 by omega)
   exact_mod_cast this
  have hp2 : (10 : Int) ^ 17 = 100000000000000000 := by decide
  rw [hp2] at hp
  refine WS.loadS (v := .int .u8 (byteN s i)) (hc := ?_) (hk := ?_)
  ·obtain ⟨b, h1, h2⟩ := byteN_get hi
   rw [h2]
   have h1' : s.data[i]? = some b := by simpa using h1
   simp [h1']
  refine QK (Qb ?_);refine QO hX ?_;refine QK (Qa ?_);refine QK (WS.subK (hk := ?_));refine QK (Qb ?_);refine QL ?_;refine QU hX ?_;refine QN hX ?_;refine QK (Qa ?_);refine QK (QH ?_ ?_);intro hh;exfalso;omega;intro hh;refine QP hX ?_;refine UA ?_;refine QV hX ?_;refine QK (Qa ?_);refine QK (WS.mulI (hk := ?_));refine QK (Qa ?_);refine QK (WS.convI (hk := ?_));refine QK (Qf ?_);refine QK (Qb ?_);refine QL ?_;refine QV hX ?_;refine QK (Qf ?_);refine QK (Qa ?_);refine QL ?_
  refine ih (i + 1) _ _ (by omega) ⟨e5, e47, e48, rfl, ?_, rfl, by omega⟩
  rw [numTo_succ hi]; rfl
 ·refine ⟨_, rfl, ?_⟩
  have hi : i = s.size := by omega
  subst hi
  have : numTo s s.size = numOf s := by
   unfold numTo numOf
   rw [List.take_of_length_le (by simp)]
  rw [← this] at hq
  exact hq _ Wwgr

theorem atoi_w {s : ByteArray} {h : Heap} {Q : ARes → Prop} (h1 : 1 ≤ s.size) (h18 : s.size ≤ 18) (hd : ∀ j, j < s.size → digitN (byteN s (j : Nat)) = true)
  (hq : ∀ h', Gr h h' → Q (.ret (.tuple #[.int .i64 (numOf s), .nilIface]) h')) : WCall Tryz.prog G X 83 [.string s] h Q := by
 refine WCall.walk hX Tryz.func83 rfl rfl Tryz.ntmps83 rfl ?_
 refine QN hX ?_;refine QK (Qb ?_);refine QK (Qb ?_);refine QO hX ?_;refine QK (Qa ?_);refine QK ?_
 refine QJ en90 ?_
 refine atoi2_w h1 h18 hd fun h' g => ?_
 refine QK (Qa ?_);refine QK (Qq ?_);refine QK (Qq ?_);refine QK (Qb ?_);refine QK (Qb ?_);refine QL ?_;refine QU hX ?_;refine QN hX ?_;refine QK (Qa ?_);refine QK (WS.neG (h1 := ?_) (h2 := ?_));intro hh;exact Bool.noConfusion hh;intro hh;refine QP hX ?_;refine UA ?_;refine QN hX ?_;refine QK (Qa ?_);refine QK (Qb ?_);refine QK (Qb ?_);refine QM ?_
 exact ⟨_, rfl, hq _ g⟩

def numberS (src : ByteArray) (k : Nat) (l : List Tok) : Out :=
 if 18 < runN digitN src k then ⟨.long (⟨#[97, 32, 110, 117, 109, 98, 101, 114]⟩ : ByteArray) k, k, l⟩
 else if 1 < runN digitN src k ∧ byteN (sub src k (runN digitN src k)) 0 = 48 then ⟨.stuck k, k, l⟩
 else if k + runN digitN src k < src.size ∧ letterN (byteN src ((k : Int) + (runN digitN src k : Int))) = true then ⟨.stuck (k + runN digitN src k), k, l⟩
 else ⟨.ok, k + runN digitN src k, l ++ [⟨2, sub src k (runN digitN src k), numOf (sub src k (runN digitN src k)), k⟩]⟩

theorem byteN_sub {src : ByteArray} {k n j : Nat} (h : k + n ≤ src.size) (hj : j < n) : byteN (sub src k n) (j : Nat) = byteN src ((k + j : Nat) : Int) := by
 obtain ⟨b, hb, hv⟩ := byteN_get (s := sub src k n) (k := j) (by rw [sub_size h]; exact hj)
 obtain ⟨c, hc, hw⟩ := byteN_get (s := src) (k := k + j) (by omega)
 rw [hv, hw]
 have : (sub src k n).data.toList = (src.data.toList.drop k).take n := by
  rw [sub_eq, ByteArray.data_extract, Array.toList_extract, List.extract_eq_take_drop]
  congr 1; omega
 rw [this, List.getElem?_take, if_pos hj, List.getElem?_drop, hc] at hb
 cases hb; rfl

theorem runN_all {p : Int → Bool} {src : ByteArray} {k j : Nat} (hk : k ≤ src.size) (hj : j < runN p src k) : p (byteN src ((k + j : Nat) : Int)) = true := by
  have hle := runN_le (p := p) hk
  obtain ⟨c, hc, hw⟩ := byteN_get (s := src) (k := k + j) (by omega)
  rw [hw]
  have hjle : k + j < src.size := by omega
  unfold runN at hj
  have hm : ((src.data.toList.drop k).takeWhile fun b => p b.toNat)[j]? = some c := by
    rw [List.getElem?_eq_getElem hj]
    have h1 := (List.takeWhile_prefix (fun b : UInt8 => p b.toNat) (l := src.data.toList.drop k)).getElem hj
    rw [h1]
    have : (src.data.toList.drop k)[j]? = some c := by rw [List.getElem?_drop]; exact hc
    rw [List.getElem?_eq_getElem (by rw [List.length_drop]; have : src.data.toList.length = src.size := by simp
                                     rw [this]; exact Nat.lt_sub_of_add_lt (by rw [Nat.add_comm]; exact hjle))] at this
    exact this
  have hmem := List.mem_of_getElem? hm
  exact (List.all_eq_true.1 (List.all_takeWhile (p := fun b : UInt8 => p b.toNat) (l := src.data.toList.drop k))) c hmem

end Go.Proofs.ZL
end

section
open Go Go.Am
namespace Go.Proofs.ZL
set_option maxRecDepth 100000
set_option linter.unusedSimpArgs false
set_option linter.unusedVariables false
set_option maxHeartbeats 4000000

theorem byteN_sub0 {src : ByteArray} {k n : Nat} (h : k + n ≤ src.size) (hj : 0 < n) : byteN (sub src k n) 0 = byteN src k := by
 have := byteN_sub (src := src) (k := k) (n := n) (j := 0) h hj
 simpa using this

theorem number_w {s : Nat} {src : ByteArray} {k : Nat} {l : List Tok} {h : Heap} {Q : ARes → Prop} (hs : Sc h s src k l) (hl : l.length ≤ 100000) (hz : src.size ≤ 100000) (hk : k < src.size) (hd : digitN (byteN src k) = true)
  (hq : ∀ h', Sc h' s src (numberS src k l).pos (numberS src k l).list → Fr s h h' → Q (.ret (numberS src k l).err.val h')) : WCall Tryz.prog G X 67 [.pointer (some ⟨s, 0, none⟩)] h Q := by
 have hs0 := hs
 obtain ⟨hlt, b, n, es, ho, ht⟩ := hs
 have hrun := runN_le (p := digitN) (Nat.le_of_lt hk)
 have hone : 1 ≤ runN digitN src k := by
  rcases Nat.eq_zero_or_pos (runN digitN src k) with h0 | h0
  ·exfalso
   obtain ⟨c, hc, hw⟩ := byteN_get hk
   unfold runN at h0
   rw [List.drop_eq_getElem_cons (by simpa using hk), List.takeWhile_cons] at h0
   rw [List.getElem?_eq_getElem (by simpa using hk)] at hc
   rw [Option.some.inj hc, ← hw, if_pos hd] at h0
   simp at h0
  ·exact h0
 have hsz := sub_size hrun
 refine WCall.walk hX Tryz.func67 rfl rfl Tryz.ntmps67 rfl ?_
 refine QN hX ?_;refine QK (Qb ?_);refine QO hX ?_;refine QK (Qa ?_);refine QK ?_
 refine QJ en62 ?_
 refine run_w tells_digit hz ho (Nat.le_of_lt hk) ?_
 generalize hN : runN digitN src k = N at *
 have hsz' : (bsub src (k : Int) ((k : Int) + (N : Int))).size = N := hsz
 refine QK (Qb ?_);refine QL ?_;refine QU hX ?_;refine WC.drawn (id := 2) hX (l := [⟨0, .pure, 0⟩, ⟨1, .pure, 1⟩, ⟨2, .pure, 3⟩, ⟨3, .read, 7⟩, ⟨4, .pure, 0⟩, ⟨5, .pure, 16⟩, ⟨6, .pure, 48⟩, ⟨7, .read, 112⟩, ⟨8, .pure, 0⟩, ⟨9, .pure, 256⟩, ⟨10, .pure, 768⟩, ⟨11, .read, 1792⟩, ⟨12, .pure, 0⟩, ⟨13, .pure, 7936⟩, ⟨14, .pure, 16383⟩, ⟨15, .pure, 32767⟩]) (hw := ?_);refine QW (k := Qa ?_);refine QW (k := Qi ?_);refine QW (k := Qj ?_);refine QX (k := Qt ?_);refine QW (k := Qa ?_);refine QW (k := Qi ?_);refine QW (k := Qj ?_);refine QX (k := Qt ?_);refine QW (k := Qa ?_);refine QW (k := Qi ?_);refine QW (k := Qj ?_);refine QX (k := Qt ?_);refine QW (k := Qa ?_);refine QW (k := Qf ?_);refine QW (k := WS.sliceS (hk := ?_));refine QW (k := Qb ?_);refine WD.nil (hq := ?_);refine QU hX ?_;refine WC.block hX ?_;refine QN hX ?_;refine QK (Qa ?_);refine QK (QH ?_ ?_);intro hh;refine QK (Qb ?_);refine QQ hX ?_;refine QN hX ?_;refine QK (Qa ?_);refine QK (Qi ?_);refine QK (Qj ?_);refine QK (Qt ?_);refine QK (Qn ?_);refine QK (Qo ?_);refine QK (Qn ?_);refine QK (Qo ?_);refine QK (Qb ?_);refine QM ?_;rotate_left;intro hh;refine QK (Qb ?_);refine QP hX ?_;refine QN hX ?_;refine QK (Qa ?_);refine QK (QH ?_ ?_);intro hh;refine QK (Qa ?_);refine QK (Qa ?_);refine QK (Qm ?_);refine QK (QD ?_ ?_);intro hh;refine QK (Qc ?_);refine QK (Qb ?_);refine QQ hX ?_;refine QN hX ?_;refine QK (Qa ?_);refine QK (Qi ?_);refine QK (Qj ?_);refine QK (Qt ?_);refine QK (Qn ?_);refine QK (Qo ?_);refine QK (Qb ?_);refine QM ?_;rotate_left;intro hh;refine QK (Qc ?_);refine QK (Qb ?_);refine QP hX ?_;refine QU hX ?_;refine WC.drawn (id := 7) hX (l := [⟨0, .pure, 0⟩, ⟨1, .pure, 1⟩, ⟨2, .pure, 3⟩, ⟨3, .read, 7⟩, ⟨4, .pure, 0⟩, ⟨5, .pure, 31⟩, ⟨6, .pure, 0⟩, ⟨7, .pure, 64⟩, ⟨8, .pure, 192⟩, ⟨9, .read, 448⟩, ⟨10, .read, 960⟩, ⟨11, .pure, 2047⟩, ⟨12, .pure, 4095⟩, ⟨13, .pure, 8191⟩, ⟨14, .pure, 16383⟩, ⟨15, .pure, 32767⟩, ⟨16, .read, 65535⟩, ⟨17, .pure, 8191⟩, ⟨18, .pure, 139263⟩, ⟨19, .pure, 401407⟩, ⟨20, .read, 925695⟩, ⟨21, .pure, 8191⟩, ⟨22, .pure, 4071423⟩, ⟨23, .pure, 8388607⟩, ⟨24, .heavy, 16777215⟩, ⟨25, .pure, 33554431⟩, ⟨26, .pure, 67108863⟩]) (hw := ?_);refine QW (k := Qa ?_);refine QW (k := Qi ?_);refine QW (k := Qj ?_);refine QX (k := Qt ?_);refine QW (k := Qa ?_);refine QW (k := Qf ?_);refine QW (k := Qa ?_);refine QW (k := Qi ?_);refine QW (k := Qj ?_);refine QX (k := Qt ?_);refine QX (k := Qr ?_);refine QW (k := QF ?_ ?_);intro hh;refine QW (k := Qa ?_);refine QW (k := Qa ?_);refine QW (k := Qi ?_);refine QW (k := Qj ?_);refine QX (k := Qt ?_);refine QW (k := Qa ?_);refine QW (k := Qi ?_);refine QW (k := Qj ?_);refine QX (k := Qt ?_);refine QW (k := Qa ?_);refine QW (k := Qf ?_);refine QW (k := Qm ?_);refine WD.heavy hX (hw := ?_);rotate_left;intro hh;refine QW (k := Qa ?_);refine QW (k := QA ?_);refine QW (k := QA ?_);refine QW (k := QA ?_);refine QX (k := QA ?_);refine QW (k := QA ?_);refine QW (k := QA ?_);refine QW (k := QA ?_);refine QX (k := QA ?_);refine QW (k := QA ?_);refine QW (k := QA ?_);refine QW (k := QA ?_);refine WD.heavy hX (hw := QA ?_);refine QW (k := Qd ?_);refine QW (k := Qb ?_);refine WD.nil (hq := ?_);refine QS hX ?_;refine UA ?_;refine QN hX ?_;refine QK (Qa ?_);refine QK ?_;rotate_left;intro hh;refine QK (Qa ?_);refine QK (QA ?_);refine QK (QA ?_);refine QK (QA ?_);refine QK (Qd ?_);refine QK (Qb ?_);refine QP hX ?_;refine QU hX ?_;refine WC.drawn (id := 7) hX (l := [⟨0, .pure, 0⟩, ⟨1, .pure, 1⟩, ⟨2, .pure, 3⟩, ⟨3, .read, 7⟩, ⟨4, .pure, 0⟩, ⟨5, .pure, 31⟩, ⟨6, .pure, 0⟩, ⟨7, .pure, 64⟩, ⟨8, .pure, 192⟩, ⟨9, .read, 448⟩, ⟨10, .read, 960⟩, ⟨11, .pure, 2047⟩, ⟨12, .pure, 4095⟩, ⟨13, .pure, 8191⟩, ⟨14, .pure, 16383⟩, ⟨15, .pure, 32767⟩, ⟨16, .read, 65535⟩, ⟨17, .pure, 8191⟩, ⟨18, .pure, 139263⟩, ⟨19, .pure, 401407⟩, ⟨20, .read, 925695⟩, ⟨21, .pure, 8191⟩, ⟨22, .pure, 4071423⟩, ⟨23, .pure, 8388607⟩, ⟨24, .heavy, 16777215⟩, ⟨25, .pure, 33554431⟩, ⟨26, .pure, 67108863⟩]) (hw := ?_);refine QW (k := Qa ?_);refine QW (k := Qi ?_);refine QW (k := Qj ?_);refine QX (k := Qt ?_);refine QW (k := Qa ?_);refine QW (k := Qf ?_);refine QW (k := Qa ?_);refine QW (k := Qi ?_);refine QW (k := Qj ?_);refine QX (k := Qt ?_);refine QX (k := Qr ?_);refine QW (k := QF ?_ ?_);intro hh;refine QW (k := Qa ?_);refine QW (k := Qa ?_);refine QW (k := Qi ?_);refine QW (k := Qj ?_);refine QX (k := Qt ?_);refine QW (k := Qa ?_);refine QW (k := Qi ?_);refine QW (k := Qj ?_);refine QX (k := Qt ?_);refine QW (k := Qa ?_);refine QW (k := Qf ?_);refine QW (k := Qm ?_);refine WD.heavy hX (hw := ?_);rotate_left;intro hh;refine QW (k := Qa ?_);refine QW (k := QA ?_);refine QW (k := QA ?_);refine QW (k := QA ?_);refine QX (k := QA ?_);refine QW (k := QA ?_);refine QW (k := QA ?_);refine QW (k := QA ?_);refine QX (k := QA ?_);refine QW (k := QA ?_);refine QW (k := QA ?_);refine QW (k := QA ?_);refine WD.heavy hX (hw := QA ?_);refine QW (k := Qd ?_);refine QW (k := Qb ?_);refine WD.nil (hq := ?_);refine QS hX ?_;refine UA ?_;refine QN hX ?_;refine QK (Qa ?_);refine QK ?_;rotate_left
 ·have hn : numberS src k l = ⟨.long (⟨#[97, 32, 110, 117, 109, 98, 101, 114]⟩ : ByteArray) k, k, l⟩ := by unfold numberS; rw [hN, if_pos (by omega)]
  rw [hn] at hq
  exact ⟨_, rfl, hq _ hs0 (Fr.refl _ _)⟩
 ·have hn : numberS src k l = ⟨.stuck k, k, l⟩ := by unfold numberS; rw [hN, if_neg (by omega), if_pos ⟨by omega, hh⟩]
  rw [hn] at hq
  exact ⟨_, rfl, hq _ hs0 (Fr.refl _ _)⟩
 ·have hno : ¬(1 < N ∧ byteN (sub src k N) 0 = 48) := fun hc => absurd hc.2 (by assumption)
  refine QJ en64 ?_
  refine letter_w ?_
  cases hlt2 : letterN (byteN src ((k : Int) + (N : Int)))
  ·have hno2 : ¬(k + N < src.size ∧ letterN (byteN src ((k : Int) + (N : Int))) = true) := fun hc => by rw [hlt2] at hc; exact Bool.noConfusion hc.2
   refine QW (k := Qc ?_);refine QW (k := Qb ?_);refine WD.nil (hq := ?_);refine QS hX ?_;refine UA ?_;refine QN hX ?_;refine QK (Qa ?_);refine QK ?_
   have hn : numberS src k l = ⟨.ok, k + N, l ++ [⟨2, sub src k N, numOf (sub src k N), k⟩]⟩ := by
    unfold numberS; rw [hN, if_neg (by omega), if_neg hno, if_neg hno2]
   rw [hn] at hq
   refine QJ en83 ?_
   refine atoi_w (s := sub src k N) (by rw [hsz]; exact hone) (by rw [hsz]; omega) (fun j hj => by rw [hsz] at hj; rw [byteN_sub hrun hj]; exact runN_all (Nat.le_of_lt hk) (by rw [hN]; exact hj)) fun h1 g1 => ?_
   refine QK (Qa ?_);refine QK (Qq ?_);refine QK (Qq ?_);refine QK (Qb ?_);refine QK (Qb ?_);refine QO hX ?_;refine QK (Qa ?_);refine QK (Qa ?_);refine QK (Qa ?_);refine QK (Qa ?_);refine QK ?_
   refine QJ en50 ?_
   refine add_w (Sc.grow hs0 g1) hl (by omega) (by omega) fun h2 hs2 fr2 => ?_
   refine QO hX ?_;refine QK (Qb ?_);refine QM ?_
   exact ⟨_, rfl, hq _ hs2 ((gr_fr (by omega) g1).trans fr2)⟩
  ·refine QW (k := Qc ?_);refine QW (k := Qb ?_);refine WD.nil (hq := ?_);refine QR hX ?_;refine QN hX ?_;refine QK (Qa ?_);refine QK (Qi ?_);refine QK (Qj ?_);refine QK (Qt ?_);refine QK (Qa ?_);refine QK (Qf ?_);refine QK (Qn ?_);refine QK (Qo ?_);refine QK (Qb ?_);refine QM ?_
   have hn : numberS src k l = ⟨.stuck (k + N), k, l⟩ := by
    unfold numberS; rw [hN, if_neg (by omega), if_neg hno, if_pos ⟨by omega, hlt2⟩]
   rw [hn] at hq
   exact ⟨_, rfl, hq _ hs0 (Fr.refl _ _)⟩
 ·have hno : ¬(1 < N ∧ byteN (sub src k N) 0 = 48) := fun hc => absurd hc.2 (by assumption)
  have hno2 : ¬(k + N < src.size ∧ letterN (byteN src ((k : Int) + (N : Int))) = true) := fun hc => by omega
  have hn : numberS src k l = ⟨.ok, k + N, l ++ [⟨2, sub src k N, numOf (sub src k N), k⟩]⟩ := by
   unfold numberS; rw [hN, if_neg (by omega), if_neg hno, if_neg hno2]
  rw [hn] at hq
  refine QJ en83 ?_
  refine atoi_w (s := sub src k N) (by rw [hsz]; exact hone) (by rw [hsz]; omega) (fun j hj => by rw [hsz] at hj; rw [byteN_sub hrun hj]; exact runN_all (Nat.le_of_lt hk) (by rw [hN]; exact hj)) fun h1 g1 => ?_
  refine QK (Qa ?_);refine QK (Qq ?_);refine QK (Qq ?_);refine QK (Qb ?_);refine QK (Qb ?_);refine QO hX ?_;refine QK (Qa ?_);refine QK (Qa ?_);refine QK (Qa ?_);refine QK (Qa ?_);refine QK ?_
  refine QJ en50 ?_
  refine add_w (Sc.grow hs0 g1) hl (by omega) (by omega) fun h2 hs2 fr2 => ?_
  refine QO hX ?_;refine QK (Qb ?_);refine QM ?_
  exact ⟨_, rfl, hq _ hs2 ((gr_fr (by omega) g1).trans fr2)⟩
 ·have hno : ¬(1 < N ∧ byteN (sub src k N) 0 = 48) := fun hc => by omega
  refine QJ en64 ?_
  refine letter_w ?_
  cases hlt2 : letterN (byteN src ((k : Int) + (N : Int)))
  ·have hno2 : ¬(k + N < src.size ∧ letterN (byteN src ((k : Int) + (N : Int))) = true) := fun hc => by rw [hlt2] at hc; exact Bool.noConfusion hc.2
   refine QW (k := Qc ?_);refine QW (k := Qb ?_);refine WD.nil (hq := ?_);refine QS hX ?_;refine UA ?_;refine QN hX ?_;refine QK (Qa ?_);refine QK ?_
   have hn : numberS src k l = ⟨.ok, k + N, l ++ [⟨2, sub src k N, numOf (sub src k N), k⟩]⟩ := by
    unfold numberS; rw [hN, if_neg (by omega), if_neg hno, if_neg hno2]
   rw [hn] at hq
   refine QJ en83 ?_
   refine atoi_w (s := sub src k N) (by rw [hsz]; exact hone) (by rw [hsz]; omega) (fun j hj => by rw [hsz] at hj; rw [byteN_sub hrun hj]; exact runN_all (Nat.le_of_lt hk) (by rw [hN]; exact hj)) fun h1 g1 => ?_
   refine QK (Qa ?_);refine QK (Qq ?_);refine QK (Qq ?_);refine QK (Qb ?_);refine QK (Qb ?_);refine QO hX ?_;refine QK (Qa ?_);refine QK (Qa ?_);refine QK (Qa ?_);refine QK (Qa ?_);refine QK ?_
   refine QJ en50 ?_
   refine add_w (Sc.grow hs0 g1) hl (by omega) (by omega) fun h2 hs2 fr2 => ?_
   refine QO hX ?_;refine QK (Qb ?_);refine QM ?_
   exact ⟨_, rfl, hq _ hs2 ((gr_fr (by omega) g1).trans fr2)⟩
  ·refine QW (k := Qc ?_);refine QW (k := Qb ?_);refine WD.nil (hq := ?_);refine QR hX ?_;refine QN hX ?_;refine QK (Qa ?_);refine QK (Qi ?_);refine QK (Qj ?_);refine QK (Qt ?_);refine QK (Qa ?_);refine QK (Qf ?_);refine QK (Qn ?_);refine QK (Qo ?_);refine QK (Qb ?_);refine QM ?_
   have hn : numberS src k l = ⟨.stuck (k + N), k, l⟩ := by
    unfold numberS; rw [hN, if_neg (by omega), if_neg hno, if_pos ⟨by omega, hlt2⟩]
   rw [hn] at hq
   exact ⟨_, rfl, hq _ hs0 (Fr.refl _ _)⟩
 ·have hno : ¬(1 < N ∧ byteN (sub src k N) 0 = 48) := fun hc => by omega
  have hno2 : ¬(k + N < src.size ∧ letterN (byteN src ((k : Int) + (N : Int))) = true) := fun hc => by omega
  have hn : numberS src k l = ⟨.ok, k + N, l ++ [⟨2, sub src k N, numOf (sub src k N), k⟩]⟩ := by
   unfold numberS; rw [hN, if_neg (by omega), if_neg hno, if_neg hno2]
  rw [hn] at hq
  refine QJ en83 ?_
  refine atoi_w (s := sub src k N) (by rw [hsz]; exact hone) (by rw [hsz]; omega) (fun j hj => by rw [hsz] at hj; rw [byteN_sub hrun hj]; exact runN_all (Nat.le_of_lt hk) (by rw [hN]; exact hj)) fun h1 g1 => ?_
  refine QK (Qa ?_);refine QK (Qq ?_);refine QK (Qq ?_);refine QK (Qb ?_);refine QK (Qb ?_);refine QO hX ?_;refine QK (Qa ?_);refine QK (Qa ?_);refine QK (Qa ?_);refine QK (Qa ?_);refine QK ?_
  refine QJ en50 ?_
  refine add_w (Sc.grow hs0 g1) hl (by omega) (by omega) fun h2 hs2 fr2 => ?_
  refine QO hX ?_;refine QK (Qb ?_);refine QM ?_
  exact ⟨_, rfl, hq _ hs2 ((gr_fr (by omega) g1).trans fr2)⟩

theorem escape_w {s : ByteArray} {h : Heap} {Q : ARes → Prop}
    (hq : Q (.ret (.tuple #[.int .u8 (if s.size = 0 then 0 else if byteN s 0 = 110 then 10 else if byteN s 0 = 34 ∨ byteN s 0 = 92 then byteN s 0 else 0), .bool (decide (s.size ≠ 0 ∧ (byteN s 0 = 110 ∨ byteN s 0 = 34 ∨ byteN s 0 = 92)))]) h)) : WCall Tryz.prog G X 84 [.string s] h Q := by
  refine WCall.walk hX Tryz.func84 rfl rfl Tryz.ntmps84 rfl ?_
  refine QN hX ?_;refine QK (Qb ?_);refine QK (Qb ?_);refine QL ?_;refine QU hX ?_;refine QN hX ?_;refine QK (Qa ?_);refine QK (Qr ?_);refine QK (QD ?_ ?_);intro hh;refine QQ hX ?_;refine QN hX ?_;refine QK (Qb ?_);refine QK (Qb ?_);refine QM ?_;rotate_left;intro hh;refine QP hX ?_;refine UA ?_;refine QU hX ?_;refine QN hX ?_;refine QK (Qa ?_);refine QK (Qm ?_);refine QK (Qb ?_);refine QO hX ?_;refine QK (Qa ?_);refine QL ?_;refine WC.block hX ?_;refine QN hX ?_;refine QK (QD ?_ ?_);intro hh;refine QK (Qb ?_);refine QQ hX ?_;refine QN hX ?_;refine QK (Qb ?_);refine QK (Qb ?_);refine QM ?_;rotate_left;intro hh;refine QK (Qb ?_);refine QP hX ?_;refine QU hX ?_;refine QN hX ?_;refine QK (QD ?_ ?_);intro hh;refine QK (Qb ?_);refine QQ hX ?_;refine UA ?_;refine QR hX ?_;refine QN hX ?_;refine QK (Qa ?_);refine QK (Qb ?_);refine QK (Qb ?_);refine QM ?_;rotate_left;intro hh;refine QK (Qb ?_);refine QP hX ?_;refine QV hX ?_;refine QK (QD ?_ ?_);intro hh;refine QK (Qb ?_);refine QQ hX ?_;refine QN hX ?_;refine QK (Qa ?_);refine QK (Qb ?_);refine QK (Qb ?_);refine QM ?_;rotate_left;intro hh;refine QK (Qb ?_);refine QP hX ?_;refine UA ?_;refine QN hX ?_;refine QK (Qb ?_);refine QK (Qb ?_);refine QM ?_;rotate_left
  all_goals (refine ⟨_, rfl, cast (congrArg Q ?_) hq⟩; clear hq; have e1 : (s.size : Int) = 0 ↔ s.size = 0 := by omega
             simp only [e1] at *; simp [answer, *])

end Go.Proofs.ZL
end

section
open Go Go.Am
namespace Go.Proofs.ZL
set_option maxRecDepth 100000
set_option linter.unusedSimpArgs false
set_option linter.unusedVariables false
set_option maxHeartbeats 4000000

def BSl (h : Heap) (lo : Nat) (b : Option Addr) (n es : Nat) (out : List Int) : Prop :=
 (b = none ∧ n = 0 ∧ es = 0 ∧ out = []) ∨ ∃ i, b = some ⟨i, 0, none⟩ ∧ lo ≤ i ∧ i < h.next ∧ es = 1 ∧ n = out.length ∧ h.obj i = some (.cells false (out.map (Value.int .u8)))

theorem BSl.len {h : Heap} {lo : Nat} {b : Option Addr} {n es : Nat} {l : List Int} (ht : BSl h lo b n es l) : n = l.length := by
 rcases ht with ⟨_, rfl, _, rfl⟩ | ⟨i, _, _, _, _, rfl, _⟩ <;> rfl
theorem BSl.at {h : Heap} {lo : Nat} {b : Option Addr} {n es : Nat} {l : List Int} (ht : BSl h lo b n es l) : SliceAt h b n es 1 (l.map (Value.int .u8)) := by
 rcases ht with ⟨rfl, rfl, rfl, rfl⟩ | ⟨i, rfl, _, _, rfl, rfl, ho⟩
 ·exact .inl ⟨rfl, rfl, rfl, rfl⟩
 ·exact .inr ⟨i, 0, _, rfl, rfl, ho, by simp, by rw [List.drop_zero, List.take_of_length_le (by simp)]⟩
theorem BSl.mono {h h' : Heap} {lo : Nat} {b : Option Addr} {n es : Nat} {l : List Int} (ht : BSl h lo b n es l) (hn : h.next ≤ h'.next) (ho : ∀ j, lo ≤ j → j < h.next → h'.obj j = h.obj j) : BSl h' lo b n es l := by
 rcases ht with ⟨rfl, rfl, rfl, rfl⟩ | ⟨i, rfl, h1, h2, rfl, rfl, h3⟩
 ·exact .inl ⟨rfl, rfl, rfl, rfl⟩
 ·exact .inr ⟨i, rfl, h1, by omega, rfl, rfl, by rw [ho i h1 h2]; exact h3⟩

def strOf (l : List Int) : ByteArray := ⟨(l.map fun n => UInt8.ofNat n.toNat).toArray⟩

theorem bytesOfCells_map : ∀ l : List Int, bytesOfCells (l.map (Value.int .u8)) = some l
 | [] => rfl
 | a :: l => by simp only [List.map_cons, bytesOfCells, bytesOfCells_map l]

theorem BSl.str {h : Heap} {lo : Nat} {b : Option Addr} {n es : Nat} {l : List Int} (ht : BSl h lo b n es l) : convertA Tryz.prog 42 9 (.slice b n es) h = some (.string (strOf l), h) := by
 rcases ht with ⟨rfl, rfl, rfl, rfl⟩ | ⟨i, rfl, _, _, rfl, rfl, ho⟩
 ·rfl
 ·cases l with
  | nil => rfl
  | cons a l =>
   have h1 : h.cells i 0 (l.length + 1) = some ((a :: l).map (Value.int .u8)) := by
    simp only [Heap.cells, ho]
    rw [if_pos (by simp), List.drop_zero, List.take_of_length_le (by simp)]
   have hu : Tryz.prog.underlying 42 = some (.slice 5) := rfl
   have hu9 : Tryz.prog.underlying 9 = some .string := rfl
   have hu5 : Tryz.prog.underlying 5 = some (.int .u8) := rfl
   simp only [convertA, hu, hu9, hu5, List.length_cons]
   rw [if_neg (by omega)]
   simp only [if_true, h1, bytesOfCells_map, Option.map_some]
   rfl

def textGo (src : ByteArray) (k : Nat) (l : List Tok) : Nat → Nat → List Int → Out
 | 0, _, _ => ⟨.stuck src.size, k, l⟩
 | m + 1, i, out =>
  if src.size ≤ i then ⟨.stuck src.size, k, l⟩
  else if byteN src i = 34 then (if 256 < out.length then ⟨.long (⟨#[97, 32, 116, 101, 120, 116]⟩ : ByteArray) k, k, l⟩ else ⟨.ok, i + 1, l ++ [⟨3, strOf out, 0, k⟩]⟩)
  else if byteN src i = 92 then
   (if i + 1 < src.size ∧ (byteN src ((i + 1 : Nat) : Int) = 110 ∨ byteN src ((i + 1 : Nat) : Int) = 34 ∨ byteN src ((i + 1 : Nat) : Int) = 92) then
    textGo src k l m (i + 2) (out ++ [if byteN src ((i + 1 : Nat) : Int) = 110 then 10 else byteN src ((i + 1 : Nat) : Int)])
   else ⟨.stuck i, k, l⟩)
  else if byteN src i < 32 ∨ 126 < byteN src i then ⟨.stuck i, k, l⟩
  else textGo src k l m (i + 1) (out ++ [byteN src i])

def textS (src : ByteArray) (k : Nat) (l : List Tok) : Out := textGo src k l (src.size + 1) (k + 1) []

theorem byteN_bsub {s : ByteArray} {l r j : Int} (hb : 0 ≤ l ∧ l ≤ r ∧ r ≤ s.size) (hj : 0 ≤ j ∧ j < r - l) : byteN (bsub s l r) j = byteN s (l + j) := by
 have h1 : bsub s l r = sub s l.toNat (r - l).toNat := by
  rw [sub_eq, bsub_eq]; congr 1; omega
 have h2 := byteN_sub (src := s) (k := l.toNat) (n := (r - l).toNat) (j := j.toNat) (by omega) (by omega)
 rw [h1]
 rw [show ((j.toNat : Nat) : Int) = j by omega] at h2
 rw [h2]
 congr 1; omega

theorem escape_v {s : ByteArray} {v : Int} {b : Bool} {h : Heap} {Q : ARes → Prop} (hv : v = if s.size = 0 then 0 else if byteN s 0 = 110 then 10 else if byteN s 0 = 34 ∨ byteN s 0 = 92 then byteN s 0 else 0)
  (hb : b = decide (s.size ≠ 0 ∧ (byteN s 0 = 110 ∨ byteN s 0 = 34 ∨ byteN s 0 = 92))) (hq : Q (.ret (.tuple #[.int .u8 v, .bool b]) h)) : WCall Tryz.prog G X 84 [.string s] h Q := by
 subst hv hb
 exact escape_w hq

theorem BSl.snoc {h0 h' h2 : Heap} {lo : Nat} {b : Option Addr} {n es : Nat} {out : List Int} {v : Int} {o : AObj} (hb : BSl h' lo b n es out) (hlo : lo ≤ h'.next) (hg : Gr h0 h') (he : lo = h0.next)
  (hn : h2.next = (h'.alloc o).next + 1) (ho : h2.obj (h'.alloc o).next = some (.cells false (out.map (Value.int .u8) ++ [.int .u8 v])))
  (hf : ∀ i, i < (h'.alloc o).next → (∀ off, b ≠ some ⟨i, off, none⟩) → h2.obj i = (h'.alloc o).obj i) :
  BSl h2 lo (some ⟨(h'.alloc o).next, 0, none⟩) (n + 1) 1 (out ++ [v]) ∧ Gr h0 h2 := by
 have hlen := hb.len
 simp only [Heap.alloc_next] at hn ho hf ⊢
 refine ⟨.inr ⟨h'.next + 1, rfl, by omega, by omega, rfl, by simp [hlen], by rw [ho]; simp⟩, by have := hg.1; omega, fun j hj => ?_⟩
 rw [hf j (by have := hg.1; omega) (by rcases hb with ⟨rfl, _⟩ | ⟨i, rfl, h1, _⟩ <;> intro off e <;> cases e; omega)]
 rw [obj_old (by have := hg.1; omega) rfl]
 exact hg.2 j hj

theorem text_w {s : Nat} {src : ByteArray} {k : Nat} {l : List Tok} {h : Heap} {Q : ARes → Prop} (hs : Sc h s src k l) (hl : l.length ≤ 100000) (hz : src.size ≤ 100000) (hk : k < src.size)
  (hq : ∀ h', Sc h' s src (textS src k l).pos (textS src k l).list → Fr s h h' → Q (.ret (textS src k l).err.val h')) : WCall Tryz.prog G X 68 [.pointer (some ⟨s, 0, none⟩)] h Q := by
 have hs0 := hs
 obtain ⟨hlt, b0, n0, es0, ho, ht⟩ := hs
 refine WCall.walk hX Tryz.func68 rfl rfl Tryz.ntmps68 rfl ?_
 refine QN hX ?_;refine QK (Qb ?_);refine QO hX ?_;refine QK (Qb ?_);refine QO hX ?_;refine QK (Qa ?_);refine QK (Qi ?_);refine QK (Qj ?_);refine QK (Qt ?_);refine QK (Qf ?_);refine QK (Qb ?_);refine QL ?_;refine WC.block hX ?_
 refine WC.loopInv hX (α := Nat × Nat × List Int) (m := fun a => a.1) (Inv := fun a e h' => ∃ b n es, e 0 = some (.pointer (some ⟨s, 0, none⟩)) ∧ e 3 = some (.slice b n es) ∧ e 4 = some (.int .i64 (a.2.1 : Nat)) ∧
  Gr h h' ∧ BSl h' h.next b n es a.2.2 ∧ src.size + 1 ≤ a.1 + a.2.1 ∧ k < a.2.1 ∧ a.2.1 ≤ src.size ∧ a.2.2.length ≤ a.2.1 ∧ textGo src k l a.1 a.2.1 a.2.2 = textS src k l) (src.size + 1, k + 1, []) ⟨none, 0, 0, rfl, rfl, by rfl, Gr.refl _, .inl ⟨rfl, rfl, rfl, rfl⟩, by simp only; omega, by simp only; omega, by simp only; omega, by simp, rfl⟩ ?_
 rintro ⟨m, i, out⟩ env h' ih ⟨b, n, es, e0, e3, e4, hg, hb, hm, hki, hi2, hol, heq⟩
 simp only at e4 hb hm hki hi2 hol heq
 have ho' := hg.at hlt ho
 have hlen := hb.len
 obtain ⟨m, rfl⟩ : ∃ m', m = m' + 1 := ⟨m - 1, by omega⟩
 unfold textGo at heq
 refine QU hX ?_;refine WC.block hX ?_;refine QU hX ?_;refine QN hX ?_;refine QK (Qa ?_);refine QK (Qa ?_);refine QK (Qi ?_);refine QK (Qj ?_);refine QK (Qt ?_);refine QK (Qr ?_);refine QK (QI ?_ ?_);intro hh;refine QQ hX ?_;refine QN hX ?_;refine QK (Qa ?_);refine QK (Qi ?_);refine QK (Qj ?_);refine QK (Qt ?_);refine QK (Qr ?_);refine QK (Qn ?_);refine QK (Qo ?_);refine QK (Qb ?_);refine QM ?_;rotate_left;intro hh;refine QP hX ?_;refine UA ?_;refine QN hX ?_;refine QK (Qa ?_);refine QK (Qi ?_);refine QK (Qj ?_);refine QK (Qt ?_);refine QK (Qa ?_);refine QK (Qm ?_);refine QK (Qb ?_);refine QL ?_;refine WC.block hX ?_;refine QN hX ?_;refine QK (Qa ?_);refine QK (QD ?_ ?_);intro hh;refine QK (Qb ?_);refine QQ hX ?_;refine QU hX ?_;refine QN hX ?_;refine QK (Qa ?_);refine QK (Qs ?_);refine QK (QH ?_ ?_);intro hh;refine QQ hX ?_;refine QN hX ?_;refine QK (Qa ?_);refine QK (Qi ?_);refine QK (Qj ?_);refine QK (Qt ?_);refine QK (Qn ?_);refine QK (Qo ?_);refine QK (Qn ?_);refine QK (Qo ?_);refine QK (Qb ?_);refine QM ?_;rotate_left;intro hh;refine QP hX ?_;refine UA ?_;refine QU hX ?_;refine WC.drawn (id := 11) hX (l := [⟨0, .pure, 0⟩, ⟨1, .pure, 0⟩, ⟨2, .read, 2⟩, ⟨3, .pure, 0⟩, ⟨4, .pure, 8⟩, ⟨5, .pure, 0⟩, ⟨6, .pure, 32⟩, ⟨7, .pure, 96⟩, ⟨8, .read, 224⟩, ⟨9, .pure, 504⟩, ⟨10, .heavy, 1023⟩]) (hw := ?_);refine QW (k := Qa ?_);refine QW (k := Qa ?_);refine WD.read (hw := ?_);rotate_left;intro hh;refine QK (Qb ?_);refine QP hX ?_;refine QN hX ?_;refine QK (Qa ?_);refine QK (QD ?_ ?_);intro hh;refine QK (Qb ?_);refine QQ hX ?_;refine QN hX ?_;refine QK (Qa ?_);refine QK (Qi ?_);refine QK (Qj ?_);refine QK (Qt ?_);refine QK (Qa ?_);refine QK (Qf ?_);refine QK (WS.sliceSlo (hk := ?_));refine QK ?_;rotate_left;intro hh;refine QK (Qb ?_);refine QP hX ?_;refine QN hX ?_;refine QK (Qa ?_);refine QK (QF ?_ ?_);intro hh;refine QK (Qa ?_);refine QK (QA ?_);refine QK (QA ?_);refine QK (Qc ?_);refine QK (Qb ?_);refine QQ hX ?_;refine QN hX ?_;refine QK (Qa ?_);refine QK (Qn ?_);refine QK (Qo ?_);refine QK (Qb ?_);refine QM ?_;rotate_left;intro hh;refine QK (Qa ?_);refine QK (Qa ?_);refine QK (QH ?_ ?_);intro hh;refine QK (Qd ?_);refine QK (Qb ?_);refine QQ hX ?_;refine QN hX ?_;refine QK (Qa ?_);refine QK (Qn ?_);refine QK (Qo ?_);refine QK (Qb ?_);refine QM ?_;rotate_left;intro hh;refine QK (Qd ?_);refine QK (Qb ?_);refine QP hX ?_;refine QV hX ?_;refine QK (Qa ?_);refine QK (Qa ?_);refine QK (Qy ?_);refine QK ?_;rotate_left
 ·rw [if_pos (by omega)] at heq
  rw [← heq] at hq
  exact ⟨_, rfl, hq _ (hs0.grow hg) (gr_fr (by omega) hg)⟩
 ·rw [if_neg (by omega), if_pos (by assumption), if_pos (by omega)] at heq
  rw [← heq] at hq
  exact ⟨_, rfl, hq _ (hs0.grow hg) (gr_fr (by omega) hg)⟩
 ·rw [if_neg (by omega), if_pos (by assumption), if_neg (by omega)] at heq
  rw [← heq] at hq
  apply WS.conv (fun H => BSl H h.next b n es out); (· rfl); (· rfl); (· exact Wwev); (· exact hb); (· exact fun H hH => hH.str)
  refine QW (k := Qa ?_);refine QW (k := Qf ?_);refine QW (k := Qa ?_);refine QW (k := Qi ?_);refine QW (k := Qj ?_);refine QX (k := Qt ?_);refine QW (k := Qg ?_);refine WD.heavy hX (hw := ?_)
  refine QJ en50 ?_
  rw [show (i : Int) + 1 - k = ((i + 1 - k : Nat) : Int) by omega]
  refine add_w (hs0.grow hg) hl (by omega) (by omega) fun h3 hs3 fr3 => ?_
  refine WD.nil (hq := ?_);refine QN hX ?_;refine QK (Qb ?_);refine QM ?_
  rw [show k + (i + 1 - k) = i + 1 by omega] at hs3
  exact ⟨_, rfl, hq _ hs3 ((gr_fr (by omega) hg).trans fr3)⟩
 ·rw [if_neg (by omega), if_neg (by assumption), if_pos (by assumption)] at heq
  refine QJ en84 ?_
  have hbs := bsub_size (s := src) (l := (i : Int) + 1) (r := src.size) (by omega)
  by_cases hesc : i + 1 < src.size ∧ (byteN src ((i + 1 : Nat) : Int) = 110 ∨ byteN src ((i + 1 : Nat) : Int) = 34 ∨ byteN src ((i + 1 : Nat) : Int) = 92)
  ·rw [if_pos hesc] at heq
   have hb0 : byteN (bsub src ((i : Int) + 1) src.size) 0 = byteN src ((i + 1 : Nat) : Int) := by
    rw [byteN_bsub (by omega) (by omega)]; congr 1
   refine escape_v (v := if byteN src ((i + 1 : Nat) : Int) = 110 then 10 else byteN src ((i + 1 : Nat) : Int)) (b := true) ?_ ?_ ?_
   ·rw [hb0, if_neg (show ¬(bsub src ((i : Int) + 1) src.size).size = 0 by omega)]
    rcases hesc.2 with h | h | h <;> rw [h] <;> decide
   ·rw [hb0]; symm; rw [decide_eq_true_eq]; exact ⟨by omega, hesc.2⟩
   refine QK (Qa ?_);refine QK (Qq ?_);refine QK (Qq ?_);refine QK (Qb ?_);refine QK (Qb ?_);refine QL ?_;refine QU hX ?_;refine QN hX ?_;refine QK (Qa ?_);refine QK (Qe ?_);refine QP hX ?_;refine UA ?_;refine QN hX ?_;refine QK (Qa ?_);refine QK (Qa ?_);refine QK (Qy ?_);refine QK ?_
   apply WS.append
   (· rfl); (· rfl); (· exact Wwev); (· exact Wwev); (· rfl); (· rfl); (· intro k hk; cases hk); (· exact fits_at rfl); (· decide); (· exact Wwobj); (· exact Wwlen); (· rfl); (· unfold room; omega); (· rfl)
   (· exact (hb.mono (h' := h'.alloc _) (by simp) (fun j _ hj => obj_old (by omega) rfl)).at)
   intro h2 hn2 ho2 hf2
   obtain ⟨hb2, hg2⟩ := hb.snoc hg.1 hg rfl hn2 ho2 hf2
   refine QK (Qb ?_);refine QL ?_;refine QV hX ?_;refine QK (Qa ?_);refine QK (Qf ?_);refine QK (Qb ?_);refine QL ?_;refine QV hX ?_;refine QK (Qa ?_);refine QK (Qf ?_);refine QK (Qb ?_);refine QL ?_

   refine ih (m, i + 2, _) _ _ (by simp) ⟨_, _, _, e0, rfl, by simp only [Int.natCast_add]; rfl, hg2, hb2, by simp only; omega, by simp only; omega, by simp only; omega, by simp only [List.length_append, List.length_singleton]; omega, heq⟩
  ·rw [if_neg hesc] at heq
   rw [← heq] at hq
   refine escape_v (v := _) (b := false) rfl ?_ ?_
   ·symm; rw [decide_eq_false_iff_not]
    intro hc
    refine hesc ⟨by omega, ?_⟩
    have hb0 : byteN (bsub src ((i : Int) + 1) src.size) 0 = byteN src ((i + 1 : Nat) : Int) := by
     rw [byteN_bsub (by omega) (by omega)]; congr 1
    rw [hb0] at hc; exact hc.2
   refine QK (Qa ?_);refine QK (Qq ?_);refine QK (Qq ?_);refine QK (Qb ?_);refine QK (Qb ?_);refine QL ?_;refine QU hX ?_;refine QN hX ?_;refine QK (Qa ?_);refine QK (Qe ?_);refine QQ hX ?_;refine QN hX ?_;refine QK (Qa ?_);refine QK (Qn ?_);refine QK (Qo ?_);refine QK (Qb ?_);refine QM ?_
   exact ⟨_, rfl, hq _ (hs0.grow hg) (gr_fr (by omega) hg)⟩
 ·rw [if_neg (by omega), if_neg (by assumption), if_neg (by assumption), if_pos (by omega)] at heq
  rw [← heq] at hq
  exact ⟨_, rfl, hq _ (hs0.grow hg) (gr_fr (by omega) hg)⟩
 ·rw [if_neg (by omega), if_neg (by assumption), if_neg (by assumption), if_pos (by omega)] at heq
  rw [← heq] at hq
  exact ⟨_, rfl, hq _ (hs0.grow hg) (gr_fr (by omega) hg)⟩
 ·rw [if_neg (by omega), if_neg (by assumption), if_neg (by assumption), if_neg (by omega)] at heq
  apply WS.append
  (· rfl); (· rfl); (· exact Wwev); (· exact Wwev); (· rfl); (· rfl); (· intro k hk; cases hk); (· exact fits_at rfl); (· decide); (· exact Wwobj); (· exact Wwlen); (· rfl); (· unfold room; omega); (· rfl)
  (· exact (hb.mono (h' := h'.alloc _) (by simp) (fun j _ hj => obj_old (by omega) rfl)).at)
  intro h2 hn2 ho2 hf2
  obtain ⟨hb2, hg2⟩ := hb.snoc hg.1 hg rfl hn2 ho2 hf2
  refine QK (Qb ?_);refine QL ?_;refine QV hX ?_;refine QK (Qa ?_);refine QK (Qf ?_);refine QK (Qb ?_);refine QL ?_

  refine ih (m, i + 1, _) _ _ (by simp) ⟨_, _, _, e0, rfl, by simp only [Int.natCast_add]; rfl, hg2, hb2, by simp only; omega, by simp only; omega, by simp only; omega, by simp only [List.length_append, List.length_singleton]; omega, heq⟩

end Go.Proofs.ZL
end

section
open Go Go.Am
namespace Go.Proofs.ZL
set_option maxRecDepth 100000
set_option linter.unusedSimpArgs false
set_option linter.unusedVariables false
set_option maxHeartbeats 4000000

theorem WC.unroll {P : Program} {G : Nat} {X : ExtFn} {n : Nat} (hX : ExtMono X) {b : Code} {env : Env} {h : Heap} {N : Env → Heap → Prop} {E : Nat → Env → Heap → Prop} {R : Env → Heap → Prop} {F : List PanicEntry → Heap → Prop}
  (hw : WC P G X n b env h (fun e h => WC P G X n (.loop b) e h N E R F) E R F) : WC P G X n (.loop b) env h N E R F :=
 WC.loopInv hX (α := Nat) (fun k => k) (fun k e h' => k = 1 ∧ e = env ∧ h' = h ∨ k = 0 ∧ False) 1 (.inl ⟨rfl, rfl, rfl⟩) (by
  rintro k e h' _ (⟨_, rfl, rfl⟩ | ⟨_, hf⟩)
  ·exact hw
  ·exact hf.elim)

def marks : List ByteArray := [(⟨#[58, 61]⟩ : ByteArray), (⟨#[61, 61]⟩ : ByteArray), (⟨#[33, 61]⟩ : ByteArray), (⟨#[60, 61]⟩ : ByteArray), (⟨#[62, 61]⟩ : ByteArray), (⟨#[38, 38]⟩ : ByteArray), (⟨#[124, 124]⟩ : ByteArray), (⟨#[60, 45]⟩ : ByteArray), (⟨#[43, 43]⟩ : ByteArray), (⟨#[45, 45]⟩ : ByteArray), (⟨#[43, 61]⟩ : ByteArray), (⟨#[45, 61]⟩ : ByteArray), (⟨#[42, 61]⟩ : ByteArray), (⟨#[40]⟩ : ByteArray), (⟨#[41]⟩ : ByteArray), (⟨#[91]⟩ : ByteArray), (⟨#[93]⟩ : ByteArray), (⟨#[123]⟩ : ByteArray), (⟨#[125]⟩ : ByteArray), (⟨#[44]⟩ : ByteArray), (⟨#[59]⟩ : ByteArray), (⟨#[58]⟩ : ByteArray), (⟨#[46]⟩ : ByteArray), (⟨#[61]⟩ : ByteArray), (⟨#[60]⟩ : ByteArray), (⟨#[62]⟩ : ByteArray), (⟨#[43]⟩ : ByteArray), (⟨#[45]⟩ : ByteArray), (⟨#[42]⟩ : ByteArray), (⟨#[47]⟩ : ByteArray), (⟨#[37]⟩ : ByteArray), (⟨#[33]⟩ : ByteArray), (⟨#[38]⟩ : ByteArray)]

def markOf (s : ByteArray) : ByteArray := if 2 ≤ s.size ∧ inS marks (bsub s 0 2) = true then bsub s 0 2 else if 1 ≤ s.size ∧ inS marks (bsub s 0 1) = true then bsub s 0 1 else .empty

theorem hasPrefix2_w {s p : ByteArray} {h : Heap} {Q : ARes → Prop} (_hs : s.size ≤ 100000) (hp : p.size ≤ 100000) (hq : Q (.ret (.bool (decide (p.size ≤ s.size ∧ bsub s 0 p.size = p))) h)) : WCall Tryz.prog G X 80 [.string s, .string p] h Q := by
 refine WCall.walk hX Tryz.func80 rfl rfl Tryz.ntmps80 rfl ?_
 refine QN hX ?_;refine QK (Qb ?_);refine QO hX ?_;refine QK (Qa ?_);refine QK (Qr ?_);refine QK (Qa ?_);refine QK (Qr ?_);refine QK (QI ?_ ?_);intro hh;refine QK (Qa ?_);refine QK (Qa ?_);refine QK (Qa ?_);refine QK (Qr ?_);refine QK (WS.sliceShi (hk := ?_));refine QK (Qa ?_);refine QK (QB ?_ ?_);intro hh;refine QK (Qc ?_);refine QK (Qb ?_);refine QM ?_;rotate_left;intro hh;refine QK (Qc ?_);refine QK (Qb ?_);refine QM ?_;rotate_left;intro hh;refine QK (Qa ?_);refine QK (QA ?_);refine QK (QA ?_);refine QK (QA ?_);refine QK (QA ?_);refine QK (QA ?_);refine QK (QA ?_);refine QK (Qd ?_);refine QK (Qb ?_);refine QM ?_;rotate_left
 all_goals (refine ⟨_, rfl, ret_bool ?_ hq⟩; symm; first
  | (rw [decide_eq_true_eq]; exact ⟨by omega, hh⟩)
  | (rw [decide_eq_false_iff_not]; intro hc; exact absurd hc.2 hh)
  | (rw [decide_eq_false_iff_not]; intro hc; omega))

theorem hasPrefix_w {s p : ByteArray} {h : Heap} {Q : ARes → Prop} (hs : s.size ≤ 100000) (hp : p.size ≤ 100000) (hq : Q (.ret (.bool (decide (p.size ≤ s.size ∧ bsub s 0 p.size = p))) h)) : WCall Tryz.prog G X 61 [.string s, .string p] h Q := by
 refine WCall.walk hX Tryz.func61 rfl rfl Tryz.ntmps61 rfl ?_
 refine QN hX ?_;refine QK (Qb ?_);refine QO hX ?_;refine QK (Qa ?_);refine QK (Qa ?_);refine QK ?_
 refine QJ en80 ?_
 refine hasPrefix2_w hs hp ?_
 refine QK (Qb ?_);refine QM ?_
 exact ⟨_, rfl, hq⟩

theorem mark_w {s : ByteArray} {h : Heap} {Q : ARes → Prop} (hs : s.size ≤ 100000) (hq : Q (.ret (.string (markOf s)) h)) : WCall Tryz.prog G X 69 [.string s] h Q := by
  refine WCall.walk hX Tryz.func69 rfl rfl Tryz.ntmps69 rfl ?_
  refine QN hX ?_;refine QK (Qb ?_);refine QL ?_;refine QU hX ?_;refine QN hX ?_;refine QK (Qn ?_);refine QK (Qa ?_);refine QL ?_;refine WC.block hX ?_
  refine WC.unroll hX ?_
  refine QN hX ?_;refine QK (QF ?_ ?_);intro hh;refine QL ?_;refine QU hX ?_;refine QR hX ?_;refine UA ?_;refine QU hX ?_;refine WC.block hX ?_;refine QN hX ?_;refine QK ?_;rotate_left;intro hh;exfalso;omega
  apply WS.index (v := .int .i64 2); (· rfl); (· rfl); (· exact Wwev); (· exact Wwev); (· rfl)
  refine QK (Qb ?_);refine QL ?_;refine QU hX ?_;refine QN hX ?_;refine QK (Qa ?_);refine QK (Qr ?_);refine QK (Qa ?_);refine QK (QF ?_ ?_);intro hh;refine QQ hX ?_;refine WC.exit ?_;refine exit_here ?_;refine QV hX ?_;refine QK (Qf ?_);refine QK (Qa ?_);refine QL ?_;rotate_left;intro hh;refine QP hX ?_;refine UA ?_;refine QN hX ?_;refine QK (Qa ?_);refine QK (Qa ?_);refine QK (WS.sliceShi (hk := ?_));refine QK (Qb ?_);refine QO hX ?_;refine QK (Qa ?_);refine QL ?_;refine WC.block hX ?_;refine QU hX ?_;refine WC.block hX ?_;refine WC.block hX ?_;refine QU hX ?_;refine QU hX ?_;refine QU hX ?_;refine QN hX ?_;refine QK (QB ?_ ?_);intro hh;refine QK (Qb ?_);refine QQ hX ?_;refine UA ?_;refine QR hX ?_;refine WC.exit ?_;refine exit_here ?_;refine QU hX ?_;refine QN hX ?_;refine QK (Qa ?_);refine QK (Qb ?_);refine QM ?_;rotate_left;intro hh;refine QK (Qb ?_);refine QP hX ?_;refine QN hX ?_;refine QK (QB ?_ ?_);intro hh;refine QK (Qb ?_);refine QQ hX ?_;refine UA ?_;refine QR hX ?_;refine WC.exit ?_;refine exit_here ?_;refine QU hX ?_;refine QN hX ?_;refine QK (Qa ?_);refine QK (Qb ?_);refine QM ?_;rotate_left;intro hh;refine QK (Qb ?_);refine QP hX ?_;refine QN hX ?_;refine QK (QB ?_ ?_);intro hh;refine QK (Qb ?_);refine QQ hX ?_;refine UA ?_;refine QR hX ?_;refine WC.exit ?_;refine exit_here ?_;refine QU hX ?_;refine QN hX ?_;refine QK (Qa ?_);refine QK (Qb ?_);refine QM ?_;rotate_left;intro hh;refine QK (Qb ?_);refine QP hX ?_;refine QN hX ?_;refine QK (QB ?_ ?_);intro hh;refine QK (Qb ?_);refine QQ hX ?_;refine UA ?_;refine QR hX ?_;refine WC.exit ?_;refine exit_here ?_;refine QU hX ?_;refine QN hX ?_;refine QK (Qa ?_);refine QK (Qb ?_);refine QM ?_;rotate_left;intro hh;refine QK (Qb ?_);refine QP hX ?_;refine QN hX ?_;refine QK (QB ?_ ?_);intro hh;refine QK (Qb ?_);refine QQ hX ?_;refine UA ?_;refine QR hX ?_;refine WC.exit ?_;refine exit_here ?_;refine QU hX ?_;refine QN hX ?_;refine QK (Qa ?_);refine QK (Qb ?_);refine QM ?_;rotate_left;intro hh;refine QK (Qb ?_);refine QP hX ?_;refine QN hX ?_;refine QK (QB ?_ ?_);intro hh;refine QK (Qb ?_);refine QQ hX ?_;refine UA ?_;refine QR hX ?_;refine WC.exit ?_;refine exit_here ?_;refine QU hX ?_;refine QN hX ?_;refine QK (Qa ?_);refine QK (Qb ?_);refine QM ?_;rotate_left;intro hh;refine QK (Qb ?_);refine QP hX ?_;refine QN hX ?_;refine QK (QB ?_ ?_);intro hh;refine QK (Qb ?_);refine QQ hX ?_;refine UA ?_;refine QR hX ?_;refine WC.exit ?_;refine exit_here ?_;refine QU hX ?_;refine QN hX ?_;refine QK (Qa ?_);refine QK (Qb ?_);refine QM ?_;rotate_left;intro hh;refine QK (Qb ?_);refine QP hX ?_;refine QN hX ?_;refine QK (QB ?_ ?_);intro hh;refine QK (Qb ?_);refine QQ hX ?_;refine UA ?_;refine QR hX ?_;refine WC.exit ?_;refine exit_here ?_;refine QU hX ?_;refine QN hX ?_;refine QK (Qa ?_);refine QK (Qb ?_);refine QM ?_;rotate_left;intro hh;refine QK (Qb ?_);refine QP hX ?_;refine QN hX ?_;refine QK (QB ?_ ?_);intro hh;refine QK (Qb ?_);refine QQ hX ?_;refine UA ?_;refine QR hX ?_;refine WC.exit ?_;refine exit_here ?_;refine QU hX ?_;refine QN hX ?_;refine QK (Qa ?_);refine QK (Qb ?_);refine QM ?_;rotate_left;intro hh;refine QK (Qb ?_);refine QP hX ?_;refine QN hX ?_;refine QK (QB ?_ ?_);intro hh;refine QK (Qb ?_);refine QQ hX ?_;refine UA ?_;refine QR hX ?_;refine WC.exit ?_;refine exit_here ?_;refine QU hX ?_;refine QN hX ?_;refine QK (Qa ?_);refine QK (Qb ?_);refine QM ?_;rotate_left;intro hh;refine QK (Qb ?_);refine QP hX ?_;refine QN hX ?_;refine QK (QB ?_ ?_);intro hh;refine QK (Qb ?_);refine QQ hX ?_;refine UA ?_;refine QR hX ?_;refine WC.exit ?_;refine exit_here ?_;refine QU hX ?_;refine QN hX ?_;refine QK (Qa ?_);refine QK (Qb ?_);refine QM ?_;rotate_left;intro hh;refine QK (Qb ?_);refine QP hX ?_;refine QN hX ?_;refine QK (QB ?_ ?_);intro hh;refine QK (Qb ?_);refine QQ hX ?_;refine UA ?_;refine QR hX ?_;refine WC.exit ?_;refine exit_here ?_;refine QU hX ?_;refine QN hX ?_;refine QK (Qa ?_);refine QK (Qb ?_);refine QM ?_;rotate_left;intro hh;refine QK (Qb ?_);refine QP hX ?_;refine QV hX ?_;refine QK (QB ?_ ?_);intro hh;refine QK (Qb ?_);refine QQ hX ?_;refine WC.exit ?_;refine exit_here ?_;refine QU hX ?_;refine QN hX ?_;refine QK (Qa ?_);refine QK (Qb ?_);refine QM ?_;rotate_left;intro hh;refine QK (Qb ?_);refine QP hX ?_;refine UA ?_;refine QU hX ?_;refine QN hX ?_;refine QK (QB ?_ ?_);intro hh;refine QK (Qb ?_);refine QQ hX ?_;refine UA ?_;refine QR hX ?_;refine WC.exit ?_;refine exit_up rfl ?_;refine exit_here ?_;refine QU hX ?_;refine QN hX ?_;refine QK (Qa ?_);refine QK (Qb ?_);refine QM ?_;rotate_left;intro hh;refine QK (Qb ?_);refine QP hX ?_;refine QN hX ?_;refine QK (QB ?_ ?_);intro hh;refine QK (Qb ?_);refine QQ hX ?_;refine UA ?_;refine QR hX ?_;refine WC.exit ?_;refine exit_up rfl ?_;refine exit_here ?_;refine QU hX ?_;refine QN hX ?_;refine QK (Qa ?_);refine QK (Qb ?_);refine QM ?_;rotate_left;intro hh;refine QK (Qb ?_);refine QP hX ?_;refine QN hX ?_;refine QK (QB ?_ ?_);intro hh;refine QK (Qb ?_);refine QQ hX ?_;refine UA ?_;refine QR hX ?_;refine WC.exit ?_;refine exit_up rfl ?_;refine exit_here ?_;refine QU hX ?_;refine QN hX ?_;refine QK (Qa ?_);refine QK (Qb ?_);refine QM ?_;rotate_left;intro hh;refine QK (Qb ?_);refine QP hX ?_;refine QN hX ?_;refine QK (QB ?_ ?_);intro hh;refine QK (Qb ?_);refine QQ hX ?_;refine UA ?_;refine QR hX ?_;refine WC.exit ?_;refine exit_up rfl ?_;refine exit_here ?_;refine QU hX ?_;refine QN hX ?_;refine QK (Qa ?_);refine QK (Qb ?_);refine QM ?_;rotate_left;intro hh;refine QK (Qb ?_);refine QP hX ?_;refine QN hX ?_;refine QK (QB ?_ ?_);intro hh;refine QK (Qb ?_);refine QQ hX ?_;refine UA ?_;refine QR hX ?_;refine WC.exit ?_;refine exit_up rfl ?_;refine exit_here ?_;refine QU hX ?_;refine QN hX ?_;refine QK (Qa ?_);refine QK (Qb ?_);refine QM ?_;rotate_left;intro hh;refine QK (Qb ?_);refine QP hX ?_;refine QN hX ?_;refine QK (QB ?_ ?_);intro hh;refine QK (Qb ?_);refine QQ hX ?_;refine UA ?_;refine QR hX ?_;refine WC.exit ?_;refine exit_up rfl ?_;refine exit_here ?_;refine QU hX ?_;refine QN hX ?_;refine QK (Qa ?_);refine QK (Qb ?_);refine QM ?_;rotate_left;intro hh;refine QK (Qb ?_);refine QP hX ?_;refine QN hX ?_;refine QK (QB ?_ ?_);intro hh;refine QK (Qb ?_);refine QQ hX ?_;refine UA ?_;refine QR hX ?_;refine WC.exit ?_;refine exit_up rfl ?_;refine exit_here ?_;refine QU hX ?_;refine QN hX ?_;refine QK (Qa ?_);refine QK (Qb ?_);refine QM ?_;rotate_left;intro hh;refine QK (Qb ?_);refine QP hX ?_;refine QN hX ?_;refine QK (QB ?_ ?_);intro hh;refine QK (Qb ?_);refine QQ hX ?_;refine UA ?_;refine QR hX ?_;refine WC.exit ?_;refine exit_up rfl ?_;refine exit_here ?_;refine QU hX ?_;refine QN hX ?_;refine QK (Qa ?_);refine QK (Qb ?_);refine QM ?_;rotate_left;intro hh;refine QK (Qb ?_);refine QP hX ?_;refine QN hX ?_;refine QK (QB ?_ ?_);intro hh;refine QK (Qb ?_);refine QQ hX ?_;refine UA ?_;refine QR hX ?_;refine WC.exit ?_;refine exit_up rfl ?_;refine exit_here ?_;refine QU hX ?_;refine QN hX ?_;refine QK (Qa ?_);refine QK (Qb ?_);refine QM ?_;rotate_left;intro hh;refine QK (Qb ?_);refine QP hX ?_;refine QN hX ?_;refine QK (QB ?_ ?_);intro hh;refine QK (Qb ?_);refine QQ hX ?_;refine UA ?_;refine QR hX ?_;refine WC.exit ?_;refine exit_up rfl ?_;refine exit_here ?_;refine QU hX ?_;refine QN hX ?_;refine QK (Qa ?_);refine QK (Qb ?_);refine QM ?_;rotate_left;intro hh;refine QK (Qb ?_);refine QP hX ?_;refine QN hX ?_;refine QK (QB ?_ ?_);intro hh;refine QK (Qb ?_);refine QQ hX ?_;refine UA ?_;refine QR hX ?_;refine WC.exit ?_;refine exit_up rfl ?_;refine exit_here ?_;refine QU hX ?_;refine QN hX ?_;refine QK (Qa ?_);refine QK (Qb ?_);refine QM ?_;rotate_left;intro hh;refine QK (Qb ?_);refine QP hX ?_;refine QN hX ?_;refine QK (QB ?_ ?_);intro hh;refine QK (Qb ?_);refine QQ hX ?_;refine UA ?_;refine QR hX ?_;refine WC.exit ?_;refine exit_up rfl ?_;refine exit_here ?_;refine QU hX ?_;refine QN hX ?_;refine QK (Qa ?_);refine QK (Qb ?_);refine QM ?_;rotate_left;intro hh;refine QK (Qb ?_);refine QP hX ?_;refine QN hX ?_;refine QK (QB ?_ ?_);intro hh;refine QK (Qb ?_);refine QQ hX ?_;refine UA ?_;refine QR hX ?_;refine WC.exit ?_;refine exit_up rfl ?_;refine exit_here ?_;refine QU hX ?_;refine QN hX ?_;refine QK (Qa ?_);refine QK (Qb ?_);refine QM ?_;rotate_left;intro hh;refine QK (Qb ?_);refine QP hX ?_;refine QN hX ?_;refine QK (QB ?_ ?_);intro hh;refine QK (Qb ?_);refine QQ hX ?_;refine UA ?_;refine QR hX ?_;refine WC.exit ?_;refine exit_up rfl ?_;refine exit_here ?_;refine QU hX ?_;refine QN hX ?_;refine QK (Qa ?_);refine QK (Qb ?_);refine QM ?_;rotate_left;intro hh;refine QK (Qb ?_);refine QP hX ?_;refine QN hX ?_;refine QK (QB ?_ ?_);intro hh;refine QK (Qb ?_);refine QQ hX ?_;refine UA ?_;refine QR hX ?_;refine WC.exit ?_;refine exit_up rfl ?_;refine exit_here ?_;refine QU hX ?_;refine QN hX ?_;refine QK (Qa ?_);refine QK (Qb ?_);refine QM ?_;rotate_left;intro hh;refine QK (Qb ?_);refine QP hX ?_;refine QN hX ?_;refine QK (QB ?_ ?_);intro hh;refine QK (Qb ?_);refine QQ hX ?_;refine UA ?_;refine QR hX ?_;refine WC.exit ?_;refine exit_up rfl ?_;refine exit_here ?_;refine QU hX ?_;refine QN hX ?_;refine QK (Qa ?_);refine QK (Qb ?_);refine QM ?_;rotate_left;intro hh;refine QK (Qb ?_);refine QP hX ?_;refine QN hX ?_;refine QK (QB ?_ ?_);intro hh;refine QK (Qb ?_);refine QQ hX ?_;refine UA ?_;refine QR hX ?_;refine WC.exit ?_;refine exit_up rfl ?_;refine exit_here ?_;refine QU hX ?_;refine QN hX ?_;refine QK (Qa ?_);refine QK (Qb ?_);refine QM ?_;rotate_left;intro hh;refine QK (Qb ?_);refine QP hX ?_;refine QN hX ?_;refine QK (QB ?_ ?_);intro hh;refine QK (Qb ?_);refine QQ hX ?_;refine UA ?_;refine QR hX ?_;refine WC.exit ?_;refine exit_up rfl ?_;refine exit_here ?_;refine QU hX ?_;refine QN hX ?_;refine QK (Qa ?_);refine QK (Qb ?_);refine QM ?_;rotate_left;intro hh;refine QK (Qb ?_);refine QP hX ?_;refine QN hX ?_;refine QK (QB ?_ ?_);intro hh;refine QK (Qb ?_);refine QQ hX ?_;refine UA ?_;refine QR hX ?_;refine WC.exit ?_;refine exit_up rfl ?_;refine exit_here ?_;refine QU hX ?_;refine QN hX ?_;refine QK (Qa ?_);refine QK (Qb ?_);refine QM ?_;rotate_left;intro hh;refine QK (Qb ?_);refine QP hX ?_;refine QV hX ?_;refine QK (QB ?_ ?_);intro hh;refine QK (Qb ?_);refine QQ hX ?_;refine WC.exit ?_;refine exit_up rfl ?_;refine exit_here ?_;refine QU hX ?_;refine QN hX ?_;refine QK (Qa ?_);refine QK (Qb ?_);refine QM ?_;rotate_left;intro hh;refine QK (Qb ?_);refine QP hX ?_;refine UA ?_;refine WC.exit ?_;refine exit_up rfl ?_;refine exit_up rfl ?_;refine exit_here ?_;refine QV hX ?_;refine QK (Qf ?_);refine QK (Qa ?_);refine QL ?_;rotate_left
  all_goals (try (
    have hm : inS marks (bsub s 0 2) = true := by rw [hh]; decide +kernel
    have he : markOf s = bsub s 0 2 := by unfold markOf; rw [if_pos ⟨by omega, hm⟩]
    rw [he] at hq
    exact ⟨_, rfl, hq⟩))
  all_goals (have hno : ¬(2 ≤ s.size ∧ inS marks (bsub s 0 2) = true) := by
               first
                 | omega
                 | (intro hc; have hm := inS_iff.1 hc.2; simp only [marks, List.mem_cons, List.not_mem_nil, or_false] at hm; repeat (first | contradiction | (rcases hm with hm | hm))))
  all_goals (refine WC.unroll hX ?_)
  refine QN hX ?_;refine QK (QF ?_ ?_);intro hh;refine QL ?_;refine QU hX ?_;refine QR hX ?_;refine UA ?_;refine QU hX ?_;refine WC.block hX ?_;refine QN hX ?_;refine QK ?_;rotate_left;intro hh;exfalso;omega;refine QN hX ?_;refine QK (QF ?_ ?_);intro hh;refine QL ?_;refine QU hX ?_;refine QR hX ?_;refine UA ?_;refine QU hX ?_;refine WC.block hX ?_;refine QN hX ?_;refine QK ?_;rotate_left;intro hh;exfalso;omega
  all_goals (apply WS.index (v := .int .i64 1); (· rfl); (· rfl); (· exact Wwev); (· exact Wwev); (· rfl))
  refine QK (Qb ?_);refine QL ?_;refine QU hX ?_;refine QN hX ?_;refine QK (Qa ?_);refine QK (Qr ?_);refine QK (Qa ?_);refine QK (QF ?_ ?_);intro hh;refine QQ hX ?_;refine WC.exit ?_;refine exit_here ?_;refine QV hX ?_;refine QK (Qf ?_);refine QK (Qa ?_);refine QL ?_;rotate_left;intro hh;refine QP hX ?_;refine UA ?_;refine QN hX ?_;refine QK (Qa ?_);refine QK (Qa ?_);refine QK (WS.sliceShi (hk := ?_));refine QK (Qb ?_);refine QO hX ?_;refine QK (Qa ?_);refine QL ?_;refine WC.block hX ?_;refine QU hX ?_;refine WC.block hX ?_;refine WC.block hX ?_;refine QU hX ?_;refine QU hX ?_;refine QU hX ?_;refine QN hX ?_;refine QK (QB ?_ ?_);intro hh;refine QK (Qb ?_);refine QQ hX ?_;refine UA ?_;refine QR hX ?_;refine WC.exit ?_;refine exit_here ?_;refine QU hX ?_;refine QN hX ?_;refine QK (Qa ?_);refine QK (Qb ?_);refine QM ?_;rotate_left;intro hh;refine QK (Qb ?_);refine QP hX ?_;refine QN hX ?_;refine QK (QB ?_ ?_);intro hh;refine QK (Qb ?_);refine QQ hX ?_;refine UA ?_;refine QR hX ?_;refine WC.exit ?_;refine exit_here ?_;refine QU hX ?_;refine QN hX ?_;refine QK (Qa ?_);refine QK (Qb ?_);refine QM ?_;rotate_left;intro hh;refine QK (Qb ?_);refine QP hX ?_;refine QN hX ?_;refine QK (QB ?_ ?_);intro hh;refine QK (Qb ?_);refine QQ hX ?_;refine UA ?_;refine QR hX ?_;refine WC.exit ?_;refine exit_here ?_;refine QU hX ?_;refine QN hX ?_;refine QK (Qa ?_);refine QK (Qb ?_);refine QM ?_;rotate_left;intro hh;refine QK (Qb ?_);refine QP hX ?_;refine QN hX ?_;refine QK (QB ?_ ?_);intro hh;refine QK (Qb ?_);refine QQ hX ?_;refine UA ?_;refine QR hX ?_;refine WC.exit ?_;refine exit_here ?_;refine QU hX ?_;refine QN hX ?_;refine QK (Qa ?_);refine QK (Qb ?_);refine QM ?_;rotate_left;intro hh;refine QK (Qb ?_);refine QP hX ?_;refine QN hX ?_;refine QK (QB ?_ ?_);intro hh;refine QK (Qb ?_);refine QQ hX ?_;refine UA ?_;refine QR hX ?_;refine WC.exit ?_;refine exit_here ?_;refine QU hX ?_;refine QN hX ?_;refine QK (Qa ?_);refine QK (Qb ?_);refine QM ?_;rotate_left;intro hh;refine QK (Qb ?_);refine QP hX ?_;refine QN hX ?_;refine QK (QB ?_ ?_);intro hh;refine QK (Qb ?_);refine QQ hX ?_;refine UA ?_;refine QR hX ?_;refine WC.exit ?_;refine exit_here ?_;refine QU hX ?_;refine QN hX ?_;refine QK (Qa ?_);refine QK (Qb ?_);refine QM ?_;rotate_left;intro hh;refine QK (Qb ?_);refine QP hX ?_;refine QN hX ?_;refine QK (QB ?_ ?_);intro hh;refine QK (Qb ?_);refine QQ hX ?_;refine UA ?_;refine QR hX ?_;refine WC.exit ?_;refine exit_here ?_;refine QU hX ?_;refine QN hX ?_;refine QK (Qa ?_);refine QK (Qb ?_);refine QM ?_;rotate_left;intro hh;refine QK (Qb ?_);refine QP hX ?_;refine QN hX ?_;refine QK (QB ?_ ?_);intro hh;refine QK (Qb ?_);refine QQ hX ?_;refine UA ?_;refine QR hX ?_;refine WC.exit ?_;refine exit_here ?_;refine QU hX ?_;refine QN hX ?_;refine QK (Qa ?_);refine QK (Qb ?_);refine QM ?_;rotate_left;intro hh;refine QK (Qb ?_);refine QP hX ?_;refine QN hX ?_;refine QK (QB ?_ ?_);intro hh;refine QK (Qb ?_);refine QQ hX ?_;refine UA ?_;refine QR hX ?_;refine WC.exit ?_;refine exit_here ?_;refine QU hX ?_;refine QN hX ?_;refine QK (Qa ?_);refine QK (Qb ?_);refine QM ?_;rotate_left;intro hh;refine QK (Qb ?_);refine QP hX ?_;refine QN hX ?_;refine QK (QB ?_ ?_);intro hh;refine QK (Qb ?_);refine QQ hX ?_;refine UA ?_;refine QR hX ?_;refine WC.exit ?_;refine exit_here ?_;refine QU hX ?_;refine QN hX ?_;refine QK (Qa ?_);refine QK (Qb ?_);refine QM ?_;rotate_left;intro hh;refine QK (Qb ?_);refine QP hX ?_;refine QN hX ?_;refine QK (QB ?_ ?_);intro hh;refine QK (Qb ?_);refine QQ hX ?_;refine UA ?_;refine QR hX ?_;refine WC.exit ?_;refine exit_here ?_;refine QU hX ?_;refine QN hX ?_;refine QK (Qa ?_);refine QK (Qb ?_);refine QM ?_;rotate_left;intro hh;refine QK (Qb ?_);refine QP hX ?_;refine QN hX ?_;refine QK (QB ?_ ?_);intro hh;refine QK (Qb ?_);refine QQ hX ?_;refine UA ?_;refine QR hX ?_;refine WC.exit ?_;refine exit_here ?_;refine QU hX ?_;refine QN hX ?_;refine QK (Qa ?_);refine QK (Qb ?_);refine QM ?_;rotate_left;intro hh;refine QK (Qb ?_);refine QP hX ?_;refine QV hX ?_;refine QK (QB ?_ ?_);intro hh;refine QK (Qb ?_);refine QQ hX ?_;refine WC.exit ?_;refine exit_here ?_;refine QU hX ?_;refine QN hX ?_;refine QK (Qa ?_);refine QK (Qb ?_);refine QM ?_;rotate_left;intro hh;refine QK (Qb ?_);refine QP hX ?_;refine UA ?_;refine QU hX ?_;refine QN hX ?_;refine QK (QB ?_ ?_);intro hh;refine QK (Qb ?_);refine QQ hX ?_;refine UA ?_;refine QR hX ?_;refine WC.exit ?_;refine exit_up rfl ?_;refine exit_here ?_;refine QU hX ?_;refine QN hX ?_;refine QK (Qa ?_);refine QK (Qb ?_);refine QM ?_;rotate_left;intro hh;refine QK (Qb ?_);refine QP hX ?_;refine QN hX ?_;refine QK (QB ?_ ?_);intro hh;refine QK (Qb ?_);refine QQ hX ?_;refine UA ?_;refine QR hX ?_;refine WC.exit ?_;refine exit_up rfl ?_;refine exit_here ?_;refine QU hX ?_;refine QN hX ?_;refine QK (Qa ?_);refine QK (Qb ?_);refine QM ?_;rotate_left;intro hh;refine QK (Qb ?_);refine QP hX ?_;refine QN hX ?_;refine QK (QB ?_ ?_);intro hh;refine QK (Qb ?_);refine QQ hX ?_;refine UA ?_;refine QR hX ?_;refine WC.exit ?_;refine exit_up rfl ?_;refine exit_here ?_;refine QU hX ?_;refine QN hX ?_;refine QK (Qa ?_);refine QK (Qb ?_);refine QM ?_;rotate_left;intro hh;refine QK (Qb ?_);refine QP hX ?_;refine QN hX ?_;refine QK (QB ?_ ?_);intro hh;refine QK (Qb ?_);refine QQ hX ?_;refine UA ?_;refine QR hX ?_;refine WC.exit ?_;refine exit_up rfl ?_;refine exit_here ?_;refine QU hX ?_;refine QN hX ?_;refine QK (Qa ?_);refine QK (Qb ?_);refine QM ?_;rotate_left;intro hh;refine QK (Qb ?_);refine QP hX ?_;refine QN hX ?_;refine QK (QB ?_ ?_);intro hh;refine QK (Qb ?_);refine QQ hX ?_;refine UA ?_;refine QR hX ?_;refine WC.exit ?_;refine exit_up rfl ?_;refine exit_here ?_;refine QU hX ?_;refine QN hX ?_;refine QK (Qa ?_);refine QK (Qb ?_);refine QM ?_;rotate_left;intro hh;refine QK (Qb ?_);refine QP hX ?_;refine QN hX ?_;refine QK (QB ?_ ?_);intro hh;refine QK (Qb ?_);refine QQ hX ?_;refine UA ?_;refine QR hX ?_;refine WC.exit ?_;refine exit_up rfl ?_;refine exit_here ?_;refine QU hX ?_;refine QN hX ?_;refine QK (Qa ?_);refine QK (Qb ?_);refine QM ?_;rotate_left;intro hh;refine QK (Qb ?_);refine QP hX ?_;refine QN hX ?_;refine QK (QB ?_ ?_);intro hh;refine QK (Qb ?_);refine QQ hX ?_;refine UA ?_;refine QR hX ?_;refine WC.exit ?_;refine exit_up rfl ?_;refine exit_here ?_;refine QU hX ?_;refine QN hX ?_;refine QK (Qa ?_);refine QK (Qb ?_);refine QM ?_;rotate_left;intro hh;refine QK (Qb ?_);refine QP hX ?_;refine QN hX ?_;refine QK (QB ?_ ?_);intro hh;refine QK (Qb ?_);refine QQ hX ?_;refine UA ?_;refine QR hX ?_;refine WC.exit ?_;refine exit_up rfl ?_;refine exit_here ?_;refine QU hX ?_;refine QN hX ?_;refine QK (Qa ?_);refine QK (Qb ?_);refine QM ?_;rotate_left;intro hh;refine QK (Qb ?_);refine QP hX ?_;refine QN hX ?_;refine QK (QB ?_ ?_);intro hh;refine QK (Qb ?_);refine QQ hX ?_;refine UA ?_;refine QR hX ?_;refine WC.exit ?_;refine exit_up rfl ?_;refine exit_here ?_;refine QU hX ?_;refine QN hX ?_;refine QK (Qa ?_);refine QK (Qb ?_);refine QM ?_;rotate_left;intro hh;refine QK (Qb ?_);refine QP hX ?_;refine QN hX ?_;refine QK (QB ?_ ?_);intro hh;refine QK (Qb ?_);refine QQ hX ?_;refine UA ?_;refine QR hX ?_;refine WC.exit ?_;refine exit_up rfl ?_;refine exit_here ?_;refine QU hX ?_;refine QN hX ?_;refine QK (Qa ?_);refine QK (Qb ?_);refine QM ?_;rotate_left;intro hh;refine QK (Qb ?_);refine QP hX ?_;refine QN hX ?_;refine QK (QB ?_ ?_);intro hh;refine QK (Qb ?_);refine QQ hX ?_;refine UA ?_;refine QR hX ?_;refine WC.exit ?_;refine exit_up rfl ?_;refine exit_here ?_;refine QU hX ?_;refine QN hX ?_;refine QK (Qa ?_);refine QK (Qb ?_);refine QM ?_;rotate_left;intro hh;refine QK (Qb ?_);refine QP hX ?_;refine QN hX ?_;refine QK (QB ?_ ?_);intro hh;refine QK (Qb ?_);refine QQ hX ?_;refine UA ?_;refine QR hX ?_;refine WC.exit ?_;refine exit_up rfl ?_;refine exit_here ?_;refine QU hX ?_;refine QN hX ?_;refine QK (Qa ?_);refine QK (Qb ?_);refine QM ?_;rotate_left;intro hh;refine QK (Qb ?_);refine QP hX ?_;refine QN hX ?_;refine QK (QB ?_ ?_);intro hh;refine QK (Qb ?_);refine QQ hX ?_;refine UA ?_;refine QR hX ?_;refine WC.exit ?_;refine exit_up rfl ?_;refine exit_here ?_;refine QU hX ?_;refine QN hX ?_;refine QK (Qa ?_);refine QK (Qb ?_);refine QM ?_;rotate_left;intro hh;refine QK (Qb ?_);refine QP hX ?_;refine QN hX ?_;refine QK (QB ?_ ?_);intro hh;refine QK (Qb ?_);refine QQ hX ?_;refine UA ?_;refine QR hX ?_;refine WC.exit ?_;refine exit_up rfl ?_;refine exit_here ?_;refine QU hX ?_;refine QN hX ?_;refine QK (Qa ?_);refine QK (Qb ?_);refine QM ?_;rotate_left;intro hh;refine QK (Qb ?_);refine QP hX ?_;refine QN hX ?_;refine QK (QB ?_ ?_);intro hh;refine QK (Qb ?_);refine QQ hX ?_;refine UA ?_;refine QR hX ?_;refine WC.exit ?_;refine exit_up rfl ?_;refine exit_here ?_;refine QU hX ?_;refine QN hX ?_;refine QK (Qa ?_);refine QK (Qb ?_);refine QM ?_;rotate_left;intro hh;refine QK (Qb ?_);refine QP hX ?_;refine QN hX ?_;refine QK (QB ?_ ?_);intro hh;refine QK (Qb ?_);refine QQ hX ?_;refine UA ?_;refine QR hX ?_;refine WC.exit ?_;refine exit_up rfl ?_;refine exit_here ?_;refine QU hX ?_;refine QN hX ?_;refine QK (Qa ?_);refine QK (Qb ?_);refine QM ?_;rotate_left;intro hh;refine QK (Qb ?_);refine QP hX ?_;refine QN hX ?_;refine QK (QB ?_ ?_);intro hh;refine QK (Qb ?_);refine QQ hX ?_;refine UA ?_;refine QR hX ?_;refine WC.exit ?_;refine exit_up rfl ?_;refine exit_here ?_;refine QU hX ?_;refine QN hX ?_;refine QK (Qa ?_);refine QK (Qb ?_);refine QM ?_;rotate_left;intro hh;refine QK (Qb ?_);refine QP hX ?_;refine QN hX ?_;refine QK (QB ?_ ?_);intro hh;refine QK (Qb ?_);refine QQ hX ?_;refine UA ?_;refine QR hX ?_;refine WC.exit ?_;refine exit_up rfl ?_;refine exit_here ?_;refine QU hX ?_;refine QN hX ?_;refine QK (Qa ?_);refine QK (Qb ?_);refine QM ?_;rotate_left;intro hh;refine QK (Qb ?_);refine QP hX ?_;refine QN hX ?_;refine QK (QB ?_ ?_);intro hh;refine QK (Qb ?_);refine QQ hX ?_;refine UA ?_;refine QR hX ?_;refine WC.exit ?_;refine exit_up rfl ?_;refine exit_here ?_;refine QU hX ?_;refine QN hX ?_;refine QK (Qa ?_);refine QK (Qb ?_);refine QM ?_;rotate_left;intro hh;refine QK (Qb ?_);refine QP hX ?_;refine QV hX ?_;refine QK (QB ?_ ?_);intro hh;refine QK (Qb ?_);refine QQ hX ?_;refine WC.exit ?_;refine exit_up rfl ?_;refine exit_here ?_;refine QU hX ?_;refine QN hX ?_;refine QK (Qa ?_);refine QK (Qb ?_);refine QM ?_;rotate_left;intro hh;refine QK (Qb ?_);refine QP hX ?_;refine UA ?_;refine WC.exit ?_;refine exit_up rfl ?_;refine exit_up rfl ?_;refine exit_here ?_;refine QV hX ?_;refine QK (Qf ?_);refine QK (Qa ?_);refine QL ?_;rotate_left;refine QK (Qb ?_);refine QL ?_;refine QU hX ?_;refine QN hX ?_;refine QK (Qa ?_);refine QK (Qr ?_);refine QK (Qa ?_);refine QK (QF ?_ ?_);intro hh;exfalso;omega;intro hh;refine QP hX ?_;refine UA ?_;refine QN hX ?_;refine QK (Qa ?_);refine QK (Qa ?_);refine QK (WS.sliceShi (hk := ?_));refine QK (Qb ?_);refine QO hX ?_;refine QK (Qa ?_);refine QL ?_;refine WC.block hX ?_;refine QU hX ?_;refine WC.block hX ?_;refine WC.block hX ?_;refine QU hX ?_;refine QU hX ?_;refine QU hX ?_;refine QN hX ?_;refine QK (QB ?_ ?_);intro hh;refine QK (Qb ?_);refine QQ hX ?_;refine UA ?_;refine QR hX ?_;refine WC.exit ?_;refine exit_here ?_;refine QU hX ?_;refine QN hX ?_;refine QK (Qa ?_);refine QK (Qb ?_);refine QM ?_;rotate_left;intro hh;refine QK (Qb ?_);refine QP hX ?_;refine QN hX ?_;refine QK (QB ?_ ?_);intro hh;refine QK (Qb ?_);refine QQ hX ?_;refine UA ?_;refine QR hX ?_;refine WC.exit ?_;refine exit_here ?_;refine QU hX ?_;refine QN hX ?_;refine QK (Qa ?_);refine QK (Qb ?_);refine QM ?_;rotate_left;intro hh;refine QK (Qb ?_);refine QP hX ?_;refine QN hX ?_;refine QK (QB ?_ ?_);intro hh;refine QK (Qb ?_);refine QQ hX ?_;refine UA ?_;refine QR hX ?_;refine WC.exit ?_;refine exit_here ?_;refine QU hX ?_;refine QN hX ?_;refine QK (Qa ?_);refine QK (Qb ?_);refine QM ?_;rotate_left;intro hh;refine QK (Qb ?_);refine QP hX ?_;refine QN hX ?_;refine QK (QB ?_ ?_);intro hh;refine QK (Qb ?_);refine QQ hX ?_;refine UA ?_;refine QR hX ?_;refine WC.exit ?_;refine exit_here ?_;refine QU hX ?_;refine QN hX ?_;refine QK (Qa ?_);refine QK (Qb ?_);refine QM ?_;rotate_left;intro hh;refine QK (Qb ?_);refine QP hX ?_;refine QN hX ?_;refine QK (QB ?_ ?_);intro hh;refine QK (Qb ?_);refine QQ hX ?_;refine UA ?_;refine QR hX ?_;refine WC.exit ?_;refine exit_here ?_;refine QU hX ?_;refine QN hX ?_;refine QK (Qa ?_);refine QK (Qb ?_);refine QM ?_;rotate_left;intro hh;refine QK (Qb ?_);refine QP hX ?_;refine QN hX ?_;refine QK (QB ?_ ?_);intro hh;refine QK (Qb ?_);refine QQ hX ?_;refine UA ?_;refine QR hX ?_;refine WC.exit ?_;refine exit_here ?_;refine QU hX ?_;refine QN hX ?_;refine QK (Qa ?_);refine QK (Qb ?_);refine QM ?_;rotate_left;intro hh;refine QK (Qb ?_);refine QP hX ?_;refine QN hX ?_;refine QK (QB ?_ ?_);intro hh;refine QK (Qb ?_);refine QQ hX ?_;refine UA ?_;refine QR hX ?_;refine WC.exit ?_;refine exit_here ?_;refine QU hX ?_;refine QN hX ?_;refine QK (Qa ?_);refine QK (Qb ?_);refine QM ?_;rotate_left;intro hh;refine QK (Qb ?_);refine QP hX ?_;refine QN hX ?_;refine QK (QB ?_ ?_);intro hh;refine QK (Qb ?_);refine QQ hX ?_;refine UA ?_;refine QR hX ?_;refine WC.exit ?_;refine exit_here ?_;refine QU hX ?_;refine QN hX ?_;refine QK (Qa ?_);refine QK (Qb ?_);refine QM ?_;rotate_left;intro hh;refine QK (Qb ?_);refine QP hX ?_;refine QN hX ?_;refine QK (QB ?_ ?_);intro hh;refine QK (Qb ?_);refine QQ hX ?_;refine UA ?_;refine QR hX ?_;refine WC.exit ?_;refine exit_here ?_;refine QU hX ?_;refine QN hX ?_;refine QK (Qa ?_);refine QK (Qb ?_);refine QM ?_;rotate_left;intro hh;refine QK (Qb ?_);refine QP hX ?_;refine QN hX ?_;refine QK (QB ?_ ?_);intro hh;refine QK (Qb ?_);refine QQ hX ?_;refine UA ?_;refine QR hX ?_;refine WC.exit ?_;refine exit_here ?_;refine QU hX ?_;refine QN hX ?_;refine QK (Qa ?_);refine QK (Qb ?_);refine QM ?_;rotate_left;intro hh;refine QK (Qb ?_);refine QP hX ?_;refine QN hX ?_;refine QK (QB ?_ ?_);intro hh;refine QK (Qb ?_);refine QQ hX ?_;refine UA ?_;refine QR hX ?_;refine WC.exit ?_;refine exit_here ?_;refine QU hX ?_;refine QN hX ?_;refine QK (Qa ?_);refine QK (Qb ?_);refine QM ?_;rotate_left;intro hh;refine QK (Qb ?_);refine QP hX ?_;refine QN hX ?_;refine QK (QB ?_ ?_);intro hh;refine QK (Qb ?_);refine QQ hX ?_;refine UA ?_;refine QR hX ?_;refine WC.exit ?_;refine exit_here ?_;refine QU hX ?_;refine QN hX ?_;refine QK (Qa ?_);refine QK (Qb ?_);refine QM ?_;rotate_left;intro hh;refine QK (Qb ?_);refine QP hX ?_;refine QV hX ?_;refine QK (QB ?_ ?_);intro hh;refine QK (Qb ?_);refine QQ hX ?_;refine WC.exit ?_;refine exit_here ?_;refine QU hX ?_;refine QN hX ?_;refine QK (Qa ?_);refine QK (Qb ?_);refine QM ?_;rotate_left;intro hh;refine QK (Qb ?_);refine QP hX ?_;refine UA ?_;refine QU hX ?_;refine QN hX ?_;refine QK (QB ?_ ?_);intro hh;refine QK (Qb ?_);refine QQ hX ?_;refine UA ?_;refine QR hX ?_;refine WC.exit ?_;refine exit_up rfl ?_;refine exit_here ?_;refine QU hX ?_;refine QN hX ?_;refine QK (Qa ?_);refine QK (Qb ?_);refine QM ?_;rotate_left;intro hh;refine QK (Qb ?_);refine QP hX ?_;refine QN hX ?_;refine QK (QB ?_ ?_);intro hh;refine QK (Qb ?_);refine QQ hX ?_;refine UA ?_;refine QR hX ?_;refine WC.exit ?_;refine exit_up rfl ?_;refine exit_here ?_;refine QU hX ?_;refine QN hX ?_;refine QK (Qa ?_);refine QK (Qb ?_);refine QM ?_;rotate_left;intro hh;refine QK (Qb ?_);refine QP hX ?_;refine QN hX ?_;refine QK (QB ?_ ?_);intro hh;refine QK (Qb ?_);refine QQ hX ?_;refine UA ?_;refine QR hX ?_;refine WC.exit ?_;refine exit_up rfl ?_;refine exit_here ?_;refine QU hX ?_;refine QN hX ?_;refine QK (Qa ?_);refine QK (Qb ?_);refine QM ?_;rotate_left;intro hh;refine QK (Qb ?_);refine QP hX ?_;refine QN hX ?_;refine QK (QB ?_ ?_);intro hh;refine QK (Qb ?_);refine QQ hX ?_;refine UA ?_;refine QR hX ?_;refine WC.exit ?_;refine exit_up rfl ?_;refine exit_here ?_;refine QU hX ?_;refine QN hX ?_;refine QK (Qa ?_);refine QK (Qb ?_);refine QM ?_;rotate_left;intro hh;refine QK (Qb ?_);refine QP hX ?_;refine QN hX ?_;refine QK (QB ?_ ?_);intro hh;refine QK (Qb ?_);refine QQ hX ?_;refine UA ?_;refine QR hX ?_;refine WC.exit ?_;refine exit_up rfl ?_;refine exit_here ?_;refine QU hX ?_;refine QN hX ?_;refine QK (Qa ?_);refine QK (Qb ?_);refine QM ?_;rotate_left;intro hh;refine QK (Qb ?_);refine QP hX ?_;refine QN hX ?_;refine QK (QB ?_ ?_);intro hh;refine QK (Qb ?_);refine QQ hX ?_;refine UA ?_;refine QR hX ?_;refine WC.exit ?_;refine exit_up rfl ?_;refine exit_here ?_;refine QU hX ?_;refine QN hX ?_;refine QK (Qa ?_);refine QK (Qb ?_);refine QM ?_;rotate_left;intro hh;refine QK (Qb ?_);refine QP hX ?_;refine QN hX ?_;refine QK (QB ?_ ?_);intro hh;refine QK (Qb ?_);refine QQ hX ?_;refine UA ?_;refine QR hX ?_;refine WC.exit ?_;refine exit_up rfl ?_;refine exit_here ?_;refine QU hX ?_;refine QN hX ?_;refine QK (Qa ?_);refine QK (Qb ?_);refine QM ?_;rotate_left;intro hh;refine QK (Qb ?_);refine QP hX ?_;refine QN hX ?_;refine QK (QB ?_ ?_);intro hh;refine QK (Qb ?_);refine QQ hX ?_;refine UA ?_;refine QR hX ?_;refine WC.exit ?_;refine exit_up rfl ?_;refine exit_here ?_;refine QU hX ?_;refine QN hX ?_;refine QK (Qa ?_);refine QK (Qb ?_);refine QM ?_;rotate_left;intro hh;refine QK (Qb ?_);refine QP hX ?_;refine QN hX ?_;refine QK (QB ?_ ?_);intro hh;refine QK (Qb ?_);refine QQ hX ?_;refine UA ?_;refine QR hX ?_;refine WC.exit ?_;refine exit_up rfl ?_;refine exit_here ?_;refine QU hX ?_;refine QN hX ?_;refine QK (Qa ?_);refine QK (Qb ?_);refine QM ?_;rotate_left;intro hh;refine QK (Qb ?_);refine QP hX ?_;refine QN hX ?_;refine QK (QB ?_ ?_);intro hh;refine QK (Qb ?_);refine QQ hX ?_;refine UA ?_;refine QR hX ?_;refine WC.exit ?_;refine exit_up rfl ?_;refine exit_here ?_;refine QU hX ?_;refine QN hX ?_;refine QK (Qa ?_);refine QK (Qb ?_);refine QM ?_;rotate_left;intro hh;refine QK (Qb ?_);refine QP hX ?_;refine QN hX ?_;refine QK (QB ?_ ?_);intro hh;refine QK (Qb ?_);refine QQ hX ?_;refine UA ?_;refine QR hX ?_;refine WC.exit ?_;refine exit_up rfl ?_;refine exit_here ?_;refine QU hX ?_;refine QN hX ?_;refine QK (Qa ?_);refine QK (Qb ?_);refine QM ?_;rotate_left;intro hh;refine QK (Qb ?_);refine QP hX ?_;refine QN hX ?_;refine QK (QB ?_ ?_);intro hh;refine QK (Qb ?_);refine QQ hX ?_;refine UA ?_;refine QR hX ?_;refine WC.exit ?_;refine exit_up rfl ?_;refine exit_here ?_;refine QU hX ?_;refine QN hX ?_;refine QK (Qa ?_);refine QK (Qb ?_);refine QM ?_;rotate_left;intro hh;refine QK (Qb ?_);refine QP hX ?_;refine QN hX ?_;refine QK (QB ?_ ?_);intro hh;refine QK (Qb ?_);refine QQ hX ?_;refine UA ?_;refine QR hX ?_;refine WC.exit ?_;refine exit_up rfl ?_;refine exit_here ?_;refine QU hX ?_;refine QN hX ?_;refine QK (Qa ?_);refine QK (Qb ?_);refine QM ?_;rotate_left;intro hh;refine QK (Qb ?_);refine QP hX ?_;refine QN hX ?_;refine QK (QB ?_ ?_);intro hh;refine QK (Qb ?_);refine QQ hX ?_;refine UA ?_;refine QR hX ?_;refine WC.exit ?_;refine exit_up rfl ?_;refine exit_here ?_;refine QU hX ?_;refine QN hX ?_;refine QK (Qa ?_);refine QK (Qb ?_);refine QM ?_;rotate_left;intro hh;refine QK (Qb ?_);refine QP hX ?_;refine QN hX ?_;refine QK (QB ?_ ?_);intro hh;refine QK (Qb ?_);refine QQ hX ?_;refine UA ?_;refine QR hX ?_;refine WC.exit ?_;refine exit_up rfl ?_;refine exit_here ?_;refine QU hX ?_;refine QN hX ?_;refine QK (Qa ?_);refine QK (Qb ?_);refine QM ?_;rotate_left;intro hh;refine QK (Qb ?_);refine QP hX ?_;refine QN hX ?_;refine QK (QB ?_ ?_);intro hh;refine QK (Qb ?_);refine QQ hX ?_;refine UA ?_;refine QR hX ?_;refine WC.exit ?_;refine exit_up rfl ?_;refine exit_here ?_;refine QU hX ?_;refine QN hX ?_;refine QK (Qa ?_);refine QK (Qb ?_);refine QM ?_;rotate_left;intro hh;refine QK (Qb ?_);refine QP hX ?_;refine QN hX ?_;refine QK (QB ?_ ?_);intro hh;refine QK (Qb ?_);refine QQ hX ?_;refine UA ?_;refine QR hX ?_;refine WC.exit ?_;refine exit_up rfl ?_;refine exit_here ?_;refine QU hX ?_;refine QN hX ?_;refine QK (Qa ?_);refine QK (Qb ?_);refine QM ?_;rotate_left;intro hh;refine QK (Qb ?_);refine QP hX ?_;refine QN hX ?_;refine QK (QB ?_ ?_);intro hh;refine QK (Qb ?_);refine QQ hX ?_;refine UA ?_;refine QR hX ?_;refine WC.exit ?_;refine exit_up rfl ?_;refine exit_here ?_;refine QU hX ?_;refine QN hX ?_;refine QK (Qa ?_);refine QK (Qb ?_);refine QM ?_;rotate_left;intro hh;refine QK (Qb ?_);refine QP hX ?_;refine QN hX ?_;refine QK (QB ?_ ?_);intro hh;refine QK (Qb ?_);refine QQ hX ?_;refine UA ?_;refine QR hX ?_;refine WC.exit ?_;refine exit_up rfl ?_;refine exit_here ?_;refine QU hX ?_;refine QN hX ?_;refine QK (Qa ?_);refine QK (Qb ?_);refine QM ?_;rotate_left;intro hh;refine QK (Qb ?_);refine QP hX ?_;refine QV hX ?_;refine QK (QB ?_ ?_);intro hh;refine QK (Qb ?_);refine QQ hX ?_;refine WC.exit ?_;refine exit_up rfl ?_;refine exit_here ?_;refine QU hX ?_;refine QN hX ?_;refine QK (Qa ?_);refine QK (Qb ?_);refine QM ?_;rotate_left;intro hh;refine QK (Qb ?_);refine QP hX ?_;refine UA ?_;refine WC.exit ?_;refine exit_up rfl ?_;refine exit_up rfl ?_;refine exit_here ?_;refine QV hX ?_;refine QK (Qf ?_);refine QK (Qa ?_);refine QL ?_;rotate_left
  all_goals (try (
    have hm : inS marks (bsub s 0 1) = true := by rw [hh]; decide +kernel
    have he : markOf s = bsub s 0 1 := by unfold markOf; rw [if_neg hno, if_pos ⟨by omega, hm⟩]
    rw [he] at hq
    exact ⟨_, rfl, hq⟩))
  all_goals (have hno1 : ¬(1 ≤ s.size ∧ inS marks (bsub s 0 1) = true) := by
               first
                 | omega
                 | (intro hc; have hm := inS_iff.1 hc.2; simp only [marks, List.mem_cons, List.not_mem_nil, or_false] at hm; repeat (first | contradiction | (rcases hm with hm | hm))))
  all_goals (refine WC.unroll hX ?_)
  refine QN hX ?_;refine QK (QF ?_ ?_);intro hh;exfalso;omega;intro hh;refine QL ?_;refine QU hX ?_;refine QS hX ?_;refine WC.exit ?_;refine exit_here ?_;refine QN hX ?_;refine QK (Qb ?_);refine QM ?_;rotate_left;refine QN hX ?_;refine QK (QF ?_ ?_);intro hh;exfalso;omega;intro hh;refine QL ?_;refine QU hX ?_;refine QS hX ?_;refine WC.exit ?_;refine exit_here ?_;refine QN hX ?_;refine QK (Qb ?_);refine QM ?_;rotate_left;refine QN hX ?_;refine QK (QF ?_ ?_);intro hh;exfalso;omega;intro hh;refine QL ?_;refine QU hX ?_;refine QS hX ?_;refine WC.exit ?_;refine exit_here ?_;refine QN hX ?_;refine QK (Qb ?_);refine QM ?_;rotate_left
  all_goals (
    have he : markOf s = .empty := by unfold markOf; rw [if_neg hno, if_neg hno1]
    rw [he] at hq
    exact ⟨_, rfl, hq⟩)

end Go.Proofs.ZL
end
