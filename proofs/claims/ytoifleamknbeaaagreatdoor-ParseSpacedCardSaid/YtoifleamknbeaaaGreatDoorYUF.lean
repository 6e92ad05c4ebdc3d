/- The document's answer: the token that stands at a place, the walk. -/
import Derived.Test.YtoifleamknbeaaaGreatDoorYUE
open Go Go.Am
namespace Go.Proofs.ZL
set_option maxRecDepth 100000
set_option linter.unusedSimpArgs false
set_option linter.unusedVariables false
set_option maxHeartbeats 1000000

theorem ok_words : okW (⟨#[32, 97, 112, 112, 101, 110, 100, 32, 98, 111, 111, 108, 32, 98, 114, 101, 97, 107, 32, 99, 97, 112, 32, 99, 97, 115, 101, 32, 99, 104, 97, 110, 32, 99, 108, 111, 115, 101, 32, 99, 111, 110, 116, 105, 110, 117, 101, 32, 100, 101, 102, 97, 117, 108, 116, 32, 100, 101, 102, 101, 114, 32, 101, 108, 115, 101, 32, 102, 97, 108, 108, 116, 104, 114, 111, 117, 103, 104, 32, 102, 97, 108, 115, 101, 32, 102, 111, 114, 32, 102, 117, 110, 99, 32, 103, 111, 32, 105, 102, 32, 105, 110, 116, 32, 108, 101, 110, 32, 109, 97, 107, 101, 32, 110, 101, 119, 32, 110, 105, 108, 32, 112, 97, 110, 105, 99, 32, 112, 114, 105, 110, 116, 32, 114, 101, 99, 111, 118, 101, 114, 32, 114, 101, 116, 117, 114, 110, 32, 115, 101, 108, 101, 99, 116, 32, 115, 116, 114, 105, 110, 103, 32, 115, 116, 114, 117, 99, 116, 32, 115, 119, 105, 116, 99, 104, 32, 116, 114, 117, 101, 32, 116, 121, 112, 101, 32, 118, 97, 114, 32]⟩ : ByteArray) words = true := by decide +kernel
theorem ok_twos : okW (⟨#[32, 58, 61, 32, 61, 61, 32, 33, 61, 32, 60, 61, 32, 62, 61, 32, 38, 38, 32, 124, 124, 32, 60, 45, 32, 43, 43, 32, 45, 45, 32, 43, 61, 32, 45, 61, 32, 42, 61, 32]⟩ : ByteArray) twos = true := by decide +kernel
theorem ok_ones : okW (⟨#[32, 40, 32, 41, 32, 91, 32, 93, 32, 123, 32, 125, 32, 44, 32, 59, 32, 58, 32, 46, 32, 61, 32, 60, 32, 62, 32, 43, 32, 45, 32, 42, 32, 47, 32, 37, 32, 33, 32, 38, 32]⟩ : ByteArray) ones = true := by decide +kernel
theorem ok_32 : (List.range (⟨#[32, 58, 61, 32, 61, 61, 32, 33, 61, 32, 60, 61, 32, 62, 61, 32, 38, 38, 32, 124, 124, 32, 60, 45, 32, 43, 43, 32, 45, 45, 32, 43, 61, 32, 45, 61, 32, 42, 61, 32]⟩ : ByteArray).data.toList.length).all (fun i => decide (((⟨#[32, 58, 61, 32, 61, 61, 32, 33, 61, 32, 60, 61, 32, 62, 61, 32, 38, 38, 32, 124, 124, 32, 60, 45, 32, 43, 43, 32, 45, 45, 32, 43, 61, 32, 45, 61, 32, 42, 61, 32]⟩ : ByteArray).data.toList.drop i).take 2 ≠ [32, 32])) = true := by decide +kernel
theorem twos_no32 : twos.all (fun m => m.data.toList.all (fun b => decide (b ≠ 32))) = true := by decide +kernel

theorem in2_w {src : ByteArray} {k : Nat} (h2 : k + 2 ≤ src.size) (hb : byteN src k ≠ 32) (hz : src.size ≤ 100000) {h : Heap} {Q : ARes → Prop} (hq : Q (.ret (.bool (inS twos (sub src k 2))) h)) : WCall Tryz.prog G X 27 [.string (sub src k 2), .string (⟨#[32, 58, 61, 32, 61, 61, 32, 33, 61, 32, 60, 61, 32, 62, 61, 32, 38, 38, 32, 124, 124, 32, 60, 45, 32, 43, 43, 32, 45, 45, 32, 43, 61, 32, 45, 61, 32, 42, 61, 32]⟩ : ByteArray)] h Q := by
 have hs := sub_size h2
 rcases sub2_cases h2 hb with hn | ⟨a, ha⟩
 ·exact in_w ok_twos hn (by decide) (by omega) hq
 ·have hf : inS twos (sub src k 2) = false := by
   rw [← Bool.not_eq_true, inS_iff]
   intro hm
   have := List.all_eq_true.1 twos_no32 _ hm
   rw [ha] at this
   simp at this
  rw [hf] at hq
  exact in_w32 ha ok_32 (by decide) (by omega) hq

theorem sub1_list {src : ByteArray} {k : Nat} (hk : k < src.size) : ∃ c : UInt8, (sub src k 1).data.toList = [c] ∧ byteN src k = c.toNat := by
 obtain ⟨a, ha, va⟩ := byteN_get hk
 refine ⟨a, ?_, va⟩
 rw [sub_list]
 refine List.ext_getElem? fun i => ?_
 rw [List.getElem?_take]
 rcases i with _ | i
 ·rw [if_pos (by omega), List.getElem?_drop, Nat.add_zero, ha]; rfl
 ·rw [if_neg (by omega)]; rfl
theorem noB_one {src : ByteArray} {k : Nat} (hk : k < src.size) (hb : byteN src k ≠ 32) : noB (sub src k 1) := fun b hm e => by
 obtain ⟨c, h1, h2⟩ := sub1_list hk
 rw [h1, List.mem_singleton] at hm
 rw [h2, ← hm, e] at hb
 exact hb rfl
theorem ones_range {src : ByteArray} {k : Nat} (hk : k < src.size) (h : inS ones (sub src k 1) = true) : 32 < byteN src k ∧ byteN src k < 127 := by
 obtain ⟨c, h1, h2⟩ := sub1_list hk
 rw [in_ones (sub_size (by omega))] at h
 have := List.all_eq_true.1 marks_bytes _ (inS_iff.1 h)
 rw [Bool.and_eq_true] at this
 have := of_decide_eq_true (List.all_eq_true.1 this.2 c (by rw [h1]; exact List.mem_singleton.2 rfl))
 rw [h2]; omega

theorem rToken_w {src : ByteArray} {k : Nat} (hk : k < src.size) (hz : src.size ≤ 100000) (hb : byteN src k ≠ 32 ∧ byteN src k ≠ 9 ∧ byteN src k ≠ 10) (hsl : slashes src k = false) {h : Heap} {Q : ARes → Prop} (hq : ∀ h' v, Gr h h' → TokAns k (nextS src k []) v → Q (.ret v h')) :
  WCall Tryz.prog G X 26 [.string src, .int .i64 k] h Q := by
 have hN : nextS src k [] = nextS src k [] := rfl
 conv at hN => rhs; unfold nextS
 rw [if_neg (by omega), if_neg (by omega), hsl, if_neg Bool.false_ne_true] at hN
 have hrl := runN_le (p := alnumN) (Nat.le_of_lt hk)
 have hsz := sub_size hrl
 refine WCall.walk hX Tryz.func26 rfl rfl Tryz.ntmps26 rfl ?_
 refine QN hX ?_;refine QK (Qw ?_);refine QK (Qb ?_);refine QK (Qb ?_);refine QO hX ?_;refine QK (Qa ?_);refine QK (Qa ?_);refine QK (Qm ?_);refine QK (Qb ?_);refine QL ?_;refine QU hX ?_;refine QN hX ?_;refine QK (Qa ?_);refine QK ?_
 refine QJ en43 ?_
 refine rLetter_w ?_
 cases hL : letterN (byteN src k)
 ·rw [hL, if_neg Bool.false_ne_true] at hN
  refine QP hX ?_;refine UA ?_;refine QU hX ?_;refine QN hX ?_;refine QK (Qa ?_);refine QK ?_
  refine QJ en45 ?_
  refine rDigit_w ?_
  cases hD : digitN (byteN src k)
  ·rw [hD, if_neg Bool.false_ne_true] at hN
   refine QP hX ?_;refine UA ?_;refine QU hX ?_;refine QN hX ?_;refine QK (Qa ?_);refine QK (QD ?_ ?_);intro hh;refine QQ hX ?_;refine QN hX ?_;refine QK (Qa ?_);refine QK (Qa ?_);refine QK ?_;rotate_left;intro hh;refine QP hX ?_;refine UA ?_;refine QU hX ?_;refine QN hX ?_;refine QK (Qa ?_);refine QK (Qf ?_);refine QK (Qa ?_);refine QK (Qr ?_);refine QK (QG ?_ ?_);intro hh;refine QK (Qa ?_);refine QK (Qa ?_);refine QK (Qa ?_);refine QK (Qa ?_);refine QK (Qf ?_);refine QK (WS.sliceS (hk := ?_));refine QK ?_;rotate_left;intro hh;refine QK (Qa ?_);refine QK (QA ?_);refine QK (QA ?_);refine QK (QA ?_);refine QK (QA ?_);refine QK (QA ?_);refine QK (QA ?_);refine QK (Qd ?_);refine QP hX ?_;refine UA ?_;refine QU hX ?_;refine QN hX ?_;refine QK (Qa ?_);refine QK (QH ?_ ?_);intro hh;refine QK (Qa ?_);refine QK (Qa ?_);refine QK (QF ?_ ?_);intro hh;refine QK (Qc ?_);refine QK (Qa ?_);refine QK (Qa ?_);refine QK (Qa ?_);refine QK (Qa ?_);refine QK (Qf ?_);refine QK (WS.sliceS (hk := ?_));refine QK ?_;rotate_left;intro hh;refine QK (Qc ?_);refine QK (Qa ?_);refine QK (QA ?_);refine QK (QA ?_);refine QK (QA ?_);refine QK (QA ?_);refine QK (QA ?_);refine QK (QA ?_);refine QK (Qd ?_);refine QP hX ?_;refine UA ?_;refine QN hX ?_;refine QK (Qn ?_);refine QK (Qa ?_);refine QK (Qa ?_);refine QK (Qv ?_);refine QK (Qb ?_);refine QK (Qb ?_);refine QM ?_;rotate_left;intro hh;refine QK (Qa ?_);refine QK (QA ?_);refine QK (QA ?_);refine QK (Qd ?_);refine QK (Qa ?_);refine QK (QA ?_);refine QK (QA ?_);refine QK (QA ?_);refine QK (QA ?_);refine QK (QA ?_);refine QK (QA ?_);refine QK (Qd ?_);refine QP hX ?_;refine UA ?_;refine QN hX ?_;refine QK (Qn ?_);refine QK (Qa ?_);refine QK (Qa ?_);refine QK (Qv ?_);refine QK (Qb ?_);refine QK (Qb ?_);refine QM ?_;rotate_left
   ·rw [if_pos hh] at hN
    refine QJ en47 ?_
    refine rQuoted_w hk hz fun h1 v g1 ht => ?_
    have o1 : h1.obj h.next = some (.cells false [.int .i64 0, .string .empty, .int .i64 0, .int .i64 0]) := g1.at Wwne Wwobj
    have G1 : Gr h h1 := (show Gr h _ from Wwgr).trans g1
    rcases ht with ⟨t, p, e, rfl⟩ | ⟨e, rfl⟩
    ·refine QK (Qq ?_);refine QK (Qq ?_);refine QK (Qq ?_);refine QK (Qv ?_);refine QK (Qb ?_);refine QK (Qb ?_);refine QM ?_
     refine ⟨_, Wwres, ?_⟩
     exact hq _ _ Wwgr (.inl ⟨t, p, hN.trans e, rfl⟩)
    ·refine QK (Qq ?_);refine QK (Qq ?_);refine QK (Qq ?_);refine QK (Qv ?_);refine QK (Qb ?_);refine QK (Qb ?_);refine QM ?_
     refine ⟨_, Wwres, ?_⟩
     exact hq _ _ Wwgr (.inr (by rw [hN]; exact ⟨e, rfl⟩))
   ·rw [if_neg (by assumption)] at hN
    have s2 := sub_size (src := src) (k := k) (n := 2) (by omega)
    refine QJ en27 ?_
    refine in2_w (by omega) hb.1 hz ?_
    cases hT : inS twos (sub src k 2)
    ·have hTT : ¬ (k + 2 ≤ src.size ∧ inS twos (sub src k 2) = true) := fun hx => by rw [hT] at hx; cases hx.2
     refine QK (Qc ?_);refine QP hX ?_;refine UA ?_;refine QU hX ?_;refine QN hX ?_;refine QK (Qa ?_);refine QK (QH ?_ ?_);intro hh;refine QK (Qa ?_);refine QK (Qa ?_);refine QK (QF ?_ ?_);intro hh;refine QK (Qc ?_);refine QK (Qa ?_);refine QK (Qa ?_);refine QK (Qa ?_);refine QK (Qa ?_);refine QK (Qf ?_);refine QK (WS.sliceS (hk := ?_));refine QK ?_;rotate_left;intro hh;refine QK (Qc ?_);refine QK (Qa ?_);refine QK (QA ?_);refine QK (QA ?_);refine QK (QA ?_);refine QK (QA ?_);refine QK (QA ?_);refine QK (QA ?_);refine QK (Qd ?_);refine QP hX ?_;refine UA ?_;refine QN hX ?_;refine QK (Qn ?_);refine QK (Qa ?_);refine QK (Qa ?_);refine QK (Qv ?_);refine QK (Qb ?_);refine QK (Qb ?_);refine QM ?_;rotate_left;intro hh;refine QK (Qa ?_);refine QK (QA ?_);refine QK (QA ?_);refine QK (Qd ?_);refine QK (Qa ?_);refine QK (QA ?_);refine QK (QA ?_);refine QK (QA ?_);refine QK (QA ?_);refine QK (QA ?_);refine QK (QA ?_);refine QK (Qd ?_);refine QP hX ?_;refine UA ?_;refine QN hX ?_;refine QK (Qn ?_);refine QK (Qa ?_);refine QK (Qa ?_);refine QK (Qv ?_);refine QK (Qb ?_);refine QK (Qb ?_);refine QM ?_;rotate_left
     ·have s1 := sub_size (src := src) (k := k) (n := 1) (by omega)
      refine QJ en27 ?_
      refine in_w ok_ones (noB_one hk hb.1) (by decide) (by omega) ?_
      cases hO : inS ones (sub src k 1)
      ·have hM : markOf (rest src k) = (⟨#[]⟩ : ByteArray) := show markOf (rest src k) = .empty by rw [markOf_rest hk, if_neg (fun hx => hTT hx), hO, if_neg Bool.false_ne_true]
       rw [hM, if_pos rfl] at hN
       refine QK (Qc ?_);refine QP hX ?_;refine UA ?_;refine QN hX ?_;refine QK (Qn ?_);refine QK (Qa ?_);refine QK (Qa ?_);refine QK (Qv ?_);refine QK (Qb ?_);refine QK (Qb ?_);refine QM ?_
       refine ⟨_, Wwres, ?_⟩
       exact hq _ _ Wwgr (.inr (by rw [hN]; exact ⟨rfl, rfl⟩))
      ·have hM : markOf (rest src k) = sub src k 1 := by rw [markOf_rest hk, if_neg (fun hx => hTT hx), hO, if_pos rfl]
       rw [hM, if_neg (fun hx => by rw [hx] at s1; cases s1), s1] at hN
       refine QK (Qc ?_);refine QQ hX ?_;refine QN hX ?_;refine QK (Qa ?_);refine QK (Qa ?_);refine QK (Qa ?_);refine QK (Qf ?_);refine QK (WS.sliceS (hk := ?_));refine QK (Qa ?_);refine QK (Qn ?_);refine QK (Qa ?_);refine QK (Qf ?_);refine QK (Qv ?_);refine QK (Qb ?_);refine QK (Qb ?_);refine QM ?_
       refine ⟨_, Wwres, ?_⟩
       exact hq _ _ Wwgr (.inl ⟨_, _, hN, rfl⟩)
     ·have hM : markOf (rest src k) = (⟨#[]⟩ : ByteArray) := show markOf (rest src k) = .empty by rw [markOf_rest hk, if_neg (fun hx => hTT hx), if_neg (fun hx => by have := ones_range hk hx; omega)]
      rw [hM, if_pos rfl] at hN
      refine ⟨_, Wwres, ?_⟩
      exact hq _ _ Wwgr (.inr (by rw [hN]; exact ⟨rfl, rfl⟩))
     ·have hM : markOf (rest src k) = (⟨#[]⟩ : ByteArray) := show markOf (rest src k) = .empty by rw [markOf_rest hk, if_neg (fun hx => hTT hx), if_neg (fun hx => by have := ones_range hk hx; omega)]
      rw [hM, if_pos rfl] at hN
      refine ⟨_, Wwres, ?_⟩
      exact hq _ _ Wwgr (.inr (by rw [hN]; exact ⟨rfl, rfl⟩))
    ·have hM : markOf (rest src k) = sub src k 2 := by rw [markOf_rest hk, if_pos ⟨by omega, hT⟩]
     rw [hM, if_neg (fun hx => by rw [hx] at s2; cases s2), s2] at hN
     refine QK (Qc ?_);refine QQ hX ?_;refine QN hX ?_;refine QK (Qa ?_);refine QK (Qa ?_);refine QK (Qa ?_);refine QK (Qf ?_);refine QK (WS.sliceS (hk := ?_));refine QK (Qa ?_);refine QK (Qn ?_);refine QK (Qa ?_);refine QK (Qf ?_);refine QK (Qv ?_);refine QK (Qb ?_);refine QK (Qb ?_);refine QM ?_
     refine ⟨_, Wwres, ?_⟩
     exact hq _ _ Wwgr (.inl ⟨_, _, hN, rfl⟩)
   ·rw [if_neg (by assumption)] at hN
    have hTT : ¬ (k + 2 ≤ src.size ∧ inS twos (sub src k 2) = true) := fun hx => by omega
    have s1 := sub_size (src := src) (k := k) (n := 1) (by omega)
    refine QJ en27 ?_
    refine in_w ok_ones (noB_one hk hb.1) (by decide) (by omega) ?_
    cases hO : inS ones (sub src k 1)
    ·have hM : markOf (rest src k) = (⟨#[]⟩ : ByteArray) := show markOf (rest src k) = .empty by rw [markOf_rest hk, if_neg (fun hx => hTT hx), hO, if_neg Bool.false_ne_true]
     rw [hM, if_pos rfl] at hN
     refine QK (Qc ?_);refine QP hX ?_;refine UA ?_;refine QN hX ?_;refine QK (Qn ?_);refine QK (Qa ?_);refine QK (Qa ?_);refine QK (Qv ?_);refine QK (Qb ?_);refine QK (Qb ?_);refine QM ?_
     refine ⟨_, Wwres, ?_⟩
     exact hq _ _ Wwgr (.inr (by rw [hN]; exact ⟨rfl, rfl⟩))
    ·have hM : markOf (rest src k) = sub src k 1 := by rw [markOf_rest hk, if_neg (fun hx => hTT hx), hO, if_pos rfl]
     rw [hM, if_neg (fun hx => by rw [hx] at s1; cases s1), s1] at hN
     refine QK (Qc ?_);refine QQ hX ?_;refine QN hX ?_;refine QK (Qa ?_);refine QK (Qa ?_);refine QK (Qa ?_);refine QK (Qf ?_);refine QK (WS.sliceS (hk := ?_));refine QK (Qa ?_);refine QK (Qn ?_);refine QK (Qa ?_);refine QK (Qf ?_);refine QK (Qv ?_);refine QK (Qb ?_);refine QK (Qb ?_);refine QM ?_
     refine ⟨_, Wwres, ?_⟩
     exact hq _ _ Wwgr (.inl ⟨_, _, hN, rfl⟩)
   ·rw [if_neg (by assumption)] at hN
    have hTT : ¬ (k + 2 ≤ src.size ∧ inS twos (sub src k 2) = true) := fun hx => by omega
    have hM : markOf (rest src k) = (⟨#[]⟩ : ByteArray) := show markOf (rest src k) = .empty by rw [markOf_rest hk, if_neg (fun hx => hTT hx), if_neg (fun hx => by have := ones_range hk hx; omega)]
    rw [hM, if_pos rfl] at hN
    refine ⟨_, Wwres, ?_⟩
    exact hq _ _ Wwgr (.inr (by rw [hN]; exact ⟨rfl, rfl⟩))
   ·rw [if_neg (by assumption)] at hN
    have hTT : ¬ (k + 2 ≤ src.size ∧ inS twos (sub src k 2) = true) := fun hx => by omega
    have hM : markOf (rest src k) = (⟨#[]⟩ : ByteArray) := show markOf (rest src k) = .empty by rw [markOf_rest hk, if_neg (fun hx => hTT hx), if_neg (fun hx => by have := ones_range hk hx; omega)]
    rw [hM, if_pos rfl] at hN
    refine ⟨_, Wwres, ?_⟩
    exact hq _ _ Wwgr (.inr (by rw [hN]; exact ⟨rfl, rfl⟩))
  ·rw [hD, if_pos rfl] at hN
   refine QQ hX ?_;refine QN hX ?_;refine QK (Qa ?_);refine QK (Qa ?_);refine QK ?_
   refine QJ en46 ?_
   refine rNumber_w hk hD hz fun h1 v g1 ht => ?_
   have o1 : h1.obj h.next = some (.cells false [.int .i64 0, .string .empty, .int .i64 0, .int .i64 0]) := g1.at Wwne Wwobj
   have G1 : Gr h h1 := (show Gr h _ from Wwgr).trans g1
   rcases ht with ⟨t, p, e, rfl⟩ | ⟨e, rfl⟩
   ·refine QK (Qq ?_);refine QK (Qq ?_);refine QK (Qq ?_);refine QK (Qv ?_);refine QK (Qb ?_);refine QK (Qb ?_);refine QM ?_
    refine ⟨_, Wwres, ?_⟩
    exact hq _ _ Wwgr (.inl ⟨t, p, hN.trans e, rfl⟩)
   ·refine QK (Qq ?_);refine QK (Qq ?_);refine QK (Qq ?_);refine QK (Qv ?_);refine QK (Qb ?_);refine QK (Qb ?_);refine QM ?_
    refine ⟨_, Wwres, ?_⟩
    exact hq _ _ Wwgr (.inr (by rw [hN]; exact ⟨e, rfl⟩))
 ·rw [hL, if_pos rfl] at hN
  refine QQ hX ?_;refine QN hX ?_;refine QK (Qa ?_);refine QK (Qa ?_);refine QK ?_
  refine QJ en44 ?_
  refine rWord_w (Nat.le_of_lt hk) hz ?_
  unfold nameS at hN
  refine QK (Qb ?_);refine QL ?_;refine QU hX ?_;refine QN hX ?_;refine QK (Qa ?_);refine QK (Qa ?_);refine QK (Qg ?_);refine QK (QH ?_ ?_);intro hh;refine QQ hX ?_;refine QN hX ?_;refine QK (Qn ?_);refine QK (Qa ?_);refine QK (Qa ?_);refine QK (Qv ?_);refine QK (Qb ?_);refine QK (Qb ?_);refine QM ?_;rotate_left;intro hh;refine QP hX ?_;refine UA ?_;refine QN hX ?_;refine QK (Qb ?_);refine QL ?_;refine QU hX ?_;refine QN hX ?_;refine QK (Qa ?_);refine QK (Qa ?_);refine QK (Qa ?_);refine QK (WS.sliceS (hk := ?_));refine QK ?_;rotate_left
  ·rw [if_pos (by omega)] at hN
   refine ⟨_, Wwres, ?_⟩
   exact hq _ _ Wwgr (.inr (by rw [hN]; exact ⟨rfl, rfl⟩))
  ·rw [if_neg (by omega)] at hN
   refine QJ en27 ?_
   refine in_w ok_words (noB_run (Nat.le_of_lt hk)) (by decide) (by omega) ?_
   cases hW : inS words (sub src k (runN alnumN src k))
   ·rw [hW, if_neg Bool.false_ne_true] at hN
    refine QP hX ?_;refine UA ?_;refine QN hX ?_;refine QK (Qa ?_);refine QK (Qa ?_);refine QK (Qa ?_);refine QK (Qa ?_);refine QK (WS.sliceS (hk := ?_));refine QK (Qa ?_);refine QK (Qn ?_);refine QK (Qa ?_);refine QK (Qv ?_);refine QK (Qb ?_);refine QK (Qb ?_);refine QM ?_
    refine ⟨_, Wwres, ?_⟩
    exact hq _ _ Wwgr (.inl ⟨_, _, hN, rfl⟩)
   ·rw [hW, if_pos rfl] at hN
    refine QQ hX ?_;refine QV hX ?_;refine QK (Qb ?_);refine QO hX ?_;refine QK (Qa ?_);refine QK (Qa ?_);refine QK (Qa ?_);refine QK (Qa ?_);refine QK (WS.sliceS (hk := ?_));refine QK (Qa ?_);refine QK (Qn ?_);refine QK (Qa ?_);refine QK (Qv ?_);refine QK (Qb ?_);refine QK (Qb ?_);refine QM ?_
    refine ⟨_, Wwres, ?_⟩
    exact hq _ _ Wwgr (.inl ⟨_, _, hN, rfl⟩)

end Go.Proofs.ZL
