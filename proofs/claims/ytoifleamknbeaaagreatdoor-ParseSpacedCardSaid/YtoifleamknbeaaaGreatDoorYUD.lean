/- The document's answer: texts. -/
import Derived.Test.YtoifleamknbeaaaGreatDoorYUC
open Go Go.Am
namespace Go.Proofs.ZL
set_option maxRecDepth 100000
set_option linter.unusedSimpArgs false
set_option linter.unusedVariables false
set_option maxHeartbeats 1000000

theorem strOf_snoc (l : List Int) (c : Int) : strOf (l ++ [c]) = strOf l ++ strOf [c] := by
 apply ByteArray.ext
 rw [ByteArray.data_append]
 simp [strOf]
theorem strOf_len (l : List Int) : (strOf l).size = l.length := by
 show (strOf l).data.size = _
 simp [strOf]

theorem rQuoted_w {src : ByteArray} {k : Nat} (hk : k < src.size) (hz : src.size ≤ 100000) {h : Heap} {Q : ARes → Prop} (hq : ∀ h' v, Gr h h' → TokAns k (textS src k []) v → Q (.ret v h')) : WCall Tryz.prog G X 47 [.string src, .int .i64 k] h Q := by
 unfold textS at hq
 generalize hO : textGo src k [] _ (k + 1) [] = O at hq
 refine WCall.walk hX Tryz.func47 rfl rfl Tryz.ntmps47 rfl ?_
 refine QN hX ?_;refine QK (Qw ?_);refine QK (Qb ?_);refine QK (Qb ?_);refine QO hX ?_;refine QK (Qb ?_);refine QO hX ?_;refine QK (Qa ?_);refine QK (Qf ?_);refine QK (Qb ?_);refine QL ?_;refine QU hX ?_;refine WC.block hX ?_
 refine WC.loopInv hX (α := Nat × Nat × List Int) (m := fun a => a.1) (Inv := fun a v h' => v 0 = some (.string src) ∧ v 1 = some (.int .i64 k) ∧ v 4 = some (.pointer (some ⟨h.next, 0, none⟩)) ∧ v 7 = some (.string (strOf a.2.2)) ∧ v 8 = some (.int .i64 ((a.2.1 : Nat) : Int)) ∧
   (h.next < h'.next ∧ h'.obj h.next = some (.cells false [.int .i64 0, .string .empty, .int .i64 0, .int .i64 0]) ∧ ∀ j, j < h.next → h'.obj j = h.obj j) ∧ a.2.1 ≤ src.size ∧ a.2.2.length ≤ a.2.1 ∧ src.size < a.2.1 + a.1 ∧ textGo src k [] a.1 a.2.1 a.2.2 = O)
  (src.size + 1, k + 1, []) ⟨rfl, rfl, rfl, rfl, rfl, ⟨Wwne, Wwobj, fun j hj => Wwag⟩, by simp only; omega, by simp, by simp only; omega, hO⟩ ?_
 rintro ⟨m, i, out⟩ v h' ih ⟨e0, e1, e4, e7, e8, ⟨hn, ho, hgr⟩, hi, hl, hf, hT⟩
 simp only at e7 e8 hi hl hf hT
 have hso := strOf_len out
 obtain ⟨m, rfl⟩ : ∃ m', m = m' + 1 := ⟨m - 1, by omega⟩
 unfold textGo at hT
 refine QU hX ?_;refine QU hX ?_
 refine WC.cut (N' := fun e H => e 0 = some (.string src) ∧ e 1 = some (.int .i64 k) ∧ e 4 = some (.pointer (some ⟨h.next, 0, none⟩)) ∧ e 7 = some (.string (strOf out)) ∧ e 8 = some (.int .i64 ((i : Nat) : Int)) ∧
  e 21 = some (.bool (decide (i < src.size ∧ byteN src i ≠ 34))) ∧ H = h') ?_ ?_
 ·refine QV hX ?_;refine QK (Qa ?_);refine QK (Qa ?_);refine QK (Qr ?_);refine QK (QF ?_ ?_);intro hh;refine QK (Qa ?_);refine QK (Qa ?_);refine QK (Qa ?_);refine QK (Qm ?_);refine QK (QE ?_ ?_);intro hh;refine QK (Qc ?_);refine QL ?_;rotate_left;intro hh;refine QK (Qc ?_);refine QL ?_;rotate_left;intro hh;refine QK (Qa ?_);refine QK (QA ?_);refine QK (QA ?_);refine QK (QA ?_);refine QK (QA ?_);refine QK (Qd ?_);refine QL ?_;rotate_left
  ·rw [decide_eq_true ⟨by omega, hh⟩]; exact ⟨e0, e1, e4, e7, e8, rfl, rfl⟩
  ·rw [decide_eq_false (fun hc => hh hc.2)]; exact ⟨e0, e1, e4, e7, e8, rfl, rfl⟩
  ·rw [decide_eq_false (fun hc => by omega)]; exact ⟨e0, e1, e4, e7, e8, rfl, rfl⟩
 clear e0 e1 e4 e7 e8
 rintro v H ⟨e0, e1, e4, e7, e8, e21, rfl⟩
 by_cases hc : i < src.size ∧ byteN src i ≠ 34
 ·rw [decide_eq_true hc] at e21
  rw [if_neg (by omega), if_neg hc.2, show ((i + 1 : Nat) : Int) = (i : Int) + 1 from rfl] at hT
  refine QR hX ?_;refine UA ?_;refine WC.block hX ?_;refine QN hX ?_;refine QK (Qa ?_);refine QK (Qa ?_);refine QK (Qm ?_);refine QK (Qb ?_);refine QL ?_;refine QU hX ?_;refine QN hX ?_;refine QK (Qa ?_);refine QK (QD ?_ ?_);intro hh;refine QQ hX ?_;refine QU hX ?_;refine QN hX ?_;refine QK (Qa ?_);refine QK (Qf ?_);refine QK (Qa ?_);refine QK (Qr ?_);refine QK (QD ?_ ?_);intro hh;refine QK (Qa ?_);refine QK (QA ?_);refine QK (QA ?_);refine QK (QA ?_);refine QK (QA ?_);refine QK (QA ?_);refine QK (QA ?_);refine QK (QA ?_);refine QK (QA ?_);refine QK (QA ?_);refine QK (QA ?_);refine QK (QA ?_);refine QK (QA ?_);refine QK (QA ?_);refine QK (QA ?_);refine QK (QA ?_);refine QK (QA ?_);refine QK (QA ?_);refine QK (QA ?_);refine QK (QA ?_);refine QK (Qc ?_);refine QQ hX ?_;refine QN hX ?_;refine QK (Qn ?_);refine QK (Qa ?_);refine QK (Qa ?_);refine QK (Qv ?_);refine QK (Qb ?_);refine QK (Qb ?_);refine QM ?_;rotate_left;intro hh;refine QK (Qa ?_);refine QK (Qa ?_);refine QK (Qa ?_);refine QK (Qf ?_);refine QK (Qm ?_);refine QK (QE ?_ ?_);intro hh;refine QK (Qa ?_);refine QK (Qa ?_);refine QK (Qa ?_);refine QK (Qf ?_);refine QK (Qm ?_);refine QK (QE ?_ ?_);intro hh;refine QK (Qc ?_);refine QK (Qa ?_);refine QK (Qa ?_);refine QK (Qa ?_);refine QK (Qf ?_);refine QK (Qm ?_);refine QK (QE ?_ ?_);intro hh;refine QK (Qc ?_);refine QK (Qd ?_);refine QQ hX ?_;refine QN hX ?_;refine QK (Qn ?_);refine QK (Qa ?_);refine QK (Qa ?_);refine QK (Qv ?_);refine QK (Qb ?_);refine QK (Qb ?_);refine QM ?_;rotate_left;intro hh;refine QK (Qc ?_);refine QK (Qd ?_);refine QP hX ?_;refine UA ?_;refine QN hX ?_;refine QK (Qa ?_);refine QK (Qf ?_);refine QK (Qb ?_);refine QO hX ?_;refine QK (Qa ?_);refine QK (Qa ?_);refine QK (Qm ?_);refine QK (Qb ?_);refine QO hX ?_;refine QK (Qa ?_);refine QK (QD ?_ ?_);intro hh;exfalso;omega;intro hh;refine QP hX ?_;refine UA ?_;refine QN hX ?_;refine QK (Qa ?_);refine QK (Qa ?_);refine QK (Qy ?_);refine QK ?_;rotate_left;intro hh;refine QK (Qc ?_);refine QK (Qa ?_);refine QK (QA ?_);refine QK (QA ?_);refine QK (QA ?_);refine QK (QA ?_);refine QK (QA ?_);refine QK (Qd ?_);refine QK (Qd ?_);refine QP hX ?_;refine UA ?_;refine QN hX ?_;refine QK (Qa ?_);refine QK (Qf ?_);refine QK (Qb ?_);refine QO hX ?_;refine QK (Qa ?_);refine QK (Qa ?_);refine QK (Qm ?_);refine QK (Qb ?_);refine QO hX ?_;refine QK (Qa ?_);refine QK (QD ?_ ?_);intro hh;exfalso;omega;intro hh;refine QP hX ?_;refine UA ?_;refine QN hX ?_;refine QK (Qa ?_);refine QK (Qa ?_);refine QK (Qy ?_);refine QK ?_;rotate_left;intro hh;refine QK (Qa ?_);refine QK (QA ?_);refine QK (QA ?_);refine QK (QA ?_);refine QK (QA ?_);refine QK (QA ?_);refine QK (Qd ?_);refine QK (Qa ?_);refine QK (QA ?_);refine QK (QA ?_);refine QK (QA ?_);refine QK (QA ?_);refine QK (QA ?_);refine QK (Qd ?_);refine QK (Qd ?_);refine QP hX ?_;refine UA ?_;refine QN hX ?_;refine QK (Qa ?_);refine QK (Qf ?_);refine QK (Qb ?_);refine QO hX ?_;refine QK (Qa ?_);refine QK (Qa ?_);refine QK (Qm ?_);refine QK (Qb ?_);refine QO hX ?_;refine QK (Qa ?_);refine QK (QD ?_ ?_);intro hh;refine QQ hX ?_;refine QV hX ?_;refine QK (Qb ?_);refine QO hX ?_;refine QK (Qa ?_);refine QK (Qa ?_);refine QK (Qy ?_);refine QK ?_;rotate_left;intro hh;exfalso;omega;intro hh;refine QP hX ?_;refine QN hX ?_;refine QK (Qa ?_);refine QK (QF ?_ ?_);intro hh;refine QK (Qa ?_);refine QK (QA ?_);refine QK (QA ?_);refine QK (Qc ?_);refine QQ hX ?_;refine QN hX ?_;refine QK (Qn ?_);refine QK (Qa ?_);refine QK (Qa ?_);refine QK (Qv ?_);refine QK (Qb ?_);refine QK (Qb ?_);refine QM ?_;rotate_left;intro hh;refine QK (Qa ?_);refine QK (Qa ?_);refine QK (QH ?_ ?_);intro hh;refine QK (Qd ?_);refine QQ hX ?_;refine QN hX ?_;refine QK (Qn ?_);refine QK (Qa ?_);refine QK (Qa ?_);refine QK (Qv ?_);refine QK (Qb ?_);refine QK (Qb ?_);refine QM ?_;rotate_left;intro hh;refine QK (Qd ?_);refine QP hX ?_;refine UA ?_;refine QN hX ?_;refine QK (Qa ?_);refine QK (Qa ?_);refine QK (Qy ?_);refine QK ?_;rotate_left
  ·rw [if_pos (by assumption), if_neg (fun hx => by omega)] at hT
   refine ⟨_, Wwres, ?_⟩
   exact hq _ _ ⟨Wwne, fun j hj => by rw [← hgr j hj]; exact Wwag⟩ (.inr (by rw [← hT]; exact ⟨rfl, rfl⟩))
  ·rw [if_pos (by assumption), if_neg (fun hx => by omega)] at hT
   refine ⟨_, Wwres, ?_⟩
   exact hq _ _ ⟨Wwne, fun j hj => by rw [← hgr j hj]; exact Wwag⟩ (.inr (by rw [← hT]; exact ⟨rfl, rfl⟩))
  ·rw [if_pos (by assumption), if_pos ⟨by omega, by omega⟩, if_neg (by assumption)] at hT
   refine WS.conv (fun H' => BSl H' 0 (some ⟨H.next, 0, none⟩) 1 1 [byteN src ((i : Int) + 1)]) rfl rfl Wwev (.inr ⟨_, rfl, Nat.zero_le _, Wwne, rfl, rfl, Wwobj⟩) (fun H' hH => hH.str) ?_
   have hs1 : (strOf [byteN src ((i : Int) + 1)]).size = 1 := rfl
   refine QK (Qh ?_);refine QK (Qb ?_);refine QL ?_;refine QV hX ?_;refine QK (Qa ?_);refine QK (Qf ?_);refine QK (Qb ?_);refine QL ?_
   exact ih (m, i + 2, out ++ [byteN src ((i : Int) + 1)]) _ _ (by simp only; omega) ⟨e0, e1, e4, by rw [strOf_snoc]; rfl, rfl, ⟨Wwne, Wwobj, fun j hj => by rw [← hgr j hj]; exact Wwag⟩, by simp only; omega, by simp only [List.length_append, List.length_singleton]; omega, by simp only; omega, hT⟩
  ·rw [if_pos (by assumption), if_pos ⟨by omega, by omega⟩, if_neg (by assumption)] at hT
   refine WS.conv (fun H' => BSl H' 0 (some ⟨H.next, 0, none⟩) 1 1 [byteN src ((i : Int) + 1)]) rfl rfl Wwev (.inr ⟨_, rfl, Nat.zero_le _, Wwne, rfl, rfl, Wwobj⟩) (fun H' hH => hH.str) ?_
   have hs1 : (strOf [byteN src ((i : Int) + 1)]).size = 1 := rfl
   refine QK (Qh ?_);refine QK (Qb ?_);refine QL ?_;refine QV hX ?_;refine QK (Qa ?_);refine QK (Qf ?_);refine QK (Qb ?_);refine QL ?_
   exact ih (m, i + 2, out ++ [byteN src ((i : Int) + 1)]) _ _ (by simp only; omega) ⟨e0, e1, e4, by rw [strOf_snoc]; rfl, rfl, ⟨Wwne, Wwobj, fun j hj => by rw [← hgr j hj]; exact Wwag⟩, by simp only; omega, by simp only [List.length_append, List.length_singleton]; omega, by simp only; omega, hT⟩
  ·rw [if_pos (by assumption), if_pos ⟨by omega, by omega⟩, if_pos (by assumption)] at hT
   refine WS.conv (fun H' => BSl H' 0 (some ⟨H.next, 0, none⟩) 1 1 [10]) rfl rfl Wwev (.inr ⟨_, rfl, Nat.zero_le _, Wwne, rfl, rfl, Wwobj⟩) (fun H' hH => hH.str) ?_
   have hs1 : (strOf [10]).size = 1 := rfl
   refine QK (Qh ?_);refine QK (Qb ?_);refine QL ?_;refine QV hX ?_;refine QK (Qa ?_);refine QK (Qf ?_);refine QK (Qb ?_);refine QL ?_
   exact ih (m, i + 2, out ++ [10]) _ _ (by simp only; omega) ⟨e0, e1, e4, by rw [strOf_snoc]; rfl, rfl, ⟨Wwne, Wwobj, fun j hj => by rw [← hgr j hj]; exact Wwag⟩, by simp only; omega, by simp only [List.length_append, List.length_singleton]; omega, by simp only; omega, hT⟩
  ·rw [if_neg (by assumption), if_pos (by omega)] at hT
   refine ⟨_, Wwres, ?_⟩
   exact hq _ _ ⟨Wwne, fun j hj => by rw [← hgr j hj]; exact Wwag⟩ (.inr (by rw [← hT]; exact ⟨rfl, rfl⟩))
  ·rw [if_neg (by assumption), if_pos (by omega)] at hT
   refine ⟨_, Wwres, ?_⟩
   exact hq _ _ ⟨Wwne, fun j hj => by rw [← hgr j hj]; exact Wwag⟩ (.inr (by rw [← hT]; exact ⟨rfl, rfl⟩))
  ·rw [if_neg (by assumption), if_neg (by omega)] at hT
   refine WS.conv (fun H' => BSl H' 0 (some ⟨H.next, 0, none⟩) 1 1 [byteN src i]) rfl rfl Wwev (.inr ⟨_, rfl, Nat.zero_le _, Wwne, rfl, rfl, Wwobj⟩) (fun H' hH => hH.str) ?_
   have hs1 : (strOf [byteN src i]).size = 1 := rfl
   refine QK (Qh ?_);refine QK (Qb ?_);refine QL ?_;refine QV hX ?_;refine QK (Qa ?_);refine QK (Qf ?_);refine QK (Qb ?_);refine QL ?_
   exact ih (m, i + 1, out ++ [byteN src i]) _ _ (by simp only; omega) ⟨e0, e1, e4, by rw [strOf_snoc]; rfl, rfl, ⟨Wwne, Wwobj, fun j hj => by rw [← hgr j hj]; exact Wwag⟩, by simp only; omega, by simp only [List.length_append, List.length_singleton]; omega, by simp only; omega, hT⟩
 ·rw [decide_eq_false hc] at e21
  refine QS hX ?_;refine WC.exit ?_;refine exit_here ?_;refine QU hX ?_;refine QN hX ?_;refine QK (Qa ?_);refine QK (Qa ?_);refine QK (Qr ?_);refine QK (QI ?_ ?_);intro hh;refine QQ hX ?_;refine QN hX ?_;refine QK (Qn ?_);refine QK (Qa ?_);refine QK (Qa ?_);refine QK (Qr ?_);refine QK (Qv ?_);refine QK (Qb ?_);refine QK (Qb ?_);refine QM ?_;rotate_left;intro hh;refine QP hX ?_;refine UA ?_;refine QU hX ?_;refine QN hX ?_;refine QK (Qa ?_);refine QK (Qr ?_);refine QK (QH ?_ ?_);intro hh;refine QQ hX ?_;refine QN hX ?_;refine QK (Qn ?_);refine QK (Qa ?_);refine QK (Qa ?_);refine QK (Qv ?_);refine QK (Qb ?_);refine QK (Qb ?_);refine QM ?_;rotate_left;intro hh;refine QP hX ?_;refine UA ?_;refine QN hX ?_;refine QK (Qa ?_);refine QK (Qa ?_);refine QK (Qn ?_);refine QK (Qa ?_);refine QK (Qf ?_);refine QK (Qv ?_);refine QK (Qb ?_);refine QK (Qb ?_);refine QM ?_;rotate_left
  ·rw [if_pos (by omega)] at hT
   refine ⟨_, Wwres, ?_⟩
   exact hq _ _ ⟨Wwne, fun j hj => by rw [← hgr j hj]; exact Wwag⟩ (.inr (by rw [← hT]; exact ⟨rfl, rfl⟩))
  ·rw [if_neg (by omega), if_pos (Decidable.byContradiction fun hx => hc ⟨by omega, hx⟩), if_pos (by omega)] at hT
   refine ⟨_, Wwres, ?_⟩
   exact hq _ _ ⟨Wwne, fun j hj => by rw [← hgr j hj]; exact Wwag⟩ (.inr (by rw [← hT]; exact ⟨rfl, rfl⟩))
  ·rw [if_neg (by omega), if_pos (Decidable.byContradiction fun hx => hc ⟨by omega, hx⟩), if_neg (by omega)] at hT
   refine ⟨_, Wwres, ?_⟩
   refine hq _ _ ⟨Wwne, fun j hj => by rw [← hgr j hj]; exact Wwag⟩ (.inl ?_)
   rw [← hT]
   exact ⟨_, _, rfl, rfl⟩

end Go.Proofs.ZL
