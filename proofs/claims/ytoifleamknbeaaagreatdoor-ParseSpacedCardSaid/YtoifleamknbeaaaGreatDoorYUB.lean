/- The document's answer: letters, digits, names, numbers. -/
import Derived.Test.YtoifleamknbeaaaGreatDoorYUA
open Go Go.Am
namespace Go.Proofs.ZL
set_option maxRecDepth 100000
set_option linter.unusedSimpArgs false
set_option linter.unusedVariables false
set_option maxHeartbeats 1000000

theorem rLetter_w {c : Int} {h : Heap} {Q : ARes → Prop} (hq : Q (.ret (.bool (letterN c)) h)) : WCall Tryz.prog G X 43 [.int .u8 c] h Q := by
 refine WCall.walk hX Tryz.func43 rfl rfl Tryz.ntmps43 rfl ?_
 refine QN hX ?_;refine QK (Qb ?_);refine QO hX ?_;refine QK (Qa ?_);refine QK (QI ?_ ?_);intro hh;refine QK (Qa ?_);refine QK (Qa ?_);refine QK (QG ?_ ?_);intro hh;refine QK (Qc ?_);refine QK (Qa ?_);refine QK (QA ?_);refine QK (QA ?_);refine QK (QA ?_);refine QK (QA ?_);refine QK (QA ?_);refine QK (QA ?_);refine QK (Qc ?_);refine QK (Qa ?_);refine QK (QA ?_);refine QK (QA ?_);refine QK (Qc ?_);refine QK (Qb ?_);refine QM ?_;rotate_left;intro hh;refine QK (Qc ?_);refine QK (Qa ?_);refine QK (Qa ?_);refine QK (QI ?_ ?_);intro hh;refine QK (Qa ?_);refine QK (Qa ?_);refine QK (QG ?_ ?_);intro hh;exfalso;omega;intro hh;refine QK (Qc ?_);refine QK (Qd ?_);refine QK (Qa ?_);refine QK (Qa ?_);refine QK (QD ?_ ?_);intro hh;exfalso;omega;intro hh;refine QK (Qd ?_);refine QK (Qb ?_);refine QM ?_;rotate_left;intro hh;exfalso;omega;intro hh;refine QK (Qa ?_);refine QK (QA ?_);refine QK (QA ?_);refine QK (Qd ?_);refine QK (Qa ?_);refine QK (Qa ?_);refine QK (QI ?_ ?_);intro hh;refine QK (Qa ?_);refine QK (Qa ?_);refine QK (QG ?_ ?_);intro hh;refine QK (Qc ?_);refine QK (Qd ?_);refine QK (Qa ?_);refine QK (QA ?_);refine QK (QA ?_);refine QK (Qc ?_);refine QK (Qb ?_);refine QM ?_;rotate_left;intro hh;refine QK (Qc ?_);refine QK (Qd ?_);refine QK (Qa ?_);refine QK (Qa ?_);refine QK (QD ?_ ?_);intro hh;refine QK (Qd ?_);refine QK (Qb ?_);refine QM ?_;rotate_left;intro hh;refine QK (Qd ?_);refine QK (Qb ?_);refine QM ?_;rotate_left;intro hh;refine QK (Qa ?_);refine QK (QA ?_);refine QK (QA ?_);refine QK (Qd ?_);refine QK (Qd ?_);refine QK (Qa ?_);refine QK (Qa ?_);refine QK (QD ?_ ?_);intro hh;exfalso;omega;intro hh;refine QK (Qd ?_);refine QK (Qb ?_);refine QM ?_;rotate_left
 all_goals (refine ⟨_, rfl, ret_bool ?_ hq⟩; unfold letterN; symm; first | (rw [decide_eq_true_eq]; omega) | (rw [decide_eq_false_iff_not]; omega))

theorem rDigit_w {c : Int} {h : Heap} {Q : ARes → Prop} (hq : Q (.ret (.bool (digitN c)) h)) : WCall Tryz.prog G X 45 [.int .u8 c] h Q := by
 refine WCall.walk hX Tryz.func45 rfl rfl Tryz.ntmps45 rfl ?_
 refine QN hX ?_;refine QK (Qb ?_);refine QO hX ?_;refine QK (Qa ?_);refine QK (QI ?_ ?_);intro hh;refine QK (Qa ?_);refine QK (Qa ?_);refine QK (QG ?_ ?_);intro hh;refine QK (Qc ?_);refine QK (Qb ?_);refine QM ?_;rotate_left;intro hh;refine QK (Qc ?_);refine QK (Qb ?_);refine QM ?_;rotate_left;intro hh;refine QK (Qa ?_);refine QK (QA ?_);refine QK (QA ?_);refine QK (Qd ?_);refine QK (Qb ?_);refine QM ?_;rotate_left
 all_goals (refine ⟨_, rfl, ret_bool ?_ hq⟩; unfold digitN; symm; first | (rw [decide_eq_true_eq]; omega) | (rw [decide_eq_false_iff_not]; omega))

theorem rWord_w {src : ByteArray} {k : Nat} (hk : k ≤ src.size) (hz : src.size ≤ 100000) {h : Heap} {Q : ARes → Prop} (hq : Q (.ret (.int .i64 ((k + runN alnumN src k : Nat) : Int)) h)) : WCall Tryz.prog G X 44 [.string src, .int .i64 k] h Q := by
 refine WCall.walk hX Tryz.func44 rfl rfl Tryz.ntmps44 rfl ?_
 refine QN hX ?_;refine QK (Qb ?_);refine QL ?_;refine QU hX ?_;refine WC.block hX ?_
 refine WC.loopInv hX (α := Nat) (m := fun i => src.size - i) (Inv := fun i v h' => v 0 = some (.string src) ∧ v 1 = some (.int .i64 ((k + i : Nat) : Int)) ∧ h' = h ∧ k + i ≤ src.size ∧ ∀ j, j < i → alnumN (byteN src ((k + j : Nat) : Int)) = true)
  0 ⟨rfl, rfl, rfl, by omega, fun j hj => by omega⟩ ?_
 rintro i v h' ih ⟨e0, e1, rfl, hi, hall⟩
 have step : ∀ {v : Env}, alnumN (byteN src ((k + i : Nat) : Int)) = true → k + i < src.size → v 0 = some (.string src) → v 1 = some (.int .i64 ((k + i : Nat) + 1 : Int)) → _ := fun {v} ha hlt e0 e1 => ih (i + 1) v h' (by omega) ⟨e0, by rw [e1]; congr 2, rfl, by omega, fun j hj => by
  rcases Nat.lt_succ_iff_lt_or_eq.1 hj with hj | rfl
  ·exact hall j hj
  ·exact ha⟩
 have stop : (k + i < src.size → alnumN (byteN src ((k + i : Nat) : Int)) = false) → runN alnumN src k = i := fun hs => runN_eq hall hi hs
 by_cases hlt : k + i < src.size
 ·refine QU hX ?_;refine QN hX ?_;refine QK (Qa ?_);refine QK (Qa ?_);refine QK (Qr ?_);refine QK (QF ?_ ?_);intro hh;refine QK (Qa ?_);refine QK (Qa ?_);refine QK (Qa ?_);refine QK (Qm ?_);refine QK ?_;rotate_left;intro hh;exfalso;omega
  refine QJ en43 ?_
  refine rLetter_w ?_
  cases hL : letterN (byteN src ((k + i : Nat) : Int))
  ·refine QK (Qa ?_);refine QK (Qa ?_);refine QK (Qa ?_);refine QK (Qm ?_);refine QK ?_
   refine QJ en45 ?_
   refine rDigit_w ?_
   cases hD : digitN (byteN src ((k + i : Nat) : Int))
   ·refine QK (Qd ?_);refine QK (Qc ?_);refine QP hX ?_;refine WC.exit ?_;refine exit_here ?_;refine QN hX ?_;refine QK (Qa ?_);refine QK (Qb ?_);refine QM ?_
    refine ⟨_, Wwres, ?_⟩
    rw [stop (fun _ => by unfold alnumN; rw [hL, hD]; rfl)] at hq
    exact hq
   ·refine QK (Qd ?_);refine QK (Qc ?_);refine QQ hX ?_;refine UA ?_;refine WC.block hX ?_;refine QV hX ?_;refine QK (Qa ?_);refine QK (Qf ?_);refine QK (Qb ?_);refine QL ?_
    exact step (by unfold alnumN; rw [hL, hD]; rfl) hlt e0 rfl
  ·refine QK (Qa ?_);refine QK (QA ?_);refine QK (QA ?_);refine QK (QA ?_);refine QK (QA ?_);refine QK (Qc ?_);refine QK (Qc ?_);refine QQ hX ?_;refine UA ?_;refine WC.block hX ?_;refine QV hX ?_;refine QK (Qa ?_);refine QK (Qf ?_);refine QK (Qb ?_);refine QL ?_
   exact step (by unfold alnumN; rw [hL]; rfl) hlt e0 rfl
 ·refine QU hX ?_;refine QN hX ?_;refine QK (Qa ?_);refine QK (Qa ?_);refine QK (Qr ?_);refine QK (QF ?_ ?_);intro hh;exfalso;omega;intro hh;refine QK (Qa ?_);refine QK (QA ?_);refine QK (QA ?_);refine QK (QA ?_);refine QK (QA ?_);refine QK (QA ?_);refine QK (QA ?_);refine QK (QA ?_);refine QK (QA ?_);refine QK (QA ?_);refine QK (QA ?_);refine QK (Qd ?_);refine QP hX ?_;refine WC.exit ?_;refine exit_here ?_;refine QN hX ?_;refine QK (Qa ?_);refine QK (Qb ?_);refine QM ?_
  refine ⟨_, Wwres, ?_⟩
  rw [stop (fun h => (hlt h).elim)] at hq
  exact hq

end Go.Proofs.ZL
