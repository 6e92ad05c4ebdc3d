/- The document's answer: numbers. -/
import Derived.Test.YtoifleamknbeaaaGreatDoorYUB
open Go Go.Am
namespace Go.Proofs.ZL
set_option maxRecDepth 100000
set_option linter.unusedSimpArgs false
set_option linter.unusedVariables false
set_option maxHeartbeats 1000000

def TokAns (k : Nat) (o : Out) (v : Value) : Prop :=
 (∃ t p, o = ⟨.ok, p, [t]⟩ ∧ v = .tuple #[.agg t.cells.toArray, .int .i64 ((p : Nat) : Int), .int .i64 (-1)]) ∨
 (o.err.isOk = false ∧ v = .tuple #[.agg #[.int .i64 0, .string .empty, .int .i64 0, .int .i64 0], .int .i64 k, .int .i64 o.err.pos])

def nS (src : ByteArray) (k i : Nat) : Int := numL ((src.data.toList.drop k).take i) 0
theorem nS_succ {src : ByteArray} {k i : Nat} (h : k + i < src.size) : nS src k (i + 1) = nS src k i * 10 + (byteN src ((k + i : Nat) : Int) - 48) := by
 obtain ⟨b, hb, hv⟩ := byteN_get h
 unfold nS
 rw [List.take_add_one, List.getElem?_drop, hb]
 simp only [Option.toList]
 rw [numL_snoc, hv]
theorem nS_range {src : ByteArray} {k : Nat} : ∀ i, k + i ≤ src.size → (∀ j, j < i → digitN (byteN src ((k + j : Nat) : Int)) = true) → 0 ≤ nS src k i ∧ nS src k i < 10 ^ i
 | 0, _, _ => by simp [nS, numL]
 | i + 1, hi, hd => by
  have ih := nS_range i (by omega) fun j hj => hd j (by omega)
  rw [nS_succ (by omega)]
  have := hd i (by omega)
  simp only [digitN, decide_eq_true_eq] at this
  rw [Int.pow_succ]
  omega

theorem rNumber_w {src : ByteArray} {k : Nat} (hk : k < src.size) (hd : digitN (byteN src k) = true) (hz : src.size ≤ 100000) {h : Heap} {Q : ARes → Prop} (hq : ∀ h' v, Gr h h' → TokAns k (numberS src k []) v → Q (.ret v h')) : WCall Tryz.prog G X 46 [.string src, .int .i64 k] h Q := by
 refine WCall.walk hX Tryz.func46 rfl rfl Tryz.ntmps46 rfl ?_
 refine QN hX ?_;refine QK (Qw ?_);refine QK (Qb ?_);refine QK (Qb ?_);refine QO hX ?_;refine QK (Qa ?_);refine QK (Qb ?_);refine QO hX ?_;refine QK (Qb ?_);refine QL ?_;refine QU hX ?_;refine WC.block hX ?_
 refine WC.loopInv hX (α := Nat) (m := fun i => src.size - i) (Inv := fun i v h' => v 0 = some (.string src) ∧ v 1 = some (.int .i64 k) ∧ v 4 = some (.pointer (some ⟨h.next, 0, none⟩)) ∧ v 7 = some (.int .i64 ((k + i : Nat) : Int)) ∧ v 8 = some (.int .i64 (nS src k (min i 18))) ∧
   h' = h.alloc (.cells false [.int .i64 0, .string .empty, .int .i64 0, .int .i64 0]) ∧ k + i ≤ src.size ∧ ∀ j, j < i → digitN (byteN src ((k + j : Nat) : Int)) = true)
  0 ⟨rfl, rfl, rfl, rfl, rfl, rfl, by omega, fun j hj => by omega⟩ ?_
 rintro i v h' ih ⟨e0, e1, e4, e7, e8, rfl, hi, hall⟩
 refine QU hX ?_;refine QU hX ?_
 refine WC.cut (N' := fun e h' => e 0 = some (.string src) ∧ e 1 = some (.int .i64 k) ∧ e 4 = some (.pointer (some ⟨h.next, 0, none⟩)) ∧ e 7 = some (.int .i64 ((k + i : Nat) : Int)) ∧ e 8 = some (.int .i64 (nS src k (min i 18))) ∧
  e 19 = some (.bool (decide (k + i < src.size) && digitN (byteN src ((k + i : Nat) : Int)))) ∧ h' = h.alloc (.cells false [.int .i64 0, .string .empty, .int .i64 0, .int .i64 0])) ?_ ?_
 ·by_cases hlt : k + i < src.size
  ·refine QV hX ?_;refine QK (Qa ?_);refine QK (Qa ?_);refine QK (Qr ?_);refine QK (QF ?_ ?_);intro hh;refine QK (Qa ?_);refine QK (Qa ?_);refine QK (Qa ?_);refine QK (Qm ?_);refine QK ?_;rotate_left;intro hh;exfalso;omega
   refine QJ en45 ?_
   refine rDigit_w ?_
   rw [decide_eq_true hlt, Bool.true_and]
   cases hD : digitN (byteN src ((k + i : Nat) : Int))
   ·refine QK (Qc ?_);refine QL ?_
    exact ⟨e0, e1, e4, e7, e8, rfl, rfl⟩
   ·refine QK (Qc ?_);refine QL ?_
    exact ⟨e0, e1, e4, e7, e8, rfl, rfl⟩
  ·refine QV hX ?_;refine QK (Qa ?_);refine QK (Qa ?_);refine QK (Qr ?_);refine QK (QF ?_ ?_);intro hh;exfalso;omega;intro hh;refine QK (Qa ?_);refine QK (QA ?_);refine QK (QA ?_);refine QK (QA ?_);refine QK (QA ?_);refine QK (Qd ?_);refine QL ?_
   rw [decide_eq_false hlt]
   exact ⟨e0, e1, e4, e7, e8, rfl, rfl⟩
 clear e0 e1 e4 e7 e8
 rintro v h' ⟨e0, e1, e4, e7, e8, e19, rfl⟩
 cases hc : decide (k + i < src.size) && digitN (byteN src ((k + i : Nat) : Int))
 ·rw [hc] at e19
  have hrun : runN digitN src k = i := runN_eq hall hi fun h => by rw [decide_eq_true h, Bool.true_and] at hc; exact hc
  have h1i : 1 ≤ i := by have := runN_pos (p := digitN) hk hd; omega
  have hN : numberS src k [] = if 18 < i then ⟨.long (⟨#[97, 32, 110, 117, 109, 98, 101, 114]⟩ : ByteArray) k, k, []⟩ else if 1 < i ∧ byteN src k = 48 then ⟨.stuck k, k, []⟩ else if k + i < src.size ∧ letterN (byteN src ((k : Int) + (i : Int))) = true then ⟨.stuck (k + i), k, []⟩
    else ⟨.ok, k + i, [⟨2, sub src k i, numOf (sub src k i), k⟩]⟩ := by
   unfold numberS; rw [hrun, byteN_sub0 hi h1i]; rfl
  have hnum : numOf (sub src k i) = nS src k i := by
   unfold numOf nS
   rw [sub_eq, ByteArray.data_extract, Array.toList_extract, List.extract_eq_take_drop, Nat.add_sub_cancel_left]
  rw [hnum] at hN
  have hle : i ≤ 18 → min i 18 = i := fun h => Nat.min_eq_left h
  refine QS hX ?_;refine WC.exit ?_;refine exit_here ?_;refine QU hX ?_;refine QN hX ?_;refine QK (Qa ?_);refine QK (Qa ?_);refine QK (Qg ?_);refine QK (QH ?_ ?_);intro hh;refine QK (Qa ?_);refine QK (QA ?_);refine QK (QA ?_);refine QK (QA ?_);refine QK (QA ?_);refine QK (QA ?_);refine QK (QA ?_);refine QK (QA ?_);refine QK (QA ?_);refine QK (QA ?_);refine QK (QA ?_);refine QK (Qc ?_);refine QQ hX ?_;refine QN hX ?_;refine QK (Qn ?_);refine QK (Qa ?_);refine QK (Qa ?_);refine QK (Qv ?_);refine QK (Qb ?_);refine QK (Qb ?_);refine QM ?_;rotate_left;intro hh;refine QK (Qa ?_);refine QK (Qa ?_);refine QK (Qa ?_);refine QK (Qg ?_);refine QK (QH ?_ ?_);intro hh;refine QK (Qa ?_);refine QK (Qa ?_);refine QK (Qa ?_);refine QK (Qm ?_);refine QK (QD ?_ ?_);intro hh;refine QK (Qc ?_);refine QK (Qd ?_);refine QQ hX ?_;refine QN hX ?_;refine QK (Qn ?_);refine QK (Qa ?_);refine QK (Qa ?_);refine QK (Qv ?_);refine QK (Qb ?_);refine QK (Qb ?_);refine QM ?_;rotate_left;intro hh;refine QK (Qc ?_);refine QK (Qd ?_);refine QP hX ?_;refine UA ?_;refine QU hX ?_;refine QN hX ?_;refine QK (Qa ?_);refine QK (Qa ?_);refine QK (Qr ?_);refine QK (QF ?_ ?_);intro hh;refine QK (Qa ?_);refine QK (Qa ?_);refine QK (Qa ?_);refine QK (Qm ?_);refine QK ?_;rotate_left;intro hh;refine QK (Qa ?_);refine QK (QA ?_);refine QK (QA ?_);refine QK (QA ?_);refine QK (QA ?_);refine QK (Qd ?_);refine QP hX ?_;refine UA ?_;refine QN hX ?_;refine QK (Qa ?_);refine QK (Qa ?_);refine QK (Qa ?_);refine QK (WS.sliceS (hk := ?_));refine QK (Qa ?_);refine QK (Qa ?_);refine QK (Qn ?_);refine QK (Qa ?_);refine QK (Qv ?_);refine QK (Qb ?_);refine QK (Qb ?_);refine QM ?_;rotate_left;intro hh;refine QK (Qa ?_);refine QK (QA ?_);refine QK (QA ?_);refine QK (QA ?_);refine QK (QA ?_);refine QK (Qd ?_);refine QK (Qd ?_);refine QP hX ?_;refine UA ?_;refine QU hX ?_;refine QN hX ?_;refine QK (Qa ?_);refine QK (Qa ?_);refine QK (Qr ?_);refine QK (QF ?_ ?_);intro hh;refine QK (Qa ?_);refine QK (Qa ?_);refine QK (Qa ?_);refine QK (Qm ?_);refine QK ?_;rotate_left;intro hh;refine QK (Qa ?_);refine QK (QA ?_);refine QK (QA ?_);refine QK (QA ?_);refine QK (QA ?_);refine QK (Qd ?_);refine QP hX ?_;refine UA ?_;refine QN hX ?_;refine QK (Qa ?_);refine QK (Qa ?_);refine QK (Qa ?_);refine QK (WS.sliceS (hk := ?_));refine QK (Qa ?_);refine QK (Qa ?_);refine QK (Qn ?_);refine QK (Qa ?_);refine QK (Qv ?_);refine QK (Qb ?_);refine QK (Qb ?_);refine QM ?_;rotate_left
  ·rw [if_pos (by omega)] at hN
   refine ⟨_, Wwres, ?_⟩
   exact hq _ _ Wwgr (.inr (by rw [hN]; exact ⟨rfl, rfl⟩))
  ·rw [if_neg (by omega), if_pos ⟨by omega, hh⟩] at hN
   refine ⟨_, Wwres, ?_⟩
   exact hq _ _ Wwgr (.inr (by rw [hN]; exact ⟨rfl, rfl⟩))
  ·refine QJ en43 ?_
   refine rLetter_w ?_
   cases hL : letterN (byteN src ((k + i : Nat) : Int))
   ·have hL' : letterN (byteN src ((k : Int) + (i : Int))) = false := hL
    rw [if_neg (by omega), if_neg (by omega), if_neg (fun hx => by rw [hL'] at hx; exact Bool.noConfusion hx.2)] at hN
    refine QK (Qc ?_);refine QP hX ?_;refine UA ?_;refine QN hX ?_;refine QK (Qa ?_);refine QK (Qa ?_);refine QK (Qa ?_);refine QK (WS.sliceS (hk := ?_));refine QK (Qa ?_);refine QK (Qa ?_);refine QK (Qn ?_);refine QK (Qa ?_);refine QK (Qv ?_);refine QK (Qb ?_);refine QK (Qb ?_);refine QM ?_
    refine ⟨_, Wwres, ?_⟩
    refine hq _ _ Wwgr (.inl ?_)
    rw [hN]
    refine ⟨_, _, rfl, ?_⟩
    rw [hle (by omega)]
    rfl
   ·have hL' : letterN (byteN src ((k : Int) + (i : Int))) = true := hL
    rw [if_neg (by omega), if_neg (by omega), if_pos ⟨by omega, hL'⟩] at hN
    refine QK (Qc ?_);refine QQ hX ?_;refine QN hX ?_;refine QK (Qn ?_);refine QK (Qa ?_);refine QK (Qa ?_);refine QK (Qv ?_);refine QK (Qb ?_);refine QK (Qb ?_);refine QM ?_
    refine ⟨_, Wwres, ?_⟩
    exact hq _ _ Wwgr (.inr (by rw [hN]; exact ⟨rfl, rfl⟩))
  ·rw [if_neg (by omega), if_neg (by omega), if_neg (fun hx => by omega)] at hN
   refine ⟨_, Wwres, ?_⟩
   refine hq _ _ Wwgr (.inl ?_)
   rw [hN]
   refine ⟨_, _, rfl, ?_⟩
   rw [hle (by omega)]
   rfl
  ·refine QJ en43 ?_
   refine rLetter_w ?_
   cases hL : letterN (byteN src ((k + i : Nat) : Int))
   ·have hL' : letterN (byteN src ((k : Int) + (i : Int))) = false := hL
    rw [if_neg (by omega), if_neg (by omega), if_neg (fun hx => by rw [hL'] at hx; exact Bool.noConfusion hx.2)] at hN
    refine QK (Qc ?_);refine QP hX ?_;refine UA ?_;refine QN hX ?_;refine QK (Qa ?_);refine QK (Qa ?_);refine QK (Qa ?_);refine QK (WS.sliceS (hk := ?_));refine QK (Qa ?_);refine QK (Qa ?_);refine QK (Qn ?_);refine QK (Qa ?_);refine QK (Qv ?_);refine QK (Qb ?_);refine QK (Qb ?_);refine QM ?_
    refine ⟨_, Wwres, ?_⟩
    refine hq _ _ Wwgr (.inl ?_)
    rw [hN]
    refine ⟨_, _, rfl, ?_⟩
    rw [hle (by omega)]
    rfl
   ·have hL' : letterN (byteN src ((k : Int) + (i : Int))) = true := hL
    rw [if_neg (by omega), if_neg (by omega), if_pos ⟨by omega, hL'⟩] at hN
    refine QK (Qc ?_);refine QQ hX ?_;refine QN hX ?_;refine QK (Qn ?_);refine QK (Qa ?_);refine QK (Qa ?_);refine QK (Qv ?_);refine QK (Qb ?_);refine QK (Qb ?_);refine QM ?_
    refine ⟨_, Wwres, ?_⟩
    exact hq _ _ Wwgr (.inr (by rw [hN]; exact ⟨rfl, rfl⟩))
  ·rw [if_neg (by omega), if_neg (by omega), if_neg (fun hx => by omega)] at hN
   refine ⟨_, Wwres, ?_⟩
   refine hq _ _ Wwgr (.inl ?_)
   rw [hN]
   refine ⟨_, _, rfl, ?_⟩
   rw [hle (by omega)]
   rfl
 ·rw [hc] at e19
  rw [Bool.and_eq_true, decide_eq_true_eq] at hc
  obtain ⟨hlt, hD⟩ := hc
  have hall' : ∀ j, j < i + 1 → digitN (byteN src ((k + j : Nat) : Int)) = true := fun j hj => by
   rcases Nat.lt_succ_iff_lt_or_eq.1 hj with hj | rfl
   ·exact hall j hj
   ·exact hD
  have hD' := hD
  simp only [digitN, decide_eq_true_eq] at hD'
  by_cases h18 : i < 18
  ·have hmin : min i 18 = i := by omega
   have hmin2 : min (i + 1) 18 = i + 1 := by omega
   have hr := nS_range i (by omega) hall
   have hp : (10 : Int) ^ i ≤ 10 ^ 17 := by
    have := Nat.pow_le_pow_right (n := 10) (by decide) (show i ≤ 17 by omega)
    exact_mod_cast this
   have hp2 : (10 : Int) ^ 17 = 100000000000000000 := by decide
   rw [hp2] at hp
   rw [hmin] at e8
   have hrr := hr.2
   clear hmin hmin2
   refine QR hX ?_;refine UA ?_;refine WC.block hX ?_;refine QU hX ?_;refine QN hX ?_;refine QK (Qa ?_);refine QK (Qa ?_);refine QK (Qg ?_);refine QK (QF ?_ ?_);intro hh;refine QQ hX ?_;refine QV hX ?_;refine QK (Qa ?_);refine QK (WS.mulI (hk := ?_));refine QK (Qa ?_);refine QK (Qa ?_);refine QK (Qm ?_);refine QK (WS.convI (hk := ?_));refine QK (Qf ?_);refine QK (Qg ?_);refine QK (Qb ?_);refine QL ?_;refine QV hX ?_;refine QK (Qa ?_);refine QK (Qf ?_);refine QK (Qb ?_);refine QL ?_;rotate_left;intro hh;exfalso;omega
   refine ih (i + 1) _ _ (by omega) ⟨e0, e1, e4, rfl, ?_, rfl, by omega, hall'⟩
   rw [show min (i + 1) 18 = i + 1 by omega, nS_succ hlt]
   refine congrArg (fun x => some (Value.int IntKind.i64 x)) (?_ : 10 * nS src k i + byteN src ((k + i : Nat) : Int) - 48 = _)
   omega
  ·have hmin : min i 18 = 18 := by omega
   rw [hmin] at e8
   refine QR hX ?_;refine UA ?_;refine WC.block hX ?_;refine QU hX ?_;refine QN hX ?_;refine QK (Qa ?_);refine QK (Qa ?_);refine QK (Qg ?_);refine QK (QF ?_ ?_);intro hh;exfalso;omega;intro hh;refine QP hX ?_;refine UA ?_;refine QV hX ?_;refine QK (Qa ?_);refine QK (Qf ?_);refine QK (Qb ?_);refine QL ?_
   exact ih (i + 1) _ _ (by omega) ⟨e0, e1, e4, rfl, by rw [show min (i + 1) 18 = 18 by omega]; exact e8, rfl, by omega, hall'⟩

end Go.Proofs.ZL
