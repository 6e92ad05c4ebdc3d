/- The document's answer: Scan. -/
import Derived.Test.YtoifleamknbeaaaGreatDoorYUG
open Go Go.Am
namespace Go.Proofs.ZL
set_option maxRecDepth 100000
set_option linter.unusedSimpArgs false
set_option linter.unusedVariables false
set_option maxHeartbeats 1000000

theorem cell4_at {l : List Tok} {i : Nat} {t : Tok} (h : l[i]? = some t) {f : Nat} (hf : f < 4) : (cellsOf l)[i * 4 + f]? = t.cells[f]? := by
 rw [← cells_at h, List.getElem?_take, if_pos hf, List.getElem?_drop]
theorem Toks.lo {h : Heap} {lo lo' : Nat} {b : Option Addr} {n es : Nat} {l : List Tok} (ht : Toks h lo b n es l) (hl : lo' ≤ lo) : Toks h lo' b n es l := by
 rcases ht with ⟨rfl, rfl, rfl, rfl⟩ | ⟨i, rfl, h1, h2, rfl, rfl, h3⟩
 ·exact .inl ⟨rfl, rfl, rfl, rfl⟩
 ·exact .inr ⟨i, rfl, by omega, h2, rfl, rfl, h3⟩
theorem ok_opens : okW (⟨#[32, 40, 32, 91, 32, 123, 32]⟩ : ByteArray) opensB = true := by decide +kernel
theorem ok_closes : okW (⟨#[32, 41, 32, 93, 32, 125, 32]⟩ : ByteArray) closesB = true := by decide +kernel
theorem opens_closes {s : ByteArray} (h : inS opensB s = true) : inS closesB s = false := by
 have h2 : opensB.all (fun m => !inS closesB m) = true := by decide +kernel
 have := List.all_eq_true.1 h2 s (inS_iff.1 h)
 simpa using this
theorem slashes_sub {src : ByteArray} {k : Nat} (hk : k ≤ src.size) : slashes src k = decide (k + 2 ≤ src.size ∧ sub src k 2 = (⟨#[47, 47]⟩ : ByteArray)) := by
 unfold slashes
 rw [rest_size hk, show (((⟨#[47, 47]⟩ : ByteArray).size : Nat) : Int) = ((2 : Nat) : Int) from rfl, rest_sub, decide_eq_decide]
 constructor
 ·rintro ⟨h1, h2⟩
  have : ((⟨#[47, 47]⟩ : ByteArray) : ByteArray).size = 2 := rfl
  exact ⟨by omega, h2⟩
 ·rintro ⟨h1, h2⟩
  have : ((⟨#[47, 47]⟩ : ByteArray) : ByteArray).size = 2 := rfl
  exact ⟨by omega, h2⟩

theorem rScan_w {src : ByteArray} (hz : src.size ≤ 140737488355328) {h : Heap} {Q : ARes → Prop}
  (hq : ∀ h' b n es, Gr h h' → Toks h' h.next b n es (scanS src).toks → Q (.ret (.tuple #[.slice b n es, .agg #[.int .i64 (scanS src).stage, .int .i64 (scanS src).pos]]) h')) : WCall Tryz.prog G X 15 [.string src] h Q := by
 have hS : scanS src = scanS src := rfl
 conv at hS => rhs; unfold scanS
 refine WCall.walk hX Tryz.func15 rfl rfl Tryz.ntmps15 rfl ?_
 refine QN hX ?_;refine QK (Qb ?_);refine QK (Qw ?_);refine QL ?_;refine QU hX ?_;refine QN hX ?_;refine QK (Qa ?_);refine QK (Qr ?_);refine QK (QH ?_ ?_);intro hh;refine QQ hX ?_;refine QN hX ?_;refine QK (Qn ?_);refine QK (Qb ?_);refine QK (Qv ?_);refine QM ?_;rotate_left;intro hh;refine QP hX ?_;refine UA ?_;refine QN hX ?_;refine QK (Qb ?_);refine QO hX ?_;refine QK (Qb ?_);refine QL ?_;refine QU hX ?_;refine WC.block hX ?_;rotate_left
 ·rw [if_pos (by omega)] at hS
  rw [hS] at hq
  refine ⟨_, Wwres, ?_⟩
  exact hq _ none 0 0 Wwgr (.inl ⟨rfl, rfl, rfl, rfl⟩)
 rw [if_neg (by omega)] at hS
 have hz2 : src.size ≤ 8192 := by omega
 generalize hO : allS src = O at hS
 refine WC.loopInv hX (α := Nat × Nat × List Tok) (m := fun a => a.1) (Inv := fun a v h' => v 0 = some (.string src) ∧ v 3 = some (.pointer (some ⟨h.next, 0, none⟩)) ∧ v 5 = some (.int .i64 ((a.2.1 : Nat) : Int)) ∧ (∃ b n es, v 4 = some (.slice b n es) ∧ Toks h' (h.next + 1) b n es a.2.2) ∧
   (h.next < h'.next ∧ h'.obj h.next = some (.cells false [.int .i64 0, .int .i64 0]) ∧ ∀ j, j < h.next → h'.obj j = h.obj j) ∧ a.2.1 ≤ src.size ∧ a.2.2.length ≤ a.2.1 ∧ src.size < a.2.1 + a.1 ∧ (∀ t ∈ a.2.2, TOk t) ∧ allGo src a.1 a.2.1 a.2.2 = O)
  (src.size + 1, 0, []) ⟨rfl, rfl, rfl, ⟨none, 0, 0, rfl, .inl ⟨rfl, rfl, rfl, rfl⟩⟩, ⟨Wwne, Wwobj, fun j hj => Wwag⟩, by simp, by simp, by simp, by simp, hO⟩ ?_
 rintro ⟨m, k, l⟩ v h1 ih ⟨e0, e3, e5, ⟨b, n, es, e4, ht⟩, ⟨hn, ho, hgr⟩, hk, hl, hf, htk, hA⟩
 simp only at e4 e5 ht hk hl hf htk hA
 obtain ⟨m, rfl⟩ : ∃ m', m = m' + 1 := ⟨m - 1, by omega⟩
 unfold allGo at hA
 by_cases hlt : k < src.size
 ·rw [if_neg (by omega)] at hA
  by_cases h10 : byteN src k = 10
  ·have hN : nextS src k l = ⟨.ok, k + 1, lineL k l⟩ := by unfold nextS; rw [if_neg (by omega), if_pos h10]
   rw [hN, if_pos (show SErr.ok.isOk = true from rfl)] at hA
   refine QU hX ?_;refine QN hX ?_;refine QK (Qa ?_);refine QK (Qa ?_);refine QK (Qr ?_);refine QK (QF ?_ ?_);intro hh;refine QQ hX ?_;refine UA ?_;refine WC.block hX ?_;refine QU hX ?_;refine QN hX ?_;refine QK (Qa ?_);refine QK (Qa ?_);refine QK (Qm ?_);refine QK (QD ?_ ?_);intro hh;refine QQ hX ?_;refine QV hX ?_;refine QK (Qa ?_);refine QK (Qa ?_);refine QK ?_;rotate_left;intro hh;exfalso;omega;intro hh;exfalso;omega
   refine QJ en25 ?_
   refine rEnded_w ht (by omega) htk (by omega) fun h2 b2 n2 es2 g2 ht2 => ?_
   have hn2 := g2.1
   have hll := lineL_len k l
   refine QK (Qb ?_);refine QL ?_;refine QU hX ?_;refine QN hX ?_;refine QK (Qa ?_);refine QK (Qa ?_);refine QK (Qm ?_);refine QK (QD ?_ ?_);intro hh;refine QK (Qa ?_);refine QK (QA ?_);refine QK (QA ?_);refine QK (QA ?_);refine QK (QA ?_);refine QK (Qc ?_);refine QK (Qa ?_);refine QK (QA ?_);refine QK (QA ?_);refine QK (QA ?_);refine QK (QA ?_);refine QK (Qc ?_);refine QQ hX ?_;refine QN hX ?_;refine QK (Qa ?_);refine QK (Qf ?_);refine QK (Qb ?_);refine QL ?_;refine WC.exit ?_;refine exit_here ?_;rotate_left;intro hh;exfalso;omega
   exact ih (m, k + 1, lineL k l) _ _ (by simp only; omega) ⟨e0, e3, rfl, ⟨b2, n2, es2, rfl, ht2⟩, ⟨Wwne, g2.at hn ho, fun j hj => by rw [← hgr j hj]; exact g2.2 j (by omega)⟩, by simp only; omega, by simp only; omega, by simp only; omega, lineL_TOk htk, hA⟩
  by_cases hbl : byteN src k = 32 ∨ byteN src k = 9
  ·have hN : nextS src k l = ⟨.ok, k + 1, l⟩ := by unfold nextS; rw [if_pos hbl]
   rw [hN, if_pos (show SErr.ok.isOk = true from rfl)] at hA
   have done : ∀ v : Env, v 0 = some (.string src) → v 3 = some (.pointer (some ⟨h.next, 0, none⟩)) → v 4 = some (.slice b n es) → v 5 = some (.int .i64 ((k + 1 : Nat) : Int)) → _ := fun v e0 e3 e4 e5 => ih (m, k + 1, l) v h1 (by simp only; omega) ⟨e0, e3, e5, ⟨b, n, es, e4, ht⟩, ⟨hn, ho, hgr⟩, by simp only; omega, by simp only; omega, by simp only; omega, htk, hA⟩
   refine QU hX ?_;refine QN hX ?_;refine QK (Qa ?_);refine QK (Qa ?_);refine QK (Qr ?_);refine QK (QF ?_ ?_);intro hh;refine QQ hX ?_;refine UA ?_;refine WC.block hX ?_;refine QU hX ?_;refine QN hX ?_;refine QK (Qa ?_);refine QK (Qa ?_);refine QK (Qm ?_);refine QK (QD ?_ ?_);intro hh;exfalso;omega;intro hh;refine QP hX ?_;refine UA ?_;refine QU hX ?_;refine QN hX ?_;refine QK (Qa ?_);refine QK (Qa ?_);refine QK (Qm ?_);refine QK (QD ?_ ?_);intro hh;exfalso;omega;intro hh;refine QK (Qa ?_);refine QK (Qa ?_);refine QK (Qa ?_);refine QK (Qm ?_);refine QK (QD ?_ ?_);intro hh;refine QK (Qd ?_);refine QK (Qa ?_);refine QK (QA ?_);refine QK (QA ?_);refine QK (QA ?_);refine QK (QA ?_);refine QK (Qc ?_);refine QQ hX ?_;refine QN hX ?_;refine QK (Qa ?_);refine QK (Qf ?_);refine QK (Qb ?_);refine QL ?_;refine WC.exit ?_;refine exit_here ?_;rotate_left;intro hh;refine QK (Qd ?_);refine QK (Qa ?_);refine QK (Qa ?_);refine QK (Qa ?_);refine QK (Qm ?_);refine QK (QD ?_ ?_);intro hh;refine QK (Qd ?_);refine QQ hX ?_;refine QN hX ?_;refine QK (Qa ?_);refine QK (Qf ?_);refine QK (Qb ?_);refine QL ?_;refine WC.exit ?_;refine exit_here ?_;rotate_left;intro hh;exfalso;omega;intro hh;exfalso;omega
   ·exact done _ e0 e3 e4 rfl
   ·exact done _ e0 e3 e4 rfl
  have hs0 := slashes_sub hk
  cases hsl : slashes src k
  ·rw [hsl] at hs0
   have hs1 := of_decide_eq_false hs0.symm
   have hN := nextS_app h10 l
   refine QU hX ?_;refine QN hX ?_;refine QK (Qa ?_);refine QK (Qa ?_);refine QK (Qr ?_);refine QK (QF ?_ ?_);intro hh;refine QQ hX ?_;refine UA ?_;refine WC.block hX ?_;refine QU hX ?_;refine QN hX ?_;refine QK (Qa ?_);refine QK (Qa ?_);refine QK (Qm ?_);refine QK (QD ?_ ?_);intro hh;exfalso;omega;intro hh;refine QP hX ?_;refine UA ?_;refine QU hX ?_;refine QN hX ?_;refine QK (Qa ?_);refine QK (Qa ?_);refine QK (Qm ?_);refine QK (QD ?_ ?_);intro hh;exfalso;omega;intro hh;refine QK (Qa ?_);refine QK (Qa ?_);refine QK (Qa ?_);refine QK (Qm ?_);refine QK (QD ?_ ?_);intro hh;exfalso;omega;intro hh;refine QK (Qd ?_);refine QK (Qa ?_);refine QK (Qa ?_);refine QK (Qa ?_);refine QK (Qm ?_);refine QK (QD ?_ ?_);intro hh;exfalso;omega;intro hh;refine QK (Qd ?_);refine QP hX ?_;refine UA ?_;refine QU hX ?_;refine QN hX ?_;refine QK (Qa ?_);refine QK (Qf ?_);refine QK (Qa ?_);refine QK (Qr ?_);refine QK (QG ?_ ?_);intro hh;refine QK (Qa ?_);refine QK (Qa ?_);refine QK (Qa ?_);refine QK (Qa ?_);refine QK (Qf ?_);refine QK (WS.sliceS (hk := ?_));refine QK (QB ?_ ?_);intro hh;refine QK (Qc ?_);refine QQ hX ?_;refine QU hX ?_;refine WC.block hX ?_;rotate_left;intro hh;refine QK (Qc ?_);refine QP hX ?_;refine UA ?_;refine QN hX ?_;refine QK (Qa ?_);refine QK (Qa ?_);refine QK ?_;rotate_left;intro hh;refine QK (Qa ?_);refine QK (QA ?_);refine QK (QA ?_);refine QK (QA ?_);refine QK (QA ?_);refine QK (QA ?_);refine QK (QA ?_);refine QK (Qd ?_);refine QP hX ?_;refine UA ?_;refine QN hX ?_;refine QK (Qa ?_);refine QK (Qa ?_);refine QK ?_;rotate_left;intro hh;exfalso;omega
   ·exact (hs1 ⟨by omega, hh⟩).elim
   ·refine QJ en26 ?_
    refine rToken_w hlt (by omega) ⟨by omega, by omega, h10⟩ hsl fun h2 w g2 hw => ?_
    have hn2 := g2.1
    rcases hw with ⟨t, p, he, rfl⟩ | ⟨he, rfl⟩
    ·rw [he] at hN
     rw [hN, if_pos (show SErr.ok.isOk = true from rfl)] at hA
     have hok := nextS_ok (l := l) hlt (by rw [hN]; rfl)
     rw [hN] at hok
     simp only at hok hA
     have ht2 : Toks h2 (h.next + 1) b n es l := ht.mono g2.1 fun j _ hj => g2.2 j hj
     have o2 := g2.at hn ho
     have hlen := ht2.len
     refine QK (Qa ?_);refine QK (Qq ?_);refine QK (Qq ?_);refine QK (Qq ?_);refine QK (Qw ?_);refine QK (Qv ?_);refine QK (Qb ?_);refine QK (Qb ?_);refine QL ?_;refine QU hX ?_;refine QN hX ?_;refine QK (Qa ?_);refine QK (QI ?_ ?_);intro hh;exfalso;omega;intro hh;refine QP hX ?_;refine UA ?_;refine QN hX ?_;refine QK (Qa ?_);refine QK (Qu ?_);refine QK (Qz ?_);refine QK ?_
     apply WS.append
     (· rfl); (· rfl); (· exact Wwev); (· exact Wwev); (· rfl); (· rfl); (· intro k hk; cases hk); (· exact fits_at rfl); (· decide); (· exact Wwobj); (· exact Wwlen); (· rfl); (· unfold room; omega); (· rfl)
     (· refine Toks.at (l := l) (ht2.mono ?_ fun j _ hj => ?_); (· exact Wwne); (· exact Wwag))
     intro h3 hn3 ho3 hf3
     simp only [UB, UC] at hn3 ho3 hf3
     have hb : ∀ i, i < h.next + 1 → ∀ off, b ≠ some ⟨i, off, none⟩ := fun i hi => by rcases ht2 with ⟨rfl, _⟩ | ⟨i, rfl, h1, _⟩ <;> intro off e <;> cases e; omega
     refine QK (Qb ?_);refine QL ?_;refine QV hX ?_;refine QK (Qa ?_);refine QK (Qb ?_);refine QL ?_
     exact ih (m, p, l ++ [t]) _ _ (by simp only; omega) ⟨e0, e3, rfl, ⟨_, _, _, rfl, .inr ⟨_, rfl, Wwne, Wwne, rfl, by simp [hlen], ho3.trans (by simp [cellsOf, Tok.cells])⟩⟩,
      ⟨by omega, by rw [hf3 _ (by omega) (hb _ (by omega))]; exact Wwobj, fun j hj => by rw [hf3 _ (by omega) (hb _ (by omega)), ← hgr j hj, ← g2.2 j (by omega)]; exact Wwag⟩, by simp only; omega, by simp only [List.length_append, List.length_singleton]; omega, by simp only; omega,
      fun u hu => by rcases List.mem_append.1 hu with hu | hu; exact htk u hu; rw [List.mem_singleton.1 hu]; exact nextS_TOk he, hA⟩
    ·rw [hN, if_neg (by simp only; rw [he]; exact Bool.false_ne_true)] at hA
     rw [← hA] at hS
     rw [if_neg (by simp only; rw [he]; exact Bool.false_ne_true)] at hS
     rw [hS] at hq
     have o2 := g2.at hn ho
     refine QK (Qa ?_);refine QK (Qq ?_);refine QK (Qq ?_);refine QK (Qq ?_);refine QK (Qw ?_);refine QK (Qv ?_);refine QK (Qb ?_);refine QK (Qb ?_);refine QL ?_;refine QU hX ?_;refine QN hX ?_;refine QK (Qa ?_);refine QK (QI ?_ ?_);intro hh;refine QQ hX ?_;refine QN hX ?_;refine QK (Qa ?_);refine QK (Qn ?_);refine QK (Qb ?_);refine QK (Qv ?_);refine QM ?_;rotate_left;intro hh;exfalso;omega
     refine ⟨_, Wwres, ?_⟩
     exact hq _ none 0 0 ⟨Wwne, fun j hj => by rw [← hgr j hj, ← g2.2 j (by omega)]; exact Wwag⟩ (.inl ⟨rfl, rfl, rfl, rfl⟩)
   ·refine QJ en26 ?_
    refine rToken_w hlt (by omega) ⟨by omega, by omega, h10⟩ hsl fun h2 w g2 hw => ?_
    have hn2 := g2.1
    rcases hw with ⟨t, p, he, rfl⟩ | ⟨he, rfl⟩
    ·rw [he] at hN
     rw [hN, if_pos (show SErr.ok.isOk = true from rfl)] at hA
     have hok := nextS_ok (l := l) hlt (by rw [hN]; rfl)
     rw [hN] at hok
     simp only at hok hA
     have ht2 : Toks h2 (h.next + 1) b n es l := ht.mono g2.1 fun j _ hj => g2.2 j hj
     have o2 := g2.at hn ho
     have hlen := ht2.len
     refine QK (Qa ?_);refine QK (Qq ?_);refine QK (Qq ?_);refine QK (Qq ?_);refine QK (Qw ?_);refine QK (Qv ?_);refine QK (Qb ?_);refine QK (Qb ?_);refine QL ?_;refine QU hX ?_;refine QN hX ?_;refine QK (Qa ?_);refine QK (QI ?_ ?_);intro hh;exfalso;omega;intro hh;refine QP hX ?_;refine UA ?_;refine QN hX ?_;refine QK (Qa ?_);refine QK (Qu ?_);refine QK (Qz ?_);refine QK ?_
     apply WS.append
     (· rfl); (· rfl); (· exact Wwev); (· exact Wwev); (· rfl); (· rfl); (· intro k hk; cases hk); (· exact fits_at rfl); (· decide); (· exact Wwobj); (· exact Wwlen); (· rfl); (· unfold room; omega); (· rfl)
     (· refine Toks.at (l := l) (ht2.mono ?_ fun j _ hj => ?_); (· exact Wwne); (· exact Wwag))
     intro h3 hn3 ho3 hf3
     simp only [UB, UC] at hn3 ho3 hf3
     have hb : ∀ i, i < h.next + 1 → ∀ off, b ≠ some ⟨i, off, none⟩ := fun i hi => by rcases ht2 with ⟨rfl, _⟩ | ⟨i, rfl, h1, _⟩ <;> intro off e <;> cases e; omega
     refine QK (Qb ?_);refine QL ?_;refine QV hX ?_;refine QK (Qa ?_);refine QK (Qb ?_);refine QL ?_
     exact ih (m, p, l ++ [t]) _ _ (by simp only; omega) ⟨e0, e3, rfl, ⟨_, _, _, rfl, .inr ⟨_, rfl, Wwne, Wwne, rfl, by simp [hlen], ho3.trans (by simp [cellsOf, Tok.cells])⟩⟩,
      ⟨by omega, by rw [hf3 _ (by omega) (hb _ (by omega))]; exact Wwobj, fun j hj => by rw [hf3 _ (by omega) (hb _ (by omega)), ← hgr j hj, ← g2.2 j (by omega)]; exact Wwag⟩, by simp only; omega, by simp only [List.length_append, List.length_singleton]; omega, by simp only; omega,
      fun u hu => by rcases List.mem_append.1 hu with hu | hu; exact htk u hu; rw [List.mem_singleton.1 hu]; exact nextS_TOk he, hA⟩
    ·rw [hN, if_neg (by simp only; rw [he]; exact Bool.false_ne_true)] at hA
     rw [← hA] at hS
     rw [if_neg (by simp only; rw [he]; exact Bool.false_ne_true)] at hS
     rw [hS] at hq
     have o2 := g2.at hn ho
     refine QK (Qa ?_);refine QK (Qq ?_);refine QK (Qq ?_);refine QK (Qq ?_);refine QK (Qw ?_);refine QK (Qv ?_);refine QK (Qb ?_);refine QK (Qb ?_);refine QL ?_;refine QU hX ?_;refine QN hX ?_;refine QK (Qa ?_);refine QK (QI ?_ ?_);intro hh;refine QQ hX ?_;refine QN hX ?_;refine QK (Qa ?_);refine QK (Qn ?_);refine QK (Qb ?_);refine QK (Qv ?_);refine QM ?_;rotate_left;intro hh;exfalso;omega
     refine ⟨_, Wwres, ?_⟩
     exact hq _ none 0 0 ⟨Wwne, fun j hj => by rw [← hgr j hj, ← g2.2 j (by omega)]; exact Wwag⟩ (.inl ⟨rfl, rfl, rfl, rfl⟩)
  ·rw [hsl] at hs0
   have hs1 := of_decide_eq_true hs0.symm
   have hN : nextS src k l = ⟨.ok, k + runN noLine src k, l⟩ := by unfold nextS; rw [if_neg hbl, if_neg h10, hsl, if_pos rfl]
   rw [hN, if_pos (show SErr.ok.isOk = true from rfl)] at hA
   refine QU hX ?_;refine QN hX ?_;refine QK (Qa ?_);refine QK (Qa ?_);refine QK (Qr ?_);refine QK (QF ?_ ?_);intro hh;refine QQ hX ?_;refine UA ?_;refine WC.block hX ?_;refine QU hX ?_;refine QN hX ?_;refine QK (Qa ?_);refine QK (Qa ?_);refine QK (Qm ?_);refine QK (QD ?_ ?_);intro hh;exfalso;omega;intro hh;refine QP hX ?_;refine UA ?_;refine QU hX ?_;refine QN hX ?_;refine QK (Qa ?_);refine QK (Qa ?_);refine QK (Qm ?_);refine QK (QD ?_ ?_);intro hh;exfalso;omega;intro hh;refine QK (Qa ?_);refine QK (Qa ?_);refine QK (Qa ?_);refine QK (Qm ?_);refine QK (QD ?_ ?_);intro hh;exfalso;omega;intro hh;refine QK (Qd ?_);refine QK (Qa ?_);refine QK (Qa ?_);refine QK (Qa ?_);refine QK (Qm ?_);refine QK (QD ?_ ?_);intro hh;exfalso;omega;intro hh;refine QK (Qd ?_);refine QP hX ?_;refine UA ?_;refine QU hX ?_;refine QN hX ?_;refine QK (Qa ?_);refine QK (Qf ?_);refine QK (Qa ?_);refine QK (Qr ?_);refine QK (QG ?_ ?_);intro hh;refine QK (Qa ?_);refine QK (Qa ?_);refine QK (Qa ?_);refine QK (Qa ?_);refine QK (Qf ?_);refine QK (WS.sliceS (hk := ?_));refine QK (QB ?_ ?_);intro hh;refine QK (Qc ?_);refine QQ hX ?_;refine QU hX ?_;refine WC.block hX ?_;rotate_left;intro hh;refine QK (Qc ?_);refine QP hX ?_;refine UA ?_;refine QN hX ?_;refine QK (Qa ?_);refine QK (Qa ?_);refine QK ?_;rotate_left;intro hh;exfalso;omega;intro hh;exfalso;omega
   ·refine WC.loopInv hX (α := Nat) (m := fun i => src.size - i) (Inv := fun i v h' => v 0 = some (.string src) ∧ v 3 = some (.pointer (some ⟨h.next, 0, none⟩)) ∧ v 4 = some (.slice b n es) ∧ v 5 = some (.int .i64 ((k + i : Nat) : Int)) ∧ h' = h1 ∧ k + i ≤ src.size ∧ ∀ j, j < i → noLine (byteN src ((k + j : Nat) : Int)) = true)
     0 ⟨e0, e3, e4, e5, rfl, by omega, fun j hj => by omega⟩ ?_
    clear e0 e3 e4 e5
    rintro i v h2 ih2 ⟨e0, e3, e4, e5, rfl, hi, hall⟩
    have stop : (k + i < src.size → noLine (byteN src ((k + i : Nat) : Int)) = false) → runN noLine src k = i := fun hs => runN_eq hall hi hs
    have hone : 1 ≤ runN noLine src k := runN_pos hlt (by unfold noLine; rw [decide_eq_true_eq]; exact h10)
    have done : runN noLine src k = i → ∀ v : Env, v 0 = some (.string src) → v 3 = some (.pointer (some ⟨h.next, 0, none⟩)) → v 4 = some (.slice b n es) → v 5 = some (.int .i64 ((k + i : Nat) : Int)) → _ := fun hr v e0 e3 e4 e5 => ih (m, k + i, l) v h2 (by simp only; omega) ⟨e0, e3, e5, ⟨b, n, es, e4, ht⟩, ⟨hn, ho, hgr⟩, by simp only; omega, by simp only; omega, by simp only; omega, htk, by rw [hr] at hA; exact hA⟩
    refine QU hX ?_;refine QN hX ?_;refine QK (Qa ?_);refine QK (Qa ?_);refine QK (Qr ?_);refine QK (QF ?_ ?_);intro hh;refine QK (Qa ?_);refine QK (Qa ?_);refine QK (Qa ?_);refine QK (Qm ?_);refine QK (QE ?_ ?_);intro hh;refine QK (Qc ?_);refine QQ hX ?_;refine UA ?_;refine WC.block hX ?_;refine QV hX ?_;refine QK (Qa ?_);refine QK (Qf ?_);refine QK (Qb ?_);refine QL ?_;rotate_left;intro hh;refine QK (Qc ?_);refine QP hX ?_;refine WC.exit ?_;refine exit_here ?_;refine WC.exit ?_;refine exit_here ?_;rotate_left;intro hh;refine QK (Qa ?_);refine QK (QA ?_);refine QK (QA ?_);refine QK (QA ?_);refine QK (QA ?_);refine QK (Qd ?_);refine QP hX ?_;refine WC.exit ?_;refine exit_here ?_;refine WC.exit ?_;refine exit_here ?_;rotate_left
    ·refine ih2 (i + 1) _ _ (by omega) ⟨e0, e3, e4, rfl, rfl, by omega, fun j hj => ?_⟩
     rcases Nat.lt_succ_iff_lt_or_eq.1 hj with hj | rfl
     ·exact hall j hj
     ·unfold noLine; rw [decide_eq_true_eq]; exact hh
    ·exact done (stop fun _ => by unfold noLine; rw [decide_eq_false_iff_not]; exact hh) _ e0 e3 e4 e5
    ·exact done (stop fun hx => by omega) _ e0 e3 e4 e5
   ·exact (hh hs1.2).elim
 ·rw [if_pos (by omega)] at hA
  obtain rfl : k = src.size := by omega
  have hll := lineL_len src.size l
  refine QU hX ?_;refine QN hX ?_;refine QK (Qa ?_);refine QK (Qa ?_);refine QK (Qr ?_);refine QK (QF ?_ ?_);intro hh;exfalso;omega;intro hh;refine QP hX ?_;refine WC.exit ?_;refine exit_here ?_;refine QN hX ?_;refine QK (Qa ?_);refine QK (Qa ?_);refine QK (Qr ?_);refine QK ?_
  refine QJ en25 ?_
  refine rEnded_w ht (by omega) htk (by omega) fun h2 b2 n2 es2 g2 ht2 => ?_
  have hn2 := g2.1
  have o2 := g2.at hn ho
  have hlen := ht2.len
  have htk2 := lineL_TOk (k := src.size) htk
  generalize lineL src.size l = l2 at *
  refine QK (Qb ?_);refine QO hX ?_;refine QK (Qa ?_);refine QK (Qa ?_);refine QK (Qr ?_);refine QK (Qn ?_);refine QK (Qz ?_);refine QK ?_
  apply WS.append
  (· rfl); (· rfl); (· exact Wwev); (· exact Wwev); (· rfl); (· rfl); (· intro k hk; cases hk); (· exact fits_at rfl); (· decide); (· exact Wwobj); (· exact Wwlen); (· rfl); (· unfold room; omega); (· rfl)
  (· refine Toks.at (l := l2) (ht2.mono ?_ fun j _ hj => ?_); (· exact Wwne); (· exact Wwag))
  intro h3 hn3 ho3 hf3
  simp only [UB, UC] at hn3 ho3 hf3
  have hb : ∀ i, i < h.next + 1 → ∀ off, b2 ≠ some ⟨i, off, none⟩ := fun i hi => by rcases ht2 with ⟨rfl, _⟩ | ⟨i, rfl, h1, _⟩ <;> intro off e <;> cases e; omega
  have o3 : h3.obj h.next = some (.cells false [.int .i64 0, .int .i64 0]) := by rw [hf3 _ (by omega) (hb _ (by omega))]; exact Wwobj
  have g3 : ∀ j, j < h.next → h3.obj j = h.obj j := fun j hj => by rw [hf3 _ (by omega) (hb _ (by omega)), ← hgr j hj, ← g2.2 j (by omega)]; exact Wwag
  rw [← hA, if_pos (show SErr.ok.isOk = true from rfl)] at hS
  simp only at hS
  have hL : ∀ t ∈ l2 ++ [⟨6, (⟨#[]⟩ : ByteArray), 0, (src.size : Nat)⟩], t.kind = 5 → inS marks t.text = true := by
   intro t ht h5
   rcases List.mem_append.1 ht with ht | ht
   ·rcases htk2 t ht with h1 | ⟨h4, _⟩ | ⟨_, h⟩
    ·omega
    ·omega
    ·exact h
   ·rw [List.mem_singleton.1 ht] at h5; cases h5
  have oL : h3.obj (h2.next + 1) = some (.cells false (cellsOf (l2 ++ [⟨6, (⟨#[]⟩ : ByteArray), 0, (src.size : Nat)⟩]))) := ho3.trans (by simp [cellsOf, Tok.cells])
  have nL : n2 + 1 = (l2 ++ [(⟨6, (⟨#[]⟩ : ByteArray), 0, (src.size : Nat)⟩ : Tok)]).length := by simp [hlen]
  generalize l2 ++ [(⟨6, (⟨#[]⟩ : ByteArray), 0, (src.size : Nat)⟩ : Tok)] = L at *
  generalize hD : deepGo L 0 = D at *
  refine QK (Qb ?_);refine QO hX ?_;refine QK (Qb ?_);refine QL ?_;refine QU hX ?_;refine QN hX ?_;refine QK (Qb ?_);refine QL ?_;refine WC.block hX ?_
  refine WC.loopInv hX (α := Nat × Int) (m := fun a => L.length - a.1) (Inv := fun a v h' => v 3 = some (.pointer (some ⟨h.next, 0, none⟩)) ∧ v 4 = some (.slice (some ⟨h2.next + 1, 0, none⟩) (n2 + 1) 4) ∧ v 9 = some (.int .i64 a.2) ∧ v 10 = some (.int .i64 ((a.1 : Nat) : Int)) ∧ h' = h3 ∧ a.1 ≤ L.length ∧ 0 ≤ a.2 ∧ a.2 ≤ 40 ∧ deepGo (L.drop a.1) a.2 = D)
   (0, 0) ⟨e3, rfl, rfl, rfl, rfl, by simp, by simp, by simp, hD⟩ ?_
  clear e0 e3 e4 e5
  rintro ⟨i, c⟩ v h4 ih2 ⟨e3, e4, e9, e10, rfl, hi, hc0, hc1, hd⟩
  simp only at e9 e10 hi hc0 hc1 hd
  by_cases hil : i < L.length
  ·have he := List.getElem?_eq_getElem hil
   have hm := hL _ (List.getElem_mem hil)
   rw [List.drop_eq_getElem_cons hil] at hd
   generalize L[i] = t at *
   have c0 := cell4_at he (f := 0) (by omega)
   have c1 := cell4_at he (f := 1) (by omega)
   have c3 := cell4_at he (f := 3) (by omega)
   have hlc := cellsOf_length L
   refine QU hX ?_;refine QN hX ?_;refine QK (Qa ?_);refine QK (Qa ?_);refine QK (Qs ?_);refine QK (QF ?_ ?_);intro hh;refine QQ hX ?_;refine UA ?_;refine QU hX ?_;refine WC.block hX ?_;refine QU hX ?_;refine QN hX ?_;refine QK (Qa ?_);refine QK (Qa ?_);refine QK (Ql ?_);refine QK (Qj ?_);refine QK ?_;rotate_left;intro hh;exfalso;omega
   refine WS.loadS (v := .int .i64 t.kind) (hc := ?_) (hk := ?_)
   (· rw [← show t.cells[0]? = some (.int .i64 t.kind) from rfl, ← c0]; congr 1; omega)
   have next : ∀ c' : Int, 0 ≤ c' → c' ≤ 40 → deepGo (L.drop (i + 1)) c' = D → ∀ v : Env, v 3 = some (.pointer (some ⟨h.next, 0, none⟩)) → v 4 = some (.slice (some ⟨h2.next + 1, 0, none⟩) (n2 + 1) 4) → v 9 = some (.int .i64 c') → v 10 = some (.int .i64 ((i : Int) + 1)) → _ := fun c' h0 h40 hd v e3 e4 e9 e10 => ih2 (i + 1, c') v h4 (by simp only; omega) ⟨e3, e4, e9, by rw [e10]; rfl, rfl, by simp only; omega, h0, h40, hd⟩
   unfold deepGo at hd
   refine QK (QE ?_ ?_);intro hh;refine QQ hX ?_;refine WC.exit ?_;refine exit_here ?_;refine QV hX ?_;refine QK (Qa ?_);refine QK (Qf ?_);refine QK (Qb ?_);refine QL ?_;rotate_left;intro hh;refine QP hX ?_;refine UA ?_;refine QU hX ?_;refine QN hX ?_;refine QK (Qa ?_);refine QK (Qa ?_);refine QK (Ql ?_);refine QK (Qj ?_);refine QK ?_;rotate_left
   ·rw [if_pos hh] at hd
    exact next c hc0 hc1 hd _ e3 e4 e9 rfl
   rw [if_neg hh] at hd
   have hm5 := hm (by omega)
   refine WS.loadS (v := .string t.text) (hc := ?_) (hk := ?_)
   (· rw [← show t.cells[1]? = some (.string t.text) from rfl, ← c1]; congr 1; omega)
   refine QK ?_
   refine QJ en27 ?_
   refine in_w ok_opens (noB_marks hm5) (by decide) (size_marks hm5) ?_
   cases hop : inS opensB t.text
   ·rw [hop, if_neg Bool.false_ne_true] at hd
    refine QP hX ?_;refine UA ?_;refine QU hX ?_;refine QN hX ?_;refine QK (Qa ?_);refine QK (QH ?_ ?_);intro hh;exfalso;omega;intro hh;refine QP hX ?_;refine UA ?_;refine QN hX ?_;refine QK (Qa ?_);refine QK (QH ?_ ?_);intro hh;refine QK (Qa ?_);refine QK (Qa ?_);refine QK (Qa ?_);refine QK (Ql ?_);refine QK (Qj ?_);refine QK ?_;rotate_left;intro hh;refine QK (Qa ?_);refine QK (QA ?_);refine QK (QA ?_);refine QK (QA ?_);refine QK (QA ?_);refine QK (QA ?_);refine QK (QA ?_);refine QK (Qd ?_);refine QP hX ?_;refine UA ?_;refine QV hX ?_;refine QK (Qa ?_);refine QK (Qf ?_);refine QK (Qb ?_);refine QL ?_;rotate_left
    ·refine WS.loadS (v := .string t.text) (hc := ?_) (hk := ?_)
     (· rw [← show t.cells[1]? = some (.string t.text) from rfl, ← c1]; congr 1; omega)
     refine QK ?_
     refine QJ en27 ?_
     refine in_w ok_closes (noB_marks hm5) (by decide) (size_marks hm5) ?_
     cases hcl : inS closesB t.text
     ·rw [hcl, if_neg Bool.false_ne_true] at hd
      refine QK (Qc ?_);refine QP hX ?_;refine UA ?_;refine QV hX ?_;refine QK (Qa ?_);refine QK (Qf ?_);refine QK (Qb ?_);refine QL ?_
      exact next c hc0 hc1 hd _ e3 e4 e9 rfl
     ·rw [hcl, if_pos rfl] at hd
      refine QK (Qc ?_);refine QQ hX ?_;refine QV hX ?_;refine QK (Qa ?_);refine QK (Qg ?_);refine QK (Qb ?_);refine QL ?_;refine QV hX ?_;refine QK (Qa ?_);refine QK (Qf ?_);refine QK (Qb ?_);refine QL ?_
      exact next (c - 1) (by omega) (by omega) (by rw [← hd]; congr 1; split <;> omega) _ e3 e4 rfl rfl
    ·have hc : c = 0 := by omega
     subst hc
     refine next 0 hc0 hc1 ?_ _ e3 e4 e9 rfl
     rw [← hd]
     split
     ·rfl
     ·rfl
   ·have hcl := opens_closes hop
    rw [hop, if_pos rfl] at hd
    refine QQ hX ?_;refine QV hX ?_;refine QK (Qa ?_);refine QK (Qf ?_);refine QK (Qb ?_);refine QL ?_;refine QU hX ?_;refine QN hX ?_;refine QK (Qa ?_);refine QK (QH ?_ ?_);intro hh;refine QQ hX ?_;refine QU hX ?_;refine WC.drawn (id := 28) hX (l := [⟨0, .pure, 0⟩, ⟨1, .pure, 0⟩, ⟨2, .pure, 3⟩, ⟨3, .pure, 7⟩, ⟨4, .read, 15⟩, ⟨5, .pure, 31⟩, ⟨6, .pure, 0⟩, ⟨7, .heavy, 127⟩]) (hw := ?_);refine QW (k := Qa ?_);refine QW (k := Qa ?_);refine QW (k := Ql ?_);refine QW (k := Qj ?_);refine WD.read (hw := ?_);rotate_left;intro hh;refine QP hX ?_;refine UA ?_;refine QN hX ?_;refine QK (Qa ?_);refine QK (QH ?_ ?_);intro hh;refine QK (Qa ?_);refine QK (Qa ?_);refine QK (Qa ?_);refine QK (Ql ?_);refine QK (Qj ?_);refine QK ?_;rotate_left;intro hh;exfalso;omega
    ·rw [if_pos (by omega)] at hd
     subst hd
     simp only at hS
     rw [hS] at hq
     refine WS.loadS (v := .int .i64 t.pos) (hc := ?_) (hk := ?_)
     (· rw [← show t.cells[3]? = some (.int .i64 t.pos) from rfl, ← c3]; congr 1; omega)
     refine QW (k := Qn ?_);refine QW (k := Qb ?_);refine WD.heavy hX (hw := Qv ?_);refine WD.nil (hq := ?_);refine WC.ret ?_
     refine ⟨_, Wwres, ?_⟩
     exact hq _ none 0 0 ⟨Wwne, fun j hj => by rw [← g3 j hj]; exact Wwag⟩ (.inl ⟨rfl, rfl, rfl, rfl⟩)
    ·rw [if_neg (by omega)] at hd
     refine WS.loadS (v := .string t.text) (hc := ?_) (hk := ?_)
     (· rw [← show t.cells[1]? = some (.string t.text) from rfl, ← c1]; congr 1; omega)
     refine QK ?_
     refine QJ en27 ?_
     refine in_w ok_closes (noB_marks hm5) (by decide) (size_marks hm5) ?_
     rw [hcl]
     refine QK (Qc ?_);refine QP hX ?_;refine UA ?_;refine QV hX ?_;refine QK (Qa ?_);refine QK (Qf ?_);refine QK (Qb ?_);refine QL ?_
     exact next (c + 1) (by omega) (by omega) hd _ e3 e4 rfl rfl
  ·obtain rfl : i = L.length := by omega
   rw [List.drop_length] at hd
   unfold deepGo at hd
   subst hd
   simp only at hS
   rw [hS] at hq
   refine QU hX ?_;refine QN hX ?_;refine QK (Qa ?_);refine QK (Qa ?_);refine QK (Qs ?_);refine QK (QF ?_ ?_);intro hh;exfalso;omega;intro hh;refine QP hX ?_;refine WC.exit ?_;refine exit_here ?_;refine QN hX ?_;refine QK (Qa ?_);refine QK (Qn ?_);refine QK (Qb ?_);refine QK (Qv ?_);refine QM ?_
   refine ⟨_, Wwres, ?_⟩
   exact hq _ _ _ _ ⟨Wwne, fun j hj => by rw [← g3 j hj]; exact Wwag⟩ (.inr ⟨_, rfl, Wwne, Wwne, rfl, nL, Wwobj⟩)

end Go.Proofs.ZL
