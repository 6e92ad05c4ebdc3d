/- The document's answer: what a line's end adds. -/
import Derived.Test.YtoifleamknbeaaaGreatDoorYUF
open Go Go.Am
namespace Go.Proofs.ZL
set_option maxRecDepth 100000
set_option linter.unusedSimpArgs false
set_option linter.unusedVariables false
set_option maxHeartbeats 1000000

theorem textGo_app (src : ByteArray) (k : Nat) (l : List Tok) : ∀ m i out, textGo src k l m i out = ⟨(textGo src k [] m i out).err, (textGo src k [] m i out).pos, l ++ (textGo src k [] m i out).list⟩ := by
 intro m
 induction m with
 | zero => intro i out; unfold textGo; simp
 | succ m ih =>
  intro i out
  unfold textGo
  split
  ·simp
  split
  ·split <;> simp
  split
  ·split
   ·exact ih _ _
   ·simp
  split
  ·simp
  ·exact ih _ _
theorem nextS_app {src : ByteArray} {k : Nat} (h : byteN src k ≠ 10) (l : List Tok) : nextS src k l = ⟨(nextS src k []).err, (nextS src k []).pos, l ++ (nextS src k []).list⟩ := by
 unfold nextS
 split
 ·simp
 (try rw [if_neg h])
 split
 ·simp
 split
 ·unfold nameS; split <;> simp
 split
 ·unfold numberS
  split
  ·simp
  split
  ·simp
  split <;> simp
 split
 ·exact textGo_app _ _ _ _ _ _
 split <;> simp

theorem textGo_kind {src : ByteArray} {k p : Nat} {t : Tok} : ∀ m i out, textGo src k [] m i out = ⟨.ok, p, [t]⟩ → t.kind = 3 := by
 intro m
 induction m with
 | zero => intro i out h; unfold textGo at h; simp at h
 | succ m ih =>
  intro i out h
  unfold textGo at h
  split at h
  ·simp at h
  split at h
  ·split at h
   ·simp at h
   ·simp only [List.nil_append, Out.mk.injEq, List.cons.injEq, and_true] at h
    rw [← h.2.2]
  split at h
  ·split at h
   ·exact ih _ _ h
   ·simp at h
  split at h
  ·simp at h
  ·exact ih _ _ h
theorem markOf_in (s : ByteArray) : markOf s = (⟨#[]⟩ : ByteArray) ∨ inS marks (markOf s) = true := by
 unfold markOf
 split
 ·rename_i h; exact .inr h.2
 split
 ·rename_i h; exact .inr h.2
 ·exact .inl rfl
theorem nextS_TOk {src : ByteArray} {k p : Nat} {t : Tok} (h : nextS src k [] = ⟨.ok, p, [t]⟩) : TOk t := by
 unfold nextS at h
 split at h
 ·simp at h
 split at h
 ·simp [lineL, endsL] at h
 split at h
 ·simp at h
 split at h
 ·unfold nameS at h
  split at h
  ·simp at h
  ·simp only [List.nil_append, Out.mk.injEq, List.cons.injEq, and_true] at h
   rw [← h.2.2]
   unfold TOk
   simp only
   split
   ·rename_i hw; exact .inr (.inl ⟨rfl, hw⟩)
   ·exact .inl (by omega)
 split at h
 ·unfold numberS at h
  split at h
  ·simp at h
  split at h
  ·simp at h
  split at h
  ·simp at h
  ·simp only [List.nil_append, Out.mk.injEq, List.cons.injEq, and_true] at h
   rw [← h.2.2]
   exact .inl (by simp only; omega)
 split at h
 ·have := textGo_kind _ _ _ h
  exact .inl (by omega)
 split at h
 ·simp at h
 ·rename_i hm
  simp only [List.nil_append, Out.mk.injEq, List.cons.injEq, and_true] at h
  rw [← h.2.2]
  exact .inr (.inr ⟨rfl, (markOf_in _).resolve_left hm⟩)
theorem words_size : words.all (fun m => decide (m.size ≤ 100000)) = true := by decide +kernel
theorem marks_size : marks.all (fun m => decide (m.size ≤ 100000)) = true := by decide +kernel
theorem size_words {s : ByteArray} (h : inS words s = true) : s.size ≤ 100000 := of_decide_eq_true (List.all_eq_true.1 words_size s (inS_iff.1 h))
theorem size_marks {s : ByteArray} (h : inS marks s = true) : s.size ≤ 100000 := of_decide_eq_true (List.all_eq_true.1 marks_size s (inS_iff.1 h))
theorem lineL_TOk {k : Nat} {l : List Tok} (h : ∀ t ∈ l, TOk t) : ∀ t ∈ lineL k l, TOk t := by
 unfold lineL
 split
 ·intro t ht
  rcases List.mem_append.1 ht with ht | ht
  ·exact h t ht
  ·rw [List.mem_singleton.1 ht]; exact .inr (.inr ⟨rfl, show inS marks (⟨#[59]⟩ : ByteArray) = true by decide +kernel⟩)
 ·exact h

theorem forceL_some : ∀ l : List Value, forceL l = some l
 | [] => rfl
 | a :: l => by unfold forceL; rw [forceL_some l]
theorem cells_one : ∀ l : List Tok, (cellsOf l).all (·.oneCell') = true
 | [] => rfl
 | t :: l => by
  have := cells_one l
  simp only [cellsOf, List.flatMap_cons, List.all_append] at this ⊢
  rw [this]; rfl
theorem cells_app (l m : List Tok) : cellsOf (l ++ m) = cellsOf l ++ cellsOf m := by simp [cellsOf]

def enders : List ByteArray := endWords ++ endMarks
theorem ok_enders : okW (⟨#[32, 98, 114, 101, 97, 107, 32, 99, 111, 110, 116, 105, 110, 117, 101, 32, 102, 97, 108, 108, 116, 104, 114, 111, 117, 103, 104, 32, 114, 101, 116, 117, 114, 110, 32, 116, 114, 117, 101, 32, 102, 97, 108, 115, 101, 32, 110, 105, 108, 32, 105, 110, 116, 32, 98, 111, 111, 108, 32, 115, 116, 114, 105, 110, 103, 32, 43, 43, 32, 45, 45, 32, 41, 32, 93, 32, 125, 32]⟩ : ByteArray) enders = true := by decide +kernel
theorem words_marks : words.all (fun w => !inS marks w) = true := by decide +kernel
theorem inS_app (a b : List ByteArray) (s : ByteArray) : inS (a ++ b) s = (inS a s || inS b s) := by unfold inS; rw [List.any_append]
theorem ends_word {s : ByteArray} (h : inS words s = true) : inS enders s = inS endWords s := by
 unfold enders
 rw [inS_app]
 have : inS endMarks s = false := by
  rw [← Bool.not_eq_true, inS_iff]
  intro hm
  have h2 := List.all_eq_true.1 words_marks s (inS_iff.1 h)
  have h3 : endMarks.all (fun m => inS marks m) = true := by decide +kernel
  rw [List.all_eq_true.1 h3 s hm] at h2
  cases h2
 rw [this, Bool.or_false]
theorem ends_mark {s : ByteArray} (h : inS marks s = true) : inS enders s = inS endMarks s := by
 unfold enders
 rw [inS_app]
 have : inS endWords s = false := by
  rw [← Bool.not_eq_true, inS_iff]
  intro hm
  have h3 : endWords.all (fun m => !inS marks m) = true := by decide +kernel
  have h2 := List.all_eq_true.1 h3 s hm
  rw [h] at h2
  cases h2
 rw [this, Bool.false_or]

theorem rEnded_w {l : List Tok} {k lo : Nat} {b : Option Addr} {n es : Nat} {h : Heap} {Q : ARes → Prop} (ht : Toks h lo b n es l) (hl : l.length ≤ 20000) (hx : ∀ t ∈ l, TOk t) (hlo : lo ≤ h.next)
  (hq : ∀ h' b' n' es', Gr h h' → Toks h' lo b' n' es' (lineL k l) → Q (.ret (.slice b' n' es') h')) : WCall Tryz.prog G X 25 [.slice b n es, .int .i64 k] h Q := by
 have hlen := ht.len
 rcases List.eq_nil_or_concat l with rfl | ⟨l0, t, rfl⟩
 ·have h0 : n = 0 := hlen
  subst h0
  refine WCall.walk hX Tryz.func25 rfl rfl Tryz.ntmps25 rfl ?_
  refine QN hX ?_;refine QK (Qb ?_);refine QL ?_;refine QU hX ?_;refine QN hX ?_;refine QK (Qa ?_);refine QK (Qs ?_);refine QK (QD ?_ ?_);intro hh;refine QQ hX ?_;refine QN hX ?_;refine QK (Qa ?_);refine QK (Qb ?_);refine QM ?_;rotate_left;intro hh;exfalso;omega
  refine ⟨_, Wwres, ?_⟩
  exact hq _ _ _ _ Wwgr ht
 rw [List.concat_eq_append] at *
 have htk := hx t (by simp)
 have hln : (l0 ++ [t]).length = l0.length + 1 := by simp
 have hends : lineL k (l0 ++ [t]) = if endsTok t then l0 ++ [t] ++ [⟨5, (⟨#[59]⟩ : ByteArray), 1, k⟩] else l0 ++ [t] := by
  unfold lineL endsL; rw [List.getLast?_append]; rfl
 rcases ht with ⟨_, rfl, _, hf⟩ | ⟨j, rfl, h1j, h2j, rfl, rfl, h3j⟩
 ·omega
 have hget : (l0 ++ [t])[l0.length]? = some t := by simp
 refine WCall.walk hX Tryz.func25 rfl rfl Tryz.ntmps25 rfl ?_
 refine QN hX ?_;refine QK (Qb ?_);refine QL ?_;refine QU hX ?_;refine QN hX ?_;refine QK (Qa ?_);refine QK (Qs ?_);refine QK (QD ?_ ?_);intro hh;exfalso;omega;intro hh;refine QP hX ?_;refine UA ?_;refine QN hX ?_;refine QK (Qa ?_);refine QK (Qa ?_);refine QK (Qs ?_);refine QK (Qg ?_);refine QK (Ql ?_);refine QK ?_
 refine WS.loadG (vs := t.cells) (hc := ?_) (hv' := ?_) (hk := ?_)
 (· rw [cellsOf_length]; omega); (· rw [show 0 + (((l0 ++ [t]).length : Int) - 1).toNat * 4 = l0.length * 4 by omega, cells_at hget]; rfl)
 refine QK (Qw ?_);refine QK (Qv ?_);refine QL ?_;refine QU hX ?_;refine QN hX ?_;refine QK (Qj ?_);refine QK (Qt ?_);refine QK (QG ?_ ?_);intro hh;refine QK (Qa ?_);refine QK (QA ?_);refine QK (QA ?_);refine QK (QA ?_);refine QK (Qc ?_);refine QQ hX ?_;refine QN hX ?_;refine QK (Qz ?_);refine QK (Qa ?_);refine QK ?_;rotate_left;intro hh;refine QK (Qa ?_);refine QK (Qj ?_);refine QK (Qt ?_);refine QK ?_;rotate_left
 ·have he : endsTok t = true := by
   rcases htk with h1 | ⟨h4, _⟩ | ⟨h5, _⟩
   ·unfold endsTok; rw [if_pos (by omega)]
   ·omega
   ·omega
  rw [he, if_pos rfl] at hends
  apply WS.append
  (· rfl); (· rfl); (· exact Wwev); (· exact Wwev); (· rfl); (· rfl); (· intro k hk; cases hk); (· exact fits_at rfl); (· omega); (· exact Wwobj); (· rw [cellsOf_length]; omega); (· rw [List.drop_zero, List.take_of_length_le (by rw [cellsOf_length]; omega)]; exact forceL_some _); (· unfold room; omega); (· exact cells_one _); (· exact .inr ⟨_, 0, _, rfl, rfl, Wwobj, by simp, rfl⟩)
  intro h2 hn2 ho2 hf2
  simp only [Heap.alloc_next, Heap.put_next, Nat.zero_mul, List.take_zero, List.nil_append] at hn2 ho2 hf2
  have g2 : Gr h h2 := ⟨by omega, fun i hi => by
   rw [hf2 i (by omega) (fun off e => by cases e; omega)]
   exact Wwag⟩
  refine QK (Qb ?_);refine QO hX ?_;refine QK (Qa ?_);refine QK (Qa ?_);refine QK (Qn ?_);refine QK (Qz ?_);refine QK ?_
  apply WS.append
  (· rfl); (· rfl); (· exact Wwev); (· exact Wwev); (· rfl); (· rfl); (· intro k hk; cases hk); (· exact fits_at rfl); (· decide); (· exact Wwobj); (· exact Wwlen); (· rfl); (· unfold room; omega); (· rfl)
  (· exact .inr ⟨_, 0, _, rfl, rfl, Wwobj, by rw [cellsOf_length]; omega, by rw [List.drop_zero, List.take_of_length_le (by rw [cellsOf_length]; omega)]⟩)
  intro h3 hn3 ho3 hf3
  simp only [UB, UC] at hn3 ho3 hf3
  refine QK (Qb ?_);refine QM ?_
  refine ⟨_, Wwres, ?_⟩
  refine hq _ _ _ _ ⟨by have := g2.1; omega, fun i hi => ?_⟩ ?_
  ·rw [hf3 i (by have := g2.1; omega) (fun off e => by cases e; omega), ← g2.2 i hi]
   exact Wwag
  ·rw [hends]
   exact .inr ⟨_, rfl, by have := g2.1; exact Wwne, Wwne, rfl, by simp, ho3.trans (by simp [cellsOf, Tok.cells])⟩
 ·refine QJ en27 ?_
  rcases htk with h1 | ⟨h4, hw⟩ | ⟨h5, hm⟩
  ·omega
  ·refine in_w ok_enders (noB_words hw) (by decide) (size_words hw) ?_
   have he : endsTok t = inS enders t.text := by unfold endsTok; rw [if_neg (by omega), if_pos h4, ends_word hw]
   cases hE : inS enders t.text
   ·rw [hE] at he
    rw [he, if_neg Bool.false_ne_true] at hends
    refine QK (Qd ?_);refine QP hX ?_;refine UA ?_;refine QN hX ?_;refine QK (Qa ?_);refine QK (Qb ?_);refine QM ?_
    refine ⟨_, Wwres, ?_⟩
    refine hq _ _ _ _ Wwgr ?_
    rw [hends]
    exact .inr ⟨j, rfl, h1j, Wwne, rfl, rfl, Wwobj⟩
   ·rw [hE] at he
    refine QK (Qd ?_);refine QQ hX ?_;refine QN hX ?_;refine QK (Qz ?_);refine QK (Qa ?_);refine QK ?_
    rw [he, if_pos rfl] at hends
    apply WS.append
    (· rfl); (· rfl); (· exact Wwev); (· exact Wwev); (· rfl); (· rfl); (· intro k hk; cases hk); (· exact fits_at rfl); (· omega); (· exact Wwobj); (· rw [cellsOf_length]; omega); (· rw [List.drop_zero, List.take_of_length_le (by rw [cellsOf_length]; omega)]; exact forceL_some _); (· unfold room; omega); (· exact cells_one _); (· exact .inr ⟨_, 0, _, rfl, rfl, Wwobj, by simp, rfl⟩)
    intro h2 hn2 ho2 hf2
    simp only [Heap.alloc_next, Heap.put_next, Nat.zero_mul, List.take_zero, List.nil_append] at hn2 ho2 hf2
    have g2 : Gr h h2 := ⟨by omega, fun i hi => by
     rw [hf2 i (by omega) (fun off e => by cases e; omega)]
     exact Wwag⟩
    refine QK (Qb ?_);refine QO hX ?_;refine QK (Qa ?_);refine QK (Qa ?_);refine QK (Qn ?_);refine QK (Qz ?_);refine QK ?_
    apply WS.append
    (· rfl); (· rfl); (· exact Wwev); (· exact Wwev); (· rfl); (· rfl); (· intro k hk; cases hk); (· exact fits_at rfl); (· decide); (· exact Wwobj); (· exact Wwlen); (· rfl); (· unfold room; omega); (· rfl)
    (· exact .inr ⟨_, 0, _, rfl, rfl, Wwobj, by rw [cellsOf_length]; omega, by rw [List.drop_zero, List.take_of_length_le (by rw [cellsOf_length]; omega)]⟩)
    intro h3 hn3 ho3 hf3
    simp only [UB, UC] at hn3 ho3 hf3
    refine QK (Qb ?_);refine QM ?_
    refine ⟨_, Wwres, ?_⟩
    refine hq _ _ _ _ ⟨by have := g2.1; omega, fun i hi => ?_⟩ ?_
    ·rw [hf3 i (by have := g2.1; omega) (fun off e => by cases e; omega), ← g2.2 i hi]
     exact Wwag
    ·rw [hends]
     exact .inr ⟨_, rfl, by have := g2.1; exact Wwne, Wwne, rfl, by simp, ho3.trans (by simp [cellsOf, Tok.cells])⟩
  ·refine in_w ok_enders (noB_marks hm) (by decide) (size_marks hm) ?_
   have he : endsTok t = inS enders t.text := by unfold endsTok; rw [if_neg (by omega), if_neg (by omega), if_pos h5, ends_mark hm]
   cases hE : inS enders t.text
   ·rw [hE] at he
    rw [he, if_neg Bool.false_ne_true] at hends
    refine QK (Qd ?_);refine QP hX ?_;refine UA ?_;refine QN hX ?_;refine QK (Qa ?_);refine QK (Qb ?_);refine QM ?_
    refine ⟨_, Wwres, ?_⟩
    refine hq _ _ _ _ Wwgr ?_
    rw [hends]
    exact .inr ⟨j, rfl, h1j, Wwne, rfl, rfl, Wwobj⟩
   ·rw [hE] at he
    refine QK (Qd ?_);refine QQ hX ?_;refine QN hX ?_;refine QK (Qz ?_);refine QK (Qa ?_);refine QK ?_
    rw [he, if_pos rfl] at hends
    apply WS.append
    (· rfl); (· rfl); (· exact Wwev); (· exact Wwev); (· rfl); (· rfl); (· intro k hk; cases hk); (· exact fits_at rfl); (· omega); (· exact Wwobj); (· rw [cellsOf_length]; omega); (· rw [List.drop_zero, List.take_of_length_le (by rw [cellsOf_length]; omega)]; exact forceL_some _); (· unfold room; omega); (· exact cells_one _); (· exact .inr ⟨_, 0, _, rfl, rfl, Wwobj, by simp, rfl⟩)
    intro h2 hn2 ho2 hf2
    simp only [Heap.alloc_next, Heap.put_next, Nat.zero_mul, List.take_zero, List.nil_append] at hn2 ho2 hf2
    have g2 : Gr h h2 := ⟨by omega, fun i hi => by
     rw [hf2 i (by omega) (fun off e => by cases e; omega)]
     exact Wwag⟩
    refine QK (Qb ?_);refine QO hX ?_;refine QK (Qa ?_);refine QK (Qa ?_);refine QK (Qn ?_);refine QK (Qz ?_);refine QK ?_
    apply WS.append
    (· rfl); (· rfl); (· exact Wwev); (· exact Wwev); (· rfl); (· rfl); (· intro k hk; cases hk); (· exact fits_at rfl); (· decide); (· exact Wwobj); (· exact Wwlen); (· rfl); (· unfold room; omega); (· rfl)
    (· exact .inr ⟨_, 0, _, rfl, rfl, Wwobj, by rw [cellsOf_length]; omega, by rw [List.drop_zero, List.take_of_length_le (by rw [cellsOf_length]; omega)]⟩)
    intro h3 hn3 ho3 hf3
    simp only [UB, UC] at hn3 ho3 hf3
    refine QK (Qb ?_);refine QM ?_
    refine ⟨_, Wwres, ?_⟩
    refine hq _ _ _ _ ⟨by have := g2.1; omega, fun i hi => ?_⟩ ?_
    ·rw [hf3 i (by have := g2.1; omega) (fun off e => by cases e; omega), ← g2.2 i hi]
     exact Wwag
    ·rw [hends]
     exact .inr ⟨_, rfl, by have := g2.1; exact Wwne, Wwne, rfl, by simp, ho3.trans (by simp [cellsOf, Tok.cells])⟩

end Go.Proofs.ZL
