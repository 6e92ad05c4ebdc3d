/- ParseBinds: the walk. USEEQ -/
import Derived.Test.YtoifleamknbeaaaGreatDoorYXG
import Derived.Test.YtoifleamknbeaaaGreatDoorYXH
import Derived.Test.YtoifleamknbeaaaGreatDoorZA4
open Go Go.Am
namespace Go.Proofs.ZL
set_option maxRecDepth 100000
set_option linter.unusedSimpArgs false
set_option linter.unusedVariables false
set_option maxHeartbeats 1000000

theorem NV.gr {h h' : Heap} {S : Nat → Prop} {vs : List Value} {t : Nd} (hv : NV h S vs t) (g : Gr h h') : NV h' S vs t := hv.mono g.1 fun j hj hlt => ⟨hj, g.2 j hlt⟩
theorem parse_v {src : ByteArray} {t : Nd} {st p : Int} (hT : parseT src = (t, st, p)) {h : Heap} {Q : ARes → Prop}
  (hq : ∀ h' b m es, Gr h h' → NV h' (fun j => h.next ≤ j) (ncells t b m es) t → Q (.ret (.tuple #[.agg (ncells t b m es).toArray, .agg #[.int .i64 st, .int .i64 p]]) h')) : WCall Tryz.prog G X 12 [.string src] h Q :=
 Parse_w (n := 200000) (by omega) (by rw [(parseN_some src).1, hT]) hq

theorem ASl_gr {h h' : Heap} {b : Option Addr} {n es : Nat} {vs : List Value} (ha : ASl h b n es vs) (g : Gr h h') : ASl h' b n es vs := by
 rcases ha with ⟨rfl, rfl, rfl, rfl⟩ | ⟨i, rfl, h1, rfl, rfl, h2⟩
 ·exact .inl ⟨rfl, rfl, rfl, rfl⟩
 ·exact .inr ⟨i, rfl, Nat.lt_of_lt_of_le h1 g.1, rfl, rfl, g.at h1 h2⟩
theorem CV.ne {h : Heap} {lo n es i : Nat} {b : Option Addr} {vs : List Value} (c : CV h lo b n es vs) (hi : i < lo) : ∀ off, b ≠ some ⟨i, off, none⟩ := by
 intro off e
 rcases c with ⟨rfl, _⟩ | ⟨j, rfl, h0, _⟩
 ·cases e
 ·cases e; omega

theorem btsA (a b : List UInt8) : bts a ++ bts b = bts (a ++ b) := by
 apply ByteArray.ext
 rw [ByteArray.data_append]
 simp [bts]
theorem CV.lo {h : Heap} {lo lo' n es : Nat} {b : Option Addr} {vs : List Value} (c : CV h lo b n es vs) (hl : lo' ≤ lo) : CV h lo' b n es vs := by
 rcases c with ⟨rfl, rfl, rfl, rfl⟩ | ⟨i, rfl, h0, h1, rfl, rfl, h2⟩
 ·exact .inl ⟨rfl, rfl, rfl, rfl⟩
 ·exact .inr ⟨i, rfl, by omega, h1, rfl, rfl, h2⟩
theorem os_row0 : ∀ (ks : List Nat) (i : Nat), os (row0 ks i) = ks
 | [], _ => rfl
 | k :: ks, i => by
  show k :: os (row0 ks (i + 1)) = _
  rw [os_row0 ks (i + 1)]
theorem mem_rtx : ∀ (r : List (Nat × Ex)) (p : Nat × Ex), p ∈ r → p.2.tx.length ≤ (rtx r).length
 | q :: r, p, hp => by
  have e : (rtx (q :: r)).length = (opB q.1).length + q.2.tx.length + (rtx r).length := by unfold rtx; rw [List.flatMap_cons, List.length_append, List.length_append]
  rcases List.mem_cons.1 hp with h | h
  ·subst h; omega
  ·have := mem_rtx r p h; omega
theorem us_size {N W : Nat} {t : Nd} {u e : Ex} {r : List (Nat × Ex)} (h : RowI N W t u r) (he : e ∈ us u r) : e.tx.length ≤ W := by
 have hw := h.wt
 rw [List.length_append] at hw
 rcases List.mem_cons.1 he with rfl | he
 ·omega
 ·obtain ⟨p, hp, rfl⟩ := List.mem_map.1 he
  have := mem_rtx r p hp
  omega
def opV : List Value := opL.map Value.string
def lvV : List Value := lvL.map fun k => Value.int .i64 ((k : Nat) : Int)
def ksV (l : List Nat) : List Value := l.map fun k => Value.int .i64 ((k : Nat) : Int)
def usV (l : List Ex) : List Value := l.map fun e => Value.string (bts e.tx)
theorem usV_len (l : List Ex) : (usV l).length = l.length := by simp [usV]
theorem ksV_len (l : List Nat) : (ksV l).length = l.length := by simp [ksV]
theorem usV_one : ∀ l : List Ex, (usV l).all (·.oneCell') = true
 | [] => rfl
 | e :: l => usV_one l
theorem ksV_one : ∀ l : List Nat, (ksV l).all (·.oneCell') = true
 | [] => rfl
 | e :: l => ksV_one l
theorem dsum_mem : ∀ (r : List (Nat × Ex)) (p : Nat × Ex), p ∈ r → p.2.dp ≤ dsum r
 | q :: r, p, hp => by
  have e : dsum (q :: r) = q.2.dp + dsum r := by unfold dsum; rw [List.map_cons, List.sum_cons]
  rcases List.mem_cons.1 hp with h | h
  ·subst h; omega
  ·have := dsum_mem r p h; omega
theorem RowI.law {N W : Nat} {t : Nd} {u : Ex} {r : List (Nat × Ex)} (h : RowI N W t u r) (hN : N ≤ 39) (hW : W ≤ 8000) : (parseT (bts (rowB u r))).2.1 = 0 ∧ (parseT (bts (rowB u r))).2.2 = 0 ∧ bareN (parseT (bts (rowB u r))).1 = bareN (rowF t) := by
 have hd := h.dp
 have hw := h.wt
 exact row_law h.ok.1 h.ok.2 h.nms.1 h.nms.2 (by omega) (fun p hp => by have := dsum_mem r p hp; omega) (by omega) h.bnd
structure Bas (h1 H : Heap) : Prop where
 nx : h1.next + 2 ≤ H.next
 o1 : H.obj h1.next = some (.cells false opV)
 o2 : H.obj (h1.next + 1) = some (.cells false lvV)
 old : ∀ j, j < h1.next → H.obj j = h1.obj j
theorem Bas.mono {h1 H H' : Heap} (b : Bas h1 H) (hn : H.next ≤ H'.next) (ho : ∀ j, j < h1.next + 2 → H'.obj j = H.obj j) : Bas h1 H' :=
 ⟨Nat.le_trans b.nx hn, by rw [ho _ (by omega)]; exact b.o1, by rw [ho _ (by omega)]; exact b.o2, fun j hj => by rw [ho _ (by omega)]; exact b.old j hj⟩

theorem parseBinds_w {b : Option Addr} {n es : Nat} {zs : List Int} {h : Heap} {Q : ARes → Prop} (ha : ASl h b n es (zs.map (Value.int .i64))) (hwf : ∀ z ∈ zs, (Lit.int .i64 z).wf = true) (hq : ∀ h', Q (.ret (.bool true) h')) : WCall Tryz.prog G X 6 [.slice b n es] h Q := by
 have hn := ha.len
 rw [List.length_map] at hn
 have hrg : ∀ z ∈ zs, -9223372036854775808 ≤ z ∧ z ≤ 9223372036854775807 := fun z hz => by
  have := hwf z hz
  simp [Lit.wf] at this
  exact this
 refine WCall.walk hX Tryz.func6 rfl rfl Tryz.ntmps6 rfl ?_
 refine QN hX ?_;refine QK (Qb ?_);refine QL ?_;refine QU hX ?_;refine QN hX ?_;refine QK ?_
 refine QJ en11 ?_
 refine anchor_w fun h1 g1 => ?_
 replace ha := ASl_gr ha g1
 refine QK (Qe ?_);refine QP hX ?_;refine UA ?_;refine QU hX ?_;refine QN hX ?_;refine QK (Qa ?_);refine QK (Qs ?_);refine QK (QH ?_ ?_);intro hh;refine QQ hX ?_;refine QN hX ?_;refine QK (Qb ?_);refine QM ?_;rotate_left;intro hh;refine QP hX ?_;refine UA ?_;refine QN hX ?_;refine QK (Qy ?_);refine QK (Qb ?_);refine QO hX ?_;refine QK (Qy ?_);refine QK (Qb ?_);refine QO hX ?_;refine QK (Qb ?_);refine QL ?_;refine QU hX ?_;refine QN hX ?_;refine QK (Qa ?_);refine QK (Qs ?_);refine QK (Qa ?_);refine QL ?_;refine WC.block hX ?_;rotate_left
 ·((apply Exists.intro; apply And.intro; (· repeat (first | exact resultA_nil | (apply resultA_tmp; (· (first | rfl | assumption))) | (apply resultA_cellG; (· (first | rfl | assumption)); (· rfl); (· exact sz_at rfl); (· (repeat (first | assumption | (with_reducible rfl) | exact obj_new | exact obj_put | (refine obj_old (by (first | omega | (simp only [Heap.alloc_next, Heap.put_next]; omega))) ?_) | (refine obj_else (by (first | omega | (simp only [Heap.alloc_next, Heap.put_next]; omega))) ?_) | (apply Gr.at; (· assumption); (· (first | omega | (simp only [Heap.alloc_next, Heap.put_next]; omega)))) | (apply Fr1.at; (· assumption); (· (first | omega | (simp only [Heap.alloc_next, Heap.put_next]; omega))); (· (first | omega | (simp only [Heap.alloc_next, Heap.put_next]; omega))))))); (· (first | (exact Nat.le_of_ble_eq_true rfl) | (simp; done) | omega)); (· rfl)) | (apply resultA_cellS; (· (first | rfl | assumption)); (· rfl); (· (repeat (first | assumption | (with_reducible rfl) | exact obj_new | exact obj_put | (refine obj_old (by (first | omega | (simp only [Heap.alloc_next, Heap.put_next]; omega))) ?_) | (refine obj_else (by (first | omega | (simp only [Heap.alloc_next, Heap.put_next]; omega))) ?_) | (apply Gr.at; (· assumption); (· (first | omega | (simp only [Heap.alloc_next, Heap.put_next]; omega)))) | (apply Fr1.at; (· assumption); (· (first | omega | (simp only [Heap.alloc_next, Heap.put_next]; omega))); (· (first | omega | (simp only [Heap.alloc_next, Heap.put_next]; omega))))))); (· rfl)))))); exact hq _
 have hB : Bas h1 ((h1.alloc (.cells false opV)).alloc (.cells false lvV)) := ⟨Wwne, Wwobj, Wwobj, fun j hj => Wwag⟩
 refine WC.loopInv hX (α := List Nat) (m := fun ks => n - ks.length) (Inv := fun ks v h' => v 3 = some (.slice (some ⟨h1.next, 0, none⟩) 13 1) ∧ v 4 = some (.slice (some ⟨h1.next + 1, 0, none⟩) 13 1) ∧ (∃ b5 es5, v 5 = some (.slice b5 ks.length es5) ∧ CV h' (h1.next + 2) b5 ks.length es5 (ksV ks)) ∧
   v 27 = some (.slice b n es) ∧ v 28 = some (.int .i64 n) ∧ v 29 = some (.int .i64 ((ks.length : Nat) : Int)) ∧ Bas h1 h' ∧ ks.length ≤ n ∧ ∀ k ∈ ks, k < 13)
  [] ⟨rfl, rfl, ⟨none, 0, rfl, .inl ⟨rfl, rfl, rfl, rfl⟩⟩, rfl, rfl, rfl, hB, by simp, by simp⟩ ?_
 rintro ks v h2 ih ⟨e3, e4, ⟨b5, es5, e5, c5⟩, e27, e28, e29, hB2, hle, hks⟩
 have hnx := hB2.nx
 by_cases hlt : ks.length < n
 ·rcases ha with ⟨_, hf, _, _⟩ | ⟨j, rfl, h1j, rfl, _, h3j⟩
  ·omega
  have h3c : h2.obj j = some (.cells true (zs.map (Value.int .i64))) := by rw [hB2.old j h1j]; exact h3j
  have hget : zs[ks.length]? = some (zs[ks.length]'(by omega)) := List.getElem?_eq_getElem _
  have hr := hrg (zs[ks.length]'(by omega)) (List.getElem_mem _)
  generalize zs[ks.length]'(by omega) = z at hget hr
  refine QN hX ?_;refine QK (QF ?_ ?_);intro hh;refine QL ?_;refine QU hX ?_;refine QR hX ?_;refine UA ?_;refine QU hX ?_;refine WC.block hX ?_;refine QN hX ?_;refine QK (Ql ?_);refine QK ?_;rotate_left;intro hh;exfalso;omega
  refine WS.loadS (v := .int .i64 z) (hc := ?_) (hk := ?_)
  (· rw [show 0 + ((ks.length : Nat) : Int).toNat * 1 = ks.length by omega, List.getElem?_map, hget]; rfl)
  refine QK (Qb ?_);refine QL ?_;refine QU hX ?_;refine QN hX ?_;refine QK (Qa ?_);refine QK (QF ?_ ?_);intro hh;refine QK (Qa ?_);refine QK (QA ?_);refine QK (QA ?_);refine QK (QA ?_);refine QK (QA ?_);refine QK (Qc ?_);refine QQ hX ?_;refine QN hX ?_;refine QK (Qb ?_);refine QM ?_;rotate_left;intro hh;refine QK (Qa ?_);refine QK (Qa ?_);refine QK (Qa ?_);refine QK (Qs ?_);refine QK (QI ?_ ?_);intro hh;refine QK (Qd ?_);refine QQ hX ?_;refine QN hX ?_;refine QK (Qb ?_);refine QM ?_;rotate_left;intro hh;refine QK (Qd ?_);refine QP hX ?_;refine UA ?_;refine QV hX ?_;refine QK (Qa ?_);refine QK (Qa ?_);refine QK (Qy ?_);refine QK ?_;rotate_left
  ·((apply Exists.intro; apply And.intro; (· repeat (first | exact resultA_nil | (apply resultA_tmp; (· (first | rfl | assumption))) | (apply resultA_cellG; (· (first | rfl | assumption)); (· rfl); (· exact sz_at rfl); (· (repeat (first | assumption | (with_reducible rfl) | exact obj_new | exact obj_put | (refine obj_old (by (first | omega | (simp only [Heap.alloc_next, Heap.put_next]; omega))) ?_) | (refine obj_else (by (first | omega | (simp only [Heap.alloc_next, Heap.put_next]; omega))) ?_) | (apply Gr.at; (· assumption); (· (first | omega | (simp only [Heap.alloc_next, Heap.put_next]; omega)))) | (apply Fr1.at; (· assumption); (· (first | omega | (simp only [Heap.alloc_next, Heap.put_next]; omega))); (· (first | omega | (simp only [Heap.alloc_next, Heap.put_next]; omega))))))); (· (first | (exact Nat.le_of_ble_eq_true rfl) | (simp; done) | omega)); (· rfl)) | (apply resultA_cellS; (· (first | rfl | assumption)); (· rfl); (· (repeat (first | assumption | (with_reducible rfl) | exact obj_new | exact obj_put | (refine obj_old (by (first | omega | (simp only [Heap.alloc_next, Heap.put_next]; omega))) ?_) | (refine obj_else (by (first | omega | (simp only [Heap.alloc_next, Heap.put_next]; omega))) ?_) | (apply Gr.at; (· assumption); (· (first | omega | (simp only [Heap.alloc_next, Heap.put_next]; omega)))) | (apply Fr1.at; (· assumption); (· (first | omega | (simp only [Heap.alloc_next, Heap.put_next]; omega))); (· (first | omega | (simp only [Heap.alloc_next, Heap.put_next]; omega))))))); (· rfl)))))); exact hq _
  ·((apply Exists.intro; apply And.intro; (· repeat (first | exact resultA_nil | (apply resultA_tmp; (· (first | rfl | assumption))) | (apply resultA_cellG; (· (first | rfl | assumption)); (· rfl); (· exact sz_at rfl); (· (repeat (first | assumption | (with_reducible rfl) | exact obj_new | exact obj_put | (refine obj_old (by (first | omega | (simp only [Heap.alloc_next, Heap.put_next]; omega))) ?_) | (refine obj_else (by (first | omega | (simp only [Heap.alloc_next, Heap.put_next]; omega))) ?_) | (apply Gr.at; (· assumption); (· (first | omega | (simp only [Heap.alloc_next, Heap.put_next]; omega)))) | (apply Fr1.at; (· assumption); (· (first | omega | (simp only [Heap.alloc_next, Heap.put_next]; omega))); (· (first | omega | (simp only [Heap.alloc_next, Heap.put_next]; omega))))))); (· (first | (exact Nat.le_of_ble_eq_true rfl) | (simp; done) | omega)); (· rfl)) | (apply resultA_cellS; (· (first | rfl | assumption)); (· rfl); (· (repeat (first | assumption | (with_reducible rfl) | exact obj_new | exact obj_put | (refine obj_old (by (first | omega | (simp only [Heap.alloc_next, Heap.put_next]; omega))) ?_) | (refine obj_else (by (first | omega | (simp only [Heap.alloc_next, Heap.put_next]; omega))) ?_) | (apply Gr.at; (· assumption); (· (first | omega | (simp only [Heap.alloc_next, Heap.put_next]; omega)))) | (apply Fr1.at; (· assumption); (· (first | omega | (simp only [Heap.alloc_next, Heap.put_next]; omega))); (· (first | omega | (simp only [Heap.alloc_next, Heap.put_next]; omega))))))); (· rfl)))))); exact hq _
  obtain ⟨k, rfl⟩ : ∃ k : Nat, z = (k : Int) := ⟨z.toNat, by omega⟩
  refine WS.appendC (lo := h1.next + 2) (v1 := ksV ks) (v2 := [.int .i64 ((k : Nat) : Int)]) rfl rfl Wwev Wwev rfl rfl (by intro k hk; cases hk) (fits_at rfl) (by unfold room; simp only [List.length_singleton]; omega)
   (c5.mono Wwne fun j h1 h2 => Wwag) (.inr ⟨_, 0, false, _, rfl, rfl, rfl, Wwobj, by simp, rfl⟩) rfl Wwne fun h3 b6 es6 hn3 c6 hf3 => ?_
  (try simp only [UB, UC] at hn3 hf3)
  have hB3 : Bas h1 h3 := hB2.mono (by omega) fun j hj => by rw [hf3 j (by omega) (c5.ne hj)]; exact Wwag
  refine QK (Qb ?_);refine QL ?_;refine QV hX ?_;refine QK (Qf ?_);refine QK (Qa ?_);refine QL ?_
  refine ih (ks ++ [k]) _ _ (by simp; omega) ⟨e3, e4, ⟨b6, es6, by rw [List.length_append]; rfl, by rw [List.length_append]; unfold ksV at c6 ⊢; rw [List.map_append]; exact c6⟩, e27, e28, by rw [List.length_append]; rfl, hB3, by simp; omega, fun q hq => ?_⟩
  rcases List.mem_append.1 hq with hq | hq
  ·exact hks q hq
  ·rw [List.mem_singleton.1 hq]; omega
 have hnk : ks.length = n := by omega
 have hn30 : ks.length ≤ 30 := by omega
 clear ih ha
 refine QN hX ?_;refine QK (QF ?_ ?_);intro hh;exfalso;omega;intro hh;refine QL ?_;refine QU hX ?_;refine QS hX ?_;refine WC.exit ?_;refine exit_here ?_;refine QN hX ?_;refine QK (Qb ?_);refine QO hX ?_;refine QK (Qy ?_);refine QK (Qb ?_);refine QL ?_;refine QU hX ?_;refine QN hX ?_;refine QK (Qa ?_);refine QK (Qs ?_);refine QK (Qa ?_);refine QL ?_;refine WC.block hX ?_
 refine WC.loopInv hX (α := Nat) (m := fun i => ks.length - i) (Inv := fun i v h' => v 3 = some (.slice (some ⟨h1.next, 0, none⟩) 13 1) ∧ v 4 = some (.slice (some ⟨h1.next + 1, 0, none⟩) 13 1) ∧ v 5 = some (.slice b5 ks.length es5) ∧ v 47 = some (.slice b5 ks.length es5) ∧
   v 48 = some (.int .i64 ((ks.length : Nat) : Int)) ∧ v 49 = some (.int .i64 ((i : Nat) : Int)) ∧ v 8 = some (.string (bts ([97] ++ rtx (row0 (ks.take i) 0)))) ∧ (∃ b9 es9, v 9 = some (.slice b9 (i + 1) es9) ∧ CV h' h2.next b9 (i + 1) es9 (usV (us (.nm [97]) (row0 (ks.take i) 0)))) ∧
   h2.next ≤ h'.next ∧ (∀ j, j < h2.next → h'.obj j = h2.obj j) ∧ i ≤ ks.length)
  0 ⟨e3, e4, e5, rfl, rfl, rfl, rfl, ⟨_, _, rfl, .inr ⟨_, rfl, Nat.le_refl _, Wwne, rfl, rfl, Wwobj⟩⟩, Wwne, fun j hj => Wwag, by omega⟩ ?_
 clear e3 e4 e5 e27 e28 e29
 rintro i v h4 ih ⟨e3, e4, e5, e47, e48, e49, e8, ⟨b9, es9, e9, c9⟩, hn4, ho4, hi⟩
 have c5' := c5.mono hn4 fun j _ hj => ho4 j hj
 have B4 := hB2.mono hn4 fun j hj => ho4 j (by omega)
 have hn4' := B4.nx
 by_cases hil : i < ks.length
 ·have hget : ks[i]? = some ks[i] := List.getElem?_eq_getElem hil
  have hk13 := hks _ (List.getElem_mem hil)
  have htk : ks.take (i + 1) = ks.take i ++ [ks[i]] := by rw [List.take_add_one, hget]; rfl
  generalize ks[i] = k at hget hk13 htk
  have hrow : row0 (ks.take (i + 1)) 0 = row0 (ks.take i) 0 ++ [(k, .nm (nmI i))] := by
   rw [htk, row0_app, List.length_take, show 0 + min i ks.length = i by omega]; rfl
  have hlk : (row0 (ks.take i) 0).length = i := by
   have := (row0_fact (ks.take i) 0 fun k hk => hks k (List.mem_of_mem_take hk)).2.2.2.1
   rw [this, List.length_take]; omega
  have hll : (rtx (row0 (ks.take i) 0)).length ≤ 4 * i := by
   have := (row0_fact (ks.take i) 0 fun k hk => hks k (List.mem_of_mem_take hk)).2.2.2.2.1
   rw [List.length_take] at this; omega
  have hsz : (bts ([97] ++ rtx (row0 (ks.take i) 0))).size ≤ 200 := by rw [bts_size, List.length_append]; simp only [List.length_singleton]; omega
  rcases c5' with ⟨_, hf, _, _⟩ | ⟨j5, rfl, hj5, hj5n, rfl, _, o5⟩
  ·omega
  refine QN hX ?_;refine QK (QF ?_ ?_);intro hh;refine QL ?_;refine QU hX ?_;refine QR hX ?_;refine UA ?_;refine QU hX ?_;refine WC.block hX ?_;refine QN hX ?_;refine QK (Qa ?_);refine QK (Ql ?_);refine QK ?_;rotate_left;intro hh;exfalso;omega
  refine WS.loadS (v := .int .i64 ((k : Nat) : Int)) (hc := ?_) (hk := ?_)
  (· unfold ksV; rw [show 0 + ((i : Nat) : Int).toNat * 1 = i by omega, List.getElem?_map, hget]; rfl)
  refine QK (Qb ?_);refine QK (Qb ?_);refine QO hX ?_;refine QK (Qa ?_);refine QK ?_
  have hmod : ((i % 26 : Nat) : Int) < 26 := by have := Nat.mod_lt i (show 26 > 0 by omega); omega
  refine WS.bin (u := .int .i64 ((i : Nat) : Int)) (w := .int .i64 26) (v := .int .i64 ((i % 26 : Nat) : Int)) rfl rfl Wwev Wwev rfl ?_ ?_
  ·show (if (26 : Int) = 0 then none else some (Value.int .i64 (((i : Nat) : Int).tmod 26))) = _
   rw [if_neg (by decide)]
   exact congrArg (fun z => some (Value.int .i64 z)) (Int.ofNat_tmod i 26).symm
  have hname : ((⟨#[98]⟩ : ByteArray) ++ strOf [97 + ((i % 26 : Nat) : Int)] : ByteArray) = bts (nmI i) := btsA [98] _
  have zname : ((⟨#[98]⟩ : ByteArray) ++ strOf [97 + ((i % 26 : Nat) : Int)] : ByteArray).size = 2 := by rw [hname]; rfl
  have hopX := op_at2 hk13
  have zop : (opX k).size ≤ 2 := by rw [← hopX.2.1, bts_size]; rcases hopX.2.2.1 with h | h <;> omega
  have zopn : (opX k ++ ((⟨#[98]⟩ : ByteArray) ++ strOf [97 + ((i % 26 : Nat) : Int)])).size ≤ 4 := by rw [ByteArray.size_append]; omega
  have htab : opV[k]? = some (.string (opX k)) := by
   unfold opV opX
   rw [List.getElem?_map, List.getD_eq_getElem?_getD, List.getElem?_eq_getElem (show k < opL.length from hk13)]
   rfl
  have o1 := B4.o1
  refine QK (Qf ?_);refine QK (WS.convI (hk := ?_));refine QK (Qy ?_);refine QK ?_
  refine WS.conv (fun H' => BSl H' 0 (some ⟨h4.next, 0, none⟩) 1 1 [97 + ((i % 26 : Nat) : Int)]) rfl rfl Wwev (.inr ⟨_, rfl, Nat.zero_le _, Wwne, rfl, rfl, Wwobj⟩) (fun H' hH => hH.str) ?_
  have z1 : (strOf [97 + ((i % 26 : Nat) : Int)]).size = 1 := rfl
  refine QK (Qh ?_);refine QK (Qb ?_);refine QO hX ?_;refine QK (Qa ?_);refine QK (Qa ?_);refine QK (Qa ?_);refine QK (Ql ?_);refine QK ?_
  refine WS.loadS (v := .string (opX k)) (hc := ?_) (hk := ?_)
  (· rw [show 0 + ((k : Nat) : Int).toNat * 1 = k by omega]; exact htab)
  refine QK (Qa ?_);refine QK (Qh ?_);refine QK (Qh ?_);refine QK (Qb ?_);refine QL ?_;refine QV hX ?_;refine QK (Qa ?_);refine QK (Qa ?_);refine QK (Qy ?_);refine QK ?_
  refine WS.appendC (lo := h2.next) (v1 := usV (us (.nm [97]) (row0 (ks.take i) 0))) (v2 := [.string ((⟨#[98]⟩ : ByteArray) ++ strOf [97 + ((i % 26 : Nat) : Int)])]) rfl rfl Wwev Wwev rfl rfl (by intro k hk; cases hk) (fits_at rfl) (by unfold room; simp only [List.length_singleton]; omega)
   (c9.mono Wwne fun j h1 h2 => Wwag) (.inr ⟨_, 0, false, _, rfl, rfl, rfl, Wwobj, by simp, rfl⟩) rfl Wwne fun h5 b6 es6 hn5 c6 hf5 => ?_
  (try simp only [UB, UC] at hn5 hf5)
  refine QK (Qb ?_);refine QL ?_;refine QV hX ?_;refine QK (Qf ?_);refine QK (Qa ?_);refine QL ?_
  refine ih (i + 1) _ _ (by omega) ⟨e3, e4, e5, e47, e48, rfl, congrArg (fun z => some (Value.string z)) ?_, ⟨b6, es6, rfl, ?_⟩, by omega, fun j hj => by rw [hf5 j (by omega) (c9.ne hj), ← ho4 j hj]; exact Wwag, by omega⟩
  ·rw [hname, ← hopX.2.1, btsA, btsA, hrow]
   unfold rtx
   rw [List.flatMap_append]
   simp [Ex.tx]
  ·rw [hname] at c6
   rw [hrow]
   unfold usV us at c6 ⊢
   rw [List.map_append, ← List.cons_append, List.map_append]
   exact c6
 obtain rfl : i = ks.length := by omega
 rw [List.take_length] at e8 c9
 obtain ⟨t, W, hI, hW⟩ := row0_I hks
 have hlv : ∀ p ∈ row0 ks 0, lv p.1 ≤ 5 := fun p hp => ((row0_fact ks 0 hks).2.2.2.2.2 p hp).2
 have hrl := (row0_fact ks 0 hks).2.2.2.1
 have hos : os (row0 ks 0) = ks := os_row0 ks 0
 have hS0 : (bts ([97] ++ rtx (row0 ks 0))).size ≤ 200 := by
  have := (row0_fact ks 0 hks).2.2.2.2.1
  rw [bts_size, List.length_append]; simp only [List.length_singleton]; omega
 have hI0 := hI
 refine QN hX ?_;refine QK (QF ?_ ?_);intro hh;exfalso;omega;intro hh;refine QL ?_;refine QU hX ?_;refine QS hX ?_;refine WC.exit ?_;refine exit_here ?_;refine QU hX ?_;refine QN hX ?_;refine QK (Qb ?_);refine QL ?_;refine WC.block hX ?_
 refine WC.loopInv hX (α := Nat × Ex × List (Nat × Ex)) (m := fun a => a.1) (Inv := fun a v h' => v 3 = some (.slice (some ⟨h1.next, 0, none⟩) 13 1) ∧ v 4 = some (.slice (some ⟨h1.next + 1, 0, none⟩) 13 1) ∧ v 8 = some (.string (bts ([97] ++ rtx (row0 ks 0)))) ∧ v 13 = some (.int .i64 ((a.1 : Nat) : Int)) ∧
   (∃ b5 es5, v 5 = some (.slice b5 a.2.2.length es5) ∧ CV h' (h1.next + 2) b5 a.2.2.length es5 (ksV (os a.2.2))) ∧ (∃ b9 es9, v 9 = some (.slice b9 (a.2.2.length + 1) es9) ∧ CV h' (h1.next + 2) b9 (a.2.2.length + 1) es9 (usV (us a.2.1 a.2.2))) ∧
   Bas h1 h' ∧ a.1 ≤ 5 ∧ RowI ks.length W t a.2.1 a.2.2 ∧ ∀ p ∈ a.2.2, lv p.1 ≤ a.1)
  (5, .nm [97], row0 ks 0) ⟨e3, e4, e8, rfl, ⟨b5, es5, by rw [hrl]; exact e5, by rw [hrl, hos]; exact c5'⟩, ⟨b9, es9, by rw [hrl]; exact e9, by rw [hrl]; exact c9.lo (by omega)⟩, B4, by simp, hI, hlv⟩ ?_
 clear e3 e4 e5 e8 e9 e47 e48 e49 ih c5 c5' c9 hI hlv hn4 ho4 hn4' B4
 rintro ⟨l, u, r⟩ v h6 ihO ⟨e3, e4, e8, e13, ⟨b5, es5, e5, c5⟩, ⟨b9, es9, e9, c9⟩, B6, hl5, hI, hlv⟩
 simp only at e13 e5 c5 e9 c9 hl5 hI hlv
 by_cases hl1 : 1 ≤ l
 rotate_left
 ·have hr0 : r = [] := by
   cases r with
   | nil => rfl
   | cons p r =>
    have h1 := hlv _ List.mem_cons_self
    have h2 := (op_at (hI.ok.2 _ List.mem_cons_self).1).2.1
    omega
  subst hr0
  have L0 := hI0.law (by omega) (by omega)
  have L1 := hI.law (by omega) (by omega)
  have zu := us_size hI (List.mem_cons_self (a := u) (l := []))
  have zub : (bts u.tx).size ≤ 190 := by rw [bts_size]; omega
  have q1 : ((⟨#[102, 117, 110, 99, 32, 102, 40, 41, 32, 123, 32, 120, 32, 61, 32]⟩ : ByteArray) ++ bts ([97] ++ rtx (row0 ks 0)) ++ (⟨#[32, 125]⟩ : ByteArray) : ByteArray) = bts (rowB (.nm [97]) (row0 ks 0)) := by
   rw [show ((⟨#[102, 117, 110, 99, 32, 102, 40, 41, 32, 123, 32, 120, 32, 61, 32]⟩ : ByteArray) : ByteArray) = bts preB from rfl, show ((⟨#[32, 125]⟩ : ByteArray) : ByteArray) = bts [32, 125] from rfl, btsA, btsA]
   congr 1
  have q2 : ((⟨#[102, 117, 110, 99, 32, 102, 40, 41, 32, 123, 32, 120, 32, 61, 32]⟩ : ByteArray) ++ bts u.tx ++ (⟨#[32, 125]⟩ : ByteArray) : ByteArray) = bts (rowB u []) := by
   rw [show ((⟨#[102, 117, 110, 99, 32, 102, 40, 41, 32, 123, 32, 120, 32, 61, 32]⟩ : ByteArray) : ByteArray) = bts preB from rfl, show ((⟨#[32, 125]⟩ : ByteArray) : ByteArray) = bts [32, 125] from rfl, btsA, btsA]
   congr 1
  have s1 : ((⟨#[102, 117, 110, 99, 32, 102, 40, 41, 32, 123, 32, 120, 32, 61, 32]⟩ : ByteArray) ++ bts ([97] ++ rtx (row0 ks 0)) : ByteArray).size ≤ 300 := by rw [ByteArray.size_append]; have : ((⟨#[102, 117, 110, 99, 32, 102, 40, 41, 32, 123, 32, 120, 32, 61, 32]⟩ : ByteArray) : ByteArray).size = 15 := rfl; omega
  have s2 : ((⟨#[102, 117, 110, 99, 32, 102, 40, 41, 32, 123, 32, 120, 32, 61, 32]⟩ : ByteArray) ++ bts u.tx : ByteArray).size ≤ 300 := by rw [ByteArray.size_append]; have : ((⟨#[102, 117, 110, 99, 32, 102, 40, 41, 32, 123, 32, 120, 32, 61, 32]⟩ : ByteArray) : ByteArray).size = 15 := rfl; omega
  rw [← q1] at L0
  rw [← q2] at L1
  have smA := (parseN_some ((⟨#[102, 117, 110, 99, 32, 102, 40, 41, 32, 123, 32, 120, 32, 61, 32]⟩ : ByteArray) ++ bts ([97] ++ rtx (row0 ks 0)) ++ (⟨#[32, 125]⟩ : ByteArray))).2
  have smB := (parseN_some ((⟨#[102, 117, 110, 99, 32, 102, 40, 41, 32, 123, 32, 120, 32, 61, 32]⟩ : ByteArray) ++ bts u.tx ++ (⟨#[32, 125]⟩ : ByteArray))).2
  obtain ⟨ta, sa, pa, hF⟩ : ∃ t s p, parseT ((⟨#[102, 117, 110, 99, 32, 102, 40, 41, 32, 123, 32, 120, 32, 61, 32]⟩ : ByteArray) ++ bts ([97] ++ rtx (row0 ks 0)) ++ (⟨#[32, 125]⟩ : ByteArray)) = (t, s, p) := ⟨_, _, _, rfl⟩
  obtain ⟨tb, sb, pb, hG⟩ : ∃ t s p, parseT ((⟨#[102, 117, 110, 99, 32, 102, 40, 41, 32, 123, 32, 120, 32, 61, 32]⟩ : ByteArray) ++ bts u.tx ++ (⟨#[32, 125]⟩ : ByteArray)) = (t, s, p) := ⟨_, _, _, rfl⟩
  rw [hF] at L0 smA
  rw [hG] at L1 smB
  simp only at L0 L1 smA smB
  obtain ⟨rfl, rfl, La⟩ := L0
  obtain ⟨rfl, rfl, Lb⟩ := L1
  rcases c9 with ⟨_, hf, _, _⟩ | ⟨j9, rfl, hj9, hj9n, rfl, _, o9⟩
  ·omega
  refine QU hX ?_;refine QN hX ?_;refine QK (Qa ?_);refine QK (QI ?_ ?_);intro hh;exfalso;omega;intro hh;refine QP hX ?_;refine WC.exit ?_;refine exit_here ?_;refine QN hX ?_;refine QK (Qa ?_);refine QK (Qh ?_);refine QK (Qh ?_);refine QK ?_
  refine QJ en12 ?_
  refine parse_v hF fun h8 b8 m8 es8 g8 kv8 => ?_
  have hn8 := g8.1
  have o98 := g8.at hj9n o9
  refine QK (Qa ?_);refine QK (Qq ?_);refine QK (Qq ?_);refine QK (Qw ?_);refine QK (Qw ?_);refine QK (Qv ?_);refine QK (Qv ?_);refine QO hX ?_;refine QK (Qa ?_);refine QK (Ql ?_);refine QK (Qt ?_);refine QK (Qh ?_);refine QK (Qh ?_);refine QK ?_
  refine QJ en12 ?_
  refine parse_v hG fun h9 b10 m9 es10 g9 kv9 => ?_
  have hn9 := g9.1
  (try simp only [UB, UC] at hn9)
  have p1 : h9.obj h8.next = some (.cells false (ncells ta b8 m8 es8)) := g9.at Wwne Wwobj
  have p2 : h9.obj (h8.next + 1) = some (.cells false [.int .i64 0, .int .i64 0]) := g9.at Wwne Wwobj
  have G89 : Gr h8 h9 := (show Gr h8 _ from Wwgr).trans g9
  refine QK (Qa ?_);refine QK (Qq ?_);refine QK (Qq ?_);refine QK (Qw ?_);refine QK (Qw ?_);refine QK (Qv ?_);refine QK (Qv ?_);refine QL ?_;refine QU hX ?_;refine WC.drawn (id := 36) hX (l := [⟨0, .read, 0⟩, ⟨1, .pure, 0⟩, ⟨2, .pure, 3⟩, ⟨3, .pure, 7⟩, ⟨4, .read, 15⟩, ⟨5, .pure, 15⟩, ⟨6, .pure, 63⟩, ⟨7, .pure, 127⟩, ⟨8, .pure, 255⟩, ⟨9, .read, 511⟩, ⟨11, .read, 511⟩, ⟨10, .heavy, 1023⟩, ⟨12, .heavy, 4095⟩, ⟨13, .heavy, 8191⟩, ⟨14, .pure, 16383⟩, ⟨15, .pure, 32767⟩]) (hw := ?_);refine QX (k := Qu ?_);refine QW (k := Qn ?_);refine WD.pure (hw := ?_);refine WS_eq26 (h1 := ?_) (h2 := ?_);intro hh;refine QW (k := Qa ?_);refine QX (k := Qu ?_);refine QW (k := Qn ?_);refine WD.pure (hw := ?_);refine WS_eq26 (h1 := ?_) (h2 := ?_);intro hh;refine QW (k := Qc ?_);refine QW (k := Qa ?_);refine QX (k := Qu ?_);refine QX (k := Qu ?_);refine WD.heavy hX (hw := ?_);rotate_left;intro hh;exact absurd (by assumption) hh;intro hh;exfalso;simp at hh
  refine QJ en17 ?_
  refine bare_w (N := 20000) (by omega) (kv8.gr (G89.trans Wwgr)) smA fun h10 b11 n11 es11 g10 kv10 => ?_
  have hn10 := g10.1
  (try simp only [UB, UC] at hn10)
  have q1 : h10.obj h8.next = some (.cells false (ncells ta b8 m8 es8)) := g10.at Wwne Wwobj
  have q2 : h10.obj (h8.next + 1) = some (.cells false [.int .i64 0, .int .i64 0]) := g10.at Wwne Wwobj
  have q3 : h10.obj h9.next = some (.cells false (ncells tb b10 m9 es10)) := g10.at Wwne Wwobj
  have q4 : h10.obj (h9.next + 1) = some (.cells false [.int .i64 0, .int .i64 0]) := g10.at Wwne Wwobj
  have G910 : Gr h9 h10 := (show Gr h9 _ from Wwgr).trans g10
  refine WD.heavy hX (hw := ?_)
  refine QJ en17 ?_
  refine bare_w (N := 20000) (by omega) (kv9.gr G910) smB fun h11 b12 n12 es12 g11 kv11 => ?_
  have r1 := g11.at (by omega) q1
  have r2 := g11.at (by omega) q2
  have r3 := g11.at (by omega) q3
  have r4 := g11.at (by omega) q4
  have hn11 := g11.1
  refine WD.heavy hX (hw := ?_)
  refine QJ en14 ?_
  refine same_w (N := 20000) (by omega) (kv10.gr g11) kv11 smA.bare fun h12 rr g12 hr => ?_
  have r5 := g12.at (by omega) r1
  have r6 := g12.at (by omega) r2
  have r7 := g12.at (by omega) r3
  have r8 := g12.at (by omega) r4
  have hr1 := hr.2 (La.trans Lb.symm)
  subst hr1
  refine QW (k := Qc ?_);refine QW (k := Qb ?_);refine WD.nil (hq := ?_);refine WC.ret ?_
  refine ⟨_, Wwres, ?_⟩
  exact hq _
 refine QU hX ?_;refine QN hX ?_;refine QK (Qa ?_);refine QK (QI ?_ ?_);intro hh;refine QQ hX ?_;refine UA ?_;refine QU hX ?_;refine WC.block hX ?_;refine QN hX ?_;refine QK (Qb ?_);refine QL ?_;refine WC.block hX ?_;rotate_left;intro hh;exfalso;omega
 refine WC.loopInv hX (α := Nat × Ex × List (Nat × Ex)) (m := fun a => 2 * a.2.2.length - a.1) (Inv := fun a v h' => v 3 = some (.slice (some ⟨h1.next, 0, none⟩) 13 1) ∧ v 4 = some (.slice (some ⟨h1.next + 1, 0, none⟩) 13 1) ∧ v 8 = some (.string (bts ([97] ++ rtx (row0 ks 0)))) ∧ v 13 = some (.int .i64 ((l : Nat) : Int)) ∧ v 14 = some (.int .i64 ((a.1 : Nat) : Int)) ∧
   (∃ b5 es5, v 5 = some (.slice b5 a.2.2.length es5) ∧ CV h' (h1.next + 2) b5 a.2.2.length es5 (ksV (os a.2.2))) ∧ (∃ b9 es9, v 9 = some (.slice b9 (a.2.2.length + 1) es9) ∧ CV h' (h1.next + 2) b9 (a.2.2.length + 1) es9 (usV (us a.2.1 a.2.2))) ∧
   Bas h1 h' ∧ RowI ks.length W t a.2.1 a.2.2 ∧ (∀ p ∈ a.2.2, lv p.1 ≤ l) ∧ a.1 ≤ a.2.2.length ∧ ∀ j p, j < a.1 → a.2.2[j]? = some p → lv p.1 < l)
  (0, u, r) ⟨e3, e4, e8, e13, rfl, ⟨b5, es5, e5, c5⟩, ⟨b9, es9, e9, c9⟩, B6, hI, hlv, by simp, fun j p hj => by simp at hj⟩ ?_
 clear e3 e4 e5 e8 e9 e13 c5 c9 hI hlv B6
 rintro ⟨i, u, r⟩ v h7 ihI ⟨e3, e4, e8, e13, e14, ⟨b5, es5, e5, c5⟩, ⟨b9, es9, e9, c9⟩, B7, hI, hlv, hi, hlow⟩
 simp only at e14 e5 c5 e9 c9 hI hlv hi hlow
 have hn7 := B7.nx
 have o1 := B7.o1
 have o2 := B7.o2
 by_cases hil : i < r.length
 rotate_left
 ·refine QU hX ?_;refine QN hX ?_;refine QK (Qa ?_);refine QK (Qa ?_);refine QK (Qs ?_);refine QK (QF ?_ ?_);intro hh;exfalso;omega;intro hh;refine QP hX ?_;refine WC.exit ?_;refine exit_here ?_;refine QV hX ?_;refine QK (Qa ?_);refine QK (Qg ?_);refine QK (Qb ?_);refine QL ?_
  refine ihO (l - 1, u, r) _ _ (by simp only; omega) ⟨e3, e4, e8, by simp only [upd]; rw [Int.natCast_sub hl1]; rfl, ⟨b5, es5, e5, c5⟩, ⟨b9, es9, e9, c9⟩, B7, by simp only; omega, hI, fun p hp => ?_⟩
  obtain ⟨j, hj⟩ := List.getElem?_of_mem hp
  have hjl : j < r.length := (List.getElem?_eq_some_iff.1 hj).1
  have := hlow j p (by omega) hj
  simp only; omega
 rcases c5 with ⟨_, hf, _, _⟩ | ⟨j5, rfl, hj5, hj5n, rfl, _, o5⟩
 ·omega
 rcases c9 with ⟨_, hf, _, _⟩ | ⟨j9, rfl, hj9, hj9n, rfl, _, o9⟩
 ·omega
 have hri := List.getElem?_eq_getElem hil
 have hk13 := (hI.ok.2 _ (List.getElem_mem hil)).1
 have hko : (os r)[i]? = some (r[i]).1 := by unfold os; rw [List.getElem?_map, hri]; rfl
 have hlvi := hlv _ (List.getElem_mem hil)
 have hmerge := fun h1 h2 => @RowI.merge _ _ l i _ u r hI hil h1 h2 hlv hl1
 generalize r[i] = pk at *
 obtain ⟨k, ek⟩ := pk
 simp only at hk13 hko hlvi hmerge
 have htab : opV[k]? = some (.string (opX k)) := by
  unfold opV opX
  rw [List.getElem?_map, List.getD_eq_getElem?_getD, List.getElem?_eq_getElem (show k < opL.length from hk13)]
  rfl
 have hltab : lvV[k]? = some (.int .i64 ((lv k : Nat) : Int)) := by
  unfold lvV lv
  rw [List.getElem?_map, List.getD_eq_getElem?_getD, List.getElem?_eq_getElem (show k < lvL.length from hk13)]
  rfl
 refine QU hX ?_;refine QN hX ?_;refine QK (Qa ?_);refine QK (Qa ?_);refine QK (Qs ?_);refine QK (QF ?_ ?_);intro hh;refine QQ hX ?_;refine UA ?_;refine WC.block hX ?_;refine QU hX ?_;refine QN hX ?_;refine QK (Qa ?_);refine QK (Qa ?_);refine QK (Qa ?_);refine QK (Ql ?_);refine QK ?_;rotate_left;intro hh;exfalso;omega
 refine WS.loadS (v := .int .i64 ((k : Nat) : Int)) (hc := ?_) (hk := ?_)
 (· unfold ksV; rw [show 0 + ((i : Nat) : Int).toNat * 1 = i by omega, List.getElem?_map, hko]; rfl)
 refine QK (Ql ?_);refine QK ?_
 refine WS.loadS (v := .int .i64 ((lv k : Nat) : Int)) (hc := ?_) (hk := ?_)
 (· rw [show 0 + ((k : Nat) : Int).toNat * 1 = k by omega]; exact hltab)
 have hr30 : r.length ≤ 30 := by have := hI.dp; omega
 have hul := us_len u r
 have hx := List.getElem?_eq_getElem (l := us u r) (i := i) (by omega)
 have hy := List.getElem?_eq_getElem (l := us u r) (i := i + 1) (by omega)
 have zx := us_size hI (List.getElem_mem (l := us u r) (n := i) (by omega))
 have zy := us_size hI (List.getElem_mem (l := us u r) (n := i + 1) (by omega))
 generalize (us u r)[i]'(by omega) = x at hx zx
 generalize (us u r)[i + 1]'(by omega) = y at hy zy
 obtain ⟨hmu, hmo⟩ := mgAt_us i u r x y k hx hy hko
 have hml := mgAt_len i u r hil
 have hopX := op_at2 hk13
 have zop : (opX k).size ≤ 2 := by rw [← hopX.2.1, bts_size]; rcases hopX.2.2.1 with h | h <;> omega
 have zbx : (bts x.tx).size ≤ 190 := by rw [bts_size]; omega
 have zby : (bts y.tx).size ≤ 190 := by rw [bts_size]; omega
 have w1 : ((⟨#[40]⟩ : ByteArray) ++ bts x.tx).size ≤ 200 := by rw [ByteArray.size_append, bts_size]; have : ((⟨#[40]⟩ : ByteArray) : ByteArray).size = 1 := rfl; omega
 have w2 : ((⟨#[40]⟩ : ByteArray) ++ bts x.tx ++ opX k).size ≤ 202 := by rw [ByteArray.size_append]; omega
 have w3 : ((⟨#[40]⟩ : ByteArray) ++ bts x.tx ++ opX k ++ bts y.tx).size ≤ 402 := by rw [ByteArray.size_append, bts_size]; omega
 have htx : ((⟨#[40]⟩ : ByteArray) ++ bts x.tx ++ opX k ++ bts y.tx ++ (⟨#[41]⟩ : ByteArray) : ByteArray) = bts (Ex.pr x k y).tx := by
  rw [← hopX.2.1, show ((⟨#[40]⟩ : ByteArray) : ByteArray) = bts [40] from rfl, show ((⟨#[41]⟩ : ByteArray) : ByteArray) = bts [41] from rfl, btsA, btsA, btsA, btsA]
  congr 1
  simp [Ex.tx]
 refine QK (Qa ?_);refine QK (QE ?_ ?_);intro hh;refine QQ hX ?_;refine QN hX ?_;refine QK (Qa ?_);refine QK (Qf ?_);refine QK (Qb ?_);refine QL ?_;refine WC.exit ?_;refine exit_here ?_;rotate_left;intro hh;refine QP hX ?_;refine UA ?_;refine QU hX ?_;refine WC.drawn (id := 31) hX (l := [⟨0, .pure, 0⟩, ⟨1, .pure, 0⟩, ⟨2, .pure, 3⟩, ⟨3, .read, 7⟩, ⟨4, .pure, 15⟩, ⟨5, .pure, 0⟩, ⟨6, .pure, 0⟩, ⟨7, .pure, 0⟩, ⟨8, .pure, 192⟩, ⟨9, .read, 448⟩, ⟨10, .pure, 992⟩, ⟨11, .read, 2016⟩, ⟨12, .pure, 4095⟩, ⟨13, .pure, 0⟩, ⟨14, .pure, 0⟩, ⟨15, .pure, 16384⟩, ⟨16, .pure, 57344⟩, ⟨17, .read, 122880⟩, ⟨18, .pure, 262143⟩, ⟨19, .pure, 524287⟩, ⟨20, .pure, 1048575⟩]) (hw := ?_);refine QW (k := Qa ?_);refine QW (k := Qa ?_);refine QW (k := Ql ?_);refine WD.read (hw := ?_);rotate_left
 ·refine ihI (i + 1, u, r) _ _ (by simp only; omega) ⟨e3, e4, e8, e13, rfl, ⟨_, _, e5, .inr ⟨j5, rfl, hj5, hj5n, rfl, by simp [ksV, os], o5⟩⟩, ⟨_, _, e9, .inr ⟨j9, rfl, hj9, hj9n, rfl, by simp [usV, us], o9⟩⟩, B7, hI, hlv, by simp only; omega, fun j p hj hp => ?_⟩
  simp only at hj hp
  rcases Nat.lt_succ_iff_lt_or_eq.1 hj with hj | rfl
  ·exact hlow j p hj hp
  ·rw [hri] at hp
   cases hp
   simp only; omega
 refine WS.loadS (v := .string (bts x.tx)) (hc := ?_) (hk := ?_)
 (· unfold usV; rw [show 0 + ((i : Nat) : Int).toNat * 1 = i by omega, List.getElem?_map, hx]; rfl)
 refine QW (k := Qh ?_);refine QW (k := Qa ?_);refine QW (k := Qa ?_);refine QW (k := Qa ?_);refine QW (k := Ql ?_);refine WD.read (hw := ?_)
 refine WS.loadS (v := .int .i64 ((k : Nat) : Int)) (hc := ?_) (hk := ?_)
 (· unfold ksV; rw [show 0 + ((i : Nat) : Int).toNat * 1 = i by omega, List.getElem?_map, hko]; rfl)
 refine QW (k := Ql ?_);refine WD.read (hw := ?_)
 refine WS.loadS (v := .string (opX k)) (hc := ?_) (hk := ?_)
 (· rw [show 0 + ((k : Nat) : Int).toNat * 1 = k by omega]; exact htab)
 refine QW (k := Qh ?_);refine QW (k := Qa ?_);refine QW (k := Qa ?_);refine QW (k := Qf ?_);refine QW (k := Ql ?_);refine WD.read (hw := ?_)
 refine WS.loadS (v := .string (bts y.tx)) (hc := ?_) (hk := ?_)
 (· unfold usV; rw [show 0 + (((i : Nat) : Int) + 1).toNat * 1 = i + 1 by omega, List.getElem?_map, hy]; rfl)
 refine QW (k := Qh ?_);refine QW (k := Qh ?_);refine QW (k := Qb ?_);refine WD.nil (hq := ?_);refine QU hX ?_;refine WC.drawn (id := 32) hX (l := [⟨0, .alloc, 0⟩, ⟨1, .pure, 0⟩, ⟨2, .pure, 0⟩, ⟨3, .pure, 6⟩, ⟨5, .pure, 0⟩, ⟨6, .alloc, 32⟩, ⟨8, .pure, 0⟩, ⟨9, .pure, 0⟩, ⟨10, .pure, 512⟩, ⟨11, .pure, 1792⟩, ⟨4, .heavy, 15⟩, ⟨7, .heavy, 127⟩, ⟨12, .heavy, 4095⟩, ⟨13, .pure, 8191⟩]) (hw := ?_);refine WD.alloc (hw := Qz ?_);refine QW (k := Qa ?_);refine QW (k := Qa ?_);refine WD.pure (hw := ?_)
 rw [htx]
 refine WS.slice (u := .slice (some ⟨j9, 0, none⟩) (r.length + 1) 1) (l := []) (r := [.int .i64 ((i : Nat) : Int)]) (v := .slice (some ⟨j9, 0, none⟩) i 1) rfl rfl Wwev rfl rfl (slice_hi rfl (sz_at rfl) ⟨by omega, by omega⟩) ?_
 refine QW (k := Qa ?_);refine WD.alloc (hw := Qy ?_);refine QW (k := Qa ?_);refine QW (k := Qa ?_);refine QW (k := Qf ?_);refine WD.pure (hw := ?_)
 refine WS.slice (u := .slice (some ⟨j9, 0, none⟩) (r.length + 1) 1) (l := [.int .i64 (((i : Nat) : Int) + 2)]) (r := []) (v := .slice (some ⟨j9, i + 2, none⟩) (r.length + 1 - (i + 2)) 1) rfl rfl Wwev rfl rfl (slice_lo rfl (sz_at rfl) ⟨by omega, by omega⟩) ?_
 refine WD.heavy hX (hw := ?_)
 refine WS.appendC (lo := h7.next) (v1 := []) (v2 := usV ((us u r).take i)) rfl rfl Wwev Wwev rfl rfl (by intro k hk; cases hk) (fits_at rfl) (by unfold room; simp only [List.length_nil]; omega)
  (.inr ⟨_, rfl, Nat.le_refl _, Wwne, rfl, rfl, Wwobj⟩) (.inr ⟨j9, 0, false, usV (us u r), rfl, rfl, by rw [usV_len, List.length_take]; omega, Wwobj, by rw [usV_len]; omega, by rw [List.drop_zero]; unfold usV; rw [List.map_take]⟩) (usV_one _) Wwne fun h8 b8 es8 hn8 c8 hf8 => ?_
 (try simp only [UB, UC] at hn8 hf8)
 have k15 : h8.obj (h7.next + 1) = some (.cells false [.string (bts (Ex.pr x k y).tx)]) := by rw [hf8 (h7.next + 1) (by omega) (fun off e => by simp only [Option.some.injEq, Addr.mk.injEq] at e; omega)]; exact Wwobj
 have kc8 : h8.obj (h7.alloc (.cells false [])).next = ((h7.alloc (.cells false [])).alloc (.cells false [.string (bts (Ex.pr x k y).tx)])).obj (h7.alloc (.cells false [])).next := k15.trans obj_new.symm
 have k8 : ∀ j, j < h7.next → h8.obj j = h7.obj j := fun j hj => by rw [hf8 j (by omega) (fun off e => by simp only [Option.some.injEq, Addr.mk.injEq] at e; omega)]; exact Wwag
 refine WD.heavy hX (hw := ?_)
 refine WS.appendC (lo := h7.next) (v1 := [] ++ usV ((us u r).take i)) (v2 := [.string (bts (Ex.pr x k y).tx)]) rfl rfl Wwev Wwev rfl rfl (by intro k hk; cases hk) (fits_at rfl) (by unfold room; simp only [List.length_nil, List.length_singleton]; omega)
  c8 (.inr ⟨h7.next + 1, 0, false, _, rfl, rfl, rfl, k15, by simp, rfl⟩) rfl (by omega) fun h9 b9 es9 hn9 c9 hf9 => ?_
 have k9 : ∀ j, j < h7.next → h9.obj j = h7.obj j := fun j hj => by rw [hf9 j (by omega) (c8.ne hj), k8 j hj]
 have o99 : h9.obj j9 = some (.cells false (usV (us u r))) := by rw [k9 j9 hj9n]; exact o9
 refine WD.heavy hX (hw := ?_)
 refine WS.appendC (lo := h7.next) (v1 := [] ++ usV ((us u r).take i) ++ [.string (bts (Ex.pr x k y).tx)]) (v2 := usV ((us u r).drop (i + 2))) rfl rfl Wwev Wwev rfl rfl (by intro k hk; cases hk) (fits_at rfl) (by unfold room; simp only [List.length_nil, List.length_singleton]; omega)
  c9 (.inr ⟨j9, i + 2, false, usV (us u r), rfl, rfl, by rw [usV_len, List.length_drop]; omega, o99, by rw [usV_len]; omega, by unfold usV; rw [List.map_drop, List.take_of_length_le (by rw [List.length_drop, List.length_map]; omega)]⟩) (usV_one _) (by omega) fun h10 b10 es10 hn10 c10 hf10 => ?_
 have k10 : ∀ j, j < h7.next → h10.obj j = h7.obj j := fun j hj => by rw [hf10 j (by omega) (c9.ne hj), k9 j hj]
 have o55 : h10.obj j5 = some (.cells false (ksV (os r))) := by rw [k10 j5 hj5n]; exact o5
 have hnum : ([] : List Value).length + i + [Value.string (bts (Ex.pr x k y).tx)].length + (r.length + 1 - (i + 2)) = (mgAt i u r).2.length + 1 := by simp only [List.length_nil, List.length_singleton]; omega
 have hvs : [] ++ usV ((us u r).take i) ++ [.string (bts (Ex.pr x k y).tx)] ++ usV ((us u r).drop (i + 2)) = usV (us (mgAt i u r).1 (mgAt i u r).2) := by
  rw [hmu]
  unfold usV
  simp
 rw [hvs, hnum] at c10
 refine QW (k := Qb ?_);refine WD.nil (hq := ?_);refine WC.drawn (id := 33) hX (l := [⟨0, .alloc, 0⟩, ⟨1, .pure, 0⟩, ⟨2, .pure, 0⟩, ⟨3, .pure, 6⟩, ⟨5, .pure, 0⟩, ⟨6, .pure, 0⟩, ⟨7, .pure, 64⟩, ⟨8, .pure, 224⟩, ⟨4, .heavy, 15⟩, ⟨9, .heavy, 511⟩, ⟨10, .pure, 1023⟩]) (hw := ?_);refine WD.alloc (hw := Qz ?_);refine QW (k := Qa ?_);refine QW (k := Qa ?_);refine WD.pure (hw := ?_)
 refine WS.slice (u := .slice (some ⟨j5, 0, none⟩) r.length 1) (l := []) (r := [.int .i64 ((i : Nat) : Int)]) (v := .slice (some ⟨j5, 0, none⟩) i 1) rfl rfl Wwev rfl rfl (slice_hi rfl (sz_at rfl) ⟨by omega, by omega⟩) ?_
 refine QW (k := Qa ?_);refine QW (k := Qa ?_);refine QW (k := Qf ?_);refine WD.pure (hw := ?_)
 refine WS.slice (u := .slice (some ⟨j5, 0, none⟩) r.length 1) (l := [.int .i64 (((i : Nat) : Int) + 1)]) (r := []) (v := .slice (some ⟨j5, i + 1, none⟩) (r.length - (i + 1)) 1) rfl rfl Wwev rfl rfl (slice_lo rfl (sz_at rfl) ⟨by omega, by omega⟩) ?_
 refine WD.heavy hX (hw := ?_)
 refine WS.appendC (lo := h10.next) (v1 := []) (v2 := ksV ((os r).take i)) rfl rfl Wwev Wwev rfl rfl (by intro k hk; cases hk) (fits_at rfl) (by unfold room; simp only [List.length_nil]; omega)
  (.inr ⟨_, rfl, Nat.le_refl _, Wwne, rfl, rfl, Wwobj⟩) (.inr ⟨j5, 0, false, ksV (os r), rfl, rfl, by rw [ksV_len, List.length_take, os_len]; omega, Wwobj, by rw [ksV_len, os_len]; omega, by rw [List.drop_zero]; unfold ksV; rw [List.map_take]⟩) (ksV_one _) Wwne fun h11 b11 es11 hn11 c11 hf11 => ?_
 (try simp only [UB, UC] at hn11 hf11)
 have k11 : ∀ j, j < h10.next → h11.obj j = h10.obj j := fun j hj => by rw [hf11 j (by omega) (fun off e => by simp only [Option.some.injEq, Addr.mk.injEq] at e; omega)]; exact Wwag
 have o56 : h11.obj j5 = some (.cells false (ksV (os r))) := by rw [k11 j5 (by omega)]; exact o55
 refine WD.heavy hX (hw := ?_)
 refine WS.appendC (lo := h10.next) (v1 := [] ++ ksV ((os r).take i)) (v2 := ksV ((os r).drop (i + 1))) rfl rfl Wwev Wwev rfl rfl (by intro k hk; cases hk) (fits_at rfl) (by unfold room; simp only [List.length_nil]; omega)
  c11 (.inr ⟨j5, i + 1, false, ksV (os r), rfl, rfl, by rw [ksV_len, List.length_drop, os_len], o56, by rw [ksV_len, os_len]; omega, by unfold ksV; rw [List.map_drop, List.take_of_length_le (by rw [List.length_drop, List.length_map, os_len]; omega)]⟩) (ksV_one _) (by omega) fun h12 b12 es12 hn12 c12 hf12 => ?_
 have k12 : ∀ j, j < h10.next → h12.obj j = h10.obj j := fun j hj => by rw [hf12 j (by omega) (c11.ne hj), k11 j hj]
 have hnum2 : ([] : List Value).length + i + (r.length - (i + 1)) = (mgAt i u r).2.length := by simp only [List.length_nil]; omega
 have hvs2 : [] ++ ksV ((os r).take i) ++ ksV ((os r).drop (i + 1)) = ksV (os (mgAt i u r).2) := by
  rw [hmo]
  unfold ksV
  simp
 rw [hvs2, hnum2] at c12
 have hsub : ∀ (j : Nat) (p : Nat × Ex), (mgAt i u r).2[j]? = some p → (os (mgAt i u r).2)[j]? = some p.1 := fun j p hp => by unfold os; rw [List.getElem?_map, hp]; rfl
 have hsub2 : ∀ (j k' : Nat), (os r)[j]? = some k' → ∃ q : Nat × Ex, r[j]? = some q ∧ q.1 = k' := fun j k' hk' => by
  unfold os at hk'
  rw [List.getElem?_map] at hk'
  cases hq : r[j]? with
  | none => rw [hq] at hk'; cases hk'
  | some q => rw [hq] at hk'; exact ⟨q, rfl, by simpa using hk'⟩
 refine QW (k := Qb ?_);refine WD.nil (hq := ?_)
 refine ihI (i, (mgAt i u r).1, (mgAt i u r).2) _ _ (by simp only; omega) ⟨e3, e4, e8, e13, e14, ⟨b12, es12, congrArg (fun m => some (Value.slice b12 m es12)) hnum2, c12.lo (by omega)⟩, ⟨b10, es10, congrArg (fun m => some (Value.slice b10 m es10)) hnum, (c10.mono (by omega) fun j _ hj => k12 j hj).lo (by omega)⟩,
  B7.mono (by omega) fun j hj => by rw [k12 j (by omega), k10 j (by omega)], hmerge (by omega) fun j hj => hlow j _ hj (List.getElem?_eq_getElem _), fun p hp => ?_, by simp only; omega, fun j p hj hp => ?_⟩
 ·obtain ⟨j, hj⟩ := List.getElem?_of_mem hp
  have h1 := hsub j p hj
  have h2 : p.1 ∈ os r := by
   have := List.mem_of_getElem? h1
   rw [hmo] at this
   rcases List.mem_append.1 this with h | h
   ·exact List.mem_of_mem_take h
   ·exact List.mem_of_mem_drop h
  obtain ⟨q, hq, he⟩ := List.mem_map.1 h2
  rw [← he]; exact hlv q hq
 ·simp only at hj hp
  have h1 := hsub j p hp
  rw [hmo, List.getElem?_append_left (by rw [List.length_take, os_len]; omega), List.getElem?_take, if_pos hj] at h1
  obtain ⟨q, hq, he⟩ := hsub2 j _ h1
  rw [← he]; exact hlow j q hj hq

end Go.Proofs.ZL
