/- The document's parser, fifth part: expressions, all of it; Parse; the law's walk. -/
import Derived.Test.YtoifleamknbeaaaGreatDoorYQ2
import Derived.Test.YtoifleamknbeaaaGreatDoorYQ3
import Derived.Test.YtoifleamknbeaaaGreatDoorYQ4
import Derived.Test.YtoifleamknbeaaaGreatDoorYU2
section
open Go Go.Am
namespace Go.Proofs.ZL
set_option maxRecDepth 100000
set_option linter.unusedSimpArgs false
set_option linter.unusedVariables false
set_option maxHeartbeats 4000000
variable {h : aE} {Q : bW → Prop} {L : List Tok} {p : Nat} {src : ByteArray}
theorem uB : ∀ l : List Value, dG l = some l
 | [] => rfl
 | a :: l => by unfold dG; rw [uB l]
theorem aJx {α : Type} (P : List α) (w T : α) (B : List α) : (P ++ w :: B).set P.length T = P ++ T :: B := by induction P with
 | nil => rfl
 | cons a P ih => simp only [List.cons_append, List.length_cons, List.set_cons_succ, ih]
theorem yS {α : Type} (P : List α) (w : α) (B : List α) : (P ++ w :: B).eraseIdx P.length = P ++ B := by induction P with
 | nil => rfl
 | cons a P ih => simp only [List.cons_append, List.length_cons, List.eraseIdx_cons_succ, ih]
theorem aH2 {n : Nat} {hd : Bool} {s s' : St} {t : Nd} (h : (cU n).unary L hd s = .ok t s') : s.k + 1 ≤ s'.k := by
 have g : Alike (fun _ _ => True) L L 0 0 0 := ⟨trivial, fun p => ⟨p, trivial⟩, fun i _ _ => ⟨(aF L i).pos, trivial, by rw [Nat.zero_add]⟩⟩
 have b := (aFe g n).unary hd s (Nat.zero_le _)
 rw [h] at b
 exact b.1
def Left (N : Nat) (L : List Tok) (hd : Bool) (K : R Nd → Prop) (u : Nd) (br : Bool) (m : Nat) (l : List (Tok × Nd)) : Xs → Prop
 | .dead e _ => K (.bad e)
 | .live s => l.length ≤ s.k ∧ ∃ l2 r, m = l2.length + 1 ∧ Seq N L hd s.k l2 r ∧ (match r with | .ok k => K (.ok (cE 5 (u, l ++ l2)).1 ⟨k, (l ++ l2).isEmpty && br⟩) | .error e => K (.bad e))
theorem Left.fin {N : Nat} {hd : Bool} {K : R Nd → Prop} {u : Nd} {br : Bool} {m : Nat} {l : List (Tok × Nd)} {x : Xs} (h : Left N L hd K u br m l x) (h0 : ∀ s, x = .live s → level (aF L s.k) = 0) : K (x.run fun s => .ok (cE 5 (u, l)).1 (s.with (l.isEmpty && br))) := by
 cases x with
 | dead e s => exact h
 | live s =>
  obtain ⟨_, l2, r, hm, hs, hk⟩ := h
  have h0 := h0 s rfl
  cases hs with
  | stop _ => rw [List.append_nil] at hk; exact hk
  | step h1 => exact (h1 h0).elim
  | bad h1 => exact (h1 h0).elim

section
variable {N : Nat} {L : List Tok} {hd : Bool} {p : Nat} {K : R Nd → Prop}
theorem aFu (hun : XD 112 VN) (hc : ∀ m, m < N → XNb 112 (cU m).unary) {x0 : Xs} {h0 : aE} {Q0 : bW → Prop} {V : aE → Nd → Value → Prop} (hq0 : dF V p L hd h0 Q0 (x0.run ((cU (N + 1)).expr L hd)))
  {h : aE} {Q : bW → Prop} (ps : bG h p L hd x0) (hq : ∀ h2 v t x1 m, bG h2 p L hd x1 → BrX h2 p x1 → bB p h h2 → VN (fun j => h.next ≤ j) h2 t v → Left N L hd (dF V p L hd h0 Q0) t x1.st.bare m [] x1 → Q (.ret v h2)) : aP Tryz.prog G X 112 [pV p] h Q := by
 cases x0 with
 | dead e s =>
  refine hun ps fun h' t v s' ps' fr hv => ?_
  obtain ⟨j, br, hj, h1, h2⟩ := ps'.tok
  exact hq h' v t (.dead e (s'.with br)) 0 ⟨ps'.lt, ⟨j, br, hj, h1, h2⟩, ps'.at_, ps'.wf⟩ ⟨_, _, _, _, h1⟩ fr hv hq0
 | live s =>
  rw [Xs.a8] at hq0
  rcases aFc hq0.1 with ⟨m, e, hm, hu, he⟩ | ⟨m, u, s1, l, hm, hu, hs⟩
  ·refine hc m hm ps ⟨(by rw [Xs.a8, hu]; intro h; cases h), fun h' v x a e' ps' br fr hv => ?_⟩
   rw [Xs.a8, hu] at e'
   cases x with
   | live s2 => cases e'
   | dead e2 s2 => cases e'; rw [he] at hq0; exact hq h' v a _ 0 ps' br fr hv hq0
  ·refine hc m hm ps ⟨(by rw [Xs.a8, hu]; intro h; cases h), fun h' v x a e' ps' br fr hv => ?_⟩
   rw [Xs.a8, hu] at e'
   cases x with
   | dead e2 s2 => cases e'
   | live s2 =>
    cases e'
    refine hq h' v _ _ (l.length + 1) ps' br fr hv ⟨Nat.zero_le _, l, ?_⟩
    rcases hs with ⟨k, hs, he⟩ | ⟨e, hs, he⟩
    ·exact ⟨.ok k, rfl, hs, by rw [he] at hq0; exact hq0⟩
    ·exact ⟨.error e, rfl, hs, by rw [he] at hq0; exact hq0⟩
theorem aHn (hc : ∀ m, m < N → XNb 112 (cU m).unary) {s : St} {u : Nd} {br : Bool} {m : Nat} {l : List (Tok × Nd)} (hl : Left N L hd K u br m l (.live s)) (h0 : level (aF L s.k) ≠ 0)
  {h : aE} {Q : bW → Prop} (ps : bG h p L hd (.live s.next)) (hq : ∀ h2 v t x1 m', m' < m → bG h2 p L hd x1 → bB p h h2 → VN (fun j => h.next ≤ j) h2 t v → Left N L hd K u br m' (l ++ [(aF L s.k, t)]) x1 → Q (.ret v h2)) : aP Tryz.prog G X 112 [pV p] h Q := by
 obtain ⟨hlk, l2, r, rfl, hs, hk⟩ := hl
 cases hs with
 | stop h1 => exact (h0 h1).elim
 | @step _ m0 b v s' l3 _ _ hm hu h3 =>
  have ps2 : bG h p L hd (.live ⟨s.k + 1, b⟩) := ps.st rfl
  refine hc m0 hm ps2 ⟨(by rw [Xs.a8, hu]; intro h; cases h), fun h' v2 x a e' ps' br fr hv => ?_⟩
  rw [Xs.a8, hu] at e'
  cases x with
  | dead e2 s2 => cases e'
  | live s2 =>
   cases e'
   have := aH2 hu
   refine hq h' v2 _ _ (l3.length + 1) (by simp) ps' fr hv ⟨by rw [List.length_append, List.length_singleton]; simp only at this; omega, l3, r, rfl, h3, ?_⟩
   rw [List.append_assoc]
   exact hk
 | @bad _ m0 b e _ hm hu =>
  have ps2 : bG h p L hd (.live ⟨s.k + 1, b⟩) := ps.st rfl
  refine hc m0 hm ps2 ⟨(by rw [Xs.a8, hu]; intro h; cases h), fun h' v2 x a e' ps' br fr hv => ?_⟩
  rw [Xs.a8, hu] at e'
  cases x with
  | live s2 => cases e'
  | dead e2 s2 => cases e'; exact hq h' v2 a _ 0 (by simp) ps' fr hv hk
end

theorem aAo (l : List (Tok × Nd)) (a : Tok × Nd) (b : Bool) : ((l ++ [a]).isEmpty && b) = false := by cases l <;> rfl
theorem aAu {t : Tok} (h : level t ≠ 0) : t.kind ≠ 6 := by
 intro e
 unfold level at h
 rw [if_pos (by omega)] at h
 exact h rfl

theorem aD9 {N : Nat} (hun : XD 112 VN) (hc : ∀ m, m < N → XNb 112 (cU m).unary) : XNb 109 (cU (N + 1)).expr := by
 intro p L hd x0 h Q ps hq0
 have hp := ps.lt
 have hz := ps.wf.size
 refine Wk Tryz.func109 Tryz.ntmps109 (w:=QN (Mw (w:=QO (Ma (w:=MJ y9 (w:=aFu hun hc hq0 (aQ) fun h1 v1 u x1 m1 ps1 bx1 fr1 hv1 hl1 => ?_))))))
 obtain ⟨b1, n1, es1, rfl, kv1⟩ := hv1
 have hn1 := nx fr1.1
 obtain ⟨sl1, k1, bd1, hw1, ho1⟩ := bx1
 obtain ⟨j1, br1, hj1, hp1, hll1⟩ := ps1.tok
 cases ho1.symm.trans hp1
 generalize x1.st.bare = br at *
 refine Mz (w:=Mb (w:=QO (Ma (w:=Mi (w:=Mj (w:=Mt (w:=Mb (w:=QO (Mb (w:=QL (QU (Bk ?_))))))))))))
 refine WC.fW 0 (fun e h' => ∃ x l b n es b2 n2 es2, e 0 = some (pV p) ∧ e 2 = some (.pointer (some ⟨h.next, 0, none⟩)) ∧ e 3 = some (.slice b n es) ∧ e 4 = some (.bool (l.isEmpty && br)) ∧ e 5 = some (.slice b2 n2 es2) ∧ bG h' p L hd x ∧ bB p h h' ∧ h'.obj h.next = some (Z0) ∧ h.next < h'.next ∧ l.length ≤ 10000 ∧
  KV h' (fun j => h.next < j ∧ ∀ off, b2 ≠ some ⟨j, off, none⟩) b n es (u :: l.map (·.2)) ∧ TV h' (fun j => h.next < j) b2 n2 es2 (l.map (·.1)) ∧ dF (VN fun j => h.next ≤ j) p L hd h Q (x.run fun s => .ok (cE 5 (u, l)).1 (s.with (l.isEmpty && br)))) ?_ ?_
 ·refine WC.bK hX (α := Nat × List (Tok × Nd) × Xs) (m := fun a => a.1) (Inv := fun a e h' => ∃ b n es b2 n2 es2, e 0 = some (pV p) ∧ e 2 = some (.pointer (some ⟨h.next, 0, none⟩)) ∧ e 3 = some (.slice b n es) ∧ e 4 = some (.bool (a.2.1.isEmpty && br)) ∧ e 5 = some (.slice b2 n2 es2) ∧ bG h' p L hd a.2.2 ∧ bB p h h' ∧ h'.obj h.next = some (Z0) ∧ h.next < h'.next ∧ a.2.1.length ≤ 10000 ∧
   KV h' (fun j => h.next < j ∧ ∀ off, b2 ≠ some ⟨j, off, none⟩) b n es (u :: a.2.1.map (·.2)) ∧ TV h' (fun j => h.next < j) b2 n2 es2 (a.2.1.map (·.1)) ∧ Left N L hd (dF (VN fun j => h.next ≤ j) p L hd h Q) u br a.1 a.2.1 a.2.2)
   (m1, [], x1) ⟨_, _, _, none, 0, 0, aD, aD, aD, aD, aD, aQ, aI, aA, aB, by simp, KV.one (S := fun j => h.next < j ∧ j < h1.next) (by exact ⟨aB, fun off e => by cases e⟩) aB aA (kv1.kp) (fun j hS hj => ⟨⟨hS.1, fun off e => by cases e⟩, by have := hS.2; exact aB⟩), .inl ⟨rfl, rfl, rfl, rfl⟩, hl1⟩ ?_
  rintro ⟨m, l, x5⟩ env h5 ih ⟨b5, n5, es5, b6, n6, es6, e0, e2, e3, e4, e5, ps5, fr5, ho5, hn5, hll, kv5, tv5, hl5⟩
  simp only at ps5 e4 hll kv5 tv5 hl5
  have hnn5 := fr5.1
  have htl := tv5.len
  rw [List.length_map] at htl
  have hul := kv5.len
  rw [List.length_cons, List.length_map] at hul
  obtain ⟨_, _, hb6, _⟩ := tv5.sliceAt
  obtain ⟨j5, br5, hj5, hp5, hl5'⟩ := ps5.tok
  cases x5 with
  | dead e s =>
   have hb5 := ps5.dA
   generalize hbd : Xs.bad L (Xs.dead e s) = bd at *
   refine QU (QN (Ma (w:=Mi (w:=Mj (w:=Mt (w:=MF (w:=fun hh => by omega) (v:=fun hh => Ma (w:=MA (w:=MA (w:=MA (w:=MA (w:=Md (w:=QP (WC.exit ?_))))))))))))))
   exact ⟨rfl, Xs.dead e s, l, b5, n5, es5, b6, n6, es6, aD, aD, aD, aD, aD, ps5, fr5, ho5, hn5, hll, kv5, tv5, hl5.fin fun s h => by cases h⟩
  | live s5 =>
   have hb5 : Xs.bad L (Xs.live s5) = -1 := rfl
   rw [hb5] at hp5
   refine QU (QN (Ma (w:=Mi (w:=Mj (w:=Mt (w:=MF (w:=fun hh => Ma (w:=Ma (w:=MJ gG (w:=cN (L := L) (hd := hd) (x := .live s5) (aQ) fun h6 g6 => ?_)))) (v:=fun hh => by omega)))))))
   have hn6 := nx g6.1
   refine MJ aI4 (w:=aBu fun h7 g7 => ?_)
   have hn7 := nx g7.1
   have hstop : level (aF L s5.k) = 0 → dF (VN fun j => h.next ≤ j) p L hd h Q ((Xs.live s5).run fun s => .ok (cE 5 (u, l)).1 (s.with (l.isEmpty && br))) := fun h0 => hl5.fin fun s h => by cases h; exact h0
   have hlv := uS (aF L s5.k)
   have hmk : level (aF L s5.k) ≠ 0 → s5.k + 1 < L.length := fun h => ps5.wf.toWF.more ps5.at_ (aAu h)
   have hlk : l.length ≤ s5.k := hl5.1
   have hnx : ∀ {h : aE} {Q : bW → Prop}, level (aF L s5.k) ≠ 0 → bG h p L hd (.live s5.next) → _ → aP Tryz.prog G X 112 [pV p] h Q := fun h0 ps hq => aHn hc hl5 h0 ps hq
   have hpk : ∀ {h : aE} {Q : bW → Prop}, bG h p L hd (.live s5) → (∀ h', Gr h h' → Q (.ret (.agg (aF L s5.k).cells.toArray) h')) → aP Tryz.prog G X 22 [pV p] h Q := fun ps hq => cN (x := .live s5) ps hq
   have hks := ps5.at_
   generalize aF L (Xs.st (Xs.live s5)).k = tk at *
   generalize level tk = lv at *
   refine MH (w:=fun hh => Mc (w:=QQ (UA (Bk (QN (Ma (w:=Ma (w:=QK ?_)))))))) (v:=fun hh => Mc (w:=QP (WC.exit ?_)))
   ·have h0 : lv ≠ 0 := by omega
    have hmk := hmk h0
    refine QJ gG ?_
    refine hpk (aQ) fun h8 g8 => ?_
    have hn8 := nx g8.1
    refine Mz (w:=QK ?_)
    refine WS.aMq (S := fun j => h.next < j) (tk := tk) (tv5.kp) aA (by unfold room; omega) rfl rfl aD aD rfl rfl (by intro k hk; cases hk) (aX rfl) ?_
    intro h9 hn9 hf9 tv9
    simp only [UB, UC] at hn9 hf9 tv9
    have tv9 := tv9.at
    have hne6 : ∀ j, j ≤ h.next → ∀ off, b6 ≠ some ⟨j, off, none⟩ := fun j hj off e => by have := hb6 _ _ e; omega
    have ps9 : bG h9 p L hd (.live s5) := bG.bH (aQ) aB fun j hj => hf9 j (by omega) (hne6 j (by omega))
    have fr9 : bB p h h9 := bB.bH aI aB fun j hj => hf9 j (by omega) (hne6 j (by omega))
    have ho9 : h9.obj h.next = some (Z0) := (hf9 _ (by omega) (hne6 _ (by omega))).trans aA
    have kv9 : KV h9 (fun j => h.next < j ∧ j < h8.next) b5 n5 es5 (u :: l.map (·.2)) := kv5.mono (by omega) fun j hS hj => ⟨⟨hS.1, by omega⟩, (hf9 j (by omega) hS.2).trans bJ⟩
    obtain ⟨j9, br9, hj9, hp9, hl9⟩ := ps9.live.2
    refine Mb (w:=QO (Ma (w:=Mi (w:=Mj (w:=Mt (w:=Mf (w:=Mi (w:=Mj (w:=Mv (w:=QO (Ma (w:=MJ y9 (w:=hnx h0 (aQ) fun h10 v10 t10 x10 m' hm' ps10 fr10 hv10 hl10 => ?_)))))))))))))
    obtain ⟨b10, n10, es10, rfl, kv10⟩ := hv10
    have hn10 := nx fr10.1
    refine Mw (w:=Mv (w:=QO (Ma (w:=Mu (w:=Mz (w:=QK ?_))))))
    refine WS.jO (S := fun j => h.next < j ∧ j ≠ h8.next + 1) (S2 := fun j => h9.next ≤ j) (tr := t10) (kv9.mono aB (fun j hS hj => by (try simp only [UB, UC] at hS); exact ⟨by omega, bJ⟩)) aA (kv10.kp) (fun x hx _ => ⟨by omega, kv9.ge x (by omega)⟩) rfl rfl aD aD rfl rfl (by intro k hk; cases hk) (aX rfl) (by unfold room; omega) ?_
    intro hA hnA hkA hfA kvA
    simp only [UB, UC] at hnA hkA hfA kvA
    have psA : bG hA p L hd x10 := bG.bH (aQ) aB fun j hj => hkA j (by omega) (by omega)
    have frA : bB p h hA := bB.bH aI aB fun j hj => hkA j (by omega) (by omega)
    have hoA : hA.obj h.next = some (Z0) := (hkA _ (by omega) (by omega)).trans aA
    have tvA : TV hA (fun j => h.next < j) (some ⟨h8.next + 1, 0, none⟩) (n6 + 1) 4 (l.map (·.1) ++ [tk]) := tv9.mono (by omega) fun j hS hj => ⟨by omega, (hkA j (by omega) (by omega)).trans bJ⟩
    refine Mb (w:=QL (QV (Mb (w:=QL ?_))))
    refine ih (m', l ++ [(tk, t10)], x10) _ _ hm' ⟨_, _, _, _, _, _, aD, aD, aD, ?_, aD, aQ, aI, aA, aB, by simp; omega, ?_, ?_, hl10⟩
    ·rw [aAo]; rfl
    ·rw [List.map_append, ← List.cons_append]
     exact kvA.mono (Nat.le_refl _) fun j hS hj => ⟨⟨by omega, fun off e => by cases e; simp only [aE.bX] at hS; omega⟩, rfl⟩
    ·rw [List.map_append]
     exact tvA
   ·exact ⟨rfl, .live s5, l, b5, n5, es5, b6, n6, es6, aD, aD, aD, aD, aD, aQ, aI, aA, aB, hll, kv5.kp, tv5.kp, hstop (by omega)⟩
 clear hq0 hl1 kv1
 rintro e9 h9 ⟨x9, l, b9, n9, es9, b8, n8, es8, e0, e2, e3, e4, e5, ps9, fr9, ho9, hn9, hll, kv9, tv9, hq9⟩
 have hnn9 := fr9.1
 generalize (l.isEmpty && br) = bb at *
 refine aG (QU (QN (Mb (w:=QL (Bk ?_)))))
 refine WC.fW 2 (fun e h' => ∃ b n es, e 0 = some (pV p) ∧ e 2 = some (.pointer (some ⟨h.next, 0, none⟩)) ∧ e 3 = some (.slice b n es) ∧ e 4 = some (.bool bb) ∧ bG h' p L hd x9 ∧ bB p h h' ∧ h'.obj h.next = some (Z0) ∧ h.next < h'.next ∧ KV h' (fun j => h.next < j) b n es ((cE 5 (u, l)).1 :: (cE 5 (u, l)).2.map (·.2))) ?_ ?_
 ·refine WC.bK hX (α := Nat) (m := fun d => 5 - d) (Inv := fun d e h' => ∃ b n es b2 n2 es2, d ≤ 5 ∧ e 0 = some (pV p) ∧ e 2 = some (.pointer (some ⟨h.next, 0, none⟩)) ∧ e 3 = some (.slice b n es) ∧ e 4 = some (.bool bb) ∧ e 5 = some (.slice b2 n2 es2) ∧ e 7 = some (.int .i64 (5 - (d : Int))) ∧ bG h' p L hd x9 ∧ bB p h h' ∧ h'.obj h.next = some (Z0) ∧ h.next < h'.next ∧ (cE d (u, l)).2.length ≤ 10000 ∧
   KV h' (fun j => h.next < j ∧ ∀ off, b2 ≠ some ⟨j, off, none⟩) b n es ((cE d (u, l)).1 :: (cE d (u, l)).2.map (·.2)) ∧ TV h' (fun j => h.next < j) b2 n2 es2 ((cE d (u, l)).2.map (·.1)))
   0 ⟨_, _, _, _, _, _, by omega, aD, aD, aD, aD, aD, aD, ps9, fr9, ho9, hn9, hll, kv9, tv9⟩ ?_
  rintro d env h5 ih ⟨b5, n5, es5, b6, n6, es6, hd5, e0, e2, e3, e4, e5, e7, ps5, fr5, ho5, hn5, hyl, kv5, tv5⟩
  have hnn5 := fr5.1
  generalize hy : cE d (u, l) = y at *
  obtain ⟨y1, yl⟩ := y
  simp only at hyl kv5 tv5
  refine QU (QN (Ma (w:=MI (w:=fun hh => QQ (UA (QU (Bk (QN (Mb (w:=QL (Bk ?_)))))))) (v:=fun hh => QP (WC.exit ?_)))))
  ·refine WC.fW 4 (fun e h' => ∃ b n es b2 n2 es2, e 0 = some (pV p) ∧ e 2 = some (.pointer (some ⟨h.next, 0, none⟩)) ∧ e 3 = some (.slice b n es) ∧ e 4 = some (.bool bb) ∧ e 5 = some (.slice b2 n2 es2) ∧ e 7 = some (.int .i64 (5 - (d : Int))) ∧ bG h' p L hd x9 ∧ bB p h h' ∧ h'.obj h.next = some (Z0) ∧ h.next < h'.next ∧
    KV h' (fun j => h.next < j ∧ ∀ off, b2 ≠ some ⟨j, off, none⟩) b n es ((pass (5 - (d : Int)) y1 yl).1 :: (pass (5 - (d : Int)) y1 yl).2.map (·.2)) ∧ TV h' (fun j => h.next < j) b2 n2 es2 ((pass (5 - (d : Int)) y1 yl).2.map (·.1))) ?_ ?_
   ·have hkd : (0 : Int) < 5 - (d : Int) ∧ 5 - (d : Int) ≤ 5 := by omega
    generalize 5 - (d : Int) = k at *
    refine WC.bK hX (α := List Nd × Nd × List (Tok × Nd) × List Tok) (m := fun a => a.2.2.1.length) (Inv := fun a e h' => ∃ b n es b2 n2 es2, a.2.2.2.length = a.1.length ∧ a.1.length + a.2.2.1.length ≤ 10000 ∧ e 0 = some (pV p) ∧ e 2 = some (.pointer (some ⟨h.next, 0, none⟩)) ∧ e 3 = some (.slice b n es) ∧ e 4 = some (.bool bb) ∧ e 5 = some (.slice b2 n2 es2) ∧ e 7 = some (.int .i64 k) ∧ e 8 = some (.int .i64 (a.1.length : Nat)) ∧ bG h' p L hd x9 ∧ bB p h h' ∧ h'.obj h.next = some (Z0) ∧ h.next < h'.next ∧
     KV h' (fun j => h.next < j ∧ ∀ off, b2 ≠ some ⟨j, off, none⟩) b n es (a.1 ++ a.2.1 :: a.2.2.1.map (·.2)) ∧ TV h' (fun j => h.next < j) b2 n2 es2 (a.2.2.2 ++ a.2.2.1.map (·.1)) ∧
     a.1 ++ (pass k a.2.1 a.2.2.1).1 :: (pass k a.2.1 a.2.2.1).2.map (·.2) = (pass k y1 yl).1 :: (pass k y1 yl).2.map (·.2) ∧ a.2.2.2 ++ (pass k a.2.1 a.2.2.1).2.map (·.1) = (pass k y1 yl).2.map (·.1))
     ([], y1, yl, []) ⟨_, _, _, _, _, _, rfl, by simp; omega, aD, aD, aD, aD, aD, aD, aD, ps5, fr5, ho5, hn5, kv5, tv5, rfl, rfl⟩ ?_
    clear e0 e2 e3 e4 e5 e7 kv5 tv5 ps5 fr5 ho5 hn5 hnn5 ih
    rintro ⟨P, w, B, OP⟩ env h6 ih ⟨b6, n6, es6, b2, n2, es2, hop, hpb, e0, e2, e3, e4, e5, e7, e8, ps6, fr6, ho6, hn6, kv6, tv6, hu6, ht6⟩
    simp only at hop hpb e8 kv6 tv6 hu6 ht6
    have hnn6 := fr6.1
    have htl := tv6.len
    rw [List.length_append, List.length_map, hop] at htl
    refine QU (QN (Ma (w:=Ma (w:=Ms (w:=MF (w:=fun hh => QQ (UA (Bk (QU (QN (Ma (w:=Ma (w:=QK ?_)))))))) (v:=fun hh => QP (WC.exit ?_)))))))
    ·rcases B with _ | ⟨⟨o, v⟩, B⟩
     ·simp only [List.length_nil] at htl; omega
     rw [iT] at hu6 ht6
     simp only [List.map_cons, List.length_cons] at kv6 tv6 hpb htl
     rcases tv6 with ⟨_, _, _, e⟩ | ⟨i2, cs2, rfl, hS2, hlt2, rfl, hn2, ho2, ck2⟩
     ·simp at e
     rcases kv6 with ⟨_, _, _, e⟩ | ⟨i1, cs1, rfl, hS1, hlt1, rfl, hn1, ho1, hle1, hch1⟩
     ·simp at e
     have hne12 : i1 ≠ i2 := fun e => hS1.2 0 (by rw [e])
     rw [List.length_append, List.length_cons, List.length_cons, List.length_map] at hn1 hle1
     have hle2 := ck2.1
     rw [List.length_append, List.length_cons, List.length_map] at hle2
     have hco : (cs2.drop (P.length * 4)).take 4 = o.cells := ck2.2 P.length o (by rw [← hop]; simp)
     have nvw := hch1 P.length w (by simp)
     have nvv := hch1 (P.length + 1) v (by rw [List.getElem?_append_right (by omega)]; simp)
     obtain ⟨bw, nw, ew, hdw⟩ := nvw.cells
     obtain ⟨bv, nv, ev, hdv⟩ := nvv.cells
     rw [hdw] at nvw
     rw [hdv] at nvv
     have hc1 : cs2[P.length * 4 + 1]? = some (.string o.text) := by
      have := congrArg (·[1]?) hco
      rw [List.getElem?_take_of_lt (by omega), List.getElem?_drop] at this
      exact this
     have hc3 : cs2[P.length * 4 + 3]? = some (.int .i64 o.pos) := by
      have := congrArg (·[3]?) hco
      rw [List.getElem?_take_of_lt (by omega), List.getElem?_drop] at this
      exact this
     refine WS.indexAddr (hk := ?_);refine QK ?_
     refine WS.lA (vs := o.cells) (hc := ?_) (hv' := ?_) (hk := ?_)
     (· omega); (· rw [show 0 + ((P.length : Nat) : Int).toNat * 4 = P.length * 4 by omega, hco]; rfl)
     refine MJ aI4 (w:=aBu (t := o) fun h7 g7 => ?_)
     have hn7 := nx g7.1
     generalize level o = lv at *
     by_cases hlv : lv = k
     case neg =>
      rw [if_neg hlv] at hu6 ht6
      refine Ma (w:=ME (w:=fun hh => QQ (QN (Ma (w:=Mf (w:=Mb (w:=QL (WC.exit (aG ?_)))))))) (v:=fun hh => by omega))
      refine ih (P ++ [w], v, B, OP ++ [o]) _ _ (by simp) ⟨_, _, _, _, _, _, by simp [hop], by simp; omega, aD, aD, aD, aD, aD, aD, ?_, aQ, aI, aA, aB, ?_, ?_, by rw [List.append_assoc]; exact hu6, by rw [List.append_assoc]; exact ht6⟩
      ·show some (Value.int .i64 _) = _
       simp
      ·rw [List.append_assoc]
       exact .inr ⟨i1, cs1, rfl, hS1, aB, rfl, by simp; omega, aA, by simp; omega, fun q t hq => (hch1 q t hq).kp⟩
      ·rw [List.append_assoc]
       exact .inr ⟨i2, cs2, rfl, hS2, aB, rfl, by simp; omega, aA, ck2⟩
     rw [if_pos hlv] at hu6 ht6
     refine Ma (w:=ME (w:=fun hh => by omega) (v:=fun hh => QP (UA (QU (Gd [⟨0, .pure, 0⟩, ⟨1, .pure, 0⟩, ⟨2, .pure, 0⟩, ⟨3, .pure, 0⟩, ⟨4, .pure, 12⟩, ⟨5, .pure, 28⟩, ⟨6, .read, 60⟩, ⟨7, .pure, 0⟩, ⟨8, .pure, 0⟩, ⟨9, .pure, 384⟩, ⟨10, .pure, 896⟩, ⟨11, .read, 1920⟩, ⟨12, .pure, 0⟩, ⟨13, .pure, 0⟩, ⟨14, .pure, 12288⟩, ⟨15, .read, 28672⟩, ⟨16, .pure, 0⟩, ⟨17, .pure, 0⟩, ⟨18, .pure, 131072⟩, ⟨19, .pure, 458752⟩, ⟨20, .read, 983040⟩, ⟨21, .alloc, 2093056⟩, ⟨22, .aC, 4194300⟩, ⟨23, .pure, 8388607⟩, ⟨24, .aC, 16777215⟩] (w:=Da (w:=Da (w:=Da (w:=Da (w:=Dl (w:=Dj (w:=?_))))))))))));refine WD.read (hw := ?_)
     refine WS.jQ (v := .int .i64 o.pos) (hc := ?_) (hk := ?_)
     ·rw [show 0 + ((P.length : Nat) : Int).toNat * 4 + 3 = P.length * 4 + 3 by omega]; exact hc3
     refine Da (w:=Da (w:=Dl (w:=Dj (w:=?_))));refine WD.read (hw := ?_)
     refine WS.jQ (v := .string o.text) (hc := ?_) (hk := ?_)
     ·rw [show 0 + ((P.length : Nat) : Int).toNat * 4 + 1 = P.length * 4 + 1 by omega]; exact hc1
     refine Da (w:=Da (w:=Dl (w:=?_)));refine WD.read (hw := ?_)
     refine WS.lA (vs := aH w bw nw ew) (hc := ?_) (hv' := ?_) (hk := ?_)
     (· omega); (· rw [show 0 + ((P.length : Nat) : Int).toNat * 7 = P.length * 7 by omega, hdw]; rfl)
     refine Da (w:=Da (w:=Df (w:=Dl (w:=?_))));refine WD.read (hw := ?_)
     refine WS.lA (vs := aH v bv nv ev) (hc := ?_) (hv' := ?_) (hk := ?_)
     (· omega); (· rw [show 0 + (((P.length : Nat) : Int) + 1).toNat * 7 = (P.length + 1) * 7 by omega, hdv]; rfl)
     refine WD.alloc (hw := Qz ?_);refine WD.aC hX (hw := ?_)
     refine QJ cL ?_
     refine bN fun h8 g8 => ?_
     have hn8 := nx g8.1
     refine Dl (w:=?_);refine WD.aC hX (hw := ?_)
     have kvT : NV h8 (fun j => (h.next < j ∧ j ≠ i2) ∧ j ≠ i1) (aH (nd 42 o o.text [w, v]) (some ⟨h7.next, 0, none⟩) 2 7) (nd 42 o o.text [w, v]) := NV.aN (KV.two (S := fun j => ((h.next < j ∧ j ≠ i2) ∧ j ≠ i1) ∧ j < h7.next) (by exact ⟨⟨by omega, by omega⟩, by omega⟩) aB aA
      (nvw.mono aB (fun j hS hj => ⟨⟨⟨⟨hS.1.1, fun e => hS.1.2 0 (by rw [e])⟩, hS.2⟩, by omega⟩, bJ⟩)) (nvv.mono aB (fun j hS hj => ⟨⟨⟨⟨hS.1.1, fun e => hS.1.2 0 (by rw [e])⟩, hS.2⟩, by omega⟩, bJ⟩)) (fun j hS hj => ⟨hS.1, by have := hS.2; exact aB⟩)) _ _ _ _ _ _
     have ck1 : uL 7 (NV h8 (fun j => (h.next < j ∧ j ≠ i2) ∧ j ≠ i1)) (cH cs1 (P.length * 7) (aH (nd 42 o o.text [w, v]) (some ⟨h7.next, 0, none⟩) 2 7)) (P ++ nd 42 o o.text [w, v] :: v :: B.map (·.2)) := by
      rw [← aJx P w]
      exact uL.set ⟨by simp; omega, fun q t hq => (hch1 q t hq).mono aB (fun j hS hj => ⟨⟨⟨hS.1.1, fun e => hS.1.2 0 (by rw [e])⟩, hS.2⟩, bJ⟩)⟩ (by simp) rfl kvT
     refine WS.store (cs := cs1) (cs' := cH cs1 (P.length * 7) (aH (nd 42 o o.text [w, v]) (some ⟨h7.next, 0, none⟩) 2 7)) (hf := ?_) (hs' := ?_) (hk := ?_)
     ·show 0 + ((P.length : Nat) : Int).toNat * 7 + 7 ≤ _
      omega
     ·rw [show 0 + ((P.length : Nat) : Int).toNat * 7 = P.length * 7 by omega]; exact uB _
     refine WD.nil (hq:=QU (Gd [⟨0, .pure, 0⟩, ⟨1, .pure, 0⟩, ⟨2, .pure, 2⟩, ⟨3, .pure, 7⟩, ⟨4, .pure, 0⟩, ⟨5, .pure, 0⟩, ⟨6, .pure, 32⟩, ⟨7, .pure, 112⟩, ⟨8, .aC, 255⟩, ⟨9, .pure, 511⟩] (w:=Da (w:=Da (w:=Df (w:=?_))))));refine WD.pure (hw := ?_)
     generalize cH cs1 (P.length * 7) (aH (nd 42 o o.text [w, v]) (some ⟨h7.next, 0, none⟩) 2 7) = cs3 at *
     generalize nd 42 o o.text [w, v] = T at *
     have hl3 := ck1.1
     rw [List.length_append, List.length_cons, List.length_cons, List.length_map] at hl3
     refine WS.slice (u := .slice (some ⟨i1, 0, none⟩) n6 7) (l := []) (r := [.int .i64 ((P.length : Nat) + 1)]) (v := .slice (some ⟨i1, 0, none⟩) (P.length + 1) 7) rfl rfl aD rfl rfl ((aId rfl (fK rfl) ⟨by omega, by omega⟩).trans (by congr 2)) ?_
     refine Da (w:=Da (w:=Df (w:=?_)));refine WD.pure (hw := ?_)
     refine WS.slice (u := .slice (some ⟨i1, 0, none⟩) n6 7) (l := [.int .i64 ((P.length : Nat) + 2)]) (r := []) (v := .slice (some ⟨i1, (P.length + 2) * 7, none⟩) B.length 7) rfl rfl aD rfl rfl ((aIv rfl (fK rfl) ⟨by omega, by omega⟩).trans (by congr 2; omega)) ?_
     refine WD.aC hX (hw := ?_)
     refine WS.del (cs := cs3) (m := P.length + 1) (l := B.length) (z := 7) (off := (P.length + 2) * 7) aD aD (by omega) aA (by omega) aB (ck1.all (fun vs t hv => hv.all) _ _ (by simp; omega)) (by unfold room; omega) rfl rfl rfl rfl (by intro k hk; cases hk) (aX rfl) ?_
     intro hA j1 cs4 hnA hj1 hjA hoA hlA htA hkA
     simp only [UB, UC] at hnA hj1 hkA
     have ck4 : uL 7 (NV h8 (fun j => (h.next < j ∧ j ≠ i2) ∧ j ≠ i1)) cs4 (P ++ T :: B.map (·.2)) := by
      have e : P ++ T :: B.map (·.2) = (P ++ T :: v :: B.map (·.2)).eraseIdx (P.length + 1) := by
       have := yS (P ++ [T]) v (B.map (·.2))
       rw [List.length_append, List.length_singleton] at this
       simp only [List.append_assoc, List.cons_append, List.nil_append] at this
       exact this.symm
      rw [e]
      refine ck1.del (by simp) (by simp; omega) ?_
      rw [show (P ++ T :: v :: B.map (·.2)).length - 1 = P.length + 1 + B.length by simp; omega, show P.length + 1 + B.length - (P.length + 1) = B.length by omega]
      exact htA
     have psA : bG hA p L hd x9 := bG.bH (aQ) aB fun j hj => hkA j (by omega) (by omega)
     have frA : bB p h hA := bB.bH aI aB fun j hj => hkA j (by omega) (by omega)
     have hzA : hA.obj h.next = some (Z0) := (hkA _ (by omega) (by omega)).trans aA
     have hoA2 : hA.obj i2 = some (.cells false cs2) := (hkA _ (by omega) (by omega)).trans aA
     have ck5 : uL 7 (NV hA (fun j => (h.next < j ∧ j ≠ i2) ∧ j ≠ j1)) cs4 (P ++ T :: B.map (·.2)) := ck4.mono fun vs t hv => hv.mono (by omega) fun j hS hj => ⟨⟨hS.1, by omega⟩, (hkA j (by omega) hS.2).trans bJ⟩
     refine Db (w:=WD.nil (hq:=Gd [⟨0, .pure, 0⟩, ⟨1, .pure, 0⟩, ⟨2, .pure, 3⟩, ⟨3, .pure, 0⟩, ⟨4, .pure, 0⟩, ⟨5, .pure, 16⟩, ⟨6, .pure, 56⟩, ⟨7, .aC, 127⟩, ⟨8, .pure, 255⟩] (w:=Da (w:=Da (w:=?_)))));refine WD.pure (hw := ?_)
     refine WS.slice (u := .slice (some ⟨i2, 0, none⟩) n2 4) (l := []) (r := [.int .i64 ((P.length : Nat))]) (v := .slice (some ⟨i2, 0, none⟩) P.length 4) rfl rfl aD rfl rfl ((aId rfl (fK rfl) ⟨by omega, by omega⟩).trans (by congr 2)) ?_
     refine Da (w:=Da (w:=Df (w:=?_)));refine WD.pure (hw := ?_)
     refine WS.slice (u := .slice (some ⟨i2, 0, none⟩) n2 4) (l := [.int .i64 ((P.length : Nat) + 1)]) (r := []) (v := .slice (some ⟨i2, (P.length + 1) * 4, none⟩) B.length 4) rfl rfl aD rfl rfl ((aIv rfl (fK rfl) ⟨by omega, by omega⟩).trans (by congr 2; omega)) ?_
     refine WD.aC hX (hw := ?_)
     refine WS.del (cs := cs2) (m := P.length) (l := B.length) (z := 4) (off := (P.length + 1) * 4) aD aD (by omega) aA (by omega) aB (ck2.all (fun vs t hv => by rw [hv]; rfl) _ _ (by simp; omega)) (by unfold room; omega) rfl rfl rfl rfl (by intro k hk; cases hk) (aX rfl) ?_
     intro hB j2 cs5 hnB hj2 hjB hoB hlB htB hkB
     have ck6 : uL 4 (fun vs t => vs = t.cells) cs5 (OP ++ B.map (·.1)) := by
      have e : OP ++ B.map (·.1) = (OP ++ o :: B.map (·.1)).eraseIdx P.length := by rw [← hop, yS]
      rw [e]
      refine ck2.del (by simp; omega) (by simp; omega) ?_
      rw [show (OP ++ o :: B.map (·.1)).length - 1 = P.length + B.length by simp; omega, show P.length + B.length - P.length = B.length by omega]
      exact htB
     have psB : bG hB p L hd x9 := bG.bH psA (by omega) fun j hj => hkB j (by omega) (by omega)
     have frB : bB p h hB := bB.bH frA (by omega) fun j hj => hkB j (by omega) (by omega)
     have hzB : hB.obj h.next = some (Z0) := (hkB _ (by omega) (by omega)).trans hzA
     refine Db (w:=WD.nil (hq:=?_))
     refine ih (P, T, B, OP) _ _ (by simp) ⟨_, _, _, _, _, _, hop, by simp only; omega, aD, aD, aD, aD, aD, aD, aD, psB, frB, hzB, by omega, ?_, ?_, hu6, ht6⟩
     ·exact .inr ⟨j1, cs4, rfl, ⟨by omega, fun off e => by cases e; omega⟩, by omega, rfl, by simp; omega, (hkB j1 (by omega) (by omega)).trans hoA, ck5.1, fun q t hq => (ck5.2 q t hq).mono (by omega) fun j hS hj => ⟨⟨⟨hS.1.1, fun off e => by cases e; omega⟩, hS.2⟩, hkB j hj hS.1.2⟩⟩
     ·exact .inr ⟨j2, cs5, rfl, by omega, hjB, rfl, by simp; omega, hoB, ck6⟩
    ·have hB : B = [] := List.eq_nil_of_length_eq_zero (by omega)
     subst hB
     rw [m6] at hu6 ht6
     exact ⟨rfl, _, _, _, _, _, _, aD, aD, aD, aD, aD, aD, ps6, fr6, ho6, hn6, by rw [← hu6]; exact kv6, by rw [← ht6]; exact tv6⟩
   ·rintro e8 h8 ⟨b8, n8, es8, b2, n2, es2, e0, e2, e3, e4, e5, e7, ps8, fr8, ho8, hn8, kv8, tv8⟩
    refine aG (QV (Ma (w:=Mg (w:=Mb (w:=QL ?_)))))
    have hp1 : cE (d + 1) (u, l) = pass (5 - (d : Int)) y1 yl := by show pass _ (cE d (u, l)).1 (cE d (u, l)).2 = _; rw [hy]
    refine ih (d + 1) _ _ (by omega) ⟨_, _, _, _, _, _, by omega, aD, aD, aD, aD, aD, ?_, ps8, fr8, ho8, hn8, ?_, by rw [hp1]; exact kv8, by rw [hp1]; exact tv8⟩
    ·show some (Value.int .i64 _) = _
     congr 2
     omega
    ·rw [hp1]; exact Nat.le_trans (uU _ _ _) hyl
  ·have hd : d = 5 := by omega
   subst hd
   exact ⟨rfl, _, _, _, aD, aD, aD, aD, ps5, fr5, ho5, hn5, by rw [hy]; exact kv5.mono (Nat.le_refl _) fun j hS hj => ⟨hS.1, rfl⟩⟩
 ·clear e0 e2 e3 e4 e5 kv9 tv9 ps9 fr9 ho9 hn9 hnn9
  rintro e8 h8 ⟨b8, n8, es8, e0, e2, e3, e4, ps8, fr8, ho8, hn8, kv8⟩
  have hnn8 := fr8.1
  rcases kv8 with ⟨_, _, _, e⟩ | ⟨i1, cs1, rfl, hS1, hlt1, rfl, hn1, ho1, hle1, hch1⟩
  ·cases e
  rw [List.length_cons] at hn1 hle1
  have nv0 := hch1 0 _ rfl
  rw [Nat.zero_mul, List.drop_zero] at nv0
  generalize (cE 5 (u, l)).1 = T at *
  obtain ⟨b0, n0, es0, hd0⟩ := nv0.cells
  rw [hd0] at nv0
  obtain ⟨j8, br8, hj8, hp8, hl8⟩ := ps8.tok
  refine aG (QN (Ma (w:=Ma (w:=Mi (w:=Mj (w:=Mv (w:=QO (Ma (w:=Ml (w:=QK ?_))))))))))
  refine WS.lA (vs := aH T b0 n0 es0) (hc := ?_) (hv' := ?_) (hk := ?_)
  (· omega); (· rw [show 0 + (0 : Int).toNat * 7 = 0 by omega, List.drop_zero, hd0]; rfl)
  refine Mv (w:=QM ?_)
  refine ⟨_, aJ, ?_⟩
  exact hq9.aKj aQ aA aI ⟨_, _, _, rfl, nv0.kp⟩

theorem aJn : XD 109 VN := by
 intro p L hd e s h Q ps hq
 refine aD9 (N := 0) xQ (fun m hm => absurd hm (Nat.not_lt_zero _)) ps ⟨(fun h => by cases h), fun h' v x a e' ps' br fr hv => ?_⟩
 cases x with
 | live s2 => cases e'
 | dead e2 s2 => cases e'; exact hq _ _ _ _ ps' fr hv
theorem XD.xn {f : FuncId} (d : XD f VN) : XN f (fun _ _ _ => .out) := by
 intro p L hd x h Q ps hq
 cases x with
 | live s => exact (hq.1 rfl).elim
 | dead e s => exact d.n ps hq
theorem XD.xnb {f : FuncId} (d : XD f VN) : XNb f (fun _ _ _ => .out) := by
 intro p L hd x h Q ps hq
 cases x with
 | live s => exact (hq.1 rfl).elim
 | dead e s => exact d.b ps hq
theorem XD.xk {f : FuncId} (d : XD f VK) : XK f (fun _ _ _ => .out) := by
 intro p L hd x h Q ps hq
 cases x with
 | live s => exact (hq.1 rfl).elim
 | dead e s => exact d.k ps hq
theorem pH : ∀ (n : Nat) (L : List Tok) (hd : Bool) (s : St), (cU n).cW L hd s = (cU n).cW L false s
 | 0, _, _, _ => rfl
 | n + 1, L, hd, s => by
  show vS n (cU n) L hd s = vS n (cU n) L false s
  have e : (cU n).cW L hd = (cU n).cW L false := funext fun s => pH n L hd s
  unfold vS
  rw [e]
theorem iS : ∀ (n : Nat) (L : List Tok) (hd : Bool) (s : St), (cU n).function L hd s = (cU n).function L false s
 | 0, _, _, _ => rfl
 | n + 1, L, hd, s => by
  show fF n (cU n) L hd s = fF n (cU n) L false s
  have e : (cU n).cW L hd = (cU n).cW L false := funext fun s => pH n L hd s
  unfold fF
  rw [e]
theorem aMe : gE (cU 0) where
 cW := aLa.xn
 function := aBi.xk
 block := aBy.xn
 stmts := aBz.xk
 stmt := fun _ _ hq => (hq.1 rfl).elim
 nested := fun _ _ hq => (hq.1 rfl).elim
 branch := fun _ _ hq => (hq.1 rfl).elim
 aBw := aJn.xnb
 yI := xQ.xnb
 mR := sJ.xnb
 simple := aFx.xn
 pH := pH 0
 iS := iS 0
theorem aDr {n : Nat} (hn : n ≤ 1000000) (c : ∀ m, m ≤ n → gE (cU m)) : gE (cU (n + 1)) where
 cW := aLy hn (c n (Nat.le_refl _))
 function := aAl hn (c n (Nat.le_refl _))
 block := aHa (c n (Nat.le_refl _))
 stmts := aGt hn (c n (Nat.le_refl _))
 stmt := aJa (c n (Nat.le_refl _))
 nested := aEm hn (aHm n) (c n (Nat.le_refl _))
 branch := aDu (c n (Nat.le_refl _))
 aBw := aD9 xQ fun m hm => (c m (Nat.le_of_lt hm)).yI
 yI := aHe (c n (Nat.le_refl _))
 mR := aC0 hn (c n (Nat.le_refl _))
 simple := aEc (c n (Nat.le_refl _))
 pH := pH (n + 1)
 iS := iS (n + 1)
theorem aJy : ∀ n, n ≤ 1000000 → ∀ m, m ≤ n → gE (cU m)
 | 0, _, m, hm => by
  obtain rfl : m = 0 := Nat.le_zero.1 hm
  exact aMe
 | n + 1, hn, m, hm => by
  rcases Nat.lt_or_ge m (n + 1) with h | h
  ·exact aJy n (by omega) m (by omega)
  ·obtain rfl : m = n + 1 := by omega
   exact aDr (by omega) (aJy n (by omega))

theorem aCf (p : Int → Bool) (r : List UInt8) : gD p r ≤ r.length := (List.takeWhile_sublist _).length_le
theorem qM {k : Nat} {l : List Tok} {b : UInt8} (hb : b = 10 ∨ b = 32) (x : List UInt8) (hx : b = 32 → ∀ i out, ∃ j, dM k l (b :: x) i out = ⟨.stuck j, k, l⟩) : ∀ (m : Nat) (r : List UInt8) (i : Nat) (out : List Int), r.length ≤ m →
  (b = 10 → dM k l (r ++ b :: x) i out = dM k l r i out) ∧
  ((dM k l r i out).err.isOk = true → dM k l (r ++ b :: x) i out = dM k l r i out) ∧
  ((dM k l r i out).err.isOk = false → (dM k l (r ++ b :: x) i out).err.isOk = false)
 | m, [], i, out, _ => by
  refine ⟨?_, ?_, ?_⟩
  ·rintro rfl
   cases x <;> (simp only [List.nil_append]; unfold dM; rfl)
  ·intro h; simp [dM, c8.isOk] at h
  ·intro _
   rcases hb with rfl | rfl
   ·cases x <;> (simp only [List.nil_append]; unfold dM; rfl)
   ·obtain ⟨j, hj⟩ := hx rfl i out
    rw [List.nil_append, hj]; rfl
 | 0, a :: r, _, _, h => by simp at h
 | m + 1, [c], i, out, _ => by
  rw [List.cons_append, List.nil_append]
  have hb3 : ¬((b.toNat : Int) = 110 ∨ (b.toNat : Int) = 34 ∨ (b.toNat : Int) = 92) := by rcases hb with rfl | rfl <;> decide
  have ih := qM hb x hx m [] (i + 1) (out ++ [(c.toNat : Int)]) (by simp)
  rw [List.nil_append] at ih
  unfold dM
  by_cases c1 : (c.toNat : Int) = 34
  ·rw [if_pos c1, if_pos c1]; exact ⟨fun _ => rfl, fun _ => rfl, fun h => h⟩
  rw [if_neg c1, if_neg c1]
  by_cases c2 : (c.toNat : Int) = 92
  ·rw [if_pos c2, if_pos c2, if_neg hb3]; exact ⟨fun _ => rfl, fun _ => rfl, fun h => h⟩
  rw [if_neg c2, if_neg c2]
  by_cases c3 : (c.toNat : Int) < 32 ∨ 126 < (c.toNat : Int)
  ·rw [if_pos c3, if_pos c3]; exact ⟨fun _ => rfl, fun _ => rfl, fun h => h⟩
  ·rw [if_neg c3, if_neg c3]
   have e : dM k l [] (i + 1) (out ++ [(c.toNat : Int)]) = ⟨.stuck (i + 1), k, l⟩ := by unfold dM; rfl
   rw [e] at ih
   exact ih
 | m + 1, c :: d :: r, i, out, h => by
  rw [List.cons_append, List.cons_append]
  have ih1 := qM hb x hx m (d :: r) (i + 1) (out ++ [(c.toNat : Int)]) (by simp at h ⊢; omega)
  have ih2 := qM hb x hx m r (i + 2) (out ++ [if (d.toNat : Int) = 110 then 10 else (d.toNat : Int)]) (by simp at h ⊢; omega)
  rw [List.cons_append] at ih1
  unfold dM
  by_cases c1 : (c.toNat : Int) = 34
  ·rw [if_pos c1, if_pos c1]; exact ⟨fun _ => rfl, fun _ => rfl, fun h => h⟩
  rw [if_neg c1, if_neg c1]
  by_cases c2 : (c.toNat : Int) = 92
  ·rw [if_pos c2, if_pos c2]
   by_cases c4 : (d.toNat : Int) = 110 ∨ (d.toNat : Int) = 34 ∨ (d.toNat : Int) = 92
   ·rw [if_pos c4, if_pos c4]; exact ih2
   ·rw [if_neg c4, if_neg c4]; exact ⟨fun _ => rfl, fun _ => rfl, fun h => h⟩
  rw [if_neg c2, if_neg c2]
  by_cases c3 : (c.toNat : Int) < 32 ∨ 126 < (c.toNat : Int)
  ·rw [if_pos c3, if_pos c3]; exact ⟨fun _ => rfl, fun _ => rfl, fun h => h⟩
  ·rw [if_neg c3, if_neg c3]; exact ih1

def Tok.sh (K : Nat) (t : Tok) : Tok := { t with pos := t.pos + K }
def c8.sh (K : Nat) : c8 → c8
 | .ok => .ok
 | .stuck k => .stuck (K + k)
 | .pW w k => .pW w (K + k)
def Out.sh (K : Nat) (L : List Tok) (o : Out) : Out := ⟨o.err.sh K, K + o.pos, L ++ o.list.map (Tok.sh K)⟩

theorem aD7 {K : Nat} (hL : kS L = false) (l : List Tok) : kS (L ++ l.map (Tok.sh K)) = kS l := by
 rcases List.eq_nil_or_concat l with rfl | ⟨l', t, rfl⟩
 ·rw [List.map_nil, List.append_nil, hL]; rfl
 ·unfold kS
  simp [List.concat_eq_append, List.map_append, ← List.append_assoc, eZ, Tok.sh]
theorem yZ {K : Nat} (hL : kS L = false) (k : Nat) (l : List Tok) : eJ (K + k) (L ++ l.map (Tok.sh K)) = L ++ (eJ k l).map (Tok.sh K) := by
 unfold eJ
 rw [aD7 hL]
 split
 ·simp [Tok.sh, Int.add_comm]
 ·rfl
theorem vP {K : Nat} {L : List Tok} {k : Nat} {l : List Tok} : ∀ (m : Nat) (r : List UInt8) (i : Nat) (out : List Int), r.length ≤ m → dM (K + k) (L ++ l.map (Tok.sh K)) r (K + i) out = (dM k l r i out).sh K L
 | m, [], i, out, _ => by unfold dM; rfl
 | 0, a :: r, _, _, h => by simp at h
 | m + 1, [c], i, out, _ => by
  unfold dM
  by_cases c1 : (c.toNat : Int) = 34
  ·rw [if_pos c1, if_pos c1]
   split
   ·rfl
   ·simp [Out.sh, c8.sh, Tok.sh, Int.add_comm, Nat.add_assoc]
  rw [if_neg c1, if_neg c1]
  split
  ·rfl
  split
  ·rfl
  ·rfl
 | m + 1, c :: d :: r, i, out, h => by
  have ih1 := vP (K := K) (L := L) (k := k) (l := l) m (d :: r) (i + 1) (out ++ [(c.toNat : Int)]) (by simp at h ⊢; omega)
  have ih2 := vP (K := K) (L := L) (k := k) (l := l) m r (i + 2) (out ++ [if (d.toNat : Int) = 110 then 10 else (d.toNat : Int)]) (by simp at h ⊢; omega)
  unfold dM
  by_cases c1 : (c.toNat : Int) = 34
  ·rw [if_pos c1, if_pos c1]
   split
   ·rfl
   ·simp [Out.sh, c8.sh, Tok.sh, Int.add_comm, Nat.add_assoc]
  rw [if_neg c1, if_neg c1]
  by_cases c2 : (c.toNat : Int) = 92
  ·rw [if_pos c2, if_pos c2]
   by_cases c4 : (d.toNat : Int) = 110 ∨ (d.toNat : Int) = 34 ∨ (d.toNat : Int) = 92
   ·rw [if_pos c4, if_pos c4]; exact ih2
   ·rw [if_neg c4, if_neg c4]; rfl
  rw [if_neg c2, if_neg c2]
  by_cases c3 : (c.toNat : Int) < 32 ∨ 126 < (c.toNat : Int)
  ·rw [if_pos c3, if_pos c3]; rfl
  ·rw [if_neg c3, if_neg c3]; exact ih1

theorem u9 {K : Nat} (hL : kS L = false) (r : List UInt8) (k : Nat) (l : List Tok) : jJ r (K + k) (L ++ l.map (Tok.sh K)) = (jJ r k l).sh K L := by
 have ht := vP (K := K) (L := L) (k := k) (l := l) _ r.tail (k + 1) [] (Nat.le_refl _)
 unfold jJ
 split
 ·rfl
 split
 ·rw [yZ hL]; rfl
 split
 ·simp [Out.sh, c8.sh, Nat.add_assoc]
 split
 ·unfold zJ
  split
  ·rfl
  ·simp [Out.sh, c8.sh, Tok.sh, Int.add_comm, Nat.add_assoc]
 split
 ·unfold rF
  split
  ·rfl
  split
  ·rfl
  split
  ·simp [Out.sh, c8.sh, Nat.add_assoc]
  ·simp [Out.sh, c8.sh, Tok.sh, Int.add_comm, Nat.add_assoc]
 split
 ·exact ht
 split
 ·rfl
 ·simp [Out.sh, c8.sh, Tok.sh, Int.add_comm, Nat.add_assoc]

theorem c8.aL5 (K : Nat) (e : c8) : (e.sh K).isOk = e.isOk := by cases e <;> rfl

theorem gF.sh {K : Nat} (hL : kS L = false) {r : List UInt8} {k : Nat} {l : List Tok} {o : Out} (h : gF r k l o) : gF r (K + k) (L ++ l.map (Tok.sh K)) (o.sh K L) := by
 induction h with
 | done k l =>
  have := gF.done (K + k) (L ++ l.map (Tok.sh K))
  rw [yZ hL] at this
  simpa [Out.sh, c8.sh, Tok.sh, Int.add_comm] using this
 | @fail r k l hne he =>
  rw [← u9 hL]
  exact .fail hne (by rw [u9 hL]; show (c8.sh K _).isOk = false; rw [c8.aL5]; exact he)
 | @step r k l o n l' h0 hn he hs ih =>
  refine .step n (L ++ l'.map (Tok.sh K)) h0 hn ?_ (by rw [Nat.add_assoc]; exact ih)
  rw [u9 hL, he]
  simp [Out.sh, c8.sh, Nat.add_assoc]

theorem aAq (k : Nat) (l : List Tok) : kS (eJ k l) = false := by
 unfold eJ
 split
 ·unfold kS
  rw [List.getLast?_append]
  rfl
 ·rename_i h; simpa using h

theorem qD {k : Nat} {l : List Tok} : ∀ (m : Nat) (r : List UInt8) (i : Nat) (out : List Int), r.length ≤ m → (dM k l r i out).list = l ∨ ∃ t, (dM k l r i out).list = l ++ [t] ∧ t.pos = (k : Int)
 | m, [], i, out, _ => by unfold dM; exact .inl rfl
 | 0, a :: r, _, _, h => by simp at h
 | m + 1, [c], i, out, _ => by
  unfold dM
  split
  ·split
   ·exact .inl rfl
   ·exact .inr ⟨_, rfl, rfl⟩
  split
  ·exact .inl rfl
  split
  ·exact .inl rfl
  ·exact .inl rfl
 | m + 1, c :: d :: r, i, out, h => by
  unfold dM
  split
  ·split
   ·exact .inl rfl
   ·exact .inr ⟨_, rfl, rfl⟩
  split
  ·split
   ·exact qD m r _ _ (by simp at h ⊢; omega)
   ·exact .inl rfl
  split
  ·exact .inl rfl
  ·exact qD m (d :: r) _ _ (by simp at h ⊢; omega)
theorem uJ (k : Nat) (l : List Tok) : eJ k l = l ∨ ∃ t, eJ k l = l ++ [t] ∧ t.pos = (k : Int) := by
 unfold eJ
 split
 ·exact .inr ⟨_, rfl, rfl⟩
 ·exact .inl rfl
theorem uR (r : List UInt8) (k : Nat) (l : List Tok) : (jJ r k l).list = l ∨ ∃ t, (jJ r k l).list = l ++ [t] ∧ t.pos = (k : Int) := by
 unfold jJ
 split
 ·exact .inl rfl
 split
 ·exact uJ k l
 split
 ·exact .inl rfl
 split
 ·unfold zJ
  split
  ·exact .inl rfl
  ·exact .inr ⟨_, rfl, rfl⟩
 split
 ·unfold rF
  split
  ·exact .inl rfl
  split
  ·exact .inl rfl
  split
  ·exact .inl rfl
  ·exact .inr ⟨_, rfl, rfl⟩
 split
 ·exact qD _ _ _ _ (Nat.le_refl _)
 split
 ·exact .inl rfl
 ·exact .inr ⟨_, rfl, rfl⟩

theorem gF.pos {r : List UInt8} {k : Nat} {l : List Tok} {o : Out} (h : gF r k l o) : (∀ t ∈ l, 0 ≤ t.pos ∧ t.pos ≤ k) → ∀ t ∈ o.list, 0 ≤ t.pos ∧ t.pos ≤ (k + r.length : Nat) := by
 have hx : ∀ {k m : Nat} {l l' : List Tok}, (l' = l ∨ ∃ t, l' = l ++ [t] ∧ t.pos = (k : Int)) → k ≤ m → (∀ t ∈ l, 0 ≤ t.pos ∧ t.pos ≤ k) → ∀ t ∈ l', 0 ≤ t.pos ∧ t.pos ≤ (m : Nat) := by
  rintro k m l l' (rfl | ⟨t, rfl, ht⟩) hm hl u hu
  ·have := hl u hu; omega
  ·rcases List.mem_append.1 hu with hu | hu
   ·have := hl u hu; omega
   ·rw [List.mem_singleton.1 hu]; omega
 induction h with
 | done k l =>
  intro hl t ht
  rcases List.mem_append.1 ht with ht | ht
  ·exact hx (uJ k l) (by simp) hl t ht
  ·rw [List.mem_singleton.1 ht]; simp only [List.length_nil]; omega
 | @fail r k l hne he =>
  intro hl
  exact hx (uR r k l) (by omega) hl
 | @step r k l o n l' h0 hn he hs ih =>
  intro hl
  have hl' := uR r k l
  rw [he] at hl'
  have := ih (hx hl' (by omega) hl)
  intro t ht
  have h2 := this t ht
  rw [List.length_drop] at h2
  omega

theorem aE8 (hz : src.size ≤ 8192) : ∃ o, gF src.data.toList 0 [] o ∧ cO src = if o.err.isOk then (match fD o.list 0 with | some p => ⟨[], 3, p⟩ | none => ⟨o.list, 0, 0⟩) else ⟨[], 2, o.err.pos⟩ := by
 obtain ⟨o, ho⟩ := gF.total _ src.data.toList 0 [] (Nat.le_refl _)
 exact ⟨o, ho, aFb hz ho⟩

def aK2 (zs : List Int) : Prop := zs.length ≤ 256 ∧ ∀ z ∈ zs, z = 10 ∨ 32 ≤ z ∧ z ≤ 126
def Val (A : List Tok) (t : Tok) : Prop :=
 (t.kind = 3 ∧ t.num = 0 ∧ ∃ zs : List Int, t.text = strOf zs ∧ aK2 zs) ∨
 (t.kind = 5 ∧ t.num = 1 ∧ t.text = ⟨#[59]⟩ ∧ kS A = true) ∨
 (t.kind = 5 ∧ t.num = 0 ∧ dE marks t.text = true) ∨
 ((t.kind = 1 ∨ t.kind = 4) ∧ t.num = 0 ∧ ∃ u : List UInt8, t.text = pL u ∧ u ≠ [] ∧ cQ (hd u) = true ∧ (∀ b ∈ u, cI b.toNat = true) ∧ u.length ≤ 24 ∧ t.kind = if dE words t.text then 4 else 1) ∨
 (t.kind = 2 ∧ ∃ u : List UInt8, t.text = pL u ∧ u ≠ [] ∧ (∀ b ∈ u, bC b.toNat = true) ∧ u.length ≤ 18 ∧ ¬ (1 < u.length ∧ hd u = 48) ∧ t.num = uP u 0)

theorem sD {k : Nat} {l : List Tok} : ∀ (m : Nat) (r : List UInt8) (i : Nat) (out : List Int), r.length ≤ m → (∀ z ∈ out, z = 10 ∨ 32 ≤ z ∧ z ≤ 126) → (dM k l r i out).err.isOk = true → ∃ t, (dM k l r i out).list = l ++ [t] ∧ Val l t
 | m, [], i, out, _, _, h => by simp [dM, c8.isOk] at h
 | 0, a :: r, _, _, h, _, _ => by simp at h
 | m + 1, [c], i, out, _, ho, h => by
  unfold dM at h ⊢
  split at h
  ·rename_i c1
   rw [if_pos c1]
   split at h
   ·simp [c8.isOk] at h
   ·rename_i c2; rw [if_neg c2]; exact ⟨_, rfl, .inl ⟨rfl, rfl, out, rfl, by omega, ho⟩⟩
  ·split at h
   ·simp [c8.isOk] at h
   ·split at h <;> simp [c8.isOk] at h
 | m + 1, c :: d :: r, i, out, hm, ho, h => by
  have ih1 := fun hx => sD (k := k) (l := l) m (d :: r) (i + 1) (out ++ [(c.toNat : Int)]) (by simp at hm ⊢; omega) hx
  have ih2 := fun hx => sD (k := k) (l := l) m r (i + 2) (out ++ [if (d.toNat : Int) = 110 then 10 else (d.toNat : Int)]) (by simp at hm ⊢; omega) hx
  have snoc : ∀ z : Int, (z = 10 ∨ 32 ≤ z ∧ z ≤ 126) → ∀ y ∈ out ++ [z], y = 10 ∨ 32 ≤ y ∧ y ≤ 126 := fun z hz y hy => by
   rcases List.mem_append.1 hy with hy | hy
   ·exact ho y hy
   ·rw [List.mem_singleton.1 hy]; exact hz
  unfold dM at h ⊢
  by_cases c1 : (c.toNat : Int) = 34
  ·rw [if_pos c1] at h ⊢
   split at h
   ·simp [c8.isOk] at h
   ·rename_i c2; rw [if_neg c2]; exact ⟨_, rfl, .inl ⟨rfl, rfl, out, rfl, by omega, ho⟩⟩
  rw [if_neg c1] at h ⊢
  by_cases c2 : (c.toNat : Int) = 92
  ·rw [if_pos c2] at h ⊢
   by_cases c4 : (d.toNat : Int) = 110 ∨ (d.toNat : Int) = 34 ∨ (d.toNat : Int) = 92
   ·rw [if_pos c4] at h ⊢
    refine ih2 (snoc _ ?_) h
    split
    ·exact .inl rfl
    ·exact .inr (by omega)
   ·rw [if_neg c4] at h; simp [c8.isOk] at h
  rw [if_neg c2] at h ⊢
  by_cases c3 : (c.toNat : Int) < 32 ∨ 126 < (c.toNat : Int)
  ·rw [if_pos c3] at h; simp [c8.isOk] at h
  ·rw [if_neg c3] at h ⊢; exact ih1 (snoc _ (.inr (by omega))) h

theorem wH (k : Nat) (l : List Tok) : eJ k l = l ∨ ∃ t, eJ k l = l ++ [t] ∧ Val l t := by
 unfold eJ
 split
 ·rename_i h; exact .inr ⟨_, rfl, .inr (.inl ⟨rfl, rfl, rfl, h⟩)⟩
 ·exact .inl rfl
theorem aCi {p : Int → Bool} (r : List UInt8) : ∀ b ∈ r.take (gD p r), p b.toNat = true := by
 intro b hb
 have h := List.prefix_iff_eq_take.1 (List.takeWhile_prefix (fun b : UInt8 => p b.toNat) (l := r))
 unfold gD at hb
 rw [← h] at hb
 exact List.all_eq_true.1 (List.all_takeWhile (p := fun b : UInt8 => p b.toNat) (l := r)) b hb
theorem tJ {p : Int → Bool} {r : List UInt8} (h : p (hd r) = true) (h0 : p 0 = false) : 0 < gD p r ∧ hd (r.take (gD p r)) = hd r := by
 cases r with
 | nil => exact (by rw [show hd [] = 0 from rfl, h0] at h; cases h)
 | cons a r =>
  have : gD p (a :: r) = gD p r + 1 := by
   unfold gD
   rw [List.takeWhile_cons, if_pos (by exact h)]
   simp
  rw [this]
  exact ⟨Nat.succ_pos _, rfl⟩
theorem aCt (r : List UInt8) (k : Nat) (l : List Tok) (h : (jJ r k l).err.isOk = true) : (jJ r k l).list = l ∨ ∃ t, (jJ r k l).list = l ++ [t] ∧ Val l t := by
 unfold jJ at h ⊢
 split
 ·exact .inl rfl
 rename_i c; rw [if_neg c] at h
 split
 ·exact wH k l
 rename_i c; rw [if_neg c] at h
 split
 ·exact .inl rfl
 rename_i c; rw [if_neg c] at h
 split
 ·rename_i c; rw [if_pos c] at h
  unfold zJ at h ⊢
  split
  ·exact .inl rfl
  ·rename_i h24
   obtain ⟨h1, h2⟩ := tJ (p := cI) (r := r) (by unfold cI; rw [c]; rfl) (by decide)
   have hl := aCf cI r
   refine .inr ⟨_, rfl, .inr (.inr (.inr (.inl ⟨?_, rfl, r.take (gD cI r), rfl, ?_, by rw [h2]; exact c, aCi r, by rw [List.length_take]; omega, rfl⟩)))⟩
   ·simp only; split <;> simp
   ·intro e; have := congrArg List.length e; rw [List.length_take, List.length_nil] at this; omega
 rename_i c; rw [if_neg c] at h
 split
 ·rename_i c; rw [if_pos c] at h
  unfold rF at h ⊢
  split
  ·exact .inl rfl
  rename_i h18
  split
  ·exact .inl rfl
  rename_i h0
  split
  ·exact .inl rfl
  obtain ⟨h1, h2⟩ := tJ (p := bC) (r := r) c (by decide)
  have hl := aCf bC r
  have hlt : (r.take (gD bC r)).length = gD bC r := by rw [List.length_take]; omega
  refine .inr ⟨_, rfl, .inr (.inr (.inr (.inr ⟨rfl, r.take (gD bC r), rfl, ?_, aCi r, by omega, by rw [h2, hlt]; exact h0, rfl⟩)))⟩
  intro e; have := congrArg List.length e; rw [hlt, List.length_nil] at this; omega
 rename_i c; rw [if_neg c] at h
 split
 ·rename_i c; rw [if_pos c] at h
  exact .inr (sD _ _ _ _ (Nat.le_refl _) (fun z hz => by cases hz) h)
 rename_i c; rw [if_neg c] at h
 split
 ·exact .inl rfl
 ·rename_i hne
  refine .inr ⟨_, rfl, .inr (.inr (.inl ⟨rfl, rfl, ?_⟩))⟩
  simp only
  unfold rB at hne ⊢
  split
  ·rename_i h; exact h.2
  ·rename_i h1
   rw [if_neg h1] at hne
   split
   ·rename_i h; exact h.2
   ·rename_i h2; rw [if_neg h2] at hne; exact (hne rfl).elim

def aD1 (l : List Tok) : Prop := ∀ i t, l[i]? = some t → Val (l.take i) t
theorem aD1.snoc {l l' : List Tok} (h : aD1 l) (hl : l' = l ∨ ∃ t, l' = l ++ [t] ∧ Val l t) : aD1 l' := by
 rcases hl with rfl | ⟨t, rfl, ht⟩
 ·exact h
 ·intro i u hu
  rcases Nat.lt_trichotomy i l.length with hi | hi | hi
  ·rw [List.getElem?_append_left hi] at hu
   rw [List.take_append_of_le_length (Nat.le_of_lt hi)]
   exact h i u hu
  ·subst hi
   rw [List.getElem?_append_right (Nat.le_refl _), Nat.sub_self] at hu
   simp at hu
   subst hu
   rw [List.take_left' rfl]; exact ht
  ·rw [List.getElem?_eq_none (by simp; omega)] at hu; cases hu
theorem gF.aNh {r : List UInt8} {k : Nat} {l : List Tok} {o : Out} (h : gF r k l o) : aD1 l → o.err.isOk = true → ∃ A, o.list = A ++ [⟨6, ⟨#[]⟩, 0, ((k + r.length : Nat) : Int)⟩] ∧ aD1 A ∧ kS A = false := by
 induction h with
 | done k l => exact fun hl _ => ⟨_, rfl, hl.snoc (wH k l), aAq k l⟩
 | @fail r k l hne he => intro _ h; rw [he] at h; cases h
 | @step r k l o n l' h0 hn he hs ih =>
  intro hl ho
  have h2 := aCt r k l (by rw [he]; rfl)
  rw [he] at h2
  obtain ⟨A, h1, h3⟩ := ih (hl.snoc h2) ho
  exact ⟨A, by rw [h1, List.length_drop, show k + n + (r.length - n) = k + r.length by omega], h3⟩

theorem aDf (h : (cO src).l5 = 0) : ∃ o, gF src.data.toList 0 [] o ∧ o.err.isOk = true ∧ o.list = (cO src).qH := by
 have hz : src.size ≤ 8192 := by
  rcases Nat.lt_or_ge 8192 src.size with hz | hz
  ·unfold cO at h; rw [if_pos hz] at h; cases h
  ·exact hz
 obtain ⟨o, ho, e⟩ := aE8 hz
 cases hk : o.err.isOk with
 | false => rw [e, hk] at h; cases h
 | true =>
  rw [hk] at e
  simp only [if_true] at e
  cases hd : fD o.list 0 with
  | some p => rw [hd] at e; rw [e] at h; cases h
  | none => rw [hd] at e; exact ⟨o, ho, hk, by rw [e]⟩
theorem pT {P : Tok → Prop} (h0 : P ⟨6, ⟨#[]⟩, 0, 0⟩) (h : ∀ t ∈ L, P t) (k : Nat) : P (aF L k) := by
 unfold aF
 rw [List.getD_eq_getElem?_getD]
 rcases Nat.lt_or_ge k L.length with hk | hk
 ·rw [List.getElem?_eq_getElem hk]; exact h _ (List.getElem_mem hk)
 ·rw [List.getElem?_eq_none hk]; exact h0
theorem aFn (h : (cO src).l5 = 0) : WFX (cO src).qH := by
 obtain ⟨o, ho, hok, e⟩ := aDf h
 have hp := ho.pos (fun t h => by cases h)
 obtain ⟨A, hA, hv, _⟩ := ho.aNh (fun i t h => by simp at h) hok
 rw [e] at hp hA
 have hval : ∀ t ∈ (cO src).qH, t.kind = 6 ∨ ∃ B, Val B t := by
  intro t ht
  rw [hA] at ht
  rcases List.mem_append.1 ht with ht | ht
  ·obtain ⟨i, hi⟩ := List.getElem?_of_mem ht
   exact .inr ⟨_, hv i t hi⟩
  ·rw [List.mem_singleton.1 ht]; exact .inl rfl
 have hsemi : dE marks ⟨#[59]⟩ = true := by decide +kernel
 refine { toWF := (rC h).1, pos := ?_, kd := ?_, wd := ?_, mks := ?_ }
 ·exact pT (P := fun t => 0 ≤ t.pos) (Int.le_refl _) fun t ht => (hp t ht).1
 ·refine pT (P := fun t => t.kind = 1 ∨ t.kind = 2 ∨ t.kind = 3 ∨ t.kind = 4 ∨ t.kind = 5 ∨ t.kind = 6) (by simp) fun t ht => ?_
  rcases hval t ht with h | ⟨B, h | h | h | h | h⟩ <;> omega
 ·refine pT (P := fun t => t.kind = 4 → dE words t.text = true) (fun h => by simp at h) fun t ht h4 => ?_
  rcases hval t ht with h | ⟨B, h | h | h | h | h⟩
  ·omega
  ·omega
  ·omega
  ·omega
  ·obtain ⟨_, _, u, _, _, _, _, _, hk⟩ := h
   rw [h4] at hk
   cases hw : dE words t.text with
   | true => rfl
   | false => rw [hw] at hk; simp at hk
  ·omega
 ·refine pT (P := fun t => t.kind = 5 → dE marks t.text = true) (fun h => by simp at h) fun t ht h5 => ?_
  rcases hval t ht with h | ⟨B, h | h | h | h | h⟩
  ·omega
  ·omega
  ·rw [h.2.2.1]; exact hsemi
  ·exact h.2.2
  ·omega
  ·omega

theorem aBb (h : (cO src).l5 ≠ 0) : jR src = (eY, (cO src).l5, (cO src).pos) := by
 unfold jR nJ; rw [if_pos h]; rfl
def goR (src : ByteArray) : R (List Nd) := mJ 200000 (cU 200000) (cO src).qH false 200000 [] ⟨0, false⟩
theorem aE4 (h : (cO src).l5 = 0) : goR src ≠ .out ∧ (∀ kids s, goR src = .ok kids s → jR src = (.mk 1 ⟨#[]⟩ 0 0 ⟨#[]⟩ 0 kids, 0, 0)) ∧ ∀ e, goR src = .bad e → jR src = (eY, 4, (aF (cO src).qH e).pos) := by
 have hp := (sQ src).1
 unfold nJ at hp
 rw [if_neg (by simp [h])] at hp
 have hf : oG 200000 (cU 200000) (cO src).qH false ⟨0, false⟩ = (goR src).then fun kids s => .ok (.mk 1 ⟨#[]⟩ 0 0 ⟨#[]⟩ 0 kids) s := rfl
 rw [hf] at hp
 refine ⟨fun e => ?_, fun kids s e => ?_, fun i e => ?_⟩
 ·rw [e] at hp; cases hp
 ·rw [e] at hp; exact (Option.some.inj hp).symm
 ·rw [e] at hp; exact (Option.some.inj hp).symm

theorem aU.of_eq {α : Type} {V : aE → α → Value → Prop} {hd : Bool} {r : R α} (ho : r ≠ .out) (hok : ∀ h' v x a, r = (x.run fun s => .ok a s) → bG h' p L hd x → bB p h h' → V h' a v → Q (.ret v h')) : aU V p L hd h Q r := ⟨ho, fun h' v x a e ps fr hv => hok h' v x a e.symm ps fr hv⟩

theorem aE6 (hz : src.size ≤ 140737488355328) {h : aE} {Q : bW → Prop}
  (hq : ∀ h' b m es, Gr h h' → NV h' (fun j => h.next ≤ j) (aH (jR src).1 b m es) (jR src).1 → Q (.ret (.tuple #[.agg (aH (jR src).1 b m es).toArray, .agg #[.int .i64 (jR src).2.1, .int .i64 (jR src).2.2]]) h')) : aP Tryz.prog G X 13 [.string src] h Q := by
 refine Wk Tryz.func13 Tryz.ntmps13 (w:=QN (Mw (w:=Mw (w:=QO (Ma (w:=MJ aM4 (w:=aG0 hz fun h1 b1 n1 es1 g1 ht1 => ?_)))))))
 have hn1 := nx g1.1
 have G1 : Gr h h1 := (Gr.alloc _ _).trans ((Gr.alloc _ _).trans g1)
 have hr2 : h1.obj h.next = some (Z0) := g1.at aB aA
 have hr3 : h1.obj (h.next + 1) = some (.cells false [.int .i64 0, .int .i64 0]) := g1.at aB aA
 clear g1
 by_cases h0 : (cO src).l5 = 0
 case neg =>
  rw [aBb h0] at hq
  generalize (cO src).l5 = st at *
  generalize (cO src).pos = ps at *
  refine Ma (w:=Mq (w:=Mq (w:=Mw (w:=Mb (w:=Mv (w:=QL (QU (QN (Mj (w:=Mt (w:=ME (w:=fun hh => QQ (QU (Gd [⟨0, .pure, 0⟩, ⟨1, .read, 0⟩, ⟨2, .aC, 1⟩, ⟨3, .aC, 7⟩] (w:=Dn (w:=Ru (w:=?_)))))) (v:=?_))))))))))));refine WD.aC hX (hw := Qv ?_);refine WD.aC hX (hw := Qv ?_);refine WD.nil (hq:=WC.ret ?_);rotate_left;intro hh;exfalso;omega
  refine ⟨_, aJ, ?_⟩
  exact hq _ none 0 0 cC (NV.leaf _ _ _ _ _ _)
 obtain ⟨hno, hyes, hbad⟩ := aE4 h0
 have wfx := aFn h0
 have hz10 := wfx.size
 have hpos := (rC h0).2.1
 have hg : goR src = goR src := rfl
 conv at hg => rhs; unfold goR
 generalize (cO src).qH = L at *
 rw [h0]
 generalize (cO src).pos = sp at *
 rcases ht1 with ⟨rfl, rfl, rfl, rfl⟩ | ⟨j1, rfl, hj1, hj1n, rfl, rfl, hl1⟩
 ·simp at hpos
 refine Ma (w:=Mq (w:=Mq (w:=Mw (w:=Mb (w:=Mv (w:=QL (QU (QN (Mj (w:=Mt (w:=ME (w:=fun hh => by omega) (v:=fun hh => QP (UA (QN (Ma (w:=Mn (w:=Mx (w:=Mb (w:=QO (Mn (w:=Mw (w:=Mv (w:=QL (QU (Bk ?_)))))))))))))))))))))))))
 refine WC.fW 0 (fun e h' => ∃ x kids b n es, e 2 = some (.pointer (some ⟨h.next, 0, none⟩)) ∧ e 3 = some (.pointer (some ⟨h.next + 1, 0, none⟩)) ∧ e 6 = some (pV (h1.next + 1)) ∧ e 7 = some (.pointer (some ⟨h1.next + 2, 0, none⟩)) ∧ bG h' (h1.next + 1) L false x ∧ (∀ j, j < h1.next → h'.obj j = h1.obj j) ∧ h1.next + 2 < h'.next ∧ h'.obj (h1.next + 2) = some (.cells false (aH (.mk 1 ⟨#[]⟩ 0 0 ⟨#[]⟩ 0 kids) b n es)) ∧
  KV h' (fun j => h1.next + 2 < j) b n es kids ∧ goR src = x.run fun s => .ok kids s) ?_ ?_
 ·refine WC.bK hX (α := Nat × List Nd × Xs) (m := fun a => a.1) (Inv := fun a e h' => ∃ b n es, e 2 = some (.pointer (some ⟨h.next, 0, none⟩)) ∧ e 3 = some (.pointer (some ⟨h.next + 1, 0, none⟩)) ∧ e 6 = some (pV (h1.next + 1)) ∧ e 7 = some (.pointer (some ⟨h1.next + 2, 0, none⟩)) ∧ bG h' (h1.next + 1) L false a.2.2 ∧ (∀ j, j < h1.next → h'.obj j = h1.obj j) ∧ h1.next + 2 < h'.next ∧ h'.obj (h1.next + 2) = some (.cells false (aH (.mk 1 ⟨#[]⟩ 0 0 ⟨#[]⟩ 0 a.2.1) b n es)) ∧
   KV h' (fun j => h1.next + 2 < j) b n es a.2.1 ∧ a.1 + a.2.1.length ≤ 200000 ∧ goR src = a.2.2.run fun s => mJ 200000 (cU 200000) L false a.1 a.2.1 s)
   (200000, [], .live ⟨0, false⟩) ⟨none, 0, 0, aD, aD, aD, aD, ⟨aB, ⟨j1, false, by omega, aA, aA⟩, hpos, wfx⟩, fun j hj => bJ, aB, aA, KV.nil _ _, by simp, hg⟩ ?_
  clear hg
  rintro ⟨m, kids, x5⟩ env h5 ih ⟨b5, n5, es5, e2, e3, e6, e7, ps5, hf5, hn5, ho5, kv5, hm5, hR⟩
  simp only at ps5 hm5 kv5 hR ho5
  have hl5 := kv5.len
  obtain ⟨j5, br5, hj5, hp5, hl5'⟩ := ps5.tok
  cases x5 with
  | dead e s =>
   have hb5 := ps5.dA
   generalize hbd : Xs.bad L (Xs.dead e s) = bd at *
   refine QU (QN (Ma (w:=Mi (w:=Mj (w:=Mt (w:=MF (w:=fun hh => by omega) (v:=fun hh => Ma (w:=MA (w:=MA (w:=MA (w:=MA (w:=Md (w:=QP (WC.exit ?_))))))))))))))
   exact ⟨rfl, Xs.dead e s, kids, b5, n5, es5, aD, aD, aD, aD, ps5, hf5, hn5, ho5, kv5, hR⟩
  | live s5 =>
   have hb5 : Xs.bad L (Xs.live s5) = -1 := rfl
   rw [hb5] at hp5
   rw [Xs.a8] at hR
   obtain ⟨m, rfl⟩ : ∃ m', m = m' + 1 := by
    cases m with
    | zero => exact (hno hR).elim
    | succ m => exact ⟨m, rfl⟩
   unfold mJ at hR
   refine QU (QN (Ma (w:=Mi (w:=Mj (w:=Mt (w:=MF (w:=fun hh => Ma (w:=Ma (w:=MJ gG (w:=cN (L := L) (hd := false) (x := .live s5) (aQ) fun h6 g6 => ?_)))) (v:=fun hh => by omega)))))))
   have hn6 := nx g6.1
   generalize htk : aF L (Xs.st (Xs.live s5)).k = tk at *
   by_cases hk6 : tk.kind = 6
   ·rw [if_pos hk6] at hR
    refine Mk (w:=ME (w:=fun hh => by omega) (v:=fun hh => Mc (w:=QP (WC.exit ?_))))
    exact ⟨rfl, .live s5, kids, b5, n5, es5, aD, aD, aD, aD, aQ, fun j hj => Eq.trans bJ (hf5 j hj), aB, aA, kv5.kp, hR⟩
   ·rw [if_neg hk6] at hR
    refine Mk (w:=ME (w:=fun hh => Mc (w:=QQ (UA (Bk (QN (Ma (w:=MJ aNd (w:=aJm (n := 200000) (by omega) (aJy 200000 (by omega) 200000 (Nat.le_refl _)) (hd := false) (L := L) (s := s5) trivial (aQ) (aU.of_eq (fun ho => by rw [ho] at hR; exact hno hR) fun h7 v7 x7 t7 e7' ps7 fr7 hv7 => ?_))))))))) (v:=fun hh => by omega))
    obtain ⟨b7, n7, es7, rfl, kv7⟩ := hv7
    have hn7 := nx fr7.1
    rw [e7', Xs.dQ] at hR
    simp only [R.then_ok] at hR
    refine Mw (w:=Mv (w:=QO (Mj (w:=Mt (w:=Mu (w:=Mz (w:=QK ?_)))))))
    refine WS.jO (S := fun j => h1.next + 2 < j) (S2 := fun j => h6.next ≤ j) (tr := t7) (kv5.kp) aA (kv7.kp) (fun x hx _ => ⟨by omega, kv5.ge x (by omega)⟩) rfl rfl aD aD rfl rfl (by intro k hk; cases hk) (aX rfl) (by unfold room; omega) ?_
    intro hA hnA hkA hfA kvA
    simp only [UB, UC] at hnA hkA hfA kvA
    have psA : bG hA (h1.next + 1) L false x7 := bG.bH (aQ) aB fun j hj => hkA j (by omega) (by omega)
    have hoA : hA.obj (h1.next + 2) = some (.cells false (aH (.mk 1 ⟨#[]⟩ 0 0 ⟨#[]⟩ 0 kids) b5 n5 es5)) := (hkA _ (by omega) (by omega)).trans aA
    have hfA1 : ∀ j, j < h1.next → hA.obj j = h1.obj j := fun j hj => (hkA j (by omega) (by omega)).trans (Eq.trans bJ (hf5 j hj))
    refine Mj (w:=Mv (w:=QL (QV (Ma (w:=MJ dU (w:=?_))))))
    rw [← Xs.dQ] at hR
    refine bO (L := L) (hd := false) (x := x7) (aQ) (aU.of_eq (fun ho => by rw [ho] at hR; exact hno hR) fun h9 v9 x9 a9 e9' ps9 fr9 hv9 => ?_)
    obtain ⟨rfl, hv9⟩ := hv9
    have hn9 := nx fr9.1
    rw [e9', Xs.dQ] at hR
    simp only [R.then_ok] at hR
    refine QL ?_
    exact ih (m, kids ++ [t7], x9) _ _ (by simp) ⟨_, _, _, aD, aD, aD, aD, ps9, fun j hj => Eq.trans bJ (hfA1 j hj), aB, aA, kvA.kp, by simp; omega, hR⟩
 ·rintro e9 h9 ⟨x9, kids, b9, n9, es9, e2, e3, e6, e7, ps9, hf9, hn9, ho9, kv9, hR⟩
  have G9 : Gr h h9 := ⟨by omega, fun j hj => (hf9 j (by omega)).trans (G1.2 j hj)⟩
  have hr2' : h9.obj h.next = some (Z0) := (hf9 _ (by omega)).trans hr2
  have hr3' : h9.obj (h.next + 1) = some (.cells false [.int .i64 0, .int .i64 0]) := (hf9 _ (by omega)).trans hr3
  obtain ⟨j9, br9, hj9, hp9, hl9⟩ := ps9.tok
  cases x9 with
  | dead e s =>
   have hb9 := ps9.dA
   rw [hbad e hR] at hq
   have hbd : Xs.bad L (Xs.dead e s) = (aF L e).pos := rfl
   rw [hbd] at hp9 hb9
   generalize (aF L e).pos = bd at *
   refine aG (QU (QN (Ma (w:=Mi (w:=Mj (w:=Mt (w:=MI (w:=fun hh => QQ (QU (Gd [⟨0, .pure, 0⟩, ⟨1, .pure, 0⟩, ⟨2, .pure, 2⟩, ⟨3, .pure, 6⟩, ⟨4, .read, 14⟩, ⟨5, .pure, 30⟩, ⟨6, .aC, 1⟩, ⟨7, .aC, 127⟩] (w:=Dn (w:=Da (w:=Di (w:=Dj (w:=Rt (w:=Dn (w:=?_)))))))))) (v:=?_))))))));refine WD.aC hX (hw := Qv ?_);refine WD.aC hX (hw := Qv ?_);refine WD.nil (hq:=WC.ret ?_);rotate_left;intro hh;exfalso;omega
   refine ⟨_, aJ, ?_⟩
   exact hq _ none 0 0 cC (NV.leaf _ _ _ _ _ _)
  | live s =>
   have hb9 : Xs.bad L (Xs.live s) = -1 := rfl
   rw [hb9] at hp9
   rw [hyes kids s hR] at hq
   refine aG (QU (QN (Ma (w:=Mi (w:=Mj (w:=Mt (w:=MI (w:=fun hh => by omega) (v:=fun hh => QP (UA (QN (Mu (w:=Mn (w:=Mv (w:=Mv (w:=QM ?_)))))))))))))))
   refine ⟨_, aJ, ?_⟩
   exact hq _ b9 n9 es9 cC (NV.aN (kv9.kp) _ _ _ _ _ _)

theorem xZ (hq : ∀ h', Q (.ret (.bool true) h')) : aP Tryz.prog G X 3 [.string src] h Q := by
 have hT := (sQ src)
 obtain ⟨hp, hs⟩ := hT
 obtain ⟨t, st, p, hF⟩ : ∃ t s p, jR src = (t, s, p) := ⟨_, _, _, rfl⟩
 rw [hF] at hp hs
 refine Wk Tryz.func3 Tryz.ntmps3 (w:=QN (Mb (w:=QL (QU (QN (MJ aMt (w:=aEp fun h1 g1 => ?_)))))))
 refine Me (w:=QP (UA (QU (QN (Ma (w:=Mr (w:=MH (w:=fun hh => QQ (QN (Mb (w:=QM ?_)))) (v:=fun hh => QP (UA (QN (Ma (w:=QK ?_))))))))))))
 ·((apply Exists.intro; apply And.intro; (· repeat (first | exact dP | (apply eB; (· (first | rfl | assumption))) | (apply c7; (· (first | rfl | assumption)); (· rfl); (· exact fK rfl); (· (exact aA)); (· (first | (exact Nat.le_of_ble_eq_true rfl) | (simp; done) | omega)); (· rfl)) | (apply c5; (· (first | rfl | assumption)); (· rfl); (· (exact aA)); (· rfl)))))); exact hq _
 refine QJ aKm ?_
 refine xL (n := 200000) (by omega) hp fun h2 b2 m2 es2 g2 kv2 => ?_
 have hn2 := nx g2.1
 refine Ma (w:=Mq (w:=Mq (w:=Mw (w:=Mw (w:=Mv (w:=Mv (w:=QO (Ma (w:=MJ aMg (w:=aE6 (by omega) fun h3 b3 m3 es3 g3 kv3 => ?_))))))))))
 rw [hF] at kv3 ⊢
 simp only at kv3 ⊢
 have hn3 := nx g3.1
 refine Ma (w:=Mq (w:=Mq (w:=Mw (w:=Mw (w:=Mv (w:=Mv (w:=QO (Mu (w:=Mu (w:=QK ?_))))))))));refine xN (h1 := ?_) (h2 := ?_);intro hh;refine Ma (w:=Mu (w:=Mu (w:=QK ?_)));rotate_left;intro hh;exfalso;simp at hh
 refine QJ aKt ?_
 refine aKk (N := 20000) (by omega) (kv2.kp) (kv3.kp) hs fun h4 r g4 hr => ?_
 obtain rfl : r = true := hr.2 rfl
 refine Mc (w:=Mb (w:=QM ?_))
 refine ⟨_, aJ, ?_⟩
 exact hq _

end Go.Proofs.ZL
end
