/- The document's parser, second part: operands; behind a fault. -/
import Derived.Test.YtoifleamknbeaaaGreatDoorYQ1
section
open Go Go.Am
namespace Go.Proofs.ZL
set_option maxRecDepth 100000
set_option linter.unusedSimpArgs false
set_option linter.unusedVariables false
set_option maxHeartbeats 4000000
variable {h : aE} {Q : bW → Prop} {L : List Tok} {p : Nat} {hd : Bool} {src : ByteArray}
def qJ (r : Rec) (tk : Tok) : PF Nd := fun L _ s => (bI L s ⟨#[40]⟩).then fun _ s =>
 if tk.text = ⟨#[110, 101, 119]⟩ then (eD L s).then fun x s => (bI L s ⟨#[41]⟩).then fun _ s => .ok (nd 44 tk tk.text [nd 12 x x.text []]) s
 else (r.cW L false s).then fun ty s => (if bA L s [⟨#[44]⟩] then (r.expr L false s.next).then fun e s => .ok [ty, e] s else .ok [ty] s).then fun kids s =>
  (bI L s ⟨#[41]⟩).then fun _ s => .ok (nd 44 tk tk.text kids) s

theorem aHv {r : Rec} (c : gE r) {p : Nat} {L : List Tok} {x0 : Xs} {h : aE} {Q : bW → Prop} {tk : Tok} (ps : bG h p L false x0)
  (hq0 : aU (VN (fun j => h.next ≤ j)) p L false h Q (x0.run (qJ r tk L false))) : aP Tryz.prog G X 156 [pV p, .agg tk.cells.toArray] h Q := by
 have hp := ps.lt
 have hz := ps.wf.size
 unfold qJ at hq0
 refine Wk Tryz.func156 Tryz.ntmps156 (w:=QN (Mx (w:=Mw (w:=QO (Ma (w:=MJ dU (w:=bO (hd := false) (aQ) (aU.use (hd' := false) aI hq0 fun tk1 x1 h1 v1 ps1 fr1 hv1 hq1 => ?_))))))))
 obtain ⟨rfl, rfl⟩ := hv1
 have hn1 := nx fr1.1
 refine QO (Mb (w:=QL (QU (QN (Mj (w:=Mt (w:=MB (w:=fun hh => QQ (QN (Ma (w:=QK ?_)))) (v:=fun hh => QP (QN (Ma (w:=QK ?_)))))))))))
 ·simp only [if_pos hh] at hq1
  refine QJ gG ?_
  refine cN (L := L) (hd := false) (x := x1) (aQ) fun h2 g2 => ?_
  have hn2 := nx g2.1
  refine Mk (w:=Mb (w:=QO (Ma (w:=MJ q7 (w:=jH (hd := false) (aQ) (aU.use (hd' := false) aI hq1 fun tk3 x3 h3 v3 ps3 fr3 hv3 hq3 => ?_))))))
  obtain ⟨rfl, hp3⟩ := hv3
  have hn3 := nx fr3.1
  generalize (aF L x1.st.k).pos = q3 at *
  subst hp3
  refine Mb (w:=QL (QV (Ma (w:=Ma (w:=Ma (w:=MJ cL (w:=bN fun h4 g4 => ?_)))))))
  have hn4 := nx g4.1
  refine Mz (w:=QK ?_)
  refine WS.jO (S := fun j => h.next + 1 < j) (S2 := fun j => h4.next ≤ j) (tr := nd 12 tk3 tk3.text []) (KV.nil _ _) aA (NV.leaf _ _ _ _ _ _) (fun x hx _ => ⟨by omega, fun off e => by cases e⟩) rfl rfl aD aD rfl rfl (by intro k hk; cases hk) (aX rfl) (by unfold room; omega) ?_
  intro hA hnhA hkhA hfhA kvhA
  simp only [UB, UC] at hnhA hkhA hfhA kvhA
  have pshA : bG hA p L false x3 := bG.bH (aQ) aB fun j hj => hkhA j (by omega) (by omega)
  have frhA : bB p h hA := bB.bH aI aB fun j hj => hkhA j (by omega) (by omega)
  have kvhA := kvhA.mono (S' := fun j => h.next + 1 < j) (Nat.le_refl _) (fun j hj _ => ⟨by omega, rfl⟩)
  have hohA : (hA).obj h.next = some (.cells false tk.cells) := (hkhA _ (by omega) (by omega)).trans aA
  have hzhA : (hA).obj (h.next + 1) = some (Z0) := (hkhA _ (by omega) (by omega)).trans aA
  refine Mb (w:=QO (Ma (w:=MJ dU (w:=bO (hd := false) (aQ) (aU.use (hd' := false) aI hq3 fun tk30 x30 h30 v30 ps30 fr30 hv30 hq30 => ?_)))))
  obtain ⟨rfl, rfl⟩ := hv30
  have hn30 := nx fr30.1
  refine QO (Mj (w:=Mt (w:=Mj (w:=Mt (w:=Ma (w:=MJ cL (w:=bN fun h31 g31 => ?_)))))))
  have hn31 := nx g31.1
  refine Mv (w:=QM ?_)
  refine ⟨_, aJ, ?_⟩
  exact hq30.fin aQ aI ⟨_, _, _, rfl, NV.aN (kvhA.kp) _ _ _ _ _ _⟩
 ·simp only [if_neg hh] at hq1
  refine QJ r4 ?_
  refine c.cW (hd := false) (aQ) (Eu hq1 (k:=fun t2 x2 h2 b2 n2 es2 ps2 fr2 kv2 hn2 hq2 => ?_))
  refine Mw (w:=Mv (w:=QO (Ma (w:=Mu (w:=Mz (w:=QK ?_))))))
  refine WS.jO (S := fun j => h.next + 1 < j) (S2 := fun j => h1.next ≤ j) (tr := t2) (KV.nil _ _) aA (kv2.kp) (fun x hx _ => ⟨by omega, fun off e => by cases e⟩) rfl rfl aD aD rfl rfl (by intro k hk; cases hk) (aX rfl) (by unfold room; omega) ?_
  intro hA hnhA hkhA hfhA kvhA
  simp only [UB, UC] at hnhA hkhA hfhA kvhA
  have pshA : bG hA p L false x2 := bG.bH (aQ) aB fun j hj => hkhA j (by omega) (by omega)
  have frhA : bB p h hA := bB.bH aI aB fun j hj => hkhA j (by omega) (by omega)
  have kvhA := kvhA.mono (S' := fun j => h.next + 1 < j) (Nat.le_refl _) (fun j hj _ => ⟨by omega, rfl⟩)
  have hohA : (hA).obj h.next = some (.cells false tk.cells) := (hkhA _ (by omega) (by omega)).trans aA
  have hzhA : (hA).obj (h.next + 1) = some (Z0) := (hkhA _ (by omega) (by omega)).trans aA
  have hlA := kvhA.len
  refine Mb (w:=QO (Ma (w:=MJ qX (w:=lV (L := L) (hd := false) (x := x2) (aQ) fun h3 ps3 fr3 => ?_))))
  have hn3 := nx fr3.1
  cases hb3 : Xs.is L [⟨#[44]⟩] x2
  ·rw [Xs.gT hb3] at ps3
   rw [Xs.hY hb3] at hq2
   have hq2 : aU _ _ _ _ _ _ (x2.run fun s => _) := hq2
   refine Mb (w:=QO (Ma (w:=QP (UA (QN (Ma (w:=MJ dU (w:=bO (hd := false) (aQ) (aU.use (hd' := false) aI hq2 fun tk30 x30 h30 v30 ps30 fr30 hv30 hq30 => ?_)))))))))
   obtain ⟨rfl, rfl⟩ := hv30
   have hn30 := nx fr30.1
   refine QO (Mj (w:=Mt (w:=Mj (w:=Mt (w:=Ma (w:=MJ cL (w:=bN fun h31 g31 => ?_)))))))
   have hn31 := nx g31.1
   refine Mv (w:=QM ?_)
   refine ⟨_, aJ, ?_⟩
   exact hq30.fin aQ aI ⟨_, _, _, rfl, NV.aN (kvhA.kp) _ _ _ _ _ _⟩
  ·rw [Xs.iA hb3] at hq2
   obtain ⟨s3, rfl, hs3⟩ := Xs.fZ hb3
   rw [Xs.iE hs3] at ps3
   rw [Xs.a8, R.then_assoc] at hq2
   simp only [R.then_ok] at hq2
   refine Mb (w:=QO (Ma (w:=QQ (QN (Ma (w:=MJ iW (w:=c.expr (hd := false) (aQ) (El hq2 (k:=fun t4 x4 h4 b4 n4 es4 ps4 fr4 kv4 hn4 hq4 => ?_)))))))))
   refine Mw (w:=Mv (w:=QL (QV (Ma (w:=Mu (w:=Mz (w:=QK ?_)))))))
   refine WS.jO (S := fun j => h.next + 1 < j) (S2 := fun j => hA.next ≤ j) (tr := t4) (kvhA.kp) aA (kv4.kp) (fun x hx _ => ⟨by omega, kvhA.ge x hx⟩) rfl rfl aD aD rfl rfl (by intro k hk; cases hk) (aX rfl) (by unfold room; omega) ?_
   intro hB hnhB hkhB hfhB kvhB
   simp only [UB, UC] at hnhB hkhB hfhB kvhB
   have pshB : bG hB p L false x4 := bG.bH (aQ) aB fun j hj => hkhB j (by omega) (by omega)
   have frhB : bB p h hB := bB.bH aI aB fun j hj => hkhB j (by omega) (by omega)
   have kvhB := kvhB.mono (S' := fun j => h.next + 1 < j) (Nat.le_refl _) (fun j hj _ => ⟨by omega, rfl⟩)
   have hohB : (hB).obj h.next = some (.cells false tk.cells) := (hkhB _ (by omega) (by omega)).trans aA
   have hzhB : (hB).obj (h.next + 1) = some (Z0) := (hkhB _ (by omega) (by omega)).trans aA
   refine Mb (w:=QO (Ma (w:=MJ dU (w:=bO (hd := false) (aQ) (aU.use (hd' := false) aI hq4 fun tk30 x30 h30 v30 ps30 fr30 hv30 hq30 => ?_)))))
   obtain ⟨rfl, rfl⟩ := hv30
   have hn30 := nx fr30.1
   refine QO (Mj (w:=Mt (w:=Mj (w:=Mt (w:=Ma (w:=MJ cL (w:=bN fun h31 g31 => ?_)))))))
   have hn31 := nx g31.1
   refine Mv (w:=QM ?_)
   refine ⟨_, aJ, ?_⟩
   exact hq30.fin aQ aI ⟨_, _, _, rfl, NV.aN (kvhB.kp) _ _ _ _ _ _⟩

def aC5 (r : Rec) (w : Bool) (L : List Tok) (s : St) : R Nd := if w then (eD L s).then fun y s => (bI L s ⟨#[58]⟩).then fun _ s => (r.expr L false s).then fun e s => .ok (nd 5 y y.text [e]) s else r.expr L false s
def lF (n : Nat) (r : Rec) (tk : Tok) : PF Nd := fun L _ s =>
 if tk.text = ⟨#[38]⟩ then (eD L s).then fun x s => (bI L s ⟨#[123]⟩).then fun _ s => (fA r L false (aC5 r true L) n [] s).then fun kids s => .ok (nd 49 tk x.text kids) s
 else (bI L s ⟨#[93]⟩).then fun _ s => (r.cW L false s).then fun ty s => (bI L s ⟨#[123]⟩).then fun _ s => (fA r L false (aC5 r false L) n [ty] s).then fun kids s => .ok (nd 50 tk ⟨#[]⟩ kids) s

theorem aCx {r : Rec} {n : Nat} (hn : n ≤ 1000000) (c : gE r) {p : Nat} {L : List Tok} {x0 : Xs} {h : aE} {Q : bW → Prop} {tk : Tok} (ps : bG h p L false x0)
  (hq0 : aU (VN (fun j => h.next ≤ j)) p L false h Q (x0.run (lF n r tk L false))) : aP Tryz.prog G X 155 [pV p, .agg tk.cells.toArray] h Q := by
 have hp := ps.lt
 have hz := ps.wf.size
 unfold lF at hq0
 refine Wk Tryz.func155 Tryz.ntmps155 (w:=QN (Mx (w:=Mw (w:=QO (Mb (w:=QO (Mb (w:=QO (Mb (w:=QL (QU (QN (Mj (w:=Mt (w:=MB (w:=fun hh => QQ (QV (Ma (w:=QK ?_)))) (v:=fun hh => QP (QN (Mb (w:=QO (Ma (w:=QK ?_)))))))))))))))))))))
 ·simp only [if_pos hh] at hq0
  refine QJ q7 ?_
  refine jH (hd := false) (aQ) (aU.use (hd' := false) aI hq0 fun tk1 x1 h1 v1 ps1 fr1 hv1 hq1 => ?_)
  obtain ⟨rfl, hp1⟩ := hv1
  have hn1 := nx fr1.1
  generalize tk1.text = txt at *
  clear hp1 tk1
  refine Mb (w:=QO (Ma (w:=MJ dU (w:=bO (hd := false) (aQ) (aU.use (hd' := false) aI hq1 fun tk2 x2 h2 v2 ps2 fr2 hv2 hq2 => ?_)))))
  obtain ⟨rfl, rfl⟩ := hv2
  have hn2 := nx fr2.1
  refine QL (QU (Bk ?_))
  refine WC.fW 0 (fun e h' => ∃ x kids b n es, e 0 = some (pV p) ∧ e 3 = some (.pointer (some ⟨h.next, 0, none⟩)) ∧ e 4 = some (.pointer (some ⟨h.next + 1, 0, none⟩)) ∧ e 5 = some (.slice b n es) ∧ e 6 = some (.string txt) ∧ e 7 = some (.int .i64 49) ∧ bG h' p L false x ∧ bB p h h' ∧
   h'.obj h.next = some (.cells false tk.cells) ∧ h'.obj (h.next + 1) = some (Z0) ∧ h.next + 1 < h'.next ∧
   KV h' (fun j => h.next + 1 < j) b n es kids ∧ aU (VN fun j => h.next ≤ j) p L false h Q (x.run fun s => (bI L s ⟨#[125]⟩).then fun _ s => .ok (nd 49 tk txt kids) s)) ?_ ?_
  ·refine WC.bK hX (α := Nat × List Nd × Xs) (m := fun a => a.1) (Inv := fun a e h' => ∃ b n' es, e 0 = some (pV p) ∧ e 3 = some (.pointer (some ⟨h.next, 0, none⟩)) ∧ e 4 = some (.pointer (some ⟨h.next + 1, 0, none⟩)) ∧ e 5 = some (.slice b n' es) ∧ e 6 = some (.string txt) ∧ e 7 = some (.int .i64 49) ∧ bG h' p L false a.2.2 ∧ bB p h h' ∧
    h'.obj h.next = some (.cells false tk.cells) ∧ h'.obj (h.next + 1) = some (Z0) ∧ h.next + 1 < h'.next ∧ a.1 + a.2.1.length ≤ n + 1 ∧
    KV h' (fun j => h.next + 1 < j) b n' es a.2.1 ∧ aU (VN fun j => h.next ≤ j) p L false h Q (a.2.2.run fun s => (fA r L false (aC5 r true L) a.1 a.2.1 s).then fun kids s => .ok (nd 49 tk txt kids) s))
    (n, [], x2) ⟨_, _, _, rfl, rfl, rfl, rfl, rfl, rfl, aQ, aI, aA, aA, aB, by simp, KV.nil _ _, hq2⟩ ?_
   rintro ⟨m, kids, x5⟩ env h5 ih ⟨b5, n5, es5, e0, e3, e4, e5, e6, e7, ps5, fr5, ho5, hz5, hn5, hm5, kv5, hq5⟩
   simp only at ps5 hm5 kv5 hq5
   have hnn5 := fr5.1
   have hl5 := kv5.len
   obtain ⟨j5, br5, hj5, hp5, hl5'⟩ := ps5.tok
   cases x5 with
   | dead e s =>
    have hb5 := ps5.dA
    generalize hbd : Xs.bad L (Xs.dead e s) = bd at *
    refine QU (QN (Ma (w:=Mi (w:=Mj (w:=Mt (w:=MF (w:=fun hh => by omega) (v:=fun hh => Ma (w:=MA (w:=MA (w:=MA (w:=Md (w:=QP (WC.exit ?_)))))))))))))
    exact ⟨rfl, Xs.dead e s, kids, b5, n5, es5, e0, e3, e4, e5, e6, e7, ps5, fr5, ho5, hz5, hn5, kv5, hq5⟩
   | live s5 =>
    have hb5 : Xs.bad L (Xs.live s5) = -1 := rfl
    rw [hb5] at hp5
    obtain ⟨m, rfl⟩ : ∃ m', m = m' + 1 := by
     cases m with
     | zero => exact (hq5.1 rfl).elim
     | succ m => exact ⟨m, rfl⟩
    rw [Xs.a8] at hq5
    unfold fA at hq5
    refine QU (QN (Ma (w:=Mi (w:=Mj (w:=Mt (w:=MF (w:=fun hh => Ma (w:=Ma (w:=MJ gY (w:=gX (L := L) (hd := false) (x := .live s5) (aQ) fun h6 g6 => ?_)))) (v:=fun hh => by omega)))))))
    have hn6 := nx g6.1
    cases hb6 : Xs.is L [⟨#[125]⟩] (.live s5)
    ·have hs6 : bA L s5 [⟨#[125]⟩] = false := hb6
     rw [hs6, if_neg Bool.false_ne_true] at hq5
     simp only [R.then_assoc] at hq5
     refine Me (w:=Mc (w:=QQ (UA (Bk (QN (Ma (w:=MJ gG (w:=cN (L := L) (hd := false) (x := .live s5) (aQ) fun h10 g10 => ?_))))))))
     have hn10 := nx g10.1
     refine Mk (w:=Mb (w:=QL (QU (QN (Ma (w:=MD (w:=fun hh => QQ (QN (Ma (w:=QK ?_)))) (v:=fun hh => by omega)))))))
     unfold aC5 at hq5
     simp only [if_true, R.then_assoc, R.then_ok] at hq5
     refine QJ q7 ?_
     refine jH (hd := false) (aQ) (aU.kH (hd' := false) aI hq5 fun tk11 x11 h11 v11 ps11 fr11 hv11 hq11 => ?_)
     obtain ⟨rfl, hp11⟩ := hv11
     have hn11 := nx fr11.1
     generalize (aF L s5.k).pos = q11 at *
     subst hp11
     refine Mb (w:=QO (Ma (w:=MJ dU (w:=bO (hd := false) (aQ) (aU.use (hd' := false) aI hq11 fun tk12 x12 h12 v12 ps12 fr12 hv12 hq12 => ?_)))))
     obtain ⟨rfl, rfl⟩ := hv12
     have hn12 := nx fr12.1
     refine QO (Ma (w:=MJ iW (w:=c.expr (hd := false) (aQ) (Eu hq12 (k:=fun t13 x13 h13 b13 n13 es13 ps13 fr13 kv13 hn13 hq13 => ?_)))))
     refine Mw (w:=Mv (w:=QL (QV (Ma (w:=Ma (w:=Ma (w:=Mu (w:=Mz (w:=MJ cL (w:=bN fun h14 g14 => ?_))))))))))
     have hn14 := nx g14.1
     refine Mz (w:=QK ?_)
     refine WS.jO (S := fun j => h.next + 1 < j) (S2 := fun j => h5.next ≤ j) (tr := nd 5 tk11 tk11.text [t13]) (kv5.kp) aA (NV.aN (KV.one (S := fun j => h5.next ≤ j ∧ j < h13.next) aB aB aA (kv13.kp) (fun j hS hj => ⟨hS.1, by have := hS.2; exact aB⟩)) _ _ _ _ _ _) (fun x hx _ => ⟨by omega, kv5.ge x hx⟩) rfl rfl aD aD rfl rfl (by intro k hk; cases hk) (aX rfl) (by unfold room; omega) ?_
     intro h9 hnh9 hkh9 hfh9 kvh9
     simp only [UB, UC] at hnh9 hkh9 hfh9 kvh9
     have psh9 : bG h9 p L false x13 := bG.bH (aQ) aB fun j hj => hkh9 j (by omega) (by omega)
     have frh9 : bB p h h9 := bB.bH aI aB fun j hj => hkh9 j (by omega) (by omega)
     have kvh9 := kvh9.mono (S' := fun j => h.next + 1 < j) (Nat.le_refl _) (fun j hj _ => ⟨by omega, rfl⟩)
     have hoh9 : (h9).obj h.next = some (.cells false tk.cells) := (hkh9 _ (by omega) (by omega)).trans aA
     have hzh9 : (h9).obj (h.next + 1) = some (Z0) := (hkh9 _ (by omega) (by omega)).trans aA
     unfold oV at hq13
     have hl9 := kvh9.len
     refine Mb (w:=QO (Ma (w:=MJ gY (w:=gX (L := L) (hd := false) (x := x13) (aQ) fun h20 g20 => ?_))))
     have hn20 := nx g20.1
     cases hb20 : Xs.is L [⟨#[125]⟩] x13
     ·rw [Xs.hY hb20, ] at hq13
      simp only [R.then_assoc, R.then_ok] at hq13
      refine Me (w:=QQ (QV (Ma (w:=MJ dU (w:=bO (hd := false) (aQ) (aU.use (hd' := false) aI hq13 fun tk21 x21 h21 v21 ps21 fr21 hv21 hq21 => ?_))))))
      obtain ⟨rfl, rfl⟩ := hv21
      have hn21 := nx fr21.1
      refine QL ?_
      exact ih (m, kids ++ [nd 5 tk11 tk11.text [t13]], x21) _ _ (by simp) ⟨_, _, _, e0, e3, e4, rfl, e6, e7, aQ, aI, aA, aA, aB, by simp; omega, kvh9.kp, hq21⟩
     ·rw [Xs.iA hb20] at hq13
      simp only [R.then_ok] at hq13
      refine Me (w:=QP (UA ?_))
      exact ih (m, kids ++ [nd 5 tk11 tk11.text [t13]], x13) _ _ (by simp) ⟨_, _, _, e0, e3, e4, rfl, e6, e7, aQ, aI, aA, aA, aB, by simp; omega, kvh9.kp, hq13⟩
    ·have hs6 : bA L s5 [⟨#[125]⟩] = true := hb6
     rw [hs6, if_pos rfl, R.then_ok] at hq5
     refine Me (w:=Mc (w:=QP (WC.exit ?_)))
     exact ⟨rfl, .live s5, kids, b5, n5, es5, e0, e3, e4, e5, e6, e7, aQ, aI, aA, aA, aB, kv5.kp, by rw [Xs.a8, lW hs6]; exact hq5⟩
  ·rintro e h9 ⟨x9, kids, b9, n9, es9, e0, e3, e4, e5, e6, e7, ps9, fr9, ho9, hz9, hn9, kv9, hq9⟩
   have hnn9 := fr9.1
   refine aG (QN (Ma (w:=MJ dU (w:=bO (hd := false) (aQ) (aU.use (hd' := false) aI hq9 fun tk2 x2 h2 v2 ps2 fr2 hv2 hq2 => ?_)))))
   obtain ⟨rfl, rfl⟩ := hv2
   have hn2 := nx fr2.1
   refine QO (Ma (w:=Mj (w:=Mt (w:=Ma (w:=Ma (w:=MJ cL (w:=bN fun h31 g31 => ?_)))))))
   have hn31 := nx g31.1
   refine Mv (w:=QM ?_)
   refine ⟨_, aJ, ?_⟩
   exact hq2.fin aQ aI ⟨_, _, _, rfl, NV.aN (kv9.kp) _ _ _ _ _ _⟩
 ·simp only [if_neg hh] at hq0
  refine QJ dU ?_
  refine bO (hd := false) (aQ) (aU.use (hd' := false) aI hq0 fun tk1 x1 h1 v1 ps1 fr1 hv1 hq1 => ?_)
  obtain ⟨rfl, rfl⟩ := hv1
  have hn1 := nx fr1.1
  refine QO (Ma (w:=MJ r4 (w:=c.cW (hd := false) (aQ) (Eu hq1 (k:=fun t2 x2 h2 b2 n2 es2 ps2 fr2 kv2 hn2 hq2 => ?_)))))
  refine Mw (w:=Mv (w:=QL (QV (Ma (w:=Mu (w:=Mz (w:=QK ?_)))))))
  refine WS.jO (S := fun j => h.next + 1 < j) (S2 := fun j => h1.next ≤ j) (tr := t2) (KV.nil _ _) aA (kv2.kp) (fun x hx _ => ⟨by omega, fun off e => by cases e⟩) rfl rfl aD aD rfl rfl (by intro k hk; cases hk) (aX rfl) (by unfold room; omega) ?_
  intro hA hnhA hkhA hfhA kvhA
  simp only [UB, UC] at hnhA hkhA hfhA kvhA
  have pshA : bG hA p L false x2 := bG.bH (aQ) aB fun j hj => hkhA j (by omega) (by omega)
  have frhA : bB p h hA := bB.bH aI aB fun j hj => hkhA j (by omega) (by omega)
  have kvhA := kvhA.mono (S' := fun j => h.next + 1 < j) (Nat.le_refl _) (fun j hj _ => ⟨by omega, rfl⟩)
  have hohA : (hA).obj h.next = some (.cells false tk.cells) := (hkhA _ (by omega) (by omega)).trans aA
  have hzhA : (hA).obj (h.next + 1) = some (Z0) := (hkhA _ (by omega) (by omega)).trans aA
  refine Mb (w:=QO (Ma (w:=MJ dU (w:=bO (hd := false) (aQ) (aU.use (hd' := false) aI hq2 fun tk3 x3 h3 v3 ps3 fr3 hv3 hq3 => ?_)))))
  obtain ⟨rfl, rfl⟩ := hv3
  have hn3 := nx fr3.1
  refine QL (QU (Bk ?_))
  refine WC.fW 0 (fun e h' => ∃ x kids b n es, e 0 = some (pV p) ∧ e 3 = some (.pointer (some ⟨h.next, 0, none⟩)) ∧ e 4 = some (.pointer (some ⟨h.next + 1, 0, none⟩)) ∧ e 5 = some (.slice b n es) ∧ e 6 = some (.string ⟨#[]⟩) ∧ e 7 = some (.int .i64 50) ∧ bG h' p L false x ∧ bB p h h' ∧
   h'.obj h.next = some (.cells false tk.cells) ∧ h'.obj (h.next + 1) = some (Z0) ∧ h.next + 1 < h'.next ∧
   KV h' (fun j => h.next + 1 < j) b n es kids ∧ aU (VN fun j => h.next ≤ j) p L false h Q (x.run fun s => (bI L s ⟨#[125]⟩).then fun _ s => .ok (nd 50 tk ⟨#[]⟩ kids) s)) ?_ ?_
  ·refine WC.bK hX (α := Nat × List Nd × Xs) (m := fun a => a.1) (Inv := fun a e h' => ∃ b n' es, e 0 = some (pV p) ∧ e 3 = some (.pointer (some ⟨h.next, 0, none⟩)) ∧ e 4 = some (.pointer (some ⟨h.next + 1, 0, none⟩)) ∧ e 5 = some (.slice b n' es) ∧ e 6 = some (.string ⟨#[]⟩) ∧ e 7 = some (.int .i64 50) ∧ bG h' p L false a.2.2 ∧ bB p h h' ∧
    h'.obj h.next = some (.cells false tk.cells) ∧ h'.obj (h.next + 1) = some (Z0) ∧ h.next + 1 < h'.next ∧ a.1 + a.2.1.length ≤ n + 1 ∧
    KV h' (fun j => h.next + 1 < j) b n' es a.2.1 ∧ aU (VN fun j => h.next ≤ j) p L false h Q (a.2.2.run fun s => (fA r L false (aC5 r false L) a.1 a.2.1 s).then fun kids s => .ok (nd 50 tk ⟨#[]⟩ kids) s))
    (n, [t2], x3) ⟨_, _, _, rfl, rfl, rfl, rfl, rfl, rfl, aQ, aI, aA, aA, aB, by simp, kvhA.kp, hq3⟩ ?_
   rintro ⟨m, kids, x5⟩ env h5 ih ⟨b5, n5, es5, e0, e3, e4, e5, e6, e7, ps5, fr5, ho5, hz5, hn5, hm5, kv5, hq5⟩
   simp only at ps5 hm5 kv5 hq5
   have hnn5 := fr5.1
   have hl5 := kv5.len
   obtain ⟨j5, br5, hj5, hp5, hl5'⟩ := ps5.tok
   cases x5 with
   | dead e s =>
    have hb5 := ps5.dA
    generalize hbd : Xs.bad L (Xs.dead e s) = bd at *
    refine QU (QN (Ma (w:=Mi (w:=Mj (w:=Mt (w:=MF (w:=fun hh => by omega) (v:=fun hh => Ma (w:=MA (w:=MA (w:=MA (w:=Md (w:=QP (WC.exit ?_)))))))))))))
    exact ⟨rfl, Xs.dead e s, kids, b5, n5, es5, e0, e3, e4, e5, e6, e7, ps5, fr5, ho5, hz5, hn5, kv5, hq5⟩
   | live s5 =>
    have hb5 : Xs.bad L (Xs.live s5) = -1 := rfl
    rw [hb5] at hp5
    obtain ⟨m, rfl⟩ : ∃ m', m = m' + 1 := by
     cases m with
     | zero => exact (hq5.1 rfl).elim
     | succ m => exact ⟨m, rfl⟩
    rw [Xs.a8] at hq5
    unfold fA at hq5
    refine QU (QN (Ma (w:=Mi (w:=Mj (w:=Mt (w:=MF (w:=fun hh => Ma (w:=Ma (w:=MJ gY (w:=gX (L := L) (hd := false) (x := .live s5) (aQ) fun h6 g6 => ?_)))) (v:=fun hh => by omega)))))))
    have hn6 := nx g6.1
    cases hb6 : Xs.is L [⟨#[125]⟩] (.live s5)
    ·have hs6 : bA L s5 [⟨#[125]⟩] = false := hb6
     rw [hs6, if_neg Bool.false_ne_true] at hq5
     simp only [R.then_assoc] at hq5
     refine Me (w:=Mc (w:=QQ (UA (Bk (QN (Ma (w:=MJ gG (w:=cN (L := L) (hd := false) (x := .live s5) (aQ) fun h10 g10 => ?_))))))))
     have hn10 := nx g10.1
     refine Mk (w:=Mb (w:=QL (QU (QN (Ma (w:=MD (w:=fun hh => by omega) (v:=fun hh => QP (QN (Ma (w:=QK ?_))))))))))
     unfold aC5 at hq5
     simp only [Bool.false_eq_true, if_false] at hq5
     refine QJ iW ?_
     refine c.expr (hd := false) (aQ) (El hq5 (k:=fun t13 x13 h13 b13 n13 es13 ps13 fr13 kv13 hn13 hq13 => ?_))
     refine Mw (w:=Mv (w:=QL (QV (Ma (w:=Mu (w:=Mz (w:=QK ?_)))))))
     refine WS.jO (S := fun j => h.next + 1 < j) (S2 := fun j => h5.next ≤ j) (tr := t13) (kv5.kp) aA (kv13.kp) (fun x hx _ => ⟨by omega, kv5.ge x hx⟩) rfl rfl aD aD rfl rfl (by intro k hk; cases hk) (aX rfl) (by unfold room; omega) ?_
     intro h9 hnh9 hkh9 hfh9 kvh9
     simp only [UB, UC] at hnh9 hkh9 hfh9 kvh9
     have psh9 : bG h9 p L false x13 := bG.bH (aQ) aB fun j hj => hkh9 j (by omega) (by omega)
     have frh9 : bB p h h9 := bB.bH aI aB fun j hj => hkh9 j (by omega) (by omega)
     have kvh9 := kvh9.mono (S' := fun j => h.next + 1 < j) (Nat.le_refl _) (fun j hj _ => ⟨by omega, rfl⟩)
     have hoh9 : (h9).obj h.next = some (.cells false tk.cells) := (hkh9 _ (by omega) (by omega)).trans aA
     have hzh9 : (h9).obj (h.next + 1) = some (Z0) := (hkh9 _ (by omega) (by omega)).trans aA
     unfold oV at hq13
     have hl9 := kvh9.len
     refine Mb (w:=QO (Ma (w:=MJ gY (w:=gX (L := L) (hd := false) (x := x13) (aQ) fun h20 g20 => ?_))))
     have hn20 := nx g20.1
     cases hb20 : Xs.is L [⟨#[125]⟩] x13
     ·rw [Xs.hY hb20, ] at hq13
      simp only [R.then_assoc, R.then_ok] at hq13
      refine Me (w:=QQ (QV (Ma (w:=MJ dU (w:=bO (hd := false) (aQ) (aU.use (hd' := false) aI hq13 fun tk21 x21 h21 v21 ps21 fr21 hv21 hq21 => ?_))))))
      obtain ⟨rfl, rfl⟩ := hv21
      have hn21 := nx fr21.1
      refine QL ?_
      exact ih (m, kids ++ [t13], x21) _ _ (by simp) ⟨_, _, _, e0, e3, e4, rfl, e6, e7, aQ, aI, aA, aA, aB, by simp; omega, kvh9.kp, hq21⟩
     ·rw [Xs.iA hb20] at hq13
      simp only [R.then_ok] at hq13
      refine Me (w:=QP (UA ?_))
      exact ih (m, kids ++ [t13], x13) _ _ (by simp) ⟨_, _, _, e0, e3, e4, rfl, e6, e7, aQ, aI, aA, aA, aB, by simp; omega, kvh9.kp, hq13⟩
    ·have hs6 : bA L s5 [⟨#[125]⟩] = true := hb6
     rw [hs6, if_pos rfl, R.then_ok] at hq5
     refine Me (w:=Mc (w:=QP (WC.exit ?_)))
     exact ⟨rfl, .live s5, kids, b5, n5, es5, e0, e3, e4, e5, e6, e7, aQ, aI, aA, aA, aB, kv5.kp, by rw [Xs.a8, lW hs6]; exact hq5⟩
  ·rintro e h9 ⟨x9, kids, b9, n9, es9, e0, e3, e4, e5, e6, e7, ps9, fr9, ho9, hz9, hn9, kv9, hq9⟩
   have hnn9 := fr9.1
   refine aG (QN (Ma (w:=MJ dU (w:=bO (hd := false) (aQ) (aU.use (hd' := false) aI hq9 fun tk2 x2 h2 v2 ps2 fr2 hv2 hq2 => ?_)))))
   obtain ⟨rfl, rfl⟩ := hv2
   have hn2 := nx fr2.1
   refine QO (Ma (w:=Mj (w:=Mt (w:=Ma (w:=Ma (w:=MJ cL (w:=bN fun h31 g31 => ?_)))))))
   have hn31 := nx g31.1
   refine Mv (w:=QM ?_)
   refine ⟨_, aJ, ?_⟩
   exact hq2.fin aQ aI ⟨_, _, _, rfl, NV.aN (kv9.kp) _ _ _ _ _ _⟩

def oD (n : Nat) (r : Rec) (tk : Tok) (L : List Tok) (s : St) : R Nd := (bI L s ⟨#[40]⟩).then fun _ s => (dV n r ⟨#[41]⟩ L false s).then fun kids s => .ok (nd 44 tk tk.text kids) s
def sP (n : Nat) (r : Rec) (tk : Tok) (L : List Tok) (hd : Bool) (s : St) : Option (R Nd) :=
 if tk.text = ⟨#[40]⟩ then some ((r.expr L false s).then fun e s => (bI L s ⟨#[41]⟩).then fun _ s => .ok e s)
 else if tk.text = ⟨#[116, 114, 117, 101]⟩ then some (.ok (nd 38 tk tk.text []) s)
 else if tk.text = ⟨#[102, 97, 108, 115, 101]⟩ then some (.ok (nd 38 tk tk.text []) s)
 else if tk.text = ⟨#[110, 105, 108]⟩ then some (.ok (nd 39 tk ⟨#[]⟩ []) s)
 else if tk.text = ⟨#[102, 117, 110, 99]⟩ then some ((r.function L hd s).then fun kids s => .ok (nd 48 tk ⟨#[]⟩ kids) s)
 else if tk.text = ⟨#[38]⟩ then (if hd then none else some (lF n r tk L false s))
 else if tk.text = ⟨#[91]⟩ then (if hd then none else some (lF n r tk L false s))
 else if tk.text = ⟨#[109, 97, 107, 101]⟩ then some (qJ r tk L false s)
 else if tk.text = ⟨#[110, 101, 119]⟩ then some (qJ r tk L false s)
 else if tk.text = ⟨#[97, 112, 112, 101, 110, 100]⟩ then some (oD n r tk L s)
 else if tk.text = ⟨#[99, 97, 112]⟩ then some (oD n r tk L s)
 else if tk.text = ⟨#[99, 108, 111, 115, 101]⟩ then some (oD n r tk L s)
 else if tk.text = ⟨#[108, 101, 110]⟩ then some (oD n r tk L s)
 else if tk.text = ⟨#[112, 97, 110, 105, 99]⟩ then some (oD n r tk L s)
 else if tk.text = ⟨#[112, 114, 105, 110, 116]⟩ then some (oD n r tk L s)
 else if tk.text = ⟨#[114, 101, 99, 111, 118, 101, 114]⟩ then some (oD n r tk L s)
 else none
def VNo (S : Nat → Prop) (h : aE) (t : Nd) (v : Value) : Prop := ∃ b n es, v = .tuple #[.agg (aH t b n es).toArray, .bool true] ∧ NV h S (aH t b n es) t
def aIm (p : Nat) (L : List Tok) (hd : Bool) (h : aE) (Q : bW → Prop) (s : St) : Option (R Nd) → Prop
 | some r => aU (VNo (fun j => h.next ≤ j)) p L hd h Q r
 | none => ∀ h', bG h' p L hd (.live s) → bB p h h' → Q (.ret (.tuple #[.agg (aH eY none 0 0).toArray, .bool false]) h')

theorem aA4 {tk : Tok} (h6 : tk.kind = 6) (hq : ∀ h', Gr h h' → Q (.ret (.tuple #[.agg (aH eY none 0 0).toArray, .bool false]) h')) : aP Tryz.prog G X 141 [pV p, .agg tk.cells.toArray] h Q := by
 refine Wk Tryz.func141 Tryz.ntmps141 (w:=QN (Mx (w:=Mw (w:=Mb (w:=QL (QU (QN (Mj (w:=Mt (w:=MD (w:=fun hh => QQ (QN (Mn (w:=Mv (w:=Mb (w:=QM ?_)))))) (v:=fun hh => by omega)))))))))))
 refine ⟨_, aJ, ?_⟩
 exact hq _ cC

theorem wX {r : Rec} {n : Nat} (hn : n ≤ 1000000) (c : gE r) {p : Nat} {L : List Tok} {hd : Bool} {s0 : St} {h : aE} {Q : bW → Prop} {tk : Tok} (h6 : tk.kind ≠ 6) (ps : bG h p L hd (.live s0))
  (hq0 : aIm p L hd h Q s0 (sP n r tk L hd s0)) : aP Tryz.prog G X 141 [pV p, .agg tk.cells.toArray] h Q := by
 have hp := ps.lt
 have hz := ps.wf.size
 obtain ⟨hk0, j0, br0, hj0, hp0, hl0⟩ := ps.live
 unfold sP at hq0
 refine Wk Tryz.func141 Tryz.ntmps141 (w:=QN (Mx (w:=Mw (w:=Mb (w:=QL (QU (QN (Mj (w:=Mt (w:=MD (w:=fun hh => by omega) (v:=fun hh => QP (UA (QN (Ma (w:=Mi (w:=Mj (w:=Mt (w:=Mb (w:=QO (Ma (w:=Mi (w:=Mj (w:=Mv (w:=QO (Mw (w:=QO (Mb (w:=QL (QU (QN (Mj (w:=Mt (w:=QL (Bk (QN (MB (w:=fun hh => Mb (w:=QQ (QN (Ma (w:=QK ?_))))) (v:=fun hh => Mb (w:=QP (QU (QN (MB (w:=fun hh => Mb (w:=QQ (UA (QR (QV (Mj (w:=Mt (w:=Mj (w:=Mt (w:=QK ?_)))))))))) (v:=fun hh => Mb (w:=QP (QV (MB (w:=fun hh => Mb (w:=QQ (QV (Mj (w:=Mt (w:=Mj (w:=Mt (w:=QK ?_)))))))) (v:=fun hh => Mb (w:=QP (QN (MB (w:=fun hh => Mb (w:=QQ (QV (Mj (w:=Mt (w:=QK ?_)))))) (v:=fun hh => Mb (w:=QP (QN (MB (w:=fun hh => Mb (w:=QQ (QN (Ma (w:=QK ?_))))) (v:=fun hh => Mb (w:=QP (QU (QN (MB (w:=fun hh => Mb (w:=QQ (UA (QR (QN (Ma (w:=Me (w:=Mb (w:=QO (Ma (w:=QL (WC.aAa hX (h1 := fun hh => QV (Ma (w:=Mu (w:=QK ?_)))) (h2 := fun hh => UA (QN (Ma (w:=Ma (w:=Mi (w:=Mj (w:=Mv (w:=QO (Mu (w:=Ma (w:=Mv (w:=Mb (w:=QM ?_))))))))))))))))))))))))) (v:=fun hh => Mb (w:=QP (QV (MB (w:=fun hh => Mb (w:=QQ (QN (Ma (w:=Me (w:=Mb (w:=QO (Ma (w:=QL (WC.aAa hX (h1 := fun hh => QV (Ma (w:=Mu (w:=QK ?_)))) (h2 := fun hh => UA (QN (Ma (w:=Ma (w:=Mi (w:=Mj (w:=Mv (w:=QO (Mu (w:=Ma (w:=Mv (w:=Mb (w:=QM ?_))))))))))))))))))))))) (v:=fun hh => Mb (w:=QP (QU (QN (MB (w:=fun hh => Mb (w:=QQ (UA (QR (QV (Ma (w:=Mu (w:=QK ?_)))))))) (v:=fun hh => Mb (w:=QP (QV (MB (w:=fun hh => Mb (w:=QQ (QV (Ma (w:=Mu (w:=QK ?_)))))) (v:=fun hh => Mb (w:=QP (QU (QN (MB (w:=fun hh => Mb (w:=QQ (UA (QR (QN (Ma (w:=QK ?_))))))) (v:=fun hh => Mb (w:=QP (QN (MB (w:=fun hh => Mb (w:=QQ (UA (QR (QN (Ma (w:=QK ?_))))))) (v:=fun hh => Mb (w:=QP (QN (MB (w:=fun hh => Mb (w:=QQ (UA (QR (QN (Ma (w:=QK ?_))))))) (v:=fun hh => Mb (w:=QP (QN (MB (w:=fun hh => Mb (w:=QQ (UA (QR (QN (Ma (w:=QK ?_))))))) (v:=fun hh => Mb (w:=QP (QN (MB (w:=fun hh => Mb (w:=QQ (UA (QR (QN (Ma (w:=QK ?_))))))) (v:=fun hh => Mb (w:=QP (QN (MB (w:=fun hh => Mb (w:=QQ (UA (QR (QN (Ma (w:=QK ?_))))))) (v:=fun hh => Mb (w:=QP (QV (MB (w:=fun hh => Mb (w:=QQ (QN (Ma (w:=QK ?_))))) (v:=fun hh => Mb (w:=QP (QV (Mb (w:=QO (Ma (w:=Ma (w:=Mi (w:=Mj (w:=Mv (w:=QO (Mu (w:=Ma (w:=Mv (w:=Mb (w:=QM ?_))))))))))))))))))))))))))))))))))))))))))))))))))))))))))))))))))))))))))))))))))))))))))))))))))))))))))))))))))))
 all_goals (repeat (first | rw [if_pos (by assumption)] at hq0 | rw [if_neg (by assumption)] at hq0))
 ·refine QJ iW ?_
  refine c.expr (hd := false) (aQ) (El hq0 (k:=fun t1 x1 h1 b1 n1 es1 ps1 fr1 kv1 hn1 hq1 => ?_))
  refine Mv (w:=QL (QV (Ma (w:=MJ dU (w:=bO (hd := false) (aQ) (aU.use (hd' := false) aI hq1 fun tk2 x2 h2 v2 ps2 fr2 hv2 hq2 => ?_))))))
  obtain ⟨rfl, rfl⟩ := hv2
  have hn2 := nx fr2.1
  obtain ⟨j2, br2, hj2, hp2, hl2⟩ := ps2.tok
  refine QO (Ma (w:=Ma (w:=Mi (w:=Mj (w:=Mv (w:=QO (Mu (w:=Ma (w:=Mv (w:=Mb (w:=QM ?_)))))))))))
  refine ⟨_, aJ, ?_⟩
  exact hq2.fin aQ aI ⟨_, _, _, rfl, kv1.kp⟩
 iterate 3
  ·refine QJ cL ?_
   refine bN fun h1 g1 => ?_
   have hn1 := nx g1.1
   refine Mv (w:=QO (Ma (w:=Ma (w:=Mi (w:=Mj (w:=Mv (w:=QO (Mu (w:=Ma (w:=Mv (w:=Mb (w:=QM ?_))))))))))))
   refine ⟨_, aJ, ?_⟩
   exact hq0.qL aQ aI ⟨_, _, _, rfl, NV.leaf _ _ _ _ _ _⟩
 ·rw [c.iS] at hq0
  refine QJ aKs ?_
  refine c.function (hd := false) (aQ) (Elk hq0 (k:=fun t1 x1 h1 b1 n1 es1 ps1 fr1 kv1 hn1 hq1 => ?_))
  obtain ⟨j1, br1, hj1, hp1, hl1⟩ := ps1.tok
  refine Mb (w:=QL (QV (Mj (w:=Mt (w:=Ma (w:=MJ cL (w:=bN fun h2 g2 => ?_)))))))
  have hn2 := nx g2.1
  refine Mv (w:=QO (Ma (w:=Ma (w:=Mi (w:=Mj (w:=Mv (w:=QO (Mu (w:=Ma (w:=Mv (w:=Mb (w:=QM ?_))))))))))))
  refine ⟨_, aJ, ?_⟩
  exact hq1.fin aQ aI ⟨_, _, _, rfl, NV.aN (kv1.kp) _ _ _ _ _ _⟩
 iterate 2
  ·obtain rfl : hd = false := by simpa using hh
   simp only [Bool.false_eq_true, if_false] at hq0
   have hq0 : aU (VNo (fun j => h.next ≤ j)) p L false h Q ((lF n r tk L false s0).then fun a s => .ok a s) := by rw [R.bT]; exact hq0
   refine QJ aKp ?_
   refine aCx hn c (x0 := .live s0) (aQ) (El (hd' := false) hq0 (k:=fun t1 x1 h1 b1 n1 es1 ps1 fr1 kv1 hn1 hq1 => ?_))
   obtain ⟨j1, br1, hj1, hp1, hl1⟩ := ps1.tok
   refine Mv (w:=QO (Ma (w:=Ma (w:=Mi (w:=Mj (w:=Mv (w:=QO (Mu (w:=Ma (w:=Mv (w:=Mb (w:=QM ?_))))))))))))
   refine ⟨_, aJ, ?_⟩
   exact hq1.fin aQ aI ⟨_, _, _, rfl, kv1.kp⟩
  ·obtain rfl : hd = true := by simpa using hh
   simp only [if_true] at hq0
   refine ⟨_, aJ, ?_⟩
   exact hq0 _ aQ aI
 iterate 2
  ·have hq0 : aU (VNo (fun j => h.next ≤ j)) p L hd h Q ((qJ r tk L false s0).then fun a s => .ok a s) := by rw [R.bT]; exact hq0
   refine QJ aMb ?_
   refine aHv c (x0 := .live s0) (aQ) (El (hd' := false) hq0 (k:=fun t1 x1 h1 b1 n1 es1 ps1 fr1 kv1 hn1 hq1 => ?_))
   obtain ⟨j1, br1, hj1, hp1, hl1⟩ := ps1.tok
   refine Mv (w:=QO (Ma (w:=Ma (w:=Mi (w:=Mj (w:=Mv (w:=QO (Mu (w:=Ma (w:=Mv (w:=Mb (w:=QM ?_))))))))))))
   refine ⟨_, aJ, ?_⟩
   exact hq1.fin aQ aI ⟨_, _, _, rfl, kv1.kp⟩
 iterate 7
  ·unfold oD at hq0
   refine QJ dU ?_
   refine bO (hd := false) (aQ) (aU.kH (hd' := false) aI hq0 fun tk1 x1 h1 v1 ps1 fr1 hv1 hq1 => ?_)
   obtain ⟨rfl, rfl⟩ := hv1
   have hn1 := nx fr1.1
   refine QO (Ma (w:=MJ aI3 (w:=aBs hn c (aQ) (aU.use (hd' := false) aI hq1 fun t2 x2 h2 v2 ps2 fr2 hv2 hq2 => ?_))))
   obtain ⟨⟨b2, n2, es2, rfl, kv2⟩, hl2'⟩ := hv2
   have hn2 := nx fr2.1
   obtain ⟨j2, br2, hj2, hp2, hl2⟩ := ps2.tok
   refine Mb (w:=QL (QV (Mj (w:=Mt (w:=Mj (w:=Mt (w:=Ma (w:=MJ cL (w:=bN fun h3 g3 => ?_)))))))))
   have hn3 := nx g3.1
   refine Mv (w:=QO (Ma (w:=Ma (w:=Mi (w:=Mj (w:=Mv (w:=QO (Mu (w:=Ma (w:=Mv (w:=Mb (w:=QM ?_))))))))))))
   refine ⟨_, aJ, ?_⟩
   exact hq2.fin aQ aI ⟨_, _, _, rfl, NV.aN (kv2.kp) _ _ _ _ _ _⟩
 ·refine ⟨_, aJ, ?_⟩
  exact hq0 _ aQ aI

theorem aDl {n : Nat} {r : Rec} {tk : Tok} {s : St} (hm : dE marks tk.text = true) : kG n r tk L hd s = (sP n r tk L hd s.next).getD (eA L s) := by
 have hne : ∀ w, dE marks w = false → ¬ tk.text = w := fun w hw e => by rw [e, hw] at hm; cases hm
 unfold kG sP
 rw [if_neg (hne ⟨#[116, 114, 117, 101]⟩ (by decide +kernel)), if_neg (hne ⟨#[102, 97, 108, 115, 101]⟩ (by decide +kernel)), if_neg (hne ⟨#[110, 105, 108]⟩ (by decide +kernel)), if_neg (hne ⟨#[102, 117, 110, 99]⟩ (by decide +kernel)), if_neg (hne ⟨#[109, 97, 107, 101]⟩ (by decide +kernel)), if_neg (hne ⟨#[110, 101, 119]⟩ (by decide +kernel)), if_neg (hne ⟨#[97, 112, 112, 101, 110, 100]⟩ (by decide +kernel)), if_neg (hne ⟨#[99, 97, 112]⟩ (by decide +kernel)), if_neg (hne ⟨#[99, 108, 111, 115, 101]⟩ (by decide +kernel)), if_neg (hne ⟨#[108, 101, 110]⟩ (by decide +kernel)), if_neg (hne ⟨#[112, 97, 110, 105, 99]⟩ (by decide +kernel)), if_neg (hne ⟨#[112, 114, 105, 110, 116]⟩ (by decide +kernel)), if_neg (hne ⟨#[114, 101, 99, 111, 118, 101, 114]⟩ (by decide +kernel))]
 by_cases h1 : tk.text = ⟨#[40]⟩
 ·rw [if_pos h1, if_pos h1]; rfl
 rw [if_neg h1, if_neg h1]
 cases hd with
 | true => simp
 | false =>
  rw [if_neg Bool.false_ne_true]
  by_cases h2 : tk.text = ⟨#[38]⟩
  ·rw [if_pos h2, if_pos h2, if_neg Bool.false_ne_true]
   simp only [Option.getD_some, lF, if_pos h2]
   rfl
  rw [if_neg h2, if_neg h2]
  by_cases h3 : tk.text = ⟨#[91]⟩
  ·rw [if_pos h3, if_pos h3, if_neg Bool.false_ne_true]
   simp only [Option.getD_some, lF, if_neg h2]
   rfl
  rw [if_neg h3, if_neg h3]
  rfl

theorem aDj {n : Nat} {r : Rec} {tk : Tok} {s : St} (ht : ∀ L hd s, r.cW L hd s = r.cW L false s) (hm : dE words tk.text = true) : kD n r tk L hd s = (sP n r tk L hd s.next).getD (eA L s) := by
 have hne : ∀ w, dE words w = false → ¬ tk.text = w := fun w hw e => by rw [e, hw] at hm; cases hm
 unfold kD sP
 rw [if_neg (hne ⟨#[40]⟩ (by decide +kernel)), if_neg (hne ⟨#[38]⟩ (by decide +kernel)), if_neg (hne ⟨#[91]⟩ (by decide +kernel))]
 by_cases h1 : tk.text = ⟨#[116, 114, 117, 101]⟩
 ·rw [if_pos (.inl h1), if_pos h1]; rfl
 by_cases h2 : tk.text = ⟨#[102, 97, 108, 115, 101]⟩
 ·rw [if_pos (.inr h2), if_neg h1, if_pos h2]; rfl
 rw [if_neg (not_or.2 ⟨h1, h2⟩), if_neg h1, if_neg h2]
 by_cases h3 : tk.text = ⟨#[110, 105, 108]⟩
 ·rw [if_pos h3, if_pos h3]; rfl
 by_cases h4 : tk.text = ⟨#[102, 117, 110, 99]⟩
 ·rw [if_neg h3, if_neg h3, if_pos h4, if_pos h4]; rfl
 rw [if_neg h3, if_neg h3, if_neg h4, if_neg h4]
 by_cases h5 : tk.text = ⟨#[109, 97, 107, 101]⟩
 ·rw [if_pos h5, if_pos h5]
  simp only [Option.getD_some, qJ]
  have h6' : ¬ tk.text = ⟨#[110, 101, 119]⟩ := by rw [h5]; decide +kernel
  simp only [if_neg h6', ht L hd]
 by_cases h6 : tk.text = ⟨#[110, 101, 119]⟩
 ·rw [if_neg h5, if_neg h5, if_pos h6, if_pos h6]
  simp only [Option.getD_some, qJ, if_pos h6]
 rw [if_neg h5, if_neg h5, if_neg h6, if_neg h6]
 by_cases h7 : dE eO tk.text = true
 ·rw [if_pos h7]
  have h8 := bL.1 h7
  unfold eO at h8
  simp only [List.mem_cons, List.not_mem_nil, or_false] at h8
  rcases h8 with h | h | h | h | h | h | h <;> simp [h, oD]
 ·rw [if_neg h7]
  have h8 : ∀ w ∈ eO, ¬ tk.text = w := fun w hw e => h7 (bL.2 (e ▸ hw))
  rw [if_neg (h8 _ (bL.1 (by decide +kernel))), if_neg (h8 _ (bL.1 (by decide +kernel))), if_neg (h8 _ (bL.1 (by decide +kernel))), if_neg (h8 _ (bL.1 (by decide +kernel))), if_neg (h8 _ (bL.1 (by decide +kernel))), if_neg (h8 _ (bL.1 (by decide +kernel))), if_neg (h8 _ (bL.1 (by decide +kernel)))]
  rfl

theorem bG.dec {s : St} {k : Int} {sl b hv br : Value} (ps : bG h p L hd (.live s.next)) (ho : h.obj p = some (.cells false [sl, .int .i64 k, b, hv, br])) : bG (h.put p (some (.cells false [sl, .int .i64 (k - 1), b, hv, br]))) p L hd (.live s) := by
 obtain ⟨j, br0, hj, h1, h2⟩ := ps.tok
 have e := ho.symm.trans h1
 cases e
 have := ps.at_
 have hk : (((Xs.live s.next).st.k : Int) - 1) = (s.k : Int) := by show ((s.k + 1 : Nat) : Int) - 1 = _; omega
 exact ⟨ps.lt, ⟨j, br0, hj, by rw [hk]; exact fX, bF (by omega) h2⟩, by have : s.k + 1 < L.length := ps.at_; show s.k < L.length; omega, ps.wf⟩

theorem aCm {r : Rec} {n : Nat} (hn : n ≤ 1000000) (c : gE r) : XN 127 (jN n r) := by
 intro p L hd x0 h Q ps hq0
 have hp := ps.lt
 have hz := ps.wf.size
 unfold jN at hq0
 refine Wk Tryz.func127 Tryz.ntmps127 (w:=QN (Mw (w:=QO (Ma (w:=MJ gG (w:=cN (L := L) (hd := hd) (x := x0) (aQ) fun h1 g1 => ?_))))))
 have hn1 := nx g1.1
 have ps1 : bG h1 p L hd x0 := aQ
 cases x0 with
 | dead e s =>
  obtain ⟨j1, br1, hj1, hp1, hl1⟩ := ps1.tok
  have hb1 := ps1.dA
  generalize hbd : Xs.bad L (Xs.dead e s) = bd at *
  refine Mw (w:=Mv (w:=QL (QU (QN (Ma (w:=Mi (w:=Mj (w:=Mt (w:=MI (w:=fun hh => QQ (QN (Mn (w:=Mv (w:=QM ?_))))) (v:=fun hh => by omega))))))))))
  refine ⟨_, aJ, ?_⟩
  exact hq0.2 _ _ (.dead e s) eY rfl aQ aI ⟨none, 0, 0, rfl, NV.leaf _ _ _ _ _ _⟩
 | live s0 =>
  obtain ⟨hk0, j1, br1, hj1, hp1, hl1⟩ := ps1.live
  have hkd := ps.wf.kd s0.k
  have hwd := ps.wf.wd s0.k
  have hmk := ps.wf.mks s0.k
  have hm0 : (aF L s0.k).kind ≠ 6 → s0.k + 1 < L.length := ps.wf.toWF.more hk0
  rw [Xs.a8] at hq0
  simp only at hq0
  generalize aF L s0.k = tk at *
  by_cases h6 : tk.kind = 6
  ·rw [if_neg (by omega), if_neg (by omega), if_neg (by omega), if_neg (by omega), if_neg (by omega)] at hq0
   refine Mw (w:=Mv (w:=QL (QU (QN (Ma (w:=Mi (w:=Mj (w:=Mt (w:=MI (w:=fun hh => by omega) (v:=fun hh => QP (UA (QN (Ma (w:=Mi (w:=Mj (w:=Mt (w:=Mf (w:=Mi (w:=Mj (w:=Mv (w:=QL (QU (QN (Mj (w:=Mt (w:=QL (Bk (QN (MD (w:=fun hh => by omega) (v:=fun hh => Mb (w:=QP (QN (MD (w:=fun hh => by omega) (v:=fun hh => Mb (w:=QP (QN (MD (w:=fun hh => by omega) (v:=fun hh => Mb (w:=QP (UA (QN (Ma (w:=Mu (w:=MJ aFd (w:=aA4 h6 fun h2 g2 => ?_)))))))))))))))))))))))))))))))))))))))))))))
   have hn2 := nx g2.1
   have hp2 : h2.obj p = some (.cells false [.slice (some ⟨j1, 0, none⟩) L.length 4, .int .i64 ((s0.k : Int) + 1), .int .i64 (-1), .bool hd, .bool br1]) := g2.at aB fX
   have hk2 : ∀ j, j < p → h2.obj j = h1.obj j := fun j hj => (g2.2 j aB).trans (bF (by omega) (bF (by omega) (cR (by omega) rfl)))
   have hps : ∀ h', h2.next ≤ h'.next → (∀ j, j < p → h'.obj j = h2.obj j) → h'.obj p = some (.cells false [.slice (some ⟨j1, 0, none⟩) L.length 4, .int .i64 ((s0.k : Int) + 1 - 1), .int .i64 (-1), .bool hd, .bool br1]) → bG h' p L hd (.live s0) := by
    intro h' hn hj hp
    refine ⟨by omega, ⟨j1, br1, hj1, ?_, ?_⟩, hk0, ps.wf⟩
    ·rw [hp, show (s0.k : Int) + 1 - 1 = s0.k by omega]; rfl
    ·rw [hj _ hj1, hk2 _ hj1]; exact hl1
   refine Ma (w:=Mq (w:=Mq (w:=Mw (w:=Mv (w:=Mb (w:=QL (QU (QN (Ma (w:=Me (w:=QQ (QN (Ma (w:=Mi (w:=Mj (w:=Mt (w:=Mg (w:=Mi (w:=Mj (w:=Mv (w:=QO (Ma (w:=Mi (w:=Mj (w:=Mt (w:=MF (w:=fun hh => QQ (QN (Ma (w:=MJ oM (w:=eI (L := L) (hd := hd) (x := .live s0) (hps _ aB (fun j hj => bF (by omega) (bF aB (cR aB rfl))) fX) fun h3 ps3 fr3 => ?_))))) (v:=fun hh => by omega)))))))))))))))))))))))))))
   have hn3 := nx fr3.1
   refine Mv (w:=QM ?_)
   refine ⟨_, aJ, ?_⟩
   exact hq0.q6 eY aQ aI ⟨none, 0, 0, rfl, NV.leaf _ _ _ _ _ _⟩
  have hm0 := hm0 h6
  refine Mw (w:=Mv (w:=QL (QU (QN (Ma (w:=Mi (w:=Mj (w:=Mt (w:=MI (w:=fun hh => by omega) (v:=fun hh => QP (UA (QN (Ma (w:=Mi (w:=Mj (w:=Mt (w:=Mf (w:=Mi (w:=Mj (w:=Mv (w:=QL (QU (QN (Mj (w:=Mt (w:=QL (Bk (QN (MD (w:=fun hh => Mb (w:=QQ (QN (Mj (w:=Mt (w:=Mj (w:=Mt (w:=QK ?_)))))))) (v:=fun hh => Mb (w:=QP (QN (MD (w:=fun hh => Mb (w:=QQ (QN (Mj (w:=Mt (w:=Mj (w:=Mt (w:=Mn (w:=Mv (w:=QM ?_)))))))))) (v:=fun hh => Mb (w:=QP (QN (MD (w:=fun hh => Mb (w:=QQ (QN (Mj (w:=Mt (w:=Mj (w:=Mt (w:=QK ?_)))))))) (v:=fun hh => Mb (w:=QP (UA (QN (Ma (w:=Mu (w:=QK ?_))))))))))))))))))))))))))))))))))))))))))))
  ·rw [if_neg (show ¬ tk.kind = 2 by omega), if_neg (show ¬ tk.kind = 3 by omega), if_pos (show tk.kind = 1 by omega)] at hq0
   refine QJ cL ?_
   refine bN fun h2 g2 => ?_
   have hn2 := nx g2.1
   refine Mv (w:=QM ?_)
   refine ⟨_, aJ, ?_⟩
   exact hq0.qL aQ aI ⟨_, _, _, rfl, NV.leaf _ _ _ _ _ _⟩
  ·rw [if_pos (show tk.kind = 2 by omega)] at hq0
   refine ⟨_, aJ, ?_⟩
   exact hq0.qL aQ aI ⟨_, _, _, rfl, NV.leaf _ _ _ _ _ _⟩
  ·rw [if_neg (show ¬ tk.kind = 2 by omega), if_pos (show tk.kind = 3 by omega)] at hq0
   refine QJ cL ?_
   refine bN fun h2 g2 => ?_
   have hn2 := nx g2.1
   refine Mv (w:=QM ?_)
   refine ⟨_, aJ, ?_⟩
   exact hq0.qL aQ aI ⟨_, _, _, rfl, NV.leaf _ _ _ _ _ _⟩
  ·have hsp : aU (VN (fun j => h.next ≤ j)) p L hd h Q ((sP n r tk L hd s0.next).getD (eA L s0)) := by
    rw [if_neg (show ¬ tk.kind = 2 by omega), if_neg (show ¬ tk.kind = 3 by omega), if_neg (show ¬ tk.kind = 1 by omega)] at hq0
    by_cases h5 : tk.kind = 5
    ·rw [if_pos h5, aDl (hmk h5)] at hq0; exact hq0
    ·have h4 : tk.kind = 4 := by omega
     rw [if_neg h5, if_pos h4, aDj c.pH (hwd h4)] at hq0; exact hq0
   clear hq0
   cases hs : sP n r tk L hd s0.next with
   | none =>
    rw [hs, Option.getD_none] at hsp
    refine QJ aFd ?_
    refine wX (L := L) (hd := hd) hn c h6 (s0 := s0.next) (aQ) ?_
    rw [hs]
    intro h2 ps2 fr2
    have hn2 := nx fr2.1
    obtain ⟨hk2, j2, br2, hj2, hp2, hl2⟩ := ps2.live
    refine Ma (w:=Mq (w:=Mq (w:=Mw (w:=Mv (w:=Mb (w:=QL (QU (QN (Ma (w:=Me (w:=QQ (QN (Ma (w:=Mi (w:=Mj (w:=Mt (w:=Mg (w:=Mi (w:=Mj (w:=Mv (w:=QO (Ma (w:=Mi (w:=Mj (w:=Mt (w:=MF (w:=fun hh => QQ (QN (Ma (w:=MJ oM (w:=eI (L := L) (hd := hd) (x := .live s0) (bG.dec (aQ) aA) fun h3 ps3 fr3 => ?_))))) (v:=fun hh => by omega)))))))))))))))))))))))))))
    have hn3 := nx fr3.1
    refine Mv (w:=QM ?_)
    refine ⟨_, aJ, ?_⟩
    exact hsp.q6 eY aQ aI ⟨none, 0, 0, rfl, NV.leaf _ _ _ _ _ _⟩
   | some r' =>
    rw [hs, Option.getD_some, ← R.bT r'] at hsp
    refine QJ aFd ?_
    refine wX (L := L) (hd := hd) hn c h6 (s0 := s0.next) (aQ) ?_
    rw [hs]
    simp only [aIm]
    refine aU.use (x := .live s0.next) (F := fun _ => r') (hd' := hd) aI hsp fun t2 x2 h2 v2 ps2 fr2 hv2 hq2 => ?_
    obtain ⟨b2, n2, es2, rfl, kv2⟩ := hv2
    have hn2 := nx fr2.1
    refine Ma (w:=Mq (w:=Mq (w:=Mw (w:=Mv (w:=Mb (w:=QL (QU (QN (Ma (w:=Me (w:=QP (UA (QN (Mu (w:=Mv (w:=QM ?_))))))))))))))))
    refine ⟨_, aJ, ?_⟩
    exact hq2.fin aQ aI ⟨_, _, _, rfl, kv2.kp⟩

theorem dF.wB {α β : Type} {V : aE → α → Value → Prop} {W : aE → β → Value → Prop} {hd hd' : Bool} {h h1 : aE} {Q Q' : bW → Prop} {s : St} {F : St → R α} {g : α → St → R β} (fr : bB p h h1) (hq : dF W p L hd h Q ((F s).then g))
  (hok : ∀ a x' h2 v, bG h2 p L hd' x' → bB p h1 h2 → V h2 a v → dF W p L hd h Q (x'.run (g a)) → Q' (.ret v h2)) : aU V p L hd' h1 Q' (F s) := dF.use (x := .live s) fr hq hok
theorem aGq {V : aE → Nd → Value → Prop} {n m : Nat} {r : Rec} {x : Xs} {t : Nd} {b : Bool} (hx : x.is L [⟨#[40]⟩, ⟨#[91]⟩, ⟨#[46]⟩] = false)
  (hq : dF V p L hd h Q (x.run fun s => (eP n r L m t b s).then fun y s => .ok y.1 (s.with y.2))) : dF V p L hd h Q (x.run fun s => .ok t (s.with b)) := by
 cases x with
 | dead e s => exact hq
 | live s =>
  cases m with
  | zero => exact (hq.1 rfl).elim
  | succ m =>
   have hx : bA L s [⟨#[40]⟩, ⟨#[91]⟩, ⟨#[46]⟩] = false := hx
   rw [Xs.a8] at hq
   unfold eP at hq
   rw [hx, if_neg Bool.false_ne_true] at hq
   exact hq

theorem aC0 {r : Rec} {n : Nat} (hn : n ≤ 1000000) (c : gE r) : XNb 110 (k8 n r) := by
 intro p L hd x0 h Q ps hq0
 have hp := ps.lt
 have hz := ps.wf.size
 have hq0 : dF (VN (fun j => h.next ≤ j)) p L hd h Q (x0.run fun s => (jN n r L hd s).then fun t s => (eP n r L n t (x0.is L [⟨#[40]⟩]) s).then fun y s => .ok y.1 (s.with y.2)) := by cases x0 <;> exact hq0
 refine Wk Tryz.func110 Tryz.ntmps110 (w:=QN (Mw (w:=QO (Ma (w:=MJ gY (w:=gX (L := L) (hd := hd) (x := x0) (aQ) fun h1 g1 => ?_))))))
 have hn1 := nx g1.1
 generalize x0.is L [⟨#[40]⟩] = b0 at *
 refine Mb (w:=QO (Ma (w:=MJ aIz (w:=aCm hn c (hd := hd) (aQ) (dF.use (hd' := hd) aI hq0 fun t2 x2 h2 v2 ps2 fr2 hv2 hq2 => ?_)))))
 obtain ⟨b2, n2, es2, rfl, kv2⟩ := hv2
 have hn2 := nx fr2.1
 obtain ⟨j2, br2, hj2, hp2, hl2⟩ := ps2.tok
 refine Mw (w:=Mv (w:=QO (Ma (w:=Mi (w:=Mj (w:=Mt (w:=Mb (w:=QL (QU (Bk ?_))))))))))
 refine WC.bK hX (α := Nat × Nd × Bool × Xs) (m := fun a => a.1) (Inv := fun a e h' => ∃ b n' es, e 0 = some (pV p) ∧ e 2 = some (.pointer (some ⟨h.next, 0, none⟩)) ∧ e 3 = some (.bool a.2.2.1) ∧ e 4 = some (.pointer (some ⟨h2.next, 0, none⟩)) ∧ e 5 = some (.bool hd) ∧
  bG h' p L hd a.2.2.2 ∧ bB p h h' ∧ h'.obj h.next = some (Z0) ∧ h2.next < h'.next ∧ h'.obj h2.next = some (.cells false (aH a.2.1 b n' es)) ∧ NV h' (fun j => h.next < j ∧ j ≠ h2.next) (aH a.2.1 b n' es) a.2.1 ∧
  dF (VN fun j => h.next ≤ j) p L hd h Q (a.2.2.2.run fun s => (eP n r L a.1 a.2.1 a.2.2.1 s).then fun y s => .ok y.1 (s.with y.2)))
  (n, t2, b0, x2) ⟨b2, n2, es2, rfl, rfl, rfl, rfl, rfl, aQ, aI, aA, aB, aA, (kv2.kp), hq2⟩ ?_
 rintro ⟨m, t, bare, x5⟩ env h5 ih ⟨b5, n5, es5, e0, e2, e3, e4, e5, ps5, fr5, ho5, hn5, hk5, kv5, hq5⟩
 simp only at ps5 e3 hk5 kv5 hq5
 have hnn5 := fr5.1
 refine QU (QN (Ma (w:=MJ o7 (w:=eR (L := L) (hd := hd) (x := x5) (ws := [⟨#[40]⟩, ⟨#[91]⟩, ⟨#[46]⟩]) (by decide +kernel) (by decide) (aQ) fun h6 g6 => ?_))))
 have hn6 := nx g6.1
 cases hb6 : Xs.is L [⟨#[40]⟩, ⟨#[91]⟩, ⟨#[46]⟩] x5
 ·have hq6 := aGq hb6 hq5
  obtain ⟨j5, br5, hj5, hp5, hl5⟩ := ps5.tok
  refine QP (WC.exit (aG (QN (Ma (w:=Ma (w:=Mi (w:=Mj (w:=Mv (w:=QO (Mu (w:=Mv (w:=QM ?_))))))))))))
  refine ⟨_, aJ, ?_⟩
  exact hq6.aKj aQ aA aI ⟨_, _, _, rfl, kv5.kp⟩
 ·obtain ⟨s6, rfl, hs6⟩ := Xs.fZ hb6
  obtain ⟨m, rfl⟩ : ∃ m', m = m' + 1 := by
   cases m with
   | zero => exact (hq5.1 rfl).elim
   | succ m => exact ⟨m, rfl⟩
  rw [Xs.a8] at hq5
  unfold eP at hq5
  rw [if_pos hs6] at hq5
  (try simp only [R.then_assoc] at hq5)
  obtain ⟨hk6, j6, br6, hj6, hp6, hl6⟩ := ps5.live
  have hm6 := ps5.wf.toWF.is hk6 hs6
  refine QQ (UA (Bk (QN (Mb (w:=QO (Ma (w:=MJ gG (w:=cN (L := L) (hd := hd) (x := .live s6) (aQ) fun h7 g7 => ?_))))))))
  have hn7 := nx g7.1
  (try simp only at hq5)
  generalize aF L s6.k = tk at *
  refine Mw (w:=Mv (w:=QO (Ma (w:=Mi (w:=Mj (w:=Mt (w:=Mf (w:=Mi (w:=Mj (w:=Mv (w:=QO (Ma (w:=Mi (w:=Mj (w:=Mv (w:=QL (QU (QN (Mj (w:=Mt (w:=QL (Bk (QN (MB (w:=fun hh => Mb (w:=QQ (QN (Mu (w:=Mz (w:=Mb (w:=QO (Ma (w:=Ma (w:=QK ?_)))))))))) (v:=fun hh => Mb (w:=QP (QN (MB (w:=fun hh => Mb (w:=QQ (QV (Ma (w:=Mj (w:=Mt (w:=Mu (w:=QK ?_)))))))) (v:=fun hh => Mb (w:=QP (QN (Ma (w:=QK ?_)))))))))))))))))))))))))))))))))
  ·rw [if_pos (by assumption)] at hq5
   simp only [R.then_assoc, R.then_ok] at hq5
   refine QJ aI3 ?_
   refine aBs hn c (hd := false) (aQ) (dF.kH (hd' := false) aI hq5 fun t10 x10 h10 v10 ps10 fr10 hv10 hq10 => ?_)
   obtain ⟨⟨b10, n10, es10, rfl, kv10⟩, hle10⟩ := hv10
   have hn10 := nx fr10.1
   have hl10 := kv10.len
   refine QK ?_
   refine WS.jM (S1 := fun j => h.next < j ∧ j ≠ h2.next) (S2 := fun j => h7.next + 1 < j) (k1 := [t]) (k2 := t10) rfl rfl aD aD rfl rfl (by intro k hk; cases hk) (aX rfl) (by unfold room; omega)
    (KV.one (S := fun j => h.next < j ∧ j ≠ h2.next ∧ j < h7.next) aB aB aA (kv5.mono aB (fun j hS hj => ⟨⟨hS.1, hS.2, by omega⟩, bJ⟩)) (fun j hS hj => ⟨⟨hS.1, hS.2.1⟩, by have := hS.2.2; exact aB⟩))
    (kv10.mono (Nat.le_refl _) (fun j hS hj => by (try simp only [UB, UC] at hS); exact ⟨by omega, rfl⟩)) (fun x hx _ off e => by cases e; simp only [UB, UC] at hx; omega) ?_
   intro h11 b11 es11 hn11 kv11 hf11
   have hk11 : ∀ j, j < h10.next → j ≠ h7.next + 1 → h11.obj j = h10.obj j := fun j hj hne => hf11 j hj (by intro off e; cases e; exact hne rfl)
   have fr11 : bB p h h11 := bB.bH (H := h10) aI (by omega) fun j hj => hk11 j (by omega) (by omega)
   have ps11 : bG h11 p L false x10 := bG.bH ps10 (by omega) fun j hj => hk11 j (by omega) (by omega)
   have ho11 : h11.obj h.next = some (Z0) := (hk11 _ (by omega) (by omega)).trans aA
   have ho11n : h11.obj h2.next = some (.cells false (aH t b5 n5 es5)) := (hk11 _ (by omega) (by omega)).trans aA
   have ho11t : h11.obj h7.next = some (.cells false tk.cells) := (hk11 _ (by omega) (by omega)).trans aA
   refine Mb (w:=QL (QV (Mj (w:=Mt (w:=Ma (w:=MJ cL (w:=bN fun h12 g12 => ?_)))))))
   have hn12 := nx g12.1
   obtain ⟨j10, br10, hj10, hp10, hl10'⟩ := ps11.tok
   refine Mv (w:=QL (QV (Ma (w:=Ma (w:=Mi (w:=Mj (w:=Mv (w:=QL ?_))))))))
   refine ih (m, nd 43 tk ⟨#[]⟩ (t :: t10), false, x10) _ _ (by simp) ⟨_, _, _, e0, e2, rfl, e4, e5, aQ, aI, aA, aB, aA, NV.aN (kv11.mono aB (fun j hS hj => by (try simp only [UB, UC] at hS); exact ⟨by omega, bJ⟩)) _ _ _ _ _ _, hq10⟩
  ·rw [if_neg (by assumption), if_pos (by assumption)] at hq5
   refine QJ aK0 ?_
   refine aG8 c (hd := false) (s0 := s6.next) (t := t) (S0 := fun j => h.next < j ∧ j ≠ h2.next ∧ j < h7.next) (aQ) (fun j hj => ⟨by omega, by have := hj.2.2; exact aB⟩) (kv5.mono aB (fun j hS hj => ⟨⟨hS.1, hS.2, by omega⟩, bJ⟩)) (dF.wB (hd' := false) (F := kM r tk t L false) aI hq5 fun t10 x10 h10 v10 ps10 fr10 hv10 hq10 => ?_)
   obtain ⟨b10, n10, es10, rfl, kv10⟩ := hv10
   have hn10 := nx fr10.1
   obtain ⟨j10, br10, hj10, hp10, hl10⟩ := ps10.tok
   refine Mv (w:=QL (QV (Ma (w:=Ma (w:=Mi (w:=Mj (w:=Mv (w:=QL ?_))))))))
   exact ih (m, t10, false, x10) _ _ (by simp) ⟨_, _, _, e0, e2, rfl, e4, e5, aQ, aI, aA, aB, aA, kv10.mono aB (fun j hS hj => by (try simp only [UB, UC] at hS); exact ⟨by omega, bJ⟩), hq10⟩
  ·rw [if_neg (by assumption), if_neg (by assumption)] at hq5
   simp only [R.then_assoc, R.then_ok] at hq5
   refine QJ q7 ?_
   refine jH (hd := false) (aQ) (dF.kH (hd' := false) aI hq5 fun tk10 x10 h10 v10 ps10 fr10 hv10 hq10 => ?_)
   obtain ⟨rfl, hp10⟩ := hv10
   have hn10 := nx fr10.1
   clear hp10
   obtain ⟨j10, br10, hj10, hp10, hl10⟩ := ps10.tok
   refine Mb (w:=QL (QV (Mj (w:=Mt (w:=Ma (w:=Mu (w:=Mz (w:=MJ cL (w:=bN fun h11 g11 => ?_)))))))))
   have hn11 := nx g11.1
   refine Mv (w:=QL (QV (Ma (w:=Ma (w:=Mi (w:=Mj (w:=Mv (w:=QL ?_))))))))
   refine ih (m, nd 47 tk tk10.text [t], false, x10) _ _ (by simp) ⟨_, _, _, e0, e2, rfl, e4, e5, aQ, aI, aA, aB, aA, NV.aN ?_ _ _ _ _ _ _, hq10⟩
   refine KV.one (S := fun j => h.next < j ∧ j ≠ h2.next ∧ j < h7.next) aB aB aA (kv5.mono aB (fun j hS hj => ⟨⟨hS.1, hS.2, by omega⟩, bJ⟩)) (fun j hS hj => ⟨⟨hS.1, hS.2.1⟩, by have := hS.2.2; exact aB⟩)

theorem aU.aCe {α : Type} {V : aE → α → Value → Prop} {e : Nat} {s : St} {F : St → R α} (hq : ∀ h' v s' a, bG h' p L hd (.dead e s') → bB p h h' → V h' a v → Q (.ret v h')) : aU V p L hd h Q ((Xs.dead e s).run F) := by
 refine ⟨(fun h => by cases h), fun h' v x a e' ps fr hv => ?_⟩
 cases x with
 | live s2 => cases e'
 | dead e2 s2 => cases e'; exact hq _ _ _ _ ps fr hv
def XD {α : Type} (f : FuncId) (V : (Nat → Prop) → aE → α → Value → Prop) : Prop := ∀ {p : Nat} {L : List Tok} {hd : Bool} {e : Nat} {s : St} {h : aE} {Q : bW → Prop}, bG h p L hd (.dead e s) → (∀ h' t v s', bG h' p L hd (.dead e s') → bB p h h' → V (fun j => h.next ≤ j) h' t v → Q (.ret v h')) → aP Tryz.prog G X f [pV p] h Q
theorem XD.n {f : FuncId} (d : XD f VN) {p : Nat} {L : List Tok} {hd : Bool} {e : Nat} {s : St} {h : aE} {Q : bW → Prop} (ps : bG h p L hd (.dead e s)) (hq : aU (VN (fun j => h.next ≤ j)) p L hd h Q (.bad e)) : aP Tryz.prog G X f [pV p] h Q :=
 d ps fun h' t v s' ps' fr hv => hq.2 h' v (.dead e s') t rfl ps' fr hv
theorem XD.k {f : FuncId} (d : XD f VK) {p : Nat} {L : List Tok} {hd : Bool} {e : Nat} {s : St} {h : aE} {Q : bW → Prop} (ps : bG h p L hd (.dead e s)) (hq : aU (VK (fun j => h.next ≤ j)) p L hd h Q (.bad e)) : aP Tryz.prog G X f [pV p] h Q :=
 d ps fun h' t v s' ps' fr hv => hq.2 h' v (.dead e s') t rfl ps' fr hv
theorem XD.b {f : FuncId} (d : XD f VN) {p : Nat} {L : List Tok} {hd : Bool} {e : Nat} {s : St} {h : aE} {Q : bW → Prop} (ps : bG h p L hd (.dead e s)) (hq : dF (VN (fun j => h.next ≤ j)) p L hd h Q (.bad e)) : aP Tryz.prog G X f [pV p] h Q :=
 d ps fun h' t v s' ps' fr hv => by
  obtain ⟨j, br, hj, h1, h2⟩ := ps'.tok
  exact hq.2 h' v (.dead e (s'.with br)) t rfl ⟨ps'.lt, ⟨j, br, hj, h1, h2⟩, ps'.at_, ps'.wf⟩ ⟨_, _, _, _, h1⟩ fr hv


theorem aLa : XD 39 VN := by
 intro p L hd e s h Q ps hq
 have hp := ps.lt
 obtain ⟨j0, br0, hj0, hp0, hl0⟩ := ps.tok
 have hb0 := ps.dA
 refine Wk Tryz.func39 Tryz.ntmps39 (w:=QN (Mw (w:=QO (Ma (w:=MJ gG (w:=cN (L := L) (hd := hd) (x := .dead e s) (aQ) fun h1 g1 => ?_))))))
 have hn1 := nx g1.1
 refine Mk (w:=Mb (w:=QL (QU (QN (Ma (w:=MJ o7 (w:=eR (L := L) (hd := hd) (x := .dead e s) (ws := dI) (by decide +kernel) (by decide) (aQ) fun h2 g2 => ?_)))))))
 have hn2 := nx g2.1
 cases hb2 : Xs.is L dI (.dead e s)
 ·refine Me (w:=QQ (QN (Ma (w:=MJ oM (w:=eI (L := L) (hd := hd) (x := .dead e s) (aQ) fun h3 ps3 fr3 => ?_)))))
  have hn3 := nx fr3.1
  refine Mv (w:=QM ?_)
  refine ⟨_, aJ, ?_⟩
  exact hq _ eY _ _ aQ aI ⟨none, 0, 0, rfl, NV.leaf _ _ _ _ _ _⟩
 ·cases hb2

theorem aBz : XD 79 VK := by
 intro p L hd e s h Q ps hq
 have hp := ps.lt
 obtain ⟨j0, br0, hj0, hp0, hl0⟩ := ps.tok
 have hb0 := ps.dA
 generalize hbd : Xs.bad L (Xs.dead e s) = bd at *
 refine Wk Tryz.func79 Tryz.ntmps79 (w:=QN (Mb (w:=QO (Mb (w:=QL (QU (Bk ?_)))))))
 refine WC.bK hX (α := Unit) (m := fun a => 0) (Inv := fun a e' h' => e' 0 = some (pV p) ∧ e' 3 = some (.slice none 0 0) ∧ bG h' p L hd (.dead e s) ∧ bB p h h') () ⟨rfl, rfl, aQ, aI⟩ ?_
 rintro _ env h5 ih ⟨e0, e3, ps5, fr5⟩
 obtain ⟨j5, br5, hj5, hp5, hl5⟩ := ps5.tok
 rw [hbd] at hp5
 refine QU (QN (Ma (w:=Mi (w:=Mj (w:=Mt (w:=MF (w:=fun hh => by omega) (v:=fun hh => Ma (w:=MA (w:=MA (w:=MA (w:=Md (w:=QP (WC.exit (aG (QN (Ma (w:=Mb (w:=QM ?_))))))))))))))))))
 refine ⟨_, aJ, ?_⟩
 exact hq _ [] _ _ ps5 fr5 ⟨none, 0, 0, rfl, KV.nil _ _⟩

theorem aBy : XD 60 VN := by
 intro p L hd e s h Q ps hq
 have hp := ps.lt
 obtain ⟨j0, br0, hj0, hp0, hl0⟩ := ps.tok
 have hb0 := ps.dA
 refine Wk Tryz.func60 Tryz.ntmps60 (w:=QN (Mw (w:=QO (Ma (w:=MJ gG (w:=cN (L := L) (hd := hd) (x := .dead e s) (aQ) fun h1 g1 => ?_))))))
 have hn1 := nx g1.1
 refine Mk (w:=Mb (w:=QO (Ma (w:=MJ dU (w:=bO (L := L) (hd := hd) (x := .dead e s) (aQ) (aU.aCe fun h2 v2 s2 a2 ps2 fr2 hv2 => ?_))))))
 obtain ⟨rfl, hu2⟩ := hv2
 have hn2 := nx fr2.1
 refine QO (Ma (w:=MJ aJw (w:=aBz (L := L) (hd := hd) (e := e) (s := s2) (aQ) fun h3 t3 v3 s3 ps3 fr3 hv3 => ?_)))
 obtain ⟨b3, n3, es3, rfl, kv3⟩ := hv3
 have hn3 := nx fr3.1
 refine Mb (w:=QO (Ma (w:=MJ dU (w:=bO (L := L) (hd := hd) (x := .dead e s3) (aQ) (aU.aCe fun h4 v4 s4 a4 ps4 fr4 hv4 => ?_)))))
 obtain ⟨rfl, hu4⟩ := hv4
 have hn4 := nx fr4.1
 refine QO (Ma (w:=Ma (w:=MJ cL (w:=bN fun h5 g5 => ?_))))
 have hn5 := nx g5.1
 refine Mv (w:=QM ?_)
 refine ⟨_, aJ, ?_⟩
 exact hq _ (nd 16 (aF L s.k) ⟨#[]⟩ t3) _ _ aQ aI ⟨_, _, _, rfl, NV.aN (kv3.kp) _ _ _ _ _ _⟩

theorem aBi : XD 41 VK := by
 intro p L hd e s h Q ps hq
 have hp := ps.lt
 obtain ⟨j0, br0, hj0, hp0, hl0⟩ := ps.tok
 have hb0 := ps.dA
 refine Wk Tryz.func41 Tryz.ntmps41 (w:=QN (Mb (w:=QO (Ma (w:=MJ gG (w:=cN (L := L) (hd := hd) (x := .dead e s) (aQ) fun h1 g1 => ?_))))))
 have hn1 := nx g1.1
 refine Mk (w:=Mb (w:=QO (Ma (w:=MJ dU (w:=bO (L := L) (hd := hd) (x := .dead e s) (aQ) (aU.aCe fun h2 v2 s2 a2 ps2 fr2 hv2 => ?_))))))
 obtain ⟨rfl, hu2⟩ := hv2
 have hn2 := nx fr2.1
 generalize aF L (Xs.dead e s).st.k = tk at *
 obtain ⟨j2, br2, hj2, hp2, hl2⟩ := ps2.tok
 have hb2 := ps2.dA
 generalize hbd : Xs.bad L (Xs.dead e s2) = bd at *
 refine QO (Mb (w:=QL (QU (Bk ?_))))
 refine WC.fW 0 (fun e' h' => e' 0 = some (pV p) ∧ e' 3 = some (.int .i64 tk.pos) ∧ e' 4 = some (.slice none 0 0) ∧ bG h' p L hd (.dead e s2) ∧ bB p h h') ?_ ?_
 ·refine WC.bK hX (α := Unit) (m := fun a => 0) (Inv := fun a e' h' => e' 0 = some (pV p) ∧ e' 3 = some (.int .i64 tk.pos) ∧ e' 4 = some (.slice none 0 0) ∧ bG h' p L hd (.dead e s2) ∧ bB p h h') () ⟨rfl, rfl, rfl, aQ, aI⟩ ?_
  rintro _ env h5 ih ⟨e0, e3, e4, ps5, fr5⟩
  obtain ⟨j5, br5, hj5, hp5, hl5⟩ := ps5.tok
  rw [hbd] at hp5
  refine QU (QN (Ma (w:=Mi (w:=Mj (w:=Mt (w:=MF (w:=fun hh => by omega) (v:=fun hh => Ma (w:=MA (w:=MA (w:=MA (w:=Md (w:=QP (WC.exit ?_)))))))))))))
  exact ⟨rfl, e0, e3, e4, ps5, fr5⟩
 ·rintro env h5 ⟨e0, e3, e4, ps5, fr5⟩
  have hnn5 := fr5.1
  refine aG (QN (Ma (w:=MJ dU (w:=bO (L := L) (hd := hd) (x := .dead e s2) (aQ) (aU.aCe fun h6 v6 s6 a6 ps6 fr6 hv6 => ?_)))))
  obtain ⟨rfl, hu6⟩ := hv6
  have hn6 := nx fr6.1
  refine QO (MJ tI (w:=kN fun h7 g7 => ?_))
  have hn7 := nx g7.1
  have ps7 : bG h7 p L hd (.dead e s6) := aQ
  obtain ⟨j7, br7, hj7, hp7, hl7⟩ := ps7.tok
  have hb7 := ps7.dA
  generalize hbd7 : Xs.bad L (Xs.dead e s6) = bd7 at *
  refine Mw (w:=Mv (w:=QL (QU (QN (Ma (w:=Mi (w:=Mj (w:=Mt (w:=MF (w:=fun hh => by omega) (v:=fun hh => Ma (w:=MA (w:=MA (w:=MA (w:=Md (w:=QP (UA (QN (Ma (w:=Mi (w:=Mj (w:=Mt (w:=Mb (w:=QO (Ma (w:=Mi (w:=Mj (w:=Mv (w:=QO (Ma (w:=MJ yA (w:=aBy (L := L) (hd := false) (e := e) (s := s6) (aQ) fun h8 t8 v8 s8 ps8 fr8 hv8 => ?_)))))))))))))))))))))))))))))))
  obtain ⟨b8, n8, es8, rfl, kv8⟩ := hv8
  have hn8 := nx fr8.1
  obtain ⟨j8, br8, hj8, hp8, hl8⟩ := ps8.tok
  refine Mw (w:=Mv (w:=QO (Ma (w:=Ma (w:=Mi (w:=Mj (w:=Mv (w:=QL (QU (Gd [⟨0, .pure, 0⟩, ⟨1, .pure, 0⟩, ⟨3, .read, 0⟩, ⟨4, .read, 0⟩, ⟨2, .aC, 3⟩, ⟨5, .alloc, 31⟩, ⟨6, .pure, 63⟩] (w:=Da (w:=Da (w:=Ru (w:=Ru (w:=?_)))))))))))))));refine WD.aC hX (hw := ?_)
  refine QJ cL ?_
  refine bN fun h9 g9 => ?_
  have hn9 := nx g9.1
  refine WD.alloc (hw := Qz ?_);refine Db (w:=WD.nil (hq:=WC.ret ?_))
  refine ⟨_, aJ, ?_⟩
  refine hq _ [nd 6 tk ⟨#[]⟩ [], aY, t8] _ _ aQ aI ⟨_, _, _, rfl, ?_⟩
  apply KV.sX (b2 := none) (n2 := 0) (es2 := 0) (S := fun j => h.next ≤ j ∧ j < h9.next)
  (· exact aA); (· rfl); (· exact aB); (· exact aB); (· exact NV.aN (KV.nil _ _) _ _ _ _ _ _); (· exact NV.none _ _); (· exact (kv8.kp)); (· exact fun j hS hj => ⟨hS.1, by have := hS.2; exact aB⟩)

theorem aDd : XD 127 VN := by
 intro p L hd e s h Q ps hq
 have hp := ps.lt
 obtain ⟨j0, br0, hj0, hp0, hl0⟩ := ps.tok
 have hb0 := ps.dA
 refine Wk Tryz.func127 Tryz.ntmps127 (w:=QN (Mw (w:=QO (Ma (w:=MJ gG (w:=cN (L := L) (hd := hd) (x := .dead e s) (aQ) fun h1 g1 => ?_))))))
 have hn1 := nx g1.1
 have ps1 : bG h1 p L hd (.dead e s) := aQ
 obtain ⟨j1, br1, hj1, hp1, hl1⟩ := ps1.tok
 generalize hbd : Xs.bad L (Xs.dead e s) = bd at *
 refine Mw (w:=Mv (w:=QL (QU (QN (Ma (w:=Mi (w:=Mj (w:=Mt (w:=MI (w:=fun hh => QQ (QN (Mn (w:=Mv (w:=QM ?_))))) (v:=fun hh => by omega))))))))))
 refine ⟨_, aJ, ?_⟩
 exact hq _ eY _ _ aQ aI ⟨none, 0, 0, rfl, NV.leaf _ _ _ _ _ _⟩

theorem sJ : XD 110 VN := by
 intro p L hd e s h Q ps hq
 have hp := ps.lt
 obtain ⟨j0, br0, hj0, hp0, hl0⟩ := ps.tok
 have hb0 := ps.dA
 refine Wk Tryz.func110 Tryz.ntmps110 (w:=QN (Mw (w:=QO (Ma (w:=MJ gY (w:=gX (L := L) (hd := hd) (x := .dead e s) (aQ) fun h1 g1 => ?_))))))
 have hn1 := nx g1.1
 cases hb1 : Xs.is L [⟨#[40]⟩] (.dead e s)
 case true => cases hb1
 refine Mb (w:=QO (Ma (w:=MJ aIz (w:=aDd (L := L) (hd := hd) (e := e) (s := s) (aQ) fun h2 t2 v2 s2 ps2 fr2 hv2 => ?_))))
 obtain ⟨b2, n2, es2, rfl, kv2⟩ := hv2
 have hn2 := nx fr2.1
 obtain ⟨j2, br2, hj2, hp2, hl2⟩ := ps2.tok
 refine Mw (w:=Mv (w:=QO (Ma (w:=Mi (w:=Mj (w:=Mt (w:=Mb (w:=QL (QU (Bk ?_))))))))))
 refine WC.bK hX (α := Unit) (m := fun a => 0) (Inv := fun a e' h' => e' 0 = some (pV p) ∧ e' 2 = some (.pointer (some ⟨h.next, 0, none⟩)) ∧ e' 3 = some (.bool false) ∧ e' 4 = some (.pointer (some ⟨h2.next, 0, none⟩)) ∧
  bG h' p L hd (.dead e s2) ∧ bB p h h' ∧ h'.obj h.next = some (Z0) ∧ h2.next < h'.next ∧ h'.obj h2.next = some (.cells false (aH t2 b2 n2 es2)) ∧ NV h' (fun j => h.next < j) (aH t2 b2 n2 es2) t2) () ⟨rfl, rfl, rfl, rfl, aQ, aI, aA, aB, aA, kv2.kp⟩ ?_
 rintro _ env h5 ih ⟨e0, e2, e3, e4, ps5, fr5, ho5, hn5, hk5, kv5⟩
 have hnn5 := fr5.1
 refine QU (QN (Ma (w:=MJ o7 (w:=eR (L := L) (hd := hd) (x := .dead e s2) (ws := [⟨#[40]⟩, ⟨#[91]⟩, ⟨#[46]⟩]) (by decide +kernel) (by decide) (aQ) fun h6 g6 => ?_))))
 have hn6 := nx g6.1
 cases hb6 : Xs.is L [⟨#[40]⟩, ⟨#[91]⟩, ⟨#[46]⟩] (.dead e s2)
 ·obtain ⟨j5, br5, hj5, hp5, hl5⟩ := ps5.tok
  refine QP (WC.exit (aG (QN (Ma (w:=Ma (w:=Mi (w:=Mj (w:=Mv (w:=QO (Mu (w:=Mv (w:=QM ?_))))))))))))
  refine ⟨_, aJ, ?_⟩
  exact hq _ t2 _ s2 aQ aI ⟨_, _, _, rfl, kv5.kp⟩
 ·cases hb6

theorem xQ : XD 112 VN := by
 intro p L hd e s h Q ps hq
 have hp := ps.lt
 obtain ⟨j0, br0, hj0, hp0, hl0⟩ := ps.tok
 have hb0 := ps.dA
 refine Wk Tryz.func112 Tryz.ntmps112 (w:=QN (Mw (w:=QO (Ma (w:=MJ gG (w:=cN (L := L) (hd := hd) (x := .dead e s) (aQ) fun h1 g1 => ?_))))))
 have hn1 := nx g1.1
 refine Mw (w:=Mv (w:=QL (QU (QN (Ma (w:=MJ o7 (w:=eR (L := L) (hd := hd) (x := .dead e s) (ws := [⟨#[45]⟩, ⟨#[33]⟩, ⟨#[60, 45]⟩]) (by decide +kernel) (by decide) (aQ) fun h2 g2 => ?_)))))))
 have hn2 := nx g2.1
 cases hb2 : Xs.is L [⟨#[45]⟩, ⟨#[33]⟩, ⟨#[60, 45]⟩] (.dead e s)
 ·refine QP (UA (QN (Ma (w:=MJ wV (w:=sJ (L := L) (hd := hd) (e := e) (s := s) (aQ) fun h3 t3 v3 s3 ps3 fr3 hv3 => ?_)))))
  obtain ⟨b3, n3, es3, rfl, kv3⟩ := hv3
  have hn3 := nx fr3.1
  refine Mv (w:=QM ?_)
  refine ⟨_, aJ, ?_⟩
  exact hq _ t3 _ s3 aQ aI ⟨_, _, _, rfl, kv3.kp⟩
 ·cases hb2

end Go.Proofs.ZL
end
