/- The parser, second part: expressions. -/
import Derived.Test.YtpdkdgfknanipaaGreatDoorYP1
section
open Go Go.Am
namespace Go.Proofs.ZL
set_option maxRecDepth 100000
set_option linter.unusedSimpArgs false
set_option linter.unusedVariables false
set_option maxHeartbeats 4000000
variable {h : aA} {Q : bR → Prop} {L : List Tok} {p : Nat} {hd : Bool} {src : ByteArray}
theorem R.dA {α : Type} (r : R α) : (r.then fun a s => R.ok a s) = r := by cases r <;> rfl

theorem cF.self {s : St} {j : Nat} (ps : cF h p L hd s) (ho : h.obj p = some (.cells false [.slice (some ⟨j, 0, none⟩) L.length 4, .int .i64 s.k, .bool hd, .bool s.bare])) (hd' : Bool) (s' : St) (hk : s'.k < L.length) :
  cF (h.put p (some (.cells false [.slice (some ⟨j, 0, none⟩) L.length 4, .int .i64 s'.k, .bool hd', .bool s'.bare]))) p L hd' s' :=
 ps.set hd' s' (Nat.le_refl _) (fun i hi => bF (by omega) rfl) hk fun j' hj' => by
  have e := ho.symm.trans hj'
  cases e
  exact eG

theorem gS {fid : FuncId} {first cap : Array Value} {hd hd' : Bool} {s : St} {spec : R Nd} (ps : cF h p L hd s) (en : ∀ vs, aQ Tryz.prog fid vs = some (.enter fid vs))
  (hcall : ∀ {h1 : aA} {Q1 : bR → Prop}, cF h1 p L hd' s → cJ p h h1 → bT (VN (fun j => h1.next ≤ j)) p L hd' h1 Q1 spec → aS Tryz.prog G X fid (first.toList ++ cap.toList) h1 Q1)
  (hq : bT (VN (fun j => h.next ≤ j)) p L hd h Q spec) :
  aS Tryz.prog G X 135 [pV p, .bool hd', .func (.func fid) first cap] h Q := by
 have hp := ps.lt
 rw [← R.dA spec] at hq
 obtain ⟨j, hj, ho, hl⟩ := ps.tok
 refine Wk Tryz.func135 Tryz.ntmps135 (w:=QN (Mw (w:=QO (Ma (w:=Mi (w:=Mj (w:=Mt (w:=Mb (w:=QO (Ma (w:=Ma (w:=Mi (w:=Mj (w:=Mv (w:=QO (Ma (w:=QK ?_)))))))))))))))))
 apply WS.uD (ws := first.toList ++ cap.toList); (· rfl); (· rfl); (· exact aL); (· rfl); (· simp); (· exact en)
 refine hcall ((ps.alloc _).self (j := j) aD hd' s ps.at_) ((cJ.refl p h).alloc _).self (bT.use ((cJ.refl p h).alloc _).self hq (fun _ _ x => x) fun t2 s2 h2 v2 ps2 fr2 hv2 hq2 => ?_)
 obtain ⟨b2, n2, es2, rfl, kv2⟩ := hv2
 have hn2 := fr2.1
 simp only [UB, UC] at hn2 kv2
 obtain ⟨j2, hj2, ho2, hl2⟩ := ps2.tok
 refine Mw (w:=Mv (w:=QO (Ma (w:=Ma (w:=Mi (w:=Mj (w:=Mv (w:=QO (Mu (w:=Mv (w:=QM ?_)))))))))))
 refine ⟨_, aM, ?_⟩
 refine hq2 _ _ ?_ ?_ ⟨_, _, _, rfl, kv2.kp⟩
 ·refine cF.put ?_ aB
  exact ((ps2.alloc _).put (by omega)).self (s := s2) (j := j2) aD hd s2 ps2.at_
 ·refine cJ.put (cJ.self (cJ.put (cJ.alloc ?_ _) (by omega))) (Nat.le_refl _)
  exact (((cJ.refl p h).alloc _).self).trans fr2

theorem aCf {fid : FuncId} {first cap : Array Value} {p lo hi x : Nat} {hd hd' : Bool} {s : St} {spec : R Nd} (ps : cF h p L hd s) (hlo : p < lo) (hhi : hi ≤ h.next) (hxn : x < h.next) (en : ∀ vs, aQ Tryz.prog fid vs = some (.enter fid vs))
  (hcall : ∀ {h1 : aA} {Q1 : bR → Prop}, cF h1 p L hd' s → cJ p h h1 → bT (VN (fun j => lo ≤ j ∧ j ≠ x ∧ (j < hi ∨ h1.next ≤ j))) p L hd' h1 Q1 spec → aS Tryz.prog G X fid (first.toList ++ cap.toList) h1 Q1)
  (hq : bT (VN (fun j => lo ≤ j ∧ j ≠ x ∧ (j < hi ∨ h.next ≤ j))) p L hd h Q spec) :
  aS Tryz.prog G X 135 [pV p, .bool hd', .func (.func fid) first cap] h Q := by
 have hp := ps.lt
 rw [← R.dA spec] at hq
 obtain ⟨j, hj, ho, hl⟩ := ps.tok
 refine Wk Tryz.func135 Tryz.ntmps135 (w:=QN (Mw (w:=QO (Ma (w:=Mi (w:=Mj (w:=Mt (w:=Mb (w:=QO (Ma (w:=Ma (w:=Mi (w:=Mj (w:=Mv (w:=QO (Ma (w:=QK ?_)))))))))))))))))
 apply WS.uD (ws := first.toList ++ cap.toList); (· rfl); (· rfl); (· exact aL); (· rfl); (· simp); (· exact en)
 refine hcall ((ps.alloc _).self (j := j) aD hd' s ps.at_) ((cJ.refl p h).alloc _).self (bT.use ((cJ.refl p h).alloc _).self hq (fun _ _ x => x) fun t2 s2 h2 v2 ps2 fr2 hv2 hq2 => ?_)
 obtain ⟨b2, n2, es2, rfl, kv2⟩ := hv2
 have hn2 := fr2.1
 simp only [UB, UC] at hn2 kv2
 obtain ⟨j2, hj2, ho2, hl2⟩ := ps2.tok
 refine Mw (w:=Mv (w:=QO (Ma (w:=Ma (w:=Mi (w:=Mj (w:=Mv (w:=QO (Mu (w:=Mv (w:=QM ?_)))))))))))
 refine ⟨_, aM, ?_⟩
 refine hq2 _ _ ?_ ?_ ⟨_, _, _, rfl, kv2.kp⟩
 ·refine cF.put ?_ aB
  exact ((ps2.alloc _).put (by omega)).self (s := s2) (j := j2) aD hd s2 ps2.at_
 ·refine cJ.put (cJ.self (cJ.put (cJ.alloc ?_ _) (by omega))) (Nat.le_refl _)
  exact (((cJ.refl p h).alloc _).self).trans fr2

theorem aMw {r : Rec} (c : qP r) : CN 210 (r.binary 1) := by
 intro p L hd s h Q ps hq0
 have hp := ps.lt
 rw [← R.dA (r.binary 1 L hd s)] at hq0
 refine Wk Tryz.func210 Tryz.ntmps210 (w:=QN (Mw (w:=QO (Ma (w:=MJ aLy (w:=c.binary (by omega) (by omega) aI (bT.use aT hq0 (fun _ _ x => x) fun t1 s1 h1 v1 ps1 fr1 hv1 hq1 => ?_)))))))
 obtain ⟨b1, n1, es1, rfl, kv1⟩ := hv1
 have hn1 := fr1.1
 simp only [UB, UC] at hn1
 refine Mv (w:=QM ?_)
 refine ⟨_, aM, ?_⟩
 exact hq1 _ _ aI aT ⟨_, _, _, rfl, kv1.kp⟩

theorem aLe {r : Rec} (c : qP r) : CN 243 (qA r) := by
 intro p L hd s h Q ps hq0
 have hp := ps.lt
 unfold qA at hq0
 refine Wk Tryz.func243 Tryz.ntmps243 (w:=QN (Mw (w:=QL (QU (QN (Ma (w:=My (w:=MJ c8 (w:=fB (L := L) (hd := hd) (s := s) (ts := [⟨#[45]⟩, ⟨#[33]⟩, ⟨#[60, 45]⟩]) aI aD aB rfl (by first | decide | simp) fun h1 g1 => ?_)))))))))
 have hn1 := nx g1.1
 cases hb : cC L s [⟨#[45]⟩, ⟨#[33]⟩, ⟨#[60, 45]⟩]
 ·rw [hb, if_neg Bool.false_ne_true, ← R.dA (r.cH L hd s)] at hq0
  refine QP (UA (QN (Ma (w:=MJ aAy (w:=c.cH aI (Nu hq0 (k:=fun t2 s2 h2 b2 n2 es2 ps2 fr2 kv2 hn2 hq2 => ?_)))))))
  refine Mv (w:=QM ?_)
  refine ⟨_, aM, ?_⟩
  exact hq2 _ _ aI aT ⟨_, _, _, rfl, kv2.kp⟩
 ·rw [hb, if_pos rfl] at hq0
  refine QQ (QN (Ma (w:=MJ cG (w:=bS (L := L) (hd := hd) (s := s) aI (ps.wf.is ps.at_ hb) fun h2 ps2 fr2 => ?_))))
  have hn2 := nx fr2.1
  simp only at hq0
  generalize aK L s.k = tk at *
  refine Mw (w:=Mv (w:=QL (QU (Gd [⟨0, .read, 0⟩, ⟨1, .pure, 0⟩, ⟨2, .read, 2⟩, ⟨3, .pure, 0⟩, ⟨7, .alloc, 0⟩, ⟨4, .aF, 8⟩, ⟨5, .alloc, 24⟩, ⟨6, .aF, 63⟩, ⟨8, .aF, 255⟩] (w:=Ru (w:=Dj (w:=Rt (w:=Da (w:=?_)))))))));refine WD.alloc (hw := Qw ?_);refine WD.aF hX (hw := ?_)
  refine QJ aAz ?_
  refine c.unary aI (Nu hq0 (k:=fun t3 s3 h3 b3 n3 es3 ps3 fr3 kv3 hn3 hq3 => ?_))
  refine WD.alloc (hw := Qz ?_);refine WD.aF hX (hw := ?_)
  refine QJ bM ?_
  refine bG fun h4 g4 => ?_
  have hn4 := nx g4.1
  obtain ⟨j3, hj3, ho3, hl3⟩ := ps3.tok
  have ho4 : h4.obj p = some (.cells false [.slice (some ⟨j3, 0, none⟩) L.length 4, .int .i64 s3.k, .bool hd, .bool s3.bare]) := g4.at aB aD
  refine WD.aF hX (hw := Qv ?_);refine WD.nil (hq:=QN (Ma (w:=Mi (w:=Mj (w:=Mv (w:=QO (Mu (w:=Mv (w:=QM ?_)))))))))
  refine ⟨_, aM, ?_⟩
  refine hq3 _ _ ?_ ?_ ⟨_, _, _, rfl, NV.aZ (KV.one (S := fun j => h.next ≤ j ∧ j < h3.next) aB aB aD (kv3.kp) (fun j hS hj => ⟨hS.1, by have := hS.2; exact aB⟩)) _ _ _ _ _ _⟩
  ·refine cF.put ?_ aB
   exact cF.self (hd := hd) (s := s3) (j := j3) aI aD hd (s3.with false) ps3.at_
  ·refine cJ.put (cJ.self ?_) (Nat.le_refl _)
   exact aT

theorem aBg (t : Tok) : 0 ≤ level t ∧ level t ≤ 5 := by
 unfold level
 repeat' split
 all_goals omega

theorem aKe {t : Tok} (hq : ∀ h', Gr h h' → Q (.ret (.int .i64 (level t)) h')) : aS Tryz.prog G X 245 [.agg t.cells.toArray] h Q := by
 refine Wk Tryz.func245 Tryz.ntmps245 (w:=QN (Mx (w:=Mb (w:=QL (QU (QN (Mj (w:=Mt (w:=ME (w:=fun hh => QQ (QN (Mb (w:=QM ?_)))) (v:=fun hh => QP (UA (QU (QN (Mj (w:=Mt (w:=QL (Bk (QN (MB (w:=fun hh => Mb (w:=QQ (QN (Mb (w:=QM ?_))))) (v:=fun hh => Mb (w:=QP (QN (MB (w:=fun hh => Mb (w:=QQ (QN (Mb (w:=QM ?_))))) (v:=fun hh => Mb (w:=QP (QU (QN (MB (w:=fun hh => Mb (w:=QQ (UA (QR (QN (Mb (w:=QM ?_))))))) (v:=fun hh => Mb (w:=QP (QN (MB (w:=fun hh => Mb (w:=QQ (UA (QR (QN (Mb (w:=QM ?_))))))) (v:=fun hh => Mb (w:=QP (QN (MB (w:=fun hh => Mb (w:=QQ (UA (QR (QN (Mb (w:=QM ?_))))))) (v:=fun hh => Mb (w:=QP (QN (MB (w:=fun hh => Mb (w:=QQ (UA (QR (QN (Mb (w:=QM ?_))))))) (v:=fun hh => Mb (w:=QP (QN (MB (w:=fun hh => Mb (w:=QQ (UA (QR (QN (Mb (w:=QM ?_))))))) (v:=fun hh => Mb (w:=QP (QV (MB (w:=fun hh => Mb (w:=QQ (QN (Mb (w:=QM ?_))))) (v:=fun hh => Mb (w:=QP (QU (QN (MB (w:=fun hh => Mb (w:=QQ (UA (QR (QN (Mb (w:=QM ?_))))))) (v:=fun hh => Mb (w:=QP (QV (MB (w:=fun hh => Mb (w:=QQ (QN (Mb (w:=QM ?_))))) (v:=fun hh => Mb (w:=QP (QU (QN (MB (w:=fun hh => Mb (w:=QQ (UA (QR (QN (Mb (w:=QM ?_))))))) (v:=fun hh => Mb (w:=QP (QN (MB (w:=fun hh => Mb (w:=QQ (UA (QR (QN (Mb (w:=QM ?_))))))) (v:=fun hh => Mb (w:=QP (QV (MB (w:=fun hh => Mb (w:=QQ (QN (Mb (w:=QM ?_))))) (v:=fun hh => Mb (w:=QP (UA (QN (Mb (w:=QM ?_))))))))))))))))))))))))))))))))))))))))))))))))))))))))))))))))))))))))))))
 all_goals (refine ⟨_, rfl, ?_⟩; have hx := hq (h.alloc (.cells false t.cells)) (Gr.alloc _ _); unfold level at hx; simp [lR, *] at hx; exact hx)

theorem aGl {r : Rec} {n : Nat} (hn : n ≤ 1000000) (c : qP r) {least : Int} (h0 : 0 ≤ least) (h6 : least ≤ 6) {p : Nat} {L : List Tok} {hd : Bool} {s : St} {h : aA} {Q : bR → Prop} (ps : cF h p L hd s)
  (hq0 : bT (VN (fun j => h.next ≤ j)) p L hd h Q (oF n r least L hd s)) : aS Tryz.prog G X 227 [pV p, .int .i64 least] h Q := by
 have hp := ps.lt
 unfold oF at hq0
 refine Wk Tryz.func227 Tryz.ntmps227 (w:=QN (Mw (w:=QO (Ma (w:=MJ aAz (w:=c.unary aI (Nu hq0 (k:=fun t1 s1 h1 b1 n1 es1 ps1 fr1 kv1 hn1 hq1 => ?_))))))))
 rw [← R.dA (iE r least L hd n t1 s1)] at hq1
 refine Mw (w:=Mv (w:=QL (Bk ?_)))
 refine WC.cB hX (α := Nat × Nd × St) (m := fun a => a.1) (Inv := fun a e h' => e 0 = some (pV p) ∧ e 1 = some (.int .i64 least) ∧ e 4 = some (.pointer (some ⟨h.next, 0, none⟩)) ∧ e 5 = some (.pointer (some ⟨h1.next, 0, none⟩)) ∧ cF h' p L hd a.2.2 ∧ cJ p h h' ∧
  h'.obj h.next = some (Z0) ∧ h1.next < h'.next ∧ (∃ b n es, h'.obj h1.next = some (.cells false (aG a.2.1 b n es)) ∧ NV h' (fun j => h.next < j ∧ j ≠ h1.next) (aG a.2.1 b n es) a.2.1) ∧
  bT (VN fun j => h.next ≤ j) p L hd h Q ((iE r least L hd a.1 a.2.1 a.2.2).then fun a s => .ok a s))
  (n, t1, s1) ⟨rfl, rfl, rfl, rfl, aI, aT, aD, aB, ⟨b1, n1, es1, aD, kv1.kp⟩, hq1⟩ ?_
 rintro ⟨m, left, s5⟩ env h5 ih ⟨e0, e1, e4, e5, ps5, fr5, ho5, hn5, ⟨b5, n5, es5, hk5, kv5⟩, hq5⟩
 simp only at ps5 hk5 kv5 hq5
 have hnn5 := fr5.1
 obtain ⟨m, rfl⟩ : ∃ m', m = m' + 1 := by
  cases m with
  | zero => exact hq5.elim
  | succ m => exact ⟨m, rfl⟩
 unfold iE at hq5
 refine Bk (QN (Ma (w:=MJ rB (w:=iU (L := L) (hd := hd) (s := s5) aI fun h6' g6 => ?_))))
 have hn6 := g6.1
 simp only at hq5
 have hlr := aBg (aK L s5.k)
 have hm5 : level (aK L s5.k) ≠ 0 → s5.k + 1 < L.length := fun hl => ps5.wf.more ps5.at_ (by intro e; apply hl; unfold level; rw [if_pos (by omega)])
 generalize hlv : level (aK L s5.k) = lv at *
 generalize htk : aK L s5.k = tk at *
 refine Mw (w:=Mv (w:=QO (Mu (w:=MJ aPi (w:=aKe fun h7 g7 => ?_)))))
 have hn7 := g7.1
 simp only [UB, UC] at hn7
 rw [hlv]
 refine Mb (w:=QL (QU (QN (Ma (w:=Ma (w:=MF (w:=fun hh => Ma (w:=MA (w:=MA (w:=Mc (w:=QQ (QN (Mu (w:=Mv (w:=QM ?_))))))))) (v:=fun hh => Ma (w:=Ma (w:=MD (w:=fun hh => Md (w:=QQ (QN (Mu (w:=Mv (w:=QM ?_)))))) (v:=fun hh => Md (w:=QP (UA (QN (Ma (w:=QK ?_)))))))))))))))
 ·rw [if_pos (.inl hh), R.then_ok] at hq5
  refine ⟨_, aM, ?_⟩
  exact hq5 _ _ aI aT ⟨_, _, _, rfl, kv5.kp⟩
 ·rw [if_pos (.inr hh), R.then_ok] at hq5
  refine ⟨_, aM, ?_⟩
  exact hq5 _ _ aI aT ⟨_, _, _, rfl, kv5.kp⟩
 ·rw [if_neg (by omega), R.then_assoc] at hq5
  refine QJ cG ?_
  refine bS (L := L) (hd := hd) (s := s5) aI (hm5 hh) fun h8 ps8 fr8 => ?_
  have hn8 := nx fr8.1
  simp only [htk]
  refine QL (QU (Gd [⟨0, .read, 0⟩, ⟨1, .pure, 0⟩, ⟨2, .read, 2⟩, ⟨3, .read, 0⟩, ⟨4, .pure, 0⟩, ⟨5, .pure, 0⟩, ⟨6, .pure, 32⟩, ⟨7, .aF, 112⟩, ⟨8, .alloc, 248⟩, ⟨9, .aF, 511⟩, ⟨10, .aF, 1023⟩] (w:=Ru (w:=Dj (w:=Rt (w:=Ru (w:=Da (w:=Da (w:=Df (w:=?_))))))))));refine WD.aF hX (hw := ?_)
  refine QJ aLy ?_
  refine c.binary (by omega) (by omega) aI (Nu hq5 (k:=fun t9 s9 h9 b9 n9 es9 ps9 fr9 kv9 hn9 hq9 => ?_))
  refine WD.alloc (hw := Qz ?_);refine WD.aF hX (hw := ?_)
  refine QJ bM ?_
  refine bG fun h10 g10 => ?_
  have hn10 := nx g10.1
  obtain ⟨j9, hj9, ho9, hl9⟩ := ps9.tok
  have ho10 : h10.obj p = some (.cells false [.slice (some ⟨j9, 0, none⟩) L.length 4, .int .i64 s9.k, .bool hd, .bool s9.bare]) := g10.at aB aD
  refine WD.aF hX (hw := Qv ?_);refine WD.nil (hq:=QV (Ma (w:=Mi (w:=Mj (w:=Mv (w:=QL ?_))))))
  refine ih (m, nd 42 tk tk.text [left, t9], s9.with false) _ _ (by simp) ⟨e0, e1, e4, e5, ?_, aT, aD, aB, ⟨_, _, _, aD, NV.aZ (KV.two (i := h9.next) (S := fun j => h.next < j ∧ j ≠ h1.next ∧ j < h9.next) aB aB aD (kv5.kp) (kv9.kp) (fun j hS hj => by have a1 := hS.1; have a2 := hS.2.1; have a3 := hS.2.2; exact ⟨⟨a1, a2⟩, by omega⟩)) _ _ _ _ _ _⟩, hq9⟩
  exact cF.self (hd := hd) (s := s9) (j := j9) aI aD hd (s9.with false) ps9.at_

theorem aEb {r : Rec} {n : Nat} (hn : n ≤ 1000000) (c : qP r) {e : ByteArray} {p : Nat} {L : List Tok} {hd : Bool} {s : St} {h : aA} {Q : bR → Prop} (ps : cF h p L hd s)
  (hq0 : bT (VK (fun j => h.next ≤ j)) p L hd h Q (eA n r e L hd s)) : aS Tryz.prog G X 251 [pV p, .string e] h Q := by
 have hp := ps.lt
 unfold eA at hq0
 refine Wk Tryz.func251 Tryz.ntmps251 (w:=QN (Mb (w:=QO (Mb (w:=QL (QU (Bk ?_)))))))
 refine WC.cB hX (α := Nat × List Nd × St) (m := fun a => a.1) (Inv := fun a v h' => v 0 = some (pV p) ∧ v 1 = some (.string e) ∧ cF h' p L hd a.2.2 ∧ cJ p h h' ∧
  a.1 + a.2.1.length ≤ n ∧ (∃ b n es, v 5 = some (.slice b n es) ∧ KV h' (fun j => h.next ≤ j) b n es a.2.1) ∧
  bT (VK (fun j => h.next ≤ j)) p L hd h Q ((dI L [e] (fun out s => (sW L s out.isEmpty).then fun _ s => (r.expr L hd s).then fun x s => .ok (out ++ [x]) s) a.1 a.2.1 a.2.2).then fun out s => .ok out s.next))
  (n, [], s) ⟨rfl, rfl, ps, cJ.refl _ _, by simp, ⟨none, 0, 0, rfl, KV.nil _ _⟩, hq0⟩ ?_
 rintro ⟨m, kids, s5⟩ env h5 ih ⟨e0, e1, ps5, fr5, hm5, ⟨b5, n5, es5, e5, kv5⟩, hq5⟩
 simp only at ps5 hm5 kv5 hq5
 have hnn5 := fr5.1
 obtain ⟨m, rfl⟩ : ∃ m', m = m' + 1 := by
  cases m with
  | zero => exact hq5.elim
  | succ m => exact ⟨m, rfl⟩
 unfold dI at hq5
 have hl5 := kv5.len
 refine QU (QN (Ma (w:=Ma (w:=My (w:=MJ c8 (w:=fB (L := L) (hd := hd) (s := s5) (ts := [e]) aI aD aB rfl (by first | decide | simp) fun h6 g6 => ?_))))))
 have hn6 := nx g6.1
 cases hb6 : cC L s5 [e]
 ·rw [hb6, if_neg Bool.false_ne_true] at hq5
  simp only [R.then_assoc] at hq5
  unfold sW at hq5
  refine Me (w:=QQ (UA (Bk (QU (QN (Ma (w:=Ms (w:=MH (w:=fun hh => QQ (QV (Ma (w:=QK ?_)))) (v:=fun hh => QP (UA (QV (Ma (w:=Ma (w:=QK ?_))))))))))))))
  ·have he : kids.isEmpty = false := by
    cases kids with
    | nil => simp at hl5; omega
    | cons a l => rfl
   rw [he, if_neg Bool.false_ne_true, R.then_assoc] at hq5
   refine QJ eI ?_
   refine Wn (hd := hd) hq5 (k:=fun tk7 s7 h7 ps7 fr7 hn7 hq7 => ?_)
   (try simp only [R.then_ok] at hq7)
   refine QL (QV (Ma (w:=Ma (w:=MJ hG (w:=c.expr aI (Nu hq7 (k:=fun t8 s8 h8 b8 n8 es8 ps8 fr8 kv8 hn8 hq8 => ?_)))))))
   (try simp only [R.then_ok] at hq8)
   refine Mz (w:=QK ?_)
   have kvH := kv5.mono (S' := fun j => (h.next - 1) < j) (h' := (h8).alloc (.cells false (aG t8 b8 n8 es8))) aB (fun j hS hj => ⟨aB, bB⟩)
   have hbne := kvH.ne
   obtain ⟨old, hsa, hol, hold⟩ := kvH.sliceAt
   have hol2 : kids.length ≤ 1000000 := by omega
   apply WS.append
   (· rfl); (· rfl); (· exact aL); (· exact aL); (· rfl); (· rfl); (· intro k hk; cases hk); (· exact cE rfl); (· decide); (· exact aD); (· exact iC); (· rfl); (· unfold room; omega); (· rfl); (· exact hsa)
   intro h9 hn9 ho9 hf9
   simp only [UB, UC] at hn9 ho9 hf9
   have hk9 : ∀ j, j ≤ (h.next - 1) → h9.obj j = ((h8).alloc (.cells false (aG t8 b8 n8 es8))).obj j := fun j hj => hf9 j (by omega) (hbne j hj)
   have fr9 : cJ p h h9 := cJ.dC (H := (h8).alloc (.cells false (aG t8 b8 n8 es8))) aT aB fun j hj => hk9 j (by omega)
   have kv9 : KV h9 (fun j => (h.next - 1) < j) (some ⟨(h8).next + 1, 0, none⟩) (n5 + 1) 7 (kids ++ [t8]) := KV.snoc (h := (h8).alloc (.cells false (aG t8 b8 n8 es8))) (S2 := fun j => h5.next ≤ j ∧ j < (h8).next) hol (by omega) hold (kv8.kp) aB ho9 hf9 aB (fun x hx _ => by omega) (fun x hx hlt => ⟨by have := hx.1; omega, kv5.ge x hx.1⟩)
   have ps9 : cF h9 p L hd s8 := cF.dC (h := h8.alloc (.cells false (aG t8 b8 n8 es8))) aI aB fun j hj => hk9 j (by omega)
   refine Mb (w:=QL ?_)
   exact ih (m, kids ++ [t8], s8) _ _ (by simp) ⟨e0, e1, ps9, fr9, by simp; omega, ⟨_, _, _, rfl, kv9.kp⟩, hq8⟩
  ·have he : kids.isEmpty = true := by
    cases kids with
    | nil => rfl
    | cons a l => simp at hl5; omega
   rw [he, if_pos rfl, R.then_ok] at hq5
   skip
   refine QJ hG ?_
   refine c.expr aI (Nu hq5 (k:=fun t8 s8 h8 b8 n8 es8 ps8 fr8 kv8 hn8 hq8 => ?_))
   (try simp only [R.then_ok] at hq8)
   refine Mz (w:=QK ?_)
   have kvH := kv5.mono (S' := fun j => (h.next - 1) < j) (h' := (h8).alloc (.cells false (aG t8 b8 n8 es8))) aB (fun j hS hj => ⟨aB, bB⟩)
   have hbne := kvH.ne
   obtain ⟨old, hsa, hol, hold⟩ := kvH.sliceAt
   have hol2 : kids.length ≤ 1000000 := by omega
   apply WS.append
   (· rfl); (· rfl); (· exact aL); (· exact aL); (· rfl); (· rfl); (· intro k hk; cases hk); (· exact cE rfl); (· decide); (· exact aD); (· exact iC); (· rfl); (· unfold room; omega); (· rfl); (· exact hsa)
   intro h9 hn9 ho9 hf9
   simp only [UB, UC] at hn9 ho9 hf9
   have hk9 : ∀ j, j ≤ (h.next - 1) → h9.obj j = ((h8).alloc (.cells false (aG t8 b8 n8 es8))).obj j := fun j hj => hf9 j (by omega) (hbne j hj)
   have fr9 : cJ p h h9 := cJ.dC (H := (h8).alloc (.cells false (aG t8 b8 n8 es8))) aT aB fun j hj => hk9 j (by omega)
   have kv9 : KV h9 (fun j => (h.next - 1) < j) (some ⟨(h8).next + 1, 0, none⟩) (n5 + 1) 7 (kids ++ [t8]) := KV.snoc (h := (h8).alloc (.cells false (aG t8 b8 n8 es8))) (S2 := fun j => h5.next ≤ j ∧ j < (h8).next) hol (by omega) hold (kv8.kp) aB ho9 hf9 aB (fun x hx _ => by omega) (fun x hx hlt => ⟨by have := hx.1; omega, kv5.ge x hx.1⟩)
   have ps9 : cF h9 p L hd s8 := cF.dC (h := h8.alloc (.cells false (aG t8 b8 n8 es8))) aI aB fun j hj => hk9 j (by omega)
   refine Mb (w:=QL ?_)
   exact ih (m, kids ++ [t8], s8) _ _ (by simp) ⟨e0, e1, ps9, fr9, by simp; omega, ⟨_, _, _, rfl, kv9.kp⟩, hq8⟩
 ·rw [hb6, if_pos rfl, R.then_ok] at hq5
  refine Me (w:=QP (WC.exit (aH (QN (Ma (w:=MJ cG (w:=bS (L := L) (hd := hd) (s := s5) aI (ps5.wf.is ps5.at_ hb6) fun h7 ps7 fr7 => ?_)))))))
  have hn7 := nx fr7.1
  refine QO (Ma (w:=Mb (w:=QM ?_)))
  refine ⟨_, aM, ?_⟩
  exact hq5 _ _ aI aT ⟨_, _, _, rfl, kv5.kp⟩

theorem jF {fid : FuncId} {first cap : Array Value} {hd hd' : Bool} {s : St} {spec : R (List Nd)} (ps : cF h p L hd s) (en : ∀ vs, aQ Tryz.prog fid vs = some (.enter fid vs))
  (hcall : ∀ {h1 : aA} {Q1 : bR → Prop}, cF h1 p L hd' s → cJ p h h1 → bT (VK (fun j => h1.next ≤ j)) p L hd' h1 Q1 spec → aS Tryz.prog G X fid (first.toList ++ cap.toList) h1 Q1)
  (hq : bT (VK (fun j => h.next ≤ j)) p L hd h Q spec) :
  aS Tryz.prog G X 249 [pV p, .bool hd', .func (.func fid) first cap] h Q := by
 have hp := ps.lt
 rw [← R.dA spec] at hq
 obtain ⟨j, hj, ho, hl⟩ := ps.tok
 refine Wk Tryz.func249 Tryz.ntmps249 (w:=QN (Mb (w:=QO (Ma (w:=Mi (w:=Mj (w:=Mt (w:=Mb (w:=QO (Ma (w:=Ma (w:=Mi (w:=Mj (w:=Mv (w:=QO (Ma (w:=QK ?_)))))))))))))))))
 apply WS.uD (ws := first.toList ++ cap.toList); (· rfl); (· rfl); (· exact aL); (· rfl); (· simp); (· exact en)
 refine hcall (ps.self (j := j) aD hd' s ps.at_) (cJ.refl p h).self (bT.use (cJ.refl p h).self hq (fun _ _ x => x) fun t2 s2 h2 v2 ps2 fr2 hv2 hq2 => ?_)
 obtain ⟨b2, n2, es2, rfl, kv2⟩ := hv2
 have hn2 := fr2.1
 simp only [aA.aE] at hn2 kv2
 obtain ⟨j2, hj2, ho2, hl2⟩ := ps2.tok
 refine Mb (w:=QO (Ma (w:=Ma (w:=Mi (w:=Mj (w:=Mv (w:=QO (Ma (w:=Mb (w:=QM ?_))))))))))
 refine ⟨_, aM, ?_⟩
 refine hq2 _ _ ?_ ?_ ⟨_, _, _, rfl, kv2.kp⟩
 ·exact ps2.self (s := s2) (j := j2) aD hd s2 ps2.at_
 ·exact cJ.self ((cJ.refl p h).self.trans fr2)

theorem KV.of3 {S S' : Nat → Prop} {i : Nat} {cells : List Value} {t t2 t3 : Nd} {b b2 b3 : Option Addr} {n es n2 es2 n3 es3 : Nat} (ho : h.obj i = some (.cells false cells)) (hc : cells = aG t b n es ++ aG t2 b2 n2 es2 ++ aG t3 b3 n3 es3) (hi : S' i) (hlt : i < h.next) (hv : NV h S (aG t b n es) t) (hv2 : NV h S (aG t2 b2 n2 es2) t2) (hv3 : NV h S (aG t3 b3 n3 es3) t3)
  (hS : ∀ j, S j → j < h.next → S' j ∧ j ≠ i) : KV h S' (some ⟨i, 0, none⟩) 3 7 [t, t2, t3] := KV.three hi hlt (by rw [ho, hc]) hv hv2 hv3 hS
theorem NV.none (h : aA) (S : Nat → Prop) : NV h S (aG c5 none 0 0) c5 := .leaf _ _ _ _ _ _


theorem aIf {r : Rec} (c : qP r) {t : Tok} {tn : Nd} {bn : Option Addr} {nn esn lo hi x : Nat} {p : Nat} {L : List Tok} {hd : Bool} {s : St} {h : aA} {Q : bR → Prop} (ps : cF h p L hd s) (hlo : lo ≤ h.next) (hxn : x < h.next) (hpl : p < lo) (kvn : NV h (fun j => lo ≤ j ∧ j ≠ x ∧ j < hi) (aG tn bn nn esn) tn)
  (hq0 : bT (VN (fun j => lo ≤ j ∧ j ≠ x ∧ (j < hi ∨ h.next ≤ j))) p L hd h Q (l4 r t tn L hd s)) : aS Tryz.prog G X 253 [pV p, .agg t.cells.toArray, .agg (aG tn bn nn esn).toArray] h Q := by
 have hp := ps.lt
 unfold l4 at hq0
 refine Wk Tryz.func253 Tryz.ntmps253 (w:=QN (Mx (w:=Mx (w:=Mw (w:=QO (MJ oZ (w:=lB fun h1 g1 => ?_)))))))
 have hn1 := nx g1.1
 refine MJ oZ (w:=lB fun h2 g2 => ?_)
 have hn2 := nx g2.1
 refine Mw (w:=Mw (w:=Mv (w:=Mv (w:=QL (QU (QN (Ma (w:=My (w:=MJ c8 (w:=fB (L := L) (hd := hd) (s := s) (ts := [⟨#[58]⟩]) aI aD aB rfl (by first | decide | simp) fun h3 g3 => ?_))))))))))
 have hn3 := nx g3.1
 cases hb3 : cC L s [⟨#[58]⟩]
 ·simp only [hb3, Bool.false_eq_true, if_false] at hq0
  refine Me (w:=QQ (QN (Ma (w:=MJ hG (w:=c.expr aI (Nu hq0 (k:=fun t4 s4 h4 b4 n4 es4 ps4 fr4 kv4 hn4 hq4 => ?_)))))))
  refine Mv (w:=QO (Ma (w:=MJ nR (w:=nT (L := L) (hd := hd) (s := s4) aI fun h5 ps5 fr5 => ?_))))
  have hn5 := nx fr5.1
  unfold rG at ps5
  cases hb5 : cC L s4 [⟨#[93]⟩]
  ·rw [hb5, if_neg Bool.false_ne_true] at ps5 hq4
   refine QP (UA (QN (Ma (w:=MJ eI (w:=Wn (hd := hd) hq4 (k:=fun tk6 s6 h6 ps6 fr6 hn6 hq6 => ?_))))))
   refine QL (QU (QN (Ma (w:=My (w:=MJ c8 (w:=fB (L := L) (hd := hd) (s := s6) (ts := [⟨#[93]⟩]) aI aD aB rfl (by first | decide | simp) fun h7 g7 => ?_))))))
   have hn7 := nx g7.1
   cases hb7 : cC L s6 [⟨#[93]⟩]
   ·rw [hb7, if_neg Bool.false_ne_true] at hq6
    refine Me (w:=QQ (QV (Ma (w:=MJ hG (w:=c.expr aI (Nu hq6 (k:=fun t8 s8 h8 b8 n8 es8 ps8 fr8 kv8 hn8 hq8 => ?_)))))))
    refine Mv (w:=QO (Ma (w:=MJ eI (w:=Wn (hd := hd) hq8 (k:=fun tk9 s9 h9 ps9 fr9 hn9 hq9 => ?_)))))
    refine QO (Mu (w:=Mu (w:=Mu (w:=Mu (w:=Mz (w:=MJ bM (w:=bG fun h10 g10 => ?_)))))))
    have hn10 := nx g10.1
    refine Mv (w:=QM ?_)
    refine ⟨_, aM, ?_⟩
    refine hq9 _ _ aI aT ⟨_, _, _, rfl, NV.aZ ?_ _ _ _ _ _ _⟩
    apply KV.of3 (S := fun j => (lo ≤ j ∧ j ≠ x ∧ (j < hi ∨ h.next ≤ j)) ∧ j < h9.next)
    (· exact aD); (· rfl); (· exact aB); (· exact aB); (· exact (kvn.kp)); (· exact (kv4.kp)); (· exact (kv8.kp)); (· exact fun j hS hj => ⟨hS.1, by have := hS.2; exact aB⟩)
   ·rw [hb7, if_pos rfl, R.then_ok] at hq6
    refine Me (w:=QP (UA (QN (Ma (w:=MJ eI (w:=Wn (hd := hd) hq6 (k:=fun tk9 s9 h9 ps9 fr9 hn9 hq9 => ?_)))))))
    refine QO (Mu (w:=Mu (w:=Mu (w:=Mu (w:=Mz (w:=MJ bM (w:=bG fun h10 g10 => ?_)))))))
    have hn10 := nx g10.1
    refine Mv (w:=QM ?_)
    refine ⟨_, aM, ?_⟩
    refine hq9 _ _ aI aT ⟨_, _, _, rfl, NV.aZ ?_ _ _ _ _ _ _⟩
    apply KV.of3 (b3 := none) (n3 := 0) (es3 := 0) (S := fun j => (lo ≤ j ∧ j ≠ x ∧ (j < hi ∨ h.next ≤ j)) ∧ j < h9.next)
    (· exact aD); (· rfl); (· exact aB); (· exact aB); (· exact (kvn.kp)); (· exact (kv4.kp)); (· exact NV.none _ _); (· exact fun j hS hj => ⟨hS.1, by have := hS.2; exact aB⟩)
  ·rw [hb5, if_pos rfl] at ps5 hq4
   refine QQ (QN (Mu (w:=Mu (w:=Mu (w:=Mz (w:=MJ bM (w:=bG fun h6 g6 => ?_)))))))
   have hn6 := nx g6.1
   refine Mv (w:=QM ?_)
   refine ⟨_, aM, ?_⟩
   exact hq4 _ _ aI aT ⟨_, _, _, rfl, NV.aZ (KV.two (S := fun j => (lo ≤ j ∧ j ≠ x ∧ (j < hi ∨ h.next ≤ j)) ∧ j < h5.next) aB aB aD (kvn.kp) (kv4.kp) (fun j hS hj => ⟨hS.1, by have := hS.2; exact aB⟩)) _ _ _ _ _ _⟩
 ·simp only [hb3, if_true] at hq0
  refine Me (w:=QP (UA (QN (Ma (w:=MJ eI (w:=Wn (hd := hd) hq0 (k:=fun tk6 s6 h6 ps6 fr6 hn6 hq6 => ?_)))))))
  refine QL (QU (QN (Ma (w:=My (w:=MJ c8 (w:=fB (L := L) (hd := hd) (s := s6) (ts := [⟨#[93]⟩]) aI aD aB rfl (by first | decide | simp) fun h7 g7 => ?_))))))
  have hn7 := nx g7.1
  cases hb7 : cC L s6 [⟨#[93]⟩]
  ·rw [hb7, if_neg Bool.false_ne_true] at hq6
   refine Me (w:=QQ (QV (Ma (w:=MJ hG (w:=c.expr aI (Nu hq6 (k:=fun t8 s8 h8 b8 n8 es8 ps8 fr8 kv8 hn8 hq8 => ?_)))))))
   refine Mv (w:=QO (Ma (w:=MJ eI (w:=Wn (hd := hd) hq8 (k:=fun tk9 s9 h9 ps9 fr9 hn9 hq9 => ?_)))))
   refine QO (Mu (w:=Mu (w:=Mu (w:=Mu (w:=Mz (w:=MJ bM (w:=bG fun h10 g10 => ?_)))))))
   have hn10 := nx g10.1
   refine Mv (w:=QM ?_)
   refine ⟨_, aM, ?_⟩
   refine hq9 _ _ aI aT ⟨_, _, _, rfl, NV.aZ ?_ _ _ _ _ _ _⟩
   apply KV.of3 (S := fun j => (lo ≤ j ∧ j ≠ x ∧ (j < hi ∨ h.next ≤ j)) ∧ j < h9.next)
   (· exact aD); (· rfl); (· exact aB); (· exact aB); (· exact (kvn.kp)); (· exact (NV.none _ _)); (· exact (kv8.kp)); (· exact fun j hS hj => ⟨hS.1, by have := hS.2; exact aB⟩)
  ·rw [hb7, if_pos rfl, R.then_ok] at hq6
   refine Me (w:=QP (UA (QN (Ma (w:=MJ eI (w:=Wn (hd := hd) hq6 (k:=fun tk9 s9 h9 ps9 fr9 hn9 hq9 => ?_)))))))
   refine QO (Mu (w:=Mu (w:=Mu (w:=Mu (w:=Mz (w:=MJ bM (w:=bG fun h10 g10 => ?_)))))))
   have hn10 := nx g10.1
   refine Mv (w:=QM ?_)
   refine ⟨_, aM, ?_⟩
   refine hq9 _ _ aI aT ⟨_, _, _, rfl, NV.aZ ?_ _ _ _ _ _ _⟩
   apply KV.of3 (b3 := none) (n3 := 0) (es3 := 0) (S := fun j => (lo ≤ j ∧ j ≠ x ∧ (j < hi ∨ h.next ≤ j)) ∧ j < h9.next)
   (· exact aD); (· rfl); (· exact aB); (· exact aB); (· exact (kvn.kp)); (· exact (NV.none _ _)); (· exact NV.none _ _); (· exact fun j hS hj => ⟨hS.1, by have := hS.2; exact aB⟩)

theorem aD3 {s : St} (ps : cF h p L hd s) (hq0 : bT VU p L hd h Q (pL L s)) : aS Tryz.prog G X 259 [pV p] h Q := by
 have hp := ps.lt
 unfold pL at hq0
 refine Wk Tryz.func259 Tryz.ntmps259 (w:=QN (Ma (w:=My (w:=MJ c8 (w:=fB (L := L) (hd := hd) (s := s) (ts := [⟨#[125]⟩]) aI aD aB rfl (by first | decide | simp) fun h1 g1 => ?_)))))
 have hn1 := nx g1.1
 cases hb : cC L s [⟨#[125]⟩]
 ·rw [hb, if_neg Bool.false_ne_true] at hq0
  refine Me (w:=QQ (QV (Ma (w:=MJ eI (w:=Wn (hd := hd) hq0 (k:=fun tk2 s2 h2 ps2 fr2 hn2 hq2 => ?_))))))
  refine QL ?_
  refine ⟨_, aM, ?_⟩
  exact hq2 _ _ aI aT rfl
 ·rw [hb, if_pos rfl] at hq0
  refine Me (w:=QP (UA ?_))
  refine ⟨_, aM, ?_⟩
  exact hq0 _ _ aI aT rfl

theorem kF {r : Rec} {n i : Nat} (hn : n ≤ 1000000) (c : qP r) {p : Nat} {L : List Tok} {hd : Bool} {s : St} {h : aA} {Q : bR → Prop} (ps : cF h p L hd s) (ho : h.obj i = some (.cells false [pV p])) (hi : i < h.next) (hip : i ≠ p)
  (hq0 : bT (VK (fun j => h.next ≤ j)) p L hd h Q (eA n r ⟨#[41]⟩ L hd s)) : aS Tryz.prog G X 260 [.pointer (some ⟨i, 0, none⟩)] h Q := by
 have hp := ps.lt
 rw [← R.dA (eA n r _ L hd s)] at hq0
 refine Wk Tryz.func260 Tryz.ntmps260 (w:=QN (Mb (w:=QO (Mt (w:=MJ aL2 (w:=aEb hn c aI (bT.use aT hq0 (fun _ _ x => x) fun t1 s1 h1 v1 ps1 fr1 hv1 hq1 => ?_)))))))
 obtain ⟨b1, n1, es1, rfl, kv1⟩ := hv1
 have hn1 := fr1.1
 refine Mb (w:=QM ?_)
 refine ⟨_, aM, ?_⟩
 exact hq1 _ _ aI aT ⟨_, _, _, rfl, kv1⟩

theorem aDh {r : Rec} {n i : Nat} (hn : n ≤ 1000000) (c : qP r) {p : Nat} {L : List Tok} {hd : Bool} {s : St} {h : aA} {Q : bR → Prop} (ps : cF h p L hd s) (ho : h.obj i = some (.cells false [pV p])) (hi : i < h.next) (hip : i ≠ p)
  (hq0 : bT (VK (fun j => h.next ≤ j)) p L hd h Q (eA n r ⟨#[41]⟩ L hd s)) : aS Tryz.prog G X 250 [.pointer (some ⟨i, 0, none⟩)] h Q := by
 have hp := ps.lt
 rw [← R.dA (eA n r _ L hd s)] at hq0
 refine Wk Tryz.func250 Tryz.ntmps250 (w:=QN (Mb (w:=QO (Mt (w:=MJ aL2 (w:=aEb hn c aI (bT.use aT hq0 (fun _ _ x => x) fun t1 s1 h1 v1 ps1 fr1 hv1 hq1 => ?_)))))))
 obtain ⟨b1, n1, es1, rfl, kv1⟩ := hv1
 have hn1 := fr1.1
 refine Mb (w:=QM ?_)
 refine ⟨_, aM, ?_⟩
 exact hq1 _ _ aI aT ⟨_, _, _, rfl, kv1⟩

theorem aLg {t : Nd} {b : Option Addr} {n es : Nat} (hq : ∀ h', Gr h h' → Q (.ret (.bool (qB t)) h')) : aS Tryz.prog G X 254 [.agg (aG t b n es).toArray] h Q := by
  refine Wk Tryz.func254 Tryz.ntmps254 (w:=QN (Mx (w:=Mb (w:=QO (Mj (w:=Mt (w:=MB (w:=fun hh => Ma (w:=MA (w:=MA (w:=MA (w:=Mc (w:=Mb (w:=QM ?_))))))) (v:=fun hh => Ma (w:=Mj (w:=Mt (w:=MB (w:=fun hh => Md (w:=Mb (w:=QM ?_))) (v:=fun hh => Md (w:=Mb (w:=QM ?_))))))))))))))
  all_goals first
    | (have e : qB t = true := by (unfold qB; simp [*]; done)
       rw [e] at hq; ((apply Exists.intro; apply And.intro; (· repeat (first | exact dO | (apply dV; (· (first | rfl | assumption))) | (apply cW; (· (first | rfl | assumption)); (· rfl); (· exact fF rfl); (· (exact aD)); (· (first | (exact Nat.le_of_ble_eq_true rfl) | (simp; done) | omega)); (· rfl)) | (apply cX; (· (first | rfl | assumption)); (· rfl); (· (exact aD)); (· rfl)))))); exact hq _ fG)
    | (have e : qB t = false := by (unfold qB; simp [*]; done)
       rw [e] at hq; ((apply Exists.intro; apply And.intro; (· repeat (first | exact dO | (apply dV; (· (first | rfl | assumption))) | (apply cW; (· (first | rfl | assumption)); (· rfl); (· exact fF rfl); (· (exact aD)); (· (first | (exact Nat.le_of_ble_eq_true rfl) | (simp; done) | omega)); (· rfl)) | (apply cX; (· (first | rfl | assumption)); (· rfl); (· (exact aD)); (· rfl)))))); exact hq _ fG)

theorem aAn {t : Nd} {b : Option Addr} {n es : Nat} (hq : ∀ h', Gr h h' → Q (.ret (.bool (fX t)) h')) : aS Tryz.prog G X 233 [.agg (aG t b n es).toArray] h Q := by
 refine Wk Tryz.func233 Tryz.ntmps233 (w:=QN (Mx (w:=Mb (w:=QO (Mj (w:=Mt (w:=MD (w:=fun hh => Ma (w:=MA (w:=MA (w:=MA (w:=MA (w:=MA (w:=MA (w:=MA (w:=MA (w:=Mc (w:=Mb (w:=QM ?_)))))))))))) (v:=fun hh => Ma (w:=Mj (w:=Mt (w:=MD (w:=fun hh => Ma (w:=Mu (w:=QK ?_))) (v:=fun hh => Ma (w:=MA (w:=MA (w:=MA (w:=Md (w:=Md (w:=Mb (w:=QM ?_)))))))))))))))))))
 ·have e : fX t = true := by (unfold fX; simp [*])
  rw [e] at hq; ((apply Exists.intro; apply And.intro; (· repeat (first | exact dO | (apply dV; (· (first | rfl | assumption))) | (apply cW; (· (first | rfl | assumption)); (· rfl); (· exact fF rfl); (· (exact aD)); (· (first | (exact Nat.le_of_ble_eq_true rfl) | (simp; done) | omega)); (· rfl)) | (apply cX; (· (first | rfl | assumption)); (· rfl); (· (exact aD)); (· rfl)))))); exact hq _ fG
 ·refine QJ aPo ?_
  refine aLg fun h1 g1 => ?_
  have g0 : Gr h h1 := (Gr.alloc _ _).trans g1
  have e : fX t = !qB t := by (unfold fX; simp [*])
  rw [e] at hq
  refine Me (w:=Mc (w:=Md (w:=Mb (w:=QM ?_))))
  ((apply Exists.intro; apply And.intro; (· repeat (first | exact dO | (apply dV; (· (first | rfl | assumption))) | (apply cW; (· (first | rfl | assumption)); (· rfl); (· exact fF rfl); (· (exact aD)); (· (first | (exact Nat.le_of_ble_eq_true rfl) | (simp; done) | omega)); (· rfl)) | (apply cX; (· (first | rfl | assumption)); (· rfl); (· (exact aD)); (· rfl)))))); exact hq _ fG
 ·have e : fX t = false := by (unfold fX; simp [*])
  rw [e] at hq; ((apply Exists.intro; apply And.intro; (· repeat (first | exact dO | (apply dV; (· (first | rfl | assumption))) | (apply cW; (· (first | rfl | assumption)); (· rfl); (· exact fF rfl); (· (exact aD)); (· (first | (exact Nat.le_of_ble_eq_true rfl) | (simp; done) | omega)); (· rfl)) | (apply cX; (· (first | rfl | assumption)); (· rfl); (· (exact aD)); (· rfl)))))); exact hq _ fG

theorem aB8 {t : Nd} {b : Option Addr} {n es : Nat} (hq : ∀ h', Gr h h' → Q (.ret (.bool (fA t)) h')) : aS Tryz.prog G X 255 [.agg (aG t b n es).toArray] h Q := by
  refine Wk Tryz.func255 Tryz.ntmps255 (w:=QN (Mx (w:=Mb (w:=QO (Mj (w:=Mt (w:=MD (w:=fun hh => Ma (w:=MA (w:=MA (w:=MA (w:=Mc (w:=Ma (w:=MA (w:=MA (w:=MA (w:=Mc (w:=Mb (w:=QM ?_)))))))))))) (v:=fun hh => Ma (w:=Mj (w:=Mt (w:=MD (w:=fun hh => Md (w:=Ma (w:=MA (w:=MA (w:=MA (w:=Mc (w:=Mb (w:=QM ?_)))))))) (v:=fun hh => Md (w:=Ma (w:=Mj (w:=Mt (w:=MD (w:=fun hh => Md (w:=Mb (w:=QM ?_))) (v:=fun hh => Md (w:=Mb (w:=QM ?_)))))))))))))))))))
  all_goals first
    | (have e : fA t = true := by (unfold fA; simp [*]; done)
       rw [e] at hq; ((apply Exists.intro; apply And.intro; (· repeat (first | exact dO | (apply dV; (· (first | rfl | assumption))) | (apply cW; (· (first | rfl | assumption)); (· rfl); (· exact fF rfl); (· (exact aD)); (· (first | (exact Nat.le_of_ble_eq_true rfl) | (simp; done) | omega)); (· rfl)) | (apply cX; (· (first | rfl | assumption)); (· rfl); (· (exact aD)); (· rfl)))))); exact hq _ fG)
    | (have e : fA t = false := by (unfold fA; simp [*]; done)
       rw [e] at hq; ((apply Exists.intro; apply And.intro; (· repeat (first | exact dO | (apply dV; (· (first | rfl | assumption))) | (apply cW; (· (first | rfl | assumption)); (· rfl); (· exact fF rfl); (· (exact aD)); (· (first | (exact Nat.le_of_ble_eq_true rfl) | (simp; done) | omega)); (· rfl)) | (apply cX; (· (first | rfl | assumption)); (· rfl); (· (exact aD)); (· rfl)))))); exact hq _ fG)

end Go.Proofs.ZL
end
