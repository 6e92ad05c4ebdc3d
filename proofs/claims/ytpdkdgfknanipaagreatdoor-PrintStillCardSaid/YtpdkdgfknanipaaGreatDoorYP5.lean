/- The parser, fifth part: clauses and loops. -/
import Derived.Test.YtpdkdgfknanipaaGreatDoorYP4
section
open Go Go.Am
namespace Go.Proofs.ZL
set_option maxRecDepth 100000
set_option linter.unusedSimpArgs false
set_option linter.unusedVariables false
set_option maxHeartbeats 4000000
theorem lV {r : Rec} (c : qP r) : CN 247 (fJ r) := by
 intro p L hd s h Q ps hq0
 have hp := ps.lt
 unfold fJ at hq0
 refine Wk Tryz.func247 Tryz.ntmps247 (w:=QN (Mw (w:=QO (Ma (w:=MJ eI (w:=Wn (hd := hd) hq0 (k:=fun tk1 s1 h1 ps1 fr1 hn1 hq1 => ?_)))))))
 refine Mw (w:=Mv (w:=QL (QU (Gd [⟨0, .read, 0⟩, ⟨1, .pure, 0⟩, ⟨2, .aF, 2⟩, ⟨3, .aF, 7⟩, ⟨4, .aF, 15⟩] (w:=Ru (w:=Da (w:=?_)))))));refine WD.aF hX (hw := ?_)
 refine QJ aLt ?_
 refine c.stmts aI (Nuk hq1 (k:=fun t2 s2 h2 b2 n2 es2 ps2 fr2 kv2 hn2 hq2 => ?_))
 refine WD.aF hX (hw := ?_)
 refine QJ bM ?_
 refine bG fun h3 g3 => ?_
 have hn3 := nx g3.1
 refine WD.aF hX (hw := Qv ?_);refine WD.nil (hq:=WC.ret ?_)
 refine ⟨_, aM, ?_⟩
 refine hq2 _ _ aI aT ⟨_, _, _, rfl, NV.aZ ?_ _ _ _ _ _ _⟩
 exact (kv2.kp)

theorem aGq {r : Rec} (c : qP r) : CN 211 (mG r) := by
 intro p L hd s h Q ps hq0
 have hp := ps.lt
 unfold mG at hq0
 simp only at hq0
 by_cases h6 : (aK L s.k).kind = 6
 ·rw [if_pos h6] at hq0; exact hq0.elim
 rw [if_neg h6] at hq0
 have hm : s.k + 1 < L.length := ps.wf.more ps.at_ h6
 refine Wk Tryz.func211 Tryz.ntmps211 (w:=QN (Mw (w:=QO (Ma (w:=MJ cG (w:=bS (L := L) (hd := hd) (s := s) aI (hm) fun h2 ps2 fr2 => ?_))))))
 have hn2 := nx fr2.1
 generalize aK L s.k = tk at *
 refine Mw (w:=Mv (w:=QO (Ma (w:=Ma (w:=Mp (w:=MJ nQ (w:=?_)))))))
 refine gS (hd := hd) (hd' := true) (spec := r.expr L true s.next) aI hG (fun {h3 Q3} ps3 fr3 hq3 => c.expr ps3 hq3) (Nu hq0 (k:=fun t3 s3 h3 b3 n3 es3 ps3 fr3 kv3 hn3 hq3 => ?_))
 refine Mw (w:=Mv (w:=QO (Ma (w:=MJ yP (w:=c.block aI (Nu hq3 (k:=fun t4 s4 h4 b4 n4 es4 ps4 fr4 kv4 hn4 hq4 => ?_)))))))
 refine MJ oZ (w:=lB fun h5 g5 => ?_)
 have hn5 := nx g5.1
 refine Mw (w:=Mw (w:=Mv (w:=Mv (w:=QL (QU (QN (Ma (w:=MJ nR (w:=nT (L := L) (hd := hd) (s := s4) aI fun h6 ps6 fr6 => ?_)))))))))
 have hn6 := nx fr6.1
 unfold rG at ps6
 cases hb6 : cC L s4 [⟨#[101, 108, 115, 101]⟩]
 ·rw [hb6, if_neg Bool.false_ne_true] at ps6 hq4
  rw [R.then_ok] at hq4
  refine QP (UA (QN (Mu (w:=Mu (w:=Mu (w:=Mu (w:=Mz (w:=MJ bM (w:=bG fun h12 g12 => ?_)))))))))
  have hn12 := nx g12.1
  refine Mv (w:=QM ?_)
  refine ⟨_, aM, ?_⟩
  refine hq4 _ _ aI aT ⟨_, _, _, rfl, NV.aZ ?_ _ _ _ _ _ _⟩
  apply KV.of3 (b3 := none) (n3 := 0) (es3 := 0) (S := fun j => h.next ≤ j ∧ j < h4.next)
  (· exact aD); (· rfl); (· exact aB); (· exact aB); (· exact (kv3.kp)); (· exact (kv4.kp)); (· exact NV.none _ _); (· exact fun j hS hj => ⟨hS.1, by have := hS.2; exact aB⟩)
 ·rw [hb6, if_pos rfl] at ps6 hq4

  refine QQ (Bk (QN (Ma (w:=My (w:=MJ c8 (w:=fB (L := L) (hd := hd) (s := s4.next) (ts := [⟨#[105, 102]⟩]) aI aD aB rfl (by first | decide | simp) fun h7 g7 => ?_))))))
  have hn7 := nx g7.1
  cases hb7 : cC L s4.next [⟨#[105, 102]⟩]
  ·rw [hb7, if_neg Bool.false_ne_true] at hq4
   refine Mb (w:=QP (QV (Ma (w:=MJ yP (w:=c.block aI (Nu hq4 (k:=fun t8 s8 h8 b8 n8 es8 ps8 fr8 kv8 hn8 hq8 => ?_)))))))
   refine Mv (w:=QO (Mu (w:=Mu (w:=Mu (w:=Mu (w:=Mz (w:=MJ bM (w:=bG fun h12 g12 => ?_))))))))
   have hn12 := nx g12.1
   refine Mv (w:=QM ?_)
   refine ⟨_, aM, ?_⟩
   refine hq8 _ _ aI aT ⟨_, _, _, rfl, NV.aZ ?_ _ _ _ _ _ _⟩
   apply KV.of3 (t3 := t8) (S := fun j => h.next ≤ j ∧ j < h8.next)
   (· exact aD); (· rfl); (· exact aB); (· exact aB); (· exact (kv3.kp)); (· exact (kv4.kp)); (· exact (kv8.kp)); (· exact fun j hS hj => ⟨hS.1, by have := hS.2; exact aB⟩)
  ·rw [hb7, if_pos rfl] at hq4
   refine Mb (w:=QQ (QV (Ma (w:=MJ aLw (w:=c.branch aI (Nu hq4 (k:=fun t8 s8 h8 b8 n8 es8 ps8 fr8 kv8 hn8 hq8 => ?_)))))))
   refine Mv (w:=QO (Mu (w:=Mu (w:=Mu (w:=Mu (w:=Mz (w:=MJ bM (w:=bG fun h12 g12 => ?_))))))))
   have hn12 := nx g12.1
   refine Mv (w:=QM ?_)
   refine ⟨_, aM, ?_⟩
   refine hq8 _ _ aI aT ⟨_, _, _, rfl, NV.aZ ?_ _ _ _ _ _ _⟩
   apply KV.of3 (t3 := t8) (S := fun j => h.next ≤ j ∧ j < h8.next)
   (· exact aD); (· rfl); (· exact aB); (· exact aB); (· exact (kv3.kp)); (· exact (kv4.kp)); (· exact (kv8.kp)); (· exact fun j hS hj => ⟨hS.1, by have := hS.2; exact aB⟩)


theorem tE {n : Nat} (hn : n ≤ 1000000) {one : PF Nd} {fid : FuncId} (en : ∀ vs, aQ Tryz.prog fid vs = some (.enter fid vs)) (hone : CN fid one) {p : Nat} {L : List Tok} {hd : Bool} {s : St} {h : aA} {Q : bR → Prop} (ps : cF h p L hd s)
  (hq0 : bT (VK (fun j => h.next ≤ j)) p L hd h Q (gL n one L hd s)) : aS Tryz.prog G X 229 [pV p, .func (.func fid) #[pV p] #[]] h Q := by
 have hp := ps.lt
 unfold gL at hq0
 refine Wk Tryz.func229 Tryz.ntmps229 (w:=QN (Mb (w:=QO (Ma (w:=MJ eI (w:=Wn (hd := hd) hq0 (k:=fun tk1 s1 h1 ps1 fr1 hn1 hq1 => ?_)))))))
 refine QO (Mb (w:=QL (QU (Bk ?_))))
 refine WC.cB hX (α := Nat × List Nd × St) (m := fun a => a.1) (Inv := fun a v h' => v 0 = some (pV p) ∧ v 1 = some (.func (.func fid) #[pV p] #[]) ∧ cF h' p L hd a.2.2 ∧ cJ p h h' ∧
  a.1 + a.2.1.length ≤ n ∧ (∃ b n es, v 5 = some (.slice b n es) ∧ KV h' (fun j => h.next ≤ j) b n es a.2.1) ∧
  bT (VK (fun j => h.next ≤ j)) p L hd h Q ((dI L [⟨#[125]⟩] (fun out s => (one L false s).then fun x s => .ok (out ++ [x]) s) a.1 a.2.1 a.2.2).then fun out s => .ok out s.next))
  (n, [], s1) ⟨rfl, rfl, aI, aT, by simp, ⟨none, 0, 0, rfl, KV.nil _ _⟩, hq1⟩ ?_
 rintro ⟨m, kids, s5⟩ env h5 ih ⟨e0, e1, ps5, fr5, hm5, ⟨b5, n5, es5, e5, kv5⟩, hq5⟩
 simp only at ps5 hm5 kv5 hq5
 have hnn5 := fr5.1
 obtain ⟨m, rfl⟩ : ∃ m', m = m' + 1 := by
  cases m with
  | zero => exact hq5.elim
  | succ m => exact ⟨m, rfl⟩
 unfold dI at hq5
 have hl5 := kv5.len
 refine QU (QN (Ma (w:=My (w:=MJ c8 (w:=fB (L := L) (hd := hd) (s := s5) (ts := [⟨#[125]⟩]) aI aD aB rfl (by first | decide | simp) fun h6 g6 => ?_)))))
 have hn6 := nx g6.1
 cases hb6 : cC L s5 [⟨#[125]⟩]
 ·rw [hb6, if_neg Bool.false_ne_true] at hq5
  simp only [R.then_assoc] at hq5
  refine Me (w:=QQ (UA (Bk (QV (Ma (w:=Ma (w:=Ma (w:=MJ nQ (w:=?_)))))))))
  refine gS (L := L) (s := s5) (hd := hd) (hd' := false) (spec := one L false s5) aI en (fun {h7 Q7} ps7 fr7 hq7 => hone ps7 hq7) (Nu hq5 (k:=fun t8 s8 h8 b8 n8 es8 ps8 fr8 kv8 hn8 hq8 => ?_))
  rw [R.then_ok] at hq8
  refine Mz (w:=QK ?_)
  have kvH := kv5.mono (S' := fun j => (h.next - 1) < j) (h' := (h8).alloc (.cells false (aG t8 b8 n8 es8))) aB (fun j hS hj => ⟨aB, bB⟩)
  have hbne := kvH.ne
  obtain ⟨old, hsa, hol, hold⟩ := kvH.sliceAt
  have hol2 : kids.length ≤ 1000000 := by omega
  apply WS.append
  (· rfl); (· rfl); (· exact aL); (· exact aL); (· rfl); (· rfl); (· intro k hk; cases hk); (· exact cE rfl); (· decide); (· exact aD); (· exact iC); (· rfl); (· unfold room; omega); (· rfl); (· exact hsa)
  intro h9 hn9 ho9 hf9
  simp only [UB, UC] at hn9 ho9 hf9
  have hk9 : ∀ j, j ≤ (h.next - 1) → h9.obj j = ((h8).alloc (.cells false (aG t8 b8 n8 es8))).obj j := fun j hj => hf9 j (by omega) (hbne j hj)
  have fr9 : cJ p h h9 := cJ.dC (H := (h8).alloc (.cells false (aG t8 b8 n8 es8))) aT aB fun j hj => hk9 j (by omega)
  have kv9 : KV h9 (fun j => (h.next - 1) < j) (some ⟨(h8).next + 1, 0, none⟩) (n5 + 1) 7 (kids ++ [t8]) := KV.snoc (h := (h8).alloc (.cells false (aG t8 b8 n8 es8))) (S2 := fun j => h5.next ≤ j ∧ j < (h8).next) hol (by omega) hold (kv8.kp) aB ho9 hf9 aB (fun x hx _ => by omega) (fun x hx hlt => ⟨by have := hx.1; omega, kv5.ge x hx.1⟩)
  have ps9 : cF h9 p L hd s8 := cF.dC (h := h8.alloc (.cells false (aG t8 b8 n8 es8))) aI aB fun j hj => hk9 j (by omega)
  refine Mb (w:=QL ?_)
  exact ih (m, kids ++ [t8], s8) _ _ (by simp) ⟨e0, e1, ps9, fr9, by simp; omega, ⟨_, _, _, rfl, kv9.kp⟩, hq8⟩
 ·rw [hb6, if_pos rfl] at hq5
  rw [R.then_ok] at hq5
  refine Me (w:=QP (WC.exit (aH (QN (Ma (w:=MJ cG (w:=bS (L := L) (hd := hd) (s := s5) aI (ps5.wf.is ps5.at_ hb6) fun h7 ps7 fr7 => ?_)))))))
  have hn7 := nx fr7.1
  refine QO (Ma (w:=Mb (w:=QM ?_)))
  refine ⟨_, aM, ?_⟩
  exact hq5 _ _ aI aT ⟨_, _, _, rfl, kv5.kp⟩

theorem aAp {r : Rec} {n : Nat} (hn : n ≤ 1000000) (c : qP r) : CN 230 (mH n r) := by
 intro p L hd s h Q ps hq0
 have hp := ps.lt
 unfold mH at hq0
 simp only at hq0
 refine Wk Tryz.func230 Tryz.ntmps230 (w:=QN (Mw (w:=QO (Ma (w:=MJ rB (w:=iU (L := L) (hd := hd) (s := s) aI fun h1 g1 => ?_))))))
 have hn1 := nx g1.1
 generalize aK L s.k = tk at *
 refine Mw (w:=Mv (w:=QL (QU (QN (Ma (w:=MJ nR (w:=nT (L := L) (hd := hd) (s := s) aI fun h2 ps2 fr2 => ?_)))))))
 have hn2 := nx fr2.1
 unfold rG at ps2
 cases hb2 : cC L s [⟨#[100, 101, 102, 97, 117, 108, 116]⟩]
 ·rw [hb2, if_neg Bool.false_ne_true] at ps2 hq0
  refine QP (UA (QN (Ma (w:=MJ eI (w:=Wn (hd := hd) hq0 (k:=fun tk3 s3 h3 ps3 fr3 hn3 hq3 => ?_))))))
  refine QO (Ma (w:=MJ hG (w:=c.expr aI (Nu hq3 (k:=fun t4 s4 h4 b4 n4 es4 ps4 fr4 kv4 hn4 hq4 => ?_)))))
  refine Mz (w:=Mb (w:=QL (QU (Bk ?_))))
  refine WC.cB hX (α := Nat × List Nd × St) (m := fun a => a.1) (Inv := fun a e h' => e 0 = some (pV p) ∧ e 2 = some (.pointer (some ⟨h.next, 0, none⟩)) ∧ e 3 = some (.pointer (some ⟨h1.next, 0, none⟩)) ∧ cF h' p L hd a.2.2 ∧ cJ p h h' ∧
   h'.obj h.next = some (Z0) ∧ h'.obj h1.next = some (.cells false tk.cells) ∧ h1.next < h'.next ∧ a.1 + a.2.1.length ≤ n + 1 ∧ (∃ b n es, e 4 = some (.slice b n es) ∧ KV h' (fun j => h1.next < j) b n es a.2.1) ∧
   bT (VN fun j => h.next ≤ j) p L hd h Q ((jO r L hd a.1 a.2.1 a.2.2).then fun kids s => (fJ r L hd s).then fun b s => .ok (nd 24 tk ⟨#[99, 97, 115, 101]⟩ (kids ++ [b])) s))
   (n, [t4], s4) ⟨rfl, rfl, rfl, aI, aT, aD, aD, aB, by simp, ⟨some ⟨h4.next, 0, none⟩, 1, 7, rfl, KV.one (S := fun j => h1.next < j ∧ j < h4.next) aB aB aD (kv4.kp) (fun j hS hj => ⟨hS.1, by have := hS.2; exact aB⟩)⟩, hq4⟩ ?_
  rintro ⟨m, kids, s5⟩ env h5 ih ⟨e0, e2, e3, ps5, fr5, hoz, hot, hn5, hm5, ⟨b5, n5, es5, e5, kv5⟩, hq5⟩
  simp only at ps5 hm5 kv5 hq5
  have hnn5 := fr5.1
  obtain ⟨m, rfl⟩ : ∃ m', m = m' + 1 := by
   cases m with
   | zero => exact hq5.elim
   | succ m => exact ⟨m, rfl⟩
  unfold jO at hq5
  have hl5 := kv5.len
  refine QU (QN (Ma (w:=MJ nR (w:=nT (L := L) (hd := hd) (s := s5) aI fun h6 ps6 fr6 => ?_))))
  have hn6 := nx fr6.1
  unfold rG at ps6
  cases hb6 : cC L s5 [⟨#[44]⟩]
  ·rw [hb6, if_neg Bool.false_ne_true] at ps6 hq5
   rw [R.then_ok] at hq5
   refine QP (WC.exit (aH (QU (Gd [⟨0, .read, 0⟩, ⟨1, .pure, 0⟩, ⟨2, .pure, 0⟩, ⟨3, .aF, 4⟩, ⟨4, .alloc, 12⟩, ⟨5, .aF, 30⟩, ⟨6, .aF, 63⟩, ⟨7, .aF, 127⟩] (w:=Ru (w:=Da (w:=Da (w:=?_))))))));refine WD.aF hX (hw := ?_)
   refine QJ wJ ?_
   refine lV c aI (Nu hq5 (k:=fun t8 s8 h8 b8 n8 es8 ps8 fr8 kv8 hn8 hq8 => ?_))
   refine WD.alloc (hw := Qz ?_);refine WD.aF hX (hw := ?_)
   have kvH := kv5.mono (S' := fun j => h1.next < j) (h' := (h8).alloc (.cells false (aG t8 b8 n8 es8))) aB (fun j hS hj => ⟨aB, bB⟩)
   have hbne := kvH.ne
   obtain ⟨old, hsa, hol, hold⟩ := kvH.sliceAt
   have hol2 : kids.length ≤ 1000000 := by omega
   apply WS.append
   (· rfl); (· rfl); (· exact aL); (· exact aL); (· rfl); (· rfl); (· intro k hk; cases hk); (· exact cE rfl); (· decide); (· exact aD); (· exact iC); (· rfl); (· unfold room; omega); (· rfl); (· exact hsa)
   intro h9 hn9 ho9 hf9
   simp only [UB, UC] at hn9 ho9 hf9
   have hk9 : ∀ j, j ≤ h1.next → h9.obj j = ((h8).alloc (.cells false (aG t8 b8 n8 es8))).obj j := fun j hj => hf9 j (by omega) (hbne j hj)
   have fr9 : cJ p h h9 := cJ.dC (H := (h8).alloc (.cells false (aG t8 b8 n8 es8))) aT aB fun j hj => hk9 j (by omega)
   have kv9 : KV h9 (fun j => h1.next < j) (some ⟨(h8).next + 1, 0, none⟩) (n5 + 1) 7 (kids ++ [t8]) := KV.snoc (h := (h8).alloc (.cells false (aG t8 b8 n8 es8))) (S2 := fun j => h5.next ≤ j ∧ j < (h8).next) hol (by omega) hold (kv8.kp) aB ho9 hf9 aB (fun x hx _ => by omega) (fun x hx hlt => ⟨by have := hx.1; omega, kv5.ge x hx.1⟩)
   have ps9 : cF h9 p L hd s8 := cF.dC (h := h8.alloc (.cells false (aG t8 b8 n8 es8))) aI aB fun j hj => hk9 j (by omega)
   have ho9z : h9.obj h.next = some (Z0) := (hk9 _ (by omega)).trans aD
   have ho9t : h9.obj h1.next = some (.cells false tk.cells) := (hk9 _ (by omega)).trans aD
   refine WD.aF hX (hw := ?_)
   refine QJ bM ?_
   refine bG fun h10 g10 => ?_
   have hn10 := nx g10.1
   refine WD.aF hX (hw := Qv ?_);refine WD.nil (hq:=WC.ret ?_)
   refine ⟨_, aM, ?_⟩
   refine hq8 _ _ aI aT ⟨_, _, _, rfl, NV.aZ ?_ _ _ _ _ _ _⟩
   exact (kv9.kp)
  ·rw [hb6, if_pos rfl] at ps6 hq5
   simp only [R.then_assoc] at hq5
   refine QQ (UA (Bk (QV (Ma (w:=Ma (w:=MJ hG (w:=c.expr aI (Nu hq5 (k:=fun t8 s8 h8 b8 n8 es8 ps8 fr8 kv8 hn8 hq8 => ?_)))))))))
   refine Mz (w:=QK ?_)
   have kvH := kv5.mono (S' := fun j => h1.next < j) (h' := (h8).alloc (.cells false (aG t8 b8 n8 es8))) aB (fun j hS hj => ⟨aB, bB⟩)
   have hbne := kvH.ne
   obtain ⟨old, hsa, hol, hold⟩ := kvH.sliceAt
   have hol2 : kids.length ≤ 1000000 := by omega
   apply WS.append
   (· rfl); (· rfl); (· exact aL); (· exact aL); (· rfl); (· rfl); (· intro k hk; cases hk); (· exact cE rfl); (· decide); (· exact aD); (· exact iC); (· rfl); (· unfold room; omega); (· rfl); (· exact hsa)
   intro h9 hn9 ho9 hf9
   simp only [UB, UC] at hn9 ho9 hf9
   have hk9 : ∀ j, j ≤ h1.next → h9.obj j = ((h8).alloc (.cells false (aG t8 b8 n8 es8))).obj j := fun j hj => hf9 j (by omega) (hbne j hj)
   have fr9 : cJ p h h9 := cJ.dC (H := (h8).alloc (.cells false (aG t8 b8 n8 es8))) aT aB fun j hj => hk9 j (by omega)
   have kv9 : KV h9 (fun j => h1.next < j) (some ⟨(h8).next + 1, 0, none⟩) (n5 + 1) 7 (kids ++ [t8]) := KV.snoc (h := (h8).alloc (.cells false (aG t8 b8 n8 es8))) (S2 := fun j => h5.next ≤ j ∧ j < (h8).next) hol (by omega) hold (kv8.kp) aB ho9 hf9 aB (fun x hx _ => by omega) (fun x hx hlt => ⟨by have := hx.1; omega, kv5.ge x hx.1⟩)
   have ps9 : cF h9 p L hd s8 := cF.dC (h := h8.alloc (.cells false (aG t8 b8 n8 es8))) aI aB fun j hj => hk9 j (by omega)
   have ho9z : h9.obj h.next = some (Z0) := (hk9 _ (by omega)).trans aD
   have ho9t : h9.obj h1.next = some (.cells false tk.cells) := (hk9 _ (by omega)).trans aD
   refine Mb (w:=QL ?_)
   exact ih (m, kids ++ [t8], s8) _ _ (by simp) ⟨e0, e2, e3, ps9, fr9, ho9z, ho9t, aB, by simp; omega, ⟨_, _, _, rfl, kv9.kp⟩, hq8⟩
 ·rw [hb2, if_pos rfl] at ps2 hq0
  refine QQ (QU (Gd [⟨0, .read, 0⟩, ⟨1, .pure, 0⟩, ⟨2, .aF, 2⟩, ⟨3, .alloc, 6⟩, ⟨4, .aF, 15⟩, ⟨5, .aF, 31⟩] (w:=Ru (w:=Da (w:=?_)))));refine WD.aF hX (hw := ?_)
  refine QJ wJ ?_
  refine lV c aI (Nu hq0 (k:=fun t8 s8 h8 b8 n8 es8 ps8 fr8 kv8 hn8 hq8 => ?_))
  refine WD.alloc (hw := Qz ?_);refine WD.aF hX (hw := ?_)
  refine QJ bM ?_
  refine bG fun h5 g5 => ?_
  have hn5 := nx g5.1
  refine WD.aF hX (hw := Qv ?_);refine WD.nil (hq:=WC.ret ?_)
  refine ⟨_, aM, ?_⟩
  refine hq8 _ _ aI aT ⟨_, _, _, rfl, NV.aZ ?_ _ _ _ _ _ _⟩
  exact (KV.one (S := fun j => h.next ≤ j ∧ j < h8.next) aB aB aD (kv8.kp) (fun j hS hj => ⟨hS.1, by have := hS.2; exact aB⟩))

theorem aMp {r : Rec} (c : qP r) : CN 231 (uE r) := by
 intro p L hd s h Q ps hq0
 have hp := ps.lt
 unfold uE at hq0
 simp only at hq0
 refine Wk Tryz.func231 Tryz.ntmps231 (w:=QN (Mw (w:=QO (Ma (w:=MJ rB (w:=iU (L := L) (hd := hd) (s := s) aI fun h1 g1 => ?_))))))
 have hn1 := nx g1.1
 generalize aK L s.k = tk at *
 refine Mw (w:=Mv (w:=QL (QU (QN (Ma (w:=MJ nR (w:=nT (L := L) (hd := hd) (s := s) aI fun h2 ps2 fr2 => ?_)))))))
 have hn2 := nx fr2.1
 unfold rG at ps2
 cases hb2 : cC L s [⟨#[100, 101, 102, 97, 117, 108, 116]⟩]
 ·rw [hb2, if_neg Bool.false_ne_true] at ps2 hq0
  refine QP (UA (QN (Ma (w:=MJ eI (w:=Wn (hd := hd) hq0 (k:=fun tk3 s3 h3 ps3 fr3 hn3 hq3 => ?_))))))
  refine QO (Mb (w:=QL (QU (QN (Ma (w:=MJ rB (w:=iU (L := L) (hd := hd) (s := s3) aI fun h4 g4 => ?_)))))))
  have hn4 := nx g4.1
  have hz := ps.wf.size
  have hks := ps3.at_
  obtain ⟨j, hj, hop, hol⟩ := ps3.tok
  have hmm : (aK L s3.k).kind ≠ 6 → s3.k + 1 < L.length := ps3.wf.more hks
  have hm5 : (aK L (s3.k + 1)).kind = 5 → s3.k + 1 < L.length → s3.k + 2 < L.length := fun h5 hm => ps3.wf.more hm (by omega)
  have ck := fun hm => yJ (L := L) (s := s3) hm
  have ct := fun hm => yK (L := L) (s := s3) hm
  unfold jR at hq3
  generalize aK L s3.k = t5 at *
  generalize aK L (s3.k + 1) = t6 at *
  refine Mw (w:=Mv (w:=QL (QU ?_)))
  refine WC.cut (N' := fun e h' => h' = (h4.alloc (.cells false [.int .i64 0, .string .empty, .int .i64 0, .int .i64 0])).put h4.next (some (.cells false t5.cells)) ∧ e 53 = some (.bool (decide (t5.kind = 1) && (decide (t6.kind = 5) && decide (t6.text = ⟨#[58, 61]⟩)))) ∧ e 0 = some (pV p) ∧ e 2 = some (.pointer (some ⟨h.next, 0, none⟩)) ∧ e 3 = some (.pointer (some ⟨h1.next, 0, none⟩)) ∧
   e 4 = some (.slice none 0 0) ∧ e 5 = some (.pointer (some ⟨h4.next, 0, none⟩))) ?_ ?_
  ·by_cases hk1 : t5.kind = 1
   ·have hm : s3.k + 1 < L.length := hmm (by omega)
    refine Gd [⟨0, .pure, 0⟩, ⟨1, .read, 1⟩, ⟨2, .pure, 3⟩, ⟨3, .pure, 7⟩, ⟨4, .pure, 15⟩, ⟨5, .pure, 31⟩, ⟨6, .pure, 63⟩, ⟨7, .read, 127⟩, ⟨8, .pure, 15⟩, ⟨9, .pure, 271⟩, ⟨10, .pure, 783⟩, ⟨11, .read, 1807⟩, ⟨12, .pure, 3855⟩, ⟨13, .pure, 8191⟩, ⟨14, .pure, 16383⟩, ⟨15, .read, 32767⟩, ⟨16, .pure, 65535⟩, ⟨17, .pure, 131071⟩, ⟨18, .pure, 262143⟩, ⟨19, .pure, 524287⟩, ⟨20, .pure, 1048575⟩, ⟨21, .pure, 2097151⟩, ⟨22, .read, 4194303⟩, ⟨23, .pure, 524287⟩, ⟨24, .pure, 8912895⟩, ⟨25, .pure, 25690111⟩, ⟨26, .read, 59244543⟩, ⟨27, .pure, 126353407⟩, ⟨28, .pure, 268435455⟩, ⟨29, .pure, 536870911⟩, ⟨30, .read, 1073741823⟩, ⟨31, .pure, 2147483647⟩, ⟨32, .pure, 4294967295⟩] (w:=Dj (w:=Rt (w:=?_)));refine QW (k := QD ?_ ?_);intro hh;refine Da (w:=Da (w:=Di (w:=Dj (w:=Rt (w:=Da (w:=Di (w:=Dj (w:=Rt (w:=Df (w:=Dl (w:=Dj (w:=?_))))))))))));refine WD.read (hw := ?_);rotate_left;intro hh;exfalso;omega
    refine WS.jC (v := .int .i64 t6.kind) (hc := ck hm) (hk := ?_)
    refine QW (k := QD ?_ ?_);intro hh;refine Dc (w:=Da (w:=Da (w:=Di (w:=Dj (w:=Rt (w:=Da (w:=Di (w:=Dj (w:=Rt (w:=Df (w:=Dl (w:=Dj (w:=?_)))))))))))));refine WD.read (hw := ?_);rotate_left;intro hh;refine Dc (w:=Da (w:=DA (w:=DA (w:=DA (w:=RA (w:=DA (w:=DA (w:=DA (w:=RA (w:=DA (w:=DA (w:=DA (w:=RA (w:=DA (w:=Dd (w:=WD.nil (hq:=?_)))))))))))))))));rotate_left
    ·refine WS.jC (v := .string t6.text) (hc := ct hm) (hk := ?_)
     refine QW (k := QB ?_ ?_);intro hh;refine Dc (w:=WD.nil (hq:=?_));rotate_left;intro hh;refine Dc (w:=WD.nil (hq:=?_));rotate_left
     ·exact ⟨rfl, by simp [*, bL], rfl, rfl, rfl, rfl, rfl⟩
     ·exact ⟨rfl, by simp [*, bL], rfl, rfl, rfl, rfl, rfl⟩
    ·exact ⟨rfl, by simp [*, bL], rfl, rfl, rfl, rfl, rfl⟩
   ·refine Gd [⟨0, .pure, 0⟩, ⟨1, .read, 1⟩, ⟨2, .pure, 3⟩, ⟨3, .pure, 7⟩, ⟨4, .pure, 15⟩, ⟨5, .pure, 31⟩, ⟨6, .pure, 63⟩, ⟨7, .read, 127⟩, ⟨8, .pure, 15⟩, ⟨9, .pure, 271⟩, ⟨10, .pure, 783⟩, ⟨11, .read, 1807⟩, ⟨12, .pure, 3855⟩, ⟨13, .pure, 8191⟩, ⟨14, .pure, 16383⟩, ⟨15, .read, 32767⟩, ⟨16, .pure, 65535⟩, ⟨17, .pure, 131071⟩, ⟨18, .pure, 262143⟩, ⟨19, .pure, 524287⟩, ⟨20, .pure, 1048575⟩, ⟨21, .pure, 2097151⟩, ⟨22, .read, 4194303⟩, ⟨23, .pure, 524287⟩, ⟨24, .pure, 8912895⟩, ⟨25, .pure, 25690111⟩, ⟨26, .read, 59244543⟩, ⟨27, .pure, 126353407⟩, ⟨28, .pure, 268435455⟩, ⟨29, .pure, 536870911⟩, ⟨30, .read, 1073741823⟩, ⟨31, .pure, 2147483647⟩, ⟨32, .pure, 4294967295⟩] (w:=Dj (w:=Rt (w:=?_)));refine QW (k := QD ?_ ?_);intro hh;exfalso;omega;intro hh;refine Da (w:=DA (w:=DA (w:=DA (w:=RA (w:=DA (w:=DA (w:=DA (w:=RA (w:=DA (w:=DA (w:=DA (w:=RA (w:=DA (w:=Dd (w:=Da (w:=DA (w:=DA (w:=DA (w:=RA (w:=DA (w:=DA (w:=DA (w:=RA (w:=DA (w:=DA (w:=DA (w:=RA (w:=DA (w:=Dd (w:=WD.nil (hq:=?_)))))))))))))))))))))))))))))))
    exact ⟨rfl, by simp [*, bL], rfl, rfl, rfl, rfl, rfl⟩
  rintro e h' ⟨rfl, e53, e0, e2, e3, e4, e5⟩
  generalize hcd : (decide (t5.kind = 1) && (decide (t6.kind = 5) && decide (t6.text = ⟨#[58, 61]⟩))) = b at e53 hq3
  cases b
  ·rw [if_neg Bool.false_ne_true, R.then_ok] at hq3
   have kvk := KV.nil h4 (fun j => h4.next < j)
   refine QS (UA (QU (QN (Ma (w:=MJ nR (w:=nT (L := L) (hd := hd) (s := s3) aI fun h20 ps20 fr20 => ?_))))))
   have hn20 := nx fr20.1
   unfold rG at ps20
   cases hb20 : cC L s3 [⟨#[60, 45]⟩]
   ·rw [hb20, if_neg Bool.false_ne_true] at ps20 hq3
    refine QP (UA (QN (Ma (w:=MJ aAy (w:=c.cH aI (Nu hq3 (k:=fun t21 s21 h21 b21 n21 es21 ps21 fr21 kv21 hn21 hq21 => ?_)))))))
    refine Mw (w:=Mv (w:=QO (Ma (w:=MJ eI (w:=Wn (hd := hd) hq21 (k:=fun tk22 s22 h22 ps22 fr22 hn22 hq22 => ?_))))))
    refine QO (Ma (w:=MJ hG (w:=c.expr aI (Nu hq22 (k:=fun t23 s23 h23 b23 n23 es23 ps23 fr23 kv23 hn23 hq23 => ?_)))))
    refine Mw (w:=Mv (w:=QL (QU (Gd [⟨0, .read, 0⟩, ⟨1, .read, 0⟩, ⟨2, .read, 0⟩, ⟨3, .pure, 0⟩, ⟨4, .aF, 8⟩, ⟨5, .alloc, 30⟩, ⟨6, .aF, 63⟩, ⟨7, .aF, 127⟩] (w:=Ru (w:=Ru (w:=Ru (w:=Da (w:=?_)))))))));refine WD.aF hX (hw := ?_)
    refine QJ wJ ?_
    refine lV c aI (Nu hq23 (k:=fun t8 s8 h8 b8 n8 es8 ps8 fr8 kv8 hn8 hq8 => ?_))
    refine WD.alloc (hw := Qz ?_);refine WD.aF hX (hw := ?_)
    refine QJ bM ?_
    refine bG fun h24 g24 => ?_
    have hn24 := nx g24.1
    refine WD.aF hX (hw := Qv ?_);refine WD.nil (hq:=WC.ret ?_)
    refine ⟨_, aM, ?_⟩
    refine hq8 _ _ aI aT ⟨_, _, _, rfl, NV.aZ ?_ _ _ _ _ _ _⟩
    apply KV.of3 (t3 := t8) (S := fun j => h.next ≤ j ∧ j < h8.next)
    (· exact aD); (· rfl); (· exact aB); (· exact aB); (· exact (kv21.kp)); (· exact (kv23.kp)); (· exact (kv8.kp)); (· exact fun j hS hj => ⟨hS.1, by have := hS.2; exact aB⟩)
   ·rw [hb20, if_pos rfl] at ps20 hq3
    refine QQ (QN (Ma (w:=Ma (w:=MJ aAz (w:=c.unary aI (Nu hq3 (k:=fun t21 s21 h21 b21 n21 es21 ps21 fr21 kv21 hn21 hq21 => ?_)))))))
    refine Mz (w:=QK ?_)
    have kvM25 := kvk.mono (S' := fun j => h4.next < j) (h' := (h21).alloc (.cells false (aG t21 b21 n21 es21))) aB (fun j hS hj => ⟨aB, bB⟩)
    have hge25 := kvk.ge
    refine WS.kQ (S1 := fun j => h4.next < j) (S2 := fun j => (h20).next ≤ j ∧ j < (h21).next + 1) (k1 := []) (k2 := [t21]) rfl rfl aL aL rfl rfl (by intro k hk; cases hk) (cE rfl) (by unfold room; omega) kvM25
     (KV.one (S := fun j => (h20).next ≤ j ∧ j < (h21).next) aB aB aD (kv21.kp) (fun j hS hj => ⟨⟨hS.1, by have := hS.2; exact aB⟩, by have := hS.2; exact aB⟩)) (fun x hx _ off => hge25 x (by have := hx.1; exact aB) off) ?_
    intro h25 b25 es25 hn25 kv25 hf25
    simp only [UB, UC] at hn25
    have hk25 : ∀ j, j ≤ h4.next → h25.obj j = (h21).obj j := fun j hj => (hf25 j aB (kvM25.ne j hj)).trans (bX aB rfl)
    have fr25 : cJ p h h25 := cJ.dC (H := h21) aT aB fun j hj => hk25 j (by omega)
    have ps25 : cF h25 p L hd s21 := cF.dC (h := h21) ps21 aB fun j hj => hk25 j (by omega)
    have hoz25 : h25.obj h.next = some (Z0) := (hk25 _ (by omega)).trans aD
    have hot25 : h25.obj h1.next = some (.cells false tk.cells) := (hk25 _ (by omega)).trans aD
    have kvL25 := kv25.mono (S' := fun j => h4.next < j) (h' := h25) (Nat.le_refl _) (fun j hS hj => ⟨by (try simp only [UB, UC] at hS); omega, rfl⟩)
    refine Mb (w:=QL (QU (Gd [⟨0, .read, 0⟩, ⟨1, .pure, 0⟩, ⟨2, .pure, 0⟩, ⟨3, .aF, 4⟩, ⟨4, .alloc, 12⟩, ⟨5, .aF, 30⟩, ⟨6, .aF, 63⟩, ⟨7, .aF, 127⟩] (w:=Ru (w:=Da (w:=Da (w:=?_)))))));refine WD.aF hX (hw := ?_)
    refine QJ wJ ?_
    refine lV c aI (Nu hq21 (k:=fun t8 s8 h8 b8 n8 es8 ps8 fr8 kv8 hn8 hq8 => ?_))
    refine WD.alloc (hw := Qz ?_);refine WD.aF hX (hw := ?_)
    have kvM26 := kvL25.mono (S' := fun j => h4.next < j) (h' := (h8).alloc (.cells false (aG t8 b8 n8 es8))) aB (fun j hS hj => ⟨aB, bB⟩)
    have hge26 := kvL25.ge
    refine WS.kQ (S1 := fun j => h4.next < j) (S2 := fun j => (h25).next ≤ j ∧ j < (h8).next + 1) (k1 := [] ++ [t21]) (k2 := [t8]) rfl rfl aL aL rfl rfl (by intro k hk; cases hk) (cE rfl) (by unfold room; omega) kvM26
     (KV.one (S := fun j => (h25).next ≤ j ∧ j < (h8).next) aB aB aD (kv8.kp) (fun j hS hj => ⟨⟨hS.1, by have := hS.2; exact aB⟩, by have := hS.2; exact aB⟩)) (fun x hx _ off => hge26 x (by have := hx.1; exact aB) off) ?_
    intro h26 b26 es26 hn26 kv26 hf26
    simp only [UB, UC] at hn26
    have hk26 : ∀ j, j ≤ h4.next → h26.obj j = (h8).obj j := fun j hj => (hf26 j aB (kvM26.ne j hj)).trans (bX aB rfl)
    have fr26 : cJ p h h26 := cJ.dC (H := h8) aT aB fun j hj => hk26 j (by omega)
    have ps26 : cF h26 p L hd s8 := cF.dC (h := h8) ps8 aB fun j hj => hk26 j (by omega)
    have hoz26 : h26.obj h.next = some (Z0) := (hk26 _ (by omega)).trans aD
    have hot26 : h26.obj h1.next = some (.cells false tk.cells) := (hk26 _ (by omega)).trans aD
    refine WD.aF hX (hw := ?_)
    refine QJ bM ?_
    refine bG fun h27 g27 => ?_
    have hn27 := nx g27.1
    refine WD.aF hX (hw := Qv ?_);refine WD.nil (hq:=WC.ret ?_)
    refine ⟨_, aM, ?_⟩
    refine hq8 _ _ aI aT ⟨_, _, _, rfl, NV.aZ ?_ _ _ _ _ _ _⟩
    exact (kv26.kp)
  ·rw [if_pos rfl] at hq3
   simp only [Bool.and_eq_true, decide_eq_true_eq] at hcd
   have hm2 : s3.k + 2 < L.length := hm5 hcd.2.1 (hmm (by omega))
   obtain ⟨s9, hs9⟩ : ∃ s9, s9 = s3.goto (s3.k + 2) := ⟨_, rfl⟩
   rw [← hs9] at hq3
   refine QR (QN (Ma (w:=Mi (w:=Mj (w:=Mt (w:=Mf (w:=Mi (w:=Mj (w:=Mv (w:=QO (Ma (w:=Mu (w:=Mj (w:=Mt (w:=MJ bM (w:=bG fun h30 g30 => ?_))))))))))))))))
   have hn30 := nx g30.1
   have ps30 : cF h30 p L hd s9 := by
    rw [hs9]
    exact (cF.self (hd := hd) (s := s3) (j := j) aI aD hd (s3.goto (s3.k + 2)) hm2).gr g30
   refine Mz (w:=QK ?_)
   have kvk := KV.nil h4 (fun j => h4.next < j)
   have kvM31 := kvk.mono (S' := fun j => h4.next < j) (h' := (h30).alloc (.cells false (aG (nd 7 t5 t5.text []) none 0 0))) aB (fun j hS hj => ⟨aB, bB⟩)
   have hge31 := kvk.ge
   refine WS.kQ (S1 := fun j => h4.next < j) (S2 := fun j => (h30).next ≤ j ∧ j < (h30).next + 1) (k1 := []) (k2 := [(nd 7 t5 t5.text [])]) rfl rfl aL aL rfl rfl (by intro k hk; cases hk) (cE rfl) (by unfold room; omega) kvM31
    (KV.one (S := fun j => (h30).next ≤ j ∧ j < (h30).next) aB aB aD (NV.leaf _ _ _ _ _ _) (fun j hS hj => ⟨⟨hS.1, by have := hS.2; exact aB⟩, by have := hS.2; exact aB⟩)) (fun x hx _ off => hge31 x (by have := hx.1; exact aB) off) ?_
   intro h31 b31 es31 hn31 kv31 hf31
   simp only [UB, UC] at hn31
   have hk31 : ∀ j, j ≤ h4.next → h31.obj j = (h30).obj j := fun j hj => (hf31 j aB (kvM31.ne j hj)).trans (bX aB rfl)
   have fr31 : cJ p h h31 := cJ.dC (H := h30) aT aB fun j hj => hk31 j (by omega)
   have ps31 : cF h31 p L hd s9 := cF.dC (h := h30) ps30 aB fun j hj => hk31 j (by omega)
   have hoz31 : h31.obj h.next = some (Z0) := (hk31 _ (by omega)).trans aD
   have hot31 : h31.obj h1.next = some (.cells false tk.cells) := (hk31 _ (by omega)).trans aD
   have kvL31 := kv31.mono (S' := fun j => h4.next < j) (h' := h31) (Nat.le_refl _) (fun j hS hj => ⟨by (try simp only [UB, UC] at hS); omega, rfl⟩)
   refine Mb (w:=QO (Ma (w:=My (w:=MJ c8 (w:=fB (L := L) (hd := hd) (s := s9) (ts := [⟨#[60, 45]⟩]) aI aD aB rfl (by first | decide | simp) fun h32 g32 => ?_)))))
   have hn32 := nx g32.1
   cases hb32 : cC L s9 [⟨#[60, 45]⟩]
   ·rw [hb32, if_neg Bool.false_ne_true] at hq3
    refine Me (w:=QQ (QV (Ma (w:=MJ kS (w:=?_)))))
    exact eS (hd := hd) aI aT hq3 (fun _ _ x => x)
   ·rw [hb32, if_pos rfl, R.then_ok] at hq3
    refine Me (w:=QP (UA (QU (QN (Ma (w:=MJ nR (w:=nT (L := L) (hd := hd) (s := s9) aI fun h20 ps20 fr20 => ?_)))))))
    have hn20 := nx fr20.1
    unfold rG at ps20
    cases hb20 : cC L s9 [⟨#[60, 45]⟩]
    ·rw [hb20, if_neg Bool.false_ne_true] at ps20 hq3
     refine QP (UA (QN (Ma (w:=MJ aAy (w:=c.cH aI (Nu hq3 (k:=fun t21 s21 h21 b21 n21 es21 ps21 fr21 kv21 hn21 hq21 => ?_)))))))
     refine Mw (w:=Mv (w:=QO (Ma (w:=MJ eI (w:=Wn (hd := hd) hq21 (k:=fun tk22 s22 h22 ps22 fr22 hn22 hq22 => ?_))))))
     refine QO (Ma (w:=MJ hG (w:=c.expr aI (Nu hq22 (k:=fun t23 s23 h23 b23 n23 es23 ps23 fr23 kv23 hn23 hq23 => ?_)))))
     refine Mw (w:=Mv (w:=QL (QU (Gd [⟨0, .read, 0⟩, ⟨1, .read, 0⟩, ⟨2, .read, 0⟩, ⟨3, .pure, 0⟩, ⟨4, .aF, 8⟩, ⟨5, .alloc, 30⟩, ⟨6, .aF, 63⟩, ⟨7, .aF, 127⟩] (w:=Ru (w:=Ru (w:=Ru (w:=Da (w:=?_)))))))));refine WD.aF hX (hw := ?_)
     refine QJ wJ ?_
     refine lV c aI (Nu hq23 (k:=fun t8 s8 h8 b8 n8 es8 ps8 fr8 kv8 hn8 hq8 => ?_))
     refine WD.alloc (hw := Qz ?_);refine WD.aF hX (hw := ?_)
     refine QJ bM ?_
     refine bG fun h24 g24 => ?_
     have hn24 := nx g24.1
     refine WD.aF hX (hw := Qv ?_);refine WD.nil (hq:=WC.ret ?_)
     refine ⟨_, aM, ?_⟩
     refine hq8 _ _ aI aT ⟨_, _, _, rfl, NV.aZ ?_ _ _ _ _ _ _⟩
     apply KV.of3 (t3 := t8) (S := fun j => h.next ≤ j ∧ j < h8.next)
     (· exact aD); (· rfl); (· exact aB); (· exact aB); (· exact (kv21.kp)); (· exact (kv23.kp)); (· exact (kv8.kp)); (· exact fun j hS hj => ⟨hS.1, by have := hS.2; exact aB⟩)
    ·rw [hb20, if_pos rfl] at ps20 hq3
     refine QQ (QN (Ma (w:=Ma (w:=MJ aAz (w:=c.unary aI (Nu hq3 (k:=fun t21 s21 h21 b21 n21 es21 ps21 fr21 kv21 hn21 hq21 => ?_)))))))
     refine Mz (w:=QK ?_)
     have kvM25 := kvL31.mono (S' := fun j => h4.next < j) (h' := (h21).alloc (.cells false (aG t21 b21 n21 es21))) aB (fun j hS hj => ⟨aB, bB⟩)
     have hge25 := kvL31.ge
     refine WS.kQ (S1 := fun j => h4.next < j) (S2 := fun j => (h20).next ≤ j ∧ j < (h21).next + 1) (k1 := [nd 7 t5 t5.text []]) (k2 := [t21]) rfl rfl aL aL rfl rfl (by intro k hk; cases hk) (cE rfl) (by unfold room; omega) kvM25
      (KV.one (S := fun j => (h20).next ≤ j ∧ j < (h21).next) aB aB aD (kv21.kp) (fun j hS hj => ⟨⟨hS.1, by have := hS.2; exact aB⟩, by have := hS.2; exact aB⟩)) (fun x hx _ off => hge25 x (by have := hx.1; exact aB) off) ?_
     intro h25 b25 es25 hn25 kv25 hf25
     simp only [UB, UC] at hn25
     have hk25 : ∀ j, j ≤ h4.next → h25.obj j = (h21).obj j := fun j hj => (hf25 j aB (kvM25.ne j hj)).trans (bX aB rfl)
     have fr25 : cJ p h h25 := cJ.dC (H := h21) aT aB fun j hj => hk25 j (by omega)
     have ps25 : cF h25 p L hd s21 := cF.dC (h := h21) ps21 aB fun j hj => hk25 j (by omega)
     have hoz25 : h25.obj h.next = some (Z0) := (hk25 _ (by omega)).trans aD
     have hot25 : h25.obj h1.next = some (.cells false tk.cells) := (hk25 _ (by omega)).trans aD
     have kvL25 := kv25.mono (S' := fun j => h4.next < j) (h' := h25) (Nat.le_refl _) (fun j hS hj => ⟨by (try simp only [UB, UC] at hS); omega, rfl⟩)
     refine Mb (w:=QL (QU (Gd [⟨0, .read, 0⟩, ⟨1, .pure, 0⟩, ⟨2, .pure, 0⟩, ⟨3, .aF, 4⟩, ⟨4, .alloc, 12⟩, ⟨5, .aF, 30⟩, ⟨6, .aF, 63⟩, ⟨7, .aF, 127⟩] (w:=Ru (w:=Da (w:=Da (w:=?_)))))));refine WD.aF hX (hw := ?_)
     refine QJ wJ ?_
     refine lV c aI (Nu hq21 (k:=fun t8 s8 h8 b8 n8 es8 ps8 fr8 kv8 hn8 hq8 => ?_))
     refine WD.alloc (hw := Qz ?_);refine WD.aF hX (hw := ?_)
     have kvM26 := kvL25.mono (S' := fun j => h4.next < j) (h' := (h8).alloc (.cells false (aG t8 b8 n8 es8))) aB (fun j hS hj => ⟨aB, bB⟩)
     have hge26 := kvL25.ge
     refine WS.kQ (S1 := fun j => h4.next < j) (S2 := fun j => (h25).next ≤ j ∧ j < (h8).next + 1) (k1 := [nd 7 t5 t5.text []] ++ [t21]) (k2 := [t8]) rfl rfl aL aL rfl rfl (by intro k hk; cases hk) (cE rfl) (by unfold room; omega) kvM26
      (KV.one (S := fun j => (h25).next ≤ j ∧ j < (h8).next) aB aB aD (kv8.kp) (fun j hS hj => ⟨⟨hS.1, by have := hS.2; exact aB⟩, by have := hS.2; exact aB⟩)) (fun x hx _ off => hge26 x (by have := hx.1; exact aB) off) ?_
     intro h26 b26 es26 hn26 kv26 hf26
     simp only [UB, UC] at hn26
     have hk26 : ∀ j, j ≤ h4.next → h26.obj j = (h8).obj j := fun j hj => (hf26 j aB (kvM26.ne j hj)).trans (bX aB rfl)
     have fr26 : cJ p h h26 := cJ.dC (H := h8) aT aB fun j hj => hk26 j (by omega)
     have ps26 : cF h26 p L hd s8 := cF.dC (h := h8) ps8 aB fun j hj => hk26 j (by omega)
     have hoz26 : h26.obj h.next = some (Z0) := (hk26 _ (by omega)).trans aD
     have hot26 : h26.obj h1.next = some (.cells false tk.cells) := (hk26 _ (by omega)).trans aD
     refine WD.aF hX (hw := ?_)
     refine QJ bM ?_
     refine bG fun h27 g27 => ?_
     have hn27 := nx g27.1
     refine WD.aF hX (hw := Qv ?_);refine WD.nil (hq:=WC.ret ?_)
     refine ⟨_, aM, ?_⟩
     refine hq8 _ _ aI aT ⟨_, _, _, rfl, NV.aZ ?_ _ _ _ _ _ _⟩
     exact (kv26.kp)
 ·rw [hb2, if_pos rfl] at ps2 hq0
  refine QQ (QU (Gd [⟨0, .read, 0⟩, ⟨1, .pure, 0⟩, ⟨2, .aF, 2⟩, ⟨3, .alloc, 6⟩, ⟨4, .aF, 15⟩, ⟨5, .aF, 31⟩] (w:=Ru (w:=Da (w:=?_)))));refine WD.aF hX (hw := ?_)
  refine QJ wJ ?_
  refine lV c aI (Nu hq0 (k:=fun t8 s8 h8 b8 n8 es8 ps8 fr8 kv8 hn8 hq8 => ?_))
  refine WD.alloc (hw := Qz ?_);refine WD.aF hX (hw := ?_)
  refine QJ bM ?_
  refine bG fun h5 g5 => ?_
  have hn5 := nx g5.1
  refine WD.aF hX (hw := Qv ?_);refine WD.nil (hq:=WC.ret ?_)
  refine ⟨_, aM, ?_⟩
  refine hq8 _ _ aI aT ⟨_, _, _, rfl, NV.aZ ?_ _ _ _ _ _ _⟩
  exact (KV.one (S := fun j => h.next ≤ j ∧ j < h8.next) aB aB aD (kv8.kp) (fun j hS hj => ⟨hS.1, by have := hS.2; exact aB⟩))

def VP (S : Nat → Prop) (h : aA) (x : Nd × Bool) (v : Value) : Prop := ∃ b n es, v = .tuple #[.agg (aG x.1 b n es).toArray, .bool x.2] ∧ NV h S (aG x.1 b n es) x.1

theorem aHj {r : Rec} (c : qP r) {i j l : Nat} {tn : Nd} {bare : Bool} {bn : Option Addr} {nn esn lo hi x : Nat} {p : Nat} {L : List Tok} {hd : Bool} {s : St} {h : aA} {Q : bR → Prop} (ps : cF h p L hd s) (ho : h.obj i = some (.cells false [pV p])) (hi1 : i < h.next) (hip : i ≠ p)
  (hoj : h.obj j = some (.cells false (aG tn bn nn esn))) (hol : h.obj l = some (.cells false [.bool bare])) (hj1 : j < h.next) (hl1 : l < h.next)
  (hlo : lo ≤ h.next) (hxl : x < lo) (hpl : p < lo) (hhi : hi ≤ h.next) (kvn : NV h (fun j => lo ≤ j ∧ j < hi) (aG tn bn nn esn) tn)
  (hq0 : bT (VN (fun j => lo ≤ j ∧ j ≠ x ∧ (j < hi ∨ h.next ≤ j))) p L hd h Q (nZ r tn bare L hd s)) : aS Tryz.prog G X 256 [.pointer (some ⟨i, 0, none⟩), .pointer (some ⟨j, 0, none⟩), .pointer (some ⟨l, 0, none⟩)] h Q := by
 have hp := ps.lt
 rw [← R.dA (nZ r tn bare L hd s)] at hq0
 refine Wk Tryz.func256 Tryz.ntmps256 (w:=QN (Mw (w:=QO (Mt (w:=Mu (w:=Mt (w:=MJ aL1 (w:=aIk c (hi := hi) (lo := lo) aI aB aB aB (kvn.kp) (bT.use aT hq0 (fun _ _ x => x) fun t1 s1 h1 v1 ps1 fr1 hv1 hq1 => ?_)))))))))
 obtain ⟨b1, n1, es1, rfl, kv1⟩ := hv1
 have hn1 := fr1.1
 simp only [aA.aC] at hn1
 refine Mv (w:=QM ?_)
 refine ⟨_, aM, ?_⟩
 refine hq1 _ _ aI aT ⟨_, _, _, rfl, kv1.mono aB (fun j hS hj => by (try simp only [UB, UC] at hS); exact ⟨by omega, bB⟩)⟩

def aGb (p : Nat) (L : List Tok) (hd : Bool) (h HH : aA) (n1 : Nat) (c : List Value) (bare : Bool) (s : St) (k k' : Nat) (e : Env) (h' : aA) : Prop :=
 e 1 = some (.pointer (some ⟨h.next, 0, none⟩)) ∧ e 2 = some (.pointer (some ⟨h.next + 1, 0, none⟩)) ∧ e 4 = some (.int .i64 k) ∧ e 5 = some (.pointer (some ⟨n1, 0, none⟩)) ∧ e 6 = some (.pointer (some ⟨n1 + 1, 0, none⟩)) ∧ e 7 = some (.int .i64 k') ∧
  cF h' p L hd s ∧ cJ p h h' ∧ cJ p HH h' ∧ h'.obj h.next = some (.cells false [pV p]) ∧ h'.obj (h.next + 1) = some (Z0) ∧ h'.obj n1 = some (.cells false c) ∧ h'.obj (n1 + 1) = some (.cells false [.bool bare]) ∧ n1 + 1 < h'.next ∧ h.next + 1 < n1
theorem aJ0 {r : Rec} (c : qP r) {p : Nat} {L : List Tok} {hd : Bool} {s : St} {h : aA} {Q : bR → Prop} (ps : cF h p L hd s) (hq0 : bT (VP (fun j => h.next ≤ j)) p L hd h Q (pO r L hd s)) : aS Tryz.prog G X 246 [pV p] h Q := by
 have hp := ps.lt
 unfold pO at hq0
 simp only at hq0
 obtain ⟨j0, hj0, hop0, hol0⟩ := ps.tok
 refine Wk Tryz.func246 Tryz.ntmps246 (w:=QN (Mx (w:=Mw (w:=Mb (w:=QO (Mt (w:=Mi (w:=Mj (w:=Mt (w:=Mb (w:=QO (Mt (w:=Mt (w:=Mp (w:=MJ nQ (w:=?_))))))))))))))))
 refine gS (hd := hd) (hd' := true) (spec := r.expr L true s) aI hG (fun {h1 Q1} ps1 fr1 hq1 => c.expr ps1 hq1) (Nu hq0 (k:=fun t1 s1 h1 b1 n1 es1 ps1 fr1 kv1 hn1 hq1 => ?_))
 obtain ⟨j1, hj1, hop1, hol1⟩ := ps1.tok
 refine Mw (w:=Mv (w:=QL (QU (Gd [⟨0, .read, 0⟩, ⟨1, .pure, 1⟩, ⟨2, .pure, 3⟩, ⟨3, .read, 7⟩, ⟨4, .read, 0⟩, ⟨5, .pure, 16⟩, ⟨6, .pure, 48⟩, ⟨7, .read, 112⟩, ⟨8, .alloc, 0⟩, ⟨9, .aF, 271⟩, ⟨10, .pure, 1023⟩] (w:=Rt (w:=Di (w:=Dj (w:=Rt (w:=Rt (w:=Di (w:=Dj (w:=Rt (w:=?_)))))))))))));refine WD.alloc (hw := Qw ?_);refine WD.aF hX (hw := Qv ?_);refine Db (w:=WD.nil (hq:=QN (Mt (w:=Ma (w:=Mi (w:=Mj (w:=Mv (w:=QO (Mt (w:=My (w:=QK ?_)))))))))))
 -- the first place again
 have hkk : s.k < L.length := ps.at_
 refine QJ c8 ?_
 refine fB (L := L) (hd := hd) (s := ⟨s.k, s1.bare⟩) (ts := [⟨#[45]⟩, ⟨#[33]⟩, ⟨#[60, 45]⟩]) (cF.alloc (cF.self (hd := hd) (s := s1) (j := j1) aI aD hd ⟨s.k, s1.bare⟩ hkk) _) aD aB rfl (by decide) fun h2 g2 => ?_
 have hn2 := nx g2.1
 have ps2 : cF h2 p L hd ⟨s.k, s1.bare⟩ := (cF.alloc (cF.self (hd := hd) (s := s1) (j := j1) aI aD hd ⟨s.k, s1.bare⟩ hkk) _).gr g2
 refine Me (w:=Mb (w:=QL (QU ?_)))
 refine WC.cut (N' := fun e h' => aGb p L hd h h1 h1.next (aG t1 b1 n1 es1) s1.bare ⟨s.k, s1.bare⟩ s.k s1.k e h' ∧ e 8 = some (.bool (!cC L s [⟨#[45]⟩, ⟨#[33]⟩, ⟨#[60, 45]⟩])) ∧ e 9 = some (.bool (decide (t1.kind = 41) && decide (t1.text = ⟨#[60, 45]⟩) && cC L s [⟨#[60, 45]⟩]))) ?_ ?_
 ·refine QV (Mj (w:=Mt (w:=MD (w:=fun hh => Ma (w:=Mj (w:=Mt (w:=MB (w:=fun hh => Mc (w:=Ma (w:=Mt (w:=My (w:=QK ?_))))) (v:=fun hh => Mc (w:=Ma (w:=MA (w:=MA (w:=MA (w:=Md (w:=Mb (w:=QL ?_)))))))))))) (v:=fun hh => Ma (w:=MA (w:=MA (w:=MA (w:=Md (w:=Ma (w:=MA (w:=MA (w:=MA (w:=Md (w:=Mb (w:=QL ?_)))))))))))))))
  ·refine QJ c8 ?_
   refine fB (L := L) (hd := hd) (s := ⟨s.k, s1.bare⟩) (ts := [⟨#[60, 45]⟩]) aI aD aB rfl (by decide) fun h3 g3 => ?_
   have hn3 := nx g3.1
   have hbb : cC L ⟨s.k, s1.bare⟩ [⟨#[60, 45]⟩] = cC L s [⟨#[60, 45]⟩] := rfl
   rw [hbb]
   refine Mc (w:=Mb (w:=QL ?_))
   exact ⟨⟨aL, aL, aL, aL, aL, aL, aI, aT, aT, aD, aD, aD, aD, aB, aB⟩, aL, by simp [*, bL]⟩
  ·exact ⟨⟨aL, aL, aL, aL, aL, aL, aI, aT, aT, aD, aD, aD, aD, aB, aB⟩, aL, by simp [*, bL]⟩
  ·exact ⟨⟨aL, aL, aL, aL, aL, aL, aI, aT, aT, aD, aD, aD, aD, aB, aB⟩, aL, by simp [*, bL]⟩
 rintro e h6 ⟨⟨e1, e2, e4, e5, e6, e7, ps6, fr6, fr61, hob, hoz, hon, hobb, hn6, hn6b⟩, e8, e9⟩
 have hnn6 := fr6.1
 obtain ⟨j6, hj6, hop6, hol6⟩ := ps6.tok
 refine QU ?_
 refine WC.region hX ?_
 refine Mt (w:=Ma (w:=Mi (w:=Mj (w:=Mv (w:=QL (QU ?_))))))
 have ps7 := cF.self (hd := hd) (s := ⟨s.k, s1.bare⟩) (j := j6) ps6 hop6 hd s1 ps1.at_
 have fr71 : cJ p h1 (h6.put p (some (.cells false [.slice (some ⟨j6, 0, none⟩) L.length 4, .int .i64 s1.k, .bool hd, .bool s1.bare]))) := fr61.self
 have fr7 : cJ p h (h6.put p (some (.cells false [.slice (some ⟨j6, 0, none⟩) L.length 4, .int .i64 s1.k, .bool hd, .bool s1.bare]))) := fr6.self
 refine WC.cut (N' := fun e h' => aGb p L hd h h1 h1.next (aG t1 b1 n1 es1) s1.bare s1 s.k s1.k e h' ∧ e 8 = some (.bool ((!cC L s [⟨#[45]⟩, ⟨#[33]⟩, ⟨#[60, 45]⟩]) && decide (t1.kind ≠ 42) || decide (t1.kind = 42) && s1.bare)) ∧ e 9 = some (.bool (decide (t1.kind = 41) && decide (t1.text = ⟨#[60, 45]⟩) && cC L s [⟨#[60, 45]⟩]))) ?_ ?_
 ·generalize cC L s [⟨#[45]⟩, ⟨#[33]⟩, ⟨#[60, 45]⟩] = b8 at *
  cases b8
  ·refine QV (Ma (w:=Ma (w:=Mj (w:=Mt (w:=ME (w:=fun hh => Mc (w:=Ma (w:=MA (w:=MA (w:=MA (w:=MA (w:=MA (w:=MA (w:=Mc (w:=Mb (w:=QL ?_))))))))))) (v:=fun hh => Mc (w:=Ma (w:=Mj (w:=Mt (w:=MD (w:=fun hh => Ma (w:=Mt (w:=Mc (w:=Md (w:=Mb (w:=QL ?_)))))) (v:=fun hh => by omega)))))))))))
   all_goals exact ⟨⟨aL, aL, aL, aL, aL, aL, aI, aT, aT, aD, aD, aD, aD, aB, aB⟩, by simp [*, bL], aL⟩
  ·refine QV (Ma (w:=Ma (w:=MA (w:=MA (w:=MA (w:=Md (w:=Ma (w:=Mj (w:=Mt (w:=MD (w:=fun hh => Ma (w:=Mt (w:=Mc (w:=Md (w:=Mb (w:=QL ?_)))))) (v:=fun hh => Ma (w:=MA (w:=Md (w:=Md (w:=Mb (w:=QL ?_))))))))))))))))
   all_goals exact ⟨⟨aL, aL, aL, aL, aL, aL, aI, aT, aT, aD, aD, aD, aD, aB, aB⟩, by simp [*, bL], aL⟩
 clear e1 e2 e4 e5 e6 e7 e8 e9
 rintro e h8 ⟨⟨e1, e2, e4, e5, e6, e7, ps8, fr8, fr81, hob, hoz, hon, hobb, hn8, hn8b⟩, e8, e9⟩
 generalize ((!cC L s [⟨#[45]⟩, ⟨#[33]⟩, ⟨#[60, 45]⟩]) && decide (t1.kind ≠ 42) || decide (t1.kind = 42) && s1.bare) = single at *
 generalize (decide (t1.kind = 41) && decide (t1.text = ⟨#[60, 45]⟩) && cC L s [⟨#[60, 45]⟩]) = receives at *
 have hnn8 := fr8.1
 refine QU (Bk (QN (Mt (w:=My (w:=MJ c8 (w:=fB (L := L) (hd := hd) (s := s1) (ts := [⟨#[123]⟩]) aI aD aB rfl (by first | decide | simp) fun h10 g10 => ?_))))))
 have hn10 := nx g10.1
 cases hb10 : cC L s1 [⟨#[123]⟩]
 case true =>
  rw [hb10, if_pos rfl] at hq1
  refine Mb (w:=QQ (QN (Mu (w:=Mv (w:=Mb (w:=QM ?_))))))
  refine ⟨_, aM, ?_⟩
  exact hq1 _ _ aI aT ⟨_, _, _, rfl, kv1.kp⟩
 rw [hb10, if_neg Bool.false_ne_true] at hq1
 cases receives
 case true =>
  rw [if_pos rfl] at hq1
  refine Mb (w:=QP (QN (Ma (w:=Mb (w:=QQ (QU (QN (Mt (w:=My (w:=MJ c8 (w:=fB (L := L) (hd := hd) (s := s1) (ts := [⟨#[59]⟩]) aI aD aB rfl (by first | decide | simp) fun h11 g11 => ?_)))))))))))
  have hn11 := nx g11.1
  cases hb11 : cC L s1 [⟨#[59]⟩]
  ·rw [hb11, if_neg Bool.false_ne_true] at hq1
   refine Me (w:=QQ (QV (Mt (w:=MJ kS (w:=?_)))))
   exact eS (hd := hd) aI aT hq1 (fun _ _ x => x)
  ·rw [hb11, if_pos rfl] at hq1
   refine Me (w:=QP (UA (QN (Mj (w:=Mt (w:=Mu (w:=Mz (w:=Mn (w:=Mv (w:=Mb (w:=QM ?_)))))))))))
   refine ⟨_, aM, ?_⟩
   refine hq1 _ _ aI aT ⟨_, _, _, rfl, NV.aZ ?_ _ _ _ _ _ _⟩
   exact (KV.one (S := fun j => h.next ≤ j ∧ j < h1.next) aB aB aD (kv1.kp) (fun j hS hj => ⟨by have := hS.1; exact aB, by have := hS.2; exact aB⟩))
 rw [if_neg Bool.false_ne_true] at hq1
 cases single
 case false =>
  rw [Bool.not_false, if_pos rfl] at hq1
  refine Mb (w:=QP (QN (Ma (w:=Mb (w:=QP (QN (Ma (w:=Me (w:=Mb (w:=QQ (QV (Mt (w:=MJ kS (w:=?_))))))))))))))
  exact eS (hd := hd) aI aT hq1 (fun _ _ x => x)
 rw [Bool.not_true, if_neg Bool.false_ne_true] at hq1
 refine Mb (w:=QP (QN (Ma (w:=Mb (w:=QP (QN (Ma (w:=Me (w:=Mb (w:=QP (UA (QN (Mt (w:=Mp (w:=MJ nQ (w:=?_))))))))))))))))
 refine aCf (L := L) (s := s1) (hd := hd) (hd' := true) (lo := h.next + 2) (hi := h1.next) (x := h.next) (spec := nZ r t1 s1.bare L true s1) aI aB aB aB aPp (fun {h9 Q9} ps9 fr9 hq9 => ?_) (bT.use aT hq1 (fun _ _ x => x) fun t12 s12 h12 v12 ps12 fr12 hv12 hq12 => ?_)
 ·have hn9 := nx fr9.1
  exact aHj (i := h.next) (j := h1.next) (l := h1.next + 1) (x := h.next) (lo := h.next + 2) (hi := h1.next) c ps9 (fr9.at aB aB aD) aB aB (fr9.at aB aB aD) (fr9.at aB aB aD) aB aB aB aB aB aB (kv1.kp) hq9
 ·obtain ⟨b12, n12, es12, rfl, kv12⟩ := hv12
  have hn12 := nx fr12.1
  refine Mw (w:=Mv (w:=QL (QU (QN (Mt (w:=My (w:=MJ c8 (w:=fB (L := L) (hd := hd) (s := s12) (ts := [⟨#[59]⟩]) aI aD aB rfl (by first | decide | simp) fun h13 g13 => ?_))))))))
  have hn13 := nx g13.1
  cases hb13 : cC L s12 [⟨#[59]⟩]
  ·rw [hb13, if_neg Bool.false_ne_true] at hq12
   refine Me (w:=QQ (QV (Mt (w:=MJ kS (w:=?_)))))
   exact eS (hd := hd) aI aT hq12 (fun _ _ x => x)
  ·rw [hb13, if_pos rfl] at hq12
   refine Me (w:=QP (UA (QN (Mu (w:=Mv (w:=Mb (w:=QM ?_)))))))
   refine ⟨_, aM, ?_⟩
   exact hq12 _ _ aI aT ⟨_, _, _, rfl, kv12.kp⟩

def Cell (h : aA) (S : Nat → Prop) (t : Nd) (i : Nat) : Prop := ∃ b n es, h.obj i = some (.cells false (aG t b n es)) ∧ NV h S (aG t b n es) t

theorem KV.of4 {h : aA} {S S' : Nat → Prop} {i : Nat} {cells : List Value} {t t2 t3 t4 : Nd} {b b2 b3 b4 : Option Addr} {n es n2 es2 n3 es3 n4 es4 : Nat} (ho : h.obj i = some (.cells false cells)) (hc : cells = aG t b n es ++ aG t2 b2 n2 es2 ++ aG t3 b3 n3 es3 ++ aG t4 b4 n4 es4) (hi : S' i) (hlt : i < h.next) (hv : NV h S (aG t b n es) t) (hv2 : NV h S (aG t2 b2 n2 es2) t2) (hv3 : NV h S (aG t3 b3 n3 es3) t3) (hv4 : NV h S (aG t4 b4 n4 es4) t4)
  (hS : ∀ j, S j → j < h.next → S' j ∧ j ≠ i) : KV h S' (some ⟨i, 0, none⟩) 4 7 [t, t2, t3, t4] :=
 KV.fresh (S := S) (kids := [t, t2, t3, t4]) (vss := [aG t b n es, aG t2 b2 n2 es2, aG t3 b3 n3 es3, aG t4 b4 n4 es4]) hi hlt (by rw [ho, hc]; simp) rfl hS fun j u vs h1 h2 => by
  rcases j with _ | _ | _ | _ | j
  ·simp at h1 h2; subst h1; subst h2; exact hv
  ·simp at h1 h2; subst h1; subst h2; exact hv2
  ·simp at h1 h2; subst h1; subst h2; exact hv3
  ·simp at h1 h2; subst h1; subst h2; exact hv4
  ·simp at h1

def aLm (p : Nat) (L : List Tok) (hd : Bool) (h : aA) (tk : Tok) (n5 : Nat) (f c l : Nd) (s : St) (e : Env) (h' : aA) : Prop :=
 e 0 = some (pV p) ∧ e 3 = some (.pointer (some ⟨h.next, 0, none⟩)) ∧ e 4 = some (.pointer (some ⟨h.next + 1, 0, none⟩)) ∧ e 5 = some (.pointer (some ⟨n5, 0, none⟩)) ∧ e 6 = some (.pointer (some ⟨n5 + 1, 0, none⟩)) ∧ e 7 = some (.pointer (some ⟨n5 + 2, 0, none⟩)) ∧
  cF h' p L hd s ∧ cJ p h h' ∧ h'.obj h.next = some (.cells false tk.cells) ∧ h'.obj (h.next + 1) = some (Z0) ∧ n5 + 2 < h'.next ∧ h.next + 1 < n5 ∧
  Cell h' (fun j => h.next + 1 < j ∧ j ≠ n5 ∧ j ≠ n5 + 1 ∧ j ≠ n5 + 2) f n5 ∧ Cell h' (fun j => h.next + 1 < j ∧ j ≠ n5 ∧ j ≠ n5 + 1 ∧ j ≠ n5 + 2) c (n5 + 1) ∧ Cell h' (fun j => h.next + 1 < j ∧ j ≠ n5 ∧ j ≠ n5 + 1 ∧ j ≠ n5 + 2) l (n5 + 2)
theorem aM7 {r : Rec} (c : qP r) {tk : Tok} {p : Nat} {L : List Tok} {hd : Bool} {s : St} {h : aA} {Q : bR → Prop} (ps : cF h p L hd s) (hq0 : bT (VN (fun j => h.next ≤ j)) p L hd h Q (sE r tk L hd s)) : aS Tryz.prog G X 228 [pV p, .agg tk.cells.toArray] h Q := by
 have hp := ps.lt
 unfold sE at hq0
 refine Wk Tryz.func228 Tryz.ntmps228 (w:=QN (Mx (w:=Mw (w:=QO (MJ oZ (w:=lB fun h1 g1 => ?_))))))
 have hn1 := nx g1.1
 refine MJ oZ (w:=lB fun h2 g2 => ?_)
 have hn2 := nx g2.1
 refine MJ oZ (w:=lB fun h3 g3 => ?_)
 have hn3 := nx g3.1
 refine Mw (w:=Mw (w:=Mw (w:=Mv (w:=Mv (w:=Mv (w:=QL (QU (QN (Ma (w:=My (w:=MJ c8 (w:=fB (L := L) (hd := hd) (s := s) (ts := [⟨#[123]⟩, ⟨#[59]⟩]) aI aD aB rfl (by first | decide | simp) fun h4 g4 => ?_))))))))))))
 have hn4 := nx g4.1
 refine Me (w:=QL ?_)
 refine WC.cut (N' := fun e h' => ∃ fc s', aLm p L hd h tk h3.next fc.1 fc.2 c5 s' e h' ∧ bT (VN fun j => h.next ≤ j) p L hd h Q (yT r tk L hd fc s')) ?_ ?_
 ·cases hb4 : cC L s [⟨#[123]⟩, ⟨#[59]⟩]
  ·rw [hb4, if_neg Bool.false_ne_true, R.then_assoc] at hq0
   refine QR (QN (Mb (w:=QO (Ma (w:=MJ aPj (w:=aJ0 c aI (bT.use aT hq0 (fun _ _ x => x) fun t5 s5 h5 v5 ps5 fr5 hv5 hq5 => ?_)))))))
   obtain ⟨x5, three⟩ := t5
   obtain ⟨b5, n5, es5, rfl, kv5⟩ := hv5
   have hn5 := nx fr5.1
   rw [R.then_ok] at hq5
   cases three
   ·rw [if_neg Bool.false_ne_true] at hq5
    refine Ma (w:=Mq (w:=Mq (w:=Mv (w:=Mb (w:=QO (Ma (w:=Me (w:=QQ (Gd [⟨0, .read, 0⟩, ⟨1, .aF, 0⟩, ⟨2, .aF, 3⟩, ⟨3, .aF, 7⟩] (w:=Ru (w:=?_)))))))))));refine WD.aF hX (hw := ?_)
    refine QJ oZ ?_
    refine lB fun h6 g6 => ?_
    have hn6 := nx g6.1
    refine WD.aF hX (hw := Qv ?_);refine WD.aF hX (hw := Qv ?_);refine WD.nil (hq:=?_)
    refine ⟨(c5, x5), s5, ?_, hq5⟩
    exact ⟨aL, aL, aL, aL, aL, aL, aI, aT, aD, aD, aB, aB, ⟨_, _, _, aD, NV.none _ _⟩, ⟨_, _, _, aD, (kv5.kp)⟩, ⟨_, _, _, aD, NV.none _ _⟩⟩
   ·rw [if_pos rfl] at hq5
    refine Ma (w:=Mq (w:=Mq (w:=Mv (w:=Mb (w:=QO (Ma (w:=Me (w:=QP (UA ?_)))))))))
    refine ⟨(x5, c5), s5, ?_, hq5⟩
    exact ⟨aL, aL, aL, aL, aL, aL, aI, aT, aD, aD, aB, aB, ⟨_, _, _, aD, (kv5.kp)⟩, ⟨_, _, _, aD, NV.none _ _⟩, ⟨_, _, _, aD, NV.none _ _⟩⟩
  ·rw [hb4, if_pos rfl, R.then_ok] at hq0
   refine QS (UA ?_)
   refine ⟨(c5, c5), s, ?_, hq0⟩
   exact ⟨aL, aL, aL, aL, aL, aL, aI, aT, aD, aD, aB, aB, ⟨_, _, _, aD, NV.none _ _⟩, ⟨_, _, _, aD, NV.none _ _⟩, ⟨_, _, _, aD, NV.none _ _⟩⟩
 generalize h3.next = n5
 rintro e h6 ⟨⟨f, cc⟩, s6, ⟨e0, e3, e4, e5, e6, e7, ps6, fr6, hot, hoz, hn6, hn6b, ⟨bf, nf, ef, hof, kvf⟩, ⟨bc, nc, ec, hoc, kvc⟩, ⟨bl, nl, el, hol, kvl⟩⟩, hq6⟩
 simp only at hof kvf hoc kvc hq6
 have hnn6 := fr6.1
 unfold yT at hq6
 simp only at hq6
 refine QU (QN (Ma (w:=MJ nR (w:=nT (L := L) (hd := hd) (s := s6) aI fun h7 ps7 fr7 => ?_))))
 have hn7 := nx fr7.1
 refine QL ?_
 refine WC.cut (N' := fun e h' => ∃ cl s', aLm p L hd h tk n5 f cl.1 cl.2 s' e h' ∧ bT (VN fun j => h.next ≤ j) p L hd h Q (yU r tk L hd f cl s')) ?_ ?_
 ·unfold rG at ps7
  cases hb7 : cC L s6 [⟨#[59]⟩]
  ·rw [hb7, if_neg Bool.false_ne_true] at ps7 hq6
   rw [R.then_ok] at hq6
   refine QS (UA ?_)
   refine ⟨(cc, c5), s6, ?_, hq6⟩
   exact ⟨aL, aL, aL, aL, aL, aL, aI, aT, aD, aD, aB, aB, ⟨_, _, _, aD, (kvf.kp)⟩, ⟨_, _, _, aD, (kvc.kp)⟩, ⟨_, _, _, aD, (kvl.kp)⟩⟩
  ·rw [hb7, if_pos rfl] at ps7 hq6
   simp only [R.then_assoc] at hq6
   refine QR (QU (QN (Ma (w:=My (w:=MJ c8 (w:=fB (L := L) (hd := hd) (s := s6.next) (ts := [⟨#[59]⟩]) aI aD aB rfl (by first | decide | simp) fun h8 g8 => ?_))))))
   have hn8 := nx g8.1
   cases hb8 : cC L s6.next [⟨#[59]⟩]
   ·rw [hb8, if_neg Bool.false_ne_true] at hq6
    refine Me (w:=QQ (QV (Ma (w:=Ma (w:=Mp (w:=MJ nQ (w:=?_)))))))
    refine gS (hd := hd) (hd' := true) (spec := r.expr L true s6.next) aI hG (fun {h9 Q9} ps9 fr9 hq9 => c.expr ps9 hq9) (Nu hq6 (k:=fun t9 s9 h9 b9 n9 es9 ps9 fr9 kv9 hn9 hq9 => ?_))
    refine Mv (w:=QO (Ma (w:=MJ eI (w:=Wn (hd := hd) hq9 (k:=fun tk10 s10 h10 ps10 fr10 hn10 hq10 => ?_)))))
    refine QO (Ma (w:=My (w:=MJ c8 (w:=fB (L := L) (hd := hd) (s := s10) (ts := [⟨#[123]⟩]) aI aD aB rfl (by first | decide | simp) fun h11 g11 => ?_))))
    have hn11 := nx g11.1
    cases hb11 : cC L s10 [⟨#[123]⟩]
    ·rw [hb11, if_neg Bool.false_ne_true] at hq10
     refine Me (w:=QQ (QV (Ma (w:=Ma (w:=Mp (w:=MJ nQ (w:=?_)))))))
     refine gS (hd := hd) (hd' := true) (spec := r.simple L true s10) aI aAx (fun {h12 Q12} ps12 fr12 hq12 => c.simple ps12 hq12) (Nu hq10 (k:=fun t12 s12 h12 b12 n12 es12 ps12 fr12 kv12 hn12 hq12 => ?_))
     rw [R.then_ok] at hq12
     refine Mv (w:=QL ?_)
     refine ⟨(t9, t12), s12, ?_, hq12⟩
     exact ⟨aL, aL, aL, aL, aL, aL, aI, aT, aD, aD, aB, aB, ⟨_, _, _, aD, (kvf.kp)⟩, ⟨_, _, _, aD, (kv9.kp)⟩, ⟨_, _, _, aD, (kv12.kp)⟩⟩
    ·rw [hb11, if_pos rfl, R.then_ok, R.then_ok] at hq10
     refine Me (w:=QP (UA ?_))
     refine ⟨(t9, c5), s10, ?_, hq10⟩
     exact ⟨aL, aL, aL, aL, aL, aL, aI, aT, aD, aD, aB, aB, ⟨_, _, _, aD, (kvf.kp)⟩, ⟨_, _, _, aD, (kv9.kp)⟩, ⟨_, _, _, aD, (kvl.kp)⟩⟩
   ·rw [hb8, if_pos rfl, R.then_ok] at hq6
    refine Me (w:=QP (UA (QN (Ma (w:=MJ eI (w:=Wn (hd := hd) hq6 (k:=fun tk10 s10 h10 ps10 fr10 hn10 hq10 => ?_)))))))
    refine QO (Ma (w:=My (w:=MJ c8 (w:=fB (L := L) (hd := hd) (s := s10) (ts := [⟨#[123]⟩]) aI aD aB rfl (by first | decide | simp) fun h11 g11 => ?_))))
    have hn11 := nx g11.1
    cases hb11 : cC L s10 [⟨#[123]⟩]
    ·rw [hb11, if_neg Bool.false_ne_true] at hq10
     refine Me (w:=QQ (QV (Ma (w:=Ma (w:=Mp (w:=MJ nQ (w:=?_)))))))
     refine gS (hd := hd) (hd' := true) (spec := r.simple L true s10) aI aAx (fun {h12 Q12} ps12 fr12 hq12 => c.simple ps12 hq12) (Nu hq10 (k:=fun t12 s12 h12 b12 n12 es12 ps12 fr12 kv12 hn12 hq12 => ?_))
     rw [R.then_ok] at hq12
     refine Mv (w:=QL ?_)
     refine ⟨(cc, t12), s12, ?_, hq12⟩
     exact ⟨aL, aL, aL, aL, aL, aL, aI, aT, aD, aD, aB, aB, ⟨_, _, _, aD, (kvf.kp)⟩, ⟨_, _, _, aD, (kvc.kp)⟩, ⟨_, _, _, aD, (kv12.kp)⟩⟩
    ·rw [hb11, if_pos rfl, R.then_ok, R.then_ok] at hq10
     refine Me (w:=QP (UA ?_))
     refine ⟨(cc, c5), s10, ?_, hq10⟩
     exact ⟨aL, aL, aL, aL, aL, aL, aI, aT, aD, aD, aB, aB, ⟨_, _, _, aD, (kvf.kp)⟩, ⟨_, _, _, aD, (kvc.kp)⟩, ⟨_, _, _, aD, (kvl.kp)⟩⟩
 clear e0 e3 e4 e5 e6 e7
 rintro e h9 ⟨⟨cc, l⟩, s9, ⟨e0, e3, e4, e5, e6, e7, ps9, fr9, hot, hoz, hn9, hn9b, ⟨bf, nf, ef, hof, kvf⟩, ⟨bc, nc, ec, hoc, kvc⟩, ⟨bl, nl, el, hol, kvl⟩⟩, hq9⟩
 simp only at hof kvf hoc kvc hol kvl hq9
 have hnn9 := fr9.1
 unfold yU at hq9
 refine QU (Gd [⟨0, .read, 0⟩, ⟨1, .read, 0⟩, ⟨2, .read, 0⟩, ⟨3, .read, 0⟩, ⟨4, .pure, 0⟩, ⟨5, .aF, 16⟩, ⟨6, .alloc, 62⟩, ⟨7, .aF, 127⟩, ⟨8, .aF, 255⟩] (w:=Ru (w:=Ru (w:=Ru (w:=Ru (w:=Da (w:=?_)))))));refine WD.aF hX (hw := ?_)
 refine QJ yP ?_
 refine c.block aI (Nu hq9 (k:=fun t10 s10 h10 b10 n10 es10 ps10 fr10 kv10 hn10 hq10 => ?_))
 refine WD.alloc (hw := Qz ?_);refine WD.aF hX (hw := ?_)
 refine QJ bM ?_
 refine bG fun h12 g12 => ?_
 have hn12 := nx g12.1
 refine WD.aF hX (hw := Qv ?_);refine WD.nil (hq:=WC.ret ?_)
 refine ⟨_, aM, ?_⟩
 refine hq10 _ _ aI aT ⟨_, _, _, rfl, NV.aZ ?_ _ _ _ _ _ _⟩
 apply KV.of4 (S := fun j => h.next ≤ j ∧ j < h10.next)
 (· exact aD); (· rfl); (· exact aB); (· exact aB); (· exact (kvf.kp)); (· exact (kvc.kp)); (· exact (kvl.kp)); (· exact (kv10.kp)); (· exact fun j hS hj => ⟨hS.1, by have := hS.2; exact aB⟩)

end Go.Proofs.ZL
end
