/- The parser, sixth part: files, and Parse. -/
import Derived.Test.YtpdkdgfknanipaaGreatDoorYP5
import Derived.Test.YtpdkdgfknanipaaGreatDoorYP3
import Derived.Test.YtpdkdgfknanipaaGreatDoorYP4
import Derived.Test.YtpdkdgfknanipaaGreatDoorYL3
import Derived.Test.YtpdkdgfknanipaaGreatDoorYL2
section
open Go Go.Am
namespace Go.Proofs.ZL
set_option maxRecDepth 100000
set_option linter.unusedSimpArgs false
set_option linter.unusedVariables false
set_option maxHeartbeats 4000000
theorem aH1 {r : Rec} {n : Nat} (hn : n ≤ 1000000) (c : qP r) : CN 212 (mP n r) := by
 intro p L hd s h Q ps hq0
 have hp := ps.lt
 unfold mP at hq0
 simp only at hq0
 by_cases h6 : (aK L s.k).kind = 6
 ·rw [if_pos h6] at hq0; exact hq0.elim
 rw [if_neg h6] at hq0
 have hm : s.k + 1 < L.length := ps.wf.more ps.at_ h6
 refine Wk Tryz.func212 Tryz.ntmps212 (w:=QN (Mw (w:=QO (Ma (w:=MJ cG (w:=bS (L := L) (hd := hd) (s := s) aI (hm) fun h2 ps2 fr2 => ?_))))))
 have hn2 := nx fr2.1
 generalize aK L s.k = tk at *
 refine Mw (w:=Mv (w:=QO (Mj (w:=Mt (w:=QL (Bk (QN (MB (w:=fun hh => Mb (w:=QQ (QN (Ma (w:=Mu (w:=QK ?_)))))) (v:=fun hh => Mb (w:=QP (QN (MB (w:=fun hh => Mb (w:=QQ (QN (QK ?_)))) (v:=fun hh => Mb (w:=QP (QU (Gd [⟨0, .read, 0⟩, ⟨1, .pure, 0⟩, ⟨2, .pure, 0⟩, ⟨3, .pure, 4⟩, ⟨4, .aF, 14⟩, ⟨5, .aF, 31⟩, ⟨6, .aF, 63⟩] (w:=Ru (w:=Da (w:=Da (w:=Dp (w:=?_)))))))))))))))))))));rotate_left 2;refine WD.aF hX (hw := ?_);rotate_left
 ·rw [if_pos (by assumption), ← R.dA (sE r tk L hd s.next)] at hq0
  refine QJ aPg ?_
  refine aM7 c (tk := tk) aI (Nu hq0 (k:=fun t4 s4 h4 b4 n4 es4 ps4 fr4 kv4 hn4 hq4 => ?_))
  refine Mv (w:=QM ?_)
  refine ⟨_, aM, ?_⟩
  exact hq4 _ _ aI aT ⟨_, _, _, rfl, (kv4.kp)⟩
 ·rw [if_neg (by assumption), if_pos (by assumption)] at hq0
  refine QJ oZ ?_
  refine lB fun h3 g3 => ?_
  have hn3 := nx g3.1
  refine Mw (w:=Mv (w:=QL (QU (QN (Ma (w:=My (w:=MJ c8 (w:=fB (L := L) (hd := hd) (s := s.next) (ts := [⟨#[123]⟩]) aI aD aB rfl (by first | decide | simp) fun h4 g4 => ?_))))))))
  have hn4 := nx g4.1
  cases hb4 : cC L s.next [⟨#[123]⟩]
  ·rw [hb4, if_neg Bool.false_ne_true] at hq0
   refine Me (w:=QQ (QV (Ma (w:=Ma (w:=Mp (w:=MJ nQ (w:=?_)))))))
   refine gS (hd := hd) (hd' := true) (spec := r.expr L true s.next) aI hG (fun {h5 Q5} ps5 fr5 hq5 => c.expr ps5 hq5) (Nu hq0 (k:=fun t5 s5 h5 b5 n5 es5 ps5 fr5 kv5 hn5 hq5 => ?_))
   refine Mv (w:=QL (QU (Gd [⟨0, .read, 0⟩, ⟨1, .read, 0⟩, ⟨2, .alloc, 2⟩, ⟨3, .pure, 0⟩, ⟨4, .pure, 0⟩, ⟨5, .pure, 16⟩, ⟨6, .aF, 56⟩, ⟨7, .aF, 126⟩, ⟨8, .aF, 255⟩, ⟨9, .aF, 511⟩] (w:=Ru (w:=Ru (w:=?_))))));refine WD.alloc (hw := Qz ?_);refine Da (w:=Da (w:=Dp (w:=?_)));refine WD.aF hX (hw := ?_)
   refine QJ aG6 ?_
   refine tE (L := L) (hd := hd) (s := s5) hn aLz (aAp hn c) aI (bT.aN8 aT hq5 (fun _ _ x => x) fun t10 s10 h10 v10 hr10 ps10 fr10 hv10 hq10 => ?_)
   obtain ⟨b10, n10, es10, rfl, kv10⟩ := hv10
   have hn10 := nx fr10.1
   have hlen := rY hr10
   have hl10 := kv10.len
   refine WD.aF hX (hw := ?_)
   refine WS.kQ (h := h10) (S1 := fun j => h2.next < j ∧ j < h5.next + 1) (S2 := fun j => h5.next + 1 ≤ j) (k1 := [t5]) (k2 := t10) rfl rfl aL aL rfl rfl (by intro k hk; cases hk) (cE rfl) (by unfold room; omega)
    (KV.one (i := h5.next) (S := fun j => h2.next < j ∧ j < h5.next) aB aB aD (kv5.kp) (fun j hS hj => ⟨⟨hS.1, by have := hS.2; exact aB⟩, by have := hS.2; exact aB⟩)) (kv10.mono aB (fun j hS hj => by (try simp only [UB, UC] at hS); exact ⟨aB, rfl⟩)) (fun x hx _ off e => by cases e; omega) ?_
   intro h11 b11 es11 hn11 kv11 hf11
   have hk11 : ∀ j, j < h5.next → h11.obj j = h10.obj j := fun j hj => hf11 j aB (by intro off e; cases e; omega)
   have fr11 : cJ p h h11 := cJ.dC (H := h10) aT aB fun j hj => hk11 j (by omega)
   have ps11 : cF h11 p L hd s10 := cF.dC (h := h10) ps10 aB fun j hj => hk11 j (by omega)
   have ho11z : h11.obj h.next = some (Z0) := (hk11 _ (by omega)).trans aD
   have ho11t : h11.obj h2.next = some (.cells false tk.cells) := (hk11 _ (by omega)).trans aD
   refine WD.aF hX (hw := ?_)
   refine QJ bM ?_
   refine bG fun h12 g12 => ?_
   have hn12 := nx g12.1
   refine WD.aF hX (hw := Qv ?_);refine WD.nil (hq:=WC.ret ?_)
   refine ⟨_, aM, ?_⟩
   refine hq10 _ _ aI aT ⟨_, _, _, rfl, NV.aZ ?_ _ _ _ _ _ _⟩
   exact (kv11.kp)
  ·rw [hb4, if_pos rfl, R.then_ok] at hq0
   refine Me (w:=QP (UA (QU (Gd [⟨0, .read, 0⟩, ⟨1, .read, 0⟩, ⟨2, .alloc, 2⟩, ⟨3, .pure, 0⟩, ⟨4, .pure, 0⟩, ⟨5, .pure, 16⟩, ⟨6, .aF, 56⟩, ⟨7, .aF, 126⟩, ⟨8, .aF, 255⟩, ⟨9, .aF, 511⟩] (w:=Ru (w:=Ru (w:=?_)))))));refine WD.alloc (hw := Qz ?_);refine Da (w:=Da (w:=Dp (w:=?_)));refine WD.aF hX (hw := ?_)
   refine QJ aG6 ?_
   refine tE (L := L) (hd := hd) (s := s.next) hn aLz (aAp hn c) aI (bT.aN8 aT hq0 (fun _ _ x => x) fun t10 s10 h10 v10 hr10 ps10 fr10 hv10 hq10 => ?_)
   obtain ⟨b10, n10, es10, rfl, kv10⟩ := hv10
   have hn10 := nx fr10.1
   have hlen := rY hr10
   have hl10 := kv10.len
   refine WD.aF hX (hw := ?_)
   refine WS.kQ (h := h10) (S1 := fun j => h2.next < j ∧ j < h4.next + 1) (S2 := fun j => h4.next + 1 ≤ j) (k1 := [c5]) (k2 := t10) rfl rfl aL aL rfl rfl (by intro k hk; cases hk) (cE rfl) (by unfold room; omega)
    (KV.one (i := h4.next) (S := fun j => h2.next < j ∧ j < h4.next) aB aB aD (NV.none _ _) (fun j hS hj => ⟨⟨hS.1, by have := hS.2; exact aB⟩, by have := hS.2; exact aB⟩)) (kv10.mono aB (fun j hS hj => by (try simp only [UB, UC] at hS); exact ⟨aB, rfl⟩)) (fun x hx _ off e => by cases e; omega) ?_
   intro h11 b11 es11 hn11 kv11 hf11
   have hk11 : ∀ j, j < h4.next → h11.obj j = h10.obj j := fun j hj => hf11 j aB (by intro off e; cases e; omega)
   have fr11 : cJ p h h11 := cJ.dC (H := h10) aT aB fun j hj => hk11 j (by omega)
   have ps11 : cF h11 p L hd s10 := cF.dC (h := h10) ps10 aB fun j hj => hk11 j (by omega)
   have ho11z : h11.obj h.next = some (Z0) := (hk11 _ (by omega)).trans aD
   have ho11t : h11.obj h2.next = some (.cells false tk.cells) := (hk11 _ (by omega)).trans aD
   refine WD.aF hX (hw := ?_)
   refine QJ bM ?_
   refine bG fun h12 g12 => ?_
   have hn12 := nx g12.1
   refine WD.aF hX (hw := Qv ?_);refine WD.nil (hq:=WC.ret ?_)
   refine ⟨_, aM, ?_⟩
   refine hq10 _ _ aI aT ⟨_, _, _, rfl, NV.aZ ?_ _ _ _ _ _ _⟩
   exact (kv11.kp)
 ·rw [if_neg (by assumption), if_neg (by assumption)] at hq0
  refine QJ aG6 ?_
  refine tE (L := L) (hd := hd) (s := s.next) hn aPh (aMp c) aI (Nuk hq0 (k:=fun t10 s10 h10 b10 n10 es10 ps10 fr10 kv10 hn10 hq10 => ?_))
  refine WD.aF hX (hw := ?_)
  refine QJ bM ?_
  refine bG fun h11 g11 => ?_
  have hn11 := nx g11.1
  refine WD.aF hX (hw := Qv ?_);refine WD.nil (hq:=WC.ret ?_)
  refine ⟨_, aM, ?_⟩
  refine hq10 _ _ aI aT ⟨_, _, _, rfl, NV.aZ ?_ _ _ _ _ _ _⟩
  exact (kv10.kp)

theorem aMs {r : Rec} {n : Nat} (hn : n ≤ 1000000) (c : qP r) : CN 86 (uF n r) := by
 intro p L hd s h Q ps hq0
 have hp := ps.lt
 have hm : (aK L s.k).kind ≠ 6 → s.k + 1 < L.length := ps.wf.more ps.at_
 unfold uF at hq0
 simp only at hq0
 refine Wk Tryz.func86 Tryz.ntmps86 (w:=QN (Mw (w:=QL (QU (Bk (QN (Ma (w:=My (w:=MJ c8 (w:=fB (L := L) (hd := hd) (s := s) (ts := [⟨#[116, 121, 112, 101]⟩]) aI aD aB rfl (by first | decide | simp) fun h1 g1 => ?_))))))))))
 have hn1 := nx g1.1
 cases hb1 : cC L s [⟨#[116, 121, 112, 101]⟩]
 case true =>
  rw [hb1, if_pos rfl] at hq0
  refine Mb (w:=QQ (QN (Ma (w:=MJ cG (w:=bS (L := L) (hd := hd) (s := s) aI (ps.wf.is ps.at_ hb1) fun h2 ps2 fr2 => ?_)))))
  have hn2 := nx fr2.1
  generalize aK L s.k = tk at *
  refine Mw (w:=Mv (w:=QO (Ma (w:=MJ oY (w:=kZ (hd := hd) aI (bT.use aT hq0 (fun _ _ x => x) fun tk3 s3 h3 v3 ps3 fr3 hv3 hq3 => ?_))))))
  subst hv3
  have hn3 := nx fr3.1
  refine Mw (w:=Mv (w:=QO (Ma (w:=MJ eI (w:=Wn (hd := hd) hq3 (k:=fun tk4 s4 h4 ps4 fr4 hn4 hq4 => ?_))))))
  refine QO (Ma (w:=MJ eI (w:=Wn (hd := hd) hq4 (k:=fun tk5 s5 h5 ps5 fr5 hn5 hq5 => ?_))))
  refine QO (Mu (w:=Mj (w:=Mt (w:=MJ bM (w:=bG fun h6 g6 => ?_)))))
  have hn6 := nx g6.1
  refine Mw (w:=Mv (w:=QL (QU (Bk ?_))))
  refine WC.cB hX (α := Nat × List Nd × St) (m := fun a => a.1) (Inv := fun a e h' => e 0 = some (pV p) ∧ e 2 = some (.pointer (some ⟨h.next, 0, none⟩)) ∧ e 5 = some (.pointer (some ⟨h6.next, 0, none⟩)) ∧ cF h' p L hd a.2.2 ∧ cJ p h h' ∧
   h'.obj h.next = some (Z0) ∧ h6.next < h'.next ∧ a.1 + a.2.1.length ≤ n ∧ (∃ b n es, h'.obj h6.next = some (.cells false (aG (nd 2 tk tk3.text a.2.1) b n es)) ∧ KV h' (fun j => h6.next < j) b n es a.2.1) ∧
   bT (VN fun j => h.next ≤ j) p L hd h Q ((r6 r L hd a.1 a.2.1 a.2.2).then fun kids s => .ok (nd 2 tk tk3.text kids) s.next))
   (n, [], s5) ⟨rfl, rfl, rfl, aI, aT, aD, aB, by simp, ⟨none, 0, 0, aD, KV.nil _ _⟩, hq5⟩ ?_
  rintro ⟨m, kids, s5⟩ env h5 ih ⟨e0, e2, e5, ps5, fr5, hoz, hn5, hm5, ⟨b5, n5, es5, hk5, kv5⟩, hq5⟩
  simp only at ps5 hm5 hk5 kv5 hq5
  have hnn5 := fr5.1
  obtain ⟨m, rfl⟩ : ∃ m', m = m' + 1 := by
   cases m with
   | zero => exact hq5.elim
   | succ m => exact ⟨m, rfl⟩
  unfold r6 dI at hq5
  have hl5 := kv5.len
  refine QU (QN (Ma (w:=My (w:=MJ c8 (w:=fB (L := L) (hd := hd) (s := s5) (ts := [⟨#[125]⟩]) aI aD aB rfl (by first | decide | simp) fun h17 g17 => ?_)))))
  have hn17 := nx g17.1
  cases hb17 : cC L s5 [⟨#[125]⟩]
  ·rw [hb17, if_neg Bool.false_ne_true] at hq5
   simp only [R.then_assoc] at hq5
   refine Me (w:=QQ (UA (Bk (QN (Ma (w:=MJ oY (w:=kZ (hd := hd) aI (bT.use aT hq5 (fun _ _ x => x) fun tk20 s20 h20 v20 ps20 fr20 hv20 hq20 => ?_))))))))
   subst hv20
   have hn20 := nx fr20.1
   refine Mw (w:=Mv (w:=QL (QU (Gd [⟨0, .pure, 0⟩, ⟨1, .read, 1⟩, ⟨2, .read, 0⟩, ⟨3, .pure, 0⟩, ⟨4, .read, 8⟩, ⟨5, .pure, 0⟩, ⟨6, .aF, 32⟩, ⟨7, .alloc, 96⟩, ⟨8, .aF, 252⟩, ⟨9, .alloc, 508⟩, ⟨10, .aF, 1023⟩, ⟨11, .pure, 2047⟩, ⟨12, .aF, 4095⟩] (w:=Dj (w:=Rt (w:=Ru (w:=Dj (w:=Rt (w:=Da (w:=?_)))))))))));refine WD.aF hX (hw := ?_)
   refine QJ nP ?_
   refine c.cD aI (Nu hq20 (k:=fun t8 s8 h8 b8 n8 es8 ps8 fr8 kv8 hn8 hq8 => ?_))
   refine WD.alloc (hw := Qz ?_);refine WD.aF hX (hw := ?_)
   refine QJ bM ?_
   refine bG fun h22 g22 => ?_
   have hn22 := nx g22.1
   refine WD.alloc (hw := Qz ?_);refine WD.aF hX (hw := ?_)
   have kvH := kv5.mono (S' := fun j => h6.next < j) (h' := (h22).alloc (.cells false (aG (nd 5 tk20 tk20.text [t8]) (some ⟨h8.next, 0, none⟩) 1 7))) aB (fun j hS hj => ⟨aB, bB⟩)
   have hbne := kvH.ne
   obtain ⟨old, hsa, hol, hold⟩ := kvH.sliceAt
   have hol2 : kids.length ≤ 1000000 := by omega
   apply WS.append
   (· rfl); (· rfl); (· exact aL); (· exact aL); (· rfl); (· rfl); (· intro k hk; cases hk); (· exact cE rfl); (· decide); (· exact aD); (· exact iC); (· rfl); (· unfold room; omega); (· rfl); (· exact hsa)
   intro h9 hn9 ho9 hf9
   simp only [UB, UC] at hn9 ho9 hf9
   have hk9 : ∀ j, j ≤ h6.next → h9.obj j = ((h22).alloc (.cells false (aG (nd 5 tk20 tk20.text [t8]) (some ⟨h8.next, 0, none⟩) 1 7))).obj j := fun j hj => hf9 j (by omega) (hbne j hj)
   have fr9 : cJ p h h9 := cJ.dC (H := (h22).alloc (.cells false (aG (nd 5 tk20 tk20.text [t8]) (some ⟨h8.next, 0, none⟩) 1 7))) aT aB fun j hj => hk9 j (by omega)
   have kv9 : KV h9 (fun j => h6.next < j) (some ⟨(h22).next + 1, 0, none⟩) (n5 + 1) 7 (kids ++ [(nd 5 tk20 tk20.text [t8])]) := KV.snoc (h := (h22).alloc (.cells false (aG (nd 5 tk20 tk20.text [t8]) (some ⟨h8.next, 0, none⟩) 1 7))) (S2 := fun j => h5.next ≤ j ∧ j < (h22).next) hol (by omega) hold (NV.aZ (KV.one (S := fun j => h5.next ≤ j ∧ j < h8.next) aB aB aD (kv8.kp) (fun j hS hj => ⟨⟨hS.1, by have := hS.2; exact aB⟩, by have := hS.2; exact aB⟩)) _ _ _ _ _ _) aB ho9 hf9 aB (fun x hx _ => by omega) (fun x hx hlt => ⟨by have := hx.1; omega, kv5.ge x hx.1⟩)
   have ps9 : cF h9 p L hd s8 := cF.dC (h := h22.alloc (.cells false (aG (nd 5 tk20 tk20.text [t8]) (some ⟨h8.next, 0, none⟩) 1 7))) aI aB fun j hj => hk9 j (by omega)
   have ho9z : h9.obj h.next = some (Z0) := (hk9 _ (by omega)).trans aD
   have ho9b : h9.obj h6.next = some (.cells false (aG (nd 2 tk tk3.text kids) b5 n5 es5)) := (hk9 _ (by omega)).trans aD
   refine Dj (w:=?_);refine WD.aF hX (hw := Qv ?_);refine WD.nil (hq:=QV (Ma (w:=MJ eI (w:=Wn (hd := hd) hq8 (k:=fun tk23 s23 h23 ps23 fr23 hn23 hq23 => ?_)))))
   (try simp only [R.then_ok] at hq23)
   refine QL ?_
   exact ih (m, kids ++ [nd 5 tk20 tk20.text [t8]], s23) _ _ (by simp) ⟨e0, e2, e5, aI, aT, aD, aB, by simp; omega, ⟨_, _, _, aD, kv9.kp⟩, hq23⟩
  ·rw [hb17, if_pos rfl] at hq5
   rw [R.then_ok] at hq5
   refine Me (w:=QP (WC.exit (aH (QN (Ma (w:=MJ cG (w:=bS (L := L) (hd := hd) (s := s5) aI (ps5.wf.is ps5.at_ hb17) fun h7 ps7 fr7 => ?_)))))))
   have hn7 := nx fr7.1
   refine QO (Mu (w:=Mv (w:=QM ?_)))
   refine ⟨_, aM, ?_⟩
   refine hq5 _ _ aI aT ⟨_, _, _, rfl, NV.aZ ?_ _ _ _ _ _ _⟩
   exact (kv5.kp)
 rw [hb1, if_neg Bool.false_ne_true] at hq0
 refine Mb (w:=QP (QN (Ma (w:=My (w:=MJ c8 (w:=fB (L := L) (hd := hd) (s := s) (ts := [⟨#[118, 97, 114]⟩]) aI aD aB rfl (by first | decide | simp) fun h11 g11 => ?_))))))
 have hn11 := nx g11.1
 cases hb11 : cC L s [⟨#[118, 97, 114]⟩]
 case true =>
  rw [hb11, if_pos rfl] at hq0
  refine Mb (w:=QQ (QN (Ma (w:=MJ cG (w:=bS (L := L) (hd := hd) (s := s) aI (ps.wf.is ps.at_ hb11) fun h2 ps2 fr2 => ?_)))))
  have hn2 := nx fr2.1
  generalize aK L s.k = tk at *
  refine Mw (w:=Mv (w:=QO (Ma (w:=MJ oY (w:=kZ (hd := hd) aI (bT.use aT hq0 (fun _ _ x => x) fun tk3 s3 h3 v3 ps3 fr3 hv3 hq3 => ?_))))))
  subst hv3
  have hn3 := nx fr3.1
  refine Mw (w:=Mv (w:=QL (QU (Gd [⟨0, .read, 0⟩, ⟨1, .pure, 0⟩, ⟨2, .read, 2⟩, ⟨3, .pure, 0⟩, ⟨4, .aF, 8⟩, ⟨5, .alloc, 24⟩, ⟨6, .aF, 63⟩, ⟨7, .aF, 127⟩] (w:=Ru (w:=Dj (w:=Rt (w:=Da (w:=?_)))))))));refine WD.aF hX (hw := ?_)
  refine QJ nP ?_
  refine c.cD aI (Nu hq3 (k:=fun t4 s4 h4 b4 n4 es4 ps4 fr4 kv4 hn4 hq4 => ?_))
  refine WD.alloc (hw := Qz ?_);refine WD.aF hX (hw := ?_)
  refine QJ bM ?_
  refine bG fun h6 g6 => ?_
  have hn6 := nx g6.1
  refine WD.aF hX (hw := Qv ?_);refine WD.nil (hq:=WC.ret ?_)
  refine ⟨_, aM, ?_⟩
  refine hq4 _ _ aI aT ⟨_, _, _, rfl, NV.aZ ?_ _ _ _ _ _ _⟩
  exact (KV.one (S := fun j => h.next ≤ j ∧ j < h4.next) aB aB aD (kv4.kp) (fun j hS hj => ⟨by have := hS.1; exact aB, by have := hS.2; exact aB⟩))
 rw [hb11, if_neg Bool.false_ne_true] at hq0
 refine Mb (w:=QP (QN (Ma (w:=My (w:=MJ c8 (w:=fB (L := L) (hd := hd) (s := s) (ts := [⟨#[102, 117, 110, 99]⟩]) aI aD aB rfl (by first | decide | simp) fun h12 g12 => ?_))))))
 have hn12 := nx g12.1
 cases hb12 : cC L s [⟨#[102, 117, 110, 99]⟩]
 case true =>
  rw [hb12, if_pos rfl] at hq0
  refine Mb (w:=QQ (QN (Ma (w:=MJ cG (w:=bS (L := L) (hd := hd) (s := s) aI (ps.wf.is ps.at_ hb12) fun h2 ps2 fr2 => ?_)))))
  have hn2 := nx fr2.1
  generalize aK L s.k = tk at *
  refine Mw (w:=Mv (w:=QO (Ma (w:=MJ oY (w:=kZ (hd := hd) aI (bT.use aT hq0 (fun _ _ x => x) fun tk3 s3 h3 v3 ps3 fr3 hv3 hq3 => ?_))))))
  subst hv3
  have hn3 := nx fr3.1
  refine Mw (w:=Mv (w:=QL (QU (Gd [⟨0, .read, 0⟩, ⟨1, .pure, 0⟩, ⟨2, .read, 2⟩, ⟨3, .pure, 0⟩, ⟨4, .aF, 8⟩, ⟨5, .aF, 31⟩, ⟨6, .aF, 63⟩] (w:=Ru (w:=Dj (w:=Rt (w:=Da (w:=?_)))))))));refine WD.aF hX (hw := ?_)
  refine QJ aLp ?_
  refine c.function aI (Nuk hq3 (k:=fun t4 s4 h4 b4 n4 es4 ps4 fr4 kv4 hn4 hq4 => ?_))
  refine WD.aF hX (hw := ?_)
  refine QJ bM ?_
  refine bG fun h6 g6 => ?_
  have hn6 := nx g6.1
  refine WD.aF hX (hw := Qv ?_);refine WD.nil (hq:=WC.ret ?_)
  refine ⟨_, aM, ?_⟩
  refine hq4 _ _ aI aT ⟨_, _, _, rfl, NV.aZ ?_ _ _ _ _ _ _⟩
  exact (kv4.kp)
 rw [hb12, if_neg Bool.false_ne_true] at hq0
 refine Mb (w:=QP (UA (QN (Ma (w:=MJ kS (w:=?_))))))
 exact eS (hd := hd) aI aT hq0 (fun _ _ x => x)

theorem aM0 {r : Rec} {n : Nat} (hn : n ≤ 1000000) (c : qP r) : CN 51 (lH n r) := by
 intro p L hd s h Q ps hq0
 have hp := ps.lt
 unfold lH at hq0
 refine Wk Tryz.func51 Tryz.ntmps51 (w:=QN (Mw (w:=QO (Mn (w:=Mw (w:=Mv (w:=QL (QU (Bk ?_)))))))))
 refine WC.cB hX (α := Nat × List Nd × St) (m := fun a => a.1) (Inv := fun a e h' => e 0 = some (pV p) ∧ e 2 = some (.pointer (some ⟨h.next, 0, none⟩)) ∧ e 3 = some (.pointer (some ⟨h.next + 1, 0, none⟩)) ∧ cF h' p L hd a.2.2 ∧ cJ p h h' ∧
  h'.obj h.next = some (Z0) ∧ h.next + 1 < h'.next ∧ a.1 + a.2.1.length ≤ n ∧ (∃ b n es, h'.obj (h.next + 1) = some (.cells false (aG (.mk 1 ⟨#[]⟩ 0 0 ⟨#[]⟩ 0 a.2.1) b n es)) ∧ KV h' (fun j => h.next + 1 < j) b n es a.2.1) ∧
  bT (VN fun j => h.next ≤ j) p L hd h Q ((nC n r L hd a.1 a.2.1 a.2.2).then fun kids s => .ok (.mk 1 ⟨#[]⟩ 0 0 ⟨#[]⟩ 0 kids) s))
  (n, [], s) ⟨rfl, rfl, rfl, aI, aT, aD, aB, by simp, ⟨none, 0, 0, aD, KV.nil _ _⟩, hq0⟩ ?_
 rintro ⟨m, kids, s5⟩ env h5 ih ⟨e0, e2, e5, ps5, fr5, hoz, hn5, hm5, ⟨b5, n5, es5, hk5, kv5⟩, hq5⟩
 simp only at ps5 hm5 hk5 kv5 hq5
 have hnn5 := fr5.1
 obtain ⟨m, rfl⟩ : ∃ m', m = m' + 1 := by
  cases m with
  | zero => exact hq5.elim
  | succ m => exact ⟨m, rfl⟩
 unfold nC at hq5
 have hl5 := kv5.len
 refine QU (QN (Ma (w:=MJ rB (w:=iU (L := L) (hd := hd) (s := s5) aI fun h6 g6 => ?_))))
 have hn6 := nx g6.1
 refine Mk (w:=ME (w:=fun hh => QQ (UA (Bk (QU (Gd [⟨0, .pure, 0⟩, ⟨1, .read, 1⟩, ⟨2, .pure, 0⟩, ⟨3, .aF, 4⟩, ⟨4, .alloc, 12⟩, ⟨5, .aF, 31⟩, ⟨6, .pure, 63⟩, ⟨7, .aF, 127⟩] (w:=Dj (w:=Rt (w:=Da (w:=?_))))))))) (v:=?_));refine WD.aF hX (hw := ?_);rotate_left;intro hh;refine QP (WC.exit (aH (QN (Mu (w:=Mv (w:=QM ?_))))));rotate_left
 ·rw [if_neg (by assumption)] at hq5
  simp only [R.then_assoc] at hq5
  refine QJ aQ2 ?_
  refine aMs hn c aI (Nu hq5 (k:=fun t8 s8 h8 b8 n8 es8 ps8 fr8 kv8 hn8 hq8 => ?_))
  refine WD.alloc (hw := Qz ?_);refine WD.aF hX (hw := ?_)
  have kvH := kv5.mono (S' := fun j => (h.next + 1) < j) (h' := (h8).alloc (.cells false (aG t8 b8 n8 es8))) aB (fun j hS hj => ⟨aB, bB⟩)
  have hbne := kvH.ne
  obtain ⟨old, hsa, hol, hold⟩ := kvH.sliceAt
  have hol2 : kids.length ≤ 1000000 := by omega
  apply WS.append
  (· rfl); (· rfl); (· exact aL); (· exact aL); (· rfl); (· rfl); (· intro k hk; cases hk); (· exact cE rfl); (· decide); (· exact aD); (· exact iC); (· rfl); (· unfold room; omega); (· rfl); (· exact hsa)
  intro h9 hn9 ho9 hf9
  simp only [UB, UC] at hn9 ho9 hf9
  have hk9 : ∀ j, j ≤ (h.next + 1) → h9.obj j = ((h8).alloc (.cells false (aG t8 b8 n8 es8))).obj j := fun j hj => hf9 j (by omega) (hbne j hj)
  have fr9 : cJ p h h9 := cJ.dC (H := (h8).alloc (.cells false (aG t8 b8 n8 es8))) aT aB fun j hj => hk9 j (by omega)
  have kv9 : KV h9 (fun j => (h.next + 1) < j) (some ⟨(h8).next + 1, 0, none⟩) (n5 + 1) 7 (kids ++ [t8]) := KV.snoc (h := (h8).alloc (.cells false (aG t8 b8 n8 es8))) (S2 := fun j => h5.next ≤ j ∧ j < (h8).next) hol (by omega) hold (kv8.kp) aB ho9 hf9 aB (fun x hx _ => by omega) (fun x hx hlt => ⟨by have := hx.1; omega, kv5.ge x hx.1⟩)
  have ps9 : cF h9 p L hd s8 := cF.dC (h := h8.alloc (.cells false (aG t8 b8 n8 es8))) aI aB fun j hj => hk9 j (by omega)
  have ho9z : h9.obj h.next = some (Z0) := (hk9 _ (by omega)).trans aD
  have ho9b : h9.obj (h.next + 1) = some (.cells false (aG (.mk 1 ⟨#[]⟩ 0 0 ⟨#[]⟩ 0 kids) b5 n5 es5)) := (hk9 _ (by omega)).trans aD
  refine Dj (w:=?_);refine WD.aF hX (hw := Qv ?_);refine WD.nil (hq:=QV (Ma (w:=MJ eI (w:=Wn (hd := hd) hq8 (k:=fun tk23 s23 h23 ps23 fr23 hn23 hq23 => ?_)))))
  refine QL ?_
  exact ih (m, kids ++ [t8], s23) _ _ (by simp) ⟨e0, e2, e5, aI, aT, aD, aB, by simp; omega, ⟨_, _, _, aD, kv9.kp⟩, hq23⟩
 ·rw [if_pos (Decidable.of_not_not (by assumption)), R.then_ok] at hq5
  refine ⟨_, aM, ?_⟩
  refine hq5 _ _ aI aT ⟨_, _, _, rfl, NV.aZ ?_ _ _ _ _ _ _⟩
  exact (kv5.kp)

theorem aOu : qP Rec.none where
 cD := fun _ h => h.elim
 function := fun _ h => h.elim
 block := fun _ h => h.elim
 stmts := fun _ h => h.elim
 stmt := fun _ h => h.elim
 nested := fun _ h => h.elim
 branch := fun _ h => h.elim
 expr := fun _ h => h.elim
 unary := fun _ h => h.elim
 cH := fun _ h => h.elim
 simple := fun _ h => h.elim
 binary := fun _ _ _ _ _ _ _ _ _ h => h.elim
theorem aLo : ∀ n, n ≤ 1000000 → qP (qQ n)
 | 0, _ => aOu
 | n + 1, hn => by
  have c := aLo n (by omega)
  have h : n ≤ 1000000 := by omega
  exact ⟨aQe h c, aC3 h c, aJm c, aK8 h c, aNv c, aH1 h c, aGq c, aMw c, aLe c, aFt h c, aIv c, fun a b => aGl h c a b⟩

def kW : Nd := .mk 0 ⟨#[]⟩ 0 0 ⟨#[]⟩ 0 []

theorem vT {src : ByteArray} : ∀ (m k : Nat) (l : List Tok), k ≤ src.size → src.size - k < m → (kP src m k l).err.isOk = true → ∃ l' p, (kP src m k l).list = l' ++ [⟨6, ⟨#[]⟩, 0, p⟩]
 | 0, k, l, hk, hm, _ => by omega
 | m + 1, k, l, hk, hm, h => by
  unfold kP at h ⊢
  split at h
  ·rename_i h1; rw [if_pos h1]; exact ⟨_, _, rfl⟩
  ·rename_i h1; rw [if_neg h1]
   split at h
   ·rename_i h2; rw [if_pos h2]
    have := sK (l := l) (show k < src.size by omega) h2
    exact vT m _ _ this.2.1 (by omega) h
   ·rename_i h2; exact (h2 h).elim

theorem vK {src : ByteArray} (h : (eE src).uW = 0) : WF (eE src).tY ∧ 0 < (eE src).tY.length ∧ (eE src).pos = 0 := by
 unfold eE at h ⊢
 split at h
 ·simp at h
 rename_i hsz
 rw [if_neg hsz]
 split at h
 case isFalse => simp at h
 rename_i hok
 rw [if_pos hok]
 split at h
 ·simp at h
 rename_i hd
 have hlen := tD (src := src) (src.size + 1) 0 [] (by omega) (by simp) hok
 obtain ⟨l', p, hl⟩ := vT (src := src) (src.size + 1) 0 [] (by omega) (by omega) hok
 have hlen' : (pB src).list.length ≤ src.size + 2 := hlen
 have hl' : (pB src).list = l' ++ [⟨6, ⟨#[]⟩, 0, p⟩] := hl
 simp only [hd]
 refine ⟨⟨by omega, fun k hk => ?_⟩, by rw [hl']; simp, trivial⟩
 rw [hl'] at hk ⊢
 simp only [List.length_append, List.length_singleton] at hk
 have : k = l'.length := by omega
 subst this
 unfold aK
 rw [List.getD_eq_getElem?_getD, List.getElem?_append_right (Nat.le_refl _), Nat.sub_self]
 rfl

def tT (n : Nat) (src : ByteArray) : Option (Nd × Int × Int) :=
 if (eE src).uW ≠ 0 then some (kW, (eE src).uW, (eE src).pos)
 else match lH n (qQ n) (eE src).tY false ⟨0, false⟩ with
  | .ok t _ => some (t, 0, 0)
  | .bad e => some (kW, 4, (aK (eE src).tY e).pos)
  | .out => none

def z8 (p : Int) (w : ByteArray) : Value := .iface 84 (.agg #[.iface 60 (iW p w)])

theorem aJq {i : Nat} (pos : Int) (w : ByteArray) {h4 : aA} (hz : h4.obj i = some (Z0)) (he : h4.obj (i + 1) = some (.cells false [.nilIface])) (hi : i + 1 < h4.next) :
  ∃ k e h5, lO Tryz.prog G (bZ Tryz.prog G X k) (Tryz.f50).ntmps pK true (nO (.pointer (some ⟨i, 0, none⟩)) (.pointer (some ⟨i + 1, 0, none⟩)) h4.next) (h4.alloc (.cells false [.int .i64 pos, .iface 162 (.string w)])) = some (.ok e h5) ∧
   (h4.next ≤ h5.next ∧ ∀ j, j < h4.next → j ≠ i → j ≠ i + 1 → h5.obj j = h4.obj j) ∧ h5.obj i = some (Z0) ∧ h5.obj (i + 1) = some (.cells false [z8 pos w]) := by
 refine WC.aNo (id := 2) ?_
 refine Gd [⟨0, .pure, 0⟩, ⟨1, .read, 0⟩, ⟨2, .pure, 2⟩, ⟨3, .pure, 6⟩, ⟨4, .pure, 14⟩, ⟨5, .aF, 1⟩, ⟨6, .aF, 63⟩] (w:=?_)
 refine Dn (w:=Ru (w:=?_));refine QW (k := Qo ?_);refine Dn (w:=?_);refine QW (k := Qo ?_);refine WD.aF hX (hw := Qv ?_);refine WD.aF hX (hw := Qv ?_);refine WD.nil (hq:=?_)
 exact ⟨⟨by simp, fun j h1 h2 h3 => bB⟩, aD, aD⟩

theorem aIe {n : Nat} (hn : n ≤ 1000000) {L : List Tok} (wf : WF L) (hL : 0 < L.length) {j : Nat} {h : aA} {Q : bR → Prop} (ho : h.obj j = some (.cells false (cellsOf L))) (hj : j < h.next)
  (hok : ∀ t s, lH n (qQ n) L false ⟨0, false⟩ = .ok t s → ∀ h' b m es, Gr h h' → NV h' (fun j => h.next ≤ j) (aG t b m es) t → Q (.ret (.tuple #[.agg (aG t b m es).toArray, .nilIface]) h'))
  (hbad : ∀ e, lH n (qQ n) L false ⟨0, false⟩ = .bad e → ∀ h' w, Gr h h' → Q (.ret (.tuple #[.agg (aG kW none 0 0).toArray, z8 (aK L e).pos w]) h'))
  (hout : lH n (qQ n) L false ⟨0, false⟩ ≠ .out) : aS Tryz.prog G X 27 [.slice (some ⟨j, 0, none⟩) L.length 4] h Q := by
 refine aS.defer (P := Tryz.prog) (X := X) (f := 27) (catchO := rA) hX rfl yI (Nat.le_of_ble_eq_true rfl) ?_
 refine Mw (w:=Mw (w:=QL ?_))
 refine ⟨_, _, rfl, rfl, ?_⟩
 show WR _ _ _ _ _ _ _ _ _ _
 refine Ma (w:=Mn (w:=Mx (w:=Mb (w:=QL ?_))))
 show WR _ _ _ _ _ _ _ _ _ _
 refine Ma (w:=MJ aQv (w:=?_))
 have ps : cF (((h.alloc (Z0)).alloc (.cells false [.nilIface])).alloc (.cells false [.slice (some ⟨j, 0, none⟩) L.length 4, .int .i64 0, .bool false, .bool false])) (h.next + 2) L false ⟨0, false⟩ :=
  ⟨by simp, ⟨j, by omega, cY, aD⟩, hL, wf⟩
 refine aM0 hn (aLo n hn) ps ?_
 cases hr : lH n (qQ n) L false ⟨0, false⟩ with
 | out => exact (hout hr).elim
 | ok t s =>
  intro h4 v ps4 fr4 hv
  obtain ⟨b4, n4, es4, rfl, kv4⟩ := hv
  have hn4 := nx fr4.1
  have g4 : Gr h h4 := ⟨by omega, fun i hi => (fr4.2 i aB (by simp only [aA.aC]; omega)).trans bB⟩
  refine Mv (w:=Mv (w:=QL ?_))
  refine ⟨_, aM, ?_⟩
  refine hok t s hr _ _ _ _ fG (kv4.kp)
 | bad e0 =>
  intro h4 w fr4
  have hb := hbad e0 hr
  generalize (aK L e0).pos = pos at hb ⊢
  have hn4 := nx fr4.1
  have g4 : Gr h h4 := ⟨by omega, fun i hi => (fr4.2 i aB (by simp only [aA.aC]; omega)).trans bB⟩
  have hz4 : h4.obj h.next = some (Z0) := fr4.at aB aB aD
  have he4 : h4.obj (h.next + 1) = some (.cells false [.nilIface]) := fr4.at aB aB aD
  obtain ⟨k, e5, h5, hreg, g5, ho1, ho2⟩ := aJq pos w hz4 he4 (by omega)
  have g5' : Gr h h5 := ⟨by have := g5.1; omega, fun i hi => (g5.2 i (by omega) (by omega) (by omega)).trans (g4.2 i hi)⟩
  refine ⟨k, h5, [.agg (aG kW none 0 0).toArray, z8 pos w], ?_, ?_, hb h5 w g5'⟩
  ·show (match lO Tryz.prog 0 (bZ Tryz.prog G X k) (Tryz.f50).ntmps pK true (nO (.pointer (some ⟨h.next, 0, none⟩)) (.pointer (some ⟨h.next + 1, 0, none⟩)) h4.next) (h4.alloc (.cells false [.int .i64 pos, .iface 162 (.string w)])) with
    | some (.ok _ h2) => some h2
    | _ => none) = some h5
   rw [hreg]
  ·apply cW; (· rfl); (· rfl); (· exact fF rfl); (· exact aD); (· exact iC); (· rfl)
   apply cX; (· rfl); (· rfl); (· exact aD); (· rfl)
   exact dO

theorem aJf {n : Nat} (hn : n ≤ 1000000) {src : ByteArray} {t : Nd} {st p : Int} (hs : tT n src = some (t, st, p)) {h : aA} {Q : bR → Prop}
  (hq : ∀ h' b m es, Gr h h' → NV h' (fun j => h.next ≤ j) (aG t b m es) t → Q (.ret (.tuple #[.agg (aG t b m es).toArray, .agg #[.int .i64 st, .int .i64 p]]) h')) : aS Tryz.prog G X 12 [.string src] h Q := by
 unfold tT at hs
 refine Wk Tryz.func12 Tryz.ntmps12 (w:=QN (Mw (w:=Mw (w:=QO (Ma (w:=MJ aQr (w:=aNr fun h1 b1 n1 es1 g1 ht1 => ?_)))))))
 have hn1 := nx g1.1
 refine Ma (w:=Mq (w:=Mq (w:=Mw (w:=Mb (w:=Mv (w:=QL (QU (QN (Mu (w:=Mn (w:=QK ?_)))))))))));refine aDy (h1 := ?_) (h2 := ?_);intro hh;refine QP (UA (QN (Ma (w:=QK ?_))));rotate_left;intro hh;refine QQ (QU (Gd [⟨0, .pure, 0⟩, ⟨1, .read, 0⟩, ⟨2, .aF, 1⟩, ⟨3, .aF, 7⟩] (w:=Dn (w:=Ru (w:=?_)))));refine WD.aF hX (hw := Qv ?_);refine WD.aF hX (hw := Qv ?_);refine WD.nil (hq:=WC.ret ?_);rotate_left
 all_goals have gh : Gr h h1 ∧ True := ⟨((Gr.alloc _ _).trans (Gr.alloc _ _)).trans g1, trivial⟩
 ·rw [if_neg (show ¬((eE src).uW ≠ 0) by simp [hh.1])] at hs
  obtain ⟨wf, hL, _⟩ := vK hh.1
  rcases ht1 with ⟨_, _, _, hnil⟩ | ⟨i, rfl, hlo, hlt, rfl, rfl, hoi⟩
  ·rw [hnil] at hL; simp at hL
  (try simp only [UB, UC] at hlo)
  generalize (eE src).tY = L at *
  refine QJ aQs ?_
  refine aIe hn wf hL (j := i) aD aB (fun t' s hr h2 b2 n2 es2 g2 kv2 => ?_) (fun e0 hr h2 w g2 => ?_) (fun hr => by rw [hr] at hs; cases hs)
  ·rw [hr] at hs
   cases hs
   have hn2 := nx g2.1
   have gh2 : Gr h h2 ∧ True := ⟨(Gr.put (gh.1.trans (Gr.alloc _ _)) (by omega)).trans g2, trivial⟩
   refine Ma (w:=Mq (w:=Mq (w:=Mw (w:=Mv (w:=Mb (w:=QO (Mw (w:=QL (QU (QN (Ma (w:=Mo (w:=MJ aJt (w:=aS.ext (X := X) (o := asO) rfl (fun C => rfl) ?_))))))))))))))
   refine QP (UA (QN (Mu (w:=Mn (w:=Mv (w:=Mv (w:=QM ?_)))))))
   refine ⟨_, aM, ?_⟩
   refine hq _ _ _ _ (by have := gh2.1; exact fG) (kv2.kp)
  ·rw [hr] at hs
   simp only at hs
   generalize (aK L e0).pos = pos at hs ⊢
   cases hs
   have hn2 := nx g2.1
   have gh2 : Gr h h2 ∧ True := ⟨(Gr.put (gh.1.trans (Gr.alloc _ _)) (by omega)).trans g2, trivial⟩
   refine Ma (w:=Mq (w:=Mq (w:=Mw (w:=Mv (w:=Mb (w:=QO (Mw (w:=QL (QU (QN (Ma (w:=Mo (w:=MJ aJt (w:=?_))))))))))))))
   generalize hH : (h2.alloc (.cells false [.int .i64 0, .string ⟨#[]⟩, .int .i64 0, .int .i64 0, .string ⟨#[]⟩, .int .i64 0, .slice none 0 0])).put h2.next _ = H
   have hnH : H.next = h2.next + 1 := by rw [← hH]; rfl
   have gH : Gr h H ∧ True := ⟨by rw [← hH]; exact Gr.put (gh2.1.trans (Gr.alloc _ _)) (by omega), trivial⟩
   have hz : H.obj h.next = some (Z0) := by
    rw [← hH]
    refine bF (by omega) (bX (by omega) (g2.at aB ?_))
    exact aD
   have hf : H.obj (h.next + 1) = some (.cells false [.int .i64 0, .int .i64 0]) := by
    rw [← hH]
    refine bF (by omega) (bX (by omega) (g2.at aB ?_))
    exact aD
   have hst : fW Tryz.prog 60 H.next 0 (iW p w) (H.alloc (.cells false [.int .i64 0, .nilIface])) = some ((H.alloc (.cells false [.int .i64 0, .nilIface])).put H.next (some (.cells false [.int .i64 p, .iface 162 (.string w)]))) :=
    tV rfl cY (Nat.le_refl 2) rfl rfl
   refine aS.ext (X := X) (o := asO) (r := .ret (.bool true) ((H.alloc (.cells false [.int .i64 0, .nilIface])).put H.next (some (.cells false [.int .i64 p, .iface 162 (.string w)])))) rfl (fun C => ?_) ?_
   ·show (fW Tryz.prog 60 H.next 0 (iW p w) (H.alloc (.cells false [.int .i64 0, .nilIface]))).map _ = _
    rw [hst]; rfl
   refine QQ (QU (Gd [⟨0, .pure, 0⟩, ⟨1, .pure, 0⟩, ⟨2, .read, 2⟩, ⟨3, .pure, 6⟩, ⟨4, .aF, 1⟩, ⟨5, .aF, 31⟩] (w:=Dn (w:=Dj (w:=Rt (w:=Dn (w:=?_)))))));refine WD.aF hX (hw := Qv ?_);refine WD.aF hX (hw := Qv ?_);refine WD.nil (hq:=WC.ret ?_)
   refine ⟨_, aM, ?_⟩
   exact hq _ none 0 0 (by have := gH.1; exact fG) (.leaf _ _ _ _ _ _)
 ·have hst : (eE src).uW ≠ 0 := fun h0 => hh ⟨h0, (vK h0).2.2, trivial⟩
  rw [if_pos hst] at hs
  cases hs
  refine ⟨_, aM, ?_⟩
  exact hq _ none 0 0 (by have := gh.1; exact fG) (.leaf _ _ _ _ _ _)

end Go.Proofs.ZL
end
