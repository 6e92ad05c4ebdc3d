/- The parser, fourth part: functions and statements. -/
import Derived.Test.YtpdkdgfknanipaaGreatDoorYP3
section
open Go Go.Am
namespace Go.Proofs.ZL
set_option maxRecDepth 100000
set_option linter.unusedSimpArgs false
set_option linter.unusedVariables false
set_option maxHeartbeats 4000000
variable {h : aA} {Q : bR → Prop} {L : List Tok} {p : Nat} {hd : Bool} {src : ByteArray}
theorem aC3 {r : Rec} {n : Nat} (hn : n ≤ 1000000) (c : qP r) : CK 115 (jB n r) := by
 intro p L hd s h Q ps hq0
 have hp := ps.lt
 unfold jB at hq0
 refine Wk Tryz.func115 Tryz.ntmps115 (w:=QN (Mb (w:=QO (Ma (w:=MJ eI (w:=Wn (hd := hd) hq0 (k:=fun tk1 s1 h1 ps1 fr1 hn1 hq1 => ?_)))))))
 refine MJ bM (w:=bG fun h2 g2 => ?_)
 have hn2 := nx g2.1
 refine Mw (w:=Mv (w:=QL (QU (Bk ?_))))
 refine WC.cB hX (α := Nat × List Nd × St) (m := fun a => a.1) (Inv := fun a e h' => e 0 = some (pV p) ∧ e 3 = some (.pointer (some ⟨h2.next, 0, none⟩)) ∧ cF h' p L hd a.2.2 ∧ cJ p h h' ∧
  h2.next < h'.next ∧ a.1 + a.2.1.length ≤ n ∧ (∃ b n es, h'.obj h2.next = some (.cells false (aG (nd 6 tk1 ⟨#[]⟩ a.2.1) b n es)) ∧ KV h' (fun j => h2.next < j) b n es a.2.1) ∧
  bT (VK fun j => h.next ≤ j) p L hd h Q ((dI L [⟨#[41]⟩] (fun kids s => (sW L s kids.isEmpty).then fun _ s => (gB L s).then fun x s => (r.cD L hd s).then fun y s => .ok (kids ++ [nd 7 x x.text [y]]) s) a.1 a.2.1 a.2.2).then fun kids s =>
   (if cC L s.next [⟨#[123]⟩] then .ok c5 s.next else r.cD L hd s.next).then fun result s => (r.block L false s).then fun b s => .ok [nd 6 tk1 ⟨#[]⟩ kids, result, b] s))
  (n, [], s1) ⟨rfl, rfl, aI, aT, aB, by simp, ⟨none, 0, 0, aD, KV.nil _ _⟩, hq1⟩ ?_
 rintro ⟨m, kids, s5⟩ env h5 ih ⟨e0, e3, ps5, fr5, hn5, hm5, ⟨b5, n5, es5, hk5, kv5⟩, hq5⟩
 simp only at ps5 hm5 hk5 kv5 hq5
 have hnn5 := fr5.1
 obtain ⟨m, rfl⟩ : ∃ m', m = m' + 1 := by
  cases m with
  | zero => exact hq5.elim
  | succ m => exact ⟨m, rfl⟩
 unfold dI at hq5
 have hl5 := kv5.len
 refine QU (QN (Ma (w:=My (w:=MJ c8 (w:=fB (L := L) (hd := hd) (s := s5) (ts := [⟨#[41]⟩]) aI aD aB rfl (by first | decide | simp) fun h6 g6 => ?_)))))
 have hn6 := nx g6.1
 cases hb6 : cC L s5 [⟨#[41]⟩]
 ·rw [hb6, if_neg Bool.false_ne_true] at hq5
  simp only [R.then_assoc] at hq5
  unfold sW at hq5
  refine Me (w:=QQ (UA (Bk (QU (QN (Mj (w:=Mt (w:=Ms (w:=MH (w:=fun hh => QQ (QV (Ma (w:=QK ?_)))) (v:=fun hh => QP (UA (QN (Ma (w:=QK ?_))))))))))))))
  ·have he : kids.isEmpty = false := by
    cases kids with
    | nil => simp at hl5; omega
    | cons a l => rfl
   rw [he, if_neg Bool.false_ne_true, R.then_assoc] at hq5
   refine QJ eI ?_
   refine Wn (hd := hd) hq5 (k:=fun tk7 s7 h7 ps7 fr7 hn7 hq7 => ?_)
   (try simp only [R.then_ok] at hq7)
   refine QO (Ma (w:=MJ oY (w:=kZ (hd := hd) aI (bT.use aT hq7 (fun _ _ x => x) fun tk20 s20 h20 v20 ps20 fr20 hv20 hq20 => ?_))))
   subst hv20
   have hn20 := nx fr20.1
   refine Mw (w:=Mv (w:=QL (Gd [⟨0, .pure, 0⟩, ⟨1, .read, 1⟩, ⟨2, .read, 0⟩, ⟨3, .pure, 0⟩, ⟨4, .read, 8⟩, ⟨5, .pure, 0⟩, ⟨6, .aF, 32⟩, ⟨7, .alloc, 96⟩, ⟨8, .aF, 252⟩, ⟨9, .alloc, 508⟩, ⟨10, .aF, 1023⟩, ⟨11, .pure, 2047⟩, ⟨12, .aF, 4095⟩] (w:=Dj (w:=Rt (w:=Ru (w:=Dj (w:=Rt (w:=Da (w:=?_))))))))));refine WD.aF hX (hw := ?_)
   refine QJ nP ?_
   refine c.cD aI (Nu hq20 (k:=fun t8 s8 h8 b8 n8 es8 ps8 fr8 kv8 hn8 hq8 => ?_))
   (try simp only [R.then_ok] at hq8)
   refine WD.alloc (hw := Qz ?_);refine WD.aF hX (hw := ?_)
   refine QJ bM ?_
   refine bG fun h22 g22 => ?_
   have hn22 := nx g22.1
   refine WD.alloc (hw := Qz ?_);refine WD.aF hX (hw := ?_)
   have kvH := kv5.mono (S' := fun j => h2.next < j) (h' := (h22).alloc (.cells false (aG (nd 7 tk20 tk20.text [t8]) (some ⟨h8.next, 0, none⟩) 1 7))) aB (fun j hS hj => ⟨aB, bB⟩)
   have hbne := kvH.ne
   obtain ⟨old, hsa, hol, hold⟩ := kvH.sliceAt
   have hol2 : kids.length ≤ 1000000 := by omega
   apply WS.append
   (· rfl); (· rfl); (· exact aL); (· exact aL); (· rfl); (· rfl); (· intro k hk; cases hk); (· exact cE rfl); (· decide); (· exact aD); (· exact iC); (· rfl); (· unfold room; omega); (· rfl); (· exact hsa)
   intro h9 hn9 ho9 hf9
   simp only [UB, UC] at hn9 ho9 hf9
   have hk9 : ∀ j, j ≤ h2.next → h9.obj j = ((h22).alloc (.cells false (aG (nd 7 tk20 tk20.text [t8]) (some ⟨h8.next, 0, none⟩) 1 7))).obj j := fun j hj => hf9 j (by omega) (hbne j hj)
   have fr9 : cJ p h h9 := cJ.dC (H := (h22).alloc (.cells false (aG (nd 7 tk20 tk20.text [t8]) (some ⟨h8.next, 0, none⟩) 1 7))) aT aB fun j hj => hk9 j (by omega)
   have kv9 : KV h9 (fun j => h2.next < j) (some ⟨(h22).next + 1, 0, none⟩) (n5 + 1) 7 (kids ++ [(nd 7 tk20 tk20.text [t8])]) := KV.snoc (h := (h22).alloc (.cells false (aG (nd 7 tk20 tk20.text [t8]) (some ⟨h8.next, 0, none⟩) 1 7))) (S2 := fun j => h5.next ≤ j ∧ j < (h22).next) hol (by omega) hold (NV.aZ (KV.one (S := fun j => h5.next ≤ j ∧ j < h8.next) aB aB aD (kv8.kp) (fun j hS hj => ⟨⟨hS.1, by have := hS.2; exact aB⟩, by have := hS.2; exact aB⟩)) _ _ _ _ _ _) aB ho9 hf9 aB (fun x hx _ => by omega) (fun x hx hlt => ⟨by have := hx.1; omega, kv5.ge x hx.1⟩)
   have ps9 : cF h9 p L hd s8 := cF.dC (h := h22.alloc (.cells false (aG (nd 7 tk20 tk20.text [t8]) (some ⟨h8.next, 0, none⟩) 1 7))) aI aB fun j hj => hk9 j (by omega)
   have ho9b : h9.obj h2.next = some (.cells false (aG (nd 6 tk1 ⟨#[]⟩ kids) b5 n5 es5)) := (hk9 _ (by omega)).trans aD
   refine Dj (w:=?_);refine WD.aF hX (hw := Qv ?_);refine WD.nil (hq:=?_)
   exact ih (m, kids ++ [nd 7 tk20 tk20.text [t8]], s8) _ _ (by simp) ⟨e0, e3, aI, aT, aB, by simp; omega, ⟨_, _, _, aD, kv9.kp⟩, hq8⟩
  ·have he : kids.isEmpty = true := by
    cases kids with
    | nil => rfl
    | cons a l => simp at hl5; omega
   rw [he, if_pos rfl, R.then_ok] at hq5
   skip
   refine QJ oY ?_
   refine kZ (hd := hd) aI (bT.use aT hq5 (fun _ _ x => x) fun tk20 s20 h20 v20 ps20 fr20 hv20 hq20 => ?_)
   subst hv20
   have hn20 := nx fr20.1
   refine Mw (w:=Mv (w:=QL (Gd [⟨0, .pure, 0⟩, ⟨1, .read, 1⟩, ⟨2, .read, 0⟩, ⟨3, .pure, 0⟩, ⟨4, .read, 8⟩, ⟨5, .pure, 0⟩, ⟨6, .aF, 32⟩, ⟨7, .alloc, 96⟩, ⟨8, .aF, 252⟩, ⟨9, .alloc, 508⟩, ⟨10, .aF, 1023⟩, ⟨11, .pure, 2047⟩, ⟨12, .aF, 4095⟩] (w:=Dj (w:=Rt (w:=Ru (w:=Dj (w:=Rt (w:=Da (w:=?_))))))))));refine WD.aF hX (hw := ?_)
   refine QJ nP ?_
   refine c.cD aI (Nu hq20 (k:=fun t8 s8 h8 b8 n8 es8 ps8 fr8 kv8 hn8 hq8 => ?_))
   (try simp only [R.then_ok] at hq8)
   refine WD.alloc (hw := Qz ?_);refine WD.aF hX (hw := ?_)
   refine QJ bM ?_
   refine bG fun h22 g22 => ?_
   have hn22 := nx g22.1
   refine WD.alloc (hw := Qz ?_);refine WD.aF hX (hw := ?_)
   have kvH := kv5.mono (S' := fun j => h2.next < j) (h' := (h22).alloc (.cells false (aG (nd 7 tk20 tk20.text [t8]) (some ⟨h8.next, 0, none⟩) 1 7))) aB (fun j hS hj => ⟨aB, bB⟩)
   have hbne := kvH.ne
   obtain ⟨old, hsa, hol, hold⟩ := kvH.sliceAt
   have hol2 : kids.length ≤ 1000000 := by omega
   apply WS.append
   (· rfl); (· rfl); (· exact aL); (· exact aL); (· rfl); (· rfl); (· intro k hk; cases hk); (· exact cE rfl); (· decide); (· exact aD); (· exact iC); (· rfl); (· unfold room; omega); (· rfl); (· exact hsa)
   intro h9 hn9 ho9 hf9
   simp only [UB, UC] at hn9 ho9 hf9
   have hk9 : ∀ j, j ≤ h2.next → h9.obj j = ((h22).alloc (.cells false (aG (nd 7 tk20 tk20.text [t8]) (some ⟨h8.next, 0, none⟩) 1 7))).obj j := fun j hj => hf9 j (by omega) (hbne j hj)
   have fr9 : cJ p h h9 := cJ.dC (H := (h22).alloc (.cells false (aG (nd 7 tk20 tk20.text [t8]) (some ⟨h8.next, 0, none⟩) 1 7))) aT aB fun j hj => hk9 j (by omega)
   have kv9 : KV h9 (fun j => h2.next < j) (some ⟨(h22).next + 1, 0, none⟩) (n5 + 1) 7 (kids ++ [(nd 7 tk20 tk20.text [t8])]) := KV.snoc (h := (h22).alloc (.cells false (aG (nd 7 tk20 tk20.text [t8]) (some ⟨h8.next, 0, none⟩) 1 7))) (S2 := fun j => h5.next ≤ j ∧ j < (h22).next) hol (by omega) hold (NV.aZ (KV.one (S := fun j => h5.next ≤ j ∧ j < h8.next) aB aB aD (kv8.kp) (fun j hS hj => ⟨⟨hS.1, by have := hS.2; exact aB⟩, by have := hS.2; exact aB⟩)) _ _ _ _ _ _) aB ho9 hf9 aB (fun x hx _ => by omega) (fun x hx hlt => ⟨by have := hx.1; omega, kv5.ge x hx.1⟩)
   have ps9 : cF h9 p L hd s8 := cF.dC (h := h22.alloc (.cells false (aG (nd 7 tk20 tk20.text [t8]) (some ⟨h8.next, 0, none⟩) 1 7))) aI aB fun j hj => hk9 j (by omega)
   have ho9b : h9.obj h2.next = some (.cells false (aG (nd 6 tk1 ⟨#[]⟩ kids) b5 n5 es5)) := (hk9 _ (by omega)).trans aD
   refine Dj (w:=?_);refine WD.aF hX (hw := Qv ?_);refine WD.nil (hq:=?_)
   exact ih (m, kids ++ [nd 7 tk20 tk20.text [t8]], s8) _ _ (by simp) ⟨e0, e3, aI, aT, aB, by simp; omega, ⟨_, _, _, aD, kv9.kp⟩, hq8⟩
 ·rw [hb6, if_pos rfl] at hq5
  rw [R.then_ok] at hq5
  refine Me (w:=QP (WC.exit (aH (QN (Ma (w:=MJ cG (w:=bS (L := L) (hd := hd) (s := s5) aI (ps5.wf.is ps5.at_ hb6) fun h7 ps7 fr7 => ?_)))))))
  have hn7 := nx fr7.1
  refine QO (MJ oZ (w:=lB fun h10 g10 => ?_))
  have hn10 := nx g10.1
  refine Mw (w:=Mv (w:=QL (QU (QN (Ma (w:=My (w:=MJ c8 (w:=fB (L := L) (hd := hd) (s := s5.next) (ts := [⟨#[123]⟩]) aI aD aB rfl (by first | decide | simp) fun h11 g11 => ?_))))))))
  have hn11 := nx g11.1
  cases hb11 : cC L s5.next [⟨#[123]⟩]
  ·rw [hb11, if_neg Bool.false_ne_true] at hq5
   refine Me (w:=QQ (QV (Ma (w:=MJ nP (w:=c.cD aI (Nu hq5 (k:=fun t12 s12 h12 b12 n12 es12 ps12 fr12 kv12 hn12 hq12 => ?_)))))))
   refine Mv (w:=QL (QU (Gd [⟨0, .read, 0⟩, ⟨1, .read, 0⟩, ⟨2, .pure, 0⟩, ⟨3, .pure, 0⟩, ⟨4, .pure, 8⟩, ⟨5, .aF, 28⟩, ⟨6, .alloc, 63⟩, ⟨7, .pure, 127⟩] (w:=Ru (w:=Ru (w:=Da (w:=Da (w:=Dp (w:=?_)))))))));refine WD.aF hX (hw := ?_)
   refine QJ nQ ?_
   refine gS (hd := hd) (hd' := false) (spec := r.block L false s12) aI yP (fun {h30 Q30} ps30 fr30 hq30 => c.block ps30 hq30) (Nu hq12 (k:=fun t30 s30 h30 b30 n30 es30 ps30 fr30 kv30 hn30 hq30 => ?_))
   refine WD.alloc (hw := Qz ?_);refine Db (w:=WD.nil (hq:=WC.ret ?_))
   refine ⟨_, aM, ?_⟩
   refine hq30 _ _ aI aT ⟨_, _, _, rfl, ?_⟩
   apply KV.of3  (S := fun j => h.next ≤ j ∧ j < h30.next)
   (· exact aD); (· rfl); (· exact aB); (· exact aB); (· exact NV.aZ (kv5.kp) _ _ _ _ _ _); (· exact (kv12.kp)); (· exact (kv30.kp)); (· exact fun j hS hj => ⟨hS.1, by have := hS.2; exact aB⟩)
  ·rw [hb11, if_pos rfl] at hq5
   rw [R.then_ok] at hq5
   refine Me (w:=QP (UA (QU (Gd [⟨0, .read, 0⟩, ⟨1, .read, 0⟩, ⟨2, .pure, 0⟩, ⟨3, .pure, 0⟩, ⟨4, .pure, 8⟩, ⟨5, .aF, 28⟩, ⟨6, .alloc, 63⟩, ⟨7, .pure, 127⟩] (w:=Ru (w:=Ru (w:=Da (w:=Da (w:=Dp (w:=?_))))))))));refine WD.aF hX (hw := ?_)
   refine QJ nQ ?_
   refine gS (hd := hd) (hd' := false) (spec := r.block L false s5.next) aI yP (fun {h30 Q30} ps30 fr30 hq30 => c.block ps30 hq30) (Nu hq5 (k:=fun t30 s30 h30 b30 n30 es30 ps30 fr30 kv30 hn30 hq30 => ?_))
   refine WD.alloc (hw := Qz ?_);refine Db (w:=WD.nil (hq:=WC.ret ?_))
   refine ⟨_, aM, ?_⟩
   refine hq30 _ _ aI aT ⟨_, _, _, rfl, ?_⟩
   apply KV.of3 (b2 := none) (n2 := 0) (es2 := 0) (S := fun j => h.next ≤ j ∧ j < h30.next)
   (· exact aD); (· rfl); (· exact aB); (· exact aB); (· exact NV.aZ (kv5.kp) _ _ _ _ _ _); (· exact (NV.none _ _)); (· exact (kv30.kp)); (· exact fun j hS hj => ⟨hS.1, by have := hS.2; exact aB⟩)

theorem aK8 {r : Rec} {n : Nat} (hn : n ≤ 1000000) (c : qP r) : CK 159 (rM n r) := by
 intro p L hd s h Q ps hq0
 have hp := ps.lt
 unfold rM at hq0
 refine Wk Tryz.func159 Tryz.ntmps159 (w:=QN (Mb (w:=QO (Mb (w:=QL (Bk ?_))))))
 refine WC.cB hX (α := Nat × List Nd × St) (m := fun a => a.1) (Inv := fun a e h' => e 0 = some (pV p) ∧ cF h' p L hd a.2.2 ∧ cJ p h h' ∧
  a.1 + a.2.1.length ≤ n ∧ (∃ b n es, e 3 = some (.slice b n es) ∧ KV h' (fun j => h.next ≤ j) b n es a.2.1) ∧
  bT (VK fun j => h.next ≤ j) p L hd h Q (kM r L hd a.1 a.2.1 a.2.2))
  (n, [], s) ⟨rfl, aI, aT, by simp, ⟨none, 0, 0, rfl, KV.nil _ _⟩, hq0⟩ ?_
 rintro ⟨m, kids, s5⟩ env h5 ih ⟨e0, ps5, fr5, hm5, ⟨b5, n5, es5, e3, kv5⟩, hq5⟩
 simp only at ps5 hm5 kv5 hq5
 have hnn5 := fr5.1
 obtain ⟨m, rfl⟩ : ∃ m', m = m' + 1 := by
  cases m with
  | zero => exact hq5.elim
  | succ m => exact ⟨m, rfl⟩
 unfold kM at hq5
 have hl5 := kv5.len
 refine Bk (QU (QN (Ma (w:=MJ nR (w:=nT (L := L) (hd := hd) (s := s5) aI fun h6 ps6 fr6 => ?_)))))
 have hn6 := nx fr6.1
 unfold rG at ps6
 cases hb6 : cC L s5 [⟨#[59]⟩]
 ·rw [hb6, if_neg Bool.false_ne_true] at ps6 hq5
  refine QP (UA (QU (QN (Ma (w:=My (w:=MJ c8 (w:=fB (L := L) (hd := hd) (s := s5) (ts := nS) aI aD aB rfl (by first | decide | simp) fun h7 g7 => ?_)))))))
  have hn7 := nx g7.1
  cases hb7 : cC L s5 nS
  ·rw [hb7, if_neg Bool.false_ne_true] at hq5
   refine QP (UA (QN (Ma (w:=Ma (w:=MJ aPf (w:=c.stmt aI (Nu hq5 (k:=fun t8 s8 h8 b8 n8 es8 ps8 fr8 kv8 hn8 hq8 => ?_))))))))
   refine Mz (w:=QK ?_)
   have kvH := kv5.mono (S' := fun j => (h.next - 1) < j) (h' := (h8).alloc (.cells false (aG t8 b8 n8 es8))) aB (fun j hS hj => ⟨aB, bB⟩)
   have hbne := kvH.ne
   obtain ⟨old, hsa, hol, hold⟩ := kvH.sliceAt
   have hol2 : kids.length ≤ 1000000 := by omega
   apply WS.append
   (· rfl); (· rfl); (· exact aL); (· exact aL); (· rfl); (· rfl); (· intro k hk; cases hk); (· exact cE rfl); (· decide); (· exact aD); (· exact iC); (· rfl); (· unfold room; omega); (· rfl); (· exact hsa)
   intro h9 hn9 ho9 hf9
   simp only [UB, UC] at hn9 ho9 hf9
   have hk9 : ∀ j, j ≤ (h.next - 1) → h9.obj j = ((h8).alloc (.cells false (aG t8 b8 n8 es8))).obj j := fun j hj => hf9 j (by omega) (hbne j hj)
   have fr9 : cJ p h h9 := cJ.dC (H := (h8).alloc (.cells false (aG t8 b8 n8 es8))) aT aB fun j hj => hk9 j (by omega)
   have kv9 : KV h9 (fun j => (h.next - 1) < j) (some ⟨(h8).next + 1, 0, none⟩) (n5 + 1) 7 (kids ++ [t8]) := KV.snoc (h := (h8).alloc (.cells false (aG t8 b8 n8 es8))) (S2 := fun j => h5.next ≤ j ∧ j < (h8).next) hol (by omega) hold (kv8.kp) aB ho9 hf9 aB (fun x hx _ => by omega) (fun x hx hlt => ⟨by have := hx.1; omega, kv5.ge x hx.1⟩)
   have ps9 : cF h9 p L hd s8 := cF.dC (h := h8.alloc (.cells false (aG t8 b8 n8 es8))) aI aB fun j hj => hk9 j (by omega)
   refine Mb (w:=QO (Ma (w:=My (w:=MJ c8 (w:=fB (L := L) (hd := hd) (s := s8) (ts := nS) aI aD aB rfl (by first | decide | simp) fun h30 g30 => ?_)))))
   have hn30 := nx g30.1
   cases hb30 : cC L s8 nS
   ·rw [hb30, if_neg Bool.false_ne_true] at hq8
    rw [R.then_assoc] at hq8
    refine Me (w:=QQ (QV (Ma (w:=MJ eI (w:=Wn (hd := hd) hq8 (k:=fun tk31 s31 h31 ps31 fr31 hn31 hq31 => ?_))))))
    (try simp only [R.then_ok] at hq31)
    refine QL ?_
    exact ih (m, kids ++ [t8], s31) _ _ (by simp) ⟨e0, aI, aT, by simp; omega, ⟨_, _, _, rfl, kv9.kp⟩, hq31⟩
   ·rw [hb30, if_pos rfl] at hq8
    rw [R.then_ok] at hq8
    refine Me (w:=QP (UA ?_))
    exact ih (m, kids ++ [t8], s8) _ _ (by simp) ⟨e0, aI, aT, by simp; omega, ⟨_, _, _, rfl, kv9.kp⟩, hq8⟩
  ·rw [hb7, if_pos rfl] at hq5
   refine QQ (QN (Ma (w:=Mb (w:=QM ?_))))
   refine ⟨_, aM, ?_⟩
   exact hq5 _ _ aI aT ⟨_, _, _, rfl, kv5.kp⟩
 ·rw [hb6, if_pos rfl] at ps6 hq5
  refine QQ (WC.exit (aH ?_))
  exact ih (m, kids, s5.next) _ _ (by simp) ⟨e0, aI, aT, by simp; omega, ⟨_, _, _, e3, kv5.kp⟩, hq5⟩

def aGd (p : Nat) (L : List Tok) (hd : Bool) (s : St) (h : aA) (c : List Value) (bare : Bool) (tk : Tok) (n1 x : Nat) (b : Bool) (e : Env) (h' : aA) : Prop :=
 e x = some (.bool b) ∧ e 0 = some (pV p) ∧ e 2 = some (.bool bare) ∧ e 4 = some (.pointer (some ⟨h.next, 0, none⟩)) ∧ e 6 = some (.pointer (some ⟨h.next + 1, 0, none⟩)) ∧ e 7 = some (.pointer (some ⟨n1, 0, none⟩)) ∧
  cF h' p L hd s ∧ cJ p h h' ∧ h'.obj h.next = some (.cells false c) ∧ h'.obj (h.next + 1) = some (Z0) ∧ h'.obj n1 = some (.cells false tk.cells) ∧ n1 < h'.next ∧ h.next + 1 < n1

theorem aIk {r : Rec} (c : qP r) {tn : Nd} {bn : Option Addr} {nn esn lo hi : Nat} {bare : Bool} {p : Nat} {L : List Tok} {hd : Bool} {s : St} {h : aA} {Q : bR → Prop} (ps : cF h p L hd s) (hlo : lo ≤ h.next) (hpl : p < lo) (hhi : hi ≤ h.next) (kvn : NV h (fun j => lo ≤ j ∧ j < hi) (aG tn bn nn esn) tn)
  (hq0 : bT (VN (fun j => lo ≤ j ∧ (j < hi ∨ h.next ≤ j))) p L hd h Q (nZ r tn bare L hd s)) : aS Tryz.prog G X 244 [pV p, .agg (aG tn bn nn esn).toArray, .bool bare] h Q := by
 have hp := ps.lt
 unfold nZ at hq0
 refine Wk Tryz.func244 Tryz.ntmps244 (w:=QN (Mx (w:=Mw (w:=QO (Ma (w:=MJ rB (w:=iU (L := L) (hd := hd) (s := s) aI fun h1 g1 => ?_)))))))
 have hn1 := nx g1.1
 simp only at hq0
 have hm : cC L s [⟨#[58, 61]⟩] = true → s.k + 1 < L.length := ps.wf.is ps.at_
 have hm2 : cC L s [⟨#[61]⟩, ⟨#[43, 61]⟩, ⟨#[45, 61]⟩, ⟨#[42, 61]⟩] = true → s.k + 1 < L.length := ps.wf.is ps.at_
 have hm3 : cC L s [⟨#[43, 43]⟩, ⟨#[45, 45]⟩] = true → s.k + 1 < L.length := ps.wf.is ps.at_
 have hm4 : cC L s [⟨#[60, 45]⟩] = true → s.k + 1 < L.length := ps.wf.is ps.at_
 generalize aK L s.k = tk at *
 refine Mw (w:=Mv (w:=QL (QU (Bk (QU ?_)))))
 refine WC.cut (N' := aGd p L hd s h (aG tn bn nn esn) bare tk h1.next 12 (cC L s [⟨#[58, 61]⟩] && decide (tn.kind = 40) && !bare)) ?_ ?_
 ·refine QV (Ma (w:=My (w:=MJ c8 (w:=fB (L := L) (hd := hd) (s := s) (ts := [⟨#[58, 61]⟩]) aI aD aB rfl (by first | decide | simp) fun h2 g2 => ?_))))
  have hn2 := nx g2.1
  cases hb2 : cC L s [⟨#[58, 61]⟩]
  ·refine Ma (w:=MA (w:=MA (w:=MA (w:=Md (w:=Ma (w:=MA (w:=MA (w:=Md (w:=Mb (w:=QL ?_))))))))))
   exact ⟨by simp [*, bL], aL, aL, aL, aL, aL, aI, aT, aD, aD, aD, aB, aB⟩
  ·refine Ma (w:=Mj (w:=Mt (w:=MD (w:=fun hh => Mc (w:=Ma (w:=Ma (w:=Me (w:=Mc (w:=Mb (w:=QL ?_))))))) (v:=fun hh => Mc (w:=Ma (w:=MA (w:=MA (w:=Md (w:=Mb (w:=QL ?_))))))))))
   all_goals (exact ⟨by simp [*, bL], aL, aL, aL, aL, aL, aI, aT, aD, aD, aD, aB, aB⟩)
 rintro e3 h3 ⟨et, e0, e2, e4, e6, e7, ps3, fr3, ho4, ho6, ho7, hn3, hn1b⟩
 have hnn3 := fr3.1
 generalize hc3 : (cC L s [⟨#[58, 61]⟩] && decide (tn.kind = 40) && !bare) = b at et hq0
 cases b
 case true =>
  rw [if_pos rfl] at hq0
  simp only [Bool.and_eq_true] at hc3
  refine QR (QN (Ma (w:=MJ cG (w:=bS (L := L) (hd := hd) (s := s) aI (hm hc3.1.1) fun h10 ps10 fr10 => ?_))))
  have hn10 := nx fr10.1
  refine QL (QU (Gd [⟨0, .read, 0⟩, ⟨1, .pure, 0⟩, ⟨2, .read, 2⟩, ⟨3, .pure, 0⟩, ⟨7, .alloc, 0⟩, ⟨4, .aF, 8⟩, ⟨5, .alloc, 24⟩, ⟨6, .aF, 63⟩, ⟨8, .aF, 255⟩] (w:=Ru (w:=Dj (w:=Rt (w:=Da (w:=?_)))))));refine WD.alloc (hw := Qw ?_);refine WD.aF hX (hw := ?_)
  refine QJ hG ?_
  refine c.expr aI (Nu hq0 (k:=fun t11 s11 h11 b11 n11 es11 ps11 fr11 kv11 hn11 hq11 => ?_))
  refine WD.alloc (hw := Qz ?_);refine WD.aF hX (hw := ?_)
  refine QJ bM ?_
  refine bG fun h12 g12 => ?_
  have hn12 := nx g12.1
  refine WD.aF hX (hw := Qv ?_);refine WD.nil (hq:=QN (Mj (w:=Mt (w:=Mj (w:=Mv (w:=QO (Mu (w:=Mv (w:=QM ?_)))))))))
  refine ⟨_, aM, ?_⟩
  refine hq11 _ _ aI aT ⟨_, _, _, rfl, NV.aZ ?_ _ _ _ _ _ _⟩
  exact (KV.one (S := fun j => h.next ≤ j ∧ j < h11.next) aB aB aD (kv11.kp) (fun j hS hj => ⟨by have := hS.1; exact aB, by have := hS.2; exact aB⟩))
 rw [if_neg Bool.false_ne_true] at hq0
 refine QS (QU ?_)
 refine WC.cut (N' := aGd p L hd s h (aG tn bn nn esn) bare tk h1.next 38 (cC L s [⟨#[61]⟩, ⟨#[43, 61]⟩, ⟨#[45, 61]⟩, ⟨#[42, 61]⟩] && fA tn && !bare)) ?_ ?_
 ·refine QV (Ma (w:=My (w:=MJ c8 (w:=fB (L := L) (hd := hd) (s := s) (ts := [⟨#[61]⟩, ⟨#[43, 61]⟩, ⟨#[45, 61]⟩, ⟨#[42, 61]⟩]) aI aD aB rfl (by first | decide | simp) fun h2 g2 => ?_))))
  have hn2 := nx g2.1
  cases hb2 : cC L s [⟨#[61]⟩, ⟨#[43, 61]⟩, ⟨#[45, 61]⟩, ⟨#[42, 61]⟩]
  ·refine Ma (w:=MA (w:=MA (w:=Md (w:=Ma (w:=MA (w:=MA (w:=Md (w:=Mb (w:=QL ?_)))))))))
   exact ⟨by simp [*, bL], aL, aL, aL, aL, aL, aI, aT, aD, aD, aD, aB, aB⟩
  ·refine Ma (w:=Mu (w:=MJ aL3 (w:=aB8 fun h20 g20 => ?_)))
   have hn20 := nx g20.1
   cases hb20 : fA tn
   ·refine Mc (w:=Ma (w:=MA (w:=MA (w:=Md (w:=Mb (w:=QL ?_))))))
    exact ⟨by simp [*, bL], aL, aL, aL, aL, aL, aI, aT, aD, aD, aD, aB, aB⟩
   ·refine Mc (w:=Ma (w:=Ma (w:=Me (w:=Mc (w:=Mb (w:=QL ?_))))))
    all_goals (exact ⟨by simp [*, bL], aL, aL, aL, aL, aL, aI, aT, aD, aD, aD, aB, aB⟩)
 rintro e4 h4 ⟨et, e0, e2, e4, e6, e7, ps4, fr4, ho4, ho6, ho7, hn4, hn1b⟩
 have hnn4 := fr4.1
 generalize hc4 : (cC L s [⟨#[61]⟩, ⟨#[43, 61]⟩, ⟨#[45, 61]⟩, ⟨#[42, 61]⟩] && fA tn && !bare) = b at et hq0
 cases b
 case true =>
  rw [if_pos rfl] at hq0
  simp only [Bool.and_eq_true] at hc4
  refine QR (QN (Ma (w:=MJ cG (w:=bS (L := L) (hd := hd) (s := s) aI (hm2 hc4.1.1) fun h10 ps10 fr10 => ?_))))
  have hn10 := nx fr10.1
  refine QL (QU (Gd [⟨0, .read, 0⟩, ⟨1, .pure, 0⟩, ⟨2, .read, 2⟩, ⟨3, .read, 0⟩, ⟨4, .pure, 0⟩, ⟨5, .aF, 16⟩, ⟨6, .alloc, 56⟩, ⟨7, .aF, 127⟩, ⟨8, .aF, 255⟩] (w:=Ru (w:=Dj (w:=Rt (w:=Ru (w:=Da (w:=?_))))))));refine WD.aF hX (hw := ?_)
  refine QJ hG ?_
  refine c.expr aI (Nu hq0 (k:=fun t11 s11 h11 b11 n11 es11 ps11 fr11 kv11 hn11 hq11 => ?_))
  refine WD.alloc (hw := Qz ?_);refine WD.aF hX (hw := ?_)
  refine QJ bM ?_
  refine bG fun h12 g12 => ?_
  have hn12 := nx g12.1
  refine WD.aF hX (hw := Qv ?_);refine WD.nil (hq:=WC.ret ?_)
  refine ⟨_, aM, ?_⟩
  refine hq11 _ _ aI aT ⟨_, _, _, rfl, NV.aZ ?_ _ _ _ _ _ _⟩
  exact (KV.two (S := fun j => lo ≤ j ∧ (j < hi ∨ h.next ≤ j) ∧ j < h11.next) aB aB aD (kvn.kp) (kv11.kp) (fun j hS hj => ⟨⟨hS.1, hS.2.1⟩, by have := hS.2.2; exact aB⟩))
 rw [if_neg Bool.false_ne_true] at hq0
 refine QS (QU ?_)
 refine WC.cut (N' := aGd p L hd s h (aG tn bn nn esn) bare tk h1.next 60 (cC L s [⟨#[43, 43]⟩, ⟨#[45, 45]⟩] && fA tn && !bare)) ?_ ?_
 ·refine QV (Ma (w:=My (w:=MJ c8 (w:=fB (L := L) (hd := hd) (s := s) (ts := [⟨#[43, 43]⟩, ⟨#[45, 45]⟩]) aI aD aB rfl (by first | decide | simp) fun h2 g2 => ?_))))
  have hn2 := nx g2.1
  cases hb2 : cC L s [⟨#[43, 43]⟩, ⟨#[45, 45]⟩]
  ·refine Ma (w:=MA (w:=MA (w:=Md (w:=Ma (w:=MA (w:=MA (w:=Md (w:=Mb (w:=QL ?_)))))))))
   exact ⟨by simp [*, bL], aL, aL, aL, aL, aL, aI, aT, aD, aD, aD, aB, aB⟩
  ·refine Ma (w:=Mu (w:=MJ aL3 (w:=aB8 fun h20 g20 => ?_)))
   have hn20 := nx g20.1
   cases hb20 : fA tn
   ·refine Mc (w:=Ma (w:=MA (w:=MA (w:=Md (w:=Mb (w:=QL ?_))))))
    exact ⟨by simp [*, bL], aL, aL, aL, aL, aL, aI, aT, aD, aD, aD, aB, aB⟩
   ·refine Mc (w:=Ma (w:=Ma (w:=Me (w:=Mc (w:=Mb (w:=QL ?_))))))
    all_goals (exact ⟨by simp [*, bL], aL, aL, aL, aL, aL, aI, aT, aD, aD, aD, aB, aB⟩)
 rintro e5 h5 ⟨et, e0, e2, e4, e6, e7, ps5, fr5, ho4, ho6, ho7, hn5, hn1b⟩
 have hnn5 := fr5.1
 generalize hc5 : (cC L s [⟨#[43, 43]⟩, ⟨#[45, 45]⟩] && fA tn && !bare) = b at et hq0
 cases b
 case true =>
  rw [if_pos rfl] at hq0
  simp only [Bool.and_eq_true] at hc5
  refine QR (QN (Ma (w:=MJ cG (w:=bS (L := L) (hd := hd) (s := s) aI (hm3 hc5.1.1) fun h10 ps10 fr10 => ?_))))
  have hn10 := nx fr10.1
  refine QO (Mu (w:=Mj (w:=Mt (w:=Mu (w:=Mz (w:=MJ bM (w:=bG fun h12 g12 => ?_)))))))
  have hn12 := nx g12.1
  refine Mv (w:=QM ?_)
  refine ⟨_, aM, ?_⟩
  refine hq0 _ _ aI aT ⟨_, _, _, rfl, NV.aZ ?_ _ _ _ _ _ _⟩
  exact (KV.one (S := fun j => lo ≤ j ∧ (j < hi ∨ h.next ≤ j) ∧ j < h10.next) aB aB aD (kvn.kp) (fun j hS hj => ⟨⟨hS.1, hS.2.1⟩, by have := hS.2.2; exact aB⟩))
 rw [if_neg Bool.false_ne_true] at hq0
 refine QS (QN (Ma (w:=My (w:=MJ c8 (w:=fB (L := L) (hd := hd) (s := s) (ts := [⟨#[60, 45]⟩]) aI aD aB rfl (by first | decide | simp) fun h6 g6 => ?_)))))
 have hn6 := nx g6.1
 cases hb6 : cC L s [⟨#[60, 45]⟩]
 case true =>
  rw [hb6, if_pos rfl] at hq0
  refine Mb (w:=QQ (QN (Ma (w:=MJ cG (w:=bS (L := L) (hd := hd) (s := s) aI (hm4 hb6) fun h10 ps10 fr10 => ?_)))))
  have hn10 := nx fr10.1
  refine QL (QU (Gd [⟨0, .read, 0⟩, ⟨1, .read, 0⟩, ⟨2, .pure, 0⟩, ⟨3, .aF, 4⟩, ⟨4, .alloc, 14⟩, ⟨5, .aF, 31⟩, ⟨6, .aF, 63⟩] (w:=Ru (w:=Ru (w:=Da (w:=?_))))));refine WD.aF hX (hw := ?_)
  refine QJ hG ?_
  refine c.expr aI (Nu hq0 (k:=fun t11 s11 h11 b11 n11 es11 ps11 fr11 kv11 hn11 hq11 => ?_))
  refine WD.alloc (hw := Qz ?_);refine WD.aF hX (hw := ?_)
  refine QJ bM ?_
  refine bG fun h12 g12 => ?_
  have hn12 := nx g12.1
  refine WD.aF hX (hw := Qv ?_);refine WD.nil (hq:=WC.ret ?_)
  refine ⟨_, aM, ?_⟩
  refine hq11 _ _ aI aT ⟨_, _, _, rfl, NV.aZ ?_ _ _ _ _ _ _⟩
  exact (KV.two (S := fun j => lo ≤ j ∧ (j < hi ∨ h.next ≤ j) ∧ j < h11.next) aB aB aD (kvn.kp) (kv11.kp) (fun j hS hj => ⟨⟨hS.1, hS.2.1⟩, by have := hS.2.2; exact aB⟩))
 rw [hb6, if_neg Bool.false_ne_true] at hq0
 refine Mb (w:=QP (QN (Mu (w:=MJ aL0 (w:=aAn fun h20 g20 => ?_)))))
 have hn20 := nx g20.1
 cases hb20 : fX tn
 ·rw [hb20, Bool.false_and, if_neg Bool.false_ne_true] at hq0
  refine Ma (w:=MA (w:=MA (w:=Md (w:=Mb (w:=QP (UA (QN (Ma (w:=MJ kS (w:=?_))))))))))
  exact eS (hd := hd) aI aT hq0 (fun _ _ x => x)
 ·rw [hb20, Bool.true_and] at hq0
  cases bare
  ·rw [Bool.not_false, if_pos rfl] at hq0
   refine Ma (w:=Ma (w:=Me (w:=Mc (w:=Mb (w:=QQ (QN (Mu (w:=Mu (w:=Mz (w:=MJ bM (w:=bG fun h12 g12 => ?_)))))))))))
   have hn12 := nx g12.1
   refine Mw (w:=Mv (w:=QO (Mj (w:=Mt (w:=Mj (w:=Mv (w:=QO (Mu (w:=Mv (w:=QM ?_))))))))))
   refine ⟨_, aM, ?_⟩
   refine hq0 _ _ aI aT ⟨_, _, _, rfl, NV.aZ ?_ _ _ _ _ _ _⟩
   exact (KV.one (S := fun j => lo ≤ j ∧ (j < hi ∨ h.next ≤ j) ∧ j < h20.next) aB aB aD (kvn.kp) (fun j hS hj => ⟨⟨hS.1, hS.2.1⟩, by have := hS.2.2; exact aB⟩))
  ·rw [Bool.not_true, if_neg Bool.false_ne_true] at hq0
   refine Ma (w:=Ma (w:=Me (w:=Mc (w:=Mb (w:=QP (UA (QN (Ma (w:=MJ kS (w:=?_))))))))))
   exact eS (hd := hd) aI aT hq0 (fun _ _ x => x)

theorem aIv {r : Rec} (c : qP r) : CN 226 (mS r) := by
 intro p L hd s h Q ps hq0
 have hp := ps.lt
 unfold mS at hq0
 refine Wk Tryz.func226 Tryz.ntmps226 (w:=QN (Mw (w:=QL (QU (QN (Ma (w:=My (w:=MJ c8 (w:=fB (L := L) (hd := hd) (s := s) (ts := [⟨#[60, 45]⟩]) aI aD aB rfl (by first | decide | simp) fun h1 g1 => ?_)))))))))
 have hn1 := nx g1.1
 cases hb1 : cC L s [⟨#[60, 45]⟩]
 ·rw [hb1, if_neg Bool.false_ne_true] at hq0
  refine QP (UA (QN (Ma (w:=MJ aAy (w:=c.cH aI (Nu hq0 (k:=fun t2 s2 h2 b2 n2 es2 ps2 fr2 kv2 hn2 hq2 => ?_)))))))
  obtain ⟨j3, hj3, ho3, hl3⟩ := ps2.tok
  rw [← R.dA (nZ r t2 s2.bare L hd s2)] at hq2
  refine Mw (w:=Mv (w:=QL (QU (Gd [⟨0, .pure, 0⟩, ⟨1, .read, 0⟩, ⟨2, .pure, 0⟩, ⟨3, .pure, 4⟩, ⟨4, .pure, 12⟩, ⟨5, .read, 28⟩, ⟨6, .aF, 63⟩, ⟨7, .aF, 127⟩] (w:=Da (w:=Ru (w:=Da (w:=Di (w:=Dj (w:=Rt (w:=?_)))))))))));refine WD.aF hX (hw := ?_)
  refine QJ aL1 ?_
  refine aIk c (lo := h1.next) (hi := h2.next) aI aB aB aB (kv2.kp) (Nu hq2 (k:=fun t4 s4 h4 b4 n4 es4 ps4 fr4 kv4 hn4 hq4 => ?_))
  refine WD.aF hX (hw := Qv ?_);refine WD.nil (hq:=WC.ret ?_)
  refine ⟨_, aM, ?_⟩
  exact hq4 _ _ aI aT ⟨_, _, _, rfl, (kv4.kp)⟩
 ·rw [hb1, if_pos rfl] at hq0
  simp only at hq0
  refine QQ (QN (Ma (w:=MJ cG (w:=bS (L := L) (hd := hd) (s := s) aI (ps.wf.is ps.at_ hb1) fun h2 ps2 fr2 => ?_))))
  have hn2 := nx fr2.1
  generalize aK L s.k = tk at *
  refine Mw (w:=Mv (w:=QL (QU (Gd [⟨0, .read, 0⟩, ⟨1, .read, 0⟩, ⟨2, .pure, 0⟩, ⟨3, .aF, 4⟩, ⟨4, .alloc, 12⟩, ⟨5, .aF, 30⟩, ⟨6, .alloc, 62⟩, ⟨7, .aF, 127⟩, ⟨8, .aF, 255⟩] (w:=Ru (w:=Ru (w:=Da (w:=?_))))))));refine WD.aF hX (hw := ?_)
  refine QJ aAz ?_
  refine c.unary aI (Nu hq0 (k:=fun t3 s3 h3 b3 n3 es3 ps3 fr3 kv3 hn3 hq3 => ?_))
  refine WD.alloc (hw := Qz ?_);refine WD.aF hX (hw := ?_)
  refine QJ bM ?_
  refine bG fun h4 g4 => ?_
  have hn4 := nx g4.1
  refine WD.alloc (hw := Qz ?_);refine WD.aF hX (hw := ?_)
  refine QJ bM ?_
  refine bG fun h5 g5 => ?_
  have hn5 := nx g5.1
  refine WD.aF hX (hw := Qv ?_);refine WD.nil (hq:=WC.ret ?_)
  refine ⟨_, aM, ?_⟩
  refine hq3 _ _ aI aT ⟨_, _, _, rfl, NV.aZ ?_ _ _ _ _ _ _⟩
  exact (KV.one (t := nd 41 tk ⟨#[60, 45]⟩ [t3]) (b := some ⟨h3.next, 0, none⟩) (n := 1) (es := 7) (S := fun j => h.next ≤ j ∧ j < h4.next) aB aB aD (NV.aZ (KV.one (S := fun j => h.next ≤ j ∧ j < h3.next) aB aB aD (kv3.kp) (fun j hS hj => ⟨⟨hS.1, by have := hS.2; exact aB⟩, by have := hS.2; exact aB⟩)) _ _ _ _ _ _) (fun j hS hj => ⟨hS.1, by have := hS.2; exact aB⟩))

theorem aGv {r : Rec} (c : qP r) : CN 213 (pJ r) := by
 intro p L hd s h Q ps hq0
 have hp := ps.lt
 unfold pJ at hq0
 refine Wk Tryz.func213 Tryz.ntmps213 (w:=QN (Mw (w:=QO (Ma (w:=MJ aAy (w:=c.cH aI (Nu hq0 (k:=fun t1 s1 h1 b1 n1 es1 ps1 fr1 kv1 hn1 hq1 => ?_))))))))
 refine Mw (w:=Mv (w:=QL (QU (QN (Mu (w:=MJ aL0 (w:=aAn fun h2 g2 => ?_)))))))
 have hn2 := nx g2.1
 cases hb : fX t1
 ·rw [hb, Bool.not_false, Bool.true_or, if_pos rfl] at hq1
  refine Me (w:=Ma (w:=MA (w:=MA (w:=MA (w:=MA (w:=Mc (w:=QQ (QV (Ma (w:=MJ kS (w:=?_)))))))))))
  exact eS (hd := hd) aI aT hq1 (fun _ _ x => x)
 ·rw [hb, Bool.not_true, Bool.false_or] at hq1
  obtain ⟨j3, hj3, ho3, hl3⟩ := ps1.tok
  cases hr : s1.bare
  ·rw [hr, if_neg Bool.false_ne_true] at hq1
   rw [hr] at ho3
   refine Me (w:=Ma (w:=Ma (w:=Mi (w:=Mj (w:=Mt (w:=Md (w:=QP (UA (QN (Mu (w:=Mv (w:=QM ?_))))))))))))
   refine ⟨_, aM, ?_⟩
   exact hq1 _ _ aI aT ⟨_, _, _, rfl, (kv1.kp)⟩
  ·rw [hr, if_pos rfl] at hq1
   rw [hr] at ho3
   refine Me (w:=Ma (w:=Ma (w:=Mi (w:=Mj (w:=Mt (w:=Md (w:=QQ (QV (Ma (w:=MJ kS (w:=?_)))))))))))
   exact eS (hd := hd) aI aT hq1 (fun _ _ x => x)

theorem aD1 {k : Nat} (hk : k < L.length) (i : Nat) (hi : i < 4) : (cellsOf L)[k * 4 + i]? = (aK L k).cells[i]? := by
 have := rX (yZ hk)
 rw [← this, List.getElem?_take, if_pos hi, List.getElem?_drop]
theorem yJ {s : St} (hk : s.k + 1 < L.length) : (cellsOf L)[0 + ((s.k : Int) + 1).toNat * 4 + 0]? = some (.int .i64 (aK L (s.k + 1)).kind) := by
 rw [show 0 + ((s.k : Int) + 1).toNat * 4 + 0 = (s.k + 1) * 4 + 0 by omega, aD1 hk 0 (by omega)]; rfl
theorem yK {s : St} (hk : s.k + 1 < L.length) : (cellsOf L)[0 + ((s.k : Int) + 1).toNat * 4 + 1]? = some (.string (aK L (s.k + 1)).text) := by
 rw [show 0 + ((s.k : Int) + 1).toNat * 4 + 1 = (s.k + 1) * 4 + 1 by omega, aD1 hk 1 (by omega)]; rfl

theorem aEn {r : Rec} (c : qP r) : CN 209 (l7 r) := by
 intro p L hd s h Q ps hq0
 have hp := ps.lt
 have hz := ps.wf.size
 have hks := ps.at_
 unfold l7 at hq0
 obtain ⟨j, hj, hop, hol⟩ := ps.tok
 refine Wk Tryz.func209 Tryz.ntmps209 (w:=QN (Mw (w:=QL (QU (QN (Ma (w:=MJ rB (w:=iU (L := L) (hd := hd) (s := s) aI fun h1 g1 => ?_))))))))
 have hn1 := nx g1.1
 simp only at hq0
 by_cases hk1 : (aK L s.k).kind = 1
 ·have hm : s.k + 1 < L.length := ps.wf.more ps.at_ (by omega)
  have ck := yJ hm
  have ct := yK hm
  have hmm : (aK L (s.k + 1)).kind ≠ 6 → s.k + 1 + 1 < L.length := ps.wf.more hm
  unfold jR at hq0
  generalize aK L s.k = tk at *
  generalize aK L (s.k + 1) = t2 at *
  rw [decide_eq_true hk1, Bool.true_and] at hq0
  refine Mw (w:=Mv (w:=QL (QU (Gd [⟨0, .pure, 0⟩, ⟨1, .read, 1⟩, ⟨2, .pure, 3⟩, ⟨3, .pure, 7⟩, ⟨4, .pure, 15⟩, ⟨5, .pure, 31⟩, ⟨6, .pure, 63⟩, ⟨7, .read, 127⟩, ⟨8, .pure, 15⟩, ⟨9, .pure, 271⟩, ⟨10, .pure, 783⟩, ⟨11, .read, 1807⟩, ⟨12, .pure, 3855⟩, ⟨13, .pure, 8191⟩, ⟨14, .pure, 16383⟩, ⟨15, .read, 32767⟩, ⟨16, .pure, 65535⟩, ⟨17, .pure, 131071⟩, ⟨18, .pure, 262143⟩, ⟨19, .pure, 524287⟩, ⟨20, .pure, 1048575⟩, ⟨21, .pure, 2097151⟩, ⟨22, .read, 4194303⟩, ⟨23, .pure, 524287⟩, ⟨24, .pure, 8912895⟩, ⟨25, .pure, 25690111⟩, ⟨26, .read, 59244543⟩, ⟨27, .pure, 126353407⟩, ⟨28, .pure, 268435455⟩, ⟨29, .pure, 536870911⟩, ⟨30, .read, 1073741823⟩, ⟨31, .pure, 2147483647⟩, ⟨32, .pure, 4294967295⟩] (w:=Dj (w:=Rt (w:=?_)))))));refine QW (k := QD ?_ ?_);intro hh;refine Da (w:=Da (w:=Di (w:=Dj (w:=Rt (w:=Da (w:=Di (w:=Dj (w:=Rt (w:=Df (w:=Dl (w:=Dj (w:=?_))))))))))));refine WD.read (hw := ?_);rotate_left;intro hh;exfalso;omega
  refine WS.jC (v := .int .i64 t2.kind) (hc := ck) (hk := ?_)
  refine QW (k := QD ?_ ?_);intro hh;refine Dc (w:=Da (w:=Da (w:=Di (w:=Dj (w:=Rt (w:=Da (w:=Di (w:=Dj (w:=Rt (w:=Df (w:=Dl (w:=Dj (w:=?_)))))))))))));refine WD.read (hw := ?_);rotate_left;intro hh;refine Dc (w:=Da (w:=DA (w:=DA (w:=DA (w:=RA (w:=DA (w:=DA (w:=DA (w:=RA (w:=DA (w:=DA (w:=DA (w:=RA (w:=DA (w:=Dd (w:=WD.nil (hq:=QS (UA (QN (Ma (w:=QK ?_)))))))))))))))))))));rotate_left
  ·refine WS.jC (v := .string t2.text) (hc := ct) (hk := ?_)
   refine QW (k := QB ?_ ?_);intro hh;refine Dc (w:=WD.nil (hq:=QR (QN (Ma (w:=Mi (w:=Mj (w:=Mt (w:=Mf (w:=Mi (w:=Mj (w:=Mv (w:=QL (QU (QN (Ma (w:=My (w:=QK ?_)))))))))))))))));rotate_left;intro hh;refine Dc (w:=WD.nil (hq:=QS (UA (QN (Ma (w:=QK ?_))))));rotate_left
   ·have hm2 : s.k + 2 < L.length := hmm (by omega)
    rw [decide_eq_true (by assumption), decide_eq_true (by assumption), Bool.true_and, if_pos rfl] at hq0
    refine QJ c8 ?_
    have fH : cJ p h h1 := aT
    refine fB (L := L) (hd := hd) (s := s.goto (s.k + 2)) (ts := [⟨#[102, 111, 114]⟩, ⟨#[115, 119, 105, 116, 99, 104]⟩, ⟨#[115, 101, 108, 101, 99, 116]⟩]) (cF.alloc (cF.self (hd := hd) (s := s) (j := j) aI aD hd (s.goto (s.k + 2)) hm2) _) aD aB rfl (by decide) fun h2 g2 => ?_
    have hn2 := nx g2.1
    have ps2 : cF h2 p L hd (s.goto (s.k + 2)) := (cF.alloc (cF.self (hd := hd) (s := s) (j := j) aI aD hd (s.goto (s.k + 2)) hm2) _).gr g2
    cases hb2 : cC L (s.goto (s.k + 2)) [⟨#[102, 111, 114]⟩, ⟨#[115, 119, 105, 116, 99, 104]⟩, ⟨#[115, 101, 108, 101, 99, 116]⟩]
    ·rw [hb2, if_neg Bool.false_ne_true] at hq0
     refine Me (w:=QQ (QV (Ma (w:=MJ kS (w:=?_)))))
     exact eS (hd := hd) aI aT hq0 (fun _ _ x => x)
    ·rw [hb2, if_pos rfl] at hq0
     refine Me (w:=QP (UA (QU (Gd [⟨0, .read, 0⟩, ⟨1, .pure, 0⟩, ⟨2, .read, 2⟩, ⟨3, .pure, 0⟩, ⟨4, .aF, 8⟩, ⟨5, .alloc, 24⟩, ⟨6, .aF, 63⟩, ⟨7, .aF, 127⟩] (w:=Ru (w:=Dj (w:=Rt (w:=Da (w:=?_)))))))));refine WD.aF hX (hw := ?_)
     refine QJ aD9 ?_
     refine c.nested aI (Nu hq0 (k:=fun t3 s3 h3 b3 n3 es3 ps3 fr3 kv3 hn3 hq3 => ?_))
     refine WD.alloc (hw := Qz ?_);refine WD.aF hX (hw := ?_)
     refine QJ bM ?_
     refine bG fun h4 g4 => ?_
     have hn4 := nx g4.1
     refine WD.aF hX (hw := Qv ?_);refine WD.nil (hq:=WC.ret ?_)
     refine ⟨_, aM, ?_⟩
     refine hq3 _ _ aI aT ⟨_, _, _, rfl, NV.aZ ?_ _ _ _ _ _ _⟩
     exact (KV.one (S := fun j => h.next ≤ j ∧ j < h3.next) aB aB aD (kv3.kp) (fun j hS hj => ⟨hS.1, by have := hS.2; exact aB⟩))
   ·rw [decide_eq_true (show t2.kind = 5 by assumption), decide_eq_false (by assumption), Bool.and_false, if_neg Bool.false_ne_true] at hq0
    rw [← R.dA (r.simple L hd s)] at hq0
    skip
    refine QJ aAx ?_
    refine c.simple aI (Nu hq0 (k:=fun t20 s20 h20 b20 n20 es20 ps20 fr20 kv20 hn20 hq20 => ?_))
    refine Mv (w:=QM ?_)
    refine ⟨_, aM, ?_⟩
    exact hq20 _ _ aI aT ⟨_, _, _, rfl, (kv20.kp)⟩
  ·rw [decide_eq_false (show ¬t2.kind = 5 by assumption), Bool.false_and, if_neg Bool.false_ne_true] at hq0
   rw [← R.dA (r.simple L hd s)] at hq0
   skip
   refine QJ aAx ?_
   refine c.simple aI (Nu hq0 (k:=fun t20 s20 h20 b20 n20 es20 ps20 fr20 kv20 hn20 hq20 => ?_))
   refine Mv (w:=QM ?_)
   refine ⟨_, aM, ?_⟩
   exact hq20 _ _ aI aT ⟨_, _, _, rfl, (kv20.kp)⟩
 ·rw [decide_eq_false hk1, Bool.false_and, if_neg Bool.false_ne_true] at hq0
  clear hop hol
  generalize aK L s.k = tk at *
  rw [← R.dA (r.simple L hd s)] at hq0
  refine Mw (w:=Mv (w:=QL (QU (Gd [⟨0, .pure, 0⟩, ⟨1, .read, 1⟩, ⟨2, .pure, 3⟩, ⟨3, .pure, 7⟩, ⟨4, .pure, 15⟩, ⟨5, .pure, 31⟩, ⟨6, .pure, 63⟩, ⟨7, .read, 127⟩, ⟨8, .pure, 15⟩, ⟨9, .pure, 271⟩, ⟨10, .pure, 783⟩, ⟨11, .read, 1807⟩, ⟨12, .pure, 3855⟩, ⟨13, .pure, 8191⟩, ⟨14, .pure, 16383⟩, ⟨15, .read, 32767⟩, ⟨16, .pure, 65535⟩, ⟨17, .pure, 131071⟩, ⟨18, .pure, 262143⟩, ⟨19, .pure, 524287⟩, ⟨20, .pure, 1048575⟩, ⟨21, .pure, 2097151⟩, ⟨22, .read, 4194303⟩, ⟨23, .pure, 524287⟩, ⟨24, .pure, 8912895⟩, ⟨25, .pure, 25690111⟩, ⟨26, .read, 59244543⟩, ⟨27, .pure, 126353407⟩, ⟨28, .pure, 268435455⟩, ⟨29, .pure, 536870911⟩, ⟨30, .read, 1073741823⟩, ⟨31, .pure, 2147483647⟩, ⟨32, .pure, 4294967295⟩] (w:=Dj (w:=Rt (w:=?_)))))));refine QW (k := QD ?_ ?_);intro hh;exfalso;omega;intro hh;refine Da (w:=DA (w:=DA (w:=DA (w:=RA (w:=DA (w:=DA (w:=DA (w:=RA (w:=DA (w:=DA (w:=DA (w:=RA (w:=DA (w:=Dd (w:=Da (w:=DA (w:=DA (w:=DA (w:=RA (w:=DA (w:=DA (w:=DA (w:=RA (w:=DA (w:=DA (w:=DA (w:=RA (w:=DA (w:=Dd (w:=WD.nil (hq:=QS (UA (QN (Ma (w:=MJ aAx (w:=c.simple aI (Nu hq0 (k:=fun t20 s20 h20 b20 n20 es20 ps20 fr20 kv20 hn20 hq20 => ?_))))))))))))))))))))))))))))))))))))))
  refine Mv (w:=QM ?_)
  refine ⟨_, aM, ?_⟩
  exact hq20 _ _ aI aT ⟨_, _, _, rfl, (kv20.kp)⟩

theorem aKm {a b : Prop} (ha : ¬a) (hb : ¬b) : ¬(a ∨ b) := fun h => h.elim ha hb
theorem aKn {a b c : Prop} (ha : ¬a) (hb : ¬b) (hc : ¬c) : ¬(a ∨ b ∨ c) := fun h => h.elim ha fun h => h.elim hb hc

theorem aNv {r : Rec} (c : qP r) : CN 189 (uX r) := by
 intro p L hd s h Q ps hq0
 have hp := ps.lt
 unfold uX at hq0
 refine Wk Tryz.func189 Tryz.ntmps189 (w:=QN (Mw (w:=QO (Ma (w:=MJ rB (w:=iU (L := L) (hd := hd) (s := s) aI fun h1 g1 => ?_))))))
 have hn1 := nx g1.1
 simp only at hq0
 by_cases hk : (aK L s.k).kind = 4
 ·have hm : s.k + 1 < L.length := ps.wf.more ps.at_ (by omega)
  rw [if_neg (show ¬((aK L s.k).kind ≠ 4) by simp [hk])] at hq0
  generalize aK L s.k = tk at *
  refine Mw (w:=Mv (w:=QL (QU (QN (Mj (w:=Mt (w:=ME (w:=fun hh => by omega) (v:=fun hh => QP (UA (QU (QN (Mj (w:=Mt (w:=QL (Bk (QN (MB (w:=fun hh => Mb (w:=QQ (QN (Ma (w:=QK ?_))))) (v:=fun hh => Mb (w:=QP (QN (MB (w:=fun hh => Mb (w:=QQ (QN (Ma (w:=QK ?_))))) (v:=fun hh => Mb (w:=QP (QU (QN (MB (w:=fun hh => Mb (w:=QQ (UA (QR (QN (Ma (w:=QK ?_))))))) (v:=fun hh => Mb (w:=QP (QN (MB (w:=fun hh => Mb (w:=QQ (UA (QR (QN (Ma (w:=QK ?_))))))) (v:=fun hh => Mb (w:=QP (QV (MB (w:=fun hh => Mb (w:=QQ (QN (Ma (w:=QK ?_))))) (v:=fun hh => Mb (w:=QP (QU (QN (MB (w:=fun hh => Mb (w:=QQ (UA (QR (QN (Ma (w:=QK ?_))))))) (v:=fun hh => Mb (w:=QP (QV (MB (w:=fun hh => Mb (w:=QQ (QN (Ma (w:=QK ?_))))) (v:=fun hh => Mb (w:=QP (QN (MB (w:=fun hh => Mb (w:=QQ (QN (Ma (w:=QK ?_))))) (v:=fun hh => Mb (w:=QP (QN (MB (w:=fun hh => Mb (w:=QQ (QN (Ma (w:=QK ?_))))) (v:=fun hh => Mb (w:=QP (QU (QN (MB (w:=fun hh => Mb (w:=QQ (UA (QR (QN (Ma (w:=QK ?_))))))) (v:=fun hh => Mb (w:=QP (QV (MB (w:=fun hh => Mb (w:=QQ (QN (Ma (w:=QK ?_))))) (v:=fun hh => Mb (w:=QP (UA (QN (Ma (w:=QK ?_))))))))))))))))))))))))))))))))))))))))))))))))))))))))))))))))))
  all_goals (repeat (first | rw [if_pos (by assumption)] at hq0 | rw [if_pos (Or.inl (by assumption))] at hq0 | rw [if_pos (Or.inr (by assumption))] at hq0 | rw [if_pos (Or.inr (Or.inl (by assumption)))] at hq0 | rw [if_pos (Or.inr (Or.inr (by assumption)))] at hq0 | rw [if_neg (by assumption)] at hq0 | rw [if_neg (aKm (by assumption) (by assumption))] at hq0 | rw [if_neg (aKn (by assumption) (by assumption) (by assumption))] at hq0))
  ·refine QJ cG ?_
   refine bS (L := L) (hd := hd) (s := s) aI (hm) fun h2 ps2 fr2 => ?_
   have hn2 := nx fr2.1
   refine QO (Ma (w:=MJ oY (w:=kZ (hd := hd) aI (bT.use aT hq0 (fun _ _ x => x) fun tk3 s3 h3 v3 ps3 fr3 hv3 hq3 => ?_))))
   subst hv3
   have hn3 := nx fr3.1
   refine Mw (w:=Mv (w:=QO (Ma (w:=MJ nP (w:=c.cD aI (Nu hq3 (k:=fun t4 s4 h4 b4 n4 es4 ps4 fr4 kv4 hn4 hq4 => ?_)))))))
   refine MJ oZ (w:=lB fun h5 g5 => ?_)
   have hn5 := nx g5.1
   refine Mw (w:=Mw (w:=Mv (w:=Mv (w:=QL (QU (QN (Ma (w:=MJ nR (w:=nT (L := L) (hd := hd) (s := s4) aI fun h6 ps6 fr6 => ?_)))))))))
   have hn6 := nx fr6.1
   unfold rG at ps6
   cases hb6 : cC L s4 [⟨#[61]⟩]
   ·rw [hb6, if_neg Bool.false_ne_true] at ps6 hq4
    rw [R.then_ok] at hq4
    refine QP (UA (QN (Mu (w:=Mj (w:=Mt (w:=Mu (w:=Mu (w:=Mz (w:=MJ bM (w:=bG fun h7 g7 => ?_))))))))))
    have hn7 := nx g7.1
    refine Mv (w:=QM ?_)
    refine ⟨_, aM, ?_⟩
    refine hq4 _ _ aI aT ⟨_, _, _, rfl, NV.aZ ?_ _ _ _ _ _ _⟩
    exact (KV.two (t2 := c5) (b2 := none) (n2 := 0) (es2 := 0) (S := fun j => h.next ≤ j ∧ j < h4.next) aB aB aD (kv4.kp) (NV.leaf _ _ _ _ _ _) (fun j hS hj => ⟨by have := hS.1; exact aB, by have := hS.2; exact aB⟩))
   ·rw [hb6, if_pos rfl] at ps6 hq4
    refine QQ (QV (Ma (w:=MJ hG (w:=c.expr aI (Nu hq4 (k:=fun t7 s7 h7 b7 n7 es7 ps7 fr7 kv7 hn7 hq7 => ?_))))))
    refine Mv (w:=QO (Mu (w:=Mj (w:=Mt (w:=Mu (w:=Mu (w:=Mz (w:=MJ bM (w:=bG fun h8 g8 => ?_)))))))))
    have hn8 := nx g8.1
    refine Mv (w:=QM ?_)
    refine ⟨_, aM, ?_⟩
    refine hq7 _ _ aI aT ⟨_, _, _, rfl, NV.aZ ?_ _ _ _ _ _ _⟩
    exact (KV.two (S := fun j => h.next ≤ j ∧ j < h7.next) aB aB aD (kv4.kp) (kv7.kp) (fun j hS hj => ⟨by have := hS.1; exact aB, by have := hS.2; exact aB⟩))
  ·rw [← R.dA (r.branch L hd s)] at hq0
   skip
   refine QJ aLw ?_
   refine c.branch aI (Nu hq0 (k:=fun t20 s20 h20 b20 n20 es20 ps20 fr20 kv20 hn20 hq20 => ?_))
   refine Mv (w:=QM ?_)
   refine ⟨_, aM, ?_⟩
   exact hq20 _ _ aI aT ⟨_, _, _, rfl, (kv20.kp)⟩
  ·rw [← R.dA (r.nested L hd s)] at hq0
   skip
   refine QJ aD9 ?_
   refine c.nested aI (Nu hq0 (k:=fun t20 s20 h20 b20 n20 es20 ps20 fr20 kv20 hn20 hq20 => ?_))
   refine Mv (w:=QM ?_)
   refine ⟨_, aM, ?_⟩
   exact hq20 _ _ aI aT ⟨_, _, _, rfl, (kv20.kp)⟩
  ·rw [← R.dA (r.nested L hd s)] at hq0
   skip
   refine QJ aD9 ?_
   refine c.nested aI (Nu hq0 (k:=fun t20 s20 h20 b20 n20 es20 ps20 fr20 kv20 hn20 hq20 => ?_))
   refine Mv (w:=QM ?_)
   refine ⟨_, aM, ?_⟩
   exact hq20 _ _ aI aT ⟨_, _, _, rfl, (kv20.kp)⟩
  ·rw [← R.dA (r.nested L hd s)] at hq0
   skip
   refine QJ aD9 ?_
   refine c.nested aI (Nu hq0 (k:=fun t20 s20 h20 b20 n20 es20 ps20 fr20 kv20 hn20 hq20 => ?_))
   refine Mv (w:=QM ?_)
   refine ⟨_, aM, ?_⟩
   exact hq20 _ _ aI aT ⟨_, _, _, rfl, (kv20.kp)⟩
  ·refine QJ cG ?_
   refine bS (L := L) (hd := hd) (s := s) aI (hm) fun h2 ps2 fr2 => ?_
   have hn2 := nx fr2.1
   refine QO (Mb (w:=QL (QU (QN (Ma (w:=MJ rB (w:=iU (L := L) (hd := hd) (s := s.next) aI fun h3 g3 => ?_)))))))
   have hn3 := nx g3.1
   have hm3 : (aK L s.next.k).kind ≠ 6 → s.next.k + 1 < L.length := ps2.wf.more ps2.at_
   (first | rw [if_pos (show tk.text = ⟨#[98, 114, 101, 97, 107]⟩ by assumption)] at hq0 | rw [if_neg (show ¬tk.text = ⟨#[98, 114, 101, 97, 107]⟩ by assumption)] at hq0)
   refine Mk (w:=MD (w:=fun hh => QQ (QV (Ma (w:=QK ?_)))) (v:=fun hh => QP (UA (QU (QN (Mj (w:=Mt (w:=MB (w:=fun hh => QQ (QN (Mu (w:=Ma (w:=QK ?_))))) (v:=fun hh => by exact absurd (by assumption) hh)))))))))
   ·rw [if_pos (by assumption)] at hq0
    refine QJ cG ?_
    refine bS (L := L) (hd := hd) (s := s.next) aI (hm3 (by omega)) fun h4 ps4 fr4 => ?_
    have hn4 := nx fr4.1
    refine Mk (w:=Mb (w:=QL (QU (QN (Mj (w:=Mt (w:=MB (w:=fun hh => QQ (QN (Mu (w:=Ma (w:=MJ bM (w:=bG fun h5 g5 => ?_)))))) (v:=fun hh => by exact absurd (by assumption) hh))))))))
    have hn5 := nx g5.1
    refine Mv (w:=QM ?_)
    refine ⟨_, aM, ?_⟩
    refine hq0 _ _ aI aT ⟨_, _, _, rfl, NV.aZ ?_ _ _ _ _ _ _⟩
    exact (KV.nil _ _)
   ·rw [if_neg (by assumption)] at hq0
    skip
    refine QJ bM ?_
    refine bG fun h5 g5 => ?_
    have hn5 := nx g5.1
    refine Mv (w:=QM ?_)
    refine ⟨_, aM, ?_⟩
    refine hq0 _ _ aI aT ⟨_, _, _, rfl, NV.aZ ?_ _ _ _ _ _ _⟩
    exact (KV.nil _ _)
  ·refine QJ cG ?_
   refine bS (L := L) (hd := hd) (s := s) aI (hm) fun h2 ps2 fr2 => ?_
   have hn2 := nx fr2.1
   refine QO (Mb (w:=QL (QU (QN (Ma (w:=MJ rB (w:=iU (L := L) (hd := hd) (s := s.next) aI fun h3 g3 => ?_)))))))
   have hn3 := nx g3.1
   have hm3 : (aK L s.next.k).kind ≠ 6 → s.next.k + 1 < L.length := ps2.wf.more ps2.at_
   (first | rw [if_pos (show tk.text = ⟨#[98, 114, 101, 97, 107]⟩ by assumption)] at hq0 | rw [if_neg (show ¬tk.text = ⟨#[98, 114, 101, 97, 107]⟩ by assumption)] at hq0)
   refine Mk (w:=MD (w:=fun hh => QQ (QV (Ma (w:=QK ?_)))) (v:=fun hh => QP (UA (QU (QN (Mj (w:=Mt (w:=MB (w:=fun hh => by exact absurd hh (by assumption)) (v:=fun hh => QP (UA (QN (Mu (w:=Ma (w:=QK ?_))))))))))))))
   ·rw [if_pos (by assumption)] at hq0
    refine QJ cG ?_
    refine bS (L := L) (hd := hd) (s := s.next) aI (hm3 (by omega)) fun h4 ps4 fr4 => ?_
    have hn4 := nx fr4.1
    refine Mk (w:=Mb (w:=QL (QU (QN (Mj (w:=Mt (w:=MB (w:=fun hh => by exact absurd hh (by assumption)) (v:=fun hh => QP (UA (QN (Mu (w:=Ma (w:=MJ bM (w:=bG fun h5 g5 => ?_))))))))))))))
    have hn5 := nx g5.1
    refine Mv (w:=QM ?_)
    refine ⟨_, aM, ?_⟩
    refine hq0 _ _ aI aT ⟨_, _, _, rfl, NV.aZ ?_ _ _ _ _ _ _⟩
    exact (KV.nil _ _)
   ·rw [if_neg (by assumption)] at hq0
    skip
    refine QJ bM ?_
    refine bG fun h5 g5 => ?_
    have hn5 := nx g5.1
    refine Mv (w:=QM ?_)
    refine ⟨_, aM, ?_⟩
    refine hq0 _ _ aI aT ⟨_, _, _, rfl, NV.aZ ?_ _ _ _ _ _ _⟩
    exact (KV.nil _ _)
  ·refine QJ cG ?_
   refine bS (L := L) (hd := hd) (s := s) aI (hm) fun h2 ps2 fr2 => ?_
   have hn2 := nx fr2.1
   refine QO (Mu (w:=MJ bM (w:=bG fun h5 g5 => ?_)))
   have hn5 := nx g5.1
   refine Mv (w:=QM ?_)
   refine ⟨_, aM, ?_⟩
   refine hq0 _ _ aI aT ⟨_, _, _, rfl, NV.aZ ?_ _ _ _ _ _ _⟩
   exact (KV.nil _ _)
  ·refine QJ cG ?_
   refine bS (L := L) (hd := hd) (s := s) aI (hm) fun h2 ps2 fr2 => ?_
   have hn2 := nx fr2.1
   refine QL (QU (QN (Ma (w:=My (w:=MJ c8 (w:=fB (L := L) (hd := hd) (s := s.next) (ts := [⟨#[59]⟩, ⟨#[125]⟩, ⟨#[99, 97, 115, 101]⟩, ⟨#[100, 101, 102, 97, 117, 108, 116]⟩]) aI aD aB rfl (by first | decide | simp) fun h3 g3 => ?_))))))
   have hn3 := nx g3.1
   cases hb3 : cC L s.next [⟨#[59]⟩, ⟨#[125]⟩, ⟨#[99, 97, 115, 101]⟩, ⟨#[100, 101, 102, 97, 117, 108, 116]⟩]
   ·rw [hb3, if_neg Bool.false_ne_true] at hq0
    refine QP (UA (QU (Gd [⟨0, .read, 0⟩, ⟨1, .pure, 0⟩, ⟨2, .aF, 2⟩, ⟨3, .alloc, 6⟩, ⟨4, .aF, 15⟩, ⟨5, .aF, 31⟩] (w:=Ru (w:=Da (w:=?_))))));refine WD.aF hX (hw := ?_)
    refine QJ hG ?_
    refine c.expr aI (Nu hq0 (k:=fun t4 s4 h4 b4 n4 es4 ps4 fr4 kv4 hn4 hq4 => ?_))
    refine WD.alloc (hw := Qz ?_);refine WD.aF hX (hw := ?_)
    refine QJ bM ?_
    refine bG fun h5 g5 => ?_
    have hn5 := nx g5.1
    refine WD.aF hX (hw := Qv ?_);refine WD.nil (hq:=WC.ret ?_)
    refine ⟨_, aM, ?_⟩
    refine hq4 _ _ aI aT ⟨_, _, _, rfl, NV.aZ ?_ _ _ _ _ _ _⟩
    exact (KV.one (S := fun j => h.next ≤ j ∧ j < h4.next) aB aB aD (kv4.kp) (fun j hS hj => ⟨hS.1, by have := hS.2; exact aB⟩))
   ·rw [hb3, if_pos rfl] at hq0
    refine QQ (QU (Gd [⟨0, .read, 0⟩, ⟨1, .aF, 0⟩, ⟨2, .alloc, 2⟩, ⟨3, .aF, 7⟩, ⟨4, .aF, 15⟩] (w:=Ru (w:=?_))));refine WD.aF hX (hw := ?_)
    refine QJ oZ ?_
    refine lB fun h4 g4 => ?_
    have hn4 := nx g4.1
    refine WD.alloc (hw := Qz ?_);refine WD.aF hX (hw := ?_)
    refine QJ bM ?_
    refine bG fun h5 g5 => ?_
    have hn5 := nx g5.1
    refine WD.aF hX (hw := Qv ?_);refine WD.nil (hq:=WC.ret ?_)
    refine ⟨_, aM, ?_⟩
    refine hq0 _ _ aI aT ⟨_, _, _, rfl, NV.aZ ?_ _ _ _ _ _ _⟩
    exact (KV.one (t := c5) (b := none) (n := 0) (es := 0) (S := fun _ => False) aB aB aD (.leaf _ _ _ _ _ _) (fun j hS => hS.elim))
  ·have hgo := (by assumption : tk.text = ⟨#[103, 111]⟩)
   refine QJ cG ?_
   refine bS (L := L) (hd := hd) (s := s) aI (hm) fun h2 ps2 fr2 => ?_
   have hn2 := nx fr2.1
   refine QO (Mb (w:=QL (QU (QN (Mj (w:=Mt (w:=MB (w:=fun hh => QQ (QV (Mb (w:=QL (QU (Gd [⟨0, .pure, 0⟩, ⟨1, .read, 0⟩, ⟨2, .pure, 0⟩, ⟨3, .aF, 4⟩, ⟨4, .alloc, 12⟩, ⟨5, .aF, 31⟩, ⟨6, .aF, 63⟩] (w:=Da (w:=Ru (w:=Da (w:=?_)))))))))) (v:=?_))))))));refine WD.aF hX (hw := ?_);rotate_left;intro hh;refine QP (UA (QU (Gd [⟨0, .pure, 0⟩, ⟨1, .read, 0⟩, ⟨2, .pure, 0⟩, ⟨3, .aF, 4⟩, ⟨4, .alloc, 12⟩, ⟨5, .aF, 31⟩, ⟨6, .aF, 63⟩] (w:=Da (w:=Ru (w:=Da (w:=?_)))))));refine WD.aF hX (hw := ?_);rotate_left
   ·exact absurd (hgo.symm.trans (by assumption : tk.text = ⟨#[100, 101, 102, 101, 114]⟩)) (by decide)
   ·rw [if_neg (by assumption)] at hq0
    refine QJ aLx ?_
    refine aGv c aI (Nu hq0 (k:=fun t4 s4 h4 b4 n4 es4 ps4 fr4 kv4 hn4 hq4 => ?_))
    refine WD.alloc (hw := Qz ?_);refine WD.aF hX (hw := ?_)
    refine QJ bM ?_
    refine bG fun h5 g5 => ?_
    have hn5 := nx g5.1
    refine WD.aF hX (hw := Qv ?_);refine WD.nil (hq:=WC.ret ?_)
    refine ⟨_, aM, ?_⟩
    refine hq4 _ _ aI aT ⟨_, _, _, rfl, NV.aZ ?_ _ _ _ _ _ _⟩
    exact (KV.one (S := fun j => h.next ≤ j ∧ j < h4.next) aB aB aD (kv4.kp) (fun j hS hj => ⟨hS.1, by have := hS.2; exact aB⟩))
  ·refine QJ cG ?_
   refine bS (L := L) (hd := hd) (s := s) aI (hm) fun h2 ps2 fr2 => ?_
   have hn2 := nx fr2.1
   refine QO (Mb (w:=QL (QU (QN (Mj (w:=Mt (w:=MB (w:=fun hh => QQ (QV (Mb (w:=QL (QU (Gd [⟨0, .pure, 0⟩, ⟨1, .read, 0⟩, ⟨2, .pure, 0⟩, ⟨3, .aF, 4⟩, ⟨4, .alloc, 12⟩, ⟨5, .aF, 31⟩, ⟨6, .aF, 63⟩] (w:=Da (w:=Ru (w:=Da (w:=?_)))))))))) (v:=?_))))))));refine WD.aF hX (hw := ?_);rotate_left;intro hh;exact absurd (by assumption) hh
   refine QJ aLx ?_
   refine aGv c aI (Nu hq0 (k:=fun t4 s4 h4 b4 n4 es4 ps4 fr4 kv4 hn4 hq4 => ?_))
   refine WD.alloc (hw := Qz ?_);refine WD.aF hX (hw := ?_)
   refine QJ bM ?_
   refine bG fun h5 g5 => ?_
   have hn5 := nx g5.1
   refine WD.aF hX (hw := Qv ?_);refine WD.nil (hq:=WC.ret ?_)
   refine ⟨_, aM, ?_⟩
   refine hq4 _ _ aI aT ⟨_, _, _, rfl, NV.aZ ?_ _ _ _ _ _ _⟩
   exact (KV.one (S := fun j => h.next ≤ j ∧ j < h4.next) aB aB aD (kv4.kp) (fun j hS hj => ⟨hS.1, by have := hS.2; exact aB⟩))
  ·rw [← R.dA (l7 r L hd s)] at hq0
   skip
   refine QJ aLv ?_
   refine aEn c aI (Nu hq0 (k:=fun t4 s4 h4 b4 n4 es4 ps4 fr4 kv4 hn4 hq4 => ?_))
   refine Mv (w:=QM ?_)
   refine ⟨_, aM, ?_⟩
   exact hq4 _ _ aI aT ⟨_, _, _, rfl, (kv4.kp)⟩
 ·rw [if_pos hk] at hq0
  generalize aK L s.k = tk at *
  refine Mw (w:=Mv (w:=QL (QU (QN (Mj (w:=Mt (w:=ME (w:=fun hh => QQ (QU (QN (Ma (w:=My (w:=MJ c8 (w:=fB (L := L) (hd := hd) (s := s) (ts := [⟨#[123]⟩]) aI aD aB rfl (by first | decide | simp) fun h2 g2 => ?_))))))) (v:=fun hh => by omega))))))))
  have hn2 := nx g2.1
  cases hb2 : cC L s [⟨#[123]⟩]
  ·rw [hb2, if_neg Bool.false_ne_true] at hq0
   rw [← R.dA (l7 r L hd s)] at hq0
   refine QP (UA (QN (Ma (w:=MJ aLv (w:=aEn c aI (Nu hq0 (k:=fun t4 s4 h4 b4 n4 es4 ps4 fr4 kv4 hn4 hq4 => ?_)))))))
   refine Mv (w:=QM ?_)
   refine ⟨_, aM, ?_⟩
   exact hq4 _ _ aI aT ⟨_, _, _, rfl, (kv4.kp)⟩
  ·rw [hb2, if_pos rfl] at hq0
   rw [← R.dA (r.block L hd s)] at hq0
   refine QQ (QN (Ma (w:=MJ yP (w:=c.block aI (Nu hq0 (k:=fun t20 s20 h20 b20 n20 es20 ps20 fr20 kv20 hn20 hq20 => ?_))))))
   refine Mv (w:=QM ?_)
   refine ⟨_, aM, ?_⟩
   exact hq20 _ _ aI aT ⟨_, _, _, rfl, (kv20.kp)⟩

end Go.Proofs.ZL
end
