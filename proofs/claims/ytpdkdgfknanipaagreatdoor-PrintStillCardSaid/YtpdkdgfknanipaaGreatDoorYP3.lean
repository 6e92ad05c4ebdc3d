/- The parser, third part: operands and primaries. -/
import Derived.Test.YtpdkdgfknanipaaGreatDoorYP2
section
open Go Go.Am
namespace Go.Proofs.ZL
set_option maxRecDepth 100000
set_option linter.unusedSimpArgs false
set_option linter.unusedVariables false
set_option maxHeartbeats 4000000
variable {h : aA} {Q : bR → Prop} {L : List Tok} {p : Nat} {hd : Bool} {src : ByteArray}
theorem aI5 {r : Rec} {n : Nat} (hn : n ≤ 1000000) (c : qP r) {p : Nat} {L : List Tok} {hd : Bool} {s : St} {h : aA} {Q : bR → Prop} (ps : cF h p L hd s) (h4 : (aK L s.k).kind = 4)
  (hq0 : bT (VN (fun j => h.next ≤ j)) p L hd h Q (kN n r (aK L s.k) L hd s)) : aS Tryz.prog G X 258 [pV p, .agg (aK L s.k).cells.toArray] h Q := by
 have hp := ps.lt
 have hm : s.k + 1 < L.length := ps.wf.more ps.at_ (by omega)
 unfold kN at hq0
 generalize aK L s.k = tk at *
 refine Wk Tryz.func258 Tryz.ntmps258 (w:=QN (Mx (w:=Mx (w:=Mw (w:=QL (QU (QN (Mj (w:=Mt (w:=QL (Bk (QU (QN (MB (w:=fun hh => Mb (w:=QQ (UA (QR (QN (Mt (w:=QK ?_))))))) (v:=fun hh => Mb (w:=QP (QV (MB (w:=fun hh => Mb (w:=QQ (QN (Mt (w:=QK ?_))))) (v:=fun hh => Mb (w:=QP (QN (MB (w:=fun hh => Mb (w:=QQ (QN (Mt (w:=QK ?_))))) (v:=fun hh => Mb (w:=QP (QN (MB (w:=fun hh => Mb (w:=QQ (QN (Mt (w:=QK ?_))))) (v:=fun hh => Mb (w:=QP (QN (MB (w:=fun hh => Mb (w:=QQ (QN (Mt (w:=QK ?_))))) (v:=fun hh => Mb (w:=QP (QN (MB (w:=fun hh => Mb (w:=QQ (QN (Mt (w:=QK ?_))))) (v:=fun hh => Mb (w:=QP (QU (QN (MB (w:=fun hh => Mb (w:=QQ (UA (QR (QN (Mt (w:=QK ?_))))))) (v:=fun hh => Mb (w:=QP (QN (MB (w:=fun hh => Mb (w:=QQ (UA (QR (QN (Mt (w:=QK ?_))))))) (v:=fun hh => Mb (w:=QP (QN (MB (w:=fun hh => Mb (w:=QQ (UA (QR (QN (Mt (w:=QK ?_))))))) (v:=fun hh => Mb (w:=QP (QN (MB (w:=fun hh => Mb (w:=QQ (UA (QR (QN (Mt (w:=QK ?_))))))) (v:=fun hh => Mb (w:=QP (QN (MB (w:=fun hh => Mb (w:=QQ (UA (QR (QN (Mt (w:=QK ?_))))))) (v:=fun hh => Mb (w:=QP (QN (MB (w:=fun hh => Mb (w:=QQ (UA (QR (QN (Mt (w:=QK ?_))))))) (v:=fun hh => Mb (w:=QP (QV (MB (w:=fun hh => Mb (w:=QQ (QN (Mt (w:=QK ?_))))) (v:=fun hh => Mb (w:=QP (UA (QN (Mt (w:=QK ?_)))))))))))))))))))))))))))))))))))))))))))))))))))))))))))))))))))))
 all_goals (repeat (first | rw [if_pos (by assumption)] at hq0 | rw [if_pos (Or.inl (by assumption))] at hq0 | rw [if_pos (Or.inr (by assumption))] at hq0 | rw [if_neg (by assumption)] at hq0 | rw [if_neg (by (rintro (h | h) <;> contradiction))] at hq0))
 ·refine QJ cG ?_
  refine bS (L := L) (hd := hd) (s := s) aI (hm) fun h1 ps1 fr1 => ?_
  have hn1 := nx fr1.1
  refine QO (Mu (w:=Mj (w:=Mt (w:=MJ bM (w:=bG fun h2 g2 => ?_)))))
  have hn2 := nx g2.1
  refine Mv (w:=QM ?_)
  refine ⟨_, aM, ?_⟩
  exact hq0 _ _ aI aT ⟨_, _, _, rfl, NV.aZ (KV.nil _ _) _ _ _ _ _ _⟩
 ·refine QJ cG ?_
  refine bS (L := L) (hd := hd) (s := s) aI (hm) fun h1 ps1 fr1 => ?_
  have hn1 := nx fr1.1
  refine QO (Mu (w:=Mj (w:=Mt (w:=MJ bM (w:=bG fun h2 g2 => ?_)))))
  have hn2 := nx g2.1
  refine Mv (w:=QM ?_)
  refine ⟨_, aM, ?_⟩
  exact hq0 _ _ aI aT ⟨_, _, _, rfl, NV.aZ (KV.nil _ _) _ _ _ _ _ _⟩
 ·refine QJ cG ?_
  refine bS (L := L) (hd := hd) (s := s) aI (hm) fun h1 ps1 fr1 => ?_
  have hn1 := nx fr1.1
  refine QO (Mu (w:=MJ bM (w:=bG fun h2 g2 => ?_)))
  have hn2 := nx g2.1
  refine Mv (w:=QM ?_)
  refine ⟨_, aM, ?_⟩
  exact hq0 _ _ aI aT ⟨_, _, _, rfl, NV.aZ (KV.nil _ _) _ _ _ _ _ _⟩
 ·refine QJ cG ?_
  refine bS (L := L) (hd := hd) (s := s) aI (hm) fun h1 ps1 fr1 => ?_
  have hn1 := nx fr1.1
  refine QL (QU (Gd [⟨0, .read, 0⟩, ⟨1, .read, 0⟩, ⟨2, .aF, 2⟩, ⟨3, .aF, 7⟩, ⟨4, .aF, 15⟩] (w:=Ru (w:=Rt (w:=?_)))));refine WD.aF hX (hw := ?_)
  refine QJ aLp ?_
  refine c.function aI (Nuk hq0 (k:=fun t2 s2 h2 b2 n2 es2 ps2 fr2 kv2 hn2 hq2 => ?_))
  refine WD.aF hX (hw := ?_)
  refine QJ bM ?_
  refine bG fun h3 g3 => ?_
  have hn3 := nx g3.1
  refine WD.aF hX (hw := Qv ?_);refine WD.nil (hq:=WC.ret ?_)
  refine ⟨_, aM, ?_⟩
  exact hq2 _ _ aI aT ⟨_, _, _, rfl, NV.aZ (kv2.kp) _ _ _ _ _ _⟩
 ·refine QJ cG ?_
  refine bS (L := L) (hd := hd) (s := s) aI (hm) fun h1 ps1 fr1 => ?_
  have hn1 := nx fr1.1
  refine QO (Mt (w:=MJ eI (w:=Wn (hd := hd) hq0 (k:=fun tk2 s2 h2 ps2 fr2 hn2 hq2 => ?_))))
  refine QO (Mt (w:=MJ nP (w:=c.cD aI (Nu hq2 (k:=fun t3 s3 h3 b3 n3 es3 ps3 fr3 kv3 hn3 hq3 => ?_)))))
  refine Mz (w:=Mb (w:=QL (QU (QN (Mt (w:=QK ?_))))))
  have kvL : KV (h3.alloc (.cells false (aG t3 b3 n3 es3))) (fun j => h2.next ≤ j) (some ⟨h3.next, 0, none⟩) 1 7 [t3] := (KV.one (S := fun j => h2.next ≤ j ∧ j < h3.next) aB aB aD (kv3.kp) (fun j hS hj => ⟨hS.1, by have := hS.2; exact aB⟩))
  refine QJ nR ?_
  refine nT (L := L) (hd := hd) (s := s3) aI fun h4 ps4 fr4 => ?_
  have hn4 := nx fr4.1
  unfold rG at ps4
  cases hb4 : cC L s3 [⟨#[44]⟩]
  ·rw [hb4, if_neg Bool.false_ne_true] at ps4 hq3
   rw [R.then_ok] at hq3
   refine QP (UA (QN (Mt (w:=MJ eI (w:=Wn (hd := hd) hq3 (k:=fun tk5 s5 h5 ps5 fr5 hn5 hq5 => ?_))))))
   refine QO (Mu (w:=Mj (w:=Mt (w:=Ma (w:=MJ bM (w:=bG fun h6 g6 => ?_))))))
   have hn6 := nx g6.1
   refine Mv (w:=QM ?_)
   refine ⟨_, aM, ?_⟩
   exact hq5 _ _ aI aT ⟨_, _, _, rfl, NV.aZ (kvL.mono aB (fun j hS hj => by (try simp only [UB, UC] at hS hj); exact ⟨aB, bB⟩)) _ _ _ _ _ _⟩
  ·rw [hb4, if_pos rfl] at ps4 hq3
   rw [R.then_assoc] at hq3
   refine QQ (QV (Ma (w:=Mt (w:=Mt (w:=Mp (w:=MJ nQ (w:=?_)))))))
   refine gS (hd' := false) (spec := r.expr L false s3.next) aI hG (fun {h5 Q5} ps5 fr5 hq5 => c.expr ps5 hq5) (Nu hq3 (k:=fun t5 s5 h5 b5 n5 es5 ps5 fr5 kv5 hn5 hq5 => ?_))
   (try simp only [R.then_ok] at hq5)
   refine Mz (w:=QK ?_)
   have kvH := kvL.mono (S' := fun j => h2.next - 1 < j) (h' := h5.alloc (.cells false (aG t5 b5 n5 es5))) aB (fun j hS hj => ⟨aB, by (try simp only [aA.aC] at hj); exact bB⟩)
   have hbne := kvH.ne
   obtain ⟨old, hsa, hol, hold⟩ := kvH.sliceAt
   apply WS.append
   (· rfl); (· rfl); (· exact aL); (· exact aL); (· rfl); (· rfl); (· intro k hk; cases hk); (· exact cE rfl); (· decide); (· exact aD); (· exact iC); (· rfl); (· decide); (· rfl); (· exact hsa)
   intro h9 hn9 ho9 hf9
   simp only [aA.aC] at hn9 ho9 hf9
   have hk9 : ∀ j, j ≤ h2.next - 1 → h9.obj j = (h5.alloc (.cells false (aG t5 b5 n5 es5))).obj j := fun j hj => hf9 j (by omega) (hbne j hj)
   have hk9b : ∀ j, j < h3.next → h9.obj j = (h5.alloc (.cells false (aG t5 b5 n5 es5))).obj j := fun j hj => hf9 j (by omega) (by intro off e; cases e; omega)
   have fr9 : cJ p h h9 := cJ.dC (H := h5.alloc (.cells false (aG t5 b5 n5 es5))) aT aB fun j hj => hk9 j (by omega)
   have kv9 : KV h9 (fun j => h2.next ≤ j) (some ⟨h5.next + 1, 0, none⟩) 2 7 ([t3] ++ [t5]) := KV.snoc (h := h5.alloc (.cells false (aG t5 b5 n5 es5))) (S2 := fun j => h4.next ≤ j ∧ j < h5.next) hol (by simp) hold (kv5.kp) aB ho9 hf9 aB (fun x hx _ => by omega) (fun x hx hlt => ⟨by have := hx.1; omega, by intro off e; cases e; have := hx.1; omega⟩)
   have ps9 : cF h9 p L hd s5 := cF.dC (h := h5.alloc (.cells false (aG t5 b5 n5 es5))) aI aB fun j hj => hk9 j (by omega)
   have ho9p : h9.obj h.next = some (.cells false [pV p]) := (hk9b _ (by omega)).trans aD
   have ho9t : h9.obj (h.next + 1) = some (.cells false tk.cells) := (hk9b _ (by omega)).trans aD
   have ho9z : h9.obj (h.next + 2) = some (Z0) := (hk9b _ (by omega)).trans aD
   refine Mb (w:=QO (Mt (w:=MJ eI (w:=Wn (hd := hd) hq5 (k:=fun tk10 s10 h10 ps10 fr10 hn10 hq10 => ?_)))))
   refine QO (Mu (w:=Mj (w:=Mt (w:=Ma (w:=MJ bM (w:=bG fun h11 g11 => ?_))))))
   have hn11 := nx g11.1
   refine Mv (w:=QM ?_)
   refine ⟨_, aM, ?_⟩
   exact hq10 _ _ aI aT ⟨_, _, _, rfl, NV.aZ (kv9.kp) _ _ _ _ _ _⟩
 ·refine QJ cG ?_
  refine bS (L := L) (hd := hd) (s := s) aI (hm) fun h1 ps1 fr1 => ?_
  have hn1 := nx fr1.1
  refine QO (Mt (w:=MJ eI (w:=Wn (hd := hd) hq0 (k:=fun tk2 s2 h2 ps2 fr2 hn2 hq2 => ?_))))
  refine QO (Mt (w:=MJ oY (w:=kZ (hd := hd) aI (bT.use aT hq2 (fun _ _ x => x) fun tk3 s3 h3 v3 ps3 fr3 hv3 hq3 => ?_))))
  subst hv3
  have hn3 := nx fr3.1
  refine Mw (w:=Mv (w:=QO (Mt (w:=MJ eI (w:=Wn (hd := hd) hq3 (k:=fun tk4 s4 h4 ps4 fr4 hn4 hq4 => ?_))))))
  refine QL (QU (Gd [⟨0, .read, 0⟩, ⟨1, .pure, 0⟩, ⟨2, .read, 2⟩, ⟨3, .read, 0⟩, ⟨4, .pure, 0⟩, ⟨5, .read, 16⟩, ⟨6, .aF, 56⟩, ⟨7, .alloc, 120⟩, ⟨8, .aF, 255⟩, ⟨9, .aF, 511⟩] (w:=Ru (w:=Dj (w:=Rt (w:=Ru (w:=Dj (w:=Rt (w:=?_)))))))));refine WD.aF hX (hw := ?_)
  refine QJ bM ?_
  refine bG fun h5 g5 => ?_
  have hn5 := nx g5.1
  refine WD.alloc (hw := Qz ?_);refine WD.aF hX (hw := ?_)
  refine QJ bM ?_
  refine bG fun h6 g6 => ?_
  have hn6 := nx g6.1
  refine WD.aF hX (hw := Qv ?_);refine WD.nil (hq:=WC.ret ?_)
  refine ⟨_, aM, ?_⟩
  exact hq4 _ _ aI aT ⟨_, _, _, rfl, NV.aZ (KV.one (t := nd 12 tk3 tk3.text []) (b := none) (n := 0) (es := 0) (S := fun _ => False) aB aB aD (.leaf _ _ _ _ _ _) (fun j hS => hS.elim)) _ _ _ _ _ _⟩
 ·rw [if_pos (show lR gU tk.text = true by rw [hh]; decide +kernel)] at hq0
  refine QJ cG ?_
  refine bS (L := L) (hd := hd) (s := s) aI (hm) fun h1 ps1 fr1 => ?_
  have hn1 := nx fr1.1
  refine QO (Mt (w:=MJ eI (w:=Wn (hd := hd) hq0 (k:=fun tk2 s2 h2 ps2 fr2 hn2 hq2 => ?_))))
  refine QL (QU (Gd [⟨0, .read, 0⟩, ⟨1, .pure, 0⟩, ⟨2, .read, 2⟩, ⟨3, .read, 0⟩, ⟨4, .pure, 0⟩, ⟨5, .aF, 24⟩, ⟨6, .aF, 63⟩, ⟨7, .aF, 127⟩] (w:=Ru (w:=Dj (w:=Rt (w:=Rt (w:=Dp (w:=?_))))))));refine WD.aF hX (hw := ?_)
  refine QJ uH ?_
  refine jF (hd' := false) (spec := eA n r ⟨#[41]⟩ L false s2) aI wK (fun {h3 Q3} ps3 fr3 hq3 => ?_) (bT.use aT hq2 (fun _ _ x => x) fun t4 s4 h4 v4 ps4 fr4 hv4 hq4 => ?_)
  ·exact kF (i := h.next) hn c ps3 (fr3.at aB aB aD) (by have := fr3.1; exact aB) aB hq3
  ·obtain ⟨b4, n4, es4, rfl, kv4⟩ := hv4
   have hn4 := nx fr4.1
   refine WD.aF hX (hw := ?_)
   refine QJ bM ?_
   refine bG fun h5 g5 => ?_
   have hn5 := nx g5.1
   refine WD.aF hX (hw := Qv ?_);refine WD.nil (hq:=WC.ret ?_)
   refine ⟨_, aM, ?_⟩
   exact hq4 _ _ aI aT ⟨_, _, _, rfl, NV.aZ (kv4.kp) _ _ _ _ _ _⟩
 ·rw [if_pos (show lR gU tk.text = true by rw [hh]; decide +kernel)] at hq0
  refine QJ cG ?_
  refine bS (L := L) (hd := hd) (s := s) aI (hm) fun h1 ps1 fr1 => ?_
  have hn1 := nx fr1.1
  refine QO (Mt (w:=MJ eI (w:=Wn (hd := hd) hq0 (k:=fun tk2 s2 h2 ps2 fr2 hn2 hq2 => ?_))))
  refine QL (QU (Gd [⟨0, .read, 0⟩, ⟨1, .pure, 0⟩, ⟨2, .read, 2⟩, ⟨3, .read, 0⟩, ⟨4, .pure, 0⟩, ⟨5, .aF, 24⟩, ⟨6, .aF, 63⟩, ⟨7, .aF, 127⟩] (w:=Ru (w:=Dj (w:=Rt (w:=Rt (w:=Dp (w:=?_))))))));refine WD.aF hX (hw := ?_)
  refine QJ uH ?_
  refine jF (hd' := false) (spec := eA n r ⟨#[41]⟩ L false s2) aI wK (fun {h3 Q3} ps3 fr3 hq3 => ?_) (bT.use aT hq2 (fun _ _ x => x) fun t4 s4 h4 v4 ps4 fr4 hv4 hq4 => ?_)
  ·exact kF (i := h.next) hn c ps3 (fr3.at aB aB aD) (by have := fr3.1; exact aB) aB hq3
  ·obtain ⟨b4, n4, es4, rfl, kv4⟩ := hv4
   have hn4 := nx fr4.1
   refine WD.aF hX (hw := ?_)
   refine QJ bM ?_
   refine bG fun h5 g5 => ?_
   have hn5 := nx g5.1
   refine WD.aF hX (hw := Qv ?_);refine WD.nil (hq:=WC.ret ?_)
   refine ⟨_, aM, ?_⟩
   exact hq4 _ _ aI aT ⟨_, _, _, rfl, NV.aZ (kv4.kp) _ _ _ _ _ _⟩
 ·rw [if_pos (show lR gU tk.text = true by rw [hh]; decide +kernel)] at hq0
  refine QJ cG ?_
  refine bS (L := L) (hd := hd) (s := s) aI (hm) fun h1 ps1 fr1 => ?_
  have hn1 := nx fr1.1
  refine QO (Mt (w:=MJ eI (w:=Wn (hd := hd) hq0 (k:=fun tk2 s2 h2 ps2 fr2 hn2 hq2 => ?_))))
  refine QL (QU (Gd [⟨0, .read, 0⟩, ⟨1, .pure, 0⟩, ⟨2, .read, 2⟩, ⟨3, .read, 0⟩, ⟨4, .pure, 0⟩, ⟨5, .aF, 24⟩, ⟨6, .aF, 63⟩, ⟨7, .aF, 127⟩] (w:=Ru (w:=Dj (w:=Rt (w:=Rt (w:=Dp (w:=?_))))))));refine WD.aF hX (hw := ?_)
  refine QJ uH ?_
  refine jF (hd' := false) (spec := eA n r ⟨#[41]⟩ L false s2) aI wK (fun {h3 Q3} ps3 fr3 hq3 => ?_) (bT.use aT hq2 (fun _ _ x => x) fun t4 s4 h4 v4 ps4 fr4 hv4 hq4 => ?_)
  ·exact kF (i := h.next) hn c ps3 (fr3.at aB aB aD) (by have := fr3.1; exact aB) aB hq3
  ·obtain ⟨b4, n4, es4, rfl, kv4⟩ := hv4
   have hn4 := nx fr4.1
   refine WD.aF hX (hw := ?_)
   refine QJ bM ?_
   refine bG fun h5 g5 => ?_
   have hn5 := nx g5.1
   refine WD.aF hX (hw := Qv ?_);refine WD.nil (hq:=WC.ret ?_)
   refine ⟨_, aM, ?_⟩
   exact hq4 _ _ aI aT ⟨_, _, _, rfl, NV.aZ (kv4.kp) _ _ _ _ _ _⟩
 ·rw [if_pos (show lR gU tk.text = true by rw [hh]; decide +kernel)] at hq0
  refine QJ cG ?_
  refine bS (L := L) (hd := hd) (s := s) aI (hm) fun h1 ps1 fr1 => ?_
  have hn1 := nx fr1.1
  refine QO (Mt (w:=MJ eI (w:=Wn (hd := hd) hq0 (k:=fun tk2 s2 h2 ps2 fr2 hn2 hq2 => ?_))))
  refine QL (QU (Gd [⟨0, .read, 0⟩, ⟨1, .pure, 0⟩, ⟨2, .read, 2⟩, ⟨3, .read, 0⟩, ⟨4, .pure, 0⟩, ⟨5, .aF, 24⟩, ⟨6, .aF, 63⟩, ⟨7, .aF, 127⟩] (w:=Ru (w:=Dj (w:=Rt (w:=Rt (w:=Dp (w:=?_))))))));refine WD.aF hX (hw := ?_)
  refine QJ uH ?_
  refine jF (hd' := false) (spec := eA n r ⟨#[41]⟩ L false s2) aI wK (fun {h3 Q3} ps3 fr3 hq3 => ?_) (bT.use aT hq2 (fun _ _ x => x) fun t4 s4 h4 v4 ps4 fr4 hv4 hq4 => ?_)
  ·exact kF (i := h.next) hn c ps3 (fr3.at aB aB aD) (by have := fr3.1; exact aB) aB hq3
  ·obtain ⟨b4, n4, es4, rfl, kv4⟩ := hv4
   have hn4 := nx fr4.1
   refine WD.aF hX (hw := ?_)
   refine QJ bM ?_
   refine bG fun h5 g5 => ?_
   have hn5 := nx g5.1
   refine WD.aF hX (hw := Qv ?_);refine WD.nil (hq:=WC.ret ?_)
   refine ⟨_, aM, ?_⟩
   exact hq4 _ _ aI aT ⟨_, _, _, rfl, NV.aZ (kv4.kp) _ _ _ _ _ _⟩
 ·rw [if_pos (show lR gU tk.text = true by rw [hh]; decide +kernel)] at hq0
  refine QJ cG ?_
  refine bS (L := L) (hd := hd) (s := s) aI (hm) fun h1 ps1 fr1 => ?_
  have hn1 := nx fr1.1
  refine QO (Mt (w:=MJ eI (w:=Wn (hd := hd) hq0 (k:=fun tk2 s2 h2 ps2 fr2 hn2 hq2 => ?_))))
  refine QL (QU (Gd [⟨0, .read, 0⟩, ⟨1, .pure, 0⟩, ⟨2, .read, 2⟩, ⟨3, .read, 0⟩, ⟨4, .pure, 0⟩, ⟨5, .aF, 24⟩, ⟨6, .aF, 63⟩, ⟨7, .aF, 127⟩] (w:=Ru (w:=Dj (w:=Rt (w:=Rt (w:=Dp (w:=?_))))))));refine WD.aF hX (hw := ?_)
  refine QJ uH ?_
  refine jF (hd' := false) (spec := eA n r ⟨#[41]⟩ L false s2) aI wK (fun {h3 Q3} ps3 fr3 hq3 => ?_) (bT.use aT hq2 (fun _ _ x => x) fun t4 s4 h4 v4 ps4 fr4 hv4 hq4 => ?_)
  ·exact kF (i := h.next) hn c ps3 (fr3.at aB aB aD) (by have := fr3.1; exact aB) aB hq3
  ·obtain ⟨b4, n4, es4, rfl, kv4⟩ := hv4
   have hn4 := nx fr4.1
   refine WD.aF hX (hw := ?_)
   refine QJ bM ?_
   refine bG fun h5 g5 => ?_
   have hn5 := nx g5.1
   refine WD.aF hX (hw := Qv ?_);refine WD.nil (hq:=WC.ret ?_)
   refine ⟨_, aM, ?_⟩
   exact hq4 _ _ aI aT ⟨_, _, _, rfl, NV.aZ (kv4.kp) _ _ _ _ _ _⟩
 ·rw [if_pos (show lR gU tk.text = true by rw [hh]; decide +kernel)] at hq0
  refine QJ cG ?_
  refine bS (L := L) (hd := hd) (s := s) aI (hm) fun h1 ps1 fr1 => ?_
  have hn1 := nx fr1.1
  refine QO (Mt (w:=MJ eI (w:=Wn (hd := hd) hq0 (k:=fun tk2 s2 h2 ps2 fr2 hn2 hq2 => ?_))))
  refine QL (QU (Gd [⟨0, .read, 0⟩, ⟨1, .pure, 0⟩, ⟨2, .read, 2⟩, ⟨3, .read, 0⟩, ⟨4, .pure, 0⟩, ⟨5, .aF, 24⟩, ⟨6, .aF, 63⟩, ⟨7, .aF, 127⟩] (w:=Ru (w:=Dj (w:=Rt (w:=Rt (w:=Dp (w:=?_))))))));refine WD.aF hX (hw := ?_)
  refine QJ uH ?_
  refine jF (hd' := false) (spec := eA n r ⟨#[41]⟩ L false s2) aI wK (fun {h3 Q3} ps3 fr3 hq3 => ?_) (bT.use aT hq2 (fun _ _ x => x) fun t4 s4 h4 v4 ps4 fr4 hv4 hq4 => ?_)
  ·exact kF (i := h.next) hn c ps3 (fr3.at aB aB aD) (by have := fr3.1; exact aB) aB hq3
  ·obtain ⟨b4, n4, es4, rfl, kv4⟩ := hv4
   have hn4 := nx fr4.1
   refine WD.aF hX (hw := ?_)
   refine QJ bM ?_
   refine bG fun h5 g5 => ?_
   have hn5 := nx g5.1
   refine WD.aF hX (hw := Qv ?_);refine WD.nil (hq:=WC.ret ?_)
   refine ⟨_, aM, ?_⟩
   exact hq4 _ _ aI aT ⟨_, _, _, rfl, NV.aZ (kv4.kp) _ _ _ _ _ _⟩
 ·rw [if_pos (show lR gU tk.text = true by rw [hh]; decide +kernel)] at hq0
  refine QJ cG ?_
  refine bS (L := L) (hd := hd) (s := s) aI (hm) fun h1 ps1 fr1 => ?_
  have hn1 := nx fr1.1
  refine QO (Mt (w:=MJ eI (w:=Wn (hd := hd) hq0 (k:=fun tk2 s2 h2 ps2 fr2 hn2 hq2 => ?_))))
  refine QL (QU (Gd [⟨0, .read, 0⟩, ⟨1, .pure, 0⟩, ⟨2, .read, 2⟩, ⟨3, .read, 0⟩, ⟨4, .pure, 0⟩, ⟨5, .aF, 24⟩, ⟨6, .aF, 63⟩, ⟨7, .aF, 127⟩] (w:=Ru (w:=Dj (w:=Rt (w:=Rt (w:=Dp (w:=?_))))))));refine WD.aF hX (hw := ?_)
  refine QJ uH ?_
  refine jF (hd' := false) (spec := eA n r ⟨#[41]⟩ L false s2) aI wK (fun {h3 Q3} ps3 fr3 hq3 => ?_) (bT.use aT hq2 (fun _ _ x => x) fun t4 s4 h4 v4 ps4 fr4 hv4 hq4 => ?_)
  ·exact kF (i := h.next) hn c ps3 (fr3.at aB aB aD) (by have := fr3.1; exact aB) aB hq3
  ·obtain ⟨b4, n4, es4, rfl, kv4⟩ := hv4
   have hn4 := nx fr4.1
   refine WD.aF hX (hw := ?_)
   refine QJ bM ?_
   refine bG fun h5 g5 => ?_
   have hn5 := nx g5.1
   refine WD.aF hX (hw := Qv ?_);refine WD.nil (hq:=WC.ret ?_)
   refine ⟨_, aM, ?_⟩
   exact hq4 _ _ aI aT ⟨_, _, _, rfl, NV.aZ (kv4.kp) _ _ _ _ _ _⟩
 ·rw [if_neg (by simp [lR, gU, *])] at hq0
  refine QJ kS ?_
  exact eS (hd := hd) aI aT hq0 (fun _ _ x => x)

theorem NV.all {S : Nat → Prop} {vs : List Value} {t : Nd} (hv : NV h S vs t) : vs.all (·.oneCell') = true := by cases hv <;> rfl

theorem xU (cells : List Value) (hl : cells.length % 7 = 0) (h : ∀ j, j * 7 < cells.length → ((cells.drop (j * 7)).take 7).all (·.oneCell') = true) : cells.all (·.oneCell') = true := by
 rw [List.all_eq_true]
 intro v hv
 obtain ⟨i, hi⟩ := List.getElem?_of_mem hv
 have hlt : i < cells.length := (List.getElem?_eq_some_iff.1 hi).1
 have hj := h (i / 7) (by omega)
 rw [List.all_eq_true] at hj
 refine hj v (List.mem_of_getElem? (i := i % 7) ?_)
 rw [List.getElem?_take, if_pos (by omega), List.getElem?_drop, show i / 7 * 7 + i % 7 = i by omega]
 exact hi

theorem WS.kQ {n : Nat} {F : List PanicEntry → aA → Prop} {env : Env} {lt : Bool} {ops : Array Oper} {d : Nat} {t : TypeId} {p : String} {a : Array Edge} {g : Option (Nat × Bool)} {K : Env → aA → (aA → Prop) → Prop}
  {ty ty' e : TypeId} {u : TypeDesc} {x y : Operand} {b1 b2 : Option Addr} {n1 es1 n2 es2 bytes : Nat} {S1 S2 : Nat → Prop} {k1 k2 : List Nd}
  (hg : cT ops env g = some true) (hn : Nat.blt d n = true) (hx : aJ G env x = some (.slice b1 n1 es1)) (hy : aJ G env y = some (.slice b2 n2 es2))
  (hu : Tryz.prog.underlying ty = some (.slice e)) (hu' : Tryz.prog.underlying ty' = some u) (hi : ∀ k, u ≠ .int k) (he : dY Tryz.prog e = some (7, bytes)) (hr : (n1 + n2) * bytes ≤ room)
  (kv1 : KV h S1 b1 n1 es1 k1) (kv2 : KV h S2 b2 n2 es2 k2) (hd : ∀ x, S2 x → x < h.next → ∀ off, b1 ≠ some ⟨x, off, none⟩)
  (hk : ∀ h' b es, h.next ≤ h'.next → KV h' (fun x => S1 x ∨ S2 x ∨ x = h.next) b (n1 + n2) es (k1 ++ k2) → (∀ i, i < h.next → (∀ off, b1 ≠ some ⟨i, off, none⟩) → h'.obj i = h.obj i) → K (bL env d (.slice b (n1 + n2) es)) h' fun _ => False) :
  WS Tryz.prog G X n lt ops ⟨some d, .call ⟨.builtin .append, #[x, y], #[ty, ty']⟩, t, p, a, g⟩ env h K F := by
 have hnil : ∀ {m : Nat} {es : Nat} {b : Option Addr}, (m = 0) → aJ G env y = some (.slice b m es) → k2 = [] → eM 7 h (.slice b m es) = some (0, []) → WS Tryz.prog G X n lt ops ⟨some d, .call ⟨.builtin .append, #[x, y], #[ty, ty']⟩, t, p, a, g⟩ env h K F := by
  intro m es b hm hy' hk2 hap
  have e2 : n2 = 0 := by rw [hy] at hy'; cases hy'; exact hm
  refine WS.r9 hg hn (v := .slice b1 n1 es1) (h' := h) ?_ ?_
  ·simp only [c6, iF, bO, hx, hy', eR, List.getElem?_toArray, List.getElem?_cons_zero, List.getElem?_cons_succ, hu, hu', he, hap]
   rcases kv1 with ⟨rfl, rfl, rfl, rfl⟩ | ⟨i, cells, rfl, _, _, rfl, _⟩
   ·cases u <;> first | exact (hi _ rfl).elim | rfl
   ·cases u <;> first | exact (hi _ rfl).elim | simp
  ·have hx := hk h b1 es1 (Nat.le_refl _) (by rw [e2, hk2, List.append_nil, Nat.add_zero]; exact kv1.mono (Nat.le_refl _) fun j hj _ => ⟨.inl hj, rfl⟩) fun _ _ _ => rfl
   rw [e2, Nat.add_zero] at hx; exact hx
 rcases kv2 with ⟨rfl, rfl, rfl, rfl⟩ | ⟨j, cells0, rfl, h1, h2, rfl, hlen, h3, hle, h5'⟩
 ·exact hnil rfl hy rfl rfl
 ·rcases Nat.eq_zero_or_pos n2 with h0 | hpos
  ·exact hnil h0 hy (by cases k2 with | nil => rfl | cons a l => simp at hlen; omega) (by rw [h0]; rfl)
  ·obtain ⟨cells, hcd⟩ : ∃ c, c = cells0.take (n2 * 7) := ⟨_, rfl⟩
   have h4 : cells.length = k2.length * 7 := by rw [hcd, List.length_take]; omega
   have h5 : ∀ (m : Nat) (t : Nd), k2[m]? = some t → NV h (fun x => S2 x ∧ x ≠ j) ((cells.drop (m * 7)).take 7) t := by
    intro m t ht
    have hm : m < k2.length := (List.getElem?_eq_some_iff.1 ht).1
    rw [hcd, List.drop_take, List.take_take, Nat.min_eq_left (by omega)]
    exact h5' m t ht
   have hall : cells.all (·.oneCell') = true := xU cells (by omega) fun j hj => by
    have hj' : j < k2.length := by omega
    exact (h5 j _ (List.getElem?_eq_getElem hj')).all
   have kv1' := kv1
   obtain ⟨old, hsa, hol, hold⟩ := kv1.sliceAt
   have htk : (cells0.drop 0).take (n2 * 7) = cells := by rw [List.drop_zero, hcd]
   have hn1 := kv1'.len
   obtain ⟨h', e1, e2, e3, e4⟩ := vU (P := Tryz.prog) (ty := ty) (ty' := ty') (j := j) (off := 0) hu hu' hi he hpos h3 (by omega) htk hr hall hsa
   refine WS.r9 hg hn (v := .slice (some ⟨h.next, 0, none⟩) (n1 + n2) 7) (h' := h') ?_ (hk h' _ 7 (by omega) ?_ e4)
   ·simp only [c6, iF, bO, hx, hy, e1, Option.map_some]
   ·refine .inr ⟨h.next, old ++ cells, rfl, .inr (.inr rfl), by omega, rfl, by rw [List.length_append]; omega, e3, by rw [List.length_append, List.length_append]; omega, fun m t hm => ?_⟩
    rcases Nat.lt_or_ge m k1.length with h' | h'
    ·rw [List.getElem?_append_left h'] at hm
     rw [List.drop_append_of_le_length (by omega), List.take_append_of_le_length (by rw [List.length_drop]; omega)]
     exact (hold m t hm).mono (by omega) fun x hx hlt => ⟨⟨.inl hx.1, by omega⟩, e4 x hlt hx.2⟩
    ·rw [List.getElem?_append_right h'] at hm
     rw [List.drop_append, List.drop_eq_nil_of_le (by omega), List.nil_append, show m * 7 - old.length = (m - k1.length) * 7 by omega]
     exact (h5 _ t hm).mono (by omega) fun x hx hlt => ⟨⟨.inr (.inl hx.1), by omega⟩, e4 x hlt (hd x hx.1 hlt)⟩


theorem WC.cut {P : Program} {G : Nat} {X : eQ} {n : Nat} {c : Code} {env : Env} {N N' : Env → aA → Prop} {E : Nat → Env → aA → Prop} {R : Env → aA → Prop} {F : List PanicEntry → aA → Prop} (hw : WC P G X n c env h N' E R F) (hn : ∀ e h, N' e h → N e h) : WC P G X n c env h N E R F := by
 unfold WC at hw ⊢
 refine cO.mono hw fun x e h hx => ?_
 cases x with
 | normal => exact hn _ _ hx
 | exit i => exact hx
 | ret => exact hx
 | panic ch => exact hx

theorem bT.aN8 {α β : Type} {V : aA → α → Value → Prop} {W : aA → β → Value → Prop} {hd hd' : Bool} {h h1 : aA} {Q Q' : bR → Prop} {r : R α} {g : α → St → R β} (fr : cJ p h h1) (hq : bT W p L hd h Q (r.then g))
  (hbad : ∀ ch h', Q (.panic ch h') → Q' (.panic ch h')) (hok : ∀ a s' h2 v, r = .ok a s' → cF h2 p L hd' s' → cJ p h1 h2 → V h2 a v → bT W p L hd h Q (g a s') → Q' (.ret v h2)) : bT V p L hd' h1 Q' r := by
 cases r with
 | ok a s => exact fun h2 v ps fr2 hv => hok a s h2 v rfl ps fr2 hv hq
 | bad pos => exact fun h2 w fr2 => hbad _ _ (hq h2 w (fr.trans fr2))
 | out => exact hq

theorem rO {α : Type} {ts : List ByteArray} {f : List α → St → R (List α)} (hf : ∀ a s a' s', f a s = .ok a' s' → a'.length ≤ a.length + 1) : ∀ (n : Nat) (a : List α) (s : St) (a' : List α) (s' : St), dI L ts f n a s = .ok a' s' → a'.length ≤ a.length + n
 | 0, _, _, _, _, h => by cases h
 | n + 1, a, s, a', s', h => by
  unfold dI at h
  split at h
  ·cases h; omega
  ·cases hr : f a s with
   | ok b t =>
    rw [hr, R.then_ok] at h
    have := rO hf n b t a' s' h
    have := hf a s b t hr
    omega
   | bad p => rw [hr] at h; cases h
   | out => rw [hr] at h; cases h

theorem R.kE {α β : Type} {r : R α} {f : α → St → R β} {b : β} {s' : St} (h : r.then f = .ok b s') : ∃ a s, r = .ok a s ∧ f a s = .ok b s' := by
 cases r with
 | ok a s => exact ⟨a, s, rfl, h⟩
 | bad p => cases h
 | out => cases h

theorem aCz {n : Nat} {r : Rec} {e : ByteArray} {s s' : St} {l : List Nd} (h : eA n r e L hd s = .ok l s') : l.length ≤ n := by
 unfold eA at h
 obtain ⟨a, s1, h1, h2⟩ := R.kE h
 cases h2
 have := rO (fun a s a' s' hf => by
  obtain ⟨_, s2, _, h4⟩ := R.kE hf
  obtain ⟨x, s3, _, h6⟩ := R.kE h4
  cases h6
  simp) _ _ _ _ _ h1
 simpa using this
theorem rY {n : Nat} {one : PF Nd} {s s' : St} {l : List Nd} (h : gL n one L hd s = .ok l s') : l.length ≤ n := by
 unfold gL at h
 obtain ⟨_, s0, _, h⟩ := R.kE h
 obtain ⟨a, s1, h1, h2⟩ := R.kE h
 cases h2
 have := rO (fun a s a' s' hf => by
  obtain ⟨x, s3, _, h6⟩ := R.kE hf
  cases h6
  simp) _ _ _ _ _ h1
 simpa using this

theorem aHv {r : Rec} {n : Nat} (hn : n ≤ 1000000) (c : qP r) {p : Nat} {L : List Tok} {hd : Bool} {s : St} {h : aA} {Q : bR → Prop} (ps : cF h p L hd s) (h5 : (aK L s.k).kind = 5)
  (hq0 : bT (VN (fun j => h.next ≤ j)) p L hd h Q (kI n r (aK L s.k) L hd s)) : aS Tryz.prog G X 257 [pV p, .agg (aK L s.k).cells.toArray] h Q := by
 have hp := ps.lt
 have hm : s.k + 1 < L.length := ps.wf.more ps.at_ (by omega)
 obtain ⟨jl, hjl, hop, hol⟩ := ps.tok
 unfold kI at hq0
 generalize aK L s.k = tk at *
 refine Wk Tryz.func257 Tryz.ntmps257 (w:=QN (Mx (w:=Mw (w:=QL (QU (Bk (QN (Mj (w:=Mt (w:=MB (w:=fun hh => Mb (w:=QQ (QN (Ma (w:=QK ?_))))) (v:=fun hh => Mb (w:=QP (QN (Ma (w:=Mi (w:=Mj (w:=Mt (w:=Mb (w:=QL (WC.aD4 hX (h1 := fun hh => UA (QN (Ma (w:=QK ?_)))) (h2 := fun hh => QN (Mj (w:=Mt (w:=MB (w:=fun hh => Mb (w:=QQ (QN (Ma (w:=QK ?_))))) (v:=fun hh => Mb (w:=QP (QN (Mj (w:=Mt (w:=MB (w:=fun hh => Mb (w:=QQ (QN (Ma (w:=QK ?_))))) (v:=fun hh => Mb (w:=QP (UA (QN (Ma (w:=QK ?_))))))))))))))))))))))))))))))))))))
 ·rw [if_pos (by assumption)] at hq0
  refine QJ cG ?_
  refine bS (L := L) (hd := hd) (s := s) aI (hm) fun h1 ps1 fr1 => ?_
  have hn1 := nx fr1.1
  refine QO (Ma (w:=Ma (w:=Mp (w:=MJ nQ (w:=?_)))))
  refine gS (hd := hd) (hd' := false) (spec := r.expr L false s.next) aI hG (fun {h2 Q2} ps2 fr2 hq2 => c.expr ps2 hq2) (Nu hq0 (k:=fun t2 s2 h2 b2 n2 es2 ps2 fr2 kv2 hn2 hq2 => ?_))
  refine Mw (w:=Mv (w:=QO (Ma (w:=MJ eI (w:=Wn (hd := hd) hq2 (k:=fun tk3 s3 h3 ps3 fr3 hn3 hq3 => ?_))))))
  refine QO (Mu (w:=Mv (w:=QM ?_)))
  refine ⟨_, aM, ?_⟩
  exact hq3 _ _ aI aT ⟨_, _, _, rfl, (kv2.kp)⟩
 ·rw [if_neg (by assumption), if_pos (by assumption)] at hq0
  refine QJ kS ?_
  exact eS (hd := hd) aI aT hq0 (fun _ _ x => x)
 ·rw [if_neg (by assumption), if_neg (by simp [*]), if_pos (by assumption)] at hq0
  refine QJ cG ?_
  refine bS (L := L) (hd := hd) (s := s) aI (hm) fun h1 ps1 fr1 => ?_
  have hn1 := nx fr1.1
  refine QL (QU (Gd [⟨0, .read, 0⟩, ⟨1, .pure, 0⟩, ⟨5, .alloc, 0⟩, ⟨2, .aF, 2⟩, ⟨3, .pure, 6⟩, ⟨4, .aF, 15⟩, ⟨6, .aF, 63⟩] (w:=Ru (w:=Da (w:=?_)))));refine WD.alloc (hw := Qw ?_);refine WD.aF hX (hw := ?_)
  refine QJ oY ?_
  refine kZ (hd := hd) aI (bT.use aT hq0 (fun _ _ x => x) fun tk2 s2 h2 v2 ps2 fr2 hv2 hq2 => ?_)
  subst hv2
  have hn2 := nx fr2.1
  refine Dk (w:=?_);refine WD.aF hX (hw := ?_)
  refine QJ bM ?_
  refine bG fun h3 g3 => ?_
  have hn3 := nx g3.1
  refine WD.aF hX (hw := Qv ?_);refine WD.nil (hq:=QN (Ma (w:=MJ eI (w:=Wn (hd := hd) hq2 (k:=fun tk4 s4 h4 ps4 fr4 hn4 hq4 => ?_)))))
  refine QL (QU (Bk ?_))
  refine WC.cB hX (α := Nat × List Nd × St) (m := fun a => a.1) (Inv := fun a e h' => e 0 = some (pV p) ∧ e 4 = some (.pointer (some ⟨h.next + 1, 0, none⟩)) ∧ e 6 = some (.pointer (some ⟨h1.next, 0, none⟩)) ∧ cF h' p L hd a.2.2 ∧ cJ p h h' ∧
   h'.obj (h.next + 1) = some (Z0) ∧ h1.next < h'.next ∧ a.1 + a.2.1.length ≤ n ∧ (∃ b n es, h'.obj h1.next = some (.cells false (aG (nd 49 tk tk2.text a.2.1) b n es)) ∧ KV h' (fun j => h1.next < j) b n es a.2.1) ∧
   bT (VN fun j => h.next ≤ j) p L hd h Q ((fZ r L hd (fun s => (gB L s).then fun y s => (cM L s ⟨#[58]⟩).then fun _ s => (r.expr L hd s).then fun e s => .ok (nd 5 y y.text [e]) s) a.1 a.2.1 a.2.2).then fun kids s => .ok (nd 49 tk tk2.text kids) s))
   (n, [], s4) ⟨rfl, rfl, rfl, aI, aT, aD, aB, by simp, ⟨none, 0, 0, aD, KV.nil _ _⟩, hq4⟩ ?_
  rintro ⟨m, kids, s5⟩ env h5 ih ⟨e0, e4, e6, ps5, fr5, ho5, hn5, hm5, ⟨b5, n5, es5, hk5, kv5⟩, hq5⟩
  simp only at ps5 hm5 hk5 kv5 hq5
  have hnn5 := fr5.1
  obtain ⟨m, rfl⟩ : ∃ m', m = m' + 1 := by
   cases m with
   | zero => exact hq5.elim
   | succ m => exact ⟨m, rfl⟩
  unfold fZ at hq5
  have hl5 := kv5.len
  refine QU (QN (Ma (w:=MJ nR (w:=nT (L := L) (hd := hd) (s := s5) aI fun h6 ps6 fr6 => ?_))))
  have hn6 := nx fr6.1
  unfold rG at ps6
  cases hb6 : cC L s5 [⟨#[125]⟩]
  ·rw [hb6, if_neg Bool.false_ne_true] at ps6 hq5
   simp only [R.then_assoc] at hq5
   refine Me (w:=QQ (UA (Bk (QN (Ma (w:=MJ oY (w:=kZ (hd := hd) aI (bT.use aT hq5 (fun _ _ x => x) fun tk20 s20 h20 v20 ps20 fr20 hv20 hq20 => ?_))))))))
   subst hv20
   have hn20 := nx fr20.1
   refine Mw (w:=Mv (w:=QO (Ma (w:=MJ eI (w:=Wn (hd := hd) hq20 (k:=fun tk21 s21 h21 ps21 fr21 hn21 hq21 => ?_))))))
   refine QL (QU (Gd [⟨0, .pure, 0⟩, ⟨1, .read, 1⟩, ⟨2, .read, 0⟩, ⟨3, .pure, 0⟩, ⟨4, .read, 8⟩, ⟨5, .pure, 0⟩, ⟨6, .aF, 32⟩, ⟨7, .alloc, 96⟩, ⟨8, .aF, 252⟩, ⟨9, .alloc, 508⟩, ⟨10, .aF, 1023⟩, ⟨11, .pure, 2047⟩, ⟨12, .aF, 4095⟩] (w:=Dj (w:=Rt (w:=Ru (w:=Dj (w:=Rt (w:=Da (w:=?_)))))))));refine WD.aF hX (hw := ?_)
   refine QJ hG ?_
   refine c.expr aI (Nu hq21 (k:=fun t8 s8 h8 b8 n8 es8 ps8 fr8 kv8 hn8 hq8 => ?_))
   (try simp only [R.then_ok] at hq8)
   refine WD.alloc (hw := Qz ?_);refine WD.aF hX (hw := ?_)
   refine QJ bM ?_
   refine bG fun h22 g22 => ?_
   have hn22 := nx g22.1
   refine WD.alloc (hw := Qz ?_);refine WD.aF hX (hw := ?_)
   have kvH := kv5.mono (S' := fun j => h1.next < j) (h' := (h22).alloc (.cells false (aG (nd 5 tk20 tk20.text [t8]) (some ⟨h8.next, 0, none⟩) 1 7))) aB (fun j hS hj => ⟨aB, bB⟩)
   have hbne := kvH.ne
   obtain ⟨old, hsa, hol, hold⟩ := kvH.sliceAt
   have hol2 : kids.length ≤ 1000000 := by omega
   apply WS.append
   (· rfl); (· rfl); (· exact aL); (· exact aL); (· rfl); (· rfl); (· intro k hk; cases hk); (· exact cE rfl); (· decide); (· exact aD); (· exact iC); (· rfl); (· unfold room; omega); (· rfl); (· exact hsa)
   intro h9 hn9 ho9 hf9
   simp only [UB, UC] at hn9 ho9 hf9
   have hk9 : ∀ j, j ≤ h1.next → h9.obj j = ((h22).alloc (.cells false (aG (nd 5 tk20 tk20.text [t8]) (some ⟨h8.next, 0, none⟩) 1 7))).obj j := fun j hj => hf9 j (by omega) (hbne j hj)
   have fr9 : cJ p h h9 := cJ.dC (H := (h22).alloc (.cells false (aG (nd 5 tk20 tk20.text [t8]) (some ⟨h8.next, 0, none⟩) 1 7))) aT aB fun j hj => hk9 j (by omega)
   have kv9 : KV h9 (fun j => h1.next < j) (some ⟨(h22).next + 1, 0, none⟩) (n5 + 1) 7 (kids ++ [(nd 5 tk20 tk20.text [t8])]) := KV.snoc (h := (h22).alloc (.cells false (aG (nd 5 tk20 tk20.text [t8]) (some ⟨h8.next, 0, none⟩) 1 7))) (S2 := fun j => h5.next ≤ j ∧ j < (h22).next) hol (by omega) hold (NV.aZ (KV.one (S := fun j => h5.next ≤ j ∧ j < h8.next) aB aB aD (kv8.kp) (fun j hS hj => ⟨⟨hS.1, by have := hS.2; exact aB⟩, by have := hS.2; exact aB⟩)) _ _ _ _ _ _) aB ho9 hf9 aB (fun x hx _ => by omega) (fun x hx hlt => ⟨by have := hx.1; omega, kv5.ge x hx.1⟩)
   have ps9 : cF h9 p L hd s8 := cF.dC (h := h22.alloc (.cells false (aG (nd 5 tk20 tk20.text [t8]) (some ⟨h8.next, 0, none⟩) 1 7))) aI aB fun j hj => hk9 j (by omega)
   have ho9a : h9.obj (h.next + 1) = some (Z0) := (hk9 _ (by omega)).trans aD
   have ho9b : h9.obj h1.next = some (.cells false (aG (nd 49 tk tk2.text kids) b5 n5 es5)) := (hk9 _ (by omega)).trans aD
   refine Dj (w:=?_);refine WD.aF hX (hw := Qv ?_);refine WD.nil (hq:=QV (Ma (w:=MJ aL4 (w:=aD3 (hd := hd) aI (bT.use aT hq8 (fun _ _ x => x) fun u23 s23 h23 v23 ps23 fr23 hv23 hq23 => ?_)))))
   subst hv23
   have hn23 := nx fr23.1
   refine QL ?_
   exact ih (m, kids ++ [nd 5 tk20 tk20.text [t8]], s23) _ _ (by simp) ⟨e0, e4, e6, aI, aT, aD, aB, by simp; omega, ⟨_, _, _, aD, kv9.kp⟩, hq23⟩
  ·rw [hb6, if_pos rfl] at ps6 hq5
   rw [R.then_ok] at hq5
   refine Me (w:=QP (WC.exit (aH (QN (Mu (w:=Mv (w:=QM ?_)))))))
   refine ⟨_, aM, ?_⟩
   refine hq5 _ _ aI aT ⟨_, _, _, rfl, NV.aZ ?_ _ _ _ _ _ _⟩
   exact (kv5.kp)
 ·rw [if_neg (by assumption), if_neg (by simp [*]), if_neg (by assumption), if_pos (by assumption)] at hq0
  refine QJ cG ?_
  refine bS (L := L) (hd := hd) (s := s) aI (hm) fun h1 ps1 fr1 => ?_
  have hn1 := nx fr1.1
  refine QO (Ma (w:=MJ eI (w:=Wn (hd := hd) hq0 (k:=fun tk2 s2 h2 ps2 fr2 hn2 hq2 => ?_))))
  refine QL (QU (Gd [⟨0, .read, 0⟩, ⟨1, .pure, 0⟩, ⟨5, .alloc, 0⟩, ⟨2, .aF, 2⟩, ⟨3, .alloc, 6⟩, ⟨4, .aF, 15⟩, ⟨6, .aF, 63⟩] (w:=Ru (w:=Da (w:=?_)))));refine WD.alloc (hw := Qw ?_);refine WD.aF hX (hw := ?_)
  refine QJ nP ?_
  refine c.cD aI (Nu hq2 (k:=fun t24 s24 h24 b24 n24 es24 ps24 fr24 kv24 hn24 hq24 => ?_))
  refine WD.alloc (hw := Qz ?_);refine WD.aF hX (hw := ?_)
  refine QJ bM ?_
  refine bG fun h3 g3 => ?_
  have hn3 := nx g3.1
  refine WD.aF hX (hw := Qv ?_);refine WD.nil (hq:=QN (Ma (w:=MJ eI (w:=Wn (hd := hd) hq24 (k:=fun tk4 s4 h4 ps4 fr4 hn4 hq4 => ?_)))))
  refine QL (QU (Bk ?_))
  refine WC.cB hX (α := Nat × List Nd × St) (m := fun a => a.1) (Inv := fun a e h' => e 0 = some (pV p) ∧ e 4 = some (.pointer (some ⟨h.next + 1, 0, none⟩)) ∧ e 8 = some (.pointer (some ⟨h2.next, 0, none⟩)) ∧ cF h' p L hd a.2.2 ∧ cJ p h h' ∧
   h'.obj (h.next + 1) = some (Z0) ∧ h2.next < h'.next ∧ a.1 + a.2.1.length ≤ n + 1 ∧ (∃ b n es, h'.obj h2.next = some (.cells false (aG (nd 50 tk ⟨#[]⟩ a.2.1) b n es)) ∧ KV h' (fun j => h2.next < j) b n es a.2.1) ∧
   bT (VN fun j => h.next ≤ j) p L hd h Q ((fZ r L hd (fun s => r.expr L hd s) a.1 a.2.1 a.2.2).then fun kids s => .ok (nd 50 tk ⟨#[]⟩ kids) s))
   (n, [t24], s4) ⟨rfl, rfl, rfl, aI, aT, aD, aB, by simp, ⟨_, _, _, aD, (KV.one (S := fun j => h2.next < j ∧ j < h24.next) aB aB aD (kv24.kp) (fun j hS hj => ⟨hS.1, by have := hS.2; exact aB⟩))⟩, hq4⟩ ?_
  rintro ⟨m, kids, s5⟩ env h5 ih ⟨e0, e4, e6, ps5, fr5, ho5, hn5, hm5, ⟨b5, n5, es5, hk5, kv5⟩, hq5⟩
  simp only at ps5 hm5 hk5 kv5 hq5
  have hnn5 := fr5.1
  obtain ⟨m, rfl⟩ : ∃ m', m = m' + 1 := by
   cases m with
   | zero => exact hq5.elim
   | succ m => exact ⟨m, rfl⟩
  unfold fZ at hq5
  have hl5 := kv5.len
  refine QU (QN (Ma (w:=MJ nR (w:=nT (L := L) (hd := hd) (s := s5) aI fun h6 ps6 fr6 => ?_))))
  have hn6 := nx fr6.1
  unfold rG at ps6
  cases hb6 : cC L s5 [⟨#[125]⟩]
  ·rw [hb6, if_neg Bool.false_ne_true] at ps6 hq5
   simp only [R.then_assoc] at hq5
   refine Me (w:=QQ (UA (Bk (QU (Gd [⟨0, .pure, 0⟩, ⟨1, .read, 1⟩, ⟨2, .pure, 0⟩, ⟨3, .aF, 4⟩, ⟨4, .alloc, 12⟩, ⟨5, .aF, 31⟩, ⟨6, .pure, 63⟩, ⟨7, .aF, 127⟩] (w:=Dj (w:=Rt (w:=Da (w:=?_)))))))));refine WD.aF hX (hw := ?_)
   refine QJ hG ?_
   refine c.expr aI (Nu hq5 (k:=fun t8 s8 h8 b8 n8 es8 ps8 fr8 kv8 hn8 hq8 => ?_))
   (try simp only [R.then_ok] at hq8)
   refine WD.alloc (hw := Qz ?_);refine WD.aF hX (hw := ?_)
   have kvH := kv5.mono (S' := fun j => h2.next < j) (h' := (h8).alloc (.cells false (aG t8 b8 n8 es8))) aB (fun j hS hj => ⟨aB, bB⟩)
   have hbne := kvH.ne
   obtain ⟨old, hsa, hol, hold⟩ := kvH.sliceAt
   have hol2 : kids.length ≤ 1000000 := by omega
   apply WS.append
   (· rfl); (· rfl); (· exact aL); (· exact aL); (· rfl); (· rfl); (· intro k hk; cases hk); (· exact cE rfl); (· decide); (· exact aD); (· exact iC); (· rfl); (· unfold room; omega); (· rfl); (· exact hsa)
   intro h9 hn9 ho9 hf9
   simp only [UB, UC] at hn9 ho9 hf9
   have hk9 : ∀ j, j ≤ h2.next → h9.obj j = ((h8).alloc (.cells false (aG t8 b8 n8 es8))).obj j := fun j hj => hf9 j (by omega) (hbne j hj)
   have fr9 : cJ p h h9 := cJ.dC (H := (h8).alloc (.cells false (aG t8 b8 n8 es8))) aT aB fun j hj => hk9 j (by omega)
   have kv9 : KV h9 (fun j => h2.next < j) (some ⟨(h8).next + 1, 0, none⟩) (n5 + 1) 7 (kids ++ [t8]) := KV.snoc (h := (h8).alloc (.cells false (aG t8 b8 n8 es8))) (S2 := fun j => h5.next ≤ j ∧ j < (h8).next) hol (by omega) hold (kv8.kp) aB ho9 hf9 aB (fun x hx _ => by omega) (fun x hx hlt => ⟨by have := hx.1; omega, kv5.ge x hx.1⟩)
   have ps9 : cF h9 p L hd s8 := cF.dC (h := h8.alloc (.cells false (aG t8 b8 n8 es8))) aI aB fun j hj => hk9 j (by omega)
   have ho9a : h9.obj (h.next + 1) = some (Z0) := (hk9 _ (by omega)).trans aD
   have ho9b : h9.obj h2.next = some (.cells false (aG (nd 50 tk ⟨#[]⟩ kids) b5 n5 es5)) := (hk9 _ (by omega)).trans aD
   refine Dj (w:=?_);refine WD.aF hX (hw := Qv ?_);refine WD.nil (hq:=QV (Ma (w:=MJ aL4 (w:=aD3 (hd := hd) aI (bT.use aT hq8 (fun _ _ x => x) fun u23 s23 h23 v23 ps23 fr23 hv23 hq23 => ?_)))))
   subst hv23
   have hn23 := nx fr23.1
   refine QL ?_
   exact ih (m, kids ++ [t8], s23) _ _ (by simp) ⟨e0, e4, e6, aI, aT, aD, aB, by simp; omega, ⟨_, _, _, aD, kv9.kp⟩, hq23⟩
  ·rw [hb6, if_pos rfl] at ps6 hq5
   rw [R.then_ok] at hq5
   refine Me (w:=QP (WC.exit (aH (QN (Mu (w:=Mv (w:=QM ?_)))))))
   refine ⟨_, aM, ?_⟩
   refine hq5 _ _ aI aT ⟨_, _, _, rfl, NV.aZ ?_ _ _ _ _ _ _⟩
   exact (kv5.kp)
 ·rw [if_neg (by assumption), if_neg (by simp [*]), if_neg (by assumption), if_neg (by assumption)] at hq0
  refine QJ kS ?_
  exact eS (hd := hd) aI aT hq0 (fun _ _ x => x)

theorem aFp {r : Rec} {n : Nat} (hn : n ≤ 1000000) (c : qP r) : CN 248 (kU n r) := by
 intro p L hd s h Q ps hq0
 have hp := ps.lt
 have hm : (aK L s.k).kind ≠ 6 → s.k + 1 < L.length := ps.wf.more ps.at_
 have hmw : ∀ {h : aA} {Q : bR → Prop}, cF h p L hd s → (aK L s.k).kind = 5 → bT (VN (fun j => h.next ≤ j)) p L hd h Q (kI n r (aK L s.k) L hd s) → aS Tryz.prog G X 257 [pV p, .agg (aK L s.k).cells.toArray] h Q := aHv hn c
 have hww : ∀ {h : aA} {Q : bR → Prop}, cF h p L hd s → (aK L s.k).kind = 4 → bT (VN (fun j => h.next ≤ j)) p L hd h Q (kN n r (aK L s.k) L hd s) → aS Tryz.prog G X 258 [pV p, .agg (aK L s.k).cells.toArray] h Q := aI5 hn c
 unfold kU at hq0
 refine Wk Tryz.func248 Tryz.ntmps248 (w:=QN (Mw (w:=QO (Ma (w:=MJ rB (w:=iU (L := L) (hd := hd) (s := s) aI fun h1 g1 => ?_))))))
 have hn1 := nx g1.1
 simp only at hq0
 generalize aK L s.k = tk at *
 refine Mw (w:=Mv (w:=QL (QU (QN (Mj (w:=Mt (w:=QL (Bk (QN (MD (w:=fun hh => Mb (w:=QQ (QN (Ma (w:=QK ?_))))) (v:=fun hh => Mb (w:=QP (QN (MD (w:=fun hh => Mb (w:=QQ (QN (Ma (w:=QK ?_))))) (v:=fun hh => Mb (w:=QP (QN (MD (w:=fun hh => Mb (w:=QQ (QN (Ma (w:=QK ?_))))) (v:=fun hh => Mb (w:=QP (QN (MD (w:=fun hh => Mb (w:=QQ (QN (Ma (w:=Mu (w:=QK ?_)))))) (v:=fun hh => Mb (w:=QP (QN (MD (w:=fun hh => Mb (w:=QQ (QN (Ma (w:=Mu (w:=QK ?_)))))) (v:=fun hh => Mb (w:=QP (UA (QN (Ma (w:=QK ?_))))))))))))))))))))))))))))))))
 all_goals (repeat (first | rw [if_pos (by assumption)] at hq0 | rw [if_neg (by assumption)] at hq0))
 ·refine QJ cG ?_
  refine bS (L := L) (hd := hd) (s := s) aI (hm (by omega)) fun h2 ps2 fr2 => ?_
  have hn2 := nx fr2.1
  refine QO (Mj (w:=Mt (w:=Mj (w:=Mt (w:=Mn (w:=Mv (w:=QM ?_)))))))
  refine ⟨_, aM, ?_⟩
  exact hq0 _ _ aI aT ⟨none, 0, 0, rfl, .leaf _ _ _ _ _ _⟩
 ·refine QJ cG ?_
  refine bS (L := L) (hd := hd) (s := s) aI (hm (by omega)) fun h2 ps2 fr2 => ?_
  have hn2 := nx fr2.1
  refine QO (Mu (w:=Mj (w:=Mt (w:=MJ bM (w:=bG fun h3 g3 => ?_)))))
  have hn3 := nx g3.1
  refine Mv (w:=QM ?_)
  refine ⟨_, aM, ?_⟩
  refine hq0 _ _ aI aT ⟨_, _, _, rfl, NV.aZ ?_ _ _ _ _ _ _⟩
  exact (KV.nil _ _)
 ·refine QJ cG ?_
  refine bS (L := L) (hd := hd) (s := s) aI (hm (by omega)) fun h2 ps2 fr2 => ?_
  have hn2 := nx fr2.1
  refine QO (Mu (w:=Mj (w:=Mt (w:=MJ bM (w:=bG fun h3 g3 => ?_)))))
  have hn3 := nx g3.1
  refine Mv (w:=QM ?_)
  refine ⟨_, aM, ?_⟩
  refine hq0 _ _ aI aT ⟨_, _, _, rfl, NV.aZ ?_ _ _ _ _ _ _⟩
  exact (KV.nil _ _)
 ·rw [← R.dA (kI n r tk L hd s)] at hq0
  refine QJ aPq ?_
  refine hmw aI (by assumption) (bT.use aT hq0 (fun _ _ x => x) fun t3 s3 h3 v3 ps3 fr3 hv3 hq3 => ?_)
  obtain ⟨b3, n3, es3, rfl, kv3⟩ := hv3
  have hn3 := fr3.1
  simp only [UB, UC] at hn3
  refine Mv (w:=QM ?_)
  refine ⟨_, aM, ?_⟩
  exact hq3 _ _ aI aT ⟨_, _, _, rfl, (kv3.kp)⟩
 ·rw [← R.dA (kN n r tk L hd s)] at hq0
  refine QJ aPr ?_
  refine hww aI (by assumption) (bT.use aT hq0 (fun _ _ x => x) fun t3 s3 h3 v3 ps3 fr3 hv3 hq3 => ?_)
  obtain ⟨b3, n3, es3, rfl, kv3⟩ := hv3
  have hn3 := fr3.1
  simp only [UB, UC] at hn3
  refine Mv (w:=QM ?_)
  refine ⟨_, aM, ?_⟩
  exact hq3 _ _ aI aT ⟨_, _, _, rfl, (kv3.kp)⟩
 ·refine QJ kS ?_
  exact eS (hd := hd) aI aT hq0 (fun _ _ x => x)

theorem aDi {r : Rec} (c : qP r) {i j l : Nat} {t : Tok} {tn : Nd} {bn : Option Addr} {nn esn lo hi x : Nat} {p : Nat} {L : List Tok} {hd : Bool} {s : St} {h : aA} {Q : bR → Prop} (ps : cF h p L hd s) (ho : h.obj i = some (.cells false [pV p])) (hi1 : i < h.next) (hip : i ≠ p)
  (hoj : h.obj j = some (.cells false t.cells)) (hol : h.obj l = some (.cells false (aG tn bn nn esn))) (hj1 : j < h.next) (hl1 : l < h.next)
  (hlo : lo ≤ h.next) (hpl : p < lo) (hhi : hi ≤ h.next) (hxn : x < h.next) (kvn : NV h (fun j => lo ≤ j ∧ j ≠ x ∧ j < hi) (aG tn bn nn esn) tn)
  (hq0 : bT (VN (fun j => lo ≤ j ∧ j ≠ x ∧ (j < hi ∨ h.next ≤ j))) p L hd h Q (l4 r t tn L hd s)) : aS Tryz.prog G X 252 [.pointer (some ⟨i, 0, none⟩), .pointer (some ⟨j, 0, none⟩), .pointer (some ⟨l, 0, none⟩)] h Q := by
 have hp := ps.lt
 rw [← R.dA (l4 r t tn L hd s)] at hq0
 refine Wk Tryz.func252 Tryz.ntmps252 (w:=QN (Mw (w:=QO (Mt (w:=Mu (w:=Mu (w:=MJ aPn (w:=aIf c (hi := hi) (lo := lo) (x := x) aI aB aB hpl (kvn.kp) (bT.use aT hq0 (fun _ _ x => x) fun t1 s1 h1 v1 ps1 fr1 hv1 hq1 => ?_)))))))))
 obtain ⟨b1, n1, es1, rfl, kv1⟩ := hv1
 have hn1 := fr1.1
 simp only [aA.aC] at hn1
 refine Mv (w:=QM ?_)
 refine ⟨_, aM, ?_⟩
 exact hq1 _ _ aI aT ⟨_, _, _, rfl, kv1.kp⟩

theorem aFt {r : Rec} {n : Nat} (hn : n ≤ 1000000) (c : qP r) : CN 232 (l8 n r) := by
 intro p L hd s h Q ps hq0
 have hp := ps.lt
 unfold l8 at hq0
 simp only at hq0
 refine Wk Tryz.func232 Tryz.ntmps232 (w:=QN (Mx (w:=Mw (w:=QO (Mt (w:=My (w:=MJ c8 (w:=fB (L := L) (hd := hd) (s := s) (ts := [⟨#[40]⟩]) aI aD aB rfl (by first | decide | simp) fun h1 g1 => ?_))))))))
 have hn1 := nx g1.1
 refine Mb (w:=QO (Mt (w:=MJ aPk (w:=aFp hn c aI (Nu hq0 (k:=fun t2 s2 h2 b2 n2 es2 ps2 fr2 kv2 hn2 hq2 => ?_))))))
 refine Mw (w:=Mv (w:=QL (QU (Bk ?_))))
 refine WC.cB hX (α := Nat × Nd × Bool × St) (m := fun a => a.1) (Inv := fun a e h' => e 1 = some (.pointer (some ⟨h.next, 0, none⟩)) ∧ e 2 = some (.pointer (some ⟨h.next + 1, 0, none⟩)) ∧ e 3 = some (.bool a.2.2.1) ∧ e 4 = some (.pointer (some ⟨h2.next, 0, none⟩)) ∧
  cF h' p L hd a.2.2.2 ∧ cJ p h h' ∧ h'.obj h.next = some (.cells false [pV p]) ∧ h'.obj (h.next + 1) = some (Z0) ∧ h2.next < h'.next ∧
  (∃ b n es, h'.obj h2.next = some (.cells false (aG a.2.1 b n es)) ∧ NV h' (fun j => h.next + 1 < j ∧ j ≠ h2.next) (aG a.2.1 b n es) a.2.1) ∧
  bT (VN fun j => h.next ≤ j) p L hd h Q ((gW n r L a.1 a.2.1 a.2.2.1 a.2.2.2).then fun y s => .ok y.1 (s.with y.2)))
  (n, t2, cC L s [⟨#[40]⟩], s2) ⟨rfl, rfl, rfl, rfl, aI, aT, aD, aD, aB, ⟨b2, n2, es2, aD, (kv2.kp)⟩, hq2⟩ ?_
 rintro ⟨m, x, bare, s5⟩ env h5 ih ⟨e1, e2, e3, e4, ps5, fr5, hob, hoz, hn5, ⟨b5, n5, es5, hk5, kv5⟩, hq5⟩
 simp only at ps5 e3 hk5 kv5 hq5
 have hnn5 := fr5.1
 obtain ⟨m, rfl⟩ : ∃ m', m = m' + 1 := by
  cases m with
  | zero => exact hq5.elim
  | succ m => exact ⟨m, rfl⟩
 unfold gW at hq5
 refine QU (QN (Mt (w:=My (w:=MJ c8 (w:=fB (L := L) (hd := hd) (s := s5) (ts := [⟨#[40]⟩, ⟨#[91]⟩, ⟨#[46]⟩]) aI aD aB rfl (by first | decide | simp) fun h6 g6 => ?_)))))
 have hn6 := nx g6.1
 cases hb6 : cC L s5 [⟨#[40]⟩, ⟨#[91]⟩, ⟨#[46]⟩]
 ·rw [hb6, if_neg Bool.false_ne_true] at hq5
  rw [R.then_ok] at hq5
  obtain ⟨j, hj, hop, hol⟩ := ps5.tok
  refine QP (WC.exit (aH (QN (Mt (w:=Ma (w:=Mi (w:=Mj (w:=Mv (w:=QO (Mu (w:=Mv (w:=QM ?_))))))))))))
  refine ⟨_, aM, ?_⟩
  refine hq5 _ _ ?_ ?_ ⟨_, _, _, rfl, kv5.kp⟩
  ·refine cF.put ?_ aB
   exact cF.self (hd := hd) (s := s5) (j := j) aI aD hd (s5.with bare) ps5.at_
  ·refine cJ.put (cJ.self ?_) aB
   exact aT
 ·rw [hb6, if_pos rfl] at hq5
  simp only [R.then_assoc] at hq5
  refine QQ (UA (Bk (QN (Mb (w:=QO (Mt (w:=MJ cG (w:=bS (L := L) (hd := hd) (s := s5) aI (ps5.wf.is ps5.at_ hb6) fun h7 ps7 fr7 => ?_))))))))
  have hn7 := nx fr7.1
  generalize aK L s5.k = tk at *
  refine Mw (w:=Mv (w:=QO (Mj (w:=Mt (w:=QL (Bk (QN (MB (w:=fun hh => Mb (w:=QQ (QN (Mt (w:=Mp (w:=QK ?_)))))) (v:=fun hh => Mb (w:=QP (QN (MB (w:=fun hh => Mb (w:=QQ (QV (Mt (w:=Mp (w:=QK ?_)))))) (v:=fun hh => Mb (w:=QP (Gd [⟨0, .read, 0⟩, ⟨1, .read, 0⟩, ⟨4, .read, 0⟩, ⟨5, .alloc, 16⟩, ⟨2, .aF, 2⟩, ⟨3, .pure, 6⟩, ⟨6, .aF, 63⟩, ⟨7, .aF, 127⟩] (w:=Ru (w:=Rt (w:=Ru (w:=?_)))))))))))))))))));rotate_left 2;refine WD.alloc (hw := Qz ?_);refine WD.aF hX (hw := ?_);rotate_left
  ·rw [if_pos (by assumption), R.then_assoc] at hq5
   refine QJ uH ?_
   refine jF (L := L) (s := s5.next) (hd := hd) (hd' := false) (spec := eA n r ⟨#[41]⟩ L false s5.next) aI aPl (fun {h9 Q9} ps9 fr9 hq9 => ?_) (bT.aN8 aT hq5 (fun _ _ x => x) fun t10 s10 h10 v10 hr10 ps10 fr10 hv10 hq10 => ?_)
   ·exact aDh (i := h.next) hn c ps9 (fr9.at aB aB aD) (by have := fr9.1; (try simp only [UB, UC] at this); omega) aB hq9
   ·obtain ⟨b10, n10, es10, rfl, kv10⟩ := hv10
    have hn10 := nx fr10.1
    have hlen := aCz hr10
    have hl10 := kv10.len
    rw [R.then_ok] at hq10
    refine Mb (w:=QL (Gd [⟨0, .read, 0⟩, ⟨1, .read, 0⟩, ⟨2, .alloc, 2⟩, ⟨3, .pure, 0⟩, ⟨4, .aF, 14⟩, ⟨5, .aF, 31⟩, ⟨6, .aF, 63⟩] (w:=Ru (w:=Ru (w:=?_)))));refine WD.alloc (hw := Qz ?_);refine Da (w:=?_);refine WD.aF hX (hw := ?_)
    refine WS.kQ (S1 := fun j => h.next + 1 < j ∧ j ≠ h2.next) (S2 := fun j => h7.next < j ∧ j < h10.next) (k1 := [x]) (k2 := t10) rfl rfl aL aL rfl rfl (by intro k hk; cases hk) (cE rfl) (by unfold room; omega)
     (KV.one (S := fun j => h.next + 1 < j ∧ j ≠ h2.next ∧ j < h10.next) aB aB aD (kv5.kp) (fun j hS hj => ⟨⟨hS.1, hS.2.1⟩, by have := hS.2.2; exact aB⟩)) (kv10.kp) (fun x hx _ off e => by cases e; have := hx.2; omega) ?_
    intro h11 b11 es11 hn11 kv11 hf11
    simp only [aA.aC] at hn11
    have hk11 : ∀ j, j < h10.next → h11.obj j = h10.obj j := fun j hj => (hf11 j aB (by intro off e; cases e; omega)).trans (bX aB rfl)
    have fr11 : cJ p h h11 := cJ.dC (H := h10) aT aB fun j hj => hk11 j (by omega)
    have ps11 : cF h11 p L hd s10 := cF.dC (h := h10) ps10 aB fun j hj => hk11 j (by omega)
    have ho11 : h11.obj h.next = some (.cells false [pV p]) := (hk11 _ (by omega)).trans aD
    have ho11z : h11.obj (h.next + 1) = some (Z0) := (hk11 _ (by omega)).trans aD
    have ho11n : h11.obj h2.next = some (.cells false (aG x b5 n5 es5)) := (hk11 _ (by omega)).trans aD
    have ho11t : h11.obj h7.next = some (.cells false tk.cells) := (hk11 _ (by omega)).trans aD
    refine WD.aF hX (hw := ?_)
    refine QJ bM ?_
    refine bG fun h12 g12 => ?_
    have hn12 := nx g12.1
    refine WD.aF hX (hw := Qv ?_);refine WD.nil (hq:=?_)
    refine ih (m, nd 43 tk ⟨#[]⟩ (x :: t10), false, s10) _ _ (by simp) ⟨e1, e2, rfl, e4, aI, aT, aD, aD, aB, ⟨b11, 1 + n10, es11, aD, NV.aZ (kv11.kp) _ _ _ _ _ _⟩, hq10⟩
  ·rw [if_neg (by assumption), if_pos (by assumption)] at hq5
   refine QJ nQ ?_
   refine aCf (L := L) (s := s5.next) (hd := hd) (hd' := false) (lo := h.next + 2) (hi := h7.next) (x := h2.next) (spec := l4 r tk x L false s5.next) aI aB aB aB aPm (fun {h9 Q9} ps9 fr9 hq9 => ?_) (bT.use aT hq5 (fun _ _ x => x) fun t10 s10 h10 v10 ps10 fr10 hv10 hq10 => ?_)
   ·have hn9 := nx fr9.1
    exact aDi (i := h.next) (j := h7.next) (l := h2.next) (x := h2.next) (lo := h.next + 2) (hi := h7.next) c ps9 (fr9.at aB aB aD) aB aB (fr9.at aB aB aD) (fr9.at aB aB aD) aB aB aB aB aB aB (kv5.mono aB (fun j hS hj => by have a := hS.1; have b := hS.2; exact ⟨aB, bB⟩)) hq9
   ·obtain ⟨b10, n10, es10, rfl, kv10⟩ := hv10
    have hn10 := nx fr10.1
    refine Mv (w:=QL ?_)
    refine ih (m, t10, false, s10) _ _ (by simp) ⟨e1, e2, rfl, e4, aI, aT, aD, aD, aB, ⟨_, _, _, aD, kv10.kp⟩, hq10⟩
  ·rw [if_neg (by assumption), if_neg (by assumption), R.then_assoc] at hq5
   refine QJ oY ?_
   refine kZ (hd := hd) aI (bT.use aT hq5 (fun _ _ x => x) fun tk10 s10 h10 v10 ps10 fr10 hv10 hq10 => ?_)
   subst hv10
   have hn10 := nx fr10.1
   rw [R.then_ok] at hq10
   refine Dk (w:=?_);refine WD.aF hX (hw := ?_)
   refine QJ bM ?_
   refine bG fun h12 g12 => ?_
   have hn12 := nx g12.1
   refine WD.aF hX (hw := Qv ?_);refine WD.nil (hq:=?_)
   refine ih (m, nd 47 tk tk10.text [x], false, s10) _ _ (by simp) ⟨e1, e2, rfl, e4, aI, aT, aD, aD, aB, ⟨some ⟨h7.next + 1, 0, none⟩, 1, 7, aD, NV.aZ (KV.one (i := h7.next + 1) (S := fun j => h.next + 1 < j ∧ j ≠ h2.next ∧ j < h7.next) aB aB aD (kv5.kp) (fun j hS hj => ⟨⟨hS.1, hS.2.1⟩, by have := hS.2.2; exact aB⟩)) _ _ _ _ _ _⟩, hq10⟩

end Go.Proofs.ZL
end
