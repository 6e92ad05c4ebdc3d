/- The printer on the heap, second part: statements. -/
import Derived.Test.YtpdkdgfknanipaaGreatDoorYX4
section
open Go Go.Am
namespace Go.Proofs.ZL
set_option maxRecDepth 100000
set_option linter.unusedSimpArgs false
set_option linter.unusedVariables false
set_option maxHeartbeats 4000000
variable {h : aA} {Q : bR → Prop} {L : List Tok} {p : Nat} {hd : Bool} {src : ByteArray}
theorem WC.frz {P : Program} {n : Nat} {c : Code} {env : Env} {N : Env → aA → Prop} {E : Nat → Env → aA → Prop} {R : Env → aA → Prop} {F : List PanicEntry → aA → Prop} (C : aA → Prop) (hc : C h) (k : ∀ H, C H → WC P G X n c env H N E R F) : WC P G X n c env h N E R F := k h hc

section
variable {n : Nat} {r : Pr} {t : Nd} {p b : Nat} {d : Int} {acc : ByteArray} {v : Option Addr} {m es : Nat} {h : aA} {Q : bR → Prop}

theorem aKi (c : CPr n r) (w : Wks (n + 1) t) (hd : 0 ≤ d ∧ d + (n + 1) ≤ 1000000) (ps : gI h p b d acc) (hv : NV h (fun j => j < p) (aG t v m es) t) (hl : (pU r d t acc).size ≤ o5) (hq : kO p b d h (pU r d t acc) Q) : aS Tryz.prog G X 149 [pV p, .agg (aG t v m es).toArray] h Q := by
 have hlen := w.len
 have hmk := hv.nD
 subst hmk
 have hp := ps.lt
 have hbl := ps.aY
 unfold pU at hl hq
 dsimp only at hl hq
 refine Wk Tryz.func149 Tryz.ntmps149 (w:=?_)
 refine QN (Mx (w:=QL (QU (Gd [⟨0, .read, 0⟩, ⟨2, .read, 0⟩, ⟨4, .read, 0⟩, ⟨6, .alloc, 0⟩, ⟨7, .alloc, 0⟩, ⟨8, .alloc, 0⟩, ⟨1, .aF, 1⟩, ⟨3, .aF, 7⟩, ⟨5, .aF, 31⟩, ⟨9, .aF, 511⟩, ⟨10, .aF, 1023⟩, ⟨11, .aF, 2047⟩] (w:=Ru (w:=Ru (w:=Ru (w:=?_))))))));refine WD.alloc (hw := Qw ?_);refine WD.alloc (hw := Qw ?_);refine WD.alloc (hw := Qw ?_);refine WD.aF hX (hw := ?_)
 refine QJ eH ?_
 refine cS (t := t) (i := 0) (hv.mono aB (fun j hj hlt => ⟨hj, bB⟩)) (by omega) (by omega) fun h1 v1 m1 e1 g1 k1 nv1 => ?_
 have hn1 := g1.1
 (try simp only [aA.aE, aA.aC] at hn1)
 refine WD.aF hX (hw := ?_)
 refine QJ eH ?_
 refine cS (t := t) (i := 1) (hv.mono aB (fun j hj hlt => ⟨hj, bB⟩)) (by omega) (by omega) fun h2 v2 m2 e2 g2 k2 nv2 => ?_
 have hn2 := g2.1
 (try simp only [aA.aE, aA.aC] at hn2)
 refine WD.aF hX (hw := ?_)
 refine QJ eH ?_
 refine cS (t := t) (i := 2) (hv.mono aB (fun j hj hlt => ⟨hj, bB⟩)) (by omega) (by omega) fun h3 v3 m3 e3 g3 k3 nv3 => ?_
 have hn3 := g3.1
 (try simp only [aA.aE, aA.aC] at hn3)
 dsimp only
 simp (decide := true) only [uG, sA, List.nil_append, List.cons_append, if_true, if_false, aA.aC]
 have z1 : h3.obj (h.next + 1) = some (Z0) := aD
 have z2 : h3.obj (h.next + 1 + 1) = some (Z0) := aD
 have z3 : h3.obj (h.next + 1 + 1 + 1) = some (Z0) := aD
 refine WD.aF hX rfl ⟨z1.trans cY.symm, z2.trans cY.symm, z3.trans cY.symm, trivial⟩ ?_
 refine WS.store (hk := ?_)
 simp (decide := true) only [uG, sA, List.nil_append, List.cons_append, if_true, if_false, aA.aC]
 refine WD.aF hX rfl trivial ?_
 refine WS.store (hk := ?_)
 simp (decide := true) only [uG, sA, List.nil_append, List.cons_append, if_true, if_false, aA.aC]
 refine WD.aF hX rfl trivial ?_
 refine WS.store (hk := ?_)
 simp (decide := true) only [uG, sA, List.nil_append, List.cons_append, if_true, if_false, aA.aC]
 refine WD.nil trivial ?_
 refine WC.frz (C := fun H => h.next + 4 ≤ H.next ∧ gI H p b d acc ∧ aR p b h H ∧ NV H (fun j => j < p) (aG t v t.kids.length es) t ∧ NV H (fun j => j < p) (aG (aW t 0) v1 m1 e1) (aW t 0) ∧ NV H (fun j => j < p) (aG (aW t 1) v2 m2 e2) (aW t 1) ∧ NV H (fun j => j < p) (aG (aW t 2) v3 m3 e3) (aW t 2) ∧ H.obj h.next = some (.cells false (aG t v t.kids.length es)) ∧ H.obj (h.next + 1) = some (.cells false (aG (aW t 0) v1 m1 e1)) ∧ H.obj (h.next + 1 + 1) = some (.cells false (aG (aW t 1) v2 m2 e2)) ∧ H.obj (h.next + 1 + 1 + 1) = some (.cells false (aG (aW t 2) v3 m3 e3))) ⟨aB, aP, aO, hv.mono aB (fun j hj hlt => ⟨hj, bB⟩), nv1.mono aB (fun j hj hlt => ⟨hj, bB⟩), nv2.mono aB (fun j hj hlt => ⟨hj, bB⟩), nv3.mono aB (fun j hj hlt => ⟨hj, bB⟩), aD, aD, aD, aD⟩ ?_
 clear nv1 nv2 nv3 k1 k2 k3 g1 g2 g3 z1 z2 z3 hn1 hn2 hn3 ps
 clear hv
 rintro h4 ⟨hn4, ps4, fb4, hv, nv0, nv1, nv2, o4, o40, o41, o42⟩
 have hbl4 := ps4.aY
 have hk3 := w.tK (i := 3)
 have key : ((aW t 0).kind = 8 ∧ (aW t 2).kind = 8 ∧ (aW t 1).kind ≠ 8) ∨ ((aW t 0).kind = 8 ∧ (aW t 2).kind = 8 ∧ (aW t 1).kind = 8) ∨ (aW t 0).kind ≠ 8 ∨ ((aW t 0).kind = 8 ∧ (aW t 2).kind ≠ 8) := by omega
 refine QN (Ma (w:=My (w:=MJ bQ (w:=bH (b := b) (d := d) (acc := acc) (ss := [(⟨#[102, 111, 114, 32]⟩ :ByteArray)]) aP aB aB aB aD (by simp) bI ?_))))
 intro h5 b5 x5 v5 ps5 fr5 hb5
 have hn5 := fr5.1
 (try simp only [aA.aE, aA.aC] at hn5 hb5)
 have fb5 : aR p b h h5 := aR.call (b1 := b) aO (by omega) fr5
 have hbl5 := ps5.aY
 simp only [List.foldl_cons, List.foldl_nil] at ps5
 generalize acc ++ (⟨#[102, 111, 114, 32]⟩ :ByteArray) = acc5 at ps5 hq hl
 refine QL (QU (QN (Mj (w:=Mt (w:=MD (w:=fun hh => Ma (w:=Mj (w:=Mt (w:=MD (w:=fun hh => Mc (w:=Ma (w:=Mj (w:=Mt (w:=ME (w:=fun hh => Mc (w:=QQ (QN (Ma (w:=Mu (w:=QK ?_)))))) (v:=fun hh => Mc (w:=QP (QN (Mj (w:=Mt (w:=ME (w:=fun hh => by omega) (v:=fun hh => Ma (w:=Mj (w:=Mt (w:=ME (w:=fun hh => by omega) (v:=fun hh => Md (w:=QP (UA (QV (Ma (w:=Mu (w:=QK ?_)))))))))))))))))))))) (v:=fun hh => Mc (w:=Ma (w:=MA (w:=MA (w:=MA (w:=Md (w:=QP (QN (Mj (w:=Mt (w:=ME (w:=fun hh => by omega) (v:=fun hh => Ma (w:=Mj (w:=Mt (w:=ME (w:=fun hh => Md (w:=QQ (QN (Ma (w:=Mu (w:=Ma (w:=Mp (w:=QK ?_)))))))) (v:=fun hh => by omega)))))))))))))))))))) (v:=fun hh => Ma (w:=MA (w:=MA (w:=MA (w:=Md (w:=Ma (w:=MA (w:=MA (w:=MA (w:=Md (w:=QP (QN (Mj (w:=Mt (w:=ME (w:=fun hh => Ma (w:=MA (w:=MA (w:=MA (w:=Mc (w:=QQ (QN (Ma (w:=Mu (w:=Ma (w:=Mp (w:=QK ?_)))))))))))) (v:=fun hh => by omega)))))))))))))))))))))
 ·rw [if_pos (by omega), if_neg (by omega)] at hl hq
  refine QJ jP ?_
  refine c.expr (t := aW t 1) (b := b5) (d := d) (acc := acc5) ⟨by omega, by omega⟩ (w.eF 1) aP (nv1.mono aB (fun j hj hlt => ⟨hj, bB⟩)) bI ?_
  intro h6 b6 x6 v6 ps6 fr6 hb6
  have hn6 := fr6.1
  (try simp only [aA.aE, aA.aC] at hn6 hb6)
  have fb6 : aR p b h h6 := aR.call (b1 := b5) aO (by omega) fr6
  have hbl6 := ps6.aY
  generalize r.expr d (aW t 1) acc5 = acc6 at ps6 hq hl
  refine QL (QV (Ma (w:=My (w:=MJ bQ (w:=bH (b := b6) (d := d) (acc := acc6) (ss := [(⟨#[32]⟩ :ByteArray)]) aP aB aB aB aD (by simp) bI ?_)))))
  intro h7 b7 x7 v7 ps7 fr7 hb7
  have hn7 := fr7.1
  (try simp only [aA.aE, aA.aC] at hn7 hb7)
  have fb7 : aR p b h h7 := aR.call (b1 := b6) aO (by omega) fr7
  have hbl7 := ps7.aY
  simp only [List.foldl_cons, List.foldl_nil] at ps7
  generalize acc6 ++ (⟨#[32]⟩ :ByteArray) = acc7 at ps7 hq hl
  refine QL (QV (Ma (w:=Mu (w:=MJ eH (w:=cS (t := t) (i := 3) (hv.mono aB (fun j hj hlt => ⟨hj, bB⟩)) (by omega) (by omega) fun h8 v8 m8 e8 g8 k8 nv8 => ?_)))))
  have hn8 := g8.1
  (try simp only [aA.aE, aA.aC] at hn8)
  refine MJ aA2 (w:=kR c (fun u hu => w.yC hu) w.tK hd (b := b7) (acc := acc7) aP (nv8.mono aB (fun j hj hlt => ⟨hj, bB⟩)) bI ?_)
  intro h9 b9 x9 v9 ps9 fr9 hb9
  have hn9 := fr9.1
  (try simp only [aA.aE, aA.aC] at hn9 hb9)
  have fb9 : aR p b h h9 := aR.call (b1 := b7) aO (by omega) fr9
  have hbl9 := ps9.aY
  generalize eX r d (aW t 3) acc7 = acc9 at ps9 hq hl
  refine QL ?_
  refine ⟨_, aM, ?_⟩
  exact hq _ b9 _ _ ps9 (aR.out fb9) (by omega)
 ·rw [if_pos (by omega), if_pos (by omega)] at hl hq
  refine QJ eH ?_
  refine cS (t := t) (i := 3) (hv.mono aB (fun j hj hlt => ⟨hj, bB⟩)) (by omega) (by omega) fun h8 v8 m8 e8 g8 k8 nv8 => ?_
  have hn8 := g8.1
  (try simp only [aA.aE, aA.aC] at hn8)
  refine MJ aA2 (w:=kR c (fun u hu => w.yC hu) w.tK hd (b := b5) (acc := acc5) aP (nv8.mono aB (fun j hj hlt => ⟨hj, bB⟩)) bI ?_)
  intro h9 b9 x9 v9 ps9 fr9 hb9
  have hn9 := fr9.1
  (try simp only [aA.aE, aA.aC] at hn9 hb9)
  have fb9 : aR p b h h9 := aR.call (b1 := b5) aO (by omega) fr9
  have hbl9 := ps9.aY
  generalize eX r d (aW t 3) acc5 = acc9 at ps9 hq hl
  refine QL ?_
  refine ⟨_, aM, ?_⟩
  exact hq _ b9 _ _ ps9 (aR.out fb9) (by omega)
 ·rw [if_neg (by omega)] at hl hq
  refine QJ aA0 ?_
  refine mR (T := r.stmt d) (t := aW t 0) wI (fun ps' hv' hl' hq' => c.stmt ⟨by omega, by omega⟩ (w.eF 0) ps' hv' hl' hq') (b := b5) (d := d) (acc := acc5) aP (nv0.mono aB (fun j hj hlt => ⟨hj, bB⟩)) bI ?_
  intro h6 b6 x6 v6 ps6 fr6 hb6
  have hn6 := fr6.1
  (try simp only [aA.aE, aA.aC] at hn6 hb6)
  have fb6 : aR p b h h6 := aR.call (b1 := b5) aO (by omega) fr6
  have hbl6 := ps6.aY
  generalize hJ (r.stmt d) (aW t 0) acc5 = acc6 at ps6 hq hl
  refine QO (Ma (w:=My (w:=MJ bQ (w:=bH (b := b6) (d := d) (acc := acc6) (ss := [(⟨#[59, 32]⟩ :ByteArray)]) aP aB aB aB aD (by simp) bI ?_))))
  intro h7 b7 x7 v7 ps7 fr7 hb7
  have hn7 := fr7.1
  (try simp only [aA.aE, aA.aC] at hn7 hb7)
  have fb7 : aR p b h h7 := aR.call (b1 := b6) aO (by omega) fr7
  have hbl7 := ps7.aY
  simp only [List.foldl_cons, List.foldl_nil] at ps7
  generalize acc6 ++ (⟨#[59, 32]⟩ :ByteArray) = acc7 at ps7 hq hl
  refine QO (Ma (w:=Mu (w:=Ma (w:=Mp (w:=MJ aA0 (w:=?_))))))
  refine mR (T := r.expr d) (t := aW t 1) jP (fun ps' hv' hl' hq' => c.expr ⟨by omega, by omega⟩ (w.eF 1) ps' hv' hl' hq') (b := b7) (d := d) (acc := acc7) aP (nv1.mono aB (fun j hj hlt => ⟨hj, bB⟩)) bI ?_
  intro h8 b8 x8 v8 ps8 fr8 hb8
  have hn8 := fr8.1
  (try simp only [aA.aE, aA.aC] at hn8 hb8)
  have fb8 : aR p b h h8 := aR.call (b1 := b7) aO (by omega) fr8
  have hbl8 := ps8.aY
  generalize hJ (r.expr d) (aW t 1) acc7 = acc8 at ps8 hq hl
  refine QO (Ma (w:=My (w:=MJ bQ (w:=bH (b := b8) (d := d) (acc := acc8) (ss := [(⟨#[59, 32]⟩ :ByteArray)]) aP aB aB aB aD (by simp) bI ?_))))
  intro h9 b9 x9 v9 ps9 fr9 hb9
  have hn9 := fr9.1
  (try simp only [aA.aE, aA.aC] at hn9 hb9)
  have fb9 : aR p b h h9 := aR.call (b1 := b8) aO (by omega) fr9
  have hbl9 := ps9.aY
  simp only [List.foldl_cons, List.foldl_nil] at ps9
  generalize acc8 ++ (⟨#[59, 32]⟩ :ByteArray) = acc9 at ps9 hq hl
  refine QO (Ma (w:=Mu (w:=Ma (w:=Mp (w:=MJ aA0 (w:=?_))))))
  refine mR (T := r.stmt d) (t := aW t 2) wI (fun ps' hv' hl' hq' => c.stmt ⟨by omega, by omega⟩ (w.eF 2) ps' hv' hl' hq') (b := b9) (d := d) (acc := acc9) aP (nv2.mono aB (fun j hj hlt => ⟨hj, bB⟩)) bI ?_
  intro h10 b10 x10 v10 ps10 fr10 hb10
  have hn10 := fr10.1
  (try simp only [aA.aE, aA.aC] at hn10 hb10)
  have fb10 : aR p b h h10 := aR.call (b1 := b9) aO (by omega) fr10
  have hbl10 := ps10.aY
  generalize hJ (r.stmt d) (aW t 2) acc9 = acc10 at ps10 hq hl
  refine QL (QV (Ma (w:=My (w:=MJ bQ (w:=bH (b := b10) (d := d) (acc := acc10) (ss := [(⟨#[32]⟩ :ByteArray)]) aP aB aB aB aD (by simp) bI ?_)))))
  intro h11 b11 x11 v11 ps11 fr11 hb11
  have hn11 := fr11.1
  (try simp only [aA.aE, aA.aC] at hn11 hb11)
  have fb11 : aR p b h h11 := aR.call (b1 := b10) aO (by omega) fr11
  have hbl11 := ps11.aY
  simp only [List.foldl_cons, List.foldl_nil] at ps11
  generalize acc10 ++ (⟨#[32]⟩ :ByteArray) = acc11 at ps11 hq hl
  refine QL (QV (Ma (w:=Mu (w:=MJ eH (w:=cS (t := t) (i := 3) (hv.mono aB (fun j hj hlt => ⟨hj, bB⟩)) (by omega) (by omega) fun h12 v12 m12 e12 g12 k12 nv12 => ?_)))))
  have hn12 := g12.1
  (try simp only [aA.aE, aA.aC] at hn12)
  refine MJ aA2 (w:=kR c (fun u hu => w.yC hu) w.tK hd (b := b11) (acc := acc11) aP (nv12.mono aB (fun j hj hlt => ⟨hj, bB⟩)) bI ?_)
  intro h13 b13 x13 v13 ps13 fr13 hb13
  have hn13 := fr13.1
  (try simp only [aA.aE, aA.aC] at hn13 hb13)
  have fb13 : aR p b h h13 := aR.call (b1 := b11) aO (by omega) fr13
  have hbl13 := ps13.aY
  generalize eX r d (aW t 3) acc11 = acc13 at ps13 hq hl
  refine QL ?_
  refine ⟨_, aM, ?_⟩
  exact hq _ b13 _ _ ps13 (aR.out fb13) (by omega)
 ·rw [if_neg (by omega)] at hl hq
  refine QJ aA0 ?_
  refine mR (T := r.stmt d) (t := aW t 0) wI (fun ps' hv' hl' hq' => c.stmt ⟨by omega, by omega⟩ (w.eF 0) ps' hv' hl' hq') (b := b5) (d := d) (acc := acc5) aP (nv0.mono aB (fun j hj hlt => ⟨hj, bB⟩)) bI ?_
  intro h6 b6 x6 v6 ps6 fr6 hb6
  have hn6 := fr6.1
  (try simp only [aA.aE, aA.aC] at hn6 hb6)
  have fb6 : aR p b h h6 := aR.call (b1 := b5) aO (by omega) fr6
  have hbl6 := ps6.aY
  generalize hJ (r.stmt d) (aW t 0) acc5 = acc6 at ps6 hq hl
  refine QO (Ma (w:=My (w:=MJ bQ (w:=bH (b := b6) (d := d) (acc := acc6) (ss := [(⟨#[59, 32]⟩ :ByteArray)]) aP aB aB aB aD (by simp) bI ?_))))
  intro h7 b7 x7 v7 ps7 fr7 hb7
  have hn7 := fr7.1
  (try simp only [aA.aE, aA.aC] at hn7 hb7)
  have fb7 : aR p b h h7 := aR.call (b1 := b6) aO (by omega) fr7
  have hbl7 := ps7.aY
  simp only [List.foldl_cons, List.foldl_nil] at ps7
  generalize acc6 ++ (⟨#[59, 32]⟩ :ByteArray) = acc7 at ps7 hq hl
  refine QO (Ma (w:=Mu (w:=Ma (w:=Mp (w:=MJ aA0 (w:=?_))))))
  refine mR (T := r.expr d) (t := aW t 1) jP (fun ps' hv' hl' hq' => c.expr ⟨by omega, by omega⟩ (w.eF 1) ps' hv' hl' hq') (b := b7) (d := d) (acc := acc7) aP (nv1.mono aB (fun j hj hlt => ⟨hj, bB⟩)) bI ?_
  intro h8 b8 x8 v8 ps8 fr8 hb8
  have hn8 := fr8.1
  (try simp only [aA.aE, aA.aC] at hn8 hb8)
  have fb8 : aR p b h h8 := aR.call (b1 := b7) aO (by omega) fr8
  have hbl8 := ps8.aY
  generalize hJ (r.expr d) (aW t 1) acc7 = acc8 at ps8 hq hl
  refine QO (Ma (w:=My (w:=MJ bQ (w:=bH (b := b8) (d := d) (acc := acc8) (ss := [(⟨#[59, 32]⟩ :ByteArray)]) aP aB aB aB aD (by simp) bI ?_))))
  intro h9 b9 x9 v9 ps9 fr9 hb9
  have hn9 := fr9.1
  (try simp only [aA.aE, aA.aC] at hn9 hb9)
  have fb9 : aR p b h h9 := aR.call (b1 := b8) aO (by omega) fr9
  have hbl9 := ps9.aY
  simp only [List.foldl_cons, List.foldl_nil] at ps9
  generalize acc8 ++ (⟨#[59, 32]⟩ :ByteArray) = acc9 at ps9 hq hl
  refine QO (Ma (w:=Mu (w:=Ma (w:=Mp (w:=MJ aA0 (w:=?_))))))
  refine mR (T := r.stmt d) (t := aW t 2) wI (fun ps' hv' hl' hq' => c.stmt ⟨by omega, by omega⟩ (w.eF 2) ps' hv' hl' hq') (b := b9) (d := d) (acc := acc9) aP (nv2.mono aB (fun j hj hlt => ⟨hj, bB⟩)) bI ?_
  intro h10 b10 x10 v10 ps10 fr10 hb10
  have hn10 := fr10.1
  (try simp only [aA.aE, aA.aC] at hn10 hb10)
  have fb10 : aR p b h h10 := aR.call (b1 := b9) aO (by omega) fr10
  have hbl10 := ps10.aY
  generalize hJ (r.stmt d) (aW t 2) acc9 = acc10 at ps10 hq hl
  refine QL (QV (Ma (w:=My (w:=MJ bQ (w:=bH (b := b10) (d := d) (acc := acc10) (ss := [(⟨#[32]⟩ :ByteArray)]) aP aB aB aB aD (by simp) bI ?_)))))
  intro h11 b11 x11 v11 ps11 fr11 hb11
  have hn11 := fr11.1
  (try simp only [aA.aE, aA.aC] at hn11 hb11)
  have fb11 : aR p b h h11 := aR.call (b1 := b10) aO (by omega) fr11
  have hbl11 := ps11.aY
  simp only [List.foldl_cons, List.foldl_nil] at ps11
  generalize acc10 ++ (⟨#[32]⟩ :ByteArray) = acc11 at ps11 hq hl
  refine QL (QV (Ma (w:=Mu (w:=MJ eH (w:=cS (t := t) (i := 3) (hv.mono aB (fun j hj hlt => ⟨hj, bB⟩)) (by omega) (by omega) fun h12 v12 m12 e12 g12 k12 nv12 => ?_)))))
  have hn12 := g12.1
  (try simp only [aA.aE, aA.aC] at hn12)
  refine MJ aA2 (w:=kR c (fun u hu => w.yC hu) w.tK hd (b := b11) (acc := acc11) aP (nv12.mono aB (fun j hj hlt => ⟨hj, bB⟩)) bI ?_)
  intro h13 b13 x13 v13 ps13 fr13 hb13
  have hn13 := fr13.1
  (try simp only [aA.aE, aA.aC] at hn13 hb13)
  have fb13 : aR p b h h13 := aR.call (b1 := b11) aO (by omega) fr13
  have hbl13 := ps13.aY
  generalize eX r d (aW t 3) acc11 = acc13 at ps13 hq hl
  refine QL ?_
  refine ⟨_, aM, ?_⟩
  exact hq _ b13 _ _ ps13 (aR.out fb13) (by omega)

end
section
variable {n : Nat} {r : Pr} {t : Nd} {p b : Nat} {d : Int} {acc : ByteArray} {v : Option Addr} {m es : Nat} {h : aA} {Q : bR → Prop}

theorem Wks.aQ7 {n : Nat} {t : Nd} (w : Wks (n + 1) t) (i j : Nat) : Ft (aW (aW t i) j) ∧ jH (aW (aW t i) j) ≤ 1000000 ∧ Fu n (aW (aW t i) j) := by
 have h := w.eF i
 refine ⟨h.1.eF j, sB _ j h.2.1, ?_⟩
 by_cases hi : i < t.kids.length
 ·have h1 := mO hi
  have h2 := w.lt
  by_cases hj : j < (aW t i).kids.length
  ·have h3 := mO hj
   exact .of (by omega)
  ·rw [gA hj]; exact .zero (by have := oU (aW t i); omega)
 ·rw [gA hi, gA (show ¬ j < kW.kids.length by simp [kW, Nd.kids])]; exact .zero (by have := w.lt; have := oU t; omega)

theorem aIy (c : CPr n r) (w : Wks (n + 1) t) (hd : 0 ≤ d ∧ d + (n + 1) ≤ 1000000) (ps : gI h p b d acc) (hv : NV h (fun j => j < p) (aG t v m es) t) (hl : (jW r d t acc).size ≤ o5) (hq : kO p b d h (jW r d t acc) Q) : aS Tryz.prog G X 151 [pV p, .agg (aG t v m es).toArray] h Q := by
 have hlen := w.len
 have hmk := hv.nD
 subst hmk
 have hp := ps.lt
 have hbl := ps.aY
 have hk0 := w.tK (i := 0)
 unfold jW at hl hq
 dsimp only at hl hq
 refine Wk Tryz.func151 Tryz.ntmps151 (w:=QN (Mx (w:=QL (QU (QN (Mj (w:=Mt (w:=QL (Bk (QN (MD (w:=fun hh => Mb (w:=QQ (QV (Ma (w:=My (w:=QK ?_)))))) (v:=fun hh => Mb (w:=QP (QN (MD (w:=fun hh => Mb (w:=QQ (QV (Ma (w:=My (w:=QK ?_)))))) (v:=fun hh => Mb (w:=QP (QN (MD (w:=fun hh => Mb (w:=QQ (QV (Ma (w:=My (w:=QK ?_)))))) (v:=fun hh => Mb (w:=QP (QN (MD (w:=fun hh => Mb (w:=QQ (QV (Ma (w:=Mu (w:=QK ?_)))))) (v:=fun hh => Mb (w:=QP (QN (MD (w:=fun hh => Mb (w:=QQ (QN (Ma (w:=My (w:=QK ?_)))))) (v:=fun hh => Mb (w:=QP (QN (MD (w:=fun hh => Mb (w:=QQ (QN (Ma (w:=My (w:=QK ?_)))))) (v:=fun hh => Mb (w:=QP (QN (MD (w:=fun hh => Mb (w:=QQ (QV (Ma (w:=Mu (w:=QK ?_)))))) (v:=fun hh => Mb (w:=QP (QN (MD (w:=fun hh => Mb (w:=QQ (QN (Mu (w:=QK ?_))))) (v:=fun hh => Mb (w:=QP (QV (Ma (w:=My (w:=QK ?_)))))))))))))))))))))))))))))))))))))))))))))
 ·simp only [hh, Int.reduceEq, if_false, if_true] at hl hq
  refine QJ bQ ?_
  refine bH (b := b) (d := d) (acc := acc) (ss := [(⟨#[98, 114, 101, 97, 107]⟩ :ByteArray)]) aP aB aB aB aD (by simp) bI ?_
  intro h1 b1 x1 v1 ps1 fr1 hb1
  have hn1 := fr1.1
  (try simp only [aA.aE, aA.aC] at hn1 hb1)
  have fb1 : aR p b h h1 := aR.call (b1 := b) aO (by omega) fr1
  have hbl1 := ps1.aY
  simp only [List.foldl_cons, List.foldl_nil] at ps1
  generalize acc ++ (⟨#[98, 114, 101, 97, 107]⟩ :ByteArray) = acc1 at ps1 hq hl
  refine QO (Mj (w:=Mt (w:=MD (w:=fun hh => Ma (w:=MA (w:=MA (w:=MA (w:=Mc (w:=Ma (w:=Mj (w:=Mt (w:=MC (w:=fun hh => Mc (w:=QQ (QV (Ma (w:=Mj (w:=Mt (w:=My (w:=QK ?_)))))))) (v:=fun hh => Mc (w:=QP (UA ?_)))))))))))) (v:=fun hh => by omega))))
  ·rw [if_neg (by assumption)] at hl hq
   refine QJ bQ ?_
   refine bH (b := b1) (d := d) (acc := acc1) (ss := [(⟨#[32]⟩ :ByteArray), t.text]) aP aB aB aB aD (by simp) bI ?_
   intro h2 b2 x2 v2 ps2 fr2 hb2
   have hn2 := fr2.1
   (try simp only [aA.aE, aA.aC] at hn2 hb2)
   have fb2 : aR p b h h2 := aR.call (b1 := b1) aO (by omega) fr2
   have hbl2 := ps2.aY
   simp only [List.foldl_cons, List.foldl_nil] at ps2
   generalize acc1 ++ (⟨#[32]⟩ :ByteArray) ++ t.text = acc2 at ps2 hq hl
   refine QL ?_
   refine ⟨_, aM, ?_⟩
   exact hq _ b2 _ _ ps2 (aR.out fb2) (by omega)
  ·rw [if_pos (by first | assumption | exact Decidable.not_not.1 (by assumption))] at hl hq
   refine ⟨_, aM, ?_⟩
   exact hq _ b1 _ _ ps1 (aR.out fb1) (by omega)
 ·simp only [hh, Int.reduceEq, if_false, if_true] at hl hq
  refine QJ bQ ?_
  refine bH (b := b) (d := d) (acc := acc) (ss := [(⟨#[99, 111, 110, 116, 105, 110, 117, 101]⟩ :ByteArray)]) aP aB aB aB aD (by simp) bI ?_
  intro h1 b1 x1 v1 ps1 fr1 hb1
  have hn1 := fr1.1
  (try simp only [aA.aE, aA.aC] at hn1 hb1)
  have fb1 : aR p b h h1 := aR.call (b1 := b) aO (by omega) fr1
  have hbl1 := ps1.aY
  simp only [List.foldl_cons, List.foldl_nil] at ps1
  generalize acc ++ (⟨#[99, 111, 110, 116, 105, 110, 117, 101]⟩ :ByteArray) = acc1 at ps1 hq hl
  refine QO (Mj (w:=Mt (w:=MD (w:=fun hh => by omega) (v:=fun hh => Ma (w:=Mj (w:=Mt (w:=MD (w:=fun hh => Md (w:=Ma (w:=Mj (w:=Mt (w:=MC (w:=fun hh => Mc (w:=QQ (QV (Ma (w:=Mj (w:=Mt (w:=My (w:=QK ?_)))))))) (v:=fun hh => Mc (w:=QP (UA ?_)))))))) (v:=fun hh => by omega))))))))
  ·rw [if_neg (by assumption)] at hl hq
   refine QJ bQ ?_
   refine bH (b := b1) (d := d) (acc := acc1) (ss := [(⟨#[32]⟩ :ByteArray), t.text]) aP aB aB aB aD (by simp) bI ?_
   intro h2 b2 x2 v2 ps2 fr2 hb2
   have hn2 := fr2.1
   (try simp only [aA.aE, aA.aC] at hn2 hb2)
   have fb2 : aR p b h h2 := aR.call (b1 := b1) aO (by omega) fr2
   have hbl2 := ps2.aY
   simp only [List.foldl_cons, List.foldl_nil] at ps2
   generalize acc1 ++ (⟨#[32]⟩ :ByteArray) ++ t.text = acc2 at ps2 hq hl
   refine QL ?_
   refine ⟨_, aM, ?_⟩
   exact hq _ b2 _ _ ps2 (aR.out fb2) (by omega)
  ·rw [if_pos (by first | assumption | exact Decidable.not_not.1 (by assumption))] at hl hq
   refine ⟨_, aM, ?_⟩
   exact hq _ b1 _ _ ps1 (aR.out fb1) (by omega)
 ·simp only [hh, Int.reduceEq, if_false, if_true] at hl hq
  refine QJ bQ ?_
  refine bH (b := b) (d := d) (acc := acc) (ss := [(⟨#[102, 97, 108, 108, 116, 104, 114, 111, 117, 103, 104]⟩ :ByteArray)]) aP aB aB aB aD (by simp) bI ?_
  intro h1 b1 x1 v1 ps1 fr1 hb1
  have hn1 := fr1.1
  (try simp only [aA.aE, aA.aC] at hn1 hb1)
  have fb1 : aR p b h h1 := aR.call (b1 := b) aO (by omega) fr1
  have hbl1 := ps1.aY
  simp only [List.foldl_cons, List.foldl_nil] at ps1
  generalize acc ++ (⟨#[102, 97, 108, 108, 116, 104, 114, 111, 117, 103, 104]⟩ :ByteArray) = acc1 at ps1 hq hl
  refine QO (Mj (w:=Mt (w:=MD (w:=fun hh => by omega) (v:=fun hh => Ma (w:=Mj (w:=Mt (w:=MD (w:=fun hh => by omega) (v:=fun hh => Md (w:=Ma (w:=MA (w:=MA (w:=MA (w:=Md (w:=QP (UA ?_)))))))))))))))
  refine ⟨_, aM, ?_⟩
  exact hq _ b1 _ _ ps1 (aR.out fb1) (by omega)
 ·simp only [hh, Int.reduceEq, if_false, if_true] at hl hq
  refine QJ eH ?_
  refine cS (t := t) (i := 0) (hv.mono aB (fun j hj hlt => ⟨hj, bB⟩)) (by omega) (by omega) fun h1 v1 m1 e1 g1 k1 nv1 => ?_
  have hn1 := g1.1
  (try simp only [aA.aE, aA.aC] at hn1)
  refine Ma (w:=Mp (w:=MJ aLu (w:=?_)))
  refine aE0 (T := r.expr d) (t := aW t 0) (s := (⟨#[114, 101, 116, 117, 114, 110]⟩ :ByteArray)) (c.m.expr _) jP (fun ps' hv' hl' hq' => c.expr ⟨by omega, by omega⟩ (w.eF 0) ps' hv' hl' hq') (b := b) (d := d) (acc := acc) aP (nv1.mono aB (fun j hj hlt => ⟨hj, bB⟩)) bI ?_
  intro h2 b2 x2 v2 ps2 fr2 hb2
  have hn2 := fr2.1
  (try simp only [aA.aE, aA.aC] at hn2 hb2)
  have fb2 : aR p b h h2 := aR.call (b1 := b) aO (by omega) fr2
  have hbl2 := ps2.aY
  generalize mT (r.expr d) (⟨#[114, 101, 116, 117, 114, 110]⟩ :ByteArray) (aW t 0) acc = acc2 at ps2 hq hl
  refine QO (Mj (w:=Mt (w:=MD (w:=fun hh => by omega) (v:=fun hh => Ma (w:=Mj (w:=Mt (w:=MD (w:=fun hh => by omega) (v:=fun hh => Md (w:=Ma (w:=MA (w:=MA (w:=MA (w:=Md (w:=QP (UA ?_)))))))))))))))
  refine ⟨_, aM, ?_⟩
  exact hq _ b2 _ _ ps2 (aR.out fb2) (by omega)
 ·simp only [hh, Int.reduceEq, if_false, if_true] at hl hq
  refine QJ bQ ?_
  refine bH (b := b) (d := d) (acc := acc) (ss := [(⟨#[103, 111, 32]⟩ :ByteArray)]) aP aB aB aB aD (by simp) bI ?_
  intro h1 b1 x1 v1 ps1 fr1 hb1
  have hn1 := fr1.1
  (try simp only [aA.aE, aA.aC] at hn1 hb1)
  have fb1 : aR p b h h1 := aR.call (b1 := b) aO (by omega) fr1
  have hbl1 := ps1.aY
  simp only [List.foldl_cons, List.foldl_nil] at ps1
  generalize acc ++ (⟨#[103, 111, 32]⟩ :ByteArray) = acc1 at ps1 hq hl
  refine QL (QV (Ma (w:=Mu (w:=MJ eH (w:=cS (t := t) (i := 0) (hv.mono aB (fun j hj hlt => ⟨hj, bB⟩)) (by omega) (by omega) fun h2 v2 m2 e2 g2 k2 nv2 => ?_)))))
  have hn2 := g2.1
  (try simp only [aA.aE, aA.aC] at hn2)
  refine MJ jP (w:=c.expr (t := aW t 0) (b := b1) (d := d) (acc := acc1) ⟨by omega, by omega⟩ (w.eF 0) aP (nv2.mono aB (fun j hj hlt => ⟨hj, bB⟩)) bI ?_)
  intro h3 b3 x3 v3 ps3 fr3 hb3
  have hn3 := fr3.1
  (try simp only [aA.aE, aA.aC] at hn3 hb3)
  have fb3 : aR p b h h3 := aR.call (b1 := b1) aO (by omega) fr3
  have hbl3 := ps3.aY
  generalize r.expr d (aW t 0) acc1 = acc3 at ps3 hq hl
  refine QO (Mj (w:=Mt (w:=MD (w:=fun hh => by omega) (v:=fun hh => Ma (w:=Mj (w:=Mt (w:=MD (w:=fun hh => by omega) (v:=fun hh => Md (w:=Ma (w:=MA (w:=MA (w:=MA (w:=Md (w:=QP (UA ?_)))))))))))))))
  refine ⟨_, aM, ?_⟩
  exact hq _ b3 _ _ ps3 (aR.out fb3) (by omega)
 ·simp only [hh, Int.reduceEq, if_false, if_true] at hl hq
  refine QJ bQ ?_
  refine bH (b := b) (d := d) (acc := acc) (ss := [(⟨#[100, 101, 102, 101, 114, 32]⟩ :ByteArray)]) aP aB aB aB aD (by simp) bI ?_
  intro h1 b1 x1 v1 ps1 fr1 hb1
  have hn1 := fr1.1
  (try simp only [aA.aE, aA.aC] at hn1 hb1)
  have fb1 : aR p b h h1 := aR.call (b1 := b) aO (by omega) fr1
  have hbl1 := ps1.aY
  simp only [List.foldl_cons, List.foldl_nil] at ps1
  generalize acc ++ (⟨#[100, 101, 102, 101, 114, 32]⟩ :ByteArray) = acc1 at ps1 hq hl
  refine QL (QV (Ma (w:=Mu (w:=MJ eH (w:=cS (t := t) (i := 0) (hv.mono aB (fun j hj hlt => ⟨hj, bB⟩)) (by omega) (by omega) fun h2 v2 m2 e2 g2 k2 nv2 => ?_)))))
  have hn2 := g2.1
  (try simp only [aA.aE, aA.aC] at hn2)
  refine MJ jP (w:=c.expr (t := aW t 0) (b := b1) (d := d) (acc := acc1) ⟨by omega, by omega⟩ (w.eF 0) aP (nv2.mono aB (fun j hj hlt => ⟨hj, bB⟩)) bI ?_)
  intro h3 b3 x3 v3 ps3 fr3 hb3
  have hn3 := fr3.1
  (try simp only [aA.aE, aA.aC] at hn3 hb3)
  have fb3 : aR p b h h3 := aR.call (b1 := b1) aO (by omega) fr3
  have hbl3 := ps3.aY
  generalize r.expr d (aW t 0) acc1 = acc3 at ps3 hq hl
  refine QO (Mj (w:=Mt (w:=MD (w:=fun hh => by omega) (v:=fun hh => Ma (w:=Mj (w:=Mt (w:=MD (w:=fun hh => by omega) (v:=fun hh => Md (w:=Ma (w:=MA (w:=MA (w:=MA (w:=Md (w:=QP (UA ?_)))))))))))))))
  refine ⟨_, aM, ?_⟩
  exact hq _ b3 _ _ ps3 (aR.out fb3) (by omega)
 ·simp only [hh, Int.reduceEq, if_false, if_true] at hl hq
  refine QJ aG7 ?_
  refine rU c w (show 0 ≤ d ∧ d + n ≤ 1000000 by omega) (b := b) (acc := acc) aP (hv.mono aB (fun j hj hlt => ⟨hj, bB⟩)) bI ?_
  intro h1 b1 x1 v1 ps1 fr1 hb1
  have hn1 := fr1.1
  (try simp only [aA.aE, aA.aC] at hn1 hb1)
  have fb1 : aR p b h h1 := aR.call (b1 := b) aO (by omega) fr1
  have hbl1 := ps1.aY
  generalize jY r d t (⟨#[32, 60, 45, 32]⟩ :ByteArray) acc = acc1 at ps1 hq hl
  refine QO (Mj (w:=Mt (w:=MD (w:=fun hh => by omega) (v:=fun hh => Ma (w:=Mj (w:=Mt (w:=MD (w:=fun hh => by omega) (v:=fun hh => Md (w:=Ma (w:=MA (w:=MA (w:=MA (w:=Md (w:=QP (UA ?_)))))))))))))))
  refine ⟨_, aM, ?_⟩
  exact hq _ b1 _ _ ps1 (aR.out fb1) (by omega)
 ·simp only [hh, Int.reduceEq, if_false, if_true] at hl hq
  refine QJ eH ?_
  refine cS (t := t) (i := 0) (hv.mono aB (fun j hj hlt => ⟨hj, bB⟩)) (by omega) (by omega) fun h1 v1 m1 e1 g1 k1 nv1 => ?_
  have hn1 := g1.1
  (try simp only [aA.aE, aA.aC] at hn1)
  refine Mw (w:=Mv (w:=QO (Mj (w:=Mt (w:=MD (w:=fun hh => QQ (QN (Ma (w:=Mj (w:=Mt (w:=My (w:=QK ?_))))))) (v:=fun hh => QP (QV (Ma (w:=Mu (w:=QK ?_))))))))))
  ·rw [if_pos (by assumption)] at hl hq
   refine QJ bQ ?_
   refine bH (b := b) (d := d) (acc := acc) (ss := [(aW t 0).text]) aP aB aB aB aD (by simp) bI ?_
   intro h2 b2 x2 v2 ps2 fr2 hb2
   have hn2 := fr2.1
   (try simp only [aA.aE, aA.aC] at hn2 hb2)
   have fb2 : aR p b h h2 := aR.call (b1 := b) aO (by omega) fr2
   have hbl2 := ps2.aY
   simp only [List.foldl_cons, List.foldl_nil] at ps2
   generalize acc ++ (aW t 0).text = acc2 at ps2 hq hl
   refine QL (QV (Ma (w:=Mu (w:=MJ eH (w:=cS (t := aW t 0) (i := 0) (nv1.mono aB (fun j hj hlt => ⟨hj, bB⟩)) (by omega) (by omega) fun h3 v3 m3 e3 g3 k3 nv3 => ?_)))))
   have hn3 := g3.1
   (try simp only [aA.aE, aA.aC] at hn3)
   refine MJ jP (w:=c.expr (t := aW (aW t 0) 0) (b := b2) (d := d) (acc := acc2) ⟨by omega, by omega⟩ (w.aQ7 0 0) aP (nv3.mono aB (fun j hj hlt => ⟨hj, bB⟩)) bI ?_)
   intro h4 b4 x4 v4 ps4 fr4 hb4
   have hn4 := fr4.1
   (try simp only [aA.aE, aA.aC] at hn4 hb4)
   have fb4 : aR p b h h4 := aR.call (b1 := b2) aO (by omega) fr4
   have hbl4 := ps4.aY
   generalize r.expr d (aW (aW t 0) 0) acc2 = acc4 at ps4 hq hl
   refine QO (Mj (w:=Mt (w:=MD (w:=fun hh => by omega) (v:=fun hh => Ma (w:=Mj (w:=Mt (w:=MD (w:=fun hh => by omega) (v:=fun hh => Md (w:=Ma (w:=MA (w:=MA (w:=MA (w:=Md (w:=QP (UA ?_)))))))))))))))
   refine ⟨_, aM, ?_⟩
   exact hq _ b4 _ _ ps4 (aR.out fb4) (by omega)
  ·rw [if_neg (by assumption)] at hl hq
   refine QJ jP ?_
   refine c.expr (t := aW t 0) (b := b) (d := d) (acc := acc) ⟨by omega, by omega⟩ (w.eF 0) aP (nv1.mono aB (fun j hj hlt => ⟨hj, bB⟩)) bI ?_
   intro h2 b2 x2 v2 ps2 fr2 hb2
   have hn2 := fr2.1
   (try simp only [aA.aE, aA.aC] at hn2 hb2)
   have fb2 : aR p b h h2 := aR.call (b1 := b) aO (by omega) fr2
   have hbl2 := ps2.aY
   generalize r.expr d (aW t 0) acc = acc2 at ps2 hq hl
   refine QO (Mj (w:=Mt (w:=MD (w:=fun hh => by omega) (v:=fun hh => Ma (w:=Mj (w:=Mt (w:=MD (w:=fun hh => by omega) (v:=fun hh => Md (w:=Ma (w:=MA (w:=MA (w:=MA (w:=Md (w:=QP (UA ?_)))))))))))))))
   refine ⟨_, aM, ?_⟩
   exact hq _ b2 _ _ ps2 (aR.out fb2) (by omega)
 ·simp only [‹¬ t.kind = 27›, ‹¬ t.kind = 28›, ‹¬ t.kind = 29›, ‹¬ t.kind = 30›, ‹¬ t.kind = 31›, ‹¬ t.kind = 32›, ‹¬ t.kind = 33›, ‹¬ t.kind = 34›, if_false] at hl hq
  refine QJ bQ ?_
  refine bH (b := b) (d := d) (acc := acc) (ss := [(⟨#[63]⟩ :ByteArray)]) aP aB aB aB aD (by simp) bI ?_
  intro h1 b1 x1 v1 ps1 fr1 hb1
  have hn1 := fr1.1
  (try simp only [aA.aE, aA.aC] at hn1 hb1)
  have fb1 : aR p b h h1 := aR.call (b1 := b) aO (by omega) fr1
  have hbl1 := ps1.aY
  simp only [List.foldl_cons, List.foldl_nil] at ps1
  generalize acc ++ (⟨#[63]⟩ :ByteArray) = acc1 at ps1 hq hl
  refine QO (Mj (w:=Mt (w:=MD (w:=fun hh => by omega) (v:=fun hh => Ma (w:=Mj (w:=Mt (w:=MD (w:=fun hh => by omega) (v:=fun hh => Md (w:=Ma (w:=MA (w:=MA (w:=MA (w:=Md (w:=QP (UA ?_)))))))))))))))
  refine ⟨_, aM, ?_⟩
  exact hq _ b1 _ _ ps1 (aR.out fb1) (by omega)

end
theorem WC.aCw {P : Program} {n : Nat} {c : Code} {env : Env} {N : Env → aA → Prop} {E : Nat → Env → aA → Prop} {R : Env → aA → Prop} {F : List PanicEntry → aA → Prop} (J : Env → aA → Prop) (h1 : WC P G X n c env h J E R F) (h2 : ∀ e h', J e h' → N e h') : WC P G X n c env h N E R F := by
 unfold WC at h1 ⊢
 refine cO.mono h1 fun x e h hx => ?_
 cases x with
 | normal => exact h2 _ _ hx
 | exit i => exact hx
 | ret => exact hx
 | panic ch => exact hx
theorem WC.aQq {P : Program} {n : Nat} {a b c d : Code} {env : Env} {N : Env → aA → Prop} {E : Nat → Env → aA → Prop} {R : Env → aA → Prop} {F : List PanicEntry → aA → Prop} (J : Env → aA → Prop) (h1 : WC P G X n a env h (fun e h => WC P G X n b e h (fun e h => WC P G X n c e h J E R F) E R F) E R F) (h2 : ∀ e h', J e h' → WC P G X n d e h' N E R F) : WC P G X n (.seq a (.seq b (.seq c d))) env h N E R F :=
 WC.seq hX (WC.aCw _ h1 fun e h hb => WC.seq hX (WC.aCw _ hb fun e h hc => WC.seq hX (WC.aCw _ hc h2)))

theorem WC.aOv {P : Program} {n : Nat} {a b c d k : Code} {env : Env} {N : Env → aA → Prop} {E : Nat → Env → aA → Prop} {R : Env → aA → Prop} {F : List PanicEntry → aA → Prop} (J : Env → aA → Prop) (h1 : WC P G X n a env h (fun e h => WC P G X n b e h (fun e h => WC P G X n c e h (fun e h => WC P G X n d e h J E R F) E R F) E R F) E R F) (h2 : ∀ e h', J e h' → WC P G X n k e h' N E R F) : WC P G X n (.seq a (.seq b (.seq c (.seq d k)))) env h N E R F :=
 WC.seq hX (WC.aCw _ h1 fun e h hb => WC.seq hX (WC.aCw _ hb fun e h hc => WC.seq hX (WC.aCw _ hc fun e h hd => WC.seq hX (WC.aCw _ hd h2))))

section
variable {n : Nat} {r : Pr} {t : Nd} {p b : Nat} {d : Int} {acc : ByteArray} {v : Option Addr} {m es : Nat} {h : aA} {Q : bR → Prop}

theorem wB (c : CPr n r) (w : Wks (n + 1) t) (hd : 0 ≤ d ∧ d + (n + 1) ≤ 1000000) (ps : gI h p b d acc) (hv : NV h (fun j => j < p) (aG t v m es) t) (hl : (fO r d t acc).size ≤ o5) (hq : kO p b d h (fO r d t acc) Q) : aS Tryz.prog G X 150 [pV p, .agg (aG t v m es).toArray] h Q := by
 have hlen := w.len
 have hmk := hv.nD
 subst hmk
 have hp := ps.lt
 have hbl := ps.aY
 have hk0 := w.tK (i := 0)
 unfold fO at hl hq
 dsimp only at hl hq
 generalize hls : (if t.kind = 23 then t.kids.drop 1 else t.kids) = l at hl hq
 generalize ha1 : (if t.kind = 23 then mT (r.expr d) (⟨#[115, 119, 105, 116, 99, 104]⟩ :ByteArray) (aW t 0) acc else acc ++ (⟨#[115, 101, 108, 101, 99, 116]⟩ :ByteArray)) = a1 at hl hq
 have hl1 : a1.size ≤ o5 := Nat.le_trans (Nat.le_trans (cZ _ _) (Nat.le_trans (kT c.m _ _ _) (Nat.le_trans (cZ _ _) (cZ _ _)))) hl
 refine Wk Tryz.func150 Tryz.ntmps150 (w:=WC.aQq (fun e h' => ∃ b1 v' m' es', e 0 = some (pV p) ∧ e 4 = some (.slice v' m' es') ∧ LV h' (fun j => j < p) v' m' es' l ∧ gI h' p b1 d a1 ∧ aR p b h h' ∧ (b1 = b ∨ h.next ≤ b1)) ?_ ?_)
 ·refine QV (Mx (w:=QL (QV (Mj (w:=Mt (w:=Mb (w:=QO (Mj (w:=Mt (w:=MD (w:=fun hh => QQ (QN (Ma (w:=Mu (w:=QK ?_))))) (v:=fun hh => QP (QV (Ma (w:=My (w:=QK ?_)))))))))))))))
  ·rw [if_pos (by assumption)] at hls ha1
   have hd1 : (if (t.kids.length : Int) < 1 then (t.kids.length : Int) else 1) = ((min 1 t.kids.length : Nat) : Int) := by split <;> omega
   refine QJ eH ?_
   refine cS (t := t) (i := 0) (hv.mono aB (fun j hj hlt => ⟨hj, bB⟩)) (by omega) (by omega) fun h1 v1 m1 e1 g1 k1 nv1 => ?_
   have hn1 := g1.1
   (try simp only [aA.aE, aA.aC] at hn1)
   refine Ma (w:=Mp (w:=QK ?_))
   have hl := hl1
   rw [← ha1] at hl
   have hq : kO p b d h (mT (r.expr d) (⟨#[115, 119, 105, 116, 99, 104]⟩ :ByteArray) (aW t 0) acc) (fun _ => True) := fun _ _ _ _ _ _ _ => trivial
   clear hq
   refine QJ aLu ?_
   refine aE0 (T := r.expr d) (t := aW t 0) (s := (⟨#[115, 119, 105, 116, 99, 104]⟩ :ByteArray)) (c.m.expr _) jP (fun ps' hv' hl' hq' => c.expr ⟨by omega, by omega⟩ (w.eF 0) ps' hv' hl' hq') (b := b) (d := d) (acc := acc) aP (nv1.mono aB (fun j hj hlt => ⟨hj, bB⟩)) hl ?_
   intro h2 b2 x2 v2 ps2 fr2 hb2
   have hn2 := fr2.1
   (try simp only [aA.aE, aA.aC] at hn2 hb2)
   have fb2 : aR p b h h2 := aR.call (b1 := b) aO (by omega) fr2
   rw [ha1] at ps2
   have nv2 : NV h2 (fun j => j < p) (aG t v t.kids.length es) t := hv.mono aB (fun j hj hlt => ⟨hj, bB⟩)
   obtain ⟨vs2, ms2, es2, hsl, lv2⟩ := nv2.lv.lo (k := min 1 t.kids.length) (by omega)
   refine QL (QV (Ma (w:=Ma (w:=Ms (w:=?_)))));refine QK (WS.min (hk := ?_));refine QK ?_
   simp only [hd1]
   apply WS.slice
   (· rfl); (· rfl); (· exact aL); (· rfl); (· rfl); (· exact hsl)
   refine Mb (w:=QL ?_)
   refine ⟨b2, vs2, ms2, es2, aL, aL, ?_, aP, aO, by omega⟩
   have hdr : t.kids.drop (min 1 t.kids.length) = l := by
    rw [← hls]
    by_cases h0 : t.kids.length = 0
    ·rw [List.eq_nil_of_length_eq_zero h0]; rfl
    ·rw [show min 1 t.kids.length = 1 by omega]
   rw [← hdr]
   exact lv2.mono aB (fun j hj hlt => ⟨hj, bB⟩)
  ·rw [if_neg (by assumption)] at hls ha1
   refine QJ bQ ?_
   refine bH (b := b) (d := d) (acc := acc) (ss := [(⟨#[115, 101, 108, 101, 99, 116]⟩ :ByteArray)]) aP aB aB aB aD (by simp) (by rw [← ha1] at hl1; exact hl1) ?_
   intro h2 b2 x2 v2 ps2 fr2 hb2
   have hn2 := fr2.1
   (try simp only [aA.aE, aA.aC] at hn2 hb2)
   have fb2 : aR p b h h2 := aR.call (b1 := b) aO (by omega) fr2
   simp only [List.foldl_cons, List.foldl_nil] at ps2
   rw [ha1] at ps2
   have nv2 : NV h2 (fun j => j < p) (aG t v t.kids.length es) t := hv.mono aB (fun j hj hlt => ⟨hj, bB⟩)
   have lv2 := nv2.lv
   subst hls
   refine QL ?_
   exact ⟨b2, v, _, es, aL, aL, lv2.mono aB (fun j hj hlt => ⟨hj, bB⟩), aP, aO, by omega⟩
 ·rintro e1 h1 ⟨b1, v1, m1, es1, e10, e14, lv1, ps1, fb1, hb1⟩
  have hn1 := fb1.1
  have hbl1 := ps1.aY
  have hm1 := lv1.len
  subst hm1
  have hll : l.length ≤ 1000000 := by
   rw [← hls]
   by_cases h0 : t.kind = 23
   ·rw [if_pos h0, List.length_drop]; omega
   ·rw [if_neg h0]; omega
  have hk : ∀ u ∈ l, Wks n u := fun u hu => w.mem (by
   rw [← hls] at hu
   by_cases h0 : t.kind = 23
   ·rw [if_pos h0] at hu; exact List.mem_of_mem_drop hu
   ·rw [if_neg h0] at hu; exact hu)
  refine QN (Ma (w:=My (w:=MJ bQ (w:=bH (b := b1) (d := d) (acc := a1) (ss := [(⟨#[32, 123, 10]⟩ :ByteArray)]) aP aB aB aB aD (by simp) bI ?_))))
  intro h2 b2 x2 v2 ps2 fr2 hb2
  have hn2 := fr2.1
  (try simp only [aA.aE, aA.aC] at hn2 hb2)
  have fb2 : aR p b h h2 := aR.call (b1 := b1) aO (by omega) fr2
  have hbl2 := ps2.aY
  simp only [List.foldl_cons, List.foldl_nil] at ps2
  generalize a1 ++ (⟨#[32, 123, 10]⟩ :ByteArray) = acc2 at ps2 hq hl
  refine QL (QU (QN (Ma (w:=Ms (w:=Ma (w:=QL (Bk ?_)))))))
  have lv2 : LV h2 (fun j => j < p) v1 l.length es1 l := lv1.mono aB (fun j hj hlt => ⟨hj, bB⟩)
  generalize hA : dP r d l acc2 = A at hl hq
  have hlA : A.size ≤ o5 := Nat.le_trans (Nat.le_trans (cZ _ _) (cZ _ _)) hl
  refine WC.cB hX (α := Nat × Nat × ByteArray) (m := fun a => l.length - a.1) (Inv := fun a e h' => e 0 = some (pV p) ∧ e 30 = some (.slice v1 l.length es1) ∧ e 31 = some (.int .i64 l.length) ∧ e 32 = some (.int .i64 a.1) ∧ gI h' p a.2.1 d a.2.2 ∧ aR p b h h' ∧ (a.2.1 = b ∨ h.next ≤ a.2.1) ∧ a.1 ≤ l.length ∧ LV h' (fun j => j < p) v1 l.length es1 l ∧ dP r d (l.drop a.1) a.2.2 = A)
   (0, b2, acc2) ⟨aL, aL, aL, aL, aP, aO, by simp only; omega, Nat.zero_le _, lv2.mono aB (fun j hj hlt => ⟨hj, bB⟩), hA⟩ ?_
  rintro ⟨i, b5, acc5⟩ env h5 ih ⟨e0, e30, e31, e32, ps5, fb5, hb5, hi5, lv5, hA5⟩
  simp only at e32 ps5 hb5 hi5 hA5
  have hn5 := fb5.1
  have hbl5 := ps5.aY
  obtain ⟨a5, v5, n5, es5, ho5, _⟩ := ps5.obj
  have hQ := hq
  clear hq
  refine QN (MF (w:=fun hh => QL (QU ?_)) (v:=fun hh => QL (QU ?_)))
  ·refine WC.aD5 hX (hw := ?_)
   refine WC.skip ?_
   refine WC.seq hX ?_
   refine Bk ?_
   have hi : i < l.length := by omega
   rw [List.drop_eq_getElem_cons hi] at hA5
   unfold dP at hA5
   have hmem : l[i] ∈ l := List.getElem_mem hi
   have hku := hk _ hmem
   have lv6 := lv5
   rcases lv5 with ⟨_, _, _, hnil⟩ | ⟨k, off, cells, rfl, _, rfl, h4, h5k, h6, h7, h8⟩
   ·rw [hnil] at hi; simp at hi
   have hvi := h8 i _ (List.getElem?_eq_getElem hi)
   obtain ⟨bi, ni, esi, hei⟩ := hvi.cells
   have hni : ni = l[i].kids.length := by rw [hei] at hvi; exact hvi.nD
   subst hni
   rw [hei] at hvi
   have hld : dB ((cells.drop (off + (i : Int).toNat * 7)).take 7) = some (aG l[i] bi l[i].kids.length esi) := by rw [show off + (i : Int).toNat * 7 = off + i * 7 by omega, hei]; rfl
   generalize l[i] = u at *
   have hul := hku.len
   have hgd := hku.ft.gd
   generalize hL : u.kids.length - 1 = last at hA5
   have hlast : last ≤ 1000000 := by omega
   have hmx : (if (u.kids.length : Int) - 1 > 0 then (u.kids.length : Int) - 1 else 0) = (last : Int) := by split <;> omega
   generalize hhd : qY r d u (acc5 ++ fU d) = ahd at hA5
   have hlh : ahd.size ≤ o5 := Nat.le_trans (Nat.le_trans (cZ _ _) (Nat.le_trans (vI c.m _ _ _) (kT c.m _ _ _))) (by rw [hA5]; exact hlA)
   refine WC.aOv (fun e h' => ∃ b6, e 0 = some (pV p) ∧ e 6 = some (pV h5.next) ∧ e 7 = some (.int .i64 last) ∧ e 30 = some (.slice (some ⟨k, off, none⟩) l.length 7) ∧ e 31 = some (.int .i64 l.length) ∧ e 32 = some (.int .i64 i) ∧ gI h' p b6 d ahd ∧ aR p b h h' ∧ (b6 = b ∨ h.next ≤ b6) ∧ b6 ≠ h5.next ∧ h5.next < h'.next ∧ NV h' (fun j => j < p) (aG u bi u.kids.length esi) u ∧ h'.obj h5.next = some (.cells false (aG u bi u.kids.length esi))) ?_ ?_
   ·refine QV (Ml (w:=QK ?_))
    refine WS.pT (vs := aG u bi u.kids.length esi) (hc := ?_) (hv' := ?_) (hk := ?_)
    (· omega); (· exact hld)
    refine Mw (w:=Mv (w:=QL (QV (Ma (w:=Ma (w:=Mi (w:=Mj (w:=Mt (w:=QK ?_)))))))))
    have hlt : (acc5 ++ fU d).size ≤ o5 := by rw [← hhd] at hlh; exact Nat.le_trans (aDb c.m _ _ _) hlh
    refine QJ aJv ?_
    refine aAb (b := b5) (d := d) (acc := acc5) aP ⟨by omega, by omega⟩ hlt ?_
    intro h7 b7 x7 v7 ps7 fr7 hb7
    have hn7 := fr7.1
    simp only [aA.aE, aA.aC] at hn7 hb7
    have fb7 : aR p b h h7 := aR.call (b1 := b5) aO hb5 fr7
    have hbl7 := ps7.aY
    have nv7 : NV h7 (fun j => j < p) (aG u bi u.kids.length esi) u := hvi.mono aB (fun j hj hlt => ⟨hj, bB⟩)
    have hu7 : h7.obj h5.next = some (.cells false (aG u bi u.kids.length esi)) := aD
    have hl := hlh
    rw [← hhd] at hl
    have hq := hhd
    generalize acc5 ++ fU d = acc7 at ps7 hq hl
    unfold qY at hl hq
    simp only [hL] at hl hq
    clear hhd hlt
    refine QL (QV (Mj (w:=Mt (w:=Ms (w:=Mg (w:=?_))))));refine QK (WS.max (hk := ?_));refine Mb (w:=QL (Bk (QN (Mj (w:=Mt (w:=MD (w:=fun hh => Ma (w:=Mj (w:=Mt (w:=MB (w:=fun hh => Mc (w:=Mb (w:=QQ (QN (Ma (w:=My (w:=QK ?_))))))) (v:=fun hh => Mc (w:=Mb (w:=QP (QN (Mj (w:=Mt (w:=MD (w:=fun hh => by omega) (v:=fun hh => Ma (w:=MA (w:=MA (w:=MA (w:=Md (w:=Mb (w:=QP (QN (Mj (w:=Mt (w:=MD (w:=fun hh => by omega) (v:=fun hh => Ma (w:=MA (w:=MA (w:=MA (w:=Md (w:=Mb (w:=QP (QV (Ma (w:=My (w:=QK ?_))))))))))))))))))))))))))))))))) (v:=fun hh => Ma (w:=MA (w:=MA (w:=MA (w:=Md (w:=Mb (w:=QP (QN (Mj (w:=Mt (w:=MD (w:=fun hh => Ma (w:=Mj (w:=Mt (w:=MB (w:=fun hh => Mc (w:=Mb (w:=QQ (QN (Ma (w:=My (w:=QK ?_))))))) (v:=fun hh => Mc (w:=Mb (w:=QP (QN (Mj (w:=Mt (w:=MD (w:=fun hh => Ma (w:=Mj (w:=Mt (w:=MB (w:=fun hh => Mc (w:=Mb (w:=QQ (QN (Ma (w:=My (w:=QK ?_))))))) (v:=fun hh => Mc (w:=Mb (w:=QP (QV (Ma (w:=My (w:=QK ?_))))))))))) (v:=fun hh => by omega)))))))))))) (v:=fun hh => Ma (w:=MA (w:=MA (w:=MA (w:=Md (w:=Mb (w:=QP (QN (Mj (w:=Mt (w:=MD (w:=fun hh => by omega) (v:=fun hh => Ma (w:=MA (w:=MA (w:=MA (w:=Md (w:=Mb (w:=QP (QV (Ma (w:=My (w:=QK ?_)))))))))))))))))))))))))))))))))))))))
    ·rw [if_pos ⟨by assumption, by assumption⟩] at hl hq
     (try simp only [hmx])
     refine QJ bQ ?_
     refine bH (b := b7) (d := d) (acc := acc7) (ss := [(⟨#[99, 97, 115, 101, 32]⟩ :ByteArray)]) aP aB aB aB aD (by simp) bI ?_
     intro h8 b8 x8 v8 ps8 fr8 hb8
     have hn8 := fr8.1
     (try simp only [aA.aE, aA.aC] at hn8 hb8)
     have fb8 : aR p b h h8 := aR.call (b1 := b7) aO (by omega) fr8
     have hbl8 := ps8.aY
     simp only [List.foldl_cons, List.foldl_nil] at ps8
     generalize acc7 ++ (⟨#[99, 97, 115, 101, 32]⟩ :ByteArray) = acc8 at ps8 hq hl
     refine QL (QV (Ma (w:=Mj (w:=Mt (w:=Ma (w:=QK ?_))))))
     have nv8 : NV h8 (fun j => j < p) (aG u bi u.kids.length esi) u := nv7.mono aB (fun j hj hlt => ⟨hj, bB⟩)
     obtain ⟨vs8, ms8, es8, hsl, lv8⟩ := nv8.lv.hi (k := last) (by omega)
     apply WS.slice
     (· rfl); (· rfl); (· exact aL); (· rfl); (· rfl); (· exact hsl)
     refine Ma (w:=Mp (w:=MJ aCx (w:=?_)))
     refine rI (T := r.expr d) (c.m.expr d) (I := fun _ => True) jP (b := b8) (d := d) (acc := acc8) (fun _ _ => trivial) (fun hx _ ps' hv' hl' hq' => c.expr ⟨by omega, by omega⟩ (hku.up.mem (List.mem_of_mem_take hx)).x ps' hv' hl' hq') aP (lv8.mono aB (fun j hj hlt => ⟨hj, bB⟩)) (by (try simp only [List.length_take, List.length_drop]); omega) bI ?_
     intro h9 b9 x9 v9 ps9 fr9 hb9
     have hn9 := fr9.1
     (try simp only [aA.aE, aA.aC] at hn9 hb9)
     have fb9 : aR p b h h9 := aR.call (b1 := b8) aO (by omega) fr9
     have hbl9 := ps9.aY
     generalize fR (r.expr d) (u.kids.take last) acc8 = acc9 at ps9 hq hl
     refine QL ?_
     (try simp only [hmx])
     have hqe := hq
     rw [hqe] at ps9
     exact ⟨b9, aL, aL, aL, aL, aL, aL, aP, aO, by omega, aB, aB, nv7.mono aB (fun j hj hlt => ⟨hj, bB⟩), aD⟩
    ·rw [if_neg (fun hx => by first | (have := hx.1; omega) | exact absurd hx.2 (by assumption)), if_neg (fun hx => by first | (have := hx.1; omega) | exact absurd hx.2 (by assumption)), if_neg (fun hx => by first | (have := hx.1; omega) | exact absurd hx.2 (by assumption))] at hl hq
     refine QJ bQ ?_
     refine bH (b := b7) (d := d) (acc := acc7) (ss := [(⟨#[100, 101, 102, 97, 117, 108, 116]⟩ :ByteArray)]) aP aB aB aB aD (by simp) bI ?_
     intro h8 b8 x8 v8 ps8 fr8 hb8
     have hn8 := fr8.1
     (try simp only [aA.aE, aA.aC] at hn8 hb8)
     have fb8 : aR p b h h8 := aR.call (b1 := b7) aO (by omega) fr8
     have hbl8 := ps8.aY
     simp only [List.foldl_cons, List.foldl_nil] at ps8
     generalize acc7 ++ (⟨#[100, 101, 102, 97, 117, 108, 116]⟩ :ByteArray) = acc8 at ps8 hq hl
     refine QL ?_
     (try simp only [hmx])
     have hqe := hq
     rw [hqe] at ps8
     exact ⟨b8, aL, aL, aL, aL, aL, aL, aP, aO, by omega, aB, aB, nv7.mono aB (fun j hj hlt => ⟨hj, bB⟩), aD⟩
    ·rw [if_neg (fun hx => by first | (have := hx.1; omega) | exact absurd hx.2 (by assumption)), if_pos ⟨by assumption, by assumption⟩] at hl hq
     have hk2 := hgd.recv (by assumption) (by assumption)
     (try simp only [hmx])
     refine QJ bQ ?_
     refine bH (b := b7) (d := d) (acc := acc7) (ss := [(⟨#[99, 97, 115, 101, 32]⟩ :ByteArray)]) aP aB aB aB aD (by simp) bI ?_
     intro h8 b8 x8 v8 ps8 fr8 hb8
     have hn8 := fr8.1
     (try simp only [aA.aE, aA.aC] at hn8 hb8)
     have fb8 : aR p b h h8 := aR.call (b1 := b7) aO (by omega) fr8
     have hbl8 := ps8.aY
     simp only [List.foldl_cons, List.foldl_nil] at ps8
     generalize acc7 ++ (⟨#[99, 97, 115, 101, 32]⟩ :ByteArray) = acc8 at ps8 hq hl
     refine QL (QU (QN (Ma (w:=MD (w:=fun hh => QQ (QV (Ma (w:=Mu (w:=QK ?_))))) (v:=fun hh => QP (UA (QN (Ma (w:=My (w:=QK ?_))))))))))
     ·rw [if_pos (by omega)] at hl hq
      refine QJ eH ?_
      refine cS (t := u) (i := 0) (nv7.mono aB (fun j hj hlt => ⟨hj, bB⟩)) (by omega) (by omega) fun h80 v80 m80 e80 g80 k80 nv80 => ?_
      have hn80 := g80.1
      (try simp only [aA.aE, aA.aC] at hn80)
      refine Mk (w:=My (w:=MJ bQ (w:=bH (b := b8) (d := d) (acc := acc8) (ss := [(aW u 0).text, (⟨#[32, 58, 61, 32]⟩ :ByteArray)]) aP aB aB aB aD (by simp) bI ?_)))
      intro h9 b9 x9 v9 ps9 fr9 hb9
      have hn9 := fr9.1
      (try simp only [aA.aE, aA.aC] at hn9 hb9)
      have fb9 : aR p b h h9 := aR.call (b1 := b8) aO (by omega) fr9
      have hbl9 := ps9.aY
      simp only [List.foldl_cons, List.foldl_nil] at ps9
      generalize acc8 ++ (aW u 0).text ++ (⟨#[32, 58, 61, 32]⟩ :ByteArray) = acc9 at ps9 hq hl
      refine QO (Ma (w:=My (w:=MJ bQ (w:=bH (b := b9) (d := d) (acc := acc9) (ss := [(⟨#[60, 45]⟩ :ByteArray)]) aP aB aB aB aD (by simp) bI ?_))))
      intro h10 b10 x10 v10 ps10 fr10 hb10
      have hn10 := fr10.1
      (try simp only [aA.aE, aA.aC] at hn10 hb10)
      have fb10 : aR p b h h10 := aR.call (b1 := b9) aO (by omega) fr10
      have hbl10 := ps10.aY
      simp only [List.foldl_cons, List.foldl_nil] at ps10
      generalize acc9 ++ (⟨#[60, 45]⟩ :ByteArray) = acc10 at ps10 hq hl
      refine QL (QV (Ma (w:=Mu (w:=Ma (w:=Mg (w:=QK ?_))))))
      simp only [show (last : Int) - 1 = ((last - 1 : Nat) : Int) by omega]
      refine QJ eH ?_
      refine cS (t := u) (i := last - 1) (nv7.mono aB (fun j hj hlt => ⟨hj, bB⟩)) (by omega) (by omega) fun h11 v11 m11 e11 g11 k11 nv11 => ?_
      have hn11 := g11.1
      (try simp only [aA.aE, aA.aC] at hn11)
      refine MJ jP (w:=c.expr (t := aW u (last - 1)) (b := b10) (d := d) (acc := acc10) ⟨by omega, by omega⟩ (hku.up.eF (last - 1)) aP (nv11.mono aB (fun j hj hlt => ⟨hj, bB⟩)) bI ?_)
      intro h12 b12 x12 v12 ps12 fr12 hb12
      have hn12 := fr12.1
      (try simp only [aA.aE, aA.aC] at hn12 hb12)
      have fb12 : aR p b h h12 := aR.call (b1 := b10) aO (by omega) fr12
      have hbl12 := ps12.aY
      generalize r.expr d (aW u (last - 1)) acc10 = acc12 at ps12 hq hl
      refine QL ?_
      (try simp only [hmx])
      have hqe := hq
      rw [hqe] at ps12
      exact ⟨b12, aL, aL, aL, aL, aL, aL, aP, aO, by omega, aB, aB, nv7.mono aB (fun j hj hlt => ⟨hj, bB⟩), aD⟩
     ·rw [if_neg (by omega)] at hl hq
      refine QJ bQ ?_
      refine bH (b := b8) (d := d) (acc := acc8) (ss := [(⟨#[60, 45]⟩ :ByteArray)]) aP aB aB aB aD (by simp) bI ?_
      intro h10 b10 x10 v10 ps10 fr10 hb10
      have hn10 := fr10.1
      (try simp only [aA.aE, aA.aC] at hn10 hb10)
      have fb10 : aR p b h h10 := aR.call (b1 := b8) aO (by omega) fr10
      have hbl10 := ps10.aY
      simp only [List.foldl_cons, List.foldl_nil] at ps10
      generalize acc8 ++ (⟨#[60, 45]⟩ :ByteArray) = acc10 at ps10 hq hl
      refine QL (QV (Ma (w:=Mu (w:=Ma (w:=Mg (w:=QK ?_))))))
      simp only [show (last : Int) - 1 = ((last - 1 : Nat) : Int) by omega]
      refine QJ eH ?_
      refine cS (t := u) (i := last - 1) (nv7.mono aB (fun j hj hlt => ⟨hj, bB⟩)) (by omega) (by omega) fun h11 v11 m11 e11 g11 k11 nv11 => ?_
      have hn11 := g11.1
      (try simp only [aA.aE, aA.aC] at hn11)
      refine MJ jP (w:=c.expr (t := aW u (last - 1)) (b := b10) (d := d) (acc := acc10) ⟨by omega, by omega⟩ (hku.up.eF (last - 1)) aP (nv11.mono aB (fun j hj hlt => ⟨hj, bB⟩)) bI ?_)
      intro h12 b12 x12 v12 ps12 fr12 hb12
      have hn12 := fr12.1
      (try simp only [aA.aE, aA.aC] at hn12 hb12)
      have fb12 : aR p b h h12 := aR.call (b1 := b10) aO (by omega) fr12
      have hbl12 := ps12.aY
      generalize r.expr d (aW u (last - 1)) acc10 = acc12 at ps12 hq hl
      refine QL ?_
      (try simp only [hmx])
      have hqe := hq
      rw [hqe] at ps12
      exact ⟨b12, aL, aL, aL, aL, aL, aL, aP, aO, by omega, aB, aB, nv7.mono aB (fun j hj hlt => ⟨hj, bB⟩), aD⟩
    ·rw [if_neg (fun hx => by first | (have := hx.1; omega) | exact absurd hx.2 (by assumption)), if_neg (fun hx => by first | (have := hx.1; omega) | exact absurd hx.2 (by assumption)), if_pos ⟨by assumption, by assumption⟩] at hl hq
     (try simp only [hmx])
     refine QJ bQ ?_
     refine bH (b := b7) (d := d) (acc := acc7) (ss := [(⟨#[99, 97, 115, 101, 32]⟩ :ByteArray)]) aP aB aB aB aD (by simp) bI ?_
     intro h8 b8 x8 v8 ps8 fr8 hb8
     have hn8 := fr8.1
     (try simp only [aA.aE, aA.aC] at hn8 hb8)
     have fb8 : aR p b h h8 := aR.call (b1 := b7) aO (by omega) fr8
     have hbl8 := ps8.aY
     simp only [List.foldl_cons, List.foldl_nil] at ps8
     generalize acc7 ++ (⟨#[99, 97, 115, 101, 32]⟩ :ByteArray) = acc8 at ps8 hq hl
     refine QL (QV (Ma (w:=Mu (w:=MJ aG7 (w:=rU c hku.up (show 0 ≤ d ∧ d + n ≤ 1000000 by omega) (b := b8) (acc := acc8) aP (nv7.mono aB (fun j hj hlt => ⟨hj, bB⟩)) bI ?_)))))
     intro h9 b9 x9 v9 ps9 fr9 hb9
     have hn9 := fr9.1
     (try simp only [aA.aE, aA.aC] at hn9 hb9)
     have fb9 : aR p b h h9 := aR.call (b1 := b8) aO (by omega) fr9
     have hbl9 := ps9.aY
     generalize jY r d u (⟨#[32, 60, 45, 32]⟩ :ByteArray) acc8 = acc9 at ps9 hq hl
     refine QL ?_
     (try simp only [hmx])
     have hqe := hq
     rw [hqe] at ps9
     exact ⟨b9, aL, aL, aL, aL, aL, aL, aP, aO, by omega, aB, aB, nv7.mono aB (fun j hj hlt => ⟨hj, bB⟩), aD⟩
    ·rw [if_neg (fun hx => by first | (have := hx.1; omega) | exact absurd hx.2 (by assumption)), if_neg (fun hx => by first | (have := hx.1; omega) | exact absurd hx.2 (by assumption)), if_neg (fun hx => by first | (have := hx.1; omega) | exact absurd hx.2 (by assumption))] at hl hq
     refine QJ bQ ?_
     refine bH (b := b7) (d := d) (acc := acc7) (ss := [(⟨#[100, 101, 102, 97, 117, 108, 116]⟩ :ByteArray)]) aP aB aB aB aD (by simp) bI ?_
     intro h8 b8 x8 v8 ps8 fr8 hb8
     have hn8 := fr8.1
     (try simp only [aA.aE, aA.aC] at hn8 hb8)
     have fb8 : aR p b h h8 := aR.call (b1 := b7) aO (by omega) fr8
     have hbl8 := ps8.aY
     simp only [List.foldl_cons, List.foldl_nil] at ps8
     generalize acc7 ++ (⟨#[100, 101, 102, 97, 117, 108, 116]⟩ :ByteArray) = acc8 at ps8 hq hl
     refine QL ?_
     (try simp only [hmx])
     have hqe := hq
     rw [hqe] at ps8
     exact ⟨b8, aL, aL, aL, aL, aL, aL, aP, aO, by omega, aB, aB, nv7.mono aB (fun j hj hlt => ⟨hj, bB⟩), aD⟩
    ·rw [if_neg (fun hx => by first | (have := hx.1; omega) | exact absurd hx.2 (by assumption)), if_neg (fun hx => by first | (have := hx.1; omega) | exact absurd hx.2 (by assumption)), if_neg (fun hx => by first | (have := hx.1; omega) | exact absurd hx.2 (by assumption))] at hl hq
     refine QJ bQ ?_
     refine bH (b := b7) (d := d) (acc := acc7) (ss := [(⟨#[100, 101, 102, 97, 117, 108, 116]⟩ :ByteArray)]) aP aB aB aB aD (by simp) bI ?_
     intro h8 b8 x8 v8 ps8 fr8 hb8
     have hn8 := fr8.1
     (try simp only [aA.aE, aA.aC] at hn8 hb8)
     have fb8 : aR p b h h8 := aR.call (b1 := b7) aO (by omega) fr8
     have hbl8 := ps8.aY
     simp only [List.foldl_cons, List.foldl_nil] at ps8
     generalize acc7 ++ (⟨#[100, 101, 102, 97, 117, 108, 116]⟩ :ByteArray) = acc8 at ps8 hq hl
     refine QL ?_
     (try simp only [hmx])
     have hqe := hq
     rw [hqe] at ps8
     exact ⟨b8, aL, aL, aL, aL, aL, aL, aP, aO, by omega, aB, aB, nv7.mono aB (fun j hj hlt => ⟨hj, bB⟩), aD⟩
   ·rintro e6 h6 ⟨b6, e60, e66, e67, e630, e631, e632, ps6, fb6, hb6, hne6, hn6, nv6, hu6⟩
    have hbl6 := ps6.aY
    have hl : (dP r d (l.drop (i + 1)) (lF r d (aW u last).kids (ahd ++ (⟨#[58, 10]⟩ :ByteArray)))).size ≤ o5 := by rw [hA5]; exact hlA
    have hq := hA5
    have hkl := hku.tK (i := last)
    refine QN (Ma (w:=My (w:=MJ bQ (w:=bH (b := b6) (d := d) (acc := ahd) (ss := [(⟨#[58, 10]⟩ :ByteArray)]) aP aB aB aB aD (by simp) bI ?_))))
    intro h8 b8 x8 v8 ps8 fr8 hb8
    have hn8 := fr8.1
    (try simp only [aA.aE, aA.aC] at hn8 hb8)
    have fb8 : aR p b h h8 := aR.call (b1 := b6) aO (by omega) fr8
    have hbl8 := ps8.aY
    simp only [List.foldl_cons, List.foldl_nil] at ps8
    generalize ahd ++ (⟨#[58, 10]⟩ :ByteArray) = acc8 at ps8 hq hl
    refine QL (QV (Ma (w:=Mu (w:=Ma (w:=QK ?_)))))
    have hu8 : h8.obj h5.next = some (.cells false (aG u bi u.kids.length esi)) := aD
    skip
    refine QJ eH ?_
    refine cS (t := u) (i := last) (nv6.mono aB (fun j hj hlt => ⟨hj, bB⟩)) (by omega) (by omega) fun h9 v9 m9 e9 g9 k9 nv9 => ?_
    have hn9 := g9.1
    (try simp only [aA.aE, aA.aC] at hn9)
    refine Mk (w:=MJ aPw (w:=aB3 c (fun x hx => hku.up.yC hx) (by omega) hd (b := b8) (acc := acc8) aP (nv9.lv.mono aB (fun j hj hlt => ⟨hj, bB⟩)) bI ?_))
    intro h10 b10 x10 v10 ps10 fr10 hb10
    have hn10 := fr10.1
    (try simp only [aA.aE, aA.aC] at hn10 hb10)
    have fb10 : aR p b h h10 := aR.call (b1 := b8) aO (by omega) fr10
    have hbl10 := ps10.aY
    generalize lF r d (aW u last).kids acc8 = acc10 at ps10 hq hl
    refine QL (QV (Mf (w:=Ma (w:=QL ?_))))
    exact ih (i + 1, b10, acc10) _ _ (by simp only; omega) ⟨aL, aL, aL, rfl, aP, aO, by simp only; omega, hi, lv6.mono aB (fun j hj hlt => ⟨hj, (fb10.2 j (by omega) (by omega) (by omega)).trans (fb5.2 j (by omega) (by omega) (by omega)).symm⟩), hq⟩
  ·rw [List.drop_of_length_le (by omega)] at hA5
   unfold dP at hA5
   subst hA5
   have hq := hQ
   refine QS (WC.exit (aH (QN (Ma (w:=Ma (w:=Mi (w:=Mj (w:=Mt (w:=MJ aJv (w:=aAb (b := b5) (d := d) (acc := acc5) aP ⟨by omega, by omega⟩ bI ?_))))))))))
   intro h7 b7 x7 v7 ps7 fr7 hb7
   have hn7 := fr7.1
   (try simp only [aA.aE, aA.aC] at hn7 hb7)
   have fb7 : aR p b h h7 := aR.call (b1 := b5) aO hb5 fr7
   have hbl7 := ps7.aY
   generalize acc5 ++ fU d = acc7 at ps7 hq hl
   refine QL (QV (Ma (w:=My (w:=MJ bQ (w:=bH (b := b7) (d := d) (acc := acc7) (ss := [(⟨#[125]⟩ :ByteArray)]) aP aB aB aB aD (by simp) bI ?_)))))
   intro h8 b8 x8 v8 ps8 fr8 hb8
   have hn8 := fr8.1
   (try simp only [aA.aE, aA.aC] at hn8 hb8)
   have fb8 : aR p b h h8 := aR.call (b1 := b7) aO (by omega) fr8
   have hbl8 := ps8.aY
   simp only [List.foldl_cons, List.foldl_nil] at ps8
   generalize acc7 ++ (⟨#[125]⟩ :ByteArray) = acc8 at ps8 hq hl
   refine QL ?_
   refine ⟨_, aM, ?_⟩
   exact hq _ b8 _ _ ps8 (aR.out fb8) (by omega)

end
section
variable {n : Nat} {r : Pr} {t : Nd} {p b : Nat} {d : Int} {acc : ByteArray} {v : Option Addr} {m es : Nat} {h : aA} {Q : bR → Prop}

theorem aFy (c : CPr n r) (hz : t.kind = 0) (hlen : t.kids.length ≤ 1000000) (ps : gI h p b d acc) (hv : NV h (fun j => j < p) (aG t v m es) t) (hl : (acc ++ (⟨#[63]⟩ :ByteArray)).size ≤ o5) (hq : kO p b d h (acc ++ (⟨#[63]⟩ :ByteArray)) Q) : aS Tryz.prog G X 151 [pV p, .agg (aG t v m es).toArray] h Q := by
 have hmk := hv.nD
 subst hmk
 have hp := ps.lt
 have hbl := ps.aY
 refine Wk Tryz.func151 Tryz.ntmps151 (w:=QN (Mx (w:=QL (QU (QN (Mj (w:=Mt (w:=QL (Bk (QN (MD (w:=fun hh => by omega) (v:=fun hh => Mb (w:=QP (QN (MD (w:=fun hh => by omega) (v:=fun hh => Mb (w:=QP (QN (MD (w:=fun hh => by omega) (v:=fun hh => Mb (w:=QP (QN (MD (w:=fun hh => by omega) (v:=fun hh => Mb (w:=QP (QN (MD (w:=fun hh => by omega) (v:=fun hh => Mb (w:=QP (QN (MD (w:=fun hh => by omega) (v:=fun hh => Mb (w:=QP (QN (MD (w:=fun hh => by omega) (v:=fun hh => Mb (w:=QP (QN (MD (w:=fun hh => by omega) (v:=fun hh => Mb (w:=QP (QV (Ma (w:=My (w:=MJ bQ (w:=bH (b := b) (d := d) (acc := acc) (ss := [(⟨#[63]⟩ :ByteArray)]) aP aB aB aB aD (by simp) bI ?_))))))))))))))))))))))))))))))))))))))))))))))
 intro h1 b1 x1 v1 ps1 fr1 hb1
 have hn1 := fr1.1
 (try simp only [aA.aE, aA.aC] at hn1 hb1)
 have fb1 : aR p b h h1 := aR.call (b1 := b) aO (by omega) fr1
 have hbl1 := ps1.aY
 simp only [List.foldl_cons, List.foldl_nil] at ps1
 generalize acc ++ (⟨#[63]⟩ :ByteArray) = acc1 at ps1 hq hl
 refine QO (Mj (w:=Mt (w:=MD (w:=fun hh => by omega) (v:=fun hh => Ma (w:=Mj (w:=Mt (w:=MD (w:=fun hh => by omega) (v:=fun hh => Md (w:=Ma (w:=MA (w:=MA (w:=MA (w:=Md (w:=QP (UA ?_)))))))))))))))
 refine ⟨_, aM, ?_⟩
 exact hq _ b1 _ _ ps1 (aR.out fb1) (by omega)
end

theorem aK6 {n : Nat} {r : Pr} (c : CPr n r) : CE 123 (n + 1) (p6 r) := by
 intro t p b d acc v m es h Q hd ⟨hft, hwt, hfu⟩ ps hv hl hq
 have w : Wr n t := ⟨hft, hwt, hfu⟩
 have hlen := w.len
 have hmk := hv.nD
 subst hmk
 have hp := ps.lt
 have hbl := ps.aY
 have htsz := hft.gd.sz
 unfold p6 at hl hq
 dsimp only at hl hq
 refine Wk Tryz.func123 Tryz.ntmps123 (w:=QN (Mx (w:=QO (Mj (w:=Mt (w:=QL (Bk (QN (MD (w:=fun hh => Mb (w:=QQ (QV (Ma (w:=Mu (w:=QK ?_)))))) (v:=fun hh => Mb (w:=QP (QN (MD (w:=fun hh => Mb (w:=QQ (QN (Ma (w:=Mj (w:=Mt (w:=My (w:=QK ?_)))))))) (v:=fun hh => Mb (w:=QP (QN (MD (w:=fun hh => Mb (w:=QQ (QN (Ma (w:=My (w:=QK ?_)))))) (v:=fun hh => Mb (w:=QP (QN (MD (w:=fun hh => Mb (w:=QQ (QV (Ma (w:=Mu (w:=Mj (w:=Mt (w:=Mh (w:=Mh (w:=QK ?_)))))))))) (v:=fun hh => Mb (w:=QP (QN (MD (w:=fun hh => Mb (w:=QQ (QN (Ma (w:=Mu (w:=QK ?_)))))) (v:=fun hh => Mb (w:=QP (QN (MD (w:=fun hh => Mb (w:=QQ (QN (Ma (w:=My (w:=QK ?_)))))) (v:=fun hh => Mb (w:=QP (QN (MD (w:=fun hh => Mb (w:=QQ (QV (Ma (w:=Mu (w:=QK ?_)))))) (v:=fun hh => Mb (w:=QP (QU (QN (MD (w:=fun hh => Mb (w:=QQ (UA (QR (QV (Ma (w:=Mu (w:=QK ?_)))))))) (v:=fun hh => Mb (w:=QP (QV (MD (w:=fun hh => Mb (w:=QQ (QV (Ma (w:=Mu (w:=QK ?_)))))) (v:=fun hh => Mb (w:=QP (QN (MD (w:=fun hh => Mb (w:=QQ (QN (Ma (w:=Mj (w:=Mt (w:=My (w:=QK ?_)))))))) (v:=fun hh => Mb (w:=QP (QV (Ma (w:=Mu (w:=QK ?_))))))))))))))))))))))))))))))))))))))))))))))))))))
 ·simp only [hh, Int.reduceEq, if_false, if_true, or_true, true_or, or_false, false_or] at hl hq
  have w := w.k (by omega)
  refine QJ aA2 ?_
  refine kR c (fun u hu => w.mem hu) w.len (show 0 ≤ d ∧ d + (n + 1) ≤ 1000000 by omega) (b := b) (acc := acc) aP (hv.mono aB (fun j hj hlt => ⟨hj, bB⟩)) bI ?_
  intro h1 b1 x1 v1 ps1 fr1 hb1
  have hn1 := fr1.1
  (try simp only [aA.aE, aA.aC] at hn1 hb1)
  have fb1 : aR p b h h1 := aR.call (b1 := b) aO (by omega) fr1
  have hbl1 := ps1.aY
  generalize eX r d t acc = acc1 at ps1 hq hl
  refine QL ?_
  refine ⟨_, aM, ?_⟩
  exact hq _ b1 _ _ ps1 (aR.out fb1) (by omega)
 ·simp only [hh, Int.reduceEq, if_false, if_true, or_true, true_or, or_false, false_or] at hl hq
  have w := w.k (by omega)
  refine QJ bQ ?_
  refine bH (b := b) (d := d) (acc := acc) (ss := [t.text, (⟨#[32, 58, 61, 32]⟩ :ByteArray)]) aP aB aB aB aD (by simp) bI ?_
  intro h1 b1 x1 v1 ps1 fr1 hb1
  have hn1 := fr1.1
  (try simp only [aA.aE, aA.aC] at hn1 hb1)
  have fb1 : aR p b h h1 := aR.call (b1 := b) aO (by omega) fr1
  have hbl1 := ps1.aY
  simp only [List.foldl_cons, List.foldl_nil] at ps1
  generalize acc ++ t.text ++ (⟨#[32, 58, 61, 32]⟩ :ByteArray) = acc1 at ps1 hq hl
  refine QL (QV (Ma (w:=Mu (w:=MJ eH (w:=cS (t := t) (i := 0) (hv.mono aB (fun j hj hlt => ⟨hj, bB⟩)) (by omega) (by omega) fun h2 v2 m2 e2 g2 k2 nv2 => ?_)))))
  have hn2 := g2.1
  (try simp only [aA.aE, aA.aC] at hn2)
  refine MJ jP (w:=c.expr (t := aW t 0) (b := b1) (d := d) (acc := acc1) ⟨by omega, by omega⟩ (w.eF 0) aP (nv2.mono aB (fun j hj hlt => ⟨hj, bB⟩)) bI ?_)
  intro h3 b3 x3 v3 ps3 fr3 hb3
  have hn3 := fr3.1
  (try simp only [aA.aE, aA.aC] at hn3 hb3)
  have fb3 : aR p b h h3 := aR.call (b1 := b1) aO (by omega) fr3
  have hbl3 := ps3.aY
  generalize r.expr d (aW t 0) acc1 = acc3 at ps3 hq hl
  refine QL ?_
  refine ⟨_, aM, ?_⟩
  exact hq _ b3 _ _ ps3 (aR.out fb3) (by omega)
 ·simp only [hh, Int.reduceEq, if_false, if_true, or_true, true_or, or_false, false_or] at hl hq
  have w := w.k (by omega)
  refine QJ bQ ?_
  refine bH (b := b) (d := d) (acc := acc) (ss := [(⟨#[118, 97, 114, 32]⟩ :ByteArray)]) aP aB aB aB aD (by simp) bI ?_
  intro h1 b1 x1 v1 ps1 fr1 hb1
  have hn1 := fr1.1
  (try simp only [aA.aE, aA.aC] at hn1 hb1)
  have fb1 : aR p b h h1 := aR.call (b1 := b) aO (by omega) fr1
  have hbl1 := ps1.aY
  simp only [List.foldl_cons, List.foldl_nil] at ps1
  generalize acc ++ (⟨#[118, 97, 114, 32]⟩ :ByteArray) = acc1 at ps1 hq hl
  refine QO (Ma (w:=Mu (w:=MJ aJu (w:=sG c w (b := b1) (acc := acc1) aP (hv.mono aB (fun j hj hlt => ⟨hj, bB⟩)) bI ?_))))
  intro h2 b2 x2 v2 ps2 fr2 hb2
  have hn2 := fr2.1
  (try simp only [aA.aE, aA.aC] at hn2 hb2)
  have fb2 : aR p b h h2 := aR.call (b1 := b1) aO (by omega) fr2
  have hbl2 := ps2.aY
  generalize eJ r t acc1 = acc2 at ps2 hq hl
  refine QO (Mu (w:=MJ eH (w:=cS (t := t) (i := 1) (hv.mono aB (fun j hj hlt => ⟨hj, bB⟩)) (by omega) (by omega) fun h3 v3 m3 e3 g3 k3 nv3 => ?_)))
  have hn3 := g3.1
  (try simp only [aA.aE, aA.aC] at hn3)
  refine Mw (w:=Mv (w:=QO (Mj (w:=Mt (w:=ME (w:=fun hh => QQ (QN (Ma (w:=My (w:=QK ?_))))) (v:=fun hh => QP (UA ?_)))))))
  ·rw [if_neg (by assumption)] at hl hq
   refine QJ bQ ?_
   refine bH (b := b2) (d := d) (acc := acc2) (ss := [(⟨#[32, 61, 32]⟩ :ByteArray)]) aP aB aB aB aD (by simp) bI ?_
   intro h4 b4 x4 v4 ps4 fr4 hb4
   have hn4 := fr4.1
   (try simp only [aA.aE, aA.aC] at hn4 hb4)
   have fb4 : aR p b h h4 := aR.call (b1 := b2) aO (by omega) fr4
   have hbl4 := ps4.aY
   simp only [List.foldl_cons, List.foldl_nil] at ps4
   generalize acc2 ++ (⟨#[32, 61, 32]⟩ :ByteArray) = acc4 at ps4 hq hl
   refine QL (QV (Ma (w:=Mu (w:=MJ jP (w:=c.expr (t := aW t 1) (b := b4) (d := d) (acc := acc4) ⟨by omega, by omega⟩ (w.eF 1) aP (nv3.mono aB (fun j hj hlt => ⟨hj, bB⟩)) bI ?_)))))
   intro h5 b5 x5 v5 ps5 fr5 hb5
   have hn5 := fr5.1
   (try simp only [aA.aE, aA.aC] at hn5 hb5)
   have fb5 : aR p b h h5 := aR.call (b1 := b4) aO (by omega) fr5
   have hbl5 := ps5.aY
   generalize r.expr d (aW t 1) acc4 = acc5 at ps5 hq hl
   refine QL ?_
   refine ⟨_, aM, ?_⟩
   exact hq _ b5 _ _ ps5 (aR.out fb5) (by omega)
  ·rw [if_pos (by omega)] at hl hq
   refine ⟨_, aM, ?_⟩
   exact hq _ b2 _ _ aP (aR.out aO) (by omega)
 ·simp only [hh, Int.reduceEq, if_false, if_true, or_true, true_or, or_false, false_or] at hl hq
  have w := w.k (by omega)
  refine QJ aG7 ?_
  refine rU c w (show 0 ≤ d ∧ d + n ≤ 1000000 by omega) (b := b) (acc := acc) aP (hv.mono aB (fun j hj hlt => ⟨hj, bB⟩)) bI ?_
  intro h1 b1 x1 v1 ps1 fr1 hb1
  have hn1 := fr1.1
  (try simp only [aA.aE, aA.aC] at hn1 hb1)
  have fb1 : aR p b h h1 := aR.call (b1 := b) aO (by omega) fr1
  have hbl1 := ps1.aY
  generalize jY r d t ((⟨#[32]⟩ :ByteArray) ++ t.text ++ (⟨#[32]⟩ :ByteArray)) acc = acc1 at ps1 hq hl
  refine QL ?_
  refine ⟨_, aM, ?_⟩
  exact hq _ b1 _ _ ps1 (aR.out fb1) (by omega)
 ·simp only [hh, Int.reduceEq, if_false, if_true, or_true, true_or, or_false, false_or] at hl hq
  have w := w.k (by omega)
  refine QJ eH ?_
  refine cS (t := t) (i := 0) (hv.mono aB (fun j hj hlt => ⟨hj, bB⟩)) (by omega) (by omega) fun h1 v1 m1 e1 g1 k1 nv1 => ?_
  have hn1 := g1.1
  (try simp only [aA.aE, aA.aC] at hn1)
  refine MJ jP (w:=c.expr (t := aW t 0) (b := b) (d := d) (acc := acc) ⟨by omega, by omega⟩ (w.eF 0) aP (nv1.mono aB (fun j hj hlt => ⟨hj, bB⟩)) bI ?_)
  intro h2 b2 x2 v2 ps2 fr2 hb2
  have hn2 := fr2.1
  (try simp only [aA.aE, aA.aC] at hn2 hb2)
  have fb2 : aR p b h h2 := aR.call (b1 := b) aO (by omega) fr2
  have hbl2 := ps2.aY
  generalize r.expr d (aW t 0) acc = acc2 at ps2 hq hl
  refine QL (QV (Ma (w:=Mj (w:=Mt (w:=My (w:=MJ bQ (w:=bH (b := b2) (d := d) (acc := acc2) (ss := [t.text]) aP aB aB aB aD (by simp) bI ?_)))))))
  intro h3 b3 x3 v3 ps3 fr3 hb3
  have hn3 := fr3.1
  (try simp only [aA.aE, aA.aC] at hn3 hb3)
  have fb3 : aR p b h h3 := aR.call (b1 := b2) aO (by omega) fr3
  have hbl3 := ps3.aY
  simp only [List.foldl_cons, List.foldl_nil] at ps3
  generalize acc2 ++ t.text = acc3 at ps3 hq hl
  refine QL ?_
  refine ⟨_, aM, ?_⟩
  exact hq _ b3 _ _ ps3 (aR.out fb3) (by omega)
 ·simp only [hh, Int.reduceEq, if_false, if_true, or_true, true_or, or_false, false_or] at hl hq
  have w := w.k (by omega)
  have hk1 := w.tK (i := 1)
  refine QJ bQ ?_
  refine bH (b := b) (d := d) (acc := acc) (ss := [(⟨#[105, 102, 32]⟩ :ByteArray)]) aP aB aB aB aD (by simp) bI ?_
  intro h1 b1 x1 v1 ps1 fr1 hb1
  have hn1 := fr1.1
  (try simp only [aA.aE, aA.aC] at hn1 hb1)
  have fb1 : aR p b h h1 := aR.call (b1 := b) aO (by omega) fr1
  have hbl1 := ps1.aY
  simp only [List.foldl_cons, List.foldl_nil] at ps1
  generalize acc ++ (⟨#[105, 102, 32]⟩ :ByteArray) = acc1 at ps1 hq hl
  refine QO (Ma (w:=Mu (w:=MJ eH (w:=cS (t := t) (i := 0) (hv.mono aB (fun j hj hlt => ⟨hj, bB⟩)) (by omega) (by omega) fun h2 v2 m2 e2 g2 k2 nv2 => ?_))))
  have hn2 := g2.1
  (try simp only [aA.aE, aA.aC] at hn2)
  refine MJ jP (w:=c.expr (t := aW t 0) (b := b1) (d := d) (acc := acc1) ⟨by omega, by omega⟩ (w.eF 0) aP (nv2.mono aB (fun j hj hlt => ⟨hj, bB⟩)) bI ?_)
  intro h3 b3 x3 v3 ps3 fr3 hb3
  have hn3 := fr3.1
  (try simp only [aA.aE, aA.aC] at hn3 hb3)
  have fb3 : aR p b h h3 := aR.call (b1 := b1) aO (by omega) fr3
  have hbl3 := ps3.aY
  generalize r.expr d (aW t 0) acc1 = acc3 at ps3 hq hl
  refine QO (Ma (w:=My (w:=MJ bQ (w:=bH (b := b3) (d := d) (acc := acc3) (ss := [(⟨#[32]⟩ :ByteArray)]) aP aB aB aB aD (by simp) bI ?_))))
  intro h4 b4 x4 v4 ps4 fr4 hb4
  have hn4 := fr4.1
  (try simp only [aA.aE, aA.aC] at hn4 hb4)
  have fb4 : aR p b h h4 := aR.call (b1 := b3) aO (by omega) fr4
  have hbl4 := ps4.aY
  simp only [List.foldl_cons, List.foldl_nil] at ps4
  generalize acc3 ++ (⟨#[32]⟩ :ByteArray) = acc4 at ps4 hq hl
  refine QO (Ma (w:=Mu (w:=MJ eH (w:=cS (t := t) (i := 1) (hv.mono aB (fun j hj hlt => ⟨hj, bB⟩)) (by omega) (by omega) fun h5 v5 m5 e5 g5 k5 nv5 => ?_))))
  have hn5 := g5.1
  (try simp only [aA.aE, aA.aC] at hn5)
  refine MJ aA2 (w:=kR c (fun u hu => w.yC hu) w.tK (show 0 ≤ d ∧ d + (n + 1) ≤ 1000000 by omega) (b := b4) (acc := acc4) aP (nv5.mono aB (fun j hj hlt => ⟨hj, bB⟩)) bI ?_)
  intro h6 b6 x6 v6 ps6 fr6 hb6
  have hn6 := fr6.1
  (try simp only [aA.aE, aA.aC] at hn6 hb6)
  have fb6 : aR p b h h6 := aR.call (b1 := b4) aO (by omega) fr6
  have hbl6 := ps6.aY
  generalize eX r d (aW t 1) acc4 = acc6 at ps6 hq hl
  refine QO (Mu (w:=MJ eH (w:=cS (t := t) (i := 2) (hv.mono aB (fun j hj hlt => ⟨hj, bB⟩)) (by omega) (by omega) fun h7 v7 m7 e7 g7 k7 nv7 => ?_)))
  have hn7 := g7.1
  (try simp only [aA.aE, aA.aC] at hn7)
  refine Mw (w:=Mv (w:=QO (Mj (w:=Mt (w:=ME (w:=fun hh => QQ (QN (Ma (w:=My (w:=QK ?_))))) (v:=fun hh => QP (UA ?_)))))))
  ·rw [if_neg (by assumption)] at hl hq
   refine QJ bQ ?_
   refine bH (b := b6) (d := d) (acc := acc6) (ss := [(⟨#[32, 101, 108, 115, 101, 32]⟩ :ByteArray)]) aP aB aB aB aD (by simp) bI ?_
   intro h8 b8 x8 v8 ps8 fr8 hb8
   have hn8 := fr8.1
   (try simp only [aA.aE, aA.aC] at hn8 hb8)
   have fb8 : aR p b h h8 := aR.call (b1 := b6) aO (by omega) fr8
   have hbl8 := ps8.aY
   simp only [List.foldl_cons, List.foldl_nil] at ps8
   generalize acc6 ++ (⟨#[32, 101, 108, 115, 101, 32]⟩ :ByteArray) = acc8 at ps8 hq hl
   refine QL (QV (Ma (w:=Mu (w:=MJ wI (w:=c.stmt (t := aW t 2) (b := b8) (d := d) (acc := acc8) ⟨by omega, by omega⟩ (w.eF 2) aP (nv7.mono aB (fun j hj hlt => ⟨hj, bB⟩)) bI ?_)))))
   intro h9 b9 x9 v9 ps9 fr9 hb9
   have hn9 := fr9.1
   (try simp only [aA.aE, aA.aC] at hn9 hb9)
   have fb9 : aR p b h h9 := aR.call (b1 := b8) aO (by omega) fr9
   have hbl9 := ps9.aY
   generalize r.stmt d (aW t 2) acc8 = acc9 at ps9 hq hl
   refine QL ?_
   refine ⟨_, aM, ?_⟩
   exact hq _ b9 _ _ ps9 (aR.out fb9) (by omega)
  ·rw [if_pos (by omega)] at hl hq
   refine ⟨_, aM, ?_⟩
   exact hq _ b6 _ _ aP (aR.out aO) (by omega)
 ·simp only [hh, Int.reduceEq, if_false, if_true, or_true, true_or, or_false, false_or] at hl hq
  have w := w.k (by omega)
  refine QJ aPc ?_
  refine aKi c w (show 0 ≤ d ∧ d + (n + 1) ≤ 1000000 by omega) (b := b) (acc := acc) aP (hv.mono aB (fun j hj hlt => ⟨hj, bB⟩)) bI ?_
  intro h1 b1 x1 v1 ps1 fr1 hb1
  have hn1 := fr1.1
  (try simp only [aA.aE, aA.aC] at hn1 hb1)
  have fb1 : aR p b h h1 := aR.call (b1 := b) aO (by omega) fr1
  have hbl1 := ps1.aY
  generalize pU r d t acc = acc1 at ps1 hq hl
  refine QL ?_
  refine ⟨_, aM, ?_⟩
  exact hq _ b1 _ _ ps1 (aR.out fb1) (by omega)
 ·simp only [hh, Int.reduceEq, if_false, if_true, or_true, true_or, or_false, false_or] at hl hq
  have w := w.k (by omega)
  refine QJ aLr ?_
  refine wB c w (show 0 ≤ d ∧ d + (n + 1) ≤ 1000000 by omega) (b := b) (acc := acc) aP (hv.mono aB (fun j hj hlt => ⟨hj, bB⟩)) bI ?_
  intro h1 b1 x1 v1 ps1 fr1 hb1
  have hn1 := fr1.1
  (try simp only [aA.aE, aA.aC] at hn1 hb1)
  have fb1 : aR p b h h1 := aR.call (b1 := b) aO (by omega) fr1
  have hbl1 := ps1.aY
  generalize fO r d t acc = acc1 at ps1 hq hl
  refine QL ?_
  refine ⟨_, aM, ?_⟩
  exact hq _ b1 _ _ ps1 (aR.out fb1) (by omega)
 ·simp only [hh, Int.reduceEq, if_false, if_true, or_true, true_or, or_false, false_or] at hl hq
  have w := w.k (by omega)
  refine QJ aLr ?_
  refine wB c w (show 0 ≤ d ∧ d + (n + 1) ≤ 1000000 by omega) (b := b) (acc := acc) aP (hv.mono aB (fun j hj hlt => ⟨hj, bB⟩)) bI ?_
  intro h1 b1 x1 v1 ps1 fr1 hb1
  have hn1 := fr1.1
  (try simp only [aA.aE, aA.aC] at hn1 hb1)
  have fb1 : aR p b h h1 := aR.call (b1 := b) aO (by omega) fr1
  have hbl1 := ps1.aY
  generalize fO r d t acc = acc1 at ps1 hq hl
  refine QL ?_
  refine ⟨_, aM, ?_⟩
  exact hq _ b1 _ _ ps1 (aR.out fb1) (by omega)
 ·simp only [hh, Int.reduceEq, if_false, if_true, or_true, true_or, or_false, false_or] at hl hq
  have w := w.k (by omega)
  refine QJ bQ ?_
  refine bH (b := b) (d := d) (acc := acc) (ss := [t.text, (⟨#[58, 32]⟩ :ByteArray)]) aP aB aB aB aD (by simp) bI ?_
  intro h1 b1 x1 v1 ps1 fr1 hb1
  have hn1 := fr1.1
  (try simp only [aA.aE, aA.aC] at hn1 hb1)
  have fb1 : aR p b h h1 := aR.call (b1 := b) aO (by omega) fr1
  have hbl1 := ps1.aY
  simp only [List.foldl_cons, List.foldl_nil] at ps1
  generalize acc ++ t.text ++ (⟨#[58, 32]⟩ :ByteArray) = acc1 at ps1 hq hl
  refine QL (QV (Ma (w:=Mu (w:=MJ eH (w:=cS (t := t) (i := 0) (hv.mono aB (fun j hj hlt => ⟨hj, bB⟩)) (by omega) (by omega) fun h2 v2 m2 e2 g2 k2 nv2 => ?_)))))
  have hn2 := g2.1
  (try simp only [aA.aE, aA.aC] at hn2)
  refine MJ wI (w:=c.stmt (t := aW t 0) (b := b1) (d := d) (acc := acc1) ⟨by omega, by omega⟩ (w.eF 0) aP (nv2.mono aB (fun j hj hlt => ⟨hj, bB⟩)) bI ?_)
  intro h3 b3 x3 v3 ps3 fr3 hb3
  have hn3 := fr3.1
  (try simp only [aA.aE, aA.aC] at hn3 hb3)
  have fb3 : aR p b h h3 := aR.call (b1 := b1) aO (by omega) fr3
  have hbl3 := ps3.aY
  generalize r.stmt d (aW t 0) acc1 = acc3 at ps3 hq hl
  refine QL ?_
  refine ⟨_, aM, ?_⟩
  exact hq _ b3 _ _ ps3 (aR.out fb3) (by omega)
 ·simp only [‹¬ t.kind = 16›, ‹¬ t.kind = 17›, ‹¬ t.kind = 18›, ‹¬ t.kind = 19›, ‹¬ t.kind = 20›, ‹¬ t.kind = 21›, ‹¬ t.kind = 22›, ‹¬ t.kind = 23›, ‹¬ t.kind = 25›, ‹¬ t.kind = 35›, or_false, if_false] at hl hq
  by_cases hz : t.kind = 0
  ·have hsm : jW r d t acc = acc ++ (⟨#[63]⟩ :ByteArray) := by unfold jW; simp only [hz, Int.reduceEq, if_false]
   rw [hsm] at hl hq
   refine QJ aLs ?_
   refine aFy (d := d) c hz hlen (b := b) (acc := acc) aP (hv.mono aB (fun j hj hlt => ⟨hj, bB⟩)) bI ?_
   intro h1 b1 x1 v1 ps1 fr1 hb1
   have hn1 := fr1.1
   (try simp only [aA.aE, aA.aC] at hn1 hb1)
   have fb1 : aR p b h h1 := aR.call (b1 := b) aO (by omega) fr1
   have hbl1 := ps1.aY
   generalize acc ++ (⟨#[63]⟩ :ByteArray) = acc1 at ps1 hq hl
   refine QL ?_
   refine ⟨_, aM, ?_⟩
   exact hq _ b1 _ _ ps1 (aR.out fb1) (by omega)
  ·have w := w.k hz
   refine QJ aLs ?_
   refine aIy c w (show 0 ≤ d ∧ d + (n + 1) ≤ 1000000 by omega) (b := b) (acc := acc) aP (hv.mono aB (fun j hj hlt => ⟨hj, bB⟩)) bI ?_
   intro h1 b1 x1 v1 ps1 fr1 hb1
   have hn1 := fr1.1
   (try simp only [aA.aE, aA.aC] at hn1 hb1)
   have fb1 : aR p b h h1 := aR.call (b1 := b) aO (by omega) fr1
   have hbl1 := ps1.aY
   generalize jW r d t acc = acc1 at ps1 hq hl
   refine QL ?_
   refine ⟨_, aM, ?_⟩
   exact hq _ b1 _ _ ps1 (aR.out fb1) (by omega)

end Go.Proofs.ZL
end
