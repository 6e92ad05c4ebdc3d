/- The printer on the heap, fourth part: expressions, files; the law's walk. -/
import Derived.Test.YtpdkdgfknanipaaGreatDoorYX6
import Derived.Test.YtpdkdgfknanipaaGreatDoorYE1
import Derived.Test.YtpdkdgfknanipaaGreatDoorYE2
section
open Go Go.Am
namespace Go.Proofs.ZL
set_option maxRecDepth 100000
set_option linter.unusedSimpArgs false
set_option linter.unusedVariables false
set_option maxHeartbeats 4000000
variable {h : aA} {Q : bR → Prop} {L : List Tok} {p : Nat} {hd : Bool} {src : ByteArray}
theorem aJw {n : Nat} {r : Pr} (c : CPr n r) : CE 29 (n + 1) (pN r) := by
 intro t p b d acc v m es h Q hd ⟨hft, hwt, hfu⟩ ps hv hl hq
 have w : Wr n t := ⟨hft, hwt, hfu⟩
 have hlen := w.len
 have hmk := hv.nD
 subst hmk
 have hp := ps.lt
 have hbl := ps.aY
 have htsz := hft.gd.sz
 have htn := hft.gd.num
 unfold pN at hl hq
 refine Wk Tryz.func29 Tryz.ntmps29 (w:=QN (Mx (w:=QO (Mj (w:=Mt (w:=QL (Bk (QN (MD (w:=fun hh => Mb (w:=QQ (QV (Ma (w:=Mj (w:=Mt (w:=QK ?_))))))) (v:=fun hh => Mb (w:=QP (QN (MD (w:=fun hh => Mb (w:=QQ (QV (Ma (w:=Mj (w:=Mt (w:=QK ?_))))))) (v:=fun hh => Mb (w:=QP (QN (MD (w:=fun hh => Mb (w:=QQ (QV (Ma (w:=My (w:=QK ?_)))))) (v:=fun hh => Mb (w:=QP (QU (QN (MD (w:=fun hh => Mb (w:=QQ (UA (QR (QV (Ma (w:=Mj (w:=Mt (w:=My (w:=QK ?_)))))))))) (v:=fun hh => Mb (w:=QP (QV (MD (w:=fun hh => Mb (w:=QQ (QV (Ma (w:=Mj (w:=Mt (w:=My (w:=QK ?_)))))))) (v:=fun hh => Mb (w:=QP (QN (MD (w:=fun hh => Mb (w:=QQ (QN (Ma (w:=Mj (w:=Mt (w:=My (w:=QK ?_)))))))) (v:=fun hh => Mb (w:=QP (QN (MD (w:=fun hh => Mb (w:=QQ (QN (Ma (w:=My (w:=QK ?_)))))) (v:=fun hh => Mb (w:=QP (QN (MD (w:=fun hh => Mb (w:=QQ (QN (Ma (w:=Mu (w:=QK ?_)))))) (v:=fun hh => Mb (w:=QP (QN (MD (w:=fun hh => Mb (w:=QQ (QV (Ma (w:=Mu (w:=QK ?_)))))) (v:=fun hh => Mb (w:=QP (QN (MD (w:=fun hh => Mb (w:=QQ (QN (Ma (w:=Mu (w:=QK ?_)))))) (v:=fun hh => Mb (w:=QP (QN (MD (w:=fun hh => Mb (w:=QQ (QN (Ma (w:=Mu (w:=QK ?_)))))) (v:=fun hh => Mb (w:=QP (QN (MD (w:=fun hh => Mb (w:=QQ (QN (Ma (w:=Mu (w:=QK ?_)))))) (v:=fun hh => Mb (w:=QP (QN (MD (w:=fun hh => Mb (w:=QQ (QN (Ma (w:=My (w:=QK ?_)))))) (v:=fun hh => Mb (w:=QP (QV (Ma (w:=Mu (w:=QK ?_))))))))))))))))))))))))))))))))))))))))))))))))))))))))))))))))
 ·simp only [hh, Int.reduceEq, if_false, if_true, or_true, true_or, or_false, false_or] at hl hq
  have w := w.k (by omega)
  refine QJ aQw ?_
  refine aS.ext (X := X) (o := aBd) (r := .ret (.string (xY t.num)) _) rfl (fun C => by simp only [aBd]; rw [if_pos ⟨by omega, by omega⟩]; rfl) ?_
  refine My (w:=MJ bQ (w:=bH (b := b) (d := d) (acc := acc) (ss := [xY t.num]) aP aB aB aB aD (by simp) bI ?_))
  intro h1 b1 x1 v1 ps1 fr1 hb1
  have hn1 := fr1.1
  (try simp only [aA.aE, aA.aC] at hn1 hb1)
  have fb1 : aR p b h h1 := aR.call (b1 := b) aO (by omega) fr1
  have hbl1 := ps1.aY
  simp only [List.foldl_cons, List.foldl_nil] at ps1
  generalize acc ++ xY t.num = acc1 at ps1 hq hl
  refine QL ?_
  refine ⟨_, aM, ?_⟩
  exact hq _ b1 _ _ ps1 (aR.out fb1) (by omega)
 ·simp only [hh, Int.reduceEq, if_false, if_true, or_true, true_or, or_false, false_or] at hl hq
  have w := w.k (by omega)
  refine QJ aQx ?_
  refine aIh (d := d) (b := b) (acc := acc) (by omega) aP hl ?_
  intro h1 b1 x1 v1 ps1 fr1 hb1
  have hn1 := fr1.1
  (try simp only [aA.aE, aA.aC] at hn1 hb1)
  have fb1 : aR p b h h1 := aR.call (b1 := b) aO (by omega) fr1
  have hbl1 := ps1.aY
  refine QL ?_
  refine ⟨_, aM, ?_⟩
  exact hq _ b1 _ _ ps1 (aR.out fb1) (by omega)
 ·simp only [hh, Int.reduceEq, if_false, if_true, or_true, true_or, or_false, false_or] at hl hq
  have w := w.k (by omega)
  refine QJ bQ ?_
  refine bH (b := b) (d := d) (acc := acc) (ss := [(⟨#[110, 105, 108]⟩ :ByteArray)]) aP aB aB aB aD (by simp) bI ?_
  intro h1 b1 x1 v1 ps1 fr1 hb1
  have hn1 := fr1.1
  (try simp only [aA.aE, aA.aC] at hn1 hb1)
  have fb1 : aR p b h h1 := aR.call (b1 := b) aO (by omega) fr1
  have hbl1 := ps1.aY
  simp only [List.foldl_cons, List.foldl_nil] at ps1
  generalize acc ++ (⟨#[110, 105, 108]⟩ :ByteArray) = acc1 at ps1 hq hl
  refine QL ?_
  refine ⟨_, aM, ?_⟩
  exact hq _ b1 _ _ ps1 (aR.out fb1) (by omega)
 ·simp only [hh, Int.reduceEq, if_false, if_true, or_true, true_or, or_false, false_or] at hl hq
  have w := w.k (by omega)
  refine QJ bQ ?_
  refine bH (b := b) (d := d) (acc := acc) (ss := [t.text]) aP aB aB aB aD (by simp) bI ?_
  intro h1 b1 x1 v1 ps1 fr1 hb1
  have hn1 := fr1.1
  (try simp only [aA.aE, aA.aC] at hn1 hb1)
  have fb1 : aR p b h h1 := aR.call (b1 := b) aO (by omega) fr1
  have hbl1 := ps1.aY
  simp only [List.foldl_cons, List.foldl_nil] at ps1
  generalize acc ++ t.text = acc1 at ps1 hq hl
  refine QL ?_
  refine ⟨_, aM, ?_⟩
  exact hq _ b1 _ _ ps1 (aR.out fb1) (by omega)
 ·simp only [hh, Int.reduceEq, if_false, if_true, or_true, true_or, or_false, false_or] at hl hq
  have w := w.k (by omega)
  refine QJ bQ ?_
  refine bH (b := b) (d := d) (acc := acc) (ss := [t.text]) aP aB aB aB aD (by simp) bI ?_
  intro h1 b1 x1 v1 ps1 fr1 hb1
  have hn1 := fr1.1
  (try simp only [aA.aE, aA.aC] at hn1 hb1)
  have fb1 : aR p b h h1 := aR.call (b1 := b) aO (by omega) fr1
  have hbl1 := ps1.aY
  simp only [List.foldl_cons, List.foldl_nil] at ps1
  generalize acc ++ t.text = acc1 at ps1 hq hl
  refine QL ?_
  refine ⟨_, aM, ?_⟩
  exact hq _ b1 _ _ ps1 (aR.out fb1) (by omega)
 ·simp only [hh, Int.reduceEq, if_false, if_true, or_true, true_or, or_false, false_or] at hl hq
  have w := w.k (by omega)
  refine QJ bQ ?_
  refine bH (b := b) (d := d) (acc := acc) (ss := [(⟨#[40]⟩ :ByteArray), t.text]) aP aB aB aB aD (by simp) bI ?_
  intro h1 b1 x1 v1 ps1 fr1 hb1
  have hn1 := fr1.1
  (try simp only [aA.aE, aA.aC] at hn1 hb1)
  have fb1 : aR p b h h1 := aR.call (b1 := b) aO (by omega) fr1
  have hbl1 := ps1.aY
  simp only [List.foldl_cons, List.foldl_nil] at ps1
  generalize acc ++ (⟨#[40]⟩ :ByteArray) ++ t.text = acc1 at ps1 hq hl
  refine QO (Ma (w:=Mu (w:=MJ eH (w:=cS (t := t) (i := 0) (hv.mono aB (fun j hj hlt => ⟨hj, bB⟩)) (by omega) (by omega) fun h2 v2 m2 e2 g2 k2 nv2 => ?_))))
  have hn2 := g2.1
  (try simp only [aA.aE, aA.aC] at hn2)
  refine MJ jP (w:=c.expr (t := aW t 0) (b := b1) (d := d) (acc := acc1) ⟨by omega, by omega⟩ (w.eF 0) aP (nv2.mono aB (fun j hj hlt => ⟨hj, bB⟩)) bI ?_)
  intro h3 b3 x3 v3 ps3 fr3 hb3
  have hn3 := fr3.1
  (try simp only [aA.aE, aA.aC] at hn3 hb3)
  have fb3 : aR p b h h3 := aR.call (b1 := b1) aO (by omega) fr3
  have hbl3 := ps3.aY
  generalize r.expr d (aW t 0) acc1 = acc3 at ps3 hq hl
  refine QL (QV (Ma (w:=My (w:=MJ bQ (w:=bH (b := b3) (d := d) (acc := acc3) (ss := [(⟨#[41]⟩ :ByteArray)]) aP aB aB aB aD (by simp) bI ?_)))))
  intro h4 b4 x4 v4 ps4 fr4 hb4
  have hn4 := fr4.1
  (try simp only [aA.aE, aA.aC] at hn4 hb4)
  have fb4 : aR p b h h4 := aR.call (b1 := b3) aO (by omega) fr4
  have hbl4 := ps4.aY
  simp only [List.foldl_cons, List.foldl_nil] at ps4
  generalize acc3 ++ (⟨#[41]⟩ :ByteArray) = acc4 at ps4 hq hl
  refine QL ?_
  refine ⟨_, aM, ?_⟩
  exact hq _ b4 _ _ ps4 (aR.out fb4) (by omega)
 ·simp only [hh, Int.reduceEq, if_false, if_true, or_true, true_or, or_false, false_or] at hl hq
  have w := w.k (by omega)
  refine QJ bQ ?_
  refine bH (b := b) (d := d) (acc := acc) (ss := [(⟨#[40]⟩ :ByteArray)]) aP aB aB aB aD (by simp) bI ?_
  intro h1 b1 x1 v1 ps1 fr1 hb1
  have hn1 := fr1.1
  (try simp only [aA.aE, aA.aC] at hn1 hb1)
  have fb1 : aR p b h h1 := aR.call (b1 := b) aO (by omega) fr1
  have hbl1 := ps1.aY
  simp only [List.foldl_cons, List.foldl_nil] at ps1
  generalize acc ++ (⟨#[40]⟩ :ByteArray) = acc1 at ps1 hq hl
  refine QO (Ma (w:=Mu (w:=Mj (w:=Mt (w:=Mh (w:=Mh (w:=MJ aG7 (w:=rU c w (show 0 ≤ d ∧ d + n ≤ 1000000 by omega) (b := b1) (acc := acc1) aP (hv.mono aB (fun j hj hlt => ⟨hj, bB⟩)) bI ?_))))))))
  intro h2 b2 x2 v2 ps2 fr2 hb2
  have hn2 := fr2.1
  (try simp only [aA.aE, aA.aC] at hn2 hb2)
  have fb2 : aR p b h h2 := aR.call (b1 := b1) aO (by omega) fr2
  have hbl2 := ps2.aY
  generalize jY r d t ((⟨#[32]⟩ :ByteArray) ++ t.text ++ (⟨#[32]⟩ :ByteArray)) acc1 = acc2 at ps2 hq hl
  refine QL (QV (Ma (w:=My (w:=MJ bQ (w:=bH (b := b2) (d := d) (acc := acc2) (ss := [(⟨#[41]⟩ :ByteArray)]) aP aB aB aB aD (by simp) bI ?_)))))
  intro h3 b3 x3 v3 ps3 fr3 hb3
  have hn3 := fr3.1
  (try simp only [aA.aE, aA.aC] at hn3 hb3)
  have fb3 : aR p b h h3 := aR.call (b1 := b2) aO (by omega) fr3
  have hbl3 := ps3.aY
  simp only [List.foldl_cons, List.foldl_nil] at ps3
  generalize acc2 ++ (⟨#[41]⟩ :ByteArray) = acc3 at ps3 hq hl
  refine QL ?_
  refine ⟨_, aM, ?_⟩
  exact hq _ b3 _ _ ps3 (aR.out fb3) (by omega)
 ·simp only [hh, Int.reduceEq, if_false, if_true, or_true, true_or, or_false, false_or] at hl hq
  have w := w.k (by omega)
  have hd1 : (if (t.kids.length : Int) < 1 then (t.kids.length : Int) else 1) = ((min 1 t.kids.length : Nat) : Int) := by split <;> omega
  refine QJ eH ?_
  refine cS (t := t) (i := 0) (hv.mono aB (fun j hj hlt => ⟨hj, bB⟩)) (by omega) (by omega) fun h1 v1 m1 e1 g1 k1 nv1 => ?_
  have hn1 := g1.1
  (try simp only [aA.aE, aA.aC] at hn1)
  refine MJ jP (w:=c.expr (t := aW t 0) (b := b) (d := d) (acc := acc) ⟨by omega, by omega⟩ (w.eF 0) aP (nv1.mono aB (fun j hj hlt => ⟨hj, bB⟩)) bI ?_)
  intro h2 b2 x2 v2 ps2 fr2 hb2
  have hn2 := fr2.1
  (try simp only [aA.aE, aA.aC] at hn2 hb2)
  have fb2 : aR p b h h2 := aR.call (b1 := b) aO (by omega) fr2
  have hbl2 := ps2.aY
  generalize r.expr d (aW t 0) acc = acc2 at ps2 hq hl
  refine QO (Ma (w:=My (w:=MJ bQ (w:=bH (b := b2) (d := d) (acc := acc2) (ss := [(⟨#[40]⟩ :ByteArray)]) aP aB aB aB aD (by simp) bI ?_))))
  intro h3 b3 x3 v3 ps3 fr3 hb3
  have hn3 := fr3.1
  (try simp only [aA.aE, aA.aC] at hn3 hb3)
  have fb3 : aR p b h h3 := aR.call (b1 := b2) aO (by omega) fr3
  have hbl3 := ps3.aY
  simp only [List.foldl_cons, List.foldl_nil] at ps3
  generalize acc2 ++ (⟨#[40]⟩ :ByteArray) = acc3 at ps3 hq hl
  refine QO (Ma (w:=Mj (w:=Mt (w:=Mj (w:=Mt (w:=Ms (w:=?_)))))));refine QK (WS.min (hk := ?_));refine QK ?_
  simp only [hd1]
  have nv5 : NV h3 (fun j => j < p) (aG t v t.kids.length es) t := hv.mono aB (fun j hj hlt => ⟨hj, bB⟩)
  have hdr : t.kids.drop (min 1 t.kids.length) = t.kids.drop 1 := by
   by_cases h0 : t.kids.length = 0
   ·rw [List.eq_nil_of_length_eq_zero h0]; rfl
   ·rw [show min 1 t.kids.length = 1 by omega]
  obtain ⟨vs5, ms5, es5, hsl, lv5⟩ := nv5.lv.lo (k := min 1 t.kids.length) (by omega)
  rw [hdr] at lv5
  apply WS.slice
  (· rfl); (· rfl); (· exact aL); (· rfl); (· rfl); (· exact hsl)
  refine Ma (w:=Mp (w:=MJ aCx (w:=?_)))
  refine rI (T := r.expr d) (c.m.expr d) (I := fun _ => True) jP (b := b3) (d := d) (acc := acc3) (fun _ _ => trivial) (fun hx _ ps' hv' hl' hq' => c.expr ⟨by omega, by omega⟩ (w.mem (List.mem_of_mem_drop hx)).x ps' hv' hl' hq') aP (lv5.mono aB (fun j hj hlt => ⟨hj, bB⟩)) (by (try simp only [List.length_take, List.length_drop]); omega) bI ?_
  intro h6 b6 x6 v6 ps6 fr6 hb6
  have hn6 := fr6.1
  (try simp only [aA.aE, aA.aC] at hn6 hb6)
  have fb6 : aR p b h h6 := aR.call (b1 := b3) aO (by omega) fr6
  have hbl6 := ps6.aY
  generalize fR (r.expr d) (t.kids.drop 1) acc3 = acc6 at ps6 hq hl
  refine QL (QV (Ma (w:=My (w:=MJ bQ (w:=bH (b := b6) (d := d) (acc := acc6) (ss := [(⟨#[41]⟩ :ByteArray)]) aP aB aB aB aD (by simp) bI ?_)))))
  intro h7 b7 x7 v7 ps7 fr7 hb7
  have hn7 := fr7.1
  (try simp only [aA.aE, aA.aC] at hn7 hb7)
  have fb7 : aR p b h h7 := aR.call (b1 := b6) aO (by omega) fr7
  have hbl7 := ps7.aY
  simp only [List.foldl_cons, List.foldl_nil] at ps7
  generalize acc6 ++ (⟨#[41]⟩ :ByteArray) = acc7 at ps7 hq hl
  refine QL ?_
  refine ⟨_, aM, ?_⟩
  exact hq _ b7 _ _ ps7 (aR.out fb7) (by omega)
 ·simp only [hh, Int.reduceEq, if_false, if_true, or_true, true_or, or_false, false_or] at hl hq
  have w := w.k (by omega)
  refine QJ aQy ?_
  refine aCp c w (show 0 ≤ d ∧ d + (n + 1) ≤ 1000000 by omega) (b := b) (acc := acc) aP (hv.mono aB (fun j hj hlt => ⟨hj, bB⟩)) bI ?_
  intro h1 b1 x1 v1 ps1 fr1 hb1
  have hn1 := fr1.1
  (try simp only [aA.aE, aA.aC] at hn1 hb1)
  have fb1 : aR p b h h1 := aR.call (b1 := b) aO (by omega) fr1
  have hbl1 := ps1.aY
  generalize gJ r d t acc = acc1 at ps1 hq hl
  refine QL ?_
  refine ⟨_, aM, ?_⟩
  exact hq _ b1 _ _ ps1 (aR.out fb1) (by omega)
 ·simp only [hh, Int.reduceEq, if_false, if_true, or_true, true_or, or_false, false_or] at hl hq
  have w := w.k (by omega)
  refine QJ aG7 ?_
  refine rU c w (show 0 ≤ d ∧ d + n ≤ 1000000 by omega) (b := b) (acc := acc) aP (hv.mono aB (fun j hj hlt => ⟨hj, bB⟩)) bI ?_
  intro h1 b1 x1 v1 ps1 fr1 hb1
  have hn1 := fr1.1
  (try simp only [aA.aE, aA.aC] at hn1 hb1)
  have fb1 : aR p b h h1 := aR.call (b1 := b) aO (by omega) fr1
  have hbl1 := ps1.aY
  generalize jY r d t (⟨#[91]⟩ :ByteArray) acc = acc1 at ps1 hq hl
  refine QL (QV (Ma (w:=My (w:=MJ bQ (w:=bH (b := b1) (d := d) (acc := acc1) (ss := [(⟨#[93]⟩ :ByteArray)]) aP aB aB aB aD (by simp) bI ?_)))))
  intro h2 b2 x2 v2 ps2 fr2 hb2
  have hn2 := fr2.1
  (try simp only [aA.aE, aA.aC] at hn2 hb2)
  have fb2 : aR p b h h2 := aR.call (b1 := b1) aO (by omega) fr2
  have hbl2 := ps2.aY
  simp only [List.foldl_cons, List.foldl_nil] at ps2
  generalize acc1 ++ (⟨#[93]⟩ :ByteArray) = acc2 at ps2 hq hl
  refine QL ?_
  refine ⟨_, aM, ?_⟩
  exact hq _ b2 _ _ ps2 (aR.out fb2) (by omega)
 ·simp only [hh, Int.reduceEq, if_false, if_true, or_true, true_or, or_false, false_or] at hl hq
  have w := w.k (by omega)
  refine QJ eH ?_
  refine cS (t := t) (i := 0) (hv.mono aB (fun j hj hlt => ⟨hj, bB⟩)) (by omega) (by omega) fun h1 v1 m1 e1 g1 k1 nv1 => ?_
  have hn1 := g1.1
  (try simp only [aA.aE, aA.aC] at hn1)
  refine MJ jP (w:=c.expr (t := aW t 0) (b := b) (d := d) (acc := acc) ⟨by omega, by omega⟩ (w.eF 0) aP (nv1.mono aB (fun j hj hlt => ⟨hj, bB⟩)) bI ?_)
  intro h2 b2 x2 v2 ps2 fr2 hb2
  have hn2 := fr2.1
  (try simp only [aA.aE, aA.aC] at hn2 hb2)
  have fb2 : aR p b h h2 := aR.call (b1 := b) aO (by omega) fr2
  have hbl2 := ps2.aY
  generalize r.expr d (aW t 0) acc = acc2 at ps2 hq hl
  refine QO (Ma (w:=My (w:=MJ bQ (w:=bH (b := b2) (d := d) (acc := acc2) (ss := [(⟨#[91]⟩ :ByteArray)]) aP aB aB aB aD (by simp) bI ?_))))
  intro h3 b3 x3 v3 ps3 fr3 hb3
  have hn3 := fr3.1
  (try simp only [aA.aE, aA.aC] at hn3 hb3)
  have fb3 : aR p b h h3 := aR.call (b1 := b2) aO (by omega) fr3
  have hbl3 := ps3.aY
  simp only [List.foldl_cons, List.foldl_nil] at ps3
  generalize acc2 ++ (⟨#[91]⟩ :ByteArray) = acc3 at ps3 hq hl
  refine QO (Ma (w:=Mu (w:=MJ eH (w:=cS (t := t) (i := 1) (hv.mono aB (fun j hj hlt => ⟨hj, bB⟩)) (by omega) (by omega) fun h4 v4 m4 e4 g4 k4 nv4 => ?_))))
  have hn4 := g4.1
  (try simp only [aA.aE, aA.aC] at hn4)
  refine Ma (w:=Mp (w:=MJ aA0 (w:=?_)))
  refine mR (T := r.expr d) (t := aW t 1) jP (fun ps' hv' hl' hq' => c.expr ⟨by omega, by omega⟩ (w.eF 1) ps' hv' hl' hq') (b := b3) (d := d) (acc := acc3) aP (nv4.mono aB (fun j hj hlt => ⟨hj, bB⟩)) bI ?_
  intro h5 b5 x5 v5 ps5 fr5 hb5
  have hn5 := fr5.1
  (try simp only [aA.aE, aA.aC] at hn5 hb5)
  have fb5 : aR p b h h5 := aR.call (b1 := b3) aO (by omega) fr5
  have hbl5 := ps5.aY
  generalize hJ (r.expr d) (aW t 1) acc3 = acc5 at ps5 hq hl
  refine QO (Ma (w:=My (w:=MJ bQ (w:=bH (b := b5) (d := d) (acc := acc5) (ss := [(⟨#[58]⟩ :ByteArray)]) aP aB aB aB aD (by simp) bI ?_))))
  intro h6 b6 x6 v6 ps6 fr6 hb6
  have hn6 := fr6.1
  (try simp only [aA.aE, aA.aC] at hn6 hb6)
  have fb6 : aR p b h h6 := aR.call (b1 := b5) aO (by omega) fr6
  have hbl6 := ps6.aY
  simp only [List.foldl_cons, List.foldl_nil] at ps6
  generalize acc5 ++ (⟨#[58]⟩ :ByteArray) = acc6 at ps6 hq hl
  refine QO (Ma (w:=Mu (w:=MJ eH (w:=cS (t := t) (i := 2) (hv.mono aB (fun j hj hlt => ⟨hj, bB⟩)) (by omega) (by omega) fun h7 v7 m7 e7 g7 k7 nv7 => ?_))))
  have hn7 := g7.1
  (try simp only [aA.aE, aA.aC] at hn7)
  refine Ma (w:=Mp (w:=MJ aA0 (w:=?_)))
  refine mR (T := r.expr d) (t := aW t 2) jP (fun ps' hv' hl' hq' => c.expr ⟨by omega, by omega⟩ (w.eF 2) ps' hv' hl' hq') (b := b6) (d := d) (acc := acc6) aP (nv7.mono aB (fun j hj hlt => ⟨hj, bB⟩)) bI ?_
  intro h8 b8 x8 v8 ps8 fr8 hb8
  have hn8 := fr8.1
  (try simp only [aA.aE, aA.aC] at hn8 hb8)
  have fb8 : aR p b h h8 := aR.call (b1 := b6) aO (by omega) fr8
  have hbl8 := ps8.aY
  generalize hJ (r.expr d) (aW t 2) acc6 = acc8 at ps8 hq hl
  refine QL (QV (Ma (w:=My (w:=MJ bQ (w:=bH (b := b8) (d := d) (acc := acc8) (ss := [(⟨#[93]⟩ :ByteArray)]) aP aB aB aB aD (by simp) bI ?_)))))
  intro h9 b9 x9 v9 ps9 fr9 hb9
  have hn9 := fr9.1
  (try simp only [aA.aE, aA.aC] at hn9 hb9)
  have fb9 : aR p b h h9 := aR.call (b1 := b8) aO (by omega) fr9
  have hbl9 := ps9.aY
  simp only [List.foldl_cons, List.foldl_nil] at ps9
  generalize acc8 ++ (⟨#[93]⟩ :ByteArray) = acc9 at ps9 hq hl
  refine QL ?_
  refine ⟨_, aM, ?_⟩
  exact hq _ b9 _ _ ps9 (aR.out fb9) (by omega)
 ·simp only [hh, Int.reduceEq, if_false, if_true, or_true, true_or, or_false, false_or] at hl hq
  have w := w.k (by omega)
  refine QJ eH ?_
  refine cS (t := t) (i := 0) (hv.mono aB (fun j hj hlt => ⟨hj, bB⟩)) (by omega) (by omega) fun h1 v1 m1 e1 g1 k1 nv1 => ?_
  have hn1 := g1.1
  (try simp only [aA.aE, aA.aC] at hn1)
  refine MJ jP (w:=c.expr (t := aW t 0) (b := b) (d := d) (acc := acc) ⟨by omega, by omega⟩ (w.eF 0) aP (nv1.mono aB (fun j hj hlt => ⟨hj, bB⟩)) bI ?_)
  intro h2 b2 x2 v2 ps2 fr2 hb2
  have hn2 := fr2.1
  (try simp only [aA.aE, aA.aC] at hn2 hb2)
  have fb2 : aR p b h h2 := aR.call (b1 := b) aO (by omega) fr2
  have hbl2 := ps2.aY
  generalize r.expr d (aW t 0) acc = acc2 at ps2 hq hl
  refine QL (QV (Ma (w:=Mj (w:=Mt (w:=My (w:=MJ bQ (w:=bH (b := b2) (d := d) (acc := acc2) (ss := [(⟨#[46]⟩ :ByteArray), t.text]) aP aB aB aB aD (by simp) bI ?_)))))))
  intro h3 b3 x3 v3 ps3 fr3 hb3
  have hn3 := fr3.1
  (try simp only [aA.aE, aA.aC] at hn3 hb3)
  have fb3 : aR p b h h3 := aR.call (b1 := b2) aO (by omega) fr3
  have hbl3 := ps3.aY
  simp only [List.foldl_cons, List.foldl_nil] at ps3
  generalize acc2 ++ (⟨#[46]⟩ :ByteArray) ++ t.text = acc3 at ps3 hq hl
  refine QL ?_
  refine ⟨_, aM, ?_⟩
  exact hq _ b3 _ _ ps3 (aR.out fb3) (by omega)
 ·simp only [hh, Int.reduceEq, if_false, if_true, or_true, true_or, or_false, false_or] at hl hq
  have w := w.k (by omega)
  refine QJ bQ ?_
  refine bH (b := b) (d := d) (acc := acc) (ss := [(⟨#[102, 117, 110, 99]⟩ :ByteArray)]) aP aB aB aB aD (by simp) bI ?_
  intro h1 b1 x1 v1 ps1 fr1 hb1
  have hn1 := fr1.1
  (try simp only [aA.aE, aA.aC] at hn1 hb1)
  have fb1 : aR p b h h1 := aR.call (b1 := b) aO (by omega) fr1
  have hbl1 := ps1.aY
  simp only [List.foldl_cons, List.foldl_nil] at ps1
  generalize acc ++ (⟨#[102, 117, 110, 99]⟩ :ByteArray) = acc1 at ps1 hq hl
  refine QL (QV (Ma (w:=Mu (w:=MJ aPu (w:=uJ c w (show 0 ≤ d ∧ d + (n + 1) ≤ 1000000 by omega) (b := b1) (acc := acc1) aP (hv.mono aB (fun j hj hlt => ⟨hj, bB⟩)) bI ?_)))))
  intro h2 b2 x2 v2 ps2 fr2 hb2
  have hn2 := fr2.1
  (try simp only [aA.aE, aA.aC] at hn2 hb2)
  have fb2 : aR p b h h2 := aR.call (b1 := b1) aO (by omega) fr2
  have hbl2 := ps2.aY
  generalize dK r d t acc1 = acc2 at ps2 hq hl
  refine QL ?_
  refine ⟨_, aM, ?_⟩
  exact hq _ b2 _ _ ps2 (aR.out fb2) (by omega)
 ·simp only [‹¬ t.kind = 36›, ‹¬ t.kind = 37›, ‹¬ t.kind = 39›, ‹¬ t.kind = 38›, ‹¬ t.kind = 40›, ‹¬ t.kind = 41›, ‹¬ t.kind = 42›, ‹¬ t.kind = 43›, ‹¬ t.kind = 44›, ‹¬ t.kind = 45›, ‹¬ t.kind = 46›, ‹¬ t.kind = 47›, ‹¬ t.kind = 48›, or_false, if_false] at hl hq
  refine QJ aQz ?_
  refine aC9 c w (show 0 ≤ d ∧ d + (n + 1) ≤ 1000000 by omega) (b := b) (acc := acc) aP (hv.mono aB (fun j hj hlt => ⟨hj, bB⟩)) bI ?_
  intro h1 b1 x1 v1 ps1 fr1 hb1
  have hn1 := fr1.1
  (try simp only [aA.aE, aA.aC] at hn1 hb1)
  have fb1 : aR p b h h1 := aR.call (b1 := b) aO (by omega) fr1
  have hbl1 := ps1.aY
  generalize fS r d t acc = acc1 at ps1 hq hl
  refine QL ?_
  refine ⟨_, aM, ?_⟩
  exact hq _ b1 _ _ ps1 (aR.out fb1) (by omega)

theorem zW : ∀ n, CPr n (prN n)
 | 0 => ⟨aBy 0, fun {t} {p} {b} {d} {acc} {v} {m} {es} {h} {Q} hf => absurd hf.2.2.1 (by omega), fun {t} {p} {b} {d} {acc} {v} {m} {es} {h} {Q} _ hf => absurd hf.2.2.1 (by omega), fun {t} {p} {b} {d} {acc} {v} {m} {es} {h} {Q} _ hf => absurd hf.2.2.1 (by omega)⟩
 | n + 1 => ⟨aBy (n + 1), aN6 (zW n), aJw (zW n), aK6 (zW n)⟩

theorem lU {p : Prop} (h : p := by ((try simp only [List.foldl_cons, List.foldl_nil]); refine Nat.le_trans ?_ hl; (repeat' (with_reducible first | exact Nat.le_refl _ | refine Nat.le_trans ?_ (aHt c.m _ _) | refine Nat.le_trans ?_ (wR c.m _ _) | refine Nat.le_trans ?_ (oJ c.m _ _) | refine Nat.le_trans ?_ (rJ c.m _ _ _) | refine Nat.le_trans ?_ (cZ _ _))))) : p := h
theorem aR.lv {p b : Nat} {h h' : aA} {v : Option Addr} {m es : Nat} {l : List Nd} (f : aR p b h h') (hp : p < h.next) (hpb : p ≤ b) (lv : LV h (fun j => j < p) v m es l) : LV h' (fun j => j < p) v m es l :=
 lv.mono f.1 fun j hj hlt => ⟨hj, f.2 j hlt (by omega) (by omega)⟩

theorem aJy {n : Nat} {r : Pr} {t : Nd} {p b : Nat} {acc : ByteArray} {v : Option Addr} {m es : Nat} (c : CPr n r) (w : Wks (n + 1) t) (hn : n + 1 ≤ 1000000) (ps : gI h p b 0 acc) (hv : NV h (fun j => j < p) (aG t v m es) t) (hl : (eZ r t.kids acc).size ≤ o5) (hq : kO p b 0 h (eZ r t.kids acc) Q) : aS Tryz.prog G X 22 [pV p, .agg (aG t v m es).toArray] h Q := by
 have hlen := w.len
 have hmk := hv.nD
 subst hmk
 have hp := ps.lt
 have hbl := ps.aY
 have hk : ∀ u ∈ t.kids, Wks n u := fun u hu => w.mem hu
 have hlv := hv.lv
 generalize hA : eZ r t.kids acc = A at *
 generalize hd : (0 : Int) = d at ps hq
 generalize hlk : t.kids = l at *
 have hQ := hq
 have hlA := hl
 clear hq hl
 refine Wk Tryz.func22 Tryz.ntmps22 (w:=QN (Mx (w:=QO (Mj (w:=Mt (w:=Ms (w:=Ma (w:=QL (Bk ?_)))))))))
 refine WC.cB hX (α := Nat × Nat × ByteArray) (m := fun a => l.length - a.1) (Inv := fun a e h' => e 0 = some (pV p) ∧ e 9 = some (.slice v l.length es) ∧ e 10 = some (.int .i64 l.length) ∧ e 11 = some (.int .i64 a.1) ∧ gI h' p a.2.1 d a.2.2 ∧ aR p b h h' ∧ (a.2.1 = b ∨ h.next ≤ a.2.1) ∧ a.1 ≤ l.length ∧ eZ r (l.drop a.1) a.2.2 = A)
  (0, b, acc) ⟨aL, aL, aL, aL, aP, aO, .inl rfl, Nat.zero_le _, hA⟩ ?_
 rintro ⟨i, b5, acc5⟩ env h5 ih ⟨e0, e9, e10, e11, ps5, fb5, hb5, hi5, hA5⟩
 simp only at e11 ps5 hb5 hi5 hA5
 have hn5 := fb5.1
 have hbl5 := ps5.aY
 have lv5 : LV h5 (fun j => j < p) v l.length es l := fb5.lv hp hbl.1 hlv
 refine QN (MF (w:=fun hh => QL (QU (QR (UA (QU (Bk (QN (QK ?_)))))))) (v:=fun hh => QL (QU (QS (WC.exit (aH ?_))))))
 ·have hi : i < l.length := by omega
  have hi1 := hi
  rw [List.drop_eq_getElem_cons hi] at hA5
  unfold eZ at hA5
  have hmem : l[i] ∈ l := List.getElem_mem hi
  have hku := hk _ hmem
  rcases lv5 with ⟨_, _, _, hnil⟩ | ⟨k1, off1, cells1, rfl, _, rfl, h41, h5k1, h61, h71, h81⟩
  ·rw [hnil] at hi1; simp at hi1
  have hvi1 := h81 i _ (List.getElem?_eq_getElem hi1)
  obtain ⟨bi1, ni1, esi1, hei1⟩ := hvi1.cells
  have hni1 : ni1 = l[i].kids.length := by rw [hei1] at hvi1; exact hvi1.nD
  subst hni1
  rw [hei1] at hvi1
  have hld1 : dB ((cells1.drop (off1 + (i : Int).toNat * 7)).take 7) = some (aG l[i] bi1 l[i].kids.length esi1) := by rw [show off1 + (i : Int).toNat * 7 = off1 + i * 7 by omega, hei1]; rfl
  refine WS.indexAddr (hk := ?_);refine QK ?_
  refine WS.pT (vs := aG l[i] bi1 l[i].kids.length esi1) (hc := ?_) (hv' := ?_) (hk := ?_)
  (· omega); (· exact hld1)
  generalize l[i] = u at *
  have hul := hku.len
  have hl : (eZ r (l.drop (i + 1)) (qS r u acc5)).size ≤ o5 := by rw [hA5]; exact hlA
  have hq := hA5
  unfold qS at hl hq
  refine Mw (w:=Mv (w:=QL (QU (QN (Mj (w:=Mt (w:=QL (Bk (QN (MD (w:=fun hh => Mb (w:=QQ (QN (Ma (w:=Mj (w:=Mt (w:=My (w:=QK ?_)))))))) (v:=fun hh => Mb (w:=QP (QN (MD (w:=fun hh => Mb (w:=QQ (QN (Ma (w:=My (w:=QK ?_)))))) (v:=fun hh => Mb (w:=QP (QN (MD (w:=fun hh => Mb (w:=QQ (QN (Ma (w:=Mj (w:=Mt (w:=My (w:=QK ?_)))))))) (v:=fun hh => Mb (w:=QP (QV (Ma (w:=My (w:=QK ?_))))))))))))))))))))))))
  ·simp only [hh, Int.reduceEq, if_false, if_true] at hl hq
   refine QJ bQ ?_
   refine bH (b := b5) (d := d) (acc := acc5) (ss := [(⟨#[116, 121, 112, 101, 32]⟩ :ByteArray), u.text, (⟨#[32, 115, 116, 114, 117, 99, 116, 32, 123, 10]⟩ :ByteArray)]) aP aB aB aB aD (by simp) lU ?_
   intro h6 b6 x6 v6 ps6 fr6 hb6
   have hn6 := fr6.1
   (try simp only [aA.aE, aA.aC] at hn6 hb6)
   have fb6 : aR p b h h6 := aR.call (b1 := b5) aO (by omega) fr6
   have hbl6 := ps6.aY
   simp only [List.foldl_cons, List.foldl_nil] at ps6
   generalize acc5 ++ (⟨#[116, 121, 112, 101, 32]⟩ :ByteArray) ++ u.text ++ (⟨#[32, 115, 116, 114, 117, 99, 116, 32, 123, 10]⟩ :ByteArray) = acc6 at ps6 hq hl
   refine QL (QU (QN (Mj (w:=Mt (w:=Ms (w:=Ma (w:=QL (Bk ?_))))))))
   have lvu : LV h6 (fun j => j < p) bi1 u.kids.length esi1 u.kids := hvi1.lv.mono aB (fun j hj hlt => ⟨hj, bB⟩)
   generalize hF : eT r u.kids acc6 = A2 at hl hq
   have hlF : A2.size ≤ o5 := by
    revert hl
    intro hl
    exact lU
   have hl9 := hl
   have hq9 := hq
   clear hl hq
   refine WC.cB hX (α := Nat × Nat × ByteArray) (m := fun a => u.kids.length - a.1) (Inv := fun a e h' => e 0 = some (pV p) ∧ e 9 = some (.slice (some ⟨k1, off1, none⟩) l.length 7) ∧ e 10 = some (.int .i64 l.length) ∧ e 11 = some (.int .i64 i) ∧ e 28 = some (.slice bi1 u.kids.length esi1) ∧ e 29 = some (.int .i64 u.kids.length) ∧ e 30 = some (.int .i64 a.1) ∧ gI h' p a.2.1 d a.2.2 ∧ aR p b h h' ∧ (a.2.1 = b ∨ h.next ≤ a.2.1) ∧ a.1 ≤ u.kids.length ∧ LV h' (fun j => j < p) bi1 u.kids.length esi1 u.kids ∧ eT r (u.kids.drop a.1) a.2.2 = A2)
    (0, b6, acc6) ⟨aL, aL, aL, aL, aL, aL, aL, aP, aO, by simp only; omega, Nat.zero_le _, lvu, hF⟩ ?_
   rintro ⟨k, b7, acc7⟩ env7 h7 ih2 ⟨e0', e9', e10', e11', e28', e29', e30', ps7, fb7, hb7, hk7, lv7, hA7⟩
   simp only at e30' ps7 hb7 hk7 hA7
   have hn7 := fb7.1
   have hbl7 := ps7.aY
   have lv7' := lv7
   refine QN (MF (w:=fun hh => QL (QU (QR (UA (QU (Bk (QN (QK ?_)))))))) (v:=fun hh => QL (QU (QS (WC.exit (aH (QV (Ma (w:=My (w:=QK ?_))))))))))
   ·have hi2 : k < u.kids.length := by omega
    rw [List.drop_eq_getElem_cons hi2] at hA7
    unfold eT at hA7
    have hmem2 : u.kids[k] ∈ u.kids := List.getElem_mem hi2
    have hkf := hku.up.mem hmem2
    rcases lv7 with ⟨_, _, _, hnil⟩ | ⟨k2, off2, cells2, rfl, _, rfl, h42, h5k2, h62, h72, h82⟩
    ·rw [hnil] at hi2; simp at hi2
    have hvi2 := h82 k _ (List.getElem?_eq_getElem hi2)
    obtain ⟨bi2, ni2, esi2, hei2⟩ := hvi2.cells
    have hni2 : ni2 = u.kids[k].kids.length := by rw [hei2] at hvi2; exact hvi2.nD
    subst hni2
    rw [hei2] at hvi2
    have hld2 : dB ((cells2.drop (off2 + (k : Int).toNat * 7)).take 7) = some (aG u.kids[k] bi2 u.kids[k].kids.length esi2) := by rw [show off2 + (k : Int).toNat * 7 = off2 + k * 7 by omega, hei2]; rfl
    refine WS.indexAddr (hk := ?_);refine QK ?_
    refine WS.pT (vs := aG u.kids[k] bi2 u.kids[k].kids.length esi2) (hc := ?_) (hv' := ?_) (hk := ?_)
    (· omega); (· exact hld2)
    generalize u.kids[k] = f at *
    have hfl := hkf.len
    have hl : (eT r (u.kids.drop (k + 1)) (eJ r f (acc7 ++ (⟨#[9]⟩ :ByteArray)) ++ (⟨#[10]⟩ :ByteArray))).size ≤ o5 := by rw [hA7]; exact hlF
    have hq := hA7
    refine Mw (w:=Mv (w:=QO (Ma (w:=My (w:=MJ bQ (w:=bH (b := b7) (d := d) (acc := acc7) (ss := [(⟨#[9]⟩ :ByteArray)]) aP aB aB aB aD (by simp) lU ?_))))))
    intro h8 b8 x8 v8 ps8 fr8 hb8
    have hn8 := fr8.1
    (try simp only [aA.aE, aA.aC] at hn8 hb8)
    have fb8 : aR p b h h8 := aR.call (b1 := b7) aO (by omega) fr8
    have hbl8 := ps8.aY
    simp only [List.foldl_cons, List.foldl_nil] at ps8
    generalize acc7 ++ (⟨#[9]⟩ :ByteArray) = acc8 at ps8 hq hl
    refine QO (Ma (w:=Mu (w:=MJ aJu (w:=sG (d := d) c hkf.up (b := b8) (acc := acc8) aP (hvi2.mono aB (fun j hj hlt => ⟨hj, bB⟩)) lU ?_))))
    intro h9 b9 x9 v9 ps9 fr9 hb9
    have hn9 := fr9.1
    (try simp only [aA.aE, aA.aC] at hn9 hb9)
    have fb9 : aR p b h h9 := aR.call (b1 := b8) aO (by omega) fr9
    have hbl9 := ps9.aY
    generalize eJ r f acc8 = acc9 at ps9 hq hl
    refine QL (QV (Ma (w:=My (w:=MJ bQ (w:=bH (b := b9) (d := d) (acc := acc9) (ss := [(⟨#[10]⟩ :ByteArray)]) aP aB aB aB aD (by simp) lU ?_)))))
    intro h10 b10 x10 v10 ps10 fr10 hb10
    have hn10 := fr10.1
    (try simp only [aA.aE, aA.aC] at hn10 hb10)
    have fb10 : aR p b h h10 := aR.call (b1 := b9) aO (by omega) fr10
    have hbl10 := ps10.aY
    simp only [List.foldl_cons, List.foldl_nil] at ps10
    generalize acc9 ++ (⟨#[10]⟩ :ByteArray) = acc10 at ps10 hq hl
    refine QL (QV (Mf (w:=Ma (w:=QL ?_))))
    exact ih2 (k + 1, b10, acc10) _ _ (by simp only; omega) ⟨aL, aL, aL, aL, aL, aL, rfl, aP, aO, by simp only; omega, hi2, lv7'.mono aB (fun j hj hlt => ⟨hj, (fb10.2 j (by omega) (by omega) (by omega)).trans (fb7.2 j (by omega) (by omega) (by omega)).symm⟩), hq⟩
   ·rw [List.drop_of_length_le (by omega)] at hA7
    unfold eT at hA7
    subst hA7
    have hl := hl9
    have hq := hq9
    refine QJ bQ ?_
    refine bH (b := b7) (d := d) (acc := acc7) (ss := [(⟨#[125]⟩ :ByteArray)]) aP aB aB aB aD (by simp) lU ?_
    intro h8 b8 x8 v8 ps8 fr8 hb8
    have hn8 := fr8.1
    (try simp only [aA.aE, aA.aC] at hn8 hb8)
    have fb8 : aR p b h h8 := aR.call (b1 := b7) aO (by omega) fr8
    have hbl8 := ps8.aY
    simp only [List.foldl_cons, List.foldl_nil] at ps8
    generalize acc7 ++ (⟨#[125]⟩ :ByteArray) = acc8 at ps8 hq hl
    refine QL (QV (Ma (w:=My (w:=MJ bQ (w:=bH (b := b8) (d := d) (acc := acc8) (ss := [(⟨#[10]⟩ :ByteArray)]) aP aB aB aB aD (by simp) lU ?_)))))
    intro h9 b9 x9 v9 ps9 fr9 hb9
    have hn9 := fr9.1
    (try simp only [aA.aE, aA.aC] at hn9 hb9)
    have fb9 : aR p b h h9 := aR.call (b1 := b8) aO (by omega) fr9
    have hbl9 := ps9.aY
    simp only [List.foldl_cons, List.foldl_nil] at ps9
    generalize acc8 ++ (⟨#[10]⟩ :ByteArray) = acc9 at ps9 hq hl
    refine QL (QV (Mf (w:=Ma (w:=QL ?_))))
    exact ih (i + 1, b9, acc9) _ _ (by simp only; omega) ⟨aL, aL, aL, rfl, aP, aO, by simp only; omega, hi, hq⟩
  ·simp only [hh, Int.reduceEq, if_false, if_true] at hl hq
   refine QJ bQ ?_
   refine bH (b := b5) (d := d) (acc := acc5) (ss := [(⟨#[118, 97, 114, 32]⟩ :ByteArray)]) aP aB aB aB aD (by simp) lU ?_
   intro h6 b6 x6 v6 ps6 fr6 hb6
   have hn6 := fr6.1
   (try simp only [aA.aE, aA.aC] at hn6 hb6)
   have fb6 : aR p b h h6 := aR.call (b1 := b5) aO (by omega) fr6
   have hbl6 := ps6.aY
   simp only [List.foldl_cons, List.foldl_nil] at ps6
   generalize acc5 ++ (⟨#[118, 97, 114, 32]⟩ :ByteArray) = acc6 at ps6 hq hl
   refine QL (QV (Ma (w:=Mu (w:=MJ aJu (w:=sG (d := d) c hku.up (b := b6) (acc := acc6) aP (hvi1.mono aB (fun j hj hlt => ⟨hj, bB⟩)) lU ?_)))))
   intro h7 b7 x7 v7 ps7 fr7 hb7
   have hn7 := fr7.1
   (try simp only [aA.aE, aA.aC] at hn7 hb7)
   have fb7 : aR p b h h7 := aR.call (b1 := b6) aO (by omega) fr7
   have hbl7 := ps7.aY
   generalize eJ r u acc6 = acc7 at ps7 hq hl
   refine QL (QV (Ma (w:=My (w:=MJ bQ (w:=bH (b := b7) (d := d) (acc := acc7) (ss := [(⟨#[10]⟩ :ByteArray)]) aP aB aB aB aD (by simp) lU ?_)))))
   intro h8 b8 x8 v8 ps8 fr8 hb8
   have hn8 := fr8.1
   (try simp only [aA.aE, aA.aC] at hn8 hb8)
   have fb8 : aR p b h h8 := aR.call (b1 := b7) aO (by omega) fr8
   have hbl8 := ps8.aY
   simp only [List.foldl_cons, List.foldl_nil] at ps8
   generalize acc7 ++ (⟨#[10]⟩ :ByteArray) = acc8 at ps8 hq hl
   refine QL (QV (Mf (w:=Ma (w:=QL ?_))))
   exact ih (i + 1, b8, acc8) _ _ (by simp only; omega) ⟨aL, aL, aL, rfl, aP, aO, by simp only; omega, hi, hq⟩
  ·simp only [hh, Int.reduceEq, if_false, if_true] at hl hq
   refine QJ bQ ?_
   refine bH (b := b5) (d := d) (acc := acc5) (ss := [(⟨#[102, 117, 110, 99, 32]⟩ :ByteArray), u.text]) aP aB aB aB aD (by simp) lU ?_
   intro h6 b6 x6 v6 ps6 fr6 hb6
   have hn6 := fr6.1
   (try simp only [aA.aE, aA.aC] at hn6 hb6)
   have fb6 : aR p b h h6 := aR.call (b1 := b5) aO (by omega) fr6
   have hbl6 := ps6.aY
   simp only [List.foldl_cons, List.foldl_nil] at ps6
   generalize acc5 ++ (⟨#[102, 117, 110, 99, 32]⟩ :ByteArray) ++ u.text = acc6 at ps6 hq hl
   refine QL (QV (Ma (w:=Mu (w:=QK ?_))))
   rw [show dK r 0 u = dK r d u by rw [hd]] at hl hq
   refine QJ aPu ?_
   refine uJ c hku.up (show 0 ≤ d ∧ d + ((n : Int) + 1) ≤ 1000000 by omega) (b := b6) (acc := acc6) aP (hvi1.mono aB (fun j hj hlt => ⟨hj, bB⟩)) lU ?_
   intro h7 b7 x7 v7 ps7 fr7 hb7
   have hn7 := fr7.1
   (try simp only [aA.aE, aA.aC] at hn7 hb7)
   have fb7 : aR p b h h7 := aR.call (b1 := b6) aO (by omega) fr7
   have hbl7 := ps7.aY
   generalize dK r d u acc6 = acc7 at ps7 hq hl
   refine QL (QV (Ma (w:=My (w:=MJ bQ (w:=bH (b := b7) (d := d) (acc := acc7) (ss := [(⟨#[10]⟩ :ByteArray)]) aP aB aB aB aD (by simp) lU ?_)))))
   intro h8 b8 x8 v8 ps8 fr8 hb8
   have hn8 := fr8.1
   (try simp only [aA.aE, aA.aC] at hn8 hb8)
   have fb8 : aR p b h h8 := aR.call (b1 := b7) aO (by omega) fr8
   have hbl8 := ps8.aY
   simp only [List.foldl_cons, List.foldl_nil] at ps8
   generalize acc7 ++ (⟨#[10]⟩ :ByteArray) = acc8 at ps8 hq hl
   refine QL (QV (Mf (w:=Ma (w:=QL ?_))))
   exact ih (i + 1, b8, acc8) _ _ (by simp only; omega) ⟨aL, aL, aL, rfl, aP, aO, by simp only; omega, hi, hq⟩
  ·simp only [‹¬ u.kind = 2›, ‹¬ u.kind = 3›, ‹¬ u.kind = 4›, if_false] at hl hq
   refine QJ bQ ?_
   refine bH (b := b5) (d := d) (acc := acc5) (ss := [(⟨#[63]⟩ :ByteArray)]) aP aB aB aB aD (by simp) lU ?_
   intro h7 b7 x7 v7 ps7 fr7 hb7
   have hn7 := fr7.1
   (try simp only [aA.aE, aA.aC] at hn7 hb7)
   have fb7 : aR p b h h7 := aR.call (b1 := b5) aO (by omega) fr7
   have hbl7 := ps7.aY
   simp only [List.foldl_cons, List.foldl_nil] at ps7
   generalize acc5 ++ (⟨#[63]⟩ :ByteArray) = acc7 at ps7 hq hl
   refine QL (QV (Ma (w:=My (w:=MJ bQ (w:=bH (b := b7) (d := d) (acc := acc7) (ss := [(⟨#[10]⟩ :ByteArray)]) aP aB aB aB aD (by simp) lU ?_)))))
   intro h8 b8 x8 v8 ps8 fr8 hb8
   have hn8 := fr8.1
   (try simp only [aA.aE, aA.aC] at hn8 hb8)
   have fb8 : aR p b h h8 := aR.call (b1 := b7) aO (by omega) fr8
   have hbl8 := ps8.aY
   simp only [List.foldl_cons, List.foldl_nil] at ps8
   generalize acc7 ++ (⟨#[10]⟩ :ByteArray) = acc8 at ps8 hq hl
   refine QL (QV (Mf (w:=Ma (w:=QL ?_))))
   exact ih (i + 1, b8, acc8) _ _ (by simp only; omega) ⟨aL, aL, aL, rfl, aP, aO, by simp only; omega, hi, hq⟩
 ·rw [List.drop_of_length_le (by omega)] at hA5
  unfold eZ at hA5
  subst hA5
  refine ⟨_, aM, ?_⟩
  exact hQ _ b5 _ _ ps5 (aR.out fb5) hb5

theorem aP9 {C : bK} {p b : Nat} {d : Int} {acc : ByteArray} (ps : gI h p b d acc) (hl : acc.size ≤ o5) : aB4 C [.pointer (some ⟨p, 0, none⟩)] h = some (.ret (.string acc) (h.put b none)) ∨ (acc = (⟨#[]⟩ :ByteArray) ∧ aB4 C [.pointer (some ⟨p, 0, none⟩)] h = some (.ret (.string acc) h)) := by
 obtain ⟨a, v, n, es, h1, h2, h3⟩ := ps.obj
 have hty := ps.ty
 rcases h3 with ⟨rfl, rfl, rfl, rfl, rfl⟩ | ⟨rfl, rfl, k3, rfl, k5, k6, k7, k8⟩
 ·refine .inr ⟨rfl, ?_⟩
  simp only [aB4, h1, hty, if_true]
 ·refine .inl ?_
  simp only [aB4, h1]
  rw [if_pos ⟨k3, (by trivial), by unfold o5 at hl; omega, hty, k7⟩]
  have hc : h.cells b 0 acc.size = some (j4 acc) := by
   simp only [aA.cells, k8]
   rw [if_pos (by rw [oE]; omega), List.drop_zero, List.take_of_length_le (by rw [oE]; exact Nat.le_refl _)]
  have hb : j4 acc = (acc.data.toList.map fun b => (b.toNat : Int)).map (Value.int .u8) := by unfold j4; rw [List.map_map]; rfl
  simp only [k8, hc]
  rw [hb, j5]
  simp only
  rw [if_pos]
  ·congr 3
   have := aB5 acc.data.toList
   unfold strOf at this
   rw [this]
  ·rw [List.all_eq_true]
   intro x hx
   obtain ⟨y, _, rfl⟩ := List.mem_map.1 hx
   have := y.toNat_lt
   simp only [decide_eq_true_eq]
   omega

theorem aEm {t : Nd} {S : Nat → Prop} {v : Option Addr} {m es : Nat} (hft : Ft t) (hw : jH t ≤ 50000) (hv : NV h S (aG t v m es) t) (hq : ∀ h', Gr h h' → Q (.ret (.string (qV 60000 t)) h')) : aS Tryz.prog G X 10 [.agg (aG t v m es).toArray] h Q := by
 have hsz := aEd hft hw
 have hlim : (qV 60000 t).size ≤ o5 := by unfold o5; omega
 generalize h0e : (((h.alloc (.cells false (aG t v m es))).alloc (.cells false [.pointer none, .slice none 0 0, .int .i64 0])).note (h.next + 1) (some 51)) = h0
 have hn0 : h0.next = h.next + 2 := by rw [← h0e]; rfl
 have hg0 : ∀ j, j < h.next → h0.obj j = h.obj j := fun j hj => by
  rw [← h0e, aA.eV]
  exact bX (by simp only [aA.aC]; omega) (bX (by omega) rfl)
 have ho0 : h0.obj (h.next + 1) = some (.cells false [.pointer none, .slice none 0 0, .int .i64 0]) := by
  rw [← h0e, aA.eV]
  exact cY
 have ht0 : h0.ty (h.next + 1) = some 51 := by
  rw [← h0e]
  simp only [aA.note, if_true]
 have ps : gI h0 (h.next + 1) (h.next + 1) 0 (⟨#[]⟩ :ByteArray) := ⟨by omega, ht0, none, none, 0, 0, ho0, .inl rfl, .inl ⟨rfl, rfl, rfl, rfl, rfl⟩⟩
 have nv0 : NV h0 (fun j => j < h.next + 1) (aG t v m es) t := hv.mono (by omega) fun j hj hlt => ⟨by omega, hg0 j hlt⟩
 have hf := aJy (n := 60000) (r := prN 60000) (zW 60000) ⟨hft, by omega, by omega⟩ (by omega) ps nv0 hlim
  (Q := fun x => ∃ h3 b3 v3, x = .ret v3 h3 ∧ gI h3 (h.next + 1) b3 0 (qV 60000 t) ∧ (∀ j, j < h.next → h3.obj j = h.obj j) ∧ h.next + 2 ≤ h3.next ∧ h.next ≤ b3)
  (fun h3 b3 x3 v3 ps3 fr3 hb3 => ⟨h3, b3, v3, rfl, ps3, fun j hj => by
   have h1 := fr3.2 j (by simp only [aA.aE]; omega) (by omega)
   rw [h1]
   exact (bF (by omega) rfl).trans (hg0 j hj), by have := fr3.1; simp only [aA.aE] at this; omega, by omega⟩)
 obtain ⟨k, x, hx, h3, b3, v3, rfl, ps3, hg3, hn3, hb3⟩ := aS.out hf
 cases k with
 | zero => exact absurd hx (by simp [bZ])
 | succ k =>
  have hcall : bZ Tryz.prog G X (k + 1) 22 [.pointer (some ⟨h.next + 1, 0, none⟩), .agg (aG t v m es).toArray] (((h.alloc (.cells false (aG t v m es).toArray.toList)).alloc (.cells false [.pointer none, .slice none 0 0, .int .i64 0])).note (h.next + 1) (some 51)) = some (.ret v3 h3) := by
   rw [show (aG t v m es).toArray.toList = aG t v m es from rfl, h0e]; exact hx
  have hstr : ∀ a h', bZ Tryz.prog G X (k + 1) 23 a h' = aB4 (bZ Tryz.prog G X k) a h' := fun a h' => rfl
  rcases aP9 (C := bZ Tryz.prog G X k) ps3 hlim with hs | ⟨he, hs⟩
  ·refine aS.aMx (X := X) (o := qU) (k := k + 1) (r := .ret (.string (qV 60000 t)) (h3.put b3 none)) rfl ?_ (hq _ ⟨by simp only [aA.aE]; omega, fun j hj => (bF (by omega) rfl).trans (hg3 j hj)⟩)
   simp only [qU]
   rw [if_pos (by rfl), hcall]
   simp only
   rw [hstr, hs]
  ·refine aS.aMx (X := X) (o := qU) (k := k + 1) (r := .ret (.string (qV 60000 t)) h3) rfl ?_ (hq _ ⟨by omega, fun j hj => hg3 j hj⟩)
   simp only [qU]
   rw [if_pos (by rfl), hcall]
   simp only
   rw [hstr, hs]

theorem aEk {t : Nd} {st p : Int} (hT : lC src = (t, st, p)) {h : aA} {Q : bR → Prop}
  (hq : ∀ h' b m es, Gr h h' → NV h' (fun j => h.next ≤ j) (aG t b m es) t → Q (.ret (.tuple #[.agg (aG t b m es).toArray, .agg #[.int .i64 st, .int .i64 p]]) h')) : aS Tryz.prog G X 12 [.string src] h Q :=
 aJf (n := 200000) (by omega) (by rw [(uQ src).1, hT]) hq

def aDz : ByteArray := (⟨#[102, 117, 110, 99, 32, 109, 97, 105, 110, 40, 41, 123, 120, 58, 61, 49, 43, 50, 42, 121, 59, 105, 102, 32, 120, 62, 51, 123, 114, 101, 116, 117, 114, 110, 125, 125]⟩ :ByteArray)
def aLn : ByteArray := (⟨#[102, 117, 110, 99, 32, 109, 97, 105, 110, 40, 41, 32, 123, 10, 9, 120, 32, 58, 61, 32, 40, 49, 32, 43, 32, 40, 50, 32, 42, 32, 121, 41, 41, 10, 9, 105, 102, 32, 40, 120, 32, 62, 32, 51, 41, 32, 123, 10, 9, 9, 114, 101, 116, 117, 114, 110, 10, 9, 125, 10, 125, 10]⟩ :ByteArray)
theorem aOm : (decide ((lC aDz).2.1 = 0) && decide (qV 60000 (lC aDz).1 = aLn)) = true := by decide +kernel

theorem aFr (hq : ∀ h', Gr h h' → Q (.ret (.bool true) h')) : aS Tryz.prog G X 8 [] h Q := by
 obtain ⟨tf, sf, pf, hF⟩ : ∃ t s p, lC aDz = (t, s, p) := ⟨_, _, _, rfl⟩
 have ha := aOm
 rw [hF, Bool.and_eq_true, decide_eq_true_eq, decide_eq_true_eq] at ha
 simp only at ha
 have ft := aBu (src := aDz) (by rw [hF]; exact ha.1)
 rw [hF] at ft
 refine Wk Tryz.func8 Tryz.ntmps8 (w:=QN (Mb (w:=QO (MJ aO5 (w:=aEk hF fun h1 b1 m1 es1 g1 nv1 => ?_)))))
 have hn1 := g1.1
 refine Ma (w:=Mq (w:=Mq (w:=Mw (w:=Mw (w:=Mv (w:=Mv (w:=QO (Mu (w:=MJ aOw (w:=aEm ⟨_, ft.1⟩ ft.2.1 (nv1.mono (S' := fun _ => True) aB (fun j hS hj => ⟨trivial, bB⟩)) fun h2 g2 => ?_))))))))))
 have hn2 := nx g2.1
 have G2 : Gr h h2 := (show Gr h _ from fG).trans g2
 rw [ha.2]
 clear ha hF g2
 unfold aLn
 refine MB (w:=fun hh => Mb (w:=QM ?_)) (v:=fun hh => ?_);rotate_left;exfalso;simp at hh
 refine ⟨_, aM, ?_⟩
 exact hq _ G2

theorem aRw {ks : List Nd} {i : Nat} {t : Nd} (h : (ks.map aGj)[i]? = some t) : ∃ u, ks[i]? = some u ∧ t.kind = u.kind := by
 rw [List.getElem?_map] at h
 cases hk : ks[i]? with
 | none => rw [hk] at h; cases h
 | some u => rw [hk] at h; cases h; exact ⟨u, rfl, aRg u⟩
theorem aSs {k : Int} {x : ByteArray} {num : Int} {ks : List Nd} (h : Fit k x num ks) : Fit k x num (ks.map aGj) where
 sz := h.sz
 num := h.num
 o9 := h.o9
 ne := h.ne
 recv := fun a b => by rw [List.length_map]; exact h.recv a b
 send := fun a b => by rw [List.length_map]; exact h.send a b
 last := fun a t ht => by rw [List.length_map] at ht; obtain ⟨u, h1, h2⟩ := aRw ht; rw [h2]; exact h.last a u h1
 fld := fun a t ht => by obtain ⟨u, h1, rfl⟩ := List.mem_map.1 ht; rw [aRg]; exact h.fld a u h1
 fn := fun a t ht => by obtain ⟨u, h1, h2⟩ := aRw ht; rw [h2]; exact h.fn a u h1
 new := fun a b t ht => by obtain ⟨u, h1, h2⟩ := aRw ht; rw [h2]; exact h.new a b u h1
 got := fun a b c t ht => by rw [List.length_map] at c; obtain ⟨u, h1, h2⟩ := aRw ht; rw [h2]; exact h.got a b c u h1
theorem aSu {m : Int} {t : Nd} (h : Tr m t) : Tr m (aGj t) := by
 induction h with
 | mk m kind text num pos cD ref kids h1 h2 h3 ih =>
  unfold aGj
  refine .mk _ _ _ _ _ _ _ _ (aSs h1) h2 fun u hu => ?_
  obtain ⟨v, hv, rfl⟩ := List.mem_map.1 hu
  exact ih v hv
theorem aSr {t : Nd} (h : Ft t) : Ft (aGj t) := let ⟨m, h⟩ := h; ⟨m, aSu h⟩

theorem aSa {b : Option Addr} {n es : Nat} (hn : n ≤ 1000000)
  (hb : (b = none ∧ n = 0 ∧ es = 0) ∨ ∃ i cells, b = some ⟨i, 0, none⟩ ∧ es = 7 ∧ i < h.next ∧ h.obj i = some (.cells false cells) ∧ n * 7 ≤ cells.length ∧ (cells.take (n * 7)).all (·.oneCell') = true)
  (hq : ∀ h' b', Gr h h' → ((b = none ∧ b' = none ∧ h' = h) ∨ ∃ i cells j cells', b = some ⟨i, 0, none⟩ ∧ h.obj i = some (.cells false cells) ∧ b' = some ⟨j, 0, none⟩ ∧ h.next ≤ j ∧ j < h'.next ∧ h'.obj j = some (.cells false cells') ∧ n * 7 ≤ cells'.length ∧ cells'.take (n * 7) = cells.take (n * 7)) → Q (.ret (.slice b' n es) h')) :
  aS Tryz.prog G X 31 [.slice b n es] h Q := by
 rcases hb with ⟨rfl, rfl, rfl⟩ | ⟨i, cells, rfl, rfl, hi, ho, hl, hall⟩
 ·refine Wk Tryz.func31 Tryz.ntmps31 (w:=?_)
  refine QN (Mb (w:=QL (QU (QN (Ma (w:=?_))))));refine QK (WS.eqG (h1 := ?_) (h2 := ?_));intro hh;refine QQ (QN (Mb (w:=QM ?_)));rotate_left;intro hh;exact Bool.noConfusion hh
  refine ⟨_, aM, ?_⟩
  exact hq _ none fG (.inl ⟨rfl, rfl, rfl⟩)
 ·refine Wk Tryz.func31 Tryz.ntmps31 (w:=?_)
  refine QN (Mb (w:=QL (QU (QN (Ma (w:=?_))))));refine QK (WS.eqG (h1 := ?_) (h2 := ?_));intro hh;exact Bool.noConfusion hh;intro hh;refine QP (UA (QN (Mz (w:=Ma (w:=QK ?_)))))
  rcases Nat.eq_zero_or_pos n with rfl | hpos
  ·refine WS.r9 rfl rfl (v := .slice (some ⟨h.next, 0, none⟩) 0 7) (h' := h.alloc (.cells false [])) ?_ ?_
   ·rfl
   refine Mb (w:=QM ?_)
   refine ⟨_, aM, ?_⟩
   exact hq _ _ fG (.inr ⟨i, cells, h.next, [], rfl, ho, rfl, Nat.le_refl _, aB, aD, by simp, by simp⟩)
  ·apply WS.append
   (· rfl); (· rfl); (· exact aL); (· exact aL); (· rfl); (· rfl); (· intro k hk; cases hk); (· exact cE rfl); (· exact hpos); (· exact bX (by omega) ho); (· omega); (· exact uI _); (· unfold room; omega); (· exact hall); (· exact .inr ⟨h.next, 0, [], rfl, rfl, aD, by simp, rfl⟩)
   intro h' hn' ho' hf'
   simp only [aA.aC] at hn' ho' hf'
   refine Mb (w:=QM ?_)
   refine ⟨_, aM, ?_⟩
   rw [Nat.zero_add]
   refine hq _ _ ⟨by omega, fun j hj => ?_⟩ (.inr ⟨i, cells, h.next + 1, _, rfl, ho, rfl, by omega, by omega, ho', by simp; omega, by simp [List.take_take]⟩)
   rw [hf' j (by omega) fun off e => by cases e; omega]
   exact bB

def aRp (N : Nat) (h0 : aA) (a : Nd) (vs : List Value) : Prop := ∀ {h : aA} {Q : bR → Prop}, Gr h0 h → Small N a →
 (∀ h' b n es, Gr h h' → NV h' (fun j => h.next ≤ j) (aG (aGj a) b n es) (aGj a) → Q (.ret (.agg (aG (aGj a) b n es).toArray) h')) → aS Tryz.prog G X 17 [.agg vs.toArray] h Q

theorem aR6 {N : Nat} {h0 : aA} {a : Nd} (hk : a.kids = []) : aRp N h0 a (aG a none 0 0) := by
 intro h Q g sm hq
 have hb : aGj a = .mk a.kind a.text a.num 0 (⟨#[]⟩ :ByteArray) 0 [] := by cases a; simp only [Nd.kids] at hk; subst hk; simp only [aGj, Nd.kind, Nd.text, Nd.num, List.map_nil]
 rw [hb] at hq
 refine Wk Tryz.func17 Tryz.ntmps17 (w:=QN (Mx (w:=Mw (w:=QO (Mj (w:=Mv (w:=Mj (w:=Mv (w:=Mj (w:=Mv (w:=QO (Mj (w:=Mt (w:=MJ aS5 (w:=aSa (by omega) (.inl ⟨rfl, rfl, rfl⟩) fun h1 b1 g1 x1 => ?_)))))))))))))))
 rcases x1 with ⟨_, rfl, rfl⟩ | ⟨_, _, _, _, e, _⟩
 rotate_left
 ·cases e
 clear g1
 refine Mj (w:=Mv (w:=QL (QU (QN (Mj (w:=Mt (w:=Ms (w:=Ma (w:=QL (Bk ?_))))))))))
 refine WC.cB hX (α := Nat) (m := fun i => 0) (Inv := fun i v h' => v 1 = some (.pointer (some ⟨h.next, 0, none⟩)) ∧ v 2 = some (.pointer (some ⟨h.next + 1, 0, none⟩)) ∧ v 14 = some (.int .i64 0) ∧ v 15 = some (.int .i64 0) ∧ Gr h h' ∧ h.next + 1 < h'.next ∧
  h'.obj h.next = some (.cells false (aG (.mk a.kind a.text a.num 0 (⟨#[]⟩ :ByteArray) 0 []) none 0 0)) ∧ h'.obj (h.next + 1) = some (.cells false (aG (.mk 0 (⟨#[]⟩ :ByteArray) 0 0 (⟨#[]⟩ :ByteArray) 0 []) none 0 0))) 0
  ⟨rfl, rfl, rfl, rfl, fG, aB, aD, aD⟩ ?_
 rintro i env h5 ih ⟨e1, e2, e14, e15, g5, hn5, ho1, ho2⟩
 refine QN (MF (w:=fun hh => by omega) (v:=fun hh => QL (QU (QS (WC.exit (aH (QN (Mu (w:=Mv (w:=QM ?_))))))))))
 refine ⟨_, aM, ?_⟩
 exact hq _ none 0 0 fG (.leaf _ _ _ _ _ _)

theorem aSk {cells : List Value} {ks : List Nd} {h0 : aA} {S : Nat → Prop} (hl : ks.length * 7 ≤ cells.length) (hk : ∀ (j : Nat) t, ks[j]? = some t → NV h0 S ((cells.drop (j * 7)).take 7) t) : (cells.take (ks.length * 7)).all (·.oneCell') = true := by
 have hlen : (cells.take (ks.length * 7)).length = ks.length * 7 := by rw [List.length_take]; omega
 refine xU _ (by omega) fun j hj => ?_
 have h1 := (hk j _ (List.getElem?_eq_getElem (by omega))).all
 rw [List.drop_take, List.take_take, Nat.min_eq_left (by omega)]
 exact h1

theorem aR7 {N : Nat} (hN : N ≤ 1000000) {h0 : aA} {a : Nd} {i0 : Nat} {cells : List Value} (hi0 : i0 < h0.next) (hc0 : h0.obj i0 = some (.cells false cells)) (hl0 : a.kids.length * 7 ≤ cells.length) (hall : (cells.take (a.kids.length * 7)).all (·.oneCell') = true)
  (hk : ∀ (j : Nat) t, a.kids[j]? = some t → ∃ b' n' es', (cells.drop (j * 7)).take 7 = aG t b' n' es' ∧ aRp N h0 t (aG t b' n' es')) : aRp N h0 a (aG a (some ⟨i0, 0, none⟩) a.kids.length 7) := by
 intro h Q g sm hq
 have hlen := sm.len
 have hg0 := g.1
 have ho0 : h.obj i0 = some (.cells false cells) := g.at hi0 hc0
 have hb : aGj a = .mk a.kind a.text a.num 0 (⟨#[]⟩ :ByteArray) 0 (a.kids.map aGj) := by cases a; simp only [aGj, Nd.kind, Nd.text, Nd.num, Nd.kids]
 rw [hb] at hq
 refine Wk Tryz.func17 Tryz.ntmps17 (w:=QN (Mx (w:=Mw (w:=QO (Mj (w:=Mv (w:=Mj (w:=Mv (w:=Mj (w:=Mv (w:=QO (Mj (w:=Mt (w:=MJ aS5 (w:=aSa (by omega) (.inr ⟨i0, cells, rfl, rfl, aB, aD, hl0, hall⟩) fun h1 b1 g1 x1 => ?_)))))))))))))))
 rcases x1 with ⟨e, _⟩ | ⟨_, c1, j, cells', e, hc1, rfl, hj1, hj2, hoj, hlj, htj⟩
 ·cases e
 cases e
 have e1 : c1 = cells := by
  have h2 : h.obj i0 = some (.cells false c1) := by rw [← hc1]; symm; exact bB
  rw [ho0] at h2; cases h2; rfl
 subst e1
 have hn1 := g1.1
 (try simp only [UB, UC] at hn1 hj1)
 have o1 : h1.obj h.next = some (.cells false (aG (.mk a.kind a.text a.num 0 (⟨#[]⟩ :ByteArray) 0 []) (some ⟨i0, 0, none⟩) a.kids.length 7)) := g1.at aB aD
 have o2 : h1.obj (h.next + 1) = some (.cells false (aG (.mk 0 (⟨#[]⟩ :ByteArray) 0 0 (⟨#[]⟩ :ByteArray) 0 []) none 0 0)) := g1.at aB aD
 have G1 : Gr h h1 := (show Gr h _ from fG).trans g1
 clear hc1 g1
 have hkk : ∀ (m : Nat) t, a.kids[m]? = some t → ∃ b' n' es', (cells'.drop (m * 7)).take 7 = aG t b' n' es' ∧ aRp N h0 t (aG t b' n' es') := fun m t ht => by
  have hm : m < a.kids.length := (List.getElem?_eq_some_iff.1 ht).1
  obtain ⟨b', n', es', e, hp⟩ := hk m t ht
  refine ⟨b', n', es', ?_, hp⟩
  rw [← e]
  have h2 := congrArg (fun l => (l.drop (m * 7)).take 7) htj
  simp only [List.drop_take, List.take_take, Nat.min_eq_left (show 7 ≤ a.kids.length * 7 - m * 7 by omega)] at h2
  exact h2
 clear hk htj
 refine Mj (w:=Mv (w:=QL (QU (QN (Mj (w:=Mt (w:=Ms (w:=Ma (w:=QL (Bk ?_))))))))))
 refine WC.cB hX (α := Nat × List Value) (m := fun x => a.kids.length - x.1) (Inv := fun x v h' => v 1 = some (.pointer (some ⟨h.next, 0, none⟩)) ∧ v 2 = some (.pointer (some ⟨h.next + 1, 0, none⟩)) ∧ v 13 = some (.slice (some ⟨j, 0, none⟩) a.kids.length 7) ∧ v 14 = some (.int .i64 a.kids.length) ∧ v 15 = some (.int .i64 x.1) ∧ Gr h h' ∧ j < h'.next ∧
  h'.obj h.next = some (.cells false (aG (.mk a.kind a.text a.num 0 (⟨#[]⟩ :ByteArray) 0 []) (some ⟨j, 0, none⟩) a.kids.length 7)) ∧ h'.obj (h.next + 1) = some (.cells false (aG (.mk 0 (⟨#[]⟩ :ByteArray) 0 0 (⟨#[]⟩ :ByteArray) 0 []) none 0 0)) ∧
  h'.obj j = some (.cells false (x.2 ++ cells'.drop (x.1 * 7))) ∧ x.2.length = x.1 * 7 ∧ x.1 ≤ a.kids.length ∧ ∀ (m : Nat) t, (a.kids.take x.1)[m]? = some t → NV h' (fun y => h.next ≤ y ∧ y ≠ j ∧ y ≠ h.next ∧ y ≠ h.next + 1) ((x.2.drop (m * 7)).take 7) (aGj t)) (0, [])
  ⟨rfl, rfl, rfl, rfl, rfl, fG, aB, aD, aD, by simp only [Nat.zero_mul, List.drop_zero, List.nil_append]; exact aD, rfl, by simp, fun m t ht => by simp at ht⟩ ?_
 rintro ⟨i, p⟩ env h5 ih ⟨e1, e2, e13, e14, e15, g5, hj5, p1, p2, p3, hpl, hi5, hnv⟩
 simp only at e15 p3 hpl hi5 hnv
 have hn5 := g5.1
 have hlc : (cells'.drop (i * 7)).length = cells'.length - i * 7 := List.length_drop
 refine QN (MF (w:=fun hh => QL (QU (QR (UA (QU (Bk (QN (Ma (w:=Ml (w:=QK ?_)))))))))) (v:=fun hh => QL (QU (QS (WC.exit (aH (QN (Mu (w:=Mv (w:=QM ?_))))))))))
 ·have hia : i < a.kids.length := by omega
  obtain ⟨bk, nk, ek, hdk, hpk⟩ := hkk i _ (List.getElem?_eq_getElem hia)
  have hdd : (p ++ cells'.drop (i * 7)).drop (i * 7) = cells'.drop (i * 7) := by
   rw [List.drop_append, List.drop_of_length_le (by omega), List.nil_append, show i * 7 - p.length = 0 by omega, List.drop_zero]
  refine WS.pT (vs := aG a.kids[i] bk nk ek) (hc := ?_) (hv' := ?_) (hk := ?_)
  (· rw [List.length_append]; omega); (· rw [show 0 + (i : Int).toNat * 7 = i * 7 by omega, hdd, hdk]; rfl)
  refine Mw (w:=Mb (w:=Mv (w:=QL (Gd [⟨0, .pure, 0⟩, ⟨1, .read, 1⟩, ⟨2, .pure, 0⟩, ⟨3, .read, 0⟩, ⟨4, .aF, 8⟩, ⟨5, .pure, 31⟩, ⟨6, .aF, 63⟩] (w:=Dj (w:=Rt (w:=Da (w:=Ru (w:=?_)))))))));refine WD.aF hX (hw := ?_)
  refine QJ aS4 ?_
  refine hpk (g.trans (show Gr h _ from fG)) (sm.eF (List.getElem?_eq_getElem hia)) fun h6 b6 n6 es6 g6 nv6 => ?_
  have hi6 : a.kids[i]? = some a.kids[i] := List.getElem?_eq_getElem hia
  have G6 : Gr h h6 := (show Gr h _ from fG).trans g6
  generalize ht6 : aGj a.kids[i] = t6 at *
  have hn6 := nx g6.1
  have q1 : h6.obj h.next = some (.cells false (aG (.mk a.kind a.text a.num 0 (⟨#[]⟩ :ByteArray) 0 []) (some ⟨j, 0, none⟩) a.kids.length 7)) := g6.at aB aD
  have q2 : h6.obj (h.next + 1) = some (.cells false (aG (.mk 0 (⟨#[]⟩ :ByteArray) 0 0 (⟨#[]⟩ :ByteArray) 0 []) none 0 0)) := g6.at aB aD
  have q3 : h6.obj j = some (.cells false (p ++ cells'.drop (i * 7))) := g6.at aB aD
  have hnv6 : ∀ (m : Nat) t, (a.kids.take i)[m]? = some t → NV h6 (fun y => h.next ≤ y ∧ y ≠ j ∧ y ≠ h.next ∧ y ≠ h.next + 1) ((p.drop (m * 7)).take 7) (aGj t) := fun m t ht =>
   (hnv m t ht).mono aB fun y hy hlt => ⟨hy, (g6.2 y aB).trans bB⟩
  have hnx : h5.next ≤ (h5.alloc (.cells false (aG a.kids[i] bk nk ek))).next := aB
  refine Dl (w:=?_);refine WD.aF hX (hw := ?_)
  refine WS.store (v := .agg (aG t6 b6 n6 es6).toArray) (cs := p ++ cells'.drop (i * 7)) (cs' := p ++ aG t6 b6 n6 es6 ++ cells'.drop ((i + 1) * 7)) (hf := ?_) (hs' := ?_) (hk := ?_)
  (· show _ + 7 ≤ _; rw [List.length_append]; omega)
  (· rw [show 0 + (i : Int).toNat * 7 = p.length by omega, show (Value.agg (aG t6 b6 n6 es6).toArray).cells.toList = aG t6 b6 n6 es6 from rfl, uV _ _ _ (by show 7 ≤ _; omega), List.drop_drop, show i * 7 + (aG t6 b6 n6 es6).length = (i + 1) * 7 by show i * 7 + 7 = _; omega]; exact uI _)
  refine WD.nil (hq:=QV (Mf (w:=Ma (w:=QL ?_))))
  have hl7 : (aG t6 b6 n6 es6).length = 7 := rfl
  refine ih (i + 1, p ++ aG t6 b6 n6 es6) _ _ (by simp only; omega) ⟨aL, aL, aL, aL, rfl, fG, aB, aD, aD, aD, by rw [List.length_append]; simp only; omega, hia, fun m t ht => ?_⟩
  simp only at ht ⊢
  rw [List.take_add_one, hi6, Option.toList_some] at ht
  rcases Nat.lt_or_ge m i with hm | hm
  ·rw [List.getElem?_append_left (by rw [List.length_take]; omega)] at ht
   rw [List.drop_append_of_le_length (by omega), List.take_append_of_le_length (by rw [List.length_drop]; omega)]
   exact (hnv6 m t ht).mono aB fun y hy hlt => ⟨hy, bB⟩
  ·rw [List.getElem?_append_right (by rw [List.length_take]; omega), List.length_take, Nat.min_eq_left hi5] at ht
   have hmi : m = i := by
    rcases Nat.eq_or_lt_of_le hm with h' | h'
    ·exact h'.symm
    ·rw [List.getElem?_eq_none (by simp; omega)] at ht; cases ht
   subst hmi
   rw [Nat.sub_self] at ht
   cases ht
   have e : ((p ++ aG t6 b6 n6 es6).drop (m * 7)).take 7 = aG t6 b6 n6 es6 := by
    rw [List.drop_append, List.drop_of_length_le (by omega), List.nil_append, show m * 7 - p.length = 0 by omega, List.drop_zero]; rfl
   rw [ht6, e]
   exact nv6.mono aB fun y hy hlt => by (try simp only [UB, UC] at hy); exact ⟨⟨aB, aB, aB, aB⟩, bB⟩
 ·obtain rfl : i = a.kids.length := by omega
  rw [List.take_length] at hnv
  refine ⟨_, aM, ?_⟩
  refine hq _ (some ⟨j, 0, none⟩) a.kids.length 7 fG ?_
  have hml : (a.kids.map aGj).length = a.kids.length := List.length_map _
  have e : aG (.mk a.kind a.text a.num 0 (⟨#[]⟩ :ByteArray) 0 (a.kids.map aGj)) (some ⟨j, 0, none⟩) a.kids.length 7 = [.int .i64 a.kind, .string a.text, .int .i64 a.num, .int .i64 0, .string (⟨#[]⟩ :ByteArray), .int .i64 0, .slice (some ⟨j, 0, none⟩) (a.kids.map aGj).length 7] := by rw [hml]; rfl
  rw [e]
  refine .node _ _ _ _ _ _ _ j (p ++ cells'.drop (a.kids.length * 7)) aB aB aD (by rw [List.length_append, hml]; omega) fun m t ht => ?_
  rw [List.getElem?_map] at ht
  cases hu : a.kids[m]? with
  | none => rw [hu] at ht; cases ht
  | some u =>
   rw [hu] at ht
   cases ht
   have hm : m < a.kids.length := (List.getElem?_eq_some_iff.1 hu).1
   rw [List.drop_append_of_le_length (by omega), List.take_append_of_le_length (by rw [List.length_drop]; omega)]
   exact (hnv m u hu).mono aB fun y hy hlt => ⟨hy.1, bB⟩

theorem aR5 {N : Nat} (hN : N ≤ 1000000) {h0 : aA} {S : Nat → Prop} {vs : List Value} {a : Nd} (hv : NV h0 S vs a) : aRp N h0 a vs := by
 induction hv with
 | leaf kind text num pos cD ref => exact aR6 (a := .mk kind text num pos cD ref []) rfl
 | node kind text num pos cD ref kids i cells h1 h2 h3 h4 h5 ih =>
  refine aR7 hN (a := .mk kind text num pos cD ref kids) h2 h3 h4 (aSk h4 h5) fun j t hj => ?_
  obtain ⟨b', n', es', he⟩ := (h5 j t hj).cells
  exact ⟨b', n', es', he, he ▸ ih j t hj⟩
theorem aSt {N : Nat} (hN : N ≤ 1000000) {h : aA} {S : Nat → Prop} {a : Nd} {b0 : Option Addr} {n0 es0 : Nat} {Q : bR → Prop} (hv : NV h S (aG a b0 n0 es0) a) (sm : Small N a)
  (hq : ∀ h' b n es, Gr h h' → NV h' (fun j => h.next ≤ j) (aG (aGj a) b n es) (aGj a) → Q (.ret (.agg (aG (aGj a) b n es).toArray) h')) : aS Tryz.prog G X 17 [.agg (aG a b0 n0 es0).toArray] h Q :=
 aR5 hN hv (Gr.refl _) sm hq

theorem aRx (hq : ∀ h', Q (.ret (.bool true) h')) : aS Tryz.prog G X 7 [.string src] h Q := by
 obtain ⟨tf, sf, pf, hF⟩ : ∃ t s p, lC src = (t, s, p) := ⟨_, _, _, rfl⟩
 have ft := @aBu src
 have sm := (uQ src).2
 rw [hF] at ft sm
 simp only at ft sm
 refine Wk Tryz.func7 Tryz.ntmps7 (w:=QN (Mb (w:=QL (QU (QN (MJ en8 (w:=aFr fun h1 g1 => ?_)))))))
 refine Me (w:=QP (UA (QU (QN (Ma (w:=Mr (w:=MH (w:=fun hh => QQ (QN (Mb (w:=QM ?_)))) (v:=fun hh => QP (UA (QN (Ma (w:=QK ?_))))))))))))
 ·((apply Exists.intro; apply And.intro; (· repeat (first | exact dO | (apply dV; (· (first | rfl | assumption))) | (apply cW; (· (first | rfl | assumption)); (· rfl); (· exact fF rfl); (· (exact aD)); (· (first | (exact Nat.le_of_ble_eq_true rfl) | (simp; done) | omega)); (· rfl)) | (apply cX; (· (first | rfl | assumption)); (· rfl); (· (exact aD)); (· rfl)))))); exact hq _
 refine QJ aO5 ?_
 refine aEk hF fun h2 b2 m2 es2 g2 nv2 => ?_
 have hn2 := g2.1
 refine Ma (w:=Mq (w:=Mq (w:=Mw (w:=Mw (w:=Mv (w:=Mv (w:=QL (QU (QN (Mu (w:=Mn (w:=QK ?_))))))))))));refine aDy (h1 := ?_) (h2 := ?_);intro hh;refine QP (UA (QN (Mu (w:=QK ?_))));rotate_left;intro hh;refine QQ (QN (Mb (w:=QM ?_)));rotate_left
 rotate_left
 ·((apply Exists.intro; apply And.intro; (· repeat (first | exact dO | (apply dV; (· (first | rfl | assumption))) | (apply cW; (· (first | rfl | assumption)); (· rfl); (· exact fF rfl); (· (exact aD)); (· (first | (exact Nat.le_of_ble_eq_true rfl) | (simp; done) | omega)); (· rfl)) | (apply cX; (· (first | rfl | assumption)); (· rfl); (· (exact aD)); (· rfl)))))); exact hq _
 obtain rfl : sf = 0 := hh.1
 obtain ⟨f1, f2, f3⟩ := ft rfl
 have fb : Ft (aGj tf) := aSr ⟨_, f1⟩
 have fw : jH (aGj tf) ≤ 50000 := by rw [aR9]; exact f2
 have sb := sm.bare
 have fe := aSi 60000 tf
 refine QJ aS0 ?_
 refine aSo (N := 20000) (by omega) (nv2.mono (S' := fun _ => True) aB (fun j hS hj => ⟨trivial, bB⟩)) sm fun h3 b3 m3 es3 g3 nv3 => ?_
 have o3 : h3.obj h2.next = some (.cells false (aG tf b2 m2 es2)) := g3.at aB aD
 have nvA : NV h3 (fun _ => True) (aG tf b2 m2 es2) tf := nv2.mono (by have := g3.1; (try simp only [UB, UC] at this); omega) (fun j hS hj => ⟨trivial, (g3.2 j aB).trans bB⟩)
 have hn3 : h2.next + 2 ≤ h3.next := by have := g3.1; (try simp only [UB, UC] at this); omega
 clear nv2 g3
 refine Mw (w:=Mv (w:=QO (Mu (w:=MJ aOw (w:=aEm ⟨_, f1⟩ f2 (nvA.mono (S' := fun _ => True) aB (fun j hS hj => ⟨trivial, bB⟩)) fun h4 g4 => ?_)))))
 have hn4 := nx g4.1
 have o4 : h4.obj h2.next = some (.cells false (aG tf b2 m2 es2)) := g4.at aB aD
 have p4 : h4.obj h3.next = some (.cells false (aG (aGj tf) b3 m3 es3)) := g4.at aB aD
 have nvB : NV h4 (fun _ => True) (aG tf b2 m2 es2) tf := nvA.mono aB (fun j hS hj => ⟨trivial, (g4.2 j aB).trans bB⟩)
 have nvC : NV h4 (fun _ => True) (aG (aGj tf) b3 m3 es3) (aGj tf) := nv3.mono aB (fun j hS hj => ⟨trivial, (g4.2 j aB).trans bB⟩)
 clear g4 nvA nv3
 generalize hs : qV 60000 tf = s at *
 refine Mb (w:=QL (QU (Gd [⟨0, .read, 0⟩, ⟨2, .read, 0⟩, ⟨1, .aF, 1⟩, ⟨3, .aF, 7⟩, ⟨4, .pure, 15⟩, ⟨5, .read, 31⟩, ⟨7, .pure, 31⟩, ⟨6, .aF, 63⟩, ⟨8, .pure, 255⟩, ⟨9, .pure, 511⟩, ⟨10, .pure, 1023⟩, ⟨11, .read, 2047⟩, ⟨14, .pure, 2047⟩, ⟨12, .aF, 4095⟩, ⟨13, .aF, 8191⟩, ⟨15, .pure, 32767⟩, ⟨16, .pure, 65535⟩, ⟨17, .pure, 131071⟩] (w:=Ru (w:=Ru (w:=?_))))));refine WD.aF hX (hw := ?_)
 refine QJ aS0 ?_
 refine aSo (N := 20000) (by omega) (nvB.mono (S' := fun _ => True) aB (fun j hS hj => ⟨trivial, bB⟩)) sm fun h5 b5 m5 es5 g5 nv5 => ?_
 have hn5 := nx g5.1
 have o5 : h5.obj h2.next = some (.cells false (aG tf b2 m2 es2)) := g5.at aB aD
 have p5 : h5.obj h3.next = some (.cells false (aG (aGj tf) b3 m3 es3)) := g5.at aB aD
 have nvD : NV h5 (fun _ => True) (aG tf b2 m2 es2) tf := nvB.mono aB (fun j hS hj => ⟨trivial, (g5.2 j aB).trans bB⟩)
 have nvE : NV h5 (fun _ => True) (aG (aGj tf) b3 m3 es3) (aGj tf) := nvC.mono aB (fun j hS hj => ⟨trivial, (g5.2 j aB).trans bB⟩)
 clear g5 nvB nvC
 refine WD.aF hX (hw := ?_)
 refine QJ aS3 ?_
 refine aS1 (N := 20000) (by omega) (nv5.mono (S' := fun _ => True) aB (fun j hS hj => ⟨trivial, bB⟩)) (nvE.mono (S' := fun _ => True) aB (fun j hS hj => ⟨trivial, bB⟩)) sb fun h6 r g6 hr => ?_
 obtain rfl : r = true := hr.2 rfl
 have hn6 := nx g6.1
 have o6 : h6.obj h2.next = some (.cells false (aG tf b2 m2 es2)) := g6.at aB aD
 have p6 : h6.obj h3.next = some (.cells false (aG (aGj tf) b3 m3 es3)) := g6.at aB aD
 have nvF : NV h6 (fun _ => True) (aG tf b2 m2 es2) tf := nvD.mono aB (fun j hS hj => ⟨trivial, (g6.2 j aB).trans bB⟩)
 have nvG : NV h6 (fun _ => True) (aG (aGj tf) b3 m3 es3) (aGj tf) := nvE.mono aB (fun j hS hj => ⟨trivial, (g6.2 j aB).trans bB⟩)
 clear g6 nvD nvE nv5 hr
 refine Da (w:=Ru (w:=Da (w:=?_)));refine WD.aF hX (hw := ?_)
 refine QJ aOw ?_
 refine aEm fb fw (nvG.mono (S' := fun _ => True) aB (fun j hS hj => ⟨trivial, bB⟩)) fun h7 g7 => ?_
 rw [fe]
 have hn7 := nx g7.1
 have o7 : h7.obj h2.next = some (.cells false (aG tf b2 m2 es2)) := g7.at aB aD
 have nvH : NV h7 (fun _ => True) (aG tf b2 m2 es2) tf := nvF.mono aB (fun j hS hj => ⟨trivial, (g7.2 j aB).trans bB⟩)
 clear g7 nvF nvG
 refine QW (k := QB ?_ ?_);intro hh;refine Dc (w:=Da (w:=Ru (w:=Da (w:=?_))));refine WD.aF hX (hw := ?_);rotate_left;intro hh;exfalso;simp at hh
 refine QJ aS4 ?_
 refine aSt (N := 20000) (by omega) (nvH.mono (S' := fun _ => True) aB (fun j hS hj => ⟨trivial, bB⟩)) sm fun h8 b8 m8 es8 g8 nv8 => ?_
 clear g8
 refine WD.aF hX (hw := ?_)
 refine QJ aOw ?_
 refine aEm fb fw (nv8.mono (S' := fun _ => True) aB (fun j hS hj => ⟨trivial, bB⟩)) fun h9 g9 => ?_
 rw [fe]
 refine QW (k := QB ?_ ?_);intro hh;refine Dc (w:=Db (w:=WD.nil (hq:=WC.ret ?_)));rotate_left;intro hh;exact absurd (by assumption) hh
 refine ⟨_, aM, ?_⟩
 exact hq _

end Go.Proofs.ZL
end
