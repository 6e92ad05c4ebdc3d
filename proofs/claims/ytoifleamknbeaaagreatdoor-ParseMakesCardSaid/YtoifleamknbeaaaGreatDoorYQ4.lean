/- The document's parser, fourth part: clauses, loops, declarations. -/
import Derived.Test.YtoifleamknbeaaaGreatDoorYQ3
section
open Go Go.Am
namespace Go.Proofs.ZL
set_option maxRecDepth 100000
set_option linter.unusedSimpArgs false
set_option linter.unusedVariables false
set_option maxHeartbeats 4000000
variable {h : aE} {Q : bW → Prop} {L : List Tok} {p : Nat} {hd : Bool} {src : ByteArray}
theorem aDu {r : Rec} (c : gE r) : XNl 96 (lU r) (fun L s => bA L s [⟨#[105, 102]⟩] = true) := by
 intro p L hd s0 h Q hs ps hq0
 have hp := ps.lt
 have hm0 := ps.wf.toWF.is ps.at_ hs
 have h6 : (aF L s0.k).kind ≠ 6 := iM hs
 unfold lU at hq0
 simp only [if_neg h6] at hq0
 have hq0 : aU (VN fun j => h.next ≤ j) p L hd h Q ((bI L s0 ⟨#[105, 102]⟩).then fun _ s => (r.expr L true s).then fun e s => (r.block L hd s).then fun b s => (if bA L s [⟨#[101, 108, 115, 101]⟩] then if bA L s.next [⟨#[105, 102]⟩] then r.branch L hd s.next else r.block L hd s.next else .ok aY s).then fun o s => .ok (nd 21 (aF L s0.k) ⟨#[]⟩ [e, b, o]) s) := by
  rw [lW hs, R.then_ok]; exact hq0
 generalize htk : aF L s0.k = tk at *
 refine Wk Tryz.func96 Tryz.ntmps96 (w:=QN (Mw (w:=QO (Ma (w:=MJ gG (w:=cN (L := L) (hd := hd) (x := .live s0) (aQ) fun h1 g1 => ?_))))))
 have hn1 := nx g1.1
 rw [show aF L (Xs.live s0).st.k = tk from htk]
 refine Mk (w:=Mb (w:=QO (Ma (w:=MJ dU (w:=bO (hd := hd) (aQ) (aU.kH (hd' := hd) aI hq0 fun tk2 x2 h2 v2 ps2 fr2 hv2 hq2 => ?_))))))
 obtain ⟨rfl, rfl⟩ := hv2
 have hn2 := nx fr2.1
 refine QO (Ma (w:=MJ aIl (w:=y7 c (hd := hd) (aQ) (Eu hq2 (k:=fun t3 x3 h3 b3 n3 es3 ps3 fr3 kv3 hn3 hq3 => ?_)))))
 refine Mw (w:=Mv (w:=QO (Ma (w:=MJ yA (w:=c.block (hd := hd) (aQ) (Eu hq3 (k:=fun t4 x4 h4 b4 n4 es4 ps4 fr4 kv4 hn4 hq4 => ?_)))))))
 refine Mw (w:=Mv (w:=QO (MJ tI (w:=kN fun h5 g5 => ?_))))
 have hn5 := nx g5.1
 refine Mw (w:=Mv (w:=QO (Ma (w:=MJ qX (w:=lV (L := L) (hd := hd) (x := x4) (aQ) fun h6 ps6 fr6 => ?_)))))
 have hn6 := nx fr6.1
 cases hb6 : Xs.is L [⟨#[101, 108, 115, 101]⟩] x4
 ·rw [Xs.gT hb6] at ps6
  rw [Xs.hY hb6] at hq4
  have hq4 : aU _ _ _ _ _ _ (x4.run fun s => _) := hq4
  refine Mb (w:=QL (QU (QN (Ma (w:=Ma (w:=MA (w:=MA (w:=Md (w:=QP (QN (Ma (w:=QP (UA (QN (Ma (w:=Mu (w:=Mu (w:=Mu (w:=Mz (w:=MJ cL (w:=bN fun h20 g20 => ?_)))))))))))))))))))))
  have hn20 := nx g20.1
  refine Mv (w:=QM ?_)
  refine ⟨_, aJ, ?_⟩
  refine hq4.fin aQ aI ⟨_, _, _, rfl, NV.aN ?_ _ _ _ _ _ _⟩
  apply KV.sX (b3 := none) (n3 := 0) (es3 := 0) (S := fun j => h.next ≤ j ∧ j < h20.next ∧ j ≠ h6.next)
  (· exact aA); (· rfl); (· exact aB); (· exact aB); (· exact (kv3.kp)); (· exact (kv4.kp)); (· exact NV.none _ _); (· exact fun j hS hj => ⟨hS.1, by have := hS.2; exact aB⟩)
 ·rw [Xs.iA hb6] at hq4
  obtain ⟨s6, rfl, hs6⟩ := Xs.fZ hb6
  rw [Xs.iE hs6] at ps6
  rw [Xs.a8] at hq4
  refine Mb (w:=QL (QU (QN (Ma (w:=Ma (w:=Ma (w:=MJ gY (w:=gX (L := L) (hd := hd) (x := .live s6.next) (aQ) fun h7 g7 => ?_))))))))
  have hn7 := nx g7.1
  cases hb7 : Xs.is L [⟨#[105, 102]⟩] (.live s6.next)
  ·have hs7 : bA L s6.next [⟨#[105, 102]⟩] = false := hb7
   rw [hs7, if_neg Bool.false_ne_true] at hq4
   refine Mc (w:=QP (QN (Ma (w:=QQ (QV (Ma (w:=MJ yA (w:=c.block (hd := hd) (aQ) (El hq4 (k:=fun t8 x8 h8 b8 n8 es8 ps8 fr8 kv8 hn8 hq8 => ?_))))))))))
   refine Mv (w:=QO (Ma (w:=Mu (w:=Mu (w:=Mu (w:=Mz (w:=MJ cL (w:=bN fun h20 g20 => ?_))))))))
   have hn20 := nx g20.1
   refine Mv (w:=QM ?_)
   refine ⟨_, aJ, ?_⟩
   refine hq8.fin aQ aI ⟨_, _, _, rfl, NV.aN ?_ _ _ _ _ _ _⟩
   apply KV.sX  (S := fun j => h.next ≤ j ∧ j < h20.next ∧ j ≠ h8.next)
   (· exact aA); (· rfl); (· exact aB); (· exact aB); (· exact (kv3.kp)); (· exact (kv4.kp)); (· exact (kv8.kp)); (· exact fun j hS hj => ⟨hS.1, by have := hS.2; exact aB⟩)
  ·have hs7 : bA L s6.next [⟨#[105, 102]⟩] = true := hb7
   rw [hs7, if_pos rfl] at hq4
   refine Mc (w:=QQ (QV (Ma (w:=MJ aLx (w:=c.branch (hd := hd) hs7 (aQ) (aU.wB (hd' := hd) (F := r.branch L hd) aI hq4 fun t8 x8 h8 v8 ps8 fr8 hv8 hq8 => ?_))))))
   obtain ⟨b8, n8, es8, rfl, kv8⟩ := hv8
   have hn8 := nx fr8.1
   refine Mv (w:=QO (Ma (w:=Mu (w:=Mu (w:=Mu (w:=Mz (w:=QK ?_)))))))
   skip
   refine QJ cL ?_
   refine bN fun h20 g20 => ?_
   have hn20 := nx g20.1
   refine Mv (w:=QM ?_)
   refine ⟨_, aJ, ?_⟩
   refine hq8.fin aQ aI ⟨_, _, _, rfl, NV.aN ?_ _ _ _ _ _ _⟩
   apply KV.sX  (S := fun j => h.next ≤ j ∧ j < h20.next ∧ j ≠ h8.next)
   (· exact aA); (· rfl); (· exact aB); (· exact aB); (· exact (kv3.kp)); (· exact (kv4.kp)); (· exact (kv8.kp)); (· exact fun j hS hj => ⟨hS.1, by have := hS.2; exact aB⟩)

def wP (r : Rec) (t : Tok) (L : List Tok) (hd : Bool) (kids : List Nd) (s : St) : R Nd :=
 if bA L s [⟨#[60, 45]⟩] then (r.unary L hd s.next).then fun u s => (dN r L hd s).then fun b s => .ok (nd 26 t ⟨#[114, 101, 99, 118]⟩ (kids ++ [u] ++ [b])) s
 else (r.cS L hd s).then fun c s => (bI L s ⟨#[60, 45]⟩).then fun _ s => (r.expr L hd s).then fun e s => (dN r L hd s).then fun b s => .ok (nd 26 t ⟨#[115, 101, 110, 100]⟩ [c, e, b]) s
def sS (r : Rec) (t : Tok) : PF Nd := fun L hd s =>
 (if decide ((aF L s.k).kind = 1) && dL (aF L (s.k + 1)) ⟨#[58, 61]⟩ then
  (if bA L (s.goto (s.k + 2)) [⟨#[60, 45]⟩] then .ok [nd 7 (aF L s.k) (aF L s.k).text []] (s.goto (s.k + 2)) else eA L (s.goto (s.k + 2)))
 else .ok [] s).then (wP r t L hd)
def xM (L : List Tok) : Xs → Bool
 | .live s => decide ((aF L s.k).kind = 1) && dL (aF L (s.k + 1)) ⟨#[58, 61]⟩
 | .dead _ _ => false
theorem aD8 {x : Xs} {r : Rec} {t : Tok} (h : xM L x = false) : x.run (sS r t L hd) = x.run fun s => wP r t L hd [] s := by
 cases x with
 | dead e s => rfl
 | live s => show sS r t L hd s = wP r t L hd [] s; unfold sS; rw [show (decide ((aF L s.k).kind = 1) && dL (aF L (s.k + 1)) ⟨#[58, 61]⟩) = false from h]; rfl
theorem aDm {x : Xs} {r : Rec} {t : Tok} (h : xM L x = true) : ∃ s, x = .live s ∧ (aF L s.k).kind = 1 ∧ (aF L (s.k + 1)).kind = 5 ∧ x.run (sS r t L hd) = if bA L (s.goto (s.k + 2)) [⟨#[60, 45]⟩] then wP r t L hd [nd 7 (aF L s.k) (aF L s.k).text []] (s.goto (s.k + 2)) else eA L (s.goto (s.k + 2)) := by
 cases x with
 | dead e s => cases h
 | live s =>
  have h : (decide ((aF L s.k).kind = 1) && dL (aF L (s.k + 1)) ⟨#[58, 61]⟩) = true := h
  refine ⟨s, rfl, ?_, ?_, ?_⟩
  ·rw [Bool.and_eq_true] at h; exact of_decide_eq_true h.1
  ·unfold dL at h; rw [Bool.and_eq_true, Bool.and_eq_true] at h; exact of_decide_eq_true h.2.1
  ·show sS r t L hd s = _
   unfold sS
   rw [h, if_pos rfl]
   cases bA L (s.goto (s.k + 2)) [⟨#[60, 45]⟩] <;> rfl

theorem aKf {r : Rec} (c : gE r) {p : Nat} {L : List Tok} {hd : Bool} {x0 : Xs} {h : aE} {Q : bW → Prop} {tk : Tok} (ps : bG h p L hd x0)
  (hq0 : aU (VN (fun j => h.next ≤ j)) p L hd h Q (x0.run (sS r tk L hd))) : aP Tryz.prog G X 125 [pV p, .int .i64 tk.pos] h Q := by
 have hp := ps.lt
 have hz := ps.wf.size
 refine Wk Tryz.func125 Tryz.ntmps125 (w:=QN (Mw (w:=QO (Mb (w:=QO (Ma (w:=MJ gG (w:=cN (L := L) (hd := hd) (x := x0) (aQ) fun h1 g1 => ?_))))))))
 have hn1 := nx g1.1
 have ps1 : bG h1 p L hd x0 := aQ
 have hfo : ∀ {w : ByteArray} {h : aE} {Q : bW → Prop}, bG h p L hd x0 → (∀ h', Gr h h' → Q (.ret (.bool (dL (aF L (x0.st.k + 1)) w)) h')) → aP Tryz.prog G X 95 [pV p, .string w] h Q := fun ps hq => wM (x := x0) ps hq
 obtain ⟨nb, hnb⟩ : ∃ b, xM L x0 = b := ⟨_, rfl⟩
 generalize htn : aF L x0.st.k = tn at *
 refine Mw (w:=Mv (w:=QL (QU ?_)))
 refine WC.cut (N' := fun e h' => e 7 = some (.bool nb) ∧ e 0 = some (pV p) ∧ e 1 = some (.int .i64 tk.pos) ∧ e 4 = some (.pointer (some ⟨h.next, 0, none⟩)) ∧ e 5 = some (.slice none 0 0) ∧ e 6 = some (.pointer (some ⟨h1.next, 0, none⟩)) ∧ bG h' p L hd x0 ∧ bB p h h' ∧ h'.obj h.next = some (Z0) ∧ h'.obj h1.next = some (.cells false tn.cells) ∧ h1.next < h'.next) ?_ ?_
 ·obtain ⟨j1, br1, hj1, hp1, hl1⟩ := ps1.tok
  cases x0 with
  | dead e s =>
   have hb1 := ps1.dA
   generalize hbd : Xs.bad L (Xs.dead e s) = bd at *
   subst hnb
   refine QV (Ma (w:=Mi (w:=Mj (w:=Mt (w:=MF (w:=fun hh => by omega) (v:=fun hh => Ma (w:=MA (w:=MA (w:=MA (w:=Md (w:=Ma (w:=MA (w:=MA (w:=Md (w:=Mb (w:=QL ?_))))))))))))))))
   exact ⟨by simp [*, bE, xM], aD, aD, aD, aD, aD, aQ, aI, aA, aA, aB⟩
  | live s =>
   have hb1 : Xs.bad L (Xs.live s) = -1 := rfl
   rw [hb1] at hp1
   have htn : aF L s.k = tn := htn
   have hnb : (decide (tn.kind = 1) && dL (aF L (s.k + 1)) ⟨#[58, 61]⟩) = nb := by rw [← htn]; exact hnb
   subst hnb
   refine QV (Ma (w:=Mi (w:=Mj (w:=Mt (w:=MF (w:=fun hh => Ma (w:=Mj (w:=Mt (w:=MD (w:=fun hh => Mc (w:=Ma (w:=Ma (w:=QK ?_)))) (v:=fun hh => Mc (w:=Ma (w:=MA (w:=MA (w:=Md (w:=Mb (w:=QL ?_))))))))))) (v:=fun hh => by omega))))))
   ·refine QJ aMd ?_
    refine hfo (aQ) fun h4 g4 => ?_
    have hn4 := nx g4.1
    rw [decide_eq_true (show tn.kind = 1 by assumption), Bool.true_and]
    generalize dL (aF L (s.k + 1)) ⟨#[58, 61]⟩ = lb at *
    cases lb
    all_goals
     refine Mc (w:=Mb (w:=QL ?_))
     exact ⟨by simp [*, bE], aD, aD, aD, aD, aD, aQ, aI, aA, aA, aB⟩
   ·rw [decide_eq_false (show ¬ tn.kind = 1 by assumption), Bool.false_and]
    exact ⟨by simp [*, bE], aD, aD, aD, aD, aD, aQ, aI, aA, aA, aB⟩
 rintro e2 h2 ⟨e7, e0, e1, e4, e5, e6, ps2, fr2, ho4, ho6, hn2⟩
 have hnn2 := fr2.1
 refine QU (QN (Ma (w:=QL ?_)))
 refine WC.cut (N' := fun e h' => ∃ x kids b n es, kids.length ≤ 1 ∧ e 0 = some (pV p) ∧ e 1 = some (.int .i64 tk.pos) ∧ e 4 = some (.pointer (some ⟨h.next, 0, none⟩)) ∧ e 5 = some (.slice b n es) ∧ bG h' p L hd x ∧ bB p h h' ∧ h'.obj h.next = some (Z0) ∧ h1.next < h'.next ∧
  KV h' (fun j => h.next < j ∧ j ≠ h1.next) b n es kids ∧ aU (VN fun j => h.next ≤ j) p L hd h Q (x.run fun s => wP r tk L hd kids s)) ?_ ?_
 ·cases nb with
  | false =>
   rw [aD8 hnb] at hq0
   refine QS (UA ?_)
   exact ⟨x0, [], none, 0, 0, by simp, aD, aD, aD, aD, aQ, aI, aA, aB, KV.nil _ _, hq0⟩
  | true =>
   obtain ⟨s0, rfl, hk1, hk5, he⟩ := aDm (r := r) (t := tk) (hd := hd) hnb
   rw [he] at hq0
   clear he
   have hm2 : s0.k + 2 < L.length := ps.wf.toWF.more (ps.wf.toWF.more ps.at_ (by show (aF L s0.k).kind ≠ 6; omega)) (by omega)
   rw [show aF L s0.k = tn from htn] at hq0
   obtain ⟨hk9, j9, br9, hj9, hp9, hl9⟩ := ps2.live
   refine QR (QN (Ma (w:=Mi (w:=Mj (w:=Mt (w:=Mf (w:=Mi (w:=Mj (w:=Mv (w:=QO (Ma (w:=Mj (w:=Mt (w:=Mj (w:=Mt (w:=MJ cL (w:=bN fun h3 g3 => ?_)))))))))))))))))
   have hn3 := nx g3.1
   refine Mz (w:=QK ?_)
   have ps3 : bG h3 p L hd (.live (s0.goto (s0.k + 2))) := bG.gr (bG.aJj ps2 aA hm2) g3
   generalize s0.goto (s0.k + 2) = s1 at *
   refine WS.jO (S := fun j => h.next < j ∧ j ≠ h1.next) (S2 := fun j => (h.next < j ∧ j ≠ h1.next) ∧ True) (tr := nd 7 tn tn.text []) (KV.nil _ _) aA (NV.leaf _ _ _ _ _ _) (fun x hx _ => ⟨hx.1, fun off e => by cases e⟩) rfl rfl aD aD rfl rfl (by intro k hk; cases hk) (aX rfl) (by unfold room; omega) ?_
   intro hA hnhA hkhA hfhA kvhA
   simp only [UB, UC] at hnhA hkhA hfhA kvhA
   have kvhA := kvhA.mono (S' := fun j => h.next < j ∧ j ≠ h1.next) (Nat.le_refl _) (fun j hj _ => ⟨by omega, rfl⟩)
   have hohA : (hA).obj h.next = some (Z0) := (hkhA _ (by omega) (by omega)).trans aA
   have pshA : bG hA p L hd (.live s1) := bG.bH (aQ) aB fun j hj => hkhA j (by omega) (by omega)
   have frhA : bB p h hA := bB.bH aI aB fun j hj => hkhA j (by omega) (by omega)
   have hoA6 : hA.obj h1.next = some (.cells false tn.cells) := (hkhA _ (by omega) (by omega)).trans aA
   refine Mb (w:=QO (Ma (w:=MJ gY (w:=gX (L := L) (hd := hd) (x := .live s1) (aQ) fun h5 g5 => ?_))))
   have hn5 := nx g5.1
   cases hb5 : Xs.is L [⟨#[60, 45]⟩] (.live s1)
   ·have hs5 : bA L s1 [⟨#[60, 45]⟩] = false := hb5
    rw [hs5, if_neg Bool.false_ne_true] at hq0
    refine Me (w:=QQ (QN (Ma (w:=MJ oM (w:=eI (L := L) (hd := hd) (x := .live s1) (aQ) fun h6 ps6 fr6 => ?_)))))
    have hn6 := nx fr6.1
    refine Mv (w:=QM ?_)
    refine ⟨_, aJ, ?_⟩
    exact hq0.q6 eY aQ aI ⟨none, 0, 0, rfl, NV.leaf _ _ _ _ _ _⟩
   ·have hs5 : bA L s1 [⟨#[60, 45]⟩] = true := hb5
    rw [hs5, if_pos rfl] at hq0
    refine Me (w:=QP (UA ?_))
    exact ⟨.live s1, [nd 7 tn tn.text []], _, _, _, by simp, aD, aD, aD, aD, aQ, aI, aA, aB, kvhA.kp, hq0⟩
 clear e0 e1 e4 e5 e6 e7 ho4 ho6 ps2 fr2 hnn2
 rintro e9 h9 ⟨x9, kids, b9, n9, es9, hkl, e0, e1, e4, e5, ps9, fr9, ho9, hn9, kv9, hq9⟩
 have hnn9 := fr9.1
 have hl9 := kv9.len
 unfold wP at hq9
 refine QN (Ma (w:=MJ qX (w:=lV (L := L) (hd := hd) (x := x9) (aQ) fun h10 ps10 fr10 => ?_)))
 have hn10 := nx fr10.1
 cases hb10 : Xs.is L [⟨#[60, 45]⟩] x9
 ·rw [Xs.gT hb10] at ps10
  rw [Xs.lQ hb10] at hq9
  refine Mb (w:=QL (QU (QN (Ma (w:=QP (UA (QN (Ma (w:=MJ wV (w:=c.cS (hd := hd) (aQ) (Eu hq9 (k:=fun t11 x11 h11 b11 n11 es11 ps11 fr11 kv11 hn11 hq11 => ?_))))))))))))
  refine Mw (w:=Mv (w:=QO (Ma (w:=MJ dU (w:=bO (hd := hd) (aQ) (aU.use (hd' := hd) aI hq11 fun tk12 x12 h12 v12 ps12 fr12 hv12 hq12 => ?_))))))
  obtain ⟨rfl, rfl⟩ := hv12
  have hn12 := nx fr12.1
  refine QO (Ma (w:=MJ iW (w:=c.expr (hd := hd) (aQ) (Eu hq12 (k:=fun t13 x13 h13 b13 n13 es13 ps13 fr13 kv13 hn13 hq13 => ?_)))))
  refine Mw (w:=Mv (w:=QO (Ma (w:=MJ aCk (w:=rZ c (hd := hd) (aQ) (Eu hq13 (k:=fun t14 x14 h14 b14 n14 es14 ps14 fr14 kv14 hn14 hq14 => ?_)))))))
  refine Mw (w:=Mv (w:=QO (Ma (w:=Mu (w:=Mu (w:=Mu (w:=Mz (w:=MJ cL (w:=bN fun h15 g15 => ?_)))))))))
  have hn15 := nx g15.1
  refine Mv (w:=QM ?_)
  refine ⟨_, aJ, ?_⟩
  refine hq14.fin aQ aI ⟨_, _, _, rfl, NV.aN ?_ _ _ _ _ _ _⟩
  apply KV.sX (S := fun j => h.next ≤ j ∧ j < h14.next)
  (· exact aA); (· rfl); (· exact aB); (· exact aB); (· exact (kv11.kp)); (· exact (kv13.kp)); (· exact (kv14.kp)); (· exact fun j hS hj => ⟨hS.1, by have := hS.2; exact aB⟩)
 ·obtain ⟨s10, rfl, hs10⟩ := Xs.fZ hb10
  rw [Xs.iE hs10] at ps10
  rw [Xs.a8, if_pos hs10] at hq9
  refine Mb (w:=QL (QU (QN (Ma (w:=QQ (QN (Ma (w:=MJ y9 (w:=c.unary (hd := hd) (aQ) (El hq9 (k:=fun t11 x11 h11 b11 n11 es11 ps11 fr11 kv11 hn11 hq11 => ?_)))))))))))
  refine Mw (w:=Mv (w:=QO (Ma (w:=MJ aCk (w:=rZ c (hd := hd) (aQ) (Eu hq11 (k:=fun t14 x14 h14 b14 n14 es14 ps14 fr14 kv14 hn14 hq14 => ?_)))))))
  refine Mw (w:=Mv (w:=QO (Ma (w:=Mu (w:=Mz (w:=QK ?_))))))
  refine WS.jO (S := fun j => h.next < j ∧ j ≠ h1.next) (S2 := fun j => (h.next < j ∧ j ≠ h1.next) ∧ h10.next ≤ j) (tr := t11) (kv9.kp) aA (kv11.kp) (fun x hx _ => ⟨hx.1, kv9.ge x (by omega)⟩) rfl rfl aD aD rfl rfl (by intro k hk; cases hk) (aX rfl) (by unfold room; omega) ?_
  intro hA hnhA hkhA hfhA kvhA
  simp only [UB, UC] at hnhA hkhA hfhA kvhA
  have kvhA := kvhA.mono (S' := fun j => h.next < j ∧ j ≠ h1.next) (Nat.le_refl _) (fun j hj _ => ⟨by omega, rfl⟩)
  have hohA : (hA).obj h.next = some (Z0) := (hkhA _ (by omega) (by omega)).trans aA
  have pshA : bG hA p L hd x14 := bG.bH (aQ) aB fun j hj => hkhA j (by omega) (by omega)
  have frhA : bB p h hA := bB.bH aI aB fun j hj => hkhA j (by omega) (by omega)
  have hvA : NV hA (fun j => h11.next ≤ j ∧ j < h14.next) (aH t14 b14 n14 es14) t14 := kv14.mono aB (fun j hS hj => by (try simp only [UB, UC] at hS); exact ⟨⟨aB, hj⟩, (hfhA j (by omega) (kv9.ge j (by omega))).trans bJ⟩)
  have hoA6 : hA.obj (h14.next) = some (.cells false (aH t14 b14 n14 es14)) := (hfhA _ (by omega) (kv9.ge _ (by omega))).trans aA
  refine Mb (w:=QO (Ma (w:=Mu (w:=Mz (w:=QK ?_)))))
  refine WS.jO (S := fun j => h.next < j ∧ j ≠ h1.next) (S2 := fun j => (h.next < j ∧ j ≠ h1.next) ∧ (h11.next ≤ j ∧ j < h14.next)) (tr := t14) (kvhA.kp) aA (hvA.kp) (fun x hx _ => ⟨hx.1, fun off e => by cases e; have := hx.2.2; exact aB⟩) rfl rfl aD aD rfl rfl (by intro k hk; cases hk) (aX rfl) (by unfold room; omega) ?_
  intro hB hnhB hkhB hfhB kvhB
  simp only [UB, UC] at hnhB hkhB hfhB kvhB
  have kvhB := kvhB.mono (S' := fun j => h.next < j ∧ j ≠ h1.next) (Nat.le_refl _) (fun j hj _ => ⟨by omega, rfl⟩)
  have hohB : (hB).obj h.next = some (Z0) := (hkhB _ (by omega) (by omega)).trans aA
  have pshB : bG hB p L hd x14 := bG.bH (aQ) aB fun j hj => hkhB j (by omega) (by omega)
  have frhB : bB p h hB := bB.bH aI aB fun j hj => hkhB j (by omega) (by omega)
  refine Mb (w:=QO (Ma (w:=Ma (w:=MJ cL (w:=bN fun h15 g15 => ?_)))))
  have hn15 := nx g15.1
  refine Mv (w:=QM ?_)
  refine ⟨_, aJ, ?_⟩
  exact hq14.fin aQ aI ⟨_, _, _, rfl, NV.aN (kvhB.kp) _ _ _ _ _ _⟩

def kV (n : Nat) (r : Rec) (o : Bool) : PF Nd := fun L hd s =>
 if bA L s [⟨#[100, 101, 102, 97, 117, 108, 116]⟩] then (dN r L hd s.next).then fun b s' => .ok (nd (if o then 24 else 26) (aF L s.k) ⟨#[100, 101, 102, 97, 117, 108, 116]⟩ [b]) s'
 else (bI L s ⟨#[99, 97, 115, 101]⟩).then fun _ s' => if o then (r.expr L hd s').then fun e s2 => (fQ r L hd n [e] s2).then fun kids s3 => (dN r L hd s3).then fun b s4 => .ok (nd 24 (aF L s.k) ⟨#[99, 97, 115, 101]⟩ (kids ++ [b])) s4
  else sS r (aF L s.k) L hd s'
theorem wQ (n : Nat) (r : Rec) (o : Bool) (L : List Tok) (hd : Bool) (s : St) : (if o then lS n r L hd s else sY r L hd s) = kV n r o L hd s := by cases o <;> rfl
theorem aAb {V : aE → Nd → Value → Prop} {hd hd' : Bool} {m : Nat} {r : Rec} {x : Xs} {kids : List Nd} {K : List Nd → St → R Nd} (hx : x.is L [⟨#[44]⟩] = false)
  (hq : aU V p L hd h Q (x.run fun s => (fQ r L hd' m kids s).then K)) : aU V p L hd h Q (x.run fun s => K kids s) := by
 cases x with
 | dead e s => exact hq
 | live s =>
  cases m with
  | zero => exact (hq.1 rfl).elim
  | succ m =>
   have hx : bA L s [⟨#[44]⟩] = false := hx
   rw [Xs.a8] at hq
   unfold fQ at hq
   rw [hx, if_neg Bool.false_ne_true] at hq
   exact hq

theorem aFi {r : Rec} {n : Nat} (hn : n ≤ 1000000) (c : gE r) {p : Nat} {L : List Tok} {hd : Bool} {s0 : St} {h : aE} {Q : bW → Prop} {o : Bool} (ps : bG h p L hd (.live s0))
  (hq0 : aU (VN (fun j => h.next ≤ j)) p L hd h Q (kV n r o L hd s0)) : aP Tryz.prog G X 108 [pV p, .bool o] h Q := by
 have hp := ps.lt
 have hz := ps.wf.size
 unfold kV at hq0
 generalize htk : aF L s0.k = tk at *
 refine Wk Tryz.func108 Tryz.ntmps108 (w:=QN (Mw (w:=QO (Ma (w:=MJ gG (w:=cN (L := L) (hd := hd) (x := .live s0) (aQ) fun h1 g1 => ?_))))))
 have hn1 := nx g1.1
 rw [show aF L (Xs.live s0).st.k = tk from htk]
 refine Mk (w:=Mb (w:=QO (Mb (w:=QL (QU (QN (Ma (w:=QL ?_))))))))
 refine WC.cut (N' := fun e h' => e 0 = some (pV p) ∧ e 1 = some (.bool o) ∧ e 4 = some (.pointer (some ⟨h.next, 0, none⟩)) ∧ e 5 = some (.int .i64 tk.pos) ∧ e 6 = some (.int .i64 (if o then 24 else 26)) ∧ bG h' p L hd (.live s0) ∧ bB p h h' ∧ h'.obj h.next = some (Z0) ∧ h.next < h'.next) ?_ ?_
 ·cases o
  ·refine QS (UA ?_)
   exact ⟨aD, aD, aD, aD, rfl, aQ, aI, aA, aB⟩
  ·refine QR (QV (Mb (w:=QL ?_)))
   exact ⟨aD, aD, aD, aD, rfl, aQ, aI, aA, aB⟩
 rintro e2 h2 ⟨e0, e1, e4, e5, e6, ps2, fr2, ho2, hn2⟩
 have hnn2 := fr2.1
 generalize hki : (if o = true then (24 : Int) else 26) = ki at *
 refine QN (Ma (w:=MJ qX (w:=lV (L := L) (hd := hd) (x := .live s0) (aQ) fun h3 ps3 fr3 => ?_)))
 have hn3 := nx fr3.1
 cases hb3 : Xs.is L [⟨#[100, 101, 102, 97, 117, 108, 116]⟩] (.live s0)
 case true =>
  have hs3 : bA L s0 [⟨#[100, 101, 102, 97, 117, 108, 116]⟩] = true := hb3
  rw [Xs.iE hb3] at ps3
  rw [hs3, if_pos rfl] at hq0
  refine Mb (w:=QL (QU (QN (Ma (w:=QQ (QN (Ma (w:=MJ aCk (w:=rZ c (hd := hd) (x := .live s0.next) (aQ) (El hq0 (k:=fun t14 x14 h14 b14 n14 es14 ps14 fr14 kv14 hn14 hq14 => ?_)))))))))))
  refine Mw (w:=Mv (w:=QO (Ma (w:=Ma (w:=Mu (w:=Mz (w:=MJ cL (w:=bN fun h15 g15 => ?_))))))))
  have hn15 := nx g15.1
  refine Mv (w:=QM ?_)
  refine ⟨_, aJ, ?_⟩
  exact hq14.fin aQ aI ⟨_, _, _, rfl, NV.aN (KV.one (S := fun j => h.next ≤ j ∧ j < h14.next) aB aB aA (kv14.kp) (fun j hS hj => ⟨hS.1, by have := hS.2; exact aB⟩)) _ _ _ _ _ _⟩
 have hs3 : bA L s0 [⟨#[100, 101, 102, 97, 117, 108, 116]⟩] = false := hb3
 rw [Xs.gT hb3] at ps3
 rw [hs3, if_neg Bool.false_ne_true] at hq0
 refine Mb (w:=QL (QU (QN (Ma (w:=QP (UA (QN (Ma (w:=MJ dU (w:=bO (hd := hd) (aQ) (aU.kH (hd' := hd) aI hq0 fun tk4 x4 h4 v4 ps4 fr4 hv4 hq4 => ?_)))))))))))
 obtain ⟨rfl, rfl⟩ := hv4
 have hn4 := nx fr4.1
 cases o with
 | false =>
  simp only [Bool.false_eq_true, if_false] at hq4
  rw [Xs.aA7] at hq4
  refine QL (QU (QN (Ma (w:=Me (w:=QQ (QN (Ma (w:=Ma (w:=MJ aL1 (w:=aKf c (hd := hd) (aQ) (Eu hq4 (k:=fun t5 x5 h5 b5 n5 es5 ps5 fr5 kv5 hn5 hq5 => ?_))))))))))))
  refine Mv (w:=QM ?_)
  refine ⟨_, aJ, ?_⟩
  exact hq5.fin aQ aI ⟨_, _, _, rfl, kv5.kp⟩
 | true =>
  simp only [if_true] at hq4 hki
  subst hki
  refine QL (QU (QN (Ma (w:=Me (w:=QP (UA (QN (Ma (w:=MJ iW (w:=c.expr (hd := hd) (aQ) (Eu hq4 (k:=fun t5 x5 h5 b5 n5 es5 ps5 fr5 kv5 hn5 hq5 => ?_))))))))))))
  refine Mz (w:=Mb (w:=QL (QU (Bk ?_))))
  refine WC.fW 0 (fun e h' => ∃ x kids b n es, e 0 = some (pV p) ∧ e 4 = some (.pointer (some ⟨h.next, 0, none⟩)) ∧ e 5 = some (.int .i64 tk.pos) ∧ e 6 = some (.int .i64 24) ∧ e 9 = some (.slice b n es) ∧ bG h' p L hd x ∧ bB p h h' ∧ h'.obj h.next = some (Z0) ∧ h.next < h'.next ∧ kids.length ≤ 1000001 ∧
   KV h' (fun j => h.next < j) b n es kids ∧ aU (VN fun j => h.next ≤ j) p L hd h Q (x.run fun s => (dN r L hd s).then fun b s4 => .ok (nd 24 tk ⟨#[99, 97, 115, 101]⟩ (kids ++ [b])) s4)) ?_ ?_
  ·refine WC.bK hX (α := Nat × List Nd × Xs) (m := fun a => a.1) (Inv := fun a e h' => ∃ b n' es, e 0 = some (pV p) ∧ e 4 = some (.pointer (some ⟨h.next, 0, none⟩)) ∧ e 5 = some (.int .i64 tk.pos) ∧ e 6 = some (.int .i64 24) ∧ e 9 = some (.slice b n' es) ∧ bG h' p L hd a.2.2 ∧ bB p h h' ∧ h'.obj h.next = some (Z0) ∧ h.next < h'.next ∧ a.1 + a.2.1.length ≤ n + 1 ∧
    KV h' (fun j => h.next < j) b n' es a.2.1 ∧ aU (VN fun j => h.next ≤ j) p L hd h Q (a.2.2.run fun s => (fQ r L hd a.1 a.2.1 s).then fun kids s3 => (dN r L hd s3).then fun b s4 => .ok (nd 24 tk ⟨#[99, 97, 115, 101]⟩ (kids ++ [b])) s4))
    (n, [t5], x5) ⟨_, _, _, aD, aD, aD, aD, rfl, aQ, aI, aA, aB, by simp, KV.one (S := fun j => h.next < j ∧ j < h5.next) aB aB aA (kv5.kp) (fun j hS hj => ⟨hS.1, by have := hS.2; exact aB⟩), hq5⟩ ?_
   rintro ⟨m, kids, x6⟩ env h6 ih ⟨b6, n6, es6, e0, e4, e5, e6, e9, ps6, fr6, ho6, hn6, hm6, kv6, hq6⟩
   simp only at ps6 hm6 kv6 hq6
   have hnn6 := fr6.1
   have hl6 := kv6.len
   refine QU (QN (Ma (w:=MJ qX (w:=lV (L := L) (hd := hd) (x := x6) (aQ) fun h7 ps7 fr7 => ?_))))
   have hn7 := nx fr7.1
   cases hb7 : Xs.is L [⟨#[44]⟩] x6
   ·rw [Xs.gT hb7] at ps7
    have hq6 := aAb hb7 hq6
    refine QP (WC.exit ?_)
    exact ⟨rfl, x6, kids, b6, n6, es6, e0, e4, e5, e6, e9, aQ, aI, aA, aB, by omega, kv6.kp, hq6⟩
   ·obtain ⟨s7, rfl, hs7⟩ := Xs.fZ hb7
    rw [Xs.iE hs7] at ps7
    rw [Xs.a8] at hq6
    obtain ⟨m, rfl⟩ : ∃ m', m = m' + 1 := by
     cases m with
     | zero => exact (hq6.1 rfl).elim
     | succ m => exact ⟨m, rfl⟩
    unfold fQ at hq6
    rw [hs7, if_pos rfl, R.then_assoc] at hq6
    refine QQ (UA (Bk (QN (Ma (w:=MJ iW (w:=c.expr (hd := hd) (aQ) (El hq6 (k:=fun t8 x8 h8 b8 n8 es8 ps8 fr8 kv8 hn8 hq8 => ?_))))))))
    refine Mw (w:=Mv (w:=QL (QV (Ma (w:=Mu (w:=Mz (w:=QK ?_)))))))
    refine WS.jO (S := fun j => h.next < j) (S2 := fun j => h7.next ≤ j) (tr := t8) (kv6.kp) aA (kv8.kp) (fun x hx _ => ⟨by omega, kv6.ge x (by omega)⟩) rfl rfl aD aD rfl rfl (by intro k hk; cases hk) (aX rfl) (by unfold room; omega) ?_
    intro hA hnhA hkhA hfhA kvhA
    simp only [UB, UC] at hnhA hkhA hfhA kvhA
    have kvhA := kvhA.mono (S' := fun j => h.next < j) (Nat.le_refl _) (fun j hj _ => ⟨by omega, rfl⟩)
    have hohA : (hA).obj h.next = some (Z0) := (hkhA _ (by omega) (by omega)).trans aA
    have pshA : bG hA p L hd x8 := bG.bH (aQ) aB fun j hj => hkhA j (by omega) (by omega)
    have frhA : bB p h hA := bB.bH aI aB fun j hj => hkhA j (by omega) (by omega)
    refine Mb (w:=QL ?_)
    exact ih (m, kids ++ [t8], x8) _ _ (by simp) ⟨_, _, _, aD, aD, aD, aD, rfl, aQ, aI, aA, aB, by simp; omega, kvhA.kp, hq8⟩
  ·rintro e9 h9 ⟨x9, kids, b9, n9, es9, e0, e4, e5, e6, e9', ps9, fr9, ho9, hn9, hl9, kv9, hq9⟩
   have hnn9 := fr9.1
   have hlen9 := kv9.len
   refine aG (QN (Ma (w:=MJ aCk (w:=rZ c (hd := hd) (aQ) (Eu hq9 (k:=fun t14 x14 h14 b14 n14 es14 ps14 fr14 kv14 hn14 hq14 => ?_))))))
   refine Mw (w:=Mv (w:=QO (Ma (w:=Mu (w:=Mz (w:=QK ?_))))))
   refine WS.jO (S := fun j => h.next < j) (S2 := fun j => h9.next ≤ j) (tr := t14) (kv9.kp) aA (kv14.kp) (fun x hx _ => ⟨by omega, kv9.ge x (by omega)⟩) rfl rfl aD aD rfl rfl (by intro k hk; cases hk) (aX rfl) (by unfold room; omega) ?_
   intro hA hnhA hkhA hfhA kvhA
   simp only [UB, UC] at hnhA hkhA hfhA kvhA
   have kvhA := kvhA.mono (S' := fun j => h.next < j) (Nat.le_refl _) (fun j hj _ => ⟨by omega, rfl⟩)
   have hohA : (hA).obj h.next = some (Z0) := (hkhA _ (by omega) (by omega)).trans aA
   have pshA : bG hA p L hd x14 := bG.bH (aQ) aB fun j hj => hkhA j (by omega) (by omega)
   have frhA : bB p h hA := bB.bH aI aB fun j hj => hkhA j (by omega) (by omega)
   refine Mb (w:=QO (Ma (w:=Ma (w:=Ma (w:=MJ cL (w:=bN fun h15 g15 => ?_))))))
   have hn15 := nx g15.1
   refine Mv (w:=QM ?_)
   refine ⟨_, aJ, ?_⟩
   exact hq14.fin aQ aI ⟨_, _, _, rfl, NV.aN (kvhA.kp) _ _ _ _ _ _⟩

def E0 : aE := ⟨0, fun _ => none⟩
theorem fr0 (p : Nat) (h : aE) : bB p E0 h := ⟨Nat.zero_le _, fun j hj => absurd hj (Nat.not_lt_zero _)⟩
def three (f c l : Nd) (bf bc bl : Option Addr × Nat × Nat) : List Value := aH f bf.1 bf.2.1 bf.2.2 ++ aH c bc.1 bc.2.1 bc.2.2 ++ aH l bl.1 bl.2.1 bl.2.2
def VB (h0 : aE) (p jk : Nat) (h' : aE) (a : (Nd × Nd) × Bool) (v : Value) : Prop :=
 v = .bool a.2 ∧ h0.next ≤ h'.next ∧ (∀ i, i < h0.next → i ≠ p → i ≠ jk → h'.obj i = h0.obj i) ∧ ∃ bf bc : Option Addr × Nat × Nat, h'.obj jk = some (.cells false (three a.1.1 a.1.2 aY bf bc (none, 0, 0))) ∧ NV h' (fun j => h0.next ≤ j) (aH a.1.1 bf.1 bf.2.1 bf.2.2) a.1.1 ∧ NV h' (fun j => h0.next ≤ j) (aH a.1.2 bc.1 bc.2.1 bc.2.2) a.1.2
def aEn (p jk : Nat) (L : List Tok) (x : Xs) (h : aE) (t : Nd) (b : Option Addr) (n es : Nat) (br un : Bool) (n7 y : Nat) (v : Bool) (e : Env) (h' : aE) : Prop :=
 e y = some (.bool v) ∧ e 0 = some (pV p) ∧ e 1 = some (.slice (some ⟨jk, 0, none⟩) 3 7) ∧ e 5 = some (.bool un) ∧ e 7 = some (.pointer (some ⟨n7, 0, none⟩)) ∧ e 8 = some (.bool br) ∧ bG h' p L true x ∧ bB p h h' ∧ h'.obj n7 = some (.cells false (aH t b n es)) ∧ n7 < h'.next ∧ h.next ≤ n7 ∧ NV h' (fun j => h.next ≤ j ∧ j ≠ n7) (aH t b n es) t

theorem aH5 {r : Rec} (c : gE r) {p jk : Nat} {L : List Tok} {s0 : St} {h : aE} {Q : bW → Prop} (ps : bG h p L true (.live s0)) (hpj : p < jk) (hjk : jk < h.next) (hok : h.obj jk = some (.cells false (three aY aY aY (none, 0, 0) (none, 0, 0) (none, 0, 0))))
  (hq0 : aU (VB h p jk) p L true E0 Q (uC r L s0)) : aP Tryz.prog G X 123 [pV p, .slice (some ⟨jk, 0, none⟩) 3 7] h Q := by
 have hp := ps.lt
 unfold uC at hq0
 refine Wk Tryz.func123 Tryz.ntmps123 (w:=QN (Mb (w:=QO (Ma (w:=MJ o7 (w:=eR (L := L) (hd := true) (x := .live s0) (ws := [⟨#[45]⟩, ⟨#[33]⟩, ⟨#[60, 45]⟩]) (by decide +kernel) (by decide) (aQ) fun h1 g1 => ?_))))))
 have hn1 := nx g1.1
 refine Mb (w:=QO (Ma (w:=MJ gY (w:=gX (L := L) (hd := true) (x := .live s0) (aQ) fun h2 g2 => ?_))))
 have hn2 := nx g2.1
 generalize hun : Xs.is L [⟨#[45]⟩, ⟨#[33]⟩, ⟨#[60, 45]⟩] (.live s0) = un at *
 generalize hrc : Xs.is L [⟨#[60, 45]⟩] (.live s0) = rc at *
 have hun : bA L s0 [⟨#[45]⟩, ⟨#[33]⟩, ⟨#[60, 45]⟩] = un := hun
 have hrc : bA L s0 [⟨#[60, 45]⟩] = rc := hrc
 rw [hun, hrc] at hq0
 refine Mb (w:=QO (Ma (w:=MJ iW (w:=c.aBw (hd := true) (x := .live s0) (aQ) (aU.aI1 (hd' := true) (h := E0) (by exact ⟨Nat.zero_le _, fun j hj => absurd hj (Nat.not_lt_zero _)⟩) hq0 fun t3 x3 h3 v3 ps3 bx3 fr3 hv3 hq3 => ?_)))))
 obtain ⟨b3, n3, es3, rfl, kv3⟩ := hv3
 have hn3 := nx fr3.1
 obtain ⟨sl3, k3, bd3, hw3, ho3⟩ := bx3
 obtain ⟨j3, br3, hj3, hp3, hl3⟩ := ps3.tok
 cases ho3.symm.trans hp3
 have hok3 : h3.obj jk = some (.cells false (three aY aY aY (none, 0, 0) (none, 0, 0) (none, 0, 0))) := aA
 cases x3 with
 | dead e s =>
  have hb3 := ps3.dA
  generalize hbd : Xs.bad L (Xs.dead e s) = bd at *
  refine Mw (w:=Mv (w:=QO (Ma (w:=Mi (w:=Mj (w:=Mt (w:=Mb (w:=QL (QU (QN (Ma (w:=Mi (w:=Mj (w:=Mt (w:=MI (w:=fun hh => QQ (QN (Mb (w:=QM ?_)))) (v:=fun hh => by omega))))))))))))))))
  refine ⟨_, aJ, ?_⟩
  exact hq3.2 _ _ (.dead e s) ((aY, aY), false) rfl aQ (fr0 _ _) ⟨rfl, aB, fun i hi hip hij => bJ, (none, 0, 0), (none, 0, 0), aA, NV.none _ _, NV.none _ _⟩
 | live s3 =>
  have hb3 : Xs.bad L (Xs.live s3) = -1 := rfl
  have hbb : (Xs.live s3).st.bare = s3.bare := rfl
  rw [hb3, hbb] at hp3
  rw [Xs.a8] at hq3
  generalize hbr : s3.bare = br at *
  refine Mw (w:=Mv (w:=QO (Ma (w:=Mi (w:=Mj (w:=Mt (w:=Mb (w:=QL (QU (QN (Ma (w:=Mi (w:=Mj (w:=Mt (w:=MI (w:=fun hh => by omega) (v:=fun hh => QP (UA (QU (QN (Ma (w:=MJ gY (w:=gX (L := L) (hd := true) (x := .live s3) (aQ) fun h4 g4 => ?_))))))))))))))))))))))
  have hn4 := nx g4.1
  cases hb4 : Xs.is L [⟨#[123]⟩] (.live s3)
  case true =>
   have hs4 : bA L s3 [⟨#[123]⟩] = true := hb4
   rw [hs4, if_pos rfl] at hq3
   refine QQ (QN (Ma (w:=Mu (w:=Ml (w:=Mv (w:=QO (Mb (w:=QM ?_))))))))
   refine ⟨_, aJ, ?_⟩
   exact hq3.2 _ _ (.live s3) ((aY, t3), false) rfl aQ (fr0 _ _) ⟨rfl, aB, fun i hi hip hij => bJ, (none, 0, 0), (b3, n3, es3), aA, NV.none _ _, kv3.kp⟩
  have hs4 : bA L s3 [⟨#[123]⟩] = false := hb4
  rw [hs4, if_neg Bool.false_ne_true] at hq3
  refine QP (UA (QU (QU ?_)))
  refine WC.cut (N' := aEn p jk L (.live s3) h t3 b3 n3 es3 br un h3.next 38 ((rc && decide (t3.kind = 41)) && Xs.is L [⟨#[59]⟩] (.live s3))) ?_ ?_
  ·cases rc
   ·refine QV (Ma (w:=Ma (w:=MA (w:=MA (w:=MA (w:=Md (w:=Ma (w:=MA (w:=MA (w:=Md (w:=QL ?_)))))))))))
    exact ⟨by simp [*, bE], aD, aD, aD, aD, aD, aQ, aI, aA, aB, aB, kv3.kp⟩
   ·refine QV (Ma (w:=Ma (w:=Mj (w:=Mt (w:=MD (w:=fun hh => Mc (w:=Ma (w:=Ma (w:=QK ?_)))) (v:=fun hh => Mc (w:=Ma (w:=MA (w:=MA (w:=Md (w:=QL ?_)))))))))))
    ·refine QJ gY ?_
     refine gX (L := L) (hd := true) (x := .live s3) (aQ) fun h5 g5 => ?_
     have hn5 := nx g5.1
     cases hb5 : Xs.is L [⟨#[59]⟩] (.live s3)
     all_goals
      refine Mc (w:=QL ?_)
      exact ⟨by simp [*, bE], aD, aD, aD, aD, aD, aQ, aI, aA, aB, aB, kv3.kp⟩
    ·exact ⟨by simp [*, bE], aD, aD, aD, aD, aD, aQ, aI, aA, aB, aB, kv3.kp⟩
  rintro e5 h5 ⟨et, e0, e1, e5', e7, e8, ps5, fr5, ho5, hn5, hn5b, kv5⟩
  have hnn5 := fr5.1
  have hok5 : h5.obj jk = some (.cells false (three aY aY aY (none, 0, 0) (none, 0, 0) (none, 0, 0))) := aA
  have hif : ((rc && decide (t3.kind = 41)) && Xs.is L [⟨#[59]⟩] (.live s3)) = (rc && decide (t3.kind = 41) && bA L s3 [⟨#[59]⟩]) := rfl
  rw [hif] at et
  clear hif
  generalize hv : (rc && decide (t3.kind = 41) && bA L s3 [⟨#[59]⟩]) = v5 at *
  generalize h3.next = n7 at *
  cases v5 with
  | true =>
   rw [if_pos rfl] at hq3
   refine QR (QN (Ma (w:=Mj (w:=Mt (w:=Mu (w:=Mz (w:=MJ cL (w:=bN fun h6 g6 => ?_))))))))
   have hn6 := nx g6.1
   refine Ml (w:=Mv (w:=QO (Mb (w:=QM ?_))))
   refine ⟨_, aJ, ?_⟩
   refine hq3.2 _ _ (.live s3) ((zP 34 t3.pos ⟨#[]⟩ [t3], aY), true) rfl aQ (fr0 _ _) ⟨rfl, aB, fun i hi hip hij => bJ, (some ⟨h5.next, 0, none⟩, 1, 7), (none, 0, 0), aA, NV.aN ?_ _ _ _ _ _ _, NV.none _ _⟩
   exact KV.one (S := fun j => (h.next ≤ j ∧ j ≠ n7) ∧ j < h5.next) aB aB aA (kv5.mono aB (fun j hS hj => ⟨⟨hS, hj⟩, bJ⟩)) (fun j hS hj => ⟨hS.1.1, by have := hS.2; exact aB⟩)
  | false =>
   rw [if_neg Bool.false_ne_true] at hq3
   refine QS (UA (QU (QU ?_)))
   refine WC.cut (N' := aEn p jk L (.live s3) h t3 b3 n3 es3 br un n7 55 (un || (decide (t3.kind = 42) && !br))) ?_ ?_
   ·cases un
    ·refine QV (Ma (w:=Ma (w:=Mj (w:=Mt (w:=MD (w:=fun hh => Ma (w:=Ma (w:=Me (w:=Mc (w:=Md (w:=QL ?_)))))) (v:=fun hh => Ma (w:=MA (w:=MA (w:=Md (w:=Md (w:=QL ?_)))))))))))
     ·cases br
      all_goals
       skip
       exact ⟨by simp [*, bE], aD, aD, aD, aD, aD, aQ, aI, aA, aB, aB, kv5.kp⟩
     ·exact ⟨by simp [*, bE], aD, aD, aD, aD, aD, aQ, aI, aA, aB, aB, kv5.kp⟩
    ·refine QV (Ma (w:=Ma (w:=MA (w:=MA (w:=MA (w:=MA (w:=MA (w:=MA (w:=MA (w:=Mc (w:=QL ?_)))))))))))
     exact ⟨by simp [*, bE], aD, aD, aD, aD, aD, aQ, aI, aA, aB, aB, kv5.kp⟩
   clear e0 e1 e5' e7 e8 et ho5 hn5 kv5 hok5
   rintro e6 h6 ⟨et, e0, e1, e5', e7, e8, ps6, fr6, ho6, hn6, hn6b, kv6⟩
   have hnn6 := fr6.1
   have hok6 : h6.obj jk = some (.cells false (three aY aY aY (none, 0, 0) (none, 0, 0) (none, 0, 0))) := aA
   generalize hv : (un || (decide (t3.kind = 42) && !br)) = v6 at *
   cases v6 with
   | true =>
    rw [if_pos rfl] at hq3
    refine QR (QN (Ma (w:=MJ oM (w:=eI (L := L) (hd := true) (x := .live s3) (aQ) fun h7 ps7 fr7 => ?_))))
    have hn7 := nx fr7.1
    refine QO (Mb (w:=QM ?_))
    refine ⟨_, aJ, ?_⟩
    exact hq3.2 _ _ (Xs.live s3).fail ((aY, aY), false) rfl aQ (fr0 _ _) ⟨rfl, aB, fun i hi hip hij => bJ, (none, 0, 0), (none, 0, 0), aA, NV.none _ _, NV.none _ _⟩
   | false =>
    rw [if_neg Bool.false_ne_true] at hq3
    refine QS (UA (QN (Ma (w:=Ma (w:=Mu (w:=Ma (w:=MJ aDx (w:=aFa c (hd := true) (x0 := .live s3) (S0 := fun j => (h.next ≤ j ∧ j ≠ n7) ∧ j < h6.next) (aQ) (fun j hj => ⟨by omega, by have := hj.2; exact aB⟩) (kv6.mono aB (fun j hS hj => ⟨⟨hS, hj⟩, bJ⟩)) (aU.kH (hd' := true) (h := E0) (by exact ⟨Nat.zero_le _, fun j hj => absurd hj (Nat.not_lt_zero _)⟩) hq3 fun t8 x8 h8 v8 ps8 fr8 hv8 hq8 => ?_)))))))))
    obtain ⟨b8, n8, es8, rfl, kv8⟩ := hv8
    have hn8 := nx fr8.1
    have hok8 : h8.obj jk = some (.cells false (three aY aY aY (none, 0, 0) (none, 0, 0) (none, 0, 0))) := aA
    refine Ml (w:=Mv (w:=QO (Mb (w:=QM ?_))))
    refine ⟨_, aJ, ?_⟩
    exact hq8.fin aQ (fr0 _ _) ⟨rfl, aB, fun i hi hip hij => bJ, (b8, n8, es8), (none, 0, 0), aA, kv8.mono aB (fun j hS hj => by (try simp only [UB, UC] at hS); exact ⟨by omega, bJ⟩), NV.none _ _⟩

theorem aU.aMy {α β : Type} {V : aE → α → Value → Prop} {W : aE → β → Value → Prop} {hd hd' : Bool} {h h1 : aE} {Q Q' : bW → Prop} {x : Xs} {F : St → R α} {g : α → St → R β} (hq : aU W p L hd h Q (x.run fun s => (F s).then g))
  (hok : ∀ a x' h2 v, bG h2 p L hd' x' → bB p h1 h2 → V h2 a v → aU W p L hd h Q (x'.run (g a)) → Q' (.ret v h2)) : aU V p L hd' h1 Q' (x.run F) := by
 rw [← Xs.dQ] at hq
 refine ⟨fun e => hq.1 (by rw [e]; rfl), fun h2 v x' a e ps fr2 hv => hok a x' h2 v ps fr2 hv ?_⟩
 rw [← e, Xs.dQ] at hq
 exact hq
def aB6 (p : Nat) (L : List Tok) (hd : Bool) (h : aE) (tk : Tok) (k6 : Nat) (x : Xs) (f c l : Nd) (e : Env) (h' : aE) : Prop :=
 e 0 = some (pV p) ∧ e 1 = some (.int .i64 tk.pos) ∧ e 4 = some (.pointer (some ⟨h.next, 0, none⟩)) ∧ e 5 = some (.bool hd) ∧ e 6 = some (.slice (some ⟨k6, 0, none⟩) 3 7) ∧ bG h' p L true x ∧ bB p h h' ∧ h'.obj h.next = some (Z0) ∧ h.next < k6 ∧ k6 < h'.next ∧
  ∃ bf bc bl : Option Addr × Nat × Nat, h'.obj k6 = some (.cells false (three f c l bf bc bl)) ∧ NV h' (fun j => h.next < j ∧ j ≠ k6) (aH f bf.1 bf.2.1 bf.2.2) f ∧ NV h' (fun j => h.next < j ∧ j ≠ k6) (aH c bc.1 bc.2.1 bc.2.2) c ∧ NV h' (fun j => h.next < j ∧ j ≠ k6) (aH l bl.1 bl.2.1 bl.2.2) l

theorem aJs {r : Rec} (c : gE r) {p : Nat} {L : List Tok} {hd : Bool} {s0 : St} {h : aE} {Q : bW → Prop} {tk : Tok} (ps : bG h p L hd (.live s0))
  (hq0 : aU (VN (fun j => h.next ≤ j)) p L hd h Q (vQ r tk L hd s0)) : aP Tryz.prog G X 106 [pV p, .int .i64 tk.pos] h Q := by
 have hp := ps.lt
 have hz := ps.wf.size
 obtain ⟨hk0, j0, br0, hj0, hp0, hl0⟩ := ps.live
 unfold vQ at hq0
 refine Wk Tryz.func106 Tryz.ntmps106 (w:=QN (Mw (w:=QO (Ma (w:=Mi (w:=Mj (w:=Mt (w:=Mb (w:=QO (Ma (w:=Mi (w:=Mj (w:=Mv (w:=QO (MJ tI (w:=kN fun h1 g1 => ?_))))))))))))))))
 have hn1 := nx g1.1
 refine MJ tI (w:=kN fun h2 g2 => ?_)
 have hn2 := nx g2.1
 refine MJ tI (w:=kN fun h3 g3 => ?_)
 have hn3 := nx g3.1
 refine Mz (w:=Mb (w:=QL (QU (QN (Ma (w:=MJ gY (w:=gX (L := L) (hd := true) (x := .live s0) (aQ) fun h4 g4 => ?_)))))))
 have hn4 := nx g4.1
 cases hb4 : Xs.is L [⟨#[123]⟩] (.live s0)
 case true =>
  have hs4 : bA L s0 [⟨#[123]⟩] = true := hb4
  rw [hs4, if_pos rfl] at hq0
  unfold rI at hq0
  have ps4 : bG h4 p L true (.live s0) := aQ
  obtain ⟨hk4, j4, br4, hj4, hp4, hl4⟩ := ps4.live
  refine QQ (QN (Ma (w:=Ma (w:=Mi (w:=Mj (w:=Mv (w:=QO (Ma (w:=MJ yA (w:=c.block (hd := hd) (aQ) (El hq0 (k:=fun t5 x5 h5 b5 n5 es5 ps5 fr5 kv5 hn5 hq5 => ?_))))))))))))
  refine Mw (w:=Mv (w:=QO (Ma (w:=Ma (w:=Mu (w:=Mz (w:=QK ?_)))))))
  refine WS.jO (S := fun j => h.next < j) (S2 := fun j => h4.next ≤ j) (tr := t5) (b := some ⟨h3.next, 0, none⟩) (n1 := 3) (es := 7) (kids := [aY, aY, aY]) (KV.sX (i := h3.next) (b := none) (n := 0) (es := 0) (b2 := none) (n2 := 0) (es2 := 0) (b3 := none) (n3 := 0) (es3 := 0) (S := fun j => False) aA rfl aB aB (NV.none _ _) (NV.none _ _) (NV.none _ _) (fun j hj => hj.elim)) aA (kv5.kp) (fun x hx _ => ⟨by omega, fun off e => by cases e; omega⟩) rfl rfl aD aD rfl rfl (by intro k hk; cases hk) (aX rfl) (by unfold room; omega) ?_
  intro hA hnA hkA hfA kvA
  simp only [UB, UC] at hnA hkA hfA kvA
  have psA : bG hA p L hd x5 := bG.bH (aQ) aB fun j hj => hkA j (by omega) (by omega)
  have frA : bB p h hA := bB.bH aI aB fun j hj => hkA j (by omega) (by omega)
  have hoA : hA.obj h.next = some (Z0) := (hkA _ (by omega) (by omega)).trans aA
  refine MJ cL (w:=bN fun h6 g6 => ?_)
  have hn6 := nx g6.1
  refine Mv (w:=QM ?_)
  refine ⟨_, aJ, ?_⟩
  exact hq5.fin aQ aI ⟨_, _, _, rfl, NV.aN (kvA.kp) _ _ _ _ _ _⟩
 have hs4 : bA L s0 [⟨#[123]⟩] = false := hb4
 rw [hs4, if_neg Bool.false_ne_true] at hq0
 generalize hsc : bA L s0 [⟨#[59]⟩] = sc at *
 refine QP (UA (QU ?_))
 refine WC.cut (N' := fun e h' => e 8 = some (.bool true) ∧ aB6 p L hd h tk h3.next (.live s0) aY aY aY e h' ∧ h'.obj h3.next = some (.cells false (three aY aY aY (none, 0, 0) (none, 0, 0) (none, 0, 0)))) ?_ ?_
 ·refine QV (Mb (w:=QL ?_))
  exact ⟨aD, ⟨aD, aD, aD, aD, aD, aQ, aI, aA, aB, aB, (none, 0, 0), (none, 0, 0), (none, 0, 0), aA, NV.none _ _, NV.none _ _, NV.none _ _⟩, aA⟩
 generalize h3.next = k6
 rintro e5 h5 ⟨e8, ⟨e0, e1, e4, e5', e6, ps5, fr5, hoz, hk6, hn5, _⟩, hok5⟩
 have hnn5 := fr5.1
 refine QU (QU ?_)
 refine WC.cut (N' := fun e h' => e 37 = some (.bool (!sc)) ∧ e 8 = some (.bool true) ∧ aB6 p L hd h tk k6 (.live s0) aY aY aY e h' ∧ h'.obj k6 = some (.cells false (three aY aY aY (none, 0, 0) (none, 0, 0) (none, 0, 0)))) ?_ ?_
 ·refine QV (Ma (w:=MJ gY (w:=gX (L := L) (hd := true) (x := .live s0) (aQ) fun h6 g6 => ?_)))
  have hn6 := nx g6.1
  rw [show Xs.is L [⟨#[59]⟩] (.live s0) = sc from hsc]
  cases sc
  all_goals
   refine Me (w:=QL ?_)
   exact ⟨aD, aD, ⟨aD, aD, aD, aD, aD, aQ, aI, aA, aB, aB, (none, 0, 0), (none, 0, 0), (none, 0, 0), aA, NV.none _ _, NV.none _ _, NV.none _ _⟩, aA⟩
 clear e8 e0 e1 e4 e5' e6 ps5 fr5 hoz hn5 hok5 hnn5
 rintro e7 h7 ⟨et, e8, ⟨e0, e1, e4, e5', e6, ps7, fr7, hoz, _, hn7, _⟩, hok7⟩
 have hnn7 := fr7.1
 skip
 refine WC.cut (N' := fun e h' => ∃ x f c b, e 8 = some (.bool b) ∧ aB6 p L hd h tk k6 x f c aY e h' ∧ aU (VN fun j => h.next ≤ j) p L hd h Q (x.run fun s => lY r tk L hd ((f, c), b) s)) ?_ ?_
 ·cases sc with
  | true =>
   rw [if_pos rfl, R.then_ok] at hq0
   refine QS (UA ?_)
   exact ⟨.live s0, aY, aY, true, aD, ⟨aD, aD, aD, aD, aD, aQ, aI, aA, aB, aB, (none, 0, 0), (none, 0, 0), (none, 0, 0), aA, NV.none _ _, NV.none _ _, NV.none _ _⟩, hq0⟩
  | false =>
   rw [if_neg Bool.false_ne_true] at hq0
   refine QR (QV (Ma (w:=Ma (w:=MJ aKo (w:=aH5 c (L := L) (s0 := s0) (aQ) (by omega) (by omega) aA (aU.aMy (x := .live s0) (F := uC r L) hq0 fun a x9 h9 v9 ps9 _ hv9 hq9 => ?_))))))
   obtain ⟨⟨f9, c9⟩, b9⟩ := a
   obtain ⟨rfl, hn9, hf9, bf9, bc9, ho9, nf9, nc9⟩ := hv9
   simp only at ho9 nf9 nc9
   refine Mb (w:=QL ?_)
   refine ⟨x9, f9, c9, b9, aD, ⟨aD, aD, aD, aD, aD, ps9, ⟨by omega, fun i hi hip => (hf9 i (by omega) hip (by omega)).trans (fr7.2 i hi hip)⟩, (hf9 _ (by omega) (by omega) (by omega)).trans hoz, hk6, by omega, bf9, bc9, (none, 0, 0), ho9, nf9.mono (Nat.le_refl _) (fun j hj hl => ⟨?_, rfl⟩), nc9.mono (Nat.le_refl _) (fun j hj hl => ⟨?_, rfl⟩), NV.none _ _⟩, hq9⟩
   all_goals omega
 clear hq0 et e8 e0 e1 e4 e5' e6 ps7 fr7 hoz hn7 hok7 hnn7
 rintro e9 h9 ⟨x9, f, cc, b, e8, ⟨e0, e1, e4, e5', e6, ps9, fr9, hoz, _, hn9, bf, bc, bl, ho9, nf, nc, nl⟩, hq9⟩
 have hnn9 := fr9.1
 refine QU (QN (Ma (w:=QL ?_)))
 refine WC.cut (N' := fun e h' => ∃ x c l, aB6 p L hd h tk k6 x f c l e h' ∧ aU (VN fun j => h.next ≤ j) p L hd h Q (x.run fun s => rI r tk L hd f (c, l) s)) ?_ ?_
 ·unfold lY at hq9
  cases b with
  | false =>
   simp only [Bool.false_eq_true, if_false, R.then_ok] at hq9
   refine QS (UA ?_)
   exact ⟨x9, cc, aY, ⟨aD, aD, aD, aD, aD, aQ, aI, aA, aB, aB, bf, bc, bl, aA, nf, nc, nl⟩, hq9⟩
  | true =>
   simp only [if_true, R.then_assoc, R.then_ok] at hq9
   refine QR (QN (Ma (w:=MJ dU (w:=bO (hd := true) (aQ) (aU.use (hd' := true) aI hq9 fun tk10 x10 h10 v10 ps10 fr10 hv10 hq10 => ?_)))))
   obtain ⟨rfl, rfl⟩ := hv10
   have hn10 := nx fr10.1
   refine QL (QU (QN (Ma (w:=MJ gY (w:=gX (L := L) (hd := true) (x := x10) (aQ) fun h11 g11 => ?_)))))
   have hn11 := nx g11.1
   cases hb11 : Xs.is L [⟨#[59]⟩] x10
   ·rw [Xs.hY hb11] at hq10
    refine Me (w:=QQ (QV (Ma (w:=Ma (w:=MJ iW (w:=c.expr (hd := true) (aQ) (Eu hq10 (k:=fun t12 x12 h12 b12 n12 es12 ps12 fr12 kv12 hn12 hq12 => ?_))))))))
    refine Ml (w:=Mv (w:=QO (Ma (w:=MJ dU (w:=bO (hd := true) (aQ) (aU.use (hd' := true) aI hq12 fun tk13 x13 h13 v13 ps13 fr13 hv13 hq13 => ?_))))))
    obtain ⟨rfl, rfl⟩ := hv13
    have hn13 := nx fr13.1
    refine QO (Ma (w:=MJ gY (w:=gX (L := L) (hd := true) (x := x13) (aQ) fun h14 g14 => ?_)))
    have hn14 := nx g14.1
    cases hb14 : Xs.is L [⟨#[123]⟩] x13
    ·rw [Xs.hY hb14] at hq13
     refine Me (w:=QQ (QV (Ma (w:=Ma (w:=MJ aH7 (w:=c.simple (hd := true) (aQ) (Eu hq13 (k:=fun t15 x15 h15 b15 n15 es15 ps15 fr15 kv15 hn15 hq15 => ?_))))))))
     (try rw [R.then_ok] at hq15)
     refine Ml (w:=Mv (w:=QL ?_))
     exact ⟨x15, t12, t15, ⟨aD, aD, aD, aD, aD, aQ, aI, aA, aB, aB, bf, (b12, n12, es12), (b15, n15, es15), aA, nf.kp, (kv12.kp), kv15.kp⟩, hq15⟩
    ·rw [Xs.iA hb14] at hq13
     simp only [R.then_ok] at hq13
     refine Me (w:=QP (UA ?_))
     exact ⟨x13, t12, aY, ⟨aD, aD, aD, aD, aD, aQ, aI, aA, aB, aB, bf, (b12, n12, es12), bl, aA, nf.kp, (kv12.kp), nl.kp⟩, hq13⟩
   ·rw [Xs.iA hb11] at hq10
    simp only [R.then_ok] at hq10
    refine Me (w:=QP (UA (QN (Ma (w:=MJ dU (w:=bO (hd := true) (aQ) (aU.use (hd' := true) aI hq10 fun tk13 x13 h13 v13 ps13 fr13 hv13 hq13 => ?_)))))))
    obtain ⟨rfl, rfl⟩ := hv13
    have hn13 := nx fr13.1
    refine QO (Ma (w:=MJ gY (w:=gX (L := L) (hd := true) (x := x13) (aQ) fun h14 g14 => ?_)))
    have hn14 := nx g14.1
    cases hb14 : Xs.is L [⟨#[123]⟩] x13
    ·rw [Xs.hY hb14] at hq13
     refine Me (w:=QQ (QV (Ma (w:=Ma (w:=MJ aH7 (w:=c.simple (hd := true) (aQ) (Eu hq13 (k:=fun t15 x15 h15 b15 n15 es15 ps15 fr15 kv15 hn15 hq15 => ?_))))))))
     (try rw [R.then_ok] at hq15)
     refine Ml (w:=Mv (w:=QL ?_))
     exact ⟨x15, cc, t15, ⟨aD, aD, aD, aD, aD, aQ, aI, aA, aB, aB, bf, bc, (b15, n15, es15), aA, nf.kp, (nc.kp), kv15.kp⟩, hq15⟩
    ·rw [Xs.iA hb14] at hq13
     simp only [R.then_ok] at hq13
     refine Me (w:=QP (UA ?_))
     exact ⟨x13, cc, aY, ⟨aD, aD, aD, aD, aD, aQ, aI, aA, aB, aB, bf, bc, bl, aA, nf.kp, (nc.kp), nl.kp⟩, hq13⟩
 clear hq9 e8 e0 e1 e4 e5' e6 ps9 fr9 hoz hn9 ho9 nf nc nl hnn9
 rintro e9 h9 ⟨x9, cc, l, ⟨e0, e1, e4, e5', e6, ps9, fr9, hoz, _, hn9, bf, bc, bl, ho9, nf, nc, nl⟩, hq9⟩
 have hnn9 := fr9.1
 unfold rI at hq9
 obtain ⟨j9, br9, hj9, hp9, hl9⟩ := ps9.tok
 refine QN (Ma (w:=Ma (w:=Mi (w:=Mj (w:=Mv (w:=QO (Ma (w:=MJ yA (w:=c.block (hd := hd) (aQ) (Eu hq9 (k:=fun t20 x20 h20 b20 n20 es20 ps20 fr20 kv20 hn20 hq20 => ?_)))))))))))
 refine Mw (w:=Mv (w:=QO (Ma (w:=Ma (w:=Mu (w:=Mz (w:=QK ?_)))))))
 refine WS.jO (S := fun j => h.next < j) (S2 := fun j => h9.next ≤ j) (tr := t20) (b := some ⟨k6, 0, none⟩) (n1 := 3) (es := 7) (kids := [f, cc, l]) (KV.sX (i := k6) (b := bf.1) (n := bf.2.1) (es := bf.2.2) (b2 := bc.1) (n2 := bc.2.1) (es2 := bc.2.2) (b3 := bl.1) (n3 := bl.2.1) (es3 := bl.2.2) (S := fun j => h.next < j ∧ j ≠ k6 ∧ j < h9.next) aA rfl aB aB
  (nf.mono aB (fun j hS hj => ⟨⟨hS.1, hS.2, hj⟩, bJ⟩)) (nc.mono aB (fun j hS hj => ⟨⟨hS.1, hS.2, hj⟩, bJ⟩)) (nl.mono aB (fun j hS hj => ⟨⟨hS.1, hS.2, hj⟩, bJ⟩)) (fun j hj _ => ⟨hj.1, hj.2.1⟩)) aA (kv20.kp) (fun x hx _ => ⟨by omega, fun off e => by cases e; omega⟩) rfl rfl aD aD rfl rfl (by intro k hk; cases hk) (aX rfl) (by unfold room; omega) ?_
 intro hA hnA hkA hfA kvA
 simp only [UB, UC] at hnA hkA hfA kvA
 have psA : bG hA p L hd x20 := bG.bH (aQ) aB fun j hj => hkA j (by omega) (by omega)
 have frA : bB p h hA := bB.bH aI aB fun j hj => hkA j (by omega) (by omega)
 have hoA : hA.obj h.next = some (Z0) := (hkA _ (by omega) (by omega)).trans aA
 refine MJ cL (w:=bN fun h21 g21 => ?_)
 have hn21 := nx g21.1
 refine Mv (w:=QM ?_)
 refine ⟨_, aJ, ?_⟩
 exact hq20.fin aQ aI ⟨_, _, _, rfl, NV.aN (kvA.kp) _ _ _ _ _ _⟩

def swK (n : Nat) (r : Rec) (o : Bool) (tk : Tok) (L : List Tok) (kids : List Nd) (s : St) : R Nd := (gO n (kV n r o) L false s).then fun cs s => .ok (nd (if o then 23 else 25) tk ⟨#[]⟩ (kids ++ cs)) s
theorem aCv {n : Nat} {r : Rec} (hu : yK r) {L : List Tok} {hd : Bool} {s : St} (h : bA L s cK = true) : kX n r L hd s = if (aF L s.k).text = ⟨#[102, 111, 114]⟩ then vQ r (aF L s.k) L hd s.next
  else if (aF L s.k).text = ⟨#[115, 119, 105, 116, 99, 104]⟩ then (if bA L s.next [⟨#[123]⟩] then .ok aY s.next else r.expr L true s.next).then fun e s2 => swK n r true (aF L s.k) L [e] s2
  else swK n r false (aF L s.k) L [] s.next := by
 have h6 : (aF L s.k).kind ≠ 6 := iM h
 unfold kX
 simp only [if_neg h6, aH8 hu]
 have h1 : lS n r = kV n r true := by funext L hd s; exact wQ n r true L hd s
 have h2 : sY r = kV n r false := by funext L hd s; exact wQ n r false L hd s
 rw [h1, h2]
 rfl

def uT (p : Nat) (L : List Tok) (hd : Bool) (h : aE) (tk : Tok) (n1 : Nat) (x : Xs) (e : Env) (h' : aE) : Prop :=
 e 0 = some (pV p) ∧ e 2 = some (.pointer (some ⟨h.next, 0, none⟩)) ∧ e 3 = some (.pointer (some ⟨n1, 0, none⟩)) ∧ bG h' p L hd x ∧ bB p h h' ∧ h'.obj h.next = some (Z0) ∧ h'.obj n1 = some (.cells false tk.cells) ∧ h.next < n1 ∧ n1 < h'.next

theorem aEm {r : Rec} {n : Nat} (hn : n ≤ 1000000) (hu : yK r) (c : gE r) : XNl 94 (kX n r) (fun L s => bA L s cK = true) := by
 intro p L hd s0 h Q hs ps hq0
 have hp := ps.lt
 have hz := ps.wf.size
 have hm0 := ps.wf.toWF.is ps.at_ hs
 obtain ⟨hk0, j0, br0, hj0, hp0, hl0⟩ := ps.live
 rw [aCv hu hs] at hq0
 generalize htk : aF L s0.k = tk at *
 refine Wk Tryz.func94 Tryz.ntmps94 (w:=QN (Mw (w:=QO (Ma (w:=MJ gG (w:=cN (L := L) (hd := hd) (x := .live s0) (aQ) fun h1 g1 => ?_))))))
 have hn1 := nx g1.1
 rw [show aF L (Xs.live s0).st.k = tk from htk]
 have ps1 : bG h1 p L hd (.live s0) := aQ
 obtain ⟨hk1, j1, br1, hj1, hp1, hl1⟩ := ps1.live
 by_cases hf : tk.text = ⟨#[102, 111, 114]⟩
 ·rw [if_pos hf, ← R.bT (vQ r tk L hd s0.next)] at hq0
  refine Mw (w:=Mv (w:=QO (Ma (w:=Mi (w:=Mj (w:=Mt (w:=Mf (w:=Mi (w:=Mj (w:=Mv (w:=QL (QU (QN (Mj (w:=Mt (w:=MB (w:=fun hh => QQ (QN (Ma (w:=Mj (w:=Mt (w:=MJ aK4 (w:=aJs c (hd := hd) (s0 := s0.next) (aQ) (aU.wB (hd' := hd) (F := vQ r tk L hd) aI hq0 fun t2 x2 h2 v2 ps2 fr2 hv2 hq2 => ?_)))))))) (v:=fun hh => by exact absurd (by assumption) hh)))))))))))))))))
  obtain ⟨b2, n2, es2, rfl, kv2⟩ := hv2
  have hn2 := nx fr2.1
  refine Mv (w:=QM ?_)
  refine ⟨_, aJ, ?_⟩
  exact hq2.fin aQ aI ⟨_, _, _, rfl, kv2.kp⟩
 rw [if_neg hf] at hq0
 obtain ⟨o, ho⟩ : ∃ o, (o = true ∧ tk.text = ⟨#[115, 119, 105, 116, 99, 104]⟩) ∨ (o = false ∧ ¬ tk.text = ⟨#[115, 119, 105, 116, 99, 104]⟩) := by
  by_cases h : tk.text = ⟨#[115, 119, 105, 116, 99, 104]⟩
  ·exact ⟨true, .inl ⟨rfl, h⟩⟩
  ·exact ⟨false, .inr ⟨rfl, h⟩⟩
 refine Mw (w:=Mv (w:=QO (Ma (w:=Mi (w:=Mj (w:=Mt (w:=Mf (w:=Mi (w:=Mj (w:=Mv (w:=QL (QU (QN (Mj (w:=Mt (w:=MB (w:=fun hh => by exact absurd hh (by assumption)) (v:=fun hh => QL ?_)))))))))))))))))
 refine QS (UA (QU ?_))
 refine WC.cut (N' := fun e h' => e 4 = some (.slice none 0 0) ∧ uT p L hd h tk h1.next (.live s0.next) e h') ?_ ?_
 ·refine QV (Mb (w:=QL ?_))
  exact ⟨aD, ⟨aD, aD, aD, aQ, aI, aA, aA, aB, aB⟩⟩
 clear hp1 hl1 ps1 g1
 rintro e2 h2 ⟨e4, ⟨e0, e2, e3, ps2, fr2, hoz, hot, hlt, hn2⟩⟩
 have hnn2 := fr2.1
 refine QU ?_
 refine WC.cut (N' := fun e h' => e 5 = some (.int .i64 25) ∧ e 4 = some (.slice none 0 0) ∧ uT p L hd h tk h1.next (.live s0.next) e h') ?_ ?_
 ·refine QV (Mb (w:=QL ?_))
  exact ⟨aD, aD, ⟨aD, aD, aD, aQ, aI, aA, aA, aB, aB⟩⟩
 clear e4 e0 e2 e3 ps2 fr2 hoz hot hn2 hnn2
 rintro e2 h2 ⟨e5, e4, ⟨e0, e2, e3, ps2, fr2, hoz, hot, _, hn2⟩⟩
 have hnn2 := fr2.1
 refine QU (QU ?_)
 refine WC.cut (N' := fun e h' => e 27 = some (.bool o) ∧ e 5 = some (.int .i64 25) ∧ e 4 = some (.slice none 0 0) ∧ uT p L hd h tk h1.next (.live s0.next) e h') ?_ ?_
 ·rcases ho with ⟨rfl, ho⟩ | ⟨rfl, ho⟩
  ·refine QV (Mj (w:=Mt (w:=MB (w:=fun hh => QL ?_) (v:=fun hh => by exact absurd (by assumption) hh))))
   exact ⟨aD, aD, aD, ⟨aD, aD, aD, aQ, aI, aA, aA, aB, aB⟩⟩
  ·refine QV (Mj (w:=Mt (w:=MB (w:=fun hh => by exact absurd hh (by assumption)) (v:=fun hh => QL ?_))))
   exact ⟨aD, aD, aD, ⟨aD, aD, aD, aQ, aI, aA, aA, aB, aB⟩⟩
 clear e5 e4 e0 e2 e3 ps2 fr2 hoz hot hn2 hnn2
 rintro e2 h2 ⟨e27, e5, e4, ⟨e0, e2, e3, ps2, fr2, hoz, hot, _, hn2⟩⟩
 have hnn2 := fr2.1
 skip
 refine WC.cut (N' := fun e h' => ∃ x kids b n' es, kids.length ≤ 1 ∧ e 5 = some (.int .i64 (if o then 23 else 25)) ∧ e 4 = some (.slice b n' es) ∧ uT p L hd h tk h1.next x e h' ∧ KV h' (fun j => h.next < j ∧ j ≠ h1.next) b n' es kids ∧ aU (VN fun j => h.next ≤ j) p L hd h Q (x.run fun s => swK n r o tk L kids s)) ?_ ?_
 ·rcases ho with ⟨rfl, ho⟩ | ⟨rfl, ho⟩
  ·rw [if_pos ho] at hq0
   refine QR (QN (Mb (w:=QO (MJ tI (w:=kN fun h4 g4 => ?_)))))
   have hn4 := nx g4.1
   refine Mw (w:=Mv (w:=QL (QU (QN (Ma (w:=MJ gY (w:=gX (L := L) (hd := hd) (x := .live s0.next) (aQ) fun h5 g5 => ?_)))))))
   have hn5 := nx g5.1
   cases hb5 : Xs.is L [⟨#[123]⟩] (.live s0.next)
   ·have hs5 : bA L s0.next [⟨#[123]⟩] = false := hb5
    rw [hs5, if_neg Bool.false_ne_true] at hq0
    refine Me (w:=QQ (QV (Ma (w:=MJ aIl (w:=y7 c (hd := hd) (x0 := .live s0.next) (aQ) (El hq0 (k:=fun t6 x6 h6 b6 n6 es6 ps6 fr6 kv6 hn6 hq6 => ?_)))))))
    refine Mv (w:=QL (QV (Ma (w:=Mu (w:=Mz (w:=QK ?_))))))
    refine WS.jO (S := fun j => h.next < j ∧ j ≠ h1.next) (S2 := fun j => (h.next < j ∧ j ≠ h1.next) ∧ h5.next ≤ j) (tr := t6) (KV.nil _ _) aA ((kv6.kp)) (fun x hx _ => ⟨hx.1, fun off e => by cases e⟩) rfl rfl aD aD rfl rfl (by intro k hk; cases hk) (aX rfl) (by unfold room; omega) ?_
    intro hA hnhA hkhA hfhA kvhA
    simp only [UB, UC] at hnhA hkhA hfhA kvhA
    have kvhA := kvhA.mono (S' := fun j => h.next < j ∧ j ≠ h1.next) (Nat.le_refl _) (fun j hj _ => ⟨by omega, rfl⟩)
    have hohA : (hA).obj h.next = some (Z0) := (hkhA _ (by omega) (by omega)).trans aA
    have hthA : (hA).obj h1.next = some (.cells false tk.cells) := (hkhA _ (by omega) (by omega)).trans aA
    have pshA : bG hA p L hd x6 := bG.bH (aQ) aB fun j hj => hkhA j (by omega) (by omega)
    have frhA : bB p h hA := bB.bH aI aB fun j hj => hkhA j (by omega) (by omega)
    refine Mb (w:=QL ?_)
    exact ⟨x6, [t6], _, _, _, by simp, aD, aD, ⟨aD, aD, aD, aQ, aI, aA, aA, aB, aB⟩, kvhA.kp, hq6⟩
   ·have hs5 : bA L s0.next [⟨#[123]⟩] = true := hb5
    rw [hs5, if_pos rfl, R.then_ok] at hq0
    refine Me (w:=QP (UA (QV (Ma (w:=Mu (w:=Mz (w:=QK ?_)))))))
    refine WS.jO (S := fun j => h.next < j ∧ j ≠ h1.next) (S2 := fun j => (h.next < j ∧ j ≠ h1.next) ∧ True) (tr := aY) (KV.nil _ _) aA (NV.none _ _) (fun x hx _ => ⟨hx.1, fun off e => by cases e⟩) rfl rfl aD aD rfl rfl (by intro k hk; cases hk) (aX rfl) (by unfold room; omega) ?_
    intro hA hnhA hkhA hfhA kvhA
    simp only [UB, UC] at hnhA hkhA hfhA kvhA
    have kvhA := kvhA.mono (S' := fun j => h.next < j ∧ j ≠ h1.next) (Nat.le_refl _) (fun j hj _ => ⟨by omega, rfl⟩)
    have hohA : (hA).obj h.next = some (Z0) := (hkhA _ (by omega) (by omega)).trans aA
    have hthA : (hA).obj h1.next = some (.cells false tk.cells) := (hkhA _ (by omega) (by omega)).trans aA
    have pshA : bG hA p L hd (.live s0.next) := bG.bH (aQ) aB fun j hj => hkhA j (by omega) (by omega)
    have frhA : bB p h hA := bB.bH aI aB fun j hj => hkhA j (by omega) (by omega)
    refine Mb (w:=QL ?_)
    exact ⟨.live s0.next, [aY], _, _, _, by simp, aD, aD, ⟨aD, aD, aD, aQ, aI, aA, aA, aB, aB⟩, kvhA.kp, hq0⟩
  ·rw [if_neg ho] at hq0
   refine QS (UA ?_)
   exact ⟨.live s0.next, [], none, 0, 0, by simp, aD, aD, ⟨aD, aD, aD, aQ, aI, aA, aA, aB, aB⟩, KV.nil _ _, hq0⟩
 clear hq0 e27 e5 e4 e0 e2 e3 ps2 fr2 hoz hot hn2 hnn2
 rintro e3 h3 ⟨x3, kids, b3, n3, es3, hkl, e5, e4, ⟨e0, e2, e3, ps3, fr3, hoz, hot, _, hn3⟩, kv3, hq3⟩
 have hnn3 := fr3.1
 unfold swK gO at hq3
 simp only [R.then_assoc, R.then_ok] at hq3
 generalize (if o = true then (23 : Int) else 25) = ki at *
 refine QN (Ma (w:=MJ dU (w:=bO (hd := hd) (aQ) (aU.use (hd' := hd) aI hq3 fun tk6 x6 h6 v6 ps6 fr6 hv6 hq6 => ?_))))
 obtain ⟨rfl, rfl⟩ := hv6
 have hn6 := nx fr6.1
 obtain ⟨j6, br6, hj6, hp6, hl6⟩ := ps6.tok
 refine QO (Ma (w:=Mi (w:=Mj (w:=Mt (w:=Mb (w:=QO (Ma (w:=Mi (w:=Mj (w:=Mv (w:=QL (QU (Bk ?_)))))))))))))
 refine WC.fW 0 (fun e h' => ∃ x out b n es, e 5 = some (.int .i64 ki) ∧ e 4 = some (.slice b n es) ∧ e 7 = some (.bool hd) ∧ uT p L false h tk h1.next x e h' ∧ KV h' (fun j => h.next < j ∧ j ≠ h1.next) b n es (kids ++ out) ∧ aU (VN fun j => h.next ≤ j) p L hd h Q (x.run fun s => (bI L s ⟨#[125]⟩).then fun _ s => .ok (nd ki tk ⟨#[]⟩ (kids ++ out)) s)) ?_ ?_
 ·refine WC.bK hX (α := Nat × List Nd × Xs) (m := fun a => a.1) (Inv := fun a e h' => ∃ b n' es, e 5 = some (.int .i64 ki) ∧ e 4 = some (.slice b n' es) ∧ e 7 = some (.bool hd) ∧ uT p L false h tk h1.next a.2.2 e h' ∧ a.1 + a.2.1.length ≤ n ∧ KV h' (fun j => h.next < j ∧ j ≠ h1.next) b n' es (kids ++ a.2.1) ∧
   aU (VN fun j => h.next ≤ j) p L hd h Q (a.2.2.run fun s => (c6 L [⟨#[125]⟩] (fun out s => (kV n r o L false s).then fun x s => .ok (out ++ [x]) s) a.1 a.2.1 s).then fun out s => .ok (nd ki tk ⟨#[]⟩ (kids ++ out)) s.next))
   (n, [], x6) ⟨_, _, _, aD, aD, aD, ⟨aD, aD, aD, aQ, aI, aA, aA, aB, aB⟩, by simp, by rw [List.append_nil]; exact kv3.kp, hq6⟩ ?_
  rintro ⟨m, out, x7⟩ env h7 ih ⟨b7, n7, es7, e5, e4, e7, ⟨e0, e2, e3, ps7, fr7, hoz, hot, _, hn7⟩, hm7, kv7, hq7⟩
  simp only at ps7 hm7 kv7 hq7
  have hnn7 := fr7.1
  have hl7 := kv7.len
  rw [List.length_append] at hl7
  obtain ⟨j7, br7, hj7, hp7, hl7'⟩ := ps7.tok
  cases x7 with
  | dead e s =>
   have hb7 := ps7.dA
   generalize hbd : Xs.bad L (Xs.dead e s) = bd at *
   refine QU (QN (Ma (w:=Mi (w:=Mj (w:=Mt (w:=MF (w:=fun hh => by omega) (v:=fun hh => Ma (w:=MA (w:=MA (w:=MA (w:=Md (w:=QP (WC.exit ?_)))))))))))))
   exact ⟨rfl, Xs.dead e s, out, _, _, _, aD, aD, aD, ⟨aD, aD, aD, aQ, aI, aA, aA, aB, aB⟩, kv7, hq7⟩
  | live s7 =>
   have hb7 : Xs.bad L (Xs.live s7) = -1 := rfl
   rw [hb7] at hp7
   obtain ⟨m, rfl⟩ : ∃ m', m = m' + 1 := by
    cases m with
    | zero => exact (hq7.1 rfl).elim
    | succ m => exact ⟨m, rfl⟩
   rw [Xs.a8] at hq7
   unfold c6 at hq7
   refine QU (QN (Ma (w:=Mi (w:=Mj (w:=Mt (w:=MF (w:=fun hh => Ma (w:=Ma (w:=MJ gY (w:=gX (L := L) (hd := false) (x := .live s7) (aQ) fun h8 g8 => ?_)))) (v:=fun hh => by omega)))))))
   have hn8 := nx g8.1
   cases hb8 : Xs.is L [⟨#[125]⟩] (.live s7)
   ·have hs8 : bA L s7 [⟨#[125]⟩] = false := hb8
    rw [hs8, if_neg Bool.false_ne_true] at hq7
    simp only [R.then_assoc, R.then_ok] at hq7
    refine Me (w:=Mc (w:=QL ?_))
    refine QR (UA (Bk (QU ?_)))
    refine WC.cut (N' := fun e h' => ∃ (t : Nd) (x : Xs) (b : Option Addr × Nat) (n' es : Nat), e 5 = some (.int .i64 ki) ∧ e 4 = some (.slice b7 n7 es7) ∧ e 7 = some (.bool hd) ∧ e 8 = some (.pointer (some ⟨n', 0, none⟩)) ∧ uT p L false h tk h1.next x e h' ∧ h7.next ≤ n' ∧ n' < h'.next ∧ h'.obj n' = some (.cells false (aH t b.1 b.2 es)) ∧ NV h' (fun j => h7.next ≤ j ∧ j < n') (aH t b.1 b.2 es) t ∧
     KV h' (fun j => h.next < j ∧ j ≠ h1.next) b7 n7 es7 (kids ++ out) ∧ aU (VN fun j => h.next ≤ j) p L hd h Q (x.run fun s => (c6 L [⟨#[125]⟩] (fun out s => (kV n r o L false s).then fun x s => .ok (out ++ [x]) s) m (out ++ [t]) s).then fun out s => .ok (nd ki tk ⟨#[]⟩ (kids ++ out)) s.next)) ?_ ?_
    ·rcases ho with ⟨rfl, ho⟩ | ⟨rfl, ho⟩
     ·refine QV (Ma (w:=Mj (w:=Mt (w:=MB (w:=fun hh => MJ aLp (w:=aFi hn c (hd := false) (aQ) (aU.wB (hd' := false) (F := kV n r _ L false) aI hq7 fun t9 x9 h9 v9 ps9 fr9 hv9 hq9 => ?_))) (v:=fun hh => by exact absurd (by assumption) hh)))))
      obtain ⟨b9, n9, es9, rfl, kv9⟩ := hv9
      have hn9 := nx fr9.1
      refine Mw (w:=Mv (w:=QL ?_))
      exact ⟨t9, x9, (b9, n9), _, es9, aD, aD, aD, aD, ⟨aD, aD, aD, aQ, aI, aA, aA, aB, aB⟩, aB, aB, aA, kv9.kp, kv7.kp, hq9⟩
     ·refine QV (Ma (w:=Mj (w:=Mt (w:=MB (w:=fun hh => by exact absurd hh (by assumption)) (v:=fun hh => MJ aLp (w:=aFi hn c (hd := false) (aQ) (aU.wB (hd' := false) (F := kV n r _ L false) aI hq7 fun t9 x9 h9 v9 ps9 fr9 hv9 hq9 => ?_)))))))
      obtain ⟨b9, n9, es9, rfl, kv9⟩ := hv9
      have hn9 := nx fr9.1
      refine Mw (w:=Mv (w:=QL ?_))
      exact ⟨t9, x9, (b9, n9), _, es9, aD, aD, aD, aD, ⟨aD, aD, aD, aQ, aI, aA, aA, aB, aB⟩, aB, aB, aA, kv9.kp, kv7.kp, hq9⟩
    clear e5 e4 e7 e0 e2 e3 hoz hot
    rintro e9 h9 ⟨t9, x9, b9, n9, es9, e5, e4, e7, e8, ⟨e0, e2, e3, ps9, fr9, hoz, hot, _, hn9⟩, hn9a, hn9b, ho9, nv9, kv9, hq9⟩
    have hnn9 := fr9.1
    refine QV (Ma (w:=Mu (w:=Mz (w:=QK ?_))))
    refine WS.jO (S := fun j => h.next < j ∧ j ≠ h1.next) (S2 := fun j => h7.next ≤ j ∧ j < n9) (tr := t9) (kv9.kp) aA (nv9.kp) (fun x hx _ => ⟨by omega, kv7.ge x (by omega)⟩) rfl rfl aD aD rfl rfl (by intro k hk; cases hk) (aX rfl) (by unfold room; omega) ?_
    intro hA hnA hkA hfA kvA
    simp only [UB, UC] at hnA hkA hfA kvA
    have kvA := kvA.mono (S' := fun j => h.next < j ∧ j ≠ h1.next) (Nat.le_refl _) (fun j hj _ => ⟨by omega, rfl⟩)
    have hoA : hA.obj h.next = some (Z0) := (hkA _ (by omega) (by omega)).trans aA
    have htA : hA.obj h1.next = some (.cells false tk.cells) := (hkA _ (by omega) (by omega)).trans aA
    have psA : bG hA p L false x9 := bG.bH (aQ) aB fun j hj => hkA j (by omega) (by omega)
    have frA : bB p h hA := bB.bH aI aB fun j hj => hkA j (by omega) (by omega)
    refine Mb (w:=QL ?_)
    exact ih (m, out ++ [t9], x9) _ _ (by simp) ⟨_, _, _, aD, rfl, aD, ⟨aD, aD, aD, aQ, aI, aA, aA, aB, aB⟩, by simp; omega, by rw [← List.append_assoc]; exact kvA.kp, hq9⟩
   ·have hs8 : bA L s7 [⟨#[125]⟩] = true := hb8
    rw [hs8, if_pos rfl, R.then_ok] at hq7
    refine Me (w:=Mc (w:=QP (WC.exit ?_)))
    exact ⟨rfl, .live s7, out, _, _, _, aD, aD, aD, ⟨aD, aD, aD, aQ, aI, aA, aA, aB, aB⟩, kv7.kp, by rw [Xs.a8, lW hs8]; exact hq7⟩
 ·rintro e9 h9 ⟨x9, out, b9, n9, es9, e5, e4, e7, ⟨e0, e2, e3, ps9, fr9, hoz, hot, _, hn9⟩, kv9, hq9⟩
  have hnn9 := fr9.1
  obtain ⟨j9, br9, hj9, hp9, hl9⟩ := ps9.tok
  refine aG (QN (Ma (w:=Ma (w:=Mi (w:=Mj (w:=Mv (w:=QO (Ma (w:=MJ dU (w:=bO (hd := hd) (aQ) (aU.use (hd' := hd) aI hq9 fun tk10 x10 h10 v10 ps10 fr10 hv10 hq10 => ?_)))))))))))
  obtain ⟨rfl, rfl⟩ := hv10
  have hn10 := nx fr10.1
  refine QO (Ma (w:=Mj (w:=Mt (w:=Ma (w:=MJ cL (w:=bN fun h11 g11 => ?_))))))
  have hn11 := nx g11.1
  refine Mv (w:=QM ?_)
  refine ⟨_, aJ, ?_⟩
  exact hq10.fin aQ aI ⟨_, _, _, rfl, NV.aN (kv9.kp) _ _ _ _ _ _⟩

theorem aJm {r : Rec} {n : Nat} (hn : n ≤ 1000000) (c : gE r) : XNl 23 (sW n r) (fun _ _ => True) := by
 intro p L hd s0 h Q _ ps hq0
 have hp := ps.lt
 have hz := ps.wf.size
 unfold sW at hq0
 simp only at hq0
 generalize htk : aF L s0.k = tk at *
 refine Wk Tryz.func23 Tryz.ntmps23 (w:=QN (Mw (w:=QO (Ma (w:=MJ gG (w:=cN (L := L) (hd := hd) (x := .live s0) (aQ) fun h1 g1 => ?_))))))
 have hn1 := nx g1.1
 rw [show aF L (Xs.live s0).st.k = tk from htk]
 refine Mk (w:=Mb (w:=QL (QU (QN (Ma (w:=MJ qX (w:=lV (L := L) (hd := hd) (x := .live s0) (aQ) fun h2 ps2 fr2 => ?_)))))))
 have hn2 := nx fr2.1
 cases hb2 : Xs.is L [⟨#[116, 121, 112, 101]⟩] (.live s0)
 case true =>
  have hs2 : bA L s0 [⟨#[116, 121, 112, 101]⟩] = true := hb2
  rw [Xs.iE hb2] at ps2
  rw [hs2, if_pos rfl] at hq0
  refine QQ (QN (Ma (w:=MJ q7 (w:=jH (hd := hd) (aQ) (aU.kH (hd' := hd) aI hq0 fun tk10 x10 h10 v10 ps10 fr10 hv10 hq10 => ?_)))))
  obtain ⟨rfl, hp10⟩ := hv10
  have hn10 := nx fr10.1
  clear hp10
  generalize tk10.text = nm at *
  refine Mb (w:=QO (Ma (w:=MJ dU (w:=bO (hd := hd) (aQ) (aU.use (hd' := hd) aI hq10 fun tk11 x11 h11 v11 ps11 fr11 hv11 hq11 => ?_)))))
  obtain ⟨rfl, rfl⟩ := hv11
  have hn11 := nx fr11.1
  refine QO (Ma (w:=MJ dU (w:=bO (hd := hd) (aQ) (aU.use (hd' := hd) aI hq11 fun tk12 x12 h12 v12 ps12 fr12 hv12 hq12 => ?_))))
  obtain ⟨rfl, rfl⟩ := hv12
  have hn12 := nx fr12.1
  unfold rV at hq12
  refine QO (Mb (w:=QL (QU (Bk ?_))))
  refine WC.fW 0 (fun e h' => ∃ x kids b n es, e 0 = some (pV p) ∧ e 2 = some (.pointer (some ⟨h.next, 0, none⟩)) ∧ e 3 = some (.int .i64 tk.pos) ∧ e 4 = some (.string nm) ∧ e 5 = some (.slice b n es) ∧ bG h' p L hd x ∧ bB p h h' ∧ h'.obj h.next = some (Z0) ∧ h.next < h'.next ∧
   KV h' (fun j => h.next < j) b n es kids ∧ aU (VN fun j => h.next ≤ j) p L hd h Q (x.run fun s => (bI L s ⟨#[125]⟩).then fun _ s => .ok (nd 2 tk nm kids) s)) ?_ ?_
  ·refine WC.bK hX (α := Nat × List Nd × Xs) (m := fun a => a.1) (Inv := fun a e h' => ∃ b n' es, e 0 = some (pV p) ∧ e 2 = some (.pointer (some ⟨h.next, 0, none⟩)) ∧ e 3 = some (.int .i64 tk.pos) ∧ e 4 = some (.string nm) ∧ e 5 = some (.slice b n' es) ∧ bG h' p L hd a.2.2 ∧ bB p h h' ∧ h'.obj h.next = some (Z0) ∧ h.next < h'.next ∧ a.1 + a.2.1.length ≤ n ∧
    KV h' (fun j => h.next < j) b n' es a.2.1 ∧ aU (VN fun j => h.next ≤ j) p L hd h Q (a.2.2.run fun s => (c6 L [⟨#[125]⟩] (fun kids s => (eD L s).then fun f s => (r.cW L hd s).then fun y s => (bI L s ⟨#[59]⟩).then fun _ s => .ok (kids ++ [nd 5 f f.text [y]]) s) a.1 a.2.1 s).then fun kids s => .ok (nd 2 tk nm kids) s.next))
    (n, [], x12) ⟨_, _, _, aD, aD, aD, aD, rfl, aQ, aI, aA, aB, by simp, KV.nil _ _, hq12⟩ ?_
   rintro ⟨m, kids, x5⟩ env h5 ih ⟨b5, n5, es5, e0, e2, e3, e4, e5, ps5, fr5, ho5, hn5, hm5, kv5, hq5⟩
   simp only at ps5 hm5 kv5 hq5
   have hnn5 := fr5.1
   have hl5 := kv5.len
   obtain ⟨j5, br5, hj5, hp5, hl5'⟩ := ps5.tok
   cases x5 with
   | dead e s =>
    have hb5 := ps5.dA
    generalize hbd : Xs.bad L (Xs.dead e s) = bd at *
    refine QU (QN (Ma (w:=Mi (w:=Mj (w:=Mt (w:=MF (w:=fun hh => by omega) (v:=fun hh => Ma (w:=MA (w:=MA (w:=MA (w:=Md (w:=QP (WC.exit ?_)))))))))))))
    exact ⟨rfl, Xs.dead e s, kids, b5, n5, es5, e0, e2, e3, e4, e5, ps5, fr5, ho5, hn5, kv5, hq5⟩
   | live s5 =>
    have hb5 : Xs.bad L (Xs.live s5) = -1 := rfl
    rw [hb5] at hp5
    obtain ⟨m, rfl⟩ : ∃ m', m = m' + 1 := by
     cases m with
     | zero => exact (hq5.1 rfl).elim
     | succ m => exact ⟨m, rfl⟩
    rw [Xs.a8] at hq5
    unfold c6 at hq5
    refine QU (QN (Ma (w:=Mi (w:=Mj (w:=Mt (w:=MF (w:=fun hh => Ma (w:=Ma (w:=MJ gY (w:=gX (L := L) (hd := hd) (x := .live s5) (aQ) fun h6 g6 => ?_)))) (v:=fun hh => by omega)))))))
    have hn6 := nx g6.1
    cases hb6 : Xs.is L [⟨#[125]⟩] (.live s5)
    ·have hs6 : bA L s5 [⟨#[125]⟩] = false := hb6
     rw [hs6, if_neg Bool.false_ne_true] at hq5
     simp only [R.then_assoc, R.then_ok] at hq5
     refine Me (w:=Mc (w:=QQ (UA (Bk (QN (Ma (w:=MJ gG (w:=cN (L := L) (hd := hd) (x := .live s5) (aQ) fun h7 g7 => ?_))))))))
     have hn7 := nx g7.1
     refine Mk (w:=Mb (w:=QO (Ma (w:=MJ q7 (w:=jH (hd := hd) (aQ) (aU.kH (hd' := hd) aI hq5 fun tk8 x8 h8 v8 ps8 fr8 hv8 hq8 => ?_))))))
     obtain ⟨rfl, hp8⟩ := hv8
     have hn8 := nx fr8.1
     generalize (aF L (Xs.st (Xs.live s5)).k).pos = q8 at *
     subst hp8
     refine Mb (w:=QO (Ma (w:=MJ r4 (w:=c.cW (hd := hd) (aQ) (Eu hq8 (k:=fun t9 x9 h9 b9 n9 es9 ps9 fr9 kv9 hn9 hq9 => ?_))))))
     refine Mw (w:=Mv (w:=QO (Ma (w:=Ma (w:=Ma (w:=Mu (w:=Mz (w:=MJ cL (w:=bN fun h13 g13 => ?_)))))))))
     have hn13 := nx g13.1
     refine Mz (w:=QK ?_)
     refine WS.jO (S := fun j => h.next < j) (S2 := fun j => h5.next ≤ j) (tr := nd 5 tk8 tk8.text [t9]) (kv5.kp) aA (NV.aN (KV.one (S := fun j => h5.next ≤ j ∧ j < h9.next) aB aB aA (kv9.kp) (fun j hS hj => ⟨hS.1, by have := hS.2; exact aB⟩)) _ _ _ _ _ _) (fun x hx _ => ⟨by omega, kv5.ge x hx⟩) rfl rfl aD aD rfl rfl (by intro k hk; cases hk) (aX rfl) (by unfold room; omega) ?_
     intro hA hnA hkA hfA kvA
     simp only [UB, UC] at hnA hkA hfA kvA
     have kvA := kvA.mono (S' := fun j => h.next < j) (Nat.le_refl _) (fun j hj _ => ⟨by omega, rfl⟩)
     have hoA : hA.obj h.next = some (Z0) := (hkA _ (by omega) (by omega)).trans aA
     have psA : bG hA p L hd x9 := bG.bH (aQ) aB fun j hj => hkA j (by omega) (by omega)
     have frA : bB p h hA := bB.bH aI aB fun j hj => hkA j (by omega) (by omega)
     refine Mb (w:=QL (QV (Ma (w:=MJ dU (w:=bO (hd := hd) (aQ) (aU.use (hd' := hd) aI hq9 fun tk14 x14 h14 v14 ps14 fr14 hv14 hq14 => ?_))))))
     obtain ⟨rfl, rfl⟩ := hv14
     have hn14 := nx fr14.1
     refine QL ?_
     exact ih (m, kids ++ [nd 5 tk8 tk8.text [t9]], x14) _ _ (by simp) ⟨_, _, _, aD, aD, aD, aD, rfl, aQ, aI, aA, aB, by simp; omega, kvA.kp, hq14⟩
    ·have hs6 : bA L s5 [⟨#[125]⟩] = true := hb6
     rw [hs6, if_pos rfl, R.then_ok] at hq5
     refine Me (w:=Mc (w:=QP (WC.exit ?_)))
     exact ⟨rfl, .live s5, kids, b5, n5, es5, aD, aD, aD, aD, aD, aQ, aI, aA, aB, kv5.kp, by rw [Xs.a8, lW hs6]; exact hq5⟩
  ·rintro e9 h9 ⟨x9, kids, b9, n9, es9, e0, e2, e3, e4, e5, ps9, fr9, ho9, hn9, kv9, hq9⟩
   have hnn9 := fr9.1
   refine aG (QN (Ma (w:=MJ dU (w:=bO (hd := hd) (aQ) (aU.use (hd' := hd) aI hq9 fun tk15 x15 h15 v15 ps15 fr15 hv15 hq15 => ?_)))))
   obtain ⟨rfl, rfl⟩ := hv15
   have hn15 := nx fr15.1
   refine QO (Ma (w:=Ma (w:=Ma (w:=MJ cL (w:=bN fun h30 g30 => ?_)))))
   have hn30 := nx g30.1
   refine Mv (w:=QM ?_)
   refine ⟨_, aJ, ?_⟩
   exact hq15.fin aQ aI ⟨_, _, _, rfl, NV.aN (kv9.kp) _ _ _ _ _ _⟩
 have hs2 : bA L s0 [⟨#[116, 121, 112, 101]⟩] = false := hb2
 rw [Xs.gT hb2] at ps2
 rw [hs2, if_neg Bool.false_ne_true] at hq0
 refine QP (UA (QU (QN (Ma (w:=MJ qX (w:=lV (L := L) (hd := hd) (x := .live s0) (aQ) fun h3 ps3 fr3 => ?_))))))
 have hn3 := nx fr3.1
 cases hb3 : Xs.is L [⟨#[118, 97, 114]⟩] (.live s0)
 case true =>
  have hs3 : bA L s0 [⟨#[118, 97, 114]⟩] = true := hb3
  rw [Xs.iE hb3] at ps3
  rw [hs3, if_pos rfl] at hq0
  refine QQ (QN (Ma (w:=MJ q7 (w:=jH (hd := hd) (aQ) (aU.kH (hd' := hd) aI hq0 fun tk10 x10 h10 v10 ps10 fr10 hv10 hq10 => ?_)))))
  obtain ⟨rfl, hp10⟩ := hv10
  have hn10 := nx fr10.1
  refine Mb (w:=QO (Ma (w:=MJ r4 (w:=c.cW (hd := hd) (aQ) (Eu hq10 (k:=fun t11 x11 h11 b11 n11 es11 ps11 fr11 kv11 hn11 hq11 => ?_))))))
  refine Mw (w:=Mv (w:=QO (Ma (w:=Ma (w:=Mu (w:=Mz (w:=MJ cL (w:=bN fun h30 g30 => ?_))))))))
  have hn30 := nx g30.1
  refine Mv (w:=QM ?_)
  refine ⟨_, aJ, ?_⟩
  exact hq11.fin aQ aI ⟨_, _, _, rfl, NV.aN (KV.one (S := fun j => h.next ≤ j ∧ j < h11.next) aB aB aA (kv11.kp) (fun j hS hj => ⟨hS.1, by have := hS.2; exact aB⟩)) _ _ _ _ _ _⟩
 have hs3 : bA L s0 [⟨#[118, 97, 114]⟩] = false := hb3
 rw [Xs.gT hb3] at ps3
 rw [hs3, if_neg Bool.false_ne_true] at hq0
 refine QP (UA (QU (QN (Ma (w:=MJ qX (w:=lV (L := L) (hd := hd) (x := .live s0) (aQ) fun h4 ps4 fr4 => ?_))))))
 have hn4 := nx fr4.1
 cases hb4 : Xs.is L [⟨#[102, 117, 110, 99]⟩] (.live s0)
 case true =>
  have hs4 : bA L s0 [⟨#[102, 117, 110, 99]⟩] = true := hb4
  rw [Xs.iE hb4] at ps4
  rw [hs4, if_pos rfl] at hq0
  refine QQ (QN (Ma (w:=MJ q7 (w:=jH (hd := hd) (aQ) (aU.kH (hd' := hd) aI hq0 fun tk10 x10 h10 v10 ps10 fr10 hv10 hq10 => ?_)))))
  obtain ⟨rfl, hp10⟩ := hv10
  have hn10 := nx fr10.1
  refine Mb (w:=QO (Ma (w:=MJ aKs (w:=c.function (hd := hd) (aQ) (Euk hq10 (k:=fun t11 x11 h11 b11 n11 es11 ps11 fr11 kv11 hn11 hq11 => ?_))))))
  refine Mb (w:=QO (Ma (w:=Ma (w:=Ma (w:=MJ cL (w:=bN fun h30 g30 => ?_))))))
  have hn30 := nx g30.1
  refine Mv (w:=QM ?_)
  refine ⟨_, aJ, ?_⟩
  exact hq11.fin aQ aI ⟨_, _, _, rfl, NV.aN (kv11.kp) _ _ _ _ _ _⟩
 have hs4 : bA L s0 [⟨#[102, 117, 110, 99]⟩] = false := hb4
 rw [Xs.gT hb4] at ps4
 rw [hs4, if_neg Bool.false_ne_true] at hq0
 refine QP (UA (QN (Ma (w:=MJ oM (w:=eI (L := L) (hd := hd) (x := .live s0) (aQ) fun h5 ps5 fr5 => ?_)))))
 have hn5 := nx fr5.1
 refine Mv (w:=QM ?_)
 refine ⟨_, aJ, ?_⟩
 exact hq0.q6 eY aQ aI ⟨none, 0, 0, rfl, NV.leaf _ _ _ _ _ _⟩

end Go.Proofs.ZL
end
