/- What the parser tells of its runs: they end, how far they go, what they look at; trees are the same. -/
import Derived.Test.YtpdkdgfknanipaaGreatDoorYPX
section
open Go Go.Am
namespace Go.Proofs.ZL
set_option maxRecDepth 100000
set_option linter.unusedSimpArgs false
set_option linter.unusedVariables false
set_option maxHeartbeats 4000000
variable {h : aA} {Q : bR → Prop} {L : List Tok} {p : Nat} {hd : Bool} {src : ByteArray}
inductive Small (n : Nat) : Nd → Prop
 | mk (kind : Int) (text : ByteArray) (num pos : Int) (cD : ByteArray) (ref : Int) (kids : List Nd) : kids.length ≤ n → (∀ (j : Nat) t, kids[j]? = some t → Small n t) → Small n (.mk kind text num pos cD ref kids)

theorem Small.len {n : Nat} {t : Nd} (s : Small n t) : t.kids.length ≤ n := by cases s; assumption
theorem Small.eF {n : Nat} {t u : Nd} {j : Nat} (s : Small n t) (h : t.kids[j]? = some u) : Small n u := by
 cases s with
 | mk _ _ _ _ _ _ _ _ h2 => exact h2 j u h

theorem Nd.aS6 {a b : Nd} (h1 : a.kind = b.kind) (h2 : a.text = b.text) (h3 : a.num = b.num) (h4 : a.pos = b.pos) (h5 : a.cD = b.cD) (h6 : a.ref = b.ref) (h7 : a.kids = b.kids) : a = b := by
 cases a; cases b
 simp only [Nd.kind, Nd.text, Nd.num, Nd.pos, Nd.cD, Nd.ref, Nd.kids] at *
 subst h1; subst h2; subst h3; subst h4; subst h5; subst h6; subst h7; rfl

def aR3 (N : Nat) (h0 : aA) (a : Nd) (vs : List Value) : Prop := ∀ {h : aA} {S : Nat → Prop} {ws : List Value} {b : Nd} {Q : bR → Prop}, Gr h0 h → Small N a → NV h S ws b →
 (∀ h' r, Gr h h' → (r = true ↔ a = b) → Q (.ret (.bool r) h')) → aS Tryz.prog G X 13 [.agg vs.toArray, .agg ws.toArray] h Q

theorem aSc {N : Nat} (hN : N ≤ 1000000) {h0 : aA} {a : Nd} {b0 : Option Addr} {n0 es0 : Nat} (hn0 : n0 = a.kids.length)
  (hk : ∀ (j : Nat) t, a.kids[j]? = some t → ∃ i cells, b0 = some ⟨i, 0, none⟩ ∧ es0 = 7 ∧ i < h0.next ∧ h0.obj i = some (.cells false cells) ∧ a.kids.length * 7 ≤ cells.length ∧ ∃ b' n' es', (cells.drop (j * 7)).take 7 = aG t b' n' es' ∧ aR3 N h0 t (aG t b' n' es')) :
  aR3 N h0 a (aG a b0 n0 es0) := by
 intro h S ws b Q g sm hw hq
 obtain ⟨b1, n1, es1, rfl⟩ := hw.cells
 have hn1 := hw.nD
 have hl := sm.len
 have hg0 := g.1
 refine Wk Tryz.func13 Tryz.ntmps13 (w:=QN (Mx (w:=Mx (w:=Mb (w:=QL (QU (QN (Mj (w:=Mt (w:=Mj (w:=Mt (w:=ME (w:=fun hh => Ma (w:=MA (w:=MA (w:=MA (w:=MA (w:=MA (w:=Mc (w:=Ma (w:=MA (w:=MA (w:=MA (w:=MA (w:=MA (w:=Mc (w:=Ma (w:=MA (w:=MA (w:=MA (w:=MA (w:=MA (w:=Mc (w:=Ma (w:=MA (w:=MA (w:=MA (w:=MA (w:=MA (w:=Mc (w:=Ma (w:=MA (w:=MA (w:=MA (w:=MA (w:=MA (w:=Mc (w:=Ma (w:=MA (w:=MA (w:=MA (w:=MA (w:=MA (w:=MA (w:=MA (w:=Mc (w:=QQ (QN (Mb (w:=QM ?_)))))))))))))))))))))))))))))))))))))))))))))))) (v:=fun hh => Ma (w:=Mj (w:=Mt (w:=Mj (w:=Mt (w:=MC (w:=fun hh => Md (w:=Ma (w:=MA (w:=MA (w:=MA (w:=MA (w:=MA (w:=Mc (w:=Ma (w:=MA (w:=MA (w:=MA (w:=MA (w:=MA (w:=Mc (w:=Ma (w:=MA (w:=MA (w:=MA (w:=MA (w:=MA (w:=Mc (w:=Ma (w:=MA (w:=MA (w:=MA (w:=MA (w:=MA (w:=Mc (w:=Ma (w:=MA (w:=MA (w:=MA (w:=MA (w:=MA (w:=MA (w:=MA (w:=Mc (w:=QQ (QN (Mb (w:=QM ?_)))))))))))))))))))))))))))))))))))))))))) (v:=fun hh => Md (w:=Ma (w:=Mj (w:=Mt (w:=Mj (w:=Mt (w:=ME (w:=fun hh => Md (w:=Ma (w:=MA (w:=MA (w:=MA (w:=MA (w:=MA (w:=Mc (w:=Ma (w:=MA (w:=MA (w:=MA (w:=MA (w:=MA (w:=Mc (w:=Ma (w:=MA (w:=MA (w:=MA (w:=MA (w:=MA (w:=Mc (w:=Ma (w:=MA (w:=MA (w:=MA (w:=MA (w:=MA (w:=MA (w:=MA (w:=Mc (w:=QQ (QN (Mb (w:=QM ?_))))))))))))))))))))))))))))))))))) (v:=fun hh => Md (w:=Ma (w:=Mj (w:=Mt (w:=Mj (w:=Mt (w:=ME (w:=fun hh => Md (w:=Ma (w:=MA (w:=MA (w:=MA (w:=MA (w:=MA (w:=Mc (w:=Ma (w:=MA (w:=MA (w:=MA (w:=MA (w:=MA (w:=Mc (w:=Ma (w:=MA (w:=MA (w:=MA (w:=MA (w:=MA (w:=MA (w:=MA (w:=Mc (w:=QQ (QN (Mb (w:=QM ?_)))))))))))))))))))))))))))) (v:=fun hh => Md (w:=Ma (w:=Mj (w:=Mt (w:=Mj (w:=Mt (w:=MC (w:=fun hh => Md (w:=Ma (w:=MA (w:=MA (w:=MA (w:=MA (w:=MA (w:=Mc (w:=Ma (w:=MA (w:=MA (w:=MA (w:=MA (w:=MA (w:=MA (w:=MA (w:=Mc (w:=QQ (QN (Mb (w:=QM ?_))))))))))))))))))))) (v:=fun hh => Md (w:=Ma (w:=Mj (w:=Mt (w:=Mj (w:=Mt (w:=ME (w:=fun hh => Md (w:=Ma (w:=MA (w:=MA (w:=MA (w:=MA (w:=MA (w:=MA (w:=MA (w:=Mc (w:=QQ (QN (Mb (w:=QM ?_)))))))))))))) (v:=fun hh => Md (w:=Ma (w:=Mj (w:=Mt (w:=Ms (w:=Mj (w:=Mt (w:=Ms (w:=ME (w:=fun hh => Md (w:=QQ (QN (Mb (w:=QM ?_))))) (v:=fun hh => Md (w:=QP (UA (QU (QN (Mb (w:=QL (Bk ?_)))))))))))))))))))))))))))))))))))))))))))))))))))))))))))))))
 iterate 7 · ((apply Exists.intro; apply And.intro; (· repeat (first | exact dO | (apply dV; (· (first | rfl | assumption))) | (apply cW; (· (first | rfl | assumption)); (· rfl); (· exact fF rfl); (· (exact aD)); (· (first | (exact Nat.le_of_ble_eq_true rfl) | (simp; done) | omega)); (· rfl)) | (apply cX; (· (first | rfl | assumption)); (· rfl); (· (exact aD)); (· rfl)))))); exact hq _ false fG ⟨fun e => (Bool.false_ne_true e).elim, fun e => by subst e; first | exact absurd rfl hh | omega⟩
 have hlen : a.kids.length = b.kids.length := by omega
 refine WC.cB hX (α := Nat) (m := fun i => a.kids.length - i) (Inv := fun i v h' => v 2 = some (.pointer (some ⟨h.next, 0, none⟩)) ∧ v 3 = some (.pointer (some ⟨h.next + 1, 0, none⟩)) ∧ v 5 = some (.int .i64 i) ∧ Gr ((h.alloc (.cells false (aG a b0 n0 es0))).alloc (.cells false (aG b b1 n1 es1))) h' ∧
  i ≤ a.kids.length ∧ ∀ j, j < i → a.kids[j]? = b.kids[j]?) 0 ⟨rfl, rfl, rfl, Gr.refl _, by omega, fun j hj => by omega⟩ ?_
 rintro i env h5 ih ⟨e2, e3, e5, g5, hi5, heq5⟩
 have gg5 : Gr h h5 := (Gr.alloc _ _).trans ((Gr.alloc _ _).trans g5)
 have hnn5 := g5.1
 simp only [aA.aC] at hnn5
 have ho2 : h5.obj h.next = some (.cells false (aG a b0 n0 es0)) := g5.at aB aD
 have ho3 : h5.obj (h.next + 1) = some (.cells false (aG b b1 n1 es1)) := g5.at aB aD
 refine QU (QN (Ma (w:=Mj (w:=Mt (w:=Ms (w:=MF (w:=fun hh => QQ (UA (QU (Bk (QU (Gd [⟨0, .pure, 0⟩, ⟨1, .read, 1⟩, ⟨2, .pure, 0⟩, ⟨3, .pure, 7⟩, ⟨4, .read, 15⟩, ⟨5, .pure, 0⟩, ⟨6, .read, 32⟩, ⟨7, .pure, 0⟩, ⟨8, .pure, 224⟩, ⟨9, .read, 480⟩, ⟨10, .aF, 1023⟩, ⟨11, .pure, 2047⟩] (w:=Dj (w:=Rt (w:=Da (w:=?_)))))))))) (v:=?_)))))));refine WD.pure (hw := ?_);rotate_left;intro hh;refine QP (WC.exit (aH (QN (Mb (w:=QM ?_)))));rotate_left
 ·have hia : i < a.kids.length := by omega
  obtain ⟨i1, cells1, rfl, rfl, hi1, ho1, hc1, b1', n1', es1', hd1, hs1⟩ := hk i _ (List.getElem?_eq_getElem hia)
  obtain ⟨i2, cells2, rfl, _, rfl, _, hi2, hob, hc2, hs2⟩ := hw.aM5 (by intro e; have := congrArg List.length e; simp only [List.length_nil] at this; omega)
  have hv2 := hs2 i _ (List.getElem?_eq_getElem (by omega))
  obtain ⟨b2', n2', es2', hd2⟩ := hv2.cells
  rw [hd2] at hv2
  have ho1' : h5.obj i1 = some (.cells false cells1) := (g.trans gg5).at hi1 ho1
  have ho2' : h5.obj i2 = some (.cells false cells2) := gg5.at hi2 hob
  refine WS.indexAddr (hk := ?_);refine WD.read (hw := ?_)
  refine WS.pT (vs := aG a.kids[i] b1' n1' es1') (hc := ?_) (hv' := ?_) (hk := ?_)
  (· omega); (· rw [show 0 + (i : Int).toNat * 7 = i * 7 by omega, hd1]; rfl)
  refine Dj (w:=Rt (w:=Da (w:=Dl (w:=?_))));refine WD.read (hw := ?_)
  refine WS.pT (vs := aG b.kids[i] b2' n2' es2') (hc := ?_) (hv' := ?_) (hk := ?_)
  (· omega); (· rw [show 0 + (i : Int).toNat * 7 = i * 7 by omega, hd2]; rfl)
  refine WD.aF hX (hw := ?_)
  refine QJ aS3 ?_
  refine hs1 (g.trans gg5) (sm.eF (List.getElem?_eq_getElem hia)) (hv2.mono aB fun j hj hlt => ⟨hj, gg5.2 j hlt⟩) fun h6 r g6 hr => ?_
  have gg6 := gg5.trans g6
  have gg7 := g5.trans g6
  cases r
  ·refine Db (w:=WD.nil (hq:=QN (Ma (w:=Me (w:=QQ (QN (Mb (w:=QM ?_))))))))
   refine ⟨_, aM, ?_⟩
   refine hq _ false fG ⟨fun e => (Bool.false_ne_true e).elim, fun e => ?_⟩
   subst e
   exact (Bool.false_ne_true (hr.2 rfl)).elim
  ·refine Db (w:=WD.nil (hq:=QN (Ma (w:=Me (w:=QP (UA (QV (Ma (w:=Mf (w:=Mb (w:=QL ?_)))))))))))
   refine ih (i + 1) _ _ (by omega) ⟨by assumption, by assumption, rfl, fG, hia, fun j hj => ?_⟩
   rcases Nat.lt_succ_iff_lt_or_eq.1 hj with hj | rfl
   ·exact heq5 j hj
   ·rw [List.getElem?_eq_getElem hia, List.getElem?_eq_getElem (by omega), hr.1 rfl]
 ·refine ⟨_, aM, ?_⟩
  refine hq _ true fG ⟨fun _ => Nd.aS6 (Decidable.not_not.1 ‹¬ a.kind ≠ b.kind›) (Decidable.not_not.1 ‹¬ a.text ≠ b.text›) (Decidable.not_not.1 ‹¬ a.num ≠ b.num›) (Decidable.not_not.1 ‹¬ a.pos ≠ b.pos›) (Decidable.not_not.1 ‹¬ a.cD ≠ b.cD›) (Decidable.not_not.1 ‹¬ a.ref ≠ b.ref›) ?_, fun _ => rfl⟩
  refine List.ext_getElem? fun j => ?_
  rcases Nat.lt_or_ge j i with hj | hj
  ·exact heq5 j hj
  ·rw [List.getElem?_eq_none (by omega), List.getElem?_eq_none (by omega)]

theorem aSj {N : Nat} (hN : N ≤ 1000000) {h0 : aA} {S : Nat → Prop} {vs : List Value} {a : Nd} (hv : NV h0 S vs a) : aR3 N h0 a vs := by
 induction hv with
 | leaf kind text num pos cD ref => exact aSc hN (a := .mk kind text num pos cD ref []) rfl fun j t hj => by cases hj
 | node kind text num pos cD ref kids i cells h1 h2 h3 h4 h5 ih =>
  refine aSc hN (a := .mk kind text num pos cD ref kids) rfl fun j t hj => ⟨i, cells, rfl, rfl, h2, h3, h4, ?_⟩
  obtain ⟨b', n', es', he⟩ := (h5 j t hj).cells
  exact ⟨b', n', es', he, he ▸ ih j t hj⟩

theorem aS1 {N : Nat} (hN : N ≤ 1000000) {h : aA} {S S2 : Nat → Prop} {a b : Nd} {b0 : Option Addr} {n0 es0 : Nat} {b1 : Option Addr} {n1 es1 : Nat} {Q : bR → Prop} (hv : NV h S (aG a b0 n0 es0) a) (hw : NV h S2 (aG b b1 n1 es1) b) (sm : Small N a)
  (hq : ∀ h' r, Gr h h' → (r = true ↔ a = b) → Q (.ret (.bool r) h')) : aS Tryz.prog G X 13 [.agg (aG a b0 n0 es0).toArray, .agg (aG b b1 n1 es1).toArray] h Q :=
 aSj hN hv (Gr.refl _) sm hw hq

def aGj : Nd → Nd
 | .mk kind text num _ _ _ kids => .mk kind text num 0 ⟨#[]⟩ 0 (kids.map aGj)

def aR2 (N : Nat) (h0 : aA) (a : Nd) (vs : List Value) : Prop := ∀ {h : aA} {Q : bR → Prop}, Gr h0 h → Small N a →
 (∀ h' b n es, Gr h h' → NV h' (fun j => h.next ≤ j) (aG (aGj a) b n es) (aGj a) → Q (.ret (.agg (aG (aGj a) b n es).toArray) h')) → aS Tryz.prog G X 14 [.agg vs.toArray] h Q

theorem bare_go {N : Nat} (hN : N ≤ 1000000) {h0 : aA} {a : Nd} {b0 : Option Addr} {n0 es0 : Nat} (hn0 : n0 = a.kids.length)
  (hk : ∀ (j : Nat) t, a.kids[j]? = some t → ∃ i cells, b0 = some ⟨i, 0, none⟩ ∧ es0 = 7 ∧ i < h0.next ∧ h0.obj i = some (.cells false cells) ∧ a.kids.length * 7 ≤ cells.length ∧ ∃ b' n' es', (cells.drop (j * 7)).take 7 = aG t b' n' es' ∧ aR2 N h0 t (aG t b' n' es')) :
  aR2 N h0 a (aG a b0 n0 es0) := by
 intro h Q g sm hq
 have hl := sm.len
 have hg0 := g.1
 refine Wk Tryz.func14 Tryz.ntmps14 (w:=QN (Mx (w:=Mw (w:=QO (Mj (w:=Mt (w:=Mj (w:=Mt (w:=Mj (w:=Mt (w:=Mn (w:=Mw (w:=Mv (w:=QL (QU (QN (Mb (w:=QL (Bk ?_)))))))))))))))))))
 refine WC.cB hX (α := Nat) (m := fun i => a.kids.length - i) (Inv := fun i v h' => v 1 = some (.pointer (some ⟨h.next, 0, none⟩)) ∧ v 2 = some (.pointer (some ⟨h.next + 1, 0, none⟩)) ∧ v 3 = some (.pointer (some ⟨h.next + 2, 0, none⟩)) ∧ v 4 = some (.int .i64 i) ∧ Gr h h' ∧ h.next + 2 < h'.next ∧
  h'.obj h.next = some (.cells false (aG a b0 n0 es0)) ∧ h'.obj (h.next + 1) = some (.cells false (aG (.mk 0 ⟨#[]⟩ 0 0 ⟨#[]⟩ 0 []) none 0 0)) ∧ i ≤ a.kids.length ∧
  ∃ b n es, h'.obj (h.next + 2) = some (.cells false (aG (.mk a.kind a.text a.num 0 ⟨#[]⟩ 0 []) b n es)) ∧ KV h' (fun j => h.next + 2 < j) b n es ((a.kids.take i).map aGj)) 0
  ⟨rfl, rfl, rfl, rfl, fG, aB, aD, aD, by omega, none, 0, 0, aD, KV.nil _ _⟩ ?_
 rintro i env h5 ih ⟨e1, e2, e3, e4, g5, hn5, ho1, ho2, hi5, b5, n5, es5, ho3, kv5⟩
 have hl5 := kv5.len
 have hl5' : n5 ≤ i := by rw [hl5, List.length_map, List.length_take]; omega
 refine QU (QN (Ma (w:=Mj (w:=Mt (w:=Ms (w:=MF (w:=fun hh => QQ (UA (QU (Bk (Gd [⟨0, .pure, 0⟩, ⟨1, .read, 1⟩, ⟨2, .pure, 0⟩, ⟨3, .read, 4⟩, ⟨4, .pure, 0⟩, ⟨5, .pure, 28⟩, ⟨6, .read, 60⟩, ⟨7, .aF, 124⟩, ⟨8, .alloc, 252⟩, ⟨9, .aF, 511⟩, ⟨10, .pure, 1023⟩, ⟨11, .aF, 2047⟩] (w:=Dj (w:=Rt (w:=Dj (w:=Rt (w:=Da (w:=?_))))))))))) (v:=?_)))))));refine WD.pure (hw := ?_);rotate_left;intro hh;refine QP (WC.exit (aH (QN (Mu (w:=Mv (w:=QM ?_))))));rotate_left
 ·have hia : i < a.kids.length := by omega
  obtain ⟨i1, cells1, rfl, rfl, hi1, hc1o, hc1, b1', n1', es1', hd1, hs1⟩ := hk i _ (List.getElem?_eq_getElem hia)
  have ho1' : h5.obj i1 = some (.cells false cells1) := (g.trans g5).at hi1 hc1o
  refine WS.indexAddr (hk := ?_);refine WD.read (hw := ?_)
  refine WS.pT (vs := aG a.kids[i] b1' n1' es1') (hc := ?_) (hv' := ?_) (hk := ?_)
  (· omega); (· rw [show 0 + (i : Int).toNat * 7 = i * 7 by omega, hd1]; rfl)
  refine WD.aF hX (hw := ?_)
  refine QJ aS0 ?_
  refine hs1 (g.trans g5) (sm.eF (List.getElem?_eq_getElem hia)) fun h6 b6 n6 es6 g6 nv6 => ?_
  generalize ht6 : aGj a.kids[i] = t6 at *
  have hn6 := g6.1
  refine WD.alloc (hw := Qz ?_);refine WD.aF hX (hw := ?_)
  have kvH := kv5.mono (S' := fun j => h.next + 2 < j) (h' := h6.alloc (.cells false (aG t6 b6 n6 es6))) aB (fun j hS hj => ⟨hS, bB⟩)
  have hbne := kvH.ne
  obtain ⟨old, hsa, hol, hold⟩ := kvH.sliceAt
  have hol2 : old.length ≤ 7000000 := by rw [hol, ← hl5]; omega
  apply WS.append
  (· rfl); (· rfl); (· exact aL); (· exact aL); (· rfl); (· rfl); (· intro k hk; cases hk); (· exact cE rfl); (· decide); (· exact aD); (· exact iC); (· rfl); (· unfold room; omega); (· rfl); (· exact hsa)
  intro h9 hn9 ho9 hf9
  simp only [UB, UC] at hn9 ho9 hf9
  have hk9 : ∀ j, j ≤ h.next + 2 → h9.obj j = (h6.alloc (.cells false (aG t6 b6 n6 es6))).obj j := fun j hj => hf9 j (by omega) (hbne j hj)
  have kv9 : KV h9 (fun j => h.next + 2 < j) (some ⟨h6.next + 1, 0, none⟩) (n5 + 1) 7 ((a.kids.take i).map aGj ++ [t6]) := KV.snoc (h := h6.alloc (.cells false (aG t6 b6 n6 es6))) (S2 := fun j => h5.next ≤ j ∧ j < h6.next) hol (by omega) hold
   (nv6.kp) aB ho9 hf9 aB (fun x hx _ => by omega) (fun x hx hlt => ⟨by have := hx.1; omega, kv5.ge x hx.1⟩)
  have q1 : h9.obj h.next = some (.cells false (aG a (some ⟨i1, 0, none⟩) n0 7)) := (hk9 _ (by omega)).trans aD
  have q2 : h9.obj (h.next + 1) = some (.cells false (aG (.mk 0 ⟨#[]⟩ 0 0 ⟨#[]⟩ 0 []) none 0 0)) := (hk9 _ (by omega)).trans aD
  have q3 : h9.obj (h.next + 2) = some (.cells false (aG (.mk a.kind a.text a.num 0 ⟨#[]⟩ 0 []) b5 n5 es5)) := (hk9 _ (by omega)).trans aD
  have q4 : Gr h h9 := ⟨by have := g5.1; omega, fun j hj => by rw [hk9 j (by omega), aA.iX, if_neg (by omega), g6.2 j (by omega), g5.2 j hj]⟩
  refine Dj (w:=?_);refine WD.aF hX (hw := Qv ?_);refine WD.nil (hq:=QV (Ma (w:=Mf (w:=Mb (w:=QL ?_)))))
  refine ih (i + 1) _ _ (by omega) ⟨by assumption, by assumption, by assumption, rfl, fG, aB, aD, aD, hia, _, _, _, aD, ?_⟩
  rw [List.take_add_one, List.getElem?_eq_getElem hia, Option.toList_some, List.map_append, List.map_singleton, ht6]
  refine KV.mono (h := h9) ?_ ?_ kv9
  ·exact aB
  ·exact fun j hS hj => ⟨hS, bB⟩
 ·have hfull : a.kids.take i = a.kids := List.take_of_length_le (by omega)
  rw [hfull] at kv5
  have hb : aGj a = .mk a.kind a.text a.num 0 ⟨#[]⟩ 0 (a.kids.map aGj) := by cases a; simp only [aGj, Nd.kind, Nd.text, Nd.num, Nd.kids]
  rw [hb] at hq
  skip
  refine ⟨_, aM, ?_⟩
  refine hq _ b5 n5 es5 fG ?_
  exact NV.aZ (kv5.kp) _ _ _ _ _ _

theorem aSg {N : Nat} (hN : N ≤ 1000000) {h0 : aA} {S : Nat → Prop} {vs : List Value} {a : Nd} (hv : NV h0 S vs a) : aR2 N h0 a vs := by
 induction hv with
 | leaf kind text num pos cD ref => exact bare_go hN (a := .mk kind text num pos cD ref []) rfl fun j t hj => by cases hj
 | node kind text num pos cD ref kids i cells h1 h2 h3 h4 h5 ih =>
  refine bare_go hN (a := .mk kind text num pos cD ref kids) rfl fun j t hj => ⟨i, cells, rfl, rfl, h2, h3, h4, ?_⟩
  obtain ⟨b', n', es', he⟩ := (h5 j t hj).cells
  exact ⟨b', n', es', he, he ▸ ih j t hj⟩

theorem aSo {N : Nat} (hN : N ≤ 1000000) {h : aA} {S : Nat → Prop} {a : Nd} {b0 : Option Addr} {n0 es0 : Nat} {Q : bR → Prop} (hv : NV h S (aG a b0 n0 es0) a) (sm : Small N a)
  (hq : ∀ h' b n es, Gr h h' → NV h' (fun j => h.next ≤ j) (aG (aGj a) b n es) (aGj a) → Q (.ret (.agg (aG (aGj a) b n es).toArray) h')) : aS Tryz.prog G X 14 [.agg (aG a b0 n0 es0).toArray] h Q :=
 aSg hN hv (Gr.refl _) sm hq

theorem Small.bare {n : Nat} {t : Nd} (s : Small n t) : Small n (aGj t) := by
 induction s with
 | mk kind text num pos cD ref kids h1 h2 ih =>
  unfold aGj
  refine .mk _ _ _ _ _ _ _ (by rw [List.length_map]; exact h1) fun j t ht => ?_
  rw [List.getElem?_map] at ht
  cases hk : kids[j]? with
  | none => rw [hk] at ht; cases ht
  | some u => rw [hk] at ht; cases ht; exact ih j u hk

def dX (P : Int → Int → Prop) (t t' : Tok) : Prop := ∃ p, P t.pos p ∧ t' = ⟨t.kind, t.text, t.num, p⟩

inductive oC (P : Int → Int → Prop) : Nd → Nd → Prop
 | mk (kind : Int) (text : ByteArray) (num pos pos' : Int) (cD : ByteArray) (ref : Int) (kids kids' : List Nd) : P pos pos' → kids.length = kids'.length →
   (∀ (i : Nat) t t', kids[i]? = some t → kids'[i]? = some t' → oC P t t') → oC P (.mk kind text num pos cD ref kids) (.mk kind text num pos' cD ref kids')
def LR (P : Int → Int → Prop) (l l' : List Nd) : Prop := l.length = l'.length ∧ ∀ (i : Nat) t t', l[i]? = some t → l'[i]? = some t' → oC P t t'

theorem oC.of {P : Int → Int → Prop} {kids kids' : List Nd} {pos pos' : Int} (hp : P pos pos') (hk : LR P kids kids') (kind : Int) (text : ByteArray) (num : Int) (cD : ByteArray) (ref : Int) : oC P (.mk kind text num pos cD ref kids) (.mk kind text num pos' cD ref kids') :=
 .mk _ _ _ _ _ _ _ _ _ hp hk.1 hk.2
theorem LR.nil (P : Int → Int → Prop) : LR P [] [] := ⟨rfl, fun i t t' h => by cases h⟩
theorem LR.cons {P : Int → Int → Prop} {t t' : Nd} {l l' : List Nd} (h : oC P t t') (hl : LR P l l') : LR P (t :: l) (t' :: l') := by
 refine ⟨by rw [List.length_cons, List.length_cons, hl.1], fun i u u' h1 h2 => ?_⟩
 cases i with
 | zero => simp only [List.getElem?_cons_zero, Option.some.injEq] at h1 h2; subst h1; subst h2; exact h
 | succ i => exact hl.2 i u u' (by simpa using h1) (by simpa using h2)
theorem LR.app {P : Int → Int → Prop} {l l' m m' : List Nd} (hl : LR P l l') (hm : LR P m m') : LR P (l ++ m) (l' ++ m') := by
 refine ⟨by rw [List.length_append, List.length_append, hl.1, hm.1], fun i u u' h1 h2 => ?_⟩
 rcases Nat.lt_or_ge i l.length with h | h
 ·rw [List.getElem?_append_left h] at h1
  rw [List.getElem?_append_left (by rw [← hl.1]; exact h)] at h2
  exact hl.2 i u u' h1 h2
 ·rw [List.getElem?_append_right h] at h1
  rw [List.getElem?_append_right (by rw [← hl.1]; exact h), ← hl.1] at h2
  exact hm.2 _ u u' h1 h2
theorem LR.one {P : Int → Int → Prop} {t t' : Nd} (h : oC P t t') : LR P [t] [t'] := .cons h (.nil P)

mutual
theorem oC.xS {P : Int → Int → Prop} (h : ∀ p, ∃ p', P p p') : ∀ t : Nd, ∃ t', oC P t t'
 | .mk k x n p ty r ks => by
  obtain ⟨p', hp⟩ := h p
  obtain ⟨l', hl⟩ := LR.xS h ks
  exact ⟨_, oC.of hp hl k x n ty r⟩
theorem LR.xS {P : Int → Int → Prop} (h : ∀ p, ∃ p', P p p') : ∀ l : List Nd, ∃ l', LR P l l'
 | [] => ⟨[], .nil P⟩
 | t :: l => by
  obtain ⟨t', ht⟩ := oC.xS h t
  obtain ⟨l', hl⟩ := LR.xS h l
  exact ⟨_, .cons ht hl⟩
end

theorem dX.xS {P : Int → Int → Prop} (h : ∀ p, ∃ p', P p p') (t : Tok) : ∃ t', dX P t t' := by
 obtain ⟨p, hp⟩ := h t.pos
 exact ⟨_, p, hp, rfl⟩

def St.sh (d : Nat) (s : St) : St := ⟨d + s.k, s.bare⟩

structure Alike (P : Int → Int → Prop) (L L' : List Tok) (d a0 e : Nat) : Prop where
 zero : P 0 0
 xS : ∀ p, ∃ p', P p p'
 vS : ∀ i, a0 ≤ i → i ≤ e → dX P (aK L i) (aK L' (d + i))

def Bd {α : Type} (e d len : Nat) (W : α → St → Prop) (V : α → α → Prop) (Fu : Prop) (a b : Nat) (r r' : R α) : Prop := match r with
 | .ok x s => b ≤ s.k ∧ s.k ≤ len ∧ W x s ∧ (s.k ≤ e → ∃ x', r' = .ok x' (s.sh d) ∧ V x x')
 | .bad i => a ≤ i ∧ (i ≤ e → r' = .bad (d + i))
 | .out => ¬ Fu

section
variable {α β : Type} {e d len : Nat} {W : α → St → Prop} {V : α → α → Prop} {W2 : β → St → Prop} {V2 : β → β → Prop} {Fu Fu' : Prop} {a b a' b' : Nat} {r r' : R α}

theorem Bd.eY (h : Bd e d len W V Fu' a' b' r r') (hf : Fu → Fu') (ha : a ≤ a') (hb : b ≤ b') : Bd e d len W V Fu a b r r' := by
 cases r with
 | ok x s => exact ⟨Nat.le_trans hb h.1, h.2⟩
 | bad i => exact ⟨Nat.le_trans ha h.1, h.2⟩
 | out => exact fun hu => h (hf hu)

theorem Bd.then {f f' : α → St → R β} (h : Bd e d len W V Fu' a' b' r r') (hf : Fu → Fu') (ha : a ≤ a') (hb : a ≤ b') (xS : ∀ x s, W x s → ∃ x', V x x')
  (hk : ∀ x x' s, b' ≤ s.k → s.k ≤ len → W x s → V x x' → Bd e d len W2 V2 Fu s.k (max b s.k) (f x s) (f' x' (s.sh d))) : Bd e d len W2 V2 Fu a b (r.then f) (r'.then f') := by
 cases r with
 | ok x s =>
  obtain ⟨h1, h2, h3, h4⟩ := h
  obtain ⟨x', hx⟩ := xS x s h3
  have hc := hk x x' s h1 h2 h3 hx
  show Bd e d len W2 V2 Fu a b (f x s) (r'.then f')
  cases hr : f x s with
  | ok y s2 =>
   rw [hr] at hc
   obtain ⟨c1, c2, c3, _⟩ := hc
   refine ⟨by omega, c2, c3, fun he => ?_⟩
   obtain ⟨y', hy, hv⟩ := h4 (by omega)
   have hc2 := hk x y' s h1 h2 h3 hv
   rw [hr] at hc2
   obtain ⟨z, hz, hv2⟩ := hc2.2.2.2 he
   exact ⟨z, by rw [hy]; exact hz, hv2⟩
  | bad i =>
   rw [hr] at hc
   have c1 : s.k ≤ i := hc.1
   refine ⟨by omega, fun he => ?_⟩
   obtain ⟨y', hy, hv⟩ := h4 (by omega)
   have hc2 := hk x y' s h1 h2 h3 hv
   rw [hr] at hc2
   rw [hy]; exact hc2.2 he
  | out => rw [hr] at hc; exact hc
 | bad i => exact ⟨Nat.le_trans ha h.1, fun he => by rw [h.2 he]; rfl⟩
 | out => exact fun hu => h (hf hu)

theorem Bd.at (k : Nat) (hk : a ≤ k) (h : Bd e d len W V Fu k (max b k) r r') : Bd e d len W V Fu a b r r' := h.eY id hk (by omega)

theorem Bd.ite {c c' : Prop} [Decidable c] [Decidable c'] {A B A' B' : R α} (hs : a ≤ e → (c' ↔ c)) (hab : a ≤ b) (h1 : c → Bd e d len W V Fu a b A A') (h2 : ¬ c → Bd e d len W V Fu a b B B') :
  Bd e d len W V Fu a b (if c then A else B) (if c' then A' else B') := by
 by_cases hc : c
 ·rw [if_pos hc]
  have h := h1 hc
  cases hr : A with
  | ok x s => rw [hr] at h; exact ⟨h.1, h.2.1, h.2.2.1, fun he => by have := h.1; rw [if_pos ((hs (by omega)).2 hc)]; exact h.2.2.2 he⟩
  | bad i => rw [hr] at h; exact ⟨h.1, fun he => by have := h.1; rw [if_pos ((hs (by omega)).2 hc)]; exact h.2 he⟩
  | out => rw [hr] at h; exact h
 ·rw [if_neg hc]
  have h := h2 hc
  cases hr : B with
  | ok x s => rw [hr] at h; exact ⟨h.1, h.2.1, h.2.2.1, fun he => by have := h.1; rw [if_neg (fun x => hc ((hs (by omega)).1 x))]; exact h.2.2.2 he⟩
  | bad i => rw [hr] at h; exact ⟨h.1, fun he => by have := h.1; rw [if_neg (fun x => hc ((hs (by omega)).1 x))]; exact h.2 he⟩
  | out => rw [hr] at h; exact h

theorem Bd.ok {x x' : α} {s : St} (hb : b ≤ s.k) (hl : s.k ≤ len) (hw : W x s) (hv : s.k ≤ e → V x x') : Bd e d len W V Fu a b (.ok x s) (.ok x' (s.sh d)) := ⟨hb, hl, hw, fun he => ⟨x', rfl, hv he⟩⟩
theorem Bd.fail {L L' : List Tok} {s : St} (ha : a ≤ s.k) : Bd e d len W V Fu a b (fY L s) (fY L' (s.sh d)) := ⟨ha, fun _ => rfl⟩
theorem Bd.out (h : ¬ Fu) : Bd e d len W V Fu a b .out r' := h
end

theorem iK {k : Nat} (h : (aK L k).kind ≠ 6) : k < L.length := by
 rcases Nat.lt_or_ge k L.length with h' | h'
 ·exact h'
 ·exfalso; apply h; unfold aK; rw [List.getD_eq_getElem?_getD, List.getElem?_eq_none h']; rfl
theorem pQ {s : St} {ts : List ByteArray} (h : cC L s ts = true) : s.k < L.length := iK (l5 h)

section
variable {P : Int → Int → Prop} {L L' : List Tok} {d a0 e : Nat}
theorem Alike.is (g : Alike P L L' d a0 e) {s : St} {ts : List ByteArray} (ha : a0 ≤ s.k) (he : s.k ≤ e) : cC L' (s.sh d) ts = cC L s ts := by
 obtain ⟨p, _, h⟩ := g.vS s.k ha he
 unfold cC
 rw [show (s.sh d).k = d + s.k from rfl, h]
 rfl

abbrev BT (P : Int → Int → Prop) (e d len : Nat) (Fu : Prop) (a b : Nat) (r r' : R Tok) : Prop := Bd e d len (fun t _ => t.kind ≠ 6) (dX P) Fu a b r r'
abbrev BN (P : Int → Int → Prop) (e d len : Nat) (Fu : Prop) (a b : Nat) (r r' : R Nd) : Prop := Bd e d len (fun t _ => Small (len + 10) t) (oC P) Fu a b r r'
def LW (len : Nat) (l : List Nd) (s : St) : Prop := l.length ≤ s.k + 5 ∧ ∀ (i : Nat) t, l[i]? = some t → Small (len + 10) t
abbrev BL (P : Int → Int → Prop) (e d len : Nat) (Fu : Prop) (a b : Nat) (r r' : R (List Nd)) : Prop := Bd e d len (fun l s => LW len l s) (LR P) Fu a b r r'

theorem aI3 (g : Alike P L L' d a0 e) {s : St} {t : ByteArray} {Fu : Prop} (ha : a0 ≤ s.k) : BT P e d L.length Fu s.k (s.k + 1) (cM L s t) (cM L' (s.sh d) t) := by
 unfold cM
 refine Bd.ite (fun he => by rw [g.is ha he]) (by omega) (fun h => ?_) (fun _ => Bd.fail (Nat.le_refl _))
 exact Bd.ok (Nat.le_refl _) (pQ h) (l5 h) fun he => g.vS _ ha (Nat.le_trans (Nat.le_succ _) he)
theorem aNg (g : Alike P L L' d a0 e) {s : St} {Fu : Prop} (ha : a0 ≤ s.k) : BT P e d L.length Fu s.k (s.k + 1) (gB L s) (gB L' (s.sh d)) := by
 unfold gB
 refine Bd.ite (fun he => ?_) (by omega) (fun h => ?_) (fun _ => Bd.fail (Nat.le_refl _))
 ·obtain ⟨p, _, h⟩ := g.vS _ ha he
  rw [show (s.sh d).k = d + s.k from rfl, h]
 ·exact Bd.ok (Nat.le_refl _) (iK (by omega)) (by omega) fun he => g.vS _ ha (Nat.le_trans (Nat.le_succ _) he)
end

def SL (n : Nat) (l : List Nd) : Prop := ∀ (i : Nat) t, l[i]? = some t → Small n t
theorem SL.nil (n : Nat) : SL n [] := fun i t h => by cases h
theorem SL.cons {n : Nat} {t : Nd} {l : List Nd} (h : Small n t) (hl : SL n l) : SL n (t :: l) := by
 intro i u hu
 cases i with
 | zero => simp only [List.getElem?_cons_zero, Option.some.injEq] at hu; subst hu; exact h
 | succ i => exact hl i u (by simpa using hu)
theorem SL.app {n : Nat} {l m : List Nd} (hl : SL n l) (hm : SL n m) : SL n (l ++ m) := by
 intro i u hu
 rcases Nat.lt_or_ge i l.length with h | h
 ·rw [List.getElem?_append_left h] at hu; exact hl i u hu
 ·rw [List.getElem?_append_right h] at hu; exact hm _ u hu
theorem Small.of {n : Nat} {l : List Nd} (hl : SL n l) (h : l.length ≤ n) (kind : Int) (text : ByteArray) (num pos : Int) (cD : ByteArray) (ref : Int) : Small n (.mk kind text num pos cD ref l) := .mk _ _ _ _ _ _ _ h hl
theorem Small.none (n : Nat) : Small n c5 := .of (.nil _) (Nat.zero_le _) _ _ _ _ _ _

section
variable {P : Int → Int → Prop} {L L' : List Tok} {d a0 e : Nat}

theorem Alike.nd (g : Alike P L L' d a0 e) (t : Nd) : ∃ t', oC P t t' := oC.xS g.xS t
theorem Alike.list (g : Alike P L L' d a0 e) (t : List Nd) : ∃ t', LR P t t' := LR.xS g.xS t
theorem Alike.none (g : Alike P L L' d a0 e) : oC P c5 c5 := oC.of g.zero (.nil P) _ _ _ _ _

structure hM (P : Int → Int → Prop) (L L' : List Tok) (d a0 e : Nat) (m : Nat) (r : Rec) : Prop where
 cD : ∀ hd s, a0 ≤ s.k → BN P e d L.length (10 * (L.length - s.k) + 1 ≤ m) s.k (s.k + 1) (r.cD L hd s) (r.cD L' hd (s.sh d))
 function : ∀ hd s, a0 ≤ s.k → BL P e d L.length (10 * (L.length - s.k) + 1 ≤ m) s.k (s.k + 1) (r.function L hd s) (r.function L' hd (s.sh d))
 block : ∀ hd s, a0 ≤ s.k → BN P e d L.length (10 * (L.length - s.k) + 1 ≤ m) s.k (s.k + 1) (r.block L hd s) (r.block L' hd (s.sh d))
 stmts : ∀ hd s, a0 ≤ s.k → s.k ≤ L.length → BL P e d L.length (10 * (L.length - s.k) + 7 ≤ m) s.k s.k (r.stmts L hd s) (r.stmts L' hd (s.sh d))
 stmt : ∀ hd s, a0 ≤ s.k → BN P e d L.length (10 * (L.length - s.k) + 6 ≤ m) s.k (s.k + 1) (r.stmt L hd s) (r.stmt L' hd (s.sh d))
 nested : ∀ hd s, a0 ≤ s.k → BN P e d L.length (10 * (L.length - s.k) + 1 ≤ m ∧ (aK L s.k).kind ≠ 6) s.k (s.k + 1) (r.nested L hd s) (r.nested L' hd (s.sh d))
 branch : ∀ hd s, a0 ≤ s.k → BN P e d L.length (10 * (L.length - s.k) + 1 ≤ m ∧ (aK L s.k).kind ≠ 6) s.k (s.k + 1) (r.branch L hd s) (r.branch L' hd (s.sh d))
 expr : ∀ hd s, a0 ≤ s.k → BN P e d L.length (10 * (L.length - s.k) + 4 ≤ m) s.k (s.k + 1) (r.expr L hd s) (r.expr L' hd (s.sh d))
 binary : ∀ least hd s, a0 ≤ s.k → BN P e d L.length (10 * (L.length - s.k) + 3 ≤ m) s.k (s.k + 1) (r.binary least L hd s) (r.binary least L' hd (s.sh d))
 unary : ∀ hd s, a0 ≤ s.k → BN P e d L.length (10 * (L.length - s.k) + 2 ≤ m) s.k (s.k + 1) (r.unary L hd s) (r.unary L' hd (s.sh d))
 cH : ∀ hd s a, a0 ≤ s.k → s.k ≤ a → a ≤ s.k + 1 → (a = s.k ∨ (aK L s.k).kind = 1) → BN P e d L.length (10 * (L.length - s.k) + 1 ≤ m) a (s.k + 1) (r.cH L hd s) (r.cH L' hd (s.sh d))
 simple : ∀ hd s a, a0 ≤ s.k → s.k ≤ a → a ≤ s.k + 1 → (a = s.k ∨ (aK L s.k).kind = 1) → BN P e d L.length (10 * (L.length - s.k) + 2 ≤ m) a (s.k + 1) (r.simple L hd s) (r.simple L' hd (s.sh d))

theorem tA {α : Type} {W : α → St → Prop} {V : α → α → Prop} {Fu : Prop} {k0 : Nat} {ts : List ByteArray} {f f' : α → St → R α} (g : Alike P L L' d a0 e) (ha : a0 ≤ k0) (xS : ∀ x, ∃ x', V x x')
  (hf : ∀ x x' s, k0 ≤ s.k → s.k ≤ L.length → W x s → V x x' → Bd e d L.length W V Fu s.k (s.k + 1) (f x s) (f' x' (s.sh d))) :
  ∀ (n : Nat) x x' s, k0 ≤ s.k → s.k ≤ L.length → W x s → V x x' → Bd e d L.length (fun x s => W x s ∧ cC L s ts = true) V (Fu ∧ L.length - s.k < n) s.k s.k (dI L ts f n x s) (dI L' ts f' n x' (s.sh d)) := by
 intro n
 induction n with
 | zero => exact fun x x' s _ _ _ _ => Bd.out (by omega)
 | succ n ih =>
  intro x x' s hk hl hw hv
  unfold dI
  refine Bd.ite (fun he => by rw [g.is (by omega) he]) (Nat.le_refl _) (fun h => Bd.ok (Nat.le_refl _) hl ⟨hw, h⟩ fun _ => hv) fun h => ?_
  refine Bd.then (hf x x' s hk hl hw hv) (fun h => h.1) (Nat.le_refl _) (by omega) (fun x _ _ => xS x) fun y y' s1 h1 h2 h3 h4 => ?_
  exact (ih y y' s1 (by omega) h2 h3 h4).eY (fun h => ⟨h.1, by omega⟩) (Nat.le_refl _) (by omega)

theorem aIs (g : Alike P L L' d a0 e) {s : St} {first first' : Bool} {Fu : Prop} (ha : a0 ≤ s.k) (hl : s.k ≤ L.length) (h : first' = first) : Bd e d L.length (fun _ _ => True) (fun _ _ => True) Fu s.k s.k (sW L s first) (sW L' (s.sh d) first') := by
 subst h
 unfold sW
 refine Bd.ite (fun _ => Iff.rfl) (Nat.le_refl _) (fun _ => Bd.ok (Nat.le_refl _) hl trivial fun _ => trivial) fun _ => ?_
 refine Bd.then (aI3 g ha) id (Nat.le_refl _) (by omega) (fun x _ _ => dX.xS g.xS x) fun t t' s1 h1 h2 _ _ => ?_
 exact Bd.ok (by omega) h2 trivial fun _ => trivial

theorem dX.text {t t' : Tok} (h : dX P t t') : t'.text = t.text := by obtain ⟨p, _, rfl⟩ := h; rfl
theorem dX.kind {t t' : Tok} (h : dX P t t') : t'.kind = t.kind := by obtain ⟨p, _, rfl⟩ := h; rfl
theorem dX.nd {t t' : Tok} (h : dX P t t') {l l' : List Nd} (hl : LR P l l') (k : Int) (x : ByteArray) : oC P (nd k t x l) (nd k t' x l') := by obtain ⟨p, hp, rfl⟩ := h; exact .of hp hl _ _ _ _ _

theorem aV (s : St) : s.next.k = s.k + 1 := rfl
theorem eB (s : St) (k : Nat) : (s.goto k).k = k := rfl
theorem eL (s : St) (b : Bool) : (s.with b).k = s.k := rfl

section
variable {α : Type} {W : α → St → Prop} {V : α → α → Prop} {Fu Fu' : Prop} {a b a' b' : Nat}
theorem bY (g : Alike P L L' d a0 e) {r r' : R Nd} {f f' : Nd → St → R α} (h : BN P e d L.length Fu' a' b' r r')
  (hk : ∀ x x' s, b' ≤ s.k → s.k ≤ L.length → Small (L.length + 10) x → oC P x x' → Bd e d L.length W V Fu s.k (max b s.k) (f x s) (f' x' (s.sh d)))
  (hf : Fu → Fu' := by first | exact id | (intro _; first | omega | (simp only [aV, eB, eL]; omega))) (ha : a ≤ a' := by first | omega | (simp only [aV, eB, eL]; omega)) (hb : a ≤ b' := by first | omega | (simp only [aV, eB, eL]; omega)) :
  Bd e d L.length W V Fu a b (r.then f) (r'.then f') := Bd.then h hf ha hb (fun x _ _ => g.nd x) hk
theorem oA (g : Alike P L L' d a0 e) {r r' : R (List Nd)} {f f' : List Nd → St → R α} (h : BL P e d L.length Fu' a' b' r r')
  (hk : ∀ x x' s, b' ≤ s.k → s.k ≤ L.length → LW L.length x s → LR P x x' → Bd e d L.length W V Fu s.k (max b s.k) (f x s) (f' x' (s.sh d)))
  (hf : Fu → Fu' := by first | exact id | (intro _; first | omega | (simp only [aV, eB, eL]; omega))) (ha : a ≤ a' := by first | omega | (simp only [aV, eB, eL]; omega)) (hb : a ≤ b' := by first | omega | (simp only [aV, eB, eL]; omega)) :
  Bd e d L.length W V Fu a b (r.then f) (r'.then f') := Bd.then h hf ha hb (fun x _ _ => g.list x) hk
theorem eW (g : Alike P L L' d a0 e) {s : St} {t : ByteArray} {f f' : Tok → St → R α}
  (hk : ∀ x x' s1, s.k + 1 ≤ s1.k → s1.k ≤ L.length → x.kind ≠ 6 → dX P x x' → Bd e d L.length W V Fu s1.k (max b s1.k) (f x s1) (f' x' (s1.sh d)))
  (h0 : a0 ≤ s.k := by first | omega | (simp only [aV, eB, eL]; omega)) (ha : a ≤ s.k := by first | omega | (simp only [aV, eB, eL]; omega)) :
  Bd e d L.length W V Fu a b ((cM L s t).then f) ((cM L' (s.sh d) t).then f') := Bd.then (aI3 g h0) id ha (by omega) (fun x _ _ => dX.xS g.xS x) hk
theorem p9 (g : Alike P L L' d a0 e) {s : St} {f f' : Tok → St → R α}
  (hk : ∀ x x' s1, s.k + 1 ≤ s1.k → s1.k ≤ L.length → x.kind ≠ 6 → dX P x x' → Bd e d L.length W V Fu s1.k (max b s1.k) (f x s1) (f' x' (s1.sh d)))
  (h0 : a0 ≤ s.k := by first | omega | (simp only [aV, eB, eL]; omega)) (ha : a ≤ s.k := by first | omega | (simp only [aV, eB, eL]; omega)) :
  Bd e d L.length W V Fu a b ((gB L s).then f) ((gB L' (s.sh d)).then f') := Bd.then (aNg g h0) id ha (by omega) (fun x _ _ => dX.xS g.xS x) hk
theorem aCb (g : Alike P L L' d a0 e) {r r' : R Unit} {f f' : Unit → St → R α} (h : Bd e d L.length (fun _ _ => True) (fun _ _ => True) Fu a' b' r r')
  (hk : ∀ s, b' ≤ s.k → s.k ≤ L.length → Bd e d L.length W V Fu s.k (max b s.k) (f () s) (f' () (s.sh d)))
  (ha : a ≤ a' := by first | omega | (simp only [aV, eB, eL]; omega)) (hb : a ≤ b' := by first | omega | (simp only [aV, eB, eL]; omega)) :
  Bd e d L.length W V Fu a b (r.then f) (r'.then f') := Bd.then h id ha hb (fun x _ _ => ⟨(), trivial⟩) fun x x' s h1 h2 _ _ => hk s h1 h2
theorem fP (g : Alike P L L' d a0 e) {s : St} {ts : List ByteArray} {A B A' B' : R α} (h1 : cC L s ts = true → s.k < L.length → Bd e d L.length W V Fu a b A A') (h2 : cC L s ts = false → Bd e d L.length W V Fu a b B B')
  (h0 : a0 ≤ s.k := by first | omega | (simp only [aV, eB, eL]; omega)) (ha : s.k ≤ a := by first | omega | (simp only [aV, eB, eL]; omega)) (hab : a ≤ b := by first | omega | (simp only [aV, eB, eL]; omega)) :
  Bd e d L.length W V Fu a b (if cC L s ts then A else B) (if cC L' (s.sh d) ts then A' else B') :=
 Bd.ite (fun he => by rw [g.is h0 (by omega)]) hab (fun h => h1 h (pQ h)) (fun h => h2 (by simpa using h))
theorem Bd.node {k : Int} {t t' : Tok} {x x' : ByteArray} {l l' : List Nd} {s : St} (hb : b ≤ s.k) (hl : s.k ≤ L.length) (hs : SL (L.length + 10) l) (hn : l.length ≤ L.length + 10) (hv : s.k ≤ e → dX P t t' ∧ x' = x ∧ LR P l l') :
  BN P e d L.length Fu a b (.ok (nd k t x l) s) (.ok (nd k t' x' l') (s.sh d)) := Bd.ok hb hl (.of hs hn _ _ _ _ _ _) fun he => by obtain ⟨h1, rfl, h3⟩ := hv he; exact h1.nd h3 _ _
end

theorem aQd (g : Alike P L L' d a0 e) {m : Nat} {r : Rec} (c : hM P L L' d a0 e m r) (hd : Bool) (s : St) (ha : a0 ≤ s.k) :
  BN P e d L.length (10 * (L.length - s.k) + 1 ≤ m + 1) s.k (s.k + 1) (aCc m r L hd s) (aCc m r L' hd (s.sh d)) := by
 unfold aCc
 refine fP g (fun h hl => ?_) (fun _ => Bd.fail (Nat.le_refl _))
 have ht : s.k ≤ e → dX P (aK L s.k) (aK L' (s.sh d).k) := g.vS _ ha
 generalize aK L s.k = t at *
 generalize aK L' (s.sh d).k = t' at *
 simp only
 have leaf : ∀ k : Int, BN P e d L.length (10 * (L.length - s.k) + 1 ≤ m + 1) s.k (s.k + 1) (.ok (nd k t ⟨#[]⟩ []) s.next) (.ok (nd k t' ⟨#[]⟩ []) (s.sh d).next) := fun k =>
  Bd.node (s := s.next) (Nat.le_refl _) hl (.nil _) (by simp) fun he => ⟨ht (Nat.le_trans (Nat.le_succ _) he), rfl, .nil P⟩
 have cx : ∀ {x}, s.k ≤ e → (t'.text = x ↔ t.text = x) := fun he => by rw [(ht he).text]
 refine Bd.ite cx (by omega) (fun _ => leaf _) fun _ => ?_
 refine Bd.ite cx (by omega) (fun _ => leaf _) fun _ => ?_
 refine Bd.ite cx (by omega) (fun _ => leaf _) fun _ => ?_
 refine Bd.ite cx (by omega) (fun _ => ?_) fun _ => ?_
 ·refine p9 g (s := s.next) fun x x' s1 h1 h2 _ hx => ?_
  simp only [aV] at h1
  exact Bd.node (by omega) h2 (.nil _) (by simp) fun he => ⟨ht (by omega), hx.text, .nil P⟩
 refine Bd.ite cx (by omega) (fun _ => ?_) fun _ => ?_
 ·refine eW g (s := s.next) fun x x' s1 h1 h2 _ hx => ?_
  simp only [aV] at h1
  refine bY g (c.cD hd s1 (by omega)) fun x x' s2 h3 h4 hs hx => ?_
  exact Bd.node (by omega) h4 (.cons hs (.nil _)) (by simp) fun he => ⟨ht (by omega), rfl, .one hx⟩
 refine Bd.ite cx (by omega) (fun _ => ?_) fun _ => ?_
 ·refine bY g (c.cD hd s.next (Nat.le_succ_of_le ha)) fun x x' s2 h3 h4 hs hx => ?_
  simp only [aV] at h3
  exact Bd.node (by omega) h4 (.cons hs (.nil _)) (by simp) fun he => ⟨ht (by omega), rfl, .one hx⟩
 ·refine eW g (s := s.next) fun x x' s1 h1 h2 _ hx => ?_
  simp only [aV] at h1
  refine Bd.then (tA (W := fun l s => LW L.length l s) (V := LR P) (Fu := 10 * (L.length - s.k) + 1 ≤ m + 1) (k0 := s1.k) g (by omega) (fun x => g.list x) (fun l l' s2 h3 h4 hs hv => ?_) m [] [] s1 (Nat.le_refl _) h2 ⟨Nat.zero_le _, fun i t h => by cases h⟩ (.nil P)) (fun h => ⟨h, by omega⟩) (by omega) (by omega) (fun x _ _ => g.list x) fun kids kids' s2 h3 h4 hs hv => ?_
  ·refine aCb g (aIs g (by omega) h4 (by cases l <;> cases l' <;> first | rfl | cases hv.1)) fun s3 h5 h6 => ?_
   refine bY g (c.cD hd s3 (by omega)) fun x x' s4 h7 h8 hx hxx => ?_
   exact Bd.ok (by omega) h8 ⟨by have := hs.1; simp only [List.length_append, List.length_singleton]; omega, SL.app hs.2 (.cons hx (.nil _))⟩ fun _ => hv.app (.one hxx)
  ·have hl2 := pQ hs.2
   refine Bd.at s2.next.k (Nat.le_succ _) ?_
   simp only [aV]
   refine fP g (s := s2.next) (fun h hl => ?_) (fun _ => ?_)
   ·refine bY g (c.cD hd s2.next (by simp only [aV]; omega)) fun x x' s4 h7 h8 hx hxx => ?_
    simp only [aV] at h7
    exact Bd.node (by omega) h8 (.app hs.1.2 (.cons hx (.nil _))) (by have := hs.1.1; simp only [List.length_append, List.length_singleton]; omega) fun he => ⟨ht (by omega), rfl, hv.app (.one hxx)⟩
   ·exact Bd.node (s := s2.next) (by simp only [aV]; omega) hl2 (.app hs.1.2 (.cons (.none _) (.nil _))) (by have := hs.1.1; simp only [List.length_append, List.length_singleton]; omega) fun he => ⟨ht (by simp only [aV] at he; omega), rfl, hv.app (.one g.none)⟩

theorem aC2 (g : Alike P L L' d a0 e) {m : Nat} {r : Rec} (c : hM P L L' d a0 e m r) (hd : Bool) (s : St) (ha : a0 ≤ s.k) :
  BL P e d L.length (10 * (L.length - s.k) + 1 ≤ m + 1) s.k (s.k + 1) (jB m r L hd s) (jB m r L' hd (s.sh d)) := by
 unfold jB
 refine eW g fun t t' s1 h1 h2 _ ht => ?_
 refine Bd.then (tA (W := fun l s => LW L.length l s) (V := LR P) (Fu := 10 * (L.length - s.k) + 1 ≤ m + 1) (k0 := s1.k) g (by omega) (fun x => g.list x) (fun l l' s2 h3 h4 hs hv => ?_) m [] [] s1 (Nat.le_refl _) h2 ⟨Nat.zero_le _, fun i t h => by cases h⟩ (.nil P)) (fun h => ⟨h, by omega⟩) (by omega) (by omega) (fun x _ _ => g.list x) fun kids kids' s2 h3 h4 hs hv => ?_
 ·refine aCb g (aIs g (by omega) h4 (by cases l <;> cases l' <;> first | rfl | cases hv.1)) fun s3 h5 h6 => ?_
  refine p9 g fun x x' s4 h7 h8 _ hx => ?_
  refine bY g (c.cD hd s4 (by omega)) fun y y' s5 h9 h10 hy hyy => ?_
  exact Bd.ok (by omega) h10 ⟨by have := hs.1; simp only [List.length_append, List.length_singleton]; omega, SL.app hs.2 (.cons (.of (.cons hy (.nil _)) (by simp) _ _ _ _ _ _) (.nil _))⟩ fun _ => hv.app (.one (by rw [hx.text]; exact hx.nd (.one hyy) _ _))
 ·have hl2 := pQ hs.2
  have hkl : kids.length ≤ L.length + 10 := by have := hs.1.1; omega
  refine Bd.at s2.next.k (Nat.le_succ _) ?_
  simp only [aV]
  refine bY (b' := s2.k + 1) (a' := s2.k + 1) (Fu' := 10 * (L.length - s.k) + 1 ≤ m + 1) g (fP g (s := s2.next) (fun h hl => Bd.ok (Nat.le_refl _) hl2 (.none _) fun _ => g.none) fun _ => ?_) fun x x' s4 h7 h8 hx hxx => ?_
  ·exact (c.cD hd s2.next (by simp only [aV]; omega)).eY (fun _ => by simp only [aV]; omega) (Nat.le_refl _) (by simp only [aV]; omega)
  ·refine bY g (c.block false s4 (by omega)) fun y y' s5 h9 h10 hy hyy => ?_
   exact Bd.ok (by omega) h10 ⟨by simp, SL.cons (.of hs.1.2 hkl _ _ _ _ _ _) (.cons hx (.cons hy (.nil _)))⟩ fun _ => .cons (ht.nd hv _ _) (.cons hxx (.one hyy))

theorem aJl (g : Alike P L L' d a0 e) {m : Nat} {r : Rec} (c : hM P L L' d a0 e m r) (hd : Bool) (s : St) (ha : a0 ≤ s.k) :
  BN P e d L.length (10 * (L.length - s.k) + 1 ≤ m + 1) s.k (s.k + 1) (pF r L hd s) (pF r L' hd (s.sh d)) := by
 unfold pF
 refine eW g fun t t' s1 h1 h2 _ ht => ?_
 refine oA g (c.stmts hd s1 (by omega) h2) fun l l' s2 h3 h4 hs hv => ?_
 refine eW g fun x x' s3 h5 h6 _ _ => ?_
 exact Bd.node (by omega) h6 hs.2 (by have := hs.1; omega) fun _ => ⟨ht, rfl, hv⟩

theorem aIz (g : Alike P L L' d a0 e) {m : Nat} {r : Rec} (c : hM P L L' d a0 e m r) (hd : Bool) {k0 : Nat} (ha : a0 ≤ k0) : ∀ (n : Nat) (out out' : List Nd) (s : St), k0 ≤ s.k → s.k ≤ L.length → LW L.length out s → LR P out out' →
  BL P e d L.length (10 * (L.length - k0) + 6 ≤ m ∧ L.length - s.k < n) s.k s.k (kM r L hd n out s) (kM r L' hd n out' (s.sh d)) := by
 intro n
 induction n with
 | zero => exact fun _ _ s _ _ _ _ => Bd.out (by omega)
 | succ n ih =>
  intro out out' s hk hl hw hv
  unfold kM
  refine fP g (fun h hl2 => ?_) (fun _ => ?_)
  ·exact (ih out out' s.next (by simp only [aV]; omega) hl2 ⟨by have := hw.1; simp only [aV]; omega, hw.2⟩ hv).eY (fun h => ⟨h.1, by simp only [aV]; omega⟩) (Nat.le_succ _) (Nat.le_succ _)
  refine fP g (fun h hl2 => Bd.ok (Nat.le_refl _) hl hw fun _ => hv) (fun _ => ?_)
  refine bY g (c.stmt hd s (by omega)) fun x x' s1 h1 h2 hx hxx => ?_
  refine aCb (b' := s1.k) (a' := s1.k) g (fP g (fun _ _ => Bd.ok (Nat.le_refl _) h2 trivial fun _ => trivial) fun _ => ?_) fun s2 h3 h4 => ?_
  ·refine eW g fun t t' s2 h1 h2 _ ht => ?_
   exact Bd.ok (by omega) h2 trivial fun _ => trivial
  ·exact (ih (out ++ [x]) (out' ++ [x']) s2 (by omega) h4 ⟨by have := hw.1; simp only [List.length_append, List.length_singleton]; omega, SL.app hw.2 (.cons hx (.nil _))⟩ (hv.app (.one hxx))).eY (fun h => ⟨h.1, by omega⟩) (by omega) (by omega)

theorem aK7 (g : Alike P L L' d a0 e) {m : Nat} {r : Rec} (c : hM P L L' d a0 e m r) (hd : Bool) (s : St) (ha : a0 ≤ s.k) (hl : s.k ≤ L.length) :
  BL P e d L.length (10 * (L.length - s.k) + 7 ≤ m + 1) s.k s.k (rM m r L hd s) (rM m r L' hd (s.sh d)) := by
 unfold rM
 exact (aIz g c hd ha m [] [] s (Nat.le_refl _) hl ⟨Nat.zero_le _, fun i t h => by cases h⟩ (.nil P)).eY (fun _ => by omega) (Nat.le_refl _) (Nat.le_refl _)

end
section
variable {P : Int → Int → Prop} {L L' : List Tok} {d a0 e : Nat}
section
variable {α : Type} {W : α → St → Prop} {V : α → α → Prop} {Fu Fu' : Prop} {a b a' b' : Nat}

theorem Bd.tok (g : Alike P L L' d a0 e) {k : Nat} {t : Tok} {r : R α} {F : Tok → R α} (hk : k ≤ a) (hab : a ≤ b) (h : ∀ t', dX P t t' → Bd e d L.length W V Fu a b r (F t')) : ∀ t', (k ≤ e → dX P t t') → Bd e d L.length W V Fu a b r (F t') := by
 intro t' ht
 by_cases hke : k ≤ e
 ·exact h t' (ht hke)
 ·obtain ⟨t2, ht2⟩ := dX.xS g.xS t
  have h2 := h t2 ht2
  cases r with
  | ok x s => exact ⟨h2.1, h2.2.1, h2.2.2.1, fun he => by have := h2.1; omega⟩
  | bad i => exact ⟨h2.1, fun he => by have := h2.1; omega⟩
  | out => exact h2

theorem aJr (g : Alike P L L' d a0 e) {s : St} {Fu : Prop} (ha : a0 ≤ s.k) (hl : s.k ≤ L.length) : Bd e d L.length (fun _ _ => True) (fun _ _ => True) Fu s.k s.k (pL L s) (pL L' (s.sh d)) := by
 unfold pL
 refine fP g (fun _ _ => Bd.ok (Nat.le_refl _) hl trivial fun _ => trivial) fun _ => ?_
 refine eW g fun t t' s2 h1 h2 _ ht => ?_
 exact Bd.ok (by omega) h2 trivial fun _ => trivial
end

theorem aEe (g : Alike P L L' d a0 e) {r : Rec} {hd : Bool} {k0 : Nat} {Fu : Prop} (ha : a0 ≤ k0) {one one' : St → R Nd} (h1 : ∀ s, k0 ≤ s.k → s.k ≤ L.length → BN P e d L.length Fu s.k (s.k + 1) (one s) (one' (s.sh d))) :
  ∀ (n : Nat) (out out' : List Nd) (s : St), k0 ≤ s.k → s.k ≤ L.length → LW L.length out s → LR P out out' → BL P e d L.length (Fu ∧ L.length - s.k < n) s.k (s.k + 1) (fZ r L hd one n out s) (fZ r L' hd one' n out' (s.sh d)) := by
 intro n
 induction n with
 | zero => exact fun _ _ s _ _ _ _ => Bd.out (by omega)
 | succ n ih =>
  intro out out' s hk hl hw hv
  unfold fZ
  refine fP g (fun h hl2 => Bd.ok (s := s.next) (Nat.le_refl _) hl2 ⟨by have := hw.1; simp only [aV]; omega, hw.2⟩ fun _ => hv) (fun _ => ?_)
  refine bY (b' := s.k + 1) (a' := s.k) (Fu' := Fu) g (h1 s hk hl) (fun x x' s1 h1 h2 hx hxx => ?_) (fun h => h.1)
  refine aCb g (aJr g (by omega) h2) fun s2 h3 h4 => ?_
  exact (ih (out ++ [x]) (out' ++ [x']) s2 (by omega) h4 ⟨by have := hw.1; simp only [List.length_append, List.length_singleton]; omega, SL.app hw.2 (.cons hx (.nil _))⟩ (hv.app (.one hxx))).eY (fun h => ⟨h.1, by omega⟩) (by omega) (by omega)

theorem aEa (g : Alike P L L' d a0 e) {m : Nat} {r : Rec} (c : hM P L L' d a0 e m r) (t : ByteArray) (hd : Bool) (s : St) (ha : a0 ≤ s.k) (hl : s.k ≤ L.length) :
  BL P e d L.length (10 * (L.length - s.k) + 4 ≤ m) s.k (s.k + 1) (eA m r t L hd s) (eA m r t L' hd (s.sh d)) := by
 unfold eA
 refine Bd.then (tA (W := fun l s => LW L.length l s) (V := LR P) (Fu := 10 * (L.length - s.k) + 4 ≤ m) (k0 := s.k) g ha (fun x => g.list x) (fun l l' s2 h3 h4 hs hv => ?_) m [] [] s (Nat.le_refl _) hl ⟨Nat.zero_le _, fun i t h => by cases h⟩ (.nil P)) (fun h => ⟨h, by omega⟩) (by omega) (by omega) (fun x _ _ => g.list x) fun kids kids' s2 h3 h4 hs hv => ?_
 ·refine aCb g (aIs g (by omega) h4 (by cases l <;> cases l' <;> first | rfl | cases hv.1)) fun s3 h5 h6 => ?_
  refine bY g (c.expr hd s3 (by omega)) fun x x' s4 h7 h8 hx hxx => ?_
  exact Bd.ok (by omega) h8 ⟨by have := hs.1; simp only [List.length_append, List.length_singleton]; omega, SL.app hs.2 (.cons hx (.nil _))⟩ fun _ => hv.app (.one hxx)
 ·have hl2 := pQ hs.2
  exact Bd.ok (s := s2.next) (by simp only [aV]; omega) hl2 ⟨by have := hs.1.1; simp only [aV]; omega, hs.1.2⟩ fun _ => hv

theorem aHu (g : Alike P L L' d a0 e) {m : Nat} {r : Rec} (c : hM P L L' d a0 e m r) (hd : Bool) (s : St) (ha : a0 ≤ s.k) (hl : s.k < L.length) {t' : Tok} (ht : dX P (aK L s.k) t') :
  BN P e d L.length (10 * (L.length - s.k) + 1 ≤ m + 1) s.k (s.k + 1) (kI m r (aK L s.k) L hd s) (kI m r t' L' hd (s.sh d)) := by
 unfold kI
 generalize aK L s.k = t at *
 obtain ⟨p', hp, rfl⟩ := ht
 have htt : dX P t ⟨t.kind, t.text, t.num, p'⟩ := ⟨p', hp, rfl⟩
 simp only
 refine Bd.ite (fun _ => Iff.rfl) (by omega) (fun _ => ?_) fun _ => ?_
 ·refine bY g (c.expr false s.next (Nat.le_succ_of_le ha)) fun x x' s1 h1 h2 hx hxx => ?_
  simp only [aV] at h1
  refine eW g fun t t' s2 h1 h2 _ ht => ?_
  exact Bd.ok (by omega) h2 hx fun _ => hxx
 refine Bd.ite (fun _ => Iff.rfl) (by omega) (fun _ => Bd.fail (Nat.le_refl _)) fun _ => ?_
 refine Bd.ite (fun _ => Iff.rfl) (by omega) (fun _ => ?_) fun _ => ?_
 ·refine p9 g (s := s.next) fun x x' s1 h1 h2 _ hx => ?_
  simp only [aV] at h1
  refine eW g fun _ _ s2 h3 h4 _ _ => ?_
  refine oA (Fu' := 10 * (L.length - s.k) + 1 ≤ m + 1 ∧ L.length - s2.k < m) (a' := s2.k) (b' := s2.k + 1) g (aEe g (k0 := s2.k) (by omega) (fun s3 h5 h6 => ?_) m [] [] s2 (Nat.le_refl _) h4 ⟨Nat.zero_le _, fun i t h => by cases h⟩ (.nil P)) (fun l l' s3 h5 h6 hs hv => ?_)
  ·refine p9 g fun y y' s4 h7 h8 _ hy => ?_
   refine eW g fun _ _ s5 h9 h10 _ _ => ?_
   refine bY g (c.expr hd s5 (by omega)) fun z z' s6 h11 h12 hz hzz => ?_
   exact Bd.node (by omega) h12 (.cons hz (.nil _)) (by simp) fun _ => ⟨hy, hy.text, .one hzz⟩
  ·exact Bd.node (by omega) h6 hs.2 (by have := hs.1; omega) fun _ => ⟨htt, hx.text, hv⟩
 refine Bd.ite (fun _ => Iff.rfl) (by omega) (fun _ => ?_) fun _ => Bd.fail (Nat.le_refl _)
 ·refine eW g (s := s.next) fun x x' s1 h1 h2 _ hx => ?_
  simp only [aV] at h1
  refine bY g (c.cD hd s1 (by omega)) fun ty ty' s2 h3 h4 hty htyy => ?_
  refine eW g fun _ _ s3 h5 h6 _ _ => ?_
  refine oA (Fu' := 10 * (L.length - s.k) + 1 ≤ m + 1 ∧ L.length - s3.k < m) (a' := s3.k) (b' := s3.k + 1) g (aEe g (k0 := s3.k) (by omega) (fun s4 h7 h8 => ?_) m [ty] [ty'] s3 (Nat.le_refl _) h6 ⟨by simp, SL.cons hty (.nil _)⟩ (.one htyy)) (fun l l' s4 h7 h8 hs hv => ?_)
  ·exact (c.expr hd s4 (by omega)).eY (fun _ => by omega) (Nat.le_refl _) (Nat.le_refl _)
  ·exact Bd.node (by omega) h8 hs.2 (by have := hs.1; omega) fun _ => ⟨htt, rfl, hv⟩

theorem aI4 (g : Alike P L L' d a0 e) {m : Nat} {r : Rec} (c : hM P L L' d a0 e m r) (hd : Bool) (s : St) (ha : a0 ≤ s.k) (hl : s.k < L.length) {t' : Tok} (ht : dX P (aK L s.k) t') :
  BN P e d L.length (10 * (L.length - s.k) + 1 ≤ m + 1) s.k (s.k + 1) (kN m r (aK L s.k) L hd s) (kN m r t' L' hd (s.sh d)) := by
 unfold kN
 generalize aK L s.k = t at *
 obtain ⟨p', hp, rfl⟩ := ht
 have htt : dX P t ⟨t.kind, t.text, t.num, p'⟩ := ⟨p', hp, rfl⟩
 simp only
 refine Bd.ite (fun _ => Iff.rfl) (by omega) (fun _ => Bd.node (s := s.next) (Nat.le_refl _) hl (.nil _) (by simp) fun _ => ⟨htt, rfl, .nil P⟩) fun _ => ?_
 refine Bd.ite (fun _ => Iff.rfl) (by omega) (fun _ => Bd.node (s := s.next) (Nat.le_refl _) hl (.nil _) (by simp) fun _ => ⟨htt, rfl, .nil P⟩) fun _ => ?_
 refine Bd.ite (fun _ => Iff.rfl) (by omega) (fun _ => ?_) fun _ => ?_
 ·refine oA g (c.function hd s.next (Nat.le_succ_of_le ha)) fun l l' s1 h1 h2 hs hv => ?_
  simp only [aV] at h1
  exact Bd.node (by omega) h2 hs.2 (by have := hs.1; omega) fun _ => ⟨htt, rfl, hv⟩
 refine Bd.ite (fun _ => Iff.rfl) (by omega) (fun _ => ?_) fun _ => ?_
 ·refine eW g (s := s.next) fun _ _ s1 h1 h2 _ _ => ?_
  simp only [aV] at h1
  refine bY g (c.cD hd s1 (by omega)) fun ty ty' s2 h3 h4 hty htyy => ?_
  refine oA (Fu' := 10 * (L.length - s.k) + 1 ≤ m + 1) (a' := s2.k) (b' := s2.k) g (fP g (fun _ hl2 => ?_) (fun _ => Bd.ok (Nat.le_refl _) h4 ⟨by simp, SL.cons hty (.nil _)⟩ fun _ => .one htyy)) (fun l l' s4 h7 h8 hs hv => ?_)
  ·refine bY g (c.expr false s2.next (by simp only [aV]; omega)) fun x x' s3 h5 h6 hx hxx => ?_
   simp only [aV] at h5
   exact Bd.ok (by omega) h6 ⟨by simp, SL.cons hty (.cons hx (.nil _))⟩ fun _ => .cons htyy (.one hxx)
  ·refine eW g fun _ _ s5 h9 h10 _ _ => ?_
   exact Bd.node (by omega) h10 hs.2 (by have := hs.1; omega) fun _ => ⟨htt, rfl, hv⟩
 refine Bd.ite (fun _ => Iff.rfl) (by omega) (fun _ => ?_) fun _ => ?_
 ·refine eW g (s := s.next) fun _ _ s1 h1 h2 _ _ => ?_
  simp only [aV] at h1
  refine p9 g fun x x' s2 h3 h4 _ hx => ?_
  refine eW g fun _ _ s3 h5 h6 _ _ => ?_
  exact Bd.node (by omega) h6 (.cons (.of (.nil _) (by simp) _ _ _ _ _ _) (.nil _)) (by simp) fun _ => ⟨htt, rfl, .one (by rw [hx.text]; exact hx.nd (.nil P) _ _)⟩
 refine Bd.ite (fun _ => Iff.rfl) (by omega) (fun _ => ?_) fun _ => Bd.fail (Nat.le_refl _)
 ·refine eW g (s := s.next) fun _ _ s1 h1 h2 _ _ => ?_
  simp only [aV] at h1
  refine oA g (aEa g c _ false s1 (by omega) h2) fun l l' s2 h3 h4 hs hv => ?_
  exact Bd.node (by omega) h4 hs.2 (by have := hs.1; omega) fun _ => ⟨htt, rfl, hv⟩

theorem aFo (g : Alike P L L' d a0 e) {m : Nat} {r : Rec} (c : hM P L L' d a0 e m r) (hd : Bool) (s : St) (a : Nat) (ha : a0 ≤ s.k) (h1 : s.k ≤ a) (h2 : a ≤ s.k + 1) (h3 : a = s.k ∨ (aK L s.k).kind = 1) :
  BN P e d L.length (10 * (L.length - s.k) + 1 ≤ m + 1) a (s.k + 1) (kU m r L hd s) (kU m r L' hd (s.sh d)) := by
 unfold kU
 have hlt : (aK L s.k).kind ≠ 6 → s.k < L.length := iK
 have ht : s.k ≤ e → dX P (aK L s.k) (aK L' (s.sh d).k) := g.vS _ ha
 generalize aK L' (s.sh d).k = t' at ht ⊢
 revert t'
 refine Bd.tok g h1 h2 fun t' ht => ?_
 obtain ⟨p', hp, rfl⟩ := ht
 have htt : dX P (aK L s.k) ⟨(aK L s.k).kind, (aK L s.k).text, (aK L s.k).num, p'⟩ := ⟨p', hp, rfl⟩
 simp only
 refine Bd.ite (fun _ => Iff.rfl) h2 (fun h => ?_) fun _ => ?_
 ·exact Bd.ok (s := s.next) (Nat.le_refl _) (hlt (by omega)) (.of (.nil _) (by simp) _ _ _ _ _ _) fun _ => .of hp (.nil P) _ _ _ _ _
 refine Bd.ite (fun _ => Iff.rfl) h2 (fun h => ?_) fun _ => ?_
 ·exact Bd.node (s := s.next) (Nat.le_refl _) (hlt (by omega)) (.nil _) (by simp) fun _ => ⟨htt, rfl, .nil P⟩
 refine Bd.ite (fun _ => Iff.rfl) h2 (fun h => ?_) fun hne => ?_
 ·exact Bd.node (s := s.next) (Nat.le_refl _) (hlt (by omega)) (.nil _) (by simp) fun _ => ⟨htt, rfl, .nil P⟩
 obtain rfl : a = s.k := by omega
 refine Bd.ite (fun _ => Iff.rfl) h2 (fun h => aHu g c hd s ha (hlt (by omega)) htt) fun _ => ?_
 exact Bd.ite (fun _ => Iff.rfl) h2 (fun h => aI4 g c hd s ha (hlt (by omega)) htt) fun _ => Bd.fail (Nat.le_refl _)

theorem aEw (g : Alike P L L' d a0 e) {m : Nat} {r : Rec} (c : hM P L L' d a0 e m r) (hd : Bool) {n n' low low' : Nd} {t t' : Tok} (ht : dX P t t') (hn : Small (L.length + 10) n) (hnn : oC P n n') (hl : Small (L.length + 10) low) (hll : oC P low low') (s : St) (ha : a0 ≤ s.k) :
  BN P e d L.length (10 * (L.length - s.k) + 4 ≤ m) s.k (s.k + 1)
   ((cM L s ⟨#[58]⟩).then fun _ s => (if cC L s [⟨#[93]⟩] then .ok c5 s else r.expr L hd s).then fun high s => (cM L s ⟨#[93]⟩).then fun _ s => .ok (nd 46 t ⟨#[]⟩ [n, low, high]) s)
   ((cM L' (s.sh d) ⟨#[58]⟩).then fun _ s => (if cC L' s [⟨#[93]⟩] then .ok c5 s else r.expr L' hd s).then fun high s => (cM L' s ⟨#[93]⟩).then fun _ s => .ok (nd 46 t' ⟨#[]⟩ [n', low', high]) s) := by
 refine eW g fun _ _ s1 h1 h2 _ _ => ?_
 refine bY (Fu' := 10 * (L.length - s.k) + 4 ≤ m) (a' := s1.k) (b' := s1.k) g (fP g (fun _ _ => Bd.ok (Nat.le_refl _) h2 (.none _) fun _ => g.none) fun _ => ?_) fun x x' s2 h3 h4 hx hxx => ?_
 ·exact (c.expr hd s1 (by omega)).eY (fun _ => by omega) (Nat.le_refl _) (by omega)
 refine eW g fun _ _ s3 h5 h6 _ _ => ?_
 exact Bd.node (by omega) h6 (.cons hn (.cons hl (.cons hx (.nil _)))) (by simp) fun _ => ⟨ht, rfl, .cons hnn (.cons hll (.one hxx))⟩

theorem aJ7 (g : Alike P L L' d a0 e) {m : Nat} {r : Rec} (c : hM P L L' d a0 e m r) (hd : Bool) {n n' : Nd} {t t' : Tok} (ht : dX P t t') (hn : Small (L.length + 10) n) (hnn : oC P n n') (s : St) (ha : a0 ≤ s.k) :
  BN P e d L.length (10 * (L.length - s.k) + 4 ≤ m) s.k (s.k + 1) (l4 r t n L hd s) (l4 r t' n' L' hd (s.sh d)) := by
 unfold l4
 refine fP g (fun _ _ => aEw g c hd ht hn hnn (.none _) g.none s ha) fun _ => ?_
 refine bY g (c.expr hd s ha) fun x x' s1 h1 h2 hx hxx => ?_
 refine fP g (fun _ hl => Bd.node (s := s1.next) (by simp only [aV]; omega) hl (.cons hn (.cons hx (.nil _))) (by simp) fun _ => ⟨ht, rfl, .cons hnn (.one hxx)⟩) fun _ => ?_
 exact (aEw g c hd ht hn hnn hx hxx s1 (by omega)).eY (fun _ => by omega) (Nat.le_refl _) (by omega)

end
section
variable {P : Int → Int → Prop} {L L' : List Tok} {d a0 e : Nat}

theorem Bd.eqv {α β : Type} {W : α → St → Prop} {V : α → α → Prop} {Fu : Prop} {a b len k : Nat} {v : β} {r : R α} {F : β → R α} (hk : k ≤ a) (hab : a ≤ b) (h : Bd e d len W V Fu a b r (F v)) : ∀ v', (k ≤ e → v' = v) → Bd e d len W V Fu a b r (F v') := by
 intro v' hv
 by_cases hke : k ≤ e
 ·rw [hv hke]; exact h
 ·cases r with
  | ok x s => exact ⟨h.1, h.2.1, h.2.2.1, fun he => by have := h.1; omega⟩
  | bad i => exact ⟨h.1, fun he => by have := h.1; omega⟩
  | out => exact h

theorem aDj (g : Alike P L L' d a0 e) {m : Nat} {r : Rec} (c : hM P L L' d a0 e m r) {k0 : Nat} (ha : a0 ≤ k0) : ∀ (n : Nat) (x x' : Nd) (bare : Bool) (s : St), k0 ≤ s.k → s.k ≤ L.length → Small (L.length + 10) x → oC P x x' →
  Bd e d L.length (fun y _ => Small (L.length + 10) y.1) (fun y y' => oC P y.1 y'.1 ∧ y'.2 = y.2) (10 * (L.length - k0) + 4 ≤ m ∧ L.length - s.k < n) s.k s.k (gW m r L n x bare s) (gW m r L' n x' bare (s.sh d)) := by
 intro n
 induction n with
 | zero => exact fun _ _ _ s _ _ _ _ => Bd.out (by omega)
 | succ n ih =>
  intro x x' bare s hk hl hx hxx
  unfold gW
  refine fP g (fun h hl2 => ?_) (fun _ => Bd.ok (Nat.le_refl _) hl hx fun _ => ⟨hxx, rfl⟩)
  have ht : s.k ≤ e → dX P (aK L s.k) (aK L' (s.sh d).k) := g.vS _ (by omega)
  generalize aK L s.k = t at *
  generalize aK L' (s.sh d).k = t' at ht ⊢
  revert t'
  refine Bd.tok g (Nat.le_refl _) (Nat.le_refl _) fun t' htt => ?_
  obtain ⟨p', hp, rfl⟩ := id htt
  simp only
  refine bY (Fu' := 10 * (L.length - k0) + 4 ≤ m) (a' := s.k) (b' := s.k + 1) g ?_ (fun y y' s1 h1 h2 hy hyy => ?_) (fun h => h.1)
  ·refine Bd.ite (fun _ => Iff.rfl) (by omega) (fun _ => ?_) fun _ => ?_
   ·refine oA g (aEa g c _ false s.next (by simp only [aV]; omega) hl2) fun l l' s2 h3 h4 hs hv => ?_
    simp only [aV] at h3
    exact Bd.node (by omega) h4 (.cons hx hs.2) (by have := hs.1; simp only [List.length_cons]; omega) fun _ => ⟨htt, rfl, .cons hxx hv⟩
   refine Bd.ite (fun _ => Iff.rfl) (by omega) (fun _ => ?_) fun _ => ?_
   ·exact (aJ7 g c false htt hx hxx s.next (by simp only [aV]; omega)).eY (fun _ => by simp only [aV]; omega) (Nat.le_succ _) (by simp only [aV]; omega)
   ·refine p9 g (s := s.next) fun y y' s1 h1 h2 _ hy => ?_
    simp only [aV] at h1
    exact Bd.node (by omega) h2 (.cons hx (.nil _)) (by simp) fun _ => ⟨htt, hy.text, .one hxx⟩
  ·exact (ih y y' false s1 (by omega) h2 hy hyy).eY (fun h => ⟨h.1, by omega⟩) (Nat.le_refl _) (by omega)

theorem aFs (g : Alike P L L' d a0 e) {m : Nat} {r : Rec} (c : hM P L L' d a0 e m r) (hd : Bool) (s : St) (a : Nat) (ha : a0 ≤ s.k) (h1 : s.k ≤ a) (h2 : a ≤ s.k + 1) (h3 : a = s.k ∨ (aK L s.k).kind = 1) :
  BN P e d L.length (10 * (L.length - s.k) + 1 ≤ m + 1) a (s.k + 1) (l8 m r L hd s) (l8 m r L' hd (s.sh d)) := by
 unfold l8
 have hb : s.k ≤ e → cC L' (s.sh d) [⟨#[40]⟩] = cC L s [⟨#[40]⟩] := g.is ha
 generalize cC L' (s.sh d) [⟨#[40]⟩] = b' at hb ⊢
 revert b'
 refine Bd.eqv h1 h2 ?_
 simp only
 refine bY g (aFo g c hd s a ha h1 h2 h3) fun x x' s1 h4 h5 hx hxx => ?_
 refine Bd.then (aDj g c (k0 := s1.k) (by omega) m x x' _ s1 (Nat.le_refl _) h5 hx hxx) (fun _ => by omega) (Nat.le_refl _) (Nat.le_refl _) (fun y _ _ => by obtain ⟨z, hz⟩ := g.nd y.1; exact ⟨(z, y.2), hz, rfl⟩) fun y y' s2 h6 h7 hy hyy => ?_
 rw [show y'.2 = y.2 from hyy.2]
 exact Bd.ok (s := s2.with y.2) (by simp only [eL]; omega) h7 hy fun _ => hyy.1

theorem aLd (g : Alike P L L' d a0 e) {m : Nat} {r : Rec} (c : hM P L L' d a0 e m r) (hd : Bool) (s : St) (ha : a0 ≤ s.k) :
  BN P e d L.length (10 * (L.length - s.k) + 2 ≤ m + 1) s.k (s.k + 1) (qA r L hd s) (qA r L' hd (s.sh d)) := by
 unfold qA
 refine fP g (fun h hl => ?_) fun _ => (c.cH hd s s.k ha (Nat.le_refl _) (Nat.le_succ _) (.inl rfl)).eY (fun _ => by omega) (Nat.le_refl _) (Nat.le_refl _)
 have ht : s.k ≤ e → dX P (aK L s.k) (aK L' (s.sh d).k) := g.vS _ ha
 generalize aK L s.k = t at *
 generalize aK L' (s.sh d).k = t' at ht ⊢
 refine bY g (c.unary hd s.next (Nat.le_succ_of_le ha)) fun x x' s1 h1 h2 hx hxx => ?_
 simp only [aV] at h1
 exact Bd.node (s := s1.with false) (by simp only [eL]; omega) h2 (.cons hx (.nil _)) (by simp) fun he => ⟨ht (by simp only [eL] at he; omega), (ht (by simp only [eL] at he; omega)).text, .one hxx⟩

theorem aHq {k : Nat} (h : level (aK L k) ≠ 0) : k < L.length := by
 refine iK fun h6 => h ?_
 unfold level
 rw [if_pos (by omega)]

theorem aE4 (g : Alike P L L' d a0 e) {m : Nat} {r : Rec} (c : hM P L L' d a0 e m r) (least : Int) (hd : Bool) {k0 : Nat} (ha : a0 ≤ k0) : ∀ (n : Nat) (x x' : Nd) (s : St), k0 ≤ s.k → s.k ≤ L.length → Small (L.length + 10) x → oC P x x' →
  BN P e d L.length (10 * (L.length - k0) + 3 ≤ m ∧ L.length - s.k < n) s.k s.k (iE r least L hd n x s) (iE r least L' hd n x' (s.sh d)) := by
 intro n
 induction n with
 | zero => exact fun _ _ s _ _ _ _ => Bd.out (by omega)
 | succ n ih =>
  intro x x' s hk hl hx hxx
  unfold iE
  have ht : s.k ≤ e → dX P (aK L s.k) (aK L' (s.sh d).k) := g.vS _ (by omega)
  have hlev := aHq (L := L) (k := s.k)
  generalize aK L s.k = t at *
  generalize aK L' (s.sh d).k = t' at ht ⊢
  revert t'
  refine Bd.tok g (Nat.le_refl _) (Nat.le_refl _) fun t' htt => ?_
  obtain ⟨p', hp, rfl⟩ := id htt
  have el : level ⟨t.kind, t.text, t.num, p'⟩ = level t := rfl
  simp only [el]
  refine Bd.ite (fun _ => Iff.rfl) (Nat.le_refl _) (fun _ => Bd.ok (Nat.le_refl _) hl hx fun _ => hxx) fun h => ?_
  have hl2 := hlev (fun h2 => h (.inr h2))
  refine bY g (c.binary _ hd s.next (by simp only [aV]; omega)) (fun y y' s1 h1 h2 hy hyy => ?_) (fun h => by simp only [aV]; omega)
  simp only [aV] at h1
  exact (ih (nd 42 t t.text [x, y]) (nd 42 ⟨t.kind, t.text, t.num, p'⟩ t.text [x', y']) (s1.with false) (by simp only [eL]; omega) h2 (.of (.cons hx (.cons hy (.nil _))) (by simp) _ _ _ _ _ _) (htt.nd (.cons hxx (.one hyy)) _ _)).eY (fun h => ⟨h.1, by simp only [eL]; omega⟩) (Nat.le_refl _) (by simp only [eL]; omega)

theorem aGk (g : Alike P L L' d a0 e) {m : Nat} {r : Rec} (c : hM P L L' d a0 e m r) (least : Int) (hd : Bool) (s : St) (ha : a0 ≤ s.k) :
  BN P e d L.length (10 * (L.length - s.k) + 3 ≤ m + 1) s.k (s.k + 1) (oF m r least L hd s) (oF m r least L' hd (s.sh d)) := by
 unfold oF
 refine bY g (c.unary hd s ha) fun x x' s1 h1 h2 hx hxx => ?_
 exact (aE4 g c least hd (k0 := s1.k) (by omega) m x x' s1 (Nat.le_refl _) h2 hx hxx).eY (fun _ => by omega) (Nat.le_refl _) (by omega)

end
section
variable {P : Int → Int → Prop} {L L' : List Tok} {d a0 e : Nat}

theorem oC.kind {t t' : Nd} (h : oC P t t') : t'.kind = t.kind := by cases h; rfl
theorem oC.text {t t' : Nd} (h : oC P t t') : t'.text = t.text := by cases h; rfl
theorem oC.pos {t t' : Nd} (h : oC P t t') : P t.pos t'.pos := by cases h; assumption
theorem oC.called {t t' : Nd} (h : oC P t t') : fX t' = fX t := by unfold fX qB; rw [h.kind, h.text]
theorem oC.target {t t' : Nd} (h : oC P t t') : fA t' = fA t := by unfold fA; rw [h.kind]

theorem aIj (g : Alike P L L' d a0 e) {m : Nat} {r : Rec} (c : hM P L L' d a0 e m r) {n n' : Nd} (hn : Small (L.length + 10) n) (hnn : oC P n n') (bare hd : Bool) (s : St) (ha : a0 ≤ s.k) (hl : s.k ≤ L.length) :
  BN P e d L.length (10 * (L.length - s.k) + 1 ≤ m + 1) s.k s.k (nZ r n bare L hd s) (nZ r n' bare L' hd (s.sh d)) := by
 unfold nZ
 have hlt : ∀ {ts}, cC L s ts = true → s.k < L.length := pQ
 have ht : s.k ≤ e → dX P (aK L s.k) (aK L' (s.sh d).k) := g.vS _ ha
 generalize aK L s.k = t at *
 generalize aK L' (s.sh d).k = t' at ht ⊢
 revert t'
 refine Bd.tok g (Nat.le_refl _) (Nat.le_refl _) fun t' htt => ?_
 simp only [hnn.kind, hnn.text, hnn.called, hnn.target, htt.text]
 refine Bd.ite (fun he => by rw [g.is ha he]) (Nat.le_refl _) (fun h => ?_) fun _ => ?_
 ·simp only [Bool.and_eq_true] at h
  have hl2 := hlt h.1.1
  refine bY g (c.expr hd s.next (Nat.le_succ_of_le ha)) fun x x' s1 h1 h2 hx hxx => ?_
  simp only [aV] at h1
  exact Bd.ok (by omega) h2 (.of (.cons hx (.nil _)) (by simp) _ _ _ _ _ _) fun _ => .of hnn.pos (.one hxx) _ _ _ _ _
 refine Bd.ite (fun he => by rw [g.is ha he]) (Nat.le_refl _) (fun h => ?_) fun _ => ?_
 ·simp only [Bool.and_eq_true] at h
  have hl2 := hlt h.1.1
  refine bY g (c.expr hd s.next (Nat.le_succ_of_le ha)) fun x x' s1 h1 h2 hx hxx => ?_
  simp only [aV] at h1
  exact Bd.node (by omega) h2 (.cons hn (.cons hx (.nil _))) (by simp) fun _ => ⟨htt, rfl, .cons hnn (.one hxx)⟩
 refine Bd.ite (fun he => by rw [g.is ha he]) (Nat.le_refl _) (fun h => ?_) fun _ => ?_
 ·simp only [Bool.and_eq_true] at h
  have hl2 := hlt h.1.1
  exact Bd.node (s := s.next) (by simp only [aV]; omega) hl2 (.cons hn (.nil _)) (by simp) fun _ => ⟨htt, rfl, .one hnn⟩
 refine fP g (fun h hl2 => ?_) fun _ => ?_
 ·refine bY g (c.expr hd s.next (Nat.le_succ_of_le ha)) fun x x' s1 h1 h2 hx hxx => ?_
  simp only [aV] at h1
  exact Bd.node (by omega) h2 (.cons hn (.cons hx (.nil _))) (by simp) fun _ => ⟨htt, rfl, .cons hnn (.one hxx)⟩
 refine Bd.ite (fun he => Iff.rfl) (Nat.le_refl _) (fun h => ?_) fun _ => Bd.fail (Nat.le_refl _)
 exact Bd.ok (Nat.le_refl _) hl (.of (.cons hn (.nil _)) (by simp) _ _ _ _ _ _) fun _ => .of hnn.pos (.one hnn) _ _ _ _ _

theorem aIu (g : Alike P L L' d a0 e) {m : Nat} {r : Rec} (c : hM P L L' d a0 e m r) (hd : Bool) (s : St) (a : Nat) (ha : a0 ≤ s.k) (h1 : s.k ≤ a) (h2 : a ≤ s.k + 1) (h3 : a = s.k ∨ (aK L s.k).kind = 1) :
  BN P e d L.length (10 * (L.length - s.k) + 2 ≤ m + 1) a (s.k + 1) (mS r L hd s) (mS r L' hd (s.sh d)) := by
 unfold mS
 refine fP g (fun h hl => ?_) fun _ => ?_
 ·have ht : s.k ≤ e → dX P (aK L s.k) (aK L' (s.sh d).k) := g.vS _ ha
  generalize aK L s.k = t at *
  generalize aK L' (s.sh d).k = t' at ht ⊢
  refine bY g (c.unary hd s.next (Nat.le_succ_of_le ha)) fun x x' s1 h4 h5 hx hxx => ?_
  simp only [aV] at h4
  exact Bd.node (by omega) h5 (.cons (.of (.cons hx (.nil _)) (by simp) _ _ _ _ _ _) (.nil _)) (by simp) fun he => ⟨ht (by omega), rfl, .one ((ht (by omega)).nd (.one hxx) _ _)⟩
 ·refine bY g (c.cH hd s a ha h1 h2 h3) fun x x' s1 h4 h5 hx hxx => ?_
  exact (aIj g c hx hxx s1.bare hd s1 (by omega) h5).eY (fun _ => by omega) (Nat.le_refl _) (by omega)

theorem aMl (g : Alike P L L' d a0 e) {m : Nat} {r : Rec} (c : hM P L L' d a0 e m r) (hd : Bool) (s : St) (ha : a0 ≤ s.k) :
  BN P e d L.length (10 * (L.length - s.k) + 1 ≤ m) s.k (s.k + 1) (pJ r L hd s) (pJ r L' hd (s.sh d)) := by
 unfold pJ
 refine bY g (c.cH hd s s.k ha (Nat.le_refl _) (Nat.le_succ _) (.inl rfl)) fun x x' s1 h4 h5 hx hxx => ?_
 rw [hxx.called]
 exact Bd.ite (fun _ => Iff.rfl) (by omega) (fun _ => Bd.fail (Nat.le_refl _)) fun _ => Bd.ok (by omega) h5 hx fun _ => hxx

theorem aKz (g : Alike P L L' d a0 e) {m : Nat} {r : Rec} (c : hM P L L' d a0 e m r) (hd : Bool) (s : St) (ha : a0 ≤ s.k) :
  BN P e d L.length (10 * (L.length - s.k) + 2 ≤ m) s.k (s.k + 1) (l7 r L hd s) (l7 r L' hd (s.sh d)) := by
 unfold l7
 have hs := fun a h1 h2 h3 => c.simple hd s a ha h1 h2 h3
 have ht : s.k ≤ e → dX P (aK L s.k) (aK L' (s.sh d).k) := g.vS _ ha
 have ht1 : s.k + 1 ≤ e → dX P (aK L (s.k + 1)) (aK L' ((s.sh d).k + 1)) := g.vS _ (by omega)
 have hl1 : (aK L (s.k + 1)).kind ≠ 6 → s.k + 1 < L.length := iK
 generalize aK L s.k = t at *
 generalize aK L' (s.sh d).k = t' at ht ⊢
 generalize aK L (s.k + 1) = u at *
 generalize aK L' ((s.sh d).k + 1) = u' at ht1 ⊢
 by_cases hk : t.kind = 1
 ·refine Bd.at (s.k + 1) (Nat.le_succ _) ?_
  revert t'
  refine Bd.tok g (Nat.le_succ _) (by omega) fun t' htt => ?_
  revert u'
  refine Bd.tok g (Nat.le_refl _) (by omega) fun u' huu => ?_
  have eu : jR u' ⟨#[58]⟩ = jR u ⟨#[58]⟩ := by unfold jR; rw [huu.kind, huu.text]
  simp only [htt.kind, htt.text, eu]
  refine Bd.ite (fun _ => Iff.rfl) (by omega) (fun h => ?_) fun _ => ?_
  ·have hm : u.kind = 5 := by
    simp only [Bool.and_eq_true, jR, decide_eq_true_eq] at h
    exact h.2.1
   have hl2 := hl1 (by omega)
   refine Bd.at (s.k + 2) (Nat.le_succ _) ?_
   refine fP g (s := s.goto (s.k + 2)) (fun h hl3 => ?_) fun _ => Bd.fail (s := s.goto (s.k + 2)) (Nat.le_refl _)
   simp only [eB] at hl3
   refine bY g (c.nested hd (s.goto (s.k + 2)) (by simp only [eB]; omega)) (fun x x' s1 h4 h5 hx hxx => ?_) (fun hu => ⟨by simp only [eB]; omega, l5 h⟩)
   simp only [eB] at h4
   exact Bd.node (by omega) h5 (.cons hx (.nil _)) (by simp) fun he => ⟨htt, rfl, .one hxx⟩
  ·exact (hs (s.k + 1) (Nat.le_succ _) (Nat.le_refl _) (.inr hk)).eY id (Nat.le_refl _) (by omega)
 ·revert t'
  refine Bd.tok g (Nat.le_refl _) (by omega) fun t' htt => ?_
  have e1 : decide (t.kind = 1) = false := decide_eq_false hk
  simp only [htt.kind, e1, Bool.false_and, Bool.false_eq_true, if_false]
  exact hs s.k (Nat.le_refl _) (Nat.le_succ _) (.inl rfl)

end
section
variable {P : Int → Int → Prop} {L L' : List Tok} {d a0 e : Nat}

theorem aGp (g : Alike P L L' d a0 e) {m : Nat} {r : Rec} (c : hM P L L' d a0 e m r) (hd : Bool) (s : St) (ha : a0 ≤ s.k) :
  BN P e d L.length (10 * (L.length - s.k) + 1 ≤ m + 1 ∧ (aK L s.k).kind ≠ 6) s.k (s.k + 1) (mG r L hd s) (mG r L' hd (s.sh d)) := by
 unfold mG
 have hlt : (aK L s.k).kind ≠ 6 → s.k < L.length := iK
 have ht : s.k ≤ e → dX P (aK L s.k) (aK L' (s.sh d).k) := g.vS _ ha
 generalize aK L s.k = t at *
 generalize aK L' (s.sh d).k = t' at ht ⊢
 revert t'
 refine Bd.tok g (Nat.le_refl _) (by omega) fun t' htt => ?_
 simp only [htt.kind]
 refine Bd.ite (fun _ => Iff.rfl) (by omega) (fun h => Bd.out (fun hu => hu.2 h)) fun h6 => ?_
 have hl := hlt h6
 refine bY g (c.expr true s.next (Nat.le_succ_of_le ha)) fun x x' s1 h1 h2 hx hxx => ?_
 simp only [aV] at h1
 refine bY g (c.block hd s1 (by omega)) fun y y' s2 h3 h4 hy hyy => ?_
 refine bY (Fu' := 10 * (L.length - s.k) + 1 ≤ m + 1) (a' := s2.k) (b' := s2.k) g (fP g (fun _ hl2 => ?_) fun _ => Bd.ok (Nat.le_refl _) h4 (.none _) fun _ => g.none) (fun z z' s3 h5 h6 hz hzz => ?_) (fun h => h.1)
 ·refine Bd.at (s2.k + 1) (Nat.le_succ _) ?_
  refine fP g (s := s2.next) (fun h hl3 => ?_) fun _ => ?_
  ·exact (c.branch hd s2.next (by simp only [aV]; omega)).eY (fun _ => ⟨by simp only [aV]; omega, l5 h⟩) (by simp only [aV]; omega) (by simp only [aV]; omega)
  ·exact (c.block hd s2.next (by simp only [aV]; omega)).eY (fun _ => by simp only [aV]; omega) (by simp only [aV]; omega) (by simp only [aV]; omega)
 ·exact Bd.node (by omega) h6 (.cons hx (.cons hy (.cons hz (.nil _)))) (by simp) fun he => ⟨htt, rfl, .cons hxx (.cons hyy (.one hzz))⟩

theorem aNu (g : Alike P L L' d a0 e) {m : Nat} {r : Rec} (c : hM P L L' d a0 e m r) (hd : Bool) (s : St) (ha : a0 ≤ s.k) :
  BN P e d L.length (10 * (L.length - s.k) + 6 ≤ m + 1) s.k (s.k + 1) (uX r L hd s) (uX r L' hd (s.sh d)) := by
 unfold uX
 have hlt : (aK L s.k).kind ≠ 6 → s.k < L.length := iK
 have hb := c.branch hd s ha
 have hn := c.nested hd s ha
 have hpl := (aKz g c hd s ha).eY (Fu := 10 * (L.length - s.k) + 6 ≤ m + 1) (fun _ => by omega) (Nat.le_refl _) (Nat.le_refl _)
 have ht : s.k ≤ e → dX P (aK L s.k) (aK L' (s.sh d).k) := g.vS _ ha
 generalize aK L s.k = t at *
 generalize aK L' (s.sh d).k = t' at ht ⊢
 revert t'
 refine Bd.tok g (Nat.le_refl _) (by omega) fun t' htt => ?_
 simp only [htt.kind, htt.text]
 refine Bd.ite (fun _ => Iff.rfl) (by omega) (fun h => ?_) fun h4 => ?_
 ·exact fP g (fun _ hl => (c.block hd s ha).eY (fun _ => by omega) (Nat.le_refl _) (Nat.le_refl _)) fun _ => hpl
 have hl := hlt (by omega)
 refine Bd.ite (fun _ => Iff.rfl) (by omega) (fun h => ?_) fun _ => ?_
 ·refine p9 g (s := s.next) fun x x' s1 h1 h2 _ hx => ?_
  simp only [aV] at h1
  refine bY g (c.cD hd s1 (by omega)) fun y y' s2 h3 h4 hy hyy => ?_
  refine bY (Fu' := 10 * (L.length - s.k) + 6 ≤ m + 1) (a' := s2.k) (b' := s2.k) g (fP g (fun _ hl2 => ?_) fun _ => Bd.ok (Nat.le_refl _) h4 (.none _) fun _ => g.none) (fun z z' s3 h5 h6 hz hzz => ?_)
  ·exact (c.expr hd s2.next (by simp only [aV]; omega)).eY (fun _ => by simp only [aV]; omega) (by simp only [aV]; omega) (by simp only [aV]; omega)
  ·exact Bd.node (by omega) h6 (.cons hy (.cons hz (.nil _))) (by simp) fun he => ⟨htt, hx.text, .cons hyy (.one hzz)⟩
 refine Bd.ite (fun _ => Iff.rfl) (by omega) (fun h => hb.eY (fun _ => ⟨by omega, by omega⟩) (Nat.le_refl _) (Nat.le_refl _)) fun _ => ?_
 refine Bd.ite (fun _ => Iff.rfl) (by omega) (fun h => hn.eY (fun _ => ⟨by omega, by omega⟩) (Nat.le_refl _) (Nat.le_refl _)) fun _ => ?_
 refine Bd.ite (fun _ => Iff.rfl) (by omega) (fun h => ?_) fun _ => ?_
 ·refine Bd.at (s.k + 1) (Nat.le_succ _) ?_
  have hu : s.k + 1 ≤ e → dX P (aK L s.next.k) (aK L' (s.sh d).next.k) := g.vS _ (by omega)
  have hlu : (aK L s.next.k).kind ≠ 6 → s.next.k < L.length := iK
  generalize aK L s.next.k = u at *
  generalize aK L' (s.sh d).next.k = u' at hu ⊢
  revert u'
  refine Bd.tok g (Nat.le_refl _) (by omega) fun u' huu => ?_
  simp only [huu.kind, huu.text]
  refine Bd.ite (fun _ => Iff.rfl) (by omega) (fun h => ?_) fun _ => ?_
  ·have := hlu (by omega)
   exact Bd.node (s := s.next.next) (by simp only [aV]; omega) this (.nil _) (by simp) fun he => ⟨htt, rfl, .nil P⟩
  ·exact Bd.node (s := s.next) (by simp only [aV]; omega) hl (.nil _) (by simp) fun he => ⟨htt, rfl, .nil P⟩
 refine Bd.ite (fun _ => Iff.rfl) (by omega) (fun h => Bd.node (s := s.next) (by simp only [aV]; omega) hl (.nil _) (by simp) fun he => ⟨htt, rfl, .nil P⟩) fun _ => ?_
 refine Bd.ite (fun _ => Iff.rfl) (by omega) (fun h => ?_) fun _ => ?_
 ·refine Bd.at (s.k + 1) (Nat.le_succ _) ?_
  refine fP g (s := s.next) (fun h hl3 => Bd.node (s := s.next) (by simp only [aV]; omega) hl (.cons (.none _) (.nil _)) (by simp) fun he => ⟨htt, rfl, .one g.none⟩) fun _ => ?_
  refine bY g (c.expr hd s.next (by simp only [aV]; omega)) fun x x' s1 h1 h2 hx hxx => ?_
  simp only [aV] at h1
  exact Bd.node (by omega) h2 (.cons hx (.nil _)) (by simp) fun he => ⟨htt, rfl, .one hxx⟩
 refine Bd.ite (fun _ => Iff.rfl) (by omega) (fun h => ?_) fun _ => hpl
 refine bY g (aMl g c hd s.next (by simp only [aV]; omega)) fun x x' s1 h1 h2 hx hxx => ?_
 simp only [aV] at h1
 exact Bd.node (by omega) h2 (.cons hx (.nil _)) (by simp) fun he => ⟨htt, rfl, .one hxx⟩

theorem pD (g : Alike P L L' d a0 e) {m : Nat} {r : Rec} (c : hM P L L' d a0 e m r) (hd : Bool) (s : St) (ha : a0 ≤ s.k) :
  BN P e d L.length (10 * (L.length - s.k) + 1 ≤ m + 4) s.k (s.k + 1) (fJ r L hd s) (fJ r L' hd (s.sh d)) := by
 unfold fJ
 refine eW g fun t t' s1 h1 h2 _ ht => ?_
 refine oA g (c.stmts hd s1 (by omega) h2) fun l l' s2 h3 h4 hs hv => ?_
 exact Bd.node (by omega) h4 hs.2 (by have := hs.1; omega) fun _ => ⟨ht, rfl, hv⟩

theorem aGy (g : Alike P L L' d a0 e) {m : Nat} {r : Rec} (c : hM P L L' d a0 e m r) (hd : Bool) {k0 : Nat} (ha : a0 ≤ k0) : ∀ (n : Nat) (l l' : List Nd) (s : St), k0 ≤ s.k → s.k ≤ L.length → LW L.length l s → LR P l l' →
  BL P e d L.length (10 * (L.length - k0) + 1 ≤ m + 4 ∧ L.length - s.k < n) s.k s.k (jO r L hd n l s) (jO r L' hd n l' (s.sh d)) := by
 intro n
 induction n with
 | zero => exact fun _ _ s _ _ _ _ => Bd.out (by omega)
 | succ n ih =>
  intro l l' s hk hl hw hv
  unfold jO
  refine fP g (fun h hl2 => ?_) fun _ => Bd.ok (Nat.le_refl _) hl hw fun _ => hv
  refine bY g (c.expr hd s.next (by simp only [aV]; omega)) fun x x' s1 h1 h2 hx hxx => ?_
  simp only [aV] at h1
  exact (ih (l ++ [x]) (l' ++ [x']) s1 (by omega) h2 ⟨by have := hw.1; simp only [List.length_append, List.length_singleton]; omega, SL.app hw.2 (.cons hx (.nil _))⟩ (hv.app (.one hxx))).eY (fun h => ⟨h.1, by omega⟩) (by omega) (by omega)

end
theorem aHn {α β : Type} {c : Prop} [Decidable c] (A B : R α) (f : α → St → R β) : (if c then A else B).then f = if c then A.then f else B.then f := by split <;> rfl

section
variable {P : Int → Int → Prop} {L L' : List Tok} {d a0 e : Nat}

theorem Bd.aHd {α β : Type} {W : α → St → Prop} {V : α → α → Prop} {Fu : Prop} {a b len : Nat} {f f' : β → St → R α} {s : St} (ha : a ≤ s.k) : Bd e d len W V Fu a b ((fY L s).then f) ((fY L' (s.sh d)).then f') := ⟨ha, fun _ => rfl⟩

theorem aGw (g : Alike P L L' d a0 e) {m : Nat} {r : Rec} (c : hM P L L' d a0 e m r) (hd : Bool) (s : St) (ha : a0 ≤ s.k) :
  BN P e d L.length (10 * (L.length - s.k) + 1 ≤ m) s.k (s.k + 1) (mH m r L hd s) (mH m r L' hd (s.sh d)) := by
 unfold mH
 have ht : s.k ≤ e → dX P (aK L s.k) (aK L' (s.sh d).k) := g.vS _ ha
 generalize aK L s.k = t at *
 generalize aK L' (s.sh d).k = t' at ht ⊢
 revert t'
 refine Bd.tok g (Nat.le_refl _) (by omega) fun t' htt => ?_
 refine fP g (fun _ hl => ?_) fun _ => ?_
 ·refine bY g (pD g c hd s.next (Nat.le_succ_of_le ha)) fun x x' s1 h1 h2 hx hxx => ?_
  simp only [aV] at h1
  exact Bd.node (by omega) h2 (.cons hx (.nil _)) (by simp) fun he => ⟨htt, rfl, .one hxx⟩
 ·refine eW g fun _ _ s1 h1 h2 _ _ => ?_
  refine bY g (c.expr hd s1 (by omega)) fun x x' s2 h3 h4 hx hxx => ?_
  refine oA g (aGy g c hd (k0 := s2.k) (by omega) m [x] [x'] s2 (Nat.le_refl _) h4 ⟨by simp, SL.cons hx (.nil _)⟩ (.one hxx)) fun l l' s3 h5 h6 hs hv => ?_
  refine bY g (pD g c hd s3 (by omega)) fun y y' s4 h7 h8 hy hyy => ?_
  exact Bd.node (by omega) h8 (.app hs.2 (.cons hy (.nil _))) (by have := hs.1; simp only [List.length_append, List.length_singleton]; omega) fun he => ⟨htt, rfl, hv.app (.one hyy)⟩

def wC (r : Rec) (t : Tok) (L : List Tok) (hd : Bool) (kids : List Nd) (s : St) : R Nd :=
 if cC L s [⟨#[60, 45]⟩] then (r.unary L hd s.next).then fun u s => (fJ r L hd s).then fun b s => .ok (nd 26 t ⟨#[114, 101, 99, 118]⟩ (kids ++ [u] ++ [b])) s
 else (r.cH L hd s).then fun c s => (cM L s ⟨#[60, 45]⟩).then fun _ s => (r.expr L hd s).then fun e s => (fJ r L hd s).then fun b s => .ok (nd 26 t ⟨#[115, 101, 110, 100]⟩ [c, e, b]) s

theorem aCs (g : Alike P L L' d a0 e) {m : Nat} {r : Rec} (c : hM P L L' d a0 e m r) (hd : Bool) {t t' : Tok} (ht : dX P t t') {l l' : List Nd} (hs : LW L.length l ⟨0, false⟩) (hv : LR P l l') (s : St) (a : Nat) (ha : a0 ≤ s.k) (h1 : s.k ≤ a) (h2 : a ≤ s.k + 1) (h3 : a = s.k ∨ (aK L s.k).kind = 1) :
  BN P e d L.length (10 * (L.length - s.k) + 1 ≤ m) a (s.k + 1) (wC r t L hd l s) (wC r t' L' hd l' (s.sh d)) := by
 unfold wC
 refine fP g (fun _ hl => ?_) fun _ => ?_
 ·refine bY g (c.unary hd s.next (Nat.le_succ_of_le ha)) fun x x' s1 h1 h2 hx hxx => ?_
  simp only [aV] at h1
  refine bY g (pD g c hd s1 (by omega)) fun y y' s4 h7 h8 hy hyy => ?_
  exact Bd.node (by omega) h8 (.app (.app hs.2 (.cons hx (.nil _))) (.cons hy (.nil _))) (by have : l.length ≤ 0 + 5 := hs.1; simp only [List.length_append, List.length_singleton]; omega) fun he => ⟨ht, rfl, (hv.app (.one hxx)).app (.one hyy)⟩
 ·refine bY g (c.cH hd s a ha h1 h2 h3) fun x x' s1 h1 h2 hx hxx => ?_
  refine eW g fun _ _ s2 h3 h4 _ _ => ?_
  refine bY g (c.expr hd s2 (by omega)) fun z z' s3 h5 h6 hz hzz => ?_
  refine bY g (pD g c hd s3 (by omega)) fun y y' s4 h7 h8 hy hyy => ?_
  exact Bd.node (by omega) h8 (.cons hx (.cons hz (.cons hy (.nil _)))) (by simp) fun he => ⟨ht, rfl, .cons hxx (.cons hzz (.one hyy))⟩

theorem aMo (g : Alike P L L' d a0 e) {m : Nat} {r : Rec} (c : hM P L L' d a0 e m r) (hd : Bool) (s : St) (ha : a0 ≤ s.k) :
  BN P e d L.length (10 * (L.length - s.k) + 1 ≤ m) s.k (s.k + 1) (uE r L hd s) (uE r L' hd (s.sh d)) := by
 unfold uE
 have ht : s.k ≤ e → dX P (aK L s.k) (aK L' (s.sh d).k) := g.vS _ ha
 generalize aK L s.k = t at *
 generalize aK L' (s.sh d).k = t' at ht ⊢
 revert t'
 refine Bd.tok g (Nat.le_refl _) (by omega) fun t' htt => ?_
 refine fP g (fun _ hl => ?_) fun _ => ?_
 ·refine bY g (pD g c hd s.next (Nat.le_succ_of_le ha)) fun x x' s1 h1 h2 hx hxx => ?_
  simp only [aV] at h1
  exact Bd.node (by omega) h2 (.cons hx (.nil _)) (by simp) fun he => ⟨htt, rfl, .one hxx⟩
 refine eW g fun _ _ s1 h1 h2 _ _ => ?_
 simp only [aHn, R.then_ok]
 have hrest := fun l l' (hs : LW L.length l ⟨0, false⟩) hv s a ha h1 h2 h3 => aCs (a0 := a0) g c hd htt (l := l) (l' := l') hs hv s a ha h1 h2 h3
 have hn : s1.k ≤ e → dX P (aK L s1.k) (aK L' (s1.sh d).k) := g.vS _ (by omega)
 have hn1 : s1.k + 1 ≤ e → dX P (aK L (s1.k + 1)) (aK L' ((s1.sh d).k + 1)) := g.vS _ (by omega)
 have hl1 : (aK L (s1.k + 1)).kind ≠ 6 → s1.k + 1 < L.length := iK
 have hr1 := fun a ha h1 h2 h3 => hrest [] [] ⟨by simp, fun i t h => by cases h⟩ (.nil P) s1 a ha h1 h2 h3
 generalize aK L s1.k = n at *
 generalize aK L' (s1.sh d).k = n' at hn ⊢
 generalize aK L (s1.k + 1) = u at *
 generalize aK L' ((s1.sh d).k + 1) = u' at hn1 ⊢
 by_cases hk : n.kind = 1
 ·refine Bd.at (s1.k + 1) (Nat.le_succ _) ?_
  revert n'
  refine Bd.tok g (Nat.le_succ _) (by omega) fun n' hnn => ?_
  revert u'
  refine Bd.tok g (Nat.le_refl _) (by omega) fun u' huu => ?_
  have eu : jR u' ⟨#[58, 61]⟩ = jR u ⟨#[58, 61]⟩ := by unfold jR; rw [huu.kind, huu.text]
  simp only [hnn.kind, hnn.text, eu]
  refine Bd.ite (fun _ => Iff.rfl) (by omega) (fun h => ?_) fun _ => ?_
  ·have hm : u.kind = 5 := by
    simp only [Bool.and_eq_true, jR, decide_eq_true_eq] at h
    exact h.2.1
   have hl2 := hl1 (by omega)
   refine Bd.at (s1.k + 2) (Nat.le_succ _) ?_
   refine fP g (s := s1.goto (s1.k + 2)) (fun h hl3 => ?_) fun _ => Bd.aHd (s := s1.goto (s1.k + 2)) (Nat.le_refl _)
   simp only [eB] at hl3
   have := hrest [nd 7 n n.text []] [nd 7 n' n.text []] ⟨by simp, SL.cons (.of (.nil _) (by simp) _ _ _ _ _ _) (.nil _)⟩ (.one (hnn.nd (.nil P) _ _)) (s1.goto (s1.k + 2)) (s1.k + 2) (by simp only [eB]; omega) (Nat.le_refl _) (Nat.le_succ _) (.inl rfl)
   exact this.eY (fun _ => by simp only [eB]; omega) (Nat.le_refl _) (by simp only [eB]; omega)
  ·exact (hr1 (s1.k + 1) (by omega) (Nat.le_succ _) (Nat.le_refl _) (.inr hk)).eY (fun _ => by omega) (Nat.le_refl _) (by omega)
 ·revert n'
  refine Bd.tok g (Nat.le_refl _) (by omega) fun n' hnn => ?_
  have e1 : decide (n.kind = 1) = false := decide_eq_false hk
  simp only [hnn.kind, e1, Bool.false_and, Bool.false_eq_true, if_false]
  exact (hr1 s1.k (by omega) (Nat.le_refl _) (Nat.le_succ _) (.inl rfl)).eY (fun _ => by omega) (Nat.le_refl _) (by omega)

theorem yL (g : Alike P L L' d a0 e) {m : Nat} {one : PF Nd} {Fu : Prop} (s : St) (ha : a0 ≤ s.k) (h : ∀ s1, s.k + 1 ≤ s1.k → BN P e d L.length Fu s1.k (s1.k + 1) (one L false s1) (one L' false (s1.sh d))) (hd : Bool) :
  BL P e d L.length (Fu ∧ L.length - s.k ≤ m) s.k (s.k + 1) (gL m one L hd s) (gL m one L' hd (s.sh d)) := by
 unfold gL
 refine eW g fun _ _ s1 h1 h2 _ _ => ?_
 refine Bd.then (tA (W := fun l s => LW L.length l s) (V := LR P) (Fu := Fu) (k0 := s1.k) g (by omega) (fun x => g.list x) (fun l l' s2 h3 h4 hs hv => ?_) m [] [] s1 (Nat.le_refl _) h2 ⟨Nat.zero_le _, fun i t h => by cases h⟩ (.nil P)) (fun h => ⟨h.1, by omega⟩) (by omega) (by omega) (fun x _ _ => g.list x) fun kids kids' s2 h3 h4 hs hv => ?_
 ·refine bY g (h s2 (by omega)) fun x x' s4 h7 h8 hx hxx => ?_
  exact Bd.ok (by omega) h8 ⟨by have := hs.1; simp only [List.length_append, List.length_singleton]; omega, SL.app hs.2 (.cons hx (.nil _))⟩ fun _ => hv.app (.one hxx)
 ·have hl2 := pQ hs.2
  exact Bd.ok (s := s2.next) (by simp only [aV]; omega) hl2 ⟨by have := hs.1.1; simp only [aV]; omega, hs.1.2⟩ fun _ => hv

end
section
variable {P : Int → Int → Prop} {L L' : List Tok} {d a0 e : Nat}

theorem aJz (g : Alike P L L' d a0 e) {m : Nat} {r : Rec} (c : hM P L L' d a0 e m r) (hd : Bool) (s0 : St) (ha : a0 ≤ s0.k) :
  Bd e d L.length (fun y _ => Small (L.length + 10) y.1) (fun y y' => oC P y.1 y'.1 ∧ y'.2 = y.2) (10 * (L.length - s0.k) + 4 ≤ m) s0.k (s0.k + 1) (pO r L hd s0) (pO r L' hd (s0.sh d)) := by
 unfold pO
 refine bY g (c.expr true s0 ha) fun x x' s h1 h2 hx hxx => ?_
 simp only [hxx.kind, hxx.text]
 refine fP g (fun _ hl => Bd.ok (by omega) h2 hx fun _ => ⟨hxx, rfl⟩) fun _ => ?_
 refine Bd.ite (fun he => by rw [g.is ha (by omega)]) (by omega) (fun _ => ?_) fun _ => ?_
 ·refine fP g (fun _ hl => ?_) fun _ => Bd.fail (Nat.le_refl _)
  exact Bd.ok (by omega) h2 (.of (.cons hx (.nil _)) (by simp) _ _ _ _ _ _) fun _ => ⟨.of hxx.pos (.one hxx) _ _ _ _ _, rfl⟩
 refine Bd.ite (fun he => by rw [g.is ha (by omega)]; exact Iff.rfl) (by omega) (fun _ => Bd.fail (Nat.le_refl _)) fun _ => ?_
 refine bY g (aIj g c hx hxx s.bare true s (by omega) h2) fun y y' s1 h3 h4 hy hyy => ?_
 refine fP g (fun _ hl => Bd.ok (by omega) h4 hy fun _ => ⟨hyy, rfl⟩) fun _ => Bd.fail (Nat.le_refl _)

abbrev B2 (P : Int → Int → Prop) (e d len : Nat) (Fu : Prop) (a b : Nat) (r r' : R (Nd × Nd)) : Prop := Bd e d len (fun y _ => Small (len + 10) y.1 ∧ Small (len + 10) y.2) (fun y y' => oC P y.1 y'.1 ∧ oC P y.2 y'.2) Fu a b r r'
theorem aMe (g : Alike P L L' d a0 e) {α : Type} {W : α → St → Prop} {V : α → α → Prop} {Fu : Prop} {a b b' : Nat} {r r' : R (Nd × Nd)} {f f' : (Nd × Nd) → St → R α} (h : B2 P e d L.length Fu a b' r r') (hb : a ≤ b')
  (hk : ∀ x x' s, b' ≤ s.k → s.k ≤ L.length → Small (L.length + 10) x.1 → Small (L.length + 10) x.2 → oC P x.1 x'.1 → oC P x.2 x'.2 → Bd e d L.length W V Fu s.k (max b s.k) (f x s) (f' x' (s.sh d))) :
  Bd e d L.length W V Fu a b (r.then f) (r'.then f') :=
 Bd.then h id (Nat.le_refl _) hb (fun x _ _ => by obtain ⟨y, hy⟩ := g.nd x.1; obtain ⟨z, hz⟩ := g.nd x.2; exact ⟨(y, z), hy, hz⟩) fun x x' s h1 h2 hw hv => hk x x' s h1 h2 hw.1 hw.2 hv.1 hv.2

theorem aM6 (g : Alike P L L' d a0 e) {m : Nat} {r : Rec} (c : hM P L L' d a0 e m r) (hd : Bool) {t t' : Tok} (ht : dX P t t') (s : St) (ha : a0 ≤ s.k) (hl : s.k ≤ L.length) :
  BN P e d L.length (10 * (L.length - s.k) + 4 ≤ m) s.k (s.k + 1) (sE r t L hd s) (sE r t' L' hd (s.sh d)) := by
 unfold sE
 refine aMe (b' := s.k) g (fP g (fun _ _ => Bd.ok (Nat.le_refl _) hl ⟨.none _, .none _⟩ fun _ => ⟨g.none, g.none⟩) fun _ => ?_) (Nat.le_refl _) fun fc fc' s1 h1 h2 hx hy hxx hyy => ?_
 ·refine Bd.then (aJz g c hd s ha) id (Nat.le_refl _) (by omega) (fun y _ _ => by obtain ⟨z, hz⟩ := g.nd y.1; exact ⟨(z, y.2), hz, rfl⟩) fun y y' s2 h6 h7 hy hyy => ?_
  refine Bd.ok (by omega) h7 ?_ fun _ => ?_
  ·split <;> exact ⟨by first | exact hy | exact .none _, by first | exact hy | exact .none _⟩
  ·rw [hyy.2]; split <;> exact ⟨by first | exact hyy.1 | exact g.none, by first | exact hyy.1 | exact g.none⟩
 unfold yT
 refine aMe (b' := s1.k) g (fP g (fun _ hl1 => ?_) fun _ => Bd.ok (Nat.le_refl _) h2 ⟨hy, .none _⟩ fun _ => ⟨hyy, g.none⟩) (Nat.le_refl _) fun cl cl' s2 h3 h4 hz hw hzz hww => ?_
 ·refine Bd.at (s1.k + 1) (Nat.le_succ _) ?_
  refine bY (Fu' := 10 * (L.length - s.k) + 4 ≤ m) (a' := s1.k + 1) (b' := s1.k + 1) g (fP g (s := s1.next) (fun _ _ => Bd.ok (s := s1.next) (Nat.le_refl _) hl1 hy fun _ => hyy) fun _ => ?_) fun x x' s3 h5 h6 hx hxx => ?_
  ·exact (c.expr true s1.next (by simp only [aV]; omega)).eY (fun _ => by simp only [aV]; omega) (by simp only [aV]; omega) (by simp only [aV]; omega)
  refine eW g fun _ _ s4 h7 h8 _ _ => ?_
  refine bY (Fu' := 10 * (L.length - s.k) + 4 ≤ m) (a' := s4.k) (b' := s4.k) g (fP g (fun _ _ => Bd.ok (Nat.le_refl _) h8 (.none _) fun _ => g.none) fun _ => ?_) fun x x' s5 h9 h10 hx hxx => ?_
  ·exact (c.simple true s4 s4.k (by omega) (Nat.le_refl _) (Nat.le_succ _) (.inl rfl)).eY (fun _ => by omega) (Nat.le_refl _) (by omega)
  ·exact Bd.ok (by omega) h10 ⟨by assumption, hx⟩ fun _ => ⟨by assumption, hxx⟩
 unfold yU
 refine bY g (c.block hd s2 (by omega)) fun x x' s3 h5 h6 hb hbb => ?_
 exact Bd.node (by omega) h6 (.cons hx (.cons hz (.cons hw (.cons hb (.nil _))))) (by simp) fun _ => ⟨ht, rfl, .cons hxx (.cons hzz (.cons hww (.one hbb)))⟩

theorem aH0 (g : Alike P L L' d a0 e) {m : Nat} {r : Rec} (c : hM P L L' d a0 e m r) (hd : Bool) (s : St) (ha : a0 ≤ s.k) :
  BN P e d L.length (10 * (L.length - s.k) + 1 ≤ m + 1 ∧ (aK L s.k).kind ≠ 6) s.k (s.k + 1) (mP m r L hd s) (mP m r L' hd (s.sh d)) := by
 unfold mP
 have hlt : (aK L s.k).kind ≠ 6 → s.k < L.length := iK
 have ht : s.k ≤ e → dX P (aK L s.k) (aK L' (s.sh d).k) := g.vS _ ha
 generalize aK L s.k = t at *
 generalize aK L' (s.sh d).k = t' at ht ⊢
 revert t'
 refine Bd.tok g (Nat.le_refl _) (by omega) fun t' htt => ?_
 simp only [htt.kind, htt.text]
 refine Bd.ite (fun _ => Iff.rfl) (by omega) (fun h => Bd.out (fun hu => hu.2 h)) fun h6 => ?_
 have hl := hlt h6
 refine Bd.ite (fun _ => Iff.rfl) (by omega) (fun h => ?_) fun _ => ?_
 ·exact (aM6 g c hd htt s.next (by simp only [aV]; omega) hl).eY (fun _ => by simp only [aV]; omega) (by simp only [aV]; omega) (by simp only [aV]; omega)
 refine Bd.ite (fun _ => Iff.rfl) (by omega) (fun h => ?_) fun _ => ?_
 ·refine Bd.at (s.k + 1) (Nat.le_succ _) ?_
  refine bY (Fu' := 10 * (L.length - s.k) + 1 ≤ m + 1) (a' := s.k + 1) (b' := s.k + 1) g (fP g (s := s.next) (fun _ _ => Bd.ok (s := s.next) (Nat.le_refl _) hl (.none _) fun _ => g.none) fun _ => ?_) (fun x x' s3 h5 h6 hx hxx => ?_) (fun h => h.1)
  ·exact (c.expr true s.next (by simp only [aV]; omega)).eY (fun _ => by simp only [aV]; omega) (by simp only [aV]; omega) (by simp only [aV]; omega)
  refine oA g (yL (m := m) (Fu := 10 * (L.length - s.k) + 1 ≤ m + 1) g s3 (by omega) (fun s4 h7 => (aGw g c false s4 (by omega)).eY (fun _ => by omega) (Nat.le_refl _) (Nat.le_refl _)) hd) (fun l l' s4 h7 h8 hs hv => ?_) (fun h => ⟨h.1, by omega⟩)
  exact Bd.node (by omega) h8 (.cons hx hs.2) (by have := hs.1; simp only [List.length_cons]; omega) fun _ => ⟨htt, rfl, .cons hxx hv⟩
 ·refine oA g (yL (m := m) (Fu := 10 * (L.length - s.k) + 1 ≤ m + 1) g s.next (by simp only [aV]; omega) (fun s4 h7 => (aMo g c false s4 (by simp only [aV] at h7; omega)).eY (fun _ => by simp only [aV] at h7; omega) (Nat.le_refl _) (Nat.le_refl _)) hd) (fun l l' s4 h7 h8 hs hv => ?_) (fun h => ⟨h.1, by simp only [aV]; omega⟩)
  simp only [aV] at h7
  exact Bd.node (by omega) h8 hs.2 (by have := hs.1; omega) fun _ => ⟨htt, rfl, hv⟩

end
section
variable {P : Int → Int → Prop} {L L' : List Tok} {d a0 e : Nat}

theorem aMb (g : Alike P L L' d a0 e) : ∀ n, hM P L L' d a0 e n (qQ n)
 | 0 => by
  constructor
  all_goals intros
  all_goals exact Bd.out (by omega)
 | n + 1 => by
  have c := aMb g n
  constructor
  ·exact fun hd s ha => aQd g c hd s ha
  ·exact fun hd s ha => aC2 g c hd s ha
  ·exact fun hd s ha => aJl g c hd s ha
  ·exact fun hd s ha hl => aK7 g c hd s ha hl
  ·exact fun hd s ha => aNu g c hd s ha
  ·exact fun hd s ha => aH0 g c hd s ha
  ·exact fun hd s ha => aGp g c hd s ha
  ·exact fun hd s ha => (c.binary 1 hd s ha).eY (fun _ => by omega) (Nat.le_refl _) (Nat.le_refl _)
  ·exact fun least hd s ha => aGk g c least hd s ha
  ·exact fun hd s ha => aLd g c hd s ha
  ·exact fun hd s a ha h1 h2 h3 => aFs g c hd s a ha h1 h2 h3
  ·exact fun hd s a ha h1 h2 h3 => aIu g c hd s a ha h1 h2 h3

theorem aMr (g : Alike P L L' d a0 e) {m : Nat} {r : Rec} (c : hM P L L' d a0 e m r) (hd : Bool) (s : St) (ha : a0 ≤ s.k) :
  BN P e d L.length (10 * (L.length - s.k) + 1 ≤ m) s.k (s.k + 1) (uF m r L hd s) (uF m r L' hd (s.sh d)) := by
 unfold uF
 have ht : s.k ≤ e → dX P (aK L s.k) (aK L' (s.sh d).k) := g.vS _ ha
 generalize aK L s.k = t at *
 generalize aK L' (s.sh d).k = t' at ht ⊢
 revert t'
 refine Bd.tok g (Nat.le_refl _) (by omega) fun t' htt => ?_
 refine fP g (fun _ hl => ?_) fun _ => ?_
 ·refine p9 g (s := s.next) fun x x' s1 h1 h2 _ hx => ?_
  simp only [aV] at h1
  refine eW g fun _ _ s2 h3 h4 _ _ => ?_
  refine eW g fun _ _ s3 h5 h6 _ _ => ?_
  unfold r6
  refine Bd.then (tA (W := fun l s => LW L.length l s) (V := LR P) (Fu := 10 * (L.length - s.k) + 1 ≤ m) (k0 := s3.k) g (by omega) (fun x => g.list x) (fun l l' s4 h7 h8 hs hv => ?_) m [] [] s3 (Nat.le_refl _) h6 ⟨Nat.zero_le _, fun i t h => by cases h⟩ (.nil P)) (fun h => ⟨h, by omega⟩) (by omega) (by omega) (fun x _ _ => g.list x) fun kids kids' s4 h7 h8 hs hv => ?_
  ·refine p9 g fun y y' s5 h9 h10 _ hy => ?_
   refine bY g (c.cD hd s5 (by omega)) fun z z' s6 h11 h12 hz hzz => ?_
   refine eW g fun _ _ s7 h13 h14 _ _ => ?_
   exact Bd.ok (by omega) h14 ⟨by have := hs.1; simp only [List.length_append, List.length_singleton]; omega, SL.app hs.2 (.cons (.of (.cons hz (.nil _)) (by simp) _ _ _ _ _ _) (.nil _))⟩ fun _ => hv.app (.one (by rw [hy.text]; exact hy.nd (.one hzz) _ _))
  ·have hl2 := pQ hs.2
   exact Bd.node (s := s4.next) (by simp only [aV]; omega) hl2 hs.1.2 (by have := hs.1.1; omega) fun _ => ⟨htt, hx.text, hv⟩
 refine fP g (fun _ hl => ?_) fun _ => ?_
 ·refine p9 g (s := s.next) fun x x' s1 h1 h2 _ hx => ?_
  simp only [aV] at h1
  refine bY g (c.cD hd s1 (by omega)) fun z z' s6 h11 h12 hz hzz => ?_
  exact Bd.node (by omega) h12 (.cons hz (.nil _)) (by simp) fun _ => ⟨htt, hx.text, .one hzz⟩
 refine fP g (fun _ hl => ?_) fun _ => Bd.fail (Nat.le_refl _)
 refine p9 g (s := s.next) fun x x' s1 h1 h2 _ hx => ?_
 simp only [aV] at h1
 refine oA g (c.function hd s1 (by omega)) fun l l' s2 h3 h4 hs hv => ?_
 exact Bd.node (by omega) h4 hs.2 (by have := hs.1; omega) fun _ => ⟨htt, hx.text, hv⟩

theorem aHf (g : Alike P L L' d a0 e) {m : Nat} {r : Rec} (c : hM P L L' d a0 e m r) (hd : Bool) {k0 : Nat} (ha : a0 ≤ k0) : ∀ (n : Nat) (l l' : List Nd) (s : St), k0 ≤ s.k → s.k ≤ L.length → LW L.length l s → LR P l l' →
  BL P e d L.length (10 * (L.length - k0) + 1 ≤ m ∧ L.length - s.k < n) s.k s.k (nC m r L hd n l s) (nC m r L' hd n l' (s.sh d)) := by
 intro n
 induction n with
 | zero => exact fun _ _ s _ _ _ _ => Bd.out (by omega)
 | succ n ih =>
  intro l l' s hk hl hw hv
  unfold nC
  refine Bd.ite (fun he => ?_) (Nat.le_refl _) (fun _ => Bd.ok (Nat.le_refl _) hl hw fun _ => hv) fun _ => ?_
  ·have ht : dX P (aK L s.k) (aK L' (s.sh d).k) := g.vS _ (by omega) he
   rw [ht.kind]
  refine bY g (aMr g c hd s (by omega)) fun x x' s1 h1 h2 hx hxx => ?_
  refine eW g fun _ _ s2 h3 h4 _ _ => ?_
  exact (ih (l ++ [x]) (l' ++ [x']) s2 (by omega) h4 ⟨by have := hw.1; simp only [List.length_append, List.length_singleton]; omega, SL.app hw.2 (.cons hx (.nil _))⟩ (hv.app (.one hxx))).eY (fun h => ⟨h.1, by omega⟩) (by omega) (by omega)

theorem aHh (g : Alike P L L' d 0 e) {m : Nat} (hd : Bool) (s : St) (hl : s.k ≤ L.length) :
  BN P e d L.length (10 * L.length + 1 ≤ m) s.k s.k (lH m (qQ m) L hd s) (lH m (qQ m) L' hd (s.sh d)) := by
 unfold lH
 refine oA g (aHf g (aMb g m) hd (k0 := 0) (Nat.le_refl _) m [] [] s (Nat.zero_le _) hl ⟨Nat.zero_le _, fun i t h => by cases h⟩ (.nil P)) (fun l l' s2 h3 h4 hs hv => ?_) (fun h => ⟨by omega, by omega⟩)
 exact Bd.ok (by omega) h4 (.of hs.2 (by have := hs.1; omega) _ _ _ _ _ _) fun _ => .of g.zero hv _ _ _ _ _
end

theorem Small.mono {n m : Nat} (h : n ≤ m) {t : Nd} (s : Small n t) : Small m t := by
 induction s with
 | mk kind text num pos cD ref kids h1 h2 ih => exact .mk _ _ _ _ _ _ _ (by omega) ih

def lC (src : ByteArray) : Nd × Int × Int := (tT 200000 src).getD (kW, 0, 0)

theorem uQ (src : ByteArray) : tT 200000 src = some (lC src) ∧ Small 20000 (lC src).1 := by
 have hz : Small 20000 kW := .of (.nil _) (by simp) _ _ _ _ _ _
 unfold lC tT
 split
 ·exact ⟨rfl, hz⟩
 ·rename_i h0
  obtain ⟨wf, _, _⟩ := vK (src := src) (by simpa using h0)
  have hl := wf.size
  generalize (eE src).tY = L at *
  have g : Alike (fun _ _ => True) L L 0 0 0 := ⟨trivial, fun p => ⟨p, trivial⟩, fun i _ _ => ⟨(aK L i).pos, trivial, by rw [Nat.zero_add]⟩⟩
  have h := aHh g (m := 200000) false ⟨0, false⟩ (Nat.zero_le _)
  cases hr : lH 200000 (qQ 200000) L false ⟨0, false⟩ with
  | ok t s => rw [hr] at h; exact ⟨rfl, h.2.2.1.mono (by omega)⟩
  | bad i => exact ⟨rfl, hz⟩
  | out => rw [hr] at h; exact (h (by omega)).elim

end Go.Proofs.ZL
end
