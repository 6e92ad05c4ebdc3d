/- Two trees alike, and a tree without its places: the document's functions. -/
import Derived.Test.YtoifleamknbeaaaGreatDoorYPX
open Go Go.Am
namespace Go.Proofs.ZL
set_option maxRecDepth 100000
set_option linter.unusedSimpArgs false
set_option linter.unusedVariables false
set_option maxHeartbeats 4000000

inductive Small (n : Nat) : Nd → Prop
 | mk (kind : Int) (text : ByteArray) (num pos : Int) (typ : ByteArray) (ref : Int) (kids : List Nd) : kids.length ≤ n → (∀ (j : Nat) t, kids[j]? = some t → Small n t) → Small n (.mk kind text num pos typ ref kids)

theorem Small.len {n : Nat} {t : Nd} (s : Small n t) : t.kids.length ≤ n := by cases s; assumption
theorem Small.kid {n : Nat} {t u : Nd} {j : Nat} (s : Small n t) (h : t.kids[j]? = some u) : Small n u := by
 cases s with
 | mk _ _ _ _ _ _ _ _ h2 => exact h2 j u h

theorem Nd.ext7 {a b : Nd} (h1 : a.kind = b.kind) (h2 : a.text = b.text) (h3 : a.num = b.num) (h4 : a.pos = b.pos) (h5 : a.typ = b.typ) (h6 : a.ref = b.ref) (h7 : a.kids = b.kids) : a = b := by
 cases a; cases b
 simp only [Nd.kind, Nd.text, Nd.num, Nd.pos, Nd.typ, Nd.ref, Nd.kids] at *
 subst h1; subst h2; subst h3; subst h4; subst h5; subst h6; subst h7; rfl

def SameAt (N : Nat) (h0 : Heap) (a : Nd) (vs : List Value) : Prop := ∀ {h : Heap} {S : Nat → Prop} {ws : List Value} {b : Nd} {Q : ARes → Prop}, Gr h0 h → Small N a → NV h S ws b →
 (∀ h' r, Gr h h' → (r = true ↔ a = b) → Q (.ret (.bool r) h')) → WCall Tryz.prog G X 14 [.agg vs.toArray, .agg ws.toArray] h Q

theorem same_go {N : Nat} (hN : N ≤ 1000000) {h0 : Heap} {a : Nd} {b0 : Option Addr} {n0 es0 : Nat} (hn0 : n0 = a.kids.length)
  (hk : ∀ (j : Nat) t, a.kids[j]? = some t → ∃ i cells, b0 = some ⟨i, 0, none⟩ ∧ es0 = 7 ∧ i < h0.next ∧ h0.obj i = some (.cells false cells) ∧ cells.length = a.kids.length * 7 ∧ ∃ b' n' es', (cells.drop (j * 7)).take 7 = ncells t b' n' es' ∧ SameAt N h0 t (ncells t b' n' es')) :
  SameAt N h0 a (ncells a b0 n0 es0) := by
 intro h S ws b Q g sm hw hq
 obtain ⟨b1, n1, es1, rfl⟩ := hw.cells
 have hn1 := hw.lenK
 have hl := sm.len
 have hg0 := g.1
 refine WCall.walk hX Tryz.func14 rfl rfl Tryz.ntmps14 rfl ?_
 refine QN hX ?_;refine QK (Qx ?_);refine QK (Qx ?_);refine QK (Qb ?_);refine QL ?_;refine QU hX ?_;refine QN hX ?_;refine QK (Qj ?_);refine QK (Qt ?_);refine QK (Qj ?_);refine QK (Qt ?_);refine QK (QE ?_ ?_);intro hh;refine QK (Qa ?_);refine QK (QA ?_);refine QK (QA ?_);refine QK (QA ?_);refine QK (QA ?_);refine QK (QA ?_);refine QK (Qc ?_);refine QK (Qa ?_);refine QK (QA ?_);refine QK (QA ?_);refine QK (QA ?_);refine QK (QA ?_);refine QK (QA ?_);refine QK (Qc ?_);refine QK (Qa ?_);refine QK (QA ?_);refine QK (QA ?_);refine QK (QA ?_);refine QK (QA ?_);refine QK (QA ?_);refine QK (Qc ?_);refine QK (Qa ?_);refine QK (QA ?_);refine QK (QA ?_);refine QK (QA ?_);refine QK (QA ?_);refine QK (QA ?_);refine QK (Qc ?_);refine QK (Qa ?_);refine QK (QA ?_);refine QK (QA ?_);refine QK (QA ?_);refine QK (QA ?_);refine QK (QA ?_);refine QK (Qc ?_);refine QK (Qa ?_);refine QK (QA ?_);refine QK (QA ?_);refine QK (QA ?_);refine QK (QA ?_);refine QK (QA ?_);refine QK (QA ?_);refine QK (QA ?_);refine QK (Qc ?_);refine QQ hX ?_;refine QN hX ?_;refine QK (Qb ?_);refine QM ?_;rotate_left;intro hh;refine QK (Qa ?_);refine QK (Qj ?_);refine QK (Qt ?_);refine QK (Qj ?_);refine QK (Qt ?_);refine QK (QC ?_ ?_);intro hh;refine QK (Qd ?_);refine QK (Qa ?_);refine QK (QA ?_);refine QK (QA ?_);refine QK (QA ?_);refine QK (QA ?_);refine QK (QA ?_);refine QK (Qc ?_);refine QK (Qa ?_);refine QK (QA ?_);refine QK (QA ?_);refine QK (QA ?_);refine QK (QA ?_);refine QK (QA ?_);refine QK (Qc ?_);refine QK (Qa ?_);refine QK (QA ?_);refine QK (QA ?_);refine QK (QA ?_);refine QK (QA ?_);refine QK (QA ?_);refine QK (Qc ?_);refine QK (Qa ?_);refine QK (QA ?_);refine QK (QA ?_);refine QK (QA ?_);refine QK (QA ?_);refine QK (QA ?_);refine QK (Qc ?_);refine QK (Qa ?_);refine QK (QA ?_);refine QK (QA ?_);refine QK (QA ?_);refine QK (QA ?_);refine QK (QA ?_);refine QK (QA ?_);refine QK (QA ?_);refine QK (Qc ?_);refine QQ hX ?_;refine QN hX ?_;refine QK (Qb ?_);refine QM ?_;rotate_left;intro hh;refine QK (Qd ?_);refine QK (Qa ?_);refine QK (Qj ?_);refine QK (Qt ?_);refine QK (Qj ?_);refine QK (Qt ?_);refine QK (QE ?_ ?_);intro hh;refine QK (Qd ?_);refine QK (Qa ?_);refine QK (QA ?_);refine QK (QA ?_);refine QK (QA ?_);refine QK (QA ?_);refine QK (QA ?_);refine QK (Qc ?_);refine QK (Qa ?_);refine QK (QA ?_);refine QK (QA ?_);refine QK (QA ?_);refine QK (QA ?_);refine QK (QA ?_);refine QK (Qc ?_);refine QK (Qa ?_);refine QK (QA ?_);refine QK (QA ?_);refine QK (QA ?_);refine QK (QA ?_);refine QK (QA ?_);refine QK (Qc ?_);refine QK (Qa ?_);refine QK (QA ?_);refine QK (QA ?_);refine QK (QA ?_);refine QK (QA ?_);refine QK (QA ?_);refine QK (QA ?_);refine QK (QA ?_);refine QK (Qc ?_);refine QQ hX ?_;refine QN hX ?_;refine QK (Qb ?_);refine QM ?_;rotate_left;intro hh;refine QK (Qd ?_);refine QK (Qa ?_);refine QK (Qj ?_);refine QK (Qt ?_);refine QK (Qj ?_);refine QK (Qt ?_);refine QK (QE ?_ ?_);intro hh;refine QK (Qd ?_);refine QK (Qa ?_);refine QK (QA ?_);refine QK (QA ?_);refine QK (QA ?_);refine QK (QA ?_);refine QK (QA ?_);refine QK (Qc ?_);refine QK (Qa ?_);refine QK (QA ?_);refine QK (QA ?_);refine QK (QA ?_);refine QK (QA ?_);refine QK (QA ?_);refine QK (Qc ?_);refine QK (Qa ?_);refine QK (QA ?_);refine QK (QA ?_);refine QK (QA ?_);refine QK (QA ?_);refine QK (QA ?_);refine QK (QA ?_);refine QK (QA ?_);refine QK (Qc ?_);refine QQ hX ?_;refine QN hX ?_;refine QK (Qb ?_);refine QM ?_;rotate_left;intro hh;refine QK (Qd ?_);refine QK (Qa ?_);refine QK (Qj ?_);refine QK (Qt ?_);refine QK (Qj ?_);refine QK (Qt ?_);refine QK (QC ?_ ?_);intro hh;refine QK (Qd ?_);refine QK (Qa ?_);refine QK (QA ?_);refine QK (QA ?_);refine QK (QA ?_);refine QK (QA ?_);refine QK (QA ?_);refine QK (Qc ?_);refine QK (Qa ?_);refine QK (QA ?_);refine QK (QA ?_);refine QK (QA ?_);refine QK (QA ?_);refine QK (QA ?_);refine QK (QA ?_);refine QK (QA ?_);refine QK (Qc ?_);refine QQ hX ?_;refine QN hX ?_;refine QK (Qb ?_);refine QM ?_;rotate_left;intro hh;refine QK (Qd ?_);refine QK (Qa ?_);refine QK (Qj ?_);refine QK (Qt ?_);refine QK (Qj ?_);refine QK (Qt ?_);refine QK (QE ?_ ?_);intro hh;refine QK (Qd ?_);refine QK (Qa ?_);refine QK (QA ?_);refine QK (QA ?_);refine QK (QA ?_);refine QK (QA ?_);refine QK (QA ?_);refine QK (QA ?_);refine QK (QA ?_);refine QK (Qc ?_);refine QQ hX ?_;refine QN hX ?_;refine QK (Qb ?_);refine QM ?_;rotate_left;intro hh;refine QK (Qd ?_);refine QK (Qa ?_);refine QK (Qj ?_);refine QK (Qt ?_);refine QK (Qs ?_);refine QK (Qj ?_);refine QK (Qt ?_);refine QK (Qs ?_);refine QK (QE ?_ ?_);intro hh;refine QK (Qd ?_);refine QQ hX ?_;refine QN hX ?_;refine QK (Qb ?_);refine QM ?_;rotate_left;intro hh;refine QK (Qd ?_);refine QP hX ?_;refine UA ?_;refine QU hX ?_;refine QN hX ?_;refine QK (Qb ?_);refine QL ?_;refine WC.block hX ?_;rotate_left
 iterate 7 · ((apply Exists.intro; apply And.intro; (· repeat (first | exact resultA_nil | (apply resultA_tmp; (· (first | rfl | assumption))) | (apply resultA_cellG; (· (first | rfl | assumption)); (· rfl); (· exact sz_at rfl); (· (repeat (first | assumption | (with_reducible rfl) | exact obj_new | exact obj_put | (refine obj_old (by (first | omega | (simp only [Heap.alloc_next, Heap.put_next]; omega))) ?_) | (refine obj_else (by (first | omega | (simp only [Heap.alloc_next, Heap.put_next]; omega))) ?_) | (apply Gr.at; (· assumption); (· (first | omega | (simp only [Heap.alloc_next, Heap.put_next]; omega)))) | (apply Fr1.at; (· assumption); (· (first | omega | (simp only [Heap.alloc_next, Heap.put_next]; omega))); (· (first | omega | (simp only [Heap.alloc_next, Heap.put_next]; omega))))))); (· (first | (exact Nat.le_of_ble_eq_true rfl) | (simp; done) | omega)); (· rfl)) | (apply resultA_cellS; (· (first | rfl | assumption)); (· rfl); (· (repeat (first | assumption | (with_reducible rfl) | exact obj_new | exact obj_put | (refine obj_old (by (first | omega | (simp only [Heap.alloc_next, Heap.put_next]; omega))) ?_) | (refine obj_else (by (first | omega | (simp only [Heap.alloc_next, Heap.put_next]; omega))) ?_) | (apply Gr.at; (· assumption); (· (first | omega | (simp only [Heap.alloc_next, Heap.put_next]; omega)))) | (apply Fr1.at; (· assumption); (· (first | omega | (simp only [Heap.alloc_next, Heap.put_next]; omega))); (· (first | omega | (simp only [Heap.alloc_next, Heap.put_next]; omega))))))); (· rfl)))))); exact hq _ false Wwgr ⟨fun e => (Bool.false_ne_true e).elim, fun e => by subst e; first | exact absurd rfl hh | omega⟩
 have hlen : a.kids.length = b.kids.length := by omega
 refine WC.loopInv hX (α := Nat) (m := fun i => a.kids.length - i) (Inv := fun i v h' => v 2 = some (.pointer (some ⟨h.next, 0, none⟩)) ∧ v 3 = some (.pointer (some ⟨h.next + 1, 0, none⟩)) ∧ v 5 = some (.int .i64 i) ∧ Gr ((h.alloc (.cells false (ncells a b0 n0 es0))).alloc (.cells false (ncells b b1 n1 es1))) h' ∧
  i ≤ a.kids.length ∧ ∀ j, j < i → a.kids[j]? = b.kids[j]?) 0 ⟨rfl, rfl, rfl, Gr.refl _, by omega, fun j hj => by omega⟩ ?_
 rintro i env h5 ih ⟨e2, e3, e5, g5, hi5, heq5⟩
 have gg5 : Gr h h5 := (Gr.alloc _ _).trans ((Gr.alloc _ _).trans g5)
 have hnn5 := g5.1
 simp only [Heap.alloc_next] at hnn5
 have ho2 : h5.obj h.next = some (.cells false (ncells a b0 n0 es0)) := g5.at Wwne Wwobj
 have ho3 : h5.obj (h.next + 1) = some (.cells false (ncells b b1 n1 es1)) := g5.at Wwne Wwobj
 refine QU hX ?_;refine QN hX ?_;refine QK (Qa ?_);refine QK (Qj ?_);refine QK (Qt ?_);refine QK (Qs ?_);refine QK (QF ?_ ?_);intro hh;refine QQ hX ?_;refine UA ?_;refine QU hX ?_;refine WC.block hX ?_;refine QU hX ?_;refine WC.drawn (id := 6) hX (l := [⟨0, .pure, 0⟩, ⟨1, .read, 1⟩, ⟨2, .pure, 0⟩, ⟨3, .pure, 7⟩, ⟨4, .read, 15⟩, ⟨5, .pure, 0⟩, ⟨6, .read, 32⟩, ⟨7, .pure, 0⟩, ⟨8, .pure, 224⟩, ⟨9, .read, 480⟩, ⟨10, .heavy, 1023⟩, ⟨11, .pure, 2047⟩]) (hw := ?_);refine QW (k := Qj ?_);refine QX (k := Qt ?_);refine QW (k := Qa ?_);refine WD.pure (hw := ?_);rotate_left;intro hh;refine QP hX ?_;refine WC.exit ?_;refine exit_here ?_;refine QN hX ?_;refine QK (Qb ?_);refine QM ?_;rotate_left
 ·have hia : i < a.kids.length := by omega
  obtain ⟨i1, cells1, rfl, rfl, hi1, ho1, hc1, b1', n1', es1', hd1, hs1⟩ := hk i _ (List.getElem?_eq_getElem hia)
  obtain ⟨i2, cells2, rfl, _, rfl, _, hi2, hob, hc2, hs2⟩ := hw.kidsAt (by intro e; have := congrArg List.length e; simp only [List.length_nil] at this; omega)
  have hv2 := hs2 i _ (List.getElem?_eq_getElem (by omega))
  obtain ⟨b2', n2', es2', hd2⟩ := hv2.cells
  rw [hd2] at hv2
  have ho1' : h5.obj i1 = some (.cells false cells1) := (g.trans gg5).at hi1 ho1
  have ho2' : h5.obj i2 = some (.cells false cells2) := gg5.at hi2 hob
  refine WS.indexAddr (hk := ?_);refine WD.read (hw := ?_)
  refine WS.loadG (vs := ncells a.kids[i] b1' n1' es1') (hc := ?_) (hv' := ?_) (hk := ?_)
  (· rw [hc1]; omega); (· rw [show 0 + (i : Int).toNat * 7 = i * 7 by omega, hd1]; rfl)
  refine QW (k := Qj ?_);refine QX (k := Qt ?_);refine QW (k := Qa ?_);refine QW (k := Ql ?_);refine WD.read (hw := ?_)
  refine WS.loadG (vs := ncells b.kids[i] b2' n2' es2') (hc := ?_) (hv' := ?_) (hk := ?_)
  (· rw [hc2]; omega); (· rw [show 0 + (i : Int).toNat * 7 = i * 7 by omega, hd2]; rfl)
  refine WD.heavy hX (hw := ?_)
  refine QJ en14 ?_
  refine hs1 (g.trans gg5) (sm.kid (List.getElem?_eq_getElem hia)) (hv2.mono Wwne fun j hj hlt => ⟨hj, gg5.2 j hlt⟩) fun h6 r g6 hr => ?_
  have gg6 := gg5.trans g6
  have gg7 := g5.trans g6
  cases r
  ·refine QW (k := Qb ?_);refine WD.nil (hq := ?_);refine QN hX ?_;refine QK (Qa ?_);refine QK (Qe ?_);refine QQ hX ?_;refine QN hX ?_;refine QK (Qb ?_);refine QM ?_
   refine ⟨_, Wwres, ?_⟩
   refine hq _ false Wwgr ⟨fun e => (Bool.false_ne_true e).elim, fun e => ?_⟩
   subst e
   exact (Bool.false_ne_true (hr.2 rfl)).elim
  ·refine QW (k := Qb ?_);refine WD.nil (hq := ?_);refine QN hX ?_;refine QK (Qa ?_);refine QK (Qe ?_);refine QP hX ?_;refine UA ?_;refine QV hX ?_;refine QK (Qa ?_);refine QK (Qf ?_);refine QK (Qb ?_);refine QL ?_
   refine ih (i + 1) _ _ (by omega) ⟨by assumption, by assumption, rfl, Wwgr, hia, fun j hj => ?_⟩
   rcases Nat.lt_succ_iff_lt_or_eq.1 hj with hj | rfl
   ·exact heq5 j hj
   ·rw [List.getElem?_eq_getElem hia, List.getElem?_eq_getElem (by omega), hr.1 rfl]
 ·refine ⟨_, Wwres, ?_⟩
  refine hq _ true Wwgr ⟨fun _ => Nd.ext7 (Decidable.not_not.1 ‹¬ a.kind ≠ b.kind›) (Decidable.not_not.1 ‹¬ a.text ≠ b.text›) (Decidable.not_not.1 ‹¬ a.num ≠ b.num›) (Decidable.not_not.1 ‹¬ a.pos ≠ b.pos›) (Decidable.not_not.1 ‹¬ a.typ ≠ b.typ›) (Decidable.not_not.1 ‹¬ a.ref ≠ b.ref›) ?_, fun _ => rfl⟩
  refine List.ext_getElem? fun j => ?_
  rcases Nat.lt_or_ge j i with hj | hj
  ·exact heq5 j hj
  ·rw [List.getElem?_eq_none (by omega), List.getElem?_eq_none (by omega)]

theorem sameAt_of {N : Nat} (hN : N ≤ 1000000) {h0 : Heap} {S : Nat → Prop} {vs : List Value} {a : Nd} (hv : NV h0 S vs a) : SameAt N h0 a vs := by
 induction hv with
 | leaf kind text num pos typ ref => exact same_go hN (a := .mk kind text num pos typ ref []) rfl fun j t hj => by cases hj
 | node kind text num pos typ ref kids i cells h1 h2 h3 h4 h5 ih =>
  refine same_go hN (a := .mk kind text num pos typ ref kids) rfl fun j t hj => ⟨i, cells, rfl, rfl, h2, h3, h4, ?_⟩
  obtain ⟨b', n', es', he⟩ := (h5 j t hj).cells
  exact ⟨b', n', es', he, he ▸ ih j t hj⟩

theorem same_w {N : Nat} (hN : N ≤ 1000000) {h : Heap} {S S2 : Nat → Prop} {a b : Nd} {b0 : Option Addr} {n0 es0 : Nat} {b1 : Option Addr} {n1 es1 : Nat} {Q : ARes → Prop} (hv : NV h S (ncells a b0 n0 es0) a) (hw : NV h S2 (ncells b b1 n1 es1) b) (sm : Small N a)
  (hq : ∀ h' r, Gr h h' → (r = true ↔ a = b) → Q (.ret (.bool r) h')) : WCall Tryz.prog G X 14 [.agg (ncells a b0 n0 es0).toArray, .agg (ncells b b1 n1 es1).toArray] h Q :=
 sameAt_of hN hv (Gr.refl _) sm hw hq

def bareN : Nd → Nd
 | .mk kind text num _ _ _ kids => .mk kind text num 0 (⟨#[]⟩ : ByteArray) 0 (kids.map bareN)

def BareAt (N : Nat) (h0 : Heap) (a : Nd) (vs : List Value) : Prop := ∀ {h : Heap} {Q : ARes → Prop}, Gr h0 h → Small N a →
 (∀ h' b n es, Gr h h' → NV h' (fun j => h.next ≤ j) (ncells (bareN a) b n es) (bareN a) → Q (.ret (.agg (ncells (bareN a) b n es).toArray) h')) → WCall Tryz.prog G X 17 [.agg vs.toArray] h Q

theorem bare_go {N : Nat} (hN : N ≤ 1000000) {h0 : Heap} {a : Nd} {b0 : Option Addr} {n0 es0 : Nat} (hn0 : n0 = a.kids.length)
  (hk : ∀ (j : Nat) t, a.kids[j]? = some t → ∃ i cells, b0 = some ⟨i, 0, none⟩ ∧ es0 = 7 ∧ i < h0.next ∧ h0.obj i = some (.cells false cells) ∧ cells.length = a.kids.length * 7 ∧ ∃ b' n' es', (cells.drop (j * 7)).take 7 = ncells t b' n' es' ∧ BareAt N h0 t (ncells t b' n' es')) :
  BareAt N h0 a (ncells a b0 n0 es0) := by
 intro h Q g sm hq
 have hl := sm.len
 have hg0 := g.1
 refine WCall.walk hX Tryz.func17 rfl rfl Tryz.ntmps17 rfl ?_
 refine QN hX ?_;refine QK (Qx ?_);refine QK (Qw ?_);refine QO hX ?_;refine QK (Qj ?_);refine QK (Qt ?_);refine QK (Qj ?_);refine QK (Qt ?_);refine QK (Qj ?_);refine QK (Qt ?_);refine QK (Qn ?_);refine QK (Qw ?_);refine QK (Qv ?_);refine QL ?_;refine QU hX ?_;refine QN hX ?_;refine QK (Qb ?_);refine QL ?_;refine WC.block hX ?_
 refine WC.loopInv hX (α := Nat) (m := fun i => a.kids.length - i) (Inv := fun i v h' => v 1 = some (.pointer (some ⟨h.next, 0, none⟩)) ∧ v 2 = some (.pointer (some ⟨h.next + 1, 0, none⟩)) ∧ v 3 = some (.pointer (some ⟨h.next + 2, 0, none⟩)) ∧ v 4 = some (.int .i64 i) ∧ Gr h h' ∧ h.next + 2 < h'.next ∧
  h'.obj h.next = some (.cells false (ncells a b0 n0 es0)) ∧ h'.obj (h.next + 1) = some (.cells false (ncells (.mk 0 (⟨#[]⟩ : ByteArray) 0 0 (⟨#[]⟩ : ByteArray) 0 []) none 0 0)) ∧ i ≤ a.kids.length ∧
  ∃ b n es, h'.obj (h.next + 2) = some (.cells false (ncells (.mk a.kind a.text a.num 0 (⟨#[]⟩ : ByteArray) 0 []) b n es)) ∧ KV h' (fun j => h.next + 2 < j) b n es ((a.kids.take i).map bareN)) 0
  ⟨rfl, rfl, rfl, rfl, Wwgr, Wwne, Wwobj, Wwobj, by omega, none, 0, 0, Wwobj, KV.nil _ _⟩ ?_
 rintro i env h5 ih ⟨e1, e2, e3, e4, g5, hn5, ho1, ho2, hi5, b5, n5, es5, ho3, kv5⟩
 have hl5 := kv5.len
 have hl5' : n5 ≤ i := by rw [hl5, List.length_map, List.length_take]; omega
 refine QU hX ?_;refine QN hX ?_;refine QK (Qa ?_);refine QK (Qj ?_);refine QK (Qt ?_);refine QK (Qs ?_);refine QK (QF ?_ ?_);intro hh;refine QQ hX ?_;refine UA ?_;refine QU hX ?_;refine WC.block hX ?_;refine WC.drawn (id := 5) hX (l := [⟨0, .pure, 0⟩, ⟨1, .read, 1⟩, ⟨2, .pure, 0⟩, ⟨3, .read, 4⟩, ⟨4, .pure, 0⟩, ⟨5, .pure, 28⟩, ⟨6, .read, 60⟩, ⟨7, .heavy, 124⟩, ⟨8, .alloc, 252⟩, ⟨9, .heavy, 511⟩, ⟨10, .pure, 1023⟩, ⟨11, .heavy, 2047⟩]) (hw := ?_);refine QW (k := Qj ?_);refine QX (k := Qt ?_);refine QW (k := Qj ?_);refine QX (k := Qt ?_);refine QW (k := Qa ?_);refine WD.pure (hw := ?_);rotate_left;intro hh;refine QP hX ?_;refine WC.exit ?_;refine exit_here ?_;refine QN hX ?_;refine QK (Qu ?_);refine QK (Qv ?_);refine QM ?_;rotate_left
 ·have hia : i < a.kids.length := by omega
  obtain ⟨i1, cells1, rfl, rfl, hi1, hc1o, hc1, b1', n1', es1', hd1, hs1⟩ := hk i _ (List.getElem?_eq_getElem hia)
  have ho1' : h5.obj i1 = some (.cells false cells1) := (g.trans g5).at hi1 hc1o
  refine WS.indexAddr (hk := ?_);refine WD.read (hw := ?_)
  refine WS.loadG (vs := ncells a.kids[i] b1' n1' es1') (hc := ?_) (hv' := ?_) (hk := ?_)
  (· rw [hc1]; omega); (· rw [show 0 + (i : Int).toNat * 7 = i * 7 by omega, hd1]; rfl)
  refine WD.heavy hX (hw := ?_)
  refine QJ en17 ?_
  refine hs1 (g.trans g5) (sm.kid (List.getElem?_eq_getElem hia)) fun h6 b6 n6 es6 g6 nv6 => ?_
  generalize ht6 : bareN a.kids[i] = t6 at *
  have hn6 := g6.1
  refine WD.alloc (hw := Qz ?_);refine WD.heavy hX (hw := ?_)
  have kvH := kv5.mono (S' := fun j => h.next + 2 < j) (h' := h6.alloc (.cells false (ncells t6 b6 n6 es6))) Wwne (fun j hS hj => ⟨hS, Wwag⟩)
  have hbne := kvH.ne
  obtain ⟨old, hsa, hol, hold⟩ := kvH.sliceAt
  have hol2 : old.length ≤ 7000000 := by rw [hol, ← hl5]; omega
  apply WS.append
  (· rfl); (· rfl); (· exact Wwev); (· exact Wwev); (· rfl); (· rfl); (· intro k hk; cases hk); (· exact fits_at rfl); (· decide); (· exact Wwobj); (· exact Wwlen); (· rfl); (· unfold room; omega); (· rfl); (· exact hsa)
  intro h9 hn9 ho9 hf9
  simp only [UB, UC] at hn9 ho9 hf9
  have hk9 : ∀ j, j ≤ h.next + 2 → h9.obj j = (h6.alloc (.cells false (ncells t6 b6 n6 es6))).obj j := fun j hj => hf9 j (by omega) (hbne j hj)
  have kv9 : KV h9 (fun j => h.next + 2 < j) (some ⟨h6.next + 1, 0, none⟩) (n5 + 1) 7 ((a.kids.take i).map bareN ++ [t6]) := KV.snoc (h := h6.alloc (.cells false (ncells t6 b6 n6 es6))) (S2 := fun j => h5.next ≤ j ∧ j < h6.next) hol (by omega) hold
   (nv6.mono Wwne (fun j hS hj => by (try simp only [UB, UC] at hS); exact ⟨⟨Wwne, Wwne⟩, Wwag⟩)) Wwne ho9 hf9 Wwne (fun x hx _ => by omega) (fun x hx hlt => ⟨by have := hx.1; omega, kv5.ge x hx.1⟩)
  have q1 : h9.obj h.next = some (.cells false (ncells a (some ⟨i1, 0, none⟩) n0 7)) := (hk9 _ (by omega)).trans Wwobj
  have q2 : h9.obj (h.next + 1) = some (.cells false (ncells (.mk 0 (⟨#[]⟩ : ByteArray) 0 0 (⟨#[]⟩ : ByteArray) 0 []) none 0 0)) := (hk9 _ (by omega)).trans Wwobj
  have q3 : h9.obj (h.next + 2) = some (.cells false (ncells (.mk a.kind a.text a.num 0 (⟨#[]⟩ : ByteArray) 0 []) b5 n5 es5)) := (hk9 _ (by omega)).trans Wwobj
  have q4 : Gr h h9 := ⟨by have := g5.1; omega, fun j hj => by rw [hk9 j (by omega), Heap.alloc_obj, if_neg (by omega), g6.2 j (by omega), g5.2 j hj]⟩
  refine QW (k := Qj ?_);refine WD.heavy hX (hw := Qv ?_);refine WD.nil (hq := ?_);refine QV hX ?_;refine QK (Qa ?_);refine QK (Qf ?_);refine QK (Qb ?_);refine QL ?_
  refine ih (i + 1) _ _ (by omega) ⟨by assumption, by assumption, by assumption, rfl, Wwgr, Wwne, Wwobj, Wwobj, hia, _, _, _, Wwobj, ?_⟩
  rw [List.take_add_one, List.getElem?_eq_getElem hia, Option.toList_some, List.map_append, List.map_singleton, ht6]
  refine KV.mono (h := h9) ?_ ?_ kv9
  ·exact Wwne
  ·exact fun j hS hj => ⟨hS, Wwag⟩
 ·have hfull : a.kids.take i = a.kids := List.take_of_length_le (by omega)
  rw [hfull] at kv5
  have hb : bareN a = .mk a.kind a.text a.num 0 (⟨#[]⟩ : ByteArray) 0 (a.kids.map bareN) := by cases a; simp only [bareN, Nd.kind, Nd.text, Nd.num, Nd.kids]
  rw [hb] at hq
  skip
  refine ⟨_, Wwres, ?_⟩
  refine hq _ b5 n5 es5 Wwgr ?_
  exact NV.of_kids (kv5.mono Wwne (fun j hS hj => by (try simp only [UB, UC] at hS); exact ⟨Wwne, Wwag⟩)) _ _ _ _ _ _

theorem bareAt_of {N : Nat} (hN : N ≤ 1000000) {h0 : Heap} {S : Nat → Prop} {vs : List Value} {a : Nd} (hv : NV h0 S vs a) : BareAt N h0 a vs := by
 induction hv with
 | leaf kind text num pos typ ref => exact bare_go hN (a := .mk kind text num pos typ ref []) rfl fun j t hj => by cases hj
 | node kind text num pos typ ref kids i cells h1 h2 h3 h4 h5 ih =>
  refine bare_go hN (a := .mk kind text num pos typ ref kids) rfl fun j t hj => ⟨i, cells, rfl, rfl, h2, h3, h4, ?_⟩
  obtain ⟨b', n', es', he⟩ := (h5 j t hj).cells
  exact ⟨b', n', es', he, he ▸ ih j t hj⟩

theorem bare_w {N : Nat} (hN : N ≤ 1000000) {h : Heap} {S : Nat → Prop} {a : Nd} {b0 : Option Addr} {n0 es0 : Nat} {Q : ARes → Prop} (hv : NV h S (ncells a b0 n0 es0) a) (sm : Small N a)
  (hq : ∀ h' b n es, Gr h h' → NV h' (fun j => h.next ≤ j) (ncells (bareN a) b n es) (bareN a) → Q (.ret (.agg (ncells (bareN a) b n es).toArray) h')) : WCall Tryz.prog G X 17 [.agg (ncells a b0 n0 es0).toArray] h Q :=
 bareAt_of hN hv (Gr.refl _) sm hq

theorem Small.bare {n : Nat} {t : Nd} (s : Small n t) : Small n (bareN t) := by
 induction s with
 | mk kind text num pos typ ref kids h1 h2 ih =>
  unfold bareN
  refine .mk _ _ _ _ _ _ _ (by rw [List.length_map]; exact h1) fun j t ht => ?_
  rw [List.getElem?_map] at ht
  cases hk : kids[j]? with
  | none => rw [hk] at ht; cases ht
  | some u => rw [hk] at ht; cases ht; exact ih j u hk

end Go.Proofs.ZL
