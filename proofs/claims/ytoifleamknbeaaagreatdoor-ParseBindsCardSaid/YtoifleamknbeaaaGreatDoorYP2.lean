/- The parser, second part: expressions. -/
import Derived.Test.YtoifleamknbeaaaGreatDoorYP1
section
open Go Go.Am
namespace Go.Proofs.ZL
set_option maxRecDepth 100000
set_option linter.unusedSimpArgs false
set_option linter.unusedVariables false
set_option maxHeartbeats 4000000

theorem R.then_id {α : Type} (r : R α) : (r.then fun a s => R.ok a s) = r := by cases r <;> rfl

theorem PSt.self {h : Heap} {p : Nat} {L : List Tok} {hd : Bool} {s : St} {j : Nat} (ps : PSt h p L hd s) (ho : h.obj p = some (.cells false [.slice (some ⟨j, 0, none⟩) L.length 4, .int .i64 s.k, .bool hd, .bool s.bare])) (hd' : Bool) (s' : St) (hk : s'.k < L.length) :
  PSt (h.put p (some (.cells false [.slice (some ⟨j, 0, none⟩) L.length 4, .int .i64 s'.k, .bool hd', .bool s'.bare]))) p L hd' s' :=
 ps.set hd' s' (Nat.le_refl _) (fun i hi => obj_else (by omega) rfl) hk fun j' hj' => by
  have e := ho.symm.trans hj'
  cases e
  exact obj_put

theorem within_w {fid : FuncId} {first cap : Array Value} {p : Nat} {L : List Tok} {hd hd' : Bool} {s : St} {h : Heap} {Q : ARes → Prop} {spec : R Nd} (ps : PSt h p L hd s) (en : ∀ vs, enterA Tryz.prog fid vs = some (.enter fid vs))
  (hcall : ∀ {h1 : Heap} {Q1 : ARes → Prop}, PSt h1 p L hd' s → Fr1 p h h1 → EndN (VN (fun j => h1.next ≤ j)) p L hd' h1 Q1 spec → WCall Tryz.prog G X fid (first.toList ++ cap.toList) h1 Q1)
  (hq : EndN (VN (fun j => h.next ≤ j)) p L hd h Q spec) :
  WCall Tryz.prog G X 87 [pV p, .bool hd', .func (.func fid) first cap] h Q := by
 have hp := ps.lt
 rw [← R.then_id spec] at hq
 obtain ⟨j, hj, ho, hl⟩ := ps.tok
 refine WCall.walk hX Tryz.func87 rfl rfl Tryz.ntmps87 rfl ?_
 refine QN hX ?_;refine QK (Qw ?_);refine QO hX ?_;refine QK (Qa ?_);refine QK (Qi ?_);refine QK (Qj ?_);refine QK (Qt ?_);refine QK (Qb ?_);refine QO hX ?_;refine QK (Qa ?_);refine QK (Qa ?_);refine QK (Qi ?_);refine QK (Qj ?_);refine QK (Qv ?_);refine QO hX ?_;refine QK (Qa ?_);refine QK ?_
 apply WS.callV (ws := first.toList ++ cap.toList); (· rfl); (· rfl); (· exact Wwev); (· rfl); (· simp); (· exact en)
 refine hcall ((ps.alloc _).self (j := j) Wwobj hd' s ps.at_) ((Fr1.refl p h).alloc _).self (EndN.use ((Fr1.refl p h).alloc _).self hq (fun _ _ x => x) fun t2 s2 h2 v2 ps2 fr2 hv2 hq2 => ?_)
 obtain ⟨b2, n2, es2, rfl, kv2⟩ := hv2
 have hn2 := fr2.1
 simp only [UB, UC] at hn2 kv2
 obtain ⟨j2, hj2, ho2, hl2⟩ := ps2.tok
 refine QK (Qw ?_);refine QK (Qv ?_);refine QO hX ?_;refine QK (Qa ?_);refine QK (Qa ?_);refine QK (Qi ?_);refine QK (Qj ?_);refine QK (Qv ?_);refine QO hX ?_;refine QK (Qu ?_);refine QK (Qv ?_);refine QM ?_
 refine ⟨_, Wwres, ?_⟩
 refine hq2 _ _ ?_ ?_ ⟨_, _, _, rfl, kv2.mono Wwne (fun j hS hj => by (try simp only [UB, UC] at hS); exact ⟨Wwne, Wwag⟩)⟩
 ·refine PSt.put ?_ Wwne
  exact ((ps2.alloc _).put (by omega)).self (s := s2) (j := j2) Wwobj hd s2 ps2.at_
 ·refine Fr1.put (Fr1.self (Fr1.put (Fr1.alloc ?_ _) (by omega))) (Nat.le_refl _)
  exact (((Fr1.refl p h).alloc _).self).trans fr2

theorem within_g {fid : FuncId} {first cap : Array Value} {p lo hi x : Nat} {L : List Tok} {hd hd' : Bool} {s : St} {h : Heap} {Q : ARes → Prop} {spec : R Nd} (ps : PSt h p L hd s) (hlo : p < lo) (hhi : hi ≤ h.next) (hxn : x < h.next) (en : ∀ vs, enterA Tryz.prog fid vs = some (.enter fid vs))
  (hcall : ∀ {h1 : Heap} {Q1 : ARes → Prop}, PSt h1 p L hd' s → Fr1 p h h1 → EndN (VN (fun j => lo ≤ j ∧ j ≠ x ∧ (j < hi ∨ h1.next ≤ j))) p L hd' h1 Q1 spec → WCall Tryz.prog G X fid (first.toList ++ cap.toList) h1 Q1)
  (hq : EndN (VN (fun j => lo ≤ j ∧ j ≠ x ∧ (j < hi ∨ h.next ≤ j))) p L hd h Q spec) :
  WCall Tryz.prog G X 87 [pV p, .bool hd', .func (.func fid) first cap] h Q := by
 have hp := ps.lt
 rw [← R.then_id spec] at hq
 obtain ⟨j, hj, ho, hl⟩ := ps.tok
 refine WCall.walk hX Tryz.func87 rfl rfl Tryz.ntmps87 rfl ?_
 refine QN hX ?_;refine QK (Qw ?_);refine QO hX ?_;refine QK (Qa ?_);refine QK (Qi ?_);refine QK (Qj ?_);refine QK (Qt ?_);refine QK (Qb ?_);refine QO hX ?_;refine QK (Qa ?_);refine QK (Qa ?_);refine QK (Qi ?_);refine QK (Qj ?_);refine QK (Qv ?_);refine QO hX ?_;refine QK (Qa ?_);refine QK ?_
 apply WS.callV (ws := first.toList ++ cap.toList); (· rfl); (· rfl); (· exact Wwev); (· rfl); (· simp); (· exact en)
 refine hcall ((ps.alloc _).self (j := j) Wwobj hd' s ps.at_) ((Fr1.refl p h).alloc _).self (EndN.use ((Fr1.refl p h).alloc _).self hq (fun _ _ x => x) fun t2 s2 h2 v2 ps2 fr2 hv2 hq2 => ?_)
 obtain ⟨b2, n2, es2, rfl, kv2⟩ := hv2
 have hn2 := fr2.1
 simp only [UB, UC] at hn2 kv2
 obtain ⟨j2, hj2, ho2, hl2⟩ := ps2.tok
 refine QK (Qw ?_);refine QK (Qv ?_);refine QO hX ?_;refine QK (Qa ?_);refine QK (Qa ?_);refine QK (Qi ?_);refine QK (Qj ?_);refine QK (Qv ?_);refine QO hX ?_;refine QK (Qu ?_);refine QK (Qv ?_);refine QM ?_
 refine ⟨_, Wwres, ?_⟩
 refine hq2 _ _ ?_ ?_ ⟨_, _, _, rfl, kv2.mono Wwne (fun j hS hj => by (try simp only [UB, UC] at hS); exact ⟨Wwne, Wwag⟩)⟩
 ·refine PSt.put ?_ Wwne
  exact ((ps2.alloc _).put (by omega)).self (s := s2) (j := j2) Wwobj hd s2 ps2.at_
 ·refine Fr1.put (Fr1.self (Fr1.put (Fr1.alloc ?_ _) (by omega))) (Nat.le_refl _)
  exact (((Fr1.refl p h).alloc _).self).trans fr2

theorem expr_w {r : Rec} (c : Ctr r) : CN 119 (r.binary 1) := by
 intro p L hd s h Q ps hq0
 have hp := ps.lt
 rw [← R.then_id (r.binary 1 L hd s)] at hq0
 refine WCall.walk hX Tryz.func119 rfl rfl Tryz.ntmps119 rfl ?_
 refine QN hX ?_;refine QK (Qw ?_);refine QO hX ?_;refine QK (Qa ?_);refine QK ?_
 refine QJ en134 ?_
 refine c.binary (by omega) (by omega) Wwps (EndN.use Wwfr hq0 (fun _ _ x => x) fun t1 s1 h1 v1 ps1 fr1 hv1 hq1 => ?_)
 obtain ⟨b1, n1, es1, rfl, kv1⟩ := hv1
 have hn1 := fr1.1
 simp only [UB, UC] at hn1
 refine QK (Qv ?_);refine QM ?_
 refine ⟨_, Wwres, ?_⟩
 exact hq1 _ _ Wwps Wwfr ⟨_, _, _, rfl, kv1.mono Wwne (fun j hS hj => by (try simp only [UB, UC] at hS); exact ⟨Wwne, Wwag⟩)⟩

theorem unary_w {r : Rec} (c : Ctr r) : CN 143 (unaryF r) := by
 intro p L hd s h Q ps hq0
 have hp := ps.lt
 unfold unaryF at hq0
 refine WCall.walk hX Tryz.func143 rfl rfl Tryz.ntmps143 rfl ?_
 refine QN hX ?_;refine QK (Qw ?_);refine QL ?_;refine QU hX ?_;refine QN hX ?_;refine QK (Qa ?_);refine QK (Qy ?_);refine QK ?_
 refine QJ en71 ?_
 refine is_w (L := L) (hd := hd) (s := s) (ts := [(⟨#[45]⟩ : ByteArray), (⟨#[33]⟩ : ByteArray), (⟨#[60, 45]⟩ : ByteArray)]) Wwps Wwobj Wwne rfl (by first | decide | simp) fun h1 g1 => ?_
 have hn1 := g1.1; (try simp only [UB, UC] at hn1)
 cases hb : isR L s [(⟨#[45]⟩ : ByteArray), (⟨#[33]⟩ : ByteArray), (⟨#[60, 45]⟩ : ByteArray)]
 ·rw [hb, if_neg Bool.false_ne_true, ← R.then_id (r.primary L hd s)] at hq0
  refine QP hX ?_;refine UA ?_;refine QN hX ?_;refine QK (Qa ?_);refine QK ?_
  refine QJ en139 ?_
  refine c.primary Wwps (EndN.use Wwfr hq0 (fun _ _ x => x) fun t2 s2 h2 v2 ps2 fr2 hv2 hq2 => ?_)
  obtain ⟨b2, n2, es2, rfl, kv2⟩ := hv2
  have hn2 := fr2.1; (try simp only [UB, UC] at hn2)
  refine QK (Qv ?_);refine QM ?_
  refine ⟨_, Wwres, ?_⟩
  exact hq2 _ _ Wwps Wwfr ⟨_, _, _, rfl, kv2.mono Wwne (fun j hS hj => by (try simp only [UB, UC] at hS); exact ⟨Wwne, Wwag⟩)⟩
 ·rw [hb, if_pos rfl] at hq0
  refine QQ hX ?_;refine QN hX ?_;refine QK (Qa ?_);refine QK ?_
  refine QJ en72 ?_
  refine take_w (L := L) (hd := hd) (s := s) Wwps (ps.wf.is ps.at_ hb) fun h2 ps2 fr2 => ?_
  have hn2 := fr2.1; (try simp only [UB, UC] at hn2)
  simp only at hq0
  generalize tokAt L s.k = tk at *
  refine QK (Qw ?_);refine QK (Qv ?_);refine QL ?_;refine QU hX ?_;refine WC.drawn (id := 3) hX (l := [⟨0, .read, 0⟩, ⟨1, .pure, 0⟩, ⟨2, .read, 2⟩, ⟨3, .pure, 0⟩, ⟨7, .alloc, 0⟩, ⟨4, .heavy, 8⟩, ⟨5, .alloc, 24⟩, ⟨6, .heavy, 63⟩, ⟨8, .heavy, 255⟩]) (hw := ?_);refine QX (k := Qu ?_);refine QW (k := Qj ?_);refine QX (k := Qt ?_);refine QW (k := Qa ?_);refine WD.alloc (hw := Qw ?_);refine WD.heavy hX (hw := ?_)
  refine QJ en143 ?_
  refine c.unary Wwps (EndN.use Wwfr hq0 (fun _ _ x => x) fun t3 s3 h3 v3 ps3 fr3 hv3 hq3 => ?_)
  obtain ⟨b3, n3, es3, rfl, kv3⟩ := hv3
  have hn3 := fr3.1; (try simp only [UB, UC] at hn3)
  refine WD.alloc (hw := Qz ?_);refine WD.heavy hX (hw := ?_)
  refine QJ en74 ?_
  refine node_w fun h4 g4 => ?_
  have hn4 := g4.1; (try simp only [UB, UC] at hn4)
  obtain ⟨j3, hj3, ho3, hl3⟩ := ps3.tok
  have ho4 : h4.obj p = some (.cells false [.slice (some ⟨j3, 0, none⟩) L.length 4, .int .i64 s3.k, .bool hd, .bool s3.bare]) := g4.at Wwne Wwobj
  refine WD.heavy hX (hw := Qv ?_);refine WD.nil (hq := ?_);refine QN hX ?_;refine QK (Qa ?_);refine QK (Qi ?_);refine QK (Qj ?_);refine QK (Qv ?_);refine QO hX ?_;refine QK (Qu ?_);refine QK (Qv ?_);refine QM ?_
  refine ⟨_, Wwres, ?_⟩
  refine hq3 _ _ ?_ ?_ ⟨_, _, _, rfl, NV.of_kids (KV.one (S := fun j => h.next ≤ j ∧ j < h3.next) Wwne Wwne Wwobj (kv3.mono Wwne (fun j hS hj => by (try simp only [UB, UC] at hS); exact ⟨⟨Wwne, hj⟩, Wwag⟩)) (fun j hS hj => ⟨hS.1, by have := hS.2; exact Wwne⟩)) _ _ _ _ _ _⟩
  ·refine PSt.put ?_ Wwne
   exact PSt.self (hd := hd) (s := s3) (j := j3) Wwps Wwobj hd (s3.with false) ps3.at_
  ·refine Fr1.put (Fr1.self ?_) (Nat.le_refl _)
   exact Wwfr

end Go.Proofs.ZL
end

section
open Go Go.Am
namespace Go.Proofs.ZL
set_option maxRecDepth 100000
set_option linter.unusedSimpArgs false
set_option linter.unusedVariables false
set_option maxHeartbeats 4000000

theorem level_range (t : Tok) : 0 ≤ level t ∧ level t ≤ 5 := by
 unfold level
 repeat' split
 all_goals omega

theorem level_w {t : Tok} {h : Heap} {Q : ARes → Prop} (hq : ∀ h', Gr h h' → Q (.ret (.int .i64 (level t)) h')) : WCall Tryz.prog G X 145 [.agg t.cells.toArray] h Q := by
 refine WCall.walk hX Tryz.func145 rfl rfl Tryz.ntmps145 rfl ?_
 refine QN hX ?_;refine QK (Qx ?_);refine QK (Qb ?_);refine QL ?_;refine QU hX ?_;refine QN hX ?_;refine QK (Qj ?_);refine QK (Qt ?_);refine QK (QE ?_ ?_);intro hh;refine QQ hX ?_;refine QN hX ?_;refine QK (Qb ?_);refine QM ?_;rotate_left;intro hh;refine QP hX ?_;refine UA ?_;refine QU hX ?_;refine QN hX ?_;refine QK (Qj ?_);refine QK (Qt ?_);refine QL ?_;refine WC.block hX ?_;refine QN hX ?_;refine QK (QB ?_ ?_);intro hh;refine QK (Qb ?_);refine QQ hX ?_;refine QN hX ?_;refine QK (Qb ?_);refine QM ?_;rotate_left;intro hh;refine QK (Qb ?_);refine QP hX ?_;refine QN hX ?_;refine QK (QB ?_ ?_);intro hh;refine QK (Qb ?_);refine QQ hX ?_;refine QN hX ?_;refine QK (Qb ?_);refine QM ?_;rotate_left;intro hh;refine QK (Qb ?_);refine QP hX ?_;refine QU hX ?_;refine QN hX ?_;refine QK (QB ?_ ?_);intro hh;refine QK (Qb ?_);refine QQ hX ?_;refine UA ?_;refine QR hX ?_;refine QN hX ?_;refine QK (Qb ?_);refine QM ?_;rotate_left;intro hh;refine QK (Qb ?_);refine QP hX ?_;refine QN hX ?_;refine QK (QB ?_ ?_);intro hh;refine QK (Qb ?_);refine QQ hX ?_;refine UA ?_;refine QR hX ?_;refine QN hX ?_;refine QK (Qb ?_);refine QM ?_;rotate_left;intro hh;refine QK (Qb ?_);refine QP hX ?_;refine QN hX ?_;refine QK (QB ?_ ?_);intro hh;refine QK (Qb ?_);refine QQ hX ?_;refine UA ?_;refine QR hX ?_;refine QN hX ?_;refine QK (Qb ?_);refine QM ?_;rotate_left;intro hh;refine QK (Qb ?_);refine QP hX ?_;refine QN hX ?_;refine QK (QB ?_ ?_);intro hh;refine QK (Qb ?_);refine QQ hX ?_;refine UA ?_;refine QR hX ?_;refine QN hX ?_;refine QK (Qb ?_);refine QM ?_;rotate_left;intro hh;refine QK (Qb ?_);refine QP hX ?_;refine QN hX ?_;refine QK (QB ?_ ?_);intro hh;refine QK (Qb ?_);refine QQ hX ?_;refine UA ?_;refine QR hX ?_;refine QN hX ?_;refine QK (Qb ?_);refine QM ?_;rotate_left;intro hh;refine QK (Qb ?_);refine QP hX ?_;refine QV hX ?_;refine QK (QB ?_ ?_);intro hh;refine QK (Qb ?_);refine QQ hX ?_;refine QN hX ?_;refine QK (Qb ?_);refine QM ?_;rotate_left;intro hh;refine QK (Qb ?_);refine QP hX ?_;refine QU hX ?_;refine QN hX ?_;refine QK (QB ?_ ?_);intro hh;refine QK (Qb ?_);refine QQ hX ?_;refine UA ?_;refine QR hX ?_;refine QN hX ?_;refine QK (Qb ?_);refine QM ?_;rotate_left;intro hh;refine QK (Qb ?_);refine QP hX ?_;refine QV hX ?_;refine QK (QB ?_ ?_);intro hh;refine QK (Qb ?_);refine QQ hX ?_;refine QN hX ?_;refine QK (Qb ?_);refine QM ?_;rotate_left;intro hh;refine QK (Qb ?_);refine QP hX ?_;refine QU hX ?_;refine QN hX ?_;refine QK (QB ?_ ?_);intro hh;refine QK (Qb ?_);refine QQ hX ?_;refine UA ?_;refine QR hX ?_;refine QN hX ?_;refine QK (Qb ?_);refine QM ?_;rotate_left;intro hh;refine QK (Qb ?_);refine QP hX ?_;refine QN hX ?_;refine QK (QB ?_ ?_);intro hh;refine QK (Qb ?_);refine QQ hX ?_;refine UA ?_;refine QR hX ?_;refine QN hX ?_;refine QK (Qb ?_);refine QM ?_;rotate_left;intro hh;refine QK (Qb ?_);refine QP hX ?_;refine QV hX ?_;refine QK (QB ?_ ?_);intro hh;refine QK (Qb ?_);refine QQ hX ?_;refine QN hX ?_;refine QK (Qb ?_);refine QM ?_;rotate_left;intro hh;refine QK (Qb ?_);refine QP hX ?_;refine UA ?_;refine QN hX ?_;refine QK (Qb ?_);refine QM ?_;rotate_left
 all_goals (refine ⟨_, rfl, ?_⟩; have hx := hq (h.alloc (.cells false t.cells)) (Gr.alloc _ _); unfold level at hx; simp [inS, *] at hx; exact hx)

theorem binary_w {r : Rec} {n : Nat} (hn : n ≤ 1000000) (c : Ctr r) {least : Int} (h0 : 0 ≤ least) (h6 : least ≤ 6) {p : Nat} {L : List Tok} {hd : Bool} {s : St} {h : Heap} {Q : ARes → Prop} (ps : PSt h p L hd s)
  (hq0 : EndN (VN (fun j => h.next ≤ j)) p L hd h Q (binaryF n r least L hd s)) : WCall Tryz.prog G X 134 [pV p, .int .i64 least] h Q := by
 have hp := ps.lt
 unfold binaryF at hq0
 refine WCall.walk hX Tryz.func134 rfl rfl Tryz.ntmps134 rfl ?_
 refine QN hX ?_;refine QK (Qw ?_);refine QO hX ?_;refine QK (Qa ?_);refine QK ?_
 refine QJ en143 ?_
 refine c.unary Wwps (EndN.use Wwfr hq0 (fun _ _ x => x) fun t1 s1 h1 v1 ps1 fr1 hv1 hq1 => ?_)
 obtain ⟨b1, n1, es1, rfl, kv1⟩ := hv1
 have hn1 := fr1.1; (try simp only [UB, UC] at hn1)
 rw [← R.then_id (binaryGo r least L hd n t1 s1)] at hq1
 refine QK (Qw ?_);refine QK (Qv ?_);refine QL ?_;refine WC.block hX ?_
 refine WC.loopInv hX (α := Nat × Nd × St) (m := fun a => a.1) (Inv := fun a e h' => e 0 = some (pV p) ∧ e 1 = some (.int .i64 least) ∧ e 4 = some (.pointer (some ⟨h.next, 0, none⟩)) ∧ e 5 = some (.pointer (some ⟨h1.next, 0, none⟩)) ∧ PSt h' p L hd a.2.2 ∧ Fr1 p h h' ∧
  h'.obj h.next = some (.cells false [.int .i64 0, .string .empty, .int .i64 0, .int .i64 0, .string .empty, .int .i64 0, .slice none 0 0]) ∧ h1.next < h'.next ∧ (∃ b n es, h'.obj h1.next = some (.cells false (ncells a.2.1 b n es)) ∧ NV h' (fun j => h.next < j ∧ j ≠ h1.next) (ncells a.2.1 b n es) a.2.1) ∧
  EndN (VN fun j => h.next ≤ j) p L hd h Q ((binaryGo r least L hd a.1 a.2.1 a.2.2).then fun a s => .ok a s))
  (n, t1, s1) ⟨rfl, rfl, rfl, rfl, Wwps, Wwfr, Wwobj, Wwne, ⟨b1, n1, es1, Wwobj, kv1.mono Wwne (fun j hS hj => by (try simp only [UB, UC] at hS); exact ⟨Wwne, Wwag⟩)⟩, hq1⟩ ?_
 rintro ⟨m, left, s5⟩ env h5 ih ⟨e0, e1, e4, e5, ps5, fr5, ho5, hn5, ⟨b5, n5, es5, hk5, kv5⟩, hq5⟩
 simp only at ps5 hk5 kv5 hq5
 have hnn5 := fr5.1
 obtain ⟨m, rfl⟩ : ∃ m', m = m' + 1 := by
  cases m with
  | zero => exact hq5.elim
  | succ m => exact ⟨m, rfl⟩
 unfold binaryGo at hq5
 refine WC.block hX ?_;refine QN hX ?_;refine QK (Qa ?_);refine QK ?_
 refine QJ en51 ?_
 refine peek_w (L := L) (hd := hd) (s := s5) Wwps fun h6' g6 => ?_
 have hn6 := g6.1
 simp only at hq5
 have hlr := level_range (tokAt L s5.k)
 have hm5 : level (tokAt L s5.k) ≠ 0 → s5.k + 1 < L.length := fun hl => ps5.wf.more ps5.at_ (by intro e; apply hl; unfold level; rw [if_pos (by omega)])
 generalize hlv : level (tokAt L s5.k) = lv at *
 generalize htk : tokAt L s5.k = tk at *
 refine QK (Qw ?_);refine QK (Qv ?_);refine QO hX ?_;refine QK (Qu ?_);refine QK ?_
 refine QJ en145 ?_
 refine level_w fun h7 g7 => ?_
 have hn7 := g7.1
 simp only [UB, UC] at hn7
 rw [hlv]
 refine QK (Qb ?_);refine QL ?_;refine QU hX ?_;refine QN hX ?_;refine QK (Qa ?_);refine QK (Qa ?_);refine QK (QF ?_ ?_);intro hh;refine QK (Qa ?_);refine QK (QA ?_);refine QK (QA ?_);refine QK (Qc ?_);refine QQ hX ?_;refine QN hX ?_;refine QK (Qu ?_);refine QK (Qv ?_);refine QM ?_;rotate_left;intro hh;refine QK (Qa ?_);refine QK (Qa ?_);refine QK (QD ?_ ?_);intro hh;refine QK (Qd ?_);refine QQ hX ?_;refine QN hX ?_;refine QK (Qu ?_);refine QK (Qv ?_);refine QM ?_;rotate_left;intro hh;refine QK (Qd ?_);refine QP hX ?_;refine UA ?_;refine QN hX ?_;refine QK (Qa ?_);refine QK ?_;rotate_left
 ·rw [if_pos (.inl hh), R.then_ok] at hq5
  refine ⟨_, Wwres, ?_⟩
  exact hq5 _ _ Wwps Wwfr ⟨_, _, _, rfl, kv5.mono Wwne (fun j hS hj => by (try simp only [UB, UC] at hS); exact ⟨Wwne, Wwag⟩)⟩
 ·rw [if_pos (.inr hh), R.then_ok] at hq5
  refine ⟨_, Wwres, ?_⟩
  exact hq5 _ _ Wwps Wwfr ⟨_, _, _, rfl, kv5.mono Wwne (fun j hS hj => by (try simp only [UB, UC] at hS); exact ⟨Wwne, Wwag⟩)⟩
 ·rw [if_neg (by omega), R.then_assoc] at hq5
  refine QJ en72 ?_
  refine take_w (L := L) (hd := hd) (s := s5) Wwps (hm5 hh) fun h8 ps8 fr8 => ?_
  have hn8 := fr8.1; (try simp only [UB, UC] at hn8)
  simp only [htk]
  refine QL ?_;refine QU hX ?_;refine WC.drawn (id := 7) hX (l := [⟨0, .read, 0⟩, ⟨1, .pure, 0⟩, ⟨2, .read, 2⟩, ⟨3, .read, 0⟩, ⟨4, .pure, 0⟩, ⟨5, .pure, 0⟩, ⟨6, .pure, 32⟩, ⟨7, .heavy, 112⟩, ⟨8, .alloc, 248⟩, ⟨9, .heavy, 511⟩, ⟨10, .heavy, 1023⟩]) (hw := ?_);refine QX (k := Qu ?_);refine QW (k := Qj ?_);refine QX (k := Qt ?_);refine QX (k := Qu ?_);refine QW (k := Qa ?_);refine QW (k := Qa ?_);refine QW (k := Qf ?_);refine WD.heavy hX (hw := ?_)
  refine QJ en134 ?_
  refine c.binary (by omega) (by omega) Wwps (EndN.use Wwfr hq5 (fun _ _ x => x) fun t9 s9 h9 v9 ps9 fr9 hv9 hq9 => ?_)
  obtain ⟨b9, n9, es9, rfl, kv9⟩ := hv9
  have hn9 := fr9.1
  (try simp only [UB, UC] at hn9)
  refine WD.alloc (hw := Qz ?_);refine WD.heavy hX (hw := ?_)
  refine QJ en74 ?_
  refine node_w fun h10 g10 => ?_
  have hn10 := g10.1; (try simp only [UB, UC] at hn10)
  obtain ⟨j9, hj9, ho9, hl9⟩ := ps9.tok
  have ho10 : h10.obj p = some (.cells false [.slice (some ⟨j9, 0, none⟩) L.length 4, .int .i64 s9.k, .bool hd, .bool s9.bare]) := g10.at Wwne Wwobj
  refine WD.heavy hX (hw := Qv ?_);refine WD.nil (hq := ?_);refine QV hX ?_;refine QK (Qa ?_);refine QK (Qi ?_);refine QK (Qj ?_);refine QK (Qv ?_);refine QL ?_
  refine ih (m, nd 42 tk tk.text [left, t9], s9.with false) _ _ (by simp) ⟨e0, e1, e4, e5, ?_, Wwfr, Wwobj, Wwne, ⟨_, _, _, Wwobj, NV.of_kids (KV.two (i := h9.next) (S := fun j => h.next < j ∧ j ≠ h1.next ∧ j < h9.next) Wwne Wwne Wwobj (kv5.mono Wwne (fun j hS hj => by (try simp only [UB, UC] at hS); exact ⟨⟨Wwne, Wwne, Wwne⟩, Wwag⟩)) (kv9.mono Wwne (fun j hS hj => by (try simp only [UB, UC] at hS); exact ⟨⟨Wwne, Wwne, Wwne⟩, Wwag⟩)) (fun j hS hj => by have a1 := hS.1; have a2 := hS.2.1; have a3 := hS.2.2; exact ⟨⟨a1, a2⟩, by omega⟩)) _ _ _ _ _ _⟩, hq9⟩
  exact PSt.self (hd := hd) (s := s9) (j := j9) Wwps Wwobj hd (s9.with false) ps9.at_

end Go.Proofs.ZL
end

section
open Go Go.Am
namespace Go.Proofs.ZL
set_option maxRecDepth 100000
set_option linter.unusedSimpArgs false
set_option linter.unusedVariables false
set_option maxHeartbeats 4000000


theorem exprs_w {r : Rec} {n : Nat} (hn : n ≤ 1000000) (c : Ctr r) {e : ByteArray} {p : Nat} {L : List Tok} {hd : Bool} {s : St} {h : Heap} {Q : ARes → Prop} (ps : PSt h p L hd s)
  (hq0 : EndN (VK (fun j => h.next ≤ j)) p L hd h Q (exprsF n r e L hd s)) : WCall Tryz.prog G X 151 [pV p, .string e] h Q := by
 have hp := ps.lt
 unfold exprsF at hq0
 refine WCall.walk hX Tryz.func151 rfl rfl Tryz.ntmps151 rfl ?_
 refine QN hX ?_;refine QK (Qb ?_);refine QO hX ?_;refine QK (Qb ?_);refine QL ?_;refine QU hX ?_;refine WC.block hX ?_
 refine WC.loopInv hX (α := Nat × List Nd × St) (m := fun a => a.1) (Inv := fun a v h' => v 0 = some (pV p) ∧ v 1 = some (.string e) ∧ PSt h' p L hd a.2.2 ∧ Fr1 p h h' ∧
  a.1 + a.2.1.length ≤ n ∧ (∃ b n es, v 5 = some (.slice b n es) ∧ KV h' (fun j => h.next ≤ j) b n es a.2.1) ∧
  EndN (VK (fun j => h.next ≤ j)) p L hd h Q ((untilR L [e] (fun out s => (sepR L s out.isEmpty).then fun _ s => (r.expr L hd s).then fun x s => .ok (out ++ [x]) s) a.1 a.2.1 a.2.2).then fun out s => .ok out s.next))
  (n, [], s) ⟨rfl, rfl, ps, Fr1.refl _ _, by simp, ⟨none, 0, 0, rfl, KV.nil _ _⟩, hq0⟩ ?_
 rintro ⟨m, kids, s5⟩ env h5 ih ⟨e0, e1, ps5, fr5, hm5, ⟨b5, n5, es5, e5, kv5⟩, hq5⟩
 simp only at ps5 hm5 kv5 hq5
 have hnn5 := fr5.1
 obtain ⟨m, rfl⟩ : ∃ m', m = m' + 1 := by
  cases m with
  | zero => exact hq5.elim
  | succ m => exact ⟨m, rfl⟩
 unfold untilR at hq5
 have hl5 := kv5.len
 refine QU hX ?_;refine QN hX ?_;refine QK (Qa ?_);refine QK (Qa ?_);refine QK (Qy ?_);refine QK ?_
 refine QJ en71 ?_
 refine is_w (L := L) (hd := hd) (s := s5) (ts := [e]) Wwps Wwobj Wwne rfl (by first | decide | simp) fun h6 g6 => ?_
 have hn6 := g6.1; (try simp only [UB, UC] at hn6)
 cases hb6 : isR L s5 [e]
 ·rw [hb6, if_neg Bool.false_ne_true] at hq5
  simp only [R.then_assoc] at hq5
  unfold sepR at hq5
  refine QK (Qe ?_);refine QQ hX ?_;refine UA ?_;refine WC.block hX ?_;refine QU hX ?_;refine QN hX ?_;refine QK (Qa ?_);refine QK (Qs ?_);refine QK (QH ?_ ?_);intro hh;refine QQ hX ?_;refine QV hX ?_;refine QK (Qa ?_);refine QK ?_;rotate_left;intro hh;refine QP hX ?_;refine UA ?_;refine QV hX ?_;refine QK (Qa ?_);refine QK (Qa ?_);refine QK ?_;rotate_left
  ·have he : kids.isEmpty = false := by
    cases kids with
    | nil => simp at hl5; omega
    | cons a l => rfl
   rw [he, if_neg Bool.false_ne_true, R.then_assoc] at hq5
   refine QJ en53 ?_
   refine want_w (hd := hd) Wwps (EndN.use Wwfr hq5 (fun _ _ x => x) fun tk7 s7 h7 v7 ps7 fr7 hv7 hq7 => ?_)
   subst hv7
   have hn7 := fr7.1; (try simp only [UB, UC] at hn7)
   (try simp only [R.then_ok] at hq7)
   refine QL ?_;refine QV hX ?_;refine QK (Qa ?_);refine QK (Qa ?_);refine QK ?_
   refine QJ en119 ?_
   refine c.expr Wwps (EndN.use Wwfr hq7 (fun _ _ x => x) fun t8 s8 h8 v8 ps8 fr8 hv8 hq8 => ?_)
   obtain ⟨b8, n8, es8, rfl, kv8⟩ := hv8
   have hn8 := fr8.1; (try simp only [UB, UC] at hn8)
   (try simp only [R.then_ok] at hq8)
   refine QK (Qz ?_);refine QK ?_
   have kvH := kv5.mono (S' := fun j => (h.next - 1) < j) (h' := (h8).alloc (.cells false (ncells t8 b8 n8 es8))) Wwne (fun j hS hj => ⟨Wwne, Wwag⟩)
   have hbne := kvH.ne
   obtain ⟨old, hsa, hol, hold⟩ := kvH.sliceAt
   have hol2 : kids.length ≤ 1000000 := by omega
   apply WS.append
   (· rfl); (· rfl); (· exact Wwev); (· exact Wwev); (· rfl); (· rfl); (· intro k hk; cases hk); (· exact fits_at rfl); (· decide); (· exact Wwobj); (· exact Wwlen); (· rfl); (· unfold room; omega); (· rfl); (· exact hsa)
   intro h9 hn9 ho9 hf9
   simp only [UB, UC] at hn9 ho9 hf9
   have hk9 : ∀ j, j ≤ (h.next - 1) → h9.obj j = ((h8).alloc (.cells false (ncells t8 b8 n8 es8))).obj j := fun j hj => hf9 j (by omega) (hbne j hj)
   have fr9 : Fr1 p h h9 := Fr1.keep (H := (h8).alloc (.cells false (ncells t8 b8 n8 es8))) Wwfr Wwne fun j hj => hk9 j (by omega)
   have kv9 : KV h9 (fun j => (h.next - 1) < j) (some ⟨(h8).next + 1, 0, none⟩) (n5 + 1) 7 (kids ++ [t8]) := KV.snoc (h := (h8).alloc (.cells false (ncells t8 b8 n8 es8))) (S2 := fun j => h5.next ≤ j ∧ j < (h8).next) hol (by omega) hold (kv8.mono Wwne (fun j hS hj => by (try simp only [UB, UC] at hS); exact ⟨⟨Wwne, Wwne⟩, Wwag⟩)) Wwne ho9 hf9 Wwne (fun x hx _ => by omega) (fun x hx hlt => ⟨by have := hx.1; omega, kv5.ge x hx.1⟩)
   have ps9 : PSt h9 p L hd s8 := PSt.keep (h := h8.alloc (.cells false (ncells t8 b8 n8 es8))) Wwps Wwne fun j hj => hk9 j (by omega)
   refine QK (Qb ?_);refine QL ?_
   exact ih (m, kids ++ [t8], s8) _ _ (by simp) ⟨e0, e1, ps9, fr9, by simp; omega, ⟨_, _, _, rfl, kv9.mono Wwne (fun j hS hj => by (try simp only [UB, UC] at hS); exact ⟨Wwne, Wwag⟩)⟩, hq8⟩
  ·have he : kids.isEmpty = true := by
    cases kids with
    | nil => rfl
    | cons a l => simp at hl5; omega
   rw [he, if_pos rfl, R.then_ok] at hq5
   skip
   refine QJ en119 ?_
   refine c.expr Wwps (EndN.use Wwfr hq5 (fun _ _ x => x) fun t8 s8 h8 v8 ps8 fr8 hv8 hq8 => ?_)
   obtain ⟨b8, n8, es8, rfl, kv8⟩ := hv8
   have hn8 := fr8.1; (try simp only [UB, UC] at hn8)
   (try simp only [R.then_ok] at hq8)
   refine QK (Qz ?_);refine QK ?_
   have kvH := kv5.mono (S' := fun j => (h.next - 1) < j) (h' := (h8).alloc (.cells false (ncells t8 b8 n8 es8))) Wwne (fun j hS hj => ⟨Wwne, Wwag⟩)
   have hbne := kvH.ne
   obtain ⟨old, hsa, hol, hold⟩ := kvH.sliceAt
   have hol2 : kids.length ≤ 1000000 := by omega
   apply WS.append
   (· rfl); (· rfl); (· exact Wwev); (· exact Wwev); (· rfl); (· rfl); (· intro k hk; cases hk); (· exact fits_at rfl); (· decide); (· exact Wwobj); (· exact Wwlen); (· rfl); (· unfold room; omega); (· rfl); (· exact hsa)
   intro h9 hn9 ho9 hf9
   simp only [UB, UC] at hn9 ho9 hf9
   have hk9 : ∀ j, j ≤ (h.next - 1) → h9.obj j = ((h8).alloc (.cells false (ncells t8 b8 n8 es8))).obj j := fun j hj => hf9 j (by omega) (hbne j hj)
   have fr9 : Fr1 p h h9 := Fr1.keep (H := (h8).alloc (.cells false (ncells t8 b8 n8 es8))) Wwfr Wwne fun j hj => hk9 j (by omega)
   have kv9 : KV h9 (fun j => (h.next - 1) < j) (some ⟨(h8).next + 1, 0, none⟩) (n5 + 1) 7 (kids ++ [t8]) := KV.snoc (h := (h8).alloc (.cells false (ncells t8 b8 n8 es8))) (S2 := fun j => h5.next ≤ j ∧ j < (h8).next) hol (by omega) hold (kv8.mono Wwne (fun j hS hj => by (try simp only [UB, UC] at hS); exact ⟨⟨Wwne, Wwne⟩, Wwag⟩)) Wwne ho9 hf9 Wwne (fun x hx _ => by omega) (fun x hx hlt => ⟨by have := hx.1; omega, kv5.ge x hx.1⟩)
   have ps9 : PSt h9 p L hd s8 := PSt.keep (h := h8.alloc (.cells false (ncells t8 b8 n8 es8))) Wwps Wwne fun j hj => hk9 j (by omega)
   refine QK (Qb ?_);refine QL ?_
   exact ih (m, kids ++ [t8], s8) _ _ (by simp) ⟨e0, e1, ps9, fr9, by simp; omega, ⟨_, _, _, rfl, kv9.mono Wwne (fun j hS hj => by (try simp only [UB, UC] at hS); exact ⟨Wwne, Wwag⟩)⟩, hq8⟩
 ·rw [hb6, if_pos rfl, R.then_ok] at hq5
  refine QK (Qe ?_);refine QP hX ?_;refine WC.exit ?_;refine exit_here ?_;refine QN hX ?_;refine QK (Qa ?_);refine QK ?_
  refine QJ en72 ?_
  refine take_w (L := L) (hd := hd) (s := s5) Wwps (ps5.wf.is ps5.at_ hb6) fun h7 ps7 fr7 => ?_
  have hn7 := fr7.1; (try simp only [UB, UC] at hn7)
  refine QO hX ?_;refine QK (Qa ?_);refine QK (Qb ?_);refine QM ?_
  refine ⟨_, Wwres, ?_⟩
  exact hq5 _ _ Wwps Wwfr ⟨_, _, _, rfl, kv5.mono Wwne (fun j hS hj => by (try simp only [UB, UC] at hS); exact ⟨Wwne, Wwag⟩)⟩

theorem withinK_w {fid : FuncId} {first cap : Array Value} {p : Nat} {L : List Tok} {hd hd' : Bool} {s : St} {h : Heap} {Q : ARes → Prop} {spec : R (List Nd)} (ps : PSt h p L hd s) (en : ∀ vs, enterA Tryz.prog fid vs = some (.enter fid vs))
  (hcall : ∀ {h1 : Heap} {Q1 : ARes → Prop}, PSt h1 p L hd' s → Fr1 p h h1 → EndN (VK (fun j => h1.next ≤ j)) p L hd' h1 Q1 spec → WCall Tryz.prog G X fid (first.toList ++ cap.toList) h1 Q1)
  (hq : EndN (VK (fun j => h.next ≤ j)) p L hd h Q spec) :
  WCall Tryz.prog G X 149 [pV p, .bool hd', .func (.func fid) first cap] h Q := by
 have hp := ps.lt
 rw [← R.then_id spec] at hq
 obtain ⟨j, hj, ho, hl⟩ := ps.tok
 refine WCall.walk hX Tryz.func149 rfl rfl Tryz.ntmps149 rfl ?_
 refine QN hX ?_;refine QK (Qb ?_);refine QO hX ?_;refine QK (Qa ?_);refine QK (Qi ?_);refine QK (Qj ?_);refine QK (Qt ?_);refine QK (Qb ?_);refine QO hX ?_;refine QK (Qa ?_);refine QK (Qa ?_);refine QK (Qi ?_);refine QK (Qj ?_);refine QK (Qv ?_);refine QO hX ?_;refine QK (Qa ?_);refine QK ?_
 apply WS.callV (ws := first.toList ++ cap.toList); (· rfl); (· rfl); (· exact Wwev); (· rfl); (· simp); (· exact en)
 refine hcall (ps.self (j := j) Wwobj hd' s ps.at_) (Fr1.refl p h).self (EndN.use (Fr1.refl p h).self hq (fun _ _ x => x) fun t2 s2 h2 v2 ps2 fr2 hv2 hq2 => ?_)
 obtain ⟨b2, n2, es2, rfl, kv2⟩ := hv2
 have hn2 := fr2.1
 simp only [Heap.put_next] at hn2 kv2
 obtain ⟨j2, hj2, ho2, hl2⟩ := ps2.tok
 refine QK (Qb ?_);refine QO hX ?_;refine QK (Qa ?_);refine QK (Qa ?_);refine QK (Qi ?_);refine QK (Qj ?_);refine QK (Qv ?_);refine QO hX ?_;refine QK (Qa ?_);refine QK (Qb ?_);refine QM ?_
 refine ⟨_, Wwres, ?_⟩
 refine hq2 _ _ ?_ ?_ ⟨_, _, _, rfl, kv2.mono Wwne (fun j hS hj => by (try simp only [UB, UC] at hS); exact ⟨Wwne, Wwag⟩)⟩
 ·exact ps2.self (s := s2) (j := j2) Wwobj hd s2 ps2.at_
 ·exact Fr1.self ((Fr1.refl p h).self.trans fr2)

end Go.Proofs.ZL
end

section
open Go Go.Am
namespace Go.Proofs.ZL
set_option maxRecDepth 100000
set_option linter.unusedSimpArgs false
set_option linter.unusedVariables false
set_option maxHeartbeats 1000000

theorem KV.of3 {h : Heap} {S S' : Nat → Prop} {i : Nat} {cells : List Value} {t t2 t3 : Nd} {b b2 b3 : Option Addr} {n es n2 es2 n3 es3 : Nat} (ho : h.obj i = some (.cells false cells)) (hc : cells = ncells t b n es ++ ncells t2 b2 n2 es2 ++ ncells t3 b3 n3 es3) (hi : S' i) (hlt : i < h.next) (hv : NV h S (ncells t b n es) t) (hv2 : NV h S (ncells t2 b2 n2 es2) t2) (hv3 : NV h S (ncells t3 b3 n3 es3) t3)
  (hS : ∀ j, S j → j < h.next → S' j ∧ j ≠ i) : KV h S' (some ⟨i, 0, none⟩) 3 7 [t, t2, t3] := KV.three hi hlt (by rw [ho, hc]) hv hv2 hv3 hS
theorem NV.none (h : Heap) (S : Nat → Prop) : NV h S (ncells noneN none 0 0) noneN := .leaf _ _ _ _ _ _


theorem pindex_w {r : Rec} (c : Ctr r) {t : Tok} {tn : Nd} {bn : Option Addr} {nn esn lo hi x : Nat} {p : Nat} {L : List Tok} {hd : Bool} {s : St} {h : Heap} {Q : ARes → Prop} (ps : PSt h p L hd s) (hlo : lo ≤ h.next) (hxn : x < h.next) (hpl : p < lo) (kvn : NV h (fun j => lo ≤ j ∧ j ≠ x ∧ j < hi) (ncells tn bn nn esn) tn)
  (hq0 : EndN (VN (fun j => lo ≤ j ∧ j ≠ x ∧ (j < hi ∨ h.next ≤ j))) p L hd h Q (indexF r t tn L hd s)) : WCall Tryz.prog G X 153 [pV p, .agg t.cells.toArray, .agg (ncells tn bn nn esn).toArray] h Q := by
 have hp := ps.lt
 unfold indexF at hq0
 refine WCall.walk hX Tryz.func153 rfl rfl Tryz.ntmps153 rfl ?_
 refine QN hX ?_;refine QK (Qx ?_);refine QK (Qx ?_);refine QK (Qw ?_);refine QO hX ?_;refine QK ?_
 refine QJ en78 ?_
 refine none_w fun h1 g1 => ?_
 have hn1 := g1.1; (try simp only [UB, UC] at hn1)
 refine QK ?_
 refine QJ en78 ?_
 refine none_w fun h2 g2 => ?_
 have hn2 := g2.1; (try simp only [UB, UC] at hn2)
 refine QK (Qw ?_);refine QK (Qw ?_);refine QK (Qv ?_);refine QK (Qv ?_);refine QL ?_;refine QU hX ?_;refine QN hX ?_;refine QK (Qa ?_);refine QK (Qy ?_);refine QK ?_
 refine QJ en71 ?_
 refine is_w (L := L) (hd := hd) (s := s) (ts := [(⟨#[58]⟩ : ByteArray)]) Wwps Wwobj Wwne rfl (by first | decide | simp) fun h3 g3 => ?_
 have hn3 := g3.1; (try simp only [UB, UC] at hn3)
 cases hb3 : isR L s [(⟨#[58]⟩ : ByteArray)]
 ·simp only [hb3, Bool.false_eq_true, if_false] at hq0
  refine QK (Qe ?_);refine QQ hX ?_;refine QN hX ?_;refine QK (Qa ?_);refine QK ?_
  refine QJ en119 ?_
  refine c.expr Wwps (EndN.use Wwfr hq0 (fun _ _ x => x) fun t4 s4 h4 v4 ps4 fr4 hv4 hq4 => ?_)
  obtain ⟨b4, n4, es4, rfl, kv4⟩ := hv4
  have hn4 := fr4.1; (try simp only [UB, UC] at hn4)
  refine QK (Qv ?_);refine QO hX ?_;refine QK (Qa ?_);refine QK ?_
  refine QJ en104 ?_
  refine got_w (L := L) (hd := hd) (s := s4) Wwps fun h5 ps5 fr5 => ?_
  have hn5 := fr5.1
  (try simp only [UB, UC] at hn5)
  unfold gotS at ps5
  cases hb5 : isR L s4 [(⟨#[93]⟩ : ByteArray)]
  ·rw [hb5, if_neg Bool.false_ne_true] at ps5 hq4
   refine QP hX ?_;refine UA ?_;refine QN hX ?_;refine QK (Qa ?_);refine QK ?_
   refine QJ en53 ?_
   refine want_w (hd := hd) Wwps (EndN.use Wwfr hq4 (fun _ _ x => x) fun tk6 s6 h6 v6 ps6 fr6 hv6 hq6 => ?_)
   subst hv6
   have hn6 := fr6.1; (try simp only [UB, UC] at hn6)
   refine QL ?_;refine QU hX ?_;refine QN hX ?_;refine QK (Qa ?_);refine QK (Qy ?_);refine QK ?_
   refine QJ en71 ?_
   refine is_w (L := L) (hd := hd) (s := s6) (ts := [(⟨#[93]⟩ : ByteArray)]) Wwps Wwobj Wwne rfl (by first | decide | simp) fun h7 g7 => ?_
   have hn7 := g7.1; (try simp only [UB, UC] at hn7)
   cases hb7 : isR L s6 [(⟨#[93]⟩ : ByteArray)]
   ·rw [hb7, if_neg Bool.false_ne_true] at hq6
    refine QK (Qe ?_);refine QQ hX ?_;refine QV hX ?_;refine QK (Qa ?_);refine QK ?_
    refine QJ en119 ?_
    refine c.expr Wwps (EndN.use Wwfr hq6 (fun _ _ x => x) fun t8 s8 h8 v8 ps8 fr8 hv8 hq8 => ?_)
    obtain ⟨b8, n8, es8, rfl, kv8⟩ := hv8
    have hn8 := fr8.1; (try simp only [UB, UC] at hn8)
    refine QK (Qv ?_);refine QO hX ?_;refine QK (Qa ?_);refine QK ?_
    refine QJ en53 ?_
    refine want_w (hd := hd) Wwps (EndN.use Wwfr hq8 (fun _ _ x => x) fun tk9 s9 h9 v9 ps9 fr9 hv9 hq9 => ?_)
    subst hv9
    have hn9 := fr9.1; (try simp only [UB, UC] at hn9)
    refine QO hX ?_;refine QK (Qu ?_);refine QK (Qu ?_);refine QK (Qu ?_);refine QK (Qu ?_);refine QK (Qz ?_);refine QK ?_
    refine QJ en74 ?_
    refine node_w fun h10 g10 => ?_
    have hn10 := g10.1; (try simp only [UB, UC] at hn10)
    refine QK (Qv ?_);refine QM ?_
    refine ⟨_, Wwres, ?_⟩
    refine hq9 _ _ Wwps Wwfr ⟨_, _, _, rfl, NV.of_kids ?_ _ _ _ _ _ _⟩
    apply KV.of3 (S := fun j => (lo ≤ j ∧ j ≠ x ∧ (j < hi ∨ h.next ≤ j)) ∧ j < h9.next)
    (· exact Wwobj); (· rfl); (· exact Wwne); (· exact Wwne); (· exact (kvn.mono Wwne (fun j hS hj => by (try simp only [UB, UC] at hS); exact ⟨⟨Wwne, Wwne⟩, Wwag⟩))); (· exact (kv4.mono Wwne (fun j hS hj => by (try simp only [UB, UC] at hS); exact ⟨⟨Wwne, Wwne⟩, Wwag⟩))); (· exact (kv8.mono Wwne (fun j hS hj => by (try simp only [UB, UC] at hS); exact ⟨⟨Wwne, Wwne⟩, Wwag⟩))); (· exact fun j hS hj => ⟨hS.1, by have := hS.2; exact Wwne⟩)
   ·rw [hb7, if_pos rfl, R.then_ok] at hq6
    refine QK (Qe ?_);refine QP hX ?_;refine UA ?_;refine QN hX ?_;refine QK (Qa ?_);refine QK ?_
    refine QJ en53 ?_
    refine want_w (hd := hd) Wwps (EndN.use Wwfr hq6 (fun _ _ x => x) fun tk9 s9 h9 v9 ps9 fr9 hv9 hq9 => ?_)
    subst hv9
    have hn9 := fr9.1; (try simp only [UB, UC] at hn9)
    refine QO hX ?_;refine QK (Qu ?_);refine QK (Qu ?_);refine QK (Qu ?_);refine QK (Qu ?_);refine QK (Qz ?_);refine QK ?_
    refine QJ en74 ?_
    refine node_w fun h10 g10 => ?_
    have hn10 := g10.1; (try simp only [UB, UC] at hn10)
    refine QK (Qv ?_);refine QM ?_
    refine ⟨_, Wwres, ?_⟩
    refine hq9 _ _ Wwps Wwfr ⟨_, _, _, rfl, NV.of_kids ?_ _ _ _ _ _ _⟩
    apply KV.of3 (b3 := none) (n3 := 0) (es3 := 0) (S := fun j => (lo ≤ j ∧ j ≠ x ∧ (j < hi ∨ h.next ≤ j)) ∧ j < h9.next)
    (· exact Wwobj); (· rfl); (· exact Wwne); (· exact Wwne); (· exact (kvn.mono Wwne (fun j hS hj => by (try simp only [UB, UC] at hS); exact ⟨⟨Wwne, Wwne⟩, Wwag⟩))); (· exact (kv4.mono Wwne (fun j hS hj => by (try simp only [UB, UC] at hS); exact ⟨⟨Wwne, Wwne⟩, Wwag⟩))); (· exact NV.none _ _); (· exact fun j hS hj => ⟨hS.1, by have := hS.2; exact Wwne⟩)
  ·rw [hb5, if_pos rfl] at ps5 hq4
   refine QQ hX ?_;refine QN hX ?_;refine QK (Qu ?_);refine QK (Qu ?_);refine QK (Qu ?_);refine QK (Qz ?_);refine QK ?_
   refine QJ en74 ?_
   refine node_w fun h6 g6 => ?_
   have hn6 := g6.1; (try simp only [UB, UC] at hn6)
   refine QK (Qv ?_);refine QM ?_
   refine ⟨_, Wwres, ?_⟩
   exact hq4 _ _ Wwps Wwfr ⟨_, _, _, rfl, NV.of_kids (KV.two (S := fun j => (lo ≤ j ∧ j ≠ x ∧ (j < hi ∨ h.next ≤ j)) ∧ j < h5.next) Wwne Wwne Wwobj (kvn.mono Wwne (fun j hS hj => by (try simp only [UB, UC] at hS); exact ⟨⟨Wwne, Wwne⟩, Wwag⟩)) (kv4.mono Wwne (fun j hS hj => by (try simp only [UB, UC] at hS); exact ⟨⟨Wwne, Wwne⟩, Wwag⟩)) (fun j hS hj => ⟨hS.1, by have := hS.2; exact Wwne⟩)) _ _ _ _ _ _⟩
 ·simp only [hb3, if_true] at hq0
  refine QK (Qe ?_);refine QP hX ?_;refine UA ?_;refine QN hX ?_;refine QK (Qa ?_);refine QK ?_
  refine QJ en53 ?_
  refine want_w (hd := hd) Wwps (EndN.use Wwfr hq0 (fun _ _ x => x) fun tk6 s6 h6 v6 ps6 fr6 hv6 hq6 => ?_)
  subst hv6
  have hn6 := fr6.1; (try simp only [UB, UC] at hn6)
  refine QL ?_;refine QU hX ?_;refine QN hX ?_;refine QK (Qa ?_);refine QK (Qy ?_);refine QK ?_
  refine QJ en71 ?_
  refine is_w (L := L) (hd := hd) (s := s6) (ts := [(⟨#[93]⟩ : ByteArray)]) Wwps Wwobj Wwne rfl (by first | decide | simp) fun h7 g7 => ?_
  have hn7 := g7.1; (try simp only [UB, UC] at hn7)
  cases hb7 : isR L s6 [(⟨#[93]⟩ : ByteArray)]
  ·rw [hb7, if_neg Bool.false_ne_true] at hq6
   refine QK (Qe ?_);refine QQ hX ?_;refine QV hX ?_;refine QK (Qa ?_);refine QK ?_
   refine QJ en119 ?_
   refine c.expr Wwps (EndN.use Wwfr hq6 (fun _ _ x => x) fun t8 s8 h8 v8 ps8 fr8 hv8 hq8 => ?_)
   obtain ⟨b8, n8, es8, rfl, kv8⟩ := hv8
   have hn8 := fr8.1; (try simp only [UB, UC] at hn8)
   refine QK (Qv ?_);refine QO hX ?_;refine QK (Qa ?_);refine QK ?_
   refine QJ en53 ?_
   refine want_w (hd := hd) Wwps (EndN.use Wwfr hq8 (fun _ _ x => x) fun tk9 s9 h9 v9 ps9 fr9 hv9 hq9 => ?_)
   subst hv9
   have hn9 := fr9.1; (try simp only [UB, UC] at hn9)
   refine QO hX ?_;refine QK (Qu ?_);refine QK (Qu ?_);refine QK (Qu ?_);refine QK (Qu ?_);refine QK (Qz ?_);refine QK ?_
   refine QJ en74 ?_
   refine node_w fun h10 g10 => ?_
   have hn10 := g10.1; (try simp only [UB, UC] at hn10)
   refine QK (Qv ?_);refine QM ?_
   refine ⟨_, Wwres, ?_⟩
   refine hq9 _ _ Wwps Wwfr ⟨_, _, _, rfl, NV.of_kids ?_ _ _ _ _ _ _⟩
   apply KV.of3 (S := fun j => (lo ≤ j ∧ j ≠ x ∧ (j < hi ∨ h.next ≤ j)) ∧ j < h9.next)
   (· exact Wwobj); (· rfl); (· exact Wwne); (· exact Wwne); (· exact (kvn.mono Wwne (fun j hS hj => by (try simp only [UB, UC] at hS); exact ⟨⟨Wwne, Wwne⟩, Wwag⟩))); (· exact (NV.none _ _)); (· exact (kv8.mono Wwne (fun j hS hj => by (try simp only [UB, UC] at hS); exact ⟨⟨Wwne, Wwne⟩, Wwag⟩))); (· exact fun j hS hj => ⟨hS.1, by have := hS.2; exact Wwne⟩)
  ·rw [hb7, if_pos rfl, R.then_ok] at hq6
   refine QK (Qe ?_);refine QP hX ?_;refine UA ?_;refine QN hX ?_;refine QK (Qa ?_);refine QK ?_
   refine QJ en53 ?_
   refine want_w (hd := hd) Wwps (EndN.use Wwfr hq6 (fun _ _ x => x) fun tk9 s9 h9 v9 ps9 fr9 hv9 hq9 => ?_)
   subst hv9
   have hn9 := fr9.1; (try simp only [UB, UC] at hn9)
   refine QO hX ?_;refine QK (Qu ?_);refine QK (Qu ?_);refine QK (Qu ?_);refine QK (Qu ?_);refine QK (Qz ?_);refine QK ?_
   refine QJ en74 ?_
   refine node_w fun h10 g10 => ?_
   have hn10 := g10.1; (try simp only [UB, UC] at hn10)
   refine QK (Qv ?_);refine QM ?_
   refine ⟨_, Wwres, ?_⟩
   refine hq9 _ _ Wwps Wwfr ⟨_, _, _, rfl, NV.of_kids ?_ _ _ _ _ _ _⟩
   apply KV.of3 (b3 := none) (n3 := 0) (es3 := 0) (S := fun j => (lo ≤ j ∧ j ≠ x ∧ (j < hi ∨ h.next ≤ j)) ∧ j < h9.next)
   (· exact Wwobj); (· rfl); (· exact Wwne); (· exact Wwne); (· exact (kvn.mono Wwne (fun j hS hj => by (try simp only [UB, UC] at hS); exact ⟨⟨Wwne, Wwne⟩, Wwag⟩))); (· exact (NV.none _ _)); (· exact NV.none _ _); (· exact fun j hS hj => ⟨hS.1, by have := hS.2; exact Wwne⟩)

end Go.Proofs.ZL
end

section
open Go Go.Am
namespace Go.Proofs.ZL
set_option maxRecDepth 100000
set_option linter.unusedSimpArgs false
set_option linter.unusedVariables false
set_option maxHeartbeats 1000000

theorem comma_w {p : Nat} {L : List Tok} {hd : Bool} {s : St} {h : Heap} {Q : ARes → Prop} (ps : PSt h p L hd s) (hq0 : EndN VU p L hd h Q (commaR L s)) : WCall Tryz.prog G X 170 [pV p] h Q := by
 have hp := ps.lt
 unfold commaR at hq0
 refine WCall.walk hX Tryz.func170 rfl rfl Tryz.ntmps170 rfl ?_
 refine QN hX ?_;refine QK (Qa ?_);refine QK (Qy ?_);refine QK ?_
 refine QJ en71 ?_
 refine is_w (L := L) (hd := hd) (s := s) (ts := [(⟨#[125]⟩ : ByteArray)]) Wwps Wwobj Wwne rfl (by first | decide | simp) fun h1 g1 => ?_
 have hn1 := g1.1; (try simp only [UB, UC] at hn1)
 cases hb : isR L s [(⟨#[125]⟩ : ByteArray)]
 ·rw [hb, if_neg Bool.false_ne_true] at hq0
  refine QK (Qe ?_);refine QQ hX ?_;refine QV hX ?_;refine QK (Qa ?_);refine QK ?_
  refine QJ en53 ?_
  refine want_w (hd := hd) Wwps (EndN.use Wwfr hq0 (fun _ _ x => x) fun tk2 s2 h2 v2 ps2 fr2 hv2 hq2 => ?_)
  subst hv2
  have hn2 := fr2.1; (try simp only [UB, UC] at hn2)
  refine QL ?_
  refine ⟨_, Wwres, ?_⟩
  exact hq2 _ _ Wwps Wwfr rfl
 ·rw [hb, if_pos rfl] at hq0
  refine QK (Qe ?_);refine QP hX ?_;refine UA ?_
  refine ⟨_, Wwres, ?_⟩
  exact hq0 _ _ Wwps Wwfr rfl

theorem worded1_w {r : Rec} {n i : Nat} (hn : n ≤ 1000000) (c : Ctr r) {p : Nat} {L : List Tok} {hd : Bool} {s : St} {h : Heap} {Q : ARes → Prop} (ps : PSt h p L hd s) (ho : h.obj i = some (.cells false [pV p])) (hi : i < h.next) (hip : i ≠ p)
  (hq0 : EndN (VK (fun j => h.next ≤ j)) p L hd h Q (exprsF n r (⟨#[41]⟩ : ByteArray) L hd s)) : WCall Tryz.prog G X 171 [.pointer (some ⟨i, 0, none⟩)] h Q := by
 have hp := ps.lt
 rw [← R.then_id (exprsF n r _ L hd s)] at hq0
 refine WCall.walk hX Tryz.func171 rfl rfl Tryz.ntmps171 rfl ?_
 refine QN hX ?_;refine QK (Qb ?_);refine QO hX ?_;refine QK (Qt ?_);refine QK ?_
 refine QJ en151 ?_
 refine exprs_w hn c Wwps (EndN.use Wwfr hq0 (fun _ _ x => x) fun t1 s1 h1 v1 ps1 fr1 hv1 hq1 => ?_)
 obtain ⟨b1, n1, es1, rfl, kv1⟩ := hv1
 have hn1 := fr1.1
 refine QK (Qb ?_);refine QM ?_
 refine ⟨_, Wwres, ?_⟩
 exact hq1 _ _ Wwps Wwfr ⟨_, _, _, rfl, kv1⟩

theorem primary1_w {r : Rec} {n i : Nat} (hn : n ≤ 1000000) (c : Ctr r) {p : Nat} {L : List Tok} {hd : Bool} {s : St} {h : Heap} {Q : ARes → Prop} (ps : PSt h p L hd s) (ho : h.obj i = some (.cells false [pV p])) (hi : i < h.next) (hip : i ≠ p)
  (hq0 : EndN (VK (fun j => h.next ≤ j)) p L hd h Q (exprsF n r (⟨#[41]⟩ : ByteArray) L hd s)) : WCall Tryz.prog G X 150 [.pointer (some ⟨i, 0, none⟩)] h Q := by
 have hp := ps.lt
 rw [← R.then_id (exprsF n r _ L hd s)] at hq0
 refine WCall.walk hX Tryz.func150 rfl rfl Tryz.ntmps150 rfl ?_
 refine QN hX ?_;refine QK (Qb ?_);refine QO hX ?_;refine QK (Qt ?_);refine QK ?_
 refine QJ en151 ?_
 refine exprs_w hn c Wwps (EndN.use Wwfr hq0 (fun _ _ x => x) fun t1 s1 h1 v1 ps1 fr1 hv1 hq1 => ?_)
 obtain ⟨b1, n1, es1, rfl, kv1⟩ := hv1
 have hn1 := fr1.1
 refine QK (Qb ?_);refine QM ?_
 refine ⟨_, Wwres, ?_⟩
 exact hq1 _ _ Wwps Wwfr ⟨_, _, _, rfl, kv1⟩

end Go.Proofs.ZL
end

section
open Go Go.Am
namespace Go.Proofs.ZL
set_option maxRecDepth 100000
set_option linter.unusedSimpArgs false
set_option linter.unusedVariables false
set_option maxHeartbeats 1000000

theorem value_w {t : Nd} {b : Option Addr} {n es : Nat} {h : Heap} {Q : ARes → Prop} (hq : ∀ h', Gr h h' → Q (.ret (.bool (valueN t)) h')) : WCall Tryz.prog G X 154 [.agg (ncells t b n es).toArray] h Q := by
  refine WCall.walk hX Tryz.func154 rfl rfl Tryz.ntmps154 rfl ?_
  refine QN hX ?_;refine QK (Qx ?_);refine QK (Qb ?_);refine QO hX ?_;refine QK (Qj ?_);refine QK (Qt ?_);refine QK (QB ?_ ?_);intro hh;refine QK (Qa ?_);refine QK (QA ?_);refine QK (QA ?_);refine QK (QA ?_);refine QK (Qc ?_);refine QK (Qb ?_);refine QM ?_;rotate_left;intro hh;refine QK (Qa ?_);refine QK (Qj ?_);refine QK (Qt ?_);refine QK (QB ?_ ?_);intro hh;refine QK (Qd ?_);refine QK (Qb ?_);refine QM ?_;rotate_left;intro hh;refine QK (Qd ?_);refine QK (Qb ?_);refine QM ?_;rotate_left
  all_goals first
    | (have e : valueN t = true := by (unfold valueN; simp [*]; done)
       rw [e] at hq; ((apply Exists.intro; apply And.intro; (· repeat (first | exact resultA_nil | (apply resultA_tmp; (· (first | rfl | assumption))) | (apply resultA_cellG; (· (first | rfl | assumption)); (· rfl); (· exact sz_at rfl); (· (repeat (first | assumption | (with_reducible rfl) | exact obj_new | exact obj_put | (refine obj_old (by (first | omega | (simp only [Heap.alloc_next, Heap.put_next]; omega))) ?_) | (refine obj_else (by (first | omega | (simp only [Heap.alloc_next, Heap.put_next]; omega))) ?_) | (apply Gr.at; (· assumption); (· (first | omega | (simp only [Heap.alloc_next, Heap.put_next]; omega)))) | (apply Fr1.at; (· assumption); (· (first | omega | (simp only [Heap.alloc_next, Heap.put_next]; omega))); (· (first | omega | (simp only [Heap.alloc_next, Heap.put_next]; omega))))))); (· (first | (exact Nat.le_of_ble_eq_true rfl) | (simp; done) | omega)); (· rfl)) | (apply resultA_cellS; (· (first | rfl | assumption)); (· rfl); (· (repeat (first | assumption | (with_reducible rfl) | exact obj_new | exact obj_put | (refine obj_old (by (first | omega | (simp only [Heap.alloc_next, Heap.put_next]; omega))) ?_) | (refine obj_else (by (first | omega | (simp only [Heap.alloc_next, Heap.put_next]; omega))) ?_) | (apply Gr.at; (· assumption); (· (first | omega | (simp only [Heap.alloc_next, Heap.put_next]; omega)))) | (apply Fr1.at; (· assumption); (· (first | omega | (simp only [Heap.alloc_next, Heap.put_next]; omega))); (· (first | omega | (simp only [Heap.alloc_next, Heap.put_next]; omega))))))); (· rfl)))))); exact hq _ Wwgr)
    | (have e : valueN t = false := by (unfold valueN; simp [*]; done)
       rw [e] at hq; ((apply Exists.intro; apply And.intro; (· repeat (first | exact resultA_nil | (apply resultA_tmp; (· (first | rfl | assumption))) | (apply resultA_cellG; (· (first | rfl | assumption)); (· rfl); (· exact sz_at rfl); (· (repeat (first | assumption | (with_reducible rfl) | exact obj_new | exact obj_put | (refine obj_old (by (first | omega | (simp only [Heap.alloc_next, Heap.put_next]; omega))) ?_) | (refine obj_else (by (first | omega | (simp only [Heap.alloc_next, Heap.put_next]; omega))) ?_) | (apply Gr.at; (· assumption); (· (first | omega | (simp only [Heap.alloc_next, Heap.put_next]; omega)))) | (apply Fr1.at; (· assumption); (· (first | omega | (simp only [Heap.alloc_next, Heap.put_next]; omega))); (· (first | omega | (simp only [Heap.alloc_next, Heap.put_next]; omega))))))); (· (first | (exact Nat.le_of_ble_eq_true rfl) | (simp; done) | omega)); (· rfl)) | (apply resultA_cellS; (· (first | rfl | assumption)); (· rfl); (· (repeat (first | assumption | (with_reducible rfl) | exact obj_new | exact obj_put | (refine obj_old (by (first | omega | (simp only [Heap.alloc_next, Heap.put_next]; omega))) ?_) | (refine obj_else (by (first | omega | (simp only [Heap.alloc_next, Heap.put_next]; omega))) ?_) | (apply Gr.at; (· assumption); (· (first | omega | (simp only [Heap.alloc_next, Heap.put_next]; omega)))) | (apply Fr1.at; (· assumption); (· (first | omega | (simp only [Heap.alloc_next, Heap.put_next]; omega))); (· (first | omega | (simp only [Heap.alloc_next, Heap.put_next]; omega))))))); (· rfl)))))); exact hq _ Wwgr)

theorem called_w {t : Nd} {b : Option Addr} {n es : Nat} {h : Heap} {Q : ARes → Prop} (hq : ∀ h', Gr h h' → Q (.ret (.bool (calledN t)) h')) : WCall Tryz.prog G X 140 [.agg (ncells t b n es).toArray] h Q := by
 refine WCall.walk hX Tryz.func140 rfl rfl Tryz.ntmps140 rfl ?_
 refine QN hX ?_;refine QK (Qx ?_);refine QK (Qb ?_);refine QO hX ?_;refine QK (Qj ?_);refine QK (Qt ?_);refine QK (QD ?_ ?_);intro hh;refine QK (Qa ?_);refine QK (QA ?_);refine QK (QA ?_);refine QK (QA ?_);refine QK (QA ?_);refine QK (QA ?_);refine QK (QA ?_);refine QK (QA ?_);refine QK (QA ?_);refine QK (Qc ?_);refine QK (Qb ?_);refine QM ?_;rotate_left;intro hh;refine QK (Qa ?_);refine QK (Qj ?_);refine QK (Qt ?_);refine QK (QD ?_ ?_);intro hh;refine QK (Qa ?_);refine QK (Qu ?_);refine QK ?_;rotate_left;intro hh;refine QK (Qa ?_);refine QK (QA ?_);refine QK (QA ?_);refine QK (QA ?_);refine QK (Qd ?_);refine QK (Qd ?_);refine QK (Qb ?_);refine QM ?_;rotate_left
 ·have e : calledN t = true := by (unfold calledN; simp [*])
  rw [e] at hq; ((apply Exists.intro; apply And.intro; (· repeat (first | exact resultA_nil | (apply resultA_tmp; (· (first | rfl | assumption))) | (apply resultA_cellG; (· (first | rfl | assumption)); (· rfl); (· exact sz_at rfl); (· (repeat (first | assumption | (with_reducible rfl) | exact obj_new | exact obj_put | (refine obj_old (by (first | omega | (simp only [Heap.alloc_next, Heap.put_next]; omega))) ?_) | (refine obj_else (by (first | omega | (simp only [Heap.alloc_next, Heap.put_next]; omega))) ?_) | (apply Gr.at; (· assumption); (· (first | omega | (simp only [Heap.alloc_next, Heap.put_next]; omega)))) | (apply Fr1.at; (· assumption); (· (first | omega | (simp only [Heap.alloc_next, Heap.put_next]; omega))); (· (first | omega | (simp only [Heap.alloc_next, Heap.put_next]; omega))))))); (· (first | (exact Nat.le_of_ble_eq_true rfl) | (simp; done) | omega)); (· rfl)) | (apply resultA_cellS; (· (first | rfl | assumption)); (· rfl); (· (repeat (first | assumption | (with_reducible rfl) | exact obj_new | exact obj_put | (refine obj_old (by (first | omega | (simp only [Heap.alloc_next, Heap.put_next]; omega))) ?_) | (refine obj_else (by (first | omega | (simp only [Heap.alloc_next, Heap.put_next]; omega))) ?_) | (apply Gr.at; (· assumption); (· (first | omega | (simp only [Heap.alloc_next, Heap.put_next]; omega)))) | (apply Fr1.at; (· assumption); (· (first | omega | (simp only [Heap.alloc_next, Heap.put_next]; omega))); (· (first | omega | (simp only [Heap.alloc_next, Heap.put_next]; omega))))))); (· rfl)))))); exact hq _ Wwgr
 ·refine QJ en154 ?_
  refine value_w fun h1 g1 => ?_
  have g0 : Gr h h1 := (Gr.alloc _ _).trans g1
  have e : calledN t = !valueN t := by (unfold calledN; simp [*])
  rw [e] at hq
  refine QK (Qe ?_);refine QK (Qc ?_);refine QK (Qd ?_);refine QK (Qb ?_);refine QM ?_
  ((apply Exists.intro; apply And.intro; (· repeat (first | exact resultA_nil | (apply resultA_tmp; (· (first | rfl | assumption))) | (apply resultA_cellG; (· (first | rfl | assumption)); (· rfl); (· exact sz_at rfl); (· (repeat (first | assumption | (with_reducible rfl) | exact obj_new | exact obj_put | (refine obj_old (by (first | omega | (simp only [Heap.alloc_next, Heap.put_next]; omega))) ?_) | (refine obj_else (by (first | omega | (simp only [Heap.alloc_next, Heap.put_next]; omega))) ?_) | (apply Gr.at; (· assumption); (· (first | omega | (simp only [Heap.alloc_next, Heap.put_next]; omega)))) | (apply Fr1.at; (· assumption); (· (first | omega | (simp only [Heap.alloc_next, Heap.put_next]; omega))); (· (first | omega | (simp only [Heap.alloc_next, Heap.put_next]; omega))))))); (· (first | (exact Nat.le_of_ble_eq_true rfl) | (simp; done) | omega)); (· rfl)) | (apply resultA_cellS; (· (first | rfl | assumption)); (· rfl); (· (repeat (first | assumption | (with_reducible rfl) | exact obj_new | exact obj_put | (refine obj_old (by (first | omega | (simp only [Heap.alloc_next, Heap.put_next]; omega))) ?_) | (refine obj_else (by (first | omega | (simp only [Heap.alloc_next, Heap.put_next]; omega))) ?_) | (apply Gr.at; (· assumption); (· (first | omega | (simp only [Heap.alloc_next, Heap.put_next]; omega)))) | (apply Fr1.at; (· assumption); (· (first | omega | (simp only [Heap.alloc_next, Heap.put_next]; omega))); (· (first | omega | (simp only [Heap.alloc_next, Heap.put_next]; omega))))))); (· rfl)))))); exact hq _ Wwgr
 ·have e : calledN t = false := by (unfold calledN; simp [*])
  rw [e] at hq; ((apply Exists.intro; apply And.intro; (· repeat (first | exact resultA_nil | (apply resultA_tmp; (· (first | rfl | assumption))) | (apply resultA_cellG; (· (first | rfl | assumption)); (· rfl); (· exact sz_at rfl); (· (repeat (first | assumption | (with_reducible rfl) | exact obj_new | exact obj_put | (refine obj_old (by (first | omega | (simp only [Heap.alloc_next, Heap.put_next]; omega))) ?_) | (refine obj_else (by (first | omega | (simp only [Heap.alloc_next, Heap.put_next]; omega))) ?_) | (apply Gr.at; (· assumption); (· (first | omega | (simp only [Heap.alloc_next, Heap.put_next]; omega)))) | (apply Fr1.at; (· assumption); (· (first | omega | (simp only [Heap.alloc_next, Heap.put_next]; omega))); (· (first | omega | (simp only [Heap.alloc_next, Heap.put_next]; omega))))))); (· (first | (exact Nat.le_of_ble_eq_true rfl) | (simp; done) | omega)); (· rfl)) | (apply resultA_cellS; (· (first | rfl | assumption)); (· rfl); (· (repeat (first | assumption | (with_reducible rfl) | exact obj_new | exact obj_put | (refine obj_old (by (first | omega | (simp only [Heap.alloc_next, Heap.put_next]; omega))) ?_) | (refine obj_else (by (first | omega | (simp only [Heap.alloc_next, Heap.put_next]; omega))) ?_) | (apply Gr.at; (· assumption); (· (first | omega | (simp only [Heap.alloc_next, Heap.put_next]; omega)))) | (apply Fr1.at; (· assumption); (· (first | omega | (simp only [Heap.alloc_next, Heap.put_next]; omega))); (· (first | omega | (simp only [Heap.alloc_next, Heap.put_next]; omega))))))); (· rfl)))))); exact hq _ Wwgr

theorem target_w {t : Nd} {b : Option Addr} {n es : Nat} {h : Heap} {Q : ARes → Prop} (hq : ∀ h', Gr h h' → Q (.ret (.bool (targetN t)) h')) : WCall Tryz.prog G X 161 [.agg (ncells t b n es).toArray] h Q := by
  refine WCall.walk hX Tryz.func161 rfl rfl Tryz.ntmps161 rfl ?_
  refine QN hX ?_;refine QK (Qx ?_);refine QK (Qb ?_);refine QO hX ?_;refine QK (Qj ?_);refine QK (Qt ?_);refine QK (QD ?_ ?_);intro hh;refine QK (Qa ?_);refine QK (QA ?_);refine QK (QA ?_);refine QK (QA ?_);refine QK (Qc ?_);refine QK (Qa ?_);refine QK (QA ?_);refine QK (QA ?_);refine QK (QA ?_);refine QK (Qc ?_);refine QK (Qb ?_);refine QM ?_;rotate_left;intro hh;refine QK (Qa ?_);refine QK (Qj ?_);refine QK (Qt ?_);refine QK (QD ?_ ?_);intro hh;refine QK (Qd ?_);refine QK (Qa ?_);refine QK (QA ?_);refine QK (QA ?_);refine QK (QA ?_);refine QK (Qc ?_);refine QK (Qb ?_);refine QM ?_;rotate_left;intro hh;refine QK (Qd ?_);refine QK (Qa ?_);refine QK (Qj ?_);refine QK (Qt ?_);refine QK (QD ?_ ?_);intro hh;refine QK (Qd ?_);refine QK (Qb ?_);refine QM ?_;rotate_left;intro hh;refine QK (Qd ?_);refine QK (Qb ?_);refine QM ?_;rotate_left
  all_goals first
    | (have e : targetN t = true := by (unfold targetN; simp [*]; done)
       rw [e] at hq; ((apply Exists.intro; apply And.intro; (· repeat (first | exact resultA_nil | (apply resultA_tmp; (· (first | rfl | assumption))) | (apply resultA_cellG; (· (first | rfl | assumption)); (· rfl); (· exact sz_at rfl); (· (repeat (first | assumption | (with_reducible rfl) | exact obj_new | exact obj_put | (refine obj_old (by (first | omega | (simp only [Heap.alloc_next, Heap.put_next]; omega))) ?_) | (refine obj_else (by (first | omega | (simp only [Heap.alloc_next, Heap.put_next]; omega))) ?_) | (apply Gr.at; (· assumption); (· (first | omega | (simp only [Heap.alloc_next, Heap.put_next]; omega)))) | (apply Fr1.at; (· assumption); (· (first | omega | (simp only [Heap.alloc_next, Heap.put_next]; omega))); (· (first | omega | (simp only [Heap.alloc_next, Heap.put_next]; omega))))))); (· (first | (exact Nat.le_of_ble_eq_true rfl) | (simp; done) | omega)); (· rfl)) | (apply resultA_cellS; (· (first | rfl | assumption)); (· rfl); (· (repeat (first | assumption | (with_reducible rfl) | exact obj_new | exact obj_put | (refine obj_old (by (first | omega | (simp only [Heap.alloc_next, Heap.put_next]; omega))) ?_) | (refine obj_else (by (first | omega | (simp only [Heap.alloc_next, Heap.put_next]; omega))) ?_) | (apply Gr.at; (· assumption); (· (first | omega | (simp only [Heap.alloc_next, Heap.put_next]; omega)))) | (apply Fr1.at; (· assumption); (· (first | omega | (simp only [Heap.alloc_next, Heap.put_next]; omega))); (· (first | omega | (simp only [Heap.alloc_next, Heap.put_next]; omega))))))); (· rfl)))))); exact hq _ Wwgr)
    | (have e : targetN t = false := by (unfold targetN; simp [*]; done)
       rw [e] at hq; ((apply Exists.intro; apply And.intro; (· repeat (first | exact resultA_nil | (apply resultA_tmp; (· (first | rfl | assumption))) | (apply resultA_cellG; (· (first | rfl | assumption)); (· rfl); (· exact sz_at rfl); (· (repeat (first | assumption | (with_reducible rfl) | exact obj_new | exact obj_put | (refine obj_old (by (first | omega | (simp only [Heap.alloc_next, Heap.put_next]; omega))) ?_) | (refine obj_else (by (first | omega | (simp only [Heap.alloc_next, Heap.put_next]; omega))) ?_) | (apply Gr.at; (· assumption); (· (first | omega | (simp only [Heap.alloc_next, Heap.put_next]; omega)))) | (apply Fr1.at; (· assumption); (· (first | omega | (simp only [Heap.alloc_next, Heap.put_next]; omega))); (· (first | omega | (simp only [Heap.alloc_next, Heap.put_next]; omega))))))); (· (first | (exact Nat.le_of_ble_eq_true rfl) | (simp; done) | omega)); (· rfl)) | (apply resultA_cellS; (· (first | rfl | assumption)); (· rfl); (· (repeat (first | assumption | (with_reducible rfl) | exact obj_new | exact obj_put | (refine obj_old (by (first | omega | (simp only [Heap.alloc_next, Heap.put_next]; omega))) ?_) | (refine obj_else (by (first | omega | (simp only [Heap.alloc_next, Heap.put_next]; omega))) ?_) | (apply Gr.at; (· assumption); (· (first | omega | (simp only [Heap.alloc_next, Heap.put_next]; omega)))) | (apply Fr1.at; (· assumption); (· (first | omega | (simp only [Heap.alloc_next, Heap.put_next]; omega))); (· (first | omega | (simp only [Heap.alloc_next, Heap.put_next]; omega))))))); (· rfl)))))); exact hq _ Wwgr)

end Go.Proofs.ZL
end
