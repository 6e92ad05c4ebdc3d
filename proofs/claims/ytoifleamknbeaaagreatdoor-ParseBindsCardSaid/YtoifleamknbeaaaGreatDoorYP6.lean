/- The parser, sixth part: files, and Parse. -/
import Derived.Test.YtoifleamknbeaaaGreatDoorYP5
import Derived.Test.YtoifleamknbeaaaGreatDoorYP3
import Derived.Test.YtoifleamknbeaaaGreatDoorYP4
import Derived.Test.YtoifleamknbeaaaGreatDoorYL3
import Derived.Test.YtoifleamknbeaaaGreatDoorYL2
section
open Go Go.Am
namespace Go.Proofs.ZL
set_option maxRecDepth 100000
set_option linter.unusedSimpArgs false
set_option linter.unusedVariables false
set_option maxHeartbeats 1000000

theorem nested_w {r : Rec} {n : Nat} (hn : n ≤ 1000000) (c : Ctr r) : CN 121 (nestedF n r) := by
 intro p L hd s h Q ps hq0
 have hp := ps.lt
 unfold nestedF at hq0
 simp only at hq0
 by_cases h6 : (tokAt L s.k).kind = 6
 ·rw [if_pos h6] at hq0; exact hq0.elim
 rw [if_neg h6] at hq0
 have hm : s.k + 1 < L.length := ps.wf.more ps.at_ h6
 refine WCall.walk hX Tryz.func121 rfl rfl Tryz.ntmps121 rfl ?_
 refine QN hX ?_;refine QK (Qw ?_);refine QO hX ?_;refine QK (Qa ?_);refine QK ?_
 refine QJ en72 ?_
 refine take_w (L := L) (hd := hd) (s := s) Wwps (hm) fun h2 ps2 fr2 => ?_
 have hn2 := fr2.1; (try simp only [UB, UC] at hn2)
 generalize tokAt L s.k = tk at *
 refine QK (Qw ?_);refine QK (Qv ?_);refine QO hX ?_;refine QK (Qj ?_);refine QK (Qt ?_);refine QL ?_;refine WC.block hX ?_;refine QN hX ?_;refine QK (QB ?_ ?_);intro hh;refine QK (Qb ?_);refine QQ hX ?_;refine QN hX ?_;refine QK (Qa ?_);refine QK (Qu ?_);refine QK ?_;rotate_left;intro hh;refine QK (Qb ?_);refine QP hX ?_;refine QN hX ?_;refine QK (QB ?_ ?_);intro hh;refine QK (Qb ?_);refine QQ hX ?_;refine QN hX ?_;refine QK ?_;rotate_left;intro hh;refine QK (Qb ?_);refine QP hX ?_;refine QU hX ?_;refine WC.drawn (id := 3) hX (l := [⟨0, .read, 0⟩, ⟨1, .pure, 0⟩, ⟨2, .pure, 0⟩, ⟨3, .pure, 4⟩, ⟨4, .heavy, 14⟩, ⟨5, .heavy, 31⟩, ⟨6, .heavy, 63⟩]) (hw := ?_);refine QX (k := Qu ?_);refine QW (k := Qa ?_);refine QW (k := Qa ?_);refine QW (k := Qp ?_);refine WD.heavy hX (hw := ?_);rotate_left
 ·rw [if_pos (by assumption), ← R.then_id (loopF r tk L hd s.next)] at hq0
  refine QJ en135 ?_
  refine loop_w c (tk := tk) Wwps (EndN.use Wwfr hq0 (fun _ _ x => x) fun t4 s4 h4 v4 ps4 fr4 hv4 hq4 => ?_)
  obtain ⟨b4, n4, es4, rfl, kv4⟩ := hv4
  have hn4 := fr4.1
  (try simp only [UB, UC] at hn4)
  refine QK (Qv ?_);refine QM ?_
  refine ⟨_, Wwres, ?_⟩
  exact hq4 _ _ Wwps Wwfr ⟨_, _, _, rfl, (kv4.mono Wwne (fun j hS hj => by (try simp only [UB, UC] at hS); exact ⟨Wwne, Wwag⟩))⟩
 ·rw [if_neg (by assumption), if_pos (by assumption)] at hq0
  refine QJ en78 ?_
  refine none_w fun h3 g3 => ?_
  have hn3 := g3.1; (try simp only [UB, UC] at hn3)
  refine QK (Qw ?_);refine QK (Qv ?_);refine QL ?_;refine QU hX ?_;refine QN hX ?_;refine QK (Qa ?_);refine QK (Qy ?_);refine QK ?_
  refine QJ en71 ?_
  refine is_w (L := L) (hd := hd) (s := s.next) (ts := [(⟨#[123]⟩ : ByteArray)]) Wwps Wwobj Wwne rfl (by first | decide | simp) fun h4 g4 => ?_
  have hn4 := g4.1; (try simp only [UB, UC] at hn4)
  cases hb4 : isR L s.next [(⟨#[123]⟩ : ByteArray)]
  ·rw [hb4, if_neg Bool.false_ne_true] at hq0
   refine QK (Qe ?_);refine QQ hX ?_;refine QV hX ?_;refine QK (Qa ?_);refine QK (Qa ?_);refine QK (Qp ?_);refine QK ?_
   refine QJ en87 ?_
   refine within_w (hd := hd) (hd' := true) (spec := r.expr L true s.next) Wwps en119 (fun {h5 Q5} ps5 fr5 hq5 => c.expr ps5 hq5) (EndN.use Wwfr hq0 (fun _ _ x => x) fun t5 s5 h5 v5 ps5 fr5 hv5 hq5 => ?_)
   obtain ⟨b5, n5, es5, rfl, kv5⟩ := hv5
   have hn5 := fr5.1; (try simp only [UB, UC] at hn5)
   refine QK (Qv ?_);refine QL ?_;refine QU hX ?_;refine WC.drawn (id := 10) hX (l := [⟨0, .read, 0⟩, ⟨1, .read, 0⟩, ⟨2, .alloc, 2⟩, ⟨3, .pure, 0⟩, ⟨4, .pure, 0⟩, ⟨5, .pure, 16⟩, ⟨6, .heavy, 56⟩, ⟨7, .heavy, 126⟩, ⟨8, .heavy, 255⟩, ⟨9, .heavy, 511⟩]) (hw := ?_);refine QX (k := Qu ?_);refine QX (k := Qu ?_);refine WD.alloc (hw := Qz ?_);refine QW (k := Qa ?_);refine QW (k := Qa ?_);refine QW (k := Qp ?_);refine WD.heavy hX (hw := ?_)
   refine QJ en136 ?_
   refine clauses_w (L := L) (hd := hd) (s := s5) hn en137 (clause_w hn c) Wwps (EndN.useE Wwfr hq5 (fun _ _ x => x) fun t10 s10 h10 v10 hr10 ps10 fr10 hv10 hq10 => ?_)
   obtain ⟨b10, n10, es10, rfl, kv10⟩ := hv10
   have hn10 := fr10.1
   (try simp only [UB, UC] at hn10)
   have hlen := clausesF_len hr10
   have hl10 := kv10.len
   refine WD.heavy hX (hw := ?_)
   refine WS.appendKV (h := h10) (S1 := fun j => h2.next < j ∧ j < h5.next + 1) (S2 := fun j => h5.next + 1 ≤ j) (k1 := [t5]) (k2 := t10) rfl rfl Wwev Wwev rfl rfl (by intro k hk; cases hk) (fits_at rfl) (by unfold room; omega)
    (KV.one (i := h5.next) (S := fun j => h2.next < j ∧ j < h5.next) Wwne Wwne Wwobj (kv5.mono Wwne (fun j hS hj => by (try simp only [UB, UC] at hS); exact ⟨⟨Wwne, Wwne⟩, Wwag⟩)) (fun j hS hj => ⟨⟨hS.1, by have := hS.2; exact Wwne⟩, by have := hS.2; exact Wwne⟩)) (kv10.mono Wwne (fun j hS hj => by (try simp only [UB, UC] at hS); exact ⟨Wwne, rfl⟩)) (fun x hx _ off e => by cases e; omega) ?_
   intro h11 b11 es11 hn11 kv11 hf11
   have hk11 : ∀ j, j < h5.next → h11.obj j = h10.obj j := fun j hj => hf11 j Wwne (by intro off e; cases e; omega)
   have fr11 : Fr1 p h h11 := Fr1.keep (H := h10) Wwfr Wwne fun j hj => hk11 j (by omega)
   have ps11 : PSt h11 p L hd s10 := PSt.keep (h := h10) ps10 Wwne fun j hj => hk11 j (by omega)
   have ho11z : h11.obj h.next = some (.cells false [.int .i64 0, .string .empty, .int .i64 0, .int .i64 0, .string .empty, .int .i64 0, .slice none 0 0]) := (hk11 _ (by omega)).trans Wwobj
   have ho11t : h11.obj h2.next = some (.cells false tk.cells) := (hk11 _ (by omega)).trans Wwobj
   refine WD.heavy hX (hw := ?_)
   refine QJ en74 ?_
   refine node_w fun h12 g12 => ?_
   have hn12 := g12.1; (try simp only [UB, UC] at hn12)
   refine WD.heavy hX (hw := Qv ?_);refine WD.nil (hq := ?_);refine WC.ret ?_
   refine ⟨_, Wwres, ?_⟩
   refine hq10 _ _ Wwps Wwfr ⟨_, _, _, rfl, NV.of_kids ?_ _ _ _ _ _ _⟩
   exact (kv11.mono Wwne (fun j hS hj => by (try simp only [UB, UC] at hS); exact ⟨Wwne, Wwag⟩))
  ·rw [hb4, if_pos rfl, R.then_ok] at hq0
   refine QK (Qe ?_);refine QP hX ?_;refine UA ?_;refine QU hX ?_;refine WC.drawn (id := 10) hX (l := [⟨0, .read, 0⟩, ⟨1, .read, 0⟩, ⟨2, .alloc, 2⟩, ⟨3, .pure, 0⟩, ⟨4, .pure, 0⟩, ⟨5, .pure, 16⟩, ⟨6, .heavy, 56⟩, ⟨7, .heavy, 126⟩, ⟨8, .heavy, 255⟩, ⟨9, .heavy, 511⟩]) (hw := ?_);refine QX (k := Qu ?_);refine QX (k := Qu ?_);refine WD.alloc (hw := Qz ?_);refine QW (k := Qa ?_);refine QW (k := Qa ?_);refine QW (k := Qp ?_);refine WD.heavy hX (hw := ?_)
   refine QJ en136 ?_
   refine clauses_w (L := L) (hd := hd) (s := s.next) hn en137 (clause_w hn c) Wwps (EndN.useE Wwfr hq0 (fun _ _ x => x) fun t10 s10 h10 v10 hr10 ps10 fr10 hv10 hq10 => ?_)
   obtain ⟨b10, n10, es10, rfl, kv10⟩ := hv10
   have hn10 := fr10.1
   (try simp only [UB, UC] at hn10)
   have hlen := clausesF_len hr10
   have hl10 := kv10.len
   refine WD.heavy hX (hw := ?_)
   refine WS.appendKV (h := h10) (S1 := fun j => h2.next < j ∧ j < h4.next + 1) (S2 := fun j => h4.next + 1 ≤ j) (k1 := [noneN]) (k2 := t10) rfl rfl Wwev Wwev rfl rfl (by intro k hk; cases hk) (fits_at rfl) (by unfold room; omega)
    (KV.one (i := h4.next) (S := fun j => h2.next < j ∧ j < h4.next) Wwne Wwne Wwobj (NV.none _ _) (fun j hS hj => ⟨⟨hS.1, by have := hS.2; exact Wwne⟩, by have := hS.2; exact Wwne⟩)) (kv10.mono Wwne (fun j hS hj => by (try simp only [UB, UC] at hS); exact ⟨Wwne, rfl⟩)) (fun x hx _ off e => by cases e; omega) ?_
   intro h11 b11 es11 hn11 kv11 hf11
   have hk11 : ∀ j, j < h4.next → h11.obj j = h10.obj j := fun j hj => hf11 j Wwne (by intro off e; cases e; omega)
   have fr11 : Fr1 p h h11 := Fr1.keep (H := h10) Wwfr Wwne fun j hj => hk11 j (by omega)
   have ps11 : PSt h11 p L hd s10 := PSt.keep (h := h10) ps10 Wwne fun j hj => hk11 j (by omega)
   have ho11z : h11.obj h.next = some (.cells false [.int .i64 0, .string .empty, .int .i64 0, .int .i64 0, .string .empty, .int .i64 0, .slice none 0 0]) := (hk11 _ (by omega)).trans Wwobj
   have ho11t : h11.obj h2.next = some (.cells false tk.cells) := (hk11 _ (by omega)).trans Wwobj
   refine WD.heavy hX (hw := ?_)
   refine QJ en74 ?_
   refine node_w fun h12 g12 => ?_
   have hn12 := g12.1; (try simp only [UB, UC] at hn12)
   refine WD.heavy hX (hw := Qv ?_);refine WD.nil (hq := ?_);refine WC.ret ?_
   refine ⟨_, Wwres, ?_⟩
   refine hq10 _ _ Wwps Wwfr ⟨_, _, _, rfl, NV.of_kids ?_ _ _ _ _ _ _⟩
   exact (kv11.mono Wwne (fun j hS hj => by (try simp only [UB, UC] at hS); exact ⟨Wwne, Wwag⟩))
 ·rw [if_neg (by assumption), if_neg (by assumption)] at hq0
  refine QJ en136 ?_
  refine clauses_w (L := L) (hd := hd) (s := s.next) hn en138 (comm_w c) Wwps (EndN.use Wwfr hq0 (fun _ _ x => x) fun t10 s10 h10 v10 ps10 fr10 hv10 hq10 => ?_)
  obtain ⟨b10, n10, es10, rfl, kv10⟩ := hv10
  have hn10 := fr10.1
  (try simp only [UB, UC] at hn10)
  refine WD.heavy hX (hw := ?_)
  refine QJ en74 ?_
  refine node_w fun h11 g11 => ?_
  have hn11 := g11.1; (try simp only [UB, UC] at hn11)
  refine WD.heavy hX (hw := Qv ?_);refine WD.nil (hq := ?_);refine WC.ret ?_
  refine ⟨_, Wwres, ?_⟩
  refine hq10 _ _ Wwps Wwfr ⟨_, _, _, rfl, NV.of_kids ?_ _ _ _ _ _ _⟩
  exact (kv10.mono Wwne (fun j hS hj => by (try simp only [UB, UC] at hS); exact ⟨Wwne, Wwag⟩))

theorem decl_w {r : Rec} {n : Nat} (hn : n ≤ 1000000) (c : Ctr r) : CN 52 (declF n r) := by
 intro p L hd s h Q ps hq0
 have hp := ps.lt
 have hm : (tokAt L s.k).kind ≠ 6 → s.k + 1 < L.length := ps.wf.more ps.at_
 unfold declF at hq0
 simp only at hq0
 refine WCall.walk hX Tryz.func52 rfl rfl Tryz.ntmps52 rfl ?_
 refine QN hX ?_;refine QK (Qw ?_);refine QL ?_;refine QU hX ?_;refine WC.block hX ?_;refine QN hX ?_;refine QK (Qa ?_);refine QK (Qy ?_);refine QK ?_
 refine QJ en71 ?_
 refine is_w (L := L) (hd := hd) (s := s) (ts := [(⟨#[116, 121, 112, 101]⟩ : ByteArray)]) Wwps Wwobj Wwne rfl (by first | decide | simp) fun h1 g1 => ?_
 have hn1 := g1.1; (try simp only [UB, UC] at hn1)
 cases hb1 : isR L s [(⟨#[116, 121, 112, 101]⟩ : ByteArray)]
 case true =>
  rw [hb1, if_pos rfl] at hq0
  refine QK (Qb ?_);refine QQ hX ?_;refine QN hX ?_;refine QK (Qa ?_);refine QK ?_
  refine QJ en72 ?_
  refine take_w (L := L) (hd := hd) (s := s) Wwps (ps.wf.is ps.at_ hb1) fun h2 ps2 fr2 => ?_
  have hn2 := fr2.1; (try simp only [UB, UC] at hn2)
  generalize tokAt L s.k = tk at *
  refine QK (Qw ?_);refine QK (Qv ?_);refine QO hX ?_;refine QK (Qa ?_);refine QK ?_
  refine QJ en73 ?_
  refine name_w (hd := hd) Wwps (EndN.use Wwfr hq0 (fun _ _ x => x) fun tk3 s3 h3 v3 ps3 fr3 hv3 hq3 => ?_)
  subst hv3
  have hn3 := fr3.1; (try simp only [UB, UC] at hn3)
  refine QK (Qw ?_);refine QK (Qv ?_);refine QO hX ?_;refine QK (Qa ?_);refine QK ?_
  refine QJ en53 ?_
  refine want_w (hd := hd) Wwps (EndN.use Wwfr hq3 (fun _ _ x => x) fun tk4 s4 h4 v4 ps4 fr4 hv4 hq4 => ?_)
  subst hv4
  have hn4 := fr4.1; (try simp only [UB, UC] at hn4)
  refine QO hX ?_;refine QK (Qa ?_);refine QK ?_
  refine QJ en53 ?_
  refine want_w (hd := hd) Wwps (EndN.use Wwfr hq4 (fun _ _ x => x) fun tk5 s5 h5 v5 ps5 fr5 hv5 hq5 => ?_)
  subst hv5
  have hn5 := fr5.1; (try simp only [UB, UC] at hn5)
  refine QO hX ?_;refine QK (Qu ?_);refine QK (Qj ?_);refine QK (Qt ?_);refine QK ?_
  refine QJ en74 ?_
  refine node_w fun h6 g6 => ?_
  have hn6 := g6.1; (try simp only [UB, UC] at hn6)
  refine QK (Qw ?_);refine QK (Qv ?_);refine QL ?_;refine QU hX ?_;refine WC.block hX ?_
  refine WC.loopInv hX (α := Nat × List Nd × St) (m := fun a => a.1) (Inv := fun a e h' => e 0 = some (pV p) ∧ e 2 = some (.pointer (some ⟨h.next, 0, none⟩)) ∧ e 5 = some (.pointer (some ⟨h6.next, 0, none⟩)) ∧ PSt h' p L hd a.2.2 ∧ Fr1 p h h' ∧
   h'.obj h.next = some (.cells false [.int .i64 0, .string .empty, .int .i64 0, .int .i64 0, .string .empty, .int .i64 0, .slice none 0 0]) ∧ h6.next < h'.next ∧ a.1 + a.2.1.length ≤ n ∧ (∃ b n es, h'.obj h6.next = some (.cells false (ncells (nd 2 tk tk3.text a.2.1) b n es)) ∧ KV h' (fun j => h6.next < j) b n es a.2.1) ∧
   EndN (VN fun j => h.next ≤ j) p L hd h Q ((fieldsR r L hd a.1 a.2.1 a.2.2).then fun kids s => .ok (nd 2 tk tk3.text kids) s.next))
   (n, [], s5) ⟨rfl, rfl, rfl, Wwps, Wwfr, Wwobj, Wwne, by simp, ⟨none, 0, 0, Wwobj, KV.nil _ _⟩, hq5⟩ ?_
  rintro ⟨m, kids, s5⟩ env h5 ih ⟨e0, e2, e5, ps5, fr5, hoz, hn5, hm5, ⟨b5, n5, es5, hk5, kv5⟩, hq5⟩
  simp only at ps5 hm5 hk5 kv5 hq5
  have hnn5 := fr5.1
  obtain ⟨m, rfl⟩ : ∃ m', m = m' + 1 := by
   cases m with
   | zero => exact hq5.elim
   | succ m => exact ⟨m, rfl⟩
  unfold fieldsR untilR at hq5
  have hl5 := kv5.len
  refine QU hX ?_;refine QN hX ?_;refine QK (Qa ?_);refine QK (Qy ?_);refine QK ?_
  refine QJ en71 ?_
  refine is_w (L := L) (hd := hd) (s := s5) (ts := [(⟨#[125]⟩ : ByteArray)]) Wwps Wwobj Wwne rfl (by first | decide | simp) fun h17 g17 => ?_
  have hn17 := g17.1; (try simp only [UB, UC] at hn17)
  cases hb17 : isR L s5 [(⟨#[125]⟩ : ByteArray)]
  ·rw [hb17, if_neg Bool.false_ne_true] at hq5
   simp only [R.then_assoc] at hq5
   refine QK (Qe ?_);refine QQ hX ?_;refine UA ?_;refine WC.block hX ?_;refine QN hX ?_;refine QK (Qa ?_);refine QK ?_
   refine QJ en73 ?_
   refine name_w (hd := hd) Wwps (EndN.use Wwfr hq5 (fun _ _ x => x) fun tk20 s20 h20 v20 ps20 fr20 hv20 hq20 => ?_)
   subst hv20
   have hn20 := fr20.1; (try simp only [UB, UC] at hn20)
   refine QK (Qw ?_);refine QK (Qv ?_);refine QL ?_;refine QU hX ?_;refine WC.drawn (id := 9) hX (l := [⟨0, .pure, 0⟩, ⟨1, .read, 1⟩, ⟨2, .read, 0⟩, ⟨3, .pure, 0⟩, ⟨4, .read, 8⟩, ⟨5, .pure, 0⟩, ⟨6, .heavy, 32⟩, ⟨7, .alloc, 96⟩, ⟨8, .heavy, 252⟩, ⟨9, .alloc, 508⟩, ⟨10, .heavy, 1023⟩, ⟨11, .pure, 2047⟩, ⟨12, .heavy, 4095⟩]) (hw := ?_);refine QW (k := Qj ?_);refine QX (k := Qt ?_);refine QX (k := Qu ?_);refine QW (k := Qj ?_);refine QX (k := Qt ?_);refine QW (k := Qa ?_);refine WD.heavy hX (hw := ?_)
   refine QJ en75 ?_
   refine c.typ Wwps (EndN.use Wwfr hq20 (fun _ _ x => x) fun t8 s8 h8 v8 ps8 fr8 hv8 hq8 => ?_)
   obtain ⟨b8, n8, es8, rfl, kv8⟩ := hv8
   have hn8 := fr8.1; (try simp only [UB, UC] at hn8)
   refine WD.alloc (hw := Qz ?_);refine WD.heavy hX (hw := ?_)
   refine QJ en74 ?_
   refine node_w fun h22 g22 => ?_
   have hn22 := g22.1; (try simp only [UB, UC] at hn22)
   refine WD.alloc (hw := Qz ?_);refine WD.heavy hX (hw := ?_)
   have kvH := kv5.mono (S' := fun j => h6.next < j) (h' := (h22).alloc (.cells false (ncells (nd 5 tk20 tk20.text [t8]) (some ⟨h8.next, 0, none⟩) 1 7))) Wwne (fun j hS hj => ⟨Wwne, Wwag⟩)
   have hbne := kvH.ne
   obtain ⟨old, hsa, hol, hold⟩ := kvH.sliceAt
   have hol2 : kids.length ≤ 1000000 := by omega
   apply WS.append
   (· rfl); (· rfl); (· exact Wwev); (· exact Wwev); (· rfl); (· rfl); (· intro k hk; cases hk); (· exact fits_at rfl); (· decide); (· exact Wwobj); (· exact Wwlen); (· rfl); (· unfold room; omega); (· rfl); (· exact hsa)
   intro h9 hn9 ho9 hf9
   simp only [UB, UC] at hn9 ho9 hf9
   have hk9 : ∀ j, j ≤ h6.next → h9.obj j = ((h22).alloc (.cells false (ncells (nd 5 tk20 tk20.text [t8]) (some ⟨h8.next, 0, none⟩) 1 7))).obj j := fun j hj => hf9 j (by omega) (hbne j hj)
   have fr9 : Fr1 p h h9 := Fr1.keep (H := (h22).alloc (.cells false (ncells (nd 5 tk20 tk20.text [t8]) (some ⟨h8.next, 0, none⟩) 1 7))) Wwfr Wwne fun j hj => hk9 j (by omega)
   have kv9 : KV h9 (fun j => h6.next < j) (some ⟨(h22).next + 1, 0, none⟩) (n5 + 1) 7 (kids ++ [(nd 5 tk20 tk20.text [t8])]) := KV.snoc (h := (h22).alloc (.cells false (ncells (nd 5 tk20 tk20.text [t8]) (some ⟨h8.next, 0, none⟩) 1 7))) (S2 := fun j => h5.next ≤ j ∧ j < (h22).next) hol (by omega) hold (NV.of_kids (KV.one (S := fun j => h5.next ≤ j ∧ j < h8.next) Wwne Wwne Wwobj (kv8.mono Wwne (fun j hS hj => by (try simp only [UB, UC] at hS); exact ⟨⟨Wwne, hj⟩, Wwag⟩)) (fun j hS hj => ⟨⟨hS.1, by have := hS.2; exact Wwne⟩, by have := hS.2; exact Wwne⟩)) _ _ _ _ _ _) Wwne ho9 hf9 Wwne (fun x hx _ => by omega) (fun x hx hlt => ⟨by have := hx.1; omega, kv5.ge x hx.1⟩)
   have ps9 : PSt h9 p L hd s8 := PSt.keep (h := h22.alloc (.cells false (ncells (nd 5 tk20 tk20.text [t8]) (some ⟨h8.next, 0, none⟩) 1 7))) Wwps Wwne fun j hj => hk9 j (by omega)
   have ho9z : h9.obj h.next = some (.cells false [.int .i64 0, .string .empty, .int .i64 0, .int .i64 0, .string .empty, .int .i64 0, .slice none 0 0]) := (hk9 _ (by omega)).trans Wwobj
   have ho9b : h9.obj h6.next = some (.cells false (ncells (nd 2 tk tk3.text kids) b5 n5 es5)) := (hk9 _ (by omega)).trans Wwobj
   refine QW (k := Qj ?_);refine WD.heavy hX (hw := Qv ?_);refine WD.nil (hq := ?_);refine QV hX ?_;refine QK (Qa ?_);refine QK ?_
   refine QJ en53 ?_
   refine want_w (hd := hd) Wwps (EndN.use Wwfr hq8 (fun _ _ x => x) fun tk23 s23 h23 v23 ps23 fr23 hv23 hq23 => ?_)
   subst hv23
   have hn23 := fr23.1; (try simp only [UB, UC] at hn23)
   (try simp only [R.then_ok] at hq23)
   refine QL ?_
   exact ih (m, kids ++ [nd 5 tk20 tk20.text [t8]], s23) _ _ (by simp) ⟨e0, e2, e5, Wwps, Wwfr, Wwobj, Wwne, by simp; omega, ⟨_, _, _, Wwobj, kv9.mono Wwne (fun j hS hj => by (try simp only [UB, UC] at hS); exact ⟨Wwne, Wwag⟩)⟩, hq23⟩
  ·rw [hb17, if_pos rfl] at hq5
   rw [R.then_ok] at hq5
   refine QK (Qe ?_);refine QP hX ?_;refine WC.exit ?_;refine exit_here ?_;refine QN hX ?_;refine QK (Qa ?_);refine QK ?_
   refine QJ en72 ?_
   refine take_w (L := L) (hd := hd) (s := s5) Wwps (ps5.wf.is ps5.at_ hb17) fun h7 ps7 fr7 => ?_
   have hn7 := fr7.1; (try simp only [UB, UC] at hn7)
   refine QO hX ?_;refine QK (Qu ?_);refine QK (Qv ?_);refine QM ?_
   refine ⟨_, Wwres, ?_⟩
   refine hq5 _ _ Wwps Wwfr ⟨_, _, _, rfl, NV.of_kids ?_ _ _ _ _ _ _⟩
   exact (kv5.mono Wwne (fun j hS hj => by (try simp only [UB, UC] at hS); exact ⟨Wwne, Wwag⟩))
 rw [hb1, if_neg Bool.false_ne_true] at hq0
 refine QK (Qb ?_);refine QP hX ?_;refine QN hX ?_;refine QK (Qa ?_);refine QK (Qy ?_);refine QK ?_
 refine QJ en71 ?_
 refine is_w (L := L) (hd := hd) (s := s) (ts := [(⟨#[118, 97, 114]⟩ : ByteArray)]) Wwps Wwobj Wwne rfl (by first | decide | simp) fun h11 g11 => ?_
 have hn11 := g11.1; (try simp only [UB, UC] at hn11)
 cases hb11 : isR L s [(⟨#[118, 97, 114]⟩ : ByteArray)]
 case true =>
  rw [hb11, if_pos rfl] at hq0
  refine QK (Qb ?_);refine QQ hX ?_;refine QN hX ?_;refine QK (Qa ?_);refine QK ?_
  refine QJ en72 ?_
  refine take_w (L := L) (hd := hd) (s := s) Wwps (ps.wf.is ps.at_ hb11) fun h2 ps2 fr2 => ?_
  have hn2 := fr2.1; (try simp only [UB, UC] at hn2)
  generalize tokAt L s.k = tk at *
  refine QK (Qw ?_);refine QK (Qv ?_);refine QO hX ?_;refine QK (Qa ?_);refine QK ?_
  refine QJ en73 ?_
  refine name_w (hd := hd) Wwps (EndN.use Wwfr hq0 (fun _ _ x => x) fun tk3 s3 h3 v3 ps3 fr3 hv3 hq3 => ?_)
  subst hv3
  have hn3 := fr3.1; (try simp only [UB, UC] at hn3)
  refine QK (Qw ?_);refine QK (Qv ?_);refine QL ?_;refine QU hX ?_;refine WC.drawn (id := 16) hX (l := [⟨0, .read, 0⟩, ⟨1, .pure, 0⟩, ⟨2, .read, 2⟩, ⟨3, .pure, 0⟩, ⟨4, .heavy, 8⟩, ⟨5, .alloc, 24⟩, ⟨6, .heavy, 63⟩, ⟨7, .heavy, 127⟩]) (hw := ?_);refine QX (k := Qu ?_);refine QW (k := Qj ?_);refine QX (k := Qt ?_);refine QW (k := Qa ?_);refine WD.heavy hX (hw := ?_)
  refine QJ en75 ?_
  refine c.typ Wwps (EndN.use Wwfr hq3 (fun _ _ x => x) fun t4 s4 h4 v4 ps4 fr4 hv4 hq4 => ?_)
  obtain ⟨b4, n4, es4, rfl, kv4⟩ := hv4
  have hn4 := fr4.1; (try simp only [UB, UC] at hn4)
  refine WD.alloc (hw := Qz ?_);refine WD.heavy hX (hw := ?_)
  refine QJ en74 ?_
  refine node_w fun h6 g6 => ?_
  have hn6 := g6.1; (try simp only [UB, UC] at hn6)
  refine WD.heavy hX (hw := Qv ?_);refine WD.nil (hq := ?_);refine WC.ret ?_
  refine ⟨_, Wwres, ?_⟩
  refine hq4 _ _ Wwps Wwfr ⟨_, _, _, rfl, NV.of_kids ?_ _ _ _ _ _ _⟩
  exact (KV.one (S := fun j => h.next ≤ j ∧ j < h4.next) Wwne Wwne Wwobj (kv4.mono Wwne (fun j hS hj => by (try simp only [UB, UC] at hS); exact ⟨⟨Wwne, hj⟩, Wwag⟩)) (fun j hS hj => ⟨by have := hS.1; exact Wwne, by have := hS.2; exact Wwne⟩))
 rw [hb11, if_neg Bool.false_ne_true] at hq0
 refine QK (Qb ?_);refine QP hX ?_;refine QN hX ?_;refine QK (Qa ?_);refine QK (Qy ?_);refine QK ?_
 refine QJ en71 ?_
 refine is_w (L := L) (hd := hd) (s := s) (ts := [(⟨#[102, 117, 110, 99]⟩ : ByteArray)]) Wwps Wwobj Wwne rfl (by first | decide | simp) fun h12 g12 => ?_
 have hn12 := g12.1; (try simp only [UB, UC] at hn12)
 cases hb12 : isR L s [(⟨#[102, 117, 110, 99]⟩ : ByteArray)]
 case true =>
  rw [hb12, if_pos rfl] at hq0
  refine QK (Qb ?_);refine QQ hX ?_;refine QN hX ?_;refine QK (Qa ?_);refine QK ?_
  refine QJ en72 ?_
  refine take_w (L := L) (hd := hd) (s := s) Wwps (ps.wf.is ps.at_ hb12) fun h2 ps2 fr2 => ?_
  have hn2 := fr2.1; (try simp only [UB, UC] at hn2)
  generalize tokAt L s.k = tk at *
  refine QK (Qw ?_);refine QK (Qv ?_);refine QO hX ?_;refine QK (Qa ?_);refine QK ?_
  refine QJ en73 ?_
  refine name_w (hd := hd) Wwps (EndN.use Wwfr hq0 (fun _ _ x => x) fun tk3 s3 h3 v3 ps3 fr3 hv3 hq3 => ?_)
  subst hv3
  have hn3 := fr3.1; (try simp only [UB, UC] at hn3)
  refine QK (Qw ?_);refine QK (Qv ?_);refine QL ?_;refine QU hX ?_;refine WC.drawn (id := 20) hX (l := [⟨0, .read, 0⟩, ⟨1, .pure, 0⟩, ⟨2, .read, 2⟩, ⟨3, .pure, 0⟩, ⟨4, .heavy, 8⟩, ⟨5, .heavy, 31⟩, ⟨6, .heavy, 63⟩]) (hw := ?_);refine QX (k := Qu ?_);refine QW (k := Qj ?_);refine QX (k := Qt ?_);refine QW (k := Qa ?_);refine WD.heavy hX (hw := ?_)
  refine QJ en76 ?_
  refine c.function Wwps (EndN.use Wwfr hq3 (fun _ _ x => x) fun t4 s4 h4 v4 ps4 fr4 hv4 hq4 => ?_)
  obtain ⟨b4, n4, es4, rfl, kv4⟩ := hv4
  have hn4 := fr4.1; (try simp only [UB, UC] at hn4)
  refine WD.heavy hX (hw := ?_)
  refine QJ en74 ?_
  refine node_w fun h6 g6 => ?_
  have hn6 := g6.1; (try simp only [UB, UC] at hn6)
  refine WD.heavy hX (hw := Qv ?_);refine WD.nil (hq := ?_);refine WC.ret ?_
  refine ⟨_, Wwres, ?_⟩
  refine hq4 _ _ Wwps Wwfr ⟨_, _, _, rfl, NV.of_kids ?_ _ _ _ _ _ _⟩
  exact (kv4.mono Wwne (fun j hS hj => by (try simp only [UB, UC] at hS); exact ⟨Wwne, Wwag⟩))
 rw [hb12, if_neg Bool.false_ne_true] at hq0
 refine QK (Qb ?_);refine QP hX ?_;refine UA ?_;refine QN hX ?_;refine QK (Qa ?_);refine QK ?_
 refine QJ en77 ?_
 exact failN_w (hd := hd) Wwps Wwfr hq0 (fun _ _ x => x)

theorem file_w {r : Rec} {n : Nat} (hn : n ≤ 1000000) (c : Ctr r) : CN 31 (fileF n r) := by
 intro p L hd s h Q ps hq0
 have hp := ps.lt
 unfold fileF at hq0
 refine WCall.walk hX Tryz.func31 rfl rfl Tryz.ntmps31 rfl ?_
 refine QN hX ?_;refine QK (Qw ?_);refine QO hX ?_;refine QK (Qn ?_);refine QK (Qw ?_);refine QK (Qv ?_);refine QL ?_;refine QU hX ?_;refine WC.block hX ?_
 refine WC.loopInv hX (α := Nat × List Nd × St) (m := fun a => a.1) (Inv := fun a e h' => e 0 = some (pV p) ∧ e 2 = some (.pointer (some ⟨h.next, 0, none⟩)) ∧ e 3 = some (.pointer (some ⟨h.next + 1, 0, none⟩)) ∧ PSt h' p L hd a.2.2 ∧ Fr1 p h h' ∧
  h'.obj h.next = some (.cells false [.int .i64 0, .string .empty, .int .i64 0, .int .i64 0, .string .empty, .int .i64 0, .slice none 0 0]) ∧ h.next + 1 < h'.next ∧ a.1 + a.2.1.length ≤ n ∧ (∃ b n es, h'.obj (h.next + 1) = some (.cells false (ncells (.mk 1 (⟨#[]⟩ : ByteArray) 0 0 (⟨#[]⟩ : ByteArray) 0 a.2.1) b n es)) ∧ KV h' (fun j => h.next + 1 < j) b n es a.2.1) ∧
  EndN (VN fun j => h.next ≤ j) p L hd h Q ((fileGo n r L hd a.1 a.2.1 a.2.2).then fun kids s => .ok (.mk 1 (⟨#[]⟩ : ByteArray) 0 0 (⟨#[]⟩ : ByteArray) 0 kids) s))
  (n, [], s) ⟨rfl, rfl, rfl, Wwps, Wwfr, Wwobj, Wwne, by simp, ⟨none, 0, 0, Wwobj, KV.nil _ _⟩, hq0⟩ ?_
 rintro ⟨m, kids, s5⟩ env h5 ih ⟨e0, e2, e5, ps5, fr5, hoz, hn5, hm5, ⟨b5, n5, es5, hk5, kv5⟩, hq5⟩
 simp only at ps5 hm5 hk5 kv5 hq5
 have hnn5 := fr5.1
 obtain ⟨m, rfl⟩ : ∃ m', m = m' + 1 := by
  cases m with
  | zero => exact hq5.elim
  | succ m => exact ⟨m, rfl⟩
 unfold fileGo at hq5
 have hl5 := kv5.len
 refine QU hX ?_;refine QN hX ?_;refine QK (Qa ?_);refine QK ?_
 refine QJ en51 ?_
 refine peek_w (L := L) (hd := hd) (s := s5) Wwps fun h6 g6 => ?_
 have hn6 := g6.1; (try simp only [UB, UC] at hn6)
 refine QK (Qk ?_);refine QK (QE ?_ ?_);intro hh;refine QQ hX ?_;refine UA ?_;refine WC.block hX ?_;refine QU hX ?_;refine WC.drawn (id := 3) hX (l := [⟨0, .pure, 0⟩, ⟨1, .read, 1⟩, ⟨2, .pure, 0⟩, ⟨3, .heavy, 4⟩, ⟨4, .alloc, 12⟩, ⟨5, .heavy, 31⟩, ⟨6, .pure, 63⟩, ⟨7, .heavy, 127⟩]) (hw := ?_);refine QW (k := Qj ?_);refine QX (k := Qt ?_);refine QW (k := Qa ?_);refine WD.heavy hX (hw := ?_);rotate_left;intro hh;refine QP hX ?_;refine WC.exit ?_;refine exit_here ?_;refine QN hX ?_;refine QK (Qu ?_);refine QK (Qv ?_);refine QM ?_;rotate_left
 ·rw [if_neg (by assumption)] at hq5
  simp only [R.then_assoc] at hq5
  refine QJ en52 ?_
  refine decl_w hn c Wwps (EndN.use Wwfr hq5 (fun _ _ x => x) fun t8 s8 h8 v8 ps8 fr8 hv8 hq8 => ?_)
  obtain ⟨b8, n8, es8, rfl, kv8⟩ := hv8
  have hn8 := fr8.1
  (try simp only [UB, UC] at hn8)
  refine WD.alloc (hw := Qz ?_);refine WD.heavy hX (hw := ?_)
  have kvH := kv5.mono (S' := fun j => (h.next + 1) < j) (h' := (h8).alloc (.cells false (ncells t8 b8 n8 es8))) Wwne (fun j hS hj => ⟨Wwne, Wwag⟩)
  have hbne := kvH.ne
  obtain ⟨old, hsa, hol, hold⟩ := kvH.sliceAt
  have hol2 : kids.length ≤ 1000000 := by omega
  apply WS.append
  (· rfl); (· rfl); (· exact Wwev); (· exact Wwev); (· rfl); (· rfl); (· intro k hk; cases hk); (· exact fits_at rfl); (· decide); (· exact Wwobj); (· exact Wwlen); (· rfl); (· unfold room; omega); (· rfl); (· exact hsa)
  intro h9 hn9 ho9 hf9
  simp only [UB, UC] at hn9 ho9 hf9
  have hk9 : ∀ j, j ≤ (h.next + 1) → h9.obj j = ((h8).alloc (.cells false (ncells t8 b8 n8 es8))).obj j := fun j hj => hf9 j (by omega) (hbne j hj)
  have fr9 : Fr1 p h h9 := Fr1.keep (H := (h8).alloc (.cells false (ncells t8 b8 n8 es8))) Wwfr Wwne fun j hj => hk9 j (by omega)
  have kv9 : KV h9 (fun j => (h.next + 1) < j) (some ⟨(h8).next + 1, 0, none⟩) (n5 + 1) 7 (kids ++ [t8]) := KV.snoc (h := (h8).alloc (.cells false (ncells t8 b8 n8 es8))) (S2 := fun j => h5.next ≤ j ∧ j < (h8).next) hol (by omega) hold (kv8.mono Wwne (fun j hS hj => by (try simp only [UB, UC] at hS); exact ⟨⟨Wwne, Wwne⟩, Wwag⟩)) Wwne ho9 hf9 Wwne (fun x hx _ => by omega) (fun x hx hlt => ⟨by have := hx.1; omega, kv5.ge x hx.1⟩)
  have ps9 : PSt h9 p L hd s8 := PSt.keep (h := h8.alloc (.cells false (ncells t8 b8 n8 es8))) Wwps Wwne fun j hj => hk9 j (by omega)
  have ho9z : h9.obj h.next = some (.cells false [.int .i64 0, .string .empty, .int .i64 0, .int .i64 0, .string .empty, .int .i64 0, .slice none 0 0]) := (hk9 _ (by omega)).trans Wwobj
  have ho9b : h9.obj (h.next + 1) = some (.cells false (ncells (.mk 1 (⟨#[]⟩ : ByteArray) 0 0 (⟨#[]⟩ : ByteArray) 0 kids) b5 n5 es5)) := (hk9 _ (by omega)).trans Wwobj
  refine QW (k := Qj ?_);refine WD.heavy hX (hw := Qv ?_);refine WD.nil (hq := ?_);refine QV hX ?_;refine QK (Qa ?_);refine QK ?_
  refine QJ en53 ?_
  refine want_w (hd := hd) Wwps (EndN.use Wwfr hq8 (fun _ _ x => x) fun tk23 s23 h23 v23 ps23 fr23 hv23 hq23 => ?_)
  subst hv23
  have hn23 := fr23.1; (try simp only [UB, UC] at hn23)
  refine QL ?_
  exact ih (m, kids ++ [t8], s23) _ _ (by simp) ⟨e0, e2, e5, Wwps, Wwfr, Wwobj, Wwne, by simp; omega, ⟨_, _, _, Wwobj, kv9.mono Wwne (fun j hS hj => by (try simp only [UB, UC] at hS); exact ⟨Wwne, Wwag⟩)⟩, hq23⟩
 ·rw [if_pos (Decidable.of_not_not (by assumption)), R.then_ok] at hq5
  refine ⟨_, Wwres, ?_⟩
  refine hq5 _ _ Wwps Wwfr ⟨_, _, _, rfl, NV.of_kids ?_ _ _ _ _ _ _⟩
  exact (kv5.mono Wwne (fun j hS hj => by (try simp only [UB, UC] at hS); exact ⟨Wwne, Wwag⟩))

theorem ctr_0 : Ctr Rec.none where
 typ := fun _ h => h.elim
 function := fun _ h => h.elim
 block := fun _ h => h.elim
 stmts := fun _ h => h.elim
 stmt := fun _ h => h.elim
 nested := fun _ h => h.elim
 branch := fun _ h => h.elim
 expr := fun _ h => h.elim
 unary := fun _ h => h.elim
 primary := fun _ h => h.elim
 simple := fun _ h => h.elim
 binary := fun _ _ _ _ _ _ _ _ _ h => h.elim
theorem ctr_N : ∀ n, n ≤ 1000000 → Ctr (recN n)
 | 0, _ => ctr_0
 | n + 1, hn => by
  have c := ctr_N n (by omega)
  have h : n ≤ 1000000 := by omega
  exact ⟨typ_w h c, function_w h c, block_w c, stmts_w h c, stmt_w c, nested_w h c, branch_w c, expr_w c, unary_w c, primary_w h c, simple_w c, binary_w h c⟩

end Go.Proofs.ZL
end

section
open Go Go.Am
namespace Go.Proofs.ZL
set_option maxRecDepth 100000
set_option linter.unusedSimpArgs false
set_option linter.unusedVariables false
set_option maxHeartbeats 1000000

def zeroN : Nd := .mk 0 (⟨#[]⟩ : ByteArray) 0 0 (⟨#[]⟩ : ByteArray) 0 []

theorem allGo_last {src : ByteArray} : ∀ (m k : Nat) (l : List Tok), k ≤ src.size → src.size - k < m → (allGo src m k l).err.isOk = true → ∃ l' p, (allGo src m k l).list = l' ++ [⟨6, (⟨#[]⟩ : ByteArray), 0, p⟩]
 | 0, k, l, hk, hm, _ => by omega
 | m + 1, k, l, hk, hm, h => by
  unfold allGo at h ⊢
  split at h
  ·rename_i h1; rw [if_pos h1]; exact ⟨_, _, rfl⟩
  ·rename_i h1; rw [if_neg h1]
   split at h
   ·rename_i h2; rw [if_pos h2]
    have := nextS_ok (l := l) (show k < src.size by omega) h2
    exact allGo_last m _ _ this.2.1 (by omega) h
   ·rename_i h2; exact (h2 h).elim

theorem scan_wf {src : ByteArray} (h : (scanS src).stage = 0) : WF (scanS src).toks ∧ 0 < (scanS src).toks.length ∧ (scanS src).pos = 0 := by
 unfold scanS at h ⊢
 split at h
 ·simp at h
 rename_i hsz
 rw [if_neg hsz]
 split at h
 case isFalse => simp at h
 rename_i hok
 rw [if_pos hok]
 split at h
 ·simp at h
 rename_i hd
 have hlen := allGo_len (src := src) (src.size + 1) 0 [] (by omega) (by simp) hok
 obtain ⟨l', p, hl⟩ := allGo_last (src := src) (src.size + 1) 0 [] (by omega) (by omega) hok
 have hlen' : (allS src).list.length ≤ src.size + 2 := hlen
 have hl' : (allS src).list = l' ++ [⟨6, (⟨#[]⟩ : ByteArray), 0, p⟩] := hl
 simp only [hd]
 refine ⟨⟨by omega, fun k hk => ?_⟩, by rw [hl']; simp, trivial⟩
 rw [hl'] at hk ⊢
 simp only [List.length_append, List.length_singleton] at hk
 have : k = l'.length := by omega
 subst this
 unfold tokAt
 rw [List.getD_eq_getElem?_getD, List.getElem?_append_right (Nat.le_refl _), Nat.sub_self]
 rfl

def parseN (n : Nat) (src : ByteArray) : Option (Nd × Int × Int) :=
 if (scanS src).stage ≠ 0 then some (zeroN, (scanS src).stage, (scanS src).pos)
 else match fileF n (recN n) (scanS src).toks false ⟨0, false⟩ with
  | .ok t _ => some (t, 0, 0)
  | .bad e => some (zeroN, 4, (tokAt (scanS src).toks e).pos)
  | .out => none

def syntaxV (p : Int) (w : ByteArray) : Value := .iface 74 (.agg #[.iface 51 (wrongA p w)])

theorem catch_w {i : Nat} (pos : Int) (w : ByteArray) {h4 : Heap} (hz : h4.obj i = some (.cells false [.int .i64 0, .string .empty, .int .i64 0, .int .i64 0, .string .empty, .int .i64 0, .slice none 0 0])) (he : h4.obj (i + 1) = some (.cells false [.nilIface])) (hi : i + 1 < h4.next) :
  ∃ k e h5, regA Tryz.prog G (callN Tryz.prog G X k) (Tryz.f30).ntmps catchOps true (catchEnv (.pointer (some ⟨i, 0, none⟩)) (.pointer (some ⟨i + 1, 0, none⟩)) h4.next) (h4.alloc (.cells false [.int .i64 pos, .iface 123 (.string w)])) = some (.ok e h5) ∧
   (h4.next ≤ h5.next ∧ ∀ j, j < h4.next → j ≠ i → j ≠ i + 1 → h5.obj j = h4.obj j) ∧ h5.obj i = some (.cells false [.int .i64 0, .string .empty, .int .i64 0, .int .i64 0, .string .empty, .int .i64 0, .slice none 0 0]) ∧ h5.obj (i + 1) = some (.cells false [syntaxV pos w]) := by
 refine WC.regOut (id := 2) ?_
 refine WC.drawn (id := 2) hX (l := [⟨0, .pure, 0⟩, ⟨1, .read, 0⟩, ⟨2, .pure, 2⟩, ⟨3, .pure, 6⟩, ⟨4, .pure, 14⟩, ⟨5, .heavy, 1⟩, ⟨6, .heavy, 63⟩]) (hw := ?_)
 refine QW (k := Qn ?_);refine QX (k := Qu ?_);refine QW (k := Qo ?_);refine QW (k := Qn ?_);refine QW (k := Qo ?_);refine WD.heavy hX (hw := Qv ?_);refine WD.heavy hX (hw := Qv ?_);refine WD.nil (hq := ?_)
 exact ⟨⟨by simp, fun j h1 h2 h3 => Wwag⟩, Wwobj, Wwobj⟩

theorem parsed_w {n : Nat} (hn : n ≤ 1000000) {L : List Tok} (wf : WF L) (hL : 0 < L.length) {j : Nat} {h : Heap} {Q : ARes → Prop} (ho : h.obj j = some (.cells false (cellsOf L))) (hj : j < h.next)
  (hok : ∀ t s, fileF n (recN n) L false ⟨0, false⟩ = .ok t s → ∀ h' b m es, Gr h h' → NV h' (fun j => h.next ≤ j) (ncells t b m es) t → Q (.ret (.tuple #[.agg (ncells t b m es).toArray, .nilIface]) h'))
  (hbad : ∀ e, fileF n (recN n) L false ⟨0, false⟩ = .bad e → ∀ h' w, Gr h h' → Q (.ret (.tuple #[.agg (ncells zeroN none 0 0).toArray, syntaxV (tokAt L e).pos w]) h'))
  (hout : fileF n (recN n) L false ⟨0, false⟩ ≠ .out) : WCall Tryz.prog G X 20 [.slice (some ⟨j, 0, none⟩) L.length 4] h Q := by
 refine WCall.defer (P := Tryz.prog) (X := X) (f := 20) (catchO := catchP) hX rfl catchP_le (Nat.le_of_ble_eq_true rfl) ?_
 refine QK (Qw ?_);refine QK (Qw ?_);refine QL ?_
 refine ⟨_, _, rfl, rfl, ?_⟩
 show WR _ _ _ _ _ _ _ _ _ _
 refine QK (Qa ?_);refine QK (Qn ?_);refine QK (Qx ?_);refine QK (Qb ?_);refine QL ?_
 show WR _ _ _ _ _ _ _ _ _ _
 refine QK (Qa ?_);refine QK ?_
 refine QJ en31 ?_
 have ps : PSt (((h.alloc (.cells false [.int .i64 0, .string .empty, .int .i64 0, .int .i64 0, .string .empty, .int .i64 0, .slice none 0 0])).alloc (.cells false [.nilIface])).alloc (.cells false [.slice (some ⟨j, 0, none⟩) L.length 4, .int .i64 0, .bool false, .bool false])) (h.next + 2) L false ⟨0, false⟩ :=
  ⟨by simp, ⟨j, by omega, obj_new, Wwobj⟩, hL, wf⟩
 refine file_w hn (ctr_N n hn) ps ?_
 cases hr : fileF n (recN n) L false ⟨0, false⟩ with
 | out => exact (hout hr).elim
 | ok t s =>
  intro h4 v ps4 fr4 hv
  obtain ⟨b4, n4, es4, rfl, kv4⟩ := hv
  have hn4 := fr4.1
  (try simp only [UB, UC] at hn4)
  have g4 : Gr h h4 := ⟨by omega, fun i hi => (fr4.2 i Wwne (by simp only [Heap.alloc_next]; omega)).trans Wwag⟩
  refine QK (Qv ?_);refine QK (Qv ?_);refine QL ?_
  refine ⟨_, Wwres, ?_⟩
  refine hok t s hr _ _ _ _ Wwgr (kv4.mono Wwne (fun j hS hj => by (try simp only [UB, UC] at hS); exact ⟨Wwne, Wwag⟩))
 | bad e0 =>
  intro h4 w fr4
  have hb := hbad e0 hr
  generalize (tokAt L e0).pos = pos at hb ⊢
  have hn4 := fr4.1
  (try simp only [UB, UC] at hn4)
  have g4 : Gr h h4 := ⟨by omega, fun i hi => (fr4.2 i Wwne (by simp only [Heap.alloc_next]; omega)).trans Wwag⟩
  have hz4 : h4.obj h.next = some (.cells false [.int .i64 0, .string .empty, .int .i64 0, .int .i64 0, .string .empty, .int .i64 0, .slice none 0 0]) := fr4.at Wwne Wwne Wwobj
  have he4 : h4.obj (h.next + 1) = some (.cells false [.nilIface]) := fr4.at Wwne Wwne Wwobj
  obtain ⟨k, e5, h5, hreg, g5, ho1, ho2⟩ := catch_w pos w hz4 he4 (by omega)
  have g5' : Gr h h5 := ⟨by have := g5.1; omega, fun i hi => (g5.2 i (by omega) (by omega) (by omega)).trans (g4.2 i hi)⟩
  refine ⟨k, h5, [.agg (ncells zeroN none 0 0).toArray, syntaxV pos w], ?_, ?_, hb h5 w g5'⟩
  ·show (match regA Tryz.prog 0 (callN Tryz.prog G X k) (Tryz.f30).ntmps catchOps true (catchEnv (.pointer (some ⟨h.next, 0, none⟩)) (.pointer (some ⟨h.next + 1, 0, none⟩)) h4.next) (h4.alloc (.cells false [.int .i64 pos, .iface 123 (.string w)])) with
    | some (.ok _ h2) => some h2
    | _ => none) = some h5
   rw [hreg]
  ·apply resultA_cellG; (· rfl); (· rfl); (· exact sz_at rfl); (· exact Wwobj); (· exact Wwlen); (· rfl)
   apply resultA_cellS; (· rfl); (· rfl); (· exact Wwobj); (· rfl)
   exact resultA_nil

theorem Parse_w {n : Nat} (hn : n ≤ 1000000) {src : ByteArray} {t : Nd} {st p : Int} (hs : parseN n src = some (t, st, p)) {h : Heap} {Q : ARes → Prop}
  (hq : ∀ h' b m es, Gr h h' → NV h' (fun j => h.next ≤ j) (ncells t b m es) t → Q (.ret (.tuple #[.agg (ncells t b m es).toArray, .agg #[.int .i64 st, .int .i64 p]]) h')) : WCall Tryz.prog G X 12 [.string src] h Q := by
 unfold parseN at hs
 refine WCall.walk hX Tryz.func12 rfl rfl Tryz.ntmps12 rfl ?_
 refine QN hX ?_;refine QK (Qw ?_);refine QK (Qw ?_);refine QO hX ?_;refine QK (Qa ?_);refine QK ?_
 refine QJ en19 ?_
 refine scan_w fun h1 b1 n1 es1 g1 ht1 => ?_
 have hn1 := g1.1
 (try simp only [UB, UC] at hn1)
 refine QK (Qa ?_);refine QK (Qq ?_);refine QK (Qq ?_);refine QK (Qw ?_);refine QK (Qb ?_);refine QK (Qv ?_);refine QL ?_;refine QU hX ?_;refine QN hX ?_;refine QK (Qu ?_);refine QK (Qn ?_);refine QK ?_;refine WS_ne26 (h1 := ?_) (h2 := ?_);intro hh;refine QP hX ?_;refine UA ?_;refine QN hX ?_;refine QK (Qa ?_);refine QK ?_;rotate_left;intro hh;refine QQ hX ?_;refine QU hX ?_;refine WC.drawn (id := 3) hX (l := [⟨0, .pure, 0⟩, ⟨1, .read, 0⟩, ⟨2, .heavy, 1⟩, ⟨3, .heavy, 7⟩]) (hw := ?_);refine QW (k := Qn ?_);refine QX (k := Qu ?_);refine WD.heavy hX (hw := Qv ?_);refine WD.heavy hX (hw := Qv ?_);refine WD.nil (hq := ?_);refine WC.ret ?_;rotate_left
 all_goals have gh : Gr h h1 ∧ True := ⟨((Gr.alloc _ _).trans (Gr.alloc _ _)).trans g1, trivial⟩
 ·rw [if_neg (show ¬((scanS src).stage ≠ 0) by simp [hh.1])] at hs
  obtain ⟨wf, hL, _⟩ := scan_wf hh.1
  rcases ht1 with ⟨_, _, _, hnil⟩ | ⟨i, rfl, hlo, hlt, rfl, rfl, hoi⟩
  ·rw [hnil] at hL; simp at hL
  (try simp only [UB, UC] at hlo)
  generalize (scanS src).toks = L at *
  refine QJ en20 ?_
  refine parsed_w hn wf hL (j := i) Wwobj Wwne (fun t' s hr h2 b2 n2 es2 g2 kv2 => ?_) (fun e0 hr h2 w g2 => ?_) (fun hr => by rw [hr] at hs; cases hs)
  ·rw [hr] at hs
   cases hs
   have hn2 := g2.1
   (try simp only [UB, UC] at hn2)
   have gh2 : Gr h h2 ∧ True := ⟨(Gr.put (gh.1.trans (Gr.alloc _ _)) (by omega)).trans g2, trivial⟩
   refine QK (Qa ?_);refine QK (Qq ?_);refine QK (Qq ?_);refine QK (Qw ?_);refine QK (Qv ?_);refine QK (Qb ?_);refine QO hX ?_;refine QK (Qw ?_);refine QL ?_;refine QU hX ?_;refine QN hX ?_;refine QK (Qa ?_);refine QK (Qo ?_);refine QK ?_
   refine QJ en21 ?_
   refine WCall.ext (X := X) (o := asO) rfl (fun C => rfl) ?_
   refine QP hX ?_;refine UA ?_;refine QN hX ?_;refine QK (Qu ?_);refine QK (Qn ?_);refine QK (Qv ?_);refine QK (Qv ?_);refine QM ?_
   refine ⟨_, Wwres, ?_⟩
   refine hq _ _ _ _ (by have := gh2.1; exact Wwgr) (kv2.mono Wwne (fun j hS hj => by (try simp only [UB, UC] at hS); exact ⟨Wwne, Wwag⟩))
  ·rw [hr] at hs
   simp only at hs
   generalize (tokAt L e0).pos = pos at hs ⊢
   cases hs
   have hn2 := g2.1
   (try simp only [UB, UC] at hn2)
   have gh2 : Gr h h2 ∧ True := ⟨(Gr.put (gh.1.trans (Gr.alloc _ _)) (by omega)).trans g2, trivial⟩
   refine QK (Qa ?_);refine QK (Qq ?_);refine QK (Qq ?_);refine QK (Qw ?_);refine QK (Qv ?_);refine QK (Qb ?_);refine QO hX ?_;refine QK (Qw ?_);refine QL ?_;refine QU hX ?_;refine QN hX ?_;refine QK (Qa ?_);refine QK (Qo ?_);refine QK ?_
   refine QJ en21 ?_
   generalize hH : (h2.alloc (.cells false [.int .i64 0, .string ⟨#[]⟩, .int .i64 0, .int .i64 0, .string ⟨#[]⟩, .int .i64 0, .slice none 0 0])).put h2.next _ = H
   have hnH : H.next = h2.next + 1 := by rw [← hH]; rfl
   have gH : Gr h H ∧ True := ⟨by rw [← hH]; exact Gr.put (gh2.1.trans (Gr.alloc _ _)) (by omega), trivial⟩
   have hz : H.obj h.next = some (.cells false [.int .i64 0, .string .empty, .int .i64 0, .int .i64 0, .string .empty, .int .i64 0, .slice none 0 0]) := by
    rw [← hH]
    refine obj_else (by omega) (obj_old (by omega) (g2.at Wwne ?_))
    exact Wwobj
   have hf : H.obj (h.next + 1) = some (.cells false [.int .i64 0, .int .i64 0]) := by
    rw [← hH]
    refine obj_else (by omega) (obj_old (by omega) (g2.at Wwne ?_))
    exact Wwobj
   have hst : storeA Tryz.prog 51 H.next 0 (wrongA p w) (H.alloc (.cells false [.int .i64 0, .nilIface])) = some ((H.alloc (.cells false [.int .i64 0, .nilIface])).put H.next (some (.cells false [.int .i64 p, .iface 123 (.string w)]))) :=
    storeA_of rfl obj_new (Nat.le_refl 2) rfl rfl
   refine WCall.ext (X := X) (o := asO) (r := .ret (.bool true) ((H.alloc (.cells false [.int .i64 0, .nilIface])).put H.next (some (.cells false [.int .i64 p, .iface 123 (.string w)])))) rfl (fun C => ?_) ?_
   ·show (storeA Tryz.prog 51 H.next 0 (wrongA p w) (H.alloc (.cells false [.int .i64 0, .nilIface]))).map _ = _
    rw [hst]; rfl
   refine QQ hX ?_;refine QU hX ?_;refine WC.drawn (id := 7) hX (l := [⟨0, .pure, 0⟩, ⟨1, .pure, 0⟩, ⟨2, .read, 2⟩, ⟨3, .pure, 6⟩, ⟨4, .heavy, 1⟩, ⟨5, .heavy, 31⟩]) (hw := ?_);refine QW (k := Qn ?_);refine QW (k := Qj ?_);refine QX (k := Qt ?_);refine QW (k := Qn ?_);refine WD.heavy hX (hw := Qv ?_);refine WD.heavy hX (hw := Qv ?_);refine WD.nil (hq := ?_);refine WC.ret ?_
   refine ⟨_, Wwres, ?_⟩
   exact hq _ none 0 0 (by have := gH.1; exact Wwgr) (.leaf _ _ _ _ _ _)
 ·have hst : (scanS src).stage ≠ 0 := fun h0 => hh ⟨h0, (scan_wf h0).2.2, trivial⟩
  rw [if_pos hst] at hs
  cases hs
  refine ⟨_, Wwres, ?_⟩
  exact hq _ none 0 0 (by have := gh.1; exact Wwgr) (.leaf _ _ _ _ _ _)

end Go.Proofs.ZL
end
