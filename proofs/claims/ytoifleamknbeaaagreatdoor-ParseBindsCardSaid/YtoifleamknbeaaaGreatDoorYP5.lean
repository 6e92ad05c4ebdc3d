/- The parser, fifth part: clauses and loops. -/
import Derived.Test.YtoifleamknbeaaaGreatDoorYP4
section
open Go Go.Am
namespace Go.Proofs.ZL
set_option maxRecDepth 100000
set_option linter.unusedSimpArgs false
set_option linter.unusedVariables false
set_option maxHeartbeats 1000000

theorem behind_w {r : Rec} (c : Ctr r) : CN 147 (behindF r) := by
 intro p L hd s h Q ps hq0
 have hp := ps.lt
 unfold behindF at hq0
 refine WCall.walk hX Tryz.func147 rfl rfl Tryz.ntmps147 rfl ?_
 refine QN hX ?_;refine QK (Qw ?_);refine QO hX ?_;refine QK (Qa ?_);refine QK ?_
 refine QJ en53 ?_
 refine want_w (hd := hd) Wwps (EndN.use Wwfr hq0 (fun _ _ x => x) fun tk1 s1 h1 v1 ps1 fr1 hv1 hq1 => ?_)
 subst hv1
 have hn1 := fr1.1; (try simp only [UB, UC] at hn1)
 refine QK (Qw ?_);refine QK (Qv ?_);refine QL ?_;refine QU hX ?_;refine WC.drawn (id := 2) hX (l := [⟨0, .read, 0⟩, ⟨1, .pure, 0⟩, ⟨2, .heavy, 2⟩, ⟨3, .heavy, 7⟩, ⟨4, .heavy, 15⟩]) (hw := ?_);refine QX (k := Qu ?_);refine QW (k := Qa ?_);refine WD.heavy hX (hw := ?_)
 refine QJ en93 ?_
 refine c.stmts Wwps (EndN.use Wwfr hq1 (fun _ _ x => x) fun t2 s2 h2 v2 ps2 fr2 hv2 hq2 => ?_)
 obtain ⟨b2, n2, es2, rfl, kv2⟩ := hv2
 have hn2 := fr2.1; (try simp only [UB, UC] at hn2)
 refine WD.heavy hX (hw := ?_)
 refine QJ en74 ?_
 refine node_w fun h3 g3 => ?_
 have hn3 := g3.1; (try simp only [UB, UC] at hn3)
 refine WD.heavy hX (hw := Qv ?_);refine WD.nil (hq := ?_);refine WC.ret ?_
 refine ⟨_, Wwres, ?_⟩
 refine hq2 _ _ Wwps Wwfr ⟨_, _, _, rfl, NV.of_kids ?_ _ _ _ _ _ _⟩
 exact (kv2.mono Wwne (fun j hS hj => by (try simp only [UB, UC] at hS); exact ⟨Wwne, Wwag⟩))

theorem branch_w {r : Rec} (c : Ctr r) : CN 120 (branchF r) := by
 intro p L hd s h Q ps hq0
 have hp := ps.lt
 unfold branchF at hq0
 simp only at hq0
 by_cases h6 : (tokAt L s.k).kind = 6
 ·rw [if_pos h6] at hq0; exact hq0.elim
 rw [if_neg h6] at hq0
 have hm : s.k + 1 < L.length := ps.wf.more ps.at_ h6
 refine WCall.walk hX Tryz.func120 rfl rfl Tryz.ntmps120 rfl ?_
 refine QN hX ?_;refine QK (Qw ?_);refine QO hX ?_;refine QK (Qa ?_);refine QK ?_
 refine QJ en72 ?_
 refine take_w (L := L) (hd := hd) (s := s) Wwps (hm) fun h2 ps2 fr2 => ?_
 have hn2 := fr2.1; (try simp only [UB, UC] at hn2)
 generalize tokAt L s.k = tk at *
 refine QK (Qw ?_);refine QK (Qv ?_);refine QO hX ?_;refine QK (Qa ?_);refine QK (Qa ?_);refine QK (Qp ?_);refine QK ?_
 refine QJ en87 ?_
 refine within_w (hd := hd) (hd' := true) (spec := r.expr L true s.next) Wwps en119 (fun {h3 Q3} ps3 fr3 hq3 => c.expr ps3 hq3) (EndN.use Wwfr hq0 (fun _ _ x => x) fun t3 s3 h3 v3 ps3 fr3 hv3 hq3 => ?_)
 obtain ⟨b3, n3, es3, rfl, kv3⟩ := hv3
 have hn3 := fr3.1; (try simp only [UB, UC] at hn3)
 refine QK (Qw ?_);refine QK (Qv ?_);refine QO hX ?_;refine QK (Qa ?_);refine QK ?_
 refine QJ en88 ?_
 refine c.block Wwps (EndN.use Wwfr hq3 (fun _ _ x => x) fun t4 s4 h4 v4 ps4 fr4 hv4 hq4 => ?_)
 obtain ⟨b4, n4, es4, rfl, kv4⟩ := hv4
 have hn4 := fr4.1; (try simp only [UB, UC] at hn4)
 refine QK ?_
 refine QJ en78 ?_
 refine none_w fun h5 g5 => ?_
 have hn5 := g5.1; (try simp only [UB, UC] at hn5)
 refine QK (Qw ?_);refine QK (Qw ?_);refine QK (Qv ?_);refine QK (Qv ?_);refine QL ?_;refine QU hX ?_;refine QN hX ?_;refine QK (Qa ?_);refine QK ?_
 refine QJ en104 ?_
 refine got_w (L := L) (hd := hd) (s := s4) Wwps fun h6 ps6 fr6 => ?_
 have hn6 := fr6.1; (try simp only [UB, UC] at hn6)
 unfold gotS at ps6
 cases hb6 : isR L s4 [(⟨#[101, 108, 115, 101]⟩ : ByteArray)]
 ·rw [hb6, if_neg Bool.false_ne_true] at ps6 hq4
  rw [R.then_ok] at hq4
  refine QP hX ?_;refine UA ?_;refine QN hX ?_;refine QK (Qu ?_);refine QK (Qu ?_);refine QK (Qu ?_);refine QK (Qu ?_);refine QK (Qz ?_);refine QK ?_
  refine QJ en74 ?_
  refine node_w fun h12 g12 => ?_
  have hn12 := g12.1; (try simp only [UB, UC] at hn12)
  refine QK (Qv ?_);refine QM ?_
  refine ⟨_, Wwres, ?_⟩
  refine hq4 _ _ Wwps Wwfr ⟨_, _, _, rfl, NV.of_kids ?_ _ _ _ _ _ _⟩
  apply KV.of3 (b3 := none) (n3 := 0) (es3 := 0) (S := fun j => h.next ≤ j ∧ j < h4.next)
  (· exact Wwobj); (· rfl); (· exact Wwne); (· exact Wwne); (· exact (kv3.mono Wwne (fun j hS hj => by (try simp only [UB, UC] at hS); exact ⟨⟨Wwne, Wwne⟩, Wwag⟩))); (· exact (kv4.mono Wwne (fun j hS hj => by (try simp only [UB, UC] at hS); exact ⟨⟨Wwne, Wwne⟩, Wwag⟩))); (· exact NV.none _ _); (· exact fun j hS hj => ⟨hS.1, by have := hS.2; exact Wwne⟩)
 ·rw [hb6, if_pos rfl] at ps6 hq4

  refine QQ hX ?_;refine WC.block hX ?_;refine QN hX ?_;refine QK (Qa ?_);refine QK (Qy ?_);refine QK ?_
  refine QJ en71 ?_
  refine is_w (L := L) (hd := hd) (s := s4.next) (ts := [(⟨#[105, 102]⟩ : ByteArray)]) Wwps Wwobj Wwne rfl (by first | decide | simp) fun h7 g7 => ?_
  have hn7 := g7.1; (try simp only [UB, UC] at hn7)
  cases hb7 : isR L s4.next [(⟨#[105, 102]⟩ : ByteArray)]
  ·rw [hb7, if_neg Bool.false_ne_true] at hq4
   refine QK (Qb ?_);refine QP hX ?_;refine QV hX ?_;refine QK (Qa ?_);refine QK ?_
   refine QJ en88 ?_
   refine c.block Wwps (EndN.use Wwfr hq4 (fun _ _ x => x) fun t8 s8 h8 v8 ps8 fr8 hv8 hq8 => ?_)
   obtain ⟨b8, n8, es8, rfl, kv8⟩ := hv8
   have hn8 := fr8.1; (try simp only [UB, UC] at hn8)
   refine QK (Qv ?_);refine QO hX ?_;refine QK (Qu ?_);refine QK (Qu ?_);refine QK (Qu ?_);refine QK (Qu ?_);refine QK (Qz ?_);refine QK ?_
   refine QJ en74 ?_
   refine node_w fun h12 g12 => ?_
   have hn12 := g12.1; (try simp only [UB, UC] at hn12)
   refine QK (Qv ?_);refine QM ?_
   refine ⟨_, Wwres, ?_⟩
   refine hq8 _ _ Wwps Wwfr ⟨_, _, _, rfl, NV.of_kids ?_ _ _ _ _ _ _⟩
   apply KV.of3 (t3 := t8) (S := fun j => h.next ≤ j ∧ j < h8.next)
   (· exact Wwobj); (· rfl); (· exact Wwne); (· exact Wwne); (· exact (kv3.mono Wwne (fun j hS hj => by (try simp only [UB, UC] at hS); exact ⟨⟨Wwne, Wwne⟩, Wwag⟩))); (· exact (kv4.mono Wwne (fun j hS hj => by (try simp only [UB, UC] at hS); exact ⟨⟨Wwne, Wwne⟩, Wwag⟩))); (· exact (kv8.mono Wwne (fun j hS hj => by (try simp only [UB, UC] at hS); exact ⟨⟨Wwne, Wwne⟩, Wwag⟩))); (· exact fun j hS hj => ⟨hS.1, by have := hS.2; exact Wwne⟩)
  ·rw [hb7, if_pos rfl] at hq4
   refine QK (Qb ?_);refine QQ hX ?_;refine QV hX ?_;refine QK (Qa ?_);refine QK ?_
   refine QJ en120 ?_
   refine c.branch Wwps (EndN.use Wwfr hq4 (fun _ _ x => x) fun t8 s8 h8 v8 ps8 fr8 hv8 hq8 => ?_)
   obtain ⟨b8, n8, es8, rfl, kv8⟩ := hv8
   have hn8 := fr8.1; (try simp only [UB, UC] at hn8)
   refine QK (Qv ?_);refine QO hX ?_;refine QK (Qu ?_);refine QK (Qu ?_);refine QK (Qu ?_);refine QK (Qu ?_);refine QK (Qz ?_);refine QK ?_
   refine QJ en74 ?_
   refine node_w fun h12 g12 => ?_
   have hn12 := g12.1; (try simp only [UB, UC] at hn12)
   refine QK (Qv ?_);refine QM ?_
   refine ⟨_, Wwres, ?_⟩
   refine hq8 _ _ Wwps Wwfr ⟨_, _, _, rfl, NV.of_kids ?_ _ _ _ _ _ _⟩
   apply KV.of3 (t3 := t8) (S := fun j => h.next ≤ j ∧ j < h8.next)
   (· exact Wwobj); (· rfl); (· exact Wwne); (· exact Wwne); (· exact (kv3.mono Wwne (fun j hS hj => by (try simp only [UB, UC] at hS); exact ⟨⟨Wwne, Wwne⟩, Wwag⟩))); (· exact (kv4.mono Wwne (fun j hS hj => by (try simp only [UB, UC] at hS); exact ⟨⟨Wwne, Wwne⟩, Wwag⟩))); (· exact (kv8.mono Wwne (fun j hS hj => by (try simp only [UB, UC] at hS); exact ⟨⟨Wwne, Wwne⟩, Wwag⟩))); (· exact fun j hS hj => ⟨hS.1, by have := hS.2; exact Wwne⟩)


theorem clauses_w {n : Nat} (hn : n ≤ 1000000) {one : PF Nd} {fid : FuncId} (en : ∀ vs, enterA Tryz.prog fid vs = some (.enter fid vs)) (hone : CN fid one) {p : Nat} {L : List Tok} {hd : Bool} {s : St} {h : Heap} {Q : ARes → Prop} (ps : PSt h p L hd s)
  (hq0 : EndN (VK (fun j => h.next ≤ j)) p L hd h Q (clausesF n one L hd s)) : WCall Tryz.prog G X 136 [pV p, .func (.func fid) #[pV p] #[]] h Q := by
 have hp := ps.lt
 unfold clausesF at hq0
 refine WCall.walk hX Tryz.func136 rfl rfl Tryz.ntmps136 rfl ?_
 refine QN hX ?_;refine QK (Qb ?_);refine QO hX ?_;refine QK (Qa ?_);refine QK ?_
 refine QJ en53 ?_
 refine want_w (hd := hd) Wwps (EndN.use Wwfr hq0 (fun _ _ x => x) fun tk1 s1 h1 v1 ps1 fr1 hv1 hq1 => ?_)
 subst hv1
 have hn1 := fr1.1; (try simp only [UB, UC] at hn1)
 refine QO hX ?_;refine QK (Qb ?_);refine QL ?_;refine QU hX ?_;refine WC.block hX ?_
 refine WC.loopInv hX (α := Nat × List Nd × St) (m := fun a => a.1) (Inv := fun a v h' => v 0 = some (pV p) ∧ v 1 = some (.func (.func fid) #[pV p] #[]) ∧ PSt h' p L hd a.2.2 ∧ Fr1 p h h' ∧
  a.1 + a.2.1.length ≤ n ∧ (∃ b n es, v 5 = some (.slice b n es) ∧ KV h' (fun j => h.next ≤ j) b n es a.2.1) ∧
  EndN (VK (fun j => h.next ≤ j)) p L hd h Q ((untilR L [(⟨#[125]⟩ : ByteArray)] (fun out s => (one L false s).then fun x s => .ok (out ++ [x]) s) a.1 a.2.1 a.2.2).then fun out s => .ok out s.next))
  (n, [], s1) ⟨rfl, rfl, Wwps, Wwfr, by simp, ⟨none, 0, 0, rfl, KV.nil _ _⟩, hq1⟩ ?_
 rintro ⟨m, kids, s5⟩ env h5 ih ⟨e0, e1, ps5, fr5, hm5, ⟨b5, n5, es5, e5, kv5⟩, hq5⟩
 simp only at ps5 hm5 kv5 hq5
 have hnn5 := fr5.1
 obtain ⟨m, rfl⟩ : ∃ m', m = m' + 1 := by
  cases m with
  | zero => exact hq5.elim
  | succ m => exact ⟨m, rfl⟩
 unfold untilR at hq5
 have hl5 := kv5.len
 refine QU hX ?_;refine QN hX ?_;refine QK (Qa ?_);refine QK (Qy ?_);refine QK ?_
 refine QJ en71 ?_
 refine is_w (L := L) (hd := hd) (s := s5) (ts := [(⟨#[125]⟩ : ByteArray)]) Wwps Wwobj Wwne rfl (by first | decide | simp) fun h6 g6 => ?_
 have hn6 := g6.1; (try simp only [UB, UC] at hn6)
 cases hb6 : isR L s5 [(⟨#[125]⟩ : ByteArray)]
 ·rw [hb6, if_neg Bool.false_ne_true] at hq5
  simp only [R.then_assoc] at hq5
  refine QK (Qe ?_);refine QQ hX ?_;refine UA ?_;refine WC.block hX ?_;refine QV hX ?_;refine QK (Qa ?_);refine QK (Qa ?_);refine QK (Qa ?_);refine QK ?_
  refine QJ en87 ?_
  refine within_w (L := L) (s := s5) (hd := hd) (hd' := false) (spec := one L false s5) Wwps en (fun {h7 Q7} ps7 fr7 hq7 => hone ps7 hq7) (EndN.use Wwfr hq5 (fun _ _ x => x) fun t8 s8 h8 v8 ps8 fr8 hv8 hq8 => ?_)
  obtain ⟨b8, n8, es8, rfl, kv8⟩ := hv8
  have hn8 := fr8.1
  (try simp only [UB, UC] at hn8)
  rw [R.then_ok] at hq8
  refine QK (Qz ?_);refine QK ?_
  have kvH := kv5.mono (S' := fun j => (h.next - 1) < j) (h' := (h8).alloc (.cells false (ncells t8 b8 n8 es8))) Wwne (fun j hS hj => ⟨Wwne, Wwag⟩)
  have hbne := kvH.ne
  obtain ⟨old, hsa, hol, hold⟩ := kvH.sliceAt
  have hol2 : kids.length ≤ 1000000 := by omega
  apply WS.append
  (· rfl); (· rfl); (· exact Wwev); (· exact Wwev); (· rfl); (· rfl); (· intro k hk; cases hk); (· exact fits_at rfl); (· decide); (· exact Wwobj); (· exact Wwlen); (· rfl); (· unfold room; omega); (· rfl); (· exact hsa)
  intro h9 hn9 ho9 hf9
  simp only [UB, UC] at hn9 ho9 hf9
  have hk9 : ∀ j, j ≤ (h.next - 1) → h9.obj j = ((h8).alloc (.cells false (ncells t8 b8 n8 es8))).obj j := fun j hj => hf9 j (by omega) (hbne j hj)
  have fr9 : Fr1 p h h9 := Fr1.keep (H := (h8).alloc (.cells false (ncells t8 b8 n8 es8))) Wwfr Wwne fun j hj => hk9 j (by omega)
  have kv9 : KV h9 (fun j => (h.next - 1) < j) (some ⟨(h8).next + 1, 0, none⟩) (n5 + 1) 7 (kids ++ [t8]) := KV.snoc (h := (h8).alloc (.cells false (ncells t8 b8 n8 es8))) (S2 := fun j => h5.next ≤ j ∧ j < (h8).next) hol (by omega) hold (kv8.mono Wwne (fun j hS hj => by (try simp only [UB, UC] at hS); exact ⟨⟨Wwne, Wwne⟩, Wwag⟩)) Wwne ho9 hf9 Wwne (fun x hx _ => by omega) (fun x hx hlt => ⟨by have := hx.1; omega, kv5.ge x hx.1⟩)
  have ps9 : PSt h9 p L hd s8 := PSt.keep (h := h8.alloc (.cells false (ncells t8 b8 n8 es8))) Wwps Wwne fun j hj => hk9 j (by omega)
  refine QK (Qb ?_);refine QL ?_
  exact ih (m, kids ++ [t8], s8) _ _ (by simp) ⟨e0, e1, ps9, fr9, by simp; omega, ⟨_, _, _, rfl, kv9.mono Wwne (fun j hS hj => by (try simp only [UB, UC] at hS); exact ⟨Wwne, Wwag⟩)⟩, hq8⟩
 ·rw [hb6, if_pos rfl] at hq5
  rw [R.then_ok] at hq5
  refine QK (Qe ?_);refine QP hX ?_;refine WC.exit ?_;refine exit_here ?_;refine QN hX ?_;refine QK (Qa ?_);refine QK ?_
  refine QJ en72 ?_
  refine take_w (L := L) (hd := hd) (s := s5) Wwps (ps5.wf.is ps5.at_ hb6) fun h7 ps7 fr7 => ?_
  have hn7 := fr7.1; (try simp only [UB, UC] at hn7)
  refine QO hX ?_;refine QK (Qa ?_);refine QK (Qb ?_);refine QM ?_
  refine ⟨_, Wwres, ?_⟩
  exact hq5 _ _ Wwps Wwfr ⟨_, _, _, rfl, kv5.mono Wwne (fun j hS hj => by (try simp only [UB, UC] at hS); exact ⟨Wwne, Wwag⟩)⟩

theorem clause_w {r : Rec} {n : Nat} (hn : n ≤ 1000000) (c : Ctr r) : CN 137 (clauseF n r) := by
 intro p L hd s h Q ps hq0
 have hp := ps.lt
 unfold clauseF at hq0
 simp only at hq0
 refine WCall.walk hX Tryz.func137 rfl rfl Tryz.ntmps137 rfl ?_
 refine QN hX ?_;refine QK (Qw ?_);refine QO hX ?_;refine QK (Qa ?_);refine QK ?_
 refine QJ en51 ?_
 refine peek_w (L := L) (hd := hd) (s := s) Wwps fun h1 g1 => ?_
 have hn1 := g1.1; (try simp only [UB, UC] at hn1)
 generalize tokAt L s.k = tk at *
 refine QK (Qw ?_);refine QK (Qv ?_);refine QL ?_;refine QU hX ?_;refine QN hX ?_;refine QK (Qa ?_);refine QK ?_
 refine QJ en104 ?_
 refine got_w (L := L) (hd := hd) (s := s) Wwps fun h2 ps2 fr2 => ?_
 have hn2 := fr2.1; (try simp only [UB, UC] at hn2)
 unfold gotS at ps2
 cases hb2 : isR L s [(⟨#[100, 101, 102, 97, 117, 108, 116]⟩ : ByteArray)]
 ·rw [hb2, if_neg Bool.false_ne_true] at ps2 hq0
  refine QP hX ?_;refine UA ?_;refine QN hX ?_;refine QK (Qa ?_);refine QK ?_
  refine QJ en53 ?_
  refine want_w (hd := hd) Wwps (EndN.use Wwfr hq0 (fun _ _ x => x) fun tk3 s3 h3 v3 ps3 fr3 hv3 hq3 => ?_)
  subst hv3
  have hn3 := fr3.1; (try simp only [UB, UC] at hn3)
  refine QO hX ?_;refine QK (Qa ?_);refine QK ?_
  refine QJ en119 ?_
  refine c.expr Wwps (EndN.use Wwfr hq3 (fun _ _ x => x) fun t4 s4 h4 v4 ps4 fr4 hv4 hq4 => ?_)
  obtain ⟨b4, n4, es4, rfl, kv4⟩ := hv4
  have hn4 := fr4.1; (try simp only [UB, UC] at hn4)
  refine QK (Qz ?_);refine QK (Qb ?_);refine QL ?_;refine QU hX ?_;refine WC.block hX ?_
  refine WC.loopInv hX (α := Nat × List Nd × St) (m := fun a => a.1) (Inv := fun a e h' => e 0 = some (pV p) ∧ e 2 = some (.pointer (some ⟨h.next, 0, none⟩)) ∧ e 3 = some (.pointer (some ⟨h1.next, 0, none⟩)) ∧ PSt h' p L hd a.2.2 ∧ Fr1 p h h' ∧
   h'.obj h.next = some (.cells false [.int .i64 0, .string .empty, .int .i64 0, .int .i64 0, .string .empty, .int .i64 0, .slice none 0 0]) ∧ h'.obj h1.next = some (.cells false tk.cells) ∧ h1.next < h'.next ∧ a.1 + a.2.1.length ≤ n + 1 ∧ (∃ b n es, e 4 = some (.slice b n es) ∧ KV h' (fun j => h1.next < j) b n es a.2.1) ∧
   EndN (VN fun j => h.next ≤ j) p L hd h Q ((commasGo r L hd a.1 a.2.1 a.2.2).then fun kids s => (behindF r L hd s).then fun b s => .ok (nd 24 tk (⟨#[99, 97, 115, 101]⟩ : ByteArray) (kids ++ [b])) s))
   (n, [t4], s4) ⟨rfl, rfl, rfl, Wwps, Wwfr, Wwobj, Wwobj, Wwne, by simp, ⟨some ⟨h4.next, 0, none⟩, 1, 7, rfl, KV.one (S := fun j => h1.next < j ∧ j < h4.next) Wwne Wwne Wwobj (kv4.mono Wwne (fun j hS hj => by (try simp only [UB, UC] at hS); exact ⟨⟨Wwne, Wwne⟩, Wwag⟩)) (fun j hS hj => ⟨hS.1, by have := hS.2; exact Wwne⟩)⟩, hq4⟩ ?_
  rintro ⟨m, kids, s5⟩ env h5 ih ⟨e0, e2, e3, ps5, fr5, hoz, hot, hn5, hm5, ⟨b5, n5, es5, e5, kv5⟩, hq5⟩
  simp only at ps5 hm5 kv5 hq5
  have hnn5 := fr5.1
  obtain ⟨m, rfl⟩ : ∃ m', m = m' + 1 := by
   cases m with
   | zero => exact hq5.elim
   | succ m => exact ⟨m, rfl⟩
  unfold commasGo at hq5
  have hl5 := kv5.len
  refine QU hX ?_;refine QN hX ?_;refine QK (Qa ?_);refine QK ?_
  refine QJ en104 ?_
  refine got_w (L := L) (hd := hd) (s := s5) Wwps fun h6 ps6 fr6 => ?_
  have hn6 := fr6.1; (try simp only [UB, UC] at hn6)
  unfold gotS at ps6
  cases hb6 : isR L s5 [(⟨#[44]⟩ : ByteArray)]
  ·rw [hb6, if_neg Bool.false_ne_true] at ps6 hq5
   rw [R.then_ok] at hq5
   refine QP hX ?_;refine WC.exit ?_;refine exit_here ?_;refine QU hX ?_;refine WC.drawn (id := 8) hX (l := [⟨0, .read, 0⟩, ⟨1, .pure, 0⟩, ⟨2, .pure, 0⟩, ⟨3, .heavy, 4⟩, ⟨4, .alloc, 12⟩, ⟨5, .heavy, 30⟩, ⟨6, .heavy, 63⟩, ⟨7, .heavy, 127⟩]) (hw := ?_);refine QX (k := Qu ?_);refine QW (k := Qa ?_);refine QW (k := Qa ?_);refine WD.heavy hX (hw := ?_)
   refine QJ en147 ?_
   refine behind_w c Wwps (EndN.use Wwfr hq5 (fun _ _ x => x) fun t8 s8 h8 v8 ps8 fr8 hv8 hq8 => ?_)
   obtain ⟨b8, n8, es8, rfl, kv8⟩ := hv8
   have hn8 := fr8.1
   (try simp only [UB, UC] at hn8)
   refine WD.alloc (hw := Qz ?_);refine WD.heavy hX (hw := ?_)
   have kvH := kv5.mono (S' := fun j => h1.next < j) (h' := (h8).alloc (.cells false (ncells t8 b8 n8 es8))) Wwne (fun j hS hj => ⟨Wwne, Wwag⟩)
   have hbne := kvH.ne
   obtain ⟨old, hsa, hol, hold⟩ := kvH.sliceAt
   have hol2 : kids.length ≤ 1000000 := by omega
   apply WS.append
   (· rfl); (· rfl); (· exact Wwev); (· exact Wwev); (· rfl); (· rfl); (· intro k hk; cases hk); (· exact fits_at rfl); (· decide); (· exact Wwobj); (· exact Wwlen); (· rfl); (· unfold room; omega); (· rfl); (· exact hsa)
   intro h9 hn9 ho9 hf9
   simp only [UB, UC] at hn9 ho9 hf9
   have hk9 : ∀ j, j ≤ h1.next → h9.obj j = ((h8).alloc (.cells false (ncells t8 b8 n8 es8))).obj j := fun j hj => hf9 j (by omega) (hbne j hj)
   have fr9 : Fr1 p h h9 := Fr1.keep (H := (h8).alloc (.cells false (ncells t8 b8 n8 es8))) Wwfr Wwne fun j hj => hk9 j (by omega)
   have kv9 : KV h9 (fun j => h1.next < j) (some ⟨(h8).next + 1, 0, none⟩) (n5 + 1) 7 (kids ++ [t8]) := KV.snoc (h := (h8).alloc (.cells false (ncells t8 b8 n8 es8))) (S2 := fun j => h5.next ≤ j ∧ j < (h8).next) hol (by omega) hold (kv8.mono Wwne (fun j hS hj => by (try simp only [UB, UC] at hS); exact ⟨⟨Wwne, Wwne⟩, Wwag⟩)) Wwne ho9 hf9 Wwne (fun x hx _ => by omega) (fun x hx hlt => ⟨by have := hx.1; omega, kv5.ge x hx.1⟩)
   have ps9 : PSt h9 p L hd s8 := PSt.keep (h := h8.alloc (.cells false (ncells t8 b8 n8 es8))) Wwps Wwne fun j hj => hk9 j (by omega)
   have ho9z : h9.obj h.next = some (.cells false [.int .i64 0, .string .empty, .int .i64 0, .int .i64 0, .string .empty, .int .i64 0, .slice none 0 0]) := (hk9 _ (by omega)).trans Wwobj
   have ho9t : h9.obj h1.next = some (.cells false tk.cells) := (hk9 _ (by omega)).trans Wwobj
   refine WD.heavy hX (hw := ?_)
   refine QJ en74 ?_
   refine node_w fun h10 g10 => ?_
   have hn10 := g10.1; (try simp only [UB, UC] at hn10)
   refine WD.heavy hX (hw := Qv ?_);refine WD.nil (hq := ?_);refine WC.ret ?_
   refine ⟨_, Wwres, ?_⟩
   refine hq8 _ _ Wwps Wwfr ⟨_, _, _, rfl, NV.of_kids ?_ _ _ _ _ _ _⟩
   exact (kv9.mono Wwne (fun j hS hj => by (try simp only [UB, UC] at hS); exact ⟨Wwne, Wwag⟩))
  ·rw [hb6, if_pos rfl] at ps6 hq5
   simp only [R.then_assoc] at hq5
   refine QQ hX ?_;refine UA ?_;refine WC.block hX ?_;refine QV hX ?_;refine QK (Qa ?_);refine QK (Qa ?_);refine QK ?_
   refine QJ en119 ?_
   refine c.expr Wwps (EndN.use Wwfr hq5 (fun _ _ x => x) fun t8 s8 h8 v8 ps8 fr8 hv8 hq8 => ?_)
   obtain ⟨b8, n8, es8, rfl, kv8⟩ := hv8
   have hn8 := fr8.1; (try simp only [UB, UC] at hn8)
   refine QK (Qz ?_);refine QK ?_
   have kvH := kv5.mono (S' := fun j => h1.next < j) (h' := (h8).alloc (.cells false (ncells t8 b8 n8 es8))) Wwne (fun j hS hj => ⟨Wwne, Wwag⟩)
   have hbne := kvH.ne
   obtain ⟨old, hsa, hol, hold⟩ := kvH.sliceAt
   have hol2 : kids.length ≤ 1000000 := by omega
   apply WS.append
   (· rfl); (· rfl); (· exact Wwev); (· exact Wwev); (· rfl); (· rfl); (· intro k hk; cases hk); (· exact fits_at rfl); (· decide); (· exact Wwobj); (· exact Wwlen); (· rfl); (· unfold room; omega); (· rfl); (· exact hsa)
   intro h9 hn9 ho9 hf9
   simp only [UB, UC] at hn9 ho9 hf9
   have hk9 : ∀ j, j ≤ h1.next → h9.obj j = ((h8).alloc (.cells false (ncells t8 b8 n8 es8))).obj j := fun j hj => hf9 j (by omega) (hbne j hj)
   have fr9 : Fr1 p h h9 := Fr1.keep (H := (h8).alloc (.cells false (ncells t8 b8 n8 es8))) Wwfr Wwne fun j hj => hk9 j (by omega)
   have kv9 : KV h9 (fun j => h1.next < j) (some ⟨(h8).next + 1, 0, none⟩) (n5 + 1) 7 (kids ++ [t8]) := KV.snoc (h := (h8).alloc (.cells false (ncells t8 b8 n8 es8))) (S2 := fun j => h5.next ≤ j ∧ j < (h8).next) hol (by omega) hold (kv8.mono Wwne (fun j hS hj => by (try simp only [UB, UC] at hS); exact ⟨⟨Wwne, Wwne⟩, Wwag⟩)) Wwne ho9 hf9 Wwne (fun x hx _ => by omega) (fun x hx hlt => ⟨by have := hx.1; omega, kv5.ge x hx.1⟩)
   have ps9 : PSt h9 p L hd s8 := PSt.keep (h := h8.alloc (.cells false (ncells t8 b8 n8 es8))) Wwps Wwne fun j hj => hk9 j (by omega)
   have ho9z : h9.obj h.next = some (.cells false [.int .i64 0, .string .empty, .int .i64 0, .int .i64 0, .string .empty, .int .i64 0, .slice none 0 0]) := (hk9 _ (by omega)).trans Wwobj
   have ho9t : h9.obj h1.next = some (.cells false tk.cells) := (hk9 _ (by omega)).trans Wwobj
   refine QK (Qb ?_);refine QL ?_
   exact ih (m, kids ++ [t8], s8) _ _ (by simp) ⟨e0, e2, e3, ps9, fr9, ho9z, ho9t, Wwne, by simp; omega, ⟨_, _, _, rfl, kv9.mono Wwne (fun j hS hj => by (try simp only [UB, UC] at hS); exact ⟨Wwne, Wwag⟩)⟩, hq8⟩
 ·rw [hb2, if_pos rfl] at ps2 hq0
  refine QQ hX ?_;refine QU hX ?_;refine WC.drawn (id := 3) hX (l := [⟨0, .read, 0⟩, ⟨1, .pure, 0⟩, ⟨2, .heavy, 2⟩, ⟨3, .alloc, 6⟩, ⟨4, .heavy, 15⟩, ⟨5, .heavy, 31⟩]) (hw := ?_);refine QX (k := Qu ?_);refine QW (k := Qa ?_);refine WD.heavy hX (hw := ?_)
  refine QJ en147 ?_
  refine behind_w c Wwps (EndN.use Wwfr hq0 (fun _ _ x => x) fun t8 s8 h8 v8 ps8 fr8 hv8 hq8 => ?_)
  obtain ⟨b8, n8, es8, rfl, kv8⟩ := hv8
  have hn8 := fr8.1
  (try simp only [UB, UC] at hn8)
  refine WD.alloc (hw := Qz ?_);refine WD.heavy hX (hw := ?_)
  refine QJ en74 ?_
  refine node_w fun h5 g5 => ?_
  have hn5 := g5.1; (try simp only [UB, UC] at hn5)
  refine WD.heavy hX (hw := Qv ?_);refine WD.nil (hq := ?_);refine WC.ret ?_
  refine ⟨_, Wwres, ?_⟩
  refine hq8 _ _ Wwps Wwfr ⟨_, _, _, rfl, NV.of_kids ?_ _ _ _ _ _ _⟩
  exact (KV.one (S := fun j => h.next ≤ j ∧ j < h8.next) Wwne Wwne Wwobj (kv8.mono Wwne (fun j hS hj => by (try simp only [UB, UC] at hS); exact ⟨⟨Wwne, hj⟩, Wwag⟩)) (fun j hS hj => ⟨hS.1, by have := hS.2; exact Wwne⟩))

theorem comm_w {r : Rec} (c : Ctr r) : CN 138 (commF r) := by
 intro p L hd s h Q ps hq0
 have hp := ps.lt
 unfold commF at hq0
 simp only at hq0
 refine WCall.walk hX Tryz.func138 rfl rfl Tryz.ntmps138 rfl ?_
 refine QN hX ?_;refine QK (Qw ?_);refine QO hX ?_;refine QK (Qa ?_);refine QK ?_
 refine QJ en51 ?_
 refine peek_w (L := L) (hd := hd) (s := s) Wwps fun h1 g1 => ?_
 have hn1 := g1.1; (try simp only [UB, UC] at hn1)
 generalize tokAt L s.k = tk at *
 refine QK (Qw ?_);refine QK (Qv ?_);refine QL ?_;refine QU hX ?_;refine QN hX ?_;refine QK (Qa ?_);refine QK ?_
 refine QJ en104 ?_
 refine got_w (L := L) (hd := hd) (s := s) Wwps fun h2 ps2 fr2 => ?_
 have hn2 := fr2.1; (try simp only [UB, UC] at hn2)
 unfold gotS at ps2
 cases hb2 : isR L s [(⟨#[100, 101, 102, 97, 117, 108, 116]⟩ : ByteArray)]
 ·rw [hb2, if_neg Bool.false_ne_true] at ps2 hq0
  refine QP hX ?_;refine UA ?_;refine QN hX ?_;refine QK (Qa ?_);refine QK ?_
  refine QJ en53 ?_
  refine want_w (hd := hd) Wwps (EndN.use Wwfr hq0 (fun _ _ x => x) fun tk3 s3 h3 v3 ps3 fr3 hv3 hq3 => ?_)
  subst hv3
  have hn3 := fr3.1; (try simp only [UB, UC] at hn3)
  refine QO hX ?_;refine QK (Qb ?_);refine QL ?_;refine QU hX ?_;refine QN hX ?_;refine QK (Qa ?_);refine QK ?_
  refine QJ en51 ?_
  refine peek_w (L := L) (hd := hd) (s := s3) Wwps fun h4 g4 => ?_
  have hn4 := g4.1; (try simp only [UB, UC] at hn4)
  have hz := ps.wf.size
  have hks := ps3.at_
  obtain ⟨j, hj, hop, hol⟩ := ps3.tok
  have hmm : (tokAt L s3.k).kind ≠ 6 → s3.k + 1 < L.length := ps3.wf.more hks
  have hm5 : (tokAt L (s3.k + 1)).kind = 5 → s3.k + 1 < L.length → s3.k + 2 < L.length := fun h5 hm => ps3.wf.more hm (by omega)
  have ck := fun hm => cell_kind (L := L) (s := s3) hm
  have ct := fun hm => cell_text (L := L) (s := s3) hm
  unfold isMark at hq3
  generalize tokAt L s3.k = t5 at *
  generalize tokAt L (s3.k + 1) = t6 at *
  refine QK (Qw ?_);refine QK (Qv ?_);refine QL ?_;refine QU hX ?_
  refine WC.cut (N' := fun e h' => h' = (h4.alloc (.cells false [.int .i64 0, .string .empty, .int .i64 0, .int .i64 0])).put h4.next (some (.cells false t5.cells)) ∧ e 53 = some (.bool (decide (t5.kind = 1) && (decide (t6.kind = 5) && decide (t6.text = (⟨#[58, 61]⟩ : ByteArray))))) ∧ e 0 = some (pV p) ∧ e 2 = some (.pointer (some ⟨h.next, 0, none⟩)) ∧ e 3 = some (.pointer (some ⟨h1.next, 0, none⟩)) ∧
   e 4 = some (.slice none 0 0) ∧ e 5 = some (.pointer (some ⟨h4.next, 0, none⟩))) ?_ ?_
  ·by_cases hk1 : t5.kind = 1
   ·have hm : s3.k + 1 < L.length := hmm (by omega)
    refine WC.drawn (id := 7) hX (l := [⟨0, .pure, 0⟩, ⟨1, .read, 1⟩, ⟨2, .pure, 3⟩, ⟨3, .pure, 7⟩, ⟨4, .pure, 15⟩, ⟨5, .pure, 31⟩, ⟨6, .pure, 63⟩, ⟨7, .read, 127⟩, ⟨8, .pure, 15⟩, ⟨9, .pure, 271⟩, ⟨10, .pure, 783⟩, ⟨11, .read, 1807⟩, ⟨12, .pure, 3855⟩, ⟨13, .pure, 8191⟩, ⟨14, .pure, 16383⟩, ⟨15, .read, 32767⟩, ⟨16, .pure, 65535⟩, ⟨17, .pure, 131071⟩, ⟨18, .pure, 262143⟩, ⟨19, .pure, 524287⟩, ⟨20, .pure, 1048575⟩, ⟨21, .pure, 2097151⟩, ⟨22, .read, 4194303⟩, ⟨23, .pure, 524287⟩, ⟨24, .pure, 8912895⟩, ⟨25, .pure, 25690111⟩, ⟨26, .read, 59244543⟩, ⟨27, .pure, 126353407⟩, ⟨28, .pure, 268435455⟩, ⟨29, .pure, 536870911⟩, ⟨30, .read, 1073741823⟩, ⟨31, .pure, 2147483647⟩, ⟨32, .pure, 4294967295⟩]) (hw := ?_);refine QW (k := Qj ?_);refine QX (k := Qt ?_);refine QW (k := QD ?_ ?_);intro hh;refine QW (k := Qa ?_);refine QW (k := Qa ?_);refine QW (k := Qi ?_);refine QW (k := Qj ?_);refine QX (k := Qt ?_);refine QW (k := Qa ?_);refine QW (k := Qi ?_);refine QW (k := Qj ?_);refine QX (k := Qt ?_);refine QW (k := Qf ?_);refine QW (k := Ql ?_);refine QW (k := Qj ?_);refine WD.read (hw := ?_);rotate_left;intro hh;exfalso;omega
    refine WS.loadS (v := .int .i64 t6.kind) (hc := ck hm) (hk := ?_)
    refine QW (k := QD ?_ ?_);intro hh;refine QW (k := Qc ?_);refine QW (k := Qa ?_);refine QW (k := Qa ?_);refine QW (k := Qi ?_);refine QW (k := Qj ?_);refine QX (k := Qt ?_);refine QW (k := Qa ?_);refine QW (k := Qi ?_);refine QW (k := Qj ?_);refine QX (k := Qt ?_);refine QW (k := Qf ?_);refine QW (k := Ql ?_);refine QW (k := Qj ?_);refine WD.read (hw := ?_);rotate_left;intro hh;refine QW (k := Qc ?_);refine QW (k := Qa ?_);refine QW (k := QA ?_);refine QW (k := QA ?_);refine QW (k := QA ?_);refine QX (k := QA ?_);refine QW (k := QA ?_);refine QW (k := QA ?_);refine QW (k := QA ?_);refine QX (k := QA ?_);refine QW (k := QA ?_);refine QW (k := QA ?_);refine QW (k := QA ?_);refine QX (k := QA ?_);refine QW (k := QA ?_);refine QW (k := Qd ?_);refine WD.nil (hq := ?_);rotate_left
    ·refine WS.loadS (v := .string t6.text) (hc := ct hm) (hk := ?_)
     refine QW (k := QB ?_ ?_);intro hh;refine QW (k := Qc ?_);refine WD.nil (hq := ?_);rotate_left;intro hh;refine QW (k := Qc ?_);refine WD.nil (hq := ?_);rotate_left
     ·exact ⟨rfl, by simp [*, upd], rfl, rfl, rfl, rfl, rfl⟩
     ·exact ⟨rfl, by simp [*, upd], rfl, rfl, rfl, rfl, rfl⟩
    ·exact ⟨rfl, by simp [*, upd], rfl, rfl, rfl, rfl, rfl⟩
   ·refine WC.drawn (id := 7) hX (l := [⟨0, .pure, 0⟩, ⟨1, .read, 1⟩, ⟨2, .pure, 3⟩, ⟨3, .pure, 7⟩, ⟨4, .pure, 15⟩, ⟨5, .pure, 31⟩, ⟨6, .pure, 63⟩, ⟨7, .read, 127⟩, ⟨8, .pure, 15⟩, ⟨9, .pure, 271⟩, ⟨10, .pure, 783⟩, ⟨11, .read, 1807⟩, ⟨12, .pure, 3855⟩, ⟨13, .pure, 8191⟩, ⟨14, .pure, 16383⟩, ⟨15, .read, 32767⟩, ⟨16, .pure, 65535⟩, ⟨17, .pure, 131071⟩, ⟨18, .pure, 262143⟩, ⟨19, .pure, 524287⟩, ⟨20, .pure, 1048575⟩, ⟨21, .pure, 2097151⟩, ⟨22, .read, 4194303⟩, ⟨23, .pure, 524287⟩, ⟨24, .pure, 8912895⟩, ⟨25, .pure, 25690111⟩, ⟨26, .read, 59244543⟩, ⟨27, .pure, 126353407⟩, ⟨28, .pure, 268435455⟩, ⟨29, .pure, 536870911⟩, ⟨30, .read, 1073741823⟩, ⟨31, .pure, 2147483647⟩, ⟨32, .pure, 4294967295⟩]) (hw := ?_);refine QW (k := Qj ?_);refine QX (k := Qt ?_);refine QW (k := QD ?_ ?_);intro hh;exfalso;omega;intro hh;refine QW (k := Qa ?_);refine QW (k := QA ?_);refine QW (k := QA ?_);refine QW (k := QA ?_);refine QX (k := QA ?_);refine QW (k := QA ?_);refine QW (k := QA ?_);refine QW (k := QA ?_);refine QX (k := QA ?_);refine QW (k := QA ?_);refine QW (k := QA ?_);refine QW (k := QA ?_);refine QX (k := QA ?_);refine QW (k := QA ?_);refine QW (k := Qd ?_);refine QW (k := Qa ?_);refine QW (k := QA ?_);refine QW (k := QA ?_);refine QW (k := QA ?_);refine QX (k := QA ?_);refine QW (k := QA ?_);refine QW (k := QA ?_);refine QW (k := QA ?_);refine QX (k := QA ?_);refine QW (k := QA ?_);refine QW (k := QA ?_);refine QW (k := QA ?_);refine QX (k := QA ?_);refine QW (k := QA ?_);refine QW (k := Qd ?_);refine WD.nil (hq := ?_)
    exact ⟨rfl, by simp [*, upd], rfl, rfl, rfl, rfl, rfl⟩
  rintro e h' ⟨rfl, e53, e0, e2, e3, e4, e5⟩
  generalize hcd : (decide (t5.kind = 1) && (decide (t6.kind = 5) && decide (t6.text = (⟨#[58, 61]⟩ : ByteArray)))) = b at e53 hq3
  cases b
  ·rw [if_neg Bool.false_ne_true, R.then_ok] at hq3
   have kvk := KV.nil h4 (fun j => h4.next < j)
   refine QS hX ?_;refine UA ?_;refine QU hX ?_;refine QN hX ?_;refine QK (Qa ?_);refine QK ?_
   refine QJ en104 ?_
   refine got_w (L := L) (hd := hd) (s := s3) Wwps fun h20 ps20 fr20 => ?_
   have hn20 := fr20.1; (try simp only [UB, UC] at hn20)
   unfold gotS at ps20
   cases hb20 : isR L s3 [(⟨#[60, 45]⟩ : ByteArray)]
   ·rw [hb20, if_neg Bool.false_ne_true] at ps20 hq3
    refine QP hX ?_;refine UA ?_;refine QN hX ?_;refine QK (Qa ?_);refine QK ?_
    refine QJ en139 ?_
    refine c.primary Wwps (EndN.use Wwfr hq3 (fun _ _ x => x) fun t21 s21 h21 v21 ps21 fr21 hv21 hq21 => ?_)
    obtain ⟨b21, n21, es21, rfl, kv21⟩ := hv21
    have hn21 := fr21.1; (try simp only [UB, UC] at hn21)
    refine QK (Qw ?_);refine QK (Qv ?_);refine QO hX ?_;refine QK (Qa ?_);refine QK ?_
    refine QJ en53 ?_
    refine want_w (hd := hd) Wwps (EndN.use Wwfr hq21 (fun _ _ x => x) fun tk22 s22 h22 v22 ps22 fr22 hv22 hq22 => ?_)
    subst hv22
    have hn22 := fr22.1; (try simp only [UB, UC] at hn22)
    refine QO hX ?_;refine QK (Qa ?_);refine QK ?_
    refine QJ en119 ?_
    refine c.expr Wwps (EndN.use Wwfr hq22 (fun _ _ x => x) fun t23 s23 h23 v23 ps23 fr23 hv23 hq23 => ?_)
    obtain ⟨b23, n23, es23, rfl, kv23⟩ := hv23
    have hn23 := fr23.1; (try simp only [UB, UC] at hn23)
    refine QK (Qw ?_);refine QK (Qv ?_);refine QL ?_;refine QU hX ?_;refine WC.drawn (id := 18) hX (l := [⟨0, .read, 0⟩, ⟨1, .read, 0⟩, ⟨2, .read, 0⟩, ⟨3, .pure, 0⟩, ⟨4, .heavy, 8⟩, ⟨5, .alloc, 30⟩, ⟨6, .heavy, 63⟩, ⟨7, .heavy, 127⟩]) (hw := ?_);refine QX (k := Qu ?_);refine QX (k := Qu ?_);refine QX (k := Qu ?_);refine QW (k := Qa ?_);refine WD.heavy hX (hw := ?_)
    refine QJ en147 ?_
    refine behind_w c Wwps (EndN.use Wwfr hq23 (fun _ _ x => x) fun t8 s8 h8 v8 ps8 fr8 hv8 hq8 => ?_)
    obtain ⟨b8, n8, es8, rfl, kv8⟩ := hv8
    have hn8 := fr8.1
    (try simp only [UB, UC] at hn8)
    refine WD.alloc (hw := Qz ?_);refine WD.heavy hX (hw := ?_)
    refine QJ en74 ?_
    refine node_w fun h24 g24 => ?_
    have hn24 := g24.1; (try simp only [UB, UC] at hn24)
    refine WD.heavy hX (hw := Qv ?_);refine WD.nil (hq := ?_);refine WC.ret ?_
    refine ⟨_, Wwres, ?_⟩
    refine hq8 _ _ Wwps Wwfr ⟨_, _, _, rfl, NV.of_kids ?_ _ _ _ _ _ _⟩
    apply KV.of3 (t3 := t8) (S := fun j => h.next ≤ j ∧ j < h8.next)
    (· exact Wwobj); (· rfl); (· exact Wwne); (· exact Wwne); (· exact (kv21.mono Wwne (fun j hS hj => by (try simp only [UB, UC] at hS); exact ⟨⟨Wwne, Wwne⟩, Wwag⟩))); (· exact (kv23.mono Wwne (fun j hS hj => by (try simp only [UB, UC] at hS); exact ⟨⟨Wwne, Wwne⟩, Wwag⟩))); (· exact (kv8.mono Wwne (fun j hS hj => by (try simp only [UB, UC] at hS); exact ⟨⟨Wwne, Wwne⟩, Wwag⟩))); (· exact fun j hS hj => ⟨hS.1, by have := hS.2; exact Wwne⟩)
   ·rw [hb20, if_pos rfl] at ps20 hq3
    refine QQ hX ?_;refine QN hX ?_;refine QK (Qa ?_);refine QK (Qa ?_);refine QK ?_
    refine QJ en143 ?_
    refine c.unary Wwps (EndN.use Wwfr hq3 (fun _ _ x => x) fun t21 s21 h21 v21 ps21 fr21 hv21 hq21 => ?_)
    obtain ⟨b21, n21, es21, rfl, kv21⟩ := hv21
    have hn21 := fr21.1; (try simp only [UB, UC] at hn21)
    refine QK (Qz ?_);refine QK ?_
    have kvM25 := kvk.mono (S' := fun j => h4.next < j) (h' := (h21).alloc (.cells false (ncells t21 b21 n21 es21))) Wwne (fun j hS hj => ⟨Wwne, Wwag⟩)
    have hge25 := kvk.ge
    refine WS.appendKV (S1 := fun j => h4.next < j) (S2 := fun j => (h20).next ≤ j ∧ j < (h21).next + 1) (k1 := []) (k2 := [t21]) rfl rfl Wwev Wwev rfl rfl (by intro k hk; cases hk) (fits_at rfl) (by unfold room; omega) kvM25
     (KV.one (S := fun j => (h20).next ≤ j ∧ j < (h21).next) Wwne Wwne Wwobj (kv21.mono Wwne (fun j hS hj => by (try simp only [UB, UC] at hS); exact ⟨⟨Wwne, Wwne⟩, Wwag⟩)) (fun j hS hj => ⟨⟨hS.1, by have := hS.2; exact Wwne⟩, by have := hS.2; exact Wwne⟩)) (fun x hx _ off => hge25 x (by have := hx.1; exact Wwne) off) ?_
    intro h25 b25 es25 hn25 kv25 hf25
    simp only [UB, UC] at hn25
    have hk25 : ∀ j, j ≤ h4.next → h25.obj j = (h21).obj j := fun j hj => (hf25 j Wwne (kvM25.ne j hj)).trans (obj_old Wwne rfl)
    have fr25 : Fr1 p h h25 := Fr1.keep (H := h21) Wwfr Wwne fun j hj => hk25 j (by omega)
    have ps25 : PSt h25 p L hd s21 := PSt.keep (h := h21) ps21 Wwne fun j hj => hk25 j (by omega)
    have hoz25 : h25.obj h.next = some (.cells false [.int .i64 0, .string .empty, .int .i64 0, .int .i64 0, .string .empty, .int .i64 0, .slice none 0 0]) := (hk25 _ (by omega)).trans Wwobj
    have hot25 : h25.obj h1.next = some (.cells false tk.cells) := (hk25 _ (by omega)).trans Wwobj
    have kvL25 := kv25.mono (S' := fun j => h4.next < j) (h' := h25) (Nat.le_refl _) (fun j hS hj => ⟨by (try simp only [UB, UC] at hS); omega, rfl⟩)
    refine QK (Qb ?_);refine QL ?_;refine QU hX ?_;refine WC.drawn (id := 14) hX (l := [⟨0, .read, 0⟩, ⟨1, .pure, 0⟩, ⟨2, .pure, 0⟩, ⟨3, .heavy, 4⟩, ⟨4, .alloc, 12⟩, ⟨5, .heavy, 30⟩, ⟨6, .heavy, 63⟩, ⟨7, .heavy, 127⟩]) (hw := ?_);refine QX (k := Qu ?_);refine QW (k := Qa ?_);refine QW (k := Qa ?_);refine WD.heavy hX (hw := ?_)
    refine QJ en147 ?_
    refine behind_w c Wwps (EndN.use Wwfr hq21 (fun _ _ x => x) fun t8 s8 h8 v8 ps8 fr8 hv8 hq8 => ?_)
    obtain ⟨b8, n8, es8, rfl, kv8⟩ := hv8
    have hn8 := fr8.1
    (try simp only [UB, UC] at hn8)
    refine WD.alloc (hw := Qz ?_);refine WD.heavy hX (hw := ?_)
    have kvM26 := kvL25.mono (S' := fun j => h4.next < j) (h' := (h8).alloc (.cells false (ncells t8 b8 n8 es8))) Wwne (fun j hS hj => ⟨Wwne, Wwag⟩)
    have hge26 := kvL25.ge
    refine WS.appendKV (S1 := fun j => h4.next < j) (S2 := fun j => (h25).next ≤ j ∧ j < (h8).next + 1) (k1 := [] ++ [t21]) (k2 := [t8]) rfl rfl Wwev Wwev rfl rfl (by intro k hk; cases hk) (fits_at rfl) (by unfold room; omega) kvM26
     (KV.one (S := fun j => (h25).next ≤ j ∧ j < (h8).next) Wwne Wwne Wwobj (kv8.mono Wwne (fun j hS hj => by (try simp only [UB, UC] at hS); exact ⟨⟨Wwne, Wwne⟩, Wwag⟩)) (fun j hS hj => ⟨⟨hS.1, by have := hS.2; exact Wwne⟩, by have := hS.2; exact Wwne⟩)) (fun x hx _ off => hge26 x (by have := hx.1; exact Wwne) off) ?_
    intro h26 b26 es26 hn26 kv26 hf26
    simp only [UB, UC] at hn26
    have hk26 : ∀ j, j ≤ h4.next → h26.obj j = (h8).obj j := fun j hj => (hf26 j Wwne (kvM26.ne j hj)).trans (obj_old Wwne rfl)
    have fr26 : Fr1 p h h26 := Fr1.keep (H := h8) Wwfr Wwne fun j hj => hk26 j (by omega)
    have ps26 : PSt h26 p L hd s8 := PSt.keep (h := h8) ps8 Wwne fun j hj => hk26 j (by omega)
    have hoz26 : h26.obj h.next = some (.cells false [.int .i64 0, .string .empty, .int .i64 0, .int .i64 0, .string .empty, .int .i64 0, .slice none 0 0]) := (hk26 _ (by omega)).trans Wwobj
    have hot26 : h26.obj h1.next = some (.cells false tk.cells) := (hk26 _ (by omega)).trans Wwobj
    refine WD.heavy hX (hw := ?_)
    refine QJ en74 ?_
    refine node_w fun h27 g27 => ?_
    have hn27 := g27.1; (try simp only [UB, UC] at hn27)
    refine WD.heavy hX (hw := Qv ?_);refine WD.nil (hq := ?_);refine WC.ret ?_
    refine ⟨_, Wwres, ?_⟩
    refine hq8 _ _ Wwps Wwfr ⟨_, _, _, rfl, NV.of_kids ?_ _ _ _ _ _ _⟩
    exact (kv26.mono Wwne (fun j hS hj => by (try simp only [UB, UC] at hS); exact ⟨Wwne, Wwag⟩))
  ·rw [if_pos rfl] at hq3
   simp only [Bool.and_eq_true, decide_eq_true_eq] at hcd
   have hm2 : s3.k + 2 < L.length := hm5 hcd.2.1 (hmm (by omega))
   obtain ⟨s9, hs9⟩ : ∃ s9, s9 = s3.goto (s3.k + 2) := ⟨_, rfl⟩
   rw [← hs9] at hq3
   refine QR hX ?_;refine QN hX ?_;refine QK (Qa ?_);refine QK (Qi ?_);refine QK (Qj ?_);refine QK (Qt ?_);refine QK (Qf ?_);refine QK (Qi ?_);refine QK (Qj ?_);refine QK (Qv ?_);refine QO hX ?_;refine QK (Qa ?_);refine QK (Qu ?_);refine QK (Qj ?_);refine QK (Qt ?_);refine QK ?_
   refine QJ en74 ?_
   refine node_w fun h30 g30 => ?_
   have hn30 := g30.1; (try simp only [UB, UC] at hn30)
   have ps30 : PSt h30 p L hd s9 := by
    rw [hs9]
    exact (PSt.self (hd := hd) (s := s3) (j := j) Wwps Wwobj hd (s3.goto (s3.k + 2)) hm2).gr g30
   refine QK (Qz ?_);refine QK ?_
   have kvk := KV.nil h4 (fun j => h4.next < j)
   have kvM31 := kvk.mono (S' := fun j => h4.next < j) (h' := (h30).alloc (.cells false (ncells (nd 7 t5 t5.text []) none 0 0))) Wwne (fun j hS hj => ⟨Wwne, Wwag⟩)
   have hge31 := kvk.ge
   refine WS.appendKV (S1 := fun j => h4.next < j) (S2 := fun j => (h30).next ≤ j ∧ j < (h30).next + 1) (k1 := []) (k2 := [(nd 7 t5 t5.text [])]) rfl rfl Wwev Wwev rfl rfl (by intro k hk; cases hk) (fits_at rfl) (by unfold room; omega) kvM31
    (KV.one (S := fun j => (h30).next ≤ j ∧ j < (h30).next) Wwne Wwne Wwobj (NV.leaf _ _ _ _ _ _) (fun j hS hj => ⟨⟨hS.1, by have := hS.2; exact Wwne⟩, by have := hS.2; exact Wwne⟩)) (fun x hx _ off => hge31 x (by have := hx.1; exact Wwne) off) ?_
   intro h31 b31 es31 hn31 kv31 hf31
   simp only [UB, UC] at hn31
   have hk31 : ∀ j, j ≤ h4.next → h31.obj j = (h30).obj j := fun j hj => (hf31 j Wwne (kvM31.ne j hj)).trans (obj_old Wwne rfl)
   have fr31 : Fr1 p h h31 := Fr1.keep (H := h30) Wwfr Wwne fun j hj => hk31 j (by omega)
   have ps31 : PSt h31 p L hd s9 := PSt.keep (h := h30) ps30 Wwne fun j hj => hk31 j (by omega)
   have hoz31 : h31.obj h.next = some (.cells false [.int .i64 0, .string .empty, .int .i64 0, .int .i64 0, .string .empty, .int .i64 0, .slice none 0 0]) := (hk31 _ (by omega)).trans Wwobj
   have hot31 : h31.obj h1.next = some (.cells false tk.cells) := (hk31 _ (by omega)).trans Wwobj
   have kvL31 := kv31.mono (S' := fun j => h4.next < j) (h' := h31) (Nat.le_refl _) (fun j hS hj => ⟨by (try simp only [UB, UC] at hS); omega, rfl⟩)
   refine QK (Qb ?_);refine QO hX ?_;refine QK (Qa ?_);refine QK (Qy ?_);refine QK ?_
   refine QJ en71 ?_
   refine is_w (L := L) (hd := hd) (s := s9) (ts := [(⟨#[60, 45]⟩ : ByteArray)]) Wwps Wwobj Wwne rfl (by first | decide | simp) fun h32 g32 => ?_
   have hn32 := g32.1; (try simp only [UB, UC] at hn32)
   cases hb32 : isR L s9 [(⟨#[60, 45]⟩ : ByteArray)]
   ·rw [hb32, if_neg Bool.false_ne_true] at hq3
    refine QK (Qe ?_);refine QQ hX ?_;refine QV hX ?_;refine QK (Qa ?_);refine QK ?_
    refine QJ en77 ?_
    exact failN_w (hd := hd) Wwps Wwfr hq3 (fun _ _ x => x)
   ·rw [hb32, if_pos rfl, R.then_ok] at hq3
    refine QK (Qe ?_);refine QP hX ?_;refine UA ?_;refine QU hX ?_;refine QN hX ?_;refine QK (Qa ?_);refine QK ?_
    refine QJ en104 ?_
    refine got_w (L := L) (hd := hd) (s := s9) Wwps fun h20 ps20 fr20 => ?_
    have hn20 := fr20.1; (try simp only [UB, UC] at hn20)
    unfold gotS at ps20
    cases hb20 : isR L s9 [(⟨#[60, 45]⟩ : ByteArray)]
    ·rw [hb20, if_neg Bool.false_ne_true] at ps20 hq3
     refine QP hX ?_;refine UA ?_;refine QN hX ?_;refine QK (Qa ?_);refine QK ?_
     refine QJ en139 ?_
     refine c.primary Wwps (EndN.use Wwfr hq3 (fun _ _ x => x) fun t21 s21 h21 v21 ps21 fr21 hv21 hq21 => ?_)
     obtain ⟨b21, n21, es21, rfl, kv21⟩ := hv21
     have hn21 := fr21.1; (try simp only [UB, UC] at hn21)
     refine QK (Qw ?_);refine QK (Qv ?_);refine QO hX ?_;refine QK (Qa ?_);refine QK ?_
     refine QJ en53 ?_
     refine want_w (hd := hd) Wwps (EndN.use Wwfr hq21 (fun _ _ x => x) fun tk22 s22 h22 v22 ps22 fr22 hv22 hq22 => ?_)
     subst hv22
     have hn22 := fr22.1; (try simp only [UB, UC] at hn22)
     refine QO hX ?_;refine QK (Qa ?_);refine QK ?_
     refine QJ en119 ?_
     refine c.expr Wwps (EndN.use Wwfr hq22 (fun _ _ x => x) fun t23 s23 h23 v23 ps23 fr23 hv23 hq23 => ?_)
     obtain ⟨b23, n23, es23, rfl, kv23⟩ := hv23
     have hn23 := fr23.1; (try simp only [UB, UC] at hn23)
     refine QK (Qw ?_);refine QK (Qv ?_);refine QL ?_;refine QU hX ?_;refine WC.drawn (id := 18) hX (l := [⟨0, .read, 0⟩, ⟨1, .read, 0⟩, ⟨2, .read, 0⟩, ⟨3, .pure, 0⟩, ⟨4, .heavy, 8⟩, ⟨5, .alloc, 30⟩, ⟨6, .heavy, 63⟩, ⟨7, .heavy, 127⟩]) (hw := ?_);refine QX (k := Qu ?_);refine QX (k := Qu ?_);refine QX (k := Qu ?_);refine QW (k := Qa ?_);refine WD.heavy hX (hw := ?_)
     refine QJ en147 ?_
     refine behind_w c Wwps (EndN.use Wwfr hq23 (fun _ _ x => x) fun t8 s8 h8 v8 ps8 fr8 hv8 hq8 => ?_)
     obtain ⟨b8, n8, es8, rfl, kv8⟩ := hv8
     have hn8 := fr8.1
     (try simp only [UB, UC] at hn8)
     refine WD.alloc (hw := Qz ?_);refine WD.heavy hX (hw := ?_)
     refine QJ en74 ?_
     refine node_w fun h24 g24 => ?_
     have hn24 := g24.1; (try simp only [UB, UC] at hn24)
     refine WD.heavy hX (hw := Qv ?_);refine WD.nil (hq := ?_);refine WC.ret ?_
     refine ⟨_, Wwres, ?_⟩
     refine hq8 _ _ Wwps Wwfr ⟨_, _, _, rfl, NV.of_kids ?_ _ _ _ _ _ _⟩
     apply KV.of3 (t3 := t8) (S := fun j => h.next ≤ j ∧ j < h8.next)
     (· exact Wwobj); (· rfl); (· exact Wwne); (· exact Wwne); (· exact (kv21.mono Wwne (fun j hS hj => by (try simp only [UB, UC] at hS); exact ⟨⟨Wwne, Wwne⟩, Wwag⟩))); (· exact (kv23.mono Wwne (fun j hS hj => by (try simp only [UB, UC] at hS); exact ⟨⟨Wwne, Wwne⟩, Wwag⟩))); (· exact (kv8.mono Wwne (fun j hS hj => by (try simp only [UB, UC] at hS); exact ⟨⟨Wwne, Wwne⟩, Wwag⟩))); (· exact fun j hS hj => ⟨hS.1, by have := hS.2; exact Wwne⟩)
    ·rw [hb20, if_pos rfl] at ps20 hq3
     refine QQ hX ?_;refine QN hX ?_;refine QK (Qa ?_);refine QK (Qa ?_);refine QK ?_
     refine QJ en143 ?_
     refine c.unary Wwps (EndN.use Wwfr hq3 (fun _ _ x => x) fun t21 s21 h21 v21 ps21 fr21 hv21 hq21 => ?_)
     obtain ⟨b21, n21, es21, rfl, kv21⟩ := hv21
     have hn21 := fr21.1; (try simp only [UB, UC] at hn21)
     refine QK (Qz ?_);refine QK ?_
     have kvM25 := kvL31.mono (S' := fun j => h4.next < j) (h' := (h21).alloc (.cells false (ncells t21 b21 n21 es21))) Wwne (fun j hS hj => ⟨Wwne, Wwag⟩)
     have hge25 := kvL31.ge
     refine WS.appendKV (S1 := fun j => h4.next < j) (S2 := fun j => (h20).next ≤ j ∧ j < (h21).next + 1) (k1 := [nd 7 t5 t5.text []]) (k2 := [t21]) rfl rfl Wwev Wwev rfl rfl (by intro k hk; cases hk) (fits_at rfl) (by unfold room; omega) kvM25
      (KV.one (S := fun j => (h20).next ≤ j ∧ j < (h21).next) Wwne Wwne Wwobj (kv21.mono Wwne (fun j hS hj => by (try simp only [UB, UC] at hS); exact ⟨⟨Wwne, Wwne⟩, Wwag⟩)) (fun j hS hj => ⟨⟨hS.1, by have := hS.2; exact Wwne⟩, by have := hS.2; exact Wwne⟩)) (fun x hx _ off => hge25 x (by have := hx.1; exact Wwne) off) ?_
     intro h25 b25 es25 hn25 kv25 hf25
     simp only [UB, UC] at hn25
     have hk25 : ∀ j, j ≤ h4.next → h25.obj j = (h21).obj j := fun j hj => (hf25 j Wwne (kvM25.ne j hj)).trans (obj_old Wwne rfl)
     have fr25 : Fr1 p h h25 := Fr1.keep (H := h21) Wwfr Wwne fun j hj => hk25 j (by omega)
     have ps25 : PSt h25 p L hd s21 := PSt.keep (h := h21) ps21 Wwne fun j hj => hk25 j (by omega)
     have hoz25 : h25.obj h.next = some (.cells false [.int .i64 0, .string .empty, .int .i64 0, .int .i64 0, .string .empty, .int .i64 0, .slice none 0 0]) := (hk25 _ (by omega)).trans Wwobj
     have hot25 : h25.obj h1.next = some (.cells false tk.cells) := (hk25 _ (by omega)).trans Wwobj
     have kvL25 := kv25.mono (S' := fun j => h4.next < j) (h' := h25) (Nat.le_refl _) (fun j hS hj => ⟨by (try simp only [UB, UC] at hS); omega, rfl⟩)
     refine QK (Qb ?_);refine QL ?_;refine QU hX ?_;refine WC.drawn (id := 14) hX (l := [⟨0, .read, 0⟩, ⟨1, .pure, 0⟩, ⟨2, .pure, 0⟩, ⟨3, .heavy, 4⟩, ⟨4, .alloc, 12⟩, ⟨5, .heavy, 30⟩, ⟨6, .heavy, 63⟩, ⟨7, .heavy, 127⟩]) (hw := ?_);refine QX (k := Qu ?_);refine QW (k := Qa ?_);refine QW (k := Qa ?_);refine WD.heavy hX (hw := ?_)
     refine QJ en147 ?_
     refine behind_w c Wwps (EndN.use Wwfr hq21 (fun _ _ x => x) fun t8 s8 h8 v8 ps8 fr8 hv8 hq8 => ?_)
     obtain ⟨b8, n8, es8, rfl, kv8⟩ := hv8
     have hn8 := fr8.1
     (try simp only [UB, UC] at hn8)
     refine WD.alloc (hw := Qz ?_);refine WD.heavy hX (hw := ?_)
     have kvM26 := kvL25.mono (S' := fun j => h4.next < j) (h' := (h8).alloc (.cells false (ncells t8 b8 n8 es8))) Wwne (fun j hS hj => ⟨Wwne, Wwag⟩)
     have hge26 := kvL25.ge
     refine WS.appendKV (S1 := fun j => h4.next < j) (S2 := fun j => (h25).next ≤ j ∧ j < (h8).next + 1) (k1 := [nd 7 t5 t5.text []] ++ [t21]) (k2 := [t8]) rfl rfl Wwev Wwev rfl rfl (by intro k hk; cases hk) (fits_at rfl) (by unfold room; omega) kvM26
      (KV.one (S := fun j => (h25).next ≤ j ∧ j < (h8).next) Wwne Wwne Wwobj (kv8.mono Wwne (fun j hS hj => by (try simp only [UB, UC] at hS); exact ⟨⟨Wwne, Wwne⟩, Wwag⟩)) (fun j hS hj => ⟨⟨hS.1, by have := hS.2; exact Wwne⟩, by have := hS.2; exact Wwne⟩)) (fun x hx _ off => hge26 x (by have := hx.1; exact Wwne) off) ?_
     intro h26 b26 es26 hn26 kv26 hf26
     simp only [UB, UC] at hn26
     have hk26 : ∀ j, j ≤ h4.next → h26.obj j = (h8).obj j := fun j hj => (hf26 j Wwne (kvM26.ne j hj)).trans (obj_old Wwne rfl)
     have fr26 : Fr1 p h h26 := Fr1.keep (H := h8) Wwfr Wwne fun j hj => hk26 j (by omega)
     have ps26 : PSt h26 p L hd s8 := PSt.keep (h := h8) ps8 Wwne fun j hj => hk26 j (by omega)
     have hoz26 : h26.obj h.next = some (.cells false [.int .i64 0, .string .empty, .int .i64 0, .int .i64 0, .string .empty, .int .i64 0, .slice none 0 0]) := (hk26 _ (by omega)).trans Wwobj
     have hot26 : h26.obj h1.next = some (.cells false tk.cells) := (hk26 _ (by omega)).trans Wwobj
     refine WD.heavy hX (hw := ?_)
     refine QJ en74 ?_
     refine node_w fun h27 g27 => ?_
     have hn27 := g27.1; (try simp only [UB, UC] at hn27)
     refine WD.heavy hX (hw := Qv ?_);refine WD.nil (hq := ?_);refine WC.ret ?_
     refine ⟨_, Wwres, ?_⟩
     refine hq8 _ _ Wwps Wwfr ⟨_, _, _, rfl, NV.of_kids ?_ _ _ _ _ _ _⟩
     exact (kv26.mono Wwne (fun j hS hj => by (try simp only [UB, UC] at hS); exact ⟨Wwne, Wwag⟩))
 ·rw [hb2, if_pos rfl] at ps2 hq0
  refine QQ hX ?_;refine QU hX ?_;refine WC.drawn (id := 3) hX (l := [⟨0, .read, 0⟩, ⟨1, .pure, 0⟩, ⟨2, .heavy, 2⟩, ⟨3, .alloc, 6⟩, ⟨4, .heavy, 15⟩, ⟨5, .heavy, 31⟩]) (hw := ?_);refine QX (k := Qu ?_);refine QW (k := Qa ?_);refine WD.heavy hX (hw := ?_)
  refine QJ en147 ?_
  refine behind_w c Wwps (EndN.use Wwfr hq0 (fun _ _ x => x) fun t8 s8 h8 v8 ps8 fr8 hv8 hq8 => ?_)
  obtain ⟨b8, n8, es8, rfl, kv8⟩ := hv8
  have hn8 := fr8.1
  (try simp only [UB, UC] at hn8)
  refine WD.alloc (hw := Qz ?_);refine WD.heavy hX (hw := ?_)
  refine QJ en74 ?_
  refine node_w fun h5 g5 => ?_
  have hn5 := g5.1; (try simp only [UB, UC] at hn5)
  refine WD.heavy hX (hw := Qv ?_);refine WD.nil (hq := ?_);refine WC.ret ?_
  refine ⟨_, Wwres, ?_⟩
  refine hq8 _ _ Wwps Wwfr ⟨_, _, _, rfl, NV.of_kids ?_ _ _ _ _ _ _⟩
  exact (KV.one (S := fun j => h.next ≤ j ∧ j < h8.next) Wwne Wwne Wwobj (kv8.mono Wwne (fun j hS hj => by (try simp only [UB, UC] at hS); exact ⟨⟨Wwne, hj⟩, Wwag⟩)) (fun j hS hj => ⟨hS.1, by have := hS.2; exact Wwne⟩))

end Go.Proofs.ZL
end

section
open Go Go.Am
namespace Go.Proofs.ZL
set_option maxRecDepth 100000
set_option linter.unusedSimpArgs false
set_option linter.unusedVariables false
set_option maxHeartbeats 1000000

def VP (S : Nat → Prop) (h : Heap) (x : Nd × Bool) (v : Value) : Prop := ∃ b n es, v = .tuple #[.agg (ncells x.1 b n es).toArray, .bool x.2] ∧ NV h S (ncells x.1 b n es) x.1

theorem first1_w {r : Rec} (c : Ctr r) {i j l : Nat} {tn : Nd} {bare : Bool} {bn : Option Addr} {nn esn lo hi x : Nat} {p : Nat} {L : List Tok} {hd : Bool} {s : St} {h : Heap} {Q : ARes → Prop} (ps : PSt h p L hd s) (ho : h.obj i = some (.cells false [pV p])) (hi1 : i < h.next) (hip : i ≠ p)
  (hoj : h.obj j = some (.cells false (ncells tn bn nn esn))) (hol : h.obj l = some (.cells false [.bool bare])) (hj1 : j < h.next) (hl1 : l < h.next)
  (hlo : lo ≤ h.next) (hxl : x < lo) (hpl : p < lo) (hhi : hi ≤ h.next) (kvn : NV h (fun j => lo ≤ j ∧ j < hi) (ncells tn bn nn esn) tn)
  (hq0 : EndN (VN (fun j => lo ≤ j ∧ j ≠ x ∧ (j < hi ∨ h.next ≤ j))) p L hd h Q (restF r tn bare L hd s)) : WCall Tryz.prog G X 162 [.pointer (some ⟨i, 0, none⟩), .pointer (some ⟨j, 0, none⟩), .pointer (some ⟨l, 0, none⟩)] h Q := by
 have hp := ps.lt
 rw [← R.then_id (restF r tn bare L hd s)] at hq0
 refine WCall.walk hX Tryz.func162 rfl rfl Tryz.ntmps162 rfl ?_
 refine QN hX ?_;refine QK (Qw ?_);refine QO hX ?_;refine QK (Qt ?_);refine QK (Qu ?_);refine QK (Qt ?_);refine QK ?_
 refine QJ en144 ?_
 refine rest_w c (hi := hi) (lo := lo) Wwps Wwne Wwne Wwne (kvn.mono Wwne (fun j hS hj => by (try simp only [UB, UC] at hS); exact ⟨⟨Wwne, Wwne⟩, Wwag⟩)) (EndN.use Wwfr hq0 (fun _ _ x => x) fun t1 s1 h1 v1 ps1 fr1 hv1 hq1 => ?_)
 obtain ⟨b1, n1, es1, rfl, kv1⟩ := hv1
 have hn1 := fr1.1
 simp only [Heap.alloc_next] at hn1
 refine QK (Qv ?_);refine QM ?_
 refine ⟨_, Wwres, ?_⟩
 refine hq1 _ _ Wwps Wwfr ⟨_, _, _, rfl, kv1.mono Wwne (fun j hS hj => by (try simp only [UB, UC] at hS); exact ⟨by omega, Wwag⟩)⟩

def FirstI (p : Nat) (L : List Tok) (hd : Bool) (h HH : Heap) (n1 : Nat) (c : List Value) (bare : Bool) (s : St) (k k' : Nat) (e : Env) (h' : Heap) : Prop :=
 e 1 = some (.pointer (some ⟨h.next, 0, none⟩)) ∧ e 2 = some (.pointer (some ⟨h.next + 1, 0, none⟩)) ∧ e 4 = some (.int .i64 k) ∧ e 5 = some (.pointer (some ⟨n1, 0, none⟩)) ∧ e 6 = some (.pointer (some ⟨n1 + 1, 0, none⟩)) ∧ e 7 = some (.int .i64 k') ∧
  PSt h' p L hd s ∧ Fr1 p h h' ∧ Fr1 p HH h' ∧ h'.obj h.next = some (.cells false [pV p]) ∧ h'.obj (h.next + 1) = some (.cells false [.int .i64 0, .string .empty, .int .i64 0, .int .i64 0, .string .empty, .int .i64 0, .slice none 0 0]) ∧ h'.obj n1 = some (.cells false c) ∧ h'.obj (n1 + 1) = some (.cells false [.bool bare]) ∧ n1 + 1 < h'.next ∧ h.next + 1 < n1
theorem first_w {r : Rec} (c : Ctr r) {p : Nat} {L : List Tok} {hd : Bool} {s : St} {h : Heap} {Q : ARes → Prop} (ps : PSt h p L hd s) (hq0 : EndN (VP (fun j => h.next ≤ j)) p L hd h Q (firstF r L hd s)) : WCall Tryz.prog G X 146 [pV p] h Q := by
 have hp := ps.lt
 unfold firstF at hq0
 simp only at hq0
 obtain ⟨j0, hj0, hop0, hol0⟩ := ps.tok
 refine WCall.walk hX Tryz.func146 rfl rfl Tryz.ntmps146 rfl ?_
 refine QN hX ?_;refine QK (Qx ?_);refine QK (Qw ?_);refine QK (Qb ?_);refine QO hX ?_;refine QK (Qt ?_);refine QK (Qi ?_);refine QK (Qj ?_);refine QK (Qt ?_);refine QK (Qb ?_);refine QO hX ?_;refine QK (Qt ?_);refine QK (Qt ?_);refine QK (Qp ?_);refine QK ?_
 refine QJ en87 ?_
 refine within_w (hd := hd) (hd' := true) (spec := r.expr L true s) Wwps en119 (fun {h1 Q1} ps1 fr1 hq1 => c.expr ps1 hq1) (EndN.use Wwfr hq0 (fun _ _ x => x) fun t1 s1 h1 v1 ps1 fr1 hv1 hq1 => ?_)
 obtain ⟨b1, n1, es1, rfl, kv1⟩ := hv1
 have hn1 := fr1.1; (try simp only [UB, UC] at hn1)
 obtain ⟨j1, hj1, hop1, hol1⟩ := ps1.tok
 refine QK (Qw ?_);refine QK (Qv ?_);refine QL ?_;refine QU hX ?_;refine WC.drawn (id := 3) hX (l := [⟨0, .read, 0⟩, ⟨1, .pure, 1⟩, ⟨2, .pure, 3⟩, ⟨3, .read, 7⟩, ⟨4, .read, 0⟩, ⟨5, .pure, 16⟩, ⟨6, .pure, 48⟩, ⟨7, .read, 112⟩, ⟨8, .alloc, 0⟩, ⟨9, .heavy, 271⟩, ⟨10, .pure, 1023⟩]) (hw := ?_);refine QX (k := Qt ?_);refine QW (k := Qi ?_);refine QW (k := Qj ?_);refine QX (k := Qt ?_);refine QX (k := Qt ?_);refine QW (k := Qi ?_);refine QW (k := Qj ?_);refine QX (k := Qt ?_);refine WD.alloc (hw := Qw ?_);refine WD.heavy hX (hw := Qv ?_);refine QW (k := Qb ?_);refine WD.nil (hq := ?_);refine QN hX ?_;refine QK (Qt ?_);refine QK (Qa ?_);refine QK (Qi ?_);refine QK (Qj ?_);refine QK (Qv ?_);refine QO hX ?_;refine QK (Qt ?_);refine QK (Qy ?_);refine QK ?_
 -- the first place again
 have hkk : s.k < L.length := ps.at_
 refine QJ en71 ?_
 refine is_w (L := L) (hd := hd) (s := ⟨s.k, s1.bare⟩) (ts := [(⟨#[45]⟩ : ByteArray), (⟨#[33]⟩ : ByteArray), (⟨#[60, 45]⟩ : ByteArray)]) (PSt.alloc (PSt.self (hd := hd) (s := s1) (j := j1) Wwps Wwobj hd ⟨s.k, s1.bare⟩ hkk) _) Wwobj Wwne rfl (by decide) fun h2 g2 => ?_
 have hn2 := g2.1
 (try simp only [UB, UC] at hn2)
 have ps2 : PSt h2 p L hd ⟨s.k, s1.bare⟩ := (PSt.alloc (PSt.self (hd := hd) (s := s1) (j := j1) Wwps Wwobj hd ⟨s.k, s1.bare⟩ hkk) _).gr g2
 refine QK (Qe ?_);refine QK (Qb ?_);refine QL ?_;refine QU hX ?_
 refine WC.cut (N' := fun e h' => FirstI p L hd h h1 h1.next (ncells t1 b1 n1 es1) s1.bare ⟨s.k, s1.bare⟩ s.k s1.k e h' ∧ e 8 = some (.bool (!isR L s [(⟨#[45]⟩ : ByteArray), (⟨#[33]⟩ : ByteArray), (⟨#[60, 45]⟩ : ByteArray)])) ∧ e 9 = some (.bool (decide (t1.kind = 41) && decide (t1.text = (⟨#[60, 45]⟩ : ByteArray)) && isR L s [(⟨#[60, 45]⟩ : ByteArray)]))) ?_ ?_
 ·refine QV hX ?_;refine QK (Qj ?_);refine QK (Qt ?_);refine QK (QD ?_ ?_);intro hh;refine QK (Qa ?_);refine QK (Qj ?_);refine QK (Qt ?_);refine QK (QB ?_ ?_);intro hh;refine QK (Qc ?_);refine QK (Qa ?_);refine QK (Qt ?_);refine QK (Qy ?_);refine QK ?_;rotate_left;intro hh;refine QK (Qc ?_);refine QK (Qa ?_);refine QK (QA ?_);refine QK (QA ?_);refine QK (QA ?_);refine QK (Qd ?_);refine QK (Qb ?_);refine QL ?_;rotate_left;intro hh;refine QK (Qa ?_);refine QK (QA ?_);refine QK (QA ?_);refine QK (QA ?_);refine QK (Qd ?_);refine QK (Qa ?_);refine QK (QA ?_);refine QK (QA ?_);refine QK (QA ?_);refine QK (Qd ?_);refine QK (Qb ?_);refine QL ?_;rotate_left
  ·refine QJ en71 ?_
   refine is_w (L := L) (hd := hd) (s := ⟨s.k, s1.bare⟩) (ts := [(⟨#[60, 45]⟩ : ByteArray)]) Wwps Wwobj Wwne rfl (by decide) fun h3 g3 => ?_
   have hn3 := g3.1
   (try simp only [UB, UC] at hn3)
   have hbb : isR L ⟨s.k, s1.bare⟩ [(⟨#[60, 45]⟩ : ByteArray)] = isR L s [(⟨#[60, 45]⟩ : ByteArray)] := rfl
   rw [hbb]
   refine QK (Qc ?_);refine QK (Qb ?_);refine QL ?_
   exact ⟨⟨Wwev, Wwev, Wwev, Wwev, Wwev, Wwev, Wwps, Wwfr, Wwfr, Wwobj, Wwobj, Wwobj, Wwobj, Wwne, Wwne⟩, Wwev, by simp [*, upd]⟩
  ·exact ⟨⟨Wwev, Wwev, Wwev, Wwev, Wwev, Wwev, Wwps, Wwfr, Wwfr, Wwobj, Wwobj, Wwobj, Wwobj, Wwne, Wwne⟩, Wwev, by simp [*, upd]⟩
  ·exact ⟨⟨Wwev, Wwev, Wwev, Wwev, Wwev, Wwev, Wwps, Wwfr, Wwfr, Wwobj, Wwobj, Wwobj, Wwobj, Wwne, Wwne⟩, Wwev, by simp [*, upd]⟩
 rintro e h6 ⟨⟨e1, e2, e4, e5, e6, e7, ps6, fr6, fr61, hob, hoz, hon, hobb, hn6, hn6b⟩, e8, e9⟩
 have hnn6 := fr6.1
 obtain ⟨j6, hj6, hop6, hol6⟩ := ps6.tok
 refine QU hX ?_
 refine WC.region hX ?_
 refine QK (Qt ?_);refine QK (Qa ?_);refine QK (Qi ?_);refine QK (Qj ?_);refine QK (Qv ?_);refine QL ?_;refine QU hX ?_
 have ps7 := PSt.self (hd := hd) (s := ⟨s.k, s1.bare⟩) (j := j6) ps6 hop6 hd s1 ps1.at_
 have fr71 : Fr1 p h1 (h6.put p (some (.cells false [.slice (some ⟨j6, 0, none⟩) L.length 4, .int .i64 s1.k, .bool hd, .bool s1.bare]))) := fr61.self
 have fr7 : Fr1 p h (h6.put p (some (.cells false [.slice (some ⟨j6, 0, none⟩) L.length 4, .int .i64 s1.k, .bool hd, .bool s1.bare]))) := fr6.self
 refine WC.cut (N' := fun e h' => FirstI p L hd h h1 h1.next (ncells t1 b1 n1 es1) s1.bare s1 s.k s1.k e h' ∧ e 8 = some (.bool ((!isR L s [(⟨#[45]⟩ : ByteArray), (⟨#[33]⟩ : ByteArray), (⟨#[60, 45]⟩ : ByteArray)]) && decide (t1.kind ≠ 42) || decide (t1.kind = 42) && s1.bare)) ∧ e 9 = some (.bool (decide (t1.kind = 41) && decide (t1.text = (⟨#[60, 45]⟩ : ByteArray)) && isR L s [(⟨#[60, 45]⟩ : ByteArray)]))) ?_ ?_
 ·generalize isR L s [(⟨#[45]⟩ : ByteArray), (⟨#[33]⟩ : ByteArray), (⟨#[60, 45]⟩ : ByteArray)] = b8 at *
  cases b8
  ·refine QV hX ?_;refine QK (Qa ?_);refine QK (Qa ?_);refine QK (Qj ?_);refine QK (Qt ?_);refine QK (QE ?_ ?_);intro hh;refine QK (Qc ?_);refine QK (Qa ?_);refine QK (QA ?_);refine QK (QA ?_);refine QK (QA ?_);refine QK (QA ?_);refine QK (QA ?_);refine QK (QA ?_);refine QK (Qc ?_);refine QK (Qb ?_);refine QL ?_;rotate_left;intro hh;refine QK (Qc ?_);refine QK (Qa ?_);refine QK (Qj ?_);refine QK (Qt ?_);refine QK (QD ?_ ?_);intro hh;refine QK (Qa ?_);refine QK (Qt ?_);refine QK (Qc ?_);refine QK (Qd ?_);refine QK (Qb ?_);refine QL ?_;rotate_left;intro hh;exfalso;omega
   all_goals exact ⟨⟨Wwev, Wwev, Wwev, Wwev, Wwev, Wwev, Wwps, Wwfr, Wwfr, Wwobj, Wwobj, Wwobj, Wwobj, Wwne, Wwne⟩, by simp [*, upd], Wwev⟩
  ·refine QV hX ?_;refine QK (Qa ?_);refine QK (Qa ?_);refine QK (QA ?_);refine QK (QA ?_);refine QK (QA ?_);refine QK (Qd ?_);refine QK (Qa ?_);refine QK (Qj ?_);refine QK (Qt ?_);refine QK (QD ?_ ?_);intro hh;refine QK (Qa ?_);refine QK (Qt ?_);refine QK (Qc ?_);refine QK (Qd ?_);refine QK (Qb ?_);refine QL ?_;rotate_left;intro hh;refine QK (Qa ?_);refine QK (QA ?_);refine QK (Qd ?_);refine QK (Qd ?_);refine QK (Qb ?_);refine QL ?_;rotate_left
   all_goals exact ⟨⟨Wwev, Wwev, Wwev, Wwev, Wwev, Wwev, Wwps, Wwfr, Wwfr, Wwobj, Wwobj, Wwobj, Wwobj, Wwne, Wwne⟩, by simp [*, upd], Wwev⟩
 clear e1 e2 e4 e5 e6 e7 e8 e9
 rintro e h8 ⟨⟨e1, e2, e4, e5, e6, e7, ps8, fr8, fr81, hob, hoz, hon, hobb, hn8, hn8b⟩, e8, e9⟩
 generalize ((!isR L s [(⟨#[45]⟩ : ByteArray), (⟨#[33]⟩ : ByteArray), (⟨#[60, 45]⟩ : ByteArray)]) && decide (t1.kind ≠ 42) || decide (t1.kind = 42) && s1.bare) = single at *
 generalize (decide (t1.kind = 41) && decide (t1.text = (⟨#[60, 45]⟩ : ByteArray)) && isR L s [(⟨#[60, 45]⟩ : ByteArray)]) = receives at *
 have hnn8 := fr8.1
 refine QU hX ?_;refine WC.block hX ?_;refine QN hX ?_;refine QK (Qt ?_);refine QK (Qy ?_);refine QK ?_
 refine QJ en71 ?_
 refine is_w (L := L) (hd := hd) (s := s1) (ts := [(⟨#[123]⟩ : ByteArray)]) Wwps Wwobj Wwne rfl (by first | decide | simp) fun h10 g10 => ?_
 have hn10 := g10.1; (try simp only [UB, UC] at hn10)
 cases hb10 : isR L s1 [(⟨#[123]⟩ : ByteArray)]
 case true =>
  rw [hb10, if_pos rfl] at hq1
  refine QK (Qb ?_);refine QQ hX ?_;refine QN hX ?_;refine QK (Qu ?_);refine QK (Qv ?_);refine QK (Qb ?_);refine QM ?_
  refine ⟨_, Wwres, ?_⟩
  exact hq1 _ _ Wwps Wwfr ⟨_, _, _, rfl, kv1.mono Wwne (fun j hS hj => by (try simp only [UB, UC] at hS); exact ⟨Wwne, Wwag⟩)⟩
 rw [hb10, if_neg Bool.false_ne_true] at hq1
 cases receives
 case true =>
  rw [if_pos rfl] at hq1
  refine QK (Qb ?_);refine QP hX ?_;refine QN hX ?_;refine QK (Qa ?_);refine QK (Qb ?_);refine QQ hX ?_;refine QU hX ?_;refine QN hX ?_;refine QK (Qt ?_);refine QK (Qy ?_);refine QK ?_
  refine QJ en71 ?_
  refine is_w (L := L) (hd := hd) (s := s1) (ts := [(⟨#[59]⟩ : ByteArray)]) Wwps Wwobj Wwne rfl (by first | decide | simp) fun h11 g11 => ?_
  have hn11 := g11.1; (try simp only [UB, UC] at hn11)
  cases hb11 : isR L s1 [(⟨#[59]⟩ : ByteArray)]
  ·rw [hb11, if_neg Bool.false_ne_true] at hq1
   refine QK (Qe ?_);refine QQ hX ?_;refine QV hX ?_;refine QK (Qt ?_);refine QK ?_
   refine QJ en77 ?_
   exact failN_w (hd := hd) Wwps Wwfr hq1 (fun _ _ x => x)
  ·rw [hb11, if_pos rfl] at hq1
   refine QK (Qe ?_);refine QP hX ?_;refine UA ?_;refine QN hX ?_;refine QK (Qj ?_);refine QK (Qt ?_);refine QK (Qu ?_);refine QK (Qz ?_);refine QK (Qn ?_);refine QK (Qv ?_);refine QK (Qb ?_);refine QM ?_
   refine ⟨_, Wwres, ?_⟩
   refine hq1 _ _ Wwps Wwfr ⟨_, _, _, rfl, NV.of_kids ?_ _ _ _ _ _ _⟩
   exact (KV.one (S := fun j => h.next ≤ j ∧ j < h1.next) Wwne Wwne Wwobj (kv1.mono Wwne (fun j hS hj => by (try simp only [UB, UC] at hS); exact ⟨⟨Wwne, hj⟩, Wwag⟩)) (fun j hS hj => ⟨by have := hS.1; exact Wwne, by have := hS.2; exact Wwne⟩))
 rw [if_neg Bool.false_ne_true] at hq1
 cases single
 case false =>
  rw [Bool.not_false, if_pos rfl] at hq1
  refine QK (Qb ?_);refine QP hX ?_;refine QN hX ?_;refine QK (Qa ?_);refine QK (Qb ?_);refine QP hX ?_;refine QN hX ?_;refine QK (Qa ?_);refine QK (Qe ?_);refine QK (Qb ?_);refine QQ hX ?_;refine QV hX ?_;refine QK (Qt ?_);refine QK ?_
  refine QJ en77 ?_
  exact failN_w (hd := hd) Wwps Wwfr hq1 (fun _ _ x => x)
 rw [Bool.not_true, if_neg Bool.false_ne_true] at hq1
 refine QK (Qb ?_);refine QP hX ?_;refine QN hX ?_;refine QK (Qa ?_);refine QK (Qb ?_);refine QP hX ?_;refine QN hX ?_;refine QK (Qa ?_);refine QK (Qe ?_);refine QK (Qb ?_);refine QP hX ?_;refine UA ?_;refine QN hX ?_;refine QK (Qt ?_);refine QK (Qp ?_);refine QK ?_
 refine QJ en87 ?_
 refine within_g (L := L) (s := s1) (hd := hd) (hd' := true) (lo := h.next + 2) (hi := h1.next) (x := h.next) (spec := restF r t1 s1.bare L true s1) Wwps Wwne Wwne Wwne en162 (fun {h9 Q9} ps9 fr9 hq9 => ?_) (EndN.use Wwfr hq1 (fun _ _ x => x) fun t12 s12 h12 v12 ps12 fr12 hv12 hq12 => ?_)
 ·have hn9 := fr9.1
  (try simp only [UB, UC] at hn9)
  exact first1_w (i := h.next) (j := h1.next) (l := h1.next + 1) (x := h.next) (lo := h.next + 2) (hi := h1.next) c ps9 (fr9.at Wwne Wwne Wwobj) Wwne Wwne (fr9.at Wwne Wwne Wwobj) (fr9.at Wwne Wwne Wwobj) Wwne Wwne Wwne Wwne Wwne Wwne (kv1.mono Wwne (fun j hS hj => by (try simp only [UB, UC] at hS); exact ⟨Wwne, Wwag⟩)) hq9
 ·obtain ⟨b12, n12, es12, rfl, kv12⟩ := hv12
  have hn12 := fr12.1
  (try simp only [UB, UC] at hn12)
  refine QK (Qw ?_);refine QK (Qv ?_);refine QL ?_;refine QU hX ?_;refine QN hX ?_;refine QK (Qt ?_);refine QK (Qy ?_);refine QK ?_
  refine QJ en71 ?_
  refine is_w (L := L) (hd := hd) (s := s12) (ts := [(⟨#[59]⟩ : ByteArray)]) Wwps Wwobj Wwne rfl (by first | decide | simp) fun h13 g13 => ?_
  have hn13 := g13.1; (try simp only [UB, UC] at hn13)
  cases hb13 : isR L s12 [(⟨#[59]⟩ : ByteArray)]
  ·rw [hb13, if_neg Bool.false_ne_true] at hq12
   refine QK (Qe ?_);refine QQ hX ?_;refine QV hX ?_;refine QK (Qt ?_);refine QK ?_
   refine QJ en77 ?_
   exact failN_w (hd := hd) Wwps Wwfr hq12 (fun _ _ x => x)
  ·rw [hb13, if_pos rfl] at hq12
   refine QK (Qe ?_);refine QP hX ?_;refine UA ?_;refine QN hX ?_;refine QK (Qu ?_);refine QK (Qv ?_);refine QK (Qb ?_);refine QM ?_
   refine ⟨_, Wwres, ?_⟩
   exact hq12 _ _ Wwps Wwfr ⟨_, _, _, rfl, kv12.mono Wwne (fun j hS hj => by (try simp only [UB, UC] at hS); exact ⟨Wwne, Wwag⟩)⟩

end Go.Proofs.ZL
end

section
open Go Go.Am
namespace Go.Proofs.ZL
set_option maxRecDepth 100000
set_option linter.unusedSimpArgs false
set_option linter.unusedVariables false
set_option maxHeartbeats 1000000

def Cell (h : Heap) (S : Nat → Prop) (t : Nd) (i : Nat) : Prop := ∃ b n es, h.obj i = some (.cells false (ncells t b n es)) ∧ NV h S (ncells t b n es) t

theorem KV.of4 {h : Heap} {S S' : Nat → Prop} {i : Nat} {cells : List Value} {t t2 t3 t4 : Nd} {b b2 b3 b4 : Option Addr} {n es n2 es2 n3 es3 n4 es4 : Nat} (ho : h.obj i = some (.cells false cells)) (hc : cells = ncells t b n es ++ ncells t2 b2 n2 es2 ++ ncells t3 b3 n3 es3 ++ ncells t4 b4 n4 es4) (hi : S' i) (hlt : i < h.next) (hv : NV h S (ncells t b n es) t) (hv2 : NV h S (ncells t2 b2 n2 es2) t2) (hv3 : NV h S (ncells t3 b3 n3 es3) t3) (hv4 : NV h S (ncells t4 b4 n4 es4) t4)
  (hS : ∀ j, S j → j < h.next → S' j ∧ j ≠ i) : KV h S' (some ⟨i, 0, none⟩) 4 7 [t, t2, t3, t4] :=
 KV.fresh (S := S) (kids := [t, t2, t3, t4]) (vss := [ncells t b n es, ncells t2 b2 n2 es2, ncells t3 b3 n3 es3, ncells t4 b4 n4 es4]) hi hlt (by rw [ho, hc]; simp) rfl hS fun j u vs h1 h2 => by
  rcases j with _ | _ | _ | _ | j
  ·simp at h1 h2; subst h1; subst h2; exact hv
  ·simp at h1 h2; subst h1; subst h2; exact hv2
  ·simp at h1 h2; subst h1; subst h2; exact hv3
  ·simp at h1 h2; subst h1; subst h2; exact hv4
  ·simp at h1

def LoopI (p : Nat) (L : List Tok) (hd : Bool) (h : Heap) (tk : Tok) (n5 : Nat) (f c l : Nd) (s : St) (e : Env) (h' : Heap) : Prop :=
 e 0 = some (pV p) ∧ e 3 = some (.pointer (some ⟨h.next, 0, none⟩)) ∧ e 4 = some (.pointer (some ⟨h.next + 1, 0, none⟩)) ∧ e 5 = some (.pointer (some ⟨n5, 0, none⟩)) ∧ e 6 = some (.pointer (some ⟨n5 + 1, 0, none⟩)) ∧ e 7 = some (.pointer (some ⟨n5 + 2, 0, none⟩)) ∧
  PSt h' p L hd s ∧ Fr1 p h h' ∧ h'.obj h.next = some (.cells false tk.cells) ∧ h'.obj (h.next + 1) = some (.cells false [.int .i64 0, .string .empty, .int .i64 0, .int .i64 0, .string .empty, .int .i64 0, .slice none 0 0]) ∧ n5 + 2 < h'.next ∧ h.next + 1 < n5 ∧
  Cell h' (fun j => h.next + 1 < j ∧ j ≠ n5 ∧ j ≠ n5 + 1 ∧ j ≠ n5 + 2) f n5 ∧ Cell h' (fun j => h.next + 1 < j ∧ j ≠ n5 ∧ j ≠ n5 + 1 ∧ j ≠ n5 + 2) c (n5 + 1) ∧ Cell h' (fun j => h.next + 1 < j ∧ j ≠ n5 ∧ j ≠ n5 + 1 ∧ j ≠ n5 + 2) l (n5 + 2)
theorem loop_w {r : Rec} (c : Ctr r) {tk : Tok} {p : Nat} {L : List Tok} {hd : Bool} {s : St} {h : Heap} {Q : ARes → Prop} (ps : PSt h p L hd s) (hq0 : EndN (VN (fun j => h.next ≤ j)) p L hd h Q (loopF r tk L hd s)) : WCall Tryz.prog G X 135 [pV p, .agg tk.cells.toArray] h Q := by
 have hp := ps.lt
 unfold loopF at hq0
 refine WCall.walk hX Tryz.func135 rfl rfl Tryz.ntmps135 rfl ?_
 refine QN hX ?_;refine QK (Qx ?_);refine QK (Qw ?_);refine QO hX ?_;refine QK ?_
 refine QJ en78 ?_
 refine none_w fun h1 g1 => ?_
 have hn1 := g1.1; (try simp only [UB, UC] at hn1)
 refine QK ?_
 refine QJ en78 ?_
 refine none_w fun h2 g2 => ?_
 have hn2 := g2.1; (try simp only [UB, UC] at hn2)
 refine QK ?_
 refine QJ en78 ?_
 refine none_w fun h3 g3 => ?_
 have hn3 := g3.1; (try simp only [UB, UC] at hn3)
 refine QK (Qw ?_);refine QK (Qw ?_);refine QK (Qw ?_);refine QK (Qv ?_);refine QK (Qv ?_);refine QK (Qv ?_);refine QL ?_;refine QU hX ?_;refine QN hX ?_;refine QK (Qa ?_);refine QK (Qy ?_);refine QK ?_
 refine QJ en71 ?_
 refine is_w (L := L) (hd := hd) (s := s) (ts := [(⟨#[123]⟩ : ByteArray), (⟨#[59]⟩ : ByteArray)]) Wwps Wwobj Wwne rfl (by first | decide | simp) fun h4 g4 => ?_
 have hn4 := g4.1; (try simp only [UB, UC] at hn4)
 refine QK (Qe ?_);refine QL ?_
 refine WC.cut (N' := fun e h' => ∃ fc s', LoopI p L hd h tk h3.next fc.1 fc.2 noneN s' e h' ∧ EndN (VN fun j => h.next ≤ j) p L hd h Q (loopB r tk L hd fc s')) ?_ ?_
 ·cases hb4 : isR L s [(⟨#[123]⟩ : ByteArray), (⟨#[59]⟩ : ByteArray)]
  ·rw [hb4, if_neg Bool.false_ne_true, R.then_assoc] at hq0
   refine QR hX ?_;refine QN hX ?_;refine QK (Qb ?_);refine QO hX ?_;refine QK (Qa ?_);refine QK ?_
   refine QJ en146 ?_
   refine first_w c Wwps (EndN.use Wwfr hq0 (fun _ _ x => x) fun t5 s5 h5 v5 ps5 fr5 hv5 hq5 => ?_)
   obtain ⟨x5, three⟩ := t5
   obtain ⟨b5, n5, es5, rfl, kv5⟩ := hv5
   have hn5 := fr5.1
   (try simp only [UB, UC] at hn5)
   rw [R.then_ok] at hq5
   cases three
   ·rw [if_neg Bool.false_ne_true] at hq5
    refine QK (Qa ?_);refine QK (Qq ?_);refine QK (Qq ?_);refine QK (Qv ?_);refine QK (Qb ?_);refine QO hX ?_;refine QK (Qa ?_);refine QK (Qe ?_);refine QQ hX ?_;refine WC.drawn (id := 6) hX (l := [⟨0, .read, 0⟩, ⟨1, .heavy, 0⟩, ⟨2, .heavy, 3⟩, ⟨3, .heavy, 7⟩]) (hw := ?_);refine QX (k := Qu ?_);refine WD.heavy hX (hw := ?_)
    refine QJ en78 ?_
    refine none_w fun h6 g6 => ?_
    have hn6 := g6.1; (try simp only [UB, UC] at hn6)
    refine WD.heavy hX (hw := Qv ?_);refine WD.heavy hX (hw := Qv ?_);refine WD.nil (hq := ?_)
    refine ⟨(noneN, x5), s5, ?_, hq5⟩
    exact ⟨Wwev, Wwev, Wwev, Wwev, Wwev, Wwev, Wwps, Wwfr, Wwobj, Wwobj, Wwne, Wwne, ⟨_, _, _, Wwobj, NV.none _ _⟩, ⟨_, _, _, Wwobj, (kv5.mono Wwne (fun j hS hj => by (try simp only [UB, UC] at hS); exact ⟨Wwne, Wwag⟩))⟩, ⟨_, _, _, Wwobj, NV.none _ _⟩⟩
   ·rw [if_pos rfl] at hq5
    refine QK (Qa ?_);refine QK (Qq ?_);refine QK (Qq ?_);refine QK (Qv ?_);refine QK (Qb ?_);refine QO hX ?_;refine QK (Qa ?_);refine QK (Qe ?_);refine QP hX ?_;refine UA ?_
    refine ⟨(x5, noneN), s5, ?_, hq5⟩
    exact ⟨Wwev, Wwev, Wwev, Wwev, Wwev, Wwev, Wwps, Wwfr, Wwobj, Wwobj, Wwne, Wwne, ⟨_, _, _, Wwobj, (kv5.mono Wwne (fun j hS hj => by (try simp only [UB, UC] at hS); exact ⟨Wwne, Wwag⟩))⟩, ⟨_, _, _, Wwobj, NV.none _ _⟩, ⟨_, _, _, Wwobj, NV.none _ _⟩⟩
  ·rw [hb4, if_pos rfl, R.then_ok] at hq0
   refine QS hX ?_;refine UA ?_
   refine ⟨(noneN, noneN), s, ?_, hq0⟩
   exact ⟨Wwev, Wwev, Wwev, Wwev, Wwev, Wwev, Wwps, Wwfr, Wwobj, Wwobj, Wwne, Wwne, ⟨_, _, _, Wwobj, NV.none _ _⟩, ⟨_, _, _, Wwobj, NV.none _ _⟩, ⟨_, _, _, Wwobj, NV.none _ _⟩⟩
 generalize h3.next = n5
 rintro e h6 ⟨⟨f, cc⟩, s6, ⟨e0, e3, e4, e5, e6, e7, ps6, fr6, hot, hoz, hn6, hn6b, ⟨bf, nf, ef, hof, kvf⟩, ⟨bc, nc, ec, hoc, kvc⟩, ⟨bl, nl, el, hol, kvl⟩⟩, hq6⟩
 simp only at hof kvf hoc kvc hq6
 have hnn6 := fr6.1
 unfold loopB at hq6
 simp only at hq6
 refine QU hX ?_;refine QN hX ?_;refine QK (Qa ?_);refine QK ?_
 refine QJ en104 ?_
 refine got_w (L := L) (hd := hd) (s := s6) Wwps fun h7 ps7 fr7 => ?_
 have hn7 := fr7.1
 (try simp only [UB, UC] at hn7)
 refine QL ?_
 refine WC.cut (N' := fun e h' => ∃ cl s', LoopI p L hd h tk n5 f cl.1 cl.2 s' e h' ∧ EndN (VN fun j => h.next ≤ j) p L hd h Q (loopC r tk L hd f cl s')) ?_ ?_
 ·unfold gotS at ps7
  cases hb7 : isR L s6 [(⟨#[59]⟩ : ByteArray)]
  ·rw [hb7, if_neg Bool.false_ne_true] at ps7 hq6
   rw [R.then_ok] at hq6
   refine QS hX ?_;refine UA ?_
   refine ⟨(cc, noneN), s6, ?_, hq6⟩
   exact ⟨Wwev, Wwev, Wwev, Wwev, Wwev, Wwev, Wwps, Wwfr, Wwobj, Wwobj, Wwne, Wwne, ⟨_, _, _, Wwobj, (kvf.mono Wwne (fun j hS hj => by (try simp only [UB, UC] at hS); exact ⟨Wwne, Wwag⟩))⟩, ⟨_, _, _, Wwobj, (kvc.mono Wwne (fun j hS hj => by (try simp only [UB, UC] at hS); exact ⟨Wwne, Wwag⟩))⟩, ⟨_, _, _, Wwobj, (kvl.mono Wwne (fun j hS hj => by (try simp only [UB, UC] at hS); exact ⟨Wwne, Wwag⟩))⟩⟩
  ·rw [hb7, if_pos rfl] at ps7 hq6
   simp only [R.then_assoc] at hq6
   refine QR hX ?_;refine QU hX ?_;refine QN hX ?_;refine QK (Qa ?_);refine QK (Qy ?_);refine QK ?_
   refine QJ en71 ?_
   refine is_w (L := L) (hd := hd) (s := s6.next) (ts := [(⟨#[59]⟩ : ByteArray)]) Wwps Wwobj Wwne rfl (by first | decide | simp) fun h8 g8 => ?_
   have hn8 := g8.1; (try simp only [UB, UC] at hn8)
   cases hb8 : isR L s6.next [(⟨#[59]⟩ : ByteArray)]
   ·rw [hb8, if_neg Bool.false_ne_true] at hq6
    refine QK (Qe ?_);refine QQ hX ?_;refine QV hX ?_;refine QK (Qa ?_);refine QK (Qa ?_);refine QK (Qp ?_);refine QK ?_
    refine QJ en87 ?_
    refine within_w (hd := hd) (hd' := true) (spec := r.expr L true s6.next) Wwps en119 (fun {h9 Q9} ps9 fr9 hq9 => c.expr ps9 hq9) (EndN.use Wwfr hq6 (fun _ _ x => x) fun t9 s9 h9 v9 ps9 fr9 hv9 hq9 => ?_)
    obtain ⟨b9, n9, es9, rfl, kv9⟩ := hv9
    have hn9 := fr9.1; (try simp only [UB, UC] at hn9)
    refine QK (Qv ?_);refine QO hX ?_;refine QK (Qa ?_);refine QK ?_
    refine QJ en53 ?_
    refine want_w (hd := hd) Wwps (EndN.use Wwfr hq9 (fun _ _ x => x) fun tk10 s10 h10 v10 ps10 fr10 hv10 hq10 => ?_)
    subst hv10
    have hn10 := fr10.1; (try simp only [UB, UC] at hn10)
    refine QO hX ?_;refine QK (Qa ?_);refine QK (Qy ?_);refine QK ?_
    refine QJ en71 ?_
    refine is_w (L := L) (hd := hd) (s := s10) (ts := [(⟨#[123]⟩ : ByteArray)]) Wwps Wwobj Wwne rfl (by first | decide | simp) fun h11 g11 => ?_
    have hn11 := g11.1; (try simp only [UB, UC] at hn11)
    cases hb11 : isR L s10 [(⟨#[123]⟩ : ByteArray)]
    ·rw [hb11, if_neg Bool.false_ne_true] at hq10
     refine QK (Qe ?_);refine QQ hX ?_;refine QV hX ?_;refine QK (Qa ?_);refine QK (Qa ?_);refine QK (Qp ?_);refine QK ?_
     refine QJ en87 ?_
     refine within_w (hd := hd) (hd' := true) (spec := r.simple L true s10) Wwps en133 (fun {h12 Q12} ps12 fr12 hq12 => c.simple ps12 hq12) (EndN.use Wwfr hq10 (fun _ _ x => x) fun t12 s12 h12 v12 ps12 fr12 hv12 hq12 => ?_)
     obtain ⟨b12, n12, es12, rfl, kv12⟩ := hv12
     have hn12 := fr12.1; (try simp only [UB, UC] at hn12)
     rw [R.then_ok] at hq12
     refine QK (Qv ?_);refine QL ?_
     refine ⟨(t9, t12), s12, ?_, hq12⟩
     exact ⟨Wwev, Wwev, Wwev, Wwev, Wwev, Wwev, Wwps, Wwfr, Wwobj, Wwobj, Wwne, Wwne, ⟨_, _, _, Wwobj, (kvf.mono Wwne (fun j hS hj => by (try simp only [UB, UC] at hS); exact ⟨Wwne, Wwag⟩))⟩, ⟨_, _, _, Wwobj, (kv9.mono Wwne (fun j hS hj => by (try simp only [UB, UC] at hS); exact ⟨Wwne, Wwag⟩))⟩, ⟨_, _, _, Wwobj, (kv12.mono Wwne (fun j hS hj => by (try simp only [UB, UC] at hS); exact ⟨Wwne, Wwag⟩))⟩⟩
    ·rw [hb11, if_pos rfl, R.then_ok, R.then_ok] at hq10
     refine QK (Qe ?_);refine QP hX ?_;refine UA ?_
     refine ⟨(t9, noneN), s10, ?_, hq10⟩
     exact ⟨Wwev, Wwev, Wwev, Wwev, Wwev, Wwev, Wwps, Wwfr, Wwobj, Wwobj, Wwne, Wwne, ⟨_, _, _, Wwobj, (kvf.mono Wwne (fun j hS hj => by (try simp only [UB, UC] at hS); exact ⟨Wwne, Wwag⟩))⟩, ⟨_, _, _, Wwobj, (kv9.mono Wwne (fun j hS hj => by (try simp only [UB, UC] at hS); exact ⟨Wwne, Wwag⟩))⟩, ⟨_, _, _, Wwobj, (kvl.mono Wwne (fun j hS hj => by (try simp only [UB, UC] at hS); exact ⟨Wwne, Wwag⟩))⟩⟩
   ·rw [hb8, if_pos rfl, R.then_ok] at hq6
    refine QK (Qe ?_);refine QP hX ?_;refine UA ?_;refine QN hX ?_;refine QK (Qa ?_);refine QK ?_
    refine QJ en53 ?_
    refine want_w (hd := hd) Wwps (EndN.use Wwfr hq6 (fun _ _ x => x) fun tk10 s10 h10 v10 ps10 fr10 hv10 hq10 => ?_)
    subst hv10
    have hn10 := fr10.1; (try simp only [UB, UC] at hn10)
    refine QO hX ?_;refine QK (Qa ?_);refine QK (Qy ?_);refine QK ?_
    refine QJ en71 ?_
    refine is_w (L := L) (hd := hd) (s := s10) (ts := [(⟨#[123]⟩ : ByteArray)]) Wwps Wwobj Wwne rfl (by first | decide | simp) fun h11 g11 => ?_
    have hn11 := g11.1; (try simp only [UB, UC] at hn11)
    cases hb11 : isR L s10 [(⟨#[123]⟩ : ByteArray)]
    ·rw [hb11, if_neg Bool.false_ne_true] at hq10
     refine QK (Qe ?_);refine QQ hX ?_;refine QV hX ?_;refine QK (Qa ?_);refine QK (Qa ?_);refine QK (Qp ?_);refine QK ?_
     refine QJ en87 ?_
     refine within_w (hd := hd) (hd' := true) (spec := r.simple L true s10) Wwps en133 (fun {h12 Q12} ps12 fr12 hq12 => c.simple ps12 hq12) (EndN.use Wwfr hq10 (fun _ _ x => x) fun t12 s12 h12 v12 ps12 fr12 hv12 hq12 => ?_)
     obtain ⟨b12, n12, es12, rfl, kv12⟩ := hv12
     have hn12 := fr12.1; (try simp only [UB, UC] at hn12)
     rw [R.then_ok] at hq12
     refine QK (Qv ?_);refine QL ?_
     refine ⟨(cc, t12), s12, ?_, hq12⟩
     exact ⟨Wwev, Wwev, Wwev, Wwev, Wwev, Wwev, Wwps, Wwfr, Wwobj, Wwobj, Wwne, Wwne, ⟨_, _, _, Wwobj, (kvf.mono Wwne (fun j hS hj => by (try simp only [UB, UC] at hS); exact ⟨Wwne, Wwag⟩))⟩, ⟨_, _, _, Wwobj, (kvc.mono Wwne (fun j hS hj => by (try simp only [UB, UC] at hS); exact ⟨Wwne, Wwag⟩))⟩, ⟨_, _, _, Wwobj, (kv12.mono Wwne (fun j hS hj => by (try simp only [UB, UC] at hS); exact ⟨Wwne, Wwag⟩))⟩⟩
    ·rw [hb11, if_pos rfl, R.then_ok, R.then_ok] at hq10
     refine QK (Qe ?_);refine QP hX ?_;refine UA ?_
     refine ⟨(cc, noneN), s10, ?_, hq10⟩
     exact ⟨Wwev, Wwev, Wwev, Wwev, Wwev, Wwev, Wwps, Wwfr, Wwobj, Wwobj, Wwne, Wwne, ⟨_, _, _, Wwobj, (kvf.mono Wwne (fun j hS hj => by (try simp only [UB, UC] at hS); exact ⟨Wwne, Wwag⟩))⟩, ⟨_, _, _, Wwobj, (kvc.mono Wwne (fun j hS hj => by (try simp only [UB, UC] at hS); exact ⟨Wwne, Wwag⟩))⟩, ⟨_, _, _, Wwobj, (kvl.mono Wwne (fun j hS hj => by (try simp only [UB, UC] at hS); exact ⟨Wwne, Wwag⟩))⟩⟩
 clear e0 e3 e4 e5 e6 e7
 rintro e h9 ⟨⟨cc, l⟩, s9, ⟨e0, e3, e4, e5, e6, e7, ps9, fr9, hot, hoz, hn9, hn9b, ⟨bf, nf, ef, hof, kvf⟩, ⟨bc, nc, ec, hoc, kvc⟩, ⟨bl, nl, el, hol, kvl⟩⟩, hq9⟩
 simp only at hof kvf hoc kvc hol kvl hq9
 have hnn9 := fr9.1
 unfold loopC at hq9
 refine QU hX ?_;refine WC.drawn (id := 13) hX (l := [⟨0, .read, 0⟩, ⟨1, .read, 0⟩, ⟨2, .read, 0⟩, ⟨3, .read, 0⟩, ⟨4, .pure, 0⟩, ⟨5, .heavy, 16⟩, ⟨6, .alloc, 62⟩, ⟨7, .heavy, 127⟩, ⟨8, .heavy, 255⟩]) (hw := ?_);refine QX (k := Qu ?_);refine QX (k := Qu ?_);refine QX (k := Qu ?_);refine QX (k := Qu ?_);refine QW (k := Qa ?_);refine WD.heavy hX (hw := ?_)
 refine QJ en88 ?_
 refine c.block Wwps (EndN.use Wwfr hq9 (fun _ _ x => x) fun t10 s10 h10 v10 ps10 fr10 hv10 hq10 => ?_)
 obtain ⟨b10, n10, es10, rfl, kv10⟩ := hv10
 have hn10 := fr10.1; (try simp only [UB, UC] at hn10)
 refine WD.alloc (hw := Qz ?_);refine WD.heavy hX (hw := ?_)
 refine QJ en74 ?_
 refine node_w fun h12 g12 => ?_
 have hn12 := g12.1; (try simp only [UB, UC] at hn12)
 refine WD.heavy hX (hw := Qv ?_);refine WD.nil (hq := ?_);refine WC.ret ?_
 refine ⟨_, Wwres, ?_⟩
 refine hq10 _ _ Wwps Wwfr ⟨_, _, _, rfl, NV.of_kids ?_ _ _ _ _ _ _⟩
 apply KV.of4 (S := fun j => h.next ≤ j ∧ j < h10.next)
 (· exact Wwobj); (· rfl); (· exact Wwne); (· exact Wwne); (· exact (kvf.mono Wwne (fun j hS hj => by (try simp only [UB, UC] at hS); exact ⟨⟨Wwne, Wwne⟩, Wwag⟩))); (· exact (kvc.mono Wwne (fun j hS hj => by (try simp only [UB, UC] at hS); exact ⟨⟨Wwne, Wwne⟩, Wwag⟩))); (· exact (kvl.mono Wwne (fun j hS hj => by (try simp only [UB, UC] at hS); exact ⟨⟨Wwne, Wwne⟩, Wwag⟩))); (· exact (kv10.mono Wwne (fun j hS hj => by (try simp only [UB, UC] at hS); exact ⟨⟨Wwne, Wwne⟩, Wwag⟩))); (· exact fun j hS hj => ⟨hS.1, by have := hS.2; exact Wwne⟩)

end Go.Proofs.ZL
end
