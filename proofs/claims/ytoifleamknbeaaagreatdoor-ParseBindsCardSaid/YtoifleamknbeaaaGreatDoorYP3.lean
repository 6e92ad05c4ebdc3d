/- The parser, third part: operands and primaries. -/
import Derived.Test.YtoifleamknbeaaaGreatDoorYP2
section
open Go Go.Am
namespace Go.Proofs.ZL
set_option maxRecDepth 100000
set_option linter.unusedSimpArgs false
set_option linter.unusedVariables false
set_option maxHeartbeats 1000000


theorem worded_w {r : Rec} {n : Nat} (hn : n ≤ 1000000) (c : Ctr r) {p : Nat} {L : List Tok} {hd : Bool} {s : St} {h : Heap} {Q : ARes → Prop} (ps : PSt h p L hd s) (h4 : (tokAt L s.k).kind = 4)
  (hq0 : EndN (VN (fun j => h.next ≤ j)) p L hd h Q (wordedF n r (tokAt L s.k) L hd s)) : WCall Tryz.prog G X 164 [pV p, .agg (tokAt L s.k).cells.toArray] h Q := by
 have hp := ps.lt
 have hm : s.k + 1 < L.length := ps.wf.more ps.at_ (by omega)
 unfold wordedF at hq0
 generalize tokAt L s.k = tk at *
 refine WCall.walk hX Tryz.func164 rfl rfl Tryz.ntmps164 rfl ?_
 refine QN hX ?_;refine QK (Qx ?_);refine QK (Qx ?_);refine QK (Qw ?_);refine QL ?_;refine QU hX ?_;refine QN hX ?_;refine QK (Qj ?_);refine QK (Qt ?_);refine QL ?_;refine WC.block hX ?_;refine QU hX ?_;refine QN hX ?_;refine QK (QB ?_ ?_);intro hh;refine QK (Qb ?_);refine QQ hX ?_;refine UA ?_;refine QR hX ?_;refine QN hX ?_;refine QK (Qt ?_);refine QK ?_;rotate_left;intro hh;refine QK (Qb ?_);refine QP hX ?_;refine QV hX ?_;refine QK (QB ?_ ?_);intro hh;refine QK (Qb ?_);refine QQ hX ?_;refine QN hX ?_;refine QK (Qt ?_);refine QK ?_;rotate_left;intro hh;refine QK (Qb ?_);refine QP hX ?_;refine QN hX ?_;refine QK (QB ?_ ?_);intro hh;refine QK (Qb ?_);refine QQ hX ?_;refine QN hX ?_;refine QK (Qt ?_);refine QK ?_;rotate_left;intro hh;refine QK (Qb ?_);refine QP hX ?_;refine QN hX ?_;refine QK (QB ?_ ?_);intro hh;refine QK (Qb ?_);refine QQ hX ?_;refine QN hX ?_;refine QK (Qt ?_);refine QK ?_;rotate_left;intro hh;refine QK (Qb ?_);refine QP hX ?_;refine QN hX ?_;refine QK (QB ?_ ?_);intro hh;refine QK (Qb ?_);refine QQ hX ?_;refine QN hX ?_;refine QK (Qt ?_);refine QK ?_;rotate_left;intro hh;refine QK (Qb ?_);refine QP hX ?_;refine QN hX ?_;refine QK (QB ?_ ?_);intro hh;refine QK (Qb ?_);refine QQ hX ?_;refine QN hX ?_;refine QK (Qt ?_);refine QK ?_;rotate_left;intro hh;refine QK (Qb ?_);refine QP hX ?_;refine QU hX ?_;refine QN hX ?_;refine QK (QB ?_ ?_);intro hh;refine QK (Qb ?_);refine QQ hX ?_;refine UA ?_;refine QR hX ?_;refine QN hX ?_;refine QK (Qt ?_);refine QK ?_;rotate_left;intro hh;refine QK (Qb ?_);refine QP hX ?_;refine QN hX ?_;refine QK (QB ?_ ?_);intro hh;refine QK (Qb ?_);refine QQ hX ?_;refine UA ?_;refine QR hX ?_;refine QN hX ?_;refine QK (Qt ?_);refine QK ?_;rotate_left;intro hh;refine QK (Qb ?_);refine QP hX ?_;refine QN hX ?_;refine QK (QB ?_ ?_);intro hh;refine QK (Qb ?_);refine QQ hX ?_;refine UA ?_;refine QR hX ?_;refine QN hX ?_;refine QK (Qt ?_);refine QK ?_;rotate_left;intro hh;refine QK (Qb ?_);refine QP hX ?_;refine QN hX ?_;refine QK (QB ?_ ?_);intro hh;refine QK (Qb ?_);refine QQ hX ?_;refine UA ?_;refine QR hX ?_;refine QN hX ?_;refine QK (Qt ?_);refine QK ?_;rotate_left;intro hh;refine QK (Qb ?_);refine QP hX ?_;refine QN hX ?_;refine QK (QB ?_ ?_);intro hh;refine QK (Qb ?_);refine QQ hX ?_;refine UA ?_;refine QR hX ?_;refine QN hX ?_;refine QK (Qt ?_);refine QK ?_;rotate_left;intro hh;refine QK (Qb ?_);refine QP hX ?_;refine QN hX ?_;refine QK (QB ?_ ?_);intro hh;refine QK (Qb ?_);refine QQ hX ?_;refine UA ?_;refine QR hX ?_;refine QN hX ?_;refine QK (Qt ?_);refine QK ?_;rotate_left;intro hh;refine QK (Qb ?_);refine QP hX ?_;refine QV hX ?_;refine QK (QB ?_ ?_);intro hh;refine QK (Qb ?_);refine QQ hX ?_;refine QN hX ?_;refine QK (Qt ?_);refine QK ?_;rotate_left;intro hh;refine QK (Qb ?_);refine QP hX ?_;refine UA ?_;refine QN hX ?_;refine QK (Qt ?_);refine QK ?_;rotate_left
 all_goals (repeat (first | rw [if_pos (by assumption)] at hq0 | rw [if_pos (Or.inl (by assumption))] at hq0 | rw [if_pos (Or.inr (by assumption))] at hq0 | rw [if_neg (by assumption)] at hq0 | rw [if_neg (by (rintro (h | h) <;> contradiction))] at hq0))
 ·refine QJ en72 ?_
  refine take_w (L := L) (hd := hd) (s := s) Wwps (hm) fun h1 ps1 fr1 => ?_
  have hn1 := fr1.1; (try simp only [UB, UC] at hn1)
  refine QO hX ?_;refine QK (Qu ?_);refine QK (Qj ?_);refine QK (Qt ?_);refine QK ?_
  refine QJ en74 ?_
  refine node_w fun h2 g2 => ?_
  have hn2 := g2.1; (try simp only [UB, UC] at hn2)
  refine QK (Qv ?_);refine QM ?_
  refine ⟨_, Wwres, ?_⟩
  exact hq0 _ _ Wwps Wwfr ⟨_, _, _, rfl, NV.of_kids (KV.nil _ _) _ _ _ _ _ _⟩
 ·refine QJ en72 ?_
  refine take_w (L := L) (hd := hd) (s := s) Wwps (hm) fun h1 ps1 fr1 => ?_
  have hn1 := fr1.1; (try simp only [UB, UC] at hn1)
  refine QO hX ?_;refine QK (Qu ?_);refine QK (Qj ?_);refine QK (Qt ?_);refine QK ?_
  refine QJ en74 ?_
  refine node_w fun h2 g2 => ?_
  have hn2 := g2.1; (try simp only [UB, UC] at hn2)
  refine QK (Qv ?_);refine QM ?_
  refine ⟨_, Wwres, ?_⟩
  exact hq0 _ _ Wwps Wwfr ⟨_, _, _, rfl, NV.of_kids (KV.nil _ _) _ _ _ _ _ _⟩
 ·refine QJ en72 ?_
  refine take_w (L := L) (hd := hd) (s := s) Wwps (hm) fun h1 ps1 fr1 => ?_
  have hn1 := fr1.1; (try simp only [UB, UC] at hn1)
  refine QO hX ?_;refine QK (Qu ?_);refine QK ?_
  refine QJ en74 ?_
  refine node_w fun h2 g2 => ?_
  have hn2 := g2.1; (try simp only [UB, UC] at hn2)
  refine QK (Qv ?_);refine QM ?_
  refine ⟨_, Wwres, ?_⟩
  exact hq0 _ _ Wwps Wwfr ⟨_, _, _, rfl, NV.of_kids (KV.nil _ _) _ _ _ _ _ _⟩
 ·refine QJ en72 ?_
  refine take_w (L := L) (hd := hd) (s := s) Wwps (hm) fun h1 ps1 fr1 => ?_
  have hn1 := fr1.1; (try simp only [UB, UC] at hn1)
  refine QL ?_;refine QU hX ?_;refine WC.drawn (id := 11) hX (l := [⟨0, .read, 0⟩, ⟨1, .read, 0⟩, ⟨2, .heavy, 2⟩, ⟨3, .heavy, 7⟩, ⟨4, .heavy, 15⟩]) (hw := ?_);refine QX (k := Qu ?_);refine QX (k := Qt ?_);refine WD.heavy hX (hw := ?_)
  refine QJ en76 ?_
  refine c.function Wwps (EndN.use Wwfr hq0 (fun _ _ x => x) fun t2 s2 h2 v2 ps2 fr2 hv2 hq2 => ?_)
  obtain ⟨b2, n2, es2, rfl, kv2⟩ := hv2
  have hn2 := fr2.1; (try simp only [UB, UC] at hn2)
  refine WD.heavy hX (hw := ?_)
  refine QJ en74 ?_
  refine node_w fun h3 g3 => ?_
  have hn3 := g3.1; (try simp only [UB, UC] at hn3)
  refine WD.heavy hX (hw := Qv ?_);refine WD.nil (hq := ?_);refine WC.ret ?_
  refine ⟨_, Wwres, ?_⟩
  exact hq2 _ _ Wwps Wwfr ⟨_, _, _, rfl, NV.of_kids (kv2.mono Wwne (fun j hS hj => by (try simp only [UB, UC] at hS); exact ⟨Wwne, Wwag⟩)) _ _ _ _ _ _⟩
 ·refine QJ en72 ?_
  refine take_w (L := L) (hd := hd) (s := s) Wwps (hm) fun h1 ps1 fr1 => ?_
  have hn1 := fr1.1; (try simp only [UB, UC] at hn1)
  refine QO hX ?_;refine QK (Qt ?_);refine QK ?_
  refine QJ en53 ?_
  refine want_w (hd := hd) Wwps (EndN.use Wwfr hq0 (fun _ _ x => x) fun tk2 s2 h2 v2 ps2 fr2 hv2 hq2 => ?_)
  subst hv2
  have hn2 := fr2.1; (try simp only [UB, UC] at hn2)
  refine QO hX ?_;refine QK (Qt ?_);refine QK ?_
  refine QJ en75 ?_
  refine c.typ Wwps (EndN.use Wwfr hq2 (fun _ _ x => x) fun t3 s3 h3 v3 ps3 fr3 hv3 hq3 => ?_)
  obtain ⟨b3, n3, es3, rfl, kv3⟩ := hv3
  have hn3 := fr3.1; (try simp only [UB, UC] at hn3)
  refine QK (Qz ?_);refine QK (Qb ?_);refine QL ?_;refine QU hX ?_;refine QN hX ?_;refine QK (Qt ?_);refine QK ?_
  have kvL : KV (h3.alloc (.cells false (ncells t3 b3 n3 es3))) (fun j => h2.next ≤ j) (some ⟨h3.next, 0, none⟩) 1 7 [t3] := (KV.one (S := fun j => h2.next ≤ j ∧ j < h3.next) Wwne Wwne Wwobj (kv3.mono Wwne (fun j hS hj => by (try simp only [UB, UC] at hS); exact ⟨⟨Wwne, hj⟩, Wwag⟩)) (fun j hS hj => ⟨hS.1, by have := hS.2; exact Wwne⟩))
  refine QJ en104 ?_
  refine got_w (L := L) (hd := hd) (s := s3) Wwps fun h4 ps4 fr4 => ?_
  have hn4 := fr4.1
  (try simp only [UB, UC] at hn4)
  unfold gotS at ps4
  cases hb4 : isR L s3 [(⟨#[44]⟩ : ByteArray)]
  ·rw [hb4, if_neg Bool.false_ne_true] at ps4 hq3
   rw [R.then_ok] at hq3
   refine QP hX ?_;refine UA ?_;refine QN hX ?_;refine QK (Qt ?_);refine QK ?_
   refine QJ en53 ?_
   refine want_w (hd := hd) Wwps (EndN.use Wwfr hq3 (fun _ _ x => x) fun tk5 s5 h5 v5 ps5 fr5 hv5 hq5 => ?_)
   subst hv5
   have hn5 := fr5.1; (try simp only [UB, UC] at hn5)
   refine QO hX ?_;refine QK (Qu ?_);refine QK (Qj ?_);refine QK (Qt ?_);refine QK (Qa ?_);refine QK ?_
   refine QJ en74 ?_
   refine node_w fun h6 g6 => ?_
   have hn6 := g6.1; (try simp only [UB, UC] at hn6)
   refine QK (Qv ?_);refine QM ?_
   refine ⟨_, Wwres, ?_⟩
   exact hq5 _ _ Wwps Wwfr ⟨_, _, _, rfl, NV.of_kids (kvL.mono Wwne (fun j hS hj => by (try simp only [UB, UC] at hS hj); exact ⟨Wwne, Wwag⟩)) _ _ _ _ _ _⟩
  ·rw [hb4, if_pos rfl] at ps4 hq3
   rw [R.then_assoc] at hq3
   refine QQ hX ?_;refine QV hX ?_;refine QK (Qa ?_);refine QK (Qt ?_);refine QK (Qt ?_);refine QK (Qp ?_);refine QK ?_
   refine QJ en87 ?_
   refine within_w (hd' := false) (spec := r.expr L false s3.next) Wwps en119 (fun {h5 Q5} ps5 fr5 hq5 => c.expr ps5 hq5) (EndN.use Wwfr hq3 (fun _ _ x => x) fun t5 s5 h5 v5 ps5 fr5 hv5 hq5 => ?_)
   obtain ⟨b5, n5, es5, rfl, kv5⟩ := hv5
   have hn5 := fr5.1
   (try simp only [UB, UC] at hn5)
   (try simp only [R.then_ok] at hq5)
   refine QK (Qz ?_);refine QK ?_
   have kvH := kvL.mono (S' := fun j => h2.next - 1 < j) (h' := h5.alloc (.cells false (ncells t5 b5 n5 es5))) Wwne (fun j hS hj => ⟨Wwne, by (try simp only [Heap.alloc_next] at hj); exact Wwag⟩)
   have hbne := kvH.ne
   obtain ⟨old, hsa, hol, hold⟩ := kvH.sliceAt
   apply WS.append
   (· rfl); (· rfl); (· exact Wwev); (· exact Wwev); (· rfl); (· rfl); (· intro k hk; cases hk); (· exact fits_at rfl); (· decide); (· exact Wwobj); (· exact Wwlen); (· rfl); (· decide); (· rfl); (· exact hsa)
   intro h9 hn9 ho9 hf9
   simp only [Heap.alloc_next] at hn9 ho9 hf9
   have hk9 : ∀ j, j ≤ h2.next - 1 → h9.obj j = (h5.alloc (.cells false (ncells t5 b5 n5 es5))).obj j := fun j hj => hf9 j (by omega) (hbne j hj)
   have hk9b : ∀ j, j < h3.next → h9.obj j = (h5.alloc (.cells false (ncells t5 b5 n5 es5))).obj j := fun j hj => hf9 j (by omega) (by intro off e; cases e; omega)
   have fr9 : Fr1 p h h9 := Fr1.keep (H := h5.alloc (.cells false (ncells t5 b5 n5 es5))) Wwfr Wwne fun j hj => hk9 j (by omega)
   have kv9 : KV h9 (fun j => h2.next ≤ j) (some ⟨h5.next + 1, 0, none⟩) 2 7 ([t3] ++ [t5]) := KV.snoc (h := h5.alloc (.cells false (ncells t5 b5 n5 es5))) (S2 := fun j => h4.next ≤ j ∧ j < h5.next) hol (by simp) hold (kv5.mono Wwne (fun j hS hj => by (try simp only [UB, UC] at hS); exact ⟨⟨Wwne, Wwne⟩, Wwag⟩)) Wwne ho9 hf9 Wwne (fun x hx _ => by omega) (fun x hx hlt => ⟨by have := hx.1; omega, by intro off e; cases e; have := hx.1; omega⟩)
   have ps9 : PSt h9 p L hd s5 := PSt.keep (h := h5.alloc (.cells false (ncells t5 b5 n5 es5))) Wwps Wwne fun j hj => hk9 j (by omega)
   have ho9p : h9.obj h.next = some (.cells false [pV p]) := (hk9b _ (by omega)).trans Wwobj
   have ho9t : h9.obj (h.next + 1) = some (.cells false tk.cells) := (hk9b _ (by omega)).trans Wwobj
   have ho9z : h9.obj (h.next + 2) = some (.cells false [.int .i64 0, .string .empty, .int .i64 0, .int .i64 0, .string .empty, .int .i64 0, .slice none 0 0]) := (hk9b _ (by omega)).trans Wwobj
   refine QK (Qb ?_);refine QO hX ?_;refine QK (Qt ?_);refine QK ?_
   refine QJ en53 ?_
   refine want_w (hd := hd) Wwps (EndN.use Wwfr hq5 (fun _ _ x => x) fun tk10 s10 h10 v10 ps10 fr10 hv10 hq10 => ?_)
   subst hv10
   have hn10 := fr10.1; (try simp only [UB, UC] at hn10)
   refine QO hX ?_;refine QK (Qu ?_);refine QK (Qj ?_);refine QK (Qt ?_);refine QK (Qa ?_);refine QK ?_
   refine QJ en74 ?_
   refine node_w fun h11 g11 => ?_
   have hn11 := g11.1; (try simp only [UB, UC] at hn11)
   refine QK (Qv ?_);refine QM ?_
   refine ⟨_, Wwres, ?_⟩
   exact hq10 _ _ Wwps Wwfr ⟨_, _, _, rfl, NV.of_kids (kv9.mono Wwne (fun j hS hj => by (try simp only [UB, UC] at hS); exact ⟨Wwne, Wwag⟩)) _ _ _ _ _ _⟩
 ·refine QJ en72 ?_
  refine take_w (L := L) (hd := hd) (s := s) Wwps (hm) fun h1 ps1 fr1 => ?_
  have hn1 := fr1.1; (try simp only [UB, UC] at hn1)
  refine QO hX ?_;refine QK (Qt ?_);refine QK ?_
  refine QJ en53 ?_
  refine want_w (hd := hd) Wwps (EndN.use Wwfr hq0 (fun _ _ x => x) fun tk2 s2 h2 v2 ps2 fr2 hv2 hq2 => ?_)
  subst hv2
  have hn2 := fr2.1; (try simp only [UB, UC] at hn2)
  refine QO hX ?_;refine QK (Qt ?_);refine QK ?_
  refine QJ en73 ?_
  refine name_w (hd := hd) Wwps (EndN.use Wwfr hq2 (fun _ _ x => x) fun tk3 s3 h3 v3 ps3 fr3 hv3 hq3 => ?_)
  subst hv3
  have hn3 := fr3.1; (try simp only [UB, UC] at hn3)
  refine QK (Qw ?_);refine QK (Qv ?_);refine QO hX ?_;refine QK (Qt ?_);refine QK ?_
  refine QJ en53 ?_
  refine want_w (hd := hd) Wwps (EndN.use Wwfr hq3 (fun _ _ x => x) fun tk4 s4 h4 v4 ps4 fr4 hv4 hq4 => ?_)
  subst hv4
  have hn4 := fr4.1; (try simp only [UB, UC] at hn4)
  refine QL ?_;refine QU hX ?_;refine WC.drawn (id := 25) hX (l := [⟨0, .read, 0⟩, ⟨1, .pure, 0⟩, ⟨2, .read, 2⟩, ⟨3, .read, 0⟩, ⟨4, .pure, 0⟩, ⟨5, .read, 16⟩, ⟨6, .heavy, 56⟩, ⟨7, .alloc, 120⟩, ⟨8, .heavy, 255⟩, ⟨9, .heavy, 511⟩]) (hw := ?_);refine QX (k := Qu ?_);refine QW (k := Qj ?_);refine QX (k := Qt ?_);refine QX (k := Qu ?_);refine QW (k := Qj ?_);refine QX (k := Qt ?_);refine WD.heavy hX (hw := ?_)
  refine QJ en74 ?_
  refine node_w fun h5 g5 => ?_
  have hn5 := g5.1; (try simp only [UB, UC] at hn5)
  refine WD.alloc (hw := Qz ?_);refine WD.heavy hX (hw := ?_)
  refine QJ en74 ?_
  refine node_w fun h6 g6 => ?_
  have hn6 := g6.1; (try simp only [UB, UC] at hn6)
  refine WD.heavy hX (hw := Qv ?_);refine WD.nil (hq := ?_);refine WC.ret ?_
  refine ⟨_, Wwres, ?_⟩
  exact hq4 _ _ Wwps Wwfr ⟨_, _, _, rfl, NV.of_kids (KV.one (t := nd 12 tk3 tk3.text []) (b := none) (n := 0) (es := 0) (S := fun _ => False) Wwne Wwne Wwobj (.leaf _ _ _ _ _ _) (fun j hS => hS.elim)) _ _ _ _ _ _⟩
 ·rw [if_pos (show inS callTexts tk.text = true by rw [hh]; decide +kernel)] at hq0
  refine QJ en72 ?_
  refine take_w (L := L) (hd := hd) (s := s) Wwps (hm) fun h1 ps1 fr1 => ?_
  have hn1 := fr1.1; (try simp only [UB, UC] at hn1)
  refine QO hX ?_;refine QK (Qt ?_);refine QK ?_
  refine QJ en53 ?_
  refine want_w (hd := hd) Wwps (EndN.use Wwfr hq0 (fun _ _ x => x) fun tk2 s2 h2 v2 ps2 fr2 hv2 hq2 => ?_)
  subst hv2
  have hn2 := fr2.1; (try simp only [UB, UC] at hn2)
  refine QL ?_;refine QU hX ?_;refine WC.drawn (id := 35) hX (l := [⟨0, .read, 0⟩, ⟨1, .pure, 0⟩, ⟨2, .read, 2⟩, ⟨3, .read, 0⟩, ⟨4, .pure, 0⟩, ⟨5, .heavy, 24⟩, ⟨6, .heavy, 63⟩, ⟨7, .heavy, 127⟩]) (hw := ?_);refine QX (k := Qu ?_);refine QW (k := Qj ?_);refine QX (k := Qt ?_);refine QX (k := Qt ?_);refine QW (k := Qp ?_);refine WD.heavy hX (hw := ?_)
  refine QJ en149 ?_
  refine withinK_w (hd' := false) (spec := exprsF n r (⟨#[41]⟩ : ByteArray) L false s2) Wwps en171 (fun {h3 Q3} ps3 fr3 hq3 => ?_) (EndN.use Wwfr hq2 (fun _ _ x => x) fun t4 s4 h4 v4 ps4 fr4 hv4 hq4 => ?_)
  ·exact worded1_w (i := h.next) hn c ps3 (fr3.at Wwne Wwne Wwobj) (by have := fr3.1; exact Wwne) Wwne hq3
  ·obtain ⟨b4, n4, es4, rfl, kv4⟩ := hv4
   have hn4 := fr4.1
   (try simp only [UB, UC] at hn4)
   refine WD.heavy hX (hw := ?_)
   refine QJ en74 ?_
   refine node_w fun h5 g5 => ?_
   have hn5 := g5.1; (try simp only [UB, UC] at hn5)
   refine WD.heavy hX (hw := Qv ?_);refine WD.nil (hq := ?_);refine WC.ret ?_
   refine ⟨_, Wwres, ?_⟩
   exact hq4 _ _ Wwps Wwfr ⟨_, _, _, rfl, NV.of_kids (kv4.mono Wwne (fun j hS hj => by (try simp only [UB, UC] at hS); exact ⟨Wwne, Wwag⟩)) _ _ _ _ _ _⟩
 ·rw [if_pos (show inS callTexts tk.text = true by rw [hh]; decide +kernel)] at hq0
  refine QJ en72 ?_
  refine take_w (L := L) (hd := hd) (s := s) Wwps (hm) fun h1 ps1 fr1 => ?_
  have hn1 := fr1.1; (try simp only [UB, UC] at hn1)
  refine QO hX ?_;refine QK (Qt ?_);refine QK ?_
  refine QJ en53 ?_
  refine want_w (hd := hd) Wwps (EndN.use Wwfr hq0 (fun _ _ x => x) fun tk2 s2 h2 v2 ps2 fr2 hv2 hq2 => ?_)
  subst hv2
  have hn2 := fr2.1; (try simp only [UB, UC] at hn2)
  refine QL ?_;refine QU hX ?_;refine WC.drawn (id := 35) hX (l := [⟨0, .read, 0⟩, ⟨1, .pure, 0⟩, ⟨2, .read, 2⟩, ⟨3, .read, 0⟩, ⟨4, .pure, 0⟩, ⟨5, .heavy, 24⟩, ⟨6, .heavy, 63⟩, ⟨7, .heavy, 127⟩]) (hw := ?_);refine QX (k := Qu ?_);refine QW (k := Qj ?_);refine QX (k := Qt ?_);refine QX (k := Qt ?_);refine QW (k := Qp ?_);refine WD.heavy hX (hw := ?_)
  refine QJ en149 ?_
  refine withinK_w (hd' := false) (spec := exprsF n r (⟨#[41]⟩ : ByteArray) L false s2) Wwps en171 (fun {h3 Q3} ps3 fr3 hq3 => ?_) (EndN.use Wwfr hq2 (fun _ _ x => x) fun t4 s4 h4 v4 ps4 fr4 hv4 hq4 => ?_)
  ·exact worded1_w (i := h.next) hn c ps3 (fr3.at Wwne Wwne Wwobj) (by have := fr3.1; exact Wwne) Wwne hq3
  ·obtain ⟨b4, n4, es4, rfl, kv4⟩ := hv4
   have hn4 := fr4.1
   (try simp only [UB, UC] at hn4)
   refine WD.heavy hX (hw := ?_)
   refine QJ en74 ?_
   refine node_w fun h5 g5 => ?_
   have hn5 := g5.1; (try simp only [UB, UC] at hn5)
   refine WD.heavy hX (hw := Qv ?_);refine WD.nil (hq := ?_);refine WC.ret ?_
   refine ⟨_, Wwres, ?_⟩
   exact hq4 _ _ Wwps Wwfr ⟨_, _, _, rfl, NV.of_kids (kv4.mono Wwne (fun j hS hj => by (try simp only [UB, UC] at hS); exact ⟨Wwne, Wwag⟩)) _ _ _ _ _ _⟩
 ·rw [if_pos (show inS callTexts tk.text = true by rw [hh]; decide +kernel)] at hq0
  refine QJ en72 ?_
  refine take_w (L := L) (hd := hd) (s := s) Wwps (hm) fun h1 ps1 fr1 => ?_
  have hn1 := fr1.1; (try simp only [UB, UC] at hn1)
  refine QO hX ?_;refine QK (Qt ?_);refine QK ?_
  refine QJ en53 ?_
  refine want_w (hd := hd) Wwps (EndN.use Wwfr hq0 (fun _ _ x => x) fun tk2 s2 h2 v2 ps2 fr2 hv2 hq2 => ?_)
  subst hv2
  have hn2 := fr2.1; (try simp only [UB, UC] at hn2)
  refine QL ?_;refine QU hX ?_;refine WC.drawn (id := 35) hX (l := [⟨0, .read, 0⟩, ⟨1, .pure, 0⟩, ⟨2, .read, 2⟩, ⟨3, .read, 0⟩, ⟨4, .pure, 0⟩, ⟨5, .heavy, 24⟩, ⟨6, .heavy, 63⟩, ⟨7, .heavy, 127⟩]) (hw := ?_);refine QX (k := Qu ?_);refine QW (k := Qj ?_);refine QX (k := Qt ?_);refine QX (k := Qt ?_);refine QW (k := Qp ?_);refine WD.heavy hX (hw := ?_)
  refine QJ en149 ?_
  refine withinK_w (hd' := false) (spec := exprsF n r (⟨#[41]⟩ : ByteArray) L false s2) Wwps en171 (fun {h3 Q3} ps3 fr3 hq3 => ?_) (EndN.use Wwfr hq2 (fun _ _ x => x) fun t4 s4 h4 v4 ps4 fr4 hv4 hq4 => ?_)
  ·exact worded1_w (i := h.next) hn c ps3 (fr3.at Wwne Wwne Wwobj) (by have := fr3.1; exact Wwne) Wwne hq3
  ·obtain ⟨b4, n4, es4, rfl, kv4⟩ := hv4
   have hn4 := fr4.1
   (try simp only [UB, UC] at hn4)
   refine WD.heavy hX (hw := ?_)
   refine QJ en74 ?_
   refine node_w fun h5 g5 => ?_
   have hn5 := g5.1; (try simp only [UB, UC] at hn5)
   refine WD.heavy hX (hw := Qv ?_);refine WD.nil (hq := ?_);refine WC.ret ?_
   refine ⟨_, Wwres, ?_⟩
   exact hq4 _ _ Wwps Wwfr ⟨_, _, _, rfl, NV.of_kids (kv4.mono Wwne (fun j hS hj => by (try simp only [UB, UC] at hS); exact ⟨Wwne, Wwag⟩)) _ _ _ _ _ _⟩
 ·rw [if_pos (show inS callTexts tk.text = true by rw [hh]; decide +kernel)] at hq0
  refine QJ en72 ?_
  refine take_w (L := L) (hd := hd) (s := s) Wwps (hm) fun h1 ps1 fr1 => ?_
  have hn1 := fr1.1; (try simp only [UB, UC] at hn1)
  refine QO hX ?_;refine QK (Qt ?_);refine QK ?_
  refine QJ en53 ?_
  refine want_w (hd := hd) Wwps (EndN.use Wwfr hq0 (fun _ _ x => x) fun tk2 s2 h2 v2 ps2 fr2 hv2 hq2 => ?_)
  subst hv2
  have hn2 := fr2.1; (try simp only [UB, UC] at hn2)
  refine QL ?_;refine QU hX ?_;refine WC.drawn (id := 35) hX (l := [⟨0, .read, 0⟩, ⟨1, .pure, 0⟩, ⟨2, .read, 2⟩, ⟨3, .read, 0⟩, ⟨4, .pure, 0⟩, ⟨5, .heavy, 24⟩, ⟨6, .heavy, 63⟩, ⟨7, .heavy, 127⟩]) (hw := ?_);refine QX (k := Qu ?_);refine QW (k := Qj ?_);refine QX (k := Qt ?_);refine QX (k := Qt ?_);refine QW (k := Qp ?_);refine WD.heavy hX (hw := ?_)
  refine QJ en149 ?_
  refine withinK_w (hd' := false) (spec := exprsF n r (⟨#[41]⟩ : ByteArray) L false s2) Wwps en171 (fun {h3 Q3} ps3 fr3 hq3 => ?_) (EndN.use Wwfr hq2 (fun _ _ x => x) fun t4 s4 h4 v4 ps4 fr4 hv4 hq4 => ?_)
  ·exact worded1_w (i := h.next) hn c ps3 (fr3.at Wwne Wwne Wwobj) (by have := fr3.1; exact Wwne) Wwne hq3
  ·obtain ⟨b4, n4, es4, rfl, kv4⟩ := hv4
   have hn4 := fr4.1
   (try simp only [UB, UC] at hn4)
   refine WD.heavy hX (hw := ?_)
   refine QJ en74 ?_
   refine node_w fun h5 g5 => ?_
   have hn5 := g5.1; (try simp only [UB, UC] at hn5)
   refine WD.heavy hX (hw := Qv ?_);refine WD.nil (hq := ?_);refine WC.ret ?_
   refine ⟨_, Wwres, ?_⟩
   exact hq4 _ _ Wwps Wwfr ⟨_, _, _, rfl, NV.of_kids (kv4.mono Wwne (fun j hS hj => by (try simp only [UB, UC] at hS); exact ⟨Wwne, Wwag⟩)) _ _ _ _ _ _⟩
 ·rw [if_pos (show inS callTexts tk.text = true by rw [hh]; decide +kernel)] at hq0
  refine QJ en72 ?_
  refine take_w (L := L) (hd := hd) (s := s) Wwps (hm) fun h1 ps1 fr1 => ?_
  have hn1 := fr1.1; (try simp only [UB, UC] at hn1)
  refine QO hX ?_;refine QK (Qt ?_);refine QK ?_
  refine QJ en53 ?_
  refine want_w (hd := hd) Wwps (EndN.use Wwfr hq0 (fun _ _ x => x) fun tk2 s2 h2 v2 ps2 fr2 hv2 hq2 => ?_)
  subst hv2
  have hn2 := fr2.1; (try simp only [UB, UC] at hn2)
  refine QL ?_;refine QU hX ?_;refine WC.drawn (id := 35) hX (l := [⟨0, .read, 0⟩, ⟨1, .pure, 0⟩, ⟨2, .read, 2⟩, ⟨3, .read, 0⟩, ⟨4, .pure, 0⟩, ⟨5, .heavy, 24⟩, ⟨6, .heavy, 63⟩, ⟨7, .heavy, 127⟩]) (hw := ?_);refine QX (k := Qu ?_);refine QW (k := Qj ?_);refine QX (k := Qt ?_);refine QX (k := Qt ?_);refine QW (k := Qp ?_);refine WD.heavy hX (hw := ?_)
  refine QJ en149 ?_
  refine withinK_w (hd' := false) (spec := exprsF n r (⟨#[41]⟩ : ByteArray) L false s2) Wwps en171 (fun {h3 Q3} ps3 fr3 hq3 => ?_) (EndN.use Wwfr hq2 (fun _ _ x => x) fun t4 s4 h4 v4 ps4 fr4 hv4 hq4 => ?_)
  ·exact worded1_w (i := h.next) hn c ps3 (fr3.at Wwne Wwne Wwobj) (by have := fr3.1; exact Wwne) Wwne hq3
  ·obtain ⟨b4, n4, es4, rfl, kv4⟩ := hv4
   have hn4 := fr4.1
   (try simp only [UB, UC] at hn4)
   refine WD.heavy hX (hw := ?_)
   refine QJ en74 ?_
   refine node_w fun h5 g5 => ?_
   have hn5 := g5.1; (try simp only [UB, UC] at hn5)
   refine WD.heavy hX (hw := Qv ?_);refine WD.nil (hq := ?_);refine WC.ret ?_
   refine ⟨_, Wwres, ?_⟩
   exact hq4 _ _ Wwps Wwfr ⟨_, _, _, rfl, NV.of_kids (kv4.mono Wwne (fun j hS hj => by (try simp only [UB, UC] at hS); exact ⟨Wwne, Wwag⟩)) _ _ _ _ _ _⟩
 ·rw [if_pos (show inS callTexts tk.text = true by rw [hh]; decide +kernel)] at hq0
  refine QJ en72 ?_
  refine take_w (L := L) (hd := hd) (s := s) Wwps (hm) fun h1 ps1 fr1 => ?_
  have hn1 := fr1.1; (try simp only [UB, UC] at hn1)
  refine QO hX ?_;refine QK (Qt ?_);refine QK ?_
  refine QJ en53 ?_
  refine want_w (hd := hd) Wwps (EndN.use Wwfr hq0 (fun _ _ x => x) fun tk2 s2 h2 v2 ps2 fr2 hv2 hq2 => ?_)
  subst hv2
  have hn2 := fr2.1; (try simp only [UB, UC] at hn2)
  refine QL ?_;refine QU hX ?_;refine WC.drawn (id := 35) hX (l := [⟨0, .read, 0⟩, ⟨1, .pure, 0⟩, ⟨2, .read, 2⟩, ⟨3, .read, 0⟩, ⟨4, .pure, 0⟩, ⟨5, .heavy, 24⟩, ⟨6, .heavy, 63⟩, ⟨7, .heavy, 127⟩]) (hw := ?_);refine QX (k := Qu ?_);refine QW (k := Qj ?_);refine QX (k := Qt ?_);refine QX (k := Qt ?_);refine QW (k := Qp ?_);refine WD.heavy hX (hw := ?_)
  refine QJ en149 ?_
  refine withinK_w (hd' := false) (spec := exprsF n r (⟨#[41]⟩ : ByteArray) L false s2) Wwps en171 (fun {h3 Q3} ps3 fr3 hq3 => ?_) (EndN.use Wwfr hq2 (fun _ _ x => x) fun t4 s4 h4 v4 ps4 fr4 hv4 hq4 => ?_)
  ·exact worded1_w (i := h.next) hn c ps3 (fr3.at Wwne Wwne Wwobj) (by have := fr3.1; exact Wwne) Wwne hq3
  ·obtain ⟨b4, n4, es4, rfl, kv4⟩ := hv4
   have hn4 := fr4.1
   (try simp only [UB, UC] at hn4)
   refine WD.heavy hX (hw := ?_)
   refine QJ en74 ?_
   refine node_w fun h5 g5 => ?_
   have hn5 := g5.1; (try simp only [UB, UC] at hn5)
   refine WD.heavy hX (hw := Qv ?_);refine WD.nil (hq := ?_);refine WC.ret ?_
   refine ⟨_, Wwres, ?_⟩
   exact hq4 _ _ Wwps Wwfr ⟨_, _, _, rfl, NV.of_kids (kv4.mono Wwne (fun j hS hj => by (try simp only [UB, UC] at hS); exact ⟨Wwne, Wwag⟩)) _ _ _ _ _ _⟩
 ·rw [if_pos (show inS callTexts tk.text = true by rw [hh]; decide +kernel)] at hq0
  refine QJ en72 ?_
  refine take_w (L := L) (hd := hd) (s := s) Wwps (hm) fun h1 ps1 fr1 => ?_
  have hn1 := fr1.1; (try simp only [UB, UC] at hn1)
  refine QO hX ?_;refine QK (Qt ?_);refine QK ?_
  refine QJ en53 ?_
  refine want_w (hd := hd) Wwps (EndN.use Wwfr hq0 (fun _ _ x => x) fun tk2 s2 h2 v2 ps2 fr2 hv2 hq2 => ?_)
  subst hv2
  have hn2 := fr2.1; (try simp only [UB, UC] at hn2)
  refine QL ?_;refine QU hX ?_;refine WC.drawn (id := 35) hX (l := [⟨0, .read, 0⟩, ⟨1, .pure, 0⟩, ⟨2, .read, 2⟩, ⟨3, .read, 0⟩, ⟨4, .pure, 0⟩, ⟨5, .heavy, 24⟩, ⟨6, .heavy, 63⟩, ⟨7, .heavy, 127⟩]) (hw := ?_);refine QX (k := Qu ?_);refine QW (k := Qj ?_);refine QX (k := Qt ?_);refine QX (k := Qt ?_);refine QW (k := Qp ?_);refine WD.heavy hX (hw := ?_)
  refine QJ en149 ?_
  refine withinK_w (hd' := false) (spec := exprsF n r (⟨#[41]⟩ : ByteArray) L false s2) Wwps en171 (fun {h3 Q3} ps3 fr3 hq3 => ?_) (EndN.use Wwfr hq2 (fun _ _ x => x) fun t4 s4 h4 v4 ps4 fr4 hv4 hq4 => ?_)
  ·exact worded1_w (i := h.next) hn c ps3 (fr3.at Wwne Wwne Wwobj) (by have := fr3.1; exact Wwne) Wwne hq3
  ·obtain ⟨b4, n4, es4, rfl, kv4⟩ := hv4
   have hn4 := fr4.1
   (try simp only [UB, UC] at hn4)
   refine WD.heavy hX (hw := ?_)
   refine QJ en74 ?_
   refine node_w fun h5 g5 => ?_
   have hn5 := g5.1; (try simp only [UB, UC] at hn5)
   refine WD.heavy hX (hw := Qv ?_);refine WD.nil (hq := ?_);refine WC.ret ?_
   refine ⟨_, Wwres, ?_⟩
   exact hq4 _ _ Wwps Wwfr ⟨_, _, _, rfl, NV.of_kids (kv4.mono Wwne (fun j hS hj => by (try simp only [UB, UC] at hS); exact ⟨Wwne, Wwag⟩)) _ _ _ _ _ _⟩
 ·rw [if_neg (by simp [inS, callTexts, *])] at hq0
  refine QJ en77 ?_
  exact failN_w (hd := hd) Wwps Wwfr hq0 (fun _ _ x => x)

end Go.Proofs.ZL
end

section
open Go Go.Am
namespace Go.Proofs.ZL
set_option maxRecDepth 100000
set_option linter.unusedSimpArgs false
set_option linter.unusedVariables false

theorem NV.all {h : Heap} {S : Nat → Prop} {vs : List Value} {t : Nd} (hv : NV h S vs t) : vs.all (·.oneCell') = true := by cases hv <;> rfl

theorem all_of_chunks (cells : List Value) (hl : cells.length % 7 = 0) (h : ∀ j, j * 7 < cells.length → ((cells.drop (j * 7)).take 7).all (·.oneCell') = true) : cells.all (·.oneCell') = true := by
 rw [List.all_eq_true]
 intro v hv
 obtain ⟨i, hi⟩ := List.getElem?_of_mem hv
 have hlt : i < cells.length := (List.getElem?_eq_some_iff.1 hi).1
 have hj := h (i / 7) (by omega)
 rw [List.all_eq_true] at hj
 refine hj v (List.mem_of_getElem? (i := i % 7) ?_)
 rw [List.getElem?_take, if_pos (by omega), List.getElem?_drop, show i / 7 * 7 + i % 7 = i by omega]
 exact hi

theorem WS.appendKV {n : Nat} {F : List PanicEntry → Heap → Prop} {env : Env} {h : Heap} {lt : Bool} {ops : Array Oper} {d : Nat} {t : TypeId} {p : String} {a : Array Edge} {g : Option (Nat × Bool)} {K : Env → Heap → (Heap → Prop) → Prop}
  {ty ty' e : TypeId} {u : TypeDesc} {x y : Operand} {b1 b2 : Option Addr} {n1 es1 n2 es2 bytes : Nat} {S1 S2 : Nat → Prop} {k1 k2 : List Nd}
  (hg : gOk ops env g = some true) (hn : Nat.blt d n = true) (hx : evalA G env x = some (.slice b1 n1 es1)) (hy : evalA G env y = some (.slice b2 n2 es2))
  (hu : Tryz.prog.underlying ty = some (.slice e)) (hu' : Tryz.prog.underlying ty' = some u) (hi : ∀ k, u ≠ .int k) (he : elemFits Tryz.prog e = some (7, bytes)) (hr : (n1 + n2) * bytes ≤ room)
  (kv1 : KV h S1 b1 n1 es1 k1) (kv2 : KV h S2 b2 n2 es2 k2) (hd : ∀ x, S2 x → x < h.next → ∀ off, b1 ≠ some ⟨x, off, none⟩)
  (hk : ∀ h' b es, h.next ≤ h'.next → KV h' (fun x => S1 x ∨ S2 x ∨ x = h.next) b (n1 + n2) es (k1 ++ k2) → (∀ i, i < h.next → (∀ off, b1 ≠ some ⟨i, off, none⟩) → h'.obj i = h.obj i) → K (upd env d (.slice b (n1 + n2) es)) h' fun _ => False) :
  WS Tryz.prog G X n lt ops ⟨some d, .call ⟨.builtin .append, #[x, y], #[ty, ty']⟩, t, p, a, g⟩ env h K F := by
 have hnil : ∀ {m : Nat} {es : Nat} {b : Option Addr}, (m = 0) → evalA G env y = some (.slice b m es) → k2 = [] → appendedV 7 h (.slice b m es) = some (0, []) → WS Tryz.prog G X n lt ops ⟨some d, .call ⟨.builtin .append, #[x, y], #[ty, ty']⟩, t, p, a, g⟩ env h K F := by
  intro m es b hm hy' hk2 hap
  have e2 : n2 = 0 := by rw [hy] at hy'; cases hy'; exact hm
  refine WS.heapV hg hn (v := .slice b1 n1 es1) (h' := h) ?_ ?_
  ·simp only [opA, callA, evalAll, hx, hy', appendA, List.getElem?_toArray, List.getElem?_cons_zero, List.getElem?_cons_succ, hu, hu', he, hap]
   rcases kv1 with ⟨rfl, rfl, rfl, rfl⟩ | ⟨i, cells, rfl, _, _, rfl, _⟩
   ·cases u <;> first | exact (hi _ rfl).elim | rfl
   ·cases u <;> first | exact (hi _ rfl).elim | simp
  ·have hx := hk h b1 es1 (Nat.le_refl _) (by rw [e2, hk2, List.append_nil, Nat.add_zero]; exact kv1.mono (Nat.le_refl _) fun j hj _ => ⟨.inl hj, rfl⟩) fun _ _ _ => rfl
   rw [e2, Nat.add_zero] at hx; exact hx
 rcases kv2 with ⟨rfl, rfl, rfl, rfl⟩ | ⟨j, cells, rfl, h1, h2, rfl, hlen, h3, h4, h5⟩
 ·exact hnil rfl hy rfl rfl
 ·rcases Nat.eq_zero_or_pos n2 with h0 | hpos
  ·exact hnil h0 hy (by cases k2 with | nil => rfl | cons a l => simp at hlen; omega) (by rw [h0]; rfl)
  ·have hall : cells.all (·.oneCell') = true := all_of_chunks cells (by omega) fun j hj => by
    have hj' : j < k2.length := by omega
    exact (h5 j _ (List.getElem?_eq_getElem hj')).all
   have kv1' := kv1
   obtain ⟨old, hsa, hol, hold⟩ := kv1.sliceAt
   have htk : (cells.drop 0).take (n2 * 7) = cells := by rw [List.drop_zero, List.take_of_length_le (by omega)]
   have hn1 := kv1'.len
   obtain ⟨h', e1, e2, e3, e4⟩ := appendA_of (P := Tryz.prog) (ty := ty) (ty' := ty') (j := j) (off := 0) hu hu' hi he hpos h3 (by omega) htk hr hall hsa
   refine WS.heapV hg hn (v := .slice (some ⟨h.next, 0, none⟩) (n1 + n2) 7) (h' := h') ?_ (hk h' _ 7 (by omega) ?_ e4)
   ·simp only [opA, callA, evalAll, hx, hy, e1, Option.map_some]
   ·refine .inr ⟨h.next, old ++ cells, rfl, .inr (.inr rfl), by omega, rfl, by rw [List.length_append]; omega, e3, by rw [List.length_append, List.length_append]; omega, fun m t hm => ?_⟩
    rcases Nat.lt_or_ge m k1.length with h' | h'
    ·rw [List.getElem?_append_left h'] at hm
     rw [List.drop_append_of_le_length (by omega), List.take_append_of_le_length (by rw [List.length_drop]; omega)]
     exact (hold m t hm).mono (by omega) fun x hx hlt => ⟨⟨.inl hx.1, by omega⟩, e4 x hlt hx.2⟩
    ·rw [List.getElem?_append_right h'] at hm
     rw [List.drop_append, List.drop_eq_nil_of_le (by omega), List.nil_append, show m * 7 - old.length = (m - k1.length) * 7 by omega]
     exact (h5 _ t hm).mono (by omega) fun x hx hlt => ⟨⟨.inr (.inl hx.1), by omega⟩, e4 x hlt (hd x hx.1 hlt)⟩


theorem WC.cut {P : Program} {G : Nat} {X : ExtFn} {n : Nat} {c : Code} {env : Env} {h : Heap} {N N' : Env → Heap → Prop} {E : Nat → Env → Heap → Prop} {R : Env → Heap → Prop} {F : List PanicEntry → Heap → Prop} (hw : WC P G X n c env h N' E R F) (hn : ∀ e h, N' e h → N e h) : WC P G X n c env h N E R F := by
 unfold WC at hw ⊢
 refine WCode.mono hw fun x e h hx => ?_
 cases x with
 | normal => exact hn _ _ hx
 | exit i => exact hx
 | ret => exact hx
 | panic ch => exact hx

theorem EndN.useE {α β : Type} {V : Heap → α → Value → Prop} {W : Heap → β → Value → Prop} {p : Nat} {L : List Tok} {hd hd' : Bool} {h h1 : Heap} {Q Q' : ARes → Prop} {r : R α} {g : α → St → R β} (fr : Fr1 p h h1) (hq : EndN W p L hd h Q (r.then g))
  (hbad : ∀ ch h', Q (.panic ch h') → Q' (.panic ch h')) (hok : ∀ a s' h2 v, r = .ok a s' → PSt h2 p L hd' s' → Fr1 p h1 h2 → V h2 a v → EndN W p L hd h Q (g a s') → Q' (.ret v h2)) : EndN V p L hd' h1 Q' r := by
 cases r with
 | ok a s => exact fun h2 v ps fr2 hv => hok a s h2 v rfl ps fr2 hv hq
 | bad pos => exact fun h2 w fr2 => hbad _ _ (hq h2 w (fr.trans fr2))
 | out => exact hq

theorem untilR_len {α : Type} {L : List Tok} {ts : List ByteArray} {f : List α → St → R (List α)} (hf : ∀ a s a' s', f a s = .ok a' s' → a'.length ≤ a.length + 1) : ∀ (n : Nat) (a : List α) (s : St) (a' : List α) (s' : St), untilR L ts f n a s = .ok a' s' → a'.length ≤ a.length + n
 | 0, _, _, _, _, h => by cases h
 | n + 1, a, s, a', s', h => by
  unfold untilR at h
  split at h
  ·cases h; omega
  ·cases hr : f a s with
   | ok b t =>
    rw [hr, R.then_ok] at h
    have := untilR_len hf n b t a' s' h
    have := hf a s b t hr
    omega
   | bad p => rw [hr] at h; cases h
   | out => rw [hr] at h; cases h

theorem R.then_eq_ok {α β : Type} {r : R α} {f : α → St → R β} {b : β} {s' : St} (h : r.then f = .ok b s') : ∃ a s, r = .ok a s ∧ f a s = .ok b s' := by
 cases r with
 | ok a s => exact ⟨a, s, rfl, h⟩
 | bad p => cases h
 | out => cases h

theorem exprsF_len {n : Nat} {r : Rec} {e : ByteArray} {L : List Tok} {hd : Bool} {s s' : St} {l : List Nd} (h : exprsF n r e L hd s = .ok l s') : l.length ≤ n := by
 unfold exprsF at h
 obtain ⟨a, s1, h1, h2⟩ := R.then_eq_ok h
 cases h2
 have := untilR_len (fun a s a' s' hf => by
  obtain ⟨_, s2, _, h4⟩ := R.then_eq_ok hf
  obtain ⟨x, s3, _, h6⟩ := R.then_eq_ok h4
  cases h6
  simp) _ _ _ _ _ h1
 simpa using this
theorem clausesF_len {n : Nat} {one : PF Nd} {L : List Tok} {hd : Bool} {s s' : St} {l : List Nd} (h : clausesF n one L hd s = .ok l s') : l.length ≤ n := by
 unfold clausesF at h
 obtain ⟨_, s0, _, h⟩ := R.then_eq_ok h
 obtain ⟨a, s1, h1, h2⟩ := R.then_eq_ok h
 cases h2
 have := untilR_len (fun a s a' s' hf => by
  obtain ⟨x, s3, _, h6⟩ := R.then_eq_ok hf
  cases h6
  simp) _ _ _ _ _ h1
 simpa using this

end Go.Proofs.ZL
end

section
open Go Go.Am
namespace Go.Proofs.ZL
set_option maxRecDepth 100000
set_option linter.unusedSimpArgs false
set_option linter.unusedVariables false
set_option maxHeartbeats 1000000


theorem marked_w {r : Rec} {n : Nat} (hn : n ≤ 1000000) (c : Ctr r) {p : Nat} {L : List Tok} {hd : Bool} {s : St} {h : Heap} {Q : ARes → Prop} (ps : PSt h p L hd s) (h5 : (tokAt L s.k).kind = 5)
  (hq0 : EndN (VN (fun j => h.next ≤ j)) p L hd h Q (markedF n r (tokAt L s.k) L hd s)) : WCall Tryz.prog G X 163 [pV p, .agg (tokAt L s.k).cells.toArray] h Q := by
 have hp := ps.lt
 have hm : s.k + 1 < L.length := ps.wf.more ps.at_ (by omega)
 obtain ⟨jl, hjl, hop, hol⟩ := ps.tok
 unfold markedF at hq0
 generalize tokAt L s.k = tk at *
 refine WCall.walk hX Tryz.func163 rfl rfl Tryz.ntmps163 rfl ?_
 refine QN hX ?_;refine QK (Qx ?_);refine QK (Qw ?_);refine QL ?_;refine QU hX ?_;refine WC.block hX ?_;refine QN hX ?_;refine QK (Qj ?_);refine QK (Qt ?_);refine QK (QB ?_ ?_);intro hh;refine QK (Qb ?_);refine QQ hX ?_;refine QN hX ?_;refine QK (Qa ?_);refine QK ?_;rotate_left;intro hh;refine QK (Qb ?_);refine QP hX ?_;refine QN hX ?_;refine QK (Qa ?_);refine QK (Qi ?_);refine QK (Qj ?_);refine QK (Qt ?_);refine QK (Qb ?_);refine QL ?_;refine WC.condB hX (h1 := ?_) (h2 := ?_);intro hh;refine UA ?_;refine QN hX ?_;refine QK (Qa ?_);refine QK ?_;rotate_left;intro hh;refine QN hX ?_;refine QK (Qj ?_);refine QK (Qt ?_);refine QK (QB ?_ ?_);intro hh;refine QK (Qb ?_);refine QQ hX ?_;refine QN hX ?_;refine QK (Qa ?_);refine QK ?_;rotate_left;intro hh;refine QK (Qb ?_);refine QP hX ?_;refine QN hX ?_;refine QK (Qj ?_);refine QK (Qt ?_);refine QK (QB ?_ ?_);intro hh;refine QK (Qb ?_);refine QQ hX ?_;refine QN hX ?_;refine QK (Qa ?_);refine QK ?_;rotate_left;intro hh;refine QK (Qb ?_);refine QP hX ?_;refine UA ?_;refine QN hX ?_;refine QK (Qa ?_);refine QK ?_;rotate_left
 ·rw [if_pos (by assumption)] at hq0
  refine QJ en72 ?_
  refine take_w (L := L) (hd := hd) (s := s) Wwps (hm) fun h1 ps1 fr1 => ?_
  have hn1 := fr1.1; (try simp only [UB, UC] at hn1)
  refine QO hX ?_;refine QK (Qa ?_);refine QK (Qa ?_);refine QK (Qp ?_);refine QK ?_
  refine QJ en87 ?_
  refine within_w (hd := hd) (hd' := false) (spec := r.expr L false s.next) Wwps en119 (fun {h2 Q2} ps2 fr2 hq2 => c.expr ps2 hq2) (EndN.use Wwfr hq0 (fun _ _ x => x) fun t2 s2 h2 v2 ps2 fr2 hv2 hq2 => ?_)
  obtain ⟨b2, n2, es2, rfl, kv2⟩ := hv2
  have hn2 := fr2.1; (try simp only [UB, UC] at hn2)
  refine QK (Qw ?_);refine QK (Qv ?_);refine QO hX ?_;refine QK (Qa ?_);refine QK ?_
  refine QJ en53 ?_
  refine want_w (hd := hd) Wwps (EndN.use Wwfr hq2 (fun _ _ x => x) fun tk3 s3 h3 v3 ps3 fr3 hv3 hq3 => ?_)
  subst hv3
  have hn3 := fr3.1; (try simp only [UB, UC] at hn3)
  refine QO hX ?_;refine QK (Qu ?_);refine QK (Qv ?_);refine QM ?_
  refine ⟨_, Wwres, ?_⟩
  exact hq3 _ _ Wwps Wwfr ⟨_, _, _, rfl, (kv2.mono Wwne (fun j hS hj => by (try simp only [UB, UC] at hS); exact ⟨Wwne, Wwag⟩))⟩
 ·rw [if_neg (by assumption), if_pos (by assumption)] at hq0
  refine QJ en77 ?_
  exact failN_w (hd := hd) Wwps Wwfr hq0 (fun _ _ x => x)
 ·rw [if_neg (by assumption), if_neg (by simp [*]), if_pos (by assumption)] at hq0
  refine QJ en72 ?_
  refine take_w (L := L) (hd := hd) (s := s) Wwps (hm) fun h1 ps1 fr1 => ?_
  have hn1 := fr1.1; (try simp only [UB, UC] at hn1)
  refine QL ?_;refine QU hX ?_;refine WC.drawn (id := 9) hX (l := [⟨0, .read, 0⟩, ⟨1, .pure, 0⟩, ⟨5, .alloc, 0⟩, ⟨2, .heavy, 2⟩, ⟨3, .pure, 6⟩, ⟨4, .heavy, 15⟩, ⟨6, .heavy, 63⟩]) (hw := ?_);refine QX (k := Qu ?_);refine QW (k := Qa ?_);refine WD.alloc (hw := Qw ?_);refine WD.heavy hX (hw := ?_)
  refine QJ en73 ?_
  refine name_w (hd := hd) Wwps (EndN.use Wwfr hq0 (fun _ _ x => x) fun tk2 s2 h2 v2 ps2 fr2 hv2 hq2 => ?_)
  subst hv2
  have hn2 := fr2.1; (try simp only [UB, UC] at hn2)
  refine QW (k := Qk ?_);refine WD.heavy hX (hw := ?_)
  refine QJ en74 ?_
  refine node_w fun h3 g3 => ?_
  have hn3 := g3.1; (try simp only [UB, UC] at hn3)
  refine WD.heavy hX (hw := Qv ?_);refine WD.nil (hq := ?_);refine QN hX ?_;refine QK (Qa ?_);refine QK ?_
  refine QJ en53 ?_
  refine want_w (hd := hd) Wwps (EndN.use Wwfr hq2 (fun _ _ x => x) fun tk4 s4 h4 v4 ps4 fr4 hv4 hq4 => ?_)
  subst hv4
  have hn4 := fr4.1; (try simp only [UB, UC] at hn4)
  refine QL ?_;refine QU hX ?_;refine WC.block hX ?_
  refine WC.loopInv hX (α := Nat × List Nd × St) (m := fun a => a.1) (Inv := fun a e h' => e 0 = some (pV p) ∧ e 4 = some (.pointer (some ⟨h.next + 1, 0, none⟩)) ∧ e 6 = some (.pointer (some ⟨h1.next, 0, none⟩)) ∧ PSt h' p L hd a.2.2 ∧ Fr1 p h h' ∧
   h'.obj (h.next + 1) = some (.cells false [.int .i64 0, .string .empty, .int .i64 0, .int .i64 0, .string .empty, .int .i64 0, .slice none 0 0]) ∧ h1.next < h'.next ∧ a.1 + a.2.1.length ≤ n ∧ (∃ b n es, h'.obj h1.next = some (.cells false (ncells (nd 49 tk tk2.text a.2.1) b n es)) ∧ KV h' (fun j => h1.next < j) b n es a.2.1) ∧
   EndN (VN fun j => h.next ≤ j) p L hd h Q ((itemsGo r L hd (fun s => (nameR L s).then fun y s => (wantR L s (⟨#[58]⟩ : ByteArray)).then fun _ s => (r.expr L hd s).then fun e s => .ok (nd 5 y y.text [e]) s) a.1 a.2.1 a.2.2).then fun kids s => .ok (nd 49 tk tk2.text kids) s))
   (n, [], s4) ⟨rfl, rfl, rfl, Wwps, Wwfr, Wwobj, Wwne, by simp, ⟨none, 0, 0, Wwobj, KV.nil _ _⟩, hq4⟩ ?_
  rintro ⟨m, kids, s5⟩ env h5 ih ⟨e0, e4, e6, ps5, fr5, ho5, hn5, hm5, ⟨b5, n5, es5, hk5, kv5⟩, hq5⟩
  simp only at ps5 hm5 hk5 kv5 hq5
  have hnn5 := fr5.1
  obtain ⟨m, rfl⟩ : ∃ m', m = m' + 1 := by
   cases m with
   | zero => exact hq5.elim
   | succ m => exact ⟨m, rfl⟩
  unfold itemsGo at hq5
  have hl5 := kv5.len
  refine QU hX ?_;refine QN hX ?_;refine QK (Qa ?_);refine QK ?_
  refine QJ en104 ?_
  refine got_w (L := L) (hd := hd) (s := s5) Wwps fun h6 ps6 fr6 => ?_
  have hn6 := fr6.1; (try simp only [UB, UC] at hn6)
  unfold gotS at ps6
  cases hb6 : isR L s5 [(⟨#[125]⟩ : ByteArray)]
  ·rw [hb6, if_neg Bool.false_ne_true] at ps6 hq5
   simp only [R.then_assoc] at hq5
   refine QK (Qe ?_);refine QQ hX ?_;refine UA ?_;refine WC.block hX ?_;refine QN hX ?_;refine QK (Qa ?_);refine QK ?_
   refine QJ en73 ?_
   refine name_w (hd := hd) Wwps (EndN.use Wwfr hq5 (fun _ _ x => x) fun tk20 s20 h20 v20 ps20 fr20 hv20 hq20 => ?_)
   subst hv20
   have hn20 := fr20.1; (try simp only [UB, UC] at hn20)
   refine QK (Qw ?_);refine QK (Qv ?_);refine QO hX ?_;refine QK (Qa ?_);refine QK ?_
   refine QJ en53 ?_
   refine want_w (hd := hd) Wwps (EndN.use Wwfr hq20 (fun _ _ x => x) fun tk21 s21 h21 v21 ps21 fr21 hv21 hq21 => ?_)
   subst hv21
   have hn21 := fr21.1; (try simp only [UB, UC] at hn21)
   refine QL ?_;refine QU hX ?_;refine WC.drawn (id := 14) hX (l := [⟨0, .pure, 0⟩, ⟨1, .read, 1⟩, ⟨2, .read, 0⟩, ⟨3, .pure, 0⟩, ⟨4, .read, 8⟩, ⟨5, .pure, 0⟩, ⟨6, .heavy, 32⟩, ⟨7, .alloc, 96⟩, ⟨8, .heavy, 252⟩, ⟨9, .alloc, 508⟩, ⟨10, .heavy, 1023⟩, ⟨11, .pure, 2047⟩, ⟨12, .heavy, 4095⟩]) (hw := ?_);refine QW (k := Qj ?_);refine QX (k := Qt ?_);refine QX (k := Qu ?_);refine QW (k := Qj ?_);refine QX (k := Qt ?_);refine QW (k := Qa ?_);refine WD.heavy hX (hw := ?_)
   refine QJ en119 ?_
   refine c.expr Wwps (EndN.use Wwfr hq21 (fun _ _ x => x) fun t8 s8 h8 v8 ps8 fr8 hv8 hq8 => ?_)
   obtain ⟨b8, n8, es8, rfl, kv8⟩ := hv8
   have hn8 := fr8.1; (try simp only [UB, UC] at hn8)
   (try simp only [R.then_ok] at hq8)
   refine WD.alloc (hw := Qz ?_);refine WD.heavy hX (hw := ?_)
   refine QJ en74 ?_
   refine node_w fun h22 g22 => ?_
   have hn22 := g22.1; (try simp only [UB, UC] at hn22)
   refine WD.alloc (hw := Qz ?_);refine WD.heavy hX (hw := ?_)
   have kvH := kv5.mono (S' := fun j => h1.next < j) (h' := (h22).alloc (.cells false (ncells (nd 5 tk20 tk20.text [t8]) (some ⟨h8.next, 0, none⟩) 1 7))) Wwne (fun j hS hj => ⟨Wwne, Wwag⟩)
   have hbne := kvH.ne
   obtain ⟨old, hsa, hol, hold⟩ := kvH.sliceAt
   have hol2 : kids.length ≤ 1000000 := by omega
   apply WS.append
   (· rfl); (· rfl); (· exact Wwev); (· exact Wwev); (· rfl); (· rfl); (· intro k hk; cases hk); (· exact fits_at rfl); (· decide); (· exact Wwobj); (· exact Wwlen); (· rfl); (· unfold room; omega); (· rfl); (· exact hsa)
   intro h9 hn9 ho9 hf9
   simp only [UB, UC] at hn9 ho9 hf9
   have hk9 : ∀ j, j ≤ h1.next → h9.obj j = ((h22).alloc (.cells false (ncells (nd 5 tk20 tk20.text [t8]) (some ⟨h8.next, 0, none⟩) 1 7))).obj j := fun j hj => hf9 j (by omega) (hbne j hj)
   have fr9 : Fr1 p h h9 := Fr1.keep (H := (h22).alloc (.cells false (ncells (nd 5 tk20 tk20.text [t8]) (some ⟨h8.next, 0, none⟩) 1 7))) Wwfr Wwne fun j hj => hk9 j (by omega)
   have kv9 : KV h9 (fun j => h1.next < j) (some ⟨(h22).next + 1, 0, none⟩) (n5 + 1) 7 (kids ++ [(nd 5 tk20 tk20.text [t8])]) := KV.snoc (h := (h22).alloc (.cells false (ncells (nd 5 tk20 tk20.text [t8]) (some ⟨h8.next, 0, none⟩) 1 7))) (S2 := fun j => h5.next ≤ j ∧ j < (h22).next) hol (by omega) hold (NV.of_kids (KV.one (S := fun j => h5.next ≤ j ∧ j < h8.next) Wwne Wwne Wwobj (kv8.mono Wwne (fun j hS hj => by (try simp only [UB, UC] at hS); exact ⟨⟨Wwne, hj⟩, Wwag⟩)) (fun j hS hj => ⟨⟨hS.1, by have := hS.2; exact Wwne⟩, by have := hS.2; exact Wwne⟩)) _ _ _ _ _ _) Wwne ho9 hf9 Wwne (fun x hx _ => by omega) (fun x hx hlt => ⟨by have := hx.1; omega, kv5.ge x hx.1⟩)
   have ps9 : PSt h9 p L hd s8 := PSt.keep (h := h22.alloc (.cells false (ncells (nd 5 tk20 tk20.text [t8]) (some ⟨h8.next, 0, none⟩) 1 7))) Wwps Wwne fun j hj => hk9 j (by omega)
   have ho9a : h9.obj (h.next + 1) = some (.cells false [.int .i64 0, .string .empty, .int .i64 0, .int .i64 0, .string .empty, .int .i64 0, .slice none 0 0]) := (hk9 _ (by omega)).trans Wwobj
   have ho9b : h9.obj h1.next = some (.cells false (ncells (nd 49 tk tk2.text kids) b5 n5 es5)) := (hk9 _ (by omega)).trans Wwobj
   refine QW (k := Qj ?_);refine WD.heavy hX (hw := Qv ?_);refine WD.nil (hq := ?_);refine QV hX ?_;refine QK (Qa ?_);refine QK ?_
   refine QJ en170 ?_
   refine comma_w (hd := hd) Wwps (EndN.use Wwfr hq8 (fun _ _ x => x) fun u23 s23 h23 v23 ps23 fr23 hv23 hq23 => ?_)
   subst hv23
   have hn23 := fr23.1; (try simp only [UB, UC] at hn23)
   refine QL ?_
   exact ih (m, kids ++ [nd 5 tk20 tk20.text [t8]], s23) _ _ (by simp) ⟨e0, e4, e6, Wwps, Wwfr, Wwobj, Wwne, by simp; omega, ⟨_, _, _, Wwobj, kv9.mono Wwne (fun j hS hj => by (try simp only [UB, UC] at hS); exact ⟨Wwne, Wwag⟩)⟩, hq23⟩
  ·rw [hb6, if_pos rfl] at ps6 hq5
   rw [R.then_ok] at hq5
   refine QK (Qe ?_);refine QP hX ?_;refine WC.exit ?_;refine exit_here ?_;refine QN hX ?_;refine QK (Qu ?_);refine QK (Qv ?_);refine QM ?_
   refine ⟨_, Wwres, ?_⟩
   refine hq5 _ _ Wwps Wwfr ⟨_, _, _, rfl, NV.of_kids ?_ _ _ _ _ _ _⟩
   exact (kv5.mono Wwne (fun j hS hj => by (try simp only [UB, UC] at hS); exact ⟨Wwne, Wwag⟩))
 ·rw [if_neg (by assumption), if_neg (by simp [*]), if_neg (by assumption), if_pos (by assumption)] at hq0
  refine QJ en72 ?_
  refine take_w (L := L) (hd := hd) (s := s) Wwps (hm) fun h1 ps1 fr1 => ?_
  have hn1 := fr1.1; (try simp only [UB, UC] at hn1)
  refine QO hX ?_;refine QK (Qa ?_);refine QK ?_
  refine QJ en53 ?_
  refine want_w (hd := hd) Wwps (EndN.use Wwfr hq0 (fun _ _ x => x) fun tk2 s2 h2 v2 ps2 fr2 hv2 hq2 => ?_)
  subst hv2
  have hn2 := fr2.1; (try simp only [UB, UC] at hn2)
  refine QL ?_;refine QU hX ?_;refine WC.drawn (id := 20) hX (l := [⟨0, .read, 0⟩, ⟨1, .pure, 0⟩, ⟨5, .alloc, 0⟩, ⟨2, .heavy, 2⟩, ⟨3, .alloc, 6⟩, ⟨4, .heavy, 15⟩, ⟨6, .heavy, 63⟩]) (hw := ?_);refine QX (k := Qu ?_);refine QW (k := Qa ?_);refine WD.alloc (hw := Qw ?_);refine WD.heavy hX (hw := ?_)
  refine QJ en75 ?_
  refine c.typ Wwps (EndN.use Wwfr hq2 (fun _ _ x => x) fun t24 s24 h24 v24 ps24 fr24 hv24 hq24 => ?_)
  obtain ⟨b24, n24, es24, rfl, kv24⟩ := hv24
  have hn24 := fr24.1; (try simp only [UB, UC] at hn24)
  refine WD.alloc (hw := Qz ?_);refine WD.heavy hX (hw := ?_)
  refine QJ en74 ?_
  refine node_w fun h3 g3 => ?_
  have hn3 := g3.1; (try simp only [UB, UC] at hn3)
  refine WD.heavy hX (hw := Qv ?_);refine WD.nil (hq := ?_);refine QN hX ?_;refine QK (Qa ?_);refine QK ?_
  refine QJ en53 ?_
  refine want_w (hd := hd) Wwps (EndN.use Wwfr hq24 (fun _ _ x => x) fun tk4 s4 h4 v4 ps4 fr4 hv4 hq4 => ?_)
  subst hv4
  have hn4 := fr4.1; (try simp only [UB, UC] at hn4)
  refine QL ?_;refine QU hX ?_;refine WC.block hX ?_
  refine WC.loopInv hX (α := Nat × List Nd × St) (m := fun a => a.1) (Inv := fun a e h' => e 0 = some (pV p) ∧ e 4 = some (.pointer (some ⟨h.next + 1, 0, none⟩)) ∧ e 8 = some (.pointer (some ⟨h2.next, 0, none⟩)) ∧ PSt h' p L hd a.2.2 ∧ Fr1 p h h' ∧
   h'.obj (h.next + 1) = some (.cells false [.int .i64 0, .string .empty, .int .i64 0, .int .i64 0, .string .empty, .int .i64 0, .slice none 0 0]) ∧ h2.next < h'.next ∧ a.1 + a.2.1.length ≤ n + 1 ∧ (∃ b n es, h'.obj h2.next = some (.cells false (ncells (nd 50 tk (⟨#[]⟩ : ByteArray) a.2.1) b n es)) ∧ KV h' (fun j => h2.next < j) b n es a.2.1) ∧
   EndN (VN fun j => h.next ≤ j) p L hd h Q ((itemsGo r L hd (fun s => r.expr L hd s) a.1 a.2.1 a.2.2).then fun kids s => .ok (nd 50 tk (⟨#[]⟩ : ByteArray) kids) s))
   (n, [t24], s4) ⟨rfl, rfl, rfl, Wwps, Wwfr, Wwobj, Wwne, by simp, ⟨_, _, _, Wwobj, (KV.one (S := fun j => h2.next < j ∧ j < h24.next) Wwne Wwne Wwobj (kv24.mono Wwne (fun j hS hj => by (try simp only [UB, UC] at hS); exact ⟨⟨Wwne, hj⟩, Wwag⟩)) (fun j hS hj => ⟨hS.1, by have := hS.2; exact Wwne⟩))⟩, hq4⟩ ?_
  rintro ⟨m, kids, s5⟩ env h5 ih ⟨e0, e4, e6, ps5, fr5, ho5, hn5, hm5, ⟨b5, n5, es5, hk5, kv5⟩, hq5⟩
  simp only at ps5 hm5 hk5 kv5 hq5
  have hnn5 := fr5.1
  obtain ⟨m, rfl⟩ : ∃ m', m = m' + 1 := by
   cases m with
   | zero => exact hq5.elim
   | succ m => exact ⟨m, rfl⟩
  unfold itemsGo at hq5
  have hl5 := kv5.len
  refine QU hX ?_;refine QN hX ?_;refine QK (Qa ?_);refine QK ?_
  refine QJ en104 ?_
  refine got_w (L := L) (hd := hd) (s := s5) Wwps fun h6 ps6 fr6 => ?_
  have hn6 := fr6.1; (try simp only [UB, UC] at hn6)
  unfold gotS at ps6
  cases hb6 : isR L s5 [(⟨#[125]⟩ : ByteArray)]
  ·rw [hb6, if_neg Bool.false_ne_true] at ps6 hq5
   simp only [R.then_assoc] at hq5
   refine QK (Qe ?_);refine QQ hX ?_;refine UA ?_;refine WC.block hX ?_;refine QU hX ?_;refine WC.drawn (id := 23) hX (l := [⟨0, .pure, 0⟩, ⟨1, .read, 1⟩, ⟨2, .pure, 0⟩, ⟨3, .heavy, 4⟩, ⟨4, .alloc, 12⟩, ⟨5, .heavy, 31⟩, ⟨6, .pure, 63⟩, ⟨7, .heavy, 127⟩]) (hw := ?_);refine QW (k := Qj ?_);refine QX (k := Qt ?_);refine QW (k := Qa ?_);refine WD.heavy hX (hw := ?_)
   refine QJ en119 ?_
   refine c.expr Wwps (EndN.use Wwfr hq5 (fun _ _ x => x) fun t8 s8 h8 v8 ps8 fr8 hv8 hq8 => ?_)
   obtain ⟨b8, n8, es8, rfl, kv8⟩ := hv8
   have hn8 := fr8.1; (try simp only [UB, UC] at hn8)
   (try simp only [R.then_ok] at hq8)
   refine WD.alloc (hw := Qz ?_);refine WD.heavy hX (hw := ?_)
   have kvH := kv5.mono (S' := fun j => h2.next < j) (h' := (h8).alloc (.cells false (ncells t8 b8 n8 es8))) Wwne (fun j hS hj => ⟨Wwne, Wwag⟩)
   have hbne := kvH.ne
   obtain ⟨old, hsa, hol, hold⟩ := kvH.sliceAt
   have hol2 : kids.length ≤ 1000000 := by omega
   apply WS.append
   (· rfl); (· rfl); (· exact Wwev); (· exact Wwev); (· rfl); (· rfl); (· intro k hk; cases hk); (· exact fits_at rfl); (· decide); (· exact Wwobj); (· exact Wwlen); (· rfl); (· unfold room; omega); (· rfl); (· exact hsa)
   intro h9 hn9 ho9 hf9
   simp only [UB, UC] at hn9 ho9 hf9
   have hk9 : ∀ j, j ≤ h2.next → h9.obj j = ((h8).alloc (.cells false (ncells t8 b8 n8 es8))).obj j := fun j hj => hf9 j (by omega) (hbne j hj)
   have fr9 : Fr1 p h h9 := Fr1.keep (H := (h8).alloc (.cells false (ncells t8 b8 n8 es8))) Wwfr Wwne fun j hj => hk9 j (by omega)
   have kv9 : KV h9 (fun j => h2.next < j) (some ⟨(h8).next + 1, 0, none⟩) (n5 + 1) 7 (kids ++ [t8]) := KV.snoc (h := (h8).alloc (.cells false (ncells t8 b8 n8 es8))) (S2 := fun j => h5.next ≤ j ∧ j < (h8).next) hol (by omega) hold (kv8.mono Wwne (fun j hS hj => by (try simp only [UB, UC] at hS); exact ⟨⟨Wwne, Wwne⟩, Wwag⟩)) Wwne ho9 hf9 Wwne (fun x hx _ => by omega) (fun x hx hlt => ⟨by have := hx.1; omega, kv5.ge x hx.1⟩)
   have ps9 : PSt h9 p L hd s8 := PSt.keep (h := h8.alloc (.cells false (ncells t8 b8 n8 es8))) Wwps Wwne fun j hj => hk9 j (by omega)
   have ho9a : h9.obj (h.next + 1) = some (.cells false [.int .i64 0, .string .empty, .int .i64 0, .int .i64 0, .string .empty, .int .i64 0, .slice none 0 0]) := (hk9 _ (by omega)).trans Wwobj
   have ho9b : h9.obj h2.next = some (.cells false (ncells (nd 50 tk (⟨#[]⟩ : ByteArray) kids) b5 n5 es5)) := (hk9 _ (by omega)).trans Wwobj
   refine QW (k := Qj ?_);refine WD.heavy hX (hw := Qv ?_);refine WD.nil (hq := ?_);refine QV hX ?_;refine QK (Qa ?_);refine QK ?_
   refine QJ en170 ?_
   refine comma_w (hd := hd) Wwps (EndN.use Wwfr hq8 (fun _ _ x => x) fun u23 s23 h23 v23 ps23 fr23 hv23 hq23 => ?_)
   subst hv23
   have hn23 := fr23.1; (try simp only [UB, UC] at hn23)
   refine QL ?_
   exact ih (m, kids ++ [t8], s23) _ _ (by simp) ⟨e0, e4, e6, Wwps, Wwfr, Wwobj, Wwne, by simp; omega, ⟨_, _, _, Wwobj, kv9.mono Wwne (fun j hS hj => by (try simp only [UB, UC] at hS); exact ⟨Wwne, Wwag⟩)⟩, hq23⟩
  ·rw [hb6, if_pos rfl] at ps6 hq5
   rw [R.then_ok] at hq5
   refine QK (Qe ?_);refine QP hX ?_;refine WC.exit ?_;refine exit_here ?_;refine QN hX ?_;refine QK (Qu ?_);refine QK (Qv ?_);refine QM ?_
   refine ⟨_, Wwres, ?_⟩
   refine hq5 _ _ Wwps Wwfr ⟨_, _, _, rfl, NV.of_kids ?_ _ _ _ _ _ _⟩
   exact (kv5.mono Wwne (fun j hS hj => by (try simp only [UB, UC] at hS); exact ⟨Wwne, Wwag⟩))
 ·rw [if_neg (by assumption), if_neg (by simp [*]), if_neg (by assumption), if_neg (by assumption)] at hq0
  refine QJ en77 ?_
  exact failN_w (hd := hd) Wwps Wwfr hq0 (fun _ _ x => x)

end Go.Proofs.ZL
end

section
open Go Go.Am
namespace Go.Proofs.ZL
set_option maxRecDepth 100000
set_option linter.unusedSimpArgs false
set_option linter.unusedVariables false
set_option maxHeartbeats 1000000

theorem operand_w {r : Rec} {n : Nat} (hn : n ≤ 1000000) (c : Ctr r) : CN 148 (operandF n r) := by
 intro p L hd s h Q ps hq0
 have hp := ps.lt
 have hm : (tokAt L s.k).kind ≠ 6 → s.k + 1 < L.length := ps.wf.more ps.at_
 have hmw : ∀ {h : Heap} {Q : ARes → Prop}, PSt h p L hd s → (tokAt L s.k).kind = 5 → EndN (VN (fun j => h.next ≤ j)) p L hd h Q (markedF n r (tokAt L s.k) L hd s) → WCall Tryz.prog G X 163 [pV p, .agg (tokAt L s.k).cells.toArray] h Q := marked_w hn c
 have hww : ∀ {h : Heap} {Q : ARes → Prop}, PSt h p L hd s → (tokAt L s.k).kind = 4 → EndN (VN (fun j => h.next ≤ j)) p L hd h Q (wordedF n r (tokAt L s.k) L hd s) → WCall Tryz.prog G X 164 [pV p, .agg (tokAt L s.k).cells.toArray] h Q := worded_w hn c
 unfold operandF at hq0
 refine WCall.walk hX Tryz.func148 rfl rfl Tryz.ntmps148 rfl ?_
 refine QN hX ?_;refine QK (Qw ?_);refine QO hX ?_;refine QK (Qa ?_);refine QK ?_
 refine QJ en51 ?_
 refine peek_w (L := L) (hd := hd) (s := s) Wwps fun h1 g1 => ?_
 have hn1 := g1.1; (try simp only [UB, UC] at hn1)
 simp only at hq0
 generalize tokAt L s.k = tk at *
 refine QK (Qw ?_);refine QK (Qv ?_);refine QL ?_;refine QU hX ?_;refine QN hX ?_;refine QK (Qj ?_);refine QK (Qt ?_);refine QL ?_;refine WC.block hX ?_;refine QN hX ?_;refine QK (QD ?_ ?_);intro hh;refine QK (Qb ?_);refine QQ hX ?_;refine QN hX ?_;refine QK (Qa ?_);refine QK ?_;rotate_left;intro hh;refine QK (Qb ?_);refine QP hX ?_;refine QN hX ?_;refine QK (QD ?_ ?_);intro hh;refine QK (Qb ?_);refine QQ hX ?_;refine QN hX ?_;refine QK (Qa ?_);refine QK ?_;rotate_left;intro hh;refine QK (Qb ?_);refine QP hX ?_;refine QN hX ?_;refine QK (QD ?_ ?_);intro hh;refine QK (Qb ?_);refine QQ hX ?_;refine QN hX ?_;refine QK (Qa ?_);refine QK ?_;rotate_left;intro hh;refine QK (Qb ?_);refine QP hX ?_;refine QN hX ?_;refine QK (QD ?_ ?_);intro hh;refine QK (Qb ?_);refine QQ hX ?_;refine QN hX ?_;refine QK (Qa ?_);refine QK (Qu ?_);refine QK ?_;rotate_left;intro hh;refine QK (Qb ?_);refine QP hX ?_;refine QN hX ?_;refine QK (QD ?_ ?_);intro hh;refine QK (Qb ?_);refine QQ hX ?_;refine QN hX ?_;refine QK (Qa ?_);refine QK (Qu ?_);refine QK ?_;rotate_left;intro hh;refine QK (Qb ?_);refine QP hX ?_;refine UA ?_;refine QN hX ?_;refine QK (Qa ?_);refine QK ?_;rotate_left
 all_goals (repeat (first | rw [if_pos (by assumption)] at hq0 | rw [if_neg (by assumption)] at hq0))
 ·refine QJ en72 ?_
  refine take_w (L := L) (hd := hd) (s := s) Wwps (hm (by omega)) fun h2 ps2 fr2 => ?_
  have hn2 := fr2.1; (try simp only [UB, UC] at hn2)
  refine QO hX ?_;refine QK (Qj ?_);refine QK (Qt ?_);refine QK (Qj ?_);refine QK (Qt ?_);refine QK (Qn ?_);refine QK (Qv ?_);refine QM ?_
  refine ⟨_, Wwres, ?_⟩
  exact hq0 _ _ Wwps Wwfr ⟨none, 0, 0, rfl, .leaf _ _ _ _ _ _⟩
 ·refine QJ en72 ?_
  refine take_w (L := L) (hd := hd) (s := s) Wwps (hm (by omega)) fun h2 ps2 fr2 => ?_
  have hn2 := fr2.1; (try simp only [UB, UC] at hn2)
  refine QO hX ?_;refine QK (Qu ?_);refine QK (Qj ?_);refine QK (Qt ?_);refine QK ?_
  refine QJ en74 ?_
  refine node_w fun h3 g3 => ?_
  have hn3 := g3.1; (try simp only [UB, UC] at hn3)
  refine QK (Qv ?_);refine QM ?_
  refine ⟨_, Wwres, ?_⟩
  refine hq0 _ _ Wwps Wwfr ⟨_, _, _, rfl, NV.of_kids ?_ _ _ _ _ _ _⟩
  exact (KV.nil _ _)
 ·refine QJ en72 ?_
  refine take_w (L := L) (hd := hd) (s := s) Wwps (hm (by omega)) fun h2 ps2 fr2 => ?_
  have hn2 := fr2.1; (try simp only [UB, UC] at hn2)
  refine QO hX ?_;refine QK (Qu ?_);refine QK (Qj ?_);refine QK (Qt ?_);refine QK ?_
  refine QJ en74 ?_
  refine node_w fun h3 g3 => ?_
  have hn3 := g3.1; (try simp only [UB, UC] at hn3)
  refine QK (Qv ?_);refine QM ?_
  refine ⟨_, Wwres, ?_⟩
  refine hq0 _ _ Wwps Wwfr ⟨_, _, _, rfl, NV.of_kids ?_ _ _ _ _ _ _⟩
  exact (KV.nil _ _)
 ·rw [← R.then_id (markedF n r tk L hd s)] at hq0
  refine QJ en163 ?_
  refine hmw Wwps (by assumption) (EndN.use Wwfr hq0 (fun _ _ x => x) fun t3 s3 h3 v3 ps3 fr3 hv3 hq3 => ?_)
  obtain ⟨b3, n3, es3, rfl, kv3⟩ := hv3
  have hn3 := fr3.1
  simp only [UB, UC] at hn3
  refine QK (Qv ?_);refine QM ?_
  refine ⟨_, Wwres, ?_⟩
  exact hq3 _ _ Wwps Wwfr ⟨_, _, _, rfl, (kv3.mono Wwne (fun j hS hj => by (try simp only [UB, UC] at hS); exact ⟨Wwne, Wwag⟩))⟩
 ·rw [← R.then_id (wordedF n r tk L hd s)] at hq0
  refine QJ en164 ?_
  refine hww Wwps (by assumption) (EndN.use Wwfr hq0 (fun _ _ x => x) fun t3 s3 h3 v3 ps3 fr3 hv3 hq3 => ?_)
  obtain ⟨b3, n3, es3, rfl, kv3⟩ := hv3
  have hn3 := fr3.1
  simp only [UB, UC] at hn3
  refine QK (Qv ?_);refine QM ?_
  refine ⟨_, Wwres, ?_⟩
  exact hq3 _ _ Wwps Wwfr ⟨_, _, _, rfl, (kv3.mono Wwne (fun j hS hj => by (try simp only [UB, UC] at hS); exact ⟨Wwne, Wwag⟩))⟩
 ·refine QJ en77 ?_
  exact failN_w (hd := hd) Wwps Wwfr hq0 (fun _ _ x => x)

theorem primary2_w {r : Rec} (c : Ctr r) {i j l : Nat} {t : Tok} {tn : Nd} {bn : Option Addr} {nn esn lo hi x : Nat} {p : Nat} {L : List Tok} {hd : Bool} {s : St} {h : Heap} {Q : ARes → Prop} (ps : PSt h p L hd s) (ho : h.obj i = some (.cells false [pV p])) (hi1 : i < h.next) (hip : i ≠ p)
  (hoj : h.obj j = some (.cells false t.cells)) (hol : h.obj l = some (.cells false (ncells tn bn nn esn))) (hj1 : j < h.next) (hl1 : l < h.next)
  (hlo : lo ≤ h.next) (hpl : p < lo) (hhi : hi ≤ h.next) (hxn : x < h.next) (kvn : NV h (fun j => lo ≤ j ∧ j ≠ x ∧ j < hi) (ncells tn bn nn esn) tn)
  (hq0 : EndN (VN (fun j => lo ≤ j ∧ j ≠ x ∧ (j < hi ∨ h.next ≤ j))) p L hd h Q (indexF r t tn L hd s)) : WCall Tryz.prog G X 152 [.pointer (some ⟨i, 0, none⟩), .pointer (some ⟨j, 0, none⟩), .pointer (some ⟨l, 0, none⟩)] h Q := by
 have hp := ps.lt
 rw [← R.then_id (indexF r t tn L hd s)] at hq0
 refine WCall.walk hX Tryz.func152 rfl rfl Tryz.ntmps152 rfl ?_
 refine QN hX ?_;refine QK (Qw ?_);refine QO hX ?_;refine QK (Qt ?_);refine QK (Qu ?_);refine QK (Qu ?_);refine QK ?_
 refine QJ en153 ?_
 refine pindex_w c (hi := hi) (lo := lo) (x := x) Wwps Wwne Wwne hpl (kvn.mono Wwne (fun j hS hj => by (try simp only [UB, UC] at hS); exact ⟨⟨Wwne, Wwne⟩, Wwag⟩)) (EndN.use Wwfr hq0 (fun _ _ x => x) fun t1 s1 h1 v1 ps1 fr1 hv1 hq1 => ?_)
 obtain ⟨b1, n1, es1, rfl, kv1⟩ := hv1
 have hn1 := fr1.1
 simp only [Heap.alloc_next] at hn1
 refine QK (Qv ?_);refine QM ?_
 refine ⟨_, Wwres, ?_⟩
 exact hq1 _ _ Wwps Wwfr ⟨_, _, _, rfl, kv1.mono Wwne (fun j hS hj => by (try simp only [UB, UC] at hS); exact ⟨Wwne, Wwag⟩)⟩

end Go.Proofs.ZL
end

section
open Go Go.Am
namespace Go.Proofs.ZL
set_option maxRecDepth 100000
set_option linter.unusedSimpArgs false
set_option linter.unusedVariables false
set_option maxHeartbeats 1000000

theorem primary_w {r : Rec} {n : Nat} (hn : n ≤ 1000000) (c : Ctr r) : CN 139 (primaryF n r) := by
 intro p L hd s h Q ps hq0
 have hp := ps.lt
 unfold primaryF at hq0
 simp only at hq0
 refine WCall.walk hX Tryz.func139 rfl rfl Tryz.ntmps139 rfl ?_
 refine QN hX ?_;refine QK (Qx ?_);refine QK (Qw ?_);refine QO hX ?_;refine QK (Qt ?_);refine QK (Qy ?_);refine QK ?_
 refine QJ en71 ?_
 refine is_w (L := L) (hd := hd) (s := s) (ts := [(⟨#[40]⟩ : ByteArray)]) Wwps Wwobj Wwne rfl (by first | decide | simp) fun h1 g1 => ?_
 have hn1 := g1.1; (try simp only [UB, UC] at hn1)
 refine QK (Qb ?_);refine QO hX ?_;refine QK (Qt ?_);refine QK ?_
 refine QJ en148 ?_
 refine operand_w hn c Wwps (EndN.use Wwfr hq0 (fun _ _ x => x) fun t2 s2 h2 v2 ps2 fr2 hv2 hq2 => ?_)
 obtain ⟨b2, n2, es2, rfl, kv2⟩ := hv2
 have hn2 := fr2.1
 (try simp only [UB, UC] at hn2)
 refine QK (Qw ?_);refine QK (Qv ?_);refine QL ?_;refine QU hX ?_;refine WC.block hX ?_
 refine WC.loopInv hX (α := Nat × Nd × Bool × St) (m := fun a => a.1) (Inv := fun a e h' => e 1 = some (.pointer (some ⟨h.next, 0, none⟩)) ∧ e 2 = some (.pointer (some ⟨h.next + 1, 0, none⟩)) ∧ e 3 = some (.bool a.2.2.1) ∧ e 4 = some (.pointer (some ⟨h2.next, 0, none⟩)) ∧
  PSt h' p L hd a.2.2.2 ∧ Fr1 p h h' ∧ h'.obj h.next = some (.cells false [pV p]) ∧ h'.obj (h.next + 1) = some (.cells false [.int .i64 0, .string .empty, .int .i64 0, .int .i64 0, .string .empty, .int .i64 0, .slice none 0 0]) ∧ h2.next < h'.next ∧
  (∃ b n es, h'.obj h2.next = some (.cells false (ncells a.2.1 b n es)) ∧ NV h' (fun j => h.next + 1 < j ∧ j ≠ h2.next) (ncells a.2.1 b n es) a.2.1) ∧
  EndN (VN fun j => h.next ≤ j) p L hd h Q ((primaryGo n r L a.1 a.2.1 a.2.2.1 a.2.2.2).then fun y s => .ok y.1 (s.with y.2)))
  (n, t2, isR L s [(⟨#[40]⟩ : ByteArray)], s2) ⟨rfl, rfl, rfl, rfl, Wwps, Wwfr, Wwobj, Wwobj, Wwne, ⟨b2, n2, es2, Wwobj, (kv2.mono Wwne (fun j hS hj => by (try simp only [UB, UC] at hS); exact ⟨⟨Wwne, Wwne⟩, Wwag⟩))⟩, hq2⟩ ?_
 rintro ⟨m, x, bare, s5⟩ env h5 ih ⟨e1, e2, e3, e4, ps5, fr5, hob, hoz, hn5, ⟨b5, n5, es5, hk5, kv5⟩, hq5⟩
 simp only at ps5 e3 hk5 kv5 hq5
 have hnn5 := fr5.1
 obtain ⟨m, rfl⟩ : ∃ m', m = m' + 1 := by
  cases m with
  | zero => exact hq5.elim
  | succ m => exact ⟨m, rfl⟩
 unfold primaryGo at hq5
 refine QU hX ?_;refine QN hX ?_;refine QK (Qt ?_);refine QK (Qy ?_);refine QK ?_
 refine QJ en71 ?_
 refine is_w (L := L) (hd := hd) (s := s5) (ts := [(⟨#[40]⟩ : ByteArray), (⟨#[91]⟩ : ByteArray), (⟨#[46]⟩ : ByteArray)]) Wwps Wwobj Wwne rfl (by first | decide | simp) fun h6 g6 => ?_
 have hn6 := g6.1; (try simp only [UB, UC] at hn6)
 cases hb6 : isR L s5 [(⟨#[40]⟩ : ByteArray), (⟨#[91]⟩ : ByteArray), (⟨#[46]⟩ : ByteArray)]
 ·rw [hb6, if_neg Bool.false_ne_true] at hq5
  rw [R.then_ok] at hq5
  obtain ⟨j, hj, hop, hol⟩ := ps5.tok
  refine QP hX ?_;refine WC.exit ?_;refine exit_here ?_;refine QN hX ?_;refine QK (Qt ?_);refine QK (Qa ?_);refine QK (Qi ?_);refine QK (Qj ?_);refine QK (Qv ?_);refine QO hX ?_;refine QK (Qu ?_);refine QK (Qv ?_);refine QM ?_
  refine ⟨_, Wwres, ?_⟩
  refine hq5 _ _ ?_ ?_ ⟨_, _, _, rfl, kv5.mono Wwne (fun j hS hj => by (try simp only [UB, UC] at hS); exact ⟨Wwne, Wwag⟩)⟩
  ·refine PSt.put ?_ Wwne
   exact PSt.self (hd := hd) (s := s5) (j := j) Wwps Wwobj hd (s5.with bare) ps5.at_
  ·refine Fr1.put (Fr1.self ?_) Wwne
   exact Wwfr
 ·rw [hb6, if_pos rfl] at hq5
  simp only [R.then_assoc] at hq5
  refine QQ hX ?_;refine UA ?_;refine WC.block hX ?_;refine QN hX ?_;refine QK (Qb ?_);refine QO hX ?_;refine QK (Qt ?_);refine QK ?_
  refine QJ en72 ?_
  refine take_w (L := L) (hd := hd) (s := s5) Wwps (ps5.wf.is ps5.at_ hb6) fun h7 ps7 fr7 => ?_
  have hn7 := fr7.1; (try simp only [UB, UC] at hn7)
  generalize tokAt L s5.k = tk at *
  refine QK (Qw ?_);refine QK (Qv ?_);refine QO hX ?_;refine QK (Qj ?_);refine QK (Qt ?_);refine QL ?_;refine WC.block hX ?_;refine QN hX ?_;refine QK (QB ?_ ?_);intro hh;refine QK (Qb ?_);refine QQ hX ?_;refine QN hX ?_;refine QK (Qt ?_);refine QK (Qp ?_);refine QK ?_;rotate_left;intro hh;refine QK (Qb ?_);refine QP hX ?_;refine QN hX ?_;refine QK (QB ?_ ?_);intro hh;refine QK (Qb ?_);refine QQ hX ?_;refine QV hX ?_;refine QK (Qt ?_);refine QK (Qp ?_);refine QK ?_;rotate_left;intro hh;refine QK (Qb ?_);refine QP hX ?_;refine WC.drawn (id := 7) hX (l := [⟨0, .read, 0⟩, ⟨1, .read, 0⟩, ⟨4, .read, 0⟩, ⟨5, .alloc, 16⟩, ⟨2, .heavy, 2⟩, ⟨3, .pure, 6⟩, ⟨6, .heavy, 63⟩, ⟨7, .heavy, 127⟩]) (hw := ?_);refine QX (k := Qu ?_);refine QX (k := Qt ?_);refine QX (k := Qu ?_);refine WD.alloc (hw := Qz ?_);refine WD.heavy hX (hw := ?_);rotate_left
  ·rw [if_pos (by assumption), R.then_assoc] at hq5
   refine QJ en149 ?_
   refine withinK_w (L := L) (s := s5.next) (hd := hd) (hd' := false) (spec := exprsF n r (⟨#[41]⟩ : ByteArray) L false s5.next) Wwps en150 (fun {h9 Q9} ps9 fr9 hq9 => ?_) (EndN.useE Wwfr hq5 (fun _ _ x => x) fun t10 s10 h10 v10 hr10 ps10 fr10 hv10 hq10 => ?_)
   ·exact primary1_w (i := h.next) hn c ps9 (fr9.at Wwne Wwne Wwobj) (by have := fr9.1; (try simp only [UB, UC] at this); omega) Wwne hq9
   ·obtain ⟨b10, n10, es10, rfl, kv10⟩ := hv10
    have hn10 := fr10.1
    (try simp only [UB, UC] at hn10)
    have hlen := exprsF_len hr10
    have hl10 := kv10.len
    rw [R.then_ok] at hq10
    refine QK (Qb ?_);refine QL ?_;refine WC.drawn (id := 10) hX (l := [⟨0, .read, 0⟩, ⟨1, .read, 0⟩, ⟨2, .alloc, 2⟩, ⟨3, .pure, 0⟩, ⟨4, .heavy, 14⟩, ⟨5, .heavy, 31⟩, ⟨6, .heavy, 63⟩]) (hw := ?_);refine QX (k := Qu ?_);refine QX (k := Qu ?_);refine WD.alloc (hw := Qz ?_);refine QW (k := Qa ?_);refine WD.heavy hX (hw := ?_)
    refine WS.appendKV (S1 := fun j => h.next + 1 < j ∧ j ≠ h2.next) (S2 := fun j => h7.next < j ∧ j < h10.next) (k1 := [x]) (k2 := t10) rfl rfl Wwev Wwev rfl rfl (by intro k hk; cases hk) (fits_at rfl) (by unfold room; omega)
     (KV.one (S := fun j => h.next + 1 < j ∧ j ≠ h2.next ∧ j < h10.next) Wwne Wwne Wwobj (kv5.mono Wwne (fun j hS hj => by (try simp only [UB, UC] at hS); exact ⟨⟨Wwne, Wwne, Wwne⟩, Wwag⟩)) (fun j hS hj => ⟨⟨hS.1, hS.2.1⟩, by have := hS.2.2; exact Wwne⟩)) (kv10.mono Wwne (fun j hS hj => by (try simp only [UB, UC] at hS); exact ⟨⟨Wwne, Wwne⟩, Wwag⟩)) (fun x hx _ off e => by cases e; have := hx.2; omega) ?_
    intro h11 b11 es11 hn11 kv11 hf11
    simp only [Heap.alloc_next] at hn11
    have hk11 : ∀ j, j < h10.next → h11.obj j = h10.obj j := fun j hj => (hf11 j Wwne (by intro off e; cases e; omega)).trans (obj_old Wwne rfl)
    have fr11 : Fr1 p h h11 := Fr1.keep (H := h10) Wwfr Wwne fun j hj => hk11 j (by omega)
    have ps11 : PSt h11 p L hd s10 := PSt.keep (h := h10) ps10 Wwne fun j hj => hk11 j (by omega)
    have ho11 : h11.obj h.next = some (.cells false [pV p]) := (hk11 _ (by omega)).trans Wwobj
    have ho11z : h11.obj (h.next + 1) = some (.cells false [.int .i64 0, .string .empty, .int .i64 0, .int .i64 0, .string .empty, .int .i64 0, .slice none 0 0]) := (hk11 _ (by omega)).trans Wwobj
    have ho11n : h11.obj h2.next = some (.cells false (ncells x b5 n5 es5)) := (hk11 _ (by omega)).trans Wwobj
    have ho11t : h11.obj h7.next = some (.cells false tk.cells) := (hk11 _ (by omega)).trans Wwobj
    refine WD.heavy hX (hw := ?_)
    refine QJ en74 ?_
    refine node_w fun h12 g12 => ?_
    have hn12 := g12.1; (try simp only [UB, UC] at hn12)
    refine WD.heavy hX (hw := Qv ?_);refine WD.nil (hq := ?_)
    refine ih (m, nd 43 tk (⟨#[]⟩ : ByteArray) (x :: t10), false, s10) _ _ (by simp) ⟨e1, e2, rfl, e4, Wwps, Wwfr, Wwobj, Wwobj, Wwne, ⟨b11, 1 + n10, es11, Wwobj, NV.of_kids (kv11.mono Wwne (fun j hS hj => by (try simp only [UB, UC] at hS); exact ⟨Wwne, Wwag⟩)) _ _ _ _ _ _⟩, hq10⟩
  ·rw [if_neg (by assumption), if_pos (by assumption)] at hq5
   refine QJ en87 ?_
   refine within_g (L := L) (s := s5.next) (hd := hd) (hd' := false) (lo := h.next + 2) (hi := h7.next) (x := h2.next) (spec := indexF r tk x L false s5.next) Wwps Wwne Wwne Wwne en152 (fun {h9 Q9} ps9 fr9 hq9 => ?_) (EndN.use Wwfr hq5 (fun _ _ x => x) fun t10 s10 h10 v10 ps10 fr10 hv10 hq10 => ?_)
   ·have hn9 := fr9.1
    (try simp only [UB, UC] at hn9)
    exact primary2_w (i := h.next) (j := h7.next) (l := h2.next) (x := h2.next) (lo := h.next + 2) (hi := h7.next) c ps9 (fr9.at Wwne Wwne Wwobj) Wwne Wwne (fr9.at Wwne Wwne Wwobj) (fr9.at Wwne Wwne Wwobj) Wwne Wwne Wwne Wwne Wwne Wwne (kv5.mono Wwne (fun j hS hj => by have a := hS.1; have b := hS.2; exact ⟨Wwne, Wwag⟩)) hq9
   ·obtain ⟨b10, n10, es10, rfl, kv10⟩ := hv10
    have hn10 := fr10.1
    (try simp only [UB, UC] at hn10)
    refine QK (Qv ?_);refine QL ?_
    refine ih (m, t10, false, s10) _ _ (by simp) ⟨e1, e2, rfl, e4, Wwps, Wwfr, Wwobj, Wwobj, Wwne, ⟨_, _, _, Wwobj, kv10.mono Wwne (fun j hS hj => by (try simp only [UB, UC] at hS); exact ⟨Wwne, Wwag⟩)⟩, hq10⟩
  ·rw [if_neg (by assumption), if_neg (by assumption), R.then_assoc] at hq5
   refine QJ en73 ?_
   refine name_w (hd := hd) Wwps (EndN.use Wwfr hq5 (fun _ _ x => x) fun tk10 s10 h10 v10 ps10 fr10 hv10 hq10 => ?_)
   subst hv10
   have hn10 := fr10.1; (try simp only [UB, UC] at hn10)
   rw [R.then_ok] at hq10
   refine QW (k := Qk ?_);refine WD.heavy hX (hw := ?_)
   refine QJ en74 ?_
   refine node_w fun h12 g12 => ?_
   have hn12 := g12.1; (try simp only [UB, UC] at hn12)
   refine WD.heavy hX (hw := Qv ?_);refine WD.nil (hq := ?_)
   refine ih (m, nd 47 tk tk10.text [x], false, s10) _ _ (by simp) ⟨e1, e2, rfl, e4, Wwps, Wwfr, Wwobj, Wwobj, Wwne, ⟨some ⟨h7.next + 1, 0, none⟩, 1, 7, Wwobj, NV.of_kids (KV.one (i := h7.next + 1) (S := fun j => h.next + 1 < j ∧ j ≠ h2.next ∧ j < h7.next) Wwne Wwne Wwobj (kv5.mono Wwne (fun j hS hj => by (try simp only [UB, UC] at hS); exact ⟨⟨Wwne, Wwne, Wwne⟩, Wwag⟩)) (fun j hS hj => ⟨⟨hS.1, hS.2.1⟩, by have := hS.2.2; exact Wwne⟩)) _ _ _ _ _ _⟩, hq10⟩

end Go.Proofs.ZL
end
