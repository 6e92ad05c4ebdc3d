/- ParseJoins: the walk. USEEQ -/
import Derived.Test.YtoifleamknbeaaaGreatDoorYSV
open Go Go.Am
namespace Go.Proofs.ZL
set_option maxRecDepth 100000
set_option linter.unusedSimpArgs false
set_option linter.unusedVariables false
set_option maxHeartbeats 1000000

theorem NV.gr {h h' : Heap} {S : Nat → Prop} {vs : List Value} {t : Nd} (hv : NV h S vs t) (g : Gr h h') : NV h' S vs t := hv.mono g.1 fun j hj hlt => ⟨hj, g.2 j hlt⟩

theorem parse_v {src : ByteArray} {t : Nd} {st p : Int} (hT : parseT src = (t, st, p)) {h : Heap} {Q : ARes → Prop}
    (hq : ∀ h' b m es, Gr h h' → NV h' (fun j => h.next ≤ j) (ncells t b m es) t → Q (.ret (.tuple #[.agg (ncells t b m es).toArray, .agg #[.int .i64 st, .int .i64 p]]) h')) : WCall Tryz.prog G X 12 [.string src] h Q :=
  Parse_w (n := 200000) (by omega) (by rw [(parseN_some src).1, hT]) hq

theorem parseJoins_w {a b : ByteArray} (hza : a.size ≤ 140737488355328) (hzb : b.size ≤ 140737488355328) {h : Heap} {Q : ARes → Prop} (hq : ∀ h', Q (.ret (.bool true) h')) : WCall Tryz.prog G X 10 [.string a, .string b] h Q := by
  have law := @join_law a b
  have smA := (parseN_some a).2
  have smB := (parseN_some b).2
  have smC := (parseN_some (a ++ (⟨#[10]⟩ : ByteArray) ++ b)).2
  obtain ⟨ta, sa, pa, hA⟩ : ∃ t s p, parseT a = (t, s, p) := ⟨_, _, _, rfl⟩
  obtain ⟨tb, sb, pb, hB⟩ : ∃ t s p, parseT b = (t, s, p) := ⟨_, _, _, rfl⟩
  obtain ⟨tc, sc, pc, hC⟩ : ∃ t s p, parseT (a ++ (⟨#[10]⟩ : ByteArray) ++ b) = (t, s, p) := ⟨_, _, _, rfl⟩
  rw [hA] at smA; rw [hB] at smB; rw [hC] at smC
  rw [hA, hB, hC] at law
  simp only at law smA smB smC
  have lA := smA.len
  have lB := smB.len
  have lC := smC.len
  have s1 : (a ++ (⟨#[10]⟩ : ByteArray)).size = a.size + 1 := by rw [ByteArray.size_append]; rfl
  refine WCall.walk hX Tryz.func10 rfl rfl Tryz.ntmps10 rfl ?_
  refine QN hX ?_;refine QK (Qb ?_);refine QL ?_;refine QU hX ?_;refine QN hX ?_;refine QK ?_
  refine QJ en11 ?_
  refine anchor_w fun h1 g1 => ?_
  refine QK (Qe ?_);refine QP hX ?_;refine UA ?_;refine QU hX ?_;refine QN hX ?_;refine QK (Qa ?_);refine QK (Qr ?_);refine QK (Qa ?_);refine QK (Qr ?_);refine QK (Qf ?_);refine QK (QH ?_ ?_);intro hh;refine QQ hX ?_;refine QN hX ?_;refine QK (Qb ?_);refine QM ?_;rotate_left;intro hh;refine QP hX ?_;refine UA ?_;refine QN hX ?_;refine QK (Qa ?_);refine QK ?_;rotate_left
  · ((apply Exists.intro; apply And.intro; (· repeat (first | exact resultA_nil | (apply resultA_tmp; (· (first | rfl | assumption))) | (apply resultA_cellG; (· (first | rfl | assumption)); (· rfl); (· exact sz_at rfl); (· (repeat (first | assumption | (with_reducible rfl) | exact obj_new | exact obj_put | (refine obj_old (by (first | omega | (simp only [Heap.alloc_next, Heap.put_next]; omega))) ?_) | (refine obj_else (by (first | omega | (simp only [Heap.alloc_next, Heap.put_next]; omega))) ?_) | (apply Gr.at; (· assumption); (· (first | omega | (simp only [Heap.alloc_next, Heap.put_next]; omega)))) | (apply Fr1.at; (· assumption); (· (first | omega | (simp only [Heap.alloc_next, Heap.put_next]; omega))); (· (first | omega | (simp only [Heap.alloc_next, Heap.put_next]; omega))))))); (· (first | (exact Nat.le_of_ble_eq_true rfl) | (simp; done) | omega)); (· rfl)) | (apply resultA_cellS; (· (first | rfl | assumption)); (· rfl); (· (repeat (first | assumption | (with_reducible rfl) | exact obj_new | exact obj_put | (refine obj_old (by (first | omega | (simp only [Heap.alloc_next, Heap.put_next]; omega))) ?_) | (refine obj_else (by (first | omega | (simp only [Heap.alloc_next, Heap.put_next]; omega))) ?_) | (apply Gr.at; (· assumption); (· (first | omega | (simp only [Heap.alloc_next, Heap.put_next]; omega)))) | (apply Fr1.at; (· assumption); (· (first | omega | (simp only [Heap.alloc_next, Heap.put_next]; omega))); (· (first | omega | (simp only [Heap.alloc_next, Heap.put_next]; omega))))))); (· rfl)))))); exact hq _
  refine QJ en12 ?_
  refine parse_v hA fun h2 b2 m2 es2 g2 kv2 => ?_
  have hn2 := g2.1
  have k2 := kv2.lenK
  refine QK (Qa ?_);refine QK (Qq ?_);refine QK (Qq ?_);refine QK (Qw ?_);refine QK (Qw ?_);refine QK (Qv ?_);refine QK (Qv ?_);refine QO hX ?_;refine QK (Qa ?_);refine QK ?_
  refine QJ en12 ?_
  refine parse_v hB fun h3 b3 m3 es3 g3 kv3 => ?_
  have hn3 := g3.1
  have k3 := kv3.lenK
  (try simp only [UB, UC] at hn3)
  refine QK (Qa ?_);refine QK (Qq ?_);refine QK (Qq ?_);refine QK (Qw ?_);refine QK (Qw ?_);refine QK (Qv ?_);refine QK (Qv ?_);refine QO hX ?_;refine QK (Qa ?_);refine QK (Qh ?_);refine QK (Qa ?_);refine QK (Qh ?_);refine QK ?_
  refine QJ en12 ?_
  refine parse_v hC fun h4 b4 m4 es4 g4 kv4 => ?_
  have hn4 := g4.1
  have k4 := kv4.lenK
  (try simp only [UB, UC] at hn4)
  refine QK (Qa ?_);refine QK (Qq ?_);refine QK (Qq ?_);refine QK (Qw ?_);refine QK (Qw ?_);refine QK (Qv ?_);refine QK (Qv ?_);refine QL ?_;refine QU hX ?_;refine QN hX ?_;refine QK (Qj ?_);refine QK (Qt ?_);refine QK (QE ?_ ?_);intro hh;refine QK (Qa ?_);refine QK (QA ?_);refine QK (QA ?_);refine QK (QA ?_);refine QK (Qc ?_);refine QQ hX ?_;refine QN hX ?_;refine QK (Qb ?_);refine QM ?_;rotate_left;intro hh;refine QK (Qa ?_);refine QK (Qj ?_);refine QK (Qt ?_);refine QK (QE ?_ ?_);intro hh;refine QK (Qd ?_);refine QQ hX ?_;refine QN hX ?_;refine QK (Qb ?_);refine QM ?_;rotate_left;intro hh;refine QK (Qd ?_);refine QP hX ?_;refine UA ?_;refine QU hX ?_;refine QN hX ?_;refine QK (Qu ?_);refine QK (Qn ?_);refine QK ?_;refine WS_ne26 (h1 := ?_) (h2 := ?_);intro hh;refine QK (Qa ?_);refine QK (Qj ?_);refine QK (Qt ?_);refine QK (Qs ?_);refine QK (Qj ?_);refine QK (Qt ?_);refine QK (Qs ?_);refine QK (Qj ?_);refine QK (Qt ?_);refine QK (Qs ?_);refine QK (Qf ?_);refine QK (QE ?_ ?_);intro hh;refine QK (Qd ?_);refine QQ hX ?_;refine QN hX ?_;refine QK (Qb ?_);refine QM ?_;rotate_left;intro hh;refine QK (Qd ?_);refine QP hX ?_;refine UA ?_;refine QU hX ?_;refine QN hX ?_;refine QK (Qj ?_);refine QK (Qt ?_);refine QK (Qs ?_);refine QK (Qa ?_);refine QL ?_;refine WC.block hX ?_;rotate_left;intro hh;refine QK (Qa ?_);refine QK (QA ?_);refine QK (QA ?_);refine QK (QA ?_);refine QK (QA ?_);refine QK (QA ?_);refine QK (QA ?_);refine QK (QA ?_);refine QK (QA ?_);refine QK (QA ?_);refine QK (QA ?_);refine QK (QA ?_);refine QK (Qc ?_);refine QQ hX ?_;refine QN hX ?_;refine QK (Qb ?_);refine QM ?_;rotate_left
  · ((apply Exists.intro; apply And.intro; (· repeat (first | exact resultA_nil | (apply resultA_tmp; (· (first | rfl | assumption))) | (apply resultA_cellG; (· (first | rfl | assumption)); (· rfl); (· exact sz_at rfl); (· (repeat (first | assumption | (with_reducible rfl) | exact obj_new | exact obj_put | (refine obj_old (by (first | omega | (simp only [Heap.alloc_next, Heap.put_next]; omega))) ?_) | (refine obj_else (by (first | omega | (simp only [Heap.alloc_next, Heap.put_next]; omega))) ?_) | (apply Gr.at; (· assumption); (· (first | omega | (simp only [Heap.alloc_next, Heap.put_next]; omega)))) | (apply Fr1.at; (· assumption); (· (first | omega | (simp only [Heap.alloc_next, Heap.put_next]; omega))); (· (first | omega | (simp only [Heap.alloc_next, Heap.put_next]; omega))))))); (· (first | (exact Nat.le_of_ble_eq_true rfl) | (simp; done) | omega)); (· rfl)) | (apply resultA_cellS; (· (first | rfl | assumption)); (· rfl); (· (repeat (first | assumption | (with_reducible rfl) | exact obj_new | exact obj_put | (refine obj_old (by (first | omega | (simp only [Heap.alloc_next, Heap.put_next]; omega))) ?_) | (refine obj_else (by (first | omega | (simp only [Heap.alloc_next, Heap.put_next]; omega))) ?_) | (apply Gr.at; (· assumption); (· (first | omega | (simp only [Heap.alloc_next, Heap.put_next]; omega)))) | (apply Fr1.at; (· assumption); (· (first | omega | (simp only [Heap.alloc_next, Heap.put_next]; omega))); (· (first | omega | (simp only [Heap.alloc_next, Heap.put_next]; omega))))))); (· rfl)))))); exact hq _
  · ((apply Exists.intro; apply And.intro; (· repeat (first | exact resultA_nil | (apply resultA_tmp; (· (first | rfl | assumption))) | (apply resultA_cellG; (· (first | rfl | assumption)); (· rfl); (· exact sz_at rfl); (· (repeat (first | assumption | (with_reducible rfl) | exact obj_new | exact obj_put | (refine obj_old (by (first | omega | (simp only [Heap.alloc_next, Heap.put_next]; omega))) ?_) | (refine obj_else (by (first | omega | (simp only [Heap.alloc_next, Heap.put_next]; omega))) ?_) | (apply Gr.at; (· assumption); (· (first | omega | (simp only [Heap.alloc_next, Heap.put_next]; omega)))) | (apply Fr1.at; (· assumption); (· (first | omega | (simp only [Heap.alloc_next, Heap.put_next]; omega))); (· (first | omega | (simp only [Heap.alloc_next, Heap.put_next]; omega))))))); (· (first | (exact Nat.le_of_ble_eq_true rfl) | (simp; done) | omega)); (· rfl)) | (apply resultA_cellS; (· (first | rfl | assumption)); (· rfl); (· (repeat (first | assumption | (with_reducible rfl) | exact obj_new | exact obj_put | (refine obj_old (by (first | omega | (simp only [Heap.alloc_next, Heap.put_next]; omega))) ?_) | (refine obj_else (by (first | omega | (simp only [Heap.alloc_next, Heap.put_next]; omega))) ?_) | (apply Gr.at; (· assumption); (· (first | omega | (simp only [Heap.alloc_next, Heap.put_next]; omega)))) | (apply Fr1.at; (· assumption); (· (first | omega | (simp only [Heap.alloc_next, Heap.put_next]; omega))); (· (first | omega | (simp only [Heap.alloc_next, Heap.put_next]; omega))))))); (· rfl)))))); exact hq _
  · exfalso
    obtain ⟨_, _, kc, c1, c2⟩ := law (by omega) (by omega) (by omega)
    have d1 := congrArg List.length c1
    have d2 := congrArg List.length c2
    simp only [List.length_append, List.length_map] at d1 d2
    omega
  rotate_left
  · exfalso
    obtain ⟨c1, c2, _⟩ := law (by omega) (by omega) (by omega)
    exact hh ⟨c1, c2, trivial⟩
  obtain ⟨_, _, kc, c1, c2⟩ := law (by omega) (by omega) (by omega)
  clear law
  have G3 : Gr h3 h4 := (show Gr h3 _ from Wwgr).trans g4
  have G2 : Gr h2 h4 := ((show Gr h2 _ from Wwgr).trans g3).trans G3
  have o3 : h4.obj h3.next = some (.cells false (ncells tb b3 m3 es3)) := g4.at Wwne Wwobj
  have o2 : h4.obj h2.next = some (.cells false (ncells ta b2 m2 es2)) := G3.at Wwne (g3.at Wwne Wwobj)
  refine WC.loopInv hX (α := Nat) (m := fun i => m4 - i) (Inv := fun i v h' => v 5 = some (.pointer (some ⟨h2.next, 0, none⟩)) ∧ v 7 = some (.pointer (some ⟨h3.next, 0, none⟩)) ∧ v 64 = some (.slice b4 m4 es4) ∧ v 65 = some (.int .i64 m4) ∧ v 66 = some (.int .i64 i) ∧ i ≤ m4 ∧ Gr h4 h')
    0 ⟨rfl, rfl, rfl, rfl, rfl, by omega, Wwgr⟩ ?_
  clear g3 g4
  rintro i v h5 ih ⟨e5, e7, e64, e65, e66, hi, g5⟩
  have hn5 := g5.1
  by_cases him : i < m4
  rotate_left
  · refine QN hX ?_;refine QK (QF ?_ ?_);intro hh;exfalso;omega;intro hh;refine QL ?_;refine QU hX ?_;refine QS hX ?_;refine WC.exit ?_;refine exit_here ?_;refine QN hX ?_;refine QK (Qb ?_);refine QM ?_
    ((apply Exists.intro; apply And.intro; (· repeat (first | exact resultA_nil | (apply resultA_tmp; (· (first | rfl | assumption))) | (apply resultA_cellG; (· (first | rfl | assumption)); (· rfl); (· exact sz_at rfl); (· (repeat (first | assumption | (with_reducible rfl) | exact obj_new | exact obj_put | (refine obj_old (by (first | omega | (simp only [Heap.alloc_next, Heap.put_next]; omega))) ?_) | (refine obj_else (by (first | omega | (simp only [Heap.alloc_next, Heap.put_next]; omega))) ?_) | (apply Gr.at; (· assumption); (· (first | omega | (simp only [Heap.alloc_next, Heap.put_next]; omega)))) | (apply Fr1.at; (· assumption); (· (first | omega | (simp only [Heap.alloc_next, Heap.put_next]; omega))); (· (first | omega | (simp only [Heap.alloc_next, Heap.put_next]; omega))))))); (· (first | (exact Nat.le_of_ble_eq_true rfl) | (simp; done) | omega)); (· rfl)) | (apply resultA_cellS; (· (first | rfl | assumption)); (· rfl); (· (repeat (first | assumption | (with_reducible rfl) | exact obj_new | exact obj_put | (refine obj_old (by (first | omega | (simp only [Heap.alloc_next, Heap.put_next]; omega))) ?_) | (refine obj_else (by (first | omega | (simp only [Heap.alloc_next, Heap.put_next]; omega))) ?_) | (apply Gr.at; (· assumption); (· (first | omega | (simp only [Heap.alloc_next, Heap.put_next]; omega)))) | (apply Fr1.at; (· assumption); (· (first | omega | (simp only [Heap.alloc_next, Heap.put_next]; omega))); (· (first | omega | (simp only [Heap.alloc_next, Heap.put_next]; omega))))))); (· rfl)))))); exact hq _
  have hic : i < tc.kids.length := by omega
  have he := List.getElem?_eq_getElem hic
  obtain ⟨i4, cells4, rfl, _, rfl, _, hi4, ho4, hc4, hk4⟩ := kv4.kidsAt (by intro e; have := congrArg List.length e; simp only [List.length_nil] at this; omega)
  have ov4 := hk4 i _ he
  have sm4 := smC.kid he
  obtain ⟨b4', n4', es4', hd4⟩ := ov4.cells
  rw [hd4] at ov4
  have ho4' : h5.obj i4 = some (.cells false cells4) := g5.at hi4 ho4
  refine QN hX ?_;refine QK (QF ?_ ?_);intro hh;refine QL ?_;refine QU hX ?_;refine QR hX ?_;refine UA ?_;refine QU hX ?_;refine WC.block hX ?_;refine QN hX ?_;refine QK (Qa ?_);refine QK (Ql ?_);refine QK ?_;rotate_left;intro hh;exfalso;omega
  refine WS.loadG (vs := ncells tc.kids[i] b4' n4' es4') (hc := ?_) (hv' := ?_) (hk := ?_)
  (· rw [hc4]; omega); (· rw [show 0 + (i : Int).toNat * 7 = i * 7 by omega, hd4]; rfl)
  generalize tc.kids[i] = K at *
  by_cases hia : i < ta.kids.length
  · rw [c1, List.getElem?_append_left hia] at he
    obtain ⟨i2, cells2, rfl, _, rfl, _, hi2, ho2, hc2, hk2⟩ := kv2.kidsAt (by intro e; have := congrArg List.length e; simp only [List.length_nil] at this; omega)
    have ov2 := hk2 i _ he
    obtain ⟨b2', n2', es2', hd2⟩ := ov2.cells
    rw [hd2] at ov2
    have ho2' : h5.obj i2 = some (.cells false cells2) := (G2.trans g5).at hi2 ho2
    refine QK (Qw ?_);refine QK (Qb ?_);refine QK (Qv ?_);refine QL ?_;refine QU hX ?_;refine QN hX ?_;refine QK (Qa ?_);refine QK (Qj ?_);refine QK (Qt ?_);refine QK (Qs ?_);refine QK (QF ?_ ?_);intro hh;refine QQ hX ?_;refine QU hX ?_;refine QU hX ?_;refine WC.drawn (id := 16) hX (l := [⟨0, .read, 0⟩, ⟨1, .pure, 0⟩, ⟨2, .read, 2⟩, ⟨3, .pure, 0⟩, ⟨4, .pure, 14⟩, ⟨5, .read, 30⟩, ⟨6, .heavy, 63⟩, ⟨7, .pure, 127⟩]) (hw := ?_);refine QX (k := Qu ?_);refine QW (k := Qj ?_);refine QX (k := Qt ?_);refine QW (k := Qa ?_);refine QW (k := Ql ?_);refine WD.read (hw := ?_);rotate_left;intro hh;exfalso;omega
    refine WS.loadG (vs := ncells K b2' n2' es2') (hc := ?_) (hv' := ?_) (hk := ?_)
    (· rw [hc2]; omega); (· rw [show 0 + (i : Int).toNat * 7 = i * 7 by omega, hd2]; rfl)
    refine WD.heavy hX (hw := ?_)
    refine QJ en14 ?_
    refine same_w (N := 20000) (by omega) (ov4.gr (g5.trans Wwgr)) (ov2.gr (G2.trans (g5.trans Wwgr))) sm4 fun h6 r g6 hr => ?_
    have hr1 := hr.2 rfl
    subst hr1
    have G6 : Gr h5 h6 := (show Gr h5 _ from Wwgr).trans g6
    refine QW (k := Qe ?_);refine WD.nil (hq := ?_);refine QS hX ?_;refine UA ?_;refine WC.exit ?_;refine exit_here ?_;refine QV hX ?_;refine QK (Qf ?_);refine QK (Qa ?_);refine QL ?_
    exact ih (i + 1) _ _ (by omega) ⟨e5, e7, e64, e65, rfl, by omega, g5.trans G6⟩
  · have hj : i - ta.kids.length < kc.length := by rw [c1, List.length_append] at hic; omega
    have hl := congrArg List.length c2
    simp only [List.length_map] at hl
    rw [c1, List.getElem?_append_right (by omega)] at he
    have hjb := List.getElem?_eq_getElem (show i - ta.kids.length < tb.kids.length by omega)
    have hbar : bareN K = bareN tb.kids[i - ta.kids.length] := by
      have := congrArg (fun l => l[i - ta.kids.length]?) c2
      simp only [List.getElem?_map, he, hjb, Option.map_some, Option.some.injEq] at this
      exact this.symm
    obtain ⟨i3, cells3, rfl, _, rfl, _, hi3, ho3, hc3, hk3⟩ := kv3.kidsAt (by intro e; have := congrArg List.length e; simp only [List.length_nil] at this; omega)
    have ov3 := hk3 _ _ hjb
    have sm3 := smB.kid hjb
    obtain ⟨b3', n3', es3', hd3⟩ := ov3.cells
    rw [hd3] at ov3
    have hx : (0 + ((i : Int) - (m2 : Int)).toNat * 7) = (i - ta.kids.length) * 7 := by omega
    generalize tb.kids[i - ta.kids.length] = K3 at *
    have ho3' : h5.obj i3 = some (.cells false cells3) := (G3.trans g5).at hi3 ho3
    refine QK (Qw ?_);refine QK (Qb ?_);refine QK (Qv ?_);refine QL ?_;refine QU hX ?_;refine QN hX ?_;refine QK (Qa ?_);refine QK (Qj ?_);refine QK (Qt ?_);refine QK (Qs ?_);refine QK (QF ?_ ?_);intro hh;exfalso;omega;intro hh;refine QP hX ?_;refine UA ?_;refine QU hX ?_;refine WC.drawn (id := 18) hX (l := [⟨0, .read, 0⟩, ⟨2, .pure, 0⟩, ⟨3, .read, 4⟩, ⟨4, .pure, 0⟩, ⟨5, .pure, 0⟩, ⟨6, .read, 32⟩, ⟨7, .read, 96⟩, ⟨8, .pure, 240⟩, ⟨9, .pure, 508⟩, ⟨10, .read, 1020⟩, ⟨1, .heavy, 1⟩, ⟨11, .heavy, 2047⟩, ⟨12, .heavy, 4095⟩, ⟨13, .pure, 8191⟩]) (hw := ?_);refine QX (k := Qu ?_);refine QW (k := Qj ?_);refine QX (k := Qt ?_);refine QW (k := Qa ?_);refine QW (k := Qj ?_);refine QX (k := Qt ?_);refine QX (k := Qs ?_);refine QW (k := Qg ?_);refine QW (k := Ql ?_);refine WD.read (hw := ?_)
    refine WS.loadG (vs := ncells K3 b3' n3' es3') (hc := ?_) (hv' := ?_) (hk := ?_)
    (· rw [hc3]; omega); (· rw [hx, hd3]; rfl)
    refine WD.heavy hX (hw := ?_)
    refine QJ en17 ?_
    refine bare_w (N := 20000) (by omega) (ov4.gr (g5.trans Wwgr)) sm4 fun h6 b6 n6 es6 g6 kv6 => ?_
    have G6 : Gr h5 h6 := (show Gr h5 _ from Wwgr).trans g6
    have hn6 := G6.1
    refine WD.heavy hX (hw := ?_)
    refine QJ en17 ?_
    refine bare_w (N := 20000) (by omega) (ov3.gr (G3.trans (g5.trans (G6.trans Wwgr)))) sm3 fun h7 b7 n7 es7 g7 kv7 => ?_
    refine WD.heavy hX (hw := ?_)
    refine QJ en14 ?_
    refine same_w (N := 20000) (by omega) (kv6.gr Wwgr) kv7 sm4.bare fun h8 r g8 hr => ?_
    have hr1 := hr.2 hbar
    subst hr1
    have G8 : Gr h6 h8 := (show Gr h6 _ from Wwgr).trans g8
    refine QW (k := Qe ?_);refine WD.nil (hq := ?_);refine QS hX ?_;refine UA ?_;refine QV hX ?_;refine QK (Qf ?_);refine QK (Qa ?_);refine QL ?_
    exact ih (i + 1) _ _ (by omega) ⟨e5, e7, e64, e65, rfl, by omega, g5.trans (G6.trans G8)⟩

end Go.Proofs.ZL
