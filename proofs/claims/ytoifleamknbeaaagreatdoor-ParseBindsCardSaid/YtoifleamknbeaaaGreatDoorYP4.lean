/- The parser, fourth part: functions and statements. -/
import Derived.Test.YtoifleamknbeaaaGreatDoorYP3
section
open Go Go.Am
namespace Go.Proofs.ZL
set_option maxRecDepth 100000
set_option linter.unusedSimpArgs false
set_option linter.unusedVariables false
set_option maxHeartbeats 1000000


theorem function_w {r : Rec} {n : Nat} (hn : n ≤ 1000000) (c : Ctr r) : CK 76 (functionF n r) := by
 intro p L hd s h Q ps hq0
 have hp := ps.lt
 unfold functionF at hq0
 refine WCall.walk hX Tryz.func76 rfl rfl Tryz.ntmps76 rfl ?_
 refine QN hX ?_;refine QK (Qb ?_);refine QO hX ?_;refine QK (Qa ?_);refine QK ?_
 refine QJ en53 ?_
 refine want_w (hd := hd) Wwps (EndN.use Wwfr hq0 (fun _ _ x => x) fun tk1 s1 h1 v1 ps1 fr1 hv1 hq1 => ?_)
 subst hv1
 have hn1 := fr1.1; (try simp only [UB, UC] at hn1)
 refine QK ?_
 refine QJ en74 ?_
 refine node_w fun h2 g2 => ?_
 have hn2 := g2.1; (try simp only [UB, UC] at hn2)
 refine QK (Qw ?_);refine QK (Qv ?_);refine QL ?_;refine QU hX ?_;refine WC.block hX ?_
 refine WC.loopInv hX (α := Nat × List Nd × St) (m := fun a => a.1) (Inv := fun a e h' => e 0 = some (pV p) ∧ e 3 = some (.pointer (some ⟨h2.next, 0, none⟩)) ∧ PSt h' p L hd a.2.2 ∧ Fr1 p h h' ∧
  h2.next < h'.next ∧ a.1 + a.2.1.length ≤ n ∧ (∃ b n es, h'.obj h2.next = some (.cells false (ncells (nd 6 tk1 (⟨#[]⟩ : ByteArray) a.2.1) b n es)) ∧ KV h' (fun j => h2.next < j) b n es a.2.1) ∧
  EndN (VK fun j => h.next ≤ j) p L hd h Q ((untilR L [(⟨#[41]⟩ : ByteArray)] (fun kids s => (sepR L s kids.isEmpty).then fun _ s => (nameR L s).then fun x s => (r.typ L hd s).then fun y s => .ok (kids ++ [nd 7 x x.text [y]]) s) a.1 a.2.1 a.2.2).then fun kids s =>
   (if isR L s.next [(⟨#[123]⟩ : ByteArray)] then .ok noneN s.next else r.typ L hd s.next).then fun result s => (r.block L false s).then fun b s => .ok [nd 6 tk1 (⟨#[]⟩ : ByteArray) kids, result, b] s))
  (n, [], s1) ⟨rfl, rfl, Wwps, Wwfr, Wwne, by simp, ⟨none, 0, 0, Wwobj, KV.nil _ _⟩, hq1⟩ ?_
 rintro ⟨m, kids, s5⟩ env h5 ih ⟨e0, e3, ps5, fr5, hn5, hm5, ⟨b5, n5, es5, hk5, kv5⟩, hq5⟩
 simp only at ps5 hm5 hk5 kv5 hq5
 have hnn5 := fr5.1
 obtain ⟨m, rfl⟩ : ∃ m', m = m' + 1 := by
  cases m with
  | zero => exact hq5.elim
  | succ m => exact ⟨m, rfl⟩
 unfold untilR at hq5
 have hl5 := kv5.len
 refine QU hX ?_;refine QN hX ?_;refine QK (Qa ?_);refine QK (Qy ?_);refine QK ?_
 refine QJ en71 ?_
 refine is_w (L := L) (hd := hd) (s := s5) (ts := [(⟨#[41]⟩ : ByteArray)]) Wwps Wwobj Wwne rfl (by first | decide | simp) fun h6 g6 => ?_
 have hn6 := g6.1; (try simp only [UB, UC] at hn6)
 cases hb6 : isR L s5 [(⟨#[41]⟩ : ByteArray)]
 ·rw [hb6, if_neg Bool.false_ne_true] at hq5
  simp only [R.then_assoc] at hq5
  unfold sepR at hq5
  refine QK (Qe ?_);refine QQ hX ?_;refine UA ?_;refine WC.block hX ?_;refine QU hX ?_;refine QN hX ?_;refine QK (Qj ?_);refine QK (Qt ?_);refine QK (Qs ?_);refine QK (QH ?_ ?_);intro hh;refine QQ hX ?_;refine QV hX ?_;refine QK (Qa ?_);refine QK ?_;rotate_left;intro hh;refine QP hX ?_;refine UA ?_;refine QN hX ?_;refine QK (Qa ?_);refine QK ?_;rotate_left
  ·have he : kids.isEmpty = false := by
    cases kids with
    | nil => simp at hl5; omega
    | cons a l => rfl
   rw [he, if_neg Bool.false_ne_true, R.then_assoc] at hq5
   refine QJ en53 ?_
   refine want_w (hd := hd) Wwps (EndN.use Wwfr hq5 (fun _ _ x => x) fun tk7 s7 h7 v7 ps7 fr7 hv7 hq7 => ?_)
   subst hv7
   have hn7 := fr7.1; (try simp only [UB, UC] at hn7)
   (try simp only [R.then_ok] at hq7)
   refine QO hX ?_;refine QK (Qa ?_);refine QK ?_
   refine QJ en73 ?_
   refine name_w (hd := hd) Wwps (EndN.use Wwfr hq7 (fun _ _ x => x) fun tk20 s20 h20 v20 ps20 fr20 hv20 hq20 => ?_)
   subst hv20
   have hn20 := fr20.1; (try simp only [UB, UC] at hn20)
   refine QK (Qw ?_);refine QK (Qv ?_);refine QL ?_;refine WC.drawn (id := 6) hX (l := [⟨0, .pure, 0⟩, ⟨1, .read, 1⟩, ⟨2, .read, 0⟩, ⟨3, .pure, 0⟩, ⟨4, .read, 8⟩, ⟨5, .pure, 0⟩, ⟨6, .heavy, 32⟩, ⟨7, .alloc, 96⟩, ⟨8, .heavy, 252⟩, ⟨9, .alloc, 508⟩, ⟨10, .heavy, 1023⟩, ⟨11, .pure, 2047⟩, ⟨12, .heavy, 4095⟩]) (hw := ?_);refine QW (k := Qj ?_);refine QX (k := Qt ?_);refine QX (k := Qu ?_);refine QW (k := Qj ?_);refine QX (k := Qt ?_);refine QW (k := Qa ?_);refine WD.heavy hX (hw := ?_)
   refine QJ en75 ?_
   refine c.typ Wwps (EndN.use Wwfr hq20 (fun _ _ x => x) fun t8 s8 h8 v8 ps8 fr8 hv8 hq8 => ?_)
   obtain ⟨b8, n8, es8, rfl, kv8⟩ := hv8
   have hn8 := fr8.1; (try simp only [UB, UC] at hn8)
   (try simp only [R.then_ok] at hq8)
   refine WD.alloc (hw := Qz ?_);refine WD.heavy hX (hw := ?_)
   refine QJ en74 ?_
   refine node_w fun h22 g22 => ?_
   have hn22 := g22.1; (try simp only [UB, UC] at hn22)
   refine WD.alloc (hw := Qz ?_);refine WD.heavy hX (hw := ?_)
   have kvH := kv5.mono (S' := fun j => h2.next < j) (h' := (h22).alloc (.cells false (ncells (nd 7 tk20 tk20.text [t8]) (some ⟨h8.next, 0, none⟩) 1 7))) Wwne (fun j hS hj => ⟨Wwne, Wwag⟩)
   have hbne := kvH.ne
   obtain ⟨old, hsa, hol, hold⟩ := kvH.sliceAt
   have hol2 : kids.length ≤ 1000000 := by omega
   apply WS.append
   (· rfl); (· rfl); (· exact Wwev); (· exact Wwev); (· rfl); (· rfl); (· intro k hk; cases hk); (· exact fits_at rfl); (· decide); (· exact Wwobj); (· exact Wwlen); (· rfl); (· unfold room; omega); (· rfl); (· exact hsa)
   intro h9 hn9 ho9 hf9
   simp only [UB, UC] at hn9 ho9 hf9
   have hk9 : ∀ j, j ≤ h2.next → h9.obj j = ((h22).alloc (.cells false (ncells (nd 7 tk20 tk20.text [t8]) (some ⟨h8.next, 0, none⟩) 1 7))).obj j := fun j hj => hf9 j (by omega) (hbne j hj)
   have fr9 : Fr1 p h h9 := Fr1.keep (H := (h22).alloc (.cells false (ncells (nd 7 tk20 tk20.text [t8]) (some ⟨h8.next, 0, none⟩) 1 7))) Wwfr Wwne fun j hj => hk9 j (by omega)
   have kv9 : KV h9 (fun j => h2.next < j) (some ⟨(h22).next + 1, 0, none⟩) (n5 + 1) 7 (kids ++ [(nd 7 tk20 tk20.text [t8])]) := KV.snoc (h := (h22).alloc (.cells false (ncells (nd 7 tk20 tk20.text [t8]) (some ⟨h8.next, 0, none⟩) 1 7))) (S2 := fun j => h5.next ≤ j ∧ j < (h22).next) hol (by omega) hold (NV.of_kids (KV.one (S := fun j => h5.next ≤ j ∧ j < h8.next) Wwne Wwne Wwobj (kv8.mono Wwne (fun j hS hj => by (try simp only [UB, UC] at hS); exact ⟨⟨Wwne, hj⟩, Wwag⟩)) (fun j hS hj => ⟨⟨hS.1, by have := hS.2; exact Wwne⟩, by have := hS.2; exact Wwne⟩)) _ _ _ _ _ _) Wwne ho9 hf9 Wwne (fun x hx _ => by omega) (fun x hx hlt => ⟨by have := hx.1; omega, kv5.ge x hx.1⟩)
   have ps9 : PSt h9 p L hd s8 := PSt.keep (h := h22.alloc (.cells false (ncells (nd 7 tk20 tk20.text [t8]) (some ⟨h8.next, 0, none⟩) 1 7))) Wwps Wwne fun j hj => hk9 j (by omega)
   have ho9b : h9.obj h2.next = some (.cells false (ncells (nd 6 tk1 (⟨#[]⟩ : ByteArray) kids) b5 n5 es5)) := (hk9 _ (by omega)).trans Wwobj
   refine QW (k := Qj ?_);refine WD.heavy hX (hw := Qv ?_);refine WD.nil (hq := ?_)
   exact ih (m, kids ++ [nd 7 tk20 tk20.text [t8]], s8) _ _ (by simp) ⟨e0, e3, Wwps, Wwfr, Wwne, by simp; omega, ⟨_, _, _, Wwobj, kv9.mono Wwne (fun j hS hj => by (try simp only [UB, UC] at hS); exact ⟨Wwne, Wwag⟩)⟩, hq8⟩
  ·have he : kids.isEmpty = true := by
    cases kids with
    | nil => rfl
    | cons a l => simp at hl5; omega
   rw [he, if_pos rfl, R.then_ok] at hq5
   skip
   refine QJ en73 ?_
   refine name_w (hd := hd) Wwps (EndN.use Wwfr hq5 (fun _ _ x => x) fun tk20 s20 h20 v20 ps20 fr20 hv20 hq20 => ?_)
   subst hv20
   have hn20 := fr20.1; (try simp only [UB, UC] at hn20)
   refine QK (Qw ?_);refine QK (Qv ?_);refine QL ?_;refine WC.drawn (id := 6) hX (l := [⟨0, .pure, 0⟩, ⟨1, .read, 1⟩, ⟨2, .read, 0⟩, ⟨3, .pure, 0⟩, ⟨4, .read, 8⟩, ⟨5, .pure, 0⟩, ⟨6, .heavy, 32⟩, ⟨7, .alloc, 96⟩, ⟨8, .heavy, 252⟩, ⟨9, .alloc, 508⟩, ⟨10, .heavy, 1023⟩, ⟨11, .pure, 2047⟩, ⟨12, .heavy, 4095⟩]) (hw := ?_);refine QW (k := Qj ?_);refine QX (k := Qt ?_);refine QX (k := Qu ?_);refine QW (k := Qj ?_);refine QX (k := Qt ?_);refine QW (k := Qa ?_);refine WD.heavy hX (hw := ?_)
   refine QJ en75 ?_
   refine c.typ Wwps (EndN.use Wwfr hq20 (fun _ _ x => x) fun t8 s8 h8 v8 ps8 fr8 hv8 hq8 => ?_)
   obtain ⟨b8, n8, es8, rfl, kv8⟩ := hv8
   have hn8 := fr8.1; (try simp only [UB, UC] at hn8)
   (try simp only [R.then_ok] at hq8)
   refine WD.alloc (hw := Qz ?_);refine WD.heavy hX (hw := ?_)
   refine QJ en74 ?_
   refine node_w fun h22 g22 => ?_
   have hn22 := g22.1; (try simp only [UB, UC] at hn22)
   refine WD.alloc (hw := Qz ?_);refine WD.heavy hX (hw := ?_)
   have kvH := kv5.mono (S' := fun j => h2.next < j) (h' := (h22).alloc (.cells false (ncells (nd 7 tk20 tk20.text [t8]) (some ⟨h8.next, 0, none⟩) 1 7))) Wwne (fun j hS hj => ⟨Wwne, Wwag⟩)
   have hbne := kvH.ne
   obtain ⟨old, hsa, hol, hold⟩ := kvH.sliceAt
   have hol2 : kids.length ≤ 1000000 := by omega
   apply WS.append
   (· rfl); (· rfl); (· exact Wwev); (· exact Wwev); (· rfl); (· rfl); (· intro k hk; cases hk); (· exact fits_at rfl); (· decide); (· exact Wwobj); (· exact Wwlen); (· rfl); (· unfold room; omega); (· rfl); (· exact hsa)
   intro h9 hn9 ho9 hf9
   simp only [UB, UC] at hn9 ho9 hf9
   have hk9 : ∀ j, j ≤ h2.next → h9.obj j = ((h22).alloc (.cells false (ncells (nd 7 tk20 tk20.text [t8]) (some ⟨h8.next, 0, none⟩) 1 7))).obj j := fun j hj => hf9 j (by omega) (hbne j hj)
   have fr9 : Fr1 p h h9 := Fr1.keep (H := (h22).alloc (.cells false (ncells (nd 7 tk20 tk20.text [t8]) (some ⟨h8.next, 0, none⟩) 1 7))) Wwfr Wwne fun j hj => hk9 j (by omega)
   have kv9 : KV h9 (fun j => h2.next < j) (some ⟨(h22).next + 1, 0, none⟩) (n5 + 1) 7 (kids ++ [(nd 7 tk20 tk20.text [t8])]) := KV.snoc (h := (h22).alloc (.cells false (ncells (nd 7 tk20 tk20.text [t8]) (some ⟨h8.next, 0, none⟩) 1 7))) (S2 := fun j => h5.next ≤ j ∧ j < (h22).next) hol (by omega) hold (NV.of_kids (KV.one (S := fun j => h5.next ≤ j ∧ j < h8.next) Wwne Wwne Wwobj (kv8.mono Wwne (fun j hS hj => by (try simp only [UB, UC] at hS); exact ⟨⟨Wwne, hj⟩, Wwag⟩)) (fun j hS hj => ⟨⟨hS.1, by have := hS.2; exact Wwne⟩, by have := hS.2; exact Wwne⟩)) _ _ _ _ _ _) Wwne ho9 hf9 Wwne (fun x hx _ => by omega) (fun x hx hlt => ⟨by have := hx.1; omega, kv5.ge x hx.1⟩)
   have ps9 : PSt h9 p L hd s8 := PSt.keep (h := h22.alloc (.cells false (ncells (nd 7 tk20 tk20.text [t8]) (some ⟨h8.next, 0, none⟩) 1 7))) Wwps Wwne fun j hj => hk9 j (by omega)
   have ho9b : h9.obj h2.next = some (.cells false (ncells (nd 6 tk1 (⟨#[]⟩ : ByteArray) kids) b5 n5 es5)) := (hk9 _ (by omega)).trans Wwobj
   refine QW (k := Qj ?_);refine WD.heavy hX (hw := Qv ?_);refine WD.nil (hq := ?_)
   exact ih (m, kids ++ [nd 7 tk20 tk20.text [t8]], s8) _ _ (by simp) ⟨e0, e3, Wwps, Wwfr, Wwne, by simp; omega, ⟨_, _, _, Wwobj, kv9.mono Wwne (fun j hS hj => by (try simp only [UB, UC] at hS); exact ⟨Wwne, Wwag⟩)⟩, hq8⟩
 ·rw [hb6, if_pos rfl] at hq5
  rw [R.then_ok] at hq5
  refine QK (Qe ?_);refine QP hX ?_;refine WC.exit ?_;refine exit_here ?_;refine QN hX ?_;refine QK (Qa ?_);refine QK ?_
  refine QJ en72 ?_
  refine take_w (L := L) (hd := hd) (s := s5) Wwps (ps5.wf.is ps5.at_ hb6) fun h7 ps7 fr7 => ?_
  have hn7 := fr7.1; (try simp only [UB, UC] at hn7)
  refine QO hX ?_;refine QK ?_
  refine QJ en78 ?_
  refine none_w fun h10 g10 => ?_
  have hn10 := g10.1; (try simp only [UB, UC] at hn10)
  refine QK (Qw ?_);refine QK (Qv ?_);refine QL ?_;refine QU hX ?_;refine QN hX ?_;refine QK (Qa ?_);refine QK (Qy ?_);refine QK ?_
  refine QJ en71 ?_
  refine is_w (L := L) (hd := hd) (s := s5.next) (ts := [(⟨#[123]⟩ : ByteArray)]) Wwps Wwobj Wwne rfl (by first | decide | simp) fun h11 g11 => ?_
  have hn11 := g11.1; (try simp only [UB, UC] at hn11)
  cases hb11 : isR L s5.next [(⟨#[123]⟩ : ByteArray)]
  ·rw [hb11, if_neg Bool.false_ne_true] at hq5
   refine QK (Qe ?_);refine QQ hX ?_;refine QV hX ?_;refine QK (Qa ?_);refine QK ?_
   refine QJ en75 ?_
   refine c.typ Wwps (EndN.use Wwfr hq5 (fun _ _ x => x) fun t12 s12 h12 v12 ps12 fr12 hv12 hq12 => ?_)
   obtain ⟨b12, n12, es12, rfl, kv12⟩ := hv12
   have hn12 := fr12.1; (try simp only [UB, UC] at hn12)
   refine QK (Qv ?_);refine QL ?_;refine QU hX ?_;refine WC.drawn (id := 11) hX (l := [⟨0, .read, 0⟩, ⟨1, .read, 0⟩, ⟨2, .pure, 0⟩, ⟨3, .pure, 0⟩, ⟨4, .pure, 8⟩, ⟨5, .heavy, 28⟩, ⟨6, .alloc, 63⟩, ⟨7, .pure, 127⟩]) (hw := ?_);refine QX (k := Qu ?_);refine QX (k := Qu ?_);refine QW (k := Qa ?_);refine QW (k := Qa ?_);refine QW (k := Qp ?_);refine WD.heavy hX (hw := ?_)
   refine QJ en87 ?_
   refine within_w (hd := hd) (hd' := false) (spec := r.block L false s12) Wwps en88 (fun {h30 Q30} ps30 fr30 hq30 => c.block ps30 hq30) (EndN.use Wwfr hq12 (fun _ _ x => x) fun t30 s30 h30 v30 ps30 fr30 hv30 hq30 => ?_)
   obtain ⟨b30, n30, es30, rfl, kv30⟩ := hv30
   have hn30 := fr30.1; (try simp only [UB, UC] at hn30)
   refine WD.alloc (hw := Qz ?_);refine QW (k := Qb ?_);refine WD.nil (hq := ?_);refine WC.ret ?_
   refine ⟨_, Wwres, ?_⟩
   refine hq30 _ _ Wwps Wwfr ⟨_, _, _, rfl, ?_⟩
   apply KV.of3  (S := fun j => h.next ≤ j ∧ j < h30.next)
   (· exact Wwobj); (· rfl); (· exact Wwne); (· exact Wwne); (· exact NV.of_kids (kv5.mono Wwne (fun j hS hj => by (try simp only [UB, UC] at hS); exact ⟨⟨Wwne, Wwne⟩, Wwag⟩)) _ _ _ _ _ _); (· exact (kv12.mono Wwne (fun j hS hj => by (try simp only [UB, UC] at hS); exact ⟨⟨Wwne, Wwne⟩, Wwag⟩))); (· exact (kv30.mono Wwne (fun j hS hj => by (try simp only [UB, UC] at hS); exact ⟨⟨Wwne, Wwne⟩, Wwag⟩))); (· exact fun j hS hj => ⟨hS.1, by have := hS.2; exact Wwne⟩)
  ·rw [hb11, if_pos rfl] at hq5
   rw [R.then_ok] at hq5
   refine QK (Qe ?_);refine QP hX ?_;refine UA ?_;refine QU hX ?_;refine WC.drawn (id := 11) hX (l := [⟨0, .read, 0⟩, ⟨1, .read, 0⟩, ⟨2, .pure, 0⟩, ⟨3, .pure, 0⟩, ⟨4, .pure, 8⟩, ⟨5, .heavy, 28⟩, ⟨6, .alloc, 63⟩, ⟨7, .pure, 127⟩]) (hw := ?_);refine QX (k := Qu ?_);refine QX (k := Qu ?_);refine QW (k := Qa ?_);refine QW (k := Qa ?_);refine QW (k := Qp ?_);refine WD.heavy hX (hw := ?_)
   refine QJ en87 ?_
   refine within_w (hd := hd) (hd' := false) (spec := r.block L false s5.next) Wwps en88 (fun {h30 Q30} ps30 fr30 hq30 => c.block ps30 hq30) (EndN.use Wwfr hq5 (fun _ _ x => x) fun t30 s30 h30 v30 ps30 fr30 hv30 hq30 => ?_)
   obtain ⟨b30, n30, es30, rfl, kv30⟩ := hv30
   have hn30 := fr30.1; (try simp only [UB, UC] at hn30)
   refine WD.alloc (hw := Qz ?_);refine QW (k := Qb ?_);refine WD.nil (hq := ?_);refine WC.ret ?_
   refine ⟨_, Wwres, ?_⟩
   refine hq30 _ _ Wwps Wwfr ⟨_, _, _, rfl, ?_⟩
   apply KV.of3 (b2 := none) (n2 := 0) (es2 := 0) (S := fun j => h.next ≤ j ∧ j < h30.next)
   (· exact Wwobj); (· rfl); (· exact Wwne); (· exact Wwne); (· exact NV.of_kids (kv5.mono Wwne (fun j hS hj => by (try simp only [UB, UC] at hS); exact ⟨⟨Wwne, Wwne⟩, Wwag⟩)) _ _ _ _ _ _); (· exact (NV.none _ _)); (· exact (kv30.mono Wwne (fun j hS hj => by (try simp only [UB, UC] at hS); exact ⟨⟨Wwne, Wwne⟩, Wwag⟩))); (· exact fun j hS hj => ⟨hS.1, by have := hS.2; exact Wwne⟩)

theorem stmts_w {r : Rec} {n : Nat} (hn : n ≤ 1000000) (c : Ctr r) : CK 93 (stmtsF n r) := by
 intro p L hd s h Q ps hq0
 have hp := ps.lt
 unfold stmtsF at hq0
 refine WCall.walk hX Tryz.func93 rfl rfl Tryz.ntmps93 rfl ?_
 refine QN hX ?_;refine QK (Qb ?_);refine QO hX ?_;refine QK (Qb ?_);refine QL ?_;refine WC.block hX ?_
 refine WC.loopInv hX (α := Nat × List Nd × St) (m := fun a => a.1) (Inv := fun a e h' => e 0 = some (pV p) ∧ PSt h' p L hd a.2.2 ∧ Fr1 p h h' ∧
  a.1 + a.2.1.length ≤ n ∧ (∃ b n es, e 3 = some (.slice b n es) ∧ KV h' (fun j => h.next ≤ j) b n es a.2.1) ∧
  EndN (VK fun j => h.next ≤ j) p L hd h Q (stmtsGo r L hd a.1 a.2.1 a.2.2))
  (n, [], s) ⟨rfl, Wwps, Wwfr, by simp, ⟨none, 0, 0, rfl, KV.nil _ _⟩, hq0⟩ ?_
 rintro ⟨m, kids, s5⟩ env h5 ih ⟨e0, ps5, fr5, hm5, ⟨b5, n5, es5, e3, kv5⟩, hq5⟩
 simp only at ps5 hm5 kv5 hq5
 have hnn5 := fr5.1
 obtain ⟨m, rfl⟩ : ∃ m', m = m' + 1 := by
  cases m with
  | zero => exact hq5.elim
  | succ m => exact ⟨m, rfl⟩
 unfold stmtsGo at hq5
 have hl5 := kv5.len
 refine WC.block hX ?_;refine QU hX ?_;refine QN hX ?_;refine QK (Qa ?_);refine QK ?_
 refine QJ en104 ?_
 refine got_w (L := L) (hd := hd) (s := s5) Wwps fun h6 ps6 fr6 => ?_
 have hn6 := fr6.1; (try simp only [UB, UC] at hn6)
 unfold gotS at ps6
 cases hb6 : isR L s5 [(⟨#[59]⟩ : ByteArray)]
 ·rw [hb6, if_neg Bool.false_ne_true] at ps6 hq5
  refine QP hX ?_;refine UA ?_;refine QU hX ?_;refine QN hX ?_;refine QK (Qa ?_);refine QK (Qy ?_);refine QK ?_
  refine QJ en71 ?_
  refine is_w (L := L) (hd := hd) (s := s5) (ts := endTexts) Wwps Wwobj Wwne rfl (by first | decide | simp) fun h7 g7 => ?_
  have hn7 := g7.1; (try simp only [UB, UC] at hn7)
  cases hb7 : isR L s5 endTexts
  ·rw [hb7, if_neg Bool.false_ne_true] at hq5
   refine QP hX ?_;refine UA ?_;refine QN hX ?_;refine QK (Qa ?_);refine QK (Qa ?_);refine QK ?_
   refine QJ en105 ?_
   refine c.stmt Wwps (EndN.use Wwfr hq5 (fun _ _ x => x) fun t8 s8 h8 v8 ps8 fr8 hv8 hq8 => ?_)
   obtain ⟨b8, n8, es8, rfl, kv8⟩ := hv8
   have hn8 := fr8.1; (try simp only [UB, UC] at hn8)
   refine QK (Qz ?_);refine QK ?_
   have kvH := kv5.mono (S' := fun j => (h.next - 1) < j) (h' := (h8).alloc (.cells false (ncells t8 b8 n8 es8))) Wwne (fun j hS hj => ⟨Wwne, Wwag⟩)
   have hbne := kvH.ne
   obtain ⟨old, hsa, hol, hold⟩ := kvH.sliceAt
   have hol2 : kids.length ≤ 1000000 := by omega
   apply WS.append
   (· rfl); (· rfl); (· exact Wwev); (· exact Wwev); (· rfl); (· rfl); (· intro k hk; cases hk); (· exact fits_at rfl); (· decide); (· exact Wwobj); (· exact Wwlen); (· rfl); (· unfold room; omega); (· rfl); (· exact hsa)
   intro h9 hn9 ho9 hf9
   simp only [UB, UC] at hn9 ho9 hf9
   have hk9 : ∀ j, j ≤ (h.next - 1) → h9.obj j = ((h8).alloc (.cells false (ncells t8 b8 n8 es8))).obj j := fun j hj => hf9 j (by omega) (hbne j hj)
   have fr9 : Fr1 p h h9 := Fr1.keep (H := (h8).alloc (.cells false (ncells t8 b8 n8 es8))) Wwfr Wwne fun j hj => hk9 j (by omega)
   have kv9 : KV h9 (fun j => (h.next - 1) < j) (some ⟨(h8).next + 1, 0, none⟩) (n5 + 1) 7 (kids ++ [t8]) := KV.snoc (h := (h8).alloc (.cells false (ncells t8 b8 n8 es8))) (S2 := fun j => h5.next ≤ j ∧ j < (h8).next) hol (by omega) hold (kv8.mono Wwne (fun j hS hj => by (try simp only [UB, UC] at hS); exact ⟨⟨Wwne, Wwne⟩, Wwag⟩)) Wwne ho9 hf9 Wwne (fun x hx _ => by omega) (fun x hx hlt => ⟨by have := hx.1; omega, kv5.ge x hx.1⟩)
   have ps9 : PSt h9 p L hd s8 := PSt.keep (h := h8.alloc (.cells false (ncells t8 b8 n8 es8))) Wwps Wwne fun j hj => hk9 j (by omega)
   refine QK (Qb ?_);refine QO hX ?_;refine QK (Qa ?_);refine QK (Qy ?_);refine QK ?_
   refine QJ en71 ?_
   refine is_w (L := L) (hd := hd) (s := s8) (ts := endTexts) Wwps Wwobj Wwne rfl (by first | decide | simp) fun h30 g30 => ?_
   have hn30 := g30.1; (try simp only [UB, UC] at hn30)
   cases hb30 : isR L s8 endTexts
   ·rw [hb30, if_neg Bool.false_ne_true] at hq8
    rw [R.then_assoc] at hq8
    refine QK (Qe ?_);refine QQ hX ?_;refine QV hX ?_;refine QK (Qa ?_);refine QK ?_
    refine QJ en53 ?_
    refine want_w (hd := hd) Wwps (EndN.use Wwfr hq8 (fun _ _ x => x) fun tk31 s31 h31 v31 ps31 fr31 hv31 hq31 => ?_)
    subst hv31
    have hn31 := fr31.1; (try simp only [UB, UC] at hn31)
    (try simp only [R.then_ok] at hq31)
    refine QL ?_
    exact ih (m, kids ++ [t8], s31) _ _ (by simp) ⟨e0, Wwps, Wwfr, by simp; omega, ⟨_, _, _, rfl, kv9.mono Wwne (fun j hS hj => by (try simp only [UB, UC] at hS); exact ⟨Wwne, Wwag⟩)⟩, hq31⟩
   ·rw [hb30, if_pos rfl] at hq8
    rw [R.then_ok] at hq8
    refine QK (Qe ?_);refine QP hX ?_;refine UA ?_
    exact ih (m, kids ++ [t8], s8) _ _ (by simp) ⟨e0, Wwps, Wwfr, by simp; omega, ⟨_, _, _, rfl, kv9.mono Wwne (fun j hS hj => by (try simp only [UB, UC] at hS); exact ⟨Wwne, Wwag⟩)⟩, hq8⟩
  ·rw [hb7, if_pos rfl] at hq5
   refine QQ hX ?_;refine QN hX ?_;refine QK (Qa ?_);refine QK (Qb ?_);refine QM ?_
   refine ⟨_, Wwres, ?_⟩
   exact hq5 _ _ Wwps Wwfr ⟨_, _, _, rfl, kv5.mono Wwne (fun j hS hj => by (try simp only [UB, UC] at hS); exact ⟨Wwne, Wwag⟩)⟩
 ·rw [hb6, if_pos rfl] at ps6 hq5
  refine QQ hX ?_;refine WC.exit ?_;refine exit_here ?_
  exact ih (m, kids, s5.next) _ _ (by simp) ⟨e0, Wwps, Wwfr, by simp; omega, ⟨_, _, _, e3, kv5.mono Wwne (fun j hS hj => by (try simp only [UB, UC] at hS); exact ⟨Wwne, Wwag⟩)⟩, hq5⟩

end Go.Proofs.ZL
end

section
open Go Go.Am
namespace Go.Proofs.ZL
set_option maxRecDepth 100000
set_option linter.unusedSimpArgs false
set_option linter.unusedVariables false
set_option maxHeartbeats 1000000

def RestI (p : Nat) (L : List Tok) (hd : Bool) (s : St) (h : Heap) (c : List Value) (bare : Bool) (tk : Tok) (n1 x : Nat) (b : Bool) (e : Env) (h' : Heap) : Prop :=
 e x = some (.bool b) ∧ e 0 = some (pV p) ∧ e 2 = some (.bool bare) ∧ e 4 = some (.pointer (some ⟨h.next, 0, none⟩)) ∧ e 6 = some (.pointer (some ⟨h.next + 1, 0, none⟩)) ∧ e 7 = some (.pointer (some ⟨n1, 0, none⟩)) ∧
  PSt h' p L hd s ∧ Fr1 p h h' ∧ h'.obj h.next = some (.cells false c) ∧ h'.obj (h.next + 1) = some (.cells false [.int .i64 0, .string .empty, .int .i64 0, .int .i64 0, .string .empty, .int .i64 0, .slice none 0 0]) ∧ h'.obj n1 = some (.cells false tk.cells) ∧ n1 < h'.next ∧ h.next + 1 < n1

theorem rest_w {r : Rec} (c : Ctr r) {tn : Nd} {bn : Option Addr} {nn esn lo hi : Nat} {bare : Bool} {p : Nat} {L : List Tok} {hd : Bool} {s : St} {h : Heap} {Q : ARes → Prop} (ps : PSt h p L hd s) (hlo : lo ≤ h.next) (hpl : p < lo) (hhi : hi ≤ h.next) (kvn : NV h (fun j => lo ≤ j ∧ j < hi) (ncells tn bn nn esn) tn)
  (hq0 : EndN (VN (fun j => lo ≤ j ∧ (j < hi ∨ h.next ≤ j))) p L hd h Q (restF r tn bare L hd s)) : WCall Tryz.prog G X 144 [pV p, .agg (ncells tn bn nn esn).toArray, .bool bare] h Q := by
 have hp := ps.lt
 unfold restF at hq0
 refine WCall.walk hX Tryz.func144 rfl rfl Tryz.ntmps144 rfl ?_
 refine QN hX ?_;refine QK (Qx ?_);refine QK (Qw ?_);refine QO hX ?_;refine QK (Qa ?_);refine QK ?_
 refine QJ en51 ?_
 refine peek_w (L := L) (hd := hd) (s := s) Wwps fun h1 g1 => ?_
 have hn1 := g1.1; (try simp only [UB, UC] at hn1)
 simp only at hq0
 have hm : isR L s [(⟨#[58, 61]⟩ : ByteArray)] = true → s.k + 1 < L.length := ps.wf.is ps.at_
 have hm2 : isR L s [(⟨#[61]⟩ : ByteArray), (⟨#[43, 61]⟩ : ByteArray), (⟨#[45, 61]⟩ : ByteArray), (⟨#[42, 61]⟩ : ByteArray)] = true → s.k + 1 < L.length := ps.wf.is ps.at_
 have hm3 : isR L s [(⟨#[43, 43]⟩ : ByteArray), (⟨#[45, 45]⟩ : ByteArray)] = true → s.k + 1 < L.length := ps.wf.is ps.at_
 have hm4 : isR L s [(⟨#[60, 45]⟩ : ByteArray)] = true → s.k + 1 < L.length := ps.wf.is ps.at_
 generalize tokAt L s.k = tk at *
 refine QK (Qw ?_);refine QK (Qv ?_);refine QL ?_;refine QU hX ?_;refine WC.block hX ?_;refine QU hX ?_
 refine WC.cut (N' := RestI p L hd s h (ncells tn bn nn esn) bare tk h1.next 12 (isR L s [(⟨#[58, 61]⟩ : ByteArray)] && decide (tn.kind = 40) && !bare)) ?_ ?_
 ·refine QV hX ?_;refine QK (Qa ?_);refine QK (Qy ?_);refine QK ?_
  refine QJ en71 ?_
  refine is_w (L := L) (hd := hd) (s := s) (ts := [(⟨#[58, 61]⟩ : ByteArray)]) Wwps Wwobj Wwne rfl (by first | decide | simp) fun h2 g2 => ?_
  have hn2 := g2.1; (try simp only [UB, UC] at hn2)
  cases hb2 : isR L s [(⟨#[58, 61]⟩ : ByteArray)]
  ·refine QK (Qa ?_);refine QK (QA ?_);refine QK (QA ?_);refine QK (QA ?_);refine QK (Qd ?_);refine QK (Qa ?_);refine QK (QA ?_);refine QK (QA ?_);refine QK (Qd ?_);refine QK (Qb ?_);refine QL ?_
   exact ⟨by simp [*, upd], Wwev, Wwev, Wwev, Wwev, Wwev, Wwps, Wwfr, Wwobj, Wwobj, Wwobj, Wwne, Wwne⟩
  ·refine QK (Qa ?_);refine QK (Qj ?_);refine QK (Qt ?_);refine QK (QD ?_ ?_);intro hh;refine QK (Qc ?_);refine QK (Qa ?_);refine QK (Qa ?_);refine QK (Qe ?_);refine QK (Qc ?_);refine QK (Qb ?_);refine QL ?_;rotate_left;intro hh;refine QK (Qc ?_);refine QK (Qa ?_);refine QK (QA ?_);refine QK (QA ?_);refine QK (Qd ?_);refine QK (Qb ?_);refine QL ?_;rotate_left
   all_goals (exact ⟨by simp [*, upd], Wwev, Wwev, Wwev, Wwev, Wwev, Wwps, Wwfr, Wwobj, Wwobj, Wwobj, Wwne, Wwne⟩)
 rintro e3 h3 ⟨et, e0, e2, e4, e6, e7, ps3, fr3, ho4, ho6, ho7, hn3, hn1b⟩
 have hnn3 := fr3.1
 generalize hc3 : (isR L s [(⟨#[58, 61]⟩ : ByteArray)] && decide (tn.kind = 40) && !bare) = b at et hq0
 cases b
 case true =>
  rw [if_pos rfl] at hq0
  simp only [Bool.and_eq_true] at hc3
  refine QR hX ?_;refine QN hX ?_;refine QK (Qa ?_);refine QK ?_
  refine QJ en72 ?_
  refine take_w (L := L) (hd := hd) (s := s) Wwps (hm hc3.1.1) fun h10 ps10 fr10 => ?_
  have hn10 := fr10.1; (try simp only [UB, UC] at hn10)
  refine QL ?_;refine QU hX ?_;refine WC.drawn (id := 4) hX (l := [⟨0, .read, 0⟩, ⟨1, .pure, 0⟩, ⟨2, .read, 2⟩, ⟨3, .pure, 0⟩, ⟨7, .alloc, 0⟩, ⟨4, .heavy, 8⟩, ⟨5, .alloc, 24⟩, ⟨6, .heavy, 63⟩, ⟨8, .heavy, 255⟩]) (hw := ?_);refine QX (k := Qu ?_);refine QW (k := Qj ?_);refine QX (k := Qt ?_);refine QW (k := Qa ?_);refine WD.alloc (hw := Qw ?_);refine WD.heavy hX (hw := ?_)
  refine QJ en119 ?_
  refine c.expr Wwps (EndN.use Wwfr hq0 (fun _ _ x => x) fun t11 s11 h11 v11 ps11 fr11 hv11 hq11 => ?_)
  obtain ⟨b11, n11, es11, rfl, kv11⟩ := hv11
  have hn11 := fr11.1; (try simp only [UB, UC] at hn11)
  refine WD.alloc (hw := Qz ?_);refine WD.heavy hX (hw := ?_)
  refine QJ en74 ?_
  refine node_w fun h12 g12 => ?_
  have hn12 := g12.1; (try simp only [UB, UC] at hn12)
  refine WD.heavy hX (hw := Qv ?_);refine WD.nil (hq := ?_);refine QN hX ?_;refine QK (Qj ?_);refine QK (Qt ?_);refine QK (Qj ?_);refine QK (Qv ?_);refine QO hX ?_;refine QK (Qu ?_);refine QK (Qv ?_);refine QM ?_
  refine ⟨_, Wwres, ?_⟩
  refine hq11 _ _ Wwps Wwfr ⟨_, _, _, rfl, NV.of_kids ?_ _ _ _ _ _ _⟩
  exact (KV.one (S := fun j => h.next ≤ j ∧ j < h11.next) Wwne Wwne Wwobj (kv11.mono Wwne (fun j hS hj => by (try simp only [UB, UC] at hS); exact ⟨⟨Wwne, hj⟩, Wwag⟩)) (fun j hS hj => ⟨by have := hS.1; exact Wwne, by have := hS.2; exact Wwne⟩))
 rw [if_neg Bool.false_ne_true] at hq0
 refine QS hX ?_;refine QU hX ?_
 refine WC.cut (N' := RestI p L hd s h (ncells tn bn nn esn) bare tk h1.next 38 (isR L s [(⟨#[61]⟩ : ByteArray), (⟨#[43, 61]⟩ : ByteArray), (⟨#[45, 61]⟩ : ByteArray), (⟨#[42, 61]⟩ : ByteArray)] && targetN tn && !bare)) ?_ ?_
 ·refine QV hX ?_;refine QK (Qa ?_);refine QK (Qy ?_);refine QK ?_
  refine QJ en71 ?_
  refine is_w (L := L) (hd := hd) (s := s) (ts := [(⟨#[61]⟩ : ByteArray), (⟨#[43, 61]⟩ : ByteArray), (⟨#[45, 61]⟩ : ByteArray), (⟨#[42, 61]⟩ : ByteArray)]) Wwps Wwobj Wwne rfl (by first | decide | simp) fun h2 g2 => ?_
  have hn2 := g2.1; (try simp only [UB, UC] at hn2)
  cases hb2 : isR L s [(⟨#[61]⟩ : ByteArray), (⟨#[43, 61]⟩ : ByteArray), (⟨#[45, 61]⟩ : ByteArray), (⟨#[42, 61]⟩ : ByteArray)]
  ·refine QK (Qa ?_);refine QK (QA ?_);refine QK (QA ?_);refine QK (Qd ?_);refine QK (Qa ?_);refine QK (QA ?_);refine QK (QA ?_);refine QK (Qd ?_);refine QK (Qb ?_);refine QL ?_
   exact ⟨by simp [*, upd], Wwev, Wwev, Wwev, Wwev, Wwev, Wwps, Wwfr, Wwobj, Wwobj, Wwobj, Wwne, Wwne⟩
  ·refine QK (Qa ?_);refine QK (Qu ?_);refine QK ?_
   refine QJ en161 ?_
   refine target_w fun h20 g20 => ?_
   have hn20 := g20.1
   (try simp only [UB, UC] at hn20)
   cases hb20 : targetN tn
   ·refine QK (Qc ?_);refine QK (Qa ?_);refine QK (QA ?_);refine QK (QA ?_);refine QK (Qd ?_);refine QK (Qb ?_);refine QL ?_
    exact ⟨by simp [*, upd], Wwev, Wwev, Wwev, Wwev, Wwev, Wwps, Wwfr, Wwobj, Wwobj, Wwobj, Wwne, Wwne⟩
   ·refine QK (Qc ?_);refine QK (Qa ?_);refine QK (Qa ?_);refine QK (Qe ?_);refine QK (Qc ?_);refine QK (Qb ?_);refine QL ?_
    all_goals (exact ⟨by simp [*, upd], Wwev, Wwev, Wwev, Wwev, Wwev, Wwps, Wwfr, Wwobj, Wwobj, Wwobj, Wwne, Wwne⟩)
 rintro e4 h4 ⟨et, e0, e2, e4, e6, e7, ps4, fr4, ho4, ho6, ho7, hn4, hn1b⟩
 have hnn4 := fr4.1
 generalize hc4 : (isR L s [(⟨#[61]⟩ : ByteArray), (⟨#[43, 61]⟩ : ByteArray), (⟨#[45, 61]⟩ : ByteArray), (⟨#[42, 61]⟩ : ByteArray)] && targetN tn && !bare) = b at et hq0
 cases b
 case true =>
  rw [if_pos rfl] at hq0
  simp only [Bool.and_eq_true] at hc4
  refine QR hX ?_;refine QN hX ?_;refine QK (Qa ?_);refine QK ?_
  refine QJ en72 ?_
  refine take_w (L := L) (hd := hd) (s := s) Wwps (hm2 hc4.1.1) fun h10 ps10 fr10 => ?_
  have hn10 := fr10.1; (try simp only [UB, UC] at hn10)
  refine QL ?_;refine QU hX ?_;refine WC.drawn (id := 9) hX (l := [⟨0, .read, 0⟩, ⟨1, .pure, 0⟩, ⟨2, .read, 2⟩, ⟨3, .read, 0⟩, ⟨4, .pure, 0⟩, ⟨5, .heavy, 16⟩, ⟨6, .alloc, 56⟩, ⟨7, .heavy, 127⟩, ⟨8, .heavy, 255⟩]) (hw := ?_);refine QX (k := Qu ?_);refine QW (k := Qj ?_);refine QX (k := Qt ?_);refine QX (k := Qu ?_);refine QW (k := Qa ?_);refine WD.heavy hX (hw := ?_)
  refine QJ en119 ?_
  refine c.expr Wwps (EndN.use Wwfr hq0 (fun _ _ x => x) fun t11 s11 h11 v11 ps11 fr11 hv11 hq11 => ?_)
  obtain ⟨b11, n11, es11, rfl, kv11⟩ := hv11
  have hn11 := fr11.1; (try simp only [UB, UC] at hn11)
  refine WD.alloc (hw := Qz ?_);refine WD.heavy hX (hw := ?_)
  refine QJ en74 ?_
  refine node_w fun h12 g12 => ?_
  have hn12 := g12.1; (try simp only [UB, UC] at hn12)
  refine WD.heavy hX (hw := Qv ?_);refine WD.nil (hq := ?_);refine WC.ret ?_
  refine ⟨_, Wwres, ?_⟩
  refine hq11 _ _ Wwps Wwfr ⟨_, _, _, rfl, NV.of_kids ?_ _ _ _ _ _ _⟩
  exact (KV.two (S := fun j => lo ≤ j ∧ (j < hi ∨ h.next ≤ j) ∧ j < h11.next) Wwne Wwne Wwobj (kvn.mono Wwne (fun j hS hj => by (try simp only [UB, UC] at hS); exact ⟨⟨Wwne, Wwne, Wwne⟩, Wwag⟩)) (kv11.mono Wwne (fun j hS hj => by (try simp only [UB, UC] at hS); exact ⟨⟨Wwne, Wwne, Wwne⟩, Wwag⟩)) (fun j hS hj => ⟨⟨hS.1, hS.2.1⟩, by have := hS.2.2; exact Wwne⟩))
 rw [if_neg Bool.false_ne_true] at hq0
 refine QS hX ?_;refine QU hX ?_
 refine WC.cut (N' := RestI p L hd s h (ncells tn bn nn esn) bare tk h1.next 60 (isR L s [(⟨#[43, 43]⟩ : ByteArray), (⟨#[45, 45]⟩ : ByteArray)] && targetN tn && !bare)) ?_ ?_
 ·refine QV hX ?_;refine QK (Qa ?_);refine QK (Qy ?_);refine QK ?_
  refine QJ en71 ?_
  refine is_w (L := L) (hd := hd) (s := s) (ts := [(⟨#[43, 43]⟩ : ByteArray), (⟨#[45, 45]⟩ : ByteArray)]) Wwps Wwobj Wwne rfl (by first | decide | simp) fun h2 g2 => ?_
  have hn2 := g2.1; (try simp only [UB, UC] at hn2)
  cases hb2 : isR L s [(⟨#[43, 43]⟩ : ByteArray), (⟨#[45, 45]⟩ : ByteArray)]
  ·refine QK (Qa ?_);refine QK (QA ?_);refine QK (QA ?_);refine QK (Qd ?_);refine QK (Qa ?_);refine QK (QA ?_);refine QK (QA ?_);refine QK (Qd ?_);refine QK (Qb ?_);refine QL ?_
   exact ⟨by simp [*, upd], Wwev, Wwev, Wwev, Wwev, Wwev, Wwps, Wwfr, Wwobj, Wwobj, Wwobj, Wwne, Wwne⟩
  ·refine QK (Qa ?_);refine QK (Qu ?_);refine QK ?_
   refine QJ en161 ?_
   refine target_w fun h20 g20 => ?_
   have hn20 := g20.1
   (try simp only [UB, UC] at hn20)
   cases hb20 : targetN tn
   ·refine QK (Qc ?_);refine QK (Qa ?_);refine QK (QA ?_);refine QK (QA ?_);refine QK (Qd ?_);refine QK (Qb ?_);refine QL ?_
    exact ⟨by simp [*, upd], Wwev, Wwev, Wwev, Wwev, Wwev, Wwps, Wwfr, Wwobj, Wwobj, Wwobj, Wwne, Wwne⟩
   ·refine QK (Qc ?_);refine QK (Qa ?_);refine QK (Qa ?_);refine QK (Qe ?_);refine QK (Qc ?_);refine QK (Qb ?_);refine QL ?_
    all_goals (exact ⟨by simp [*, upd], Wwev, Wwev, Wwev, Wwev, Wwev, Wwps, Wwfr, Wwobj, Wwobj, Wwobj, Wwne, Wwne⟩)
 rintro e5 h5 ⟨et, e0, e2, e4, e6, e7, ps5, fr5, ho4, ho6, ho7, hn5, hn1b⟩
 have hnn5 := fr5.1
 generalize hc5 : (isR L s [(⟨#[43, 43]⟩ : ByteArray), (⟨#[45, 45]⟩ : ByteArray)] && targetN tn && !bare) = b at et hq0
 cases b
 case true =>
  rw [if_pos rfl] at hq0
  simp only [Bool.and_eq_true] at hc5
  refine QR hX ?_;refine QN hX ?_;refine QK (Qa ?_);refine QK ?_
  refine QJ en72 ?_
  refine take_w (L := L) (hd := hd) (s := s) Wwps (hm3 hc5.1.1) fun h10 ps10 fr10 => ?_
  have hn10 := fr10.1; (try simp only [UB, UC] at hn10)
  refine QO hX ?_;refine QK (Qu ?_);refine QK (Qj ?_);refine QK (Qt ?_);refine QK (Qu ?_);refine QK (Qz ?_);refine QK ?_
  refine QJ en74 ?_
  refine node_w fun h12 g12 => ?_
  have hn12 := g12.1; (try simp only [UB, UC] at hn12)
  refine QK (Qv ?_);refine QM ?_
  refine ⟨_, Wwres, ?_⟩
  refine hq0 _ _ Wwps Wwfr ⟨_, _, _, rfl, NV.of_kids ?_ _ _ _ _ _ _⟩
  exact (KV.one (S := fun j => lo ≤ j ∧ (j < hi ∨ h.next ≤ j) ∧ j < h10.next) Wwne Wwne Wwobj (kvn.mono Wwne (fun j hS hj => by (try simp only [UB, UC] at hS); exact ⟨⟨Wwne, Wwne, Wwne⟩, Wwag⟩)) (fun j hS hj => ⟨⟨hS.1, hS.2.1⟩, by have := hS.2.2; exact Wwne⟩))
 rw [if_neg Bool.false_ne_true] at hq0
 refine QS hX ?_;refine QN hX ?_;refine QK (Qa ?_);refine QK (Qy ?_);refine QK ?_
 refine QJ en71 ?_
 refine is_w (L := L) (hd := hd) (s := s) (ts := [(⟨#[60, 45]⟩ : ByteArray)]) Wwps Wwobj Wwne rfl (by first | decide | simp) fun h6 g6 => ?_
 have hn6 := g6.1; (try simp only [UB, UC] at hn6)
 cases hb6 : isR L s [(⟨#[60, 45]⟩ : ByteArray)]
 case true =>
  rw [hb6, if_pos rfl] at hq0
  refine QK (Qb ?_);refine QQ hX ?_;refine QN hX ?_;refine QK (Qa ?_);refine QK ?_
  refine QJ en72 ?_
  refine take_w (L := L) (hd := hd) (s := s) Wwps (hm4 hb6) fun h10 ps10 fr10 => ?_
  have hn10 := fr10.1; (try simp only [UB, UC] at hn10)
  refine QL ?_;refine QU hX ?_;refine WC.drawn (id := 15) hX (l := [⟨0, .read, 0⟩, ⟨1, .read, 0⟩, ⟨2, .pure, 0⟩, ⟨3, .heavy, 4⟩, ⟨4, .alloc, 14⟩, ⟨5, .heavy, 31⟩, ⟨6, .heavy, 63⟩]) (hw := ?_);refine QX (k := Qu ?_);refine QX (k := Qu ?_);refine QW (k := Qa ?_);refine WD.heavy hX (hw := ?_)
  refine QJ en119 ?_
  refine c.expr Wwps (EndN.use Wwfr hq0 (fun _ _ x => x) fun t11 s11 h11 v11 ps11 fr11 hv11 hq11 => ?_)
  obtain ⟨b11, n11, es11, rfl, kv11⟩ := hv11
  have hn11 := fr11.1; (try simp only [UB, UC] at hn11)
  refine WD.alloc (hw := Qz ?_);refine WD.heavy hX (hw := ?_)
  refine QJ en74 ?_
  refine node_w fun h12 g12 => ?_
  have hn12 := g12.1; (try simp only [UB, UC] at hn12)
  refine WD.heavy hX (hw := Qv ?_);refine WD.nil (hq := ?_);refine WC.ret ?_
  refine ⟨_, Wwres, ?_⟩
  refine hq11 _ _ Wwps Wwfr ⟨_, _, _, rfl, NV.of_kids ?_ _ _ _ _ _ _⟩
  exact (KV.two (S := fun j => lo ≤ j ∧ (j < hi ∨ h.next ≤ j) ∧ j < h11.next) Wwne Wwne Wwobj (kvn.mono Wwne (fun j hS hj => by (try simp only [UB, UC] at hS); exact ⟨⟨Wwne, Wwne, Wwne⟩, Wwag⟩)) (kv11.mono Wwne (fun j hS hj => by (try simp only [UB, UC] at hS); exact ⟨⟨Wwne, Wwne, Wwne⟩, Wwag⟩)) (fun j hS hj => ⟨⟨hS.1, hS.2.1⟩, by have := hS.2.2; exact Wwne⟩))
 rw [hb6, if_neg Bool.false_ne_true] at hq0
 refine QK (Qb ?_);refine QP hX ?_;refine QN hX ?_;refine QK (Qu ?_);refine QK ?_
 refine QJ en140 ?_
 refine called_w fun h20 g20 => ?_
 have hn20 := g20.1
 (try simp only [UB, UC] at hn20)
 cases hb20 : calledN tn
 ·rw [hb20, Bool.false_and, if_neg Bool.false_ne_true] at hq0
  refine QK (Qa ?_);refine QK (QA ?_);refine QK (QA ?_);refine QK (Qd ?_);refine QK (Qb ?_);refine QP hX ?_;refine UA ?_;refine QN hX ?_;refine QK (Qa ?_);refine QK ?_
  refine QJ en77 ?_
  exact failN_w (hd := hd) Wwps Wwfr hq0 (fun _ _ x => x)
 ·rw [hb20, Bool.true_and] at hq0
  cases bare
  ·rw [Bool.not_false, if_pos rfl] at hq0
   refine QK (Qa ?_);refine QK (Qa ?_);refine QK (Qe ?_);refine QK (Qc ?_);refine QK (Qb ?_);refine QQ hX ?_;refine QN hX ?_;refine QK (Qu ?_);refine QK (Qu ?_);refine QK (Qz ?_);refine QK ?_
   refine QJ en74 ?_
   refine node_w fun h12 g12 => ?_
   have hn12 := g12.1; (try simp only [UB, UC] at hn12)
   refine QK (Qw ?_);refine QK (Qv ?_);refine QO hX ?_;refine QK (Qj ?_);refine QK (Qt ?_);refine QK (Qj ?_);refine QK (Qv ?_);refine QO hX ?_;refine QK (Qu ?_);refine QK (Qv ?_);refine QM ?_
   refine ⟨_, Wwres, ?_⟩
   refine hq0 _ _ Wwps Wwfr ⟨_, _, _, rfl, NV.of_kids ?_ _ _ _ _ _ _⟩
   exact (KV.one (S := fun j => lo ≤ j ∧ (j < hi ∨ h.next ≤ j) ∧ j < h20.next) Wwne Wwne Wwobj (kvn.mono Wwne (fun j hS hj => by (try simp only [UB, UC] at hS); exact ⟨⟨Wwne, Wwne, Wwne⟩, Wwag⟩)) (fun j hS hj => ⟨⟨hS.1, hS.2.1⟩, by have := hS.2.2; exact Wwne⟩))
  ·rw [Bool.not_true, if_neg Bool.false_ne_true] at hq0
   refine QK (Qa ?_);refine QK (Qa ?_);refine QK (Qe ?_);refine QK (Qc ?_);refine QK (Qb ?_);refine QP hX ?_;refine UA ?_;refine QN hX ?_;refine QK (Qa ?_);refine QK ?_
   refine QJ en77 ?_
   exact failN_w (hd := hd) Wwps Wwfr hq0 (fun _ _ x => x)

theorem simple_w {r : Rec} (c : Ctr r) : CN 133 (simpleF r) := by
 intro p L hd s h Q ps hq0
 have hp := ps.lt
 unfold simpleF at hq0
 refine WCall.walk hX Tryz.func133 rfl rfl Tryz.ntmps133 rfl ?_
 refine QN hX ?_;refine QK (Qw ?_);refine QL ?_;refine QU hX ?_;refine QN hX ?_;refine QK (Qa ?_);refine QK (Qy ?_);refine QK ?_
 refine QJ en71 ?_
 refine is_w (L := L) (hd := hd) (s := s) (ts := [(⟨#[60, 45]⟩ : ByteArray)]) Wwps Wwobj Wwne rfl (by first | decide | simp) fun h1 g1 => ?_
 have hn1 := g1.1; (try simp only [UB, UC] at hn1)
 cases hb1 : isR L s [(⟨#[60, 45]⟩ : ByteArray)]
 ·rw [hb1, if_neg Bool.false_ne_true] at hq0
  refine QP hX ?_;refine UA ?_;refine QN hX ?_;refine QK (Qa ?_);refine QK ?_
  refine QJ en139 ?_
  refine c.primary Wwps (EndN.use Wwfr hq0 (fun _ _ x => x) fun t2 s2 h2 v2 ps2 fr2 hv2 hq2 => ?_)
  obtain ⟨b2, n2, es2, rfl, kv2⟩ := hv2
  have hn2 := fr2.1; (try simp only [UB, UC] at hn2)
  obtain ⟨j3, hj3, ho3, hl3⟩ := ps2.tok
  rw [← R.then_id (restF r t2 s2.bare L hd s2)] at hq2
  refine QK (Qw ?_);refine QK (Qv ?_);refine QL ?_;refine QU hX ?_;refine WC.drawn (id := 5) hX (l := [⟨0, .pure, 0⟩, ⟨1, .read, 0⟩, ⟨2, .pure, 0⟩, ⟨3, .pure, 4⟩, ⟨4, .pure, 12⟩, ⟨5, .read, 28⟩, ⟨6, .heavy, 63⟩, ⟨7, .heavy, 127⟩]) (hw := ?_);refine QW (k := Qa ?_);refine QX (k := Qu ?_);refine QW (k := Qa ?_);refine QW (k := Qi ?_);refine QW (k := Qj ?_);refine QX (k := Qt ?_);refine WD.heavy hX (hw := ?_)
  refine QJ en144 ?_
  refine rest_w c (lo := h1.next) (hi := h2.next) Wwps Wwne Wwne Wwne (kv2.mono Wwne (fun j hS hj => by (try simp only [UB, UC] at hS); exact ⟨⟨Wwne, Wwne⟩, Wwag⟩)) (EndN.use Wwfr hq2 (fun _ _ x => x) fun t4 s4 h4 v4 ps4 fr4 hv4 hq4 => ?_)
  obtain ⟨b4, n4, es4, rfl, kv4⟩ := hv4
  have hn4 := fr4.1
  (try simp only [UB, UC] at hn4)
  refine WD.heavy hX (hw := Qv ?_);refine WD.nil (hq := ?_);refine WC.ret ?_
  refine ⟨_, Wwres, ?_⟩
  exact hq4 _ _ Wwps Wwfr ⟨_, _, _, rfl, (kv4.mono Wwne (fun j hS hj => by (try simp only [UB, UC] at hS); exact ⟨Wwne, Wwag⟩))⟩
 ·rw [hb1, if_pos rfl] at hq0
  simp only at hq0
  refine QQ hX ?_;refine QN hX ?_;refine QK (Qa ?_);refine QK ?_
  refine QJ en72 ?_
  refine take_w (L := L) (hd := hd) (s := s) Wwps (ps.wf.is ps.at_ hb1) fun h2 ps2 fr2 => ?_
  have hn2 := fr2.1; (try simp only [UB, UC] at hn2)
  generalize tokAt L s.k = tk at *
  refine QK (Qw ?_);refine QK (Qv ?_);refine QL ?_;refine QU hX ?_;refine WC.drawn (id := 3) hX (l := [⟨0, .read, 0⟩, ⟨1, .read, 0⟩, ⟨2, .pure, 0⟩, ⟨3, .heavy, 4⟩, ⟨4, .alloc, 12⟩, ⟨5, .heavy, 30⟩, ⟨6, .alloc, 62⟩, ⟨7, .heavy, 127⟩, ⟨8, .heavy, 255⟩]) (hw := ?_);refine QX (k := Qu ?_);refine QX (k := Qu ?_);refine QW (k := Qa ?_);refine WD.heavy hX (hw := ?_)
  refine QJ en143 ?_
  refine c.unary Wwps (EndN.use Wwfr hq0 (fun _ _ x => x) fun t3 s3 h3 v3 ps3 fr3 hv3 hq3 => ?_)
  obtain ⟨b3, n3, es3, rfl, kv3⟩ := hv3
  have hn3 := fr3.1; (try simp only [UB, UC] at hn3)
  refine WD.alloc (hw := Qz ?_);refine WD.heavy hX (hw := ?_)
  refine QJ en74 ?_
  refine node_w fun h4 g4 => ?_
  have hn4 := g4.1; (try simp only [UB, UC] at hn4)
  refine WD.alloc (hw := Qz ?_);refine WD.heavy hX (hw := ?_)
  refine QJ en74 ?_
  refine node_w fun h5 g5 => ?_
  have hn5 := g5.1; (try simp only [UB, UC] at hn5)
  refine WD.heavy hX (hw := Qv ?_);refine WD.nil (hq := ?_);refine WC.ret ?_
  refine ⟨_, Wwres, ?_⟩
  refine hq3 _ _ Wwps Wwfr ⟨_, _, _, rfl, NV.of_kids ?_ _ _ _ _ _ _⟩
  exact (KV.one (t := nd 41 tk (⟨#[60, 45]⟩ : ByteArray) [t3]) (b := some ⟨h3.next, 0, none⟩) (n := 1) (es := 7) (S := fun j => h.next ≤ j ∧ j < h4.next) Wwne Wwne Wwobj (NV.of_kids (KV.one (S := fun j => h.next ≤ j ∧ j < h3.next) Wwne Wwne Wwobj (kv3.mono Wwne (fun j hS hj => by (try simp only [UB, UC] at hS); exact ⟨⟨Wwne, hj⟩, Wwag⟩)) (fun j hS hj => ⟨⟨hS.1, by have := hS.2; exact Wwne⟩, by have := hS.2; exact Wwne⟩)) _ _ _ _ _ _) (fun j hS hj => ⟨hS.1, by have := hS.2; exact Wwne⟩))

theorem call_w {r : Rec} (c : Ctr r) : CN 122 (callF r) := by
 intro p L hd s h Q ps hq0
 have hp := ps.lt
 unfold callF at hq0
 refine WCall.walk hX Tryz.func122 rfl rfl Tryz.ntmps122 rfl ?_
 refine QN hX ?_;refine QK (Qw ?_);refine QO hX ?_;refine QK (Qa ?_);refine QK ?_
 refine QJ en139 ?_
 refine c.primary Wwps (EndN.use Wwfr hq0 (fun _ _ x => x) fun t1 s1 h1 v1 ps1 fr1 hv1 hq1 => ?_)
 obtain ⟨b1, n1, es1, rfl, kv1⟩ := hv1
 have hn1 := fr1.1; (try simp only [UB, UC] at hn1)
 refine QK (Qw ?_);refine QK (Qv ?_);refine QL ?_;refine QU hX ?_;refine QN hX ?_;refine QK (Qu ?_);refine QK ?_
 refine QJ en140 ?_
 refine called_w fun h2 g2 => ?_
 have hn2 := g2.1
 (try simp only [UB, UC] at hn2)
 cases hb : calledN t1
 ·rw [hb, Bool.not_false, Bool.true_or, if_pos rfl] at hq1
  refine QK (Qe ?_);refine QK (Qa ?_);refine QK (QA ?_);refine QK (QA ?_);refine QK (QA ?_);refine QK (QA ?_);refine QK (Qc ?_);refine QQ hX ?_;refine QV hX ?_;refine QK (Qa ?_);refine QK ?_
  refine QJ en77 ?_
  exact failN_w (hd := hd) Wwps Wwfr hq1 (fun _ _ x => x)
 ·rw [hb, Bool.not_true, Bool.false_or] at hq1
  obtain ⟨j3, hj3, ho3, hl3⟩ := ps1.tok
  cases hr : s1.bare
  ·rw [hr, if_neg Bool.false_ne_true] at hq1
   rw [hr] at ho3
   refine QK (Qe ?_);refine QK (Qa ?_);refine QK (Qa ?_);refine QK (Qi ?_);refine QK (Qj ?_);refine QK (Qt ?_);refine QK (Qd ?_);refine QP hX ?_;refine UA ?_;refine QN hX ?_;refine QK (Qu ?_);refine QK (Qv ?_);refine QM ?_
   refine ⟨_, Wwres, ?_⟩
   exact hq1 _ _ Wwps Wwfr ⟨_, _, _, rfl, (kv1.mono Wwne (fun j hS hj => by (try simp only [UB, UC] at hS); exact ⟨Wwne, Wwag⟩))⟩
  ·rw [hr, if_pos rfl] at hq1
   rw [hr] at ho3
   refine QK (Qe ?_);refine QK (Qa ?_);refine QK (Qa ?_);refine QK (Qi ?_);refine QK (Qj ?_);refine QK (Qt ?_);refine QK (Qd ?_);refine QQ hX ?_;refine QV hX ?_;refine QK (Qa ?_);refine QK ?_
   refine QJ en77 ?_
   exact failN_w (hd := hd) Wwps Wwfr hq1 (fun _ _ x => x)

theorem next_tok {p : Nat} {L : List Tok} {s : St} (hk : s.k + 1 < L.length) : ((cellsOf L).drop ((s.k + 1) * 4)).take 4 = (tokAt L (s.k + 1)).cells := by
 have := cells_at (tokAt_get hk)
 exact this

end Go.Proofs.ZL
end

section
open Go Go.Am
namespace Go.Proofs.ZL
set_option maxRecDepth 100000
set_option linter.unusedSimpArgs false
set_option linter.unusedVariables false
set_option maxHeartbeats 1000000

theorem cell_at {L : List Tok} {k : Nat} (hk : k < L.length) (i : Nat) (hi : i < 4) : (cellsOf L)[k * 4 + i]? = (tokAt L k).cells[i]? := by
 have := cells_at (tokAt_get hk)
 rw [← this, List.getElem?_take, if_pos hi, List.getElem?_drop]
theorem cell_kind {L : List Tok} {s : St} (hk : s.k + 1 < L.length) : (cellsOf L)[0 + ((s.k : Int) + 1).toNat * 4 + 0]? = some (.int .i64 (tokAt L (s.k + 1)).kind) := by
 rw [show 0 + ((s.k : Int) + 1).toNat * 4 + 0 = (s.k + 1) * 4 + 0 by omega, cell_at hk 0 (by omega)]; rfl
theorem cell_text {L : List Tok} {s : St} (hk : s.k + 1 < L.length) : (cellsOf L)[0 + ((s.k : Int) + 1).toNat * 4 + 1]? = some (.string (tokAt L (s.k + 1)).text) := by
 rw [show 0 + ((s.k : Int) + 1).toNat * 4 + 1 = (s.k + 1) * 4 + 1 by omega, cell_at hk 1 (by omega)]; rfl

theorem plain_w {r : Rec} (c : Ctr r) : CN 118 (plainF r) := by
 intro p L hd s h Q ps hq0
 have hp := ps.lt
 have hz := ps.wf.size
 have hks := ps.at_
 unfold plainF at hq0
 obtain ⟨j, hj, hop, hol⟩ := ps.tok
 refine WCall.walk hX Tryz.func118 rfl rfl Tryz.ntmps118 rfl ?_
 refine QN hX ?_;refine QK (Qw ?_);refine QL ?_;refine QU hX ?_;refine QN hX ?_;refine QK (Qa ?_);refine QK ?_
 refine QJ en51 ?_
 refine peek_w (L := L) (hd := hd) (s := s) Wwps fun h1 g1 => ?_
 have hn1 := g1.1; (try simp only [UB, UC] at hn1)
 simp only at hq0
 by_cases hk1 : (tokAt L s.k).kind = 1
 ·have hm : s.k + 1 < L.length := ps.wf.more ps.at_ (by omega)
  have ck := cell_kind hm
  have ct := cell_text hm
  have hmm : (tokAt L (s.k + 1)).kind ≠ 6 → s.k + 1 + 1 < L.length := ps.wf.more hm
  unfold isMark at hq0
  generalize tokAt L s.k = tk at *
  generalize tokAt L (s.k + 1) = t2 at *
  rw [decide_eq_true hk1, Bool.true_and] at hq0
  refine QK (Qw ?_);refine QK (Qv ?_);refine QL ?_;refine QU hX ?_;refine WC.drawn (id := 2) hX (l := [⟨0, .pure, 0⟩, ⟨1, .read, 1⟩, ⟨2, .pure, 3⟩, ⟨3, .pure, 7⟩, ⟨4, .pure, 15⟩, ⟨5, .pure, 31⟩, ⟨6, .pure, 63⟩, ⟨7, .read, 127⟩, ⟨8, .pure, 15⟩, ⟨9, .pure, 271⟩, ⟨10, .pure, 783⟩, ⟨11, .read, 1807⟩, ⟨12, .pure, 3855⟩, ⟨13, .pure, 8191⟩, ⟨14, .pure, 16383⟩, ⟨15, .read, 32767⟩, ⟨16, .pure, 65535⟩, ⟨17, .pure, 131071⟩, ⟨18, .pure, 262143⟩, ⟨19, .pure, 524287⟩, ⟨20, .pure, 1048575⟩, ⟨21, .pure, 2097151⟩, ⟨22, .read, 4194303⟩, ⟨23, .pure, 524287⟩, ⟨24, .pure, 8912895⟩, ⟨25, .pure, 25690111⟩, ⟨26, .read, 59244543⟩, ⟨27, .pure, 126353407⟩, ⟨28, .pure, 268435455⟩, ⟨29, .pure, 536870911⟩, ⟨30, .read, 1073741823⟩, ⟨31, .pure, 2147483647⟩, ⟨32, .pure, 4294967295⟩]) (hw := ?_);refine QW (k := Qj ?_);refine QX (k := Qt ?_);refine QW (k := QD ?_ ?_);intro hh;refine QW (k := Qa ?_);refine QW (k := Qa ?_);refine QW (k := Qi ?_);refine QW (k := Qj ?_);refine QX (k := Qt ?_);refine QW (k := Qa ?_);refine QW (k := Qi ?_);refine QW (k := Qj ?_);refine QX (k := Qt ?_);refine QW (k := Qf ?_);refine QW (k := Ql ?_);refine QW (k := Qj ?_);refine WD.read (hw := ?_);rotate_left;intro hh;exfalso;omega
  refine WS.loadS (v := .int .i64 t2.kind) (hc := ck) (hk := ?_)
  refine QW (k := QD ?_ ?_);intro hh;refine QW (k := Qc ?_);refine QW (k := Qa ?_);refine QW (k := Qa ?_);refine QW (k := Qi ?_);refine QW (k := Qj ?_);refine QX (k := Qt ?_);refine QW (k := Qa ?_);refine QW (k := Qi ?_);refine QW (k := Qj ?_);refine QX (k := Qt ?_);refine QW (k := Qf ?_);refine QW (k := Ql ?_);refine QW (k := Qj ?_);refine WD.read (hw := ?_);rotate_left;intro hh;refine QW (k := Qc ?_);refine QW (k := Qa ?_);refine QW (k := QA ?_);refine QW (k := QA ?_);refine QW (k := QA ?_);refine QX (k := QA ?_);refine QW (k := QA ?_);refine QW (k := QA ?_);refine QW (k := QA ?_);refine QX (k := QA ?_);refine QW (k := QA ?_);refine QW (k := QA ?_);refine QW (k := QA ?_);refine QX (k := QA ?_);refine QW (k := QA ?_);refine QW (k := Qd ?_);refine WD.nil (hq := ?_);refine QS hX ?_;refine UA ?_;refine QN hX ?_;refine QK (Qa ?_);refine QK ?_;rotate_left
  ·refine WS.loadS (v := .string t2.text) (hc := ct) (hk := ?_)
   refine QW (k := QB ?_ ?_);intro hh;refine QW (k := Qc ?_);refine WD.nil (hq := ?_);refine QR hX ?_;refine QN hX ?_;refine QK (Qa ?_);refine QK (Qi ?_);refine QK (Qj ?_);refine QK (Qt ?_);refine QK (Qf ?_);refine QK (Qi ?_);refine QK (Qj ?_);refine QK (Qv ?_);refine QL ?_;refine QU hX ?_;refine QN hX ?_;refine QK (Qa ?_);refine QK (Qy ?_);refine QK ?_;rotate_left;intro hh;refine QW (k := Qc ?_);refine WD.nil (hq := ?_);refine QS hX ?_;refine UA ?_;refine QN hX ?_;refine QK (Qa ?_);refine QK ?_;rotate_left
   ·have hm2 : s.k + 2 < L.length := hmm (by omega)
    rw [decide_eq_true (by assumption), decide_eq_true (by assumption), Bool.true_and, if_pos rfl] at hq0
    refine QJ en71 ?_
    have fH : Fr1 p h h1 := Wwfr
    refine is_w (L := L) (hd := hd) (s := s.goto (s.k + 2)) (ts := [(⟨#[102, 111, 114]⟩ : ByteArray), (⟨#[115, 119, 105, 116, 99, 104]⟩ : ByteArray), (⟨#[115, 101, 108, 101, 99, 116]⟩ : ByteArray)]) (PSt.alloc (PSt.self (hd := hd) (s := s) (j := j) Wwps Wwobj hd (s.goto (s.k + 2)) hm2) _) Wwobj Wwne rfl (by decide) fun h2 g2 => ?_
    have hn2 := g2.1
    (try simp only [UB, UC] at hn2)
    have ps2 : PSt h2 p L hd (s.goto (s.k + 2)) := (PSt.alloc (PSt.self (hd := hd) (s := s) (j := j) Wwps Wwobj hd (s.goto (s.k + 2)) hm2) _).gr g2
    cases hb2 : isR L (s.goto (s.k + 2)) [(⟨#[102, 111, 114]⟩ : ByteArray), (⟨#[115, 119, 105, 116, 99, 104]⟩ : ByteArray), (⟨#[115, 101, 108, 101, 99, 116]⟩ : ByteArray)]
    ·rw [hb2, if_neg Bool.false_ne_true] at hq0
     refine QK (Qe ?_);refine QQ hX ?_;refine QV hX ?_;refine QK (Qa ?_);refine QK ?_
     refine QJ en77 ?_
     exact failN_w (hd := hd) Wwps Wwfr hq0 (fun _ _ x => x)
    ·rw [hb2, if_pos rfl] at hq0
     refine QK (Qe ?_);refine QP hX ?_;refine UA ?_;refine QU hX ?_;refine WC.drawn (id := 6) hX (l := [⟨0, .read, 0⟩, ⟨1, .pure, 0⟩, ⟨2, .read, 2⟩, ⟨3, .pure, 0⟩, ⟨4, .heavy, 8⟩, ⟨5, .alloc, 24⟩, ⟨6, .heavy, 63⟩, ⟨7, .heavy, 127⟩]) (hw := ?_);refine QX (k := Qu ?_);refine QW (k := Qj ?_);refine QX (k := Qt ?_);refine QW (k := Qa ?_);refine WD.heavy hX (hw := ?_)
     refine QJ en121 ?_
     refine c.nested Wwps (EndN.use Wwfr hq0 (fun _ _ x => x) fun t3 s3 h3 v3 ps3 fr3 hv3 hq3 => ?_)
     obtain ⟨b3, n3, es3, rfl, kv3⟩ := hv3
     have hn3 := fr3.1; (try simp only [UB, UC] at hn3)
     refine WD.alloc (hw := Qz ?_);refine WD.heavy hX (hw := ?_)
     refine QJ en74 ?_
     refine node_w fun h4 g4 => ?_
     have hn4 := g4.1; (try simp only [UB, UC] at hn4)
     refine WD.heavy hX (hw := Qv ?_);refine WD.nil (hq := ?_);refine WC.ret ?_
     refine ⟨_, Wwres, ?_⟩
     refine hq3 _ _ Wwps Wwfr ⟨_, _, _, rfl, NV.of_kids ?_ _ _ _ _ _ _⟩
     exact (KV.one (S := fun j => h.next ≤ j ∧ j < h3.next) Wwne Wwne Wwobj (kv3.mono Wwne (fun j hS hj => by (try simp only [UB, UC] at hS); exact ⟨⟨Wwne, hj⟩, Wwag⟩)) (fun j hS hj => ⟨hS.1, by have := hS.2; exact Wwne⟩))
   ·rw [decide_eq_true (show t2.kind = 5 by assumption), decide_eq_false (by assumption), Bool.and_false, if_neg Bool.false_ne_true] at hq0
    rw [← R.then_id (r.simple L hd s)] at hq0
    skip
    refine QJ en133 ?_
    refine c.simple Wwps (EndN.use Wwfr hq0 (fun _ _ x => x) fun t20 s20 h20 v20 ps20 fr20 hv20 hq20 => ?_)
    obtain ⟨b20, n20, es20, rfl, kv20⟩ := hv20
    have hn20 := fr20.1; (try simp only [UB, UC] at hn20)
    refine QK (Qv ?_);refine QM ?_
    refine ⟨_, Wwres, ?_⟩
    exact hq20 _ _ Wwps Wwfr ⟨_, _, _, rfl, (kv20.mono Wwne (fun j hS hj => by (try simp only [UB, UC] at hS); exact ⟨Wwne, Wwag⟩))⟩
  ·rw [decide_eq_false (show ¬t2.kind = 5 by assumption), Bool.false_and, if_neg Bool.false_ne_true] at hq0
   rw [← R.then_id (r.simple L hd s)] at hq0
   skip
   refine QJ en133 ?_
   refine c.simple Wwps (EndN.use Wwfr hq0 (fun _ _ x => x) fun t20 s20 h20 v20 ps20 fr20 hv20 hq20 => ?_)
   obtain ⟨b20, n20, es20, rfl, kv20⟩ := hv20
   have hn20 := fr20.1; (try simp only [UB, UC] at hn20)
   refine QK (Qv ?_);refine QM ?_
   refine ⟨_, Wwres, ?_⟩
   exact hq20 _ _ Wwps Wwfr ⟨_, _, _, rfl, (kv20.mono Wwne (fun j hS hj => by (try simp only [UB, UC] at hS); exact ⟨Wwne, Wwag⟩))⟩
 ·rw [decide_eq_false hk1, Bool.false_and, if_neg Bool.false_ne_true] at hq0
  clear hop hol
  generalize tokAt L s.k = tk at *
  rw [← R.then_id (r.simple L hd s)] at hq0
  refine QK (Qw ?_);refine QK (Qv ?_);refine QL ?_;refine QU hX ?_;refine WC.drawn (id := 2) hX (l := [⟨0, .pure, 0⟩, ⟨1, .read, 1⟩, ⟨2, .pure, 3⟩, ⟨3, .pure, 7⟩, ⟨4, .pure, 15⟩, ⟨5, .pure, 31⟩, ⟨6, .pure, 63⟩, ⟨7, .read, 127⟩, ⟨8, .pure, 15⟩, ⟨9, .pure, 271⟩, ⟨10, .pure, 783⟩, ⟨11, .read, 1807⟩, ⟨12, .pure, 3855⟩, ⟨13, .pure, 8191⟩, ⟨14, .pure, 16383⟩, ⟨15, .read, 32767⟩, ⟨16, .pure, 65535⟩, ⟨17, .pure, 131071⟩, ⟨18, .pure, 262143⟩, ⟨19, .pure, 524287⟩, ⟨20, .pure, 1048575⟩, ⟨21, .pure, 2097151⟩, ⟨22, .read, 4194303⟩, ⟨23, .pure, 524287⟩, ⟨24, .pure, 8912895⟩, ⟨25, .pure, 25690111⟩, ⟨26, .read, 59244543⟩, ⟨27, .pure, 126353407⟩, ⟨28, .pure, 268435455⟩, ⟨29, .pure, 536870911⟩, ⟨30, .read, 1073741823⟩, ⟨31, .pure, 2147483647⟩, ⟨32, .pure, 4294967295⟩]) (hw := ?_);refine QW (k := Qj ?_);refine QX (k := Qt ?_);refine QW (k := QD ?_ ?_);intro hh;exfalso;omega;intro hh;refine QW (k := Qa ?_);refine QW (k := QA ?_);refine QW (k := QA ?_);refine QW (k := QA ?_);refine QX (k := QA ?_);refine QW (k := QA ?_);refine QW (k := QA ?_);refine QW (k := QA ?_);refine QX (k := QA ?_);refine QW (k := QA ?_);refine QW (k := QA ?_);refine QW (k := QA ?_);refine QX (k := QA ?_);refine QW (k := QA ?_);refine QW (k := Qd ?_);refine QW (k := Qa ?_);refine QW (k := QA ?_);refine QW (k := QA ?_);refine QW (k := QA ?_);refine QX (k := QA ?_);refine QW (k := QA ?_);refine QW (k := QA ?_);refine QW (k := QA ?_);refine QX (k := QA ?_);refine QW (k := QA ?_);refine QW (k := QA ?_);refine QW (k := QA ?_);refine QX (k := QA ?_);refine QW (k := QA ?_);refine QW (k := Qd ?_);refine WD.nil (hq := ?_);refine QS hX ?_;refine UA ?_;refine QN hX ?_;refine QK (Qa ?_);refine QK ?_
  refine QJ en133 ?_
  refine c.simple Wwps (EndN.use Wwfr hq0 (fun _ _ x => x) fun t20 s20 h20 v20 ps20 fr20 hv20 hq20 => ?_)
  obtain ⟨b20, n20, es20, rfl, kv20⟩ := hv20
  have hn20 := fr20.1; (try simp only [UB, UC] at hn20)
  refine QK (Qv ?_);refine QM ?_
  refine ⟨_, Wwres, ?_⟩
  exact hq20 _ _ Wwps Wwfr ⟨_, _, _, rfl, (kv20.mono Wwne (fun j hS hj => by (try simp only [UB, UC] at hS); exact ⟨Wwne, Wwag⟩))⟩

theorem not_or2 {a b : Prop} (ha : ¬a) (hb : ¬b) : ¬(a ∨ b) := fun h => h.elim ha hb
theorem not_or3 {a b c : Prop} (ha : ¬a) (hb : ¬b) (hc : ¬c) : ¬(a ∨ b ∨ c) := fun h => h.elim ha fun h => h.elim hb hc

theorem stmt_w {r : Rec} (c : Ctr r) : CN 105 (stmtF r) := by
 intro p L hd s h Q ps hq0
 have hp := ps.lt
 unfold stmtF at hq0
 refine WCall.walk hX Tryz.func105 rfl rfl Tryz.ntmps105 rfl ?_
 refine QN hX ?_;refine QK (Qw ?_);refine QO hX ?_;refine QK (Qa ?_);refine QK ?_
 refine QJ en51 ?_
 refine peek_w (L := L) (hd := hd) (s := s) Wwps fun h1 g1 => ?_
 have hn1 := g1.1; (try simp only [UB, UC] at hn1)
 simp only at hq0
 by_cases hk : (tokAt L s.k).kind = 4
 ·have hm : s.k + 1 < L.length := ps.wf.more ps.at_ (by omega)
  rw [if_neg (show ¬((tokAt L s.k).kind ≠ 4) by simp [hk])] at hq0
  generalize tokAt L s.k = tk at *
  refine QK (Qw ?_);refine QK (Qv ?_);refine QL ?_;refine QU hX ?_;refine QN hX ?_;refine QK (Qj ?_);refine QK (Qt ?_);refine QK (QE ?_ ?_);intro hh;exfalso;omega;intro hh;refine QP hX ?_;refine UA ?_;refine QU hX ?_;refine QN hX ?_;refine QK (Qj ?_);refine QK (Qt ?_);refine QL ?_;refine WC.block hX ?_;refine QN hX ?_;refine QK (QB ?_ ?_);intro hh;refine QK (Qb ?_);refine QQ hX ?_;refine QN hX ?_;refine QK (Qa ?_);refine QK ?_;rotate_left;intro hh;refine QK (Qb ?_);refine QP hX ?_;refine QN hX ?_;refine QK (QB ?_ ?_);intro hh;refine QK (Qb ?_);refine QQ hX ?_;refine QN hX ?_;refine QK (Qa ?_);refine QK ?_;rotate_left;intro hh;refine QK (Qb ?_);refine QP hX ?_;refine QU hX ?_;refine QN hX ?_;refine QK (QB ?_ ?_);intro hh;refine QK (Qb ?_);refine QQ hX ?_;refine UA ?_;refine QR hX ?_;refine QN hX ?_;refine QK (Qa ?_);refine QK ?_;rotate_left;intro hh;refine QK (Qb ?_);refine QP hX ?_;refine QN hX ?_;refine QK (QB ?_ ?_);intro hh;refine QK (Qb ?_);refine QQ hX ?_;refine UA ?_;refine QR hX ?_;refine QN hX ?_;refine QK (Qa ?_);refine QK ?_;rotate_left;intro hh;refine QK (Qb ?_);refine QP hX ?_;refine QV hX ?_;refine QK (QB ?_ ?_);intro hh;refine QK (Qb ?_);refine QQ hX ?_;refine QN hX ?_;refine QK (Qa ?_);refine QK ?_;rotate_left;intro hh;refine QK (Qb ?_);refine QP hX ?_;refine QU hX ?_;refine QN hX ?_;refine QK (QB ?_ ?_);intro hh;refine QK (Qb ?_);refine QQ hX ?_;refine UA ?_;refine QR hX ?_;refine QN hX ?_;refine QK (Qa ?_);refine QK ?_;rotate_left;intro hh;refine QK (Qb ?_);refine QP hX ?_;refine QV hX ?_;refine QK (QB ?_ ?_);intro hh;refine QK (Qb ?_);refine QQ hX ?_;refine QN hX ?_;refine QK (Qa ?_);refine QK ?_;rotate_left;intro hh;refine QK (Qb ?_);refine QP hX ?_;refine QN hX ?_;refine QK (QB ?_ ?_);intro hh;refine QK (Qb ?_);refine QQ hX ?_;refine QN hX ?_;refine QK (Qa ?_);refine QK ?_;rotate_left;intro hh;refine QK (Qb ?_);refine QP hX ?_;refine QN hX ?_;refine QK (QB ?_ ?_);intro hh;refine QK (Qb ?_);refine QQ hX ?_;refine QN hX ?_;refine QK (Qa ?_);refine QK ?_;rotate_left;intro hh;refine QK (Qb ?_);refine QP hX ?_;refine QU hX ?_;refine QN hX ?_;refine QK (QB ?_ ?_);intro hh;refine QK (Qb ?_);refine QQ hX ?_;refine UA ?_;refine QR hX ?_;refine QN hX ?_;refine QK (Qa ?_);refine QK ?_;rotate_left;intro hh;refine QK (Qb ?_);refine QP hX ?_;refine QV hX ?_;refine QK (QB ?_ ?_);intro hh;refine QK (Qb ?_);refine QQ hX ?_;refine QN hX ?_;refine QK (Qa ?_);refine QK ?_;rotate_left;intro hh;refine QK (Qb ?_);refine QP hX ?_;refine UA ?_;refine QN hX ?_;refine QK (Qa ?_);refine QK ?_;rotate_left
  all_goals (repeat (first | rw [if_pos (by assumption)] at hq0 | rw [if_pos (Or.inl (by assumption))] at hq0 | rw [if_pos (Or.inr (by assumption))] at hq0 | rw [if_pos (Or.inr (Or.inl (by assumption)))] at hq0 | rw [if_pos (Or.inr (Or.inr (by assumption)))] at hq0 | rw [if_neg (by assumption)] at hq0 | rw [if_neg (not_or2 (by assumption) (by assumption))] at hq0 | rw [if_neg (not_or3 (by assumption) (by assumption) (by assumption))] at hq0))
  ·refine QJ en72 ?_
   refine take_w (L := L) (hd := hd) (s := s) Wwps (hm) fun h2 ps2 fr2 => ?_
   have hn2 := fr2.1; (try simp only [UB, UC] at hn2)
   refine QO hX ?_;refine QK (Qa ?_);refine QK ?_
   refine QJ en73 ?_
   refine name_w (hd := hd) Wwps (EndN.use Wwfr hq0 (fun _ _ x => x) fun tk3 s3 h3 v3 ps3 fr3 hv3 hq3 => ?_)
   subst hv3
   have hn3 := fr3.1; (try simp only [UB, UC] at hn3)
   refine QK (Qw ?_);refine QK (Qv ?_);refine QO hX ?_;refine QK (Qa ?_);refine QK ?_
   refine QJ en75 ?_
   refine c.typ Wwps (EndN.use Wwfr hq3 (fun _ _ x => x) fun t4 s4 h4 v4 ps4 fr4 hv4 hq4 => ?_)
   obtain ⟨b4, n4, es4, rfl, kv4⟩ := hv4
   have hn4 := fr4.1; (try simp only [UB, UC] at hn4)
   refine QK ?_
   refine QJ en78 ?_
   refine none_w fun h5 g5 => ?_
   have hn5 := g5.1; (try simp only [UB, UC] at hn5)
   refine QK (Qw ?_);refine QK (Qw ?_);refine QK (Qv ?_);refine QK (Qv ?_);refine QL ?_;refine QU hX ?_;refine QN hX ?_;refine QK (Qa ?_);refine QK ?_
   refine QJ en104 ?_
   refine got_w (L := L) (hd := hd) (s := s4) Wwps fun h6 ps6 fr6 => ?_
   have hn6 := fr6.1; (try simp only [UB, UC] at hn6)
   unfold gotS at ps6
   cases hb6 : isR L s4 [(⟨#[61]⟩ : ByteArray)]
   ·rw [hb6, if_neg Bool.false_ne_true] at ps6 hq4
    rw [R.then_ok] at hq4
    refine QP hX ?_;refine UA ?_;refine QN hX ?_;refine QK (Qu ?_);refine QK (Qj ?_);refine QK (Qt ?_);refine QK (Qu ?_);refine QK (Qu ?_);refine QK (Qz ?_);refine QK ?_
    refine QJ en74 ?_
    refine node_w fun h7 g7 => ?_
    have hn7 := g7.1; (try simp only [UB, UC] at hn7)
    refine QK (Qv ?_);refine QM ?_
    refine ⟨_, Wwres, ?_⟩
    refine hq4 _ _ Wwps Wwfr ⟨_, _, _, rfl, NV.of_kids ?_ _ _ _ _ _ _⟩
    exact (KV.two (t2 := noneN) (b2 := none) (n2 := 0) (es2 := 0) (S := fun j => h.next ≤ j ∧ j < h4.next) Wwne Wwne Wwobj (kv4.mono Wwne (fun j hS hj => by (try simp only [UB, UC] at hS); exact ⟨⟨Wwne, Wwne⟩, Wwag⟩)) (NV.leaf _ _ _ _ _ _) (fun j hS hj => ⟨by have := hS.1; exact Wwne, by have := hS.2; exact Wwne⟩))
   ·rw [hb6, if_pos rfl] at ps6 hq4
    refine QQ hX ?_;refine QV hX ?_;refine QK (Qa ?_);refine QK ?_
    refine QJ en119 ?_
    refine c.expr Wwps (EndN.use Wwfr hq4 (fun _ _ x => x) fun t7 s7 h7 v7 ps7 fr7 hv7 hq7 => ?_)
    obtain ⟨b7, n7, es7, rfl, kv7⟩ := hv7
    have hn7 := fr7.1; (try simp only [UB, UC] at hn7)
    refine QK (Qv ?_);refine QO hX ?_;refine QK (Qu ?_);refine QK (Qj ?_);refine QK (Qt ?_);refine QK (Qu ?_);refine QK (Qu ?_);refine QK (Qz ?_);refine QK ?_
    refine QJ en74 ?_
    refine node_w fun h8 g8 => ?_
    have hn8 := g8.1; (try simp only [UB, UC] at hn8)
    refine QK (Qv ?_);refine QM ?_
    refine ⟨_, Wwres, ?_⟩
    refine hq7 _ _ Wwps Wwfr ⟨_, _, _, rfl, NV.of_kids ?_ _ _ _ _ _ _⟩
    exact (KV.two (S := fun j => h.next ≤ j ∧ j < h7.next) Wwne Wwne Wwobj (kv4.mono Wwne (fun j hS hj => by (try simp only [UB, UC] at hS); exact ⟨⟨Wwne, Wwne⟩, Wwag⟩)) (kv7.mono Wwne (fun j hS hj => by (try simp only [UB, UC] at hS); exact ⟨⟨Wwne, Wwne⟩, Wwag⟩)) (fun j hS hj => ⟨by have := hS.1; exact Wwne, by have := hS.2; exact Wwne⟩))
  ·rw [← R.then_id (r.branch L hd s)] at hq0
   skip
   refine QJ en120 ?_
   refine c.branch Wwps (EndN.use Wwfr hq0 (fun _ _ x => x) fun t20 s20 h20 v20 ps20 fr20 hv20 hq20 => ?_)
   obtain ⟨b20, n20, es20, rfl, kv20⟩ := hv20
   have hn20 := fr20.1; (try simp only [UB, UC] at hn20)
   refine QK (Qv ?_);refine QM ?_
   refine ⟨_, Wwres, ?_⟩
   exact hq20 _ _ Wwps Wwfr ⟨_, _, _, rfl, (kv20.mono Wwne (fun j hS hj => by (try simp only [UB, UC] at hS); exact ⟨Wwne, Wwag⟩))⟩
  ·rw [← R.then_id (r.nested L hd s)] at hq0
   skip
   refine QJ en121 ?_
   refine c.nested Wwps (EndN.use Wwfr hq0 (fun _ _ x => x) fun t20 s20 h20 v20 ps20 fr20 hv20 hq20 => ?_)
   obtain ⟨b20, n20, es20, rfl, kv20⟩ := hv20
   have hn20 := fr20.1; (try simp only [UB, UC] at hn20)
   refine QK (Qv ?_);refine QM ?_
   refine ⟨_, Wwres, ?_⟩
   exact hq20 _ _ Wwps Wwfr ⟨_, _, _, rfl, (kv20.mono Wwne (fun j hS hj => by (try simp only [UB, UC] at hS); exact ⟨Wwne, Wwag⟩))⟩
  ·rw [← R.then_id (r.nested L hd s)] at hq0
   skip
   refine QJ en121 ?_
   refine c.nested Wwps (EndN.use Wwfr hq0 (fun _ _ x => x) fun t20 s20 h20 v20 ps20 fr20 hv20 hq20 => ?_)
   obtain ⟨b20, n20, es20, rfl, kv20⟩ := hv20
   have hn20 := fr20.1; (try simp only [UB, UC] at hn20)
   refine QK (Qv ?_);refine QM ?_
   refine ⟨_, Wwres, ?_⟩
   exact hq20 _ _ Wwps Wwfr ⟨_, _, _, rfl, (kv20.mono Wwne (fun j hS hj => by (try simp only [UB, UC] at hS); exact ⟨Wwne, Wwag⟩))⟩
  ·rw [← R.then_id (r.nested L hd s)] at hq0
   skip
   refine QJ en121 ?_
   refine c.nested Wwps (EndN.use Wwfr hq0 (fun _ _ x => x) fun t20 s20 h20 v20 ps20 fr20 hv20 hq20 => ?_)
   obtain ⟨b20, n20, es20, rfl, kv20⟩ := hv20
   have hn20 := fr20.1; (try simp only [UB, UC] at hn20)
   refine QK (Qv ?_);refine QM ?_
   refine ⟨_, Wwres, ?_⟩
   exact hq20 _ _ Wwps Wwfr ⟨_, _, _, rfl, (kv20.mono Wwne (fun j hS hj => by (try simp only [UB, UC] at hS); exact ⟨Wwne, Wwag⟩))⟩
  ·refine QJ en72 ?_
   refine take_w (L := L) (hd := hd) (s := s) Wwps (hm) fun h2 ps2 fr2 => ?_
   have hn2 := fr2.1; (try simp only [UB, UC] at hn2)
   refine QO hX ?_;refine QK (Qb ?_);refine QL ?_;refine QU hX ?_;refine QN hX ?_;refine QK (Qa ?_);refine QK ?_
   refine QJ en51 ?_
   refine peek_w (L := L) (hd := hd) (s := s.next) Wwps fun h3 g3 => ?_
   have hn3 := g3.1; (try simp only [UB, UC] at hn3)
   have hm3 : (tokAt L s.next.k).kind ≠ 6 → s.next.k + 1 < L.length := ps2.wf.more ps2.at_
   (first | rw [if_pos (show tk.text = (⟨#[98, 114, 101, 97, 107]⟩ : ByteArray) by assumption)] at hq0 | rw [if_neg (show ¬tk.text = (⟨#[98, 114, 101, 97, 107]⟩ : ByteArray) by assumption)] at hq0)
   refine QK (Qk ?_);refine QK (QD ?_ ?_);intro hh;refine QQ hX ?_;refine QV hX ?_;refine QK (Qa ?_);refine QK ?_;rotate_left;intro hh;refine QP hX ?_;refine UA ?_;refine QU hX ?_;refine QN hX ?_;refine QK (Qj ?_);refine QK (Qt ?_);refine QK (QB ?_ ?_);intro hh;refine QQ hX ?_;refine QN hX ?_;refine QK (Qu ?_);refine QK (Qa ?_);refine QK ?_;rotate_left;intro hh;exact absurd (by assumption) hh
   ·rw [if_pos (by assumption)] at hq0
    refine QJ en72 ?_
    refine take_w (L := L) (hd := hd) (s := s.next) Wwps (hm3 (by omega)) fun h4 ps4 fr4 => ?_
    have hn4 := fr4.1; (try simp only [UB, UC] at hn4)
    refine QK (Qk ?_);refine QK (Qb ?_);refine QL ?_;refine QU hX ?_;refine QN hX ?_;refine QK (Qj ?_);refine QK (Qt ?_);refine QK (QB ?_ ?_);intro hh;refine QQ hX ?_;refine QN hX ?_;refine QK (Qu ?_);refine QK (Qa ?_);refine QK ?_;rotate_left;intro hh;exact absurd (by assumption) hh
    refine QJ en74 ?_
    refine node_w fun h5 g5 => ?_
    have hn5 := g5.1; (try simp only [UB, UC] at hn5)
    refine QK (Qv ?_);refine QM ?_
    refine ⟨_, Wwres, ?_⟩
    refine hq0 _ _ Wwps Wwfr ⟨_, _, _, rfl, NV.of_kids ?_ _ _ _ _ _ _⟩
    exact (KV.nil _ _)
   ·rw [if_neg (by assumption)] at hq0
    skip
    refine QJ en74 ?_
    refine node_w fun h5 g5 => ?_
    have hn5 := g5.1; (try simp only [UB, UC] at hn5)
    refine QK (Qv ?_);refine QM ?_
    refine ⟨_, Wwres, ?_⟩
    refine hq0 _ _ Wwps Wwfr ⟨_, _, _, rfl, NV.of_kids ?_ _ _ _ _ _ _⟩
    exact (KV.nil _ _)
  ·refine QJ en72 ?_
   refine take_w (L := L) (hd := hd) (s := s) Wwps (hm) fun h2 ps2 fr2 => ?_
   have hn2 := fr2.1; (try simp only [UB, UC] at hn2)
   refine QO hX ?_;refine QK (Qb ?_);refine QL ?_;refine QU hX ?_;refine QN hX ?_;refine QK (Qa ?_);refine QK ?_
   refine QJ en51 ?_
   refine peek_w (L := L) (hd := hd) (s := s.next) Wwps fun h3 g3 => ?_
   have hn3 := g3.1; (try simp only [UB, UC] at hn3)
   have hm3 : (tokAt L s.next.k).kind ≠ 6 → s.next.k + 1 < L.length := ps2.wf.more ps2.at_
   (first | rw [if_pos (show tk.text = (⟨#[98, 114, 101, 97, 107]⟩ : ByteArray) by assumption)] at hq0 | rw [if_neg (show ¬tk.text = (⟨#[98, 114, 101, 97, 107]⟩ : ByteArray) by assumption)] at hq0)
   refine QK (Qk ?_);refine QK (QD ?_ ?_);intro hh;refine QQ hX ?_;refine QV hX ?_;refine QK (Qa ?_);refine QK ?_;rotate_left;intro hh;refine QP hX ?_;refine UA ?_;refine QU hX ?_;refine QN hX ?_;refine QK (Qj ?_);refine QK (Qt ?_);refine QK (QB ?_ ?_);intro hh;exact absurd hh (by assumption);intro hh;refine QP hX ?_;refine UA ?_;refine QN hX ?_;refine QK (Qu ?_);refine QK (Qa ?_);refine QK ?_;rotate_left
   ·rw [if_pos (by assumption)] at hq0
    refine QJ en72 ?_
    refine take_w (L := L) (hd := hd) (s := s.next) Wwps (hm3 (by omega)) fun h4 ps4 fr4 => ?_
    have hn4 := fr4.1; (try simp only [UB, UC] at hn4)
    refine QK (Qk ?_);refine QK (Qb ?_);refine QL ?_;refine QU hX ?_;refine QN hX ?_;refine QK (Qj ?_);refine QK (Qt ?_);refine QK (QB ?_ ?_);intro hh;exact absurd hh (by assumption);intro hh;refine QP hX ?_;refine UA ?_;refine QN hX ?_;refine QK (Qu ?_);refine QK (Qa ?_);refine QK ?_
    refine QJ en74 ?_
    refine node_w fun h5 g5 => ?_
    have hn5 := g5.1; (try simp only [UB, UC] at hn5)
    refine QK (Qv ?_);refine QM ?_
    refine ⟨_, Wwres, ?_⟩
    refine hq0 _ _ Wwps Wwfr ⟨_, _, _, rfl, NV.of_kids ?_ _ _ _ _ _ _⟩
    exact (KV.nil _ _)
   ·rw [if_neg (by assumption)] at hq0
    skip
    refine QJ en74 ?_
    refine node_w fun h5 g5 => ?_
    have hn5 := g5.1; (try simp only [UB, UC] at hn5)
    refine QK (Qv ?_);refine QM ?_
    refine ⟨_, Wwres, ?_⟩
    refine hq0 _ _ Wwps Wwfr ⟨_, _, _, rfl, NV.of_kids ?_ _ _ _ _ _ _⟩
    exact (KV.nil _ _)
  ·refine QJ en72 ?_
   refine take_w (L := L) (hd := hd) (s := s) Wwps (hm) fun h2 ps2 fr2 => ?_
   have hn2 := fr2.1; (try simp only [UB, UC] at hn2)
   refine QO hX ?_;refine QK (Qu ?_);refine QK ?_
   refine QJ en74 ?_
   refine node_w fun h5 g5 => ?_
   have hn5 := g5.1; (try simp only [UB, UC] at hn5)
   refine QK (Qv ?_);refine QM ?_
   refine ⟨_, Wwres, ?_⟩
   refine hq0 _ _ Wwps Wwfr ⟨_, _, _, rfl, NV.of_kids ?_ _ _ _ _ _ _⟩
   exact (KV.nil _ _)
  ·refine QJ en72 ?_
   refine take_w (L := L) (hd := hd) (s := s) Wwps (hm) fun h2 ps2 fr2 => ?_
   have hn2 := fr2.1; (try simp only [UB, UC] at hn2)
   refine QL ?_;refine QU hX ?_;refine QN hX ?_;refine QK (Qa ?_);refine QK (Qy ?_);refine QK ?_
   refine QJ en71 ?_
   refine is_w (L := L) (hd := hd) (s := s.next) (ts := [(⟨#[59]⟩ : ByteArray), (⟨#[125]⟩ : ByteArray), (⟨#[99, 97, 115, 101]⟩ : ByteArray), (⟨#[100, 101, 102, 97, 117, 108, 116]⟩ : ByteArray)]) Wwps Wwobj Wwne rfl (by first | decide | simp) fun h3 g3 => ?_
   have hn3 := g3.1; (try simp only [UB, UC] at hn3)
   cases hb3 : isR L s.next [(⟨#[59]⟩ : ByteArray), (⟨#[125]⟩ : ByteArray), (⟨#[99, 97, 115, 101]⟩ : ByteArray), (⟨#[100, 101, 102, 97, 117, 108, 116]⟩ : ByteArray)]
   ·rw [hb3, if_neg Bool.false_ne_true] at hq0
    refine QP hX ?_;refine UA ?_;refine QU hX ?_;refine WC.drawn (id := 36) hX (l := [⟨0, .read, 0⟩, ⟨1, .pure, 0⟩, ⟨2, .heavy, 2⟩, ⟨3, .alloc, 6⟩, ⟨4, .heavy, 15⟩, ⟨5, .heavy, 31⟩]) (hw := ?_);refine QX (k := Qu ?_);refine QW (k := Qa ?_);refine WD.heavy hX (hw := ?_)
    refine QJ en119 ?_
    refine c.expr Wwps (EndN.use Wwfr hq0 (fun _ _ x => x) fun t4 s4 h4 v4 ps4 fr4 hv4 hq4 => ?_)
    obtain ⟨b4, n4, es4, rfl, kv4⟩ := hv4
    have hn4 := fr4.1; (try simp only [UB, UC] at hn4)
    refine WD.alloc (hw := Qz ?_);refine WD.heavy hX (hw := ?_)
    refine QJ en74 ?_
    refine node_w fun h5 g5 => ?_
    have hn5 := g5.1; (try simp only [UB, UC] at hn5)
    refine WD.heavy hX (hw := Qv ?_);refine WD.nil (hq := ?_);refine WC.ret ?_
    refine ⟨_, Wwres, ?_⟩
    refine hq4 _ _ Wwps Wwfr ⟨_, _, _, rfl, NV.of_kids ?_ _ _ _ _ _ _⟩
    exact (KV.one (S := fun j => h.next ≤ j ∧ j < h4.next) Wwne Wwne Wwobj (kv4.mono Wwne (fun j hS hj => by (try simp only [UB, UC] at hS); exact ⟨⟨Wwne, hj⟩, Wwag⟩)) (fun j hS hj => ⟨hS.1, by have := hS.2; exact Wwne⟩))
   ·rw [hb3, if_pos rfl] at hq0
    refine QQ hX ?_;refine QU hX ?_;refine WC.drawn (id := 35) hX (l := [⟨0, .read, 0⟩, ⟨1, .heavy, 0⟩, ⟨2, .alloc, 2⟩, ⟨3, .heavy, 7⟩, ⟨4, .heavy, 15⟩]) (hw := ?_);refine QX (k := Qu ?_);refine WD.heavy hX (hw := ?_)
    refine QJ en78 ?_
    refine none_w fun h4 g4 => ?_
    have hn4 := g4.1; (try simp only [UB, UC] at hn4)
    refine WD.alloc (hw := Qz ?_);refine WD.heavy hX (hw := ?_)
    refine QJ en74 ?_
    refine node_w fun h5 g5 => ?_
    have hn5 := g5.1; (try simp only [UB, UC] at hn5)
    refine WD.heavy hX (hw := Qv ?_);refine WD.nil (hq := ?_);refine WC.ret ?_
    refine ⟨_, Wwres, ?_⟩
    refine hq0 _ _ Wwps Wwfr ⟨_, _, _, rfl, NV.of_kids ?_ _ _ _ _ _ _⟩
    exact (KV.one (t := noneN) (b := none) (n := 0) (es := 0) (S := fun _ => False) Wwne Wwne Wwobj (.leaf _ _ _ _ _ _) (fun j hS => hS.elim))
  ·have hgo := (by assumption : tk.text = (⟨#[103, 111]⟩ : ByteArray))
   refine QJ en72 ?_
   refine take_w (L := L) (hd := hd) (s := s) Wwps (hm) fun h2 ps2 fr2 => ?_
   have hn2 := fr2.1; (try simp only [UB, UC] at hn2)
   refine QO hX ?_;refine QK (Qb ?_);refine QL ?_;refine QU hX ?_;refine QN hX ?_;refine QK (Qj ?_);refine QK (Qt ?_);refine QK (QB ?_ ?_);intro hh;refine QQ hX ?_;refine QV hX ?_;refine QK (Qb ?_);refine QL ?_;refine QU hX ?_;refine WC.drawn (id := 43) hX (l := [⟨0, .pure, 0⟩, ⟨1, .read, 0⟩, ⟨2, .pure, 0⟩, ⟨3, .heavy, 4⟩, ⟨4, .alloc, 12⟩, ⟨5, .heavy, 31⟩, ⟨6, .heavy, 63⟩]) (hw := ?_);refine QW (k := Qa ?_);refine QX (k := Qu ?_);refine QW (k := Qa ?_);refine WD.heavy hX (hw := ?_);rotate_left;intro hh;refine QP hX ?_;refine UA ?_;refine QU hX ?_;refine WC.drawn (id := 43) hX (l := [⟨0, .pure, 0⟩, ⟨1, .read, 0⟩, ⟨2, .pure, 0⟩, ⟨3, .heavy, 4⟩, ⟨4, .alloc, 12⟩, ⟨5, .heavy, 31⟩, ⟨6, .heavy, 63⟩]) (hw := ?_);refine QW (k := Qa ?_);refine QX (k := Qu ?_);refine QW (k := Qa ?_);refine WD.heavy hX (hw := ?_);rotate_left
   ·exact absurd (hgo.symm.trans (by assumption : tk.text = (⟨#[100, 101, 102, 101, 114]⟩ : ByteArray))) (by decide)
   ·rw [if_neg (by assumption)] at hq0
    refine QJ en122 ?_
    refine call_w c Wwps (EndN.use Wwfr hq0 (fun _ _ x => x) fun t4 s4 h4 v4 ps4 fr4 hv4 hq4 => ?_)
    obtain ⟨b4, n4, es4, rfl, kv4⟩ := hv4
    have hn4 := fr4.1
    (try simp only [UB, UC] at hn4)
    refine WD.alloc (hw := Qz ?_);refine WD.heavy hX (hw := ?_)
    refine QJ en74 ?_
    refine node_w fun h5 g5 => ?_
    have hn5 := g5.1; (try simp only [UB, UC] at hn5)
    refine WD.heavy hX (hw := Qv ?_);refine WD.nil (hq := ?_);refine WC.ret ?_
    refine ⟨_, Wwres, ?_⟩
    refine hq4 _ _ Wwps Wwfr ⟨_, _, _, rfl, NV.of_kids ?_ _ _ _ _ _ _⟩
    exact (KV.one (S := fun j => h.next ≤ j ∧ j < h4.next) Wwne Wwne Wwobj (kv4.mono Wwne (fun j hS hj => by (try simp only [UB, UC] at hS); exact ⟨⟨Wwne, hj⟩, Wwag⟩)) (fun j hS hj => ⟨hS.1, by have := hS.2; exact Wwne⟩))
  ·refine QJ en72 ?_
   refine take_w (L := L) (hd := hd) (s := s) Wwps (hm) fun h2 ps2 fr2 => ?_
   have hn2 := fr2.1; (try simp only [UB, UC] at hn2)
   refine QO hX ?_;refine QK (Qb ?_);refine QL ?_;refine QU hX ?_;refine QN hX ?_;refine QK (Qj ?_);refine QK (Qt ?_);refine QK (QB ?_ ?_);intro hh;refine QQ hX ?_;refine QV hX ?_;refine QK (Qb ?_);refine QL ?_;refine QU hX ?_;refine WC.drawn (id := 43) hX (l := [⟨0, .pure, 0⟩, ⟨1, .read, 0⟩, ⟨2, .pure, 0⟩, ⟨3, .heavy, 4⟩, ⟨4, .alloc, 12⟩, ⟨5, .heavy, 31⟩, ⟨6, .heavy, 63⟩]) (hw := ?_);refine QW (k := Qa ?_);refine QX (k := Qu ?_);refine QW (k := Qa ?_);refine WD.heavy hX (hw := ?_);rotate_left;intro hh;exact absurd (by assumption) hh
   refine QJ en122 ?_
   refine call_w c Wwps (EndN.use Wwfr hq0 (fun _ _ x => x) fun t4 s4 h4 v4 ps4 fr4 hv4 hq4 => ?_)
   obtain ⟨b4, n4, es4, rfl, kv4⟩ := hv4
   have hn4 := fr4.1
   (try simp only [UB, UC] at hn4)
   refine WD.alloc (hw := Qz ?_);refine WD.heavy hX (hw := ?_)
   refine QJ en74 ?_
   refine node_w fun h5 g5 => ?_
   have hn5 := g5.1; (try simp only [UB, UC] at hn5)
   refine WD.heavy hX (hw := Qv ?_);refine WD.nil (hq := ?_);refine WC.ret ?_
   refine ⟨_, Wwres, ?_⟩
   refine hq4 _ _ Wwps Wwfr ⟨_, _, _, rfl, NV.of_kids ?_ _ _ _ _ _ _⟩
   exact (KV.one (S := fun j => h.next ≤ j ∧ j < h4.next) Wwne Wwne Wwobj (kv4.mono Wwne (fun j hS hj => by (try simp only [UB, UC] at hS); exact ⟨⟨Wwne, hj⟩, Wwag⟩)) (fun j hS hj => ⟨hS.1, by have := hS.2; exact Wwne⟩))
  ·rw [← R.then_id (plainF r L hd s)] at hq0
   skip
   refine QJ en118 ?_
   refine plain_w c Wwps (EndN.use Wwfr hq0 (fun _ _ x => x) fun t4 s4 h4 v4 ps4 fr4 hv4 hq4 => ?_)
   obtain ⟨b4, n4, es4, rfl, kv4⟩ := hv4
   have hn4 := fr4.1
   (try simp only [UB, UC] at hn4)
   refine QK (Qv ?_);refine QM ?_
   refine ⟨_, Wwres, ?_⟩
   exact hq4 _ _ Wwps Wwfr ⟨_, _, _, rfl, (kv4.mono Wwne (fun j hS hj => by (try simp only [UB, UC] at hS); exact ⟨Wwne, Wwag⟩))⟩
 ·rw [if_pos hk] at hq0
  generalize tokAt L s.k = tk at *
  refine QK (Qw ?_);refine QK (Qv ?_);refine QL ?_;refine QU hX ?_;refine QN hX ?_;refine QK (Qj ?_);refine QK (Qt ?_);refine QK (QE ?_ ?_);intro hh;refine QQ hX ?_;refine QU hX ?_;refine QN hX ?_;refine QK (Qa ?_);refine QK (Qy ?_);refine QK ?_;rotate_left;intro hh;exfalso;omega
  refine QJ en71 ?_
  refine is_w (L := L) (hd := hd) (s := s) (ts := [(⟨#[123]⟩ : ByteArray)]) Wwps Wwobj Wwne rfl (by first | decide | simp) fun h2 g2 => ?_
  have hn2 := g2.1; (try simp only [UB, UC] at hn2)
  cases hb2 : isR L s [(⟨#[123]⟩ : ByteArray)]
  ·rw [hb2, if_neg Bool.false_ne_true] at hq0
   rw [← R.then_id (plainF r L hd s)] at hq0
   refine QP hX ?_;refine UA ?_;refine QN hX ?_;refine QK (Qa ?_);refine QK ?_
   refine QJ en118 ?_
   refine plain_w c Wwps (EndN.use Wwfr hq0 (fun _ _ x => x) fun t4 s4 h4 v4 ps4 fr4 hv4 hq4 => ?_)
   obtain ⟨b4, n4, es4, rfl, kv4⟩ := hv4
   have hn4 := fr4.1
   (try simp only [UB, UC] at hn4)
   refine QK (Qv ?_);refine QM ?_
   refine ⟨_, Wwres, ?_⟩
   exact hq4 _ _ Wwps Wwfr ⟨_, _, _, rfl, (kv4.mono Wwne (fun j hS hj => by (try simp only [UB, UC] at hS); exact ⟨Wwne, Wwag⟩))⟩
  ·rw [hb2, if_pos rfl] at hq0
   rw [← R.then_id (r.block L hd s)] at hq0
   refine QQ hX ?_;refine QN hX ?_;refine QK (Qa ?_);refine QK ?_
   refine QJ en88 ?_
   refine c.block Wwps (EndN.use Wwfr hq0 (fun _ _ x => x) fun t20 s20 h20 v20 ps20 fr20 hv20 hq20 => ?_)
   obtain ⟨b20, n20, es20, rfl, kv20⟩ := hv20
   have hn20 := fr20.1; (try simp only [UB, UC] at hn20)
   refine QK (Qv ?_);refine QM ?_
   refine ⟨_, Wwres, ?_⟩
   exact hq20 _ _ Wwps Wwfr ⟨_, _, _, rfl, (kv20.mono Wwne (fun j hS hj => by (try simp only [UB, UC] at hS); exact ⟨Wwne, Wwag⟩))⟩

end Go.Proofs.ZL
end
