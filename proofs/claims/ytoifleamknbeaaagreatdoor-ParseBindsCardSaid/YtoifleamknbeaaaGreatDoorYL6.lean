/- What is taken of errors.As and of the deferred closure is sound. -/
import Derived.Test.YtoifleamknbeaaaGreatDoorYL1
import Derived.Test.YtoifleamknbeaaaGreatDoorYL4
import Derived.Test.YtoifleamknbeaaaGreatDoorYL5
import Derived.Test.YtoifleamknbeaaaGreatDoorZA4
import Derived.Recover
import Derived.Tactics
import Derived.Tactics2
section
open Go Go.Am Go.RowKit
namespace Go.Proofs.ZL
set_option maxRecDepth 100000
set_option linter.unusedSimpArgs false
set_option linter.unusedVariables false
set_option maxHeartbeats 400000

theorem list1 {α : Type} {c : Array α} {a : α} (h : c.toList = [a]) : c = #[a] := by
 cases c; simpa using h
theorem list2 {α : Type} {c : Array α} {a b : α} (h : c.toList = [a, b]) : c = #[a, b] := by
 cases c; simpa using h

theorem errPos_cases {e : Value} {p : Int} (h : errPos e = some p) :
  e = .iface 68 (.agg #[.int .i64 p]) ∨ ∃ s, e = .iface 115 (.agg #[.string s, .iface 68 (.agg #[.int .i64 p])]) := by
 unfold errPos at h
 split at h
 ·rename_i t cs
  split at h
  ·rename_i ht
   subst ht
   split at h
   ·rename_i q hc
    obtain rfl := Option.some.inj h
    exact Or.inl (by rw [list1 hc])
   ·cases h
  ·split at h
   ·rename_i ht
    subst ht
    split at h
    ·rename_i s u ds hc
     split at h
     ·rename_i hu
      subst hu
      split at h
      ·rename_i q hd
       obtain rfl := Option.some.inj h
       exact Or.inr ⟨s, by rw [list2 hc, list1 hd]⟩
      ·cases h
     ·cases h
    ·cases h
   ·cases h
 ·cases h

theorem rel1 {ρ : Ren} {a v' : Value} (h : VRel ρ (.agg #[a]) v') : ∃ a', v' = .agg #[a'] ∧ VRel ρ a a' := by
 have hh := h
 cases h with
 | agg hs hj =>
  rename_i c'
  have hl := VRel.agg_iff.1 hh
  obtain ⟨a', l', e, ha, hl'⟩ := hl.cons_inv
  obtain rfl := hl'.nil_inv
  exact ⟨a', by rw [list1 e], ha⟩
theorem rel2 {ρ : Ren} {a b v' : Value} (h : VRel ρ (.agg #[a, b]) v') : ∃ a' b', v' = .agg #[a', b'] ∧ VRel ρ a a' ∧ VRel ρ b b' := by
 have hh := h
 cases h with
 | agg hs hj =>
  rename_i c'
  have hl := VRel.agg_iff.1 hh
  obtain ⟨a', l', e, ha, hl'⟩ := hl.cons_inv
  obtain ⟨b', l2, e2, hb, hl2⟩ := hl'.cons_inv
  obtain rfl := hl2.nil_inv
  subst e2
  exact ⟨a', b', by rw [list2 e], ha, hb⟩
theorem relE {ρ : Ren} {e e' : Value} {p : Int} (h : errPos e = some p) (hr : VRel ρ e e') : e' = e := by
 rcases errPos_cases h with rfl | ⟨s, rfl⟩
 ·cases hr with
  | iface hr =>
   obtain ⟨a', rfl, ha⟩ := rel1 hr
   cases ha; rfl
 ·cases hr with
  | iface hr =>
   obtain ⟨a', b', rfl, ha, hb⟩ := rel2 hr
   cases ha
   cases hb with
   | iface hb =>
    obtain ⟨c', rfl, hc⟩ := rel1 hb
    cases hc; rfl

theorem wrongPos_cases {e : Value} {p : Int} {s : ByteArray} (h : wrongPos e = some (p, s)) : e = .iface 74 (.agg #[.iface 51 (wrongA p s)]) := by
 unfold wrongPos at h
 split at h
 ·rename_i t cs
  split at h
  ·rename_i ht
   subst ht
   split at h
   ·rename_i u ds hc
    split at h
    ·rename_i hu
     subst hu
     split at h
     ·rename_i q t2 w2 hd
      split at h
      ·rename_i hq
       subst hq
       cases h
       rw [list1 hc, show ds = #[.int .i64 p, .iface 123 (.string s)] from list2 hd]
       rfl
      ·cases h
     ·cases h
    ·cases h
   ·cases h
  ·cases h
 ·cases h

theorem closed_eq {ρ : Ren} {p : Int} {s : ByteArray} {v : Value} (h : VRel ρ (wrongA p s) v) : v = wrongA p s := by
 obtain ⟨a', b', rfl, ha, hb⟩ := rel2 h
 cases ha
 cases hb with
 | iface hb => cases hb; rfl
theorem closed_rel {ρ : Ren} (p : Int) (s : ByteArray) : VRel ρ (wrongA p s) (wrongA p s) := VRel.agg_iff.2 (.cons (.int .i64 p) (.cons (.iface (.string s)) (LRel.nil ρ)))

theorem relW {ρ : Ren} {e e' : Value} {p : Int} {s : ByteArray} (h : wrongPos e = some (p, s)) (hr : VRel ρ e e') : e' = e := by
 obtain rfl := wrongPos_cases h
 cases hr with
 | iface hr =>
  obtain ⟨a', rfl, ha⟩ := rel1 hr
  cases ha with
  | iface ha => rw [closed_eq ha]

theorem as_sound {B : Nat} {w0 : World} (hB : 0 < B) (hg : w0.cell? ⟨0, 0, none⟩ = some (.iface 98 (.agg #[.pointer (some ⟨6, 47, none⟩)]))) {C : CallFn} {args : List Value} {h : Heap} {r : ARes} (hr : asO C args h = some r)
  {ρ : Ren} {w : World} {args' : Array Value} (R : Rel G B w0 ρ h w) (hargs : LRel ρ args args'.toList) : Calls Tryz.prog 21 args' w (EndRel G B w0 ρ h r) := by
 unfold asO at hr
 split at hr
 case h_2 => cases hr
 rename_i e t i
 obtain ⟨e', l1, ha, he, hargs⟩ := hargs.cons_inv
 obtain ⟨t', l2, ha2, ht, hargs⟩ := hargs.cons_inv
 obtain rfl := hargs.nil_inv
 subst ha2
 have hx : args' = #[e', t'] := list2 ha
 subst hx
 have hw : w.cell? ⟨0, 0, none⟩ = some (.iface 98 (.agg #[.pointer (some ⟨6, 47, none⟩)])) := by
  rw [R.below.cell (p := ⟨0, 0, none⟩) hB]; exact hg
 cases ht with
 | iface ht =>
 cases ht with
 | @ptr _ _ b base n hi =>
 have hb : b < w.heap.size := (R.dom i b base n hi).2
 split at hr
 ·rename_i htt
  subst htt
  split at hr
  case h_2 => cases hr
  rename_i p hp
  obtain ⟨h', hs, rfl⟩ := Option.map_eq_some_iff.1 hr
  obtain rfl := relE hp he
  have hend : ∀ W, Below w.heap.size w W → ∃ W', (storeVar 68 ⟨b, base + 0, none⟩ (.agg #[.int .i64 p])).run Tryz.prog W = .ok () W' ∧
    EndRel G B w0 ρ h (.ret (.bool true) h') (.returned (.bool true)) W' := by
   intro W hW
   obtain ⟨W', h1, h2⟩ := storeA_sound (P := Tryz.prog) (R.grow hW) hi hs (VRel.agg_iff.2 (LRel.cons (.int .i64 p) (LRel.nil ρ)))
   exact ⟨W', h1, ρ, Ext.same _ (storeA_next hs), h2, .bool true⟩
  rcases errPos_cases hp with rfl | ⟨s, rfl⟩
  ·obtain ⟨W', h1, h2⟩ := hend ((((w.alloc (.cells #[.pointer (some ⟨b, base + 0, none⟩)] 69)).alloc (.cells #[.pointer (some ⟨6, 69, none⟩), .pointer (some ⟨w.heap.size, 0, none⟩), .int .u64 150] 81)).alloc (.cells #[.pointer (some ⟨6, 69, none⟩), .pointer (some ⟨w.heap.size, 0, none⟩), .int .u64 150] 81)).alloc (.cells #[.int .i64 p] 68))
    (((((Below.refl _ _).alloc (Nat.le_refl _) _).alloc (by simp) _).alloc (by simp; omega) _).alloc (by simp; omega) _)
   refine (ZLX.as_stuck (.int .i64 p) ⟨b, base + 0, none⟩ w W' hw hb h1).mono fun ev w' he => ?_
   obtain ⟨rfl, rfl⟩ := he
   exact h2
  ·obtain ⟨W', h1, h2⟩ := hend (((((w.alloc (.cells #[.pointer (some ⟨b, base + 0, none⟩)] 69)).alloc (.cells #[.pointer (some ⟨6, 69, none⟩), .pointer (some ⟨w.heap.size, 0, none⟩), .int .u64 150] 81)).alloc (.cells #[.pointer (some ⟨6, 69, none⟩), .pointer (some ⟨w.heap.size, 0, none⟩), .int .u64 150] 81)).alloc (.cells #[.string s, .iface 68 (.agg #[.int .i64 p])] 115)).alloc (.cells #[.int .i64 p] 68))
    ((((((Below.refl _ _).alloc (Nat.le_refl _) _).alloc (by simp) _).alloc (by simp; omega) _).alloc (by simp; omega) _).alloc (by simp; omega) _)
   refine (ZLX.as_long s (.int .i64 p) ⟨b, base + 0, none⟩ w W' hw hb h1).mono fun ev w' he => ?_
   obtain ⟨rfl, rfl⟩ := he
   exact h2
 ·split at hr
  case isFalse => cases hr
  rename_i htt
  subst htt
  split at hr
  ·cases hr
   cases he
   refine (ZLW.as_nil _ w).mono fun ev w' he => ?_
   obtain ⟨rfl, rfl⟩ := he
   exact ⟨ρ, Ext.refl _ _, R, .bool false⟩
  ·split at hr
   case h_2 => cases hr
   rename_i p s hp
   obtain ⟨h', hs, rfl⟩ := Option.map_eq_some_iff.1 hr
   obtain rfl := relW hp he
   obtain rfl := wrongPos_cases hp
   obtain ⟨W', h1, h2⟩ := storeA_sound (P := Tryz.prog) (R.grow (w' := ((((w.alloc (.cells #[.pointer (some ⟨b, base + 0, none⟩)] 53)).alloc (.cells #[.pointer (some ⟨6, 53, none⟩), .pointer (some ⟨w.heap.size, 0, none⟩), .int .u64 150] 81)).alloc (.cells #[.pointer (some ⟨6, 53, none⟩), .pointer (some ⟨w.heap.size, 0, none⟩), .int .u64 150] 81)).alloc (.cells #[.iface 51 (wrongA p s)] 74)).alloc (.cells #[.int .i64 p, .iface 123 (.string s)] 51))
    ((((((Below.refl _ _).alloc (Nat.le_refl _) _).alloc (by simp) _).alloc (by simp; omega) _).alloc (by simp; omega) _).alloc (by simp; omega) _)) hi hs (closed_rel p s)
   refine (ZLW.as_syntax (.int .i64 p) (.iface 123 (.string s)) ⟨b, base + 0, none⟩ w W' hw hb h1).mono fun ev w' he => ?_
   obtain ⟨rfl, rfl⟩ := he
   exact ⟨ρ, Ext.same _ (storeA_next hs), h2, .bool true⟩

end Go.Proofs.ZL
end

section
open Go Go.Am Go.RowKit
namespace Go.Proofs.ZL
set_option maxRecDepth 100000
set_option maxHeartbeats 4000000
set_option linter.unusedSimpArgs false
set_option linter.unusedVariables false

theorem catch_idle (v1 v2 : Value) (w : World) : CallsD Tryz.prog 30 #[v1, v2] .returning w fun e u' w' => (∃ v, e = .returned v) ∧ u' = .returning ∧ Below w.heap.size w w' := by
 have ta : ∀ w : World, (Instr.typeAssert .nilIface 20 51 true).run Tryz.prog w = .ok (.tuple #[.agg #[.int .i64 0, .nilIface], .bool false]) w := fun w => by kernel_rfl
 refine callsD_of_wpS Tryz.func30 rfl fun c₀ cs hu => ?_
 apply wpS_seq
 apply wpS_region
 simp [wpOpsS, go_sem, recoverD, hu, Tryz.ntmps30, Exit.thenS, ta]
 apply wpS_seq
 apply wpS_region
 simp [wpOpsS, go_sem, recoverD, hu, Exit.thenS]
 refine wpS_cond (t := false) (by simp [Act.eval, Array.replicate]) ?_
 simp only [Bool.false_eq_true, if_false]
 refine wpS_of_wp (wp_skip ?_)
 have hb : Below w.heap.size w (w.alloc (.cells #[.int .i64 0, .nilIface] 51)) := (Below.refl _ _).alloc (Nat.le_refl _) _
 cases c₀
 simp_all [bodyPostS, results, Tryz.results30]

theorem catch_panic {B : Nat} {w0 : World} (hm : Tryz.prog.follows .mixedOrders = true) {C : CallFn} (SC : SoundC Tryz.prog G B w0 C) {v1 v2 v1' v2' : Value} {ch ch' : List PanicEntry} {h h4 : Heap} (hc : catchP C v1 v2 ch h = some h4)
  {ρ : Ren} {w : World} (R : Rel G B w0 ρ h w) (r1 : VRel ρ v1 v1') (r2 : VRel ρ v2 v2') (rc : ChRel ρ ch ch') :
  CallsD Tryz.prog 30 #[v1', v2'] (.panicking ch') w fun e u' w' => (∃ v, e = .returned v) ∧ settle u' = .returning ∧ ∃ ρ', Ext ρ h ρ' h4 ∧ Rel G B w0 ρ' h4 w' := by
 unfold catchP at hc
 split at hc
 case h_2 => cases hc
 rename_i p s hp
 split at hc
 case h_2 => cases hc
 rename_i e4 h2 hreg
 cases hc
 have hch : ch' = [⟨.iface 51 (wrongA p s), false, false⟩] := by
  unfold wrongCh at hp
  split at hp
  case h_2 => cases hp
  rename_i u ds
  split at hp
  case isFalse => cases hp
  rename_i hu
  subst hu
  split at hp
  case h_2 => cases hp
  rename_i p2 q w2 hd
  split at hp
  case isFalse => cases hp
  rename_i hq
  subst hq
  cases hp
  have hds : Value.agg ds = wrongA p s := by rw [show ds = #[.int .i64 p, .iface 123 (.string s)] from list2 hd]; rfl
  rw [hds] at rc
  cases ch' with
  | nil => exact rc.elim
  | cons a l =>
   obtain ⟨ra, rb, rd, re⟩ := rc
   cases l with
   | cons b l => exact re.elim
   | nil =>
    obtain ⟨av, ar, ag⟩ := a
    simp only at ra rb rd
    subst rb; subst rd
    cases ra with
    | iface ra => rw [closed_eq ra]
 subst hch
 have ta : ∀ w : World, (Instr.typeAssert (.iface 51 (wrongA p s)) 20 51 true).run Tryz.prog w = .ok (.tuple #[wrongA p s, .bool true]) w := fun w => by kernel_rfl
 have R1 : Rel G B w0 (ρ.upd h.next (w.heap.size, 0, 2)) (h.alloc (.cells false [.int .i64 p, .iface 123 (.string s)])) (w.alloc (.cells #[.int .i64 p, .iface 123 (.string s)] 51)) := by
  exact (newA_sound (P := Tryz.prog) R 51 (cs := [.int .i64 p, .iface 123 (.string s)]) (cs' := #[.int .i64 p, .iface 123 (.string s)]) (.cons (.int .i64 p) (.cons (.iface (.string s)) (LRel.nil ρ)))).2
 have hx : Ext ρ h (ρ.upd h.next (w.heap.size, 0, 2)) (h.alloc (.cells false [.int .i64 p, .iface 123 (.string s)])) := Ext.upd ρ h _ _
 have r1' := r1.mono (R.le_upd (w.heap.size, 0, 2))
 have r2' := r2.mono (R.le_upd (w.heap.size, 0, 2))
 have hup : (ρ.upd h.next (w.heap.size, 0, 2)) h.next = some (w.heap.size, 0, 2) := by simp [Ren.upd]
 generalize ρ.upd h.next (w.heap.size, 0, 2) = ρ1 at *
 refine callsD_of_wpS Tryz.func30 rfl fun c₀ cs hu => ?_
 apply wpS_seq
 apply wpS_region
 simp only [wrongA] at hu ta
 simp [wpOpsS, go_sem, recoverD, hu, Tryz.ntmps30, Exit.thenS, ta]
 apply wpS_seq
 apply wpS_region
 simp [wpOpsS, go_sem, recoverD, hu, Exit.thenS]
 refine wpS_cond (t := true) (by simp [Act.eval, Array.replicate]) ?_
 simp only [if_true]
 refine wpS_of_wp ?_
 have F1 : ∀ (l : List Value), l.length = 13 → l[0]? = some (.pointer (some ⟨w.heap.size, 0, none⟩)) → FrameRel ρ1 15 (catchEnv v1 v2 h.next) { tmps := #[v1', v2'] ++ l.toArray, defers := [] } := by
  intro l hl h0
  refine ⟨by simp [hl], fun t v ht => ?_, fun t v ht => ?_⟩
  ·unfold catchEnv at ht
   rcases t with _ | _ | _ | t
   ·omega
   ·omega
   ·omega
   ·simp at ht
  ·unfold catchEnv at ht
   rcases t with _ | _ | _ | t
   ·simp at ht; subst ht; simpa using r1'
   ·simp at ht; subst ht; simpa using r2'
   ·simp at ht; subst ht
    have : (#[v1', v2'] ++ l.toArray).getD 2 undef = .pointer (some ⟨w.heap.size, 0, none⟩) := by
     rw [Array.getD_eq_getD_getElem?, Array.getElem?_append_right (by simp)]
     simp [h0]
    simp only
    rw [this]
    exact VRel.ptr (base := 0) (off := 0) hup
   ·simp at ht
 have key := regA_sound SC hm 15 catchOps true _ _ _ hreg 2 ρ1 _ _ R1 (F1 [.pointer (some ⟨w.heap.size, 0, none⟩), .bool true, .tuple #[.agg #[.int .i64 p, .iface 123 (.string s)], .bool true], .iface 51 (.agg #[.int .i64 p, .iface 123 (.string s)]), .tuple #[.agg #[.int .i64 p, .iface 123 (.string s)], .bool true], .agg #[.int .i64 p, .iface 123 (.string s)], .bool true, .bool true, undef, undef, undef, undef, undef] rfl rfl)
 change Code.wp _ (Code.region 2 catchOps true) _ _ _
 refine wp_mono key fun e a' w' hq => ?_
 obtain ⟨hd, ρ', hq⟩ := hq
 cases e <;> first | exact hq.elim | skip
 obtain ⟨h5, h6, h7⟩ := hq
 exact ⟨hd, _, rfl, .tuple #[], by simp [results, Tryz.results30], ⟨_, rfl⟩, rfl, ρ', hx.trans h5, h6⟩

theorem parsed_code : (Tryz.f20).body = some (.seq (.region 0 (regOps (seqL parsedBody)) false) (.seq (seqL (seqR parsedBody)) (regsCode (toRegs (seqR (seqR parsedBody)))))) := rfl

theorem parsed_sound {B : Nat} {w0 : World} (hm : Tryz.prog.follows .mixedOrders = true) {C : CallFn} (SC : SoundC Tryz.prog G B w0 C) {args : List Value} {h : Heap} {r : ARes} (hr : parsedO C args h = some r)
  {ρ : Ren} {w : World} {args' : Array Value} (R : Rel G B w0 ρ h w) (hargs : LRel ρ args args'.toList) : Calls Tryz.prog 20 args' w (EndRel G B w0 ρ h r) := by
 refine deferO_sound (P := Tryz.prog) (fn := Tryz.f20) Tryz.func20 parsed_code (by decide +kernel) ?_ ?_ (by decide +kernel) catch_idle ?_ SC hr R hargs
 ·intro a w Q hs hq
  show Code.wp _ (Code.region _ _ _) Q a w
  have hmf : ∀ (fn : Fn) (first cap : Array Value) (w : World), (Instr.makeFunc fn first cap).run Tryz.prog w = .ok (.func fn first cap) w := fun _ _ _ _ => rfl
  go_wp2
  have h11 : a.tmps.size = 11 := hs
  simpa [Act.put, Array.getD_eq_getD_getElem?, h11] using hq
 ·intro v1 v2 w
  kernel_rfl
 ·intro v1 v2 ch h h4 hc ρ w v1' v2' ch' R r1 r2 rc
  exact catch_panic hm SC hc R r1 r2 rc

theorem ext_ok {B : Nat} {w0 : World} (hm : Tryz.prog.follows .mixedOrders = true) (hB : 0 < B) (hg : w0.cell? ⟨0, 0, none⟩ = some (.iface 98 (.agg #[.pointer (some ⟨6, 47, none⟩)]))) : ExtOk Tryz.prog G B w0 X where
 sound := by
  intro f o hf C SC args h r hr ρ w args' R hargs
  unfold X at hf
  split at hf
  ·rename_i hfe
   subst hfe
   cases hf
   exact as_sound hB hg hr R hargs
  ·split at hf
   ·rename_i hfe
    subst hfe
    cases hf
    exact parsed_sound hm SC hr R hargs
   ·cases hf

end Go.Proofs.ZL
end
