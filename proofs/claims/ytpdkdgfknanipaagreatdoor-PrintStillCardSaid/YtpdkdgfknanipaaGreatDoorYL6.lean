/- What is taken of errors.As and of the deferred closure is sound. -/
import Derived.Test.YtpdkdgfknanipaaGreatDoorYL1
import Derived.Test.YtpdkdgfknanipaaGreatDoorYL4
import Derived.Test.YtpdkdgfknanipaaGreatDoorYL5
import Derived.Test.YtpdkdgfknanipaaGreatDoorZA4
import Derived.Recover
import Derived.Tactics
import Derived.Tactics2
section
open Go Go.Am Go.RowKit
namespace Go.Proofs.ZL
set_option maxRecDepth 100000
set_option linter.unusedSimpArgs false
set_option linter.unusedVariables false
set_option maxHeartbeats 400000

theorem sD {α : Type} {c : Array α} {a : α} (h : c.toList = [a]) : c = #[a] := by
 cases c; simpa using h
theorem uL {α : Type} {c : Array α} {a b : α} (h : c.toList = [a, b]) : c = #[a, b] := by
 cases c; simpa using h

theorem r4 {e : Value} {p : Int} (h : zD e = some p) :
  e = .iface 78 (.agg #[.int .i64 p]) ∨ ∃ s, e = .iface 156 (.agg #[.string s, .iface 78 (.agg #[.int .i64 p])]) := by
 unfold zD at h
 split at h
 ·rename_i t cs
  split at h
  ·rename_i ht
   subst ht
   split at h
   ·rename_i q hc
    obtain rfl := Option.some.inj h
    exact Or.inl (by rw [sD hc])
   ·cases h
  ·split at h
   ·rename_i ht
    subst ht
    split at h
    ·rename_i s u ds hc
     split at h
     ·rename_i hu
      subst hu
      split at h
      ·rename_i q hd
       obtain rfl := Option.some.inj h
       exact Or.inr ⟨s, by rw [uL hc, sD hd]⟩
      ·cases h
     ·cases h
    ·cases h
   ·cases h
 ·cases h

theorem aNp {ρ : Ren} {a v' : Value} (h : bA ρ (.agg #[a]) v') : ∃ a', v' = .agg #[a'] ∧ bA ρ a a' := by
 have hh := h
 cases h with
 | agg hs hj =>
  rename_i c'
  have hl := bA.fI.1 hh
  obtain ⟨a', l', e, ha, hl'⟩ := hl.cons_inv
  obtain rfl := hl'.dN
  exact ⟨a', by rw [sD e], ha⟩
theorem aP7 {ρ : Ren} {a b v' : Value} (h : bA ρ (.agg #[a, b]) v') : ∃ a' b', v' = .agg #[a', b'] ∧ bA ρ a a' ∧ bA ρ b b' := by
 have hh := h
 cases h with
 | agg hs hj =>
  rename_i c'
  have hl := bA.fI.1 hh
  obtain ⟨a', l', e, ha, hl'⟩ := hl.cons_inv
  obtain ⟨b', l2, e2, hb, hl2⟩ := hl'.cons_inv
  obtain rfl := hl2.dN
  subst e2
  exact ⟨a', b', by rw [uL e], ha, hb⟩
theorem aQ9 {ρ : Ren} {e e' : Value} {p : Int} (h : zD e = some p) (hr : bA ρ e e') : e' = e := by
 rcases r4 h with rfl | ⟨s, rfl⟩
 ·cases hr with
  | iface hr =>
   obtain ⟨a', rfl, ha⟩ := aNp hr
   cases ha; rfl
 ·cases hr with
  | iface hr =>
   obtain ⟨a', b', rfl, ha, hb⟩ := aP7 hr
   cases ha
   cases hb with
   | iface hb =>
    obtain ⟨c', rfl, hc⟩ := aNp hb
    cases hc; rfl

theorem qD {e : Value} {p : Int} {s : ByteArray} (h : tC e = some (p, s)) : e = .iface 84 (.agg #[.iface 60 (iW p s)]) := by
 unfold tC at h
 split at h
 ·rename_i t cs
  split at h
  ·rename_i ht
   subst ht
   split at h
   ·rename_i u ds hc
    split at h
    ·rename_i hu
     subst hu
     split at h
     ·rename_i q t2 w2 hd
      split at h
      ·rename_i hq
       subst hq
       cases h
       rw [sD hc, show ds = #[.int .i64 p, .iface 162 (.string s)] from uL hd]
       rfl
      ·cases h
     ·cases h
    ·cases h
   ·cases h
  ·cases h
 ·cases h

theorem yN {ρ : Ren} {p : Int} {s : ByteArray} {v : Value} (h : bA ρ (iW p s) v) : v = iW p s := by
 obtain ⟨a', b', rfl, ha, hb⟩ := aP7 h
 cases ha
 cases hb with
 | iface hb => cases hb; rfl
theorem aCr {ρ : Ren} (p : Int) (s : ByteArray) : bA ρ (iW p s) (iW p s) := bA.fI.2 (.cons (.int .i64 p) (.cons (.iface (.string s)) (bP.nil ρ)))

theorem aRa {ρ : Ren} {e e' : Value} {p : Int} {s : ByteArray} (h : tC e = some (p, s)) (hr : bA ρ e e') : e' = e := by
 obtain rfl := qD h
 cases hr with
 | iface hr =>
  obtain ⟨a', rfl, ha⟩ := aNp hr
  cases ha with
  | iface ha => rw [yN ha]

theorem aGh {B : Nat} {w0 : World} (hB : 0 < B) (hg : w0.cell? ⟨0, 0, none⟩ = some (.iface 116 (.agg #[.pointer (some ⟨7, 56, none⟩)]))) {C : bK} {args : List Value} {h : aA} {r : bR} (hr : asO C args h = some r)
  {ρ : Ren} {w : World} {args' : Array Value} (R : Rel G B w0 ρ h w) (hargs : bP ρ args args'.toList) : Calls Tryz.prog 28 args' w (iP G B w0 ρ h r) := by
 unfold asO at hr
 split at hr
 case h_2 => cases hr
 rename_i e t i
 obtain ⟨e', l1, ha, he, hargs⟩ := hargs.cons_inv
 obtain ⟨t', l2, ha2, ht, hargs⟩ := hargs.cons_inv
 obtain rfl := hargs.dN
 subst ha2
 have hx : args' = #[e', t'] := uL ha
 subst hx
 have hw : w.cell? ⟨0, 0, none⟩ = some (.iface 116 (.agg #[.pointer (some ⟨7, 56, none⟩)])) := by
  rw [R.below.cell (p := ⟨0, 0, none⟩) hB]; exact hg
 cases ht with
 | iface ht =>
 cases ht with
 | @ptr _ _ b base n hi =>
 have hb : b < w.heap.size := (R.qT i b base n hi).2
 split at hr
 ·rename_i htt
  subst htt
  split at hr
  case h_2 => cases hr
  rename_i p hp
  obtain ⟨h', hs, rfl⟩ := Option.map_eq_some_iff.1 hr
  obtain rfl := aQ9 hp he
  have hend : ∀ W, Below w.heap.size w W → ∃ W', (storeVar 78 ⟨b, base + 0, none⟩ (.agg #[.int .i64 p])).run Tryz.prog W = .ok () W' ∧
    iP G B w0 ρ h (.ret (.bool true) h') (.returned (.bool true)) W' := by
   intro W hW
   obtain ⟨W', h1, h2⟩ := oR (P := Tryz.prog) (R.grow hW) hi hs (bA.fI.2 (bP.cons (.int .i64 p) (bP.nil ρ)))
   exact ⟨W', h1, ρ, Ext.same _ (p7 hs), h2, .bool true⟩
  rcases r4 hp with rfl | ⟨s, rfl⟩
  ·obtain ⟨W', h1, h2⟩ := hend ((((w.alloc (.cells #[.pointer (some ⟨b, base + 0, none⟩)] 79)).alloc (.cells #[.pointer (some ⟨7, 79, none⟩), .pointer (some ⟨w.heap.size, 0, none⟩), .int .u64 150] 91)).alloc (.cells #[.pointer (some ⟨7, 79, none⟩), .pointer (some ⟨w.heap.size, 0, none⟩), .int .u64 150] 91)).alloc (.cells #[.int .i64 p] 78))
    (((((Below.refl _ _).alloc (Nat.le_refl _) _).alloc (by simp) _).alloc (by simp; omega) _).alloc (by simp; omega) _)
   refine (ZLX.aGi (.int .i64 p) ⟨b, base + 0, none⟩ w W' hw hb h1).mono fun ev w' he => ?_
   obtain ⟨rfl, rfl⟩ := he
   exact h2
  ·obtain ⟨W', h1, h2⟩ := hend (((((w.alloc (.cells #[.pointer (some ⟨b, base + 0, none⟩)] 79)).alloc (.cells #[.pointer (some ⟨7, 79, none⟩), .pointer (some ⟨w.heap.size, 0, none⟩), .int .u64 150] 91)).alloc (.cells #[.pointer (some ⟨7, 79, none⟩), .pointer (some ⟨w.heap.size, 0, none⟩), .int .u64 150] 91)).alloc (.cells #[.string s, .iface 78 (.agg #[.int .i64 p])] 156)).alloc (.cells #[.int .i64 p] 78))
    ((((((Below.refl _ _).alloc (Nat.le_refl _) _).alloc (by simp) _).alloc (by simp; omega) _).alloc (by simp; omega) _).alloc (by simp; omega) _)
   refine (ZLX.aJj s (.int .i64 p) ⟨b, base + 0, none⟩ w W' hw hb h1).mono fun ev w' he => ?_
   obtain ⟨rfl, rfl⟩ := he
   exact h2
 ·split at hr
  case isFalse => cases hr
  rename_i htt
  subst htt
  split at hr
  ·cases hr
   cases he
   refine (ZLW.aMi _ w).mono fun ev w' he => ?_
   obtain ⟨rfl, rfl⟩ := he
   exact ⟨ρ, Ext.refl _ _, R, .bool false⟩
  ·split at hr
   case h_2 => cases hr
   rename_i p s hp
   obtain ⟨h', hs, rfl⟩ := Option.map_eq_some_iff.1 hr
   obtain rfl := aRa hp he
   obtain rfl := qD hp
   obtain ⟨W', h1, h2⟩ := oR (P := Tryz.prog) (R.grow (w' := ((((w.alloc (.cells #[.pointer (some ⟨b, base + 0, none⟩)] 62)).alloc (.cells #[.pointer (some ⟨7, 62, none⟩), .pointer (some ⟨w.heap.size, 0, none⟩), .int .u64 150] 91)).alloc (.cells #[.pointer (some ⟨7, 62, none⟩), .pointer (some ⟨w.heap.size, 0, none⟩), .int .u64 150] 91)).alloc (.cells #[.iface 60 (iW p s)] 84)).alloc (.cells #[.int .i64 p, .iface 162 (.string s)] 60))
    ((((((Below.refl _ _).alloc (Nat.le_refl _) _).alloc (by simp) _).alloc (by simp; omega) _).alloc (by simp; omega) _).alloc (by simp; omega) _)) hi hs (aCr p s)
   refine (ZLW.aE3 (.int .i64 p) (.iface 162 (.string s)) ⟨b, base + 0, none⟩ w W' hw hb h1).mono fun ev w' he => ?_
   obtain ⟨rfl, rfl⟩ := he
   exact ⟨ρ, Ext.same _ (p7 hs), h2, .bool true⟩

end Go.Proofs.ZL
end

section
open Go Go.Am Go.RowKit
namespace Go.Proofs.ZL
set_option maxRecDepth 100000
set_option maxHeartbeats 4000000
set_option linter.unusedSimpArgs false
set_option linter.unusedVariables false

theorem aCq (v1 v2 : Value) (w : World) : CallsD Tryz.prog 50 #[v1, v2] .returning w fun e u' w' => (∃ v, e = .returned v) ∧ u' = .returning ∧ Below w.heap.size w w' := by
 have ta : ∀ w : World, (Instr.typeAssert .nilIface 20 60 true).run Tryz.prog w = .ok (.tuple #[.agg #[.int .i64 0, .nilIface], .bool false]) w := fun w => by kernel_rfl
 refine callsD_of_wpS Tryz.func50 rfl fun c₀ cs hu => ?_
 apply wpS_seq
 apply wpS_region
 simp [wpOpsS, go_sem, recoverD, hu, Tryz.ntmps50, Exit.thenS, ta]
 apply wpS_seq
 apply wpS_region
 simp [wpOpsS, go_sem, recoverD, hu, Exit.thenS]
 refine wpS_cond (t := false) (by simp [Act.eval, Array.replicate]) ?_
 simp only [Bool.false_eq_true, if_false]
 refine wpS_of_wp (wp_skip ?_)
 have hb : Below w.heap.size w (w.alloc (.cells #[.int .i64 0, .nilIface] 60)) := (Below.refl _ _).alloc (Nat.le_refl _) _
 cases c₀
 simp_all [bodyPostS, results, Tryz.results50]

theorem aAo {B : Nat} {w0 : World} (hm : Tryz.prog.follows .mixedOrders = true) {C : bK} (SC : hZ Tryz.prog G B w0 C) {v1 v2 v1' v2' : Value} {ch ch' : List PanicEntry} {h h4 : aA} (hc : rA C v1 v2 ch h = some h4)
  {ρ : Ren} {w : World} (R : Rel G B w0 ρ h w) (r1 : bA ρ v1 v1') (r2 : bA ρ v2 v2') (rc : lS ρ ch ch') :
  CallsD Tryz.prog 50 #[v1', v2'] (.panicking ch') w fun e u' w' => (∃ v, e = .returned v) ∧ settle u' = .returning ∧ ∃ ρ', Ext ρ h ρ' h4 ∧ Rel G B w0 ρ' h4 w' := by
 unfold rA at hc
 split at hc
 case h_2 => cases hc
 rename_i p s hp
 split at hc
 case h_2 => cases hc
 rename_i e4 h2 hreg
 cases hc
 have hch : ch' = [⟨.iface 60 (iW p s), false, false⟩] := by
  unfold aE1 at hp
  split at hp
  case h_2 => cases hp
  rename_i u ds
  split at hp
  case isFalse => cases hp
  rename_i hu
  subst hu
  split at hp
  case h_2 => cases hp
  rename_i p2 q w2 hd
  split at hp
  case isFalse => cases hp
  rename_i hq
  subst hq
  cases hp
  have hds : Value.agg ds = iW p s := by rw [show ds = #[.int .i64 p, .iface 162 (.string s)] from uL hd]; rfl
  rw [hds] at rc
  cases ch' with
  | nil => exact rc.elim
  | cons a l =>
   obtain ⟨ra, rb, rd, re⟩ := rc
   cases l with
   | cons b l => exact re.elim
   | nil =>
    obtain ⟨av, ar, ag⟩ := a
    simp only at ra rb rd
    subst rb; subst rd
    cases ra with
    | iface ra => rw [yN ra]
 subst hch
 have ta : ∀ w : World, (Instr.typeAssert (.iface 60 (iW p s)) 20 60 true).run Tryz.prog w = .ok (.tuple #[iW p s, .bool true]) w := fun w => by kernel_rfl
 have R1 : Rel G B w0 (ρ.bL h.next (w.heap.size, 0, 2)) (h.alloc (.cells false [.int .i64 p, .iface 162 (.string s)])) (w.alloc (.cells #[.int .i64 p, .iface 162 (.string s)] 60)) := by
  exact (iT (P := Tryz.prog) R 60 (cs := [.int .i64 p, .iface 162 (.string s)]) (cs' := #[.int .i64 p, .iface 162 (.string s)]) (.cons (.int .i64 p) (.cons (.iface (.string s)) (bP.nil ρ)))).2
 have hx : Ext ρ h (ρ.bL h.next (w.heap.size, 0, 2)) (h.alloc (.cells false [.int .i64 p, .iface 162 (.string s)])) := Ext.bL ρ h _ _
 have r1' := r1.mono (R.pR (w.heap.size, 0, 2))
 have r2' := r2.mono (R.pR (w.heap.size, 0, 2))
 have hup : (ρ.bL h.next (w.heap.size, 0, 2)) h.next = some (w.heap.size, 0, 2) := by simp [Ren.bL]
 generalize ρ.bL h.next (w.heap.size, 0, 2) = ρ1 at *
 refine callsD_of_wpS Tryz.func50 rfl fun c₀ cs hu => ?_
 apply wpS_seq
 apply wpS_region
 simp only [iW] at hu ta
 simp [wpOpsS, go_sem, recoverD, hu, Tryz.ntmps50, Exit.thenS, ta]
 apply wpS_seq
 apply wpS_region
 simp [wpOpsS, go_sem, recoverD, hu, Exit.thenS]
 refine wpS_cond (t := true) (by simp [Act.eval, Array.replicate]) ?_
 simp only [if_true]
 refine wpS_of_wp ?_
 have F1 : ∀ (l : List Value), l.length = 13 → l[0]? = some (.pointer (some ⟨w.heap.size, 0, none⟩)) → bU ρ1 15 (nO v1 v2 h.next) { tmps := #[v1', v2'] ++ l.toArray, defers := [] } := by
  intro l hl h0
  refine ⟨by simp [hl], fun t v ht => ?_, fun t v ht => ?_⟩
  ·unfold nO at ht
   rcases t with _ | _ | _ | t
   ·omega
   ·omega
   ·omega
   ·simp at ht
  ·unfold nO at ht
   rcases t with _ | _ | _ | t
   ·simp at ht; subst ht; simpa using r1'
   ·simp at ht; subst ht; simpa using r2'
   ·simp at ht; subst ht
    have : (#[v1', v2'] ++ l.toArray).getD 2 undef = .pointer (some ⟨w.heap.size, 0, none⟩) := by
     rw [Array.getD_eq_getD_getElem?, Array.getElem?_append_right (by simp)]
     simp [h0]
    simp only
    rw [this]
    exact bA.ptr (base := 0) (off := 0) hup
   ·simp at ht
 have key := xB SC hm 15 pK true _ _ _ hreg 2 ρ1 _ _ R1 (F1 [.pointer (some ⟨w.heap.size, 0, none⟩), .bool true, .tuple #[.agg #[.int .i64 p, .iface 162 (.string s)], .bool true], .iface 60 (.agg #[.int .i64 p, .iface 162 (.string s)]), .tuple #[.agg #[.int .i64 p, .iface 162 (.string s)], .bool true], .agg #[.int .i64 p, .iface 162 (.string s)], .bool true, .bool true, undef, undef, undef, undef, undef] rfl rfl)
 change Code.wp _ (Code.region 2 pK true) _ _ _
 refine wp_mono key fun e a' w' hq => ?_
 obtain ⟨hd, ρ', hq⟩ := hq
 cases e <;> first | exact hq.elim | skip
 obtain ⟨h5, h6, h7⟩ := hq
 exact ⟨hd, _, rfl, .tuple #[], by simp [results, Tryz.results50], ⟨_, rfl⟩, rfl, ρ', hx.trans h5, h6⟩

theorem aBv : (Tryz.f27).body = some (.seq (.region 0 (aDk (aNs l6)) false) (.seq (aNs (aDm l6)) (sS (aDs (aDm (aDm l6)))))) := rfl

theorem zT {B : Nat} {w0 : World} (hm : Tryz.prog.follows .mixedOrders = true) {C : bK} (SC : hZ Tryz.prog G B w0 C) {args : List Value} {h : aA} {r : bR} (hr : aEl C args h = some r)
  {ρ : Ren} {w : World} {args' : Array Value} (R : Rel G B w0 ρ h w) (hargs : bP ρ args args'.toList) : Calls Tryz.prog 27 args' w (iP G B w0 ρ h r) := by
 refine y9 (P := Tryz.prog) (fn := Tryz.f27) Tryz.func27 aBv (by decide +kernel) ?_ ?_ (by decide +kernel) aCq ?_ SC hr R hargs
 ·intro a w Q hs hq
  show Code.wp _ (Code.region _ _ _) Q a w
  have hmf : ∀ (fn : Fn) (first cap : Array Value) (w : World), (Instr.makeFunc fn first cap).run Tryz.prog w = .ok (.func fn first cap) w := fun _ _ _ _ => rfl
  go_wp2
  have h11 : a.tmps.size = 11 := hs
  simpa [Act.put, Array.getD_eq_getD_getElem?, h11] using hq
 ·intro v1 v2 w
  kernel_rfl
 ·intro v1 v2 ch h h4 hc ρ w v1' v2' ch' R r1 r2 rc
  exact aAo hm SC hc R r1 r2 rc

end Go.Proofs.ZL
end
