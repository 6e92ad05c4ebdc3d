/- What is taken of errors.As and of the deferred closure is sound. -/
import Derived.Test.YtoifleamknbeaaaGreatDoorYL1
import Derived.Test.YtoifleamknbeaaaGreatDoorYL4
import Derived.Test.YtoifleamknbeaaaGreatDoorYL5
import Derived.Test.YtoifleamknbeaaaGreatDoorZA4
import Derived.Recover
import Derived.Tactics
import Derived.Tactics2
section
open Go Go.Am Go.RowKit
namespace Go.Proofs.ZL
set_option maxRecDepth 100000
set_option linter.unusedSimpArgs false
set_option linter.unusedVariables false
set_option maxHeartbeats 400000

theorem aB0 {α : Type} {c : Array α} {a : α} (h : c.toList = [a]) : c = #[a] := by
 cases c; simpa using h
theorem yV {α : Type} {c : Array α} {a b : α} (h : c.toList = [a, b]) : c = #[a, b] := by
 cases c; simpa using h

theorem rM {e : Value} {p : Int} (h : xS e = some p) :
  e = .iface 68 (.agg #[.int .i64 p]) ∨ ∃ s, e = .iface 115 (.agg #[.string s, .iface 68 (.agg #[.int .i64 p])]) := by
 unfold xS at h
 split at h
 ·rename_i t cs
  split at h
  ·rename_i ht
   subst ht
   split at h
   ·rename_i q hc
    obtain rfl := Option.some.inj h
    exact Or.inl (by rw [aB0 hc])
   ·cases h
  ·split at h
   ·rename_i ht
    subst ht
    split at h
    ·rename_i s u ds hc
     split at h
     ·rename_i hu
      subst hu
      split at h
      ·rename_i q hd
       obtain rfl := Option.some.inj h
       exact Or.inr ⟨s, by rw [yV hc, aB0 hd]⟩
      ·cases h
     ·cases h
    ·cases h
   ·cases h
 ·cases h

theorem aJ9 {ρ : dB} {a v' : Value} (h : aV ρ (.agg #[a]) v') : ∃ a', v' = .agg #[a'] ∧ aV ρ a a' := by
 have hh := h
 cases h with
 | agg hs hj =>
  rename_i c'
  have hl := aV.fY.1 hh
  obtain ⟨a', l', e, ha, hl'⟩ := hl.cons_inv
  obtain rfl := hl'.iC
  exact ⟨a', by rw [aB0 e], ha⟩
theorem aKx {ρ : dB} {a b v' : Value} (h : aV ρ (.agg #[a, b]) v') : ∃ a' b', v' = .agg #[a', b'] ∧ aV ρ a a' ∧ aV ρ b b' := by
 have hh := h
 cases h with
 | agg hs hj =>
  rename_i c'
  have hl := aV.fY.1 hh
  obtain ⟨a', l', e, ha, hl'⟩ := hl.cons_inv
  obtain ⟨b', l2, e2, hb, hl2⟩ := hl'.cons_inv
  obtain rfl := hl2.iC
  subst e2
  exact ⟨a', b', by rw [yV e], ha, hb⟩
theorem aNf {ρ : dB} {e e' : Value} {p : Int} (h : xS e = some p) (hr : aV ρ e e') : e' = e := by
 rcases rM h with rfl | ⟨s, rfl⟩
 ·cases hr with
  | iface hr =>
   obtain ⟨a', rfl, ha⟩ := aJ9 hr
   cases ha; rfl
 ·cases hr with
  | iface hr =>
   obtain ⟨a', b', rfl, ha, hb⟩ := aKx hr
   cases ha
   cases hb with
   | iface hb =>
    obtain ⟨c', rfl, hc⟩ := aJ9 hb
    cases hc; rfl

theorem o9 {e : Value} {p : Int} {s : ByteArray} (h : rU e = some (p, s)) : e = .iface 74 (.agg #[.iface 51 (iJ p s)]) := by
 unfold rU at h
 split at h
 ·rename_i t cs
  split at h
  ·rename_i ht
   subst ht
   split at h
   ·rename_i u ds hc
    split at h
    ·rename_i hu
     subst hu
     split at h
     ·rename_i q t2 w2 hd
      split at h
      ·rename_i hq
       subst hq
       cases h
       rw [aB0 hc, show ds = #[.int .i64 p, .iface 123 (.string s)] from yV hd]
       rfl
      ·cases h
     ·cases h
    ·cases h
   ·cases h
  ·cases h
 ·cases h

theorem wS {ρ : dB} {p : Int} {s : ByteArray} {v : Value} (h : aV ρ (iJ p s) v) : v = iJ p s := by
 obtain ⟨a', b', rfl, ha, hb⟩ := aKx h
 cases ha
 cases hb with
 | iface hb => cases hb; rfl
theorem aAg {ρ : dB} (p : Int) (s : ByteArray) : aV ρ (iJ p s) (iJ p s) := aV.fY.2 (.cons (.int .i64 p) (.cons (.iface (.string s)) (bU.nil ρ)))

theorem aMm {ρ : dB} {e e' : Value} {p : Int} {s : ByteArray} (h : rU e = some (p, s)) (hr : aV ρ e e') : e' = e := by
 obtain rfl := o9 h
 cases hr with
 | iface hr =>
  obtain ⟨a', rfl, ha⟩ := aJ9 hr
  cases ha with
  | iface ha => rw [wS ha]

theorem aFm {B : Nat} {w0 : World} (hB : 0 < B) (hg : w0.cell? ⟨0, 0, none⟩ = some (.iface 98 (.agg #[.pointer (some ⟨6, 47, none⟩)]))) {C : bS} {args : List Value} {h : aE} {r : bW} (hr : asO C args h = some r)
  {ρ : dB} {w : World} {args' : Array Value} (R : Rel G B w0 ρ h w) (hargs : bU ρ args args'.toList) : Calls Tryz.prog 21 args' w (qQ G B w0 ρ h r) := by
 unfold asO at hr
 split at hr
 case h_2 => cases hr
 rename_i e t i
 obtain ⟨e', l1, ha, he, hargs⟩ := hargs.cons_inv
 obtain ⟨t', l2, ha2, ht, hargs⟩ := hargs.cons_inv
 obtain rfl := hargs.iC
 subst ha2
 have hx : args' = #[e', t'] := yV ha
 subst hx
 have hw : w.cell? ⟨0, 0, none⟩ = some (.iface 98 (.agg #[.pointer (some ⟨6, 47, none⟩)])) := by
  rw [R.below.cell (p := ⟨0, 0, none⟩) hB]; exact hg
 cases ht with
 | iface ht =>
 cases ht with
 | @ptr _ _ b base n hi =>
 have hb : b < w.heap.size := (R.sA i b base n hi).2
 split at hr
 ·rename_i htt
  subst htt
  split at hr
  case h_2 => cases hr
  rename_i p hp
  obtain ⟨h', hs, rfl⟩ := Option.map_eq_some_iff.1 hr
  obtain rfl := aNf hp he
  have hend : ∀ W, Below w.heap.size w W → ∃ W', (storeVar 68 ⟨b, base + 0, none⟩ (.agg #[.int .i64 p])).run Tryz.prog W = .ok () W' ∧
    qQ G B w0 ρ h (.ret (.bool true) h') (.returned (.bool true)) W' := by
   intro W hW
   obtain ⟨W', h1, h2⟩ := nN (P := Tryz.prog) (R.grow hW) hi hs (aV.fY.2 (bU.cons (.int .i64 p) (bU.nil ρ)))
   exact ⟨W', h1, ρ, Ext.same _ (oX hs), h2, .bool true⟩
  rcases rM hp with rfl | ⟨s, rfl⟩
  ·obtain ⟨W', h1, h2⟩ := hend ((((w.alloc (.cells #[.pointer (some ⟨b, base + 0, none⟩)] 69)).alloc (.cells #[.pointer (some ⟨6, 69, none⟩), .pointer (some ⟨w.heap.size, 0, none⟩), .int .u64 150] 81)).alloc (.cells #[.pointer (some ⟨6, 69, none⟩), .pointer (some ⟨w.heap.size, 0, none⟩), .int .u64 150] 81)).alloc (.cells #[.int .i64 p] 68))
    (((((Below.refl _ _).alloc (Nat.le_refl _) _).alloc (by simp) _).alloc (by simp; omega) _).alloc (by simp; omega) _)
   refine (ZLX.aEs (.int .i64 p) ⟨b, base + 0, none⟩ w W' hw hb h1).mono fun ev w' he => ?_
   obtain ⟨rfl, rfl⟩ := he
   exact h2
  ·obtain ⟨W', h1, h2⟩ := hend (((((w.alloc (.cells #[.pointer (some ⟨b, base + 0, none⟩)] 69)).alloc (.cells #[.pointer (some ⟨6, 69, none⟩), .pointer (some ⟨w.heap.size, 0, none⟩), .int .u64 150] 81)).alloc (.cells #[.pointer (some ⟨6, 69, none⟩), .pointer (some ⟨w.heap.size, 0, none⟩), .int .u64 150] 81)).alloc (.cells #[.string s, .iface 68 (.agg #[.int .i64 p])] 115)).alloc (.cells #[.int .i64 p] 68))
    ((((((Below.refl _ _).alloc (Nat.le_refl _) _).alloc (by simp) _).alloc (by simp; omega) _).alloc (by simp; omega) _).alloc (by simp; omega) _)
   refine (ZLX.aHs s (.int .i64 p) ⟨b, base + 0, none⟩ w W' hw hb h1).mono fun ev w' he => ?_
   obtain ⟨rfl, rfl⟩ := he
   exact h2
 ·split at hr
  case isFalse => cases hr
  rename_i htt
  subst htt
  split at hr
  ·cases hr
   cases he
   refine (ZLW.aKe _ w).mono fun ev w' he => ?_
   obtain ⟨rfl, rfl⟩ := he
   exact ⟨ρ, Ext.refl _ _, R, .bool false⟩
  ·split at hr
   case h_2 => cases hr
   rename_i p s hp
   obtain ⟨h', hs, rfl⟩ := Option.map_eq_some_iff.1 hr
   obtain rfl := aMm hp he
   obtain rfl := o9 hp
   obtain ⟨W', h1, h2⟩ := nN (P := Tryz.prog) (R.grow (w' := ((((w.alloc (.cells #[.pointer (some ⟨b, base + 0, none⟩)] 53)).alloc (.cells #[.pointer (some ⟨6, 53, none⟩), .pointer (some ⟨w.heap.size, 0, none⟩), .int .u64 150] 81)).alloc (.cells #[.pointer (some ⟨6, 53, none⟩), .pointer (some ⟨w.heap.size, 0, none⟩), .int .u64 150] 81)).alloc (.cells #[.iface 51 (iJ p s)] 74)).alloc (.cells #[.int .i64 p, .iface 123 (.string s)] 51))
    ((((((Below.refl _ _).alloc (Nat.le_refl _) _).alloc (by simp) _).alloc (by simp; omega) _).alloc (by simp; omega) _).alloc (by simp; omega) _)) hi hs (aAg p s)
   refine (ZLW.aDk (.int .i64 p) (.iface 123 (.string s)) ⟨b, base + 0, none⟩ w W' hw hb h1).mono fun ev w' he => ?_
   obtain ⟨rfl, rfl⟩ := he
   exact ⟨ρ, Ext.same _ (oX hs), h2, .bool true⟩

end Go.Proofs.ZL
end

section
open Go Go.Am Go.RowKit
namespace Go.Proofs.ZL
set_option maxRecDepth 100000
set_option maxHeartbeats 4000000
set_option linter.unusedSimpArgs false
set_option linter.unusedVariables false

theorem aAn (v1 v2 : Value) (w : World) : CallsD Tryz.prog 30 #[v1, v2] .returning w fun e u' w' => (∃ v, e = .returned v) ∧ u' = .returning ∧ Below w.heap.size w w' := by
 have ta : ∀ w : World, (Instr.typeAssert .nilIface 20 51 true).run Tryz.prog w = .ok (.tuple #[.agg #[.int .i64 0, .nilIface], .bool false]) w := fun w => by kernel_rfl
 refine callsD_of_wpS Tryz.func30 rfl fun c₀ cs hu => ?_
 apply wpS_seq
 apply wpS_region
 simp [wpOpsS, go_sem, recoverD, hu, Tryz.ntmps30, Exit.thenS, ta]
 apply wpS_seq
 apply wpS_region
 simp [wpOpsS, go_sem, recoverD, hu, Exit.thenS]
 refine wpS_cond (t := false) (by simp [Act.eval, Array.replicate]) ?_
 simp only [Bool.false_eq_true, if_false]
 refine wpS_of_wp (wp_skip ?_)
 have hb : Below w.heap.size w (w.alloc (.cells #[.int .i64 0, .nilIface] 51)) := (Below.refl _ _).alloc (Nat.le_refl _) _
 cases c₀
 simp_all [bodyPostS, results, Tryz.results30]

theorem yM {B : Nat} {w0 : World} (hm : Tryz.prog.follows .mixedOrders = true) {C : bS} (SC : jK Tryz.prog G B w0 C) {v1 v2 v1' v2' : Value} {ch ch' : List PanicEntry} {h h4 : aE} (hc : qK C v1 v2 ch h = some h4)
  {ρ : dB} {w : World} (R : Rel G B w0 ρ h w) (r1 : aV ρ v1 v1') (r2 : aV ρ v2 v2') (rc : lI ρ ch ch') :
  CallsD Tryz.prog 30 #[v1', v2'] (.panicking ch') w fun e u' w' => (∃ v, e = .returned v) ∧ settle u' = .returning ∧ ∃ ρ', Ext ρ h ρ' h4 ∧ Rel G B w0 ρ' h4 w' := by
 unfold qK at hc
 split at hc
 case h_2 => cases hc
 rename_i p s hp
 split at hc
 case h_2 => cases hc
 rename_i e4 h2 hreg
 cases hc
 have hch : ch' = [⟨.iface 51 (iJ p s), false, false⟩] := by
  unfold aBx at hp
  split at hp
  case h_2 => cases hp
  rename_i u ds
  split at hp
  case isFalse => cases hp
  rename_i hu
  subst hu
  split at hp
  case h_2 => cases hp
  rename_i p2 q w2 hd
  split at hp
  case isFalse => cases hp
  rename_i hq
  subst hq
  cases hp
  have hds : Value.agg ds = iJ p s := by rw [show ds = #[.int .i64 p, .iface 123 (.string s)] from yV hd]; rfl
  rw [hds] at rc
  cases ch' with
  | nil => exact rc.elim
  | cons a l =>
   obtain ⟨ra, rb, rd, re⟩ := rc
   cases l with
   | cons b l => exact re.elim
   | nil =>
    obtain ⟨av, ar, ag⟩ := a
    simp only at ra rb rd
    subst rb; subst rd
    cases ra with
    | iface ra => rw [wS ra]
 subst hch
 have ta : ∀ w : World, (Instr.typeAssert (.iface 51 (iJ p s)) 20 51 true).run Tryz.prog w = .ok (.tuple #[iJ p s, .bool true]) w := fun w => by kernel_rfl
 have R1 : Rel G B w0 (ρ.bE h.next (w.heap.size, 0, 2)) (h.alloc (.cells false [.int .i64 p, .iface 123 (.string s)])) (w.alloc (.cells #[.int .i64 p, .iface 123 (.string s)] 51)) := by
  exact (lK (P := Tryz.prog) R 51 (cs := [.int .i64 p, .iface 123 (.string s)]) (cs' := #[.int .i64 p, .iface 123 (.string s)]) (.cons (.int .i64 p) (.cons (.iface (.string s)) (bU.nil ρ)))).2
 have hx : Ext ρ h (ρ.bE h.next (w.heap.size, 0, 2)) (h.alloc (.cells false [.int .i64 p, .iface 123 (.string s)])) := Ext.bE ρ h _ _
 have r1' := r1.mono (R.qF (w.heap.size, 0, 2))
 have r2' := r2.mono (R.qF (w.heap.size, 0, 2))
 have hup : (ρ.bE h.next (w.heap.size, 0, 2)) h.next = some (w.heap.size, 0, 2) := by simp [dB.bE]
 generalize ρ.bE h.next (w.heap.size, 0, 2) = ρ1 at *
 refine callsD_of_wpS Tryz.func30 rfl fun c₀ cs hu => ?_
 apply wpS_seq
 apply wpS_region
 simp only [iJ] at hu ta
 simp [wpOpsS, go_sem, recoverD, hu, Tryz.ntmps30, Exit.thenS, ta]
 apply wpS_seq
 apply wpS_region
 simp [wpOpsS, go_sem, recoverD, hu, Exit.thenS]
 refine wpS_cond (t := true) (by simp [Act.eval, Array.replicate]) ?_
 simp only [if_true]
 refine wpS_of_wp ?_
 have F1 : ∀ (l : List Value), l.length = 13 → l[0]? = some (.pointer (some ⟨w.heap.size, 0, none⟩)) → bR ρ1 15 (mS v1 v2 h.next) { tmps := #[v1', v2'] ++ l.toArray, defers := [] } := by
  intro l hl h0
  refine ⟨by simp [hl], fun t v ht => ?_, fun t v ht => ?_⟩
  ·unfold mS at ht
   rcases t with _ | _ | _ | t
   ·omega
   ·omega
   ·omega
   ·simp at ht
  ·unfold mS at ht
   rcases t with _ | _ | _ | t
   ·simp at ht; subst ht; simpa using r1'
   ·simp at ht; subst ht; simpa using r2'
   ·simp at ht; subst ht
    have : (#[v1', v2'] ++ l.toArray).getD 2 undef = .pointer (some ⟨w.heap.size, 0, none⟩) := by
     rw [Array.getD_eq_getD_getElem?, Array.getElem?_append_right (by simp)]
     simp [h0]
    simp only
    rw [this]
    exact aV.ptr (base := 0) (off := 0) hup
   ·simp at ht
 have key := uG SC hm 15 oZ true _ _ _ hreg 2 ρ1 _ _ R1 (F1 [.pointer (some ⟨w.heap.size, 0, none⟩), .bool true, .tuple #[.agg #[.int .i64 p, .iface 123 (.string s)], .bool true], .iface 51 (.agg #[.int .i64 p, .iface 123 (.string s)]), .tuple #[.agg #[.int .i64 p, .iface 123 (.string s)], .bool true], .agg #[.int .i64 p, .iface 123 (.string s)], .bool true, .bool true, undef, undef, undef, undef, undef] rfl rfl)
 change Code.wp _ (Code.region 2 oZ true) _ _ _
 refine wp_mono key fun e a' w' hq => ?_
 obtain ⟨hd, ρ', hq⟩ := hq
 cases e <;> first | exact hq.elim | skip
 obtain ⟨h5, h6, h7⟩ := hq
 exact ⟨hd, _, rfl, .tuple #[], by simp [results, Tryz.results30], ⟨_, rfl⟩, rfl, ρ', hx.trans h5, h6⟩

theorem zH : (Tryz.f20).body = some (.seq (.region 0 (aA0 (aJp lE)) false) (.seq (aJp (aAi lE)) (rN (aAp (aAi (aAi lE)))))) := rfl

theorem xW {B : Nat} {w0 : World} (hm : Tryz.prog.follows .mixedOrders = true) {C : bS} (SC : jK Tryz.prog G B w0 C) {args : List Value} {h : aE} {r : bW} (hr : aB9 C args h = some r)
  {ρ : dB} {w : World} {args' : Array Value} (R : Rel G B w0 ρ h w) (hargs : bU ρ args args'.toList) : Calls Tryz.prog 20 args' w (qQ G B w0 ρ h r) := by
 refine yC (P := Tryz.prog) (fn := Tryz.f20) Tryz.func20 zH (by decide +kernel) ?_ ?_ (by decide +kernel) aAn ?_ SC hr R hargs
 ·intro a w Q hs hq
  show Code.wp _ (Code.region _ _ _) Q a w
  have hmf : ∀ (fn : Fn) (first cap : Array Value) (w : World), (Instr.makeFunc fn first cap).run Tryz.prog w = .ok (.func fn first cap) w := fun _ _ _ _ => rfl
  go_wp2
  have h11 : a.tmps.size = 11 := hs
  simpa [Act.put, Array.getD_eq_getD_getElem?, h11] using hq
 ·intro v1 v2 w
  kernel_rfl
 ·intro v1 v2 ch h h4 hc ρ w v1' v2' ch' R r1 r2 rc
  exact yM hm SC hc R r1 r2 rc

theorem aKg {B : Nat} {w0 : World} (hm : Tryz.prog.follows .mixedOrders = true) (hB : 0 < B) (hg : w0.cell? ⟨0, 0, none⟩ = some (.iface 98 (.agg #[.pointer (some ⟨6, 47, none⟩)]))) : aFp Tryz.prog G B w0 X where
 sound := by
  intro f o hf C SC args h r hr ρ w args' R hargs
  unfold X at hf
  split at hf
  ·rename_i hfe
   subst hfe
   cases hf
   exact aFm hB hg hr R hargs
  ·split at hf
   ·rename_i hfe
    subst hfe
    cases hf
    exact xW hm SC hr R hargs
   ·cases hf

end Go.Proofs.ZL
end
