/- errors.As: the oracle of the walk is sound -/
import Derived.Test.YtfooolbjhhfbiaaDoorZL1
import Derived.Test.YtfooolbjhhfbiaaDoorZLy
import Derived.Test.YtfooolbjhhfbiaaDoorZA4
open Go Go.Am Go.RowKit
namespace Go.Proofs.ZL
set_option maxRecDepth 100000
set_option maxHeartbeats 400000

theorem list1 {α : Type} {c : Array α} {a : α} (h : c.toList = [a]) : c = #[a] := by
  cases c; simpa using h
theorem list2 {α : Type} {c : Array α} {a b : α} (h : c.toList = [a, b]) : c = #[a, b] := by
  cases c; simpa using h

theorem errPos_cases {e : Value} {p : Int} (h : errPos e = some p) :
    e = .iface 47 (.agg #[.int .i64 p]) ∨ ∃ s, e = .iface 81 (.agg #[.string s, .iface 47 (.agg #[.int .i64 p])]) := by
  unfold errPos at h
  split at h
  · rename_i t cs
    split at h
    · rename_i ht
      subst ht
      split at h
      · rename_i q hc
        obtain rfl := Option.some.inj h
        exact Or.inl (by rw [list1 hc])
      · cases h
    · split at h
      · rename_i ht
        subst ht
        split at h
        · rename_i s u ds hc
          split at h
          · rename_i hu
            subst hu
            split at h
            · rename_i q hd
              obtain rfl := Option.some.inj h
              exact Or.inr ⟨s, by rw [list2 hc, list1 hd]⟩
            · cases h
          · cases h
        · cases h
      · cases h
  · cases h

theorem rel1 {ρ : Ren} {a v' : Value} (h : VRel ρ (.agg #[a]) v') : ∃ a', v' = .agg #[a'] ∧ VRel ρ a a' := by
  have hh := h
  cases h with
  | agg hs hj =>
    rename_i c'
    have hl := VRel.agg_iff.1 hh
    obtain ⟨a', l', e, ha, hl'⟩ := hl.cons_inv
    obtain rfl := hl'.nil_inv
    exact ⟨a', by rw [list1 e], ha⟩
theorem rel2 {ρ : Ren} {a b v' : Value} (h : VRel ρ (.agg #[a, b]) v') : ∃ a' b', v' = .agg #[a', b'] ∧ VRel ρ a a' ∧ VRel ρ b b' := by
  have hh := h
  cases h with
  | agg hs hj =>
    rename_i c'
    have hl := VRel.agg_iff.1 hh
    obtain ⟨a', l', e, ha, hl'⟩ := hl.cons_inv
    obtain ⟨b', l2, e2, hb, hl2⟩ := hl'.cons_inv
    obtain rfl := hl2.nil_inv
    subst e2
    exact ⟨a', b', by rw [list2 e], ha, hb⟩
theorem relE {ρ : Ren} {e e' : Value} {p : Int} (h : errPos e = some p) (hr : VRel ρ e e') : e' = e := by
  rcases errPos_cases h with rfl | ⟨s, rfl⟩
  · cases hr with
    | iface hr =>
      obtain ⟨a', rfl, ha⟩ := rel1 hr
      cases ha; rfl
  · cases hr with
    | iface hr =>
      obtain ⟨a', b', rfl, ha, hb⟩ := rel2 hr
      cases ha
      cases hb with
      | iface hb =>
        obtain ⟨c', rfl, hc⟩ := rel1 hb
        cases hc; rfl

theorem asO_sound {B : Nat} {w0 : World} (hB : 0 < B) (hg : w0.cell? ⟨0, 0, none⟩ = some (.iface 68 (.agg #[.pointer (some ⟨6, 44, none⟩)]))) : ExtOk Tryd.prog G B w0 X where
  sound := by
    intro f o hf C SC args h r hr ρ w args' R hargs
    unfold X at hf
    split at hf
    · rename_i h16
      subst h16
      obtain rfl := Option.some.inj hf
      unfold asO at hr
      split at hr
      · rename_i e i
        split at hr
        · rename_i p hp
          obtain ⟨h', hs, rfl⟩ := Option.map_eq_some_iff.1 hr
          obtain ⟨e', l1, ha, he, hargs⟩ := hargs.cons_inv
          obtain ⟨t', l2, ha2, ht, hargs⟩ := hargs.cons_inv
          obtain rfl := hargs.nil_inv
          subst ha2
          have hx : args' = #[e', t'] := list2 ha
          subst hx
          obtain rfl := relE hp he
          cases ht with
          | iface ht =>
            cases ht with
            | @ptr _ _ b base n hi =>
              have hw : w.cell? ⟨0, 0, none⟩ = some (.iface 68 (.agg #[.pointer (some ⟨6, 44, none⟩)])) := by
                rw [R.below.cell (p := ⟨0, 0, none⟩) hB]; exact hg
              have hb : b < w.heap.size := (R.dom i b base n hi).2
              have hend : ∀ W, Below w.heap.size w W → ∃ W', (storeVar 47 ⟨b, base + 0, none⟩ (.agg #[.int .i64 p])).run Tryd.prog W = .ok () W' ∧
                  EndRel G B w0 ρ h (.ret (.bool true) h') (.returned (.bool true)) W' := by
                intro W hW
                obtain ⟨W', h1, h2⟩ := storeA_sound (P := Tryd.prog) (R.grow hW) hi hs (VRel.agg_iff.2 (LRel.cons (.int .i64 p) (LRel.nil ρ)))
                exact ⟨W', h1, ρ, Ext.same _ (storeA_next hs), h2, .bool true⟩
              rcases errPos_cases hp with rfl | ⟨s, rfl⟩
              · obtain ⟨W', h1, h2⟩ := hend ((((w.alloc (.cells #[.pointer (some ⟨b, base + 0, none⟩)] 49)).alloc (.cells #[.pointer (some ⟨6, 49, none⟩), .pointer (some ⟨w.heap.size, 0, none⟩), .int .u64 150] 56)).alloc (.cells #[.pointer (some ⟨6, 49, none⟩), .pointer (some ⟨w.heap.size, 0, none⟩), .int .u64 150] 56)).alloc (.cells #[.int .i64 p] 47))
                  (((((Below.refl _ _).alloc (Nat.le_refl _) _).alloc (by simp) _).alloc (by simp; omega) _).alloc (by simp; omega) _)
                refine (ZLX.as_stuck (.int .i64 p) ⟨b, base + 0, none⟩ w W' hw hb h1).mono fun ev w' he => ?_
                obtain ⟨rfl, rfl⟩ := he
                exact h2
              · obtain ⟨W', h1, h2⟩ := hend (((((w.alloc (.cells #[.pointer (some ⟨b, base + 0, none⟩)] 49)).alloc (.cells #[.pointer (some ⟨6, 49, none⟩), .pointer (some ⟨w.heap.size, 0, none⟩), .int .u64 150] 56)).alloc (.cells #[.pointer (some ⟨6, 49, none⟩), .pointer (some ⟨w.heap.size, 0, none⟩), .int .u64 150] 56)).alloc (.cells #[.string s, .iface 47 (.agg #[.int .i64 p])] 81)).alloc (.cells #[.int .i64 p] 47))
                  ((((((Below.refl _ _).alloc (Nat.le_refl _) _).alloc (by simp) _).alloc (by simp; omega) _).alloc (by simp; omega) _).alloc (by simp; omega) _)
                refine (ZLX.as_long s (.int .i64 p) ⟨b, base + 0, none⟩ w W' hw hb h1).mono fun ev w' he => ?_
                obtain ⟨rfl, rfl⟩ := he
                exact h2
        · cases hr
      · cases hr
    · cases hf
end Go.Proofs.ZL
