/- The library's functions that are taken as they are: they are sound. -/
import Derived.Test.YtpdkdgfknanipaaGreatDoorYL6
import Derived.Test.YtpdkdgfknanipaaGreatDoorYXA
import Derived.Test.YtpdkdgfknanipaaGreatDoorYXB
import Derived.Test.YtpdkdgfknanipaaGreatDoorYXC
import Derived.Lib.AppendIntMem
open Go Go.Am Go.RowKit
namespace Go.Proofs.ZL
set_option maxRecDepth 100000
set_option maxHeartbeats 4000000
set_option linter.unusedSimpArgs false
set_option linter.unusedVariables false

section
variable {B : Nat} {w0 : World} {ρ : Am.Ren} {h : aA} {w : World} {args : List Value} {args' : Array Value} {r : bR} {C : bK}

theorem pY (R : Rel G B w0 ρ h w) {v v' : Value} (hv : bA ρ v v') {w' : World} (hb : Below w.heap.size w w') : iP G B w0 ρ h (.ret v h) (.returned v') w' := ⟨ρ, Ext.refl _ _, R.grow hb, hv⟩

theorem aC7 (ht : ∀ w, Below B w0 w → Lib.TabIs Tryz.prog w "internal/strconv.uint64pow10" .u64 Lib.pow10Tab) (hr : aBd C args h = some r) (R : Rel G B w0 ρ h w) (hargs : bP ρ args args'.toList) : Calls Tryz.prog 56 args' w (iP G B w0 ρ h r) := by
 unfold aBd at hr
 split at hr
 case h_2 => cases hr
 rename_i n
 split at hr
 case isFalse => cases hr
 rename_i hn
 cases hr
 obtain ⟨n', l1, ha, hn', hl⟩ := hargs.cons_inv
 obtain rfl := hl.dN
 obtain rfl : args' = #[n'] := sD ha
 cases hn'
 refine (Tryz.strconv_Itoa n (by omega) (by omega) w (ht w R.below)).mono ?_
 rintro e w' ⟨rfl, k, os, rfl⟩
 exact pY R (.string _) (Lib.below_grow _ w (Nat.le_refl _) k os)

theorem aFv (hr : aIi C args h = some r) (R : Rel G B w0 ρ h w) (hargs : bP ρ args args'.toList) : Calls Tryz.prog 124 args' w (iP G B w0 ρ h r) := by
 unfold aIi at hr
 split at hr
 case h_2 => cases hr
 rename_i s c
 split at hr
 case isFalse => cases hr
 rename_i hn
 cases hr
 obtain ⟨s', l1, ha, hs', hl⟩ := hargs.cons_inv
 obtain ⟨c', l2, ha2, hc', hl⟩ := hl.cons_inv
 obtain rfl := hl.dN
 subst ha2
 obtain rfl : args' = #[s', c'] := uL ha
 cases hs'; cases hc'
 obtain ⟨k, rfl⟩ : ∃ k : Nat, c = (k : Int) := ⟨c.toNat, by omega⟩
 refine (Tryz.strings_Repeat s k w (by omega) (by rw [hn.2.2, Nat.one_mul]; omega)).mono ?_
 rintro e w' ⟨rfl, hb⟩
 exact pY R (.string _) hb

theorem aAt (hr : wF C args h = some r) (R : Rel G B w0 ρ h w) (hargs : bP ρ args args'.toList) : Calls Tryz.prog 312 args' w (iP G B w0 ρ h r) := by
 unfold wF at hr
 split at hr
 case h_2 => cases hr
 rename_i s c
 cases hr
 obtain ⟨s', l1, ha, hs', hl⟩ := hargs.cons_inv
 obtain ⟨c', l2, ha2, hc', hl⟩ := hl.cons_inv
 obtain rfl := hl.dN
 subst ha2
 obtain rfl : args' = #[s', c'] := uL ha
 cases hs'; cases hc'
 refine (Tryz.strings_Count_one s c w).mono ?_
 rintro e w' ⟨rfl, rfl⟩
 exact pY R (.int .i64 _) (Below.refl _ _)

theorem oO (R : Rel G B w0 ρ h w) {i : Nat} {cs : List Value} (ht : h.ty i = some 51) (ho : h.obj i = some (.cells false cs)) : ∃ b n, ρ i = some (b, 0, n) ∧ w.shape? b = some (51, n) ∧ cs.length ≤ n ∧ (∀ m v, cs[m]? = some v → ∃ v', w.cell? ⟨b, m, none⟩ = some v' ∧ bA ρ v v') ∧ ∀ m, m < n → w.frozen? ⟨b, m, none⟩ = false := by
 obtain ⟨b, n, h1, h2⟩ := R.shp _ _ ht
 obtain ⟨l1, l2, l3⟩ := R.live i b 0 n _ h1 ho
 refine ⟨b, n, h1, h2, l1, fun m v hm => ?_, fun m hm => ?_⟩
 ·have := l2 m v hm
  rwa [Nat.zero_add] at this
 ·have := ((l3 rfl).2 m hm).2
  rwa [Nat.zero_add] at this

theorem aCv (hr : wE C args h = some r) (R : Rel G B w0 ρ h w) (hargs : bP ρ args args'.toList) : Calls Tryz.prog 96 args' w (iP G B w0 ρ h r) := by
 unfold wE at hr
 split at hr
 case h_2 => cases hr
 rename_i i
 obtain ⟨p', l1, ha, hp', hl⟩ := hargs.cons_inv
 obtain rfl := hl.dN
 obtain rfl : args' = #[p'] := sD ha
 split at hr
 case h_3 => cases hr
 ·rename_i rest ho
  split at hr
  case isFalse => cases hr
  rename_i hc
  obtain ⟨hty, hlen⟩ := hc
  cases hr
  obtain ⟨b, n, h1, h2, h3, h4, h5⟩ := oO R hty ho
  cases hp' with
  | ptr hi =>
   rw [h1] at hi
   simp only [Option.some.injEq, Prod.mk.injEq] at hi
   obtain ⟨rfl, rfl, rfl⟩ := hi
   obtain ⟨v', hv1, hv2⟩ := h4 0 _ rfl
   cases hv2
   simp only [List.length_cons] at h3
   rw [Nat.add_zero]
   refine (ZLB.aCu b w hv1 h2 (by omega) (h5 0 (by omega))).mono ?_
   rintro e w' ⟨rfl, rfl⟩
   have hst : h.store i 0 [.pointer (some ⟨i, 0, none⟩)] = some (h.put i (some (.cells false (.pointer (some ⟨i, 0, none⟩) :: rest)))) := by
    unfold aA.store
    rw [ho]
    rfl
   have hR := (Rel.store (P := Tryz.prog) R h1 hst (vs' := [.pointer (some ⟨b, 0, none⟩)]) (.cons (bA.ptr (base := 0) (off := 0) h1) (bP.nil ρ))).2
   exact ⟨ρ, Ext.same _ rfl, hR, .tuple rfl fun j hj => by simp at hj⟩
 ·rename_i j rest ho
  split at hr
  case isFalse => cases hr
  rename_i hc
  obtain ⟨rfl, hty⟩ := hc
  cases hr
  obtain ⟨b, n, h1, h2, h3, h4, h5⟩ := oO R hty ho
  cases hp' with
  | ptr hi =>
   rw [h1] at hi
   simp only [Option.some.injEq, Prod.mk.injEq] at hi
   obtain ⟨rfl, rfl, rfl⟩ := hi
   obtain ⟨v', hv1, hv2⟩ := h4 0 _ rfl
   cases hv2 with
   | ptr hj =>
    rw [h1] at hj
    simp only [Option.some.injEq, Prod.mk.injEq] at hj
    obtain ⟨rfl, rfl, rfl⟩ := hj
    rw [Nat.add_zero] at hv1 ⊢
    refine (ZLB.aE5 b w hv1).mono ?_
    rintro e w' ⟨rfl, rfl⟩
    exact pY R (.tuple rfl fun j hj => by simp at hj) (Below.refl _ _)

theorem zZ (w : World) (b n : Nat) : (w.freeze ⟨b, 0, none⟩ n).shape? b = w.shape? b := by
 unfold World.freeze
 split
 ·rfl
 ·unfold World.shape?
  simp only [Array.getElem?_modify, if_true]
  cases hb : w.heap[b]? with
  | none => rfl
  | some o => cases o <;> rfl

theorem uB : ∀ {vs : List Value} {ns : List Int}, cP vs = some ns → vs = ns.map (Value.int .u8)
 | [], ns, h => by simp only [cP, Option.some.injEq] at h; subst h; rfl
 | v :: vs, ns, h => by
  unfold cP at h
  split at h
  ·cases ‹_ :: _ = []›
  ·rename_i n r hv
   cases hv
   split at h
   ·rename_i l hl
    cases h
    rw [uB hl]; rfl
   ·cases h
  ·cases h

theorem aFz (hr : aB4 C args h = some r) (R : Rel G B w0 ρ h w) (hargs : bP ρ args args'.toList) : Calls Tryz.prog 23 args' w (iP G B w0 ρ h r) := by
 unfold aB4 at hr
 split at hr
 case h_2 => cases hr
 rename_i i
 obtain ⟨p', l1, ha, hp', hl⟩ := hargs.cons_inv
 obtain rfl := hl.dN
 obtain rfl : args' = #[p'] := sD ha
 split at hr
 case h_3 => cases hr
 ·rename_i a rest ho
  split at hr
  case isFalse => cases hr
  rename_i hty
  cases hr
  obtain ⟨b, n, h1, h2, h3, h4, h5⟩ := oO R hty ho
  cases hp' with
  | ptr hi =>
   rw [h1] at hi
   simp only [Option.some.injEq, Prod.mk.injEq] at hi
   obtain ⟨rfl, rfl, rfl⟩ := hi
   obtain ⟨v', hv1, hv2⟩ := h4 1 _ rfl
   cases hv2
   rw [Nat.add_zero]
   refine (ZLB.aDo b w hv1).mono ?_
   rintro e w' ⟨rfl, rfl⟩
   exact pY R (.string _) (Below.refl _ _).drew
 ·rename_i a j n es rest ho
  split at hr
  case isFalse => cases hr
  rename_i hc
  obtain ⟨hn0, rfl, hn, hty, htj⟩ := hc
  split at hr
  case h_2 => cases hr
  rename_i cj hoj
  split at hr
  case h_2 => cases hr
  rename_i vs hvs
  split at hr
  case h_2 => cases hr
  rename_i ns hns
  split at hr
  case isFalse => cases hr
  rename_i hall
  cases hr
  obtain ⟨b, m, h1, h2, h3, h4, h5⟩ := oO R hty ho
  cases hp' with
  | ptr hi =>
   rw [h1] at hi
   simp only [Option.some.injEq, Prod.mk.injEq] at hi
   obtain ⟨rfl, rfl, rfl⟩ := hi
   obtain ⟨v', hv1, hv2⟩ := h4 1 _ rfl
   cases hv2 with
   | @slice _ _ _ _ g off' cap hcap halt =>
    rcases halt with h0 | ⟨base, N, hj, hoff, hN⟩
    ·omega
    obtain ⟨g2, N2, hj2, hsh⟩ := R.shp _ _ htj
    rw [hj] at hj2
    simp only [Option.some.injEq, Prod.mk.injEq] at hj2
    obtain ⟨rfl, rfl, rfl⟩ := hj2
    simp only [Nat.add_zero] at hoff
    subst hoff
    have hvl := uB hns
    unfold aA.cells at hvs
    rw [hoj] at hvs
    simp only [Nat.zero_add, Nat.mul_one, List.drop_zero] at hvs
    split at hvs
    case isFalse => cases hvs
    rename_i hle
    cases hvs
    have hlen : ns.length = n := by
     have := congrArg List.length hvl
     rw [List.length_take, List.length_map] at this
     omega
    obtain ⟨lv1, lv2, lv3⟩ := R.live j g 0 N _ hj hoj
    have hl : (ns.map fun n => UInt8.ofNat n.toNat).length = n := by rw [List.length_map, hlen]
    rw [Nat.add_zero]
    have hcells : ∀ (k : Nat) x, (ns.map fun n => UInt8.ofNat n.toNat)[k]? = some x → w.cell? ⟨g, k, none⟩ = some (.int .u8 x.toNat) := by
     intro k x hk
     rw [List.getElem?_map] at hk
     cases hnk : ns[k]? with
     | none => rw [hnk] at hk; cases hk
     | some z =>
      rw [hnk] at hk
      cases hk
      have hz := List.all_eq_true.1 hall z (List.mem_of_getElem? hnk)
      have hz := of_decide_eq_true hz
      have hcj : cj[k]? = some (.int .u8 z) := by
       have hkn : k < n := by
        rcases Nat.lt_or_ge k ns.length with h | h
        ·omega
        ·rw [List.getElem?_eq_none h] at hnk; cases hnk
       have : (cj.take n)[k]? = some (.int .u8 z) := by rw [hvl, List.getElem?_map, hnk]; rfl
       rwa [List.getElem?_take, if_pos hkn] at this
      obtain ⟨v', e1, e2⟩ := lv2 k _ hcj
      rw [Nat.zero_add] at e1
      cases e2
      rw [e1]
      congr 2
      rw [UInt8.toNat_ofNat']
      have : z.toNat < 256 := by omega
      rw [Nat.mod_eq_of_lt this]
      omega
    have hne : (ns.map fun n => UInt8.ofNat n.toNat) ≠ [] := by intro e; rw [e] at hl; simp at hl; omega
    have hv1' : w.cell? ⟨b, 1, none⟩ = some (.slice (some ⟨g, 0, none⟩) (ns.map fun n => UInt8.ofNat n.toNat).length cap) := by rw [hl]; exact hv1
    refine (ZLB.aDp b g cap N _ w hv1' hne (by omega) hsh (by omega) (by omega) hcells).mono ?_
    rintro e w' ⟨rfl, rfl⟩
    have hB := (lv3 rfl).1
    have R2 : Rel G B w0 ρ (h.put j none) (w.drew.freeze ⟨g, 0, none⟩ (ns.map fun n => UInt8.ofNat n.toNat).length) := by
     refine (R.drew).update (o' := none) hj hoj rfl ?_ ?_ ?_ ?_ ?_ (zZ _ _ _) (fun o eo => by cases eo)
     ·unfold World.freeze; split <;> rfl
     ·unfold World.freeze; split <;> rfl
     ·unfold World.freeze; split <;> rfl
     ·unfold World.freeze; split
      ·rfl
      ·simp
     ·intro k hk
      unfold World.freeze
      split
      ·rfl
      ·simp only [Array.getElem?_modify, if_neg (Ne.symm hk)]
    exact ⟨ρ, Ext.same _ rfl, R2, .string _⟩

end
end Go.Proofs.ZL
