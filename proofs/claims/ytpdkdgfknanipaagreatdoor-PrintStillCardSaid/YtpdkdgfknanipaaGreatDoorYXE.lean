/- The library's functions that are taken as they are, and call: they are sound. -/
import Derived.Test.YtpdkdgfknanipaaGreatDoorYXD
open Go Go.Am Go.RowKit
namespace Go.Proofs.ZL
set_option maxRecDepth 100000
set_option maxHeartbeats 4000000
set_option linter.unusedSimpArgs false
set_option linter.unusedVariables false

section
variable {B : Nat} {w0 : World} {ρ : Am.Ren} {h : aA} {w : World} {args : List Value} {args' : Array Value} {r : bR} {C : bK}

theorem aDf (SC : hZ Tryz.prog G B w0 C) (hr : uP C args h = some r) (R : Rel G B w0 ρ h w) (hargs : bP ρ args args'.toList) : Calls Tryz.prog 119 args' w (iP G B w0 ρ h r) := by
 unfold uP at hr
 split at hr
 case h_2 => cases hr
 rename_i i g r0
 split at hr
 case isFalse => cases hr
 rename_i hg
 subst hg
 split at hr
 case h_2 => cases hr
 rename_i cs ho
 split at hr
 case h_2 => cases hr
 rename_i v h2 hC
 split at hr
 case h_2 => cases hr
 rename_i cs2 ho2
 cases hr
 obtain ⟨p', l1, ha, hp', hl⟩ := hargs.cons_inv
 obtain ⟨f', l2, ha2, hf', hl⟩ := hl.cons_inv
 obtain rfl := hl.dN
 subst ha2
 obtain rfl : args' = #[p', f'] := uL ha
 cases hp' with
 | @ptr _ _ b base n hi =>
 cases hf' with
 | @func _ _ ff _ cc k1 k2 k3 k4 =>
 have hf2 := (bA.lZ.1 (bA.func (fn := .func 120) k1 k2 k3 k4))
 obtain ⟨r', l3, e1, hr', hl3⟩ := hf2.1.cons_inv
 obtain rfl := hl3.dN
 obtain rfl : ff = #[r'] := sD e1
 obtain rfl : cc = #[] := by
  have := hf2.2.dN
  exact Array.ext' this
 rw [Nat.add_zero]
 obtain ⟨l1, l2, l3⟩ := R.live i b base n _ hi ho
 obtain ⟨hB, l3⟩ := l3 rfl
 simp only [List.length_cons] at l1
 have c0 : w.cell? ⟨b, base, none⟩ = some (.int .u32 0) := by
  obtain ⟨v', e1, e2⟩ := l2 0 _ rfl
  cases e2; exact e1
 have c1 : w.cell? ⟨b, base + 1, none⟩ = some (.int .i32 0) := by
  obtain ⟨v', e1, e2⟩ := l2 1 _ rfl
  cases e2; exact e1
 have f0 : w.frozen? ⟨b, base, none⟩ = false := (l3 0 (by omega)).2
 have f1 : w.frozen? ⟨b, base + 1, none⟩ = false := (l3 1 (by omega)).2
 have hst : h.store i 1 [.int .i32 1] = some (h.put i (some (.cells false (.int .u32 0 :: .int .i32 1 :: cs)))) := by
  unfold aA.store
  rw [ho]
  simp only
  rw [if_pos (by simp [Value.oneCell'])]
  rfl
 have R1 := (Rel.store (P := Tryz.prog) R hi hst (vs' := [.int .i32 1]) (.cons (.int .i32 1) (bP.nil ρ))).2
 have hcall := SC _ _ _ _ hC ρ _ #[r'] R1 (.cons hr' (bP.nil ρ))
 refine (ZLO.once b base r' (fun w2 => ∃ ρ', Ext ρ h ρ' h2 ∧ Rel G B w0 ρ' h2 w2) w c0 c1 f0 f1 (hcall.mono ?_)).mono ?_
 ·intro e w2 he
  cases e with
  | returned v' =>
   obtain ⟨ρ', x, R2, hv⟩ := he
   have hi2 : ρ' i = some (b, base, n) := by rw [x.2 i (R.qT i _ _ _ hi).1]; exact hi
   obtain ⟨m1, m2, m3⟩ := R2.live i b base n _ hi2 ho2
   obtain ⟨_, m3⟩ := m3 rfl
   simp only [List.length_cons] at m1
   refine ⟨⟨_, rfl⟩, ⟨?_, ?_, (m3 0 (by omega)).2, (m3 1 (by omega)).2⟩, ρ', x, R2⟩
   ·obtain ⟨v', e1, e2⟩ := m2 0 _ rfl
    cases e2; exact e1
   ·obtain ⟨v', e1, e2⟩ := m2 1 _ rfl
    cases e2; exact e1
  | _ => exact he.elim
 ·rintro e w' ⟨rfl, w2, ⟨ρ', x, R2⟩, rfl⟩
  have hi2 : ρ' i = some (b, base, n) := by rw [x.2 i (R.qT i _ _ _ hi).1]; exact hi
  have hst2 : h2.store i 0 [.int .u32 1, .int .i32 0] = some (h2.put i (some (.cells false (.int .u32 1 :: .int .i32 0 :: cs2)))) := by
   unfold aA.store
   rw [ho2]
   simp only
   rw [if_pos (by simp [Value.oneCell'])]
   rfl
  have R3 := (Rel.store (P := Tryz.prog) R2.drew hi2 hst2 (vs' := [.int .u32 1, .int .i32 0]) (.cons (.int .u32 1) (.cons (.int .i32 0) (bP.nil _)))).2
  exact ⟨ρ', x, R3, .tuple rfl fun j hj => by simp at hj⟩

end
end Go.Proofs.ZL
