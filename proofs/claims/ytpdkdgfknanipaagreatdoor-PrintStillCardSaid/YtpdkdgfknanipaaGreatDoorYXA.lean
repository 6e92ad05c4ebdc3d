/- The library's strings.Builder, in the model. -/
import Derived.Test.YtpdkdgfknanipaaGreatDoorChecked
import Derived.WalkKit
import Derived.Lib.Builder
import Derived.Lib.UnsafeStr
import Derived.Laws.Externs
open Go Go.RowKit
namespace Go.Proofs.ZLB
set_option linter.unusedVariables false
set_option maxRecDepth 100000
set_option maxHeartbeats 2000000

theorem aMd : (Tryz.prog.info? 49).map (·.size) = some 2 := by kernel_rfl
theorem aN7 : Tryz.prog.underlying 46 = some (.pointer 49) := by kernel_rfl
theorem aI2 : Tryz.prog.underlying 88 = some .unsafePointer := by kernel_rfl
theorem aQ8 (k : Nat) : liesAt Tryz.prog Tryz.prog.depth 51 (k + 1) 0 49 1 = true := by kernel_rfl
theorem aMn : Tryz.prog.cellsOf 51 = 3 := by kernel_rfl

theorem aE5 (b : Nat) (w : World) (h0 : w.cell? ⟨b, 0, none⟩ = some (.pointer (some ⟨b, 0, none⟩))) :
  Calls Tryz.prog 96 #[.pointer (some ⟨b, 0, none⟩)] w fun e w' => e = .returned (.tuple #[]) ∧ w' = w := by
 obtain ⟨j, hj, _⟩ := Option.map_eq_some_iff.1 aMd
 go_enter Tryz.func96, Tryz.ntmps96
 go_wp2
 rw [Lib.run_neq_ptr_same w _ aN7 hj]
 go_wp2
 go_end0
 exact ⟨rfl, rfl⟩

theorem aCu (b : Nat) (w : World) (h0 : w.cell? ⟨b, 0, none⟩ = some (.pointer none)) {m : Nat} (hsh : w.shape? b = some (51, m)) (hm : 3 ≤ m) (hfz : w.frozen? ⟨b, 0, none⟩ = false) :
  Calls Tryz.prog 96 #[.pointer (some ⟨b, 0, none⟩)] w fun e w' => e = .returned (.tuple #[]) ∧ w' = w.setCell ⟨b, 0, none⟩ (.pointer (some ⟨b, 0, none⟩)) := by
 obtain ⟨j, hj, hjs⟩ := Option.map_eq_some_iff.1 aMd
 go_enter Tryz.func96, Tryz.ntmps96
 go_wp2
 rw [Lib.run_to_unsafe w ⟨b, 0, none⟩ aN7 aI2 hj (by rw [hjs]; decide) hsh (show 0 < m by omega)]
 simp only [Result.andThen]
 rw [Oper.upon_value]
 go_wp2
 rw [run_callFunc_extern Tryz.func122 (by kernel_rfl) (by kernel_rfl) (by kernel_rfl) (e := Extern.AbiNoEscape.same) (by kernel_rfl)]
 rw [Lib.run_noEscape]
 simp only [Result.andThen]
 rw [Oper.upon_value]
 go_wp2
 rw [Lib.run_from_unsafe w ⟨b, 0, none⟩ aI2 aN7 hj hsh (by rw [aMn]; obtain ⟨k, hk⟩ : ∃ k, m / 3 = k + 1 := ⟨m / 3 - 1, by omega⟩; rw [hk]; exact aQ8 k)]
 simp only [Result.andThen]
 rw [Oper.upon_value]
 go_wp2
 go_end0
 exact ⟨rfl, rfl⟩

theorem aDp (b g cap m : Nat) (l : List UInt8) (w : World) (h1 : w.cell? ⟨b, 1, none⟩ = some (.slice (some ⟨g, 0, none⟩) l.length cap)) (h0 : l ≠ []) (hcap : l.length ≤ cap) (hsh : w.shape? g = some (5, m)) (hm : cap ≤ m) (h63 : l.length ≤ 9223372036854775807)
  (hc : ∀ (j : Nat) x, l[j]? = some x → w.cell? ⟨g, j, none⟩ = some (.int .u8 x.toNat)) :
  Calls Tryz.prog 23 #[.pointer (some ⟨b, 0, none⟩)] w fun e w' => e = .returned (.string ⟨l.toArray⟩) ∧ w' = w.drew.freeze ⟨g, 0, none⟩ l.length := by
 have hl0 : l.length ≠ 0 := by simpa using h0
 have c1 : w.drew.cell? ⟨b, 1, none⟩ = some (.slice (some ⟨g, 0, none⟩) l.length cap) := h1
 have hSD : (Builtin.unsafeSliceData_ #[47] 71 #[.slice (some ⟨g, 0, none⟩) l.length cap]).run Tryz.prog w.drew = .ok (.pointer (some ⟨g, 0, none⟩)) w.drew :=
  Lib.run_unsafeSliceData_row _ _ _ _ _ _ (by omega)
 have hUS : (Builtin.unsafeString_ #[71, 3] 9 #[.pointer (some ⟨g, 0, none⟩), .int .i64 l.length]).run Tryz.prog w.drew = .ok (.string ⟨l.toArray⟩) (w.drew.freeze ⟨g, 0, none⟩ l.length) := by
  refine Lib.run_unsafeString_row w.drew 71 3 9 5 (by kernel_rfl) (by kernel_rfl) g m hsh l h0 (by omega) h63 ?_
  intro j x hx
  have e : ((⟨g, 0, none⟩ : Addr).add j) = ⟨g, j, none⟩ := by
   unfold Addr.add
   split
   ·rename_i h; subst h; rfl
   ·simp
  rw [e]
  exact hc j x hx
 go_enter Tryz.func23, Tryz.ntmps23
 go_wp2
 go_region
 all_goals (go_wp2; go_ret; exact ⟨rfl, rfl⟩)

theorem aDo (b : Nat) (w : World) (h1 : w.cell? ⟨b, 1, none⟩ = some (.slice none 0 0)) :
  Calls Tryz.prog 23 #[.pointer (some ⟨b, 0, none⟩)] w fun e w' => e = .returned (.string ⟨#[]⟩) ∧ w' = w.drew := by
 have c1 : w.drew.cell? ⟨b, 1, none⟩ = some (.slice none 0 0) := h1
 have hSD : (Builtin.unsafeSliceData_ #[47] 71 #[.slice none 0 0]).run Tryz.prog w.drew = .ok (.pointer none) w.drew := rfl
 have hUS : ∀ W : World, (Builtin.unsafeString_ #[71, 3] 9 #[.pointer none, .int .i64 0]).run Tryz.prog W = .ok (.string .empty) W := fun W => Lib.run_unsafeString_none W _ _ _ none
 go_enter Tryz.func23, Tryz.ntmps23
 go_wp2
 go_region
 all_goals (go_wp2; go_ret; exact ⟨rfl, rfl⟩)

end Go.Proofs.ZLB
