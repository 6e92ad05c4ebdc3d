/- The laws: what the listed variables hold, and from the walk of a law to the model's call. -/
import Derived.Test.YtpdkdgfknanipaaGreatDoorYXE2
import Derived.Lib.LaidTab
import Derived.Test.YtpdkdgfknanipaaGreatDoorZA4
import Derived.Test.YtpdkdgfknanipaaGreatDoorCards
import Derived.Test.YtpdkdgfknanipaaGreatDoorTie
import Derived.ProofKit
import Derived.ChangeMaps5
import Derived.LaidMore
import Derived.LaidSub
import Derived.OpenShut
import Derived.Stop.Joined
import Derived.SevenTiedAt
namespace Go.Proofs.YtpdkdgfknanipaaGreatDoor
open Go Go.Am Go.ChangeShapes Go.WideShapes Go.ChangeAt Go.RowKit

theorem own : ownKnob Tryz.prog.godebug = none := by kernel_rfl
theorem laidOut : laidOutB Tryz.prog = true := by kernel_rfl
theorem mixed : Tryz.prog.follows .mixedOrders = true := Tryz.checked.mixed
abbrev laid := Rows.printStillRow.laid

theorem aG2 (os : Os) (args : Array Value) : laidMetH Tryz.prog laid ((World.doorLaid Tryz.prog 1000 os).forCall (fun _ _ => 0) ⟨#[], args, []⟩).memory :=
 laidMetH_of_parts3 (fuel := 8) (laidMet_of_run' 8 (by kernel_rfl) (by kernel_rfl)) (by kernel_rfl) (by kernel_rfl)

theorem wM {W : World} (h : laidMetH Tryz.prog laid W) : W.cell? ⟨0, 0, none⟩ = some (.iface 116 (.agg #[.pointer (some ⟨7, 56, none⟩)])) := by
 have h' := (laidMetH_iff.1 h).2 ("errors.errorType", Rows.laid_errors_errorType) (List.mem_filter.2 ⟨List.mem_of_getElem? (i := 3) rfl, rfl⟩)
 have h2 : ∃ name u ty, (Rows.laid_errors_errorType (H := Unit)).handleName? = some name ∧ (Tryz.prog.cutTypes.find? (·.1 == "internal/reflectlite.rtype")).map (·.2) = some u ∧ ty < Tryz.prog.types.size ∧ Tryz.prog.rowNamed ty name = true ∧
   W.var? Tryz.prog "errors.errorType" = some #[.iface u (.agg #[typeHandle Tryz.prog ty])] := h'
 obtain ⟨name, u, ty, e1, e2, e3, e4, e5⟩ := h2
 have en : name = [101, 114, 114, 111, 114] := (Option.some.inj e1).symm
 subst en
 obtain rfl := Option.some.inj (ZLX.aIm.symm.trans e2)
 have hm : ty ∈ (List.range 307).filter fun t => Tryz.prog.rowNamed t [101, 114, 114, 111, 114] := List.mem_filter.2 ⟨List.mem_range.2 (by rw [← ZLX.aMf]; exact e3), e4⟩
 rw [ZLX.aH7] at hm
 obtain rfl := List.mem_singleton.1 hm
 have hh : typeHandle Tryz.prog 56 = .pointer (some ⟨7, 56, none⟩) := by kernel_rfl
 rw [hh] at e5
 simpa using World.var?_cell ZLX.et e5 0

theorem aF3 {n : String} {g : Nat} {k : IntKind} {zs : List Int} {w w' : World} (hg : Tryz.prog.globalNamed n = some g) (h : Lib.TabIs Tryz.prog w n k zs) (hb : Below w.heap.size w w') : Lib.TabIs Tryz.prog w' n k zs := by
 unfold Lib.TabIs World.var? at h ⊢
 rw [hg] at h ⊢
 simp only [Option.bind_some] at h ⊢
 have hlt : g < w.heap.size := by
  rcases Nat.lt_or_ge g w.heap.size with h' | h'
  ·exact h'
  ·rw [Array.getElem?_eq_none h'] at h; cases h
 rw [hb.block g hlt]
 exact h
theorem aB7 {W : World} (h : laidMetH Tryz.prog laid W) : Lib.TabIs Tryz.prog W "internal/strconv.uint64pow10" .u64 Lib.pow10Tab := by
 have h1 := ((laidMetH_iff.1 h).1).filter fun x => x.1 == "internal/strconv.uint64pow10"
 have e : ((laid.filter fun x => x.2.handleName?.isNone).filter fun x => x.1 == "internal/strconv.uint64pow10") = [("internal/strconv.uint64pow10", Lib.tabData .u64 Lib.pow10Tab)] := by rfl
 rw [e] at h1
 exact Lib.tabIs_of_head (g := 1) (by kernel_rfl) (t := 181) (n := 20) (e := 164) (by kernel_rfl) (by kernel_rfl) (by kernel_rfl) (by kernel_rfl) (by kernel_rfl) h1

theorem aKa {W : World} (hg : W.cell? ⟨0, 0, none⟩ = some (.iface 116 (.agg #[.pointer (some ⟨7, 56, none⟩)]))) (ht : Lib.TabIs Tryz.prog W "internal/strconv.uint64pow10" .u64 Lib.pow10Tab) {f : FuncId} {args : List Value} {args' : Array Value} (hargs : bP (fun _ => none) args args'.toList)
  (hw : aS Tryz.prog ZL.G ZL.X f args ⟨0, fun _ => none, fun _ => none⟩ fun r => ∃ h', r = .ret (.bool true) h') :
  Calls Tryz.prog f args' W fun e W' => e = .returned (.bool true) ∧ Below W.heap.size W W' := by
 have hlt : 0 < W.heap.size := by
  rcases Nat.eq_zero_or_pos W.heap.size with h0 | h
  ·simp [World.cell?, h0] at hg
  ·exact h
 refine (aS.calls (ZL.aMy mixed hlt hg fun w hb => aF3 (g := 1) (by kernel_rfl) ht hb) mixed (Rel.start W) hargs hw).mono fun e W' ⟨r, ⟨h', hr⟩, he⟩ => ?_
 subst hr
 cases e with
 | returned v =>
  obtain ⟨ρ', _, R, hv⟩ := he
  cases hv
  exact ⟨rfl, R.below⟩
 | _ => exact he.elim

end Go.Proofs.YtpdkdgfknanipaaGreatDoor
