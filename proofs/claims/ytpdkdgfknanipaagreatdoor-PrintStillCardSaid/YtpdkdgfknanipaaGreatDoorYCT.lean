/- PrintStill holds for every input: printing changes nothing of a tree, and asks nothing of its places: a tree without places is printed the same. Conditions: the listed variables hold what the program's text lays into them. -/
import Derived.Test.YtpdkdgfknanipaaGreatDoorYX7
import Derived.Test.YtpdkdgfknanipaaGreatDoorYCPp
namespace Go.Proofs.YtpdkdgfknanipaaGreatDoor
open Go Go.Am Go.ChangeShapes Go.WideShapes Go.ChangeAt Go.RowKit
set_option linter.unusedSimpArgs false
set_option linter.unusedVariables false

set_option maxRecDepth 100000 in
theorem aRs (os : Os) (started : os.Started) (H : Type) (enc : TypeId × Value → H) :
  ReturnsInHanded {} Tryz.checked os 7 .any (fun w args => (Rows.printStillSpec.pre enc Tryz.prog Tryz.f7 [] false w args ∧ laidMetH Tryz.prog laid w) ∧ sizedMet enc Tryz.prog Tryz.f7 (OpenSpec.ofChange Rows.printStillSpec) false w args)
   (Rows.printStillSpec.post enc Tryz.prog Tryz.f7 false true false false) := by
 refine returnsInHanded_of_change_and (C := Tryz.checked) (X := fun w _ => laidMetH Tryz.prog laid w) (fun _ _ _ hh h => h.of_heap hh) own started (by kernel_rfl) Tryz.func7
  (ChangeSpec.witness_shaped (enc := enc) (C := Tryz.checked) (os := os) (X := fun w _ => laidMetH Tryz.prog laid w) false (World.doorLaid Tryz.prog 1000 os) #[.string .empty] 8 rfl (World.shaped_of_RefB (by kernel_rfl) (by kernel_rfl)) (by kernel_rfl) (by kernel_rfl) (by kernel_rfl) (aG2 os _)) ?_
 intro W base args ds gs before hval0 hW _ _ hL _
 have hval : ∀ (j : Nat) t v, Tryz.f7.params[j]? = some t → args[j]? = some v → Value.okWide Tryz.prog W .any base t v := hval0
 have hW' := hW
 obtain ⟨p, q, hA0, hV, rfl, hfz, hnd⟩ := hW
 have hA : DataW.TrodAll enc Tryz.prog W 0 (fun _ => true) true Tryz.f7.params.toList args.toList ds p := hA0
 rw [Tryz.params7] at hA hval
 obtain ⟨v0, d0, rfl, rfl, h0⟩ := trodAll_one hA
 obtain ⟨s0, rfl, rfl, rfl, hs0⟩ := ChangeMaps.open_string Tryz.underlying9 (hval 0 9 v0 rfl rfl) h0
 refine (aKa (f := 7) (args := [.string s0]) (wM hL) (aB7 hL) (bP.cons (.string s0) (bP.nil _)) (ZL.aRx fun h' => ⟨h', rfl⟩)).mono fun e W' ⟨he, hb⟩ => ?_
 subst he
 exact ⟨_, rfl, aHo laidOut rfl (by kernel_rfl) Tryz.underlying4 (by kernel_rfl) rfl hW' hb⟩

theorem aR1 : Rows.PrintStillSaid :=
 OpenClaim.holds_of_wide 7 Tryz.f7 rfl rfl rfl rfl rfl rfl rfl ⟨rfl, rfl, rfl, rfl, rfl⟩ rfl rfl rfl rfl rfl (by kernel_rfl) Tryz.func7 (by kernel_rfl)
  (of_decide_eq_true (by kernel_rfl)) (by unfold Func.isWrapper; rw [if_neg (of_decide_eq_false (by kernel_rfl))]; exact ⟨rfl, rfl⟩)
  (fun os started H enc _ => aRs os started H enc)

theorem aRy (f : FuncId) (fn : Func) (hf : Tryz.pinned.checked.prog.funcNamed "derrick/derricklaw03.PrintStill" = some f) (hfn : Tryz.pinned.checked.prog.funcs[f]? = some fn) :
  true = Tryz.pinned.checked.prog.looks [] ∧ ∀ (j : Nat) t, fn.params[j]? = some t → Tryz.pinned.checked.prog.wantsStandIn t = false := by
 obtain rfl : f = 7 := Option.some.inj ((show Tryz.prog.funcNamed "derrick/derricklaw03.PrintStill" = some 7 by kernel_rfl).symm.trans hf) |>.symm
 obtain rfl : fn = Tryz.f7 := (Option.some.inj (Tryz.func7.symm.trans hfn)).symm
 refine ⟨by kernel_rfl, fun j t ht => ?_⟩
 have hall : Tryz.f7.params.toList.all (fun t => !Tryz.prog.wantsStandIn t) = true := by kernel_rfl
 have hx := List.all_eq_true.1 hall t (Array.mem_toList_iff.2 (Array.mem_of_getElem? ht))
 have hy : Tryz.prog.wantsStandIn t = false := by simpa using hx
 exact hy

theorem printStill_holds : Rows.PrintStillCardSaid :=
 Claim7.holds_tied_plain_at .later [] _ _ _ _ aR1 (fun _ h => by cases h) (by kernel_rfl) (fun _ h => by cases h) printStill_row_tie rfl ⟨rfl, rfl⟩ (by kernel_rfl) rfl aRy (by kernel_rfl)
#print axioms printStill_holds
end Go.Proofs.YtpdkdgfknanipaaGreatDoor
