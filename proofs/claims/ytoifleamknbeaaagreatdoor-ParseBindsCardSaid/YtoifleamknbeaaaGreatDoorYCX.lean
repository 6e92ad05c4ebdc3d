/- ParseBinds holds for every input: operators bind as their levels say, to the left: a row of them is the same tree with the parentheses that this makes. Conditions: the listed variables hold what the program's text lays into them. -/
import Derived.Test.YtoifleamknbeaaaGreatDoorYXI
import Derived.Test.YtoifleamknbeaaaGreatDoorYCPb
namespace Go.Proofs.YtoifleamknbeaaaGreatDoor
open Go Go.Am Go.ChangeShapes Go.WideShapes Go.ChangeAt Go.RowKit
set_option linter.unusedSimpArgs false
set_option linter.unusedVariables false

set_option maxRecDepth 100000 in
theorem binds_lifted (os : Os) (started : os.Started) (H : Type) (enc : TypeId × Value → H) :
  ReturnsInHanded {} Tryz.checked os 6 .any (fun w args => (Rows.parseBindsSpec.pre enc Tryz.prog Tryz.f6 [] false w args ∧ laidMetH Tryz.prog laid w) ∧ sizedMet enc Tryz.prog Tryz.f6 (OpenSpec.ofChange Rows.parseBindsSpec) false w args)
   (Rows.parseBindsSpec.post enc Tryz.prog Tryz.f6 false true false false) := by
 refine returnsInHanded_of_change_and (C := Tryz.checked) (X := fun w _ => laidMetH Tryz.prog laid w) (fun _ _ _ hh h => h.of_heap hh) own started (by kernel_rfl) Tryz.func6
  (ChangeSpec.witness_shaped (enc := enc) (C := Tryz.checked) (os := os) (X := fun w _ => laidMetH Tryz.prog laid w) false (World.doorLaid Tryz.prog 1000 os) #[.slice none 0 0] 8 rfl (World.shaped_of_RefB (by kernel_rfl) (by kernel_rfl)) (by kernel_rfl) (by kernel_rfl) (by kernel_rfl) (door_met os _)) ?_
 intro W base args ds gs before hval0 hW _ _ hL _
 have hval : ∀ (j : Nat) t v, Tryz.f6.params[j]? = some t → args[j]? = some v → Value.okWide Tryz.prog W .any base t v := hval0
 have hW' := hW
 obtain ⟨p, q, hA0, hV, rfl, hfz, hnd⟩ := hW
 have hA : DataW.TrodAll enc Tryz.prog W 0 (fun _ => true) true Tryz.f6.params.toList args.toList ds p := hA0
 rw [Tryz.params6] at hA hval
 obtain ⟨v0, d0, rfl, rfl, h0⟩ := trodAll_one hA
 obtain ⟨ρ, b, n, es, zs, R, hr, hAs, hwf⟩ := ints_arg Tryz.underlying40 Tryz.underlying3 (by kernel_rfl) (hval 0 40 v0 rfl rfl) h0
 refine (law_run2 (f := 6) (args := [.slice b n es]) (handle_of_laid hL) R (LRel.cons hr (LRel.nil _)) (ZL.parseBinds_w hAs hwf fun h' => ⟨h', rfl⟩)).mono fun e W' ⟨he, hb⟩ => ?_
 subst he
 exact ⟨_, rfl, law_post laidOut rfl (by kernel_rfl) Tryz.underlying4 (by kernel_rfl) rfl hW' hb⟩

theorem binds_said : Rows.ParseBindsSaid :=
 OpenClaim.holds_of_wide 6 Tryz.f6 rfl rfl rfl rfl rfl rfl rfl ⟨rfl, rfl, rfl, rfl, rfl⟩ rfl rfl rfl rfl rfl (by kernel_rfl) Tryz.func6 (by kernel_rfl)
  (of_decide_eq_true (by kernel_rfl)) (by unfold Func.isWrapper; rw [if_neg (of_decide_eq_false (by kernel_rfl))]; exact ⟨rfl, rfl⟩)
  (fun os started H enc _ => binds_lifted os started H enc)

theorem binds_plain (f : FuncId) (fn : Func) (hf : Tryz.pinned.checked.prog.funcNamed "derrick/derricklaw02.ParseBinds" = some f) (hfn : Tryz.pinned.checked.prog.funcs[f]? = some fn) :
  true = Tryz.pinned.checked.prog.looks [] ∧ ∀ (j : Nat) t, fn.params[j]? = some t → Tryz.pinned.checked.prog.wantsStandIn t = false := by
 obtain rfl : f = 6 := Option.some.inj ((show Tryz.prog.funcNamed "derrick/derricklaw02.ParseBinds" = some 6 by kernel_rfl).symm.trans hf) |>.symm
 obtain rfl : fn = Tryz.f6 := (Option.some.inj (Tryz.func6.symm.trans hfn)).symm
 refine ⟨by kernel_rfl, fun j t ht => ?_⟩
 have hall : Tryz.f6.params.toList.all (fun t => !Tryz.prog.wantsStandIn t) = true := by kernel_rfl
 have hx := List.all_eq_true.1 hall t (Array.mem_toList_iff.2 (Array.mem_of_getElem? ht))
 have hy : Tryz.prog.wantsStandIn t = false := by simpa using hx
 exact hy

theorem parseBinds_holds : Rows.ParseBindsCardSaid :=
 Claim7.holds_tied_plain_at .later [] _ _ _ _ binds_said (fun _ h => by cases h) (by kernel_rfl) (fun _ h => by cases h) parseBinds_row_tie rfl ⟨rfl, rfl⟩ (by kernel_rfl) rfl binds_plain (by kernel_rfl)
#print axioms parseBinds_holds
end Go.Proofs.YtoifleamknbeaaaGreatDoor
