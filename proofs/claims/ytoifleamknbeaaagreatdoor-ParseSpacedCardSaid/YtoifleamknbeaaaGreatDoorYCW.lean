/- ParseSpaced holds for every input: how tokens are spaced on a line, and comments, change nothing of a tree but its places, nor a fault's stage. Conditions: the listed variables hold what the program's text lays into them. -/
import Derived.Test.YtoifleamknbeaaaGreatDoorYWC
import Derived.Test.YtoifleamknbeaaaGreatDoorYCPa
namespace Go.Proofs.YtoifleamknbeaaaGreatDoor
open Go Go.Am Go.ChangeShapes Go.WideShapes Go.ChangeAt Go.RowKit
set_option linter.unusedSimpArgs false
set_option linter.unusedVariables false

set_option maxRecDepth 100000 in
theorem spaced_lifted (os : Os) (started : os.Started) (H : Type) (enc : TypeId × Value → H) :
  ReturnsInHanded {} Tryz.checked os 4 .any (fun w args => (Rows.parseSpacedSpec.pre enc Tryz.prog Tryz.f4 [] false w args ∧ laidMetH Tryz.prog laid w) ∧ sizedMet enc Tryz.prog Tryz.f4 (OpenSpec.ofChange Rows.parseSpacedSpec) false w args)
   (Rows.parseSpacedSpec.post enc Tryz.prog Tryz.f4 false true false false) := by
 refine returnsInHanded_of_change_and (C := Tryz.checked) (X := fun w _ => laidMetH Tryz.prog laid w) (fun _ _ _ hh h => h.of_heap hh) own started (by kernel_rfl) Tryz.func4
  (ChangeSpec.witness_shaped (enc := enc) (C := Tryz.checked) (os := os) (X := fun w _ => laidMetH Tryz.prog laid w) false (World.doorLaid Tryz.prog 1000 os) #[.string .empty] 8 rfl (World.shaped_of_RefB (by kernel_rfl) (by kernel_rfl)) (by kernel_rfl) (by kernel_rfl) (by kernel_rfl) (door_met os _)) ?_
 intro W base args ds gs before hval0 hW _ hwt hL _
 have hval : ∀ (j : Nat) t v, Tryz.f4.params[j]? = some t → args[j]? = some v → Value.okWide Tryz.prog W .any base t v := hval0
 have hW' := hW
 obtain ⟨p, q, hA0, hV, rfl, hfz, hnd⟩ := hW
 have hA : DataW.TrodAll enc Tryz.prog W 0 (fun _ => true) true Tryz.f4.params.toList args.toList ds p := hA0
 rw [Tryz.params4] at hA hval
 obtain ⟨v0, d0, rfl, rfl, h0⟩ := trodAll_one hA
 obtain ⟨s0, rfl, rfl, rfl, hs0⟩ := ChangeMaps.open_string Tryz.underlying9 (hval 0 9 v0 rfl rfl) h0
 obtain ⟨rfl, rfl⟩ : gs = [] ∧ q = [] := trodVars_none hV
 have hwt' : ([s0.data.toList.length] : List Nat).all (· ≤ reachBytes) = true := by
  have := hwt
  rw [show Tryz.f4.params.toList = [9] by rw [Tryz.params4]] at this
  simpa [DataW.weightsEach, DataW.weights] using this
 have hr : reachBytes ≤ 140737488355328 := by decide
 have hx0 : s0.data.toList.length ≤ reachBytes := of_decide_eq_true (List.all_eq_true.1 hwt' _ (List.mem_cons_self ..))
 have hy0 : s0.data.toList.length = s0.size := by simp
 have hz0 : s0.size ≤ 140737488355328 := by omega
 refine (law_run (f := 4) (args := [.string s0]) (handle_of_laid hL) (LRel.cons (.string s0) (LRel.nil _)) (ZL.parseSpaced_w hz0 fun h' => ⟨h', rfl⟩)).mono fun e W' ⟨he, hb⟩ => ?_
 subst he
 exact ⟨_, rfl, law_post laidOut rfl (by kernel_rfl) Tryz.underlying4 (by kernel_rfl) rfl hW' hb⟩

theorem spaced_said : Rows.ParseSpacedSaid :=
 OpenClaim.holds_of_wide 4 Tryz.f4 rfl rfl rfl rfl rfl rfl rfl ⟨rfl, rfl, rfl, rfl, rfl⟩ rfl rfl rfl rfl rfl (by kernel_rfl) Tryz.func4 (by kernel_rfl)
  (of_decide_eq_true (by kernel_rfl)) (by unfold Func.isWrapper; rw [if_neg (of_decide_eq_false (by kernel_rfl))]; exact ⟨rfl, rfl⟩)
  (fun os started H enc _ => spaced_lifted os started H enc)

theorem spaced_plain (f : FuncId) (fn : Func) (hf : Tryz.pinned.checked.prog.funcNamed "derrick/derricklaw02.ParseSpaced" = some f) (hfn : Tryz.pinned.checked.prog.funcs[f]? = some fn) :
  true = Tryz.pinned.checked.prog.looks [] ∧ ∀ (j : Nat) t, fn.params[j]? = some t → Tryz.pinned.checked.prog.wantsStandIn t = false := by
 obtain rfl : f = 4 := Option.some.inj ((show Tryz.prog.funcNamed "derrick/derricklaw02.ParseSpaced" = some 4 by kernel_rfl).symm.trans hf) |>.symm
 obtain rfl : fn = Tryz.f4 := (Option.some.inj (Tryz.func4.symm.trans hfn)).symm
 refine ⟨by kernel_rfl, fun j t ht => ?_⟩
 have hall : Tryz.f4.params.toList.all (fun t => !Tryz.prog.wantsStandIn t) = true := by kernel_rfl
 have hx := List.all_eq_true.1 hall t (Array.mem_toList_iff.2 (Array.mem_of_getElem? ht))
 have hy : Tryz.prog.wantsStandIn t = false := by simpa using hx
 exact hy

theorem parseSpaced_holds : Rows.ParseSpacedCardSaid :=
 Claim7.holds_tied_plain_at .later [] _ _ _ _ spaced_said (fun _ h => by cases h) (by kernel_rfl) (fun _ h => by cases h) parseSpaced_row_tie rfl ⟨rfl, rfl⟩ (by kernel_rfl) rfl spaced_plain (by kernel_rfl)
#print axioms parseSpaced_holds
end Go.Proofs.YtoifleamknbeaaaGreatDoor
