/- ParseCuts holds for every input: a fault of the syntax hangs on nothing that stands behind its token; cut off there, and with anything else behind, the fault is at the same place. Conditions: the listed variables hold what the program's text lays into them. -/
import Derived.Test.YtoifleamknbeaaaGreatDoorYVC
import Derived.Test.YtoifleamknbeaaaGreatDoorYCPa
namespace Go.Proofs.YtoifleamknbeaaaGreatDoor
open Go Go.Am Go.ChangeShapes Go.WideShapes Go.ChangeAt Go.RowKit
set_option linter.unusedSimpArgs false
set_option linter.unusedVariables false

set_option maxRecDepth 100000 in
theorem cuts_lifted (os : Os) (started : os.Started) (H : Type) (enc : TypeId × Value → H) :
  ReturnsInHanded {} Tryz.checked os 5 .any (fun w args => (Rows.parseCutsSpec.pre enc Tryz.prog Tryz.f5 [] false w args ∧ laidMetH Tryz.prog laid w) ∧ sizedMet enc Tryz.prog Tryz.f5 (OpenSpec.ofChange Rows.parseCutsSpec) false w args)
   (Rows.parseCutsSpec.post enc Tryz.prog Tryz.f5 false true false false) := by
 refine returnsInHanded_of_change_and (C := Tryz.checked) (X := fun w _ => laidMetH Tryz.prog laid w) (fun _ _ _ hh h => h.of_heap hh) own started (by kernel_rfl) Tryz.func5
  (ChangeSpec.witness_shaped (enc := enc) (C := Tryz.checked) (os := os) (X := fun w _ => laidMetH Tryz.prog laid w) false (World.doorLaid Tryz.prog 1000 os) #[.string .empty, .string .empty] 8 rfl (World.shaped_of_RefB (by kernel_rfl) (by kernel_rfl)) (by kernel_rfl) (by kernel_rfl) (by kernel_rfl) (door_met os _)) ?_
 intro W base args ds gs before hval0 hW _ hwt hL _
 have hval : ∀ (j : Nat) t v, Tryz.f5.params[j]? = some t → args[j]? = some v → Value.okWide Tryz.prog W .any base t v := hval0
 have hW' := hW
 obtain ⟨p, q, hA0, hV, rfl, hfz, hnd⟩ := hW
 have hA : DataW.TrodAll enc Tryz.prog W 0 (fun _ => true) true Tryz.f5.params.toList args.toList ds p := hA0
 rw [Tryz.params5] at hA hval
 obtain ⟨v0, vs0, d0, ds0, p0, q0, hv0, rfl, rfl, h0, r0⟩ := trodAll_cons hA
 obtain ⟨v1, vs1, d1, ds1, p1, q1, rfl, rfl, rfl, h1, r1⟩ := trodAll_cons r0
 obtain ⟨rfl, rfl, rfl⟩ := trodAll_nil r1
 obtain rfl : args = #[v0, v1] := by cases args; simp_all
 obtain ⟨s0, rfl, rfl, rfl, hs0⟩ := ChangeMaps.open_string Tryz.underlying9 (hval 0 9 v0 rfl rfl) h0
 obtain ⟨s1, rfl, rfl, rfl, hs1⟩ := ChangeMaps.open_string Tryz.underlying9 (hval 1 9 v1 rfl rfl) h1
 obtain ⟨rfl, rfl⟩ : gs = [] ∧ q = [] := trodVars_none hV
 have hwt' : ([s0.data.toList.length, s1.data.toList.length] : List Nat).all (· ≤ reachBytes) = true := by
  have := hwt
  rw [show Tryz.f5.params.toList = [9, 9] by rw [Tryz.params5]] at this
  simpa [DataW.weightsEach, DataW.weights] using this
 have hr : reachBytes ≤ 140737488355328 := by decide
 have hx0 : s0.data.toList.length ≤ reachBytes := of_decide_eq_true (List.all_eq_true.1 hwt' _ (List.mem_cons_self ..))
 have hy0 : s0.data.toList.length = s0.size := by simp
 have hz0 : s0.size ≤ 140737488355328 := by omega
 have hx1 : s1.data.toList.length ≤ reachBytes := of_decide_eq_true (List.all_eq_true.1 hwt' _ (List.mem_cons_of_mem _ (List.mem_cons_self ..)))
 have hy1 : s1.data.toList.length = s1.size := by simp
 have hz1 : s1.size ≤ 140737488355328 := by omega
 refine (law_run (f := 5) (args := [.string s0, .string s1]) (handle_of_laid hL) (LRel.cons (.string s0) (LRel.cons (.string s1) (LRel.nil _))) (ZL.parseCuts_w hz0 hz1 fun h' => ⟨h', rfl⟩)).mono fun e W' ⟨he, hb⟩ => ?_
 subst he
 exact ⟨_, rfl, law_post laidOut rfl (by kernel_rfl) Tryz.underlying4 (by kernel_rfl) rfl hW' hb⟩

theorem cuts_said : Rows.ParseCutsSaid :=
 OpenClaim.holds_of_wide 5 Tryz.f5 rfl rfl rfl rfl rfl rfl rfl ⟨rfl, rfl, rfl, rfl, rfl⟩ rfl rfl rfl rfl rfl (by kernel_rfl) Tryz.func5 (by kernel_rfl)
  (of_decide_eq_true (by kernel_rfl)) (by unfold Func.isWrapper; rw [if_neg (of_decide_eq_false (by kernel_rfl))]; exact ⟨rfl, rfl⟩)
  (fun os started H enc _ => cuts_lifted os started H enc)

theorem cuts_plain (f : FuncId) (fn : Func) (hf : Tryz.pinned.checked.prog.funcNamed "derrick/derricklaw02.ParseCuts" = some f) (hfn : Tryz.pinned.checked.prog.funcs[f]? = some fn) :
  true = Tryz.pinned.checked.prog.looks [] ∧ ∀ (j : Nat) t, fn.params[j]? = some t → Tryz.pinned.checked.prog.wantsStandIn t = false := by
 obtain rfl : f = 5 := Option.some.inj ((show Tryz.prog.funcNamed "derrick/derricklaw02.ParseCuts" = some 5 by kernel_rfl).symm.trans hf) |>.symm
 obtain rfl : fn = Tryz.f5 := (Option.some.inj (Tryz.func5.symm.trans hfn)).symm
 refine ⟨by kernel_rfl, fun j t ht => ?_⟩
 have hall : Tryz.f5.params.toList.all (fun t => !Tryz.prog.wantsStandIn t) = true := by kernel_rfl
 have hx := List.all_eq_true.1 hall t (Array.mem_toList_iff.2 (Array.mem_of_getElem? ht))
 have hy : Tryz.prog.wantsStandIn t = false := by simpa using hx
 exact hy

theorem parseCuts_holds : Rows.ParseCutsCardSaid :=
 Claim7.holds_tied_plain_at .later [] _ _ _ _ cuts_said (fun _ h => by cases h) (by kernel_rfl) (fun _ h => by cases h) parseCuts_row_tie rfl ⟨rfl, rfl⟩ (by kernel_rfl) rfl cuts_plain (by kernel_rfl)
#print axioms parseCuts_holds
end Go.Proofs.YtoifleamknbeaaaGreatDoor
