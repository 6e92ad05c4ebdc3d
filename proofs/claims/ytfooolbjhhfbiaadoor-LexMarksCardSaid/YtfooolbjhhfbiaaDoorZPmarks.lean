/- LexMarks is proved: for every row of numbers the law returns true, and its argument reads as it did. Conditions: what the row lists. -/
import Derived.Test.YtfooolbjhhfbiaaDoorZMmarks
import Derived.Test.YtfooolbjhhfbiaaDoorZPb
namespace Go.Proofs.YtfooolbjhhfbiaaDoor
open Go Go.Am Go.ChangeShapes Go.WideShapes Go.ChangeAt Go.RowKit

set_option maxRecDepth 100000 in
theorem marks_lifted (os : Os) (started : os.Started) (H : Type) (enc : TypeId × Value → H) :
    ReturnsInHanded {} Tryd.checked os 9 .any (fun w args => (Rows.lexMarksSpec.pre enc Tryd.prog Tryd.f9 [] false w args ∧ laidMetH Tryd.prog laid w) ∧ sizedMet enc Tryd.prog Tryd.f9 (OpenSpec.ofChange Rows.lexMarksSpec) false w args)
      (Rows.lexMarksSpec.post enc Tryd.prog Tryd.f9 false true false false) := by
  refine returnsInHanded_of_change_and (C := Tryd.checked) (X := fun w _ => laidMetH Tryd.prog laid w) (fun _ _ _ hh h => h.of_heap hh) own started (by kernel_rfl) Tryd.func9
    (ChangeSpec.witness_shaped (enc := enc) (C := Tryd.checked) (os := os) (X := fun w _ => laidMetH Tryd.prog laid w) false (World.doorLaid Tryd.prog 1000 os) #[.slice none 0 0] 8 rfl (World.shaped_of_RefB (by kernel_rfl) (by kernel_rfl)) (by kernel_rfl) (by kernel_rfl) (by kernel_rfl) (door_met os _)) ?_
  intro W base args ds gs before hval0 hW _ hwt hL _
  have hval : ∀ (j : Nat) t v, Tryd.f9.params[j]? = some t → args[j]? = some v → Value.okWide Tryd.prog W .any base t v := hval0
  have hW' := hW
  obtain ⟨p, q, hA0, hV, rfl, hfz, hnd⟩ := hW
  have hA : DataW.TrodAll enc Tryd.prog W 0 (fun _ => true) true Tryd.f9.params.toList args.toList ds p := hA0
  rw [Tryd.params9] at hA hval
  obtain ⟨v0, d0, rfl, rfl, h0⟩ := trodAll_one hA
  obtain ⟨ρ, b, n, es, zs, R, hr, hAs, hwf⟩ := ints_arg Tryd.underlying34 Tryd.underlying3 (by kernel_rfl) (hval 0 34 v0 rfl rfl) h0
  refine (law_run2 (f := 9) (args := [.slice b n es]) (handle_of_laid hL) R (LRel.cons hr (LRel.nil _)) (ZL.lexMarks_w hAs fun h' _ => ⟨h', rfl⟩)).mono fun e W' ⟨he, hb⟩ => ?_
  subst he
  exact ⟨_, rfl, law_post laidOut rfl (by kernel_rfl) Tryd.underlying4 (by kernel_rfl) rfl hW' hb⟩

theorem marks_said : Rows.LexMarksSaid :=
  OpenClaim.holds_of_wide 9 Tryd.f9 rfl rfl rfl rfl rfl rfl rfl ⟨rfl, rfl, rfl, rfl, rfl⟩ rfl rfl rfl rfl rfl (by kernel_rfl) Tryd.func9 (by kernel_rfl)
    (of_decide_eq_true (by kernel_rfl)) (by unfold Func.isWrapper; rw [if_neg (of_decide_eq_false (by kernel_rfl))]; exact ⟨rfl, rfl⟩)
    (fun os started H enc _ => marks_lifted os started H enc)

theorem marks_plain (f : FuncId) (fn : Func) (hf : Tryd.pinned.checked.prog.funcNamed "derrick/derricklaw01.LexMarks" = some f) (hfn : Tryd.pinned.checked.prog.funcs[f]? = some fn) :
    true = Tryd.pinned.checked.prog.looks [] ∧ ∀ (j : Nat) t, fn.params[j]? = some t → Tryd.pinned.checked.prog.wantsStandIn t = false := by
  obtain rfl : f = 9 := Option.some.inj ((show Tryd.prog.funcNamed "derrick/derricklaw01.LexMarks" = some 9 by kernel_rfl).symm.trans hf) |>.symm
  obtain rfl : fn = Tryd.f9 := (Option.some.inj (Tryd.func9.symm.trans hfn)).symm
  refine ⟨by kernel_rfl, fun j t ht => ?_⟩
  have hall : Tryd.f9.params.toList.all (fun t => !Tryd.prog.wantsStandIn t) = true := by kernel_rfl
  have hx := List.all_eq_true.1 hall t (Array.mem_toList_iff.2 (Array.mem_of_getElem? ht))
  have hy : Tryd.prog.wantsStandIn t = false := by simpa using hx
  exact hy

theorem lexMarks_holds : Rows.LexMarksCardSaid :=
  Claim7.holds_tied_plain_at .later [] _ _ _ _ marks_said (fun _ h => by cases h) (by kernel_rfl) (fun _ h => by cases h) lexMarks_row_tie rfl ⟨rfl, rfl⟩ (by kernel_rfl) rfl marks_plain (by kernel_rfl)
#print axioms lexMarks_holds
end Go.Proofs.YtfooolbjhhfbiaaDoor

