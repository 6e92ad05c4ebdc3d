/- LexSpaced is proved: for every row of texts the law returns true, and its argument reads as it did. Conditions: what the row lists. -/
import Derived.Test.YtfooolbjhhfbiaaDoorZMspaced
import Derived.Test.YtfooolbjhhfbiaaDoorZPb
namespace Go.Proofs.YtfooolbjhhfbiaaDoor
open Go Go.Am Go.ChangeShapes Go.WideShapes Go.ChangeAt Go.RowKit

set_option maxRecDepth 100000 in
theorem spaced_lifted (os : Os) (started : os.Started) (H : Type) (enc : TypeId × Value → H) :
    ReturnsInHanded {} Tryd.checked os 3 .any (fun w args => (Rows.lexSpacedSpec.pre enc Tryd.prog Tryd.f3 [] false w args ∧ laidMetH Tryd.prog laid w) ∧ sizedMet enc Tryd.prog Tryd.f3 (OpenSpec.ofChange Rows.lexSpacedSpec) false w args)
      (Rows.lexSpacedSpec.post enc Tryd.prog Tryd.f3 false true false false) := by
  refine returnsInHanded_of_change_and (C := Tryd.checked) (X := fun w _ => laidMetH Tryd.prog laid w) (fun _ _ _ hh h => h.of_heap hh) own started (by kernel_rfl) Tryd.func3
    (ChangeSpec.witness_shaped (enc := enc) (C := Tryd.checked) (os := os) (X := fun w _ => laidMetH Tryd.prog laid w) false (World.doorLaid Tryd.prog 1000 os) #[.slice none 0 0] 8 rfl (World.shaped_of_RefB (by kernel_rfl) (by kernel_rfl)) (by kernel_rfl) (by kernel_rfl) (by kernel_rfl) (door_met os _)) ?_
  intro W base args ds gs before hval0 hW _ hwt hL _
  have hval : ∀ (j : Nat) t v, Tryd.f3.params[j]? = some t → args[j]? = some v → Value.okWide Tryd.prog W .any base t v := hval0
  have hW' := hW
  obtain ⟨p, q, hA0, hV, rfl, hfz, hnd⟩ := hW
  have hA : DataW.TrodAll enc Tryd.prog W 0 (fun _ => true) true Tryd.f3.params.toList args.toList ds p := hA0
  rw [Tryd.params3] at hA hval
  obtain ⟨v0, d0, rfl, rfl, h0⟩ := trodAll_one hA
  obtain ⟨rfl, rfl⟩ : gs = [] ∧ q = [] := trodVars_none hV
  have hwt' : (d0.weights Tryd.prog 22).all (· ≤ reachBytes) = true := by
    have hx := hwt
    rw [show Tryd.f3.params.toList = [22] by rw [Tryd.params3]] at hx
    have hy : (DataW.weightsEach Tryd.prog [22] [d0]).all (· ≤ reachBytes) = true := hx
    simpa [DataW.weightsEach] using hy
  obtain ⟨ρ, b, n, es, zs, R, hr, hAs, hwf⟩ := texts_arg Tryd.underlying22 Tryd.underlying9 (by kernel_rfl) (hval 0 22 v0 rfl rfl) h0 hwt'
  refine (law_run2 (f := 3) (args := [.slice b n es]) (handle_of_laid hL) R (LRel.cons hr (LRel.nil _)) (ZL.lexSpaced_w hAs (fun s hs => Nat.le_trans (hwf s hs) (by decide)) fun h' _ => ⟨h', rfl⟩)).mono fun e W' ⟨he, hb⟩ => ?_
  subst he
  exact ⟨_, rfl, law_post laidOut rfl (by kernel_rfl) Tryd.underlying4 (by kernel_rfl) rfl hW' hb⟩

theorem spaced_said : Rows.LexSpacedSaid :=
  OpenClaim.holds_of_wide 3 Tryd.f3 rfl rfl rfl rfl rfl rfl rfl ⟨rfl, rfl, rfl, rfl, rfl⟩ rfl rfl rfl rfl rfl (by kernel_rfl) Tryd.func3 (by kernel_rfl)
    (of_decide_eq_true (by kernel_rfl)) (by unfold Func.isWrapper; rw [if_neg (of_decide_eq_false (by kernel_rfl))]; exact ⟨rfl, rfl⟩)
    (fun os started H enc _ => spaced_lifted os started H enc)

theorem spaced_plain (f : FuncId) (fn : Func) (hf : Tryd.pinned.checked.prog.funcNamed "derrick/derricklaw01.LexSpaced" = some f) (hfn : Tryd.pinned.checked.prog.funcs[f]? = some fn) :
    true = Tryd.pinned.checked.prog.looks [] ∧ ∀ (j : Nat) t, fn.params[j]? = some t → Tryd.pinned.checked.prog.wantsStandIn t = false := by
  obtain rfl : f = 3 := Option.some.inj ((show Tryd.prog.funcNamed "derrick/derricklaw01.LexSpaced" = some 3 by kernel_rfl).symm.trans hf) |>.symm
  obtain rfl : fn = Tryd.f3 := (Option.some.inj (Tryd.func3.symm.trans hfn)).symm
  refine ⟨by kernel_rfl, fun j t ht => ?_⟩
  have hall : Tryd.f3.params.toList.all (fun t => !Tryd.prog.wantsStandIn t) = true := by kernel_rfl
  have hx := List.all_eq_true.1 hall t (Array.mem_toList_iff.2 (Array.mem_of_getElem? ht))
  have hy : Tryd.prog.wantsStandIn t = false := by simpa using hx
  exact hy

theorem lexSpaced_holds : Rows.LexSpacedCardSaid :=
  Claim7.holds_tied_plain_at .later [] _ _ _ _ spaced_said (fun _ h => by cases h) (by kernel_rfl) (fun _ h => by cases h) lexSpaced_row_tie rfl ⟨rfl, rfl⟩ (by kernel_rfl) rfl spaced_plain (by kernel_rfl)
#print axioms lexSpaced_holds
end Go.Proofs.YtfooolbjhhfbiaaDoor

