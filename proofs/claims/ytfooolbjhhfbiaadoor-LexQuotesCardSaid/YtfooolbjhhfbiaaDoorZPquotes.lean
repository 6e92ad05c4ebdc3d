/- LexQuotes is proved: for every row of bytes the law returns true, and its argument reads as it did. Conditions: what the row lists. -/
import Derived.Test.YtfooolbjhhfbiaaDoorZMquotes
import Derived.Test.YtfooolbjhhfbiaaDoorZPb
namespace Go.Proofs.YtfooolbjhhfbiaaDoor
open Go Go.Am Go.ChangeShapes Go.WideShapes Go.ChangeAt Go.RowKit

set_option maxRecDepth 100000 in
theorem quotes_lifted (os : Os) (started : os.Started) (H : Type) (enc : TypeId × Value → H) :
    ReturnsInHanded {} Tryd.checked os 4 .any (fun w args => (Rows.lexQuotesSpec.pre enc Tryd.prog Tryd.f4 [] false w args ∧ laidMetH Tryd.prog laid w) ∧ sizedMet enc Tryd.prog Tryd.f4 (OpenSpec.ofChange Rows.lexQuotesSpec) false w args)
      (Rows.lexQuotesSpec.post enc Tryd.prog Tryd.f4 false true false false) := by
  refine returnsInHanded_of_change_and (C := Tryd.checked) (X := fun w _ => laidMetH Tryd.prog laid w) (fun _ _ _ hh h => h.of_heap hh) own started (by kernel_rfl) Tryd.func4
    (ChangeSpec.witness_shaped (enc := enc) (C := Tryd.checked) (os := os) (X := fun w _ => laidMetH Tryd.prog laid w) false (World.doorLaid Tryd.prog 1000 os) #[.slice none 0 0] 8 rfl (World.shaped_of_RefB (by kernel_rfl) (by kernel_rfl)) (by kernel_rfl) (by kernel_rfl) (by kernel_rfl) (door_met os _)) ?_
  intro W base args ds gs before hval0 hW _ hwt hL _
  have hval : ∀ (j : Nat) t v, Tryd.f4.params[j]? = some t → args[j]? = some v → Value.okWide Tryd.prog W .any base t v := hval0
  have hW' := hW
  obtain ⟨p, q, hA0, hV, rfl, hfz, hnd⟩ := hW
  have hA : DataW.TrodAll enc Tryd.prog W 0 (fun _ => true) true Tryd.f4.params.toList args.toList ds p := hA0
  rw [Tryd.params4] at hA hval
  obtain ⟨v0, d0, rfl, rfl, h0⟩ := trodAll_one hA
  obtain ⟨ρ, b, n, es, zs, R, hr, hAs, hwf⟩ := ints_arg Tryd.underlying32 Tryd.underlying5 (by kernel_rfl) (hval 0 32 v0 rfl rfl) h0
  refine (law_run2 (f := 4) (args := [.slice b n es]) (handle_of_laid hL) R (LRel.cons hr (LRel.nil _)) (ZL.lexQuotes_w hAs hwf fun h' _ => ⟨h', rfl⟩)).mono fun e W' ⟨he, hb⟩ => ?_
  subst he
  exact ⟨_, rfl, law_post laidOut rfl (by kernel_rfl) Tryd.underlying4 (by kernel_rfl) rfl hW' hb⟩

theorem quotes_said : Rows.LexQuotesSaid :=
  OpenClaim.holds_of_wide 4 Tryd.f4 rfl rfl rfl rfl rfl rfl rfl ⟨rfl, rfl, rfl, rfl, rfl⟩ rfl rfl rfl rfl rfl (by kernel_rfl) Tryd.func4 (by kernel_rfl)
    (of_decide_eq_true (by kernel_rfl)) (by unfold Func.isWrapper; rw [if_neg (of_decide_eq_false (by kernel_rfl))]; exact ⟨rfl, rfl⟩)
    (fun os started H enc _ => quotes_lifted os started H enc)

theorem quotes_plain (f : FuncId) (fn : Func) (hf : Tryd.pinned.checked.prog.funcNamed "derrick/derricklaw01.LexQuotes" = some f) (hfn : Tryd.pinned.checked.prog.funcs[f]? = some fn) :
    true = Tryd.pinned.checked.prog.looks [] ∧ ∀ (j : Nat) t, fn.params[j]? = some t → Tryd.pinned.checked.prog.wantsStandIn t = false := by
  obtain rfl : f = 4 := Option.some.inj ((show Tryd.prog.funcNamed "derrick/derricklaw01.LexQuotes" = some 4 by kernel_rfl).symm.trans hf) |>.symm
  obtain rfl : fn = Tryd.f4 := (Option.some.inj (Tryd.func4.symm.trans hfn)).symm
  refine ⟨by kernel_rfl, fun j t ht => ?_⟩
  have hall : Tryd.f4.params.toList.all (fun t => !Tryd.prog.wantsStandIn t) = true := by kernel_rfl
  have hx := List.all_eq_true.1 hall t (Array.mem_toList_iff.2 (Array.mem_of_getElem? ht))
  have hy : Tryd.prog.wantsStandIn t = false := by simpa using hx
  exact hy

theorem lexQuotes_holds : Rows.LexQuotesCardSaid :=
  Claim7.holds_tied_plain_at .later [] _ _ _ _ quotes_said (fun _ h => by cases h) (by kernel_rfl) (fun _ h => by cases h) lexQuotes_row_tie rfl ⟨rfl, rfl⟩ (by kernel_rfl) rfl quotes_plain (by kernel_rfl)
#print axioms lexQuotes_holds
end Go.Proofs.YtfooolbjhhfbiaaDoor

