/- print.File, in the model: a printer is made, the tree written, its text taken. -/
import Derived.Test.YtpdkdgfknanipaaGreatDoorChecked
import Derived.WalkKit
import Derived.Laws.NewBlocks
open Go Go.RowKit
namespace Go.Proofs.ZLF
set_option linter.unusedVariables false
set_option maxRecDepth 100000
set_option maxHeartbeats 4000000

theorem aHi (a1 a2 a3 a4 a5 a6 a7 : Value) (w : World) (P1 : World → Prop) (P2 : Value → World → Prop)
  (h1 : Calls Tryz.prog 22 #[.pointer (some ⟨w.heap.size + 1, 0, none⟩), .agg #[a1, a2, a3, a4, a5, a6, a7]] ((w.alloc (.cells #[a1, a2, a3, a4, a5, a6, a7] 25)).alloc (.cells #[.pointer none, .slice none 0 0, .int .i64 0] 51)) fun e w' => (∃ v, e = .returned v) ∧ P1 w')
  (h2 : ∀ w', P1 w' → Calls Tryz.prog 23 #[.pointer (some ⟨w.heap.size + 1, 0, none⟩)] w' fun e w2 => ∃ v, e = .returned v ∧ P2 v w2) :
  Calls Tryz.prog 10 #[.agg #[a1, a2, a3, a4, a5, a6, a7]] w fun e w' => ∃ v, e = .returned v ∧ P2 v w' := by
 go_enter Tryz.func10, Tryz.ntmps10
 go_wp2_with (first | (go_at_call 22; refine h1.mono ?_; rintro e w' ⟨⟨v, rfl⟩, hp⟩) | (go_at_call 23; refine (h2 _ hp).mono ?_; rintro e w2 ⟨v2, rfl, hp2⟩))
 go_ret
 exact ⟨v2, rfl, hp2⟩

end Go.Proofs.ZLF
