/- ParseNests: its table, kind 3, part a. -/
import Derived.Test.YtoifleamknbeaaaGreatDoorYMNa
open Go Go.Am
namespace Go.Proofs.ZL
set_option maxRecDepth 100000

theorem nest_tab3_0 : (List.range 17).all (fun i => nestB 3 (i + 0)) = true := by decide +kernel
theorem nest_tab3_1 : (List.range 17).all (fun i => nestB 3 (i + 17)) = true := by decide +kernel
theorem nest_tab3_2 : (List.range 17).all (fun i => nestB 3 (i + 34)) = true := by decide +kernel

end Go.Proofs.ZL
