/- ParseNests: its table, kind 3, part b. -/
import Derived.Test.YtoifleamknbeaaaGreatDoorYMNa
open Go Go.Am
namespace Go.Proofs.ZL
set_option maxRecDepth 100000

theorem nest_tab3_3 : (List.range 17).all (fun i => nestB 3 (i + 51)) = true := by decide +kernel
theorem nest_tab3_4 : (List.range 17).all (fun i => nestB 3 (i + 68)) = true := by decide +kernel
theorem nest_tab3_5 : (List.range 17).all (fun i => nestB 3 (i + 85)) = true := by decide +kernel

end Go.Proofs.ZL
