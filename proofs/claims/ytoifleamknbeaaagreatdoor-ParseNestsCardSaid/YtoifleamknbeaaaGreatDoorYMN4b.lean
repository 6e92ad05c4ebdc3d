/- ParseNests: its table, kind 4, part b. -/
import Derived.Test.YtoifleamknbeaaaGreatDoorYMNa
open Go Go.Am
namespace Go.Proofs.ZL
set_option maxRecDepth 100000

theorem nest_tab4_3 : (List.range 17).all (fun i => nestB 4 (i + 51)) = true := by decide +kernel
theorem nest_tab4_4 : (List.range 17).all (fun i => nestB 4 (i + 68)) = true := by decide +kernel
theorem nest_tab4_5 : (List.range 17).all (fun i => nestB 4 (i + 85)) = true := by decide +kernel

end Go.Proofs.ZL
