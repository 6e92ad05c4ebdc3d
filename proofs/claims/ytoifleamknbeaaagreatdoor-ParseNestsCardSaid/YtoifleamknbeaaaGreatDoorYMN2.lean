/- ParseNests: its table, kind 2. -/
import Derived.Test.YtoifleamknbeaaaGreatDoorYMNa
open Go Go.Am
namespace Go.Proofs.ZL
set_option maxRecDepth 100000

theorem nest_tab2 : (List.range 101).all (nestB 2) = true := by decide +kernel

end Go.Proofs.ZL
