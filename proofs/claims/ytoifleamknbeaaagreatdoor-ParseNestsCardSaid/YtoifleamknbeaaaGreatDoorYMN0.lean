/- ParseNests: its table, kind 0. -/
import Derived.Test.YtoifleamknbeaaaGreatDoorYMNa
open Go Go.Am
namespace Go.Proofs.ZL
set_option maxRecDepth 100000

theorem nest_tab0 : (List.range 101).all (nestB 0) = true := by decide +kernel

end Go.Proofs.ZL
