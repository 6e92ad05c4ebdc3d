/- ParseNests: its table, kind 1. -/
import Derived.Test.YtoifleamknbeaaaGreatDoorYMNa
open Go Go.Am
namespace Go.Proofs.ZL
set_option maxRecDepth 100000

theorem nest_tab1 : (List.range 101).all (nestB 1) = true := by decide +kernel

end Go.Proofs.ZL
