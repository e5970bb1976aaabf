/- ShelfNil: calls of limit. -/
import Derived.Test.YtpdaickealgnhaaGreatDoorS1
namespace Go.Proofs.YtpdaickealgnhaaGreatDoor
open Go Go.Gh
set_option maxRecDepth 1000000 in
theorem limit0_ok : rowOk fs3 1000000 X0.ng 130 [] limit0 = true := by decide +kernel
set_option maxRecDepth 1000000 in
theorem limit1_ok : rowOk fs3 1000000 X0.ng 130 [] limit1 = true := by decide +kernel
set_option maxRecDepth 1000000 in
theorem limit2_ok : rowOk fs3 1000000 X0.ng 130 [] limit2 = true := by decide +kernel
end Go.Proofs.YtpdaickealgnhaaGreatDoor
