/- ShelfNil: calls of check. -/
import Derived.Test.YtpdaickealgnhaaGreatDoorS1
namespace Go.Proofs.YtpdaickealgnhaaGreatDoor
open Go Go.Gh
set_option maxRecDepth 1000000 in
theorem check0_ok : rowOk fs1 1000000 X0.ng 167 [] check0 = true := by decide +kernel
set_option maxRecDepth 1000000 in
theorem check1_ok : rowOk fs1 1000000 X0.ng 167 [] check1 = true := by decide +kernel
set_option maxRecDepth 1000000 in
theorem check2_ok : rowOk fs1 1000000 X0.ng 167 [] check2 = true := by decide +kernel
set_option maxRecDepth 1000000 in
theorem check3_ok : rowOk fs1 1000000 X0.ng 167 [] check3 = true := by decide +kernel
set_option maxRecDepth 1000000 in
theorem check4_ok : rowOk fs1 1000000 X0.ng 167 [] check4 = true := by decide +kernel
end Go.Proofs.YtpdaickealgnhaaGreatDoor

/- ShelfNil: calls of codes. -/
namespace Go.Proofs.YtpdaickealgnhaaGreatDoor
open Go Go.Gh
set_option maxRecDepth 1000000 in
theorem codes0_ok : rowOk fs2 1000000 X0.ng 152 [] codes0 = true := by decide +kernel
set_option maxRecDepth 1000000 in
theorem codes1_ok : rowOk fs2 1000000 X0.ng 152 [] codes1 = true := by decide +kernel
set_option maxRecDepth 1000000 in
theorem codes2_ok : rowOk fs2 1000000 X0.ng 152 [] codes2 = true := by decide +kernel
set_option maxRecDepth 1000000 in
theorem codes3_ok : rowOk fs2 1000000 X0.ng 152 [] codes3 = true := by decide +kernel
set_option maxRecDepth 1000000 in
theorem codes4_ok : rowOk fs2 1000000 X0.ng 152 [] codes4 = true := by decide +kernel
end Go.Proofs.YtpdaickealgnhaaGreatDoor
