/- ShelfNil: calls of pack. -/
import Derived.Test.YtpdaickealgnhaaGreatDoorS1
namespace Go.Proofs.YtpdaickealgnhaaGreatDoor
open Go Go.Gh
set_option maxRecDepth 1000000 in
theorem pack0_ok : rowOk fs4 1000000 X0.ng 157 gsD pack0 = true := by decide +kernel
end Go.Proofs.YtpdaickealgnhaaGreatDoor

/- ShelfNil: calls of more. -/
namespace Go.Proofs.YtpdaickealgnhaaGreatDoor
open Go Go.Gh
set_option maxRecDepth 1000000 in
theorem more0_ok : rowOk fs6 1000000 X0.ng 41 gsM more0 = true := by decide +kernel
set_option maxRecDepth 1000000 in
theorem more1_ok : rowOk fs6 1000000 X0.ng 41 gsM more1 = true := by decide +kernel
set_option maxRecDepth 1000000 in
theorem more2_ok : rowOk fs6 1000000 X0.ng 41 gsM more2 = true := by decide +kernel
end Go.Proofs.YtpdaickealgnhaaGreatDoor

/- ShelfNil: calls of defl. -/
namespace Go.Proofs.YtpdaickealgnhaaGreatDoor
open Go Go.Gh
set_option maxRecDepth 1000000 in
theorem defl0_ok : rowOk fs5 1000000 X0.ng 78 gsD defl0 = true := by decide +kernel
end Go.Proofs.YtpdaickealgnhaaGreatDoor
