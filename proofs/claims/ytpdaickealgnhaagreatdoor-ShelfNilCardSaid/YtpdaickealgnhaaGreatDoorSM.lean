/- ShelfNil: awake runs to true. -/
import Derived.Test.YtpdaickealgnhaaGreatDoorS1
namespace Go.Proofs.YtpdaickealgnhaaGreatDoor
open Go Go.Gh
set_option maxRecDepth 1000000 in
theorem run0 : okTrue (xcall (Gh.run fs8 1000000) fs8 7 [] (heap0 gs0) X0.ng) = true := by decide +kernel
end Go.Proofs.YtpdaickealgnhaaGreatDoor
