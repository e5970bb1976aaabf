/- EngineNil: closed facts of the row. -/
import Derived.Test.YtoekfbfgilbgoaaGreatDoorRows
import Derived.Test.YtoekfbfgilbgoaaGreatDoorChecked
import Derived.JoinedOf
import Derived.KernelRfl
namespace Go.Proofs.YtoekfbfgilbgoaaGreatDoor
open Go
theorem c10 : ((Rows.engineNilRow.unfollowed == Tryz.prog.unfollowed 3) : Bool) = true := by kernel_rfl
theorem c11 : ((Rows.engineNilRow.recurses == Tryz.prog.recurses 3) : Bool) = true := by kernel_rfl
end Go.Proofs.YtoekfbfgilbgoaaGreatDoor
