/- EngineNil: closed facts of the row. -/
import Derived.Test.YtoekfbfgilbgoaaGreatDoorRows
import Derived.Test.YtoekfbfgilbgoaaGreatDoorChecked
import Derived.JoinedOf
import Derived.KernelRfl
namespace Go.Proofs.YtoekfbfgilbgoaaGreatDoor
open Go
theorem c25 : (Tryz.prog.mayEnter : Bool) = true := by kernel_rfl
theorem c26 : ((Rows.engineNilRow.lifted == Tryz.prog.liftsFinal) : Bool) = true := by kernel_rfl
end Go.Proofs.YtoekfbfgilbgoaaGreatDoor
