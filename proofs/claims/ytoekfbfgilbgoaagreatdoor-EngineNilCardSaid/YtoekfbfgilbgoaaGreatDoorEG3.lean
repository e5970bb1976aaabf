/- EngineNil: a closed fact of the card. -/
import Derived.Test.YtoekfbfgilbgoaaGreatDoorRows
import Derived.Test.YtoekfbfgilbgoaaGreatDoorChecked
import Derived.JoinedOf
import Derived.SevenTiedAt
import Derived.KernelRfl
namespace Go.Proofs.YtoekfbfgilbgoaaGreatDoor
open Go
theorem g_goes : false = Rows.engineNilRow.goesBy Tryz.prog := by kernel_rfl
end Go.Proofs.YtoekfbfgilbgoaaGreatDoor
