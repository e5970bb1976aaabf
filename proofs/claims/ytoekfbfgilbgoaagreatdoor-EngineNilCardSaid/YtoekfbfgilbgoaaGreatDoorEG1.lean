/- EngineNil: closed facts of the card. -/
import Derived.Test.YtoekfbfgilbgoaaGreatDoorRows
import Derived.Test.YtoekfbfgilbgoaaGreatDoorChecked
import Derived.JoinedOf
import Derived.SevenTiedAt
import Derived.KernelRfl
namespace Go.Proofs.YtoekfbfgilbgoaaGreatDoor
open Go
theorem g_wf : Rows.engineNilRow.wfByText (OpenSpec.ofChange Rows.engineNilSpec) = true := by kernel_rfl
theorem g_main : Tryz.prog.mainIs = some (true, "fd7dc70e223b9f5528ebb04993c9a9a5cf4f3ee39c1065f2375bf4fee3f327e2".toList) := by kernel_rfl
theorem g_named : Tryz.prog.funcNamed "haversack/haversacklaw21.EngineNil" = some 3 := by kernel_rfl
theorem g_want : ([22, 25].all fun u => !Tryz.prog.wantsStandIn u) = true := by kernel_rfl
end Go.Proofs.YtoekfbfgilbgoaaGreatDoor
