/- ShelfNil: closed facts of the card. -/
import Derived.Test.YtpdaickealgnhaaGreatDoorRows
import Derived.Test.YtpdaickealgnhaaGreatDoorChecked
import Derived.JoinedOf
import Derived.SevenTiedAt
import Derived.KernelRfl
namespace Go.Proofs.YtpdaickealgnhaaGreatDoor
open Go
theorem g_wf : Rows.shelfNilRow.wfByText (OpenSpec.ofChange Rows.shelfNilSpec) = true := by kernel_rfl
theorem g_main : Tryz.prog.mainIs = some (true, "80e3dae2f5f54c3dcc918ccc3dd1a6d2962f8deac0a6c6ca66eb0e316c6b0405".toList) := by kernel_rfl
theorem g_named : Tryz.prog.funcNamed "haversack/haversacklaw11.ShelfNil" = some 3 := by kernel_rfl
theorem g_want : ([3, 22].all fun u => !Tryz.prog.wantsStandIn u) = true := by kernel_rfl
end Go.Proofs.YtpdaickealgnhaaGreatDoor

/- ShelfNil: a closed fact of the card. -/
namespace Go.Proofs.YtpdaickealgnhaaGreatDoor
open Go
theorem g_looks : true = Tryz.prog.looks [] := by kernel_rfl
end Go.Proofs.YtpdaickealgnhaaGreatDoor
