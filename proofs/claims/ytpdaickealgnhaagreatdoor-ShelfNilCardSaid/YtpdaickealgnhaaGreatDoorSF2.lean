/- ShelfNil: closed facts of the row. -/
import Derived.Test.YtpdaickealgnhaaGreatDoorRows
import Derived.Test.YtpdaickealgnhaaGreatDoorChecked
import Derived.JoinedOf
import Derived.KernelRfl
namespace Go.Proofs.YtpdaickealgnhaaGreatDoor
open Go
theorem c10 : ((Rows.shelfNilRow.unfollowed == Tryz.prog.unfollowed 3) : Bool) = true := by kernel_rfl
theorem c11 : ((Rows.shelfNilRow.recurses == Tryz.prog.recurses 3) : Bool) = true := by kernel_rfl
end Go.Proofs.YtpdaickealgnhaaGreatDoor
