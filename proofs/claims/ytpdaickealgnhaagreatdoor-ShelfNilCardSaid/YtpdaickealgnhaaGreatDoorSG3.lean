/- ShelfNil: a closed fact of the card. -/
import Derived.Test.YtpdaickealgnhaaGreatDoorRows
import Derived.Test.YtpdaickealgnhaaGreatDoorChecked
import Derived.JoinedOf
import Derived.SevenTiedAt
import Derived.KernelRfl
namespace Go.Proofs.YtpdaickealgnhaaGreatDoor
open Go
theorem g_goes : false = Rows.shelfNilRow.goesBy Tryz.prog := by kernel_rfl
end Go.Proofs.YtpdaickealgnhaaGreatDoor
