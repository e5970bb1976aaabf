/- ShelfNil: closed facts of the row. -/
import Derived.Test.YtpdaickealgnhaaGreatDoorRows
import Derived.Test.YtpdaickealgnhaaGreatDoorChecked
import Derived.JoinedOf
import Derived.KernelRfl
namespace Go.Proofs.YtpdaickealgnhaaGreatDoor
open Go
theorem c25 : (Tryz.prog.mayEnter : Bool) = true := by kernel_rfl
theorem c26 : ((Rows.shelfNilRow.lifted == Tryz.prog.liftsFinal) : Bool) = true := by kernel_rfl
end Go.Proofs.YtpdaickealgnhaaGreatDoor

/- ShelfNil: closed facts of the row. -/
namespace Go.Proofs.YtpdaickealgnhaaGreatDoor
open Go
theorem c27 : ((Tryz.prog.make == some Rows.shelfNilRow.make) : Bool) = true := by kernel_rfl
theorem c28 : ((Rows.shelfNilRow.kinds == (if Rows.shelfNilRow.domain.isEmpty then [] else Tryz.f3.params.toList.map fun t => match Tryz.prog.underlying t with | some (.int k) => some k | _ => none)) : Bool) = true := by kernel_rfl
theorem c29 : ((Rows.shelfNilRow.pinned == Rows.shelfNilRow.pinnedBy) : Bool) = true := by kernel_rfl
theorem c30 : ((Rows.shelfNilRow.veiled == (Tryz.f3.params.toList ++ Rows.shelfNilSpec.plain.varTypes Tryz.prog ++ Tryz.f3.resultTypes.toList).any (Tryz.prog.veiledRec ·)) : Bool) = true := by kernel_rfl
theorem c31 : (Rows.shelfNilRow.veiledFits Tryz.prog Tryz.f3.params.toList (Tryz.f3.params.toList ++ Rows.shelfNilSpec.plain.varTypes Tryz.prog ++ Tryz.f3.resultTypes.toList) : Bool) = true := by kernel_rfl
end Go.Proofs.YtpdaickealgnhaaGreatDoor
