/- EngineNil: closed facts of the row. -/
import Derived.Test.YtoekfbfgilbgoaaGreatDoorRows
import Derived.Test.YtoekfbfgilbgoaaGreatDoorChecked
import Derived.JoinedOf
import Derived.KernelRfl
namespace Go.Proofs.YtoekfbfgilbgoaaGreatDoor
open Go
theorem c27 : ((Tryz.prog.make == some Rows.engineNilRow.make) : Bool) = true := by kernel_rfl
theorem c28 : ((Rows.engineNilRow.kinds == (if Rows.engineNilRow.domain.isEmpty then [] else Tryz.f3.params.toList.map fun t => match Tryz.prog.underlying t with | some (.int k) => some k | _ => none)) : Bool) = true := by kernel_rfl
theorem c29 : ((Rows.engineNilRow.pinned == Rows.engineNilRow.pinnedBy) : Bool) = true := by kernel_rfl
theorem c30 : ((Rows.engineNilRow.veiled == (Tryz.f3.params.toList ++ Rows.engineNilSpec.plain.varTypes Tryz.prog ++ Tryz.f3.resultTypes.toList).any (Tryz.prog.veiledRec ·)) : Bool) = true := by kernel_rfl
theorem c31 : (Rows.engineNilRow.veiledFits Tryz.prog Tryz.f3.params.toList (Tryz.f3.params.toList ++ Rows.engineNilSpec.plain.varTypes Tryz.prog ++ Tryz.f3.resultTypes.toList) : Bool) = true := by kernel_rfl
end Go.Proofs.YtoekfbfgilbgoaaGreatDoor
