/- EngineNil: closed facts of the row. -/
import Derived.Test.YtoekfbfgilbgoaaGreatDoorRows
import Derived.Test.YtoekfbfgilbgoaaGreatDoorChecked
import Derived.JoinedOf
import Derived.KernelRfl
namespace Go.Proofs.YtoekfbfgilbgoaaGreatDoor
open Go
theorem c0 : (Rows.engineNilRow.wf (OpenSpec.ofChange Rows.engineNilSpec) : Bool) = true := by kernel_rfl
theorem c1 : (laidOutB Tryz.prog : Bool) = true := by kernel_rfl
theorem c2 : (mapsRowed Tryz.prog : Bool) = true := by kernel_rfl
theorem c3 : (Tryz.f3.params.all (Tryz.prog.readableRec ·) : Bool) = true := by kernel_rfl
theorem c4 : (namedTie Tryz.prog Rows.engineNilRow.named Rows.engineNilSpec.vars : Bool) = true := by kernel_rfl
theorem c5 : ((Rows.engineNilRow.stops == []) : Bool) = true := by kernel_rfl
theorem c6 : ((Tryz.prog.stops == []) : Bool) = true := by kernel_rfl
theorem c7 : ((Rows.engineNilRow.knobs == []) : Bool) = true := by kernel_rfl
theorem c8 : ((Tryz.prog.stopKnobs == []) : Bool) = true := by kernel_rfl
theorem c9 : ((Rows.engineNilRow.inPlace == Tryz.prog.inPlace 3) : Bool) = true := by kernel_rfl
end Go.Proofs.YtoekfbfgilbgoaaGreatDoor
