/- ShelfNil: closed facts of the row. -/
import Derived.Test.YtpdaickealgnhaaGreatDoorRows
import Derived.Test.YtpdaickealgnhaaGreatDoorChecked
import Derived.JoinedOf
import Derived.KernelRfl
namespace Go.Proofs.YtpdaickealgnhaaGreatDoor
open Go
theorem c0 : (Rows.shelfNilRow.wf (OpenSpec.ofChange Rows.shelfNilSpec) : Bool) = true := by kernel_rfl
theorem c1 : (laidOutB Tryz.prog : Bool) = true := by kernel_rfl
theorem c2 : (mapsRowed Tryz.prog : Bool) = true := by kernel_rfl
theorem c3 : (Tryz.f3.params.all (Tryz.prog.readableRec ·) : Bool) = true := by kernel_rfl
theorem c4 : (namedTie Tryz.prog Rows.shelfNilRow.named Rows.shelfNilSpec.vars : Bool) = true := by kernel_rfl
theorem c5 : ((Rows.shelfNilRow.stops == []) : Bool) = true := by kernel_rfl
theorem c6 : ((Tryz.prog.stops == []) : Bool) = true := by kernel_rfl
theorem c7 : ((Rows.shelfNilRow.knobs == []) : Bool) = true := by kernel_rfl
theorem c8 : ((Tryz.prog.stopKnobs == []) : Bool) = true := by kernel_rfl
theorem c9 : ((Rows.shelfNilRow.inPlace == Tryz.prog.inPlace 3) : Bool) = true := by kernel_rfl
end Go.Proofs.YtpdaickealgnhaaGreatDoor
