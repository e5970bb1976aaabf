/- ShelfNil: closed facts of the row. -/
import Derived.Test.YtpdaickealgnhaaGreatDoorRows
import Derived.Test.YtpdaickealgnhaaGreatDoorChecked
import Derived.JoinedOf
import Derived.KernelRfl
namespace Go.Proofs.YtpdaickealgnhaaGreatDoor
open Go
theorem c12 : ((Rows.shelfNilRow.named == Tryz.prog.varsNamed 3) : Bool) = true := by kernel_rfl
theorem c13 : ((Rows.shelfNilRow.maps == (Tryz.f3.params.toList ++ Rows.shelfNilSpec.plain.varTypes Tryz.prog).any (Tryz.prog.mapsRec ·)) : Bool) = true := by kernel_rfl
theorem c14 : ((Rows.shelfNilRow.ifaces == (Tryz.f3.params.toList ++ Rows.shelfNilSpec.plain.varTypes Tryz.prog).any (Tryz.prog.ifacesRec ·)) : Bool) = true := by kernel_rfl
theorem c15 : ((Rows.shelfNilRow.mapsOut == Tryz.prog.mapsAmong Tryz.f3.resultTypes.toList) : Bool) = true := by kernel_rfl
theorem c16 : ((Rows.shelfNilRow.loops == (Tryz.f3.params.toList ++ Rows.shelfNilSpec.plain.varTypes Tryz.prog).any (Tryz.prog.loopsFrom ·)) : Bool) = true := by kernel_rfl
theorem c17 : ((Rows.shelfNilRow.wideKeys == (Tryz.f3.params.toList ++ Rows.shelfNilSpec.plain.varTypes Tryz.prog ++ Tryz.f3.resultTypes.toList).any (Tryz.prog.wideKeysFrom ·)) : Bool) = true := by kernel_rfl
theorem c18 : (Rows.shelfNilSpec.vars.all (Tryz.prog.varReadable ·) : Bool) = true := by kernel_rfl
theorem c19 : (Tryz.f3.resultTypes.all (fun t => Tryz.prog.readableRec t && decide (t < Tryz.prog.types.size)) : Bool) = true := by kernel_rfl
theorem c20 : ((Rows.shelfNilRow.ifacesOut == Tryz.f3.resultTypes.toList.any (Tryz.prog.ifacesRec ·)) : Bool) = true := by kernel_rfl
theorem c21 : ((Rows.shelfNilRow.loopsOut == Tryz.f3.resultTypes.toList.any (Tryz.prog.loopsFrom ·)) : Bool) = true := by kernel_rfl
theorem c22 : ((Rows.shelfNilRow.plainKeys == Tryz.prog.plainKeys) : Bool) = true := by kernel_rfl
theorem c23 : (Rows.shelfNilRow.shortTexts.isNone : Bool) = true := by kernel_rfl
theorem c24 : (Tryz.prog.stopsHeard : Bool) = true := by kernel_rfl
end Go.Proofs.YtpdaickealgnhaaGreatDoor
