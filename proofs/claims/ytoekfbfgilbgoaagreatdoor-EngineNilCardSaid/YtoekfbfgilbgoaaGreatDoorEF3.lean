/- EngineNil: closed facts of the row. -/
import Derived.Test.YtoekfbfgilbgoaaGreatDoorRows
import Derived.Test.YtoekfbfgilbgoaaGreatDoorChecked
import Derived.JoinedOf
import Derived.KernelRfl
namespace Go.Proofs.YtoekfbfgilbgoaaGreatDoor
open Go
theorem c12 : ((Rows.engineNilRow.named == Tryz.prog.varsNamed 3) : Bool) = true := by kernel_rfl
theorem c13 : ((Rows.engineNilRow.maps == (Tryz.f3.params.toList ++ Rows.engineNilSpec.plain.varTypes Tryz.prog).any (Tryz.prog.mapsRec ·)) : Bool) = true := by kernel_rfl
theorem c14 : ((Rows.engineNilRow.ifaces == (Tryz.f3.params.toList ++ Rows.engineNilSpec.plain.varTypes Tryz.prog).any (Tryz.prog.ifacesRec ·)) : Bool) = true := by kernel_rfl
theorem c15 : ((Rows.engineNilRow.mapsOut == Tryz.prog.mapsAmong Tryz.f3.resultTypes.toList) : Bool) = true := by kernel_rfl
theorem c16 : ((Rows.engineNilRow.loops == (Tryz.f3.params.toList ++ Rows.engineNilSpec.plain.varTypes Tryz.prog).any (Tryz.prog.loopsFrom ·)) : Bool) = true := by kernel_rfl
theorem c17 : ((Rows.engineNilRow.wideKeys == (Tryz.f3.params.toList ++ Rows.engineNilSpec.plain.varTypes Tryz.prog ++ Tryz.f3.resultTypes.toList).any (Tryz.prog.wideKeysFrom ·)) : Bool) = true := by kernel_rfl
theorem c18 : (Rows.engineNilSpec.vars.all (Tryz.prog.varReadable ·) : Bool) = true := by kernel_rfl
theorem c19 : (Tryz.f3.resultTypes.all (fun t => Tryz.prog.readableRec t && decide (t < Tryz.prog.types.size)) : Bool) = true := by kernel_rfl
theorem c20 : ((Rows.engineNilRow.ifacesOut == Tryz.f3.resultTypes.toList.any (Tryz.prog.ifacesRec ·)) : Bool) = true := by kernel_rfl
theorem c21 : ((Rows.engineNilRow.loopsOut == Tryz.f3.resultTypes.toList.any (Tryz.prog.loopsFrom ·)) : Bool) = true := by kernel_rfl
theorem c22 : ((Rows.engineNilRow.plainKeys == Tryz.prog.plainKeys) : Bool) = true := by kernel_rfl
theorem c23 : (Rows.engineNilRow.shortTexts.isNone : Bool) = true := by kernel_rfl
theorem c24 : (Tryz.prog.stopsHeard : Bool) = true := by kernel_rfl
end Go.Proofs.YtoekfbfgilbgoaaGreatDoor
