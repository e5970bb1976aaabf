/- ShelfNil: calls of turned. -/
import Derived.Test.YtpdaickealgnhaaGreatDoorS1
namespace Go.Proofs.YtpdaickealgnhaaGreatDoor
open Go Go.Gh
set_option maxRecDepth 1000000 in
theorem turned0_ok : rowsOk fs0 1000000 X0.ng 176 [] (rows2 .i64 .i64 .u32 turned0) = true := by decide +kernel
set_option maxRecDepth 1000000 in
theorem turned1_ok : rowsOk fs0 1000000 X0.ng 176 [] (rows2 .i64 .i64 .u32 turned1) = true := by decide +kernel
set_option maxRecDepth 1000000 in
theorem turned2_ok : rowsOk fs0 1000000 X0.ng 176 [] (rows2 .i64 .i64 .u32 turned2) = true := by decide +kernel
set_option maxRecDepth 1000000 in
theorem turned3_ok : rowsOk fs0 1000000 X0.ng 176 [] (rows2 .i64 .i64 .u32 turned3) = true := by decide +kernel
set_option maxRecDepth 1000000 in
theorem turned4_ok : rowsOk fs0 1000000 X0.ng 176 [] (rows2 .i64 .i64 .u32 turned4) = true := by decide +kernel
set_option maxRecDepth 1000000 in
theorem turned5_ok : rowsOk fs0 1000000 X0.ng 176 [] (rows2 .i64 .i64 .u32 turned5) = true := by decide +kernel
end Go.Proofs.YtpdaickealgnhaaGreatDoor
