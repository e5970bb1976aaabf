/- ShelfNil: the row, joined. -/
import Derived.Test.YtpdaickealgnhaaGreatDoorS3
import Derived.Test.YtpdaickealgnhaaGreatDoorSF1
import Derived.Test.YtpdaickealgnhaaGreatDoorSF2
import Derived.Test.YtpdaickealgnhaaGreatDoorSF3
import Derived.Test.YtpdaickealgnhaaGreatDoorSF4
namespace Go.Proofs.YtpdaickealgnhaaGreatDoor
open Go Go.ChangeShapes Go.WideShapes Go.ChangeAt Go.RowKit
theorem andT {a b : Bool} (h : a = true) (k : b = true) : (a && b) = true := by rw [h, k]; rfl
theorem closed : joinedFacts Tryz.prog 3 Tryz.f3 Rows.shelfNilSpec Rows.shelfNilRow = true := by
  unfold joinedFacts
  refine andT ?_ c31
  refine andT ?_ c30
  refine andT ?_ c29
  refine andT ?_ (by kernel_rfl)
  refine andT ?_ c27
  refine andT ?_ c26
  refine andT ?_ c25
  refine andT ?_ c24
  refine andT ?_ c23
  refine andT ?_ c22
  refine andT ?_ c21
  refine andT ?_ c20
  refine andT ?_ c19
  refine andT ?_ c18
  refine andT ?_ c17
  refine andT ?_ c16
  refine andT ?_ c15
  refine andT ?_ c14
  refine andT ?_ c13
  refine andT ?_ c12
  refine andT ?_ c11
  refine andT ?_ c10
  refine andT ?_ c9
  refine andT ?_ c8
  refine andT ?_ c7
  refine andT ?_ c6
  refine andT ?_ c5
  refine andT ?_ c4
  refine andT ?_ c3
  refine andT ?_ c2
  refine andT ?_ c1
  exact c0
theorem shelfNil_holds : Rows.ShelfNilSaid :=
  OpenClaim.holds_of_wide 3 Tryz.f3 rfl rfl rfl rfl rfl rfl rfl ⟨rfl, rfl, rfl, rfl, rfl⟩ rfl rfl rfl rfl rfl (by kernel_rfl) Tryz.func3 closed
    (of_decide_eq_true (by kernel_rfl)) (by unfold Func.isWrapper; first | (rw [if_pos (by decide +kernel)]; kernel_rfl) | (rw [if_neg (by decide +kernel)]; exact ⟨rfl, rfl⟩))
    (fun os started H enc _ => lifted os started H enc)
#print axioms shelfNil_holds
end Go.Proofs.YtpdaickealgnhaaGreatDoor
