/- ShelfNil: what zip.pieces' deferred function does when nothing panics. -/
import Derived.Test.YtpdaickealgnhaaGreatDoorS1
import Derived.RecoverIn
import Derived.TacticsInMore
namespace Go.Proofs.YtpdaickealgnhaaGreatDoor
open Go Go.Gh
theorem quiet64 : QuietOk Tryz.prog 64 := by
  intro n args w
  refine callsDIn_of_wpSIn Tryz.func64 rfl trivial fun c₀ cs hm => ?_
  have hsz : 17 ≤ (args ++ Array.replicate (Tryz.f64.ntmps - args.size) undef).size := by
    rw [Tryz.ntmps64, Array.size_append, Array.size_replicate]; omega
  generalize hT : args ++ Array.replicate (Tryz.f64.ntmps - args.size) undef = T0 at hsz ⊢
  refine wpSIn_seq ?_
  refine wpSIn_region ?_
  have b2 : 2 < T0.size := by omega
  have b5 : 5 < T0.size := by omega
  have b6 : 6 < T0.size := by omega
  have b7 : 7 < T0.size := by omega
  simp [wpOpsSIn, go_sem, recoverD, hm, Exit.thenS, Act.put, Act.eval, b5]
  refine wpSIn_seq ?_
  refine wpSIn_region ?_
  simp [wpOpsSIn, go_sem, Exit.thenS, Act.put, Act.eval, b2, b6]
  refine wpSIn_cond (t := false) (by simp [Act.eval, b7]) ?_
  simp only [Bool.false_eq_true, if_false]
  refine wpSIn_of_wpIn rfl (wpIn_skip ?_)
  cases c₀
  simp_all [bodyPostS, results, Tryz.results64]
end Go.Proofs.YtpdaickealgnhaaGreatDoor
