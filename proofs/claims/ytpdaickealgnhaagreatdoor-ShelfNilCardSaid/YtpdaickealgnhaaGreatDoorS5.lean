/- The law haversacklaw11.ShelfNil answers true at every input, and each argument reads afterwards as before. Conditions: those of the given row and card, no other. -/
import Derived.Test.YtpdaickealgnhaaGreatDoorS4
import Derived.Test.YtpdaickealgnhaaGreatDoorSG1
import Derived.Test.YtpdaickealgnhaaGreatDoorSG3
import Derived.Test.YtpdaickealgnhaaGreatDoorCards
import Derived.Test.YtpdaickealgnhaaGreatDoorTie
import Derived.SevenTiedAt
namespace Go.Proofs.YtpdaickealgnhaaGreatDoor
open Go
theorem g_params (f : FuncId) (fn : Func) (hf : Tryz.prog.funcNamed "haversack/haversacklaw11.ShelfNil" = some f) (hfn : Tryz.prog.funcs[f]? = some fn) : true = Tryz.prog.looks [] ∧ ∀ (j : Nat) t, fn.params[j]? = some t → Tryz.prog.wantsStandIn t = false := by
  rw [g_named] at hf; cases hf
  rw [Tryz.func3] at hfn; cases hfn
  refine ⟨g_looks, fun j t ht => ?_⟩
  rw [Tryz.params3] at ht
  have hm : t ∈ [3, 22] := by simpa using Array.mem_of_getElem? ht
  simpa using List.all_eq_true.1 g_want t hm
theorem shelfNilCard_holds : Rows.ShelfNilCardSaid :=
  Claim7.holds_tied_plain_at .later [] [.data, .widerDeep, .data, .data, .data, .pinned] true (true, "80e3dae2f5f54c3dcc918ccc3dd1a6d2962f8deac0a6c6ca66eb0e316c6b0405") true
    shelfNil_holds (fun _ h => by cases h) g_wf (fun _ h => by cases h) shelfNil_row_tie rfl ⟨rfl, rfl⟩ g_main rfl g_params g_goes
#print axioms shelfNilCard_holds
end Go.Proofs.YtpdaickealgnhaaGreatDoor
