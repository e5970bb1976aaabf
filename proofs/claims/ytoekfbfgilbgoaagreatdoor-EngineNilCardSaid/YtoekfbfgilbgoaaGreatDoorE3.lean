/- The law haversacklaw21.EngineNil answers true at every input, and each argument reads afterwards as before. Conditions: those of the given row and card, no other. -/
import Derived.Test.YtoekfbfgilbgoaaGreatDoorE2b
import Derived.Test.YtoekfbfgilbgoaaGreatDoorEG1
import Derived.Test.YtoekfbfgilbgoaaGreatDoorEG2
import Derived.Test.YtoekfbfgilbgoaaGreatDoorEG3
import Derived.Test.YtoekfbfgilbgoaaGreatDoorCards
import Derived.Test.YtoekfbfgilbgoaaGreatDoorTie
import Derived.SevenTiedAt
namespace Go.Proofs.YtoekfbfgilbgoaaGreatDoor
open Go
theorem g_params (f : FuncId) (fn : Func) (hf : Tryz.prog.funcNamed "haversack/haversacklaw21.EngineNil" = some f) (hfn : Tryz.prog.funcs[f]? = some fn) : true = Tryz.prog.looks [] ∧ ∀ (j : Nat) t, fn.params[j]? = some t → Tryz.prog.wantsStandIn t = false := by
  rw [g_named] at hf; cases hf
  rw [Tryz.func3] at hfn; cases hfn
  refine ⟨g_looks, fun j t ht => ?_⟩
  rw [Tryz.params3] at ht
  have hm : t ∈ [22, 25] := by simpa using Array.mem_of_getElem? ht
  simpa using List.all_eq_true.1 g_want t hm
theorem engineNilCard_holds : Rows.EngineNilCardSaid :=
  Claim7.holds_tied_plain_at .later [] [.data, .data, .data, .data, .sentinel, .sentinel, .widerDeep, .data, .data, .data, .pinned] true (true, "fd7dc70e223b9f5528ebb04993c9a9a5cf4f3ee39c1065f2375bf4fee3f327e2") true
    engineNil_holds (fun _ h => by cases h) g_wf (fun _ h => by cases h) engineNil_row_tie rfl ⟨rfl, rfl⟩ g_main rfl g_params g_goes
#print axioms engineNilCard_holds
end Go.Proofs.YtoekfbfgilbgoaaGreatDoor
