/-
  DERIVED. GIVEN WITH THE SEED: THE CARDS: each row of YtpdaickealgnhaaGreatDoorRows.lean that lists a variable, with what it lists TIED to the program's text (the seventh form; the later family's looks); each row that meets fmt, with fmt's text TOLD by the authors' own Lean function (tested against real Go, not proved from fmt's source: count such statements apart). THE CARD IS WHAT COUNTS. Prove the row's statement (the work); the ties are given (YtpdaickealgnhaaGreatDoorTie.lean); close each card by the builder's one call (the guide's Derived/Test/ToyasCard.lean, 'card_holds'). Laid BY PROGRAM, IN A SANDBOX (cutbox-door.mjs). By AI agents, Wed Nov 11 2026. No macro, syntax, notation, axiom, sorry.
-/
import Derived.Test.YtpdaickealgnhaaGreatDoorRows
import GoSem.ClaimSeven
namespace Go.Proofs.YtpdaickealgnhaaGreatDoor
namespace Rows

/-- THE TIED CARD OF 'haversacklaw11.ShelfNil'. -/
def shelfNilCard : Claim7 := { stood := { row := shelfNilRow, standIns := [], harness := (true, "80e3dae2f5f54c3dcc918ccc3dd1a6d2962f8deac0a6c6ca66eb0e316c6b0405"), looks := true }, kinds := [], alts := [], laidByText := true, laidKinds := [.data, .widerDeep, .data, .data, .data, .pinned], laidTests := true, laidLooks := .later }
def ShelfNilCardSaid : Prop := Claim7.holds Tryz.pinned (.plain (OpenSpec.ofChange shelfNilSpec)) shelfNilCard

/-- THE SECOND FORM's CARD OF 'haversacklaw11.ShelfNil'. -/
def shelfNilUptoCard : Claim7 := { stood := { row := shelfNilUptoRow, standIns := [], harness := (true, "80e3dae2f5f54c3dcc918ccc3dd1a6d2962f8deac0a6c6ca66eb0e316c6b0405"), looks := true }, kinds := [], alts := [], laidByText := true, laidKinds := [.data, .widerDeep, .data, .data, .data, .pinned], laidTests := true, laidLooks := .later }
def ShelfNilUptoCardSaid : Prop := Claim7.holds Tryz.pinned (.plain (OpenSpec.upto shelfNilSpec)) shelfNilUptoCard
end Rows
end Go.Proofs.YtpdaickealgnhaaGreatDoor
