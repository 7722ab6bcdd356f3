/-
  DERIVED. GIVEN WITH THE SEED: THE CARDS: each row of YtifhmogcdgfojaaGreatDoorRows.lean that lists a variable, with what it lists TIED to the program's text (the seventh form; the later family's looks); each row that meets fmt, with fmt's text TOLD by the authors' own Lean function (tested against real Go, not proved from fmt's source: count such statements apart). THE CARD IS WHAT COUNTS. Prove the row's statement (the work); the ties are given (YtifhmogcdgfojaaGreatDoorTie.lean); close each card by the builder's one call (the guide's Derived/Test/ToyasCard.lean, 'card_holds'). Laid BY PROGRAM, IN A SANDBOX (cutbox-door.mjs). By AI agents, Wed Nov 11 2026. No macro, syntax, notation, axiom, sorry.
-/
import Derived.Test.YtifhmogcdgfojaaGreatDoorRows
import GoSem.ClaimSeven
namespace Go.Proofs.YtifhmogcdgfojaaGreatDoor
namespace Rows

/-- THE TIED CARD OF 'gobolaw14.PrintOnce'. -/
def printOnceCard : Claim7 := { stood := { row := printOnceRow, standIns := [], harness := (true, "5e96710d2757aff1f4d3cc281796986d83ce0a2d7abc3e3d3f79342421561ebc"), looks := true }, kinds := [], alts := [], laidByText := true, laidKinds := [.data, .data, .data, .data, .widerDeep, .pinned, .pinned], laidTests := true, laidLooks := .later }
def PrintOnceCardSaid : Prop := Claim7.holds Tryz.pinned (.plain (OpenSpec.ofChange printOnceSpec)) printOnceCard

/-- THE SECOND FORM's CARD OF 'gobolaw14.PrintOnce'. -/
def printOnceUptoCard : Claim7 := { stood := { row := printOnceUptoRow, standIns := [], harness := (true, "5e96710d2757aff1f4d3cc281796986d83ce0a2d7abc3e3d3f79342421561ebc"), looks := true }, kinds := [], alts := [], laidByText := true, laidKinds := [.data, .data, .data, .data, .widerDeep, .pinned, .pinned], laidTests := true, laidLooks := .later }
def PrintOnceUptoCardSaid : Prop := Claim7.holds Tryz.pinned (.plain (OpenSpec.upto printOnceSpec)) printOnceUptoCard
end Rows
end Go.Proofs.YtifhmogcdgfojaaGreatDoor
