/-
  DERIVED. GIVEN WITH THE SEED: THE CARDS: each row of YtkpjindnackmdaaGreatDoorRows.lean that lists a variable, with what it lists TIED to the program's text (the seventh form; the later family's looks); each row that meets fmt, with fmt's text TOLD by the authors' own Lean function (tested against real Go, not proved from fmt's source: count such statements apart). THE CARD IS WHAT COUNTS. Prove the row's statement (the work); the ties are given (YtkpjindnackmdaaGreatDoorTie.lean); close each card by the builder's one call (the guide's Derived/Test/ToyasCard.lean, 'card_holds'). Laid BY PROGRAM, IN A SANDBOX (cutbox-door.mjs). By AI agents, Wed Nov 11 2026. No macro, syntax, notation, axiom, sorry.
-/
import Derived.Test.YtkpjindnackmdaaGreatDoorRows
import GoSem.ClaimSeven
namespace Go.Proofs.YtkpjindnackmdaaGreatDoor
namespace Rows

/-- THE TIED CARD OF 'gobolaw13.ParseRunes'. -/
def parseRunesCard : Claim7 := { stood := { row := parseRunesRow, standIns := [], harness := (true, "2bbcac8c53f15b7f3a89e2565e0cb0f8fdfc3917cfac9b7483892d59b70a36c4"), looks := true }, kinds := [], alts := [], laidByText := true, laidKinds := [.data, .data, .data, .data, .widerDeep, .sentinel, .sentinel, .pinned], laidTests := true, laidLooks := .later }
def ParseRunesCardSaid : Prop := Claim7.holds Tryz.pinned (.plain (OpenSpec.ofChange parseRunesSpec)) parseRunesCard

/-- THE SECOND FORM's CARD OF 'gobolaw13.ParseRunes'. -/
def parseRunesUptoCard : Claim7 := { stood := { row := parseRunesUptoRow, standIns := [], harness := (true, "2bbcac8c53f15b7f3a89e2565e0cb0f8fdfc3917cfac9b7483892d59b70a36c4"), looks := true }, kinds := [], alts := [], laidByText := true, laidKinds := [.data, .data, .data, .data, .widerDeep, .sentinel, .sentinel, .pinned], laidTests := true, laidLooks := .later }
def ParseRunesUptoCardSaid : Prop := Claim7.holds Tryz.pinned (.plain (OpenSpec.upto parseRunesSpec)) parseRunesUptoCard
end Rows
end Go.Proofs.YtkpjindnackmdaaGreatDoor
