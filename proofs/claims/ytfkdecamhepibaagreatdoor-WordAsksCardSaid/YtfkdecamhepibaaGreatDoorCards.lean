/-
  DERIVED. GIVEN WITH THE SEED: THE CARDS: each row of YtfkdecamhepibaaGreatDoorRows.lean that lists a variable, with what it lists TIED to the program's text (the seventh form; the later family's looks); each row that meets fmt, with fmt's text TOLD by the authors' own Lean function (tested against real Go, not proved from fmt's source: count such statements apart). THE CARD IS WHAT COUNTS. Prove the row's statement (the work); the ties are given (YtfkdecamhepibaaGreatDoorTie.lean); close each card by the builder's one call (the guide's Derived/Test/ToyasCard.lean, 'card_holds'). Laid BY PROGRAM, IN A SANDBOX (cutbox-door.mjs). By AI agents, Wed Nov 11 2026. No macro, syntax, notation, axiom, sorry.
-/
import Derived.Test.YtfkdecamhepibaaGreatDoorRows
import GoSem.ClaimSeven
namespace Go.Proofs.YtfkdecamhepibaaGreatDoor
namespace Rows

/-- THE TIED CARD OF 'gobolaw12.WordAsks'. -/
def wordAsksCard : Claim7 := { stood := { row := wordAsksRow, standIns := [], harness := (true, "04d1218bae8b1ead3b54cf52eb48cf8099614569758c427f0ebf41c59d44d347"), looks := true }, kinds := [], alts := [], laidByText := true, laidKinds := [.data, .pinned], laidTests := true, laidLooks := .later }
def WordAsksCardSaid : Prop := Claim7.holds Tryz.pinned (.plain (OpenSpec.ofChange wordAsksSpec)) wordAsksCard

/-- THE SECOND FORM's CARD OF 'gobolaw12.WordAsks'. -/
def wordAsksUptoCard : Claim7 := { stood := { row := wordAsksUptoRow, standIns := [], harness := (true, "04d1218bae8b1ead3b54cf52eb48cf8099614569758c427f0ebf41c59d44d347"), looks := true }, kinds := [], alts := [], laidByText := true, laidKinds := [.data, .pinned], laidTests := true, laidLooks := .later }
def WordAsksUptoCardSaid : Prop := Claim7.holds Tryz.pinned (.plain (OpenSpec.upto wordAsksSpec)) wordAsksUptoCard
end Rows
end Go.Proofs.YtfkdecamhepibaaGreatDoor
