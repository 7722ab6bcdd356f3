/-
  DERIVED. GIVEN WITH THE SEED: THE CARDS: each row of YtimbiogcllmalaaDoorRows.lean that lists a variable, with what it lists TIED to the program's text (the seventh form; the later family's looks); each row that meets fmt, with fmt's text TOLD by the authors' own Lean function (tested against real Go, not proved from fmt's source: count such statements apart). THE CARD IS WHAT COUNTS. Prove the row's statement (the work); the ties are given (YtimbiogcllmalaaDoorTie.lean); close each card by the builder's one call (the guide's Derived/Test/ToyasCard.lean, 'card_holds'). Laid BY PROGRAM, IN A SANDBOX (cutbox-door.mjs). By AI agents, Wed Nov 11 2026. No macro, syntax, notation, axiom, sorry.
-/
import Derived.Test.YtimbiogcllmalaaDoorRows
import GoSem.ClaimSeven
namespace Go.Proofs.YtimbiogcllmalaaDoor
namespace Rows

/-- THE TIED CARD OF 'gobolaw12.WordPlaces'. -/
def wordPlacesCard : Claim7 := { stood := { row := wordPlacesRow, standIns := [], harness := (true, "376b556aa5d640fed5cd2dd58913a763222581bcaa09c75326335825578f02f7"), looks := true }, kinds := [], alts := [], laidByText := true, laidKinds := [.data, .pinned], laidTests := true, laidLooks := .later }
def WordPlacesCardSaid : Prop := Claim7.holds Tryd.pinned (.plain (OpenSpec.ofChange wordPlacesSpec)) wordPlacesCard

/-- THE TIED CARD OF 'gobolaw12.WordBlanks'. -/
def wordBlanksCard : Claim7 := { stood := { row := wordBlanksRow, standIns := [], harness := (true, "376b556aa5d640fed5cd2dd58913a763222581bcaa09c75326335825578f02f7"), looks := true }, kinds := [], alts := [], laidByText := true, laidKinds := [.data, .pinned], laidTests := true, laidLooks := .later }
def WordBlanksCardSaid : Prop := Claim7.holds Tryd.pinned (.plain (OpenSpec.ofChange wordBlanksSpec)) wordBlanksCard

/-- THE TIED CARD OF 'gobolaw12.WordKinds'. -/
def wordKindsCard : Claim7 := { stood := { row := wordKindsRow, standIns := [], harness := (true, "376b556aa5d640fed5cd2dd58913a763222581bcaa09c75326335825578f02f7"), looks := true }, kinds := [], alts := [], laidByText := true, laidKinds := [.data, .pinned], laidTests := true, laidLooks := .later }
def WordKindsCardSaid : Prop := Claim7.holds Tryd.pinned (.plain (OpenSpec.ofChange wordKindsSpec)) wordKindsCard

/-- THE TIED CARD OF 'gobolaw12.WordClasses'. -/
def wordClassesCard : Claim7 := { stood := { row := wordClassesRow, standIns := [], harness := (true, "376b556aa5d640fed5cd2dd58913a763222581bcaa09c75326335825578f02f7"), looks := true }, kinds := [], alts := [], laidByText := true, laidKinds := [.data, .pinned], laidTests := true, laidLooks := .later }
def WordClassesCardSaid : Prop := Claim7.holds Tryd.pinned (.plain (OpenSpec.ofChange wordClassesSpec)) wordClassesCard

/-- THE SECOND FORM's CARD OF 'gobolaw12.WordPlaces'. -/
def wordPlacesUptoCard : Claim7 := { stood := { row := wordPlacesUptoRow, standIns := [], harness := (true, "376b556aa5d640fed5cd2dd58913a763222581bcaa09c75326335825578f02f7"), looks := true }, kinds := [], alts := [], laidByText := true, laidKinds := [.data, .pinned], laidTests := true, laidLooks := .later }
def WordPlacesUptoCardSaid : Prop := Claim7.holds Tryd.pinned (.plain (OpenSpec.upto wordPlacesSpec)) wordPlacesUptoCard

/-- THE SECOND FORM's CARD OF 'gobolaw12.WordBlanks'. -/
def wordBlanksUptoCard : Claim7 := { stood := { row := wordBlanksUptoRow, standIns := [], harness := (true, "376b556aa5d640fed5cd2dd58913a763222581bcaa09c75326335825578f02f7"), looks := true }, kinds := [], alts := [], laidByText := true, laidKinds := [.data, .pinned], laidTests := true, laidLooks := .later }
def WordBlanksUptoCardSaid : Prop := Claim7.holds Tryd.pinned (.plain (OpenSpec.upto wordBlanksSpec)) wordBlanksUptoCard

/-- THE SECOND FORM's CARD OF 'gobolaw12.WordKinds'. -/
def wordKindsUptoCard : Claim7 := { stood := { row := wordKindsUptoRow, standIns := [], harness := (true, "376b556aa5d640fed5cd2dd58913a763222581bcaa09c75326335825578f02f7"), looks := true }, kinds := [], alts := [], laidByText := true, laidKinds := [.data, .pinned], laidTests := true, laidLooks := .later }
def WordKindsUptoCardSaid : Prop := Claim7.holds Tryd.pinned (.plain (OpenSpec.upto wordKindsSpec)) wordKindsUptoCard

/-- THE SECOND FORM's CARD OF 'gobolaw12.WordClasses'. -/
def wordClassesUptoCard : Claim7 := { stood := { row := wordClassesUptoRow, standIns := [], harness := (true, "376b556aa5d640fed5cd2dd58913a763222581bcaa09c75326335825578f02f7"), looks := true }, kinds := [], alts := [], laidByText := true, laidKinds := [.data, .pinned], laidTests := true, laidLooks := .later }
def WordClassesUptoCardSaid : Prop := Claim7.holds Tryd.pinned (.plain (OpenSpec.upto wordClassesSpec)) wordClassesUptoCard
end Rows
end Go.Proofs.YtimbiogcllmalaaDoor
