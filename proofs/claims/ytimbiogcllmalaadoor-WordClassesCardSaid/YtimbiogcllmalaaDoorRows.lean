/-
  NARROWER THAN 'FOR EVERY INPUT', by the rows' own cells (each row's printed sentence says how): WordPlaces: laid · WordBlanks: laid · WordKinds: laid · WordClasses: laid.
  DERIVED. THE GIVEN ROWS OF THIS SEAT. 4 by the template 'for every input the law returns true; each argument reads behind the call as it read before'; 0 by the template 'total and deterministic' (their statements: YtimbiogcllmalaaDoorTotals.lean).
  GIVEN WITH THE SEED: the statements are not yours to turn. If you find one false, say at which input.
  Laid BY PROGRAM, IN A SANDBOX (cutbox-rows.mjs): the forced cells as the released guide's own fill.sh prints them over the translation 07f1becbb1fc0220… (all of the seat's roots in one cut). By AI agents, Wed Nov 11 2026. No macro, syntax, notation, axiom, sorry.
-/
import Derived.Test.YtimbiogcllmalaaDoorChecked
import GoSem.PinnedTables
import GoSem.Claim
import GoSem.ClaimJoined
import GoSem.ClaimMapViews
import Derived.JoinedTies
import Derived.KernelRfl
namespace Go.Proofs.YtimbiogcllmalaaDoor
/- THE CELL 'sum', in the pinned program and in every row, IS THE sha256 OF THE DUMP (.gsa) THAT YtimbiogcllmalaaDoorProg.lean LOADS. Nothing in Lean hashes anything: it is a label: what it is worth is what the hold of that sum in a sandbox is worth. -/
noncomputable def Tryd.pinned : Pinned := { name := "ytimbiogcllmalaadoor", sum := "07f1becbb1fc0220ec087446135dbad6d48bb6742d39ac6f60f6d4b31d51acf4", checked := Tryd.checked }
namespace Rows
def none {H : Type} : Left H := { results := [], args := [] }

/- WHAT THE LISTED PACKAGE-LEVEL VARIABLES READ AS WHEN THE CALL BEGINS. Each datum BY PROGRAM (the guide's laid-datum.mjs) off the statement by which the dump's own 'gosem.cut.vars' lays the variable. In a bare row this is a premise. The card (YtimbiogcllmalaaDoorCards.lean) ties it to the program's text. -/
def laid_unicode_utf8_acceptRanges {H : Type} : DataW H := .agg [.agg [.lit (.int .u8 128), .lit (.int .u8 191)], .agg [.lit (.int .u8 160), .lit (.int .u8 191)], .agg [.lit (.int .u8 128), .lit (.int .u8 159)], .agg [.lit (.int .u8 144), .lit (.int .u8 191)], .agg [.lit (.int .u8 128), .lit (.int .u8 143)], .agg [.lit (.int .u8 0), .lit (.int .u8 0)], .agg [.lit (.int .u8 0), .lit (.int .u8 0)], .agg [.lit (.int .u8 0), .lit (.int .u8 0)], .agg [.lit (.int .u8 0), .lit (.int .u8 0)], .agg [.lit (.int .u8 0), .lit (.int .u8 0)], .agg [.lit (.int .u8 0), .lit (.int .u8 0)], .agg [.lit (.int .u8 0), .lit (.int .u8 0)], .agg [.lit (.int .u8 0), .lit (.int .u8 0)], .agg [.lit (.int .u8 0), .lit (.int .u8 0)], .agg [.lit (.int .u8 0), .lit (.int .u8 0)], .agg [.lit (.int .u8 0), .lit (.int .u8 0)]]
/-- One of Go's own tables, pinned by name: the form's constant. -/
def laid_unicode_utf8_first : DataW Unit := Go.Pinned.utf8First

/-- 'gobolaw12.WordPlaces': WHATEVER THE INPUT: true; the input reads as it did. -/
def wordPlacesSpec : ChangeSpec := { name := "wordPlaces", fn := fun _ => fun
  | [d] => { results := [.lit (.bool true)], args := [d] }
  | _ => none }
def wordPlacesRow : OpenClaim := { program := "ytimbiogcllmalaadoor", sum := "07f1becbb1fc0220ec087446135dbad6d48bb6742d39ac6f60f6d4b31d51acf4", func := "gobo/gobolaw12.WordPlaces", spec := "wordPlaces", inPlace := ["internal/bytealg.IndexByteString"], unfollowed := true, recurses := true, named := ["unicode/utf8.first", "unicode/utf8.acceptRanges"], apart := false, laid := [("unicode/utf8.acceptRanges", laid_unicode_utf8_acceptRanges), ("unicode/utf8.first", laid_unicode_utf8_first)] }
def WordPlacesSaid : Prop := wordPlacesRow.holds Tryd.pinned (OpenSpec.ofChange wordPlacesSpec)

/-- ITS FALSE NEIGHBOUR: 'it returns false'. Refute it at one input. -/
def wordPlacesWrong : ChangeSpec := { name := "wordPlaces", fn := fun _ => fun
  | [d] => { results := [.lit (.bool false)], args := [d] }
  | _ => none }
def WordPlacesWrongFalsely : Prop := wordPlacesRow.holds Tryd.pinned (OpenSpec.ofChange wordPlacesWrong)

/-- 'gobolaw12.WordBlanks': WHATEVER THE INPUT: true; the input reads as it did. -/
def wordBlanksSpec : ChangeSpec := { name := "wordBlanks", fn := fun _ => fun
  | [d1, d2, d3] => { results := [.lit (.bool true)], args := [d1, d2, d3] }
  | _ => none }
def wordBlanksRow : OpenClaim := { program := "ytimbiogcllmalaadoor", sum := "07f1becbb1fc0220ec087446135dbad6d48bb6742d39ac6f60f6d4b31d51acf4", func := "gobo/gobolaw12.WordBlanks", spec := "wordBlanks", inPlace := ["internal/bytealg.IndexByteString"], unfollowed := true, recurses := true, named := ["unicode/utf8.first", "unicode/utf8.acceptRanges"], apart := false, laid := [("unicode/utf8.acceptRanges", laid_unicode_utf8_acceptRanges), ("unicode/utf8.first", laid_unicode_utf8_first)] }
def WordBlanksSaid : Prop := wordBlanksRow.holds Tryd.pinned (OpenSpec.ofChange wordBlanksSpec)

/-- ITS FALSE NEIGHBOUR: 'it returns false'. Refute it at one input. -/
def wordBlanksWrong : ChangeSpec := { name := "wordBlanks", fn := fun _ => fun
  | [d1, d2, d3] => { results := [.lit (.bool false)], args := [d1, d2, d3] }
  | _ => none }
def WordBlanksWrongFalsely : Prop := wordBlanksRow.holds Tryd.pinned (OpenSpec.ofChange wordBlanksWrong)

/-- 'gobolaw12.WordKinds': WHATEVER THE INPUT: true; the input reads as it did. -/
def wordKindsSpec : ChangeSpec := { name := "wordKinds", fn := fun _ => fun
  | [d] => { results := [.lit (.bool true)], args := [d] }
  | _ => none }
def wordKindsRow : OpenClaim := { program := "ytimbiogcllmalaadoor", sum := "07f1becbb1fc0220ec087446135dbad6d48bb6742d39ac6f60f6d4b31d51acf4", func := "gobo/gobolaw12.WordKinds", spec := "wordKinds", inPlace := ["internal/bytealg.IndexByteString"], unfollowed := true, recurses := true, named := ["unicode/utf8.first", "unicode/utf8.acceptRanges"], apart := false, laid := [("unicode/utf8.acceptRanges", laid_unicode_utf8_acceptRanges), ("unicode/utf8.first", laid_unicode_utf8_first)] }
def WordKindsSaid : Prop := wordKindsRow.holds Tryd.pinned (OpenSpec.ofChange wordKindsSpec)

/-- ITS FALSE NEIGHBOUR: 'it returns false'. Refute it at one input. -/
def wordKindsWrong : ChangeSpec := { name := "wordKinds", fn := fun _ => fun
  | [d] => { results := [.lit (.bool false)], args := [d] }
  | _ => none }
def WordKindsWrongFalsely : Prop := wordKindsRow.holds Tryd.pinned (OpenSpec.ofChange wordKindsWrong)

/-- 'gobolaw12.WordClasses': WHATEVER THE INPUT: true; the input reads as it did. -/
def wordClassesSpec : ChangeSpec := { name := "wordClasses", fn := fun _ => fun
  | [d1, d2, d3] => { results := [.lit (.bool true)], args := [d1, d2, d3] }
  | _ => none }
def wordClassesRow : OpenClaim := { program := "ytimbiogcllmalaadoor", sum := "07f1becbb1fc0220ec087446135dbad6d48bb6742d39ac6f60f6d4b31d51acf4", func := "gobo/gobolaw12.WordClasses", spec := "wordClasses", inPlace := ["internal/bytealg.IndexByteString"], unfollowed := true, recurses := true, named := ["unicode/utf8.first", "unicode/utf8.acceptRanges"], apart := false, laid := [("unicode/utf8.acceptRanges", laid_unicode_utf8_acceptRanges), ("unicode/utf8.first", laid_unicode_utf8_first)] }
def WordClassesSaid : Prop := wordClassesRow.holds Tryd.pinned (OpenSpec.ofChange wordClassesSpec)

/-- ITS FALSE NEIGHBOUR: 'it returns false'. Refute it at one input. -/
def wordClassesWrong : ChangeSpec := { name := "wordClasses", fn := fun _ => fun
  | [d1, d2, d3] => { results := [.lit (.bool false)], args := [d1, d2, d3] }
  | _ => none }
def WordClassesWrongFalsely : Prop := wordClassesRow.holds Tryd.pinned (OpenSpec.ofChange wordClassesWrong)

/- THE SECOND FORM. 'bulk': how many values and letters a reading holds, each counted each time it is reached (what is shared counts as often as it is met; a slice's spare places count too). A statement '..UptoSaid' is the law's where the arguments, and the package variables that the reading takes, are together of bulk at most 1048576: NARROWER than '..Said'. Prove '..Said' where nothing that the law and all that it calls make is longer than what came in: it says more and counts as full. Else prove '..UptoSaid'. A law counts once. -/
mutual
def uptoBulk {H : Type} : DataW H → Nat
  | .lit (.string bytes) => bytes.length + 1
  | .lit _ => 1
  | .nil => 1
  | .ptr d => uptoBulk d + 1
  | .slice elems spare => uptoBulkAll elems + uptoBulkAll spare + 1
  | .agg parts => uptoBulkAll parts + 1
  | .iface _ d => uptoBulk d + 1
  | .map entries => uptoBulkEntries entries + 1
  | .held _ => 1
def uptoBulkAll {H : Type} : List (DataW H) → Nat
  | [] => 0
  | d :: r => uptoBulk d + uptoBulkAll r
def uptoBulkEntries {H : Type} : List (Lit × DataW H) → Nat
  | [] => 0
  | x :: r => uptoBulkEntry x + uptoBulkEntries r
def uptoBulkEntry {H : Type} : Lit × DataW H → Nat
  | (.string bytes, d) => bytes.length + uptoBulk d + 1
  | (_, d) => uptoBulk d + 1
 end
def uptoSmall : (H : Type) → List (DataW H) → Bool := fun _ ds => decide (uptoBulkAll ds ≤ 1048576)
def OpenSpec.upto (s : _root_.Go.ChangeSpec) : _root_.Go.OpenSpec := { _root_.Go.OpenSpec.ofChange s with cond := some uptoSmall }

/-- 'gobolaw12.WordPlaces', WHERE WHAT IT READS IS OF BULK AT MOST 1048576: true; the input reads as it did. -/
def wordPlacesUptoRow : OpenClaim := { program := "ytimbiogcllmalaadoor", sum := "07f1becbb1fc0220ec087446135dbad6d48bb6742d39ac6f60f6d4b31d51acf4", func := "gobo/gobolaw12.WordPlaces", spec := "wordPlaces", inPlace := ["internal/bytealg.IndexByteString"], unfollowed := true, recurses := true, named := ["unicode/utf8.first", "unicode/utf8.acceptRanges"], apart := false, laid := [("unicode/utf8.acceptRanges", laid_unicode_utf8_acceptRanges), ("unicode/utf8.first", laid_unicode_utf8_first)], narrowed := true }
def WordPlacesUptoSaid : Prop := wordPlacesUptoRow.holds Tryd.pinned (OpenSpec.upto wordPlacesSpec)

/-- 'gobolaw12.WordBlanks', WHERE WHAT IT READS IS OF BULK AT MOST 1048576: true; the input reads as it did. -/
def wordBlanksUptoRow : OpenClaim := { program := "ytimbiogcllmalaadoor", sum := "07f1becbb1fc0220ec087446135dbad6d48bb6742d39ac6f60f6d4b31d51acf4", func := "gobo/gobolaw12.WordBlanks", spec := "wordBlanks", inPlace := ["internal/bytealg.IndexByteString"], unfollowed := true, recurses := true, named := ["unicode/utf8.first", "unicode/utf8.acceptRanges"], apart := false, laid := [("unicode/utf8.acceptRanges", laid_unicode_utf8_acceptRanges), ("unicode/utf8.first", laid_unicode_utf8_first)], narrowed := true }
def WordBlanksUptoSaid : Prop := wordBlanksUptoRow.holds Tryd.pinned (OpenSpec.upto wordBlanksSpec)

/-- 'gobolaw12.WordKinds', WHERE WHAT IT READS IS OF BULK AT MOST 1048576: true; the input reads as it did. -/
def wordKindsUptoRow : OpenClaim := { program := "ytimbiogcllmalaadoor", sum := "07f1becbb1fc0220ec087446135dbad6d48bb6742d39ac6f60f6d4b31d51acf4", func := "gobo/gobolaw12.WordKinds", spec := "wordKinds", inPlace := ["internal/bytealg.IndexByteString"], unfollowed := true, recurses := true, named := ["unicode/utf8.first", "unicode/utf8.acceptRanges"], apart := false, laid := [("unicode/utf8.acceptRanges", laid_unicode_utf8_acceptRanges), ("unicode/utf8.first", laid_unicode_utf8_first)], narrowed := true }
def WordKindsUptoSaid : Prop := wordKindsUptoRow.holds Tryd.pinned (OpenSpec.upto wordKindsSpec)

/-- 'gobolaw12.WordClasses', WHERE WHAT IT READS IS OF BULK AT MOST 1048576: true; the input reads as it did. -/
def wordClassesUptoRow : OpenClaim := { program := "ytimbiogcllmalaadoor", sum := "07f1becbb1fc0220ec087446135dbad6d48bb6742d39ac6f60f6d4b31d51acf4", func := "gobo/gobolaw12.WordClasses", spec := "wordClasses", inPlace := ["internal/bytealg.IndexByteString"], unfollowed := true, recurses := true, named := ["unicode/utf8.first", "unicode/utf8.acceptRanges"], apart := false, laid := [("unicode/utf8.acceptRanges", laid_unicode_utf8_acceptRanges), ("unicode/utf8.first", laid_unicode_utf8_first)], narrowed := true }
def WordClassesUptoSaid : Prop := wordClassesUptoRow.holds Tryd.pinned (OpenSpec.upto wordClassesSpec)

end Rows
end Go.Proofs.YtimbiogcllmalaaDoor
