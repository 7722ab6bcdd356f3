/- The law at one byte. -/
import Derived.Test.YtimbiogcllmalaaDoorWGl
namespace Go.Ev
open Go Go.Proofs
def kindsAt (c : Nat) : Bool := retB (evStep bt.get callT 1000 F_gobolaw12_WordKinds [.int .u8 c] (glHeap gl))
end Go.Ev
