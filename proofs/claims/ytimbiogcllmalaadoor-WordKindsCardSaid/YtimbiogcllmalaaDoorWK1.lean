/- The law at each byte: the machine's run. -/
import Derived.Test.YtimbiogcllmalaaDoorWK0
namespace Go.Ev
open Go Go.Proofs
theorem kinds0 : (List.range' 0 16).all kindsAt = true := by kernel_rfl
theorem kinds1 : (List.range' 16 16).all kindsAt = true := by kernel_rfl
theorem kinds2 : (List.range' 32 16).all kindsAt = true := by kernel_rfl
theorem kinds3 : (List.range' 48 16).all kindsAt = true := by kernel_rfl
end Go.Ev
