/- The law at each byte: the machine's run. -/
import Derived.Test.YtimbiogcllmalaaDoorWK0
namespace Go.Ev
open Go Go.Proofs
theorem kinds12 : (List.range' 192 16).all kindsAt = true := by kernel_rfl
theorem kinds13 : (List.range' 208 16).all kindsAt = true := by kernel_rfl
theorem kinds14 : (List.range' 224 16).all kindsAt = true := by kernel_rfl
theorem kinds15 : (List.range' 240 16).all kindsAt = true := by kernel_rfl
end Go.Ev
