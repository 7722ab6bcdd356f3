/- The law at each byte: the machine's run. -/
import Derived.Test.YtimbiogcllmalaaDoorWK0
namespace Go.Ev
open Go Go.Proofs
theorem kinds4 : (List.range' 64 16).all kindsAt = true := by kernel_rfl
theorem kinds5 : (List.range' 80 16).all kindsAt = true := by kernel_rfl
theorem kinds6 : (List.range' 96 16).all kindsAt = true := by kernel_rfl
theorem kinds7 : (List.range' 112 16).all kindsAt = true := by kernel_rfl
end Go.Ev
