/- The law at each byte: the machine's run. -/
import Derived.Test.YtimbiogcllmalaaDoorWK0
namespace Go.Ev
open Go Go.Proofs
theorem kinds8 : (List.range' 128 16).all kindsAt = true := by kernel_rfl
theorem kinds9 : (List.range' 144 16).all kindsAt = true := by kernel_rfl
theorem kinds10 : (List.range' 160 16).all kindsAt = true := by kernel_rfl
theorem kinds11 : (List.range' 176 16).all kindsAt = true := by kernel_rfl
end Go.Ev
