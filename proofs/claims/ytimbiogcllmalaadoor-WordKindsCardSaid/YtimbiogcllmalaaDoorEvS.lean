/- Regions that draw their order: memory at partial states. -/
import Derived.Test.YtimbiogcllmalaaDoorEvR
namespace Go.Ev
open Go Go.RowKit

set_option maxHeartbeats 1000000 in
theorem evOp_map {ρ : Opd → Option AV} (H H0 : Heap) {c : COp} (hk : kindC c = 0) : evOp ρ H c = (evOp ρ H0 c).map fun r => (r.1, H) := by
  cases c <;> first | (simp [kindC] at hk; done) | skip
  all_goals simp only [evOp, Option.map_map, Function.comp_def]
  all_goals (repeat' split) <;> first | rfl | (simp only [Option.map_map, Function.comp_def, Option.map_some, Option.map_none]; done) | (simp [Option.map_map, Function.comp_def]; done)

theorem evOp_pure {ρ : Opd → Option AV} {H H2 H' : Heap} {c : COp} {v : AV} (hk : kindC c = 0) (h : evOp ρ H c = some (v, H')) : evOp ρ H2 c = some (v, H2) := by
  rw [evOp_map H2 H hk, h]; rfl

theorem evOp_quiet {ρ : Opd → Option AV} {H H' : Heap} {c : COp} {v : AV} (hk : kindC c = 0 ∨ kindC c = 1) (h : evOp ρ H c = some (v, H')) : H' = H := by
  rcases hk with hk | hk
  · have := evOp_pure (H2 := H) hk h
    rw [h] at this
    injection this with this
    injection this
  · cases c <;> first | (simp [kindC] at hk; done) | skip
    · simp only [evOp] at h
      split at h
      · split at h
        · split at h
          · simp only [Option.some.injEq, Prod.mk.injEq] at h; exact h.2.symm
          · cases h
        · cases h
      · cases h
    · simp only [evOp] at h
      split at h
      · split at h
        · split at h
          · simp only [Option.some.injEq, Prod.mk.injEq] at h; exact h.2.symm
          · cases h
        · cases h
      · cases h
    · simp only [evOp] at h
      split at h
      · split at h
        · simp only [Option.map_eq_some_iff, Prod.mk.injEq] at h
          obtain ⟨_, _, _, h⟩ := h; exact h.symm
        · cases h
      · cases h
end Go.Ev
