/- What an operation asks for: its operands; and whether it reads or turns memory. -/
import Derived.Test.YtimbiogcllmalaaDoorEvP
namespace Go.Ev
open Go Go.RowKit

def COp.opds : COp → List Opd
  | .mov x => [x]
  | .pick c a b => [c, a, b]
  | .alloc _ => []
  | .box x => [x]
  | .build _ ps => ps.map (·.2.2)
  | .lit _ _ ps => ps.map (·.2.2)
  | .load1 x => [x]
  | .loadN _ x => [x]
  | .store _ a x => [a, x]
  | .nilCheck x => [x]
  | .bin _ x y => [x, y]
  | .eqv _ _ x y => [x, y]
  | .un _ x => [x]
  | .convI _ x => [x]
  | .strStr x => [x]
  | .intStr x => [x]
  | .strBytes x => [x]
  | .bytesStr x => [x]
  | .mkIface _ x => [x]
  | .mkFn _ l => l
  | .mkSlice _ _ l c => [l, c]
  | .sliceStr x lo hi => x :: (lo.toList ++ hi.toList)
  | .sliceSl _ x lo hi mx => x :: (lo.toList ++ hi.toList ++ mx.toList)
  | .sliceArr _ _ x lo hi mx => x :: (lo.toList ++ hi.toList ++ mx.toList)
  | .fieldAddr _ x => [x]
  | .field1 _ x => [x]
  | .fieldN _ _ x => [x]
  | .idxAddr _ x i => [x, i]
  | .idxArr _ _ x i => [x, i]
  | .idxStr x i => [x, i]
  | .idxAgg _ x i => [x, i]
  | .extract x _ => [x]
  | .lenStr x => [x]
  | .lenSl x => [x]
  | .capSl x => [x]
  | .append _ _ x y => [x, y]
  | .appendStr x y => [x, y]
  | .appendZ _ _ x n => [x, n]
  | .minmax _ xs => xs
  | .assert _ _ x => [x]
  | .rangeStr x => [x]
  | .nextStr x => [x]
  | .idxByte x y => [x, y]
  | .call _ l => l
  | .callP _ _ l => l
  | .callV f l => f :: l
  | .dfr f l => f :: l
  | .panic x => [x]
  | .recover => []

section
variable {ρ ρ' : Opd → Option AV} {H : Heap}

theorem fillA_congr : ∀ (ps : List (Nat × Nat × Opd)) (c : List AV), (∀ x ∈ ps.map (·.2.2), ρ x = ρ' x) → fillA ρ c ps = fillA ρ' c ps
  | [], _, _ => rfl
  | (off, sz, x) :: ps, c, h => by
    simp only [fillA, h x (by simp)]
    cases ρ' x with
    | none => rfl
    | some v =>
      simp only
      split
      · exact fillA_congr ps _ fun y hy => h y (by simp only [List.map_cons, List.mem_cons]; exact .inr hy)
      · rfl

theorem minmaxA_congr (mx : Bool) : ∀ (xs : List Opd) (v : AV), (∀ x ∈ xs, ρ x = ρ' x) → minmaxA mx ρ v xs = minmaxA mx ρ' v xs
  | [], v, _ => by cases v <;> rfl
  | x :: xs, v, h => by
    cases v <;> simp only [minmaxA]
    rw [h x (by simp)]
    cases ρ' x with
    | none => rfl
    | some u =>
      cases u <;> simp only
      exact minmaxA_congr mx xs _ fun y hy => h y (List.mem_cons_of_mem _ hy)

theorem mapM_congr : ∀ (xs : List Opd), (∀ x ∈ xs, ρ x = ρ' x) → xs.mapM ρ = xs.mapM ρ'
  | [], _ => rfl
  | x :: xs, h => by
    simp only [List.mapM_cons]
    rw [h x (by simp), mapM_congr xs fun y hy => h y (List.mem_cons_of_mem _ hy)]

theorem bnd_congr {y d : Nat} {x : Option Opd} (h : ∀ z ∈ x.toList, ρ z = ρ' z) : bnd ρ y x d = bnd ρ' y x d := by
  cases x with
  | none => rfl
  | some x => simp only [bnd, h x (by simp)]

theorem evOp_congr {c : COp} (h : ∀ x ∈ c.opds, ρ x = ρ' x) : evOp ρ H c = evOp ρ' H c := by
  cases c
  case build z ps => simp only [evOp, fillA_congr ps z h]
  case lit z n ps => simp only [evOp, fillA_congr ps z h]
  case mkFn f l => simp only [evOp, mapM_congr l h]
  case minmax mx xs =>
    cases xs with
    | nil => rfl
    | cons x xs =>
      simp only [evOp]
      rw [h x (by simp [COp.opds])]
      cases ρ' x with
      | none => rfl
      | some v => simp only; rw [minmaxA_congr mx xs v fun y hy => h y (by simp [COp.opds, hy])]
  case sliceStr x lo hi =>
    have h1 : ∀ y d, bnd ρ y lo d = bnd ρ' y lo d := fun y d => bnd_congr fun z hz => h z (by simp only [COp.opds, List.mem_cons, List.mem_append]; exact .inr (.inl hz))
    have h2 : ∀ y d, bnd ρ y hi d = bnd ρ' y hi d := fun y d => bnd_congr fun z hz => h z (by simp only [COp.opds, List.mem_cons, List.mem_append]; exact .inr (.inr hz))
    simp only [evOp, h x (by simp [COp.opds]), h1, h2]
  case sliceSl sz x lo hi mx =>
    have h1 : ∀ y d, bnd ρ y lo d = bnd ρ' y lo d := fun y d => bnd_congr fun z hz => h z (by simp only [COp.opds, List.mem_cons, List.mem_append]; exact .inr (.inl (.inl hz)))
    have h2 : ∀ y d, bnd ρ y hi d = bnd ρ' y hi d := fun y d => bnd_congr fun z hz => h z (by simp only [COp.opds, List.mem_cons, List.mem_append]; exact .inr (.inl (.inr hz)))
    have h3 : ∀ y d, bnd ρ y mx d = bnd ρ' y mx d := fun y d => bnd_congr fun z hz => h z (by simp only [COp.opds, List.mem_cons, List.mem_append]; exact .inr (.inr hz))
    simp only [evOp, h x (by simp [COp.opds]), h1, h2, h3]
  case sliceArr n sz x lo hi mx =>
    have h1 : ∀ y d, bnd ρ y lo d = bnd ρ' y lo d := fun y d => bnd_congr fun z hz => h z (by simp only [COp.opds, List.mem_cons, List.mem_append]; exact .inr (.inl (.inl hz)))
    have h2 : ∀ y d, bnd ρ y hi d = bnd ρ' y hi d := fun y d => bnd_congr fun z hz => h z (by simp only [COp.opds, List.mem_cons, List.mem_append]; exact .inr (.inl (.inr hz)))
    have h3 : ∀ y d, bnd ρ y mx d = bnd ρ' y mx d := fun y d => bnd_congr fun z hz => h z (by simp only [COp.opds, List.mem_cons, List.mem_append]; exact .inr (.inr hz))
    simp only [evOp, h x (by simp [COp.opds]), h1, h2, h3]
  case pick c a b => simp only [evOp, h c (by simp [COp.opds]), h a (by simp [COp.opds]), h b (by simp [COp.opds])]
  case call => rfl
  case callP => rfl
  case callV => rfl
  case dfr => rfl
  case panic => rfl
  case recover => rfl
  case alloc => rfl
  all_goals (simp only [COp.opds, List.forall_mem_cons, List.not_mem_nil, false_implies, implies_true, and_true] at h; first | (simp only [evOp, h]; done) | (simp only [evOp, h.1, h.2]; done))
end
end Go.Ev
