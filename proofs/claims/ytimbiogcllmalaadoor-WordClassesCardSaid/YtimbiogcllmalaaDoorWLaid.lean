/- The seat's listed variables in a world; calls of the machine there. -/
import Derived.Test.YtimbiogcllmalaaDoorTie
import Derived.Test.YtimbiogcllmalaaDoorCards
import Derived.Test.YtimbiogcllmalaaDoorXWP
import Derived.ProofKit
import Derived.OpenShut
import Derived.ChangeMaps5
import Derived.LaidMore
import Derived.Lay
import Derived.SevenTiedAt
import Derived.Stop.Joined
namespace Go.Proofs.YtimbiogcllmalaaDoor
open Go Go.ChangeShapes Go.WideShapes Go.ChangeAt Go.RowKit Go.Ev

theorem own : ownKnob Tryd.prog.godebug = none := by kernel_rfl
def laidW : List (String × DataW Unit) := [("unicode/utf8.acceptRanges", Rows.laid_unicode_utf8_acceptRanges), ("unicode/utf8.first", Rows.laid_unicode_utf8_first)]
theorem gl_first : flatD Tryd.prog 9 119 Rows.laid_unicode_utf8_first = some glFirst := by kernel_rfl
theorem gl_accept : flatD Tryd.prog 9 122 Rows.laid_unicode_utf8_acceptRanges = some glAccept := by kernel_rfl

/-- The listed variables, in a world. -/
theorem gl_live {w : World} (h : laidMet Tryd.prog laidW w) : gl.length ≤ w.heap.size ∧ ∀ b c u, gl[b]? = some (.cells c u) → ∀ (i : Nat) (x : AV), c[i]? = some x → ∃ v, w.cell? ⟨b, i, none⟩ = some v ∧ VR (fun _ => none) x v := by
  have h1 := laid_cells (ι := fun _ => none) h (name := "unicode/utf8.first") (g := 1) (t := 119) (.tail _ (.head _)) (by kernel_rfl) (by kernel_rfl) gl_first
  have h2 := laid_cells (ι := fun _ => none) h (name := "unicode/utf8.acceptRanges") (g := 2) (t := 122) (.head _) (by kernel_rfl) (by kernel_rfl) gl_accept
  constructor
  · obtain ⟨v, hv, _⟩ := h2 0 (.int .u8 128) (by kernel_rfl)
    have : 2 < w.heap.size := by
      rcases Nat.lt_or_ge 2 w.heap.size with h | h
      · exact h
      · simp only [World.cell?, Array.getElem?_eq_none h] at hv; cases hv
    exact this
  · intro b c u hb i x hx
    match b, hb with
    | 0, hb => simp [gl] at hb
    | 1, hb => simp only [gl, List.getElem?_cons_succ, List.getElem?_cons_zero, Option.some.injEq, Blk.cells.injEq] at hb; obtain ⟨rfl, _⟩ := hb; exact h1 i x hx
    | 2, hb => simp only [gl, List.getElem?_cons_succ, List.getElem?_cons_zero, Option.some.injEq, Blk.cells.injEq] at hb; obtain ⟨rfl, _⟩ := hb; exact h2 i x hx
    | b + 3, hb => simp [gl] at hb

theorem ovT_ok (B : Nat) : CallOK Tryd.prog B ovT := by
  obtain ⟨H, h⟩ := retB_some told_run
  exact pureCall_ok (callOK 1000 B) gl_ok gl_len rfl rfl h

/-- A law that the machine brings to true is true. -/
theorem law_true {f : FuncId} {args : List AV} {w : World} (hL : laidMet Tryd.prog laidW w) {vs : Array Value} (hf : AV.flats args = true) (hvs : VRs (fun _ => none) args vs.toList) (h : wpf ⟨bt.get, ovT⟩ f args (glHeap gl) fun e _ => e = .ret (.bool true)) :
    Calls Tryd.prog f vs w fun e w' => e = .returned (.bool true) ∧ Below w.heap.size w w' := by
  obtain ⟨g1, g2⟩ := gl_live hL
  obtain ⟨N, H1, hrun⟩ := wpf_run h
  exact law_calls (evT_ok (M := ⟨bt.get, ovT⟩) table (drawn_all _) (ovT_ok w.heap.size) N) gl_ok gl_len g1 g2 hf hvs hrun

theorem vr_str (s : ByteArray) : VR (fun _ => none) (.str s.data.toList) (.string s) := by
  simp only [VR, Array.toArray_toList]
end Go.Proofs.YtimbiogcllmalaaDoor
