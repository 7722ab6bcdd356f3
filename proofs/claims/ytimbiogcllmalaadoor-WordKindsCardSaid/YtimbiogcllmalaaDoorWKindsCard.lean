/- Proved: gobolaw12.WordKinds returns true whatever its byte is, and the byte reads as it did before. Conditions: those of the given row (the two tables of unicode/utf8 read as they are laid) and none more. -/
import Derived.Test.YtimbiogcllmalaaDoorTie
import Derived.Test.YtimbiogcllmalaaDoorCards
import Derived.Test.YtimbiogcllmalaaDoorWK1
import Derived.Test.YtimbiogcllmalaaDoorWK2
import Derived.Test.YtimbiogcllmalaaDoorWK3
import Derived.Test.YtimbiogcllmalaaDoorWK4
import Derived.ProofKit
import Derived.OpenShut
import Derived.LaidMore
import Derived.Lay
import Derived.SevenTiedAt
import Derived.Stop.Joined
namespace Go.Proofs.YtimbiogcllmalaaDoor
open Go Go.ChangeShapes Go.WideShapes Go.ChangeAt Go.RowKit Go.Ev

theorem own : ownKnob Tryd.prog.godebug = none := by kernel_rfl
def laidW : List (String × DataW Unit) := [("unicode/utf8.acceptRanges", Rows.laid_unicode_utf8_acceptRanges), ("unicode/utf8.first", Rows.laid_unicode_utf8_first)]

theorem kinds_all (c : Nat) (h : c < 256) : kindsAt c = true := by
  have get : ∀ {s n : Nat}, (List.range' s n).all kindsAt = true → s ≤ c → c < s + n → kindsAt c = true := fun {s n} ha h1 h2 => List.all_eq_true.1 ha c (List.mem_range'_1.2 ⟨h1, h2⟩)
  by_cases h0 : c < 16; · exact get kinds0 (by omega) (by omega)
  by_cases h1 : c < 32; · exact get kinds1 (by omega) (by omega)
  by_cases h2 : c < 48; · exact get kinds2 (by omega) (by omega)
  by_cases h3 : c < 64; · exact get kinds3 (by omega) (by omega)
  by_cases h4 : c < 80; · exact get kinds4 (by omega) (by omega)
  by_cases h5 : c < 96; · exact get kinds5 (by omega) (by omega)
  by_cases h6 : c < 112; · exact get kinds6 (by omega) (by omega)
  by_cases h7 : c < 128; · exact get kinds7 (by omega) (by omega)
  by_cases h8 : c < 144; · exact get kinds8 (by omega) (by omega)
  by_cases h9 : c < 160; · exact get kinds9 (by omega) (by omega)
  by_cases h10 : c < 176; · exact get kinds10 (by omega) (by omega)
  by_cases h11 : c < 192; · exact get kinds11 (by omega) (by omega)
  by_cases h12 : c < 208; · exact get kinds12 (by omega) (by omega)
  by_cases h13 : c < 224; · exact get kinds13 (by omega) (by omega)
  by_cases h14 : c < 240; · exact get kinds14 (by omega) (by omega)
  exact get kinds15 (by omega) (by omega)

theorem gl_first : flatD Tryd.prog 9 119 Rows.laid_unicode_utf8_first = some glFirst := by kernel_rfl
theorem gl_accept : flatD Tryd.prog 9 122 Rows.laid_unicode_utf8_acceptRanges = some glAccept := by kernel_rfl

/-- The listed variables, in a world. -/
theorem gl_live {w : World} (h : laidMet Tryd.prog laidW w) : gl.length ≤ w.heap.size ∧ ∀ b c u, gl[b]? = some (.cells c u) → ∀ (i : Nat) (x : AV), c[i]? = some x → ∃ v, w.cell? ⟨b, i, none⟩ = some v ∧ VR (fun _ => none) x v := by
  have h1 := laid_cells (ι := fun _ => none) h (name := "unicode/utf8.first") (g := 1) (t := 119) (.tail _ (.head _)) (by kernel_rfl) (by kernel_rfl) gl_first
  have h2 := laid_cells (ι := fun _ => none) h (name := "unicode/utf8.acceptRanges") (g := 2) (t := 122) (.head _) (by kernel_rfl) (by kernel_rfl) gl_accept
  constructor
  · obtain ⟨v, hv, _⟩ := h2 0 (.int .u8 128) (by kernel_rfl)
    have : 2 < w.heap.size := by
      rcases Nat.lt_or_ge 2 w.heap.size with h | h
      · exact h
      · simp only [World.cell?, Array.getElem?_eq_none h] at hv; cases hv
    exact this
  · intro b c u hb i x hx
    match b, hb with
    | 0, hb => simp [gl] at hb
    | 1, hb => simp only [gl, List.getElem?_cons_succ, List.getElem?_cons_zero, Option.some.injEq, Blk.cells.injEq] at hb; obtain ⟨rfl, _⟩ := hb; exact h1 i x hx
    | 2, hb => simp only [gl, List.getElem?_cons_succ, List.getElem?_cons_zero, Option.some.injEq, Blk.cells.injEq] at hb; obtain ⟨rfl, _⟩ := hb; exact h2 i x hx
    | b + 3, hb => simp [gl] at hb

set_option maxRecDepth 100000 in
theorem kinds_lifted (os : Os) (started : os.Started) (H : Type) (enc : TypeId × Value → H) :
    ReturnsInHanded {} Tryd.checked os 5 .any (fun w args => (Rows.wordKindsSpec.pre enc Tryd.prog Tryd.f5 [] false w args ∧ laidMetH Tryd.prog laidW w) ∧ sizedMet enc Tryd.prog Tryd.f5 (OpenSpec.ofChange Rows.wordKindsSpec) false w args)
      (Rows.wordKindsSpec.post enc Tryd.prog Tryd.f5 false true false false) := by
  refine returnsInHanded_of_change_and (C := Tryd.checked) (X := fun w _ => laidMetH Tryd.prog laidW w) (fun _ _ _ hh h => h.of_heap hh) own started (by kernel_rfl) Tryd.func5
    (ChangeSpec.witness_shaped (enc := enc) (C := Tryd.checked) (os := os) (X := fun w _ => laidMetH Tryd.prog laidW w) false (World.laidAll Tryd.prog os laidW) #[.int .u8 0] 8 (World.laidAll_os _ _ _)
      (World.shaped_of_ZipB (by kernel_rfl) (by kernel_rfl)) (by kernel_rfl) (by kernel_rfl) (by kernel_rfl)
      (by rw [MakeChecks.laidMetH_plain _ _ _ (by kernel_rfl)]; exact laidMet_laidAll _ (by kernel_rfl) (by kernel_rfl))) ?_
  intro W base args ds gs before hval0 hW _ _ hL _
  have hval : ∀ (j : Nat) t v, Tryd.f5.params[j]? = some t → args[j]? = some v → Value.okWide Tryd.prog W .any base t v := hval0
  have hW' := hW
  obtain ⟨p, q, hA0, hV, rfl, _, _⟩ := hW
  have hA : DataW.TrodAll enc Tryd.prog W 0 (fun _ => true) true Tryd.f5.params.toList args.toList ds p := hA0
  rw [Tryd.params5] at hA hval
  obtain ⟨v0, d0, rfl, rfl, h0⟩ := trodAll_one hA
  obtain ⟨rfl, rfl⟩ := trodVars_none hV
  obtain ⟨x, rfl, rfl, rfl, wx⟩ := open_int Tryd.underlying5 (hval 0 5 v0 rfl rfl) h0
  simp only [List.append_nil] at hW'
  have hx : 0 ≤ x ∧ x ≤ 255 := by simpa [Lit.wf, IntKind.min, IntKind.max, IntKind.signed, IntKind.bits] using wx
  rw [MakeChecks.laidMetH_plain _ _ _ (by kernel_rfl)] at hL
  obtain ⟨n, rfl⟩ : ∃ n : Nat, x = n := ⟨x.toNat, by omega⟩
  obtain ⟨g1, g2⟩ := gl_live hL
  obtain ⟨H1, hrun⟩ := retB_some (kinds_all n (by omega))
  refine (law_calls (step_sound table (drawn_all _) (callT_ok W.heap.size) 1000) gl_ok gl_len g1 g2 (args := [.int .u8 n]) (vs := #[.int .u8 n]) rfl ⟨_, _, rfl, rfl, rfl⟩ hrun).mono fun e W' ⟨he, hb⟩ => ?_
  subst he
  exact ⟨_, rfl, _, _, _, [], [], [], hW', trodAll_mk1 (shut_bool Tryd.underlying4 _), trodAll_mk1 (shut_int Tryd.underlying5 wx), rfl, hb.frame _, fun h => by cases h⟩

theorem kinds_holds : Rows.WordKindsSaid :=
  OpenClaim.holds_of_wide 5 Tryd.f5 rfl rfl rfl rfl rfl rfl rfl ⟨rfl, rfl, rfl, rfl, rfl⟩ rfl rfl rfl rfl rfl (by kernel_rfl) Tryd.func5 (by kernel_rfl)
    (of_decide_eq_true (by kernel_rfl)) (by unfold Func.isWrapper; first | (rw [if_pos (by decide +kernel)]; kernel_rfl) | (rw [if_neg (by decide +kernel)]; exact ⟨rfl, rfl⟩))
    (fun os started H enc _ => kinds_lifted os started H enc)

theorem kinds_card : Rows.WordKindsCardSaid :=
  Claim7.holds_tied_plain_at .later [] [.data, .pinned] true (true, "376b556aa5d640fed5cd2dd58913a763222581bcaa09c75326335825578f02f7") true kinds_holds (fun _ h => by cases h) (by kernel_rfl) (fun _ h => by cases h) wordKinds_row_tie rfl ⟨rfl, rfl⟩ (by kernel_rfl) rfl
    (fun f fn hf hfn => by
      obtain rfl : f = 5 := Option.some.inj ((show Tryd.prog.funcNamed "gobo/gobolaw12.WordKinds" = some 5 by kernel_rfl).symm.trans hf) |>.symm
      obtain rfl : fn = Tryd.f5 := (Option.some.inj (Tryd.func5.symm.trans hfn)).symm
      exact ⟨by kernel_rfl, fun j t ht => by
        rw [Tryd.params5] at ht
        have hm : t ∈ [5] := by simpa using Array.mem_of_getElem? ht
        have hall : ([5].all fun u => !Tryd.prog.wantsStandIn u) = true := by kernel_rfl
        exact (show Tryd.prog.wantsStandIn t = false by simpa using List.all_eq_true.1 hall t hm)⟩)
    (by kernel_rfl)
#print axioms kinds_card
end Go.Proofs.YtimbiogcllmalaaDoor
