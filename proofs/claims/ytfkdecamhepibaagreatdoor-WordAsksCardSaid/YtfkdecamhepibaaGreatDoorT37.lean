/- Several texts of this claim, joined. -/
import Derived.Test.YtfkdecamhepibaaGreatDoorT31
import Derived.Test.YtfkdecamhepibaaGreatDoorT36
import Derived.Test.YtfkdecamhepibaaGreatDoorT34
import Derived.Test.YtfkdecamhepibaaGreatDoorTie
import Derived.Test.YtfkdecamhepibaaGreatDoorCards
import Derived.ProofKit
import Derived.OpenShut
import Derived.ChangeMaps5
import Derived.LaidMore
import Derived.Lay
import Derived.SevenTiedAt
import Derived.Stop.Joined
set_option linter.unusedSimpArgs false
set_option linter.unusedVariables false

/- WordAsks: what the law's function comes to. -/
namespace Go.Ev
open Go Go.Proofs
open Go.Ev renaming seqK_normal → zA, blockK_normal → zB, blockK_exit → zC
open Nat renaming reduceEqDiff → zD, reduceAdd → zE, reduceSub → zF, reduceMul → zG, reduceLeDiff → zH, reduceLT → zI
open Int renaming reduceToNat → zJ, reduceLT → zK, reduceLE → zL, reduceEq → zM, reduceAdd → zN, reduceSub → zO, reduceMul → zP
set_option maxRecDepth 8000
theorem wcells_fld : ∀ {l : List W} {i : Nat} {x : W}, l[i]? = some x → (wcells l)[i * 3]? = some (.int .i64 x.kind) ∧ (wcells l)[i * 3 + 1]? = some (.str x.text) ∧ (wcells l)[i * 3 + 2]? = some (.int .i64 x.at_)
  | y :: l, 0, x, h => by
    simp only [List.getElem?_cons_zero, Option.some.injEq] at h; subst h
    exact ⟨rfl, rfl, rfl⟩
  | y :: l, i + 1, x, h => by
    have h' := wcells_fld (l := l) (i := i) (x := x) (by simpa using h)
    have e : ∀ k, (wcells (y :: l))[3 + k]? = (wcells l)[k]? := fun k => by
      rw [wcells, List.flatMap_cons, ← wcells, List.getElem?_append_right (by rw [W.cells]; simp only [List.length_cons, List.length_nil]; omega)]
      congr 1
      rw [W.cells]; simp only [List.length_cons, List.length_nil]; omega
    rw [show (i + 1) * 3 = 3 + i * 3 by omega, show 3 + i * 3 + 1 = 3 + (i * 3 + 1) by omega, show 3 + i * 3 + 2 = 3 + (i * 3 + 2) by omega, e, e, e]
    exact h'
theorem dec_len (s : List UInt8) : (decAll s).length ≤ s.length := by
  have H : ∀ (n : Nat) (r : List UInt8) (a : Nat), r.length ≤ n → (daG [] r a).length ≤ r.length := by
    intro n
    induction n with
    | zero =>
      intro r a h
      have : r = [] := List.length_eq_zero_iff.1 (by omega)
      subst this
      simp [daG, feedD, closeD]
    | succ n ih =>
      intro r a h
      cases r with
      | nil => simp [daG, feedD, closeD]
      | cons c r =>
        have := oneG_to (c := c) (r := r) (at_ := a)
        rw [da_one]
        have h2 := ih ((c :: r).drop ((oneG (c :: r) a).to - a)) (oneG (c :: r) a).to (by simp only [List.length_drop, List.length_cons] at *; omega)
        simp only [List.length_drop, List.length_cons] at *
        omega
  rw [daG_all]
  exact H s.length s 0 (Nat.le_refl _)
section
variable {o : CallF} (ho : OvOnly o)
include ho
omit ho in
theorem ws_loop {l : List W} {va vb : AV} {ba bb : Nat} (hl : l.length ≤ 1000000) {H : Heap} (hA : Rd H 3 (wcells l) l.length va ba) (hB : Rd H 3 (wcells l) l.length vb bb) {Q : Ctl → St → Prop} (hT : ∀ σ : St, σ.H = H → σ.d = [] → Q (.exit 0) σ) : ∀ (r : List W) (i : Nat), l.drop i = r → i ≤ l.length →
    wpl ⟨bt.get, o⟩ [0, 1, 5] lb_gobolaw12_words_0 { p := [(0, va), (1, vb), (5, .int .i64 i)], t := [], H := H, d := [], u := .norm } Q
  | [], i, h1, hi => by
    have : l.length ≤ i := List.drop_eq_nil_iff.1 h1
    rw [wpl_step]
    have c1 : ¬((i : Int) < (l.length : Int)) := by omega
    simp only [lb_gobolaw12_words_0, go_sem, zA, zB, zC, reduceIte, zD, zE, zF, zG, zH, zI, reduceCtorEq, zJ, zK, zL, zM, zN, zO, zP, hA.len, c1]
    exact hT _ rfl rfl
  | x :: r, i, h1, hi => by
    obtain ⟨a0, a1, a2⟩ := list_at h1
    obtain ⟨⟨u, ga⟩, ela, _⟩ := hA.pos (by omega)
    obtain ⟨⟨u', gb⟩, elb, _⟩ := hB.pos (by omega)
    have ea := ela i a1
    have eb := elb i a1
    obtain ⟨p1, p2, p3⟩ := wcells_fld a0
    rw [wpl_step]
    have c1 : ((i : Int) < (l.length : Int)) := by omega
    have iw := wsucc (show i ≤ 1000000000 by omega)
    simp only [lb_gobolaw12_words_0, go_sem, zA, zB, zC, reduceIte, zD, zE, zF, zG, zH, zI, reduceCtorEq, zJ, zK, zL, zM, zN, zO, zP, hA.len, c1, ea, eb, ga, gb, p1, p2, p3, eqCells, eqCell, iw, Nat.add_zero]
    exact ws_loop hl hA hB hT r (i + 1) a2 (by omega)
theorem l_words {l : List W} {va vb : AV} {ba bb : Nat} (hl : l.length ≤ 1000000) {H : Heap} (hA : Rd H 3 (wcells l) l.length va ba) (hB : Rd H 3 (wcells l) l.length vb bb) {Q : End → Heap → Prop} (h : Q (.ret (.bool true)) H) : wpf ⟨bt.get, o⟩ F_gobolaw12_words [va, vb] H Q := by
  rw [fn_gobolaw12_words (ho _ _ _ (by decide))]
  simp only [bd_gobolaw12_words, go_sem, zA, zB, zC, reduceIte, zD, zE, zF, zG, zH, zI, reduceCtorEq, zJ, zK, zL, zM, zN, zO, zP, hA.len, hB.len]
  refine ws_loop hl hA hB (fun σ k1 k2 => ?_) l 0 rfl (Nat.zero_le _)
  simp only [go_sem, zA, zB, zC, reduceIte, zD, zE, zF, zG, zH, zI, reduceCtorEq, zJ, zK, zL, zM, zN, zO, zP, k1, k2, lk_up]
  exact h
end
set_option maxHeartbeats 4000000 in
/-- WordAsks: it comes to true. -/
theorem wa_law {H : Heap} (hG : GlH H) (s c : List UInt8) : wpf ⟨bt.get, ovT⟩ F_gobolaw12_WordAsks [.str s, .str c] H (fun e _ => e = .ret (.bool true)) := by
  rw [fn_gobolaw12_WordAsks (ovT_only _ _ _ (by decide))]
  by_cases h1 : 400 < s.length
  · have h1' : (400 : Int) < (s.length : Int) := by omega
    simp only [bd_gobolaw12_WordAsks, go_sem, zA, zB, zC, reduceIte, zD, zE, zF, zG, zH, zI, reduceCtorEq, zJ, zK, zL, zM, zN, zO, zP, h1']
    refine t_told hG ?_
    simp only [go_sem, zA, zB, zC, reduceIte, zD, zE, zF, zG, zH, zI, reduceCtorEq, zJ, zK, zL, zM, zN, zO, zP]
  · have h1' : ¬ (400 : Int) < (s.length : Int) := by omega
    by_cases h2 : 200 < c.length
    · have h2' : (200 : Int) < (c.length : Int) := by omega
      simp only [bd_gobolaw12_WordAsks, go_sem, zA, zB, zC, reduceIte, zD, zE, zF, zG, zH, zI, reduceCtorEq, zJ, zK, zL, zM, zN, zO, zP, h1', h2']
      refine t_told hG ?_
      simp only [go_sem, zA, zB, zC, reduceIte, zD, zE, zF, zG, zH, zI, reduceCtorEq, zJ, zK, zL, zM, zN, zO, zP]
    · have h2' : ¬ (200 : Int) < (c.length : Int) := by omega
      have hc := dec_len c
      simp only [bd_gobolaw12_WordAsks, go_sem, zA, zB, zC, reduceIte, zD, zE, zF, zG, zH, zI, reduceCtorEq, zJ, zK, zL, zM, zN, zO, zP, h1', h2']
      refine w_All ovT_only (by omega) hG (fun l hl H1 v1 x1 s1 => ?_) (fun k hk H1 x1 => ?_)
      · have G1 := hG.ext hG.1 x1
        simp only [go_sem, zA, zB, zC, reduceIte, zD, zE, zF, zG, zH, zI, reduceCtorEq, zJ, zK, zL, zM, zN, zO, zP]
        refine g_Words ovT_only (by omega) (fun l2 hl2 H2 v2 x2 s2 hl4 => ?_) (fun k hk => by rw [hl] at hk; cases hk)
        rw [hl] at hl2; injection hl2 with hl2; subst hl2
        have G2 := G1.ext G1.1 x2
        obtain ⟨b1, r1, _⟩ := s1.rd
        obtain ⟨b2, r2, _⟩ := s2.rd
        have r1' := r1.ext x2
        obtain ⟨o1, o2⟩ := s1.one
        obtain ⟨o3, o4⟩ := s2.one
        simp only [go_sem, zA, zB, zC, reduceIte, zD, zE, zF, zG, zH, zI, reduceCtorEq, zJ, zK, zL, zM, zN, zO, zP]
        refine w_Class ovT_only (by omega) (by omega) G2 (fun m hm H3 v3 x3 s3 hm5 => ?_) (fun k hk H3 x3 => ?_)
        · simp only [go_sem, zA, zB, zC, reduceIte, zD, zE, zF, zG, zH, zI, reduceCtorEq, zJ, zK, zL, zM, zN, zO, zP]
          refine g_Class ovT_only (by omega) (fun m2 hm2 H4 v4 x4 s4 => ?_) (fun k hk => by rw [hm] at hk; cases hk)
          rw [hm] at hm2; injection hm2 with hm2; subst hm2
          obtain ⟨b3, r3, _⟩ := s3.rd
          obtain ⟨b4, r4, _⟩ := s4.rd
          simp only [go_sem, zA, zB, zC, reduceIte, zD, zE, zF, zG, zH, zI, reduceCtorEq, zJ, zK, zL, zM, zN, zO, zP]
          refine t_told ((G2.ext G2.1 x3).ext (G2.ext G2.1 x3).1 x4) ?_
          simp only [go_sem, zA, zB, zC, reduceIte, zD, zE, zF, zG, zH, zI, reduceCtorEq, zJ, zK, zL, zM, zN, zO, zP]
          refine l_words ovT_only (by omega) ((r1'.ext x3).ext x4) ((r2.ext x3).ext x4) ?_
          simp only [go_sem, zA, zB, zC, reduceIte, zD, zE, zF, zG, zH, zI, reduceCtorEq, zJ, zK, zL, zM, zN, zO, zP]
          refine g3_Same ovT_only (by omega) (by omega) (r3.ext x4) r4 ?_
          simp only [go_sem, zA, zB, zC, reduceIte, zD, zE, zF, zG, zH, zI, reduceCtorEq, zJ, zK, zL, zM, zN, zO, zP]
        · simp only [go_sem, zA, zB, zC, reduceIte, zD, zE, zF, zG, zH, zI, reduceCtorEq, zJ, zK, zL, zM, zN, zO, zP]
          refine g_Class ovT_only (by omega) (fun m2 hm2 => by rw [hk] at hm2; cases hm2) (fun k2 hk2 H4 x4 => ?_)
          rw [hk] at hk2; injection hk2 with hk2; subst hk2
          simp only [go_sem, zA, zB, zC, reduceIte, zD, zE, zF, zG, zH, zI, reduceCtorEq, zJ, zK, zL, zM, zN, zO, zP]
          refine t_told ((G2.ext G2.1 x3).ext (G2.ext G2.1 x3).1 x4) ?_
          simp only [go_sem, zA, zB, zC, reduceIte, zD, zE, zF, zG, zH, zI, reduceCtorEq, zJ, zK, zL, zM, zN, zO, zP]
          refine l_words ovT_only (by omega) ((r1'.ext x3).ext x4) ((r2.ext x3).ext x4) ?_
          simp only [go_sem, zA, zB, zC, reduceIte, zD, zE, zF, zG, zH, zI, reduceCtorEq, zJ, zK, zL, zM, zN, zO, zP]
          refine g3_Same (a := []) (b := []) ovT_only (by simp) (by simp) (Rd.nil (b := 0)) (Rd.nil (b := 0)) ?_
          simp only [go_sem, zA, zB, zC, reduceIte, zD, zE, zF, zG, zH, zI, reduceCtorEq, zJ, zK, zL, zM, zN, zO, zP]
      · have G1 := hG.ext hG.1 x1
        simp only [go_sem, zA, zB, zC, reduceIte, zD, zE, zF, zG, zH, zI, reduceCtorEq, zJ, zK, zL, zM, zN, zO, zP]
        refine g_Words ovT_only (by omega) (fun l2 hl2 => by rw [hk] at hl2; cases hl2) (fun k2 hk2 H2 x2 => ?_)
        rw [hk] at hk2; injection hk2 with hk2; subst hk2
        have G2 := G1.ext G1.1 x2
        simp only [go_sem, zA, zB, zC, reduceIte, zD, zE, zF, zG, zH, zI, reduceCtorEq, zJ, zK, zL, zM, zN, zO, zP]
        refine w_Class ovT_only (by omega) (by omega) G2 (fun m hm H3 v3 x3 s3 hm5 => ?_) (fun k hk H3 x3 => ?_)
        · simp only [go_sem, zA, zB, zC, reduceIte, zD, zE, zF, zG, zH, zI, reduceCtorEq, zJ, zK, zL, zM, zN, zO, zP]
          refine g_Class ovT_only (by omega) (fun m2 hm2 H4 v4 x4 s4 => ?_) (fun k hk => by rw [hm] at hk; cases hk)
          rw [hm] at hm2; injection hm2 with hm2; subst hm2
          obtain ⟨b3, r3, _⟩ := s3.rd
          obtain ⟨b4, r4, _⟩ := s4.rd
          simp only [go_sem, zA, zB, zC, reduceIte, zD, zE, zF, zG, zH, zI, reduceCtorEq, zJ, zK, zL, zM, zN, zO, zP]
          refine t_told ((G2.ext G2.1 x3).ext (G2.ext G2.1 x3).1 x4) ?_
          simp only [go_sem, zA, zB, zC, reduceIte, zD, zE, zF, zG, zH, zI, reduceCtorEq, zJ, zK, zL, zM, zN, zO, zP]
          refine l_words (l := []) ovT_only (by simp) (Rd.nil (b := 0)) (Rd.nil (b := 0)) ?_
          simp only [go_sem, zA, zB, zC, reduceIte, zD, zE, zF, zG, zH, zI, reduceCtorEq, zJ, zK, zL, zM, zN, zO, zP]
          refine g3_Same ovT_only (by omega) (by omega) (r3.ext x4) r4 ?_
          simp only [go_sem, zA, zB, zC, reduceIte, zD, zE, zF, zG, zH, zI, reduceCtorEq, zJ, zK, zL, zM, zN, zO, zP]
        · simp only [go_sem, zA, zB, zC, reduceIte, zD, zE, zF, zG, zH, zI, reduceCtorEq, zJ, zK, zL, zM, zN, zO, zP]
          refine g_Class ovT_only (by omega) (fun m2 hm2 => by rw [hk] at hm2; cases hm2) (fun k2 hk2 H4 x4 => ?_)
          rw [hk] at hk2; injection hk2 with hk2; subst hk2
          simp only [go_sem, zA, zB, zC, reduceIte, zD, zE, zF, zG, zH, zI, reduceCtorEq, zJ, zK, zL, zM, zN, zO, zP]
          refine t_told ((G2.ext G2.1 x3).ext (G2.ext G2.1 x3).1 x4) ?_
          simp only [go_sem, zA, zB, zC, reduceIte, zD, zE, zF, zG, zH, zI, reduceCtorEq, zJ, zK, zL, zM, zN, zO, zP]
          refine l_words (l := []) ovT_only (by simp) (Rd.nil (b := 0)) (Rd.nil (b := 0)) ?_
          simp only [go_sem, zA, zB, zC, reduceIte, zD, zE, zF, zG, zH, zI, reduceCtorEq, zJ, zK, zL, zM, zN, zO, zP]
          refine g3_Same (a := []) (b := []) ovT_only (by simp) (by simp) (Rd.nil (b := 0)) (Rd.nil (b := 0)) ?_
          simp only [go_sem, zA, zB, zC, reduceIte, zD, zE, zF, zG, zH, zI, reduceCtorEq, zJ, zK, zL, zM, zN, zO, zP]
end Go.Ev
/- The seat's listed variables in a world; calls of the machine there. -/
namespace Go.Proofs.YtfkdecamhepibaaGreatDoor
open Go Go.ChangeShapes Go.WideShapes Go.ChangeAt Go.RowKit Go.Ev
theorem own : ownKnob Tryz.prog.godebug = none := by kernel_rfl
def laidW : List (String × DataW Unit) := [("unicode/utf8.acceptRanges", Rows.laid_unicode_utf8_acceptRanges), ("unicode/utf8.first", Rows.laid_unicode_utf8_first)]
theorem gl_first : flatD Tryz.prog 9 120 Rows.laid_unicode_utf8_first = some glFirst := by kernel_rfl
theorem gl_accept : flatD Tryz.prog 9 123 Rows.laid_unicode_utf8_acceptRanges = some glAccept := by kernel_rfl
/-- The listed variables, in a world. -/
theorem gl_live {w : World} (h : laidMet Tryz.prog laidW w) : gl.length ≤ w.heap.size ∧ ∀ b c u, gl[b]? = some (.cells c u) → ∀ (i : Nat) (x : AV), c[i]? = some x → ∃ v, w.cell? ⟨b, i, none⟩ = some v ∧ VR (fun _ => none) x v := by
  have h1 := laid_cells (ι := fun _ => none) h (name := "unicode/utf8.first") (g := 1) (t := 120) (.tail _ (.head _)) (by kernel_rfl) (by kernel_rfl) gl_first
  have h2 := laid_cells (ι := fun _ => none) h (name := "unicode/utf8.acceptRanges") (g := 2) (t := 123) (.head _) (by kernel_rfl) (by kernel_rfl) gl_accept
  constructor
  · obtain ⟨v, hv, _⟩ := h2 0 (.int .u8 128) (by kernel_rfl)
    have : 2 < w.heap.size := by
      rcases Nat.lt_or_ge 2 w.heap.size with h | h
      · exact h
      · simp only [World.cell?, Array.getElem?_eq_none h] at hv; cases hv
    exact this
  · intro b c u hb i x hx
    match b, hb with
    | 0, hb => simp [gl] at hb
    | 1, hb => simp only [gl, List.getElem?_cons_succ, List.getElem?_cons_zero, Option.some.injEq, Blk.cells.injEq] at hb; obtain ⟨rfl, _⟩ := hb; exact h1 i x hx
    | 2, hb => simp only [gl, List.getElem?_cons_succ, List.getElem?_cons_zero, Option.some.injEq, Blk.cells.injEq] at hb; obtain ⟨rfl, _⟩ := hb; exact h2 i x hx
    | b + 3, hb => simp [gl] at hb
theorem ovT_ok (B : Nat) : CallOK Tryz.prog B ovT := by
  obtain ⟨H, h⟩ := retB_some told_run
  exact pureCall_ok (callOK 1000 B) gl_ok gl_len rfl rfl h
/-- A law that the machine brings to true is true. -/
theorem law_true {f : FuncId} {args : List AV} {w : World} (hL : laidMet Tryz.prog laidW w) {vs : Array Value} (hf : AV.flats args = true) (hvs : VRs (fun _ => none) args vs.toList) (h : wpf ⟨bt.get, ovT⟩ f args (glHeap gl) fun e _ => e = .ret (.bool true)) :
    Calls Tryz.prog f vs w fun e w' => e = .returned (.bool true) ∧ Below w.heap.size w w' := by
  obtain ⟨g1, g2⟩ := gl_live hL
  obtain ⟨N, H1, hrun⟩ := wpf_run h
  exact law_calls (evT_ok (M := ⟨bt.get, ovT⟩) table (drawn_all _) (ovT_ok w.heap.size) N) gl_ok gl_len g1 g2 hf hvs hrun
theorem vr_str (s : ByteArray) : VR (fun _ => none) (.str s.data.toList) (.string s) := by
  simp only [VR, Array.toArray_toList]
end Go.Proofs.YtfkdecamhepibaaGreatDoor
