/- Several texts of this claim, joined. -/
import Derived.Test.YtibdapopccemeaaGreatDoorT33
import Derived.Test.YtibdapopccemeaaGreatDoorT34
set_option linter.unusedSimpArgs false
set_option linter.unusedVariables false

/- goboref11: expressions as texts. -/
namespace Go.Ev
open Go
open Go.Ev renaming seqK_normal → zA, blockK_normal → zB, blockK_exit → zC
open Nat renaming reduceEqDiff → zD, reduceAdd → zE, reduceSub → zF, reduceMul → zG, reduceLeDiff → zH, reduceLT → zI
open Int renaming reduceToNat → zJ, reduceLT → zK, reduceLE → zL, reduceEq → zM, reduceAdd → zN, reduceSub → zO, reduceMul → zP
set_option maxRecDepth 8000
theorem isAlt_kind (x : Rx) : isAlt x = decide (kindX x = 4) := by cases x <;> rfl
theorem isSeq_kind (x : Rx) : isSeq x = decide (kindX x = 3) := by cases x <;> rfl
theorem ReV.kind {P H x cs} (h : ReV P H x cs) : ∃ v w, cs = [.int .i64 (kindX x), v, w] ∧ (AV.cells v = [v] ∧ AV.one v = true) ∧ (AV.cells w = [w] ∧ AV.one w = true) := by
  obtain ⟨vs, bs, vl, bl, ck, e1, s1, s2, l1, l2⟩ := h.split
  exact ⟨vs, vl, e1, s1.one, l1.one⟩
section
variable {o : CallF} (ho : OvOnly o)
include ho
theorem g_hex {c : Int} (hc : 97 ≤ c ∧ c ≤ 99) {H : Heap} {Q : End → Heap → Prop} (h : ∀ H', Ext H.size H H' → Q (.ret (.str [ltr c])) H') : wpf ⟨bt.get, o⟩ F_goboref11_hex [.int .i32 c] H Q := by
  rw [fn_goboref11_hex (ho _ _ _ (by decide))]
  have hw : IntKind.u8.wrap c = c := wu8 (by omega) (by omega)
  have c1 : c < 128 := by omega
  simp only [bd_goboref11_hex, go_sem, zA, zB, zC, reduceIte, zD, zE, zF, zG, zH, zI, reduceCtorEq, zJ, zK, zL, zM, zN, zO, zP, c1, hw]
  rw [fn_goboref11_small (ho _ _ _ (by decide))]
  have c2 : 97 ≤ c := hc.1
  have c3 : c ≤ 122 := by omega
  simp only [bd_goboref11_small, go_sem, zA, zB, zC, reduceIte, zD, zE, zF, zG, zH, zI, reduceCtorEq, zJ, zK, zL, zM, zN, zO, zP, c2, c3, hw, GE.ge]
  have := h (H.push (.cells [.int .u8 c] .own)) (Ext.push (Nat.le_refl _))
  have : c = 97 ∨ c = 98 ∨ c = 99 := by omega
  rcases this with rfl | rfl | rfl <;> exact h _ (Ext.push (Nat.le_refl _))
theorem g_inB {s : List UInt8} {b : Bool} (hs : s.length ≤ 100000) {H : Heap} {Q : End → Heap → Prop} (h : Q (.ret (.str (inB b s))) H) : wpf ⟨bt.get, o⟩ F_goboref11_in [.str s, .bool b] H Q := by
  rw [fn_goboref11_in (ho _ _ _ (by decide))]
  have l1 : 1 + s.length ≤ 1099511627776 := by omega
  have l2 : 1 + s.length + 1 ≤ 1099511627776 := by omega
  cases b with
  | true =>
    simp only [bd_goboref11_in, go_sem, zA, zB, zC, reduceIte, zD, zE, zF, zG, zH, zI, reduceCtorEq, zJ, zK, zL, zM, zN, zO, zP, l1, l2, List.length_append, List.length_cons, List.length_nil]
    exact ⟨by omega, h⟩
  | false =>
    simp only [bd_goboref11_in, go_sem, zA, zB, zC, reduceIte, zD, zE, zF, zG, zH, zI, reduceCtorEq, zJ, zK, zL, zM, zN, zO, zP]
    exact h
theorem g_Set {l : List R} (ok : okS l) {v : AV} {b : Nat} {H : Heap} (hR : Rd H 2 (rcells l) l.length v b) {Q : End → Heap → Prop} (h : ∀ H', Ext H.size H H' → Q (.ret (.str (setP l))) H') : wpf ⟨bt.get, o⟩ F_goboref11_Set [v] H Q := by
  rw [fn_goboref11_Set (ho _ _ _ (by decide))]
  obtain ⟨c, hc, rfl | rfl⟩ := ok
  · obtain ⟨⟨u, hg⟩, hel, _⟩ := hR.pos (by simp)
    have el := hel 0 (by simp)
    have hln := hR.len
    simp only [List.length_cons, List.length_nil, Nat.zero_add, Int.natCast_zero, Nat.zero_mul, rcells, List.flatMap_cons, List.flatMap_nil, R.cells, List.append_nil, Int.natCast_one] at el hln hg
    simp only [bd_goboref11_Set, go_sem, zA, zB, zC, reduceIte, zD, zE, zF, zG, zH, zI, reduceCtorEq, zJ, zK, zL, zM, zN, zO, zP, hln, el, hg]
    refine g_hex ho ⟨hc.1, by omega⟩ fun H1 x1 => ?_
    simp only [go_sem, zA, zB, zC, reduceIte, zD, zE, zF, zG, zH, zI, reduceCtorEq, zJ, zK, zL, zM, zN, zO, zP]
    have : setP [⟨c, c⟩] = [ltr c] := by simp [setP]
    rw [this] at h
    exact h H1 x1
  · obtain ⟨⟨u, hg⟩, hel, _⟩ := hR.pos (by simp)
    have el := hel 0 (by simp)
    have hln := hR.len
    have hbl : b < H.size := Heap.lt_of_get (by rw [hg]; simp)
    have hne : ¬ c = c + 1 := by omega
    have hlt : c < c + 1 := by omega
    simp only [List.length_cons, List.length_nil, Nat.zero_add, Int.natCast_zero, Nat.zero_mul, rcells, List.flatMap_cons, List.flatMap_nil, R.cells, List.append_nil, Int.natCast_one] at el hln hg
    simp only [bd_goboref11_Set, go_sem, zA, zB, zC, reduceIte, zD, zE, zF, zG, zH, zI, reduceCtorEq, zJ, zK, zL, zM, zN, zO, zP, hln, el, hg, hne]
    rw [wpl_step]
    simp only [lb_goboref11_Set_0, go_sem, zA, zB, zC, reduceIte, zD, zE, zF, zG, zH, zI, reduceCtorEq, zJ, zK, zL, zM, zN, zO, zP, hln, el, hg]
    refine g_hex ho ⟨hc.1, by omega⟩ fun H1 x1 => ?_
    have g1 : H1.get b = .cells [.int .i32 c, .int .i32 (c + 1)] u := by rw [x1.2 b hbl, hg]
    simp only [go_sem, zA, zB, zC, reduceIte, zD, zE, zF, zG, zH, zI, reduceCtorEq, zJ, zK, zL, zM, zN, zO, zP, hln, el, g1, hlt]
    refine g_hex ho ⟨by omega, by omega⟩ fun H2 x2 => ?_
    simp only [go_sem, zA, zB, zC, reduceIte, zD, zE, zF, zG, zH, zI, reduceCtorEq, zJ, zK, zL, zM, zN, zO, zP]
    rw [wpl_step]
    have w1 : IntKind.i64.wrap 1 = 1 := rfl
    simp only [lb_goboref11_Set_0, go_sem, zA, zB, zC, reduceIte, zD, zE, zF, zG, zH, zI, reduceCtorEq, zJ, zK, zL, zM, zN, zO, zP, hln, w1]
    have : setP [⟨c, c + 1⟩] = [91, ltr c, 45, ltr (c + 1), 93] := by simp [setP, hne]
    rw [this] at h
    exact h H2 (x1.trans (x2.le x1.1))
theorem g_re : ∀ (x : Rx), okX x → szX x ≤ 1000 → ∀ (P : Nat → Prop) (cx : List AV) (H : Heap) (Q : End → Heap → Prop), ReV P H x cx → (∀ H', Ext H.size H H' → Q (.ret (.str (printX x))) H') → wpf ⟨bt.get, o⟩ F_goboref11_re [.agg cx] H Q := by
  have lB : ∀ (b : Bool) (t : List UInt8), (inB b t).length ≤ t.length + 2 := fun b t => by cases b <;> simp [inB]
  intro x
  induction x with
  | emp =>
    intro ok hz P cx H Q hx h
    rw [fn_goboref11_re (ho _ _ _ (by decide)), show cx = _ from hx]
    simp only [bd_goboref11_re, go_sem, zA, zB, zC, reduceIte, zD, zE, zF, zG, zH, zI, reduceCtorEq, zJ, zK, zL, zM, zN, zO, zP]
    exact h _ (Ext.push (Nat.le_refl _))
  | set l =>
    intro ok hz P cx H Q hx h
    rw [fn_goboref11_re (ho _ _ _ (by decide))]
    obtain ⟨v, b, rfl, hR, _, _⟩ := hx
    have x1 : Ext H.size H (H.push (.cells [.int .i64 2, v, .nils] .own)) := Ext.push (Nat.le_refl _)
    have g1 : (H.push (.cells [.int .i64 2, v, .nils] .own)).get H.size = .cells [.int .i64 2, v, .nils] .own := Heap.get_push_self
    simp only [bd_goboref11_re, go_sem, zA, zB, zC, reduceIte, zD, zE, zF, zG, zH, zI, reduceCtorEq, zJ, zK, zL, zM, zN, zO, zP, hR.one.1, hR.one.2, g1]
    refine g_Set ho ok (hR.ext x1) fun H2 x2 => ?_
    simp only [go_sem, zA, zB, zC, reduceIte, zD, zE, zF, zG, zH, zI, reduceCtorEq, zJ, zK, zL, zM, zN, zO, zP]
    exact h _ (x1.trans (x2.le x1.1))
  | star a iha =>
    intro ok hz P cx H Q hx h
    rw [fn_goboref11_re (ho _ _ _ (by decide))]
    obtain ⟨v, b, ca, rfl, hR, _, ha⟩ := hx
    simp only [szX] at hz
    obtain ⟨av, aw, rfl, ⟨a1, a2⟩, a3, a4⟩ := ha.kind
    have x1 : Ext H.size H (H.push (.cells [.int .i64 5, .nils, v] .own)) := Ext.push (Nat.le_refl _)
    have g1 : (H.push (.cells [.int .i64 5, .nils, v] .own)).get H.size = .cells [.int .i64 5, .nils, v] .own := Heap.get_push_self
    have s1 : (H.push (.cells [.int .i64 5, .nils, v] .own)).size = H.size + 1 := Heap.size_push _ _
    obtain ⟨⟨u, hg⟩, hel, _⟩ := (hR.ext x1).pos (by omega)
    have el := hel 0 (by omega)
    rw [Int.natCast_zero, Nat.zero_mul] at el
    have hbl := (hR.ext x1).lt (by omega)
    simp only [bd_goboref11_re, go_sem, zA, zB, zC, reduceIte, zD, zE, zF, zG, zH, zI, reduceCtorEq, zJ, zK, zL, zM, zN, zO, zP, hR.one.1, hR.one.2, g1, el, hg]
    generalize H.push (.cells [.int .i64 5, .nils, v] .own) = H1 at x1 g1 s1 hg hbl ⊢
    refine iha ok (by omega) P _ _ _ (ha.keep fun b p1 p2 => ⟨x1.2 b p2, p1⟩) fun H2 x2 => ?_
    have g2 : H2.get H.size = .cells [.int .i64 5, .nils, v] .own := by rw [x2.2 _ (by omega), g1]
    have hg2 : H2.get b = .cells [.int .i64 (kindX a), av, aw] u := by rw [x2.2 _ hbl, hg]
    have lp := print_len a ok
    have lb := lB (isSeq a || isAlt a) (printX a)
    have ls : (inB (isSeq a || isAlt a) (printX a)).length + 1 ≤ 1099511627776 := by omega
    have he : printX (.star a) = inB (isSeq a || isAlt a) (printX a) ++ [42] := rfl
    rw [he] at h
    by_cases q : kindX a = 3
    · have hs : isSeq a = true := by rw [isSeq_kind]; simp [q]
      rw [hs, Bool.true_or] at h ls
      simp only [go_sem, zA, zB, zC, reduceIte, zD, zE, zF, zG, zH, zI, reduceCtorEq, zJ, zK, zL, zM, zN, zO, zP, g1, g2, hg, hg2, el, AV.beq_self, q]
      refine g_inB ho (by omega) ?_
      simp only [go_sem, zA, zB, zC, reduceIte, zD, zE, zF, zG, zH, zI, reduceCtorEq, zJ, zK, zL, zM, zN, zO, zP, ls]
      exact h _ (x1.trans (x2.le x1.1))
    · have hs : isSeq a = false := by rw [isSeq_kind]; simp [q]
      rw [hs, Bool.false_or, isAlt_kind] at h ls
      simp only [go_sem, zA, zB, zC, reduceIte, zD, zE, zF, zG, zH, zI, reduceCtorEq, zJ, zK, zL, zM, zN, zO, zP, g1, g2, hg, hg2, el, AV.beq_self, q]
      refine g_inB ho (by omega) ?_
      simp only [go_sem, zA, zB, zC, reduceIte, zD, zE, zF, zG, zH, zI, reduceCtorEq, zJ, zK, zL, zM, zN, zO, zP, ls]
      exact h _ (x1.trans (x2.le x1.1))
  | seq a b iha ihb =>
    intro ok hz P cx H Q hx h
    rw [fn_goboref11_re (ho _ _ _ (by decide))]
    obtain ⟨v, bl, ca, cb, rfl, hR, _, ha, hb⟩ := hx
    simp only [szX] at hz
    have pa := szX_pos a
    have pb := szX_pos b
    obtain ⟨av, aw, rfl, ⟨a1, a2⟩, a3, a4⟩ := ha.kind
    obtain ⟨bv, bw, rfl, ⟨b1, b2⟩, b3, b4⟩ := hb.kind
    have x1 : Ext H.size H (H.push (.cells [.int .i64 3, .nils, v] .own)) := Ext.push (Nat.le_refl _)
    have g1 : (H.push (.cells [.int .i64 3, .nils, v] .own)).get H.size = .cells [.int .i64 3, .nils, v] .own := Heap.get_push_self
    have s1 : (H.push (.cells [.int .i64 3, .nils, v] .own)).size = H.size + 1 := Heap.size_push _ _
    obtain ⟨⟨u, hg⟩, hel, _⟩ := (hR.ext x1).pos (by omega)
    have el := hel 0 (by omega)
    have el' := hel 1 (by omega)
    rw [Int.natCast_zero, Nat.zero_mul] at el
    rw [Int.natCast_one, Nat.one_mul] at el'
    have hbl := (hR.ext x1).lt (by omega)
    simp only [List.cons_append, List.nil_append] at hg
    simp only [bd_goboref11_re, go_sem, zA, zB, zC, reduceIte, zD, zE, zF, zG, zH, zI, reduceCtorEq, zJ, zK, zL, zM, zN, zO, zP, hR.one.1, hR.one.2, g1, el, hg]
    generalize H.push (.cells [.int .i64 3, .nils, v] .own) = H1 at x1 g1 s1 hg hbl ⊢
    have la := print_len a ok.1
    have lb := print_len b ok.2
    refine iha ok.1 (by omega) P _ _ _ (ha.keep fun b p1 p2 => ⟨x1.2 b p2, p1⟩) fun H2 x2 => ?_
    have x12 := x1.trans (x2.le x1.1)
    have s2 := x2.1
    have g2 : H2.get H.size = .cells [.int .i64 3, .nils, v] .own := by rw [x2.2 _ (by omega), g1]
    have hg2 : H2.get bl = .cells [.int .i64 (kindX a), av, aw, .int .i64 (kindX b), bv, bw] u := by rw [x2.2 _ hbl, hg]
    have lA := lB (isAlt a) (printX a)
    have lBB := lB (isAlt b || isSeq b) (printX b)
    have ls : (inB (isAlt a) (printX a)).length + (inB (isAlt b || isSeq b) (printX b)).length ≤ 1099511627776 := by omega
    have he : printX (.seq a b) = inB (isAlt a) (printX a) ++ inB (isAlt b || isSeq b) (printX b) := rfl
    rw [he] at h
    rw [isAlt_kind a] at h ls
    simp only [go_sem, zA, zB, zC, reduceIte, zD, zE, zF, zG, zH, zI, reduceCtorEq, zJ, zK, zL, zM, zN, zO, zP, g1, g2, hg, hg2, el, AV.beq_self]
    refine g_inB ho (by omega) ?_
    simp only [go_sem, zA, zB, zC, reduceIte, zD, zE, zF, zG, zH, zI, reduceCtorEq, zJ, zK, zL, zM, zN, zO, zP, g1, g2, hg, hg2, el, el', AV.beq_self]
    refine ihb ok.2 (by omega) P _ _ _ (hb.keep fun b p1 p2 => ⟨x12.2 b p2, p1⟩) fun H3 x3 => ?_
    have g3 : H3.get H.size = .cells [.int .i64 3, .nils, v] .own := by rw [x3.2 _ (by omega), g2]
    have hg3 : H3.get bl = .cells [.int .i64 (kindX a), av, aw, .int .i64 (kindX b), bv, bw] u := by rw [x3.2 _ (by omega), hg2]
    by_cases q : kindX b = 4
    · have hs : isAlt b = true := by rw [isAlt_kind]; simp [q]
      rw [hs, Bool.true_or] at h ls
      simp only [go_sem, zA, zB, zC, reduceIte, zD, zE, zF, zG, zH, zI, reduceCtorEq, zJ, zK, zL, zM, zN, zO, zP, g1, g2, g3, hg, hg2, hg3, el, el', AV.beq_self, q]
      refine g_inB ho (by omega) ?_
      simp only [go_sem, zA, zB, zC, reduceIte, zD, zE, zF, zG, zH, zI, reduceCtorEq, zJ, zK, zL, zM, zN, zO, zP, ls]
      exact h _ (x12.trans (x3.le x12.1))
    · have hs : isAlt b = false := by rw [isAlt_kind]; simp [q]
      rw [hs, Bool.false_or, isSeq_kind b] at h ls
      simp only [go_sem, zA, zB, zC, reduceIte, zD, zE, zF, zG, zH, zI, reduceCtorEq, zJ, zK, zL, zM, zN, zO, zP, g1, g2, g3, hg, hg2, hg3, el, el', AV.beq_self, q]
      refine g_inB ho (by omega) ?_
      simp only [go_sem, zA, zB, zC, reduceIte, zD, zE, zF, zG, zH, zI, reduceCtorEq, zJ, zK, zL, zM, zN, zO, zP, ls]
      exact h _ (x12.trans (x3.le x12.1))
  | alt a b iha ihb =>
    intro ok hz P cx H Q hx h
    rw [fn_goboref11_re (ho _ _ _ (by decide))]
    obtain ⟨v, bl, ca, cb, rfl, hR, _, ha, hb⟩ := hx
    simp only [szX] at hz
    have pa := szX_pos a
    have pb := szX_pos b
    obtain ⟨av, aw, rfl, ⟨a1, a2⟩, a3, a4⟩ := ha.kind
    obtain ⟨bv, bw, rfl, ⟨b1, b2⟩, b3, b4⟩ := hb.kind
    have x1 : Ext H.size H (H.push (.cells [.int .i64 4, .nils, v] .own)) := Ext.push (Nat.le_refl _)
    have g1 : (H.push (.cells [.int .i64 4, .nils, v] .own)).get H.size = .cells [.int .i64 4, .nils, v] .own := Heap.get_push_self
    have s1 : (H.push (.cells [.int .i64 4, .nils, v] .own)).size = H.size + 1 := Heap.size_push _ _
    obtain ⟨⟨u, hg⟩, hel, _⟩ := (hR.ext x1).pos (by omega)
    have el := hel 0 (by omega)
    have el' := hel 1 (by omega)
    rw [Int.natCast_zero, Nat.zero_mul] at el
    rw [Int.natCast_one, Nat.one_mul] at el'
    have hbl := (hR.ext x1).lt (by omega)
    simp only [List.cons_append, List.nil_append] at hg
    simp only [bd_goboref11_re, go_sem, zA, zB, zC, reduceIte, zD, zE, zF, zG, zH, zI, reduceCtorEq, zJ, zK, zL, zM, zN, zO, zP, hR.one.1, hR.one.2, g1, el, hg]
    generalize H.push (.cells [.int .i64 4, .nils, v] .own) = H1 at x1 g1 s1 hg hbl ⊢
    have la := print_len a ok.1
    have lb := print_len b ok.2
    refine iha ok.1 (by omega) P _ _ _ (ha.keep fun b p1 p2 => ⟨x1.2 b p2, p1⟩) fun H2 x2 => ?_
    have x12 := x1.trans (x2.le x1.1)
    have s2 := x2.1
    have g2 : H2.get H.size = .cells [.int .i64 4, .nils, v] .own := by rw [x2.2 _ (by omega), g1]
    have hg2 : H2.get bl = .cells [.int .i64 (kindX a), av, aw, .int .i64 (kindX b), bv, bw] u := by rw [x2.2 _ hbl, hg]
    have lBB := lB (isAlt b) (printX b)
    have ls : (printX a).length + 1 + (inB (isAlt b) (printX b)).length ≤ 1099511627776 := by omega
    have l1 : (printX a).length + 1 ≤ 1099511627776 := by omega
    have he : printX (.alt a b) = (printX a ++ [124]) ++ inB (isAlt b) (printX b) := by simp [printX]
    rw [he, isAlt_kind b] at h
    rw [isAlt_kind b] at ls
    simp only [go_sem, zA, zB, zC, reduceIte, zD, zE, zF, zG, zH, zI, reduceCtorEq, zJ, zK, zL, zM, zN, zO, zP, g1, g2, hg, hg2, el, el', AV.beq_self, l1, List.length_append, List.length_cons, List.length_nil]
    refine ihb ok.2 (by omega) P _ _ _ (hb.keep fun b p1 p2 => ⟨x12.2 b p2, p1⟩) fun H3 x3 => ?_
    have g3 : H3.get H.size = .cells [.int .i64 4, .nils, v] .own := by rw [x3.2 _ (by omega), g2]
    have hg3 : H3.get bl = .cells [.int .i64 (kindX a), av, aw, .int .i64 (kindX b), bv, bw] u := by rw [x3.2 _ (by omega), hg2]
    simp only [go_sem, zA, zB, zC, reduceIte, zD, zE, zF, zG, zH, zI, reduceCtorEq, zJ, zK, zL, zM, zN, zO, zP, g1, g2, g3, hg, hg2, hg3, el, el', AV.beq_self]
    refine g_inB ho (by omega) ?_
    simp only [go_sem, zA, zB, zC, reduceIte, zD, zE, zF, zG, zH, zI, reduceCtorEq, zJ, zK, zL, zM, zN, zO, zP, ls, List.length_append, List.length_cons, List.length_nil]
    exact h _ (x12.trans (x3.le x12.1))
theorem g_PrintRe {x : Rx} (ok : okX x) (hz : szX x ≤ 1000) (hm : mayX x = true) {P : Nat → Prop} {cx : List AV} {H : Heap} {Q : End → Heap → Prop} (hx : ReV P H x cx) (h : ∀ H', Ext H.size H H' → Q (.ret (.str (printX x))) H') : wpf ⟨bt.get, o⟩ F_goboref11_PrintRe [.agg cx] H Q := by
  rw [fn_goboref11_PrintRe (ho _ _ _ (by decide))]
  obtain ⟨k, v, w, rfl, ⟨v1, v2⟩, w1, w2⟩ := hx.form
  have x1 : Ext H.size H (H.push (.cells [.int .i64 k, v, w] .own)) := Ext.push (Nat.le_refl _)
  have g1 : (H.push (.cells [.int .i64 k, v, w] .own)).get H.size = .cells [.int .i64 k, v, w] .own := Heap.get_push_self
  simp only [bd_goboref11_PrintRe, go_sem, zA, zB, zC, reduceIte, zD, zE, zF, zG, zH, zI, reduceCtorEq, zJ, zK, zL, zM, zN, zO, zP, v1, v2, w1, w2]
  refine g6_May ho (P := P) ok hz (hx.keep fun b p1 p2 => ⟨x1.2 b p2, p1⟩) fun H2 x2 => ?_
  have x12 := x1.trans (x2.le x1.1)
  have g2 : H2.get H.size = .cells [.int .i64 k, v, w] .own := by rw [x2.2 _ (by rw [Heap.size_push]; omega), g1]
  simp only [go_sem, zA, zB, zC, reduceIte, zD, zE, zF, zG, zH, zI, reduceCtorEq, zJ, zK, zL, zM, zN, zO, zP, hm, v1, v2, w1, w2, g2]
  refine g_re ho x ok hz P _ _ _ (hx.keep fun b p1 p2 => ⟨x12.2 b p2, p1⟩) fun H3 x3 => ?_
  simp only [go_sem, zA, zB, zC, reduceIte, zD, zE, zF, zG, zH, zI, reduceCtorEq, zJ, zK, zL, zM, zN, zO, zP]
  exact h H3 (x12.trans (x3.le x12.1))
end
/- gobolaw6.Make: what it comes to. -/
set_option maxRecDepth 8000
theorem StV.at {P H} : ∀ {st cs}, StV P H st cs → ∀ (i : Nat) k, st.reverse[i]? = some k → ReV P H k (List.take 3 (List.drop (i * 3) cs)) ∧ i * 3 + 3 ≤ cs.length
  | [], cs, _, i, k, h => by simp at h
  | x :: r, cs, ⟨c0, cx, e, h1, h2⟩, i, k, h => by
    subst e
    have l0 := h1.len
    have lx := h2.len
    rw [List.reverse_cons] at h
    rcases Nat.lt_or_ge i r.length with hi | hi
    · rw [List.getElem?_append_left (by simpa using hi)] at h
      obtain ⟨a, b⟩ := StV.at h1 i k h
      refine ⟨?_, by rw [List.length_append]; omega⟩
      rw [List.drop_append_of_le_length (by omega), List.take_append_of_le_length (by rw [List.length_drop]; omega)]
      exact a
    · rw [List.getElem?_append_right (by simpa using hi), List.length_reverse] at h
      have hi' : i = r.length := by
        rcases Nat.lt_or_ge (i - r.length) 1 with h' | h'
        · omega
        · rw [List.getElem?_eq_none (by simpa using h')] at h; cases h
      subst hi'
      rw [Nat.sub_self, List.getElem?_cons_zero, Option.some.injEq] at h
      subst h
      refine ⟨?_, by rw [List.length_append]; omega⟩
      rw [List.drop_left' l0, List.take_of_length_le (by omega)]
      exact h2
section
variable {o : CallF} (ho : OvOnly o)
include ho
omit ho in
theorem row_loop {L : List Rx} {cs : List AV} {sv : AV} {sb xb eb n0 : Nat} (hL : L.length ≤ 1000) (hsx : 0 < L.length → sb ≠ xb) (hx0 : n0 ≤ xb) {H0 : Heap} {Q : Ctl → St → Prop} : ∀ (r : List Rx) (i : Nat) (e : Rx) (ex : List AV) (H : Heap), L.drop i = r → Rd H 3 cs L.length sv sb → (∀ (i : Nat) k, L[i]? = some k → ReV (fun b => n0 ≤ b ∧ b ≠ xb) H k (List.take 3 (List.drop (i * 3) cs)) ∧ i * 3 + 3 ≤ cs.length) →
    H.get xb = .cells ex .own → ReV (fun b => n0 ≤ b ∧ b ≠ xb) H e ex → n0 ≤ H.size → Ext n0 H0 H →
    (∀ H' ex' y1 y3 y4 t, Ext n0 H0 H' → n0 ≤ H'.size → H'.get xb = .cells ex' .own → ReV (fun b => n0 ≤ b ∧ b ≠ xb) H' (r.foldl .seq e) ex' → Q (.exit 3) { p := [(2, .ptr eb 0), (3, y1), (8, .ptr xb 0), (9, y3), (136, y4)], t := t, H := H', d := [], u := .norm }) →
    wpl ⟨bt.get, o⟩ [2, 3, 8, 9] lb_gobolaw6_Make_1 { p := [(2, .ptr eb 0), (3, sv), (8, .ptr xb 0), (9, .int .i64 (i : Int))], t := [], H := H, d := [], u := .norm } Q
  | [], i, e, ex, H, hd, hR, hA, gx, hE, hn, hx, hQ => by
    have : L.length ≤ i := List.drop_eq_nil_iff.1 hd
    rw [wpl_step]
    have c1 : ¬((i : Int) < (L.length : Int)) := by omega
    simp only [lb_gobolaw6_Make_1, go_sem, zA, zB, zC, reduceIte, zD, zE, zF, zG, zH, zI, reduceCtorEq, zJ, zK, zL, zM, zN, zO, zP, hR.len, c1]
    exact hQ H ex _ _ _ _ hx hn gx hE
  | k :: r, i, e, ex, H, hd, hR, hA, gx, hE, hn, hx, hQ => by
    obtain ⟨h0, h1, h2⟩ := list_at hd
    obtain ⟨⟨u, hg⟩, hel, _⟩ := hR.pos (by omega)
    have el := hel i h1
    obtain ⟨r1, r2⟩ := hA i k h0
    have c1 : ((i : Int) < (L.length : Int)) := by omega
    have iw := wsucc (show i ≤ 1000000000 by omega)
    obtain ⟨ek, ev, ew, rfl, ⟨e1, e2⟩, e3, e4⟩ := hE.form
    obtain ⟨kk, kv, kw, ek', ⟨k1, k2⟩, k3, k4⟩ := r1.form
    have hxl : xb < H.size := Heap.lt_of_get (by rw [gx]; simp)
    have gp : ∀ z, (H.push z).get xb = .cells [.int .i64 ek, ev, ew] .own := fun z => by rw [Heap.get_push_lt hxl, gx]
    rw [wpl_step]
    simp only [lb_gobolaw6_Make_1, go_sem, zA, zB, zC, reduceIte, zD, zE, zF, zG, zH, zI, reduceCtorEq, zJ, zK, zL, zM, zN, zO, zP, hR.len, c1, el, hg, gx, r2, ek', e1, e2, e3, e4, k1, k2, k3, k4, gp, iw]
    rw [ek'] at r1
    have low : ∀ b, b < H.size → b ≠ xb → ((H.push (.cells [.int .i64 ek, ev, ew, .int .i64 kk, kv, kw] .own)).set xb (.cells [.int .i64 3, .nils, .slice H.size 0 2 2] .own)).get b = H.get b := fun b h1 h2 => by
      rw [Heap.get_set_ne h2, Heap.get_push_lt h1]
    refine row_loop hL hsx hx0 r (i + 1) (.seq e k) [.int .i64 3, .nils, .slice H.size 0 2 2] _ h2 (hR.keep fun h => low sb (hR.lt h) (hsx h)) (fun j z hz => ⟨(hA j z hz).1.keep fun b p1 p2 => ⟨low b p2 p1.2, p1⟩, (hA j z hz).2⟩) (Heap.get_set_self (by rw [Heap.size_push]; omega)) ?_ (by rw [Heap.size_set, Heap.size_push]; omega) (hx.trans ((Ext.push hn).trans (Ext.set hx0))) hQ
    refine ⟨.slice H.size 0 2 2, H.size, [.int .i64 ek, ev, ew], [.int .i64 kk, kv, kw], rfl, Rd.slice (u := .own) ?_ rfl, ⟨hn, by omega⟩, hE.keep fun b p1 p2 => ⟨low b p2 p1.2, p1⟩, r1.keep fun b p1 p2 => ⟨low b p2 p1.2, p1⟩⟩
    rw [Heap.get_set_ne (by omega), Heap.get_push_self]; rfl
theorem g_Make {l : List Int} {lv : AV} {lb : Nat} {H : Heap} (hR : Rd H 1 (ic l) l.length lv lb) {Q : End → Heap → Prop} (hQ : ∀ H' cs, Ext H.size H H' → ReV (fun b => H.size ≤ b) H' (makeX l) cs → Q (.ret (.agg cs)) H') : wpf ⟨bt.get, o⟩ F_gobolaw6_Make [lv] H Q := by
  rw [fn_gobolaw6_Make (ho _ _ _ (by decide))]
  have x1 : Ext H.size H (H.push (.cells [.int .i64 0, .nils, .nils] .own)) := Ext.push (Nat.le_refl _)
  have g1 : (H.push (.cells [.int .i64 0, .nils, .nils] .own)).get H.size = .cells [.int .i64 0, .nils, .nils] .own := Heap.get_push_self
  have s1 : (H.push (.cells [.int .i64 0, .nils, .nils] .own)).size = H.size + 1 := Heap.size_push _ _
  simp only [bd_gobolaw6_Make, go_sem, zA, zB, zC, reduceIte, zD, zE, zF, zG, zH, zI, reduceCtorEq, zJ, zK, zL, zM, zN, zO, zP]
  generalize H.push (.cells [.int .i64 0, .nils, .nils] .own) = H1 at x1 g1 s1 ⊢
  refine mk_loop (n0 := H.size + 1) (fun h => by have := hR.lt h; omega) (l.take 14) 0 [] .nils H1 (by rw [List.drop_zero]) (Nat.zero_le _) (Nat.le_refl _) (hR.ext x1) Ext.refl (by omega) ⟨[], .inl ⟨rfl, rfl, rfl⟩, rfl⟩ fun H2 sv y1 y3 y4 t x2 S2 => ?_
  have hmk : (l.take 14).foldl stepX [] = mkX l := rfl
  rw [hmk] at S2
  obtain ⟨cs, hS, hT⟩ := S2
  obtain ⟨m1, m2, m3⟩ := mkX_ok l
  have sz2 := x2.1
  have g2 : H2.get H.size = .cells [.int .i64 0, .nils, .nils] .own := by rw [x2.2 _ (by omega), g1]
  have x12 : Ext H.size H H2 := x1.trans (x2.le (by omega))
  have hat := hT.at
  have hln := hS.lenI
  have hrl : (mkX l).reverse.length = (mkX l).length := List.length_reverse
  cases hrev : (mkX l).reverse with
  | nil =>
    have hnil : (mkX l).length = 0 := by rw [← hrl, hrev]; rfl
    have hX : makeX l = .set [⟨97, 97⟩] := by
      have : madeX l = .set [⟨97, 97⟩] := by rw [madeX, hrev]; rfl
      rw [makeX, this]; rfl
    have q0 : ((mkX l).length : Int) = 0 := by omega
    simp only [go_sem, zA, zB, zC, reduceIte, zD, zE, zF, zG, zH, zI, reduceCtorEq, zJ, zK, zL, zM, zN, zO, zP, hln, q0]
    refine g_One ho fun H3 c3 x3 R3 => ?_
    have sz3 := x3.1
    obtain ⟨k, v, w, rfl, ⟨v1, v2⟩, w1, w2⟩ := R3.form
    have g3 : H3.get H.size = .cells [.int .i64 0, .nils, .nils] .own := by rw [x3.2 _ (by omega), g2]
    have l3 : H.size < H3.size := by omega
    simp only [go_sem, zA, zB, zC, reduceIte, zD, zE, zF, zG, zH, zI, reduceCtorEq, zJ, zK, zL, zM, zN, zO, zP, v1, v2, w1, w2, g3, Heap.get_set_self l3]
    refine hQ _ _ ((x12.trans (x3.le (by omega))).trans (Ext.set (Nat.le_refl _))) ?_
    rw [hX]
    exact R3.keep fun b p1 p2 => ⟨Heap.get_set_ne (by omega), by omega⟩
  | cons e rr =>
    have hL1 : (mkX l).length = rr.length + 1 := by rw [← hrl, hrev]; rfl
    have q0 : ¬ ((mkX l).length : Int) = 0 := by omega
    obtain ⟨sb, hRs, hpos⟩ := hS.rd
    obtain ⟨hsb, _, _⟩ := hpos (by omega)
    obtain ⟨⟨us, gs⟩, els, _⟩ := hRs.pos (by omega)
    have el0 := els 0 (by omega)
    rw [Int.natCast_zero, Nat.zero_mul] at el0
    obtain ⟨a1, a2⟩ := hat 0 e (by rw [hrev]; rfl)
    rw [Nat.zero_mul, List.drop_zero] at a1
    rw [Nat.zero_mul, Nat.zero_add] at a2
    obtain ⟨ek, ev, ew, ee, ⟨e1, e2⟩, e3, e4⟩ := a1.form
    rw [ee] at a1
    have hsl : sb < H2.size := Heap.lt_of_get (by rw [gs]; simp)
    have lx : H2.size < (H2.push (.cells [.int .i64 0, .nils, .nils] .own)).size := by rw [Heap.size_push]; omega
    have gx : (H2.push (.cells [.int .i64 0, .nils, .nils] .own)).get H2.size = .cells [.int .i64 0, .nils, .nils] .own := Heap.get_push_self
    simp only [go_sem, zA, zB, zC, reduceIte, zD, zE, zF, zG, zH, zI, reduceCtorEq, zJ, zK, zL, zM, zN, zO, zP, hln, q0, el0, gs, List.drop_zero, ee, a2, e1, e2, e3, e4, gx]
    have x3 : Ext H2.size H2 (H2.push (.cells [.int .i64 ek, ev, ew] .own)) := Ext.push (Nat.le_refl _)
    have g3 : (H2.push (.cells [.int .i64 ek, ev, ew] .own)).get H2.size = .cells [.int .i64 ek, ev, ew] .own := Heap.get_push_self
    generalize H2.push (.cells [.int .i64 ek, ev, ew] .own) = H3 at x3 g3 ⊢
    have sz3 := x3.1
    have cv : ∀ b, NotIn (H.size + 1) sv b → b < H2.size → H3.get b = H2.get b ∧ (H.size + 1 ≤ b ∧ b ≠ H2.size) := fun b p1 p2 => ⟨x3.2 b p2, p1.1, by omega⟩
    refine row_loop (L := (mkX l).reverse) (sb := sb) (n0 := H.size + 1) (by omega) (fun _ => by omega) (by omega) (H0 := H2) rr 1 e [.int .i64 ek, ev, ew] H3 (by rw [hrev]; rfl) (by rw [hrl]; exact hRs.ext x3) (fun i k h => ⟨(hat i k h).1.keep cv, (hat i k h).2⟩) g3 (a1.keep cv) (by omega) (x3.le (by omega)) fun H4 ex y1 y3 y4 t x4 sz4 gx4 hE => ?_
    have hX : madeX l = rr.foldl .seq e := by rw [madeX, hrev]; rfl
    rw [← hX] at hE
    obtain ⟨ok, hz⟩ := madeX_ok l
    obtain ⟨k, v, w, rfl, ⟨v1, v2⟩, w1, w2⟩ := hE.form
    have x24 : Ext H.size H H4 := x12.trans (x4.le (by omega))
    have g4 : H4.get H.size = .cells [.int .i64 0, .nils, .nils] .own := by rw [x4.2 _ (by omega), g2]
    have hxl : H2.size < H4.size := Heap.lt_of_get (by rw [gx4]; simp)
    simp only [go_sem, zA, zB, zC, reduceIte, zD, zE, zF, zG, zH, zI, reduceCtorEq, zJ, zK, zL, zM, zN, zO, zP, gx4, v1, v2, w1, w2]
    refine g6_May ho ok (by omega) hE fun H5 x5 => ?_
    have sz5 := x5.1
    have g5 : H5.get H.size = .cells [.int .i64 0, .nils, .nils] .own := by rw [x5.2 _ (by omega), g4]
    have gx5 : H5.get H2.size = .cells [.int .i64 k, v, w] .own := by rw [x5.2 _ hxl, gx4]
    have l5 : H.size < H5.size := by omega
    have x25 : Ext H.size H H5 := x24.trans (x5.le (by omega))
    cases hm : mayX (madeX l) with
    | true =>
      have hX' : makeX l = madeX l := by rw [makeX, if_pos hm]
      simp only [go_sem, zA, zB, zC, reduceIte, zD, zE, zF, zG, zH, zI, reduceCtorEq, zJ, zK, zL, zM, zN, zO, zP, v1, v2, w1, w2, gx5, g5, Heap.get_set_self l5]
      refine hQ _ _ (x25.trans (Ext.set (Nat.le_refl _))) ?_
      rw [hX']
      exact hE.keep fun b p1 p2 => ⟨by rw [Heap.get_set_ne (by omega), x5.2 b p2], by omega⟩
    | false =>
      have hX' : makeX l = .set [⟨98, 98⟩] := by rw [makeX, if_neg (by rw [hm]; decide)]
      simp only [go_sem, zA, zB, zC, reduceIte, zD, zE, zF, zG, zH, zI, reduceCtorEq, zJ, zK, zL, zM, zN, zO, zP]
      refine g_One ho fun H6 c6 x6 R6 => ?_
      have sz6 := x6.1
      obtain ⟨k, v, w, rfl, ⟨v1, v2⟩, w1, w2⟩ := R6.form
      have g6 : H6.get H.size = .cells [.int .i64 0, .nils, .nils] .own := by rw [x6.2 _ (by omega), g5]
      have l6 : H.size < H6.size := by omega
      simp only [go_sem, zA, zB, zC, reduceIte, zD, zE, zF, zG, zH, zI, reduceCtorEq, zJ, zK, zL, zM, zN, zO, zP, v1, v2, w1, w2, g6, Heap.get_set_self l6]
      refine hQ _ _ ((x25.trans (x6.le (by omega))).trans (Ext.set (Nat.le_refl _))) ?_
      rw [hX']
      exact R6.keep fun b p1 p2 => ⟨Heap.get_set_ne (by omega), by omega⟩
end
/- ParseBrackets: brackets around an expression. -/
set_option maxRecDepth 8000
theorem rep_snoc (n : Nat) (c : UInt8) : List.replicate n c ++ [c] = List.replicate (n + 1) c := by
  rw [List.replicate_succ']
section
variable {o : CallF}
theorem br_loop {e7 : AV} {a5 k : Nat} (hk : k ≤ 45) {H : Heap} {Q : Ctl → St → Prop} : ∀ (m i : Nat), i + m = k →
    (∀ x y t, Q (.exit 0) { p := [(5, .ptr a5 0), (6, .int .i64 (k : Int)), (7, e7), (8, .str (List.replicate k 40)), (9, .str (List.replicate k 41)), (10, x), (27, y)], t := t, H := H, d := [], u := .norm }) →
    wpl ⟨bt.get, o⟩ [5, 6, 7, 8, 9, 10] lb_gobolaw13_ParseBrackets_0 { p := [(5, .ptr a5 0), (6, .int .i64 (k : Int)), (7, e7), (8, .str (List.replicate i 40)), (9, .str (List.replicate i 41)), (10, .int .i64 (i : Int))], t := [], H := H, d := [], u := .norm } Q := by
  intro m
  induction m with
  | zero =>
    intro i hi hQ
    have : i = k := by omega
    subst this
    rw [wpl_step]
    have c1 : ¬ (i : Int) < (i : Int) := by omega
    simp only [lb_gobolaw13_ParseBrackets_0, go_sem, zA, zB, zC, reduceIte, zD, zE, zF, zG, zH, zI, reduceCtorEq, zJ, zK, zL, zM, zN, zO, zP, c1]
    exact hQ _ _ _
  | succ m ih =>
    intro i hi hQ
    rw [wpl_step]
    have c1 : (i : Int) < (k : Int) := by omega
    have iw := wsucc (show i ≤ 1000000000 by omega)
    have l1 : i + 1 ≤ 1099511627776 := by omega
    simp only [lb_gobolaw13_ParseBrackets_0, go_sem, zA, zB, zC, reduceIte, zD, zE, zF, zG, zH, zI, reduceCtorEq, zJ, zK, zL, zM, zN, zO, zP, c1, iw, List.length_replicate, l1, rep_snoc]
    exact ih (i + 1) (by omega) hQ
end
theorem br_law {l : List Int} {lv : AV} {lb : Nat} {n : Int} {H : Heap} (hG : GlH H) (hR : Rd H 1 (ic l) l.length lv lb) : wpf ⟨bt.get, ovT⟩ F_gobolaw13_ParseBrackets [lv, .int .i64 n] H fun e _ => e = .ret (.bool true) := by
  rw [fn_gobolaw13_ParseBrackets (ovT_only _ _ _ (by decide))]
  obtain ⟨k, hk, wk⟩ : ∃ k : Nat, k ≤ 45 ∧ IntKind.i64.wrap ((IntKind.u64.wrap n).tmod 46) = (k : Int) := by
    refine ⟨((n % 18446744073709551616) % 46).toNat, by omega, ?_⟩
    have e : IntKind.u64.wrap n = n % 18446744073709551616 := rfl
    rw [e, Int.tmod_eq_emod_of_nonneg (by omega), IntKind.wrap_i64]
    omega
  obtain ⟨ok, hz, hm⟩ := makeX_ok l
  simp only [bd_gobolaw13_ParseBrackets, go_sem, zA, zB, zC, reduceIte, zD, zE, zF, zG, zH, zI, reduceCtorEq, zJ, zK, zL, zM, zN, zO, zP]
  refine g_Make ovT_only hR fun H1 ce x1 R1 => ?_
  generalize makeX l = X at ok hz hm R1
  have hG1 := hG.ext hG.1 x1
  obtain ⟨ek, ev, ew, rfl, ⟨e1, e2⟩, e3, e4⟩ := R1.form
  have x2 : Ext H1.size H1 (H1.push (.cells [.int .i64 ek, ev, ew] .own)) := Ext.push (Nat.le_refl _)
  have g2 : (H1.push (.cells [.int .i64 ek, ev, ew] .own)).get H1.size = .cells [.int .i64 ek, ev, ew] .own := Heap.get_push_self
  have s2 : (H1.push (.cells [.int .i64 ek, ev, ew] .own)).size = H1.size + 1 := Heap.size_push _ _
  simp only [go_sem, zA, zB, zC, reduceIte, zD, zE, zF, zG, zH, zI, reduceCtorEq, zJ, zK, zL, zM, zN, zO, zP, e1, e2, e3, e4, wk]
  have hG2 := hG1.ext hG1.1 x2
  have R2 := R1.keep (Q := fun b => b < H1.size) fun b p1 p2 => ⟨x2.2 b p2, p2⟩
  generalize H1.push (.cells [.int .i64 ek, ev, ew] .own) = H2 at x2 g2 s2 hG2 R2 ⊢
  refine g_PrintRe ovT_only ok (by omega) hm R2 fun H3 x3 => ?_
  have hG3 := hG2.ext hG2.1 x3
  have s3 := x3.1
  simp only [go_sem, zA, zB, zC, reduceIte, zD, zE, zF, zG, zH, zI, reduceCtorEq, zJ, zK, zL, zM, zN, zO, zP]
  refine br_loop hk k 0 (by omega) fun y1 y2 t => ?_
  have pl := print_len X ok
  simp only [go_sem, zA, zB, zC, reduceIte, zD, zE, zF, zG, zH, zI, reduceCtorEq, zJ, zK, zL, zM, zN, zO, zP]
  have hre := re_print ok (by omega)
  refine p_Re ovT_only 160 (by omega) hG3 (by rw [hre]; intro h; cases h) (fun y hy H4 cy x4 R4 => ?_) (fun c a hy _ _ _ => by rw [hre] at hy; cases hy)
  rw [hre] at hy
  injection hy with hy
  subst hy
  have hG4 := hG3.ext hG3.1 x4
  have s4 := x4.1
  obtain ⟨yk, yv, yw, rfl, ⟨y1', y2'⟩, y3', y4'⟩ := R4.form
  have x5 : Ext H4.size H4 (H4.push (.cells [.int .i64 yk, yv, yw] .own)) := Ext.push (Nat.le_refl _)
  have g5 : (H4.push (.cells [.int .i64 yk, yv, yw] .own)).get H4.size = .cells [.int .i64 yk, yv, yw] .own := Heap.get_push_self
  have x25 : Ext H2.size H2 (H4.push (.cells [.int .i64 yk, yv, yw] .own)) := (x3.trans (x4.le s3)).trans (x5.le (by omega))
  have g5e : (H4.push (.cells [.int .i64 yk, yv, yw] .own)).get H1.size = .cells [.int .i64 ek, ev, ew] .own := by rw [x25.2 _ (by omega), g2]
  have hG5 := hG4.ext hG4.1 x5
  have s5 : (H4.push (.cells [.int .i64 yk, yv, yw] .own)).size = H4.size + 1 := Heap.size_push _ _
  simp only [go_sem, zA, zB, zC, reduceIte, zD, zE, zF, zG, zH, zI, reduceCtorEq, zJ, zK, zL, zM, zN, zO, zP, y1', y2', y3', y4', e1, e2, e3, e4, g5e]
  generalize H4.push (.cells [.int .i64 yk, yv, yw] .own) = H5 at x5 g5 x25 g5e hG5 s5 ⊢
  have hsame : sameX X X = true := (sameX_iff X X).2 rfl
  refine g6_Same ovT_only X X _ _ _ _ _ _ (R4.keep (Q := fun _ => True) fun b p1 p2 => ⟨x5.2 b p2, trivial⟩) (R2.keep (Q := fun _ => True) fun b p1 p2 => ⟨x25.2 b p2, trivial⟩) fun H6 x6 => ?_
  have hG6 := hG5.ext hG5.1 x6
  have l1 : k + 1 ≤ 1099511627776 := by omega
  have l2 : k + 1 + k ≤ 1099511627776 := by omega
  simp only [go_sem, zA, zB, zC, reduceIte, zD, zE, zF, zG, zH, zI, reduceCtorEq, zJ, zK, zL, zM, zN, zO, zP, hsame, List.length_append, List.length_replicate, List.length_cons, List.length_nil, Nat.zero_add, l1, l2]
  have hs : List.replicate k 40 ++ [97] ++ List.replicate k 41 = brT k := by simp [brT]
  have hlt : (brT k).length ≤ 24990 := by simp [brT]; omega
  rw [hs]
  rcases br_spec hk with ⟨h40, hr⟩ | ⟨h40, hr⟩
  · refine p_Re ovT_only 160 hlt hG6 (by rw [hr]; intro h; cases h) (fun y hy H7 cy x7 R7 => ?_) (fun c a hy _ _ _ => by rw [hr] at hy; cases hy)
    rw [hr] at hy
    injection hy with hy
    subst hy
    have hG7 := hG6.ext hG6.1 x7
    obtain ⟨zk, zv, zw, rfl, ⟨z1, z2⟩, z3, z4⟩ := R7.form
    have x8 : Ext H7.size H7 (H7.push (.cells [.int .i64 zk, zv, zw] .own)) := Ext.push (Nat.le_refl _)
    have g8 : (H7.push (.cells [.int .i64 zk, zv, zw] .own)).get H7.size = .cells [.int .i64 zk, zv, zw] .own := Heap.get_push_self
    have hG8 := hG7.ext hG7.1 x8
    have s8 : (H7.push (.cells [.int .i64 zk, zv, zw] .own)).size = H7.size + 1 := Heap.size_push _ _
    have c1 : ¬ (40 : Int) < (k : Int) := by omega
    simp only [go_sem, zA, zB, zC, reduceIte, zD, zE, zF, zG, zH, zI, reduceCtorEq, zJ, zK, zL, zM, zN, zO, zP, z1, z2, z3, z4, c1, GT.gt]
    generalize H7.push (.cells [.int .i64 zk, zv, zw] .own) = H8 at x8 g8 hG8 s8 ⊢
    refine t_told hG8 ?_
    simp only [go_sem, zA, zB, zC, reduceIte, zD, zE, zF, zG, zH, zI, reduceCtorEq, zJ, zK, zL, zM, zN, zO, zP, g8, z1, z2, z3, z4]
    refine g_One ovT_only fun H9 c9 x9 R9 => ?_
    have g9 : H9.get H7.size = .cells [.int .i64 zk, zv, zw] .own := by rw [x9.2 _ (by omega), g8]
    obtain ⟨qk, qv, qw, rfl, ⟨q1, q2⟩, q3, q4⟩ := R9.form
    simp only [go_sem, zA, zB, zC, reduceIte, zD, zE, zF, zG, zH, zI, reduceCtorEq, zJ, zK, zL, zM, zN, zO, zP, g9, z1, z2, z3, z4, q1, q2, q3, q4]
    refine g6_Same ovT_only _ _ _ _ _ _ _ _ (R7.keep (Q := fun _ => True) fun b p1 p2 => ⟨by rw [x9.2 b (by omega), x8.2 b p2], trivial⟩) R9 fun H10 x10 => ?_
    have g10 : H10.get H7.size = .cells [.int .i64 zk, zv, zw] .own := by rw [x10.2 _ (by have := x9.1; omega), g9]
    have hsame2 : sameX (.set [⟨97, 97⟩]) (.set [⟨97, 97⟩]) = true := (sameX_iff _ _).2 rfl
    simp only [go_sem, zA, zB, zC, reduceIte, zD, zE, zF, zG, zH, zI, reduceCtorEq, zJ, zK, zL, zM, zN, zO, zP, hsame2, g10]
  · refine p_Re ovT_only 160 hlt hG6 (by rw [hr]; intro h; cases h) (fun y hy _ _ _ _ => by rw [hr] at hy; cases hy) (fun c a hy _ H7 x7 => ?_)
    rw [hr] at hy
    injection hy with hy
    injection hy with hy1 hy2
    subst hy1; subst hy2
    have hG7 := hG6.ext hG6.1 x7
    have x8 : Ext H7.size H7 (H7.push (.cells [.int .i64 0, .nils, .nils] .own)) := Ext.push (Nat.le_refl _)
    have hG8 := hG7.ext hG7.1 x8
    have c1 : (40 : Int) < (k : Int) := by omega
    simp only [go_sem, zA, zB, zC, reduceIte, zD, zE, zF, zG, zH, zI, reduceCtorEq, zJ, zK, zL, zM, zN, zO, zP, c1, GT.gt]
    refine t_told hG8 ?_
    simp only [go_sem, zA, zB, zC, reduceIte, zD, zE, zF, zG, zH, zI, reduceCtorEq, zJ, zK, zL, zM, zN, zO, zP]
end Go.Ev
