/- Several texts of this claim, joined. -/
import Derived.Test.YtifhmogcdgfojaaGreatDoorT34
import Derived.Test.YtifhmogcdgfojaaGreatDoorT31
import Derived.Test.YtifhmogcdgfojaaGreatDoorT25
set_option linter.unusedSimpArgs false
set_option linter.unusedVariables false

/- Package print: Set of small sets, re, Re. -/
namespace Go.Ev
open Go
open Go.Ev renaming seqK_normal → zA, blockK_normal → zB, blockK_exit → zC
open Nat renaming reduceEqDiff → zD, reduceAdd → zE, reduceSub → zF, reduceMul → zG, reduceLeDiff → zH, reduceLT → zI
open Int renaming reduceToNat → zJ, reduceLT → zK, reduceLE → zL, reduceEq → zM, reduceAdd → zN, reduceSub → zO, reduceMul → zP
set_option maxRecDepth 8000
theorem setP_len {l : List R} (ok : okS l) : (setP l).length ≤ 5 := by
  obtain ⟨c, hc, rfl | rfl⟩ := ok
  · simp [setP]
  · rw [setP, if_neg (show ¬ c = c + 1 by omega)]; simp
theorem inB_len (b : Bool) (s : List UInt8) : (inB b s).length ≤ s.length + 2 := by
  cases b <;> simp [inB]
theorem print_len : ∀ x : Rx, okX x → (printX x).length ≤ 5 * szX x
  | .emp, _ => by simp [printX, szX]
  | .set l, h => by have := setP_len h; simp only [printX, szX]; omega
  | .seq a b, h => by
    have h1 := print_len a h.1
    have h2 := print_len b h.2
    have h3 := inB_len (isAlt a) (printX a)
    have h4 := inB_len (isAlt b || isSeq b) (printX b)
    simp only [printX, szX, List.length_append]; omega
  | .alt a b, h => by
    have h1 := print_len a h.1
    have h2 := print_len b h.2
    have h4 := inB_len (isAlt b) (printX b)
    simp only [printX, szX, List.length_append, List.length_cons]; omega
  | .star a, h => by
    have h1 := print_len a h
    have h3 := inB_len (isSeq a || isAlt a) (printX a)
    simp only [printX, szX, List.length_append, List.length_cons, List.length_nil]; omega
theorem isAlt_kind (x : Rx) : isAlt x = decide (kindX x = 4) := by cases x <;> rfl
theorem isSeq_kind (x : Rx) : isSeq x = decide (kindX x = 3) := by cases x <;> rfl
section
variable {o : CallF} (ho : OvOnly o)
include ho
theorem pr_Set {l : List R} (ok : okS l) {v : AV} {b : Nat} {H : Heap} (hR : Rd H 2 (rcells l) l.length v b) {Q : End → Heap → Prop} (h : ∀ H', Ext H.size H H' → Q (.ret (.str (setP l))) H') : wpf ⟨bt.get, o⟩ F_print_Set [v] H Q := by
  rw [fn_print_Set (ho _ _ _ (by decide))]
  obtain ⟨c, hc, rfl | rfl⟩ := ok
  · obtain ⟨⟨u, g1⟩, e1, _⟩ := hR.pos (by simp)
    have g1 : H.get b = .cells [.int .i32 c, .int .i32 c] u := g1
    have e0 : elA 2 v (.int .i64 0) = some (.ptr b 0) := e1 0 (by simp)
    have l1 : lenI v = some (1 : Int) := hR.len
    simp only [bd_print_Set, go_sem, zA, zB, zC, reduceIte, zD, zE, zF, zG, zH, zI, reduceCtorEq, zJ, zK, zL, zM, zN, zO, zP, l1, e0, g1]
    refine pr_one ho ⟨hc.1, by omega⟩ ?_
    simp only [go_sem, zA, zB, zC, reduceIte, zD, zE, zF, zG, zH, zI, reduceCtorEq, zJ, zK, zL, zM, zN, zO, zP]
    have := h H Ext.refl
    rw [setP, if_pos rfl] at this
    exact this
  · obtain ⟨⟨u, g1⟩, e1, _⟩ := hR.pos (by simp)
    have g1 : H.get b = .cells [.int .i32 c, .int .i32 (c + 1)] u := g1
    have e0 : elA 2 v (.int .i64 0) = some (.ptr b 0) := e1 0 (by simp)
    have l1 : lenI v = some (1 : Int) := hR.len
    have hne : ¬ c = c + 1 := by omega
    have k0 : (0 : Int) < 1 := by omega
    have k1 : ¬ (1 : Int) < 1 := by omega
    have k2 : (1 : Int) < 2 := by omega
    have hw0 : IntKind.i64.wrap 1 = 1 := wi64 (by omega) (by omega)
    simp only [bd_print_Set, go_sem, zA, zB, zC, reduceIte, zD, zE, zF, zG, zH, zI, reduceCtorEq, zJ, zK, zL, zM, zN, zO, zP, l1, e0, g1, hne]
    rw [wpl_step]
    simp only [lb_print_Set_0, go_sem, zA, zB, zC, reduceIte, zD, zE, zF, zG, zH, zI, reduceCtorEq, zJ, zK, zL, zM, zN, zO, zP, k0, e0, g1]
    refine pr_one ho ⟨hc.1, by omega⟩ ?_
    simp only [go_sem, zA, zB, zC, reduceIte, zD, zE, zF, zG, zH, zI, reduceCtorEq, zJ, zK, zL, zM, zN, zO, zP]
    refine ru_Count (b := H.size + 1) ho hc (Rd.slice (u := .own) (by exact Heap.get_push_eq (by rw [Heap.size_push])) rfl) fun H2 x2 => ?_
    have hx : H2.get H.size = .cells [.int .i32 c, .int .i32 (c + 1)] .own := by
      rw [x2.2 _ (by rw [Heap.size_push, Heap.size_push]; omega), Heap.get_push_lt (by rw [Heap.size_push]; omega), Heap.get_push_self]
    simp only [go_sem, zA, zB, zC, reduceIte, zD, zE, zF, zG, zH, zI, reduceCtorEq, zJ, zK, zL, zM, zN, zO, zP, k2, hx]
    refine pr_one ho ⟨by omega, by omega⟩ ?_
    simp only [go_sem, zA, zB, zC, reduceIte, zD, zE, zF, zG, zH, zI, reduceCtorEq, zJ, zK, zL, zM, zN, zO, zP, hw0]
    rw [wpl_step]
    simp only [lb_print_Set_0, go_sem, zA, zB, zC, reduceIte, zD, zE, zF, zG, zH, zI, reduceCtorEq, zJ, zK, zL, zM, zN, zO, zP, k1]
    have := h H2 (((Ext.push (Nat.le_refl _)).trans (Ext.push (by rw [Heap.size_push]; omega))).trans (x2.le (by rw [Heap.size_push, Heap.size_push]; omega)))
    rw [setP, if_neg hne] at this
    exact this
/-- A part, in brackets if it must be. -/
theorem pr_part {x k : Rx} {i : Nat} (hk : (kidsX x)[i]? = some k) {P : Nat → Prop} {cx : List AV} {b : Nat} {H : Heap} (hx : ReV P H x cx) (hb : H.get b = .cells cx .own) {ks : List Int} {kv : AV} {kb : Nat} (hks : Rd H 1 (ic ks) ks.length kv kb) (hl : ks.length ≤ 1000) (hlen : (printX k).length ≤ 1000000)
    (IH : ∀ (P : Nat → Prop) (cx : List AV) (H : Heap) (Q : End → Heap → Prop), ReV P H k cx → (∀ H', Ext H.size H H' → Q (.ret (.str (printX k))) H') → wpf ⟨bt.get, o⟩ F_print_re [.agg cx] H Q)
    {Q : End → Heap → Prop} (h : ∀ H', Ext H.size H H' → Q (.ret (.str (inB (decide (kindX k ∈ ks)) (printX k)))) H') : wpf ⟨bt.get, o⟩ F_print_re_1 [.int .i64 i, kv, .ptr b 0] H Q := by
  rw [fn_print_re_1 (ho _ _ _ (by decide))]
  obtain ⟨vs, bs, vl, bl, ck, e1, s1, s2, l1, l2⟩ := hx.split
  subst e1
  obtain ⟨r1, r2⟩ := l2 i k hk
  have hi : i < (kidsX x).length := (List.getElem?_eq_some_iff.1 hk).1
  obtain ⟨⟨u, ga⟩, ela, _⟩ := l1.pos (by omega)
  have ea := ela i hi
  have hkc : ck[i * 3]? = some (.int .i64 (kindX k)) := by
    obtain ⟨vs', _, vl', _, _, e2, _⟩ := r1.split
    have : (List.take 3 (List.drop (i * 3) ck))[0]? = some (.int .i64 (kindX k)) := by rw [e2]; rfl
    simpa using this
  simp only [bd_print_re_1, go_sem, zA, zB, zC, reduceIte, zD, zE, zF, zG, zH, zI, reduceCtorEq, zJ, zK, zL, zM, zN, zO, zP, hb, ea, ga, r2]
  refine IH P _ H _ r1 fun H1 x1 => ?_
  have hb1 : H1.get b = .cells [.int .i64 (kindX x), vs, vl] .own := by rw [x1.2 _ (Heap.lt_of_get (by rw [hb]; simp)), hb]
  have ga1 : H1.get bl = .cells ck u := by rw [x1.2 _ (Heap.lt_of_get (by rw [ga]; simp)), ga]
  simp only [go_sem, zA, zB, zC, reduceIte, zD, zE, zF, zG, zH, zI, reduceCtorEq, zJ, zK, zL, zM, zN, zO, zP, hb, hb1, ea, ga, ga1, Nat.add_zero, hkc]
  refine sl_Contains ho (by omega) (hks.ext x1) ?_
  simp only [go_sem, zA, zB, zC, reduceIte, zD, zE, zF, zG, zH, zI, reduceCtorEq, zJ, zK, zL, zM, zN, zO, zP]
  refine pr_within ho hlen ?_
  simp only [go_sem, zA, zB, zC, reduceIte, zD, zE, zF, zG, zH, zI, reduceCtorEq, zJ, zK, zL, zM, zN, zO, zP]
  exact h H1 x1
theorem pr_re : ∀ (x : Rx), okX x → szX x ≤ 100 → ∀ (P : Nat → Prop) (cx : List AV) (H : Heap) (Q : End → Heap → Prop), ReV P H x cx → (∀ H', Ext H.size H H' → Q (.ret (.str (printX x))) H') → wpf ⟨bt.get, o⟩ F_print_re [.agg cx] H Q := by
  intro x
  induction x with
  | emp =>
    intro _ _ P cx H Q hx h
    rw [fn_print_re (ho _ _ _ (by decide))]
    obtain ⟨vs, bs, vl, bl, ck, e1, s1, s2, l1, l2⟩ := hx.split
    subst e1
    simp only [bd_print_re, go_sem, zA, zB, zC, reduceIte, zD, zE, zF, zG, zH, zI, reduceCtorEq, zJ, zK, zL, zM, zN, zO, zP, s1.one.1, s1.one.2, l1.one.1, l1.one.2, kindX]
    exact h _ (Ext.push (Nat.le_refl _))
  | set l =>
    intro ok _ P cx H Q hx h
    rw [fn_print_re (ho _ _ _ (by decide))]
    obtain ⟨vs, bs, vl, bl, ck, e1, s1, s2, l1, l2⟩ := hx.split
    subst e1
    have x1 : Ext H.size H (H.push (.cells [.int .i64 (kindX (.set l)), vs, vl] .own)) := Ext.push (Nat.le_refl _)
    have g1 : (H.push (.cells [.int .i64 (kindX (.set l)), vs, vl] .own)).get H.size = .cells [.int .i64 (kindX (.set l)), vs, vl] .own := Heap.get_push_self
    simp only [bd_print_re, go_sem, zA, zB, zC, reduceIte, zD, zE, zF, zG, zH, zI, reduceCtorEq, zJ, zK, zL, zM, zN, zO, zP, s1.one.1, s1.one.2, l1.one.1, l1.one.2, kindX] at g1 x1 ⊢
    refine pr_Set ho ok (s1.ext x1) fun H2 x2 => ?_
    simp only [go_sem, zA, zB, zC, reduceIte, zD, zE, zF, zG, zH, zI, reduceCtorEq, zJ, zK, zL, zM, zN, zO, zP]
    exact h H2 (x1.trans (x2.le x1.1))
  | seq a c iha ihc =>
    intro ok hz P cx H Q hx h
    rw [fn_print_re (ho _ _ _ (by decide))]
    obtain ⟨vs, bs, vl, bl, ck, e1, s1, s2, l1, l2⟩ := hx.split
    subst e1
    simp only [szX] at hz
    have x1 : Ext H.size H (H.push (.cells [.int .i64 3, vs, vl] .own)) := Ext.push (Nat.le_refl _)
    have g1 : (H.push (.cells [.int .i64 3, vs, vl] .own)).get H.size = .cells [.int .i64 3, vs, vl] .own := Heap.get_push_self
    have z1 : (H.push (.cells [.int .i64 3, vs, vl] .own)).size = H.size + 1 := Heap.size_push _ _
    simp only [bd_print_re, go_sem, zA, zB, zC, reduceIte, zD, zE, zF, zG, zH, zI, reduceCtorEq, zJ, zK, zL, zM, zN, zO, zP, s1.one.1, s1.one.2, l1.one.1, l1.one.2, kindX]
    have hx1 : ReV (fun _ => True) (H.push (.cells [.int .i64 3, vs, vl] .own)) (.seq a c) [.int .i64 3, vs, vl] := hx.keep fun b _ p => ⟨x1.2 b p, trivial⟩
    generalize H.push (.cells [.int .i64 3, vs, vl] .own) = H1 at x1 g1 z1 hx1 ⊢
    have pa := print_len a ok.1
    have pc := print_len c ok.2
    have y2 : Ext H1.size H1 (H1.push (.cells [.int .i64 4] .own)) := Ext.push (Nat.le_refl _)
    refine pr_part (b := H.size) (x := .seq a c) (k := a) (i := 0) ho rfl (hx1.keep (Q := fun _ => True) fun b _ p => ⟨y2.2 b p, trivial⟩) (by rw [y2.2 _ (by omega), g1]) (ks := [4]) (Rd.slice (b := H.size + 1) (c := 1) (Heap.get_push_eq z1.symm) rfl) (by simp) (by omega) (iha ok.1 (by omega)) fun H2 x2 => ?_
    have w2 : Ext H1.size H1 H2 := y2.trans (x2.le y2.1)
    have y3 : Ext H2.size H2 (H2.push (.cells [.int .i64 4, .int .i64 3] .own)) := Ext.push (Nat.le_refl _)
    have w3 : Ext H1.size H1 (H2.push (.cells [.int .i64 4, .int .i64 3] .own)) := w2.trans (y3.le w2.1)
    simp only [go_sem, zA, zB, zC, reduceIte, zD, zE, zF, zG, zH, zI, reduceCtorEq, zJ, zK, zL, zM, zN, zO, zP]
    refine pr_part (b := H.size) (x := .seq a c) (k := c) (i := 1) ho rfl (hx1.keep (Q := fun _ => True) fun b _ p => ⟨w3.2 b p, trivial⟩) (by rw [w3.2 _ (by omega), g1]) (ks := [4, 3]) (Rd.slice (c := 2) Heap.get_push_self rfl) (by simp) (by omega) (ihc ok.2 (by omega)) fun H3 x3 => ?_
    have n1 := inB_len (decide (kindX a ∈ [(4 : Int)])) (printX a)
    have n2 := inB_len (decide (kindX c ∈ [(4 : Int), 3])) (printX c)
    have c1 : (inB (decide (kindX a ∈ [(4 : Int)])) (printX a)).length + (inB (decide (kindX c ∈ [(4 : Int), 3])) (printX c)).length ≤ 1099511627776 := by omega
    simp only [go_sem, zA, zB, zC, reduceIte, zD, zE, zF, zG, zH, zI, reduceCtorEq, zJ, zK, zL, zM, zN, zO, zP, c1]
    have := h H3 (x1.trans ((w3.trans (x3.le w3.1)).le x1.1))
    rw [printX, isAlt_kind, isAlt_kind, isSeq_kind, show (decide (kindX c = 4) || decide (kindX c = 3)) = decide (kindX c ∈ [(4 : Int), 3]) by simp, show decide (kindX a = 4) = decide (kindX a ∈ [(4 : Int)]) by simp] at this
    exact this
  | alt a c iha ihc =>
    intro ok hz P cx H Q hx h
    rw [fn_print_re (ho _ _ _ (by decide))]
    obtain ⟨vs, bs, vl, bl, ck, e1, s1, s2, l1, l2⟩ := hx.split
    subst e1
    simp only [szX] at hz
    have x1 : Ext H.size H (H.push (.cells [.int .i64 4, vs, vl] .own)) := Ext.push (Nat.le_refl _)
    have g1 : (H.push (.cells [.int .i64 4, vs, vl] .own)).get H.size = .cells [.int .i64 4, vs, vl] .own := Heap.get_push_self
    have z1 : (H.push (.cells [.int .i64 4, vs, vl] .own)).size = H.size + 1 := Heap.size_push _ _
    simp only [bd_print_re, go_sem, zA, zB, zC, reduceIte, zD, zE, zF, zG, zH, zI, reduceCtorEq, zJ, zK, zL, zM, zN, zO, zP, s1.one.1, s1.one.2, l1.one.1, l1.one.2, kindX]
    have hx1 : ReV (fun _ => True) (H.push (.cells [.int .i64 4, vs, vl] .own)) (.alt a c) [.int .i64 4, vs, vl] := hx.keep fun b _ p => ⟨x1.2 b p, trivial⟩
    generalize H.push (.cells [.int .i64 4, vs, vl] .own) = H1 at x1 g1 z1 hx1 ⊢
    have pa := print_len a ok.1
    have pc := print_len c ok.2
    refine pr_part (b := H.size) (x := .alt a c) (k := a) (i := 0) ho rfl hx1 g1 (ks := []) (Rd.nil (b := 0)) (by simp) (by omega) (iha ok.1 (by omega)) fun H2 x2 => ?_
    have c0 : (inB (decide (kindX a ∈ ([] : List Int))) (printX a)).length + 1 ≤ 1099511627776 := by
      have := inB_len (decide (kindX a ∈ ([] : List Int))) (printX a); omega
    have y3 : Ext H2.size H2 (H2.push (.cells [.int .i64 4] .own)) := Ext.push (Nat.le_refl _)
    have w3 : Ext H1.size H1 (H2.push (.cells [.int .i64 4] .own)) := x2.trans (y3.le x2.1)
    simp only [go_sem, zA, zB, zC, reduceIte, zD, zE, zF, zG, zH, zI, reduceCtorEq, zJ, zK, zL, zM, zN, zO, zP, c0]
    refine pr_part (b := H.size) (x := .alt a c) (k := c) (i := 1) ho rfl (hx1.keep (Q := fun _ => True) fun b _ p => ⟨w3.2 b p, trivial⟩) (by rw [w3.2 _ (by omega), g1]) (ks := [4]) (Rd.slice (c := 1) Heap.get_push_self rfl) (by simp) (by omega) (ihc ok.2 (by omega)) fun H3 x3 => ?_
    have n1 := inB_len (decide (kindX a ∈ ([] : List Int))) (printX a)
    have n2 := inB_len (decide (kindX c ∈ [(4 : Int)])) (printX c)
    have c1 : (inB (decide (kindX a ∈ ([] : List Int))) (printX a) ++ [124]).length + (inB (decide (kindX c ∈ [(4 : Int)])) (printX c)).length ≤ 1099511627776 := by
      rw [List.length_append]; simp only [List.length_cons, List.length_nil]; omega
    simp only [go_sem, zA, zB, zC, reduceIte, zD, zE, zF, zG, zH, zI, reduceCtorEq, zJ, zK, zL, zM, zN, zO, zP, c1]
    have := h H3 (x1.trans ((w3.trans (x3.le w3.1)).le x1.1))
    rw [printX, isAlt_kind, show decide (kindX c = 4) = decide (kindX c ∈ [(4 : Int)]) by simp, show printX a = inB (decide (kindX a ∈ ([] : List Int))) (printX a) by simp [inB]] at this
    simpa using this
  | star a iha =>
    intro ok hz P cx H Q hx h
    rw [fn_print_re (ho _ _ _ (by decide))]
    obtain ⟨vs, bs, vl, bl, ck, e1, s1, s2, l1, l2⟩ := hx.split
    subst e1
    simp only [szX] at hz
    have x1 : Ext H.size H (H.push (.cells [.int .i64 5, vs, vl] .own)) := Ext.push (Nat.le_refl _)
    have g1 : (H.push (.cells [.int .i64 5, vs, vl] .own)).get H.size = .cells [.int .i64 5, vs, vl] .own := Heap.get_push_self
    have z1 : (H.push (.cells [.int .i64 5, vs, vl] .own)).size = H.size + 1 := Heap.size_push _ _
    simp only [bd_print_re, go_sem, zA, zB, zC, reduceIte, zD, zE, zF, zG, zH, zI, reduceCtorEq, zJ, zK, zL, zM, zN, zO, zP, s1.one.1, s1.one.2, l1.one.1, l1.one.2, kindX]
    have hx1 : ReV (fun _ => True) (H.push (.cells [.int .i64 5, vs, vl] .own)) (.star a) [.int .i64 5, vs, vl] := hx.keep fun b _ p => ⟨x1.2 b p, trivial⟩
    generalize H.push (.cells [.int .i64 5, vs, vl] .own) = H1 at x1 g1 z1 hx1 ⊢
    have pa := print_len a ok
    have y2 : Ext H1.size H1 (H1.push (.cells [.int .i64 3, .int .i64 4] .own)) := Ext.push (Nat.le_refl _)
    refine pr_part (b := H.size) (x := .star a) (k := a) (i := 0) ho rfl (hx1.keep (Q := fun _ => True) fun b _ p => ⟨y2.2 b p, trivial⟩) (by rw [y2.2 _ (by omega), g1]) (ks := [3, 4]) (Rd.slice (b := H.size + 1) (c := 2) (Heap.get_push_eq z1.symm) rfl) (by simp) (by omega) (iha ok (by omega)) fun H2 x2 => ?_
    have w2 : Ext H1.size H1 H2 := y2.trans (x2.le y2.1)
    have n1 := inB_len (decide (kindX a ∈ [(3 : Int), 4])) (printX a)
    have c1 : (inB (decide (kindX a ∈ [(3 : Int), 4])) (printX a)).length + 1 ≤ 1099511627776 := by omega
    simp only [go_sem, zA, zB, zC, reduceIte, zD, zE, zF, zG, zH, zI, reduceCtorEq, zJ, zK, zL, zM, zN, zO, zP, c1]
    have := h H2 (x1.trans (w2.le x1.1))
    rw [printX, isAlt_kind, isSeq_kind, show (decide (kindX a = 3) || decide (kindX a = 4)) = decide (kindX a ∈ [(3 : Int), 4]) by simp] at this
    exact this
theorem pr_Re {x : Rx} (ok : okX x) (hz : szX x ≤ 40) (hm : mayX x = true) {P : Nat → Prop} {cx : List AV} {H : Heap} {Q : End → Heap → Prop} (hx : ReV P H x cx) (h : ∀ H', Ext H.size H H' → Q (.ret (.str (printX x))) H') : wpf ⟨bt.get, o⟩ F_print_Re [.agg cx] H Q := by
  rw [fn_print_Re (ho _ _ _ (by decide))]
  obtain ⟨k, v, w, e1, ⟨a1, a2⟩, b1, b2⟩ := hx.form
  subst e1
  have x1 : Ext H.size H (H.push (.cells [.int .i64 k, v, w] .own)) := Ext.push (Nat.le_refl _)
  have g1 : (H.push (.cells [.int .i64 k, v, w] .own)).get H.size = .cells [.int .i64 k, v, w] .own := Heap.get_push_self
  have hx1 : ReV (fun _ => True) (H.push (.cells [.int .i64 k, v, w] .own)) x [.int .i64 k, v, w] := hx.keep fun b _ p => ⟨x1.2 b p, trivial⟩
  simp only [bd_print_Re, go_sem, zA, zB, zC, reduceIte, zD, zE, zF, zG, zH, zI, reduceCtorEq, zJ, zK, zL, zM, zN, zO, zP, a1, a2, b1, b2]
  generalize H.push (.cells [.int .i64 k, v, w] .own) = H1 at x1 g1 hx1 ⊢
  refine rx_May ho ok hm hx1 fun H2 x2 => ?_
  have g2 : H2.get H.size = .cells [.int .i64 k, v, w] .own := by rw [x2.2 _ (Heap.lt_of_get (by rw [g1]; simp)), g1]
  simp only [go_sem, zA, zB, zC, reduceIte, zD, zE, zF, zG, zH, zI, reduceCtorEq, zJ, zK, zL, zM, zN, zO, zP, g2]
  refine pr_re ho x ok (by omega) (fun _ => True) _ H2 _ (hx1.keep fun b _ p => ⟨x2.2 b p, trivial⟩) fun H3 x3 => ?_
  simp only [go_sem, zA, zB, zC, reduceIte, zD, zE, zF, zG, zH, zI, reduceCtorEq, zJ, zK, zL, zM, zN, zO, zP]
  exact h H3 (x1.trans ((x2.trans (x3.le x2.1)).le x1.1))
end
/- slices.Equal over ranges: told in full. -/
set_option maxRecDepth 8000
section
variable {o : CallF} (ho : OvOnly o)
include ho
omit ho in
theorem eqd_loop {a b : List R} {va vb : AV} {ba bb : Nat} (hla : a.length ≤ 1000000) (hlen : a.length = b.length) {H : Heap} (hA : Rd H 2 (rcells a) a.length va ba) (hB : Rd H 2 (rcells b) b.length vb bb) {Q : Ctl → St → Prop} : ∀ (ra rb : List R) (i : Nat), a.drop i = ra → b.drop i = rb → i ≤ a.length →
    (ra = rb → ∀ σ : St, σ.H = H → σ.d = [] → Q (.exit 0) σ) → (ra ≠ rb → ∀ σ : St, σ.H = H → σ.d = [] → lk 4 σ.p = some (.bool false) → Q .ret σ) →
    wpl ⟨bt.get, o⟩ [0, 1, 12, 13] lb_slices_Equal_api_Range_api_Range_0 { p := [(0, va), (1, vb), (12, .int .i64 (a.length : Int)), (13, .int .i64 (i : Int))], t := [], H := H, d := [], u := .norm } Q
  | [], rb, i, h1, h2, hi, hT, hF => by
    have : a.length ≤ i := List.drop_eq_nil_iff.1 h1
    have hb : rb = [] := by rw [← h2]; exact List.drop_eq_nil_iff.2 (by omega)
    rw [wpl_step]
    have c1 : ¬((i : Int) < (a.length : Int)) := by omega
    simp only [lb_slices_Equal_api_Range_api_Range_0, go_sem, zA, zB, zC, reduceIte, zD, zE, zF, zG, zH, zI, reduceCtorEq, zJ, zK, zL, zM, zN, zO, zP, c1]
    exact hT hb.symm _ rfl rfl
  | x :: ra, [], i, h1, h2, hi, hT, hF => by
    obtain ⟨_, hia, _⟩ := list_at h1
    have : b.length ≤ i := List.drop_eq_nil_iff.1 h2
    omega
  | x :: ra, y :: rb, i, h1, h2, hi, hT, hF => by
    obtain ⟨a0, a1, a2⟩ := list_at h1
    obtain ⟨b0, b1, b2⟩ := list_at h2
    obtain ⟨⟨u, ga⟩, ela, _⟩ := hA.pos (by omega)
    obtain ⟨⟨u', gb⟩, elb, _⟩ := hB.pos (by omega)
    have ea := ela i a1
    have eb := elb i b1
    obtain ⟨p1, p2⟩ := rcells_at a0
    obtain ⟨q1, q2⟩ := rcells_at b0
    rw [wpl_step]
    have c1 : ((i : Int) < (a.length : Int)) := by omega
    have iw := wsucc (show i ≤ 1000000000 by omega)
    by_cases e1 : x.lo = y.lo
    · by_cases e2 : x.hi = y.hi
      · have exy : x = y := by cases x; cases y; simp_all
        subst exy
        simp only [lb_slices_Equal_api_Range_api_Range_0, go_sem, zA, zB, zC, reduceIte, zD, zE, zF, zG, zH, zI, reduceCtorEq, zJ, zK, zL, zM, zN, zO, zP, c1, ea, eb, ga, gb, p1, p2, q1, q2, R.cells, eqCells, eqCell, iw]
        exact eqd_loop hla hlen hA hB ra rb (i + 1) a2 b2 (by omega) (fun h => hT (by rw [h])) (fun h => hF (by simpa using h))
      · simp only [lb_slices_Equal_api_Range_api_Range_0, go_sem, zA, zB, zC, reduceIte, zD, zE, zF, zG, zH, zI, reduceCtorEq, zJ, zK, zL, zM, zN, zO, zP, c1, ea, eb, ga, gb, p1, p2, q1, q2, R.cells, eqCells, eqCell, e1, e2]
        exact hF (by intro h; injection h with h _; rw [h] at e2; exact e2 rfl) _ rfl rfl rfl
    · simp only [lb_slices_Equal_api_Range_api_Range_0, go_sem, zA, zB, zC, reduceIte, zD, zE, zF, zG, zH, zI, reduceCtorEq, zJ, zK, zL, zM, zN, zO, zP, c1, ea, eb, ga, gb, p1, p2, q1, q2, R.cells, eqCells, eqCell, e1]
      exact hF (by intro h; injection h with h _; rw [h] at e1; exact e1 rfl) _ rfl rfl rfl
theorem sl_EqualD {a b : List R} {va vb : AV} {ba bb : Nat} (hla : a.length ≤ 1000000) (hlb : b.length ≤ 1000000) {H : Heap} (hA : Rd H 2 (rcells a) a.length va ba) (hB : Rd H 2 (rcells b) b.length vb bb) {Q : End → Heap → Prop} (h : Q (.ret (.bool (decide (a = b)))) H) : wpf ⟨bt.get, o⟩ F_slices_Equal_api_Range_api_Range [va, vb] H Q := by
  rw [fn_slices_Equal_api_Range_api_Range (ho _ _ _ (by decide))]
  simp only [bd_slices_Equal_api_Range_api_Range, go_sem, zA, zB, zC, reduceIte, zD, zE, zF, zG, zH, zI, reduceCtorEq, zJ, zK, zL, zM, zN, zO, zP, hA.len, hB.len]
  by_cases hl : a.length = b.length
  · have hl' : (a.length : Int) = (b.length : Int) := by omega
    simp only [go_sem, zA, zB, zC, reduceIte, zD, zE, zF, zG, zH, zI, reduceCtorEq, zJ, zK, zL, zM, zN, zO, zP, hl', hA.len]
    rw [← hl]
    refine eqd_loop hla hl hA hB a b 0 rfl rfl (Nat.zero_le _) (fun e σ k1 k2 => ?_) (fun e σ k1 k2 k3 => ?_)
    · simp only [go_sem, zA, zB, zC, reduceIte, zD, zE, zF, zG, zH, zI, reduceCtorEq, zJ, zK, zL, zM, zN, zO, zP, k1, k2, lk_up]
      rw [e] at h
      simpa using h
    · simp only [go_sem, zA, zB, zC, reduceIte, zD, zE, zF, zG, zH, zI, reduceCtorEq, zJ, zK, zL, zM, zN, zO, zP, k1, k2, k3]
      simpa [e] using h
  · have hl' : ¬ (a.length : Int) = (b.length : Int) := by omega
    have hne : ¬ a = b := fun e => hl (by rw [e])
    simp only [go_sem, zA, zB, zC, reduceIte, zD, zE, zF, zG, zH, zI, reduceCtorEq, zJ, zK, zL, zM, zN, zO, zP, hl']
    simpa [hne] using h
end
/- Package regex: Same. -/
set_option maxRecDepth 8000
section
variable {o : CallF} (ho : OvOnly o)
include ho
omit ho in
/-- The parts, one by one. -/
theorem ef_loop {P P' : Nat → Prop} {ka kb : List Rx} {va vb : AV} {ba bb : Nat} {ca cb : List AV} (hlen : ka.length = kb.length) (hl3 : ka.length ≤ 1000)
    (IH : ∀ k ∈ ka, ∀ (y : Rx) (P P' : Nat → Prop) (cx cy : List AV) (H : Heap) (Q : End → Heap → Prop), ReV P H k cx → ReV P' H y cy → (∀ H', Ext H.size H H' → Q (.ret (.bool (sameX k y))) H') → wpf ⟨bt.get, o⟩ F_regex_Same [.agg cx, .agg cy] H Q)
    {Q : Ctl → St → Prop} : ∀ (m i : Nat) (H : Heap), i + m = ka.length → Rd H 3 ca ka.length va ba → Rd H 3 cb kb.length vb bb → (∀ (i : Nat) k, ka[i]? = some k → ReV P H k (List.take 3 (List.drop (i * 3) ca)) ∧ i * 3 + 3 ≤ ca.length) → (∀ (i : Nat) k, kb[i]? = some k → ReV P' H k (List.take 3 (List.drop (i * 3) cb)) ∧ i * 3 + 3 ≤ cb.length) →
    (((ka.drop i).zip (kb.drop i)).all (fun p => sameX p.1 p.2) = true → ∀ σ : St, Ext H.size H σ.H → σ.d = [] → Q (.exit 0) σ) → (((ka.drop i).zip (kb.drop i)).all (fun p => sameX p.1 p.2) = false → ∀ σ : St, Ext H.size H σ.H → σ.d = [] → lk 6 σ.p = some (.bool false) → Q .ret σ) →
    wpl ⟨bt.get, o⟩ [1, 2, 15, 16, 17] lb_slices_EqualFunc_api_Re_api_Re_api_Re_api_Re_0 { p := [(1, vb), (2, .fn F_regex_Same []), (15, va), (16, .int .i64 ka.length), (17, .int .i64 i)], t := [], H := H, d := [], u := .norm } Q := by
  intro m
  induction m with
  | zero =>
    intro i H hi hA hB hpa hpb hT hF
    rw [wpl_step]
    have c1 : ¬((i : Int) < (ka.length : Int)) := by omega
    simp only [lb_slices_EqualFunc_api_Re_api_Re_api_Re_api_Re_0, go_sem, zA, zB, zC, reduceIte, zD, zE, zF, zG, zH, zI, reduceCtorEq, zJ, zK, zL, zM, zN, zO, zP, c1]
    exact hT (by rw [List.drop_eq_nil_of_le (by omega)]; rfl) _ Ext.refl rfl
  | succ m ih =>
    intro i H hi hA hB hpa hpb hT hF
    rw [wpl_step]
    have c1 : ((i : Int) < (ka.length : Int)) := by omega
    have iw := wsucc (show i ≤ 1000000000 by omega)
    obtain ⟨⟨u, ga⟩, ela, _⟩ := hA.pos (by omega)
    obtain ⟨⟨u', gb⟩, elb, _⟩ := hB.pos (by omega)
    have ea := ela i (by omega)
    have eb := elb i (by omega)
    obtain ⟨k, hk⟩ : ∃ k, ka[i]? = some k := ⟨_, List.getElem?_eq_getElem (by omega)⟩
    obtain ⟨k', hk'⟩ : ∃ k, kb[i]? = some k := ⟨_, List.getElem?_eq_getElem (by omega)⟩
    obtain ⟨r1, r2⟩ := hpa i k hk
    obtain ⟨q1, q2⟩ := hpb i k' hk'
    obtain ⟨n1, v1, w1, f1, ⟨a1, a2⟩, a3, a4⟩ := r1.form
    obtain ⟨n2, v2, w2, f2, ⟨b1, b2⟩, b3, b4⟩ := q1.form
    have x2 : Ext H.size H ((H.push (.cells [.int .i64 n1, v1, w1] .own)).push (.cells [.int .i64 n2, v2, w2] .own)) := (Ext.push (Nat.le_refl _)).trans (Ext.push (by rw [Heap.size_push]; omega))
    have g2 : ((H.push (.cells [.int .i64 n1, v1, w1] .own)).push (.cells [.int .i64 n2, v2, w2] .own)).get H.size = .cells [.int .i64 n1, v1, w1] .own := by rw [Heap.get_push_lt (by rw [Heap.size_push]; omega), Heap.get_push_self]
    have g3 : ((H.push (.cells [.int .i64 n1, v1, w1] .own)).push (.cells [.int .i64 n2, v2, w2] .own)).get (H.size + 1) = .cells [.int .i64 n2, v2, w2] .own := by rw [Heap.get_push_eq (by rw [Heap.size_push])]
    have gb1 : (H.push (.cells [.int .i64 n1, v1, w1] .own)).get bb = .cells cb u' := by rw [Heap.get_push_lt (Heap.lt_of_get (by rw [gb]; simp)), gb]
    rw [f1] at r1
    rw [f2] at q1
    simp only [lb_slices_EqualFunc_api_Re_api_Re_api_Re_api_Re_0, go_sem, zA, zB, zC, reduceIte, zD, zE, zF, zG, zH, zI, reduceCtorEq, zJ, zK, zL, zM, zN, zO, zP, c1, ea, eb, ga, gb, gb1, r2, q2, f1, f2, a1, a2, a3, a4, b1, b2, b3, b4, g2, g3]
    refine IH k (List.mem_of_getElem? hk) k' P P' _ _ _ _ (r1.keep fun b p1 p2 => ⟨x2.2 b p2, p1⟩) (q1.keep fun b p1 p2 => ⟨x2.2 b p2, p1⟩) fun H1 x1 => ?_
    have y1 : Ext H.size H H1 := x2.trans (x1.le x2.1)
    have d1 : ka.drop i = k :: ka.drop (i + 1) := by rw [List.drop_eq_getElem_cons (by omega)]; congr 1; exact (List.getElem?_eq_some_iff.1 hk).2
    have d2 : kb.drop i = k' :: kb.drop (i + 1) := by rw [List.drop_eq_getElem_cons (by omega)]; congr 1; exact (List.getElem?_eq_some_iff.1 hk').2
    rw [d1, d2, List.zip_cons_cons, List.all_cons] at hT hF
    cases hs : sameX k k' with
    | false =>
      rw [hs] at hF
      simp only [go_sem, zA, zB, zC, reduceIte, zD, zE, zF, zG, zH, zI, reduceCtorEq, zJ, zK, zL, zM, zN, zO, zP]
      exact hF rfl _ y1 rfl rfl
    | true =>
      rw [hs] at hT hF
      simp only [go_sem, zA, zB, zC, reduceIte, zD, zE, zF, zG, zH, zI, reduceCtorEq, zJ, zK, zL, zM, zN, zO, zP, iw]
      exact ih (i + 1) H1 (by omega) (hA.ext y1) (hB.ext y1) (fun i k hk => ⟨(hpa i k hk).1.keep fun b p1 p2 => ⟨y1.2 b p2, p1⟩, (hpa i k hk).2⟩) (fun i k hk => ⟨(hpb i k hk).1.keep fun b p1 p2 => ⟨y1.2 b p2, p1⟩, (hpb i k hk).2⟩) (fun h σ e1 => hT (by simpa using h) σ (y1.trans (e1.le y1.1))) (fun h σ e1 => hF (by simpa using h) σ (y1.trans (e1.le y1.1)))
theorem rx_Same : ∀ (x y : Rx) (P P' : Nat → Prop) (cx cy : List AV) (H : Heap) (Q : End → Heap → Prop), ReV P H x cx → ReV P' H y cy → (∀ H', Ext H.size H H' → Q (.ret (.bool (sameX x y))) H') → wpf ⟨bt.get, o⟩ F_regex_Same [.agg cx, .agg cy] H Q := by
  have main : ∀ (x : Rx), (∀ k ∈ kidsX x, ∀ (y : Rx) (P P' : Nat → Prop) (cx cy : List AV) (H : Heap) (Q : End → Heap → Prop), ReV P H k cx → ReV P' H y cy → (∀ H', Ext H.size H H' → Q (.ret (.bool (sameX k y))) H') → wpf ⟨bt.get, o⟩ F_regex_Same [.agg cx, .agg cy] H Q) →
      ∀ (y : Rx) (P P' : Nat → Prop) (cx cy : List AV) (H : Heap) (Q : End → Heap → Prop), ReV P H x cx → ReV P' H y cy → (∀ H', Ext H.size H H' → Q (.ret (.bool (sameX x y))) H') → wpf ⟨bt.get, o⟩ F_regex_Same [.agg cx, .agg cy] H Q := by
    intro x IH y P P' cx cy H Q hx hy h
    rw [fn_regex_Same (ho _ _ _ (by decide))]
    obtain ⟨vs, bs, vl, bl, ck, e1, s1, s2, l1, l2⟩ := hx.split
    obtain ⟨ws, bs', wl, bl', ck', f1, t1, t2, m1, m2⟩ := hy.split
    subst e1 f1
    have x2 : Ext H.size H ((H.push (.cells [.int .i64 (kindX x), vs, vl] .own)).push (.cells [.int .i64 (kindX y), ws, wl] .own)) := (Ext.push (Nat.le_refl _)).trans (Ext.push (by rw [Heap.size_push]; omega))
    have g2 : ((H.push (.cells [.int .i64 (kindX x), vs, vl] .own)).push (.cells [.int .i64 (kindX y), ws, wl] .own)).get H.size = .cells [.int .i64 (kindX x), vs, vl] .own := by rw [Heap.get_push_lt (by rw [Heap.size_push]; omega), Heap.get_push_self]
    have g3 : ((H.push (.cells [.int .i64 (kindX x), vs, vl] .own)).push (.cells [.int .i64 (kindX y), ws, wl] .own)).get (H.size + 1) = .cells [.int .i64 (kindX y), ws, wl] .own := by rw [Heap.get_push_eq (by rw [Heap.size_push])]
    simp only [bd_regex_Same, go_sem, zA, zB, zC, reduceIte, zD, zE, zF, zG, zH, zI, reduceCtorEq, zJ, zK, zL, zM, zN, zO, zP, s1.one.1, s1.one.2, l1.one.1, l1.one.2, t1.one.1, t1.one.2, m1.one.1, m1.one.2]
    generalize (H.push (.cells [.int .i64 (kindX x), vs, vl] .own)).push (.cells [.int .i64 (kindX y), ws, wl] .own) = H2 at x2 g2 g3 ⊢
    by_cases hk : kindX x = kindX y
    · have hkl := kids_len hk
      have hkl' : ((kidsX x).length : Int) = ((kidsX y).length : Int) := by omega
      have hk3 : (kidsX y).length ≤ 1000 := by cases y <;> simp [kidsX]
      simp only [go_sem, zA, zB, zC, reduceIte, zD, zE, zF, zG, zH, zI, reduceCtorEq, zJ, zK, zL, zM, zN, zO, zP, g2, g3, hk]
      refine sl_EqualD ho s2 t2 (s1.ext x2) (t1.ext x2) ?_
      by_cases hs : setsX x = setsX y
      · simp only [go_sem, zA, zB, zC, reduceIte, zD, zE, zF, zG, zH, zI, reduceCtorEq, zJ, zK, zL, zM, zN, zO, zP, hs, g2, g3]
        rw [fn_slices_EqualFunc_api_Re_api_Re_api_Re_api_Re (ho _ _ _ (by decide))]
        simp only [bd_slices_EqualFunc_api_Re_api_Re_api_Re_api_Re, go_sem, zA, zB, zC, reduceIte, zD, zE, zF, zG, zH, zI, reduceCtorEq, zJ, zK, zL, zM, zN, zO, zP, l1.len, m1.len, hkl']
        rw [← hkl']
        refine ef_loop (ka := kidsX x) (kb := kidsX y) hkl (by omega) IH (kidsX x).length 0 H2 (by omega) (l1.ext x2) (m1.ext x2) (fun i k hk => ⟨(l2 i k hk).1.keep fun b p1 p2 => ⟨x2.2 b p2, p1⟩, (l2 i k hk).2⟩) (fun i k hk => ⟨(m2 i k hk).1.keep fun b p1 p2 => ⟨x2.2 b p2, p1⟩, (m2 i k hk).2⟩) (fun e σ k1 k2 => ?_) (fun e σ k1 k2 k3 => ?_)
        · simp only [go_sem, zA, zB, zC, reduceIte, zD, zE, zF, zG, zH, zI, reduceCtorEq, zJ, zK, zL, zM, zN, zO, zP, k2, lk_up]
          have := h σ.H (x2.trans (k1.le x2.1))
          rw [sameX_kids, hk, hs] at this
          rw [List.drop_zero, List.drop_zero] at e
          rw [e] at this
          simpa using this
        · simp only [go_sem, zA, zB, zC, reduceIte, zD, zE, zF, zG, zH, zI, reduceCtorEq, zJ, zK, zL, zM, zN, zO, zP, k2, k3]
          have := h σ.H (x2.trans (k1.le x2.1))
          rw [sameX_kids, hk, hs] at this
          rw [List.drop_zero, List.drop_zero] at e
          rw [e] at this
          simpa using this
      · simp only [go_sem, zA, zB, zC, reduceIte, zD, zE, zF, zG, zH, zI, reduceCtorEq, zJ, zK, zL, zM, zN, zO, zP, hs]
        have := h H2 x2
        rw [sameX_kids] at this
        simpa [hs] using this
    · simp only [go_sem, zA, zB, zC, reduceIte, zD, zE, zF, zG, zH, zI, reduceCtorEq, zJ, zK, zL, zM, zN, zO, zP, g2, g3, hk]
      have := h H2 x2
      rw [sameX_kids] at this
      simpa [hk] using this
  intro x
  induction x with
  | emp => exact main .emp (fun k hk => by simp [kidsX] at hk)
  | set l => exact main (.set l) (fun k hk => by simp [kidsX] at hk)
  | seq a b iha ihb => exact main (.seq a b) (fun k hk => by simp [kidsX] at hk; rcases hk with rfl | rfl; exact iha; exact ihb)
  | alt a b iha ihb => exact main (.alt a b) (fun k hk => by simp [kidsX] at hk; rcases hk with rfl | rfl; exact iha; exact ihb)
  | star a iha => exact main (.star a) (fun k hk => by simp [kidsX] at hk; subst hk; exact iha)
end
/- Expressions, compared; of one rune. -/
set_option maxRecDepth 8000
section
variable {o : CallF} (ho : OvOnly o)
include ho
theorem g_One {r : Int} {H : Heap} {Q : End → Heap → Prop} (h : ∀ H' cs, Ext H.size H H' → ReV (fun b => H.size ≤ b) H' (.set [⟨r, r⟩]) cs → Q (.ret (.agg cs)) H') : wpf ⟨bt.get, o⟩ F_gobolaw6_One [.int .i32 r] H Q := by
  rw [fn_gobolaw6_One (ho _ _ _ (by decide))]
  have l0 : H.size < ((H.push (.cells [.int .i64 0, .nils, .nils] .own)).push (.cells [.int .i32 r, .int .i32 r] .own)).size := by rw [Heap.size_push, Heap.size_push]; omega
  have g0 : ((H.push (.cells [.int .i64 0, .nils, .nils] .own)).push (.cells [.int .i32 r, .int .i32 r] .own)).get H.size = .cells [.int .i64 0, .nils, .nils] .own := by rw [Heap.get_push_lt (by rw [Heap.size_push]; omega), Heap.get_push_self]
  simp only [bd_gobolaw6_One, go_sem, zA, zB, zC, reduceIte, zD, zE, zF, zG, zH, zI, reduceCtorEq, zJ, zK, zL, zM, zN, zO, zP, g0, Heap.get_set_self l0]
  refine h _ _ (((Ext.push (Nat.le_refl _)).trans (Ext.push (by rw [Heap.size_push]; omega))).trans (Ext.set (Nat.le_refl _))) ⟨_, H.size + 1, rfl, Rd.slice (u := .own) ?_ rfl, fun _ => by omega, by simp⟩
  rw [Heap.get_set_ne (by omega), Heap.get_push_eq (by rw [Heap.size_push])]; rfl
end
end Go.Ev
