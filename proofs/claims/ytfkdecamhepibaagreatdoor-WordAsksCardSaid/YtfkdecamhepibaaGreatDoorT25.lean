/- Several texts of this claim, joined. -/
import Derived.Test.YtfkdecamhepibaaGreatDoorT24
set_option linter.unusedSimpArgs false
set_option linter.unusedVariables false

/- Sorting of spans, further: which pivot; turned about; scattered. -/
namespace Go.Ev
open Go
open Go.Ev renaming seqK_normal → zA, blockK_normal → zB, blockK_exit → zC
open Nat renaming reduceEqDiff → zD, reduceAdd → zE, reduceSub → zF, reduceMul → zG, reduceLeDiff → zH, reduceLT → zI
open Int renaming reduceToNat → zJ, reduceLT → zK, reduceLE → zL, reduceEq → zM, reduceAdd → zN, reduceSub → zO, reduceMul → zP
set_option maxRecDepth 8000
theorem at_idx {l : List S} {n i : Nat} (hl : l.length = n) (hi : i < n) : ((i : Int) < (n : Int)) ∧ List.take 2 (List.drop (i * 2) (scells l)) = (l.getD i (0, 0)).cells ∧ i * 2 + 2 ≤ (scells l).length := by
  obtain ⟨h1, h2⟩ := scells_at (get_of (l := l) (i := i) (by omega))
  exact ⟨by omega, h1, h2⟩
/-- What two stores, one behind the other, come to. -/
theorem sw_facts {l : List S} {n i j : Nat} (hl : l.length = n) (hi : i < n) (hj : j < n) :
    ((scells l).set (i * 2) (.int .i64 (l.getD j (0, 0)).1)).set (i * 2 + 1) (.int .i64 (l.getD j (0, 0)).2) = scells (l.set i (l.getD j (0, 0))) ∧
    j * 2 + 2 ≤ (scells (l.set i (l.getD j (0, 0)))).length ∧
    ((scells (l.set i (l.getD j (0, 0)))).set (j * 2) (.int .i64 (l.getD i (0, 0)).1)).set (j * 2 + 1) (.int .i64 (l.getD i (0, 0)).2) = scells (swp l i j) :=
  ⟨scells_setS (l.getD j (0, 0)) (by omega), by rw [scells_len, List.length_set]; omega, scells_setS (l := l.set i (l.getD j (0, 0))) (l.getD i (0, 0)) (by simp; omega)⟩
theorem wdiv {n k : Nat} (hn : n ≤ 1000000000) : IntKind.i64.wrap ((n : Int).tdiv (k : Int)) = ((n / k : Nat) : Int) := by
  rw [show (n : Int).tdiv (k : Int) = ((n / k : Nat) : Int) from rfl]
  have : n / k ≤ n := Nat.div_le_self _ _
  have h0 : (0 : Int) ≤ ((n / k : Nat) : Int) := Int.natCast_nonneg _
  have h1 : ((n / k : Nat) : Int) ≤ (n : Int) := Int.ofNat_le.2 this
  generalize ((n / k : Nat) : Int) = z at h0 h1 ⊢
  exact wi64 (by omega) (by omega)
theorem wdiv4 {n : Nat} (hn : n ≤ 1000000000) : IntKind.i64.wrap ((n : Int).tdiv 4) = ((n / 4 : Nat) : Int) := wdiv (k := 4) hn
theorem wdiv8 {n : Nat} (hn : n ≤ 1000000000) : IntKind.i64.wrap ((n : Int).tdiv 8) = ((n / 8 : Nat) : Int) := wdiv (k := 8) hn
theorem wdiv2 {n : Nat} (hn : n ≤ 1000000000) : IntKind.i64.wrap ((n : Int).tdiv 2) = ((n / 2 : Nat) : Int) := wdiv (k := 2) hn
section
variable {o : CallF} (ho : OvOnly o)
include ho
theorem q_order2 {n sb pw a b : Nat} {l : List S} {H : Heap} (hl : l.length = n) (hg : H.get sb = .cells (scells l) .own) (ha : a < n) (hb : b < n) {s : Int} (hw : H.get pw = .cells [.int .i64 s] .own) (hne : sb ≠ pw) {Q : End → Heap → Prop}
    (h : ∀ (x y : Nat) H' s', (x = a ∧ y = b ∨ x = b ∧ y = a) → Fr pw .nils H H' → H'.get pw = .cells [.int .i64 s'] .own → Q (.ret (.tup [.int .i64 (x : Int), .int .i64 (y : Int)])) H') :
    wpf ⟨bt.get, o⟩ F_slices_order2CmpFunc_runes_span [slV sb n, .int .i64 (a : Int), .int .i64 (b : Int), .ptr pw 0, cmpV] H Q := by
  rw [fn_slices_order2CmpFunc_runes_span (ho _ _ _ (by decide))]
  obtain ⟨a1, a2, a3⟩ := at_idx hl ha
  obtain ⟨b1, b2, b3⟩ := at_idx hl hb
  simp only [bd_slices_order2CmpFunc_runes_span, go_sem, zA, zB, zC, reduceIte, zD, zE, zF, zG, zH, zI, reduceCtorEq, zJ, zK, zL, zM, zN, zO, zP, a1, a2, a3, b1, b2, b3, hg]
  refine c_cmp ho fun H1 hx1 => ?_
  have f1 : Fr pw .nils H H1 := Fr.ofExt hx1
  have w1 : H1.get pw = .cells [.int .i64 s] .own := by rw [hx1.2 pw (Heap.lt_of_get (by rw [hw]; simp)), hw]
  simp only [go_sem, zA, zB, zC, reduceIte, zD, zE, zF, zG, zH, zI, reduceCtorEq, zJ, zK, zL, zM, zN, zO, zP, cmpZ_lt']
  by_cases hc : (l.getD b (0, 0)).1 < (l.getD a (0, 0)).1
  · simp only [go_sem, zA, zB, zC, reduceIte, zD, zE, zF, zG, zH, zI, reduceCtorEq, zJ, zK, zL, zM, zN, zO, zP, hc, w1]
    exact h b a _ _ (.inr ⟨rfl, rfl⟩) (f1.trans Fr.set) (Heap.get_set_self (Heap.lt_of_get (by rw [w1]; simp)))
  · simp only [go_sem, zA, zB, zC, reduceIte, zD, zE, zF, zG, zH, zI, reduceCtorEq, zJ, zK, zL, zM, zN, zO, zP, hc]
    exact h a b _ _ (.inl ⟨rfl, rfl⟩) f1 w1
theorem q_median {n sb pw a b c : Nat} {l : List S} {H : Heap} (hl : l.length = n) (hg : H.get sb = .cells (scells l) .own) (ha : a < n) (hb : b < n) (hc : c < n) {s : Int} (hw : H.get pw = .cells [.int .i64 s] .own) (hne : sb ≠ pw) {Q : End → Heap → Prop}
    (h : ∀ (x : Nat) H' s', (x = a ∨ x = b ∨ x = c) → Fr pw .nils H H' → H'.get pw = .cells [.int .i64 s'] .own → Q (.ret (.int .i64 (x : Int))) H') :
    wpf ⟨bt.get, o⟩ F_slices_medianCmpFunc_runes_span [slV sb n, .int .i64 (a : Int), .int .i64 (b : Int), .int .i64 (c : Int), .ptr pw 0, cmpV] H Q := by
  rw [fn_slices_medianCmpFunc_runes_span (ho _ _ _ (by decide))]
  simp only [bd_slices_medianCmpFunc_runes_span, go_sem, zA, zB, zC, reduceIte, zD, zE, zF, zG, zH, zI, reduceCtorEq, zJ, zK, zL, zM, zN, zO, zP]
  refine q_order2 ho hl hg ha hb hw hne fun x1 y1 H1 s1 d1 f1 w1 => ?_
  have g1 := f1.get hg (by simp) hne
  simp only [go_sem, zA, zB, zC, reduceIte, zD, zE, zF, zG, zH, zI, reduceCtorEq, zJ, zK, zL, zM, zN, zO, zP]
  refine q_order2 ho hl g1 (by omega) hc w1 hne fun x2 y2 H2 s2 d2 f2 w2 => ?_
  have g2 := f2.get g1 (by simp) hne
  simp only [go_sem, zA, zB, zC, reduceIte, zD, zE, zF, zG, zH, zI, reduceCtorEq, zJ, zK, zL, zM, zN, zO, zP]
  refine q_order2 ho hl g2 (by omega) (by omega) w2 hne fun x3 y3 H3 s3 d3 f3 w3 => ?_
  simp only [go_sem, zA, zB, zC, reduceIte, zD, zE, zF, zG, zH, zI, reduceCtorEq, zJ, zK, zL, zM, zN, zO, zP]
  exact h y3 _ _ (by omega) ((f1.trans f2).trans f3) w3
theorem q_medianAdj {n sb pw a : Nat} (hn : n ≤ 1000000) {l : List S} {H : Heap} (hl : l.length = n) (hg : H.get sb = .cells (scells l) .own) (h0 : 0 < a) (ha : a + 1 < n) {s : Int} (hw : H.get pw = .cells [.int .i64 s] .own) (hne : sb ≠ pw) {Q : End → Heap → Prop}
    (h : ∀ (x : Nat) H' s', (a - 1 ≤ x ∧ x ≤ a + 1) → Fr pw .nils H H' → H'.get pw = .cells [.int .i64 s'] .own → Q (.ret (.int .i64 (x : Int))) H') :
    wpf ⟨bt.get, o⟩ F_slices_medianAdjacentCmpFunc_runes_span [slV sb n, .int .i64 (a : Int), .ptr pw 0, cmpV] H Q := by
  rw [fn_slices_medianAdjacentCmpFunc_runes_span (ho _ _ _ (by decide))]
  simp only [bd_slices_medianAdjacentCmpFunc_runes_span, go_sem, zA, zB, zC, reduceIte, zD, zE, zF, zG, zH, zI, reduceCtorEq, zJ, zK, zL, zM, zN, zO, zP, wpred h0 (show a ≤ 1000000000 by omega), wsucc (show a ≤ 1000000000 by omega)]
  refine q_median ho hl hg (by omega) (by omega) (by omega) hw hne fun x H1 s1 d f w => ?_
  simp only [go_sem, zA, zB, zC, reduceIte, zD, zE, zF, zG, zH, zI, reduceCtorEq, zJ, zK, zL, zM, zN, zO, zP]
  exact h x _ _ (by omega) f w
theorem q_choosePivot {n sb a b : Nat} (hn : n ≤ 1000000) {l : List S} {H : Heap} (hl : l.length = n) (hg : H.get sb = .cells (scells l) .own) (hab : a + 8 ≤ b) (hb : b ≤ n) {Q : End → Heap → Prop}
    (h : ∀ (x : Nat) (k : Int) H', a ≤ x → x < b → Ext H.size H H' → Q (.ret (.tup [.int .i64 (x : Int), .int .i64 k])) H') :
    wpf ⟨bt.get, o⟩ F_slices_choosePivotCmpFunc_runes_span [slV sb n, .int .i64 (a : Int), .int .i64 (b : Int), cmpV] H Q := by
  rw [fn_slices_choosePivotCmpFunc_runes_span (ho _ _ _ (by decide))]
  have w1 : IntKind.i64.wrap ((b : Int) - (a : Int)) = ((b - a : Nat) : Int) := by rw [wi64 (by omega) (by omega)]; omega
  have w2 : IntKind.i64.wrap (((b - a : Nat) : Int).tdiv 4) = (((b - a) / 4 : Nat) : Int) := wdiv4 (by omega)
  have w3 : ∀ k : Nat, k ≤ 3 → IntKind.i64.wrap ((((b - a) / 4 : Nat) : Int) * (k : Int)) = (((b - a) / 4 * k : Nat) : Int) := by
    intro k hk
    have : (b - a) / 4 * k ≤ (b - a) / 4 * 3 := Nat.mul_le_mul_left _ hk
    rw [wi64 (by rw [← Int.natCast_mul]; omega) (by rw [← Int.natCast_mul]; omega), Int.natCast_mul]
  have w31 := w3 1 (by omega)
  have w32 := w3 2 (by omega)
  have w33 := w3 3 (by omega)
  simp only [Int.cast_ofNat_Int, Int.natCast_one] at w31 w32 w33
  have w4 : ∀ k : Nat, k ≤ 3 → IntKind.i64.wrap ((a : Int) + (((b - a) / 4 * k : Nat) : Int)) = ((a + (b - a) / 4 * k : Nat) : Int) := by
    intro k hk
    have : (b - a) / 4 * k ≤ (b - a) / 4 * 3 := Nat.mul_le_mul_left _ hk
    exact wnat (by omega)
  have w41 := w4 1 (by omega)
  have w42 := w4 2 (by omega)
  have w43 := w4 3 (by omega)
  have c8 : ((8 : Int) ≤ ((b - a : Nat) : Int)) := by omega
  simp only [Nat.mul_one] at w41 w31
  simp only [bd_slices_choosePivotCmpFunc_runes_span, go_sem, zA, zB, zC, reduceIte, zD, zE, zF, zG, zH, zI, reduceCtorEq, zJ, zK, zL, zM, zN, zO, zP, w1, w2, w31, w32, w33, w41, w42, w43, c8]
  have hne : sb ≠ H.size := by have := Heap.lt_of_get (H := H) (b := sb) (by rw [hg]; simp); omega
  have g0 : (H.push (.cells [.int .i64 0] .own)).get sb = .cells (scells l) .own := by rw [Heap.get_push_lt (Heap.lt_of_get (by rw [hg]; simp)), hg]
  have v0 : (H.push (.cells [.int .i64 0] .own)).get H.size = .cells [.int .i64 0] .own := Heap.get_push_self
  have x0 : Ext H.size H (H.push (.cells [.int .i64 0] .own)) := Ext.push (Nat.le_refl _)
  generalize H.push (.cells [.int .i64 0] .own) = H0 at g0 v0 x0 ⊢
  have ex : ∀ {H1 : Heap}, Fr H.size .nils H0 H1 → Ext H.size H H1 := fun f => x0.trans (f.toExt (Nat.le_refl _) x0.1)
  by_cases c50 : ((50 : Int) ≤ ((b - a : Nat) : Int))
  · simp only [go_sem, zA, zB, zC, reduceIte, zD, zE, zF, zG, zH, zI, reduceCtorEq, zJ, zK, zL, zM, zN, zO, zP, c50]
    refine q_medianAdj ho hn hl g0 (by omega) (by omega) v0 hne fun x1 H1 s1 d1 f1 v1 => ?_
    have g1 := f1.get g0 (by simp) hne
    simp only [go_sem, zA, zB, zC, reduceIte, zD, zE, zF, zG, zH, zI, reduceCtorEq, zJ, zK, zL, zM, zN, zO, zP]
    refine q_medianAdj ho hn hl g1 (by omega) (by omega) v1 hne fun x2 H2 s2 d2 f2 v2 => ?_
    have g2 := f2.get g1 (by simp) hne
    simp only [go_sem, zA, zB, zC, reduceIte, zD, zE, zF, zG, zH, zI, reduceCtorEq, zJ, zK, zL, zM, zN, zO, zP]
    refine q_medianAdj ho hn hl g2 (by omega) (by omega) v2 hne fun x3 H3 s3 d3 f3 v3 => ?_
    have g3 := f3.get g2 (by simp) hne
    simp only [go_sem, zA, zB, zC, reduceIte, zD, zE, zF, zG, zH, zI, reduceCtorEq, zJ, zK, zL, zM, zN, zO, zP]
    refine q_median ho hl g3 (by omega) (by omega) (by omega) v3 hne fun x4 H4 s4 d4 f4 v4 => ?_
    have xx := ex (((f1.trans f2).trans f3).trans f4)
    clear w1 w2 w31 w32 w33 w41 w42 w43 w3 w4 c8 f1 f2 f3 f4 v1 v2 v3 g1 g2 g3 g0 v0
    have q1 : a ≤ x4 ∧ x4 < b := by omega
    simp only [go_sem, zA, zB, zC, reduceIte, zD, zE, zF, zG, zH, zI, reduceCtorEq, zJ, zK, zL, zM, zN, zO, zP, v4]
    by_cases e0 : s4 = 0
    · simp only [go_sem, zA, zB, zC, reduceIte, zD, zE, zF, zG, zH, zI, reduceCtorEq, zJ, zK, zL, zM, zN, zO, zP, e0]
      exact h x4 _ _ q1.1 q1.2 xx
    · by_cases e1 : s4 = 12
      · simp only [go_sem, zA, zB, zC, reduceIte, zD, zE, zF, zG, zH, zI, reduceCtorEq, zJ, zK, zL, zM, zN, zO, zP, e1]
        exact h x4 _ _ q1.1 q1.2 xx
      · simp only [go_sem, zA, zB, zC, reduceIte, zD, zE, zF, zG, zH, zI, reduceCtorEq, zJ, zK, zL, zM, zN, zO, zP, e0, e1]
        exact h x4 _ _ q1.1 q1.2 xx
  · simp only [go_sem, zA, zB, zC, reduceIte, zD, zE, zF, zG, zH, zI, reduceCtorEq, zJ, zK, zL, zM, zN, zO, zP, c50]
    refine q_median ho hl g0 (by omega) (by omega) (by omega) v0 hne fun x4 H4 s4 d4 f4 v4 => ?_
    have xx := ex f4
    clear w1 w2 w31 w32 w33 w41 w42 w43 w3 w4 c8 f4 g0 v0
    have q1 : a ≤ x4 ∧ x4 < b := by omega
    simp only [go_sem, zA, zB, zC, reduceIte, zD, zE, zF, zG, zH, zI, reduceCtorEq, zJ, zK, zL, zM, zN, zO, zP, v4]
    by_cases e0 : s4 = 0
    · simp only [go_sem, zA, zB, zC, reduceIte, zD, zE, zF, zG, zH, zI, reduceCtorEq, zJ, zK, zL, zM, zN, zO, zP, e0]
      exact h x4 _ _ q1.1 q1.2 xx
    · by_cases e1 : s4 = 12
      · simp only [go_sem, zA, zB, zC, reduceIte, zD, zE, zF, zG, zH, zI, reduceCtorEq, zJ, zK, zL, zM, zN, zO, zP, e1]
        exact h x4 _ _ q1.1 q1.2 xx
      · simp only [go_sem, zA, zB, zC, reduceIte, zD, zE, zF, zG, zH, zI, reduceCtorEq, zJ, zK, zL, zM, zN, zO, zP, e0, e1]
        exact h x4 _ _ q1.1 q1.2 xx
omit ho in
theorem q_rev_loop {n a b sb : Nat} (hn : n ≤ 1000000) (hb : b ≤ n) {Q : Ctl → St → Prop} : ∀ (m i j : Nat) (l : List S) (H : Heap), j - i ≤ m → a ≤ i → j < b → l.length = n → H.get sb = .cells (scells l) .own →
    (∀ l' H' x t, PermOn a b l l' → Fr sb .nils H H' → H'.get sb = .cells (scells l') .own → Q (.exit 0) { p := (0, slV sb n) :: x, t := t, H := H', d := [], u := .norm }) →
    wpl ⟨bt.get, o⟩ [0, 8, 9] lb_slices_reverseRangeCmpFunc_runes_span_0 { p := [(0, slV sb n), (8, .int .i64 i), (9, .int .i64 j)], t := [], H := H, d := [], u := .norm } Q := by
  intro m
  induction m with
  | zero =>
    intro i j l H h1 h2 h3 hl hg hQ
    rw [wpl_step]
    have c1 : ¬ ((i : Int) < (j : Int)) := by omega
    simp only [lb_slices_reverseRangeCmpFunc_runes_span_0, go_sem, zA, zB, zC, reduceIte, zD, zE, zF, zG, zH, zI, reduceCtorEq, zJ, zK, zL, zM, zN, zO, zP, c1]
    exact hQ l H _ _ PermOn.refl Fr.refl hg
  | succ m ih =>
    intro i j l H h1 h2 h3 hl hg hQ
    rw [wpl_step]
    by_cases c : i < j
    · have c1 : ((i : Int) < (j : Int)) := by omega
      obtain ⟨i1, i2, i3⟩ := at_idx (i := i) hl (by omega)
      obtain ⟨j1, j2, j3⟩ := at_idx (i := j) hl (by omega)
      obtain ⟨s1, s2, s3⟩ := sw_facts (i := i) (j := j) hl (by omega) (by omega)
      have hlt : sb < H.size := Heap.lt_of_get (by rw [hg]; simp)
      simp only [lb_slices_reverseRangeCmpFunc_runes_span_0, go_sem, zA, zB, zC, reduceIte, zD, zE, zF, zG, zH, zI, reduceCtorEq, zJ, zK, zL, zM, zN, zO, zP, c1, i1, i2, i3, j1, j2, j3, hg, s1, s2, s3, S.cells, Heap.get_set_self hlt, wsucc (show i ≤ 1000000000 by omega), wpred (show 0 < j by omega) (show j ≤ 1000000000 by omega)]
      refine ih (i + 1) (j - 1) (swp l i j) _ (by omega) (by omega) (by omega) (by rw [swp_len]; exact hl) (Heap.get_set_self hlt) fun l' H' x t k1 k2 k3 => hQ l' H' x t ((PermOn.swp (by omega) (by omega) (by omega) (by omega) (by omega)).trans k1) (Fr.set.trans k2) k3
    · have c1 : ¬ ((i : Int) < (j : Int)) := by omega
      simp only [lb_slices_reverseRangeCmpFunc_runes_span_0, go_sem, zA, zB, zC, reduceIte, zD, zE, zF, zG, zH, zI, reduceCtorEq, zJ, zK, zL, zM, zN, zO, zP, c1]
      exact hQ l H _ _ PermOn.refl Fr.refl hg
theorem q_reverse {n sb a b : Nat} (hn : n ≤ 1000000) {l : List S} {H : Heap} (hl : l.length = n) (hg : H.get sb = .cells (scells l) .own) (hab : a < b) (hb : b ≤ n) {Q : End → Heap → Prop}
    (h : ∀ l' H', PermOn a b l l' → Fr sb .nils H H' → H'.get sb = .cells (scells l') .own → Q (.ret (.tup [])) H') :
    wpf ⟨bt.get, o⟩ F_slices_reverseRangeCmpFunc_runes_span [slV sb n, .int .i64 (a : Int), .int .i64 (b : Int), cmpV] H Q := by
  rw [fn_slices_reverseRangeCmpFunc_runes_span (ho _ _ _ (by decide))]
  simp only [bd_slices_reverseRangeCmpFunc_runes_span, go_sem, zA, zB, zC, reduceIte, zD, zE, zF, zG, zH, zI, reduceCtorEq, zJ, zK, zL, zM, zN, zO, zP, wpred (show 0 < b by omega) (show b ≤ 1000000000 by omega)]
  refine q_rev_loop hn hb _ a (b - 1) l H (Nat.le_refl _) (Nat.le_refl _) (by omega) hl hg fun l' H' x t k1 k2 k3 => ?_
  simp only [go_sem, zA, zB, zC, reduceIte, zD, zE, zF, zG, zH, zI, reduceCtorEq, zJ, zK, zL, zM, zN, zO, zP]
  exact h l' H' k1 k2 k3
end
/- Sorting of spans, further: what is nearly sorted. -/
set_option maxRecDepth 8000
/-- Nothing there is below what stands ahead of it. -/
def LowB (a b : Nat) (l : List S) : Prop := ∀ p, a ≤ p → p < b → a = 0 ∨ key l (a - 1) ≤ key l p
theorem LowB.perm {a b l l'} (h : LowB a b l) (k : PermOn a b l l') (hb : b ≤ l.length) : LowB a b l' := by
  by_cases e : a = 0
  · exact fun p _ _ => .inl e
  · have := PermOn.all (P := fun x => key l (a - 1) ≤ x) k hb fun p h1 h2 => (h p h1 h2).resolve_left e
    exact fun p h1 h2 => .inr (by rw [key_out k (.inl (by omega))]; exact this p h1 h2)
section
variable {o : CallF} (ho : OvOnly o)
include ho
theorem q_pi0 {n a b sb : Nat} (hn : n ≤ 1000000) (hb : b ≤ n) {jv : AV} {l : List S} (hl : l.length = n) {Q : Ctl → St → Prop} : ∀ (m i : Nat) (H : Heap), b - i ≤ m → a < i → i ≤ b → H.get sb = .cells (scells l) .own → SortedOn a i l →
    (∀ (i' : Nat) H' x t, i ≤ i' → i' ≤ b → SortedOn a i' l → (i' < b → key l i' < key l (i' - 1)) → Ext H.size H H' → Q (.exit 2) { p := (0, slV sb n) :: (1, .int .i64 (a : Int)) :: (2, .int .i64 (b : Int)) :: (3, cmpV) :: (9, .int .i64 (i' : Int)) :: (10, jv) :: x, t := t, H := H', d := [], u := .norm }) →
    wpl ⟨bt.get, o⟩ [0, 1, 2, 3, 9, 10] lb_slices_partialInsertionSortCmpFunc_runes_span_0 { p := [(0, slV sb n), (1, .int .i64 (a : Int)), (2, .int .i64 (b : Int)), (3, cmpV), (9, .int .i64 (i : Int)), (10, jv)], t := [], H := H, d := [], u := .norm } Q := by
  intro m
  induction m with
  | zero =>
    intro i H h1 h2 h3 hg hS hQ
    rw [wpl_step]
    have c1 : ¬ ((i : Int) < (b : Int)) := by omega
    simp only [lb_slices_partialInsertionSortCmpFunc_runes_span_0, go_sem, zA, zB, zC, reduceIte, zD, zE, zF, zG, zH, zI, reduceCtorEq, zJ, zK, zL, zM, zN, zO, zP, c1]
    exact hQ i H _ _ (Nat.le_refl _) h3 hS (fun h => by omega) (Ext.refl)
  | succ m ih =>
    intro i H h1 h2 h3 hg hS hQ
    rw [wpl_step]
    by_cases c : i < b
    · have c1 : ((i : Int) < (b : Int)) := by omega
      obtain ⟨i1, i2, i3⟩ := at_idx (i := i) hl (by omega)
      obtain ⟨a1, a2, a3⟩ := at_idx (i := i - 1) hl (by omega)
      simp only [lb_slices_partialInsertionSortCmpFunc_runes_span_0, go_sem, zA, zB, zC, reduceIte, zD, zE, zF, zG, zH, zI, reduceCtorEq, zJ, zK, zL, zM, zN, zO, zP, c1, i1, i2, i3, a1, a2, a3, hg, wpred (show 0 < i by omega) (show i ≤ 1000000000 by omega)]
      refine c_cmp ho fun H1 hx1 => ?_
      have hg1 : H1.get sb = .cells (scells l) .own := by rw [hx1.2 sb (Heap.lt_of_get (by rw [hg]; simp)), hg]
      simp only [go_sem, zA, zB, zC, reduceIte, zD, zE, zF, zG, zH, zI, reduceCtorEq, zJ, zK, zL, zM, zN, zO, zP, cmpZ_lt']
      by_cases hc : (l.getD i (0, 0)).1 < (l.getD (i - 1) (0, 0)).1
      · simp only [go_sem, zA, zB, zC, reduceIte, zD, zE, zF, zG, zH, zI, reduceCtorEq, zJ, zK, zL, zM, zN, zO, zP, hc]
        exact hQ i H1 _ _ (Nat.le_refl _) h3 hS (fun _ => hc) hx1
      · simp only [go_sem, zA, zB, zC, reduceIte, zD, zE, zF, zG, zH, zI, reduceCtorEq, zJ, zK, zL, zM, zN, zO, zP, hc, wsucc (show i ≤ 1000000000 by omega)]
        refine ih (i + 1) H1 (by omega) (by omega) (by omega) hg1 (fun p q p1 p2 p3 => ?_) fun i' H' x t k1 k2 k3 k4 k5 => hQ i' H' x t (by omega) k2 k3 k4 (hx1.trans (k5.le hx1.1))
        by_cases e : q = i
        · subst e
          have h0 : key l (q - 1) ≤ key l q := Nat.le_of_not_lt hc
          by_cases e2 : p = q - 1
          · rw [e2]; exact h0
          · exact Nat.le_trans (hS p (q - 1) p1 (by omega) (by omega)) h0
        · exact hS p q p1 p2 (by omega)
    · have c1 : ¬ ((i : Int) < (b : Int)) := by omega
      simp only [lb_slices_partialInsertionSortCmpFunc_runes_span_0, go_sem, zA, zB, zC, reduceIte, zD, zE, zF, zG, zH, zI, reduceCtorEq, zJ, zK, zL, zM, zN, zO, zP, c1]
      exact hQ i H _ _ (Nat.le_refl _) h3 hS (fun h => by omega) (Ext.refl)
theorem q_pi1 {n a b i sb : Nat} (hn : n ≤ 1000000) (hb : b ≤ n) {iv jv : AV} {Q : Ctl → St → Prop} : ∀ (j : Nat) (l : List S) (H : Heap), a ≤ j → j ≤ i → i < b → l.length = n → H.get sb = .cells (scells l) .own → LowB a b l →
    (∀ p q, a ≤ p → p < q → q ≤ i → p ≠ j → q ≠ j → key l p ≤ key l q) → (∀ q, j < q → q ≤ i → key l j ≤ key l q) →
    (∀ l' H' x t, PermOn a (i + 1) l l' → SortedOn a (i + 1) l' → Fr sb .nils H H' → H'.get sb = .cells (scells l') .own → Q (.exit 4) { p := (0, slV sb n) :: (1, .int .i64 (a : Int)) :: (2, .int .i64 (b : Int)) :: (3, cmpV) :: (9, iv) :: (10, jv) :: x, t := t, H := H', d := [], u := .norm }) →
    wpl ⟨bt.get, o⟩ [0, 1, 2, 3, 9, 10, 11] lb_slices_partialInsertionSortCmpFunc_runes_span_1 { p := [(0, slV sb n), (1, .int .i64 (a : Int)), (2, .int .i64 (b : Int)), (3, cmpV), (9, iv), (10, jv), (11, .int .i64 (j : Int))], t := [], H := H, d := [], u := .norm } Q := by
  intro j
  induction j with
  | zero =>
    intro l H h1 h2 h3 hl hg hL hA hB hQ
    rw [wpl_step]
    have a0 : a = 0 := by omega
    subst a0
    have c1 : ¬ ((1 : Int) ≤ ((0 : Nat) : Int)) := by omega
    simp only [lb_slices_partialInsertionSortCmpFunc_runes_span_1, go_sem, zA, zB, zC, reduceIte, zD, zE, zF, zG, zH, zI, reduceCtorEq, zJ, zK, zL, zM, zN, zO, zP, c1]
    refine hQ l H _ _ PermOn.refl (fun p q g1 g2 g3 => ?_) Fr.refl hg
    by_cases e : p = 0
    · subst e; exact hB q (by omega) (by omega)
    · exact hA p q g1 g2 (by omega) e (by omega)
  | succ j ih =>
    intro l H h1 h2 h3 hl hg hL hA hB hQ
    rw [wpl_step]
    have c1 : ((1 : Int) ≤ ((j + 1 : Nat) : Int)) := by omega
    have wp := wpred (n := j + 1) (by omega) (by omega)
    rw [Nat.add_sub_cancel] at wp
    obtain ⟨i1, i2, i3⟩ := at_idx (i := j + 1) hl (by omega)
    obtain ⟨a1, a2, a3⟩ := at_idx (i := j) hl (by omega)
    simp only [lb_slices_partialInsertionSortCmpFunc_runes_span_1, go_sem, zA, zB, zC, reduceIte, zD, zE, zF, zG, zH, zI, reduceCtorEq, zJ, zK, zL, zM, zN, zO, zP, c1, i1, i2, i3, a1, a2, a3, wp, hg]
    refine c_cmp ho fun H1 hx1 => ?_
    have hg1 : H1.get sb = .cells (scells l) .own := by rw [hx1.2 sb (Heap.lt_of_get (by rw [hg]; simp)), hg]
    have hlt1 : sb < H1.size := Heap.lt_of_get (by rw [hg1]; simp)
    have fr1 : Fr sb .nils H H1 := Fr.ofExt hx1
    simp only [go_sem, zA, zB, zC, reduceIte, zD, zE, zF, zG, zH, zI, reduceCtorEq, zJ, zK, zL, zM, zN, zO, zP, cmpZ_lt']
    by_cases hc : (l.getD (j + 1) (0, 0)).1 < (l.getD j (0, 0)).1
    · have kc : key l (j + 1) < key l j := hc
      have haj : a ≤ j := by
        rcases Nat.lt_or_ge j a with h | h
        · have e : a = j + 1 := by omega
          have := (hL (j + 1) (by omega) (by omega)).resolve_left (by omega)
          rw [e, Nat.add_sub_cancel] at this
          omega
        · exact h
      obtain ⟨s1, s2, s3⟩ := sw_facts (i := j + 1) (j := j) hl (by omega) (by omega)
      simp only [go_sem, zA, zB, zC, reduceIte, zD, zE, zF, zG, zH, zI, reduceCtorEq, zJ, zK, zL, zM, zN, zO, zP, hc, i1, i2, i3, a1, a2, a3, wp, hg1, s1, s2, s3, S.cells, Heap.get_set_self hlt1]
      have ks := key_swp (l := l) (i := j + 1) (j := j) (by omega) (by omega)
      have hP : PermOn a (i + 1) l (swp l (j + 1) j) := PermOn.swp (by omega) (by omega) (by omega) (by omega) (by omega)
      refine ih (swp l (j + 1) j) _ haj (by omega) h3 (by rw [swp_len]; exact hl) (Heap.get_set_self hlt1) (hL.perm (hP.widen (Nat.le_refl _) (by omega)) (by omega)) (fun p q g1 g2 g3 g4 g5 => ?_) (fun q g1 g2 => ?_) fun l' H' x t k1 k2 k3 k4 => hQ l' H' x t (hP.trans k1) k2 (fr1.trans (Fr.set.trans k3)) k4
      · rw [ks, ks, if_neg g4, if_neg g5]
        by_cases e1 : p = j + 1
        · rw [if_pos e1, if_neg (by omega)]
          exact hA j q (by omega) (by omega) g3 (by omega) (by omega)
        · rw [if_neg e1]
          by_cases e2 : q = j + 1
          · rw [if_pos e2]
            exact hA p j g1 (by omega) (by omega) e1 (by omega)
          · rw [if_neg e2]
            exact hA p q g1 g2 g3 e1 e2
      · rw [ks, ks, if_pos rfl, if_neg (by omega)]
        by_cases e2 : q = j + 1
        · rw [if_pos e2]; omega
        · rw [if_neg e2]
          exact hB q (by omega) g2
    · simp only [go_sem, zA, zB, zC, reduceIte, zD, zE, zF, zG, zH, zI, reduceCtorEq, zJ, zK, zL, zM, zN, zO, zP, hc]
      refine hQ l H1 _ _ PermOn.refl (fun p q g1 g2 g3 => ?_) fr1 hg1
      have hk : key l j ≤ key l (j + 1) := by unfold key; omega
      by_cases e : p = j + 1
      · subst e; exact hB q (by omega) (by omega)
      · by_cases e2 : q = j + 1
        · subst e2
          by_cases e3 : p = j
          · subst e3; exact hk
          · exact Nat.le_trans (hA p j g1 (by omega) (by omega) e (by omega)) hk
        · exact hA p q g1 g2 (by omega) e e2
theorem q_pi2 {n a b i sb : Nat} (hn : n ≤ 1000000) (hb : b ≤ n) {iv jv : AV} {Q : Ctl → St → Prop} : ∀ (m j : Nat) (l : List S) (H : Heap), b - j ≤ m → i < j → l.length = n → H.get sb = .cells (scells l) .own →
    (∀ l' H' x t, PermOn i b l l' → Fr sb .nils H H' → H'.get sb = .cells (scells l') .own → Q (.exit 6) { p := (0, slV sb n) :: (1, .int .i64 (a : Int)) :: (2, .int .i64 (b : Int)) :: (3, cmpV) :: (9, iv) :: (10, jv) :: x, t := t, H := H', d := [], u := .norm }) →
    wpl ⟨bt.get, o⟩ [0, 1, 2, 3, 9, 10, 12] lb_slices_partialInsertionSortCmpFunc_runes_span_2 { p := [(0, slV sb n), (1, .int .i64 (a : Int)), (2, .int .i64 (b : Int)), (3, cmpV), (9, iv), (10, jv), (12, .int .i64 (j : Int))], t := [], H := H, d := [], u := .norm } Q := by
  intro m
  induction m with
  | zero =>
    intro j l H h1 h2 hl hg hQ
    rw [wpl_step]
    have c1 : ¬ ((j : Int) < (b : Int)) := by omega
    simp only [lb_slices_partialInsertionSortCmpFunc_runes_span_2, go_sem, zA, zB, zC, reduceIte, zD, zE, zF, zG, zH, zI, reduceCtorEq, zJ, zK, zL, zM, zN, zO, zP, c1]
    exact hQ l H _ _ PermOn.refl Fr.refl hg
  | succ m ih =>
    intro j l H h1 h2 hl hg hQ
    rw [wpl_step]
    by_cases c : j < b
    · have c1 : ((j : Int) < (b : Int)) := by omega
      obtain ⟨i1, i2, i3⟩ := at_idx (i := j) hl (by omega)
      obtain ⟨a1, a2, a3⟩ := at_idx (i := j - 1) hl (by omega)
      have wp := wpred (show 0 < j by omega) (show j ≤ 1000000000 by omega)
      simp only [lb_slices_partialInsertionSortCmpFunc_runes_span_2, go_sem, zA, zB, zC, reduceIte, zD, zE, zF, zG, zH, zI, reduceCtorEq, zJ, zK, zL, zM, zN, zO, zP, c1, i1, i2, i3, a1, a2, a3, wp, hg]
      refine c_cmp ho fun H1 hx1 => ?_
      have hg1 : H1.get sb = .cells (scells l) .own := by rw [hx1.2 sb (Heap.lt_of_get (by rw [hg]; simp)), hg]
      have hlt1 : sb < H1.size := Heap.lt_of_get (by rw [hg1]; simp)
      have fr1 : Fr sb .nils H H1 := Fr.ofExt hx1
      simp only [go_sem, zA, zB, zC, reduceIte, zD, zE, zF, zG, zH, zI, reduceCtorEq, zJ, zK, zL, zM, zN, zO, zP, cmpZ_lt']
      by_cases hc : (l.getD j (0, 0)).1 < (l.getD (j - 1) (0, 0)).1
      · obtain ⟨s1, s2, s3⟩ := sw_facts (i := j) (j := j - 1) hl (by omega) (by omega)
        simp only [go_sem, zA, zB, zC, reduceIte, zD, zE, zF, zG, zH, zI, reduceCtorEq, zJ, zK, zL, zM, zN, zO, zP, hc, i1, i2, i3, a1, a2, a3, wp, hg1, s1, s2, s3, S.cells, Heap.get_set_self hlt1, wsucc (show j ≤ 1000000000 by omega)]
        exact ih (j + 1) (swp l j (j - 1)) _ (by omega) (by omega) (by rw [swp_len]; exact hl) (Heap.get_set_self hlt1) fun l' H' x t k1 k2 k3 => hQ l' H' x t ((PermOn.swp (by omega) (by omega) (by omega) (by omega) (by omega)).trans k1) (fr1.trans (Fr.set.trans k2)) k3
      · simp only [go_sem, zA, zB, zC, reduceIte, zD, zE, zF, zG, zH, zI, reduceCtorEq, zJ, zK, zL, zM, zN, zO, zP, hc]
        exact hQ l H1 _ _ PermOn.refl fr1 hg1
    · have c1 : ¬ ((j : Int) < (b : Int)) := by omega
      simp only [lb_slices_partialInsertionSortCmpFunc_runes_span_2, go_sem, zA, zB, zC, reduceIte, zD, zE, zF, zG, zH, zI, reduceCtorEq, zJ, zK, zL, zM, zN, zO, zP, c1]
      exact hQ l H _ _ PermOn.refl Fr.refl hg
end
end Go.Ev
