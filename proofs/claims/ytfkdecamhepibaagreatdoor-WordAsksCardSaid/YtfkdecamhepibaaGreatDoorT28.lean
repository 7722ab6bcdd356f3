/- Several texts of this claim, joined. -/
import Derived.Test.YtfkdecamhepibaaGreatDoorT27
set_option linter.unusedSimpArgs false
set_option linter.unusedVariables false

/- Sorting of spans, further: the partitions. -/
namespace Go.Ev
open Go
open Go.Ev renaming seqK_normal → zA, blockK_normal → zB, blockK_exit → zC
open Nat renaming reduceEqDiff → zD, reduceAdd → zE, reduceSub → zF, reduceMul → zG, reduceLeDiff → zH, reduceLT → zI
open Int renaming reduceToNat → zJ, reduceLT → zK, reduceLE → zL, reduceEq → zM, reduceAdd → zN, reduceSub → zO, reduceMul → zP
set_option maxRecDepth 8000
section
variable {o : CallF} (ho : OvOnly o)
include ho
theorem q_part4 {n a b sb : Nat} (hn : n ≤ 1000000) (hb : b ≤ n) {Q : Ctl → St → Prop} : ∀ (m i j : Nat) (l : List S) (H : Heap), j + 1 - i ≤ m → a < i → i ≤ j + 1 → j < b → l.length = n → H.get sb = .cells (scells l) .own →
    (∀ p, a < p → p < i → key l p < key l a) → (∀ p, j < p → p < b → ¬ key l p < key l a) →
    (∀ l' H' (j' : Nat) x t r, PermOn (a + 1) b l l' → Fr sb .nils H H' → H'.get sb = .cells (scells l') .own → a ≤ j' → j' < b → (∀ p, a < p → p ≤ j' → key l' p < key l' a) → (∀ p, j' < p → p < b → ¬ key l' p < key l' a) →
      Q (.exit 4) { p := (0, slV sb n) :: (1, .int .i64 (a : Int)) :: (4, cmpV) :: (12, x) :: (13, .int .i64 (j' : Int)) :: t, t := r, H := H', d := [], u := .norm }) →
    wpl ⟨bt.get, o⟩ [0, 1, 4, 12, 13] lb_slices_partitionCmpFunc_runes_span_4 { p := [(0, slV sb n), (1, .int .i64 (a : Int)), (4, cmpV), (12, .int .i64 (i : Int)), (13, .int .i64 (j : Int))], t := [], H := H, d := [], u := .norm } Q := by
  intro m
  induction m with
  | zero =>
    intro i j l H h1 h2 h3 h4 hl hg hA hB hQ
    rw [wpl_step]
    simp only [lb_slices_partitionCmpFunc_runes_span_4, go_sem, zA, zB, zC, reduceIte, zD, zE, zF, zG, zH, zI, reduceCtorEq, zJ, zK, zL, zM, zN, zO, zP]
    refine q_up2 ho hn hb h4 hl _ i H (Nat.le_refl _) h2 hg fun i1 H1 x1 t1 a1 a2 a3 a4 e1 => ?_
    have g1 : H1.get sb = .cells (scells l) .own := by rw [e1.2 sb (Heap.lt_of_get (by rw [hg]; simp)), hg]
    simp only [go_sem, zA, zB, zC, reduceIte, zD, zE, zF, zG, zH, zI, reduceCtorEq, zJ, zK, zL, zM, zN, zO, zP]
    refine q_dn3 ho hn hb (by omega) hl _ j H1 (Nat.le_refl _) h4 (by omega) g1 fun j1 H2 x2 t2 b1 b2 b3 b4 e2 => ?_
    have g2 : H2.get sb = .cells (scells l) .own := by rw [e2.2 sb (Heap.lt_of_get (by rw [g1]; simp)), g1]
    have c1 : ((j1 : Int) < (i1 : Int)) := by omega
    simp only [go_sem, zA, zB, zC, reduceIte, zD, zE, zF, zG, zH, zI, reduceCtorEq, zJ, zK, zL, zM, zN, zO, zP, c1]
    refine hQ l H2 j1 _ _ _ PermOn.refl ((Fr.ofExt e1).trans (Fr.ofExt e2)) g2 (by omega) (by omega) (fun p p1 p2 => hA p p1 (by omega)) (fun p p1 p2 => ?_)
    by_cases hp : p ≤ j
    · exact b3 p p1 hp
    · exact hB p (by omega) p2
  | succ m ih =>
    intro i j l H h1 h2 h3 h4 hl hg hA hB hQ
    rw [wpl_step]
    simp only [lb_slices_partitionCmpFunc_runes_span_4, go_sem, zA, zB, zC, reduceIte, zD, zE, zF, zG, zH, zI, reduceCtorEq, zJ, zK, zL, zM, zN, zO, zP]
    refine q_up2 ho hn hb h4 hl _ i H (Nat.le_refl _) h2 hg fun i1 H1 x1 t1 a1 a2 a3 a4 e1 => ?_
    have g1 : H1.get sb = .cells (scells l) .own := by rw [e1.2 sb (Heap.lt_of_get (by rw [hg]; simp)), hg]
    simp only [go_sem, zA, zB, zC, reduceIte, zD, zE, zF, zG, zH, zI, reduceCtorEq, zJ, zK, zL, zM, zN, zO, zP]
    refine q_dn3 ho hn hb (by omega) hl _ j H1 (Nat.le_refl _) h4 (by omega) g1 fun j1 H2 x2 t2 b1 b2 b3 b4 e2 => ?_
    have g2 : H2.get sb = .cells (scells l) .own := by rw [e2.2 sb (Heap.lt_of_get (by rw [g1]; simp)), g1]
    have f2 : Fr sb .nils H H2 := (Fr.ofExt e1).trans (Fr.ofExt e2)
    have hA1 : ∀ p, a < p → p < i1 → key l p < key l a := fun p p1 p2 => by
      by_cases hp : p < i
      · exact hA p p1 hp
      · exact a3 p (by omega) p2
    have hB1 : ∀ p, j1 < p → p < b → ¬ key l p < key l a := fun p p1 p2 => by
      by_cases hp : p ≤ j
      · exact b3 p p1 hp
      · exact hB p (by omega) p2
    by_cases c : j1 < i1
    · have c1 : ((j1 : Int) < (i1 : Int)) := by omega
      simp only [go_sem, zA, zB, zC, reduceIte, zD, zE, zF, zG, zH, zI, reduceCtorEq, zJ, zK, zL, zM, zN, zO, zP, c1]
      exact hQ l H2 j1 _ _ _ PermOn.refl f2 g2 (by omega) (by omega) (fun p p1 p2 => hA1 p p1 (by omega)) hB1
    · have c1 : ¬ ((j1 : Int) < (i1 : Int)) := by omega
      have k1 := a4 (by omega)
      have k2 := b4 (by omega)
      have hij : i1 ≠ j1 := by intro e; rw [e] at k1; exact k2 k1
      obtain ⟨i2, i3, i4⟩ := at_idx (i := i1) hl (by omega)
      obtain ⟨j2, j3, j4⟩ := at_idx (i := j1) hl (by omega)
      obtain ⟨s1, s2, s3⟩ := sw_facts (i := i1) (j := j1) hl (by omega) (by omega)
      have hlt : sb < H2.size := Heap.lt_of_get (by rw [g2]; simp)
      simp only [go_sem, zA, zB, zC, reduceIte, zD, zE, zF, zG, zH, zI, reduceCtorEq, zJ, zK, zL, zM, zN, zO, zP, c1, i2, i3, i4, j2, j3, j4, g2, s1, s2, s3, S.cells, Heap.get_set_self hlt, wsucc (show i1 ≤ 1000000000 by omega), wpred (show 0 < j1 by omega) (show j1 ≤ 1000000000 by omega)]
      have ks := key_swp (l := l) (i := i1) (j := j1) (by omega) (by omega)
      have ka : key (swp l i1 j1) a = key l a := by rw [ks, if_neg (by omega), if_neg (by omega)]
      refine ih (i1 + 1) (j1 - 1) (swp l i1 j1) _ (by omega) (by omega) (by omega) (by omega) (by rw [swp_len]; exact hl) (Heap.get_set_self hlt) (fun p p1 p2 => ?_) (fun p p1 p2 => ?_) fun l' H' j' x t r q1 q2 q3 q4 q5 q6 q7 => hQ l' H' j' x t r ((PermOn.swp (by omega) (by omega) (by omega) (by omega) (by omega)).trans q1) (f2.trans (Fr.set.trans q2)) q3 q4 q5 q6 q7
      · rw [ka, ks]
        split
        · omega
        · split
          · exact Classical.not_not.1 k2
          · exact hA1 p p1 (by omega)
      · rw [ka, ks]
        split
        · exact k1
        · split
          · omega
          · exact hB1 p (by omega) p2
theorem q_partition {n sb a b pv : Nat} (hn : n ≤ 1000000) {l : List S} {H : Heap} (hl : l.length = n) (hg : H.get sb = .cells (scells l) .own) (hap : a ≤ pv) (hpb : pv < b) (hb : b ≤ n) {Q : End → Heap → Prop}
    (h : ∀ l' H' (mid : Nat) w, PermOn a b l l' → Fr sb .nils H H' → H'.get sb = .cells (scells l') .own → a ≤ mid → mid < b → (∀ p, a ≤ p → p < mid → key l' p ≤ key l' mid) → (∀ p, mid < p → p < b → key l' mid ≤ key l' p) → Q (.ret (.tup [.int .i64 (mid : Int), .bool w])) H') :
    wpf ⟨bt.get, o⟩ F_slices_partitionCmpFunc_runes_span [slV sb n, .int .i64 (a : Int), .int .i64 (b : Int), .int .i64 (pv : Int), cmpV] H Q := by
  rw [fn_slices_partitionCmpFunc_runes_span (ho _ _ _ (by decide))]
  obtain ⟨a1, a2, a3⟩ := at_idx (i := a) hl (by omega)
  obtain ⟨p1, p2, p3⟩ := at_idx (i := pv) hl (by omega)
  obtain ⟨s1, s2, s3⟩ := sw_facts (i := a) (j := pv) hl (by omega) (by omega)
  have hlt : sb < H.size := Heap.lt_of_get (by rw [hg]; simp)
  simp only [bd_slices_partitionCmpFunc_runes_span, go_sem, zA, zB, zC, reduceIte, zD, zE, zF, zG, zH, zI, reduceCtorEq, zJ, zK, zL, zM, zN, zO, zP, a1, a2, a3, p1, p2, p3, hg, s1, s2, s3, S.cells, Heap.get_set_self hlt, wsucc (show a ≤ 1000000000 by omega), wpred (show 0 < b by omega) (show b ≤ 1000000000 by omega)]
  have hl0 : (swp l a pv).length = n := by rw [swp_len]; exact hl
  have P0 : PermOn a b l (swp l a pv) := PermOn.swp (by omega) (by omega) (by omega) (by omega) (by omega)
  have f0 : Fr sb .nils H (H.set sb (.cells (scells (swp l a pv)) .own)) := Fr.set
  have g0 : (H.set sb (.cells (scells (swp l a pv)) .own)).get sb = .cells (scells (swp l a pv)) .own := Heap.get_set_self hlt
  generalize swp l a pv = l0 at hl0 P0 f0 g0 ⊢
  generalize H.set sb (.cells (scells l0) .own) = H0 at f0 g0 ⊢
  -- the last change of places
  have last : ∀ (l1 : List S) (H1 : Heap) (j : Nat), PermOn a b l0 l1 → H1.get sb = .cells (scells l1) .own → a ≤ j → j < b → (∀ p, a < p → p ≤ j → key l1 p < key l1 a) → (∀ p, j < p → p < b → ¬ key l1 p < key l1 a) →
      PermOn a b l (swp l1 j a) ∧ (∀ p, a ≤ p → p < j → key (swp l1 j a) p ≤ key (swp l1 j a) j) ∧ (∀ p, j < p → p < b → key (swp l1 j a) j ≤ key (swp l1 j a) p) := by
    intro l1 H1 j q1 q2 q3 q4 q5 q6
    have hl1 : l1.length = n := by rw [q1.len]; exact hl0
    have ks := key_swp (l := l1) (i := j) (j := a) (by omega) (by omega)
    have kj : key (swp l1 j a) j = key l1 a := by
      rw [ks]
      split
      · rename_i e; rw [e]
      · rw [if_pos rfl]
    refine ⟨(P0.trans q1).trans (PermOn.swp (by omega) (by omega) (by omega) (by omega) (by omega)), fun p r1 r2 => ?_, fun p r1 r2 => ?_⟩
    · rw [kj, ks]
      split
      · by_cases e : j = a
        · omega
        · exact Nat.le_of_lt (q5 j (by omega) (Nat.le_refl _))
      · rw [if_neg (by omega)]
        exact Nat.le_of_lt (q5 p (by omega) (by omega))
    · rw [kj, ks, if_neg (by omega), if_neg (by omega)]
      exact Nat.le_of_not_lt (q6 p r1 r2)
  refine q_up0 ho hn hb (show b - 1 < b by omega) hl0 _ (a + 1) H0 (Nat.le_refl _) (by omega) g0 fun i1 H1 x1 t1 c1 c2 c3 c4 e1 => ?_
  have g1 : H1.get sb = .cells (scells l0) .own := by rw [e1.2 sb (Heap.lt_of_get (by rw [g0]; simp)), g0]
  simp only [go_sem, zA, zB, zC, reduceIte, zD, zE, zF, zG, zH, zI, reduceCtorEq, zJ, zK, zL, zM, zN, zO, zP]
  refine q_dn1 ho hn hb (show a < i1 by omega) hl0 _ (b - 1) H1 (Nat.le_refl _) (by omega) (by omega) g1 fun j1 H2 x2 t2 d1 d2 d3 d4 e2 => ?_
  have g2 : H2.get sb = .cells (scells l0) .own := by rw [e2.2 sb (Heap.lt_of_get (by rw [g1]; simp)), g1]
  have f2 : Fr sb .nils H H2 := f0.trans ((Fr.ofExt e1).trans (Fr.ofExt e2))
  have hlt2 : sb < H2.size := Heap.lt_of_get (by rw [g2]; simp)
  obtain ⟨a4, a5, a6⟩ := at_idx (i := a) hl0 (by omega)
  obtain ⟨j4, j5, j6⟩ := at_idx (i := j1) hl0 (by omega)
  have hA1 : ∀ p, a < p → p < i1 → key l0 p < key l0 a := fun p p1 p2 => c3 p (by omega) p2
  have hB1 : ∀ p, j1 < p → p < b → ¬ key l0 p < key l0 a := fun p p1 p2 => d3 p p1 (by omega)
  by_cases c : j1 < i1
  · have z1 : ((j1 : Int) < (i1 : Int)) := by omega
    obtain ⟨s4, s5, s6⟩ := sw_facts (i := j1) (j := a) hl0 (by omega) (by omega)
    simp only [go_sem, zA, zB, zC, reduceIte, zD, zE, zF, zG, zH, zI, reduceCtorEq, zJ, zK, zL, zM, zN, zO, zP, z1, a4, a5, a6, j4, j5, j6, g2, s4, s5, s6, S.cells, Heap.get_set_self hlt2]
    obtain ⟨r1, r2, r3⟩ := last l0 H2 j1 PermOn.refl g2 (by omega) (by omega) (fun p p1 p2 => hA1 p p1 (by omega)) hB1
    exact h _ _ j1 true r1 (f2.trans Fr.set) (Heap.get_set_self hlt2) (by omega) (by omega) r2 r3
  · have z1 : ¬ ((j1 : Int) < (i1 : Int)) := by omega
    have k1 := c4 (by omega)
    have k2 := d4 (by omega)
    have hij : i1 ≠ j1 := by intro e; rw [e] at k1; exact k2 k1
    obtain ⟨i4, i5, i6⟩ := at_idx (i := i1) hl0 (by omega)
    obtain ⟨s4, s5, s6⟩ := sw_facts (i := i1) (j := j1) hl0 (by omega) (by omega)
    simp only [go_sem, zA, zB, zC, reduceIte, zD, zE, zF, zG, zH, zI, reduceCtorEq, zJ, zK, zL, zM, zN, zO, zP, z1, i4, i5, i6, j4, j5, j6, g2, s4, s5, s6, S.cells, Heap.get_set_self hlt2, wsucc (show i1 ≤ 1000000000 by omega), wpred (show 0 < j1 by omega) (show j1 ≤ 1000000000 by omega)]
    have ks := key_swp (l := l0) (i := i1) (j := j1) (by omega) (by omega)
    have ka : key (swp l0 i1 j1) a = key l0 a := by rw [ks, if_neg (by omega), if_neg (by omega)]
    refine q_part4 ho hn hb _ (i1 + 1) (j1 - 1) (swp l0 i1 j1) _ (Nat.le_refl _) (by omega) (by omega) (by omega) (by rw [swp_len]; exact hl0) (Heap.get_set_self hlt2) (fun p p1 p2 => ?_) (fun p p1 p2 => ?_) fun l1 H3 j3 x t r q1 q2 q3 q4 q5 q6 q7 => ?_
    · rw [ka, ks]
      split
      · omega
      · split
        · exact Classical.not_not.1 k2
        · exact hA1 p p1 (by omega)
    · rw [ka, ks]
      split
      · exact k1
      · split
        · omega
        · exact hB1 p (by omega) p2
    have q1' : PermOn a b l0 l1 := (PermOn.swp (by omega) (by omega) (by omega) (by omega) (by omega)).trans (q1.widen (by omega) (Nat.le_refl _))
    have hl1 : l1.length = n := by rw [q1'.len]; exact hl0
    have hlt3 : sb < H3.size := Heap.lt_of_get (by rw [q3]; simp)
    obtain ⟨a7, a8, a9⟩ := at_idx (i := a) hl1 (by omega)
    obtain ⟨j7, j8, j9⟩ := at_idx (i := j3) hl1 (by omega)
    obtain ⟨s7, s8, s9⟩ := sw_facts (i := j3) (j := a) hl1 (by omega) (by omega)
    simp only [go_sem, zA, zB, zC, reduceIte, zD, zE, zF, zG, zH, zI, reduceCtorEq, zJ, zK, zL, zM, zN, zO, zP, a7, a8, a9, j7, j8, j9, q3, s7, s8, s9, S.cells, Heap.get_set_self hlt3]
    obtain ⟨r1, r2, r3⟩ := last l1 H3 j3 q1' q3 (by omega) (by omega) q6 q7
    exact h _ _ j3 false r1 ((f2.trans (Fr.set.trans q2)).trans Fr.set) (Heap.get_set_self hlt3) (by omega) (by omega) r2 r3
end
/- Sorting of spans, further: the partition of equal ones. -/
set_option maxRecDepth 8000
section
variable {o : CallF} (ho : OvOnly o)
include ho
theorem q_eq2 {n a b sb : Nat} (hn : n ≤ 1000000) (hb : b ≤ n) {Q : Ctl → St → Prop} : ∀ (m i j : Nat) (l : List S) (H : Heap), j + 1 - i ≤ m → a < i → i ≤ j + 1 → j < b → l.length = n → H.get sb = .cells (scells l) .own →
    (∀ p, a < p → p < i → ¬ key l a < key l p) → (∀ p, j < p → p < b → key l a < key l p) →
    (∀ l' H' (i' : Nat) x t r, PermOn (a + 1) b l l' → Fr sb .nils H H' → H'.get sb = .cells (scells l') .own → a < i' → i' ≤ b → (∀ p, a < p → p < i' → ¬ key l' a < key l' p) → (∀ p, i' ≤ p → p < b → key l' a < key l' p) →
      Q (.exit 0) { p := (0, slV sb n) :: (1, .int .i64 (a : Int)) :: (4, cmpV) :: (11, .int .i64 (i' : Int)) :: (12, x) :: t, t := r, H := H', d := [], u := .norm }) →
    wpl ⟨bt.get, o⟩ [0, 1, 4, 11, 12] lb_slices_partitionEqualCmpFunc_runes_span_2 { p := [(0, slV sb n), (1, .int .i64 (a : Int)), (4, cmpV), (11, .int .i64 (i : Int)), (12, .int .i64 (j : Int))], t := [], H := H, d := [], u := .norm } Q := by
  intro m
  induction m with
  | zero =>
    intro i j l H h1 h2 h3 h4 hl hg hA hB hQ
    rw [wpl_step]
    simp only [lb_slices_partitionEqualCmpFunc_runes_span_2, go_sem, zA, zB, zC, reduceIte, zD, zE, zF, zG, zH, zI, reduceCtorEq, zJ, zK, zL, zM, zN, zO, zP]
    refine q_eu0 ho hn hb h4 hl _ i H (Nat.le_refl _) h2 hg fun i1 H1 x1 t1 a1 a2 a3 a4 e1 => ?_
    have g1 : H1.get sb = .cells (scells l) .own := by rw [e1.2 sb (Heap.lt_of_get (by rw [hg]; simp)), hg]
    simp only [go_sem, zA, zB, zC, reduceIte, zD, zE, zF, zG, zH, zI, reduceCtorEq, zJ, zK, zL, zM, zN, zO, zP]
    refine q_ed1 ho hn hb (by omega) hl _ j H1 (Nat.le_refl _) h4 (by omega) g1 fun j1 H2 x2 t2 b1 b2 b3 b4 e2 => ?_
    have g2 : H2.get sb = .cells (scells l) .own := by rw [e2.2 sb (Heap.lt_of_get (by rw [g1]; simp)), g1]
    have c1 : ((j1 : Int) < (i1 : Int)) := by omega
    simp only [go_sem, zA, zB, zC, reduceIte, zD, zE, zF, zG, zH, zI, reduceCtorEq, zJ, zK, zL, zM, zN, zO, zP, c1]
    refine hQ l H2 i1 _ _ _ PermOn.refl ((Fr.ofExt e1).trans (Fr.ofExt e2)) g2 (by omega) (by omega) (fun p p1 p2 => hA p p1 (by omega)) (fun p p1 p2 => ?_)
    exact hB p (by omega) p2
  | succ m ih =>
    intro i j l H h1 h2 h3 h4 hl hg hA hB hQ
    rw [wpl_step]
    simp only [lb_slices_partitionEqualCmpFunc_runes_span_2, go_sem, zA, zB, zC, reduceIte, zD, zE, zF, zG, zH, zI, reduceCtorEq, zJ, zK, zL, zM, zN, zO, zP]
    refine q_eu0 ho hn hb h4 hl _ i H (Nat.le_refl _) h2 hg fun i1 H1 x1 t1 a1 a2 a3 a4 e1 => ?_
    have g1 : H1.get sb = .cells (scells l) .own := by rw [e1.2 sb (Heap.lt_of_get (by rw [hg]; simp)), hg]
    simp only [go_sem, zA, zB, zC, reduceIte, zD, zE, zF, zG, zH, zI, reduceCtorEq, zJ, zK, zL, zM, zN, zO, zP]
    refine q_ed1 ho hn hb (by omega) hl _ j H1 (Nat.le_refl _) h4 (by omega) g1 fun j1 H2 x2 t2 b1 b2 b3 b4 e2 => ?_
    have g2 : H2.get sb = .cells (scells l) .own := by rw [e2.2 sb (Heap.lt_of_get (by rw [g1]; simp)), g1]
    have f2 : Fr sb .nils H H2 := (Fr.ofExt e1).trans (Fr.ofExt e2)
    have hA1 : ∀ p, a < p → p < i1 → ¬ key l a < key l p := fun p p1 p2 => by
      by_cases hp : p < i
      · exact hA p p1 hp
      · exact a3 p (by omega) p2
    have hB1 : ∀ p, j1 < p → p < b → key l a < key l p := fun p p1 p2 => by
      by_cases hp : p ≤ j
      · exact b3 p p1 hp
      · exact hB p (by omega) p2
    by_cases c : j1 < i1
    · have c1 : ((j1 : Int) < (i1 : Int)) := by omega
      simp only [go_sem, zA, zB, zC, reduceIte, zD, zE, zF, zG, zH, zI, reduceCtorEq, zJ, zK, zL, zM, zN, zO, zP, c1]
      exact hQ l H2 i1 _ _ _ PermOn.refl f2 g2 (by omega) (by omega) hA1 (fun p p1 p2 => hB1 p (by omega) p2)
    · have c1 : ¬ ((j1 : Int) < (i1 : Int)) := by omega
      have k1 := a4 (by omega)
      have k2 := b4 (by omega)
      have hij : i1 ≠ j1 := by intro e; rw [e] at k1; exact k1 k2
      obtain ⟨i2, i3, i4⟩ := at_idx (i := i1) hl (by omega)
      obtain ⟨j2, j3, j4⟩ := at_idx (i := j1) hl (by omega)
      obtain ⟨s1, s2, s3⟩ := sw_facts (i := i1) (j := j1) hl (by omega) (by omega)
      have hlt : sb < H2.size := Heap.lt_of_get (by rw [g2]; simp)
      simp only [go_sem, zA, zB, zC, reduceIte, zD, zE, zF, zG, zH, zI, reduceCtorEq, zJ, zK, zL, zM, zN, zO, zP, c1, i2, i3, i4, j2, j3, j4, g2, s1, s2, s3, S.cells, Heap.get_set_self hlt, wsucc (show i1 ≤ 1000000000 by omega), wpred (show 0 < j1 by omega) (show j1 ≤ 1000000000 by omega)]
      have ks := key_swp (l := l) (i := i1) (j := j1) (by omega) (by omega)
      have ka : key (swp l i1 j1) a = key l a := by rw [ks, if_neg (by omega), if_neg (by omega)]
      refine ih (i1 + 1) (j1 - 1) (swp l i1 j1) _ (by omega) (by omega) (by omega) (by omega) (by rw [swp_len]; exact hl) (Heap.get_set_self hlt) (fun p p1 p2 => ?_) (fun p p1 p2 => ?_) fun l' H' i' x t r q1 q2 q3 q4 q5 q6 q7 => hQ l' H' i' x t r ((PermOn.swp (by omega) (by omega) (by omega) (by omega) (by omega)).trans q1) (f2.trans (Fr.set.trans q2)) q3 q4 q5 q6 q7
      · rw [ka, ks]
        split
        · omega
        · split
          · exact k2
          · exact hA1 p p1 (by omega)
      · rw [ka, ks]
        split
        · exact Classical.not_not.1 k1
        · split
          · omega
          · exact hB1 p (by omega) p2
theorem q_partEq {n sb a b pv : Nat} (hn : n ≤ 1000000) {l : List S} {H : Heap} (hl : l.length = n) (hg : H.get sb = .cells (scells l) .own) (hap : a ≤ pv) (hpb : pv < b) (hb : b ≤ n) {Q : End → Heap → Prop}
    (h : ∀ l' H' (mid : Nat), PermOn a b l l' → Fr sb .nils H H' → H'.get sb = .cells (scells l') .own → a < mid → mid ≤ b → key l' a = key l pv → (∀ p, a ≤ p → p < mid → key l' p ≤ key l' a) → (∀ p, mid ≤ p → p < b → key l' a < key l' p) → Q (.ret (.int .i64 (mid : Int))) H') :
    wpf ⟨bt.get, o⟩ F_slices_partitionEqualCmpFunc_runes_span [slV sb n, .int .i64 (a : Int), .int .i64 (b : Int), .int .i64 (pv : Int), cmpV] H Q := by
  rw [fn_slices_partitionEqualCmpFunc_runes_span (ho _ _ _ (by decide))]
  obtain ⟨a1, a2, a3⟩ := at_idx (i := a) hl (by omega)
  obtain ⟨p1, p2, p3⟩ := at_idx (i := pv) hl (by omega)
  obtain ⟨s1, s2, s3⟩ := sw_facts (i := a) (j := pv) hl (by omega) (by omega)
  have hlt : sb < H.size := Heap.lt_of_get (by rw [hg]; simp)
  simp only [bd_slices_partitionEqualCmpFunc_runes_span, go_sem, zA, zB, zC, reduceIte, zD, zE, zF, zG, zH, zI, reduceCtorEq, zJ, zK, zL, zM, zN, zO, zP, a1, a2, a3, p1, p2, p3, hg, s1, s2, s3, S.cells, Heap.get_set_self hlt, wsucc (show a ≤ 1000000000 by omega), wpred (show 0 < b by omega) (show b ≤ 1000000000 by omega)]
  have ks := key_swp (l := l) (i := a) (j := pv) (by omega) (by omega)
  have k0 : key (swp l a pv) a = key l pv := by
    rw [ks]
    split
    · rename_i e; rw [e]
    · rw [if_pos rfl]
  have P0 : PermOn a b l (swp l a pv) := PermOn.swp (by omega) (by omega) (by omega) (by omega) (by omega)
  refine q_eq2 ho hn hb _ (a + 1) (b - 1) (swp l a pv) _ (Nat.le_refl _) (by omega) (by omega) (by omega) (by rw [swp_len]; exact hl) (Heap.get_set_self hlt) (fun p p1 p2 => by omega) (fun p p1 p2 => by omega) fun l1 H3 i3 x t r q1 q2 q3 q4 q5 q6 q7 => ?_
  simp only [go_sem, zA, zB, zC, reduceIte, zD, zE, zF, zG, zH, zI, reduceCtorEq, zJ, zK, zL, zM, zN, zO, zP]
  refine h l1 H3 i3 (P0.trans (q1.widen (by omega) (Nat.le_refl _))) (Fr.set.trans q2) q3 q4 q5 ((key_out q1 (.inl (by omega))).trans k0) (fun p r1 r2 => ?_) q7
  by_cases e : p = a
  · rw [e]; exact Nat.le_refl _
  · exact Nat.le_of_not_lt (q6 p (by omega) r2)
end
/- Sorting of spans: all of it. -/
set_option maxRecDepth 8000
theorem SortedOn.perm_all {a b : Nat} {l l' : List S} (h : PermOn a b l l') (hb : b ≤ l.length) {a' b' : Nat} (h1 : b' ≤ a ∨ b ≤ a') (hS : SortedOn a' b' l) : SortedOn a' b' l' := fun p q p1 p2 p3 => by
  rw [key_out h (by omega), key_out h (by omega)]; exact hS p q p1 p2 p3
theorem glue {a mid b : Nat} {l : List S} (hlo : ∀ p, a ≤ p → p < mid → key l p ≤ key l mid) (hhi : ∀ p, mid < p → p < b → key l mid ≤ key l p) (h1 : SortedOn a mid l) (h2 : SortedOn (mid + 1) b l) : SortedOn a b l := fun p q p1 p2 p3 => by
  rcases Nat.lt_or_ge p mid with h | h
  · rcases Nat.lt_or_ge q mid with k | k
    · exact h1 p q p1 p2 k
    · rcases Nat.eq_or_lt_of_le k with e | e
      · rw [← e]; exact hlo p p1 h
      · exact Nat.le_trans (hlo p p1 h) (hhi q e p3)
  · rcases Nat.eq_or_lt_of_le h with e | e
    · rw [← e]; exact hhi q (by omega) p3
    · exact h2 p q (by omega) p2 p3
section
variable {o : CallF} (ho : OvOnly o)
include ho
theorem q_pdq_loop {n sb : Nat} (hn : n ≤ 60000) : ∀ (m a b : Nat) (l : List S) (H : Heap) (lim : Int) (wb wp : Bool) (Q : Ctl → St → Prop), b - a ≤ m → a ≤ b → b ≤ n → l.length = n → H.get sb = .cells (scells l) .own → LowB a b l →
    (∀ l' σ, PermOn a b l l' → SortedOn a b l' → Fr sb .nils H σ.H → σ.H.get sb = .cells (scells l') .own → σ.d = [] → σ.u = .norm → Q .ret σ) →
    wpl ⟨bt.get, o⟩ [0, 1, 2, 3, 4, 10, 11] lb_slices_pdqsortCmpFunc_runes_span_0 { p := [(0, slV sb n), (1, .int .i64 (a : Int)), (2, .int .i64 (b : Int)), (3, .int .i64 lim), (4, cmpV), (10, .bool wb), (11, .bool wp)], t := [], H := H, d := [], u := .norm } Q := by
  intro m
  induction m with
  | zero =>
    intro a b l H lim wb wp Q h1 h2 h3 hl hg hL hQ
    rw [wpl_step]
    have w1 : IntKind.i64.wrap ((b : Int) - (a : Int)) = ((b - a : Nat) : Int) := by rw [wi64 (by omega) (by omega)]; omega
    have c1 : ((b - a : Nat) : Int) ≤ 12 := by omega
    simp only [lb_slices_pdqsortCmpFunc_runes_span_0, go_sem, zA, zB, zC, reduceIte, zD, zE, zF, zG, zH, zI, reduceCtorEq, zJ, zK, zL, zM, zN, zO, zP, w1, c1]
    refine ins_sort ho (by omega) h3 hl hg (by omega) fun l' H' k1 k2 k3 k4 => ?_
    simp only [go_sem, zA, zB, zC, reduceIte, zD, zE, zF, zG, zH, zI, reduceCtorEq, zJ, zK, zL, zM, zN, zO, zP]
    exact hQ l' _ k1 k2 k3 k4 rfl rfl
  | succ m ih =>
    intro a b l H lim wb wp Q h1 h2 h3 hl hg hL hQ
    rw [wpl_step]
    have w1 : IntKind.i64.wrap ((b : Int) - (a : Int)) = ((b - a : Nat) : Int) := by rw [wi64 (by omega) (by omega)]; omega
    by_cases c : b - a ≤ 12
    · have c1 : ((b - a : Nat) : Int) ≤ 12 := by omega
      simp only [lb_slices_pdqsortCmpFunc_runes_span_0, go_sem, zA, zB, zC, reduceIte, zD, zE, zF, zG, zH, zI, reduceCtorEq, zJ, zK, zL, zM, zN, zO, zP, w1, c1]
      refine ins_sort ho (by omega) h3 hl hg (by omega) fun l' H' k1 k2 k3 k4 => ?_
      simp only [go_sem, zA, zB, zC, reduceIte, zD, zE, zF, zG, zH, zI, reduceCtorEq, zJ, zK, zL, zM, zN, zO, zP]
      exact hQ l' _ k1 k2 k3 k4 rfl rfl
    have c1 : ¬ ((b - a : Nat) : Int) ≤ 12 := by omega
    by_cases c0 : lim = 0
    · simp only [lb_slices_pdqsortCmpFunc_runes_span_0, go_sem, zA, zB, zC, reduceIte, zD, zE, zF, zG, zH, zI, reduceCtorEq, zJ, zK, zL, zM, zN, zO, zP, w1, c1, c0]
      refine q_heapSort ho (by omega) hl hg (by omega) h3 fun l' H' k1 k2 k3 k4 => ?_
      simp only [go_sem, zA, zB, zC, reduceIte, zD, zE, zF, zG, zH, zI, reduceCtorEq, zJ, zK, zL, zM, zN, zO, zP]
      exact hQ l' _ k1 k2 k3 k4 rfl rfl
    -- the partitions, and on
    have part : ∀ (l1 : List S) (H1 : Heap) (pv : Nat) (lim' : Int) (hint : AV) (x t), PermOn a b l l1 → Fr sb .nils H H1 → H1.get sb = .cells (scells l1) .own → a ≤ pv → pv < b →
        wpc ⟨bt.get, o⟩ (seqR (seqR (seqR (seqR (seqR (seqR (seqR (blkB lb_slices_pdqsortCmpFunc_runes_span_0)))))))) { p := (0, slV sb n) :: (1, .int .i64 (a : Int)) :: (2, .int .i64 (b : Int)) :: (3, .int .i64 lim') :: (4, cmpV) :: (10, .bool wb) :: (11, .bool wp) :: (12, .int .i64 ((b - a : Nat) : Int)) :: (25, .bool false) :: (32, .bool false) :: (39, .bool (!wb)) :: (13, .int .i64 (pv : Int)) :: (14, hint) :: x, t := t, H := H1, d := [], u := .norm }
          (blockK 1 [0, 1, 2, 3, 4, 10, 11] (loopK ⟨bt.get, o⟩ [0, 1, 2, 3, 4, 10, 11] lb_slices_pdqsortCmpFunc_runes_span_0 Q)) := by
      intro l1 H1 pv lim' hint x t P1 f1 g1 hp1 hp2
      have hl1 : l1.length = n := by rw [P1.len]; exact hl
      have L1 : LowB a b l1 := hL.perm P1 (by omega)
      -- the partition
      have cut : ∀ (H2 : Heap) (y z t), Fr sb .nils H1 H2 → H2.get sb = .cells (scells l1) .own →
          wpc ⟨bt.get, o⟩ (seqR (seqR (seqR (seqR (seqR (seqR (seqR (seqR (blkB lb_slices_pdqsortCmpFunc_runes_span_0))))))))) { p := (0, slV sb n) :: (1, .int .i64 (a : Int)) :: (2, .int .i64 (b : Int)) :: (3, .int .i64 lim') :: (4, cmpV) :: (10, .bool wb) :: (11, .bool wp) :: (12, .int .i64 ((b - a : Nat) : Int)) :: (25, .bool false) :: (32, .bool false) :: (39, .bool (!wb)) :: (13, .int .i64 (pv : Int)) :: (14, z) :: y, t := t, H := H2, d := [], u := .norm }
            (blockK 1 [0, 1, 2, 3, 4, 10, 11] (loopK ⟨bt.get, o⟩ [0, 1, 2, 3, 4, 10, 11] lb_slices_pdqsortCmpFunc_runes_span_0 Q)) := by
        intro H2 y z t f2 g2
        simp only [lb_slices_pdqsortCmpFunc_runes_span_0, seqR, blkB, go_sem, zA, zB, zC, reduceIte, zD, zE, zF, zG, zH, zI, reduceCtorEq, zJ, zK, zL, zM, zN, zO, zP]
        refine q_partition ho (by omega) hl1 g2 hp1 hp2 h3 fun l2 H3 mid w k1 k2 k3 k4 k5 k6 k7 => ?_
        have hl2 : l2.length = n := by rw [k1.len]; exact hl1
        have f3 : Fr sb .nils H H3 := f1.trans (f2.trans k2)
        have P2 : PermOn a b l l2 := P1.trans k1
        have L2 : LowB a b l2 := L1.perm k1 (by omega)
        have v1 : IntKind.i64.wrap ((mid : Int) - (a : Int)) = ((mid - a : Nat) : Int) := by rw [wi64 (by omega) (by omega)]; omega
        have v2 : IntKind.i64.wrap ((b : Int) - (mid : Int)) = ((b - mid : Nat) : Int) := by rw [wi64 (by omega) (by omega)]; omega
        have v3 : IntKind.i64.wrap (((b - a : Nat) : Int).tdiv 8) = (((b - a) / 8 : Nat) : Int) := wdiv8 (by omega)
        have v4 := wsucc (show mid ≤ 1000000000 by omega)
        by_cases cl : mid - a < b - mid
        · have c2 : ((mid - a : Nat) : Int) < ((b - mid : Nat) : Int) := by omega
          simp only [go_sem, zA, zB, zC, reduceIte, zD, zE, zF, zG, zH, zI, reduceCtorEq, zJ, zK, zL, zM, zN, zO, zP, v1, v2, v3, v4, c2, lk_up]
          rw [fn_slices_pdqsortCmpFunc_runes_span (ho _ _ _ (by decide))]
          simp only [bd_slices_pdqsortCmpFunc_runes_span, go_sem, zA, zB, zC, reduceIte, zD, zE, zF, zG, zH, zI, reduceCtorEq, zJ, zK, zL, zM, zN, zO, zP]
          refine ih a mid l2 H3 lim' true true _ (by omega) (by omega) (by omega) hl2 k3 (fun p p1 p2 => L2 p p1 (by omega)) fun l3 σ q1 q2 q3 q4 q5 q6 => ?_
          obtain ⟨σp, σt, σH, σd, σu⟩ := σ
          simp only at q3 q4 q5 q6
          subst q5 q6
          have lo3 := PermOn.all (P := fun x => x ≤ key l2 mid) q1 (by omega) k6
          have e3 : ∀ p, mid ≤ p → key l3 p = key l2 p := fun p hp => key_out q1 (.inr hp)
          simp only [go_sem, zA, zB, zC, reduceIte, zD, zE, zF, zG, zH, zI, reduceCtorEq, zJ, zK, zL, zM, zN, zO, zP, v4, lk_up]
          refine ih (mid + 1) b l3 σH lim' _ w _ (by omega) (by omega) h3 (by rw [q1.len]; exact hl2) q4 (fun p p1 p2 => .inr (by rw [Nat.add_sub_cancel, e3 mid (Nat.le_refl _), e3 p (by omega)]; exact k7 p (by omega) p2)) fun l4 σ r1 r2 r3 r4 r5 r6 => ?_
          have e4 : ∀ p, p ≤ mid → key l4 p = key l3 p := fun p hp => key_out r1 (.inl (by omega))
          have hi4 := PermOn.all (P := fun x => key l2 mid ≤ x) r1 (by rw [q1.len]; omega) fun p p1 p2 => by rw [e3 p (by omega)]; exact k7 p (by omega) p2
          refine hQ l4 σ (P2.trans ((q1.widen (Nat.le_refl _) (by omega)).trans (r1.widen (by omega) (Nat.le_refl _)))) (glue (mid := mid) (fun p p1 p2 => ?_) (fun p p1 p2 => ?_) (fun p q p1 p2 p3 => ?_) r2) (f3.trans (q3.trans r3)) r4 r5 r6
          · rw [e4 p (by omega), e4 mid (Nat.le_refl _), e3 mid (Nat.le_refl _)]; exact lo3 p p1 p2
          · rw [e4 mid (Nat.le_refl _), e3 mid (Nat.le_refl _)]; exact hi4 p (by omega) p2
          · rw [e4 p (by omega), e4 q (by omega)]; exact q2 p q p1 p2 p3
        · have c2 : ¬ ((mid - a : Nat) : Int) < ((b - mid : Nat) : Int) := by omega
          simp only [go_sem, zA, zB, zC, reduceIte, zD, zE, zF, zG, zH, zI, reduceCtorEq, zJ, zK, zL, zM, zN, zO, zP, v1, v2, v3, v4, c2, lk_up]
          rw [fn_slices_pdqsortCmpFunc_runes_span (ho _ _ _ (by decide))]
          simp only [bd_slices_pdqsortCmpFunc_runes_span, go_sem, zA, zB, zC, reduceIte, zD, zE, zF, zG, zH, zI, reduceCtorEq, zJ, zK, zL, zM, zN, zO, zP]
          refine ih (mid + 1) b l2 H3 lim' true true _ (by omega) (by omega) h3 hl2 k3 (fun p p1 p2 => .inr (by rw [Nat.add_sub_cancel]; exact k7 p (by omega) p2)) fun l3 σ q1 q2 q3 q4 q5 q6 => ?_
          obtain ⟨σp, σt, σH, σd, σu⟩ := σ
          simp only at q3 q4 q5 q6
          subst q5 q6
          have hi3 := PermOn.all (P := fun x => key l2 mid ≤ x) q1 (by omega) fun p p1 p2 => k7 p (by omega) p2
          have e3 : ∀ p, p ≤ mid → key l3 p = key l2 p := fun p hp => key_out q1 (.inl (by omega))
          simp only [go_sem, zA, zB, zC, reduceIte, zD, zE, zF, zG, zH, zI, reduceCtorEq, zJ, zK, zL, zM, zN, zO, zP, lk_up]
          refine ih a mid l3 σH lim' _ w _ (by omega) (by omega) (by omega) (by rw [q1.len]; exact hl2) q4 (fun p p1 p2 => L2.perm (q1.widen (by omega) (Nat.le_refl _)) (by omega) p p1 (by omega)) fun l4 σ r1 r2 r3 r4 r5 r6 => ?_
          have e4 : ∀ p, mid ≤ p → key l4 p = key l3 p := fun p hp => key_out r1 (.inr hp)
          have lo4 := PermOn.all (P := fun x => x ≤ key l2 mid) r1 (by rw [q1.len]; omega) fun p p1 p2 => by rw [e3 p (by omega)]; exact k6 p p1 p2
          refine hQ l4 σ (P2.trans ((q1.widen (by omega) (Nat.le_refl _)).trans (r1.widen (Nat.le_refl _) (by omega)))) (glue (mid := mid) (fun p p1 p2 => ?_) (fun p p1 p2 => ?_) r2 (fun p q p1 p2 p3 => ?_)) (f3.trans (q3.trans r3)) r4 r5 r6
          · rw [e4 mid (Nat.le_refl _), e3 mid (Nat.le_refl _)]; exact lo4 p p1 p2
          · rw [e4 p (by omega), e4 mid (Nat.le_refl _), e3 mid (Nat.le_refl _)]; exact hi3 p (by omega) p2
          · rw [e4 p (by omega), e4 q (by omega)]; exact q2 p q p1 p2 p3
      -- the partition of equal ones, or the other
      by_cases a0 : a = 0
      · have c2 : ¬ ((0 : Int) < (a : Int)) := by omega
        simp only [lb_slices_pdqsortCmpFunc_runes_span_0, seqR, blkB, go_sem, zB, zC, reduceIte, zD, zE, zF, zG, zH, zI, reduceCtorEq, zJ, zK, zL, zM, zN, zO, zP, c2]
        rw [seqK_normal]
        simp only [go_sem, zB, zC, reduceIte, zD, zE, zF, zG, zH, zI, reduceCtorEq, zJ, zK, zL, zM, zN, zO, zP, c2, lk_up]
        rw [seqK_normal]
        exact cut H1 _ _ _ Fr.refl g1
      · have c2 : ((0 : Int) < (a : Int)) := by omega
        obtain ⟨i1, i2, i3⟩ := at_idx (i := a - 1) hl1 (by omega)
        obtain ⟨j1, j2, j3⟩ := at_idx (i := pv) hl1 (by omega)
        simp only [lb_slices_pdqsortCmpFunc_runes_span_0, seqR, blkB, go_sem, zB, zC, reduceIte, zD, zE, zF, zG, zH, zI, reduceCtorEq, zJ, zK, zL, zM, zN, zO, zP, c2, i1, i2, i3, j1, j2, j3, g1, wpred (show 0 < a by omega) (show a ≤ 1000000000 by omega)]
        refine c_cmp ho fun H2 hx2 => ?_
        have hlt1 : sb < H1.size := Heap.lt_of_get (by rw [g1]; simp)
        have g2 : H2.get sb = .cells (scells l1) .own := by rw [hx2.2 sb hlt1, g1]
        have f2 : Fr sb .nils H1 H2 := Fr.ofExt hx2
        simp only [go_sem, zB, zC, reduceIte, zD, zE, zF, zG, zH, zI, reduceCtorEq, zJ, zK, zL, zM, zN, zO, zP, cmpZ_lt']
        by_cases hc : (l1.getD (a - 1) (0, 0)).1 < (l1.getD pv (0, 0)).1
        · simp only [go_sem, zB, zC, reduceIte, zD, zE, zF, zG, zH, zI, reduceCtorEq, zJ, zK, zL, zM, zN, zO, zP, hc]
          rw [seqK_normal]
          simp only [go_sem, zB, zC, reduceIte, zD, zE, zF, zG, zH, zI, reduceCtorEq, zJ, zK, zL, zM, zN, zO, zP, hc, lk_up]
          rw [seqK_normal]
          exact cut H2 _ _ _ f2 g2
        · have kc : key l1 pv ≤ key l1 (a - 1) := Nat.le_of_not_lt hc
          have kp := (L1 pv hp1 hp2).resolve_left a0
          simp only [go_sem, zA, zB, zC, reduceIte, zD, zE, zF, zG, zH, zI, reduceCtorEq, zJ, zK, zL, zM, zN, zO, zP, hc, lk_up]
          refine q_partEq ho (by omega) hl1 g2 hp1 hp2 h3 fun l2 H3 mid k1 k2 k3 k4 k5 k6 k7 k8 => ?_
          have hl2 : l2.length = n := by rw [k1.len]; exact hl1
          have L2 : LowB a b l2 := L1.perm k1 (by omega)
          simp only [go_sem, zA, zB, zC, reduceIte, zD, zE, zF, zG, zH, zI, reduceCtorEq, zJ, zK, zL, zM, zN, zO, zP, lk_up]
          refine ih mid b l2 H3 lim' wb wp _ (by omega) k5 h3 hl2 k3 (fun p p1 p2 => .inr (Nat.le_trans (k7 (mid - 1) (by omega) (by omega)) (Nat.le_of_lt (k8 p p1 p2)))) fun l3 σ q1 q2 q3 q4 q5 q6 => ?_
          have hi3 := PermOn.all (P := fun x => key l2 a < x) q1 (by omega) k8
          have e3 : ∀ p, p < mid → key l3 p = key l2 p := fun p hp => key_out q1 (.inl hp)
          have ea : key l2 (a - 1) = key l1 (a - 1) := key_out k1 (.inl (by omega))
          refine hQ l3 σ ((P1.trans k1).trans (q1.widen (by omega) (Nat.le_refl _))) (fun p q p1 p2 p3 => ?_) (f1.trans (f2.trans (k2.trans q3))) q4 q5 q6
          rcases Nat.lt_or_ge p mid with h | h
          · have u1 := k7 p p1 h
            rw [e3 p h]
            rcases Nat.lt_or_ge q mid with h' | h'
            · rw [e3 q h']
              have u2 := (L2 q (by omega) p3).resolve_left a0
              omega
            · have := hi3 q h' p3
              omega
          · exact q2 p q h p2 p3
    -- nearly sorted
    have near : ∀ (l1 : List S) (H1 : Heap) (pv : Nat) (lim' hint : Int) (x t), PermOn a b l l1 → Fr sb .nils H H1 → H1.get sb = .cells (scells l1) .own → a ≤ pv → pv < b →
        wpc ⟨bt.get, o⟩ (seqR (seqR (seqR (seqR (seqR (seqR (blkB lb_slices_pdqsortCmpFunc_runes_span_0))))))) { p := (0, slV sb n) :: (1, .int .i64 (a : Int)) :: (2, .int .i64 (b : Int)) :: (3, .int .i64 lim') :: (4, cmpV) :: (10, .bool wb) :: (11, .bool wp) :: (12, .int .i64 ((b - a : Nat) : Int)) :: (25, .bool false) :: (32, .bool false) :: (39, .bool (!wb)) :: (13, .int .i64 (pv : Int)) :: (14, .int .i64 hint) :: x, t := t, H := H1, d := [], u := .norm }
          (blockK 1 [0, 1, 2, 3, 4, 10, 11] (loopK ⟨bt.get, o⟩ [0, 1, 2, 3, 4, 10, 11] lb_slices_pdqsortCmpFunc_runes_span_0 Q)) := by
      intro l1 H1 pv lim' hint x t P1 f1 g1 hp1 hp2
      have hl1 : l1.length = n := by rw [P1.len]; exact hl
      by_cases hh : (wb = true ∧ wp = true) ∧ hint = 1
      · obtain ⟨⟨rfl, rfl⟩, rfl⟩ := hh
        simp only [lb_slices_pdqsortCmpFunc_runes_span_0, seqR, blkB, go_sem, zB, zC, reduceIte, zD, zE, zF, zG, zH, zI, reduceCtorEq, zJ, zK, zL, zM, zN, zO, zP, lk_up]
        rw [seqK_normal]
        simp only [go_sem, zB, zC, reduceIte, zD, zE, zF, zG, zH, zI, reduceCtorEq, zJ, zK, zL, zM, zN, zO, zP, lk_up]
        refine q_partialIns ho (by omega) hl1 g1 (by omega) h3 (hL.perm P1 (by omega)) fun l2 H2 r k1 k2 k3 k4 => ?_
        cases r
        · simp only [go_sem, zB, zC, reduceIte, zD, zE, zF, zG, zH, zI, reduceCtorEq, zJ, zK, zL, zM, zN, zO, zP, lk_up]
          rw [seqK_normal]
          simp only [go_sem, zB, zC, reduceIte, zD, zE, zF, zG, zH, zI, reduceCtorEq, zJ, zK, zL, zM, zN, zO, zP, lk_up]
          rw [seqK_normal]
          exact part l2 H2 pv lim' _ _ _ (P1.trans k1) (f1.trans k3) k4 hp1 hp2
        · simp only [go_sem, zA, zB, zC, reduceIte, zD, zE, zF, zG, zH, zI, reduceCtorEq, zJ, zK, zL, zM, zN, zO, zP, lk_up]
          exact hQ l2 _ (P1.trans k1) (k2 rfl) (f1.trans k3) k4 rfl rfl
      · cases wb
        · simp only [lb_slices_pdqsortCmpFunc_runes_span_0, seqR, blkB, go_sem, zB, zC, reduceIte, zD, zE, zF, zG, zH, zI, reduceCtorEq, zJ, zK, zL, zM, zN, zO, zP, lk_up]
          rw [seqK_normal]
          simp only [go_sem, zB, zC, reduceIte, zD, zE, zF, zG, zH, zI, reduceCtorEq, zJ, zK, zL, zM, zN, zO, zP, lk_up]
          rw [seqK_normal]
          exact part l1 H1 pv lim' _ _ _ P1 f1 g1 hp1 hp2
        · cases wp
          · simp only [lb_slices_pdqsortCmpFunc_runes_span_0, seqR, blkB, go_sem, zB, zC, reduceIte, zD, zE, zF, zG, zH, zI, reduceCtorEq, zJ, zK, zL, zM, zN, zO, zP, lk_up]
            rw [seqK_normal]
            simp only [go_sem, zB, zC, reduceIte, zD, zE, zF, zG, zH, zI, reduceCtorEq, zJ, zK, zL, zM, zN, zO, zP, lk_up]
            rw [seqK_normal]
            exact part l1 H1 pv lim' _ _ _ P1 f1 g1 hp1 hp2
          · have h1 : ¬ hint = 1 := fun e => hh ⟨⟨rfl, rfl⟩, e⟩
            simp only [lb_slices_pdqsortCmpFunc_runes_span_0, seqR, blkB, go_sem, zB, zC, reduceIte, zD, zE, zF, zG, zH, zI, reduceCtorEq, zJ, zK, zL, zM, zN, zO, zP, lk_up, h1]
            rw [seqK_normal]
            simp only [go_sem, zB, zC, reduceIte, zD, zE, zF, zG, zH, zI, reduceCtorEq, zJ, zK, zL, zM, zN, zO, zP, lk_up, h1]
            rw [seqK_normal]
            exact part l1 H1 pv lim' _ _ _ P1 f1 g1 hp1 hp2
    -- the pivot
    have pick : ∀ (l1 : List S) (H1 : Heap) (lim' : Int) (t), PermOn a b l l1 → Fr sb .nils H H1 → H1.get sb = .cells (scells l1) .own →
        wpc ⟨bt.get, o⟩ (seqR (seqR (seqR (seqR (blkB lb_slices_pdqsortCmpFunc_runes_span_0))))) { p := [(0, slV sb n), (1, .int .i64 (a : Int)), (2, .int .i64 (b : Int)), (3, .int .i64 lim'), (4, cmpV), (10, .bool wb), (11, .bool wp), (12, .int .i64 ((b - a : Nat) : Int)), (25, .bool false), (32, .bool false), (39, .bool (!wb))], t := t, H := H1, d := [], u := .norm }
          (blockK 1 [0, 1, 2, 3, 4, 10, 11] (loopK ⟨bt.get, o⟩ [0, 1, 2, 3, 4, 10, 11] lb_slices_pdqsortCmpFunc_runes_span_0 Q)) := by
      intro l1 H1 lim' t P1 f1 g1
      have hl1 : l1.length = n := by rw [P1.len]; exact hl
      have hlt1 : sb < H1.size := Heap.lt_of_get (by rw [g1]; simp)
      simp only [lb_slices_pdqsortCmpFunc_runes_span_0, seqR, blkB, go_sem, zB, zC, reduceIte, zD, zE, zF, zG, zH, zI, reduceCtorEq, zJ, zK, zL, zM, zN, zO, zP]
      refine q_choosePivot ho (by omega) hl1 g1 (by omega) h3 fun pv hint H2 hp1 hp2 x2 => ?_
      have g2 : H2.get sb = .cells (scells l1) .own := by rw [x2.2 sb hlt1, g1]
      have f2 : Fr sb .nils H H2 := f1.trans (Fr.ofExt x2)
      by_cases hh : hint = 2
      · have w2 := wpred (show 0 < b by omega) (show b ≤ 1000000000 by omega)
        have w3 : IntKind.i64.wrap ((pv : Int) - (a : Int)) = ((pv - a : Nat) : Int) := by rw [wi64 (by omega) (by omega)]; omega
        have w4 : IntKind.i64.wrap (((b - 1 : Nat) : Int) - ((pv - a : Nat) : Int)) = ((b - 1 - (pv - a) : Nat) : Int) := by rw [wi64 (by omega) (by omega)]; omega
        simp only [go_sem, zB, zC, reduceIte, zD, zE, zF, zG, zH, zI, reduceCtorEq, zJ, zK, zL, zM, zN, zO, zP]
        rw [seqK_normal]
        simp only [go_sem, zB, zC, reduceIte, zD, zE, zF, zG, zH, zI, reduceCtorEq, zJ, zK, zL, zM, zN, zO, zP, hh]
        rw [seqK_normal]
        simp only [go_sem, zB, zC, reduceIte, zD, zE, zF, zG, zH, zI, reduceCtorEq, zJ, zK, zL, zM, zN, zO, zP, hh]
        refine q_reverse ho (by omega) hl1 g2 (by omega) h3 fun l2 H3 k1 k2 k3 => ?_
        simp only [go_sem, zB, zC, reduceIte, zD, zE, zF, zG, zH, zI, reduceCtorEq, zJ, zK, zL, zM, zN, zO, zP, w2, w3, w4]
        iterate 2
          rw [seqK_normal]
          simp only [go_sem, zB, zC, reduceIte, zD, zE, zF, zG, zH, zI, reduceCtorEq, zJ, zK, zL, zM, zN, zO, zP, w2, w3, w4]
        rw [seqK_normal]
        exact near l2 H3 (b - 1 - (pv - a)) lim' 1 _ _ (P1.trans k1) (f2.trans k2) k3 (by omega) (by omega)
      · simp only [go_sem, zB, zC, reduceIte, zD, zE, zF, zG, zH, zI, reduceCtorEq, zJ, zK, zL, zM, zN, zO, zP]
        rw [seqK_normal]
        simp only [go_sem, zB, zC, reduceIte, zD, zE, zF, zG, zH, zI, reduceCtorEq, zJ, zK, zL, zM, zN, zO, zP, hh]
        rw [seqK_normal]
        simp only [go_sem, zB, zC, reduceIte, zD, zE, zF, zG, zH, zI, reduceCtorEq, zJ, zK, zL, zM, zN, zO, zP, hh]
        rw [seqK_normal]
        exact near l1 H2 pv lim' hint _ _ P1 f2 g2 hp1 hp2
    cases wb
    · simp only [lb_slices_pdqsortCmpFunc_runes_span_0, go_sem, zA, zB, zC, reduceIte, zD, zE, zF, zG, zH, zI, reduceCtorEq, zJ, zK, zL, zM, zN, zO, zP, w1, c1, c0]
      refine q_break ho hn hl hg (by omega) h3 fun l2 H2 k1 k2 k3 => ?_
      simp only [go_sem, zB, zC, reduceIte, zD, zE, zF, zG, zH, zI, reduceCtorEq, zJ, zK, zL, zM, zN, zO, zP]
      rw [seqK_normal]
      simp only [go_sem, zB, zC, reduceIte, zD, zE, zF, zG, zH, zI, reduceCtorEq, zJ, zK, zL, zM, zN, zO, zP]
      rw [seqK_normal]
      exact pick l2 H2 _ _ k1 k2 k3
    · simp only [lb_slices_pdqsortCmpFunc_runes_span_0, go_sem, zB, zC, reduceIte, zD, zE, zF, zG, zH, zI, reduceCtorEq, zJ, zK, zL, zM, zN, zO, zP, w1, c1, c0]
      iterate 6
        rw [seqK_normal]
        simp only [go_sem, zB, zC, reduceIte, zD, zE, zF, zG, zH, zI, reduceCtorEq, zJ, zK, zL, zM, zN, zO, zP, w1, c1, c0]
      rw [seqK_normal]
      exact pick l H lim _ PermOn.refl Fr.refl hg
theorem s_Sort {n sb : Nat} (hn : n ≤ 60000) (h0 : 0 < n) {l : List S} {H : Heap} (hl : l.length = n) (hg : H.get sb = .cells (scells l) .own) {Q : End → Heap → Prop}
    (hQ : ∀ l' H', PermOn 0 n l l' → SortedOn 0 n l' → Fr sb .nils H H' → H'.get sb = .cells (scells l') .own → Q (.ret (.tup [])) H') :
    wpf ⟨bt.get, o⟩ F_slices_SortFunc_runes_span_runes_span [slV sb n, cmpV] H Q := by
  rw [fn_slices_SortFunc_runes_span_runes_span (ho _ _ _ (by decide))]
  have e1 : IntKind.u64.wrap (n : Int) = (n : Int) := wu64' (by omega) (by omega)
  simp only [bd_slices_SortFunc_runes_span_runes_span, go_sem, zA, zB, zC, reduceIte, zD, zE, zF, zG, zH, zI, reduceCtorEq, zJ, zK, zL, zM, zN, zO, zP, e1]
  refine q_Len ho (by omega) h0 fun k hk => ?_
  simp only [go_sem, zA, zB, zC, reduceIte, zD, zE, zF, zG, zH, zI, reduceCtorEq, zJ, zK, zL, zM, zN, zO, zP]
  rw [fn_slices_pdqsortCmpFunc_runes_span (ho _ _ _ (by decide))]
  simp only [bd_slices_pdqsortCmpFunc_runes_span, go_sem, zA, zB, zC, reduceIte, zD, zE, zF, zG, zH, zI, reduceCtorEq, zJ, zK, zL, zM, zN, zO, zP]
  refine q_pdq_loop ho hn n 0 n l H (k : Int) true true _ (by omega) (by omega) (Nat.le_refl _) hl hg (fun p _ _ => .inl rfl) fun l' σ q1 q2 q3 q4 q5 q6 => ?_
  simp only [go_sem, zA, zB, zC, reduceIte, zD, zE, zF, zG, zH, zI, reduceCtorEq, zJ, zK, zL, zM, zN, zO, zP, q5, q6]
  exact hQ l' _ q1 q2 q3 q4
end
end Go.Ev
