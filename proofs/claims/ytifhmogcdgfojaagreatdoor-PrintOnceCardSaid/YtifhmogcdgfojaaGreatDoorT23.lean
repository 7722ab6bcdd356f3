/- Several texts of this claim, joined. -/
import Derived.Test.YtifhmogcdgfojaaGreatDoorT22
import Derived.Test.YtifhmogcdgfojaaGreatDoorT18
set_option linter.unusedSimpArgs false
set_option linter.unusedVariables false

/- Package runes: numbers of scalar values. -/
namespace Go.Ev
open Go
open Go.Ev renaming seqK_normal → zA, blockK_normal → zB, blockK_exit → zC
open Nat renaming reduceEqDiff → zD, reduceAdd → zE, reduceSub → zF, reduceMul → zG, reduceLeDiff → zH, reduceLT → zI
open Int renaming reduceToNat → zJ, reduceLT → zK, reduceLE → zL, reduceEq → zM, reduceAdd → zN, reduceSub → zO, reduceMul → zP
set_option maxRecDepth 8000
def isR (r : Int) : Bool := (decide (0 ≤ r) && decide (r < 55296)) || (decide (57343 < r) && decide (r ≤ 1114111))
def numN (r : Int) : Nat := if r < 0 then 0 else if r < 55296 then r.toNat else if r ≤ 57343 then 55296 else if 1114112 < r then 1112064 else r.toNat - 2048
def behN (r : Int) : Nat := if isR r then numN r + 1 else numN r
def valN (n : Nat) : Nat := if n < 55296 then n else n + 2048
/-- A number of 32 bits. -/
def I32 (r : Int) : Prop := -2147483648 ≤ r ∧ r ≤ 2147483647
theorem numN_le (r : Int) : numN r ≤ 1112064 := by
  unfold numN
  repeat' split
  all_goals omega
theorem behN_le (r : Int) : behN r ≤ 1112065 := by
  have := numN_le r
  unfold behN
  split <;> omega
section
variable {o : CallF} (ho : OvOnly o)
include ho
theorem r_number {r : Int} (hr : I32 r) {H : Heap} {Q : End → Heap → Prop} (h : Q (.ret (.int .i64 (numN r : Int))) H) : wpf ⟨bt.get, o⟩ F_runes_number [.int .i32 r] H Q := by
  rw [fn_runes_number (ho _ _ _ (by decide))]
  obtain ⟨r1, r2⟩ := hr
  have fin : ∀ k : Int, (numN r : Int) = k → Q (.ret (.int .i64 k)) H := fun k e => by rw [← e]; exact h
  have w1 : IntKind.i64.wrap r = r := wi64 (by omega) (by omega)
  by_cases h1 : r < 0
  · simp only [bd_runes_number, go_sem, zA, zB, zC, reduceIte, zD, zE, zF, zG, zH, zI, reduceCtorEq, zJ, zK, zL, zM, zN, zO, zP, h1]
    exact fin 0 (by simp only [numN, if_pos h1]; rfl)
  · by_cases h2 : r < 55296
    · simp only [bd_runes_number, go_sem, zA, zB, zC, reduceIte, zD, zE, zF, zG, zH, zI, reduceCtorEq, zJ, zK, zL, zM, zN, zO, zP, h1, h2, w1]
      exact fin r (by simp only [numN, if_neg h1, if_pos h2]; omega)
    · by_cases h3 : r ≤ 57343
      · simp only [bd_runes_number, go_sem, zA, zB, zC, reduceIte, zD, zE, zF, zG, zH, zI, reduceCtorEq, zJ, zK, zL, zM, zN, zO, zP, h1, h2, h3]
        exact fin 55296 (by simp only [numN, if_neg h1, if_neg h2, if_pos h3]; rfl)
      · by_cases h4 : 1114112 < r
        · have w2 : IntKind.i64.wrap 1112064 = 1112064 := by rfl
          simp only [bd_runes_number, go_sem, zA, zB, zC, reduceIte, zD, zE, zF, zG, zH, zI, reduceCtorEq, zJ, zK, zL, zM, zN, zO, zP, h1, h2, h3, w1, minmaxA, h4, w2]
          exact fin 1112064 (by simp only [numN, if_neg h1, if_neg h2, if_neg h3, if_pos h4]; rfl)
        · have w2 : IntKind.i64.wrap (r - 2048) = r - 2048 := wi64 (by omega) (by omega)
          simp only [bd_runes_number, go_sem, zA, zB, zC, reduceIte, zD, zE, zF, zG, zH, zI, reduceCtorEq, zJ, zK, zL, zM, zN, zO, zP, h1, h2, h3, w1, minmaxA, h4, w2]
          exact fin (r - 2048) (by simp only [numN, if_neg h1, if_neg h2, if_neg h3, if_neg h4]; omega)
theorem r_is {r : Int} {H : Heap} {Q : End → Heap → Prop} (h : Q (.ret (.bool (isR r))) H) : wpf ⟨bt.get, o⟩ F_runes_is [.int .i32 r] H Q := by
  rw [fn_runes_is (ho _ _ _ (by decide))]
  have fin : ∀ k : Bool, isR r = k → Q (.ret (.bool k)) H := fun k e => by rw [← e]; exact h
  by_cases h1 : 0 ≤ r
  · by_cases h2 : r < 55296
    · simp only [bd_runes_is, go_sem, zA, zB, zC, reduceIte, zD, zE, zF, zG, zH, zI, reduceCtorEq, zJ, zK, zL, zM, zN, zO, zP, h1, h2]
      exact fin true (by simp [isR, h1, h2])
    · by_cases h3 : 57343 < r
      · by_cases h4 : r ≤ 1114111
        · simp only [bd_runes_is, go_sem, zA, zB, zC, reduceIte, zD, zE, zF, zG, zH, zI, reduceCtorEq, zJ, zK, zL, zM, zN, zO, zP, h1, h2, h3, h4]
          exact fin true (by simp [isR, h3, h4])
        · simp only [bd_runes_is, go_sem, zA, zB, zC, reduceIte, zD, zE, zF, zG, zH, zI, reduceCtorEq, zJ, zK, zL, zM, zN, zO, zP, h1, h2, h3, h4]
          exact fin false (by simp [isR, h2, h4])
      · simp only [bd_runes_is, go_sem, zA, zB, zC, reduceIte, zD, zE, zF, zG, zH, zI, reduceCtorEq, zJ, zK, zL, zM, zN, zO, zP, h1, h2, h3]
        exact fin false (by simp [isR, h2, h3])
  · have h3 : ¬ 57343 < r := by omega
    simp only [bd_runes_is, go_sem, zA, zB, zC, reduceIte, zD, zE, zF, zG, zH, zI, reduceCtorEq, zJ, zK, zL, zM, zN, zO, zP, h1, h3]
    exact fin false (by simp [isR, h1, h3])
theorem r_behind {r : Int} (hr : I32 r) {H : Heap} {Q : End → Heap → Prop} (h : Q (.ret (.int .i64 (behN r : Int))) H) : wpf ⟨bt.get, o⟩ F_runes_behind [.int .i32 r] H Q := by
  rw [fn_runes_behind (ho _ _ _ (by decide))]
  have hle := numN_le r
  simp only [bd_runes_behind, go_sem, zA, zB, zC, reduceIte, zD, zE, zF, zG, zH, zI, reduceCtorEq, zJ, zK, zL, zM, zN, zO, zP]
  refine r_number ho hr ?_
  simp only [go_sem, zA, zB, zC, reduceIte, zD, zE, zF, zG, zH, zI, reduceCtorEq, zJ, zK, zL, zM, zN, zO, zP]
  refine r_is ho ?_
  cases hi : isR r
  · simp only [go_sem, zA, zB, zC, reduceIte, zD, zE, zF, zG, zH, zI, reduceCtorEq, zJ, zK, zL, zM, zN, zO, zP]
    simpa [behN, hi] using h
  · simp only [go_sem, zA, zB, zC, reduceIte, zD, zE, zF, zG, zH, zI, reduceCtorEq, zJ, zK, zL, zM, zN, zO, zP, wsucc (show numN r ≤ 1000000000 by omega)]
    simpa [behN, hi] using h
theorem r_value {n : Nat} (hn : n ≤ 2000000) {H : Heap} {Q : End → Heap → Prop} (h : Q (.ret (.int .i32 (valN n : Int))) H) : wpf ⟨bt.get, o⟩ F_runes_value [.int .i64 (n : Int)] H Q := by
  rw [fn_runes_value (ho _ _ _ (by decide))]
  by_cases h1 : n < 55296
  · have h1' : (n : Int) < 55296 := by omega
    have w1 : IntKind.i32.wrap (n : Int) = (n : Int) := wi32 (by omega) (by omega)
    simp only [bd_runes_value, go_sem, zA, zB, zC, reduceIte, zD, zE, zF, zG, zH, zI, reduceCtorEq, zJ, zK, zL, zM, zN, zO, zP, h1', w1]
    simpa [valN, h1] using h
  · have h1' : ¬ (n : Int) < 55296 := by omega
    have w0 : IntKind.i64.wrap ((n : Int) + 2048) = (n : Int) + 2048 := wi64 (by omega) (by omega)
    have w1 : IntKind.i32.wrap ((n : Int) + 2048) = ((n + 2048 : Nat) : Int) := by rw [wi32 (by omega) (by omega)]; rfl
    simp only [bd_runes_value, go_sem, zA, zB, zC, reduceIte, zD, zE, zF, zG, zH, zI, reduceCtorEq, zJ, zK, zL, zM, zN, zO, zP, h1', w0, w1]
    simpa [valN, h1] using h
end
/- Sorting of spans: what insertionSortCmpFunc comes to. -/
set_option maxRecDepth 8000
def cmpZ (a b : Int) : Int := if a < b then -1 else if b < a then 1 else 0
theorem cmpZ_lt (a b : Int) : (cmpZ a b < 0) = (a < b) := by
  unfold cmpZ
  repeat' split
  all_goals simp <;> omega
theorem cmpZ_lt' (a b : Nat) : (cmpZ (a : Int) (b : Int) < 0) = (a < b) := by rw [cmpZ_lt]; simp
theorem wpred {n : Nat} (h0 : 0 < n) (h : n ≤ 1000000000) : IntKind.i64.wrap ((n : Int) - 1) = ((n - 1 : Nat) : Int) := by
  rw [wi64 (by omega) (by omega)]; omega
section
variable {o : CallF} (ho : OvOnly o)
include ho
theorem c_Compare {a b : Int} {H : Heap} {Q : End → Heap → Prop} (h : Q (.ret (.int .i64 (cmpZ a b))) H) : wpf ⟨bt.get, o⟩ F_cmp_Compare_int [.int .i64 a, .int .i64 b] H Q := by
  rw [fn_cmp_Compare_int (ho _ _ _ (by decide))]
  simp only [bd_cmp_Compare_int, go_sem, zA, zB, zC, reduceIte, zD, zE, zF, zG, zH, zI, reduceCtorEq, zJ, zK, zL, zM, zN, zO, zP]
  rw [fn_cmp_isNaN_int (ho _ _ _ (by decide))]
  simp only [bd_cmp_isNaN_int, go_sem, zA, zB, zC, reduceIte, zD, zE, zF, zG, zH, zI, reduceCtorEq, zJ, zK, zL, zM, zN, zO, zP]
  rw [fn_cmp_isNaN_int (ho _ _ _ (by decide))]
  simp only [bd_cmp_isNaN_int, go_sem, zA, zB, zC, reduceIte, zD, zE, zF, zG, zH, zI, reduceCtorEq, zJ, zK, zL, zM, zN, zO, zP]
  by_cases h1 : a < b
  · simp only [go_sem, zA, zB, zC, reduceIte, zD, zE, zF, zG, zH, zI, reduceCtorEq, zJ, zK, zL, zM, zN, zO, zP, h1]
    simpa only [cmpZ, if_pos h1] using h
  · by_cases h2 : b < a
    · simp only [go_sem, zA, zB, zC, reduceIte, zD, zE, zF, zG, zH, zI, reduceCtorEq, zJ, zK, zL, zM, zN, zO, zP, h1, h2]
      simpa only [cmpZ, if_neg h1, if_pos h2] using h
    · simp only [go_sem, zA, zB, zC, reduceIte, zD, zE, zF, zG, zH, zI, reduceCtorEq, zJ, zK, zL, zM, zN, zO, zP, h1, h2]
      simpa only [cmpZ, if_neg h1, if_neg h2] using h
theorem c_cmp {a b : S} {H : Heap} {Q : End → Heap → Prop} (h : ∀ H', Ext H.size H H' → Q (.ret (.int .i64 (cmpZ a.1 b.1))) H') : wpf ⟨bt.get, o⟩ F_runes_spans_1 [.agg a.cells, .agg b.cells] H Q := by
  rw [fn_runes_spans_1 (ho _ _ _ (by decide))]
  have e1 : ((H.push (.cells [.int .i64 a.1, .int .i64 a.2] .own)).push (.cells [.int .i64 b.1, .int .i64 b.2] .own)).get H.size = .cells [.int .i64 a.1, .int .i64 a.2] .own := by
    rw [Heap.get_push_lt (by rw [Heap.size_push]; omega), Heap.get_push_self]
  have e2 : ((H.push (.cells [.int .i64 a.1, .int .i64 a.2] .own)).push (.cells [.int .i64 b.1, .int .i64 b.2] .own)).get (H.size + 1) = .cells [.int .i64 b.1, .int .i64 b.2] .own := by
    rw [Heap.get_push_eq (by rw [Heap.size_push])]
  simp only [bd_runes_spans_1, go_sem, zA, zB, zC, reduceIte, zD, zE, zF, zG, zH, zI, reduceCtorEq, zJ, zK, zL, zM, zN, zO, zP, S.cells, e1, e2]
  refine c_Compare ho ?_
  simp only [go_sem, zA, zB, zC, reduceIte, zD, zE, zF, zG, zH, zI, reduceCtorEq, zJ, zK, zL, zM, zN, zO, zP]
  exact h _ ((Ext.push (Nat.le_refl _)).trans (Ext.push (by rw [Heap.size_push]; omega)))
abbrev cmpV : AV := .fn F_runes_spans_1 []
/-- The arguments of the sorting functions: a slice of spans. -/
abbrev slV (sb n : Nat) : AV := .osl 2 sb 0 n
theorem ins_loop0 {n a b i sb : Nat} (hn : n ≤ 1000000) {Q : Ctl → St → Prop} : ∀ (j : Nat) (l : List S) (H : Heap), a ≤ j → j ≤ i → i < n → l.length = n → H.get sb = .cells (scells l) .own →
    (∀ p q, a ≤ p → p < q → q ≤ i → p ≠ j → q ≠ j → key l p ≤ key l q) → (∀ q, j < q → q ≤ i → key l j ≤ key l q) →
    (∀ l' H' j' x t, PermOn a (i + 1) l l' → SortedOn a (i + 1) l' → Fr sb .nils H H' → H'.get sb = .cells (scells l') .own → Q (.exit 2) { p := [(0, slV sb n), (1, .int .i64 a), (2, .int .i64 b), (3, cmpV), (8, .int .i64 i), (9, j'), (34, x)], t := t, H := H', d := [], u := .norm }) →
    wpl ⟨bt.get, o⟩ [0, 1, 2, 3, 8, 9] lb_slices_insertionSortCmpFunc_runes_span_0 { p := [(0, slV sb n), (1, .int .i64 a), (2, .int .i64 b), (3, cmpV), (8, .int .i64 i), (9, .int .i64 j)], t := [], H := H, d := [], u := .norm } Q := by
  intro j
  induction j with
  | zero =>
    intro l H h1 h2 h3 hl hg hA hB hQ
    rw [wpl_step]
    have c1 : ¬ ((a : Int) < ((0 : Nat) : Int)) := by omega
    have a0 : a = 0 := by omega
    subst a0
    simp only [lb_slices_insertionSortCmpFunc_runes_span_0, go_sem, zA, zB, zC, reduceIte, zD, zE, zF, zG, zH, zI, reduceCtorEq, zJ, zK, zL, zM, zN, zO, zP]
    refine hQ l H _ _ _ PermOn.refl (fun p q g1 g2 g3 => ?_) ⟨Nat.le_refl _, fun _ _ _ _ => rfl⟩ hg
    by_cases e : p = 0
    · subst e; exact hB q (by omega) (by omega)
    · exact hA p q g1 g2 (by omega) e (by omega)
  | succ j ih =>
    intro l H h1 h2 h3 hl hg hA hB hQ
    rw [wpl_step]
    by_cases ha : a = j + 1
    · have c1 : ¬ ((a : Int) < ((j + 1 : Nat) : Int)) := by omega
      simp only [lb_slices_insertionSortCmpFunc_runes_span_0, go_sem, zA, zB, zC, reduceIte, zD, zE, zF, zG, zH, zI, reduceCtorEq, zJ, zK, zL, zM, zN, zO, zP, c1]
      refine hQ l H _ _ _ PermOn.refl (fun p q g1 g2 g3 => ?_) ⟨Nat.le_refl _, fun _ _ _ _ => rfl⟩ hg
      by_cases e : p = j + 1
      · subst e; exact hB q (by omega) (by omega)
      · exact hA p q g1 g2 (by omega) e (by omega)
    · have c1 : ((a : Int) < ((j + 1 : Nat) : Int)) := by omega
      have c2 : ((j + 1 : Nat) : Int) < (n : Int) := by omega
      have c3 : (j : Int) < (n : Int) := by omega
      have wp := wpred (n := j + 1) (by omega) (by omega)
      rw [Nat.add_sub_cancel] at wp
      have g1 := get_of (l := l) (i := j + 1) (by omega)
      have g0 := get_of (l := l) (i := j) (by omega)
      obtain ⟨s1, s1'⟩ := scells_at g1
      obtain ⟨s0, s0'⟩ := scells_at g0
      simp only [lb_slices_insertionSortCmpFunc_runes_span_0, go_sem, zA, zB, zC, reduceIte, zD, zE, zF, zG, zH, zI, reduceCtorEq, zJ, zK, zL, zM, zN, zO, zP, c1, c2, c3, wp, hg, s0, s1, s0', s1']
      refine c_cmp ho fun H1 hx1 => ?_
      have hlt : sb < H.size := Heap.lt_of_get (by rw [hg]; simp)
      have hg1 : H1.get sb = .cells (scells l) .own := by rw [hx1.2 sb hlt, hg]
      have hlt1 : sb < H1.size := Heap.lt_of_get (by rw [hg1]; simp)
      have fr1 : Fr sb .nils H H1 := ⟨hx1.1, fun c hc _ _ => hx1.2 c hc⟩
      simp only [go_sem, zA, zB, zC, reduceIte, zD, zE, zF, zG, zH, zI, reduceCtorEq, zJ, zK, zL, zM, zN, zO, zP, cmpZ_lt']
      by_cases hc : (l.getD (j + 1) (0, 0)).1 < (l.getD j (0, 0)).1
      · have x0 := scells_setS (l := l) (i := j + 1) (l.getD j (0, 0)) (by omega)
        have x1 := scells_setS (l := l.set (j + 1) (l.getD j (0, 0))) (i := j) (l.getD (j + 1) (0, 0)) (by simp; omega)
        have y0 : j * 2 + 2 ≤ (scells (l.set (j + 1) (l.getD j (0, 0)))).length := by rw [scells_len, List.length_set]; omega
        simp only [go_sem, zA, zB, zC, reduceIte, zD, zE, zF, zG, zH, zI, reduceCtorEq, zJ, zK, zL, zM, zN, zO, zP, hc, c2, c3, wp, hg1, s0, s1, s0', s1', S.cells, Heap.get_set_self hlt1, List.length_set, x0, x1, y0]
        have ks := key_swp (l := l) (i := j + 1) (j := j) (by omega) (by omega)
        have kc : key l (j + 1) < key l j := hc
        refine ih (swp l (j + 1) j) _ (by omega) (by omega) h3 (by rw [swp_len]; exact hl) (Heap.get_set_self hlt1) (fun p q g1 g2 g3 g4 g5 => ?_) (fun q g1 g2 => ?_) fun l' H' j' x t k1 k2 k3 k4 => hQ l' H' j' x t ((PermOn.swp (by omega) (by omega) (by omega) (by omega) (by omega)).trans k1) k2 (fr1.trans (Fr.set.trans k3)) k4
        · rw [ks, ks, if_neg g4, if_neg g5]
          by_cases e1 : p = j + 1
          · rw [if_pos e1, if_neg (by omega)]
            exact hA j q (by omega) (by omega) g3 (by omega) (by omega)
          · rw [if_neg e1]
            by_cases e2 : q = j + 1
            · rw [if_pos e2]
              exact hA p j g1 (by omega) (by omega) e1 (by omega)
            · rw [if_neg e2]
              exact hA p q g1 g2 g3 e1 e2
        · rw [ks, ks, if_pos rfl, if_neg (by omega)]
          by_cases e2 : q = j + 1
          · rw [if_pos e2]; omega
          · rw [if_neg e2]
            exact hB q (by omega) g2
      · simp only [go_sem, zA, zB, zC, reduceIte, zD, zE, zF, zG, zH, zI, reduceCtorEq, zJ, zK, zL, zM, zN, zO, zP, hc]
        refine hQ l H1 _ _ _ PermOn.refl (fun p q g1 g2 g3 => ?_) fr1 hg1
        have hk : key l j ≤ key l (j + 1) := by unfold key; omega
        by_cases e : p = j + 1
        · subst e; exact hB q (by omega) (by omega)
        · by_cases e2 : q = j + 1
          · subst e2
            by_cases e3 : p = j
            · subst e3; exact hk
            · exact Nat.le_trans (hA p j g1 (by omega) (by omega) e (by omega)) hk
          · exact hA p q g1 g2 (by omega) e e2
theorem ins_loop1 {n a b sb : Nat} (hn : n ≤ 1000000) (hb : b ≤ n) {Q : Ctl → St → Prop} : ∀ (m i : Nat) (l : List S) (H : Heap), b - i ≤ m → a < i → l.length = n → H.get sb = .cells (scells l) .own → SortedOn a i l →
    (∀ l' H' i' x t, PermOn a b l l' → SortedOn a b l' → Fr sb .nils H H' → H'.get sb = .cells (scells l') .own → Q (.exit 0) { p := [(0, slV sb n), (1, .int .i64 a), (2, .int .i64 b), (3, cmpV), (8, i'), (14, x)], t := t, H := H', d := [], u := .norm }) →
    wpl ⟨bt.get, o⟩ [0, 1, 2, 3, 8] lb_slices_insertionSortCmpFunc_runes_span_1 { p := [(0, slV sb n), (1, .int .i64 a), (2, .int .i64 b), (3, cmpV), (8, .int .i64 i)], t := [], H := H, d := [], u := .norm } Q := by
  intro m
  induction m with
  | zero =>
    intro i l H h1 h2 hl hg hS hQ
    rw [wpl_step]
    have c1 : ¬ ((i : Int) < (b : Int)) := by omega
    simp only [lb_slices_insertionSortCmpFunc_runes_span_1, go_sem, zA, zB, zC, reduceIte, zD, zE, zF, zG, zH, zI, reduceCtorEq, zJ, zK, zL, zM, zN, zO, zP, c1]
    exact hQ l H _ _ _ PermOn.refl (fun p q g1 g2 g3 => hS p q g1 g2 (by omega)) Fr.refl hg
  | succ m ih =>
    intro i l H h1 h2 hl hg hS hQ
    rw [wpl_step]
    by_cases c : i < b
    · have c1 : ((i : Int) < (b : Int)) := by omega
      simp only [lb_slices_insertionSortCmpFunc_runes_span_1, go_sem, zA, zB, zC, reduceIte, zD, zE, zF, zG, zH, zI, reduceCtorEq, zJ, zK, zL, zM, zN, zO, zP, c1]
      refine ins_loop0 ho hn i l H (by omega) (Nat.le_refl _) (by omega) hl hg (fun p q g1 g2 g3 g4 g5 => hS p q g1 g2 (by omega)) (fun q g1 g2 => by omega) fun l' H' j' x t k1 k2 k3 k4 => ?_
      simp only [go_sem, zA, zB, zC, reduceIte, zD, zE, zF, zG, zH, zI, reduceCtorEq, zJ, zK, zL, zM, zN, zO, zP, wsucc (show i ≤ 1000000000 by omega)]
      refine ih (i + 1) l' H' (by omega) (by omega) (by rw [k1.len]; exact hl) k4 k2 fun l2 H2 i2 x2 t2 g1 g2 g3 g4 => hQ l2 H2 i2 x2 t2 ((k1.widen (Nat.le_refl _) (by omega)).trans g1) g2 (k3.trans g3) g4
    · have c1 : ¬ ((i : Int) < (b : Int)) := by omega
      simp only [lb_slices_insertionSortCmpFunc_runes_span_1, go_sem, zA, zB, zC, reduceIte, zD, zE, zF, zG, zH, zI, reduceCtorEq, zJ, zK, zL, zM, zN, zO, zP, c1]
      exact hQ l H _ _ _ PermOn.refl (fun p q g1 g2 g3 => hS p q g1 g2 (by omega)) Fr.refl hg
theorem ins_sort {n a b sb : Nat} (hn : n ≤ 1000000) (hb : b ≤ n) {l : List S} {H : Heap} (hl : l.length = n) (hg : H.get sb = .cells (scells l) .own) (ha : a ≤ 1000000) {Q : End → Heap → Prop}
    (hQ : ∀ l' H', PermOn a b l l' → SortedOn a b l' → Fr sb .nils H H' → H'.get sb = .cells (scells l') .own → Q (.ret (.tup [])) H') :
    wpf ⟨bt.get, o⟩ F_slices_insertionSortCmpFunc_runes_span [slV sb n, .int .i64 a, .int .i64 b, cmpV] H Q := by
  rw [fn_slices_insertionSortCmpFunc_runes_span (ho _ _ _ (by decide))]
  simp only [bd_slices_insertionSortCmpFunc_runes_span, go_sem, zA, zB, zC, reduceIte, zD, zE, zF, zG, zH, zI, reduceCtorEq, zJ, zK, zL, zM, zN, zO, zP, wsucc (show a ≤ 1000000000 by omega)]
  refine ins_loop1 ho hn hb _ (a + 1) l H (Nat.le_refl _) (by omega) hl hg (fun p q g1 g2 g3 => by omega) fun l' H' i' x t k1 k2 k3 k4 => ?_
  simp only [go_sem, zA, zB, zC, reduceIte, zD, zE, zF, zG, zH, zI, reduceCtorEq, zJ, zK, zL, zM, zN, zO, zP]
  exact hQ l' H' k1 k2 k3 k4
end
/- Sorting of few spans: what slices.SortFunc comes to. -/
set_option maxRecDepth 8000
theorem wu8 {x : Int} (h0 : 0 ≤ x) (h1 : x ≤ 255) : IntKind.u8.wrap x = x := by
  simp only [IntKind.wrap]
  simp [IntKind.signed, IntKind.bits]
  omega
theorem wu64' {x : Int} (h0 : 0 ≤ x) (h1 : x ≤ 1000000000) : IntKind.u64.wrap x = x := by
  simp only [IntKind.wrap]
  simp [IntKind.signed, IntKind.bits]
  omega
section
variable {o : CallF} (ho : OvOnly o)
include ho
theorem b_Len {n : Nat} (hn : n < 65536) {H : Heap} {Q : End → Heap → Prop} (h : ∀ k : Nat, k ≤ 300 → Q (.ret (.int .i64 (k : Int))) H) : wpf ⟨bt.get, o⟩ F_bits_Len [.int .u64 (n : Int)] H Q := by
  rw [fn_bits_Len (ho _ _ _ (by decide))]
  simp only [bd_bits_Len, go_sem, zA, zB, zC, reduceIte, zD, zE, zF, zG, zH, zI, reduceCtorEq, zJ, zK, zL, zM, zN, zO, zP]
  rw [fn_bits_Len64 (ho _ _ _ (by decide))]
  have c1 : ¬ ((4294967296 : Int) ≤ (n : Int)) := by omega
  have c2 : ¬ ((65536 : Int) ≤ (n : Int)) := by omega
  by_cases c : 256 ≤ n
  · have c3 : ((256 : Int) ≤ (n : Int)) := by omega
    have e1 : shiftA .shr .u64 (n : Int) 8 = some (.int .u64 ((n / 256 : Nat) : Int)) := by
      show some (AV.int .u64 ((n : Int).fdiv (2 ^ (min (8 : Int).toNat 64)))) = _
      have : (2 : Int) ^ (min (8 : Int).toNat 64) = 256 := by decide
      rw [this, Int.fdiv_eq_ediv_of_nonneg _ (by omega)]; rfl
    have e2 : IntKind.u8.wrap ((n / 256 : Nat) : Int) = ((n / 256 : Nat) : Int) := wu8 (by omega) (by omega)
    simp only [bd_bits_Len64, go_sem, zA, zB, zC, reduceIte, zD, zE, zF, zG, zH, zI, reduceCtorEq, zJ, zK, zL, zM, zN, zO, zP, c1, c2, c3, e1, e2]
    split
    · rename_i b hb
      have hb2 : b.toNat < 256 := b.toNat_lt
      have e3 : IntKind.i64.wrap (b.toNat : Int) = (b.toNat : Int) := wi64 (by omega) (by omega)
      have e5 : IntKind.i64.wrap (8 + (b.toNat : Int)) = ((8 + b.toNat : Nat) : Int) := by rw [wi64 (by omega) (by omega)]; rfl
      have e4 : IntKind.i64.wrap 8 = 8 := by rfl
      simp only [go_sem, zA, zB, zC, reduceIte, zD, zE, zF, zG, zH, zI, reduceCtorEq, zJ, zK, zL, zM, zN, zO, zP, e3, e4, e5]
      exact h _ (by omega)
    · rename_i hb
      have h2 : 256 ≤ n / 256 := List.getElem?_eq_none_iff.1 hb
      omega
  · have c3 : ¬ ((256 : Int) ≤ (n : Int)) := by omega
    have e2 : IntKind.u8.wrap (n : Int) = (n : Int) := wu8 (by omega) (by omega)
    simp only [bd_bits_Len64, go_sem, zA, zB, zC, reduceIte, zD, zE, zF, zG, zH, zI, reduceCtorEq, zJ, zK, zL, zM, zN, zO, zP, c1, c2, c3, e2]
    split
    · rename_i b hb
      have hb2 : b.toNat < 256 := b.toNat_lt
      have e3 : IntKind.i64.wrap (b.toNat : Int) = (b.toNat : Int) := wi64 (by omega) (by omega)
      simp only [go_sem, zA, zB, zC, reduceIte, zD, zE, zF, zG, zH, zI, reduceCtorEq, zJ, zK, zL, zM, zN, zO, zP, e3]
      exact h _ (by omega)
    · rename_i hb
      have h2 : 256 ≤ n := List.getElem?_eq_none_iff.1 hb
      omega
theorem p_small {n sb k : Nat} (hn : n ≤ 12) {l : List S} {H : Heap} (hl : l.length = n) (hg : H.get sb = .cells (scells l) .own) {Q : End → Heap → Prop}
    (hQ : ∀ l' H', PermOn 0 n l l' → SortedOn 0 n l' → Fr sb .nils H H' → H'.get sb = .cells (scells l') .own → Q (.ret (.tup [])) H') :
    wpf ⟨bt.get, o⟩ F_slices_pdqsortCmpFunc_runes_span [slV sb n, .int .i64 0, .int .i64 n, .int .i64 (k : Int), cmpV] H Q := by
  rw [fn_slices_pdqsortCmpFunc_runes_span (ho _ _ _ (by decide))]
  simp only [bd_slices_pdqsortCmpFunc_runes_span, go_sem, zA, zB, zC, reduceIte, zD, zE, zF, zG, zH, zI, reduceCtorEq, zJ, zK, zL, zM, zN, zO, zP]
  rw [wpl_step]
  have e1 : IntKind.i64.wrap ((n : Int) - 0) = (n : Int) := by rw [Int.sub_zero]; exact wi64 (by omega) (by omega)
  have e2 : (n : Int) ≤ 12 := by omega
  simp only [lb_slices_pdqsortCmpFunc_runes_span_0, go_sem, zA, zB, zC, reduceIte, zD, zE, zF, zG, zH, zI, reduceCtorEq, zJ, zK, zL, zM, zN, zO, zP, e1, e2]
  refine ins_sort ho (a := 0) (by omega) (Nat.le_refl _) hl hg (by omega) fun l' H' k1 k2 k3 k4 => ?_
  simp only [go_sem, zA, zB, zC, reduceIte, zD, zE, zF, zG, zH, zI, reduceCtorEq, zJ, zK, zL, zM, zN, zO, zP]
  exact hQ l' H' k1 k2 k3 k4
theorem s_Sort12 {n sb : Nat} (hn : n ≤ 12) {l : List S} {H : Heap} (hl : l.length = n) (hg : H.get sb = .cells (scells l) .own) {Q : End → Heap → Prop}
    (hQ : ∀ l' H', PermOn 0 n l l' → SortedOn 0 n l' → Fr sb .nils H H' → H'.get sb = .cells (scells l') .own → Q (.ret (.tup [])) H') :
    wpf ⟨bt.get, o⟩ F_slices_SortFunc_runes_span_runes_span [slV sb n, cmpV] H Q := by
  rw [fn_slices_SortFunc_runes_span_runes_span (ho _ _ _ (by decide))]
  have e1 : IntKind.u64.wrap (n : Int) = (n : Int) := wu64' (by omega) (by omega)
  simp only [bd_slices_SortFunc_runes_span_runes_span, go_sem, zA, zB, zC, reduceIte, zD, zE, zF, zG, zH, zI, reduceCtorEq, zJ, zK, zL, zM, zN, zO, zP, e1]
  refine b_Len ho (by omega) fun k hk => ?_
  simp only [go_sem, zA, zB, zC, reduceIte, zD, zE, zF, zG, zH, zI, reduceCtorEq, zJ, zK, zL, zM, zN, zO, zP]
  refine p_small ho hn hl hg fun l' H' k1 k2 k3 k4 => ?_
  simp only [go_sem, zA, zB, zC, reduceIte, zD, zE, zF, zG, zH, zI, reduceCtorEq, zJ, zK, zL, zM, zN, zO, zP]
  exact hQ l' H' k1 k2 k3 k4
theorem s_Sort0 {H : Heap} {Q : End → Heap → Prop} (hQ : Q (.ret (.tup [])) H) :
    wpf ⟨bt.get, o⟩ F_slices_SortFunc_runes_span_runes_span [.nils, cmpV] H Q := by
  rw [fn_slices_SortFunc_runes_span_runes_span (ho _ _ _ (by decide))]
  have e1 : IntKind.u64.wrap 0 = ((0 : Nat) : Int) := wu64' (by omega) (by omega)
  simp only [bd_slices_SortFunc_runes_span_runes_span, go_sem, zA, zB, zC, reduceIte, zD, zE, zF, zG, zH, zI, reduceCtorEq, zJ, zK, zL, zM, zN, zO, zP, e1]
  refine b_Len ho (n := 0) (by omega) fun k hk => ?_
  simp only [go_sem, zA, zB, zC, reduceIte, zD, zE, zF, zG, zH, zI, reduceCtorEq, zJ, zK, zL, zM, zN, zO, zP]
  rw [fn_slices_pdqsortCmpFunc_runes_span (ho _ _ _ (by decide))]
  simp only [bd_slices_pdqsortCmpFunc_runes_span, go_sem, zA, zB, zC, reduceIte, zD, zE, zF, zG, zH, zI, reduceCtorEq, zJ, zK, zL, zM, zN, zO, zP]
  rw [wpl_step]
  have e2 : IntKind.i64.wrap 0 = 0 := by rfl
  simp only [lb_slices_pdqsortCmpFunc_runes_span_0, go_sem, zA, zB, zC, reduceIte, zD, zE, zF, zG, zH, zI, reduceCtorEq, zJ, zK, zL, zM, zN, zO, zP, e2]
  rw [fn_slices_insertionSortCmpFunc_runes_span (ho _ _ _ (by decide))]
  have e4 : IntKind.i64.wrap (0 + 1) = 1 := by rfl
  have e5 : IntKind.i64.wrap 1 = 1 := by rfl
  simp only [bd_slices_insertionSortCmpFunc_runes_span, go_sem, zA, zB, zC, reduceIte, zD, zE, zF, zG, zH, zI, reduceCtorEq, zJ, zK, zL, zM, zN, zO, zP, e4, e5]
  rw [wpl_step]
  simp only [lb_slices_insertionSortCmpFunc_runes_span_1, go_sem, zA, zB, zC, reduceIte, zD, zE, zF, zG, zH, zI, reduceCtorEq, zJ, zK, zL, zM, zN, zO, zP]
  exact hQ
end
/- How long a list of spans may be that is sorted: twelve (no more is needed here). -/
def capN : Nat := 12
theorem capN_le : capN ≤ 50000 := by decide
theorem capN_12 : 12 ≤ capN := Nat.le_refl _
section
variable {o : CallF} (ho : OvOnly o)
include ho
theorem s_SortC {n sb : Nat} (hn : n ≤ capN) (h0 : 0 < n) {l : List S} {H : Heap} (hl : l.length = n) (hg : H.get sb = .cells (scells l) .own) {Q : End → Heap → Prop}
    (hQ : ∀ l' H', PermOn 0 n l l' → SortedOn 0 n l' → Fr sb .nils H H' → H'.get sb = .cells (scells l') .own → Q (.ret (.tup [])) H') :
    wpf ⟨bt.get, o⟩ F_slices_SortFunc_runes_span_runes_span [slV sb n, cmpV] H Q := s_Sort12 ho hn hl hg hQ
end
/- Spans that are joined: the plain law. -/
structure R where
  lo : Int
  hi : Int
  deriving DecidableEq
def R.cells (x : R) : List AV := [.int .i32 x.lo, .int .i32 x.hi]
def rcells (l : List R) : List AV := l.flatMap R.cells
theorem rcells_app (l m : List R) : rcells (l ++ m) = rcells l ++ rcells m := List.flatMap_append
theorem rcells_len : ∀ l : List R, (rcells l).length = l.length * 2
  | [] => rfl
  | w :: l => by rw [rcells, List.flatMap_cons, List.length_append, ← rcells, rcells_len l, R.cells]; simp only [List.length_cons, List.length_nil]; omega
theorem rcells_at : ∀ {l : List R} {i : Nat} {x : R}, l[i]? = some x → List.take 2 (List.drop (i * 2) (rcells l)) = x.cells ∧ i * 2 + 2 ≤ (rcells l).length
  | y :: l, 0, x, h => by
    simp only [List.getElem?_cons_zero, Option.some.injEq] at h; subst h
    constructor
    · rfl
    · rw [rcells_len, List.length_cons]; omega
  | y :: l, i + 1, x, h => by
    have := rcells_at (l := l) (i := i) (x := x) (by simpa using h)
    constructor
    · rw [rcells, List.flatMap_cons, ← rcells, show (i + 1) * 2 = 2 + i * 2 by omega, ← List.drop_drop]
      exact this.1
    · rw [rcells_len, List.length_cons]; have h2 := this.2; rw [rcells_len] at h2; omega
/-- A range as a span, if it has runes. -/
def preS (r : R) : Option S := if r.lo ≤ r.hi ∧ numN r.lo < behN r.hi then some (numN r.lo, behN r.hi) else none
def preL (l : List R) : List S := l.filterMap preS
/-- Spans that rise are joined. -/
def mGo (c : S) : List S → List S
  | [] => [c]
  | x :: l => if x.1 ≤ c.2 then mGo (c.1, max c.2 x.2) l else c :: mGo x l
def mF : List S → List S
  | [] => []
  | x :: l => mGo x l
/-- A number lies in one of them. -/
def inS (l : List S) (n : Nat) : Prop := ∃ x ∈ l, x.1 ≤ n ∧ n < x.2
/-- Apart from one another, rising, none empty; the first begins at `k` or behind it. -/
def apart : Nat → List S → Prop
  | _, [] => True
  | k, x :: l => k ≤ x.1 ∧ x.1 < x.2 ∧ apart (x.2 + 1) l
theorem apart_ge : ∀ {l : List S} {k n : Nat}, apart k l → inS l n → k ≤ n
  | [], _, _, _, ⟨x, hx, _⟩ => by cases hx
  | y :: l, k, n, ⟨h1, h2, h3⟩, ⟨x, hx, g1, g2⟩ => by
    rcases List.mem_cons.1 hx with rfl | hx
    · omega
    · have := apart_ge h3 ⟨x, hx, g1, g2⟩; omega
theorem inS_cons {x : S} {l : List S} {n : Nat} : inS (x :: l) n ↔ (x.1 ≤ n ∧ n < x.2) ∨ inS l n := by
  unfold inS
  constructor
  · rintro ⟨y, hy, h⟩
    rcases List.mem_cons.1 hy with rfl | hy
    · exact .inl h
    · exact .inr ⟨y, hy, h⟩
  · rintro (h | ⟨y, hy, h⟩)
    · exact ⟨x, by simp, h⟩
    · exact ⟨y, by simp [hy], h⟩
theorem mGo_inS : ∀ (l : List S) (c : S) (n : Nat), c.1 < c.2 → (∀ x ∈ l, c.1 ≤ x.1 ∧ x.1 < x.2) → l.Pairwise (fun x y => x.1 ≤ y.1) → (inS (mGo c l) n ↔ inS (c :: l) n)
  | [], c, n, _, _, _ => Iff.rfl
  | x :: l, c, n, hc, hl, hp => by
    have hx := hl x (by simp)
    obtain ⟨p1, p2⟩ := List.pairwise_cons.1 hp
    simp only [mGo]
    split
    · rename_i hle
      rw [mGo_inS l _ n (by simp only; omega) (fun y hy => by have := hl y (by simp [hy]); exact this) p2]
      simp only [inS_cons]
      have key : (c.1 ≤ n ∧ n < max c.2 x.2) ↔ (c.1 ≤ n ∧ n < c.2) ∨ (x.1 ≤ n ∧ n < x.2) := by omega
      rw [key, or_assoc]
    · rename_i hle
      rw [inS_cons, inS_cons, mGo_inS l x n hx.2 (fun y hy => ⟨p1 y hy, (hl y (by simp [hy])).2⟩) p2]
theorem mGo_apart : ∀ (l : List S) (c : S) (k : Nat), k ≤ c.1 → c.1 < c.2 → (∀ x ∈ l, c.1 ≤ x.1 ∧ x.1 < x.2) → l.Pairwise (fun x y => x.1 ≤ y.1) → apart k (mGo c l)
  | [], c, k, hk, hc, _, _ => ⟨hk, hc, trivial⟩
  | x :: l, c, k, hk, hc, hl, hp => by
    have hx := hl x (by simp)
    obtain ⟨p1, p2⟩ := List.pairwise_cons.1 hp
    simp only [mGo]
    split
    · exact mGo_apart l _ k hk (by simp only; omega) (fun y hy => hl y (by simp [hy])) p2
    · exact ⟨hk, hc, mGo_apart l x _ (by omega) hx.2 (fun y hy => ⟨p1 y hy, (hl y (by simp [hy])).2⟩) p2⟩
theorem apart_eq : ∀ {l m : List S} {k j : Nat}, apart k l → apart j m → (∀ n, inS l n ↔ inS m n) → l = m
  | [], [], _, _, _, _, _ => rfl
  | [], y :: m, k, j, _, ⟨h1, h2, h3⟩, h => by
    obtain ⟨x, hx, _⟩ := (h y.1).2 ⟨y, by simp, Nat.le_refl _, h2⟩
    cases hx
  | x :: l, [], k, j, ⟨h1, h2, h3⟩, _, h => by
    obtain ⟨y, hy, _⟩ := (h x.1).1 ⟨x, by simp, Nat.le_refl _, h2⟩
    cases hy
  | x :: l, y :: m, k, j, ⟨h1, h2, h3⟩, ⟨g1, g2, g3⟩, h => by
    have hl : ∀ n, inS l n → x.2 + 1 ≤ n := fun n hn => apart_ge h3 hn
    have hm : ∀ n, inS m n → y.2 + 1 ≤ n := fun n hn => apart_ge g3 hn
    have h' : ∀ n, ((x.1 ≤ n ∧ n < x.2) ∨ inS l n) ↔ ((y.1 ≤ n ∧ n < y.2) ∨ inS m n) := fun n => by
      rw [← inS_cons, ← inS_cons]; exact h n
    have e1 : x.1 = y.1 := by
      have a := (h' x.1).1 (.inl ⟨Nat.le_refl _, h2⟩)
      have b := (h' y.1).2 (.inl ⟨Nat.le_refl _, g2⟩)
      rcases a with a | a
      · rcases b with b | b
        · omega
        · have := hl _ b; omega
      · have := hm _ a
        rcases b with b | b
        · omega
        · have := hl _ b; omega
    have e2 : x.2 = y.2 := by
      rcases Nat.lt_trichotomy x.2 y.2 with hlt | heq | hgt
      · have := (h' x.2).2 (.inl ⟨by omega, hlt⟩)
        rcases this with a | a
        · omega
        · have := hl _ a; omega
      · exact heq
      · have := (h' y.2).1 (.inl ⟨by omega, hgt⟩)
        rcases this with a | a
        · omega
        · have := hm _ a; omega
    have e3 : l = m := by
      refine apart_eq h3 g3 fun n => ⟨fun hn => ?_, fun hn => ?_⟩
      · have := hl n hn
        rcases (h' n).1 (.inr hn) with a | a
        · omega
        · exact a
      · have := hm n hn
        rcases (h' n).2 (.inr hn) with a | a
        · omega
        · exact a
    rw [e3, Prod.ext e1 e2]
/-- Rising spans, none empty: what becomes of them, joined. -/
theorem mF_spec {l : List S} (hl : ∀ x ∈ l, x.1 < x.2) (hp : l.Pairwise (fun x y => x.1 ≤ y.1)) : apart 0 (mF l) ∧ ∀ n, inS (mF l) n ↔ inS l n := by
  cases l with
  | nil => exact ⟨trivial, fun _ => Iff.rfl⟩
  | cons x l =>
    obtain ⟨p1, p2⟩ := List.pairwise_cons.1 hp
    have h : ∀ y ∈ l, x.1 ≤ y.1 ∧ y.1 < y.2 := fun y hy => ⟨p1 y hy, hl y (by simp [hy])⟩
    exact ⟨mGo_apart l x 0 (Nat.zero_le _) (hl x (by simp)) h p2, fun n => mGo_inS l x n (hl x (by simp)) h p2⟩
/-- Sorted by insertion. -/
def insS (x : S) : List S → List S
  | [] => [x]
  | y :: l => if x.1 ≤ y.1 then x :: y :: l else y :: insS x l
def srtS : List S → List S
  | [] => []
  | x :: l => insS x (srtS l)
theorem insS_mem {x y : S} : ∀ {l : List S}, y ∈ insS x l ↔ y = x ∨ y ∈ l
  | [] => by simp [insS]
  | z :: l => by
    simp only [insS]
    split
    · simp
    · simp only [List.mem_cons, insS_mem (l := l)]
      constructor
      · rintro (h | h | h)
        · exact .inr (.inl h)
        · exact .inl h
        · exact .inr (.inr h)
      · rintro (h | h | h)
        · exact .inr (.inl h)
        · exact .inl h
        · exact .inr (.inr h)
theorem insS_sorted {x : S} : ∀ {l : List S}, l.Pairwise (fun x y => x.1 ≤ y.1) → (insS x l).Pairwise (fun x y => x.1 ≤ y.1)
  | [], _ => by simp [insS]
  | z :: l, h => by
    obtain ⟨p1, p2⟩ := List.pairwise_cons.1 h
    simp only [insS]
    split
    · rename_i hle
      refine List.pairwise_cons.2 ⟨fun y hy => ?_, h⟩
      rcases List.mem_cons.1 hy with rfl | hy
      · exact hle
      · exact Nat.le_trans hle (p1 y hy)
    · rename_i hle
      refine List.pairwise_cons.2 ⟨fun y hy => ?_, insS_sorted p2⟩
      rcases insS_mem.1 hy with rfl | hy
      · omega
      · exact p1 y hy
theorem srtS_mem {y : S} : ∀ {l : List S}, y ∈ srtS l ↔ y ∈ l
  | [] => Iff.rfl
  | x :: l => by simp only [srtS, insS_mem, srtS_mem (l := l), List.mem_cons]
theorem srtS_sorted : ∀ l : List S, (srtS l).Pairwise (fun x y => x.1 ≤ y.1)
  | [] => List.Pairwise.nil
  | x :: l => insS_sorted (srtS_sorted l)
/-- The spans of ranges, apart. -/
def spansF (l : List R) : List S := mF (srtS (preL l))
theorem preL_ok {l : List R} : ∀ x ∈ preL l, x.1 < x.2 := by
  intro x hx
  obtain ⟨r, _, h⟩ := List.mem_filterMap.1 hx
  unfold preS at h
  split at h
  · rename_i hc; injection h with h; subst h; exact hc.2
  · cases h
theorem preL_bd {l : List R} : ∀ x ∈ preL l, x.1 ≤ 1112065 ∧ x.2 ≤ 1112065 := by
  intro x hx
  obtain ⟨r, _, h⟩ := List.mem_filterMap.1 hx
  unfold preS at h
  split at h
  · injection h with h; subst h
    exact ⟨by have := numN_le r.lo; simp only; omega, behN_le _⟩
  · cases h
theorem spansF_of {l : List R} {m : List S} (hm : ∀ x, x ∈ m ↔ x ∈ preL l) (hp : m.Pairwise (fun x y => x.1 ≤ y.1)) : mF m = spansF l := by
  obtain ⟨a1, a2⟩ := mF_spec (l := m) (fun x hx => preL_ok x ((hm x).1 hx)) hp
  obtain ⟨b1, b2⟩ := mF_spec (l := srtS (preL l)) (fun x hx => preL_ok x (srtS_mem.1 hx)) (srtS_sorted _)
  refine apart_eq a1 b1 fun n => ?_
  show _ ↔ inS (mF (srtS (preL l))) n
  rw [a2, b2]
  unfold inS
  constructor
  · rintro ⟨x, hx, h⟩; exact ⟨x, srtS_mem.2 ((hm x).1 hx), h⟩
  · rintro ⟨x, hx, h⟩; exact ⟨x, (hm x).2 (srtS_mem.1 hx), h⟩
/-- What sorting leaves: the same elements, rising. -/
theorem sorted_pair {l : List S} (h : SortedOn 0 l.length l) : l.Pairwise (fun x y => x.1 ≤ y.1) := by
  rw [List.pairwise_iff_getElem]
  intro i j hi hj hij
  have := h i j (Nat.zero_le _) hij hj
  rw [key_of (List.getElem?_eq_getElem hi), key_of (List.getElem?_eq_getElem hj)] at this
  exact this
theorem perm_mem {l l' : List S} (h : PermOn 0 l.length l l') (x : S) : x ∈ l' ↔ x ∈ l := by
  have e : ∀ m : List S, m.length = l.length → (x ∈ m ↔ ∃ p, 0 ≤ p ∧ p < l.length ∧ m[p]? = some x) := by
    intro m hm
    rw [List.mem_iff_getElem?]
    constructor
    · rintro ⟨p, hp⟩; exact ⟨p, Nat.zero_le _, by rw [← hm]; exact (List.getElem?_eq_some_iff.1 hp).1, hp⟩
    · rintro ⟨p, _, _, hp⟩; exact ⟨p, hp⟩
  rw [e l' h.len, e l rfl]
  exact h.mem x
def rngF (l : List S) : List R := l.map fun x => ⟨valN x.1, valN (x.2 - 1)⟩
/-- The one list of a set. -/
def normF (l : List R) : List R := rngF (spansF l)
/-- What lies between spans. -/
def gapsF : Nat → List S → List S
  | k, [] => if k < 1112064 then [(k, 1112064)] else []
  | k, x :: l => if k < x.1 then (k, x.1) :: gapsF x.2 l else gapsF x.2 l
def notF (l : List R) : List R := rngF (gapsF 0 (spansF l))
theorem mGo_bd {B : Nat} : ∀ {l : List S} {c : S}, c.1 ≤ B → c.2 ≤ B → (∀ x ∈ l, x.1 ≤ B ∧ x.2 ≤ B) → (mGo c l).length ≤ l.length + 1 ∧ ∀ x ∈ mGo c l, x.1 ≤ B ∧ x.2 ≤ B
  | [], c, h1, h2, _ => ⟨Nat.le_refl _, fun x hx => by simp [mGo] at hx; rw [hx]; exact ⟨h1, h2⟩⟩
  | y :: l, c, h1, h2, h => by
    have hy := h y (by simp)
    simp only [mGo]
    split
    · obtain ⟨g1, g2⟩ := mGo_bd (l := l) (c := (c.1, max c.2 y.2)) h1 (by simp only; omega) (fun x hx => h x (by simp [hx]))
      exact ⟨by simp only [List.length_cons]; omega, g2⟩
    · obtain ⟨g1, g2⟩ := mGo_bd (l := l) (c := y) hy.1 hy.2 (fun x hx => h x (by simp [hx]))
      refine ⟨by simp only [List.length_cons]; omega, fun x hx => ?_⟩
      rcases List.mem_cons.1 hx with rfl | hx
      · exact ⟨h1, h2⟩
      · exact g2 x hx
theorem insS_len {x : S} : ∀ {l : List S}, (insS x l).length = l.length + 1
  | [] => rfl
  | y :: l => by
    simp only [insS]
    split
    · rfl
    · simp only [List.length_cons, insS_len (l := l)]
theorem srtS_len : ∀ l : List S, (srtS l).length = l.length
  | [] => rfl
  | x :: l => by simp only [srtS, insS_len, srtS_len l, List.length_cons]
theorem spansF_bd (l : List R) : (spansF l).length ≤ l.length ∧ ∀ x ∈ spansF l, x.1 ≤ 1112065 ∧ x.2 ≤ 1112065 := by
  have h0 : (preL l).length ≤ l.length := List.length_filterMap_le _ _
  unfold spansF
  have h1 := srtS_len (preL l)
  have h2 : ∀ x ∈ srtS (preL l), x.1 ≤ 1112065 ∧ x.2 ≤ 1112065 := fun x hx => preL_bd x (srtS_mem.1 hx)
  cases h : srtS (preL l) with
  | nil => exact ⟨Nat.zero_le _, fun x hx => by cases hx⟩
  | cons y m =>
    rw [h] at h1 h2
    obtain ⟨g1, g2⟩ := mGo_bd (l := m) (c := y) (h2 y (by simp)).1 (h2 y (by simp)).2 (fun x hx => h2 x (by simp [hx]))
    simp only [List.length_cons] at h1
    exact ⟨by simp only [mF]; omega, g2⟩
end Go.Ev
