/- Several texts of this claim, joined. -/
import Derived.Test.YtkpjindnackmdaaGreatDoorT23

/- Sorting of spans: what insertionSortCmpFunc comes to. -/
namespace Go.Ev
open Go
open Go.Ev renaming seqK_normal → zA, blockK_normal → zB, blockK_exit → zC
open Nat renaming reduceEqDiff → zD, reduceAdd → zE, reduceSub → zF, reduceMul → zG, reduceLeDiff → zH, reduceLT → zI
open Int renaming reduceToNat → zJ, reduceLT → zK, reduceLE → zL, reduceEq → zM, reduceAdd → zN, reduceSub → zO, reduceMul → zP
set_option linter.unusedSimpArgs false
set_option linter.unusedVariables false
set_option maxRecDepth 8000

def cmpZ (a b : Int) : Int := if a < b then -1 else if b < a then 1 else 0
theorem cmpZ_lt (a b : Int) : (cmpZ a b < 0) = (a < b) := by
  unfold cmpZ
  repeat' split
  all_goals simp <;> omega
theorem cmpZ_lt' (a b : Nat) : (cmpZ (a : Int) (b : Int) < 0) = (a < b) := by rw [cmpZ_lt]; simp

theorem wpred {n : Nat} (h0 : 0 < n) (h : n ≤ 1000000000) : IntKind.i64.wrap ((n : Int) - 1) = ((n - 1 : Nat) : Int) := by
  rw [wi64 (by omega) (by omega)]; omega

section
variable {o : CallF} (ho : OvOnly o)
include ho

theorem c_Compare {a b : Int} {H : Heap} {Q : End → Heap → Prop} (h : Q (.ret (.int .i64 (cmpZ a b))) H) : wpf ⟨bt.get, o⟩ F_cmp_Compare_int [.int .i64 a, .int .i64 b] H Q := by
  rw [fn_cmp_Compare_int (ho _ _ _ (by decide))]
  simp only [bd_cmp_Compare_int, go_sem, zA, zB, zC, reduceIte, zD, zE, zF, zG, zH, zI, reduceCtorEq, zJ, zK, zL, zM, zN, zO, zP]
  rw [fn_cmp_isNaN_int (ho _ _ _ (by decide))]
  simp only [bd_cmp_isNaN_int, go_sem, zA, zB, zC, reduceIte, zD, zE, zF, zG, zH, zI, reduceCtorEq, zJ, zK, zL, zM, zN, zO, zP]
  rw [fn_cmp_isNaN_int (ho _ _ _ (by decide))]
  simp only [bd_cmp_isNaN_int, go_sem, zA, zB, zC, reduceIte, zD, zE, zF, zG, zH, zI, reduceCtorEq, zJ, zK, zL, zM, zN, zO, zP]
  by_cases h1 : a < b
  · simp only [go_sem, zA, zB, zC, reduceIte, zD, zE, zF, zG, zH, zI, reduceCtorEq, zJ, zK, zL, zM, zN, zO, zP, h1]
    simpa only [cmpZ, if_pos h1] using h
  · by_cases h2 : b < a
    · simp only [go_sem, zA, zB, zC, reduceIte, zD, zE, zF, zG, zH, zI, reduceCtorEq, zJ, zK, zL, zM, zN, zO, zP, h1, h2]
      simpa only [cmpZ, if_neg h1, if_pos h2] using h
    · simp only [go_sem, zA, zB, zC, reduceIte, zD, zE, zF, zG, zH, zI, reduceCtorEq, zJ, zK, zL, zM, zN, zO, zP, h1, h2]
      simpa only [cmpZ, if_neg h1, if_neg h2] using h

theorem c_cmp {a b : S} {H : Heap} {Q : End → Heap → Prop} (h : ∀ H', Ext H.size H H' → Q (.ret (.int .i64 (cmpZ a.1 b.1))) H') : wpf ⟨bt.get, o⟩ F_runes_spans_1 [.agg a.cells, .agg b.cells] H Q := by
  rw [fn_runes_spans_1 (ho _ _ _ (by decide))]
  have e1 : ((H.push (.cells [.int .i64 a.1, .int .i64 a.2] .own)).push (.cells [.int .i64 b.1, .int .i64 b.2] .own)).get H.size = .cells [.int .i64 a.1, .int .i64 a.2] .own := by
    rw [Heap.get_push_lt (by rw [Heap.size_push]; omega), Heap.get_push_self]
  have e2 : ((H.push (.cells [.int .i64 a.1, .int .i64 a.2] .own)).push (.cells [.int .i64 b.1, .int .i64 b.2] .own)).get (H.size + 1) = .cells [.int .i64 b.1, .int .i64 b.2] .own := by
    rw [Heap.get_push_eq (by rw [Heap.size_push])]
  simp only [bd_runes_spans_1, go_sem, zA, zB, zC, reduceIte, zD, zE, zF, zG, zH, zI, reduceCtorEq, zJ, zK, zL, zM, zN, zO, zP, S.cells, e1, e2]
  refine c_Compare ho ?_
  simp only [go_sem, zA, zB, zC, reduceIte, zD, zE, zF, zG, zH, zI, reduceCtorEq, zJ, zK, zL, zM, zN, zO, zP]
  exact h _ ((Ext.push (Nat.le_refl _)).trans (Ext.push (by rw [Heap.size_push]; omega)))

abbrev cmpV : AV := .fn F_runes_spans_1 []
/-- The arguments of the sorting functions: a slice of spans. -/
abbrev slV (sb n : Nat) : AV := .osl 2 sb 0 n

theorem ins_loop0 {n a b i sb : Nat} (hn : n ≤ 1000000) {Q : Ctl → St → Prop} : ∀ (j : Nat) (l : List S) (H : Heap), a ≤ j → j ≤ i → i < n → l.length = n → H.get sb = .cells (scells l) .own →
    (∀ p q, a ≤ p → p < q → q ≤ i → p ≠ j → q ≠ j → key l p ≤ key l q) → (∀ q, j < q → q ≤ i → key l j ≤ key l q) →
    (∀ l' H' j' x t, PermOn a (i + 1) l l' → SortedOn a (i + 1) l' → Fr sb .nils H H' → H'.get sb = .cells (scells l') .own → Q (.exit 2) { p := [(0, slV sb n), (1, .int .i64 a), (2, .int .i64 b), (3, cmpV), (8, .int .i64 i), (9, j'), (34, x)], t := t, H := H', d := [], u := .norm }) →
    wpl ⟨bt.get, o⟩ [0, 1, 2, 3, 8, 9] lb_slices_insertionSortCmpFunc_runes_span_0 { p := [(0, slV sb n), (1, .int .i64 a), (2, .int .i64 b), (3, cmpV), (8, .int .i64 i), (9, .int .i64 j)], t := [], H := H, d := [], u := .norm } Q := by
  intro j
  induction j with
  | zero =>
    intro l H h1 h2 h3 hl hg hA hB hQ
    rw [wpl_step]
    have c1 : ¬ ((a : Int) < ((0 : Nat) : Int)) := by omega
    have a0 : a = 0 := by omega
    subst a0
    simp only [lb_slices_insertionSortCmpFunc_runes_span_0, go_sem, zA, zB, zC, reduceIte, zD, zE, zF, zG, zH, zI, reduceCtorEq, zJ, zK, zL, zM, zN, zO, zP]
    refine hQ l H _ _ _ PermOn.refl (fun p q g1 g2 g3 => ?_) ⟨Nat.le_refl _, fun _ _ _ _ => rfl⟩ hg
    by_cases e : p = 0
    · subst e; exact hB q (by omega) (by omega)
    · exact hA p q g1 g2 (by omega) e (by omega)
  | succ j ih =>
    intro l H h1 h2 h3 hl hg hA hB hQ
    rw [wpl_step]
    by_cases ha : a = j + 1
    · have c1 : ¬ ((a : Int) < ((j + 1 : Nat) : Int)) := by omega
      simp only [lb_slices_insertionSortCmpFunc_runes_span_0, go_sem, zA, zB, zC, reduceIte, zD, zE, zF, zG, zH, zI, reduceCtorEq, zJ, zK, zL, zM, zN, zO, zP, c1]
      refine hQ l H _ _ _ PermOn.refl (fun p q g1 g2 g3 => ?_) ⟨Nat.le_refl _, fun _ _ _ _ => rfl⟩ hg
      by_cases e : p = j + 1
      · subst e; exact hB q (by omega) (by omega)
      · exact hA p q g1 g2 (by omega) e (by omega)
    · have c1 : ((a : Int) < ((j + 1 : Nat) : Int)) := by omega
      have c2 : ((j + 1 : Nat) : Int) < (n : Int) := by omega
      have c3 : (j : Int) < (n : Int) := by omega
      have wp := wpred (n := j + 1) (by omega) (by omega)
      rw [Nat.add_sub_cancel] at wp
      have g1 := get_of (l := l) (i := j + 1) (by omega)
      have g0 := get_of (l := l) (i := j) (by omega)
      obtain ⟨s1, s1'⟩ := scells_at g1
      obtain ⟨s0, s0'⟩ := scells_at g0
      simp only [lb_slices_insertionSortCmpFunc_runes_span_0, go_sem, zA, zB, zC, reduceIte, zD, zE, zF, zG, zH, zI, reduceCtorEq, zJ, zK, zL, zM, zN, zO, zP, c1, c2, c3, wp, hg, s0, s1, s0', s1']
      refine c_cmp ho fun H1 hx1 => ?_
      have hlt : sb < H.size := Heap.lt_of_get (by rw [hg]; simp)
      have hg1 : H1.get sb = .cells (scells l) .own := by rw [hx1.2 sb hlt, hg]
      have hlt1 : sb < H1.size := Heap.lt_of_get (by rw [hg1]; simp)
      have fr1 : Fr sb .nils H H1 := ⟨hx1.1, fun c hc _ _ => hx1.2 c hc⟩
      simp only [go_sem, zA, zB, zC, reduceIte, zD, zE, zF, zG, zH, zI, reduceCtorEq, zJ, zK, zL, zM, zN, zO, zP, cmpZ_lt']
      by_cases hc : (l.getD (j + 1) (0, 0)).1 < (l.getD j (0, 0)).1
      · have x0 := scells_setS (l := l) (i := j + 1) (l.getD j (0, 0)) (by omega)
        have x1 := scells_setS (l := l.set (j + 1) (l.getD j (0, 0))) (i := j) (l.getD (j + 1) (0, 0)) (by simp; omega)
        have y0 : j * 2 + 2 ≤ (scells (l.set (j + 1) (l.getD j (0, 0)))).length := by rw [scells_len, List.length_set]; omega
        simp only [go_sem, zA, zB, zC, reduceIte, zD, zE, zF, zG, zH, zI, reduceCtorEq, zJ, zK, zL, zM, zN, zO, zP, hc, c2, c3, wp, hg1, s0, s1, s0', s1', S.cells, Heap.get_set_self hlt1, List.length_set, x0, x1, y0]
        have ks := key_swp (l := l) (i := j + 1) (j := j) (by omega) (by omega)
        have kc : key l (j + 1) < key l j := hc
        refine ih (swp l (j + 1) j) _ (by omega) (by omega) h3 (by rw [swp_len]; exact hl) (Heap.get_set_self hlt1) (fun p q g1 g2 g3 g4 g5 => ?_) (fun q g1 g2 => ?_) fun l' H' j' x t k1 k2 k3 k4 => hQ l' H' j' x t ((PermOn.swp (by omega) (by omega) (by omega) (by omega) (by omega)).trans k1) k2 (fr1.trans (Fr.set.trans k3)) k4
        · rw [ks, ks, if_neg g4, if_neg g5]
          by_cases e1 : p = j + 1
          · rw [if_pos e1, if_neg (by omega)]
            exact hA j q (by omega) (by omega) g3 (by omega) (by omega)
          · rw [if_neg e1]
            by_cases e2 : q = j + 1
            · rw [if_pos e2]
              exact hA p j g1 (by omega) (by omega) e1 (by omega)
            · rw [if_neg e2]
              exact hA p q g1 g2 g3 e1 e2
        · rw [ks, ks, if_pos rfl, if_neg (by omega)]
          by_cases e2 : q = j + 1
          · rw [if_pos e2]; omega
          · rw [if_neg e2]
            exact hB q (by omega) g2
      · simp only [go_sem, zA, zB, zC, reduceIte, zD, zE, zF, zG, zH, zI, reduceCtorEq, zJ, zK, zL, zM, zN, zO, zP, hc]
        refine hQ l H1 _ _ _ PermOn.refl (fun p q g1 g2 g3 => ?_) fr1 hg1
        have hk : key l j ≤ key l (j + 1) := by unfold key; omega
        by_cases e : p = j + 1
        · subst e; exact hB q (by omega) (by omega)
        · by_cases e2 : q = j + 1
          · subst e2
            by_cases e3 : p = j
            · subst e3; exact hk
            · exact Nat.le_trans (hA p j g1 (by omega) (by omega) e (by omega)) hk
          · exact hA p q g1 g2 (by omega) e e2

theorem ins_loop1 {n a b sb : Nat} (hn : n ≤ 1000000) (hb : b ≤ n) {Q : Ctl → St → Prop} : ∀ (m i : Nat) (l : List S) (H : Heap), b - i ≤ m → a < i → l.length = n → H.get sb = .cells (scells l) .own → SortedOn a i l →
    (∀ l' H' i' x t, PermOn a b l l' → SortedOn a b l' → Fr sb .nils H H' → H'.get sb = .cells (scells l') .own → Q (.exit 0) { p := [(0, slV sb n), (1, .int .i64 a), (2, .int .i64 b), (3, cmpV), (8, i'), (14, x)], t := t, H := H', d := [], u := .norm }) →
    wpl ⟨bt.get, o⟩ [0, 1, 2, 3, 8] lb_slices_insertionSortCmpFunc_runes_span_1 { p := [(0, slV sb n), (1, .int .i64 a), (2, .int .i64 b), (3, cmpV), (8, .int .i64 i)], t := [], H := H, d := [], u := .norm } Q := by
  intro m
  induction m with
  | zero =>
    intro i l H h1 h2 hl hg hS hQ
    rw [wpl_step]
    have c1 : ¬ ((i : Int) < (b : Int)) := by omega
    simp only [lb_slices_insertionSortCmpFunc_runes_span_1, go_sem, zA, zB, zC, reduceIte, zD, zE, zF, zG, zH, zI, reduceCtorEq, zJ, zK, zL, zM, zN, zO, zP, c1]
    exact hQ l H _ _ _ PermOn.refl (fun p q g1 g2 g3 => hS p q g1 g2 (by omega)) Fr.refl hg
  | succ m ih =>
    intro i l H h1 h2 hl hg hS hQ
    rw [wpl_step]
    by_cases c : i < b
    · have c1 : ((i : Int) < (b : Int)) := by omega
      simp only [lb_slices_insertionSortCmpFunc_runes_span_1, go_sem, zA, zB, zC, reduceIte, zD, zE, zF, zG, zH, zI, reduceCtorEq, zJ, zK, zL, zM, zN, zO, zP, c1]
      refine ins_loop0 ho hn i l H (by omega) (Nat.le_refl _) (by omega) hl hg (fun p q g1 g2 g3 g4 g5 => hS p q g1 g2 (by omega)) (fun q g1 g2 => by omega) fun l' H' j' x t k1 k2 k3 k4 => ?_
      simp only [go_sem, zA, zB, zC, reduceIte, zD, zE, zF, zG, zH, zI, reduceCtorEq, zJ, zK, zL, zM, zN, zO, zP, wsucc (show i ≤ 1000000000 by omega)]
      refine ih (i + 1) l' H' (by omega) (by omega) (by rw [k1.len]; exact hl) k4 k2 fun l2 H2 i2 x2 t2 g1 g2 g3 g4 => hQ l2 H2 i2 x2 t2 ((k1.widen (Nat.le_refl _) (by omega)).trans g1) g2 (k3.trans g3) g4
    · have c1 : ¬ ((i : Int) < (b : Int)) := by omega
      simp only [lb_slices_insertionSortCmpFunc_runes_span_1, go_sem, zA, zB, zC, reduceIte, zD, zE, zF, zG, zH, zI, reduceCtorEq, zJ, zK, zL, zM, zN, zO, zP, c1]
      exact hQ l H _ _ _ PermOn.refl (fun p q g1 g2 g3 => hS p q g1 g2 (by omega)) Fr.refl hg

theorem ins_sort {n a b sb : Nat} (hn : n ≤ 1000000) (hb : b ≤ n) {l : List S} {H : Heap} (hl : l.length = n) (hg : H.get sb = .cells (scells l) .own) (ha : a ≤ 1000000) {Q : End → Heap → Prop}
    (hQ : ∀ l' H', PermOn a b l l' → SortedOn a b l' → Fr sb .nils H H' → H'.get sb = .cells (scells l') .own → Q (.ret (.tup [])) H') :
    wpf ⟨bt.get, o⟩ F_slices_insertionSortCmpFunc_runes_span [slV sb n, .int .i64 a, .int .i64 b, cmpV] H Q := by
  rw [fn_slices_insertionSortCmpFunc_runes_span (ho _ _ _ (by decide))]
  simp only [bd_slices_insertionSortCmpFunc_runes_span, go_sem, zA, zB, zC, reduceIte, zD, zE, zF, zG, zH, zI, reduceCtorEq, zJ, zK, zL, zM, zN, zO, zP, wsucc (show a ≤ 1000000000 by omega)]
  refine ins_loop1 ho hn hb _ (a + 1) l H (Nat.le_refl _) (by omega) hl hg (fun p q g1 g2 g3 => by omega) fun l' H' i' x t k1 k2 k3 k4 => ?_
  simp only [go_sem, zA, zB, zC, reduceIte, zD, zE, zF, zG, zH, zI, reduceCtorEq, zJ, zK, zL, zM, zN, zO, zP]
  exact hQ l' H' k1 k2 k3 k4
end
end Go.Ev

/- Sorting of few spans: what slices.SortFunc comes to. -/
namespace Go.Ev
open Go
open Go.Ev renaming seqK_normal → zA, blockK_normal → zB, blockK_exit → zC
open Nat renaming reduceEqDiff → zD, reduceAdd → zE, reduceSub → zF, reduceMul → zG, reduceLeDiff → zH, reduceLT → zI
open Int renaming reduceToNat → zJ, reduceLT → zK, reduceLE → zL, reduceEq → zM, reduceAdd → zN, reduceSub → zO, reduceMul → zP
set_option linter.unusedSimpArgs false
set_option linter.unusedVariables false
set_option maxRecDepth 8000

theorem wu8 {x : Int} (h0 : 0 ≤ x) (h1 : x ≤ 255) : IntKind.u8.wrap x = x := by
  simp only [IntKind.wrap]
  simp [IntKind.signed, IntKind.bits]
  omega
theorem wu64' {x : Int} (h0 : 0 ≤ x) (h1 : x ≤ 1000000000) : IntKind.u64.wrap x = x := by
  simp only [IntKind.wrap]
  simp [IntKind.signed, IntKind.bits]
  omega

section
variable {o : CallF} (ho : OvOnly o)
include ho

theorem b_Len {n : Nat} (hn : n < 65536) {H : Heap} {Q : End → Heap → Prop} (h : ∀ k : Nat, k ≤ 300 → Q (.ret (.int .i64 (k : Int))) H) : wpf ⟨bt.get, o⟩ F_bits_Len [.int .u64 (n : Int)] H Q := by
  rw [fn_bits_Len (ho _ _ _ (by decide))]
  simp only [bd_bits_Len, go_sem, zA, zB, zC, reduceIte, zD, zE, zF, zG, zH, zI, reduceCtorEq, zJ, zK, zL, zM, zN, zO, zP]
  rw [fn_bits_Len64 (ho _ _ _ (by decide))]
  have c1 : ¬ ((4294967296 : Int) ≤ (n : Int)) := by omega
  have c2 : ¬ ((65536 : Int) ≤ (n : Int)) := by omega
  by_cases c : 256 ≤ n
  · have c3 : ((256 : Int) ≤ (n : Int)) := by omega
    have e1 : shiftA .shr .u64 (n : Int) 8 = some (.int .u64 ((n / 256 : Nat) : Int)) := by
      show some (AV.int .u64 ((n : Int).fdiv (2 ^ (min (8 : Int).toNat 64)))) = _
      have : (2 : Int) ^ (min (8 : Int).toNat 64) = 256 := by decide
      rw [this, Int.fdiv_eq_ediv_of_nonneg _ (by omega)]; rfl
    have e2 : IntKind.u8.wrap ((n / 256 : Nat) : Int) = ((n / 256 : Nat) : Int) := wu8 (by omega) (by omega)
    simp only [bd_bits_Len64, go_sem, zA, zB, zC, reduceIte, zD, zE, zF, zG, zH, zI, reduceCtorEq, zJ, zK, zL, zM, zN, zO, zP, c1, c2, c3, e1, e2]
    split
    · rename_i b hb
      have hb2 : b.toNat < 256 := b.toNat_lt
      have e3 : IntKind.i64.wrap (b.toNat : Int) = (b.toNat : Int) := wi64 (by omega) (by omega)
      have e5 : IntKind.i64.wrap (8 + (b.toNat : Int)) = ((8 + b.toNat : Nat) : Int) := by rw [wi64 (by omega) (by omega)]; rfl
      have e4 : IntKind.i64.wrap 8 = 8 := by rfl
      simp only [go_sem, zA, zB, zC, reduceIte, zD, zE, zF, zG, zH, zI, reduceCtorEq, zJ, zK, zL, zM, zN, zO, zP, e3, e4, e5]
      exact h _ (by omega)
    · rename_i hb
      have h2 : 256 ≤ n / 256 := List.getElem?_eq_none_iff.1 hb
      omega
  · have c3 : ¬ ((256 : Int) ≤ (n : Int)) := by omega
    have e2 : IntKind.u8.wrap (n : Int) = (n : Int) := wu8 (by omega) (by omega)
    simp only [bd_bits_Len64, go_sem, zA, zB, zC, reduceIte, zD, zE, zF, zG, zH, zI, reduceCtorEq, zJ, zK, zL, zM, zN, zO, zP, c1, c2, c3, e2]
    split
    · rename_i b hb
      have hb2 : b.toNat < 256 := b.toNat_lt
      have e3 : IntKind.i64.wrap (b.toNat : Int) = (b.toNat : Int) := wi64 (by omega) (by omega)
      simp only [go_sem, zA, zB, zC, reduceIte, zD, zE, zF, zG, zH, zI, reduceCtorEq, zJ, zK, zL, zM, zN, zO, zP, e3]
      exact h _ (by omega)
    · rename_i hb
      have h2 : 256 ≤ n := List.getElem?_eq_none_iff.1 hb
      omega

theorem p_small {n sb k : Nat} (hn : n ≤ 12) {l : List S} {H : Heap} (hl : l.length = n) (hg : H.get sb = .cells (scells l) .own) {Q : End → Heap → Prop}
    (hQ : ∀ l' H', PermOn 0 n l l' → SortedOn 0 n l' → Fr sb .nils H H' → H'.get sb = .cells (scells l') .own → Q (.ret (.tup [])) H') :
    wpf ⟨bt.get, o⟩ F_slices_pdqsortCmpFunc_runes_span [slV sb n, .int .i64 0, .int .i64 n, .int .i64 (k : Int), cmpV] H Q := by
  rw [fn_slices_pdqsortCmpFunc_runes_span (ho _ _ _ (by decide))]
  simp only [bd_slices_pdqsortCmpFunc_runes_span, go_sem, zA, zB, zC, reduceIte, zD, zE, zF, zG, zH, zI, reduceCtorEq, zJ, zK, zL, zM, zN, zO, zP]
  rw [wpl_step]
  have e1 : IntKind.i64.wrap ((n : Int) - 0) = (n : Int) := by rw [Int.sub_zero]; exact wi64 (by omega) (by omega)
  have e2 : (n : Int) ≤ 12 := by omega
  simp only [lb_slices_pdqsortCmpFunc_runes_span_0, go_sem, zA, zB, zC, reduceIte, zD, zE, zF, zG, zH, zI, reduceCtorEq, zJ, zK, zL, zM, zN, zO, zP, e1, e2]
  refine ins_sort ho (a := 0) (by omega) (Nat.le_refl _) hl hg (by omega) fun l' H' k1 k2 k3 k4 => ?_
  simp only [go_sem, zA, zB, zC, reduceIte, zD, zE, zF, zG, zH, zI, reduceCtorEq, zJ, zK, zL, zM, zN, zO, zP]
  exact hQ l' H' k1 k2 k3 k4

theorem s_Sort12 {n sb : Nat} (hn : n ≤ 12) {l : List S} {H : Heap} (hl : l.length = n) (hg : H.get sb = .cells (scells l) .own) {Q : End → Heap → Prop}
    (hQ : ∀ l' H', PermOn 0 n l l' → SortedOn 0 n l' → Fr sb .nils H H' → H'.get sb = .cells (scells l') .own → Q (.ret (.tup [])) H') :
    wpf ⟨bt.get, o⟩ F_slices_SortFunc_runes_span_runes_span [slV sb n, cmpV] H Q := by
  rw [fn_slices_SortFunc_runes_span_runes_span (ho _ _ _ (by decide))]
  have e1 : IntKind.u64.wrap (n : Int) = (n : Int) := wu64' (by omega) (by omega)
  simp only [bd_slices_SortFunc_runes_span_runes_span, go_sem, zA, zB, zC, reduceIte, zD, zE, zF, zG, zH, zI, reduceCtorEq, zJ, zK, zL, zM, zN, zO, zP, e1]
  refine b_Len ho (by omega) fun k hk => ?_
  simp only [go_sem, zA, zB, zC, reduceIte, zD, zE, zF, zG, zH, zI, reduceCtorEq, zJ, zK, zL, zM, zN, zO, zP]
  refine p_small ho hn hl hg fun l' H' k1 k2 k3 k4 => ?_
  simp only [go_sem, zA, zB, zC, reduceIte, zD, zE, zF, zG, zH, zI, reduceCtorEq, zJ, zK, zL, zM, zN, zO, zP]
  exact hQ l' H' k1 k2 k3 k4

theorem s_Sort0 {H : Heap} {Q : End → Heap → Prop} (hQ : Q (.ret (.tup [])) H) :
    wpf ⟨bt.get, o⟩ F_slices_SortFunc_runes_span_runes_span [.nils, cmpV] H Q := by
  rw [fn_slices_SortFunc_runes_span_runes_span (ho _ _ _ (by decide))]
  have e1 : IntKind.u64.wrap 0 = ((0 : Nat) : Int) := wu64' (by omega) (by omega)
  simp only [bd_slices_SortFunc_runes_span_runes_span, go_sem, zA, zB, zC, reduceIte, zD, zE, zF, zG, zH, zI, reduceCtorEq, zJ, zK, zL, zM, zN, zO, zP, e1]
  refine b_Len ho (n := 0) (by omega) fun k hk => ?_
  simp only [go_sem, zA, zB, zC, reduceIte, zD, zE, zF, zG, zH, zI, reduceCtorEq, zJ, zK, zL, zM, zN, zO, zP]
  rw [fn_slices_pdqsortCmpFunc_runes_span (ho _ _ _ (by decide))]
  simp only [bd_slices_pdqsortCmpFunc_runes_span, go_sem, zA, zB, zC, reduceIte, zD, zE, zF, zG, zH, zI, reduceCtorEq, zJ, zK, zL, zM, zN, zO, zP]
  rw [wpl_step]
  have e2 : IntKind.i64.wrap 0 = 0 := by rfl
  simp only [lb_slices_pdqsortCmpFunc_runes_span_0, go_sem, zA, zB, zC, reduceIte, zD, zE, zF, zG, zH, zI, reduceCtorEq, zJ, zK, zL, zM, zN, zO, zP, e2]
  rw [fn_slices_insertionSortCmpFunc_runes_span (ho _ _ _ (by decide))]
  have e4 : IntKind.i64.wrap (0 + 1) = 1 := by rfl
  have e5 : IntKind.i64.wrap 1 = 1 := by rfl
  simp only [bd_slices_insertionSortCmpFunc_runes_span, go_sem, zA, zB, zC, reduceIte, zD, zE, zF, zG, zH, zI, reduceCtorEq, zJ, zK, zL, zM, zN, zO, zP, e4, e5]
  rw [wpl_step]
  simp only [lb_slices_insertionSortCmpFunc_runes_span_1, go_sem, zA, zB, zC, reduceIte, zD, zE, zF, zG, zH, zI, reduceCtorEq, zJ, zK, zL, zM, zN, zO, zP]
  exact hQ
end
end Go.Ev

/- Sorting of spans, further: which pivot; turned about; scattered. -/
namespace Go.Ev
open Go
open Go.Ev renaming seqK_normal → zA, blockK_normal → zB, blockK_exit → zC
open Nat renaming reduceEqDiff → zD, reduceAdd → zE, reduceSub → zF, reduceMul → zG, reduceLeDiff → zH, reduceLT → zI
open Int renaming reduceToNat → zJ, reduceLT → zK, reduceLE → zL, reduceEq → zM, reduceAdd → zN, reduceSub → zO, reduceMul → zP
set_option linter.unusedSimpArgs false
set_option linter.unusedVariables false
set_option maxRecDepth 8000

theorem at_idx {l : List S} {n i : Nat} (hl : l.length = n) (hi : i < n) : ((i : Int) < (n : Int)) ∧ List.take 2 (List.drop (i * 2) (scells l)) = (l.getD i (0, 0)).cells ∧ i * 2 + 2 ≤ (scells l).length := by
  obtain ⟨h1, h2⟩ := scells_at (get_of (l := l) (i := i) (by omega))
  exact ⟨by omega, h1, h2⟩
/-- What two stores, one behind the other, come to. -/
theorem sw_facts {l : List S} {n i j : Nat} (hl : l.length = n) (hi : i < n) (hj : j < n) :
    ((scells l).set (i * 2) (.int .i64 (l.getD j (0, 0)).1)).set (i * 2 + 1) (.int .i64 (l.getD j (0, 0)).2) = scells (l.set i (l.getD j (0, 0))) ∧
    j * 2 + 2 ≤ (scells (l.set i (l.getD j (0, 0)))).length ∧
    ((scells (l.set i (l.getD j (0, 0)))).set (j * 2) (.int .i64 (l.getD i (0, 0)).1)).set (j * 2 + 1) (.int .i64 (l.getD i (0, 0)).2) = scells (swp l i j) :=
  ⟨scells_setS (l.getD j (0, 0)) (by omega), by rw [scells_len, List.length_set]; omega, scells_setS (l := l.set i (l.getD j (0, 0))) (l.getD i (0, 0)) (by simp; omega)⟩

theorem wdiv {n k : Nat} (hn : n ≤ 1000000000) : IntKind.i64.wrap ((n : Int).tdiv (k : Int)) = ((n / k : Nat) : Int) := by
  rw [show (n : Int).tdiv (k : Int) = ((n / k : Nat) : Int) from rfl]
  have : n / k ≤ n := Nat.div_le_self _ _
  have h0 : (0 : Int) ≤ ((n / k : Nat) : Int) := Int.natCast_nonneg _
  have h1 : ((n / k : Nat) : Int) ≤ (n : Int) := Int.ofNat_le.2 this
  generalize ((n / k : Nat) : Int) = z at h0 h1 ⊢
  exact wi64 (by omega) (by omega)
theorem wdiv4 {n : Nat} (hn : n ≤ 1000000000) : IntKind.i64.wrap ((n : Int).tdiv 4) = ((n / 4 : Nat) : Int) := wdiv (k := 4) hn
theorem wdiv8 {n : Nat} (hn : n ≤ 1000000000) : IntKind.i64.wrap ((n : Int).tdiv 8) = ((n / 8 : Nat) : Int) := wdiv (k := 8) hn
theorem wdiv2 {n : Nat} (hn : n ≤ 1000000000) : IntKind.i64.wrap ((n : Int).tdiv 2) = ((n / 2 : Nat) : Int) := wdiv (k := 2) hn

section
variable {o : CallF} (ho : OvOnly o)
include ho

theorem q_order2 {n sb pw a b : Nat} {l : List S} {H : Heap} (hl : l.length = n) (hg : H.get sb = .cells (scells l) .own) (ha : a < n) (hb : b < n) {s : Int} (hw : H.get pw = .cells [.int .i64 s] .own) (hne : sb ≠ pw) {Q : End → Heap → Prop}
    (h : ∀ (x y : Nat) H' s', (x = a ∧ y = b ∨ x = b ∧ y = a) → Fr pw .nils H H' → H'.get pw = .cells [.int .i64 s'] .own → Q (.ret (.tup [.int .i64 (x : Int), .int .i64 (y : Int)])) H') :
    wpf ⟨bt.get, o⟩ F_slices_order2CmpFunc_runes_span [slV sb n, .int .i64 (a : Int), .int .i64 (b : Int), .ptr pw 0, cmpV] H Q := by
  rw [fn_slices_order2CmpFunc_runes_span (ho _ _ _ (by decide))]
  obtain ⟨a1, a2, a3⟩ := at_idx hl ha
  obtain ⟨b1, b2, b3⟩ := at_idx hl hb
  simp only [bd_slices_order2CmpFunc_runes_span, go_sem, zA, zB, zC, reduceIte, zD, zE, zF, zG, zH, zI, reduceCtorEq, zJ, zK, zL, zM, zN, zO, zP, a1, a2, a3, b1, b2, b3, hg]
  refine c_cmp ho fun H1 hx1 => ?_
  have f1 : Fr pw .nils H H1 := Fr.ofExt hx1
  have w1 : H1.get pw = .cells [.int .i64 s] .own := by rw [hx1.2 pw (Heap.lt_of_get (by rw [hw]; simp)), hw]
  simp only [go_sem, zA, zB, zC, reduceIte, zD, zE, zF, zG, zH, zI, reduceCtorEq, zJ, zK, zL, zM, zN, zO, zP, cmpZ_lt']
  by_cases hc : (l.getD b (0, 0)).1 < (l.getD a (0, 0)).1
  · simp only [go_sem, zA, zB, zC, reduceIte, zD, zE, zF, zG, zH, zI, reduceCtorEq, zJ, zK, zL, zM, zN, zO, zP, hc, w1]
    exact h b a _ _ (.inr ⟨rfl, rfl⟩) (f1.trans Fr.set) (Heap.get_set_self (Heap.lt_of_get (by rw [w1]; simp)))
  · simp only [go_sem, zA, zB, zC, reduceIte, zD, zE, zF, zG, zH, zI, reduceCtorEq, zJ, zK, zL, zM, zN, zO, zP, hc]
    exact h a b _ _ (.inl ⟨rfl, rfl⟩) f1 w1

theorem q_median {n sb pw a b c : Nat} {l : List S} {H : Heap} (hl : l.length = n) (hg : H.get sb = .cells (scells l) .own) (ha : a < n) (hb : b < n) (hc : c < n) {s : Int} (hw : H.get pw = .cells [.int .i64 s] .own) (hne : sb ≠ pw) {Q : End → Heap → Prop}
    (h : ∀ (x : Nat) H' s', (x = a ∨ x = b ∨ x = c) → Fr pw .nils H H' → H'.get pw = .cells [.int .i64 s'] .own → Q (.ret (.int .i64 (x : Int))) H') :
    wpf ⟨bt.get, o⟩ F_slices_medianCmpFunc_runes_span [slV sb n, .int .i64 (a : Int), .int .i64 (b : Int), .int .i64 (c : Int), .ptr pw 0, cmpV] H Q := by
  rw [fn_slices_medianCmpFunc_runes_span (ho _ _ _ (by decide))]
  simp only [bd_slices_medianCmpFunc_runes_span, go_sem, zA, zB, zC, reduceIte, zD, zE, zF, zG, zH, zI, reduceCtorEq, zJ, zK, zL, zM, zN, zO, zP]
  refine q_order2 ho hl hg ha hb hw hne fun x1 y1 H1 s1 d1 f1 w1 => ?_
  have g1 := f1.get hg (by simp) hne
  simp only [go_sem, zA, zB, zC, reduceIte, zD, zE, zF, zG, zH, zI, reduceCtorEq, zJ, zK, zL, zM, zN, zO, zP]
  refine q_order2 ho hl g1 (by omega) hc w1 hne fun x2 y2 H2 s2 d2 f2 w2 => ?_
  have g2 := f2.get g1 (by simp) hne
  simp only [go_sem, zA, zB, zC, reduceIte, zD, zE, zF, zG, zH, zI, reduceCtorEq, zJ, zK, zL, zM, zN, zO, zP]
  refine q_order2 ho hl g2 (by omega) (by omega) w2 hne fun x3 y3 H3 s3 d3 f3 w3 => ?_
  simp only [go_sem, zA, zB, zC, reduceIte, zD, zE, zF, zG, zH, zI, reduceCtorEq, zJ, zK, zL, zM, zN, zO, zP]
  exact h y3 _ _ (by omega) ((f1.trans f2).trans f3) w3

theorem q_medianAdj {n sb pw a : Nat} (hn : n ≤ 1000000) {l : List S} {H : Heap} (hl : l.length = n) (hg : H.get sb = .cells (scells l) .own) (h0 : 0 < a) (ha : a + 1 < n) {s : Int} (hw : H.get pw = .cells [.int .i64 s] .own) (hne : sb ≠ pw) {Q : End → Heap → Prop}
    (h : ∀ (x : Nat) H' s', (a - 1 ≤ x ∧ x ≤ a + 1) → Fr pw .nils H H' → H'.get pw = .cells [.int .i64 s'] .own → Q (.ret (.int .i64 (x : Int))) H') :
    wpf ⟨bt.get, o⟩ F_slices_medianAdjacentCmpFunc_runes_span [slV sb n, .int .i64 (a : Int), .ptr pw 0, cmpV] H Q := by
  rw [fn_slices_medianAdjacentCmpFunc_runes_span (ho _ _ _ (by decide))]
  simp only [bd_slices_medianAdjacentCmpFunc_runes_span, go_sem, zA, zB, zC, reduceIte, zD, zE, zF, zG, zH, zI, reduceCtorEq, zJ, zK, zL, zM, zN, zO, zP, wpred h0 (show a ≤ 1000000000 by omega), wsucc (show a ≤ 1000000000 by omega)]
  refine q_median ho hl hg (by omega) (by omega) (by omega) hw hne fun x H1 s1 d f w => ?_
  simp only [go_sem, zA, zB, zC, reduceIte, zD, zE, zF, zG, zH, zI, reduceCtorEq, zJ, zK, zL, zM, zN, zO, zP]
  exact h x _ _ (by omega) f w

theorem q_choosePivot {n sb a b : Nat} (hn : n ≤ 1000000) {l : List S} {H : Heap} (hl : l.length = n) (hg : H.get sb = .cells (scells l) .own) (hab : a + 8 ≤ b) (hb : b ≤ n) {Q : End → Heap → Prop}
    (h : ∀ (x : Nat) (k : Int) H', a ≤ x → x < b → Ext H.size H H' → Q (.ret (.tup [.int .i64 (x : Int), .int .i64 k])) H') :
    wpf ⟨bt.get, o⟩ F_slices_choosePivotCmpFunc_runes_span [slV sb n, .int .i64 (a : Int), .int .i64 (b : Int), cmpV] H Q := by
  rw [fn_slices_choosePivotCmpFunc_runes_span (ho _ _ _ (by decide))]
  have w1 : IntKind.i64.wrap ((b : Int) - (a : Int)) = ((b - a : Nat) : Int) := by rw [wi64 (by omega) (by omega)]; omega
  have w2 : IntKind.i64.wrap (((b - a : Nat) : Int).tdiv 4) = (((b - a) / 4 : Nat) : Int) := wdiv4 (by omega)
  have w3 : ∀ k : Nat, k ≤ 3 → IntKind.i64.wrap ((((b - a) / 4 : Nat) : Int) * (k : Int)) = (((b - a) / 4 * k : Nat) : Int) := by
    intro k hk
    have : (b - a) / 4 * k ≤ (b - a) / 4 * 3 := Nat.mul_le_mul_left _ hk
    rw [wi64 (by rw [← Int.natCast_mul]; omega) (by rw [← Int.natCast_mul]; omega), Int.natCast_mul]
  have w31 := w3 1 (by omega)
  have w32 := w3 2 (by omega)
  have w33 := w3 3 (by omega)
  simp only [Int.cast_ofNat_Int, Int.natCast_one] at w31 w32 w33
  have w4 : ∀ k : Nat, k ≤ 3 → IntKind.i64.wrap ((a : Int) + (((b - a) / 4 * k : Nat) : Int)) = ((a + (b - a) / 4 * k : Nat) : Int) := by
    intro k hk
    have : (b - a) / 4 * k ≤ (b - a) / 4 * 3 := Nat.mul_le_mul_left _ hk
    exact wnat (by omega)
  have w41 := w4 1 (by omega)
  have w42 := w4 2 (by omega)
  have w43 := w4 3 (by omega)
  have c8 : ((8 : Int) ≤ ((b - a : Nat) : Int)) := by omega
  simp only [Nat.mul_one] at w41 w31
  simp only [bd_slices_choosePivotCmpFunc_runes_span, go_sem, zA, zB, zC, reduceIte, zD, zE, zF, zG, zH, zI, reduceCtorEq, zJ, zK, zL, zM, zN, zO, zP, w1, w2, w31, w32, w33, w41, w42, w43, c8]
  have hne : sb ≠ H.size := by have := Heap.lt_of_get (H := H) (b := sb) (by rw [hg]; simp); omega
  have g0 : (H.push (.cells [.int .i64 0] .own)).get sb = .cells (scells l) .own := by rw [Heap.get_push_lt (Heap.lt_of_get (by rw [hg]; simp)), hg]
  have v0 : (H.push (.cells [.int .i64 0] .own)).get H.size = .cells [.int .i64 0] .own := Heap.get_push_self
  have x0 : Ext H.size H (H.push (.cells [.int .i64 0] .own)) := Ext.push (Nat.le_refl _)
  generalize H.push (.cells [.int .i64 0] .own) = H0 at g0 v0 x0 ⊢
  have ex : ∀ {H1 : Heap}, Fr H.size .nils H0 H1 → Ext H.size H H1 := fun f => x0.trans (f.toExt (Nat.le_refl _) x0.1)
  by_cases c50 : ((50 : Int) ≤ ((b - a : Nat) : Int))
  · simp only [go_sem, zA, zB, zC, reduceIte, zD, zE, zF, zG, zH, zI, reduceCtorEq, zJ, zK, zL, zM, zN, zO, zP, c50]
    refine q_medianAdj ho hn hl g0 (by omega) (by omega) v0 hne fun x1 H1 s1 d1 f1 v1 => ?_
    have g1 := f1.get g0 (by simp) hne
    simp only [go_sem, zA, zB, zC, reduceIte, zD, zE, zF, zG, zH, zI, reduceCtorEq, zJ, zK, zL, zM, zN, zO, zP]
    refine q_medianAdj ho hn hl g1 (by omega) (by omega) v1 hne fun x2 H2 s2 d2 f2 v2 => ?_
    have g2 := f2.get g1 (by simp) hne
    simp only [go_sem, zA, zB, zC, reduceIte, zD, zE, zF, zG, zH, zI, reduceCtorEq, zJ, zK, zL, zM, zN, zO, zP]
    refine q_medianAdj ho hn hl g2 (by omega) (by omega) v2 hne fun x3 H3 s3 d3 f3 v3 => ?_
    have g3 := f3.get g2 (by simp) hne
    simp only [go_sem, zA, zB, zC, reduceIte, zD, zE, zF, zG, zH, zI, reduceCtorEq, zJ, zK, zL, zM, zN, zO, zP]
    refine q_median ho hl g3 (by omega) (by omega) (by omega) v3 hne fun x4 H4 s4 d4 f4 v4 => ?_
    have xx := ex (((f1.trans f2).trans f3).trans f4)
    clear w1 w2 w31 w32 w33 w41 w42 w43 w3 w4 c8 f1 f2 f3 f4 v1 v2 v3 g1 g2 g3 g0 v0
    have q1 : a ≤ x4 ∧ x4 < b := by omega
    simp only [go_sem, zA, zB, zC, reduceIte, zD, zE, zF, zG, zH, zI, reduceCtorEq, zJ, zK, zL, zM, zN, zO, zP, v4]
    by_cases e0 : s4 = 0
    · simp only [go_sem, zA, zB, zC, reduceIte, zD, zE, zF, zG, zH, zI, reduceCtorEq, zJ, zK, zL, zM, zN, zO, zP, e0]
      exact h x4 _ _ q1.1 q1.2 xx
    · by_cases e1 : s4 = 12
      · simp only [go_sem, zA, zB, zC, reduceIte, zD, zE, zF, zG, zH, zI, reduceCtorEq, zJ, zK, zL, zM, zN, zO, zP, e1]
        exact h x4 _ _ q1.1 q1.2 xx
      · simp only [go_sem, zA, zB, zC, reduceIte, zD, zE, zF, zG, zH, zI, reduceCtorEq, zJ, zK, zL, zM, zN, zO, zP, e0, e1]
        exact h x4 _ _ q1.1 q1.2 xx
  · simp only [go_sem, zA, zB, zC, reduceIte, zD, zE, zF, zG, zH, zI, reduceCtorEq, zJ, zK, zL, zM, zN, zO, zP, c50]
    refine q_median ho hl g0 (by omega) (by omega) (by omega) v0 hne fun x4 H4 s4 d4 f4 v4 => ?_
    have xx := ex f4
    clear w1 w2 w31 w32 w33 w41 w42 w43 w3 w4 c8 f4 g0 v0
    have q1 : a ≤ x4 ∧ x4 < b := by omega
    simp only [go_sem, zA, zB, zC, reduceIte, zD, zE, zF, zG, zH, zI, reduceCtorEq, zJ, zK, zL, zM, zN, zO, zP, v4]
    by_cases e0 : s4 = 0
    · simp only [go_sem, zA, zB, zC, reduceIte, zD, zE, zF, zG, zH, zI, reduceCtorEq, zJ, zK, zL, zM, zN, zO, zP, e0]
      exact h x4 _ _ q1.1 q1.2 xx
    · by_cases e1 : s4 = 12
      · simp only [go_sem, zA, zB, zC, reduceIte, zD, zE, zF, zG, zH, zI, reduceCtorEq, zJ, zK, zL, zM, zN, zO, zP, e1]
        exact h x4 _ _ q1.1 q1.2 xx
      · simp only [go_sem, zA, zB, zC, reduceIte, zD, zE, zF, zG, zH, zI, reduceCtorEq, zJ, zK, zL, zM, zN, zO, zP, e0, e1]
        exact h x4 _ _ q1.1 q1.2 xx

omit ho in
theorem q_rev_loop {n a b sb : Nat} (hn : n ≤ 1000000) (hb : b ≤ n) {Q : Ctl → St → Prop} : ∀ (m i j : Nat) (l : List S) (H : Heap), j - i ≤ m → a ≤ i → j < b → l.length = n → H.get sb = .cells (scells l) .own →
    (∀ l' H' x t, PermOn a b l l' → Fr sb .nils H H' → H'.get sb = .cells (scells l') .own → Q (.exit 0) { p := (0, slV sb n) :: x, t := t, H := H', d := [], u := .norm }) →
    wpl ⟨bt.get, o⟩ [0, 8, 9] lb_slices_reverseRangeCmpFunc_runes_span_0 { p := [(0, slV sb n), (8, .int .i64 i), (9, .int .i64 j)], t := [], H := H, d := [], u := .norm } Q := by
  intro m
  induction m with
  | zero =>
    intro i j l H h1 h2 h3 hl hg hQ
    rw [wpl_step]
    have c1 : ¬ ((i : Int) < (j : Int)) := by omega
    simp only [lb_slices_reverseRangeCmpFunc_runes_span_0, go_sem, zA, zB, zC, reduceIte, zD, zE, zF, zG, zH, zI, reduceCtorEq, zJ, zK, zL, zM, zN, zO, zP, c1]
    exact hQ l H _ _ PermOn.refl Fr.refl hg
  | succ m ih =>
    intro i j l H h1 h2 h3 hl hg hQ
    rw [wpl_step]
    by_cases c : i < j
    · have c1 : ((i : Int) < (j : Int)) := by omega
      obtain ⟨i1, i2, i3⟩ := at_idx (i := i) hl (by omega)
      obtain ⟨j1, j2, j3⟩ := at_idx (i := j) hl (by omega)
      obtain ⟨s1, s2, s3⟩ := sw_facts (i := i) (j := j) hl (by omega) (by omega)
      have hlt : sb < H.size := Heap.lt_of_get (by rw [hg]; simp)
      simp only [lb_slices_reverseRangeCmpFunc_runes_span_0, go_sem, zA, zB, zC, reduceIte, zD, zE, zF, zG, zH, zI, reduceCtorEq, zJ, zK, zL, zM, zN, zO, zP, c1, i1, i2, i3, j1, j2, j3, hg, s1, s2, s3, S.cells, Heap.get_set_self hlt, wsucc (show i ≤ 1000000000 by omega), wpred (show 0 < j by omega) (show j ≤ 1000000000 by omega)]
      refine ih (i + 1) (j - 1) (swp l i j) _ (by omega) (by omega) (by omega) (by rw [swp_len]; exact hl) (Heap.get_set_self hlt) fun l' H' x t k1 k2 k3 => hQ l' H' x t ((PermOn.swp (by omega) (by omega) (by omega) (by omega) (by omega)).trans k1) (Fr.set.trans k2) k3
    · have c1 : ¬ ((i : Int) < (j : Int)) := by omega
      simp only [lb_slices_reverseRangeCmpFunc_runes_span_0, go_sem, zA, zB, zC, reduceIte, zD, zE, zF, zG, zH, zI, reduceCtorEq, zJ, zK, zL, zM, zN, zO, zP, c1]
      exact hQ l H _ _ PermOn.refl Fr.refl hg

theorem q_reverse {n sb a b : Nat} (hn : n ≤ 1000000) {l : List S} {H : Heap} (hl : l.length = n) (hg : H.get sb = .cells (scells l) .own) (hab : a < b) (hb : b ≤ n) {Q : End → Heap → Prop}
    (h : ∀ l' H', PermOn a b l l' → Fr sb .nils H H' → H'.get sb = .cells (scells l') .own → Q (.ret (.tup [])) H') :
    wpf ⟨bt.get, o⟩ F_slices_reverseRangeCmpFunc_runes_span [slV sb n, .int .i64 (a : Int), .int .i64 (b : Int), cmpV] H Q := by
  rw [fn_slices_reverseRangeCmpFunc_runes_span (ho _ _ _ (by decide))]
  simp only [bd_slices_reverseRangeCmpFunc_runes_span, go_sem, zA, zB, zC, reduceIte, zD, zE, zF, zG, zH, zI, reduceCtorEq, zJ, zK, zL, zM, zN, zO, zP, wpred (show 0 < b by omega) (show b ≤ 1000000000 by omega)]
  refine q_rev_loop hn hb _ a (b - 1) l H (Nat.le_refl _) (Nat.le_refl _) (by omega) hl hg fun l' H' x t k1 k2 k3 => ?_
  simp only [go_sem, zA, zB, zC, reduceIte, zD, zE, zF, zG, zH, zI, reduceCtorEq, zJ, zK, zL, zM, zN, zO, zP]
  exact h l' H' k1 k2 k3
end
end Go.Ev
