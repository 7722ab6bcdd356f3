/- Several texts of this claim, joined. -/
import Derived.Test.YtfkdecamhepibaaGreatDoorT24
import Derived.Test.YtfkdecamhepibaaGreatDoorT25
import Derived.Test.YtfkdecamhepibaaGreatDoorT20
set_option linter.unusedSimpArgs false
set_option linter.unusedVariables false

/- Sorting of spans, further: heaps. -/
namespace Go.Ev
open Go
open Go.Ev renaming seqK_normal → zA, blockK_normal → zB, blockK_exit → zC
open Nat renaming reduceEqDiff → zD, reduceAdd → zE, reduceSub → zF, reduceMul → zG, reduceLeDiff → zH, reduceLT → zI
open Int renaming reduceToNat → zJ, reduceLT → zK, reduceLE → zL, reduceEq → zM, reduceAdd → zN, reduceSub → zO, reduceMul → zP
set_option maxRecDepth 8000
/-- From `lo` on each is at least what lies below it. -/
def HeapOn (lo hi f : Nat) (l : List S) : Prop := ∀ p c, lo ≤ p → (c = 2 * p + 1 ∨ c = 2 * p + 2) → c < hi → key l (f + c) ≤ key l (f + p)
theorem HeapOn.top {hi f l} (h : HeapOn 0 hi f l) : ∀ p, p < hi → key l (f + p) ≤ key l f
  | 0, _ => Nat.le_refl _
  | p + 1, hp => Nat.le_trans (h (p / 2) (p + 1) (Nat.zero_le _) (by omega) hp) (HeapOn.top h (p / 2) (by omega))
termination_by p => p
decreasing_by omega
section
variable {o : CallF} (ho : OvOnly o)
include ho
theorem q_sift_loop {n lo hi f sb : Nat} (hn : n ≤ 1000000) (hf : f + hi ≤ n) {Q : Ctl → St → Prop} : ∀ (m r : Nat) (l : List S) (H : Heap), hi - r ≤ m → lo ≤ r → r < hi → l.length = n → H.get sb = .cells (scells l) .own →
    (∀ p c, lo ≤ p → p ≠ r → (c = 2 * p + 1 ∨ c = 2 * p + 2) → c < hi → key l (f + c) ≤ key l (f + p)) →
    (∀ q c, lo ≤ q → (r = 2 * q + 1 ∨ r = 2 * q + 2) → (c = 2 * r + 1 ∨ c = 2 * r + 2) → c < hi → key l (f + c) ≤ key l (f + q)) →
    (∀ l' H' σ e, PermOn (f + lo) (f + hi) l l' → Fr sb .nils H H' → H'.get sb = .cells (scells l') .own → HeapOn lo hi f l' → σ.H = H' → σ.d = [] → σ.u = .norm → (e = .exit 0 ∨ e = .ret) → Q e σ) →
    wpl ⟨bt.get, o⟩ [0, 2, 3, 4, 10] lb_slices_siftDownCmpFunc_runes_span_0 { p := [(0, slV sb n), (2, .int .i64 (hi : Int)), (3, .int .i64 (f : Int)), (4, cmpV), (10, .int .i64 (r : Int))], t := [], H := H, d := [], u := .norm } Q := by
  intro m
  induction m with
  | zero => intro r l H h1 h2 h3; omega
  | succ m ih =>
    intro r l H h1 h2 h3 hl hg hA hB hQ
    rw [wpl_step]
    have w1 : IntKind.i64.wrap (2 * (r : Int)) = ((2 * r : Nat) : Int) := by rw [wi64 (by omega) (by omega)]; omega
    have w2 : IntKind.i64.wrap (((2 * r : Nat) : Int) + 1) = ((2 * r + 1 : Nat) : Int) := wsucc (by omega)
    have w3 : IntKind.i64.wrap (((2 * r + 1 : Nat) : Int) + 1) = ((2 * r + 2 : Nat) : Int) := wsucc (by omega)
    by_cases cr : 2 * r + 1 < hi
    · have c1 : ¬ ((hi : Int) ≤ ((2 * r + 1 : Nat) : Int)) := by omega
      have hlt : sb < H.size := Heap.lt_of_get (by rw [hg]; simp)
      obtain ⟨r1, r2, r3⟩ := at_idx (i := f + r) hl (by omega)
      obtain ⟨y1, y2, y3⟩ := at_idx (i := f + (2 * r + 1)) hl (by omega)
      have v0 : IntKind.i64.wrap ((f : Int) + (r : Int)) = ((f + r : Nat) : Int) := wnat (by omega)
      have v1 : IntKind.i64.wrap ((f : Int) + ((2 * r + 1 : Nat) : Int)) = ((f + (2 * r + 1) : Nat) : Int) := wnat (by omega)
      -- from a child on that no other one exceeds
      have down : ∀ (k : Nat) (H1 : Heap) (t) (u v : AV), (k = 2 * r + 1 ∨ k = 2 * r + 2) → k < hi → (∀ c, (c = 2 * r + 1 ∨ c = 2 * r + 2) → c < hi → key l (f + c) ≤ key l (f + k)) → Ext H.size H H1 →
          wpc ⟨bt.get, o⟩ (seqR (seqR (seqR (blkB lb_slices_siftDownCmpFunc_runes_span_0)))) { p := (0, slV sb n) :: (2, .int .i64 (hi : Int)) :: (3, .int .i64 (f : Int)) :: (4, cmpV) :: (10, .int .i64 (r : Int)) :: (11, .int .i64 (k : Int)) :: (18, u) :: [(40, v)], t := t, H := H1, d := [], u := .norm } (blockK 1 [0, 2, 3, 4, 10] (loopK ⟨bt.get, o⟩ [0, 2, 3, 4, 10] lb_slices_siftDownCmpFunc_runes_span_0 Q)) := by
        intro k H1 t u v hk hkh hmx e1
        have g1 : H1.get sb = .cells (scells l) .own := by rw [e1.2 sb hlt, hg]
        have hlt1 : sb < H1.size := Heap.lt_of_get (by rw [g1]; simp)
        obtain ⟨k1, k2, k3⟩ := at_idx (i := f + k) hl (by omega)
        have v2 : IntKind.i64.wrap ((f : Int) + (k : Int)) = ((f + k : Nat) : Int) := wnat (by omega)
        simp only [lb_slices_siftDownCmpFunc_runes_span_0, blkB, seqR, go_sem, zA, zB, zC, reduceIte, zD, zE, zF, zG, zH, zI, reduceCtorEq, zJ, zK, zL, zM, zN, zO, zP, v0, v2, r1, r2, r3, k1, k2, k3, g1]
        refine c_cmp ho fun H2 hx2 => ?_
        have g2 : H2.get sb = .cells (scells l) .own := by rw [hx2.2 sb hlt1, g1]
        have hlt2 : sb < H2.size := Heap.lt_of_get (by rw [g2]; simp)
        have f2 : Fr sb .nils H H2 := Fr.ofExt (e1.trans (hx2.le e1.1))
        simp only [go_sem, zA, zB, zC, reduceIte, zD, zE, zF, zG, zH, zI, reduceCtorEq, zJ, zK, zL, zM, zN, zO, zP, cmpZ_lt']
        by_cases hc : (l.getD (f + r) (0, 0)).1 < (l.getD (f + k) (0, 0)).1
        · obtain ⟨s1, s2, s3⟩ := sw_facts (i := f + r) (j := f + k) hl (by omega) (by omega)
          simp only [go_sem, zA, zB, zC, reduceIte, zD, zE, zF, zG, zH, zI, reduceCtorEq, zJ, zK, zL, zM, zN, zO, zP, hc, v0, v2, r1, r2, r3, k1, k2, k3, g2, s1, s2, s3, S.cells, Heap.get_set_self hlt2]
          have ks := key_swp (l := l) (i := f + r) (j := f + k) (by omega) (by omega)
          have hc' : key l (f + r) < key l (f + k) := hc
          refine ih k (swp l (f + r) (f + k)) _ (by omega) (by omega) hkh (by rw [swp_len]; exact hl) (Heap.get_set_self hlt2) (fun p c p1 p2 p3 p4 => ?_) (fun q c p1 p2 p3 p4 => ?_) fun l' H' σ e q1 q2 q3 q4 => hQ l' H' σ e ((PermOn.swp (by omega) (by omega) (by omega) (by omega) (by omega)).trans q1) (f2.trans (Fr.set.trans q2)) q3 q4
          · rw [ks, ks]
            by_cases e : p = r
            · subst e
              rw [if_neg (show ¬ f + p = f + k by omega), if_pos rfl]
              by_cases e2 : c = k
              · rw [if_pos (by omega)]; omega
              · rw [if_neg (by omega), if_neg (by omega)]; exact hmx c p3 p4
            · rw [if_neg (show ¬ f + p = f + k by omega), if_neg (show ¬ f + p = f + r by omega), if_neg (show ¬ f + c = f + k by omega)]
              by_cases e2 : c = r
              · rw [if_pos (by omega)]
                exact hB p k p1 (by omega) (by omega) hkh
              · rw [if_neg (by omega)]
                exact hA p c p1 e p3 p4
          · have e : q = r := by omega
            subst e
            rw [ks, ks, if_neg (show ¬ f + c = f + k by omega), if_neg (show ¬ f + c = f + q by omega), if_neg (show ¬ f + q = f + k by omega), if_pos rfl]
            exact hA k c (by omega) (by omega) p3 p4
        · simp only [go_sem, zA, zB, zC, reduceIte, zD, zE, zF, zG, zH, zI, reduceCtorEq, zJ, zK, zL, zM, zN, zO, zP, hc]
          refine hQ l H2 _ _ PermOn.refl f2 g2 (fun p c p1 p2 p3 => ?_) rfl rfl rfl (.inr rfl)
          by_cases e : p = r
          · subst e; exact Nat.le_trans (hmx c p2 p3) (Nat.le_of_not_lt hc)
          · exact hA p c p1 e p2 p3
      by_cases cc : 2 * r + 2 < hi
      · have c2 : (((2 * r + 2 : Nat) : Int) < (hi : Int)) := by omega
        obtain ⟨z1, z2, z3⟩ := at_idx (i := f + (2 * r + 1) + 1) hl (by omega)
        have v3 : IntKind.i64.wrap (((f + (2 * r + 1) : Nat) : Int) + 1) = ((f + (2 * r + 1) + 1 : Nat) : Int) := wsucc (by omega)
        simp only [lb_slices_siftDownCmpFunc_runes_span_0, go_sem, zA, zB, zC, reduceIte, zD, zE, zF, zG, zH, zI, reduceCtorEq, zJ, zK, zL, zM, zN, zO, zP, w1, w2, w3, c1, c2, v1, v3, y1, y2, y3, z1, z2, z3, hg]
        refine c_cmp ho fun H1 hx1 => ?_
        simp only [go_sem, zB, zC, reduceIte, zD, zE, zF, zG, zH, zI, reduceCtorEq, zJ, zK, zL, zM, zN, zO, zP, cmpZ_lt']
        by_cases hc : (l.getD (f + (2 * r + 1)) (0, 0)).1 < (l.getD (f + (2 * r + 1) + 1) (0, 0)).1
        · simp only [go_sem, zB, zC, reduceIte, zD, zE, zF, zG, zH, zI, reduceCtorEq, zJ, zK, zL, zM, zN, zO, zP, hc, w3]
          rw [seqK_normal]
          simp only [go_sem, zB, zC, reduceIte, zD, zE, zF, zG, zH, zI, reduceCtorEq, zJ, zK, zL, zM, zN, zO, zP, hc, w3]
          rw [seqK_normal]
          refine down (2 * r + 2) H1 _ _ _ (.inr rfl) cc (fun c p1 p2 => ?_) hx1
          rcases p1 with rfl | rfl
          · exact Nat.le_of_lt hc
          · exact Nat.le_refl _
        · simp only [go_sem, zB, zC, reduceIte, zD, zE, zF, zG, zH, zI, reduceCtorEq, zJ, zK, zL, zM, zN, zO, zP, hc, w3]
          rw [seqK_normal]
          simp only [go_sem, zB, zC, reduceIte, zD, zE, zF, zG, zH, zI, reduceCtorEq, zJ, zK, zL, zM, zN, zO, zP, hc, w3]
          rw [seqK_normal]
          refine down (2 * r + 1) H1 _ _ _ (.inl rfl) cr (fun c p1 p2 => ?_) hx1
          rcases p1 with rfl | rfl
          · exact Nat.le_refl _
          · exact Nat.le_of_not_lt hc
      · have c2 : ¬ (((2 * r + 2 : Nat) : Int) < (hi : Int)) := by omega
        simp only [lb_slices_siftDownCmpFunc_runes_span_0, go_sem, zB, zC, reduceIte, zD, zE, zF, zG, zH, zI, reduceCtorEq, zJ, zK, zL, zM, zN, zO, zP, w1, w2, w3, c1]
        rw [seqK_normal]
        simp only [go_sem, zB, zC, reduceIte, zD, zE, zF, zG, zH, zI, reduceCtorEq, zJ, zK, zL, zM, zN, zO, zP, w1, w2, w3, c1, c2]
        rw [seqK_normal]
        simp only [go_sem, zB, zC, reduceIte, zD, zE, zF, zG, zH, zI, reduceCtorEq, zJ, zK, zL, zM, zN, zO, zP, w1, w2, w3, c1, c2]
        rw [seqK_normal]
        simp only [go_sem, zB, zC, reduceIte, zD, zE, zF, zG, zH, zI, reduceCtorEq, zJ, zK, zL, zM, zN, zO, zP, w1, w2, w3, c1, c2]
        rw [seqK_normal]
        simp only [go_sem, zB, zC, reduceIte, zD, zE, zF, zG, zH, zI, reduceCtorEq, zJ, zK, zL, zM, zN, zO, zP, w1, w2, w3, c1, c2]
        rw [seqK_normal]
        exact down (2 * r + 1) H _ _ _ (.inl rfl) cr (fun c p1 p2 => by
          rcases p1 with rfl | rfl
          · exact Nat.le_refl _
          · omega) Ext.refl
    · have c1 : ((hi : Int) ≤ ((2 * r + 1 : Nat) : Int)) := by omega
      simp only [lb_slices_siftDownCmpFunc_runes_span_0, go_sem, zA, zB, zC, reduceIte, zD, zE, zF, zG, zH, zI, reduceCtorEq, zJ, zK, zL, zM, zN, zO, zP, w1, w2, c1]
      refine hQ l H _ _ PermOn.refl Fr.refl hg (fun p c p1 p2 p3 => ?_) rfl rfl rfl (.inl rfl)
      by_cases e : p = r
      · omega
      · exact hA p c p1 e p2 p3
theorem q_sift {n lo hi f sb : Nat} (hn : n ≤ 1000000) (hf : f + hi ≤ n) {l : List S} {H : Heap} (hl : l.length = n) (hg : H.get sb = .cells (scells l) .own) (hlo : lo ≤ 1000000) (hp : HeapOn (lo + 1) hi f l) {Q : End → Heap → Prop}
    (h : ∀ l' H', PermOn (f + lo) (f + hi) l l' → Fr sb .nils H H' → H'.get sb = .cells (scells l') .own → HeapOn lo hi f l' → Q (.ret (.tup [])) H') :
    wpf ⟨bt.get, o⟩ F_slices_siftDownCmpFunc_runes_span [slV sb n, .int .i64 (lo : Int), .int .i64 (hi : Int), .int .i64 (f : Int), cmpV] H Q := by
  rw [fn_slices_siftDownCmpFunc_runes_span (ho _ _ _ (by decide))]
  simp only [bd_slices_siftDownCmpFunc_runes_span, go_sem, zA, zB, zC, reduceIte, zD, zE, zF, zG, zH, zI, reduceCtorEq, zJ, zK, zL, zM, zN, zO, zP]
  by_cases c : lo < hi
  · refine q_sift_loop ho hn hf _ lo l H (Nat.le_refl _) (Nat.le_refl _) c hl hg (fun p c p1 p2 p3 p4 => hp p c (by omega) p3 p4) (fun q c p1 p2 p3 p4 => by omega) fun l' H' σ e k1 k2 k3 k4 e1 e2 e3 e4 => ?_
    subst e1
    rcases e4 with rfl | rfl
    · simp only [go_sem, zA, zB, zC, reduceIte, zD, zE, zF, zG, zH, zI, reduceCtorEq, zJ, zK, zL, zM, zN, zO, zP, e2, e3]
      exact h l' _ k1 k2 k3 k4
    · simp only [go_sem, zA, zB, zC, reduceIte, zD, zE, zF, zG, zH, zI, reduceCtorEq, zJ, zK, zL, zM, zN, zO, zP, e2, e3]
      exact h l' _ k1 k2 k3 k4
  · have w1 : IntKind.i64.wrap (2 * (lo : Int)) = ((2 * lo : Nat) : Int) := by rw [wi64 (by omega) (by omega)]; omega
    have w2 : IntKind.i64.wrap (((2 * lo : Nat) : Int) + 1) = ((2 * lo + 1 : Nat) : Int) := wsucc (by omega)
    have c1 : ((hi : Int) ≤ ((2 * lo + 1 : Nat) : Int)) := by omega
    rw [wpl_step]
    simp only [lb_slices_siftDownCmpFunc_runes_span_0, go_sem, zA, zB, zC, reduceIte, zD, zE, zF, zG, zH, zI, reduceCtorEq, zJ, zK, zL, zM, zN, zO, zP, w1, w2, c1]
    exact h l H PermOn.refl Fr.refl hg (fun p c p1 p2 p3 => by omega)
theorem q_heap0 {n hi f sb : Nat} (hn : n ≤ 1000000) (hf : f + hi ≤ n) {Q : Ctl → St → Prop} : ∀ (i : Nat) (l : List S) (H : Heap), i ≤ hi → l.length = n → H.get sb = .cells (scells l) .own → HeapOn i hi f l →
    (∀ l' H' x t, PermOn f (f + hi) l l' → Fr sb .nils H H' → H'.get sb = .cells (scells l') .own → HeapOn 0 hi f l' → Q (.exit 0) { p := (0, slV sb n) :: (3, cmpV) :: (8, .int .i64 (f : Int)) :: (9, .int .i64 0) :: (10, .int .i64 (hi : Int)) :: x, t := t, H := H', d := [], u := .norm }) →
    wpl ⟨bt.get, o⟩ [0, 3, 8, 9, 10, 11] lb_slices_heapSortCmpFunc_runes_span_0 { p := [(0, slV sb n), (3, cmpV), (8, .int .i64 (f : Int)), (9, .int .i64 0), (10, .int .i64 (hi : Int)), (11, .int .i64 ((i : Int) - 1))], t := [], H := H, d := [], u := .norm } Q := by
  intro i
  induction i with
  | zero =>
    intro l H h1 hl hg hp hQ
    rw [wpl_step]
    have c1 : ¬ ((0 : Int) ≤ ((0 : Nat) : Int) - 1) := by omega
    simp only [lb_slices_heapSortCmpFunc_runes_span_0, go_sem, zA, zB, zC, reduceIte, zD, zE, zF, zG, zH, zI, reduceCtorEq, zJ, zK, zL, zM, zN, zO, zP, c1]
    exact hQ l H _ _ PermOn.refl Fr.refl hg hp
  | succ i ih =>
    intro l H h1 hl hg hp hQ
    rw [wpl_step]
    have e1 : ((i + 1 : Nat) : Int) - 1 = (i : Int) := by omega
    have c1 : (0 : Int) ≤ (i : Int) := by omega
    have w1 : IntKind.i64.wrap ((i : Int) - 1) = (i : Int) - 1 := wi64 (by omega) (by omega)
    simp only [lb_slices_heapSortCmpFunc_runes_span_0, go_sem, zA, zB, zC, reduceIte, zD, zE, zF, zG, zH, zI, reduceCtorEq, zJ, zK, zL, zM, zN, zO, zP, e1, c1, w1]
    refine q_sift ho hn hf hl hg (by omega) hp fun l1 H1 k1 k2 k3 k4 => ?_
    simp only [go_sem, zA, zB, zC, reduceIte, zD, zE, zF, zG, zH, zI, reduceCtorEq, zJ, zK, zL, zM, zN, zO, zP, w1]
    exact ih l1 H1 (by omega) (by rw [k1.len]; exact hl) k3 k4 fun l' H' x t q1 q2 q3 q4 => hQ l' H' x t ((k1.widen (by omega) (Nat.le_refl _)).trans q1) (k2.trans q2) q3 q4
theorem q_heap1 {n hi f sb : Nat} (hn : n ≤ 1000000) (hf : f + hi ≤ n) {Q : Ctl → St → Prop} : ∀ (i : Nat) (l : List S) (H : Heap), i ≤ hi → l.length = n → H.get sb = .cells (scells l) .own → HeapOn 0 i f l → SortedOn (f + i) (f + hi) l → (∀ p q, f ≤ p → p < f + i → f + i ≤ q → q < f + hi → key l p ≤ key l q) →
    (∀ l' H' σ, PermOn f (f + hi) l l' → Fr sb .nils H H' → H'.get sb = .cells (scells l') .own → SortedOn f (f + hi) l' → σ.H = H' → σ.d = [] → σ.u = .norm → Q (.exit 2) σ) →
    wpl ⟨bt.get, o⟩ [0, 3, 8, 9, 12] lb_slices_heapSortCmpFunc_runes_span_1 { p := [(0, slV sb n), (3, cmpV), (8, .int .i64 (f : Int)), (9, .int .i64 0), (12, .int .i64 ((i : Int) - 1))], t := [], H := H, d := [], u := .norm } Q := by
  intro i
  induction i with
  | zero =>
    intro l H h1 hl hg hp hS hM hQ
    rw [wpl_step]
    have c1 : ¬ ((0 : Int) ≤ ((0 : Nat) : Int) - 1) := by omega
    simp only [lb_slices_heapSortCmpFunc_runes_span_1, go_sem, zA, zB, zC, reduceIte, zD, zE, zF, zG, zH, zI, reduceCtorEq, zJ, zK, zL, zM, zN, zO, zP, c1]
    exact hQ l H _ PermOn.refl Fr.refl hg (by simpa using hS) rfl rfl rfl
  | succ i ih =>
    intro l H h1 hl hg hp hS hM hQ
    rw [wpl_step]
    have e1 : ((i + 1 : Nat) : Int) - 1 = (i : Int) := by omega
    have c1 : (0 : Int) ≤ (i : Int) := by omega
    have w1 : IntKind.i64.wrap ((i : Int) - 1) = (i : Int) - 1 := wi64 (by omega) (by omega)
    have v1 : IntKind.i64.wrap ((f : Int) + (i : Int)) = ((f + i : Nat) : Int) := wnat (by omega)
    obtain ⟨a1, a2, a3⟩ := at_idx (i := f) hl (by omega)
    obtain ⟨i1, i2, i3⟩ := at_idx (i := f + i) hl (by omega)
    obtain ⟨s1, s2, s3⟩ := sw_facts (i := f) (j := f + i) hl (by omega) (by omega)
    have hlt : sb < H.size := Heap.lt_of_get (by rw [hg]; simp)
    simp only [lb_slices_heapSortCmpFunc_runes_span_1, go_sem, zA, zB, zC, reduceIte, zD, zE, zF, zG, zH, zI, reduceCtorEq, zJ, zK, zL, zM, zN, zO, zP, e1, c1, w1, v1, a1, a2, a3, i1, i2, i3, hg, s1, s2, s3, S.cells, Heap.get_set_self hlt]
    have ks := key_swp (l := l) (i := f) (j := f + i) (by omega) (by omega)
    have hp1 : HeapOn (0 + 1) i f (swp l f (f + i)) := fun p c p1 p2 p3 => by
      rw [ks, ks, if_neg (by omega), if_neg (by omega), if_neg (by omega), if_neg (by omega)]
      exact hp p c (by omega) p2 (by omega)
    refine q_sift (lo := 0) ho hn (show f + i ≤ n by omega) (by rw [swp_len]; exact hl) (Heap.get_set_self hlt) (by omega) hp1 fun l1 H1 k1 k2 k3 k4 => ?_
    simp only [go_sem, zA, zB, zC, reduceIte, zD, zE, zF, zG, zH, zI, reduceCtorEq, zJ, zK, zL, zM, zN, zO, zP, w1]
    have k1' : PermOn f (f + i) (swp l f (f + i)) l1 := k1.widen (by omega) (Nat.le_refl _)
    have k0 : PermOn f (f + hi) l (swp l f (f + i)) := PermOn.swp (by omega) (by omega) (by omega) (by omega) (by omega)
    have top := hp.top
    have old : ∀ q, f + i < q → key l1 q = key l q := fun q hq => by rw [key_out k1' (.inr (by omega)), ks, if_neg (by omega), if_neg (by omega)]
    have new : key l1 (f + i) = key l f := by rw [key_out k1' (.inr (by omega)), ks, if_pos rfl]
    have low : ∀ p, f ≤ p → p < f + i → key l1 p ≤ key l f ∧ ∀ q, f + i < q → q < f + hi → key l1 p ≤ key l q := by
      refine PermOn.all (P := fun x => x ≤ key l f ∧ ∀ q, f + i < q → q < f + hi → x ≤ key l q) k1' (by rw [swp_len]; omega) fun p p1 p2 => ?_
      rw [ks, if_neg (by omega)]
      split
      · exact ⟨top i (by omega), fun q q1 q2 => hM (f + i) q (by omega) (by omega) (by omega) q2⟩
      · have := top (p - f) (by omega)
        rw [show f + (p - f) = p by omega] at this
        exact ⟨this, fun q q1 q2 => hM p q p1 (by omega) (by omega) q2⟩
    refine ih l1 H1 (by omega) (by rw [k1'.len, swp_len]; exact hl) k3 k4 (fun p q p1 p2 p3 => ?_) (fun p q p1 p2 p3 p4 => ?_) fun l' H' σ q1 q2 q3 q4 => hQ l' H' σ ((k0.trans (k1'.widen (Nat.le_refl _) (by omega))).trans q1) (Fr.set.trans (k2.trans q2)) q3 q4
    · rw [old q (by omega)]
      by_cases e : p = f + i
      · rw [e, new]; exact hM f q (by omega) (by omega) (by omega) p3
      · rw [old p (by omega)]; exact hS p q (by omega) p2 p3
    · by_cases e : q = f + i
      · rw [e, new]; exact (low p p1 p2).1
      · rw [old q (by omega)]; exact (low p p1 p2).2 q (by omega) p4
theorem q_heapSort {n sb a b : Nat} (hn : n ≤ 1000000) {l : List S} {H : Heap} (hl : l.length = n) (hg : H.get sb = .cells (scells l) .own) (hab : a < b) (hb : b ≤ n) {Q : End → Heap → Prop}
    (h : ∀ l' H', PermOn a b l l' → SortedOn a b l' → Fr sb .nils H H' → H'.get sb = .cells (scells l') .own → Q (.ret (.tup [])) H') :
    wpf ⟨bt.get, o⟩ F_slices_heapSortCmpFunc_runes_span [slV sb n, .int .i64 (a : Int), .int .i64 (b : Int), cmpV] H Q := by
  rw [fn_slices_heapSortCmpFunc_runes_span (ho _ _ _ (by decide))]
  have w1 : IntKind.i64.wrap ((b : Int) - (a : Int)) = ((b - a : Nat) : Int) := by rw [wi64 (by omega) (by omega)]; omega
  have w2 : IntKind.i64.wrap (((b - a : Nat) : Int) - 1) = ((b - a - 1 : Nat) : Int) := wpred (by omega) (by omega)
  have w3 : IntKind.i64.wrap (((b - a - 1 : Nat) : Int).tdiv 2) = (((b - a - 1) / 2 + 1 : Nat) : Int) - 1 := by rw [wdiv2 (by omega)]; omega
  simp only [bd_slices_heapSortCmpFunc_runes_span, go_sem, zA, zB, zC, reduceIte, zD, zE, zF, zG, zH, zI, reduceCtorEq, zJ, zK, zL, zM, zN, zO, zP, w1, w2, w3]
  refine q_heap0 ho hn (show a + (b - a) ≤ n by omega) ((b - a - 1) / 2 + 1) l H (by omega) hl hg (fun p c p1 p2 p3 => by omega) fun l1 H1 x t k1 k2 k3 k4 => ?_
  have w4 : ((b - a - 1 : Nat) : Int) = ((b - a : Nat) : Int) - 1 := by omega
  simp only [go_sem, zA, zB, zC, reduceIte, zD, zE, zF, zG, zH, zI, reduceCtorEq, zJ, zK, zL, zM, zN, zO, zP, w2, w4]
  refine q_heap1 ho hn (show a + (b - a) ≤ n by omega) (b - a) l1 H1 (Nat.le_refl _) (by rw [k1.len]; exact hl) k3 k4 (fun p q p1 p2 p3 => by omega) (fun p q p1 p2 p3 p4 => by omega) fun l' H' σ q1 q2 q3 q4 e1 e2 e3 => ?_
  subst e1
  rw [show a + (b - a) = b by omega] at k1 q1 q4
  simp only [go_sem, zA, zB, zC, reduceIte, zD, zE, zF, zG, zH, zI, reduceCtorEq, zJ, zK, zL, zM, zN, zO, zP, e2, e3]
  exact h l' _ (k1.trans q1) q4 (k2.trans q2) q3
end
/- Sorting of spans, further: what is nearly sorted; scattering. -/
set_option maxRecDepth 8000
section
variable {o : CallF} (ho : OvOnly o)
include ho
theorem q_pi3 {n a b sb : Nat} (hn : n ≤ 1000000) (hb : b ≤ n) {Q : Ctl → St → Prop} : ∀ (m k i : Nat) (l : List S) (H : Heap), k + m = 5 → a < i → i ≤ b → l.length = n → H.get sb = .cells (scells l) .own → LowB a b l → SortedOn a i l →
    (∀ l' H' σ r e, PermOn a b l l' → (r = true → SortedOn a b l') → Fr sb .nils H H' → H'.get sb = .cells (scells l') .own → σ.H = H' → σ.d = [] → σ.u = .norm → (e = .ret ∧ lk 8 σ.p = some (.bool r) ∨ e = .exit 0 ∧ r = false) → Q e σ) →
    wpl ⟨bt.get, o⟩ [0, 1, 2, 3, 9, 10] lb_slices_partialInsertionSortCmpFunc_runes_span_3 { p := [(0, slV sb n), (1, .int .i64 (a : Int)), (2, .int .i64 (b : Int)), (3, cmpV), (9, .int .i64 (i : Int)), (10, .int .i64 (k : Int))], t := [], H := H, d := [], u := .norm } Q := by
  intro m
  induction m with
  | zero =>
    intro k i l H h1 h2 h3 hl hg hL hS hQ
    rw [wpl_step]
    have c1 : ¬ ((k : Int) < 5) := by omega
    simp only [lb_slices_partialInsertionSortCmpFunc_runes_span_3, go_sem, zA, zB, zC, reduceIte, zD, zE, zF, zG, zH, zI, reduceCtorEq, zJ, zK, zL, zM, zN, zO, zP, c1]
    exact hQ l H _ false _ PermOn.refl (fun h => by cases h) Fr.refl hg rfl rfl rfl (.inr ⟨rfl, rfl⟩)
  | succ m ih =>
    intro k i l H h1 h2 h3 hl hg hL hS hQ
    rw [wpl_step]
    have c1 : ((k : Int) < 5) := by omega
    simp only [lb_slices_partialInsertionSortCmpFunc_runes_span_3, go_sem, zA, zB, zC, reduceIte, zD, zE, zF, zG, zH, zI, reduceCtorEq, zJ, zK, zL, zM, zN, zO, zP, c1]
    refine q_pi0 ho hn hb hl _ i H (Nat.le_refl _) h2 h3 hg hS fun i1 H1 x1 t1 a1 a2 a3 a4 e1 => ?_
    have g1 : H1.get sb = .cells (scells l) .own := by rw [e1.2 sb (Heap.lt_of_get (by rw [hg]; simp)), hg]
    have f1 : Fr sb .nils H H1 := Fr.ofExt e1
    have hlt1 : sb < H1.size := Heap.lt_of_get (by rw [g1]; simp)
    by_cases c : i1 = b
    · have c2 : ((i1 : Int) = (b : Int)) := by omega
      simp only [go_sem, zA, zB, zC, reduceIte, zD, zE, zF, zG, zH, zI, reduceCtorEq, zJ, zK, zL, zM, zN, zO, zP, c2]
      exact hQ l H1 _ true _ PermOn.refl (fun _ => by rw [← c]; exact a3) f1 g1 rfl rfl rfl (.inl ⟨rfl, rfl⟩)
    · have c2 : ¬ ((i1 : Int) = (b : Int)) := by omega
      have w1 : IntKind.i64.wrap ((b : Int) - (a : Int)) = ((b - a : Nat) : Int) := by rw [wi64 (by omega) (by omega)]; omega
      by_cases c5 : b - a < 50
      · have c3 : (((b - a : Nat) : Int) < 50) := by omega
        simp only [go_sem, zA, zB, zC, reduceIte, zD, zE, zF, zG, zH, zI, reduceCtorEq, zJ, zK, zL, zM, zN, zO, zP, c2, w1, c3]
        exact hQ l H1 _ false _ PermOn.refl (fun h => by cases h) f1 g1 rfl rfl rfl (.inl ⟨rfl, rfl⟩)
      · have c3 : ¬ (((b - a : Nat) : Int) < 50) := by omega
        have w2 : IntKind.i64.wrap ((i1 : Int) - (a : Int)) = ((i1 - a : Nat) : Int) := by rw [wi64 (by omega) (by omega)]; omega
        have w3 : IntKind.i64.wrap ((b : Int) - (i1 : Int)) = ((b - i1 : Nat) : Int) := by rw [wi64 (by omega) (by omega)]; omega
        have wp := wpred (show 0 < i1 by omega) (show i1 ≤ 1000000000 by omega)
        have wk := wsucc (show k ≤ 1000000000 by omega)
        have wq := wsucc (show i1 ≤ 1000000000 by omega)
        obtain ⟨i2, i3, i4⟩ := at_idx (i := i1) hl (by omega)
        obtain ⟨j2, j3, j4⟩ := at_idx (i := i1 - 1) hl (by omega)
        obtain ⟨s1, s2, s3⟩ := sw_facts (i := i1) (j := i1 - 1) hl (by omega) (by omega)
        have ks := key_swp (l := l) (i := i1) (j := i1 - 1) (by omega) (by omega)
        have kb := a4 (by omega)
        have P1 : PermOn a b l (swp l i1 (i1 - 1)) := PermOn.swp (by omega) (by omega) (by omega) (by omega) (by omega)
        have hl1 : (swp l i1 (i1 - 1)).length = n := by rw [swp_len]; exact hl
        have L1 : LowB a b (swp l i1 (i1 - 1)) := hL.perm P1 (by omega)
        have g2 : (H1.set sb (.cells (scells (swp l i1 (i1 - 1))) .own)).get sb = .cells (scells (swp l i1 (i1 - 1))) .own := Heap.get_set_self hlt1
        have f2 : Fr sb .nils H (H1.set sb (.cells (scells (swp l i1 (i1 - 1))) .own)) := f1.trans Fr.set
        have hA1 : ∀ p q, a ≤ p → p < q → q ≤ i1 - 1 → p ≠ i1 - 1 → q ≠ i1 - 1 → key (swp l i1 (i1 - 1)) p ≤ key (swp l i1 (i1 - 1)) q := fun p q q1 q2 q3 q4 q5 => by
          rw [ks, ks, if_neg q4, if_neg (by omega), if_neg q5, if_neg (by omega)]
          exact a3 p q q1 q2 (by omega)
        generalize swp l i1 (i1 - 1) = l1 at s3 P1 hl1 L1 g2 f2 hA1
        generalize hH2 : H1.set sb (.cells (scells l1) .own) = H2 at g2 f2
        -- the greater one to the right, and on
        have right : ∀ (l2 : List S) (H3 : Heap) (t x), PermOn a b l l2 → SortedOn a i1 l2 → Fr sb .nils H H3 → H3.get sb = .cells (scells l2) .own →
            wpc ⟨bt.get, o⟩ (seqR (seqR (seqR (seqR (seqR (blkB (seqL (seqR lb_slices_partialInsertionSortCmpFunc_runes_span_3))))))))  { p := (0, slV sb n) :: (1, .int .i64 (a : Int)) :: (2, .int .i64 (b : Int)) :: (3, cmpV) :: (9, .int .i64 (i1 : Int)) :: (10, .int .i64 (k : Int)) :: x, t := t, H := H3, d := [], u := .norm }
              (blockK 1 [0, 1, 2, 3, 9, 10] (seqK ⟨bt.get, o⟩ (seqR (seqR lb_slices_partialInsertionSortCmpFunc_runes_span_3)) (loopK ⟨bt.get, o⟩ [0, 1, 2, 3, 9, 10] lb_slices_partialInsertionSortCmpFunc_runes_span_3 Q))) := by
          intro l2 H3 t x P2 S2 f3 g3
          have hl2 : l2.length = n := by rw [P2.len]; exact hl
          have go : ∀ (l3 : List S) (H4 : Heap), PermOn i1 b l2 l3 → Fr sb .nils H3 H4 → H4.get sb = .cells (scells l3) .own → wpl ⟨bt.get, o⟩ [0, 1, 2, 3, 9, 10] lb_slices_partialInsertionSortCmpFunc_runes_span_3 { p := [(0, slV sb n), (1, .int .i64 (a : Int)), (2, .int .i64 (b : Int)), (3, cmpV), (9, .int .i64 (i1 : Int)), (10, .int .i64 ((k + 1 : Nat) : Int))], t := [], H := H4, d := [], u := .norm } Q := by
            intro l3 H4 P3 f4 g4
            have P3' : PermOn a b l2 l3 := P3.widen (by omega) (Nat.le_refl _)
            exact ih (k + 1) i1 l3 H4 (by omega) (by omega) a2 (by rw [P3.len]; exact hl2) g4 (hL.perm (P2.trans P3') (by omega)) (fun p q q1 q2 q3 => by rw [key_out P3 (.inl (by omega)), key_out P3 (.inl (by omega))]; exact S2 p q q1 q2 q3)
              fun l' H' σ r e q1 q2 q3 q4 => hQ l' H' σ r e ((P2.trans P3').trans q1) q2 (f3.trans (f4.trans q3)) q4
          by_cases c7 : 2 ≤ b - i1
          · have c8 : ((2 : Int) ≤ ((b - i1 : Nat) : Int)) := by omega
            simp only [lb_slices_partialInsertionSortCmpFunc_runes_span_3, seqL, seqR, blkB, go_sem, zA, zB, zC, reduceIte, zD, zE, zF, zG, zH, zI, reduceCtorEq, zJ, zK, zL, zM, zN, zO, zP, w3, c8, wq, lk_up]
            refine q_pi2 ho (i := i1) hn hb _ (i1 + 1) l2 H3 (Nat.le_refl _) (by omega) hl2 g3 fun l3 H4 x2 t2 k1 k2 k3 => ?_
            simp only [go_sem, zA, zB, zC, reduceIte, zD, zE, zF, zG, zH, zI, reduceCtorEq, zJ, zK, zL, zM, zN, zO, zP, wk]
            exact go l3 H4 k1 k2 k3
          · have c8 : ¬ ((2 : Int) ≤ ((b - i1 : Nat) : Int)) := by omega
            simp only [lb_slices_partialInsertionSortCmpFunc_runes_span_3, seqL, seqR, blkB, go_sem, zA, zB, zC, reduceIte, zD, zE, zF, zG, zH, zI, reduceCtorEq, zJ, zK, zL, zM, zN, zO, zP, w3, c8, wk, lk_up]
            exact go l2 H3 PermOn.refl Fr.refl g3
        by_cases c7 : 2 ≤ i1 - a
        · have c8 : ((2 : Int) ≤ ((i1 - a : Nat) : Int)) := by omega
          simp only [go_sem, zA, zB, zC, reduceIte, zD, zE, zF, zG, zH, zI, reduceCtorEq, zJ, zK, zL, zM, zN, zO, zP, c2, w1, c3, i2, i3, i4, j2, j3, j4, wp, g1, s1, s2, s3, S.cells, Heap.get_set_self hlt1, hH2, w2, c8]
          refine q_pi1 ho (i := i1 - 1) hn hb (i1 - 1) l1 H2 (by omega) (Nat.le_refl _) (by omega) hl1 g2 L1 hA1 (fun q q1 q2 => by omega) fun l2 H3 x2 t2 k1 k2 k3 k4 => ?_
          rw [show i1 - 1 + 1 = i1 by omega] at k1 k2
          simp only [go_sem, zB, zC, reduceIte, zD, zE, zF, zG, zH, zI, reduceCtorEq, zJ, zK, zL, zM, zN, zO, zP]
          rw [seqK_normal]
          exact right l2 H3 _ _ (P1.trans (k1.widen (Nat.le_refl _) (by omega))) k2 (f2.trans k3) k4
        · have c8 : ¬ ((2 : Int) ≤ ((i1 - a : Nat) : Int)) := by omega
          have S1 : SortedOn a i1 l1 := fun p q q1 q2 q3 => by omega
          simp only [go_sem, zB, zC, reduceIte, zD, zE, zF, zG, zH, zI, reduceCtorEq, zJ, zK, zL, zM, zN, zO, zP, c2, w1, c3, i2, i3, i4, j2, j3, j4, wp, g1, s1, s2, s3, S.cells, Heap.get_set_self hlt1, hH2, w2, c8]
          iterate 7
            rw [seqK_normal]
            simp only [go_sem, zB, zC, reduceIte, zD, zE, zF, zG, zH, zI, reduceCtorEq, zJ, zK, zL, zM, zN, zO, zP, c2, w1, c3, i2, i3, i4, j2, j3, j4, wp, g1, s1, s2, s3, S.cells, Heap.get_set_self hlt1, hH2, w2, c8]
          rw [seqK_normal]
          exact right l1 H2 _ _ P1 S1 f2 g2
theorem q_partialIns {n sb a b : Nat} (hn : n ≤ 1000000) {l : List S} {H : Heap} (hl : l.length = n) (hg : H.get sb = .cells (scells l) .own) (hab : a < b) (hb : b ≤ n) (hL : LowB a b l) {Q : End → Heap → Prop}
    (h : ∀ l' H' r, PermOn a b l l' → (r = true → SortedOn a b l') → Fr sb .nils H H' → H'.get sb = .cells (scells l') .own → Q (.ret (.bool r)) H') :
    wpf ⟨bt.get, o⟩ F_slices_partialInsertionSortCmpFunc_runes_span [slV sb n, .int .i64 (a : Int), .int .i64 (b : Int), cmpV] H Q := by
  rw [fn_slices_partialInsertionSortCmpFunc_runes_span (ho _ _ _ (by decide))]
  simp only [bd_slices_partialInsertionSortCmpFunc_runes_span, go_sem, zA, zB, zC, reduceIte, zD, zE, zF, zG, zH, zI, reduceCtorEq, zJ, zK, zL, zM, zN, zO, zP, wsucc (show a ≤ 1000000000 by omega)]
  refine q_pi3 ho hn hb 5 0 (a + 1) l H rfl (by omega) (by omega) hl hg hL (fun p q p1 p2 p3 => by omega) fun l' H' σ r e q1 q2 q3 q4 e1 e2 e3 e4 => ?_
  subst e1
  rcases e4 with ⟨rfl, e5⟩ | ⟨rfl, rfl⟩
  · simp only [go_sem, zA, zB, zC, reduceIte, zD, zE, zF, zG, zH, zI, reduceCtorEq, zJ, zK, zL, zM, zN, zO, zP, e2, e3, e5]
    exact h l' _ r q1 q2 q3 q4
  · simp only [go_sem, zA, zB, zC, reduceIte, zD, zE, zF, zG, zH, zI, reduceCtorEq, zJ, zK, zL, zM, zN, zO, zP, e2, e3, lk_up]
    exact h l' _ false q1 q2 q3 q4
end
end Go.Ev
