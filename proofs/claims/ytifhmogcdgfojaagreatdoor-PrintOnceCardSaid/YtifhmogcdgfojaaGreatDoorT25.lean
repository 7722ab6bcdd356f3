/- Several texts of this claim, joined. -/
import Derived.Test.YtifhmogcdgfojaaGreatDoorT24
set_option linter.unusedSimpArgs false
set_option linter.unusedVariables false

/- Package goboref3: places, cells, which are in. -/
namespace Go.Ev
open Go
open Go.Ev renaming seqK_normal → zA, blockK_normal → zB, blockK_exit → zC
open Nat renaming reduceEqDiff → zD, reduceAdd → zE, reduceSub → zF, reduceMul → zG, reduceLeDiff → zH, reduceLT → zI
open Int renaming reduceToNat → zJ, reduceLT → zK, reduceLE → zL, reduceEq → zM, reduceAdd → zN, reduceSub → zO, reduceMul → zP
set_option maxRecDepth 8000
theorem rcells_fld {l : List R} {i : Nat} {x : R} (h : l[i]? = some x) : (rcells l)[i * 2]? = some (.int .i32 x.lo) ∧ (rcells l)[i * 2 + 1]? = some (.int .i32 x.hi) := by
  obtain ⟨h1, h2⟩ := rcells_at h
  have g : ∀ j, j < 2 → (rcells l)[i * 2 + j]? = (List.take 2 (List.drop (i * 2) (rcells l)))[j]? := fun j hj => by
    rw [List.getElem?_take_of_lt hj, List.getElem?_drop]
  exact ⟨by have := g 0 (by omega); rw [h1] at this; exact this, by have := g 1 (by omega); rw [h1] at this; exact this⟩
section
variable {o : CallF} (ho : OvOnly o)
include ho
theorem g_placeU {r : Int} (hr : I32 r) {H : Heap} {Q : End → Heap → Prop} (h : Q (.ret (.int .i64 (numN r : Int))) H) : wpf ⟨bt.get, o⟩ F_goboref3_place [.int .i64 r, .bool true] H Q := by
  rw [fn_goboref3_place (ho _ _ _ (by decide))]
  unfold I32 at hr
  by_cases c1 : r < 0
  · have e : numN r = 0 := by simp only [numN, if_pos c1]
    rw [e] at h
    simp only [bd_goboref3_place, go_sem, zA, zB, zC, reduceIte, zD, zE, zF, zG, zH, zI, reduceCtorEq, zJ, zK, zL, zM, zN, zO, zP, c1]
    exact h
  · by_cases c2 : r < 55296
    · have e : (numN r : Int) = r := by simp only [numN, if_neg c1, if_pos c2]; omega
      rw [e] at h
      simp only [bd_goboref3_place, go_sem, zA, zB, zC, reduceIte, zD, zE, zF, zG, zH, zI, reduceCtorEq, zJ, zK, zL, zM, zN, zO, zP, c1, c2]
      exact h
    · by_cases c3 : r ≤ 57343
      · have e : (numN r : Int) = 55296 := by simp only [numN, if_neg c1, if_neg c2, if_pos c3]; rfl
        rw [e] at h
        simp only [bd_goboref3_place, go_sem, zA, zB, zC, reduceIte, zD, zE, zF, zG, zH, zI, reduceCtorEq, zJ, zK, zL, zM, zN, zO, zP, c1, c2, c3]
        exact h
      · by_cases c4 : 1114111 < r
        · have e : (numN r : Int) = 1112064 := by
            simp only [numN, if_neg c1, if_neg c2, if_neg c3]
            split <;> omega
          rw [e] at h
          simp only [bd_goboref3_place, go_sem, zA, zB, zC, reduceIte, zD, zE, zF, zG, zH, zI, reduceCtorEq, zJ, zK, zL, zM, zN, zO, zP, c1, c2, c3, c4, GT.gt]
          exact h
        · have e : (numN r : Int) = r - 2048 := by
            simp only [numN, if_neg c1, if_neg c2, if_neg c3, if_neg (show ¬ 1114112 < r by omega)]; omega
          have w : IntKind.i64.wrap (r - 2048) = r - 2048 := by rw [IntKind.wrap_i64]; omega
          rw [e] at h
          simp only [bd_goboref3_place, go_sem, zA, zB, zC, reduceIte, zD, zE, zF, zG, zH, zI, reduceCtorEq, zJ, zK, zL, zM, zN, zO, zP, c1, c2, c3, c4, w, GT.gt]
          exact h
theorem g_placeD {r : Int} (hr : I32 r) (h0 : 0 ≤ r) {H : Heap} {Q : End → Heap → Prop} (h : Q (.ret (.int .i64 ((behN r : Int) - 1))) H) : wpf ⟨bt.get, o⟩ F_goboref3_place [.int .i64 r, .bool false] H Q := by
  rw [fn_goboref3_place (ho _ _ _ (by decide))]
  unfold I32 at hr
  have c1 : ¬ r < 0 := by omega
  by_cases c2 : r < 55296
  · have e : (behN r : Int) - 1 = r := by
      simp only [behN, isR, numN, if_neg c1, if_pos c2, h0, c2, decide_true, Bool.true_and, Bool.true_or, if_true]; omega
    rw [e] at h
    simp only [bd_goboref3_place, go_sem, zA, zB, zC, reduceIte, zD, zE, zF, zG, zH, zI, reduceCtorEq, zJ, zK, zL, zM, zN, zO, zP, c1, c2]
    exact h
  · by_cases c3 : r ≤ 57343
    · have e : (behN r : Int) - 1 = 55295 := by
        have c5 : ¬ 57343 < r := by omega
        simp only [behN, isR, numN, if_neg c1, if_neg c2, if_pos c3, c2, c5, decide_false, Bool.and_false, Bool.false_and, Bool.or_false, Bool.false_eq_true, if_false]; rfl
      rw [e] at h
      simp only [bd_goboref3_place, go_sem, zA, zB, zC, reduceIte, zD, zE, zF, zG, zH, zI, reduceCtorEq, zJ, zK, zL, zM, zN, zO, zP, c1, c2, c3]
      exact h
    · by_cases c4 : 1114111 < r
      · have e : (behN r : Int) - 1 = 1112063 := by
          have c5 : ¬ r ≤ 1114111 := by omega
          simp only [behN, isR, numN, if_neg c1, if_neg c2, if_neg c3, c2, c5, decide_false, Bool.and_false, Bool.false_and, Bool.or_false, Bool.false_eq_true, if_false]
          split <;> omega
        rw [e] at h
        simp only [bd_goboref3_place, go_sem, zA, zB, zC, reduceIte, zD, zE, zF, zG, zH, zI, reduceCtorEq, zJ, zK, zL, zM, zN, zO, zP, c1, c2, c3, c4, GT.gt]
        exact h
      · have e : (behN r : Int) - 1 = r - 2048 := by
          have c5 : r ≤ 1114111 := by omega
          have c6 : 57343 < r := by omega
          simp only [behN, isR, numN, if_neg c1, if_neg c2, if_neg c3, if_neg (show ¬ 1114112 < r by omega), c5, c6, decide_true, Bool.and_true, Bool.or_true, if_true]; omega
        have w : IntKind.i64.wrap (r - 2048) = r - 2048 := by rw [IntKind.wrap_i64]; omega
        rw [e] at h
        simp only [bd_goboref3_place, go_sem, zA, zB, zC, reduceIte, zD, zE, zF, zG, zH, zI, reduceCtorEq, zJ, zK, zL, zM, zN, zO, zP, c1, c2, c3, c4, w, GT.gt]
        exact h
theorem g_at {p : Nat} (hp : p ≤ 1112064) {H : Heap} {Q : End → Heap → Prop} (h : Q (.ret (.int .i32 (valN p : Int))) H) : wpf ⟨bt.get, o⟩ F_goboref3_at [.int .i64 (p : Int)] H Q := by
  rw [fn_goboref3_at (ho _ _ _ (by decide))]
  by_cases c : p < 55296
  · have c' : ¬ (55296 : Int) ≤ (p : Int) := by omega
    have e : valN p = p := by simp only [valN, if_pos c]
    have w : IntKind.i32.wrap (p : Int) = (p : Int) := wi32 (by omega) (by omega)
    rw [e] at h
    simp only [bd_goboref3_at, go_sem, zA, zB, zC, reduceIte, zD, zE, zF, zG, zH, zI, reduceCtorEq, zJ, zK, zL, zM, zN, zO, zP, c', w, GE.ge]
    exact h
  · have c' : (55296 : Int) ≤ (p : Int) := by omega
    have e : (valN p : Int) = (p : Int) + 2048 := by simp only [valN, if_neg c]; omega
    have w1 : IntKind.i64.wrap ((p : Int) + 2048) = (p : Int) + 2048 := by rw [IntKind.wrap_i64]; omega
    have w : IntKind.i32.wrap ((p : Int) + 2048) = (p : Int) + 2048 := wi32 (by omega) (by omega)
    rw [e] at h
    simp only [bd_goboref3_at, go_sem, zA, zB, zC, reduceIte, zD, zE, zF, zG, zH, zI, reduceCtorEq, zJ, zK, zL, zM, zN, zO, zP, c', w1, w, GE.ge]
    exact h
omit ho in
theorem preS_none {c : R} (h : c.hi < c.lo ∨ c.hi < 0 ∨ 1114111 < c.lo) : preS c = none := by
  unfold preS
  rw [if_neg]
  rintro ⟨h1, h2⟩
  rcases h with h | h | h
  · omega
  · have : behN c.hi = 0 := by
      have c2 : ¬ 0 ≤ c.hi := by omega
      have c3 : ¬ 57343 < c.hi := by omega
      simp only [behN, isR, numN, if_pos h, c2, c3, decide_false, Bool.false_and, Bool.or_false, Bool.false_eq_true, if_false]
    omega
  · have := behN_most c.hi
    have e : numN c.lo = 1112064 := by
      simp only [numN, if_neg (show ¬ c.lo < 0 by omega), if_neg (show ¬ c.lo < 55296 by omega), if_neg (show ¬ c.lo ≤ 57343 by omega)]
      split <;> omega
    unfold mostN at this
    omega
theorem g_cells_loop {l : List R} {v : AV} {rb : Nat} (hl : l.length ≤ 1000000) (hr : ∀ r ∈ l, I32 r.lo ∧ I32 r.hi) {n0 : Nat} (hrb : 0 < l.length → rb < n0) {H0 : Heap} {Q : Ctl → St → Prop} : ∀ (r : List R) (i : Nat) (acc : List S) (sv : AV) (H : Heap), l.drop i = r → i ≤ l.length → acc.length ≤ i → Rd H 2 (rcells l) l.length v rb → Ext n0 H0 H → n0 ≤ H.size → Sl n0 H 2 (scells acc) acc.length sv →
    (∀ (H' : Heap) (sv' : AV) x1 x2 x3 t, Ext n0 H0 H' → Sl n0 H' 2 (scells (acc ++ preL r)) (acc ++ preL r).length sv' → Q (.exit 0) { p := [(0, x1), (3, sv'), (4, x2), (10, x3)], t := t, H := H', d := [], u := .norm }) →
    wpl ⟨bt.get, o⟩ [0, 3, 4] lb_goboref3_cells_0 { p := [(0, v), (3, sv), (4, .int .i64 i)], t := [], H := H, d := [], u := .norm } Q
  | [], i, acc, sv, H, hd, hi, ha, hR, hx, hn, hS, hQ => by
    have : l.length ≤ i := List.drop_eq_nil_iff.1 hd
    rw [wpl_step]
    have h1 : ¬((i : Int) < (l.length : Int)) := by omega
    simp only [lb_goboref3_cells_0, go_sem, zA, zB, zC, reduceIte, zD, zE, zF, zG, zH, zI, reduceCtorEq, zJ, zK, zL, zM, zN, zO, zP, hR.len, h1]
    exact hQ H sv _ _ _ _ hx (by simpa [preL] using hS)
  | c :: r, i, acc, sv, H, hd, hi, ha, hR, hx, hn, hS, hQ => by
    obtain ⟨h0, h1, h2⟩ := list_at hd
    obtain ⟨⟨u, hg⟩, hel, _⟩ := hR.pos (by omega)
    have el := hel i h1
    have hlt : rb < H.size := Heap.lt_of_get (by rw [hg]; simp)
    obtain ⟨c1, c2⟩ := rcells_fld h0
    obtain ⟨r1, r2⟩ := hr c (List.mem_of_getElem? h0)
    rw [wpl_step]
    have h1' : ((i : Int) < (l.length : Int)) := by omega
    have iw := wsucc (show i ≤ 1000000000 by omega)
    have skip : preS c = none → wpl ⟨bt.get, o⟩ [0, 3, 4] lb_goboref3_cells_0 { p := [(0, v), (3, sv), (4, .int .i64 ((i + 1 : Nat) : Int))], t := [], H := H, d := [], u := .norm } Q := by
      intro hp
      refine g_cells_loop hl hr hrb r (i + 1) acc sv H h2 (by omega) (by omega) hR hx hn hS fun H' sv' x1 x2 x3 t k1 k2 => hQ H' sv' x1 x2 x3 t k1 ?_
      have : preL (c :: r) = preL r := by simp [preL, hp]
      rw [this]; exact k2
    by_cases q1 : c.hi < c.lo
    · simp only [lb_goboref3_cells_0, go_sem, zA, zB, zC, reduceIte, zD, zE, zF, zG, zH, zI, reduceCtorEq, zJ, zK, zL, zM, zN, zO, zP, hR.len, h1', el, hg, c1, c2, q1, iw, GT.gt]
      exact skip (preS_none (.inl q1))
    · by_cases q2 : c.hi < 0
      · simp only [lb_goboref3_cells_0, go_sem, zA, zB, zC, reduceIte, zD, zE, zF, zG, zH, zI, reduceCtorEq, zJ, zK, zL, zM, zN, zO, zP, hR.len, h1', el, hg, c1, c2, q1, q2, iw, GT.gt]
        exact skip (preS_none (.inr (.inl q2)))
      · by_cases q3 : 1114111 < c.lo
        · simp only [lb_goboref3_cells_0, go_sem, zA, zB, zC, reduceIte, zD, zE, zF, zG, zH, zI, reduceCtorEq, zJ, zK, zL, zM, zN, zO, zP, hR.len, h1', el, hg, c1, c2, q1, q2, q3, iw, GT.gt]
          exact skip (preS_none (.inr (.inr q3)))
        · have w1 : IntKind.i64.wrap c.lo = c.lo := by unfold I32 at r1; rw [IntKind.wrap_i64]; omega
          have w2 : IntKind.i64.wrap c.hi = c.hi := by unfold I32 at r2; rw [IntKind.wrap_i64]; omega
          have w3 : IntKind.i64.wrap ((behN c.hi : Int) - 1 + 1) = (behN c.hi : Int) := by
            have := behN_le c.hi
            rw [IntKind.wrap_i64]; omega
          simp only [lb_goboref3_cells_0, go_sem, zA, zB, zC, reduceIte, zD, zE, zF, zG, zH, zI, reduceCtorEq, zJ, zK, zL, zM, zN, zO, zP, hR.len, h1', el, hg, c1, c2, q1, q2, q3, w1, GT.gt]
          refine g_placeU ho r1 ?_
          simp only [go_sem, zA, zB, zC, reduceIte, zD, zE, zF, zG, zH, zI, reduceCtorEq, zJ, zK, zL, zM, zN, zO, zP, el, hg, c2, w2, AV.beq_self]
          refine g_placeD ho r2 (by omega) ?_
          simp only [go_sem, zA, zB, zC, reduceIte, zD, zE, zF, zG, zH, zI, reduceCtorEq, zJ, zK, zL, zM, zN, zO, zP, w3]
          by_cases q4 : numN c.lo < behN c.hi
          · have q4' : (numN c.lo : Int) < (behN c.hi : Int) := by omega
            have hp : preS c = some (numN c.lo, behN c.hi) := by simp only [preS, q4, and_true]; rw [if_pos (by omega)]
            obtain ⟨ob, H', ea, hx1, hsl⟩ := append_spec (bytes := 16) (ys := [.int .i64 (numN c.lo : Int), .int .i64 (behN c.hi : Int)]) (k := 1) (Sl.push (x := .cells [.int .i64 (numN c.lo : Int), .int .i64 (behN c.hi : Int)] .own) hS) (by rw [Heap.size_push]; omega) (by omega) rfl (by omega) (by omega)
            simp only [go_sem, zA, zB, zC, reduceIte, zD, zE, zF, zG, zH, zI, reduceCtorEq, zJ, zK, zL, zM, zN, zO, zP, q4', ea, iw]
            have hx2 : Ext n0 H H' := (Ext.push hn).trans hx1
            refine g_cells_loop hl hr hrb r (i + 1) (acc ++ [(numN c.lo, behN c.hi)]) _ H' h2 (by omega) (by simp; omega) (hR.keep fun h => hx2.2 rb (hrb h)) (hx.trans hx2) (Nat.le_trans hn hx2.1) (by rw [scells_app, List.length_append]; exact hsl) fun H' sv' x1 x2 x3 t k1 k2 => hQ H' sv' x1 x2 x3 t k1 ?_
            have : acc ++ preL (c :: r) = acc ++ [(numN c.lo, behN c.hi)] ++ preL r := by simp [preL, hp]
            rw [this]; exact k2
          · have q4' : ¬ (numN c.lo : Int) < (behN c.hi : Int) := by omega
            simp only [go_sem, zA, zB, zC, reduceIte, zD, zE, zF, zG, zH, zI, reduceCtorEq, zJ, zK, zL, zM, zN, zO, zP, q4', iw]
            exact skip (by simp only [preS, q4, and_false, if_false])
theorem g_cells {l : List R} {v : AV} {rb : Nat} (hl : l.length ≤ 1000000) (hr : ∀ r ∈ l, I32 r.lo ∧ I32 r.hi) {H : Heap} (hR : Rd H 2 (rcells l) l.length v rb) {Q : End → Heap → Prop}
    (hQ : ∀ H' v', Ext H.size H H' → Sl H.size H' 2 (scells (preL l)) (preL l).length v' → Q (.ret v') H') : wpf ⟨bt.get, o⟩ F_goboref3_cells [v] H Q := by
  rw [fn_goboref3_cells (ho _ _ _ (by decide))]
  simp only [bd_goboref3_cells, go_sem, zA, zB, zC, reduceIte, zD, zE, zF, zG, zH, zI, reduceCtorEq, zJ, zK, zL, zM, zN, zO, zP]
  refine g_cells_loop ho hl hr (fun h => hR.lt h) l 0 [] .nils H rfl (Nat.zero_le _) (Nat.le_refl _) hR Ext.refl (Nat.le_refl _) Sl.nil fun H1 sv x1 x2 x3 t k1 k2 => ?_
  simp only [go_sem, zA, zB, zC, reduceIte, zD, zE, zF, zG, zH, zI, reduceCtorEq, zJ, zK, zL, zM, zN, zO, zP]
  exact hQ _ _ k1 (by simpa using k2)
omit ho in
theorem g_in_loop {l : List S} {v : AV} {rb p : Nat} (hl : l.length ≤ 1000000) {H : Heap} (hR : Rd H 2 (scells l) l.length v rb) {Q : Ctl → St → Prop} : ∀ (r : List S) (i : Nat), l.drop i = r → i ≤ l.length →
    (inG r p = false → ∀ σ : St, σ.H = H → σ.d = [] → Q (.exit 0) σ) → (inG r p = true → ∀ σ : St, σ.H = H → σ.d = [] → lk 4 σ.p = some (.bool true) → Q .ret σ) →
    wpl ⟨bt.get, o⟩ [0, 1, 5] lb_goboref3_in_0 { p := [(0, v), (1, .int .i64 (p : Int)), (5, .int .i64 i)], t := [], H := H, d := [], u := .norm } Q
  | [], i, hd, hi, hF, hT => by
    have : l.length ≤ i := List.drop_eq_nil_iff.1 hd
    rw [wpl_step]
    have h1 : ¬((i : Int) < (l.length : Int)) := by omega
    simp only [lb_goboref3_in_0, go_sem, zA, zB, zC, reduceIte, zD, zE, zF, zG, zH, zI, reduceCtorEq, zJ, zK, zL, zM, zN, zO, zP, hR.len, h1]
    exact hF rfl _ rfl rfl
  | c :: r, i, hd, hi, hF, hT => by
    obtain ⟨h0, h1, h2⟩ := list_at hd
    obtain ⟨⟨u, hg⟩, hel, _⟩ := hR.pos (by omega)
    have el := hel i h1
    obtain ⟨c1, c2⟩ := scells_fld h0
    rw [wpl_step]
    have h1' : ((i : Int) < (l.length : Int)) := by omega
    have iw := wsucc (show i ≤ 1000000000 by omega)
    by_cases q1 : c.1 ≤ p
    · have q1' : (c.1 : Int) ≤ (p : Int) := by omega
      by_cases q2 : p < c.2
      · have q2' : (p : Int) < (c.2 : Int) := by omega
        simp only [lb_goboref3_in_0, go_sem, zA, zB, zC, reduceIte, zD, zE, zF, zG, zH, zI, reduceCtorEq, zJ, zK, zL, zM, zN, zO, zP, hR.len, h1', el, hg, c1, c2, q1', q2']
        exact hT (by simp [inG, q1, q2]) _ rfl rfl rfl
      · have q2' : ¬ (p : Int) < (c.2 : Int) := by omega
        have e : inG (c :: r) p = inG r p := by simp [inG, q1, q2]
        rw [e] at hF hT
        simp only [lb_goboref3_in_0, go_sem, zA, zB, zC, reduceIte, zD, zE, zF, zG, zH, zI, reduceCtorEq, zJ, zK, zL, zM, zN, zO, zP, hR.len, h1', el, hg, c1, c2, q1', q2', iw]
        exact g_in_loop hl hR r (i + 1) h2 (by omega) hF hT
    · have q1' : ¬ (c.1 : Int) ≤ (p : Int) := by omega
      have e : inG (c :: r) p = inG r p := by simp [inG, q1]
      rw [e] at hF hT
      simp only [lb_goboref3_in_0, go_sem, zA, zB, zC, reduceIte, zD, zE, zF, zG, zH, zI, reduceCtorEq, zJ, zK, zL, zM, zN, zO, zP, hR.len, h1', el, hg, c1, c2, q1', iw]
      exact g_in_loop hl hR r (i + 1) h2 (by omega) hF hT
theorem g_in {l : List S} {v : AV} {rb p : Nat} (hl : l.length ≤ 1000000) {H : Heap} (hR : Rd H 2 (scells l) l.length v rb) {Q : End → Heap → Prop} (h : Q (.ret (.bool (inG l p))) H) : wpf ⟨bt.get, o⟩ F_goboref3_in [v, .int .i64 (p : Int)] H Q := by
  rw [fn_goboref3_in (ho _ _ _ (by decide))]
  simp only [bd_goboref3_in, go_sem, zA, zB, zC, reduceIte, zD, zE, zF, zG, zH, zI, reduceCtorEq, zJ, zK, zL, zM, zN, zO, zP]
  refine g_in_loop hl hR l 0 rfl (Nat.zero_le _) (fun e σ k1 k2 => ?_) (fun e σ k1 k2 k3 => ?_)
  · simp only [go_sem, zA, zB, zC, reduceIte, zD, zE, zF, zG, zH, zI, reduceCtorEq, zJ, zK, zL, zM, zN, zO, zP, k1, k2, lk_up]
    rw [e] at h; exact h
  · simp only [go_sem, zA, zB, zC, reduceIte, zD, zE, zF, zG, zH, zI, reduceCtorEq, zJ, zK, zL, zM, zN, zO, zP, k1, k2, k3]
    rw [e] at h; exact h
end
/- Package goboref3: cuts. -/
set_option maxRecDepth 8000
def ncells (l : List Nat) : List AV := l.map fun (n : Nat) => .int .i64 (n : Int)
theorem ncells_len (l : List Nat) : (ncells l).length = l.length * 1 := by simp [ncells]
theorem ncells_app (l m : List Nat) : ncells (l ++ m) = ncells l ++ ncells m := by simp [ncells]
theorem ncells_at {l : List Nat} {i c : Nat} (h : l[i]? = some c) : (ncells l)[i]? = some (.int .i64 (c : Int)) := by simp [ncells, h]
theorem nc_one (l : List Nat) : (ncells l).all AV.one = true := by simp [ncells, AV.one]
/-- A slice that may be grown: nothing, one that append made, or a full one. -/
def Gs (n0 : Nat) (H : Heap) (sz : Nat) (cs : List AV) (n : Nat) (v : AV) : Prop :=
  (v = .nils ∧ n = 0 ∧ cs = []) ∨ ∃ b, n0 ≤ b ∧ H.get b = .cells cs .own ∧ cs.length = n * sz ∧ (v = .osl sz b 0 n ∨ v = .slice b 0 n n)
theorem Gs.len {n0 H sz cs n v} (h : Gs n0 H sz cs n v) : cs.length = n * sz := by
  rcases h with ⟨_, rfl, rfl⟩ | ⟨b, _, _, h4, _⟩
  · simp
  · exact h4
theorem Gs.push {n0 H sz cs n v x} (h : Gs n0 H sz cs n v) : Gs n0 (H.push x) sz cs n v := by
  rcases h with h | ⟨b, h1, h2, h3, h4⟩
  · exact .inl h
  · exact .inr ⟨b, h1, by rw [Heap.get_push_lt (Heap.lt_of_get (by rw [h2]; simp)), h2], h3, h4⟩
theorem Gs.rd {n0 H sz cs n v} (h : Gs n0 H sz cs n v) : ∃ b, Rd H sz cs n v b := by
  rcases h with ⟨rfl, rfl, rfl⟩ | ⟨b, h1, h2, h3, rfl | rfl⟩
  · exact ⟨0, Rd.nil⟩
  · exact ⟨b, Rd.osl h2 h3⟩
  · exact ⟨b, Rd.slice h2 h3⟩
theorem Gs.sl {n0 H sz cs n v} (h : Gs n0 H sz cs n v) (hn : 0 < n) (hv : ∃ b, v = .osl sz b 0 n) : Sl n0 H sz cs n v := by
  obtain ⟨b', rfl⟩ := hv
  rcases h with ⟨h, _⟩ | ⟨b, h1, h2, h3, h4 | h4⟩
  · cases h
  · injection h4 with _ h4; subst h4; exact .inr ⟨b', rfl, h1, h2, h3, hn⟩
  · cases h4
theorem gs_append {n0 : Nat} {H : Heap} {sz bytes : Nat} {cs ys : List AV} {n k : Nat} {v : AV} (h : Gs n0 H sz cs n v) (hn : n0 ≤ H.size) (hy : ys.length = k * sz) (h1 : (n + k) * bytes ≤ 1099511627776) (h2 : n + k ≤ 1099511627776) :
    ∃ v' H', appendA H sz bytes v k ys = some (v', H') ∧ Ext n0 H H' ∧ Gs n0 H' sz (cs ++ ys) (n + k) v' ∧ (0 < k → ∃ b, v' = .osl sz b 0 (n + k)) ∧ (k = 0 → v' = v) ∧ ∀ c, c < H.size → (∀ s o n, v ≠ .osl s c o n) → H'.get c = H.get c := by
  by_cases hk : k = 0
  · subst hk
    have : ys = [] := List.eq_nil_of_length_eq_zero (by omega)
    subst this
    refine ⟨v, H, ?_, Ext.refl, by simpa using h, fun h => absurd h (by omega), fun _ => rfl, fun _ _ _ => rfl⟩
    rcases h with ⟨rfl, _⟩ | ⟨b, _, _, _, rfl | rfl⟩
    · rfl
    · rfl
    · simp [appendA]
  · have hl := h.len
    rcases h with ⟨rfl, rfl, rfl⟩ | ⟨b, hb, hg, h3, rfl | rfl⟩
    · rw [Nat.zero_add] at *
      refine ⟨.osl sz H.size 0 k, H.push (.cells ys .own), ?_, Ext.push hn, .inr ⟨H.size, hn, Heap.get_push_self, by simpa using hy, .inl rfl⟩, fun _ => ⟨_, rfl⟩, fun h => absurd h hk, fun c hc _ => Heap.get_push_lt hc⟩
      simp only [appendA, if_neg hk, if_pos (And.intro h1 h2)]
    · have hb' : b < H.size := Heap.lt_of_get (by rw [hg]; simp)
      refine ⟨.osl sz H.size 0 (n + k), (H.set b .dead).push (.cells (cs ++ ys) .own), ?_, (Ext.set hb).trans (Ext.push hn), .inr ⟨H.size, hn, Heap.get_push_eq (by rw [Heap.size_set]), ?_, .inl rfl⟩, fun _ => ⟨_, rfl⟩, fun h => absurd h hk, fun c hc hne => ?_⟩
      · have e : rd cs 0 (n * sz) = cs := by rw [rd, List.drop_zero, ← hl, List.take_length]
        simp only [appendA, if_neg hk, hg, h1, h2, true_and, and_self, Nat.zero_add, hl, Nat.le_refl, if_true, e]
      · rw [List.length_append, hl, hy, Nat.add_mul]
      · have hcb : c ≠ b := fun e => hne sz 0 n (by rw [e])
        rw [Heap.get_push_lt (by rw [Heap.size_set]; exact hc), Heap.get_set_ne hcb]
    · refine ⟨.osl sz H.size 0 (n + k), H.push (.cells (cs ++ ys) .own), ?_, Ext.push hn, .inr ⟨H.size, hn, Heap.get_push_self, ?_, .inl rfl⟩, fun _ => ⟨_, rfl⟩, fun h => absurd h hk, fun c hc hne => Heap.get_push_lt hc⟩
      · have hr : readSl H sz (.slice b 0 n n) = some (n, cs) := (Rd.slice hg h3).read
        simp only [appendA, if_neg hk, if_neg (show ¬ n + k ≤ n by omega), h1, h2, and_self, if_true, hr]
      · rw [List.length_append, hl, hy, Nat.add_mul]
def posN (c : Nat) : List Nat → Nat
  | [] => 0
  | x :: r => if x < c then posN c r + 1 else 0
theorem posN_le (c : Nat) : ∀ l : List Nat, posN c l ≤ l.length
  | [] => Nat.le_refl _
  | x :: r => by
    have := posN_le c r
    rw [posN]; split <;> (simp only [List.length_cons]; omega)
theorem insN_pos (c : Nat) : ∀ l : List Nat, insN c l = if l[posN c l]? = some c then l else l.take (posN c l) ++ c :: l.drop (posN c l)
  | [] => by simp [insN, posN]
  | x :: r => by
    rw [insN, posN]
    split
    · rw [insN_pos c r, List.getElem?_cons_succ]
      split <;> simp
    · simp only [List.getElem?_cons_zero, Option.some.injEq, List.take_zero, List.drop_zero, List.nil_append]
theorem ends_get : ∀ (l : List S) (i c : Nat), (endsG l)[i]? = some c → ∃ x, l[i / 2]? = some x ∧ c = if i % 2 = 1 then x.2 else x.1
  | [], i, c, h => by simp [endsG] at h
  | x :: l, 0, c, h => by
    simp only [endsG, List.flatMap_cons, List.cons_append, List.getElem?_cons_zero, Option.some.injEq] at h
    exact ⟨x, rfl, by subst h; rfl⟩
  | x :: l, 1, c, h => by
    simp only [endsG, List.flatMap_cons, List.cons_append, List.getElem?_cons_succ, List.getElem?_cons_zero, Option.some.injEq] at h
    exact ⟨x, rfl, by subst h; rfl⟩
  | x :: l, i + 2, c, h => by
    have h' : (endsG l)[i]? = some c := by simpa [endsG] using h
    obtain ⟨y, h1, h2⟩ := ends_get l i c h'
    refine ⟨y, by rw [show (i + 2) / 2 = i / 2 + 1 by omega, List.getElem?_cons_succ]; exact h1, ?_⟩
    rw [show (i + 2) % 2 = i % 2 by omega]; exact h2
theorem ends_len : ∀ l : List S, (endsG l).length = 2 * l.length
  | [] => rfl
  | x :: l => by
    have := ends_len l
    unfold endsG at *
    rw [List.flatMap_cons, List.length_append, this]; simp only [List.length_cons, List.length_nil]; omega
section
variable {o : CallF} (ho : OvOnly o)
include ho
omit ho in
theorem c_pos_loop {v ov : AV} {acc : List Nat} {ob i c : Nat} (hl : acc.length ≤ 1000000) {H : Heap} (hR : Rd H 1 (ncells acc) acc.length ov ob) {Q : Ctl → St → Prop} : ∀ (r : List Nat) (k : Nat), acc.drop k = r → k ≤ acc.length →
    (∀ y t, Q (.exit 2) { p := [(0, v), (3, ov), (4, .int .i64 (i : Int)), (5, .int .i64 (c : Int)), (6, .int .i64 ((k + posN c r : Nat) : Int)), (41, y)], t := t, H := H, d := [], u := .norm }) →
    wpl ⟨bt.get, o⟩ [0, 3, 4, 5, 6] lb_goboref3_cuts_0 { p := [(0, v), (3, ov), (4, .int .i64 (i : Int)), (5, .int .i64 (c : Int)), (6, .int .i64 (k : Int))], t := [], H := H, d := [], u := .norm } Q
  | [], k, hd, hk, hQ => by
    have : acc.length ≤ k := List.drop_eq_nil_iff.1 hd
    rw [wpl_step]
    have h1 : ¬((k : Int) < (acc.length : Int)) := by omega
    simp only [lb_goboref3_cuts_0, go_sem, zA, zB, zC, reduceIte, zD, zE, zF, zG, zH, zI, reduceCtorEq, zJ, zK, zL, zM, zN, zO, zP, hR.len, h1]
    exact hQ _ _
  | x :: r, k, hd, hk, hQ => by
    obtain ⟨h0, h1, h2⟩ := list_at hd
    obtain ⟨⟨u, hg⟩, hel, _⟩ := hR.pos (by omega)
    have el := hel k h1
    rw [Nat.mul_one] at el
    have c1 := ncells_at h0
    rw [wpl_step]
    have h1' : ((k : Int) < (acc.length : Int)) := by omega
    have iw := wsucc (show k ≤ 1000000000 by omega)
    by_cases q : x < c
    · have q' : (x : Int) < (c : Int) := by omega
      simp only [lb_goboref3_cuts_0, go_sem, zA, zB, zC, reduceIte, zD, zE, zF, zG, zH, zI, reduceCtorEq, zJ, zK, zL, zM, zN, zO, zP, hR.len, h1', el, hg, c1, q', iw]
      refine c_pos_loop hl hR r (k + 1) h2 (by omega) fun y t => ?_
      have := hQ y t
      rw [posN, if_pos q, show k + (posN c r + 1) = k + 1 + posN c r by omega] at this
      exact this
    · have q' : ¬ (x : Int) < (c : Int) := by omega
      simp only [lb_goboref3_cuts_0, go_sem, zA, zB, zC, reduceIte, zD, zE, zF, zG, zH, zI, reduceCtorEq, zJ, zK, zL, zM, zN, zO, zP, hR.len, h1', el, hg, c1, q']
      simp only [posN, if_neg q, Nat.add_zero] at hQ
      exact hQ _ _
omit ho in
theorem ins_mem {H : Heap} {c k1 k3 : Nat} {ys1 ys3 : List AV} (h1 : ys1.length = k1) (h3 : ys3.length = k3) (hk : k1 + k3 ≤ 1000000) :
    ∃ v1 H2 v2 H3 v3 H4, appendA (H.push (.cells [] .own)) 1 8 (.slice H.size 0 0 0) k1 ys1 = some (v1, H2) ∧ appendA (H2.push (.cells [.int .i64 (c : Int)] .own)) 1 8 v1 1 [.int .i64 (c : Int)] = some (v2, H3) ∧ appendA H3 1 8 v2 k3 ys3 = some (v3, H4) ∧
      Ext H.size H H3 ∧ Ext H.size H H4 ∧ Sl H.size H4 1 (ys1 ++ .int .i64 (c : Int) :: ys3) (k1 + 1 + k3) v3 := by
  have s1 : H.size + 1 = (H.push (.cells [] .own)).size := (Heap.size_push _ _).symm
  have x1 : Ext H.size H (H.push (.cells [] .own)) := Ext.push (Nat.le_refl _)
  have G1 : Gs H.size (H.push (.cells [] .own)) 1 [] 0 (.slice H.size 0 0 0) := .inr ⟨H.size, Nat.le_refl _, Heap.get_push_self, rfl, .inr rfl⟩
  obtain ⟨v1, H2, e1, x2, G2, _, _, _⟩ := gs_append (bytes := 8) (ys := ys1) (k := k1) G1 (by omega) (by omega) (by omega) (by omega)
  have s2 := x2.1
  obtain ⟨v2, H3, e2, x3, G3, f3, _, _⟩ := gs_append (bytes := 8) (ys := [.int .i64 (c : Int)]) (k := 1) (G2.push (x := .cells [.int .i64 (c : Int)] .own)) (by rw [Heap.size_push]; omega) rfl (by omega) (by omega)
  have s3 := x3.1
  rw [Heap.size_push] at s3
  have y3 : Ext H.size H H3 := (x1.trans x2).trans ((Ext.push (by omega)).trans x3)
  obtain ⟨v3, H4, e3, x4, G4, f4, g4, _⟩ := gs_append (bytes := 8) (ys := ys3) (k := k3) G3 (by omega) (by omega) (by omega) (by omega)
  refine ⟨v1, H2, v2, H3, v3, H4, e1, e2, e3, y3, y3.trans x4, ?_⟩
  have G5 : Gs H.size H4 1 (ys1 ++ .int .i64 (c : Int) :: ys3) (k1 + 1 + k3) v3 := by simpa using G4
  refine G5.sl (by omega) ?_
  rcases Nat.eq_zero_or_pos k3 with h | h
  · obtain ⟨b, hb⟩ := f3 (by omega)
    subst h
    exact ⟨b, by rw [g4 rfl, hb]; simp⟩
  · obtain ⟨b, hb⟩ := f4 h
    exact ⟨b, by rw [hb]; simp⟩
omit ho in
theorem c_loop {l : List S} {v : AV} {rb : Nat} (hl : l.length ≤ 100000) {n0 : Nat} (hrb : 0 < l.length → rb < n0) {H0 : Heap} {Q : Ctl → St → Prop} : ∀ (r : List Nat) (i : Nat) (acc : List Nat) (ov : AV) (H : Heap), (endsG l).drop i = r → i ≤ 2 * l.length → acc.length ≤ i → Rd H 2 (scells l) l.length v rb → Ext n0 H0 H → n0 ≤ H.size → Sl n0 H 1 (ncells acc) acc.length ov →
    (∀ (H' : Heap) (ov' : AV) x1 x2 x3 t, Ext n0 H0 H' → Sl n0 H' 1 (ncells (r.foldl (fun out c => insN c out) acc)) (r.foldl (fun out c => insN c out) acc).length ov' → Q (.exit 0) { p := [(0, x1), (3, ov'), (4, x2), (12, x3)], t := t, H := H', d := [], u := .norm }) →
    wpl ⟨bt.get, o⟩ [0, 3, 4] lb_goboref3_cuts_1 { p := [(0, v), (3, ov), (4, .int .i64 (i : Int))], t := [], H := H, d := [], u := .norm } Q
  | [], i, acc, ov, H, hd, hi, ha, hR, hx, hn, hS, hQ => by
    have : (endsG l).length ≤ i := List.drop_eq_nil_iff.1 hd
    rw [ends_len] at this
    rw [wpl_step]
    have w2 : IntKind.i64.wrap (2 * (l.length : Int)) = ((2 * l.length : Nat) : Int) := by rw [IntKind.wrap_i64]; omega
    have h1 : ¬((i : Int) < ((2 * l.length : Nat) : Int)) := by omega
    simp only [lb_goboref3_cuts_1, go_sem, zA, zB, zC, reduceIte, zD, zE, zF, zG, zH, zI, reduceCtorEq, zJ, zK, zL, zM, zN, zO, zP, hR.len, w2, h1]
    exact hQ H ov _ _ _ _ hx hS
  | c :: r, i, acc, ov, H, hd, hi, ha, hR, hx, hn, hS, hQ => by
    obtain ⟨h0, h1, h2⟩ := list_at hd
    obtain ⟨x, g0, gc⟩ := ends_get l i c h0
    have hi2 : i / 2 < l.length := (List.getElem?_eq_some_iff.1 g0).1
    rw [ends_len] at h1
    obtain ⟨⟨u, hg⟩, hel, _⟩ := hR.pos (by omega)
    have el := hel (i / 2) hi2
    obtain ⟨c1, c2⟩ := scells_fld g0
    rw [wpl_step]
    have w2 : IntKind.i64.wrap (2 * (l.length : Int)) = ((2 * l.length : Nat) : Int) := by rw [IntKind.wrap_i64]; omega
    have h1' : ((i : Int) < ((2 * l.length : Nat) : Int)) := by omega
    have w3 : IntKind.i64.wrap ((i : Int).tdiv 2) = ((i / 2 : Nat) : Int) := by rw [show (i : Int).tdiv 2 = ((i / 2 : Nat) : Int) from rfl, IntKind.wrap_i64]; omega
    have w4 : (i : Int).tmod 2 = ((i % 2 : Nat) : Int) := rfl
    have iw := wsucc (show i ≤ 1000000000 by omega)
    obtain ⟨ob, hRo, hob⟩ := hS.rd
    by_cases par : i % 2 = 1
    case' pos =>
      have par' : ((i % 2 : Nat) : Int) = 1 := by omega
      rw [if_pos par] at gc
      rw [← gc] at c2
      simp only [lb_goboref3_cuts_1, go_sem, zA, zB, zC, reduceIte, zD, zE, zF, zG, zH, zI, reduceCtorEq, zJ, zK, zL, zM, zN, zO, zP, hR.len, w2, h1', w3, w4, el, hg, c1, c2, par']
      refine c_pos_loop (by omega) hRo acc 0 rfl (Nat.zero_le _) fun y t => ?_
    case' neg =>
      have par' : ¬ ((i % 2 : Nat) : Int) = 1 := by omega
      rw [if_neg par] at gc
      rw [← gc] at c1
      simp only [lb_goboref3_cuts_1, go_sem, zA, zB, zC, reduceIte, zD, zE, zF, zG, zH, zI, reduceCtorEq, zJ, zK, zL, zM, zN, zO, zP, hR.len, w2, h1', w3, w4, el, hg, c1, c2, par']
      refine c_pos_loop (by omega) hRo acc 0 rfl (Nat.zero_le _) fun y t => ?_
    all_goals
      rcases hS with ⟨rfl, a0, _⟩ | ⟨ob', rfl, hob', hgo, hlo, hpo⟩
      · have : acc = [] := List.eq_nil_of_length_eq_zero a0
        subst this
        obtain ⟨v1, H2, v2, H3, v3, H4, ea1, ea2, ea3, _, x4, s4⟩ := ins_mem (H := H) (c := c) (ys1 := []) (ys3 := []) (k1 := 0) (k3 := 0) rfl rfl (by omega)
        simp only [go_sem, zA, zB, zC, reduceIte, zD, zE, zF, zG, zH, zI, reduceCtorEq, zJ, zK, zL, zM, zN, zO, zP, posN, List.length_nil, Nat.add_zero, Int.natCast_zero, ea1, ea2, ea3, iw]
        exact c_loop hl hrb r (i + 1) [c] v3 H4 h2 (by omega) (by simp) (hR.keep fun h => x4.2 rb (hR.lt h)) (hx.trans (x4.le hn)) (Nat.le_trans hn x4.1) (s4.frame' hn) hQ
      · have hpl := posN_le c acc
        have k0 : (0 : Int) ≤ ((posN c acc : Nat) : Int) := by omega
        have k1 : ((posN c acc : Nat) : Int) ≤ (acc.length : Int) := by omega
        have hlo' : ob' < H.size := Heap.lt_of_get (by rw [hgo]; simp)
        have tl : (ncells (acc.take (posN c acc))).length = posN c acc := by rw [ncells_len, List.length_take]; omega
        have dl : (ncells (acc.drop (posN c acc))).length = acc.length - posN c acc := by rw [ncells_len, List.length_drop]; omega
        obtain ⟨v1, H2, v2, H3, v3, H4, ea1, ea2, ea3, x3, x4, s4⟩ := ins_mem (H := H) (c := c) (ys1 := ncells (acc.take (posN c acc))) (ys3 := ncells (acc.drop (posN c acc))) (k1 := posN c acc) (k3 := acc.length - posN c acc) (by omega) (by omega) (by omega)
        have hr1 : readSl (H.push (.cells [] .own)) 1 (.osl 1 ob' 0 (posN c acc)) = some (posN c acc, ncells (acc.take (posN c acc))) := by
          have gg : (H.push (.cells [] .own)).get ob' = .cells (ncells acc) .own := by rw [Heap.get_push_lt hlo', hgo]
          simp only [readSl, if_true, gg]
          split
          · rename_i e; rw [e]; rfl
          · rw [if_pos (by rw [ncells_len]; omega)]; simp [rd, ncells, List.map_take]
        have hr3 : readSl H3 1 (.osl 1 ob' (posN c acc) (acc.length - posN c acc)) = some (acc.length - posN c acc, ncells (acc.drop (posN c acc))) := by
          have gg : H3.get ob' = .cells (ncells acc) .own := by rw [x3.2 ob' hlo', hgo]
          simp only [readSl, if_true, gg]
          split
          · rename_i e; rw [List.drop_eq_nil_of_le (by omega)]; simp [e, ncells]
          · rw [if_pos (by rw [ncells_len]; omega)]; simp [rd, ncells, List.map_drop, List.take_of_length_le]
        simp only [go_sem, zA, zB, zC, reduceIte, zD, zE, zF, zG, zH, zI, reduceCtorEq, zJ, zK, zL, zM, zN, zO, zP, Nat.sub_zero, Nat.zero_add] at hr1 hr3
        have go : insN c acc = acc.take (posN c acc) ++ c :: acc.drop (posN c acc) → wpl ⟨bt.get, o⟩ [0, 3, 4] lb_goboref3_cuts_1 { p := [(0, v), (3, v3), (4, .int .i64 ((i + 1 : Nat) : Int))], t := [], H := H4, d := [], u := .norm } Q := fun e => by
          refine c_loop hl hrb r (i + 1) (insN c acc) v3 H4 h2 (by omega) (by have := insN_len (c := c) (l := acc); omega) (hR.keep fun h => x4.2 rb (hR.lt h)) (hx.trans (x4.le hn)) (Nat.le_trans hn x4.1) ?_ hQ
          have e1 : ncells (insN c acc) = ncells (acc.take (posN c acc)) ++ .int .i64 (c : Int) :: ncells (acc.drop (posN c acc)) := by rw [e, ncells_app]; rfl
          have e2 : (insN c acc).length = posN c acc + 1 + (acc.length - posN c acc) := by rw [e, List.length_append, List.length_cons, List.length_take, List.length_drop]; omega
          rw [e1, e2]
          exact s4.frame' hn
        rcases Nat.lt_or_ge (posN c acc) acc.length with hk | hk
        · have k2 : ((posN c acc : Nat) : Int) < (acc.length : Int) := by omega
          obtain ⟨z, hz⟩ : ∃ z, acc[posN c acc]? = some z := ⟨_, List.getElem?_eq_getElem hk⟩
          have gz := ncells_at hz
          by_cases hzc : z = c
          · have hzc' : (z : Int) = (c : Int) := by omega
            simp only [go_sem, zA, zB, zC, reduceIte, zD, zE, zF, zG, zH, zI, reduceCtorEq, zJ, zK, zL, zM, zN, zO, zP, Nat.zero_add, k0, k1, k2, elA, hgo, gz, hzc', iw]
            refine c_loop hl hrb r (i + 1) acc _ H h2 (by omega) (by omega) hR hx hn (.inr ⟨ob', rfl, hob', hgo, hlo, hpo⟩) ?_
            have e : insN c acc = acc := by rw [insN_pos, if_pos (by rw [hz, hzc])]
            simp only [List.foldl_cons, e] at hQ
            exact hQ
          · have hzc' : ¬ (z : Int) = (c : Int) := by omega
            simp only [go_sem, zA, zB, zC, reduceIte, zD, zE, zF, zG, zH, zI, reduceCtorEq, zJ, zK, zL, zM, zN, zO, zP, Nat.zero_add, k0, k1, k2, elA, hgo, gz, hzc', Nat.sub_zero, hr1, nc_one, ea1, ea2, hr3, ea3, iw]
            exact go (by rw [insN_pos, if_neg (by rw [hz]; simpa using hzc)])
        · have k2 : ¬ ((posN c acc : Nat) : Int) < (acc.length : Int) := by omega
          simp only [go_sem, zA, zB, zC, reduceIte, zD, zE, zF, zG, zH, zI, reduceCtorEq, zJ, zK, zL, zM, zN, zO, zP, Nat.zero_add, k0, k1, k2, Nat.sub_zero, hr1, nc_one, ea1, ea2, hr3, ea3, iw]
          exact go (by rw [insN_pos, if_neg (by rw [List.getElem?_eq_none (by omega)]; simp)])
theorem g_cuts {l : List S} {v : AV} {rb : Nat} (hl : l.length ≤ 100000) {H : Heap} (hR : Rd H 2 (scells l) l.length v rb) {Q : End → Heap → Prop}
    (hQ : ∀ H' v', Ext H.size H H' → Sl H.size H' 1 (ncells (cutsG l)) (cutsG l).length v' → Q (.ret v') H') : wpf ⟨bt.get, o⟩ F_goboref3_cuts [v] H Q := by
  rw [fn_goboref3_cuts (ho _ _ _ (by decide))]
  simp only [bd_goboref3_cuts, go_sem, zA, zB, zC, reduceIte, zD, zE, zF, zG, zH, zI, reduceCtorEq, zJ, zK, zL, zM, zN, zO, zP]
  refine c_loop hl (fun h => hR.lt h) (endsG l) 0 [] .nils H rfl (Nat.zero_le _) (Nat.le_refl _) hR Ext.refl (Nat.le_refl _) Sl.nil fun H1 sv x1 x2 x3 t k1 k2 => ?_
  simp only [go_sem, zA, zB, zC, reduceIte, zD, zE, zF, zG, zH, zI, reduceCtorEq, zJ, zK, zL, zM, zN, zO, zP]
  exact hQ _ _ k1 k2
end
/- Package goboref3: Same. -/
set_option maxRecDepth 8000
section
variable {o : CallF} (ho : OvOnly o)
include ho
omit ho in
theorem g3_loop {a b : List R} {va vb : AV} {ba bb : Nat} (hla : a.length ≤ 1000000) (hlen : a.length = b.length) {H : Heap} (hA : Rd H 2 (rcells a) a.length va ba) (hB : Rd H 2 (rcells b) b.length vb bb) {Q : Ctl → St → Prop} : ∀ (ra rb : List R) (i : Nat), a.drop i = ra → b.drop i = rb → i ≤ a.length →
    (ra = rb → ∀ σ : St, σ.H = H → σ.d = [] → Q (.exit 0) σ) → (ra ≠ rb → ∀ σ : St, σ.H = H → σ.d = [] → lk 4 σ.p = some (.bool false) → Q .ret σ) →
    wpl ⟨bt.get, o⟩ [0, 1, 5] lb_goboref3_Same_0 { p := [(0, va), (1, vb), (5, .int .i64 i)], t := [], H := H, d := [], u := .norm } Q
  | [], rb, i, h1, h2, hi, hT, hF => by
    have : a.length ≤ i := List.drop_eq_nil_iff.1 h1
    have hb : rb = [] := by rw [← h2]; exact List.drop_eq_nil_iff.2 (by omega)
    rw [wpl_step]
    have c1 : ¬((i : Int) < (a.length : Int)) := by omega
    simp only [lb_goboref3_Same_0, go_sem, zA, zB, zC, reduceIte, zD, zE, zF, zG, zH, zI, reduceCtorEq, zJ, zK, zL, zM, zN, zO, zP, hA.len, c1]
    exact hT hb.symm _ rfl rfl
  | x :: ra, [], i, h1, h2, hi, hT, hF => by
    obtain ⟨_, hia, _⟩ := list_at h1
    have : b.length ≤ i := List.drop_eq_nil_iff.1 h2
    omega
  | x :: ra, y :: rb, i, h1, h2, hi, hT, hF => by
    obtain ⟨a0, a1, a2⟩ := list_at h1
    obtain ⟨b0, b1, b2⟩ := list_at h2
    obtain ⟨⟨u, ga⟩, ela, _⟩ := hA.pos (by omega)
    obtain ⟨⟨u', gb⟩, elb, _⟩ := hB.pos (by omega)
    have ea := ela i a1
    have eb := elb i b1
    obtain ⟨p1, p2⟩ := rcells_at a0
    obtain ⟨q1, q2⟩ := rcells_at b0
    rw [wpl_step]
    have c1 : ((i : Int) < (a.length : Int)) := by omega
    have iw := wsucc (show i ≤ 1000000000 by omega)
    by_cases e1 : x.lo = y.lo
    · by_cases e2 : x.hi = y.hi
      · have exy : x = y := by cases x; cases y; simp_all
        subst exy
        simp only [lb_goboref3_Same_0, go_sem, zA, zB, zC, reduceIte, zD, zE, zF, zG, zH, zI, reduceCtorEq, zJ, zK, zL, zM, zN, zO, zP, hA.len, c1, ea, eb, ga, gb, p1, p2, q1, q2, R.cells, eqCells, eqCell, iw]
        exact g3_loop hla hlen hA hB ra rb (i + 1) a2 b2 (by omega) (fun h => hT (by rw [h])) (fun h => hF (by simpa using h))
      · simp only [lb_goboref3_Same_0, go_sem, zA, zB, zC, reduceIte, zD, zE, zF, zG, zH, zI, reduceCtorEq, zJ, zK, zL, zM, zN, zO, zP, hA.len, c1, ea, eb, ga, gb, p1, p2, q1, q2, R.cells, eqCells, eqCell, e1, e2]
        exact hF (by intro h; injection h with h _; rw [h] at e2; exact e2 rfl) _ rfl rfl rfl
    · simp only [lb_goboref3_Same_0, go_sem, zA, zB, zC, reduceIte, zD, zE, zF, zG, zH, zI, reduceCtorEq, zJ, zK, zL, zM, zN, zO, zP, hA.len, c1, ea, eb, ga, gb, p1, p2, q1, q2, R.cells, eqCells, eqCell, e1]
      exact hF (by intro h; injection h with h _; rw [h] at e1; exact e1 rfl) _ rfl rfl rfl
theorem g3_Same {a b : List R} {va vb : AV} {ba bb : Nat} (hla : a.length ≤ 1000000) (hlb : b.length ≤ 1000000) {H : Heap} (hA : Rd H 2 (rcells a) a.length va ba) (hB : Rd H 2 (rcells b) b.length vb bb) {Q : End → Heap → Prop} (h : Q (.ret (.bool (decide (a = b)))) H) : wpf ⟨bt.get, o⟩ F_goboref3_Same [va, vb] H Q := by
  rw [fn_goboref3_Same (ho _ _ _ (by decide))]
  simp only [bd_goboref3_Same, go_sem, zA, zB, zC, reduceIte, zD, zE, zF, zG, zH, zI, reduceCtorEq, zJ, zK, zL, zM, zN, zO, zP, hA.len, hB.len]
  by_cases hl : a.length = b.length
  · have hl' : (a.length : Int) = (b.length : Int) := by omega
    simp only [go_sem, zA, zB, zC, reduceIte, zD, zE, zF, zG, zH, zI, reduceCtorEq, zJ, zK, zL, zM, zN, zO, zP, hl', hA.len]
    refine g3_loop hla hl hA hB a b 0 rfl rfl (Nat.zero_le _) (fun e σ k1 k2 => ?_) (fun e σ k1 k2 k3 => ?_)
    · simp only [go_sem, zA, zB, zC, reduceIte, zD, zE, zF, zG, zH, zI, reduceCtorEq, zJ, zK, zL, zM, zN, zO, zP, k1, k2, lk_up]
      rw [e] at h
      simpa using h
    · simp only [go_sem, zA, zB, zC, reduceIte, zD, zE, zF, zG, zH, zI, reduceCtorEq, zJ, zK, zL, zM, zN, zO, zP, k1, k2, k3]
      simpa [e] using h
  · have hl' : ¬ (a.length : Int) = (b.length : Int) := by omega
    have hne : ¬ a = b := fun e => hl (by rw [e])
    simp only [go_sem, zA, zB, zC, reduceIte, zD, zE, zF, zG, zH, zI, reduceCtorEq, zJ, zK, zL, zM, zN, zO, zP, hl']
    simpa [hne] using h
end
end Go.Ev
