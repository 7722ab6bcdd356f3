/- Several texts of this claim, joined. -/
import Derived.Test.YtibdapopccemeaaGreatDoorT31
import Derived.Test.YtibdapopccemeaaGreatDoorT24
import Derived.Test.YtibdapopccemeaaGreatDoorT28
set_option linter.unusedSimpArgs false
set_option linter.unusedVariables false

/- Expressions, compared; of one rune. -/
namespace Go.Ev
open Go
open Go.Ev renaming seqK_normal → zA, blockK_normal → zB, blockK_exit → zC
open Nat renaming reduceEqDiff → zD, reduceAdd → zE, reduceSub → zF, reduceMul → zG, reduceLeDiff → zH, reduceLT → zI
open Int renaming reduceToNat → zJ, reduceLT → zK, reduceLE → zL, reduceEq → zM, reduceAdd → zN, reduceSub → zO, reduceMul → zP
set_option maxRecDepth 8000
section
variable {o : CallF} (ho : OvOnly o)
include ho
omit ho in
theorem g3_loop {a b : List R} {va vb : AV} {ba bb : Nat} (hla : a.length ≤ 1000000) (hlen : a.length = b.length) {H : Heap} (hA : Rd H 2 (rcells a) a.length va ba) (hB : Rd H 2 (rcells b) b.length vb bb) {Q : Ctl → St → Prop} : ∀ (ra rb : List R) (i : Nat), a.drop i = ra → b.drop i = rb → i ≤ a.length →
    (ra = rb → ∀ σ : St, σ.H = H → σ.d = [] → Q (.exit 0) σ) → (ra ≠ rb → ∀ σ : St, σ.H = H → σ.d = [] → lk 4 σ.p = some (.bool false) → Q .ret σ) →
    wpl ⟨bt.get, o⟩ [0, 1, 5] lb_goboref3_Same_0 { p := [(0, va), (1, vb), (5, .int .i64 i)], t := [], H := H, d := [], u := .norm } Q
  | [], rb, i, h1, h2, hi, hT, hF => by
    have : a.length ≤ i := List.drop_eq_nil_iff.1 h1
    have hb : rb = [] := by rw [← h2]; exact List.drop_eq_nil_iff.2 (by omega)
    rw [wpl_step]
    have c1 : ¬((i : Int) < (a.length : Int)) := by omega
    simp only [lb_goboref3_Same_0, go_sem, zA, zB, zC, reduceIte, zD, zE, zF, zG, zH, zI, reduceCtorEq, zJ, zK, zL, zM, zN, zO, zP, hA.len, c1]
    exact hT hb.symm _ rfl rfl
  | x :: ra, [], i, h1, h2, hi, hT, hF => by
    obtain ⟨_, hia, _⟩ := list_at h1
    have : b.length ≤ i := List.drop_eq_nil_iff.1 h2
    omega
  | x :: ra, y :: rb, i, h1, h2, hi, hT, hF => by
    obtain ⟨a0, a1, a2⟩ := list_at h1
    obtain ⟨b0, b1, b2⟩ := list_at h2
    obtain ⟨⟨u, ga⟩, ela, _⟩ := hA.pos (by omega)
    obtain ⟨⟨u', gb⟩, elb, _⟩ := hB.pos (by omega)
    have ea := ela i a1
    have eb := elb i b1
    obtain ⟨p1, p2⟩ := rcells_at a0
    obtain ⟨q1, q2⟩ := rcells_at b0
    rw [wpl_step]
    have c1 : ((i : Int) < (a.length : Int)) := by omega
    have iw := wsucc (show i ≤ 1000000000 by omega)
    by_cases e1 : x.lo = y.lo
    · by_cases e2 : x.hi = y.hi
      · have exy : x = y := by cases x; cases y; simp_all
        subst exy
        simp only [lb_goboref3_Same_0, go_sem, zA, zB, zC, reduceIte, zD, zE, zF, zG, zH, zI, reduceCtorEq, zJ, zK, zL, zM, zN, zO, zP, hA.len, c1, ea, eb, ga, gb, p1, p2, q1, q2, R.cells, eqCells, eqCell, iw]
        exact g3_loop hla hlen hA hB ra rb (i + 1) a2 b2 (by omega) (fun h => hT (by rw [h])) (fun h => hF (by simpa using h))
      · simp only [lb_goboref3_Same_0, go_sem, zA, zB, zC, reduceIte, zD, zE, zF, zG, zH, zI, reduceCtorEq, zJ, zK, zL, zM, zN, zO, zP, hA.len, c1, ea, eb, ga, gb, p1, p2, q1, q2, R.cells, eqCells, eqCell, e1, e2]
        exact hF (by intro h; injection h with h _; rw [h] at e2; exact e2 rfl) _ rfl rfl rfl
    · simp only [lb_goboref3_Same_0, go_sem, zA, zB, zC, reduceIte, zD, zE, zF, zG, zH, zI, reduceCtorEq, zJ, zK, zL, zM, zN, zO, zP, hA.len, c1, ea, eb, ga, gb, p1, p2, q1, q2, R.cells, eqCells, eqCell, e1]
      exact hF (by intro h; injection h with h _; rw [h] at e1; exact e1 rfl) _ rfl rfl rfl
theorem g3_Same {a b : List R} {va vb : AV} {ba bb : Nat} (hla : a.length ≤ 1000000) (hlb : b.length ≤ 1000000) {H : Heap} (hA : Rd H 2 (rcells a) a.length va ba) (hB : Rd H 2 (rcells b) b.length vb bb) {Q : End → Heap → Prop} (h : Q (.ret (.bool (decide (a = b)))) H) : wpf ⟨bt.get, o⟩ F_goboref3_Same [va, vb] H Q := by
  rw [fn_goboref3_Same (ho _ _ _ (by decide))]
  simp only [bd_goboref3_Same, go_sem, zA, zB, zC, reduceIte, zD, zE, zF, zG, zH, zI, reduceCtorEq, zJ, zK, zL, zM, zN, zO, zP, hA.len, hB.len]
  by_cases hl : a.length = b.length
  · have hl' : (a.length : Int) = (b.length : Int) := by omega
    simp only [go_sem, zA, zB, zC, reduceIte, zD, zE, zF, zG, zH, zI, reduceCtorEq, zJ, zK, zL, zM, zN, zO, zP, hl', hA.len]
    refine g3_loop hla hl hA hB a b 0 rfl rfl (Nat.zero_le _) (fun e σ k1 k2 => ?_) (fun e σ k1 k2 k3 => ?_)
    · simp only [go_sem, zA, zB, zC, reduceIte, zD, zE, zF, zG, zH, zI, reduceCtorEq, zJ, zK, zL, zM, zN, zO, zP, k1, k2, lk_up]
      rw [e] at h
      simpa using h
    · simp only [go_sem, zA, zB, zC, reduceIte, zD, zE, zF, zG, zH, zI, reduceCtorEq, zJ, zK, zL, zM, zN, zO, zP, k1, k2, k3]
      simpa [e] using h
  · have hl' : ¬ (a.length : Int) = (b.length : Int) := by omega
    have hne : ¬ a = b := fun e => hl (by rw [e])
    simp only [go_sem, zA, zB, zC, reduceIte, zD, zE, zF, zG, zH, zI, reduceCtorEq, zJ, zK, zL, zM, zN, zO, zP, hl']
    simpa [hne] using h
omit ho in
/-- The parts, one by one. -/
theorem g6_loop {P P' : Nat → Prop} {ka kb : List Rx} {va vb wa wb : AV} {ba bb b2 b3 : Nat} {xa xb' : Int} {ca cb : List AV} (hlen : ka.length = kb.length) (hl3 : ka.length ≤ 1000)
    (IH : ∀ k ∈ ka, ∀ (y : Rx) (P P' : Nat → Prop) (cx cy : List AV) (H : Heap) (Q : End → Heap → Prop), ReV P H k cx → ReV P' H y cy → (∀ H', Ext H.size H H' → Q (.ret (.bool (sameX k y))) H') → wpf ⟨bt.get, o⟩ F_goboref6_Same [.agg cx, .agg cy] H Q)
    {Q : Ctl → St → Prop} : ∀ (m i : Nat) (H : Heap), i + m = ka.length → Rd H 3 ca ka.length va ba → Rd H 3 cb kb.length vb bb → (∀ (i : Nat) k, ka[i]? = some k → ReV P H k (List.take 3 (List.drop (i * 3) ca)) ∧ i * 3 + 3 ≤ ca.length) → (∀ (i : Nat) k, kb[i]? = some k → ReV P' H k (List.take 3 (List.drop (i * 3) cb)) ∧ i * 3 + 3 ≤ cb.length) →
    H.get b2 = .cells [.int .i64 xa, wa, va] .own → H.get b3 = .cells [.int .i64 xb', wb, vb] .own →
    (((ka.drop i).zip (kb.drop i)).all (fun p => sameX p.1 p.2) = true → ∀ σ : St, Ext H.size H σ.H → σ.d = [] → Q (.exit 0) σ) → (((ka.drop i).zip (kb.drop i)).all (fun p => sameX p.1 p.2) = false → ∀ σ : St, Ext H.size H σ.H → σ.d = [] → lk 4 σ.p = some (.bool false) → Q .ret σ) →
    wpl ⟨bt.get, o⟩ [2, 3, 5] lb_goboref6_Same_0 { p := [(2, .ptr b2 0), (3, .ptr b3 0), (5, .int .i64 i)], t := [], H := H, d := [], u := .norm } Q := by
  intro m
  induction m with
  | zero =>
    intro i H hi hA hB hpa hpb g2 g3 hT hF
    rw [wpl_step]
    have c1 : ¬((i : Int) < (ka.length : Int)) := by omega
    simp only [lb_goboref6_Same_0, go_sem, zA, zB, zC, reduceIte, zD, zE, zF, zG, zH, zI, reduceCtorEq, zJ, zK, zL, zM, zN, zO, zP, g2, hA.len, c1]
    exact hT (by rw [List.drop_eq_nil_of_le (by omega)]; rfl) _ Ext.refl rfl
  | succ m ih =>
    intro i H hi hA hB hpa hpb g2 g3 hT hF
    rw [wpl_step]
    have c1 : ((i : Int) < (ka.length : Int)) := by omega
    have iw := wsucc (show i ≤ 1000000000 by omega)
    obtain ⟨⟨u, ga⟩, ela, _⟩ := hA.pos (by omega)
    obtain ⟨⟨u', gb⟩, elb, _⟩ := hB.pos (by omega)
    have ea := ela i (by omega)
    have eb := elb i (by omega)
    obtain ⟨k, hk⟩ : ∃ k, ka[i]? = some k := ⟨_, List.getElem?_eq_getElem (by omega)⟩
    obtain ⟨k', hk'⟩ : ∃ k, kb[i]? = some k := ⟨_, List.getElem?_eq_getElem (by omega)⟩
    obtain ⟨r1, r2⟩ := hpa i k hk
    obtain ⟨q1, q2⟩ := hpb i k' hk'
    simp only [lb_goboref6_Same_0, go_sem, zA, zB, zC, reduceIte, zD, zE, zF, zG, zH, zI, reduceCtorEq, zJ, zK, zL, zM, zN, zO, zP, g2, g3, hA.len, c1, ea, eb, ga, gb, r2, q2]
    refine IH k (List.mem_of_getElem? hk) k' P P' _ _ H _ r1 q1 fun H1 x1 => ?_
    have d1 : ka.drop i = k :: ka.drop (i + 1) := by rw [List.drop_eq_getElem_cons (by omega)]; congr 1; exact (List.getElem?_eq_some_iff.1 hk).2
    have d2 : kb.drop i = k' :: kb.drop (i + 1) := by rw [List.drop_eq_getElem_cons (by omega)]; congr 1; exact (List.getElem?_eq_some_iff.1 hk').2
    rw [d1, d2, List.zip_cons_cons, List.all_cons] at hT hF
    cases hs : sameX k k' with
    | false =>
      rw [hs] at hF
      simp only [go_sem, zA, zB, zC, reduceIte, zD, zE, zF, zG, zH, zI, reduceCtorEq, zJ, zK, zL, zM, zN, zO, zP]
      exact hF rfl _ x1 rfl rfl
    | true =>
      rw [hs] at hT hF
      simp only [go_sem, zA, zB, zC, reduceIte, zD, zE, zF, zG, zH, zI, reduceCtorEq, zJ, zK, zL, zM, zN, zO, zP, iw]
      exact ih (i + 1) H1 (by omega) (hA.ext x1) (hB.ext x1) (fun i k hk => ⟨(hpa i k hk).1.keep fun b p1 p2 => ⟨x1.2 b p2, p1⟩, (hpa i k hk).2⟩) (fun i k hk => ⟨(hpb i k hk).1.keep fun b p1 p2 => ⟨x1.2 b p2, p1⟩, (hpb i k hk).2⟩) (by rw [x1.2 _ (Heap.lt_of_get (by rw [g2]; simp)), g2]) (by rw [x1.2 _ (Heap.lt_of_get (by rw [g3]; simp)), g3]) (fun h σ e1 => hT (by simpa using h) σ (x1.trans (e1.le x1.1))) (fun h σ e1 => hF (by simpa using h) σ (x1.trans (e1.le x1.1)))
theorem g6_Same : ∀ (x y : Rx) (P P' : Nat → Prop) (cx cy : List AV) (H : Heap) (Q : End → Heap → Prop), ReV P H x cx → ReV P' H y cy → (∀ H', Ext H.size H H' → Q (.ret (.bool (sameX x y))) H') → wpf ⟨bt.get, o⟩ F_goboref6_Same [.agg cx, .agg cy] H Q := by
  have main : ∀ (x : Rx), (∀ k ∈ kidsX x, ∀ (y : Rx) (P P' : Nat → Prop) (cx cy : List AV) (H : Heap) (Q : End → Heap → Prop), ReV P H k cx → ReV P' H y cy → (∀ H', Ext H.size H H' → Q (.ret (.bool (sameX k y))) H') → wpf ⟨bt.get, o⟩ F_goboref6_Same [.agg cx, .agg cy] H Q) →
      ∀ (y : Rx) (P P' : Nat → Prop) (cx cy : List AV) (H : Heap) (Q : End → Heap → Prop), ReV P H x cx → ReV P' H y cy → (∀ H', Ext H.size H H' → Q (.ret (.bool (sameX x y))) H') → wpf ⟨bt.get, o⟩ F_goboref6_Same [.agg cx, .agg cy] H Q := by
    intro x IH y P P' cx cy H Q hx hy h
    rw [fn_goboref6_Same (ho _ _ _ (by decide))]
    obtain ⟨vs, bs, vl, bl, ck, e1, s1, s2, l1, l2⟩ := hx.split
    obtain ⟨ws, bs', wl, bl', ck', f1, t1, t2, m1, m2⟩ := hy.split
    subst e1 f1
    have x2 : Ext H.size H ((H.push (.cells [.int .i64 (kindX x), vs, vl] .own)).push (.cells [.int .i64 (kindX y), ws, wl] .own)) := (Ext.push (Nat.le_refl _)).trans (Ext.push (by rw [Heap.size_push]; omega))
    have g2 : ((H.push (.cells [.int .i64 (kindX x), vs, vl] .own)).push (.cells [.int .i64 (kindX y), ws, wl] .own)).get H.size = .cells [.int .i64 (kindX x), vs, vl] .own := by rw [Heap.get_push_lt (by rw [Heap.size_push]; omega), Heap.get_push_self]
    have g3 : ((H.push (.cells [.int .i64 (kindX x), vs, vl] .own)).push (.cells [.int .i64 (kindX y), ws, wl] .own)).get (H.size + 1) = .cells [.int .i64 (kindX y), ws, wl] .own := by rw [Heap.get_push_eq (by rw [Heap.size_push])]
    simp only [bd_goboref6_Same, go_sem, zA, zB, zC, reduceIte, zD, zE, zF, zG, zH, zI, reduceCtorEq, zJ, zK, zL, zM, zN, zO, zP, s1.one.1, s1.one.2, l1.one.1, l1.one.2, t1.one.1, t1.one.2, m1.one.1, m1.one.2]
    generalize (H.push (.cells [.int .i64 (kindX x), vs, vl] .own)).push (.cells [.int .i64 (kindX y), ws, wl] .own) = H2 at x2 g2 g3 ⊢
    by_cases hk : kindX x = kindX y
    · have hkl := kids_len hk
      have hkl' : ((kidsX x).length : Int) = ((kidsX y).length : Int) := by omega
      have hk3 : (kidsX y).length ≤ 1000 := by cases y <;> simp [kidsX]
      simp only [go_sem, zA, zB, zC, reduceIte, zD, zE, zF, zG, zH, zI, reduceCtorEq, zJ, zK, zL, zM, zN, zO, zP, g2, g3, hk, l1.len, m1.len, hkl']
      refine g3_Same ho s2 t2 (s1.ext x2) (t1.ext x2) ?_
      by_cases hs : setsX x = setsX y
      · simp only [go_sem, zA, zB, zC, reduceIte, zD, zE, zF, zG, zH, zI, reduceCtorEq, zJ, zK, zL, zM, zN, zO, zP, hs]
        refine g6_loop (ka := kidsX x) (kb := kidsX y) hkl (by omega) IH (kidsX x).length 0 H2 (by omega) (l1.ext x2) (m1.ext x2) (fun i k hk => ⟨(l2 i k hk).1.keep fun b p1 p2 => ⟨x2.2 b p2, p1⟩, (l2 i k hk).2⟩) (fun i k hk => ⟨(m2 i k hk).1.keep fun b p1 p2 => ⟨x2.2 b p2, p1⟩, (m2 i k hk).2⟩) g2 g3 (fun e σ k1 k2 => ?_) (fun e σ k1 k2 k3 => ?_)
        · simp only [go_sem, zA, zB, zC, reduceIte, zD, zE, zF, zG, zH, zI, reduceCtorEq, zJ, zK, zL, zM, zN, zO, zP, k2, lk_up]
          have := h σ.H (x2.trans (k1.le x2.1))
          rw [sameX_kids, hk, hs] at this
          rw [List.drop_zero, List.drop_zero] at e
          rw [e] at this
          simpa using this
        · simp only [go_sem, zA, zB, zC, reduceIte, zD, zE, zF, zG, zH, zI, reduceCtorEq, zJ, zK, zL, zM, zN, zO, zP, k2, k3]
          have := h σ.H (x2.trans (k1.le x2.1))
          rw [sameX_kids, hk, hs] at this
          rw [List.drop_zero, List.drop_zero] at e
          rw [e] at this
          simpa using this
      · simp only [go_sem, zA, zB, zC, reduceIte, zD, zE, zF, zG, zH, zI, reduceCtorEq, zJ, zK, zL, zM, zN, zO, zP, hs]
        have := h H2 x2
        rw [sameX_kids] at this
        simpa [hs] using this
    · simp only [go_sem, zA, zB, zC, reduceIte, zD, zE, zF, zG, zH, zI, reduceCtorEq, zJ, zK, zL, zM, zN, zO, zP, g2, g3, hk]
      have := h H2 x2
      rw [sameX_kids] at this
      simpa [hk] using this
  intro x
  induction x with
  | emp => exact main .emp (fun k hk => by simp [kidsX] at hk)
  | set l => exact main (.set l) (fun k hk => by simp [kidsX] at hk)
  | seq a b iha ihb => exact main (.seq a b) (fun k hk => by simp [kidsX] at hk; rcases hk with rfl | rfl; exact iha; exact ihb)
  | alt a b iha ihb => exact main (.alt a b) (fun k hk => by simp [kidsX] at hk; rcases hk with rfl | rfl; exact iha; exact ihb)
  | star a iha => exact main (.star a) (fun k hk => by simp [kidsX] at hk; subst hk; exact iha)
theorem g_One {r : Int} {H : Heap} {Q : End → Heap → Prop} (h : ∀ H' cs, Ext H.size H H' → ReV (fun b => H.size ≤ b) H' (.set [⟨r, r⟩]) cs → Q (.ret (.agg cs)) H') : wpf ⟨bt.get, o⟩ F_gobolaw6_One [.int .i32 r] H Q := by
  rw [fn_gobolaw6_One (ho _ _ _ (by decide))]
  have l0 : H.size < ((H.push (.cells [.int .i64 0, .nils, .nils] .own)).push (.cells [.int .i32 r, .int .i32 r] .own)).size := by rw [Heap.size_push, Heap.size_push]; omega
  have g0 : ((H.push (.cells [.int .i64 0, .nils, .nils] .own)).push (.cells [.int .i32 r, .int .i32 r] .own)).get H.size = .cells [.int .i64 0, .nils, .nils] .own := by rw [Heap.get_push_lt (by rw [Heap.size_push]; omega), Heap.get_push_self]
  simp only [bd_gobolaw6_One, go_sem, zA, zB, zC, reduceIte, zD, zE, zF, zG, zH, zI, reduceCtorEq, zJ, zK, zL, zM, zN, zO, zP, g0, Heap.get_set_self l0]
  refine h _ _ (((Ext.push (Nat.le_refl _)).trans (Ext.push (by rw [Heap.size_push]; omega))).trans (Ext.set (Nat.le_refl _))) ⟨_, H.size + 1, rfl, Rd.slice (u := .own) ?_ rfl, fun _ => by omega, by simp⟩
  rw [Heap.get_set_ne (by omega), Heap.get_push_eq (by rw [Heap.size_push])]; rfl
end
/- Package goboref3: what is picked; the normal form. -/
set_option maxRecDepth 8000
theorem rngF_app (l m : List S) : rngF (l ++ m) = rngF l ++ rngF m := List.map_append
theorem rngF_len (l : List S) : (rngF l).length = l.length := List.length_map _
theorem set_hi {C : List AV} {n : Nat} {a b d : AV} (h : C.length = n * 2) : (C ++ [a, b]).set (n * 2 + 1) d = C ++ [a, d] := by
  rw [List.set_append_right _ _ (by omega), h, show n * 2 + 1 - n * 2 = 1 by omega]; rfl
theorem sc_one : ∀ l : List S, (scells l).all AV.one = true
  | [] => rfl
  | x :: l => by rw [scells, List.flatMap_cons, List.all_append, ← scells, sc_one l]; rfl
/-- What is picked by now: whole spans, and one that is open. -/
def outG (acc : List S) (st : Option Nat) (x : Nat) : List S := match st with
  | none => acc
  | some s => acc ++ [(s, x)]
theorem rc_last (acc : List S) (s x : Nat) : rcells (rngF (acc ++ [(s, x)])) = rcells (rngF acc) ++ [.int .i32 (valN s : Int), .int .i32 (valN (x - 1) : Int)] := by
  rw [rngF_app, rcells_app]; rfl
section
variable {o : CallF} (ho : OvOnly o)
include ho
theorem p_loop {a : List S} {av cv : AV} {ab cb : Nat} {cs : List Nat} {how : Int} {is : Nat → Bool} (hla : a.length ≤ 1000000) (hlc : cs.length ≤ 1000000) (his : (how = 1 ∧ ∀ n, is n = inG a n) ∨ (how = 5 ∧ ∀ n, is n = !inG a n))
    (hcs : cs.Pairwise (· < ·)) (hcm : ∀ c ∈ cs, c ≤ 1112064) {n0 : Nat} (hab : 0 < a.length → ab < n0) (hcb : 0 < cs.length → cb < n0) {H0 : Heap} {Q : Ctl → St → Prop} : ∀ (r : List Nat) (x i : Nat) (acc : List S) (st : Option Nat) (ov : AV) (H : Heap), cs.drop i = x :: r → acc.length ≤ i → Rd H 2 (scells a) a.length av ab → Rd H 1 (ncells cs) cs.length cv cb → Ext n0 H0 H → n0 ≤ H.size → Sl n0 H 2 (rcells (rngF (outG acc st x))) (outG acc st x).length ov →
    (∀ (H' : Heap) (ov' : AV) x1 x2 x3 x4 x5 x6 x7 t, Ext n0 H0 H' → Sl n0 H' 2 (rcells (rngF (acc ++ runsF is (x :: r) st))) (acc ++ runsF is (x :: r) st).length ov' → Q (.exit 0) { p := [(0, x1), (1, x2), (2, x3), (8, x4), (9, ov'), (10, x5), (11, x6), (27, x7)], t := t, H := H', d := [], u := .norm }) →
    wpl ⟨bt.get, o⟩ [0, 1, 2, 8, 9, 10, 11] lb_goboref3_pick_0 { p := [(0, av), (1, .nils), (2, .int .i64 how), (8, cv), (9, ov), (10, .bool st.isSome), (11, .int .i64 (i : Int))], t := [], H := H, d := [], u := .norm } Q
  | [], x, i, acc, st, ov, H, hd, hi, hA, hC, hx, hn, hS, hQ => by
    obtain ⟨_, h1, h2⟩ := list_at hd
    have : cs.length ≤ i + 1 := List.drop_eq_nil_iff.1 h2
    rw [wpl_step]
    have iw := wsucc (show i ≤ 1000000000 by omega)
    have c1 : ¬(((i + 1 : Nat) : Int) < (cs.length : Int)) := by omega
    simp only [lb_goboref3_pick_0, go_sem, zA, zB, zC, reduceIte, zD, zE, zF, zG, zH, zI, reduceCtorEq, zJ, zK, zL, zM, zN, zO, zP, hC.len, iw, c1]
    refine hQ H ov _ _ _ _ _ _ _ _ hx ?_
    cases st with
    | none => simpa [runsF, outG] using hS
    | some s => simpa [runsF, outG] using hS
  | y :: r, x, i, acc, st, ov, H, hd, hi, hA, hC, hx, hn, hS, hQ => by
    obtain ⟨h0, h1, h2⟩ := list_at hd
    obtain ⟨g0, g1, g2⟩ := list_at h2
    have hxy : x < y := by
      have := List.pairwise_iff_getElem.1 hcs i (i + 1) h1 g1 (by omega)
      rw [(List.getElem?_eq_some_iff.1 h0).2, (List.getElem?_eq_some_iff.1 g0).2] at this
      exact this
    have hxm := hcm x (List.mem_of_getElem? h0)
    have hym := hcm y (List.mem_of_getElem? g0)
    obtain ⟨⟨u, hg⟩, hel, _⟩ := hC.pos (by omega)
    have el := hel i h1
    have el' := hel (i + 1) g1
    rw [Nat.mul_one] at el el'
    have cx := ncells_at h0
    have cy := ncells_at g0
    have iw := wsucc (show i ≤ 1000000000 by omega)
    have c1 : (((i + 1 : Nat) : Int) < (cs.length : Int)) := by omega
    have wy := wpred (n := y) (by omega) (by omega)
    rw [wpl_step]
    simp only [lb_goboref3_pick_0, go_sem, zA, zB, zC, reduceIte, zD, zE, zF, zG, zH, zI, reduceCtorEq, zJ, zK, zL, zM, zN, zO, zP, hC.len, iw, c1, el, hg, cx]
    refine g_in ho hla hA ?_
    simp only [go_sem, zA, zB, zC, reduceIte, zD, zE, zF, zG, zH, zI, reduceCtorEq, zJ, zK, zL, zM, zN, zO, zP, el, hg, cx, AV.beq_self]
    refine g_in ho (l := []) (by simp) (Rd.nil (b := 0)) ?_
    have hin0 : inG [] x = false := rfl
    have his0 := his
    have len0 : (rcells (rngF acc)).length = acc.length * 2 := by rw [rcells_len, rngF_len]
    -- what the loop goes on with, when the place is not in
    have goF : is x = false → wpl ⟨bt.get, o⟩ [0, 1, 2, 8, 9, 10, 11] lb_goboref3_pick_0 { p := [(0, av), (1, .nils), (2, .int .i64 how), (8, cv), (9, ov), (10, .bool false), (11, .int .i64 ((i + 1 : Nat) : Int))], t := [], H := H, d := [], u := .norm } Q := fun hb => by
      have hb' : ¬ is x = true := by rw [hb]; decide
      cases st with
      | none =>
        refine p_loop hla hlc his0 hcs hcm hab hcb r y (i + 1) acc none ov H h2 (by omega) hA hC hx hn hS ?_
        simpa only [runsF, if_neg hb'] using hQ
      | some s =>
        refine p_loop hla hlc his0 hcs hcm hab hcb r y (i + 1) (acc ++ [(s, x)]) none ov H h2 (by simp only [List.length_append, List.length_cons, List.length_nil]; omega) hA hC hx hn hS ?_
        simp only [runsF, if_neg hb'] at hQ
        simpa only [List.append_assoc, List.cons_append, List.nil_append] using hQ
    -- and when it is in
    have goT : is x = true → ∀ (H' : Heap) (ob : Nat) (s : Nat), (st = none → s = x) → (∀ s', st = some s' → s = s') → Ext n0 H H' → n0 ≤ ob → H'.get ob = .cells (rcells (rngF (acc ++ [(s, y)]))) .own →
        wpl ⟨bt.get, o⟩ [0, 1, 2, 8, 9, 10, 11] lb_goboref3_pick_0 { p := [(0, av), (1, .nils), (2, .int .i64 how), (8, cv), (9, .osl 2 ob 0 (acc.length + 1)), (10, .bool true), (11, .int .i64 ((i + 1 : Nat) : Int))], t := [], H := H', d := [], u := .norm } Q := fun hb H' ob s e1 e2 xH hob hgo => by
      refine p_loop hla hlc his0 hcs hcm hab hcb r y (i + 1) acc (some s) _ H' h2 (by omega) (hA.keep fun h => xH.2 _ (hab h)) (hC.keep fun h => xH.2 _ (hcb h)) (hx.trans xH) (Nat.le_trans hn xH.1) ?_ ?_
      · refine .inr ⟨ob, by simp [outG], hob, hgo, by rw [rcells_len, rngF_len], by simp [outG]⟩
      · cases st with
        | none => rw [e1 rfl]; simpa only [runsF, if_pos hb] using hQ
        | some s' => rw [e2 s' rfl]; simpa only [runsF, if_pos hb] using hQ
    have wn : IntKind.i64.wrap (((acc.length + 1 : Nat) : Int) - 1) = (acc.length : Int) := by
      have := wpred (n := acc.length + 1) (by omega) (by omega)
      rwa [Nat.add_sub_cancel] at this
    have n1 : ((acc.length : Nat) : Int) < ((acc.length + 1 : Nat) : Int) := by omega
    have n2 : (0 : Int) ≤ ((acc.length : Nat) : Int) := by omega
    rcases his with ⟨rfl, his⟩ | ⟨rfl, his⟩ <;> cases hin : inG a x <;> have hb := his x <;> rw [hin] at hb
    case inl.false => 
      simp only [go_sem, zA, zB, zC, reduceIte, zD, zE, zF, zG, zH, zI, reduceCtorEq, zJ, zK, zL, zM, zN, zO, zP, hin0, iw]
      exact goF hb
    case inr.true =>
      simp only [go_sem, zA, zB, zC, reduceIte, zD, zE, zF, zG, zH, zI, reduceCtorEq, zJ, zK, zL, zM, zN, zO, zP, hin0, iw]
      exact goF hb
    all_goals
      cases st with
      | none =>
        simp only [outG] at hS
        obtain ⟨ob, H', ea, hx1, hsl⟩ := append_spec (bytes := 8) (ys := [.int .i32 (valN x : Int), .int .i32 0]) (k := 1) (Sl.push (x := .cells [.int .i32 (valN x : Int), .int .i32 0] .own) hS) (by rw [Heap.size_push]; omega) (by omega) rfl (by omega) (by omega)
        have hx2 : Ext n0 H H' := (Ext.push hn).trans hx1
        rcases hsl with ⟨h, _⟩ | ⟨ob', h, hob, hgo, hlo, _⟩
        · cases h
        · injection h with _ h; subst h
          have hlt : ob < H'.size := Heap.lt_of_get (by rw [hgo]; simp)
          have hg' : H'.get cb = .cells (ncells cs) u := by rw [hx2.2 cb (hcb (by omega)), hg]
          simp only [go_sem, zA, zB, zC, reduceIte, zD, zE, zF, zG, zH, zI, reduceCtorEq, zJ, zK, zL, zM, zN, zO, zP, hin0, Option.isSome, el, hg, cx]
          refine g_at ho hxm ?_
          simp only [go_sem, zA, zB, zC, reduceIte, zD, zE, zF, zG, zH, zI, reduceCtorEq, zJ, zK, zL, zM, zN, zO, zP, ea, wn, n1, n2, iw, el', hg', cy, wy]
          refine g_at ho (by omega) ?_
          simp only [go_sem, zA, zB, zC, reduceIte, zD, zE, zF, zG, zH, zI, reduceCtorEq, zJ, zK, zL, zM, zN, zO, zP, hgo, elA, n1, n2, Nat.zero_add, iw]
          refine ⟨by rw [List.length_append, len0]; simp, goT hb _ ob x (fun _ => rfl) (fun s' h => by cases h) (hx2.trans (Ext.set hob)) hob ?_⟩
          rw [Heap.get_set_self hlt, set_hi len0, rc_last]
      | some s =>
        rcases hS with ⟨_, h, _⟩ | ⟨ob, rfl, hob, hgo, hlo, _⟩
        · simp [outG] at h
        · simp only [outG, List.length_append, List.length_cons, List.length_nil, Nat.zero_add] at hgo hlo ⊢
          have hlt : ob < H.size := Heap.lt_of_get (by rw [hgo]; simp)
          simp only [go_sem, zA, zB, zC, reduceIte, zD, zE, zF, zG, zH, zI, reduceCtorEq, zJ, zK, zL, zM, zN, zO, zP, hin0, Option.isSome, wn, n1, n2, iw, el', hg, cy, wy]
          refine g_at ho (by omega) ?_
          simp only [go_sem, zA, zB, zC, reduceIte, zD, zE, zF, zG, zH, zI, reduceCtorEq, zJ, zK, zL, zM, zN, zO, zP, hgo, elA, n1, n2, Nat.zero_add, iw]
          refine ⟨by rw [rc_last, List.length_append, len0]; simp, goT hb _ ob s (fun h => by cases h) (fun s' h => by injection h) (Ext.set hob) hob ?_⟩
          rw [Heap.get_set_self hlt, rc_last, set_hi len0, rc_last]
/-- What is in, or is not in. -/
theorem g_pick {a : List S} {av : AV} {ab : Nat} {how : Int} {is : Nat → Bool} (hla : a.length ≤ 50000) (his : (how = 1 ∧ ∀ n, is n = inG a n) ∨ (how = 5 ∧ ∀ n, is n = !inG a n)) (ham : ∀ x ∈ a, x.1 < x.2 ∧ x.2 ≤ mostN)
    {H : Heap} (hA : Rd H 2 (scells a) a.length av ab) {Q : End → Heap → Prop} (hQ : ∀ H' v', Ext H.size H H' → Sl H.size H' 2 (rcells (rngF (pickG a is))) (rngF (pickG a is)).length v' → Q (.ret v') H') : wpf ⟨bt.get, o⟩ F_goboref3_pick [av, .nils, .int .i64 how] H Q := by
  rw [fn_goboref3_pick (ho _ _ _ (by decide))]
  have hab : 0 < a.length → ab < H.size := fun h => hA.lt h
  have x1 : Ext H.size H (H.push (.cells [.int .i64 0, .int .i64 1112064] .own)) := Ext.push (Nat.le_refl _)
  have G1 : Gs H.size (H.push (.cells [.int .i64 0, .int .i64 1112064] .own)) 2 [.int .i64 0, .int .i64 1112064] 1 (.slice H.size 0 1 1) := .inr ⟨H.size, Nat.le_refl _, Heap.get_push_self, rfl, .inr rfl⟩
  obtain ⟨v1, H2, e1, x2, G2, _, _, _⟩ := gs_append (bytes := 16) (ys := scells a) (k := a.length) G1 (by rw [Heap.size_push]; omega) (scells_len a) (by omega) (by omega)
  have x12 := x1.trans x2
  have hr := (hA.ext x1).read
  have sc1 := sc_one a
  have e2 : appendA H2 2 16 v1 0 [] = some (v1, H2) := by
    obtain ⟨v2, H3, k1, _, _, _, k2, _⟩ := gs_append (bytes := 16) (ys := []) (k := 0) G2 x12.1 rfl (by omega) (by omega)
    rcases G2 with ⟨rfl, _⟩ | ⟨b, _, _, _, rfl | rfl⟩
    · rfl
    · rfl
    · simp [appendA]
  simp only [bd_goboref3_pick, go_sem, zA, zB, zC, reduceIte, zD, zE, zF, zG, zH, zI, reduceCtorEq, zJ, zK, zL, zM, zN, zO, zP, hr, sc1, e1, e2]
  obtain ⟨b1, hR1⟩ := G2.rd
  have sz2 := x12.1
  refine g_cuts ho (l := (0, mostN) :: a) (v := v1) (rb := b1) (by rw [List.length_cons]; omega) (by rw [List.length_cons, Nat.add_comm a.length 1]; exact hR1) fun H3 cv x3 s3 => ?_
  obtain ⟨q1, q2, q3⟩ := cuts_spec ((0, mostN) :: a)
  have hcm : ∀ c ∈ cutsG ((0, mostN) :: a), c ≤ 1112064 := fun c hc => by
    obtain ⟨x, hx, hh⟩ := ends_mem.1 ((q2 c).1 hc)
    rcases List.mem_cons.1 hx with rfl | hx
    · simp only [mostN] at hh; omega
    · have := ham x hx; unfold mostN at this; omega
  have m0 : 0 ∈ cutsG ((0, mostN) :: a) := (q2 0).2 (ends_mem.2 ⟨(0, mostN), by simp, .inl rfl⟩)
  have hpk : pickG a is = runsF is (cutsG ((0, mostN) :: a)) none := rfl
  obtain ⟨x, r, hcs⟩ : ∃ x r, cutsG ((0, mostN) :: a) = x :: r := by
    cases h : cutsG ((0, mostN) :: a) with
    | nil => rw [h] at m0; cases m0
    | cons x r => exact ⟨x, r, rfl⟩
  obtain ⟨cb, hC, _⟩ := s3.rd
  have x13 := x12.trans (x3.le sz2)
  have sz3 := x13.1
  simp only [go_sem, zA, zB, zC, reduceIte, zD, zE, zF, zG, zH, zI, reduceCtorEq, zJ, zK, zL, zM, zN, zO, zP]
  rw [List.length_cons] at q3
  refine p_loop ho (a := a) (cs := cutsG ((0, mostN) :: a)) (n0 := H3.size) (by omega) (by omega) his q1 hcm (fun h => by have := hab h; omega) (fun h => hC.lt h) (H0 := H3) r x 0 [] none .nils H3 (by rw [List.drop_zero]; exact hcs) (Nat.le_refl _) (hA.keep fun h => x13.2 _ (hab h)) hC Ext.refl (Nat.le_refl _) Sl.nil fun H4 ov' y1 y2 y3 y4 y5 y6 y7 t k1 k2 => ?_
  simp only [go_sem, zA, zB, zC, reduceIte, zD, zE, zF, zG, zH, zI, reduceCtorEq, zJ, zK, zL, zM, zN, zO, zP]
  rw [List.nil_append, ← hcs] at k2
  exact hQ _ _ (x13.trans (k1.le sz3)) (by rw [rngF_len, hpk]; exact k2.frame' sz3)
theorem g_Norm {l : List R} {v : AV} {rb : Nat} (hl : l.length ≤ 50000) (hr : ∀ r ∈ l, I32 r.lo ∧ I32 r.hi) {H : Heap} (hR : Rd H 2 (rcells l) l.length v rb) {Q : End → Heap → Prop}
    (hQ : ∀ H' v', Ext H.size H H' → Sl H.size H' 2 (rcells (normF l)) (normF l).length v' → Q (.ret v') H') : wpf ⟨bt.get, o⟩ F_goboref3_Norm [v] H Q := by
  rw [fn_goboref3_Norm (ho _ _ _ (by decide))]
  simp only [bd_goboref3_Norm, go_sem, zA, zB, zC, reduceIte, zD, zE, zF, zG, zH, zI, reduceCtorEq, zJ, zK, zL, zM, zN, zO, zP]
  refine g_cells ho (by omega) hr hR fun H1 v1 k1 k2 => ?_
  obtain ⟨b, hR1, _⟩ := k2.rd
  simp only [go_sem, zA, zB, zC, reduceIte, zD, zE, zF, zG, zH, zI, reduceCtorEq, zJ, zK, zL, zM, zN, zO, zP]
  have hpl : (preL l).length ≤ l.length := List.length_filterMap_le _ _
  refine g_pick ho (is := inG (preL l)) (by omega) (.inl ⟨rfl, fun _ => rfl⟩) preL_most hR1 fun H2 v2 k3 k4 => ?_
  rw [pick_norm] at k4
  simp only [go_sem, zA, zB, zC, reduceIte, zD, zE, zF, zG, zH, zI, reduceCtorEq, zJ, zK, zL, zM, zN, zO, zP]
  exact hQ _ _ (k1.trans (k3.le k1.1)) (k4.frame' k1.1)
theorem g_May {l : List R} {v : AV} {rb : Nat} (hl : l.length ≤ 50000) (hr : ∀ r ∈ l, I32 r.lo ∧ I32 r.hi) {H : Heap} (hR : Rd H 2 (rcells l) l.length v rb) {Q : End → Heap → Prop}
    (hQ : ∀ H', Ext H.size H H' → Q (.ret (.bool (decide (l = normF l)))) H') : wpf ⟨bt.get, o⟩ F_goboref3_May [v] H Q := by
  rw [fn_goboref3_May (ho _ _ _ (by decide))]
  simp only [bd_goboref3_May, go_sem, zA, zB, zC, reduceIte, zD, zE, zF, zG, zH, zI, reduceCtorEq, zJ, zK, zL, zM, zN, zO, zP]
  refine g_Norm ho hl hr hR fun H1 v1 k1 k2 => ?_
  obtain ⟨b, hR1, _⟩ := k2.rd
  have hnl : (normF l).length ≤ l.length := by rw [normF, rngF_len]; exact (spansF_bd l).1
  simp only [go_sem, zA, zB, zC, reduceIte, zD, zE, zF, zG, zH, zI, reduceCtorEq, zJ, zK, zL, zM, zN, zO, zP]
  refine g3_Same ho (by omega) (by omega) (hR.ext k1) hR1 ?_
  simp only [go_sem, zA, zB, zC, reduceIte, zD, zE, zF, zG, zH, zI, reduceCtorEq, zJ, zK, zL, zM, zN, zO, zP]
  exact hQ _ k1
end
/- Texts of ASCII signs alone: their runes. -/
def asc : Nat → List UInt8 → List It
  | _, [] => []
  | i, c :: r => ⟨c.toNat, i, i + 1, false, false⟩ :: asc (i + 1) r
theorem feed_asc : ∀ (r : List UInt8) (i : Nat), (∀ c ∈ r, c.toNat < 128) → feedD r [] i = ([], i + r.length, asc i r)
  | [], i, _ => rfl
  | c :: r, i, h => by
    have hc := h c (by simp)
    have h1 : longB c = 1 := by simp only [longB, longN, if_pos hc]
    have hk : okB [] c = true := by simp [okB, h1]
    have ht : takeB [] c i = ([], i + 1, [⟨c.toNat, i, i + 1, false, false⟩]) := by
      simp only [takeB, hk, if_true, afterM, List.nil_append, headB, List.headD_cons, h1, List.length_cons, List.length_nil, decR]
    simp only [feedD, ht, feed_asc r (i + 1) (fun x hx => h x (by simp [hx])), asc, List.length_cons, List.cons_append, List.nil_append]
    congr 2; omega
theorem dec_asc {s : List UInt8} (h : ∀ c ∈ s, c.toNat < 128) : decAll s = asc 0 s := by
  unfold decAll
  rw [feed_asc s 0 h]
  simp [closeD]
theorem asc_get : ∀ (s : List UInt8) (i k : Nat), (asc i s)[k]? = (s[k]?).map fun c => ⟨c.toNat, i + k, i + k + 1, false, false⟩
  | [], _, _ => by simp [asc]
  | c :: r, i, 0 => rfl
  | c :: r, i, k + 1 => by
    rw [asc, List.getElem?_cons_succ, asc_get r (i + 1) k, List.getElem?_cons_succ, show i + 1 + k = i + (k + 1) by omega]
theorem asc_len : ∀ (s : List UInt8) (i : Nat), (asc i s).length = s.length
  | [], _ => rfl
  | c :: r, i => by rw [asc, List.length_cons, asc_len r, List.length_cons]
/-- The rune at a place of such a text. -/
def chrR (s : List UInt8) (k : Nat) : Int := match s[k]? with
  | some c => (c.toNat : Int)
  | none => -1
theorem peek_ascR {s : List UInt8} {k : Nat} : peekR (asc 0 s) k = chrR s k := by
  unfold peekR chrR
  rw [asc_get]
  cases s[k]? <;> rfl
theorem at_ascR {s : List UInt8} {k : Nat} (h : k ≤ s.length) : atR (asc 0 s) s.length k = k := by
  unfold atR
  rw [asc_get]
  cases hk : s[k]? with
  | none => have := List.getElem?_eq_none_iff.1 hk; simp only [Option.map_none]; omega
  | some c => simp only [Option.map_some]; omega
end Go.Ev
