/- Several texts of this claim, joined. -/
import Derived.Test.YtifhmogcdgfojaaGreatDoorT32
import Derived.Test.YtifhmogcdgfojaaGreatDoorT33
set_option linter.unusedSimpArgs false
set_option linter.unusedVariables false

/- Package regex: an expression that may be. -/
namespace Go.Ev
open Go
open Go.Ev renaming seqK_normal → zA, blockK_normal → zB, blockK_exit → zC
open Nat renaming reduceEqDiff → zD, reduceAdd → zE, reduceSub → zF, reduceMul → zG, reduceLeDiff → zH, reduceLT → zI
open Int renaming reduceToNat → zJ, reduceLT → zK, reduceLE → zL, reduceEq → zM, reduceAdd → zN, reduceSub → zO, reduceMul → zP
set_option maxRecDepth 8000
section
variable {o : CallF} (ho : OvOnly o)
include ho
omit ho in
/-- None of the parts is what is asked for. -/
theorem ix_loop {ks : List Rx} {vl : AV} {bl : Nat} {ck : List AV} {f : FuncId} {cap : List AV} (hl : ks.length ≤ 1000) (J : Nat → Heap → Prop) (hJ : ∀ i H, J i H → Rd H 3 ck ks.length vl bl) (hc : ∀ i, i < ks.length → i * 3 + 3 ≤ ck.length)
    (hf : ∀ (i : Nat) (H : Heap) (Q : End → Heap → Prop), i < ks.length → J i H → (∀ H', J (i + 1) H' → Q (.ret (.bool false)) H') → wpf ⟨bt.get, o⟩ f (.agg (List.take 3 (List.drop (i * 3) ck)) :: cap) H Q)
    {Q : Ctl → St → Prop} : ∀ (m i : Nat) (H : Heap), i + m = ks.length → J i H → (∀ H' y1 y2 y3 y4 y5 t, J ks.length H' → Q (.exit 0) { p := [(0, y1), (1, y2), (7, y3), (8, y4), (9, y5)], t := t, H := H', d := [], u := .norm }) →
    wpl ⟨bt.get, o⟩ [0, 1, 7, 8] lb_slices_IndexFunc_api_Re_api_Re_0 { p := [(0, vl), (1, .fn f cap), (7, .int .i64 (ks.length : Int)), (8, .int .i64 (i : Int))], t := [], H := H, d := [], u := .norm } Q := by
  intro m
  induction m with
  | zero =>
    intro i H hi hj hQ
    rw [wpl_step]
    have c1 : ¬((i : Int) < (ks.length : Int)) := by omega
    simp only [lb_slices_IndexFunc_api_Re_api_Re_0, go_sem, zA, zB, zC, reduceIte, zD, zE, zF, zG, zH, zI, reduceCtorEq, zJ, zK, zL, zM, zN, zO, zP, c1]
    have : i = ks.length := by omega
    subst this
    exact hQ _ _ _ _ _ _ _ hj
  | succ m ih =>
    intro i H hi hj hQ
    rw [wpl_step]
    have c1 : ((i : Int) < (ks.length : Int)) := by omega
    have iw := wsucc (show i ≤ 1000000000 by omega)
    have hA := hJ i H hj
    obtain ⟨⟨u, ga⟩, ela, _⟩ := hA.pos (by omega)
    have ea := ela i (by omega)
    have hb := hc i (by omega)
    simp only [lb_slices_IndexFunc_api_Re_api_Re_0, go_sem, zA, zB, zC, reduceIte, zD, zE, zF, zG, zH, zI, reduceCtorEq, zJ, zK, zL, zM, zN, zO, zP, c1, ea, ga, hb]
    refine hf i H _ (by omega) hj fun H1 j1 => ?_
    simp only [go_sem, zA, zB, zC, reduceIte, zD, zE, zF, zG, zH, zI, reduceCtorEq, zJ, zK, zL, zM, zN, zO, zP, iw]
    exact ih (i + 1) H1 (by omega) j1 hQ
theorem ix_none {ks : List Rx} {vl : AV} {bl : Nat} {ck : List AV} {f : FuncId} {cap : List AV} (hl : ks.length ≤ 1000) (J : Nat → Heap → Prop) (hJ : ∀ i H, J i H → Rd H 3 ck ks.length vl bl) (hc : ∀ i, i < ks.length → i * 3 + 3 ≤ ck.length)
    (hf : ∀ (i : Nat) (H : Heap) (Q : End → Heap → Prop), i < ks.length → J i H → (∀ H', J (i + 1) H' → Q (.ret (.bool false)) H') → wpf ⟨bt.get, o⟩ f (.agg (List.take 3 (List.drop (i * 3) ck)) :: cap) H Q)
    {H : Heap} {Q : End → Heap → Prop} (h0 : J 0 H) (h : ∀ H', J ks.length H' → Q (.ret (.bool false)) H') : wpf ⟨bt.get, o⟩ F_slices_ContainsFunc_api_Re_api_Re [vl, .fn f cap] H Q := by
  rw [fn_slices_ContainsFunc_api_Re_api_Re (ho _ _ _ (by decide))]
  simp only [bd_slices_ContainsFunc_api_Re_api_Re, go_sem, zA, zB, zC, reduceIte, zD, zE, zF, zG, zH, zI, reduceCtorEq, zJ, zK, zL, zM, zN, zO, zP]
  rw [fn_slices_IndexFunc_api_Re_api_Re (ho _ _ _ (by decide))]
  simp only [bd_slices_IndexFunc_api_Re_api_Re, go_sem, zA, zB, zC, reduceIte, zD, zE, zF, zG, zH, zI, reduceCtorEq, zJ, zK, zL, zM, zN, zO, zP, (hJ 0 H h0).len]
  refine ix_loop hl J hJ hc hf ks.length 0 H (by omega) h0 fun H' y1 y2 y3 y4 y5 t j => ?_
  simp only [go_sem, zA, zB, zC, reduceIte, zD, zE, zF, zG, zH, zI, reduceCtorEq, zJ, zK, zL, zM, zN, zO, zP, GE.ge]
  exact h H' j
omit ho in
theorem eq_loop {a : List R} {va vb : AV} {ba bb : Nat} (hla : a.length ≤ 1000000) {H : Heap} (hA : Rd H 2 (rcells a) a.length va ba) (hB : Rd H 2 (rcells a) a.length vb bb) {Q : Ctl → St → Prop} : ∀ (r : List R) (i : Nat), a.drop i = r → i ≤ a.length →
    (∀ y1 y2 y3 y4 y5 t, Q (.exit 0) { p := [(0, y1), (1, y2), (12, y3), (13, y4), (14, y5)], t := t, H := H, d := [], u := .norm }) →
    wpl ⟨bt.get, o⟩ [0, 1, 12, 13] lb_slices_Equal_api_Range_api_Range_0 { p := [(0, va), (1, vb), (12, .int .i64 (a.length : Int)), (13, .int .i64 (i : Int))], t := [], H := H, d := [], u := .norm } Q
  | [], i, hd, hi, hQ => by
    have : a.length ≤ i := List.drop_eq_nil_iff.1 hd
    rw [wpl_step]
    have c1 : ¬((i : Int) < (a.length : Int)) := by omega
    simp only [lb_slices_Equal_api_Range_api_Range_0, go_sem, zA, zB, zC, reduceIte, zD, zE, zF, zG, zH, zI, reduceCtorEq, zJ, zK, zL, zM, zN, zO, zP, c1]
    exact hQ _ _ _ _ _ _
  | x :: r, i, hd, hi, hQ => by
    obtain ⟨h0, h1, h2⟩ := list_at hd
    obtain ⟨⟨u, ga⟩, ela, _⟩ := hA.pos (by omega)
    obtain ⟨⟨u', gb⟩, elb, _⟩ := hB.pos (by omega)
    have ea := ela i h1
    have eb := elb i h1
    obtain ⟨p1, p2⟩ := rcells_at h0
    rw [wpl_step]
    have c1 : ((i : Int) < (a.length : Int)) := by omega
    have iw := wsucc (show i ≤ 1000000000 by omega)
    simp only [lb_slices_Equal_api_Range_api_Range_0, go_sem, zA, zB, zC, reduceIte, zD, zE, zF, zG, zH, zI, reduceCtorEq, zJ, zK, zL, zM, zN, zO, zP, c1, ea, eb, ga, gb, p1, p2, R.cells, eqCells, eqCell, iw]
    exact eq_loop hla hA hB r (i + 1) h2 (by omega) hQ
theorem sl_Equal {a : List R} {va vb : AV} {ba bb : Nat} (hla : a.length ≤ 1000000) {H : Heap} (hA : Rd H 2 (rcells a) a.length va ba) (hB : Rd H 2 (rcells a) a.length vb bb) {Q : End → Heap → Prop} (h : Q (.ret (.bool true)) H) : wpf ⟨bt.get, o⟩ F_slices_Equal_api_Range_api_Range [va, vb] H Q := by
  rw [fn_slices_Equal_api_Range_api_Range (ho _ _ _ (by decide))]
  simp only [bd_slices_Equal_api_Range_api_Range, go_sem, zA, zB, zC, reduceIte, zD, zE, zF, zG, zH, zI, reduceCtorEq, zJ, zK, zL, zM, zN, zO, zP, hA.len, hB.len]
  refine eq_loop hla hA hB a 0 rfl (Nat.zero_le _) fun y1 y2 y3 y4 y5 t => ?_
  simp only [go_sem, zA, zB, zC, reduceIte, zD, zE, zF, zG, zH, zI, reduceCtorEq, zJ, zK, zL, zM, zN, zO, zP]
  exact h
theorem ru_May {l : List R} (ok : okS l) {v : AV} {b : Nat} {H : Heap} (hR : Rd H 2 (rcells l) l.length v b) {Q : End → Heap → Prop} (h : ∀ H', Ext H.size H H' → Q (.ret (.bool true)) H') : wpf ⟨bt.get, o⟩ F_runes_May [v] H Q := by
  have hl : l.length = 1 := by obtain ⟨c, hc, rfl | rfl⟩ := ok <;> rfl
  have hr : ∀ r ∈ l, I32 r.lo ∧ I32 r.hi := by
    obtain ⟨c, hc, rfl | rfl⟩ := ok <;> intro r hr <;> simp only [List.mem_singleton] at hr <;> subst hr <;> unfold I32 <;> simp only <;> omega
  rw [fn_runes_May (ho _ _ _ (by decide))]
  simp only [bd_runes_May, go_sem, zA, zB, zC, reduceIte, zD, zE, zF, zG, zH, zI, reduceCtorEq, zJ, zK, zL, zM, zN, zO, zP]
  refine r_Norm ho (by have := capN_12; omega) hr hR fun H1 v1 x1 s1 => ?_
  rw [← okS_norm ok] at s1
  obtain ⟨b1, R1, _⟩ := s1.rd
  simp only [go_sem, zA, zB, zC, reduceIte, zD, zE, zF, zG, zH, zI, reduceCtorEq, zJ, zK, zL, zM, zN, zO, zP]
  refine sl_Equal ho (by omega) (hR.ext x1) R1 ?_
  simp only [go_sem, zA, zB, zC, reduceIte, zD, zE, zF, zG, zH, zI, reduceCtorEq, zJ, zK, zL, zM, zN, zO, zP]
  exact h H1 x1
theorem rx_parts {x : Rx} {H : Heap} {Q : End → Heap → Prop} (h : Q (.ret (.int .i64 ((kidsX x).length : Int))) H) : wpf ⟨bt.get, o⟩ F_regex_parts [.int .i64 (kindX x)] H Q := by
  rw [fn_regex_parts (ho _ _ _ (by decide))]
  cases x <;> (simp only [bd_regex_parts, go_sem, zA, zB, zC, reduceIte, zD, zE, zF, zG, zH, zI, reduceCtorEq, zJ, zK, zL, zM, zN, zO, zP, kindX]; exact h)
theorem rx_may : ∀ (x : Rx), okX x → ∀ (P : Nat → Prop) (cx : List AV) (H : Heap) (Q : End → Heap → Prop), ReV P H x cx → (∀ H', Ext H.size H H' → Q (.ret (.bool true)) H') → wpf ⟨bt.get, o⟩ F_regex_may [.agg cx] H Q := by
  have main : ∀ (x : Rx), okX x → (∀ k ∈ kidsX x, ∀ (P : Nat → Prop) (cx : List AV) (H : Heap) (Q : End → Heap → Prop), ReV P H k cx → (∀ H', Ext H.size H H' → Q (.ret (.bool true)) H') → wpf ⟨bt.get, o⟩ F_regex_may [.agg cx] H Q) →
      ∀ (P : Nat → Prop) (cx : List AV) (H : Heap) (Q : End → Heap → Prop), ReV P H x cx → (∀ H', Ext H.size H H' → Q (.ret (.bool true)) H') → wpf ⟨bt.get, o⟩ F_regex_may [.agg cx] H Q := by
    intro x ok IH P cx H Q hx h
    rw [fn_regex_may (ho _ _ _ (by decide))]
    obtain ⟨vs, bs, vl, bl, ck, e1, s1, s2, l1, l2⟩ := hx.split
    subst e1
    have hks : (kidsX x).length ≤ 1000 := by cases x <;> simp [kidsX]
    have x2 : Ext H.size H (H.push (.cells [.int .i64 (kindX x), vs, vl] .own)) := Ext.push (Nat.le_refl _)
    have g2 : (H.push (.cells [.int .i64 (kindX x), vs, vl] .own)).get H.size = .cells [.int .i64 (kindX x), vs, vl] .own := Heap.get_push_self
    simp only [bd_regex_may, go_sem, zA, zB, zC, reduceIte, zD, zE, zF, zG, zH, zI, reduceCtorEq, zJ, zK, zL, zM, zN, zO, zP, s1.one.1, s1.one.2, l1.one.1, l1.one.2]
    generalize H.push (.cells [.int .i64 (kindX x), vs, vl] .own) = H2 at x2 g2 ⊢
    simp only [go_sem, zA, zB, zC, reduceIte, zD, zE, zF, zG, zH, zI, reduceCtorEq, zJ, zK, zL, zM, zN, zO, zP, g2, l1.len, AV.beq_self]
    refine rx_parts ho ?_
    simp only [go_sem, zA, zB, zC, reduceIte, zD, zE, zF, zG, zH, zI, reduceCtorEq, zJ, zK, zL, zM, zN, zO, zP, g2, l1.len, AV.beq_self]
    have hgl : H.size < H2.size := Heap.lt_of_get (by rw [g2]; simp)
    refine ix_none ho (ks := kidsX x) (cap := []) hks (fun _ H' => Ext H2.size H2 H') (fun i H' e => (l1.ext x2).ext e) (fun i hi => (l2 i _ (List.getElem?_eq_getElem hi)).2) (fun i H' Q' hi e hq => ?_) Ext.refl fun H3 x3 => ?_
    · rw [fn_regex_may_1 (ho _ _ _ (by decide))]
      have hk := List.getElem?_eq_getElem hi
      obtain ⟨r1, r2⟩ := l2 i _ hk
      obtain ⟨k, v, w, ek, ⟨v1, v2⟩, w1, w2⟩ := r1.form
      rw [ek] at r1 ⊢
      have y1 : Ext H'.size H' (H'.push (.cells [.int .i64 k, v, w] .own)) := Ext.push (Nat.le_refl _)
      have gy : (H'.push (.cells [.int .i64 k, v, w] .own)).get H'.size = .cells [.int .i64 k, v, w] .own := Heap.get_push_self
      simp only [bd_regex_may_1, go_sem, zA, zB, zC, reduceIte, zD, zE, zF, zG, zH, zI, reduceCtorEq, zJ, zK, zL, zM, zN, zO, zP, v1, v2, w1, w2]
      refine IH _ (List.mem_of_getElem? hk) P _ _ _ (r1.keep fun b p1 p2 => ⟨by rw [y1.2 b (by have := x2.1; have := e.1; omega), e.2 b (by have := x2.1; omega), x2.2 b p2], p1⟩) fun H4 x4 => ?_
      simp only [go_sem, zA, zB, zC, reduceIte, zD, zE, zF, zG, zH, zI, reduceCtorEq, zJ, zK, zL, zM, zN, zO, zP]
      exact hq H4 ((e.trans (y1.le e.1)).trans (x4.le (by have := e.1; rw [Heap.size_push]; omega)))
    · have g3 : H3.get H.size = .cells [.int .i64 (kindX x), vs, vl] .own := by rw [x3.2 _ hgl, g2]
      have x23 := x2.trans (x3.le x2.1)
      cases x with
      | set l =>
        have hl : l.length = 1 := by obtain ⟨c, hc, rfl | rfl⟩ := ok <;> rfl
        simp only [setsX] at s1 s2
        have c1 : (1 : Int) ≤ (l.length : Int) := by omega
        have c2 : (l.length : Int) ≤ 20 := by omega
        simp only [kindX] at g3
        simp only [go_sem, zA, zB, zC, reduceIte, zD, zE, zF, zG, zH, zI, reduceCtorEq, zJ, zK, zL, zM, zN, zO, zP, g3, s1.len, c1, c2, GE.ge]
        refine ru_May ho ok (s1.ext x23) fun H4 x4 => ?_
        simp only [go_sem, zA, zB, zC, reduceIte, zD, zE, zF, zG, zH, zI, reduceCtorEq, zJ, zK, zL, zM, zN, zO, zP]
        exact h H4 (x23.trans (x4.le x23.1))
      | emp => simp only [kindX] at g3; simp only [go_sem, zA, zB, zC, reduceIte, zD, zE, zF, zG, zH, zI, reduceCtorEq, zJ, zK, zL, zM, zN, zO, zP, g3, s1.len, setsX, List.length_nil, Int.natCast_zero]; exact h H3 x23
      | seq a b => simp only [kindX] at g3; simp only [go_sem, zA, zB, zC, reduceIte, zD, zE, zF, zG, zH, zI, reduceCtorEq, zJ, zK, zL, zM, zN, zO, zP, g3, s1.len, setsX, List.length_nil, Int.natCast_zero]; exact h H3 x23
      | alt a b => simp only [kindX] at g3; simp only [go_sem, zA, zB, zC, reduceIte, zD, zE, zF, zG, zH, zI, reduceCtorEq, zJ, zK, zL, zM, zN, zO, zP, g3, s1.len, setsX, List.length_nil, Int.natCast_zero]; exact h H3 x23
      | star a => simp only [kindX] at g3; simp only [go_sem, zA, zB, zC, reduceIte, zD, zE, zF, zG, zH, zI, reduceCtorEq, zJ, zK, zL, zM, zN, zO, zP, g3, s1.len, setsX, List.length_nil, Int.natCast_zero]; exact h H3 x23
  intro x
  induction x with
  | emp => exact fun h => main .emp h (fun k hk => by simp [kidsX] at hk)
  | set l => exact fun h => main (.set l) h (fun k hk => by simp [kidsX] at hk)
  | seq a b iha ihb => exact fun h => main (.seq a b) h (fun k hk => by simp [kidsX] at hk; rcases hk with rfl | rfl; exact iha h.1; exact ihb h.2)
  | alt a b iha ihb => exact fun h => main (.alt a b) h (fun k hk => by simp [kidsX] at hk; rcases hk with rfl | rfl; exact iha h.1; exact ihb h.2)
  | star a iha => exact fun h => main (.star a) h (fun k hk => by simp [kidsX] at hk; subst hk; exact iha h)
end
/- Package print: one, within, Set; slices.Contains; runes.Count of a range. -/
set_option maxRecDepth 8000
section
variable {o : CallF} (ho : OvOnly o)
include ho
theorem pr_within {s : List UInt8} {b : Bool} (hs : s.length ≤ 1000000) {H : Heap} {Q : End → Heap → Prop} (h : Q (.ret (.str (inB b s))) H) : wpf ⟨bt.get, o⟩ F_print_within [.str s, .bool b] H Q := by
  rw [fn_print_within (ho _ _ _ (by decide))]
  have c1 : 1 + s.length ≤ 1099511627776 := by omega
  have c2 : s.length + 1 + 1 ≤ 1099511627776 := by omega
  cases b
  · simp only [bd_print_within, go_sem, zA, zB, zC, reduceIte, zD, zE, zF, zG, zH, zI, reduceCtorEq, zJ, zK, zL, zM, zN, zO, zP]
    exact h
  · simp only [bd_print_within, go_sem, zA, zB, zC, reduceIte, zD, zE, zF, zG, zH, zI, reduceCtorEq, zJ, zK, zL, zM, zN, zO, zP, c1, c2, Nat.zero_add]
    exact h
omit ho in
theorem ix_loop2 {ks : List Int} {vl : AV} {bl : Nat} {k : Int} (hl : ks.length ≤ 1000000) {H : Heap} (hR : Rd H 1 (ic ks) ks.length vl bl) {Q : Ctl → St → Prop} : ∀ (r : List Int) (i : Nat), ks.drop i = r → i ≤ ks.length →
    (k ∈ r → ∀ (j : Nat) (σ : St), σ.H = H → σ.d = [] → lk 4 σ.p = some (.int .i64 (j : Int)) → Q .ret σ) → (k ∉ r → ∀ (σ : St), σ.H = H → σ.d = [] → Q (.exit 0) σ) →
    wpl ⟨bt.get, o⟩ [0, 1, 7, 8] lb_slices_Index_int_int_0 { p := [(0, vl), (1, .int .i64 k), (7, .int .i64 ks.length), (8, .int .i64 i)], t := [], H := H, d := [], u := .norm } Q
  | [], i, h1, h2, hT, hF => by
    have : ks.length ≤ i := List.drop_eq_nil_iff.1 h1
    rw [wpl_step]
    have c1 : ¬((i : Int) < (ks.length : Int)) := by omega
    simp only [lb_slices_Index_int_int_0, go_sem, zA, zB, zC, reduceIte, zD, zE, zF, zG, zH, zI, reduceCtorEq, zJ, zK, zL, zM, zN, zO, zP, c1]
    exact hF (by simp) _ rfl rfl
  | x :: r, i, h1, h2, hT, hF => by
    obtain ⟨a0, a1, a2⟩ := list_at h1
    obtain ⟨⟨u, ga⟩, ela, _⟩ := hR.pos (by omega)
    have ea := ela i a1
    have g1 : (ic ks)[i]? = some (.int .i64 x) := by simp [ic, a0]
    rw [wpl_step]
    have c1 : ((i : Int) < (ks.length : Int)) := by omega
    have iw := wsucc (show i ≤ 1000000000 by omega)
    by_cases e : k = x
    · simp only [lb_slices_Index_int_int_0, go_sem, zA, zB, zC, reduceIte, zD, zE, zF, zG, zH, zI, reduceCtorEq, zJ, zK, zL, zM, zN, zO, zP, c1, ea, ga, Nat.mul_one, g1, e]
      exact hT (by rw [e]; simp) i _ rfl rfl rfl
    · simp only [lb_slices_Index_int_int_0, go_sem, zA, zB, zC, reduceIte, zD, zE, zF, zG, zH, zI, reduceCtorEq, zJ, zK, zL, zM, zN, zO, zP, c1, ea, ga, Nat.mul_one, g1, e, iw]
      exact ix_loop2 hl hR r (i + 1) a2 (by omega) (fun hm => hT (List.mem_cons_of_mem _ hm)) (fun hm => hF (by simp [e, hm]))
theorem sl_Contains {ks : List Int} {vl : AV} {bl : Nat} {k : Int} (hl : ks.length ≤ 1000000) {H : Heap} (hR : Rd H 1 (ic ks) ks.length vl bl) {Q : End → Heap → Prop} (h : Q (.ret (.bool (decide (k ∈ ks)))) H) : wpf ⟨bt.get, o⟩ F_slices_Contains_int_int [vl, .int .i64 k] H Q := by
  rw [fn_slices_Contains_int_int (ho _ _ _ (by decide))]
  simp only [bd_slices_Contains_int_int, go_sem, zA, zB, zC, reduceIte, zD, zE, zF, zG, zH, zI, reduceCtorEq, zJ, zK, zL, zM, zN, zO, zP]
  rw [fn_slices_Index_int_int (ho _ _ _ (by decide))]
  simp only [bd_slices_Index_int_int, go_sem, zA, zB, zC, reduceIte, zD, zE, zF, zG, zH, zI, reduceCtorEq, zJ, zK, zL, zM, zN, zO, zP, hR.len]
  refine ix_loop2 hl hR ks 0 rfl (Nat.zero_le _) (fun hm j σ k1 k2 k3 => ?_) (fun hm σ k1 k2 => ?_)
  · have c1 : (0 : Int) ≤ (j : Int) := by omega
    simp only [go_sem, zA, zB, zC, reduceIte, zD, zE, zF, zG, zH, zI, reduceCtorEq, zJ, zK, zL, zM, zN, zO, zP, k1, k2, k3, c1]
    simpa [hm] using h
  · have c1 : ¬ (0 : Int) ≤ -1 := by omega
    simp only [go_sem, zA, zB, zC, reduceIte, zD, zE, zF, zG, zH, zI, reduceCtorEq, zJ, zK, zL, zM, zN, zO, zP, k1, k2, lk_up, c1]
    simpa [hm] using h
omit ho in
theorem enc_ltr {c : Int} (h : 97 ≤ c ∧ c ≤ 99) : (Utf8.encode c).data.toList = [ltr c] := by
  have : c = 97 ∨ c = 98 ∨ c = 99 := by omega
  rcases this with rfl | rfl | rfl <;> decide
theorem pr_one {c : Int} (hc : 97 ≤ c ∧ c ≤ 99) {H : Heap} {Q : End → Heap → Prop} (h : Q (.ret (.str [ltr c])) H) : wpf ⟨bt.get, o⟩ F_print_one [.int .i32 c] H Q := by
  rw [fn_print_one (ho _ _ _ (by decide))]
  have c1 : 97 ≤ c := hc.1
  have c2 : c ≤ 122 := by omega
  simp only [bd_print_one, go_sem, zA, zB, zC, reduceIte, zD, zE, zF, zG, zH, zI, reduceCtorEq, zJ, zK, zL, zM, zN, zO, zP, c1, c2, enc_ltr hc]
  exact h
theorem ru_Count {c : Int} (hc : 97 ≤ c ∧ c ≤ 98) {v : AV} {b : Nat} {H : Heap} (hR : Rd H 2 (rcells [⟨c, c + 1⟩]) 1 v b) {Q : End → Heap → Prop} (h : ∀ H', Ext H.size H H' → Q (.ret (.int .i64 2)) H') : wpf ⟨bt.get, o⟩ F_runes_Count [v] H Q := by
  rw [fn_runes_Count (ho _ _ _ (by decide))]
  simp only [bd_runes_Count, go_sem, zA, zB, zC, reduceIte, zD, zE, zF, zG, zH, zI, reduceCtorEq, zJ, zK, zL, zM, zN, zO, zP]
  refine r_spans (l := [⟨c, c + 1⟩]) ho (by have := capN_12; simp; omega) (fun r hr => by simp only [List.mem_singleton] at hr; subst hr; unfold I32; simp only; omega) hR fun H1 v1 x1 s1 => ?_
  have hsp : spansF [⟨c, c + 1⟩] = [(c.toNat, c.toNat + 2)] := by
    have : c = 97 ∨ c = 98 := by omega
    rcases this with rfl | rfl <;> decide
  rw [hsp] at s1
  obtain ⟨b1, R1, _⟩ := s1.rd
  obtain ⟨⟨u, g1⟩, e1, _⟩ := R1.pos (by simp)
  have g1 : H1.get b1 = .cells [.int .i64 (c.toNat : Int), .int .i64 ((c.toNat + 2 : Nat) : Int)] u := g1
  have e0 : elA 2 v1 (.int .i64 0) = some (.ptr b1 0) := e1 0 (by simp)
  have l1 : lenI v1 = some (1 : Int) := R1.len
  have k0 : (0 : Int) < 1 := by omega
  have k1 : ¬ (1 : Int) < 1 := by omega
  have hw0 : IntKind.i64.wrap 1 = 1 := wi64 (by omega) (by omega)
  have hw1 : IntKind.i64.wrap ((c.toNat + 2 : Nat) : Int) = ((c.toNat + 2 : Nat) : Int) := wi64 (by omega) (by omega)
  have hw2 : IntKind.i64.wrap (((c.toNat + 2 : Nat) : Int) - ((c.toNat : Nat) : Int)) = 2 := by rw [wi64 (by omega) (by omega)]; omega
  simp only [go_sem, zA, zB, zC, reduceIte, zD, zE, zF, zG, zH, zI, reduceCtorEq, zJ, zK, zL, zM, zN, zO, zP, l1]
  rw [wpl_step]
  simp only [lb_runes_Count_0, go_sem, zA, zB, zC, reduceIte, zD, zE, zF, zG, zH, zI, reduceCtorEq, zJ, zK, zL, zM, zN, zO, zP, k0, e0, g1, hw0, hw1, hw2]
  rw [wpl_step]
  simp only [lb_runes_Count_0, go_sem, zA, zB, zC, reduceIte, zD, zE, zF, zG, zH, zI, reduceCtorEq, zJ, zK, zL, zM, zN, zO, zP, k1]
  exact h _ (x1.trans (Ext.push x1.1))
end
/- Package regex: within the bounds; May. -/
set_option maxRecDepth 8000
theorem nK_take {ks : List Rx} {i : Nat} {k : Rx} (h : ks[i]? = some k) : nK (ks.take (i + 1)) = nK (ks.take i) + szX k ∧ nK (ks.take i) + szX k ≤ nK ks := by
  have hi : i < ks.length := (List.getElem?_eq_some_iff.1 h).1
  have e1 : ks.take (i + 1) = ks.take i ++ [k] := by rw [List.take_add_one, h]; rfl
  have e2 : nK (ks.take (i + 1)) = nK (ks.take i) + szX k := by rw [e1]; simp [nK]
  refine ⟨e2, ?_⟩
  have e3 : nK ks = nK (ks.take (i + 1)) + nK (ks.drop (i + 1)) := by
    have h1 := congrArg (fun l => (l.map szX).sum) (List.take_append_drop (i + 1) ks)
    simp only [List.map_append, List.sum_append] at h1
    exact h1.symm
  omega
theorem dp_kid {x k : Rx} (h : k ∈ kidsX x) : dpX k + 1 ≤ dpX x := by
  cases x with
  | emp => simp [kidsX] at h
  | set l => simp [kidsX] at h
  | seq a b => simp [kidsX] at h; rcases h with rfl | rfl <;> (simp only [dpX]; omega)
  | alt a b => simp [kidsX] at h; rcases h with rfl | rfl <;> (simp only [dpX]; omega)
  | star a => simp [kidsX] at h; subst h; simp [dpX]
section
variable {o : CallF} (ho : OvOnly o)
include ho
theorem rx_w1 : ∀ (x : Rx) (left deep : Nat) (lb gb : Nat) (cx : List AV) (H : Heap) (Q : End → Heap → Prop), szX x ≤ left → left ≤ 60 → deep + dpX x ≤ 13 → lb ≠ gb → H.get lb = .cells [.int .i64 (left : Int)] .own → H.get gb = .cells [.fn F_regex_within_1 [.ptr lb 0, .ptr gb 0]] .own → ReV (fun b => b ≠ lb) H x cx →
    (∀ H', FrX [lb] H.size H H' → H'.get lb = .cells [.int .i64 ((left - szX x : Nat) : Int)] .own → Q (.ret (.bool true)) H') → wpf ⟨bt.get, o⟩ F_regex_within_1 [.agg cx, .int .i64 (deep : Int), .ptr lb 0, .ptr gb 0] H Q := by
  have main : ∀ (x : Rx), (∀ k ∈ kidsX x, ∀ (left deep : Nat) (lb gb : Nat) (cx : List AV) (H : Heap) (Q : End → Heap → Prop), szX k ≤ left → left ≤ 60 → deep + dpX k ≤ 13 → lb ≠ gb → H.get lb = .cells [.int .i64 (left : Int)] .own → H.get gb = .cells [.fn F_regex_within_1 [.ptr lb 0, .ptr gb 0]] .own → ReV (fun b => b ≠ lb) H k cx →
        (∀ H', FrX [lb] H.size H H' → H'.get lb = .cells [.int .i64 ((left - szX k : Nat) : Int)] .own → Q (.ret (.bool true)) H') → wpf ⟨bt.get, o⟩ F_regex_within_1 [.agg cx, .int .i64 (deep : Int), .ptr lb 0, .ptr gb 0] H Q) →
      ∀ (left deep : Nat) (lb gb : Nat) (cx : List AV) (H : Heap) (Q : End → Heap → Prop), szX x ≤ left → left ≤ 60 → deep + dpX x ≤ 13 → lb ≠ gb → H.get lb = .cells [.int .i64 (left : Int)] .own → H.get gb = .cells [.fn F_regex_within_1 [.ptr lb 0, .ptr gb 0]] .own → ReV (fun b => b ≠ lb) H x cx →
        (∀ H', FrX [lb] H.size H H' → H'.get lb = .cells [.int .i64 ((left - szX x : Nat) : Int)] .own → Q (.ret (.bool true)) H') → wpf ⟨bt.get, o⟩ F_regex_within_1 [.agg cx, .int .i64 (deep : Int), .ptr lb 0, .ptr gb 0] H Q := by
    intro x IH left deep lb gb cx H Q hz hl6 hd hne gl0 gg0 hx h
    rw [fn_regex_within_1 (ho _ _ _ (by decide))]
    obtain ⟨vs, bs, vl, bl, ck, e1, s1, s2, l1, l2⟩ := hx.split
    subst e1
    have hks : (kidsX x).length ≤ 1000 := by cases x <;> simp [kidsX]
    have hsz := sz_kids x
    have hll : lb < H.size := Heap.lt_of_get (by rw [gl0]; simp)
    have hgg : gb < H.size := Heap.lt_of_get (by rw [gg0]; simp)
    have x2 : Ext H.size H ((H.push (.cells [.int .i64 (kindX x), vs, vl] .own)).push (.cells [.int .i64 (deep : Int)] .own)) := (Ext.push (Nat.le_refl _)).trans (Ext.push (by rw [Heap.size_push]; omega))
    have g2 : ((H.push (.cells [.int .i64 (kindX x), vs, vl] .own)).push (.cells [.int .i64 (deep : Int)] .own)).get H.size = .cells [.int .i64 (kindX x), vs, vl] .own := by rw [Heap.get_push_lt (by rw [Heap.size_push]; omega), Heap.get_push_self]
    have g2d : ((H.push (.cells [.int .i64 (kindX x), vs, vl] .own)).push (.cells [.int .i64 (deep : Int)] .own)).get (H.size + 1) = .cells [.int .i64 (deep : Int)] .own := Heap.get_push_eq (by rw [Heap.size_push])
    have sz2 : ((H.push (.cells [.int .i64 (kindX x), vs, vl] .own)).push (.cells [.int .i64 (deep : Int)] .own)).size = H.size + 2 := by rw [Heap.size_push, Heap.size_push]
    have w1 : IntKind.i64.wrap ((left : Int) - 1) = ((left - 1 : Nat) : Int) := by rw [IntKind.wrap_i64]; omega
    simp only [bd_regex_within_1, go_sem, zA, zB, zC, reduceIte, zD, zE, zF, zG, zH, zI, reduceCtorEq, zJ, zK, zL, zM, zN, zO, zP, s1.one.1, s1.one.2, l1.one.1, l1.one.2]
    generalize (H.push (.cells [.int .i64 (kindX x), vs, vl] .own)).push (.cells [.int .i64 (deep : Int)] .own) = H2 at x2 g2 g2d sz2 ⊢
    have gl2 : H2.get lb = .cells [.int .i64 (left : Int)] .own := by rw [x2.2 lb hll, gl0]
    have gg2 : H2.get gb = .cells [.fn F_regex_within_1 [.ptr lb 0, .ptr gb 0]] .own := by rw [x2.2 gb hgg, gg0]
    have ll2 : lb < H2.size := by omega
    have c1 : (0 : Int) ≤ ((left - 1 : Nat) : Int) := by omega
    have hdp : 1 ≤ dpX x := by rw [dp_kids]; omega
    have c2 : (deep : Int) ≤ 12 := by omega
    have g3 : (H2.set lb (.cells [.int .i64 ((left - 1 : Nat) : Int)] .own)).get H.size = .cells [.int .i64 (kindX x), vs, vl] .own := by rw [Heap.get_set_ne (by omega), g2]
    have g3d : (H2.set lb (.cells [.int .i64 ((left - 1 : Nat) : Int)] .own)).get (H.size + 1) = .cells [.int .i64 (deep : Int)] .own := by rw [Heap.get_set_ne (by omega), g2d]
    have gl3 : (H2.set lb (.cells [.int .i64 ((left - 1 : Nat) : Int)] .own)).get lb = .cells [.int .i64 ((left - 1 : Nat) : Int)] .own := Heap.get_set_self ll2
    have gg3 : (H2.set lb (.cells [.int .i64 ((left - 1 : Nat) : Int)] .own)).get gb = .cells [.fn F_regex_within_1 [.ptr lb 0, .ptr gb 0]] .own := by rw [Heap.get_set_ne (fun e => hne e.symm), gg2]
    simp only [go_sem, zA, zB, zC, reduceIte, zD, zE, zF, zG, zH, zI, reduceCtorEq, zJ, zK, zL, zM, zN, zO, zP, gl2, w1, gl3, g3, g3d, c1, c2, GE.ge]
    have F3 : FrX [lb] H.size H (H2.set lb (.cells [.int .i64 ((left - 1 : Nat) : Int)] .own)) := (FrX.ofExt x2).trans (FrX.set (.inl (by simp)))
    have sz3 : (H2.set lb (.cells [.int .i64 ((left - 1 : Nat) : Int)] .own)).size = H.size + 2 := by rw [Heap.size_set, sz2]
    generalize H2.set lb (.cells [.int .i64 ((left - 1 : Nat) : Int)] .own) = H3 at g3 g3d gl3 gg3 F3 sz3 ⊢
    have kp : ∀ {H'}, FrX [lb] H3.size H3 H' → ∀ b, b ≠ lb → b < H.size → H'.get b = H.get b := fun {H'} f b p1 p2 => by
      rw [f.2 b (by omega) (by simpa using p1), F3.2 b p2 (by simpa using p1)]
    have hbl : 0 < (kidsX x).length → bl ≠ lb := fun hp => by
      cases x with
      | emp => simp [kidsX] at hp
      | set l => simp [kidsX] at hp
      | seq a b => obtain ⟨v, b', _, _, e, R, q, _⟩ := hx; injection e with _ e; injection e with _ e; injection e with e; subst e; obtain ⟨_, _, h1⟩ := R.pos (by omega); obtain ⟨_, _, h2⟩ := l1.pos hp; rcases h1 with ⟨c, rfl⟩ | rfl <;> rcases h2 with ⟨c', h2⟩ | h2 <;> injection h2 <;> (subst_vars; exact q)
      | alt a b => obtain ⟨v, b', _, _, e, R, q, _⟩ := hx; injection e with _ e; injection e with _ e; injection e with e; subst e; obtain ⟨_, _, h1⟩ := R.pos (by omega); obtain ⟨_, _, h2⟩ := l1.pos hp; rcases h1 with ⟨c, rfl⟩ | rfl <;> rcases h2 with ⟨c', h2⟩ | h2 <;> injection h2 <;> (subst_vars; exact q)
      | star a => obtain ⟨v, b', _, e, R, q, _⟩ := hx; injection e with _ e; injection e with _ e; injection e with e; subst e; obtain ⟨_, _, h1⟩ := R.pos (by omega); obtain ⟨_, _, h2⟩ := l1.pos hp; rcases h1 with ⟨c, rfl⟩ | rfl <;> rcases h2 with ⟨c', h2⟩ | h2 <;> injection h2 <;> (subst_vars; exact q)
    refine ix_none ho (ks := kidsX x) (cap := [.ptr gb 0, .ptr (H.size + 1) 0]) hks (fun i H' => FrX [lb] H3.size H3 H' ∧ H'.get lb = .cells [.int .i64 ((left - 1 - nK ((kidsX x).take i) : Nat) : Int)] .own)
      (fun i H' e => l1.keep fun hp => kp e.1 bl (hbl hp) (l1.lt hp)) (fun i hi => (l2 i _ (List.getElem?_eq_getElem hi)).2) (fun i H' Q' hi e hq => ?_) ⟨FrX.refl, by simpa [nK] using gl3⟩ fun H4 e4 => ?_
    · rw [fn_regex_within_1_1 (ho _ _ _ (by decide))]
      have hk := List.getElem?_eq_getElem hi
      obtain ⟨r1, r2⟩ := l2 i _ hk
      obtain ⟨t1, t2⟩ := nK_take hk
      have dk := dp_kid (List.mem_of_getElem? hk)
      generalize (kidsX x)[i] = kid at hk r1 t1 t2 dk
      obtain ⟨k, v, w, ek, ⟨v1, v2⟩, w1', w2⟩ := r1.form
      rw [ek] at r1 ⊢
      obtain ⟨f', gl'⟩ := e
      have szf := f'.1
      have y1 : Ext H'.size H' (H'.push (.cells [.int .i64 k, v, w] .own)) := Ext.push (Nat.le_refl _)
      have gy : (H'.push (.cells [.int .i64 k, v, w] .own)).get H'.size = .cells [.int .i64 k, v, w] .own := Heap.get_push_self
      have gyg : (H'.push (.cells [.int .i64 k, v, w] .own)).get gb = .cells [.fn F_regex_within_1 [.ptr lb 0, .ptr gb 0]] .own := by rw [y1.2 _ (by omega), f'.2 gb (by omega) (by simpa using fun e => hne e.symm), gg3]
      have gyd : (H'.push (.cells [.int .i64 k, v, w] .own)).get (H.size + 1) = .cells [.int .i64 (deep : Int)] .own := by rw [y1.2 _ (by omega), f'.2 _ (by omega) (by simp; omega), g3d]
      have gyl : (H'.push (.cells [.int .i64 k, v, w] .own)).get lb = .cells [.int .i64 ((left - 1 - nK ((kidsX x).take i) : Nat) : Int)] .own := by rw [y1.2 _ (by omega), gl']
      have wd := wsucc (show deep ≤ 1000000000 by omega)
      simp only [bd_regex_within_1_1, go_sem, zA, zB, zC, reduceIte, zD, zE, zF, zG, zH, zI, reduceCtorEq, zJ, zK, zL, zM, zN, zO, zP, v1, v2, w1', w2, gyg, gyd, wd]
      refine IH kid (List.mem_of_getElem? hk) (left - 1 - nK ((kidsX x).take i)) (deep + 1) lb gb _ _ _ (by omega) (by omega) (by omega) hne gyl gyg (r1.keep fun b p1 p2 => ⟨by rw [y1.2 b (by omega), kp f' b p1 p2], p1⟩) fun H5 f5 gl5 => ?_
      simp only [go_sem, zA, zB, zC, reduceIte, zD, zE, zF, zG, zH, zI, reduceCtorEq, zJ, zK, zL, zM, zN, zO, zP]
      refine hq H5 ⟨(f'.trans ((FrX.ofExt (y1.le szf)).trans (f5.mono (by rw [Heap.size_push]; omega) fun c hc _ => hc))), ?_⟩
      rw [gl5, t1]
      congr 4
      omega
    · obtain ⟨f4, gl4⟩ := e4
      simp only [go_sem, zA, zB, zC, reduceIte, zD, zE, zF, zG, zH, zI, reduceCtorEq, zJ, zK, zL, zM, zN, zO, zP]
      refine h H4 (F3.trans (f4.mono (by omega) fun c hc _ => hc)) ?_
      rw [gl4, List.take_length]
      congr 4
      omega
  intro x
  induction x with
  | emp => exact main .emp (fun k hk => by simp [kidsX] at hk)
  | set l => exact main (.set l) (fun k hk => by simp [kidsX] at hk)
  | seq a b iha ihb => exact main (.seq a b) (fun k hk => by simp [kidsX] at hk; rcases hk with rfl | rfl; exact iha; exact ihb)
  | alt a b iha ihb => exact main (.alt a b) (fun k hk => by simp [kidsX] at hk; rcases hk with rfl | rfl; exact iha; exact ihb)
  | star a iha => exact main (.star a) (fun k hk => by simp [kidsX] at hk; subst hk; exact iha)
theorem rx_May {x : Rx} (ok : okX x) (hm : mayX x = true) {P : Nat → Prop} {cx : List AV} {H : Heap} {Q : End → Heap → Prop} (hx : ReV P H x cx) (h : ∀ H', Ext H.size H H' → Q (.ret (.bool true)) H') : wpf ⟨bt.get, o⟩ F_regex_May [.agg cx] H Q := by
  rw [fn_regex_May (ho _ _ _ (by decide))]
  simp only [mayX, Bool.and_eq_true, decide_eq_true_eq] at hm
  obtain ⟨k, v, w, rfl, ⟨v1, v2⟩, w1, w2⟩ := hx.form
  have x1 : Ext H.size H (H.push (.cells [.int .i64 k, v, w] .own)) := Ext.push (Nat.le_refl _)
  have g1 : (H.push (.cells [.int .i64 k, v, w] .own)).get H.size = .cells [.int .i64 k, v, w] .own := Heap.get_push_self
  have s1 : (H.push (.cells [.int .i64 k, v, w] .own)).size = H.size + 1 := Heap.size_push _ _
  simp only [bd_regex_May, go_sem, zA, zB, zC, reduceIte, zD, zE, zF, zG, zH, zI, reduceCtorEq, zJ, zK, zL, zM, zN, zO, zP, v1, v2, w1, w2]
  generalize H.push (.cells [.int .i64 k, v, w] .own) = H1 at x1 g1 s1 ⊢
  rw [fn_regex_within (ho _ _ _ (by decide))]
  simp only [bd_regex_within, go_sem, zA, zB, zC, reduceIte, zD, zE, zF, zG, zH, zI, reduceCtorEq, zJ, zK, zL, zM, zN, zO, zP, v1, v2, w1, w2]
  have gA : (((H1.push (.cells [.int .i64 k, v, w] .own)).push (.cells [.int .i64 60] .own)).push (.cells [.fn F_regex_within_1 [.ptr (H1.size + 1) 0, .ptr (H1.size + 1 + 1) 0]] .own)).get H1.size = .cells [.int .i64 k, v, w] .own := by
    rw [Heap.get_push_lt (by rw [Heap.size_push, Heap.size_push]; omega), Heap.get_push_lt (by rw [Heap.size_push]; omega), Heap.get_push_self]
  have gB : (((H1.push (.cells [.int .i64 k, v, w] .own)).push (.cells [.int .i64 60] .own)).push (.cells [.fn F_regex_within_1 [.ptr (H1.size + 1) 0, .ptr (H1.size + 1 + 1) 0]] .own)).get (H1.size + 1) = .cells [.int .i64 60] .own := by
    rw [Heap.get_push_lt (by rw [Heap.size_push, Heap.size_push]; omega), Heap.get_push_eq (by rw [Heap.size_push])]
  have gC : (((H1.push (.cells [.int .i64 k, v, w] .own)).push (.cells [.int .i64 60] .own)).push (.cells [.fn F_regex_within_1 [.ptr (H1.size + 1) 0, .ptr (H1.size + 1 + 1) 0]] .own)).get (H1.size + 1 + 1) = .cells [.fn F_regex_within_1 [.ptr (H1.size + 1) 0, .ptr (H1.size + 1 + 1) 0]] .own :=
    Heap.get_push_eq (by rw [Heap.size_push, Heap.size_push])
  have xA : Ext H1.size H1 (((H1.push (.cells [.int .i64 k, v, w] .own)).push (.cells [.int .i64 60] .own)).push (.cells [.fn F_regex_within_1 [.ptr (H1.size + 1) 0, .ptr (H1.size + 1 + 1) 0]] .own)) :=
    ((Ext.push (Nat.le_refl _)).trans (Ext.push (by rw [Heap.size_push]; omega))).trans (Ext.push (by rw [Heap.size_push, Heap.size_push]; omega))
  generalize (((H1.push (.cells [.int .i64 k, v, w] .own)).push (.cells [.int .i64 60] .own)).push (.cells [.fn F_regex_within_1 [.ptr (H1.size + 1) 0, .ptr (H1.size + 1 + 1) 0]] .own)) = HA at gA gB gC xA ⊢
  have sA := Heap.lt_of_get (H := HA) (b := H1.size + 1 + 1) (by rw [gC]; simp)
  simp only [go_sem, zA, zB, zC, reduceIte, zD, zE, zF, zG, zH, zI, reduceCtorEq, zJ, zK, zL, zM, zN, zO, zP, gA]
  refine rx_w1 ho x 60 1 (H1.size + 1) (H1.size + 1 + 1) _ _ _ hm.1 (by omega) (by omega) (by omega) gB gC (hx.keep fun b p1 p2 => ⟨by rw [xA.2 b (by omega), x1.2 b p2], by omega⟩) fun H2 f2 _ => ?_
  have e2 : Ext H.size H H2 := ⟨by have := f2.1; omega, fun b hb => by rw [f2.2 b (by omega) (by simp; omega), xA.2 b (by omega), x1.2 b hb]⟩
  have g2 : H2.get H.size = .cells [.int .i64 k, v, w] .own := by rw [f2.2 _ (by omega) (by simp; omega), xA.2 _ (by omega), g1]
  simp only [go_sem, zA, zB, zC, reduceIte, zD, zE, zF, zG, zH, zI, reduceCtorEq, zJ, zK, zL, zM, zN, zO, zP, g2, v1, v2, w1, w2]
  refine rx_may ho x ok P _ _ _ (hx.keep fun b p1 p2 => ⟨e2.2 b p2, p1⟩) fun H3 x3 => ?_
  simp only [go_sem, zA, zB, zC, reduceIte, zD, zE, zF, zG, zH, zI, reduceCtorEq, zJ, zK, zL, zM, zN, zO, zP]
  exact h H3 (e2.trans (x3.le e2.1))
end
end Go.Ev
