/- Several texts of this claim, joined. -/
import Derived.Test.YtimbiogcllmalaaDoorXH

/- Package runes: Not, Or, Same. -/
namespace Go.Ev
open Go
set_option linter.unusedSimpArgs false
set_option linter.unusedVariables false
set_option maxRecDepth 8000

/-- What runes.Not holds while it works. -/
structure NotS (p3 p4 n0 : Nat) (H : Heap) (k : Nat) (acc : List S) (ov : AV) : Prop where
  at_ : H.get p4 = .cells [.int .i64 k] .own
  g3 : H.get p3 = .cells [ov] .own
  sl : Sl n0 H 2 (scells acc) acc.length ov
  ne : p3 ≠ p4
  l3 : p3 < n0
  l4 : p4 < n0
  sz : n0 ≤ H.size
/-- All below a bound stays but two blocks. -/
def Fr2 (p3 p4 n0 : Nat) (H H' : Heap) : Prop := H.size ≤ H'.size ∧ ∀ c, c < n0 → c ≠ p3 → c ≠ p4 → H'.get c = H.get c
theorem Fr2.refl {p3 p4 n0 H} : Fr2 p3 p4 n0 H H := ⟨Nat.le_refl _, fun _ _ _ _ => rfl⟩
theorem Fr2.trans {p3 p4 n0 H H1 H2} (h : Fr2 p3 p4 n0 H H1) (k : Fr2 p3 p4 n0 H1 H2) : Fr2 p3 p4 n0 H H2 := ⟨Nat.le_trans h.1 k.1, fun c h1 h2 h3 => by rw [k.2 c h1 h2 h3, h.2 c h1 h2 h3]⟩

section
variable {o : CallF} (ho : OvOnly o)
include ho

theorem n_upTo {p3 p4 n0 k n : Nat} {acc : List S} {ov : AV} {H : Heap} (hN : NotS p3 p4 n0 H k acc ov) (ha : acc.length ≤ 1000000) {Q : End → Heap → Prop}
    (h : ∀ H' ov', Fr2 p3 p4 n0 H H' → NotS p3 p4 n0 H' k (if k < n then acc ++ [(k, n)] else acc) ov' → (∀ c, c < H.size → c ≠ p3 → (∀ s o n, ov ≠ .osl s c o n) → H'.get c = H.get c) → Q (.ret (.tup [])) H') : wpf ⟨bt.get, o⟩ F_runes_Not_1 [.int .i64 (n : Int), .ptr p4 0, .ptr p3 0] H Q := by
  rw [fn_runes_Not_1 (ho _ _ _ (by decide))]
  have g3 := hN.g3
  have hS := hN.sl
  have g4 := hN.at_
  have hsz := hN.sz
  have l3 := hN.l3
  have l4 := hN.l4
  by_cases c : k < n
  · have c' : (k : Int) < (n : Int) := by omega
    rw [if_pos c] at h
    obtain ⟨nb, H', ea, hx1, hsl⟩ := append_spec (bytes := 16) (ys := [.int .i64 (k : Int), .int .i64 (n : Int)]) (k := 1) (Sl.push (x := .cells [.int .i64 (k : Int), .int .i64 (n : Int)] .own) hS) (by rw [Heap.size_push]; omega) (by omega) rfl (by omega) (by omega)
    have q3 : H'.get p3 = .cells [ov] .own := by rw [hx1.2 p3 l3, Heap.get_push_lt (by omega), g3]
    have q4 : H'.get p4 = .cells [.int .i64 k] .own := by rw [hx1.2 p4 l4, Heap.get_push_lt (by omega), g4]
    have lt3 : p3 < H'.size := Heap.lt_of_get (by rw [q3]; simp)
    simp only [bd_runes_Not_1, go_sem, seqK_normal, blockK_normal, blockK_exit, reduceIte, Nat.reduceEqDiff, Nat.reduceAdd, Nat.reduceSub, Nat.reduceMul, Nat.reduceLeDiff, Nat.reduceLT, reduceCtorEq, Int.reduceToNat, Int.reduceLT, Int.reduceLE, Int.reduceEq, Int.reduceAdd, Int.reduceSub, Int.reduceMul, g4, g3, c', ea, q3]
    have hsz' := hx1.1
    rw [Heap.size_push] at hsz'
    refine h _ _ ⟨by rw [Heap.size_set]; omega, fun d h1 h2 h3 => ?_⟩ ⟨by rw [Heap.get_set_ne (Ne.symm hN.ne), q4], Heap.get_set_self lt3, ?_, hN.ne, l3, l4, by rw [Heap.size_set]; omega⟩ (fun d h1 h2 h3 => ?_)
    · rw [Heap.get_set_ne h2, hx1.2 d h1, Heap.get_push_lt (by omega)]
    · rw [scells_app, List.length_append]
      exact Sl.set hsl l3
    · rw [Heap.get_set_ne h2, append_frame (by omega) ea hS.form (c := d) (by rw [Heap.size_push]; omega) h3, Heap.get_push_lt h1]
  · have c' : ¬ (k : Int) < (n : Int) := by omega
    rw [if_neg c] at h
    simp only [bd_runes_Not_1, go_sem, seqK_normal, blockK_normal, blockK_exit, reduceIte, Nat.reduceEqDiff, Nat.reduceAdd, Nat.reduceSub, Nat.reduceMul, Nat.reduceLeDiff, Nat.reduceLT, reduceCtorEq, Int.reduceToNat, Int.reduceLT, Int.reduceLE, Int.reduceEq, Int.reduceAdd, Int.reduceSub, Int.reduceMul, g4, c']
    exact h _ _ Fr2.refl hN (fun _ _ _ _ => rfl)

theorem n_loop {p3 p4 n0 rb : Nat} {l : List S} {v : AV} (hl : l.length ≤ 100000) (hrb : 0 < l.length → rb < n0 ∧ rb ≠ p3 ∧ rb ≠ p4) {H0 : Heap} {Q : Ctl → St → Prop} : ∀ (r : List S) (i k : Nat) (acc : List S) (ov : AV) (H : Heap), l.drop i = r → i ≤ l.length → acc.length ≤ i → Rd H 2 (scells l) l.length v rb → Fr2 p3 p4 n0 H0 H → NotS p3 p4 n0 H k acc ov →
    (∀ (H' : Heap) (k' : Nat) (acc' : List S) ov' x1 x2 x3 x4 t, Fr2 p3 p4 n0 H0 H' → NotS p3 p4 n0 H' k' acc' ov' → acc' ++ gapsF k' [] = acc ++ gapsF k r → acc'.length ≤ l.length → Q (.exit 0) { p := [(3, .ptr p3 0), (4, .ptr p4 0), (5, .fn F_runes_Not_1 [.ptr p4 0, .ptr p3 0]), (10, x1), (11, x2), (12, x3), (13, x4)], t := t, H := H', d := [], u := .norm }) →
    wpl ⟨bt.get, o⟩ [3, 4, 5, 10, 11, 12] lb_runes_Not_0 { p := [(3, .ptr p3 0), (4, .ptr p4 0), (5, .fn F_runes_Not_1 [.ptr p4 0, .ptr p3 0]), (10, v), (11, .int .i64 l.length), (12, .int .i64 i)], t := [], H := H, d := [], u := .norm } Q
  | [], i, k, acc, ov, H, hd, hi, ha, hR, hf, hN, hQ => by
    have : l.length ≤ i := List.drop_eq_nil_iff.1 hd
    rw [wpl_step]
    have h1 : ¬((i : Int) < (l.length : Int)) := by omega
    simp only [lb_runes_Not_0, go_sem, seqK_normal, blockK_normal, blockK_exit, reduceIte, Nat.reduceEqDiff, Nat.reduceAdd, Nat.reduceSub, Nat.reduceMul, Nat.reduceLeDiff, Nat.reduceLT, reduceCtorEq, Int.reduceToNat, Int.reduceLT, Int.reduceLE, Int.reduceEq, Int.reduceAdd, Int.reduceSub, Int.reduceMul, h1]
    exact hQ H k acc ov _ _ _ _ _ hf hN rfl (by omega)
  | x :: r, i, k, acc, ov, H, hd, hi, ha, hR, hf, hN, hQ => by
    obtain ⟨h0, h1, h2⟩ := list_at hd
    obtain ⟨⟨u, hg⟩, hel, _⟩ := hR.pos (by omega)
    have el := hel i h1
    obtain ⟨c1, c2⟩ := scells_at h0
    have iw := wsucc (show i ≤ 1000000000 by omega)
    rw [wpl_step]
    have h1' : ((i : Int) < (l.length : Int)) := by omega
    simp only [lb_runes_Not_0, go_sem, seqK_normal, blockK_normal, blockK_exit, reduceIte, Nat.reduceEqDiff, Nat.reduceAdd, Nat.reduceSub, Nat.reduceMul, Nat.reduceLeDiff, Nat.reduceLT, reduceCtorEq, Int.reduceToNat, Int.reduceLT, Int.reduceLE, Int.reduceEq, Int.reduceAdd, Int.reduceSub, Int.reduceMul, h1', el, hg, c1, c2, S.cells]
    have hsz := hN.sz
    have l3 := hN.l3
    have l4 := hN.l4
    have xx : Fr2 p3 p4 n0 H (H.push (.cells [.int .i64 (x.1 : Int), .int .i64 (x.2 : Int)] .own)) := ⟨by rw [Heap.size_push]; omega, fun c h1 _ _ => Heap.get_push_lt (by omega)⟩
    have N1 : NotS p3 p4 n0 (H.push (.cells [.int .i64 (x.1 : Int), .int .i64 (x.2 : Int)] .own)) k acc ov :=
      ⟨by rw [Heap.get_push_lt (by omega), hN.at_], by rw [Heap.get_push_lt (by omega), hN.g3], hN.sl.push, hN.ne, l3, l4, by rw [Heap.size_push]; omega⟩
    have hov : ∀ s o n, ov ≠ .osl s H.size o n := by
      intro s o n e
      rcases hN.sl with ⟨h1, _⟩ | ⟨ob, h1, h2, h3, _⟩
      · rw [h1] at e; cases e
      · rw [h1] at e; injection e with _ e
        have := Heap.lt_of_get (H := H) (b := ob) (by rw [h3]; simp)
        omega
    refine n_upTo ho (n := x.1) N1 (by omega) fun H1 ov1 f1 M1 keep1 => ?_
    have e7 : H1.get H.size = .cells [.int .i64 (x.1 : Int), .int .i64 (x.2 : Int)] .own := by rw [keep1 H.size (by rw [Heap.size_push]; omega) (by omega) hov, Heap.get_push_self]
    have g4 := M1.at_
    have lt4 : p4 < H1.size := Heap.lt_of_get (by rw [g4]; simp)
    simp only [go_sem, seqK_normal, blockK_normal, blockK_exit, reduceIte, Nat.reduceEqDiff, Nat.reduceAdd, Nat.reduceSub, Nat.reduceMul, Nat.reduceLeDiff, Nat.reduceLT, reduceCtorEq, Int.reduceToNat, Int.reduceLT, Int.reduceLE, Int.reduceEq, Int.reduceAdd, Int.reduceSub, Int.reduceMul, e7, g4, iw]
    have ff : Fr2 p3 p4 n0 H (H1.set p4 (.cells [.int .i64 (x.2 : Int)] .own)) := (xx.trans f1).trans ⟨Nat.le_refl _, fun c _ _ h3 => Heap.get_set_ne h3⟩
    have N2 : NotS p3 p4 n0 (H1.set p4 (.cells [.int .i64 (x.2 : Int)] .own)) x.2 (if k < x.1 then acc ++ [(k, x.1)] else acc) ov1 :=
      ⟨Heap.get_set_self lt4, by rw [Heap.get_set_ne hN.ne, M1.g3], M1.sl.set l4, hN.ne, l3, l4, by rw [Heap.size_set]; exact M1.sz⟩
    have hal : (if k < x.1 then acc ++ [(k, x.1)] else acc).length ≤ i + 1 := by
      split
      · rw [List.length_append]; simp only [List.length_cons, List.length_nil]; omega
      · omega
    refine n_loop hl hrb r (i + 1) x.2 _ ov1 _ h2 (by omega) hal (hR.keep fun hp => by obtain ⟨a1, a2, a3⟩ := hrb hp; exact ff.2 rb a1 a2 a3) (hf.trans ff) N2 fun H' k' acc' ov' x1 x2 x3 x4 t q1 q2 q3 q4 => hQ H' k' acc' ov' x1 x2 x3 x4 t q1 q2 ?_ q4
    rw [q3]
    simp only [gapsF]
    split <;> simp

omit ho in
theorem gapsF_bd : ∀ {l : List S} {k : Nat}, k ≤ 1112065 → apart k l → (∀ x ∈ l, x.1 ≤ 1112065 ∧ x.2 ≤ 1112065) → (gapsF k l).length ≤ l.length + 1 ∧ ∀ x ∈ gapsF k l, x.1 ≤ 1112065 ∧ x.2 ≤ 1112065 ∧ x.1 < x.2
  | [], k, hk, _, _ => by
    simp only [gapsF]
    split
    · refine ⟨by simp, fun x hx => ?_⟩
      simp at hx; rw [hx]; simp only; omega
    · exact ⟨by simp, fun x hx => by cases hx⟩
  | y :: l, k, hk, ⟨h1, h2, h3⟩, h => by
    have hy := h y (by simp)
    have h3' : apart y.2 l := by
      cases l with
      | nil => trivial
      | cons z l => exact ⟨by have := h3.1; omega, h3.2⟩
    obtain ⟨g1, g2⟩ := gapsF_bd (l := l) (k := y.2) hy.2 h3' (fun x hx => h x (by simp [hx]))
    simp only [gapsF]
    split
    · refine ⟨by simp only [List.length_cons]; omega, fun x hx => ?_⟩
      rcases List.mem_cons.1 hx with rfl | hx
      · simp only; omega
      · exact g2 x hx
    · exact ⟨by simp only [List.length_cons]; omega, g2⟩

theorem r_Not {l : List R} {v : AV} {rb : Nat} (hl : l.length ≤ 12) (hr : ∀ r ∈ l, I32 r.lo ∧ I32 r.hi) {H : Heap} (hR : Rd H 2 (rcells l) l.length v rb) {Q : End → Heap → Prop}
    (hQ : ∀ H' v', Ext H.size H H' → Sl H.size H' 2 (rcells (notF l)) (notF l).length v' → Q (.ret v') H') : wpf ⟨bt.get, o⟩ F_runes_Not [v] H Q := by
  rw [fn_runes_Not (ho _ _ _ (by decide))]
  have e1 : ((H.push (.cells [.nils] .own)).push (.cells [.int .i64 0] .own)).get H.size = .cells [.nils] .own := by
    rw [Heap.get_push_lt (by rw [Heap.size_push]; omega), Heap.get_push_self]
  have e2 : ((H.push (.cells [.nils] .own)).push (.cells [.int .i64 0] .own)).get (H.size + 1) = .cells [.int .i64 0] .own := by
    rw [Heap.get_push_eq (by rw [Heap.size_push])]
  have x0 : Ext H.size H ((H.push (.cells [.nils] .own)).push (.cells [.int .i64 0] .own)) := (Ext.push (Nat.le_refl _)).trans (Ext.push (by rw [Heap.size_push]; omega))
  have sz0 : ((H.push (.cells [.nils] .own)).push (.cells [.int .i64 0] .own)).size = H.size + 2 := rfl
  simp only [bd_runes_Not, go_sem, seqK_normal, blockK_normal, blockK_exit, reduceIte, Nat.reduceEqDiff, Nat.reduceAdd, Nat.reduceSub, Nat.reduceMul, Nat.reduceLeDiff, Nat.reduceLT, reduceCtorEq, Int.reduceToNat, Int.reduceLT, Int.reduceLE, Int.reduceEq, Int.reduceAdd, Int.reduceSub, Int.reduceMul]
  generalize (H.push (.cells [.nils] .own)).push (.cells [.int .i64 0] .own) = G at e1 e2 x0 sz0 ⊢
  refine r_spans ho hl hr (hR.ext x0) fun H1 v1 k1 k2 => ?_
  obtain ⟨s1, s2⟩ := spansF_bd l
  have hsa : apart 0 (spansF l) := (mF_spec (l := srtS (preL l)) (fun x hx => preL_ok x (srtS_mem.1 hx)) (srtS_sorted _)).1
  obtain ⟨b, hR1, hb⟩ := k2.rd
  simp only [go_sem, seqK_normal, blockK_normal, blockK_exit, reduceIte, Nat.reduceEqDiff, Nat.reduceAdd, Nat.reduceSub, Nat.reduceMul, Nat.reduceLeDiff, Nat.reduceLT, reduceCtorEq, Int.reduceToNat, Int.reduceLT, Int.reduceLE, Int.reduceEq, Int.reduceAdd, Int.reduceSub, Int.reduceMul, hR1.len]
  have hlt : 0 < (spansF l).length → b < H1.size := fun hp => by
    obtain ⟨_, _, h3⟩ := hb hp
    exact Heap.lt_of_get (by rw [h3]; simp)
  have N0 : NotS H.size (H.size + 1) H1.size H1 0 [] .nils := ⟨by rw [k1.2 _ (by omega), e2]; rfl, by rw [k1.2 _ (by omega), e1], Sl.nil, by omega, by have := k1.1; omega, by have := k1.1; omega, Nat.le_refl _⟩
  refine n_loop ho (n0 := H1.size) (by omega) (fun hp => ⟨hlt hp, by have := (hb hp).1; omega, by have := (hb hp).1; omega⟩) (spansF l) 0 0 [] .nils H1 rfl (Nat.zero_le _) (Nat.le_refl _) hR1 Fr2.refl N0 fun H2 k' acc ov x1 x2 x3 x4 t f2 N2 hacc hal => ?_
  simp only [go_sem, seqK_normal, blockK_normal, blockK_exit, reduceIte, Nat.reduceEqDiff, Nat.reduceAdd, Nat.reduceSub, Nat.reduceMul, Nat.reduceLeDiff, Nat.reduceLT, reduceCtorEq, Int.reduceToNat, Int.reduceLT, Int.reduceLE, Int.reduceEq, Int.reduceAdd, Int.reduceSub, Int.reduceMul]
  refine n_upTo ho (n := 1112064) N2 (by omega) fun H3 ov3 f3 N3 _ => ?_
  have hg : (if k' < 1112064 then acc ++ [(k', 1112064)] else acc) = gapsF 0 (spansF l) := by
    rw [List.nil_append] at hacc
    rw [← hacc]
    simp only [gapsF]
    split <;> simp
  rw [hg] at N3
  have g3 := N3.g3
  simp only [go_sem, seqK_normal, blockK_normal, blockK_exit, reduceIte, Nat.reduceEqDiff, Nat.reduceAdd, Nat.reduceSub, Nat.reduceMul, Nat.reduceLeDiff, Nat.reduceLT, reduceCtorEq, Int.reduceToNat, Int.reduceLT, Int.reduceLE, Int.reduceEq, Int.reduceAdd, Int.reduceSub, Int.reduceMul, g3]
  obtain ⟨b1, b2⟩ := gapsF_bd (k := 0) (by omega) hsa s2
  obtain ⟨gb, hR3, _⟩ := N3.sl.rd
  refine r_ranges ho (by omega) b2 hR3 fun H4 v4 k4 s4 => ?_
  simp only [go_sem, seqK_normal, blockK_normal, blockK_exit, reduceIte, Nat.reduceEqDiff, Nat.reduceAdd, Nat.reduceSub, Nat.reduceMul, Nat.reduceLeDiff, Nat.reduceLT, reduceCtorEq, Int.reduceToNat, Int.reduceLT, Int.reduceLE, Int.reduceEq, Int.reduceAdd, Int.reduceSub, Int.reduceMul]
  have sz1 := k1.1
  have ex : Ext H.size H H3 := (x0.trans (k1.le (by omega))).trans ⟨Nat.le_trans f2.1 f3.1, fun c hc => by rw [f3.2 c (by omega) (by omega) (by omega), f2.2 c (by omega) (by omega) (by omega)]⟩
  exact hQ _ _ (ex.trans (k4.le ex.1)) (s4.frame' ex.1)
end
end Go.Ev

/- Package runes: Or, Same. -/
namespace Go.Ev
open Go
set_option linter.unusedSimpArgs false
set_option linter.unusedVariables false
set_option maxRecDepth 8000

/-- A slice of its own that may be grown: what it has is at the head of its block. -/
def Gr (n0 : Nat) (H : Heap) (sz : Nat) (cs : List AV) (n : Nat) (v : AV) : Prop :=
  (v = .nils ∧ n = 0 ∧ cs = []) ∨ ∃ b c, v = .osl sz b 0 n ∧ n0 ≤ b ∧ H.get b = .cells c .own ∧ n * sz ≤ c.length ∧ c.take (n * sz) = cs
theorem Gr.push {n0 H sz cs n v x} (h : Gr n0 H sz cs n v) : Gr n0 (H.push x) sz cs n v := by
  rcases h with h | ⟨b, c, h1, h2, h3, h4, h5⟩
  · exact .inl h
  · exact .inr ⟨b, c, h1, h2, by rw [Heap.get_push_lt (Heap.lt_of_get (by rw [h3]; simp)), h3], h4, h5⟩
theorem Sl.gr {n0 H sz cs n v} (h : Sl n0 H sz cs n v) : Gr n0 H sz cs n v := by
  rcases h with h | ⟨b, h1, h2, h3, h4, _⟩
  · exact .inl h
  · exact .inr ⟨b, cs, h1, h2, h3, by omega, by rw [← h4, List.take_length]⟩
theorem Gr.len {n0 H sz cs n v} (h : Gr n0 H sz cs n v) : cs.length = n * sz := by
  rcases h with ⟨_, rfl, rfl⟩ | ⟨b, c, _, _, _, h4, h5⟩
  · simp
  · rw [← h5, List.length_take]; omega
theorem grow_append {n0 : Nat} {H : Heap} {sz bytes : Nat} {cs ys : List AV} {n k : Nat} {v : AV} (h : Gr n0 H sz cs n v) (hn : n0 ≤ H.size) (hy : ys.length = k * sz) (h1 : (n + k) * bytes ≤ 1099511627776) (h2 : n + k ≤ 1099511627776) :
    ∃ v' H', appendA H sz bytes v k ys = some (v', H') ∧ Ext n0 H H' ∧ Gr n0 H' sz (cs ++ ys) (n + k) v' := by
  by_cases hk : k = 0
  · subst hk
    have : ys = [] := List.eq_nil_of_length_eq_zero (by omega)
    subst this
    refine ⟨v, H, ?_, Ext.refl, by simpa using h⟩
    rcases h with ⟨rfl, _⟩ | ⟨b, c, rfl, _⟩ <;> rfl
  · have hl := h.len
    rcases h with ⟨rfl, rfl, rfl⟩ | ⟨b, c, rfl, hb, hg, hl2, ht⟩
    · rw [Nat.zero_add] at *
      refine ⟨.osl sz H.size 0 k, H.push (.cells ys .own), ?_, Ext.push hn, .inr ⟨H.size, ys, rfl, hn, Heap.get_push_self, by omega, by rw [List.nil_append, ← hy, List.take_length]⟩⟩
      simp only [appendA, if_neg hk, if_pos (And.intro h1 h2)]
    · have hb' : b < H.size := Heap.lt_of_get (by rw [hg]; simp)
      refine ⟨.osl sz H.size 0 (n + k), (H.set b .dead).push (.cells (cs ++ ys) .own), ?_, (Ext.set hb).trans (Ext.push hn), .inr ⟨H.size, cs ++ ys, rfl, hn, Heap.get_push_eq (by rw [Heap.size_set]), ?_, ?_⟩⟩
      · have e : rd c 0 (n * sz) = cs := by rw [rd, List.drop_zero, ht]
        simp only [appendA, if_neg hk, hg, h1, h2, true_and, and_self, Nat.zero_add, hl2, if_true, e]
      · rw [List.length_append, hl, hy, Nat.add_mul]; omega
      · have : (n + k) * sz = (cs ++ ys).length := by rw [List.length_append, hl, hy, Nat.add_mul]
        rw [this, List.take_length]
theorem Gr.rd {n0 H sz cs n v} (h : Gr n0 H sz cs n v) (hz : ∀ b c, v = .osl sz b 0 n → H.get b = .cells c .own → c.length = n * sz) : ∃ b, Rd H sz cs n v b := by
  have hl := h.len
  rcases h with ⟨rfl, rfl, rfl⟩ | ⟨b, c, rfl, hb, hg, hl2, ht⟩
  · exact ⟨0, Rd.nil⟩
  · have := hz b c rfl hg
    rw [← this, List.take_length] at ht
    subst ht
    exact ⟨b, Rd.osl hg hl⟩

section
variable {o : CallF} (ho : OvOnly o)
include ho

theorem s_Grow {n : Nat} (hn : n ≤ 1000000) {H : Heap} {Q : End → Heap → Prop} (h : ∀ H' v, Ext H.size H H' → Gr H.size H' 2 [] 0 v → Q (.ret v) H') : wpf ⟨bt.get, o⟩ F_slices_Grow_api_Range_api_Range [.nils, .int .i64 (n : Int)] H Q := by
  rw [fn_slices_Grow_api_Range_api_Range (ho _ _ _ (by decide))]
  have z1 : ¬ (n : Int) < 0 := by omega
  have w0 : IntKind.i64.wrap 0 = 0 := by rfl
  have w1 : IntKind.i64.wrap ((n : Int) - 0) = (n : Int) := by rw [Int.sub_zero]; exact wi64 (by omega) (by omega)
  by_cases hp : n = 0
  · subst hp
    simp only [bd_slices_Grow_api_Range_api_Range, go_sem, seqK_normal, blockK_normal, blockK_exit, reduceIte, Nat.reduceEqDiff, Nat.reduceAdd, Nat.reduceSub, Nat.reduceMul, Nat.reduceLeDiff, Nat.reduceLT, reduceCtorEq, Int.reduceToNat, Int.reduceLT, Int.reduceLE, Int.reduceEq, Int.reduceAdd, Int.reduceSub, Int.reduceMul, z1, w0]
    exact h _ _ Ext.refl (.inl ⟨rfl, rfl, rfl⟩)
  · have z2 : (0 : Int) < (n : Int) := by omega
    have z3 : (n : Int) ≤ 1099511627776 := by omega
    have z4 : (n : Int) * 8 ≤ 1099511627776 := by omega
    have ea : ∀ ys : List AV, appendA H 2 8 .nils n ys = some (.osl 2 H.size 0 n, H.push (.cells ys .own)) := fun ys => by
      simp only [appendA, if_neg hp, if_pos (show n * 8 ≤ 1099511627776 ∧ n ≤ 1099511627776 by omega)]
    simp only [bd_slices_Grow_api_Range_api_Range, go_sem, seqK_normal, blockK_normal, blockK_exit, reduceIte, Nat.reduceEqDiff, Nat.reduceAdd, Nat.reduceSub, Nat.reduceMul, Nat.reduceLeDiff, Nat.reduceLT, reduceCtorEq, Int.reduceToNat, Int.reduceLT, Int.reduceLE, Int.reduceEq, Int.reduceAdd, Int.reduceSub, Int.reduceMul, z1, w0, w1, z2, z3, z4, ea]
    refine h _ _ (Ext.push (Nat.le_refl _)) (.inr ⟨H.size, _, rfl, Nat.le_refl _, Heap.get_push_self, by omega, by simp⟩)

omit ho in
/-- What an append of elements leaves can be read. -/
theorem grow_exact {n0 : Nat} {H : Heap} {sz bytes : Nat} {cs ys : List AV} {n k : Nat} {v v' : AV} {H' : Heap} (h : Gr n0 H sz cs n v) (hk : 0 < k) (hy : ys.length = k * sz) (e : appendA H sz bytes v k ys = some (v', H')) : ∃ b, v' = .osl sz b 0 (n + k) ∧ H'.get b = .cells (cs ++ ys) .own := by
  have hk0 : ¬ k = 0 := by omega
  rcases h with ⟨rfl, rfl, rfl⟩ | ⟨b, c, rfl, hb, hg, hl2, ht⟩
  · simp only [appendA, if_neg hk0] at e
    split at e
    · simp only [Option.some.injEq, Prod.mk.injEq] at e
      obtain ⟨rfl, rfl⟩ := e
      exact ⟨H.size, by rw [Nat.zero_add], Heap.get_push_self⟩
    · cases e
  · have e2 : rd c 0 (n * sz) = cs := by rw [rd, List.drop_zero, ht]
    simp only [appendA, if_neg hk0, hg, Nat.zero_add, hl2, if_true, e2, true_and] at e
    split at e
    · simp only [Option.some.injEq, Prod.mk.injEq] at e
      obtain ⟨rfl, rfl⟩ := e
      exact ⟨H.size, rfl, Heap.get_push_eq (by rw [Heap.size_set])⟩
    · cases e

theorem s_Concat {a b : List R} {va vb : AV} {ba bb ob : Nat} {H : Heap} (hla : a.length ≤ 100000) (hlb : b.length ≤ 100000) (hA : Rd H 2 (rcells a) a.length va ba) (hB : Rd H 2 (rcells b) b.length vb bb) (hO : H.get ob = .cells [va, vb] .own) {Q : End → Heap → Prop}
    (h : ∀ H' v rb, Ext H.size H H' → Rd H' 2 (rcells (a ++ b)) (a ++ b).length v rb → Q (.ret v) H') : wpf ⟨bt.get, o⟩ F_slices_Concat_api_Range_api_Range [.slice ob 0 2 2] H Q := by
  rw [fn_slices_Concat_api_Range_api_Range (ho _ _ _ (by decide))]
  have la := hA.len
  have lb := hB.len
  have w1 := wnat (a := 0) (b := a.length) (by omega)
  have w1' : IntKind.i64.wrap (a.length : Int) = (a.length : Int) := wi64 (by omega) (by omega)
  have w2 := wnat (a := a.length) (b := b.length) (by omega)
  have z1 : ¬ (a.length : Int) < 0 := by omega
  have z2 : ¬ ((a.length + b.length : Nat) : Int) < 0 := by omega
  have o1 : IntKind.i64.wrap 1 = 1 := by rfl
  have o2 : IntKind.i64.wrap 2 = 2 := by rfl
  have hob : ob < H.size := Heap.lt_of_get (by rw [hO]; simp)
  simp only [bd_slices_Concat_api_Range_api_Range, go_sem, seqK_normal, blockK_normal, blockK_exit, reduceIte, Nat.reduceEqDiff, Nat.reduceAdd, Nat.reduceSub, Nat.reduceMul, Nat.reduceLeDiff, Nat.reduceLT, reduceCtorEq, Int.reduceToNat, Int.reduceLT, Int.reduceLE, Int.reduceEq, Int.reduceAdd, Int.reduceSub, Int.reduceMul]
  rw [wpl_step]
  simp only [lb_slices_Concat_api_Range_api_Range_0, go_sem, seqK_normal, blockK_normal, blockK_exit, reduceIte, Nat.reduceEqDiff, Nat.reduceAdd, Nat.reduceSub, Nat.reduceMul, Nat.reduceLeDiff, Nat.reduceLT, reduceCtorEq, Int.reduceToNat, Int.reduceLT, Int.reduceLE, Int.reduceEq, Int.reduceAdd, Int.reduceSub, Int.reduceMul, hO, la, w1', z1, o1]
  rw [wpl_step]
  simp only [go_sem, seqK_normal, blockK_normal, blockK_exit, reduceIte, Nat.reduceEqDiff, Nat.reduceAdd, Nat.reduceSub, Nat.reduceMul, Nat.reduceLeDiff, Nat.reduceLT, reduceCtorEq, Int.reduceToNat, Int.reduceLT, Int.reduceLE, Int.reduceEq, Int.reduceAdd, Int.reduceSub, Int.reduceMul, hO, lb, w2, z2, o2]
  rw [wpl_step]
  simp only [go_sem, seqK_normal, blockK_normal, blockK_exit, reduceIte, Nat.reduceEqDiff, Nat.reduceAdd, Nat.reduceSub, Nat.reduceMul, Nat.reduceLeDiff, Nat.reduceLT, reduceCtorEq, Int.reduceToNat, Int.reduceLT, Int.reduceLE, Int.reduceEq, Int.reduceAdd, Int.reduceSub, Int.reduceMul]
  refine s_Grow ho (by omega) fun H1 v1 x1 g1 => ?_
  have q1 : H1.get ob = .cells [va, vb] .own := by rw [x1.2 ob hob, hO]
  have A1 := hA.ext x1
  simp only [go_sem, seqK_normal, blockK_normal, blockK_exit, reduceIte, Nat.reduceEqDiff, Nat.reduceAdd, Nat.reduceSub, Nat.reduceMul, Nat.reduceLeDiff, Nat.reduceLT, reduceCtorEq, Int.reduceToNat, Int.reduceLT, Int.reduceLE, Int.reduceEq, Int.reduceAdd, Int.reduceSub, Int.reduceMul]
  rw [wpl_step]
  obtain ⟨v2, H2, e2, x2, g2⟩ := grow_append (bytes := 8) (ys := rcells a) (k := a.length) g1 x1.1 (rcells_len a) (by omega) (by omega)
  simp only [lb_slices_Concat_api_Range_api_Range_1, go_sem, seqK_normal, blockK_normal, blockK_exit, reduceIte, Nat.reduceEqDiff, Nat.reduceAdd, Nat.reduceSub, Nat.reduceMul, Nat.reduceLeDiff, Nat.reduceLT, reduceCtorEq, Int.reduceToNat, Int.reduceLT, Int.reduceLE, Int.reduceEq, Int.reduceAdd, Int.reduceSub, Int.reduceMul, q1, A1.read, rc_one, e2, o1]
  have q2 : H2.get ob = .cells [va, vb] .own := by rw [x2.2 ob hob, q1]
  have B2 := (hB.ext x1).keep (H' := H2) fun hp => x2.2 bb (hB.lt hp)
  rw [wpl_step]
  rw [Nat.zero_add] at g2
  obtain ⟨v3, H3, e3, x3, g3⟩ := grow_append (bytes := 8) (ys := rcells b) (k := b.length) g2 (Nat.le_trans x1.1 x2.1) (rcells_len b) (by omega) (by omega)
  simp only [go_sem, seqK_normal, blockK_normal, blockK_exit, reduceIte, Nat.reduceEqDiff, Nat.reduceAdd, Nat.reduceSub, Nat.reduceMul, Nat.reduceLeDiff, Nat.reduceLT, reduceCtorEq, Int.reduceToNat, Int.reduceLT, Int.reduceLE, Int.reduceEq, Int.reduceAdd, Int.reduceSub, Int.reduceMul, q2, B2.read, rc_one, e3, o2]
  rw [wpl_step]
  simp only [go_sem, seqK_normal, blockK_normal, blockK_exit, reduceIte, Nat.reduceEqDiff, Nat.reduceAdd, Nat.reduceSub, Nat.reduceMul, Nat.reduceLeDiff, Nat.reduceLT, reduceCtorEq, Int.reduceToNat, Int.reduceLT, Int.reduceLE, Int.reduceEq, Int.reduceAdd, Int.reduceSub, Int.reduceMul]
  have hl3 := g3.len
  have hn : (a ++ b).length = a.length + b.length := List.length_append
  have xx : Ext H.size H H3 := (x1.trans x2).trans x3
  rw [List.nil_append, ← rcells_app] at g3
  by_cases hb0 : b.length = 0
  · have hbe : b = [] := List.eq_nil_of_length_eq_zero hb0
    subst hbe
    have e3' : appendA H2 2 8 v2 0 [] = some (v2, H2) := by
      rcases g2 with ⟨rfl, _⟩ | ⟨_, _, rfl, _⟩ <;> rfl
    have : (v3, H3) = (v2, H2) := by
      have e : appendA H2 2 8 v2 0 [] = some (v3, H3) := e3
      rw [e3'] at e; exact (Option.some.inj e).symm
    obtain ⟨rfl, rfl⟩ := Prod.mk.inj this
    by_cases ha0 : a.length = 0
    · have hae : a = [] := List.eq_nil_of_length_eq_zero ha0
      subst hae
      refine h _ _ 0 xx ⟨?_, fun hp => by simp at hp, fun _ => ?_, rfl⟩
      · rcases g2 with ⟨rfl, _⟩ | ⟨_, _, rfl, _⟩ <;> rfl
      · rcases g2 with ⟨rfl, _⟩ | ⟨b', _, rfl, _⟩
        · exact .inl rfl
        · exact .inr (.inr ⟨b', rfl⟩)
    · obtain ⟨rb, hv, hg⟩ := grow_exact g1 (by omega) (rcells_len a) e2
      rw [Nat.zero_add] at hv
      subst hv
      rw [List.nil_append] at hg
      refine h _ _ rb xx ?_
      rw [List.append_nil]
      exact Rd.osl hg (rcells_len a)
  · obtain ⟨rb, hv, hg⟩ := grow_exact g2 (by omega) (rcells_len b) e3
    subst hv
    refine h _ _ rb xx ?_
    rw [List.nil_append, ← rcells_app] at hg
    rw [hn]
    exact Rd.osl hg (by rw [rcells_len, hn])

theorem r_Or {a b : List R} {va vb : AV} {ba bb : Nat} {H : Heap} (hl : a.length + b.length ≤ 12) (hra : ∀ r ∈ a, I32 r.lo ∧ I32 r.hi) (hrb : ∀ r ∈ b, I32 r.lo ∧ I32 r.hi) (hA : Rd H 2 (rcells a) a.length va ba) (hB : Rd H 2 (rcells b) b.length vb bb) (hav : AV.cells va = [va]) (hbv : AV.cells vb = [vb]) {Q : End → Heap → Prop}
    (hQ : ∀ H' v', Ext H.size H H' → Sl H.size H' 2 (rcells (normF (a ++ b))) (normF (a ++ b)).length v' → Q (.ret v') H') : wpf ⟨bt.get, o⟩ F_runes_Or [va, vb] H Q := by
  rw [fn_runes_Or (ho _ _ _ (by decide))]
  simp only [bd_runes_Or, go_sem, seqK_normal, blockK_normal, blockK_exit, reduceIte, Nat.reduceEqDiff, Nat.reduceAdd, Nat.reduceSub, Nat.reduceMul, Nat.reduceLeDiff, Nat.reduceLT, reduceCtorEq, Int.reduceToNat, Int.reduceLT, Int.reduceLE, Int.reduceEq, Int.reduceAdd, Int.reduceSub, Int.reduceMul, hav, hbv]
  have xp : Ext H.size H (H.push (.cells [va, vb] .own)) := Ext.push (Nat.le_refl _)
  refine s_Concat ho (by omega) (by omega) (hA.ext xp) (hB.ext xp) Heap.get_push_self fun H1 v rb x1 R1 => ?_
  simp only [go_sem, seqK_normal, blockK_normal, blockK_exit, reduceIte, Nat.reduceEqDiff, Nat.reduceAdd, Nat.reduceSub, Nat.reduceMul, Nat.reduceLeDiff, Nat.reduceLT, reduceCtorEq, Int.reduceToNat, Int.reduceLT, Int.reduceLE, Int.reduceEq, Int.reduceAdd, Int.reduceSub, Int.reduceMul]
  refine r_Norm ho (by rw [List.length_append]; omega) (fun r hr => (List.mem_append.1 hr).elim (hra r) (hrb r)) R1 fun H2 v2 x2 s2 => ?_
  simp only [go_sem, seqK_normal, blockK_normal, blockK_exit, reduceIte, Nat.reduceEqDiff, Nat.reduceAdd, Nat.reduceSub, Nat.reduceMul, Nat.reduceLeDiff, Nat.reduceLT, reduceCtorEq, Int.reduceToNat, Int.reduceLT, Int.reduceLE, Int.reduceEq, Int.reduceAdd, Int.reduceSub, Int.reduceMul]
  have ex : Ext H.size H H1 := xp.trans (x1.le (by rw [Heap.size_push]; omega))
  exact hQ _ _ (ex.trans (x2.le ex.1)) (s2.frame' ex.1)

omit ho in
theorem eq_loop {a b : List R} {va vb : AV} {ba bb : Nat} (hla : a.length ≤ 1000000) (hlen : a.length = b.length) {H : Heap} (hA : Rd H 2 (rcells a) a.length va ba) (hB : Rd H 2 (rcells b) b.length vb bb) {Q : Ctl → St → Prop} : ∀ (ra rb : List R) (i : Nat), a.drop i = ra → b.drop i = rb → i ≤ a.length →
    (ra = rb → ∀ σ : St, σ.H = H → σ.d = [] → Q (.exit 0) σ) → (ra ≠ rb → ∀ σ : St, σ.H = H → σ.d = [] → lk 4 σ.p = some (.bool false) → Q .ret σ) →
    wpl ⟨bt.get, o⟩ [0, 1, 12, 13] lb_slices_Equal_api_Range_api_Range_0 { p := [(0, va), (1, vb), (12, .int .i64 a.length), (13, .int .i64 i)], t := [], H := H, d := [], u := .norm } Q
  | [], rb, i, h1, h2, hi, hT, hF => by
    have : a.length ≤ i := List.drop_eq_nil_iff.1 h1
    have hb : rb = [] := by rw [← h2]; exact List.drop_eq_nil_iff.2 (by omega)
    rw [wpl_step]
    have c1 : ¬((i : Int) < (a.length : Int)) := by omega
    simp only [lb_slices_Equal_api_Range_api_Range_0, go_sem, seqK_normal, blockK_normal, blockK_exit, reduceIte, Nat.reduceEqDiff, Nat.reduceAdd, Nat.reduceSub, Nat.reduceMul, Nat.reduceLeDiff, Nat.reduceLT, reduceCtorEq, Int.reduceToNat, Int.reduceLT, Int.reduceLE, Int.reduceEq, Int.reduceAdd, Int.reduceSub, Int.reduceMul, c1]
    exact hT hb.symm _ rfl rfl
  | x :: ra, [], i, h1, h2, hi, hT, hF => by
    obtain ⟨_, hia, _⟩ := list_at h1
    have : b.length ≤ i := List.drop_eq_nil_iff.1 h2
    omega
  | x :: ra, y :: rb, i, h1, h2, hi, hT, hF => by
    obtain ⟨a0, a1, a2⟩ := list_at h1
    obtain ⟨b0, b1, b2⟩ := list_at h2
    obtain ⟨⟨u, ga⟩, ela, _⟩ := hA.pos (by omega)
    obtain ⟨⟨u', gb⟩, elb, _⟩ := hB.pos (by omega)
    have ea := ela i a1
    have eb := elb i b1
    obtain ⟨p1, p2⟩ := rcells_at a0
    obtain ⟨q1, q2⟩ := rcells_at b0
    rw [wpl_step]
    have c1 : ((i : Int) < (a.length : Int)) := by omega
    have iw := wsucc (show i ≤ 1000000000 by omega)
    by_cases e1 : x.lo = y.lo
    · by_cases e2 : x.hi = y.hi
      · have exy : x = y := by cases x; cases y; simp_all
        subst exy
        simp only [lb_slices_Equal_api_Range_api_Range_0, go_sem, seqK_normal, blockK_normal, blockK_exit, reduceIte, Nat.reduceEqDiff, Nat.reduceAdd, Nat.reduceSub, Nat.reduceMul, Nat.reduceLeDiff, Nat.reduceLT, reduceCtorEq, Int.reduceToNat, Int.reduceLT, Int.reduceLE, Int.reduceEq, Int.reduceAdd, Int.reduceSub, Int.reduceMul, c1, ea, eb, ga, gb, p1, p2, q1, q2, R.cells, eqCells, eqCell, iw]
        exact eq_loop hla hlen hA hB ra rb (i + 1) a2 b2 (by omega) (fun h => hT (by rw [h])) (fun h => hF (by simpa using h))
      · simp only [lb_slices_Equal_api_Range_api_Range_0, go_sem, seqK_normal, blockK_normal, blockK_exit, reduceIte, Nat.reduceEqDiff, Nat.reduceAdd, Nat.reduceSub, Nat.reduceMul, Nat.reduceLeDiff, Nat.reduceLT, reduceCtorEq, Int.reduceToNat, Int.reduceLT, Int.reduceLE, Int.reduceEq, Int.reduceAdd, Int.reduceSub, Int.reduceMul, c1, ea, eb, ga, gb, p1, p2, q1, q2, R.cells, eqCells, eqCell, e1, e2]
        exact hF (by intro h; injection h with h _; rw [h] at e2; exact e2 rfl) _ rfl rfl rfl
    · simp only [lb_slices_Equal_api_Range_api_Range_0, go_sem, seqK_normal, blockK_normal, blockK_exit, reduceIte, Nat.reduceEqDiff, Nat.reduceAdd, Nat.reduceSub, Nat.reduceMul, Nat.reduceLeDiff, Nat.reduceLT, reduceCtorEq, Int.reduceToNat, Int.reduceLT, Int.reduceLE, Int.reduceEq, Int.reduceAdd, Int.reduceSub, Int.reduceMul, c1, ea, eb, ga, gb, p1, p2, q1, q2, R.cells, eqCells, eqCell, e1]
      exact hF (by intro h; injection h with h _; rw [h] at e1; exact e1 rfl) _ rfl rfl rfl

theorem r_Same {a b : List R} {va vb : AV} {ba bb : Nat} (hla : a.length ≤ 1000000) (hlb : b.length ≤ 1000000) {H : Heap} (hA : Rd H 2 (rcells a) a.length va ba) (hB : Rd H 2 (rcells b) b.length vb bb) {Q : End → Heap → Prop} (h : Q (.ret (.bool (decide (a = b)))) H) : wpf ⟨bt.get, o⟩ F_runes_Same [va, vb] H Q := by
  rw [fn_runes_Same (ho _ _ _ (by decide))]
  simp only [bd_runes_Same, go_sem, seqK_normal, blockK_normal, blockK_exit, reduceIte, Nat.reduceEqDiff, Nat.reduceAdd, Nat.reduceSub, Nat.reduceMul, Nat.reduceLeDiff, Nat.reduceLT, reduceCtorEq, Int.reduceToNat, Int.reduceLT, Int.reduceLE, Int.reduceEq, Int.reduceAdd, Int.reduceSub, Int.reduceMul]
  rw [fn_slices_Equal_api_Range_api_Range (ho _ _ _ (by decide))]
  simp only [bd_slices_Equal_api_Range_api_Range, go_sem, seqK_normal, blockK_normal, blockK_exit, reduceIte, Nat.reduceEqDiff, Nat.reduceAdd, Nat.reduceSub, Nat.reduceMul, Nat.reduceLeDiff, Nat.reduceLT, reduceCtorEq, Int.reduceToNat, Int.reduceLT, Int.reduceLE, Int.reduceEq, Int.reduceAdd, Int.reduceSub, Int.reduceMul, hA.len, hB.len]
  by_cases hl : a.length = b.length
  · have hl' : (a.length : Int) = (b.length : Int) := by omega
    simp only [go_sem, seqK_normal, blockK_normal, blockK_exit, reduceIte, Nat.reduceEqDiff, Nat.reduceAdd, Nat.reduceSub, Nat.reduceMul, Nat.reduceLeDiff, Nat.reduceLT, reduceCtorEq, Int.reduceToNat, Int.reduceLT, Int.reduceLE, Int.reduceEq, Int.reduceAdd, Int.reduceSub, Int.reduceMul, hl', hA.len]
    rw [← hl']
    refine eq_loop hla hl hA hB a b 0 rfl rfl (Nat.zero_le _) (fun e σ k1 k2 => ?_) (fun e σ k1 k2 k3 => ?_)
    · simp only [go_sem, seqK_normal, blockK_normal, blockK_exit, reduceIte, Nat.reduceEqDiff, Nat.reduceAdd, Nat.reduceSub, Nat.reduceMul, Nat.reduceLeDiff, Nat.reduceLT, reduceCtorEq, Int.reduceToNat, Int.reduceLT, Int.reduceLE, Int.reduceEq, Int.reduceAdd, Int.reduceSub, Int.reduceMul, k1, k2]
      rw [e] at h
      simpa using h
    · simp only [go_sem, seqK_normal, blockK_normal, blockK_exit, reduceIte, Nat.reduceEqDiff, Nat.reduceAdd, Nat.reduceSub, Nat.reduceMul, Nat.reduceLeDiff, Nat.reduceLT, reduceCtorEq, Int.reduceToNat, Int.reduceLT, Int.reduceLE, Int.reduceEq, Int.reduceAdd, Int.reduceSub, Int.reduceMul, k1, k2, k3]
      simpa [e] using h
  · have hl' : ¬ (a.length : Int) = (b.length : Int) := by omega
    have hne : ¬ a = b := fun e => hl (by rw [e])
    simp only [go_sem, seqK_normal, blockK_normal, blockK_exit, reduceIte, Nat.reduceEqDiff, Nat.reduceAdd, Nat.reduceSub, Nat.reduceMul, Nat.reduceLeDiff, Nat.reduceLT, reduceCtorEq, Int.reduceToNat, Int.reduceLT, Int.reduceLE, Int.reduceEq, Int.reduceAdd, Int.reduceSub, Int.reduceMul, hl']
    simpa [hne] using h
end
end Go.Ev
