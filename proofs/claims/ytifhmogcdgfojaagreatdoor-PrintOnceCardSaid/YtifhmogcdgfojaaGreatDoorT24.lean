/- Several texts of this claim, joined. -/
import Derived.Test.YtifhmogcdgfojaaGreatDoorT23
set_option linter.unusedSimpArgs false
set_option linter.unusedVariables false

/- Package runes: what spans and ranges come to. -/
namespace Go.Ev
open Go
open Go.Ev renaming seqK_normal → zA, blockK_normal → zB, blockK_exit → zC
open Nat renaming reduceEqDiff → zD, reduceAdd → zE, reduceSub → zF, reduceMul → zG, reduceLeDiff → zH, reduceLT → zI
open Int renaming reduceToNat → zJ, reduceLT → zK, reduceLE → zL, reduceEq → zM, reduceAdd → zN, reduceSub → zO, reduceMul → zP
set_option maxRecDepth 8000
/-- A slice that can be read: its elements' cells, in a block. -/
structure Rd (H : Heap) (sz : Nat) (cs : List AV) (n : Nat) (v : AV) (b : Nat) : Prop where
  len : lenI v = some (n : Int)
  pos : 0 < n → (∃ u, H.get b = .cells cs u) ∧ (∀ i : Nat, i < n → elA sz v (.int .i64 i) = some (.ptr b (i * sz))) ∧ ((∃ c, v = .slice b 0 n c) ∨ v = .osl sz b 0 n)
  zero : n = 0 → v = .nils ∨ (∃ b c, v = .slice b 0 0 c) ∨ ∃ b, v = .osl sz b 0 0
  sz : cs.length = n * sz
theorem Rd.nil {H sz b} : Rd H sz [] 0 .nils b := ⟨rfl, fun h => absurd h (by omega), fun _ => .inl rfl, by simp⟩
theorem Rd.osl {H sz b n cs} {u : Use} (h : H.get b = .cells cs u) (hl : cs.length = n * sz) : Rd H sz cs n (.osl sz b 0 n) b :=
  ⟨rfl, fun _ => ⟨⟨u, h⟩, fun i hi => by
    have h1 : (i : Int) < (n : Int) := by omega
    simp only [elA, h1, Int.natCast_nonneg, and_self, if_true, Int.toNat_natCast, Nat.zero_add], .inr rfl⟩, fun h => .inr (.inr ⟨b, by rw [h]⟩), hl⟩
theorem Rd.slice {H sz b n cs c} {u : Use} (h : H.get b = .cells cs u) (hl : cs.length = n * sz) : Rd H sz cs n (.slice b 0 n c) b :=
  ⟨rfl, fun _ => ⟨⟨u, h⟩, fun i hi => by
    have h1 : (i : Int) < (n : Int) := by omega
    simp only [elA, h1, Int.natCast_nonneg, and_self, if_true, Int.toNat_natCast, Nat.zero_add], .inl ⟨c, rfl⟩⟩, fun h => .inr (.inl ⟨b, c, by rw [h]⟩), hl⟩
theorem Rd.keep {H H' sz cs n v b} (h : Rd H sz cs n v b) (k : 0 < n → H'.get b = H.get b) : Rd H' sz cs n v b := ⟨h.len, fun hn => by rw [k hn]; exact h.pos hn, h.zero, h.sz⟩
theorem Rd.lt {H sz cs n v b} (h : Rd H sz cs n v b) (hn : 0 < n) : b < H.size := by
  obtain ⟨⟨u, hu⟩, _⟩ := h.pos hn
  exact Heap.lt_of_get (by rw [hu]; simp)
theorem Rd.ext {H H' sz cs n v b} (h : Rd H sz cs n v b) (e : Ext H.size H H') : Rd H' sz cs n v b := h.keep fun hn => e.2 b (h.lt hn)
theorem Rd.read {H sz cs n v b} (h : Rd H sz cs n v b) : readSl H sz v = some (n, cs) := by
  have hs := h.sz
  by_cases hn : n = 0
  · subst hn
    have : cs = [] := List.eq_nil_of_length_eq_zero (by omega)
    subst this
    rcases h.zero rfl with rfl | ⟨b, c, rfl⟩ | ⟨b, rfl⟩
    · rfl
    · rfl
    · simp [readSl]
  · obtain ⟨⟨u, hu⟩, _, hv⟩ := h.pos (by omega)
    have e : rd cs 0 (n * sz) = cs := by rw [rd, List.drop_zero, ← hs, List.take_length]
    rcases hv with ⟨c, rfl⟩ | rfl
    · simp only [readSl, if_neg hn, hu, Nat.zero_add, ← hs, Nat.le_refl, if_true]
      rw [hs, e]
    · simp only [readSl, if_neg hn, hu, Nat.zero_add, ← hs, Nat.le_refl, if_true]
      rw [hs, e]
theorem Sl.rd {n0 H sz cs n v} (h : Sl n0 H sz cs n v) : ∃ b, Rd H sz cs n v b ∧ (0 < n → n0 ≤ b ∧ v = .osl sz b 0 n ∧ H.get b = .cells cs .own) := by
  rcases h with ⟨rfl, rfl, rfl⟩ | ⟨b, rfl, hb, hg, hl, hp⟩
  · exact ⟨0, Rd.nil, fun h => absurd h (by omega)⟩
  · exact ⟨b, Rd.osl hg hl, fun _ => ⟨hb, rfl, hg⟩⟩
theorem list_at {α : Type} {l : List α} {i : Nat} {c : α} {r : List α} (h : l.drop i = c :: r) : l[i]? = some c ∧ i < l.length ∧ l.drop (i + 1) = r := by
  have h0 : l[i]? = some c := by
    have := congrArg (fun l => l[0]?) h
    simpa using this
  refine ⟨h0, (List.getElem?_eq_some_iff.1 h0).1, ?_⟩
  rw [← List.drop_drop, h]; rfl
section
variable {o : CallF} (ho : OvOnly o)
include ho
theorem sp_loop0 {l : List R} {v : AV} {rb : Nat} (hl : l.length ≤ 1000000) (hr : ∀ r ∈ l, I32 r.lo ∧ I32 r.hi) {n0 : Nat} (hrb : 0 < l.length → rb < n0) {H0 : Heap} {Q : Ctl → St → Prop} : ∀ (r : List R) (i : Nat) (acc : List S) (sv : AV) (H : Heap), l.drop i = r → i ≤ l.length → acc.length ≤ i → Rd H 2 (rcells l) l.length v rb → Ext n0 H0 H → n0 ≤ H.size → Sl n0 H 2 (scells acc) acc.length sv →
    (∀ (H' : Heap) (sv' : AV) x1 x2 x3 x4 t, Ext n0 H0 H' → Sl n0 H' 2 (scells (acc ++ preL r)) (acc ++ preL r).length sv' → Q (.exit 0) { p := [(3, sv'), (11, x1), (12, x2), (13, x3), (14, x4)], t := t, H := H', d := [], u := .norm }) →
    wpl ⟨bt.get, o⟩ [3, 11, 12, 13] lb_runes_spans_0 { p := [(3, sv), (11, v), (12, .int .i64 l.length), (13, .int .i64 i)], t := [], H := H, d := [], u := .norm } Q
  | [], i, acc, sv, H, hd, hi, ha, hR, hx, hn, hS, hQ => by
    have : l.length ≤ i := List.drop_eq_nil_iff.1 hd
    rw [wpl_step]
    have h1 : ¬((i : Int) < (l.length : Int)) := by omega
    simp only [lb_runes_spans_0, go_sem, zA, zB, zC, reduceIte, zD, zE, zF, zG, zH, zI, reduceCtorEq, zJ, zK, zL, zM, zN, zO, zP, h1]
    exact hQ H sv _ _ _ _ _ hx (by simpa [preL] using hS)
  | c :: r, i, acc, sv, H, hd, hi, ha, hR, hx, hn, hS, hQ => by
    obtain ⟨h0, h1, h2⟩ := list_at hd
    obtain ⟨⟨u, hg⟩, hel, _⟩ := hR.pos (by omega)
    have el := hel i h1
    have hlt : rb < H.size := Heap.lt_of_get (by rw [hg]; simp)
    obtain ⟨c1, c2⟩ := rcells_at h0
    obtain ⟨r1, r2⟩ := hr c (List.mem_of_getElem? h0)
    rw [wpl_step]
    have h1' : ((i : Int) < (l.length : Int)) := by omega
    have e1 : ∀ x, ((H.push (.cells [.int .i32 c.lo, .int .i32 c.hi] .own)).push x).get H.size = .cells [.int .i32 c.lo, .int .i32 c.hi] .own := fun x => by
      rw [Heap.get_push_lt (by rw [Heap.size_push]; omega), Heap.get_push_self]
    simp only [lb_runes_spans_0, go_sem, zA, zB, zC, reduceIte, zD, zE, zF, zG, zH, zI, reduceCtorEq, zJ, zK, zL, zM, zN, zO, zP, h1', el, hg, c1, c2, R.cells]
    refine r_number ho r1 ?_
    simp only [go_sem, zA, zB, zC, reduceIte, zD, zE, zF, zG, zH, zI, reduceCtorEq, zJ, zK, zL, zM, zN, zO, zP]
    refine r_behind ho r2 ?_
    simp only [go_sem, zA, zB, zC, reduceIte, zD, zE, zF, zG, zH, zI, reduceCtorEq, zJ, zK, zL, zM, zN, zO, zP, e1]
    have e3 : ∀ y, ((H.push (.cells [.int .i32 c.lo, .int .i32 c.hi] .own)).push y).get (H.size + 1) = y := fun y => Heap.get_push_eq (by rw [Heap.size_push])
    have iw := wsucc (show i ≤ 1000000000 by omega)
    generalize hG : (H.push (.cells [.int .i32 c.lo, .int .i32 c.hi] .own)).push (.cells [.int .i64 (numN c.lo : Int), .int .i64 (behN c.hi : Int)] .own) = G
    have g1 : G.get (H.size + 1) = .cells [.int .i64 (numN c.lo : Int), .int .i64 (behN c.hi : Int)] .own := by rw [← hG, e3]
    have hGx : Ext H.size H G := by rw [← hG]; exact (Ext.push (Nat.le_refl _)).trans (Ext.push (by rw [Heap.size_push]; omega))
    have gsz : G.size = H.size + 2 := by rw [← hG]; rfl
    have skip : preS c = none → wpl ⟨bt.get, o⟩ [3, 11, 12, 13] lb_runes_spans_0 { p := [(3, sv), (11, v), (12, .int .i64 l.length), (13, .int .i64 ((i + 1 : Nat) : Int))], t := [], H := G, d := [], u := .norm } Q := by
      intro hp
      refine sp_loop0 hl hr hrb r (i + 1) acc sv G h2 (by omega) (by omega) (hR.ext hGx) (hx.trans (hGx.le hn)) (by omega) (hS.ext hGx) fun H' sv' x1 x2 x3 x4 t k1 k2 => hQ H' sv' x1 x2 x3 x4 t k1 ?_
      have : preL (c :: r) = preL r := by simp [preL, hp]
      rw [this]; exact k2
    by_cases q1 : c.lo ≤ c.hi
    · by_cases q2 : numN c.lo < behN c.hi
      · have q2' : (numN c.lo : Int) < (behN c.hi : Int) := by omega
        have hp : preS c = some (numN c.lo, behN c.hi) := by simp only [preS, q1, q2, and_self, if_true]
        obtain ⟨ob, H', ea, hx1, hsl⟩ := append_spec (bytes := 16) (ys := [.int .i64 (numN c.lo : Int), .int .i64 (behN c.hi : Int)]) (k := 1) (Sl.push (x := .cells [.int .i64 (numN c.lo : Int), .int .i64 (behN c.hi : Int)] .own) (hS.ext hGx)) (by rw [Heap.size_push]; omega) (by omega) rfl (by omega) (by omega)
        simp only [go_sem, zA, zB, zC, reduceIte, zD, zE, zF, zG, zH, zI, reduceCtorEq, zJ, zK, zL, zM, zN, zO, zP, q1, q2', g1, ea, iw]
        have hx2 : Ext n0 H H' := ((hGx.le hn).trans (Ext.push (by omega))).trans hx1
        refine sp_loop0 hl hr hrb r (i + 1) (acc ++ [(numN c.lo, behN c.hi)]) _ H' h2 (by omega) (by simp; omega) (hR.keep fun h => hx2.2 rb (hrb h)) (hx.trans hx2) (Nat.le_trans hn hx2.1) (by rw [scells_app, List.length_append]; exact hsl) fun H' sv' x1 x2 x3 x4 t k1 k2 => hQ H' sv' x1 x2 x3 x4 t k1 ?_
        have : acc ++ preL (c :: r) = acc ++ [(numN c.lo, behN c.hi)] ++ preL r := by simp [preL, hp]
        rw [this]; exact k2
      · have q2' : ¬ (numN c.lo : Int) < (behN c.hi : Int) := by omega
        simp only [go_sem, zA, zB, zC, reduceIte, zD, zE, zF, zG, zH, zI, reduceCtorEq, zJ, zK, zL, zM, zN, zO, zP, q1, q2', g1, iw]
        exact skip (by simp only [preS, q1, q2, and_false, if_false])
    · simp only [go_sem, zA, zB, zC, reduceIte, zD, zE, zF, zG, zH, zI, reduceCtorEq, zJ, zK, zL, zM, zN, zO, zP, q1, iw]
      exact skip (by simp only [preS, q1, false_and, if_false])
omit ho in
theorem getLast_at (acc : List S) (c : S) : (acc ++ [c])[acc.length]? = some c := by simp
omit ho in
theorem set_last (acc : List S) (c d : S) : (acc ++ [c]).set acc.length d = acc ++ [d] := by simp
omit ho in
theorem sp_loop1 {l : List S} {v : AV} {rb : Nat} (hl : l.length ≤ 1000000) {n0 : Nat} (hrb : 0 < l.length → rb < n0) {H0 : Heap} {Q : Ctl → St → Prop} : ∀ (r : List S) (i : Nat) (acc : List S) (c : S) (sv : AV) (H : Heap), l.drop i = r → i ≤ l.length → acc.length + 1 ≤ i → Rd H 2 (scells l) l.length v rb → Ext n0 H0 H → n0 ≤ H.size → Sl n0 H 2 (scells (acc ++ [c])) (acc.length + 1) sv →
    (∀ (H' : Heap) (sv' : AV) x1 x2 x3 x4 t, Ext n0 H0 H' → Sl n0 H' 2 (scells (acc ++ mGo c r)) (acc ++ mGo c r).length sv' → Q (.exit 2) { p := [(7, sv'), (43, x1), (44, x2), (45, x3), (46, x4)], t := t, H := H', d := [], u := .norm }) →
    wpl ⟨bt.get, o⟩ [7, 43, 44, 45] lb_runes_spans_1 { p := [(7, sv), (43, v), (44, .int .i64 l.length), (45, .int .i64 i)], t := [], H := H, d := [], u := .norm } Q
  | [], i, acc, c, sv, H, hd, hi, ha, hR, hx, hn, hS, hQ => by
    have : l.length ≤ i := List.drop_eq_nil_iff.1 hd
    rw [wpl_step]
    have h1 : ¬((i : Int) < (l.length : Int)) := by omega
    simp only [lb_runes_spans_1, go_sem, zA, zB, zC, reduceIte, zD, zE, zF, zG, zH, zI, reduceCtorEq, zJ, zK, zL, zM, zN, zO, zP, h1]
    exact hQ H sv _ _ _ _ _ hx (by simpa [mGo] using hS)
  | x :: r, i, acc, c, sv, H, hd, hi, ha, hR, hx, hn, hS, hQ => by
    obtain ⟨h0, h1, h2⟩ := list_at hd
    obtain ⟨⟨u, hg⟩, hel, _⟩ := hR.pos (by omega)
    have el := hel i h1
    have hlt : rb < H.size := Heap.lt_of_get (by rw [hg]; simp)
    obtain ⟨c1, c2⟩ := scells_at h0
    have iw := wsucc (show i ≤ 1000000000 by omega)
    rcases hS with ⟨_, h0', _⟩ | ⟨ob, rfl, hob, hgo, hlo, _⟩
    · omega
    have hlto : ob < H.size := Heap.lt_of_get (by rw [hgo]; simp)
    obtain ⟨f1, f2⟩ := scells_fld (getLast_at acc c)
    have wp := wpred (n := acc.length + 1) (by omega) (by omega)
    rw [Nat.add_sub_cancel] at wp
    have p1 : (0 : Int) < ((acc.length + 1 : Nat) : Int) := by omega
    have p2 : (acc.length : Int) < ((acc.length + 1 : Nat) : Int) := by omega
    have hgo1 : ∀ y, (H.push y).get ob = .cells (scells (acc ++ [c])) .own := fun y => by rw [Heap.get_push_lt hlto, hgo]
    have hlto1 : ∀ y, ob < (H.push y).size := fun y => by rw [Heap.size_push]; omega
    rw [wpl_step]
    have h1' : ((i : Int) < (l.length : Int)) := by omega
    have hEx : ∀ y, Ext n0 H (H.push y) := fun y => Ext.push hn
    by_cases q : x.1 ≤ c.2
    · have q' : (x.1 : Int) ≤ (c.2 : Int) := by omega
      have mx : (if (c.2 : Int) < (x.2 : Int) then (x.2 : Int) else (c.2 : Int)) = ((max c.2 x.2 : Nat) : Int) := by
        split <;> omega
      have st := scells_set2 (max c.2 x.2) (getLast_at acc c)
      have sl : acc.length * 2 + 1 + 1 ≤ (scells (acc ++ [c])).length := by rw [scells_len]; simp; omega
      simp only [lb_runes_spans_1, go_sem, zA, zB, zC, reduceIte, zD, zE, zF, zG, zH, zI, reduceCtorEq, zJ, zK, zL, zM, zN, zO, zP, h1', el, hg, c1, c2, S.cells, p1, p2, wp, hgo1, f1, f2, q', minmaxA, GT.gt, mx, st, sl, iw]
      have e := set_last acc c (c.1, max c.2 x.2)
      have hx2 : Ext n0 H ((H.push (.cells [.int .i64 (x.1 : Int), .int .i64 (x.2 : Int)] .own)).set ob (.cells (scells ((acc ++ [c]).set acc.length (c.1, max c.2 x.2))) .own)) := (hEx _).trans (Ext.set hob)
      refine sp_loop1 hl hrb r (i + 1) acc (c.1, max c.2 x.2) _ _ h2 (by omega) (by omega) (hR.keep fun h => hx2.2 rb (hrb h)) (hx.trans hx2) (Nat.le_trans hn hx2.1) (.inr ⟨ob, rfl, hob, ?_, by rw [scells_len]; simp, by omega⟩) fun H' sv' x1 x2 x3 x4 t k1 k2 => hQ H' sv' x1 x2 x3 x4 t k1 ?_
      · rw [Heap.get_set_self (hlto1 _), e]
      · simp only [mGo, if_pos q]; exact k2
    · have q' : ¬ (x.1 : Int) ≤ (c.2 : Int) := by omega
      obtain ⟨nb, H', ea, hx1, hsl⟩ := append_spec (bytes := 16) (ys := [.int .i64 (x.1 : Int), .int .i64 (x.2 : Int)]) (k := 1) (Sl.push (x := .cells [.int .i64 (x.1 : Int), .int .i64 (x.2 : Int)] .own) (Sl.push (x := .cells [.int .i64 (x.1 : Int), .int .i64 (x.2 : Int)] .own) (.inr ⟨ob, rfl, hob, hgo, hlo, by omega⟩))) (by simp only [Heap.size_push]; omega) (by omega) rfl (by omega) (by omega)
      simp only [lb_runes_spans_1, go_sem, zA, zB, zC, reduceIte, zD, zE, zF, zG, zH, zI, reduceCtorEq, zJ, zK, zL, zM, zN, zO, zP, h1', el, hg, c1, c2, S.cells, p1, p2, wp, hgo1, f1, f2, q', ea, iw]
      have hx2 : Ext n0 H H' := ((hEx _).trans (Ext.push (by rw [Heap.size_push]; omega))).trans hx1
      refine sp_loop1 hl hrb r (i + 1) (acc ++ [c]) x _ _ h2 (by omega) (by simp; omega) (hR.keep fun h => hx2.2 rb (hrb h)) (hx.trans hx2) (Nat.le_trans hn hx2.1) ?_ fun H' sv' x1 x2 x3 x4 t k1 k2 => hQ H' sv' x1 x2 x3 x4 t k1 ?_
      · rw [scells_app (acc ++ [c])]
        have : (acc ++ [c]).length + 1 = acc.length + 1 + 1 := by simp
        rw [this]; exact hsl
      · simp only [mGo, if_neg q]
        have : acc ++ c :: mGo x r = acc ++ [c] ++ mGo x r := by simp
        rw [this]; exact k2
theorem r_spans {l : List R} {v : AV} {rb : Nat} (hl : l.length ≤ capN) (hr : ∀ r ∈ l, I32 r.lo ∧ I32 r.hi) {H : Heap} (hR : Rd H 2 (rcells l) l.length v rb) {Q : End → Heap → Prop}
    (hQ : ∀ H' v', Ext H.size H H' → Sl H.size H' 2 (scells (spansF l)) (spansF l).length v' → Q (.ret v') H') : wpf ⟨bt.get, o⟩ F_runes_spans [v] H Q := by
  have hcap := capN_le
  rw [fn_runes_spans (ho _ _ _ (by decide))]
  have hrb : 0 < l.length → rb < H.size := fun h => by
    obtain ⟨⟨u, hu⟩, _⟩ := hR.pos h
    exact Heap.lt_of_get (by rw [hu]; simp)
  simp only [bd_runes_spans, go_sem, zA, zB, zC, reduceIte, zD, zE, zF, zG, zH, zI, reduceCtorEq, zJ, zK, zL, zM, zN, zO, zP, hR.len]
  refine sp_loop0 ho (by omega) hr hrb l 0 [] .nils H rfl (Nat.zero_le _) (Nat.le_refl _) hR Ext.refl (Nat.le_refl _) Sl.nil fun H1 sv x1 x2 x3 x4 t k1 k2 => ?_
  simp only [List.nil_append] at k2
  have hpl : (preL l).length ≤ l.length := List.length_filterMap_le _ _
  simp only [go_sem, zA, zB, zC, reduceIte, zD, zE, zF, zG, zH, zI, reduceCtorEq, zJ, zK, zL, zM, zN, zO, zP]
  rcases k2 with ⟨rfl, h0, _⟩ | ⟨ob, rfl, hob, hgo, hlo, hp⟩
  · refine s_Sort0 ho ?_
    have hpe : preL l = [] := List.eq_nil_of_length_eq_zero h0
    simp only [go_sem, zA, zB, zC, reduceIte, zD, zE, zF, zG, zH, zI, reduceCtorEq, zJ, zK, zL, zM, zN, zO, zP]
    rw [wpl_step]
    simp only [lb_runes_spans_1, go_sem, zA, zB, zC, reduceIte, zD, zE, zF, zG, zH, zI, reduceCtorEq, zJ, zK, zL, zM, zN, zO, zP]
    refine hQ _ _ k1 ?_
    have : spansF l = [] := by simp [spansF, hpe, srtS, mF]
    rw [this]; exact Sl.nil
  · refine s_SortC ho (n := (preL l).length) (by omega) (by omega) rfl hgo fun l' H2 g1 g2 g3 g4 => ?_
    have hl' : l'.length = (preL l).length := g1.len
    have hsp : mF l' = spansF l := spansF_of (perm_mem g1) (sorted_pair (by rw [hl']; exact g2))
    simp only [go_sem, zA, zB, zC, reduceIte, zD, zE, zF, zG, zH, zI, reduceCtorEq, zJ, zK, zL, zM, zN, zO, zP]
    have x2 : Ext H.size H1 H2 := g3.toExt hob k1.1
    have hlt2 : ob < H2.size := Heap.lt_of_get (by rw [g4]; simp)
    rw [← hl']
    obtain ⟨c, r, hL⟩ : ∃ c r, l' = c :: r := by
      cases l' with
      | nil => simp at hl'; omega
      | cons c r => exact ⟨c, r, rfl⟩
    have hR2 : Rd H2 2 (scells l') l'.length (.osl 2 ob 0 l'.length) ob := Rd.osl g4 (scells_len _)
    obtain ⟨⟨u, hg⟩, hel, _⟩ := hR2.pos (by omega)
    have el := hel 0 (by omega)
    have h0 : l'[0]? = some c := by rw [hL]; rfl
    obtain ⟨c1, c2⟩ := scells_at h0
    simp only [Nat.zero_mul, Int.natCast_zero, List.drop_zero, Nat.zero_add] at el c1 c2
    rw [wpl_step]
    have h1' : (0 : Int) < ((l'.length : Nat) : Int) := by omega
    have e6 : IntKind.i64.wrap (0 + 1) = ((1 : Nat) : Int) := by rfl
    have e7 : IntKind.i64.wrap 1 = ((1 : Nat) : Int) := by rfl
    obtain ⟨nb, H', ea, hx1, hsl⟩ := append_spec (bytes := 16) (sz := 2) (ys := [.int .i64 (c.1 : Int), .int .i64 (c.2 : Int)]) (k := 1) (Sl.nil (n0 := H2.size) (H := (H2.push (.cells [.int .i64 (c.1 : Int), .int .i64 (c.2 : Int)] .own)).push (.cells [.int .i64 (c.1 : Int), .int .i64 (c.2 : Int)] .own))) (by simp only [Heap.size_push]; omega) (by omega) rfl (by omega) (by omega)
    have sc := S.cells
    simp only [lb_runes_spans_1, go_sem, zA, zB, zC, reduceIte, zD, zE, zF, zG, zH, zI, reduceCtorEq, zJ, zK, zL, zM, zN, zO, zP, h1', elA, hg, c1, c2, S.cells, ea, e6, e7]
    have hxx : Ext H2.size H2 H' := ((Ext.push (Nat.le_refl _)).trans (Ext.push (by rw [Heap.size_push]; omega))).trans hx1
    refine sp_loop1 (l := l') (rb := ob) (n0 := H2.size) (H0 := H2) (by omega) (fun _ => hlt2) r 1 [] c _ H' (by rw [hL]; rfl) (by omega) (by simp) (hR2.ext hxx) hxx hxx.1 hsl fun H3 sv' y1 y2 y3 y4 t k2 k3 => ?_
    simp only [go_sem, zA, zB, zC, reduceIte, zD, zE, zF, zG, zH, zI, reduceCtorEq, zJ, zK, zL, zM, zN, zO, zP]
    have hm : [] ++ mGo c r = spansF l := by rw [← hsp, hL]; rfl
    rw [hm] at k3
    exact hQ _ _ ((k1.trans x2).trans (k2.le (Nat.le_trans k1.1 g3.1))) (k3.frame' (Nat.le_trans k1.1 g3.1))
theorem rg_loop {l : List S} {v : AV} {rb : Nat} (hl : l.length ≤ 1000000) (hb : ∀ x ∈ l, x.1 ≤ 1112065 ∧ x.2 ≤ 1112065 ∧ x.1 < x.2) {n0 : Nat} (hrb : 0 < l.length → rb < n0) {H0 : Heap} {Q : Ctl → St → Prop} : ∀ (r : List S) (i : Nat) (acc : List R) (sv : AV) (H : Heap), l.drop i = r → i ≤ l.length → acc.length = i → Rd H 2 (scells l) l.length v rb → Ext n0 H0 H → n0 ≤ H.size → Sl n0 H 2 (rcells acc) acc.length sv →
    (∀ (H' : Heap) (sv' : AV) x1 x2 x3 x4 t, Ext n0 H0 H' → Sl n0 H' 2 (rcells (acc ++ rngF r)) (acc ++ rngF r).length sv' → Q (.exit 0) { p := [(3, sv'), (6, x1), (7, x2), (8, x3), (9, x4)], t := t, H := H', d := [], u := .norm }) →
    wpl ⟨bt.get, o⟩ [3, 6, 7, 8] lb_runes_ranges_0 { p := [(3, sv), (6, v), (7, .int .i64 l.length), (8, .int .i64 i)], t := [], H := H, d := [], u := .norm } Q
  | [], i, acc, sv, H, hd, hi, ha, hR, hx, hn, hS, hQ => by
    have : l.length ≤ i := List.drop_eq_nil_iff.1 hd
    rw [wpl_step]
    have h1 : ¬((i : Int) < (l.length : Int)) := by omega
    simp only [lb_runes_ranges_0, go_sem, zA, zB, zC, reduceIte, zD, zE, zF, zG, zH, zI, reduceCtorEq, zJ, zK, zL, zM, zN, zO, zP, h1]
    exact hQ H sv _ _ _ _ _ hx (by simpa [rngF] using hS)
  | x :: r, i, acc, sv, H, hd, hi, ha, hR, hx, hn, hS, hQ => by
    obtain ⟨h0, h1, h2⟩ := list_at hd
    obtain ⟨⟨u, hg⟩, hel, _⟩ := hR.pos (by omega)
    have el := hel i h1
    obtain ⟨c1, c2⟩ := scells_at h0
    obtain ⟨b1, b2, b3⟩ := hb x (List.mem_of_getElem? h0)
    have iw := wsucc (show i ≤ 1000000000 by omega)
    have wp := wpred (n := x.2) (by omega) (by omega)
    rw [wpl_step]
    have h1' : ((i : Int) < (l.length : Int)) := by omega
    simp only [lb_runes_ranges_0, go_sem, zA, zB, zC, reduceIte, zD, zE, zF, zG, zH, zI, reduceCtorEq, zJ, zK, zL, zM, zN, zO, zP, h1', el, hg, c1, c2, S.cells]
    refine r_value ho (by omega) ?_
    simp only [go_sem, zA, zB, zC, reduceIte, zD, zE, zF, zG, zH, zI, reduceCtorEq, zJ, zK, zL, zM, zN, zO, zP, wp]
    refine r_value ho (by omega) ?_
    obtain ⟨nb, H', ea, hx1, hsl⟩ := append_spec (bytes := 8) (ys := [.int .i32 (valN x.1 : Int), .int .i32 (valN (x.2 - 1) : Int)]) (k := 1) (Sl.push (x := .cells [.int .i32 (valN x.1 : Int), .int .i32 (valN (x.2 - 1) : Int)] .own) (Sl.push (x := .cells [.int .i64 (x.1 : Int), .int .i64 (x.2 : Int)] .own) hS)) (by simp only [Heap.size_push]; omega) (by omega) rfl (by omega) (by omega)
    simp only [go_sem, zA, zB, zC, reduceIte, zD, zE, zF, zG, zH, zI, reduceCtorEq, zJ, zK, zL, zM, zN, zO, zP, ea, iw]
    have hx2 : Ext n0 H H' := ((Ext.push hn).trans (Ext.push (by rw [Heap.size_push]; omega))).trans hx1
    refine rg_loop hl hb hrb r (i + 1) (acc ++ [⟨valN x.1, valN (x.2 - 1)⟩]) _ H' h2 (by omega) (by simp; omega) (hR.keep fun h => hx2.2 rb (hrb h)) (hx.trans hx2) (Nat.le_trans hn hx2.1) (by rw [rcells_app, List.length_append]; exact hsl) fun H3 sv' x1 x2 x3 x4 t k1 k2 => hQ H3 sv' x1 x2 x3 x4 t k1 ?_
    have : acc ++ rngF (x :: r) = acc ++ [⟨valN x.1, valN (x.2 - 1)⟩] ++ rngF r := by simp [rngF]
    rw [this]; exact k2
theorem r_ranges {l : List S} {v : AV} {rb : Nat} (hl : l.length ≤ 1000000) (hb : ∀ x ∈ l, x.1 ≤ 1112065 ∧ x.2 ≤ 1112065 ∧ x.1 < x.2) {H : Heap} (hR : Rd H 2 (scells l) l.length v rb) {Q : End → Heap → Prop}
    (hQ : ∀ H' v', Ext H.size H H' → Sl H.size H' 2 (rcells (rngF l)) (rngF l).length v' → Q (.ret v') H') : wpf ⟨bt.get, o⟩ F_runes_ranges [v] H Q := by
  rw [fn_runes_ranges (ho _ _ _ (by decide))]
  have hrb : 0 < l.length → rb < H.size := fun h => by
    obtain ⟨⟨u, hu⟩, _⟩ := hR.pos h
    exact Heap.lt_of_get (by rw [hu]; simp)
  simp only [bd_runes_ranges, go_sem, zA, zB, zC, reduceIte, zD, zE, zF, zG, zH, zI, reduceCtorEq, zJ, zK, zL, zM, zN, zO, zP, hR.len]
  refine rg_loop ho hl hb hrb l 0 [] .nils H rfl (Nat.zero_le _) rfl hR Ext.refl (Nat.le_refl _) Sl.nil fun H1 sv x1 x2 x3 x4 t k1 k2 => ?_
  simp only [go_sem, zA, zB, zC, reduceIte, zD, zE, zF, zG, zH, zI, reduceCtorEq, zJ, zK, zL, zM, zN, zO, zP]
  exact hQ _ _ k1 (by simpa using k2)
omit ho in
theorem spansF_lt (l : List R) : ∀ x ∈ spansF l, x.1 < x.2 := by
  have h := (mF_spec (l := srtS (preL l)) (fun x hx => preL_ok x (srtS_mem.1 hx)) (srtS_sorted _)).1
  have : ∀ {m : List S} {k : Nat}, apart k m → ∀ x ∈ m, x.1 < x.2 := by
    intro m
    induction m with
    | nil => intro k _ x hx; cases hx
    | cons y m ih =>
      intro k ⟨h1, h2, h3⟩ x hx
      rcases List.mem_cons.1 hx with rfl | hx
      · exact h2
      · exact ih h3 x hx
  exact this h
theorem r_Norm {l : List R} {v : AV} {rb : Nat} (hl : l.length ≤ capN) (hr : ∀ r ∈ l, I32 r.lo ∧ I32 r.hi) {H : Heap} (hR : Rd H 2 (rcells l) l.length v rb) {Q : End → Heap → Prop}
    (hQ : ∀ H' v', Ext H.size H H' → Sl H.size H' 2 (rcells (normF l)) (normF l).length v' → Q (.ret v') H') : wpf ⟨bt.get, o⟩ F_runes_Norm [v] H Q := by
  have hcap := capN_le
  rw [fn_runes_Norm (ho _ _ _ (by decide))]
  simp only [bd_runes_Norm, go_sem, zA, zB, zC, reduceIte, zD, zE, zF, zG, zH, zI, reduceCtorEq, zJ, zK, zL, zM, zN, zO, zP]
  refine r_spans ho hl hr hR fun H1 v1 k1 k2 => ?_
  obtain ⟨b, hR1, _⟩ := k2.rd
  obtain ⟨s1, s2⟩ := spansF_bd l
  simp only [go_sem, zA, zB, zC, reduceIte, zD, zE, zF, zG, zH, zI, reduceCtorEq, zJ, zK, zL, zM, zN, zO, zP]
  refine r_ranges ho (by omega) (fun x hx => ⟨(s2 x hx).1, (s2 x hx).2, spansF_lt l x hx⟩) hR1 fun H2 v2 k3 k4 => ?_
  simp only [go_sem, zA, zB, zC, reduceIte, zD, zE, zF, zG, zH, zI, reduceCtorEq, zJ, zK, zL, zM, zN, zO, zP]
  exact hQ _ _ (k1.trans (k3.le k1.1)) (k4.frame' k1.1)
end
/- Ranges' normal form by cells and cuts: plainly. -/
set_option maxRecDepth 8000
def endsG (l : List S) : List Nat := l.flatMap fun x => [x.1, x.2]
def insN (c : Nat) : List Nat → List Nat
  | [] => [c]
  | x :: r => if x < c then x :: insN c r else if x = c then x :: r else c :: x :: r
def cutsG (l : List S) : List Nat := (endsG l).foldl (fun out c => insN c out) []
def inG (l : List S) (p : Nat) : Bool := l.any fun x => decide (x.1 ≤ p) && decide (p < x.2)
def runsF (is : Nat → Bool) : List Nat → Option Nat → List S
  | x :: y :: r, none => if is x then runsF is (y :: r) (some x) else runsF is (y :: r) none
  | x :: y :: r, some a => if is x then runsF is (y :: r) (some a) else (a, x) :: runsF is (y :: r) none
  | [x], some a => [(a, x)]
  | _, _ => []
theorem insN_mem {c d : Nat} : ∀ {l : List Nat}, d ∈ insN c l ↔ d = c ∨ d ∈ l
  | [] => by simp [insN]
  | x :: r => by
    rw [insN]
    split
    · rw [List.mem_cons, insN_mem (l := r), List.mem_cons]
      constructor
      · rintro (h | h | h)
        · exact .inr (.inl h)
        · exact .inl h
        · exact .inr (.inr h)
      · rintro (h | h | h)
        · exact .inr (.inl h)
        · exact .inl h
        · exact .inr (.inr h)
    · split
      · rename_i h1 h2; subst h2
        constructor
        · intro h; exact .inr h
        · rintro (rfl | h)
          · simp
          · exact h
      · rw [List.mem_cons]
theorem insN_sorted {c : Nat} : ∀ {l : List Nat}, l.Pairwise (· < ·) → (insN c l).Pairwise (· < ·)
  | [], _ => by simp [insN]
  | x :: r, h => by
    have h1 := List.pairwise_cons.1 h
    rw [insN]
    split
    · rename_i hx
      refine List.pairwise_cons.2 ⟨fun y hy => ?_, insN_sorted h1.2⟩
      rcases insN_mem.1 hy with rfl | hy
      · exact hx
      · exact h1.1 y hy
    · split
      · exact h
      · rename_i a b
        refine List.pairwise_cons.2 ⟨fun y hy => ?_, h⟩
        rcases List.mem_cons.1 hy with rfl | hy
        · omega
        · have := h1.1 y hy; omega
theorem insN_len {c : Nat} : ∀ {l : List Nat}, (insN c l).length ≤ l.length + 1
  | [] => by simp [insN]
  | x :: r => by
    rw [insN]
    split
    · have := insN_len (c := c) (l := r); simp only [List.length_cons]; omega
    · split <;> simp
theorem cuts_fold : ∀ (es acc : List Nat), acc.Pairwise (· < ·) → (es.foldl (fun out c => insN c out) acc).Pairwise (· < ·) ∧ (∀ d, d ∈ es.foldl (fun out c => insN c out) acc ↔ d ∈ acc ∨ d ∈ es) ∧ (es.foldl (fun out c => insN c out) acc).length ≤ acc.length + es.length
  | [], acc, h => ⟨h, fun d => by simp, by simp⟩
  | c :: es, acc, h => by
    obtain ⟨a, b, l⟩ := cuts_fold es (insN c acc) (insN_sorted h)
    have := insN_len (c := c) (l := acc)
    refine ⟨a, fun d => ?_, by simp only [List.foldl_cons, List.length_cons]; omega⟩
    rw [List.foldl_cons, b, insN_mem, List.mem_cons]
    constructor
    · rintro ((h | h) | h)
      · exact .inr (.inl h)
      · exact .inl h
      · exact .inr (.inr h)
    · rintro (h | h | h)
      · exact .inl (.inr h)
      · exact .inl (.inl h)
      · exact .inr h
theorem cuts_spec (l : List S) : (cutsG l).Pairwise (· < ·) ∧ (∀ d, d ∈ cutsG l ↔ d ∈ endsG l) ∧ (cutsG l).length ≤ 2 * l.length := by
  obtain ⟨a, b, c⟩ := cuts_fold (endsG l) [] List.Pairwise.nil
  refine ⟨a, fun d => by rw [cutsG, b]; simp, ?_⟩
  have : (endsG l).length = 2 * l.length := by
    unfold endsG
    induction l with
    | nil => rfl
    | cons x l ih => rw [List.flatMap_cons, List.length_append, ih (cuts_fold _ [] List.Pairwise.nil).1 (cuts_fold _ [] List.Pairwise.nil).2.1 (cuts_fold _ [] List.Pairwise.nil).2.2]; simp only [List.length_cons, List.length_nil]; omega
  have c' : (cutsG l).length ≤ ([] : List Nat).length + (endsG l).length := c
  simp only [List.length_nil] at c'
  omega
theorem ends_mem {l : List S} {d : Nat} : d ∈ endsG l ↔ ∃ x ∈ l, d = x.1 ∨ d = x.2 := by
  simp [endsG, List.mem_flatMap]
def inP (is : Nat → Bool) : List Nat → Nat → Prop
  | x :: y :: r, n => (x ≤ n ∧ n < y ∧ is x = true) ∨ inP is (y :: r) n
  | _, _ => False
theorem runs_inS {is : Nat → Bool} : ∀ (cs : List Nat) (st : Option Nat), cs.Pairwise (· < ·) → (∀ a, st = some a → ∃ x r, cs = x :: r ∧ a < x) → ∀ n, inS (runsF is cs st) n ↔ (∃ a x r, st = some a ∧ cs = x :: r ∧ a ≤ n ∧ n < x) ∨ inP is cs n
  | [], none, _, _, n => by
    simp only [runsF, inP, or_false]
    exact ⟨fun ⟨x, hx, _⟩ => (by cases hx), fun ⟨a, x, r, h, _⟩ => (by cases h)⟩
  | [], some a, _, h, n => by obtain ⟨x, r, e, _⟩ := h a rfl; cases e
  | [x], none, _, _, n => by
    simp only [runsF, inP, or_false]
    exact ⟨fun ⟨x, hx, _⟩ => (by cases hx), fun ⟨a, x, r, h, _⟩ => (by cases h)⟩
  | [x], some a, _, _, n => by
    simp only [runsF, inP, or_false]
    constructor
    · rintro ⟨y, hy, h1, h2⟩
      simp only [List.mem_singleton] at hy; subst hy
      exact ⟨a, x, [], rfl, rfl, h1, h2⟩
    · rintro ⟨a', x', r, h1, h2, h3, h4⟩
      injection h1 with h1; injection h2 with h2; subst h1; subst h2
      exact ⟨_, List.mem_singleton.2 rfl, h3, h4⟩
  | x :: y :: r, none, hp, _, n => by
    have hp1 := List.pairwise_cons.1 hp
    have hxy : x < y := hp1.1 y (by simp)
    rw [runsF]
    split
    · rename_i hx
      rw [runs_inS (y :: r) (some x) hp1.2 (fun a ha => by injection ha with ha; subst ha; exact ⟨y, r, rfl, hxy⟩) n, inP]
      constructor
      · rintro (⟨a, x', r', h1, h2, h3, h4⟩ | h)
        · injection h1 with h1; injection h2 with h2; subst h1; subst h2
          exact .inr (.inl ⟨h3, h4, hx⟩)
        · exact .inr (.inr h)
      · rintro (⟨a, x', r', h1, _⟩ | ⟨h1, h2, _⟩ | h)
        · cases h1
        · exact .inl ⟨x, y, r, rfl, rfl, h1, h2⟩
        · exact .inr h
    · rename_i hx
      rw [runs_inS (y :: r) none hp1.2 (fun a ha => by cases ha) n, inP]
      constructor
      · rintro (⟨a, x', r', h1, _⟩ | h)
        · cases h1
        · exact .inr (.inr h)
      · rintro (⟨a, x', r', h1, _⟩ | ⟨_, _, h⟩ | h)
        · cases h1
        · exact absurd h hx
        · exact .inr h
  | x :: y :: r, some a, hp, ha, n => by
    have hp1 := List.pairwise_cons.1 hp
    have hxy : x < y := hp1.1 y (by simp)
    have hax : a < x := by obtain ⟨x', r', e, h⟩ := ha a rfl; injection e with e; subst e; exact h
    rw [runsF]
    split
    · rename_i hx
      rw [runs_inS (y :: r) (some a) hp1.2 (fun b hb => by injection hb with hb; subst hb; exact ⟨y, r, rfl, by omega⟩) n, inP]
      constructor
      · rintro (⟨a', x', r', h1, h2, h3, h4⟩ | h)
        · injection h1 with h1; injection h2 with h2; subst h1; subst h2
          rcases Nat.lt_or_ge n x with hn | hn
          · exact .inl ⟨_, x, _, rfl, rfl, h3, hn⟩
          · exact .inr (.inl ⟨hn, h4, hx⟩)
        · exact .inr (.inr h)
      · rintro (⟨a', x', r', h1, h2, h3, h4⟩ | ⟨h1, h2, _⟩ | h)
        · injection h1 with h1; injection h2 with h2; subst h1; subst h2
          exact .inl ⟨_, y, r, rfl, rfl, h3, by omega⟩
        · exact .inl ⟨a, y, r, rfl, rfl, by omega, h2⟩
        · exact .inr h
    · rename_i hx
      rw [inS_cons, runs_inS (y :: r) none hp1.2 (fun a ha => by cases ha) n, inP]
      constructor
      · rintro (⟨h1, h2⟩ | ⟨a', x', r', h1, _⟩ | h)
        · exact .inl ⟨a, x, y :: r, rfl, rfl, h1, h2⟩
        · cases h1
        · exact .inr (.inr h)
      · rintro (⟨a', x', r', h1, h2, h3, h4⟩ | ⟨_, _, h⟩ | h)
        · injection h1 with h1; injection h2 with h2; subst h1; subst h2
          exact .inl ⟨h3, h4⟩
        · exact absurd h hx
        · exact .inr (.inr h)
theorem runs_apart {is : Nat → Bool} : ∀ (cs : List Nat) (st : Option Nat) (k : Nat), cs.Pairwise (· < ·) → (∀ a, st = some a → k ≤ a ∧ ∃ x r, cs = x :: r ∧ a < x) → (st = none → ∀ x r, cs = x :: r → k ≤ x) → apart k (runsF is cs st)
  | [], none, k, _, _, _ => trivial
  | [], some a, k, _, h, _ => by obtain ⟨_, x, r, e, _⟩ := h a rfl; cases e
  | [x], none, k, _, _, _ => trivial
  | [x], some a, k, _, h, _ => by
    obtain ⟨h1, x', r, e, h2⟩ := h a rfl
    injection e with e; subst e
    exact ⟨h1, h2, trivial⟩
  | x :: y :: r, none, k, hp, _, hn => by
    have hp1 := List.pairwise_cons.1 hp
    have hxy : x < y := hp1.1 y (by simp)
    have hk := hn rfl x _ rfl
    rw [runsF]
    split
    · exact runs_apart (y :: r) (some x) k hp1.2 (fun a ha => by injection ha with ha; subst ha; exact ⟨hk, y, r, rfl, hxy⟩) (fun h => by cases h)
    · exact runs_apart (y :: r) none k hp1.2 (fun a ha => by cases ha) (fun _ x' r' e => by injection e with e; omega)
  | x :: y :: r, some a, k, hp, ha, _ => by
    have hp1 := List.pairwise_cons.1 hp
    have hxy : x < y := hp1.1 y (by simp)
    obtain ⟨h1, x', r', e, h2⟩ := ha a rfl
    injection e with e; subst e
    rw [runsF]
    split
    · exact runs_apart (y :: r) (some a) k hp1.2 (fun b hb => by injection hb with hb; subst hb; exact ⟨h1, y, r, rfl, by omega⟩) (fun h => by cases h)
    · exact ⟨h1, h2, runs_apart (y :: r) none (x + 1) hp1.2 (fun a ha => by cases ha) (fun _ x' r' e => by injection e with e; omega)⟩
theorem inP_iff {is : Nat → Bool} {es : List Nat} (hc : ∀ p q : Nat, p ≤ q → (∀ e ∈ es, e ≤ p ∨ q < e) → is q = is p) : ∀ (cs : List Nat), cs.Pairwise (· < ·) → (∀ e ∈ es, e ∈ cs ∨ ∀ c ∈ cs, e ≤ c) → ∀ n, inP is cs n ↔ (∃ c ∈ cs, c ≤ n) ∧ (∃ c ∈ cs, n < c) ∧ is n = true
  | [], _, _, n => by simp [inP]
  | [x], _, _, n => by
    simp only [inP, false_iff]
    rintro ⟨⟨c, h1, h2⟩, ⟨d, h3, h4⟩, _⟩
    simp only [List.mem_singleton] at h1 h3
    omega
  | x :: y :: r, hp, he, n => by
    have hp1 := List.pairwise_cons.1 hp
    have hp2 := List.pairwise_cons.1 hp1.2
    have hxy : x < y := hp1.1 y (by simp)
    have he' : ∀ e ∈ es, e ∈ y :: r ∨ ∀ c ∈ y :: r, e ≤ c := fun e h => by
      rcases he e h with h1 | h1
      · rcases List.mem_cons.1 h1 with rfl | h1
        · exact .inr fun c hc => Nat.le_of_lt (hp1.1 c hc)
        · exact .inl h1
      · exact .inr fun c hc => h1 c (by simp [hc])
    rw [inP, inP_iff hc (y :: r) hp1.2 he' n]
    have key : x ≤ n → n < y → is n = is x := fun h1 h2 => hc x n h1 fun e h => by
      rcases he e h with h3 | h3
      · rcases List.mem_cons.1 h3 with rfl | h3
        · exact .inl (Nat.le_refl _)
        · rcases List.mem_cons.1 h3 with rfl | h3
          · exact .inr h2
          · have := hp2.1 e h3; exact .inr (by omega)
      · exact .inl (h3 x (by simp))
    constructor
    · rintro (⟨h1, h2, h3⟩ | ⟨⟨c, h1, h2⟩, ⟨d, h3, h4⟩, h5⟩)
      · exact ⟨⟨x, by simp, h1⟩, ⟨y, by simp, h2⟩, by rw [key h1 h2]; exact h3⟩
      · exact ⟨⟨c, by simp [h1], h2⟩, ⟨d, by simp [h3], h4⟩, h5⟩
    · rintro ⟨⟨c, h1, h2⟩, ⟨d, h3, h4⟩, h5⟩
      have hxn : x ≤ n := by
        rcases List.mem_cons.1 h1 with rfl | h1
        · exact h2
        · have := hp1.1 c h1; omega
      rcases Nat.lt_or_ge n y with hn | hn
      · exact .inl ⟨hxn, hn, by rw [← key hxn hn]; exact h5⟩
      · refine .inr ⟨⟨y, by simp, hn⟩, ⟨d, ?_, h4⟩, h5⟩
        rcases List.mem_cons.1 h3 with rfl | h3
        · omega
        · exact h3
theorem inG_iff {l : List S} {n : Nat} : inG l n = true ↔ inS l n := by
  simp [inG, inS]
theorem inG_flat {l : List S} {p q : Nat} (h : p ≤ q) (he : ∀ e ∈ endsG l, e ≤ p ∨ q < e) : inG l q = inG l p := by
  rw [Bool.eq_iff_iff, inG_iff, inG_iff]
  have key : ∀ x ∈ l, (x.1 ≤ q ∧ q < x.2) ↔ (x.1 ≤ p ∧ p < x.2) := fun x hx => by
    have h1 := he x.1 (ends_mem.2 ⟨x, hx, .inl rfl⟩)
    have h2 := he x.2 (ends_mem.2 ⟨x, hx, .inr rfl⟩)
    omega
  constructor
  · rintro ⟨x, hx, h1⟩; exact ⟨x, hx, (key x hx).1 h1⟩
  · rintro ⟨x, hx, h1⟩; exact ⟨x, hx, (key x hx).2 h1⟩
def mostN : Nat := 1112064
/-- What is picked of all runes, by cells. -/
def pickG (a : List S) (is : Nat → Bool) : List S := runsF is (cutsG ((0, mostN) :: a)) none
theorem behN_most (r : Int) : behN r ≤ mostN := by
  unfold behN isR numN mostN
  repeat' split
  all_goals (simp_all; try omega)
theorem preL_most {l : List R} : ∀ x ∈ preL l, x.1 < x.2 ∧ x.2 ≤ mostN := by
  intro x hx
  obtain ⟨r, _, h⟩ := List.mem_filterMap.1 hx
  unfold preS at h
  split at h
  · injection h with h; subst h
    rename_i h1
    exact ⟨h1.2, behN_most _⟩
  · cases h
theorem pick_spec {a : List S} {is : Nat → Bool} (ha : ∀ x ∈ a, x.1 < x.2 ∧ x.2 ≤ mostN) (hc : ∀ p q : Nat, p ≤ q → (∀ e ∈ endsG a, e ≤ p ∨ q < e) → is q = is p) :
    apart 0 (pickG a is) ∧ ∀ n, inS (pickG a is) n ↔ n < mostN ∧ is n = true := by
  obtain ⟨h1, h2, _⟩ := cuts_spec ((0, mostN) :: a)
  refine ⟨runs_apart _ none 0 h1 (fun a h => by cases h) (fun _ _ _ _ => Nat.zero_le _), fun n => ?_⟩
  unfold pickG
  rw [runs_inS _ none h1 (fun a h => by cases h) n, inP_iff (es := endsG a) hc _ h1 (fun e he => .inl ((h2 e).2 (by rw [endsG, List.flatMap_cons, List.mem_append]; exact .inr he))) n]
  have m0 : 0 ∈ cutsG ((0, mostN) :: a) := (h2 0).2 (ends_mem.2 ⟨(0, mostN), by simp, .inl rfl⟩)
  have m1 : mostN ∈ cutsG ((0, mostN) :: a) := (h2 mostN).2 (ends_mem.2 ⟨(0, mostN), by simp, .inr rfl⟩)
  constructor
  · rintro (⟨a, x, r, h, _⟩ | ⟨_, ⟨c, h3, h4⟩, h5⟩)
    · cases h
    · refine ⟨?_, h5⟩
      obtain ⟨x, hx, hh⟩ := ends_mem.1 ((h2 c).1 h3)
      rcases List.mem_cons.1 hx with rfl | hx
      · simp only at hh; unfold mostN at *; omega
      · have := ha x hx; omega
  · rintro ⟨h3, h4⟩
    exact .inr ⟨⟨0, m0, Nat.zero_le _⟩, ⟨_, m1, h3⟩, h4⟩
theorem spansF_spec (l : List R) : apart 0 (spansF l) ∧ ∀ n, inS (spansF l) n ↔ inS (preL l) n := by
  obtain ⟨a, b⟩ := mF_spec (l := srtS (preL l)) (fun x hx => preL_ok x (srtS_mem.1 hx)) (srtS_sorted _)
  refine ⟨a, fun n => ?_⟩
  rw [spansF, b]
  exact ⟨fun ⟨x, hx, h⟩ => ⟨x, srtS_mem.1 hx, h⟩, fun ⟨x, hx, h⟩ => ⟨x, srtS_mem.2 hx, h⟩⟩
theorem pick_norm (l : List R) : pickG (preL l) (inG (preL l)) = spansF l := by
  obtain ⟨a, b⟩ := pick_spec (a := preL l) (is := inG (preL l)) preL_most (fun p q h he => inG_flat h he)
  obtain ⟨c, d⟩ := spansF_spec l
  refine apart_eq a c fun n => ?_
  rw [b, d, inG_iff]
  constructor
  · exact fun h => h.2
  · rintro ⟨x, hx, h1, h2⟩
    have := preL_most x hx
    exact ⟨by omega, x, hx, h1, h2⟩
end Go.Ev
