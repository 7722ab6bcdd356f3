/- Several texts of this claim, joined. -/
import Derived.Test.YtifhmogcdgfojaaGreatDoorT33
import Derived.Test.YtifhmogcdgfojaaGreatDoorT35
set_option linter.unusedSimpArgs false
set_option linter.unusedVariables false

/- gobolaw6.Make: what it comes to. -/
namespace Go.Ev
open Go
open Go.Ev renaming seqK_normal → zA, blockK_normal → zB, blockK_exit → zC
open Nat renaming reduceEqDiff → zD, reduceAdd → zE, reduceSub → zF, reduceMul → zG, reduceLeDiff → zH, reduceLT → zI
open Int renaming reduceToNat → zJ, reduceLT → zK, reduceLE → zL, reduceEq → zM, reduceAdd → zN, reduceSub → zO, reduceMul → zP
set_option maxRecDepth 8000
theorem StV.at {P H} : ∀ {st cs}, StV P H st cs → ∀ (i : Nat) k, st.reverse[i]? = some k → ReV P H k (List.take 3 (List.drop (i * 3) cs)) ∧ i * 3 + 3 ≤ cs.length
  | [], cs, _, i, k, h => by simp at h
  | x :: r, cs, ⟨c0, cx, e, h1, h2⟩, i, k, h => by
    subst e
    have l0 := h1.len
    have lx := h2.len
    rw [List.reverse_cons] at h
    rcases Nat.lt_or_ge i r.length with hi | hi
    · rw [List.getElem?_append_left (by simpa using hi)] at h
      obtain ⟨a, b⟩ := StV.at h1 i k h
      refine ⟨?_, by rw [List.length_append]; omega⟩
      rw [List.drop_append_of_le_length (by omega), List.take_append_of_le_length (by rw [List.length_drop]; omega)]
      exact a
    · rw [List.getElem?_append_right (by simpa using hi), List.length_reverse] at h
      have hi' : i = r.length := by
        rcases Nat.lt_or_ge (i - r.length) 1 with h' | h'
        · omega
        · rw [List.getElem?_eq_none (by simpa using h')] at h; cases h
      subst hi'
      rw [Nat.sub_self, List.getElem?_cons_zero, Option.some.injEq] at h
      subst h
      refine ⟨?_, by rw [List.length_append]; omega⟩
      rw [List.drop_left' l0, List.take_of_length_le (by omega)]
      exact h2
section
variable {o : CallF} (ho : OvOnly o)
include ho
omit ho in
theorem row_loop {L : List Rx} {cs : List AV} {sv : AV} {sb xb eb n0 : Nat} (hL : L.length ≤ 1000) (hsx : 0 < L.length → sb ≠ xb) (hx0 : n0 ≤ xb) {H0 : Heap} {Q : Ctl → St → Prop} : ∀ (r : List Rx) (i : Nat) (e : Rx) (ex : List AV) (H : Heap), L.drop i = r → Rd H 3 cs L.length sv sb → (∀ (i : Nat) k, L[i]? = some k → ReV (fun b => n0 ≤ b ∧ b ≠ xb) H k (List.take 3 (List.drop (i * 3) cs)) ∧ i * 3 + 3 ≤ cs.length) →
    H.get xb = .cells ex .own → ReV (fun b => n0 ≤ b ∧ b ≠ xb) H e ex → n0 ≤ H.size → Ext n0 H0 H →
    (∀ H' ex' y1 y3 y4 t, Ext n0 H0 H' → n0 ≤ H'.size → H'.get xb = .cells ex' .own → ReV (fun b => n0 ≤ b ∧ b ≠ xb) H' (r.foldl .seq e) ex' → Q (.exit 3) { p := [(2, .ptr eb 0), (3, y1), (8, .ptr xb 0), (9, y3), (136, y4)], t := t, H := H', d := [], u := .norm }) →
    wpl ⟨bt.get, o⟩ [2, 3, 8, 9] lb_gobolaw6_Make_1 { p := [(2, .ptr eb 0), (3, sv), (8, .ptr xb 0), (9, .int .i64 (i : Int))], t := [], H := H, d := [], u := .norm } Q
  | [], i, e, ex, H, hd, hR, hA, gx, hE, hn, hx, hQ => by
    have : L.length ≤ i := List.drop_eq_nil_iff.1 hd
    rw [wpl_step]
    have c1 : ¬((i : Int) < (L.length : Int)) := by omega
    simp only [lb_gobolaw6_Make_1, go_sem, zA, zB, zC, reduceIte, zD, zE, zF, zG, zH, zI, reduceCtorEq, zJ, zK, zL, zM, zN, zO, zP, hR.len, c1]
    exact hQ H ex _ _ _ _ hx hn gx hE
  | k :: r, i, e, ex, H, hd, hR, hA, gx, hE, hn, hx, hQ => by
    obtain ⟨h0, h1, h2⟩ := list_at hd
    obtain ⟨⟨u, hg⟩, hel, _⟩ := hR.pos (by omega)
    have el := hel i h1
    obtain ⟨r1, r2⟩ := hA i k h0
    have c1 : ((i : Int) < (L.length : Int)) := by omega
    have iw := wsucc (show i ≤ 1000000000 by omega)
    obtain ⟨ek, ev, ew, rfl, ⟨e1, e2⟩, e3, e4⟩ := hE.form
    obtain ⟨kk, kv, kw, ek', ⟨k1, k2⟩, k3, k4⟩ := r1.form
    have hxl : xb < H.size := Heap.lt_of_get (by rw [gx]; simp)
    have gp : ∀ z, (H.push z).get xb = .cells [.int .i64 ek, ev, ew] .own := fun z => by rw [Heap.get_push_lt hxl, gx]
    rw [wpl_step]
    simp only [lb_gobolaw6_Make_1, go_sem, zA, zB, zC, reduceIte, zD, zE, zF, zG, zH, zI, reduceCtorEq, zJ, zK, zL, zM, zN, zO, zP, hR.len, c1, el, hg, gx, r2, ek', e1, e2, e3, e4, k1, k2, k3, k4, gp, iw]
    rw [ek'] at r1
    have low : ∀ b, b < H.size → b ≠ xb → ((H.push (.cells [.int .i64 ek, ev, ew, .int .i64 kk, kv, kw] .own)).set xb (.cells [.int .i64 3, .nils, .slice H.size 0 2 2] .own)).get b = H.get b := fun b h1 h2 => by
      rw [Heap.get_set_ne h2, Heap.get_push_lt h1]
    refine row_loop hL hsx hx0 r (i + 1) (.seq e k) [.int .i64 3, .nils, .slice H.size 0 2 2] _ h2 (hR.keep fun h => low sb (hR.lt h) (hsx h)) (fun j z hz => ⟨(hA j z hz).1.keep fun b p1 p2 => ⟨low b p2 p1.2, p1⟩, (hA j z hz).2⟩) (Heap.get_set_self (by rw [Heap.size_push]; omega)) ?_ (by rw [Heap.size_set, Heap.size_push]; omega) (hx.trans ((Ext.push hn).trans (Ext.set hx0))) hQ
    refine ⟨.slice H.size 0 2 2, H.size, [.int .i64 ek, ev, ew], [.int .i64 kk, kv, kw], rfl, Rd.slice (u := .own) ?_ rfl, ⟨hn, by omega⟩, hE.keep fun b p1 p2 => ⟨low b p2 p1.2, p1⟩, r1.keep fun b p1 p2 => ⟨low b p2 p1.2, p1⟩⟩
    rw [Heap.get_set_ne (by omega), Heap.get_push_self]; rfl
theorem g_Make {l : List Int} {lv : AV} {lb : Nat} {H : Heap} (hR : Rd H 1 (ic l) l.length lv lb) {Q : End → Heap → Prop} (hQ : ∀ H' cs, Ext H.size H H' → ReV (fun b => H.size ≤ b) H' (makeX l) cs → Q (.ret (.agg cs)) H') : wpf ⟨bt.get, o⟩ F_gobolaw6_Make [lv] H Q := by
  rw [fn_gobolaw6_Make (ho _ _ _ (by decide))]
  have x1 : Ext H.size H (H.push (.cells [.int .i64 0, .nils, .nils] .own)) := Ext.push (Nat.le_refl _)
  have g1 : (H.push (.cells [.int .i64 0, .nils, .nils] .own)).get H.size = .cells [.int .i64 0, .nils, .nils] .own := Heap.get_push_self
  have s1 : (H.push (.cells [.int .i64 0, .nils, .nils] .own)).size = H.size + 1 := Heap.size_push _ _
  simp only [bd_gobolaw6_Make, go_sem, zA, zB, zC, reduceIte, zD, zE, zF, zG, zH, zI, reduceCtorEq, zJ, zK, zL, zM, zN, zO, zP]
  generalize H.push (.cells [.int .i64 0, .nils, .nils] .own) = H1 at x1 g1 s1 ⊢
  refine mk_loop (n0 := H.size + 1) (fun h => by have := hR.lt h; omega) (l.take 14) 0 [] .nils H1 (by rw [List.drop_zero]) (Nat.zero_le _) (Nat.le_refl _) (hR.ext x1) Ext.refl (by omega) ⟨[], .inl ⟨rfl, rfl, rfl⟩, rfl⟩ fun H2 sv y1 y3 y4 t x2 S2 => ?_
  have hmk : (l.take 14).foldl stepX [] = mkX l := rfl
  rw [hmk] at S2
  obtain ⟨cs, hS, hT⟩ := S2
  obtain ⟨m1, m2, m3⟩ := mkX_ok l
  have sz2 := x2.1
  have g2 : H2.get H.size = .cells [.int .i64 0, .nils, .nils] .own := by rw [x2.2 _ (by omega), g1]
  have x12 : Ext H.size H H2 := x1.trans (x2.le (by omega))
  have hat := hT.at
  have hln := hS.lenI
  have hrl : (mkX l).reverse.length = (mkX l).length := List.length_reverse
  cases hrev : (mkX l).reverse with
  | nil =>
    have hnil : (mkX l).length = 0 := by rw [← hrl, hrev]; rfl
    have hX : makeX l = .set [⟨97, 97⟩] := by
      have : madeX l = .set [⟨97, 97⟩] := by rw [madeX, hrev]; rfl
      rw [makeX, this]; rfl
    have q0 : ((mkX l).length : Int) = 0 := by omega
    simp only [go_sem, zA, zB, zC, reduceIte, zD, zE, zF, zG, zH, zI, reduceCtorEq, zJ, zK, zL, zM, zN, zO, zP, hln, q0]
    refine g_One ho fun H3 c3 x3 R3 => ?_
    have sz3 := x3.1
    obtain ⟨k, v, w, rfl, ⟨v1, v2⟩, w1, w2⟩ := R3.form
    have g3 : H3.get H.size = .cells [.int .i64 0, .nils, .nils] .own := by rw [x3.2 _ (by omega), g2]
    have l3 : H.size < H3.size := by omega
    simp only [go_sem, zA, zB, zC, reduceIte, zD, zE, zF, zG, zH, zI, reduceCtorEq, zJ, zK, zL, zM, zN, zO, zP, v1, v2, w1, w2, g3, Heap.get_set_self l3]
    refine hQ _ _ ((x12.trans (x3.le (by omega))).trans (Ext.set (Nat.le_refl _))) ?_
    rw [hX]
    exact R3.keep fun b p1 p2 => ⟨Heap.get_set_ne (by omega), by omega⟩
  | cons e rr =>
    have hL1 : (mkX l).length = rr.length + 1 := by rw [← hrl, hrev]; rfl
    have q0 : ¬ ((mkX l).length : Int) = 0 := by omega
    obtain ⟨sb, hRs, hpos⟩ := hS.rd
    obtain ⟨hsb, _, _⟩ := hpos (by omega)
    obtain ⟨⟨us, gs⟩, els, _⟩ := hRs.pos (by omega)
    have el0 := els 0 (by omega)
    rw [Int.natCast_zero, Nat.zero_mul] at el0
    obtain ⟨a1, a2⟩ := hat 0 e (by rw [hrev]; rfl)
    rw [Nat.zero_mul, List.drop_zero] at a1
    rw [Nat.zero_mul, Nat.zero_add] at a2
    obtain ⟨ek, ev, ew, ee, ⟨e1, e2⟩, e3, e4⟩ := a1.form
    rw [ee] at a1
    have hsl : sb < H2.size := Heap.lt_of_get (by rw [gs]; simp)
    have lx : H2.size < (H2.push (.cells [.int .i64 0, .nils, .nils] .own)).size := by rw [Heap.size_push]; omega
    have gx : (H2.push (.cells [.int .i64 0, .nils, .nils] .own)).get H2.size = .cells [.int .i64 0, .nils, .nils] .own := Heap.get_push_self
    simp only [go_sem, zA, zB, zC, reduceIte, zD, zE, zF, zG, zH, zI, reduceCtorEq, zJ, zK, zL, zM, zN, zO, zP, hln, q0, el0, gs, List.drop_zero, ee, a2, e1, e2, e3, e4, gx]
    have x3 : Ext H2.size H2 (H2.push (.cells [.int .i64 ek, ev, ew] .own)) := Ext.push (Nat.le_refl _)
    have g3 : (H2.push (.cells [.int .i64 ek, ev, ew] .own)).get H2.size = .cells [.int .i64 ek, ev, ew] .own := Heap.get_push_self
    generalize H2.push (.cells [.int .i64 ek, ev, ew] .own) = H3 at x3 g3 ⊢
    have sz3 := x3.1
    have cv : ∀ b, NotIn (H.size + 1) sv b → b < H2.size → H3.get b = H2.get b ∧ (H.size + 1 ≤ b ∧ b ≠ H2.size) := fun b p1 p2 => ⟨x3.2 b p2, p1.1, by omega⟩
    refine row_loop (L := (mkX l).reverse) (sb := sb) (n0 := H.size + 1) (by omega) (fun _ => by omega) (by omega) (H0 := H2) rr 1 e [.int .i64 ek, ev, ew] H3 (by rw [hrev]; rfl) (by rw [hrl]; exact hRs.ext x3) (fun i k h => ⟨(hat i k h).1.keep cv, (hat i k h).2⟩) g3 (a1.keep cv) (by omega) (x3.le (by omega)) fun H4 ex y1 y3 y4 t x4 sz4 gx4 hE => ?_
    have hX : madeX l = rr.foldl .seq e := by rw [madeX, hrev]; rfl
    rw [← hX] at hE
    obtain ⟨ok, hz⟩ := madeX_ok l
    obtain ⟨k, v, w, rfl, ⟨v1, v2⟩, w1, w2⟩ := hE.form
    have x24 : Ext H.size H H4 := x12.trans (x4.le (by omega))
    have g4 : H4.get H.size = .cells [.int .i64 0, .nils, .nils] .own := by rw [x4.2 _ (by omega), g2]
    have hxl : H2.size < H4.size := Heap.lt_of_get (by rw [gx4]; simp)
    simp only [go_sem, zA, zB, zC, reduceIte, zD, zE, zF, zG, zH, zI, reduceCtorEq, zJ, zK, zL, zM, zN, zO, zP, gx4, v1, v2, w1, w2]
    refine g6_May ho ok (by omega) hE fun H5 x5 => ?_
    have sz5 := x5.1
    have g5 : H5.get H.size = .cells [.int .i64 0, .nils, .nils] .own := by rw [x5.2 _ (by omega), g4]
    have gx5 : H5.get H2.size = .cells [.int .i64 k, v, w] .own := by rw [x5.2 _ hxl, gx4]
    have l5 : H.size < H5.size := by omega
    have x25 : Ext H.size H H5 := x24.trans (x5.le (by omega))
    cases hm : mayX (madeX l) with
    | true =>
      have hX' : makeX l = madeX l := by rw [makeX, if_pos hm]
      simp only [go_sem, zA, zB, zC, reduceIte, zD, zE, zF, zG, zH, zI, reduceCtorEq, zJ, zK, zL, zM, zN, zO, zP, v1, v2, w1, w2, gx5, g5, Heap.get_set_self l5]
      refine hQ _ _ (x25.trans (Ext.set (Nat.le_refl _))) ?_
      rw [hX']
      exact hE.keep fun b p1 p2 => ⟨by rw [Heap.get_set_ne (by omega), x5.2 b p2], by omega⟩
    | false =>
      have hX' : makeX l = .set [⟨98, 98⟩] := by rw [makeX, if_neg (by rw [hm]; decide)]
      simp only [go_sem, zA, zB, zC, reduceIte, zD, zE, zF, zG, zH, zI, reduceCtorEq, zJ, zK, zL, zM, zN, zO, zP]
      refine g_One ho fun H6 c6 x6 R6 => ?_
      have sz6 := x6.1
      obtain ⟨k, v, w, rfl, ⟨v1, v2⟩, w1, w2⟩ := R6.form
      have g6 : H6.get H.size = .cells [.int .i64 0, .nils, .nils] .own := by rw [x6.2 _ (by omega), g5]
      have l6 : H.size < H6.size := by omega
      simp only [go_sem, zA, zB, zC, reduceIte, zD, zE, zF, zG, zH, zI, reduceCtorEq, zJ, zK, zL, zM, zN, zO, zP, v1, v2, w1, w2, g6, Heap.get_set_self l6]
      refine hQ _ _ ((x25.trans (x6.le (by omega))).trans (Ext.set (Nat.le_refl _))) ?_
      rw [hX']
      exact R6.keep fun b p1 p2 => ⟨Heap.get_set_ne (by omega), by omega⟩
end
end Go.Ev
/- PrintOnce: what the law's function comes to. -/
namespace Go.Ev
open Go Go.Proofs
open Go.Ev renaming seqK_normal → zA, blockK_normal → zB, blockK_exit → zC
open Nat renaming reduceEqDiff → zD, reduceAdd → zE, reduceSub → zF, reduceMul → zG, reduceLeDiff → zH, reduceLT → zI
open Int renaming reduceToNat → zJ, reduceLT → zK, reduceLE → zL, reduceEq → zM, reduceAdd → zN, reduceSub → zO, reduceMul → zP
set_option maxRecDepth 8000
theorem print_inj {x y : Rx} (hx : okX x) (hy : okX y) (zx : szX x ≤ 40) (zy : szX y ≤ 40) (h : printX x = printX y) : x = y := by
  have h1 := re_print hx zx
  have h2 := re_print hy zy
  rw [h, h2] at h1
  injection h1 with h1
  exact h1.symm
set_option maxHeartbeats 4000000 in
/-- PrintOnce: it comes to true. -/
theorem po_law {la lb : List Int} {va vb : AV} {ba bb : Nat} {H : Heap} (hG : GlH H) (hA : Rd H 1 (ic la) la.length va ba) (hB : Rd H 1 (ic lb) lb.length vb bb) : wpf ⟨bt.get, ovT⟩ F_gobolaw14_PrintOnce [va, vb] H fun e _ => e = .ret (.bool true) := by
  rw [fn_gobolaw14_PrintOnce (ovT_only _ _ _ (by decide))]
  obtain ⟨okx, zx, mx⟩ := makeX_ok la
  obtain ⟨oky, zy, my⟩ := makeX_ok lb
  have lx := print_len (makeX la) okx
  have ly := print_len (makeX lb) oky
  have hrx := re_print okx (by omega)
  simp only [bd_gobolaw14_PrintOnce, go_sem, zA, zB, zC, reduceIte, zD, zE, zF, zG, zH, zI, reduceCtorEq, zJ, zK, zL, zM, zN, zO, zP]
  refine g_Make ovT_only hA fun H1 c1 x1 R1 => ?_
  simp only [go_sem, zA, zB, zC, reduceIte, zD, zE, zF, zG, zH, zI, reduceCtorEq, zJ, zK, zL, zM, zN, zO, zP]
  refine g_Make ovT_only (hB.ext x1) fun H2 c2 x2 R2 => ?_
  have G2 := (hG.ext hG.1 x1).ext (hG.ext hG.1 x1).1 x2
  obtain ⟨k1, v1, w1, e1, ⟨a1, a2⟩, a3, a4⟩ := R1.form
  obtain ⟨k2, v2, w2, e2, ⟨b1, b2⟩, b3, b4⟩ := R2.form
  subst e1; subst e2
  have yA : Ext H2.size H2 ((H2.push (.cells [.int .i64 0, .nils, .nils] .own)).push (.cells [.int .i64 0, .nils, .nils] .own)) := (Ext.push (Nat.le_refl _)).trans (Ext.push (by rw [Heap.size_push]; omega))
  have z5 : ((H2.push (.cells [.int .i64 0, .nils, .nils] .own)).push (.cells [.int .i64 0, .nils, .nils] .own)).get H2.size = .cells [.int .i64 0, .nils, .nils] .own := by rw [Heap.get_push_lt (by rw [Heap.size_push]; omega), Heap.get_push_self]
  have z6 : ((H2.push (.cells [.int .i64 0, .nils, .nils] .own)).push (.cells [.int .i64 0, .nils, .nils] .own)).get (H2.size + 1) = .cells [.int .i64 0, .nils, .nils] .own := by rw [Heap.get_push_eq (by rw [Heap.size_push])]
  have sA : ((H2.push (.cells [.int .i64 0, .nils, .nils] .own)).push (.cells [.int .i64 0, .nils, .nils] .own)).size = H2.size + 2 := by rw [Heap.size_push, Heap.size_push]
  simp only [go_sem, zA, zB, zC, reduceIte, zD, zE, zF, zG, zH, zI, reduceCtorEq, zJ, zK, zL, zM, zN, zO, zP, a1, a2, a3, a4, b1, b2, b3, b4]
  generalize (H2.push (.cells [.int .i64 0, .nils, .nils] .own)).push (.cells [.int .i64 0, .nils, .nils] .own) = HA at yA z5 z6 sA ⊢
  have y6 : (HA.set H2.size (.cells [.int .i64 k1, v1, w1] .own)).get (H2.size + 1) = .cells [.int .i64 0, .nils, .nils] .own := by rw [Heap.get_set_ne (by omega), z6]
  have g5 : ((HA.set H2.size (.cells [.int .i64 k1, v1, w1] .own)).set (H2.size + 1) (.cells [.int .i64 k2, v2, w2] .own)).get H2.size = .cells [.int .i64 k1, v1, w1] .own := by
    rw [Heap.get_set_ne (by omega), Heap.get_set _ _ _ _ (by omega), if_pos rfl]
  have g6 : ((HA.set H2.size (.cells [.int .i64 k1, v1, w1] .own)).set (H2.size + 1) (.cells [.int .i64 k2, v2, w2] .own)).get (H2.size + 1) = .cells [.int .i64 k2, v2, w2] .own := by
    rw [Heap.get_set _ _ _ _ (by rw [Heap.size_set]; omega), if_pos rfl]
  have x3 : Ext H2.size H2 ((HA.set H2.size (.cells [.int .i64 k1, v1, w1] .own)).set (H2.size + 1) (.cells [.int .i64 k2, v2, w2] .own)) := yA.trans ((Ext.set (Nat.le_refl _)).trans (Ext.set (by omega)))
  have s3 : ((HA.set H2.size (.cells [.int .i64 k1, v1, w1] .own)).set (H2.size + 1) (.cells [.int .i64 k2, v2, w2] .own)).size = H2.size + 2 := by rw [Heap.size_set, Heap.size_set, sA]
  simp only [go_sem, zA, zB, zC, reduceIte, zD, zE, zF, zG, zH, zI, reduceCtorEq, zJ, zK, zL, zM, zN, zO, zP, z5, y6, g5]
  generalize (HA.set H2.size (.cells [.int .i64 k1, v1, w1] .own)).set (H2.size + 1) (.cells [.int .i64 k2, v2, w2] .own) = H3 at g5 g6 x3 s3 ⊢
  have G3 := G2.ext G2.1 x3
  have Q1 : ReV (fun _ => True) H3 (makeX la) [.int .i64 k1, v1, w1] := (R1.keep (Q := fun _ => True) fun b _ p => ⟨by rw [x3.2 b (by have := x2.1; omega), x2.2 b p], trivial⟩)
  have Q2 : ReV (fun _ => True) H3 (makeX lb) [.int .i64 k2, v2, w2] := (R2.keep (Q := fun _ => True) fun b _ p => ⟨x3.2 b p, trivial⟩)
  refine pr_Re ovT_only okx (by omega) mx Q1 fun H4 x4 => ?_
  have h5 : H4.get H2.size = .cells [.int .i64 k1, v1, w1] .own := by rw [x4.2 _ (by omega), g5]
  have h6 : H4.get (H2.size + 1) = .cells [.int .i64 k2, v2, w2] .own := by rw [x4.2 _ (by omega), g6]
  have G4 := G3.ext G3.1 x4
  simp only [go_sem, zA, zB, zC, reduceIte, zD, zE, zF, zG, zH, zI, reduceCtorEq, zJ, zK, zL, zM, zN, zO, zP, g5, g6, h5, h6]
  refine pr_Re ovT_only oky (by omega) my (Q2.keep (Q := fun _ => True) fun b _ p => ⟨x4.2 b p, trivial⟩) fun H5 x5 => ?_
  have G5 := G4.ext G4.1 x5
  have x45 := x4.trans (x5.le x4.1)
  simp only [go_sem, zA, zB, zC, reduceIte, zD, zE, zF, zG, zH, zI, reduceCtorEq, zJ, zK, zL, zM, zN, zO, zP, g5, g6, h5, h6]
  refine p_Re ovT_only 160 (by omega) G5 (by rw [hrx]; intro h; cases h) (fun z hz H6 cz x6 R6 => ?_) (fun c a hz _ _ _ => by rw [hrx] at hz; cases hz)
  rw [hrx] at hz
  injection hz with hz
  subst hz
  have G6 := G5.ext G5.1 x6
  obtain ⟨k3, v3, w3, e3, ⟨d1, d2⟩, d3, d4⟩ := R6.form
  subst e3
  have x7 : Ext H6.size H6 (H6.push (.cells [.int .i64 k3, v3, w3] .own)) := Ext.push (Nat.le_refl _)
  have g7 : (H6.push (.cells [.int .i64 k3, v3, w3] .own)).get H6.size = .cells [.int .i64 k3, v3, w3] .own := Heap.get_push_self
  have s7 : (H6.push (.cells [.int .i64 k3, v3, w3] .own)).size = H6.size + 1 := Heap.size_push _ _
  have G7 := G6.ext G6.1 x7
  simp only [go_sem, zA, zB, zC, reduceIte, zD, zE, zF, zG, zH, zI, reduceCtorEq, zJ, zK, zL, zM, zN, zO, zP, d1, d2, d3, d4]
  generalize H6.push (.cells [.int .i64 k3, v3, w3] .own) = H7 at x7 g7 s7 G7 ⊢
  refine t_told G7 ?_
  simp only [go_sem, zA, zB, zC, reduceIte, zD, zE, zF, zG, zH, zI, reduceCtorEq, zJ, zK, zL, zM, zN, zO, zP, g7]
  have x67 := x6.trans (x7.le x6.1)
  have x37 : Ext H3.size H3 H7 := x45.trans (x67.le x45.1)
  refine pr_Re ovT_only okx (by omega) mx (R6.keep (Q := fun _ => True) fun b _ p => ⟨x7.2 b p, trivial⟩) fun H8 x8 => ?_
  have x38 : Ext H3.size H3 H8 := x37.trans (x8.le x37.1)
  have i5 : H8.get H2.size = .cells [.int .i64 k1, v1, w1] .own := by rw [x38.2 _ (by omega), g5]
  have i6 : H8.get (H2.size + 1) = .cells [.int .i64 k2, v2, w2] .own := by rw [x38.2 _ (by omega), g6]
  simp only [go_sem, zA, zB, zC, reduceIte, zD, zE, zF, zG, zH, zI, reduceCtorEq, zJ, zK, zL, zM, zN, zO, zP, i5, i6]
  refine rx_Same ovT_only (makeX la) (makeX lb) (fun _ => True) (fun _ => True) _ _ H8 _ (Q1.keep fun b _ p => ⟨x38.2 b p, trivial⟩) (Q2.keep fun b _ p => ⟨x38.2 b p, trivial⟩) fun H9 x9 => ?_
  have hiff : decide (printX (makeX la) = printX (makeX lb)) = sameX (makeX la) (makeX lb) := by
    cases hs : sameX (makeX la) (makeX lb) with
    | true => rw [(sameX_iff _ _).1 hs]; simp
    | false =>
      refine decide_eq_false fun h => ?_
      have := (sameX_iff _ _).2 (print_inj okx oky (by omega) (by omega) h)
      rw [hs] at this; cases this
  simp only [go_sem, zA, zB, zC, reduceIte, zD, zE, zF, zG, zH, zI, reduceCtorEq, zJ, zK, zL, zM, zN, zO, zP, hiff]
end Go.Ev
