/- WordPlaces: what the law's function comes to. -/
import Derived.Test.YtimbiogcllmalaaDoorXE
namespace Go.Ev
open Go Go.Proofs
set_option linter.unusedSimpArgs false
set_option linter.unusedVariables false
set_option maxRecDepth 8000

theorem wcells_at : ∀ {l : List W} {i : Nat} {x : W}, l[i]? = some x → List.take 3 (List.drop (i * 3) (wcells l)) = x.cells ∧ i * 3 + 3 ≤ (wcells l).length
  | y :: l, 0, x, h => by
    simp only [List.getElem?_cons_zero, Option.some.injEq] at h; subst h
    constructor
    · rfl
    · rw [wcells_len, List.length_cons]; omega
  | y :: l, i + 1, x, h => by
    have := wcells_at (l := l) (i := i) (x := x) (by simpa using h)
    constructor
    · rw [wcells, List.flatMap_cons, ← wcells, show (i + 1) * 3 = 3 + i * 3 by omega, ← List.drop_drop]
      exact this.1
    · rw [wcells_len, List.length_cons]; have h2 := this.2; rw [wcells_len] at h2; omega

/-- 'told' comes to true. -/
def ovT : CallF := pureCall gl F_gobolaw12_told [] (.bool true)
theorem ovT_only : OvOnly ovT := fun f l H h => by simp only [ovT, pureCall, if_neg h]
theorem okGl_GlH {H : Heap} (h : GlH H) : okGl gl 0 H = true := by
  simp only [gl, okGl, h.2.1, h.2.2, AV.beqs_self, Bool.and_true]
theorem t_told {H : Heap} {Q : End → Heap → Prop} (hG : GlH H) (h : Q (.ret (.bool true)) H) : wpf ⟨bt.get, ovT⟩ F_gobolaw12_told [] H Q :=
  wpf_ov (M := ⟨bt.get, ovT⟩) (by simp only [ovT, pureCall, okGl_GlH hG, AV.beqs, Bool.and_true, if_true]) h

set_option maxHeartbeats 2000000 in
theorem p_loop {s : List UInt8} (hs : s.length ≤ 1000) {all : List W} {n0 wb : Nat} {H0 : Heap} (h3 : 3 ≤ n0) (hw : wb < H0.size) (hl : all.length ≤ 1000000) {Q : Ctl → St → Prop} : ∀ (r : List W) (i e : Nat) (H : Heap), all.drop i = r → i ≤ all.length → e ≤ 1000000 → Pls s e r → Ext H0.size H0 H → H0.get wb = .cells (wcells all) .own →
    (∀ (σ : St) (e' : Nat), Ext H0.size H0 σ.H → σ.d = [] → lk 0 σ.p = some (.str s) → lk 6 σ.p = some (.int .i64 e') → e' ≤ s.length → Q (.exit 0) σ) →
    wpl ⟨bt.get, ovT⟩ [0, 3, 6, 7] lb_gobolaw12_WordPlaces_0 { p := [(0, .str s), (3, .osl 3 wb 0 all.length), (6, .int .i64 e), (7, .int .i64 i)], t := [], H := H, d := [], u := .norm } Q
  | [], i, e, H, hr, hi, he, hp, hx, hg, hQ => by
    have : all.length ≤ i := List.drop_eq_nil_iff.1 hr
    rw [wpl_step]
    have h1 : ¬((i : Int) < (all.length : Int)) := by omega
    simp only [lb_gobolaw12_WordPlaces_0, go_sem, seqK_normal, blockK_normal, blockK_exit, reduceIte, Nat.reduceEqDiff, Nat.reduceAdd, Nat.reduceSub, Nat.reduceMul, Nat.reduceLeDiff, Nat.reduceLT, reduceCtorEq, Int.reduceToNat, Int.reduceLT, Int.reduceLE, Int.reduceEq, Int.reduceAdd, Int.reduceSub, Int.reduceMul, h1]
    cases hp with
    | nil hp => exact hQ _ e hx rfl rfl rfl hp
  | x :: r, i, e, H, hr, hi, he, hp, hx, hg, hQ => by
    have h0 : all[i]? = some x := by
      have := congrArg (fun l => l[0]?) hr
      simpa using this
    have h1 : i < all.length := (List.getElem?_eq_some_iff.1 h0).1
    have h2 : all.drop (i + 1) = r := by rw [← List.drop_drop, hr]; rfl
    have hgw : H.get wb = .cells (wcells all) .own := by rw [hx.2 wb hw, hg]
    rw [wpl_step]
    have h1' : ((i : Int) < (all.length : Int)) := by omega
    obtain ⟨c1, c2⟩ := wcells_at h0
    cases hp with
    | cons ok hp =>
    have hfin : x.fin ≤ 1000000 := by
      have := ok.le
      have hle : x.at_ < s.length ∨ x.at_ + x.text.length ≤ s.length := by
        by_cases h5 : x.kind = 5
        · obtain ⟨_, c, hc, _⟩ := ok.nl h5
          exact .inl (List.getElem?_eq_some_iff.1 hc).1
        · right
          unfold W.frm at this
          split at this <;> omega
      unfold W.fin W.frm
      unfold W.frm at this
      repeat' split
      all_goals (try split at this) <;> omega
    have nxt := p_loop hs h3 hw hl r (i + 1) x.fin (H.push (.cells x.cells .own)) h2 (by omega) hfin hp (hx.trans (Ext.push hx.1)) hg hQ
    obtain ⟨k, t, a⟩ := x
    obtain ⟨o1, o2, o3, o4, o5, o6, o7⟩ := ok
    simp only at o1 o4 o5 o6 o7
    have z1 : ¬ ((a : Int) < (e : Int)) := by omega
    have z2 : ¬ ((a : Int) < 0) := by omega
    have iw := wsucc (show i ≤ 1000000000 by omega)
    have hk : (k ≠ 4 ∧ k ≠ 5) ∨ k = 4 ∨ k = 5 := by omega
    rcases hk with ⟨k4, k5⟩ | rfl | rfl
    · simp only [W.frm, if_neg k4] at o2 o3
      have y4 : ¬ ((k : Int) = 4) := by omega
      have y5 : ¬ ((k : Int) = 5) := by omega
      have y1 : ¬ ((k : Int) < 1) := by omega
      have y6 : ¬ ((5 : Int) < (k : Int)) := by omega
      have y3 : ¬ ((3 : Int) < (k : Int)) := by omega
      have wn := wnat (a := a) (b := t.length) (by omega)
      have z3 : ¬ ((s.length : Int) < ((a + t.length : Nat) : Int)) := by omega
      have z4 : ((a + t.length : Nat) : Int) ≤ (s.length : Int) := by omega
      have z5 : (a : Int) ≤ ((a + t.length : Nat) : Int) := by omega
      have f0 : W.fin ⟨k, t, a⟩ = a + t.length := by simp only [W.fin, W.frm, if_neg k4, if_neg k5, if_neg (show ¬ 3 < k by omega)]
      simp only [f0, W.cells] at nxt
      simp only [lb_gobolaw12_WordPlaces_0, go_sem, seqK_normal, blockK_normal, blockK_exit, reduceIte, Nat.reduceEqDiff, Nat.reduceAdd, Nat.reduceSub, Nat.reduceMul, Nat.reduceLeDiff, Nat.reduceLT, reduceCtorEq, Int.reduceToNat, Int.reduceLT, Int.reduceLE, Int.reduceEq, Int.reduceAdd, Int.reduceSub, Int.reduceMul, h1', hgw, c1, c2, W.cells, z1, z2, y1, y3, y4, y5, y6, wn, z3, z4, z5, o3]
      simp only [go_sem, seqK_normal, blockK_normal, blockK_exit, reduceIte, Nat.reduceEqDiff, Nat.reduceAdd, Nat.reduceSub, Nat.reduceMul, Nat.reduceLeDiff, Nat.reduceLT, reduceCtorEq, Int.reduceToNat, Int.reduceLT, Int.reduceLE, Int.reduceEq, Int.reduceAdd, Int.reduceSub, Int.reduceMul, iw]
      exact nxt
    · obtain ⟨⟨c, hc, c47⟩, d, hd, d47⟩ := o7 rfl
      simp only [W.frm, if_true] at o2 o3 hd
      have wa := wsucc (show a ≤ 1000000000 by omega)
      have z2' : ¬ (((a + 1 : Nat) : Int) < 0) := by omega
      have wn := wnat (a := a + 1) (b := t.length) (by omega)
      have hdl := (List.getElem?_eq_some_iff.1 hd).1
      have z3 : ¬ ((s.length : Int) < ((a + 1 + t.length : Nat) : Int)) := by omega
      have z4 : ((a + 1 + t.length : Nat) : Int) ≤ (s.length : Int) := by omega
      have z5 : ((a + 1 : Nat) : Int) ≤ ((a + 1 + t.length : Nat) : Int) := by omega
      have z6 : ¬ ((s.length : Int) ≤ ((a + 1 + t.length : Nat) : Int)) := by omega
      have c47' : (c.toNat : Int) = 47 := by omega
      have d47' : (d.toNat : Int) = 47 := by omega
      have f0 : W.fin ⟨4, t, a⟩ = a + 1 + t.length + 1 := rfl
      simp only [f0, W.cells] at nxt
      simp only [lb_gobolaw12_WordPlaces_0, go_sem, seqK_normal, blockK_normal, blockK_exit, reduceIte, Nat.reduceEqDiff, Nat.reduceAdd, Nat.reduceSub, Nat.reduceMul, Nat.reduceLeDiff, Nat.reduceLT, reduceCtorEq, Int.reduceToNat, Int.reduceLT, Int.reduceLE, Int.reduceEq, Int.reduceAdd, Int.reduceSub, Int.reduceMul, h1', hgw, c1, c2, W.cells, z1, z2', wa, wn, z3, z4, z5, z6, o3, hc, hd, c47', d47']
      simp only [go_sem, seqK_normal, blockK_normal, blockK_exit, reduceIte, Nat.reduceEqDiff, Nat.reduceAdd, Nat.reduceSub, Nat.reduceMul, Nat.reduceLeDiff, Nat.reduceLT, reduceCtorEq, Int.reduceToNat, Int.reduceLT, Int.reduceLE, Int.reduceEq, Int.reduceAdd, Int.reduceSub, Int.reduceMul, iw, wsucc (show a + 1 + t.length ≤ 1000000000 by omega)]
      exact nxt
    · obtain ⟨rfl, c, hc, c10⟩ := o6 rfl
      simp only [W.frm, List.length_nil, Nat.add_zero, if_neg (show ¬ 5 = 4 by omega)] at o2 o3
      have hcl := (List.getElem?_eq_some_iff.1 hc).1
      have wa : IntKind.i64.wrap (a : Int) = (a : Int) := wi64 (by omega) (by omega)
      have z3 : ¬ ((s.length : Int) < (a : Int)) := by omega
      have z4 : (a : Int) ≤ (s.length : Int) := by omega
      have c10' : (c.toNat : Int) = 10 := by omega
      have f0 : W.fin ⟨5, [], a⟩ = a + 1 := rfl
      simp only [f0, W.cells] at nxt
      simp only [lb_gobolaw12_WordPlaces_0, go_sem, seqK_normal, blockK_normal, blockK_exit, reduceIte, Nat.reduceEqDiff, Nat.reduceAdd, Nat.reduceSub, Nat.reduceMul, Nat.reduceLeDiff, Nat.reduceLT, reduceCtorEq, Int.reduceToNat, Int.reduceLT, Int.reduceLE, Int.reduceEq, Int.reduceAdd, Int.reduceSub, Int.reduceMul, h1', hgw, c1, c2, W.cells, z1, z2, wa, z3, z4, o3, hc, c10', Int.le_refl]
      simp only [go_sem, seqK_normal, blockK_normal, blockK_exit, reduceIte, Nat.reduceEqDiff, Nat.reduceAdd, Nat.reduceSub, Nat.reduceMul, Nat.reduceLeDiff, Nat.reduceLT, reduceCtorEq, Int.reduceToNat, Int.reduceLT, Int.reduceLE, Int.reduceEq, Int.reduceAdd, Int.reduceSub, Int.reduceMul, iw, wsucc (show a ≤ 1000000000 by omega)]
      exact nxt

theorem p_law {s : List UInt8} : wpf ⟨bt.get, ovT⟩ F_gobolaw12_WordPlaces [.str s] (glHeap gl) fun e _ => e = .ret (.bool true) := by
  have hG : GlH (glHeap gl) := ⟨by rw [glHeap_size]; exact Nat.le_refl 3, by rw [glHeap_get]; rfl, by rw [glHeap_get]; rfl⟩
  generalize glHeap gl = H at hG ⊢
  rw [fn_gobolaw12_WordPlaces (ovT_only _ _ _ (by decide))]
  by_cases hs : s.length ≤ 400
  · have hs' : ¬ ((400 : Int) < (s.length : Int)) := by omega
    simp only [bd_gobolaw12_WordPlaces, go_sem, seqK_normal, blockK_normal, blockK_exit, reduceIte, Nat.reduceEqDiff, Nat.reduceAdd, Nat.reduceSub, Nat.reduceMul, Nat.reduceLeDiff, Nat.reduceLT, reduceCtorEq, Int.reduceToNat, Int.reduceLT, Int.reduceLE, Int.reduceEq, Int.reduceAdd, Int.reduceSub, Int.reduceMul, hs']
    refine w_All ovT_only (by omega) hG (fun l hl H' v hx hv => ?_) (fun k hk H' hx => ?_)
    · simp only [go_sem, seqK_normal, blockK_normal, blockK_exit, reduceIte, Nat.reduceEqDiff, Nat.reduceAdd, Nat.reduceSub, Nat.reduceMul, Nat.reduceLeDiff, Nat.reduceLT, reduceCtorEq, Int.reduceToNat, Int.reduceLT, Int.reduceLE, Int.reduceEq, Int.reduceAdd, Int.reduceSub, Int.reduceMul]
      have hp := allW_pls hl
      rcases hv with ⟨rfl, h0, _⟩ | ⟨wb, rfl, hwb, hg, hln, hpos⟩
      · rw [wpl_step]
        simp only [lb_gobolaw12_WordPlaces_0, go_sem, seqK_normal, blockK_normal, blockK_exit, reduceIte, Nat.reduceEqDiff, Nat.reduceAdd, Nat.reduceSub, Nat.reduceMul, Nat.reduceLeDiff, Nat.reduceLT, reduceCtorEq, Int.reduceToNat, Int.reduceLT, Int.reduceLE, Int.reduceEq, Int.reduceAdd, Int.reduceSub, Int.reduceMul]
        refine t_told (hG.ext hG.1 hx) ?_
        simp only [go_sem, seqK_normal, blockK_normal, blockK_exit, reduceIte, Nat.reduceEqDiff, Nat.reduceAdd, Nat.reduceSub, Nat.reduceMul, Nat.reduceLeDiff, Nat.reduceLT, reduceCtorEq, Int.reduceToNat, Int.reduceLT, Int.reduceLE, Int.reduceEq, Int.reduceAdd, Int.reduceSub, Int.reduceMul]
      · have hlt : wb < H'.size := Heap.lt_of_get (by rw [hg]; simp)
        refine p_loop (n0 := 3) (by omega) (Nat.le_refl _) hlt (by have := wordsL_len _ _ _ _ (allW_ok hl); omega) l 0 0 H' rfl (Nat.zero_le _) (Nat.zero_le _) hp Ext.refl hg fun σ e' k1 k2 k3 k4 k5 => ?_
        have k5' : (e' : Int) ≤ (s.length : Int) := by omega
        simp only [go_sem, seqK_normal, blockK_normal, blockK_exit, reduceIte, Nat.reduceEqDiff, Nat.reduceAdd, Nat.reduceSub, Nat.reduceMul, Nat.reduceLeDiff, Nat.reduceLT, reduceCtorEq, Int.reduceToNat, Int.reduceLT, Int.reduceLE, Int.reduceEq, Int.reduceAdd, Int.reduceSub, Int.reduceMul, k2, k3, k4]
        refine t_told ((hG.ext hG.1 hx).ext (hG.ext hG.1 hx).1 k1) ?_
        simp only [go_sem, seqK_normal, blockK_normal, blockK_exit, reduceIte, Nat.reduceEqDiff, Nat.reduceAdd, Nat.reduceSub, Nat.reduceMul, Nat.reduceLeDiff, Nat.reduceLT, reduceCtorEq, Int.reduceToNat, Int.reduceLT, Int.reduceLE, Int.reduceEq, Int.reduceAdd, Int.reduceSub, Int.reduceMul, k5']
    · have hk' := allW_err hk
      simp only [go_sem, seqK_normal, blockK_normal, blockK_exit, reduceIte, Nat.reduceEqDiff, Nat.reduceAdd, Nat.reduceSub, Nat.reduceMul, Nat.reduceLeDiff, Nat.reduceLT, reduceCtorEq, Int.reduceToNat, Int.reduceLT, Int.reduceLE, Int.reduceEq, Int.reduceAdd, Int.reduceSub, Int.reduceMul]
      refine t_told (hG.ext hG.1 hx) ?_
      have z1 : (k : Int) < (s.length : Int) := by omega
      simp only [go_sem, seqK_normal, blockK_normal, blockK_exit, reduceIte, Nat.reduceEqDiff, Nat.reduceAdd, Nat.reduceSub, Nat.reduceMul, Nat.reduceLeDiff, Nat.reduceLT, reduceCtorEq, Int.reduceToNat, Int.reduceLT, Int.reduceLE, Int.reduceEq, Int.reduceAdd, Int.reduceSub, Int.reduceMul, z1]
  · have hs' : ((400 : Int) < (s.length : Int)) := by omega
    simp only [bd_gobolaw12_WordPlaces, go_sem, seqK_normal, blockK_normal, blockK_exit, reduceIte, Nat.reduceEqDiff, Nat.reduceAdd, Nat.reduceSub, Nat.reduceMul, Nat.reduceLeDiff, Nat.reduceLT, reduceCtorEq, Int.reduceToNat, Int.reduceLT, Int.reduceLE, Int.reduceEq, Int.reduceAdd, Int.reduceSub, Int.reduceMul, hs']
    refine t_told hG ?_
    simp only [go_sem, seqK_normal, blockK_normal, blockK_exit, reduceIte, Nat.reduceEqDiff, Nat.reduceAdd, Nat.reduceSub, Nat.reduceMul, Nat.reduceLeDiff, Nat.reduceLT, reduceCtorEq, Int.reduceToNat, Int.reduceLT, Int.reduceLE, Int.reduceEq, Int.reduceAdd, Int.reduceSub, Int.reduceMul]
end Go.Ev
