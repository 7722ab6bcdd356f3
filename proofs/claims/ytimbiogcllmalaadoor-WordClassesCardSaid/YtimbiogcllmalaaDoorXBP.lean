/- WordBlanks: what the law's function comes to. -/
import Derived.Test.YtimbiogcllmalaaDoorXF
import Derived.Test.YtimbiogcllmalaaDoorXWP
namespace Go.Ev
open Go Go.Proofs
set_option linter.unusedSimpArgs false
set_option linter.unusedVariables false
set_option maxRecDepth 8000

theorem wcells_fld {l : List W} {i : Nat} {w : W} (h : l[i]? = some w) : (wcells l)[i * 3]? = some (.int .i64 w.kind) ∧ (wcells l)[i * 3 + 1]? = some (.str w.text) ∧ (wcells l)[i * 3 + 2]? = some (.int .i64 w.at_) := by
  have h1 := (wcells_at h).1
  have g : ∀ j, j < 3 → (wcells l)[i * 3 + j]? = w.cells[j]? := by
    intro j hj
    rw [← h1, List.getElem?_take, if_pos hj, List.getElem?_drop]
  exact ⟨g 0 (by omega), g 1 (by omega), g 2 (by omega)⟩

theorem umod (x : Int) {n : Nat} (hn : 0 < n) : ∃ m : Nat, m < n ∧ (IntKind.u64.wrap x).tmod (n : Int) = (m : Int) := by
  have h0 : 0 ≤ IntKind.u64.wrap x := by
    simp only [IntKind.wrap]
    simp [IntKind.signed, IntKind.bits]
    omega
  refine ⟨((IntKind.u64.wrap x).tmod (n : Int)).toNat, ?_, ?_⟩
  · have := Int.tmod_lt_of_pos (IntKind.u64.wrap x) (b := (n : Int)) (by omega)
    have := Int.tmod_nonneg (n : Int) h0
    omega
  · have := Int.tmod_nonneg (n : Int) h0
    omega
theorem wu64 {x : Int} (h0 : 0 ≤ x) (h1 : x ≤ 1000000000) : IntKind.u64.wrap x = x := by
  simp only [IntKind.wrap]
  simp [IntKind.signed, IntKind.bits]
  omega

theorem blanks5 {j : Nat} (h : j ≤ 5) : List.take j [(32 : UInt8), 32, 32, 32, 32] = List.replicate j 32 := by
  match j, h with
  | 0, _ => rfl
  | 1, _ => rfl
  | 2, _ => rfl
  | 3, _ => rfl
  | 4, _ => rfl
  | 5, _ => rfl

theorem bl_loop {l l2 : List W} {wb wb2 k j : Nat} {H : Heap} (hl : l.length ≤ 1000000) (hb : ∀ w ∈ l, w.at_ ≤ 1000000) (hj : j ≤ 5) (h2 : l2 = l.map (W.mv k j) ++ [⟨5, [], k⟩] ∨ ∃ e, l2 = l.map (W.mv k j) ++ [e]) (hg : H.get wb = .cells (wcells l) .own) (hg2 : H.get wb2 = .cells (wcells l2) .own) {Q : Ctl → St → Prop}
    (hQ : ∀ σ : St, σ.H = H → σ.d = [] → Q (.exit 0) σ) : ∀ (r : List W) (i : Nat), l.drop i = r → i ≤ l.length →
    wpl ⟨bt.get, ovT⟩ [7, 10, 11, 12, 15] lb_gobolaw12_WordBlanks_0 { p := [(7, .osl 3 wb 0 l.length), (10, .int .i64 k), (11, .str (List.replicate j 32)), (12, .osl 3 wb2 0 l2.length), (15, .int .i64 i)], t := [], H := H, d := [], u := .norm } Q
  | [], i, hr, hi => by
    have : l.length ≤ i := List.drop_eq_nil_iff.1 hr
    rw [wpl_step]
    have h1 : ¬((i : Int) < (l.length : Int)) := by omega
    simp only [lb_gobolaw12_WordBlanks_0, go_sem, seqK_normal, blockK_normal, blockK_exit, reduceIte, Nat.reduceEqDiff, Nat.reduceAdd, Nat.reduceSub, Nat.reduceMul, Nat.reduceLeDiff, Nat.reduceLT, reduceCtorEq, Int.reduceToNat, Int.reduceLT, Int.reduceLE, Int.reduceEq, Int.reduceAdd, Int.reduceSub, Int.reduceMul, h1]
    exact hQ _ rfl rfl
  | w :: r, i, hr, hi => by
    have h0 : l[i]? = some w := by
      have := congrArg (fun l => l[0]?) hr
      simpa using this
    have h1 : i < l.length := (List.getElem?_eq_some_iff.1 h0).1
    have h3 : l.drop (i + 1) = r := by rw [← List.drop_drop, hr]; rfl
    have nxt := bl_loop hl hb hj h2 hg hg2 hQ r (i + 1) h3 (by omega)
    have hw : w ∈ l := List.mem_of_getElem? h0
    have hwb := hb w hw
    obtain ⟨e, he⟩ : ∃ e, l2 = l.map (W.mv k j) ++ [e] := by
      rcases h2 with h | h
      · exact ⟨_, h⟩
      · exact h
    have hl2 : l2.length = l.length + 1 := by rw [he]; simp
    have g2 : l2[i]? = some (w.mv k j) := by
      rw [he, List.getElem?_append_left (by simpa using h1), List.getElem?_map, h0]; rfl
    obtain ⟨a0, a1, a2⟩ := wcells_fld h0
    obtain ⟨b0, b1, b2⟩ := wcells_fld g2
    have i1 : (i : Int) < (l.length : Int) := by omega
    have i2 : (i : Int) < (l2.length : Int) := by omega
    have iw := wsucc (show i ≤ 1000000000 by omega)
    have hk : (w.mv k j).kind = w.kind ∧ (w.mv k j).text = w.text := by unfold W.mv; split <;> exact ⟨rfl, rfl⟩
    rw [hk.1] at b0
    rw [hk.2] at b1
    rw [wpl_step]
    by_cases c : k ≤ w.at_
    · have c' : (k : Int) ≤ (w.at_ : Int) := by omega
      have wa := wnat (a := w.at_) (b := j) (by omega)
      have hm : (w.mv k j).at_ = w.at_ + j := by simp only [W.mv, if_pos c]
      rw [hm] at b2
      simp only [lb_gobolaw12_WordBlanks_0, go_sem, seqK_normal, blockK_normal, blockK_exit, reduceIte, Nat.reduceEqDiff, Nat.reduceAdd, Nat.reduceSub, Nat.reduceMul, Nat.reduceLeDiff, Nat.reduceLT, reduceCtorEq, Int.reduceToNat, Int.reduceLT, Int.reduceLE, Int.reduceEq, Int.reduceAdd, Int.reduceSub, Int.reduceMul, i1, i2, hg, hg2, a0, a1, a2, b0, b1, b2, c', List.length_replicate, wa]
      simp only [go_sem, seqK_normal, blockK_normal, blockK_exit, reduceIte, Nat.reduceEqDiff, Nat.reduceAdd, Nat.reduceSub, Nat.reduceMul, Nat.reduceLeDiff, Nat.reduceLT, reduceCtorEq, Int.reduceToNat, Int.reduceLT, Int.reduceLE, Int.reduceEq, Int.reduceAdd, Int.reduceSub, Int.reduceMul, iw]
      exact nxt
    · have c' : ¬ (k : Int) ≤ (w.at_ : Int) := by omega
      have hm : (w.mv k j).at_ = w.at_ := by simp only [W.mv, if_neg c]
      rw [hm] at b2
      simp only [lb_gobolaw12_WordBlanks_0, go_sem, seqK_normal, blockK_normal, blockK_exit, reduceIte, Nat.reduceEqDiff, Nat.reduceAdd, Nat.reduceSub, Nat.reduceMul, Nat.reduceLeDiff, Nat.reduceLT, reduceCtorEq, Int.reduceToNat, Int.reduceLT, Int.reduceLE, Int.reduceEq, Int.reduceAdd, Int.reduceSub, Int.reduceMul, i1, i2, hg, hg2, a0, a1, a2, b0, b1, b2, c']
      simp only [go_sem, seqK_normal, blockK_normal, blockK_exit, reduceIte, Nat.reduceEqDiff, Nat.reduceAdd, Nat.reduceSub, Nat.reduceMul, Nat.reduceLeDiff, Nat.reduceLT, reduceCtorEq, Int.reduceToNat, Int.reduceLT, Int.reduceLE, Int.reduceEq, Int.reduceAdd, Int.reduceSub, Int.reduceMul, iw]
      exact nxt

theorem bl_law {s : List UInt8} {x y : Int} : wpf ⟨bt.get, ovT⟩ F_gobolaw12_WordBlanks [.str s, .int .i64 x, .int .i64 y] (glHeap gl) fun e _ => e = .ret (.bool true) := by
  have hG : GlH (glHeap gl) := ⟨by rw [glHeap_size]; exact Nat.le_refl 3, by rw [glHeap_get]; rfl, by rw [glHeap_get]; rfl⟩
  generalize glHeap gl = H at hG ⊢
  rw [fn_gobolaw12_WordBlanks (ovT_only _ _ _ (by decide))]
  by_cases hs : s.length ≤ 100
  · have hs' : ¬ ((100 : Int) < (s.length : Int)) := by omega
    simp only [bd_gobolaw12_WordBlanks, go_sem, seqK_normal, blockK_normal, blockK_exit, reduceIte, Nat.reduceEqDiff, Nat.reduceAdd, Nat.reduceSub, Nat.reduceMul, Nat.reduceLeDiff, Nat.reduceLT, reduceCtorEq, Int.reduceToNat, Int.reduceLT, Int.reduceLE, Int.reduceEq, Int.reduceAdd, Int.reduceSub, Int.reduceMul, hs']
    refine w_All ovT_only (by omega) hG (fun l hl H' v hx hv => ?_) (fun k hk H' hx => ?_)
    · have hG' := hG.ext hG.1 hx
      have hll := wordsL_len _ _ _ _ (allW_ok hl)
      rcases hv with ⟨rfl, h0, _⟩ | ⟨wb, rfl, hwb, hg, hln, hpos⟩
      · simp only [go_sem, seqK_normal, blockK_normal, blockK_exit, reduceIte, Nat.reduceEqDiff, Nat.reduceAdd, Nat.reduceSub, Nat.reduceMul, Nat.reduceLeDiff, Nat.reduceLT, reduceCtorEq, Int.reduceToNat, Int.reduceLT, Int.reduceLE, Int.reduceEq, Int.reduceAdd, Int.reduceSub, Int.reduceMul]
        refine t_told hG' ?_
        simp only [go_sem, seqK_normal, blockK_normal, blockK_exit, reduceIte, Nat.reduceEqDiff, Nat.reduceAdd, Nat.reduceSub, Nat.reduceMul, Nat.reduceLeDiff, Nat.reduceLT, reduceCtorEq, Int.reduceToNat, Int.reduceLT, Int.reduceLE, Int.reduceEq, Int.reduceAdd, Int.reduceSub, Int.reduceMul]
      · have hlt : wb < H'.size := Heap.lt_of_get (by rw [hg]; simp)
        have p1 : ¬ ((l.length : Int) = 0) := by omega
        obtain ⟨m, hm, em⟩ := umod x hpos
        obtain ⟨j, hj, ej⟩ := umod y (n := 6) (by omega)
        obtain ⟨w, hw⟩ : ∃ w, l[m]? = some w := ⟨l[m], List.getElem?_eq_getElem hm⟩
        obtain ⟨f0, f1, f2⟩ := wcells_fld hw
        have u1 := wu64 (x := (l.length : Int)) (by omega) (by omega)
        have u2 : IntKind.i64.wrap (m : Int) = (m : Int) := wi64 (by omega) (by omega)
        have u3 : IntKind.i64.wrap (j : Int) = (j : Int) := wi64 (by omega) (by omega)
        have m1 : (m : Int) < (l.length : Int) := by omega
        have j5 : (j : Int) ≤ 5 := by omega
        have ej' : (IntKind.u64.wrap y).tmod 6 = (j : Int) := ej
        simp only [go_sem, seqK_normal, blockK_normal, blockK_exit, reduceIte, Nat.reduceEqDiff, Nat.reduceAdd, Nat.reduceSub, Nat.reduceMul, Nat.reduceLeDiff, Nat.reduceLT, reduceCtorEq, Int.reduceToNat, Int.reduceLT, Int.reduceLE, Int.reduceEq, Int.reduceAdd, Int.reduceSub, Int.reduceMul, p1, em, ej', u1, u2, u3, m1, hg, f0, f1, f2, j5, blanks5 (show j ≤ 5 by omega)]
        have hwl : w ∈ l := List.mem_of_getElem? hw
        have atb : ∀ v ∈ l, v.at_ < s.length := by
          intro v hv
          obtain ⟨c, q, hq, _⟩ := wd_head _ _ _ _ (Nat.le_refl _) (allW_iff.1 hl).1 v hv
          rcases Nat.lt_or_ge v.at_ s.length with h | h
          · exact h
          · rw [Nat.sub_zero, List.drop_eq_nil_of_le h] at hq; cases hq
        have hat := atb w hwl
        have w1 : (w.at_ : Int) ≤ (s.length : Int) := by omega
        have lw := blanks_law hl hwl j
        have g1 : (List.take w.at_ s).length + (List.replicate j (32 : UInt8)).length ≤ 1099511627776 := by simp; omega
        have g2 : (List.take w.at_ s ++ List.replicate j (32 : UInt8)).length + (List.drop w.at_ s).length ≤ 1099511627776 := by simp; omega
        have g3 : (List.take w.at_ s ++ List.replicate j (32 : UInt8) ++ List.drop w.at_ s).length + 16 ≤ 1099511627776 := by simp; omega
        have g4 : (List.take w.at_ s ++ List.replicate j 32 ++ List.drop w.at_ s ++ tailT).length ≤ 4000 := by simp [tailT]; omega
        simp only [go_sem, seqK_normal, blockK_normal, blockK_exit, reduceIte, Nat.reduceEqDiff, Nat.reduceAdd, Nat.reduceSub, Nat.reduceMul, Nat.reduceLeDiff, Nat.reduceLT, reduceCtorEq, Int.reduceToNat, Int.reduceLT, Int.reduceLE, Int.reduceEq, Int.reduceAdd, Int.reduceSub, Int.reduceMul, w1, List.take_length, g1, g2, g3]
        refine w_All ovT_only (s := List.take w.at_ s ++ List.replicate j 32 ++ List.drop w.at_ s ++ tailT) g4 hG' (fun l2 hl2 H2 v2 hx2 hv2 => ?_) (fun k hk H2 hx2 => ?_)
        · rw [lw] at hl2
          injection hl2 with hl2
          have e2 : l2.length = l.length + 1 := by rw [← hl2]; simp
          rcases hv2 with ⟨_, h0, _⟩ | ⟨wb2, rfl, hwb2, hg2, hln2, _⟩
          · omega
          have hg1 : H2.get wb = .cells (wcells l) .own := by rw [hx2.2 wb hlt, hg]
          have c0 : l2[l.length]? = some ⟨5, [], s.length + j⟩ := by
            rw [← hl2, List.getElem?_append_right (by simp)]; simp
          obtain ⟨z0, _, _⟩ := wcells_fld c0
          have z1 : (l.length : Int) < (l2.length : Int) := by omega
          have z2 : (l2.length : Int) = ((l.length + 1 : Nat) : Int) := by omega
          have z3 : (l.length : Int) < ((l.length + 1 : Nat) : Int) := by omega
          have iw := wsucc (show l.length ≤ 1000000000 by omega)
          simp only [go_sem, seqK_normal, blockK_normal, blockK_exit, reduceIte, Nat.reduceEqDiff, Nat.reduceAdd, Nat.reduceSub, Nat.reduceMul, Nat.reduceLeDiff, Nat.reduceLT, reduceCtorEq, Int.reduceToNat, Int.reduceLT, Int.reduceLE, Int.reduceEq, Int.reduceAdd, Int.reduceSub, Int.reduceMul, iw, z2, z3, hg2, z0]
          have hG2 := hG'.ext hG'.1 hx2
          refine bl_loop (l := l) (l2 := l2) (k := w.at_) (j := j) (H := H2) (by omega) (fun v hv => by have := atb v hv; omega) (by omega) (.inr ⟨_, hl2.symm⟩) hg1 hg2 (fun σ k1 k2 => ?_) l 0 rfl (Nat.zero_le _)
          simp only [go_sem, seqK_normal, blockK_normal, blockK_exit, reduceIte, Nat.reduceEqDiff, Nat.reduceAdd, Nat.reduceSub, Nat.reduceMul, Nat.reduceLeDiff, Nat.reduceLT, reduceCtorEq, Int.reduceToNat, Int.reduceLT, Int.reduceLE, Int.reduceEq, Int.reduceAdd, Int.reduceSub, Int.reduceMul, k1, k2]
          refine t_told hG2 ?_
          simp only [go_sem, seqK_normal, blockK_normal, blockK_exit, reduceIte, Nat.reduceEqDiff, Nat.reduceAdd, Nat.reduceSub, Nat.reduceMul, Nat.reduceLeDiff, Nat.reduceLT, reduceCtorEq, Int.reduceToNat, Int.reduceLT, Int.reduceLE, Int.reduceEq, Int.reduceAdd, Int.reduceSub, Int.reduceMul]
        · rw [lw] at hk; cases hk
    · simp only [go_sem, seqK_normal, blockK_normal, blockK_exit, reduceIte, Nat.reduceEqDiff, Nat.reduceAdd, Nat.reduceSub, Nat.reduceMul, Nat.reduceLeDiff, Nat.reduceLT, reduceCtorEq, Int.reduceToNat, Int.reduceLT, Int.reduceLE, Int.reduceEq, Int.reduceAdd, Int.reduceSub, Int.reduceMul]
      refine t_told (hG.ext hG.1 hx) ?_
      simp only [go_sem, seqK_normal, blockK_normal, blockK_exit, reduceIte, Nat.reduceEqDiff, Nat.reduceAdd, Nat.reduceSub, Nat.reduceMul, Nat.reduceLeDiff, Nat.reduceLT, reduceCtorEq, Int.reduceToNat, Int.reduceLT, Int.reduceLE, Int.reduceEq, Int.reduceAdd, Int.reduceSub, Int.reduceMul]
  · have hs' : ((100 : Int) < (s.length : Int)) := by omega
    simp only [bd_gobolaw12_WordBlanks, go_sem, seqK_normal, blockK_normal, blockK_exit, reduceIte, Nat.reduceEqDiff, Nat.reduceAdd, Nat.reduceSub, Nat.reduceMul, Nat.reduceLeDiff, Nat.reduceLT, reduceCtorEq, Int.reduceToNat, Int.reduceLT, Int.reduceLE, Int.reduceEq, Int.reduceAdd, Int.reduceSub, Int.reduceMul, hs']
    refine t_told hG ?_
    simp only [go_sem, seqK_normal, blockK_normal, blockK_exit, reduceIte, Nat.reduceEqDiff, Nat.reduceAdd, Nat.reduceSub, Nat.reduceMul, Nat.reduceLeDiff, Nat.reduceLT, reduceCtorEq, Int.reduceToNat, Int.reduceLT, Int.reduceLE, Int.reduceEq, Int.reduceAdd, Int.reduceSub, Int.reduceMul]
end Go.Ev
