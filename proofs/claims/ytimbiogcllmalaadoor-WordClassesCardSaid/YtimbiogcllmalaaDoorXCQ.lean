/- WordClasses: the walk. -/
import Derived.Test.YtimbiogcllmalaaDoorXCP
namespace Go.Ev
open Go Go.Proofs
set_option linter.unusedSimpArgs false
set_option linter.unusedVariables false
set_option maxRecDepth 8000

def alpha : List UInt8 := [97, 98, 99, 100, 101, 102, 103, 104, 105, 106, 107, 108, 109, 110, 111, 112, 113, 114, 115, 116, 117, 118, 119, 120, 121, 122]
theorem alpha_at : ∀ x : Fin 26, (alpha.take (x.val + 1)).drop x.val = [UInt8.ofNat (97 + x.val)] ∧ (UInt8.ofNat (97 + x.val)).toNat = 97 + x.val := by decide

set_option maxHeartbeats 1000000 in
theorem cls_law {x y z : Int} : wpf ⟨bt.get, ovT⟩ F_gobolaw12_WordClasses [.int .i64 x, .int .i64 y, .int .i64 z] (glHeap gl) fun e _ => e = .ret (.bool true) := by
  have hG : GlH (glHeap gl) := ⟨by rw [glHeap_size]; exact Nat.le_refl 3, by rw [glHeap_get]; rfl, by rw [glHeap_get]; rfl⟩
  generalize glHeap gl = H at hG ⊢
  rw [fn_gobolaw12_WordClasses (ovT_only _ _ _ (by decide))]
  obtain ⟨i, hi, ei⟩ := umod x (n := 26) (by omega)
  obtain ⟨j, hj, ej⟩ := umod y (n := 26) (by omega)
  obtain ⟨k, hk, ek⟩ := umod z (n := 26) (by omega)
  have ei' : (IntKind.u64.wrap x).tmod 26 = (i : Int) := ei
  have ej' : (IntKind.u64.wrap y).tmod 26 = (j : Int) := ej
  have ek' : (IntKind.u64.wrap z).tmod 26 = (k : Int) := ek
  have wi : IntKind.i64.wrap (i : Int) = (i : Int) := wi64 (by omega) (by omega)
  have wj : IntKind.i64.wrap (j : Int) = (j : Int) := wi64 (by omega) (by omega)
  have wk : IntKind.i64.wrap (k : Int) = (k : Int) := wi64 (by omega) (by omega)
  obtain ⟨ai, bi⟩ := alpha_at ⟨i, hi⟩
  obtain ⟨aj, bj⟩ := alpha_at ⟨j, hj⟩
  obtain ⟨ak, bk⟩ := alpha_at ⟨k, hk⟩
  simp only at ai bi aj bj ak bk
  simp only [alpha] at ai aj ak
  generalize UInt8.ofNat (97 + i) = a at ai bi
  generalize UInt8.ofNat (97 + j) = b at aj bj
  generalize UInt8.ofNat (97 + k) = c at ak bk
  have ai : List.drop i (97 :: List.take i [98, 99, 100, 101, 102, 103, 104, 105, 106, 107, 108, 109, 110, 111, 112, 113, 114, 115, 116, 117, 118, 119, 120, 121, 122]) = [a] := ai
  have aj : List.drop j (97 :: List.take j [98, 99, 100, 101, 102, 103, 104, 105, 106, 107, 108, 109, 110, 111, 112, 113, 114, 115, 116, 117, 118, 119, 120, 121, 122]) = [b] := aj
  have ak : List.drop k (97 :: List.take k [98, 99, 100, 101, 102, 103, 104, 105, 106, 107, 108, 109, 110, 111, 112, 113, 114, 115, 116, 117, 118, 119, 120, 121, 122]) = [c] := ak
  have i1 : ((i + 1 : Nat) : Int) ≤ 26 := by omega
  have j1 : ((j + 1 : Nat) : Int) ≤ 26 := by omega
  have k1 : ((k + 1 : Nat) : Int) ≤ 26 := by omega
  have i2 : (i : Int) ≤ ((i + 1 : Nat) : Int) := by omega
  have j2 : (j : Int) ≤ ((j + 1 : Nat) : Int) := by omega
  have k2 : (k : Int) ≤ ((k + 1 : Nat) : Int) := by omega
  have hasc : ∀ q ∈ [a, 45, b, c], q.toNat < 128 := by
    intro q hq
    simp only [List.mem_cons, List.not_mem_nil, or_false] at hq
    rcases hq with rfl | rfl | rfl | rfl
    · omega
    · decide
    · omega
    · omega
  have hasc5 : ∀ q ∈ [94, a, 45, b, c], q.toNat < 128 := by
    intro q hq
    rcases List.mem_cons.1 hq with rfl | hq
    · decide
    · exact hasc q hq
  have h4 := class4 (a := a) (b := b) (c := c) (by omega) (by omega) (by omega)
  have h5 := class5 (a := a) (b := b) (c := c) (by omega) (by omega) (by omega)
  simp only [bd_gobolaw12_WordClasses, go_sem, seqK_normal, blockK_normal, blockK_exit, reduceIte, Nat.reduceEqDiff, Nat.reduceAdd, Nat.reduceSub, Nat.reduceMul, Nat.reduceLeDiff, Nat.reduceLT, reduceCtorEq, Int.reduceToNat, Int.reduceLT, Int.reduceLE, Int.reduceEq, Int.reduceAdd, Int.reduceSub, Int.reduceMul, ei', ej', ek', wi, wj, wk, wsucc (show i ≤ 1000000000 by omega), wsucc (show j ≤ 1000000000 by omega), wsucc (show k ≤ 1000000000 by omega), i1, i2, j1, j2, k1, k2, ai, aj, ak]
  have la : (decAll [a, 45, b, c]).length ≤ 11 := by rw [dec_asc hasc]; simp [asc]
  have lb : (decAll [94, a, 45, b, c]).length ≤ 11 := by rw [dec_asc hasc5]; simp [asc]
  by_cases hij : j < i
  · rw [if_pos (by omega)] at h4 h5
    have c1 : (j : Int) < (i : Int) := by omega
    refine w_Class ovT_only (by simp) la hG (fun l hl => by rw [h4] at hl; cases hl) (fun q hq H1 x1 => ?_)
    rw [h4] at hq; cases hq
    simp only [go_sem, seqK_normal, blockK_normal, blockK_exit, reduceIte, Nat.reduceEqDiff, Nat.reduceAdd, Nat.reduceSub, Nat.reduceMul, Nat.reduceLeDiff, Nat.reduceLT, reduceCtorEq, Int.reduceToNat, Int.reduceLT, Int.reduceLE, Int.reduceEq, Int.reduceAdd, Int.reduceSub, Int.reduceMul]
    refine w_Class ovT_only (by simp) lb (hG.ext hG.1 x1) (fun l hl => by rw [h5] at hl; cases hl) (fun q hq H2 x2 => ?_)
    rw [h5] at hq; cases hq
    simp only [go_sem, seqK_normal, blockK_normal, blockK_exit, reduceIte, Nat.reduceEqDiff, Nat.reduceAdd, Nat.reduceSub, Nat.reduceMul, Nat.reduceLeDiff, Nat.reduceLT, reduceCtorEq, Int.reduceToNat, Int.reduceLT, Int.reduceLE, Int.reduceEq, Int.reduceAdd, Int.reduceSub, Int.reduceMul, c1]
    refine t_told ((hG.ext hG.1 x1).ext (hG.ext hG.1 x1).1 x2) ?_
    simp only [go_sem, seqK_normal, blockK_normal, blockK_exit, reduceIte, Nat.reduceEqDiff, Nat.reduceAdd, Nat.reduceSub, Nat.reduceMul, Nat.reduceLeDiff, Nat.reduceLT, reduceCtorEq, Int.reduceToNat, Int.reduceLT, Int.reduceLE, Int.reduceEq, Int.reduceAdd, Int.reduceSub, Int.reduceMul]
  · rw [if_neg (by omega)] at h4 h5
    have c1 : ¬ (j : Int) < (i : Int) := by omega
    refine w_Class ovT_only (by simp) la hG (fun l hl H1 v1 x1 s1 _ => ?_) (fun q hq => by rw [h4] at hq; cases hq)
    rw [h4] at hl; injection hl with hl
    simp only [go_sem, seqK_normal, blockK_normal, blockK_exit, reduceIte, Nat.reduceEqDiff, Nat.reduceAdd, Nat.reduceSub, Nat.reduceMul, Nat.reduceLeDiff, Nat.reduceLT, reduceCtorEq, Int.reduceToNat, Int.reduceLT, Int.reduceLE, Int.reduceEq, Int.reduceAdd, Int.reduceSub, Int.reduceMul]
    have hG1 := hG.ext hG.1 x1
    refine w_Class ovT_only (by simp) lb hG1 (fun l2 hl2 H2 v2 x2 s2 hlen2 => ?_) (fun q hq => by rw [h5] at hq; cases hq)
    rw [h5] at hl2; injection hl2 with hl2
    have hG2 := hG1.ext hG1.1 x2
    have wa : IntKind.i64.wrap (97 + (i : Int)) = (a.toNat : Int) := by rw [wi64 (by omega) (by omega)]; omega
    have wb : IntKind.i64.wrap (97 + (j : Int)) = (b.toNat : Int) := by rw [wi64 (by omega) (by omega)]; omega
    have wc : IntKind.i64.wrap (97 + (k : Int)) = (c.toNat : Int) := by rw [wi64 (by omega) (by omega)]; omega
    have wa2 : IntKind.i32.wrap (a.toNat : Int) = (a.toNat : Int) := wi32 (by omega) (by omega)
    have wb2 : IntKind.i32.wrap (b.toNat : Int) = (b.toNat : Int) := wi32 (by omega) (by omega)
    have wc2 : IntKind.i32.wrap (c.toNat : Int) = (c.toNat : Int) := wi32 (by omega) (by omega)
    simp only [go_sem, seqK_normal, blockK_normal, blockK_exit, reduceIte, Nat.reduceEqDiff, Nat.reduceAdd, Nat.reduceSub, Nat.reduceMul, Nat.reduceLeDiff, Nat.reduceLT, reduceCtorEq, Int.reduceToNat, Int.reduceLT, Int.reduceLE, Int.reduceEq, Int.reduceAdd, Int.reduceSub, Int.reduceMul, c1, wa, wb, wc, wa2, wb2, wc2]
    have xg : Ext H2.size H2 ((H2.push (.cells [.int .i32 (a.toNat : Int), .int .i32 (b.toNat : Int)] .own)).push (.cells [.int .i32 (c.toNat : Int), .int .i32 (c.toNat : Int)] .own)) := (Ext.push (Nat.le_refl _)).trans (Ext.push (by rw [Heap.size_push]; omega))
    have ga : ((H2.push (.cells [.int .i32 (a.toNat : Int), .int .i32 (b.toNat : Int)] .own)).push (.cells [.int .i32 (c.toNat : Int), .int .i32 (c.toNat : Int)] .own)).get H2.size = .cells (rcells [⟨(a.toNat : Int), (b.toNat : Int)⟩]) .own := by
      rw [Heap.get_push_lt (by rw [Heap.size_push]; omega), Heap.get_push_self]; rfl
    have gb : ((H2.push (.cells [.int .i32 (a.toNat : Int), .int .i32 (b.toNat : Int)] .own)).push (.cells [.int .i32 (c.toNat : Int), .int .i32 (c.toNat : Int)] .own)).get (H2.size + 1) = .cells (rcells [⟨(c.toNat : Int), (c.toNat : Int)⟩]) .own := by
      rw [Heap.get_push_eq (by rw [Heap.size_push])]; rfl
    have S1 := (s1.ext x2).ext xg
    have S2 := s2.ext xg
    have hG3 := hG2.ext hG2.1 xg
    generalize (H2.push (.cells [.int .i32 (a.toNat : Int), .int .i32 (b.toNat : Int)] .own)).push (.cells [.int .i32 (c.toNat : Int), .int .i32 (c.toNat : Int)] .own) = H3 at ga gb S1 S2 hG3 ⊢
    have i32 : ∀ q : UInt8, I32 (q.toNat : Int) := fun q => by have := q.toNat_lt; exact ⟨by omega, by omega⟩
    refine r_Or ovT_only (a := [⟨(a.toNat : Int), (b.toNat : Int)⟩]) (b := [⟨(c.toNat : Int), (c.toNat : Int)⟩]) (by simp) (fun r hr => by simp at hr; rw [hr]; exact ⟨i32 a, i32 b⟩) (fun r hr => by simp at hr; rw [hr]; exact ⟨i32 c, i32 c⟩) (Rd.slice ga rfl) (Rd.slice gb rfl) rfl rfl fun H4 v4 x4 s4 => ?_
    have hw : normF ([⟨(a.toNat : Int), (b.toNat : Int)⟩] ++ [⟨(c.toNat : Int), (c.toNat : Int)⟩]) = l := hl
    rw [hw] at s4
    rw [hl] at hl2
    have nb := normF_bd [(⟨(a.toNat : Int), (b.toNat : Int)⟩ : R), ⟨(c.toNat : Int), (c.toNat : Int)⟩]
    rw [hl] at nb
    have hl2' : l.length ≤ 2 := nb.1
    have T1 := S1.ext x4
    have T2 := S2.ext x4
    have hG4 := hG3.ext hG3.1 x4
    obtain ⟨b1, R1, _⟩ := T1.rd
    obtain ⟨b2, R2, _⟩ := T2.rd
    obtain ⟨b4, R4, _⟩ := s4.rd
    simp only [go_sem, seqK_normal, blockK_normal, blockK_exit, reduceIte, Nat.reduceEqDiff, Nat.reduceAdd, Nat.reduceSub, Nat.reduceMul, Nat.reduceLeDiff, Nat.reduceLT, reduceCtorEq, Int.reduceToNat, Int.reduceLT, Int.reduceLE, Int.reduceEq, Int.reduceAdd, Int.reduceSub, Int.reduceMul]
    refine t_told hG4 ?_
    simp only [go_sem, seqK_normal, blockK_normal, blockK_exit, reduceIte, Nat.reduceEqDiff, Nat.reduceAdd, Nat.reduceSub, Nat.reduceMul, Nat.reduceLeDiff, Nat.reduceLT, reduceCtorEq, Int.reduceToNat, Int.reduceLT, Int.reduceLE, Int.reduceEq, Int.reduceAdd, Int.reduceSub, Int.reduceMul]
    refine r_Same ovT_only (by omega) (by omega) R1 R4 ?_
    simp only [go_sem, seqK_normal, blockK_normal, blockK_exit, reduceIte, Nat.reduceEqDiff, Nat.reduceAdd, Nat.reduceSub, Nat.reduceMul, Nat.reduceLeDiff, Nat.reduceLT, reduceCtorEq, Int.reduceToNat, Int.reduceLT, Int.reduceLE, Int.reduceEq, Int.reduceAdd, Int.reduceSub, Int.reduceMul]
    refine r_Not ovT_only (by omega) nb.2 R4 fun H5 v5 x5 s5 => ?_
    obtain ⟨b5, R5, _⟩ := s5.rd
    rw [hl2] at R5
    simp only [go_sem, seqK_normal, blockK_normal, blockK_exit, reduceIte, Nat.reduceEqDiff, Nat.reduceAdd, Nat.reduceSub, Nat.reduceMul, Nat.reduceLeDiff, Nat.reduceLT, reduceCtorEq, Int.reduceToNat, Int.reduceLT, Int.reduceLE, Int.reduceEq, Int.reduceAdd, Int.reduceSub, Int.reduceMul]
    refine r_Same ovT_only (by omega) (by omega) (R2.ext x5) R5 ?_
    simp only [go_sem, seqK_normal, blockK_normal, blockK_exit, reduceIte, Nat.reduceEqDiff, Nat.reduceAdd, Nat.reduceSub, Nat.reduceMul, Nat.reduceLeDiff, Nat.reduceLT, reduceCtorEq, Int.reduceToNat, Int.reduceLT, Int.reduceLE, Int.reduceEq, Int.reduceAdd, Int.reduceSub, Int.reduceMul]
end Go.Ev
