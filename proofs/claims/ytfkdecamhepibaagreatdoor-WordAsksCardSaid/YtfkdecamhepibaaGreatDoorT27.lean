/- Several texts of this claim, joined. -/
import Derived.Test.YtfkdecamhepibaaGreatDoorT26
import Derived.Test.YtfkdecamhepibaaGreatDoorT24
import Derived.Test.YtfkdecamhepibaaGreatDoorT25
set_option linter.unusedSimpArgs false
set_option linter.unusedVariables false

/- Sorting of spans, further: scattering. -/
namespace Go.Ev
open Go
open Go.Ev renaming seqK_normal → zA, blockK_normal → zB, blockK_exit → zC
open Nat renaming reduceEqDiff → zD, reduceAdd → zE, reduceSub → zF, reduceMul → zG, reduceLeDiff → zH, reduceLT → zI
open Int renaming reduceToNat → zJ, reduceLT → zK, reduceLE → zL, reduceEq → zM, reduceAdd → zN, reduceSub → zO, reduceMul → zP
set_option maxRecDepth 8000
def len8 : List UInt8 := [0, 1, 2, 2, 3, 3, 3, 3, 4, 4, 4, 4, 4, 4, 4, 4, 5, 5, 5, 5, 5, 5, 5, 5, 5, 5, 5, 5, 5, 5, 5, 5, 6, 6, 6, 6, 6, 6, 6, 6, 6, 6, 6, 6, 6, 6, 6, 6, 6, 6, 6, 6, 6, 6, 6, 6, 6, 6, 6, 6, 6, 6, 6, 6, 7, 7, 7, 7, 7, 7, 7, 7, 7, 7, 7, 7, 7, 7, 7, 7, 7, 7, 7, 7, 7, 7, 7, 7, 7, 7, 7, 7, 7, 7, 7, 7, 7, 7, 7, 7, 7, 7, 7, 7, 7, 7, 7, 7, 7, 7, 7, 7, 7, 7, 7, 7, 7, 7, 7, 7, 7, 7, 7, 7, 7, 7, 7, 7, 8, 8, 8, 8, 8, 8, 8, 8, 8, 8, 8, 8, 8, 8, 8, 8, 8, 8, 8, 8, 8, 8, 8, 8, 8, 8, 8, 8, 8, 8, 8, 8, 8, 8, 8, 8, 8, 8, 8, 8, 8, 8, 8, 8, 8, 8, 8, 8, 8, 8, 8, 8, 8, 8, 8, 8, 8, 8, 8, 8, 8, 8, 8, 8, 8, 8, 8, 8, 8, 8, 8, 8, 8, 8, 8, 8, 8, 8, 8, 8, 8, 8, 8, 8, 8, 8, 8, 8, 8, 8, 8, 8, 8, 8, 8, 8, 8, 8, 8, 8, 8, 8, 8, 8, 8, 8, 8, 8, 8, 8, 8, 8, 8, 8, 8, 8, 8, 8, 8, 8, 8, 8, 8, 8, 8, 8, 8, 8]
theorem len8_ok : len8.zipIdx.all (fun x => decide (2 ^ x.1.toNat ≤ 2 * x.2) || decide (x.2 = 0)) = true := by decide +kernel
theorem len8_le {i : Nat} {b : UInt8} (h : len8[i]? = some b) (h0 : 0 < i) : 2 ^ b.toNat ≤ 2 * i := by
  have h1 := List.all_eq_true.1 len8_ok (b, i) (List.mem_zipIdx_iff_getElem?.2 h)
  simp only [Bool.or_eq_true, decide_eq_true_eq] at h1
  omega
theorem pow_lt_of {k m : Nat} (h : 2 ^ k ≤ 2 * m) (hm : m < 65536) : k ≤ 17 := by
  rcases Nat.lt_or_ge 17 k with h1 | h1
  · have : 2 ^ 18 ≤ 2 ^ k := Nat.pow_le_pow_right (by omega) h1
    omega
  · exact h1
theorem intBin_and {k : IntKind} {a b : Int} : intBin .and k a b = some (.int k (k.wrap (BitVec.ofInt k.bits a &&& BitVec.ofInt k.bits b).toNat)) := rfl
theorem intBin_xor {k : IntKind} {a b : Int} : intBin .xor k a b = some (.int k (k.wrap (BitVec.ofInt k.bits a ^^^ BitVec.ofInt k.bits b).toNat)) := rfl
theorem and_le (a : Int) (m : Nat) (hm : m < 1000000000) : ∃ v : Nat, v ≤ m ∧ IntKind.u64.wrap (BitVec.ofInt 64 a &&& BitVec.ofInt 64 (m : Int)).toNat = (v : Int) := by
  refine ⟨(BitVec.ofInt 64 a &&& BitVec.ofInt 64 (m : Int)).toNat, ?_, ?_⟩
  · rw [BitVec.toNat_and]
    refine Nat.le_trans Nat.and_le_right ?_
    rw [BitVec.toNat_ofInt]; omega
  · have h1 : (BitVec.ofInt 64 a &&& BitVec.ofInt 64 (m : Int)).toNat ≤ m := by
      rw [BitVec.toNat_and]
      refine Nat.le_trans Nat.and_le_right ?_
      rw [BitVec.toNat_ofInt]; omega
    exact wu64' (by omega) (by show ((BitVec.ofInt 64 a &&& BitVec.ofInt 64 (m : Int)).toNat : Int) ≤ _; omega)
theorem shl1 {k : Nat} (hk : k ≤ 17) : shiftA .shl .u64 1 (k : Int) = some (.int .u64 ((2 ^ k : Nat) : Int)) := by
  have h1 : ¬ ((k : Int) < 0) := by omega
  have h2 : (2 : Nat) ^ k ≤ 2 ^ 17 := Nat.pow_le_pow_right (by omega) hk
  show (if (k : Int) < 0 then none else some (AV.int .u64 (IntKind.u64.wrap (1 * 2 ^ (min (k : Int).toNat 64))))) = _
  rw [if_neg h1, Int.toNat_natCast, Nat.min_eq_left (by omega), Int.one_mul]
  have e : ((2 : Int) ^ k) = ((2 ^ k : Nat) : Int) := by rw [Int.natCast_pow]; rfl
  rw [e]
  have h3 : (2 : Nat) ^ k ≤ 131072 := h2
  generalize (2 : Nat) ^ k = p at h3 ⊢
  rw [wu64' (by omega) (by omega)]
section
variable {o : CallF} (ho : OvOnly o)
include ho
theorem q_Len {n : Nat} (hn : n < 65536) (h0 : 0 < n) {H : Heap} {Q : End → Heap → Prop} (h : ∀ k : Nat, 2 ^ k ≤ 2 * n → Q (.ret (.int .i64 (k : Int))) H) : wpf ⟨bt.get, o⟩ F_bits_Len [.int .u64 (n : Int)] H Q := by
  rw [fn_bits_Len (ho _ _ _ (by decide))]
  simp only [bd_bits_Len, go_sem, zA, zB, zC, reduceIte, zD, zE, zF, zG, zH, zI, reduceCtorEq, zJ, zK, zL, zM, zN, zO, zP]
  rw [fn_bits_Len64 (ho _ _ _ (by decide))]
  have c1 : ¬ ((4294967296 : Int) ≤ (n : Int)) := by omega
  have c2 : ¬ ((65536 : Int) ≤ (n : Int)) := by omega
  by_cases c : 256 ≤ n
  · have c3 : ((256 : Int) ≤ (n : Int)) := by omega
    have e1 : shiftA .shr .u64 (n : Int) 8 = some (.int .u64 ((n / 256 : Nat) : Int)) := by
      show some (AV.int .u64 ((n : Int).fdiv (2 ^ (min (8 : Int).toNat 64)))) = _
      have : (2 : Int) ^ (min (8 : Int).toNat 64) = 256 := by decide
      rw [this, Int.fdiv_eq_ediv_of_nonneg _ (by omega)]; rfl
    have e2 : IntKind.u8.wrap ((n / 256 : Nat) : Int) = ((n / 256 : Nat) : Int) := wu8 (by omega) (by omega)
    simp only [bd_bits_Len64, go_sem, zA, zB, zC, reduceIte, zD, zE, zF, zG, zH, zI, reduceCtorEq, zJ, zK, zL, zM, zN, zO, zP, c1, c2, c3, e1, e2]
    split
    · rename_i b hb
      have hb2 : b.toNat < 256 := b.toNat_lt
      have hk := len8_le (i := n / 256) (b := b) hb (by omega)
      have e3 : IntKind.i64.wrap (b.toNat : Int) = (b.toNat : Int) := wi64 (by omega) (by omega)
      have e5 : IntKind.i64.wrap (8 + (b.toNat : Int)) = ((8 + b.toNat : Nat) : Int) := by rw [wi64 (by omega) (by omega)]; rfl
      have e4 : IntKind.i64.wrap 8 = 8 := by rfl
      simp only [go_sem, zA, zB, zC, reduceIte, zD, zE, zF, zG, zH, zI, reduceCtorEq, zJ, zK, zL, zM, zN, zO, zP, e3, e4, e5]
      exact h _ (by rw [Nat.pow_add]; omega)
    · rename_i hb
      have h2 : 256 ≤ n / 256 := List.getElem?_eq_none_iff.1 hb
      omega
  · have c3 : ¬ ((256 : Int) ≤ (n : Int)) := by omega
    have e2 : IntKind.u8.wrap (n : Int) = (n : Int) := wu8 (by omega) (by omega)
    simp only [bd_bits_Len64, go_sem, zA, zB, zC, reduceIte, zD, zE, zF, zG, zH, zI, reduceCtorEq, zJ, zK, zL, zM, zN, zO, zP, c1, c2, c3, e2]
    split
    · rename_i b hb
      have hb2 : b.toNat < 256 := b.toNat_lt
      have hk := len8_le (i := n) (b := b) hb h0
      have e3 : IntKind.i64.wrap (b.toNat : Int) = (b.toNat : Int) := wi64 (by omega) (by omega)
      simp only [go_sem, zA, zB, zC, reduceIte, zD, zE, zF, zG, zH, zI, reduceCtorEq, zJ, zK, zL, zM, zN, zO, zP, e3]
      exact h _ hk
    · rename_i hb
      have h2 : 256 ≤ n := List.getElem?_eq_none_iff.1 hb
      omega
theorem q_nextPow {n : Nat} (hn : n < 65536) (h0 : 0 < n) {H : Heap} {Q : End → Heap → Prop} (h : ∀ m : Nat, 0 < m → m ≤ 2 * n → Q (.ret (.int .u64 (m : Int))) H) : wpf ⟨bt.get, o⟩ F_slices_nextPowerOfTwo [.int .i64 (n : Int)] H Q := by
  rw [fn_slices_nextPowerOfTwo (ho _ _ _ (by decide))]
  simp only [bd_slices_nextPowerOfTwo, go_sem, zA, zB, zC, reduceIte, zD, zE, zF, zG, zH, zI, reduceCtorEq, zJ, zK, zL, zM, zN, zO, zP, wu64' (show (0 : Int) ≤ (n : Int) by omega) (by omega)]
  refine q_Len ho hn h0 fun k hk => ?_
  simp only [go_sem, zA, zB, zC, reduceIte, zD, zE, zF, zG, zH, zI, reduceCtorEq, zJ, zK, zL, zM, zN, zO, zP, shl1 (pow_lt_of hk hn)]
  exact h (2 ^ k) (Nat.pow_pos (by omega)) hk
theorem q_Next {pw : Nat} {H : Heap} {z : Int} (hw : H.get pw = .cells [.int .u64 z] .own) {Q : End → Heap → Prop} (h : ∀ (v : Int) H', Fr pw .nils H H' → H'.get pw = .cells [.int .u64 v] .own → Q (.ret (.int .u64 v)) H') : wpf ⟨bt.get, o⟩ F_slices_xorshift_Next [.ptr pw 0] H Q := by
  rw [fn_slices_xorshift_Next (ho _ _ _ (by decide))]
  have hlt : pw < H.size := Heap.lt_of_get (by rw [hw]; simp)
  have s1 : ∀ x : Int, shiftA .shl .u64 x 13 = some (.int .u64 (IntKind.u64.wrap (x * 2 ^ (min (13 : Int).toNat 64)))) := fun _ => rfl
  have s2 : ∀ x : Int, shiftA .shr .u64 x 7 = some (.int .u64 (x.fdiv (2 ^ (min (7 : Int).toNat 64)))) := fun _ => rfl
  have s3 : ∀ x : Int, shiftA .shl .u64 x 17 = some (.int .u64 (IntKind.u64.wrap (x * 2 ^ (min (17 : Int).toNat 64)))) := fun _ => rfl
  simp only [bd_slices_xorshift_Next, go_sem, zA, zB, zC, reduceIte, zD, zE, zF, zG, zH, zI, reduceCtorEq, zJ, zK, zL, zM, zN, zO, zP, hw, s1, s2, s3, intBin_xor, Heap.get_set_self hlt]
  exact h _ _ Fr.set (Heap.get_set_self hlt)
theorem q_bp_loop {n a b m pw sb i0 : Nat} (hn : n ≤ 60000) (hb : b ≤ n) (hab : a + 8 ≤ b) (hm0 : 0 < m) (hm : m ≤ 2 * (b - a)) (hne : sb ≠ pw) (hi0 : i0 = a + (b - a) / 4 * 2 + 1) {Q : Ctl → St → Prop} : ∀ (c i : Nat) (l : List S) (H : Heap) (z : Int), i + c = i0 + 1 → a ≤ i → l.length = n → H.get sb = .cells (scells l) .own → H.get pw = .cells [.int .u64 z] .own →
    (∀ l' H' x t, PermOn a b l l' → Fr2 sb pw H.size H H' → H'.get sb = .cells (scells l') .own → Q (.exit 0) { p := (0, slV sb n) :: (1, .int .i64 (a : Int)) :: x, t := t, H := H', d := [], u := .norm }) →
    wpl ⟨bt.get, o⟩ [0, 1, 8, 9, 10, 11] lb_slices_breakPatternsCmpFunc_runes_span_0 { p := [(0, slV sb n), (1, .int .i64 (a : Int)), (8, .int .i64 ((b - a : Nat) : Int)), (9, .ptr pw 0), (10, .int .u64 (m : Int)), (11, .int .i64 (i : Int))], t := [], H := H, d := [], u := .norm } Q := by
  have w2 : IntKind.i64.wrap (((b - a : Nat) : Int).tdiv 4) = (((b - a) / 4 : Nat) : Int) := wdiv4 (by omega)
  have w3 : IntKind.i64.wrap ((((b - a) / 4 : Nat) : Int) * 2) = (((b - a) / 4 * 2 : Nat) : Int) := by rw [wi64 (by omega) (by omega)]; omega
  have w4 : IntKind.i64.wrap ((a : Int) + (((b - a) / 4 * 2 : Nat) : Int)) = ((a + (b - a) / 4 * 2 : Nat) : Int) := wnat (by omega)
  have w5 : IntKind.i64.wrap (((a + (b - a) / 4 * 2 : Nat) : Int) + 1) = (i0 : Int) := by rw [wsucc (by omega), hi0]
  intro c
  induction c with
  | zero =>
    intro i l H z h1 h2 hl hg hw hQ
    rw [wpl_step]
    have c1 : ¬ ((i : Int) ≤ (i0 : Int)) := by omega
    simp only [lb_slices_breakPatternsCmpFunc_runes_span_0, go_sem, zA, zB, zC, reduceIte, zD, zE, zF, zG, zH, zI, reduceCtorEq, zJ, zK, zL, zM, zN, zO, zP, w2, w3, w4, w5, c1]
    exact hQ l H _ _ PermOn.refl Fr2.refl hg
  | succ c ih =>
    intro i l H z h1 h2 hl hg hw hQ
    rw [wpl_step]
    have c1 : ((i : Int) ≤ (i0 : Int)) := by omega
    simp only [lb_slices_breakPatternsCmpFunc_runes_span_0, go_sem, zA, zB, zC, reduceIte, zD, zE, zF, zG, zH, zI, reduceCtorEq, zJ, zK, zL, zM, zN, zO, zP, w2, w3, w4, w5, c1]
    refine q_Next ho hw fun v H1 f1 w1 => ?_
    have g1 : H1.get sb = .cells (scells l) .own := f1.get hg (by simp) hne
    have hlt : sb < H.size := Heap.lt_of_get (by rw [hg]; simp)
    have hlt1 : sb < H1.size := Heap.lt_of_get (by rw [g1]; simp)
    have wm : IntKind.u64.wrap ((m : Int) - 1) = ((m - 1 : Nat) : Int) := by rw [wu64' (by omega) (by omega)]; omega
    obtain ⟨r, r1, r2⟩ := and_le v (m - 1) (by omega)
    have r3 : intBin .and .u64 v ((m - 1 : Nat) : Int) = some (.int .u64 (r : Int)) := congrArg (fun x => some (AV.int .u64 x)) r2
    have wr : IntKind.i64.wrap (r : Int) = (r : Int) := wi64 (by omega) (by omega)
    -- the change of places, and on
    have go : ∀ r', r' < b - a → ∀ (u x t), wpc ⟨bt.get, o⟩ (seqR (seqR (blkB (seqL (seqR lb_slices_breakPatternsCmpFunc_runes_span_0))))) { p := (0, slV sb n) :: (1, .int .i64 (a : Int)) :: (8, .int .i64 ((b - a : Nat) : Int)) :: (9, .ptr pw 0) :: (10, .int .u64 (m : Int)) :: (11, .int .i64 (i : Int)) :: (35, u) :: (12, .int .i64 (r' : Nat)) :: x, t := t, H := H1, d := [], u := .norm }
        (blockK 1 [0, 1, 8, 9, 10, 11] (seqK ⟨bt.get, o⟩ (seqR (seqR lb_slices_breakPatternsCmpFunc_runes_span_0)) (loopK ⟨bt.get, o⟩ [0, 1, 8, 9, 10, 11] lb_slices_breakPatternsCmpFunc_runes_span_0 Q))) := by
      intro r' hr u x t
      have wa : IntKind.i64.wrap ((a : Int) + (r' : Int)) = ((a + r' : Nat) : Int) := wnat (by omega)
      obtain ⟨i1, i2, i3⟩ := at_idx (i := i) hl (by omega)
      obtain ⟨j1, j2, j3⟩ := at_idx (i := a + r') hl (by omega)
      obtain ⟨s1, s2, s3⟩ := sw_facts (i := i) (j := a + r') hl (by omega) (by omega)
      simp only [lb_slices_breakPatternsCmpFunc_runes_span_0, seqL, seqR, blkB, go_sem, zA, zB, zC, reduceIte, zD, zE, zF, zG, zH, zI, reduceCtorEq, zJ, zK, zL, zM, zN, zO, zP, wa, i1, i2, i3, j1, j2, j3, g1, s1, s2, s3, S.cells, Heap.get_set_self hlt1, wsucc (show i ≤ 1000000000 by omega)]
      have x1 : Fr2 sb pw H.size H (H1.set sb (.cells (scells (swp l i (a + r'))) .own)) := ⟨f1.1, fun c h1 h2 h3 => by rw [Heap.get_set_ne h2, f1.2 c h1 h3 (fun _ _ _ e => by cases e)]⟩
      refine ih (i + 1) (swp l i (a + r')) _ v (by omega) (by omega) (by rw [swp_len]; exact hl) (Heap.get_set_self hlt1) (by rw [Heap.get_set_ne (fun e => hne e.symm), w1]) fun l' H' x' t' k1 k2 k3 => hQ l' H' x' t' ((PermOn.swp (by omega) (by omega) (by omega) (by omega) (by omega)).trans k1) (x1.trans ⟨k2.1, fun c h1 h2 h3 => k2.2 c (Nat.lt_of_lt_of_le h1 x1.1) h2 h3⟩) k3
    by_cases cr : r < b - a
    · have c2 : ¬ (((b - a : Nat) : Int) ≤ (r : Int)) := by omega
      simp only [go_sem, zB, zC, reduceIte, zD, zE, zF, zG, zH, zI, reduceCtorEq, zJ, zK, zL, zM, zN, zO, zP, wm, r3, wr]
      rw [seqK_normal]
      simp only [go_sem, zB, zC, reduceIte, zD, zE, zF, zG, zH, zI, reduceCtorEq, zJ, zK, zL, zM, zN, zO, zP, wm, r3, wr, c2]
      rw [seqK_normal]
      simp only [go_sem, zB, zC, reduceIte, zD, zE, zF, zG, zH, zI, reduceCtorEq, zJ, zK, zL, zM, zN, zO, zP, wm, r3, wr, c2]
      rw [seqK_normal]
      exact go r cr _ _ _
    · have c2 : (((b - a : Nat) : Int) ≤ (r : Int)) := by omega
      have w6 : IntKind.i64.wrap ((r : Int) - ((b - a : Nat) : Int)) = ((r - (b - a) : Nat) : Int) := by rw [wi64 (by omega) (by omega)]; omega
      simp only [go_sem, zB, zC, reduceIte, zD, zE, zF, zG, zH, zI, reduceCtorEq, zJ, zK, zL, zM, zN, zO, zP, wm, r3, wr]
      rw [seqK_normal]
      simp only [go_sem, zB, zC, reduceIte, zD, zE, zF, zG, zH, zI, reduceCtorEq, zJ, zK, zL, zM, zN, zO, zP, wm, r3, wr, c2, w6]
      rw [seqK_normal]
      simp only [go_sem, zB, zC, reduceIte, zD, zE, zF, zG, zH, zI, reduceCtorEq, zJ, zK, zL, zM, zN, zO, zP, wm, r3, wr, c2, w6]
      rw [seqK_normal]
      exact go (r - (b - a)) (by omega) _ _ _
theorem q_break {n sb a b : Nat} (hn : n ≤ 60000) {l : List S} {H : Heap} (hl : l.length = n) (hg : H.get sb = .cells (scells l) .own) (hab : a + 8 ≤ b) (hb : b ≤ n) {Q : End → Heap → Prop}
    (h : ∀ l' H', PermOn a b l l' → Fr sb .nils H H' → H'.get sb = .cells (scells l') .own → Q (.ret (.tup [])) H') :
    wpf ⟨bt.get, o⟩ F_slices_breakPatternsCmpFunc_runes_span [slV sb n, .int .i64 (a : Int), .int .i64 (b : Int), cmpV] H Q := by
  rw [fn_slices_breakPatternsCmpFunc_runes_span (ho _ _ _ (by decide))]
  have hlt : sb < H.size := Heap.lt_of_get (by rw [hg]; simp)
  have w1 : IntKind.i64.wrap ((b : Int) - (a : Int)) = ((b - a : Nat) : Int) := by rw [wi64 (by omega) (by omega)]; omega
  have c1 : (8 : Int) ≤ ((b - a : Nat) : Int) := by omega
  have wu : IntKind.u64.wrap ((b - a : Nat) : Int) = ((b - a : Nat) : Int) := wu64' (by omega) (by omega)
  simp only [bd_slices_breakPatternsCmpFunc_runes_span, go_sem, zA, zB, zC, reduceIte, zD, zE, zF, zG, zH, zI, reduceCtorEq, zJ, zK, zL, zM, zN, zO, zP, w1, c1, wu]
  refine q_nextPow ho (by omega) (by omega) fun m hm0 hm => ?_
  have w2 : IntKind.i64.wrap (((b - a : Nat) : Int).tdiv 4) = (((b - a) / 4 : Nat) : Int) := wdiv4 (by omega)
  have w3 : IntKind.i64.wrap ((((b - a) / 4 : Nat) : Int) * 2) = (((b - a) / 4 * 2 : Nat) : Int) := by rw [wi64 (by omega) (by omega)]; omega
  have w4 : IntKind.i64.wrap ((a : Int) + (((b - a) / 4 * 2 : Nat) : Int)) = ((a + (b - a) / 4 * 2 : Nat) : Int) := wnat (by omega)
  have w5 : IntKind.i64.wrap (((a + (b - a) / 4 * 2 : Nat) : Int) - 1) = ((a + (b - a) / 4 * 2 - 1 : Nat) : Int) := wpred (by omega) (by omega)
  simp only [go_sem, zA, zB, zC, reduceIte, zD, zE, zF, zG, zH, zI, reduceCtorEq, zJ, zK, zL, zM, zN, zO, zP, w2, w3, w4, w5]
  refine q_bp_loop ho (pw := H.size) hn hb hab hm0 hm (by omega) rfl 3 (a + (b - a) / 4 * 2 - 1) l _ ((b - a : Nat) : Int) (by omega) (by omega) hl ?_ ?_ fun l' H' x t k1 k2 k3 => ?_
  · rw [Heap.get_push_lt hlt, hg]
  · exact Heap.get_push_self
  · simp only [go_sem, zA, zB, zC, reduceIte, zD, zE, zF, zG, zH, zI, reduceCtorEq, zJ, zK, zL, zM, zN, zO, zP]
    refine h l' H' k1 ⟨Nat.le_trans (by rw [Heap.size_push]; omega) k2.1, fun c h1 h2 _ => ?_⟩ k3
    rw [k2.2 c (by rw [Heap.size_push]; omega) h2 (by omega), Heap.get_push_lt h1]
end
/- Sorting of spans, further: the loops of the partitions. -/
set_option maxRecDepth 8000
section
variable {o : CallF} (ho : OvOnly o)
include ho
theorem q_up0 {n a b sb j : Nat} (hn : n ≤ 1000000) (hb : b ≤ n) (hj : j < b) {l : List S} (hl : l.length = n) {Q : Ctl → St → Prop} : ∀ (m i : Nat) (H : Heap), j + 1 - i ≤ m → a < i → H.get sb = .cells (scells l) .own →
    (∀ (i' : Nat) H' x t, i ≤ i' → (i' = i ∨ i' ≤ j + 1) → (∀ p, i ≤ p → p < i' → key l p < key l a) → (i' ≤ j → ¬ (key l i' < key l a)) → Ext H.size H H' → Q (.exit 0) { p := (0, slV sb n) :: (1, .int .i64 (a : Int)) :: (4, cmpV) :: (12, .int .i64 (i' : Int)) :: (13, .int .i64 (j : Int)) :: x, t := t, H := H', d := [], u := .norm }) →
    wpl ⟨bt.get, o⟩ [0, 1, 4, 12, 13] lb_slices_partitionCmpFunc_runes_span_0 { p := [(0, slV sb n), (1, .int .i64 (a : Int)), (4, cmpV), (12, .int .i64 (i : Int)), (13, .int .i64 (j : Int))], t := [], H := H, d := [], u := .norm } Q := by
  intro m
  induction m with
  | zero =>
    intro i H h1 h2 hg hQ
    rw [wpl_step]
    have c1 : ¬ ((i : Int) ≤ (j : Int)) := by omega
    simp only [lb_slices_partitionCmpFunc_runes_span_0, go_sem, zA, zB, zC, reduceIte, zD, zE, zF, zG, zH, zI, reduceCtorEq, zJ, zK, zL, zM, zN, zO, zP, c1]
    exact hQ i H _ _ (Nat.le_refl _) (.inl rfl) (fun p g1 g2 => by omega) (fun h => by omega) (Ext.refl)
  | succ m ih =>
    intro i H h1 h2 hg hQ
    rw [wpl_step]
    by_cases c : i ≤ j
    · have c1 : ((i : Int) ≤ (j : Int)) := by omega
      obtain ⟨i1, i2, i3⟩ := at_idx (i := i) hl (by omega)
      obtain ⟨a1, a2, a3⟩ := at_idx (i := a) hl (by omega)
      simp only [lb_slices_partitionCmpFunc_runes_span_0, go_sem, zA, zB, zC, reduceIte, zD, zE, zF, zG, zH, zI, reduceCtorEq, zJ, zK, zL, zM, zN, zO, zP, c1, i1, i2, i3, a1, a2, a3, hg]
      refine c_cmp ho fun H1 hx1 => ?_
      have hg1 : H1.get sb = .cells (scells l) .own := by rw [hx1.2 sb (Heap.lt_of_get (by rw [hg]; simp)), hg]
      simp only [go_sem, zA, zB, zC, reduceIte, zD, zE, zF, zG, zH, zI, reduceCtorEq, zJ, zK, zL, zM, zN, zO, zP, cmpZ_lt']
      by_cases hc : (l.getD i (0, 0)).1 < (l.getD a (0, 0)).1
      · simp only [go_sem, zA, zB, zC, reduceIte, zD, zE, zF, zG, zH, zI, reduceCtorEq, zJ, zK, zL, zM, zN, zO, zP, hc, wsucc (show i ≤ 1000000000 by omega)]
        have ih' := ih (i + 1) H1 (by omega) (by omega) hg1 fun i' H' x t k1 k2 k3 k4 k5 => hQ i' H' x t (by omega) (by omega) (fun p g1 g2 => by
          by_cases e : p = i
          · rw [e]; exact hc
          · exact k3 p (by omega) g2) k4 (hx1.trans (k5.le hx1.1))
        exact ih'
      · simp only [go_sem, zA, zB, zC, reduceIte, zD, zE, zF, zG, zH, zI, reduceCtorEq, zJ, zK, zL, zM, zN, zO, zP, hc, wsucc (show i ≤ 1000000000 by omega)]
        refine hQ i H1 _ _ (Nat.le_refl _) (.inl rfl) (fun p g1 g2 => by omega) (fun _ => hc) hx1
    · have c1 : ¬ ((i : Int) ≤ (j : Int)) := by omega
      simp only [lb_slices_partitionCmpFunc_runes_span_0, go_sem, zA, zB, zC, reduceIte, zD, zE, zF, zG, zH, zI, reduceCtorEq, zJ, zK, zL, zM, zN, zO, zP, c1]
      exact hQ i H _ _ (Nat.le_refl _) (.inl rfl) (fun p g1 g2 => by omega) (fun h => by omega) (Ext.refl)
theorem q_dn1 {n a b sb i : Nat} (hn : n ≤ 1000000) (hb : b ≤ n) (hi : a < i) {l : List S} (hl : l.length = n) {Q : Ctl → St → Prop} : ∀ (m j : Nat) (H : Heap), j + 1 - i ≤ m → j < b → a ≤ j → H.get sb = .cells (scells l) .own →
    (∀ (j' : Nat) H' x t, j' ≤ j → (j' = j ∨ i ≤ j' + 1) → (∀ p, j' < p → p ≤ j → ¬ key l p < key l a) → (i ≤ j' → ¬ (¬ key l j' < key l a)) → Ext H.size H H' → Q (.exit 2) { p := (0, slV sb n) :: (1, .int .i64 (a : Int)) :: (4, cmpV) :: (12, .int .i64 (i : Int)) :: (13, .int .i64 (j' : Int)) :: x, t := t, H := H', d := [], u := .norm }) →
    wpl ⟨bt.get, o⟩ [0, 1, 4, 12, 13] lb_slices_partitionCmpFunc_runes_span_1 { p := [(0, slV sb n), (1, .int .i64 (a : Int)), (4, cmpV), (12, .int .i64 (i : Int)), (13, .int .i64 (j : Int))], t := [], H := H, d := [], u := .norm } Q := by
  intro m
  induction m with
  | zero =>
    intro j H h1 h2 h3 hg hQ
    rw [wpl_step]
    have c1 : ¬ ((i : Int) ≤ (j : Int)) := by omega
    simp only [lb_slices_partitionCmpFunc_runes_span_1, go_sem, zA, zB, zC, reduceIte, zD, zE, zF, zG, zH, zI, reduceCtorEq, zJ, zK, zL, zM, zN, zO, zP, c1]
    exact hQ j H _ _ (Nat.le_refl _) (.inl rfl) (fun p g1 g2 => by omega) (fun h => by omega) (Ext.refl)
  | succ m ih =>
    intro j H h1 h2 h3 hg hQ
    rw [wpl_step]
    by_cases c : i ≤ j
    · have c1 : ((i : Int) ≤ (j : Int)) := by omega
      obtain ⟨j1, j2, j3⟩ := at_idx (i := j) hl (by omega)
      obtain ⟨a1, a2, a3⟩ := at_idx (i := a) hl (by omega)
      simp only [lb_slices_partitionCmpFunc_runes_span_1, go_sem, zA, zB, zC, reduceIte, zD, zE, zF, zG, zH, zI, reduceCtorEq, zJ, zK, zL, zM, zN, zO, zP, c1, j1, j2, j3, a1, a2, a3, hg]
      refine c_cmp ho fun H1 hx1 => ?_
      have hg1 : H1.get sb = .cells (scells l) .own := by rw [hx1.2 sb (Heap.lt_of_get (by rw [hg]; simp)), hg]
      simp only [go_sem, zA, zB, zC, reduceIte, zD, zE, zF, zG, zH, zI, reduceCtorEq, zJ, zK, zL, zM, zN, zO, zP, cmpZ_lt']
      by_cases hc : (l.getD j (0, 0)).1 < (l.getD a (0, 0)).1
      · simp only [go_sem, zA, zB, zC, reduceIte, zD, zE, zF, zG, zH, zI, reduceCtorEq, zJ, zK, zL, zM, zN, zO, zP, hc, wpred (show 0 < j by omega) (show j ≤ 1000000000 by omega)]
        refine hQ j H1 _ _ (Nat.le_refl _) (.inl rfl) (fun p g1 g2 => by omega) (fun _ => fun h => h hc) hx1
      · simp only [go_sem, zA, zB, zC, reduceIte, zD, zE, zF, zG, zH, zI, reduceCtorEq, zJ, zK, zL, zM, zN, zO, zP, hc, wpred (show 0 < j by omega) (show j ≤ 1000000000 by omega)]
        have ih' := ih (j - 1) H1 (by omega) (by omega) (by omega) hg1 fun j' H' x t k1 k2 k3 k4 k5 => hQ j' H' x t (by omega) (by omega) (fun p g1 g2 => by
          by_cases e : p = j
          · rw [e]; exact hc
          · exact k3 p (by omega) (by omega)) k4 (hx1.trans (k5.le hx1.1))
        exact ih'
    · have c1 : ¬ ((i : Int) ≤ (j : Int)) := by omega
      simp only [lb_slices_partitionCmpFunc_runes_span_1, go_sem, zA, zB, zC, reduceIte, zD, zE, zF, zG, zH, zI, reduceCtorEq, zJ, zK, zL, zM, zN, zO, zP, c1]
      exact hQ j H _ _ (Nat.le_refl _) (.inl rfl) (fun p g1 g2 => by omega) (fun h => by omega) (Ext.refl)
theorem q_up2 {n a b sb j : Nat} (hn : n ≤ 1000000) (hb : b ≤ n) (hj : j < b) {l : List S} (hl : l.length = n) {Q : Ctl → St → Prop} : ∀ (m i : Nat) (H : Heap), j + 1 - i ≤ m → a < i → H.get sb = .cells (scells l) .own →
    (∀ (i' : Nat) H' x t, i ≤ i' → (i' = i ∨ i' ≤ j + 1) → (∀ p, i ≤ p → p < i' → key l p < key l a) → (i' ≤ j → ¬ (key l i' < key l a)) → Ext H.size H H' → Q (.exit 6) { p := (0, slV sb n) :: (1, .int .i64 (a : Int)) :: (4, cmpV) :: (12, .int .i64 (i' : Int)) :: (13, .int .i64 (j : Int)) :: x, t := t, H := H', d := [], u := .norm }) →
    wpl ⟨bt.get, o⟩ [0, 1, 4, 12, 13] lb_slices_partitionCmpFunc_runes_span_2 { p := [(0, slV sb n), (1, .int .i64 (a : Int)), (4, cmpV), (12, .int .i64 (i : Int)), (13, .int .i64 (j : Int))], t := [], H := H, d := [], u := .norm } Q := by
  intro m
  induction m with
  | zero =>
    intro i H h1 h2 hg hQ
    rw [wpl_step]
    have c1 : ¬ ((i : Int) ≤ (j : Int)) := by omega
    simp only [lb_slices_partitionCmpFunc_runes_span_2, go_sem, zA, zB, zC, reduceIte, zD, zE, zF, zG, zH, zI, reduceCtorEq, zJ, zK, zL, zM, zN, zO, zP, c1]
    exact hQ i H _ _ (Nat.le_refl _) (.inl rfl) (fun p g1 g2 => by omega) (fun h => by omega) (Ext.refl)
  | succ m ih =>
    intro i H h1 h2 hg hQ
    rw [wpl_step]
    by_cases c : i ≤ j
    · have c1 : ((i : Int) ≤ (j : Int)) := by omega
      obtain ⟨i1, i2, i3⟩ := at_idx (i := i) hl (by omega)
      obtain ⟨a1, a2, a3⟩ := at_idx (i := a) hl (by omega)
      simp only [lb_slices_partitionCmpFunc_runes_span_2, go_sem, zA, zB, zC, reduceIte, zD, zE, zF, zG, zH, zI, reduceCtorEq, zJ, zK, zL, zM, zN, zO, zP, c1, i1, i2, i3, a1, a2, a3, hg]
      refine c_cmp ho fun H1 hx1 => ?_
      have hg1 : H1.get sb = .cells (scells l) .own := by rw [hx1.2 sb (Heap.lt_of_get (by rw [hg]; simp)), hg]
      simp only [go_sem, zA, zB, zC, reduceIte, zD, zE, zF, zG, zH, zI, reduceCtorEq, zJ, zK, zL, zM, zN, zO, zP, cmpZ_lt']
      by_cases hc : (l.getD i (0, 0)).1 < (l.getD a (0, 0)).1
      · simp only [go_sem, zA, zB, zC, reduceIte, zD, zE, zF, zG, zH, zI, reduceCtorEq, zJ, zK, zL, zM, zN, zO, zP, hc, wsucc (show i ≤ 1000000000 by omega)]
        have ih' := ih (i + 1) H1 (by omega) (by omega) hg1 fun i' H' x t k1 k2 k3 k4 k5 => hQ i' H' x t (by omega) (by omega) (fun p g1 g2 => by
          by_cases e : p = i
          · rw [e]; exact hc
          · exact k3 p (by omega) g2) k4 (hx1.trans (k5.le hx1.1))
        exact ih'
      · simp only [go_sem, zA, zB, zC, reduceIte, zD, zE, zF, zG, zH, zI, reduceCtorEq, zJ, zK, zL, zM, zN, zO, zP, hc, wsucc (show i ≤ 1000000000 by omega)]
        refine hQ i H1 _ _ (Nat.le_refl _) (.inl rfl) (fun p g1 g2 => by omega) (fun _ => hc) hx1
    · have c1 : ¬ ((i : Int) ≤ (j : Int)) := by omega
      simp only [lb_slices_partitionCmpFunc_runes_span_2, go_sem, zA, zB, zC, reduceIte, zD, zE, zF, zG, zH, zI, reduceCtorEq, zJ, zK, zL, zM, zN, zO, zP, c1]
      exact hQ i H _ _ (Nat.le_refl _) (.inl rfl) (fun p g1 g2 => by omega) (fun h => by omega) (Ext.refl)
theorem q_dn3 {n a b sb i : Nat} (hn : n ≤ 1000000) (hb : b ≤ n) (hi : a < i) {l : List S} (hl : l.length = n) {Q : Ctl → St → Prop} : ∀ (m j : Nat) (H : Heap), j + 1 - i ≤ m → j < b → a ≤ j → H.get sb = .cells (scells l) .own →
    (∀ (j' : Nat) H' x t, j' ≤ j → (j' = j ∨ i ≤ j' + 1) → (∀ p, j' < p → p ≤ j → ¬ key l p < key l a) → (i ≤ j' → ¬ (¬ key l j' < key l a)) → Ext H.size H H' → Q (.exit 8) { p := (0, slV sb n) :: (1, .int .i64 (a : Int)) :: (4, cmpV) :: (12, .int .i64 (i : Int)) :: (13, .int .i64 (j' : Int)) :: x, t := t, H := H', d := [], u := .norm }) →
    wpl ⟨bt.get, o⟩ [0, 1, 4, 12, 13] lb_slices_partitionCmpFunc_runes_span_3 { p := [(0, slV sb n), (1, .int .i64 (a : Int)), (4, cmpV), (12, .int .i64 (i : Int)), (13, .int .i64 (j : Int))], t := [], H := H, d := [], u := .norm } Q := by
  intro m
  induction m with
  | zero =>
    intro j H h1 h2 h3 hg hQ
    rw [wpl_step]
    have c1 : ¬ ((i : Int) ≤ (j : Int)) := by omega
    simp only [lb_slices_partitionCmpFunc_runes_span_3, go_sem, zA, zB, zC, reduceIte, zD, zE, zF, zG, zH, zI, reduceCtorEq, zJ, zK, zL, zM, zN, zO, zP, c1]
    exact hQ j H _ _ (Nat.le_refl _) (.inl rfl) (fun p g1 g2 => by omega) (fun h => by omega) (Ext.refl)
  | succ m ih =>
    intro j H h1 h2 h3 hg hQ
    rw [wpl_step]
    by_cases c : i ≤ j
    · have c1 : ((i : Int) ≤ (j : Int)) := by omega
      obtain ⟨j1, j2, j3⟩ := at_idx (i := j) hl (by omega)
      obtain ⟨a1, a2, a3⟩ := at_idx (i := a) hl (by omega)
      simp only [lb_slices_partitionCmpFunc_runes_span_3, go_sem, zA, zB, zC, reduceIte, zD, zE, zF, zG, zH, zI, reduceCtorEq, zJ, zK, zL, zM, zN, zO, zP, c1, j1, j2, j3, a1, a2, a3, hg]
      refine c_cmp ho fun H1 hx1 => ?_
      have hg1 : H1.get sb = .cells (scells l) .own := by rw [hx1.2 sb (Heap.lt_of_get (by rw [hg]; simp)), hg]
      simp only [go_sem, zA, zB, zC, reduceIte, zD, zE, zF, zG, zH, zI, reduceCtorEq, zJ, zK, zL, zM, zN, zO, zP, cmpZ_lt']
      by_cases hc : (l.getD j (0, 0)).1 < (l.getD a (0, 0)).1
      · simp only [go_sem, zA, zB, zC, reduceIte, zD, zE, zF, zG, zH, zI, reduceCtorEq, zJ, zK, zL, zM, zN, zO, zP, hc, wpred (show 0 < j by omega) (show j ≤ 1000000000 by omega)]
        refine hQ j H1 _ _ (Nat.le_refl _) (.inl rfl) (fun p g1 g2 => by omega) (fun _ => fun h => h hc) hx1
      · simp only [go_sem, zA, zB, zC, reduceIte, zD, zE, zF, zG, zH, zI, reduceCtorEq, zJ, zK, zL, zM, zN, zO, zP, hc, wpred (show 0 < j by omega) (show j ≤ 1000000000 by omega)]
        have ih' := ih (j - 1) H1 (by omega) (by omega) (by omega) hg1 fun j' H' x t k1 k2 k3 k4 k5 => hQ j' H' x t (by omega) (by omega) (fun p g1 g2 => by
          by_cases e : p = j
          · rw [e]; exact hc
          · exact k3 p (by omega) (by omega)) k4 (hx1.trans (k5.le hx1.1))
        exact ih'
    · have c1 : ¬ ((i : Int) ≤ (j : Int)) := by omega
      simp only [lb_slices_partitionCmpFunc_runes_span_3, go_sem, zA, zB, zC, reduceIte, zD, zE, zF, zG, zH, zI, reduceCtorEq, zJ, zK, zL, zM, zN, zO, zP, c1]
      exact hQ j H _ _ (Nat.le_refl _) (.inl rfl) (fun p g1 g2 => by omega) (fun h => by omega) (Ext.refl)
theorem q_eu0 {n a b sb j : Nat} (hn : n ≤ 1000000) (hb : b ≤ n) (hj : j < b) {l : List S} (hl : l.length = n) {Q : Ctl → St → Prop} : ∀ (m i : Nat) (H : Heap), j + 1 - i ≤ m → a < i → H.get sb = .cells (scells l) .own →
    (∀ (i' : Nat) H' x t, i ≤ i' → (i' = i ∨ i' ≤ j + 1) → (∀ p, i ≤ p → p < i' → ¬ key l a < key l p) → (i' ≤ j → ¬ (¬ key l a < key l i')) → Ext H.size H H' → Q (.exit 2) { p := (0, slV sb n) :: (1, .int .i64 (a : Int)) :: (4, cmpV) :: (11, .int .i64 (i' : Int)) :: (12, .int .i64 (j : Int)) :: x, t := t, H := H', d := [], u := .norm }) →
    wpl ⟨bt.get, o⟩ [0, 1, 4, 11, 12] lb_slices_partitionEqualCmpFunc_runes_span_0 { p := [(0, slV sb n), (1, .int .i64 (a : Int)), (4, cmpV), (11, .int .i64 (i : Int)), (12, .int .i64 (j : Int))], t := [], H := H, d := [], u := .norm } Q := by
  intro m
  induction m with
  | zero =>
    intro i H h1 h2 hg hQ
    rw [wpl_step]
    have c1 : ¬ ((i : Int) ≤ (j : Int)) := by omega
    simp only [lb_slices_partitionEqualCmpFunc_runes_span_0, go_sem, zA, zB, zC, reduceIte, zD, zE, zF, zG, zH, zI, reduceCtorEq, zJ, zK, zL, zM, zN, zO, zP, c1]
    exact hQ i H _ _ (Nat.le_refl _) (.inl rfl) (fun p g1 g2 => by omega) (fun h => by omega) (Ext.refl)
  | succ m ih =>
    intro i H h1 h2 hg hQ
    rw [wpl_step]
    by_cases c : i ≤ j
    · have c1 : ((i : Int) ≤ (j : Int)) := by omega
      obtain ⟨i1, i2, i3⟩ := at_idx (i := i) hl (by omega)
      obtain ⟨a1, a2, a3⟩ := at_idx (i := a) hl (by omega)
      simp only [lb_slices_partitionEqualCmpFunc_runes_span_0, go_sem, zA, zB, zC, reduceIte, zD, zE, zF, zG, zH, zI, reduceCtorEq, zJ, zK, zL, zM, zN, zO, zP, c1, i1, i2, i3, a1, a2, a3, hg]
      refine c_cmp ho fun H1 hx1 => ?_
      have hg1 : H1.get sb = .cells (scells l) .own := by rw [hx1.2 sb (Heap.lt_of_get (by rw [hg]; simp)), hg]
      simp only [go_sem, zA, zB, zC, reduceIte, zD, zE, zF, zG, zH, zI, reduceCtorEq, zJ, zK, zL, zM, zN, zO, zP, cmpZ_lt']
      by_cases hc : (l.getD a (0, 0)).1 < (l.getD i (0, 0)).1
      · simp only [go_sem, zA, zB, zC, reduceIte, zD, zE, zF, zG, zH, zI, reduceCtorEq, zJ, zK, zL, zM, zN, zO, zP, hc, wsucc (show i ≤ 1000000000 by omega)]
        refine hQ i H1 _ _ (Nat.le_refl _) (.inl rfl) (fun p g1 g2 => by omega) (fun _ => fun h => h hc) hx1
      · simp only [go_sem, zA, zB, zC, reduceIte, zD, zE, zF, zG, zH, zI, reduceCtorEq, zJ, zK, zL, zM, zN, zO, zP, hc, wsucc (show i ≤ 1000000000 by omega)]
        have ih' := ih (i + 1) H1 (by omega) (by omega) hg1 fun i' H' x t k1 k2 k3 k4 k5 => hQ i' H' x t (by omega) (by omega) (fun p g1 g2 => by
          by_cases e : p = i
          · rw [e]; exact hc
          · exact k3 p (by omega) g2) k4 (hx1.trans (k5.le hx1.1))
        exact ih'
    · have c1 : ¬ ((i : Int) ≤ (j : Int)) := by omega
      simp only [lb_slices_partitionEqualCmpFunc_runes_span_0, go_sem, zA, zB, zC, reduceIte, zD, zE, zF, zG, zH, zI, reduceCtorEq, zJ, zK, zL, zM, zN, zO, zP, c1]
      exact hQ i H _ _ (Nat.le_refl _) (.inl rfl) (fun p g1 g2 => by omega) (fun h => by omega) (Ext.refl)
theorem q_ed1 {n a b sb i : Nat} (hn : n ≤ 1000000) (hb : b ≤ n) (hi : a < i) {l : List S} (hl : l.length = n) {Q : Ctl → St → Prop} : ∀ (m j : Nat) (H : Heap), j + 1 - i ≤ m → j < b → a ≤ j → H.get sb = .cells (scells l) .own →
    (∀ (j' : Nat) H' x t, j' ≤ j → (j' = j ∨ i ≤ j' + 1) → (∀ p, j' < p → p ≤ j → key l a < key l p) → (i ≤ j' → ¬ (key l a < key l j')) → Ext H.size H H' → Q (.exit 4) { p := (0, slV sb n) :: (1, .int .i64 (a : Int)) :: (4, cmpV) :: (11, .int .i64 (i : Int)) :: (12, .int .i64 (j' : Int)) :: x, t := t, H := H', d := [], u := .norm }) →
    wpl ⟨bt.get, o⟩ [0, 1, 4, 11, 12] lb_slices_partitionEqualCmpFunc_runes_span_1 { p := [(0, slV sb n), (1, .int .i64 (a : Int)), (4, cmpV), (11, .int .i64 (i : Int)), (12, .int .i64 (j : Int))], t := [], H := H, d := [], u := .norm } Q := by
  intro m
  induction m with
  | zero =>
    intro j H h1 h2 h3 hg hQ
    rw [wpl_step]
    have c1 : ¬ ((i : Int) ≤ (j : Int)) := by omega
    simp only [lb_slices_partitionEqualCmpFunc_runes_span_1, go_sem, zA, zB, zC, reduceIte, zD, zE, zF, zG, zH, zI, reduceCtorEq, zJ, zK, zL, zM, zN, zO, zP, c1]
    exact hQ j H _ _ (Nat.le_refl _) (.inl rfl) (fun p g1 g2 => by omega) (fun h => by omega) (Ext.refl)
  | succ m ih =>
    intro j H h1 h2 h3 hg hQ
    rw [wpl_step]
    by_cases c : i ≤ j
    · have c1 : ((i : Int) ≤ (j : Int)) := by omega
      obtain ⟨j1, j2, j3⟩ := at_idx (i := j) hl (by omega)
      obtain ⟨a1, a2, a3⟩ := at_idx (i := a) hl (by omega)
      simp only [lb_slices_partitionEqualCmpFunc_runes_span_1, go_sem, zA, zB, zC, reduceIte, zD, zE, zF, zG, zH, zI, reduceCtorEq, zJ, zK, zL, zM, zN, zO, zP, c1, j1, j2, j3, a1, a2, a3, hg]
      refine c_cmp ho fun H1 hx1 => ?_
      have hg1 : H1.get sb = .cells (scells l) .own := by rw [hx1.2 sb (Heap.lt_of_get (by rw [hg]; simp)), hg]
      simp only [go_sem, zA, zB, zC, reduceIte, zD, zE, zF, zG, zH, zI, reduceCtorEq, zJ, zK, zL, zM, zN, zO, zP, cmpZ_lt']
      by_cases hc : (l.getD a (0, 0)).1 < (l.getD j (0, 0)).1
      · simp only [go_sem, zA, zB, zC, reduceIte, zD, zE, zF, zG, zH, zI, reduceCtorEq, zJ, zK, zL, zM, zN, zO, zP, hc, wpred (show 0 < j by omega) (show j ≤ 1000000000 by omega)]
        have ih' := ih (j - 1) H1 (by omega) (by omega) (by omega) hg1 fun j' H' x t k1 k2 k3 k4 k5 => hQ j' H' x t (by omega) (by omega) (fun p g1 g2 => by
          by_cases e : p = j
          · rw [e]; exact hc
          · exact k3 p (by omega) (by omega)) k4 (hx1.trans (k5.le hx1.1))
        exact ih'
      · simp only [go_sem, zA, zB, zC, reduceIte, zD, zE, zF, zG, zH, zI, reduceCtorEq, zJ, zK, zL, zM, zN, zO, zP, hc, wpred (show 0 < j by omega) (show j ≤ 1000000000 by omega)]
        refine hQ j H1 _ _ (Nat.le_refl _) (.inl rfl) (fun p g1 g2 => by omega) (fun _ => hc) hx1
    · have c1 : ¬ ((i : Int) ≤ (j : Int)) := by omega
      simp only [lb_slices_partitionEqualCmpFunc_runes_span_1, go_sem, zA, zB, zC, reduceIte, zD, zE, zF, zG, zH, zI, reduceCtorEq, zJ, zK, zL, zM, zN, zO, zP, c1]
      exact hQ j H _ _ (Nat.le_refl _) (.inl rfl) (fun p g1 g2 => by omega) (fun h => by omega) (Ext.refl)
end
end Go.Ev
