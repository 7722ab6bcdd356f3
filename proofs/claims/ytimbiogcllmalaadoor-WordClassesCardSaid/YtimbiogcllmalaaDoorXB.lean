/- Several texts of this claim, joined. -/
import Derived.Test.YtimbiogcllmalaaDoorXA
import Derived.Test.YtimbiogcllmalaaDoorK

/- Bytes to runes: what it is, plainly; what utf8.DecodeRune comes to. -/
namespace Go.Ev
open Go
set_option linter.unusedSimpArgs false
set_option linter.unusedVariables false

/-- The tables of unicode/utf8 lie there. -/
def GlH (H : Heap) : Prop := 3 ≤ H.size ∧ H.get 1 = .cells glFirst .ro ∧ H.get 2 = .cells glAccept .ro
theorem GlH.ext {n0 : Nat} {H H' : Heap} (h : GlH H) (hn : 3 ≤ n0) (e : Ext n0 H H') : GlH H' := ⟨Nat.le_trans h.1 e.1, by rw [e.2 1 (by omega), h.2.1], by rw [e.2 2 (by omega), h.2.2]⟩

def longN (n : Nat) : Nat := if n < 128 then 1 else if 194 ≤ n ∧ n ≤ 223 then 2 else if 224 ≤ n ∧ n ≤ 239 then 3 else if 240 ≤ n ∧ n ≤ 244 then 4 else 0
def longB (c : UInt8) : Nat := longN c.toNat
def secLo (n : Nat) : Nat := if n = 224 then 160 else if n = 240 then 144 else 128
def secHi (n : Nat) : Nat := if n = 237 then 159 else if n = 244 then 143 else 191

/-- May a byte stand behind those that are held? -/
def okB (held : List UInt8) (c : UInt8) : Bool := match held with
  | [] => decide (longB c ≠ 0)
  | [h] => decide (secLo h.toNat ≤ c.toNat ∧ c.toNat ≤ secHi h.toNat)
  | _ => decide (128 ≤ c.toNat ∧ c.toNat ≤ 191)

/-- The rune of a whole sequence. -/
def decR : List UInt8 → Nat
  | [a] => a.toNat
  | [a, b] => (a.toNat % 32) * 64 + b.toNat % 64
  | [a, b, c] => (a.toNat % 16) * 4096 + (b.toNat % 64) * 64 + c.toNat % 64
  | [a, b, c, d] => (a.toNat % 8) * 262144 + (b.toNat % 64) * 4096 + (c.toNat % 64) * 64 + d.toNat % 64
  | _ => 65533

/-- Whole sequences. -/
def whole : List UInt8 → Bool
  | [a] => longB a == 1
  | [a, b] => longB a == 2 && okB [a] b
  | [a, b, c] => longB a == 3 && okB [a] b && okB [a, b] c
  | [a, b, c, d] => longB a == 4 && okB [a] b && okB [a, b] c && okB [a, b, c] d
  | _ => false

def firstN (n : Nat) : Nat := if n < 128 then 240 else if n < 194 then 241 else if n < 224 then 2 else if n = 224 then 19 else if n = 237 then 35 else if n < 240 then 3 else if n = 240 then 52 else if n < 244 then 4 else if n = 244 then 68 else 241
theorem first_all : ((List.range 256).all fun n => match glFirst[n]? with | some v => AV.beq v (.int .u8 (firstN n)) | none => false) = true := by kernel_rfl
theorem first_at (c : UInt8) : glFirst[c.toNat]? = some (.int .u8 (firstN c.toNat)) := by
  have h := List.all_eq_true.1 first_all c.toNat (List.mem_range.2 c.toNat_lt)
  split at h
  · rename_i v hv; rw [hv, AV.beq_eq _ _ h]
  · cases h
def u8and (n m : Int) : Int := IntKind.u8.wrap (BitVec.ofInt 8 n &&& BitVec.ofInt 8 m).toNat
theorem intBin_u8and {n m : Int} : intBin .and .u8 n m = some (.int .u8 (u8and n m)) := rfl
theorem u8and_all : ((List.range 256).all fun n => decide (u8and n 31 = (n % 32 : Nat)) && decide (u8and n 15 = (n % 16 : Nat)) && decide (u8and n 7 = (n % 8 : Nat)) && decide (u8and n 63 = (n % 64 : Nat))) = true := by kernel_rfl
theorem u8and_at (c : UInt8) : u8and c.toNat 31 = (c.toNat % 32 : Nat) ∧ u8and c.toNat 15 = (c.toNat % 16 : Nat) ∧ u8and c.toNat 7 = (c.toNat % 8 : Nat) ∧ u8and c.toNat 63 = (c.toNat % 64 : Nat) := by
  have h := List.all_eq_true.1 u8and_all c.toNat (List.mem_range.2 c.toNat_lt)
  simp only [Bool.and_eq_true, decide_eq_true_eq] at h
  exact ⟨h.1.1.1, h.1.1.2, h.1.2, h.2⟩
theorem wi32 {x : Int} (h0 : -2147483648 ≤ x) (h1 : x ≤ 2147483647) : IntKind.i32.wrap x = x := by rw [IntKind.wrap_i32]; omega
theorem shl_i32 {a : Nat} {k : Nat} (hk : k ≤ 32) (h : a * 2 ^ k ≤ 2147483647) : shiftA .shl .i32 (a : Int) (k : Int) = some (.int .i32 ((a * 2 ^ k : Nat) : Int)) := by
  have e : min ((k : Int).toNat) IntKind.i32.bits = k := by simp only [Int.toNat_natCast]; exact Nat.min_eq_left hk
  simp only [shiftA, if_neg (show ¬((k : Int) < 0) by omega), e]
  have e2 : (a : Int) * 2 ^ k = ((a * 2 ^ k : Nat) : Int) := by rw [Int.natCast_mul, Int.natCast_pow]; rfl
  rw [e2]
  generalize a * 2 ^ k = z at h ⊢
  rw [wi32 (by omega) (by omega)]
theorem or_i32 {a b k : Nat} (hb : b < 2 ^ k) (h : 2 ^ k * a + b ≤ 2147483647) : intBin .or .i32 ((2 ^ k * a : Nat) : Int) (b : Int) = some (.int .i32 ((2 ^ k * a + b : Nat) : Int)) := by
  have e : (BitVec.ofInt 32 ((2 ^ k * a : Nat) : Int) ||| BitVec.ofInt 32 (b : Int)).toNat = 2 ^ k * a + b := by
    rw [BitVec.toNat_or, BitVec.ofInt_natCast, BitVec.ofInt_natCast, BitVec.toNat_ofNat, BitVec.toNat_ofNat, Nat.mod_eq_of_lt (by omega), Nat.mod_eq_of_lt (by omega), Nat.two_pow_add_eq_or_of_lt hb]
  show some (AV.int .i32 (IntKind.i32.wrap ((BitVec.ofInt 32 ((2 ^ k * a : Nat) : Int) ||| BitVec.ofInt 32 (b : Int)).toNat : Int))) = _
  rw [e, wi32 (by omega) (by omega)]

end Go.Ev

/- What utf8.DecodeRune comes to. -/
namespace Go.Ev
open Go
set_option linter.unusedSimpArgs false
set_option linter.unusedVariables false
theorem longN_2 {n : Nat} (h : longN n = 2) : 194 ≤ n ∧ n ≤ 223 := by
  unfold longN at h
  repeat' split at h
  all_goals omega
theorem longN_3 {n : Nat} (h : longN n = 3) : 224 ≤ n ∧ n ≤ 239 := by
  unfold longN at h
  repeat' split at h
  all_goals omega
theorem longN_4 {n : Nat} (h : longN n = 4) : 240 ≤ n ∧ n ≤ 244 := by
  unfold longN at h
  repeat' split at h
  all_goals omega
theorem longN_1 {n : Nat} (h : longN n = 1) : n < 128 := by
  unfold longN at h
  repeat' split at h
  all_goals omega
theorem okB_1 {a b : UInt8} (h : okB [a] b = true) : secLo a.toNat ≤ b.toNat ∧ b.toNat ≤ secHi a.toNat := by simpa [okB] using h
theorem okB_2 {a b c : UInt8} (h : okB [a, b] c = true) : 128 ≤ c.toNat ∧ c.toNat ≤ 191 := by simpa [okB] using h
theorem okB_3 {a b c d : UInt8} (h : okB [a, b, c] d = true) : 128 ≤ d.toNat ∧ d.toNat ≤ 191 := by simpa [okB] using h
theorem shl6 {a : Nat} (h : a ≤ 2047) : shiftA .shl .i32 (a : Int) 6 = some (.int .i32 ((64 * a : Nat) : Int)) := by rw [Nat.mul_comm]; exact shl_i32 (k := 6) (by omega) (by omega)
theorem shl12 {a : Nat} (h : a ≤ 2047) : shiftA .shl .i32 (a : Int) 12 = some (.int .i32 ((4096 * a : Nat) : Int)) := by rw [Nat.mul_comm]; exact shl_i32 (k := 12) (by omega) (by omega)
theorem shl18 {a : Nat} (h : a ≤ 2047) : shiftA .shl .i32 (a : Int) 18 = some (.int .i32 ((262144 * a : Nat) : Int)) := by rw [Nat.mul_comm]; exact shl_i32 (k := 18) (by omega) (by omega)
theorem or6 {a b : Nat} (ha : a ≤ 262143) (hb : b < 64) : intBin .or .i32 ((64 * a : Nat) : Int) (b : Int) = some (.int .i32 ((64 * a + b : Nat) : Int)) := or_i32 (k := 6) hb (by omega)
theorem or12 {a b : Nat} (ha : a ≤ 262143) (hb : b < 4096) : intBin .or .i32 ((4096 * a : Nat) : Int) (b : Int) = some (.int .i32 ((4096 * a + b : Nat) : Int)) := or_i32 (k := 12) hb (by omega)
theorem or18 {a b : Nat} (ha : a ≤ 2047) (hb : b < 262144) : intBin .or .i32 ((262144 * a : Nat) : Int) (b : Int) = some (.int .i32 ((262144 * a + b : Nat) : Int)) := or_i32 (k := 18) hb (by omega)
theorem firstN_3 {n : Nat} (h : 224 ≤ n ∧ n ≤ 239) : ((firstN n : Nat) : Int) = if n = 224 then 19 else if n = 237 then 35 else 3 := by
  unfold firstN
  repeat' split
  all_goals first | omega | rfl
theorem firstN_4 {n : Nat} (h : 240 ≤ n ∧ n ≤ 244) : ((firstN n : Nat) : Int) = if n = 240 then 52 else if n = 244 then 68 else 4 := by
  unfold firstN
  repeat' split
  all_goals first | omega | rfl
theorem firstN_2 {n : Nat} (h : 194 ≤ n ∧ n ≤ 223) : ((firstN n : Nat) : Int) = 2 := by
  unfold firstN
  repeat' split
  all_goals first | omega | rfl

section
variable {o : CallF} (ho : OvOnly o)
include ho

theorem u_slow2 {a b : UInt8} {hb : Nat} {H : Heap} {Q : End → Heap → Prop} (hG : GlH H) (hg : H.get hb = .cells (byteCells [a, b]) .own) (hw : whole [a, b] = true) (h : ∀ H', Ext H.size H H' → Q (.ret (.tup [.int .i32 (decR [a, b]), .int .i64 2])) H') : wpf ⟨bt.get, o⟩ F_utf8_decodeRuneSlow [.osl 1 hb 0 2] H Q := by
  rw [fn_utf8_decodeRuneSlow (ho _ _ _ (by decide))]
  simp only [whole, Bool.and_eq_true, beq_iff_eq] at hw
  have ha := longN_2 hw.1
  have hb2 := okB_1 hw.2
  have hf := firstN_2 ha
  simp only [secLo, secHi, if_neg (show ¬ a.toNat = 224 by omega), if_neg (show ¬ a.toNat = 240 by omega), if_neg (show ¬ a.toNat = 237 by omega), if_neg (show ¬ a.toNat = 244 by omega)] at hb2
  have hlt : hb < H.size := Heap.lt_of_get (by rw [hg]; simp)
  have hn : ¬ ((b.toNat : Int) < 128) := by omega
  have hn2 : ¬ ((191 : Int) < (b.toNat : Int)) := by omega
  have e1 : shiftA .shr .u8 2 4 = some (.int .u8 0) := by rfl
  have e2 : u8and 2 7 = 2 := by rfl
  have e3 : IntKind.i64.wrap 2 = 2 := by rfl
  have ma := u8and_at a
  have mb := u8and_at b
  have w1 : IntKind.i32.wrap ((a.toNat % 32 : Nat) : Int) = ((a.toNat % 32 : Nat) : Int) := wi32 (by omega) (by omega)
  have w2 : IntKind.i32.wrap ((b.toNat % 64 : Nat) : Int) = ((b.toNat % 64 : Nat) : Int) := wi32 (by omega) (by omega)
  have a256 : (a.toNat : Int) < 256 := by have := a.toNat_lt; omega
  simp only [bd_utf8_decodeRuneSlow, go_sem, seqK_normal, blockK_normal, blockK_exit, reduceIte, Nat.reduceEqDiff, Nat.reduceAdd, Nat.reduceSub, Nat.reduceMul, Nat.reduceLeDiff, Nat.reduceLT, reduceCtorEq, Int.reduceToNat, Int.reduceLT, Int.reduceLE, Int.reduceEq, Int.reduceAdd, Int.reduceSub, Int.reduceMul, hg, a256, byteCells, List.map_cons, List.map_nil, first_at, hf, hG.2.1, hG.2.2, glAccept, e1, e2, e3, intBin_u8and, Heap.get_push_lt hlt, hn, hn2, ma, mb, w1, w2, Int.natCast_nonneg]
  simp only [go_sem, seqK_normal, blockK_normal, blockK_exit, reduceIte, Nat.reduceEqDiff, Nat.reduceAdd, Nat.reduceSub, Nat.reduceMul, Nat.reduceLeDiff, Nat.reduceLT, reduceCtorEq, Int.reduceToNat, Int.reduceLT, Int.reduceLE, Int.reduceEq, Int.reduceAdd, Int.reduceSub, Int.reduceMul, shl6 (show a.toNat % 32 ≤ 2047 by omega), or6 (show a.toNat % 32 ≤ 262143 by omega) (show b.toNat % 64 < 64 by omega)]
  have := h _ (Ext.push (x := .cells [.int .u8 128, .int .u8 191] .own) (Nat.le_refl _))
  rw [decR, Nat.mul_comm] at this
  exact this

theorem u_slow3 {a b c : UInt8} {hb : Nat} {H : Heap} {Q : End → Heap → Prop} (hG : GlH H) (hg : H.get hb = .cells (byteCells [a, b, c]) .own) (hw : whole [a, b, c] = true) (h : ∀ H', Ext H.size H H' → Q (.ret (.tup [.int .i32 (decR [a, b, c]), .int .i64 3])) H') : wpf ⟨bt.get, o⟩ F_utf8_decodeRuneSlow [.osl 1 hb 0 3] H Q := by
  rw [fn_utf8_decodeRuneSlow (ho _ _ _ (by decide))]
  simp only [whole, Bool.and_eq_true, beq_iff_eq] at hw
  obtain ⟨⟨hw1, hw2⟩, hw3⟩ := hw
  have ha := longN_3 hw1
  have hb2 := okB_1 hw2
  have hc2 := okB_2 hw3
  have hf := firstN_3 ha
  have hlt : hb < H.size := Heap.lt_of_get (by rw [hg]; simp)
  have hm : ¬ ((c.toNat : Int) < 128) := by omega
  have hm2 : ¬ ((191 : Int) < (c.toNat : Int)) := by omega
  have ma := u8and_at a
  have mb := u8and_at b
  have mc := u8and_at c
  have w1 : IntKind.i32.wrap ((a.toNat % 16 : Nat) : Int) = ((a.toNat % 16 : Nat) : Int) := wi32 (by omega) (by omega)
  have w2 : IntKind.i32.wrap ((b.toNat % 64 : Nat) : Int) = ((b.toNat % 64 : Nat) : Int) := wi32 (by omega) (by omega)
  have w3 : IntKind.i32.wrap ((c.toNat % 64 : Nat) : Int) = ((c.toNat % 64 : Nat) : Int) := wi32 (by omega) (by omega)
  have a256 : (a.toNat : Int) < 256 := by have := a.toNat_lt; omega
  have e3 : IntKind.i64.wrap 3 = 3 := by rfl
  have f2 : u8and 19 7 = 3 := by rfl
  have f3 : u8and 35 7 = 3 := by rfl
  have f4 : u8and 3 7 = 3 := by rfl
  have g2 : shiftA .shr .u8 19 4 = some (.int .u8 1) := by rfl
  have g3 : shiftA .shr .u8 35 4 = some (.int .u8 2) := by rfl
  have g4 : shiftA .shr .u8 3 4 = some (.int .u8 0) := by rfl
  have o1 : intBin .or .i32 ((4096 * (a.toNat % 16) : Nat) : Int) ((64 * (b.toNat % 64) : Nat) : Int) = some (.int .i32 ((64 * (64 * (a.toNat % 16) + b.toNat % 64) : Nat) : Int)) := by
    rw [or12 (by omega) (by omega)]; congr 3; omega
  have o2 := or6 (a := 64 * (a.toNat % 16) + b.toNat % 64) (b := c.toNat % 64) (by omega) (by omega)
  have hd : decR [a, b, c] = 64 * (64 * (a.toNat % 16) + b.toNat % 64) + c.toNat % 64 := by rw [decR]; omega
  rw [hd] at h
  by_cases h224 : a.toNat = 224
  · rw [if_pos h224] at hf
    have hn : ¬ ((b.toNat : Int) < 160) := by have l := hb2.1; rw [h224] at l; have l2 : 160 ≤ b.toNat := l; omega
    have hn2 : ¬ ((191 : Int) < (b.toNat : Int)) := by have l := hb2.2; rw [h224] at l; have l2 : b.toNat ≤ 191 := l; omega
    simp only [bd_utf8_decodeRuneSlow, go_sem, seqK_normal, blockK_normal, blockK_exit, reduceIte, Nat.reduceEqDiff, Nat.reduceAdd, Nat.reduceSub, Nat.reduceMul, Nat.reduceLeDiff, Nat.reduceLT, reduceCtorEq, Int.reduceToNat, Int.reduceLT, Int.reduceLE, Int.reduceEq, Int.reduceAdd, Int.reduceSub, Int.reduceMul, hg, a256, byteCells, List.map_cons, List.map_nil, first_at, hf, hG.2.1, hG.2.2, glAccept, e3, f2, g2, intBin_u8and, Heap.get_push_lt hlt, hn, hn2, hm, hm2, ma, mb, mc, w1, w2, w3]
    simp only [go_sem, seqK_normal, blockK_normal, blockK_exit, reduceIte, Nat.reduceEqDiff, Nat.reduceAdd, Nat.reduceSub, Nat.reduceMul, Nat.reduceLeDiff, Nat.reduceLT, reduceCtorEq, Int.reduceToNat, Int.reduceLT, Int.reduceLE, Int.reduceEq, Int.reduceAdd, Int.reduceSub, Int.reduceMul, shl12 (show a.toNat % 16 ≤ 2047 by omega), shl6 (show b.toNat % 64 ≤ 2047 by omega), o1, o2]
    exact h _ (Ext.push (Nat.le_refl _))
  · rw [if_neg h224] at hf
    by_cases h237 : a.toNat = 237
    · rw [if_pos h237] at hf
      have hn : ¬ ((b.toNat : Int) < 128) := by have l := hb2.1; rw [h237] at l; have l2 : 128 ≤ b.toNat := l; omega
      have hn2 : ¬ ((159 : Int) < (b.toNat : Int)) := by have l := hb2.2; rw [h237] at l; have l2 : b.toNat ≤ 159 := l; omega
      simp only [bd_utf8_decodeRuneSlow, go_sem, seqK_normal, blockK_normal, blockK_exit, reduceIte, Nat.reduceEqDiff, Nat.reduceAdd, Nat.reduceSub, Nat.reduceMul, Nat.reduceLeDiff, Nat.reduceLT, reduceCtorEq, Int.reduceToNat, Int.reduceLT, Int.reduceLE, Int.reduceEq, Int.reduceAdd, Int.reduceSub, Int.reduceMul, hg, a256, byteCells, List.map_cons, List.map_nil, first_at, hf, hG.2.1, hG.2.2, glAccept, e3, f3, g3, intBin_u8and, Heap.get_push_lt hlt, hn, hn2, hm, hm2, ma, mb, mc, w1, w2, w3]
      simp only [go_sem, seqK_normal, blockK_normal, blockK_exit, reduceIte, Nat.reduceEqDiff, Nat.reduceAdd, Nat.reduceSub, Nat.reduceMul, Nat.reduceLeDiff, Nat.reduceLT, reduceCtorEq, Int.reduceToNat, Int.reduceLT, Int.reduceLE, Int.reduceEq, Int.reduceAdd, Int.reduceSub, Int.reduceMul, shl12 (show a.toNat % 16 ≤ 2047 by omega), shl6 (show b.toNat % 64 ≤ 2047 by omega), o1, o2]
      exact h _ (Ext.push (Nat.le_refl _))
    · rw [if_neg h237] at hf
      have hn : ¬ ((b.toNat : Int) < 128) := by simp only [secLo, if_neg h224, if_neg (show ¬ a.toNat = 240 by omega)] at hb2; omega
      have hn2 : ¬ ((191 : Int) < (b.toNat : Int)) := by simp only [secHi, if_neg h237, if_neg (show ¬ a.toNat = 244 by omega)] at hb2; omega
      simp only [bd_utf8_decodeRuneSlow, go_sem, seqK_normal, blockK_normal, blockK_exit, reduceIte, Nat.reduceEqDiff, Nat.reduceAdd, Nat.reduceSub, Nat.reduceMul, Nat.reduceLeDiff, Nat.reduceLT, reduceCtorEq, Int.reduceToNat, Int.reduceLT, Int.reduceLE, Int.reduceEq, Int.reduceAdd, Int.reduceSub, Int.reduceMul, hg, a256, byteCells, List.map_cons, List.map_nil, first_at, hf, hG.2.1, hG.2.2, glAccept, e3, f4, g4, intBin_u8and, Heap.get_push_lt hlt, hn, hn2, hm, hm2, ma, mb, mc, w1, w2, w3]
      simp only [go_sem, seqK_normal, blockK_normal, blockK_exit, reduceIte, Nat.reduceEqDiff, Nat.reduceAdd, Nat.reduceSub, Nat.reduceMul, Nat.reduceLeDiff, Nat.reduceLT, reduceCtorEq, Int.reduceToNat, Int.reduceLT, Int.reduceLE, Int.reduceEq, Int.reduceAdd, Int.reduceSub, Int.reduceMul, shl12 (show a.toNat % 16 ≤ 2047 by omega), shl6 (show b.toNat % 64 ≤ 2047 by omega), o1, o2]
      exact h _ (Ext.push (Nat.le_refl _))

theorem u_slow4 {a b c d : UInt8} {hb : Nat} {H : Heap} {Q : End → Heap → Prop} (hG : GlH H) (hg : H.get hb = .cells (byteCells [a, b, c, d]) .own) (hw : whole [a, b, c, d] = true) (h : ∀ H', Ext H.size H H' → Q (.ret (.tup [.int .i32 (decR [a, b, c, d]), .int .i64 4])) H') : wpf ⟨bt.get, o⟩ F_utf8_decodeRuneSlow [.osl 1 hb 0 4] H Q := by
  rw [fn_utf8_decodeRuneSlow (ho _ _ _ (by decide))]
  simp only [whole, Bool.and_eq_true, beq_iff_eq] at hw
  obtain ⟨⟨⟨hw1, hw2⟩, hw3⟩, hw4⟩ := hw
  have ha := longN_4 hw1
  have hb2 := okB_1 hw2
  have hc2 := okB_2 hw3
  have hd2 := okB_3 hw4
  have hf := firstN_4 ha
  have hlt : hb < H.size := Heap.lt_of_get (by rw [hg]; simp)
  have hm : ¬ ((c.toNat : Int) < 128) := by omega
  have hm2 : ¬ ((191 : Int) < (c.toNat : Int)) := by omega
  have hk : ¬ ((d.toNat : Int) < 128) := by omega
  have hk2 : ¬ ((191 : Int) < (d.toNat : Int)) := by omega
  have ma := u8and_at a
  have mb := u8and_at b
  have mc := u8and_at c
  have md := u8and_at d
  have w1 : IntKind.i32.wrap ((a.toNat % 8 : Nat) : Int) = ((a.toNat % 8 : Nat) : Int) := wi32 (by omega) (by omega)
  have w2 : IntKind.i32.wrap ((b.toNat % 64 : Nat) : Int) = ((b.toNat % 64 : Nat) : Int) := wi32 (by omega) (by omega)
  have w3 : IntKind.i32.wrap ((c.toNat % 64 : Nat) : Int) = ((c.toNat % 64 : Nat) : Int) := wi32 (by omega) (by omega)
  have w4 : IntKind.i32.wrap ((d.toNat % 64 : Nat) : Int) = ((d.toNat % 64 : Nat) : Int) := wi32 (by omega) (by omega)
  have a256 : (a.toNat : Int) < 256 := by have := a.toNat_lt; omega
  have e3 : IntKind.i64.wrap 4 = 4 := by rfl
  have f2 : u8and 52 7 = 4 := by rfl
  have f3 : u8and 68 7 = 4 := by rfl
  have f4 : u8and 4 7 = 4 := by rfl
  have g2 : shiftA .shr .u8 52 4 = some (.int .u8 3) := by rfl
  have g3 : shiftA .shr .u8 68 4 = some (.int .u8 4) := by rfl
  have g4 : shiftA .shr .u8 4 4 = some (.int .u8 0) := by rfl
  have o1 : intBin .or .i32 ((262144 * (a.toNat % 8) : Nat) : Int) ((4096 * (b.toNat % 64) : Nat) : Int) = some (.int .i32 ((4096 * (64 * (a.toNat % 8) + b.toNat % 64) : Nat) : Int)) := by
    rw [or18 (by omega) (by omega)]; congr 3; omega
  have o2 : intBin .or .i32 ((4096 * (64 * (a.toNat % 8) + b.toNat % 64) : Nat) : Int) ((64 * (c.toNat % 64) : Nat) : Int) = some (.int .i32 ((64 * (64 * (64 * (a.toNat % 8) + b.toNat % 64) + c.toNat % 64) : Nat) : Int)) := by
    rw [or12 (by omega) (by omega)]; congr 3; omega
  have o3 := or6 (a := 64 * (64 * (a.toNat % 8) + b.toNat % 64) + c.toNat % 64) (b := d.toNat % 64) (by omega) (by omega)
  have hd : decR [a, b, c, d] = 64 * (64 * (64 * (a.toNat % 8) + b.toNat % 64) + c.toNat % 64) + d.toNat % 64 := by rw [decR]; omega
  rw [hd] at h
  by_cases h240 : a.toNat = 240
  · rw [if_pos h240] at hf
    have hn : ¬ ((b.toNat : Int) < 144) := by have l := hb2.1; rw [h240] at l; have l2 : 144 ≤ b.toNat := l; omega
    have hn2 : ¬ ((191 : Int) < (b.toNat : Int)) := by have l := hb2.2; rw [h240] at l; have l2 : b.toNat ≤ 191 := l; omega
    simp only [bd_utf8_decodeRuneSlow, go_sem, seqK_normal, blockK_normal, blockK_exit, reduceIte, Nat.reduceEqDiff, Nat.reduceAdd, Nat.reduceSub, Nat.reduceMul, Nat.reduceLeDiff, Nat.reduceLT, reduceCtorEq, Int.reduceToNat, Int.reduceLT, Int.reduceLE, Int.reduceEq, Int.reduceAdd, Int.reduceSub, Int.reduceMul, hg, a256, byteCells, List.map_cons, List.map_nil, first_at, hf, hG.2.1, hG.2.2, glAccept, e3, f2, g2, intBin_u8and, Heap.get_push_lt hlt, hn, hn2, hm, hm2, hk, hk2, ma, mb, mc, md, w1, w2, w3, w4]
    simp only [go_sem, seqK_normal, blockK_normal, blockK_exit, reduceIte, Nat.reduceEqDiff, Nat.reduceAdd, Nat.reduceSub, Nat.reduceMul, Nat.reduceLeDiff, Nat.reduceLT, reduceCtorEq, Int.reduceToNat, Int.reduceLT, Int.reduceLE, Int.reduceEq, Int.reduceAdd, Int.reduceSub, Int.reduceMul, shl18 (show a.toNat % 8 ≤ 2047 by omega), shl12 (show b.toNat % 64 ≤ 2047 by omega), shl6 (show c.toNat % 64 ≤ 2047 by omega), o1, o2, o3]
    exact h _ (Ext.push (Nat.le_refl _))
  · rw [if_neg h240] at hf
    by_cases h244 : a.toNat = 244
    · rw [if_pos h244] at hf
      have hn : ¬ ((b.toNat : Int) < 128) := by have l := hb2.1; rw [h244] at l; have l2 : 128 ≤ b.toNat := l; omega
      have hn2 : ¬ ((143 : Int) < (b.toNat : Int)) := by have l := hb2.2; rw [h244] at l; have l2 : b.toNat ≤ 143 := l; omega
      simp only [bd_utf8_decodeRuneSlow, go_sem, seqK_normal, blockK_normal, blockK_exit, reduceIte, Nat.reduceEqDiff, Nat.reduceAdd, Nat.reduceSub, Nat.reduceMul, Nat.reduceLeDiff, Nat.reduceLT, reduceCtorEq, Int.reduceToNat, Int.reduceLT, Int.reduceLE, Int.reduceEq, Int.reduceAdd, Int.reduceSub, Int.reduceMul, hg, a256, byteCells, List.map_cons, List.map_nil, first_at, hf, hG.2.1, hG.2.2, glAccept, e3, f3, g3, intBin_u8and, Heap.get_push_lt hlt, hn, hn2, hm, hm2, hk, hk2, ma, mb, mc, md, w1, w2, w3, w4]
      simp only [go_sem, seqK_normal, blockK_normal, blockK_exit, reduceIte, Nat.reduceEqDiff, Nat.reduceAdd, Nat.reduceSub, Nat.reduceMul, Nat.reduceLeDiff, Nat.reduceLT, reduceCtorEq, Int.reduceToNat, Int.reduceLT, Int.reduceLE, Int.reduceEq, Int.reduceAdd, Int.reduceSub, Int.reduceMul, shl18 (show a.toNat % 8 ≤ 2047 by omega), shl12 (show b.toNat % 64 ≤ 2047 by omega), shl6 (show c.toNat % 64 ≤ 2047 by omega), o1, o2, o3]
      exact h _ (Ext.push (Nat.le_refl _))
    · rw [if_neg h244] at hf
      have hn : ¬ ((b.toNat : Int) < 128) := by simp only [secLo, if_neg h240, if_neg (show ¬ a.toNat = 224 by omega)] at hb2; omega
      have hn2 : ¬ ((191 : Int) < (b.toNat : Int)) := by simp only [secHi, if_neg h244, if_neg (show ¬ a.toNat = 237 by omega)] at hb2; omega
      simp only [bd_utf8_decodeRuneSlow, go_sem, seqK_normal, blockK_normal, blockK_exit, reduceIte, Nat.reduceEqDiff, Nat.reduceAdd, Nat.reduceSub, Nat.reduceMul, Nat.reduceLeDiff, Nat.reduceLT, reduceCtorEq, Int.reduceToNat, Int.reduceLT, Int.reduceLE, Int.reduceEq, Int.reduceAdd, Int.reduceSub, Int.reduceMul, hg, a256, byteCells, List.map_cons, List.map_nil, first_at, hf, hG.2.1, hG.2.2, glAccept, e3, f4, g4, intBin_u8and, Heap.get_push_lt hlt, hn, hn2, hm, hm2, hk, hk2, ma, mb, mc, md, w1, w2, w3, w4]
      simp only [go_sem, seqK_normal, blockK_normal, blockK_exit, reduceIte, Nat.reduceEqDiff, Nat.reduceAdd, Nat.reduceSub, Nat.reduceMul, Nat.reduceLeDiff, Nat.reduceLT, reduceCtorEq, Int.reduceToNat, Int.reduceLT, Int.reduceLE, Int.reduceEq, Int.reduceAdd, Int.reduceSub, Int.reduceMul, shl18 (show a.toNat % 8 ≤ 2047 by omega), shl12 (show b.toNat % 64 ≤ 2047 by omega), shl6 (show c.toNat % 64 ≤ 2047 by omega), o1, o2, o3]
      exact h _ (Ext.push (Nat.le_refl _))

theorem u_DecodeRune {held : List UInt8} {hb : Nat} {H : Heap} {Q : End → Heap → Prop} (hG : GlH H) (hg : H.get hb = .cells (byteCells held) .own) (hw : whole held = true) (h : ∀ H', Ext H.size H H' → Q (.ret (.tup [.int .i32 (decR held), .int .i64 held.length])) H') : wpf ⟨bt.get, o⟩ F_utf8_DecodeRune [.osl 1 hb 0 held.length] H Q := by
  rw [fn_utf8_DecodeRune (ho _ _ _ (by decide))]
  have one : ∀ a : UInt8, IntKind.i32.wrap (a.toNat : Int) = (a.toNat : Int) := fun a => by have := a.toNat_lt; exact wi32 (by omega) (by omega)
  have big : ∀ a : UInt8, longB a ≠ 1 → ¬ ((a.toNat : Int) < 128) := by
    intro a h hlt
    exact h (by simp only [longB, longN, if_pos (show a.toNat < 128 by omega)])
  match held, hw, hg, h with
  | [a], hw, hg, h =>
    have := longN_1 (beq_iff_eq.1 hw)
    have ha : (a.toNat : Int) < 128 := by omega
    simp only [bd_utf8_DecodeRune, go_sem, seqK_normal, blockK_normal, blockK_exit, reduceIte, Nat.reduceEqDiff, Nat.reduceAdd, Nat.reduceSub, Nat.reduceMul, Nat.reduceLeDiff, Nat.reduceLT, reduceCtorEq, Int.reduceToNat, Int.reduceLT, Int.reduceLE, Int.reduceEq, Int.reduceAdd, Int.reduceSub, Int.reduceMul]
    rw [wpl_step]
    simp only [lb_utf8_DecodeRune_0, go_sem, seqK_normal, blockK_normal, blockK_exit, reduceIte, Nat.reduceEqDiff, Nat.reduceAdd, Nat.reduceSub, Nat.reduceMul, Nat.reduceLeDiff, Nat.reduceLT, reduceCtorEq, Int.reduceToNat, Int.reduceLT, Int.reduceLE, Int.reduceEq, Int.reduceAdd, Int.reduceSub, Int.reduceMul, hg, byteCells, List.map_cons, List.map_nil, ha, one]
    exact h _ Ext.refl
  | [a, b], hw, hg, h =>
    have ha := big a (by intro h; simp [whole, h] at hw)
    simp only [bd_utf8_DecodeRune, go_sem, seqK_normal, blockK_normal, blockK_exit, reduceIte, Nat.reduceEqDiff, Nat.reduceAdd, Nat.reduceSub, Nat.reduceMul, Nat.reduceLeDiff, Nat.reduceLT, reduceCtorEq, Int.reduceToNat, Int.reduceLT, Int.reduceLE, Int.reduceEq, Int.reduceAdd, Int.reduceSub, Int.reduceMul]
    rw [wpl_step]
    simp only [lb_utf8_DecodeRune_0, go_sem, seqK_normal, blockK_normal, blockK_exit, reduceIte, Nat.reduceEqDiff, Nat.reduceAdd, Nat.reduceSub, Nat.reduceMul, Nat.reduceLeDiff, Nat.reduceLT, reduceCtorEq, Int.reduceToNat, Int.reduceLT, Int.reduceLE, Int.reduceEq, Int.reduceAdd, Int.reduceSub, Int.reduceMul, hg, byteCells, List.map_cons, List.map_nil, ha]
    refine u_slow2 ho hG hg hw fun H' hx => ?_
    simp only [go_sem, seqK_normal, blockK_normal, blockK_exit, reduceIte, Nat.reduceEqDiff, Nat.reduceAdd, Nat.reduceSub, Nat.reduceMul, Nat.reduceLeDiff, Nat.reduceLT, reduceCtorEq, Int.reduceToNat, Int.reduceLT, Int.reduceLE, Int.reduceEq, Int.reduceAdd, Int.reduceSub, Int.reduceMul]
    exact h _ hx
  | [a, b, c], hw, hg, h =>
    have ha := big a (by intro h; simp [whole, h] at hw)
    simp only [bd_utf8_DecodeRune, go_sem, seqK_normal, blockK_normal, blockK_exit, reduceIte, Nat.reduceEqDiff, Nat.reduceAdd, Nat.reduceSub, Nat.reduceMul, Nat.reduceLeDiff, Nat.reduceLT, reduceCtorEq, Int.reduceToNat, Int.reduceLT, Int.reduceLE, Int.reduceEq, Int.reduceAdd, Int.reduceSub, Int.reduceMul]
    rw [wpl_step]
    simp only [lb_utf8_DecodeRune_0, go_sem, seqK_normal, blockK_normal, blockK_exit, reduceIte, Nat.reduceEqDiff, Nat.reduceAdd, Nat.reduceSub, Nat.reduceMul, Nat.reduceLeDiff, Nat.reduceLT, reduceCtorEq, Int.reduceToNat, Int.reduceLT, Int.reduceLE, Int.reduceEq, Int.reduceAdd, Int.reduceSub, Int.reduceMul, hg, byteCells, List.map_cons, List.map_nil, ha]
    refine u_slow3 ho hG hg hw fun H' hx => ?_
    simp only [go_sem, seqK_normal, blockK_normal, blockK_exit, reduceIte, Nat.reduceEqDiff, Nat.reduceAdd, Nat.reduceSub, Nat.reduceMul, Nat.reduceLeDiff, Nat.reduceLT, reduceCtorEq, Int.reduceToNat, Int.reduceLT, Int.reduceLE, Int.reduceEq, Int.reduceAdd, Int.reduceSub, Int.reduceMul]
    exact h _ hx
  | [a, b, c, d], hw, hg, h =>
    have ha := big a (by intro h; simp [whole, h] at hw)
    simp only [bd_utf8_DecodeRune, go_sem, seqK_normal, blockK_normal, blockK_exit, reduceIte, Nat.reduceEqDiff, Nat.reduceAdd, Nat.reduceSub, Nat.reduceMul, Nat.reduceLeDiff, Nat.reduceLT, reduceCtorEq, Int.reduceToNat, Int.reduceLT, Int.reduceLE, Int.reduceEq, Int.reduceAdd, Int.reduceSub, Int.reduceMul]
    rw [wpl_step]
    simp only [lb_utf8_DecodeRune_0, go_sem, seqK_normal, blockK_normal, blockK_exit, reduceIte, Nat.reduceEqDiff, Nat.reduceAdd, Nat.reduceSub, Nat.reduceMul, Nat.reduceLeDiff, Nat.reduceLT, reduceCtorEq, Int.reduceToNat, Int.reduceLT, Int.reduceLE, Int.reduceEq, Int.reduceAdd, Int.reduceSub, Int.reduceMul, hg, byteCells, List.map_cons, List.map_nil, ha]
    refine u_slow4 ho hG hg hw fun H' hx => ?_
    simp only [go_sem, seqK_normal, blockK_normal, blockK_exit, reduceIte, Nat.reduceEqDiff, Nat.reduceAdd, Nat.reduceSub, Nat.reduceMul, Nat.reduceLeDiff, Nat.reduceLT, reduceCtorEq, Int.reduceToNat, Int.reduceLT, Int.reduceLE, Int.reduceEq, Int.reduceAdd, Int.reduceSub, Int.reduceMul]
    exact h _ hx
end
end Go.Ev
