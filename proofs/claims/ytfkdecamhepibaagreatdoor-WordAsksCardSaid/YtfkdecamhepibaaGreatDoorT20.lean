/- Several texts of this claim, joined. -/
import Derived.Test.YtfkdecamhepibaaGreatDoorT19
import Derived.Test.YtfkdecamhepibaaGreatDoorT14
import Derived.KernelRfl
import Derived.Test.YtfkdecamhepibaaGreatDoorT18
set_option linter.unusedSimpArgs false
set_option linter.unusedVariables false

/- The package-level variables that the rows list. -/
namespace Go.Ev
open Go Go.Proofs
def glFirst : List AV := [.int .u8 240, .int .u8 240, .int .u8 240, .int .u8 240, .int .u8 240, .int .u8 240, .int .u8 240, .int .u8 240, .int .u8 240, .int .u8 240, .int .u8 240, .int .u8 240, .int .u8 240, .int .u8 240, .int .u8 240, .int .u8 240, .int .u8 240, .int .u8 240, .int .u8 240, .int .u8 240, .int .u8 240, .int .u8 240, .int .u8 240, .int .u8 240, .int .u8 240, .int .u8 240, .int .u8 240, .int .u8 240, .int .u8 240, .int .u8 240, .int .u8 240, .int .u8 240, .int .u8 240, .int .u8 240, .int .u8 240, .int .u8 240, .int .u8 240, .int .u8 240, .int .u8 240, .int .u8 240, .int .u8 240, .int .u8 240, .int .u8 240, .int .u8 240, .int .u8 240, .int .u8 240, .int .u8 240, .int .u8 240, .int .u8 240, .int .u8 240, .int .u8 240, .int .u8 240, .int .u8 240, .int .u8 240, .int .u8 240, .int .u8 240, .int .u8 240, .int .u8 240, .int .u8 240, .int .u8 240, .int .u8 240, .int .u8 240, .int .u8 240, .int .u8 240, .int .u8 240, .int .u8 240, .int .u8 240, .int .u8 240, .int .u8 240, .int .u8 240, .int .u8 240, .int .u8 240, .int .u8 240, .int .u8 240, .int .u8 240, .int .u8 240, .int .u8 240, .int .u8 240, .int .u8 240, .int .u8 240, .int .u8 240, .int .u8 240, .int .u8 240, .int .u8 240, .int .u8 240, .int .u8 240, .int .u8 240, .int .u8 240, .int .u8 240, .int .u8 240, .int .u8 240, .int .u8 240, .int .u8 240, .int .u8 240, .int .u8 240, .int .u8 240, .int .u8 240, .int .u8 240, .int .u8 240, .int .u8 240, .int .u8 240, .int .u8 240, .int .u8 240, .int .u8 240, .int .u8 240, .int .u8 240, .int .u8 240, .int .u8 240, .int .u8 240, .int .u8 240, .int .u8 240, .int .u8 240, .int .u8 240, .int .u8 240, .int .u8 240, .int .u8 240, .int .u8 240, .int .u8 240, .int .u8 240, .int .u8 240, .int .u8 240, .int .u8 240, .int .u8 240, .int .u8 240, .int .u8 240, .int .u8 240, .int .u8 240, .int .u8 240, .int .u8 241, .int .u8 241, .int .u8 241, .int .u8 241, .int .u8 241, .int .u8 241, .int .u8 241, .int .u8 241, .int .u8 241, .int .u8 241, .int .u8 241, .int .u8 241, .int .u8 241, .int .u8 241, .int .u8 241, .int .u8 241, .int .u8 241, .int .u8 241, .int .u8 241, .int .u8 241, .int .u8 241, .int .u8 241, .int .u8 241, .int .u8 241, .int .u8 241, .int .u8 241, .int .u8 241, .int .u8 241, .int .u8 241, .int .u8 241, .int .u8 241, .int .u8 241, .int .u8 241, .int .u8 241, .int .u8 241, .int .u8 241, .int .u8 241, .int .u8 241, .int .u8 241, .int .u8 241, .int .u8 241, .int .u8 241, .int .u8 241, .int .u8 241, .int .u8 241, .int .u8 241, .int .u8 241, .int .u8 241, .int .u8 241, .int .u8 241, .int .u8 241, .int .u8 241, .int .u8 241, .int .u8 241, .int .u8 241, .int .u8 241, .int .u8 241, .int .u8 241, .int .u8 241, .int .u8 241, .int .u8 241, .int .u8 241, .int .u8 241, .int .u8 241, .int .u8 241, .int .u8 241, .int .u8 2, .int .u8 2, .int .u8 2, .int .u8 2, .int .u8 2, .int .u8 2, .int .u8 2, .int .u8 2, .int .u8 2, .int .u8 2, .int .u8 2, .int .u8 2, .int .u8 2, .int .u8 2, .int .u8 2, .int .u8 2, .int .u8 2, .int .u8 2, .int .u8 2, .int .u8 2, .int .u8 2, .int .u8 2, .int .u8 2, .int .u8 2, .int .u8 2, .int .u8 2, .int .u8 2, .int .u8 2, .int .u8 2, .int .u8 2, .int .u8 19, .int .u8 3, .int .u8 3, .int .u8 3, .int .u8 3, .int .u8 3, .int .u8 3, .int .u8 3, .int .u8 3, .int .u8 3, .int .u8 3, .int .u8 3, .int .u8 3, .int .u8 35, .int .u8 3, .int .u8 3, .int .u8 52, .int .u8 4, .int .u8 4, .int .u8 4, .int .u8 68, .int .u8 241, .int .u8 241, .int .u8 241, .int .u8 241, .int .u8 241, .int .u8 241, .int .u8 241, .int .u8 241, .int .u8 241, .int .u8 241, .int .u8 241]
def glAccept : List AV := [.int .u8 128, .int .u8 191, .int .u8 160, .int .u8 191, .int .u8 128, .int .u8 159, .int .u8 144, .int .u8 191, .int .u8 128, .int .u8 143, .int .u8 0, .int .u8 0, .int .u8 0, .int .u8 0, .int .u8 0, .int .u8 0, .int .u8 0, .int .u8 0, .int .u8 0, .int .u8 0, .int .u8 0, .int .u8 0, .int .u8 0, .int .u8 0, .int .u8 0, .int .u8 0, .int .u8 0, .int .u8 0, .int .u8 0, .int .u8 0, .int .u8 0, .int .u8 0]
def gl : List Blk := [.dead, .cells glFirst .ro, .cells glAccept .ro]
/-- Other variables that stay. -/
def glExtra : List (Nat × Blk) := []
theorem glExtra_lt : ∀ p ∈ glExtra, p.1 < 3 := fun p hp => by cases hp
theorem gl_ok : gl.all glBlk = true := by kernel_rfl
theorem gl_len : gl.length = Tryz.prog.globals.size := by kernel_rfl
/-- Does it come to 'true'? -/
def retB : Option (Ev.End × Heap) → Bool
  | some (.ret (.bool b), _) => b
  | _ => false
theorem retB_some {x : Option (Ev.End × Heap)} (h : retB x = true) : ∃ H, x = some (.ret (.bool true), H) := by
  unfold retB at h
  split at h
  · subst h; exact ⟨_, rfl⟩
  · cases h
theorem callOK (n B : Nat) : CallOK Tryz.prog B (evFn bt.get n) := fn_sound table (drawn_all _) n
end Go.Ev
/- Bytes to runes: what it is, plainly; what utf8.DecodeRune comes to. -/
namespace Go.Ev
open Go
/-- The tables of unicode/utf8 lie there. -/
def GlH (H : Heap) : Prop := 3 ≤ H.size ∧ H.get 1 = .cells glFirst .ro ∧ H.get 2 = .cells glAccept .ro ∧ ∀ p ∈ glExtra, H.get p.1 = p.2
theorem GlH.ext {n0 : Nat} {H H' : Heap} (h : GlH H) (hn : 3 ≤ n0) (e : Ext n0 H H') : GlH H' := ⟨Nat.le_trans h.1 e.1, by rw [e.2 1 (by omega), h.2.1], by rw [e.2 2 (by omega), h.2.2.1], fun p hp => by rw [e.2 p.1 (Nat.lt_of_lt_of_le (glExtra_lt p hp) hn), h.2.2.2 p hp]⟩
def longN (n : Nat) : Nat := if n < 128 then 1 else if 194 ≤ n ∧ n ≤ 223 then 2 else if 224 ≤ n ∧ n ≤ 239 then 3 else if 240 ≤ n ∧ n ≤ 244 then 4 else 0
def longB (c : UInt8) : Nat := longN c.toNat
def secLo (n : Nat) : Nat := if n = 224 then 160 else if n = 240 then 144 else 128
def secHi (n : Nat) : Nat := if n = 237 then 159 else if n = 244 then 143 else 191
/-- May a byte stand behind those that are held? -/
def okB (held : List UInt8) (c : UInt8) : Bool := match held with
  | [] => decide (longB c ≠ 0)
  | [h] => decide (secLo h.toNat ≤ c.toNat ∧ c.toNat ≤ secHi h.toNat)
  | _ => decide (128 ≤ c.toNat ∧ c.toNat ≤ 191)
/-- The rune of a whole sequence. -/
def decR : List UInt8 → Nat
  | [a] => a.toNat
  | [a, b] => (a.toNat % 32) * 64 + b.toNat % 64
  | [a, b, c] => (a.toNat % 16) * 4096 + (b.toNat % 64) * 64 + c.toNat % 64
  | [a, b, c, d] => (a.toNat % 8) * 262144 + (b.toNat % 64) * 4096 + (c.toNat % 64) * 64 + d.toNat % 64
  | _ => 65533
/-- Whole sequences. -/
def whole : List UInt8 → Bool
  | [a] => longB a == 1
  | [a, b] => longB a == 2 && okB [a] b
  | [a, b, c] => longB a == 3 && okB [a] b && okB [a, b] c
  | [a, b, c, d] => longB a == 4 && okB [a] b && okB [a, b] c && okB [a, b, c] d
  | _ => false
def firstN (n : Nat) : Nat := if n < 128 then 240 else if n < 194 then 241 else if n < 224 then 2 else if n = 224 then 19 else if n = 237 then 35 else if n < 240 then 3 else if n = 240 then 52 else if n < 244 then 4 else if n = 244 then 68 else 241
theorem first_all : ((List.range 256).all fun n => match glFirst[n]? with | some v => AV.beq v (.int .u8 (firstN n)) | none => false) = true := by kernel_rfl
theorem first_at (c : UInt8) : glFirst[c.toNat]? = some (.int .u8 (firstN c.toNat)) := by
  have h := List.all_eq_true.1 first_all c.toNat (List.mem_range.2 c.toNat_lt)
  split at h
  · rename_i v hv; rw [hv, AV.beq_eq _ _ h]
  · cases h
def u8and (n m : Int) : Int := IntKind.u8.wrap (BitVec.ofInt 8 n &&& BitVec.ofInt 8 m).toNat
theorem intBin_u8and {n m : Int} : intBin .and .u8 n m = some (.int .u8 (u8and n m)) := rfl
theorem u8and_all : ((List.range 256).all fun n => decide (u8and n 31 = (n % 32 : Nat)) && decide (u8and n 15 = (n % 16 : Nat)) && decide (u8and n 7 = (n % 8 : Nat)) && decide (u8and n 63 = (n % 64 : Nat))) = true := by kernel_rfl
theorem u8and_at (c : UInt8) : u8and c.toNat 31 = (c.toNat % 32 : Nat) ∧ u8and c.toNat 15 = (c.toNat % 16 : Nat) ∧ u8and c.toNat 7 = (c.toNat % 8 : Nat) ∧ u8and c.toNat 63 = (c.toNat % 64 : Nat) := by
  have h := List.all_eq_true.1 u8and_all c.toNat (List.mem_range.2 c.toNat_lt)
  simp only [Bool.and_eq_true, decide_eq_true_eq] at h
  exact ⟨h.1.1.1, h.1.1.2, h.1.2, h.2⟩
theorem wi32 {x : Int} (h0 : -2147483648 ≤ x) (h1 : x ≤ 2147483647) : IntKind.i32.wrap x = x := by rw [IntKind.wrap_i32]; omega
theorem shl_i32 {a : Nat} {k : Nat} (hk : k ≤ 32) (h : a * 2 ^ k ≤ 2147483647) : shiftA .shl .i32 (a : Int) (k : Int) = some (.int .i32 ((a * 2 ^ k : Nat) : Int)) := by
  have e : min ((k : Int).toNat) IntKind.i32.bits = k := by simp only [Int.toNat_natCast]; exact Nat.min_eq_left hk
  simp only [shiftA, if_neg (show ¬((k : Int) < 0) by omega), e]
  have e2 : (a : Int) * 2 ^ k = ((a * 2 ^ k : Nat) : Int) := by rw [Int.natCast_mul, Int.natCast_pow]; rfl
  rw [e2]
  generalize a * 2 ^ k = z at h ⊢
  rw [wi32 (by omega) (by omega)]
theorem or_i32 {a b k : Nat} (hb : b < 2 ^ k) (h : 2 ^ k * a + b ≤ 2147483647) : intBin .or .i32 ((2 ^ k * a : Nat) : Int) (b : Int) = some (.int .i32 ((2 ^ k * a + b : Nat) : Int)) := by
  have e : (BitVec.ofInt 32 ((2 ^ k * a : Nat) : Int) ||| BitVec.ofInt 32 (b : Int)).toNat = 2 ^ k * a + b := by
    rw [BitVec.toNat_or, BitVec.ofInt_natCast, BitVec.ofInt_natCast, BitVec.toNat_ofNat, BitVec.toNat_ofNat, Nat.mod_eq_of_lt (by omega), Nat.mod_eq_of_lt (by omega), Nat.two_pow_add_eq_or_of_lt hb]
  show some (AV.int .i32 (IntKind.i32.wrap ((BitVec.ofInt 32 ((2 ^ k * a : Nat) : Int) ||| BitVec.ofInt 32 (b : Int)).toNat : Int))) = _
  rw [e, wi32 (by omega) (by omega)]
/- What utf8.DecodeRune comes to. -/
open Go.Ev renaming seqK_normal → zA, blockK_normal → zB, blockK_exit → zC
open Nat renaming reduceEqDiff → zD, reduceAdd → zE, reduceSub → zF, reduceMul → zG, reduceLeDiff → zH, reduceLT → zI
open Int renaming reduceToNat → zJ, reduceLT → zK, reduceLE → zL, reduceEq → zM, reduceAdd → zN, reduceSub → zO, reduceMul → zP
theorem longN_2 {n : Nat} (h : longN n = 2) : 194 ≤ n ∧ n ≤ 223 := by
  unfold longN at h
  repeat' split at h
  all_goals omega
theorem longN_3 {n : Nat} (h : longN n = 3) : 224 ≤ n ∧ n ≤ 239 := by
  unfold longN at h
  repeat' split at h
  all_goals omega
theorem longN_4 {n : Nat} (h : longN n = 4) : 240 ≤ n ∧ n ≤ 244 := by
  unfold longN at h
  repeat' split at h
  all_goals omega
theorem longN_1 {n : Nat} (h : longN n = 1) : n < 128 := by
  unfold longN at h
  repeat' split at h
  all_goals omega
theorem okB_1 {a b : UInt8} (h : okB [a] b = true) : secLo a.toNat ≤ b.toNat ∧ b.toNat ≤ secHi a.toNat := by simpa [okB] using h
theorem okB_2 {a b c : UInt8} (h : okB [a, b] c = true) : 128 ≤ c.toNat ∧ c.toNat ≤ 191 := by simpa [okB] using h
theorem okB_3 {a b c d : UInt8} (h : okB [a, b, c] d = true) : 128 ≤ d.toNat ∧ d.toNat ≤ 191 := by simpa [okB] using h
theorem shl6 {a : Nat} (h : a ≤ 2047) : shiftA .shl .i32 (a : Int) 6 = some (.int .i32 ((64 * a : Nat) : Int)) := by rw [Nat.mul_comm]; exact shl_i32 (k := 6) (by omega) (by omega)
theorem shl12 {a : Nat} (h : a ≤ 2047) : shiftA .shl .i32 (a : Int) 12 = some (.int .i32 ((4096 * a : Nat) : Int)) := by rw [Nat.mul_comm]; exact shl_i32 (k := 12) (by omega) (by omega)
theorem shl18 {a : Nat} (h : a ≤ 2047) : shiftA .shl .i32 (a : Int) 18 = some (.int .i32 ((262144 * a : Nat) : Int)) := by rw [Nat.mul_comm]; exact shl_i32 (k := 18) (by omega) (by omega)
theorem or6 {a b : Nat} (ha : a ≤ 262143) (hb : b < 64) : intBin .or .i32 ((64 * a : Nat) : Int) (b : Int) = some (.int .i32 ((64 * a + b : Nat) : Int)) := or_i32 (k := 6) hb (by omega)
theorem or12 {a b : Nat} (ha : a ≤ 262143) (hb : b < 4096) : intBin .or .i32 ((4096 * a : Nat) : Int) (b : Int) = some (.int .i32 ((4096 * a + b : Nat) : Int)) := or_i32 (k := 12) hb (by omega)
theorem or18 {a b : Nat} (ha : a ≤ 2047) (hb : b < 262144) : intBin .or .i32 ((262144 * a : Nat) : Int) (b : Int) = some (.int .i32 ((262144 * a + b : Nat) : Int)) := or_i32 (k := 18) hb (by omega)
theorem firstN_3 {n : Nat} (h : 224 ≤ n ∧ n ≤ 239) : ((firstN n : Nat) : Int) = if n = 224 then 19 else if n = 237 then 35 else 3 := by
  unfold firstN
  repeat' split
  all_goals first | omega | rfl
theorem firstN_4 {n : Nat} (h : 240 ≤ n ∧ n ≤ 244) : ((firstN n : Nat) : Int) = if n = 240 then 52 else if n = 244 then 68 else 4 := by
  unfold firstN
  repeat' split
  all_goals first | omega | rfl
theorem firstN_2 {n : Nat} (h : 194 ≤ n ∧ n ≤ 223) : ((firstN n : Nat) : Int) = 2 := by
  unfold firstN
  repeat' split
  all_goals first | omega | rfl
section
variable {o : CallF} (ho : OvOnly o)
include ho
theorem u_slow2 {a b : UInt8} {hb : Nat} {H : Heap} {Q : End → Heap → Prop} (hG : GlH H) (hg : H.get hb = .cells (byteCells [a, b]) .own) (hw : whole [a, b] = true) (h : ∀ H', Ext H.size H H' → Q (.ret (.tup [.int .i32 (decR [a, b]), .int .i64 2])) H') : wpf ⟨bt.get, o⟩ F_utf8_decodeRuneSlow [.osl 1 hb 0 2] H Q := by
  rw [fn_utf8_decodeRuneSlow (ho _ _ _ (by decide))]
  simp only [whole, Bool.and_eq_true, beq_iff_eq] at hw
  have ha := longN_2 hw.1
  have hb2 := okB_1 hw.2
  have hf := firstN_2 ha
  simp only [secLo, secHi, if_neg (show ¬ a.toNat = 224 by omega), if_neg (show ¬ a.toNat = 240 by omega), if_neg (show ¬ a.toNat = 237 by omega), if_neg (show ¬ a.toNat = 244 by omega)] at hb2
  have hlt : hb < H.size := Heap.lt_of_get (by rw [hg]; simp)
  have hn : ¬ ((b.toNat : Int) < 128) := by omega
  have hn2 : ¬ ((191 : Int) < (b.toNat : Int)) := by omega
  have e1 : shiftA .shr .u8 2 4 = some (.int .u8 0) := by rfl
  have e2 : u8and 2 7 = 2 := by rfl
  have e3 : IntKind.i64.wrap 2 = 2 := by rfl
  have ma := u8and_at a
  have mb := u8and_at b
  have w1 : IntKind.i32.wrap ((a.toNat % 32 : Nat) : Int) = ((a.toNat % 32 : Nat) : Int) := wi32 (by omega) (by omega)
  have w2 : IntKind.i32.wrap ((b.toNat % 64 : Nat) : Int) = ((b.toNat % 64 : Nat) : Int) := wi32 (by omega) (by omega)
  have a256 : (a.toNat : Int) < 256 := by have := a.toNat_lt; omega
  simp only [bd_utf8_decodeRuneSlow, go_sem, zA, zB, zC, reduceIte, zD, zE, zF, zG, zH, zI, reduceCtorEq, zJ, zK, zL, zM, zN, zO, zP, hg, a256, byteCells, List.map_cons, List.map_nil, first_at, hf, hG.2.1, hG.2.2.1, glAccept, e1, e2, e3, intBin_u8and, Heap.get_push_lt hlt, hn, hn2, ma, mb, w1, w2, Int.natCast_nonneg]
  simp only [go_sem, zA, zB, zC, reduceIte, zD, zE, zF, zG, zH, zI, reduceCtorEq, zJ, zK, zL, zM, zN, zO, zP, shl6 (show a.toNat % 32 ≤ 2047 by omega), or6 (show a.toNat % 32 ≤ 262143 by omega) (show b.toNat % 64 < 64 by omega)]
  have := h _ (Ext.push (x := .cells [.int .u8 128, .int .u8 191] .own) (Nat.le_refl _))
  rw [decR, Nat.mul_comm] at this
  exact this
theorem u_slow3 {a b c : UInt8} {hb : Nat} {H : Heap} {Q : End → Heap → Prop} (hG : GlH H) (hg : H.get hb = .cells (byteCells [a, b, c]) .own) (hw : whole [a, b, c] = true) (h : ∀ H', Ext H.size H H' → Q (.ret (.tup [.int .i32 (decR [a, b, c]), .int .i64 3])) H') : wpf ⟨bt.get, o⟩ F_utf8_decodeRuneSlow [.osl 1 hb 0 3] H Q := by
  rw [fn_utf8_decodeRuneSlow (ho _ _ _ (by decide))]
  simp only [whole, Bool.and_eq_true, beq_iff_eq] at hw
  obtain ⟨⟨hw1, hw2⟩, hw3⟩ := hw
  have ha := longN_3 hw1
  have hb2 := okB_1 hw2
  have hc2 := okB_2 hw3
  have hf := firstN_3 ha
  have hlt : hb < H.size := Heap.lt_of_get (by rw [hg]; simp)
  have hm : ¬ ((c.toNat : Int) < 128) := by omega
  have hm2 : ¬ ((191 : Int) < (c.toNat : Int)) := by omega
  have ma := u8and_at a
  have mb := u8and_at b
  have mc := u8and_at c
  have w1 : IntKind.i32.wrap ((a.toNat % 16 : Nat) : Int) = ((a.toNat % 16 : Nat) : Int) := wi32 (by omega) (by omega)
  have w2 : IntKind.i32.wrap ((b.toNat % 64 : Nat) : Int) = ((b.toNat % 64 : Nat) : Int) := wi32 (by omega) (by omega)
  have w3 : IntKind.i32.wrap ((c.toNat % 64 : Nat) : Int) = ((c.toNat % 64 : Nat) : Int) := wi32 (by omega) (by omega)
  have a256 : (a.toNat : Int) < 256 := by have := a.toNat_lt; omega
  have e3 : IntKind.i64.wrap 3 = 3 := by rfl
  have f2 : u8and 19 7 = 3 := by rfl
  have f3 : u8and 35 7 = 3 := by rfl
  have f4 : u8and 3 7 = 3 := by rfl
  have g2 : shiftA .shr .u8 19 4 = some (.int .u8 1) := by rfl
  have g3 : shiftA .shr .u8 35 4 = some (.int .u8 2) := by rfl
  have g4 : shiftA .shr .u8 3 4 = some (.int .u8 0) := by rfl
  have o1 : intBin .or .i32 ((4096 * (a.toNat % 16) : Nat) : Int) ((64 * (b.toNat % 64) : Nat) : Int) = some (.int .i32 ((64 * (64 * (a.toNat % 16) + b.toNat % 64) : Nat) : Int)) := by
    rw [or12 (by omega) (by omega)]; congr 3; omega
  have o2 := or6 (a := 64 * (a.toNat % 16) + b.toNat % 64) (b := c.toNat % 64) (by omega) (by omega)
  have hd : decR [a, b, c] = 64 * (64 * (a.toNat % 16) + b.toNat % 64) + c.toNat % 64 := by rw [decR]; omega
  rw [hd] at h
  by_cases h224 : a.toNat = 224
  · rw [if_pos h224] at hf
    have hn : ¬ ((b.toNat : Int) < 160) := by have l := hb2.1; rw [h224] at l; have l2 : 160 ≤ b.toNat := l; omega
    have hn2 : ¬ ((191 : Int) < (b.toNat : Int)) := by have l := hb2.2; rw [h224] at l; have l2 : b.toNat ≤ 191 := l; omega
    simp only [bd_utf8_decodeRuneSlow, go_sem, zA, zB, zC, reduceIte, zD, zE, zF, zG, zH, zI, reduceCtorEq, zJ, zK, zL, zM, zN, zO, zP, hg, a256, byteCells, List.map_cons, List.map_nil, first_at, hf, hG.2.1, hG.2.2.1, glAccept, e3, f2, g2, intBin_u8and, Heap.get_push_lt hlt, hn, hn2, hm, hm2, ma, mb, mc, w1, w2, w3]
    simp only [go_sem, zA, zB, zC, reduceIte, zD, zE, zF, zG, zH, zI, reduceCtorEq, zJ, zK, zL, zM, zN, zO, zP, shl12 (show a.toNat % 16 ≤ 2047 by omega), shl6 (show b.toNat % 64 ≤ 2047 by omega), o1, o2]
    exact h _ (Ext.push (Nat.le_refl _))
  · rw [if_neg h224] at hf
    by_cases h237 : a.toNat = 237
    · rw [if_pos h237] at hf
      have hn : ¬ ((b.toNat : Int) < 128) := by have l := hb2.1; rw [h237] at l; have l2 : 128 ≤ b.toNat := l; omega
      have hn2 : ¬ ((159 : Int) < (b.toNat : Int)) := by have l := hb2.2; rw [h237] at l; have l2 : b.toNat ≤ 159 := l; omega
      simp only [bd_utf8_decodeRuneSlow, go_sem, zA, zB, zC, reduceIte, zD, zE, zF, zG, zH, zI, reduceCtorEq, zJ, zK, zL, zM, zN, zO, zP, hg, a256, byteCells, List.map_cons, List.map_nil, first_at, hf, hG.2.1, hG.2.2.1, glAccept, e3, f3, g3, intBin_u8and, Heap.get_push_lt hlt, hn, hn2, hm, hm2, ma, mb, mc, w1, w2, w3]
      simp only [go_sem, zA, zB, zC, reduceIte, zD, zE, zF, zG, zH, zI, reduceCtorEq, zJ, zK, zL, zM, zN, zO, zP, shl12 (show a.toNat % 16 ≤ 2047 by omega), shl6 (show b.toNat % 64 ≤ 2047 by omega), o1, o2]
      exact h _ (Ext.push (Nat.le_refl _))
    · rw [if_neg h237] at hf
      have hn : ¬ ((b.toNat : Int) < 128) := by simp only [secLo, if_neg h224, if_neg (show ¬ a.toNat = 240 by omega)] at hb2; omega
      have hn2 : ¬ ((191 : Int) < (b.toNat : Int)) := by simp only [secHi, if_neg h237, if_neg (show ¬ a.toNat = 244 by omega)] at hb2; omega
      simp only [bd_utf8_decodeRuneSlow, go_sem, zA, zB, zC, reduceIte, zD, zE, zF, zG, zH, zI, reduceCtorEq, zJ, zK, zL, zM, zN, zO, zP, hg, a256, byteCells, List.map_cons, List.map_nil, first_at, hf, hG.2.1, hG.2.2.1, glAccept, e3, f4, g4, intBin_u8and, Heap.get_push_lt hlt, hn, hn2, hm, hm2, ma, mb, mc, w1, w2, w3]
      simp only [go_sem, zA, zB, zC, reduceIte, zD, zE, zF, zG, zH, zI, reduceCtorEq, zJ, zK, zL, zM, zN, zO, zP, shl12 (show a.toNat % 16 ≤ 2047 by omega), shl6 (show b.toNat % 64 ≤ 2047 by omega), o1, o2]
      exact h _ (Ext.push (Nat.le_refl _))
theorem u_slow4 {a b c d : UInt8} {hb : Nat} {H : Heap} {Q : End → Heap → Prop} (hG : GlH H) (hg : H.get hb = .cells (byteCells [a, b, c, d]) .own) (hw : whole [a, b, c, d] = true) (h : ∀ H', Ext H.size H H' → Q (.ret (.tup [.int .i32 (decR [a, b, c, d]), .int .i64 4])) H') : wpf ⟨bt.get, o⟩ F_utf8_decodeRuneSlow [.osl 1 hb 0 4] H Q := by
  rw [fn_utf8_decodeRuneSlow (ho _ _ _ (by decide))]
  simp only [whole, Bool.and_eq_true, beq_iff_eq] at hw
  obtain ⟨⟨⟨hw1, hw2⟩, hw3⟩, hw4⟩ := hw
  have ha := longN_4 hw1
  have hb2 := okB_1 hw2
  have hc2 := okB_2 hw3
  have hd2 := okB_3 hw4
  have hf := firstN_4 ha
  have hlt : hb < H.size := Heap.lt_of_get (by rw [hg]; simp)
  have hm : ¬ ((c.toNat : Int) < 128) := by omega
  have hm2 : ¬ ((191 : Int) < (c.toNat : Int)) := by omega
  have hk : ¬ ((d.toNat : Int) < 128) := by omega
  have hk2 : ¬ ((191 : Int) < (d.toNat : Int)) := by omega
  have ma := u8and_at a
  have mb := u8and_at b
  have mc := u8and_at c
  have md := u8and_at d
  have w1 : IntKind.i32.wrap ((a.toNat % 8 : Nat) : Int) = ((a.toNat % 8 : Nat) : Int) := wi32 (by omega) (by omega)
  have w2 : IntKind.i32.wrap ((b.toNat % 64 : Nat) : Int) = ((b.toNat % 64 : Nat) : Int) := wi32 (by omega) (by omega)
  have w3 : IntKind.i32.wrap ((c.toNat % 64 : Nat) : Int) = ((c.toNat % 64 : Nat) : Int) := wi32 (by omega) (by omega)
  have w4 : IntKind.i32.wrap ((d.toNat % 64 : Nat) : Int) = ((d.toNat % 64 : Nat) : Int) := wi32 (by omega) (by omega)
  have a256 : (a.toNat : Int) < 256 := by have := a.toNat_lt; omega
  have e3 : IntKind.i64.wrap 4 = 4 := by rfl
  have f2 : u8and 52 7 = 4 := by rfl
  have f3 : u8and 68 7 = 4 := by rfl
  have f4 : u8and 4 7 = 4 := by rfl
  have g2 : shiftA .shr .u8 52 4 = some (.int .u8 3) := by rfl
  have g3 : shiftA .shr .u8 68 4 = some (.int .u8 4) := by rfl
  have g4 : shiftA .shr .u8 4 4 = some (.int .u8 0) := by rfl
  have o1 : intBin .or .i32 ((262144 * (a.toNat % 8) : Nat) : Int) ((4096 * (b.toNat % 64) : Nat) : Int) = some (.int .i32 ((4096 * (64 * (a.toNat % 8) + b.toNat % 64) : Nat) : Int)) := by
    rw [or18 (by omega) (by omega)]; congr 3; omega
  have o2 : intBin .or .i32 ((4096 * (64 * (a.toNat % 8) + b.toNat % 64) : Nat) : Int) ((64 * (c.toNat % 64) : Nat) : Int) = some (.int .i32 ((64 * (64 * (64 * (a.toNat % 8) + b.toNat % 64) + c.toNat % 64) : Nat) : Int)) := by
    rw [or12 (by omega) (by omega)]; congr 3; omega
  have o3 := or6 (a := 64 * (64 * (a.toNat % 8) + b.toNat % 64) + c.toNat % 64) (b := d.toNat % 64) (by omega) (by omega)
  have hd : decR [a, b, c, d] = 64 * (64 * (64 * (a.toNat % 8) + b.toNat % 64) + c.toNat % 64) + d.toNat % 64 := by rw [decR]; omega
  rw [hd] at h
  by_cases h240 : a.toNat = 240
  · rw [if_pos h240] at hf
    have hn : ¬ ((b.toNat : Int) < 144) := by have l := hb2.1; rw [h240] at l; have l2 : 144 ≤ b.toNat := l; omega
    have hn2 : ¬ ((191 : Int) < (b.toNat : Int)) := by have l := hb2.2; rw [h240] at l; have l2 : b.toNat ≤ 191 := l; omega
    simp only [bd_utf8_decodeRuneSlow, go_sem, zA, zB, zC, reduceIte, zD, zE, zF, zG, zH, zI, reduceCtorEq, zJ, zK, zL, zM, zN, zO, zP, hg, a256, byteCells, List.map_cons, List.map_nil, first_at, hf, hG.2.1, hG.2.2.1, glAccept, e3, f2, g2, intBin_u8and, Heap.get_push_lt hlt, hn, hn2, hm, hm2, hk, hk2, ma, mb, mc, md, w1, w2, w3, w4]
    simp only [go_sem, zA, zB, zC, reduceIte, zD, zE, zF, zG, zH, zI, reduceCtorEq, zJ, zK, zL, zM, zN, zO, zP, shl18 (show a.toNat % 8 ≤ 2047 by omega), shl12 (show b.toNat % 64 ≤ 2047 by omega), shl6 (show c.toNat % 64 ≤ 2047 by omega), o1, o2, o3]
    exact h _ (Ext.push (Nat.le_refl _))
  · rw [if_neg h240] at hf
    by_cases h244 : a.toNat = 244
    · rw [if_pos h244] at hf
      have hn : ¬ ((b.toNat : Int) < 128) := by have l := hb2.1; rw [h244] at l; have l2 : 128 ≤ b.toNat := l; omega
      have hn2 : ¬ ((143 : Int) < (b.toNat : Int)) := by have l := hb2.2; rw [h244] at l; have l2 : b.toNat ≤ 143 := l; omega
      simp only [bd_utf8_decodeRuneSlow, go_sem, zA, zB, zC, reduceIte, zD, zE, zF, zG, zH, zI, reduceCtorEq, zJ, zK, zL, zM, zN, zO, zP, hg, a256, byteCells, List.map_cons, List.map_nil, first_at, hf, hG.2.1, hG.2.2.1, glAccept, e3, f3, g3, intBin_u8and, Heap.get_push_lt hlt, hn, hn2, hm, hm2, hk, hk2, ma, mb, mc, md, w1, w2, w3, w4]
      simp only [go_sem, zA, zB, zC, reduceIte, zD, zE, zF, zG, zH, zI, reduceCtorEq, zJ, zK, zL, zM, zN, zO, zP, shl18 (show a.toNat % 8 ≤ 2047 by omega), shl12 (show b.toNat % 64 ≤ 2047 by omega), shl6 (show c.toNat % 64 ≤ 2047 by omega), o1, o2, o3]
      exact h _ (Ext.push (Nat.le_refl _))
    · rw [if_neg h244] at hf
      have hn : ¬ ((b.toNat : Int) < 128) := by simp only [secLo, if_neg h240, if_neg (show ¬ a.toNat = 224 by omega)] at hb2; omega
      have hn2 : ¬ ((191 : Int) < (b.toNat : Int)) := by simp only [secHi, if_neg h244, if_neg (show ¬ a.toNat = 237 by omega)] at hb2; omega
      simp only [bd_utf8_decodeRuneSlow, go_sem, zA, zB, zC, reduceIte, zD, zE, zF, zG, zH, zI, reduceCtorEq, zJ, zK, zL, zM, zN, zO, zP, hg, a256, byteCells, List.map_cons, List.map_nil, first_at, hf, hG.2.1, hG.2.2.1, glAccept, e3, f4, g4, intBin_u8and, Heap.get_push_lt hlt, hn, hn2, hm, hm2, hk, hk2, ma, mb, mc, md, w1, w2, w3, w4]
      simp only [go_sem, zA, zB, zC, reduceIte, zD, zE, zF, zG, zH, zI, reduceCtorEq, zJ, zK, zL, zM, zN, zO, zP, shl18 (show a.toNat % 8 ≤ 2047 by omega), shl12 (show b.toNat % 64 ≤ 2047 by omega), shl6 (show c.toNat % 64 ≤ 2047 by omega), o1, o2, o3]
      exact h _ (Ext.push (Nat.le_refl _))
theorem u_DecodeRune {held : List UInt8} {hb : Nat} {H : Heap} {Q : End → Heap → Prop} (hG : GlH H) (hg : H.get hb = .cells (byteCells held) .own) (hw : whole held = true) (h : ∀ H', Ext H.size H H' → Q (.ret (.tup [.int .i32 (decR held), .int .i64 held.length])) H') : wpf ⟨bt.get, o⟩ F_utf8_DecodeRune [.osl 1 hb 0 held.length] H Q := by
  rw [fn_utf8_DecodeRune (ho _ _ _ (by decide))]
  have one : ∀ a : UInt8, IntKind.i32.wrap (a.toNat : Int) = (a.toNat : Int) := fun a => by have := a.toNat_lt; exact wi32 (by omega) (by omega)
  have big : ∀ a : UInt8, longB a ≠ 1 → ¬ ((a.toNat : Int) < 128) := by
    intro a h hlt
    exact h (by simp only [longB, longN, if_pos (show a.toNat < 128 by omega)])
  match held, hw, hg, h with
  | [a], hw, hg, h =>
    have := longN_1 (beq_iff_eq.1 hw)
    have ha : (a.toNat : Int) < 128 := by omega
    simp only [bd_utf8_DecodeRune, go_sem, zA, zB, zC, reduceIte, zD, zE, zF, zG, zH, zI, reduceCtorEq, zJ, zK, zL, zM, zN, zO, zP]
    rw [wpl_step]
    simp only [lb_utf8_DecodeRune_0, go_sem, zA, zB, zC, reduceIte, zD, zE, zF, zG, zH, zI, reduceCtorEq, zJ, zK, zL, zM, zN, zO, zP, hg, byteCells, List.map_cons, List.map_nil, ha, one]
    exact h _ Ext.refl
  | [a, b], hw, hg, h =>
    have ha := big a (by intro h; simp [whole, h] at hw)
    simp only [bd_utf8_DecodeRune, go_sem, zA, zB, zC, reduceIte, zD, zE, zF, zG, zH, zI, reduceCtorEq, zJ, zK, zL, zM, zN, zO, zP]
    rw [wpl_step]
    simp only [lb_utf8_DecodeRune_0, go_sem, zA, zB, zC, reduceIte, zD, zE, zF, zG, zH, zI, reduceCtorEq, zJ, zK, zL, zM, zN, zO, zP, hg, byteCells, List.map_cons, List.map_nil, ha]
    refine u_slow2 ho hG hg hw fun H' hx => ?_
    simp only [go_sem, zA, zB, zC, reduceIte, zD, zE, zF, zG, zH, zI, reduceCtorEq, zJ, zK, zL, zM, zN, zO, zP]
    exact h _ hx
  | [a, b, c], hw, hg, h =>
    have ha := big a (by intro h; simp [whole, h] at hw)
    simp only [bd_utf8_DecodeRune, go_sem, zA, zB, zC, reduceIte, zD, zE, zF, zG, zH, zI, reduceCtorEq, zJ, zK, zL, zM, zN, zO, zP]
    rw [wpl_step]
    simp only [lb_utf8_DecodeRune_0, go_sem, zA, zB, zC, reduceIte, zD, zE, zF, zG, zH, zI, reduceCtorEq, zJ, zK, zL, zM, zN, zO, zP, hg, byteCells, List.map_cons, List.map_nil, ha]
    refine u_slow3 ho hG hg hw fun H' hx => ?_
    simp only [go_sem, zA, zB, zC, reduceIte, zD, zE, zF, zG, zH, zI, reduceCtorEq, zJ, zK, zL, zM, zN, zO, zP]
    exact h _ hx
  | [a, b, c, d], hw, hg, h =>
    have ha := big a (by intro h; simp [whole, h] at hw)
    simp only [bd_utf8_DecodeRune, go_sem, zA, zB, zC, reduceIte, zD, zE, zF, zG, zH, zI, reduceCtorEq, zJ, zK, zL, zM, zN, zO, zP]
    rw [wpl_step]
    simp only [lb_utf8_DecodeRune_0, go_sem, zA, zB, zC, reduceIte, zD, zE, zF, zG, zH, zI, reduceCtorEq, zJ, zK, zL, zM, zN, zO, zP, hg, byteCells, List.map_cons, List.map_nil, ha]
    refine u_slow4 ho hG hg hw fun H' hx => ?_
    simp only [go_sem, zA, zB, zC, reduceIte, zD, zE, zF, zG, zH, zI, reduceCtorEq, zJ, zK, zL, zM, zN, zO, zP]
    exact h _ hx
end
/- What package decode comes to. -/
structure It where
  rune : Nat
  frm : Nat
  to : Nat
  bad : Bool
  more : Bool
  deriving DecidableEq
def It.cells (x : It) : List AV := [.int .i32 x.rune, .int .i64 x.frm, .int .i64 x.to, .bool x.bad, .bool x.more]
def icells (l : List It) : List AV := l.flatMap It.cells
theorem icells_app (l m : List It) : icells (l ++ m) = icells l ++ icells m := List.flatMap_append
theorem icells_len : ∀ l : List It, (icells l).length = l.length * 5
  | [] => rfl
  | w :: l => by rw [icells, List.flatMap_cons, List.length_append, ← icells, icells_len l, It.cells]; simp only [List.length_cons, List.length_nil]; omega
def seqR : CCode → CCode
  | .seq _ b => b
  | c => c
theorem longN_v3 {n : Nat} (h : 224 ≤ n) (k : n ≤ 239) : longN n = 3 := by
  unfold longN
  repeat' split
  all_goals omega
theorem longN_v4 {n : Nat} (h : 240 ≤ n) (k : n ≤ 244) : longN n = 4 := by
  unfold longN
  repeat' split
  all_goals omega
theorem longN_v0 {n : Nat} (h : (128 ≤ n ∧ n ≤ 193) ∨ 245 ≤ n) : longN n = 0 := by
  unfold longN
  repeat' split
  all_goals omega
section
variable {o : CallF} (ho : OvOnly o)
include ho
theorem d_long {c : UInt8} {H : Heap} {Q : End → Heap → Prop} (h : Q (.ret (.int .i64 (longB c : Int))) H) : wpf ⟨bt.get, o⟩ F_decode_long [.int .u8 c.toNat] H Q := by
  rw [fn_decode_long (ho _ _ _ (by decide))]
  have hb := c.toNat_lt
  have fin : ∀ k : Nat, longB c = k → Q (.ret (.int .i64 (k : Int))) H := fun k e => by rw [← e]; exact h
  by_cases h1 : c.toNat < 128
  · have h1' : (c.toNat : Int) < 128 := by omega
    simp only [bd_decode_long, go_sem, zA, zB, zC, reduceIte, zD, zE, zF, zG, zH, zI, reduceCtorEq, zJ, zK, zL, zM, zN, zO, zP, h1']
    exact fin 1 (by simp only [longB, longN, if_pos h1])
  · have h1' : ¬(c.toNat : Int) < 128 := by omega
    by_cases h2 : 194 ≤ c.toNat
    · have h2' : (194 : Int) ≤ c.toNat := by omega
      by_cases h3 : c.toNat ≤ 223
      · have h3' : (c.toNat : Int) ≤ 223 := by omega
        simp only [bd_decode_long, go_sem, zA, zB, zC, reduceIte, zD, zE, zF, zG, zH, zI, reduceCtorEq, zJ, zK, zL, zM, zN, zO, zP, h1', h2', h3']
        exact fin 2 (by simp only [longB, longN, if_neg h1, if_pos (And.intro h2 h3)])
      · have h3' : ¬(c.toNat : Int) ≤ 223 := by omega
        have h4' : (224 : Int) ≤ c.toNat := by omega
        by_cases h5 : c.toNat ≤ 239
        · have h5' : (c.toNat : Int) ≤ 239 := by omega
          simp only [bd_decode_long, go_sem, zA, zB, zC, reduceIte, zD, zE, zF, zG, zH, zI, reduceCtorEq, zJ, zK, zL, zM, zN, zO, zP, h1', h2', h3', h4', h5']
          exact fin 3 (longN_v3 (by omega) (by omega))
        · have h5' : ¬(c.toNat : Int) ≤ 239 := by omega
          have h6' : (240 : Int) ≤ c.toNat := by omega
          by_cases h7 : c.toNat ≤ 244
          · have h7' : (c.toNat : Int) ≤ 244 := by omega
            simp only [bd_decode_long, go_sem, zA, zB, zC, reduceIte, zD, zE, zF, zG, zH, zI, reduceCtorEq, zJ, zK, zL, zM, zN, zO, zP, h1', h2', h3', h4', h5', h6', h7']
            exact fin 4 (longN_v4 (by omega) (by omega))
          · have h7' : ¬(c.toNat : Int) ≤ 244 := by omega
            simp only [bd_decode_long, go_sem, zA, zB, zC, reduceIte, zD, zE, zF, zG, zH, zI, reduceCtorEq, zJ, zK, zL, zM, zN, zO, zP, h1', h2', h3', h4', h5', h6', h7']
            exact fin 0 (longN_v0 (by omega))
    · have h2' : ¬(194 : Int) ≤ c.toNat := by omega
      have h4' : ¬(224 : Int) ≤ c.toNat := by omega
      have h6' : ¬(240 : Int) ≤ c.toNat := by omega
      simp only [bd_decode_long, go_sem, zA, zB, zC, reduceIte, zD, zE, zF, zG, zH, zI, reduceCtorEq, zJ, zK, zL, zM, zN, zO, zP, h1', h2', h4', h6']
      exact fin 0 (longN_v0 (by omega))
theorem d_second {c : UInt8} {H : Heap} {Q : End → Heap → Prop} (h : Q (.ret (.tup [.int .u8 (secLo c.toNat : Int), .int .u8 (secHi c.toNat : Int)])) H) : wpf ⟨bt.get, o⟩ F_decode_second [.int .u8 c.toNat] H Q := by
  rw [fn_decode_second (ho _ _ _ (by decide))]
  have fin : ∀ k l : Nat, secLo c.toNat = k → secHi c.toNat = l → Q (.ret (.tup [.int .u8 (k : Int), .int .u8 (l : Int)])) H := fun k l e e' => by rw [← e, ← e']; exact h
  by_cases h1 : c.toNat = 224
  · have h1' : (c.toNat : Int) = 224 := by omega
    simp only [bd_decode_second, go_sem, zA, zB, zC, reduceIte, zD, zE, zF, zG, zH, zI, reduceCtorEq, zJ, zK, zL, zM, zN, zO, zP, h1']
    exact fin 160 191 (by rw [h1]; rfl) (by rw [h1]; rfl)
  · have h1' : ¬(c.toNat : Int) = 224 := by omega
    by_cases h2 : c.toNat = 237
    · have h2' : (c.toNat : Int) = 237 := by omega
      simp only [bd_decode_second, go_sem, zA, zB, zC, reduceIte, zD, zE, zF, zG, zH, zI, reduceCtorEq, zJ, zK, zL, zM, zN, zO, zP, h2']
      exact fin 128 159 (by rw [h2]; rfl) (by rw [h2]; rfl)
    · have h2' : ¬(c.toNat : Int) = 237 := by omega
      by_cases h3 : c.toNat = 240
      · have h3' : (c.toNat : Int) = 240 := by omega
        simp only [bd_decode_second, go_sem, zA, zB, zC, reduceIte, zD, zE, zF, zG, zH, zI, reduceCtorEq, zJ, zK, zL, zM, zN, zO, zP, h3']
        exact fin 144 191 (by rw [h3]; rfl) (by rw [h3]; rfl)
      · have h3' : ¬(c.toNat : Int) = 240 := by omega
        by_cases h4 : c.toNat = 244
        · have h4' : (c.toNat : Int) = 244 := by omega
          simp only [bd_decode_second, go_sem, zA, zB, zC, reduceIte, zD, zE, zF, zG, zH, zI, reduceCtorEq, zJ, zK, zL, zM, zN, zO, zP, h4']
          exact fin 128 143 (by rw [h4]; rfl) (by rw [h4]; rfl)
        · have h4' : ¬(c.toNat : Int) = 244 := by omega
          simp only [bd_decode_second, go_sem, zA, zB, zC, reduceIte, zD, zE, zF, zG, zH, zI, reduceCtorEq, zJ, zK, zL, zM, zN, zO, zP, h1', h2', h3', h4']
          exact fin 128 191 (by simp only [secLo, if_neg h1, if_neg h3]) (by simp only [secHi, if_neg h2, if_neg h4])
omit ho in
theorem d_tell2 {b xb : Nat} {H : Heap} {Q : End → Heap → Prop} {hv ov : AV} {at_ : Nat} {cl bad more : Bool} {out : List It} {x : It} {t} {z : AV}
    (hg : H.get b = .cells [hv, .int .i64 at_, .bool cl, ov] .own) (hx : H.get xb = .cells x.cells .own) (hbx : b + 1 ≤ xb) (hS : Sl (b + 1) H 5 (icells out) out.length ov) (hsep : ∀ s o n, ov ≠ .osl s xb o n) (hl : out.length ≤ 1000000)
    (h : ∀ H' ov', Fr b ov H H' → H'.get b = .cells [.nils, .int .i64 x.to, .bool cl, ov'] .own → Sl (b + 1) H' 5 (icells (out ++ [x])) (out ++ [x]).length ov' → Q (.ret (.tup [])) H') :
    wpc ⟨bt.get, o⟩ (seqR (seqR bd_decode_Dec_tell)) { p := [(0, .ptr b 0), (1, .bool bad), (2, .bool more), (6, .ptr xb 0), (25, z)], t := t, H := H, d := [], u := .norm } (finK ⟨bt.get, o⟩ [] Q) := by
  have hlt : b < H.size := Heap.lt_of_get (by rw [hg]; simp)
  have hltx : xb < H.size := Heap.lt_of_get (by rw [hx]; simp)
  simp only [bd_decode_Dec_tell, seqR, go_sem, zA, zB, zC, reduceIte, zD, zE, zF, zG, zH, zI, reduceCtorEq, zJ, zK, zL, zM, zN, zO, zP, hg, hx, It.cells, Heap.get_push_lt hlt, Heap.get_push_lt hltx]
  obtain ⟨ob, H', ea, hx1, hsl⟩ := append_spec (bytes := 32) (ys := x.cells) (k := 1) (Sl.push (x := .cells x.cells .own) hS) (by rw [Heap.size_push]; omega) (by omega) rfl (by omega) (by omega)
  have fx := append_frame (by omega) ea hS.form (c := xb) (by rw [Heap.size_push]; omega) hsep
  rw [Heap.get_push_lt hltx, hx] at fx
  have ea0 := ea
  simp only [It.cells] at ea fx
  have gb : H'.get b = .cells [hv, .int .i64 at_, .bool cl, ov] .own := by rw [hx1.2 b (by omega), Heap.get_push_lt hlt, hg]
  have hb' : b < H'.size := Heap.lt_of_get (by rw [gb]; simp)
  simp only [ea, go_sem, zA, zB, zC, reduceIte, zD, zE, zF, zG, zH, zI, reduceCtorEq, zJ, zK, zL, zM, zN, zO, zP, gb, Heap.get_set_ne (show xb ≠ b by omega), fx, Heap.get_set_self hb']
  refine h _ _ ?_ (Heap.get_set_self hb') ?_
  · refine ⟨?_, fun c h1 h2 h3 => ?_⟩
    · rw [Heap.size_set]; have := hx1.1; rw [Heap.size_push] at this; omega
    · rw [Heap.get_set_ne h2, append_frame (by omega) ea0 hS.form (c := c) (by rw [Heap.size_push]; omega) h3, Heap.get_push_lt h1]
  · rw [icells_app, List.length_append]
    have : icells [x] = x.cells := by simp [icells]
    rw [this]
    exact hsl.set (by omega)
theorem d_tell {b hb : Nat} {H : Heap} {Q : End → Heap → Prop} {hv ov : AV} {at_ : Nat} {cl bad more : Bool} {out : List It} {held : List UInt8} (hG : GlH H) (hb3 : 3 ≤ b)
    (hg : H.get b = .cells [hv, .int .i64 at_, .bool cl, ov] .own) (hlen : lenI hv = some (held.length : Int)) (hat : at_ + held.length ≤ 1000000) (hS : Sl (b + 1) H 5 (icells out) out.length ov) (hl : out.length ≤ 1000000)
    (hgood : bad = false → hv = .osl 1 hb 0 held.length ∧ H.get hb = .cells (byteCells held) .own ∧ whole held = true)
    (h : ∀ H' ov', Fr b ov H H' → H'.get b = .cells [.nils, .int .i64 ((at_ + held.length : Nat) : Int), .bool cl, ov'] .own → Sl (b + 1) H' 5 (icells (out ++ [It.mk (if bad then 65533 else decR held) at_ (at_ + held.length) bad more])) (out ++ [It.mk (if bad then 65533 else decR held) at_ (at_ + held.length) bad more]).length ov' → Q (.ret (.tup [])) H') :
    wpf ⟨bt.get, o⟩ F_decode_Dec_tell [.ptr b 0, .bool bad, .bool more] H Q := by
  rw [fn_decode_Dec_tell (ho _ _ _ (by decide))]
  have hlt : b < H.size := Heap.lt_of_get (by rw [hg]; simp)
  have hne : ∀ s o n, ov ≠ .osl s H.size o n := by
    intro s o n e
    rcases hS with ⟨h1, _⟩ | ⟨ob, h1, h2, h3, h4, h5⟩
    · rw [h1] at e; cases e
    · rw [h1] at e; injection e with _ e1 _ _
      have := Heap.lt_of_get (H := H) (b := ob) (by rw [h3]; simp)
      omega
  have hSp : ∀ x, Sl (b + 1) (H.push x) 5 (icells out) out.length ov := fun x => hS.push
  simp only [bd_decode_Dec_tell, go_sem, zA, zB, zC, reduceIte, zD, zE, zF, zG, zH, zI, reduceCtorEq, zJ, zK, zL, zM, zN, zO, zP, hg, hlen, Heap.get_push_lt hlt, wnat (show at_ + held.length ≤ 1000000000 by omega)]
  cases bad
  · obtain ⟨rfl, hgh, hw⟩ := hgood rfl
    simp only [go_sem, zA, zB, zC, reduceIte, zD, zE, zF, zG, zH, zI, reduceCtorEq, zJ, zK, zL, zM, zN, zO, zP, Heap.get_push_lt hlt, hg]
    refine u_DecodeRune ho (hG.ext (Nat.le_refl _) (Ext.push (by omega))) (by rw [Heap.get_push_lt (Heap.lt_of_get (by rw [hgh]; simp)), hgh]) hw fun H2 hx2 => ?_
    have g2 := hx2.2 H.size (by rw [Heap.size_push]; omega)
    have g3 := hx2.2 b (by rw [Heap.size_push]; omega)
    rw [Heap.get_push_self] at g2
    rw [Heap.get_push_lt hlt, hg] at g3
    have l2 : H.size < H2.size := Heap.lt_of_get (by rw [g2]; simp)
    simp only [go_sem, zB, zC, reduceIte, zD, zE, zF, zG, zH, zI, reduceCtorEq, zJ, zK, zL, zM, zN, zO, zP, g2]
    refine d_tell2 (x := ⟨decR held, at_, at_ + held.length, false, more⟩) (out := out) (by rw [Heap.get_set_ne (by omega), g3]) (Heap.get_set_self l2) (by omega) ?_ hne hl fun H' ov' k1 k2 k3 => h H' ov' ?_ k2 k3
    · refine ((hSp _).ext hx2).frame fun ob _ hg1 hv1 => Heap.get_set_ne fun e => ?_
      exact hne 5 0 out.length (by rw [hv1, e])
    · exact Fr.pre (((Ext.push (Nat.le_refl _)).trans (hx2.le (by rw [Heap.size_push]; omega))).trans (Ext.set (Nat.le_refl _))) k1
  · simp only [go_sem, zB, zC, reduceIte, zD, zE, zF, zG, zH, zI, reduceCtorEq, zJ, zK, zL, zM, zN, zO, zP]
    refine d_tell2 (x := ⟨65533, at_, at_ + held.length, true, more⟩) (out := out) (by rw [Heap.get_push_lt hlt, hg]) Heap.get_push_self (by omega) (hSp _) hne hl fun H' ov' k1 k2 k3 => h H' ov' (Fr.pre (Ext.push (Nat.le_refl _)) k1) k2 k3
end
end Go.Ev
