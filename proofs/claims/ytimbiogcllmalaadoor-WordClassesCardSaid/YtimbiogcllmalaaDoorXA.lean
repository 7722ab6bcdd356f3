/- Several texts of this claim, joined. -/
import Derived.Test.YtimbiogcllmalaaDoorWCall
import Derived.IntWalk
import Derived.Test.YtimbiogcllmalaaDoorG

/- What the functions of package word come to: bytes, runs, ends of expressions. -/
namespace Go.Ev
open Go
set_option linter.unusedSimpArgs false
set_option linter.unusedVariables false

/-- Calls whose answer is known: of one function alone. -/
def OvOnly (o : CallF) : Prop := ∀ f l H, f ≠ F_gobolaw12_told → o f l H = none

theorem wi64 {x : Int} (h0 : -9223372036854775808 ≤ x) (h1 : x ≤ 9223372036854775807) : IntKind.i64.wrap x = x := IntWalk.i64_in x ⟨h0, h1⟩

theorem wnat {a b : Nat} (h : a + b ≤ 1000000000) : IntKind.i64.wrap ((a : Int) + (b : Int)) = ((a + b : Nat) : Int) := by
  rw [wi64 (by omega) (by omega)]; rfl
def letterB (b : UInt8) : Bool := decide (97 ≤ b.toNat) && decide (b.toNat ≤ 122)
def digitB (b : UInt8) : Bool := decide (48 ≤ b.toNat) && decide (b.toNat ≤ 57)
def notNL (b : UInt8) : Bool := !decide (b.toNat = 10)
def ldB (b : UInt8) : Bool := letterB b || digitB b

section
variable {o : CallF} (ho : OvOnly o)
include ho

theorem w_letter {b : UInt8} {H : Heap} {Q : End → Heap → Prop} (h : Q (.ret (.bool (letterB b))) H) : wpf ⟨bt.get, o⟩ F_word_letter [.int .u8 b.toNat] H Q := by
  rw [fn_word_letter (ho _ _ _ (by decide))]
  by_cases h1 : 97 ≤ b.toNat
  · have h1' : (97 : Int) ≤ b.toNat := by omega
    by_cases h2 : b.toNat ≤ 122
    · have h2' : (b.toNat : Int) ≤ 122 := by omega
      simp only [bd_word_letter, go_sem, seqK_normal, blockK_normal, blockK_exit, reduceIte, Nat.reduceEqDiff, Nat.reduceAdd, Nat.reduceSub, Nat.reduceMul, Nat.reduceLeDiff, Nat.reduceLT, reduceCtorEq, Int.reduceToNat, Int.reduceLT, Int.reduceLE, Int.reduceEq, Int.reduceAdd, Int.reduceSub, Int.reduceMul, h1', h2']
      simpa only [letterB, h1, h2, go_sem, seqK_normal, blockK_normal, blockK_exit, reduceIte, Nat.reduceEqDiff, Nat.reduceAdd, Nat.reduceSub, Nat.reduceMul, Nat.reduceLeDiff, Nat.reduceLT, reduceCtorEq, Int.reduceToNat, Int.reduceLT, Int.reduceLE, Int.reduceEq, Int.reduceAdd, Int.reduceSub, Int.reduceMul] using h
    · have h2' : ¬(b.toNat : Int) ≤ 122 := by omega
      simp only [bd_word_letter, go_sem, seqK_normal, blockK_normal, blockK_exit, reduceIte, Nat.reduceEqDiff, Nat.reduceAdd, Nat.reduceSub, Nat.reduceMul, Nat.reduceLeDiff, Nat.reduceLT, reduceCtorEq, Int.reduceToNat, Int.reduceLT, Int.reduceLE, Int.reduceEq, Int.reduceAdd, Int.reduceSub, Int.reduceMul, h1', h2']
      simpa only [letterB, h1, h2, go_sem, seqK_normal, blockK_normal, blockK_exit, reduceIte, Nat.reduceEqDiff, Nat.reduceAdd, Nat.reduceSub, Nat.reduceMul, Nat.reduceLeDiff, Nat.reduceLT, reduceCtorEq, Int.reduceToNat, Int.reduceLT, Int.reduceLE, Int.reduceEq, Int.reduceAdd, Int.reduceSub, Int.reduceMul] using h
  · have h1' : ¬(97 : Int) ≤ b.toNat := by omega
    simp only [bd_word_letter, go_sem, seqK_normal, blockK_normal, blockK_exit, reduceIte, Nat.reduceEqDiff, Nat.reduceAdd, Nat.reduceSub, Nat.reduceMul, Nat.reduceLeDiff, Nat.reduceLT, reduceCtorEq, Int.reduceToNat, Int.reduceLT, Int.reduceLE, Int.reduceEq, Int.reduceAdd, Int.reduceSub, Int.reduceMul, h1']
    simpa only [letterB, h1, go_sem, seqK_normal, blockK_normal, blockK_exit, reduceIte, Nat.reduceEqDiff, Nat.reduceAdd, Nat.reduceSub, Nat.reduceMul, Nat.reduceLeDiff, Nat.reduceLT, reduceCtorEq, Int.reduceToNat, Int.reduceLT, Int.reduceLE, Int.reduceEq, Int.reduceAdd, Int.reduceSub, Int.reduceMul, Bool.false_and] using h
theorem w_digit {b : UInt8} {H : Heap} {Q : End → Heap → Prop} (h : Q (.ret (.bool (digitB b))) H) : wpf ⟨bt.get, o⟩ F_word_digit [.int .u8 b.toNat] H Q := by
  rw [fn_word_digit (ho _ _ _ (by decide))]
  by_cases h1 : 48 ≤ b.toNat
  · have h1' : (48 : Int) ≤ b.toNat := by omega
    by_cases h2 : b.toNat ≤ 57
    · have h2' : (b.toNat : Int) ≤ 57 := by omega
      simp only [bd_word_digit, go_sem, seqK_normal, blockK_normal, blockK_exit, reduceIte, Nat.reduceEqDiff, Nat.reduceAdd, Nat.reduceSub, Nat.reduceMul, Nat.reduceLeDiff, Nat.reduceLT, reduceCtorEq, Int.reduceToNat, Int.reduceLT, Int.reduceLE, Int.reduceEq, Int.reduceAdd, Int.reduceSub, Int.reduceMul, h1', h2']
      simpa only [digitB, h1, h2, go_sem, seqK_normal, blockK_normal, blockK_exit, reduceIte, Nat.reduceEqDiff, Nat.reduceAdd, Nat.reduceSub, Nat.reduceMul, Nat.reduceLeDiff, Nat.reduceLT, reduceCtorEq, Int.reduceToNat, Int.reduceLT, Int.reduceLE, Int.reduceEq, Int.reduceAdd, Int.reduceSub, Int.reduceMul] using h
    · have h2' : ¬(b.toNat : Int) ≤ 57 := by omega
      simp only [bd_word_digit, go_sem, seqK_normal, blockK_normal, blockK_exit, reduceIte, Nat.reduceEqDiff, Nat.reduceAdd, Nat.reduceSub, Nat.reduceMul, Nat.reduceLeDiff, Nat.reduceLT, reduceCtorEq, Int.reduceToNat, Int.reduceLT, Int.reduceLE, Int.reduceEq, Int.reduceAdd, Int.reduceSub, Int.reduceMul, h1', h2']
      simpa only [digitB, h1, h2, go_sem, seqK_normal, blockK_normal, blockK_exit, reduceIte, Nat.reduceEqDiff, Nat.reduceAdd, Nat.reduceSub, Nat.reduceMul, Nat.reduceLeDiff, Nat.reduceLT, reduceCtorEq, Int.reduceToNat, Int.reduceLT, Int.reduceLE, Int.reduceEq, Int.reduceAdd, Int.reduceSub, Int.reduceMul] using h
  · have h1' : ¬(48 : Int) ≤ b.toNat := by omega
    simp only [bd_word_digit, go_sem, seqK_normal, blockK_normal, blockK_exit, reduceIte, Nat.reduceEqDiff, Nat.reduceAdd, Nat.reduceSub, Nat.reduceMul, Nat.reduceLeDiff, Nat.reduceLT, reduceCtorEq, Int.reduceToNat, Int.reduceLT, Int.reduceLE, Int.reduceEq, Int.reduceAdd, Int.reduceSub, Int.reduceMul, h1']
    simpa only [digitB, h1, go_sem, seqK_normal, blockK_normal, blockK_exit, reduceIte, Nat.reduceEqDiff, Nat.reduceAdd, Nat.reduceSub, Nat.reduceMul, Nat.reduceLeDiff, Nat.reduceLT, reduceCtorEq, Int.reduceToNat, Int.reduceLT, Int.reduceLE, Int.reduceEq, Int.reduceAdd, Int.reduceSub, Int.reduceMul, Bool.false_and] using h
theorem w_words_1 {b : UInt8} {H : Heap} {Q : End → Heap → Prop} (h : Q (.ret (.bool (notNL b))) H) : wpf ⟨bt.get, o⟩ F_word_words_1 [.int .u8 b.toNat] H Q := by
  rw [fn_word_words_1 (ho _ _ _ (by decide))]
  have e : decide ((b.toNat : Int) = 10) = decide (b.toNat = 10) := by
    by_cases h1 : b.toNat = 10
    · simp [h1]
    · have : ¬(b.toNat : Int) = 10 := by omega
      simp [h1, this]
  simp only [bd_word_words_1, go_sem, seqK_normal, blockK_normal, blockK_exit, reduceIte, Nat.reduceEqDiff, Nat.reduceAdd, Nat.reduceSub, Nat.reduceMul, Nat.reduceLeDiff, Nat.reduceLT, reduceCtorEq, Int.reduceToNat, Int.reduceLT, Int.reduceLE, Int.reduceEq, Int.reduceAdd, Int.reduceSub, Int.reduceMul, e]
  exact h
theorem w_words_2 {b : UInt8} {H : Heap} {Q : End → Heap → Prop} (h : Q (.ret (.bool (ldB b))) H) : wpf ⟨bt.get, o⟩ F_word_words_2 [.int .u8 b.toNat] H Q := by
  rw [fn_word_words_2 (ho _ _ _ (by decide))]
  simp only [bd_word_words_2, go_sem, seqK_normal, blockK_normal, blockK_exit, reduceIte, Nat.reduceEqDiff, Nat.reduceAdd, Nat.reduceSub, Nat.reduceMul, Nat.reduceLeDiff, Nat.reduceLT, reduceCtorEq, Int.reduceToNat, Int.reduceLT, Int.reduceLE, Int.reduceEq, Int.reduceAdd, Int.reduceSub, Int.reduceMul]
  refine w_letter ho ?_
  simp only [go_sem, seqK_normal, blockK_normal, blockK_exit, reduceIte, Nat.reduceEqDiff, Nat.reduceAdd, Nat.reduceSub, Nat.reduceMul, Nat.reduceLeDiff, Nat.reduceLT, reduceCtorEq, Int.reduceToNat, Int.reduceLT, Int.reduceLE, Int.reduceEq, Int.reduceAdd, Int.reduceSub, Int.reduceMul]
  cases hl : letterB b
  · simp only [go_sem, seqK_normal, blockK_normal, blockK_exit, reduceIte, Nat.reduceEqDiff, Nat.reduceAdd, Nat.reduceSub, Nat.reduceMul, Nat.reduceLeDiff, Nat.reduceLT, reduceCtorEq, Int.reduceToNat, Int.reduceLT, Int.reduceLE, Int.reduceEq, Int.reduceAdd, Int.reduceSub, Int.reduceMul]
    refine w_digit ho ?_
    simp only [go_sem, seqK_normal, blockK_normal, blockK_exit, reduceIte, Nat.reduceEqDiff, Nat.reduceAdd, Nat.reduceSub, Nat.reduceMul, Nat.reduceLeDiff, Nat.reduceLT, reduceCtorEq, Int.reduceToNat, Int.reduceLT, Int.reduceLE, Int.reduceEq, Int.reduceAdd, Int.reduceSub, Int.reduceMul]
    simpa only [ldB, hl, Bool.false_or] using h
  · simp only [go_sem, seqK_normal, blockK_normal, blockK_exit, reduceIte, Nat.reduceEqDiff, Nat.reduceAdd, Nat.reduceSub, Nat.reduceMul, Nat.reduceLeDiff, Nat.reduceLT, reduceCtorEq, Int.reduceToNat, Int.reduceLT, Int.reduceLE, Int.reduceEq, Int.reduceAdd, Int.reduceSub, Int.reduceMul]
    simpa only [ldB, hl, Bool.true_or] using h

/-- How many bytes at the head are of a kind. -/
def runL (p : UInt8 → Bool) : List UInt8 → Nat
  | [] => 0
  | c :: r => if p c then runL p r + 1 else 0

/-- A function value that tells a byte's kind. -/
def Tells (o : CallF) (f : FuncId) (p : UInt8 → Bool) : Prop := ∀ (b : UInt8) (H : Heap) (Q : End → Heap → Prop), Q (.ret (.bool (p b))) H → wpf ⟨bt.get, o⟩ f [.int .u8 b.toNat] H Q

omit ho in
theorem at_drop {s : List UInt8} {at_ : Nat} {c : UInt8} {r : List UInt8} (h : s.drop at_ = c :: r) : s[at_]? = some c ∧ at_ < s.length ∧ s.drop (at_ + 1) = r := by
  have h0 : s[at_]? = some c := by
    have := congrArg (fun l => l[0]?) h
    simpa using this
  refine ⟨h0, (List.getElem?_eq_some_iff.1 h0).1, ?_⟩
  rw [← List.drop_drop, h]; rfl
omit ho in
theorem at_nil {s : List UInt8} {at_ : Nat} (h : s.drop at_ = []) : s.length ≤ at_ := List.drop_eq_nil_iff.1 h

omit ho in
theorem w_run_loop {s : List UInt8} (hs : s.length ≤ 1000000) {f : FuncId} {p : UInt8 → Bool} (hp : Tells o f p) {H : Heap} {Q : Ctl → St → Prop} : ∀ (r : List UInt8) (at_ : Nat), s.drop at_ = r → at_ ≤ s.length → (∀ t, Q (.exit 0) { p := [(0, .str s), (1, .int .i64 ((at_ + runL p r : Nat) : Int)), (2, .fn f []), (17, .bool false)], t := t, H := H, d := [], u := .norm }) → wpl ⟨bt.get, o⟩ [0, 1, 2] lb_word_run_0 { p := [(0, .str s), (1, .int .i64 (at_ : Int)), (2, .fn f [])], t := [], H := H, d := [], u := .norm } Q
  | [], at_, hr, ha, hQ => by
    have hl := at_nil hr
    rw [wpl_step]
    have h1 : ¬((at_ : Int) < (s.length : Int)) := by omega
    simp only [lb_word_run_0, go_sem, seqK_normal, blockK_normal, blockK_exit, reduceIte, Nat.reduceEqDiff, Nat.reduceAdd, Nat.reduceSub, Nat.reduceMul, Nat.reduceLeDiff, Nat.reduceLT, reduceCtorEq, Int.reduceToNat, Int.reduceLT, Int.reduceLE, Int.reduceEq, Int.reduceAdd, Int.reduceSub, Int.reduceMul, h1]
    exact hQ _
  | c :: r, at_, hr, ha, hQ => by
    obtain ⟨h0, h1, h2⟩ := at_drop hr
    rw [wpl_step]
    have h1' : ((at_ : Int) < (s.length : Int)) := by omega
    simp only [lb_word_run_0, go_sem, seqK_normal, blockK_normal, blockK_exit, reduceIte, Nat.reduceEqDiff, Nat.reduceAdd, Nat.reduceSub, Nat.reduceMul, Nat.reduceLeDiff, Nat.reduceLT, reduceCtorEq, Int.reduceToNat, Int.reduceLT, Int.reduceLE, Int.reduceEq, Int.reduceAdd, Int.reduceSub, Int.reduceMul, h1', Int.natCast_nonneg, h0]
    refine hp _ _ _ ?_
    cases hc : p c
    · simp only [go_sem, seqK_normal, blockK_normal, blockK_exit, reduceIte, Nat.reduceEqDiff, Nat.reduceAdd, Nat.reduceSub, Nat.reduceMul, Nat.reduceLeDiff, Nat.reduceLT, reduceCtorEq, Int.reduceToNat, Int.reduceLT, Int.reduceLE, Int.reduceEq, Int.reduceAdd, Int.reduceSub, Int.reduceMul]
      simp only [runL, hc, Bool.false_eq_true, if_false, Nat.add_zero] at hQ
      exact hQ _
    · simp only [go_sem, seqK_normal, blockK_normal, blockK_exit, reduceIte, Nat.reduceEqDiff, Nat.reduceAdd, Nat.reduceSub, Nat.reduceMul, Nat.reduceLeDiff, Nat.reduceLT, reduceCtorEq, Int.reduceToNat, Int.reduceLT, Int.reduceLE, Int.reduceEq, Int.reduceAdd, Int.reduceSub, Int.reduceMul]
      rw [wi64 (by omega) (by omega)]
      have e : at_ + runL p (c :: r) = at_ + 1 + runL p r := by simp only [runL, hc, if_true]; omega
      rw [e] at hQ
      exact w_run_loop hs hp r (at_ + 1) h2 (by omega) hQ
theorem w_run {s : List UInt8} (hs : s.length ≤ 1000000) {f : FuncId} {p : UInt8 → Bool} (hp : Tells o f p) {H : Heap} {at_ : Nat} (ha : at_ ≤ s.length) {Q : End → Heap → Prop} (h : Q (.ret (.int .i64 ((at_ + runL p (s.drop at_) : Nat) : Int))) H) : wpf ⟨bt.get, o⟩ F_word_run [.str s, .int .i64 (at_ : Int), .fn f []] H Q := by
  rw [fn_word_run (ho _ _ _ (by decide))]
  simp only [bd_word_run, go_sem, seqK_normal, blockK_normal, blockK_exit, reduceIte, Nat.reduceEqDiff, Nat.reduceAdd, Nat.reduceSub, Nat.reduceMul, Nat.reduceLeDiff, Nat.reduceLT, reduceCtorEq, Int.reduceToNat, Int.reduceLT, Int.reduceLE, Int.reduceEq, Int.reduceAdd, Int.reduceSub, Int.reduceMul]
  refine w_run_loop hs hp _ at_ rfl ha fun t => ?_
  simp only [go_sem, seqK_normal, blockK_normal, blockK_exit, reduceIte, Nat.reduceEqDiff, Nat.reduceAdd, Nat.reduceSub, Nat.reduceMul, Nat.reduceLeDiff, Nat.reduceLT, reduceCtorEq, Int.reduceToNat, Int.reduceLT, Int.reduceLE, Int.reduceEq, Int.reduceAdd, Int.reduceSub, Int.reduceMul]
  exact h
theorem tells_words_1 : Tells o F_word_words_1 notNL := fun b H Q h => w_words_1 ho h
theorem tells_words_2 : Tells o F_word_words_2 ldB := fun b H Q h => w_words_2 ho h
theorem tells_digit : Tells o F_word_digit digitB := fun b H Q h => w_digit ho h

theorem w_Fail {c n : Int} {H : Heap} {Q : End → Heap → Prop} (h : Q (.pan [(.iface T_word_Fault (.agg [.int .i64 c, .int .i64 n]), false)]) H) : wpf ⟨bt.get, o⟩ F_word_Fail [.int .i64 c, .int .i64 n] H Q := by
  rw [fn_word_Fail (ho _ _ _ (by decide))]
  simp only [bd_word_Fail, go_sem, seqK_normal, blockK_normal, blockK_exit, reduceIte, Nat.reduceEqDiff, Nat.reduceAdd, Nat.reduceSub, Nat.reduceMul, Nat.reduceLeDiff, Nat.reduceLT, reduceCtorEq, Int.reduceToNat, Int.reduceLT, Int.reduceLE, Int.reduceEq, Int.reduceAdd, Int.reduceSub, Int.reduceMul]
  exact h

/-- Where an expression's end stands, behind its first sign. -/
def closedL : List UInt8 → Option Nat
  | [] => none
  | [c] => if c.toNat = 10 then none else if c.toNat = 47 then some 0 else none
  | c :: d :: r => if c.toNat = 10 then none else if c.toNat = 47 then some 0 else if c.toNat = 92 then (if d.toNat = 10 then none else (closedL r).map (· + 2)) else (closedL (d :: r)).map (· + 1)

omit ho in
theorem wsucc {n : Nat} (h : n ≤ 1000000000) : IntKind.i64.wrap ((n : Int) + 1) = ((n + 1 : Nat) : Int) := by
  rw [wi64 (by omega) (by omega)]; rfl
omit ho in
theorem dec_u8 {b : UInt8} {k : Nat} : decide ((b.toNat : Int) = (k : Int)) = decide (b.toNat = k) := by
  by_cases h : b.toNat = k
  · simp [h]
  · have : ¬((b.toNat : Int) = (k : Int)) := by omega
    simp [h, this]

/-- What a fault is panicked with. -/
abbrev faultA (c n : Int) : AV := .iface T_word_Fault (.agg [.int .i64 c, .int .i64 n])

theorem w_closed_loop {s : List UInt8} (hs : s.length ≤ 1000000) {a : Int} {H : Heap} {Q : Ctl → St → Prop} : ∀ (m : Nat) (r : List UInt8) (i : Nat), r.length ≤ m → s.drop i = r → i ≤ s.length →
    (closedL r = none → ∀ σ : St, σ.H = H → σ.d = [] → lk 1 σ.p = some (.int .i64 a) → Q (.exit 0) σ) →
    (closedL r = none → ∀ σ : St, σ.H = H → σ.d = [] → Q (.panic [(faultA 2 a, false)]) σ) →
    (∀ k, closedL r = some k → ∀ σ : St, σ.H = H → σ.d = [] → lk 4 σ.p = some (.int .i64 ((i + k : Nat) : Int)) → Q .ret σ) →
    wpl ⟨bt.get, o⟩ [0, 1, 5] lb_word_closed_0 { p := [(0, .str s), (1, .int .i64 a), (5, .int .i64 (i : Int))], t := [], H := H, d := [], u := .norm } Q := by
  intro m
  induction m with
  | zero =>
    intro r i hm hr hi hE hP hR
    have : r = [] := by cases r; rfl; simp at hm
    subst this
    have hl := at_nil hr
    rw [wpl_step]
    have h1 : ¬((i : Int) < (s.length : Int)) := by omega
    simp only [lb_word_closed_0, go_sem, seqK_normal, blockK_normal, blockK_exit, reduceIte, Nat.reduceEqDiff, Nat.reduceAdd, Nat.reduceSub, Nat.reduceMul, Nat.reduceLeDiff, Nat.reduceLT, reduceCtorEq, Int.reduceToNat, Int.reduceLT, Int.reduceLE, Int.reduceEq, Int.reduceAdd, Int.reduceSub, Int.reduceMul, h1]
    exact hE rfl _ rfl rfl rfl
  | succ m ih =>
    intro r i hm hr hi hE hP hR
    cases r with
    | nil =>
      have hl := at_nil hr
      rw [wpl_step]
      have h1 : ¬((i : Int) < (s.length : Int)) := by omega
      simp only [lb_word_closed_0, go_sem, seqK_normal, blockK_normal, blockK_exit, reduceIte, Nat.reduceEqDiff, Nat.reduceAdd, Nat.reduceSub, Nat.reduceMul, Nat.reduceLeDiff, Nat.reduceLT, reduceCtorEq, Int.reduceToNat, Int.reduceLT, Int.reduceLE, Int.reduceEq, Int.reduceAdd, Int.reduceSub, Int.reduceMul, h1]
      exact hE rfl _ rfl rfl rfl
    | cons c r =>
      obtain ⟨h0, h1, h2⟩ := at_drop hr
      rw [wpl_step]
      have h1' : ((i : Int) < (s.length : Int)) := by omega
      simp only [lb_word_closed_0, go_sem, seqK_normal, blockK_normal, blockK_exit, reduceIte, Nat.reduceEqDiff, Nat.reduceAdd, Nat.reduceSub, Nat.reduceMul, Nat.reduceLeDiff, Nat.reduceLT, reduceCtorEq, Int.reduceToNat, Int.reduceLT, Int.reduceLE, Int.reduceEq, Int.reduceAdd, Int.reduceSub, Int.reduceMul, h1', Int.natCast_nonneg, h0]
      by_cases c10 : c.toNat = 10
      · have c10' : ((c.toNat : Int) = 10) := by omega
        simp only [go_sem, seqK_normal, blockK_normal, blockK_exit, reduceIte, Nat.reduceEqDiff, Nat.reduceAdd, Nat.reduceSub, Nat.reduceMul, Nat.reduceLeDiff, Nat.reduceLT, reduceCtorEq, Int.reduceToNat, Int.reduceLT, Int.reduceLE, Int.reduceEq, Int.reduceAdd, Int.reduceSub, Int.reduceMul, c10']
        exact hE (by cases r <;> simp only [closedL, c10, if_true]) _ rfl rfl rfl
      · have c10' : ¬((c.toNat : Int) = 10) := by omega
        simp only [go_sem, seqK_normal, blockK_normal, blockK_exit, reduceIte, Nat.reduceEqDiff, Nat.reduceAdd, Nat.reduceSub, Nat.reduceMul, Nat.reduceLeDiff, Nat.reduceLT, reduceCtorEq, Int.reduceToNat, Int.reduceLT, Int.reduceLE, Int.reduceEq, Int.reduceAdd, Int.reduceSub, Int.reduceMul, c10', h0, Int.natCast_nonneg]
        by_cases c47 : c.toNat = 47
        · have c47' : ((c.toNat : Int) = 47) := by omega
          simp only [go_sem, seqK_normal, blockK_normal, blockK_exit, reduceIte, Nat.reduceEqDiff, Nat.reduceAdd, Nat.reduceSub, Nat.reduceMul, Nat.reduceLeDiff, Nat.reduceLT, reduceCtorEq, Int.reduceToNat, Int.reduceLT, Int.reduceLE, Int.reduceEq, Int.reduceAdd, Int.reduceSub, Int.reduceMul, c47']
          exact hR 0 (by cases r <;> simp [closedL, c47]) _ rfl rfl rfl
        · have c47' : ¬((c.toNat : Int) = 47) := by omega
          simp only [go_sem, seqK_normal, blockK_normal, blockK_exit, reduceIte, Nat.reduceEqDiff, Nat.reduceAdd, Nat.reduceSub, Nat.reduceMul, Nat.reduceLeDiff, Nat.reduceLT, reduceCtorEq, Int.reduceToNat, Int.reduceLT, Int.reduceLE, Int.reduceEq, Int.reduceAdd, Int.reduceSub, Int.reduceMul, c47']
          by_cases c92 : c.toNat = 92
          · have c92' : ((c.toNat : Int) = 92) := by omega
            simp only [go_sem, seqK_normal, blockK_normal, blockK_exit, reduceIte, Nat.reduceEqDiff, Nat.reduceAdd, Nat.reduceSub, Nat.reduceMul, Nat.reduceLeDiff, Nat.reduceLT, reduceCtorEq, Int.reduceToNat, Int.reduceLT, Int.reduceLE, Int.reduceEq, Int.reduceAdd, Int.reduceSub, Int.reduceMul, c92', wsucc (show i ≤ 1000000000 by omega)]
            cases r with
            | nil =>
              have hl := at_nil h2
              have e : ((i + 1 : Nat) : Int) = (s.length : Int) := by omega
              simp only [go_sem, seqK_normal, blockK_normal, blockK_exit, reduceIte, Nat.reduceEqDiff, Nat.reduceAdd, Nat.reduceSub, Nat.reduceMul, Nat.reduceLeDiff, Nat.reduceLT, reduceCtorEq, Int.reduceToNat, Int.reduceLT, Int.reduceLE, Int.reduceEq, Int.reduceAdd, Int.reduceSub, Int.reduceMul, e]
              refine w_Fail ho ?_
              simp only [go_sem, seqK_normal, blockK_normal, blockK_exit, reduceIte, Nat.reduceEqDiff, Nat.reduceAdd, Nat.reduceSub, Nat.reduceMul, Nat.reduceLeDiff, Nat.reduceLT, reduceCtorEq, Int.reduceToNat, Int.reduceLT, Int.reduceLE, Int.reduceEq, Int.reduceAdd, Int.reduceSub, Int.reduceMul]
              exact hP (by simp [closedL, c47, c10]) _ rfl rfl
            | cons d r =>
              obtain ⟨g0, g1, g2⟩ := at_drop h2
              have e : ¬((i + 1 : Nat) : Int) = (s.length : Int) := by omega
              simp only [go_sem, seqK_normal, blockK_normal, blockK_exit, reduceIte, Nat.reduceEqDiff, Nat.reduceAdd, Nat.reduceSub, Nat.reduceMul, Nat.reduceLeDiff, Nat.reduceLT, reduceCtorEq, Int.reduceToNat, Int.reduceLT, Int.reduceLE, Int.reduceEq, Int.reduceAdd, Int.reduceSub, Int.reduceMul, e, g0, Int.natCast_nonneg]
              by_cases d10 : d.toNat = 10
              · have d10' : ((d.toNat : Int) = 10) := by omega
                simp only [go_sem, seqK_normal, blockK_normal, blockK_exit, reduceIte, Nat.reduceEqDiff, Nat.reduceAdd, Nat.reduceSub, Nat.reduceMul, Nat.reduceLeDiff, Nat.reduceLT, reduceCtorEq, Int.reduceToNat, Int.reduceLT, Int.reduceLE, Int.reduceEq, Int.reduceAdd, Int.reduceSub, Int.reduceMul, d10']
                refine w_Fail ho ?_
                simp only [go_sem, seqK_normal, blockK_normal, blockK_exit, reduceIte, Nat.reduceEqDiff, Nat.reduceAdd, Nat.reduceSub, Nat.reduceMul, Nat.reduceLeDiff, Nat.reduceLT, reduceCtorEq, Int.reduceToNat, Int.reduceLT, Int.reduceLE, Int.reduceEq, Int.reduceAdd, Int.reduceSub, Int.reduceMul]
                exact hP (by simp [closedL, c47, c10, c92, d10]) _ rfl rfl
              · have d10' : ¬((d.toNat : Int) = 10) := by omega
                simp only [go_sem, seqK_normal, blockK_normal, blockK_exit, reduceIte, Nat.reduceEqDiff, Nat.reduceAdd, Nat.reduceSub, Nat.reduceMul, Nat.reduceLeDiff, Nat.reduceLT, reduceCtorEq, Int.reduceToNat, Int.reduceLT, Int.reduceLE, Int.reduceEq, Int.reduceAdd, Int.reduceSub, Int.reduceMul, d10', wsucc (show i + 1 ≤ 1000000000 by omega)]
                have e2 : closedL (c :: d :: r) = (closedL r).map (· + 2) := by simp [closedL, c92, d10]
                refine ih r (i + 2) (by simp at hm; omega) g2 (by omega) (fun hn => hE (by rw [e2, hn]; rfl)) (fun hn => hP (by rw [e2, hn]; rfl)) fun k hk σ s1 s2 s3 => hR (k + 2) (by rw [e2, hk]; rfl) σ s1 s2 (by rw [s3]; congr 2; omega)
          · have c92' : ¬((c.toNat : Int) = 92) := by omega
            simp only [go_sem, seqK_normal, blockK_normal, blockK_exit, reduceIte, Nat.reduceEqDiff, Nat.reduceAdd, Nat.reduceSub, Nat.reduceMul, Nat.reduceLeDiff, Nat.reduceLT, reduceCtorEq, Int.reduceToNat, Int.reduceLT, Int.reduceLE, Int.reduceEq, Int.reduceAdd, Int.reduceSub, Int.reduceMul, c92', wsucc (show i ≤ 1000000000 by omega)]
            have e2 : closedL (c :: r) = (closedL r).map (· + 1) := by cases r <;> simp [closedL, c10, c47, c92]
            refine ih r (i + 1) (by simp at hm; omega) h2 (by omega) (fun hn => hE (by rw [e2, hn]; rfl)) (fun hn => hP (by rw [e2, hn]; rfl)) fun k hk σ s1 s2 s3 => hR (k + 1) (by rw [e2, hk]; rfl) σ s1 s2 (by rw [s3]; congr 2; omega)
theorem w_closed {s : List UInt8} (hs : s.length ≤ 1000000) {a : Nat} (ha : a < s.length) {H : Heap} {Q : End → Heap → Prop}
    (hn : closedL (s.drop (a + 1)) = none → Q (.pan [(faultA 2 a, false)]) H) (hk : ∀ k, closedL (s.drop (a + 1)) = some k → Q (.ret (.int .i64 ((a + 1 + k : Nat) : Int))) H) : wpf ⟨bt.get, o⟩ F_word_closed [.str s, .int .i64 (a : Int)] H Q := by
  rw [fn_word_closed (ho _ _ _ (by decide))]
  simp only [bd_word_closed, go_sem, seqK_normal, blockK_normal, blockK_exit, reduceIte, Nat.reduceEqDiff, Nat.reduceAdd, Nat.reduceSub, Nat.reduceMul, Nat.reduceLeDiff, Nat.reduceLT, reduceCtorEq, Int.reduceToNat, Int.reduceLT, Int.reduceLE, Int.reduceEq, Int.reduceAdd, Int.reduceSub, Int.reduceMul, wsucc (show a ≤ 1000000000 by omega)]
  refine w_closed_loop ho hs _ _ (a + 1) (Nat.le_refl _) rfl (by omega) (fun h σ s1 s2 s3 => ?_) (fun h σ s1 s2 => ?_) (fun k h σ s1 s2 s3 => ?_)
  · simp only [go_sem, seqK_normal, blockK_normal, blockK_exit, reduceIte, Nat.reduceEqDiff, Nat.reduceAdd, Nat.reduceSub, Nat.reduceMul, Nat.reduceLeDiff, Nat.reduceLT, reduceCtorEq, Int.reduceToNat, Int.reduceLT, Int.reduceLE, Int.reduceEq, Int.reduceAdd, Int.reduceSub, Int.reduceMul, s1, s2, s3]
    refine w_Fail ho ?_
    simp only [go_sem, seqK_normal, blockK_normal, blockK_exit, reduceIte, Nat.reduceEqDiff, Nat.reduceAdd, Nat.reduceSub, Nat.reduceMul, Nat.reduceLeDiff, Nat.reduceLT, reduceCtorEq, Int.reduceToNat, Int.reduceLT, Int.reduceLE, Int.reduceEq, Int.reduceAdd, Int.reduceSub, Int.reduceMul]
    exact hn h
  · simp only [go_sem, seqK_normal, blockK_normal, blockK_exit, reduceIte, Nat.reduceEqDiff, Nat.reduceAdd, Nat.reduceSub, Nat.reduceMul, Nat.reduceLeDiff, Nat.reduceLT, reduceCtorEq, Int.reduceToNat, Int.reduceLT, Int.reduceLE, Int.reduceEq, Int.reduceAdd, Int.reduceSub, Int.reduceMul, s1, s2]
    exact hn h
  · simp only [go_sem, seqK_normal, blockK_normal, blockK_exit, reduceIte, Nat.reduceEqDiff, Nat.reduceAdd, Nat.reduceSub, Nat.reduceMul, Nat.reduceLeDiff, Nat.reduceLT, reduceCtorEq, Int.reduceToNat, Int.reduceLT, Int.reduceLE, Int.reduceEq, Int.reduceAdd, Int.reduceSub, Int.reduceMul, s1, s2, s3]
    exact hk k h
end
end Go.Ev

/- Slices of the abstract memory that are grown by append. -/
namespace Go.Ev
open Go
set_option linter.unusedSimpArgs false
set_option linter.unusedVariables false

/-- What is below a bound stays. -/
def Ext (n0 : Nat) (H H' : Heap) : Prop := H.size ≤ H'.size ∧ ∀ b, b < n0 → H'.get b = H.get b
theorem Ext.refl {n0 : Nat} {H : Heap} : Ext n0 H H := ⟨Nat.le_refl _, fun _ _ => rfl⟩
theorem Ext.trans {n0 : Nat} {H H' H'' : Heap} (h : Ext n0 H H') (k : Ext n0 H' H'') : Ext n0 H H'' := ⟨Nat.le_trans h.1 k.1, fun b hb => by rw [k.2 b hb, h.2 b hb]⟩
theorem Ext.le {n0 n1 : Nat} {H H' : Heap} (h : Ext n1 H H') (hn : n0 ≤ n1) : Ext n0 H H' := ⟨h.1, fun b hb => h.2 b (by omega)⟩
theorem Ext.push {n0 : Nat} {H : Heap} {x : Blk} (h : n0 ≤ H.size) : Ext n0 H (H.push x) := ⟨by rw [Heap.size_push]; omega, fun b hb => Heap.get_push_lt (by omega)⟩
theorem Ext.set {n0 : Nat} {H : Heap} {c : Nat} {x : Blk} (h : n0 ≤ c) : Ext n0 H (H.set c x) := ⟨Nat.le_refl _, fun b hb => Heap.get_set_ne (by omega)⟩

/-- A slice of `n` elements of `sz` cells each, with a block of its own that is not below `n0`. -/
def Sl (n0 : Nat) (H : Heap) (sz : Nat) (cs : List AV) (n : Nat) (v : AV) : Prop :=
  (v = .nils ∧ n = 0 ∧ cs = []) ∨ ∃ b, v = .osl sz b 0 n ∧ n0 ≤ b ∧ H.get b = .cells cs .own ∧ cs.length = n * sz ∧ 0 < n

theorem Sl.nil {n0 H sz} : Sl n0 H sz [] 0 .nils := .inl ⟨rfl, rfl, rfl⟩
theorem Sl.push {n0 H sz cs n v x} (h : Sl n0 H sz cs n v) : Sl n0 (H.push x) sz cs n v := by
  rcases h with h | ⟨b, h1, h2, h3, h4, h5⟩
  · exact .inl h
  · exact .inr ⟨b, h1, h2, by rw [Heap.get_push_lt (Heap.lt_of_get (by rw [h3]; simp)), h3], h4, h5⟩
theorem Sl.len {n0 H sz cs n v} (h : Sl n0 H sz cs n v) : cs.length = n * sz := by
  rcases h with ⟨_, rfl, rfl⟩ | ⟨b, _, _, _, h, _⟩
  · simp
  · exact h

theorem append_spec {n0 : Nat} {H : Heap} {sz bytes : Nat} {cs ys : List AV} {n k : Nat} {v : AV} (h : Sl n0 H sz cs n v) (hn : n0 ≤ H.size) (hk : 0 < k) (hy : ys.length = k * sz) (h1 : (n + k) * bytes ≤ 1099511627776) (h2 : n + k ≤ 1099511627776) :
    ∃ b H', appendA H sz bytes v k ys = some (.osl sz b 0 (n + k), H') ∧ Ext n0 H H' ∧ Sl n0 H' sz (cs ++ ys) (n + k) (.osl sz b 0 (n + k)) := by
  have hk0 : ¬ k = 0 := by omega
  rcases h with ⟨rfl, rfl, rfl⟩ | ⟨b, rfl, hb, hg, hl, hp⟩
  · rw [Nat.zero_add] at *
    refine ⟨H.size, H.push (.cells ys .own), ?_, Ext.push hn, .inr ⟨H.size, rfl, hn, ?_, ?_, by omega⟩⟩
    · simp only [appendA, if_neg hk0, if_pos (And.intro h1 h2)]
    · rw [List.nil_append, Heap.get_push_self]
    · simpa using hy
  · have hb' : b < H.size := Heap.lt_of_get (by rw [hg]; simp)
    refine ⟨H.size, (H.set b .dead).push (.cells (cs ++ ys) .own), ?_, ?_, .inr ⟨H.size, rfl, hn, ?_, ?_, by omega⟩⟩
    · have e : rd cs 0 (n * sz) = cs := by rw [rd, List.drop_zero, ← hl, List.take_length]
      simp only [appendA, if_neg hk0, hg, h1, h2, true_and, and_self, Nat.zero_add, hl, Nat.le_refl, if_true, e]
    · exact (Ext.set hb).trans (Ext.push hn)
    · rw [Heap.get_push_eq (by rw [Heap.size_set])]
    · rw [List.length_append, hl, hy, Nat.add_mul]

theorem append_frame {H : Heap} {sz bytes : Nat} {ys : List AV} {k : Nat} {v r : AV} {H' : Heap} (hk : 0 < k) (h : appendA H sz bytes v k ys = some (r, H')) (hv : v = .nils ∨ ∃ s b o n, v = .osl s b o n) {c : Nat} (hc : c < H.size) (hne : ∀ s o n, v ≠ .osl s c o n) : H'.get c = H.get c := by
  have hk0 : ¬ k = 0 := by omega
  rcases hv with rfl | ⟨s, b, o, n, rfl⟩
  · simp only [appendA, if_neg hk0] at h
    split at h
    · simp only [Option.some.injEq, Prod.mk.injEq] at h; obtain ⟨_, rfl⟩ := h; exact Heap.get_push_lt hc
    · cases h
  · have hcb : c ≠ b := fun e => hne s o n (by rw [e])
    simp only [appendA, if_neg hk0] at h
    split at h
    · split at h
      · split at h
        · simp only [Option.some.injEq, Prod.mk.injEq] at h
          obtain ⟨_, rfl⟩ := h
          rw [Heap.get_push_lt (by rw [Heap.size_set]; exact hc), Heap.get_set_ne hcb]
        · cases h
      · cases h
    · cases h
theorem Sl.form {n0 H sz cs n v} (h : Sl n0 H sz cs n v) : v = .nils ∨ ∃ s b o n, v = .osl s b o n := by
  rcases h with ⟨h, _, _⟩ | ⟨b, h, _⟩
  · exact .inl h
  · exact .inr ⟨_, _, _, _, h⟩
/-- A slice stays where its block does. -/
theorem Sl.frame {n0 H H' sz cs n v} (h : Sl n0 H sz cs n v) (hf : ∀ b, n0 ≤ b → H.get b = .cells cs .own → v = .osl sz b 0 n → H'.get b = H.get b) : Sl n0 H' sz cs n v := by
  rcases h with h | ⟨b, h1, h2, h3, h4, h5⟩
  · exact .inl h
  · exact .inr ⟨b, h1, h2, by rw [hf b h2 h3 h1, h3], h4, h5⟩
theorem Sl.set {n0 H sz cs n v c x} (h : Sl n0 H sz cs n v) (hc : c < n0) : Sl n0 (H.set c x) sz cs n v := h.frame fun b hb _ _ => Heap.get_set_ne (by omega)
theorem Sl.ext {n0 H H' sz cs n v} (h : Sl n0 H sz cs n v) (e : Ext H.size H H') : Sl n0 H' sz cs n v := h.frame fun b hb hg _ => e.2 b (Heap.lt_of_get (by rw [hg]; simp))
theorem Sl.frame' {n0 n1 H sz cs n v} (h : Sl n1 H sz cs n v) (hn : n0 ≤ n1) : Sl n0 H sz cs n v := by
  rcases h with h | ⟨b, h1, h2, h3⟩
  · exact .inl h
  · exact .inr ⟨b, h1, by omega, h3⟩
theorem Sl.one {n0 H sz cs n v} (h : Sl n0 H sz cs n v) : AV.cells v = [v] ∧ AV.one v = true := by
  rcases h with ⟨rfl, _⟩ | ⟨b, rfl, _⟩ <;> exact ⟨rfl, rfl⟩
theorem Sl.lenI {n0 H sz cs n v} (h : Sl n0 H sz cs n v) : lenI v = some (n : Int) := by
  rcases h with ⟨rfl, rfl, _⟩ | ⟨b, rfl, _⟩ <;> rfl
/-- All stays but one block, and the block of one slice. -/
def Fr (b : Nat) (ov : AV) (H H' : Heap) : Prop := H.size ≤ H'.size ∧ ∀ c, c < H.size → c ≠ b → (∀ s o n, ov ≠ .osl s c o n) → H'.get c = H.get c
theorem Fr.ext {b : Nat} {ov : AV} {H H' : Heap} {n0 sz : Nat} {cs n} (h : Fr b ov H H') (hb : b < H.size) (hS : Sl n0 H sz cs n ov) (hn : b < n0) : Ext b H H' := ⟨h.1, fun c hc => h.2 c (by omega) (by omega) fun s o k e => by
  rcases hS with ⟨h1, _⟩ | ⟨ob, h1, h2, _⟩
  · rw [h1] at e; cases e
  · rw [h1] at e; injection e with _ e; omega⟩
theorem Fr.pre {b : Nat} {ov : AV} {H H1 H' : Heap} (e : Ext H.size H H1) (h : Fr b ov H1 H') : Fr b ov H H' := ⟨Nat.le_trans e.1 h.1, fun c h1 h2 h3 => by rw [h.2 c (Nat.lt_of_lt_of_le h1 e.1) h2 h3, e.2 c h1]⟩

theorem Fr.refl {b : Nat} {ov : AV} {H : Heap} : Fr b ov H H := ⟨Nat.le_refl _, fun _ _ _ _ => rfl⟩
theorem Fr.trans {b : Nat} {H H1 H2 : Heap} (h : Fr b .nils H H1) (k : Fr b .nils H1 H2) : Fr b .nils H H2 := ⟨Nat.le_trans h.1 k.1, fun c h1 h2 h3 => by rw [k.2 c (Nat.lt_of_lt_of_le h1 h.1) h2 h3, h.2 c h1 h2 h3]⟩
theorem Fr.ofExt {b : Nat} {H H1 : Heap} (e : Ext H.size H H1) : Fr b .nils H H1 := ⟨e.1, fun c hc _ _ => e.2 c hc⟩
theorem Fr.set {b : Nat} {H : Heap} {x : Blk} : Fr b .nils H (H.set b x) := ⟨Nat.le_refl _, fun c _ h2 _ => Heap.get_set_ne h2⟩
theorem Fr.get {b c : Nat} {H H' : Heap} {x : Blk} (h : Fr b .nils H H') (hc : H.get c = x) (hx : x ≠ .dead) (hn : c ≠ b) : H'.get c = x := by
  rw [h.2 c (Heap.lt_of_get (by rw [hc]; exact hx)) hn (fun _ _ _ e => by cases e), hc]
theorem Fr.toExt {b : Nat} {H H' : Heap} {n0 : Nat} (h : Fr b .nils H H') (hb : n0 ≤ b) (hn : n0 ≤ H.size) : Ext n0 H H' := ⟨h.1, fun c hc => h.2 c (by omega) (by omega) (fun _ _ _ e => by cases e)⟩
end Go.Ev

/- What word.words comes to. -/
namespace Go.Ev
open Go
set_option linter.unusedSimpArgs false
set_option linter.unusedVariables false

structure W where
  kind : Nat
  text : List UInt8
  at_ : Nat
  deriving DecidableEq

def W.cells (w : W) : List AV := [.int .i64 w.kind, .str w.text, .int .i64 w.at_]
def wcells (l : List W) : List AV := l.flatMap W.cells
theorem wcells_app (l m : List W) : wcells (l ++ m) = wcells l ++ wcells m := List.flatMap_append
theorem wcells_len : ∀ l : List W, (wcells l).length = l.length * 3
  | [] => rfl
  | w :: l => by rw [wcells, List.flatMap_cons, List.length_append, ← wcells, wcells_len l, W.cells]; simp only [List.length_cons, List.length_nil]; omega

def signL : List UInt8 := [123, 125, 40, 41, 124, 42, 94, 60, 62, 58, 95, 61]
def signB (c : UInt8) : Bool := decide (0 ≤ idxByteA c signL 0)

def consW (w : W) : Except Nat (List W) → Except Nat (List W)
  | .ok l => .ok (w :: l)
  | .error k => .error k

/-- The words of a text. -/
def wordsL : Nat → List UInt8 → Nat → Except Nat (List W)
  | 0, _, _ => .ok []
  | _ + 1, [], _ => .ok []
  | n + 1, c :: r, i =>
    if c.toNat = 32 ∨ c.toNat = 9 ∨ c.toNat = 13 then wordsL n r (i + 1)
    else if c.toNat = 35 then wordsL n (r.drop (runL notNL r)) (i + 1 + runL notNL r)
    else if c.toNat = 10 then consW ⟨5, [], i⟩ (wordsL n r (i + 1))
    else if letterB c then consW ⟨1, c :: r.take (runL ldB r), i⟩ (wordsL n (r.drop (runL ldB r)) (i + 1 + runL ldB r))
    else if digitB c then consW ⟨2, c :: r.take (runL digitB r), i⟩ (wordsL n (r.drop (runL digitB r)) (i + 1 + runL digitB r))
    else if signB c then consW ⟨3, [c], i⟩ (wordsL n r (i + 1))
    else if c.toNat = 47 then (match closedL r with
      | none => .error i
      | some k => consW ⟨4, r.take k, i⟩ (wordsL n (r.drop (k + 1)) (i + 1 + k + 1)))
    else .error i

theorem runL_le (p : UInt8 → Bool) : ∀ r : List UInt8, runL p r ≤ r.length
  | [] => Nat.le_refl _
  | c :: r => by
    have := runL_le p r
    simp only [runL, List.length_cons]
    split <;> omega

theorem closedL_lt : ∀ (r : List UInt8) (k : Nat), closedL r = some k → k < r.length
  | [], k, h => by simp [closedL] at h
  | [c], k, h => by
    simp only [closedL] at h
    split at h
    · cases h
    · split at h
      · injection h with h; subst h; simp
      · cases h
  | c :: d :: r, k, h => by
    simp only [closedL] at h
    split at h
    · cases h
    · split at h
      · injection h with h; subst h; simp
      · split at h
        · split at h
          · cases h
          · obtain ⟨j, hj, rfl⟩ := Option.map_eq_some_iff.1 h
            have := closedL_lt r j hj
            simp only [List.length_cons]; omega
        · obtain ⟨j, hj, rfl⟩ := Option.map_eq_some_iff.1 h
          have := closedL_lt (d :: r) j hj
          simp only [List.length_cons] at *; omega

theorem cut {s : List UInt8} {i : Nat} {r : List UInt8} (h : s.drop i = r) (k : Nat) : (s.take (i + k)).drop i = r.take k := by
  rw [List.drop_take, h]; congr 1; omega

section
variable {o : CallF} (ho : OvOnly o)
include ho

theorem w_IndexByte {s : List UInt8} {c : UInt8} {H : Heap} {Q : End → Heap → Prop} (h : Q (.ret (.int .i64 (idxByteA c s 0))) H) : wpf ⟨bt.get, o⟩ F_strings_IndexByte [.str s, .int .u8 c.toNat] H Q := by
  rw [fn_strings_IndexByte (ho _ _ _ (by decide))]
  simp only [bd_strings_IndexByte, go_sem, seqK_normal, blockK_normal, blockK_exit, reduceIte, Nat.reduceEqDiff, Nat.reduceAdd, Nat.reduceSub, Nat.reduceMul, Nat.reduceLeDiff, Nat.reduceLT, reduceCtorEq, Int.reduceToNat, Int.reduceLT, Int.reduceLE, Int.reduceEq, Int.reduceAdd, Int.reduceSub, Int.reduceMul]
  rw [fn_stringslite_IndexByte (ho _ _ _ (by decide))]
  simp only [bd_stringslite_IndexByte, go_sem, seqK_normal, blockK_normal, blockK_exit, reduceIte, Nat.reduceEqDiff, Nat.reduceAdd, Nat.reduceSub, Nat.reduceMul, Nat.reduceLeDiff, Nat.reduceLT, reduceCtorEq, Int.reduceToNat, Int.reduceLT, Int.reduceLE, Int.reduceEq, Int.reduceAdd, Int.reduceSub, Int.reduceMul, UInt8.ofNat_toNat]
  exact h

theorem w_words_loop {s : List UInt8} (hs : s.length ≤ 1000000) {n0 : Nat} {H0 : Heap} {Q : Ctl → St → Prop} : ∀ (m : Nat) (r : List UInt8) (i : Nat) (acc : List W) (v : AV) (H : Heap), r.length ≤ m → s.drop i = r → i ≤ s.length → acc.length ≤ i → Ext n0 H0 H → n0 ≤ H.size → Sl n0 H 3 (wcells acc) acc.length v →
    (∀ l, wordsL m r i = .ok l → ∀ (σ : St) (v : AV), Ext n0 H0 σ.H → σ.d = [] → lk 3 σ.p = some v → Sl n0 σ.H 3 (wcells (acc ++ l)) (acc ++ l).length v → Q (.exit 0) σ) →
    (∀ k, wordsL m r i = .error k → ∀ (σ : St), Ext n0 H0 σ.H → σ.d = [] → Q (.panic [(faultA 2 k, false)]) σ) →
    wpl ⟨bt.get, o⟩ [0, 3, 4] lb_word_words_0 { p := [(0, .str s), (3, v), (4, .int .i64 (i : Int))], t := [], H := H, d := [], u := .norm } Q := by
  intro m
  induction m with
  | zero =>
    intro r i acc v H hm hr hi ha he hn hS hE hP
    have : r = [] := by cases r; rfl; simp at hm
    subst this
    have hl := at_nil hr
    rw [wpl_step]
    have h1 : ¬((i : Int) < (s.length : Int)) := by omega
    simp only [lb_word_words_0, go_sem, seqK_normal, blockK_normal, blockK_exit, reduceIte, Nat.reduceEqDiff, Nat.reduceAdd, Nat.reduceSub, Nat.reduceMul, Nat.reduceLeDiff, Nat.reduceLT, reduceCtorEq, Int.reduceToNat, Int.reduceLT, Int.reduceLE, Int.reduceEq, Int.reduceAdd, Int.reduceSub, Int.reduceMul, h1]
    exact hE [] rfl _ v he rfl rfl (by rw [List.append_nil]; exact hS)
  | succ m ih =>
    intro r i acc v H hm hr hi ha he hn hS hE hP
    cases r with
    | nil =>
      have hl := at_nil hr
      rw [wpl_step]
      have h1 : ¬((i : Int) < (s.length : Int)) := by omega
      simp only [lb_word_words_0, go_sem, seqK_normal, blockK_normal, blockK_exit, reduceIte, Nat.reduceEqDiff, Nat.reduceAdd, Nat.reduceSub, Nat.reduceMul, Nat.reduceLeDiff, Nat.reduceLT, reduceCtorEq, Int.reduceToNat, Int.reduceLT, Int.reduceLE, Int.reduceEq, Int.reduceAdd, Int.reduceSub, Int.reduceMul, h1]
      exact hE [] rfl _ v he rfl rfl (by rw [List.append_nil]; exact hS)
    | cons c r =>
      obtain ⟨h0, h1, h2⟩ := at_drop hr
      simp only [List.length_cons] at hm
      have hrl : r.length + i + 1 = s.length := by
        have := congrArg List.length hr
        simp only [List.length_drop, List.length_cons] at this
        omega
      rw [wpl_step]
      have h1' : ((i : Int) < (s.length : Int)) := by omega
      simp only [lb_word_words_0, go_sem, seqK_normal, blockK_normal, blockK_exit, reduceIte, Nat.reduceEqDiff, Nat.reduceAdd, Nat.reduceSub, Nat.reduceMul, Nat.reduceLeDiff, Nat.reduceLT, reduceCtorEq, Int.reduceToNat, Int.reduceLT, Int.reduceLE, Int.reduceEq, Int.reduceAdd, Int.reduceSub, Int.reduceMul, h1', Int.natCast_nonneg, h0]
      by_cases ws : c.toNat = 32 ∨ c.toNat = 9 ∨ c.toNat = 13
      · have e : wordsL (m + 1) (c :: r) i = wordsL m r (i + 1) := by rw [wordsL, if_pos ws]
        rw [e] at hE hP
        have fin := ih r (i + 1) acc v H (by omega) h2 (by omega) (by omega) he hn hS hE hP
        rcases ws with ws | ws | ws
        · have w1 : (c.toNat : Int) = 32 := by omega
          simp only [go_sem, seqK_normal, blockK_normal, blockK_exit, reduceIte, Nat.reduceEqDiff, Nat.reduceAdd, Nat.reduceSub, Nat.reduceMul, Nat.reduceLeDiff, Nat.reduceLT, reduceCtorEq, Int.reduceToNat, Int.reduceLT, Int.reduceLE, Int.reduceEq, Int.reduceAdd, Int.reduceSub, Int.reduceMul, w1, wsucc (show i ≤ 1000000000 by omega)]
          exact fin
        · have w1 : (c.toNat : Int) = 9 := by omega
          have w2 : ¬((9 : Int) = 32) := by omega
          simp only [go_sem, seqK_normal, blockK_normal, blockK_exit, reduceIte, Nat.reduceEqDiff, Nat.reduceAdd, Nat.reduceSub, Nat.reduceMul, Nat.reduceLeDiff, Nat.reduceLT, reduceCtorEq, Int.reduceToNat, Int.reduceLT, Int.reduceLE, Int.reduceEq, Int.reduceAdd, Int.reduceSub, Int.reduceMul, w1, w2, wsucc (show i ≤ 1000000000 by omega)]
          exact fin
        · have w1 : (c.toNat : Int) = 13 := by omega
          have w2 : ¬((13 : Int) = 32) := by omega
          have w3 : ¬((13 : Int) = 9) := by omega
          simp only [go_sem, seqK_normal, blockK_normal, blockK_exit, reduceIte, Nat.reduceEqDiff, Nat.reduceAdd, Nat.reduceSub, Nat.reduceMul, Nat.reduceLeDiff, Nat.reduceLT, reduceCtorEq, Int.reduceToNat, Int.reduceLT, Int.reduceLE, Int.reduceEq, Int.reduceAdd, Int.reduceSub, Int.reduceMul, w1, w2, w3, wsucc (show i ≤ 1000000000 by omega)]
          exact fin
      · have e32 : ¬((c.toNat : Int) = 32) := by omega
        have e9 : ¬((c.toNat : Int) = 9) := by omega
        have e13 : ¬((c.toNat : Int) = 13) := by omega
        have iw := wsucc (show i ≤ 1000000000 by omega)
        have fin2 : ∀ (w : W) (r' : List UInt8) (i' : Nat), r'.length ≤ m → s.drop i' = r' → i' ≤ s.length → i < i' → wordsL (m + 1) (c :: r) i = consW w (wordsL m r' i') → ∀ (H2 : Heap) (v2 : AV), Ext n0 H H2 → Sl n0 H2 3 (wcells acc ++ w.cells) (acc.length + 1) v2 →
            wpl ⟨bt.get, o⟩ [0, 3, 4] lb_word_words_0 { p := [(0, .str s), (3, v2), (4, .int .i64 (i' : Int))], t := [], H := H2, d := [], u := .norm } Q := by
          intro w r' i' g1 g2 g3 g4 g5 H2 v2 g6 g7
          rw [g5] at hE hP
          refine ih r' i' (acc ++ [w]) v2 H2 g1 g2 g3 (by simp; omega) (he.trans g6) (Nat.le_trans hn g6.1) ?_ (fun l hl σ v' k1 k2 k3 k4 => hE (w :: l) (by rw [hl]; rfl) σ v' k1 k2 k3 ?_) (fun k hk => hP k (by rw [hk]; rfl))
          · rw [wcells_app, List.length_append]
            simpa [wcells] using g7
          · simpa using k4
        have hn' : n0 ≤ (H.push .dead).size := by rw [Heap.size_push]; omega
        simp only [go_sem, seqK_normal, blockK_normal, blockK_exit, reduceIte, Nat.reduceEqDiff, Nat.reduceAdd, Nat.reduceSub, Nat.reduceMul, Nat.reduceLeDiff, Nat.reduceLT, reduceCtorEq, Int.reduceToNat, Int.reduceLT, Int.reduceLE, Int.reduceEq, Int.reduceAdd, Int.reduceSub, Int.reduceMul, e32, e9, e13]
        by_cases c35 : c.toNat = 35
        · have c35' : (c.toNat : Int) = 35 := by omega
          simp only [go_sem, seqK_normal, blockK_normal, blockK_exit, reduceIte, Nat.reduceEqDiff, Nat.reduceAdd, Nat.reduceSub, Nat.reduceMul, Nat.reduceLeDiff, Nat.reduceLT, reduceCtorEq, Int.reduceToNat, Int.reduceLT, Int.reduceLE, Int.reduceEq, Int.reduceAdd, Int.reduceSub, Int.reduceMul, c35']
          refine w_run ho hs (tells_words_1 ho) hi ?_
          have hc : notNL c = true := by simp [notNL, c35]
          have e : wordsL (m + 1) (c :: r) i = wordsL m (r.drop (runL notNL r)) (i + 1 + runL notNL r) := by
            rw [wordsL, if_neg ws, if_pos c35]
          have hk := runL_le notNL r
          simp only [go_sem, seqK_normal, blockK_normal, blockK_exit, reduceIte, Nat.reduceEqDiff, Nat.reduceAdd, Nat.reduceSub, Nat.reduceMul, Nat.reduceLeDiff, Nat.reduceLT, reduceCtorEq, Int.reduceToNat, Int.reduceLT, Int.reduceLE, Int.reduceEq, Int.reduceAdd, Int.reduceSub, Int.reduceMul, hr, runL, hc]
          rw [show i + (runL notNL r + 1) = i + 1 + runL notNL r by omega]
          rw [e] at hE hP
          exact ih _ _ acc v H (by rw [List.length_drop]; omega) (by rw [← h2, List.drop_drop]) (by omega) (by omega) he hn hS hE hP
        · have c35' : ¬((c.toNat : Int) = 35) := by omega
          simp only [go_sem, seqK_normal, blockK_normal, blockK_exit, reduceIte, Nat.reduceEqDiff, Nat.reduceAdd, Nat.reduceSub, Nat.reduceMul, Nat.reduceLeDiff, Nat.reduceLT, reduceCtorEq, Int.reduceToNat, Int.reduceLT, Int.reduceLE, Int.reduceEq, Int.reduceAdd, Int.reduceSub, Int.reduceMul, c35']
          by_cases c10 : c.toNat = 10
          · have c10' : (c.toNat : Int) = 10 := by omega
            simp only [go_sem, seqK_normal, blockK_normal, blockK_exit, reduceIte, Nat.reduceEqDiff, Nat.reduceAdd, Nat.reduceSub, Nat.reduceMul, Nat.reduceLeDiff, Nat.reduceLT, reduceCtorEq, Int.reduceToNat, Int.reduceLT, Int.reduceLE, Int.reduceEq, Int.reduceAdd, Int.reduceSub, Int.reduceMul, c10', iw]
            obtain ⟨b, H', ea, hx, hsl⟩ := append_spec (bytes := 32) (ys := [.int .i64 5, .str [], .int .i64 (i : Int)]) (k := 1) (Sl.push (x := .cells [.int .i64 5, .str [], .int .i64 (i : Int)] .own) hS) (by rw [Heap.size_push]; omega) (by omega) rfl (by omega) (by omega)
            simp only [ea, go_sem, seqK_normal, blockK_normal, blockK_exit, reduceIte, Nat.reduceEqDiff, Nat.reduceAdd, Nat.reduceSub, Nat.reduceMul, Nat.reduceLeDiff, Nat.reduceLT, reduceCtorEq, Int.reduceToNat, Int.reduceLT, Int.reduceLE, Int.reduceEq, Int.reduceAdd, Int.reduceSub, Int.reduceMul]
            exact fin2 ⟨5, [], i⟩ r (i + 1) (by omega) h2 (by omega) (by omega) (by rw [wordsL, if_neg ws, if_neg c35, if_pos c10]) _ _ ((Ext.push hn).trans hx) hsl
          · have c10' : ¬((c.toNat : Int) = 10) := by omega
            simp only [go_sem, seqK_normal, blockK_normal, blockK_exit, reduceIte, Nat.reduceEqDiff, Nat.reduceAdd, Nat.reduceSub, Nat.reduceMul, Nat.reduceLeDiff, Nat.reduceLT, reduceCtorEq, Int.reduceToNat, Int.reduceLT, Int.reduceLE, Int.reduceEq, Int.reduceAdd, Int.reduceSub, Int.reduceMul, c10']
            refine w_letter ho ?_
            cases hL : letterB c
            · simp only [go_sem, seqK_normal, blockK_normal, blockK_exit, reduceIte, Nat.reduceEqDiff, Nat.reduceAdd, Nat.reduceSub, Nat.reduceMul, Nat.reduceLeDiff, Nat.reduceLT, reduceCtorEq, Int.reduceToNat, Int.reduceLT, Int.reduceLE, Int.reduceEq, Int.reduceAdd, Int.reduceSub, Int.reduceMul]
              refine w_digit ho ?_
              cases hD : digitB c
              · simp only [go_sem, seqK_normal, blockK_normal, blockK_exit, reduceIte, Nat.reduceEqDiff, Nat.reduceAdd, Nat.reduceSub, Nat.reduceMul, Nat.reduceLeDiff, Nat.reduceLT, reduceCtorEq, Int.reduceToNat, Int.reduceLT, Int.reduceLE, Int.reduceEq, Int.reduceAdd, Int.reduceSub, Int.reduceMul]
                refine w_IndexByte ho ?_
                simp only [go_sem, seqK_normal, blockK_normal, blockK_exit, reduceIte, Nat.reduceEqDiff, Nat.reduceAdd, Nat.reduceSub, Nat.reduceMul, Nat.reduceLeDiff, Nat.reduceLT, reduceCtorEq, Int.reduceToNat, Int.reduceLT, Int.reduceLE, Int.reduceEq, Int.reduceAdd, Int.reduceSub, Int.reduceMul]
                have hS0 : decide ((0 : Int) ≤ idxByteA c [123, 125, 40, 41, 124, 42, 94, 60, 62, 58, 95, 61] 0) = signB c := rfl
                rw [hS0]
                cases hB : signB c
                · simp only [go_sem, seqK_normal, blockK_normal, blockK_exit, reduceIte, Nat.reduceEqDiff, Nat.reduceAdd, Nat.reduceSub, Nat.reduceMul, Nat.reduceLeDiff, Nat.reduceLT, reduceCtorEq, Int.reduceToNat, Int.reduceLT, Int.reduceLE, Int.reduceEq, Int.reduceAdd, Int.reduceSub, Int.reduceMul]
                  by_cases c47 : c.toNat = 47
                  · have c47' : (c.toNat : Int) = 47 := by omega
                    simp only [go_sem, seqK_normal, blockK_normal, blockK_exit, reduceIte, Nat.reduceEqDiff, Nat.reduceAdd, Nat.reduceSub, Nat.reduceMul, Nat.reduceLeDiff, Nat.reduceLT, reduceCtorEq, Int.reduceToNat, Int.reduceLT, Int.reduceLE, Int.reduceEq, Int.reduceAdd, Int.reduceSub, Int.reduceMul, c47']
                    refine w_closed ho hs (by omega) (fun hcl => ?_) (fun k hcl => ?_)
                    · simp only [go_sem, seqK_normal, blockK_normal, blockK_exit, reduceIte, Nat.reduceEqDiff, Nat.reduceAdd, Nat.reduceSub, Nat.reduceMul, Nat.reduceLeDiff, Nat.reduceLT, reduceCtorEq, Int.reduceToNat, Int.reduceLT, Int.reduceLE, Int.reduceEq, Int.reduceAdd, Int.reduceSub, Int.reduceMul]
                      rw [h2] at hcl
                      exact hP i (by rw [wordsL, if_neg ws, if_neg c35, if_neg c10, if_neg (by rw [hL]; simp), if_neg (by rw [hD]; simp), if_neg (by rw [hB]; simp), if_pos c47, hcl]) _ he rfl
                    · rw [h2] at hcl
                      have hk := closedL_lt r k hcl
                      have e2 : ((i + 1 : Nat) : Int) ≤ ((i + 1 + k : Nat) : Int) := by omega
                      have e3 : ((i + 1 + k : Nat) : Int) ≤ (s.length : Int) := by omega
                      have e4 : (s.take (i + 1 + k)).drop (i + 1) = r.take k := cut h2 k
                      simp only [go_sem, seqK_normal, blockK_normal, blockK_exit, reduceIte, Nat.reduceEqDiff, Nat.reduceAdd, Nat.reduceSub, Nat.reduceMul, Nat.reduceLeDiff, Nat.reduceLT, reduceCtorEq, Int.reduceToNat, Int.reduceLT, Int.reduceLE, Int.reduceEq, Int.reduceAdd, Int.reduceSub, Int.reduceMul, Int.natCast_nonneg, iw, e2, e3, e4]
                      obtain ⟨b, H', ea, hx, hsl⟩ := append_spec (bytes := 32) (ys := [.int .i64 4, .str (r.take k), .int .i64 (i : Int)]) (k := 1) (Sl.push (x := .cells [.int .i64 4, .str (r.take k), .int .i64 (i : Int)] .own) hS) (by rw [Heap.size_push]; omega) (by omega) rfl (by omega) (by omega)
                      simp only [ea, go_sem, seqK_normal, blockK_normal, blockK_exit, reduceIte, Nat.reduceEqDiff, Nat.reduceAdd, Nat.reduceSub, Nat.reduceMul, Nat.reduceLeDiff, Nat.reduceLT, reduceCtorEq, Int.reduceToNat, Int.reduceLT, Int.reduceLE, Int.reduceEq, Int.reduceAdd, Int.reduceSub, Int.reduceMul, wsucc (show i + 1 + k ≤ 1000000000 by omega)]
                      exact fin2 ⟨4, r.take k, i⟩ (r.drop (k + 1)) (i + 1 + k + 1) (by rw [List.length_drop]; omega) (by rw [← h2, List.drop_drop]; congr 1) (by omega) (by omega) (by rw [wordsL, if_neg ws, if_neg c35, if_neg c10, if_neg (by rw [hL]; simp), if_neg (by rw [hD]; simp), if_neg (by rw [hB]; simp), if_pos c47, hcl]) _ _ ((Ext.push hn).trans hx) hsl
                  · have c47' : ¬((c.toNat : Int) = 47) := by omega
                    simp only [go_sem, seqK_normal, blockK_normal, blockK_exit, reduceIte, Nat.reduceEqDiff, Nat.reduceAdd, Nat.reduceSub, Nat.reduceMul, Nat.reduceLeDiff, Nat.reduceLT, reduceCtorEq, Int.reduceToNat, Int.reduceLT, Int.reduceLE, Int.reduceEq, Int.reduceAdd, Int.reduceSub, Int.reduceMul, c47']
                    refine w_Fail ho ?_
                    simp only [go_sem, seqK_normal, blockK_normal, blockK_exit, reduceIte, Nat.reduceEqDiff, Nat.reduceAdd, Nat.reduceSub, Nat.reduceMul, Nat.reduceLeDiff, Nat.reduceLT, reduceCtorEq, Int.reduceToNat, Int.reduceLT, Int.reduceLE, Int.reduceEq, Int.reduceAdd, Int.reduceSub, Int.reduceMul]
                    exact hP i (by rw [wordsL, if_neg ws, if_neg c35, if_neg c10, if_neg (by rw [hL]; simp), if_neg (by rw [hD]; simp), if_neg (by rw [hB]; simp), if_neg c47]) _ he rfl
                · simp only [go_sem, seqK_normal, blockK_normal, blockK_exit, reduceIte, Nat.reduceEqDiff, Nat.reduceAdd, Nat.reduceSub, Nat.reduceMul, Nat.reduceLeDiff, Nat.reduceLT, reduceCtorEq, Int.reduceToNat, Int.reduceLT, Int.reduceLE, Int.reduceEq, Int.reduceAdd, Int.reduceSub, Int.reduceMul, iw]
                  have e2 : (i : Int) ≤ ((i + 1 : Nat) : Int) := by omega
                  have e3 : ((i + 1 : Nat) : Int) ≤ (s.length : Int) := by omega
                  have e4 : (s.take (i + 1)).drop i = [c] := by rw [cut hr, List.take_succ_cons, List.take_zero]
                  simp only [go_sem, seqK_normal, blockK_normal, blockK_exit, reduceIte, Nat.reduceEqDiff, Nat.reduceAdd, Nat.reduceSub, Nat.reduceMul, Nat.reduceLeDiff, Nat.reduceLT, reduceCtorEq, Int.reduceToNat, Int.reduceLT, Int.reduceLE, Int.reduceEq, Int.reduceAdd, Int.reduceSub, Int.reduceMul, Int.natCast_nonneg, e2, e3, e4]
                  obtain ⟨b, H', ea, hx, hsl⟩ := append_spec (bytes := 32) (ys := [.int .i64 3, .str [c], .int .i64 (i : Int)]) (k := 1) (Sl.push (x := .cells [.int .i64 3, .str [c], .int .i64 (i : Int)] .own) hS) (by rw [Heap.size_push]; omega) (by omega) rfl (by omega) (by omega)
                  simp only [ea, go_sem, seqK_normal, blockK_normal, blockK_exit, reduceIte, Nat.reduceEqDiff, Nat.reduceAdd, Nat.reduceSub, Nat.reduceMul, Nat.reduceLeDiff, Nat.reduceLT, reduceCtorEq, Int.reduceToNat, Int.reduceLT, Int.reduceLE, Int.reduceEq, Int.reduceAdd, Int.reduceSub, Int.reduceMul]
                  exact fin2 ⟨3, [c], i⟩ r (i + 1) (by omega) h2 (by omega) (by omega) (by rw [wordsL, if_neg ws, if_neg c35, if_neg c10, if_neg (by rw [hL]; simp), if_neg (by rw [hD]; simp), if_pos hB]) _ _ ((Ext.push hn).trans hx) hsl
              · simp only [go_sem, seqK_normal, blockK_normal, blockK_exit, reduceIte, Nat.reduceEqDiff, Nat.reduceAdd, Nat.reduceSub, Nat.reduceMul, Nat.reduceLeDiff, Nat.reduceLT, reduceCtorEq, Int.reduceToNat, Int.reduceLT, Int.reduceLE, Int.reduceEq, Int.reduceAdd, Int.reduceSub, Int.reduceMul]
                refine w_run ho hs (tells_digit ho) hi ?_
                have hk := runL_le digitB r
                have e1 : i + runL digitB (s.drop i) = i + 1 + runL digitB r := by rw [hr, runL, if_pos hD]; omega
                have e2 : (i : Int) ≤ ((i + 1 + runL digitB r : Nat) : Int) := by omega
                have e3 : ((i + 1 + runL digitB r : Nat) : Int) ≤ (s.length : Int) := by omega
                have e4 : (s.take (i + 1 + runL digitB r)).drop i = c :: r.take (runL digitB r) := by
                  rw [Nat.add_assoc, cut hr, Nat.add_comm 1, List.take_succ_cons]
                rw [e1]
                simp only [go_sem, seqK_normal, blockK_normal, blockK_exit, reduceIte, Nat.reduceEqDiff, Nat.reduceAdd, Nat.reduceSub, Nat.reduceMul, Nat.reduceLeDiff, Nat.reduceLT, reduceCtorEq, Int.reduceToNat, Int.reduceLT, Int.reduceLE, Int.reduceEq, Int.reduceAdd, Int.reduceSub, Int.reduceMul, Int.natCast_nonneg, e2, e3, e4]
                obtain ⟨b, H', ea, hx, hsl⟩ := append_spec (bytes := 32) (ys := [.int .i64 2, .str (c :: r.take (runL digitB r)), .int .i64 (i : Int)]) (k := 1) (Sl.push (x := .cells [.int .i64 2, .str (c :: r.take (runL digitB r)), .int .i64 (i : Int)] .own) hS) (by rw [Heap.size_push]; omega) (by omega) rfl (by omega) (by omega)
                simp only [ea, go_sem, seqK_normal, blockK_normal, blockK_exit, reduceIte, Nat.reduceEqDiff, Nat.reduceAdd, Nat.reduceSub, Nat.reduceMul, Nat.reduceLeDiff, Nat.reduceLT, reduceCtorEq, Int.reduceToNat, Int.reduceLT, Int.reduceLE, Int.reduceEq, Int.reduceAdd, Int.reduceSub, Int.reduceMul]
                exact fin2 ⟨2, c :: r.take (runL digitB r), i⟩ (r.drop (runL digitB r)) (i + 1 + runL digitB r) (by rw [List.length_drop]; omega) (by rw [← h2, List.drop_drop]) (by omega) (by omega) (by rw [wordsL, if_neg ws, if_neg c35, if_neg c10, if_neg (by rw [hL]; simp), if_pos hD]) _ _ ((Ext.push hn).trans hx) hsl
            · simp only [go_sem, seqK_normal, blockK_normal, blockK_exit, reduceIte, Nat.reduceEqDiff, Nat.reduceAdd, Nat.reduceSub, Nat.reduceMul, Nat.reduceLeDiff, Nat.reduceLT, reduceCtorEq, Int.reduceToNat, Int.reduceLT, Int.reduceLE, Int.reduceEq, Int.reduceAdd, Int.reduceSub, Int.reduceMul]
              have hLd : ldB c = true := by simp [ldB, hL]
              refine w_run ho hs (tells_words_2 ho) hi ?_
              have hk := runL_le ldB r
              have e1 : i + runL ldB (s.drop i) = i + 1 + runL ldB r := by rw [hr, runL, if_pos hLd]; omega
              have e2 : (i : Int) ≤ ((i + 1 + runL ldB r : Nat) : Int) := by omega
              have e3 : ((i + 1 + runL ldB r : Nat) : Int) ≤ (s.length : Int) := by omega
              have e4 : (s.take (i + 1 + runL ldB r)).drop i = c :: r.take (runL ldB r) := by
                rw [Nat.add_assoc, cut hr, Nat.add_comm 1, List.take_succ_cons]
              rw [e1]
              simp only [go_sem, seqK_normal, blockK_normal, blockK_exit, reduceIte, Nat.reduceEqDiff, Nat.reduceAdd, Nat.reduceSub, Nat.reduceMul, Nat.reduceLeDiff, Nat.reduceLT, reduceCtorEq, Int.reduceToNat, Int.reduceLT, Int.reduceLE, Int.reduceEq, Int.reduceAdd, Int.reduceSub, Int.reduceMul, Int.natCast_nonneg, e2, e3, e4]
              obtain ⟨b, H', ea, hx, hsl⟩ := append_spec (bytes := 32) (ys := [.int .i64 1, .str (c :: r.take (runL ldB r)), .int .i64 (i : Int)]) (k := 1) (Sl.push (x := .cells [.int .i64 1, .str (c :: r.take (runL ldB r)), .int .i64 (i : Int)] .own) hS) (by rw [Heap.size_push]; omega) (by omega) rfl (by omega) (by omega)
              simp only [ea, go_sem, seqK_normal, blockK_normal, blockK_exit, reduceIte, Nat.reduceEqDiff, Nat.reduceAdd, Nat.reduceSub, Nat.reduceMul, Nat.reduceLeDiff, Nat.reduceLT, reduceCtorEq, Int.reduceToNat, Int.reduceLT, Int.reduceLE, Int.reduceEq, Int.reduceAdd, Int.reduceSub, Int.reduceMul]
              exact fin2 ⟨1, c :: r.take (runL ldB r), i⟩ (r.drop (runL ldB r)) (i + 1 + runL ldB r) (by rw [List.length_drop]; omega) (by rw [← h2, List.drop_drop]) (by omega) (by omega) (by rw [wordsL, if_neg ws, if_neg c35, if_neg c10, if_pos hL]) _ _ ((Ext.push hn).trans hx) hsl

theorem w_words {s : List UInt8} (hs : s.length ≤ 1000000) {n0 : Nat} {H : Heap} (hn : n0 ≤ H.size) {Q : End → Heap → Prop}
    (hE : ∀ l, wordsL s.length s 0 = .ok l → ∀ H' v, Ext n0 H H' → Sl n0 H' 3 (wcells l) l.length v → Q (.ret v) H')
    (hP : ∀ k, wordsL s.length s 0 = .error k → ∀ H', Ext n0 H H' → Q (.pan [(faultA 2 k, false)]) H') : wpf ⟨bt.get, o⟩ F_word_words [.str s] H Q := by
  rw [fn_word_words (ho _ _ _ (by decide))]
  simp only [bd_word_words, go_sem, seqK_normal, blockK_normal, blockK_exit, reduceIte, Nat.reduceEqDiff, Nat.reduceAdd, Nat.reduceSub, Nat.reduceMul, Nat.reduceLeDiff, Nat.reduceLT, reduceCtorEq, Int.reduceToNat, Int.reduceLT, Int.reduceLE, Int.reduceEq, Int.reduceAdd, Int.reduceSub, Int.reduceMul]
  refine w_words_loop ho hs (n0 := n0) (H0 := H) s.length s 0 [] .nils H (Nat.le_refl _) rfl (Nat.zero_le _) (Nat.le_refl _) Ext.refl hn Sl.nil (fun l hl σ v h1 h2 h3 h4 => ?_) (fun k hk σ h1 h2 => ?_)
  · simp only [go_sem, seqK_normal, blockK_normal, blockK_exit, reduceIte, Nat.reduceEqDiff, Nat.reduceAdd, Nat.reduceSub, Nat.reduceMul, Nat.reduceLeDiff, Nat.reduceLT, reduceCtorEq, Int.reduceToNat, Int.reduceLT, Int.reduceLE, Int.reduceEq, Int.reduceAdd, Int.reduceSub, Int.reduceMul, h2, h3]
    exact hE l hl _ v h1 (by simpa using h4)
  · simp only [go_sem, seqK_normal, blockK_normal, blockK_exit, reduceIte, Nat.reduceEqDiff, Nat.reduceAdd, Nat.reduceSub, Nat.reduceMul, Nat.reduceLeDiff, Nat.reduceLT, reduceCtorEq, Int.reduceToNat, Int.reduceLT, Int.reduceLE, Int.reduceEq, Int.reduceAdd, Int.reduceSub, Int.reduceMul, h2]
    exact hP k hk _ h1
end
end Go.Ev
