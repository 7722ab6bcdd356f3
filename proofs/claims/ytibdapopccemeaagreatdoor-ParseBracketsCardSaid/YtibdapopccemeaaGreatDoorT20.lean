/- Several texts of this claim, joined. -/
import Derived.Test.YtibdapopccemeaaGreatDoorT19
import Derived.IntWalk
import Derived.Test.YtibdapopccemeaaGreatDoorT18
import Derived.Test.YtibdapopccemeaaGreatDoorT11
import Derived.KernelRfl
import Derived.Test.YtibdapopccemeaaGreatDoorProg
set_option linter.unusedSimpArgs false
set_option linter.unusedVariables false

/- What the functions of package word come to: bytes, runs, ends of expressions. -/
namespace Go.Ev
open Go
open Go.Ev renaming seqK_normal → zA, blockK_normal → zB, blockK_exit → zC
open Nat renaming reduceEqDiff → zD, reduceAdd → zE, reduceSub → zF, reduceMul → zG, reduceLeDiff → zH, reduceLT → zI
open Int renaming reduceToNat → zJ, reduceLT → zK, reduceLE → zL, reduceEq → zM, reduceAdd → zN, reduceSub → zO, reduceMul → zP
/-- Calls whose answer is known: of one function alone. -/
def OvOnly (o : CallF) : Prop := ∀ f l H, f ≠ F_told → o f l H = none
theorem wi64 {x : Int} (h0 : -9223372036854775808 ≤ x) (h1 : x ≤ 9223372036854775807) : IntKind.i64.wrap x = x := IntWalk.i64_in x ⟨h0, h1⟩
theorem wnat {a b : Nat} (h : a + b ≤ 1000000000) : IntKind.i64.wrap ((a : Int) + (b : Int)) = ((a + b : Nat) : Int) := by
  rw [wi64 (by omega) (by omega)]; rfl
def letterB (b : UInt8) : Bool := decide (97 ≤ b.toNat) && decide (b.toNat ≤ 122)
def digitB (b : UInt8) : Bool := decide (48 ≤ b.toNat) && decide (b.toNat ≤ 57)
def notNL (b : UInt8) : Bool := !decide (b.toNat = 10)
def ldB (b : UInt8) : Bool := letterB b || digitB b
section
variable {o : CallF} (ho : OvOnly o)
include ho
theorem w_letter {b : UInt8} {H : Heap} {Q : End → Heap → Prop} (h : Q (.ret (.bool (letterB b))) H) : wpf ⟨bt.get, o⟩ F_word_letter [.int .u8 b.toNat] H Q := by
  rw [fn_word_letter (ho _ _ _ (by decide))]
  by_cases h1 : 97 ≤ b.toNat
  · have h1' : (97 : Int) ≤ b.toNat := by omega
    by_cases h2 : b.toNat ≤ 122
    · have h2' : (b.toNat : Int) ≤ 122 := by omega
      simp only [bd_word_letter, go_sem, zA, zB, zC, reduceIte, zD, zE, zF, zG, zH, zI, reduceCtorEq, zJ, zK, zL, zM, zN, zO, zP, h1', h2']
      simpa only [letterB, h1, h2, go_sem, zA, zB, zC, reduceIte, zD, zE, zF, zG, zH, zI, reduceCtorEq, zJ, zK, zL, zM, zN, zO, zP] using h
    · have h2' : ¬(b.toNat : Int) ≤ 122 := by omega
      simp only [bd_word_letter, go_sem, zA, zB, zC, reduceIte, zD, zE, zF, zG, zH, zI, reduceCtorEq, zJ, zK, zL, zM, zN, zO, zP, h1', h2']
      simpa only [letterB, h1, h2, go_sem, zA, zB, zC, reduceIte, zD, zE, zF, zG, zH, zI, reduceCtorEq, zJ, zK, zL, zM, zN, zO, zP] using h
  · have h1' : ¬(97 : Int) ≤ b.toNat := by omega
    simp only [bd_word_letter, go_sem, zA, zB, zC, reduceIte, zD, zE, zF, zG, zH, zI, reduceCtorEq, zJ, zK, zL, zM, zN, zO, zP, h1']
    simpa only [letterB, h1, go_sem, zA, zB, zC, reduceIte, zD, zE, zF, zG, zH, zI, reduceCtorEq, zJ, zK, zL, zM, zN, zO, zP, Bool.false_and] using h
theorem w_digit {b : UInt8} {H : Heap} {Q : End → Heap → Prop} (h : Q (.ret (.bool (digitB b))) H) : wpf ⟨bt.get, o⟩ F_word_digit [.int .u8 b.toNat] H Q := by
  rw [fn_word_digit (ho _ _ _ (by decide))]
  by_cases h1 : 48 ≤ b.toNat
  · have h1' : (48 : Int) ≤ b.toNat := by omega
    by_cases h2 : b.toNat ≤ 57
    · have h2' : (b.toNat : Int) ≤ 57 := by omega
      simp only [bd_word_digit, go_sem, zA, zB, zC, reduceIte, zD, zE, zF, zG, zH, zI, reduceCtorEq, zJ, zK, zL, zM, zN, zO, zP, h1', h2']
      simpa only [digitB, h1, h2, go_sem, zA, zB, zC, reduceIte, zD, zE, zF, zG, zH, zI, reduceCtorEq, zJ, zK, zL, zM, zN, zO, zP] using h
    · have h2' : ¬(b.toNat : Int) ≤ 57 := by omega
      simp only [bd_word_digit, go_sem, zA, zB, zC, reduceIte, zD, zE, zF, zG, zH, zI, reduceCtorEq, zJ, zK, zL, zM, zN, zO, zP, h1', h2']
      simpa only [digitB, h1, h2, go_sem, zA, zB, zC, reduceIte, zD, zE, zF, zG, zH, zI, reduceCtorEq, zJ, zK, zL, zM, zN, zO, zP] using h
  · have h1' : ¬(48 : Int) ≤ b.toNat := by omega
    simp only [bd_word_digit, go_sem, zA, zB, zC, reduceIte, zD, zE, zF, zG, zH, zI, reduceCtorEq, zJ, zK, zL, zM, zN, zO, zP, h1']
    simpa only [digitB, h1, go_sem, zA, zB, zC, reduceIte, zD, zE, zF, zG, zH, zI, reduceCtorEq, zJ, zK, zL, zM, zN, zO, zP, Bool.false_and] using h
theorem w_words_1 {b : UInt8} {H : Heap} {Q : End → Heap → Prop} (h : Q (.ret (.bool (notNL b))) H) : wpf ⟨bt.get, o⟩ F_word_words_1 [.int .u8 b.toNat] H Q := by
  rw [fn_word_words_1 (ho _ _ _ (by decide))]
  have e : decide ((b.toNat : Int) = 10) = decide (b.toNat = 10) := by
    by_cases h1 : b.toNat = 10
    · simp [h1]
    · have : ¬(b.toNat : Int) = 10 := by omega
      simp [h1, this]
  simp only [bd_word_words_1, go_sem, zA, zB, zC, reduceIte, zD, zE, zF, zG, zH, zI, reduceCtorEq, zJ, zK, zL, zM, zN, zO, zP, e]
  exact h
theorem w_words_2 {b : UInt8} {H : Heap} {Q : End → Heap → Prop} (h : Q (.ret (.bool (ldB b))) H) : wpf ⟨bt.get, o⟩ F_word_words_2 [.int .u8 b.toNat] H Q := by
  rw [fn_word_words_2 (ho _ _ _ (by decide))]
  simp only [bd_word_words_2, go_sem, zA, zB, zC, reduceIte, zD, zE, zF, zG, zH, zI, reduceCtorEq, zJ, zK, zL, zM, zN, zO, zP]
  refine w_letter ho ?_
  simp only [go_sem, zA, zB, zC, reduceIte, zD, zE, zF, zG, zH, zI, reduceCtorEq, zJ, zK, zL, zM, zN, zO, zP]
  cases hl : letterB b
  · simp only [go_sem, zA, zB, zC, reduceIte, zD, zE, zF, zG, zH, zI, reduceCtorEq, zJ, zK, zL, zM, zN, zO, zP]
    refine w_digit ho ?_
    simp only [go_sem, zA, zB, zC, reduceIte, zD, zE, zF, zG, zH, zI, reduceCtorEq, zJ, zK, zL, zM, zN, zO, zP]
    simpa only [ldB, hl, Bool.false_or] using h
  · simp only [go_sem, zA, zB, zC, reduceIte, zD, zE, zF, zG, zH, zI, reduceCtorEq, zJ, zK, zL, zM, zN, zO, zP]
    simpa only [ldB, hl, Bool.true_or] using h
/-- How many bytes at the head are of a kind. -/
def runL (p : UInt8 → Bool) : List UInt8 → Nat
  | [] => 0
  | c :: r => if p c then runL p r + 1 else 0
/-- A function value that tells a byte's kind. -/
def Tells (o : CallF) (f : FuncId) (p : UInt8 → Bool) : Prop := ∀ (b : UInt8) (H : Heap) (Q : End → Heap → Prop), Q (.ret (.bool (p b))) H → wpf ⟨bt.get, o⟩ f [.int .u8 b.toNat] H Q
omit ho in
theorem at_drop {s : List UInt8} {at_ : Nat} {c : UInt8} {r : List UInt8} (h : s.drop at_ = c :: r) : s[at_]? = some c ∧ at_ < s.length ∧ s.drop (at_ + 1) = r := by
  have h0 : s[at_]? = some c := by
    have := congrArg (fun l => l[0]?) h
    simpa using this
  refine ⟨h0, (List.getElem?_eq_some_iff.1 h0).1, ?_⟩
  rw [← List.drop_drop, h]; rfl
omit ho in
theorem at_nil {s : List UInt8} {at_ : Nat} (h : s.drop at_ = []) : s.length ≤ at_ := List.drop_eq_nil_iff.1 h
omit ho in
theorem w_run_loop {s : List UInt8} (hs : s.length ≤ 1000000) {f : FuncId} {p : UInt8 → Bool} (hp : Tells o f p) {H : Heap} {Q : Ctl → St → Prop} : ∀ (r : List UInt8) (at_ : Nat), s.drop at_ = r → at_ ≤ s.length → (∀ t, Q (.exit 0) { p := [(0, .str s), (1, .int .i64 ((at_ + runL p r : Nat) : Int)), (2, .fn f []), (17, .bool false)], t := t, H := H, d := [], u := .norm }) → wpl ⟨bt.get, o⟩ [0, 1, 2] lb_word_run_0 { p := [(0, .str s), (1, .int .i64 (at_ : Int)), (2, .fn f [])], t := [], H := H, d := [], u := .norm } Q
  | [], at_, hr, ha, hQ => by
    have hl := at_nil hr
    rw [wpl_step]
    have h1 : ¬((at_ : Int) < (s.length : Int)) := by omega
    simp only [lb_word_run_0, go_sem, zA, zB, zC, reduceIte, zD, zE, zF, zG, zH, zI, reduceCtorEq, zJ, zK, zL, zM, zN, zO, zP, h1]
    exact hQ _
  | c :: r, at_, hr, ha, hQ => by
    obtain ⟨h0, h1, h2⟩ := at_drop hr
    rw [wpl_step]
    have h1' : ((at_ : Int) < (s.length : Int)) := by omega
    simp only [lb_word_run_0, go_sem, zA, zB, zC, reduceIte, zD, zE, zF, zG, zH, zI, reduceCtorEq, zJ, zK, zL, zM, zN, zO, zP, h1', Int.natCast_nonneg, h0]
    refine hp _ _ _ ?_
    cases hc : p c
    · simp only [go_sem, zA, zB, zC, reduceIte, zD, zE, zF, zG, zH, zI, reduceCtorEq, zJ, zK, zL, zM, zN, zO, zP]
      simp only [runL, hc, Bool.false_eq_true, if_false, Nat.add_zero] at hQ
      exact hQ _
    · simp only [go_sem, zA, zB, zC, reduceIte, zD, zE, zF, zG, zH, zI, reduceCtorEq, zJ, zK, zL, zM, zN, zO, zP]
      rw [wi64 (by omega) (by omega)]
      have e : at_ + runL p (c :: r) = at_ + 1 + runL p r := by simp only [runL, hc, if_true]; omega
      rw [e] at hQ
      exact w_run_loop hs hp r (at_ + 1) h2 (by omega) hQ
theorem w_run {s : List UInt8} (hs : s.length ≤ 1000000) {f : FuncId} {p : UInt8 → Bool} (hp : Tells o f p) {H : Heap} {at_ : Nat} (ha : at_ ≤ s.length) {Q : End → Heap → Prop} (h : Q (.ret (.int .i64 ((at_ + runL p (s.drop at_) : Nat) : Int))) H) : wpf ⟨bt.get, o⟩ F_word_run [.str s, .int .i64 (at_ : Int), .fn f []] H Q := by
  rw [fn_word_run (ho _ _ _ (by decide))]
  simp only [bd_word_run, go_sem, zA, zB, zC, reduceIte, zD, zE, zF, zG, zH, zI, reduceCtorEq, zJ, zK, zL, zM, zN, zO, zP]
  refine w_run_loop hs hp _ at_ rfl ha fun t => ?_
  simp only [go_sem, zA, zB, zC, reduceIte, zD, zE, zF, zG, zH, zI, reduceCtorEq, zJ, zK, zL, zM, zN, zO, zP]
  exact h
theorem tells_words_1 : Tells o F_word_words_1 notNL := fun b H Q h => w_words_1 ho h
theorem tells_words_2 : Tells o F_word_words_2 ldB := fun b H Q h => w_words_2 ho h
theorem tells_digit : Tells o F_word_digit digitB := fun b H Q h => w_digit ho h
theorem w_Fail {c n : Int} {H : Heap} {Q : End → Heap → Prop} (h : Q (.pan [(.iface T_word_Fault (.agg [.int .i64 c, .int .i64 n]), false)]) H) : wpf ⟨bt.get, o⟩ F_word_Fail [.int .i64 c, .int .i64 n] H Q := by
  rw [fn_word_Fail (ho _ _ _ (by decide))]
  simp only [bd_word_Fail, go_sem, zA, zB, zC, reduceIte, zD, zE, zF, zG, zH, zI, reduceCtorEq, zJ, zK, zL, zM, zN, zO, zP]
  exact h
/-- Where an expression's end stands, behind its first sign. -/
def closedL : List UInt8 → Option Nat
  | [] => none
  | [c] => if c.toNat = 10 then none else if c.toNat = 47 then some 0 else none
  | c :: d :: r => if c.toNat = 10 then none else if c.toNat = 47 then some 0 else if c.toNat = 92 then (if d.toNat = 10 then none else (closedL r).map (· + 2)) else (closedL (d :: r)).map (· + 1)
omit ho in
theorem wsucc {n : Nat} (h : n ≤ 1000000000) : IntKind.i64.wrap ((n : Int) + 1) = ((n + 1 : Nat) : Int) := by
  rw [wi64 (by omega) (by omega)]; rfl
omit ho in
theorem dec_u8 {b : UInt8} {k : Nat} : decide ((b.toNat : Int) = (k : Int)) = decide (b.toNat = k) := by
  by_cases h : b.toNat = k
  · simp [h]
  · have : ¬((b.toNat : Int) = (k : Int)) := by omega
    simp [h, this]
/-- What a fault is panicked with. -/
abbrev faultA (c n : Int) : AV := .iface T_word_Fault (.agg [.int .i64 c, .int .i64 n])
theorem w_closed_loop {s : List UInt8} (hs : s.length ≤ 1000000) {a : Int} {H : Heap} {Q : Ctl → St → Prop} : ∀ (m : Nat) (r : List UInt8) (i : Nat), r.length ≤ m → s.drop i = r → i ≤ s.length →
    (closedL r = none → ∀ σ : St, σ.H = H → σ.d = [] → lk 1 σ.p = some (.int .i64 a) → Q (.exit 0) σ) →
    (closedL r = none → ∀ σ : St, σ.H = H → σ.d = [] → Q (.panic [(faultA 2 a, false)]) σ) →
    (∀ k, closedL r = some k → ∀ σ : St, σ.H = H → σ.d = [] → lk 4 σ.p = some (.int .i64 ((i + k : Nat) : Int)) → Q .ret σ) →
    wpl ⟨bt.get, o⟩ [0, 1, 5] lb_word_closed_0 { p := [(0, .str s), (1, .int .i64 a), (5, .int .i64 (i : Int))], t := [], H := H, d := [], u := .norm } Q := by
  intro m
  induction m with
  | zero =>
    intro r i hm hr hi hE hP hR
    have : r = [] := by cases r; rfl; simp at hm
    subst this
    have hl := at_nil hr
    rw [wpl_step]
    have h1 : ¬((i : Int) < (s.length : Int)) := by omega
    simp only [lb_word_closed_0, go_sem, zA, zB, zC, reduceIte, zD, zE, zF, zG, zH, zI, reduceCtorEq, zJ, zK, zL, zM, zN, zO, zP, h1]
    exact hE rfl _ rfl rfl rfl
  | succ m ih =>
    intro r i hm hr hi hE hP hR
    cases r with
    | nil =>
      have hl := at_nil hr
      rw [wpl_step]
      have h1 : ¬((i : Int) < (s.length : Int)) := by omega
      simp only [lb_word_closed_0, go_sem, zA, zB, zC, reduceIte, zD, zE, zF, zG, zH, zI, reduceCtorEq, zJ, zK, zL, zM, zN, zO, zP, h1]
      exact hE rfl _ rfl rfl rfl
    | cons c r =>
      obtain ⟨h0, h1, h2⟩ := at_drop hr
      rw [wpl_step]
      have h1' : ((i : Int) < (s.length : Int)) := by omega
      simp only [lb_word_closed_0, go_sem, zA, zB, zC, reduceIte, zD, zE, zF, zG, zH, zI, reduceCtorEq, zJ, zK, zL, zM, zN, zO, zP, h1', Int.natCast_nonneg, h0]
      by_cases c10 : c.toNat = 10
      · have c10' : ((c.toNat : Int) = 10) := by omega
        simp only [go_sem, zA, zB, zC, reduceIte, zD, zE, zF, zG, zH, zI, reduceCtorEq, zJ, zK, zL, zM, zN, zO, zP, c10']
        exact hE (by cases r <;> simp only [closedL, c10, if_true]) _ rfl rfl rfl
      · have c10' : ¬((c.toNat : Int) = 10) := by omega
        simp only [go_sem, zA, zB, zC, reduceIte, zD, zE, zF, zG, zH, zI, reduceCtorEq, zJ, zK, zL, zM, zN, zO, zP, c10', h0, Int.natCast_nonneg]
        by_cases c47 : c.toNat = 47
        · have c47' : ((c.toNat : Int) = 47) := by omega
          simp only [go_sem, zA, zB, zC, reduceIte, zD, zE, zF, zG, zH, zI, reduceCtorEq, zJ, zK, zL, zM, zN, zO, zP, c47']
          exact hR 0 (by cases r <;> simp [closedL, c47]) _ rfl rfl rfl
        · have c47' : ¬((c.toNat : Int) = 47) := by omega
          simp only [go_sem, zA, zB, zC, reduceIte, zD, zE, zF, zG, zH, zI, reduceCtorEq, zJ, zK, zL, zM, zN, zO, zP, c47']
          by_cases c92 : c.toNat = 92
          · have c92' : ((c.toNat : Int) = 92) := by omega
            simp only [go_sem, zA, zB, zC, reduceIte, zD, zE, zF, zG, zH, zI, reduceCtorEq, zJ, zK, zL, zM, zN, zO, zP, c92', wsucc (show i ≤ 1000000000 by omega)]
            cases r with
            | nil =>
              have hl := at_nil h2
              have e : ((i + 1 : Nat) : Int) = (s.length : Int) := by omega
              simp only [go_sem, zA, zB, zC, reduceIte, zD, zE, zF, zG, zH, zI, reduceCtorEq, zJ, zK, zL, zM, zN, zO, zP, e]
              refine w_Fail ho ?_
              simp only [go_sem, zA, zB, zC, reduceIte, zD, zE, zF, zG, zH, zI, reduceCtorEq, zJ, zK, zL, zM, zN, zO, zP]
              exact hP (by simp [closedL, c47, c10]) _ rfl rfl
            | cons d r =>
              obtain ⟨g0, g1, g2⟩ := at_drop h2
              have e : ¬((i + 1 : Nat) : Int) = (s.length : Int) := by omega
              simp only [go_sem, zA, zB, zC, reduceIte, zD, zE, zF, zG, zH, zI, reduceCtorEq, zJ, zK, zL, zM, zN, zO, zP, e, g0, Int.natCast_nonneg]
              by_cases d10 : d.toNat = 10
              · have d10' : ((d.toNat : Int) = 10) := by omega
                simp only [go_sem, zA, zB, zC, reduceIte, zD, zE, zF, zG, zH, zI, reduceCtorEq, zJ, zK, zL, zM, zN, zO, zP, d10']
                refine w_Fail ho ?_
                simp only [go_sem, zA, zB, zC, reduceIte, zD, zE, zF, zG, zH, zI, reduceCtorEq, zJ, zK, zL, zM, zN, zO, zP]
                exact hP (by simp [closedL, c47, c10, c92, d10]) _ rfl rfl
              · have d10' : ¬((d.toNat : Int) = 10) := by omega
                simp only [go_sem, zA, zB, zC, reduceIte, zD, zE, zF, zG, zH, zI, reduceCtorEq, zJ, zK, zL, zM, zN, zO, zP, d10', wsucc (show i + 1 ≤ 1000000000 by omega)]
                have e2 : closedL (c :: d :: r) = (closedL r).map (· + 2) := by simp [closedL, c92, d10]
                refine ih r (i + 2) (by simp at hm; omega) g2 (by omega) (fun hn => hE (by rw [e2, hn]; rfl)) (fun hn => hP (by rw [e2, hn]; rfl)) fun k hk σ s1 s2 s3 => hR (k + 2) (by rw [e2, hk]; rfl) σ s1 s2 (by rw [s3]; congr 2; omega)
          · have c92' : ¬((c.toNat : Int) = 92) := by omega
            simp only [go_sem, zA, zB, zC, reduceIte, zD, zE, zF, zG, zH, zI, reduceCtorEq, zJ, zK, zL, zM, zN, zO, zP, c92', wsucc (show i ≤ 1000000000 by omega)]
            have e2 : closedL (c :: r) = (closedL r).map (· + 1) := by cases r <;> simp [closedL, c10, c47, c92]
            refine ih r (i + 1) (by simp at hm; omega) h2 (by omega) (fun hn => hE (by rw [e2, hn]; rfl)) (fun hn => hP (by rw [e2, hn]; rfl)) fun k hk σ s1 s2 s3 => hR (k + 1) (by rw [e2, hk]; rfl) σ s1 s2 (by rw [s3]; congr 2; omega)
theorem w_closed {s : List UInt8} (hs : s.length ≤ 1000000) {a : Nat} (ha : a < s.length) {H : Heap} {Q : End → Heap → Prop}
    (hn : closedL (s.drop (a + 1)) = none → Q (.pan [(faultA 2 a, false)]) H) (hk : ∀ k, closedL (s.drop (a + 1)) = some k → Q (.ret (.int .i64 ((a + 1 + k : Nat) : Int))) H) : wpf ⟨bt.get, o⟩ F_word_closed [.str s, .int .i64 (a : Int)] H Q := by
  rw [fn_word_closed (ho _ _ _ (by decide))]
  simp only [bd_word_closed, go_sem, zA, zB, zC, reduceIte, zD, zE, zF, zG, zH, zI, reduceCtorEq, zJ, zK, zL, zM, zN, zO, zP, wsucc (show a ≤ 1000000000 by omega)]
  refine w_closed_loop ho hs _ _ (a + 1) (Nat.le_refl _) rfl (by omega) (fun h σ s1 s2 s3 => ?_) (fun h σ s1 s2 => ?_) (fun k h σ s1 s2 s3 => ?_)
  · simp only [go_sem, zA, zB, zC, reduceIte, zD, zE, zF, zG, zH, zI, reduceCtorEq, zJ, zK, zL, zM, zN, zO, zP, s1, s2, s3]
    refine w_Fail ho ?_
    simp only [go_sem, zA, zB, zC, reduceIte, zD, zE, zF, zG, zH, zI, reduceCtorEq, zJ, zK, zL, zM, zN, zO, zP]
    exact hn h
  · simp only [go_sem, zA, zB, zC, reduceIte, zD, zE, zF, zG, zH, zI, reduceCtorEq, zJ, zK, zL, zM, zN, zO, zP, s1, s2]
    exact hn h
  · simp only [go_sem, zA, zB, zC, reduceIte, zD, zE, zF, zG, zH, zI, reduceCtorEq, zJ, zK, zL, zM, zN, zO, zP, s1, s2, s3]
    exact hk k h
end
end Go.Ev
/- Each printed function is the program's: printed by gen.py. -/
namespace Go.Ev
open Go Go.Proofs
theorem ck3 : chkFn Tryz.prog chkDrawn Tryz.f3 cf_gobolaw13_ParseBrackets = true := by kernel_rfl
theorem at3 : Tryz.prog.funcs[3]? = some Tryz.f3 := by kernel_rfl
theorem ck4 : chkFn Tryz.prog chkDrawn Tryz.f4 cf_gobolaw6_Make = true := by kernel_rfl
theorem at4 : Tryz.prog.funcs[4]? = some Tryz.f4 := by kernel_rfl
theorem ck5 : chkFn Tryz.prog chkDrawn Tryz.f5 cf_goboref11_PrintRe = true := by kernel_rfl
theorem at5 : Tryz.prog.funcs[5]? = some Tryz.f5 := by kernel_rfl
theorem ck6 : chkFn Tryz.prog chkDrawn Tryz.f6 cf_parse_Re = true := by kernel_rfl
theorem at6 : Tryz.prog.funcs[6]? = some Tryz.f6 := by kernel_rfl
theorem ck7 : chkFn Tryz.prog chkDrawn Tryz.f7 cf_goboref6_Same = true := by kernel_rfl
theorem at7 : Tryz.prog.funcs[7]? = some Tryz.f7 := by kernel_rfl
theorem ck8 : chkFn Tryz.prog chkDrawn Tryz.f8 cf_gobolaw13_told = true := by kernel_rfl
theorem at8 : Tryz.prog.funcs[8]? = some Tryz.f8 := by kernel_rfl
theorem ck9 : chkFn Tryz.prog chkDrawn Tryz.f9 cf_gobolaw6_One = true := by kernel_rfl
theorem at9 : Tryz.prog.funcs[9]? = some Tryz.f9 := by kernel_rfl
theorem ck10 : chkFn Tryz.prog chkDrawn Tryz.f10 cf_goboref6_May = true := by kernel_rfl
theorem at10 : Tryz.prog.funcs[10]? = some Tryz.f10 := by kernel_rfl
theorem ck11 : chkFn Tryz.prog chkDrawn Tryz.f11 cf_goboref11_re = true := by kernel_rfl
theorem at11 : Tryz.prog.funcs[11]? = some Tryz.f11 := by kernel_rfl
theorem ck12 : chkFn Tryz.prog chkDrawn Tryz.f12 cf_word_Caught = true := by kernel_rfl
theorem at12 : Tryz.prog.funcs[12]? = some Tryz.f12 := by kernel_rfl
theorem ck13 : chkFn Tryz.prog chkDrawn Tryz.f13 cf_parse_Re_1 = true := by kernel_rfl
theorem at13 : Tryz.prog.funcs[13]? = some Tryz.f13 := by kernel_rfl
theorem ck14 : chkFn Tryz.prog chkDrawn Tryz.f14 cf_word_Read = true := by kernel_rfl
theorem at14 : Tryz.prog.funcs[14]? = some Tryz.f14 := by kernel_rfl
theorem ck15 : chkFn Tryz.prog chkDrawn Tryz.f15 cf_parse_regex_all = true := by kernel_rfl
theorem at15 : Tryz.prog.funcs[15]? = some Tryz.f15 := by kernel_rfl
theorem ck16 : chkFn Tryz.prog chkDrawn Tryz.f16 cf_word_Reader_Peek = true := by kernel_rfl
theorem at16 : Tryz.prog.funcs[16]? = some Tryz.f16 := by kernel_rfl
theorem ck17 : chkFn Tryz.prog chkDrawn Tryz.f17 cf_word_Fail = true := by kernel_rfl
theorem at17 : Tryz.prog.funcs[17]? = some Tryz.f17 := by kernel_rfl
theorem ck18 : chkFn Tryz.prog chkDrawn Tryz.f18 cf_word_Reader_At = true := by kernel_rfl
theorem at18 : Tryz.prog.funcs[18]? = some Tryz.f18 := by kernel_rfl
theorem ck19 : chkFn Tryz.prog chkDrawn Tryz.f19 cf_goboref3_Same = true := by kernel_rfl
theorem at19 : Tryz.prog.funcs[19]? = some Tryz.f19 := by kernel_rfl
theorem ck20 : chkFn Tryz.prog chkDrawn Tryz.f20 cf_parse_Source = true := by kernel_rfl
theorem at20 : Tryz.prog.funcs[20]? = some Tryz.f20 := by kernel_rfl
theorem ck21 : chkFn Tryz.prog chkDrawn Tryz.f21 cf_goboref6_Count = true := by kernel_rfl
theorem at21 : Tryz.prog.funcs[21]? = some Tryz.f21 := by kernel_rfl
theorem ck22 : chkFn Tryz.prog chkDrawn Tryz.f22 cf_goboref6_parts = true := by kernel_rfl
theorem at22 : Tryz.prog.funcs[22]? = some Tryz.f22 := by kernel_rfl
theorem ck23 : chkFn Tryz.prog chkDrawn Tryz.f23 cf_goboref11_Set = true := by kernel_rfl
theorem at23 : Tryz.prog.funcs[23]? = some Tryz.f23 := by kernel_rfl
theorem ck24 : chkFn Tryz.prog chkDrawn Tryz.f24 cf_goboref11_in = true := by kernel_rfl
theorem at24 : Tryz.prog.funcs[24]? = some Tryz.f24 := by kernel_rfl
theorem ck25 : chkFn Tryz.prog chkDrawn Tryz.f25 cf_word_Caught_1 = true := by kernel_rfl
theorem at25 : Tryz.prog.funcs[25]? = some Tryz.f25 := by kernel_rfl
theorem ck26 : chkFn Tryz.prog chkDrawn Tryz.f26 cf_decode_All = true := by kernel_rfl
theorem at26 : Tryz.prog.funcs[26]? = some Tryz.f26 := by kernel_rfl
end Go.Ev
/- Each printed function is the program's: printed by gen.py. -/
namespace Go.Ev
open Go Go.Proofs
theorem ck27 : chkFn Tryz.prog chkDrawn Tryz.f27 cf_parse_regex_row = true := by kernel_rfl
theorem at27 : Tryz.prog.funcs[27]? = some Tryz.f27 := by kernel_rfl
theorem ck28 : chkFn Tryz.prog chkDrawn Tryz.f28 cf_word_Reader_Skip = true := by kernel_rfl
theorem at28 : Tryz.prog.funcs[28]? = some Tryz.f28 := by kernel_rfl
theorem ck29 : chkFn Tryz.prog chkDrawn Tryz.f29 cf_parse_two = true := by kernel_rfl
theorem at29 : Tryz.prog.funcs[29]? = some Tryz.f29 := by kernel_rfl
theorem ck30 : chkFn Tryz.prog chkDrawn Tryz.f30 cf_word_All = true := by kernel_rfl
theorem at30 : Tryz.prog.funcs[30]? = some Tryz.f30 := by kernel_rfl
theorem ck31 : chkFn Tryz.prog chkDrawn Tryz.f31 cf_parse_Source_1 = true := by kernel_rfl
theorem at31 : Tryz.prog.funcs[31]? = some Tryz.f31 := by kernel_rfl
theorem ck32 : chkFn Tryz.prog chkDrawn Tryz.f32 cf_parse_source_peek = true := by kernel_rfl
theorem at32 : Tryz.prog.funcs[32]? = some Tryz.f32 := by kernel_rfl
theorem ck33 : chkFn Tryz.prog chkDrawn Tryz.f33 cf_parse_source_line = true := by kernel_rfl
theorem at33 : Tryz.prog.funcs[33]? = some Tryz.f33 := by kernel_rfl
theorem ck34 : chkFn Tryz.prog chkDrawn Tryz.f34 cf_gram_Check = true := by kernel_rfl
theorem at34 : Tryz.prog.funcs[34]? = some Tryz.f34 := by kernel_rfl
theorem ck35 : chkFn Tryz.prog chkDrawn Tryz.f35 cf_parse_source_place = true := by kernel_rfl
theorem at35 : Tryz.prog.funcs[35]? = some Tryz.f35 := by kernel_rfl
theorem ck36 : chkFn Tryz.prog chkDrawn Tryz.f36 cf_goboref6_count = true := by kernel_rfl
theorem at36 : Tryz.prog.funcs[36]? = some Tryz.f36 := by kernel_rfl
theorem ck37 : chkFn Tryz.prog chkDrawn Tryz.f37 cf_goboref3_May = true := by kernel_rfl
theorem at37 : Tryz.prog.funcs[37]? = some Tryz.f37 := by kernel_rfl
theorem ck38 : chkFn Tryz.prog chkDrawn Tryz.f38 cf_goboref11_hex = true := by kernel_rfl
theorem at38 : Tryz.prog.funcs[38]? = some Tryz.f38 := by kernel_rfl
theorem ck39 : chkFn Tryz.prog chkDrawn Tryz.f39 cf_decode_New = true := by kernel_rfl
theorem at39 : Tryz.prog.funcs[39]? = some Tryz.f39 := by kernel_rfl
theorem ck40 : chkFn Tryz.prog chkDrawn Tryz.f40 cf_decode_Dec_Feed = true := by kernel_rfl
theorem at40 : Tryz.prog.funcs[40]? = some Tryz.f40 := by kernel_rfl
theorem ck41 : chkFn Tryz.prog chkDrawn Tryz.f41 cf_decode_Dec_Close = true := by kernel_rfl
theorem at41 : Tryz.prog.funcs[41]? = some Tryz.f41 := by kernel_rfl
theorem ck42 : chkFn Tryz.prog chkDrawn Tryz.f42 cf_parse_regex_atom = true := by kernel_rfl
theorem at42 : Tryz.prog.funcs[42]? = some Tryz.f42 := by kernel_rfl
theorem ck43 : chkFn Tryz.prog chkDrawn Tryz.f43 cf_word_All_1 = true := by kernel_rfl
theorem at43 : Tryz.prog.funcs[43]? = some Tryz.f43 := by kernel_rfl
theorem ck44 : chkFn Tryz.prog chkDrawn Tryz.f44 cf_word_words = true := by kernel_rfl
theorem at44 : Tryz.prog.funcs[44]? = some Tryz.f44 := by kernel_rfl
theorem ck45 : chkFn Tryz.prog chkDrawn Tryz.f45 cf_parse_source_next = true := by kernel_rfl
theorem at45 : Tryz.prog.funcs[45]? = some Tryz.f45 := by kernel_rfl
theorem ck46 : chkFn Tryz.prog chkDrawn Tryz.f46 cf_parse_source_token = true := by kernel_rfl
theorem at46 : Tryz.prog.funcs[46]? = some Tryz.f46 := by kernel_rfl
theorem ck47 : chkFn Tryz.prog chkDrawn Tryz.f47 cf_parse_source_rule = true := by kernel_rfl
theorem at47 : Tryz.prog.funcs[47]? = some Tryz.f47 := by kernel_rfl
theorem ck48 : chkFn Tryz.prog chkDrawn Tryz.f48 cf_gram_caught = true := by kernel_rfl
theorem at48 : Tryz.prog.funcs[48]? = some Tryz.f48 := by kernel_rfl
theorem ck49 : chkFn Tryz.prog chkDrawn Tryz.f49 cf_gram_Check_1 = true := by kernel_rfl
theorem at49 : Tryz.prog.funcs[49]? = some Tryz.f49 := by kernel_rfl
theorem ck50 : chkFn Tryz.prog chkDrawn Tryz.f50 cf_gram_court_must = true := by kernel_rfl
theorem at50 : Tryz.prog.funcs[50]? = some Tryz.f50 := by kernel_rfl
end Go.Ev
/- Each printed function is the program's: printed by gen.py. -/
namespace Go.Ev
open Go Go.Proofs
theorem ck51 : chkFn Tryz.prog chkDrawn Tryz.f51 cf_gram_court_token = true := by kernel_rfl
theorem at51 : Tryz.prog.funcs[51]? = some Tryz.f51 := by kernel_rfl
theorem ck52 : chkFn Tryz.prog chkDrawn Tryz.f52 cf_gram_court_rule = true := by kernel_rfl
theorem at52 : Tryz.prog.funcs[52]? = some Tryz.f52 := by kernel_rfl
theorem ck53 : chkFn Tryz.prog chkDrawn Tryz.f53 cf_goboref3_Norm = true := by kernel_rfl
theorem at53 : Tryz.prog.funcs[53]? = some Tryz.f53 := by kernel_rfl
theorem ck54 : chkFn Tryz.prog chkDrawn Tryz.f54 cf_goboref11_small = true := by kernel_rfl
theorem at54 : Tryz.prog.funcs[54]? = some Tryz.f54 := by kernel_rfl
theorem ck55 : chkFn Tryz.prog chkDrawn Tryz.f55 cf_goboref11_digit = true := by kernel_rfl
theorem at55 : Tryz.prog.funcs[55]? = some Tryz.f55 := by kernel_rfl
theorem ck56 : chkFn Tryz.prog chkDrawn Tryz.f56 cf_decode_Dec_take = true := by kernel_rfl
theorem at56 : Tryz.prog.funcs[56]? = some Tryz.f56 := by kernel_rfl
theorem ck57 : chkFn Tryz.prog chkDrawn Tryz.f57 cf_decode_Dec_taken = true := by kernel_rfl
theorem at57 : Tryz.prog.funcs[57]? = some Tryz.f57 := by kernel_rfl
theorem ck58 : chkFn Tryz.prog chkDrawn Tryz.f58 cf_decode_Dec_tell = true := by kernel_rfl
theorem at58 : Tryz.prog.funcs[58]? = some Tryz.f58 := by kernel_rfl
theorem ck59 : chkFn Tryz.prog chkDrawn Tryz.f59 cf_word_Reader_Must = true := by kernel_rfl
theorem at59 : Tryz.prog.funcs[59]? = some Tryz.f59 := by kernel_rfl
theorem ck60 : chkFn Tryz.prog chkDrawn Tryz.f60 cf_word_Reader_Class = true := by kernel_rfl
theorem at60 : Tryz.prog.funcs[60]? = some Tryz.f60 := by kernel_rfl
theorem ck61 : chkFn Tryz.prog chkDrawn Tryz.f61 cf_parse_set = true := by kernel_rfl
theorem at61 : Tryz.prog.funcs[61]? = some Tryz.f61 := by kernel_rfl
theorem ck62 : chkFn Tryz.prog chkDrawn Tryz.f62 cf_runes_Not = true := by kernel_rfl
theorem at62 : Tryz.prog.funcs[62]? = some Tryz.f62 := by kernel_rfl
theorem ck63 : chkFn Tryz.prog chkDrawn Tryz.f63 cf_word_Reader_Rune = true := by kernel_rfl
theorem at63 : Tryz.prog.funcs[63]? = some Tryz.f63 := by kernel_rfl
theorem ck64 : chkFn Tryz.prog chkDrawn Tryz.f64 cf_word_run = true := by kernel_rfl
theorem at64 : Tryz.prog.funcs[64]? = some Tryz.f64 := by kernel_rfl
theorem ck65 : chkFn Tryz.prog chkDrawn Tryz.f65 cf_word_words_1 = true := by kernel_rfl
theorem at65 : Tryz.prog.funcs[65]? = some Tryz.f65 := by kernel_rfl
theorem ck66 : chkFn Tryz.prog chkDrawn Tryz.f66 cf_word_letter = true := by kernel_rfl
theorem at66 : Tryz.prog.funcs[66]? = some Tryz.f66 := by kernel_rfl
theorem ck67 : chkFn Tryz.prog chkDrawn Tryz.f67 cf_word_words_2 = true := by kernel_rfl
theorem at67 : Tryz.prog.funcs[67]? = some Tryz.f67 := by kernel_rfl
theorem ck68 : chkFn Tryz.prog chkDrawn Tryz.f68 cf_word_digit = true := by kernel_rfl
theorem at68 : Tryz.prog.funcs[68]? = some Tryz.f68 := by kernel_rfl
theorem ck69 : chkFn Tryz.prog chkDrawn Tryz.f69 cf_strings_IndexByte = true := by kernel_rfl
theorem at69 : Tryz.prog.funcs[69]? = some Tryz.f69 := by kernel_rfl
theorem ck70 : chkFn Tryz.prog chkDrawn Tryz.f70 cf_word_closed = true := by kernel_rfl
theorem at70 : Tryz.prog.funcs[70]? = some Tryz.f70 := by kernel_rfl
theorem ck71 : chkFn Tryz.prog chkDrawn Tryz.f71 cf_parse_source_name = true := by kernel_rfl
theorem at71 : Tryz.prog.funcs[71]? = some Tryz.f71 := by kernel_rfl
theorem ck72 : chkFn Tryz.prog chkDrawn Tryz.f72 cf_parse_source_class = true := by kernel_rfl
theorem at72 : Tryz.prog.funcs[72]? = some Tryz.f72 := by kernel_rfl
theorem ck73 : chkFn Tryz.prog chkDrawn Tryz.f73 cf_parse_source_must = true := by kernel_rfl
theorem at73 : Tryz.prog.funcs[73]? = some Tryz.f73 := by kernel_rfl
theorem ck74 : chkFn Tryz.prog chkDrawn Tryz.f74 cf_parse_source_is = true := by kernel_rfl
theorem at74 : Tryz.prog.funcs[74]? = some Tryz.f74 := by kernel_rfl
end Go.Ev
/- Each printed function is the program's: printed by gen.py. -/
namespace Go.Ev
open Go Go.Proofs
theorem ck75 : chkFn Tryz.prog chkDrawn Tryz.f75 cf_parse_source_skip = true := by kernel_rfl
theorem at75 : Tryz.prog.funcs[75]? = some Tryz.f75 := by kernel_rfl
theorem ck76 : chkFn Tryz.prog chkDrawn Tryz.f76 cf_parse_source_list = true := by kernel_rfl
theorem at76 : Tryz.prog.funcs[76]? = some Tryz.f76 := by kernel_rfl
theorem ck77 : chkFn Tryz.prog chkDrawn Tryz.f77 cf_parse_source_pattern = true := by kernel_rfl
theorem at77 : Tryz.prog.funcs[77]? = some Tryz.f77 := by kernel_rfl
theorem ck78 : chkFn Tryz.prog chkDrawn Tryz.f78 cf_gram_caught_1 = true := by kernel_rfl
theorem at78 : Tryz.prog.funcs[78]? = some Tryz.f78 := by kernel_rfl
theorem ck79 : chkFn Tryz.prog chkDrawn Tryz.f79 cf_gram_Name = true := by kernel_rfl
theorem at79 : Tryz.prog.funcs[79]? = some Tryz.f79 := by kernel_rfl
theorem ck80 : chkFn Tryz.prog chkDrawn Tryz.f80 cf_gram_Find = true := by kernel_rfl
theorem at80 : Tryz.prog.funcs[80]? = some Tryz.f80 := by kernel_rfl
theorem ck81 : chkFn Tryz.prog chkDrawn Tryz.f81 cf_gram_court_class = true := by kernel_rfl
theorem at81 : Tryz.prog.funcs[81]? = some Tryz.f81 := by kernel_rfl
theorem ck82 : chkFn Tryz.prog chkDrawn Tryz.f82 cf_regex_May = true := by kernel_rfl
theorem at82 : Tryz.prog.funcs[82]? = some Tryz.f82 := by kernel_rfl
theorem ck83 : chkFn Tryz.prog chkDrawn Tryz.f83 cf_regex_Empty = true := by kernel_rfl
theorem at83 : Tryz.prog.funcs[83]? = some Tryz.f83 := by kernel_rfl
theorem ck84 : chkFn Tryz.prog chkDrawn Tryz.f84 cf_gram_court_names = true := by kernel_rfl
theorem at84 : Tryz.prog.funcs[84]? = some Tryz.f84 := by kernel_rfl
theorem ck85 : chkFn Tryz.prog chkDrawn Tryz.f85 cf_gram_court_pattern = true := by kernel_rfl
theorem at85 : Tryz.prog.funcs[85]? = some Tryz.f85 := by kernel_rfl
theorem ck86 : chkFn Tryz.prog chkDrawn Tryz.f86 cf_goboref3_pick = true := by kernel_rfl
theorem at86 : Tryz.prog.funcs[86]? = some Tryz.f86 := by kernel_rfl
theorem ck87 : chkFn Tryz.prog chkDrawn Tryz.f87 cf_goboref3_cells = true := by kernel_rfl
theorem at87 : Tryz.prog.funcs[87]? = some Tryz.f87 := by kernel_rfl
theorem ck88 : chkFn Tryz.prog chkDrawn Tryz.f88 cf_decode_Dec_more = true := by kernel_rfl
theorem at88 : Tryz.prog.funcs[88]? = some Tryz.f88 := by kernel_rfl
theorem ck89 : chkFn Tryz.prog chkDrawn Tryz.f89 cf_utf8_DecodeRune = true := by kernel_rfl
theorem at89 : Tryz.prog.funcs[89]? = some Tryz.f89 := by kernel_rfl
theorem ck90 : chkFn Tryz.prog chkDrawn Tryz.f90 cf_runes_Norm = true := by kernel_rfl
theorem at90 : Tryz.prog.funcs[90]? = some Tryz.f90 := by kernel_rfl
theorem ck91 : chkFn Tryz.prog chkDrawn Tryz.f91 cf_runes_Not_1 = true := by kernel_rfl
theorem at91 : Tryz.prog.funcs[91]? = some Tryz.f91 := by kernel_rfl
theorem ck92 : chkFn Tryz.prog chkDrawn Tryz.f92 cf_runes_spans = true := by kernel_rfl
theorem at92 : Tryz.prog.funcs[92]? = some Tryz.f92 := by kernel_rfl
theorem ck93 : chkFn Tryz.prog chkDrawn Tryz.f93 cf_runes_ranges = true := by kernel_rfl
theorem at93 : Tryz.prog.funcs[93]? = some Tryz.f93 := by kernel_rfl
theorem ck94 : chkFn Tryz.prog chkDrawn Tryz.f94 cf_word_hasRune = true := by kernel_rfl
theorem at94 : Tryz.prog.funcs[94]? = some Tryz.f94 := by kernel_rfl
theorem ck95 : chkFn Tryz.prog chkDrawn Tryz.f95 cf_word_Reader_number = true := by kernel_rfl
theorem at95 : Tryz.prog.funcs[95]? = some Tryz.f95 := by kernel_rfl
theorem ck96 : chkFn Tryz.prog chkDrawn Tryz.f96 cf_stringslite_IndexByte = true := by kernel_rfl
theorem at96 : Tryz.prog.funcs[96]? = some Tryz.f96 := by kernel_rfl
theorem ck97 : chkFn Tryz.prog chkDrawn Tryz.f97 cf_strconv_Atoi = true := by kernel_rfl
theorem at97 : Tryz.prog.funcs[97]? = some Tryz.f97 := by kernel_rfl
theorem ck98 : chkFn Tryz.prog chkDrawn Tryz.f98 cf_parse_source_names = true := by kernel_rfl
theorem at98 : Tryz.prog.funcs[98]? = some Tryz.f98 := by kernel_rfl
end Go.Ev
/- Each printed function is the program's: printed by gen.py. -/
namespace Go.Ev
open Go Go.Proofs
theorem ck99 : chkFn Tryz.prog chkDrawn Tryz.f99 cf_parse_source_row = true := by kernel_rfl
theorem at99 : Tryz.prog.funcs[99]? = some Tryz.f99 := by kernel_rfl
theorem ck100 : chkFn Tryz.prog chkDrawn Tryz.f100 cf_slices_Contains_string_string = true := by kernel_rfl
theorem at100 : Tryz.prog.funcs[100]? = some Tryz.f100 := by kernel_rfl
theorem ck101 : chkFn Tryz.prog chkDrawn Tryz.f101 cf_slices_IndexFunc_api_Token_api_Token = true := by kernel_rfl
theorem at101 : Tryz.prog.funcs[101]? = some Tryz.f101 := by kernel_rfl
theorem ck102 : chkFn Tryz.prog chkDrawn Tryz.f102 cf_gram_Find_1 = true := by kernel_rfl
theorem at102 : Tryz.prog.funcs[102]? = some Tryz.f102 := by kernel_rfl
theorem ck103 : chkFn Tryz.prog chkDrawn Tryz.f103 cf_regex_within = true := by kernel_rfl
theorem at103 : Tryz.prog.funcs[103]? = some Tryz.f103 := by kernel_rfl
theorem ck104 : chkFn Tryz.prog chkDrawn Tryz.f104 cf_regex_may = true := by kernel_rfl
theorem at104 : Tryz.prog.funcs[104]? = some Tryz.f104 := by kernel_rfl
theorem ck105 : chkFn Tryz.prog chkDrawn Tryz.f105 cf_regex_empty = true := by kernel_rfl
theorem at105 : Tryz.prog.funcs[105]? = some Tryz.f105 := by kernel_rfl
theorem ck106 : chkFn Tryz.prog chkDrawn Tryz.f106 cf_gram_few = true := by kernel_rfl
theorem at106 : Tryz.prog.funcs[106]? = some Tryz.f106 := by kernel_rfl
theorem ck107 : chkFn Tryz.prog chkDrawn Tryz.f107 cf_gram_court_node = true := by kernel_rfl
theorem at107 : Tryz.prog.funcs[107]? = some Tryz.f107 := by kernel_rfl
theorem ck108 : chkFn Tryz.prog chkDrawn Tryz.f108 cf_goboref3_cuts = true := by kernel_rfl
theorem at108 : Tryz.prog.funcs[108]? = some Tryz.f108 := by kernel_rfl
theorem ck109 : chkFn Tryz.prog chkDrawn Tryz.f109 cf_goboref3_in = true := by kernel_rfl
theorem at109 : Tryz.prog.funcs[109]? = some Tryz.f109 := by kernel_rfl
theorem ck110 : chkFn Tryz.prog chkDrawn Tryz.f110 cf_goboref3_at = true := by kernel_rfl
theorem at110 : Tryz.prog.funcs[110]? = some Tryz.f110 := by kernel_rfl
theorem ck111 : chkFn Tryz.prog chkDrawn Tryz.f111 cf_goboref3_place = true := by kernel_rfl
theorem at111 : Tryz.prog.funcs[111]? = some Tryz.f111 := by kernel_rfl
theorem ck112 : chkFn Tryz.prog chkDrawn Tryz.f112 cf_decode_Dec_more_1 = true := by kernel_rfl
theorem at112 : Tryz.prog.funcs[112]? = some Tryz.f112 := by kernel_rfl
theorem ck113 : chkFn Tryz.prog chkDrawn Tryz.f113 cf_decode_grow = true := by kernel_rfl
theorem at113 : Tryz.prog.funcs[113]? = some Tryz.f113 := by kernel_rfl
theorem ck114 : chkFn Tryz.prog chkDrawn Tryz.f114 cf_decode_long = true := by kernel_rfl
theorem at114 : Tryz.prog.funcs[114]? = some Tryz.f114 := by kernel_rfl
theorem ck115 : chkFn Tryz.prog chkDrawn Tryz.f115 cf_utf8_decodeRuneSlow = true := by kernel_rfl
theorem at115 : Tryz.prog.funcs[115]? = some Tryz.f115 := by kernel_rfl
theorem ck116 : chkFn Tryz.prog chkDrawn Tryz.f116 cf_runes_number = true := by kernel_rfl
theorem at116 : Tryz.prog.funcs[116]? = some Tryz.f116 := by kernel_rfl
theorem ck117 : chkFn Tryz.prog chkDrawn Tryz.f117 cf_runes_behind = true := by kernel_rfl
theorem at117 : Tryz.prog.funcs[117]? = some Tryz.f117 := by kernel_rfl
theorem ck118 : chkFn Tryz.prog chkDrawn Tryz.f118 cf_slices_SortFunc_runes_span_runes_span = true := by kernel_rfl
theorem at118 : Tryz.prog.funcs[118]? = some Tryz.f118 := by kernel_rfl
theorem ck119 : chkFn Tryz.prog chkDrawn Tryz.f119 cf_runes_spans_1 = true := by kernel_rfl
theorem at119 : Tryz.prog.funcs[119]? = some Tryz.f119 := by kernel_rfl
theorem ck120 : chkFn Tryz.prog chkDrawn Tryz.f120 cf_cmp_Compare_int = true := by kernel_rfl
theorem at120 : Tryz.prog.funcs[120]? = some Tryz.f120 := by kernel_rfl
theorem ck121 : chkFn Tryz.prog chkDrawn Tryz.f121 cf_runes_value = true := by kernel_rfl
theorem at121 : Tryz.prog.funcs[121]? = some Tryz.f121 := by kernel_rfl
theorem ck122 : chkFn Tryz.prog chkDrawn Tryz.f122 cf_word_hex = true := by kernel_rfl
theorem at122 : Tryz.prog.funcs[122]? = some Tryz.f122 := by kernel_rfl
end Go.Ev
/- Each printed function is the program's: printed by gen.py. -/
namespace Go.Ev
open Go Go.Proofs
theorem ck124 : chkFn Tryz.prog chkDrawn Tryz.f124 cf_strconv_Atoi_124 = true := by kernel_rfl
theorem at124 : Tryz.prog.funcs[124]? = some Tryz.f124 := by kernel_rfl
theorem ck126 : chkFn Tryz.prog chkDrawn Tryz.f126 cf_parse_source_post = true := by kernel_rfl
theorem at126 : Tryz.prog.funcs[126]? = some Tryz.f126 := by kernel_rfl
theorem ck127 : chkFn Tryz.prog chkDrawn Tryz.f127 cf_parse_source_begins = true := by kernel_rfl
theorem at127 : Tryz.prog.funcs[127]? = some Tryz.f127 := by kernel_rfl
theorem ck128 : chkFn Tryz.prog chkDrawn Tryz.f128 cf_slices_Index_string_string = true := by kernel_rfl
theorem at128 : Tryz.prog.funcs[128]? = some Tryz.f128 := by kernel_rfl
theorem ck129 : chkFn Tryz.prog chkDrawn Tryz.f129 cf_regex_within_1 = true := by kernel_rfl
theorem at129 : Tryz.prog.funcs[129]? = some Tryz.f129 := by kernel_rfl
theorem ck130 : chkFn Tryz.prog chkDrawn Tryz.f130 cf_slices_ContainsFunc_api_Re_api_Re = true := by kernel_rfl
theorem at130 : Tryz.prog.funcs[130]? = some Tryz.f130 := by kernel_rfl
theorem ck131 : chkFn Tryz.prog chkDrawn Tryz.f131 cf_regex_within_1_1 = true := by kernel_rfl
theorem at131 : Tryz.prog.funcs[131]? = some Tryz.f131 := by kernel_rfl
theorem ck132 : chkFn Tryz.prog chkDrawn Tryz.f132 cf_regex_parts = true := by kernel_rfl
theorem at132 : Tryz.prog.funcs[132]? = some Tryz.f132 := by kernel_rfl
theorem ck133 : chkFn Tryz.prog chkDrawn Tryz.f133 cf_regex_may_1 = true := by kernel_rfl
theorem at133 : Tryz.prog.funcs[133]? = some Tryz.f133 := by kernel_rfl
theorem ck134 : chkFn Tryz.prog chkDrawn Tryz.f134 cf_runes_May = true := by kernel_rfl
theorem at134 : Tryz.prog.funcs[134]? = some Tryz.f134 := by kernel_rfl
theorem ck135 : chkFn Tryz.prog chkDrawn Tryz.f135 cf_gram_few_1 = true := by kernel_rfl
theorem at135 : Tryz.prog.funcs[135]? = some Tryz.f135 := by kernel_rfl
theorem ck136 : chkFn Tryz.prog chkDrawn Tryz.f136 cf_slices_ContainsFunc_api_Pat_api_Pat = true := by kernel_rfl
theorem at136 : Tryz.prog.funcs[136]? = some Tryz.f136 := by kernel_rfl
theorem ck137 : chkFn Tryz.prog chkDrawn Tryz.f137 cf_gram_few_1_1 = true := by kernel_rfl
theorem at137 : Tryz.prog.funcs[137]? = some Tryz.f137 := by kernel_rfl
theorem ck138 : chkFn Tryz.prog chkDrawn Tryz.f138 cf_gram_shaped = true := by kernel_rfl
theorem at138 : Tryz.prog.funcs[138]? = some Tryz.f138 := by kernel_rfl
theorem ck139 : chkFn Tryz.prog chkDrawn Tryz.f139 cf_decode_second = true := by kernel_rfl
theorem at139 : Tryz.prog.funcs[139]? = some Tryz.f139 := by kernel_rfl
theorem ck140 : chkFn Tryz.prog chkDrawn Tryz.f140 cf_slices_Clone_byte_byte = true := by kernel_rfl
theorem at140 : Tryz.prog.funcs[140]? = some Tryz.f140 := by kernel_rfl
theorem ck141 : chkFn Tryz.prog chkDrawn Tryz.f141 cf_runes_is = true := by kernel_rfl
theorem at141 : Tryz.prog.funcs[141]? = some Tryz.f141 := by kernel_rfl
theorem ck142 : chkFn Tryz.prog chkDrawn Tryz.f142 cf_slices_pdqsortCmpFunc_runes_span = true := by kernel_rfl
theorem at142 : Tryz.prog.funcs[142]? = some Tryz.f142 := by kernel_rfl
theorem ck143 : chkFn Tryz.prog chkDrawn Tryz.f143 cf_bits_Len = true := by kernel_rfl
theorem at143 : Tryz.prog.funcs[143]? = some Tryz.f143 := by kernel_rfl
theorem ck144 : chkFn Tryz.prog chkDrawn Tryz.f144 cf_cmp_isNaN_int = true := by kernel_rfl
theorem at144 : Tryz.prog.funcs[144]? = some Tryz.f144 := by kernel_rfl
theorem ck150 : chkFn Tryz.prog chkDrawn Tryz.f150 cf_parse_source_atom = true := by kernel_rfl
theorem at150 : Tryz.prog.funcs[150]? = some Tryz.f150 := by kernel_rfl
theorem ck151 : chkFn Tryz.prog chkDrawn Tryz.f151 cf_slices_IndexFunc_api_Re_api_Re = true := by kernel_rfl
theorem at151 : Tryz.prog.funcs[151]? = some Tryz.f151 := by kernel_rfl
theorem ck152 : chkFn Tryz.prog chkDrawn Tryz.f152 cf_slices_Equal_api_Range_api_Range = true := by kernel_rfl
theorem at152 : Tryz.prog.funcs[152]? = some Tryz.f152 := by kernel_rfl
theorem ck153 : chkFn Tryz.prog chkDrawn Tryz.f153 cf_slices_IndexFunc_api_Pat_api_Pat = true := by kernel_rfl
theorem at153 : Tryz.prog.funcs[153]? = some Tryz.f153 := by kernel_rfl
end Go.Ev
/- Each printed function is the program's: printed by gen.py. -/
namespace Go.Ev
open Go Go.Proofs
theorem ck154 : chkFn Tryz.prog chkDrawn Tryz.f154 cf_gram_parts = true := by kernel_rfl
theorem at154 : Tryz.prog.funcs[154]? = some Tryz.f154 := by kernel_rfl
theorem ck155 : chkFn Tryz.prog chkDrawn Tryz.f155 cf_slices_insertionSortCmpFunc_runes_span = true := by kernel_rfl
theorem at155 : Tryz.prog.funcs[155]? = some Tryz.f155 := by kernel_rfl
theorem ck163 : chkFn Tryz.prog chkDrawn Tryz.f163 cf_bits_Len32 = true := by kernel_rfl
theorem at163 : Tryz.prog.funcs[163]? = some Tryz.f163 := by kernel_rfl
theorem ck164 : chkFn Tryz.prog chkDrawn Tryz.f164 cf_bits_Len64 = true := by kernel_rfl
theorem at164 : Tryz.prog.funcs[164]? = some Tryz.f164 := by kernel_rfl
theorem ck169 : chkFn Tryz.prog chkDrawn Tryz.f169 cf_parse_source_bracket = true := by kernel_rfl
theorem at169 : Tryz.prog.funcs[169]? = some Tryz.f169 := by kernel_rfl
end Go.Ev
