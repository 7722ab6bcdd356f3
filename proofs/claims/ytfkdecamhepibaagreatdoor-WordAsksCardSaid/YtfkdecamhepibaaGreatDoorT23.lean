/- Several texts of this claim, joined. -/
import Derived.Test.YtfkdecamhepibaaGreatDoorT22
import Derived.Test.YtfkdecamhepibaaGreatDoorT19
set_option linter.unusedSimpArgs false
set_option linter.unusedVariables false

/- Words, as the document reads them: plainly. -/
namespace Go.Ev
open Go
set_option maxRecDepth 8000
/-- How far an expression goes, behind its first sign. -/
def clsG : List UInt8 → Nat
  | [] => 0
  | [c] => if c.toNat = 47 ∨ c.toNat = 10 then 0 else 1
  | c :: d :: r => if c.toNat = 47 ∨ c.toNat = 10 then 0 else if c.toNat = 92 ∧ d.toNat ≠ 10 then clsG r + 2 else clsG (d :: r) + 1
theorem cls_closed : ∀ r : List UInt8, closedL r = (match r[clsG r]? with
    | some c => if c.toNat = 47 then some (clsG r) else none
    | none => none)
  | [] => rfl
  | [c] => by
    by_cases h1 : c.toNat = 10
    · have h12 : c.toNat = 47 ∨ c.toNat = 10 := .inr h1
      simp [clsG, closedL, h1]
    · by_cases h2 : c.toNat = 47
      · simp [clsG, closedL, h2]
      · simp [clsG, closedL, h1, h2]
  | c :: d :: r => by
    by_cases h1 : c.toNat = 10
    · simp [clsG, closedL, h1]
    · by_cases h2 : c.toNat = 47
      · simp [clsG, closedL, h2]
      · have h12 : ¬ (c.toNat = 47 ∨ c.toNat = 10) := by omega
        rw [closedL, if_neg h1, if_neg h2, clsG, if_neg h12]
        by_cases h3 : c.toNat = 92
        · rw [if_pos h3]
          by_cases h4 : d.toNat = 10
          · have h34 : ¬ (c.toNat = 92 ∧ d.toNat ≠ 10) := fun h => h.2 h4
            rw [if_pos h4, if_neg h34]
            have : clsG (d :: r) = 0 := by cases r <;> simp [clsG, h4]
            rw [this]
            simp [h4]
          · rw [if_neg h4, if_pos ⟨h3, h4⟩, cls_closed r, List.getElem?_cons_succ, List.getElem?_cons_succ]
            split
            · split <;> rfl
            · rfl
        · rw [if_neg h3, if_neg (fun h => h3 h.1), cls_closed (d :: r), List.getElem?_cons_succ]
          split
          · split <;> rfl
          · rfl
/-- The word that begins there, if it is one, and how many bytes; 0: there is none. -/
def wG (c : UInt8) (r : List UInt8) (i : Nat) : Option W × Nat :=
  if c.toNat = 32 ∨ c.toNat = 9 ∨ c.toNat = 13 then (none, 1)
  else if c.toNat = 10 then (some ⟨5, [], i⟩, 1)
  else if c.toNat = 35 then (none, 1 + runL notNL r)
  else if letterB c then (some ⟨1, c :: r.take (runL ldB r), i⟩, 1 + runL ldB r)
  else if digitB c then (some ⟨2, c :: r.take (runL digitB r), i⟩, 1 + runL digitB r)
  else if c.toNat = 47 then (match closedL r with
    | none => (none, 0)
    | some k => (some ⟨4, r.take k, i⟩, k + 2))
  else if signB c then (some ⟨3, [c], i⟩, 1)
  else (none, 0)
def putW : Option W → Except Nat (List W) → Except Nat (List W)
  | none, x => x
  | some w, x => consW w x
/-- The words, one by one; `bad`: where the first bad rune stands. -/
def refW (bad : Nat) : Nat → List UInt8 → Nat → Except Nat (List W)
  | 0, _, _ => .ok []
  | _ + 1, [], _ => .ok []
  | n + 1, c :: r, i => if bad ≤ i then .error bad else if (wG c r i).2 = 0 then .error i else if bad < i + (wG c r i).2 then .error bad else putW (wG c r i).1 (refW bad n (r.drop ((wG c r i).2 - 1)) (i + (wG c r i).2))
theorem sign47 {c : UInt8} (h : c.toNat = 47) : signB c = false := by
  have : c = 47 := UInt8.toNat.inj h
  subst this; decide
theorem words_step (n : Nat) (c : UInt8) (r : List UInt8) (i : Nat) : wordsL (n + 1) (c :: r) i = if (wG c r i).2 = 0 then .error i else putW (wG c r i).1 (wordsL n (r.drop ((wG c r i).2 - 1)) (i + (wG c r i).2)) := by
  rw [wordsL, wG]
  by_cases h1 : c.toNat = 32 ∨ c.toNat = 9 ∨ c.toNat = 13
  · simp only [if_pos h1]; rfl
  · simp only [if_neg h1]
    by_cases h2 : c.toNat = 35
    · have h3 : ¬ c.toNat = 10 := by omega
      simp only [if_pos h2, if_neg h3]
      rw [if_neg (by omega), Nat.add_sub_cancel_left, ← Nat.add_assoc]; rfl
    · simp only [if_neg h2]
      by_cases h3 : c.toNat = 10
      · simp only [if_pos h3]; rfl
      · simp only [if_neg h3]
        cases h4 : letterB c with
        | true =>
          simp only [if_true]
          rw [if_neg (by omega), Nat.add_sub_cancel_left, ← Nat.add_assoc]; rfl
        | false =>
          simp only [Bool.false_eq_true, if_false]
          cases h5 : digitB c with
          | true =>
            simp only [if_true]
            rw [if_neg (by omega), Nat.add_sub_cancel_left, ← Nat.add_assoc]; rfl
          | false =>
            simp only [Bool.false_eq_true, if_false]
            by_cases h6 : c.toNat = 47
            · rw [sign47 h6]
              simp only [Bool.false_eq_true, if_false, if_pos h6]
              cases closedL r with
              | none => rfl
              | some k =>
                simp only
                rw [if_neg (by omega), show k + 2 - 1 = k + 1 by omega, show i + (k + 2) = i + 1 + k + 1 by omega]; rfl
            · simp only [if_neg h6]
              cases signB c <;> rfl
/-- What comes first: a bad rune, or what is no word. -/
def comb (bad len : Nat) : Except Nat (List W) → Except Nat (List W)
  | .ok l => if bad < len then .error bad else .ok l
  | .error k => if bad < k then .error bad else .error k
theorem comb_put {bad len : Nat} {w : Option W} {x : Except Nat (List W)} : comb bad len (putW w x) = putW w (comb bad len x) := by
  cases w with
  | none => rfl
  | some w =>
    cases x with
    | ok l => simp only [putW, consW, comb]; split <;> rfl
    | error k => simp only [putW, consW, comb]; split <;> rfl
theorem put_err {w : Option W} {x : Except Nat (List W)} {k : Nat} (h : x = .error k) : putW w x = .error k := by
  subst h; cases w <;> rfl
theorem wG_pos (c : UInt8) (r : List UInt8) (i : Nat) : (wG c r i).2 ≤ r.length + 1 := by
  unfold wG
  have h1 := runL_le notNL r
  have h2 := runL_le ldB r
  have h3 := runL_le digitB r
  repeat' split
  all_goals (simp only; try omega)
  rename_i k hk
  have := closedL_lt r k hk
  omega
theorem wG_zero {c : UInt8} {r : List UInt8} {i : Nat} (h : (wG c r i).2 = 0) : True := trivial
theorem ref_words {bad len : Nat} : ∀ (n : Nat) (r : List UInt8) (i : Nat), r.length ≤ n → i + r.length = len → bad ≤ len → (bad < len → i ≤ bad ∨ r ≠ []) → refW bad n r i = comb bad len (wordsL n r i) ∨ r = []
  | _, [], _, _, _, _, _ => .inr rfl
  | 0, c :: r, i, h, _, _, _ => by simp at h
  | n + 1, c :: r, i, h, hl, hb, _ => by
    left
    have hw := wG_pos c r i
    have e1 : ∀ k, wordsL (n + 1) (c :: r) i = .error k → i ≤ k ∧ k < i + (c :: r).length := fun k hk => wordsL_err (n + 1) (c :: r) i k hk
    rw [refW]
    by_cases q1 : bad ≤ i
    · rw [if_pos q1]
      cases hx : wordsL (n + 1) (c :: r) i with
      | ok l => rw [comb, if_pos (by simp only [List.length_cons] at hl; omega)]
      | error k =>
        have := e1 k hx
        rw [comb]
        split
        · rfl
        · rw [show bad = k by omega]
    · rw [if_neg q1]
      by_cases q2 : (wG c r i).2 = 0
      · rw [if_pos q2, words_step, if_pos q2, comb, if_neg (by omega)]
      · rw [if_neg q2]
        by_cases q3 : bad < i + (wG c r i).2
        · rw [if_pos q3]
          cases hx : wordsL (n + 1) (c :: r) i with
          | ok l => rw [comb, if_pos (by simp only [List.length_cons] at hl; omega)]
          | error k =>
            rw [words_step, if_neg q2] at hx
            cases hy : wordsL n (r.drop ((wG c r i).2 - 1)) (i + (wG c r i).2) with
            | ok l =>
              rw [hy] at hx
              cases hz : (wG c r i).1 with
              | none => rw [hz] at hx; cases hx
              | some w => rw [hz] at hx; cases hx
            | error k' =>
              rw [put_err hy] at hx
              injection hx with hx
              subst hx
              have := (wordsL_err n _ _ _ hy).1
              rw [comb, if_pos (by omega)]
        · rw [if_neg q3, words_step, if_neg q2, comb_put]
          congr 1
          have hlen : (r.drop ((wG c r i).2 - 1)).length = r.length - ((wG c r i).2 - 1) := List.length_drop
          simp only [List.length_cons] at h hl
          rcases ref_words (bad := bad) (len := len) n (r.drop ((wG c r i).2 - 1)) (i + (wG c r i).2) (by omega) (by omega) hb (fun _ => by omega) with h1 | h1
          · exact h1
          · rw [h1]
            have hn : r.length - ((wG c r i).2 - 1) = 0 := by rw [← hlen, h1]; rfl
            have : ¬ bad < len := by omega
            cases n <;> simp [refW, wordsL, comb, this]
/-- Where the first bad rune stands; behind all, if there is none. -/
def badG (len : Nat) (l : List It) : Nat := match l.find? (·.bad) with
  | some x => x.frm
  | none => len
/-- Runes that rise. -/
def Rise : Nat → List It → Prop
  | _, [] => True
  | k, x :: l => k ≤ x.frm ∧ Rise x.frm l
theorem Rise.le : ∀ {l : List It} {k : Nat}, Rise k l → ∀ x ∈ l, k ≤ x.frm
  | y :: l, k, ⟨h1, h2⟩, x, hx => by
    rcases List.mem_cons.1 hx with rfl | hx
    · exact h1
    · have := h2.le x hx; omega
theorem goG_frm : ∀ (r held : List UInt8) (at_ : Nat), (goG held r at_).frm = at_
  | [], held, at_ => by rw [goG]; split <;> rfl
  | c :: r, held, at_ => by
    rw [goG]
    split
    · rfl
    · split
      · exact goG_frm r _ at_
      · rfl
theorem oneG_frm (c : UInt8) (r : List UInt8) (at_ : Nat) : (oneG (c :: r) at_).frm = at_ := by
  rw [oneG]; split
  · rfl
  · exact goG_frm r [c] at_
theorem Rise.mono : ∀ {l : List It} {j k : Nat}, Rise k l → j ≤ k → Rise j l
  | [], _, _, _, _ => trivial
  | _ :: _, _, _, ⟨h1, h2⟩, h => ⟨by omega, h2⟩
theorem rise_da : ∀ (n : Nat) (r : List UInt8) (at_ : Nat), r.length ≤ n → Rise at_ (daG [] r at_)
  | _, [], _, _ => trivial
  | 0, c :: r, _, h => by simp at h
  | n + 1, c :: r, at_, h => by
    have ht := oneG_to (c := c) (r := r) (at_ := at_)
    rw [da_one]
    refine ⟨by rw [oneG_frm]; exact Nat.le_refl _, ?_⟩
    rw [oneG_frm]
    exact (rise_da n _ _ (by rw [List.length_drop]; simp only [List.length_cons] at h ⊢; omega)).mono (Nat.le_of_lt ht.1)
theorem rise_all (s : List UInt8) : Rise 0 (decAll s) := by
  rw [daG_all]; exact rise_da _ s 0 (Nat.le_refl _)
theorem find_bad {f : Except Nat (List W)} : ∀ {l : List It} {k : Nat}, Rise k l → l.find? (badAt f) = (match l.find? (·.bad) with
    | some x => if badAt f x then some x else none
    | none => none)
  | [], _, _ => rfl
  | y :: l, k, ⟨h1, h2⟩ => by
    rw [List.find?_cons, List.find?_cons]
    cases hb : y.bad with
    | false =>
      have : badAt f y = false := by simp [badAt, hb]
      rw [this]
      exact find_bad h2
    | true =>
      simp only
      cases hq : badAt f y with
      | true => simp
      | false =>
        simp only [Bool.false_eq_true, if_false]
        rw [List.find?_eq_none]
        intro x hx
        have hle := h2.le x hx
        cases f with
        | ok l => simp [badAt, hb] at hq
        | error e =>
          simp only [badAt, hb, Bool.true_and, decide_eq_false_iff_not] at hq
          simp only [badAt, Bool.and_eq_true, decide_eq_true_eq]
          rintro ⟨_, h⟩; omega
theorem allW_ref {s : List UInt8} (hr : Rise 0 (decAll s)) : allW s = comb (badG s.length (decAll s)) s.length (wordsL s.length s 0) := by
  unfold allW badG
  rw [find_bad hr]
  cases hf : (decAll s).find? (·.bad) with
  | none =>
    simp only
    cases hx : wordsL s.length s 0 with
    | ok l => rw [comb, if_neg (by omega)]
    | error k =>
      have := (wordsL_err _ _ _ _ hx).2
      rw [comb, if_neg (by omega)]
  | some x =>
    have hb : x.bad = true := by simpa using List.find?_some hf
    have hlt : x.frm < s.length := decAll_bd x (List.mem_of_find?_eq_some hf)
    simp only
    cases hx : wordsL s.length s 0 with
    | ok l => simp [badAt, hb, comb, hlt]
    | error k =>
      simp only [badAt, hb, Bool.true_and, comb, decide_eq_true_eq]
      by_cases q : x.frm < k
      · simp only [if_pos q]
      · simp only [if_neg q]
/- goboref11: word. -/
open Go.Ev renaming seqK_normal → zA, blockK_normal → zB, blockK_exit → zC
open Nat renaming reduceEqDiff → zD, reduceAdd → zE, reduceSub → zF, reduceMul → zG, reduceLeDiff → zH, reduceLT → zI
open Int renaming reduceToNat → zJ, reduceLT → zK, reduceLE → zL, reduceEq → zM, reduceAdd → zN, reduceSub → zO, reduceMul → zP
set_option maxRecDepth 8000
def wcellG : Option W → List AV
  | none => [.int .i64 0, .str [], .int .i64 0]
  | some w => w.cells
theorem clsG_le : ∀ r : List UInt8, clsG r ≤ r.length
  | [] => Nat.le_refl _
  | [c] => by simp only [clsG]; split <;> simp
  | c :: d :: r => by
    have h1 := clsG_le r
    have h2 := clsG_le (d :: r)
    simp only [clsG, List.length_cons] at *
    split
    · omega
    · split <;> omega
section
variable {o : CallF} (ho : OvOnly o)
include ho
theorem g_small {b : UInt8} {H : Heap} {Q : End → Heap → Prop} (h : Q (.ret (.bool (letterB b))) H) : wpf ⟨bt.get, o⟩ F_goboref11_small [.int .u8 b.toNat] H Q := by
  rw [fn_goboref11_small (ho _ _ _ (by decide))]
  by_cases h1 : 97 ≤ b.toNat
  · have h1' : (97 : Int) ≤ b.toNat := by omega
    by_cases h2 : b.toNat ≤ 122
    · have h2' : (b.toNat : Int) ≤ 122 := by omega
      simp only [bd_goboref11_small, go_sem, zA, zB, zC, reduceIte, zD, zE, zF, zG, zH, zI, reduceCtorEq, zJ, zK, zL, zM, zN, zO, zP, h1', h2']
      simpa only [letterB, h1, h2, go_sem, zA, zB, zC, reduceIte, zD, zE, zF, zG, zH, zI, reduceCtorEq, zJ, zK, zL, zM, zN, zO, zP] using h
    · have h2' : ¬(b.toNat : Int) ≤ 122 := by omega
      simp only [bd_goboref11_small, go_sem, zA, zB, zC, reduceIte, zD, zE, zF, zG, zH, zI, reduceCtorEq, zJ, zK, zL, zM, zN, zO, zP, h1', h2']
      simpa only [letterB, h1, h2, go_sem, zA, zB, zC, reduceIte, zD, zE, zF, zG, zH, zI, reduceCtorEq, zJ, zK, zL, zM, zN, zO, zP] using h
  · have h1' : ¬(97 : Int) ≤ b.toNat := by omega
    simp only [bd_goboref11_small, go_sem, zA, zB, zC, reduceIte, zD, zE, zF, zG, zH, zI, reduceCtorEq, zJ, zK, zL, zM, zN, zO, zP, h1']
    simpa only [letterB, h1, go_sem, zA, zB, zC, reduceIte, zD, zE, zF, zG, zH, zI, reduceCtorEq, zJ, zK, zL, zM, zN, zO, zP, Bool.false_and] using h
theorem g_digit {b : UInt8} {H : Heap} {Q : End → Heap → Prop} (h : Q (.ret (.bool (digitB b))) H) : wpf ⟨bt.get, o⟩ F_goboref11_digit [.int .u8 b.toNat] H Q := by
  rw [fn_goboref11_digit (ho _ _ _ (by decide))]
  by_cases h1 : 48 ≤ b.toNat
  · have h1' : (48 : Int) ≤ b.toNat := by omega
    by_cases h2 : b.toNat ≤ 57
    · have h2' : (b.toNat : Int) ≤ 57 := by omega
      simp only [bd_goboref11_digit, go_sem, zA, zB, zC, reduceIte, zD, zE, zF, zG, zH, zI, reduceCtorEq, zJ, zK, zL, zM, zN, zO, zP, h1', h2']
      simpa only [digitB, h1, h2, go_sem, zA, zB, zC, reduceIte, zD, zE, zF, zG, zH, zI, reduceCtorEq, zJ, zK, zL, zM, zN, zO, zP] using h
    · have h2' : ¬(b.toNat : Int) ≤ 57 := by omega
      simp only [bd_goboref11_digit, go_sem, zA, zB, zC, reduceIte, zD, zE, zF, zG, zH, zI, reduceCtorEq, zJ, zK, zL, zM, zN, zO, zP, h1', h2']
      simpa only [digitB, h1, h2, go_sem, zA, zB, zC, reduceIte, zD, zE, zF, zG, zH, zI, reduceCtorEq, zJ, zK, zL, zM, zN, zO, zP] using h
  · have h1' : ¬(48 : Int) ≤ b.toNat := by omega
    simp only [bd_goboref11_digit, go_sem, zA, zB, zC, reduceIte, zD, zE, zF, zG, zH, zI, reduceCtorEq, zJ, zK, zL, zM, zN, zO, zP, h1']
    simpa only [digitB, h1, go_sem, zA, zB, zC, reduceIte, zD, zE, zF, zG, zH, zI, reduceCtorEq, zJ, zK, zL, zM, zN, zO, zP, Bool.false_and] using h
omit ho in
theorem gw_loop0 {s : List UInt8} (hs : s.length ≤ 1000000) {at_ wb : Nat} {H : Heap} {Q : Ctl → St → Prop} : ∀ (r : List UInt8) (n : Nat), s.drop (at_ + n) = r → at_ + n ≤ s.length →
    (∀ t x, Q (.exit 1) { p := [(0, .str s), (1, .int .i64 (at_ : Int)), (4, .ptr wb 0), (7, .int .i64 ((n + runL notNL r : Nat) : Int)), (45, x)], t := t, H := H, d := [], u := .norm }) →
    wpl ⟨bt.get, o⟩ [0, 1, 4, 7] lb_goboref11_word_0 { p := [(0, .str s), (1, .int .i64 (at_ : Int)), (4, .ptr wb 0), (7, .int .i64 (n : Int))], t := [], H := H, d := [], u := .norm } Q
  | [], n, hr, hi, hQ => by
    have hl := at_nil hr
    have wa := wnat (a := at_) (b := n) (by omega)
    rw [wpl_step]
    have h1 : ¬(((at_ + n : Nat) : Int) < (s.length : Int)) := by omega
    simp only [lb_goboref11_word_0, go_sem, zA, zB, zC, reduceIte, zD, zE, zF, zG, zH, zI, reduceCtorEq, zJ, zK, zL, zM, zN, zO, zP, wa, h1]
    exact hQ _ _
  | c :: r, n, hr, hi, hQ => by
    obtain ⟨h0, h1, h2⟩ := at_drop hr
    have wa := wnat (a := at_) (b := n) (by omega)
    rw [wpl_step]
    have h1' : (((at_ + n : Nat) : Int) < (s.length : Int)) := by omega
    by_cases c10 : c.toNat = 10
    · have c10' : (c.toNat : Int) = 10 := by omega
      have e : runL notNL (c :: r) = 0 := by simp [runL, notNL, c10]
      rw [e] at hQ
      simp only [lb_goboref11_word_0, go_sem, zA, zB, zC, reduceIte, zD, zE, zF, zG, zH, zI, reduceCtorEq, zJ, zK, zL, zM, zN, zO, zP, wa, h1', Int.natCast_nonneg, h0, c10']
      exact hQ _ _
    · have c10' : ¬ (c.toNat : Int) = 10 := by omega
      have e : n + runL notNL (c :: r) = n + 1 + runL notNL r := by simp [runL, notNL, c10]; omega
      rw [e] at hQ
      simp only [lb_goboref11_word_0, go_sem, zA, zB, zC, reduceIte, zD, zE, zF, zG, zH, zI, reduceCtorEq, zJ, zK, zL, zM, zN, zO, zP, wa, h1', Int.natCast_nonneg, h0, c10', wsucc (show n ≤ 1000000000 by omega)]
      exact gw_loop0 hs r (n + 1) h2 (by omega) hQ
theorem gw_loop1 {s : List UInt8} (hs : s.length ≤ 1000000) {at_ wb : Nat} {H : Heap} {Q : Ctl → St → Prop} : ∀ (r : List UInt8) (n : Nat), s.drop (at_ + n) = r → at_ + n ≤ s.length →
    (∀ t x, Q (.exit 3) { p := [(0, .str s), (1, .int .i64 (at_ : Int)), (4, .ptr wb 0), (7, .int .i64 ((n + runL ldB r : Nat) : Int)), (74, x)], t := t, H := H, d := [], u := .norm }) →
    wpl ⟨bt.get, o⟩ [0, 1, 4, 7] lb_goboref11_word_1 { p := [(0, .str s), (1, .int .i64 (at_ : Int)), (4, .ptr wb 0), (7, .int .i64 (n : Int))], t := [], H := H, d := [], u := .norm } Q
  | [], n, hr, hi, hQ => by
    have hl := at_nil hr
    have wa := wnat (a := at_) (b := n) (by omega)
    rw [wpl_step]
    have h1 : ¬(((at_ + n : Nat) : Int) < (s.length : Int)) := by omega
    simp only [lb_goboref11_word_1, go_sem, zA, zB, zC, reduceIte, zD, zE, zF, zG, zH, zI, reduceCtorEq, zJ, zK, zL, zM, zN, zO, zP, wa, h1]
    exact hQ _ _
  | c :: r, n, hr, hi, hQ => by
    obtain ⟨h0, h1, h2⟩ := at_drop hr
    have wa := wnat (a := at_) (b := n) (by omega)
    rw [wpl_step]
    have h1' : (((at_ + n : Nat) : Int) < (s.length : Int)) := by omega
    simp only [lb_goboref11_word_1, go_sem, zA, zB, zC, reduceIte, zD, zE, zF, zG, zH, zI, reduceCtorEq, zJ, zK, zL, zM, zN, zO, zP, wa, h1', Int.natCast_nonneg, h0]
    refine g_small ho ?_
    cases hl : letterB c
    · simp only [go_sem, zA, zB, zC, reduceIte, zD, zE, zF, zG, zH, zI, reduceCtorEq, zJ, zK, zL, zM, zN, zO, zP, wa, h1', Int.natCast_nonneg, h0]
      refine g_digit ho ?_
      cases hd : digitB c
      · have e : runL ldB (c :: r) = 0 := by simp [runL, ldB, hl, hd]
        rw [e] at hQ
        simp only [go_sem, zA, zB, zC, reduceIte, zD, zE, zF, zG, zH, zI, reduceCtorEq, zJ, zK, zL, zM, zN, zO, zP]
        exact hQ _ _
      · have e : n + runL ldB (c :: r) = n + 1 + runL ldB r := by simp [runL, ldB, hl, hd]; omega
        rw [e] at hQ
        simp only [go_sem, zA, zB, zC, reduceIte, zD, zE, zF, zG, zH, zI, reduceCtorEq, zJ, zK, zL, zM, zN, zO, zP, wsucc (show n ≤ 1000000000 by omega)]
        exact gw_loop1 hs r (n + 1) h2 (by omega) hQ
    · have e : n + runL ldB (c :: r) = n + 1 + runL ldB r := by simp [runL, ldB, hl]; omega
      rw [e] at hQ
      simp only [go_sem, zA, zB, zC, reduceIte, zD, zE, zF, zG, zH, zI, reduceCtorEq, zJ, zK, zL, zM, zN, zO, zP, wsucc (show n ≤ 1000000000 by omega)]
      exact gw_loop1 hs r (n + 1) h2 (by omega) hQ
theorem gw_loop2 {s : List UInt8} (hs : s.length ≤ 1000000) {at_ wb : Nat} {H : Heap} {Q : Ctl → St → Prop} : ∀ (r : List UInt8) (n : Nat), s.drop (at_ + n) = r → at_ + n ≤ s.length →
    (∀ t x, Q (.exit 5) { p := [(0, .str s), (1, .int .i64 (at_ : Int)), (4, .ptr wb 0), (7, .int .i64 ((n + runL digitB r : Nat) : Int)), (102, x)], t := t, H := H, d := [], u := .norm }) →
    wpl ⟨bt.get, o⟩ [0, 1, 4, 7] lb_goboref11_word_2 { p := [(0, .str s), (1, .int .i64 (at_ : Int)), (4, .ptr wb 0), (7, .int .i64 (n : Int))], t := [], H := H, d := [], u := .norm } Q
  | [], n, hr, hi, hQ => by
    have hl := at_nil hr
    have wa := wnat (a := at_) (b := n) (by omega)
    rw [wpl_step]
    have h1 : ¬(((at_ + n : Nat) : Int) < (s.length : Int)) := by omega
    simp only [lb_goboref11_word_2, go_sem, zA, zB, zC, reduceIte, zD, zE, zF, zG, zH, zI, reduceCtorEq, zJ, zK, zL, zM, zN, zO, zP, wa, h1]
    exact hQ _ _
  | c :: r, n, hr, hi, hQ => by
    obtain ⟨h0, h1, h2⟩ := at_drop hr
    have wa := wnat (a := at_) (b := n) (by omega)
    rw [wpl_step]
    have h1' : (((at_ + n : Nat) : Int) < (s.length : Int)) := by omega
    simp only [lb_goboref11_word_2, go_sem, zA, zB, zC, reduceIte, zD, zE, zF, zG, zH, zI, reduceCtorEq, zJ, zK, zL, zM, zN, zO, zP, wa, h1', Int.natCast_nonneg, h0]
    refine g_digit ho ?_
    cases hd : digitB c
    · have e : runL digitB (c :: r) = 0 := by simp [runL, hd]
      rw [e] at hQ
      simp only [go_sem, zA, zB, zC, reduceIte, zD, zE, zF, zG, zH, zI, reduceCtorEq, zJ, zK, zL, zM, zN, zO, zP]
      exact hQ _ _
    · have e : n + runL digitB (c :: r) = n + 1 + runL digitB r := by simp [runL, hd]; omega
      rw [e] at hQ
      simp only [go_sem, zA, zB, zC, reduceIte, zD, zE, zF, zG, zH, zI, reduceCtorEq, zJ, zK, zL, zM, zN, zO, zP, wsucc (show n ≤ 1000000000 by omega)]
      exact gw_loop2 hs r (n + 1) h2 (by omega) hQ
omit ho in
theorem gw_loop3 {s : List UInt8} (hs : s.length ≤ 1000000) {at_ wb : Nat} {H : Heap} {Q : Ctl → St → Prop} : ∀ (m : Nat) (r : List UInt8) (n : Nat), r.length ≤ m → s.drop (at_ + n) = r → at_ + n ≤ s.length →
    (∀ t x, Q (.exit 7) { p := [(0, .str s), (1, .int .i64 (at_ : Int)), (4, .ptr wb 0), (7, .int .i64 ((n + clsG r : Nat) : Int)), (138, x)], t := t, H := H, d := [], u := .norm }) →
    wpl ⟨bt.get, o⟩ [0, 1, 4, 7] lb_goboref11_word_3 { p := [(0, .str s), (1, .int .i64 (at_ : Int)), (4, .ptr wb 0), (7, .int .i64 (n : Int))], t := [], H := H, d := [], u := .norm } Q
  | _, [], n, hm, hr, hi, hQ => by
    have hl := at_nil hr
    have wa := wnat (a := at_) (b := n) (by omega)
    rw [wpl_step]
    have h1 : ¬(((at_ + n : Nat) : Int) < (s.length : Int)) := by omega
    simp only [lb_goboref11_word_3, go_sem, zA, zB, zC, reduceIte, zD, zE, zF, zG, zH, zI, reduceCtorEq, zJ, zK, zL, zM, zN, zO, zP, wa, h1]
    exact hQ _ _
  | 0, c :: r, n, hm, hr, hi, hQ => by simp at hm
  | m + 1, c :: r, n, hm, hr, hi, hQ => by
    obtain ⟨h0, h1, h2⟩ := at_drop hr
    have wa := wnat (a := at_) (b := n) (by omega)
    have wa1 := wsucc (n := at_ + n) (by omega)
    have iw := wsucc (show n ≤ 1000000000 by omega)
    have h1' : (((at_ + n : Nat) : Int) < (s.length : Int)) := by omega
    simp only [List.length_cons] at hm
    rw [wpl_step]
    by_cases c47 : c.toNat = 47
    · have c47' : (c.toNat : Int) = 47 := by omega
      have e : clsG (c :: r) = 0 := by cases r <;> simp [clsG, c47]
      rw [e] at hQ
      simp only [lb_goboref11_word_3, go_sem, zA, zB, zC, reduceIte, zD, zE, zF, zG, zH, zI, reduceCtorEq, zJ, zK, zL, zM, zN, zO, zP, wa, h1', Int.natCast_nonneg, h0, c47']
      exact hQ _ _
    · have c47' : ¬ (c.toNat : Int) = 47 := by omega
      by_cases c10 : c.toNat = 10
      · have c10' : (c.toNat : Int) = 10 := by omega
        have e : clsG (c :: r) = 0 := by cases r <;> simp [clsG, c10]
        rw [e] at hQ
        simp only [lb_goboref11_word_3, go_sem, zA, zB, zC, reduceIte, zD, zE, zF, zG, zH, zI, reduceCtorEq, zJ, zK, zL, zM, zN, zO, zP, wa, h1', Int.natCast_nonneg, h0, c47', c10']
        exact hQ _ _
      · have c10' : ¬ (c.toNat : Int) = 10 := by omega
        have one : clsG (c :: r) = clsG r + 1 → wpl ⟨bt.get, o⟩ [0, 1, 4, 7] lb_goboref11_word_3 { p := [(0, .str s), (1, .int .i64 (at_ : Int)), (4, .ptr wb 0), (7, .int .i64 ((n + 1 : Nat) : Int))], t := [], H := H, d := [], u := .norm } Q := fun e => by
          rw [e, show n + (clsG r + 1) = n + 1 + clsG r by omega] at hQ
          exact gw_loop3 hs m r (n + 1) (by omega) h2 (by omega) hQ
        by_cases c92 : c.toNat = 92
        · have c92' : (c.toNat : Int) = 92 := by omega
          cases r with
          | nil =>
            have hl := at_nil h2
            have h3 : ¬(((at_ + n + 1 : Nat) : Int) < (s.length : Int)) := by omega
            simp only [lb_goboref11_word_3, go_sem, zA, zB, zC, reduceIte, zD, zE, zF, zG, zH, zI, reduceCtorEq, zJ, zK, zL, zM, zN, zO, zP, wa, wa1, h1', Int.natCast_nonneg, h0, c47', c10', c92', h3, iw]
            exact one (by simp [clsG, c47, c10])
          | cons d r =>
            obtain ⟨g0, g1, g2⟩ := at_drop h2
            have h3 : (((at_ + n + 1 : Nat) : Int) < (s.length : Int)) := by omega
            by_cases d10 : d.toNat = 10
            · have d10' : (d.toNat : Int) = 10 := by omega
              simp only [lb_goboref11_word_3, go_sem, zA, zB, zC, reduceIte, zD, zE, zF, zG, zH, zI, reduceCtorEq, zJ, zK, zL, zM, zN, zO, zP, wa, wa1, h1', Int.natCast_nonneg, h0, c47', c10', c92', h3, g0, d10', iw]
              exact one (by simp [clsG, c92, d10])
            · have d10' : ¬ (d.toNat : Int) = 10 := by omega
              have e : clsG (c :: d :: r) = clsG r + 2 := by simp [clsG, c92, d10]
              rw [e, show n + (clsG r + 2) = n + 1 + 1 + clsG r by omega] at hQ
              simp only [lb_goboref11_word_3, go_sem, zA, zB, zC, reduceIte, zD, zE, zF, zG, zH, zI, reduceCtorEq, zJ, zK, zL, zM, zN, zO, zP, wa, wa1, h1', Int.natCast_nonneg, h0, c47', c10', c92', h3, g0, d10', iw, wsucc (show n + 1 ≤ 1000000000 by omega)]
              simp only [List.length_cons] at hm
              exact gw_loop3 hs m r (n + 1 + 1) (by omega) g2 (by omega) hQ
        · have c92' : ¬ (c.toNat : Int) = 92 := by omega
          simp only [lb_goboref11_word_3, go_sem, zA, zB, zC, reduceIte, zD, zE, zF, zG, zH, zI, reduceCtorEq, zJ, zK, zL, zM, zN, zO, zP, wa, wa1, h1', Int.natCast_nonneg, h0, c47', c10', c92', iw]
          exact one (by cases r <;> simp [clsG, c47, c10, c92])
omit ho in
theorem idx_nat {c : UInt8} : ∀ (l : List UInt8) (i : Nat), decide (0 ≤ idxByteA c l i) = l.any fun x => decide (x = c)
  | [], i => rfl
  | x :: r, i => by
    rw [idxByteA, List.any_cons]
    split
    · rename_i h; simp [h]
    · rename_i h; rw [idx_nat r (i + 1)]; simp [h]
omit ho in
theorem gw_loop4 {s : List UInt8} {c : UInt8} {r : List UInt8} {at_ : Nat} (hs : s.length ≤ 1000000) (hr : s.drop at_ = c :: r) {wb : Nat} {H : Heap} (hg : H.get wb = .cells [.int .i64 0, .str [], .int .i64 0] .own) {Q : Ctl → St → Prop} : ∀ (q : List UInt8) (k : Nat), signL.drop k = q → k ≤ 12 →
    ((q.any fun x => decide (x = c)) = false → ∀ t x y, Q (.exit 9) { p := [(0, .str s), (1, .int .i64 (at_ : Int)), (4, .ptr wb 0), (6, .int .u8 (c.toNat : Int)), (8, x), (194, y)], t := t, H := H, d := [], u := .norm }) →
    ((q.any fun x => decide (x = c)) = true → ∀ σ : St, σ.H = H.set wb (.cells [.int .i64 3, .str [c], .int .i64 (at_ : Int)] .own) → σ.d = [] → lk 4 σ.p = some (.ptr wb 0) → lk 5 σ.p = some (.int .i64 1) → Q .ret σ) →
    wpl ⟨bt.get, o⟩ [0, 1, 4, 6, 8] lb_goboref11_word_4 { p := [(0, .str s), (1, .int .i64 (at_ : Int)), (4, .ptr wb 0), (6, .int .u8 (c.toNat : Int)), (8, .int .i64 (k : Int))], t := [], H := H, d := [], u := .norm } Q
  | [], k, hq, hk, hF, hT => by
    have hl : signL.length ≤ k := List.drop_eq_nil_iff.1 hq
    have hl12 : signL.length = 12 := rfl
    rw [wpl_step]
    have h1 : ¬((k : Int) < 12) := by omega
    simp only [lb_goboref11_word_4, go_sem, zA, zB, zC, reduceIte, zD, zE, zF, zG, zH, zI, reduceCtorEq, zJ, zK, zL, zM, zN, zO, zP, h1]
    exact hF rfl _ _ _
  | x :: q, k, hq, hk, hF, hT => by
    obtain ⟨h0, h1, h2⟩ := at_drop hq
    have hl12 : signL.length = 12 := rfl
    obtain ⟨g0, g1, g2⟩ := at_drop hr
    rw [wpl_step]
    have h1' : (k : Int) < 12 := by omega
    have fold : ([123, 125, 40, 41, 124, 42, 94, 60, 62, 58, 95, 61] : List UInt8) = signL := rfl
    by_cases e : x = c
    · have e' : ((x.toNat : Int) = (c.toNat : Int)) = True := by rw [e]; simp
      have e2 : (at_ : Int) ≤ ((at_ + 1 : Nat) : Int) := by omega
      have e3 : ((at_ + 1 : Nat) : Int) ≤ (s.length : Int) := by omega
      have e4 : (s.take (at_ + 1)).drop at_ = [c] := by rw [cut hr, List.take_succ_cons, List.take_zero]
      simp only [lb_goboref11_word_4, go_sem, zA, zB, zC, reduceIte, zD, zE, zF, zG, zH, zI, reduceCtorEq, zJ, zK, zL, zM, zN, zO, zP, h1', fold, h0, e', wsucc (show at_ ≤ 1000000000 by omega), e2, e3, e4, hg]
      exact hT (by rw [List.any_cons, decide_eq_true e] <;> rfl) _ rfl rfl rfl rfl
    · have e' : ¬ ((x.toNat : Int) = (c.toNat : Int)) := fun h => e (UInt8.toNat.inj (by omega))
      have ea : ((x :: q).any fun x => decide (x = c)) = q.any fun x => decide (x = c) := by rw [List.any_cons, decide_eq_false e] <;> rfl
      rw [ea] at hF hT
      simp only [lb_goboref11_word_4, go_sem, zA, zB, zC, reduceIte, zD, zE, zF, zG, zH, zI, reduceCtorEq, zJ, zK, zL, zM, zN, zO, zP, h1', fold, h0, e', wsucc (show k ≤ 1000000000 by omega)]
      exact gw_loop4 hs hr hg q (k + 1) h2 (by omega) hF hT
/-- The word that begins there. -/
theorem g_word {s : List UInt8} (hs : s.length ≤ 1000000) {at_ : Nat} {c : UInt8} {r : List UInt8} (hr : s.drop at_ = c :: r) {H : Heap} {Q : End → Heap → Prop}
    (h : ∀ H', Ext H.size H H' → Q (.ret (.tup [.agg (wcellG (wG c r at_).1), .int .i64 ((wG c r at_).2 : Int)])) H') : wpf ⟨bt.get, o⟩ F_goboref11_word [.str s, .int .i64 (at_ : Int)] H Q := by
  rw [fn_goboref11_word (ho _ _ _ (by decide))]
  obtain ⟨h0, h1, h2⟩ := at_drop hr
  have p0 : (0 : Int) ≤ (at_ : Int) := by omega
  have p1 : (at_ : Int) < (s.length : Int) := by omega
  have hrl : r.length + at_ + 1 = s.length := by
    have := congrArg List.length hr
    simp only [List.length_drop, List.length_cons] at this
    omega
  have x1 : Ext H.size H (H.push (.cells [.int .i64 0, .str [], .int .i64 0] .own)) := Ext.push (Nat.le_refl _)
  have gx : (H.push (.cells [.int .i64 0, .str [], .int .i64 0] .own)).get H.size = .cells [.int .i64 0, .str [], .int .i64 0] .own := Heap.get_push_self
  have sz1 : (H.push (.cells [.int .i64 0, .str [], .int .i64 0] .own)).size = H.size + 1 := Heap.size_push _ _
  simp only [bd_goboref11_word, go_sem, zA, zB, zC, reduceIte, zD, zE, zF, zG, zH, zI, reduceCtorEq, zJ, zK, zL, zM, zN, zO, zP, p0, p1, h0]
  generalize H.push (.cells [.int .i64 0, .str [], .int .i64 0] .own) = H1 at x1 gx sz1 ⊢
  have hl1 : H.size < H1.size := by omega
  have fin : ∀ (w : Option W) (n : Nat), wG c r at_ = (w, n) → Q (.ret (.tup [.agg (wcellG w), .int .i64 (n : Int)])) (H1.set H.size (.cells (wcellG w) .own)) := fun w n e => by
    have := h (H1.set H.size (.cells (wcellG w) .own)) (x1.trans (Ext.set (Nat.le_refl _)))
    rw [e] at this
    exact this
  by_cases w32 : c.toNat = 32
  · have w32' : (c.toNat : Int) = 32 := by omega
    simp only [go_sem, zA, zB, zC, reduceIte, zD, zE, zF, zG, zH, zI, reduceCtorEq, zJ, zK, zL, zM, zN, zO, zP, w32', gx, Heap.get_set_self hl1]
    exact fin none 1 (by rw [wG, if_pos (.inl w32)])
  have w32' : ¬ (c.toNat : Int) = 32 := by omega
  by_cases w9 : c.toNat = 9
  · have w9' : (c.toNat : Int) = 9 := by omega
    simp only [go_sem, zA, zB, zC, reduceIte, zD, zE, zF, zG, zH, zI, reduceCtorEq, zJ, zK, zL, zM, zN, zO, zP, w32', w9', gx, Heap.get_set_self hl1]
    exact fin none 1 (by rw [wG, if_pos (.inr (.inl w9))])
  have w9' : ¬ (c.toNat : Int) = 9 := by omega
  by_cases w13 : c.toNat = 13
  · have w13' : (c.toNat : Int) = 13 := by omega
    simp only [go_sem, zA, zB, zC, reduceIte, zD, zE, zF, zG, zH, zI, reduceCtorEq, zJ, zK, zL, zM, zN, zO, zP, w32', w9', w13', gx, Heap.get_set_self hl1]
    exact fin none 1 (by rw [wG, if_pos (.inr (.inr w13))])
  have w13' : ¬ (c.toNat : Int) = 13 := by omega
  have e0 : wG c r at_ = if c.toNat = 10 then (some ⟨5, [], at_⟩, 1)
      else if c.toNat = 35 then (none, 1 + runL notNL r)
      else if letterB c then (some ⟨1, c :: r.take (runL ldB r), at_⟩, 1 + runL ldB r)
      else if digitB c then (some ⟨2, c :: r.take (runL digitB r), at_⟩, 1 + runL digitB r)
      else if c.toNat = 47 then (match closedL r with
        | none => (none, 0)
        | some k => (some ⟨4, r.take k, at_⟩, k + 2))
      else if signB c then (some ⟨3, [c], at_⟩, 1)
      else (none, 0) := by rw [wG, if_neg (by omega)] <;> rfl
  by_cases w10 : c.toNat = 10
  · have w10' : (c.toNat : Int) = 10 := by omega
    rw [if_pos w10] at e0
    simp only [go_sem, zA, zB, zC, reduceIte, zD, zE, zF, zG, zH, zI, reduceCtorEq, zJ, zK, zL, zM, zN, zO, zP, w32', w9', w13', w10', gx, Heap.get_set_self hl1]
    exact fin _ 1 e0
  have w10' : ¬ (c.toNat : Int) = 10 := by omega
  rw [if_neg w10] at e0
  by_cases w35 : c.toNat = 35
  · have w35' : (c.toNat : Int) = 35 := by omega
    rw [if_pos w35] at e0
    simp only [go_sem, zA, zB, zC, reduceIte, zD, zE, zF, zG, zH, zI, reduceCtorEq, zJ, zK, zL, zM, zN, zO, zP, w32', w9', w13', w10', w35']
    refine gw_loop0 hs r 1 h2 (by omega) fun t x => ?_
    simp only [go_sem, zA, zB, zC, reduceIte, zD, zE, zF, zG, zH, zI, reduceCtorEq, zJ, zK, zL, zM, zN, zO, zP, gx, Heap.get_set_self hl1]
    exact fin _ _ e0
  have w35' : ¬ (c.toNat : Int) = 35 := by omega
  rw [if_neg w35] at e0
  simp only [go_sem, zA, zB, zC, reduceIte, zD, zE, zF, zG, zH, zI, reduceCtorEq, zJ, zK, zL, zM, zN, zO, zP, w32', w9', w13', w10', w35']
  refine g_small ho ?_
  have wl : ∀ k, 1 + k ≤ s.length → IntKind.i64.wrap ((at_ : Int) + ((1 + k : Nat) : Int)) = ((at_ + (1 + k) : Nat) : Int) := fun k hk => wnat (by omega)
  have q2 : ∀ k : Nat, (at_ : Int) ≤ ((at_ + (1 + k) : Nat) : Int) := fun k => by omega
  have q4 : ∀ k, (s.take (at_ + (1 + k))).drop at_ = c :: r.take k := fun k => by rw [cut hr, Nat.add_comm 1, List.take_succ_cons]
  cases hL : letterB c
  case true =>
    rw [hL, if_pos rfl] at e0
    simp only [go_sem, zA, zB, zC, reduceIte, zD, zE, zF, zG, zH, zI, reduceCtorEq, zJ, zK, zL, zM, zN, zO, zP]
    have hk := runL_le ldB r
    refine gw_loop1 ho hs r 1 h2 (by omega) fun t x => ?_
    have q3 : ((at_ + (1 + runL ldB r) : Nat) : Int) ≤ (s.length : Int) := by omega
    simp only [go_sem, zA, zB, zC, reduceIte, zD, zE, zF, zG, zH, zI, reduceCtorEq, zJ, zK, zL, zM, zN, zO, zP, wl _ (show 1 + runL ldB r ≤ s.length by omega), q2, q3, q4, gx, Heap.get_set_self hl1]
    exact fin _ _ e0
  rw [hL, if_neg (by decide)] at e0
  simp only [go_sem, zA, zB, zC, reduceIte, zD, zE, zF, zG, zH, zI, reduceCtorEq, zJ, zK, zL, zM, zN, zO, zP]
  refine g_digit ho ?_
  cases hD : digitB c
  case true =>
    rw [hD, if_pos rfl] at e0
    simp only [go_sem, zA, zB, zC, reduceIte, zD, zE, zF, zG, zH, zI, reduceCtorEq, zJ, zK, zL, zM, zN, zO, zP]
    have hk := runL_le digitB r
    refine gw_loop2 ho hs r 1 h2 (by omega) fun t x => ?_
    have q3 : ((at_ + (1 + runL digitB r) : Nat) : Int) ≤ (s.length : Int) := by omega
    simp only [go_sem, zA, zB, zC, reduceIte, zD, zE, zF, zG, zH, zI, reduceCtorEq, zJ, zK, zL, zM, zN, zO, zP, wl _ (show 1 + runL digitB r ≤ s.length by omega), q2, q3, q4, gx, Heap.get_set_self hl1]
    exact fin _ _ e0
  rw [hD, if_neg (by decide)] at e0
  by_cases w47 : c.toNat = 47
  · have w47' : (c.toNat : Int) = 47 := by omega
    rw [if_pos w47] at e0
    simp only [go_sem, zA, zB, zC, reduceIte, zD, zE, zF, zG, zH, zI, reduceCtorEq, zJ, zK, zL, zM, zN, zO, zP, w47']
    have hk := clsG_le r
    refine gw_loop3 hs r.length r 1 (Nat.le_refl _) h2 (by omega) fun t x => ?_
    have hcl := cls_closed r
    have gr : s[at_ + (1 + clsG r)]? = r[clsG r]? := by
      have hj : ∀ j, r[j]? = s[at_ + 1 + j]? := fun j => by rw [← h2, List.getElem?_drop]
      rw [hj, show at_ + 1 + clsG r = at_ + (1 + clsG r) by omega]
    simp only [go_sem, zA, zB, zC, reduceIte, zD, zE, zF, zG, zH, zI, reduceCtorEq, zJ, zK, zL, zM, zN, zO, zP, wl _ (show 1 + clsG r ≤ s.length by omega)]
    cases hg : r[clsG r]? with
    | none =>
      have hge := List.getElem?_eq_none_iff.1 hg
      have q3 : (s.length : Int) ≤ ((at_ + (1 + clsG r) : Nat) : Int) := by omega
      rw [hg] at hcl
      rw [hcl] at e0
      simp only [go_sem, zA, zB, zC, reduceIte, zD, zE, zF, zG, zH, zI, reduceCtorEq, zJ, zK, zL, zM, zN, zO, zP, q3, gx, Heap.get_set_self hl1]
      exact fin none 0 e0
    | some d =>
      have hlt := (List.getElem?_eq_some_iff.1 hg).1
      have q3 : ¬ (s.length : Int) ≤ ((at_ + (1 + clsG r) : Nat) : Int) := by omega
      have q3' : ((at_ + (1 + clsG r) : Nat) : Int) < (s.length : Int) := by omega
      rw [hg] at hcl gr
      simp only at hcl
      by_cases d47 : d.toNat = 47
      · have d47' : (d.toNat : Int) = 47 := by omega
        rw [if_pos d47] at hcl
        rw [hcl] at e0
        have k1 : ((at_ + 1 : Nat) : Int) ≤ ((at_ + (1 + clsG r) : Nat) : Int) := by omega
        have k2 : ((at_ + (1 + clsG r) : Nat) : Int) ≤ (s.length : Int) := by omega
        have k3 : (s.take (at_ + (1 + clsG r))).drop (at_ + 1) = r.take (clsG r) := by rw [show at_ + (1 + clsG r) = at_ + 1 + clsG r by omega]; exact cut h2 _
        simp only [go_sem, zA, zB, zC, reduceIte, zD, zE, zF, zG, zH, zI, reduceCtorEq, zJ, zK, zL, zM, zN, zO, zP, wl _ (show 1 + clsG r ≤ s.length by omega), q3, q3', Int.natCast_nonneg, gr, d47', wsucc (show at_ ≤ 1000000000 by omega), k1, k2, k3, wsucc (show 1 + clsG r ≤ 1000000000 by omega), gx, Heap.get_set_self hl1]
        have := fin _ _ e0
        rw [show clsG r + 2 = 1 + clsG r + 1 by omega] at this
        exact this
      · have d47' : ¬ (d.toNat : Int) = 47 := by omega
        rw [if_neg d47] at hcl
        rw [hcl] at e0
        simp only [go_sem, zA, zB, zC, reduceIte, zD, zE, zF, zG, zH, zI, reduceCtorEq, zJ, zK, zL, zM, zN, zO, zP, wl _ (show 1 + clsG r ≤ s.length by omega), q3, q3', Int.natCast_nonneg, gr, d47', gx, Heap.get_set_self hl1]
        exact fin none 0 e0
  have w47' : ¬ (c.toNat : Int) = 47 := by omega
  rw [if_neg w47] at e0
  simp only [go_sem, zA, zB, zC, reduceIte, zD, zE, zF, zG, zH, zI, reduceCtorEq, zJ, zK, zL, zM, zN, zO, zP, w47']
  have hsg : signB c = signL.any fun x => decide (x = c) := idx_nat signL 0
  refine gw_loop4 hs hr gx signL 0 rfl (by omega) (fun hb t x y => ?_) (fun hb σ k1 k2 k3 k4 => ?_)
  · rw [hsg, hb] at e0
    simp only [go_sem, zA, zB, zC, reduceIte, zD, zE, zF, zG, zH, zI, reduceCtorEq, zJ, zK, zL, zM, zN, zO, zP, gx, Heap.get_set_self hl1]
    exact fin none 0 e0
  · rw [hsg, hb] at e0
    simp only [go_sem, zA, zB, zC, reduceIte, zD, zE, zF, zG, zH, zI, reduceCtorEq, zJ, zK, zL, zM, zN, zO, zP, k1, k2, k3, k4, Heap.get_set_self hl1]
    exact fin _ _ e0
end
end Go.Ev
