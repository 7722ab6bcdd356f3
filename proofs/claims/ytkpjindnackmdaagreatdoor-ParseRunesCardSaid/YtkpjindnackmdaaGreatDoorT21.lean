/- Several texts of this claim, joined. -/
import Derived.Test.YtkpjindnackmdaaGreatDoorT20

/- What word.words comes to. -/
namespace Go.Ev
open Go
open Go.Ev renaming seqK_normal → zA, blockK_normal → zB, blockK_exit → zC
open Nat renaming reduceEqDiff → zD, reduceAdd → zE, reduceSub → zF, reduceMul → zG, reduceLeDiff → zH, reduceLT → zI
open Int renaming reduceToNat → zJ, reduceLT → zK, reduceLE → zL, reduceEq → zM, reduceAdd → zN, reduceSub → zO, reduceMul → zP
set_option linter.unusedSimpArgs false
set_option linter.unusedVariables false

structure W where
  kind : Nat
  text : List UInt8
  at_ : Nat
  deriving DecidableEq

def W.cells (w : W) : List AV := [.int .i64 w.kind, .str w.text, .int .i64 w.at_]
def wcells (l : List W) : List AV := l.flatMap W.cells
theorem wcells_app (l m : List W) : wcells (l ++ m) = wcells l ++ wcells m := List.flatMap_append
theorem wcells_len : ∀ l : List W, (wcells l).length = l.length * 3
  | [] => rfl
  | w :: l => by rw [wcells, List.flatMap_cons, List.length_append, ← wcells, wcells_len l, W.cells]; simp only [List.length_cons, List.length_nil]; omega

def signL : List UInt8 := [123, 125, 40, 41, 124, 42, 94, 60, 62, 58, 95, 61]
def signB (c : UInt8) : Bool := decide (0 ≤ idxByteA c signL 0)

def consW (w : W) : Except Nat (List W) → Except Nat (List W)
  | .ok l => .ok (w :: l)
  | .error k => .error k

/-- The words of a text. -/
def wordsL : Nat → List UInt8 → Nat → Except Nat (List W)
  | 0, _, _ => .ok []
  | _ + 1, [], _ => .ok []
  | n + 1, c :: r, i =>
    if c.toNat = 32 ∨ c.toNat = 9 ∨ c.toNat = 13 then wordsL n r (i + 1)
    else if c.toNat = 35 then wordsL n (r.drop (runL notNL r)) (i + 1 + runL notNL r)
    else if c.toNat = 10 then consW ⟨5, [], i⟩ (wordsL n r (i + 1))
    else if letterB c then consW ⟨1, c :: r.take (runL ldB r), i⟩ (wordsL n (r.drop (runL ldB r)) (i + 1 + runL ldB r))
    else if digitB c then consW ⟨2, c :: r.take (runL digitB r), i⟩ (wordsL n (r.drop (runL digitB r)) (i + 1 + runL digitB r))
    else if signB c then consW ⟨3, [c], i⟩ (wordsL n r (i + 1))
    else if c.toNat = 47 then (match closedL r with
      | none => .error i
      | some k => consW ⟨4, r.take k, i⟩ (wordsL n (r.drop (k + 1)) (i + 1 + k + 1)))
    else .error i

theorem runL_le (p : UInt8 → Bool) : ∀ r : List UInt8, runL p r ≤ r.length
  | [] => Nat.le_refl _
  | c :: r => by
    have := runL_le p r
    simp only [runL, List.length_cons]
    split <;> omega

theorem closedL_lt : ∀ (r : List UInt8) (k : Nat), closedL r = some k → k < r.length
  | [], k, h => by simp [closedL] at h
  | [c], k, h => by
    simp only [closedL] at h
    split at h
    · cases h
    · split at h
      · injection h with h; subst h; simp
      · cases h
  | c :: d :: r, k, h => by
    simp only [closedL] at h
    split at h
    · cases h
    · split at h
      · injection h with h; subst h; simp
      · split at h
        · split at h
          · cases h
          · obtain ⟨j, hj, rfl⟩ := Option.map_eq_some_iff.1 h
            have := closedL_lt r j hj
            simp only [List.length_cons]; omega
        · obtain ⟨j, hj, rfl⟩ := Option.map_eq_some_iff.1 h
          have := closedL_lt (d :: r) j hj
          simp only [List.length_cons] at *; omega

theorem cut {s : List UInt8} {i : Nat} {r : List UInt8} (h : s.drop i = r) (k : Nat) : (s.take (i + k)).drop i = r.take k := by
  rw [List.drop_take, h]; congr 1; omega

section
variable {o : CallF} (ho : OvOnly o)
include ho

theorem w_IndexByte {s : List UInt8} {c : UInt8} {H : Heap} {Q : End → Heap → Prop} (h : Q (.ret (.int .i64 (idxByteA c s 0))) H) : wpf ⟨bt.get, o⟩ F_strings_IndexByte [.str s, .int .u8 c.toNat] H Q := by
  rw [fn_strings_IndexByte (ho _ _ _ (by decide))]
  simp only [bd_strings_IndexByte, go_sem, zA, zB, zC, reduceIte, zD, zE, zF, zG, zH, zI, reduceCtorEq, zJ, zK, zL, zM, zN, zO, zP]
  rw [fn_stringslite_IndexByte (ho _ _ _ (by decide))]
  simp only [bd_stringslite_IndexByte, go_sem, zA, zB, zC, reduceIte, zD, zE, zF, zG, zH, zI, reduceCtorEq, zJ, zK, zL, zM, zN, zO, zP, UInt8.ofNat_toNat]
  exact h

theorem w_words_loop {s : List UInt8} (hs : s.length ≤ 1000000) {n0 : Nat} {H0 : Heap} {Q : Ctl → St → Prop} : ∀ (m : Nat) (r : List UInt8) (i : Nat) (acc : List W) (v : AV) (H : Heap), r.length ≤ m → s.drop i = r → i ≤ s.length → acc.length ≤ i → Ext n0 H0 H → n0 ≤ H.size → Sl n0 H 3 (wcells acc) acc.length v →
    (∀ l, wordsL m r i = .ok l → ∀ (σ : St) (v : AV), Ext n0 H0 σ.H → σ.d = [] → lk 3 σ.p = some v → Sl n0 σ.H 3 (wcells (acc ++ l)) (acc ++ l).length v → Q (.exit 0) σ) →
    (∀ k, wordsL m r i = .error k → ∀ (σ : St), Ext n0 H0 σ.H → σ.d = [] → Q (.panic [(faultA 2 k, false)]) σ) →
    wpl ⟨bt.get, o⟩ [0, 3, 4] lb_word_words_0 { p := [(0, .str s), (3, v), (4, .int .i64 (i : Int))], t := [], H := H, d := [], u := .norm } Q := by
  intro m
  induction m with
  | zero =>
    intro r i acc v H hm hr hi ha he hn hS hE hP
    have : r = [] := by cases r; rfl; simp at hm
    subst this
    have hl := at_nil hr
    rw [wpl_step]
    have h1 : ¬((i : Int) < (s.length : Int)) := by omega
    simp only [lb_word_words_0, go_sem, zA, zB, zC, reduceIte, zD, zE, zF, zG, zH, zI, reduceCtorEq, zJ, zK, zL, zM, zN, zO, zP, h1]
    exact hE [] rfl _ v he rfl rfl (by rw [List.append_nil]; exact hS)
  | succ m ih =>
    intro r i acc v H hm hr hi ha he hn hS hE hP
    cases r with
    | nil =>
      have hl := at_nil hr
      rw [wpl_step]
      have h1 : ¬((i : Int) < (s.length : Int)) := by omega
      simp only [lb_word_words_0, go_sem, zA, zB, zC, reduceIte, zD, zE, zF, zG, zH, zI, reduceCtorEq, zJ, zK, zL, zM, zN, zO, zP, h1]
      exact hE [] rfl _ v he rfl rfl (by rw [List.append_nil]; exact hS)
    | cons c r =>
      obtain ⟨h0, h1, h2⟩ := at_drop hr
      simp only [List.length_cons] at hm
      have hrl : r.length + i + 1 = s.length := by
        have := congrArg List.length hr
        simp only [List.length_drop, List.length_cons] at this
        omega
      rw [wpl_step]
      have h1' : ((i : Int) < (s.length : Int)) := by omega
      simp only [lb_word_words_0, go_sem, zA, zB, zC, reduceIte, zD, zE, zF, zG, zH, zI, reduceCtorEq, zJ, zK, zL, zM, zN, zO, zP, h1', Int.natCast_nonneg, h0]
      by_cases ws : c.toNat = 32 ∨ c.toNat = 9 ∨ c.toNat = 13
      · have e : wordsL (m + 1) (c :: r) i = wordsL m r (i + 1) := by rw [wordsL, if_pos ws]
        rw [e] at hE hP
        have fin := ih r (i + 1) acc v H (by omega) h2 (by omega) (by omega) he hn hS hE hP
        rcases ws with ws | ws | ws
        · have w1 : (c.toNat : Int) = 32 := by omega
          simp only [go_sem, zA, zB, zC, reduceIte, zD, zE, zF, zG, zH, zI, reduceCtorEq, zJ, zK, zL, zM, zN, zO, zP, w1, wsucc (show i ≤ 1000000000 by omega)]
          exact fin
        · have w1 : (c.toNat : Int) = 9 := by omega
          have w2 : ¬((9 : Int) = 32) := by omega
          simp only [go_sem, zA, zB, zC, reduceIte, zD, zE, zF, zG, zH, zI, reduceCtorEq, zJ, zK, zL, zM, zN, zO, zP, w1, w2, wsucc (show i ≤ 1000000000 by omega)]
          exact fin
        · have w1 : (c.toNat : Int) = 13 := by omega
          have w2 : ¬((13 : Int) = 32) := by omega
          have w3 : ¬((13 : Int) = 9) := by omega
          simp only [go_sem, zA, zB, zC, reduceIte, zD, zE, zF, zG, zH, zI, reduceCtorEq, zJ, zK, zL, zM, zN, zO, zP, w1, w2, w3, wsucc (show i ≤ 1000000000 by omega)]
          exact fin
      · have e32 : ¬((c.toNat : Int) = 32) := by omega
        have e9 : ¬((c.toNat : Int) = 9) := by omega
        have e13 : ¬((c.toNat : Int) = 13) := by omega
        have iw := wsucc (show i ≤ 1000000000 by omega)
        have fin2 : ∀ (w : W) (r' : List UInt8) (i' : Nat), r'.length ≤ m → s.drop i' = r' → i' ≤ s.length → i < i' → wordsL (m + 1) (c :: r) i = consW w (wordsL m r' i') → ∀ (H2 : Heap) (v2 : AV), Ext n0 H H2 → Sl n0 H2 3 (wcells acc ++ w.cells) (acc.length + 1) v2 →
            wpl ⟨bt.get, o⟩ [0, 3, 4] lb_word_words_0 { p := [(0, .str s), (3, v2), (4, .int .i64 (i' : Int))], t := [], H := H2, d := [], u := .norm } Q := by
          intro w r' i' g1 g2 g3 g4 g5 H2 v2 g6 g7
          rw [g5] at hE hP
          refine ih r' i' (acc ++ [w]) v2 H2 g1 g2 g3 (by simp; omega) (he.trans g6) (Nat.le_trans hn g6.1) ?_ (fun l hl σ v' k1 k2 k3 k4 => hE (w :: l) (by rw [hl]; rfl) σ v' k1 k2 k3 ?_) (fun k hk => hP k (by rw [hk]; rfl))
          · rw [wcells_app, List.length_append]
            simpa [wcells] using g7
          · simpa using k4
        have hn' : n0 ≤ (H.push .dead).size := by rw [Heap.size_push]; omega
        simp only [go_sem, zA, zB, zC, reduceIte, zD, zE, zF, zG, zH, zI, reduceCtorEq, zJ, zK, zL, zM, zN, zO, zP, e32, e9, e13]
        by_cases c35 : c.toNat = 35
        · have c35' : (c.toNat : Int) = 35 := by omega
          simp only [go_sem, zA, zB, zC, reduceIte, zD, zE, zF, zG, zH, zI, reduceCtorEq, zJ, zK, zL, zM, zN, zO, zP, c35']
          refine w_run ho hs (tells_words_1 ho) hi ?_
          have hc : notNL c = true := by simp [notNL, c35]
          have e : wordsL (m + 1) (c :: r) i = wordsL m (r.drop (runL notNL r)) (i + 1 + runL notNL r) := by
            rw [wordsL, if_neg ws, if_pos c35]
          have hk := runL_le notNL r
          simp only [go_sem, zA, zB, zC, reduceIte, zD, zE, zF, zG, zH, zI, reduceCtorEq, zJ, zK, zL, zM, zN, zO, zP, hr, runL, hc]
          rw [show i + (runL notNL r + 1) = i + 1 + runL notNL r by omega]
          rw [e] at hE hP
          exact ih _ _ acc v H (by rw [List.length_drop]; omega) (by rw [← h2, List.drop_drop]) (by omega) (by omega) he hn hS hE hP
        · have c35' : ¬((c.toNat : Int) = 35) := by omega
          simp only [go_sem, zA, zB, zC, reduceIte, zD, zE, zF, zG, zH, zI, reduceCtorEq, zJ, zK, zL, zM, zN, zO, zP, c35']
          by_cases c10 : c.toNat = 10
          · have c10' : (c.toNat : Int) = 10 := by omega
            simp only [go_sem, zA, zB, zC, reduceIte, zD, zE, zF, zG, zH, zI, reduceCtorEq, zJ, zK, zL, zM, zN, zO, zP, c10', iw]
            obtain ⟨b, H', ea, hx, hsl⟩ := append_spec (bytes := 32) (ys := [.int .i64 5, .str [], .int .i64 (i : Int)]) (k := 1) (Sl.push (x := .cells [.int .i64 5, .str [], .int .i64 (i : Int)] .own) hS) (by rw [Heap.size_push]; omega) (by omega) rfl (by omega) (by omega)
            simp only [ea, go_sem, zA, zB, zC, reduceIte, zD, zE, zF, zG, zH, zI, reduceCtorEq, zJ, zK, zL, zM, zN, zO, zP]
            exact fin2 ⟨5, [], i⟩ r (i + 1) (by omega) h2 (by omega) (by omega) (by rw [wordsL, if_neg ws, if_neg c35, if_pos c10]) _ _ ((Ext.push hn).trans hx) hsl
          · have c10' : ¬((c.toNat : Int) = 10) := by omega
            simp only [go_sem, zA, zB, zC, reduceIte, zD, zE, zF, zG, zH, zI, reduceCtorEq, zJ, zK, zL, zM, zN, zO, zP, c10']
            refine w_letter ho ?_
            cases hL : letterB c
            · simp only [go_sem, zA, zB, zC, reduceIte, zD, zE, zF, zG, zH, zI, reduceCtorEq, zJ, zK, zL, zM, zN, zO, zP]
              refine w_digit ho ?_
              cases hD : digitB c
              · simp only [go_sem, zA, zB, zC, reduceIte, zD, zE, zF, zG, zH, zI, reduceCtorEq, zJ, zK, zL, zM, zN, zO, zP]
                refine w_IndexByte ho ?_
                simp only [go_sem, zA, zB, zC, reduceIte, zD, zE, zF, zG, zH, zI, reduceCtorEq, zJ, zK, zL, zM, zN, zO, zP]
                have hS0 : decide ((0 : Int) ≤ idxByteA c [123, 125, 40, 41, 124, 42, 94, 60, 62, 58, 95, 61] 0) = signB c := rfl
                rw [hS0]
                cases hB : signB c
                · simp only [go_sem, zA, zB, zC, reduceIte, zD, zE, zF, zG, zH, zI, reduceCtorEq, zJ, zK, zL, zM, zN, zO, zP]
                  by_cases c47 : c.toNat = 47
                  · have c47' : (c.toNat : Int) = 47 := by omega
                    simp only [go_sem, zA, zB, zC, reduceIte, zD, zE, zF, zG, zH, zI, reduceCtorEq, zJ, zK, zL, zM, zN, zO, zP, c47']
                    refine w_closed ho hs (by omega) (fun hcl => ?_) (fun k hcl => ?_)
                    · simp only [go_sem, zA, zB, zC, reduceIte, zD, zE, zF, zG, zH, zI, reduceCtorEq, zJ, zK, zL, zM, zN, zO, zP]
                      rw [h2] at hcl
                      exact hP i (by rw [wordsL, if_neg ws, if_neg c35, if_neg c10, if_neg (by rw [hL]; simp), if_neg (by rw [hD]; simp), if_neg (by rw [hB]; simp), if_pos c47, hcl]) _ he rfl
                    · rw [h2] at hcl
                      have hk := closedL_lt r k hcl
                      have e2 : ((i + 1 : Nat) : Int) ≤ ((i + 1 + k : Nat) : Int) := by omega
                      have e3 : ((i + 1 + k : Nat) : Int) ≤ (s.length : Int) := by omega
                      have e4 : (s.take (i + 1 + k)).drop (i + 1) = r.take k := cut h2 k
                      simp only [go_sem, zA, zB, zC, reduceIte, zD, zE, zF, zG, zH, zI, reduceCtorEq, zJ, zK, zL, zM, zN, zO, zP, Int.natCast_nonneg, iw, e2, e3, e4]
                      obtain ⟨b, H', ea, hx, hsl⟩ := append_spec (bytes := 32) (ys := [.int .i64 4, .str (r.take k), .int .i64 (i : Int)]) (k := 1) (Sl.push (x := .cells [.int .i64 4, .str (r.take k), .int .i64 (i : Int)] .own) hS) (by rw [Heap.size_push]; omega) (by omega) rfl (by omega) (by omega)
                      simp only [ea, go_sem, zA, zB, zC, reduceIte, zD, zE, zF, zG, zH, zI, reduceCtorEq, zJ, zK, zL, zM, zN, zO, zP, wsucc (show i + 1 + k ≤ 1000000000 by omega)]
                      exact fin2 ⟨4, r.take k, i⟩ (r.drop (k + 1)) (i + 1 + k + 1) (by rw [List.length_drop]; omega) (by rw [← h2, List.drop_drop]; congr 1) (by omega) (by omega) (by rw [wordsL, if_neg ws, if_neg c35, if_neg c10, if_neg (by rw [hL]; simp), if_neg (by rw [hD]; simp), if_neg (by rw [hB]; simp), if_pos c47, hcl]) _ _ ((Ext.push hn).trans hx) hsl
                  · have c47' : ¬((c.toNat : Int) = 47) := by omega
                    simp only [go_sem, zA, zB, zC, reduceIte, zD, zE, zF, zG, zH, zI, reduceCtorEq, zJ, zK, zL, zM, zN, zO, zP, c47']
                    refine w_Fail ho ?_
                    simp only [go_sem, zA, zB, zC, reduceIte, zD, zE, zF, zG, zH, zI, reduceCtorEq, zJ, zK, zL, zM, zN, zO, zP]
                    exact hP i (by rw [wordsL, if_neg ws, if_neg c35, if_neg c10, if_neg (by rw [hL]; simp), if_neg (by rw [hD]; simp), if_neg (by rw [hB]; simp), if_neg c47]) _ he rfl
                · simp only [go_sem, zA, zB, zC, reduceIte, zD, zE, zF, zG, zH, zI, reduceCtorEq, zJ, zK, zL, zM, zN, zO, zP, iw]
                  have e2 : (i : Int) ≤ ((i + 1 : Nat) : Int) := by omega
                  have e3 : ((i + 1 : Nat) : Int) ≤ (s.length : Int) := by omega
                  have e4 : (s.take (i + 1)).drop i = [c] := by rw [cut hr, List.take_succ_cons, List.take_zero]
                  simp only [go_sem, zA, zB, zC, reduceIte, zD, zE, zF, zG, zH, zI, reduceCtorEq, zJ, zK, zL, zM, zN, zO, zP, Int.natCast_nonneg, e2, e3, e4]
                  obtain ⟨b, H', ea, hx, hsl⟩ := append_spec (bytes := 32) (ys := [.int .i64 3, .str [c], .int .i64 (i : Int)]) (k := 1) (Sl.push (x := .cells [.int .i64 3, .str [c], .int .i64 (i : Int)] .own) hS) (by rw [Heap.size_push]; omega) (by omega) rfl (by omega) (by omega)
                  simp only [ea, go_sem, zA, zB, zC, reduceIte, zD, zE, zF, zG, zH, zI, reduceCtorEq, zJ, zK, zL, zM, zN, zO, zP]
                  exact fin2 ⟨3, [c], i⟩ r (i + 1) (by omega) h2 (by omega) (by omega) (by rw [wordsL, if_neg ws, if_neg c35, if_neg c10, if_neg (by rw [hL]; simp), if_neg (by rw [hD]; simp), if_pos hB]) _ _ ((Ext.push hn).trans hx) hsl
              · simp only [go_sem, zA, zB, zC, reduceIte, zD, zE, zF, zG, zH, zI, reduceCtorEq, zJ, zK, zL, zM, zN, zO, zP]
                refine w_run ho hs (tells_digit ho) hi ?_
                have hk := runL_le digitB r
                have e1 : i + runL digitB (s.drop i) = i + 1 + runL digitB r := by rw [hr, runL, if_pos hD]; omega
                have e2 : (i : Int) ≤ ((i + 1 + runL digitB r : Nat) : Int) := by omega
                have e3 : ((i + 1 + runL digitB r : Nat) : Int) ≤ (s.length : Int) := by omega
                have e4 : (s.take (i + 1 + runL digitB r)).drop i = c :: r.take (runL digitB r) := by
                  rw [Nat.add_assoc, cut hr, Nat.add_comm 1, List.take_succ_cons]
                rw [e1]
                simp only [go_sem, zA, zB, zC, reduceIte, zD, zE, zF, zG, zH, zI, reduceCtorEq, zJ, zK, zL, zM, zN, zO, zP, Int.natCast_nonneg, e2, e3, e4]
                obtain ⟨b, H', ea, hx, hsl⟩ := append_spec (bytes := 32) (ys := [.int .i64 2, .str (c :: r.take (runL digitB r)), .int .i64 (i : Int)]) (k := 1) (Sl.push (x := .cells [.int .i64 2, .str (c :: r.take (runL digitB r)), .int .i64 (i : Int)] .own) hS) (by rw [Heap.size_push]; omega) (by omega) rfl (by omega) (by omega)
                simp only [ea, go_sem, zA, zB, zC, reduceIte, zD, zE, zF, zG, zH, zI, reduceCtorEq, zJ, zK, zL, zM, zN, zO, zP]
                exact fin2 ⟨2, c :: r.take (runL digitB r), i⟩ (r.drop (runL digitB r)) (i + 1 + runL digitB r) (by rw [List.length_drop]; omega) (by rw [← h2, List.drop_drop]) (by omega) (by omega) (by rw [wordsL, if_neg ws, if_neg c35, if_neg c10, if_neg (by rw [hL]; simp), if_pos hD]) _ _ ((Ext.push hn).trans hx) hsl
            · simp only [go_sem, zA, zB, zC, reduceIte, zD, zE, zF, zG, zH, zI, reduceCtorEq, zJ, zK, zL, zM, zN, zO, zP]
              have hLd : ldB c = true := by simp [ldB, hL]
              refine w_run ho hs (tells_words_2 ho) hi ?_
              have hk := runL_le ldB r
              have e1 : i + runL ldB (s.drop i) = i + 1 + runL ldB r := by rw [hr, runL, if_pos hLd]; omega
              have e2 : (i : Int) ≤ ((i + 1 + runL ldB r : Nat) : Int) := by omega
              have e3 : ((i + 1 + runL ldB r : Nat) : Int) ≤ (s.length : Int) := by omega
              have e4 : (s.take (i + 1 + runL ldB r)).drop i = c :: r.take (runL ldB r) := by
                rw [Nat.add_assoc, cut hr, Nat.add_comm 1, List.take_succ_cons]
              rw [e1]
              simp only [go_sem, zA, zB, zC, reduceIte, zD, zE, zF, zG, zH, zI, reduceCtorEq, zJ, zK, zL, zM, zN, zO, zP, Int.natCast_nonneg, e2, e3, e4]
              obtain ⟨b, H', ea, hx, hsl⟩ := append_spec (bytes := 32) (ys := [.int .i64 1, .str (c :: r.take (runL ldB r)), .int .i64 (i : Int)]) (k := 1) (Sl.push (x := .cells [.int .i64 1, .str (c :: r.take (runL ldB r)), .int .i64 (i : Int)] .own) hS) (by rw [Heap.size_push]; omega) (by omega) rfl (by omega) (by omega)
              simp only [ea, go_sem, zA, zB, zC, reduceIte, zD, zE, zF, zG, zH, zI, reduceCtorEq, zJ, zK, zL, zM, zN, zO, zP]
              exact fin2 ⟨1, c :: r.take (runL ldB r), i⟩ (r.drop (runL ldB r)) (i + 1 + runL ldB r) (by rw [List.length_drop]; omega) (by rw [← h2, List.drop_drop]) (by omega) (by omega) (by rw [wordsL, if_neg ws, if_neg c35, if_neg c10, if_pos hL]) _ _ ((Ext.push hn).trans hx) hsl

theorem w_words {s : List UInt8} (hs : s.length ≤ 1000000) {n0 : Nat} {H : Heap} (hn : n0 ≤ H.size) {Q : End → Heap → Prop}
    (hE : ∀ l, wordsL s.length s 0 = .ok l → ∀ H' v, Ext n0 H H' → Sl n0 H' 3 (wcells l) l.length v → Q (.ret v) H')
    (hP : ∀ k, wordsL s.length s 0 = .error k → ∀ H', Ext n0 H H' → Q (.pan [(faultA 2 k, false)]) H') : wpf ⟨bt.get, o⟩ F_word_words [.str s] H Q := by
  rw [fn_word_words (ho _ _ _ (by decide))]
  simp only [bd_word_words, go_sem, zA, zB, zC, reduceIte, zD, zE, zF, zG, zH, zI, reduceCtorEq, zJ, zK, zL, zM, zN, zO, zP]
  refine w_words_loop ho hs (n0 := n0) (H0 := H) s.length s 0 [] .nils H (Nat.le_refl _) rfl (Nat.zero_le _) (Nat.le_refl _) Ext.refl hn Sl.nil (fun l hl σ v h1 h2 h3 h4 => ?_) (fun k hk σ h1 h2 => ?_)
  · simp only [go_sem, zA, zB, zC, reduceIte, zD, zE, zF, zG, zH, zI, reduceCtorEq, zJ, zK, zL, zM, zN, zO, zP, h2, h3]
    exact hE l hl _ v h1 (by simpa using h4)
  · simp only [go_sem, zA, zB, zC, reduceIte, zD, zE, zF, zG, zH, zI, reduceCtorEq, zJ, zK, zL, zM, zN, zO, zP, h2]
    exact hP k hk _ h1
end
end Go.Ev

/- What utf8.DecodeRune comes to. -/
namespace Go.Ev
open Go
open Go.Ev renaming seqK_normal → zA, blockK_normal → zB, blockK_exit → zC
open Nat renaming reduceEqDiff → zD, reduceAdd → zE, reduceSub → zF, reduceMul → zG, reduceLeDiff → zH, reduceLT → zI
open Int renaming reduceToNat → zJ, reduceLT → zK, reduceLE → zL, reduceEq → zM, reduceAdd → zN, reduceSub → zO, reduceMul → zP
set_option linter.unusedSimpArgs false
set_option linter.unusedVariables false
theorem longN_2 {n : Nat} (h : longN n = 2) : 194 ≤ n ∧ n ≤ 223 := by
  unfold longN at h
  repeat' split at h
  all_goals omega
theorem longN_3 {n : Nat} (h : longN n = 3) : 224 ≤ n ∧ n ≤ 239 := by
  unfold longN at h
  repeat' split at h
  all_goals omega
theorem longN_4 {n : Nat} (h : longN n = 4) : 240 ≤ n ∧ n ≤ 244 := by
  unfold longN at h
  repeat' split at h
  all_goals omega
theorem longN_1 {n : Nat} (h : longN n = 1) : n < 128 := by
  unfold longN at h
  repeat' split at h
  all_goals omega
theorem okB_1 {a b : UInt8} (h : okB [a] b = true) : secLo a.toNat ≤ b.toNat ∧ b.toNat ≤ secHi a.toNat := by simpa [okB] using h
theorem okB_2 {a b c : UInt8} (h : okB [a, b] c = true) : 128 ≤ c.toNat ∧ c.toNat ≤ 191 := by simpa [okB] using h
theorem okB_3 {a b c d : UInt8} (h : okB [a, b, c] d = true) : 128 ≤ d.toNat ∧ d.toNat ≤ 191 := by simpa [okB] using h
theorem shl6 {a : Nat} (h : a ≤ 2047) : shiftA .shl .i32 (a : Int) 6 = some (.int .i32 ((64 * a : Nat) : Int)) := by rw [Nat.mul_comm]; exact shl_i32 (k := 6) (by omega) (by omega)
theorem shl12 {a : Nat} (h : a ≤ 2047) : shiftA .shl .i32 (a : Int) 12 = some (.int .i32 ((4096 * a : Nat) : Int)) := by rw [Nat.mul_comm]; exact shl_i32 (k := 12) (by omega) (by omega)
theorem shl18 {a : Nat} (h : a ≤ 2047) : shiftA .shl .i32 (a : Int) 18 = some (.int .i32 ((262144 * a : Nat) : Int)) := by rw [Nat.mul_comm]; exact shl_i32 (k := 18) (by omega) (by omega)
theorem or6 {a b : Nat} (ha : a ≤ 262143) (hb : b < 64) : intBin .or .i32 ((64 * a : Nat) : Int) (b : Int) = some (.int .i32 ((64 * a + b : Nat) : Int)) := or_i32 (k := 6) hb (by omega)
theorem or12 {a b : Nat} (ha : a ≤ 262143) (hb : b < 4096) : intBin .or .i32 ((4096 * a : Nat) : Int) (b : Int) = some (.int .i32 ((4096 * a + b : Nat) : Int)) := or_i32 (k := 12) hb (by omega)
theorem or18 {a b : Nat} (ha : a ≤ 2047) (hb : b < 262144) : intBin .or .i32 ((262144 * a : Nat) : Int) (b : Int) = some (.int .i32 ((262144 * a + b : Nat) : Int)) := or_i32 (k := 18) hb (by omega)
theorem firstN_3 {n : Nat} (h : 224 ≤ n ∧ n ≤ 239) : ((firstN n : Nat) : Int) = if n = 224 then 19 else if n = 237 then 35 else 3 := by
  unfold firstN
  repeat' split
  all_goals first | omega | rfl
theorem firstN_4 {n : Nat} (h : 240 ≤ n ∧ n ≤ 244) : ((firstN n : Nat) : Int) = if n = 240 then 52 else if n = 244 then 68 else 4 := by
  unfold firstN
  repeat' split
  all_goals first | omega | rfl
theorem firstN_2 {n : Nat} (h : 194 ≤ n ∧ n ≤ 223) : ((firstN n : Nat) : Int) = 2 := by
  unfold firstN
  repeat' split
  all_goals first | omega | rfl

section
variable {o : CallF} (ho : OvOnly o)
include ho

theorem u_slow2 {a b : UInt8} {hb : Nat} {H : Heap} {Q : End → Heap → Prop} (hG : GlH H) (hg : H.get hb = .cells (byteCells [a, b]) .own) (hw : whole [a, b] = true) (h : ∀ H', Ext H.size H H' → Q (.ret (.tup [.int .i32 (decR [a, b]), .int .i64 2])) H') : wpf ⟨bt.get, o⟩ F_utf8_decodeRuneSlow [.osl 1 hb 0 2] H Q := by
  rw [fn_utf8_decodeRuneSlow (ho _ _ _ (by decide))]
  simp only [whole, Bool.and_eq_true, beq_iff_eq] at hw
  have ha := longN_2 hw.1
  have hb2 := okB_1 hw.2
  have hf := firstN_2 ha
  simp only [secLo, secHi, if_neg (show ¬ a.toNat = 224 by omega), if_neg (show ¬ a.toNat = 240 by omega), if_neg (show ¬ a.toNat = 237 by omega), if_neg (show ¬ a.toNat = 244 by omega)] at hb2
  have hlt : hb < H.size := Heap.lt_of_get (by rw [hg]; simp)
  have hn : ¬ ((b.toNat : Int) < 128) := by omega
  have hn2 : ¬ ((191 : Int) < (b.toNat : Int)) := by omega
  have e1 : shiftA .shr .u8 2 4 = some (.int .u8 0) := by rfl
  have e2 : u8and 2 7 = 2 := by rfl
  have e3 : IntKind.i64.wrap 2 = 2 := by rfl
  have ma := u8and_at a
  have mb := u8and_at b
  have w1 : IntKind.i32.wrap ((a.toNat % 32 : Nat) : Int) = ((a.toNat % 32 : Nat) : Int) := wi32 (by omega) (by omega)
  have w2 : IntKind.i32.wrap ((b.toNat % 64 : Nat) : Int) = ((b.toNat % 64 : Nat) : Int) := wi32 (by omega) (by omega)
  have a256 : (a.toNat : Int) < 256 := by have := a.toNat_lt; omega
  simp only [bd_utf8_decodeRuneSlow, go_sem, zA, zB, zC, reduceIte, zD, zE, zF, zG, zH, zI, reduceCtorEq, zJ, zK, zL, zM, zN, zO, zP, hg, a256, byteCells, List.map_cons, List.map_nil, first_at, hf, hG.2.1, hG.2.2.1, glAccept, e1, e2, e3, intBin_u8and, Heap.get_push_lt hlt, hn, hn2, ma, mb, w1, w2, Int.natCast_nonneg]
  simp only [go_sem, zA, zB, zC, reduceIte, zD, zE, zF, zG, zH, zI, reduceCtorEq, zJ, zK, zL, zM, zN, zO, zP, shl6 (show a.toNat % 32 ≤ 2047 by omega), or6 (show a.toNat % 32 ≤ 262143 by omega) (show b.toNat % 64 < 64 by omega)]
  have := h _ (Ext.push (x := .cells [.int .u8 128, .int .u8 191] .own) (Nat.le_refl _))
  rw [decR, Nat.mul_comm] at this
  exact this

theorem u_slow3 {a b c : UInt8} {hb : Nat} {H : Heap} {Q : End → Heap → Prop} (hG : GlH H) (hg : H.get hb = .cells (byteCells [a, b, c]) .own) (hw : whole [a, b, c] = true) (h : ∀ H', Ext H.size H H' → Q (.ret (.tup [.int .i32 (decR [a, b, c]), .int .i64 3])) H') : wpf ⟨bt.get, o⟩ F_utf8_decodeRuneSlow [.osl 1 hb 0 3] H Q := by
  rw [fn_utf8_decodeRuneSlow (ho _ _ _ (by decide))]
  simp only [whole, Bool.and_eq_true, beq_iff_eq] at hw
  obtain ⟨⟨hw1, hw2⟩, hw3⟩ := hw
  have ha := longN_3 hw1
  have hb2 := okB_1 hw2
  have hc2 := okB_2 hw3
  have hf := firstN_3 ha
  have hlt : hb < H.size := Heap.lt_of_get (by rw [hg]; simp)
  have hm : ¬ ((c.toNat : Int) < 128) := by omega
  have hm2 : ¬ ((191 : Int) < (c.toNat : Int)) := by omega
  have ma := u8and_at a
  have mb := u8and_at b
  have mc := u8and_at c
  have w1 : IntKind.i32.wrap ((a.toNat % 16 : Nat) : Int) = ((a.toNat % 16 : Nat) : Int) := wi32 (by omega) (by omega)
  have w2 : IntKind.i32.wrap ((b.toNat % 64 : Nat) : Int) = ((b.toNat % 64 : Nat) : Int) := wi32 (by omega) (by omega)
  have w3 : IntKind.i32.wrap ((c.toNat % 64 : Nat) : Int) = ((c.toNat % 64 : Nat) : Int) := wi32 (by omega) (by omega)
  have a256 : (a.toNat : Int) < 256 := by have := a.toNat_lt; omega
  have e3 : IntKind.i64.wrap 3 = 3 := by rfl
  have f2 : u8and 19 7 = 3 := by rfl
  have f3 : u8and 35 7 = 3 := by rfl
  have f4 : u8and 3 7 = 3 := by rfl
  have g2 : shiftA .shr .u8 19 4 = some (.int .u8 1) := by rfl
  have g3 : shiftA .shr .u8 35 4 = some (.int .u8 2) := by rfl
  have g4 : shiftA .shr .u8 3 4 = some (.int .u8 0) := by rfl
  have o1 : intBin .or .i32 ((4096 * (a.toNat % 16) : Nat) : Int) ((64 * (b.toNat % 64) : Nat) : Int) = some (.int .i32 ((64 * (64 * (a.toNat % 16) + b.toNat % 64) : Nat) : Int)) := by
    rw [or12 (by omega) (by omega)]; congr 3; omega
  have o2 := or6 (a := 64 * (a.toNat % 16) + b.toNat % 64) (b := c.toNat % 64) (by omega) (by omega)
  have hd : decR [a, b, c] = 64 * (64 * (a.toNat % 16) + b.toNat % 64) + c.toNat % 64 := by rw [decR]; omega
  rw [hd] at h
  by_cases h224 : a.toNat = 224
  · rw [if_pos h224] at hf
    have hn : ¬ ((b.toNat : Int) < 160) := by have l := hb2.1; rw [h224] at l; have l2 : 160 ≤ b.toNat := l; omega
    have hn2 : ¬ ((191 : Int) < (b.toNat : Int)) := by have l := hb2.2; rw [h224] at l; have l2 : b.toNat ≤ 191 := l; omega
    simp only [bd_utf8_decodeRuneSlow, go_sem, zA, zB, zC, reduceIte, zD, zE, zF, zG, zH, zI, reduceCtorEq, zJ, zK, zL, zM, zN, zO, zP, hg, a256, byteCells, List.map_cons, List.map_nil, first_at, hf, hG.2.1, hG.2.2.1, glAccept, e3, f2, g2, intBin_u8and, Heap.get_push_lt hlt, hn, hn2, hm, hm2, ma, mb, mc, w1, w2, w3]
    simp only [go_sem, zA, zB, zC, reduceIte, zD, zE, zF, zG, zH, zI, reduceCtorEq, zJ, zK, zL, zM, zN, zO, zP, shl12 (show a.toNat % 16 ≤ 2047 by omega), shl6 (show b.toNat % 64 ≤ 2047 by omega), o1, o2]
    exact h _ (Ext.push (Nat.le_refl _))
  · rw [if_neg h224] at hf
    by_cases h237 : a.toNat = 237
    · rw [if_pos h237] at hf
      have hn : ¬ ((b.toNat : Int) < 128) := by have l := hb2.1; rw [h237] at l; have l2 : 128 ≤ b.toNat := l; omega
      have hn2 : ¬ ((159 : Int) < (b.toNat : Int)) := by have l := hb2.2; rw [h237] at l; have l2 : b.toNat ≤ 159 := l; omega
      simp only [bd_utf8_decodeRuneSlow, go_sem, zA, zB, zC, reduceIte, zD, zE, zF, zG, zH, zI, reduceCtorEq, zJ, zK, zL, zM, zN, zO, zP, hg, a256, byteCells, List.map_cons, List.map_nil, first_at, hf, hG.2.1, hG.2.2.1, glAccept, e3, f3, g3, intBin_u8and, Heap.get_push_lt hlt, hn, hn2, hm, hm2, ma, mb, mc, w1, w2, w3]
      simp only [go_sem, zA, zB, zC, reduceIte, zD, zE, zF, zG, zH, zI, reduceCtorEq, zJ, zK, zL, zM, zN, zO, zP, shl12 (show a.toNat % 16 ≤ 2047 by omega), shl6 (show b.toNat % 64 ≤ 2047 by omega), o1, o2]
      exact h _ (Ext.push (Nat.le_refl _))
    · rw [if_neg h237] at hf
      have hn : ¬ ((b.toNat : Int) < 128) := by simp only [secLo, if_neg h224, if_neg (show ¬ a.toNat = 240 by omega)] at hb2; omega
      have hn2 : ¬ ((191 : Int) < (b.toNat : Int)) := by simp only [secHi, if_neg h237, if_neg (show ¬ a.toNat = 244 by omega)] at hb2; omega
      simp only [bd_utf8_decodeRuneSlow, go_sem, zA, zB, zC, reduceIte, zD, zE, zF, zG, zH, zI, reduceCtorEq, zJ, zK, zL, zM, zN, zO, zP, hg, a256, byteCells, List.map_cons, List.map_nil, first_at, hf, hG.2.1, hG.2.2.1, glAccept, e3, f4, g4, intBin_u8and, Heap.get_push_lt hlt, hn, hn2, hm, hm2, ma, mb, mc, w1, w2, w3]
      simp only [go_sem, zA, zB, zC, reduceIte, zD, zE, zF, zG, zH, zI, reduceCtorEq, zJ, zK, zL, zM, zN, zO, zP, shl12 (show a.toNat % 16 ≤ 2047 by omega), shl6 (show b.toNat % 64 ≤ 2047 by omega), o1, o2]
      exact h _ (Ext.push (Nat.le_refl _))

theorem u_slow4 {a b c d : UInt8} {hb : Nat} {H : Heap} {Q : End → Heap → Prop} (hG : GlH H) (hg : H.get hb = .cells (byteCells [a, b, c, d]) .own) (hw : whole [a, b, c, d] = true) (h : ∀ H', Ext H.size H H' → Q (.ret (.tup [.int .i32 (decR [a, b, c, d]), .int .i64 4])) H') : wpf ⟨bt.get, o⟩ F_utf8_decodeRuneSlow [.osl 1 hb 0 4] H Q := by
  rw [fn_utf8_decodeRuneSlow (ho _ _ _ (by decide))]
  simp only [whole, Bool.and_eq_true, beq_iff_eq] at hw
  obtain ⟨⟨⟨hw1, hw2⟩, hw3⟩, hw4⟩ := hw
  have ha := longN_4 hw1
  have hb2 := okB_1 hw2
  have hc2 := okB_2 hw3
  have hd2 := okB_3 hw4
  have hf := firstN_4 ha
  have hlt : hb < H.size := Heap.lt_of_get (by rw [hg]; simp)
  have hm : ¬ ((c.toNat : Int) < 128) := by omega
  have hm2 : ¬ ((191 : Int) < (c.toNat : Int)) := by omega
  have hk : ¬ ((d.toNat : Int) < 128) := by omega
  have hk2 : ¬ ((191 : Int) < (d.toNat : Int)) := by omega
  have ma := u8and_at a
  have mb := u8and_at b
  have mc := u8and_at c
  have md := u8and_at d
  have w1 : IntKind.i32.wrap ((a.toNat % 8 : Nat) : Int) = ((a.toNat % 8 : Nat) : Int) := wi32 (by omega) (by omega)
  have w2 : IntKind.i32.wrap ((b.toNat % 64 : Nat) : Int) = ((b.toNat % 64 : Nat) : Int) := wi32 (by omega) (by omega)
  have w3 : IntKind.i32.wrap ((c.toNat % 64 : Nat) : Int) = ((c.toNat % 64 : Nat) : Int) := wi32 (by omega) (by omega)
  have w4 : IntKind.i32.wrap ((d.toNat % 64 : Nat) : Int) = ((d.toNat % 64 : Nat) : Int) := wi32 (by omega) (by omega)
  have a256 : (a.toNat : Int) < 256 := by have := a.toNat_lt; omega
  have e3 : IntKind.i64.wrap 4 = 4 := by rfl
  have f2 : u8and 52 7 = 4 := by rfl
  have f3 : u8and 68 7 = 4 := by rfl
  have f4 : u8and 4 7 = 4 := by rfl
  have g2 : shiftA .shr .u8 52 4 = some (.int .u8 3) := by rfl
  have g3 : shiftA .shr .u8 68 4 = some (.int .u8 4) := by rfl
  have g4 : shiftA .shr .u8 4 4 = some (.int .u8 0) := by rfl
  have o1 : intBin .or .i32 ((262144 * (a.toNat % 8) : Nat) : Int) ((4096 * (b.toNat % 64) : Nat) : Int) = some (.int .i32 ((4096 * (64 * (a.toNat % 8) + b.toNat % 64) : Nat) : Int)) := by
    rw [or18 (by omega) (by omega)]; congr 3; omega
  have o2 : intBin .or .i32 ((4096 * (64 * (a.toNat % 8) + b.toNat % 64) : Nat) : Int) ((64 * (c.toNat % 64) : Nat) : Int) = some (.int .i32 ((64 * (64 * (64 * (a.toNat % 8) + b.toNat % 64) + c.toNat % 64) : Nat) : Int)) := by
    rw [or12 (by omega) (by omega)]; congr 3; omega
  have o3 := or6 (a := 64 * (64 * (a.toNat % 8) + b.toNat % 64) + c.toNat % 64) (b := d.toNat % 64) (by omega) (by omega)
  have hd : decR [a, b, c, d] = 64 * (64 * (64 * (a.toNat % 8) + b.toNat % 64) + c.toNat % 64) + d.toNat % 64 := by rw [decR]; omega
  rw [hd] at h
  by_cases h240 : a.toNat = 240
  · rw [if_pos h240] at hf
    have hn : ¬ ((b.toNat : Int) < 144) := by have l := hb2.1; rw [h240] at l; have l2 : 144 ≤ b.toNat := l; omega
    have hn2 : ¬ ((191 : Int) < (b.toNat : Int)) := by have l := hb2.2; rw [h240] at l; have l2 : b.toNat ≤ 191 := l; omega
    simp only [bd_utf8_decodeRuneSlow, go_sem, zA, zB, zC, reduceIte, zD, zE, zF, zG, zH, zI, reduceCtorEq, zJ, zK, zL, zM, zN, zO, zP, hg, a256, byteCells, List.map_cons, List.map_nil, first_at, hf, hG.2.1, hG.2.2.1, glAccept, e3, f2, g2, intBin_u8and, Heap.get_push_lt hlt, hn, hn2, hm, hm2, hk, hk2, ma, mb, mc, md, w1, w2, w3, w4]
    simp only [go_sem, zA, zB, zC, reduceIte, zD, zE, zF, zG, zH, zI, reduceCtorEq, zJ, zK, zL, zM, zN, zO, zP, shl18 (show a.toNat % 8 ≤ 2047 by omega), shl12 (show b.toNat % 64 ≤ 2047 by omega), shl6 (show c.toNat % 64 ≤ 2047 by omega), o1, o2, o3]
    exact h _ (Ext.push (Nat.le_refl _))
  · rw [if_neg h240] at hf
    by_cases h244 : a.toNat = 244
    · rw [if_pos h244] at hf
      have hn : ¬ ((b.toNat : Int) < 128) := by have l := hb2.1; rw [h244] at l; have l2 : 128 ≤ b.toNat := l; omega
      have hn2 : ¬ ((143 : Int) < (b.toNat : Int)) := by have l := hb2.2; rw [h244] at l; have l2 : b.toNat ≤ 143 := l; omega
      simp only [bd_utf8_decodeRuneSlow, go_sem, zA, zB, zC, reduceIte, zD, zE, zF, zG, zH, zI, reduceCtorEq, zJ, zK, zL, zM, zN, zO, zP, hg, a256, byteCells, List.map_cons, List.map_nil, first_at, hf, hG.2.1, hG.2.2.1, glAccept, e3, f3, g3, intBin_u8and, Heap.get_push_lt hlt, hn, hn2, hm, hm2, hk, hk2, ma, mb, mc, md, w1, w2, w3, w4]
      simp only [go_sem, zA, zB, zC, reduceIte, zD, zE, zF, zG, zH, zI, reduceCtorEq, zJ, zK, zL, zM, zN, zO, zP, shl18 (show a.toNat % 8 ≤ 2047 by omega), shl12 (show b.toNat % 64 ≤ 2047 by omega), shl6 (show c.toNat % 64 ≤ 2047 by omega), o1, o2, o3]
      exact h _ (Ext.push (Nat.le_refl _))
    · rw [if_neg h244] at hf
      have hn : ¬ ((b.toNat : Int) < 128) := by simp only [secLo, if_neg h240, if_neg (show ¬ a.toNat = 224 by omega)] at hb2; omega
      have hn2 : ¬ ((191 : Int) < (b.toNat : Int)) := by simp only [secHi, if_neg h244, if_neg (show ¬ a.toNat = 237 by omega)] at hb2; omega
      simp only [bd_utf8_decodeRuneSlow, go_sem, zA, zB, zC, reduceIte, zD, zE, zF, zG, zH, zI, reduceCtorEq, zJ, zK, zL, zM, zN, zO, zP, hg, a256, byteCells, List.map_cons, List.map_nil, first_at, hf, hG.2.1, hG.2.2.1, glAccept, e3, f4, g4, intBin_u8and, Heap.get_push_lt hlt, hn, hn2, hm, hm2, hk, hk2, ma, mb, mc, md, w1, w2, w3, w4]
      simp only [go_sem, zA, zB, zC, reduceIte, zD, zE, zF, zG, zH, zI, reduceCtorEq, zJ, zK, zL, zM, zN, zO, zP, shl18 (show a.toNat % 8 ≤ 2047 by omega), shl12 (show b.toNat % 64 ≤ 2047 by omega), shl6 (show c.toNat % 64 ≤ 2047 by omega), o1, o2, o3]
      exact h _ (Ext.push (Nat.le_refl _))

theorem u_DecodeRune {held : List UInt8} {hb : Nat} {H : Heap} {Q : End → Heap → Prop} (hG : GlH H) (hg : H.get hb = .cells (byteCells held) .own) (hw : whole held = true) (h : ∀ H', Ext H.size H H' → Q (.ret (.tup [.int .i32 (decR held), .int .i64 held.length])) H') : wpf ⟨bt.get, o⟩ F_utf8_DecodeRune [.osl 1 hb 0 held.length] H Q := by
  rw [fn_utf8_DecodeRune (ho _ _ _ (by decide))]
  have one : ∀ a : UInt8, IntKind.i32.wrap (a.toNat : Int) = (a.toNat : Int) := fun a => by have := a.toNat_lt; exact wi32 (by omega) (by omega)
  have big : ∀ a : UInt8, longB a ≠ 1 → ¬ ((a.toNat : Int) < 128) := by
    intro a h hlt
    exact h (by simp only [longB, longN, if_pos (show a.toNat < 128 by omega)])
  match held, hw, hg, h with
  | [a], hw, hg, h =>
    have := longN_1 (beq_iff_eq.1 hw)
    have ha : (a.toNat : Int) < 128 := by omega
    simp only [bd_utf8_DecodeRune, go_sem, zA, zB, zC, reduceIte, zD, zE, zF, zG, zH, zI, reduceCtorEq, zJ, zK, zL, zM, zN, zO, zP]
    rw [wpl_step]
    simp only [lb_utf8_DecodeRune_0, go_sem, zA, zB, zC, reduceIte, zD, zE, zF, zG, zH, zI, reduceCtorEq, zJ, zK, zL, zM, zN, zO, zP, hg, byteCells, List.map_cons, List.map_nil, ha, one]
    exact h _ Ext.refl
  | [a, b], hw, hg, h =>
    have ha := big a (by intro h; simp [whole, h] at hw)
    simp only [bd_utf8_DecodeRune, go_sem, zA, zB, zC, reduceIte, zD, zE, zF, zG, zH, zI, reduceCtorEq, zJ, zK, zL, zM, zN, zO, zP]
    rw [wpl_step]
    simp only [lb_utf8_DecodeRune_0, go_sem, zA, zB, zC, reduceIte, zD, zE, zF, zG, zH, zI, reduceCtorEq, zJ, zK, zL, zM, zN, zO, zP, hg, byteCells, List.map_cons, List.map_nil, ha]
    refine u_slow2 ho hG hg hw fun H' hx => ?_
    simp only [go_sem, zA, zB, zC, reduceIte, zD, zE, zF, zG, zH, zI, reduceCtorEq, zJ, zK, zL, zM, zN, zO, zP]
    exact h _ hx
  | [a, b, c], hw, hg, h =>
    have ha := big a (by intro h; simp [whole, h] at hw)
    simp only [bd_utf8_DecodeRune, go_sem, zA, zB, zC, reduceIte, zD, zE, zF, zG, zH, zI, reduceCtorEq, zJ, zK, zL, zM, zN, zO, zP]
    rw [wpl_step]
    simp only [lb_utf8_DecodeRune_0, go_sem, zA, zB, zC, reduceIte, zD, zE, zF, zG, zH, zI, reduceCtorEq, zJ, zK, zL, zM, zN, zO, zP, hg, byteCells, List.map_cons, List.map_nil, ha]
    refine u_slow3 ho hG hg hw fun H' hx => ?_
    simp only [go_sem, zA, zB, zC, reduceIte, zD, zE, zF, zG, zH, zI, reduceCtorEq, zJ, zK, zL, zM, zN, zO, zP]
    exact h _ hx
  | [a, b, c, d], hw, hg, h =>
    have ha := big a (by intro h; simp [whole, h] at hw)
    simp only [bd_utf8_DecodeRune, go_sem, zA, zB, zC, reduceIte, zD, zE, zF, zG, zH, zI, reduceCtorEq, zJ, zK, zL, zM, zN, zO, zP]
    rw [wpl_step]
    simp only [lb_utf8_DecodeRune_0, go_sem, zA, zB, zC, reduceIte, zD, zE, zF, zG, zH, zI, reduceCtorEq, zJ, zK, zL, zM, zN, zO, zP, hg, byteCells, List.map_cons, List.map_nil, ha]
    refine u_slow4 ho hG hg hw fun H' hx => ?_
    simp only [go_sem, zA, zB, zC, reduceIte, zD, zE, zF, zG, zH, zI, reduceCtorEq, zJ, zK, zL, zM, zN, zO, zP]
    exact h _ hx
end
end Go.Ev
