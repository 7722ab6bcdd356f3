/- Several texts of this claim, joined. -/
import Derived.Test.YtfkdecamhepibaaGreatDoorT18
import Derived.Test.YtfkdecamhepibaaGreatDoorT13
import Derived.KernelRfl
import Derived.Test.YtfkdecamhepibaaGreatDoorProg
set_option linter.unusedSimpArgs false
set_option linter.unusedVariables false

/- What word.words comes to. -/
namespace Go.Ev
open Go
open Go.Ev renaming seqK_normal → zA, blockK_normal → zB, blockK_exit → zC
open Nat renaming reduceEqDiff → zD, reduceAdd → zE, reduceSub → zF, reduceMul → zG, reduceLeDiff → zH, reduceLT → zI
open Int renaming reduceToNat → zJ, reduceLT → zK, reduceLE → zL, reduceEq → zM, reduceAdd → zN, reduceSub → zO, reduceMul → zP
structure W where
  kind : Nat
  text : List UInt8
  at_ : Nat
  deriving DecidableEq
def W.cells (w : W) : List AV := [.int .i64 w.kind, .str w.text, .int .i64 w.at_]
def wcells (l : List W) : List AV := l.flatMap W.cells
theorem wcells_app (l m : List W) : wcells (l ++ m) = wcells l ++ wcells m := List.flatMap_append
theorem wcells_len : ∀ l : List W, (wcells l).length = l.length * 3
  | [] => rfl
  | w :: l => by rw [wcells, List.flatMap_cons, List.length_append, ← wcells, wcells_len l, W.cells]; simp only [List.length_cons, List.length_nil]; omega
def signL : List UInt8 := [123, 125, 40, 41, 124, 42, 94, 60, 62, 58, 95, 61]
def signB (c : UInt8) : Bool := decide (0 ≤ idxByteA c signL 0)
def consW (w : W) : Except Nat (List W) → Except Nat (List W)
  | .ok l => .ok (w :: l)
  | .error k => .error k
/-- The words of a text. -/
def wordsL : Nat → List UInt8 → Nat → Except Nat (List W)
  | 0, _, _ => .ok []
  | _ + 1, [], _ => .ok []
  | n + 1, c :: r, i =>
    if c.toNat = 32 ∨ c.toNat = 9 ∨ c.toNat = 13 then wordsL n r (i + 1)
    else if c.toNat = 35 then wordsL n (r.drop (runL notNL r)) (i + 1 + runL notNL r)
    else if c.toNat = 10 then consW ⟨5, [], i⟩ (wordsL n r (i + 1))
    else if letterB c then consW ⟨1, c :: r.take (runL ldB r), i⟩ (wordsL n (r.drop (runL ldB r)) (i + 1 + runL ldB r))
    else if digitB c then consW ⟨2, c :: r.take (runL digitB r), i⟩ (wordsL n (r.drop (runL digitB r)) (i + 1 + runL digitB r))
    else if signB c then consW ⟨3, [c], i⟩ (wordsL n r (i + 1))
    else if c.toNat = 47 then (match closedL r with
      | none => .error i
      | some k => consW ⟨4, r.take k, i⟩ (wordsL n (r.drop (k + 1)) (i + 1 + k + 1)))
    else .error i
theorem runL_le (p : UInt8 → Bool) : ∀ r : List UInt8, runL p r ≤ r.length
  | [] => Nat.le_refl _
  | c :: r => by
    have := runL_le p r
    simp only [runL, List.length_cons]
    split <;> omega
theorem closedL_lt : ∀ (r : List UInt8) (k : Nat), closedL r = some k → k < r.length
  | [], k, h => by simp [closedL] at h
  | [c], k, h => by
    simp only [closedL] at h
    split at h
    · cases h
    · split at h
      · injection h with h; subst h; simp
      · cases h
  | c :: d :: r, k, h => by
    simp only [closedL] at h
    split at h
    · cases h
    · split at h
      · injection h with h; subst h; simp
      · split at h
        · split at h
          · cases h
          · obtain ⟨j, hj, rfl⟩ := Option.map_eq_some_iff.1 h
            have := closedL_lt r j hj
            simp only [List.length_cons]; omega
        · obtain ⟨j, hj, rfl⟩ := Option.map_eq_some_iff.1 h
          have := closedL_lt (d :: r) j hj
          simp only [List.length_cons] at *; omega
theorem cut {s : List UInt8} {i : Nat} {r : List UInt8} (h : s.drop i = r) (k : Nat) : (s.take (i + k)).drop i = r.take k := by
  rw [List.drop_take, h]; congr 1; omega
section
variable {o : CallF} (ho : OvOnly o)
include ho
theorem w_IndexByte {s : List UInt8} {c : UInt8} {H : Heap} {Q : End → Heap → Prop} (h : Q (.ret (.int .i64 (idxByteA c s 0))) H) : wpf ⟨bt.get, o⟩ F_strings_IndexByte [.str s, .int .u8 c.toNat] H Q := by
  rw [fn_strings_IndexByte (ho _ _ _ (by decide))]
  simp only [bd_strings_IndexByte, go_sem, zA, zB, zC, reduceIte, zD, zE, zF, zG, zH, zI, reduceCtorEq, zJ, zK, zL, zM, zN, zO, zP]
  rw [fn_stringslite_IndexByte (ho _ _ _ (by decide))]
  simp only [bd_stringslite_IndexByte, go_sem, zA, zB, zC, reduceIte, zD, zE, zF, zG, zH, zI, reduceCtorEq, zJ, zK, zL, zM, zN, zO, zP, UInt8.ofNat_toNat]
  exact h
theorem w_words_loop {s : List UInt8} (hs : s.length ≤ 1000000) {n0 : Nat} {H0 : Heap} {Q : Ctl → St → Prop} : ∀ (m : Nat) (r : List UInt8) (i : Nat) (acc : List W) (v : AV) (H : Heap), r.length ≤ m → s.drop i = r → i ≤ s.length → acc.length ≤ i → Ext n0 H0 H → n0 ≤ H.size → Sl n0 H 3 (wcells acc) acc.length v →
    (∀ l, wordsL m r i = .ok l → ∀ (σ : St) (v : AV), Ext n0 H0 σ.H → σ.d = [] → lk 3 σ.p = some v → Sl n0 σ.H 3 (wcells (acc ++ l)) (acc ++ l).length v → Q (.exit 0) σ) →
    (∀ k, wordsL m r i = .error k → ∀ (σ : St), Ext n0 H0 σ.H → σ.d = [] → Q (.panic [(faultA 2 k, false)]) σ) →
    wpl ⟨bt.get, o⟩ [0, 3, 4] lb_word_words_0 { p := [(0, .str s), (3, v), (4, .int .i64 (i : Int))], t := [], H := H, d := [], u := .norm } Q := by
  intro m
  induction m with
  | zero =>
    intro r i acc v H hm hr hi ha he hn hS hE hP
    have : r = [] := by cases r; rfl; simp at hm
    subst this
    have hl := at_nil hr
    rw [wpl_step]
    have h1 : ¬((i : Int) < (s.length : Int)) := by omega
    simp only [lb_word_words_0, go_sem, zA, zB, zC, reduceIte, zD, zE, zF, zG, zH, zI, reduceCtorEq, zJ, zK, zL, zM, zN, zO, zP, h1]
    exact hE [] rfl _ v he rfl rfl (by rw [List.append_nil]; exact hS)
  | succ m ih =>
    intro r i acc v H hm hr hi ha he hn hS hE hP
    cases r with
    | nil =>
      have hl := at_nil hr
      rw [wpl_step]
      have h1 : ¬((i : Int) < (s.length : Int)) := by omega
      simp only [lb_word_words_0, go_sem, zA, zB, zC, reduceIte, zD, zE, zF, zG, zH, zI, reduceCtorEq, zJ, zK, zL, zM, zN, zO, zP, h1]
      exact hE [] rfl _ v he rfl rfl (by rw [List.append_nil]; exact hS)
    | cons c r =>
      obtain ⟨h0, h1, h2⟩ := at_drop hr
      simp only [List.length_cons] at hm
      have hrl : r.length + i + 1 = s.length := by
        have := congrArg List.length hr
        simp only [List.length_drop, List.length_cons] at this
        omega
      rw [wpl_step]
      have h1' : ((i : Int) < (s.length : Int)) := by omega
      simp only [lb_word_words_0, go_sem, zA, zB, zC, reduceIte, zD, zE, zF, zG, zH, zI, reduceCtorEq, zJ, zK, zL, zM, zN, zO, zP, h1', Int.natCast_nonneg, h0]
      by_cases ws : c.toNat = 32 ∨ c.toNat = 9 ∨ c.toNat = 13
      · have e : wordsL (m + 1) (c :: r) i = wordsL m r (i + 1) := by rw [wordsL, if_pos ws]
        rw [e] at hE hP
        have fin := ih r (i + 1) acc v H (by omega) h2 (by omega) (by omega) he hn hS hE hP
        rcases ws with ws | ws | ws
        · have w1 : (c.toNat : Int) = 32 := by omega
          simp only [go_sem, zA, zB, zC, reduceIte, zD, zE, zF, zG, zH, zI, reduceCtorEq, zJ, zK, zL, zM, zN, zO, zP, w1, wsucc (show i ≤ 1000000000 by omega)]
          exact fin
        · have w1 : (c.toNat : Int) = 9 := by omega
          have w2 : ¬((9 : Int) = 32) := by omega
          simp only [go_sem, zA, zB, zC, reduceIte, zD, zE, zF, zG, zH, zI, reduceCtorEq, zJ, zK, zL, zM, zN, zO, zP, w1, w2, wsucc (show i ≤ 1000000000 by omega)]
          exact fin
        · have w1 : (c.toNat : Int) = 13 := by omega
          have w2 : ¬((13 : Int) = 32) := by omega
          have w3 : ¬((13 : Int) = 9) := by omega
          simp only [go_sem, zA, zB, zC, reduceIte, zD, zE, zF, zG, zH, zI, reduceCtorEq, zJ, zK, zL, zM, zN, zO, zP, w1, w2, w3, wsucc (show i ≤ 1000000000 by omega)]
          exact fin
      · have e32 : ¬((c.toNat : Int) = 32) := by omega
        have e9 : ¬((c.toNat : Int) = 9) := by omega
        have e13 : ¬((c.toNat : Int) = 13) := by omega
        have iw := wsucc (show i ≤ 1000000000 by omega)
        have fin2 : ∀ (w : W) (r' : List UInt8) (i' : Nat), r'.length ≤ m → s.drop i' = r' → i' ≤ s.length → i < i' → wordsL (m + 1) (c :: r) i = consW w (wordsL m r' i') → ∀ (H2 : Heap) (v2 : AV), Ext n0 H H2 → Sl n0 H2 3 (wcells acc ++ w.cells) (acc.length + 1) v2 →
            wpl ⟨bt.get, o⟩ [0, 3, 4] lb_word_words_0 { p := [(0, .str s), (3, v2), (4, .int .i64 (i' : Int))], t := [], H := H2, d := [], u := .norm } Q := by
          intro w r' i' g1 g2 g3 g4 g5 H2 v2 g6 g7
          rw [g5] at hE hP
          refine ih r' i' (acc ++ [w]) v2 H2 g1 g2 g3 (by simp; omega) (he.trans g6) (Nat.le_trans hn g6.1) ?_ (fun l hl σ v' k1 k2 k3 k4 => hE (w :: l) (by rw [hl]; rfl) σ v' k1 k2 k3 ?_) (fun k hk => hP k (by rw [hk]; rfl))
          · rw [wcells_app, List.length_append]
            simpa [wcells] using g7
          · simpa using k4
        have hn' : n0 ≤ (H.push .dead).size := by rw [Heap.size_push]; omega
        simp only [go_sem, zA, zB, zC, reduceIte, zD, zE, zF, zG, zH, zI, reduceCtorEq, zJ, zK, zL, zM, zN, zO, zP, e32, e9, e13]
        by_cases c35 : c.toNat = 35
        · have c35' : (c.toNat : Int) = 35 := by omega
          simp only [go_sem, zA, zB, zC, reduceIte, zD, zE, zF, zG, zH, zI, reduceCtorEq, zJ, zK, zL, zM, zN, zO, zP, c35']
          refine w_run ho hs (tells_words_1 ho) hi ?_
          have hc : notNL c = true := by simp [notNL, c35]
          have e : wordsL (m + 1) (c :: r) i = wordsL m (r.drop (runL notNL r)) (i + 1 + runL notNL r) := by
            rw [wordsL, if_neg ws, if_pos c35]
          have hk := runL_le notNL r
          simp only [go_sem, zA, zB, zC, reduceIte, zD, zE, zF, zG, zH, zI, reduceCtorEq, zJ, zK, zL, zM, zN, zO, zP, hr, runL, hc]
          rw [show i + (runL notNL r + 1) = i + 1 + runL notNL r by omega]
          rw [e] at hE hP
          exact ih _ _ acc v H (by rw [List.length_drop]; omega) (by rw [← h2, List.drop_drop]) (by omega) (by omega) he hn hS hE hP
        · have c35' : ¬((c.toNat : Int) = 35) := by omega
          simp only [go_sem, zA, zB, zC, reduceIte, zD, zE, zF, zG, zH, zI, reduceCtorEq, zJ, zK, zL, zM, zN, zO, zP, c35']
          by_cases c10 : c.toNat = 10
          · have c10' : (c.toNat : Int) = 10 := by omega
            simp only [go_sem, zA, zB, zC, reduceIte, zD, zE, zF, zG, zH, zI, reduceCtorEq, zJ, zK, zL, zM, zN, zO, zP, c10', iw]
            obtain ⟨b, H', ea, hx, hsl⟩ := append_spec (bytes := 32) (ys := [.int .i64 5, .str [], .int .i64 (i : Int)]) (k := 1) (Sl.push (x := .cells [.int .i64 5, .str [], .int .i64 (i : Int)] .own) hS) (by rw [Heap.size_push]; omega) (by omega) rfl (by omega) (by omega)
            simp only [ea, go_sem, zA, zB, zC, reduceIte, zD, zE, zF, zG, zH, zI, reduceCtorEq, zJ, zK, zL, zM, zN, zO, zP]
            exact fin2 ⟨5, [], i⟩ r (i + 1) (by omega) h2 (by omega) (by omega) (by rw [wordsL, if_neg ws, if_neg c35, if_pos c10]) _ _ ((Ext.push hn).trans hx) hsl
          · have c10' : ¬((c.toNat : Int) = 10) := by omega
            simp only [go_sem, zA, zB, zC, reduceIte, zD, zE, zF, zG, zH, zI, reduceCtorEq, zJ, zK, zL, zM, zN, zO, zP, c10']
            refine w_letter ho ?_
            cases hL : letterB c
            · simp only [go_sem, zA, zB, zC, reduceIte, zD, zE, zF, zG, zH, zI, reduceCtorEq, zJ, zK, zL, zM, zN, zO, zP]
              refine w_digit ho ?_
              cases hD : digitB c
              · simp only [go_sem, zA, zB, zC, reduceIte, zD, zE, zF, zG, zH, zI, reduceCtorEq, zJ, zK, zL, zM, zN, zO, zP]
                refine w_IndexByte ho ?_
                simp only [go_sem, zA, zB, zC, reduceIte, zD, zE, zF, zG, zH, zI, reduceCtorEq, zJ, zK, zL, zM, zN, zO, zP]
                have hS0 : decide ((0 : Int) ≤ idxByteA c [123, 125, 40, 41, 124, 42, 94, 60, 62, 58, 95, 61] 0) = signB c := rfl
                rw [hS0]
                cases hB : signB c
                · simp only [go_sem, zA, zB, zC, reduceIte, zD, zE, zF, zG, zH, zI, reduceCtorEq, zJ, zK, zL, zM, zN, zO, zP]
                  by_cases c47 : c.toNat = 47
                  · have c47' : (c.toNat : Int) = 47 := by omega
                    simp only [go_sem, zA, zB, zC, reduceIte, zD, zE, zF, zG, zH, zI, reduceCtorEq, zJ, zK, zL, zM, zN, zO, zP, c47']
                    refine w_closed ho hs (by omega) (fun hcl => ?_) (fun k hcl => ?_)
                    · simp only [go_sem, zA, zB, zC, reduceIte, zD, zE, zF, zG, zH, zI, reduceCtorEq, zJ, zK, zL, zM, zN, zO, zP]
                      rw [h2] at hcl
                      exact hP i (by rw [wordsL, if_neg ws, if_neg c35, if_neg c10, if_neg (by rw [hL]; simp), if_neg (by rw [hD]; simp), if_neg (by rw [hB]; simp), if_pos c47, hcl]) _ he rfl
                    · rw [h2] at hcl
                      have hk := closedL_lt r k hcl
                      have e2 : ((i + 1 : Nat) : Int) ≤ ((i + 1 + k : Nat) : Int) := by omega
                      have e3 : ((i + 1 + k : Nat) : Int) ≤ (s.length : Int) := by omega
                      have e4 : (s.take (i + 1 + k)).drop (i + 1) = r.take k := cut h2 k
                      simp only [go_sem, zA, zB, zC, reduceIte, zD, zE, zF, zG, zH, zI, reduceCtorEq, zJ, zK, zL, zM, zN, zO, zP, Int.natCast_nonneg, iw, e2, e3, e4]
                      obtain ⟨b, H', ea, hx, hsl⟩ := append_spec (bytes := 32) (ys := [.int .i64 4, .str (r.take k), .int .i64 (i : Int)]) (k := 1) (Sl.push (x := .cells [.int .i64 4, .str (r.take k), .int .i64 (i : Int)] .own) hS) (by rw [Heap.size_push]; omega) (by omega) rfl (by omega) (by omega)
                      simp only [ea, go_sem, zA, zB, zC, reduceIte, zD, zE, zF, zG, zH, zI, reduceCtorEq, zJ, zK, zL, zM, zN, zO, zP, wsucc (show i + 1 + k ≤ 1000000000 by omega)]
                      exact fin2 ⟨4, r.take k, i⟩ (r.drop (k + 1)) (i + 1 + k + 1) (by rw [List.length_drop]; omega) (by rw [← h2, List.drop_drop]; congr 1) (by omega) (by omega) (by rw [wordsL, if_neg ws, if_neg c35, if_neg c10, if_neg (by rw [hL]; simp), if_neg (by rw [hD]; simp), if_neg (by rw [hB]; simp), if_pos c47, hcl]) _ _ ((Ext.push hn).trans hx) hsl
                  · have c47' : ¬((c.toNat : Int) = 47) := by omega
                    simp only [go_sem, zA, zB, zC, reduceIte, zD, zE, zF, zG, zH, zI, reduceCtorEq, zJ, zK, zL, zM, zN, zO, zP, c47']
                    refine w_Fail ho ?_
                    simp only [go_sem, zA, zB, zC, reduceIte, zD, zE, zF, zG, zH, zI, reduceCtorEq, zJ, zK, zL, zM, zN, zO, zP]
                    exact hP i (by rw [wordsL, if_neg ws, if_neg c35, if_neg c10, if_neg (by rw [hL]; simp), if_neg (by rw [hD]; simp), if_neg (by rw [hB]; simp), if_neg c47]) _ he rfl
                · simp only [go_sem, zA, zB, zC, reduceIte, zD, zE, zF, zG, zH, zI, reduceCtorEq, zJ, zK, zL, zM, zN, zO, zP, iw]
                  have e2 : (i : Int) ≤ ((i + 1 : Nat) : Int) := by omega
                  have e3 : ((i + 1 : Nat) : Int) ≤ (s.length : Int) := by omega
                  have e4 : (s.take (i + 1)).drop i = [c] := by rw [cut hr, List.take_succ_cons, List.take_zero]
                  simp only [go_sem, zA, zB, zC, reduceIte, zD, zE, zF, zG, zH, zI, reduceCtorEq, zJ, zK, zL, zM, zN, zO, zP, Int.natCast_nonneg, e2, e3, e4]
                  obtain ⟨b, H', ea, hx, hsl⟩ := append_spec (bytes := 32) (ys := [.int .i64 3, .str [c], .int .i64 (i : Int)]) (k := 1) (Sl.push (x := .cells [.int .i64 3, .str [c], .int .i64 (i : Int)] .own) hS) (by rw [Heap.size_push]; omega) (by omega) rfl (by omega) (by omega)
                  simp only [ea, go_sem, zA, zB, zC, reduceIte, zD, zE, zF, zG, zH, zI, reduceCtorEq, zJ, zK, zL, zM, zN, zO, zP]
                  exact fin2 ⟨3, [c], i⟩ r (i + 1) (by omega) h2 (by omega) (by omega) (by rw [wordsL, if_neg ws, if_neg c35, if_neg c10, if_neg (by rw [hL]; simp), if_neg (by rw [hD]; simp), if_pos hB]) _ _ ((Ext.push hn).trans hx) hsl
              · simp only [go_sem, zA, zB, zC, reduceIte, zD, zE, zF, zG, zH, zI, reduceCtorEq, zJ, zK, zL, zM, zN, zO, zP]
                refine w_run ho hs (tells_digit ho) hi ?_
                have hk := runL_le digitB r
                have e1 : i + runL digitB (s.drop i) = i + 1 + runL digitB r := by rw [hr, runL, if_pos hD]; omega
                have e2 : (i : Int) ≤ ((i + 1 + runL digitB r : Nat) : Int) := by omega
                have e3 : ((i + 1 + runL digitB r : Nat) : Int) ≤ (s.length : Int) := by omega
                have e4 : (s.take (i + 1 + runL digitB r)).drop i = c :: r.take (runL digitB r) := by
                  rw [Nat.add_assoc, cut hr, Nat.add_comm 1, List.take_succ_cons]
                rw [e1]
                simp only [go_sem, zA, zB, zC, reduceIte, zD, zE, zF, zG, zH, zI, reduceCtorEq, zJ, zK, zL, zM, zN, zO, zP, Int.natCast_nonneg, e2, e3, e4]
                obtain ⟨b, H', ea, hx, hsl⟩ := append_spec (bytes := 32) (ys := [.int .i64 2, .str (c :: r.take (runL digitB r)), .int .i64 (i : Int)]) (k := 1) (Sl.push (x := .cells [.int .i64 2, .str (c :: r.take (runL digitB r)), .int .i64 (i : Int)] .own) hS) (by rw [Heap.size_push]; omega) (by omega) rfl (by omega) (by omega)
                simp only [ea, go_sem, zA, zB, zC, reduceIte, zD, zE, zF, zG, zH, zI, reduceCtorEq, zJ, zK, zL, zM, zN, zO, zP]
                exact fin2 ⟨2, c :: r.take (runL digitB r), i⟩ (r.drop (runL digitB r)) (i + 1 + runL digitB r) (by rw [List.length_drop]; omega) (by rw [← h2, List.drop_drop]) (by omega) (by omega) (by rw [wordsL, if_neg ws, if_neg c35, if_neg c10, if_neg (by rw [hL]; simp), if_pos hD]) _ _ ((Ext.push hn).trans hx) hsl
            · simp only [go_sem, zA, zB, zC, reduceIte, zD, zE, zF, zG, zH, zI, reduceCtorEq, zJ, zK, zL, zM, zN, zO, zP]
              have hLd : ldB c = true := by simp [ldB, hL]
              refine w_run ho hs (tells_words_2 ho) hi ?_
              have hk := runL_le ldB r
              have e1 : i + runL ldB (s.drop i) = i + 1 + runL ldB r := by rw [hr, runL, if_pos hLd]; omega
              have e2 : (i : Int) ≤ ((i + 1 + runL ldB r : Nat) : Int) := by omega
              have e3 : ((i + 1 + runL ldB r : Nat) : Int) ≤ (s.length : Int) := by omega
              have e4 : (s.take (i + 1 + runL ldB r)).drop i = c :: r.take (runL ldB r) := by
                rw [Nat.add_assoc, cut hr, Nat.add_comm 1, List.take_succ_cons]
              rw [e1]
              simp only [go_sem, zA, zB, zC, reduceIte, zD, zE, zF, zG, zH, zI, reduceCtorEq, zJ, zK, zL, zM, zN, zO, zP, Int.natCast_nonneg, e2, e3, e4]
              obtain ⟨b, H', ea, hx, hsl⟩ := append_spec (bytes := 32) (ys := [.int .i64 1, .str (c :: r.take (runL ldB r)), .int .i64 (i : Int)]) (k := 1) (Sl.push (x := .cells [.int .i64 1, .str (c :: r.take (runL ldB r)), .int .i64 (i : Int)] .own) hS) (by rw [Heap.size_push]; omega) (by omega) rfl (by omega) (by omega)
              simp only [ea, go_sem, zA, zB, zC, reduceIte, zD, zE, zF, zG, zH, zI, reduceCtorEq, zJ, zK, zL, zM, zN, zO, zP]
              exact fin2 ⟨1, c :: r.take (runL ldB r), i⟩ (r.drop (runL ldB r)) (i + 1 + runL ldB r) (by rw [List.length_drop]; omega) (by rw [← h2, List.drop_drop]) (by omega) (by omega) (by rw [wordsL, if_neg ws, if_neg c35, if_neg c10, if_pos hL]) _ _ ((Ext.push hn).trans hx) hsl
theorem w_words {s : List UInt8} (hs : s.length ≤ 1000000) {n0 : Nat} {H : Heap} (hn : n0 ≤ H.size) {Q : End → Heap → Prop}
    (hE : ∀ l, wordsL s.length s 0 = .ok l → ∀ H' v, Ext n0 H H' → Sl n0 H' 3 (wcells l) l.length v → Q (.ret v) H')
    (hP : ∀ k, wordsL s.length s 0 = .error k → ∀ H', Ext n0 H H' → Q (.pan [(faultA 2 k, false)]) H') : wpf ⟨bt.get, o⟩ F_word_words [.str s] H Q := by
  rw [fn_word_words (ho _ _ _ (by decide))]
  simp only [bd_word_words, go_sem, zA, zB, zC, reduceIte, zD, zE, zF, zG, zH, zI, reduceCtorEq, zJ, zK, zL, zM, zN, zO, zP]
  refine w_words_loop ho hs (n0 := n0) (H0 := H) s.length s 0 [] .nils H (Nat.le_refl _) rfl (Nat.zero_le _) (Nat.le_refl _) Ext.refl hn Sl.nil (fun l hl σ v h1 h2 h3 h4 => ?_) (fun k hk σ h1 h2 => ?_)
  · simp only [go_sem, zA, zB, zC, reduceIte, zD, zE, zF, zG, zH, zI, reduceCtorEq, zJ, zK, zL, zM, zN, zO, zP, h2, h3]
    exact hE l hl _ v h1 (by simpa using h4)
  · simp only [go_sem, zA, zB, zC, reduceIte, zD, zE, zF, zG, zH, zI, reduceCtorEq, zJ, zK, zL, zM, zN, zO, zP, h2]
    exact hP k hk _ h1
end
end Go.Ev
/- Each printed function is the program's: printed by gen.py. -/
namespace Go.Ev
open Go Go.Proofs
theorem ck3 : chkFn Tryz.prog chkDrawn Tryz.f3 cf_gobolaw12_WordAsks = true := by kernel_rfl
theorem at3 : Tryz.prog.funcs[3]? = some Tryz.f3 := by kernel_rfl
theorem ck4 : chkFn Tryz.prog chkDrawn Tryz.f4 cf_gobolaw12_told = true := by kernel_rfl
theorem at4 : Tryz.prog.funcs[4]? = some Tryz.f4 := by kernel_rfl
theorem ck5 : chkFn Tryz.prog chkDrawn Tryz.f5 cf_word_All = true := by kernel_rfl
theorem at5 : Tryz.prog.funcs[5]? = some Tryz.f5 := by kernel_rfl
theorem ck6 : chkFn Tryz.prog chkDrawn Tryz.f6 cf_goboref11_Words = true := by kernel_rfl
theorem at6 : Tryz.prog.funcs[6]? = some Tryz.f6 := by kernel_rfl
theorem ck7 : chkFn Tryz.prog chkDrawn Tryz.f7 cf_word_Class = true := by kernel_rfl
theorem at7 : Tryz.prog.funcs[7]? = some Tryz.f7 := by kernel_rfl
theorem ck8 : chkFn Tryz.prog chkDrawn Tryz.f8 cf_goboref11_Class = true := by kernel_rfl
theorem at8 : Tryz.prog.funcs[8]? = some Tryz.f8 := by kernel_rfl
theorem ck9 : chkFn Tryz.prog chkDrawn Tryz.f9 cf_gobolaw12_words = true := by kernel_rfl
theorem at9 : Tryz.prog.funcs[9]? = some Tryz.f9 := by kernel_rfl
theorem ck10 : chkFn Tryz.prog chkDrawn Tryz.f10 cf_goboref3_Same = true := by kernel_rfl
theorem at10 : Tryz.prog.funcs[10]? = some Tryz.f10 := by kernel_rfl
theorem ck11 : chkFn Tryz.prog chkDrawn Tryz.f11 cf_word_Caught = true := by kernel_rfl
theorem at11 : Tryz.prog.funcs[11]? = some Tryz.f11 := by kernel_rfl
theorem ck12 : chkFn Tryz.prog chkDrawn Tryz.f12 cf_word_All_1 = true := by kernel_rfl
theorem at12 : Tryz.prog.funcs[12]? = some Tryz.f12 := by kernel_rfl
theorem ck13 : chkFn Tryz.prog chkDrawn Tryz.f13 cf_word_words = true := by kernel_rfl
theorem at13 : Tryz.prog.funcs[13]? = some Tryz.f13 := by kernel_rfl
theorem ck14 : chkFn Tryz.prog chkDrawn Tryz.f14 cf_decode_All = true := by kernel_rfl
theorem at14 : Tryz.prog.funcs[14]? = some Tryz.f14 := by kernel_rfl
theorem ck15 : chkFn Tryz.prog chkDrawn Tryz.f15 cf_goboref3_All = true := by kernel_rfl
theorem at15 : Tryz.prog.funcs[15]? = some Tryz.f15 := by kernel_rfl
theorem ck16 : chkFn Tryz.prog chkDrawn Tryz.f16 cf_goboref11_word = true := by kernel_rfl
theorem at16 : Tryz.prog.funcs[16]? = some Tryz.f16 := by kernel_rfl
theorem ck17 : chkFn Tryz.prog chkDrawn Tryz.f17 cf_word_Class_1 = true := by kernel_rfl
theorem at17 : Tryz.prog.funcs[17]? = some Tryz.f17 := by kernel_rfl
theorem ck18 : chkFn Tryz.prog chkDrawn Tryz.f18 cf_word_Read = true := by kernel_rfl
theorem at18 : Tryz.prog.funcs[18]? = some Tryz.f18 := by kernel_rfl
theorem ck19 : chkFn Tryz.prog chkDrawn Tryz.f19 cf_word_Reader_Class = true := by kernel_rfl
theorem at19 : Tryz.prog.funcs[19]? = some Tryz.f19 := by kernel_rfl
theorem ck20 : chkFn Tryz.prog chkDrawn Tryz.f20 cf_goboref11_E_class = true := by kernel_rfl
theorem at20 : Tryz.prog.funcs[20]? = some Tryz.f20 := by kernel_rfl
theorem ck21 : chkFn Tryz.prog chkDrawn Tryz.f21 cf_goboref11_E_fail = true := by kernel_rfl
theorem at21 : Tryz.prog.funcs[21]? = some Tryz.f21 := by kernel_rfl
theorem ck22 : chkFn Tryz.prog chkDrawn Tryz.f22 cf_word_Caught_1 = true := by kernel_rfl
theorem at22 : Tryz.prog.funcs[22]? = some Tryz.f22 := by kernel_rfl
theorem ck23 : chkFn Tryz.prog chkDrawn Tryz.f23 cf_word_run = true := by kernel_rfl
theorem at23 : Tryz.prog.funcs[23]? = some Tryz.f23 := by kernel_rfl
theorem ck24 : chkFn Tryz.prog chkDrawn Tryz.f24 cf_word_words_1 = true := by kernel_rfl
theorem at24 : Tryz.prog.funcs[24]? = some Tryz.f24 := by kernel_rfl
theorem ck25 : chkFn Tryz.prog chkDrawn Tryz.f25 cf_word_letter = true := by kernel_rfl
theorem at25 : Tryz.prog.funcs[25]? = some Tryz.f25 := by kernel_rfl
theorem ck26 : chkFn Tryz.prog chkDrawn Tryz.f26 cf_word_words_2 = true := by kernel_rfl
theorem at26 : Tryz.prog.funcs[26]? = some Tryz.f26 := by kernel_rfl
end Go.Ev
/- Each printed function is the program's: printed by gen.py. -/
namespace Go.Ev
open Go Go.Proofs
theorem ck27 : chkFn Tryz.prog chkDrawn Tryz.f27 cf_word_digit = true := by kernel_rfl
theorem at27 : Tryz.prog.funcs[27]? = some Tryz.f27 := by kernel_rfl
theorem ck28 : chkFn Tryz.prog chkDrawn Tryz.f28 cf_strings_IndexByte = true := by kernel_rfl
theorem at28 : Tryz.prog.funcs[28]? = some Tryz.f28 := by kernel_rfl
theorem ck29 : chkFn Tryz.prog chkDrawn Tryz.f29 cf_word_closed = true := by kernel_rfl
theorem at29 : Tryz.prog.funcs[29]? = some Tryz.f29 := by kernel_rfl
theorem ck30 : chkFn Tryz.prog chkDrawn Tryz.f30 cf_word_Fail = true := by kernel_rfl
theorem at30 : Tryz.prog.funcs[30]? = some Tryz.f30 := by kernel_rfl
theorem ck31 : chkFn Tryz.prog chkDrawn Tryz.f31 cf_decode_New = true := by kernel_rfl
theorem at31 : Tryz.prog.funcs[31]? = some Tryz.f31 := by kernel_rfl
theorem ck32 : chkFn Tryz.prog chkDrawn Tryz.f32 cf_decode_Dec_Feed = true := by kernel_rfl
theorem at32 : Tryz.prog.funcs[32]? = some Tryz.f32 := by kernel_rfl
theorem ck33 : chkFn Tryz.prog chkDrawn Tryz.f33 cf_decode_Dec_Close = true := by kernel_rfl
theorem at33 : Tryz.prog.funcs[33]? = some Tryz.f33 := by kernel_rfl
theorem ck34 : chkFn Tryz.prog chkDrawn Tryz.f34 cf_goboref3_items = true := by kernel_rfl
theorem at34 : Tryz.prog.funcs[34]? = some Tryz.f34 := by kernel_rfl
theorem ck35 : chkFn Tryz.prog chkDrawn Tryz.f35 cf_goboref11_small = true := by kernel_rfl
theorem at35 : Tryz.prog.funcs[35]? = some Tryz.f35 := by kernel_rfl
theorem ck36 : chkFn Tryz.prog chkDrawn Tryz.f36 cf_goboref11_digit = true := by kernel_rfl
theorem at36 : Tryz.prog.funcs[36]? = some Tryz.f36 := by kernel_rfl
theorem ck37 : chkFn Tryz.prog chkDrawn Tryz.f37 cf_word_Reader_Skip = true := by kernel_rfl
theorem at37 : Tryz.prog.funcs[37]? = some Tryz.f37 := by kernel_rfl
theorem ck38 : chkFn Tryz.prog chkDrawn Tryz.f38 cf_word_Reader_Peek = true := by kernel_rfl
theorem at38 : Tryz.prog.funcs[38]? = some Tryz.f38 := by kernel_rfl
theorem ck39 : chkFn Tryz.prog chkDrawn Tryz.f39 cf_word_Reader_Rune = true := by kernel_rfl
theorem at39 : Tryz.prog.funcs[39]? = some Tryz.f39 := by kernel_rfl
theorem ck40 : chkFn Tryz.prog chkDrawn Tryz.f40 cf_word_Reader_At = true := by kernel_rfl
theorem at40 : Tryz.prog.funcs[40]? = some Tryz.f40 := by kernel_rfl
theorem ck41 : chkFn Tryz.prog chkDrawn Tryz.f41 cf_runes_Norm = true := by kernel_rfl
theorem at41 : Tryz.prog.funcs[41]? = some Tryz.f41 := by kernel_rfl
theorem ck42 : chkFn Tryz.prog chkDrawn Tryz.f42 cf_runes_Not = true := by kernel_rfl
theorem at42 : Tryz.prog.funcs[42]? = some Tryz.f42 := by kernel_rfl
theorem ck43 : chkFn Tryz.prog chkDrawn Tryz.f43 cf_goboref11_E_take = true := by kernel_rfl
theorem at43 : Tryz.prog.funcs[43]? = some Tryz.f43 := by kernel_rfl
theorem ck44 : chkFn Tryz.prog chkDrawn Tryz.f44 cf_goboref11_E_peek = true := by kernel_rfl
theorem at44 : Tryz.prog.funcs[44]? = some Tryz.f44 := by kernel_rfl
theorem ck45 : chkFn Tryz.prog chkDrawn Tryz.f45 cf_goboref11_E_member = true := by kernel_rfl
theorem at45 : Tryz.prog.funcs[45]? = some Tryz.f45 := by kernel_rfl
theorem ck46 : chkFn Tryz.prog chkDrawn Tryz.f46 cf_goboref3_Not = true := by kernel_rfl
theorem at46 : Tryz.prog.funcs[46]? = some Tryz.f46 := by kernel_rfl
theorem ck47 : chkFn Tryz.prog chkDrawn Tryz.f47 cf_goboref3_Norm = true := by kernel_rfl
theorem at47 : Tryz.prog.funcs[47]? = some Tryz.f47 := by kernel_rfl
theorem ck48 : chkFn Tryz.prog chkDrawn Tryz.f48 cf_stringslite_IndexByte = true := by kernel_rfl
theorem at48 : Tryz.prog.funcs[48]? = some Tryz.f48 := by kernel_rfl
theorem ck49 : chkFn Tryz.prog chkDrawn Tryz.f49 cf_decode_Dec_take = true := by kernel_rfl
theorem at49 : Tryz.prog.funcs[49]? = some Tryz.f49 := by kernel_rfl
theorem ck50 : chkFn Tryz.prog chkDrawn Tryz.f50 cf_decode_Dec_taken = true := by kernel_rfl
theorem at50 : Tryz.prog.funcs[50]? = some Tryz.f50 := by kernel_rfl
end Go.Ev
/- Each printed function is the program's: printed by gen.py. -/
namespace Go.Ev
open Go Go.Proofs
theorem ck51 : chkFn Tryz.prog chkDrawn Tryz.f51 cf_decode_Dec_tell = true := by kernel_rfl
theorem at51 : Tryz.prog.funcs[51]? = some Tryz.f51 := by kernel_rfl
theorem ck52 : chkFn Tryz.prog chkDrawn Tryz.f52 cf_goboref3_One = true := by kernel_rfl
theorem at52 : Tryz.prog.funcs[52]? = some Tryz.f52 := by kernel_rfl
theorem ck53 : chkFn Tryz.prog chkDrawn Tryz.f53 cf_word_hasRune = true := by kernel_rfl
theorem at53 : Tryz.prog.funcs[53]? = some Tryz.f53 := by kernel_rfl
theorem ck54 : chkFn Tryz.prog chkDrawn Tryz.f54 cf_word_Reader_number = true := by kernel_rfl
theorem at54 : Tryz.prog.funcs[54]? = some Tryz.f54 := by kernel_rfl
theorem ck55 : chkFn Tryz.prog chkDrawn Tryz.f55 cf_runes_ranges = true := by kernel_rfl
theorem at55 : Tryz.prog.funcs[55]? = some Tryz.f55 := by kernel_rfl
theorem ck56 : chkFn Tryz.prog chkDrawn Tryz.f56 cf_runes_spans = true := by kernel_rfl
theorem at56 : Tryz.prog.funcs[56]? = some Tryz.f56 := by kernel_rfl
theorem ck57 : chkFn Tryz.prog chkDrawn Tryz.f57 cf_runes_Not_1 = true := by kernel_rfl
theorem at57 : Tryz.prog.funcs[57]? = some Tryz.f57 := by kernel_rfl
theorem ck58 : chkFn Tryz.prog chkDrawn Tryz.f58 cf_goboref11_E_escape = true := by kernel_rfl
theorem at58 : Tryz.prog.funcs[58]? = some Tryz.f58 := by kernel_rfl
theorem ck59 : chkFn Tryz.prog chkDrawn Tryz.f59 cf_goboref11_among = true := by kernel_rfl
theorem at59 : Tryz.prog.funcs[59]? = some Tryz.f59 := by kernel_rfl
theorem ck60 : chkFn Tryz.prog chkDrawn Tryz.f60 cf_goboref3_pick = true := by kernel_rfl
theorem at60 : Tryz.prog.funcs[60]? = some Tryz.f60 := by kernel_rfl
theorem ck61 : chkFn Tryz.prog chkDrawn Tryz.f61 cf_goboref3_cells = true := by kernel_rfl
theorem at61 : Tryz.prog.funcs[61]? = some Tryz.f61 := by kernel_rfl
theorem ck63 : chkFn Tryz.prog chkDrawn Tryz.f63 cf_decode_Dec_more = true := by kernel_rfl
theorem at63 : Tryz.prog.funcs[63]? = some Tryz.f63 := by kernel_rfl
theorem ck64 : chkFn Tryz.prog chkDrawn Tryz.f64 cf_utf8_DecodeRune = true := by kernel_rfl
theorem at64 : Tryz.prog.funcs[64]? = some Tryz.f64 := by kernel_rfl
theorem ck65 : chkFn Tryz.prog chkDrawn Tryz.f65 cf_goboref3_second = true := by kernel_rfl
theorem at65 : Tryz.prog.funcs[65]? = some Tryz.f65 := by kernel_rfl
theorem ck66 : chkFn Tryz.prog chkDrawn Tryz.f66 cf_word_Reader_Must = true := by kernel_rfl
theorem at66 : Tryz.prog.funcs[66]? = some Tryz.f66 := by kernel_rfl
theorem ck67 : chkFn Tryz.prog chkDrawn Tryz.f67 cf_word_hex = true := by kernel_rfl
theorem at67 : Tryz.prog.funcs[67]? = some Tryz.f67 := by kernel_rfl
theorem ck68 : chkFn Tryz.prog chkDrawn Tryz.f68 cf_runes_value = true := by kernel_rfl
theorem at68 : Tryz.prog.funcs[68]? = some Tryz.f68 := by kernel_rfl
theorem ck69 : chkFn Tryz.prog chkDrawn Tryz.f69 cf_runes_number = true := by kernel_rfl
theorem at69 : Tryz.prog.funcs[69]? = some Tryz.f69 := by kernel_rfl
theorem ck70 : chkFn Tryz.prog chkDrawn Tryz.f70 cf_runes_behind = true := by kernel_rfl
theorem at70 : Tryz.prog.funcs[70]? = some Tryz.f70 := by kernel_rfl
theorem ck71 : chkFn Tryz.prog chkDrawn Tryz.f71 cf_slices_SortFunc_runes_span_runes_span = true := by kernel_rfl
theorem at71 : Tryz.prog.funcs[71]? = some Tryz.f71 := by kernel_rfl
theorem ck72 : chkFn Tryz.prog chkDrawn Tryz.f72 cf_runes_spans_1 = true := by kernel_rfl
theorem at72 : Tryz.prog.funcs[72]? = some Tryz.f72 := by kernel_rfl
theorem ck73 : chkFn Tryz.prog chkDrawn Tryz.f73 cf_cmp_Compare_int = true := by kernel_rfl
theorem at73 : Tryz.prog.funcs[73]? = some Tryz.f73 := by kernel_rfl
theorem ck74 : chkFn Tryz.prog chkDrawn Tryz.f74 cf_goboref3_Scalar = true := by kernel_rfl
theorem at74 : Tryz.prog.funcs[74]? = some Tryz.f74 := by kernel_rfl
theorem ck75 : chkFn Tryz.prog chkDrawn Tryz.f75 cf_goboref3_cuts = true := by kernel_rfl
theorem at75 : Tryz.prog.funcs[75]? = some Tryz.f75 := by kernel_rfl
end Go.Ev
/- Each printed function is the program's: printed by gen.py. -/
namespace Go.Ev
open Go Go.Proofs
theorem ck76 : chkFn Tryz.prog chkDrawn Tryz.f76 cf_goboref3_in = true := by kernel_rfl
theorem at76 : Tryz.prog.funcs[76]? = some Tryz.f76 := by kernel_rfl
theorem ck77 : chkFn Tryz.prog chkDrawn Tryz.f77 cf_goboref3_at = true := by kernel_rfl
theorem at77 : Tryz.prog.funcs[77]? = some Tryz.f77 := by kernel_rfl
theorem ck78 : chkFn Tryz.prog chkDrawn Tryz.f78 cf_goboref3_place = true := by kernel_rfl
theorem at78 : Tryz.prog.funcs[78]? = some Tryz.f78 := by kernel_rfl
theorem ck79 : chkFn Tryz.prog chkDrawn Tryz.f79 cf_decode_Dec_more_1 = true := by kernel_rfl
theorem at79 : Tryz.prog.funcs[79]? = some Tryz.f79 := by kernel_rfl
theorem ck80 : chkFn Tryz.prog chkDrawn Tryz.f80 cf_decode_grow = true := by kernel_rfl
theorem at80 : Tryz.prog.funcs[80]? = some Tryz.f80 := by kernel_rfl
theorem ck81 : chkFn Tryz.prog chkDrawn Tryz.f81 cf_decode_long = true := by kernel_rfl
theorem at81 : Tryz.prog.funcs[81]? = some Tryz.f81 := by kernel_rfl
theorem ck82 : chkFn Tryz.prog chkDrawn Tryz.f82 cf_utf8_decodeRuneSlow = true := by kernel_rfl
theorem at82 : Tryz.prog.funcs[82]? = some Tryz.f82 := by kernel_rfl
theorem ck83 : chkFn Tryz.prog chkDrawn Tryz.f83 cf_runes_is = true := by kernel_rfl
theorem at83 : Tryz.prog.funcs[83]? = some Tryz.f83 := by kernel_rfl
theorem ck84 : chkFn Tryz.prog chkDrawn Tryz.f84 cf_slices_pdqsortCmpFunc_runes_span = true := by kernel_rfl
theorem at84 : Tryz.prog.funcs[84]? = some Tryz.f84 := by kernel_rfl
theorem ck85 : chkFn Tryz.prog chkDrawn Tryz.f85 cf_bits_Len = true := by kernel_rfl
theorem at85 : Tryz.prog.funcs[85]? = some Tryz.f85 := by kernel_rfl
theorem ck86 : chkFn Tryz.prog chkDrawn Tryz.f86 cf_cmp_isNaN_int = true := by kernel_rfl
theorem at86 : Tryz.prog.funcs[86]? = some Tryz.f86 := by kernel_rfl
theorem ck87 : chkFn Tryz.prog chkDrawn Tryz.f87 cf_decode_second = true := by kernel_rfl
theorem at87 : Tryz.prog.funcs[87]? = some Tryz.f87 := by kernel_rfl
theorem ck88 : chkFn Tryz.prog chkDrawn Tryz.f88 cf_slices_Clone_byte_byte = true := by kernel_rfl
theorem at88 : Tryz.prog.funcs[88]? = some Tryz.f88 := by kernel_rfl
theorem ck89 : chkFn Tryz.prog chkDrawn Tryz.f89 cf_slices_insertionSortCmpFunc_runes_span = true := by kernel_rfl
theorem at89 : Tryz.prog.funcs[89]? = some Tryz.f89 := by kernel_rfl
theorem ck90 : chkFn Tryz.prog chkDrawn Tryz.f90 cf_slices_heapSortCmpFunc_runes_span = true := by kernel_rfl
theorem at90 : Tryz.prog.funcs[90]? = some Tryz.f90 := by kernel_rfl
theorem ck91 : chkFn Tryz.prog chkDrawn Tryz.f91 cf_slices_breakPatternsCmpFunc_runes_span = true := by kernel_rfl
theorem at91 : Tryz.prog.funcs[91]? = some Tryz.f91 := by kernel_rfl
theorem ck92 : chkFn Tryz.prog chkDrawn Tryz.f92 cf_slices_choosePivotCmpFunc_runes_span = true := by kernel_rfl
theorem at92 : Tryz.prog.funcs[92]? = some Tryz.f92 := by kernel_rfl
theorem ck93 : chkFn Tryz.prog chkDrawn Tryz.f93 cf_slices_reverseRangeCmpFunc_runes_span = true := by kernel_rfl
theorem at93 : Tryz.prog.funcs[93]? = some Tryz.f93 := by kernel_rfl
theorem ck94 : chkFn Tryz.prog chkDrawn Tryz.f94 cf_slices_partialInsertionSortCmpFunc_runes_span = true := by kernel_rfl
theorem at94 : Tryz.prog.funcs[94]? = some Tryz.f94 := by kernel_rfl
theorem ck95 : chkFn Tryz.prog chkDrawn Tryz.f95 cf_slices_partitionEqualCmpFunc_runes_span = true := by kernel_rfl
theorem at95 : Tryz.prog.funcs[95]? = some Tryz.f95 := by kernel_rfl
theorem ck96 : chkFn Tryz.prog chkDrawn Tryz.f96 cf_slices_partitionCmpFunc_runes_span = true := by kernel_rfl
theorem at96 : Tryz.prog.funcs[96]? = some Tryz.f96 := by kernel_rfl
theorem ck97 : chkFn Tryz.prog chkDrawn Tryz.f97 cf_bits_Len32 = true := by kernel_rfl
theorem at97 : Tryz.prog.funcs[97]? = some Tryz.f97 := by kernel_rfl
theorem ck98 : chkFn Tryz.prog chkDrawn Tryz.f98 cf_bits_Len64 = true := by kernel_rfl
theorem at98 : Tryz.prog.funcs[98]? = some Tryz.f98 := by kernel_rfl
theorem ck99 : chkFn Tryz.prog chkDrawn Tryz.f99 cf_slices_siftDownCmpFunc_runes_span = true := by kernel_rfl
theorem at99 : Tryz.prog.funcs[99]? = some Tryz.f99 := by kernel_rfl
end Go.Ev
/- Each printed function is the program's: printed by gen.py. -/
namespace Go.Ev
open Go Go.Proofs
theorem ck100 : chkFn Tryz.prog chkDrawn Tryz.f100 cf_slices_nextPowerOfTwo = true := by kernel_rfl
theorem at100 : Tryz.prog.funcs[100]? = some Tryz.f100 := by kernel_rfl
theorem ck101 : chkFn Tryz.prog chkDrawn Tryz.f101 cf_slices_xorshift_Next = true := by kernel_rfl
theorem at101 : Tryz.prog.funcs[101]? = some Tryz.f101 := by kernel_rfl
theorem ck102 : chkFn Tryz.prog chkDrawn Tryz.f102 cf_slices_medianAdjacentCmpFunc_runes_span = true := by kernel_rfl
theorem at102 : Tryz.prog.funcs[102]? = some Tryz.f102 := by kernel_rfl
theorem ck103 : chkFn Tryz.prog chkDrawn Tryz.f103 cf_slices_medianCmpFunc_runes_span = true := by kernel_rfl
theorem at103 : Tryz.prog.funcs[103]? = some Tryz.f103 := by kernel_rfl
theorem ck104 : chkFn Tryz.prog chkDrawn Tryz.f104 cf_slices_order2CmpFunc_runes_span = true := by kernel_rfl
theorem at104 : Tryz.prog.funcs[104]? = some Tryz.f104 := by kernel_rfl
end Go.Ev
/- The table is the program's: printed by gen.py. -/
namespace Go.Ev
open Go Go.Proofs
theorem table : Table Tryz.prog chkDrawn bt.get := BT.table (P := Tryz.prog) bt (⟨⟨⟨⟨⟨⟨⟨_, at3, ck3⟩, ⟨⟨_, at4, ck4⟩, ⟨_, at5, ck5⟩⟩⟩, ⟨⟨_, at6, ck6⟩, ⟨⟨_, at7, ck7⟩, ⟨_, at8, ck8⟩⟩⟩⟩, ⟨⟨⟨_, at9, ck9⟩, ⟨⟨_, at10, ck10⟩, ⟨_, at11, ck11⟩⟩⟩, ⟨⟨_, at12, ck12⟩, ⟨⟨_, at13, ck13⟩, ⟨_, at14, ck14⟩⟩⟩⟩⟩, ⟨⟨⟨⟨_, at15, ck15⟩, ⟨⟨_, at16, ck16⟩, ⟨_, at17, ck17⟩⟩⟩, ⟨⟨_, at18, ck18⟩, ⟨⟨_, at19, ck19⟩, ⟨_, at20, ck20⟩⟩⟩⟩, ⟨⟨⟨_, at21, ck21⟩, ⟨⟨_, at22, ck22⟩, ⟨_, at23, ck23⟩⟩⟩, ⟨⟨⟨_, at24, ck24⟩, ⟨_, at25, ck25⟩⟩, ⟨⟨_, at26, ck26⟩, ⟨_, at27, ck27⟩⟩⟩⟩⟩⟩, ⟨⟨⟨⟨⟨_, at28, ck28⟩, ⟨⟨_, at29, ck29⟩, ⟨_, at30, ck30⟩⟩⟩, ⟨⟨_, at31, ck31⟩, ⟨⟨_, at32, ck32⟩, ⟨_, at33, ck33⟩⟩⟩⟩, ⟨⟨⟨_, at34, ck34⟩, ⟨⟨_, at35, ck35⟩, ⟨_, at36, ck36⟩⟩⟩, ⟨⟨_, at37, ck37⟩, ⟨⟨_, at38, ck38⟩, ⟨_, at39, ck39⟩⟩⟩⟩⟩, ⟨⟨⟨⟨_, at40, ck40⟩, ⟨⟨_, at41, ck41⟩, ⟨_, at42, ck42⟩⟩⟩, ⟨⟨_, at43, ck43⟩, ⟨⟨_, at44, ck44⟩, ⟨_, at45, ck45⟩⟩⟩⟩, ⟨⟨⟨_, at46, ck46⟩, ⟨⟨_, at47, ck47⟩, ⟨_, at48, ck48⟩⟩⟩, ⟨⟨⟨_, at49, ck49⟩, ⟨_, at50, ck50⟩⟩, ⟨⟨_, at51, ck51⟩, ⟨_, at52, ck52⟩⟩⟩⟩⟩⟩⟩, ⟨⟨⟨⟨⟨⟨_, at53, ck53⟩, ⟨⟨_, at54, ck54⟩, ⟨_, at55, ck55⟩⟩⟩, ⟨⟨_, at56, ck56⟩, ⟨⟨_, at57, ck57⟩, ⟨_, at58, ck58⟩⟩⟩⟩, ⟨⟨⟨_, at59, ck59⟩, ⟨⟨_, at60, ck60⟩, ⟨_, at61, ck61⟩⟩⟩, ⟨⟨_, at63, ck63⟩, ⟨⟨_, at64, ck64⟩, ⟨_, at65, ck65⟩⟩⟩⟩⟩, ⟨⟨⟨⟨_, at66, ck66⟩, ⟨⟨_, at67, ck67⟩, ⟨_, at68, ck68⟩⟩⟩, ⟨⟨_, at69, ck69⟩, ⟨⟨_, at70, ck70⟩, ⟨_, at71, ck71⟩⟩⟩⟩, ⟨⟨⟨_, at72, ck72⟩, ⟨⟨_, at73, ck73⟩, ⟨_, at74, ck74⟩⟩⟩, ⟨⟨⟨_, at75, ck75⟩, ⟨_, at76, ck76⟩⟩, ⟨⟨_, at77, ck77⟩, ⟨_, at78, ck78⟩⟩⟩⟩⟩⟩, ⟨⟨⟨⟨⟨_, at79, ck79⟩, ⟨⟨_, at80, ck80⟩, ⟨_, at81, ck81⟩⟩⟩, ⟨⟨_, at82, ck82⟩, ⟨⟨_, at83, ck83⟩, ⟨_, at84, ck84⟩⟩⟩⟩, ⟨⟨⟨_, at85, ck85⟩, ⟨⟨_, at86, ck86⟩, ⟨_, at87, ck87⟩⟩⟩, ⟨⟨⟨_, at88, ck88⟩, ⟨_, at89, ck89⟩⟩, ⟨⟨_, at90, ck90⟩, ⟨_, at91, ck91⟩⟩⟩⟩⟩, ⟨⟨⟨⟨_, at92, ck92⟩, ⟨⟨_, at93, ck93⟩, ⟨_, at94, ck94⟩⟩⟩, ⟨⟨_, at95, ck95⟩, ⟨⟨_, at96, ck96⟩, ⟨_, at97, ck97⟩⟩⟩⟩, ⟨⟨⟨_, at98, ck98⟩, ⟨⟨_, at99, ck99⟩, ⟨_, at100, ck100⟩⟩⟩, ⟨⟨⟨_, at101, ck101⟩, ⟨_, at102, ck102⟩⟩, ⟨⟨_, at103, ck103⟩, ⟨_, at104, ck104⟩⟩⟩⟩⟩⟩⟩⟩)
end Go.Ev
