/- Several texts of this claim, joined. -/
import Derived.Test.YtfkdecamhepibaaGreatDoorT19
import Derived.Test.YtfkdecamhepibaaGreatDoorT21
set_option linter.unusedSimpArgs false
set_option linter.unusedVariables false

/- What word.All comes to. -/
namespace Go.Ev
open Go
open Go.Ev renaming seqK_normal → zA, blockK_normal → zB, blockK_exit → zC
open Nat renaming reduceEqDiff → zD, reduceAdd → zE, reduceSub → zF, reduceMul → zG, reduceLeDiff → zH, reduceLT → zI
open Int renaming reduceToNat → zJ, reduceLT → zK, reduceLE → zL, reduceEq → zM, reduceAdd → zN, reduceSub → zO, reduceMul → zP
set_option maxRecDepth 8000
/-- A bad rune ahead of the fault. -/
def badAt (f : Except Nat (List W)) (x : It) : Bool := x.bad && (match f with
  | .ok _ => true
  | .error k => decide (x.frm < k))
/-- The words of a text, or where it is wrong. -/
def allW (s : List UInt8) : Except Nat (List W) := match (decAll s).find? (badAt (wordsL s.length s 0)) with
  | some x => .error x.frm
  | none => wordsL s.length s 0
theorem icells_at : ∀ {l : List It} {i : Nat} {x : It}, l[i]? = some x → List.take 5 (List.drop (i * 5) (icells l)) = x.cells ∧ i * 5 + 5 ≤ (icells l).length
  | y :: l, 0, x, h => by
    simp only [List.getElem?_cons_zero, Option.some.injEq] at h; subst h
    constructor
    · rfl
    · rw [icells_len, List.length_cons]; omega
  | y :: l, i + 1, x, h => by
    have := icells_at (l := l) (i := i) (x := x) (by simpa using h)
    constructor
    · rw [icells, List.flatMap_cons, ← icells, show (i + 1) * 5 = 5 + i * 5 by omega, ← List.drop_drop]
      exact this.1
    · rw [icells_len, List.length_cons]; have h2 := this.2; rw [icells_len] at h2; omega
def fcells : Except Nat (List W) → List AV
  | .ok _ => [.int .i64 0, .int .i64 0]
  | .error k => [.int .i64 2, .int .i64 k]
section
variable {o : CallF} (ho : OvOnly o)
include ho
omit ho in
theorem w_All_loop {all : List It} {f : Except Nat (List W)} {n6 ib : Nat} {p5 : AV} (hl : all.length ≤ 1000000) (hne : ib ≠ n6) {Q : Ctl → St → Prop} : ∀ (r : List It) (i : Nat) (H : Heap), all.drop i = r → i ≤ all.length → H.get n6 = .cells (fcells f) .own → H.get ib = .cells (icells all) .own →
    (∀ x, r.find? (badAt f) = some x → ∀ σ : St, Fr n6 .nils H σ.H → σ.H.get n6 = .cells [.int .i64 2, .int .i64 x.frm] .own → σ.d = [] → lk 5 σ.p = some p5 → lk 6 σ.p = some (.ptr n6 0) → Q (.exit 0) σ) →
    (r.find? (badAt f) = none → ∀ σ : St, Fr n6 .nils H σ.H → σ.H.get n6 = .cells (fcells f) .own → σ.d = [] → lk 5 σ.p = some p5 → lk 6 σ.p = some (.ptr n6 0) → Q (.exit 0) σ) →
    wpl ⟨bt.get, o⟩ [5, 6, 16, 17, 18] lb_word_All_0 { p := [(5, p5), (6, .ptr n6 0), (16, .osl 5 ib 0 all.length), (17, .int .i64 all.length), (18, .int .i64 i)], t := [], H := H, d := [], u := .norm } Q
  | [], i, H, hr, hi, hg, hgi, hx, hn => by
    have : all.length ≤ i := List.drop_eq_nil_iff.1 hr
    rw [wpl_step]
    have h1 : ¬((i : Int) < (all.length : Int)) := by omega
    simp only [lb_word_All_0, go_sem, zA, zB, zC, reduceIte, zD, zE, zF, zG, zH, zI, reduceCtorEq, zJ, zK, zL, zM, zN, zO, zP, h1]
    exact hn rfl _ ⟨Nat.le_refl _, fun _ _ _ _ => rfl⟩ hg rfl rfl rfl
  | x :: r, i, H, hr, hi, hg, hgi, hx, hn => by
    have h0 : all[i]? = some x := by
      have := congrArg (fun l => l[0]?) hr
      simpa using this
    have h1 : i < all.length := (List.getElem?_eq_some_iff.1 h0).1
    have h2 : all.drop (i + 1) = r := by rw [← List.drop_drop, hr]; rfl
    have hlt : n6 < H.size := Heap.lt_of_get (by rw [hg]; simp)
    have hlti : ib < H.size := Heap.lt_of_get (by rw [hgi]; simp)
    rw [wpl_step]
    have h1' : ((i : Int) < (all.length : Int)) := by omega
    obtain ⟨c1, c2⟩ := icells_at h0
    have fin : badAt f x = false → wpl ⟨bt.get, o⟩ [5, 6, 16, 17, 18] lb_word_All_0 { p := [(5, p5), (6, .ptr n6 0), (16, .osl 5 ib 0 all.length), (17, .int .i64 all.length), (18, .int .i64 ((i + 1 : Nat) : Int))], t := [], H := H.push (.cells x.cells .own), d := [], u := .norm } Q := by
      intro hb
      have ef : Ext H.size H (H.push (.cells x.cells .own)) := Ext.push (Nat.le_refl _)
      refine w_All_loop hl hne r (i + 1) _ h2 (by omega) (by rw [Heap.get_push_lt hlt, hg]) (by rw [Heap.get_push_lt hlti, hgi]) (fun y hy σ k1 k2 => hx y (by rw [List.find?_cons, hb]; exact hy) σ (Fr.pre ef k1) k2) (fun hy σ k1 k2 => hn (by rw [List.find?_cons, hb]; exact hy) σ (Fr.pre ef k1) k2)
    have found : badAt f x = true → ∀ p t, lk 5 p = some p5 → lk 6 p = some (.ptr n6 0) → Q (.exit 0) { p := p, t := t, H := (H.set n6 (.cells [.int .i64 2, .int .i64 x.frm] .own)).push (.cells x.cells .own), d := [], u := .norm } := by
      intro hb p t e5 e6
      refine hx x (by rw [List.find?_cons, hb]) _ ⟨by simp only [Heap.size_push, Heap.size_set]; omega, fun c k1 k2 k3 => ?_⟩ ?_ rfl e5 e6
      · rw [Heap.get_push_lt (by rw [Heap.size_set]; exact k1), Heap.get_set_ne k2]
      · rw [Heap.get_push_lt (by rw [Heap.size_set]; exact hlt), Heap.get_set_self hlt]
    simp only [lb_word_All_0, go_sem, zA, zB, zC, reduceIte, zD, zE, zF, zG, zH, zI, reduceCtorEq, zJ, zK, zL, zM, zN, zO, zP, h1', hgi, c1, c2, It.cells]
    cases hb : x.bad
    · simp only [go_sem, zA, zB, zC, reduceIte, zD, zE, zF, zG, zH, zI, reduceCtorEq, zJ, zK, zL, zM, zN, zO, zP, wsucc (show i ≤ 1000000000 by omega)]
      have := fin (by simp [badAt, hb])
      rw [It.cells, hb] at this
      exact this
    · cases f with
      | ok l =>
        simp only [fcells] at hg
        simp only [go_sem, zA, zB, zC, reduceIte, zD, zE, zF, zG, zH, zI, reduceCtorEq, zJ, zK, zL, zM, zN, zO, zP, Heap.get_push_lt hlt, hg, Heap.push_set_lt hlt]
        have := found (by simp [badAt, hb])
        rw [It.cells, hb] at this
        exact this _ _ rfl rfl
      | error k =>
        simp only [fcells] at hg
        simp only [go_sem, zA, zB, zC, reduceIte, zD, zE, zF, zG, zH, zI, reduceCtorEq, zJ, zK, zL, zM, zN, zO, zP, Heap.get_push_lt hlt, hg]
        by_cases hk : x.frm < k
        · have hk' : (x.frm : Int) < (k : Int) := by omega
          simp only [go_sem, zA, zB, zC, reduceIte, zD, zE, zF, zG, zH, zI, reduceCtorEq, zJ, zK, zL, zM, zN, zO, zP, hk', Heap.get_push_lt hlt, hg, Heap.push_set_lt hlt]
          have := found (by simp [badAt, hb, hk])
          rw [It.cells, hb] at this
          exact this _ _ rfl rfl
        · have hk' : ¬ (x.frm : Int) < (k : Int) := by omega
          simp only [go_sem, zA, zB, zC, reduceIte, zD, zE, zF, zG, zH, zI, reduceCtorEq, zJ, zK, zL, zM, zN, zO, zP, hk', wsucc (show i ≤ 1000000000 by omega)]
          have := fin (by simp [badAt, hb, hk])
          rw [It.cells, hb] at this
          exact this
theorem w_All_key {s : List UInt8} (hs : s.length ≤ 4000) {H : Heap} {Q : End → Heap → Prop} (hG : GlH H) {H5 : Heap} {n6 : Nat} {lv : AV} {t : List (Nat × AV)} (e5 : Ext H.size H H5) (g0 : H5.get H.size = .cells [.str s] .own) (g1 : H5.get (H.size + 1) = .cells [lv] .own) (h6 : H.size + 1 < n6) (g6 : H5.get n6 = .cells (fcells (wordsL s.length s 0)) .own)
    (hlv : ∀ l, wordsL s.length s 0 = .ok l → Sl (H.size + 2) H5 3 (wcells l) l.length lv ∧ ∀ s o n, lv ≠ .osl s n6 o n)
    (hE : ∀ l, allW s = .ok l → ∀ H' v, Ext H.size H H' → Sl H.size H' 3 (wcells l) l.length v → Q (.ret (.tup [v, .int .i64 0, .int .i64 0])) H')
    (hP : ∀ k, allW s = .error k → ∀ H', Ext H.size H H' → Q (.ret (.tup [.nils, .int .i64 2, .int .i64 k])) H') :
    wpc ⟨bt.get, o⟩ (seqR (seqR (seqR (seqR bd_word_All)))) { p := [(0, .str s), (1, .ptr H.size 0), (2, .nils), (3, .int .i64 0), (4, .int .i64 0), (11, .bool false), (5, .ptr (H.size + 1) 0), (6, .ptr n6 0)], t := t, H := H5, d := [], u := .norm } (finK ⟨bt.get, o⟩ [.slot 2, .slot 3, .slot 4] Q) := by
  have l6 : n6 < H5.size := Heap.lt_of_get (by rw [g6]; simp)
  have hsl : s.length ≤ 1099511627776 := by omega
  simp only [bd_word_All, seqR, go_sem, zA, zB, zC, reduceIte, zD, zE, zF, zG, zH, zI, reduceCtorEq, zJ, zK, zL, zM, zN, zO, zP, g0, hsl]
  refine d_All ho (by omega) (hG.ext hG.1 (e5.trans (Ext.push (by omega)))) Heap.get_push_self fun H7 iv x7 hiv hil => ?_
  have y7 : Ext H5.size H5 H7 := (Ext.push (Nat.le_refl _)).trans (x7.le (by rw [Heap.size_push]; omega))
  have q6 : H7.get n6 = .cells (fcells (wordsL s.length s 0)) .own := by rw [y7.2 n6 l6, g6]
  -- what is done behind the loop
  have endOk : ∀ l, wordsL s.length s 0 = .ok l → (decAll s).find? (badAt (wordsL s.length s 0)) = none → ∀ σ : St, Fr n6 .nils H7 σ.H → σ.H.get n6 = .cells [.int .i64 0, .int .i64 0] .own → σ.d = [] → lk 5 σ.p = some (.ptr (H.size + 1) 0) → lk 6 σ.p = some (.ptr n6 0) →
      blockK 0 [5, 6] (seqK ⟨bt.get, o⟩ (seqR (seqR (seqR (seqR (seqR bd_word_All))))) (finK ⟨bt.get, o⟩ [.slot 2, .slot 3, .slot 4] Q)) (.exit 0) σ := by
    intro l hl hf σ k1 k2 k3 k4 k5
    have ha : allW s = .ok l := by rw [allW, hf]; exact hl
    obtain ⟨hS, hne⟩ := hlv l hl
    have r1 : σ.H.get (H.size + 1) = .cells [lv] .own := by
      rw [k1.2 _ (by have := y7.1; omega) (by omega) (fun _ _ _ e => by cases e), y7.2 _ (by omega), g1]
    simp only [bd_word_All, seqR, go_sem, zA, zB, zC, reduceIte, zD, zE, zF, zG, zH, zI, reduceCtorEq, zJ, zK, zL, zM, zN, zO, zP, k2, k3, k4, k5, r1]
    refine hE l ha _ _ ?_ ?_
    · exact (e5.trans (y7.le (by omega))).trans ⟨k1.1, fun c hc => k1.2 c (by have := y7.1; omega) (by omega) (fun _ _ _ e => by cases e)⟩
    · refine ((hS.ext y7).frame' (by omega)).frame fun ob h1 h2 h3 => k1.2 ob (Heap.lt_of_get (by rw [h2]; simp)) (fun e => hne 3 0 l.length (by rw [h3, e])) (fun _ _ _ e => by cases e)
  have endBad : ∀ k, allW s = .error k → ∀ σ : St, Fr n6 .nils H7 σ.H → σ.H.get n6 = .cells [.int .i64 2, .int .i64 k] .own → σ.d = [] → lk 5 σ.p = some (.ptr (H.size + 1) 0) → lk 6 σ.p = some (.ptr n6 0) →
      blockK 0 [5, 6] (seqK ⟨bt.get, o⟩ (seqR (seqR (seqR (seqR (seqR bd_word_All))))) (finK ⟨bt.get, o⟩ [.slot 2, .slot 3, .slot 4] Q)) (.exit 0) σ := by
    intro k ha σ k1 k2 k3 k4 k5
    simp only [bd_word_All, seqR, go_sem, zA, zB, zC, reduceIte, zD, zE, zF, zG, zH, zI, reduceCtorEq, zJ, zK, zL, zM, zN, zO, zP, k2, k3, k4, k5]
    refine hP k ha _ ?_
    exact (e5.trans (y7.le (by omega))).trans ⟨k1.1, fun c hc => k1.2 c (by have := y7.1; omega) (by omega) (fun _ _ _ e => by cases e)⟩
  have step : ∀ σ : St, Fr n6 .nils H7 σ.H → σ.H.get n6 = .cells (fcells (wordsL s.length s 0)) .own → (decAll s).find? (badAt (wordsL s.length s 0)) = none → σ.d = [] → lk 5 σ.p = some (.ptr (H.size + 1) 0) → lk 6 σ.p = some (.ptr n6 0) →
      blockK 0 [5, 6] (seqK ⟨bt.get, o⟩ (seqR (seqR (seqR (seqR (seqR bd_word_All))))) (finK ⟨bt.get, o⟩ [.slot 2, .slot 3, .slot 4] Q)) (.exit 0) σ := by
    intro σ k1 k2 hf k3 k4 k5
    cases hw : wordsL s.length s 0 with
    | ok l => exact endOk l hw hf σ k1 (by rw [k2, hw]; rfl) k3 k4 k5
    | error k => exact endBad k (by rw [allW, hf]; exact hw) σ k1 (by rw [k2, hw]; rfl) k3 k4 k5
  rcases hiv with ⟨rfl, h0, _⟩ | ⟨ib, rfl, hib, hgi, hli, hpi⟩
  · have e0 : decAll s = [] := List.eq_nil_of_length_eq_zero h0
    simp only [go_sem, zA, zB, zC, reduceIte, zD, zE, zF, zG, zH, zI, reduceCtorEq, zJ, zK, zL, zM, zN, zO, zP]
    rw [wpl_step]
    simp only [lb_word_All_0, go_sem, zA, reduceIte, zD, zE, zF, zG, zH, zI, reduceCtorEq, zJ, zK, zL, zM, zN, zO, zP]
    refine step _ ?_ ?_ ?_ ?_ ?_ ?_
    · exact ⟨Nat.le_refl _, fun _ _ _ _ => rfl⟩
    · exact q6
    · rw [e0]; rfl
    · rfl
    · rfl
    · rfl
  · simp only [go_sem, zA, zB, zC, reduceIte, zD, zE, zF, zG, zH, zI, reduceCtorEq, zJ, zK, zL, zM, zN, zO, zP]
    refine w_All_loop (f := wordsL s.length s 0) (p5 := .ptr (H.size + 1) 0) (by omega) (by rw [Heap.size_push] at hib; omega) (decAll s) 0 H7 rfl (Nat.zero_le _) q6 hgi (fun x hx σ k1 k2 k3 k4 k5 => ?_) (fun hx σ k1 k2 k3 k4 k5 => step σ k1 k2 hx k3 k4 k5)
    exact endBad x.frm (by rw [allW, hx]) σ k1 k2 k3 k4 k5
theorem w_Caught {f : FuncId} {cap : List AV} {H : Heap} {Q R : End → Heap → Prop} (h : wpf ⟨bt.get, o⟩ f cap (H.push (.cells [.int .i64 0, .int .i64 0] .own)) R)
    (hr : ∀ e H', R e H' → H'.get H.size = .cells [.int .i64 0, .int .i64 0] .own ∧ ((∃ v, e = .ret v ∧ ∀ H'', Fr H.size .nils H' H'' → Q (.ret (.agg [.int .i64 0, .int .i64 0])) H'') ∨ ∃ c k, e = .pan [(faultA c k, false)] ∧ ∀ H'', Fr H.size .nils H' H'' → Q (.ret (.agg [.int .i64 c, .int .i64 k])) H'')) : wpf ⟨bt.get, o⟩ F_word_Caught [.fn f cap] H Q := by
  rw [fn_word_Caught (ho _ _ _ (by decide))]
  simp only [bd_word_Caught, go_sem, zA, zB, zC, reduceIte, zD, zE, zF, zG, zH, zI, reduceCtorEq, zJ, zK, zL, zM, zN, zO, zP]
  refine wpf_mono h fun e H' hR => ?_
  obtain ⟨g, hc⟩ := hr e H' hR
  have lt : H.size < H'.size := Heap.lt_of_get (by rw [g]; simp)
  rcases hc with ⟨v, rfl, hq⟩ | ⟨c, k, rfl, hq⟩
  · simp only [go_sem, zA, zB, zC, reduceIte, zD, zE, zF, zG, zH, zI, reduceCtorEq, zJ, zK, zL, zM, zN, zO, zP, g]
    rw [dfn_word_Caught_1]
    simp only [bd_word_Caught_1, go_sem, zA, zB, zC, reduceIte, zD, zE, zF, zG, zH, zI, reduceCtorEq, zJ, zK, zL, zM, zN, zO, zP, Heap.get_set_self lt]
    exact hq _ ⟨Nat.le_refl _, fun c _ h2 _ => Heap.get_set_ne h2⟩
  · simp only [go_sem, zA, zB, zC, reduceIte, zD, zE, zF, zG, zH, zI, reduceCtorEq, zJ, zK, zL, zM, zN, zO, zP]
    rw [dfn_word_Caught_1]
    have lt2 : ∀ x, H.size < (H'.push x).size := fun x => by rw [Heap.size_push]; omega
    simp only [bd_word_Caught_1, go_sem, zA, zB, zC, reduceIte, zD, zE, zF, zG, zH, zI, reduceCtorEq, zJ, zK, zL, zM, zN, zO, zP, Heap.get_push_lt lt, g, Heap.push_set_lt lt, Heap.get_set_self lt]
    have e1 : ((H'.set H.size (.cells [.int .i64 c, .int .i64 k] .own)).push (.cells [.int .i64 c, .int .i64 k] .own)).get H.size = .cells [.int .i64 c, .int .i64 k] .own := by
      rw [Heap.get_push_lt (by rw [Heap.size_set]; exact lt), Heap.get_set_self lt]
    simp only [go_sem, zA, zB, zC, reduceIte, zD, zE, zF, zG, zH, zI, reduceCtorEq, zJ, zK, zL, zM, zN, zO, zP, e1]
    exact hq _ ⟨by simp only [Heap.size_push, Heap.size_set]; omega, fun c h1 h2 _ => by rw [Heap.get_push_lt (by rw [Heap.size_set]; exact h1), Heap.get_set_ne h2]⟩
theorem w_All {s : List UInt8} (hs : s.length ≤ 4000) {H : Heap} {Q : End → Heap → Prop} (hG : GlH H)
    (hE : ∀ l, allW s = .ok l → ∀ H' v, Ext H.size H H' → Sl H.size H' 3 (wcells l) l.length v → Q (.ret (.tup [v, .int .i64 0, .int .i64 0])) H')
    (hP : ∀ k, allW s = .error k → ∀ H', Ext H.size H H' → Q (.ret (.tup [.nils, .int .i64 2, .int .i64 k])) H') : wpf ⟨bt.get, o⟩ F_word_All [.str s] H Q := by
  rw [fn_word_All (ho _ _ _ (by decide))]
  have h4 : ¬ ((4000 : Int) < (s.length : Int)) := by omega
  simp only [bd_word_All, go_sem, zA, zB, zC, reduceIte, zD, zE, zF, zG, zH, zI, reduceCtorEq, zJ, zK, zL, zM, zN, zO, zP, h4]
  generalize hH2 : (H.push (Blk.cells [AV.str s] Use.own)).push (Blk.cells [AV.nils] Use.own) = H2
  have sz2 : H2.size = H.size + 2 := by rw [← hH2]; rfl
  have f0 : H2.get H.size = .cells [.str s] .own := by rw [← hH2]; simp [Heap.get_push, Heap.size_push]
  have f1 : H2.get (H.size + 1) = .cells [.nils] .own := by rw [← hH2]; simp [Heap.get_push, Heap.size_push]
  have x2 : Ext H.size H H2 := by rw [← hH2]; exact (Ext.push (Nat.le_refl _)).trans (Ext.push (by rw [Heap.size_push]; omega))
  -- the work's call
  have work : wpf ⟨bt.get, o⟩ F_word_All_1 [.ptr H.size 0, .ptr (H.size + 1) 0] (H2.push (.cells [.int .i64 0, .int .i64 0] .own)) fun e H' => Ext H.size H2 H' ∧ H'.get H.size = .cells [.str s] .own ∧ H'.get (H.size + 2) = .cells [.int .i64 0, .int .i64 0] .own ∧
      ((∃ l v, wordsL s.length s 0 = .ok l ∧ e = .ret (.tup []) ∧ H'.get (H.size + 1) = .cells [v] .own ∧ Sl (H.size + 3) H' 3 (wcells l) l.length v) ∨ ∃ k : Nat, wordsL s.length s 0 = .error k ∧ e = .pan [(faultA 2 k, false)] ∧ H'.get (H.size + 1) = .cells [.nils] .own) := by
    rw [fn_word_All_1 (ho _ _ _ (by decide))]
    have g0 : (H2.push (.cells [.int .i64 0, .int .i64 0] .own)).get H.size = .cells [.str s] .own := by rw [Heap.get_push_lt (by omega), f0]
    have g1 : (H2.push (.cells [.int .i64 0, .int .i64 0] .own)).get (H.size + 1) = .cells [.nils] .own := by rw [Heap.get_push_lt (by omega), f1]
    have g2 : (H2.push (.cells [.int .i64 0, .int .i64 0] .own)).get (H.size + 2) = .cells [.int .i64 0, .int .i64 0] .own := by rw [Heap.get_push_eq sz2.symm]
    have sz3 : (H2.push (.cells [.int .i64 0, .int .i64 0] .own)).size = H.size + 3 := by rw [Heap.size_push, sz2]
    have y3 : Ext H.size H2 (H2.push (.cells [.int .i64 0, .int .i64 0] .own)) := Ext.push (by omega)
    generalize H2.push (.cells [.int .i64 0, .int .i64 0] .own) = H3 at g0 g1 g2 sz3 y3 ⊢
    simp only [bd_word_All_1, go_sem, zA, zB, zC, reduceIte, zD, zE, zF, zG, zH, zI, reduceCtorEq, zJ, zK, zL, zM, zN, zO, zP, g0]
    refine w_words ho (by omega) (n0 := H3.size) (Nat.le_refl _) (fun l hl H4 v x4 hv => ?_) (fun k hk H4 x4 => ?_)
    · have q1 : H4.get (H.size + 1) = .cells [.nils] .own := by rw [x4.2 _ (by omega), g1]
      have lt : H.size + 1 < H4.size := Heap.lt_of_get (by rw [q1]; simp)
      simp only [go_sem, zA, zB, zC, reduceIte, zD, zE, zF, zG, zH, zI, reduceCtorEq, zJ, zK, zL, zM, zN, zO, zP, q1, hv.one]
      refine ⟨(y3.trans (x4.le (by omega))).trans (Ext.set (by omega)), ?_, ?_, .inl ⟨l, v, hl, Heap.get_set_self lt, ?_⟩⟩
      · rw [Heap.get_set_ne (by omega), x4.2 _ (by omega), g0]
      · rw [Heap.get_set_ne (by omega), x4.2 _ (by omega), g2]
      · rw [sz3] at hv; exact hv.set (by omega)
    · simp only [go_sem, zA, zB, zC, reduceIte, zD, zE, zF, zG, zH, zI, reduceCtorEq, zJ, zK, zL, zM, zN, zO, zP]
      exact ⟨y3.trans (x4.le (by omega)), by rw [x4.2 _ (by omega), g0], by rw [x4.2 _ (by omega), g2], .inr ⟨k, hk, rfl, by rw [x4.2 _ (by omega), g1]⟩⟩
  -- behind it
  have fin : ∀ (H5 : Heap) (lv : AV) (c : List AV), Ext H.size H H5 → H.size + 3 ≤ H5.size → H5.get H.size = .cells [.str s] .own → H5.get (H.size + 1) = .cells [lv] .own → fcells (wordsL s.length s 0) = c → (∀ l, wordsL s.length s 0 = .ok l → Sl (H.size + 2) H5 3 (wcells l) l.length lv) → ∀ t,
      wpc ⟨bt.get, o⟩ (seqR (seqR (seqR (seqR bd_word_All)))) { p := [(0, .str s), (1, .ptr H.size 0), (2, .nils), (3, .int .i64 0), (4, .int .i64 0), (11, .bool false), (5, .ptr (H.size + 1) 0), (6, .ptr H5.size 0)], t := t, H := H5.push (.cells c .own), d := [], u := .norm } (finK ⟨bt.get, o⟩ [.slot 2, .slot 3, .slot 4] Q) := by
    intro H5 lv c k1 k2 k3 k4 k5 k6 t
    subst k5
    refine w_All_key ho hs hG (k1.trans (Ext.push (Nat.le_trans (by omega) k2))) (by rw [Heap.get_push_lt (by omega), k3]) (by rw [Heap.get_push_lt (by omega), k4]) (by omega) Heap.get_push_self (fun l hl => ⟨(k6 l hl).push, fun s o n e => ?_⟩) hE hP
    rcases k6 l hl with ⟨h1, _⟩ | ⟨ob, h1, h2, h3, _⟩
    · rw [h1] at e; cases e
    · rw [h1] at e; injection e with _ e
      have := Heap.lt_of_get (H := H5) (b := ob) (by rw [h3]; simp)
      omega
  refine w_Caught ho work fun e H' hR => ?_
  obtain ⟨r1, r2, r3, r4⟩ := hR
  rw [sz2]
  refine ⟨r3, ?_⟩
  have szl : H.size + 3 ≤ H'.size := by have := Heap.lt_of_get (H := H') (b := H.size + 2) (by rw [r3]; simp); omega
  have stay : ∀ H'', Fr (H.size + 2) .nils H' H'' → Ext H.size H H'' ∧ H.size + 3 ≤ H''.size ∧ H''.get H.size = .cells [.str s] .own ∧ ∀ x, H'.get (H.size + 1) = x → H''.get (H.size + 1) = x := by
    intro H'' k
    refine ⟨(x2.trans r1).trans ⟨k.1, fun c hc => k.2 c (by omega) (by omega) (fun _ _ _ e => by cases e)⟩, Nat.le_trans szl k.1, ?_, fun x hx => ?_⟩
    · rw [k.2 _ (by omega) (by omega) (fun _ _ _ e => by cases e), r2]
    · rw [k.2 _ (by omega) (by omega) (fun _ _ _ e => by cases e), hx]
  rcases r4 with ⟨l, v, hl, rfl, r5, r6⟩ | ⟨k, hk, rfl, r5⟩
  · refine .inl ⟨_, rfl, fun H'' hk => ?_⟩
    obtain ⟨u1, u2, u3, u4⟩ := stay H'' hk
    simp only [go_sem, zB, zC, reduceIte, zD, zE, zF, zG, zH, zI, reduceCtorEq, zJ, zK, zL, zM, zN, zO, zP]
    refine fin H'' v _ u1 u2 u3 (u4 _ r5) (by rw [hl]; rfl) (fun l' hl' => ?_) _
    rw [hl] at hl'; cases hl'
    exact (r6.frame fun ob h1 h2 h3 => hk.2 ob (Heap.lt_of_get (by rw [h2]; simp)) (by omega) (fun _ _ _ e => by cases e)).frame' (by omega)
  · refine .inr ⟨2, k, rfl, fun H'' hk' => ?_⟩
    obtain ⟨u1, u2, u3, u4⟩ := stay H'' hk'
    simp only [go_sem, zB, zC, reduceIte, zD, zE, zF, zG, zH, zI, reduceCtorEq, zJ, zK, zL, zM, zN, zO, zP]
    refine fin H'' .nils _ u1 u2 u3 (u4 _ r5) (by rw [hk]; rfl) (fun l' hl' => ?_) _
    rw [hk] at hl'; cases hl'
end
/- The words of a text stand where they are: the plain law. -/
set_option maxRecDepth 8000
def W.frm (w : W) : Nat := if w.kind = 4 then w.at_ + 1 else w.at_
def W.fin (w : W) : Nat := if w.kind = 5 then w.at_ + 1 else if 3 < w.kind then w.frm + w.text.length + 1 else w.frm + w.text.length
/-- A word that stands in a text, not ahead of a place. -/
structure OkW (s : List UInt8) (e : Nat) (w : W) : Prop where
  ge : e ≤ w.at_
  le : w.frm + w.text.length ≤ s.length
  txt : (s.take (w.frm + w.text.length)).drop w.frm = w.text
  k1 : 1 ≤ w.kind
  k5 : w.kind ≤ 5
  nl : w.kind = 5 → w.text = [] ∧ ∃ c : UInt8, s[w.at_]? = some c ∧ c.toNat = 10
  rx : w.kind = 4 → (∃ c : UInt8, s[w.at_]? = some c ∧ c.toNat = 47) ∧ ∃ c : UInt8, s[w.frm + w.text.length]? = some c ∧ c.toNat = 47
inductive Pls (s : List UInt8) : Nat → List W → Prop where
  | nil {e : Nat} (h : e ≤ s.length) : Pls s e []
  | cons {e : Nat} {w : W} {l : List W} (h : OkW s e w) (t : Pls s w.fin l) : Pls s e (w :: l)
theorem closedL_end : ∀ (r : List UInt8) (k : Nat), closedL r = some k → ∃ c : UInt8, r[k]? = some c ∧ c.toNat = 47
  | [], k, h => by simp [closedL] at h
  | [c], k, h => by
    simp only [closedL] at h
    split at h
    · cases h
    · split at h
      · injection h with h; subst h; exact ⟨c, rfl, by assumption⟩
      · cases h
  | c :: d :: r, k, h => by
    simp only [closedL] at h
    split at h
    · cases h
    · split at h
      · injection h with h; subst h; exact ⟨c, rfl, by assumption⟩
      · split at h
        · split at h
          · cases h
          · obtain ⟨j, hj, rfl⟩ := Option.map_eq_some_iff.1 h
            exact closedL_end r j hj
        · obtain ⟨j, hj, rfl⟩ := Option.map_eq_some_iff.1 h
          exact closedL_end (d :: r) j hj
theorem consW_ok {w : W} {x : Except Nat (List W)} {l : List W} (h : consW w x = .ok l) : ∃ l', x = .ok l' ∧ l = w :: l' := by
  cases x with
  | ok l' => exact ⟨l', rfl, by simpa [consW] using h.symm⟩
  | error k => cases h
theorem consW_err {w : W} {x : Except Nat (List W)} {k : Nat} (h : consW w x = .error k) : x = .error k := by
  cases x with
  | ok l' => cases h
  | error k' => simpa [consW] using h
theorem wordsL_err : ∀ (n : Nat) (r : List UInt8) (i k : Nat), wordsL n r i = .error k → i ≤ k ∧ k < i + r.length
  | 0, _, _, _, h => by cases h
  | n + 1, [], _, _, h => by cases h
  | n + 1, c :: r, i, k, h => by
    have l1 := runL_le notNL r
    have l2 := runL_le ldB r
    have l3 := runL_le digitB r
    simp only [wordsL] at h
    simp only [List.length_cons]
    split at h
    · have := wordsL_err n _ _ _ h; omega
    split at h
    · have := wordsL_err n _ _ _ h; rw [List.length_drop] at this; omega
    split at h
    · have := wordsL_err n _ _ _ (consW_err h); omega
    split at h
    · have := wordsL_err n _ _ _ (consW_err h); rw [List.length_drop] at this; omega
    split at h
    · have := wordsL_err n _ _ _ (consW_err h); rw [List.length_drop] at this; omega
    split at h
    · have := wordsL_err n _ _ _ (consW_err h); omega
    split at h
    · split at h
      · cases h; omega
      · rename_i j hj
        have := closedL_lt r j hj
        have := wordsL_err n _ _ _ (consW_err h); rw [List.length_drop] at this; omega
    · cases h; omega
theorem wordsL_len : ∀ (n : Nat) (r : List UInt8) (i : Nat) (l : List W), wordsL n r i = .ok l → l.length ≤ n
  | 0, _, _, _, h => by cases h; exact Nat.le_refl _
  | n + 1, [], _, _, h => by cases h; exact Nat.zero_le _
  | n + 1, c :: r, i, l, h => by
    simp only [wordsL] at h
    split at h
    · have := wordsL_len n _ _ _ h; omega
    split at h
    · have := wordsL_len n _ _ _ h; omega
    split at h
    · obtain ⟨l', hl, rfl⟩ := consW_ok h; have := wordsL_len n _ _ _ hl; simp only [List.length_cons]; omega
    split at h
    · obtain ⟨l', hl, rfl⟩ := consW_ok h; have := wordsL_len n _ _ _ hl; simp only [List.length_cons]; omega
    split at h
    · obtain ⟨l', hl, rfl⟩ := consW_ok h; have := wordsL_len n _ _ _ hl; simp only [List.length_cons]; omega
    split at h
    · obtain ⟨l', hl, rfl⟩ := consW_ok h; have := wordsL_len n _ _ _ hl; simp only [List.length_cons]; omega
    split at h
    · split at h
      · cases h
      · obtain ⟨l', hl, rfl⟩ := consW_ok h; have := wordsL_len n _ _ _ hl; simp only [List.length_cons]; omega
    · cases h
theorem wordsL_pls {s : List UInt8} : ∀ (n : Nat) (r : List UInt8) (i e : Nat) (l : List W), s.drop i = r → i ≤ s.length → e ≤ i → wordsL n r i = .ok l → Pls s e l
  | 0, _, i, e, l, hr, hi, he, h => by cases h; exact .nil (by omega)
  | n + 1, [], i, e, l, hr, hi, he, h => by cases h; exact .nil (by omega)
  | n + 1, c :: r, i, e, l, hr, hi, he, h => by
    obtain ⟨h0, h1, h2⟩ := at_drop hr
    have hrl : r.length + i + 1 = s.length := by
      have := congrArg List.length hr
      simp only [List.length_drop, List.length_cons] at this
      omega
    have l1 := runL_le notNL r
    have l2 := runL_le ldB r
    have l3 := runL_le digitB r
    have cutc : ∀ k, (s.take (i + (1 + k))).drop i = c :: r.take k := fun k => by rw [cut hr, Nat.add_comm 1, List.take_succ_cons]
    have dr : ∀ k, s.drop (i + 1 + k) = r.drop k := fun k => by rw [← h2, List.drop_drop]
    simp only [wordsL] at h
    split at h
    · exact wordsL_pls n _ _ e l h2 (by omega) (by omega) h
    split at h
    · exact wordsL_pls n _ _ e l (dr _) (by omega) (by omega) h
    split at h
    · rename_i c10
      obtain ⟨l', hl, rfl⟩ := consW_ok h
      refine .cons ⟨he, by simp [W.frm]; omega, by simp [W.frm], by simp, by simp, fun _ => ⟨rfl, c, h0, c10⟩, fun h => by simp at h⟩ ?_
      exact wordsL_pls n _ _ _ l' h2 (by omega) (by simp [W.fin]) hl
    split at h
    · obtain ⟨l', hl, rfl⟩ := consW_ok h
      have hk : (c :: r.take (runL ldB r)).length = 1 + runL ldB r := by simp; omega
      refine .cons ⟨he, by simp only [W.frm, hk]; simp; omega, by simp only [W.frm, hk]; simpa using cutc _, by simp, by simp, fun h => by simp at h, fun h => by simp at h⟩ ?_
      exact wordsL_pls n _ _ _ l' (dr _) (by omega) (by simp only [W.fin, W.frm, hk]; simp; omega) hl
    split at h
    · obtain ⟨l', hl, rfl⟩ := consW_ok h
      have hk : (c :: r.take (runL digitB r)).length = 1 + runL digitB r := by simp; omega
      refine .cons ⟨he, by simp only [W.frm, hk]; simp; omega, by simp only [W.frm, hk]; simpa using cutc _, by simp, by simp, fun h => by simp at h, fun h => by simp at h⟩ ?_
      exact wordsL_pls n _ _ _ l' (dr _) (by omega) (by simp only [W.fin, W.frm, hk]; simp; omega) hl
    split at h
    · obtain ⟨l', hl, rfl⟩ := consW_ok h
      refine .cons ⟨he, by simp [W.frm]; omega, by simpa [W.frm] using cutc 0, by simp, by simp, fun h => by simp at h, fun h => by simp at h⟩ ?_
      exact wordsL_pls n _ _ _ l' h2 (by omega) (by simp [W.fin, W.frm]) hl
    split at h
    · rename_i c47
      split at h
      · cases h
      · rename_i k hk
        have hlt := closedL_lt r k hk
        obtain ⟨d, hd, d47⟩ := closedL_end r k hk
        obtain ⟨l', hl, rfl⟩ := consW_ok h
        have hkl : (r.take k).length = k := by simp; omega
        have e4 : (s.take (i + 1 + k)).drop (i + 1) = r.take k := cut h2 k
        have e5 : s[i + 1 + k]? = some d := by
          rw [← hd, ← h2, List.getElem?_drop]
        refine .cons ⟨he, by simp only [W.frm, hkl]; simp; omega, by simpa only [W.frm, hkl, if_true] using e4, by simp, by simp, fun h => by simp at h, fun _ => ⟨⟨c, h0, c47⟩, d, by simpa only [W.frm, hkl, if_true] using e5, d47⟩⟩ ?_
        exact wordsL_pls n _ _ _ l' (by rw [Nat.add_assoc, dr]) (by omega) (by simp only [W.fin, W.frm, hkl]; simp) hl
    · cases h
theorem feedD_bd : ∀ (r : List UInt8) (held : List UInt8) (at_ : Nat), pre held = true → (∀ x ∈ (feedD r held at_).2.2, x.frm < at_ + held.length + r.length) ∧ pre (feedD r held at_).1 = true ∧ (feedD r held at_).2.1 + (feedD r held at_).1.length = at_ + held.length + r.length
  | [], held, at_, h => by simp [feedD, h]
  | c :: r, held, at_, h => by
    have hb := takeB_bd (c := c) (at_ := at_) h
    obtain ⟨i1, i2, i3⟩ := feedD_bd r (takeB held c at_).1 (takeB held c at_).2.1 hb.1
    refine ⟨fun x hx => ?_, i2, ?_⟩
    · simp only [feedD, List.mem_append] at hx
      simp only [List.length_cons]
      rcases hx with hx | hx
      · have : x.frm < at_ + held.length + 1 := by
          have h0 : ∀ (y : It) (held : List UInt8) (c : UInt8) (at_ : Nat), y ∈ (afterM held c at_).2.2 → y.frm = at_ := by
            intro y held c at_ hy
            unfold afterM at hy
            split at hy
            · simp at hy; rw [hy]
            · simp at hy
          have h00 : ∀ (y : It) (c : UInt8) (at_ : Nat), y ∈ (take0 c at_).2.2 → y.frm = at_ := by
            intro y c at_ hy
            unfold take0 at hy
            split at hy
            · exact h0 _ _ _ _ hy
            · simp at hy; rw [hy]
          unfold takeB at hx
          split at hx
          · have := h0 _ _ _ _ hx; omega
          · split at hx
            · simp at hx; rw [hx]; simp
            · rcases List.mem_cons.1 hx with hx | hx
              · rw [hx]; simp only; omega
              · have := h00 _ _ _ hx; omega
        omega
      · have := i1 x hx; omega
    · simp only [feedD, List.length_cons]; omega
theorem decAll_bd {s : List UInt8} : ∀ x ∈ decAll s, x.frm < s.length := by
  intro x hx
  obtain ⟨i1, i2, i3⟩ := feedD_bd s [] 0 rfl
  simp only [List.length_nil, Nat.zero_add] at i1 i3
  rcases List.mem_append.1 hx with hx | hx
  · exact i1 x hx
  · unfold closeD at hx
    split at hx
    · cases hx
    · rename_i held hne
      simp at hx
      rw [hx]
      have : 0 < (feedD s [] 0).1.length := by
        cases h : (feedD s [] 0).1 with
        | nil => exact absurd h (by intro e; exact hne e)
        | cons => simp
      simp only
      omega
theorem allW_err {s : List UInt8} {k : Nat} (h : allW s = .error k) : k < s.length := by
  unfold allW at h
  split at h
  · rename_i x hx
    cases h
    exact decAll_bd x (List.mem_of_find?_eq_some hx)
  · have := wordsL_err _ _ _ _ h; omega
theorem allW_ok {s : List UInt8} {l : List W} (h : allW s = .ok l) : wordsL s.length s 0 = .ok l := by
  unfold allW at h
  split at h
  · cases h
  · exact h
theorem allW_pls {s : List UInt8} {l : List W} (h : allW s = .ok l) : Pls s 0 l := wordsL_pls _ _ 0 0 l rfl (Nat.zero_le _) (Nat.le_refl _) (allW_ok h)
/- Runes one by one, from a place: plainly. -/
set_option maxRecDepth 8000
/-- A sequence that has begun, and what is behind it: its item. -/
def goG (held : List UInt8) : List UInt8 → Nat → It
  | [], at_ => if held.length = longB (headB held) then ⟨decR held, at_, at_ + held.length, false, false⟩ else ⟨65533, at_, at_ + held.length, true, true⟩
  | c :: r, at_ => if held.length = longB (headB held) then ⟨decR held, at_, at_ + held.length, false, false⟩
    else if okB held c then goG (held ++ [c]) r at_ else ⟨65533, at_, at_ + held.length, true, true⟩
def oneG : List UInt8 → Nat → It
  | [], at_ => ⟨0, at_, at_, false, false⟩
  | c :: r, at_ => if longB c = 0 then ⟨65533, at_, at_ + 1, true, false⟩ else goG [c] r at_
def daG (held r : List UInt8) (at_ : Nat) : List It := (feedD r held at_).2.2 ++ closeD (feedD r held at_).1 (feedD r held at_).2.1
theorem daG_all (s : List UInt8) : decAll s = daG [] s 0 := rfl
theorem daG_cons (held r : List UInt8) (c : UInt8) (at_ : Nat) : daG held (c :: r) at_ = (takeB held c at_).2.2 ++ daG (takeB held c at_).1 r (takeB held c at_).2.1 := by
  simp only [daG, feedD, List.append_assoc]
theorem headB_app {held : List UInt8} (h : held ≠ []) (c : UInt8) : headB (held ++ [c]) = headB held := by
  cases held with
  | nil => exact absurd rfl h
  | cons a r => rfl
theorem pre_lt {held : List UInt8} (h : pre held = true) (hn : held ≠ []) : held.length < longB (headB held) := by
  match held, h, hn with
  | [a], h, _ => simpa [pre, headB] using h
  | [a, b], h, _ => simp only [pre, Bool.and_eq_true, decide_eq_true_eq] at h; exact h.1
  | [a, b, c], h, _ => simp only [pre, Bool.and_eq_true, decide_eq_true_eq] at h; exact h.1.1
theorem goG_to : ∀ (r held : List UInt8) (at_ : Nat), held ≠ [] → at_ + held.length ≤ (goG held r at_).to ∧ (goG held r at_).to ≤ at_ + held.length + r.length
  | [], held, at_, _ => by rw [goG]; split <;> simp
  | c :: r, held, at_, hn => by
    rw [goG]
    split
    · simp
    · split
      · have := goG_to r (held ++ [c]) at_ (by simp)
        simp only [List.length_append, List.length_cons, List.length_nil] at this ⊢
        omega
      · simp
/-- What is held, and a text behind it: one item, then the others. -/
theorem da_go : ∀ (r held : List UInt8) (at_ : Nat), pre held = true → held ≠ [] → daG held r at_ = goG held r at_ :: daG [] (r.drop ((goG held r at_).to - (at_ + held.length))) (goG held r at_).to
  | [], held, at_, hp, hn => by
    have hl := pre_lt hp hn
    rw [goG, if_neg (by omega)]
    cases held with
    | nil => exact absurd rfl hn
    | cons a r => simp [daG, feedD, closeD]
  | c :: r, held, at_, hp, hn => by
    have hl := pre_lt hp hn
    rw [daG_cons, goG, if_neg (by omega)]
    by_cases hk : okB held c = true
    · have hh := headB_app hn c
      rw [if_pos hk]
      have ht : takeB held c at_ = afterM held c at_ := by unfold takeB; rw [if_pos hk]
      rw [ht]
      obtain ⟨_, p2⟩ := pre_ok hp hk
      unfold afterM
      split
      · rename_i e
        have eg : goG (held ++ [c]) r at_ = ⟨decR (held ++ [c]), at_, at_ + (held ++ [c]).length, false, false⟩ := by
          cases r <;> rw [goG, if_pos e]
        rw [eg]
        simp only [List.length_append, List.length_cons, List.length_nil, List.cons_append, List.nil_append]
        congr 2
        rw [show at_ + (held.length + (0 + 1)) - (at_ + held.length) = 1 by omega]; rfl
      · rename_i e
        have ih := da_go r (held ++ [c]) at_ (p2 e) (by simp)
        have hto := goG_to r (held ++ [c]) at_ (by simp)
        simp only [List.nil_append]
        rw [ih]
        congr 2
        simp only [List.length_append, List.length_cons, List.length_nil] at hto ⊢
        rw [show (goG (held ++ [c]) r at_).to - (at_ + held.length) = ((goG (held ++ [c]) r at_).to - (at_ + (held.length + (0 + 1)))) + 1 by omega, List.drop_succ_cons]
    · have hk' : okB held c = false := by simpa using hk
      rw [if_neg hk]
      have ht : takeB held c at_ = ((take0 c (at_ + held.length)).1, (take0 c (at_ + held.length)).2.1, It.mk 65533 at_ (at_ + held.length) true true :: (take0 c (at_ + held.length)).2.2) := by
        unfold takeB
        rw [if_neg hk]
        cases held with
        | nil => exact absurd rfl hn
        | cons a r => rfl
      have h0 : takeB [] c (at_ + held.length) = take0 c (at_ + held.length) := by
        unfold takeB take0; rfl
      rw [ht]
      simp only [List.cons_append, Nat.sub_self, List.drop_zero]
      rw [daG_cons [] r c (at_ + held.length), h0]
/-- One item behind another. -/
theorem da_one {c : UInt8} {r : List UInt8} {at_ : Nat} : daG [] (c :: r) at_ = oneG (c :: r) at_ :: daG [] ((c :: r).drop ((oneG (c :: r) at_).to - at_)) (oneG (c :: r) at_).to := by
  rw [daG_cons, oneG]
  by_cases h : longB c = 0
  · have hk : okB [] c = false := by simp [okB, h]
    rw [if_pos h]
    have ht : takeB [] c at_ = ([], at_ + 1, [It.mk 65533 at_ (at_ + 1) true false]) := by unfold takeB; rw [if_neg (by rw [hk]; decide)]
    rw [ht]
    simp only [List.cons_append, List.nil_append]
    rw [show at_ + 1 - at_ = 1 by omega]; rfl
  · have hk : okB [] c = true := by simp [okB, h]
    rw [if_neg h]
    have ht : takeB [] c at_ = afterM [] c at_ := by unfold takeB; rw [if_pos hk]
    rw [ht]
    unfold afterM
    split
    · rename_i e
      have eg : goG [c] r at_ = ⟨decR [c], at_, at_ + 1, false, false⟩ := by
        cases r <;> (rw [goG, if_pos (by simpa using e)]; rfl)
      rw [eg]
      simp only [List.nil_append, List.length_cons, List.length_nil, Nat.zero_add, List.cons_append]
      rw [show at_ + 1 - at_ = 1 by omega]; rfl
    · rename_i e
      have hp : pre [c] = true := by
        have := longB_le c
        simp only [List.nil_append, List.length_cons, List.length_nil, headB, List.headD_cons] at e
        simp only [pre, decide_eq_true_eq]; omega
      have ih := da_go r [c] at_ hp (by simp)
      have hto := goG_to r [c] at_ (by simp)
      simp only [List.nil_append]
      rw [ih]
      congr 2
      simp only [List.length_cons, List.length_nil] at hto ⊢
      rw [show (goG [c] r at_).to - at_ = ((goG [c] r at_).to - (at_ + (0 + 1))) + 1 by omega, List.drop_succ_cons]
theorem oneG_to {c : UInt8} {r : List UInt8} {at_ : Nat} : at_ < (oneG (c :: r) at_).to ∧ (oneG (c :: r) at_).to ≤ at_ + (c :: r).length := by
  rw [oneG]
  split
  · simp
  · have := goG_to r [c] at_ (by simp)
    simp only [List.length_cons, List.length_nil] at this ⊢
    omega
end Go.Ev
