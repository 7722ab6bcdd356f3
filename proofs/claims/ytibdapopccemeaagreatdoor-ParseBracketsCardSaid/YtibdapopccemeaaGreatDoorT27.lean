/- What word.All comes to. -/
import Derived.Test.YtibdapopccemeaaGreatDoorT24
import Derived.Test.YtibdapopccemeaaGreatDoorT26
set_option linter.unusedSimpArgs false
set_option linter.unusedVariables false
namespace Go.Ev
open Go
open Go.Ev renaming seqK_normal → zA, blockK_normal → zB, blockK_exit → zC
open Nat renaming reduceEqDiff → zD, reduceAdd → zE, reduceSub → zF, reduceMul → zG, reduceLeDiff → zH, reduceLT → zI
open Int renaming reduceToNat → zJ, reduceLT → zK, reduceLE → zL, reduceEq → zM, reduceAdd → zN, reduceSub → zO, reduceMul → zP
set_option maxRecDepth 8000

/-- A bad rune ahead of the fault. -/
def badAt (f : Except Nat (List W)) (x : It) : Bool := x.bad && (match f with
  | .ok _ => true
  | .error k => decide (x.frm < k))
/-- The words of a text, or where it is wrong. -/
def allW (s : List UInt8) : Except Nat (List W) := match (decAll s).find? (badAt (wordsL s.length s 0)) with
  | some x => .error x.frm
  | none => wordsL s.length s 0

theorem icells_at : ∀ {l : List It} {i : Nat} {x : It}, l[i]? = some x → List.take 5 (List.drop (i * 5) (icells l)) = x.cells ∧ i * 5 + 5 ≤ (icells l).length
  | y :: l, 0, x, h => by
    simp only [List.getElem?_cons_zero, Option.some.injEq] at h; subst h
    constructor
    · rfl
    · rw [icells_len, List.length_cons]; omega
  | y :: l, i + 1, x, h => by
    have := icells_at (l := l) (i := i) (x := x) (by simpa using h)
    constructor
    · rw [icells, List.flatMap_cons, ← icells, show (i + 1) * 5 = 5 + i * 5 by omega, ← List.drop_drop]
      exact this.1
    · rw [icells_len, List.length_cons]; have h2 := this.2; rw [icells_len] at h2; omega

def fcells : Except Nat (List W) → List AV
  | .ok _ => [.int .i64 0, .int .i64 0]
  | .error k => [.int .i64 2, .int .i64 k]

section
variable {o : CallF} (ho : OvOnly o)
include ho

omit ho in
theorem w_All_loop {all : List It} {f : Except Nat (List W)} {n6 ib : Nat} {p5 : AV} (hl : all.length ≤ 1000000) (hne : ib ≠ n6) {Q : Ctl → St → Prop} : ∀ (r : List It) (i : Nat) (H : Heap), all.drop i = r → i ≤ all.length → H.get n6 = .cells (fcells f) .own → H.get ib = .cells (icells all) .own →
    (∀ x, r.find? (badAt f) = some x → ∀ σ : St, Fr n6 .nils H σ.H → σ.H.get n6 = .cells [.int .i64 2, .int .i64 x.frm] .own → σ.d = [] → lk 5 σ.p = some p5 → lk 6 σ.p = some (.ptr n6 0) → Q (.exit 0) σ) →
    (r.find? (badAt f) = none → ∀ σ : St, Fr n6 .nils H σ.H → σ.H.get n6 = .cells (fcells f) .own → σ.d = [] → lk 5 σ.p = some p5 → lk 6 σ.p = some (.ptr n6 0) → Q (.exit 0) σ) →
    wpl ⟨bt.get, o⟩ [5, 6, 16, 17, 18] lb_word_All_0 { p := [(5, p5), (6, .ptr n6 0), (16, .osl 5 ib 0 all.length), (17, .int .i64 all.length), (18, .int .i64 i)], t := [], H := H, d := [], u := .norm } Q
  | [], i, H, hr, hi, hg, hgi, hx, hn => by
    have : all.length ≤ i := List.drop_eq_nil_iff.1 hr
    rw [wpl_step]
    have h1 : ¬((i : Int) < (all.length : Int)) := by omega
    simp only [lb_word_All_0, go_sem, zA, zB, zC, reduceIte, zD, zE, zF, zG, zH, zI, reduceCtorEq, zJ, zK, zL, zM, zN, zO, zP, h1]
    exact hn rfl _ ⟨Nat.le_refl _, fun _ _ _ _ => rfl⟩ hg rfl rfl rfl
  | x :: r, i, H, hr, hi, hg, hgi, hx, hn => by
    have h0 : all[i]? = some x := by
      have := congrArg (fun l => l[0]?) hr
      simpa using this
    have h1 : i < all.length := (List.getElem?_eq_some_iff.1 h0).1
    have h2 : all.drop (i + 1) = r := by rw [← List.drop_drop, hr]; rfl
    have hlt : n6 < H.size := Heap.lt_of_get (by rw [hg]; simp)
    have hlti : ib < H.size := Heap.lt_of_get (by rw [hgi]; simp)
    rw [wpl_step]
    have h1' : ((i : Int) < (all.length : Int)) := by omega
    obtain ⟨c1, c2⟩ := icells_at h0
    have fin : badAt f x = false → wpl ⟨bt.get, o⟩ [5, 6, 16, 17, 18] lb_word_All_0 { p := [(5, p5), (6, .ptr n6 0), (16, .osl 5 ib 0 all.length), (17, .int .i64 all.length), (18, .int .i64 ((i + 1 : Nat) : Int))], t := [], H := H.push (.cells x.cells .own), d := [], u := .norm } Q := by
      intro hb
      have ef : Ext H.size H (H.push (.cells x.cells .own)) := Ext.push (Nat.le_refl _)
      refine w_All_loop hl hne r (i + 1) _ h2 (by omega) (by rw [Heap.get_push_lt hlt, hg]) (by rw [Heap.get_push_lt hlti, hgi]) (fun y hy σ k1 k2 => hx y (by rw [List.find?_cons, hb]; exact hy) σ (Fr.pre ef k1) k2) (fun hy σ k1 k2 => hn (by rw [List.find?_cons, hb]; exact hy) σ (Fr.pre ef k1) k2)
    have found : badAt f x = true → ∀ p t, lk 5 p = some p5 → lk 6 p = some (.ptr n6 0) → Q (.exit 0) { p := p, t := t, H := (H.set n6 (.cells [.int .i64 2, .int .i64 x.frm] .own)).push (.cells x.cells .own), d := [], u := .norm } := by
      intro hb p t e5 e6
      refine hx x (by rw [List.find?_cons, hb]) _ ⟨by simp only [Heap.size_push, Heap.size_set]; omega, fun c k1 k2 k3 => ?_⟩ ?_ rfl e5 e6
      · rw [Heap.get_push_lt (by rw [Heap.size_set]; exact k1), Heap.get_set_ne k2]
      · rw [Heap.get_push_lt (by rw [Heap.size_set]; exact hlt), Heap.get_set_self hlt]
    simp only [lb_word_All_0, go_sem, zA, zB, zC, reduceIte, zD, zE, zF, zG, zH, zI, reduceCtorEq, zJ, zK, zL, zM, zN, zO, zP, h1', hgi, c1, c2, It.cells]
    cases hb : x.bad
    · simp only [go_sem, zA, zB, zC, reduceIte, zD, zE, zF, zG, zH, zI, reduceCtorEq, zJ, zK, zL, zM, zN, zO, zP, wsucc (show i ≤ 1000000000 by omega)]
      have := fin (by simp [badAt, hb])
      rw [It.cells, hb] at this
      exact this
    · cases f with
      | ok l =>
        simp only [fcells] at hg
        simp only [go_sem, zA, zB, zC, reduceIte, zD, zE, zF, zG, zH, zI, reduceCtorEq, zJ, zK, zL, zM, zN, zO, zP, Heap.get_push_lt hlt, hg, Heap.push_set_lt hlt]
        have := found (by simp [badAt, hb])
        rw [It.cells, hb] at this
        exact this _ _ rfl rfl
      | error k =>
        simp only [fcells] at hg
        simp only [go_sem, zA, zB, zC, reduceIte, zD, zE, zF, zG, zH, zI, reduceCtorEq, zJ, zK, zL, zM, zN, zO, zP, Heap.get_push_lt hlt, hg]
        by_cases hk : x.frm < k
        · have hk' : (x.frm : Int) < (k : Int) := by omega
          simp only [go_sem, zA, zB, zC, reduceIte, zD, zE, zF, zG, zH, zI, reduceCtorEq, zJ, zK, zL, zM, zN, zO, zP, hk', Heap.get_push_lt hlt, hg, Heap.push_set_lt hlt]
          have := found (by simp [badAt, hb, hk])
          rw [It.cells, hb] at this
          exact this _ _ rfl rfl
        · have hk' : ¬ (x.frm : Int) < (k : Int) := by omega
          simp only [go_sem, zA, zB, zC, reduceIte, zD, zE, zF, zG, zH, zI, reduceCtorEq, zJ, zK, zL, zM, zN, zO, zP, hk', wsucc (show i ≤ 1000000000 by omega)]
          have := fin (by simp [badAt, hb, hk])
          rw [It.cells, hb] at this
          exact this

theorem w_All_key {s : List UInt8} (hs : s.length ≤ 4000) {H : Heap} {Q : End → Heap → Prop} (hG : GlH H) {H5 : Heap} {n6 : Nat} {lv : AV} {t : List (Nat × AV)} (e5 : Ext H.size H H5) (g0 : H5.get H.size = .cells [.str s] .own) (g1 : H5.get (H.size + 1) = .cells [lv] .own) (h6 : H.size + 1 < n6) (g6 : H5.get n6 = .cells (fcells (wordsL s.length s 0)) .own)
    (hlv : ∀ l, wordsL s.length s 0 = .ok l → Sl (H.size + 2) H5 3 (wcells l) l.length lv ∧ ∀ s o n, lv ≠ .osl s n6 o n)
    (hE : ∀ l, allW s = .ok l → ∀ H' v, Ext H.size H H' → Sl H.size H' 3 (wcells l) l.length v → Q (.ret (.tup [v, .int .i64 0, .int .i64 0])) H')
    (hP : ∀ k, allW s = .error k → ∀ H', Ext H.size H H' → Q (.ret (.tup [.nils, .int .i64 2, .int .i64 k])) H') :
    wpc ⟨bt.get, o⟩ (seqR (seqR (seqR (seqR bd_word_All)))) { p := [(0, .str s), (1, .ptr H.size 0), (2, .nils), (3, .int .i64 0), (4, .int .i64 0), (11, .bool false), (5, .ptr (H.size + 1) 0), (6, .ptr n6 0)], t := t, H := H5, d := [], u := .norm } (finK ⟨bt.get, o⟩ [.slot 2, .slot 3, .slot 4] Q) := by
  have l6 : n6 < H5.size := Heap.lt_of_get (by rw [g6]; simp)
  have hsl : s.length ≤ 1099511627776 := by omega
  simp only [bd_word_All, seqR, go_sem, zA, zB, zC, reduceIte, zD, zE, zF, zG, zH, zI, reduceCtorEq, zJ, zK, zL, zM, zN, zO, zP, g0, hsl]
  refine d_All ho (by omega) (hG.ext hG.1 (e5.trans (Ext.push (by omega)))) Heap.get_push_self fun H7 iv x7 hiv hil => ?_
  have y7 : Ext H5.size H5 H7 := (Ext.push (Nat.le_refl _)).trans (x7.le (by rw [Heap.size_push]; omega))
  have q6 : H7.get n6 = .cells (fcells (wordsL s.length s 0)) .own := by rw [y7.2 n6 l6, g6]
  -- what is done behind the loop
  have endOk : ∀ l, wordsL s.length s 0 = .ok l → (decAll s).find? (badAt (wordsL s.length s 0)) = none → ∀ σ : St, Fr n6 .nils H7 σ.H → σ.H.get n6 = .cells [.int .i64 0, .int .i64 0] .own → σ.d = [] → lk 5 σ.p = some (.ptr (H.size + 1) 0) → lk 6 σ.p = some (.ptr n6 0) →
      blockK 0 [5, 6] (seqK ⟨bt.get, o⟩ (seqR (seqR (seqR (seqR (seqR bd_word_All))))) (finK ⟨bt.get, o⟩ [.slot 2, .slot 3, .slot 4] Q)) (.exit 0) σ := by
    intro l hl hf σ k1 k2 k3 k4 k5
    have ha : allW s = .ok l := by rw [allW, hf]; exact hl
    obtain ⟨hS, hne⟩ := hlv l hl
    have r1 : σ.H.get (H.size + 1) = .cells [lv] .own := by
      rw [k1.2 _ (by have := y7.1; omega) (by omega) (fun _ _ _ e => by cases e), y7.2 _ (by omega), g1]
    simp only [bd_word_All, seqR, go_sem, zA, zB, zC, reduceIte, zD, zE, zF, zG, zH, zI, reduceCtorEq, zJ, zK, zL, zM, zN, zO, zP, k2, k3, k4, k5, r1]
    refine hE l ha _ _ ?_ ?_
    · exact (e5.trans (y7.le (by omega))).trans ⟨k1.1, fun c hc => k1.2 c (by have := y7.1; omega) (by omega) (fun _ _ _ e => by cases e)⟩
    · refine ((hS.ext y7).frame' (by omega)).frame fun ob h1 h2 h3 => k1.2 ob (Heap.lt_of_get (by rw [h2]; simp)) (fun e => hne 3 0 l.length (by rw [h3, e])) (fun _ _ _ e => by cases e)
  have endBad : ∀ k, allW s = .error k → ∀ σ : St, Fr n6 .nils H7 σ.H → σ.H.get n6 = .cells [.int .i64 2, .int .i64 k] .own → σ.d = [] → lk 5 σ.p = some (.ptr (H.size + 1) 0) → lk 6 σ.p = some (.ptr n6 0) →
      blockK 0 [5, 6] (seqK ⟨bt.get, o⟩ (seqR (seqR (seqR (seqR (seqR bd_word_All))))) (finK ⟨bt.get, o⟩ [.slot 2, .slot 3, .slot 4] Q)) (.exit 0) σ := by
    intro k ha σ k1 k2 k3 k4 k5
    simp only [bd_word_All, seqR, go_sem, zA, zB, zC, reduceIte, zD, zE, zF, zG, zH, zI, reduceCtorEq, zJ, zK, zL, zM, zN, zO, zP, k2, k3, k4, k5]
    refine hP k ha _ ?_
    exact (e5.trans (y7.le (by omega))).trans ⟨k1.1, fun c hc => k1.2 c (by have := y7.1; omega) (by omega) (fun _ _ _ e => by cases e)⟩
  have step : ∀ σ : St, Fr n6 .nils H7 σ.H → σ.H.get n6 = .cells (fcells (wordsL s.length s 0)) .own → (decAll s).find? (badAt (wordsL s.length s 0)) = none → σ.d = [] → lk 5 σ.p = some (.ptr (H.size + 1) 0) → lk 6 σ.p = some (.ptr n6 0) →
      blockK 0 [5, 6] (seqK ⟨bt.get, o⟩ (seqR (seqR (seqR (seqR (seqR bd_word_All))))) (finK ⟨bt.get, o⟩ [.slot 2, .slot 3, .slot 4] Q)) (.exit 0) σ := by
    intro σ k1 k2 hf k3 k4 k5
    cases hw : wordsL s.length s 0 with
    | ok l => exact endOk l hw hf σ k1 (by rw [k2, hw]; rfl) k3 k4 k5
    | error k => exact endBad k (by rw [allW, hf]; exact hw) σ k1 (by rw [k2, hw]; rfl) k3 k4 k5
  rcases hiv with ⟨rfl, h0, _⟩ | ⟨ib, rfl, hib, hgi, hli, hpi⟩
  · have e0 : decAll s = [] := List.eq_nil_of_length_eq_zero h0
    simp only [go_sem, zA, zB, zC, reduceIte, zD, zE, zF, zG, zH, zI, reduceCtorEq, zJ, zK, zL, zM, zN, zO, zP]
    rw [wpl_step]
    simp only [lb_word_All_0, go_sem, zA, reduceIte, zD, zE, zF, zG, zH, zI, reduceCtorEq, zJ, zK, zL, zM, zN, zO, zP]
    refine step _ ?_ ?_ ?_ ?_ ?_ ?_
    · exact ⟨Nat.le_refl _, fun _ _ _ _ => rfl⟩
    · exact q6
    · rw [e0]; rfl
    · rfl
    · rfl
    · rfl
  · simp only [go_sem, zA, zB, zC, reduceIte, zD, zE, zF, zG, zH, zI, reduceCtorEq, zJ, zK, zL, zM, zN, zO, zP]
    refine w_All_loop (f := wordsL s.length s 0) (p5 := .ptr (H.size + 1) 0) (by omega) (by rw [Heap.size_push] at hib; omega) (decAll s) 0 H7 rfl (Nat.zero_le _) q6 hgi (fun x hx σ k1 k2 k3 k4 k5 => ?_) (fun hx σ k1 k2 k3 k4 k5 => step σ k1 k2 hx k3 k4 k5)
    exact endBad x.frm (by rw [allW, hx]) σ k1 k2 k3 k4 k5

theorem w_Caught {f : FuncId} {cap : List AV} {H : Heap} {Q R : End → Heap → Prop} (h : wpf ⟨bt.get, o⟩ f cap (H.push (.cells [.int .i64 0, .int .i64 0] .own)) R)
    (hr : ∀ e H', R e H' → H'.get H.size = .cells [.int .i64 0, .int .i64 0] .own ∧ ((∃ v, e = .ret v ∧ ∀ H'', Fr H.size .nils H' H'' → Q (.ret (.agg [.int .i64 0, .int .i64 0])) H'') ∨ ∃ c k, e = .pan [(faultA c k, false)] ∧ ∀ H'', Fr H.size .nils H' H'' → Q (.ret (.agg [.int .i64 c, .int .i64 k])) H'')) : wpf ⟨bt.get, o⟩ F_word_Caught [.fn f cap] H Q := by
  rw [fn_word_Caught (ho _ _ _ (by decide))]
  simp only [bd_word_Caught, go_sem, zA, zB, zC, reduceIte, zD, zE, zF, zG, zH, zI, reduceCtorEq, zJ, zK, zL, zM, zN, zO, zP]
  refine wpf_mono h fun e H' hR => ?_
  obtain ⟨g, hc⟩ := hr e H' hR
  have lt : H.size < H'.size := Heap.lt_of_get (by rw [g]; simp)
  rcases hc with ⟨v, rfl, hq⟩ | ⟨c, k, rfl, hq⟩
  · simp only [go_sem, zA, zB, zC, reduceIte, zD, zE, zF, zG, zH, zI, reduceCtorEq, zJ, zK, zL, zM, zN, zO, zP, g]
    rw [dfn_word_Caught_1]
    simp only [bd_word_Caught_1, go_sem, zA, zB, zC, reduceIte, zD, zE, zF, zG, zH, zI, reduceCtorEq, zJ, zK, zL, zM, zN, zO, zP, Heap.get_set_self lt]
    exact hq _ ⟨Nat.le_refl _, fun c _ h2 _ => Heap.get_set_ne h2⟩
  · simp only [go_sem, zA, zB, zC, reduceIte, zD, zE, zF, zG, zH, zI, reduceCtorEq, zJ, zK, zL, zM, zN, zO, zP]
    rw [dfn_word_Caught_1]
    have lt2 : ∀ x, H.size < (H'.push x).size := fun x => by rw [Heap.size_push]; omega
    simp only [bd_word_Caught_1, go_sem, zA, zB, zC, reduceIte, zD, zE, zF, zG, zH, zI, reduceCtorEq, zJ, zK, zL, zM, zN, zO, zP, Heap.get_push_lt lt, g, Heap.push_set_lt lt, Heap.get_set_self lt]
    have e1 : ((H'.set H.size (.cells [.int .i64 c, .int .i64 k] .own)).push (.cells [.int .i64 c, .int .i64 k] .own)).get H.size = .cells [.int .i64 c, .int .i64 k] .own := by
      rw [Heap.get_push_lt (by rw [Heap.size_set]; exact lt), Heap.get_set_self lt]
    simp only [go_sem, zA, zB, zC, reduceIte, zD, zE, zF, zG, zH, zI, reduceCtorEq, zJ, zK, zL, zM, zN, zO, zP, e1]
    exact hq _ ⟨by simp only [Heap.size_push, Heap.size_set]; omega, fun c h1 h2 _ => by rw [Heap.get_push_lt (by rw [Heap.size_set]; exact h1), Heap.get_set_ne h2]⟩

theorem w_All {s : List UInt8} (hs : s.length ≤ 4000) {H : Heap} {Q : End → Heap → Prop} (hG : GlH H)
    (hE : ∀ l, allW s = .ok l → ∀ H' v, Ext H.size H H' → Sl H.size H' 3 (wcells l) l.length v → Q (.ret (.tup [v, .int .i64 0, .int .i64 0])) H')
    (hP : ∀ k, allW s = .error k → ∀ H', Ext H.size H H' → Q (.ret (.tup [.nils, .int .i64 2, .int .i64 k])) H') : wpf ⟨bt.get, o⟩ F_word_All [.str s] H Q := by
  rw [fn_word_All (ho _ _ _ (by decide))]
  have h4 : ¬ ((4000 : Int) < (s.length : Int)) := by omega
  simp only [bd_word_All, go_sem, zA, zB, zC, reduceIte, zD, zE, zF, zG, zH, zI, reduceCtorEq, zJ, zK, zL, zM, zN, zO, zP, h4]
  generalize hH2 : (H.push (Blk.cells [AV.str s] Use.own)).push (Blk.cells [AV.nils] Use.own) = H2
  have sz2 : H2.size = H.size + 2 := by rw [← hH2]; rfl
  have f0 : H2.get H.size = .cells [.str s] .own := by rw [← hH2]; simp [Heap.get_push, Heap.size_push]
  have f1 : H2.get (H.size + 1) = .cells [.nils] .own := by rw [← hH2]; simp [Heap.get_push, Heap.size_push]
  have x2 : Ext H.size H H2 := by rw [← hH2]; exact (Ext.push (Nat.le_refl _)).trans (Ext.push (by rw [Heap.size_push]; omega))
  -- the work's call
  have work : wpf ⟨bt.get, o⟩ F_word_All_1 [.ptr H.size 0, .ptr (H.size + 1) 0] (H2.push (.cells [.int .i64 0, .int .i64 0] .own)) fun e H' => Ext H.size H2 H' ∧ H'.get H.size = .cells [.str s] .own ∧ H'.get (H.size + 2) = .cells [.int .i64 0, .int .i64 0] .own ∧
      ((∃ l v, wordsL s.length s 0 = .ok l ∧ e = .ret (.tup []) ∧ H'.get (H.size + 1) = .cells [v] .own ∧ Sl (H.size + 3) H' 3 (wcells l) l.length v) ∨ ∃ k : Nat, wordsL s.length s 0 = .error k ∧ e = .pan [(faultA 2 k, false)] ∧ H'.get (H.size + 1) = .cells [.nils] .own) := by
    rw [fn_word_All_1 (ho _ _ _ (by decide))]
    have g0 : (H2.push (.cells [.int .i64 0, .int .i64 0] .own)).get H.size = .cells [.str s] .own := by rw [Heap.get_push_lt (by omega), f0]
    have g1 : (H2.push (.cells [.int .i64 0, .int .i64 0] .own)).get (H.size + 1) = .cells [.nils] .own := by rw [Heap.get_push_lt (by omega), f1]
    have g2 : (H2.push (.cells [.int .i64 0, .int .i64 0] .own)).get (H.size + 2) = .cells [.int .i64 0, .int .i64 0] .own := by rw [Heap.get_push_eq sz2.symm]
    have sz3 : (H2.push (.cells [.int .i64 0, .int .i64 0] .own)).size = H.size + 3 := by rw [Heap.size_push, sz2]
    have y3 : Ext H.size H2 (H2.push (.cells [.int .i64 0, .int .i64 0] .own)) := Ext.push (by omega)
    generalize H2.push (.cells [.int .i64 0, .int .i64 0] .own) = H3 at g0 g1 g2 sz3 y3 ⊢
    simp only [bd_word_All_1, go_sem, zA, zB, zC, reduceIte, zD, zE, zF, zG, zH, zI, reduceCtorEq, zJ, zK, zL, zM, zN, zO, zP, g0]
    refine w_words ho (by omega) (n0 := H3.size) (Nat.le_refl _) (fun l hl H4 v x4 hv => ?_) (fun k hk H4 x4 => ?_)
    · have q1 : H4.get (H.size + 1) = .cells [.nils] .own := by rw [x4.2 _ (by omega), g1]
      have lt : H.size + 1 < H4.size := Heap.lt_of_get (by rw [q1]; simp)
      simp only [go_sem, zA, zB, zC, reduceIte, zD, zE, zF, zG, zH, zI, reduceCtorEq, zJ, zK, zL, zM, zN, zO, zP, q1, hv.one]
      refine ⟨(y3.trans (x4.le (by omega))).trans (Ext.set (by omega)), ?_, ?_, .inl ⟨l, v, hl, Heap.get_set_self lt, ?_⟩⟩
      · rw [Heap.get_set_ne (by omega), x4.2 _ (by omega), g0]
      · rw [Heap.get_set_ne (by omega), x4.2 _ (by omega), g2]
      · rw [sz3] at hv; exact hv.set (by omega)
    · simp only [go_sem, zA, zB, zC, reduceIte, zD, zE, zF, zG, zH, zI, reduceCtorEq, zJ, zK, zL, zM, zN, zO, zP]
      exact ⟨y3.trans (x4.le (by omega)), by rw [x4.2 _ (by omega), g0], by rw [x4.2 _ (by omega), g2], .inr ⟨k, hk, rfl, by rw [x4.2 _ (by omega), g1]⟩⟩
  -- behind it
  have fin : ∀ (H5 : Heap) (lv : AV) (c : List AV), Ext H.size H H5 → H.size + 3 ≤ H5.size → H5.get H.size = .cells [.str s] .own → H5.get (H.size + 1) = .cells [lv] .own → fcells (wordsL s.length s 0) = c → (∀ l, wordsL s.length s 0 = .ok l → Sl (H.size + 2) H5 3 (wcells l) l.length lv) → ∀ t,
      wpc ⟨bt.get, o⟩ (seqR (seqR (seqR (seqR bd_word_All)))) { p := [(0, .str s), (1, .ptr H.size 0), (2, .nils), (3, .int .i64 0), (4, .int .i64 0), (11, .bool false), (5, .ptr (H.size + 1) 0), (6, .ptr H5.size 0)], t := t, H := H5.push (.cells c .own), d := [], u := .norm } (finK ⟨bt.get, o⟩ [.slot 2, .slot 3, .slot 4] Q) := by
    intro H5 lv c k1 k2 k3 k4 k5 k6 t
    subst k5
    refine w_All_key ho hs hG (k1.trans (Ext.push (Nat.le_trans (by omega) k2))) (by rw [Heap.get_push_lt (by omega), k3]) (by rw [Heap.get_push_lt (by omega), k4]) (by omega) Heap.get_push_self (fun l hl => ⟨(k6 l hl).push, fun s o n e => ?_⟩) hE hP
    rcases k6 l hl with ⟨h1, _⟩ | ⟨ob, h1, h2, h3, _⟩
    · rw [h1] at e; cases e
    · rw [h1] at e; injection e with _ e
      have := Heap.lt_of_get (H := H5) (b := ob) (by rw [h3]; simp)
      omega
  refine w_Caught ho work fun e H' hR => ?_
  obtain ⟨r1, r2, r3, r4⟩ := hR
  rw [sz2]
  refine ⟨r3, ?_⟩
  have szl : H.size + 3 ≤ H'.size := by have := Heap.lt_of_get (H := H') (b := H.size + 2) (by rw [r3]; simp); omega
  have stay : ∀ H'', Fr (H.size + 2) .nils H' H'' → Ext H.size H H'' ∧ H.size + 3 ≤ H''.size ∧ H''.get H.size = .cells [.str s] .own ∧ ∀ x, H'.get (H.size + 1) = x → H''.get (H.size + 1) = x := by
    intro H'' k
    refine ⟨(x2.trans r1).trans ⟨k.1, fun c hc => k.2 c (by omega) (by omega) (fun _ _ _ e => by cases e)⟩, Nat.le_trans szl k.1, ?_, fun x hx => ?_⟩
    · rw [k.2 _ (by omega) (by omega) (fun _ _ _ e => by cases e), r2]
    · rw [k.2 _ (by omega) (by omega) (fun _ _ _ e => by cases e), hx]
  rcases r4 with ⟨l, v, hl, rfl, r5, r6⟩ | ⟨k, hk, rfl, r5⟩
  · refine .inl ⟨_, rfl, fun H'' hk => ?_⟩
    obtain ⟨u1, u2, u3, u4⟩ := stay H'' hk
    simp only [go_sem, zB, zC, reduceIte, zD, zE, zF, zG, zH, zI, reduceCtorEq, zJ, zK, zL, zM, zN, zO, zP]
    refine fin H'' v _ u1 u2 u3 (u4 _ r5) (by rw [hl]; rfl) (fun l' hl' => ?_) _
    rw [hl] at hl'; cases hl'
    exact (r6.frame fun ob h1 h2 h3 => hk.2 ob (Heap.lt_of_get (by rw [h2]; simp)) (by omega) (fun _ _ _ e => by cases e)).frame' (by omega)
  · refine .inr ⟨2, k, rfl, fun H'' hk' => ?_⟩
    obtain ⟨u1, u2, u3, u4⟩ := stay H'' hk'
    simp only [go_sem, zB, zC, reduceIte, zD, zE, zF, zG, zH, zI, reduceCtorEq, zJ, zK, zL, zM, zN, zO, zP]
    refine fin H'' .nils _ u1 u2 u3 (u4 _ r5) (by rw [hk]; rfl) (fun l' hl' => ?_) _
    rw [hk] at hl'; cases hl'
end
end Go.Ev
