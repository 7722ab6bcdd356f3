/- Several texts of this claim, joined. -/
import Derived.Test.YtkpjindnackmdaaGreatDoorT22
import Derived.Test.YtkpjindnackmdaaGreatDoorT21
import Derived.Test.YtkpjindnackmdaaGreatDoorT20

/- Package decode: Close, All. -/
namespace Go.Ev
open Go
open Go.Ev renaming seqK_normal → zA, blockK_normal → zB, blockK_exit → zC
open Nat renaming reduceEqDiff → zD, reduceAdd → zE, reduceSub → zF, reduceMul → zG, reduceLeDiff → zH, reduceLT → zI
open Int renaming reduceToNat → zJ, reduceLT → zK, reduceLE → zL, reduceEq → zM, reduceAdd → zN, reduceSub → zO, reduceMul → zP
set_option linter.unusedSimpArgs false
set_option linter.unusedVariables false
set_option maxRecDepth 8000

theorem ic_one : ∀ l : List It, (icells l).all AV.one = true
  | [] => rfl
  | x :: l => by
    rw [icells, List.flatMap_cons, List.all_append, ← icells, ic_one l]; rfl
theorem closeD_len (held : List UInt8) (at_ : Nat) : (closeD held at_).length ≤ 1 := by
  unfold closeD; split <;> simp

section
variable {o : CallF} (ho : OvOnly o)
include ho

theorem d_Close {b : Nat} {H : Heap} {Q : End → Heap → Prop} {held : List UInt8} {at_ : Nat} (hG : GlH H) (hb3 : 3 ≤ b) (hD : DecS b H held at_ false []) (hat : at_ + held.length ≤ 900000)
    (h : ∀ H' v, Fr b .nils H H' → Sl (b + 1) H' 5 (icells (closeD held at_)) (closeD held at_).length v → Q (.ret v) H') :
    wpf ⟨bt.get, o⟩ F_decode_Dec_Close [.ptr b 0] H Q := by
  rw [fn_decode_Dec_Close (ho _ _ _ (by decide))]
  obtain ⟨hv, ov, hg, hS, hO⟩ := hD
  have hov : ov = .nils := by
    rcases hO with ⟨h1, _⟩ | ⟨_, _, _, _, _, h5⟩
    · exact h1
    · simp at h5
  subst hov
  have hlt : b < H.size := Heap.lt_of_get (by rw [hg]; simp)
  cases held with
  | nil =>
    simp only [bd_decode_Dec_Close, go_sem, zA, zB, zC, reduceIte, zD, zE, zF, zG, zH, zI, reduceCtorEq, zJ, zK, zL, zM, zN, zO, zP, hg, Heap.get_set_self hlt, hS.lenI, List.length_nil]
    refine d_taken ho (Heap.get_set_self hlt) ?_
    simp only [go_sem, zA, zB, zC, reduceIte, zD, zE, zF, zG, zH, zI, reduceCtorEq, zJ, zK, zL, zM, zN, zO, zP]
    refine h _ _ ⟨Nat.le_refl _, fun c h1 h2 h3 => Heap.get_set_ne h2⟩ Sl.nil
  | cons a held =>
    have hlp : (0 : Int) < ((held.length + 1 : Nat) : Int) := by omega
    simp only [bd_decode_Dec_Close, go_sem, zA, zB, zC, reduceIte, zD, zE, zF, zG, zH, zI, reduceCtorEq, zJ, zK, zL, zM, zN, zO, zP, hg, Heap.get_set_self hlt, hS.lenI, hlp]
    refine d_tell ho (hb := 0) (held := a :: held) (out := []) (at_ := at_) (cl := true) (ov := .nils) (hv := hv) (hG.ext hb3 (Ext.set (Nat.le_refl _))) hb3 (Heap.get_set_self hlt) hS.lenI (by omega) Sl.nil (by simp) (fun h => by cases h) fun H' ov' k1 k2 k3 => ?_
    simp only [go_sem, zA, zB, zC, reduceIte, zD, zE, zF, zG, zH, zI, reduceCtorEq, zJ, zK, zL, zM, zN, zO, zP]
    refine d_taken ho k2 ?_
    simp only [go_sem, zA, zB, zC, reduceIte, zD, zE, zF, zG, zH, zI, reduceCtorEq, zJ, zK, zL, zM, zN, zO, zP]
    refine h _ _ ⟨by rw [Heap.size_set]; have := k1.1; rw [Heap.size_set] at this; exact this, fun c h1 h2 h3 => ?_⟩ (k3.set (by omega))
    rw [Heap.get_set_ne h2, k1.2 c (by rw [Heap.size_set]; exact h1) h2 h3, Heap.get_set_ne h2]

theorem d_All {s : List UInt8} (hs : s.length ≤ 300000) {sb : Nat} {H : Heap} {Q : End → Heap → Prop} (hG : GlH H) (hg : H.get sb = .cells (byteCells s) .own)
    (h : ∀ H' v, Ext H.size H H' → Sl H.size H' 5 (icells (decAll s)) (decAll s).length v → (decAll s).length ≤ 2 * s.length + 1 → Q (.ret v) H') :
    wpf ⟨bt.get, o⟩ F_decode_All [.osl 1 sb 0 s.length] H Q := by
  rw [fn_decode_All (ho _ _ _ (by decide))]
  simp only [bd_decode_All, go_sem, zA, zB, zC, reduceIte, zD, zE, zF, zG, zH, zI, reduceCtorEq, zJ, zK, zL, zM, zN, zO, zP]
  rw [fn_decode_New (ho _ _ _ (by decide))]
  simp only [bd_decode_New, go_sem, zA, zB, zC, reduceIte, zD, zE, zF, zG, zH, zI, reduceCtorEq, zJ, zK, zL, zM, zN, zO, zP]
  have hlt : sb < H.size := Heap.lt_of_get (by rw [hg]; simp)
  refine d_Feed ho hs hG.1 hlt (hG.ext hG.1 (Ext.push (Nat.le_refl _))) (by rw [Heap.get_push_lt hlt, hg]) ⟨.nils, .nils, Heap.get_push_self, Sl.nil, Sl.nil⟩ fun H1 v hx hD hS hp1 hp2 hp3 => ?_
  simp only [go_sem, zA, zB, zC, reduceIte, zD, zE, zF, zG, zH, zI, reduceCtorEq, zJ, zK, zL, zM, zN, zO, zP]
  have x1 : Ext H.size H H1 := (Ext.push (Nat.le_refl _)).trans hx
  refine d_Close ho (hG.ext hG.1 x1) hG.1 hD (by omega) fun H2 v2 hf hS2 => ?_
  have l1 := closeD_len (feedD s [] 0).1 (feedD s [] 0).2.1
  have x2 : Ext H.size H1 H2 := ⟨hf.1, fun c hc => hf.2 c (Nat.lt_of_lt_of_le hc x1.1) (by omega) (fun _ _ _ e => by cases e)⟩
  have hS' : Sl (H.size + 1) H2 5 (icells (feedD s [] 0).2.2) (feedD s [] 0).2.2.length v := hS.frame fun ob h1 h2 h3 => hf.2 ob (Heap.lt_of_get (by rw [h2]; simp)) (by omega) (fun _ _ _ e => by cases e)
  have hlen : (decAll s).length = (feedD s [] 0).2.2.length + (closeD (feedD s [] 0).1 (feedD s [] 0).2.1).length := by rw [decAll, List.length_append]
  rcases hS2 with ⟨rfl, h0, _⟩ | ⟨cb, rfl, hcb, hgc, hlc, hpc⟩
  · have e0 : closeD (feedD s [] 0).1 (feedD s [] 0).2.1 = [] := List.eq_nil_of_length_eq_zero h0
    have ea : appendA H2 5 32 v 0 [] = some (v, H2) := by
      rcases hS'.form with rfl | ⟨_, _, _, _, rfl⟩ <;> rfl
    simp only [go_sem, zA, zB, zC, reduceIte, zD, zE, zF, zG, zH, zI, reduceCtorEq, zJ, zK, zL, zM, zN, zO, zP, ea]
    refine h _ _ (x1.trans x2) ?_ (by omega)
    rw [decAll, e0, List.append_nil]
    exact hS'.frame' (Nat.le_succ _)
  · have e1 : List.take ((closeD (feedD s [] 0).1 (feedD s [] 0).2.1).length * 5) (icells (closeD (feedD s [] 0).1 (feedD s [] 0).2.1)) = icells (closeD (feedD s [] 0).1 (feedD s [] 0).2.1) := List.take_of_length_le (by rw [icells_len]; exact Nat.le_refl _)
    have e2 : ¬ (closeD (feedD s [] 0).1 (feedD s [] 0).2.1).length = 0 := by omega
    obtain ⟨b3, H3, ea, hx3, hsl⟩ := append_spec (bytes := 32) (ys := icells (closeD (feedD s [] 0).1 (feedD s [] 0).2.1)) (k := (closeD (feedD s [] 0).1 (feedD s [] 0).2.1).length) hS' (by have := Heap.lt_of_get (H := H2) (b := cb) (by rw [hgc]; simp); omega) hpc hlc (by omega) (by omega)
    simp only [go_sem, zA, zB, zC, reduceIte, zD, zE, zF, zG, zH, zI, reduceCtorEq, zJ, zK, zL, zM, zN, zO, zP, hgc, e2, icells_len, Nat.le_refl, e1, ic_one, ea]
    refine h _ _ ((x1.trans x2).trans (hx3.le (by omega))) ?_ (by omega)
    rw [hlen, decAll, icells_app]
    exact hsl.frame' (Nat.le_succ _)
end
end Go.Ev

/- What word.All comes to. -/
namespace Go.Ev
open Go
open Go.Ev renaming seqK_normal → zA, blockK_normal → zB, blockK_exit → zC
open Nat renaming reduceEqDiff → zD, reduceAdd → zE, reduceSub → zF, reduceMul → zG, reduceLeDiff → zH, reduceLT → zI
open Int renaming reduceToNat → zJ, reduceLT → zK, reduceLE → zL, reduceEq → zM, reduceAdd → zN, reduceSub → zO, reduceMul → zP
set_option linter.unusedSimpArgs false
set_option linter.unusedVariables false
set_option maxRecDepth 8000

/-- A bad rune ahead of the fault. -/
def badAt (f : Except Nat (List W)) (x : It) : Bool := x.bad && (match f with
  | .ok _ => true
  | .error k => decide (x.frm < k))
/-- The words of a text, or where it is wrong. -/
def allW (s : List UInt8) : Except Nat (List W) := match (decAll s).find? (badAt (wordsL s.length s 0)) with
  | some x => .error x.frm
  | none => wordsL s.length s 0

theorem icells_at : ∀ {l : List It} {i : Nat} {x : It}, l[i]? = some x → List.take 5 (List.drop (i * 5) (icells l)) = x.cells ∧ i * 5 + 5 ≤ (icells l).length
  | y :: l, 0, x, h => by
    simp only [List.getElem?_cons_zero, Option.some.injEq] at h; subst h
    constructor
    · rfl
    · rw [icells_len, List.length_cons]; omega
  | y :: l, i + 1, x, h => by
    have := icells_at (l := l) (i := i) (x := x) (by simpa using h)
    constructor
    · rw [icells, List.flatMap_cons, ← icells, show (i + 1) * 5 = 5 + i * 5 by omega, ← List.drop_drop]
      exact this.1
    · rw [icells_len, List.length_cons]; have h2 := this.2; rw [icells_len] at h2; omega

def fcells : Except Nat (List W) → List AV
  | .ok _ => [.int .i64 0, .int .i64 0]
  | .error k => [.int .i64 2, .int .i64 k]

section
variable {o : CallF} (ho : OvOnly o)
include ho

omit ho in
theorem w_All_loop {all : List It} {f : Except Nat (List W)} {n6 ib : Nat} {p5 : AV} (hl : all.length ≤ 1000000) (hne : ib ≠ n6) {Q : Ctl → St → Prop} : ∀ (r : List It) (i : Nat) (H : Heap), all.drop i = r → i ≤ all.length → H.get n6 = .cells (fcells f) .own → H.get ib = .cells (icells all) .own →
    (∀ x, r.find? (badAt f) = some x → ∀ σ : St, Fr n6 .nils H σ.H → σ.H.get n6 = .cells [.int .i64 2, .int .i64 x.frm] .own → σ.d = [] → lk 5 σ.p = some p5 → lk 6 σ.p = some (.ptr n6 0) → Q (.exit 0) σ) →
    (r.find? (badAt f) = none → ∀ σ : St, Fr n6 .nils H σ.H → σ.H.get n6 = .cells (fcells f) .own → σ.d = [] → lk 5 σ.p = some p5 → lk 6 σ.p = some (.ptr n6 0) → Q (.exit 0) σ) →
    wpl ⟨bt.get, o⟩ [5, 6, 16, 17, 18] lb_word_All_0 { p := [(5, p5), (6, .ptr n6 0), (16, .osl 5 ib 0 all.length), (17, .int .i64 all.length), (18, .int .i64 i)], t := [], H := H, d := [], u := .norm } Q
  | [], i, H, hr, hi, hg, hgi, hx, hn => by
    have : all.length ≤ i := List.drop_eq_nil_iff.1 hr
    rw [wpl_step]
    have h1 : ¬((i : Int) < (all.length : Int)) := by omega
    simp only [lb_word_All_0, go_sem, zA, zB, zC, reduceIte, zD, zE, zF, zG, zH, zI, reduceCtorEq, zJ, zK, zL, zM, zN, zO, zP, h1]
    exact hn rfl _ ⟨Nat.le_refl _, fun _ _ _ _ => rfl⟩ hg rfl rfl rfl
  | x :: r, i, H, hr, hi, hg, hgi, hx, hn => by
    have h0 : all[i]? = some x := by
      have := congrArg (fun l => l[0]?) hr
      simpa using this
    have h1 : i < all.length := (List.getElem?_eq_some_iff.1 h0).1
    have h2 : all.drop (i + 1) = r := by rw [← List.drop_drop, hr]; rfl
    have hlt : n6 < H.size := Heap.lt_of_get (by rw [hg]; simp)
    have hlti : ib < H.size := Heap.lt_of_get (by rw [hgi]; simp)
    rw [wpl_step]
    have h1' : ((i : Int) < (all.length : Int)) := by omega
    obtain ⟨c1, c2⟩ := icells_at h0
    have fin : badAt f x = false → wpl ⟨bt.get, o⟩ [5, 6, 16, 17, 18] lb_word_All_0 { p := [(5, p5), (6, .ptr n6 0), (16, .osl 5 ib 0 all.length), (17, .int .i64 all.length), (18, .int .i64 ((i + 1 : Nat) : Int))], t := [], H := H.push (.cells x.cells .own), d := [], u := .norm } Q := by
      intro hb
      have ef : Ext H.size H (H.push (.cells x.cells .own)) := Ext.push (Nat.le_refl _)
      refine w_All_loop hl hne r (i + 1) _ h2 (by omega) (by rw [Heap.get_push_lt hlt, hg]) (by rw [Heap.get_push_lt hlti, hgi]) (fun y hy σ k1 k2 => hx y (by rw [List.find?_cons, hb]; exact hy) σ (Fr.pre ef k1) k2) (fun hy σ k1 k2 => hn (by rw [List.find?_cons, hb]; exact hy) σ (Fr.pre ef k1) k2)
    have found : badAt f x = true → ∀ p t, lk 5 p = some p5 → lk 6 p = some (.ptr n6 0) → Q (.exit 0) { p := p, t := t, H := (H.set n6 (.cells [.int .i64 2, .int .i64 x.frm] .own)).push (.cells x.cells .own), d := [], u := .norm } := by
      intro hb p t e5 e6
      refine hx x (by rw [List.find?_cons, hb]) _ ⟨by simp only [Heap.size_push, Heap.size_set]; omega, fun c k1 k2 k3 => ?_⟩ ?_ rfl e5 e6
      · rw [Heap.get_push_lt (by rw [Heap.size_set]; exact k1), Heap.get_set_ne k2]
      · rw [Heap.get_push_lt (by rw [Heap.size_set]; exact hlt), Heap.get_set_self hlt]
    simp only [lb_word_All_0, go_sem, zA, zB, zC, reduceIte, zD, zE, zF, zG, zH, zI, reduceCtorEq, zJ, zK, zL, zM, zN, zO, zP, h1', hgi, c1, c2, It.cells]
    cases hb : x.bad
    · simp only [go_sem, zA, zB, zC, reduceIte, zD, zE, zF, zG, zH, zI, reduceCtorEq, zJ, zK, zL, zM, zN, zO, zP, wsucc (show i ≤ 1000000000 by omega)]
      have := fin (by simp [badAt, hb])
      rw [It.cells, hb] at this
      exact this
    · cases f with
      | ok l =>
        simp only [fcells] at hg
        simp only [go_sem, zA, zB, zC, reduceIte, zD, zE, zF, zG, zH, zI, reduceCtorEq, zJ, zK, zL, zM, zN, zO, zP, Heap.get_push_lt hlt, hg, Heap.push_set_lt hlt]
        have := found (by simp [badAt, hb])
        rw [It.cells, hb] at this
        exact this _ _ rfl rfl
      | error k =>
        simp only [fcells] at hg
        simp only [go_sem, zA, zB, zC, reduceIte, zD, zE, zF, zG, zH, zI, reduceCtorEq, zJ, zK, zL, zM, zN, zO, zP, Heap.get_push_lt hlt, hg]
        by_cases hk : x.frm < k
        · have hk' : (x.frm : Int) < (k : Int) := by omega
          simp only [go_sem, zA, zB, zC, reduceIte, zD, zE, zF, zG, zH, zI, reduceCtorEq, zJ, zK, zL, zM, zN, zO, zP, hk', Heap.get_push_lt hlt, hg, Heap.push_set_lt hlt]
          have := found (by simp [badAt, hb, hk])
          rw [It.cells, hb] at this
          exact this _ _ rfl rfl
        · have hk' : ¬ (x.frm : Int) < (k : Int) := by omega
          simp only [go_sem, zA, zB, zC, reduceIte, zD, zE, zF, zG, zH, zI, reduceCtorEq, zJ, zK, zL, zM, zN, zO, zP, hk', wsucc (show i ≤ 1000000000 by omega)]
          have := fin (by simp [badAt, hb, hk])
          rw [It.cells, hb] at this
          exact this

theorem w_All_key {s : List UInt8} (hs : s.length ≤ 4000) {H : Heap} {Q : End → Heap → Prop} (hG : GlH H) {H5 : Heap} {n6 : Nat} {lv : AV} {t : List (Nat × AV)} (e5 : Ext H.size H H5) (g0 : H5.get H.size = .cells [.str s] .own) (g1 : H5.get (H.size + 1) = .cells [lv] .own) (h6 : H.size + 1 < n6) (g6 : H5.get n6 = .cells (fcells (wordsL s.length s 0)) .own)
    (hlv : ∀ l, wordsL s.length s 0 = .ok l → Sl (H.size + 2) H5 3 (wcells l) l.length lv ∧ ∀ s o n, lv ≠ .osl s n6 o n)
    (hE : ∀ l, allW s = .ok l → ∀ H' v, Ext H.size H H' → Sl H.size H' 3 (wcells l) l.length v → Q (.ret (.tup [v, .int .i64 0, .int .i64 0])) H')
    (hP : ∀ k, allW s = .error k → ∀ H', Ext H.size H H' → Q (.ret (.tup [.nils, .int .i64 2, .int .i64 k])) H') :
    wpc ⟨bt.get, o⟩ (seqR (seqR (seqR (seqR bd_word_All)))) { p := [(0, .str s), (1, .ptr H.size 0), (2, .nils), (3, .int .i64 0), (4, .int .i64 0), (11, .bool false), (5, .ptr (H.size + 1) 0), (6, .ptr n6 0)], t := t, H := H5, d := [], u := .norm } (finK ⟨bt.get, o⟩ [.slot 2, .slot 3, .slot 4] Q) := by
  have l6 : n6 < H5.size := Heap.lt_of_get (by rw [g6]; simp)
  have hsl : s.length ≤ 1099511627776 := by omega
  simp only [bd_word_All, seqR, go_sem, zA, zB, zC, reduceIte, zD, zE, zF, zG, zH, zI, reduceCtorEq, zJ, zK, zL, zM, zN, zO, zP, g0, hsl]
  refine d_All ho (by omega) (hG.ext hG.1 (e5.trans (Ext.push (by omega)))) Heap.get_push_self fun H7 iv x7 hiv hil => ?_
  have y7 : Ext H5.size H5 H7 := (Ext.push (Nat.le_refl _)).trans (x7.le (by rw [Heap.size_push]; omega))
  have q6 : H7.get n6 = .cells (fcells (wordsL s.length s 0)) .own := by rw [y7.2 n6 l6, g6]
  -- what is done behind the loop
  have endOk : ∀ l, wordsL s.length s 0 = .ok l → (decAll s).find? (badAt (wordsL s.length s 0)) = none → ∀ σ : St, Fr n6 .nils H7 σ.H → σ.H.get n6 = .cells [.int .i64 0, .int .i64 0] .own → σ.d = [] → lk 5 σ.p = some (.ptr (H.size + 1) 0) → lk 6 σ.p = some (.ptr n6 0) →
      blockK 0 [5, 6] (seqK ⟨bt.get, o⟩ (seqR (seqR (seqR (seqR (seqR bd_word_All))))) (finK ⟨bt.get, o⟩ [.slot 2, .slot 3, .slot 4] Q)) (.exit 0) σ := by
    intro l hl hf σ k1 k2 k3 k4 k5
    have ha : allW s = .ok l := by rw [allW, hf]; exact hl
    obtain ⟨hS, hne⟩ := hlv l hl
    have r1 : σ.H.get (H.size + 1) = .cells [lv] .own := by
      rw [k1.2 _ (by have := y7.1; omega) (by omega) (fun _ _ _ e => by cases e), y7.2 _ (by omega), g1]
    simp only [bd_word_All, seqR, go_sem, zA, zB, zC, reduceIte, zD, zE, zF, zG, zH, zI, reduceCtorEq, zJ, zK, zL, zM, zN, zO, zP, k2, k3, k4, k5, r1]
    refine hE l ha _ _ ?_ ?_
    · exact (e5.trans (y7.le (by omega))).trans ⟨k1.1, fun c hc => k1.2 c (by have := y7.1; omega) (by omega) (fun _ _ _ e => by cases e)⟩
    · refine ((hS.ext y7).frame' (by omega)).frame fun ob h1 h2 h3 => k1.2 ob (Heap.lt_of_get (by rw [h2]; simp)) (fun e => hne 3 0 l.length (by rw [h3, e])) (fun _ _ _ e => by cases e)
  have endBad : ∀ k, allW s = .error k → ∀ σ : St, Fr n6 .nils H7 σ.H → σ.H.get n6 = .cells [.int .i64 2, .int .i64 k] .own → σ.d = [] → lk 5 σ.p = some (.ptr (H.size + 1) 0) → lk 6 σ.p = some (.ptr n6 0) →
      blockK 0 [5, 6] (seqK ⟨bt.get, o⟩ (seqR (seqR (seqR (seqR (seqR bd_word_All))))) (finK ⟨bt.get, o⟩ [.slot 2, .slot 3, .slot 4] Q)) (.exit 0) σ := by
    intro k ha σ k1 k2 k3 k4 k5
    simp only [bd_word_All, seqR, go_sem, zA, zB, zC, reduceIte, zD, zE, zF, zG, zH, zI, reduceCtorEq, zJ, zK, zL, zM, zN, zO, zP, k2, k3, k4, k5]
    refine hP k ha _ ?_
    exact (e5.trans (y7.le (by omega))).trans ⟨k1.1, fun c hc => k1.2 c (by have := y7.1; omega) (by omega) (fun _ _ _ e => by cases e)⟩
  have step : ∀ σ : St, Fr n6 .nils H7 σ.H → σ.H.get n6 = .cells (fcells (wordsL s.length s 0)) .own → (decAll s).find? (badAt (wordsL s.length s 0)) = none → σ.d = [] → lk 5 σ.p = some (.ptr (H.size + 1) 0) → lk 6 σ.p = some (.ptr n6 0) →
      blockK 0 [5, 6] (seqK ⟨bt.get, o⟩ (seqR (seqR (seqR (seqR (seqR bd_word_All))))) (finK ⟨bt.get, o⟩ [.slot 2, .slot 3, .slot 4] Q)) (.exit 0) σ := by
    intro σ k1 k2 hf k3 k4 k5
    cases hw : wordsL s.length s 0 with
    | ok l => exact endOk l hw hf σ k1 (by rw [k2, hw]; rfl) k3 k4 k5
    | error k => exact endBad k (by rw [allW, hf]; exact hw) σ k1 (by rw [k2, hw]; rfl) k3 k4 k5
  rcases hiv with ⟨rfl, h0, _⟩ | ⟨ib, rfl, hib, hgi, hli, hpi⟩
  · have e0 : decAll s = [] := List.eq_nil_of_length_eq_zero h0
    simp only [go_sem, zA, zB, zC, reduceIte, zD, zE, zF, zG, zH, zI, reduceCtorEq, zJ, zK, zL, zM, zN, zO, zP]
    rw [wpl_step]
    simp only [lb_word_All_0, go_sem, zA, reduceIte, zD, zE, zF, zG, zH, zI, reduceCtorEq, zJ, zK, zL, zM, zN, zO, zP]
    refine step _ ?_ ?_ ?_ ?_ ?_ ?_
    · exact ⟨Nat.le_refl _, fun _ _ _ _ => rfl⟩
    · exact q6
    · rw [e0]; rfl
    · rfl
    · rfl
    · rfl
  · simp only [go_sem, zA, zB, zC, reduceIte, zD, zE, zF, zG, zH, zI, reduceCtorEq, zJ, zK, zL, zM, zN, zO, zP]
    refine w_All_loop (f := wordsL s.length s 0) (p5 := .ptr (H.size + 1) 0) (by omega) (by rw [Heap.size_push] at hib; omega) (decAll s) 0 H7 rfl (Nat.zero_le _) q6 hgi (fun x hx σ k1 k2 k3 k4 k5 => ?_) (fun hx σ k1 k2 k3 k4 k5 => step σ k1 k2 hx k3 k4 k5)
    exact endBad x.frm (by rw [allW, hx]) σ k1 k2 k3 k4 k5

theorem w_Caught {f : FuncId} {cap : List AV} {H : Heap} {Q R : End → Heap → Prop} (h : wpf ⟨bt.get, o⟩ f cap (H.push (.cells [.int .i64 0, .int .i64 0] .own)) R)
    (hr : ∀ e H', R e H' → H'.get H.size = .cells [.int .i64 0, .int .i64 0] .own ∧ ((∃ v, e = .ret v ∧ ∀ H'', Fr H.size .nils H' H'' → Q (.ret (.agg [.int .i64 0, .int .i64 0])) H'') ∨ ∃ c k, e = .pan [(faultA c k, false)] ∧ ∀ H'', Fr H.size .nils H' H'' → Q (.ret (.agg [.int .i64 c, .int .i64 k])) H'')) : wpf ⟨bt.get, o⟩ F_word_Caught [.fn f cap] H Q := by
  rw [fn_word_Caught (ho _ _ _ (by decide))]
  simp only [bd_word_Caught, go_sem, zA, zB, zC, reduceIte, zD, zE, zF, zG, zH, zI, reduceCtorEq, zJ, zK, zL, zM, zN, zO, zP]
  refine wpf_mono h fun e H' hR => ?_
  obtain ⟨g, hc⟩ := hr e H' hR
  have lt : H.size < H'.size := Heap.lt_of_get (by rw [g]; simp)
  rcases hc with ⟨v, rfl, hq⟩ | ⟨c, k, rfl, hq⟩
  · simp only [go_sem, zA, zB, zC, reduceIte, zD, zE, zF, zG, zH, zI, reduceCtorEq, zJ, zK, zL, zM, zN, zO, zP, g]
    rw [dfn_word_Caught_1]
    simp only [bd_word_Caught_1, go_sem, zA, zB, zC, reduceIte, zD, zE, zF, zG, zH, zI, reduceCtorEq, zJ, zK, zL, zM, zN, zO, zP, Heap.get_set_self lt]
    exact hq _ ⟨Nat.le_refl _, fun c _ h2 _ => Heap.get_set_ne h2⟩
  · simp only [go_sem, zA, zB, zC, reduceIte, zD, zE, zF, zG, zH, zI, reduceCtorEq, zJ, zK, zL, zM, zN, zO, zP]
    rw [dfn_word_Caught_1]
    have lt2 : ∀ x, H.size < (H'.push x).size := fun x => by rw [Heap.size_push]; omega
    simp only [bd_word_Caught_1, go_sem, zA, zB, zC, reduceIte, zD, zE, zF, zG, zH, zI, reduceCtorEq, zJ, zK, zL, zM, zN, zO, zP, Heap.get_push_lt lt, g, Heap.push_set_lt lt, Heap.get_set_self lt]
    have e1 : ((H'.set H.size (.cells [.int .i64 c, .int .i64 k] .own)).push (.cells [.int .i64 c, .int .i64 k] .own)).get H.size = .cells [.int .i64 c, .int .i64 k] .own := by
      rw [Heap.get_push_lt (by rw [Heap.size_set]; exact lt), Heap.get_set_self lt]
    simp only [go_sem, zA, zB, zC, reduceIte, zD, zE, zF, zG, zH, zI, reduceCtorEq, zJ, zK, zL, zM, zN, zO, zP, e1]
    exact hq _ ⟨by simp only [Heap.size_push, Heap.size_set]; omega, fun c h1 h2 _ => by rw [Heap.get_push_lt (by rw [Heap.size_set]; exact h1), Heap.get_set_ne h2]⟩

theorem w_All {s : List UInt8} (hs : s.length ≤ 4000) {H : Heap} {Q : End → Heap → Prop} (hG : GlH H)
    (hE : ∀ l, allW s = .ok l → ∀ H' v, Ext H.size H H' → Sl H.size H' 3 (wcells l) l.length v → Q (.ret (.tup [v, .int .i64 0, .int .i64 0])) H')
    (hP : ∀ k, allW s = .error k → ∀ H', Ext H.size H H' → Q (.ret (.tup [.nils, .int .i64 2, .int .i64 k])) H') : wpf ⟨bt.get, o⟩ F_word_All [.str s] H Q := by
  rw [fn_word_All (ho _ _ _ (by decide))]
  have h4 : ¬ ((4000 : Int) < (s.length : Int)) := by omega
  simp only [bd_word_All, go_sem, zA, zB, zC, reduceIte, zD, zE, zF, zG, zH, zI, reduceCtorEq, zJ, zK, zL, zM, zN, zO, zP, h4]
  generalize hH2 : (H.push (Blk.cells [AV.str s] Use.own)).push (Blk.cells [AV.nils] Use.own) = H2
  have sz2 : H2.size = H.size + 2 := by rw [← hH2]; rfl
  have f0 : H2.get H.size = .cells [.str s] .own := by rw [← hH2]; simp [Heap.get_push, Heap.size_push]
  have f1 : H2.get (H.size + 1) = .cells [.nils] .own := by rw [← hH2]; simp [Heap.get_push, Heap.size_push]
  have x2 : Ext H.size H H2 := by rw [← hH2]; exact (Ext.push (Nat.le_refl _)).trans (Ext.push (by rw [Heap.size_push]; omega))
  -- the work's call
  have work : wpf ⟨bt.get, o⟩ F_word_All_1 [.ptr H.size 0, .ptr (H.size + 1) 0] (H2.push (.cells [.int .i64 0, .int .i64 0] .own)) fun e H' => Ext H.size H2 H' ∧ H'.get H.size = .cells [.str s] .own ∧ H'.get (H.size + 2) = .cells [.int .i64 0, .int .i64 0] .own ∧
      ((∃ l v, wordsL s.length s 0 = .ok l ∧ e = .ret (.tup []) ∧ H'.get (H.size + 1) = .cells [v] .own ∧ Sl (H.size + 3) H' 3 (wcells l) l.length v) ∨ ∃ k : Nat, wordsL s.length s 0 = .error k ∧ e = .pan [(faultA 2 k, false)] ∧ H'.get (H.size + 1) = .cells [.nils] .own) := by
    rw [fn_word_All_1 (ho _ _ _ (by decide))]
    have g0 : (H2.push (.cells [.int .i64 0, .int .i64 0] .own)).get H.size = .cells [.str s] .own := by rw [Heap.get_push_lt (by omega), f0]
    have g1 : (H2.push (.cells [.int .i64 0, .int .i64 0] .own)).get (H.size + 1) = .cells [.nils] .own := by rw [Heap.get_push_lt (by omega), f1]
    have g2 : (H2.push (.cells [.int .i64 0, .int .i64 0] .own)).get (H.size + 2) = .cells [.int .i64 0, .int .i64 0] .own := by rw [Heap.get_push_eq sz2.symm]
    have sz3 : (H2.push (.cells [.int .i64 0, .int .i64 0] .own)).size = H.size + 3 := by rw [Heap.size_push, sz2]
    have y3 : Ext H.size H2 (H2.push (.cells [.int .i64 0, .int .i64 0] .own)) := Ext.push (by omega)
    generalize H2.push (.cells [.int .i64 0, .int .i64 0] .own) = H3 at g0 g1 g2 sz3 y3 ⊢
    simp only [bd_word_All_1, go_sem, zA, zB, zC, reduceIte, zD, zE, zF, zG, zH, zI, reduceCtorEq, zJ, zK, zL, zM, zN, zO, zP, g0]
    refine w_words ho (by omega) (n0 := H3.size) (Nat.le_refl _) (fun l hl H4 v x4 hv => ?_) (fun k hk H4 x4 => ?_)
    · have q1 : H4.get (H.size + 1) = .cells [.nils] .own := by rw [x4.2 _ (by omega), g1]
      have lt : H.size + 1 < H4.size := Heap.lt_of_get (by rw [q1]; simp)
      simp only [go_sem, zA, zB, zC, reduceIte, zD, zE, zF, zG, zH, zI, reduceCtorEq, zJ, zK, zL, zM, zN, zO, zP, q1, hv.one]
      refine ⟨(y3.trans (x4.le (by omega))).trans (Ext.set (by omega)), ?_, ?_, .inl ⟨l, v, hl, Heap.get_set_self lt, ?_⟩⟩
      · rw [Heap.get_set_ne (by omega), x4.2 _ (by omega), g0]
      · rw [Heap.get_set_ne (by omega), x4.2 _ (by omega), g2]
      · rw [sz3] at hv; exact hv.set (by omega)
    · simp only [go_sem, zA, zB, zC, reduceIte, zD, zE, zF, zG, zH, zI, reduceCtorEq, zJ, zK, zL, zM, zN, zO, zP]
      exact ⟨y3.trans (x4.le (by omega)), by rw [x4.2 _ (by omega), g0], by rw [x4.2 _ (by omega), g2], .inr ⟨k, hk, rfl, by rw [x4.2 _ (by omega), g1]⟩⟩
  -- behind it
  have fin : ∀ (H5 : Heap) (lv : AV) (c : List AV), Ext H.size H H5 → H.size + 3 ≤ H5.size → H5.get H.size = .cells [.str s] .own → H5.get (H.size + 1) = .cells [lv] .own → fcells (wordsL s.length s 0) = c → (∀ l, wordsL s.length s 0 = .ok l → Sl (H.size + 2) H5 3 (wcells l) l.length lv) → ∀ t,
      wpc ⟨bt.get, o⟩ (seqR (seqR (seqR (seqR bd_word_All)))) { p := [(0, .str s), (1, .ptr H.size 0), (2, .nils), (3, .int .i64 0), (4, .int .i64 0), (11, .bool false), (5, .ptr (H.size + 1) 0), (6, .ptr H5.size 0)], t := t, H := H5.push (.cells c .own), d := [], u := .norm } (finK ⟨bt.get, o⟩ [.slot 2, .slot 3, .slot 4] Q) := by
    intro H5 lv c k1 k2 k3 k4 k5 k6 t
    subst k5
    refine w_All_key ho hs hG (k1.trans (Ext.push (Nat.le_trans (by omega) k2))) (by rw [Heap.get_push_lt (by omega), k3]) (by rw [Heap.get_push_lt (by omega), k4]) (by omega) Heap.get_push_self (fun l hl => ⟨(k6 l hl).push, fun s o n e => ?_⟩) hE hP
    rcases k6 l hl with ⟨h1, _⟩ | ⟨ob, h1, h2, h3, _⟩
    · rw [h1] at e; cases e
    · rw [h1] at e; injection e with _ e
      have := Heap.lt_of_get (H := H5) (b := ob) (by rw [h3]; simp)
      omega
  refine w_Caught ho work fun e H' hR => ?_
  obtain ⟨r1, r2, r3, r4⟩ := hR
  rw [sz2]
  refine ⟨r3, ?_⟩
  have szl : H.size + 3 ≤ H'.size := by have := Heap.lt_of_get (H := H') (b := H.size + 2) (by rw [r3]; simp); omega
  have stay : ∀ H'', Fr (H.size + 2) .nils H' H'' → Ext H.size H H'' ∧ H.size + 3 ≤ H''.size ∧ H''.get H.size = .cells [.str s] .own ∧ ∀ x, H'.get (H.size + 1) = x → H''.get (H.size + 1) = x := by
    intro H'' k
    refine ⟨(x2.trans r1).trans ⟨k.1, fun c hc => k.2 c (by omega) (by omega) (fun _ _ _ e => by cases e)⟩, Nat.le_trans szl k.1, ?_, fun x hx => ?_⟩
    · rw [k.2 _ (by omega) (by omega) (fun _ _ _ e => by cases e), r2]
    · rw [k.2 _ (by omega) (by omega) (fun _ _ _ e => by cases e), hx]
  rcases r4 with ⟨l, v, hl, rfl, r5, r6⟩ | ⟨k, hk, rfl, r5⟩
  · refine .inl ⟨_, rfl, fun H'' hk => ?_⟩
    obtain ⟨u1, u2, u3, u4⟩ := stay H'' hk
    simp only [go_sem, zB, zC, reduceIte, zD, zE, zF, zG, zH, zI, reduceCtorEq, zJ, zK, zL, zM, zN, zO, zP]
    refine fin H'' v _ u1 u2 u3 (u4 _ r5) (by rw [hl]; rfl) (fun l' hl' => ?_) _
    rw [hl] at hl'; cases hl'
    exact (r6.frame fun ob h1 h2 h3 => hk.2 ob (Heap.lt_of_get (by rw [h2]; simp)) (by omega) (fun _ _ _ e => by cases e)).frame' (by omega)
  · refine .inr ⟨2, k, rfl, fun H'' hk' => ?_⟩
    obtain ⟨u1, u2, u3, u4⟩ := stay H'' hk'
    simp only [go_sem, zB, zC, reduceIte, zD, zE, zF, zG, zH, zI, reduceCtorEq, zJ, zK, zL, zM, zN, zO, zP]
    refine fin H'' .nils _ u1 u2 u3 (u4 _ r5) (by rw [hk]; rfl) (fun l' hl' => ?_) _
    rw [hk] at hl'; cases hl'
end
end Go.Ev

/- Lists whose elements change places. -/
namespace Go.Ev
open Go
set_option linter.unusedSimpArgs false
set_option linter.unusedVariables false

abbrev S := Nat × Nat
def S.cells (x : S) : List AV := [.int .i64 x.1, .int .i64 x.2]
def scells (l : List S) : List AV := l.flatMap S.cells
theorem scells_app (l m : List S) : scells (l ++ m) = scells l ++ scells m := List.flatMap_append
theorem scells_len : ∀ l : List S, (scells l).length = l.length * 2
  | [] => rfl
  | w :: l => by rw [scells, List.flatMap_cons, List.length_append, ← scells, scells_len l, S.cells]; simp only [List.length_cons, List.length_nil]; omega
theorem scells_at : ∀ {l : List S} {i : Nat} {x : S}, l[i]? = some x → List.take 2 (List.drop (i * 2) (scells l)) = x.cells ∧ i * 2 + 2 ≤ (scells l).length
  | y :: l, 0, x, h => by
    simp only [List.getElem?_cons_zero, Option.some.injEq] at h; subst h
    constructor
    · rfl
    · rw [scells_len, List.length_cons]; omega
  | y :: l, i + 1, x, h => by
    have := scells_at (l := l) (i := i) (x := x) (by simpa using h)
    constructor
    · rw [scells, List.flatMap_cons, ← scells, show (i + 1) * 2 = 2 + i * 2 by omega, ← List.drop_drop]
      exact this.1
    · rw [scells_len, List.length_cons]; have h2 := this.2; rw [scells_len] at h2; omega
theorem scells_fld {l : List S} {i : Nat} {x : S} (h : l[i]? = some x) : (scells l)[i * 2]? = some (.int .i64 x.1) ∧ (scells l)[i * 2 + 1]? = some (.int .i64 x.2) := by
  have h1 := (scells_at h).1
  have g : ∀ j, j < 2 → (scells l)[i * 2 + j]? = x.cells[j]? := by
    intro j hj
    rw [← h1, List.getElem?_take, if_pos hj, List.getElem?_drop]
  exact ⟨g 0 (by omega), g 1 (by omega)⟩
theorem scells_set : ∀ {l : List S} {i : Nat} (a b : Nat), i < l.length → ((scells l).set (i * 2) (.int .i64 a)).set (i * 2 + 1) (.int .i64 b) = scells (l.set i (a, b))
  | y :: l, 0, a, b, h => rfl
  | y :: l, i + 1, a, b, h => by
    have := scells_set (l := l) (i := i) a b (by simpa using h)
    show ((S.cells y ++ scells l).set ((i + 1) * 2) _).set ((i + 1) * 2 + 1) _ = S.cells y ++ scells (l.set i (a, b))
    rw [← this, show (i + 1) * 2 = i * 2 + 1 + 1 by omega]
    rfl
theorem scells_setS {l : List S} {i : Nat} (x : S) (h : i < l.length) : ((scells l).set (i * 2) (.int .i64 x.1)).set (i * 2 + 1) (.int .i64 x.2) = scells (l.set i x) := scells_set x.1 x.2 h
theorem scells_set2 {l : List S} {i : Nat} {x : S} (b : Nat) (hx : l[i]? = some x) : (scells l).set (i * 2 + 1) (.int .i64 b) = scells (l.set i (x.1, b)) := by
  have hi := (List.getElem?_eq_some_iff.1 hx).1
  rw [← scells_set x.1 b hi]
  congr 1
  have := (scells_fld hx).1
  obtain ⟨h1, h2⟩ := List.getElem?_eq_some_iff.1 this
  rw [← h2, List.set_getElem_self]

/-- Two elements change places. -/
def swp (l : List S) (i j : Nat) : List S := (l.set i (l.getD j (0, 0))).set j (l.getD i (0, 0))
def key (l : List S) (p : Nat) : Nat := (l.getD p (0, 0)).1

theorem swp_len (l : List S) (i j : Nat) : (swp l i j).length = l.length := by simp [swp]
theorem getD_of {l : List S} {i : Nat} {x : S} (h : l[i]? = some x) : l.getD i (0, 0) = x := by rw [List.getD_eq_getElem?_getD, h]; rfl
theorem get_of {l : List S} {i : Nat} (h : i < l.length) : l[i]? = some (l.getD i (0, 0)) := by
  rw [List.getD_eq_getElem?_getD, List.getElem?_eq_getElem h]; rfl
theorem swp_get {l : List S} {i j : Nat} (hi : i < l.length) (hj : j < l.length) (p : Nat) : (swp l i j)[p]? = if p = j then l[i]? else if p = i then l[j]? else l[p]? := by
  rw [swp, List.getElem?_set, List.length_set]
  by_cases h1 : p = j
  · subst h1; rw [if_pos rfl, if_pos hj, if_pos rfl, get_of hi]
  · rw [if_neg (fun e => h1 e.symm), if_neg h1, List.getElem?_set]
    by_cases h2 : p = i
    · subst h2; rw [if_pos rfl, if_pos hi, if_pos rfl, get_of hj]
    · rw [if_neg (fun e => h2 e.symm), if_neg h2]
theorem key_swp {l : List S} {i j : Nat} (hi : i < l.length) (hj : j < l.length) (p : Nat) : key (swp l i j) p = if p = j then key l i else if p = i then key l j else key l p := by
  unfold key
  rw [List.getD_eq_getElem?_getD, swp_get hi hj]
  split
  · rw [← List.getD_eq_getElem?_getD]
  · split <;> rw [← List.getD_eq_getElem?_getD]

/-- The elements from `a` up to, not with, `b` have changed places; all others stay. -/
structure PermOn (a b : Nat) (l l' : List S) : Prop where
  len : l'.length = l.length
  out : ∀ p, p < a ∨ b ≤ p → l'[p]? = l[p]?
  mem : ∀ x, (∃ p, a ≤ p ∧ p < b ∧ l'[p]? = some x) ↔ (∃ p, a ≤ p ∧ p < b ∧ l[p]? = some x)
theorem PermOn.refl {a b l} : PermOn a b l l := ⟨rfl, fun _ _ => rfl, fun _ => Iff.rfl⟩
theorem PermOn.trans {a b l l' l''} (h : PermOn a b l l') (k : PermOn a b l' l'') : PermOn a b l l'' := ⟨k.len.trans h.len, fun p hp => (k.out p hp).trans (h.out p hp), fun x => (k.mem x).trans (h.mem x)⟩
theorem PermOn.widen {a b a' b' l l'} (h : PermOn a b l l') (ha : a' ≤ a) (hb : b ≤ b') : PermOn a' b' l l' := by
  refine ⟨h.len, fun p hp => h.out p (by omega), fun x => ?_⟩
  constructor
  · rintro ⟨p, h1, h2, h3⟩
    by_cases hp : a ≤ p ∧ p < b
    · obtain ⟨q, g1, g2, g3⟩ := (h.mem x).1 ⟨p, hp.1, hp.2, h3⟩
      exact ⟨q, by omega, by omega, g3⟩
    · exact ⟨p, h1, h2, by rw [← h.out p (by omega)]; exact h3⟩
  · rintro ⟨p, h1, h2, h3⟩
    by_cases hp : a ≤ p ∧ p < b
    · obtain ⟨q, g1, g2, g3⟩ := (h.mem x).2 ⟨p, hp.1, hp.2, h3⟩
      exact ⟨q, by omega, by omega, g3⟩
    · exact ⟨p, h1, h2, by rw [h.out p (by omega)]; exact h3⟩
theorem PermOn.swp {a b i j l} (h1 : a ≤ i) (h2 : i < b) (h3 : a ≤ j) (h4 : j < b) (hb : b ≤ l.length) : PermOn a b l (swp l i j) := by
  have g := swp_get (l := l) (i := i) (j := j) (by omega) (by omega)
  refine ⟨swp_len _ _ _, fun p hp => ?_, fun x => ?_⟩
  · rw [g, if_neg (by omega), if_neg (by omega)]
  · constructor
    · rintro ⟨p, k1, k2, k3⟩
      rw [g] at k3
      split at k3
      · exact ⟨i, h1, h2, k3⟩
      · split at k3
        · exact ⟨j, h3, h4, k3⟩
        · exact ⟨p, k1, k2, k3⟩
    · rintro ⟨p, k1, k2, k3⟩
      by_cases e1 : p = i
      · exact ⟨j, h3, h4, by rw [g, if_pos rfl, ← e1]; exact k3⟩
      · by_cases e2 : p = j
        · by_cases e3 : i = j
          · exact absurd (e2.trans e3.symm) e1
          · exact ⟨i, h1, h2, by rw [g, if_neg e3, if_pos rfl, ← e2]; exact k3⟩
        · exact ⟨p, k1, k2, by rw [g, if_neg e2, if_neg e1]; exact k3⟩

/-- Sorted from `a` up to, not with, `b`. -/
def SortedOn (a b : Nat) (l : List S) : Prop := ∀ p q, a ≤ p → p < q → q < b → key l p ≤ key l q

theorem key_of {l : List S} {p : Nat} {x : S} (h : l[p]? = some x) : key l p = x.1 := by rw [key, getD_of h]
theorem key_out {a b l l'} (h : PermOn a b l l') {p : Nat} (hp : p < a ∨ b ≤ p) : key l' p = key l p := by
  unfold key; rw [List.getD_eq_getElem?_getD, List.getD_eq_getElem?_getD, h.out p hp]
/-- What holds of each key there holds still. -/
theorem PermOn.all {a b l l'} (h : PermOn a b l l') (hb : b ≤ l.length) {P : Nat → Prop} (hP : ∀ p, a ≤ p → p < b → P (key l p)) : ∀ p, a ≤ p → p < b → P (key l' p) := by
  intro p h1 h2
  have hp := get_of (l := l') (i := p) (by rw [h.len]; omega)
  obtain ⟨q, g1, g2, g3⟩ := (h.mem _).1 ⟨p, h1, h2, hp⟩
  have := hP q g1 g2
  rw [key_of g3] at this
  rw [key_of hp]; exact this
theorem PermOn.symm {a b l l'} (h : PermOn a b l l') : PermOn a b l' l := ⟨h.len.symm, fun p hp => (h.out p hp).symm, fun x => (h.mem x).symm⟩
end Go.Ev

/- Package runes: numbers of scalar values. -/
namespace Go.Ev
open Go
open Go.Ev renaming seqK_normal → zA, blockK_normal → zB, blockK_exit → zC
open Nat renaming reduceEqDiff → zD, reduceAdd → zE, reduceSub → zF, reduceMul → zG, reduceLeDiff → zH, reduceLT → zI
open Int renaming reduceToNat → zJ, reduceLT → zK, reduceLE → zL, reduceEq → zM, reduceAdd → zN, reduceSub → zO, reduceMul → zP
set_option linter.unusedSimpArgs false
set_option linter.unusedVariables false
set_option maxRecDepth 8000

def isR (r : Int) : Bool := (decide (0 ≤ r) && decide (r < 55296)) || (decide (57343 < r) && decide (r ≤ 1114111))
def numN (r : Int) : Nat := if r < 0 then 0 else if r < 55296 then r.toNat else if r ≤ 57343 then 55296 else if 1114112 < r then 1112064 else r.toNat - 2048
def behN (r : Int) : Nat := if isR r then numN r + 1 else numN r
def valN (n : Nat) : Nat := if n < 55296 then n else n + 2048

/-- A number of 32 bits. -/
def I32 (r : Int) : Prop := -2147483648 ≤ r ∧ r ≤ 2147483647

theorem numN_le (r : Int) : numN r ≤ 1112064 := by
  unfold numN
  repeat' split
  all_goals omega
theorem behN_le (r : Int) : behN r ≤ 1112065 := by
  have := numN_le r
  unfold behN
  split <;> omega

section
variable {o : CallF} (ho : OvOnly o)
include ho

theorem r_number {r : Int} (hr : I32 r) {H : Heap} {Q : End → Heap → Prop} (h : Q (.ret (.int .i64 (numN r : Int))) H) : wpf ⟨bt.get, o⟩ F_runes_number [.int .i32 r] H Q := by
  rw [fn_runes_number (ho _ _ _ (by decide))]
  obtain ⟨r1, r2⟩ := hr
  have fin : ∀ k : Int, (numN r : Int) = k → Q (.ret (.int .i64 k)) H := fun k e => by rw [← e]; exact h
  have w1 : IntKind.i64.wrap r = r := wi64 (by omega) (by omega)
  by_cases h1 : r < 0
  · simp only [bd_runes_number, go_sem, zA, zB, zC, reduceIte, zD, zE, zF, zG, zH, zI, reduceCtorEq, zJ, zK, zL, zM, zN, zO, zP, h1]
    exact fin 0 (by simp only [numN, if_pos h1]; rfl)
  · by_cases h2 : r < 55296
    · simp only [bd_runes_number, go_sem, zA, zB, zC, reduceIte, zD, zE, zF, zG, zH, zI, reduceCtorEq, zJ, zK, zL, zM, zN, zO, zP, h1, h2, w1]
      exact fin r (by simp only [numN, if_neg h1, if_pos h2]; omega)
    · by_cases h3 : r ≤ 57343
      · simp only [bd_runes_number, go_sem, zA, zB, zC, reduceIte, zD, zE, zF, zG, zH, zI, reduceCtorEq, zJ, zK, zL, zM, zN, zO, zP, h1, h2, h3]
        exact fin 55296 (by simp only [numN, if_neg h1, if_neg h2, if_pos h3]; rfl)
      · by_cases h4 : 1114112 < r
        · have w2 : IntKind.i64.wrap 1112064 = 1112064 := by rfl
          simp only [bd_runes_number, go_sem, zA, zB, zC, reduceIte, zD, zE, zF, zG, zH, zI, reduceCtorEq, zJ, zK, zL, zM, zN, zO, zP, h1, h2, h3, w1, minmaxA, h4, w2]
          exact fin 1112064 (by simp only [numN, if_neg h1, if_neg h2, if_neg h3, if_pos h4]; rfl)
        · have w2 : IntKind.i64.wrap (r - 2048) = r - 2048 := wi64 (by omega) (by omega)
          simp only [bd_runes_number, go_sem, zA, zB, zC, reduceIte, zD, zE, zF, zG, zH, zI, reduceCtorEq, zJ, zK, zL, zM, zN, zO, zP, h1, h2, h3, w1, minmaxA, h4, w2]
          exact fin (r - 2048) (by simp only [numN, if_neg h1, if_neg h2, if_neg h3, if_neg h4]; omega)

theorem r_is {r : Int} {H : Heap} {Q : End → Heap → Prop} (h : Q (.ret (.bool (isR r))) H) : wpf ⟨bt.get, o⟩ F_runes_is [.int .i32 r] H Q := by
  rw [fn_runes_is (ho _ _ _ (by decide))]
  have fin : ∀ k : Bool, isR r = k → Q (.ret (.bool k)) H := fun k e => by rw [← e]; exact h
  by_cases h1 : 0 ≤ r
  · by_cases h2 : r < 55296
    · simp only [bd_runes_is, go_sem, zA, zB, zC, reduceIte, zD, zE, zF, zG, zH, zI, reduceCtorEq, zJ, zK, zL, zM, zN, zO, zP, h1, h2]
      exact fin true (by simp [isR, h1, h2])
    · by_cases h3 : 57343 < r
      · by_cases h4 : r ≤ 1114111
        · simp only [bd_runes_is, go_sem, zA, zB, zC, reduceIte, zD, zE, zF, zG, zH, zI, reduceCtorEq, zJ, zK, zL, zM, zN, zO, zP, h1, h2, h3, h4]
          exact fin true (by simp [isR, h3, h4])
        · simp only [bd_runes_is, go_sem, zA, zB, zC, reduceIte, zD, zE, zF, zG, zH, zI, reduceCtorEq, zJ, zK, zL, zM, zN, zO, zP, h1, h2, h3, h4]
          exact fin false (by simp [isR, h2, h4])
      · simp only [bd_runes_is, go_sem, zA, zB, zC, reduceIte, zD, zE, zF, zG, zH, zI, reduceCtorEq, zJ, zK, zL, zM, zN, zO, zP, h1, h2, h3]
        exact fin false (by simp [isR, h2, h3])
  · have h3 : ¬ 57343 < r := by omega
    simp only [bd_runes_is, go_sem, zA, zB, zC, reduceIte, zD, zE, zF, zG, zH, zI, reduceCtorEq, zJ, zK, zL, zM, zN, zO, zP, h1, h3]
    exact fin false (by simp [isR, h1, h3])

theorem r_behind {r : Int} (hr : I32 r) {H : Heap} {Q : End → Heap → Prop} (h : Q (.ret (.int .i64 (behN r : Int))) H) : wpf ⟨bt.get, o⟩ F_runes_behind [.int .i32 r] H Q := by
  rw [fn_runes_behind (ho _ _ _ (by decide))]
  have hle := numN_le r
  simp only [bd_runes_behind, go_sem, zA, zB, zC, reduceIte, zD, zE, zF, zG, zH, zI, reduceCtorEq, zJ, zK, zL, zM, zN, zO, zP]
  refine r_number ho hr ?_
  simp only [go_sem, zA, zB, zC, reduceIte, zD, zE, zF, zG, zH, zI, reduceCtorEq, zJ, zK, zL, zM, zN, zO, zP]
  refine r_is ho ?_
  cases hi : isR r
  · simp only [go_sem, zA, zB, zC, reduceIte, zD, zE, zF, zG, zH, zI, reduceCtorEq, zJ, zK, zL, zM, zN, zO, zP]
    simpa [behN, hi] using h
  · simp only [go_sem, zA, zB, zC, reduceIte, zD, zE, zF, zG, zH, zI, reduceCtorEq, zJ, zK, zL, zM, zN, zO, zP, wsucc (show numN r ≤ 1000000000 by omega)]
    simpa [behN, hi] using h

theorem r_value {n : Nat} (hn : n ≤ 2000000) {H : Heap} {Q : End → Heap → Prop} (h : Q (.ret (.int .i32 (valN n : Int))) H) : wpf ⟨bt.get, o⟩ F_runes_value [.int .i64 (n : Int)] H Q := by
  rw [fn_runes_value (ho _ _ _ (by decide))]
  by_cases h1 : n < 55296
  · have h1' : (n : Int) < 55296 := by omega
    have w1 : IntKind.i32.wrap (n : Int) = (n : Int) := wi32 (by omega) (by omega)
    simp only [bd_runes_value, go_sem, zA, zB, zC, reduceIte, zD, zE, zF, zG, zH, zI, reduceCtorEq, zJ, zK, zL, zM, zN, zO, zP, h1', w1]
    simpa [valN, h1] using h
  · have h1' : ¬ (n : Int) < 55296 := by omega
    have w0 : IntKind.i64.wrap ((n : Int) + 2048) = (n : Int) + 2048 := wi64 (by omega) (by omega)
    have w1 : IntKind.i32.wrap ((n : Int) + 2048) = ((n + 2048 : Nat) : Int) := by rw [wi32 (by omega) (by omega)]; rfl
    simp only [bd_runes_value, go_sem, zA, zB, zC, reduceIte, zD, zE, zF, zG, zH, zI, reduceCtorEq, zJ, zK, zL, zM, zN, zO, zP, h1', w0, w1]
    simpa [valN, h1] using h
end
end Go.Ev
