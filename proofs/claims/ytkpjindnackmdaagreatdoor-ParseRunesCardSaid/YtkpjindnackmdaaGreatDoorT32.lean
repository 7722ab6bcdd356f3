/- Several texts of this claim, joined. -/
import Derived.Test.YtkpjindnackmdaaGreatDoorT31
import Derived.Test.YtkpjindnackmdaaGreatDoorT29

/- Expressions from texts: parse.Re. -/
namespace Go.Ev
open Go
open Go.Ev renaming seqK_normal → zA, blockK_normal → zB, blockK_exit → zC
open Nat renaming reduceEqDiff → zD, reduceAdd → zE, reduceSub → zF, reduceMul → zG, reduceLeDiff → zH, reduceLT → zI
open Int renaming reduceToNat → zJ, reduceLT → zK, reduceLE → zL, reduceEq → zM, reduceAdd → zN, reduceSub → zO, reduceMul → zP
set_option linter.unusedSimpArgs false
set_option linter.unusedVariables false
set_option maxRecDepth 8000

/-- An expression of a text, or why there is none. -/
def reF (n : Nat) (s : List UInt8) : Except PErr Rx := match allP (decAll s) s.length n 0 0 with
  | .error q => .error q
  | .ok (x, k) => if peekR (decAll s) k = -1 then .ok x else .error (.fail 3 (atR (decAll s) s.length k))

theorem err_pos {its : List It} {e : Nat} : ∀ n, (∀ d k c a, atomP its e n d k = .error (.fail c a) → 0 < c) ∧ (∀ d x sm k c a, rowP its e n d x sm k = .error (.fail c a) → 0 < c) ∧ (∀ d x k c a, altP its e n d x k = .error (.fail c a) → 0 < c)
  | 0 => ⟨fun d k c a h => (by rw [atomP] at h; cases h), fun d x sm k c a h => (by rw [rowP] at h; cases h), fun d x k c a h => (by rw [altP] at h; cases h)⟩
  | n + 1 => by
    obtain ⟨h1, h2, h3⟩ := err_pos (its := its) (e := e) n
    refine ⟨fun d k c a h => ?_, fun d x sm k c a h => ?_, fun d x k c a h => ?_⟩
    · rw [atomP] at h
      split at h
      · split at h
        · cases h; omega
        · split at h
          · rename_i q hq; cases h; exact h2 _ _ _ _ _ _ hq
          · split at h
            · rename_i q hq; cases h; exact h3 _ _ _ _ _ hq
            · split at h <;> cases h; omega
      · split at h
        · split at h
          · cases h; omega
          · split at h <;> cases h; omega
        · split at h
          · cases h
          · split at h <;> cases h; omega
    · rw [rowP] at h
      split at h
      · cases h
      · split at h
        · rename_i q hq; cases h; exact h1 _ _ _ _ hq
        · exact h2 _ _ _ _ _ _ h
    · rw [altP] at h
      split at h
      · split at h
        · cases h
        · exact h3 _ _ _ _ _ h
      · cases h
theorem reF_pos {n : Nat} {s : List UInt8} {c a : Nat} (h : reF n s = .error (.fail c a)) : 0 < c := by
  unfold reF at h
  split at h
  · rename_i q hq
    cases h
    unfold allP at hq
    split at hq
    · rename_i q hq'; cases hq; exact (err_pos n).2.1 _ _ _ _ _ _ hq'
    · exact (err_pos n).2.2 _ _ _ _ _ hq
  · split at h <;> cases h; omega

section
variable {o : CallF} (ho : OvOnly o)
include ho

theorem parser_n {xb rb e ib : Nat} {its : List It} {iv : AV} (hs : Sm its) (hl : its.length ≤ 49990) : ∀ n, AtomS o xb rb its e iv ib n ∧ RowL o xb rb its e iv ib n ∧ AltL o xb rb its e iv ib n
  | 0 => ⟨fun d k H Q hd hP h => absurd (by rw [atomP]) h.1, fun d k x sm cs b2 b3 n0 H Q hd hP hn hb2 hb3 hx hr hi g3 hR hns => absurd (by rw [rowP]) hns, fun d k x cs b2 b3 n0 H Q hd hP hn hb2 hb3 hx hr hi g3 hR hns => absurd (by rw [altP]) hns⟩
  | n + 1 => by
    obtain ⟨h1, h2, h3⟩ := parser_n hs hl n
    exact ⟨atom_step ho hs hl (all_of ho (row_of ho h2) h3), row_step ho h1 h2, alt_step ho (row_of ho h2) h3⟩
theorem p_all {xb rb e ib n d k : Nat} {its : List It} {iv : AV} (hs : Sm its) (hl : its.length ≤ 49990) {H : Heap} {Q : End → Heap → Prop} (hd : d ≤ 1000) (hP : PS xb rb H its e k d iv ib) (h : Out xb rb its e d iv ib H (allP its e n d k) Q) : wpf ⟨bt.get, o⟩ F_parse_regex_all [.ptr xb 0] H Q := by
  obtain ⟨_, h2, h3⟩ := parser_n ho (xb := xb) (rb := rb) (e := e) (ib := ib) (iv := iv) hs hl n
  exact all_of ho (row_of ho h2) h3 d k H Q hd hP h

theorem k_Read {s : List UInt8} (hs : s.length ≤ 300000) {H : Heap} {Q : End → Heap → Prop} (hG : GlH H)
    (h : ∀ H' rb iv ib, Ext H.size H H' → H.size ≤ rb → (0 < (decAll s).length → H.size ≤ ib) → RdrS rb H' (decAll s) s.length 0 iv ib → (decAll s).length ≤ 2 * s.length + 1 → Q (.ret (.ptr rb 0)) H') : wpf ⟨bt.get, o⟩ F_word_Read [.str s] H Q := by
  have hsl : s.length ≤ 1099511627776 := by omega
  rw [fn_word_Read (ho _ _ _ (by decide))]
  simp only [bd_word_Read, go_sem, zA, zB, zC, reduceIte, zD, zE, zF, zG, zH, zI, reduceCtorEq, zJ, zK, zL, zM, zN, zO, zP, hsl]
  refine d_All ho (by omega) (hG.ext hG.1 (Ext.push (Nat.le_refl _))) Heap.get_push_self fun H4 iv x4 hiv hil => ?_
  obtain ⟨ib, hRd, hib⟩ := hiv.rd
  obtain ⟨c1, c2⟩ := hiv.one
  have z4 : Ext H.size H H4 := (Ext.push (Nat.le_refl _)).trans (x4.le (by rw [Heap.size_push]; omega))
  simp only [go_sem, zA, zB, zC, reduceIte, zD, zE, zF, zG, zH, zI, reduceCtorEq, zJ, zK, zL, zM, zN, zO, zP, c1, c2]
  have x5 : Ext H4.size H4 (H4.push (.cells [iv, .int .i64 0, .int .i64 s.length] .own)) := Ext.push (Nat.le_refl _)
  have RR : RdrS H4.size (H4.push (.cells [iv, .int .i64 0, .int .i64 s.length] .own)) (decAll s) s.length 0 iv ib :=
    ⟨Heap.get_push_self, hRd.ext x5, fun hp => by have := hRd.lt hp; omega, Nat.zero_le _, by omega⟩
  exact h _ _ iv ib (z4.trans (x5.le z4.1)) z4.1 (fun hp => by have := (hib hp).1; rw [Heap.size_push] at this; omega) RR hil

theorem p_Re {s : List UInt8} (n : Nat) (hs : s.length ≤ 24990) {H : Heap} {Q : End → Heap → Prop} (hG : GlH H) (hns : reF n s ≠ .error .stuck)
    (hE : ∀ x, reF n s = .ok x → ∀ H' cs, Ext H.size H H' → ReV (fun b => H.size ≤ b) H' x cs → Q (.ret (.tup [.agg cs, .int .i64 0, .int .i64 0])) H')
    (hP : ∀ (c a : Nat), reF n s = .error (.fail c a) → 0 < c → ∀ H', Ext H.size H H' → Q (.ret (.tup [.agg [.int .i64 0, .nils, .nils], .int .i64 (c : Int), .int .i64 (a : Int)])) H') : wpf ⟨bt.get, o⟩ F_parse_Re [.str s] H Q := by
  rw [fn_parse_Re (ho _ _ _ (by decide))]
  simp only [bd_parse_Re, go_sem, zA, zB, zC, reduceIte, zD, zE, zF, zG, zH, zI, reduceCtorEq, zJ, zK, zL, zM, zN, zO, zP]
  generalize hH2 : ((H.push (Blk.cells [AV.str s] Use.own)).push (Blk.cells [.int .i64 0, .nils, .nils] .own)).push (Blk.cells [.int .i64 0, .nils, .nils] .own) = H2
  have sz2 : H2.size = H.size + 3 := by rw [← hH2]; rfl
  have f0 : H2.get H.size = .cells [.str s] .own := by rw [← hH2, Heap.get3_0]
  have f1 : H2.get (H.size + 1) = .cells [.int .i64 0, .nils, .nils] .own := by rw [← hH2, Heap.get3_1]
  have f2 : H2.get (H.size + 2) = .cells [.int .i64 0, .nils, .nils] .own := by rw [← hH2, Heap.get_push_eq (by simp only [Heap.size_push])]
  have x2 : Ext H.size H H2 := by
    rw [← hH2]
    exact ((Ext.push (Nat.le_refl _)).trans (Ext.push (by rw [Heap.size_push]; omega))).trans (Ext.push (by rw [Heap.size_push, Heap.size_push]; omega))
  -- the work's call
  have work : wpf ⟨bt.get, o⟩ F_parse_Re_1 [.ptr H.size 0, .ptr (H.size + 2) 0] (H2.push (.cells [.int .i64 0, .int .i64 0] .own)) fun e H' => FrX [H.size + 2] (H.size + 4) (H2.push (.cells [.int .i64 0, .int .i64 0] .own)) H' ∧
      ((∃ x cs, reF n s = .ok x ∧ e = .ret (.tup []) ∧ H'.get (H.size + 2) = .cells cs .own ∧ ReV (fun b => H.size + 4 ≤ b) H' x cs) ∨ ∃ c a : Nat, reF n s = .error (.fail c a) ∧ e = .pan [(faultA c a, false)]) := by
    rw [fn_parse_Re_1 (ho _ _ _ (by decide))]
    have g0 : (H2.push (.cells [.int .i64 0, .int .i64 0] .own)).get H.size = .cells [.str s] .own := by rw [Heap.get_push_lt (by omega), f0]
    have g2 : (H2.push (.cells [.int .i64 0, .int .i64 0] .own)).get (H.size + 2) = .cells [.int .i64 0, .nils, .nils] .own := by rw [Heap.get_push_lt (by omega), f2]
    have sz3 : (H2.push (.cells [.int .i64 0, .int .i64 0] .own)).size = H.size + 4 := by rw [Heap.size_push, sz2]
    have y3 : Ext H.size H2 (H2.push (.cells [.int .i64 0, .int .i64 0] .own)) := Ext.push (by omega)
    have hG3 : GlH (H2.push (.cells [.int .i64 0, .int .i64 0] .own)) := (hG.ext hG.1 x2).ext hG.1 y3
    generalize H2.push (.cells [.int .i64 0, .int .i64 0] .own) = H3 at g0 g2 sz3 y3 hG3 ⊢
    simp only [bd_parse_Re_1, go_sem, zA, zB, zC, reduceIte, zD, zE, zF, zG, zH, zI, reduceCtorEq, zJ, zK, zL, zM, zN, zO, zP, g0]
    refine k_Read ho (by omega) hG3 fun H4 rb iv ib x4 hrb hib R4 hil => ?_
    have sz4 := x4.1
    have x5 : Ext H4.size H4 (H4.push (.cells [.ptr rb 0, .int .i64 0] .own)) := Ext.push (Nat.le_refl _)
    have g5 : (H4.push (.cells [.ptr rb 0, .int .i64 0] .own)).get H4.size = .cells [.ptr rb 0, .int .i64 0] .own := Heap.get_push_self
    have P5 : PS H4.size rb (H4.push (.cells [.ptr rb 0, .int .i64 0] .own)) (decAll s) s.length 0 0 iv ib :=
      ⟨g5, R4.fr x5, by have := R4.lt; omega, fun hp => by have := R4.rd.lt hp; omega⟩
    have sz5 : (H4.push (.cells [.ptr rb 0, .int .i64 0] .own)).size = H4.size + 1 := Heap.size_push _ _
    have x35 : Ext (H.size + 4) H3 (H4.push (.cells [.ptr rb 0, .int .i64 0] .own)) := (x4.le (by omega)).trans (x5.le (by omega))
    simp only [go_sem, zA, zB, zC, reduceIte, zD, zE, zF, zG, zH, zI, reduceCtorEq, zJ, zK, zL, zM, zN, zO, zP]
    generalize H4.push (.cells [.ptr rb 0, .int .i64 0] .own) = H5 at x5 g5 P5 sz5 x35 ⊢
    unfold reF at hns ⊢
    refine p_all ho (n := n) (decAll_sm s) (by omega) (by omega) P5 ⟨fun h => hns (by rw [h]), fun c a h H6 f6 => ?_, fun y k1 h H6 cy f6 P6 R6 => ?_⟩
    · rw [h]
      simp only [go_sem, zA, zB, zC, reduceIte, zD, zE, zF, zG, zH, zI, reduceCtorEq, zJ, zK, zL, zM, zN, zO, zP]
      exact ⟨(FrX.ofExt x35).trans (f6.mono (by omega) fun c hc hc2 => by simp at hc ⊢; omega), .inr ⟨c, a, rfl, rfl⟩⟩
    · rw [h] at hns ⊢
      have hs6 := f6.1
      obtain ⟨ky, vy, wy, ey, ⟨y1, y2⟩, y3, y4⟩ := R6.form
      subst ey
      have g26 : H6.get (H.size + 2) = .cells [.int .i64 0, .nils, .nils] .own := by rw [f6.2 _ (by omega) (by simp; omega), x35.2 _ (by omega), g2]
      have l26 : H.size + 2 < H6.size := by omega
      have T : FrX [H.size + 2] H6.size H6 (H6.set (H.size + 2) (.cells [.int .i64 ky, vy, wy] .own)) := FrX.set (.inl (by simp))
      have F7 : FrX [H.size + 2] (H.size + 4) H3 (H6.set (H.size + 2) (.cells [.int .i64 ky, vy, wy] .own)) := (FrX.ofExt x35).trans ((f6.mono (by omega) fun c hc hc2 => by simp at hc ⊢; omega).trans (T.mono (by omega) fun c hc _ => hc))
      have P7 := P6.keep T ⟨P6.lt, by simp; omega⟩ ⟨P6.rdr.lt, by simp; omega⟩ fun hp => ⟨P6.ilt hp, by have := hib hp; simp; omega⟩
      have R7 : ReV (fun b => H.size + 4 ≤ b) (H6.set (H.size + 2) (.cells [.int .i64 ky, vy, wy] .own)) y [.int .i64 ky, vy, wy] := R6.keep fun b q1 q2 => ⟨T.2 b q2 (by simp; omega), by omega⟩
      have g27 : (H6.set (H.size + 2) (.cells [.int .i64 ky, vy, wy] .own)).get (H.size + 2) = .cells [.int .i64 ky, vy, wy] .own := Heap.get_set_self l26
      simp only [go_sem, zA, zB, zC, reduceIte, zD, zE, zF, zG, zH, zI, reduceCtorEq, zJ, zK, zL, zM, zN, zO, zP, g26, y1, y2, y3, y4, P7.get]
      generalize H6.set (H.size + 2) (.cells [.int .i64 ky, vy, wy] .own) = H7 at T F7 P7 R7 g27 ⊢
      refine k_Peek ho P7.rdr ?_
      by_cases hp : peekR (decAll s) k1 = -1
      · simp only [go_sem, zA, zB, zC, reduceIte, zD, zE, zF, zG, zH, zI, reduceCtorEq, zJ, zK, zL, zM, zN, zO, zP, hp]
        exact ⟨F7, .inl ⟨y, _, rfl, g27, R7⟩⟩
      · simp only [go_sem, zA, zB, zC, reduceIte, zD, zE, zF, zG, zH, zI, reduceCtorEq, zJ, zK, zL, zM, zN, zO, zP, hp, P7.get]
        refine k_At ho P7.rdr ?_
        simp only [go_sem, zA, zB, zC, reduceIte, zD, zE, zF, zG, zH, zI, reduceCtorEq, zJ, zK, zL, zM, zN, zO, zP]
        refine w_Fail ho ?_
        simp only [go_sem, zA, zB, zC, reduceIte, zD, zE, zF, zG, zH, zI, reduceCtorEq, zJ, zK, zL, zM, zN, zO, zP]
        exact ⟨F7, .inr ⟨3, _, rfl, rfl⟩⟩
  refine w_Caught ho work fun e H' hR => ?_
  obtain ⟨r1, r4⟩ := hR
  have hs' := r1.1
  rw [Heap.size_push, sz2] at hs'
  rw [sz2]
  refine ⟨by rw [r1.2 _ (by omega) (by simp), Heap.get_push_eq sz2.symm], ?_⟩
  have low : ∀ H'', Fr (H.size + 3) .nils H' H'' → Ext H.size H H'' ∧ H''.get (H.size + 1) = .cells [.int .i64 0, .nils, .nils] .own ∧ H.size + 4 ≤ H''.size ∧ ∀ c, c < H'.size → c ≠ H.size + 3 → H''.get c = H'.get c := fun H'' hk => by
    have hk1 := hk.1
    have hk2 := (hk.frX (Nat.le_refl _)).2
    refine ⟨⟨by omega, fun c hc => ?_⟩, ?_, by omega, fun c h1 h2 => hk2 c h1 (by simp; omega)⟩
    · rw [hk2 c (by omega) (by simp; omega), r1.2 c (by omega) (by simp; omega), Heap.get_push_lt (by omega), x2.2 c hc]
    · rw [hk2 _ (by omega) (by simp), r1.2 _ (by omega) (by simp), Heap.get_push_lt (by omega), f1]
  rcases r4 with ⟨x, cs, hx, rfl, g, R⟩ | ⟨c, a, hx, rfl⟩
  · refine .inl ⟨_, rfl, fun H'' hk => ?_⟩
    obtain ⟨u1, u2, u3, u4⟩ := low H'' hk
    obtain ⟨ky, vy, wy, ey, ⟨y1, y2⟩, y3, y4⟩ := R.form
    subst ey
    have u5 : H''.get (H.size + 2) = .cells [.int .i64 ky, vy, wy] .own := by rw [u4 _ (by omega) (by omega), g]
    have e1 : Ext H''.size H'' (H''.push (.cells [.int .i64 0, .int .i64 0] .own)) := Ext.push (Nat.le_refl _)
    have u6 : (H''.push (.cells [.int .i64 0, .int .i64 0] .own)).get (H.size + 2) = .cells [.int .i64 ky, vy, wy] .own := by rw [e1.2 _ (by omega), u5]
    have u7 : (H''.push (.cells [.int .i64 0, .int .i64 0] .own)).get (H.size + 1) = .cells [.int .i64 0, .nils, .nils] .own := by rw [e1.2 _ (by omega), u2]
    have u8 : H.size + 1 < (H''.push (.cells [.int .i64 0, .int .i64 0] .own)).size := by rw [Heap.size_push]; omega
    simp only [go_sem, zA, zB, zC, reduceIte, zD, zE, zF, zG, zH, zI, reduceCtorEq, zJ, zK, zL, zM, zN, zO, zP, u6, u7, y1, y2, y3, y4, Heap.get_set_self u8]
    refine hE x hx _ _ ((u1.trans (e1.le (by omega))).trans (Ext.set (by omega))) (R.keep fun b q1 q2 => ⟨?_, by omega⟩)
    rw [Heap.get_set_ne (by omega), e1.2 _ (by have := hk.1; omega), u4 _ q2 (by omega)]
  · refine .inr ⟨c, a, rfl, fun H'' hk => ?_⟩
    obtain ⟨u1, u2, u3, u4⟩ := low H'' hk
    have hc0 : 0 < c := reF_pos hx
    have hc : ¬ (c : Int) = 0 := by omega
    have e1 : Ext H''.size H'' (H''.push (.cells [.int .i64 c, .int .i64 a] .own)) := Ext.push (Nat.le_refl _)
    have u7 : (H''.push (.cells [.int .i64 c, .int .i64 a] .own)).get (H.size + 1) = .cells [.int .i64 0, .nils, .nils] .own := by rw [e1.2 _ (by omega), u2]
    have u8 : H.size + 1 < (H''.push (.cells [.int .i64 c, .int .i64 a] .own)).size := by rw [Heap.size_push]; omega
    have u9 : ((H''.push (.cells [.int .i64 c, .int .i64 a] .own)).set (H.size + 1) (.cells [.int .i64 0, .nils, .nils] .own)).get H''.size = .cells [.int .i64 c, .int .i64 a] .own := by rw [Heap.get_set_ne (by omega), Heap.get_push_self]
    simp only [go_sem, zA, zB, zC, reduceIte, zD, zE, zF, zG, zH, zI, reduceCtorEq, zJ, zK, zL, zM, zN, zO, zP, hc, u7, u9, Heap.get_set_self u8]
    exact hP c a hx hc0 _ ((u1.trans (e1.le (by omega))).trans (Ext.set (c := H.size + 1) (by omega)))
end
end Go.Ev

/- Expressions, compared; of one rune. -/
namespace Go.Ev
open Go
open Go.Ev renaming seqK_normal → zA, blockK_normal → zB, blockK_exit → zC
open Nat renaming reduceEqDiff → zD, reduceAdd → zE, reduceSub → zF, reduceMul → zG, reduceLeDiff → zH, reduceLT → zI
open Int renaming reduceToNat → zJ, reduceLT → zK, reduceLE → zL, reduceEq → zM, reduceAdd → zN, reduceSub → zO, reduceMul → zP
set_option linter.unusedSimpArgs false
set_option linter.unusedVariables false
set_option maxRecDepth 8000

section
variable {o : CallF} (ho : OvOnly o)
include ho

omit ho in
theorem g3_loop {a b : List R} {va vb : AV} {ba bb : Nat} (hla : a.length ≤ 1000000) (hlen : a.length = b.length) {H : Heap} (hA : Rd H 2 (rcells a) a.length va ba) (hB : Rd H 2 (rcells b) b.length vb bb) {Q : Ctl → St → Prop} : ∀ (ra rb : List R) (i : Nat), a.drop i = ra → b.drop i = rb → i ≤ a.length →
    (ra = rb → ∀ σ : St, σ.H = H → σ.d = [] → Q (.exit 0) σ) → (ra ≠ rb → ∀ σ : St, σ.H = H → σ.d = [] → lk 4 σ.p = some (.bool false) → Q .ret σ) →
    wpl ⟨bt.get, o⟩ [0, 1, 5] lb_goboref3_Same_0 { p := [(0, va), (1, vb), (5, .int .i64 i)], t := [], H := H, d := [], u := .norm } Q
  | [], rb, i, h1, h2, hi, hT, hF => by
    have : a.length ≤ i := List.drop_eq_nil_iff.1 h1
    have hb : rb = [] := by rw [← h2]; exact List.drop_eq_nil_iff.2 (by omega)
    rw [wpl_step]
    have c1 : ¬((i : Int) < (a.length : Int)) := by omega
    simp only [lb_goboref3_Same_0, go_sem, zA, zB, zC, reduceIte, zD, zE, zF, zG, zH, zI, reduceCtorEq, zJ, zK, zL, zM, zN, zO, zP, hA.len, c1]
    exact hT hb.symm _ rfl rfl
  | x :: ra, [], i, h1, h2, hi, hT, hF => by
    obtain ⟨_, hia, _⟩ := list_at h1
    have : b.length ≤ i := List.drop_eq_nil_iff.1 h2
    omega
  | x :: ra, y :: rb, i, h1, h2, hi, hT, hF => by
    obtain ⟨a0, a1, a2⟩ := list_at h1
    obtain ⟨b0, b1, b2⟩ := list_at h2
    obtain ⟨⟨u, ga⟩, ela, _⟩ := hA.pos (by omega)
    obtain ⟨⟨u', gb⟩, elb, _⟩ := hB.pos (by omega)
    have ea := ela i a1
    have eb := elb i b1
    obtain ⟨p1, p2⟩ := rcells_at a0
    obtain ⟨q1, q2⟩ := rcells_at b0
    rw [wpl_step]
    have c1 : ((i : Int) < (a.length : Int)) := by omega
    have iw := wsucc (show i ≤ 1000000000 by omega)
    by_cases e1 : x.lo = y.lo
    · by_cases e2 : x.hi = y.hi
      · have exy : x = y := by cases x; cases y; simp_all
        subst exy
        simp only [lb_goboref3_Same_0, go_sem, zA, zB, zC, reduceIte, zD, zE, zF, zG, zH, zI, reduceCtorEq, zJ, zK, zL, zM, zN, zO, zP, hA.len, c1, ea, eb, ga, gb, p1, p2, q1, q2, R.cells, eqCells, eqCell, iw]
        exact g3_loop hla hlen hA hB ra rb (i + 1) a2 b2 (by omega) (fun h => hT (by rw [h])) (fun h => hF (by simpa using h))
      · simp only [lb_goboref3_Same_0, go_sem, zA, zB, zC, reduceIte, zD, zE, zF, zG, zH, zI, reduceCtorEq, zJ, zK, zL, zM, zN, zO, zP, hA.len, c1, ea, eb, ga, gb, p1, p2, q1, q2, R.cells, eqCells, eqCell, e1, e2]
        exact hF (by intro h; injection h with h _; rw [h] at e2; exact e2 rfl) _ rfl rfl rfl
    · simp only [lb_goboref3_Same_0, go_sem, zA, zB, zC, reduceIte, zD, zE, zF, zG, zH, zI, reduceCtorEq, zJ, zK, zL, zM, zN, zO, zP, hA.len, c1, ea, eb, ga, gb, p1, p2, q1, q2, R.cells, eqCells, eqCell, e1]
      exact hF (by intro h; injection h with h _; rw [h] at e1; exact e1 rfl) _ rfl rfl rfl

theorem g3_Same {a b : List R} {va vb : AV} {ba bb : Nat} (hla : a.length ≤ 1000000) (hlb : b.length ≤ 1000000) {H : Heap} (hA : Rd H 2 (rcells a) a.length va ba) (hB : Rd H 2 (rcells b) b.length vb bb) {Q : End → Heap → Prop} (h : Q (.ret (.bool (decide (a = b)))) H) : wpf ⟨bt.get, o⟩ F_goboref3_Same [va, vb] H Q := by
  rw [fn_goboref3_Same (ho _ _ _ (by decide))]
  simp only [bd_goboref3_Same, go_sem, zA, zB, zC, reduceIte, zD, zE, zF, zG, zH, zI, reduceCtorEq, zJ, zK, zL, zM, zN, zO, zP, hA.len, hB.len]
  by_cases hl : a.length = b.length
  · have hl' : (a.length : Int) = (b.length : Int) := by omega
    simp only [go_sem, zA, zB, zC, reduceIte, zD, zE, zF, zG, zH, zI, reduceCtorEq, zJ, zK, zL, zM, zN, zO, zP, hl', hA.len]
    refine g3_loop hla hl hA hB a b 0 rfl rfl (Nat.zero_le _) (fun e σ k1 k2 => ?_) (fun e σ k1 k2 k3 => ?_)
    · simp only [go_sem, zA, zB, zC, reduceIte, zD, zE, zF, zG, zH, zI, reduceCtorEq, zJ, zK, zL, zM, zN, zO, zP, k1, k2, lk_up]
      rw [e] at h
      simpa using h
    · simp only [go_sem, zA, zB, zC, reduceIte, zD, zE, zF, zG, zH, zI, reduceCtorEq, zJ, zK, zL, zM, zN, zO, zP, k1, k2, k3]
      simpa [e] using h
  · have hl' : ¬ (a.length : Int) = (b.length : Int) := by omega
    have hne : ¬ a = b := fun e => hl (by rw [e])
    simp only [go_sem, zA, zB, zC, reduceIte, zD, zE, zF, zG, zH, zI, reduceCtorEq, zJ, zK, zL, zM, zN, zO, zP, hl']
    simpa [hne] using h

omit ho in
/-- The parts, one by one. -/
theorem g6_loop {P P' : Nat → Prop} {ka kb : List Rx} {va vb wa wb : AV} {ba bb b2 b3 : Nat} {xa xb' : Int} {ca cb : List AV} (hlen : ka.length = kb.length) (hl3 : ka.length ≤ 1000)
    (IH : ∀ k ∈ ka, ∀ (y : Rx) (P P' : Nat → Prop) (cx cy : List AV) (H : Heap) (Q : End → Heap → Prop), ReV P H k cx → ReV P' H y cy → (∀ H', Ext H.size H H' → Q (.ret (.bool (sameX k y))) H') → wpf ⟨bt.get, o⟩ F_goboref6_Same [.agg cx, .agg cy] H Q)
    {Q : Ctl → St → Prop} : ∀ (m i : Nat) (H : Heap), i + m = ka.length → Rd H 3 ca ka.length va ba → Rd H 3 cb kb.length vb bb → (∀ (i : Nat) k, ka[i]? = some k → ReV P H k (List.take 3 (List.drop (i * 3) ca)) ∧ i * 3 + 3 ≤ ca.length) → (∀ (i : Nat) k, kb[i]? = some k → ReV P' H k (List.take 3 (List.drop (i * 3) cb)) ∧ i * 3 + 3 ≤ cb.length) →
    H.get b2 = .cells [.int .i64 xa, wa, va] .own → H.get b3 = .cells [.int .i64 xb', wb, vb] .own →
    (((ka.drop i).zip (kb.drop i)).all (fun p => sameX p.1 p.2) = true → ∀ σ : St, Ext H.size H σ.H → σ.d = [] → Q (.exit 0) σ) → (((ka.drop i).zip (kb.drop i)).all (fun p => sameX p.1 p.2) = false → ∀ σ : St, Ext H.size H σ.H → σ.d = [] → lk 4 σ.p = some (.bool false) → Q .ret σ) →
    wpl ⟨bt.get, o⟩ [2, 3, 5] lb_goboref6_Same_0 { p := [(2, .ptr b2 0), (3, .ptr b3 0), (5, .int .i64 i)], t := [], H := H, d := [], u := .norm } Q := by
  intro m
  induction m with
  | zero =>
    intro i H hi hA hB hpa hpb g2 g3 hT hF
    rw [wpl_step]
    have c1 : ¬((i : Int) < (ka.length : Int)) := by omega
    simp only [lb_goboref6_Same_0, go_sem, zA, zB, zC, reduceIte, zD, zE, zF, zG, zH, zI, reduceCtorEq, zJ, zK, zL, zM, zN, zO, zP, g2, hA.len, c1]
    exact hT (by rw [List.drop_eq_nil_of_le (by omega)]; rfl) _ Ext.refl rfl
  | succ m ih =>
    intro i H hi hA hB hpa hpb g2 g3 hT hF
    rw [wpl_step]
    have c1 : ((i : Int) < (ka.length : Int)) := by omega
    have iw := wsucc (show i ≤ 1000000000 by omega)
    obtain ⟨⟨u, ga⟩, ela, _⟩ := hA.pos (by omega)
    obtain ⟨⟨u', gb⟩, elb, _⟩ := hB.pos (by omega)
    have ea := ela i (by omega)
    have eb := elb i (by omega)
    obtain ⟨k, hk⟩ : ∃ k, ka[i]? = some k := ⟨_, List.getElem?_eq_getElem (by omega)⟩
    obtain ⟨k', hk'⟩ : ∃ k, kb[i]? = some k := ⟨_, List.getElem?_eq_getElem (by omega)⟩
    obtain ⟨r1, r2⟩ := hpa i k hk
    obtain ⟨q1, q2⟩ := hpb i k' hk'
    simp only [lb_goboref6_Same_0, go_sem, zA, zB, zC, reduceIte, zD, zE, zF, zG, zH, zI, reduceCtorEq, zJ, zK, zL, zM, zN, zO, zP, g2, g3, hA.len, c1, ea, eb, ga, gb, r2, q2]
    refine IH k (List.mem_of_getElem? hk) k' P P' _ _ H _ r1 q1 fun H1 x1 => ?_
    have d1 : ka.drop i = k :: ka.drop (i + 1) := by rw [List.drop_eq_getElem_cons (by omega)]; congr 1; exact (List.getElem?_eq_some_iff.1 hk).2
    have d2 : kb.drop i = k' :: kb.drop (i + 1) := by rw [List.drop_eq_getElem_cons (by omega)]; congr 1; exact (List.getElem?_eq_some_iff.1 hk').2
    rw [d1, d2, List.zip_cons_cons, List.all_cons] at hT hF
    cases hs : sameX k k' with
    | false =>
      rw [hs] at hF
      simp only [go_sem, zA, zB, zC, reduceIte, zD, zE, zF, zG, zH, zI, reduceCtorEq, zJ, zK, zL, zM, zN, zO, zP]
      exact hF rfl _ x1 rfl rfl
    | true =>
      rw [hs] at hT hF
      simp only [go_sem, zA, zB, zC, reduceIte, zD, zE, zF, zG, zH, zI, reduceCtorEq, zJ, zK, zL, zM, zN, zO, zP, iw]
      exact ih (i + 1) H1 (by omega) (hA.ext x1) (hB.ext x1) (fun i k hk => ⟨(hpa i k hk).1.keep fun b p1 p2 => ⟨x1.2 b p2, p1⟩, (hpa i k hk).2⟩) (fun i k hk => ⟨(hpb i k hk).1.keep fun b p1 p2 => ⟨x1.2 b p2, p1⟩, (hpb i k hk).2⟩) (by rw [x1.2 _ (Heap.lt_of_get (by rw [g2]; simp)), g2]) (by rw [x1.2 _ (Heap.lt_of_get (by rw [g3]; simp)), g3]) (fun h σ e1 => hT (by simpa using h) σ (x1.trans (e1.le x1.1))) (fun h σ e1 => hF (by simpa using h) σ (x1.trans (e1.le x1.1)))

theorem g6_Same : ∀ (x y : Rx) (P P' : Nat → Prop) (cx cy : List AV) (H : Heap) (Q : End → Heap → Prop), ReV P H x cx → ReV P' H y cy → (∀ H', Ext H.size H H' → Q (.ret (.bool (sameX x y))) H') → wpf ⟨bt.get, o⟩ F_goboref6_Same [.agg cx, .agg cy] H Q := by
  have main : ∀ (x : Rx), (∀ k ∈ kidsX x, ∀ (y : Rx) (P P' : Nat → Prop) (cx cy : List AV) (H : Heap) (Q : End → Heap → Prop), ReV P H k cx → ReV P' H y cy → (∀ H', Ext H.size H H' → Q (.ret (.bool (sameX k y))) H') → wpf ⟨bt.get, o⟩ F_goboref6_Same [.agg cx, .agg cy] H Q) →
      ∀ (y : Rx) (P P' : Nat → Prop) (cx cy : List AV) (H : Heap) (Q : End → Heap → Prop), ReV P H x cx → ReV P' H y cy → (∀ H', Ext H.size H H' → Q (.ret (.bool (sameX x y))) H') → wpf ⟨bt.get, o⟩ F_goboref6_Same [.agg cx, .agg cy] H Q := by
    intro x IH y P P' cx cy H Q hx hy h
    rw [fn_goboref6_Same (ho _ _ _ (by decide))]
    obtain ⟨vs, bs, vl, bl, ck, e1, s1, s2, l1, l2⟩ := hx.split
    obtain ⟨ws, bs', wl, bl', ck', f1, t1, t2, m1, m2⟩ := hy.split
    subst e1 f1
    have x2 : Ext H.size H ((H.push (.cells [.int .i64 (kindX x), vs, vl] .own)).push (.cells [.int .i64 (kindX y), ws, wl] .own)) := (Ext.push (Nat.le_refl _)).trans (Ext.push (by rw [Heap.size_push]; omega))
    have g2 : ((H.push (.cells [.int .i64 (kindX x), vs, vl] .own)).push (.cells [.int .i64 (kindX y), ws, wl] .own)).get H.size = .cells [.int .i64 (kindX x), vs, vl] .own := by rw [Heap.get_push_lt (by rw [Heap.size_push]; omega), Heap.get_push_self]
    have g3 : ((H.push (.cells [.int .i64 (kindX x), vs, vl] .own)).push (.cells [.int .i64 (kindX y), ws, wl] .own)).get (H.size + 1) = .cells [.int .i64 (kindX y), ws, wl] .own := by rw [Heap.get_push_eq (by rw [Heap.size_push])]
    simp only [bd_goboref6_Same, go_sem, zA, zB, zC, reduceIte, zD, zE, zF, zG, zH, zI, reduceCtorEq, zJ, zK, zL, zM, zN, zO, zP, s1.one.1, s1.one.2, l1.one.1, l1.one.2, t1.one.1, t1.one.2, m1.one.1, m1.one.2]
    generalize (H.push (.cells [.int .i64 (kindX x), vs, vl] .own)).push (.cells [.int .i64 (kindX y), ws, wl] .own) = H2 at x2 g2 g3 ⊢
    by_cases hk : kindX x = kindX y
    · have hkl := kids_len hk
      have hkl' : ((kidsX x).length : Int) = ((kidsX y).length : Int) := by omega
      have hk3 : (kidsX y).length ≤ 1000 := by cases y <;> simp [kidsX]
      simp only [go_sem, zA, zB, zC, reduceIte, zD, zE, zF, zG, zH, zI, reduceCtorEq, zJ, zK, zL, zM, zN, zO, zP, g2, g3, hk, l1.len, m1.len, hkl']
      refine g3_Same ho s2 t2 (s1.ext x2) (t1.ext x2) ?_
      by_cases hs : setsX x = setsX y
      · simp only [go_sem, zA, zB, zC, reduceIte, zD, zE, zF, zG, zH, zI, reduceCtorEq, zJ, zK, zL, zM, zN, zO, zP, hs]
        refine g6_loop (ka := kidsX x) (kb := kidsX y) hkl (by omega) IH (kidsX x).length 0 H2 (by omega) (l1.ext x2) (m1.ext x2) (fun i k hk => ⟨(l2 i k hk).1.keep fun b p1 p2 => ⟨x2.2 b p2, p1⟩, (l2 i k hk).2⟩) (fun i k hk => ⟨(m2 i k hk).1.keep fun b p1 p2 => ⟨x2.2 b p2, p1⟩, (m2 i k hk).2⟩) g2 g3 (fun e σ k1 k2 => ?_) (fun e σ k1 k2 k3 => ?_)
        · simp only [go_sem, zA, zB, zC, reduceIte, zD, zE, zF, zG, zH, zI, reduceCtorEq, zJ, zK, zL, zM, zN, zO, zP, k2, lk_up]
          have := h σ.H (x2.trans (k1.le x2.1))
          rw [sameX_kids, hk, hs] at this
          rw [List.drop_zero, List.drop_zero] at e
          rw [e] at this
          simpa using this
        · simp only [go_sem, zA, zB, zC, reduceIte, zD, zE, zF, zG, zH, zI, reduceCtorEq, zJ, zK, zL, zM, zN, zO, zP, k2, k3]
          have := h σ.H (x2.trans (k1.le x2.1))
          rw [sameX_kids, hk, hs] at this
          rw [List.drop_zero, List.drop_zero] at e
          rw [e] at this
          simpa using this
      · simp only [go_sem, zA, zB, zC, reduceIte, zD, zE, zF, zG, zH, zI, reduceCtorEq, zJ, zK, zL, zM, zN, zO, zP, hs]
        have := h H2 x2
        rw [sameX_kids] at this
        simpa [hs] using this
    · simp only [go_sem, zA, zB, zC, reduceIte, zD, zE, zF, zG, zH, zI, reduceCtorEq, zJ, zK, zL, zM, zN, zO, zP, g2, g3, hk]
      have := h H2 x2
      rw [sameX_kids] at this
      simpa [hk] using this
  intro x
  induction x with
  | emp => exact main .emp (fun k hk => by simp [kidsX] at hk)
  | set l => exact main (.set l) (fun k hk => by simp [kidsX] at hk)
  | seq a b iha ihb => exact main (.seq a b) (fun k hk => by simp [kidsX] at hk; rcases hk with rfl | rfl; exact iha; exact ihb)
  | alt a b iha ihb => exact main (.alt a b) (fun k hk => by simp [kidsX] at hk; rcases hk with rfl | rfl; exact iha; exact ihb)
  | star a iha => exact main (.star a) (fun k hk => by simp [kidsX] at hk; subst hk; exact iha)

theorem g_One {r : Int} {H : Heap} {Q : End → Heap → Prop} (h : ∀ H' cs, Ext H.size H H' → ReV (fun b => H.size ≤ b) H' (.set [⟨r, r⟩]) cs → Q (.ret (.agg cs)) H') : wpf ⟨bt.get, o⟩ F_gobolaw6_One [.int .i32 r] H Q := by
  rw [fn_gobolaw6_One (ho _ _ _ (by decide))]
  have l0 : H.size < ((H.push (.cells [.int .i64 0, .nils, .nils] .own)).push (.cells [.int .i32 r, .int .i32 r] .own)).size := by rw [Heap.size_push, Heap.size_push]; omega
  have g0 : ((H.push (.cells [.int .i64 0, .nils, .nils] .own)).push (.cells [.int .i32 r, .int .i32 r] .own)).get H.size = .cells [.int .i64 0, .nils, .nils] .own := by rw [Heap.get_push_lt (by rw [Heap.size_push]; omega), Heap.get_push_self]
  simp only [bd_gobolaw6_One, go_sem, zA, zB, zC, reduceIte, zD, zE, zF, zG, zH, zI, reduceCtorEq, zJ, zK, zL, zM, zN, zO, zP, g0, Heap.get_set_self l0]
  refine h _ _ (((Ext.push (Nat.le_refl _)).trans (Ext.push (by rw [Heap.size_push]; omega))).trans (Ext.set (Nat.le_refl _))) ⟨_, H.size + 1, rfl, Rd.slice (u := .own) ?_ rfl, fun _ => by omega, by simp⟩
  rw [Heap.get_set_ne (by omega), Heap.get_push_eq (by rw [Heap.size_push])]; rfl
end
end Go.Ev

/- Texts of ASCII signs alone: their runes. -/
namespace Go.Ev
open Go
set_option linter.unusedSimpArgs false
set_option linter.unusedVariables false

def asc : Nat → List UInt8 → List It
  | _, [] => []
  | i, c :: r => ⟨c.toNat, i, i + 1, false, false⟩ :: asc (i + 1) r
theorem feed_asc : ∀ (r : List UInt8) (i : Nat), (∀ c ∈ r, c.toNat < 128) → feedD r [] i = ([], i + r.length, asc i r)
  | [], i, _ => rfl
  | c :: r, i, h => by
    have hc := h c (by simp)
    have h1 : longB c = 1 := by simp only [longB, longN, if_pos hc]
    have hk : okB [] c = true := by simp [okB, h1]
    have ht : takeB [] c i = ([], i + 1, [⟨c.toNat, i, i + 1, false, false⟩]) := by
      simp only [takeB, hk, if_true, afterM, List.nil_append, headB, List.headD_cons, h1, List.length_cons, List.length_nil, decR]
    simp only [feedD, ht, feed_asc r (i + 1) (fun x hx => h x (by simp [hx])), asc, List.length_cons, List.cons_append, List.nil_append]
    congr 2; omega
theorem dec_asc {s : List UInt8} (h : ∀ c ∈ s, c.toNat < 128) : decAll s = asc 0 s := by
  unfold decAll
  rw [feed_asc s 0 h]
  simp [closeD]

theorem asc_get : ∀ (s : List UInt8) (i k : Nat), (asc i s)[k]? = (s[k]?).map fun c => ⟨c.toNat, i + k, i + k + 1, false, false⟩
  | [], _, _ => by simp [asc]
  | c :: r, i, 0 => rfl
  | c :: r, i, k + 1 => by
    rw [asc, List.getElem?_cons_succ, asc_get r (i + 1) k, List.getElem?_cons_succ, show i + 1 + k = i + (k + 1) by omega]
theorem asc_len : ∀ (s : List UInt8) (i : Nat), (asc i s).length = s.length
  | [], _ => rfl
  | c :: r, i => by rw [asc, List.length_cons, asc_len r, List.length_cons]
/-- The rune at a place of such a text. -/
def chrR (s : List UInt8) (k : Nat) : Int := match s[k]? with
  | some c => (c.toNat : Int)
  | none => -1
theorem peek_ascR {s : List UInt8} {k : Nat} : peekR (asc 0 s) k = chrR s k := by
  unfold peekR chrR
  rw [asc_get]
  cases s[k]? <;> rfl
theorem at_ascR {s : List UInt8} {k : Nat} (h : k ≤ s.length) : atR (asc 0 s) s.length k = k := by
  unfold atR
  rw [asc_get]
  cases hk : s[k]? with
  | none => have := List.getElem?_eq_none_iff.1 hk; simp only [Option.map_none]; omega
  | some c => simp only [Option.map_some]; omega
end Go.Ev
