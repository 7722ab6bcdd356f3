/- Several texts of this claim, joined. -/
import Derived.Test.YtibdapopccemeaaGreatDoorT29
import Derived.Test.YtibdapopccemeaaGreatDoorT25
set_option linter.unusedSimpArgs false
set_option linter.unusedVariables false

/- Expressions from texts: what the small functions come to. -/
namespace Go.Ev
open Go
open Go.Ev renaming seqK_normal → zA, blockK_normal → zB, blockK_exit → zC
open Nat renaming reduceEqDiff → zD, reduceAdd → zE, reduceSub → zF, reduceMul → zG, reduceLeDiff → zH, reduceLT → zI
open Int renaming reduceToNat → zJ, reduceLT → zK, reduceLE → zL, reduceEq → zM, reduceAdd → zN, reduceSub → zO, reduceMul → zP
set_option maxRecDepth 8000
theorem Heap.get3_0 {H : Heap} {a b c : Blk} : (((H.push a).push b).push c).get H.size = a := by
  rw [Heap.get_push_lt (by rw [Heap.size_push, Heap.size_push]; omega), Heap.get_push_lt (by rw [Heap.size_push]; omega), Heap.get_push_self]
theorem Heap.get3_1 {H : Heap} {a b c : Blk} : (((H.push a).push b).push c).get (H.size + 1) = b := by
  rw [Heap.get_push_lt (by rw [Heap.size_push, Heap.size_push]; omega), Heap.get_push_eq (by rw [Heap.size_push])]
theorem Heap.get4_2 {H : Heap} {a b c d : Blk} : ((((H.push a).push b).push c).push d).get (H.size + 1 + 1) = c := by
  rw [Heap.get_push_lt (by simp only [Heap.size_push]; omega), Heap.get_push_eq (by simp only [Heap.size_push])]
theorem Heap.lt4_2 (H : Heap) (a b c d : Blk) : H.size + 1 + 1 < ((((H.push a).push b).push c).push d).size := by
  simp only [Heap.size_push]; omega
section
variable {o : CallF} (ho : OvOnly o)
include ho
theorem p_set {v : AV} (hv : AV.cells v = [v] ∧ AV.one v = true) {H : Heap} {Q : End → Heap → Prop} (h : ∀ H', Ext H.size H H' → Q (.ret (.agg [.int .i64 2, v, .nils])) H') : wpf ⟨bt.get, o⟩ F_parse_set [v] H Q := by
  rw [fn_parse_set (ho _ _ _ (by decide))]
  simp only [bd_parse_set, go_sem, zA, zB, zC, reduceIte, zD, zE, zF, zG, zH, zI, reduceCtorEq, zJ, zK, zL, zM, zN, zO, zP, hv.1, hv.2]
  exact h _ (Ext.push (Nat.le_refl _))
theorem p_two {k : Int} {cx cy : List AV} {P P' : Nat → Prop} {x y : Rx} {H0 H0' : Heap} (hx : ReV P H0 x cx) (hy : ReV P' H0' y cy) {H : Heap} {Q : End → Heap → Prop}
    (h : ∀ H' b, Ext H.size H H' → H.size ≤ b → Rd H' 3 (cx ++ cy) 2 (.slice b 0 2 2) b → Q (.ret (.agg [.int .i64 k, .nils, .slice b 0 2 2])) H') : wpf ⟨bt.get, o⟩ F_parse_two [.int .i64 k, .agg cx, .agg cy] H Q := by
  rw [fn_parse_two (ho _ _ _ (by decide))]
  obtain ⟨kx, vx, wx, ex, ⟨x1, x2⟩, x3, x4⟩ := hx.form
  obtain ⟨ky, vy, wy, ey, ⟨y1, y2⟩, y3, y4⟩ := hy.form
  subst ex ey
  simp only [bd_parse_two, go_sem, zA, zB, zC, reduceIte, zD, zE, zF, zG, zH, zI, reduceCtorEq, zJ, zK, zL, zM, zN, zO, zP, x1, x2, x3, x4, y1, y2, y3, y4, Heap.get3_0, Heap.get3_1, Heap.get4_2, Heap.get_set_self (Heap.lt4_2 _ _ _ _ _)]
  refine h _ _ ((((Ext.push (Nat.le_refl _)).trans (Ext.push (by rw [Heap.size_push]; omega))).trans (Ext.push (by rw [Heap.size_push, Heap.size_push]; omega))).trans ((Ext.push (by rw [Heap.size_push, Heap.size_push, Heap.size_push]; omega)).trans (Ext.set (by omega)))) (by omega) (Rd.slice (u := .own) ?_ rfl)
  rw [Heap.get_set_ne (by omega), Heap.get_push_eq (by simp only [Heap.size_push])]
  rfl
/-- One star behind the other. -/
theorem p_stars {xb rb e d ib b3 b6 n1 : Nat} {its : List It} {iv v2 sm : AV} (h1 : xb < n1) (h2 : rb < n1) (h3 : 0 < its.length → ib < n1) (h6 : n1 ≤ b6) {Q : Ctl → St → Prop} : ∀ (m k : Nat) (x : Rx) (cs : List AV) (H : Heap), its.length - k ≤ m → PS xb rb H its e k d iv ib → H.get b6 = .cells cs .own → ReV (fun b => n1 ≤ b ∧ b ≠ b6) H x cs →
    (∀ H' cs' t v, FrX [rb, b6] H.size H H' → PS xb rb H' its e (starsP its m x k).2 d iv ib → H'.get b6 = .cells cs' .own → ReV (fun b => n1 ≤ b ∧ b ≠ b6) H' (starsP its m x k).1 cs' → Q (.exit 2) { p := [(0, .ptr xb 0), (2, v2), (3, .ptr b3 0), (4, sm), (6, .ptr b6 0), (34, v)], t := t, H := H', d := [], u := .norm }) →
    wpl ⟨bt.get, o⟩ [0, 2, 3, 4, 6] lb_parse_regex_row_0 { p := [(0, .ptr xb 0), (2, v2), (3, .ptr b3 0), (4, sm), (6, .ptr b6 0)], t := [], H := H, d := [], u := .norm } Q := by
  intro m
  induction m with
  | zero =>
    intro k x cs H hm hP h6' hR hQ
    rw [wpl_step]
    have hpk : peekR its k ≠ 42 := fun h => by have := peek_lt (its := its) (k := k) (by omega); omega
    simp only [lb_parse_regex_row_0, go_sem, zA, zB, zC, reduceIte, zD, zE, zF, zG, zH, zI, reduceCtorEq, zJ, zK, zL, zM, zN, zO, zP, hP.get]
    refine k_Skip ho (by omega) hP.rdr (fun _ => ?_) (fun h => absurd h hpk)
    simp only [go_sem, zA, zB, zC, reduceIte, zD, zE, zF, zG, zH, zI, reduceCtorEq, zJ, zK, zL, zM, zN, zO, zP]
    exact hQ H cs _ _ FrX.refl hP h6' hR
  | succ m ih =>
    intro k x cs H hm hP h6' hR hQ
    rw [wpl_step]
    simp only [lb_parse_regex_row_0, go_sem, zA, zB, zC, reduceIte, zD, zE, zF, zG, zH, zI, reduceCtorEq, zJ, zK, zL, zM, zN, zO, zP, hP.get]
    refine k_Skip ho (by omega) hP.rdr (fun hp => ?_) (fun hp H1 f1 R1 => ?_)
    · simp only [starsP, if_neg hp] at hQ
      simp only [go_sem, zA, zB, zC, reduceIte, zD, zE, zF, zG, zH, zI, reduceCtorEq, zJ, zK, zL, zM, zN, zO, zP]
      exact hQ H cs _ _ FrX.refl hP h6' hR
    · simp only [starsP, if_pos hp] at hQ
      have P1 := hP.go f1 R1
      have l6 : b6 < H.size := Heap.lt_of_get (by rw [h6']; simp)
      have g6 : H1.get b6 = .cells cs .own := f1.get h6' (by simp) (by omega)
      obtain ⟨kx, vx, wx, ex, ⟨x1, x2⟩, x3, x4⟩ := hR.form
      subst ex
      have l1 : b6 < H1.size := Nat.lt_of_lt_of_le l6 f1.1
      have g7 : (H1.push (.cells [.int .i64 kx, vx, wx] .own)).get b6 = .cells [.int .i64 kx, vx, wx] .own := by rw [Heap.get_push_lt l1, g6]
      have l7 : b6 < (H1.push (.cells [.int .i64 kx, vx, wx] .own)).size := by rw [Heap.size_push]; omega
      simp only [go_sem, zA, zB, zC, reduceIte, zD, zE, zF, zG, zH, zI, reduceCtorEq, zJ, zK, zL, zM, zN, zO, zP, g6, g7, x1, x2, x3, x4]
      have F1 : FrX [rb, b6] H.size H ((H1.push (.cells [.int .i64 kx, vx, wx] .own)).set b6 (.cells [.int .i64 5, .nils, .slice H1.size 0 1 1] .own)) :=
        ((f1.frX (Nat.le_refl _)).mono (Nat.le_refl _) (fun c hc _ => by simp at hc ⊢; exact hc.1)).trans ((FrX.ofExt (Ext.push f1.1)).trans (FrX.set (.inl (by simp))))
      have F2 : FrX [b6] H1.size H1 ((H1.push (.cells [.int .i64 kx, vx, wx] .own)).set b6 (.cells [.int .i64 5, .nils, .slice H1.size 0 1 1] .own)) := (FrX.ofExt (Ext.push (Nat.le_refl _))).trans (FrX.set (.inl (by simp)))
      refine ih (k + 1) (.star x) _ _ (by omega) (P1.keep F2 ⟨P1.lt, by simp; omega⟩ ⟨P1.rdr.lt, by simp; omega⟩ fun hp => ⟨P1.ilt hp, by have := h3 hp; simp; omega⟩) (Heap.get_set_self l7) ⟨_, H1.size, [.int .i64 kx, vx, wx], rfl, Rd.slice (u := .own) (by rw [Heap.get_set_ne (by omega), Heap.get_push_self]) rfl, ⟨by omega, by omega⟩, hR.keep fun b ⟨q1, q2⟩ q3 => ⟨F1.2 b q3 (by simp; omega), q1, q2⟩⟩ fun H' cs' t v k1 k2 k3 k4 => hQ H' cs' t v (F1.trans ⟨k1.1, fun c q1 q2 => k1.2 c (Nat.lt_of_lt_of_le q1 F1.1) q2⟩) k2 k3 k4
end
/- Parts of code. -/
def seqL : CCode → CCode
  | .seq a _ => a
  | c => c
def blkB : CCode → CCode
  | .block _ _ b => b
  | c => c
/- Expressions from texts: what the parser comes to. -/
set_option maxRecDepth 8000
/-- What a function of the parser does: it panics as told, or goes on and gives an expression. -/
def Out (xb rb : Nat) (its : List It) (e d : Nat) (iv : AV) (ib : Nat) (H : Heap) (res : Except PErr (Rx × Nat)) (Q : End → Heap → Prop) : Prop :=
  res ≠ .error .stuck ∧ (∀ (c a : Nat), res = .error (.fail c a) → ∀ H', FrX [rb, xb] H.size H H' → Q (.pan [(faultA c a, false)]) H') ∧
  (∀ y k1, res = .ok (y, k1) → ∀ H' cs, FrX [rb, xb] H.size H H' → PS xb rb H' its e k1 d iv ib → ReV (fun b => H.size ≤ b) H' y cs → Q (.ret (.agg cs)) H')
def AtomS (o : CallF) (xb rb : Nat) (its : List It) (e : Nat) (iv : AV) (ib n : Nat) : Prop := ∀ (d k : Nat) (H : Heap) (Q : End → Heap → Prop), d ≤ 1000 → PS xb rb H its e k d iv ib → Out xb rb its e d iv ib H (atomP its e n d k) Q → wpf ⟨bt.get, o⟩ F_parse_regex_atom [.ptr xb 0] H Q
def RowS (o : CallF) (xb rb : Nat) (its : List It) (e : Nat) (iv : AV) (ib n : Nat) : Prop := ∀ (d k : Nat) (H : Heap) (Q : End → Heap → Prop), d ≤ 1000 → PS xb rb H its e k d iv ib → Out xb rb its e d iv ib H (rowP its e n d .emp false k) Q → wpf ⟨bt.get, o⟩ F_parse_regex_row [.ptr xb 0] H Q
def AllS (o : CallF) (xb rb : Nat) (its : List It) (e : Nat) (iv : AV) (ib n : Nat) : Prop := ∀ (d k : Nat) (H : Heap) (Q : End → Heap → Prop), d ≤ 1000 → PS xb rb H its e k d iv ib → Out xb rb its e d iv ib H (allP its e n d k) Q → wpf ⟨bt.get, o⟩ F_parse_regex_all [.ptr xb 0] H Q
def RowL (o : CallF) (xb rb : Nat) (its : List It) (e : Nat) (iv : AV) (ib n : Nat) : Prop := ∀ (d k : Nat) (x : Rx) (sm : Bool) (cs : List AV) (b2 b3 n0 : Nat) (H : Heap) (Q : Ctl → St → Prop), d ≤ 1000 → PS xb rb H its e k d iv ib → n0 ≤ H.size → b2 < H.size → n0 ≤ b3 → xb < n0 → rb < n0 → (0 < its.length → ib < n0) → H.get b3 = .cells cs .own → ReV (fun b => n0 ≤ b ∧ b ≠ b2 ∧ b ≠ b3) H x cs →
  rowP its e n d x sm k ≠ .error .stuck →
  (∀ (c a : Nat), rowP its e n d x sm k = .error (.fail c a) → ∀ σ : St, FrX [rb, xb, b3] H.size H σ.H → σ.d = [] → Q (.panic [(faultA c a, false)]) σ) →
  (∀ y k1, rowP its e n d x sm k = .ok (y, k1) → ∀ H' cs' xx t, FrX [rb, xb, b3] H.size H H' → PS xb rb H' its e k1 d iv ib → H'.get b3 = .cells cs' .own → ReV (fun b => n0 ≤ b ∧ b ≠ b2 ∧ b ≠ b3) H' y cs' → Q (.exit 0) { p := (0, .ptr xb 0) :: (2, .ptr b2 0) :: (3, .ptr b3 0) :: xx, t := t, H := H', d := [], u := .norm }) →
  wpl ⟨bt.get, o⟩ [0, 2, 3, 4, 5] lb_parse_regex_row_1 { p := [(0, .ptr xb 0), (2, .ptr b2 0), (3, .ptr b3 0), (4, .bool sm), (5, .int .i32 (peekR its k))], t := [], H := H, d := [], u := .norm } Q
def AltL (o : CallF) (xb rb : Nat) (its : List It) (e : Nat) (iv : AV) (ib n : Nat) : Prop := ∀ (d k : Nat) (x : Rx) (cs : List AV) (b2 b3 n0 : Nat) (H : Heap) (Q : Ctl → St → Prop), d ≤ 1000 → PS xb rb H its e k d iv ib → n0 ≤ H.size → b2 < H.size → n0 ≤ b3 → xb < n0 → rb < n0 → (0 < its.length → ib < n0) → H.get b3 = .cells cs .own → ReV (fun b => n0 ≤ b ∧ b ≠ b2 ∧ b ≠ b3) H x cs →
  altP its e n d x k ≠ .error .stuck →
  (∀ (c a : Nat), altP its e n d x k = .error (.fail c a) → ∀ σ : St, FrX [rb, xb, b3] H.size H σ.H → σ.d = [] → Q (.panic [(faultA c a, false)]) σ) →
  (∀ y k1, altP its e n d x k = .ok (y, k1) → ∀ H' cs' xx t, FrX [rb, xb, b3] H.size H H' → PS xb rb H' its e k1 d iv ib → H'.get b3 = .cells cs' .own → ReV (fun b => n0 ≤ b ∧ b ≠ b2 ∧ b ≠ b3) H' y cs' → Q (.exit 0) { p := (0, .ptr xb 0) :: (2, .ptr b2 0) :: (3, .ptr b3 0) :: xx, t := t, H := H', d := [], u := .norm }) →
  wpl ⟨bt.get, o⟩ [0, 2, 3] lb_parse_regex_all_0 { p := [(0, .ptr xb 0), (2, .ptr b2 0), (3, .ptr b3 0)], t := [], H := H, d := [], u := .norm } Q
section
variable {o : CallF} (ho : OvOnly o)
include ho
theorem row_step {xb rb e ib n : Nat} {its : List It} {iv : AV} (hA : AtomS o xb rb its e iv ib n) (hW : RowL o xb rb its e iv ib n) : RowL o xb rb its e iv ib (n + 1) := by
  intro d k x sm cs b2 b3 n0 H Q hd hP hn hb2 hb3 hx hr hi g3 hR hns hF hT
  have l3 : b3 < H.size := Heap.lt_of_get (by rw [g3]; simp)
  rw [wpl_step]
  by_cases he : peekR its k = -1 ∨ peekR its k = 124 ∨ peekR its k = 41
  · have er : rowP its e (n + 1) d x sm k = .ok (x, k) := by rw [rowP, if_pos he]
    rcases he with h | h | h
    · simp only [lb_parse_regex_row_1, go_sem, zA, zB, zC, reduceIte, zD, zE, zF, zG, zH, zI, reduceCtorEq, zJ, zK, zL, zM, zN, zO, zP, h]
      exact hT x k er H cs _ _ FrX.refl hP g3 hR
    · simp only [lb_parse_regex_row_1, go_sem, zA, zB, zC, reduceIte, zD, zE, zF, zG, zH, zI, reduceCtorEq, zJ, zK, zL, zM, zN, zO, zP, h]
      exact hT x k er H cs _ _ FrX.refl hP g3 hR
    · simp only [lb_parse_regex_row_1, go_sem, zA, zB, zC, reduceIte, zD, zE, zF, zG, zH, zI, reduceCtorEq, zJ, zK, zL, zM, zN, zO, zP, h]
      exact hT x k er H cs _ _ FrX.refl hP g3 hR
  · have c1 : ¬ peekR its k = -1 := fun h => he (.inl h)
    have c2 : ¬ peekR its k = 124 := fun h => he (.inr (.inl h))
    have c3 : ¬ peekR its k = 41 := fun h => he (.inr (.inr h))
    rw [rowP, if_neg he] at hns hF hT
    simp only [lb_parse_regex_row_1, go_sem, zA, zB, zC, reduceIte, zD, zE, zF, zG, zH, zI, reduceCtorEq, zJ, zK, zL, zM, zN, zO, zP, c1, c2, c3]
    refine hA d k H _ hd hP ⟨fun h => hns (by rw [h]), fun c a h H1 f1 => ?_, fun p k1 h H1 cp f1 P1 R1 => ?_⟩
    · simp only [go_sem, zA, zB, zC, reduceIte, zD, zE, zF, zG, zH, zI, reduceCtorEq, zJ, zK, zL, zM, zN, zO, zP]
      rw [h] at hF
      exact hF c a rfl _ (f1.mono (Nat.le_refl _) fun c hc _ => by simp at hc ⊢; exact ⟨hc.1, hc.2.1⟩) rfl
    · rw [h] at hns hF hT
      simp only at hns hF hT
      have hs1 := f1.1
      obtain ⟨kp, vp, wp, ep, ⟨x1, x2⟩, x3, x4⟩ := R1.form
      subst ep
      have xx : Ext H1.size H1 (H1.push (.cells [.int .i64 kp, vp, wp] .own)) := Ext.push (Nat.le_refl _)
      simp only [go_sem, zA, zB, zC, reduceIte, zD, zE, zF, zG, zH, zI, reduceCtorEq, zJ, zK, zL, zM, zN, zO, zP, x1, x2, x3, x4]
      refine p_stars ho (n1 := H.size) hP.lt hP.rdr.lt (fun hp => hP.ilt hp) hs1 its.length k1 p _ _ (by omega) (P1.ext xx) Heap.get_push_self (R1.keep fun b q1 q2 => ⟨xx.2 b q2, q1, by omega⟩) fun H2 cs2 t v F2 P2 g2 R2 => ?_
      generalize (starsP its its.length p k1).1 = p2 at R2 hns hF hT
      generalize (starsP its its.length p k1).2 = k2 at P2 hns hF hT
      have l6 : H1.size < H2.size := Heap.lt_of_get (by rw [g2]; simp)
      have f2 : FrX [rb, xb] H.size H H2 := f1.trans ((FrX.ofExt (Ext.push hs1)).trans (F2.mono (by rw [Heap.size_push]; omega) fun c hc hc2 => by simp at hc ⊢; exact ⟨hc.1, by omega⟩))
      have g32 : H2.get b3 = .cells cs .own := by rw [f2.2 b3 l3 (by simp; omega), g3]
      obtain ⟨kq, vq, wq, eq, ⟨y1, y2⟩, y3, y4⟩ := R2.form
      obtain ⟨kx, vx, wx, ex, ⟨z1, z2⟩, z3, z4⟩ := hR.form
      subst eq ex
      -- on behind the part
      have on : ∀ (y : Rx) (cy : List AV) (H3 : Heap) (b6 : Nat) (xx t), (∃ ky vy wy, cy = [.int .i64 ky, vy, wy] ∧ (AV.cells vy = [vy] ∧ AV.one vy = true) ∧ (AV.cells wy = [wy] ∧ AV.one wy = true)) → rowP its e n d y true k2 = rowP its e n d (if sm then .seq x p2 else p2) true k2 → FrX [rb, xb] H.size H H3 → PS xb rb H3 its e k2 d iv ib → H3.get b3 = .cells [.int .i64 kx, vx, wx] .own → H3.get b6 = .cells cy .own → ReV (fun b => n0 ≤ b ∧ b ≠ b2 ∧ b ≠ b3) H3 y cy → b3 < H3.size →
          wpc ⟨bt.get, o⟩ (seqR (seqR (seqR (blkB (seqL (seqR lb_parse_regex_row_1)))))) { p := (0, .ptr xb 0) :: (2, .ptr b2 0) :: (3, .ptr b3 0) :: (4, .bool sm) :: (6, .ptr b6 0) :: xx, t := t, H := H3, d := [], u := .norm }
            (blockK 1 [0, 2, 3, 4] (seqK ⟨bt.get, o⟩ (seqR (seqR lb_parse_regex_row_1)) (loopK ⟨bt.get, o⟩ [0, 2, 3, 4, 5] lb_parse_regex_row_1 Q))) := by
        intro y cy H3 b6 xx t ⟨ky, vy, wy, ey, ⟨u1, u2⟩, u3, u4⟩ er f3 P3 g33 g36 R3 l33
        subst ey
        rw [← er] at hns hF hT
        have F3 : FrX [b3] H3.size H3 (H3.set b3 (.cells [.int .i64 ky, vy, wy] .own)) := FrX.set (.inl (by simp))
        have P4 : PS xb rb (H3.set b3 (.cells [.int .i64 ky, vy, wy] .own)) its e k2 d iv ib := P3.keep F3 ⟨P3.lt, by simp; omega⟩ ⟨P3.rdr.lt, by simp; omega⟩ fun hp => ⟨P3.ilt hp, by have := hi hp; simp; omega⟩
        have f4 : FrX [rb, xb, b3] H.size H (H3.set b3 (.cells [.int .i64 ky, vy, wy] .own)) := (f3.mono (Nat.le_refl _) fun c hc _ => by simp at hc ⊢; exact ⟨hc.1, hc.2.1⟩).trans (FrX.set (.inl (by simp)))
        simp only [lb_parse_regex_row_1, seqL, seqR, blkB, go_sem, zA, zB, zC, reduceIte, zD, zE, zF, zG, zH, zI, reduceCtorEq, zJ, zK, zL, zM, zN, zO, zP, g36, g33, u1, u2, u3, u4, P4.get]
        refine k_Peek ho P4.rdr ?_
        simp only [go_sem, zA, zB, zC, reduceIte, zD, zE, zF, zG, zH, zI, reduceCtorEq, zJ, zK, zL, zM, zN, zO, zP]
        refine hW d k2 y true _ b2 b3 n0 _ Q hd P4 (Nat.le_trans hn f4.1) (Nat.lt_of_lt_of_le hb2 f4.1) hb3 hx hr hi (Heap.get_set_self l33) (R3.keep fun b ⟨q1, q2, q3⟩ q4 => ⟨F3.2 b q4 (by simp; omega), q1, q2, q3⟩) hns (fun c a h σ f d0 => hF c a h σ (f4.trans (f.mono f4.1 fun c hc _ => hc)) d0) fun y k1 h H' cs' xx t f => hT y k1 h H' cs' xx t (f4.trans (f.mono f4.1 fun c hc _ => hc))
      cases sm
      · simp only [go_sem, zB, zC, reduceIte, zD, zE, zF, zG, zH, zI, reduceCtorEq, zJ, zK, zL, zM, zN, zO, zP]
        rw [seqK_normal]
        simp only [go_sem, zB, zC, reduceIte, zD, zE, zF, zG, zH, zI, reduceCtorEq, zJ, zK, zL, zM, zN, zO, zP]
        rw [seqK_normal]
        simp only [go_sem, zB, zC, reduceIte, zD, zE, zF, zG, zH, zI, reduceCtorEq, zJ, zK, zL, zM, zN, zO, zP]
        rw [seqK_normal]
        exact on p2 _ H2 H1.size _ _ ⟨kq, vq, wq, rfl, ⟨y1, y2⟩, y3, y4⟩ rfl f2 P2 g32 g2 (R2.imp fun b ⟨q1, q2⟩ _ => ⟨by omega, by omega, by omega⟩) (by omega)
      · have x2' : ReV (fun b => (n0 ≤ b ∧ b ≠ b2 ∧ b ≠ b3) ∧ b < H.size) H2 x [.int .i64 kx, vx, wx] := hR.keep fun b q q4 => ⟨f2.2 b q4 (by simp; omega), q, q4⟩
        have p2' : ReV (fun b => (n0 ≤ b ∧ b ≠ b2 ∧ b ≠ b3) ∧ b ≠ H1.size) H2 p2 [.int .i64 kq, vq, wq] := R2.imp fun b ⟨q1, q2⟩ _ => ⟨⟨by omega, by omega, by omega⟩, q2⟩
        have hs2 := f2.1
        simp only [go_sem, zB, zC, reduceIte, zD, zE, zF, zG, zH, zI, reduceCtorEq, zJ, zK, zL, zM, zN, zO, zP]
        rw [seqK_normal]
        simp only [go_sem, zB, zC, reduceIte, zD, zE, zF, zG, zH, zI, reduceCtorEq, zJ, zK, zL, zM, zN, zO, zP]
        rw [seqK_normal]
        simp only [go_sem, zB, zC, reduceIte, zD, zE, zF, zG, zH, zI, reduceCtorEq, zJ, zK, zL, zM, zN, zO, zP, g32, g2, z1, z2, z3, z4, y1, y2, y3, y4]
        refine p_two ho hR R2 fun H3 nb e3 hnb Rd3 => ?_
        have g63 : H3.get H1.size = .cells [.int .i64 kq, vq, wq] .own := by rw [e3.2 _ l6, g2]
        have l63 : H1.size < H3.size := Nat.lt_of_lt_of_le l6 e3.1
        have S3 : FrX [H1.size] H3.size H3 (H3.set H1.size (.cells [.int .i64 3, .nils, .slice nb 0 2 2] .own)) := FrX.set (.inl (by simp))
        have T3 : FrX [H1.size] H2.size H2 (H3.set H1.size (.cells [.int .i64 3, .nils, .slice nb 0 2 2] .own)) := (FrX.ofExt e3).trans (S3.mono e3.1 fun c hc _ => hc)
        simp only [go_sem, zB, zC, reduceIte, zD, zE, zF, zG, zH, zI, reduceCtorEq, zJ, zK, zL, zM, zN, zO, zP, g63]
        rw [seqK_normal]
        refine on (.seq x p2) _ _ H1.size _ _ ⟨3, .nils, .slice nb 0 2 2, rfl, ⟨rfl, rfl⟩, rfl, rfl⟩ rfl (f2.trans (T3.mono hs2 fun c hc hc2 => by simp; omega)) (P2.keep T3 ⟨P2.lt, by simp; have := hP.lt; omega⟩ ⟨P2.rdr.lt, by simp; have := hP.rdr.lt; omega⟩ fun hp => ⟨P2.ilt hp, by have := hi hp; simp; omega⟩) (by rw [T3.2 b3 (by omega) (by simp; omega), g32]) (Heap.get_set_self l63) ⟨_, nb, _, _, rfl, Rd3.keep fun _ => Heap.get_set_ne (by omega), ⟨by omega, by omega, by omega⟩, x2'.keep fun b q q4 => ⟨T3.2 b q4 (by simp; omega), q.1⟩, p2'.keep fun b q q4 => ⟨T3.2 b q4 (by simp; exact q.2), q.1⟩⟩ (by rw [Heap.size_set]; omega)
theorem alt_step {xb rb e ib n : Nat} {its : List It} {iv : AV} (hW : RowS o xb rb its e iv ib n) (hA : AltL o xb rb its e iv ib n) : AltL o xb rb its e iv ib (n + 1) := by
  intro d k x cs b2 b3 n0 H Q hd hP hn hb2 hb3 hx hr hi g3 hR hns hF hT
  have l3 : b3 < H.size := Heap.lt_of_get (by rw [g3]; simp)
  rw [wpl_step]
  simp only [lb_parse_regex_all_0, go_sem, zA, zB, zC, reduceIte, zD, zE, zF, zG, zH, zI, reduceCtorEq, zJ, zK, zL, zM, zN, zO, zP, hP.get]
  refine k_Skip ho (by omega) hP.rdr (fun hp => ?_) (fun hp H1 f1 R1 => ?_)
  · simp only [go_sem, zA, zB, zC, reduceIte, zD, zE, zF, zG, zH, zI, reduceCtorEq, zJ, zK, zL, zM, zN, zO, zP]
    exact hT x k (by rw [altP, if_neg hp]) H cs _ _ FrX.refl hP g3 hR
  · rw [altP, if_pos hp] at hns hF hT
    have P1 := hP.go f1 R1
    have hs1 := f1.1
    have g31 : H1.get b3 = .cells cs .own := f1.get g3 (by simp) (by omega)
    obtain ⟨kx, vx, wx, ex, ⟨z1, z2⟩, z3, z4⟩ := hR.form
    subst ex
    simp only [go_sem, zA, zB, zC, reduceIte, zD, zE, zF, zG, zH, zI, reduceCtorEq, zJ, zK, zL, zM, zN, zO, zP, g31, z1, z2, z3, z4]
    refine hW d (k + 1) H1 _ hd P1 ⟨fun h => hns (by rw [h]), fun c a h => absurd (by rw [h]) hns, fun y k1 h H2 cy f2 P2 R2 => ?_⟩
    · rw [h] at hns hF hT
      simp only at hns hF hT
      have g32 : H2.get b3 = .cells [.int .i64 kx, vx, wx] .own := by rw [f2.2 b3 (by omega) (by simp; omega), g31]
      obtain ⟨ky, vy, wy, ey, ⟨y1, y2⟩, y3, y4⟩ := R2.form
      subst ey
      simp only [go_sem, zA, zB, zC, reduceIte, zD, zE, zF, zG, zH, zI, reduceCtorEq, zJ, zK, zL, zM, zN, zO, zP, g32, z1, z2, z3, z4, y1, y2, y3, y4]
      refine p_two ho hR R2 fun H3 nb e3 hnb Rd3 => ?_
      have g33 : H3.get b3 = .cells [.int .i64 kx, vx, wx] .own := by rw [e3.2 _ (by have := f2.1; omega), g32]
      have hs2 := f2.1
      have hs3 := e3.1
      have l33 : b3 < H3.size := by omega
      simp only [go_sem, zA, zB, zC, reduceIte, zD, zE, zF, zG, zH, zI, reduceCtorEq, zJ, zK, zL, zM, zN, zO, zP, g33, g32, z1, z2, z3, z4, Heap.get_set_self l33]
      have F12 : FrX [rb, xb, b3] H.size H H2 := ((f1.frX (Nat.le_refl _)).mono (Nat.le_refl _) fun c hc _ => by simp at hc ⊢; exact hc.1).trans (f2.mono hs1 fun c hc _ => by simp at hc ⊢; exact ⟨hc.1, hc.2.1⟩)
      have T3 : FrX [b3] H2.size H2 (H3.set b3 (.cells [.int .i64 4, .nils, .slice nb 0 2 2] .own)) := (FrX.ofExt e3).trans (FrX.set (.inl (by simp)))
      have F3 : FrX [rb, xb, b3] H.size H (H3.set b3 (.cells [.int .i64 4, .nils, .slice nb 0 2 2] .own)) := F12.trans (T3.mono (by omega) fun c hc _ => by simp at hc ⊢; exact hc.2.2)
      refine hA d k1 (.alt x y) _ b2 b3 n0 _ Q hd (P2.keep T3 ⟨P2.lt, by simp; omega⟩ ⟨P2.rdr.lt, by simp; omega⟩ fun hp => ⟨P2.ilt hp, by have := hi hp; simp; omega⟩) (Nat.le_trans hn F3.1) (Nat.lt_of_lt_of_le hb2 F3.1) hb3 hx hr hi (Heap.get_set_self l33)
        ⟨_, nb, _, _, rfl, Rd3.keep fun _ => Heap.get_set_ne (by omega), ⟨by omega, by omega, by omega⟩, hR.keep fun b q q4 => ⟨F3.2 b q4 (by simp; omega), q⟩, R2.keep fun b q q4 => ⟨T3.2 b q4 (by simp; omega), by omega, by omega, by omega⟩⟩ hns
        (fun c a h σ f d0 => hF c a h σ (F3.trans (f.mono F3.1 fun c hc _ => hc)) d0) fun y k1 h H' cs' xx t f => hT y k1 h H' cs' xx t (F3.trans (f.mono F3.1 fun c hc _ => hc))
theorem row_of {xb rb e ib n : Nat} {its : List It} {iv : AV} (hL : RowL o xb rb its e iv ib n) : RowS o xb rb its e iv ib n := by
  intro d k H Q hd hP ⟨hns, hF, hT⟩
  rw [fn_parse_regex_row (ho _ _ _ (by decide))]
  generalize hH2 : (H.push (Blk.cells [.int .i64 0, .nils, .nils] .own)).push (Blk.cells [.int .i64 1, .nils, .nils] .own) = H2
  have x2 : Ext H.size H H2 := by rw [← hH2]; exact (Ext.push (Nat.le_refl _)).trans (Ext.push (by rw [Heap.size_push]; omega))
  have z2 : H2.size = H.size + 2 := by rw [← hH2]; rfl
  have g2 : H2.get H.size = .cells [.int .i64 0, .nils, .nils] .own := by rw [← hH2, Heap.get_push_lt (by rw [Heap.size_push]; omega), Heap.get_push_self]
  have g3 : H2.get (H.size + 1) = .cells [.int .i64 1, .nils, .nils] .own := by rw [← hH2, Heap.get_push_eq (by rw [Heap.size_push])]
  have P2 := hP.ext x2
  simp only [bd_parse_regex_row, go_sem, zA, zB, zC, reduceIte, zD, zE, zF, zG, zH, zI, reduceCtorEq, zJ, zK, zL, zM, zN, zO, zP, hH2, P2.get]
  refine k_Peek ho P2.rdr ?_
  simp only [go_sem, zA, zB, zC, reduceIte, zD, zE, zF, zG, zH, zI, reduceCtorEq, zJ, zK, zL, zM, zN, zO, zP]
  refine hL d k .emp false _ H.size (H.size + 1) H.size H2 _ hd P2 (by omega) (by omega) (by omega) hP.lt hP.rdr.lt (fun hp => hP.ilt hp) g3 rfl hns (fun c a h σ f d0 => ?_) fun y k1 h H' cs' xx t f P' g' R' => ?_
  · simp only [go_sem, zA, zB, zC, reduceIte, zD, zE, zF, zG, zH, zI, reduceCtorEq, zJ, zK, zL, zM, zN, zO, zP, d0]
    exact hF c a h _ ((FrX.ofExt x2).trans (f.mono (by omega) fun c hc hc2 => by simp at hc ⊢; exact ⟨hc.1, hc.2, by omega⟩))
  · have g2' : H'.get H.size = .cells [.int .i64 0, .nils, .nils] .own := by
      rw [f.2 H.size (by omega) (by have := hP.lt; have := hP.rdr.lt; simp; omega), g2]
    have l2' : H.size < H'.size := Heap.lt_of_get (by rw [g2']; simp)
    obtain ⟨ky, vy, wy, ey, ⟨y1, y2⟩, y3, y4⟩ := R'.form
    subst ey
    have T : FrX [H.size] H'.size H' (H'.set H.size (.cells [.int .i64 ky, vy, wy] .own)) := FrX.set (.inl (by simp))
    simp only [go_sem, zA, zB, zC, reduceIte, zD, zE, zF, zG, zH, zI, reduceCtorEq, zJ, zK, zL, zM, zN, zO, zP, g', g2', y1, y2, y3, y4, Heap.get_set_self l2']
    refine hT y k1 h _ _ ((FrX.ofExt x2).trans ((f.mono (by omega) fun c hc hc2 => by simp at hc ⊢; exact ⟨hc.1, hc.2, by omega⟩).trans (FrX.set (.inr (Nat.le_refl _))))) (P'.keep T ⟨P'.lt, by have := hP.lt; simp; omega⟩ ⟨P'.rdr.lt, by have := hP.rdr.lt; simp; omega⟩ fun hp => ⟨P'.ilt hp, by have := hP.ilt hp; simp; omega⟩) (R'.keep fun b ⟨q1, q2, q3⟩ q4 => ⟨T.2 b q4 (by simp; exact q2), q1⟩)
theorem all_of {xb rb e ib n : Nat} {its : List It} {iv : AV} (hW : RowS o xb rb its e iv ib n) (hL : AltL o xb rb its e iv ib n) : AllS o xb rb its e iv ib n := by
  intro d k H Q hd hP ⟨hns, hF, hT⟩
  rw [fn_parse_regex_all (ho _ _ _ (by decide))]
  have x0 : Ext H.size H (H.push (Blk.cells [.int .i64 0, .nils, .nils] .own)) := Ext.push (Nat.le_refl _)
  have g0 : (H.push (Blk.cells [.int .i64 0, .nils, .nils] .own)).get H.size = .cells [.int .i64 0, .nils, .nils] .own := Heap.get_push_self
  have z0 : (H.push (Blk.cells [.int .i64 0, .nils, .nils] .own)).size = H.size + 1 := Heap.size_push _ _
  simp only [bd_parse_regex_all, go_sem, zA, zB, zC, reduceIte, zD, zE, zF, zG, zH, zI, reduceCtorEq, zJ, zK, zL, zM, zN, zO, zP]
  generalize H.push (Blk.cells [.int .i64 0, .nils, .nils] .own) = H0 at x0 g0 z0 ⊢
  unfold allP at hns hF hT
  refine hW d k H0 _ hd (hP.ext x0) ⟨fun h => hns (by rw [h]), fun c a h H1 f1 => ?_, fun x k1 h H1 cx f1 P1 R1 => ?_⟩
  · rw [h] at hF
    simp only [go_sem, zA, zB, zC, reduceIte, zD, zE, zF, zG, zH, zI, reduceCtorEq, zJ, zK, zL, zM, zN, zO, zP]
    exact hF c a rfl _ ((FrX.ofExt x0).trans (f1.mono (by omega) fun c hc _ => hc))
  · rw [h] at hns hF hT
    simp only at hns hF hT
    obtain ⟨kx, vx, wx, ex, ⟨x1, x2⟩, x3, x4⟩ := R1.form
    subst ex
    have hs1 := f1.1
    have e1 : Ext H1.size H1 (H1.push (Blk.cells [.int .i64 kx, vx, wx] .own)) := Ext.push (Nat.le_refl _)
    have g01 : (H1.push (Blk.cells [.int .i64 kx, vx, wx] .own)).get H.size = .cells [.int .i64 0, .nils, .nils] .own := by
      rw [Heap.get_push_lt (by omega), f1.2 _ (by omega) (by have := hP.lt; have := hP.rdr.lt; simp; omega), g0]
    simp only [go_sem, zA, zB, zC, reduceIte, zD, zE, zF, zG, zH, zI, reduceCtorEq, zJ, zK, zL, zM, zN, zO, zP, x1, x2, x3, x4]
    refine hL d k1 x _ H.size H1.size H.size _ _ hd (P1.ext e1) (by rw [Heap.size_push]; omega) (by rw [Heap.size_push]; omega) (by omega) hP.lt hP.rdr.lt (fun hp => hP.ilt hp) Heap.get_push_self (R1.keep fun b q1 q2 => ⟨e1.2 b q2, by omega, by omega, by omega⟩) hns (fun c a h σ f d0 => ?_) fun y k2 h H' cs' xx t f P' g' R' => ?_
    · simp only [go_sem, zA, zB, zC, reduceIte, zD, zE, zF, zG, zH, zI, reduceCtorEq, zJ, zK, zL, zM, zN, zO, zP, d0]
      exact hF c a h _ ((FrX.ofExt x0).trans ((f1.mono (by omega) fun c hc _ => hc).trans ((FrX.ofExt (e1.le (by omega))).trans (f.mono (by rw [Heap.size_push]; omega) fun c hc hc2 => by simp at hc ⊢; exact ⟨hc.1, hc.2, by omega⟩))))
    · have g2' : H'.get H.size = .cells [.int .i64 0, .nils, .nils] .own := by
        rw [f.2 H.size (by rw [Heap.size_push]; omega) (by have := hP.lt; have := hP.rdr.lt; simp; omega), g01]
      have l2' : H.size < H'.size := Heap.lt_of_get (by rw [g2']; simp)
      obtain ⟨ky, vy, wy, ey, ⟨y1, y2⟩, y3, y4⟩ := R'.form
      subst ey
      have T : FrX [H.size] H'.size H' (H'.set H.size (.cells [.int .i64 ky, vy, wy] .own)) := FrX.set (.inl (by simp))
      simp only [go_sem, zA, zB, zC, reduceIte, zD, zE, zF, zG, zH, zI, reduceCtorEq, zJ, zK, zL, zM, zN, zO, zP, g', g2', y1, y2, y3, y4, Heap.get_set_self l2']
      refine hT y k2 h _ _ ((FrX.ofExt x0).trans ((f1.mono (by omega) fun c hc _ => hc).trans ((FrX.ofExt (e1.le (by omega))).trans ((f.mono (by rw [Heap.size_push]; omega) fun c hc hc2 => by simp at hc ⊢; exact ⟨hc.1, hc.2, by omega⟩).trans (FrX.set (.inr (Nat.le_refl _))))))) (P'.keep T ⟨P'.lt, by have := hP.lt; simp; omega⟩ ⟨P'.rdr.lt, by have := hP.rdr.lt; simp; omega⟩ fun hp => ⟨P'.ilt hp, by have := hP.ilt hp; simp; omega⟩) (R'.keep fun b ⟨q1, q2, q3⟩ q4 => ⟨T.2 b q4 (by simp; exact q2), q1⟩)
end
end Go.Ev
