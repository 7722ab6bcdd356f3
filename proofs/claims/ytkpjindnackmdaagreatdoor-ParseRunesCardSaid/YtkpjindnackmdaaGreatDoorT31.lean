/- Several texts of this claim, joined. -/
import Derived.Test.YtkpjindnackmdaaGreatDoorT30
import Derived.Test.YtkpjindnackmdaaGreatDoorT25

/- Expressions from texts: what the parser comes to. -/
namespace Go.Ev
open Go
open Go.Ev renaming seqK_normal → zA, blockK_normal → zB, blockK_exit → zC
open Nat renaming reduceEqDiff → zD, reduceAdd → zE, reduceSub → zF, reduceMul → zG, reduceLeDiff → zH, reduceLT → zI
open Int renaming reduceToNat → zJ, reduceLT → zK, reduceLE → zL, reduceEq → zM, reduceAdd → zN, reduceSub → zO, reduceMul → zP
set_option linter.unusedSimpArgs false
set_option linter.unusedVariables false
set_option maxRecDepth 8000

/-- What a function of the parser does: it panics as told, or goes on and gives an expression. -/
def Out (xb rb : Nat) (its : List It) (e d : Nat) (iv : AV) (ib : Nat) (H : Heap) (res : Except PErr (Rx × Nat)) (Q : End → Heap → Prop) : Prop :=
  res ≠ .error .stuck ∧ (∀ (c a : Nat), res = .error (.fail c a) → ∀ H', FrX [rb, xb] H.size H H' → Q (.pan [(faultA c a, false)]) H') ∧
  (∀ y k1, res = .ok (y, k1) → ∀ H' cs, FrX [rb, xb] H.size H H' → PS xb rb H' its e k1 d iv ib → ReV (fun b => H.size ≤ b) H' y cs → Q (.ret (.agg cs)) H')
def AtomS (o : CallF) (xb rb : Nat) (its : List It) (e : Nat) (iv : AV) (ib n : Nat) : Prop := ∀ (d k : Nat) (H : Heap) (Q : End → Heap → Prop), d ≤ 1000 → PS xb rb H its e k d iv ib → Out xb rb its e d iv ib H (atomP its e n d k) Q → wpf ⟨bt.get, o⟩ F_parse_regex_atom [.ptr xb 0] H Q
def RowS (o : CallF) (xb rb : Nat) (its : List It) (e : Nat) (iv : AV) (ib n : Nat) : Prop := ∀ (d k : Nat) (H : Heap) (Q : End → Heap → Prop), d ≤ 1000 → PS xb rb H its e k d iv ib → Out xb rb its e d iv ib H (rowP its e n d .emp false k) Q → wpf ⟨bt.get, o⟩ F_parse_regex_row [.ptr xb 0] H Q
def AllS (o : CallF) (xb rb : Nat) (its : List It) (e : Nat) (iv : AV) (ib n : Nat) : Prop := ∀ (d k : Nat) (H : Heap) (Q : End → Heap → Prop), d ≤ 1000 → PS xb rb H its e k d iv ib → Out xb rb its e d iv ib H (allP its e n d k) Q → wpf ⟨bt.get, o⟩ F_parse_regex_all [.ptr xb 0] H Q
def RowL (o : CallF) (xb rb : Nat) (its : List It) (e : Nat) (iv : AV) (ib n : Nat) : Prop := ∀ (d k : Nat) (x : Rx) (sm : Bool) (cs : List AV) (b2 b3 n0 : Nat) (H : Heap) (Q : Ctl → St → Prop), d ≤ 1000 → PS xb rb H its e k d iv ib → n0 ≤ H.size → b2 < H.size → n0 ≤ b3 → xb < n0 → rb < n0 → (0 < its.length → ib < n0) → H.get b3 = .cells cs .own → ReV (fun b => n0 ≤ b ∧ b ≠ b2 ∧ b ≠ b3) H x cs →
  rowP its e n d x sm k ≠ .error .stuck →
  (∀ (c a : Nat), rowP its e n d x sm k = .error (.fail c a) → ∀ σ : St, FrX [rb, xb, b3] H.size H σ.H → σ.d = [] → Q (.panic [(faultA c a, false)]) σ) →
  (∀ y k1, rowP its e n d x sm k = .ok (y, k1) → ∀ H' cs' xx t, FrX [rb, xb, b3] H.size H H' → PS xb rb H' its e k1 d iv ib → H'.get b3 = .cells cs' .own → ReV (fun b => n0 ≤ b ∧ b ≠ b2 ∧ b ≠ b3) H' y cs' → Q (.exit 0) { p := (0, .ptr xb 0) :: (2, .ptr b2 0) :: (3, .ptr b3 0) :: xx, t := t, H := H', d := [], u := .norm }) →
  wpl ⟨bt.get, o⟩ [0, 2, 3, 4, 5] lb_parse_regex_row_1 { p := [(0, .ptr xb 0), (2, .ptr b2 0), (3, .ptr b3 0), (4, .bool sm), (5, .int .i32 (peekR its k))], t := [], H := H, d := [], u := .norm } Q
def AltL (o : CallF) (xb rb : Nat) (its : List It) (e : Nat) (iv : AV) (ib n : Nat) : Prop := ∀ (d k : Nat) (x : Rx) (cs : List AV) (b2 b3 n0 : Nat) (H : Heap) (Q : Ctl → St → Prop), d ≤ 1000 → PS xb rb H its e k d iv ib → n0 ≤ H.size → b2 < H.size → n0 ≤ b3 → xb < n0 → rb < n0 → (0 < its.length → ib < n0) → H.get b3 = .cells cs .own → ReV (fun b => n0 ≤ b ∧ b ≠ b2 ∧ b ≠ b3) H x cs →
  altP its e n d x k ≠ .error .stuck →
  (∀ (c a : Nat), altP its e n d x k = .error (.fail c a) → ∀ σ : St, FrX [rb, xb, b3] H.size H σ.H → σ.d = [] → Q (.panic [(faultA c a, false)]) σ) →
  (∀ y k1, altP its e n d x k = .ok (y, k1) → ∀ H' cs' xx t, FrX [rb, xb, b3] H.size H H' → PS xb rb H' its e k1 d iv ib → H'.get b3 = .cells cs' .own → ReV (fun b => n0 ≤ b ∧ b ≠ b2 ∧ b ≠ b3) H' y cs' → Q (.exit 0) { p := (0, .ptr xb 0) :: (2, .ptr b2 0) :: (3, .ptr b3 0) :: xx, t := t, H := H', d := [], u := .norm }) →
  wpl ⟨bt.get, o⟩ [0, 2, 3] lb_parse_regex_all_0 { p := [(0, .ptr xb 0), (2, .ptr b2 0), (3, .ptr b3 0)], t := [], H := H, d := [], u := .norm } Q

section
variable {o : CallF} (ho : OvOnly o)
include ho

theorem row_step {xb rb e ib n : Nat} {its : List It} {iv : AV} (hA : AtomS o xb rb its e iv ib n) (hW : RowL o xb rb its e iv ib n) : RowL o xb rb its e iv ib (n + 1) := by
  intro d k x sm cs b2 b3 n0 H Q hd hP hn hb2 hb3 hx hr hi g3 hR hns hF hT
  have l3 : b3 < H.size := Heap.lt_of_get (by rw [g3]; simp)
  rw [wpl_step]
  by_cases he : peekR its k = -1 ∨ peekR its k = 124 ∨ peekR its k = 41
  · have er : rowP its e (n + 1) d x sm k = .ok (x, k) := by rw [rowP, if_pos he]
    rcases he with h | h | h
    · simp only [lb_parse_regex_row_1, go_sem, zA, zB, zC, reduceIte, zD, zE, zF, zG, zH, zI, reduceCtorEq, zJ, zK, zL, zM, zN, zO, zP, h]
      exact hT x k er H cs _ _ FrX.refl hP g3 hR
    · simp only [lb_parse_regex_row_1, go_sem, zA, zB, zC, reduceIte, zD, zE, zF, zG, zH, zI, reduceCtorEq, zJ, zK, zL, zM, zN, zO, zP, h]
      exact hT x k er H cs _ _ FrX.refl hP g3 hR
    · simp only [lb_parse_regex_row_1, go_sem, zA, zB, zC, reduceIte, zD, zE, zF, zG, zH, zI, reduceCtorEq, zJ, zK, zL, zM, zN, zO, zP, h]
      exact hT x k er H cs _ _ FrX.refl hP g3 hR
  · have c1 : ¬ peekR its k = -1 := fun h => he (.inl h)
    have c2 : ¬ peekR its k = 124 := fun h => he (.inr (.inl h))
    have c3 : ¬ peekR its k = 41 := fun h => he (.inr (.inr h))
    rw [rowP, if_neg he] at hns hF hT
    simp only [lb_parse_regex_row_1, go_sem, zA, zB, zC, reduceIte, zD, zE, zF, zG, zH, zI, reduceCtorEq, zJ, zK, zL, zM, zN, zO, zP, c1, c2, c3]
    refine hA d k H _ hd hP ⟨fun h => hns (by rw [h]), fun c a h H1 f1 => ?_, fun p k1 h H1 cp f1 P1 R1 => ?_⟩
    · simp only [go_sem, zA, zB, zC, reduceIte, zD, zE, zF, zG, zH, zI, reduceCtorEq, zJ, zK, zL, zM, zN, zO, zP]
      rw [h] at hF
      exact hF c a rfl _ (f1.mono (Nat.le_refl _) fun c hc _ => by simp at hc ⊢; exact ⟨hc.1, hc.2.1⟩) rfl
    · rw [h] at hns hF hT
      simp only at hns hF hT
      have hs1 := f1.1
      obtain ⟨kp, vp, wp, ep, ⟨x1, x2⟩, x3, x4⟩ := R1.form
      subst ep
      have xx : Ext H1.size H1 (H1.push (.cells [.int .i64 kp, vp, wp] .own)) := Ext.push (Nat.le_refl _)
      simp only [go_sem, zA, zB, zC, reduceIte, zD, zE, zF, zG, zH, zI, reduceCtorEq, zJ, zK, zL, zM, zN, zO, zP, x1, x2, x3, x4]
      refine p_stars ho (n1 := H.size) hP.lt hP.rdr.lt (fun hp => hP.ilt hp) hs1 its.length k1 p _ _ (by omega) (P1.ext xx) Heap.get_push_self (R1.keep fun b q1 q2 => ⟨xx.2 b q2, q1, by omega⟩) fun H2 cs2 t v F2 P2 g2 R2 => ?_
      generalize (starsP its its.length p k1).1 = p2 at R2 hns hF hT
      generalize (starsP its its.length p k1).2 = k2 at P2 hns hF hT
      have l6 : H1.size < H2.size := Heap.lt_of_get (by rw [g2]; simp)
      have f2 : FrX [rb, xb] H.size H H2 := f1.trans ((FrX.ofExt (Ext.push hs1)).trans (F2.mono (by rw [Heap.size_push]; omega) fun c hc hc2 => by simp at hc ⊢; exact ⟨hc.1, by omega⟩))
      have g32 : H2.get b3 = .cells cs .own := by rw [f2.2 b3 l3 (by simp; omega), g3]
      obtain ⟨kq, vq, wq, eq, ⟨y1, y2⟩, y3, y4⟩ := R2.form
      obtain ⟨kx, vx, wx, ex, ⟨z1, z2⟩, z3, z4⟩ := hR.form
      subst eq ex
      -- on behind the part
      have on : ∀ (y : Rx) (cy : List AV) (H3 : Heap) (b6 : Nat) (xx t), (∃ ky vy wy, cy = [.int .i64 ky, vy, wy] ∧ (AV.cells vy = [vy] ∧ AV.one vy = true) ∧ (AV.cells wy = [wy] ∧ AV.one wy = true)) → rowP its e n d y true k2 = rowP its e n d (if sm then .seq x p2 else p2) true k2 → FrX [rb, xb] H.size H H3 → PS xb rb H3 its e k2 d iv ib → H3.get b3 = .cells [.int .i64 kx, vx, wx] .own → H3.get b6 = .cells cy .own → ReV (fun b => n0 ≤ b ∧ b ≠ b2 ∧ b ≠ b3) H3 y cy → b3 < H3.size →
          wpc ⟨bt.get, o⟩ (seqR (seqR (seqR (blkB (seqL (seqR lb_parse_regex_row_1)))))) { p := (0, .ptr xb 0) :: (2, .ptr b2 0) :: (3, .ptr b3 0) :: (4, .bool sm) :: (6, .ptr b6 0) :: xx, t := t, H := H3, d := [], u := .norm }
            (blockK 1 [0, 2, 3, 4] (seqK ⟨bt.get, o⟩ (seqR (seqR lb_parse_regex_row_1)) (loopK ⟨bt.get, o⟩ [0, 2, 3, 4, 5] lb_parse_regex_row_1 Q))) := by
        intro y cy H3 b6 xx t ⟨ky, vy, wy, ey, ⟨u1, u2⟩, u3, u4⟩ er f3 P3 g33 g36 R3 l33
        subst ey
        rw [← er] at hns hF hT
        have F3 : FrX [b3] H3.size H3 (H3.set b3 (.cells [.int .i64 ky, vy, wy] .own)) := FrX.set (.inl (by simp))
        have P4 : PS xb rb (H3.set b3 (.cells [.int .i64 ky, vy, wy] .own)) its e k2 d iv ib := P3.keep F3 ⟨P3.lt, by simp; omega⟩ ⟨P3.rdr.lt, by simp; omega⟩ fun hp => ⟨P3.ilt hp, by have := hi hp; simp; omega⟩
        have f4 : FrX [rb, xb, b3] H.size H (H3.set b3 (.cells [.int .i64 ky, vy, wy] .own)) := (f3.mono (Nat.le_refl _) fun c hc _ => by simp at hc ⊢; exact ⟨hc.1, hc.2.1⟩).trans (FrX.set (.inl (by simp)))
        simp only [lb_parse_regex_row_1, seqL, seqR, blkB, go_sem, zA, zB, zC, reduceIte, zD, zE, zF, zG, zH, zI, reduceCtorEq, zJ, zK, zL, zM, zN, zO, zP, g36, g33, u1, u2, u3, u4, P4.get]
        refine k_Peek ho P4.rdr ?_
        simp only [go_sem, zA, zB, zC, reduceIte, zD, zE, zF, zG, zH, zI, reduceCtorEq, zJ, zK, zL, zM, zN, zO, zP]
        refine hW d k2 y true _ b2 b3 n0 _ Q hd P4 (Nat.le_trans hn f4.1) (Nat.lt_of_lt_of_le hb2 f4.1) hb3 hx hr hi (Heap.get_set_self l33) (R3.keep fun b ⟨q1, q2, q3⟩ q4 => ⟨F3.2 b q4 (by simp; omega), q1, q2, q3⟩) hns (fun c a h σ f d0 => hF c a h σ (f4.trans (f.mono f4.1 fun c hc _ => hc)) d0) fun y k1 h H' cs' xx t f => hT y k1 h H' cs' xx t (f4.trans (f.mono f4.1 fun c hc _ => hc))
      cases sm
      · simp only [go_sem, zB, zC, reduceIte, zD, zE, zF, zG, zH, zI, reduceCtorEq, zJ, zK, zL, zM, zN, zO, zP]
        rw [seqK_normal]
        simp only [go_sem, zB, zC, reduceIte, zD, zE, zF, zG, zH, zI, reduceCtorEq, zJ, zK, zL, zM, zN, zO, zP]
        rw [seqK_normal]
        simp only [go_sem, zB, zC, reduceIte, zD, zE, zF, zG, zH, zI, reduceCtorEq, zJ, zK, zL, zM, zN, zO, zP]
        rw [seqK_normal]
        exact on p2 _ H2 H1.size _ _ ⟨kq, vq, wq, rfl, ⟨y1, y2⟩, y3, y4⟩ rfl f2 P2 g32 g2 (R2.imp fun b ⟨q1, q2⟩ _ => ⟨by omega, by omega, by omega⟩) (by omega)
      · have x2' : ReV (fun b => (n0 ≤ b ∧ b ≠ b2 ∧ b ≠ b3) ∧ b < H.size) H2 x [.int .i64 kx, vx, wx] := hR.keep fun b q q4 => ⟨f2.2 b q4 (by simp; omega), q, q4⟩
        have p2' : ReV (fun b => (n0 ≤ b ∧ b ≠ b2 ∧ b ≠ b3) ∧ b ≠ H1.size) H2 p2 [.int .i64 kq, vq, wq] := R2.imp fun b ⟨q1, q2⟩ _ => ⟨⟨by omega, by omega, by omega⟩, q2⟩
        have hs2 := f2.1
        simp only [go_sem, zB, zC, reduceIte, zD, zE, zF, zG, zH, zI, reduceCtorEq, zJ, zK, zL, zM, zN, zO, zP]
        rw [seqK_normal]
        simp only [go_sem, zB, zC, reduceIte, zD, zE, zF, zG, zH, zI, reduceCtorEq, zJ, zK, zL, zM, zN, zO, zP]
        rw [seqK_normal]
        simp only [go_sem, zB, zC, reduceIte, zD, zE, zF, zG, zH, zI, reduceCtorEq, zJ, zK, zL, zM, zN, zO, zP, g32, g2, z1, z2, z3, z4, y1, y2, y3, y4]
        refine p_two ho hR R2 fun H3 nb e3 hnb Rd3 => ?_
        have g63 : H3.get H1.size = .cells [.int .i64 kq, vq, wq] .own := by rw [e3.2 _ l6, g2]
        have l63 : H1.size < H3.size := Nat.lt_of_lt_of_le l6 e3.1
        have S3 : FrX [H1.size] H3.size H3 (H3.set H1.size (.cells [.int .i64 3, .nils, .slice nb 0 2 2] .own)) := FrX.set (.inl (by simp))
        have T3 : FrX [H1.size] H2.size H2 (H3.set H1.size (.cells [.int .i64 3, .nils, .slice nb 0 2 2] .own)) := (FrX.ofExt e3).trans (S3.mono e3.1 fun c hc _ => hc)
        simp only [go_sem, zB, zC, reduceIte, zD, zE, zF, zG, zH, zI, reduceCtorEq, zJ, zK, zL, zM, zN, zO, zP, g63]
        rw [seqK_normal]
        refine on (.seq x p2) _ _ H1.size _ _ ⟨3, .nils, .slice nb 0 2 2, rfl, ⟨rfl, rfl⟩, rfl, rfl⟩ rfl (f2.trans (T3.mono hs2 fun c hc hc2 => by simp; omega)) (P2.keep T3 ⟨P2.lt, by simp; have := hP.lt; omega⟩ ⟨P2.rdr.lt, by simp; have := hP.rdr.lt; omega⟩ fun hp => ⟨P2.ilt hp, by have := hi hp; simp; omega⟩) (by rw [T3.2 b3 (by omega) (by simp; omega), g32]) (Heap.get_set_self l63) ⟨_, nb, _, _, rfl, Rd3.keep fun _ => Heap.get_set_ne (by omega), ⟨by omega, by omega, by omega⟩, x2'.keep fun b q q4 => ⟨T3.2 b q4 (by simp; omega), q.1⟩, p2'.keep fun b q q4 => ⟨T3.2 b q4 (by simp; exact q.2), q.1⟩⟩ (by rw [Heap.size_set]; omega)

theorem alt_step {xb rb e ib n : Nat} {its : List It} {iv : AV} (hW : RowS o xb rb its e iv ib n) (hA : AltL o xb rb its e iv ib n) : AltL o xb rb its e iv ib (n + 1) := by
  intro d k x cs b2 b3 n0 H Q hd hP hn hb2 hb3 hx hr hi g3 hR hns hF hT
  have l3 : b3 < H.size := Heap.lt_of_get (by rw [g3]; simp)
  rw [wpl_step]
  simp only [lb_parse_regex_all_0, go_sem, zA, zB, zC, reduceIte, zD, zE, zF, zG, zH, zI, reduceCtorEq, zJ, zK, zL, zM, zN, zO, zP, hP.get]
  refine k_Skip ho (by omega) hP.rdr (fun hp => ?_) (fun hp H1 f1 R1 => ?_)
  · simp only [go_sem, zA, zB, zC, reduceIte, zD, zE, zF, zG, zH, zI, reduceCtorEq, zJ, zK, zL, zM, zN, zO, zP]
    exact hT x k (by rw [altP, if_neg hp]) H cs _ _ FrX.refl hP g3 hR
  · rw [altP, if_pos hp] at hns hF hT
    have P1 := hP.go f1 R1
    have hs1 := f1.1
    have g31 : H1.get b3 = .cells cs .own := f1.get g3 (by simp) (by omega)
    obtain ⟨kx, vx, wx, ex, ⟨z1, z2⟩, z3, z4⟩ := hR.form
    subst ex
    simp only [go_sem, zA, zB, zC, reduceIte, zD, zE, zF, zG, zH, zI, reduceCtorEq, zJ, zK, zL, zM, zN, zO, zP, g31, z1, z2, z3, z4]
    refine hW d (k + 1) H1 _ hd P1 ⟨fun h => hns (by rw [h]), fun c a h => absurd (by rw [h]) hns, fun y k1 h H2 cy f2 P2 R2 => ?_⟩
    · rw [h] at hns hF hT
      simp only at hns hF hT
      have g32 : H2.get b3 = .cells [.int .i64 kx, vx, wx] .own := by rw [f2.2 b3 (by omega) (by simp; omega), g31]
      obtain ⟨ky, vy, wy, ey, ⟨y1, y2⟩, y3, y4⟩ := R2.form
      subst ey
      simp only [go_sem, zA, zB, zC, reduceIte, zD, zE, zF, zG, zH, zI, reduceCtorEq, zJ, zK, zL, zM, zN, zO, zP, g32, z1, z2, z3, z4, y1, y2, y3, y4]
      refine p_two ho hR R2 fun H3 nb e3 hnb Rd3 => ?_
      have g33 : H3.get b3 = .cells [.int .i64 kx, vx, wx] .own := by rw [e3.2 _ (by have := f2.1; omega), g32]
      have hs2 := f2.1
      have hs3 := e3.1
      have l33 : b3 < H3.size := by omega
      simp only [go_sem, zA, zB, zC, reduceIte, zD, zE, zF, zG, zH, zI, reduceCtorEq, zJ, zK, zL, zM, zN, zO, zP, g33, g32, z1, z2, z3, z4, Heap.get_set_self l33]
      have F12 : FrX [rb, xb, b3] H.size H H2 := ((f1.frX (Nat.le_refl _)).mono (Nat.le_refl _) fun c hc _ => by simp at hc ⊢; exact hc.1).trans (f2.mono hs1 fun c hc _ => by simp at hc ⊢; exact ⟨hc.1, hc.2.1⟩)
      have T3 : FrX [b3] H2.size H2 (H3.set b3 (.cells [.int .i64 4, .nils, .slice nb 0 2 2] .own)) := (FrX.ofExt e3).trans (FrX.set (.inl (by simp)))
      have F3 : FrX [rb, xb, b3] H.size H (H3.set b3 (.cells [.int .i64 4, .nils, .slice nb 0 2 2] .own)) := F12.trans (T3.mono (by omega) fun c hc _ => by simp at hc ⊢; exact hc.2.2)
      refine hA d k1 (.alt x y) _ b2 b3 n0 _ Q hd (P2.keep T3 ⟨P2.lt, by simp; omega⟩ ⟨P2.rdr.lt, by simp; omega⟩ fun hp => ⟨P2.ilt hp, by have := hi hp; simp; omega⟩) (Nat.le_trans hn F3.1) (Nat.lt_of_lt_of_le hb2 F3.1) hb3 hx hr hi (Heap.get_set_self l33)
        ⟨_, nb, _, _, rfl, Rd3.keep fun _ => Heap.get_set_ne (by omega), ⟨by omega, by omega, by omega⟩, hR.keep fun b q q4 => ⟨F3.2 b q4 (by simp; omega), q⟩, R2.keep fun b q q4 => ⟨T3.2 b q4 (by simp; omega), by omega, by omega, by omega⟩⟩ hns
        (fun c a h σ f d0 => hF c a h σ (F3.trans (f.mono F3.1 fun c hc _ => hc)) d0) fun y k1 h H' cs' xx t f => hT y k1 h H' cs' xx t (F3.trans (f.mono F3.1 fun c hc _ => hc))

theorem row_of {xb rb e ib n : Nat} {its : List It} {iv : AV} (hL : RowL o xb rb its e iv ib n) : RowS o xb rb its e iv ib n := by
  intro d k H Q hd hP ⟨hns, hF, hT⟩
  rw [fn_parse_regex_row (ho _ _ _ (by decide))]
  generalize hH2 : (H.push (Blk.cells [.int .i64 0, .nils, .nils] .own)).push (Blk.cells [.int .i64 1, .nils, .nils] .own) = H2
  have x2 : Ext H.size H H2 := by rw [← hH2]; exact (Ext.push (Nat.le_refl _)).trans (Ext.push (by rw [Heap.size_push]; omega))
  have z2 : H2.size = H.size + 2 := by rw [← hH2]; rfl
  have g2 : H2.get H.size = .cells [.int .i64 0, .nils, .nils] .own := by rw [← hH2, Heap.get_push_lt (by rw [Heap.size_push]; omega), Heap.get_push_self]
  have g3 : H2.get (H.size + 1) = .cells [.int .i64 1, .nils, .nils] .own := by rw [← hH2, Heap.get_push_eq (by rw [Heap.size_push])]
  have P2 := hP.ext x2
  simp only [bd_parse_regex_row, go_sem, zA, zB, zC, reduceIte, zD, zE, zF, zG, zH, zI, reduceCtorEq, zJ, zK, zL, zM, zN, zO, zP, hH2, P2.get]
  refine k_Peek ho P2.rdr ?_
  simp only [go_sem, zA, zB, zC, reduceIte, zD, zE, zF, zG, zH, zI, reduceCtorEq, zJ, zK, zL, zM, zN, zO, zP]
  refine hL d k .emp false _ H.size (H.size + 1) H.size H2 _ hd P2 (by omega) (by omega) (by omega) hP.lt hP.rdr.lt (fun hp => hP.ilt hp) g3 rfl hns (fun c a h σ f d0 => ?_) fun y k1 h H' cs' xx t f P' g' R' => ?_
  · simp only [go_sem, zA, zB, zC, reduceIte, zD, zE, zF, zG, zH, zI, reduceCtorEq, zJ, zK, zL, zM, zN, zO, zP, d0]
    exact hF c a h _ ((FrX.ofExt x2).trans (f.mono (by omega) fun c hc hc2 => by simp at hc ⊢; exact ⟨hc.1, hc.2, by omega⟩))
  · have g2' : H'.get H.size = .cells [.int .i64 0, .nils, .nils] .own := by
      rw [f.2 H.size (by omega) (by have := hP.lt; have := hP.rdr.lt; simp; omega), g2]
    have l2' : H.size < H'.size := Heap.lt_of_get (by rw [g2']; simp)
    obtain ⟨ky, vy, wy, ey, ⟨y1, y2⟩, y3, y4⟩ := R'.form
    subst ey
    have T : FrX [H.size] H'.size H' (H'.set H.size (.cells [.int .i64 ky, vy, wy] .own)) := FrX.set (.inl (by simp))
    simp only [go_sem, zA, zB, zC, reduceIte, zD, zE, zF, zG, zH, zI, reduceCtorEq, zJ, zK, zL, zM, zN, zO, zP, g', g2', y1, y2, y3, y4, Heap.get_set_self l2']
    refine hT y k1 h _ _ ((FrX.ofExt x2).trans ((f.mono (by omega) fun c hc hc2 => by simp at hc ⊢; exact ⟨hc.1, hc.2, by omega⟩).trans (FrX.set (.inr (Nat.le_refl _))))) (P'.keep T ⟨P'.lt, by have := hP.lt; simp; omega⟩ ⟨P'.rdr.lt, by have := hP.rdr.lt; simp; omega⟩ fun hp => ⟨P'.ilt hp, by have := hP.ilt hp; simp; omega⟩) (R'.keep fun b ⟨q1, q2, q3⟩ q4 => ⟨T.2 b q4 (by simp; exact q2), q1⟩)

theorem all_of {xb rb e ib n : Nat} {its : List It} {iv : AV} (hW : RowS o xb rb its e iv ib n) (hL : AltL o xb rb its e iv ib n) : AllS o xb rb its e iv ib n := by
  intro d k H Q hd hP ⟨hns, hF, hT⟩
  rw [fn_parse_regex_all (ho _ _ _ (by decide))]
  have x0 : Ext H.size H (H.push (Blk.cells [.int .i64 0, .nils, .nils] .own)) := Ext.push (Nat.le_refl _)
  have g0 : (H.push (Blk.cells [.int .i64 0, .nils, .nils] .own)).get H.size = .cells [.int .i64 0, .nils, .nils] .own := Heap.get_push_self
  have z0 : (H.push (Blk.cells [.int .i64 0, .nils, .nils] .own)).size = H.size + 1 := Heap.size_push _ _
  simp only [bd_parse_regex_all, go_sem, zA, zB, zC, reduceIte, zD, zE, zF, zG, zH, zI, reduceCtorEq, zJ, zK, zL, zM, zN, zO, zP]
  generalize H.push (Blk.cells [.int .i64 0, .nils, .nils] .own) = H0 at x0 g0 z0 ⊢
  unfold allP at hns hF hT
  refine hW d k H0 _ hd (hP.ext x0) ⟨fun h => hns (by rw [h]), fun c a h H1 f1 => ?_, fun x k1 h H1 cx f1 P1 R1 => ?_⟩
  · rw [h] at hF
    simp only [go_sem, zA, zB, zC, reduceIte, zD, zE, zF, zG, zH, zI, reduceCtorEq, zJ, zK, zL, zM, zN, zO, zP]
    exact hF c a rfl _ ((FrX.ofExt x0).trans (f1.mono (by omega) fun c hc _ => hc))
  · rw [h] at hns hF hT
    simp only at hns hF hT
    obtain ⟨kx, vx, wx, ex, ⟨x1, x2⟩, x3, x4⟩ := R1.form
    subst ex
    have hs1 := f1.1
    have e1 : Ext H1.size H1 (H1.push (Blk.cells [.int .i64 kx, vx, wx] .own)) := Ext.push (Nat.le_refl _)
    have g01 : (H1.push (Blk.cells [.int .i64 kx, vx, wx] .own)).get H.size = .cells [.int .i64 0, .nils, .nils] .own := by
      rw [Heap.get_push_lt (by omega), f1.2 _ (by omega) (by have := hP.lt; have := hP.rdr.lt; simp; omega), g0]
    simp only [go_sem, zA, zB, zC, reduceIte, zD, zE, zF, zG, zH, zI, reduceCtorEq, zJ, zK, zL, zM, zN, zO, zP, x1, x2, x3, x4]
    refine hL d k1 x _ H.size H1.size H.size _ _ hd (P1.ext e1) (by rw [Heap.size_push]; omega) (by rw [Heap.size_push]; omega) (by omega) hP.lt hP.rdr.lt (fun hp => hP.ilt hp) Heap.get_push_self (R1.keep fun b q1 q2 => ⟨e1.2 b q2, by omega, by omega, by omega⟩) hns (fun c a h σ f d0 => ?_) fun y k2 h H' cs' xx t f P' g' R' => ?_
    · simp only [go_sem, zA, zB, zC, reduceIte, zD, zE, zF, zG, zH, zI, reduceCtorEq, zJ, zK, zL, zM, zN, zO, zP, d0]
      exact hF c a h _ ((FrX.ofExt x0).trans ((f1.mono (by omega) fun c hc _ => hc).trans ((FrX.ofExt (e1.le (by omega))).trans (f.mono (by rw [Heap.size_push]; omega) fun c hc hc2 => by simp at hc ⊢; exact ⟨hc.1, hc.2, by omega⟩))))
    · have g2' : H'.get H.size = .cells [.int .i64 0, .nils, .nils] .own := by
        rw [f.2 H.size (by rw [Heap.size_push]; omega) (by have := hP.lt; have := hP.rdr.lt; simp; omega), g01]
      have l2' : H.size < H'.size := Heap.lt_of_get (by rw [g2']; simp)
      obtain ⟨ky, vy, wy, ey, ⟨y1, y2⟩, y3, y4⟩ := R'.form
      subst ey
      have T : FrX [H.size] H'.size H' (H'.set H.size (.cells [.int .i64 ky, vy, wy] .own)) := FrX.set (.inl (by simp))
      simp only [go_sem, zA, zB, zC, reduceIte, zD, zE, zF, zG, zH, zI, reduceCtorEq, zJ, zK, zL, zM, zN, zO, zP, g', g2', y1, y2, y3, y4, Heap.get_set_self l2']
      refine hT y k2 h _ _ ((FrX.ofExt x0).trans ((f1.mono (by omega) fun c hc _ => hc).trans ((FrX.ofExt (e1.le (by omega))).trans ((f.mono (by rw [Heap.size_push]; omega) fun c hc hc2 => by simp at hc ⊢; exact ⟨hc.1, hc.2, by omega⟩).trans (FrX.set (.inr (Nat.le_refl _))))))) (P'.keep T ⟨P'.lt, by have := hP.lt; simp; omega⟩ ⟨P'.rdr.lt, by have := hP.rdr.lt; simp; omega⟩ fun hp => ⟨P'.ilt hp, by have := hP.ilt hp; simp; omega⟩) (R'.keep fun b ⟨q1, q2, q3⟩ q4 => ⟨T.2 b q4 (by simp; exact q2), q1⟩)
end
end Go.Ev

/- Expressions from texts: atoms; all of it. -/
namespace Go.Ev
open Go
open Go.Ev renaming seqK_normal → zA, blockK_normal → zB, blockK_exit → zC
open Nat renaming reduceEqDiff → zD, reduceAdd → zE, reduceSub → zF, reduceMul → zG, reduceLeDiff → zH, reduceLT → zI
open Int renaming reduceToNat → zJ, reduceLT → zK, reduceLE → zL, reduceEq → zM, reduceAdd → zN, reduceSub → zO, reduceMul → zP
set_option linter.unusedSimpArgs false
set_option linter.unusedVariables false
set_option maxRecDepth 8000

theorem PS.deep {xb rb H its e k d iv ib} (h : PS xb rb H its e k d iv ib) (d' : Nat) : PS xb rb (H.set xb (.cells [.ptr rb 0, .int .i64 (d' : Int)] .own)) its e k d' iv ib :=
  ⟨Heap.get_set_self h.lt, ⟨by rw [Heap.get_set_ne (fun e => h.ne e.symm), h.rdr.get], h.rdr.rd.keep fun hp => Heap.get_set_ne (h.ni hp), h.rdr.ne, h.rdr.le, h.rdr.sm⟩, h.ne, h.ni⟩

section
variable {o : CallF} (ho : OvOnly o)
include ho

theorem atom_step {xb rb e ib n : Nat} {its : List It} {iv : AV} (hs : Sm its) (hl : its.length ≤ 49990) (hA : AllS o xb rb its e iv ib n) : AtomS o xb rb its e iv ib (n + 1) := by
  intro d k H Q hd hP ⟨hns, hF, hT⟩
  rw [fn_parse_regex_atom (ho _ _ _ (by decide))]
  have x0 : Ext H.size H (H.push (Blk.cells [.int .i64 0, .nils, .nils] .own)) := Ext.push (Nat.le_refl _)
  have g0 : (H.push (Blk.cells [.int .i64 0, .nils, .nils] .own)).get H.size = .cells [.int .i64 0, .nils, .nils] .own := Heap.get_push_self
  have z0 : (H.push (Blk.cells [.int .i64 0, .nils, .nils] .own)).size = H.size + 1 := Heap.size_push _ _
  have P0 := hP.ext x0
  have lx := hP.lt
  have lr := hP.rdr.lt
  simp only [bd_parse_regex_atom, go_sem, zA, zB, zC, reduceIte, zD, zE, zF, zG, zH, zI, reduceCtorEq, zJ, zK, zL, zM, zN, zO, zP, P0.get]
  generalize H.push (Blk.cells [.int .i64 0, .nils, .nils] .own) = H0 at x0 g0 z0 P0 ⊢
  -- what comes at the end
  have fin : ∀ (y : Rx) (k1 : Nat) (ky : Int) (vy wy : AV) (H1 : Heap), atomP its e (n + 1) d k = .ok (y, k1) → FrX [rb, xb] H.size H H1 → PS xb rb H1 its e k1 d iv ib → ReV (fun b => H.size < b) H1 y [.int .i64 ky, vy, wy] → Q (.ret (.agg [.int .i64 ky, vy, wy])) (H1.set H.size (.cells [.int .i64 ky, vy, wy] .own)) := by
    intro y k1 ky vy wy H1 he f1 P1 R1
    have T : FrX [H.size] H1.size H1 (H1.set H.size (.cells [.int .i64 ky, vy, wy] .own)) := FrX.set (.inl (by simp))
    exact hT y k1 he _ _ (f1.trans (FrX.set (.inr (Nat.le_refl _)))) (P1.keep T ⟨P1.lt, by simp; omega⟩ ⟨P1.rdr.lt, by simp; omega⟩ fun hp => ⟨P1.ilt hp, by have := hP.ilt hp; simp; omega⟩) (R1.keep fun b q1 q2 => ⟨T.2 b q2 (by simp; omega), by omega⟩)
  refine k_At ho P0.rdr ?_
  simp only [go_sem, zA, zB, zC, reduceIte, zD, zE, zF, zG, zH, zI, reduceCtorEq, zJ, zK, zL, zM, zN, zO, zP, P0.get]
  refine k_Skip ho (by omega) P0.rdr (fun h40 => ?_) (fun h40 H1 f1 R1 => ?_)
  · simp only [go_sem, zA, zB, zC, reduceIte, zD, zE, zF, zG, zH, zI, reduceCtorEq, zJ, zK, zL, zM, zN, zO, zP, P0.get]
    refine k_Skip ho (by omega) P0.rdr (fun h91 => ?_) (fun h91 H1 f1 R1 => ?_)
    · simp only [go_sem, zA, zB, zC, reduceIte, zD, zE, zF, zG, zH, zI, reduceCtorEq, zJ, zK, zL, zM, zN, zO, zP, P0.get]
      refine k_Skip ho (by omega) P0.rdr (fun h46 => ?_) (fun h46 H1 f1 R1 => ?_)
      · -- a rune
        rw [atomP, if_neg h40, if_neg h91, if_neg h46] at hns hF
        simp only [go_sem, zA, zB, zC, reduceIte, zD, zE, zF, zG, zH, zI, reduceCtorEq, zJ, zK, zL, zM, zN, zO, zP, P0.get]
        refine k_Rune ho P0.rdr (fun a ha H1 f1 => ?_) (fun c k1 ha H1 f1 R1 => ?_)
        · rw [ha] at hF
          simp only [go_sem, zA, zB, zC, reduceIte, zD, zE, zF, zG, zH, zI, reduceCtorEq, zJ, zK, zL, zM, zN, zO, zP]
          exact hF _ _ rfl _ ((FrX.ofExt x0).trans ((f1.frX (by omega)).mono (Nat.le_refl _) fun c hc _ => by simp at hc ⊢; exact hc.1))
        · have hs1 := f1.1
          have P1 := P0.go f1 R1
          have F1 : FrX [rb, xb] H.size H H1 := (FrX.ofExt x0).trans ((f1.frX (n := H.size) (by omega)).mono (Nat.le_refl _) fun c hc _ => by simp at hc ⊢; exact hc.1)
          have g01 : H1.get H.size = .cells [.int .i64 0, .nils, .nils] .own := by rw [(f1.frX (Nat.le_refl _)).2 H.size (by omega) (by simp; omega), g0]
          have e1 : Ext H1.size H1 (H1.push (.cells [.int .i32 c, .int .i32 c] .own)) := Ext.push (Nat.le_refl _)
          simp only [go_sem, zA, zB, zC, reduceIte, zD, zE, zF, zG, zH, zI, reduceCtorEq, zJ, zK, zL, zM, zN, zO, zP]
          refine p_set ho ⟨rfl, rfl⟩ fun H2 x2 => ?_
          have x12 := e1.trans (x2.le e1.1)
          have g02 : H2.get H.size = .cells [.int .i64 0, .nils, .nils] .own := by rw [x12.2 _ (by omega), g01]
          have l02 : H.size < H2.size := Heap.lt_of_get (by rw [g02]; simp)
          simp only [go_sem, zA, zB, zC, reduceIte, zD, zE, zF, zG, zH, zI, reduceCtorEq, zJ, zK, zL, zM, zN, zO, zP, g02, Heap.get_set_self l02]
          refine fin (.set [⟨c, c⟩]) k1 _ _ _ H2 (by rw [atomP, if_neg h40, if_neg h91, if_neg h46, ha]) (F1.trans (FrX.ofExt (x12.le (by omega)))) (P1.ext x12) ⟨_, H1.size, rfl, Rd.slice (u := .own) ?_ rfl, fun _ => by omega, by simp⟩
          rw [x2.2 _ (by rw [Heap.size_push]; omega), Heap.get_push_self]; rfl
      · -- all but the line's end
        have hs1 := f1.1
        have P1 := P0.go f1 R1
        have F1 : FrX [rb, xb] H.size H H1 := (FrX.ofExt x0).trans ((f1.frX (n := H.size) (by omega)).mono (Nat.le_refl _) fun c hc _ => by simp at hc ⊢; exact hc.1)
        have g01 : H1.get H.size = .cells [.int .i64 0, .nils, .nils] .own := by rw [(f1.frX (Nat.le_refl _)).2 H.size (by omega) (by simp; omega), g0]
        have e1 : Ext H1.size H1 (H1.push (.cells [.int .i32 10, .int .i32 10] .own)) := Ext.push (Nat.le_refl _)
        simp only [go_sem, zA, zB, zC, reduceIte, zD, zE, zF, zG, zH, zI, reduceCtorEq, zJ, zK, zL, zM, zN, zO, zP]
        refine r_Not ho (l := [⟨10, 10⟩]) (rb := H1.size) (by simp) (fun r hr => by simp at hr; subst hr; exact ⟨⟨by decide, by decide⟩, by decide, by decide⟩) (Rd.slice (u := .own) (by rw [Heap.get_push_self]; rfl) rfl) fun H2 v x2 s2 => ?_
        obtain ⟨rb2, RD, hrb2⟩ := s2.rd
        simp only [go_sem, zA, zB, zC, reduceIte, zD, zE, zF, zG, zH, zI, reduceCtorEq, zJ, zK, zL, zM, zN, zO, zP]
        refine p_set ho RD.one fun H3 x3 => ?_
        have x13 := e1.trans ((x2.trans (x3.le x2.1)).le e1.1)
        have g03 : H3.get H.size = .cells [.int .i64 0, .nils, .nils] .own := by rw [x13.2 _ (by omega), g01]
        have l03 : H.size < H3.size := Heap.lt_of_get (by rw [g03]; simp)
        obtain ⟨o1, o2⟩ := RD.one
        simp only [go_sem, zA, zB, zC, reduceIte, zD, zE, zF, zG, zH, zI, reduceCtorEq, zJ, zK, zL, zM, zN, zO, zP, g03, Heap.get_set_self l03, o1, o2]
        refine fin (.set (notF [⟨10, 10⟩])) (k + 1) _ _ _ H3 (by rw [atomP, if_neg h40, if_neg h91, if_pos h46]) (F1.trans (FrX.ofExt (x13.le (by omega)))) (P1.ext x13) ⟨v, rb2, rfl, RD.ext x3, fun h0 => ?_, by have := notF_len [⟨10, 10⟩]; simp only [List.length_cons, List.length_nil] at this; omega⟩
        have := (hrb2 h0).1
        rw [Heap.size_push] at this
        omega
    · -- a class
      rw [atomP, if_neg h40, if_pos h91] at hns hF
      have hs1 := f1.1
      have P1 := P0.go f1 R1
      have F1 : FrX [rb, xb] H.size H H1 := (FrX.ofExt x0).trans ((f1.frX (n := H.size) (by omega)).mono (Nat.le_refl _) fun c hc _ => by simp at hc ⊢; exact hc.1)
      have g01 : H1.get H.size = .cells [.int .i64 0, .nils, .nils] .own := by rw [(f1.frX (Nat.le_refl _)).2 H.size (by omega) (by simp; omega), g0]
      simp only [go_sem, zA, zB, zC, reduceIte, zD, zE, zF, zG, zH, zI, reduceCtorEq, zJ, zK, zL, zM, zN, zO, zP, P1.get]
      refine k_Class ho hs hl P1.rdr (fun a ha H2 f2 => ?_) (fun l k2 ha H2 v f2 R2 s2 l13 => ?_)
      · rw [ha] at hF
        simp only [go_sem, zA, zB, zC, reduceIte, zD, zE, zF, zG, zH, zI, reduceCtorEq, zJ, zK, zL, zM, zN, zO, zP]
        exact hF _ _ rfl _ (F1.trans (f2.frX.mono (by omega) fun c hc _ => by simp at hc ⊢; exact hc.1))
      · rw [ha] at hF
        simp only at hF
        have hs2 := f2.1
        have P2 : PS xb rb H2 its e k2 d iv ib := ⟨by rw [f2.2 xb (by omega) hP.ne hP.ne, P1.get], R2, hP.ne, hP.ni⟩
        have F2 : FrX [rb, xb] H.size H H2 := F1.trans (f2.frX.mono (by omega) fun c hc _ => by simp at hc ⊢; exact hc.1)
        have g02 : H2.get H.size = .cells [.int .i64 0, .nils, .nils] .own := by rw [f2.2 H.size (by omega) (by omega) (by omega), g01]
        simp only [go_sem, zA, zB, zC, reduceIte, zD, zE, zF, zG, zH, zI, reduceCtorEq, zJ, zK, zL, zM, zN, zO, zP, P2.get]
        refine k_Must ho (by omega) P2.rdr (fun hp => ?_) (fun hp H3 f3 R3 => ?_)
        · rw [if_neg hp] at hF
          simp only [go_sem, zA, zB, zC, reduceIte, zD, zE, zF, zG, zH, zI, reduceCtorEq, zJ, zK, zL, zM, zN, zO, zP]
          exact hF _ _ rfl _ F2
        · have hs3 := f3.1
          have P3 := P2.go f3 R3
          obtain ⟨rb2, RD, hrb2⟩ := s2.rd
          have RD3 : Rd H3 2 (rcells l) l.length v rb2 := RD.keep fun h0 => (f3.frX (Nat.le_refl _)).2 _ (RD.lt h0) (by have := (hrb2 h0).1; simp; omega)
          have g03 : H3.get H.size = .cells [.int .i64 0, .nils, .nils] .own := by rw [(f3.frX (Nat.le_refl _)).2 H.size (by omega) (by simp; omega), g02]
          simp only [go_sem, zA, zB, zC, reduceIte, zD, zE, zF, zG, zH, zI, reduceCtorEq, zJ, zK, zL, zM, zN, zO, zP]
          refine p_set ho RD3.one fun H4 x4 => ?_
          have g04 : H4.get H.size = .cells [.int .i64 0, .nils, .nils] .own := by rw [x4.2 _ (by omega), g03]
          have l04 : H.size < H4.size := Heap.lt_of_get (by rw [g04]; simp)
          obtain ⟨o1, o2⟩ := RD3.one
          simp only [go_sem, zA, zB, zC, reduceIte, zD, zE, zF, zG, zH, zI, reduceCtorEq, zJ, zK, zL, zM, zN, zO, zP, g04, Heap.get_set_self l04, o1, o2]
          refine fin (.set l) (k2 + 1) _ _ _ H4 (by rw [atomP, if_neg h40, if_pos h91, ha]; simp only [if_pos hp]) (F2.trans (((f3.frX (n := H.size) (by omega)).mono (Nat.le_refl _) fun c hc _ => by simp at hc ⊢; exact hc.1).trans (FrX.ofExt (x4.le (by omega))))) (P3.ext x4) ⟨v, rb2, rfl, RD3.ext x4, fun h0 => ?_, by omega⟩
          have := (hrb2 h0).1
          omega
  · -- a bracket
    have P1 := P0.go f1 R1
    have hs1 := f1.1
    have F1 : FrX [rb, xb] H.size H H1 := (FrX.ofExt x0).trans ((f1.frX (n := H.size) (by omega)).mono (Nat.le_refl _) fun c hc _ => by simp at hc ⊢; exact hc.1)
    have w1 := wsucc (show d ≤ 1000000000 by omega)
    have P2 := P1.deep (d + 1)
    have F2 : FrX [rb, xb] H.size H (H1.set xb (.cells [.ptr rb 0, .int .i64 ((d + 1 : Nat) : Int)] .own)) := F1.trans (FrX.set (.inl (by simp)))
    have wx : xb < H1.size := P1.lt
    have g02 : (H1.set xb (.cells [.ptr rb 0, .int .i64 ((d + 1 : Nat) : Int)] .own)).get H.size = .cells [.int .i64 0, .nils, .nils] .own := by
      rw [Heap.get_set_ne (by omega), (f1.frX (Nat.le_refl _)).2 H.size (by omega) (by simp; omega), g0]
    have hs2 : (H1.set xb (.cells [.ptr rb 0, .int .i64 ((d + 1 : Nat) : Int)] .own)).size = H1.size := Heap.size_set _ _ _
    simp only [go_sem, zA, zB, zC, reduceIte, zD, zE, zF, zG, zH, zI, reduceCtorEq, zJ, zK, zL, zM, zN, zO, zP, P1.get, w1, P2.get]
    generalize H1.set xb (.cells [.ptr rb 0, .int .i64 ((d + 1 : Nat) : Int)] .own) = H2 at P2 F2 g02 hs2 ⊢
    by_cases hd1 : 40 < d + 1
    · have c1 : (40 : Int) < ((d + 1 : Nat) : Int) := by omega
      rw [atomP, if_pos h40, if_pos hd1] at hF
      simp only [go_sem, zA, zB, zC, reduceIte, zD, zE, zF, zG, zH, zI, reduceCtorEq, zJ, zK, zL, zM, zN, zO, zP, c1, P2.get]
      refine w_Fail ho ?_
      simp only [go_sem, zA, zB, zC, reduceIte, zD, zE, zF, zG, zH, zI, reduceCtorEq, zJ, zK, zL, zM, zN, zO, zP]
      exact hF _ _ rfl _ F2
    · have c1 : ¬ (40 : Int) < ((d + 1 : Nat) : Int) := by omega
      rw [atomP_br h40 hd1] at hns hF
      simp only [go_sem, zA, zB, zC, reduceIte, zD, zE, zF, zG, zH, zI, reduceCtorEq, zJ, zK, zL, zM, zN, zO, zP, c1, P2.get]
      refine hA (d + 1) (k + 1) H2 _ (by omega) P2 ⟨fun h => hns (by rw [h]), fun c a h H3 f3 => ?_, fun y k2 h H3 cy f3 P3 R3 => ?_⟩
      · rw [h] at hF
        simp only [go_sem, zA, zB, zC, reduceIte, zD, zE, zF, zG, zH, zI, reduceCtorEq, zJ, zK, zL, zM, zN, zO, zP]
        exact hF c a rfl _ (F2.trans (f3.mono (by omega) fun c hc _ => hc))
      · rw [h] at hns hF
        simp only at hns hF
        have hs3 := f3.1
        obtain ⟨ky, vy, wy, ey, ⟨y1, y2⟩, y3, y4⟩ := R3.form
        subst ey
        have e3 : Ext H3.size H3 (H3.push (.cells [.int .i64 ky, vy, wy] .own)) := Ext.push (Nat.le_refl _)
        have P4 := P3.ext e3
        have F4 : FrX [rb, xb] H.size H (H3.push (.cells [.int .i64 ky, vy, wy] .own)) := (F2.trans (f3.mono (by omega) fun c hc _ => hc)).trans (FrX.ofExt (e3.le (by omega)))
        have R4 := R3.keep (Q := fun b => H.size < b ∧ b < H3.size) (H' := H3.push (.cells [.int .i64 ky, vy, wy] .own)) fun b q1 q2 => ⟨e3.2 b q2, by omega, q2⟩
        have g44 : (H3.push (.cells [.int .i64 ky, vy, wy] .own)).get H3.size = .cells [.int .i64 ky, vy, wy] .own := Heap.get_push_self
        have g04 : (H3.push (.cells [.int .i64 ky, vy, wy] .own)).get H.size = .cells [.int .i64 0, .nils, .nils] .own := by
          rw [Heap.get_push_lt (by omega), f3.2 H.size (by omega) (by simp; omega), g02]
        have hs4 : (H3.push (.cells [.int .i64 ky, vy, wy] .own)).size = H3.size + 1 := Heap.size_push _ _
        have P4g := P4.get
        simp only [go_sem, zA, zB, zC, reduceIte, zD, zE, zF, zG, zH, zI, reduceCtorEq, zJ, zK, zL, zM, zN, zO, zP, y1, y2, y3, y4, P4g]
        generalize H3.push (.cells [.int .i64 ky, vy, wy] .own) = H4 at e3 P4 F4 R4 g44 g04 hs4 P4g ⊢
        refine k_Must ho (by omega) P4.rdr (fun hp => ?_) (fun hp H5 f5 R5 => ?_)
        · rw [if_neg hp] at hF
          simp only [go_sem, zA, zB, zC, reduceIte, zD, zE, zF, zG, zH, zI, reduceCtorEq, zJ, zK, zL, zM, zN, zO, zP]
          exact hF _ _ rfl _ F4
        · have P5 := P4.go f5 R5
          have f5' := f5.frX (Nat.le_refl _)
          have hs5 := f5.1
          have w2 := wpred (n := d + 1) (by omega) (by omega)
          rw [Nat.add_sub_cancel] at w2
          have P6 := P5.deep d
          have hs6 : (H5.set xb (.cells [.ptr rb 0, .int .i64 (d : Int)] .own)).size = H5.size := Heap.size_set _ _ _
          have T6 : FrX [rb, xb] H4.size H4 (H5.set xb (.cells [.ptr rb 0, .int .i64 (d : Int)] .own)) := (f5'.mono (Nat.le_refl _) fun c hc _ => by simp at hc ⊢; exact hc.1).trans (FrX.set (.inl (by simp)))
          have g46 : (H5.set xb (.cells [.ptr rb 0, .int .i64 (d : Int)] .own)).get H3.size = .cells [.int .i64 ky, vy, wy] .own := by rw [T6.2 _ (by omega) (by simp; omega), g44]
          have g06 : (H5.set xb (.cells [.ptr rb 0, .int .i64 (d : Int)] .own)).get H.size = .cells [.int .i64 0, .nils, .nils] .own := by rw [T6.2 _ (by omega) (by simp; omega), g04]
          have l06 : H.size < (H5.set xb (.cells [.ptr rb 0, .int .i64 (d : Int)] .own)).size := by omega
          simp only [go_sem, zA, zB, zC, reduceIte, zD, zE, zF, zG, zH, zI, reduceCtorEq, zJ, zK, zL, zM, zN, zO, zP, P5.get, w2, g46, g06, y1, y2, y3, y4, Heap.get_set_self l06]
          refine fin y (k2 + 1) ky vy wy _ ?_ (F4.trans (T6.mono (by omega) fun c hc _ => hc)) P6 (R4.keep fun b q1 q2 => ⟨T6.2 b q2 (by simp; omega), q1.1⟩)
          rw [atomP_br h40 hd1, h]
          simp only [if_pos hp]
end
end Go.Ev
