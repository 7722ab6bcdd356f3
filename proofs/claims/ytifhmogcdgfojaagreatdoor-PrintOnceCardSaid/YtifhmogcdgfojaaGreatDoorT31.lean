/- Several texts of this claim, joined. -/
import Derived.Test.YtifhmogcdgfojaaGreatDoorT30
import Derived.Test.YtifhmogcdgfojaaGreatDoorT28
set_option linter.unusedSimpArgs false
set_option linter.unusedVariables false

/- Expressions from texts: atoms; all of it. -/
namespace Go.Ev
open Go
open Go.Ev renaming seqK_normal → zA, blockK_normal → zB, blockK_exit → zC
open Nat renaming reduceEqDiff → zD, reduceAdd → zE, reduceSub → zF, reduceMul → zG, reduceLeDiff → zH, reduceLT → zI
open Int renaming reduceToNat → zJ, reduceLT → zK, reduceLE → zL, reduceEq → zM, reduceAdd → zN, reduceSub → zO, reduceMul → zP
set_option maxRecDepth 8000
theorem PS.deep {xb rb H its e k d iv ib} (h : PS xb rb H its e k d iv ib) (d' : Nat) : PS xb rb (H.set xb (.cells [.ptr rb 0, .int .i64 (d' : Int)] .own)) its e k d' iv ib :=
  ⟨Heap.get_set_self h.lt, ⟨by rw [Heap.get_set_ne (fun e => h.ne e.symm), h.rdr.get], h.rdr.rd.keep fun hp => Heap.get_set_ne (h.ni hp), h.rdr.ne, h.rdr.le, h.rdr.sm⟩, h.ne, h.ni⟩
section
variable {o : CallF} (ho : OvOnly o)
include ho
theorem atom_step {xb rb e ib n : Nat} {its : List It} {iv : AV} (hs : Sm its) (hl : its.length ≤ 49990) (hA : AllS o xb rb its e iv ib n) : AtomS o xb rb its e iv ib (n + 1) := by
  intro d k H Q hd hP ⟨hns, hF, hT⟩
  rw [fn_parse_regex_atom (ho _ _ _ (by decide))]
  have x0 : Ext H.size H (H.push (Blk.cells [.int .i64 0, .nils, .nils] .own)) := Ext.push (Nat.le_refl _)
  have g0 : (H.push (Blk.cells [.int .i64 0, .nils, .nils] .own)).get H.size = .cells [.int .i64 0, .nils, .nils] .own := Heap.get_push_self
  have z0 : (H.push (Blk.cells [.int .i64 0, .nils, .nils] .own)).size = H.size + 1 := Heap.size_push _ _
  have P0 := hP.ext x0
  have lx := hP.lt
  have lr := hP.rdr.lt
  simp only [bd_parse_regex_atom, go_sem, zA, zB, zC, reduceIte, zD, zE, zF, zG, zH, zI, reduceCtorEq, zJ, zK, zL, zM, zN, zO, zP, P0.get]
  generalize H.push (Blk.cells [.int .i64 0, .nils, .nils] .own) = H0 at x0 g0 z0 P0 ⊢
  -- what comes at the end
  have fin : ∀ (y : Rx) (k1 : Nat) (ky : Int) (vy wy : AV) (H1 : Heap), atomP its e (n + 1) d k = .ok (y, k1) → FrX [rb, xb] H.size H H1 → PS xb rb H1 its e k1 d iv ib → ReV (fun b => H.size < b) H1 y [.int .i64 ky, vy, wy] → Q (.ret (.agg [.int .i64 ky, vy, wy])) (H1.set H.size (.cells [.int .i64 ky, vy, wy] .own)) := by
    intro y k1 ky vy wy H1 he f1 P1 R1
    have T : FrX [H.size] H1.size H1 (H1.set H.size (.cells [.int .i64 ky, vy, wy] .own)) := FrX.set (.inl (by simp))
    exact hT y k1 he _ _ (f1.trans (FrX.set (.inr (Nat.le_refl _)))) (P1.keep T ⟨P1.lt, by simp; omega⟩ ⟨P1.rdr.lt, by simp; omega⟩ fun hp => ⟨P1.ilt hp, by have := hP.ilt hp; simp; omega⟩) (R1.keep fun b q1 q2 => ⟨T.2 b q2 (by simp; omega), by omega⟩)
  refine k_At ho P0.rdr ?_
  simp only [go_sem, zA, zB, zC, reduceIte, zD, zE, zF, zG, zH, zI, reduceCtorEq, zJ, zK, zL, zM, zN, zO, zP, P0.get]
  refine k_Skip ho (by omega) P0.rdr (fun h40 => ?_) (fun h40 H1 f1 R1 => ?_)
  · simp only [go_sem, zA, zB, zC, reduceIte, zD, zE, zF, zG, zH, zI, reduceCtorEq, zJ, zK, zL, zM, zN, zO, zP, P0.get]
    refine k_Skip ho (by omega) P0.rdr (fun h91 => ?_) (fun h91 H1 f1 R1 => ?_)
    · simp only [go_sem, zA, zB, zC, reduceIte, zD, zE, zF, zG, zH, zI, reduceCtorEq, zJ, zK, zL, zM, zN, zO, zP, P0.get]
      refine k_Skip ho (by omega) P0.rdr (fun h46 => ?_) (fun h46 H1 f1 R1 => ?_)
      · -- a rune
        rw [atomP, if_neg h40, if_neg h91, if_neg h46] at hns hF
        simp only [go_sem, zA, zB, zC, reduceIte, zD, zE, zF, zG, zH, zI, reduceCtorEq, zJ, zK, zL, zM, zN, zO, zP, P0.get]
        refine k_Rune ho P0.rdr (fun a ha H1 f1 => ?_) (fun c k1 ha H1 f1 R1 => ?_)
        · rw [ha] at hF
          simp only [go_sem, zA, zB, zC, reduceIte, zD, zE, zF, zG, zH, zI, reduceCtorEq, zJ, zK, zL, zM, zN, zO, zP]
          exact hF _ _ rfl _ ((FrX.ofExt x0).trans ((f1.frX (by omega)).mono (Nat.le_refl _) fun c hc _ => by simp at hc ⊢; exact hc.1))
        · have hs1 := f1.1
          have P1 := P0.go f1 R1
          have F1 : FrX [rb, xb] H.size H H1 := (FrX.ofExt x0).trans ((f1.frX (n := H.size) (by omega)).mono (Nat.le_refl _) fun c hc _ => by simp at hc ⊢; exact hc.1)
          have g01 : H1.get H.size = .cells [.int .i64 0, .nils, .nils] .own := by rw [(f1.frX (Nat.le_refl _)).2 H.size (by omega) (by simp; omega), g0]
          have e1 : Ext H1.size H1 (H1.push (.cells [.int .i32 c, .int .i32 c] .own)) := Ext.push (Nat.le_refl _)
          simp only [go_sem, zA, zB, zC, reduceIte, zD, zE, zF, zG, zH, zI, reduceCtorEq, zJ, zK, zL, zM, zN, zO, zP]
          refine p_set ho ⟨rfl, rfl⟩ fun H2 x2 => ?_
          have x12 := e1.trans (x2.le e1.1)
          have g02 : H2.get H.size = .cells [.int .i64 0, .nils, .nils] .own := by rw [x12.2 _ (by omega), g01]
          have l02 : H.size < H2.size := Heap.lt_of_get (by rw [g02]; simp)
          simp only [go_sem, zA, zB, zC, reduceIte, zD, zE, zF, zG, zH, zI, reduceCtorEq, zJ, zK, zL, zM, zN, zO, zP, g02, Heap.get_set_self l02]
          refine fin (.set [⟨c, c⟩]) k1 _ _ _ H2 (by rw [atomP, if_neg h40, if_neg h91, if_neg h46, ha]) (F1.trans (FrX.ofExt (x12.le (by omega)))) (P1.ext x12) ⟨_, H1.size, rfl, Rd.slice (u := .own) ?_ rfl, fun _ => by omega, by simp⟩
          rw [x2.2 _ (by rw [Heap.size_push]; omega), Heap.get_push_self]; rfl
      · -- all but the line's end
        have hs1 := f1.1
        have P1 := P0.go f1 R1
        have F1 : FrX [rb, xb] H.size H H1 := (FrX.ofExt x0).trans ((f1.frX (n := H.size) (by omega)).mono (Nat.le_refl _) fun c hc _ => by simp at hc ⊢; exact hc.1)
        have g01 : H1.get H.size = .cells [.int .i64 0, .nils, .nils] .own := by rw [(f1.frX (Nat.le_refl _)).2 H.size (by omega) (by simp; omega), g0]
        have e1 : Ext H1.size H1 (H1.push (.cells [.int .i32 10, .int .i32 10] .own)) := Ext.push (Nat.le_refl _)
        simp only [go_sem, zA, zB, zC, reduceIte, zD, zE, zF, zG, zH, zI, reduceCtorEq, zJ, zK, zL, zM, zN, zO, zP]
        refine r_Not ho (l := [⟨10, 10⟩]) (rb := H1.size) (by have := capN_12; simp only [List.length_cons, List.length_nil]; omega) (fun r hr => by simp at hr; subst hr; exact ⟨⟨by decide, by decide⟩, by decide, by decide⟩) (Rd.slice (u := .own) (by rw [Heap.get_push_self]; rfl) rfl) fun H2 v x2 s2 => ?_
        obtain ⟨rb2, RD, hrb2⟩ := s2.rd
        simp only [go_sem, zA, zB, zC, reduceIte, zD, zE, zF, zG, zH, zI, reduceCtorEq, zJ, zK, zL, zM, zN, zO, zP]
        refine p_set ho RD.one fun H3 x3 => ?_
        have x13 := e1.trans ((x2.trans (x3.le x2.1)).le e1.1)
        have g03 : H3.get H.size = .cells [.int .i64 0, .nils, .nils] .own := by rw [x13.2 _ (by omega), g01]
        have l03 : H.size < H3.size := Heap.lt_of_get (by rw [g03]; simp)
        obtain ⟨o1, o2⟩ := RD.one
        simp only [go_sem, zA, zB, zC, reduceIte, zD, zE, zF, zG, zH, zI, reduceCtorEq, zJ, zK, zL, zM, zN, zO, zP, g03, Heap.get_set_self l03, o1, o2]
        refine fin (.set (notF [⟨10, 10⟩])) (k + 1) _ _ _ H3 (by rw [atomP, if_neg h40, if_neg h91, if_pos h46]) (F1.trans (FrX.ofExt (x13.le (by omega)))) (P1.ext x13) ⟨v, rb2, rfl, RD.ext x3, fun h0 => ?_, by have := notF_len [⟨10, 10⟩]; simp only [List.length_cons, List.length_nil] at this; omega⟩
        have := (hrb2 h0).1
        rw [Heap.size_push] at this
        omega
    · -- a class
      rw [atomP, if_neg h40, if_pos h91] at hns hF
      cases hbig : bigC its e 93 (k + 1) with
      | true => rw [hbig, if_pos rfl] at hns; exact absurd rfl hns
      | false =>
      rw [hbig, if_neg (by decide)] at hns hF
      have hs1 := f1.1
      have P1 := P0.go f1 R1
      have F1 : FrX [rb, xb] H.size H H1 := (FrX.ofExt x0).trans ((f1.frX (n := H.size) (by omega)).mono (Nat.le_refl _) fun c hc _ => by simp at hc ⊢; exact hc.1)
      have g01 : H1.get H.size = .cells [.int .i64 0, .nils, .nils] .own := by rw [(f1.frX (Nat.le_refl _)).2 H.size (by omega) (by simp; omega), g0]
      simp only [go_sem, zA, zB, zC, reduceIte, zD, zE, zF, zG, zH, zI, reduceCtorEq, zJ, zK, zL, zM, zN, zO, zP, P1.get]
      refine k_Class ho hs hl hbig P1.rdr (fun a ha H2 f2 => ?_) (fun l k2 ha H2 v f2 R2 s2 l13 => ?_)
      · rw [ha] at hF
        simp only [go_sem, zA, zB, zC, reduceIte, zD, zE, zF, zG, zH, zI, reduceCtorEq, zJ, zK, zL, zM, zN, zO, zP]
        exact hF _ _ rfl _ (F1.trans (f2.frX.mono (by omega) fun c hc _ => by simp at hc ⊢; exact hc.1))
      · rw [ha] at hF
        simp only at hF
        have hs2 := f2.1
        have P2 : PS xb rb H2 its e k2 d iv ib := ⟨by rw [f2.2 xb (by omega) hP.ne hP.ne, P1.get], R2, hP.ne, hP.ni⟩
        have F2 : FrX [rb, xb] H.size H H2 := F1.trans (f2.frX.mono (by omega) fun c hc _ => by simp at hc ⊢; exact hc.1)
        have g02 : H2.get H.size = .cells [.int .i64 0, .nils, .nils] .own := by rw [f2.2 H.size (by omega) (by omega) (by omega), g01]
        simp only [go_sem, zA, zB, zC, reduceIte, zD, zE, zF, zG, zH, zI, reduceCtorEq, zJ, zK, zL, zM, zN, zO, zP, P2.get]
        refine k_Must ho (by omega) P2.rdr (fun hp => ?_) (fun hp H3 f3 R3 => ?_)
        · rw [if_neg hp] at hF
          simp only [go_sem, zA, zB, zC, reduceIte, zD, zE, zF, zG, zH, zI, reduceCtorEq, zJ, zK, zL, zM, zN, zO, zP]
          exact hF _ _ rfl _ F2
        · have hs3 := f3.1
          have P3 := P2.go f3 R3
          obtain ⟨rb2, RD, hrb2⟩ := s2.rd
          have RD3 : Rd H3 2 (rcells l) l.length v rb2 := RD.keep fun h0 => (f3.frX (Nat.le_refl _)).2 _ (RD.lt h0) (by have := (hrb2 h0).1; simp; omega)
          have g03 : H3.get H.size = .cells [.int .i64 0, .nils, .nils] .own := by rw [(f3.frX (Nat.le_refl _)).2 H.size (by omega) (by simp; omega), g02]
          simp only [go_sem, zA, zB, zC, reduceIte, zD, zE, zF, zG, zH, zI, reduceCtorEq, zJ, zK, zL, zM, zN, zO, zP]
          refine p_set ho RD3.one fun H4 x4 => ?_
          have g04 : H4.get H.size = .cells [.int .i64 0, .nils, .nils] .own := by rw [x4.2 _ (by omega), g03]
          have l04 : H.size < H4.size := Heap.lt_of_get (by rw [g04]; simp)
          obtain ⟨o1, o2⟩ := RD3.one
          simp only [go_sem, zA, zB, zC, reduceIte, zD, zE, zF, zG, zH, zI, reduceCtorEq, zJ, zK, zL, zM, zN, zO, zP, g04, Heap.get_set_self l04, o1, o2]
          refine fin (.set l) (k2 + 1) _ _ _ H4 (by rw [atomP, if_neg h40, if_pos h91, hbig, if_neg (by decide), ha]; simp only [if_pos hp]) (F2.trans (((f3.frX (n := H.size) (by omega)).mono (Nat.le_refl _) fun c hc _ => by simp at hc ⊢; exact hc.1).trans (FrX.ofExt (x4.le (by omega))))) (P3.ext x4) ⟨v, rb2, rfl, RD3.ext x4, fun h0 => ?_, by omega⟩
          have := (hrb2 h0).1
          omega
  · -- a bracket
    have P1 := P0.go f1 R1
    have hs1 := f1.1
    have F1 : FrX [rb, xb] H.size H H1 := (FrX.ofExt x0).trans ((f1.frX (n := H.size) (by omega)).mono (Nat.le_refl _) fun c hc _ => by simp at hc ⊢; exact hc.1)
    have w1 := wsucc (show d ≤ 1000000000 by omega)
    have P2 := P1.deep (d + 1)
    have F2 : FrX [rb, xb] H.size H (H1.set xb (.cells [.ptr rb 0, .int .i64 ((d + 1 : Nat) : Int)] .own)) := F1.trans (FrX.set (.inl (by simp)))
    have wx : xb < H1.size := P1.lt
    have g02 : (H1.set xb (.cells [.ptr rb 0, .int .i64 ((d + 1 : Nat) : Int)] .own)).get H.size = .cells [.int .i64 0, .nils, .nils] .own := by
      rw [Heap.get_set_ne (by omega), (f1.frX (Nat.le_refl _)).2 H.size (by omega) (by simp; omega), g0]
    have hs2 : (H1.set xb (.cells [.ptr rb 0, .int .i64 ((d + 1 : Nat) : Int)] .own)).size = H1.size := Heap.size_set _ _ _
    simp only [go_sem, zA, zB, zC, reduceIte, zD, zE, zF, zG, zH, zI, reduceCtorEq, zJ, zK, zL, zM, zN, zO, zP, P1.get, w1, P2.get]
    generalize H1.set xb (.cells [.ptr rb 0, .int .i64 ((d + 1 : Nat) : Int)] .own) = H2 at P2 F2 g02 hs2 ⊢
    by_cases hd1 : 40 < d + 1
    · have c1 : (40 : Int) < ((d + 1 : Nat) : Int) := by omega
      rw [atomP, if_pos h40, if_pos hd1] at hF
      simp only [go_sem, zA, zB, zC, reduceIte, zD, zE, zF, zG, zH, zI, reduceCtorEq, zJ, zK, zL, zM, zN, zO, zP, c1, P2.get]
      refine w_Fail ho ?_
      simp only [go_sem, zA, zB, zC, reduceIte, zD, zE, zF, zG, zH, zI, reduceCtorEq, zJ, zK, zL, zM, zN, zO, zP]
      exact hF _ _ rfl _ F2
    · have c1 : ¬ (40 : Int) < ((d + 1 : Nat) : Int) := by omega
      rw [atomP_br h40 hd1] at hns hF
      simp only [go_sem, zA, zB, zC, reduceIte, zD, zE, zF, zG, zH, zI, reduceCtorEq, zJ, zK, zL, zM, zN, zO, zP, c1, P2.get]
      refine hA (d + 1) (k + 1) H2 _ (by omega) P2 ⟨fun h => hns (by rw [h]), fun c a h H3 f3 => ?_, fun y k2 h H3 cy f3 P3 R3 => ?_⟩
      · rw [h] at hF
        simp only [go_sem, zA, zB, zC, reduceIte, zD, zE, zF, zG, zH, zI, reduceCtorEq, zJ, zK, zL, zM, zN, zO, zP]
        exact hF c a rfl _ (F2.trans (f3.mono (by omega) fun c hc _ => hc))
      · rw [h] at hns hF
        simp only at hns hF
        have hs3 := f3.1
        obtain ⟨ky, vy, wy, ey, ⟨y1, y2⟩, y3, y4⟩ := R3.form
        subst ey
        have e3 : Ext H3.size H3 (H3.push (.cells [.int .i64 ky, vy, wy] .own)) := Ext.push (Nat.le_refl _)
        have P4 := P3.ext e3
        have F4 : FrX [rb, xb] H.size H (H3.push (.cells [.int .i64 ky, vy, wy] .own)) := (F2.trans (f3.mono (by omega) fun c hc _ => hc)).trans (FrX.ofExt (e3.le (by omega)))
        have R4 := R3.keep (Q := fun b => H.size < b ∧ b < H3.size) (H' := H3.push (.cells [.int .i64 ky, vy, wy] .own)) fun b q1 q2 => ⟨e3.2 b q2, by omega, q2⟩
        have g44 : (H3.push (.cells [.int .i64 ky, vy, wy] .own)).get H3.size = .cells [.int .i64 ky, vy, wy] .own := Heap.get_push_self
        have g04 : (H3.push (.cells [.int .i64 ky, vy, wy] .own)).get H.size = .cells [.int .i64 0, .nils, .nils] .own := by
          rw [Heap.get_push_lt (by omega), f3.2 H.size (by omega) (by simp; omega), g02]
        have hs4 : (H3.push (.cells [.int .i64 ky, vy, wy] .own)).size = H3.size + 1 := Heap.size_push _ _
        have P4g := P4.get
        simp only [go_sem, zA, zB, zC, reduceIte, zD, zE, zF, zG, zH, zI, reduceCtorEq, zJ, zK, zL, zM, zN, zO, zP, y1, y2, y3, y4, P4g]
        generalize H3.push (.cells [.int .i64 ky, vy, wy] .own) = H4 at e3 P4 F4 R4 g44 g04 hs4 P4g ⊢
        refine k_Must ho (by omega) P4.rdr (fun hp => ?_) (fun hp H5 f5 R5 => ?_)
        · rw [if_neg hp] at hF
          simp only [go_sem, zA, zB, zC, reduceIte, zD, zE, zF, zG, zH, zI, reduceCtorEq, zJ, zK, zL, zM, zN, zO, zP]
          exact hF _ _ rfl _ F4
        · have P5 := P4.go f5 R5
          have f5' := f5.frX (Nat.le_refl _)
          have hs5 := f5.1
          have w2 := wpred (n := d + 1) (by omega) (by omega)
          rw [Nat.add_sub_cancel] at w2
          have P6 := P5.deep d
          have hs6 : (H5.set xb (.cells [.ptr rb 0, .int .i64 (d : Int)] .own)).size = H5.size := Heap.size_set _ _ _
          have T6 : FrX [rb, xb] H4.size H4 (H5.set xb (.cells [.ptr rb 0, .int .i64 (d : Int)] .own)) := (f5'.mono (Nat.le_refl _) fun c hc _ => by simp at hc ⊢; exact hc.1).trans (FrX.set (.inl (by simp)))
          have g46 : (H5.set xb (.cells [.ptr rb 0, .int .i64 (d : Int)] .own)).get H3.size = .cells [.int .i64 ky, vy, wy] .own := by rw [T6.2 _ (by omega) (by simp; omega), g44]
          have g06 : (H5.set xb (.cells [.ptr rb 0, .int .i64 (d : Int)] .own)).get H.size = .cells [.int .i64 0, .nils, .nils] .own := by rw [T6.2 _ (by omega) (by simp; omega), g04]
          have l06 : H.size < (H5.set xb (.cells [.ptr rb 0, .int .i64 (d : Int)] .own)).size := by omega
          simp only [go_sem, zA, zB, zC, reduceIte, zD, zE, zF, zG, zH, zI, reduceCtorEq, zJ, zK, zL, zM, zN, zO, zP, P5.get, w2, g46, g06, y1, y2, y3, y4, Heap.get_set_self l06]
          refine fin y (k2 + 1) ky vy wy _ ?_ (F4.trans (T6.mono (by omega) fun c hc _ => hc)) P6 (R4.keep fun b q1 q2 => ⟨T6.2 b q2 (by simp; omega), q1.1⟩)
          rw [atomP_br h40 hd1, h]
          simp only [if_pos hp]
end
/- Expressions from texts: parse.Re. -/
set_option maxRecDepth 8000
/-- An expression of a text, or why there is none. -/
def reF (n : Nat) (s : List UInt8) : Except PErr Rx := match allP (decAll s) s.length n 0 0 with
  | .error q => .error q
  | .ok (x, k) => if peekR (decAll s) k = -1 then .ok x else .error (.fail 3 (atR (decAll s) s.length k))
theorem err_pos {its : List It} {e : Nat} : ∀ n, (∀ d k c a, atomP its e n d k = .error (.fail c a) → 0 < c) ∧ (∀ d x sm k c a, rowP its e n d x sm k = .error (.fail c a) → 0 < c) ∧ (∀ d x k c a, altP its e n d x k = .error (.fail c a) → 0 < c)
  | 0 => ⟨fun d k c a h => (by rw [atomP] at h; cases h), fun d x sm k c a h => (by rw [rowP] at h; cases h), fun d x k c a h => (by rw [altP] at h; cases h)⟩
  | n + 1 => by
    obtain ⟨h1, h2, h3⟩ := err_pos (its := its) (e := e) n
    refine ⟨fun d k c a h => ?_, fun d x sm k c a h => ?_, fun d x k c a h => ?_⟩
    · rw [atomP] at h
      split at h
      · split at h
        · cases h; omega
        · split at h
          · rename_i q hq; cases h; exact h2 _ _ _ _ _ _ hq
          · split at h
            · rename_i q hq; cases h; exact h3 _ _ _ _ _ hq
            · split at h <;> cases h; omega
      · split at h
        · split at h
          · cases h
          · split at h
            · cases h; omega
            · split at h <;> cases h; omega
        · split at h
          · cases h
          · split at h <;> cases h; omega
    · rw [rowP] at h
      split at h
      · cases h
      · split at h
        · rename_i q hq; cases h; exact h1 _ _ _ _ hq
        · exact h2 _ _ _ _ _ _ h
    · rw [altP] at h
      split at h
      · split at h
        · cases h
        · exact h3 _ _ _ _ _ h
      · cases h
theorem reF_pos {n : Nat} {s : List UInt8} {c a : Nat} (h : reF n s = .error (.fail c a)) : 0 < c := by
  unfold reF at h
  split at h
  · rename_i q hq
    cases h
    unfold allP at hq
    split at hq
    · rename_i q hq'; cases hq; exact (err_pos n).2.1 _ _ _ _ _ _ hq'
    · exact (err_pos n).2.2 _ _ _ _ _ hq
  · split at h <;> cases h; omega
section
variable {o : CallF} (ho : OvOnly o)
include ho
theorem parser_n {xb rb e ib : Nat} {its : List It} {iv : AV} (hs : Sm its) (hl : its.length ≤ 49990) : ∀ n, AtomS o xb rb its e iv ib n ∧ RowL o xb rb its e iv ib n ∧ AltL o xb rb its e iv ib n
  | 0 => ⟨fun d k H Q hd hP h => absurd (by rw [atomP]) h.1, fun d k x sm cs b2 b3 n0 H Q hd hP hn hb2 hb3 hx hr hi g3 hR hns => absurd (by rw [rowP]) hns, fun d k x cs b2 b3 n0 H Q hd hP hn hb2 hb3 hx hr hi g3 hR hns => absurd (by rw [altP]) hns⟩
  | n + 1 => by
    obtain ⟨h1, h2, h3⟩ := parser_n hs hl n
    exact ⟨atom_step ho hs hl (all_of ho (row_of ho h2) h3), row_step ho h1 h2, alt_step ho (row_of ho h2) h3⟩
theorem p_all {xb rb e ib n d k : Nat} {its : List It} {iv : AV} (hs : Sm its) (hl : its.length ≤ 49990) {H : Heap} {Q : End → Heap → Prop} (hd : d ≤ 1000) (hP : PS xb rb H its e k d iv ib) (h : Out xb rb its e d iv ib H (allP its e n d k) Q) : wpf ⟨bt.get, o⟩ F_parse_regex_all [.ptr xb 0] H Q := by
  obtain ⟨_, h2, h3⟩ := parser_n ho (xb := xb) (rb := rb) (e := e) (ib := ib) (iv := iv) hs hl n
  exact all_of ho (row_of ho h2) h3 d k H Q hd hP h
theorem k_Read {s : List UInt8} (hs : s.length ≤ 300000) {H : Heap} {Q : End → Heap → Prop} (hG : GlH H)
    (h : ∀ H' rb iv ib, Ext H.size H H' → H.size ≤ rb → (0 < (decAll s).length → H.size ≤ ib) → RdrS rb H' (decAll s) s.length 0 iv ib → (decAll s).length ≤ 2 * s.length + 1 → Q (.ret (.ptr rb 0)) H') : wpf ⟨bt.get, o⟩ F_word_Read [.str s] H Q := by
  have hsl : s.length ≤ 1099511627776 := by omega
  rw [fn_word_Read (ho _ _ _ (by decide))]
  simp only [bd_word_Read, go_sem, zA, zB, zC, reduceIte, zD, zE, zF, zG, zH, zI, reduceCtorEq, zJ, zK, zL, zM, zN, zO, zP, hsl]
  refine d_All ho (by omega) (hG.ext hG.1 (Ext.push (Nat.le_refl _))) Heap.get_push_self fun H4 iv x4 hiv hil => ?_
  obtain ⟨ib, hRd, hib⟩ := hiv.rd
  obtain ⟨c1, c2⟩ := hiv.one
  have z4 : Ext H.size H H4 := (Ext.push (Nat.le_refl _)).trans (x4.le (by rw [Heap.size_push]; omega))
  simp only [go_sem, zA, zB, zC, reduceIte, zD, zE, zF, zG, zH, zI, reduceCtorEq, zJ, zK, zL, zM, zN, zO, zP, c1, c2]
  have x5 : Ext H4.size H4 (H4.push (.cells [iv, .int .i64 0, .int .i64 s.length] .own)) := Ext.push (Nat.le_refl _)
  have RR : RdrS H4.size (H4.push (.cells [iv, .int .i64 0, .int .i64 s.length] .own)) (decAll s) s.length 0 iv ib :=
    ⟨Heap.get_push_self, hRd.ext x5, fun hp => by have := hRd.lt hp; omega, Nat.zero_le _, by omega⟩
  exact h _ _ iv ib (z4.trans (x5.le z4.1)) z4.1 (fun hp => by have := (hib hp).1; rw [Heap.size_push] at this; omega) RR hil
theorem p_Re {s : List UInt8} (n : Nat) (hs : s.length ≤ 24990) {H : Heap} {Q : End → Heap → Prop} (hG : GlH H) (hns : reF n s ≠ .error .stuck)
    (hE : ∀ x, reF n s = .ok x → ∀ H' cs, Ext H.size H H' → ReV (fun b => H.size ≤ b) H' x cs → Q (.ret (.tup [.agg cs, .int .i64 0, .int .i64 0])) H')
    (hP : ∀ (c a : Nat), reF n s = .error (.fail c a) → 0 < c → ∀ H', Ext H.size H H' → Q (.ret (.tup [.agg [.int .i64 0, .nils, .nils], .int .i64 (c : Int), .int .i64 (a : Int)])) H') : wpf ⟨bt.get, o⟩ F_parse_Re [.str s] H Q := by
  rw [fn_parse_Re (ho _ _ _ (by decide))]
  simp only [bd_parse_Re, go_sem, zA, zB, zC, reduceIte, zD, zE, zF, zG, zH, zI, reduceCtorEq, zJ, zK, zL, zM, zN, zO, zP]
  generalize hH2 : ((H.push (Blk.cells [AV.str s] Use.own)).push (Blk.cells [.int .i64 0, .nils, .nils] .own)).push (Blk.cells [.int .i64 0, .nils, .nils] .own) = H2
  have sz2 : H2.size = H.size + 3 := by rw [← hH2]; rfl
  have f0 : H2.get H.size = .cells [.str s] .own := by rw [← hH2, Heap.get3_0]
  have f1 : H2.get (H.size + 1) = .cells [.int .i64 0, .nils, .nils] .own := by rw [← hH2, Heap.get3_1]
  have f2 : H2.get (H.size + 2) = .cells [.int .i64 0, .nils, .nils] .own := by rw [← hH2, Heap.get_push_eq (by simp only [Heap.size_push])]
  have x2 : Ext H.size H H2 := by
    rw [← hH2]
    exact ((Ext.push (Nat.le_refl _)).trans (Ext.push (by rw [Heap.size_push]; omega))).trans (Ext.push (by rw [Heap.size_push, Heap.size_push]; omega))
  -- the work's call
  have work : wpf ⟨bt.get, o⟩ F_parse_Re_1 [.ptr H.size 0, .ptr (H.size + 2) 0] (H2.push (.cells [.int .i64 0, .int .i64 0] .own)) fun e H' => FrX [H.size + 2] (H.size + 4) (H2.push (.cells [.int .i64 0, .int .i64 0] .own)) H' ∧
      ((∃ x cs, reF n s = .ok x ∧ e = .ret (.tup []) ∧ H'.get (H.size + 2) = .cells cs .own ∧ ReV (fun b => H.size + 4 ≤ b) H' x cs) ∨ ∃ c a : Nat, reF n s = .error (.fail c a) ∧ e = .pan [(faultA c a, false)]) := by
    rw [fn_parse_Re_1 (ho _ _ _ (by decide))]
    have g0 : (H2.push (.cells [.int .i64 0, .int .i64 0] .own)).get H.size = .cells [.str s] .own := by rw [Heap.get_push_lt (by omega), f0]
    have g2 : (H2.push (.cells [.int .i64 0, .int .i64 0] .own)).get (H.size + 2) = .cells [.int .i64 0, .nils, .nils] .own := by rw [Heap.get_push_lt (by omega), f2]
    have sz3 : (H2.push (.cells [.int .i64 0, .int .i64 0] .own)).size = H.size + 4 := by rw [Heap.size_push, sz2]
    have y3 : Ext H.size H2 (H2.push (.cells [.int .i64 0, .int .i64 0] .own)) := Ext.push (by omega)
    have hG3 : GlH (H2.push (.cells [.int .i64 0, .int .i64 0] .own)) := (hG.ext hG.1 x2).ext hG.1 y3
    generalize H2.push (.cells [.int .i64 0, .int .i64 0] .own) = H3 at g0 g2 sz3 y3 hG3 ⊢
    simp only [bd_parse_Re_1, go_sem, zA, zB, zC, reduceIte, zD, zE, zF, zG, zH, zI, reduceCtorEq, zJ, zK, zL, zM, zN, zO, zP, g0]
    refine k_Read ho (by omega) hG3 fun H4 rb iv ib x4 hrb hib R4 hil => ?_
    have sz4 := x4.1
    have x5 : Ext H4.size H4 (H4.push (.cells [.ptr rb 0, .int .i64 0] .own)) := Ext.push (Nat.le_refl _)
    have g5 : (H4.push (.cells [.ptr rb 0, .int .i64 0] .own)).get H4.size = .cells [.ptr rb 0, .int .i64 0] .own := Heap.get_push_self
    have P5 : PS H4.size rb (H4.push (.cells [.ptr rb 0, .int .i64 0] .own)) (decAll s) s.length 0 0 iv ib :=
      ⟨g5, R4.fr x5, by have := R4.lt; omega, fun hp => by have := R4.rd.lt hp; omega⟩
    have sz5 : (H4.push (.cells [.ptr rb 0, .int .i64 0] .own)).size = H4.size + 1 := Heap.size_push _ _
    have x35 : Ext (H.size + 4) H3 (H4.push (.cells [.ptr rb 0, .int .i64 0] .own)) := (x4.le (by omega)).trans (x5.le (by omega))
    simp only [go_sem, zA, zB, zC, reduceIte, zD, zE, zF, zG, zH, zI, reduceCtorEq, zJ, zK, zL, zM, zN, zO, zP]
    generalize H4.push (.cells [.ptr rb 0, .int .i64 0] .own) = H5 at x5 g5 P5 sz5 x35 ⊢
    unfold reF at hns ⊢
    refine p_all ho (n := n) (decAll_sm s) (by omega) (by omega) P5 ⟨fun h => hns (by rw [h]), fun c a h H6 f6 => ?_, fun y k1 h H6 cy f6 P6 R6 => ?_⟩
    · rw [h]
      simp only [go_sem, zA, zB, zC, reduceIte, zD, zE, zF, zG, zH, zI, reduceCtorEq, zJ, zK, zL, zM, zN, zO, zP]
      exact ⟨(FrX.ofExt x35).trans (f6.mono (by omega) fun c hc hc2 => by simp at hc ⊢; omega), .inr ⟨c, a, rfl, rfl⟩⟩
    · rw [h] at hns ⊢
      have hs6 := f6.1
      obtain ⟨ky, vy, wy, ey, ⟨y1, y2⟩, y3, y4⟩ := R6.form
      subst ey
      have g26 : H6.get (H.size + 2) = .cells [.int .i64 0, .nils, .nils] .own := by rw [f6.2 _ (by omega) (by simp; omega), x35.2 _ (by omega), g2]
      have l26 : H.size + 2 < H6.size := by omega
      have T : FrX [H.size + 2] H6.size H6 (H6.set (H.size + 2) (.cells [.int .i64 ky, vy, wy] .own)) := FrX.set (.inl (by simp))
      have F7 : FrX [H.size + 2] (H.size + 4) H3 (H6.set (H.size + 2) (.cells [.int .i64 ky, vy, wy] .own)) := (FrX.ofExt x35).trans ((f6.mono (by omega) fun c hc hc2 => by simp at hc ⊢; omega).trans (T.mono (by omega) fun c hc _ => hc))
      have P7 := P6.keep T ⟨P6.lt, by simp; omega⟩ ⟨P6.rdr.lt, by simp; omega⟩ fun hp => ⟨P6.ilt hp, by have := hib hp; simp; omega⟩
      have R7 : ReV (fun b => H.size + 4 ≤ b) (H6.set (H.size + 2) (.cells [.int .i64 ky, vy, wy] .own)) y [.int .i64 ky, vy, wy] := R6.keep fun b q1 q2 => ⟨T.2 b q2 (by simp; omega), by omega⟩
      have g27 : (H6.set (H.size + 2) (.cells [.int .i64 ky, vy, wy] .own)).get (H.size + 2) = .cells [.int .i64 ky, vy, wy] .own := Heap.get_set_self l26
      simp only [go_sem, zA, zB, zC, reduceIte, zD, zE, zF, zG, zH, zI, reduceCtorEq, zJ, zK, zL, zM, zN, zO, zP, g26, y1, y2, y3, y4, P7.get]
      generalize H6.set (H.size + 2) (.cells [.int .i64 ky, vy, wy] .own) = H7 at T F7 P7 R7 g27 ⊢
      refine k_Peek ho P7.rdr ?_
      by_cases hp : peekR (decAll s) k1 = -1
      · simp only [go_sem, zA, zB, zC, reduceIte, zD, zE, zF, zG, zH, zI, reduceCtorEq, zJ, zK, zL, zM, zN, zO, zP, hp]
        exact ⟨F7, .inl ⟨y, _, rfl, g27, R7⟩⟩
      · simp only [go_sem, zA, zB, zC, reduceIte, zD, zE, zF, zG, zH, zI, reduceCtorEq, zJ, zK, zL, zM, zN, zO, zP, hp, P7.get]
        refine k_At ho P7.rdr ?_
        simp only [go_sem, zA, zB, zC, reduceIte, zD, zE, zF, zG, zH, zI, reduceCtorEq, zJ, zK, zL, zM, zN, zO, zP]
        refine w_Fail ho ?_
        simp only [go_sem, zA, zB, zC, reduceIte, zD, zE, zF, zG, zH, zI, reduceCtorEq, zJ, zK, zL, zM, zN, zO, zP]
        exact ⟨F7, .inr ⟨3, _, rfl, rfl⟩⟩
  refine w_Caught ho work fun e H' hR => ?_
  obtain ⟨r1, r4⟩ := hR
  have hs' := r1.1
  rw [Heap.size_push, sz2] at hs'
  rw [sz2]
  refine ⟨by rw [r1.2 _ (by omega) (by simp), Heap.get_push_eq sz2.symm], ?_⟩
  have low : ∀ H'', Fr (H.size + 3) .nils H' H'' → Ext H.size H H'' ∧ H''.get (H.size + 1) = .cells [.int .i64 0, .nils, .nils] .own ∧ H.size + 4 ≤ H''.size ∧ ∀ c, c < H'.size → c ≠ H.size + 3 → H''.get c = H'.get c := fun H'' hk => by
    have hk1 := hk.1
    have hk2 := (hk.frX (Nat.le_refl _)).2
    refine ⟨⟨by omega, fun c hc => ?_⟩, ?_, by omega, fun c h1 h2 => hk2 c h1 (by simp; omega)⟩
    · rw [hk2 c (by omega) (by simp; omega), r1.2 c (by omega) (by simp; omega), Heap.get_push_lt (by omega), x2.2 c hc]
    · rw [hk2 _ (by omega) (by simp), r1.2 _ (by omega) (by simp), Heap.get_push_lt (by omega), f1]
  rcases r4 with ⟨x, cs, hx, rfl, g, R⟩ | ⟨c, a, hx, rfl⟩
  · refine .inl ⟨_, rfl, fun H'' hk => ?_⟩
    obtain ⟨u1, u2, u3, u4⟩ := low H'' hk
    obtain ⟨ky, vy, wy, ey, ⟨y1, y2⟩, y3, y4⟩ := R.form
    subst ey
    have u5 : H''.get (H.size + 2) = .cells [.int .i64 ky, vy, wy] .own := by rw [u4 _ (by omega) (by omega), g]
    have e1 : Ext H''.size H'' (H''.push (.cells [.int .i64 0, .int .i64 0] .own)) := Ext.push (Nat.le_refl _)
    have u6 : (H''.push (.cells [.int .i64 0, .int .i64 0] .own)).get (H.size + 2) = .cells [.int .i64 ky, vy, wy] .own := by rw [e1.2 _ (by omega), u5]
    have u7 : (H''.push (.cells [.int .i64 0, .int .i64 0] .own)).get (H.size + 1) = .cells [.int .i64 0, .nils, .nils] .own := by rw [e1.2 _ (by omega), u2]
    have u8 : H.size + 1 < (H''.push (.cells [.int .i64 0, .int .i64 0] .own)).size := by rw [Heap.size_push]; omega
    simp only [go_sem, zA, zB, zC, reduceIte, zD, zE, zF, zG, zH, zI, reduceCtorEq, zJ, zK, zL, zM, zN, zO, zP, u6, u7, y1, y2, y3, y4, Heap.get_set_self u8]
    refine hE x hx _ _ ((u1.trans (e1.le (by omega))).trans (Ext.set (by omega))) (R.keep fun b q1 q2 => ⟨?_, by omega⟩)
    rw [Heap.get_set_ne (by omega), e1.2 _ (by have := hk.1; omega), u4 _ q2 (by omega)]
  · refine .inr ⟨c, a, rfl, fun H'' hk => ?_⟩
    obtain ⟨u1, u2, u3, u4⟩ := low H'' hk
    have hc0 : 0 < c := reF_pos hx
    have hc : ¬ (c : Int) = 0 := by omega
    have e1 : Ext H''.size H'' (H''.push (.cells [.int .i64 c, .int .i64 a] .own)) := Ext.push (Nat.le_refl _)
    have u7 : (H''.push (.cells [.int .i64 c, .int .i64 a] .own)).get (H.size + 1) = .cells [.int .i64 0, .nils, .nils] .own := by rw [e1.2 _ (by omega), u2]
    have u8 : H.size + 1 < (H''.push (.cells [.int .i64 c, .int .i64 a] .own)).size := by rw [Heap.size_push]; omega
    have u9 : ((H''.push (.cells [.int .i64 c, .int .i64 a] .own)).set (H.size + 1) (.cells [.int .i64 0, .nils, .nils] .own)).get H''.size = .cells [.int .i64 c, .int .i64 a] .own := by rw [Heap.get_set_ne (by omega), Heap.get_push_self]
    simp only [go_sem, zA, zB, zC, reduceIte, zD, zE, zF, zG, zH, zI, reduceCtorEq, zJ, zK, zL, zM, zN, zO, zP, hc, u7, u9, Heap.get_set_self u8]
    exact hP c a hx hc0 _ ((u1.trans (e1.le (by omega))).trans (Ext.set (c := H.size + 1) (by omega)))
end
/- Texts of ASCII signs alone: their runes. -/
def asc : Nat → List UInt8 → List It
  | _, [] => []
  | i, c :: r => ⟨c.toNat, i, i + 1, false, false⟩ :: asc (i + 1) r
theorem feed_asc : ∀ (r : List UInt8) (i : Nat), (∀ c ∈ r, c.toNat < 128) → feedD r [] i = ([], i + r.length, asc i r)
  | [], i, _ => rfl
  | c :: r, i, h => by
    have hc := h c (by simp)
    have h1 : longB c = 1 := by simp only [longB, longN, if_pos hc]
    have hk : okB [] c = true := by simp [okB, h1]
    have ht : takeB [] c i = ([], i + 1, [⟨c.toNat, i, i + 1, false, false⟩]) := by
      simp only [takeB, hk, if_true, afterM, List.nil_append, headB, List.headD_cons, h1, List.length_cons, List.length_nil, decR]
    simp only [feedD, ht, feed_asc r (i + 1) (fun x hx => h x (by simp [hx])), asc, List.length_cons, List.cons_append, List.nil_append]
    congr 2; omega
theorem dec_asc {s : List UInt8} (h : ∀ c ∈ s, c.toNat < 128) : decAll s = asc 0 s := by
  unfold decAll
  rw [feed_asc s 0 h]
  simp [closeD]
theorem asc_get : ∀ (s : List UInt8) (i k : Nat), (asc i s)[k]? = (s[k]?).map fun c => ⟨c.toNat, i + k, i + k + 1, false, false⟩
  | [], _, _ => by simp [asc]
  | c :: r, i, 0 => rfl
  | c :: r, i, k + 1 => by
    rw [asc, List.getElem?_cons_succ, asc_get r (i + 1) k, List.getElem?_cons_succ, show i + 1 + k = i + (k + 1) by omega]
theorem asc_len : ∀ (s : List UInt8) (i : Nat), (asc i s).length = s.length
  | [], _ => rfl
  | c :: r, i => by rw [asc, List.length_cons, asc_len r, List.length_cons]
/-- The rune at a place of such a text. -/
def chrR (s : List UInt8) (k : Nat) : Int := match s[k]? with
  | some c => (c.toNat : Int)
  | none => -1
theorem peek_ascR {s : List UInt8} {k : Nat} : peekR (asc 0 s) k = chrR s k := by
  unfold peekR chrR
  rw [asc_get]
  cases s[k]? <;> rfl
end Go.Ev
