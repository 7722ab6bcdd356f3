/- Several texts of this claim, joined. -/
import Derived.Test.YtifhmogcdgfojaaGreatDoorT26
set_option linter.unusedSimpArgs false
set_option linter.unusedVariables false

/- What package decode comes to. -/
namespace Go.Ev
open Go
open Go.Ev renaming seqK_normal → zA, blockK_normal → zB, blockK_exit → zC
open Nat renaming reduceEqDiff → zD, reduceAdd → zE, reduceSub → zF, reduceMul → zG, reduceLeDiff → zH, reduceLT → zI
open Int renaming reduceToNat → zJ, reduceLT → zK, reduceLE → zL, reduceEq → zM, reduceAdd → zN, reduceSub → zO, reduceMul → zP
structure It where
  rune : Nat
  frm : Nat
  to : Nat
  bad : Bool
  more : Bool
  deriving DecidableEq
def It.cells (x : It) : List AV := [.int .i32 x.rune, .int .i64 x.frm, .int .i64 x.to, .bool x.bad, .bool x.more]
def icells (l : List It) : List AV := l.flatMap It.cells
theorem icells_app (l m : List It) : icells (l ++ m) = icells l ++ icells m := List.flatMap_append
theorem icells_len : ∀ l : List It, (icells l).length = l.length * 5
  | [] => rfl
  | w :: l => by rw [icells, List.flatMap_cons, List.length_append, ← icells, icells_len l, It.cells]; simp only [List.length_cons, List.length_nil]; omega
def seqR : CCode → CCode
  | .seq _ b => b
  | c => c
theorem longN_v3 {n : Nat} (h : 224 ≤ n) (k : n ≤ 239) : longN n = 3 := by
  unfold longN
  repeat' split
  all_goals omega
theorem longN_v4 {n : Nat} (h : 240 ≤ n) (k : n ≤ 244) : longN n = 4 := by
  unfold longN
  repeat' split
  all_goals omega
theorem longN_v0 {n : Nat} (h : (128 ≤ n ∧ n ≤ 193) ∨ 245 ≤ n) : longN n = 0 := by
  unfold longN
  repeat' split
  all_goals omega
section
variable {o : CallF} (ho : OvOnly o)
include ho
theorem d_long {c : UInt8} {H : Heap} {Q : End → Heap → Prop} (h : Q (.ret (.int .i64 (longB c : Int))) H) : wpf ⟨bt.get, o⟩ F_decode_long [.int .u8 c.toNat] H Q := by
  rw [fn_decode_long (ho _ _ _ (by decide))]
  have hb := c.toNat_lt
  have fin : ∀ k : Nat, longB c = k → Q (.ret (.int .i64 (k : Int))) H := fun k e => by rw [← e]; exact h
  by_cases h1 : c.toNat < 128
  · have h1' : (c.toNat : Int) < 128 := by omega
    simp only [bd_decode_long, go_sem, zA, zB, zC, reduceIte, zD, zE, zF, zG, zH, zI, reduceCtorEq, zJ, zK, zL, zM, zN, zO, zP, h1']
    exact fin 1 (by simp only [longB, longN, if_pos h1])
  · have h1' : ¬(c.toNat : Int) < 128 := by omega
    by_cases h2 : 194 ≤ c.toNat
    · have h2' : (194 : Int) ≤ c.toNat := by omega
      by_cases h3 : c.toNat ≤ 223
      · have h3' : (c.toNat : Int) ≤ 223 := by omega
        simp only [bd_decode_long, go_sem, zA, zB, zC, reduceIte, zD, zE, zF, zG, zH, zI, reduceCtorEq, zJ, zK, zL, zM, zN, zO, zP, h1', h2', h3']
        exact fin 2 (by simp only [longB, longN, if_neg h1, if_pos (And.intro h2 h3)])
      · have h3' : ¬(c.toNat : Int) ≤ 223 := by omega
        have h4' : (224 : Int) ≤ c.toNat := by omega
        by_cases h5 : c.toNat ≤ 239
        · have h5' : (c.toNat : Int) ≤ 239 := by omega
          simp only [bd_decode_long, go_sem, zA, zB, zC, reduceIte, zD, zE, zF, zG, zH, zI, reduceCtorEq, zJ, zK, zL, zM, zN, zO, zP, h1', h2', h3', h4', h5']
          exact fin 3 (longN_v3 (by omega) (by omega))
        · have h5' : ¬(c.toNat : Int) ≤ 239 := by omega
          have h6' : (240 : Int) ≤ c.toNat := by omega
          by_cases h7 : c.toNat ≤ 244
          · have h7' : (c.toNat : Int) ≤ 244 := by omega
            simp only [bd_decode_long, go_sem, zA, zB, zC, reduceIte, zD, zE, zF, zG, zH, zI, reduceCtorEq, zJ, zK, zL, zM, zN, zO, zP, h1', h2', h3', h4', h5', h6', h7']
            exact fin 4 (longN_v4 (by omega) (by omega))
          · have h7' : ¬(c.toNat : Int) ≤ 244 := by omega
            simp only [bd_decode_long, go_sem, zA, zB, zC, reduceIte, zD, zE, zF, zG, zH, zI, reduceCtorEq, zJ, zK, zL, zM, zN, zO, zP, h1', h2', h3', h4', h5', h6', h7']
            exact fin 0 (longN_v0 (by omega))
    · have h2' : ¬(194 : Int) ≤ c.toNat := by omega
      have h4' : ¬(224 : Int) ≤ c.toNat := by omega
      have h6' : ¬(240 : Int) ≤ c.toNat := by omega
      simp only [bd_decode_long, go_sem, zA, zB, zC, reduceIte, zD, zE, zF, zG, zH, zI, reduceCtorEq, zJ, zK, zL, zM, zN, zO, zP, h1', h2', h4', h6']
      exact fin 0 (longN_v0 (by omega))
theorem d_second {c : UInt8} {H : Heap} {Q : End → Heap → Prop} (h : Q (.ret (.tup [.int .u8 (secLo c.toNat : Int), .int .u8 (secHi c.toNat : Int)])) H) : wpf ⟨bt.get, o⟩ F_decode_second [.int .u8 c.toNat] H Q := by
  rw [fn_decode_second (ho _ _ _ (by decide))]
  have fin : ∀ k l : Nat, secLo c.toNat = k → secHi c.toNat = l → Q (.ret (.tup [.int .u8 (k : Int), .int .u8 (l : Int)])) H := fun k l e e' => by rw [← e, ← e']; exact h
  by_cases h1 : c.toNat = 224
  · have h1' : (c.toNat : Int) = 224 := by omega
    simp only [bd_decode_second, go_sem, zA, zB, zC, reduceIte, zD, zE, zF, zG, zH, zI, reduceCtorEq, zJ, zK, zL, zM, zN, zO, zP, h1']
    exact fin 160 191 (by rw [h1]; rfl) (by rw [h1]; rfl)
  · have h1' : ¬(c.toNat : Int) = 224 := by omega
    by_cases h2 : c.toNat = 237
    · have h2' : (c.toNat : Int) = 237 := by omega
      simp only [bd_decode_second, go_sem, zA, zB, zC, reduceIte, zD, zE, zF, zG, zH, zI, reduceCtorEq, zJ, zK, zL, zM, zN, zO, zP, h2']
      exact fin 128 159 (by rw [h2]; rfl) (by rw [h2]; rfl)
    · have h2' : ¬(c.toNat : Int) = 237 := by omega
      by_cases h3 : c.toNat = 240
      · have h3' : (c.toNat : Int) = 240 := by omega
        simp only [bd_decode_second, go_sem, zA, zB, zC, reduceIte, zD, zE, zF, zG, zH, zI, reduceCtorEq, zJ, zK, zL, zM, zN, zO, zP, h3']
        exact fin 144 191 (by rw [h3]; rfl) (by rw [h3]; rfl)
      · have h3' : ¬(c.toNat : Int) = 240 := by omega
        by_cases h4 : c.toNat = 244
        · have h4' : (c.toNat : Int) = 244 := by omega
          simp only [bd_decode_second, go_sem, zA, zB, zC, reduceIte, zD, zE, zF, zG, zH, zI, reduceCtorEq, zJ, zK, zL, zM, zN, zO, zP, h4']
          exact fin 128 143 (by rw [h4]; rfl) (by rw [h4]; rfl)
        · have h4' : ¬(c.toNat : Int) = 244 := by omega
          simp only [bd_decode_second, go_sem, zA, zB, zC, reduceIte, zD, zE, zF, zG, zH, zI, reduceCtorEq, zJ, zK, zL, zM, zN, zO, zP, h1', h2', h3', h4']
          exact fin 128 191 (by simp only [secLo, if_neg h1, if_neg h3]) (by simp only [secHi, if_neg h2, if_neg h4])
omit ho in
theorem d_tell2 {b xb : Nat} {H : Heap} {Q : End → Heap → Prop} {hv ov : AV} {at_ : Nat} {cl bad more : Bool} {out : List It} {x : It} {t} {z : AV}
    (hg : H.get b = .cells [hv, .int .i64 at_, .bool cl, ov] .own) (hx : H.get xb = .cells x.cells .own) (hbx : b + 1 ≤ xb) (hS : Sl (b + 1) H 5 (icells out) out.length ov) (hsep : ∀ s o n, ov ≠ .osl s xb o n) (hl : out.length ≤ 1000000)
    (h : ∀ H' ov', Fr b ov H H' → H'.get b = .cells [.nils, .int .i64 x.to, .bool cl, ov'] .own → Sl (b + 1) H' 5 (icells (out ++ [x])) (out ++ [x]).length ov' → Q (.ret (.tup [])) H') :
    wpc ⟨bt.get, o⟩ (seqR (seqR bd_decode_Dec_tell)) { p := [(0, .ptr b 0), (1, .bool bad), (2, .bool more), (6, .ptr xb 0), (25, z)], t := t, H := H, d := [], u := .norm } (finK ⟨bt.get, o⟩ [] Q) := by
  have hlt : b < H.size := Heap.lt_of_get (by rw [hg]; simp)
  have hltx : xb < H.size := Heap.lt_of_get (by rw [hx]; simp)
  simp only [bd_decode_Dec_tell, seqR, go_sem, zA, zB, zC, reduceIte, zD, zE, zF, zG, zH, zI, reduceCtorEq, zJ, zK, zL, zM, zN, zO, zP, hg, hx, It.cells, Heap.get_push_lt hlt, Heap.get_push_lt hltx]
  obtain ⟨ob, H', ea, hx1, hsl⟩ := append_spec (bytes := 32) (ys := x.cells) (k := 1) (Sl.push (x := .cells x.cells .own) hS) (by rw [Heap.size_push]; omega) (by omega) rfl (by omega) (by omega)
  have fx := append_frame (by omega) ea hS.form (c := xb) (by rw [Heap.size_push]; omega) hsep
  rw [Heap.get_push_lt hltx, hx] at fx
  have ea0 := ea
  simp only [It.cells] at ea fx
  have gb : H'.get b = .cells [hv, .int .i64 at_, .bool cl, ov] .own := by rw [hx1.2 b (by omega), Heap.get_push_lt hlt, hg]
  have hb' : b < H'.size := Heap.lt_of_get (by rw [gb]; simp)
  simp only [ea, go_sem, zA, zB, zC, reduceIte, zD, zE, zF, zG, zH, zI, reduceCtorEq, zJ, zK, zL, zM, zN, zO, zP, gb, Heap.get_set_ne (show xb ≠ b by omega), fx, Heap.get_set_self hb']
  refine h _ _ ?_ (Heap.get_set_self hb') ?_
  · refine ⟨?_, fun c h1 h2 h3 => ?_⟩
    · rw [Heap.size_set]; have := hx1.1; rw [Heap.size_push] at this; omega
    · rw [Heap.get_set_ne h2, append_frame (by omega) ea0 hS.form (c := c) (by rw [Heap.size_push]; omega) h3, Heap.get_push_lt h1]
  · rw [icells_app, List.length_append]
    have : icells [x] = x.cells := by simp [icells]
    rw [this]
    exact hsl.set (by omega)
theorem d_tell {b hb : Nat} {H : Heap} {Q : End → Heap → Prop} {hv ov : AV} {at_ : Nat} {cl bad more : Bool} {out : List It} {held : List UInt8} (hG : GlH H) (hb3 : 8 ≤ b)
    (hg : H.get b = .cells [hv, .int .i64 at_, .bool cl, ov] .own) (hlen : lenI hv = some (held.length : Int)) (hat : at_ + held.length ≤ 1000000) (hS : Sl (b + 1) H 5 (icells out) out.length ov) (hl : out.length ≤ 1000000)
    (hgood : bad = false → hv = .osl 1 hb 0 held.length ∧ H.get hb = .cells (byteCells held) .own ∧ whole held = true)
    (h : ∀ H' ov', Fr b ov H H' → H'.get b = .cells [.nils, .int .i64 ((at_ + held.length : Nat) : Int), .bool cl, ov'] .own → Sl (b + 1) H' 5 (icells (out ++ [It.mk (if bad then 65533 else decR held) at_ (at_ + held.length) bad more])) (out ++ [It.mk (if bad then 65533 else decR held) at_ (at_ + held.length) bad more]).length ov' → Q (.ret (.tup [])) H') :
    wpf ⟨bt.get, o⟩ F_decode_Dec_tell [.ptr b 0, .bool bad, .bool more] H Q := by
  rw [fn_decode_Dec_tell (ho _ _ _ (by decide))]
  have hlt : b < H.size := Heap.lt_of_get (by rw [hg]; simp)
  have hne : ∀ s o n, ov ≠ .osl s H.size o n := by
    intro s o n e
    rcases hS with ⟨h1, _⟩ | ⟨ob, h1, h2, h3, h4, h5⟩
    · rw [h1] at e; cases e
    · rw [h1] at e; injection e with _ e1 _ _
      have := Heap.lt_of_get (H := H) (b := ob) (by rw [h3]; simp)
      omega
  have hSp : ∀ x, Sl (b + 1) (H.push x) 5 (icells out) out.length ov := fun x => hS.push
  simp only [bd_decode_Dec_tell, go_sem, zA, zB, zC, reduceIte, zD, zE, zF, zG, zH, zI, reduceCtorEq, zJ, zK, zL, zM, zN, zO, zP, hg, hlen, Heap.get_push_lt hlt, wnat (show at_ + held.length ≤ 1000000000 by omega)]
  cases bad
  · obtain ⟨rfl, hgh, hw⟩ := hgood rfl
    simp only [go_sem, zA, zB, zC, reduceIte, zD, zE, zF, zG, zH, zI, reduceCtorEq, zJ, zK, zL, zM, zN, zO, zP, Heap.get_push_lt hlt, hg]
    refine u_DecodeRune ho (hG.ext (Nat.le_refl _) (Ext.push (by omega))) (by rw [Heap.get_push_lt (Heap.lt_of_get (by rw [hgh]; simp)), hgh]) hw fun H2 hx2 => ?_
    have g2 := hx2.2 H.size (by rw [Heap.size_push]; omega)
    have g3 := hx2.2 b (by rw [Heap.size_push]; omega)
    rw [Heap.get_push_self] at g2
    rw [Heap.get_push_lt hlt, hg] at g3
    have l2 : H.size < H2.size := Heap.lt_of_get (by rw [g2]; simp)
    simp only [go_sem, zB, zC, reduceIte, zD, zE, zF, zG, zH, zI, reduceCtorEq, zJ, zK, zL, zM, zN, zO, zP, g2]
    refine d_tell2 (x := ⟨decR held, at_, at_ + held.length, false, more⟩) (out := out) (by rw [Heap.get_set_ne (by omega), g3]) (Heap.get_set_self l2) (by omega) ?_ hne hl fun H' ov' k1 k2 k3 => h H' ov' ?_ k2 k3
    · refine ((hSp _).ext hx2).frame fun ob _ hg1 hv1 => Heap.get_set_ne fun e => ?_
      exact hne 5 0 out.length (by rw [hv1, e])
    · exact Fr.pre (((Ext.push (Nat.le_refl _)).trans (hx2.le (by rw [Heap.size_push]; omega))).trans (Ext.set (Nat.le_refl _))) k1
  · simp only [go_sem, zB, zC, reduceIte, zD, zE, zF, zG, zH, zI, reduceCtorEq, zJ, zK, zL, zM, zN, zO, zP]
    refine d_tell2 (x := ⟨65533, at_, at_ + held.length, true, more⟩) (out := out) (by rw [Heap.get_push_lt hlt, hg]) Heap.get_push_self (by omega) (hSp _) hne hl fun H' ov' k1 k2 k3 => h H' ov' (Fr.pre (Ext.push (Nat.le_refl _)) k1) k2 k3
end
/- Package decode: grow, more. -/
set_option maxRecDepth 8000
theorem bc_len (l : List UInt8) : (byteCells l).length = l.length := by simp [byteCells]
theorem bc_app (l m : List UInt8) : byteCells (l ++ m) = byteCells l ++ byteCells m := by simp [byteCells]
theorem bc_one : ∀ l : List UInt8, (byteCells l).all AV.one = true
  | [] => rfl
  | c :: l => by simp only [byteCells, List.map_cons, List.all_cons, AV.one, Bool.true_and]; exact bc_one l
theorem append_empty {H : Heap} {sz bytes b n : Nat} {ys : List AV} (hn : 0 < n) (h1 : n * bytes ≤ 1099511627776) (h2 : n ≤ 1099511627776) : appendA H sz bytes (.slice b 0 0 0) n ys = some (.osl sz H.size 0 n, H.push (.cells ys .own)) := by
  simp only [appendA, if_neg (show ¬ n = 0 by omega), Nat.zero_add, if_neg (show ¬ n ≤ 0 by omega), h1, h2, and_self, if_true, readSl, List.nil_append]
abbrev wrongA : AV := .iface T_decode_wrong (.agg [])
section
variable {o : CallF} (ho : OvOnly o)
include ho
theorem d_Clone {n0 : Nat} {H : Heap} {Q : End → Heap → Prop} {hv : AV} {held : List UInt8} (hS : Sl n0 H 1 (byteCells held) held.length hv) (hl : held.length ≤ 1000)
    (h : ∀ H' v, Ext H.size H H' → Sl H.size H' 1 (byteCells held) held.length v → Q (.ret v) H') : wpf ⟨bt.get, o⟩ F_slices_Clone_byte_byte [hv] H Q := by
  rw [fn_slices_Clone_byte_byte (ho _ _ _ (by decide))]
  rcases hS with ⟨rfl, h0, _⟩ | ⟨hb, rfl, hb0, hg, hlen, hp⟩
  · simp only [bd_slices_Clone_byte_byte, go_sem, zA, zB, zC, reduceIte, zD, zE, zF, zG, zH, zI, reduceCtorEq, zJ, zK, zL, zM, zN, zO, zP]
    have : held = [] := List.eq_nil_of_length_eq_zero h0
    subst this
    exact h _ _ Ext.refl Sl.nil
  · have hlt : hb < H.size := Heap.lt_of_get (by rw [hg]; simp)
    have e0 : ¬ held.length = 0 := by omega
    have e1 : List.take held.length (byteCells held) = byteCells held := List.take_of_length_le (by rw [bc_len]; exact Nat.le_refl _)
    simp only [bd_slices_Clone_byte_byte, go_sem, zA, zB, zC, reduceIte, zD, zE, zF, zG, zH, zI, reduceCtorEq, zJ, zK, zL, zM, zN, zO, zP, Heap.get_push_lt hlt, hg, e0, bc_len, Nat.le_refl, e1, bc_one, append_empty (show 0 < held.length by omega) (show held.length * 1 ≤ 1099511627776 by omega) (show held.length ≤ 1099511627776 by omega)]
    refine h _ _ ((Ext.push (Nat.le_refl _)).trans (Ext.push (by rw [Heap.size_push]; omega))) (.inr ⟨_, rfl, by omega, ?_, by rw [bc_len]; omega, hp⟩)
    rw [Heap.get_push_eq (by rw [Heap.size_push])]
theorem d_grow {n0 : Nat} {H : Heap} {Q : End → Heap → Prop} {hv : AV} {held : List UInt8} {c : UInt8} (hS : Sl n0 H 1 (byteCells held) held.length hv) (hl : held.length ≤ 1000)
    (hP : okB held c = false → Q (.pan [(wrongA, false)]) H)
    (h : okB held c = true → ∀ H' v, Ext H.size H H' → Sl H.size H' 1 (byteCells (held ++ [c])) (held.length + 1) v → Q (.ret v) H') : wpf ⟨bt.get, o⟩ F_decode_grow [hv, .int .u8 c.toNat] H Q := by
  rw [fn_decode_grow (ho _ _ _ (by decide))]
  have hlen := hS.lenI
  -- what is done where the byte may stand
  have fin : ∀ (a5 a6 a9 a39 t), okB held c = true → wpc ⟨bt.get, o⟩ (seqR (seqR (seqR (seqR bd_decode_grow)))) { p := [(0, hv), (1, .int .u8 c.toNat), (4, .nils), (5, a5), (6, a6), (9, a9), (39, a39)], t := t, H := H, d := [], u := .norm } (finK ⟨bt.get, o⟩ [.slot 4] Q) := by
    intro a5 a6 a9 a39 t hok
    simp only [bd_decode_grow, seqR, go_sem, zA, zB, zC, reduceIte, zD, zE, zF, zG, zH, zI, reduceCtorEq, zJ, zK, zL, zM, zN, zO, zP]
    refine d_Clone ho hS hl fun H' v hx hv => ?_
    obtain ⟨nb, H2, ea, hx1, hsl⟩ := append_spec (bytes := 1) (ys := [.int .u8 c.toNat]) (k := 1) (Sl.push (x := .cells [.int .u8 c.toNat] .own) hv) (by rw [Heap.size_push]; have := hx.1; omega) (by omega) rfl (by omega) (by omega)
    simp only [go_sem, zA, zB, zC, reduceIte, zD, zE, zF, zG, zH, zI, reduceCtorEq, zJ, zK, zL, zM, zN, zO, zP, ea]
    refine h hok _ _ ((hx.trans (Ext.push hx.1)).trans hx1) ?_
    rw [bc_app]; exact hsl
  have hc := c.toNat_lt
  match held, hS, hlen, fin, hP with
  | [], hS, hlen, fin, hP =>
    simp only [bd_decode_grow, go_sem, zA, zB, zC, reduceIte, zD, zE, zF, zG, zH, zI, reduceCtorEq, zJ, zK, zL, zM, zN, zO, zP, hlen, List.length_nil]
    refine d_long ho ?_
    by_cases h0 : longB c = 0
    · simp only [go_sem, zA, zB, zC, reduceIte, zD, zE, zF, zG, zH, zI, reduceCtorEq, zJ, zK, zL, zM, zN, zO, zP, h0]
      exact hP (by simp [okB, h0])
    · have h0' : ¬ ((longB c : Int) = 0) := by omega
      simp only [go_sem, zB, zC, reduceIte, zD, zE, zF, zG, zH, zI, reduceCtorEq, zJ, zK, zL, zM, zN, zO, zP, h0', hlen, List.length_nil]
      rw [seqK_normal]
      simp only [go_sem, zB, zC, reduceIte, zD, zE, zF, zG, zH, zI, reduceCtorEq, zJ, zK, zL, zM, zN, zO, zP]
      exact fin _ _ _ _ _ (by simp [okB, h0])
  | [a], hS, hlen, fin, hP =>
    rcases hS with ⟨_, h0, _⟩ | ⟨hb, rfl, hb0, hg, _, hp⟩
    · simp at h0
    · simp only [bd_decode_grow, go_sem, zA, zB, zC, reduceIte, zD, zE, zF, zG, zH, zI, reduceCtorEq, zJ, zK, zL, zM, zN, zO, zP, hlen, List.length_cons, List.length_nil, hg, byteCells, List.map_cons, List.map_nil]
      refine d_second ho ?_
      simp only [go_sem, zA, zB, zC, reduceIte, zD, zE, zF, zG, zH, zI, reduceCtorEq, zJ, zK, zL, zM, zN, zO, zP, hlen, List.length_cons, List.length_nil]
      by_cases h1 : secLo a.toNat ≤ c.toNat
      · have h1' : ¬ ((c.toNat : Int) < (secLo a.toNat : Int)) := by omega
        by_cases h2 : c.toNat ≤ secHi a.toNat
        · have h2' : ¬ ((secHi a.toNat : Int) < (c.toNat : Int)) := by omega
          simp only [go_sem, zB, zC, reduceIte, zD, zE, zF, zG, zH, zI, reduceCtorEq, zJ, zK, zL, zM, zN, zO, zP, h1', h2']
          rw [seqK_normal]
          simp only [go_sem, zB, zC, reduceIte, zD, zE, zF, zG, zH, zI, reduceCtorEq, zJ, zK, zL, zM, zN, zO, zP]
          exact fin _ _ _ _ _ (by simp [okB, h1, h2])
        · have h2' : ((secHi a.toNat : Int) < (c.toNat : Int)) := by omega
          simp only [go_sem, zA, zB, zC, reduceIte, zD, zE, zF, zG, zH, zI, reduceCtorEq, zJ, zK, zL, zM, zN, zO, zP, h1', h2']
          exact hP (by simp [okB, h2])
      · have h1' : ((c.toNat : Int) < (secLo a.toNat : Int)) := by omega
        simp only [go_sem, zA, zB, zC, reduceIte, zD, zE, zF, zG, zH, zI, reduceCtorEq, zJ, zK, zL, zM, zN, zO, zP, h1']
        exact hP (by simp [okB, h1])
  | a :: b :: r, hS, hlen, fin, hP =>
    have l1 : ¬ ((r.length + 1 + 1 : Nat) : Int) = 1 := by omega
    have l0 : ¬ ((r.length + 1 + 1 : Nat) : Int) = 0 := by omega
    have lp : (0 : Int) < ((r.length + 1 + 1 : Nat) : Int) := by omega
    simp only [bd_decode_grow, go_sem, zA, zB, zC, reduceIte, zD, zE, zF, zG, zH, zI, reduceCtorEq, zJ, zK, zL, zM, zN, zO, zP, hlen, l1, l0, lp]
    by_cases h1 : 128 ≤ c.toNat
    · have h1' : ¬ ((c.toNat : Int) < 128) := by omega
      by_cases h2 : c.toNat ≤ 191
      · have h2' : ¬ ((191 : Int) < (c.toNat : Int)) := by omega
        simp only [go_sem, zB, zC, reduceIte, zD, zE, zF, zG, zH, zI, reduceCtorEq, zJ, zK, zL, zM, zN, zO, zP, h1', h2']
        rw [seqK_normal]
        simp only [go_sem, zB, zC, reduceIte, zD, zE, zF, zG, zH, zI, reduceCtorEq, zJ, zK, zL, zM, zN, zO, zP]
        exact fin _ _ _ _ _ (by simp [okB, h1, h2])
      · have h2' : ((191 : Int) < (c.toNat : Int)) := by omega
        simp only [go_sem, zA, zB, zC, reduceIte, zD, zE, zF, zG, zH, zI, reduceCtorEq, zJ, zK, zL, zM, zN, zO, zP, h1', h2']
        exact hP (by simp [okB, h2])
    · have h1' : ((c.toNat : Int) < 128) := by omega
      simp only [go_sem, zA, zB, zC, reduceIte, zD, zE, zF, zG, zH, zI, reduceCtorEq, zJ, zK, zL, zM, zN, zO, zP, h1']
      exact hP (by simp [okB, h1])
end
/- Package decode: more, take, Feed, Close, All. -/
set_option maxRecDepth 8000
/-- What a decoder holds. -/
def DecS (b : Nat) (H : Heap) (held : List UInt8) (at_ : Nat) (cl : Bool) (out : List It) : Prop :=
  ∃ hv ov, H.get b = .cells [hv, .int .i64 at_, .bool cl, ov] .own ∧ Sl (b + 1) H 1 (byteCells held) held.length hv ∧ Sl (b + 1) H 5 (icells out) out.length ov
/-- What is held may become whole. -/
def pre : List UInt8 → Bool
  | [] => true
  | [a] => decide (1 < longB a)
  | [a, b] => decide (2 < longB a) && okB [a] b
  | [a, b, c] => decide (3 < longB a) && okB [a] b && okB [a, b] c
  | _ => false
def headB (l : List UInt8) : UInt8 := l.headD 0
/-- A byte behind those that are held, where it may stand. -/
def afterM (held : List UInt8) (c : UInt8) (at_ : Nat) : List UInt8 × Nat × List It :=
  if (held ++ [c]).length = longB (headB (held ++ [c])) then ([], at_ + (held ++ [c]).length, [It.mk (decR (held ++ [c])) at_ (at_ + (held ++ [c]).length) false false])
  else (held ++ [c], at_, [])
theorem longB_le (c : UInt8) : longB c ≤ 4 := by
  unfold longB longN
  repeat' split
  all_goals omega
theorem pre_len {l : List UInt8} (h : pre l = true) : l.length ≤ 3 := by
  unfold pre at h
  split at h <;> first | (simp; done) | cases h
theorem pre_ok {held : List UInt8} {c : UInt8} (h : pre held = true) (hk : okB held c = true) : ((held ++ [c]).length = longB (headB (held ++ [c])) → whole (held ++ [c]) = true) ∧ (¬ (held ++ [c]).length = longB (headB (held ++ [c])) → pre (held ++ [c]) = true) := by
  have h4 := longB_le (headB (held ++ [c]))
  match held, h, hk with
  | [], h, hk =>
    simp only [okB, decide_eq_true_eq, ne_eq] at hk
    simp only [List.nil_append, headB, List.headD_cons, List.length_cons, List.length_nil, whole, pre, beq_iff_eq, decide_eq_true_eq]
    omega
  | [a], h, hk =>
    simp only [pre, decide_eq_true_eq] at h
    simp only [List.cons_append, List.nil_append, headB, List.headD_cons, List.length_cons, List.length_nil, whole, pre, beq_iff_eq, decide_eq_true_eq, hk, Bool.and_true] at *
    omega
  | [a, b], h, hk =>
    simp only [pre, decide_eq_true_eq, Bool.and_eq_true] at h
    simp only [List.cons_append, List.nil_append, headB, List.headD_cons, List.length_cons, List.length_nil, whole, pre, beq_iff_eq, decide_eq_true_eq, hk, h.2, Bool.and_true] at *
    omega
  | [a, b, d], h, hk =>
    simp only [pre, decide_eq_true_eq, Bool.and_eq_true] at h
    simp only [List.cons_append, List.nil_append, headB, List.headD_cons, List.length_cons, List.length_nil, whole, pre, beq_iff_eq, decide_eq_true_eq, hk, h.2, h.1.2, Bool.and_true] at *
    omega
theorem bc_head : ∀ l : List UInt8, l ≠ [] → (byteCells l)[0]? = some (.int .u8 ((headB l).toNat : Int))
  | [], h => absurd rfl h
  | c :: l, _ => rfl
section
variable {o : CallF} (ho : OvOnly o)
include ho
theorem d_more {b : Nat} {H : Heap} {Q : End → Heap → Prop} {held : List UInt8} {at_ : Nat} {cl : Bool} {out : List It} {c : UInt8} (hG : GlH H) (hb3 : 8 ≤ b) (hD : DecS b H held at_ cl out) (hpre : pre held = true) (hat : at_ + held.length ≤ 900000) (hl : out.length ≤ 900000)
    (hP : okB held c = false → ∀ H', Ext b H H' → DecS b H' held at_ cl out → Q (.ret (.bool false)) H')
    (h : okB held c = true → ∀ H', Ext b H H' → DecS b H' (afterM held c at_).1 (afterM held c at_).2.1 cl (out ++ (afterM held c at_).2.2) → Q (.ret (.bool true)) H') :
    wpf ⟨bt.get, o⟩ F_decode_Dec_more [.ptr b 0, .int .u8 c.toNat] H Q := by
  rw [fn_decode_Dec_more (ho _ _ _ (by decide))]
  obtain ⟨hv, ov, hg, hS, hO⟩ := hD
  have hlt : b < H.size := Heap.lt_of_get (by rw [hg]; simp)
  have hlen := pre_len hpre
  simp only [bd_decode_Dec_more, go_sem, zA, zB, zC, reduceIte, zD, zE, zF, zG, zH, zI, reduceCtorEq, zJ, zK, zL, zM, zN, zO, zP, Heap.get_push_lt hlt, hg]
  refine d_grow ho (n0 := b + 1) hS.push (by omega) (fun hok => ?_) (fun hok H1 v hx hs => ?_)
  · simp only [go_sem, zA, zB, zC, reduceIte, zD, zE, zF, zG, zH, zI, reduceCtorEq, zJ, zK, zL, zM, zN, zO, zP]
    rw [dfn_decode_Dec_more_1]
    have e1 : ((H.push (.cells [.bool false] .own)).push (.cells [] .own)).get H.size = .cells [.bool false] .own := by rw [Heap.get_push_lt (by rw [Heap.size_push]; omega), Heap.get_push_self]
    have e2 : H.size < ((H.push (.cells [.bool false] .own)).push (.cells [] .own)).size := by simp only [Heap.size_push]; omega
    simp only [bd_decode_Dec_more_1, go_sem, zA, zB, zC, reduceIte, zD, zE, zF, zG, zH, zI, reduceCtorEq, zJ, zK, zL, zM, zN, zO, zP, e1, Heap.get_set_self e2]
    have ex : Ext H.size H (((H.push (.cells [.bool false] .own)).push (.cells [] .own)).set H.size (.cells [.bool false] .own)) := ((Ext.push (Nat.le_refl _)).trans (Ext.push (by rw [Heap.size_push]; omega))).trans (Ext.set (Nat.le_refl _))
    exact hP hok _ (ex.le (by omega)) ⟨hv, ov, by rw [ex.2 b hlt, hg], hS.ext ex, hO.ext ex⟩
  · have g1 : H1.get b = .cells [hv, .int .i64 at_, .bool cl, ov] .own := by rw [hx.2 b (by rw [Heap.size_push]; omega), Heap.get_push_lt hlt, hg]
    have hlt1 : b < H1.size := Heap.lt_of_get (by rw [g1]; simp)
    rcases hs with ⟨_, h0, _⟩ | ⟨nb, rfl, hnb, hgn, hln, _⟩
    · omega
    rw [Heap.size_push] at hnb
    have hnl : nb < H1.size := Heap.lt_of_get (by rw [hgn]; simp)
    have hpk := pre_ok hpre hok
    have hlp : (0 : Int) < ((held.length + 1 : Nat) : Int) := by omega
    have hh := bc_head (held ++ [c]) (by simp)
    have hf : H1.get H.size = .cells [.bool false] .own := by rw [hx.2 H.size (by rw [Heap.size_push]; omega), Heap.get_push_self]
    have hO1 : Sl (b + 1) H1 5 (icells out) out.length ov := (hO.push (x := .cells [.bool false] .own)).ext hx
    have hov : ∀ c, H.size ≤ c → ∀ s o n, ov ≠ .osl s c o n := by
      intro k hk s o n e
      rcases hO with ⟨h1, _⟩ | ⟨ob, h1, _, h3, _⟩
      · rw [h1] at e; cases e
      · rw [h1] at e; injection e with _ e
        have := Heap.lt_of_get (H := H) (b := ob) (by rw [h3]; simp)
        omega
    simp only [go_sem, zA, zB, zC, reduceIte, zD, zE, zF, zG, zH, zI, reduceCtorEq, zJ, zK, zL, zM, zN, zO, zP, g1, Heap.get_set_self hlt1, hlp, Heap.get_set_ne (show nb ≠ b by omega), hgn, hh]
    refine d_long ho ?_
    by_cases hw : (held ++ [c]).length = longB (headB (held ++ [c]))
    · have hw' : ((held.length + 1 : Nat) : Int) = (longB (headB (held ++ [c])) : Int) := by rw [← hw]; simp
      have ha : afterM held c at_ = ([], at_ + (held ++ [c]).length, [It.mk (decR (held ++ [c])) at_ (at_ + (held ++ [c]).length) false false]) := by rw [afterM, if_pos hw]
      simp only [go_sem, zA, zB, zC, reduceIte, zD, zE, zF, zG, zH, zI, reduceCtorEq, zJ, zK, zL, zM, zN, zO, zP, Heap.get_set_self hlt1, hw']
      refine d_tell ho (hb := nb) (hv := .osl 1 nb 0 (held.length + 1)) (held := held ++ [c]) (out := out) (at_ := at_) (cl := cl) (ov := ov) ((hG.ext hb3 ((Ext.push (by omega)).trans (hx.le (by rw [Heap.size_push]; omega)))).ext hb3 (Ext.set (Nat.le_refl _))) hb3 ?_ ?_ ?_ ?_ (by omega) ?_ ?_
      · rw [Heap.get_set_self hlt1]
      · simp [lenI]
      · simp; omega
      · exact hO1.set (by omega)
      · intro _
        refine ⟨by simp, by rw [Heap.get_set_ne (by omega), hgn], hpk.1 hw⟩
      · intro H' ov' k1 k2 k3
        have q1 : H'.get H.size = .cells [.bool false] .own := by rw [k1.2 H.size (by rw [Heap.size_set]; omega) (by omega) (hov _ (Nat.le_refl _)), Heap.get_set_ne (by omega), hf]
        have q2 : H.size < H'.size := Heap.lt_of_get (by rw [q1]; simp)
        simp only [go_sem, zA, zB, zC, reduceIte, zD, zE, zF, zG, zH, zI, reduceCtorEq, zJ, zK, zL, zM, zN, zO, zP, q1]
        rw [dfn_decode_Dec_more_1]
        simp only [bd_decode_Dec_more_1, go_sem, zA, zB, zC, reduceIte, zD, zE, zF, zG, zH, zI, reduceCtorEq, zJ, zK, zL, zM, zN, zO, zP, Heap.get_set_self q2]
        refine h hok _ ?_ ?_
        · have x1 := k1.ext (by rw [Heap.size_set]; omega) (hO1.set (c := b) (by omega)) (by omega)
          exact ((((Ext.push (by omega)).trans (hx.le (by rw [Heap.size_push]; omega))).trans (Ext.set (Nat.le_refl _))).trans x1).trans (Ext.set (by omega))
        · rw [ha]
          refine ⟨.nils, ov', by rw [Heap.get_set_ne (by omega), k2], Sl.nil, ?_⟩
          refine k3.frame fun ob hob hg1 hv1 => Heap.get_set_ne ?_
          intro e
          rw [e, q1] at hg1
          injection hg1 with hg1 _
          have := congrArg List.length hg1
          rw [icells_len] at this
          simp at this
          omega
    · have hw' : ¬ ((held.length + 1 : Nat) : Int) = (longB (headB (held ++ [c])) : Int) := by
        intro e; apply hw; simp; omega
      have ha : afterM held c at_ = (held ++ [c], at_, []) := by rw [afterM, if_neg hw]
      have q1 : (H1.set b (.cells [.osl 1 nb 0 (held.length + 1), .int .i64 at_, .bool cl, ov] .own)).get H.size = .cells [.bool false] .own := by rw [Heap.get_set_ne (by omega), hf]
      have q2 : H.size < (H1.set b (.cells [.osl 1 nb 0 (held.length + 1), .int .i64 at_, .bool cl, ov] .own)).size := Heap.lt_of_get (by rw [q1]; simp)
      simp only [go_sem, zA, zB, zC, reduceIte, zD, zE, zF, zG, zH, zI, reduceCtorEq, zJ, zK, zL, zM, zN, zO, zP, Heap.get_set_self hlt1, hw', q1]
      rw [dfn_decode_Dec_more_1]
      simp only [bd_decode_Dec_more_1, go_sem, zA, zB, zC, reduceIte, zD, zE, zF, zG, zH, zI, reduceCtorEq, zJ, zK, zL, zM, zN, zO, zP, Heap.get_set_self q2]
      refine h hok _ ?_ ?_
      · exact (((Ext.push (by omega)).trans (hx.le (by rw [Heap.size_push]; omega))).trans (Ext.set (Nat.le_refl _))).trans (Ext.set (by omega))
      · rw [ha]
        refine ⟨.osl 1 nb 0 (held.length + 1), ov, by rw [Heap.get_set_ne (by omega), Heap.get_set_self hlt1], ?_, ?_⟩
        · refine .inr ⟨nb, by simp, by omega, by rw [Heap.get_set_ne (by omega), Heap.get_set_ne (by omega), hgn], by rw [bc_len]; omega, by simp⟩
        · rw [List.append_nil]
          refine (hO1.set (c := b) (by omega)).frame fun ob hob hg1 hv1 => Heap.get_set_ne ?_
          intro e
          exact hov ob (by omega) _ _ _ hv1
end
/- Package decode: take, Feed, Close, All. -/
set_option maxRecDepth 8000
def take0 (c : UInt8) (at_ : Nat) : List UInt8 × Nat × List It := if okB [] c then afterM [] c at_ else ([], at_ + 1, [It.mk 65533 at_ (at_ + 1) true false])
def takeB (held : List UInt8) (c : UInt8) (at_ : Nat) : List UInt8 × Nat × List It :=
  if okB held c then afterM held c at_ else match held with
  | [] => ([], at_ + 1, [It.mk 65533 at_ (at_ + 1) true false])
  | _ => ((take0 c (at_ + held.length)).1, (take0 c (at_ + held.length)).2.1, It.mk 65533 at_ (at_ + held.length) true true :: (take0 c (at_ + held.length)).2.2)
def feedD : List UInt8 → List UInt8 → Nat → List UInt8 × Nat × List It
  | [], held, at_ => (held, at_, [])
  | c :: r, held, at_ => ((feedD r (takeB held c at_).1 (takeB held c at_).2.1).1, (feedD r (takeB held c at_).1 (takeB held c at_).2.1).2.1, (takeB held c at_).2.2 ++ (feedD r (takeB held c at_).1 (takeB held c at_).2.1).2.2)
def closeD (held : List UInt8) (at_ : Nat) : List It := match held with
  | [] => []
  | _ => [It.mk 65533 at_ (at_ + held.length) true true]
/-- The runes of bytes. -/
def decAll (s : List UInt8) : List It := (feedD s [] 0).2.2 ++ closeD (feedD s [] 0).1 (feedD s [] 0).2.1
theorem afterM_bd {held : List UInt8} {c : UInt8} {at_ : Nat} (h : pre held = true) (hk : okB held c = true) : pre (afterM held c at_).1 = true ∧ (afterM held c at_).2.1 + (afterM held c at_).1.length = at_ + held.length + 1 ∧ (afterM held c at_).2.2.length ≤ 1 := by
  have := pre_ok h hk
  unfold afterM
  split
  · rename_i e; simp [pre]; omega
  · rename_i e; exact ⟨this.2 e, by simp; omega, by simp⟩
theorem take0_bd {c : UInt8} {at_ : Nat} : pre (take0 c at_).1 = true ∧ (take0 c at_).2.1 + (take0 c at_).1.length = at_ + 1 ∧ (take0 c at_).2.2.length ≤ 1 := by
  unfold take0
  split
  · rename_i h; simpa using afterM_bd (at_ := at_) (held := []) rfl h
  · simp [pre]
theorem takeB_bd {held : List UInt8} {c : UInt8} {at_ : Nat} (h : pre held = true) : pre (takeB held c at_).1 = true ∧ (takeB held c at_).2.1 + (takeB held c at_).1.length = at_ + held.length + 1 ∧ (takeB held c at_).2.2.length ≤ 2 := by
  unfold takeB
  split
  · rename_i hk; have := afterM_bd (at_ := at_) h hk; exact ⟨this.1, this.2.1, by omega⟩
  · split
    · simp [pre]
    · have := take0_bd (c := c) (at_ := at_ + held.length)
      simp only [List.length_cons]
      exact ⟨this.1, by omega, by omega⟩
section
variable {o : CallF} (ho : OvOnly o)
include ho
theorem d_take0 {b : Nat} {H : Heap} {Q : End → Heap → Prop} {at_ : Nat} {cl : Bool} {out : List It} {c : UInt8} (hG : GlH H) (hb3 : 8 ≤ b) (hD : DecS b H [] at_ cl out) (hat : at_ ≤ 900000) (hl : out.length ≤ 900000)
    (h : ∀ H', Ext b H H' → DecS b H' (take0 c at_).1 (take0 c at_).2.1 cl (out ++ (take0 c at_).2.2) → Q (.ret (.tup [])) H') :
    wpf ⟨bt.get, o⟩ F_decode_Dec_take [.ptr b 0, .int .u8 c.toNat] H Q := by
  rw [fn_decode_Dec_take (ho _ _ _ (by decide))]
  simp only [bd_decode_Dec_take, go_sem, zA, zB, zC, reduceIte, zD, zE, zF, zG, zH, zI, reduceCtorEq, zJ, zK, zL, zM, zN, zO, zP]
  refine d_more ho hG hb3 hD rfl (by simpa using hat) hl (fun hok H1 hx hD1 => ?_) (fun hok H1 hx hD1 => ?_)
  · obtain ⟨hv, ov, hg, hS, hO⟩ := hD1
    have hlt : b < H1.size := Heap.lt_of_get (by rw [hg]; simp)
    have hlt2 : b < (H1.push (.cells [.int .u8 c.toNat] .own)).size := by rw [Heap.size_push]; omega
    simp only [go_sem, zA, zB, zC, reduceIte, zD, zE, zF, zG, zH, zI, reduceCtorEq, zJ, zK, zL, zM, zN, zO, zP, hg, hS.lenI, List.length_nil, Heap.get_push_lt hlt]
    refine d_tell ho (hb := 0) (held := [c]) (out := out) (at_ := at_) (cl := cl) (ov := ov) (hv := .slice H1.size 0 1 1) ((hG.ext hb3 hx).ext hb3 ((Ext.push (by omega)).trans (Ext.set (Nat.le_refl _)))) hb3 (Heap.get_set_self hlt2) rfl (by simp; omega) (hO.push.set (by omega)) (by omega) (fun h => by cases h) fun H' ov' k1 k2 k3 => ?_
    simp only [go_sem, zA, zB, zC, reduceIte, zD, zE, zF, zG, zH, zI, reduceCtorEq, zJ, zK, zL, zM, zN, zO, zP]
    have e0 : take0 c at_ = ([], at_ + 1, [It.mk 65533 at_ (at_ + 1) true false]) := by rw [take0, hok]; rfl
    refine h _ ?_ ?_
    · exact ((hx.trans (Ext.push (by omega))).trans (Ext.set (Nat.le_refl _))).trans (k1.ext (by rw [Heap.size_set, Heap.size_push]; omega) ((hO.push (x := .cells [.int .u8 c.toNat] .own)).set (c := b) (by omega)) (by omega))
    · rw [e0]
      exact ⟨.nils, ov', k2, Sl.nil, k3⟩
  · simp only [go_sem, zA, zB, zC, reduceIte, zD, zE, zF, zG, zH, zI, reduceCtorEq, zJ, zK, zL, zM, zN, zO, zP]
    have e0 : take0 c at_ = afterM [] c at_ := by rw [take0, hok]; rfl
    rw [e0] at h
    exact h _ hx hD1
theorem d_take {b : Nat} {H : Heap} {Q : End → Heap → Prop} {held : List UInt8} {at_ : Nat} {cl : Bool} {out : List It} {c : UInt8} (hG : GlH H) (hb3 : 8 ≤ b) (hD : DecS b H held at_ cl out) (hpre : pre held = true) (hat : at_ + held.length ≤ 800000) (hl : out.length ≤ 800000)
    (h : ∀ H', Ext b H H' → DecS b H' (takeB held c at_).1 (takeB held c at_).2.1 cl (out ++ (takeB held c at_).2.2) → Q (.ret (.tup [])) H') :
    wpf ⟨bt.get, o⟩ F_decode_Dec_take [.ptr b 0, .int .u8 c.toNat] H Q := by
  cases held with
  | nil =>
    refine d_take0 ho hG hb3 hD (by simp at hat; omega) (by omega) fun H' hx hD' => h H' hx ?_
    have : takeB [] c at_ = take0 c at_ := by rw [takeB, take0]
    rw [this]; exact hD'
  | cons a held =>
    rw [fn_decode_Dec_take (ho _ _ _ (by decide))]
    simp only [bd_decode_Dec_take, go_sem, zA, zB, zC, reduceIte, zD, zE, zF, zG, zH, zI, reduceCtorEq, zJ, zK, zL, zM, zN, zO, zP]
    refine d_more ho hG hb3 hD hpre (by omega) (by omega) (fun hok H1 hx hD1 => ?_) (fun hok H1 hx hD1 => ?_)
    · obtain ⟨hv, ov, hg, hS, hO⟩ := hD1
      have hlt : b < H1.size := Heap.lt_of_get (by rw [hg]; simp)
      have hlp : (0 : Int) < ((held.length + 1 : Nat) : Int) := by omega
      simp only [go_sem, zA, zB, zC, reduceIte, zD, zE, zF, zG, zH, zI, reduceCtorEq, zJ, zK, zL, zM, zN, zO, zP, hg, hS.lenI, hlp]
      refine d_tell ho (hb := 0) (held := a :: held) (out := out) (at_ := at_) (cl := cl) (ov := ov) (hv := hv) (hG.ext hb3 hx) hb3 hg hS.lenI (by omega) hO (by omega) (fun h => by cases h) fun H' ov' k1 k2 k3 => ?_
      simp only [go_sem, zA, zB, zC, reduceIte, zD, zE, zF, zG, zH, zI, reduceCtorEq, zJ, zK, zL, zM, zN, zO, zP]
      have x1 : Ext b H H' := hx.trans (k1.ext hlt hO (by omega))
      have e0 : takeB (a :: held) c at_ = ((take0 c (at_ + (a :: held).length)).1, (take0 c (at_ + (a :: held).length)).2.1, It.mk 65533 at_ (at_ + (a :: held).length) true true :: (take0 c (at_ + (a :: held).length)).2.2) := by simp [takeB, hok]
      refine d_take0 ho (at_ := at_ + (a :: held).length) (out := out ++ [It.mk 65533 at_ (at_ + (a :: held).length) true true]) (hG.ext hb3 x1) hb3 ⟨.nils, ov', k2, Sl.nil, k3⟩ (by omega) (by simp; omega) fun H2 hx2 hD2 => ?_
      simp only [go_sem, zA, zB, zC, reduceIte, zD, zE, zF, zG, zH, zI, reduceCtorEq, zJ, zK, zL, zM, zN, zO, zP]
      refine h _ (x1.trans hx2) ?_
      rw [e0]
      simpa using hD2
    · simp only [go_sem, zA, zB, zC, reduceIte, zD, zE, zF, zG, zH, zI, reduceCtorEq, zJ, zK, zL, zM, zN, zO, zP]
      have e0 : takeB (a :: held) c at_ = afterM (a :: held) c at_ := by simp [takeB, hok]
      rw [e0] at h
      exact h _ hx hD1
omit ho in
theorem bc_at {s : List UInt8} {i : Nat} {c : UInt8} (h : s[i]? = some c) : (byteCells s)[i]? = some (.int .u8 c.toNat) := by
  simp [byteCells, h]
theorem d_Feed_loop {s : List UInt8} (hs : s.length ≤ 300000) {b sb : Nat} (hb3 : 8 ≤ b) (hsb : sb < b) {Q : Ctl → St → Prop} : ∀ (r : List UInt8) (i : Nat) (held : List UInt8) (at_ : Nat) (out : List It) (H : Heap), s.drop i = r → i ≤ s.length → GlH H → H.get sb = .cells (byteCells s) .own → DecS b H held at_ false out → pre held = true → at_ + held.length = i → out.length ≤ 2 * i →
    (∀ σ : St, Ext b H σ.H → DecS b σ.H (feedD r held at_).1 (feedD r held at_).2.1 false (out ++ (feedD r held at_).2.2) → pre (feedD r held at_).1 = true → (feedD r held at_).2.1 + (feedD r held at_).1.length = s.length → (out ++ (feedD r held at_).2.2).length ≤ 2 * s.length → σ.d = [] → lk 0 σ.p = some (.ptr b 0) → Q (.exit 0) σ) →
    wpl ⟨bt.get, o⟩ [0, 15, 16, 17] lb_decode_Dec_Feed_0 { p := [(0, .ptr b 0), (15, .osl 1 sb 0 s.length), (16, .int .i64 s.length), (17, .int .i64 i)], t := [], H := H, d := [], u := .norm } Q
  | [], i, held, at_, out, H, hr, hi, hG, hg, hD, hpre, hat, hl, hQ => by
    have := at_nil hr
    rw [wpl_step]
    have h1 : ¬((i : Int) < (s.length : Int)) := by omega
    simp only [lb_decode_Dec_Feed_0, go_sem, zA, zB, zC, reduceIte, zD, zE, zF, zG, zH, zI, reduceCtorEq, zJ, zK, zL, zM, zN, zO, zP, h1]
    exact hQ _ Ext.refl (by simpa [feedD] using hD) hpre (by simp only [feedD]; omega) (by simp [feedD]; omega) rfl rfl
  | c :: r, i, held, at_, out, H, hr, hi, hG, hg, hD, hpre, hat, hl, hQ => by
    obtain ⟨h0, h1, h2⟩ := at_drop hr
    rw [wpl_step]
    have h1' : ((i : Int) < (s.length : Int)) := by omega
    simp only [lb_decode_Dec_Feed_0, go_sem, zA, zB, zC, reduceIte, zD, zE, zF, zG, zH, zI, reduceCtorEq, zJ, zK, zL, zM, zN, zO, zP, h1', hg, bc_at h0]
    have hb := takeB_bd (c := c) (at_ := at_) hpre
    refine d_take ho hG hb3 hD hpre (by omega) (by omega) fun H' hx hD' => ?_
    simp only [go_sem, zA, zB, zC, reduceIte, zD, zE, zF, zG, zH, zI, reduceCtorEq, zJ, zK, zL, zM, zN, zO, zP, wsucc (show i ≤ 1000000000 by omega)]
    refine d_Feed_loop hs hb3 hsb r (i + 1) _ _ _ H' h2 (by omega) (hG.ext hb3 hx) (by rw [hx.2 sb hsb, hg]) hD' hb.1 (by omega) (by rw [List.length_append]; omega) fun σ k1 k2 k3 k4 k5 k6 k7 => hQ σ (hx.trans k1) (by simpa [feedD] using k2) k3 k4 (by simpa [feedD] using k5) k6 k7
theorem d_taken {b : Nat} {H : Heap} {Q : End → Heap → Prop} {hv ov : AV} {at_ : Nat} {cl : Bool} (hg : H.get b = .cells [hv, .int .i64 at_, .bool cl, ov] .own) (h : Q (.ret ov) (H.set b (.cells [hv, .int .i64 at_, .bool cl, .nils] .own))) : wpf ⟨bt.get, o⟩ F_decode_Dec_taken [.ptr b 0] H Q := by
  rw [fn_decode_Dec_taken (ho _ _ _ (by decide))]
  simp only [bd_decode_Dec_taken, go_sem, zA, zB, zC, reduceIte, zD, zE, zF, zG, zH, zI, reduceCtorEq, zJ, zK, zL, zM, zN, zO, zP, hg]
  exact h
theorem d_Feed {s : List UInt8} (hs : s.length ≤ 300000) {b sb : Nat} (hb3 : 8 ≤ b) (hsb : sb < b) {H : Heap} {Q : End → Heap → Prop} (hG : GlH H) (hg : H.get sb = .cells (byteCells s) .own) (hD : DecS b H [] 0 false [])
    (h : ∀ H' ov, Ext b H H' → DecS b H' (feedD s [] 0).1 (feedD s [] 0).2.1 false [] → Sl (b + 1) H' 5 (icells (feedD s [] 0).2.2) (feedD s [] 0).2.2.length ov → pre (feedD s [] 0).1 = true → (feedD s [] 0).2.1 + (feedD s [] 0).1.length = s.length → (feedD s [] 0).2.2.length ≤ 2 * s.length → Q (.ret ov) H') :
    wpf ⟨bt.get, o⟩ F_decode_Dec_Feed [.ptr b 0, .osl 1 sb 0 s.length] H Q := by
  rw [fn_decode_Dec_Feed (ho _ _ _ (by decide))]
  have hD0 := hD
  obtain ⟨hv, ov, hgb, hS, hO⟩ := hD
  simp only [bd_decode_Dec_Feed, go_sem, zA, zB, zC, reduceIte, zD, zE, zF, zG, zH, zI, reduceCtorEq, zJ, zK, zL, zM, zN, zO, zP, hgb]
  refine d_Feed_loop ho hs hb3 hsb s 0 [] 0 [] H rfl (Nat.zero_le _) hG hg hD0 rfl rfl (by simp) fun σ k1 k2 k3 k4 k5 k6 k7 => ?_
  obtain ⟨hv', ov', g1, g2, g3⟩ := k2
  have hlt : b < σ.H.size := Heap.lt_of_get (by rw [g1]; simp)
  simp only [go_sem, zA, zB, zC, reduceIte, zD, zE, zF, zG, zH, zI, reduceCtorEq, zJ, zK, zL, zM, zN, zO, zP, k6, k7]
  refine d_taken ho g1 ?_
  simp only [go_sem, zA, zB, zC, reduceIte, zD, zE, zF, zG, zH, zI, reduceCtorEq, zJ, zK, zL, zM, zN, zO, zP]
  simp only [List.nil_append] at g3 k5
  refine h _ _ (k1.trans (Ext.set (Nat.le_refl _))) ⟨hv', .nils, Heap.get_set_self hlt, g2.set (by omega), Sl.nil⟩ (g3.set (by omega)) k3 k4 k5
end
end Go.Ev
