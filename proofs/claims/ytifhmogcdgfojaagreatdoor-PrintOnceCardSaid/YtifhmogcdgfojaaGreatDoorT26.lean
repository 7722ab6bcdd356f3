/- Several texts of this claim, joined. -/
import Derived.Test.YtifhmogcdgfojaaGreatDoorT25
import Derived.Test.YtifhmogcdgfojaaGreatDoorT21
import Derived.Test.YtifhmogcdgfojaaGreatDoorT18
import Derived.Test.YtifhmogcdgfojaaGreatDoorT22
set_option linter.unusedSimpArgs false
set_option linter.unusedVariables false

/- Package goboref3: what is picked; the normal form. -/
namespace Go.Ev
open Go
open Go.Ev renaming seqK_normal → zA, blockK_normal → zB, blockK_exit → zC
open Nat renaming reduceEqDiff → zD, reduceAdd → zE, reduceSub → zF, reduceMul → zG, reduceLeDiff → zH, reduceLT → zI
open Int renaming reduceToNat → zJ, reduceLT → zK, reduceLE → zL, reduceEq → zM, reduceAdd → zN, reduceSub → zO, reduceMul → zP
set_option maxRecDepth 8000
theorem rngF_app (l m : List S) : rngF (l ++ m) = rngF l ++ rngF m := List.map_append
theorem rngF_len (l : List S) : (rngF l).length = l.length := List.length_map _
theorem set_hi {C : List AV} {n : Nat} {a b d : AV} (h : C.length = n * 2) : (C ++ [a, b]).set (n * 2 + 1) d = C ++ [a, d] := by
  rw [List.set_append_right _ _ (by omega), h, show n * 2 + 1 - n * 2 = 1 by omega]; rfl
theorem sc_one : ∀ l : List S, (scells l).all AV.one = true
  | [] => rfl
  | x :: l => by rw [scells, List.flatMap_cons, List.all_append, ← scells, sc_one l]; rfl
/-- What is picked by now: whole spans, and one that is open. -/
def outG (acc : List S) (st : Option Nat) (x : Nat) : List S := match st with
  | none => acc
  | some s => acc ++ [(s, x)]
theorem rc_last (acc : List S) (s x : Nat) : rcells (rngF (acc ++ [(s, x)])) = rcells (rngF acc) ++ [.int .i32 (valN s : Int), .int .i32 (valN (x - 1) : Int)] := by
  rw [rngF_app, rcells_app]; rfl
section
variable {o : CallF} (ho : OvOnly o)
include ho
theorem p_loop {a : List S} {av cv : AV} {ab cb : Nat} {cs : List Nat} {how : Int} {is : Nat → Bool} (hla : a.length ≤ 1000000) (hlc : cs.length ≤ 1000000) (his : (how = 1 ∧ ∀ n, is n = inG a n) ∨ (how = 5 ∧ ∀ n, is n = !inG a n))
    (hcs : cs.Pairwise (· < ·)) (hcm : ∀ c ∈ cs, c ≤ 1112064) {n0 : Nat} (hab : 0 < a.length → ab < n0) (hcb : 0 < cs.length → cb < n0) {H0 : Heap} {Q : Ctl → St → Prop} : ∀ (r : List Nat) (x i : Nat) (acc : List S) (st : Option Nat) (ov : AV) (H : Heap), cs.drop i = x :: r → acc.length ≤ i → Rd H 2 (scells a) a.length av ab → Rd H 1 (ncells cs) cs.length cv cb → Ext n0 H0 H → n0 ≤ H.size → Sl n0 H 2 (rcells (rngF (outG acc st x))) (outG acc st x).length ov →
    (∀ (H' : Heap) (ov' : AV) x1 x2 x3 x4 x5 x6 x7 t, Ext n0 H0 H' → Sl n0 H' 2 (rcells (rngF (acc ++ runsF is (x :: r) st))) (acc ++ runsF is (x :: r) st).length ov' → Q (.exit 0) { p := [(0, x1), (1, x2), (2, x3), (8, x4), (9, ov'), (10, x5), (11, x6), (27, x7)], t := t, H := H', d := [], u := .norm }) →
    wpl ⟨bt.get, o⟩ [0, 1, 2, 8, 9, 10, 11] lb_goboref3_pick_0 { p := [(0, av), (1, .nils), (2, .int .i64 how), (8, cv), (9, ov), (10, .bool st.isSome), (11, .int .i64 (i : Int))], t := [], H := H, d := [], u := .norm } Q
  | [], x, i, acc, st, ov, H, hd, hi, hA, hC, hx, hn, hS, hQ => by
    obtain ⟨_, h1, h2⟩ := list_at hd
    have : cs.length ≤ i + 1 := List.drop_eq_nil_iff.1 h2
    rw [wpl_step]
    have iw := wsucc (show i ≤ 1000000000 by omega)
    have c1 : ¬(((i + 1 : Nat) : Int) < (cs.length : Int)) := by omega
    simp only [lb_goboref3_pick_0, go_sem, zA, zB, zC, reduceIte, zD, zE, zF, zG, zH, zI, reduceCtorEq, zJ, zK, zL, zM, zN, zO, zP, hC.len, iw, c1]
    refine hQ H ov _ _ _ _ _ _ _ _ hx ?_
    cases st with
    | none => simpa [runsF, outG] using hS
    | some s => simpa [runsF, outG] using hS
  | y :: r, x, i, acc, st, ov, H, hd, hi, hA, hC, hx, hn, hS, hQ => by
    obtain ⟨h0, h1, h2⟩ := list_at hd
    obtain ⟨g0, g1, g2⟩ := list_at h2
    have hxy : x < y := by
      have := List.pairwise_iff_getElem.1 hcs i (i + 1) h1 g1 (by omega)
      rw [(List.getElem?_eq_some_iff.1 h0).2, (List.getElem?_eq_some_iff.1 g0).2] at this
      exact this
    have hxm := hcm x (List.mem_of_getElem? h0)
    have hym := hcm y (List.mem_of_getElem? g0)
    obtain ⟨⟨u, hg⟩, hel, _⟩ := hC.pos (by omega)
    have el := hel i h1
    have el' := hel (i + 1) g1
    rw [Nat.mul_one] at el el'
    have cx := ncells_at h0
    have cy := ncells_at g0
    have iw := wsucc (show i ≤ 1000000000 by omega)
    have c1 : (((i + 1 : Nat) : Int) < (cs.length : Int)) := by omega
    have wy := wpred (n := y) (by omega) (by omega)
    rw [wpl_step]
    simp only [lb_goboref3_pick_0, go_sem, zA, zB, zC, reduceIte, zD, zE, zF, zG, zH, zI, reduceCtorEq, zJ, zK, zL, zM, zN, zO, zP, hC.len, iw, c1, el, hg, cx]
    refine g_in ho hla hA ?_
    simp only [go_sem, zA, zB, zC, reduceIte, zD, zE, zF, zG, zH, zI, reduceCtorEq, zJ, zK, zL, zM, zN, zO, zP, el, hg, cx, AV.beq_self]
    refine g_in ho (l := []) (by simp) (Rd.nil (b := 0)) ?_
    have hin0 : inG [] x = false := rfl
    have his0 := his
    have len0 : (rcells (rngF acc)).length = acc.length * 2 := by rw [rcells_len, rngF_len]
    -- what the loop goes on with, when the place is not in
    have goF : is x = false → wpl ⟨bt.get, o⟩ [0, 1, 2, 8, 9, 10, 11] lb_goboref3_pick_0 { p := [(0, av), (1, .nils), (2, .int .i64 how), (8, cv), (9, ov), (10, .bool false), (11, .int .i64 ((i + 1 : Nat) : Int))], t := [], H := H, d := [], u := .norm } Q := fun hb => by
      have hb' : ¬ is x = true := by rw [hb]; decide
      cases st with
      | none =>
        refine p_loop hla hlc his0 hcs hcm hab hcb r y (i + 1) acc none ov H h2 (by omega) hA hC hx hn hS ?_
        simpa only [runsF, if_neg hb'] using hQ
      | some s =>
        refine p_loop hla hlc his0 hcs hcm hab hcb r y (i + 1) (acc ++ [(s, x)]) none ov H h2 (by simp only [List.length_append, List.length_cons, List.length_nil]; omega) hA hC hx hn hS ?_
        simp only [runsF, if_neg hb'] at hQ
        simpa only [List.append_assoc, List.cons_append, List.nil_append] using hQ
    -- and when it is in
    have goT : is x = true → ∀ (H' : Heap) (ob : Nat) (s : Nat), (st = none → s = x) → (∀ s', st = some s' → s = s') → Ext n0 H H' → n0 ≤ ob → H'.get ob = .cells (rcells (rngF (acc ++ [(s, y)]))) .own →
        wpl ⟨bt.get, o⟩ [0, 1, 2, 8, 9, 10, 11] lb_goboref3_pick_0 { p := [(0, av), (1, .nils), (2, .int .i64 how), (8, cv), (9, .osl 2 ob 0 (acc.length + 1)), (10, .bool true), (11, .int .i64 ((i + 1 : Nat) : Int))], t := [], H := H', d := [], u := .norm } Q := fun hb H' ob s e1 e2 xH hob hgo => by
      refine p_loop hla hlc his0 hcs hcm hab hcb r y (i + 1) acc (some s) _ H' h2 (by omega) (hA.keep fun h => xH.2 _ (hab h)) (hC.keep fun h => xH.2 _ (hcb h)) (hx.trans xH) (Nat.le_trans hn xH.1) ?_ ?_
      · refine .inr ⟨ob, by simp [outG], hob, hgo, by rw [rcells_len, rngF_len], by simp [outG]⟩
      · cases st with
        | none => rw [e1 rfl]; simpa only [runsF, if_pos hb] using hQ
        | some s' => rw [e2 s' rfl]; simpa only [runsF, if_pos hb] using hQ
    have wn : IntKind.i64.wrap (((acc.length + 1 : Nat) : Int) - 1) = (acc.length : Int) := by
      have := wpred (n := acc.length + 1) (by omega) (by omega)
      rwa [Nat.add_sub_cancel] at this
    have n1 : ((acc.length : Nat) : Int) < ((acc.length + 1 : Nat) : Int) := by omega
    have n2 : (0 : Int) ≤ ((acc.length : Nat) : Int) := by omega
    rcases his with ⟨rfl, his⟩ | ⟨rfl, his⟩ <;> cases hin : inG a x <;> have hb := his x <;> rw [hin] at hb
    case inl.false => 
      simp only [go_sem, zA, zB, zC, reduceIte, zD, zE, zF, zG, zH, zI, reduceCtorEq, zJ, zK, zL, zM, zN, zO, zP, hin0, iw]
      exact goF hb
    case inr.true =>
      simp only [go_sem, zA, zB, zC, reduceIte, zD, zE, zF, zG, zH, zI, reduceCtorEq, zJ, zK, zL, zM, zN, zO, zP, hin0, iw]
      exact goF hb
    all_goals
      cases st with
      | none =>
        simp only [outG] at hS
        obtain ⟨ob, H', ea, hx1, hsl⟩ := append_spec (bytes := 8) (ys := [.int .i32 (valN x : Int), .int .i32 0]) (k := 1) (Sl.push (x := .cells [.int .i32 (valN x : Int), .int .i32 0] .own) hS) (by rw [Heap.size_push]; omega) (by omega) rfl (by omega) (by omega)
        have hx2 : Ext n0 H H' := (Ext.push hn).trans hx1
        rcases hsl with ⟨h, _⟩ | ⟨ob', h, hob, hgo, hlo, _⟩
        · cases h
        · injection h with _ h; subst h
          have hlt : ob < H'.size := Heap.lt_of_get (by rw [hgo]; simp)
          have hg' : H'.get cb = .cells (ncells cs) u := by rw [hx2.2 cb (hcb (by omega)), hg]
          simp only [go_sem, zA, zB, zC, reduceIte, zD, zE, zF, zG, zH, zI, reduceCtorEq, zJ, zK, zL, zM, zN, zO, zP, hin0, Option.isSome, el, hg, cx]
          refine g_at ho hxm ?_
          simp only [go_sem, zA, zB, zC, reduceIte, zD, zE, zF, zG, zH, zI, reduceCtorEq, zJ, zK, zL, zM, zN, zO, zP, ea, wn, n1, n2, iw, el', hg', cy, wy]
          refine g_at ho (by omega) ?_
          simp only [go_sem, zA, zB, zC, reduceIte, zD, zE, zF, zG, zH, zI, reduceCtorEq, zJ, zK, zL, zM, zN, zO, zP, hgo, elA, n1, n2, Nat.zero_add, iw]
          refine ⟨by rw [List.length_append, len0]; simp, goT hb _ ob x (fun _ => rfl) (fun s' h => by cases h) (hx2.trans (Ext.set hob)) hob ?_⟩
          rw [Heap.get_set_self hlt, set_hi len0, rc_last]
      | some s =>
        rcases hS with ⟨_, h, _⟩ | ⟨ob, rfl, hob, hgo, hlo, _⟩
        · simp [outG] at h
        · simp only [outG, List.length_append, List.length_cons, List.length_nil, Nat.zero_add] at hgo hlo ⊢
          have hlt : ob < H.size := Heap.lt_of_get (by rw [hgo]; simp)
          simp only [go_sem, zA, zB, zC, reduceIte, zD, zE, zF, zG, zH, zI, reduceCtorEq, zJ, zK, zL, zM, zN, zO, zP, hin0, Option.isSome, wn, n1, n2, iw, el', hg, cy, wy]
          refine g_at ho (by omega) ?_
          simp only [go_sem, zA, zB, zC, reduceIte, zD, zE, zF, zG, zH, zI, reduceCtorEq, zJ, zK, zL, zM, zN, zO, zP, hgo, elA, n1, n2, Nat.zero_add, iw]
          refine ⟨by rw [rc_last, List.length_append, len0]; simp, goT hb _ ob s (fun h => by cases h) (fun s' h => by injection h) (Ext.set hob) hob ?_⟩
          rw [Heap.get_set_self hlt, rc_last, set_hi len0, rc_last]
/-- What is in, or is not in. -/
theorem g_pick {a : List S} {av : AV} {ab : Nat} {how : Int} {is : Nat → Bool} (hla : a.length ≤ 50000) (his : (how = 1 ∧ ∀ n, is n = inG a n) ∨ (how = 5 ∧ ∀ n, is n = !inG a n)) (ham : ∀ x ∈ a, x.1 < x.2 ∧ x.2 ≤ mostN)
    {H : Heap} (hA : Rd H 2 (scells a) a.length av ab) {Q : End → Heap → Prop} (hQ : ∀ H' v', Ext H.size H H' → Sl H.size H' 2 (rcells (rngF (pickG a is))) (rngF (pickG a is)).length v' → Q (.ret v') H') : wpf ⟨bt.get, o⟩ F_goboref3_pick [av, .nils, .int .i64 how] H Q := by
  rw [fn_goboref3_pick (ho _ _ _ (by decide))]
  have hab : 0 < a.length → ab < H.size := fun h => hA.lt h
  have x1 : Ext H.size H (H.push (.cells [.int .i64 0, .int .i64 1112064] .own)) := Ext.push (Nat.le_refl _)
  have G1 : Gs H.size (H.push (.cells [.int .i64 0, .int .i64 1112064] .own)) 2 [.int .i64 0, .int .i64 1112064] 1 (.slice H.size 0 1 1) := .inr ⟨H.size, Nat.le_refl _, Heap.get_push_self, rfl, .inr rfl⟩
  obtain ⟨v1, H2, e1, x2, G2, _, _, _⟩ := gs_append (bytes := 16) (ys := scells a) (k := a.length) G1 (by rw [Heap.size_push]; omega) (scells_len a) (by omega) (by omega)
  have x12 := x1.trans x2
  have hr := (hA.ext x1).read
  have sc1 := sc_one a
  have e2 : appendA H2 2 16 v1 0 [] = some (v1, H2) := by
    obtain ⟨v2, H3, k1, _, _, _, k2, _⟩ := gs_append (bytes := 16) (ys := []) (k := 0) G2 x12.1 rfl (by omega) (by omega)
    rcases G2 with ⟨rfl, _⟩ | ⟨b, _, _, _, rfl | rfl⟩
    · rfl
    · rfl
    · simp [appendA]
  simp only [bd_goboref3_pick, go_sem, zA, zB, zC, reduceIte, zD, zE, zF, zG, zH, zI, reduceCtorEq, zJ, zK, zL, zM, zN, zO, zP, hr, sc1, e1, e2]
  obtain ⟨b1, hR1⟩ := G2.rd
  have sz2 := x12.1
  refine g_cuts ho (l := (0, mostN) :: a) (v := v1) (rb := b1) (by rw [List.length_cons]; omega) (by rw [List.length_cons, Nat.add_comm a.length 1]; exact hR1) fun H3 cv x3 s3 => ?_
  obtain ⟨q1, q2, q3⟩ := cuts_spec ((0, mostN) :: a)
  have hcm : ∀ c ∈ cutsG ((0, mostN) :: a), c ≤ 1112064 := fun c hc => by
    obtain ⟨x, hx, hh⟩ := ends_mem.1 ((q2 c).1 hc)
    rcases List.mem_cons.1 hx with rfl | hx
    · simp only [mostN] at hh; omega
    · have := ham x hx; unfold mostN at this; omega
  have m0 : 0 ∈ cutsG ((0, mostN) :: a) := (q2 0).2 (ends_mem.2 ⟨(0, mostN), by simp, .inl rfl⟩)
  have hpk : pickG a is = runsF is (cutsG ((0, mostN) :: a)) none := rfl
  obtain ⟨x, r, hcs⟩ : ∃ x r, cutsG ((0, mostN) :: a) = x :: r := by
    cases h : cutsG ((0, mostN) :: a) with
    | nil => rw [h] at m0; cases m0
    | cons x r => exact ⟨x, r, rfl⟩
  obtain ⟨cb, hC, _⟩ := s3.rd
  have x13 := x12.trans (x3.le sz2)
  have sz3 := x13.1
  simp only [go_sem, zA, zB, zC, reduceIte, zD, zE, zF, zG, zH, zI, reduceCtorEq, zJ, zK, zL, zM, zN, zO, zP]
  rw [List.length_cons] at q3
  refine p_loop ho (a := a) (cs := cutsG ((0, mostN) :: a)) (n0 := H3.size) (by omega) (by omega) his q1 hcm (fun h => by have := hab h; omega) (fun h => hC.lt h) (H0 := H3) r x 0 [] none .nils H3 (by rw [List.drop_zero]; exact hcs) (Nat.le_refl _) (hA.keep fun h => x13.2 _ (hab h)) hC Ext.refl (Nat.le_refl _) Sl.nil fun H4 ov' y1 y2 y3 y4 y5 y6 y7 t k1 k2 => ?_
  simp only [go_sem, zA, zB, zC, reduceIte, zD, zE, zF, zG, zH, zI, reduceCtorEq, zJ, zK, zL, zM, zN, zO, zP]
  rw [List.nil_append, ← hcs] at k2
  exact hQ _ _ (x13.trans (k1.le sz3)) (by rw [rngF_len, hpk]; exact k2.frame' sz3)
theorem g_Norm {l : List R} {v : AV} {rb : Nat} (hl : l.length ≤ 50000) (hr : ∀ r ∈ l, I32 r.lo ∧ I32 r.hi) {H : Heap} (hR : Rd H 2 (rcells l) l.length v rb) {Q : End → Heap → Prop}
    (hQ : ∀ H' v', Ext H.size H H' → Sl H.size H' 2 (rcells (normF l)) (normF l).length v' → Q (.ret v') H') : wpf ⟨bt.get, o⟩ F_goboref3_Norm [v] H Q := by
  rw [fn_goboref3_Norm (ho _ _ _ (by decide))]
  simp only [bd_goboref3_Norm, go_sem, zA, zB, zC, reduceIte, zD, zE, zF, zG, zH, zI, reduceCtorEq, zJ, zK, zL, zM, zN, zO, zP]
  refine g_cells ho (by omega) hr hR fun H1 v1 k1 k2 => ?_
  obtain ⟨b, hR1, _⟩ := k2.rd
  simp only [go_sem, zA, zB, zC, reduceIte, zD, zE, zF, zG, zH, zI, reduceCtorEq, zJ, zK, zL, zM, zN, zO, zP]
  have hpl : (preL l).length ≤ l.length := List.length_filterMap_le _ _
  refine g_pick ho (is := inG (preL l)) (by omega) (.inl ⟨rfl, fun _ => rfl⟩) preL_most hR1 fun H2 v2 k3 k4 => ?_
  rw [pick_norm] at k4
  simp only [go_sem, zA, zB, zC, reduceIte, zD, zE, zF, zG, zH, zI, reduceCtorEq, zJ, zK, zL, zM, zN, zO, zP]
  exact hQ _ _ (k1.trans (k3.le k1.1)) (k4.frame' k1.1)
end
/- What word.words comes to. -/
structure W where
  kind : Nat
  text : List UInt8
  at_ : Nat
  deriving DecidableEq
def W.cells (w : W) : List AV := [.int .i64 w.kind, .str w.text, .int .i64 w.at_]
theorem cut {s : List UInt8} {i : Nat} {r : List UInt8} (h : s.drop i = r) (k : Nat) : (s.take (i + k)).drop i = r.take k := by
  rw [List.drop_take, h]; congr 1; omega
section
variable {o : CallF} (ho : OvOnly o)
include ho
end
/- What utf8.DecodeRune comes to. -/
theorem longN_2 {n : Nat} (h : longN n = 2) : 194 ≤ n ∧ n ≤ 223 := by
  unfold longN at h
  repeat' split at h
  all_goals omega
theorem longN_3 {n : Nat} (h : longN n = 3) : 224 ≤ n ∧ n ≤ 239 := by
  unfold longN at h
  repeat' split at h
  all_goals omega
theorem longN_4 {n : Nat} (h : longN n = 4) : 240 ≤ n ∧ n ≤ 244 := by
  unfold longN at h
  repeat' split at h
  all_goals omega
theorem longN_1 {n : Nat} (h : longN n = 1) : n < 128 := by
  unfold longN at h
  repeat' split at h
  all_goals omega
theorem okB_1 {a b : UInt8} (h : okB [a] b = true) : secLo a.toNat ≤ b.toNat ∧ b.toNat ≤ secHi a.toNat := by simpa [okB] using h
theorem okB_2 {a b c : UInt8} (h : okB [a, b] c = true) : 128 ≤ c.toNat ∧ c.toNat ≤ 191 := by simpa [okB] using h
theorem okB_3 {a b c d : UInt8} (h : okB [a, b, c] d = true) : 128 ≤ d.toNat ∧ d.toNat ≤ 191 := by simpa [okB] using h
theorem shl6 {a : Nat} (h : a ≤ 2047) : shiftA .shl .i32 (a : Int) 6 = some (.int .i32 ((64 * a : Nat) : Int)) := by rw [Nat.mul_comm]; exact shl_i32 (k := 6) (by omega) (by omega)
theorem shl12 {a : Nat} (h : a ≤ 2047) : shiftA .shl .i32 (a : Int) 12 = some (.int .i32 ((4096 * a : Nat) : Int)) := by rw [Nat.mul_comm]; exact shl_i32 (k := 12) (by omega) (by omega)
theorem shl18 {a : Nat} (h : a ≤ 2047) : shiftA .shl .i32 (a : Int) 18 = some (.int .i32 ((262144 * a : Nat) : Int)) := by rw [Nat.mul_comm]; exact shl_i32 (k := 18) (by omega) (by omega)
theorem or6 {a b : Nat} (ha : a ≤ 262143) (hb : b < 64) : intBin .or .i32 ((64 * a : Nat) : Int) (b : Int) = some (.int .i32 ((64 * a + b : Nat) : Int)) := or_i32 (k := 6) hb (by omega)
theorem or12 {a b : Nat} (ha : a ≤ 262143) (hb : b < 4096) : intBin .or .i32 ((4096 * a : Nat) : Int) (b : Int) = some (.int .i32 ((4096 * a + b : Nat) : Int)) := or_i32 (k := 12) hb (by omega)
theorem or18 {a b : Nat} (ha : a ≤ 2047) (hb : b < 262144) : intBin .or .i32 ((262144 * a : Nat) : Int) (b : Int) = some (.int .i32 ((262144 * a + b : Nat) : Int)) := or_i32 (k := 18) hb (by omega)
theorem firstN_3 {n : Nat} (h : 224 ≤ n ∧ n ≤ 239) : ((firstN n : Nat) : Int) = if n = 224 then 19 else if n = 237 then 35 else 3 := by
  unfold firstN
  repeat' split
  all_goals first | omega | rfl
theorem firstN_4 {n : Nat} (h : 240 ≤ n ∧ n ≤ 244) : ((firstN n : Nat) : Int) = if n = 240 then 52 else if n = 244 then 68 else 4 := by
  unfold firstN
  repeat' split
  all_goals first | omega | rfl
theorem firstN_2 {n : Nat} (h : 194 ≤ n ∧ n ≤ 223) : ((firstN n : Nat) : Int) = 2 := by
  unfold firstN
  repeat' split
  all_goals first | omega | rfl
section
variable {o : CallF} (ho : OvOnly o)
include ho
theorem u_slow2 {a b : UInt8} {hb : Nat} {H : Heap} {Q : End → Heap → Prop} (hG : GlH H) (hg : H.get hb = .cells (byteCells [a, b]) .own) (hw : whole [a, b] = true) (h : ∀ H', Ext H.size H H' → Q (.ret (.tup [.int .i32 (decR [a, b]), .int .i64 2])) H') : wpf ⟨bt.get, o⟩ F_utf8_decodeRuneSlow [.osl 1 hb 0 2] H Q := by
  rw [fn_utf8_decodeRuneSlow (ho _ _ _ (by decide))]
  simp only [whole, Bool.and_eq_true, beq_iff_eq] at hw
  have ha := longN_2 hw.1
  have hb2 := okB_1 hw.2
  have hf := firstN_2 ha
  simp only [secLo, secHi, if_neg (show ¬ a.toNat = 224 by omega), if_neg (show ¬ a.toNat = 240 by omega), if_neg (show ¬ a.toNat = 237 by omega), if_neg (show ¬ a.toNat = 244 by omega)] at hb2
  have hlt : hb < H.size := Heap.lt_of_get (by rw [hg]; simp)
  have hn : ¬ ((b.toNat : Int) < 128) := by omega
  have hn2 : ¬ ((191 : Int) < (b.toNat : Int)) := by omega
  have e1 : shiftA .shr .u8 2 4 = some (.int .u8 0) := by rfl
  have e2 : u8and 2 7 = 2 := by rfl
  have e3 : IntKind.i64.wrap 2 = 2 := by rfl
  have ma := u8and_at a
  have mb := u8and_at b
  have w1 : IntKind.i32.wrap ((a.toNat % 32 : Nat) : Int) = ((a.toNat % 32 : Nat) : Int) := wi32 (by omega) (by omega)
  have w2 : IntKind.i32.wrap ((b.toNat % 64 : Nat) : Int) = ((b.toNat % 64 : Nat) : Int) := wi32 (by omega) (by omega)
  have a256 : (a.toNat : Int) < 256 := by have := a.toNat_lt; omega
  simp only [bd_utf8_decodeRuneSlow, go_sem, zA, zB, zC, reduceIte, zD, zE, zF, zG, zH, zI, reduceCtorEq, zJ, zK, zL, zM, zN, zO, zP, hg, a256, byteCells, List.map_cons, List.map_nil, first_at, hf, hG.2.1, hG.2.2.1, glAccept, e1, e2, e3, intBin_u8and, Heap.get_push_lt hlt, hn, hn2, ma, mb, w1, w2, Int.natCast_nonneg]
  simp only [go_sem, zA, zB, zC, reduceIte, zD, zE, zF, zG, zH, zI, reduceCtorEq, zJ, zK, zL, zM, zN, zO, zP, shl6 (show a.toNat % 32 ≤ 2047 by omega), or6 (show a.toNat % 32 ≤ 262143 by omega) (show b.toNat % 64 < 64 by omega)]
  have := h _ (Ext.push (x := .cells [.int .u8 128, .int .u8 191] .own) (Nat.le_refl _))
  rw [decR, Nat.mul_comm] at this
  exact this
theorem u_slow3 {a b c : UInt8} {hb : Nat} {H : Heap} {Q : End → Heap → Prop} (hG : GlH H) (hg : H.get hb = .cells (byteCells [a, b, c]) .own) (hw : whole [a, b, c] = true) (h : ∀ H', Ext H.size H H' → Q (.ret (.tup [.int .i32 (decR [a, b, c]), .int .i64 3])) H') : wpf ⟨bt.get, o⟩ F_utf8_decodeRuneSlow [.osl 1 hb 0 3] H Q := by
  rw [fn_utf8_decodeRuneSlow (ho _ _ _ (by decide))]
  simp only [whole, Bool.and_eq_true, beq_iff_eq] at hw
  obtain ⟨⟨hw1, hw2⟩, hw3⟩ := hw
  have ha := longN_3 hw1
  have hb2 := okB_1 hw2
  have hc2 := okB_2 hw3
  have hf := firstN_3 ha
  have hlt : hb < H.size := Heap.lt_of_get (by rw [hg]; simp)
  have hm : ¬ ((c.toNat : Int) < 128) := by omega
  have hm2 : ¬ ((191 : Int) < (c.toNat : Int)) := by omega
  have ma := u8and_at a
  have mb := u8and_at b
  have mc := u8and_at c
  have w1 : IntKind.i32.wrap ((a.toNat % 16 : Nat) : Int) = ((a.toNat % 16 : Nat) : Int) := wi32 (by omega) (by omega)
  have w2 : IntKind.i32.wrap ((b.toNat % 64 : Nat) : Int) = ((b.toNat % 64 : Nat) : Int) := wi32 (by omega) (by omega)
  have w3 : IntKind.i32.wrap ((c.toNat % 64 : Nat) : Int) = ((c.toNat % 64 : Nat) : Int) := wi32 (by omega) (by omega)
  have a256 : (a.toNat : Int) < 256 := by have := a.toNat_lt; omega
  have e3 : IntKind.i64.wrap 3 = 3 := by rfl
  have f2 : u8and 19 7 = 3 := by rfl
  have f3 : u8and 35 7 = 3 := by rfl
  have f4 : u8and 3 7 = 3 := by rfl
  have g2 : shiftA .shr .u8 19 4 = some (.int .u8 1) := by rfl
  have g3 : shiftA .shr .u8 35 4 = some (.int .u8 2) := by rfl
  have g4 : shiftA .shr .u8 3 4 = some (.int .u8 0) := by rfl
  have o1 : intBin .or .i32 ((4096 * (a.toNat % 16) : Nat) : Int) ((64 * (b.toNat % 64) : Nat) : Int) = some (.int .i32 ((64 * (64 * (a.toNat % 16) + b.toNat % 64) : Nat) : Int)) := by
    rw [or12 (by omega) (by omega)]; congr 3; omega
  have o2 := or6 (a := 64 * (a.toNat % 16) + b.toNat % 64) (b := c.toNat % 64) (by omega) (by omega)
  have hd : decR [a, b, c] = 64 * (64 * (a.toNat % 16) + b.toNat % 64) + c.toNat % 64 := by rw [decR]; omega
  rw [hd] at h
  by_cases h224 : a.toNat = 224
  · rw [if_pos h224] at hf
    have hn : ¬ ((b.toNat : Int) < 160) := by have l := hb2.1; rw [h224] at l; have l2 : 160 ≤ b.toNat := l; omega
    have hn2 : ¬ ((191 : Int) < (b.toNat : Int)) := by have l := hb2.2; rw [h224] at l; have l2 : b.toNat ≤ 191 := l; omega
    simp only [bd_utf8_decodeRuneSlow, go_sem, zA, zB, zC, reduceIte, zD, zE, zF, zG, zH, zI, reduceCtorEq, zJ, zK, zL, zM, zN, zO, zP, hg, a256, byteCells, List.map_cons, List.map_nil, first_at, hf, hG.2.1, hG.2.2.1, glAccept, e3, f2, g2, intBin_u8and, Heap.get_push_lt hlt, hn, hn2, hm, hm2, ma, mb, mc, w1, w2, w3]
    simp only [go_sem, zA, zB, zC, reduceIte, zD, zE, zF, zG, zH, zI, reduceCtorEq, zJ, zK, zL, zM, zN, zO, zP, shl12 (show a.toNat % 16 ≤ 2047 by omega), shl6 (show b.toNat % 64 ≤ 2047 by omega), o1, o2]
    exact h _ (Ext.push (Nat.le_refl _))
  · rw [if_neg h224] at hf
    by_cases h237 : a.toNat = 237
    · rw [if_pos h237] at hf
      have hn : ¬ ((b.toNat : Int) < 128) := by have l := hb2.1; rw [h237] at l; have l2 : 128 ≤ b.toNat := l; omega
      have hn2 : ¬ ((159 : Int) < (b.toNat : Int)) := by have l := hb2.2; rw [h237] at l; have l2 : b.toNat ≤ 159 := l; omega
      simp only [bd_utf8_decodeRuneSlow, go_sem, zA, zB, zC, reduceIte, zD, zE, zF, zG, zH, zI, reduceCtorEq, zJ, zK, zL, zM, zN, zO, zP, hg, a256, byteCells, List.map_cons, List.map_nil, first_at, hf, hG.2.1, hG.2.2.1, glAccept, e3, f3, g3, intBin_u8and, Heap.get_push_lt hlt, hn, hn2, hm, hm2, ma, mb, mc, w1, w2, w3]
      simp only [go_sem, zA, zB, zC, reduceIte, zD, zE, zF, zG, zH, zI, reduceCtorEq, zJ, zK, zL, zM, zN, zO, zP, shl12 (show a.toNat % 16 ≤ 2047 by omega), shl6 (show b.toNat % 64 ≤ 2047 by omega), o1, o2]
      exact h _ (Ext.push (Nat.le_refl _))
    · rw [if_neg h237] at hf
      have hn : ¬ ((b.toNat : Int) < 128) := by simp only [secLo, if_neg h224, if_neg (show ¬ a.toNat = 240 by omega)] at hb2; omega
      have hn2 : ¬ ((191 : Int) < (b.toNat : Int)) := by simp only [secHi, if_neg h237, if_neg (show ¬ a.toNat = 244 by omega)] at hb2; omega
      simp only [bd_utf8_decodeRuneSlow, go_sem, zA, zB, zC, reduceIte, zD, zE, zF, zG, zH, zI, reduceCtorEq, zJ, zK, zL, zM, zN, zO, zP, hg, a256, byteCells, List.map_cons, List.map_nil, first_at, hf, hG.2.1, hG.2.2.1, glAccept, e3, f4, g4, intBin_u8and, Heap.get_push_lt hlt, hn, hn2, hm, hm2, ma, mb, mc, w1, w2, w3]
      simp only [go_sem, zA, zB, zC, reduceIte, zD, zE, zF, zG, zH, zI, reduceCtorEq, zJ, zK, zL, zM, zN, zO, zP, shl12 (show a.toNat % 16 ≤ 2047 by omega), shl6 (show b.toNat % 64 ≤ 2047 by omega), o1, o2]
      exact h _ (Ext.push (Nat.le_refl _))
theorem u_slow4 {a b c d : UInt8} {hb : Nat} {H : Heap} {Q : End → Heap → Prop} (hG : GlH H) (hg : H.get hb = .cells (byteCells [a, b, c, d]) .own) (hw : whole [a, b, c, d] = true) (h : ∀ H', Ext H.size H H' → Q (.ret (.tup [.int .i32 (decR [a, b, c, d]), .int .i64 4])) H') : wpf ⟨bt.get, o⟩ F_utf8_decodeRuneSlow [.osl 1 hb 0 4] H Q := by
  rw [fn_utf8_decodeRuneSlow (ho _ _ _ (by decide))]
  simp only [whole, Bool.and_eq_true, beq_iff_eq] at hw
  obtain ⟨⟨⟨hw1, hw2⟩, hw3⟩, hw4⟩ := hw
  have ha := longN_4 hw1
  have hb2 := okB_1 hw2
  have hc2 := okB_2 hw3
  have hd2 := okB_3 hw4
  have hf := firstN_4 ha
  have hlt : hb < H.size := Heap.lt_of_get (by rw [hg]; simp)
  have hm : ¬ ((c.toNat : Int) < 128) := by omega
  have hm2 : ¬ ((191 : Int) < (c.toNat : Int)) := by omega
  have hk : ¬ ((d.toNat : Int) < 128) := by omega
  have hk2 : ¬ ((191 : Int) < (d.toNat : Int)) := by omega
  have ma := u8and_at a
  have mb := u8and_at b
  have mc := u8and_at c
  have md := u8and_at d
  have w1 : IntKind.i32.wrap ((a.toNat % 8 : Nat) : Int) = ((a.toNat % 8 : Nat) : Int) := wi32 (by omega) (by omega)
  have w2 : IntKind.i32.wrap ((b.toNat % 64 : Nat) : Int) = ((b.toNat % 64 : Nat) : Int) := wi32 (by omega) (by omega)
  have w3 : IntKind.i32.wrap ((c.toNat % 64 : Nat) : Int) = ((c.toNat % 64 : Nat) : Int) := wi32 (by omega) (by omega)
  have w4 : IntKind.i32.wrap ((d.toNat % 64 : Nat) : Int) = ((d.toNat % 64 : Nat) : Int) := wi32 (by omega) (by omega)
  have a256 : (a.toNat : Int) < 256 := by have := a.toNat_lt; omega
  have e3 : IntKind.i64.wrap 4 = 4 := by rfl
  have f2 : u8and 52 7 = 4 := by rfl
  have f3 : u8and 68 7 = 4 := by rfl
  have f4 : u8and 4 7 = 4 := by rfl
  have g2 : shiftA .shr .u8 52 4 = some (.int .u8 3) := by rfl
  have g3 : shiftA .shr .u8 68 4 = some (.int .u8 4) := by rfl
  have g4 : shiftA .shr .u8 4 4 = some (.int .u8 0) := by rfl
  have o1 : intBin .or .i32 ((262144 * (a.toNat % 8) : Nat) : Int) ((4096 * (b.toNat % 64) : Nat) : Int) = some (.int .i32 ((4096 * (64 * (a.toNat % 8) + b.toNat % 64) : Nat) : Int)) := by
    rw [or18 (by omega) (by omega)]; congr 3; omega
  have o2 : intBin .or .i32 ((4096 * (64 * (a.toNat % 8) + b.toNat % 64) : Nat) : Int) ((64 * (c.toNat % 64) : Nat) : Int) = some (.int .i32 ((64 * (64 * (64 * (a.toNat % 8) + b.toNat % 64) + c.toNat % 64) : Nat) : Int)) := by
    rw [or12 (by omega) (by omega)]; congr 3; omega
  have o3 := or6 (a := 64 * (64 * (a.toNat % 8) + b.toNat % 64) + c.toNat % 64) (b := d.toNat % 64) (by omega) (by omega)
  have hd : decR [a, b, c, d] = 64 * (64 * (64 * (a.toNat % 8) + b.toNat % 64) + c.toNat % 64) + d.toNat % 64 := by rw [decR]; omega
  rw [hd] at h
  by_cases h240 : a.toNat = 240
  · rw [if_pos h240] at hf
    have hn : ¬ ((b.toNat : Int) < 144) := by have l := hb2.1; rw [h240] at l; have l2 : 144 ≤ b.toNat := l; omega
    have hn2 : ¬ ((191 : Int) < (b.toNat : Int)) := by have l := hb2.2; rw [h240] at l; have l2 : b.toNat ≤ 191 := l; omega
    simp only [bd_utf8_decodeRuneSlow, go_sem, zA, zB, zC, reduceIte, zD, zE, zF, zG, zH, zI, reduceCtorEq, zJ, zK, zL, zM, zN, zO, zP, hg, a256, byteCells, List.map_cons, List.map_nil, first_at, hf, hG.2.1, hG.2.2.1, glAccept, e3, f2, g2, intBin_u8and, Heap.get_push_lt hlt, hn, hn2, hm, hm2, hk, hk2, ma, mb, mc, md, w1, w2, w3, w4]
    simp only [go_sem, zA, zB, zC, reduceIte, zD, zE, zF, zG, zH, zI, reduceCtorEq, zJ, zK, zL, zM, zN, zO, zP, shl18 (show a.toNat % 8 ≤ 2047 by omega), shl12 (show b.toNat % 64 ≤ 2047 by omega), shl6 (show c.toNat % 64 ≤ 2047 by omega), o1, o2, o3]
    exact h _ (Ext.push (Nat.le_refl _))
  · rw [if_neg h240] at hf
    by_cases h244 : a.toNat = 244
    · rw [if_pos h244] at hf
      have hn : ¬ ((b.toNat : Int) < 128) := by have l := hb2.1; rw [h244] at l; have l2 : 128 ≤ b.toNat := l; omega
      have hn2 : ¬ ((143 : Int) < (b.toNat : Int)) := by have l := hb2.2; rw [h244] at l; have l2 : b.toNat ≤ 143 := l; omega
      simp only [bd_utf8_decodeRuneSlow, go_sem, zA, zB, zC, reduceIte, zD, zE, zF, zG, zH, zI, reduceCtorEq, zJ, zK, zL, zM, zN, zO, zP, hg, a256, byteCells, List.map_cons, List.map_nil, first_at, hf, hG.2.1, hG.2.2.1, glAccept, e3, f3, g3, intBin_u8and, Heap.get_push_lt hlt, hn, hn2, hm, hm2, hk, hk2, ma, mb, mc, md, w1, w2, w3, w4]
      simp only [go_sem, zA, zB, zC, reduceIte, zD, zE, zF, zG, zH, zI, reduceCtorEq, zJ, zK, zL, zM, zN, zO, zP, shl18 (show a.toNat % 8 ≤ 2047 by omega), shl12 (show b.toNat % 64 ≤ 2047 by omega), shl6 (show c.toNat % 64 ≤ 2047 by omega), o1, o2, o3]
      exact h _ (Ext.push (Nat.le_refl _))
    · rw [if_neg h244] at hf
      have hn : ¬ ((b.toNat : Int) < 128) := by simp only [secLo, if_neg h240, if_neg (show ¬ a.toNat = 224 by omega)] at hb2; omega
      have hn2 : ¬ ((191 : Int) < (b.toNat : Int)) := by simp only [secHi, if_neg h244, if_neg (show ¬ a.toNat = 237 by omega)] at hb2; omega
      simp only [bd_utf8_decodeRuneSlow, go_sem, zA, zB, zC, reduceIte, zD, zE, zF, zG, zH, zI, reduceCtorEq, zJ, zK, zL, zM, zN, zO, zP, hg, a256, byteCells, List.map_cons, List.map_nil, first_at, hf, hG.2.1, hG.2.2.1, glAccept, e3, f4, g4, intBin_u8and, Heap.get_push_lt hlt, hn, hn2, hm, hm2, hk, hk2, ma, mb, mc, md, w1, w2, w3, w4]
      simp only [go_sem, zA, zB, zC, reduceIte, zD, zE, zF, zG, zH, zI, reduceCtorEq, zJ, zK, zL, zM, zN, zO, zP, shl18 (show a.toNat % 8 ≤ 2047 by omega), shl12 (show b.toNat % 64 ≤ 2047 by omega), shl6 (show c.toNat % 64 ≤ 2047 by omega), o1, o2, o3]
      exact h _ (Ext.push (Nat.le_refl _))
theorem u_DecodeRune {held : List UInt8} {hb : Nat} {H : Heap} {Q : End → Heap → Prop} (hG : GlH H) (hg : H.get hb = .cells (byteCells held) .own) (hw : whole held = true) (h : ∀ H', Ext H.size H H' → Q (.ret (.tup [.int .i32 (decR held), .int .i64 held.length])) H') : wpf ⟨bt.get, o⟩ F_utf8_DecodeRune [.osl 1 hb 0 held.length] H Q := by
  rw [fn_utf8_DecodeRune (ho _ _ _ (by decide))]
  have one : ∀ a : UInt8, IntKind.i32.wrap (a.toNat : Int) = (a.toNat : Int) := fun a => by have := a.toNat_lt; exact wi32 (by omega) (by omega)
  have big : ∀ a : UInt8, longB a ≠ 1 → ¬ ((a.toNat : Int) < 128) := by
    intro a h hlt
    exact h (by simp only [longB, longN, if_pos (show a.toNat < 128 by omega)])
  match held, hw, hg, h with
  | [a], hw, hg, h =>
    have := longN_1 (beq_iff_eq.1 hw)
    have ha : (a.toNat : Int) < 128 := by omega
    simp only [bd_utf8_DecodeRune, go_sem, zA, zB, zC, reduceIte, zD, zE, zF, zG, zH, zI, reduceCtorEq, zJ, zK, zL, zM, zN, zO, zP]
    rw [wpl_step]
    simp only [lb_utf8_DecodeRune_0, go_sem, zA, zB, zC, reduceIte, zD, zE, zF, zG, zH, zI, reduceCtorEq, zJ, zK, zL, zM, zN, zO, zP, hg, byteCells, List.map_cons, List.map_nil, ha, one]
    exact h _ Ext.refl
  | [a, b], hw, hg, h =>
    have ha := big a (by intro h; simp [whole, h] at hw)
    simp only [bd_utf8_DecodeRune, go_sem, zA, zB, zC, reduceIte, zD, zE, zF, zG, zH, zI, reduceCtorEq, zJ, zK, zL, zM, zN, zO, zP]
    rw [wpl_step]
    simp only [lb_utf8_DecodeRune_0, go_sem, zA, zB, zC, reduceIte, zD, zE, zF, zG, zH, zI, reduceCtorEq, zJ, zK, zL, zM, zN, zO, zP, hg, byteCells, List.map_cons, List.map_nil, ha]
    refine u_slow2 ho hG hg hw fun H' hx => ?_
    simp only [go_sem, zA, zB, zC, reduceIte, zD, zE, zF, zG, zH, zI, reduceCtorEq, zJ, zK, zL, zM, zN, zO, zP]
    exact h _ hx
  | [a, b, c], hw, hg, h =>
    have ha := big a (by intro h; simp [whole, h] at hw)
    simp only [bd_utf8_DecodeRune, go_sem, zA, zB, zC, reduceIte, zD, zE, zF, zG, zH, zI, reduceCtorEq, zJ, zK, zL, zM, zN, zO, zP]
    rw [wpl_step]
    simp only [lb_utf8_DecodeRune_0, go_sem, zA, zB, zC, reduceIte, zD, zE, zF, zG, zH, zI, reduceCtorEq, zJ, zK, zL, zM, zN, zO, zP, hg, byteCells, List.map_cons, List.map_nil, ha]
    refine u_slow3 ho hG hg hw fun H' hx => ?_
    simp only [go_sem, zA, zB, zC, reduceIte, zD, zE, zF, zG, zH, zI, reduceCtorEq, zJ, zK, zL, zM, zN, zO, zP]
    exact h _ hx
  | [a, b, c, d], hw, hg, h =>
    have ha := big a (by intro h; simp [whole, h] at hw)
    simp only [bd_utf8_DecodeRune, go_sem, zA, zB, zC, reduceIte, zD, zE, zF, zG, zH, zI, reduceCtorEq, zJ, zK, zL, zM, zN, zO, zP]
    rw [wpl_step]
    simp only [lb_utf8_DecodeRune_0, go_sem, zA, zB, zC, reduceIte, zD, zE, zF, zG, zH, zI, reduceCtorEq, zJ, zK, zL, zM, zN, zO, zP, hg, byteCells, List.map_cons, List.map_nil, ha]
    refine u_slow4 ho hG hg hw fun H' hx => ?_
    simp only [go_sem, zA, zB, zC, reduceIte, zD, zE, zF, zG, zH, zI, reduceCtorEq, zJ, zK, zL, zM, zN, zO, zP]
    exact h _ hx
end
end Go.Ev
