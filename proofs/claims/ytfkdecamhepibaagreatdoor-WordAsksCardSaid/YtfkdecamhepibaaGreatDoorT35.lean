/- Several texts of this claim, joined. -/
import Derived.Test.YtfkdecamhepibaaGreatDoorT32
import Derived.Test.YtfkdecamhepibaaGreatDoorT34
set_option linter.unusedSimpArgs false
set_option linter.unusedVariables false

/- goboref11: the reader E, its small functions. -/
namespace Go.Ev
open Go
open Go.Ev renaming seqK_normal → zA, blockK_normal → zB, blockK_exit → zC
open Nat renaming reduceEqDiff → zD, reduceAdd → zE, reduceSub → zF, reduceMul → zG, reduceLeDiff → zH, reduceLT → zI
open Int renaming reduceToNat → zJ, reduceLT → zK, reduceLE → zL, reduceEq → zM, reduceAdd → zN, reduceSub → zO, reduceMul → zP
set_option maxRecDepth 8000
/-- A reader of the document: its block, where it stands, what is wrong, where. -/
structure ErS (b : Nat) (H : Heap) (its : List It) (e k : Nat) (bad wh : Int) (iv : AV) (ib : Nat) : Prop where
  get : H.get b = .cells [iv, .int .i64 e, .int .i64 k, .int .i64 bad, .int .i64 wh] .own
  rd : Rd H 5 (icells its) its.length iv ib
  ne : 0 < its.length → ib ≠ b
  le : k ≤ its.length
  sm : its.length ≤ 1000000
theorem ErS.lt {b H its e k bad wh iv ib} (h : ErS b H its e k bad wh iv ib) : b < H.size := Heap.lt_of_get (by rw [h.get]; simp)
theorem ErS.ex {b H H' its e k bad wh iv ib n0} (h : ErS b H its e k bad wh iv ib) (x : Ext n0 H H') (hb : b < n0) (hi : 0 < its.length → ib < n0) : ErS b H' its e k bad wh iv ib :=
  ⟨by rw [x.2 b hb, h.get], h.rd.keep fun hp => x.2 ib (hi hp), h.ne, h.le, h.sm⟩
theorem ErS.set {b H its e k bad wh iv ib} (h : ErS b H its e k bad wh iv ib) {k' : Nat} {bad' wh' : Int} (hk : k' ≤ its.length) : ErS b (H.set b (.cells [iv, .int .i64 e, .int .i64 k', .int .i64 bad', .int .i64 wh'] .own)) its e k' bad' wh' iv ib :=
  ⟨Heap.get_set_self h.lt, h.rd.keep fun hp => Heap.get_set_ne (h.ne hp), h.ne, hk, h.sm⟩
/-- The next rune, as this reader tells it. -/
def peekB (its : List It) (bad : Int) (k : Nat) : Int := if bad = 0 then (if peekR its k = -2 then -1 else peekR its k) else -1
theorem peekB_eq {its : List It} {bad : Int} {k : Nat} {c : Int} (hc : 0 ≤ c) : peekB its bad k = c ↔ bad = 0 ∧ peekR its k = c := by
  unfold peekB
  split
  · split
    · constructor
      · intro h; omega
      · rintro ⟨_, h⟩; omega
    · constructor
      · intro h; exact ⟨by assumption, h⟩
      · rintro ⟨_, h⟩; exact h
  · constructor
    · intro h; omega
    · rintro ⟨h, _⟩; contradiction
theorem peekB_lt {its : List It} {k : Nat} (hs : Sm its) : -1 ≤ peekB its 0 k ∧ peekB its 0 k ≤ 2097151 := by
  have := peek_bd hs k
  unfold peekB
  rw [if_pos rfl]
  split <;> omega
/-- What stands behind a backslash. -/
def escR (its : List It) (e k : Nat) : Except Nat (Int × Nat) :=
  if peekR its k = 110 then .ok (10, k + 1)
  else if peekR its k = 114 then .ok (13, k + 1)
  else if peekR its k = 116 then .ok (9, k + 1)
  else if peekR its k = 117 then numR its e (k + 1)
  else if peekR its k < 0 ∨ hasR escS (peekR its k) = false then .error (atR its e k)
  else .ok (peekR its k, k + 1)
theorem hasR_neg {s : List UInt8} {r : Int} (h : r < 0) : hasR s r = false := by
  simp only [hasR, List.any_eq_false, decide_eq_true_eq]
  intro c _; omega
section
variable {o : CallF} (ho : OvOnly o)
include ho
theorem e_peek {b H its e k bad wh iv ib} (hR : ErS b H its e k bad wh iv ib) {Q : End → Heap → Prop} (h : Q (.ret (.int .i32 (peekB its bad k))) H) : wpf ⟨bt.get, o⟩ F_goboref11_E_peek [.ptr b 0] H Q := by
  rw [fn_goboref11_E_peek (ho _ _ _ (by decide))]
  have hg := hR.get
  have hl := hR.rd.len
  by_cases hb : bad = 0
  · subst hb
    by_cases hk : k = its.length
    · have hk' : (its.length : Int) ≤ (k : Int) := by omega
      have ep : peekB its 0 k = -1 := by simp [peekB, peekR, hk]
      rw [ep] at h
      simp only [bd_goboref11_E_peek, go_sem, zA, zB, zC, reduceIte, zD, zE, zF, zG, zH, zI, reduceCtorEq, zJ, zK, zL, zM, zN, zO, zP, hg, hl, hk']
      exact h
    · have hle := hR.le
      have hk' : ¬ (its.length : Int) ≤ (k : Int) := by omega
      obtain ⟨⟨u, hi⟩, hel, _⟩ := hR.rd.pos (by omega)
      have el := hel k (by omega)
      have h0 := List.getElem?_eq_getElem (l := its) (i := k) (by omega)
      obtain ⟨f0, f1, f3⟩ := icells_fld h0
      have ep : peekB its 0 k = if its[k].bad then -1 else (its[k].rune : Int) := by
        simp only [peekB, peekR, h0, if_true]
        cases its[k].bad
        · simp only [Bool.false_eq_true, if_false]; rw [if_neg (by omega)]
        · simp
      rw [ep] at h
      simp only [bd_goboref11_E_peek, go_sem, zA, zB, zC, reduceIte, zD, zE, zF, zG, zH, zI, reduceCtorEq, zJ, zK, zL, zM, zN, zO, zP, hg, hl, hk', el, hi, f0, f1, f3]
      cases hb : its[k].bad
      · rw [hb] at h
        simp only [go_sem, zA, zB, zC, reduceIte, zD, zE, zF, zG, zH, zI, reduceCtorEq, zJ, zK, zL, zM, zN, zO, zP, hg, hl, hk', el, hi, f0, f1, f3]
        exact h
      · rw [hb] at h
        simp only [go_sem, zA, zB, zC, reduceIte, zD, zE, zF, zG, zH, zI, reduceCtorEq, zJ, zK, zL, zM, zN, zO, zP]
        exact h
  · have ep : peekB its bad k = -1 := by rw [peekB, if_neg hb]
    rw [ep] at h
    simp only [bd_goboref11_E_peek, go_sem, zA, zB, zC, reduceIte, zD, zE, zF, zG, zH, zI, reduceCtorEq, zJ, zK, zL, zM, zN, zO, zP, hg, hb]
    exact h
theorem e_take {b H its e k bad wh iv ib} {c : Int} (hc : 0 ≤ c) (hR : ErS b H its e k bad wh iv ib) {Q : End → Heap → Prop}
    (hF : peekB its bad k ≠ c → Q (.ret (.bool false)) H) (hT : bad = 0 → peekR its k = c → ∀ H', Fr b .nils H H' → ErS b H' its e (k + 1) bad wh iv ib → Q (.ret (.bool true)) H') : wpf ⟨bt.get, o⟩ F_goboref11_E_take [.ptr b 0, .int .i32 c] H Q := by
  rw [fn_goboref11_E_take (ho _ _ _ (by decide))]
  simp only [bd_goboref11_E_take, go_sem, zA, zB, zC, reduceIte, zD, zE, zF, zG, zH, zI, reduceCtorEq, zJ, zK, zL, zM, zN, zO, zP]
  refine e_peek ho hR ?_
  have hg := hR.get
  by_cases hp : peekB its bad k = c
  · obtain ⟨h0, h1⟩ := (peekB_eq hc).1 hp
    have hk := peek_lt (its := its) (k := k) (by omega)
    have hsm := hR.sm
    simp only [go_sem, zA, zB, zC, reduceIte, zD, zE, zF, zG, zH, zI, reduceCtorEq, zJ, zK, zL, zM, zN, zO, zP, hp, hg, wsucc (show k ≤ 1000000000 by omega), Heap.get_set_self hR.lt]
    exact hT h0 h1 _ Fr.set (hR.set (by omega))
  · simp only [go_sem, zA, zB, zC, reduceIte, zD, zE, zF, zG, zH, zI, reduceCtorEq, zJ, zK, zL, zM, zN, zO, zP, hp]
    exact hF hp
theorem e_fail {b H its e k wh iv ib} {c : Int} (hR : ErS b H its e k 0 wh iv ib) {Q : End → Heap → Prop}
    (h : ∀ H', Fr b .nils H H' → ErS b H' its e k c (atR its e k) iv ib → Q (.ret (.tup [])) H') : wpf ⟨bt.get, o⟩ F_goboref11_E_fail [.ptr b 0, .int .i64 c] H Q := by
  rw [fn_goboref11_E_fail (ho _ _ _ (by decide))]
  have hg := hR.get
  have hl := hR.rd.len
  have hlt := hR.lt
  by_cases hk : k = its.length
  · have hk' : ¬ (k : Int) < (its.length : Int) := by omega
    have ep : atR its e k = e := by simp [atR, hk]
    rw [ep] at h
    simp only [bd_goboref11_E_fail, go_sem, zA, zB, zC, reduceIte, zD, zE, zF, zG, zH, zI, reduceCtorEq, zJ, zK, zL, zM, zN, zO, zP, hg, hl, hk', Heap.get_set_self hlt]
    exact h _ Fr.set (hR.set hR.le)
  · have hle := hR.le
    have hk' : (k : Int) < (its.length : Int) := by omega
    obtain ⟨⟨u, hi⟩, hel, _⟩ := hR.rd.pos (by omega)
    have el := hel k (by omega)
    have h0 := List.getElem?_eq_getElem (l := its) (i := k) (by omega)
    obtain ⟨f0, f1, f3⟩ := icells_fld h0
    have ep : atR its e k = its[k].frm := by simp only [atR, h0]
    have hne := hR.ne (by omega)
    rw [ep] at h
    simp only [bd_goboref11_E_fail, go_sem, zA, zB, zC, reduceIte, zD, zE, zF, zG, zH, zI, reduceCtorEq, zJ, zK, zL, zM, zN, zO, zP, hg, hl, hk', el, Heap.get_set_ne hne, hi, f1, Heap.get_set_self hlt]
    exact h _ Fr.set (hR.set hR.le)
omit ho in
theorem among_loop {s : List UInt8} (hs : s.length ≤ 1000000) {r : Int} {H : Heap} {Q : Ctl → St → Prop} : ∀ (q : List UInt8) (i : Nat), s.drop i = q → i ≤ s.length →
    (hasR q r = false → ∀ σ : St, σ.H = H → σ.d = [] → Q (.exit 0) σ) → (hasR q r = true → ∀ σ : St, σ.H = H → σ.d = [] → lk 4 σ.p = some (.bool true) → Q .ret σ) →
    wpl ⟨bt.get, o⟩ [0, 1, 5] lb_goboref11_among_0 { p := [(0, .str s), (1, .int .i32 r), (5, .int .i64 (i : Int))], t := [], H := H, d := [], u := .norm } Q
  | [], i, hq, hi, hF, hT => by
    have := at_nil hq
    rw [wpl_step]
    have c1 : ¬ (i : Int) < (s.length : Int) := by omega
    simp only [lb_goboref11_among_0, go_sem, zA, zB, zC, reduceIte, zD, zE, zF, zG, zH, zI, reduceCtorEq, zJ, zK, zL, zM, zN, zO, zP, c1]
    exact hF rfl _ rfl rfl
  | c :: q, i, hq, hi, hF, hT => by
    obtain ⟨h0, h1, h2⟩ := at_drop hq
    have cl := c.toNat_lt
    have wc : IntKind.i32.wrap (c.toNat : Int) = (c.toNat : Int) := wi32 (by omega) (by omega)
    rw [wpl_step]
    have c1 : (i : Int) < (s.length : Int) := by omega
    by_cases hc : (c.toNat : Int) = r
    · subst hc
      simp only [lb_goboref11_among_0, go_sem, zA, zB, zC, reduceIte, zD, zE, zF, zG, zH, zI, reduceCtorEq, zJ, zK, zL, zM, zN, zO, zP, c1, Int.natCast_nonneg, h0, wc]
      exact hT (by simp [hasR]) _ rfl rfl rfl
    · have e : hasR (c :: q) r = hasR q r := by simp [hasR, hc]
      rw [e] at hF hT
      simp only [lb_goboref11_among_0, go_sem, zA, zB, zC, reduceIte, zD, zE, zF, zG, zH, zI, reduceCtorEq, zJ, zK, zL, zM, zN, zO, zP, c1, Int.natCast_nonneg, h0, wc, hc, wsucc (show i ≤ 1000000000 by omega)]
      exact among_loop hs q (i + 1) h2 (by omega) hF hT
theorem e_among {s : List UInt8} (hs : s.length ≤ 1000000) {r : Int} {H : Heap} {Q : End → Heap → Prop} (h : Q (.ret (.bool (hasR s r))) H) : wpf ⟨bt.get, o⟩ F_goboref11_among [.str s, .int .i32 r] H Q := by
  rw [fn_goboref11_among (ho _ _ _ (by decide))]
  simp only [bd_goboref11_among, go_sem, zA, zB, zC, reduceIte, zD, zE, zF, zG, zH, zI, reduceCtorEq, zJ, zK, zL, zM, zN, zO, zP]
  refine among_loop hs s 0 rfl (Nat.zero_le _) (fun hh σ k1 k2 => ?_) (fun hh σ k1 k2 k3 => ?_)
  · rw [hh] at h
    simp only [go_sem, zA, zB, zC, reduceIte, zD, zE, zF, zG, zH, zI, reduceCtorEq, zJ, zK, zL, zM, zN, zO, zP, k1, k2]
    exact h
  · rw [hh] at h
    simp only [go_sem, zA, zB, zC, reduceIte, zD, zE, zF, zG, zH, zI, reduceCtorEq, zJ, zK, zL, zM, zN, zO, zP, k1, k2, k3]
    exact h
def scalB (r : Int) : Bool := decide (0 ≤ r) && decide (r ≤ 1114111) && (decide (r < 55296) || decide (57343 < r))
theorem g_Scalar {r : Int} {H : Heap} {Q : End → Heap → Prop} (h : Q (.ret (.bool (scalB r))) H) : wpf ⟨bt.get, o⟩ F_goboref3_Scalar [.int .i32 r] H Q := by
  rw [fn_goboref3_Scalar (ho _ _ _ (by decide))]
  unfold scalB at h
  by_cases h1 : 0 ≤ r
  · by_cases h2 : r ≤ 1114111
    · by_cases h3 : r < 55296
      · simp only [bd_goboref3_Scalar, go_sem, zA, zB, zC, reduceIte, zD, zE, zF, zG, zH, zI, reduceCtorEq, zJ, zK, zL, zM, zN, zO, zP, h1, h2, h3]
        simpa [h1, h2, h3] using h
      · by_cases h4 : 57343 < r
        · simp only [bd_goboref3_Scalar, go_sem, zA, zB, zC, reduceIte, zD, zE, zF, zG, zH, zI, reduceCtorEq, zJ, zK, zL, zM, zN, zO, zP, h1, h2, h3, h4]
          simpa [h1, h2, h3, h4] using h
        · simp only [bd_goboref3_Scalar, go_sem, zA, zB, zC, reduceIte, zD, zE, zF, zG, zH, zI, reduceCtorEq, zJ, zK, zL, zM, zN, zO, zP, h1, h2, h3, h4]
          simpa [h1, h2, h3, h4] using h
    · simp only [bd_goboref3_Scalar, go_sem, zA, zB, zC, reduceIte, zD, zE, zF, zG, zH, zI, reduceCtorEq, zJ, zK, zL, zM, zN, zO, zP, h1, h2]
      simpa [h1, h2] using h
  · simp only [bd_goboref3_Scalar, go_sem, zA, zB, zC, reduceIte, zD, zE, zF, zG, zH, zI, reduceCtorEq, zJ, zK, zL, zM, zN, zO, zP, h1]
    simpa [h1] using h
theorem g_Not {l : List R} {v : AV} {rb : Nat} (hl : l.length ≤ 50000) (hr : ∀ r ∈ l, I32 r.lo ∧ I32 r.hi) {H : Heap} (hR : Rd H 2 (rcells l) l.length v rb) {Q : End → Heap → Prop}
    (hQ : ∀ H' v', Ext H.size H H' → Sl H.size H' 2 (rcells (notF l)) (notF l).length v' → Q (.ret v') H') : wpf ⟨bt.get, o⟩ F_goboref3_Not [v] H Q := by
  rw [fn_goboref3_Not (ho _ _ _ (by decide))]
  simp only [bd_goboref3_Not, go_sem, zA, zB, zC, reduceIte, zD, zE, zF, zG, zH, zI, reduceCtorEq, zJ, zK, zL, zM, zN, zO, zP]
  refine g_cells ho (by omega) hr hR fun H1 v1 k1 k2 => ?_
  obtain ⟨b, hR1, _⟩ := k2.rd
  simp only [go_sem, zA, zB, zC, reduceIte, zD, zE, zF, zG, zH, zI, reduceCtorEq, zJ, zK, zL, zM, zN, zO, zP]
  have hpl : (preL l).length ≤ l.length := List.length_filterMap_le _ _
  refine g_pick ho (is := fun n => !inG (preL l) n) (by omega) (.inr ⟨rfl, fun _ => rfl⟩) preL_most hR1 fun H2 v2 k3 k4 => ?_
  rw [pick_not] at k4
  simp only [go_sem, zA, zB, zC, reduceIte, zD, zE, zF, zG, zH, zI, reduceCtorEq, zJ, zK, zL, zM, zN, zO, zP]
  exact hQ _ _ (k1.trans (k3.le k1.1)) (k4.frame' k1.1)
end
/- goboref11: the reader E, escapes, members. -/
set_option maxRecDepth 8000
theorem scal_big {x : Int} (h : 1114111 < x) : scalB x = false := by
  have : ¬ x ≤ 1114111 := by omega
  simp [scalB, this]
theorem peekB_hex (its : List It) (q : Nat) : hexR (peekB its 0 q) = hexR (peekR its q) := by
  unfold peekB
  rw [if_pos rfl]
  split
  · rename_i h; rw [h] <;> rfl
  · rfl
section
variable {o : CallF} (ho : OvOnly o)
include ho
theorem e_num_loop {b : Nat} {its : List It} {e : Nat} {iv : AV} {ib : Nat} {wh : Int} {H0 : Heap} {Q : Ctl → St → Prop} : ∀ (m d n q : Nat) (H : Heap), d + m = 6 → n ≤ 1114111 → ErS b H its e q 0 wh iv ib → Fr b .nils H0 H →
    (∀ (H' : Heap) x t, Fr b .nils H0 H' → ErS b H' its e (numGo its m d n q).2.2 0 wh iv ib → Q (.exit 1) { p := (0, .ptr b 0) :: (4, .int .i32 ((numGo its m d n q).2.1 : Int)) :: (5, .int .i64 ((numGo its m d n q).1 : Int)) :: x, t := t, H := H', d := [], u := .norm }) →
    wpl ⟨bt.get, o⟩ [0, 4, 5] lb_goboref11_E_escape_0 { p := [(0, .ptr b 0), (4, .int .i32 (n : Int)), (5, .int .i64 (d : Int))], t := [], H := H, d := [], u := .norm } Q
  | 0, d, n, q, H, hd, hn, hR, hf, hQ => by
    rw [wpl_step]
    have h1 : ¬ ((d : Int) < 6) := by omega
    simp only [lb_goboref11_E_escape_0, go_sem, zA, zB, zC, reduceIte, zD, zE, zF, zG, zH, zI, reduceCtorEq, zJ, zK, zL, zM, zN, zO, zP, h1]
    exact hQ H _ _ hf hR
  | m + 1, d, n, q, H, hd, hn, hR, hf, hQ => by
    rw [wpl_step]
    have h1 : ((d : Int) < 6) := by omega
    have hx := hex_lt (peekR its q)
    have hph := peekB_hex its q
    simp only [lb_goboref11_E_escape_0, go_sem, zA, zB, zC, reduceIte, zD, zE, zF, zG, zH, zI, reduceCtorEq, zJ, zK, zL, zM, zN, zO, zP, h1]
    refine e_peek ho hR ?_
    -- behind the choice of the digit
    have key : ∀ (x : Int) t, x = hexR (peekR its q) → wpc ⟨bt.get, o⟩ (seqR (seqR (match lb_goboref11_E_escape_0 with | .seq _ (.block _ _ c) => c | _ => .skip))) { p := (0, .ptr b 0) :: (4, .int .i32 (n : Int)) :: (5, .int .i64 (d : Int)) :: [(6, .int .i32 x)], t := t, H := H, d := [], u := .norm } (blockK 2 [0, 4, 5] (loopK ⟨bt.get, o⟩ [0, 4, 5] lb_goboref11_E_escape_0 Q)) := by
      intro x t hxe
      subst hxe
      have w1 : IntKind.i32.wrap ((n : Int) * 16) = (n : Int) * 16 := wi32 (by omega) (by omega)
      have w2 : IntKind.i32.wrap ((n : Int) * 16 + hexR (peekR its q)) = (n : Int) * 16 + hexR (peekR its q) := wi32 (by omega) (by omega)
      by_cases c1 : hexR (peekR its q) < 0
      · have e0 : numGo its (m + 1) d n q = (d, n, q) := by simp only [numGo, c1, true_or, if_true]
        rw [e0] at hQ
        simp only [lb_goboref11_E_escape_0, seqR, go_sem, zA, zB, zC, reduceIte, zD, zE, zF, zG, zH, zI, reduceCtorEq, zJ, zK, zL, zM, zN, zO, zP, c1]
        exact hQ H _ _ hf hR
      · by_cases c2 : 1114111 < (n : Int) * 16 + hexR (peekR its q)
        · have e0 : numGo its (m + 1) d n q = (d, n, q) := by simp only [numGo, c2, or_true, if_true]
          rw [e0] at hQ
          simp only [lb_goboref11_E_escape_0, seqR, go_sem, zA, zB, zC, reduceIte, zD, zE, zF, zG, zH, zI, reduceCtorEq, zJ, zK, zL, zM, zN, zO, zP, c1, w1, w2]
          refine g_Scalar ho ?_
          rw [scal_big c2]
          simp only [go_sem, zA, zB, zC, reduceIte, zD, zE, zF, zG, zH, zI, reduceCtorEq, zJ, zK, zL, zM, zN, zO, zP, w1, w2, c2]
          exact hQ H _ _ hf hR
        · have e0 : numGo its (m + 1) d n q = numGo its m (d + 1) (n * 16 + (hexR (peekR its q)).toNat) (q + 1) := by simp only [numGo, c1, c2, or_self, if_false]
          rw [e0] at hQ
          have hp := peek_lt (its := its) (k := q) (hex_pos c1)
          have hsm := hR.sm
          have w3 : (n : Int) * 16 + hexR (peekR its q) = ((n * 16 + (hexR (peekR its q)).toNat : Nat) : Int) := by omega
          have fin : wpl ⟨bt.get, o⟩ [0, 4, 5] lb_goboref11_E_escape_0 { p := [(0, .ptr b 0), (4, .int .i32 ((n : Int) * 16 + hexR (peekR its q))), (5, .int .i64 ((d + 1 : Nat) : Int))], t := [], H := H.set b (.cells [iv, .int .i64 e, .int .i64 ((q + 1 : Nat) : Int), .int .i64 0, .int .i64 wh] .own), d := [], u := .norm } Q := by
            rw [w3]
            exact e_num_loop m (d + 1) _ (q + 1) _ (by omega) (by omega) (hR.set (by omega)) (hf.trans Fr.set) hQ
          simp only [lb_goboref11_E_escape_0, seqR, go_sem, zA, zB, zC, reduceIte, zD, zE, zF, zG, zH, zI, reduceCtorEq, zJ, zK, zL, zM, zN, zO, zP, c1, w1, w2]
          refine g_Scalar ho ?_
          cases hsc : scalB ((n : Int) * 16 + hexR (peekR its q))
          · simp only [go_sem, zA, zB, zC, reduceIte, zD, zE, zF, zG, zH, zI, reduceCtorEq, zJ, zK, zL, zM, zN, zO, zP, w1, w2, c2, hR.get, wsucc (show q ≤ 1000000000 by omega), wsucc (show d ≤ 1000000000 by omega)]
            exact fin
          · simp only [go_sem, zA, zB, zC, reduceIte, zD, zE, zF, zG, zH, zI, reduceCtorEq, zJ, zK, zL, zM, zN, zO, zP, w1, w2, c2, hR.get, wsucc (show q ≤ 1000000000 by omega), wsucc (show d ≤ 1000000000 by omega)]
            exact fin
    rw [← hph] at key
    generalize hpk : peekB its 0 q = c at key ⊢
    by_cases a1 : 48 ≤ c
    · by_cases a2 : c ≤ 57
      · have w : IntKind.i32.wrap (c - 48) = c - 48 := wi32 (by omega) (by omega)
        simp only [go_sem, zB, zC, reduceIte, zD, zE, zF, zG, zH, zI, reduceCtorEq, zJ, zK, zL, zM, zN, zO, zP, a1, a2, w]
        rw [seqK_normal]
        simp only [go_sem, zB, zC, reduceIte, zD, zE, zF, zG, zH, zI, reduceCtorEq, zJ, zK, zL, zM, zN, zO, zP, a1, a2, w]
        rw [seqK_normal]
        simp only [go_sem, zB, zC, reduceIte, zD, zE, zF, zG, zH, zI, reduceCtorEq, zJ, zK, zL, zM, zN, zO, zP, a1, a2, w]
        rw [seqK_normal]
        exact key (c - 48) _ (by simp only [hexR, a1, a2, and_self, if_true])
      · by_cases a3 : 65 ≤ c
        · by_cases a4 : c ≤ 70
          · have w : IntKind.i32.wrap (c - 65) = c - 65 := wi32 (by omega) (by omega)
            have w2 : IntKind.i32.wrap (c - 65 + 10) = c - 55 := by rw [wi32 (by omega) (by omega)]; omega
            simp only [go_sem, zB, zC, reduceIte, zD, zE, zF, zG, zH, zI, reduceCtorEq, zJ, zK, zL, zM, zN, zO, zP, a1, a2, a3, a4, w, w2]
            rw [seqK_normal]
            simp only [go_sem, zB, zC, reduceIte, zD, zE, zF, zG, zH, zI, reduceCtorEq, zJ, zK, zL, zM, zN, zO, zP, a1, a2, a3, a4, w, w2]
            rw [seqK_normal]
            simp only [go_sem, zB, zC, reduceIte, zD, zE, zF, zG, zH, zI, reduceCtorEq, zJ, zK, zL, zM, zN, zO, zP, a1, a2, a3, a4, w, w2]
            rw [seqK_normal]
            simp only [go_sem, zB, zC, reduceIte, zD, zE, zF, zG, zH, zI, reduceCtorEq, zJ, zK, zL, zM, zN, zO, zP, a1, a2, a3, a4, w, w2]
            rw [seqK_normal]
            exact key (c - 55) _ (by simp only [hexR, a1, a2, a3, a4, and_self, and_false, if_true, if_false])
          · simp only [go_sem, zB, zC, reduceIte, zD, zE, zF, zG, zH, zI, reduceCtorEq, zJ, zK, zL, zM, zN, zO, zP, a1, a2, a3, a4]
            rw [seqK_normal]
            simp only [go_sem, zB, zC, reduceIte, zD, zE, zF, zG, zH, zI, reduceCtorEq, zJ, zK, zL, zM, zN, zO, zP, a1, a2, a3, a4]
            rw [seqK_normal]
            simp only [go_sem, zB, zC, reduceIte, zD, zE, zF, zG, zH, zI, reduceCtorEq, zJ, zK, zL, zM, zN, zO, zP, a1, a2, a3, a4]
            rw [seqK_normal]
            simp only [go_sem, zB, zC, reduceIte, zD, zE, zF, zG, zH, zI, reduceCtorEq, zJ, zK, zL, zM, zN, zO, zP, a1, a2, a3, a4]
            rw [seqK_normal]
            exact key (-1) _ (by simp only [hexR, a1, a2, a3, a4, and_false, if_false])
        · simp only [go_sem, zB, zC, reduceIte, zD, zE, zF, zG, zH, zI, reduceCtorEq, zJ, zK, zL, zM, zN, zO, zP, a1, a2, a3]
          rw [seqK_normal]
          simp only [go_sem, zB, zC, reduceIte, zD, zE, zF, zG, zH, zI, reduceCtorEq, zJ, zK, zL, zM, zN, zO, zP, a1, a2, a3]
          rw [seqK_normal]
          simp only [go_sem, zB, zC, reduceIte, zD, zE, zF, zG, zH, zI, reduceCtorEq, zJ, zK, zL, zM, zN, zO, zP, a1, a2, a3]
          rw [seqK_normal]
          simp only [go_sem, zB, zC, reduceIte, zD, zE, zF, zG, zH, zI, reduceCtorEq, zJ, zK, zL, zM, zN, zO, zP, a1, a2, a3]
          rw [seqK_normal]
          exact key (-1) _ (by simp only [hexR, a1, a2, a3, and_false, false_and, if_false])
    · have a3 : ¬ 65 ≤ c := by omega
      simp only [go_sem, zB, zC, reduceIte, zD, zE, zF, zG, zH, zI, reduceCtorEq, zJ, zK, zL, zM, zN, zO, zP, a1, a3]
      rw [seqK_normal]
      simp only [go_sem, zB, zC, reduceIte, zD, zE, zF, zG, zH, zI, reduceCtorEq, zJ, zK, zL, zM, zN, zO, zP, a1, a3]
      rw [seqK_normal]
      simp only [go_sem, zB, zC, reduceIte, zD, zE, zF, zG, zH, zI, reduceCtorEq, zJ, zK, zL, zM, zN, zO, zP, a1, a3]
      rw [seqK_normal]
      simp only [go_sem, zB, zC, reduceIte, zD, zE, zF, zG, zH, zI, reduceCtorEq, zJ, zK, zL, zM, zN, zO, zP, a1, a3]
      rw [seqK_normal]
      exact key (-1) _ (by simp only [hexR, a1, a3, false_and, if_false])
end
/- goboref11: escapes, members, classes. -/
set_option maxRecDepth 8000
theorem peekB_or (its : List It) (k : Nat) : peekB its 0 k = peekR its k ∨ (peekB its 0 k < 0 ∧ peekR its k < 0) := by
  unfold peekB
  rw [if_pos rfl]
  split
  · right; omega
  · exact .inl rfl
theorem hasR_peekB (s : List UInt8) (its : List It) (k : Nat) : hasR s (peekB its 0 k) = hasR s (peekR its k) := by
  rcases peekB_or its k with h | ⟨h1, h2⟩
  · rw [h]
  · rw [hasR_neg h1, hasR_neg h2]
theorem scal_no {n : Nat} (h : 55296 ≤ n ∧ n ≤ 57343) : scalB (n : Int) = false := by
  have h1 : ¬ (n : Int) < 55296 := by omega
  have h2 : ¬ 57343 < (n : Int) := by omega
  simp [scalB, h1, h2]
theorem scal_ok {n : Nat} (hn : n ≤ 1114111) (h : ¬ (55296 ≤ n ∧ n ≤ 57343)) : scalB (n : Int) = true := by
  have h1 : (0 : Int) ≤ (n : Int) := by omega
  have h2 : (n : Int) ≤ 1114111 := by omega
  simp only [scalB, h1, h2, decide_true, Bool.true_and]
  by_cases h3 : (n : Int) < 55296
  · simp [h3]
  · have h4 : (57343 : Int) < (n : Int) := by omega
    simp [h4]
def badE : List UInt8 := [47, 124, 42, 40, 41, 91, 93, 92, 45]
theorem hasR_badE {r : Int} (h : r ≠ 92) : hasR badE r = hasR (badS true) r := by
  have e : ∀ l m : List UInt8, hasR (l ++ m) r = (hasR l r || hasR m r) := fun l m => List.any_append
  have h1 : badE = [47, 124, 42, 40, 41, 91, 93] ++ ([92] ++ [45]) := rfl
  have h2 : badS true = [47, 124, 42, 40, 41, 91, 93] ++ [45] := rfl
  have h3 : hasR [92] r = false := by
    simp only [hasR, List.any_cons, List.any_nil, Bool.or_false, decide_eq_false_iff_not]
    intro h'; exact h h'.symm
  rw [h1, h2, e, e, e, h3, Bool.false_or]
section
variable {o : CallF} (ho : OvOnly o)
include ho
theorem e_escape {b H its e k wh iv ib} (hR : ErS b H its e k 0 wh iv ib) {Q : End → Heap → Prop}
    (hF : ∀ a, escR its e k = .error a → ∀ H' k', Fr b .nils H H' → ErS b H' its e k' 3 (a : Nat) iv ib → Q (.ret (.int .i32 0)) H') (hT : ∀ r k', escR its e k = .ok (r, k') → ∀ H', Fr b .nils H H' → ErS b H' its e k' 0 wh iv ib → Q (.ret (.int .i32 r)) H') : wpf ⟨bt.get, o⟩ F_goboref11_E_escape [.ptr b 0] H Q := by
  rw [fn_goboref11_E_escape (ho _ _ _ (by decide))]
  simp only [bd_goboref11_E_escape, go_sem, zA, zB, zC, reduceIte, zD, zE, zF, zG, zH, zI, reduceCtorEq, zJ, zK, zL, zM, zN, zO, zP]
  refine e_peek ho hR ?_
  have hg := hR.get
  have hle := hR.le
  have hsm := hR.sm
  have pe : ∀ c : Int, 0 ≤ c → (peekB its 0 k = c ↔ peekR its k = c) := fun c hc => by rw [peekB_eq hc]; simp
  have kw := wsucc (show k ≤ 1000000000 by omega)
  have fold : ([47, 124, 42, 40, 41, 91, 93, 92, 46, 45, 94, 123, 125] : List UInt8) = escS := rfl
  have one : ∀ r, k < its.length → escR its e k = .ok (r, k + 1) → Q (.ret (.int .i32 r)) (H.set b (.cells [iv, .int .i64 e, .int .i64 ((k + 1 : Nat) : Int), .int .i64 0, .int .i64 wh] .own)) := fun r hk h => hT r (k + 1) h _ Fr.set (hR.set (by omega))
  by_cases d1 : peekB its 0 k = 110
  · have r1 := (pe 110 (by omega)).1 d1
    simp only [go_sem, zA, zB, zC, reduceIte, zD, zE, zF, zG, zH, zI, reduceCtorEq, zJ, zK, zL, zM, zN, zO, zP, d1, hg, kw]
    exact one 10 (peek_lt (by omega)) (by rw [escR, if_pos r1])
  have r1 := fun h => d1 ((pe 110 (by omega)).2 h)
  by_cases d2 : peekB its 0 k = 114
  · have r2 := (pe 114 (by omega)).1 d2
    have z1 : ¬ (114 : Int) = 110 := by omega
    simp only [go_sem, zA, zB, zC, reduceIte, zD, zE, zF, zG, zH, zI, reduceCtorEq, zJ, zK, zL, zM, zN, zO, zP, d2, z1, hg, kw]
    exact one 13 (peek_lt (by omega)) (by rw [escR, if_neg r1, if_pos r2])
  have r2 := fun h => d2 ((pe 114 (by omega)).2 h)
  by_cases d3 : peekB its 0 k = 116
  · have r3 := (pe 116 (by omega)).1 d3
    have z1 : ¬ (116 : Int) = 110 := by omega
    have z2 : ¬ (116 : Int) = 114 := by omega
    simp only [go_sem, zA, zB, zC, reduceIte, zD, zE, zF, zG, zH, zI, reduceCtorEq, zJ, zK, zL, zM, zN, zO, zP, d3, z1, z2, hg, kw]
    exact one 9 (peek_lt (by omega)) (by rw [escR, if_neg r1, if_neg r2, if_pos r3])
  have r3 := fun h => d3 ((pe 116 (by omega)).2 h)
  simp only [go_sem, zA, zB, zC, reduceIte, zD, zE, zF, zG, zH, zI, reduceCtorEq, zJ, zK, zL, zM, zN, zO, zP, d1, d2, d3, fold]
  refine e_among ho (by decide) ?_
  have hh := hasR_peekB escS its k
  cases d4 : hasR escS (peekB its 0 k)
  case true =>
    rw [d4] at hh
    have hneg : ¬ peekR its k < 0 := fun h => by rw [hasR_neg h] at hh; cases hh
    have hpe : peekB its 0 k = peekR its k := by
      rcases peekB_or its k with h | ⟨_, h⟩
      · exact h
      · omega
    have h117 : ¬ peekR its k = 117 := fun h => by rw [h] at hh; revert hh; decide
    simp only [go_sem, zA, zB, zC, reduceIte, zD, zE, zF, zG, zH, zI, reduceCtorEq, zJ, zK, zL, zM, zN, zO, zP, hg, kw, hpe]
    exact one _ (peek_lt (by omega)) (by rw [escR, if_neg r1, if_neg r2, if_neg r3, if_neg h117, if_neg (by rw [← hh]; simp; omega)])
  rw [d4] at hh
  by_cases d5 : peekB its 0 k = 117
  case neg =>
    have r5 := fun h => d5 ((pe 117 (by omega)).2 h)
    simp only [go_sem, zA, zB, zC, reduceIte, zD, zE, zF, zG, zH, zI, reduceCtorEq, zJ, zK, zL, zM, zN, zO, zP, d5]
    refine e_fail ho hR fun H1 f1 R1 => ?_
    simp only [go_sem, zA, zB, zC, reduceIte, zD, zE, zF, zG, zH, zI, reduceCtorEq, zJ, zK, zL, zM, zN, zO, zP]
    exact hF _ (by rw [escR, if_neg r1, if_neg r2, if_neg r3, if_neg r5, if_pos (.inr hh.symm)]) _ _ f1 R1
  have r5 := (pe 117 (by omega)).1 d5
  have hk := peek_lt (its := its) (k := k) (by omega)
  have e0 : escR its e k = numR its e (k + 1) := by rw [escR, if_neg r1, if_neg r2, if_neg r3, if_pos r5]
  rw [e0] at hF hT
  simp only [go_sem, zA, zB, zC, reduceIte, zD, zE, zF, zG, zH, zI, reduceCtorEq, zJ, zK, zL, zM, zN, zO, zP, d5, hg, kw]
  have R0 := hR.set (k' := k + 1) (bad' := 0) (wh' := wh) (by omega)
  have F0 : Fr b .nils H (H.set b (.cells [iv, .int .i64 e, .int .i64 ((k + 1 : Nat) : Int), .int .i64 0, .int .i64 wh] .own)) := Fr.set
  generalize H.set b (.cells [iv, .int .i64 e, .int .i64 ((k + 1 : Nat) : Int), .int .i64 0, .int .i64 wh] .own) = H0 at R0 F0 ⊢
  refine e_take ho (by omega) R0 (fun hp => ?_) (fun _ hp H1 f1 R1 => ?_)
  · have hp' : peekR its (k + 1) ≠ 123 := fun h => hp ((peekB_eq (by omega)).2 ⟨rfl, h⟩)
    simp only [go_sem, zA, zB, zC, reduceIte, zD, zE, zF, zG, zH, zI, reduceCtorEq, zJ, zK, zL, zM, zN, zO, zP]
    refine e_fail ho R0 fun H1 f1 R1 => ?_
    simp only [go_sem, zA, zB, zC, reduceIte, zD, zE, zF, zG, zH, zI, reduceCtorEq, zJ, zK, zL, zM, zN, zO, zP]
    exact hF _ (by simp only [numR, ne_eq, hp', not_false_eq_true, if_true]) _ _ (F0.trans f1) R1
  · simp only [go_sem, zA, zB, zC, reduceIte, zD, zE, zF, zG, zH, zI, reduceCtorEq, zJ, zK, zL, zM, zN, zO, zP]
    have en : numR its e (k + 1) = (if (numGo its 6 0 0 (k + 1 + 1)).1 = 0 ∨ peekR its (numGo its 6 0 0 (k + 1 + 1)).2.2 ≠ 125 ∨ (55296 ≤ (numGo its 6 0 0 (k + 1 + 1)).2.1 ∧ (numGo its 6 0 0 (k + 1 + 1)).2.1 ≤ 57343) then .error (atR its e (numGo its 6 0 0 (k + 1 + 1)).2.2) else .ok (((numGo its 6 0 0 (k + 1 + 1)).2.1 : Int), (numGo its 6 0 0 (k + 1 + 1)).2.2 + 1)) := by
      simp only [numR, ne_eq, hp, not_true_eq_false, if_false]
    have hbd := numGo_bd its 6 0 0 (k + 1 + 1) (by omega) R1.le
    refine e_num_loop ho 6 0 0 (k + 1 + 1) H1 rfl (by omega) R1 (F0.trans f1) fun H2 x t f2 R2 => ?_
    generalize hgg : numGo its 6 0 0 (k + 1 + 1) = g at en hbd R2 ⊢
    obtain ⟨d, n, q⟩ := g
    simp only at en hbd R2 ⊢
    by_cases c1 : d = 0
    · have c1' : (d : Int) = 0 := by omega
      simp only [go_sem, zA, zB, zC, reduceIte, zD, zE, zF, zG, zH, zI, reduceCtorEq, zJ, zK, zL, zM, zN, zO, zP, c1']
      refine e_fail ho R2 fun H3 f3 R3 => ?_
      simp only [go_sem, zA, zB, zC, reduceIte, zD, zE, zF, zG, zH, zI, reduceCtorEq, zJ, zK, zL, zM, zN, zO, zP]
      exact hF _ (by rw [en, if_pos (.inl c1)]) _ _ (f2.trans f3) R3
    · have c1' : ¬ (d : Int) = 0 := by omega
      simp only [go_sem, zA, zB, zC, reduceIte, zD, zE, zF, zG, zH, zI, reduceCtorEq, zJ, zK, zL, zM, zN, zO, zP, c1']
      refine e_peek ho R2 ?_
      by_cases c2 : peekB its 0 q = 125
      · have p2 := ((peekB_eq (its := its) (bad := 0) (k := q) (c := 125) (by omega)).1 c2).2
        simp only [go_sem, zA, zB, zC, reduceIte, zD, zE, zF, zG, zH, zI, reduceCtorEq, zJ, zK, zL, zM, zN, zO, zP, c2]
        refine g_Scalar ho ?_
        by_cases c3 : 55296 ≤ n ∧ n ≤ 57343
        · rw [scal_no c3]
          simp only [go_sem, zA, zB, zC, reduceIte, zD, zE, zF, zG, zH, zI, reduceCtorEq, zJ, zK, zL, zM, zN, zO, zP]
          refine e_fail ho R2 fun H3 f3 R3 => ?_
          simp only [go_sem, zA, zB, zC, reduceIte, zD, zE, zF, zG, zH, zI, reduceCtorEq, zJ, zK, zL, zM, zN, zO, zP]
          exact hF _ (by rw [en, if_pos (.inr (.inr c3))]) _ _ (f2.trans f3) R3
        · rw [scal_ok hbd.1 c3]
          have hq := peek_lt (its := its) (k := q) (by omega)
          have hsm2 := R2.sm
          simp only [go_sem, zA, zB, zC, reduceIte, zD, zE, zF, zG, zH, zI, reduceCtorEq, zJ, zK, zL, zM, zN, zO, zP, R2.get, wsucc (show q ≤ 1000000000 by omega)]
          exact hT _ _ (by rw [en, if_neg (by omega)]) _ (f2.trans Fr.set) (R2.set (by omega))
      · have p2 : peekR its q ≠ 125 := fun h => c2 ((peekB_eq (by omega)).2 ⟨rfl, h⟩)
        simp only [go_sem, zA, zB, zC, reduceIte, zD, zE, zF, zG, zH, zI, reduceCtorEq, zJ, zK, zL, zM, zN, zO, zP, c2]
        refine e_fail ho R2 fun H3 f3 R3 => ?_
        simp only [go_sem, zA, zB, zC, reduceIte, zD, zE, zF, zG, zH, zI, reduceCtorEq, zJ, zK, zL, zM, zN, zO, zP]
        exact hF _ (by rw [en, if_pos (.inr (.inl p2))]) _ _ (f2.trans f3) R3
theorem e_member {b H its e k wh iv ib} (hR : ErS b H its e k 0 wh iv ib) {Q : End → Heap → Prop}
    (hF : ∀ a, runeR its e true k = .error a → ∀ H' k', Fr b .nils H H' → ErS b H' its e k' 3 (a : Nat) iv ib → Q (.ret (.int .i32 0)) H') (hT : ∀ r k', runeR its e true k = .ok (r, k') → ∀ H', Fr b .nils H H' → ErS b H' its e k' 0 wh iv ib → Q (.ret (.int .i32 r)) H') : wpf ⟨bt.get, o⟩ F_goboref11_E_member [.ptr b 0] H Q := by
  rw [fn_goboref11_E_member (ho _ _ _ (by decide))]
  simp only [bd_goboref11_E_member, go_sem, zA, zB, zC, reduceIte, zD, zE, zF, zG, zH, zI, reduceCtorEq, zJ, zK, zL, zM, zN, zO, zP]
  refine e_take ho (by omega) hR (fun hp => ?_) (fun _ hp H1 f1 R1 => ?_)
  · have hp' : peekR its k ≠ 92 := fun h => hp ((peekB_eq (by omega)).2 ⟨rfl, h⟩)
    simp only [go_sem, zA, zB, zC, reduceIte, zD, zE, zF, zG, zH, zI, reduceCtorEq, zJ, zK, zL, zM, zN, zO, zP]
    refine e_peek ho hR ?_
    have hne := hR.sm
    have fold : ([47, 124, 42, 40, 41, 91, 93, 92, 45] : List UInt8) = badE := rfl
    by_cases c1 : peekB its 0 k < 32
    · have c1' : peekR its k < 32 := by rcases peekB_or its k with h | ⟨_, h⟩ <;> omega
      simp only [go_sem, zA, zB, zC, reduceIte, zD, zE, zF, zG, zH, zI, reduceCtorEq, zJ, zK, zL, zM, zN, zO, zP, c1]
      refine e_fail ho hR fun H1 f1 R1 => ?_
      simp only [go_sem, zA, zB, zC, reduceIte, zD, zE, zF, zG, zH, zI, reduceCtorEq, zJ, zK, zL, zM, zN, zO, zP]
      exact hF _ (by rw [runeR, if_pos (.inl c1')]) _ _ f1 R1
    · have hpe : peekB its 0 k = peekR its k := by
        rcases peekB_or its k with h | ⟨h, _⟩
        · exact h
        · omega
      rw [hpe] at c1 ⊢
      simp only [go_sem, zA, zB, zC, reduceIte, zD, zE, zF, zG, zH, zI, reduceCtorEq, zJ, zK, zL, zM, zN, zO, zP, c1, fold]
      refine e_among ho (by decide) ?_
      rw [hasR_badE hp']
      cases c2 : hasR (badS true) (peekR its k)
      · have hk := peek_lt (its := its) (k := k) (by omega)
        simp only [go_sem, zA, zB, zC, reduceIte, zD, zE, zF, zG, zH, zI, reduceCtorEq, zJ, zK, zL, zM, zN, zO, zP, hR.get, wsucc (show k ≤ 1000000000 by omega)]
        exact hT _ _ (by rw [runeR, if_neg (by rw [c2]; simp; omega), if_pos hp']) _ Fr.set (hR.set (by omega))
      · simp only [go_sem, zA, zB, zC, reduceIte, zD, zE, zF, zG, zH, zI, reduceCtorEq, zJ, zK, zL, zM, zN, zO, zP]
        refine e_fail ho hR fun H1 f1 R1 => ?_
        simp only [go_sem, zA, zB, zC, reduceIte, zD, zE, zF, zG, zH, zI, reduceCtorEq, zJ, zK, zL, zM, zN, zO, zP]
        exact hF _ (by rw [runeR, if_pos (.inr c2)]) _ _ f1 R1
  · simp only [go_sem, zA, zB, zC, reduceIte, zD, zE, zF, zG, zH, zI, reduceCtorEq, zJ, zK, zL, zM, zN, zO, zP]
    have er : runeR its e true k = escR its e (k + 1) := by
      rw [runeR, if_neg (by rw [hp]; decide), if_neg (by simp [hp]), escR]
    rw [er] at hF hT
    refine e_escape ho R1 (fun a ha H2 k2 f2 R2 => ?_) (fun r k2 ha H2 f2 R2 => ?_)
    · simp only [go_sem, zA, zB, zC, reduceIte, zD, zE, zF, zG, zH, zI, reduceCtorEq, zJ, zK, zL, zM, zN, zO, zP]
      exact hF a ha H2 k2 (f1.trans f2) R2
    · simp only [go_sem, zA, zB, zC, reduceIte, zD, zE, zF, zG, zH, zI, reduceCtorEq, zJ, zK, zL, zM, zN, zO, zP]
      exact hT r k2 ha H2 (f1.trans f2) R2
end
/- What the reader's Class and word.Class come to. -/
set_option maxRecDepth 8000
theorem valN_bd {n : Nat} (h : n ≤ 1112065) : I32 (valN n : Int) := by
  unfold valN I32
  split <;> omega
theorem rngF_bd {l : List S} (h : ∀ x ∈ l, x.1 ≤ 1112065 ∧ x.2 ≤ 1112065) : ∀ r ∈ rngF l, I32 r.lo ∧ I32 r.hi := by
  intro r hr
  obtain ⟨x, hx, rfl⟩ := List.mem_map.1 hr
  have := h x hx
  exact ⟨valN_bd this.1, valN_bd (by omega)⟩
theorem normF_bd (l : List R) : (normF l).length ≤ l.length ∧ ∀ r ∈ normF l, I32 r.lo ∧ I32 r.hi := by
  obtain ⟨h1, h2⟩ := spansF_bd l
  exact ⟨by simpa [normF, rngF] using h1, rngF_bd h2⟩
theorem notF_len (l : List R) : (notF l).length ≤ l.length + 1 := by
  obtain ⟨s1, s2⟩ := spansF_bd l
  have hsa : apart 0 (spansF l) := (mF_spec (l := srtS (preL l)) (fun x hx => preL_ok x (srtS_mem.1 hx)) (srtS_sorted _)).1
  obtain ⟨b1, b2⟩ := gapsF_bd (k := 0) (by omega) hsa s2
  simp only [notF, rngF, List.length_map]
  omega
section
variable {o : CallF} (ho : OvOnly o)
include ho
theorem k_Class {b : Nat} {H : Heap} {its : List It} {e k : Nat} {endc : Int} {iv : AV} {ib : Nat} (hs : Sm its) (hl : its.length ≤ 49990) (hc : bigC its e endc k = false) (hR : RdrS b H its e k iv ib) {Q : End → Heap → Prop}
    (hF : ∀ a, classR its e endc k = .error a → ∀ H', Fr2 b b H.size H H' → Q (.pan [(faultA 3 a, false)]) H')
    (hT : ∀ l k2, classR its e endc k = .ok (l, k2) → ∀ H' v, Fr2 b b H.size H H' → RdrS b H' its e k2 iv ib → Sl H.size H' 2 (rcells l) l.length v → l.length ≤ 50010 → Q (.ret v) H') : wpf ⟨bt.get, o⟩ F_word_Reader_Class [.ptr b 0, .int .i32 endc] H Q := by
  rw [fn_word_Reader_Class (ho _ _ _ (by decide))]
  have hb : b < H.size := hR.lt
  have hi : 0 < its.length → ib < H.size := fun h => hR.rd.lt h
  -- behind the sign
  have rest : ∀ (neg : Bool) (k1 : Nat) (H1 : Heap) t, neg = decide (peekR its k = 94) → k1 = (if peekR its k = 94 then k + 1 else k) → Fr b .nils H H1 → RdrS b H1 its e k1 iv ib →
      wpc ⟨bt.get, o⟩ (seqR (seqR (seqR bd_word_Reader_Class))) { p := [(0, .ptr b 0), (1, .int .i32 endc), (4, .nils), (5, .nils), (6, .bool neg)], t := t, H := H1, d := [], u := .norm } (finK ⟨bt.get, o⟩ [.slot 4] Q) := by
    intro neg k1 H1 t hneg hk1 f1 R1
    have g1 : Fr2 b b H.size H H1 := ⟨f1.1, fun c h1 h2 _ => f1.2 c h1 h2 (fun _ _ _ e => by cases e)⟩
    simp only [bd_word_Reader_Class, seqR, go_sem, zA, zB, zC, reduceIte, zD, zE, zF, zG, zH, zI, reduceCtorEq, zJ, zK, zL, zM, zN, zO, zP]
    refine cl_loop ho hs hb hi (H0 := H) (its.length + 1) [] k1 .nils H1 (by omega) (Nat.zero_le _) (fun r hr => by cases hr) R1 f1.1 Sl.nil g1 (fun a ha σ f2 d2 => ?_) (fun l k2 ha hll hlr H2 lv x t f2 n2 R2 S2 => ?_)
    · simp only [go_sem, zA, zB, zC, reduceIte, zD, zE, zF, zG, zH, zI, reduceCtorEq, zJ, zK, zL, zM, zN, zO, zP, d2]
      exact hF a (by simp only [classR, ← hk1, ha]) _ f2
    · have hk2 := R2.le
      have hcl : l.length ≤ capN := by
        simp only [bigC, ← hk1, ha, decide_eq_false_iff_not] at hc
        omega
      have hcap := capN_le
      obtain ⟨rb, RL, _⟩ := S2.rd
      obtain ⟨nb1, nb2⟩ := normF_bd l
      simp only [go_sem, zA, zB, zC, reduceIte, zD, zE, zF, zG, zH, zI, reduceCtorEq, zJ, zK, zL, zM, zN, zO, zP]
      refine r_Norm ho (by omega) hlr RL fun H3 v3 x3 s3 => ?_
      have R3 := R2.fr x3
      have g3 : Fr2 b b H.size H H3 := f2.trans ⟨x3.1, fun c h1 _ _ => x3.2 c (by omega)⟩
      have fin : ∀ (s : List R) (H4 : Heap) (v4 : AV) t, s = (if peekR its k = 94 then notF (normF l) else normF l) → s.length ≤ 50010 → Fr2 b b H.size H H4 → RdrS b H4 its e k2 iv ib → Sl H.size H4 2 (rcells s) s.length v4 →
          wpc ⟨bt.get, o⟩ (seqR (seqR (seqR (seqR (seqR bd_word_Reader_Class))))) { p := [(0, .ptr b 0), (5, v4), (6, .bool neg), (46, .bool neg)], t := t, H := H4, d := [], u := .norm } (finK ⟨bt.get, o⟩ [.slot 4] Q) := by
        intro s H4 v4 t hsd hsl f4 R4 S4
        by_cases he : s = []
        · subst he
          have e0 : lenI v4 = some 0 := S4.lenI
          simp only [bd_word_Reader_Class, seqR, go_sem, zA, zB, zC, reduceIte, zD, zE, zF, zG, zH, zI, reduceCtorEq, zJ, zK, zL, zM, zN, zO, zP, e0]
          refine k_At ho R4 ?_
          simp only [go_sem, zA, zB, zC, reduceIte, zD, zE, zF, zG, zH, zI, reduceCtorEq, zJ, zK, zL, zM, zN, zO, zP]
          refine w_Fail ho ?_
          simp only [go_sem, zA, zB, zC, reduceIte, zD, zE, zF, zG, zH, zI, reduceCtorEq, zJ, zK, zL, zM, zN, zO, zP]
          exact hF _ (by simp only [classR, ← hk1, ha, ← hsd, if_true]) _ f4
        · have hz : ¬ (s.length : Int) = 0 := by
            intro h; apply he; exact List.eq_nil_of_length_eq_zero (by omega)
          simp only [bd_word_Reader_Class, seqR, go_sem, zA, zB, zC, reduceIte, zD, zE, zF, zG, zH, zI, reduceCtorEq, zJ, zK, zL, zM, zN, zO, zP, S4.lenI, hz]
          exact hT s k2 (by simp only [classR, ← hk1, ha, ← hsd, if_neg he]) _ _ f4 R4 S4 hsl
      cases neg
      · have hp : ¬ peekR its k = 94 := by simpa using hneg.symm
        simp only [go_sem, zB, zC, reduceIte, zD, zE, zF, zG, zH, zI, reduceCtorEq, zJ, zK, zL, zM, zN, zO, zP]
        rw [seqK_normal]
        simp only [go_sem, zB, zC, reduceIte, zD, zE, zF, zG, zH, zI, reduceCtorEq, zJ, zK, zL, zM, zN, zO, zP]
        rw [seqK_normal]
        simp only [go_sem, zB, zC, reduceIte, zD, zE, zF, zG, zH, zI, reduceCtorEq, zJ, zK, zL, zM, zN, zO, zP]
        exact fin (normF l) H3 v3 _ (by rw [if_neg hp]) (by omega) g3 R3 (s3.frame' n2)
      · have hp : peekR its k = 94 := by simpa using hneg.symm
        simp only [go_sem, zB, zC, reduceIte, zD, zE, zF, zG, zH, zI, reduceCtorEq, zJ, zK, zL, zM, zN, zO, zP]
        rw [seqK_normal]
        simp only [go_sem, zB, zC, reduceIte, zD, zE, zF, zG, zH, zI, reduceCtorEq, zJ, zK, zL, zM, zN, zO, zP]
        rw [seqK_normal]
        simp only [go_sem, zB, zC, reduceIte, zD, zE, zF, zG, zH, zI, reduceCtorEq, zJ, zK, zL, zM, zN, zO, zP]
        obtain ⟨rb2, RN, _⟩ := s3.rd
        refine r_Not ho (by omega) nb2 RN fun H4 v4 x4 s4 => ?_
        simp only [go_sem, zB, zC, reduceIte, zD, zE, zF, zG, zH, zI, reduceCtorEq, zJ, zK, zL, zM, zN, zO, zP]
        have hn3 := notF_len (normF l)
        have hsz3 : H.size ≤ H3.size := Nat.le_trans n2 x3.1
        exact fin (notF (normF l)) H4 v4 _ (by rw [if_pos hp]) (by omega) (g3.trans ⟨x4.1, fun c h1 _ _ => x4.2 c (by omega)⟩) (R3.fr x4) (s4.frame' hsz3)
  simp only [bd_word_Reader_Class, go_sem, zA, zB, zC, reduceIte, zD, zE, zF, zG, zH, zI, reduceCtorEq, zJ, zK, zL, zM, zN, zO, zP]
  refine k_Skip ho (by omega) hR (fun hp => ?_) (fun hp H1 f1 R1 => ?_)
  · simp only [go_sem, zB, zC, reduceIte, zD, zE, zF, zG, zH, zI, reduceCtorEq, zJ, zK, zL, zM, zN, zO, zP]
    exact rest false k H _ (by simp [hp]) (by rw [if_neg hp]) Fr.refl hR
  · simp only [go_sem, zB, zC, reduceIte, zD, zE, zF, zG, zH, zI, reduceCtorEq, zJ, zK, zL, zM, zN, zO, zP]
    exact rest true (k + 1) H1 _ (by simp [hp]) (by rw [if_pos hp]) f1 R1
omit ho in
theorem decR_le (l : List UInt8) : decR l ≤ 2097151 := by
  unfold decR
  split
  · rename_i a; have := a.toNat_lt; omega
  all_goals omega
omit ho in
theorem afterM_sm (held : List UInt8) (c : UInt8) (at_ : Nat) : ∀ x ∈ (afterM held c at_).2.2, x.rune ≤ 2097151 := by
  intro x hx
  unfold afterM at hx
  split at hx
  · simp at hx; rw [hx]; exact decR_le _
  · simp at hx
omit ho in
theorem feedD_sm : ∀ (r held : List UInt8) (at_ : Nat), ∀ x ∈ (feedD r held at_).2.2, x.rune ≤ 2097151
  | [], _, _, x, hx => by simp [feedD] at hx
  | c :: r, held, at_, x, hx => by
    simp only [feedD, List.mem_append] at hx
    rcases hx with hx | hx
    · have t0 : ∀ x ∈ (take0 c (at_ + held.length)).2.2, x.rune ≤ 2097151 := by
        intro x hx
        unfold take0 at hx
        split at hx
        · exact afterM_sm _ _ _ x hx
        · simp at hx; rw [hx]; simp
      unfold takeB at hx
      split at hx
      · exact afterM_sm _ _ _ x hx
      · split at hx
        · simp at hx; rw [hx]; simp
        · rcases List.mem_cons.1 hx with hx | hx
          · rw [hx]; simp
          · exact t0 x hx
    · exact feedD_sm r _ _ x hx
omit ho in
theorem decAll_sm (s : List UInt8) : Sm (decAll s) := by
  intro x hx
  rcases List.mem_append.1 hx with hx | hx
  · exact feedD_sm _ _ _ x hx
  · unfold closeD at hx
    split at hx
    · cases hx
    · simp at hx; rw [hx]; simp
end
end Go.Ev
