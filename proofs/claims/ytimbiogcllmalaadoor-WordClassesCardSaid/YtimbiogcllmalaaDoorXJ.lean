/- Several texts of this claim, joined. -/
import Derived.Test.YtimbiogcllmalaaDoorXE
import Derived.Test.YtimbiogcllmalaaDoorXH
import Derived.Test.YtimbiogcllmalaaDoorXI

/- The reader of package word: plainly, and what its functions come to. -/
namespace Go.Ev
open Go
set_option linter.unusedSimpArgs false
set_option linter.unusedVariables false
set_option maxRecDepth 8000

theorem dec_ascii {s : List UInt8} {pos : Nat} {c : UInt8} (h : s[pos]? = some c) (hc : c.toNat < 128) : Utf8.decode ⟨s.toArray⟩ pos = (c.toNat, 1) := by
  obtain ⟨h1, h2⟩ := List.getElem?_eq_some_iff.1 h
  have e : (ByteArray.get! ⟨s.toArray⟩ (pos + 0)) = c := by
    show (s.toArray)[pos + 0]! = c
    simp [h]
  simp only [Utf8.decode, e]
  rw [if_pos (by omega)]

theorem icells_fld {l : List It} {i : Nat} {x : It} (h : l[i]? = some x) : (icells l)[i * 5]? = some (.int .i32 x.rune) ∧ (icells l)[i * 5 + 1]? = some (.int .i64 x.frm) ∧ (icells l)[i * 5 + 3]? = some (.bool x.bad) := by
  have h1 := (icells_at h).1
  have g : ∀ j, j < 5 → (icells l)[i * 5 + j]? = x.cells[j]? := by
    intro j hj
    rw [← h1, List.getElem?_take, if_pos hj, List.getElem?_drop]
  exact ⟨g 0 (by omega), g 1 (by omega), g 3 (by omega)⟩

/-- The next rune; -1: none, -2: a bad one. -/
def peekR (its : List It) (k : Nat) : Int := match its[k]? with
  | none => -1
  | some x => if x.bad then -2 else (x.rune : Int)
def atR (its : List It) (e k : Nat) : Nat := match its[k]? with
  | none => e
  | some x => x.frm
def hasR (s : List UInt8) (r : Int) : Bool := s.any fun c => decide ((c.toNat : Int) = r)

section
variable {o : CallF} (ho : OvOnly o)
include ho

omit ho in
theorem k_hasRune_loop {s : List UInt8} (hs : ∀ c ∈ s, c.toNat < 128) {r : Int} {b : Nat} {H0 : Heap} (hb : H0.size ≤ b) {Q : Ctl → St → Prop} : ∀ (q : List UInt8) (pos : Nat) (H : Heap), s.drop pos = q → pos ≤ s.length → H.get b = .siter s pos → Ext H0.size H0 H →
    (hasR q r = true → ∀ (σ : St), Ext H0.size H0 σ.H → σ.d = [] → lk 4 σ.p = some (.bool true) → Q .ret σ) → (hasR q r = false → ∀ (σ : St), Ext H0.size H0 σ.H → σ.d = [] → Q (.exit 0) σ) →
    wpl ⟨bt.get, o⟩ [1, 8] lb_word_hasRune_0 { p := [(1, .int .i32 r), (8, .ptr b 0)], t := [], H := H, d := [], u := .norm } Q
  | [], pos, H, hd, hp, hg, hx, hT, hF => by
    have := at_nil hd
    rw [wpl_step]
    have h1 : ¬ pos < s.length := by omega
    simp only [lb_word_hasRune_0, go_sem, seqK_normal, blockK_normal, blockK_exit, reduceIte, Nat.reduceEqDiff, Nat.reduceAdd, Nat.reduceSub, Nat.reduceMul, Nat.reduceLeDiff, Nat.reduceLT, reduceCtorEq, Int.reduceToNat, Int.reduceLT, Int.reduceLE, Int.reduceEq, Int.reduceAdd, Int.reduceSub, Int.reduceMul, hg, h1]
    exact hF rfl _ hx rfl
  | c :: q, pos, H, hd, hp, hg, hx, hT, hF => by
    obtain ⟨h0, h1, h2⟩ := at_drop hd
    have hlt : b < H.size := Heap.lt_of_get (by rw [hg]; simp)
    rw [wpl_step]
    have ed := dec_ascii h0 (hs c (List.mem_of_getElem? h0))
    simp only [lb_word_hasRune_0, go_sem, seqK_normal, blockK_normal, blockK_exit, reduceIte, Nat.reduceEqDiff, Nat.reduceAdd, Nat.reduceSub, Nat.reduceMul, Nat.reduceLeDiff, Nat.reduceLT, reduceCtorEq, Int.reduceToNat, Int.reduceLT, Int.reduceLE, Int.reduceEq, Int.reduceAdd, Int.reduceSub, Int.reduceMul, hg, h1, ed]
    by_cases hc : (c.toNat : Int) = r
    · simp only [go_sem, seqK_normal, blockK_normal, blockK_exit, reduceIte, Nat.reduceEqDiff, Nat.reduceAdd, Nat.reduceSub, Nat.reduceMul, Nat.reduceLeDiff, Nat.reduceLT, reduceCtorEq, Int.reduceToNat, Int.reduceLT, Int.reduceLE, Int.reduceEq, Int.reduceAdd, Int.reduceSub, Int.reduceMul, hc]
      exact hT (by simp [hasR, hc]) _ (hx.trans (Ext.set hb)) rfl rfl
    · simp only [go_sem, seqK_normal, blockK_normal, blockK_exit, reduceIte, Nat.reduceEqDiff, Nat.reduceAdd, Nat.reduceSub, Nat.reduceMul, Nat.reduceLeDiff, Nat.reduceLT, reduceCtorEq, Int.reduceToNat, Int.reduceLT, Int.reduceLE, Int.reduceEq, Int.reduceAdd, Int.reduceSub, Int.reduceMul, hc]
      have e : hasR (c :: q) r = hasR q r := by simp [hasR, hc]
      rw [e] at hT hF
      exact k_hasRune_loop hs hb q (pos + 1) _ h2 (by omega) (Heap.get_set_self hlt) (hx.trans (Ext.set hb)) hT hF

theorem k_hasRune {s : List UInt8} (hs : ∀ c ∈ s, c.toNat < 128) {r : Int} {H : Heap} {Q : End → Heap → Prop} (h : ∀ H', Ext H.size H H' → Q (.ret (.bool (hasR s r))) H') : wpf ⟨bt.get, o⟩ F_word_hasRune [.str s, .int .i32 r] H Q := by
  rw [fn_word_hasRune (ho _ _ _ (by decide))]
  simp only [bd_word_hasRune, go_sem, seqK_normal, blockK_normal, blockK_exit, reduceIte, Nat.reduceEqDiff, Nat.reduceAdd, Nat.reduceSub, Nat.reduceMul, Nat.reduceLeDiff, Nat.reduceLT, reduceCtorEq, Int.reduceToNat, Int.reduceLT, Int.reduceLE, Int.reduceEq, Int.reduceAdd, Int.reduceSub, Int.reduceMul]
  refine k_hasRune_loop (H0 := H) hs (Nat.le_refl _) s 0 _ rfl (Nat.zero_le _) Heap.get_push_self (Ext.push (Nat.le_refl _)) (fun hh σ k1 k2 k3 => ?_) (fun hh σ k1 k2 => ?_)
  · simp only [go_sem, seqK_normal, blockK_normal, blockK_exit, reduceIte, Nat.reduceEqDiff, Nat.reduceAdd, Nat.reduceSub, Nat.reduceMul, Nat.reduceLeDiff, Nat.reduceLT, reduceCtorEq, Int.reduceToNat, Int.reduceLT, Int.reduceLE, Int.reduceEq, Int.reduceAdd, Int.reduceSub, Int.reduceMul, k2, k3]
    rw [hh] at h
    exact h _ k1
  · simp only [go_sem, seqK_normal, blockK_normal, blockK_exit, reduceIte, Nat.reduceEqDiff, Nat.reduceAdd, Nat.reduceSub, Nat.reduceMul, Nat.reduceLeDiff, Nat.reduceLT, reduceCtorEq, Int.reduceToNat, Int.reduceLT, Int.reduceLE, Int.reduceEq, Int.reduceAdd, Int.reduceSub, Int.reduceMul, k2]
    rw [hh] at h
    exact h _ k1

/-- A reader: its block, where it stands. -/
structure RdrS (b : Nat) (H : Heap) (its : List It) (e k : Nat) (iv : AV) (ib : Nat) : Prop where
  get : H.get b = .cells [iv, .int .i64 k, .int .i64 e] .own
  rd : Rd H 5 (icells its) its.length iv ib
  ne : 0 < its.length → ib ≠ b
  le : k ≤ its.length
  sm : its.length ≤ 1000000
omit ho in
theorem RdrS.fr {b H H' its e k iv ib} (h : RdrS b H its e k iv ib) (x : Ext H.size H H') : RdrS b H' its e k iv ib :=
  ⟨by rw [x.2 b (Heap.lt_of_get (by rw [h.get]; simp)), h.get], h.rd.ext x, h.ne, h.le, h.sm⟩
omit ho in
theorem RdrS.step {b H its e k iv ib} (h : RdrS b H its e k iv ib) (hk : k < its.length) : RdrS b (H.set b (.cells [iv, .int .i64 ((k + 1 : Nat) : Int), .int .i64 e] .own)) its e (k + 1) iv ib :=
  ⟨Heap.get_set_self (Heap.lt_of_get (by rw [h.get]; simp)), h.rd.keep fun hp => Heap.get_set_ne (h.ne hp), h.ne, hk, h.sm⟩
omit ho in
theorem RdrS.lt {b H its e k iv ib} (h : RdrS b H its e k iv ib) : b < H.size := Heap.lt_of_get (by rw [h.get]; simp)

theorem k_Peek {b H its e k iv ib} (hR : RdrS b H its e k iv ib) {Q : End → Heap → Prop} (h : Q (.ret (.int .i32 (peekR its k))) H) : wpf ⟨bt.get, o⟩ F_word_Reader_Peek [.ptr b 0] H Q := by
  rw [fn_word_Reader_Peek (ho _ _ _ (by decide))]
  have hg := hR.get
  have hl := hR.rd.len
  by_cases hk : k = its.length
  · have hk' : (k : Int) = (its.length : Int) := by omega
    have ep : peekR its k = -1 := by simp [peekR, hk]
    rw [ep] at h
    simp only [bd_word_Reader_Peek, go_sem, seqK_normal, blockK_normal, blockK_exit, reduceIte, Nat.reduceEqDiff, Nat.reduceAdd, Nat.reduceSub, Nat.reduceMul, Nat.reduceLeDiff, Nat.reduceLT, reduceCtorEq, Int.reduceToNat, Int.reduceLT, Int.reduceLE, Int.reduceEq, Int.reduceAdd, Int.reduceSub, Int.reduceMul, hg, hl, hk']
    exact h
  · have hk' : ¬ (k : Int) = (its.length : Int) := by omega
    have hle := hR.le
    obtain ⟨⟨u, hi⟩, hel, _⟩ := hR.rd.pos (by omega)
    have el := hel k (by omega)
    have h0 := List.getElem?_eq_getElem (l := its) (i := k) (by omega)
    obtain ⟨f0, f1, f3⟩ := icells_fld h0
    have ep : peekR its k = if its[k].bad then -2 else (its[k].rune : Int) := by simp only [peekR, h0]
    rw [ep] at h
    simp only [bd_word_Reader_Peek, go_sem, seqK_normal, blockK_normal, blockK_exit, reduceIte, Nat.reduceEqDiff, Nat.reduceAdd, Nat.reduceSub, Nat.reduceMul, Nat.reduceLeDiff, Nat.reduceLT, reduceCtorEq, Int.reduceToNat, Int.reduceLT, Int.reduceLE, Int.reduceEq, Int.reduceAdd, Int.reduceSub, Int.reduceMul, hg, hl, hk', el, hi, f0, f1, f3]
    cases hb : its[k].bad
    · rw [hb] at h
      simp only [go_sem, seqK_normal, blockK_normal, blockK_exit, reduceIte, Nat.reduceEqDiff, Nat.reduceAdd, Nat.reduceSub, Nat.reduceMul, Nat.reduceLeDiff, Nat.reduceLT, reduceCtorEq, Int.reduceToNat, Int.reduceLT, Int.reduceLE, Int.reduceEq, Int.reduceAdd, Int.reduceSub, Int.reduceMul, hg, hl, hk', el, hi, f0, f1, f3]
      exact h
    · rw [hb] at h
      simp only [go_sem, seqK_normal, blockK_normal, blockK_exit, reduceIte, Nat.reduceEqDiff, Nat.reduceAdd, Nat.reduceSub, Nat.reduceMul, Nat.reduceLeDiff, Nat.reduceLT, reduceCtorEq, Int.reduceToNat, Int.reduceLT, Int.reduceLE, Int.reduceEq, Int.reduceAdd, Int.reduceSub, Int.reduceMul]
      exact h

theorem k_At {b H its e k iv ib} (hR : RdrS b H its e k iv ib) {Q : End → Heap → Prop} (h : Q (.ret (.int .i64 (atR its e k : Int))) H) : wpf ⟨bt.get, o⟩ F_word_Reader_At [.ptr b 0] H Q := by
  rw [fn_word_Reader_At (ho _ _ _ (by decide))]
  have hg := hR.get
  have hl := hR.rd.len
  by_cases hk : k = its.length
  · have hk' : (k : Int) = (its.length : Int) := by omega
    have ep : atR its e k = e := by simp [atR, hk]
    rw [ep] at h
    simp only [bd_word_Reader_At, go_sem, seqK_normal, blockK_normal, blockK_exit, reduceIte, Nat.reduceEqDiff, Nat.reduceAdd, Nat.reduceSub, Nat.reduceMul, Nat.reduceLeDiff, Nat.reduceLT, reduceCtorEq, Int.reduceToNat, Int.reduceLT, Int.reduceLE, Int.reduceEq, Int.reduceAdd, Int.reduceSub, Int.reduceMul, hg, hl, hk']
    exact h
  · have hk' : ¬ (k : Int) = (its.length : Int) := by omega
    have hle := hR.le
    obtain ⟨⟨u, hi⟩, hel, _⟩ := hR.rd.pos (by omega)
    have el := hel k (by omega)
    have h0 := List.getElem?_eq_getElem (l := its) (i := k) (by omega)
    obtain ⟨f0, f1, f3⟩ := icells_fld h0
    have ep : atR its e k = its[k].frm := by simp only [atR, h0]
    rw [ep] at h
    simp only [bd_word_Reader_At, go_sem, seqK_normal, blockK_normal, blockK_exit, reduceIte, Nat.reduceEqDiff, Nat.reduceAdd, Nat.reduceSub, Nat.reduceMul, Nat.reduceLeDiff, Nat.reduceLT, reduceCtorEq, Int.reduceToNat, Int.reduceLT, Int.reduceLE, Int.reduceEq, Int.reduceAdd, Int.reduceSub, Int.reduceMul, hg, hl, hk', el, hi, f0, f1, f3]
    exact h

omit ho in
theorem peek_lt {its : List It} {k : Nat} (h : 0 ≤ peekR its k) : k < its.length := by
  unfold peekR at h
  cases hk : its[k]? with
  | none => rw [hk] at h; simp at h
  | some x => exact (List.getElem?_eq_some_iff.1 hk).1

theorem k_Skip {b H its e k iv ib} {c : Int} (hc : 0 ≤ c) (hR : RdrS b H its e k iv ib) {Q : End → Heap → Prop}
    (hF : peekR its k ≠ c → Q (.ret (.bool false)) H) (hT : peekR its k = c → ∀ H', Fr b .nils H H' → RdrS b H' its e (k + 1) iv ib → Q (.ret (.bool true)) H') : wpf ⟨bt.get, o⟩ F_word_Reader_Skip [.ptr b 0, .int .i32 c] H Q := by
  rw [fn_word_Reader_Skip (ho _ _ _ (by decide))]
  simp only [bd_word_Reader_Skip, go_sem, seqK_normal, blockK_normal, blockK_exit, reduceIte, Nat.reduceEqDiff, Nat.reduceAdd, Nat.reduceSub, Nat.reduceMul, Nat.reduceLeDiff, Nat.reduceLT, reduceCtorEq, Int.reduceToNat, Int.reduceLT, Int.reduceLE, Int.reduceEq, Int.reduceAdd, Int.reduceSub, Int.reduceMul]
  refine k_Peek ho hR ?_
  have hg := hR.get
  by_cases hp : peekR its k = c
  · have hk := peek_lt (its := its) (k := k) (by omega)
    have hsm := hR.sm
    simp only [go_sem, seqK_normal, blockK_normal, blockK_exit, reduceIte, Nat.reduceEqDiff, Nat.reduceAdd, Nat.reduceSub, Nat.reduceMul, Nat.reduceLeDiff, Nat.reduceLT, reduceCtorEq, Int.reduceToNat, Int.reduceLT, Int.reduceLE, Int.reduceEq, Int.reduceAdd, Int.reduceSub, Int.reduceMul, hp, hg, wsucc (show k ≤ 1000000000 by omega)]
    exact hT hp _ Fr.set (hR.step hk)
  · simp only [go_sem, seqK_normal, blockK_normal, blockK_exit, reduceIte, Nat.reduceEqDiff, Nat.reduceAdd, Nat.reduceSub, Nat.reduceMul, Nat.reduceLeDiff, Nat.reduceLT, reduceCtorEq, Int.reduceToNat, Int.reduceLT, Int.reduceLE, Int.reduceEq, Int.reduceAdd, Int.reduceSub, Int.reduceMul, hp]
    exact hF hp

theorem k_Must {b H its e k iv ib} {c : Int} (hc : 0 ≤ c) (hR : RdrS b H its e k iv ib) {Q : End → Heap → Prop}
    (hF : peekR its k ≠ c → Q (.pan [(faultA 3 (atR its e k), false)]) H) (hT : peekR its k = c → ∀ H', Fr b .nils H H' → RdrS b H' its e (k + 1) iv ib → Q (.ret (.tup [])) H') : wpf ⟨bt.get, o⟩ F_word_Reader_Must [.ptr b 0, .int .i32 c] H Q := by
  rw [fn_word_Reader_Must (ho _ _ _ (by decide))]
  simp only [bd_word_Reader_Must, go_sem, seqK_normal, blockK_normal, blockK_exit, reduceIte, Nat.reduceEqDiff, Nat.reduceAdd, Nat.reduceSub, Nat.reduceMul, Nat.reduceLeDiff, Nat.reduceLT, reduceCtorEq, Int.reduceToNat, Int.reduceLT, Int.reduceLE, Int.reduceEq, Int.reduceAdd, Int.reduceSub, Int.reduceMul]
  refine k_Skip ho hc hR (fun hp => ?_) (fun hp H' h1 h2 => ?_)
  · simp only [go_sem, seqK_normal, blockK_normal, blockK_exit, reduceIte, Nat.reduceEqDiff, Nat.reduceAdd, Nat.reduceSub, Nat.reduceMul, Nat.reduceLeDiff, Nat.reduceLT, reduceCtorEq, Int.reduceToNat, Int.reduceLT, Int.reduceLE, Int.reduceEq, Int.reduceAdd, Int.reduceSub, Int.reduceMul]
    refine k_At ho hR ?_
    simp only [go_sem, seqK_normal, blockK_normal, blockK_exit, reduceIte, Nat.reduceEqDiff, Nat.reduceAdd, Nat.reduceSub, Nat.reduceMul, Nat.reduceLeDiff, Nat.reduceLT, reduceCtorEq, Int.reduceToNat, Int.reduceLT, Int.reduceLE, Int.reduceEq, Int.reduceAdd, Int.reduceSub, Int.reduceMul]
    refine w_Fail ho ?_
    simp only [go_sem, seqK_normal, blockK_normal, blockK_exit, reduceIte, Nat.reduceEqDiff, Nat.reduceAdd, Nat.reduceSub, Nat.reduceMul, Nat.reduceLeDiff, Nat.reduceLT, reduceCtorEq, Int.reduceToNat, Int.reduceLT, Int.reduceLE, Int.reduceEq, Int.reduceAdd, Int.reduceSub, Int.reduceMul]
    exact hF hp
  · simp only [go_sem, seqK_normal, blockK_normal, blockK_exit, reduceIte, Nat.reduceEqDiff, Nat.reduceAdd, Nat.reduceSub, Nat.reduceMul, Nat.reduceLeDiff, Nat.reduceLT, reduceCtorEq, Int.reduceToNat, Int.reduceLT, Int.reduceLE, Int.reduceEq, Int.reduceAdd, Int.reduceSub, Int.reduceMul]
    exact hT hp H' h1 h2

/-- A digit of a number of sixteen. -/
def hexR (c : Int) : Int := if 48 ≤ c ∧ c ≤ 57 then c - 48 else if 65 ≤ c ∧ c ≤ 70 then c - 55 else -1
theorem k_hex {c : Int} {H : Heap} {Q : End → Heap → Prop} (h : Q (.ret (.int .i32 (hexR c))) H) : wpf ⟨bt.get, o⟩ F_word_hex [.int .i32 c] H Q := by
  rw [fn_word_hex (ho _ _ _ (by decide))]
  have fin : ∀ k : Int, hexR c = k → Q (.ret (.int .i32 k)) H := fun k e => by rw [← e]; exact h
  by_cases h1 : 48 ≤ c
  · by_cases h2 : c ≤ 57
    · have w : IntKind.i32.wrap (c - 48) = c - 48 := wi32 (by omega) (by omega)
      simp only [bd_word_hex, go_sem, seqK_normal, blockK_normal, blockK_exit, reduceIte, Nat.reduceEqDiff, Nat.reduceAdd, Nat.reduceSub, Nat.reduceMul, Nat.reduceLeDiff, Nat.reduceLT, reduceCtorEq, Int.reduceToNat, Int.reduceLT, Int.reduceLE, Int.reduceEq, Int.reduceAdd, Int.reduceSub, Int.reduceMul, h1, h2, w]
      exact fin _ (by simp only [hexR, h1, h2, and_self, if_true])
    · by_cases h3 : 65 ≤ c
      · by_cases h4 : c ≤ 70
        · have w : IntKind.i32.wrap (c - 65) = c - 65 := wi32 (by omega) (by omega)
          have w2 : IntKind.i32.wrap (c - 65 + 10) = c - 55 := by rw [wi32 (by omega) (by omega)]; omega
          simp only [bd_word_hex, go_sem, seqK_normal, blockK_normal, blockK_exit, reduceIte, Nat.reduceEqDiff, Nat.reduceAdd, Nat.reduceSub, Nat.reduceMul, Nat.reduceLeDiff, Nat.reduceLT, reduceCtorEq, Int.reduceToNat, Int.reduceLT, Int.reduceLE, Int.reduceEq, Int.reduceAdd, Int.reduceSub, Int.reduceMul, h1, h2, h3, h4, w, w2]
          exact fin _ (by simp only [hexR, h1, h2, h3, h4, and_self, and_false, if_true, if_false])
        · simp only [bd_word_hex, go_sem, seqK_normal, blockK_normal, blockK_exit, reduceIte, Nat.reduceEqDiff, Nat.reduceAdd, Nat.reduceSub, Nat.reduceMul, Nat.reduceLeDiff, Nat.reduceLT, reduceCtorEq, Int.reduceToNat, Int.reduceLT, Int.reduceLE, Int.reduceEq, Int.reduceAdd, Int.reduceSub, Int.reduceMul, h1, h2, h3, h4]
          exact fin _ (by simp only [hexR, h1, h2, h3, h4, and_false, if_false])
      · simp only [bd_word_hex, go_sem, seqK_normal, blockK_normal, blockK_exit, reduceIte, Nat.reduceEqDiff, Nat.reduceAdd, Nat.reduceSub, Nat.reduceMul, Nat.reduceLeDiff, Nat.reduceLT, reduceCtorEq, Int.reduceToNat, Int.reduceLT, Int.reduceLE, Int.reduceEq, Int.reduceAdd, Int.reduceSub, Int.reduceMul, h1, h2, h3]
        exact fin _ (by simp only [hexR, h1, h2, h3, and_false, false_and, if_false])
  · have h3 : ¬ 65 ≤ c := by omega
    simp only [bd_word_hex, go_sem, seqK_normal, blockK_normal, blockK_exit, reduceIte, Nat.reduceEqDiff, Nat.reduceAdd, Nat.reduceSub, Nat.reduceMul, Nat.reduceLeDiff, Nat.reduceLT, reduceCtorEq, Int.reduceToNat, Int.reduceLT, Int.reduceLE, Int.reduceEq, Int.reduceAdd, Int.reduceSub, Int.reduceMul, h1, h3]
    exact fin _ (by simp only [hexR, h1, h3, false_and, if_false])

/-- The digits of a number: how many, its value, where they end. -/
def numGo (its : List It) : Nat → Nat → Nat → Nat → Nat × Nat × Nat
  | 0, d, n, q => (d, n, q)
  | m + 1, d, n, q => if hexR (peekR its q) < 0 ∨ 1114111 < (n : Int) * 16 + hexR (peekR its q) then (d, n, q) else numGo its m (d + 1) (n * 16 + (hexR (peekR its q)).toNat) (q + 1)
/-- A rune by its number. -/
def numR (its : List It) (e k : Nat) : Except Nat (Int × Nat) :=
  if peekR its k ≠ 123 then .error (atR its e k) else
    let r := numGo its 6 0 0 (k + 1)
    if r.1 = 0 ∨ peekR its r.2.2 ≠ 125 ∨ (55296 ≤ r.2.1 ∧ r.2.1 ≤ 57343) then .error (atR its e r.2.2) else .ok ((r.2.1 : Int), r.2.2 + 1)

omit ho in
theorem hex_lt (c : Int) : hexR c ≤ 15 ∧ -1 ≤ hexR c := by
  unfold hexR
  repeat' split
  all_goals omega
omit ho in
theorem hex_pos {c : Int} (h : ¬ hexR c < 0) : 0 ≤ c := by
  unfold hexR at h
  repeat' split at h
  all_goals omega
omit ho in
theorem numGo_bd (its : List It) : ∀ (m d n q : Nat), n ≤ 1114111 → q ≤ its.length → (numGo its m d n q).2.1 ≤ 1114111 ∧ (numGo its m d n q).2.2 ≤ its.length ∧ (numGo its m d n q).1 ≤ d + m
  | 0, d, n, q, hn, hq => ⟨hn, hq, Nat.le_refl _⟩
  | m + 1, d, n, q, hn, hq => by
    simp only [numGo]
    split
    · exact ⟨hn, hq, by omega⟩
    · rename_i hc
      have hx := hex_lt (peekR its q)
      have hp := peek_lt (its := its) (k := q) (hex_pos (by omega))
      have := numGo_bd its m (d + 1) (n * 16 + (hexR (peekR its q)).toNat) (q + 1) (by omega) (by omega)
      exact ⟨this.1, this.2.1, by omega⟩

theorem k_num_loop {b : Nat} {its : List It} {e : Nat} {iv : AV} {ib : Nat} {H0 : Heap} {Q : Ctl → St → Prop} : ∀ (m d n q : Nat) (H : Heap), d + m = 6 → n ≤ 1114111 → RdrS b H its e q iv ib → Fr b .nils H0 H →
    (∀ (H' : Heap) x t, Fr b .nils H0 H' → RdrS b H' its e (numGo its m d n q).2.2 iv ib → Q (.exit 0) { p := (0, .ptr b 0) :: (3, .int .i32 ((numGo its m d n q).2.1 : Int)) :: (4, .int .i64 ((numGo its m d n q).1 : Int)) :: x, t := t, H := H', d := [], u := .norm }) →
    wpl ⟨bt.get, o⟩ [0, 3, 4] lb_word_Reader_number_0 { p := [(0, .ptr b 0), (3, .int .i32 (n : Int)), (4, .int .i64 (d : Int))], t := [], H := H, d := [], u := .norm } Q
  | 0, d, n, q, H, hd, hn, hR, hf, hQ => by
    rw [wpl_step]
    have h1 : ¬ ((d : Int) < 6) := by omega
    simp only [lb_word_Reader_number_0, go_sem, seqK_normal, blockK_normal, blockK_exit, reduceIte, Nat.reduceEqDiff, Nat.reduceAdd, Nat.reduceSub, Nat.reduceMul, Nat.reduceLeDiff, Nat.reduceLT, reduceCtorEq, Int.reduceToNat, Int.reduceLT, Int.reduceLE, Int.reduceEq, Int.reduceAdd, Int.reduceSub, Int.reduceMul, h1]
    exact hQ H _ _ hf hR
  | m + 1, d, n, q, H, hd, hn, hR, hf, hQ => by
    rw [wpl_step]
    have h1 : ((d : Int) < 6) := by omega
    have hx := hex_lt (peekR its q)
    simp only [lb_word_Reader_number_0, go_sem, seqK_normal, blockK_normal, blockK_exit, reduceIte, Nat.reduceEqDiff, Nat.reduceAdd, Nat.reduceSub, Nat.reduceMul, Nat.reduceLeDiff, Nat.reduceLT, reduceCtorEq, Int.reduceToNat, Int.reduceLT, Int.reduceLE, Int.reduceEq, Int.reduceAdd, Int.reduceSub, Int.reduceMul, h1]
    refine k_Peek ho hR ?_
    simp only [go_sem, seqK_normal, blockK_normal, blockK_exit, reduceIte, Nat.reduceEqDiff, Nat.reduceAdd, Nat.reduceSub, Nat.reduceMul, Nat.reduceLeDiff, Nat.reduceLT, reduceCtorEq, Int.reduceToNat, Int.reduceLT, Int.reduceLE, Int.reduceEq, Int.reduceAdd, Int.reduceSub, Int.reduceMul]
    refine k_hex ho ?_
    have w1 : IntKind.i32.wrap ((n : Int) * 16) = (n : Int) * 16 := wi32 (by omega) (by omega)
    have w2 : IntKind.i32.wrap ((n : Int) * 16 + hexR (peekR its q)) = (n : Int) * 16 + hexR (peekR its q) := wi32 (by omega) (by omega)
    by_cases c1 : hexR (peekR its q) < 0
    · have e0 : numGo its (m + 1) d n q = (d, n, q) := by simp only [numGo, c1, true_or, if_true]
      rw [e0] at hQ
      simp only [go_sem, seqK_normal, blockK_normal, blockK_exit, reduceIte, Nat.reduceEqDiff, Nat.reduceAdd, Nat.reduceSub, Nat.reduceMul, Nat.reduceLeDiff, Nat.reduceLT, reduceCtorEq, Int.reduceToNat, Int.reduceLT, Int.reduceLE, Int.reduceEq, Int.reduceAdd, Int.reduceSub, Int.reduceMul, c1]
      exact hQ H _ _ hf hR
    · by_cases c2 : 1114111 < (n : Int) * 16 + hexR (peekR its q)
      · have e0 : numGo its (m + 1) d n q = (d, n, q) := by simp only [numGo, c2, or_true, if_true]
        rw [e0] at hQ
        simp only [go_sem, seqK_normal, blockK_normal, blockK_exit, reduceIte, Nat.reduceEqDiff, Nat.reduceAdd, Nat.reduceSub, Nat.reduceMul, Nat.reduceLeDiff, Nat.reduceLT, reduceCtorEq, Int.reduceToNat, Int.reduceLT, Int.reduceLE, Int.reduceEq, Int.reduceAdd, Int.reduceSub, Int.reduceMul, c1, w1, w2, c2]
        exact hQ H _ _ hf hR
      · have e0 : numGo its (m + 1) d n q = numGo its m (d + 1) (n * 16 + (hexR (peekR its q)).toNat) (q + 1) := by simp only [numGo, c1, c2, or_self, if_false]
        rw [e0] at hQ
        have hp := peek_lt (its := its) (k := q) (hex_pos c1)
        have hsm := hR.sm
        have w3 : (n : Int) * 16 + hexR (peekR its q) = ((n * 16 + (hexR (peekR its q)).toNat : Nat) : Int) := by omega
        simp only [go_sem, seqK_normal, blockK_normal, blockK_exit, reduceIte, Nat.reduceEqDiff, Nat.reduceAdd, Nat.reduceSub, Nat.reduceMul, Nat.reduceLeDiff, Nat.reduceLT, reduceCtorEq, Int.reduceToNat, Int.reduceLT, Int.reduceLE, Int.reduceEq, Int.reduceAdd, Int.reduceSub, Int.reduceMul, c1, w1, w2, c2, hR.get, wsucc (show q ≤ 1000000000 by omega), wsucc (show d ≤ 1000000000 by omega)]
        rw [w3]
        exact k_num_loop m (d + 1) _ (q + 1) _ (by omega) (by omega) (hR.step hp) (hf.trans Fr.set) hQ

theorem k_number {b H its e k iv ib} (hR : RdrS b H its e k iv ib) {Q : End → Heap → Prop}
    (hF : ∀ a, numR its e k = .error a → ∀ H', Fr b .nils H H' → Q (.pan [(faultA 3 a, false)]) H') (hT : ∀ r k', numR its e k = .ok (r, k') → ∀ H', Fr b .nils H H' → RdrS b H' its e k' iv ib → Q (.ret (.int .i32 r)) H') : wpf ⟨bt.get, o⟩ F_word_Reader_number [.ptr b 0] H Q := by
  rw [fn_word_Reader_number (ho _ _ _ (by decide))]
  simp only [bd_word_Reader_number, go_sem, seqK_normal, blockK_normal, blockK_exit, reduceIte, Nat.reduceEqDiff, Nat.reduceAdd, Nat.reduceSub, Nat.reduceMul, Nat.reduceLeDiff, Nat.reduceLT, reduceCtorEq, Int.reduceToNat, Int.reduceLT, Int.reduceLE, Int.reduceEq, Int.reduceAdd, Int.reduceSub, Int.reduceMul]
  refine k_Must ho (by omega) hR (fun hp => ?_) (fun hp H1 f1 R1 => ?_)
  · simp only [go_sem, seqK_normal, blockK_normal, blockK_exit, reduceIte, Nat.reduceEqDiff, Nat.reduceAdd, Nat.reduceSub, Nat.reduceMul, Nat.reduceLeDiff, Nat.reduceLT, reduceCtorEq, Int.reduceToNat, Int.reduceLT, Int.reduceLE, Int.reduceEq, Int.reduceAdd, Int.reduceSub, Int.reduceMul]
    exact hF _ (by simp only [numR, ne_eq, hp, not_false_eq_true, if_true]) H Fr.refl
  · simp only [go_sem, seqK_normal, blockK_normal, blockK_exit, reduceIte, Nat.reduceEqDiff, Nat.reduceAdd, Nat.reduceSub, Nat.reduceMul, Nat.reduceLeDiff, Nat.reduceLT, reduceCtorEq, Int.reduceToNat, Int.reduceLT, Int.reduceLE, Int.reduceEq, Int.reduceAdd, Int.reduceSub, Int.reduceMul]
    have e0 : numR its e k = (if (numGo its 6 0 0 (k + 1)).1 = 0 ∨ peekR its (numGo its 6 0 0 (k + 1)).2.2 ≠ 125 ∨ (55296 ≤ (numGo its 6 0 0 (k + 1)).2.1 ∧ (numGo its 6 0 0 (k + 1)).2.1 ≤ 57343) then .error (atR its e (numGo its 6 0 0 (k + 1)).2.2) else .ok (((numGo its 6 0 0 (k + 1)).2.1 : Int), (numGo its 6 0 0 (k + 1)).2.2 + 1)) := by
      simp only [numR, ne_eq, hp, not_true_eq_false, if_false]
    have hbd := numGo_bd its 6 0 0 (k + 1) (by omega) R1.le
    refine k_num_loop ho 6 0 0 (k + 1) H1 rfl (by omega) R1 f1 fun H2 x t f2 R2 => ?_
    generalize hg : numGo its 6 0 0 (k + 1) = g at e0 hbd R2 ⊢
    obtain ⟨d, n, q⟩ := g
    simp only at e0 hbd R2 ⊢
    by_cases c1 : d = 0
    · have c1' : (d : Int) = 0 := by omega
      simp only [go_sem, seqK_normal, blockK_normal, blockK_exit, reduceIte, Nat.reduceEqDiff, Nat.reduceAdd, Nat.reduceSub, Nat.reduceMul, Nat.reduceLeDiff, Nat.reduceLT, reduceCtorEq, Int.reduceToNat, Int.reduceLT, Int.reduceLE, Int.reduceEq, Int.reduceAdd, Int.reduceSub, Int.reduceMul, c1']
      refine k_At ho R2 ?_
      simp only [go_sem, seqK_normal, blockK_normal, blockK_exit, reduceIte, Nat.reduceEqDiff, Nat.reduceAdd, Nat.reduceSub, Nat.reduceMul, Nat.reduceLeDiff, Nat.reduceLT, reduceCtorEq, Int.reduceToNat, Int.reduceLT, Int.reduceLE, Int.reduceEq, Int.reduceAdd, Int.reduceSub, Int.reduceMul]
      refine w_Fail ho ?_
      simp only [go_sem, seqK_normal, blockK_normal, blockK_exit, reduceIte, Nat.reduceEqDiff, Nat.reduceAdd, Nat.reduceSub, Nat.reduceMul, Nat.reduceLeDiff, Nat.reduceLT, reduceCtorEq, Int.reduceToNat, Int.reduceLT, Int.reduceLE, Int.reduceEq, Int.reduceAdd, Int.reduceSub, Int.reduceMul]
      exact hF _ (by rw [e0, if_pos (.inl c1)]) H2 f2
    · have c1' : ¬ (d : Int) = 0 := by omega
      simp only [go_sem, seqK_normal, blockK_normal, blockK_exit, reduceIte, Nat.reduceEqDiff, Nat.reduceAdd, Nat.reduceSub, Nat.reduceMul, Nat.reduceLeDiff, Nat.reduceLT, reduceCtorEq, Int.reduceToNat, Int.reduceLT, Int.reduceLE, Int.reduceEq, Int.reduceAdd, Int.reduceSub, Int.reduceMul, c1']
      refine k_Peek ho R2 ?_
      by_cases c2 : peekR its q = 125
      · by_cases c3 : 55296 ≤ n
        · have c3' : (55296 : Int) ≤ (n : Int) := by omega
          by_cases c4 : n ≤ 57343
          · have c4' : (n : Int) ≤ 57343 := by omega
            simp only [go_sem, seqK_normal, blockK_normal, blockK_exit, reduceIte, Nat.reduceEqDiff, Nat.reduceAdd, Nat.reduceSub, Nat.reduceMul, Nat.reduceLeDiff, Nat.reduceLT, reduceCtorEq, Int.reduceToNat, Int.reduceLT, Int.reduceLE, Int.reduceEq, Int.reduceAdd, Int.reduceSub, Int.reduceMul, c2, c3', c4']
            refine k_At ho R2 ?_
            simp only [go_sem, seqK_normal, blockK_normal, blockK_exit, reduceIte, Nat.reduceEqDiff, Nat.reduceAdd, Nat.reduceSub, Nat.reduceMul, Nat.reduceLeDiff, Nat.reduceLT, reduceCtorEq, Int.reduceToNat, Int.reduceLT, Int.reduceLE, Int.reduceEq, Int.reduceAdd, Int.reduceSub, Int.reduceMul]
            refine w_Fail ho ?_
            simp only [go_sem, seqK_normal, blockK_normal, blockK_exit, reduceIte, Nat.reduceEqDiff, Nat.reduceAdd, Nat.reduceSub, Nat.reduceMul, Nat.reduceLeDiff, Nat.reduceLT, reduceCtorEq, Int.reduceToNat, Int.reduceLT, Int.reduceLE, Int.reduceEq, Int.reduceAdd, Int.reduceSub, Int.reduceMul]
            exact hF _ (by rw [e0, if_pos (.inr (.inr ⟨c3, c4⟩))]) H2 f2
          · have c4' : ¬ (n : Int) ≤ 57343 := by omega
            have hq := peek_lt (its := its) (k := q) (by omega)
            have hsm := R2.sm
            simp only [go_sem, seqK_normal, blockK_normal, blockK_exit, reduceIte, Nat.reduceEqDiff, Nat.reduceAdd, Nat.reduceSub, Nat.reduceMul, Nat.reduceLeDiff, Nat.reduceLT, reduceCtorEq, Int.reduceToNat, Int.reduceLT, Int.reduceLE, Int.reduceEq, Int.reduceAdd, Int.reduceSub, Int.reduceMul, c2, c3', c4', R2.get, wsucc (show q ≤ 1000000000 by omega)]
            exact hT _ _ (by rw [e0, if_neg (by omega)]) _ (f2.trans Fr.set) (R2.step hq)
        · have c3' : ¬ (55296 : Int) ≤ (n : Int) := by omega
          have hq := peek_lt (its := its) (k := q) (by omega)
          have hsm := R2.sm
          simp only [go_sem, seqK_normal, blockK_normal, blockK_exit, reduceIte, Nat.reduceEqDiff, Nat.reduceAdd, Nat.reduceSub, Nat.reduceMul, Nat.reduceLeDiff, Nat.reduceLT, reduceCtorEq, Int.reduceToNat, Int.reduceLT, Int.reduceLE, Int.reduceEq, Int.reduceAdd, Int.reduceSub, Int.reduceMul, c2, c3', R2.get, wsucc (show q ≤ 1000000000 by omega)]
          exact hT _ _ (by rw [e0, if_neg (by omega)]) _ (f2.trans Fr.set) (R2.step hq)
      · simp only [go_sem, seqK_normal, blockK_normal, blockK_exit, reduceIte, Nat.reduceEqDiff, Nat.reduceAdd, Nat.reduceSub, Nat.reduceMul, Nat.reduceLeDiff, Nat.reduceLT, reduceCtorEq, Int.reduceToNat, Int.reduceLT, Int.reduceLE, Int.reduceEq, Int.reduceAdd, Int.reduceSub, Int.reduceMul, c2]
        refine k_At ho R2 ?_
        simp only [go_sem, seqK_normal, blockK_normal, blockK_exit, reduceIte, Nat.reduceEqDiff, Nat.reduceAdd, Nat.reduceSub, Nat.reduceMul, Nat.reduceLeDiff, Nat.reduceLT, reduceCtorEq, Int.reduceToNat, Int.reduceLT, Int.reduceLE, Int.reduceEq, Int.reduceAdd, Int.reduceSub, Int.reduceMul]
        refine w_Fail ho ?_
        simp only [go_sem, seqK_normal, blockK_normal, blockK_exit, reduceIte, Nat.reduceEqDiff, Nat.reduceAdd, Nat.reduceSub, Nat.reduceMul, Nat.reduceLeDiff, Nat.reduceLT, reduceCtorEq, Int.reduceToNat, Int.reduceLT, Int.reduceLE, Int.reduceEq, Int.reduceAdd, Int.reduceSub, Int.reduceMul]
        exact hF _ (by rw [e0, if_pos (.inr (.inl c2))]) H2 f2

def badS (cls : Bool) : List UInt8 := if cls then [47, 124, 42, 40, 41, 91, 93, 45] else [47, 124, 42, 40, 41, 91, 93, 46]
def escS : List UInt8 := [47, 124, 42, 40, 41, 91, 93, 92, 46, 45, 94, 123, 125]
/-- A rune of an expression, or of a class. -/
def runeR (its : List It) (e : Nat) (cls : Bool) (k : Nat) : Except Nat (Int × Nat) :=
  if peekR its k < 32 ∨ hasR (badS cls) (peekR its k) = true then .error (atR its e k)
  else if peekR its k ≠ 92 then .ok (peekR its k, k + 1)
  else if peekR its (k + 1) = 110 then .ok (10, k + 2)
  else if peekR its (k + 1) = 114 then .ok (13, k + 2)
  else if peekR its (k + 1) = 116 then .ok (9, k + 2)
  else if peekR its (k + 1) = 117 then numR its e (k + 2)
  else if peekR its (k + 1) < 0 ∨ hasR escS (peekR its (k + 1)) = false then .error (atR its e (k + 1))
  else .ok (peekR its (k + 1), k + 2)

theorem k_Rune {b H its e k iv ib} {cls : Bool} (hR : RdrS b H its e k iv ib) {Q : End → Heap → Prop}
    (hF : ∀ a, runeR its e cls k = .error a → ∀ H', Fr b .nils H H' → Q (.pan [(faultA 3 a, false)]) H') (hT : ∀ r k', runeR its e cls k = .ok (r, k') → ∀ H', Fr b .nils H H' → RdrS b H' its e k' iv ib → Q (.ret (.int .i32 r)) H') : wpf ⟨bt.get, o⟩ F_word_Reader_Rune [.ptr b 0, .bool cls] H Q := by
  rw [fn_word_Reader_Rune (ho _ _ _ (by decide))]
  simp only [bd_word_Reader_Rune, go_sem, seqK_normal, blockK_normal, blockK_exit, reduceIte, Nat.reduceEqDiff, Nat.reduceAdd, Nat.reduceSub, Nat.reduceMul, Nat.reduceLeDiff, Nat.reduceLT, reduceCtorEq, Int.reduceToNat, Int.reduceLT, Int.reduceLE, Int.reduceEq, Int.reduceAdd, Int.reduceSub, Int.reduceMul]
  refine k_Peek ho hR ?_
  have esc0 : ∀ c ∈ escS, c.toNat < 128 := by decide
  -- behind the choice of signs
  have key : ∀ (H' : Heap) (bs : List UInt8), bs = badS cls → Fr b .nils H H' → RdrS b H' its e k iv ib → ∀ (t), wpc ⟨bt.get, o⟩ (seqR (seqR (seqR (seqR bd_word_Reader_Rune)))) { p := [(0, .ptr b 0), (1, .bool cls), (4, .int .i32 0), (5, .int .i32 (peekR its k)), (6, .str bs), (9, .bool cls)], t := t, H := H', d := [], u := .norm } (finK ⟨bt.get, o⟩ [.slot 4] Q) := by
    intro H' bs hbs hf hR t
    have bad0 : ∀ c ∈ bs, c.toNat < 128 := by rw [hbs]; cases cls <;> decide
    by_cases c1 : peekR its k < 32
    · simp only [bd_word_Reader_Rune, seqR, go_sem, seqK_normal, blockK_normal, blockK_exit, reduceIte, Nat.reduceEqDiff, Nat.reduceAdd, Nat.reduceSub, Nat.reduceMul, Nat.reduceLeDiff, Nat.reduceLT, reduceCtorEq, Int.reduceToNat, Int.reduceLT, Int.reduceLE, Int.reduceEq, Int.reduceAdd, Int.reduceSub, Int.reduceMul, c1]
      refine k_At ho hR ?_
      simp only [go_sem, seqK_normal, blockK_normal, blockK_exit, reduceIte, Nat.reduceEqDiff, Nat.reduceAdd, Nat.reduceSub, Nat.reduceMul, Nat.reduceLeDiff, Nat.reduceLT, reduceCtorEq, Int.reduceToNat, Int.reduceLT, Int.reduceLE, Int.reduceEq, Int.reduceAdd, Int.reduceSub, Int.reduceMul]
      refine w_Fail ho ?_
      simp only [go_sem, seqK_normal, blockK_normal, blockK_exit, reduceIte, Nat.reduceEqDiff, Nat.reduceAdd, Nat.reduceSub, Nat.reduceMul, Nat.reduceLeDiff, Nat.reduceLT, reduceCtorEq, Int.reduceToNat, Int.reduceLT, Int.reduceLE, Int.reduceEq, Int.reduceAdd, Int.reduceSub, Int.reduceMul]
      exact hF _ (by simp only [runeR, c1, true_or, if_true]) H' hf
    · simp only [bd_word_Reader_Rune, seqR, go_sem, seqK_normal, blockK_normal, blockK_exit, reduceIte, Nat.reduceEqDiff, Nat.reduceAdd, Nat.reduceSub, Nat.reduceMul, Nat.reduceLeDiff, Nat.reduceLT, reduceCtorEq, Int.reduceToNat, Int.reduceLT, Int.reduceLE, Int.reduceEq, Int.reduceAdd, Int.reduceSub, Int.reduceMul, c1]
      refine k_hasRune ho bad0 fun H1 x1 => ?_
      have R1 := hR.fr x1
      have f1 : Fr b .nils H H1 := hf.trans (Fr.ofExt x1)
      rw [hbs]
      cases c2 : hasR (badS cls) (peekR its k)
      · have hk := peek_lt (its := its) (k := k) (by omega)
        have hsm := R1.sm
        by_cases c3 : peekR its k = 92
        · simp only [go_sem, seqK_normal, blockK_normal, blockK_exit, reduceIte, Nat.reduceEqDiff, Nat.reduceAdd, Nat.reduceSub, Nat.reduceMul, Nat.reduceLeDiff, Nat.reduceLT, reduceCtorEq, Int.reduceToNat, Int.reduceLT, Int.reduceLE, Int.reduceEq, Int.reduceAdd, Int.reduceSub, Int.reduceMul, R1.get, c3, wsucc (show k ≤ 1000000000 by omega)]
          have R2 := R1.step hk
          have f2 : Fr b .nils H (H1.set b (.cells [iv, .int .i64 ((k + 1 : Nat) : Int), .int .i64 e] .own)) := f1.trans Fr.set
          generalize H1.set b (.cells [iv, .int .i64 ((k + 1 : Nat) : Int), .int .i64 e] .own) = H2 at R2 f2 ⊢
          have e0 : runeR its e cls k = if peekR its (k + 1) = 110 then .ok (10, k + 2)
              else if peekR its (k + 1) = 114 then .ok (13, k + 2)
              else if peekR its (k + 1) = 116 then .ok (9, k + 2)
              else if peekR its (k + 1) = 117 then numR its e (k + 2)
              else if peekR its (k + 1) < 0 ∨ hasR escS (peekR its (k + 1)) = false then .error (atR its e (k + 1))
              else .ok (peekR its (k + 1), k + 2) := by
            have c1' : ¬ (92 : Int) < 32 := by omega
            rw [c3] at c2
            simp only [runeR, c3, c1', c2, Bool.false_eq_true, or_self, if_false, ne_eq, not_true_eq_false]
          refine k_Peek ho R2 ?_
          simp only [go_sem, seqK_normal, blockK_normal, blockK_exit, reduceIte, Nat.reduceEqDiff, Nat.reduceAdd, Nat.reduceSub, Nat.reduceMul, Nat.reduceLeDiff, Nat.reduceLT, reduceCtorEq, Int.reduceToNat, Int.reduceLT, Int.reduceLE, Int.reduceEq, Int.reduceAdd, Int.reduceSub, Int.reduceMul]
          refine k_Skip ho (by omega) R2 (fun d1 => ?_) (fun d1 H3 f3 R3 => ?_)
          · simp only [go_sem, seqK_normal, blockK_normal, blockK_exit, reduceIte, Nat.reduceEqDiff, Nat.reduceAdd, Nat.reduceSub, Nat.reduceMul, Nat.reduceLeDiff, Nat.reduceLT, reduceCtorEq, Int.reduceToNat, Int.reduceLT, Int.reduceLE, Int.reduceEq, Int.reduceAdd, Int.reduceSub, Int.reduceMul]
            refine k_Skip ho (by omega) R2 (fun d2 => ?_) (fun d2 H3 f3 R3 => ?_)
            · simp only [go_sem, seqK_normal, blockK_normal, blockK_exit, reduceIte, Nat.reduceEqDiff, Nat.reduceAdd, Nat.reduceSub, Nat.reduceMul, Nat.reduceLeDiff, Nat.reduceLT, reduceCtorEq, Int.reduceToNat, Int.reduceLT, Int.reduceLE, Int.reduceEq, Int.reduceAdd, Int.reduceSub, Int.reduceMul]
              refine k_Skip ho (by omega) R2 (fun d3 => ?_) (fun d3 H3 f3 R3 => ?_)
              · simp only [go_sem, seqK_normal, blockK_normal, blockK_exit, reduceIte, Nat.reduceEqDiff, Nat.reduceAdd, Nat.reduceSub, Nat.reduceMul, Nat.reduceLeDiff, Nat.reduceLT, reduceCtorEq, Int.reduceToNat, Int.reduceLT, Int.reduceLE, Int.reduceEq, Int.reduceAdd, Int.reduceSub, Int.reduceMul]
                refine k_Skip ho (by omega) R2 (fun d4 => ?_) (fun d4 H3 f3 R3 => ?_)
                · rw [if_neg d1, if_neg d2, if_neg d3, if_neg d4] at e0
                  by_cases d5 : peekR its (k + 1) < 0
                  · simp only [go_sem, seqK_normal, blockK_normal, blockK_exit, reduceIte, Nat.reduceEqDiff, Nat.reduceAdd, Nat.reduceSub, Nat.reduceMul, Nat.reduceLeDiff, Nat.reduceLT, reduceCtorEq, Int.reduceToNat, Int.reduceLT, Int.reduceLE, Int.reduceEq, Int.reduceAdd, Int.reduceSub, Int.reduceMul, d5]
                    refine k_At ho R2 ?_
                    simp only [go_sem, seqK_normal, blockK_normal, blockK_exit, reduceIte, Nat.reduceEqDiff, Nat.reduceAdd, Nat.reduceSub, Nat.reduceMul, Nat.reduceLeDiff, Nat.reduceLT, reduceCtorEq, Int.reduceToNat, Int.reduceLT, Int.reduceLE, Int.reduceEq, Int.reduceAdd, Int.reduceSub, Int.reduceMul]
                    refine w_Fail ho ?_
                    simp only [go_sem, seqK_normal, blockK_normal, blockK_exit, reduceIte, Nat.reduceEqDiff, Nat.reduceAdd, Nat.reduceSub, Nat.reduceMul, Nat.reduceLeDiff, Nat.reduceLT, reduceCtorEq, Int.reduceToNat, Int.reduceLT, Int.reduceLE, Int.reduceEq, Int.reduceAdd, Int.reduceSub, Int.reduceMul]
                    exact hF _ (by rw [e0, if_pos (.inl d5)]) H2 f2
                  · simp only [go_sem, seqK_normal, blockK_normal, blockK_exit, reduceIte, Nat.reduceEqDiff, Nat.reduceAdd, Nat.reduceSub, Nat.reduceMul, Nat.reduceLeDiff, Nat.reduceLT, reduceCtorEq, Int.reduceToNat, Int.reduceLT, Int.reduceLE, Int.reduceEq, Int.reduceAdd, Int.reduceSub, Int.reduceMul, d5]
                    refine k_hasRune ho esc0 fun H3 x3 => ?_
                    have R3 := R2.fr x3
                    have f3 : Fr b .nils H H3 := f2.trans (Fr.ofExt x3)
                    have fold : ([47, 124, 42, 40, 41, 91, 93, 92, 46, 45, 94, 123, 125] : List UInt8) = escS := rfl
                    cases d6 : hasR escS (peekR its (k + 1))
                    · simp only [go_sem, seqK_normal, blockK_normal, blockK_exit, reduceIte, Nat.reduceEqDiff, Nat.reduceAdd, Nat.reduceSub, Nat.reduceMul, Nat.reduceLeDiff, Nat.reduceLT, reduceCtorEq, Int.reduceToNat, Int.reduceLT, Int.reduceLE, Int.reduceEq, Int.reduceAdd, Int.reduceSub, Int.reduceMul]
                      refine k_At ho R3 ?_
                      simp only [go_sem, seqK_normal, blockK_normal, blockK_exit, reduceIte, Nat.reduceEqDiff, Nat.reduceAdd, Nat.reduceSub, Nat.reduceMul, Nat.reduceLeDiff, Nat.reduceLT, reduceCtorEq, Int.reduceToNat, Int.reduceLT, Int.reduceLE, Int.reduceEq, Int.reduceAdd, Int.reduceSub, Int.reduceMul]
                      refine w_Fail ho ?_
                      simp only [go_sem, seqK_normal, blockK_normal, blockK_exit, reduceIte, Nat.reduceEqDiff, Nat.reduceAdd, Nat.reduceSub, Nat.reduceMul, Nat.reduceLeDiff, Nat.reduceLT, reduceCtorEq, Int.reduceToNat, Int.reduceLT, Int.reduceLE, Int.reduceEq, Int.reduceAdd, Int.reduceSub, Int.reduceMul]
                      exact hF _ (by rw [e0, if_pos (.inr d6)]) H3 f3
                    · have hk2 := peek_lt (its := its) (k := k + 1) (by omega)
                      simp only [go_sem, seqK_normal, blockK_normal, blockK_exit, reduceIte, Nat.reduceEqDiff, Nat.reduceAdd, Nat.reduceSub, Nat.reduceMul, Nat.reduceLeDiff, Nat.reduceLT, reduceCtorEq, Int.reduceToNat, Int.reduceLT, Int.reduceLE, Int.reduceEq, Int.reduceAdd, Int.reduceSub, Int.reduceMul, R3.get, wsucc (show k + 1 ≤ 1000000000 by omega)]
                      exact hT _ _ (by rw [e0, if_neg (by rw [d6]; simp; omega)]) _ (f3.trans Fr.set) (R3.step hk2)
                · rw [if_neg d1, if_neg d2, if_neg d3, if_pos d4] at e0
                  simp only [go_sem, seqK_normal, blockK_normal, blockK_exit, reduceIte, Nat.reduceEqDiff, Nat.reduceAdd, Nat.reduceSub, Nat.reduceMul, Nat.reduceLeDiff, Nat.reduceLT, reduceCtorEq, Int.reduceToNat, Int.reduceLT, Int.reduceLE, Int.reduceEq, Int.reduceAdd, Int.reduceSub, Int.reduceMul]
                  refine k_number ho R3 (fun a ha H4 f4 => ?_) (fun r k' ha H4 f4 R4 => ?_)
                  · simp only [go_sem, seqK_normal, blockK_normal, blockK_exit, reduceIte, Nat.reduceEqDiff, Nat.reduceAdd, Nat.reduceSub, Nat.reduceMul, Nat.reduceLeDiff, Nat.reduceLT, reduceCtorEq, Int.reduceToNat, Int.reduceLT, Int.reduceLE, Int.reduceEq, Int.reduceAdd, Int.reduceSub, Int.reduceMul]
                    exact hF a (e0.trans ha) H4 (f2.trans (f3.trans f4))
                  · simp only [go_sem, seqK_normal, blockK_normal, blockK_exit, reduceIte, Nat.reduceEqDiff, Nat.reduceAdd, Nat.reduceSub, Nat.reduceMul, Nat.reduceLeDiff, Nat.reduceLT, reduceCtorEq, Int.reduceToNat, Int.reduceLT, Int.reduceLE, Int.reduceEq, Int.reduceAdd, Int.reduceSub, Int.reduceMul]
                    exact hT r k' (e0.trans ha) H4 (f2.trans (f3.trans f4)) R4
              · rw [if_neg d1, if_neg d2, if_pos d3] at e0
                simp only [go_sem, seqK_normal, blockK_normal, blockK_exit, reduceIte, Nat.reduceEqDiff, Nat.reduceAdd, Nat.reduceSub, Nat.reduceMul, Nat.reduceLeDiff, Nat.reduceLT, reduceCtorEq, Int.reduceToNat, Int.reduceLT, Int.reduceLE, Int.reduceEq, Int.reduceAdd, Int.reduceSub, Int.reduceMul]
                exact hT _ _ e0 H3 (f2.trans f3) R3
            · rw [if_neg d1, if_pos d2] at e0
              simp only [go_sem, seqK_normal, blockK_normal, blockK_exit, reduceIte, Nat.reduceEqDiff, Nat.reduceAdd, Nat.reduceSub, Nat.reduceMul, Nat.reduceLeDiff, Nat.reduceLT, reduceCtorEq, Int.reduceToNat, Int.reduceLT, Int.reduceLE, Int.reduceEq, Int.reduceAdd, Int.reduceSub, Int.reduceMul]
              exact hT _ _ e0 H3 (f2.trans f3) R3
          · rw [if_pos d1] at e0
            simp only [go_sem, seqK_normal, blockK_normal, blockK_exit, reduceIte, Nat.reduceEqDiff, Nat.reduceAdd, Nat.reduceSub, Nat.reduceMul, Nat.reduceLeDiff, Nat.reduceLT, reduceCtorEq, Int.reduceToNat, Int.reduceLT, Int.reduceLE, Int.reduceEq, Int.reduceAdd, Int.reduceSub, Int.reduceMul]
            exact hT _ _ e0 H3 (f2.trans f3) R3
        · simp only [go_sem, seqK_normal, blockK_normal, blockK_exit, reduceIte, Nat.reduceEqDiff, Nat.reduceAdd, Nat.reduceSub, Nat.reduceMul, Nat.reduceLeDiff, Nat.reduceLT, reduceCtorEq, Int.reduceToNat, Int.reduceLT, Int.reduceLE, Int.reduceEq, Int.reduceAdd, Int.reduceSub, Int.reduceMul, R1.get, c3, wsucc (show k ≤ 1000000000 by omega)]
          exact hT _ _ (by simp only [runeR, c1, c2, Bool.false_eq_true, or_self, if_false, ne_eq, c3, not_false_eq_true, if_true]) _ (f1.trans Fr.set) (R1.step hk)
      · simp only [go_sem, seqK_normal, blockK_normal, blockK_exit, reduceIte, Nat.reduceEqDiff, Nat.reduceAdd, Nat.reduceSub, Nat.reduceMul, Nat.reduceLeDiff, Nat.reduceLT, reduceCtorEq, Int.reduceToNat, Int.reduceLT, Int.reduceLE, Int.reduceEq, Int.reduceAdd, Int.reduceSub, Int.reduceMul]
        refine k_At ho R1 ?_
        simp only [go_sem, seqK_normal, blockK_normal, blockK_exit, reduceIte, Nat.reduceEqDiff, Nat.reduceAdd, Nat.reduceSub, Nat.reduceMul, Nat.reduceLeDiff, Nat.reduceLT, reduceCtorEq, Int.reduceToNat, Int.reduceLT, Int.reduceLE, Int.reduceEq, Int.reduceAdd, Int.reduceSub, Int.reduceMul]
        refine w_Fail ho ?_
        simp only [go_sem, seqK_normal, blockK_normal, blockK_exit, reduceIte, Nat.reduceEqDiff, Nat.reduceAdd, Nat.reduceSub, Nat.reduceMul, Nat.reduceLeDiff, Nat.reduceLT, reduceCtorEq, Int.reduceToNat, Int.reduceLT, Int.reduceLE, Int.reduceEq, Int.reduceAdd, Int.reduceSub, Int.reduceMul]
        exact hF _ (by simp only [runeR, c2, or_true, if_true]) H1 f1
  cases cls
  · simp only [go_sem, blockK_normal, blockK_exit, reduceIte, Nat.reduceEqDiff, Nat.reduceAdd, Nat.reduceSub, Nat.reduceMul, Nat.reduceLeDiff, Nat.reduceLT, reduceCtorEq, Int.reduceToNat, Int.reduceLT, Int.reduceLE, Int.reduceEq, Int.reduceAdd, Int.reduceSub, Int.reduceMul]
    rw [seqK_normal]
    simp only [go_sem, blockK_normal, blockK_exit, reduceIte, Nat.reduceEqDiff, Nat.reduceAdd, Nat.reduceSub, Nat.reduceMul, Nat.reduceLeDiff, Nat.reduceLT, reduceCtorEq, Int.reduceToNat, Int.reduceLT, Int.reduceLE, Int.reduceEq, Int.reduceAdd, Int.reduceSub, Int.reduceMul]
    rw [seqK_normal]
    simp only [go_sem, blockK_normal, blockK_exit, reduceIte, Nat.reduceEqDiff, Nat.reduceAdd, Nat.reduceSub, Nat.reduceMul, Nat.reduceLeDiff, Nat.reduceLT, reduceCtorEq, Int.reduceToNat, Int.reduceLT, Int.reduceLE, Int.reduceEq, Int.reduceAdd, Int.reduceSub, Int.reduceMul]
    rw [seqK_normal]
    simp only [go_sem, blockK_normal, blockK_exit, reduceIte, Nat.reduceEqDiff, Nat.reduceAdd, Nat.reduceSub, Nat.reduceMul, Nat.reduceLeDiff, Nat.reduceLT, reduceCtorEq, Int.reduceToNat, Int.reduceLT, Int.reduceLE, Int.reduceEq, Int.reduceAdd, Int.reduceSub, Int.reduceMul]
    exact key H _ rfl Fr.refl hR _
  · simp only [go_sem, blockK_normal, blockK_exit, reduceIte, Nat.reduceEqDiff, Nat.reduceAdd, Nat.reduceSub, Nat.reduceMul, Nat.reduceLeDiff, Nat.reduceLT, reduceCtorEq, Int.reduceToNat, Int.reduceLT, Int.reduceLE, Int.reduceEq, Int.reduceAdd, Int.reduceSub, Int.reduceMul]
    rw [seqK_normal]
    simp only [go_sem, blockK_normal, blockK_exit, reduceIte, Nat.reduceEqDiff, Nat.reduceAdd, Nat.reduceSub, Nat.reduceMul, Nat.reduceLeDiff, Nat.reduceLT, reduceCtorEq, Int.reduceToNat, Int.reduceLT, Int.reduceLE, Int.reduceEq, Int.reduceAdd, Int.reduceSub, Int.reduceMul]
    rw [seqK_normal]
    simp only [go_sem, blockK_normal, blockK_exit, reduceIte, Nat.reduceEqDiff, Nat.reduceAdd, Nat.reduceSub, Nat.reduceMul, Nat.reduceLeDiff, Nat.reduceLT, reduceCtorEq, Int.reduceToNat, Int.reduceLT, Int.reduceLE, Int.reduceEq, Int.reduceAdd, Int.reduceSub, Int.reduceMul]
    rw [seqK_normal]
    simp only [go_sem, blockK_normal, blockK_exit, reduceIte, Nat.reduceEqDiff, Nat.reduceAdd, Nat.reduceSub, Nat.reduceMul, Nat.reduceLeDiff, Nat.reduceLT, reduceCtorEq, Int.reduceToNat, Int.reduceLT, Int.reduceLE, Int.reduceEq, Int.reduceAdd, Int.reduceSub, Int.reduceMul]
    exact key H _ rfl Fr.refl hR _
end
end Go.Ev

/- Classes: plainly, and what the reader's Class and word.Class come to. -/
namespace Go.Ev
open Go
set_option linter.unusedSimpArgs false
set_option linter.unusedVariables false
set_option maxRecDepth 8000

def clGo (its : List It) (e : Nat) (endc : Int) : Nat → List R → Nat → Except Nat (List R × Nat)
  | 0, acc, k => .ok (acc, k)
  | m + 1, acc, k =>
    if acc ≠ [] ∧ peekR its k = endc then .ok (acc, k) else
    match runeR its e true k with
    | .error a => .error a
    | .ok (lo, k1) =>
      if peekR its k1 = 45 then (match runeR its e true (k1 + 1) with
        | .error a => .error a
        | .ok (hi, k2) => if hi < lo then .error (atR its e (k1 + 1)) else clGo its e endc m (acc ++ [⟨lo, hi⟩]) k2)
      else clGo its e endc m (acc ++ [⟨lo, lo⟩]) k1

/-- A class, up to a rune that stays. -/
def classR (its : List It) (e : Nat) (endc : Int) (k : Nat) : Except Nat (List R × Nat) :=
  match clGo its e endc (its.length + 1) [] (if peekR its k = 94 then k + 1 else k) with
  | .error a => .error a
  | .ok (l, k2) =>
    let s := if peekR its k = 94 then notF (normF l) else normF l
    if s = [] then .error (atR its e k2) else .ok (s, k2)

/-- The set of a class, or where it is wrong. -/
def classF (s : List UInt8) : Except Nat (List R) := match classR (decAll s) s.length (-1) 0 with
  | .error a => .error a
  | .ok (l, _) => .ok l

/-- Runes of 21 bits. -/
def Sm (its : List It) : Prop := ∀ x ∈ its, x.rune ≤ 2097151
theorem peek_bd {its : List It} (h : Sm its) (k : Nat) : -2 ≤ peekR its k ∧ peekR its k ≤ 2097151 := by
  unfold peekR
  cases hk : its[k]? with
  | none => simp
  | some x =>
    have := h x (List.mem_of_getElem? hk)
    simp only
    split <;> omega
theorem numR_bd {its : List It} {e k k' : Nat} {r : Int} (hk : k ≤ its.length) (h : numR its e k = .ok (r, k')) : 0 ≤ r ∧ r ≤ 1114111 ∧ k < k' ∧ k' ≤ its.length := by
  unfold numR at h
  split at h
  · cases h
  · rename_i hp
    have hk1 := peek_lt (its := its) (k := k) (by simp at hp; omega)
    have hb := numGo_bd its 6 0 0 (k + 1) (by omega) (by omega)
    have hq : ∀ (m d n q : Nat), q ≤ (numGo its m d n q).2.2 := by
      intro m
      induction m with
      | zero => intro d n q; exact Nat.le_refl _
      | succ m ih =>
        intro d n q
        simp only [numGo]
        split
        · exact Nat.le_refl _
        · exact Nat.le_trans (Nat.le_succ _) (ih _ _ _)
    have hq1 := hq 6 0 0 (k + 1)
    simp only at h
    split at h
    · cases h
    · rename_i hc
      injection h with h
      obtain ⟨rfl, rfl⟩ := Prod.mk.inj h
      have hpk : peekR its (numGo its 6 0 0 (k + 1)).2.2 = 125 := by
        rcases Classical.em (peekR its (numGo its 6 0 0 (k + 1)).2.2 = 125) with h | h
        · exact h
        · exact absurd (.inr (.inl h)) hc
      have := peek_lt (its := its) (k := (numGo its 6 0 0 (k + 1)).2.2) (by omega)
      omega
theorem runeR_bd {its : List It} {e k k' : Nat} {cls : Bool} {r : Int} (hs : Sm its) (hk : k ≤ its.length) (h : runeR its e cls k = .ok (r, k')) : 0 ≤ r ∧ r ≤ 2097151 ∧ k < k' ∧ k' ≤ its.length := by
  have b1 := peek_bd hs k
  have b2 := peek_bd hs (k + 1)
  unfold runeR at h
  split at h
  · cases h
  · rename_i hc
    have hk1 := peek_lt (its := its) (k := k) (by omega)
    split at h
    · injection h with h; obtain ⟨rfl, rfl⟩ := Prod.mk.inj h; omega
    split at h
    · rename_i hp
      have := peek_lt (its := its) (k := k + 1) (by omega)
      injection h with h; obtain ⟨rfl, rfl⟩ := Prod.mk.inj h; omega
    split at h
    · rename_i hp
      have := peek_lt (its := its) (k := k + 1) (by omega)
      injection h with h; obtain ⟨rfl, rfl⟩ := Prod.mk.inj h; omega
    split at h
    · rename_i hp
      have := peek_lt (its := its) (k := k + 1) (by omega)
      injection h with h; obtain ⟨rfl, rfl⟩ := Prod.mk.inj h; omega
    split at h
    · rename_i hp
      have := peek_lt (its := its) (k := k + 1) (by omega)
      have := numR_bd (its := its) (k := k + 2) (by omega) h
      omega
    split at h
    · cases h
    · rename_i hc
      have := peek_lt (its := its) (k := k + 1) (by omega)
      injection h with h; obtain ⟨rfl, rfl⟩ := Prod.mk.inj h; omega

theorem RdrS.ex {b H H' its e k iv ib n0} (h : RdrS b H its e k iv ib) (x : Ext n0 H H') (hb : b < n0) (hi : 0 < its.length → ib < n0) : RdrS b H' its e k iv ib :=
  ⟨by rw [x.2 b hb, h.get], h.rd.keep fun hp => x.2 ib (hi hp), h.ne, h.le, h.sm⟩

section
variable {o : CallF} (ho : OvOnly o)
include ho

theorem cl_loop {b n0 : Nat} {its : List It} {e : Nat} {endc : Int} {iv : AV} {ib : Nat} {neg : Bool} (hs : Sm its) (hb : b < n0) (hi' : 0 < its.length → ib < n0) {H0 : Heap} {Q : Ctl → St → Prop} : ∀ (m : Nat) (acc : List R) (k : Nat) (lv : AV) (H : Heap), its.length < k + m → acc.length ≤ k → (∀ r ∈ acc, I32 r.lo ∧ I32 r.hi) → RdrS b H its e k iv ib → n0 ≤ H.size → Sl n0 H 2 (rcells acc) acc.length lv → Fr2 b b n0 H0 H →
    (∀ a, clGo its e endc m acc k = .error a → ∀ σ : St, Fr2 b b n0 H0 σ.H → σ.d = [] → Q (.panic [(faultA 3 a, false)]) σ) →
    (∀ l k2, clGo its e endc m acc k = .ok (l, k2) → l.length ≤ k2 → (∀ r ∈ l, I32 r.lo ∧ I32 r.hi) → ∀ (H' : Heap) (lv' : AV) x t, Fr2 b b n0 H0 H' → n0 ≤ H'.size → RdrS b H' its e k2 iv ib → Sl n0 H' 2 (rcells l) l.length lv' → Q (.exit 0) { p := (0, .ptr b 0) :: (1, .int .i32 endc) :: (5, lv') :: (6, .bool neg) :: x, t := t, H := H', d := [], u := .norm }) →
    wpl ⟨bt.get, o⟩ [0, 1, 5, 6] lb_word_Reader_Class_0 { p := [(0, .ptr b 0), (1, .int .i32 endc), (5, lv), (6, .bool neg)], t := [], H := H, d := [], u := .norm } Q := by
  intro m
  induction m with
  | zero =>
    intro acc k lv H hm ha hr hR hn hS hf hF hT
    have := hR.le
    omega
  | succ m ih =>
    intro acc k lv H hm ha hr hR hn hS hf hF hT
    have fr2 : ∀ {H1 H2 : Heap}, Fr b .nils H1 H2 → n0 ≤ H1.size → Fr2 b b n0 H1 H2 := fun h hs => ⟨h.1, fun c h1 h2 _ => h.2 c (by omega) h2 (fun _ _ _ e => by cases e)⟩
    -- the body
    have body : ∀ t x, ¬ (acc ≠ [] ∧ peekR its k = endc) → wpc ⟨bt.get, o⟩ (seqR lb_word_Reader_Class_0) { p := [(0, .ptr b 0), (1, .int .i32 endc), (5, lv), (6, .bool neg), (19, x)], t := t, H := H, d := [], u := .norm } (loopK ⟨bt.get, o⟩ [0, 1, 5, 6] lb_word_Reader_Class_0 Q) := by
      intro t x hc
      have hkm := hR.le
      have hS1 : ∀ {H1 : Heap}, Fr b .nils H H1 → Sl n0 H1 2 (rcells acc) acc.length lv := fun f1 => hS.frame fun ob h1 h2 _ => f1.2 ob (Heap.lt_of_get (by rw [h2]; simp)) (by omega) (fun _ _ _ e => by cases e)
      simp only [lb_word_Reader_Class_0, seqR, go_sem, seqK_normal, blockK_normal, blockK_exit, reduceIte, Nat.reduceEqDiff, Nat.reduceAdd, Nat.reduceSub, Nat.reduceMul, Nat.reduceLeDiff, Nat.reduceLT, reduceCtorEq, Int.reduceToNat, Int.reduceLT, Int.reduceLE, Int.reduceEq, Int.reduceAdd, Int.reduceSub, Int.reduceMul]
      refine k_Rune ho hR (fun a ha H1 f1 => ?_) (fun lo k1 ha H1 f1 R1 => ?_)
      · simp only [go_sem, seqK_normal, blockK_normal, blockK_exit, reduceIte, Nat.reduceEqDiff, Nat.reduceAdd, Nat.reduceSub, Nat.reduceMul, Nat.reduceLeDiff, Nat.reduceLT, reduceCtorEq, Int.reduceToNat, Int.reduceLT, Int.reduceLE, Int.reduceEq, Int.reduceAdd, Int.reduceSub, Int.reduceMul]
        exact hF a (by simp only [clGo, if_neg hc, ha]) _ (hf.trans (fr2 f1 hn)) rfl
      · obtain ⟨lo0, lo1, lk1, lk2⟩ := runeR_bd hs hkm ha
        have hn1 : n0 ≤ H1.size := Nat.le_trans hn f1.1
        have x1 : Ext H1.size H1 (H1.push (.cells [.int .i32 lo, .int .i32 lo] .own)) := Ext.push (Nat.le_refl _)
        have RG := R1.fr x1
        have fG : Fr2 b b n0 H (H1.push (.cells [.int .i32 lo, .int .i32 lo] .own)) := (fr2 f1 hn).trans ⟨x1.1, fun c h1 _ _ => x1.2 c (by omega)⟩
        have SG : Sl n0 (H1.push (.cells [.int .i32 lo, .int .i32 lo] .own)) 2 (rcells acc) acc.length lv := (hS1 f1).push
        have gG : (H1.push (.cells [.int .i32 lo, .int .i32 lo] .own)).get H1.size = .cells [.int .i32 lo, .int .i32 lo] .own := Heap.get_push_self
        have szG : (H1.push (.cells [.int .i32 lo, .int .i32 lo] .own)).size = H1.size + 1 := Heap.size_push _ _
        have hbl : b ≠ H1.size := by omega
        -- one range more
        have add : ∀ (H2 : Heap) (hi : Int) (k2 : Nat) (t x), I32 hi → k < k2 → RdrS b H2 its e k2 iv ib → Fr2 b b n0 H0 H2 → n0 ≤ H2.size → Sl n0 H2 2 (rcells acc) acc.length lv → H2.get H1.size = .cells [.int .i32 lo, .int .i32 hi] .own → clGo its e endc (m + 1) acc k = clGo its e endc m (acc ++ [⟨lo, hi⟩]) k2 → lk 7 x = some (.ptr H1.size 0) →
            wpc ⟨bt.get, o⟩ (.reg [⟨.t 40, .mov (.p 5), none⟩, ⟨.t 41, .loadN 2 (.p 7), none⟩, ⟨.t 42, .lit [.int .i32 0, .int .i32 0] 1 [(0, 2, .t 41)], none⟩, ⟨.t 43, .append 2 8 (.t 40) (.t 42), none⟩, ⟨.p 5, .mov (.t 43), none⟩])
              { p := (0, .ptr b 0) :: (1, .int .i32 endc) :: (5, lv) :: (6, .bool neg) :: x, t := t, H := H2, d := [], u := .norm } (blockK 1 [0, 1, 5, 6] (loopK ⟨bt.get, o⟩ [0, 1, 5, 6] lb_word_Reader_Class_0 Q)) := by
          intro H2 hi k2 t x h32 hkk R2 f2 hn2 S2 g7 ec h7
          · skip
            obtain ⟨nb, H3, ea, x3, s3⟩ := append_spec (bytes := 8) (ys := [.int .i32 lo, .int .i32 hi]) (k := 1) (Sl.push (x := .cells [.int .i32 lo, .int .i32 hi] .own) S2) (by rw [Heap.size_push]; omega) (by omega) rfl (by have := R2.le; have := R2.sm; omega) (by have := R2.le; have := R2.sm; omega)
            simp only [go_sem, seqK_normal, blockK_normal, blockK_exit, reduceIte, Nat.reduceEqDiff, Nat.reduceAdd, Nat.reduceSub, Nat.reduceMul, Nat.reduceLeDiff, Nat.reduceLT, reduceCtorEq, Int.reduceToNat, Int.reduceLT, Int.reduceLE, Int.reduceEq, Int.reduceAdd, Int.reduceSub, Int.reduceMul, h7, g7, ea]
            have x23 : Ext n0 H2 H3 := (Ext.push hn2).trans x3
            rw [ec] at hF hT
            refine ih (acc ++ [⟨lo, hi⟩]) k2 _ H3 (by omega) (by rw [List.length_append]; simp only [List.length_cons, List.length_nil]; omega) (fun r hr' => ?_) (R2.ex x23 hb hi') (Nat.le_trans hn2 x23.1) (by rw [rcells_app, List.length_append]; exact s3) (f2.trans ⟨x23.1, fun c h1 _ _ => x23.2 c h1⟩) hF hT
            rcases List.mem_append.1 hr' with hr' | hr'
            · exact hr r hr'
            · simp at hr'; rw [hr']; exact ⟨(⟨by omega, by omega⟩ : I32 lo), h32⟩
        simp only [go_sem, seqK_normal, blockK_normal, blockK_exit, reduceIte, Nat.reduceEqDiff, Nat.reduceAdd, Nat.reduceSub, Nat.reduceMul, Nat.reduceLeDiff, Nat.reduceLT, reduceCtorEq, Int.reduceToNat, Int.reduceLT, Int.reduceLE, Int.reduceEq, Int.reduceAdd, Int.reduceSub, Int.reduceMul]
        refine k_Skip ho (by omega) RG (fun hp => ?_) (fun hp H2 f2 R2 => ?_)
        · simp only [go_sem, blockK_normal, blockK_exit, reduceIte, Nat.reduceEqDiff, Nat.reduceAdd, Nat.reduceSub, Nat.reduceMul, Nat.reduceLeDiff, Nat.reduceLT, reduceCtorEq, Int.reduceToNat, Int.reduceLT, Int.reduceLE, Int.reduceEq, Int.reduceAdd, Int.reduceSub, Int.reduceMul]
          rw [seqK_normal]
          simp only [go_sem, blockK_normal, blockK_exit, reduceIte, Nat.reduceEqDiff, Nat.reduceAdd, Nat.reduceSub, Nat.reduceMul, Nat.reduceLeDiff, Nat.reduceLT, reduceCtorEq, Int.reduceToNat, Int.reduceLT, Int.reduceLE, Int.reduceEq, Int.reduceAdd, Int.reduceSub, Int.reduceMul]
          rw [seqK_normal]
          refine add _ lo k1 _ _ ⟨by omega, by omega⟩ lk1 RG (hf.trans fG) (by rw [szG]; omega) SG gG ?_ ?_
          · simp only [clGo, if_neg hc, ha, if_neg hp]
          · rfl
        · have g7 : H2.get H1.size = .cells [.int .i32 lo, .int .i32 lo] .own := f2.get gG (by simp) (by omega)
          simp only [go_sem, seqK_normal, blockK_normal, blockK_exit, reduceIte, Nat.reduceEqDiff, Nat.reduceAdd, Nat.reduceSub, Nat.reduceMul, Nat.reduceLeDiff, Nat.reduceLT, reduceCtorEq, Int.reduceToNat, Int.reduceLT, Int.reduceLE, Int.reduceEq, Int.reduceAdd, Int.reduceSub, Int.reduceMul]
          refine k_At ho R2 ?_
          simp only [go_sem, seqK_normal, blockK_normal, blockK_exit, reduceIte, Nat.reduceEqDiff, Nat.reduceAdd, Nat.reduceSub, Nat.reduceMul, Nat.reduceLeDiff, Nat.reduceLT, reduceCtorEq, Int.reduceToNat, Int.reduceLT, Int.reduceLE, Int.reduceEq, Int.reduceAdd, Int.reduceSub, Int.reduceMul]
          have hn2 : n0 ≤ H2.size := Nat.le_trans (by rw [szG]; omega) f2.1
          have fr02 : Fr2 b b n0 H0 H2 := (hf.trans fG).trans (fr2 f2 (by rw [szG]; omega))
          refine k_Rune ho R2 (fun a ha2 H3 f3 => ?_) (fun hi k2 ha2 H3 f3 R3 => ?_)
          · simp only [go_sem, seqK_normal, blockK_normal, blockK_exit, reduceIte, Nat.reduceEqDiff, Nat.reduceAdd, Nat.reduceSub, Nat.reduceMul, Nat.reduceLeDiff, Nat.reduceLT, reduceCtorEq, Int.reduceToNat, Int.reduceLT, Int.reduceLE, Int.reduceEq, Int.reduceAdd, Int.reduceSub, Int.reduceMul]
            exact hF a (by simp only [clGo, if_neg hc, ha, if_pos hp, ha2]) _ (fr02.trans (fr2 f3 hn2)) rfl
          · obtain ⟨h0', h1', h2', h3'⟩ := runeR_bd hs R2.le ha2
            have g73 : H3.get H1.size = .cells [.int .i32 lo, .int .i32 lo] .own := f3.get g7 (by simp) (by omega)
            have l3 : H1.size < H3.size := Heap.lt_of_get (by rw [g73]; simp)
            have fr03 : Fr2 b b n0 H0 H3 := fr02.trans (fr2 f3 hn2)
            have hn3 : n0 ≤ H3.size := Nat.le_trans hn2 f3.1
            have x34 : Ext n0 H3 (H3.set H1.size (.cells [.int .i32 lo, .int .i32 hi] .own)) := Ext.set hn1
            by_cases hlt : hi < lo
            · simp only [go_sem, seqK_normal, blockK_normal, blockK_exit, reduceIte, Nat.reduceEqDiff, Nat.reduceAdd, Nat.reduceSub, Nat.reduceMul, Nat.reduceLeDiff, Nat.reduceLT, reduceCtorEq, Int.reduceToNat, Int.reduceLT, Int.reduceLE, Int.reduceEq, Int.reduceAdd, Int.reduceSub, Int.reduceMul, g73, Heap.get_set_self l3, hlt]
              refine w_Fail ho ?_
              simp only [go_sem, seqK_normal, blockK_normal, blockK_exit, reduceIte, Nat.reduceEqDiff, Nat.reduceAdd, Nat.reduceSub, Nat.reduceMul, Nat.reduceLeDiff, Nat.reduceLT, reduceCtorEq, Int.reduceToNat, Int.reduceLT, Int.reduceLE, Int.reduceEq, Int.reduceAdd, Int.reduceSub, Int.reduceMul]
              exact hF _ (by simp only [clGo, if_neg hc, ha, if_pos hp, ha2, if_pos hlt]) _ (fr03.trans ⟨x34.1, fun c h1 _ _ => x34.2 c h1⟩) rfl
            · simp only [go_sem, blockK_normal, blockK_exit, reduceIte, Nat.reduceEqDiff, Nat.reduceAdd, Nat.reduceSub, Nat.reduceMul, Nat.reduceLeDiff, Nat.reduceLT, reduceCtorEq, Int.reduceToNat, Int.reduceLT, Int.reduceLE, Int.reduceEq, Int.reduceAdd, Int.reduceSub, Int.reduceMul, g73, Heap.get_set_self l3, hlt]
              rw [seqK_normal]
              simp only [go_sem, blockK_normal, blockK_exit, reduceIte, Nat.reduceEqDiff, Nat.reduceAdd, Nat.reduceSub, Nat.reduceMul, Nat.reduceLeDiff, Nat.reduceLT, reduceCtorEq, Int.reduceToNat, Int.reduceLT, Int.reduceLE, Int.reduceEq, Int.reduceAdd, Int.reduceSub, Int.reduceMul, Heap.get_set_self l3, hlt]
              rw [seqK_normal]
              simp only [go_sem, blockK_normal, blockK_exit, reduceIte, Nat.reduceEqDiff, Nat.reduceAdd, Nat.reduceSub, Nat.reduceMul, Nat.reduceLeDiff, Nat.reduceLT, reduceCtorEq, Int.reduceToNat, Int.reduceLT, Int.reduceLE, Int.reduceEq, Int.reduceAdd, Int.reduceSub, Int.reduceMul, Heap.get_set_self l3, hlt]
              rw [seqK_normal]
              have S3 : Sl n0 (H3.set H1.size (.cells [.int .i32 lo, .int .i32 hi] .own)) 2 (rcells acc) acc.length lv := by
                have a1 := SG.frame (H' := H2) fun ob h1 h2 _ => f2.2 ob (Heap.lt_of_get (by rw [h2]; simp)) (by omega) (fun _ _ _ e => by cases e)
                have a2 := a1.frame (H' := H3) fun ob h1 h2 _ => f3.2 ob (Heap.lt_of_get (by rw [h2]; simp)) (by omega) (fun _ _ _ e => by cases e)
                have hne : ∀ ob, lv = .osl 2 ob 0 acc.length → 0 < acc.length → ob < H1.size := by
                  intro ob hob hp
                  rcases hS1 f1 with ⟨_, h, _⟩ | ⟨ob', h1, h2, h3, _⟩
                  · omega
                  · rw [h1] at hob; injection hob with _ hob; rw [← hob]
                    exact Heap.lt_of_get (by rw [h3]; simp)
                rcases a2 with h | ⟨ob, h1, h2, h3, h4, h5⟩
                · exact .inl h
                · have := hne ob h1 h5
                  exact .inr ⟨ob, h1, h2, by rw [Heap.get_set_ne (by omega), h3], h4, h5⟩
              refine add _ hi k2 _ _ ⟨by omega, by omega⟩ (by omega) (R3.ex x34 hb hi') (fr03.trans ⟨x34.1, fun c h1 _ _ => x34.2 c h1⟩) (by rw [Heap.size_set]; exact hn3) S3 (Heap.get_set_self l3) ?_ ?_
              · simp only [clGo, if_neg hc, ha, if_pos hp, ha2, if_neg hlt]
              · rfl
    rw [wpl_step]
    by_cases h0 : acc = []
    · subst h0
      have e0 : lenI lv = some 0 := hS.lenI
      simp only [lb_word_Reader_Class_0, go_sem, blockK_normal, blockK_exit, reduceIte, Nat.reduceEqDiff, Nat.reduceAdd, Nat.reduceSub, Nat.reduceMul, Nat.reduceLeDiff, Nat.reduceLT, reduceCtorEq, Int.reduceToNat, Int.reduceLT, Int.reduceLE, Int.reduceEq, Int.reduceAdd, Int.reduceSub, Int.reduceMul, e0]
      rw [seqK_normal]
      simp only [go_sem, blockK_normal, blockK_exit, reduceIte, Nat.reduceEqDiff, Nat.reduceAdd, Nat.reduceSub, Nat.reduceMul, Nat.reduceLeDiff, Nat.reduceLT, reduceCtorEq, Int.reduceToNat, Int.reduceLT, Int.reduceLE, Int.reduceEq, Int.reduceAdd, Int.reduceSub, Int.reduceMul]
      exact body _ _ (by simp)
    · have hal : acc.length ≠ 0 := fun h => h0 (List.eq_nil_of_length_eq_zero h)
      have z : ¬ (acc.length : Int) = 0 := by omega
      simp only [lb_word_Reader_Class_0, go_sem, blockK_normal, blockK_exit, reduceIte, Nat.reduceEqDiff, Nat.reduceAdd, Nat.reduceSub, Nat.reduceMul, Nat.reduceLeDiff, Nat.reduceLT, reduceCtorEq, Int.reduceToNat, Int.reduceLT, Int.reduceLE, Int.reduceEq, Int.reduceAdd, Int.reduceSub, Int.reduceMul, hS.lenI, z]
      refine k_Peek ho hR ?_
      by_cases hp : peekR its k = endc
      · have e1 : clGo its e endc (m + 1) acc k = .ok (acc, k) := by simp only [clGo, ne_eq, h0, not_false_eq_true, hp, and_self, if_true]
        simp only [go_sem, seqK_normal, blockK_normal, blockK_exit, reduceIte, Nat.reduceEqDiff, Nat.reduceAdd, Nat.reduceSub, Nat.reduceMul, Nat.reduceLeDiff, Nat.reduceLT, reduceCtorEq, Int.reduceToNat, Int.reduceLT, Int.reduceLE, Int.reduceEq, Int.reduceAdd, Int.reduceSub, Int.reduceMul, hp]
        exact hT acc k e1 ha hr H lv _ _ hf hn hR hS
      · simp only [go_sem, blockK_normal, blockK_exit, reduceIte, Nat.reduceEqDiff, Nat.reduceAdd, Nat.reduceSub, Nat.reduceMul, Nat.reduceLeDiff, Nat.reduceLT, reduceCtorEq, Int.reduceToNat, Int.reduceLT, Int.reduceLE, Int.reduceEq, Int.reduceAdd, Int.reduceSub, Int.reduceMul, hp]
        rw [seqK_normal]
        simp only [go_sem, blockK_normal, blockK_exit, reduceIte, Nat.reduceEqDiff, Nat.reduceAdd, Nat.reduceSub, Nat.reduceMul, Nat.reduceLeDiff, Nat.reduceLT, reduceCtorEq, Int.reduceToNat, Int.reduceLT, Int.reduceLE, Int.reduceEq, Int.reduceAdd, Int.reduceSub, Int.reduceMul]
        exact body _ _ (fun h => hp h.2)
end
end Go.Ev

/- What the reader's Class and word.Class come to. -/
namespace Go.Ev
open Go
set_option linter.unusedSimpArgs false
set_option linter.unusedVariables false
set_option maxRecDepth 8000

theorem valN_bd {n : Nat} (h : n ≤ 1112065) : I32 (valN n : Int) := by
  unfold valN I32
  split <;> omega
theorem rngF_bd {l : List S} (h : ∀ x ∈ l, x.1 ≤ 1112065 ∧ x.2 ≤ 1112065) : ∀ r ∈ rngF l, I32 r.lo ∧ I32 r.hi := by
  intro r hr
  obtain ⟨x, hx, rfl⟩ := List.mem_map.1 hr
  have := h x hx
  exact ⟨valN_bd this.1, valN_bd (by omega)⟩
theorem normF_bd (l : List R) : (normF l).length ≤ l.length ∧ ∀ r ∈ normF l, I32 r.lo ∧ I32 r.hi := by
  obtain ⟨h1, h2⟩ := spansF_bd l
  exact ⟨by simpa [normF, rngF] using h1, rngF_bd h2⟩
theorem notF_len (l : List R) : (notF l).length ≤ l.length + 1 := by
  obtain ⟨s1, s2⟩ := spansF_bd l
  have hsa : apart 0 (spansF l) := (mF_spec (l := srtS (preL l)) (fun x hx => preL_ok x (srtS_mem.1 hx)) (srtS_sorted _)).1
  obtain ⟨b1, b2⟩ := gapsF_bd (k := 0) (by omega) hsa s2
  simp only [notF, rngF, List.length_map]
  omega

section
variable {o : CallF} (ho : OvOnly o)
include ho

theorem k_Class {b : Nat} {H : Heap} {its : List It} {e k : Nat} {endc : Int} {iv : AV} {ib : Nat} (hs : Sm its) (hl : its.length ≤ 11) (hR : RdrS b H its e k iv ib) {Q : End → Heap → Prop}
    (hF : ∀ a, classR its e endc k = .error a → ∀ H', Fr2 b b H.size H H' → Q (.pan [(faultA 3 a, false)]) H')
    (hT : ∀ l k2, classR its e endc k = .ok (l, k2) → ∀ H' v, Fr2 b b H.size H H' → RdrS b H' its e k2 iv ib → Sl H.size H' 2 (rcells l) l.length v → l.length ≤ 13 → Q (.ret v) H') : wpf ⟨bt.get, o⟩ F_word_Reader_Class [.ptr b 0, .int .i32 endc] H Q := by
  rw [fn_word_Reader_Class (ho _ _ _ (by decide))]
  have hb : b < H.size := hR.lt
  have hi : 0 < its.length → ib < H.size := fun h => hR.rd.lt h
  -- behind the sign
  have rest : ∀ (neg : Bool) (k1 : Nat) (H1 : Heap) t, neg = decide (peekR its k = 94) → k1 = (if peekR its k = 94 then k + 1 else k) → Fr b .nils H H1 → RdrS b H1 its e k1 iv ib →
      wpc ⟨bt.get, o⟩ (seqR (seqR (seqR bd_word_Reader_Class))) { p := [(0, .ptr b 0), (1, .int .i32 endc), (4, .nils), (5, .nils), (6, .bool neg)], t := t, H := H1, d := [], u := .norm } (finK ⟨bt.get, o⟩ [.slot 4] Q) := by
    intro neg k1 H1 t hneg hk1 f1 R1
    have g1 : Fr2 b b H.size H H1 := ⟨f1.1, fun c h1 h2 _ => f1.2 c h1 h2 (fun _ _ _ e => by cases e)⟩
    simp only [bd_word_Reader_Class, seqR, go_sem, seqK_normal, blockK_normal, blockK_exit, reduceIte, Nat.reduceEqDiff, Nat.reduceAdd, Nat.reduceSub, Nat.reduceMul, Nat.reduceLeDiff, Nat.reduceLT, reduceCtorEq, Int.reduceToNat, Int.reduceLT, Int.reduceLE, Int.reduceEq, Int.reduceAdd, Int.reduceSub, Int.reduceMul]
    refine cl_loop ho hs hb hi (H0 := H) (its.length + 1) [] k1 .nils H1 (by omega) (Nat.zero_le _) (fun r hr => by cases hr) R1 f1.1 Sl.nil g1 (fun a ha σ f2 d2 => ?_) (fun l k2 ha hll hlr H2 lv x t f2 n2 R2 S2 => ?_)
    · simp only [go_sem, seqK_normal, blockK_normal, blockK_exit, reduceIte, Nat.reduceEqDiff, Nat.reduceAdd, Nat.reduceSub, Nat.reduceMul, Nat.reduceLeDiff, Nat.reduceLT, reduceCtorEq, Int.reduceToNat, Int.reduceLT, Int.reduceLE, Int.reduceEq, Int.reduceAdd, Int.reduceSub, Int.reduceMul, d2]
      exact hF a (by simp only [classR, ← hk1, ha]) _ f2
    · have hk2 := R2.le
      obtain ⟨rb, RL, _⟩ := S2.rd
      obtain ⟨nb1, nb2⟩ := normF_bd l
      simp only [go_sem, seqK_normal, blockK_normal, blockK_exit, reduceIte, Nat.reduceEqDiff, Nat.reduceAdd, Nat.reduceSub, Nat.reduceMul, Nat.reduceLeDiff, Nat.reduceLT, reduceCtorEq, Int.reduceToNat, Int.reduceLT, Int.reduceLE, Int.reduceEq, Int.reduceAdd, Int.reduceSub, Int.reduceMul]
      refine r_Norm ho (by omega) hlr RL fun H3 v3 x3 s3 => ?_
      have R3 := R2.fr x3
      have g3 : Fr2 b b H.size H H3 := f2.trans ⟨x3.1, fun c h1 _ _ => x3.2 c (by omega)⟩
      have fin : ∀ (s : List R) (H4 : Heap) (v4 : AV) t, s = (if peekR its k = 94 then notF (normF l) else normF l) → s.length ≤ 13 → Fr2 b b H.size H H4 → RdrS b H4 its e k2 iv ib → Sl H.size H4 2 (rcells s) s.length v4 →
          wpc ⟨bt.get, o⟩ (seqR (seqR (seqR (seqR (seqR bd_word_Reader_Class))))) { p := [(0, .ptr b 0), (5, v4), (6, .bool neg), (46, .bool neg)], t := t, H := H4, d := [], u := .norm } (finK ⟨bt.get, o⟩ [.slot 4] Q) := by
        intro s H4 v4 t hsd hsl f4 R4 S4
        by_cases he : s = []
        · subst he
          have e0 : lenI v4 = some 0 := S4.lenI
          simp only [bd_word_Reader_Class, seqR, go_sem, seqK_normal, blockK_normal, blockK_exit, reduceIte, Nat.reduceEqDiff, Nat.reduceAdd, Nat.reduceSub, Nat.reduceMul, Nat.reduceLeDiff, Nat.reduceLT, reduceCtorEq, Int.reduceToNat, Int.reduceLT, Int.reduceLE, Int.reduceEq, Int.reduceAdd, Int.reduceSub, Int.reduceMul, e0]
          refine k_At ho R4 ?_
          simp only [go_sem, seqK_normal, blockK_normal, blockK_exit, reduceIte, Nat.reduceEqDiff, Nat.reduceAdd, Nat.reduceSub, Nat.reduceMul, Nat.reduceLeDiff, Nat.reduceLT, reduceCtorEq, Int.reduceToNat, Int.reduceLT, Int.reduceLE, Int.reduceEq, Int.reduceAdd, Int.reduceSub, Int.reduceMul]
          refine w_Fail ho ?_
          simp only [go_sem, seqK_normal, blockK_normal, blockK_exit, reduceIte, Nat.reduceEqDiff, Nat.reduceAdd, Nat.reduceSub, Nat.reduceMul, Nat.reduceLeDiff, Nat.reduceLT, reduceCtorEq, Int.reduceToNat, Int.reduceLT, Int.reduceLE, Int.reduceEq, Int.reduceAdd, Int.reduceSub, Int.reduceMul]
          exact hF _ (by simp only [classR, ← hk1, ha, ← hsd, if_true]) _ f4
        · have hz : ¬ (s.length : Int) = 0 := by
            intro h; apply he; exact List.eq_nil_of_length_eq_zero (by omega)
          simp only [bd_word_Reader_Class, seqR, go_sem, seqK_normal, blockK_normal, blockK_exit, reduceIte, Nat.reduceEqDiff, Nat.reduceAdd, Nat.reduceSub, Nat.reduceMul, Nat.reduceLeDiff, Nat.reduceLT, reduceCtorEq, Int.reduceToNat, Int.reduceLT, Int.reduceLE, Int.reduceEq, Int.reduceAdd, Int.reduceSub, Int.reduceMul, S4.lenI, hz]
          exact hT s k2 (by simp only [classR, ← hk1, ha, ← hsd, if_neg he]) _ _ f4 R4 S4 hsl
      cases neg
      · have hp : ¬ peekR its k = 94 := by simpa using hneg.symm
        simp only [go_sem, blockK_normal, blockK_exit, reduceIte, Nat.reduceEqDiff, Nat.reduceAdd, Nat.reduceSub, Nat.reduceMul, Nat.reduceLeDiff, Nat.reduceLT, reduceCtorEq, Int.reduceToNat, Int.reduceLT, Int.reduceLE, Int.reduceEq, Int.reduceAdd, Int.reduceSub, Int.reduceMul]
        rw [seqK_normal]
        simp only [go_sem, blockK_normal, blockK_exit, reduceIte, Nat.reduceEqDiff, Nat.reduceAdd, Nat.reduceSub, Nat.reduceMul, Nat.reduceLeDiff, Nat.reduceLT, reduceCtorEq, Int.reduceToNat, Int.reduceLT, Int.reduceLE, Int.reduceEq, Int.reduceAdd, Int.reduceSub, Int.reduceMul]
        rw [seqK_normal]
        simp only [go_sem, blockK_normal, blockK_exit, reduceIte, Nat.reduceEqDiff, Nat.reduceAdd, Nat.reduceSub, Nat.reduceMul, Nat.reduceLeDiff, Nat.reduceLT, reduceCtorEq, Int.reduceToNat, Int.reduceLT, Int.reduceLE, Int.reduceEq, Int.reduceAdd, Int.reduceSub, Int.reduceMul]
        exact fin (normF l) H3 v3 _ (by rw [if_neg hp]) (by omega) g3 R3 (s3.frame' n2)
      · have hp : peekR its k = 94 := by simpa using hneg.symm
        simp only [go_sem, blockK_normal, blockK_exit, reduceIte, Nat.reduceEqDiff, Nat.reduceAdd, Nat.reduceSub, Nat.reduceMul, Nat.reduceLeDiff, Nat.reduceLT, reduceCtorEq, Int.reduceToNat, Int.reduceLT, Int.reduceLE, Int.reduceEq, Int.reduceAdd, Int.reduceSub, Int.reduceMul]
        rw [seqK_normal]
        simp only [go_sem, blockK_normal, blockK_exit, reduceIte, Nat.reduceEqDiff, Nat.reduceAdd, Nat.reduceSub, Nat.reduceMul, Nat.reduceLeDiff, Nat.reduceLT, reduceCtorEq, Int.reduceToNat, Int.reduceLT, Int.reduceLE, Int.reduceEq, Int.reduceAdd, Int.reduceSub, Int.reduceMul]
        rw [seqK_normal]
        simp only [go_sem, blockK_normal, blockK_exit, reduceIte, Nat.reduceEqDiff, Nat.reduceAdd, Nat.reduceSub, Nat.reduceMul, Nat.reduceLeDiff, Nat.reduceLT, reduceCtorEq, Int.reduceToNat, Int.reduceLT, Int.reduceLE, Int.reduceEq, Int.reduceAdd, Int.reduceSub, Int.reduceMul]
        obtain ⟨rb2, RN, _⟩ := s3.rd
        refine r_Not ho (by omega) nb2 RN fun H4 v4 x4 s4 => ?_
        simp only [go_sem, blockK_normal, blockK_exit, reduceIte, Nat.reduceEqDiff, Nat.reduceAdd, Nat.reduceSub, Nat.reduceMul, Nat.reduceLeDiff, Nat.reduceLT, reduceCtorEq, Int.reduceToNat, Int.reduceLT, Int.reduceLE, Int.reduceEq, Int.reduceAdd, Int.reduceSub, Int.reduceMul]
        have hn3 := notF_len (normF l)
        have hsz3 : H.size ≤ H3.size := Nat.le_trans n2 x3.1
        exact fin (notF (normF l)) H4 v4 _ (by rw [if_pos hp]) (by omega) (g3.trans ⟨x4.1, fun c h1 _ _ => x4.2 c (by omega)⟩) (R3.fr x4) (s4.frame' hsz3)
  simp only [bd_word_Reader_Class, go_sem, seqK_normal, blockK_normal, blockK_exit, reduceIte, Nat.reduceEqDiff, Nat.reduceAdd, Nat.reduceSub, Nat.reduceMul, Nat.reduceLeDiff, Nat.reduceLT, reduceCtorEq, Int.reduceToNat, Int.reduceLT, Int.reduceLE, Int.reduceEq, Int.reduceAdd, Int.reduceSub, Int.reduceMul]
  refine k_Skip ho (by omega) hR (fun hp => ?_) (fun hp H1 f1 R1 => ?_)
  · simp only [go_sem, blockK_normal, blockK_exit, reduceIte, Nat.reduceEqDiff, Nat.reduceAdd, Nat.reduceSub, Nat.reduceMul, Nat.reduceLeDiff, Nat.reduceLT, reduceCtorEq, Int.reduceToNat, Int.reduceLT, Int.reduceLE, Int.reduceEq, Int.reduceAdd, Int.reduceSub, Int.reduceMul]
    exact rest false k H _ (by simp [hp]) (by rw [if_neg hp]) Fr.refl hR
  · simp only [go_sem, blockK_normal, blockK_exit, reduceIte, Nat.reduceEqDiff, Nat.reduceAdd, Nat.reduceSub, Nat.reduceMul, Nat.reduceLeDiff, Nat.reduceLT, reduceCtorEq, Int.reduceToNat, Int.reduceLT, Int.reduceLE, Int.reduceEq, Int.reduceAdd, Int.reduceSub, Int.reduceMul]
    exact rest true (k + 1) H1 _ (by simp [hp]) (by rw [if_pos hp]) f1 R1

omit ho in
theorem decR_le (l : List UInt8) : decR l ≤ 2097151 := by
  unfold decR
  split
  · rename_i a; have := a.toNat_lt; omega
  all_goals omega
omit ho in
theorem afterM_sm (held : List UInt8) (c : UInt8) (at_ : Nat) : ∀ x ∈ (afterM held c at_).2.2, x.rune ≤ 2097151 := by
  intro x hx
  unfold afterM at hx
  split at hx
  · simp at hx; rw [hx]; exact decR_le _
  · simp at hx
omit ho in
theorem feedD_sm : ∀ (r held : List UInt8) (at_ : Nat), ∀ x ∈ (feedD r held at_).2.2, x.rune ≤ 2097151
  | [], _, _, x, hx => by simp [feedD] at hx
  | c :: r, held, at_, x, hx => by
    simp only [feedD, List.mem_append] at hx
    rcases hx with hx | hx
    · have t0 : ∀ x ∈ (take0 c (at_ + held.length)).2.2, x.rune ≤ 2097151 := by
        intro x hx
        unfold take0 at hx
        split at hx
        · exact afterM_sm _ _ _ x hx
        · simp at hx; rw [hx]; simp
      unfold takeB at hx
      split at hx
      · exact afterM_sm _ _ _ x hx
      · split at hx
        · simp at hx; rw [hx]; simp
        · rcases List.mem_cons.1 hx with hx | hx
          · rw [hx]; simp
          · exact t0 x hx
    · exact feedD_sm r _ _ x hx
omit ho in
theorem decAll_sm (s : List UInt8) : Sm (decAll s) := by
  intro x hx
  rcases List.mem_append.1 hx with hx | hx
  · exact feedD_sm _ _ _ x hx
  · unfold closeD at hx
    split at hx
    · cases hx
    · simp at hx; rw [hx]; simp

theorem w_Class {s : List UInt8} (hs : s.length ≤ 300000) (hl : (decAll s).length ≤ 11) {H : Heap} {Q : End → Heap → Prop} (hG : GlH H)
    (hE : ∀ l, classF s = .ok l → ∀ H' v, Ext H.size H H' → Sl H.size H' 2 (rcells l) l.length v → l.length ≤ 13 → Q (.ret (.tup [v, .int .i64 0, .int .i64 0])) H')
    (hP : ∀ a, classF s = .error a → ∀ H', Ext H.size H H' → Q (.ret (.tup [.nils, .int .i64 3, .int .i64 a])) H') : wpf ⟨bt.get, o⟩ F_word_Class [.str s] H Q := by
  rw [fn_word_Class (ho _ _ _ (by decide))]
  simp only [bd_word_Class, go_sem, seqK_normal, blockK_normal, blockK_exit, reduceIte, Nat.reduceEqDiff, Nat.reduceAdd, Nat.reduceSub, Nat.reduceMul, Nat.reduceLeDiff, Nat.reduceLT, reduceCtorEq, Int.reduceToNat, Int.reduceLT, Int.reduceLE, Int.reduceEq, Int.reduceAdd, Int.reduceSub, Int.reduceMul]
  generalize hH2 : (H.push (Blk.cells [AV.str s] Use.own)).push (Blk.cells [AV.nils] Use.own) = H2
  have sz2 : H2.size = H.size + 2 := by rw [← hH2]; rfl
  have f0 : H2.get H.size = .cells [.str s] .own := by rw [← hH2]; simp [Heap.get_push, Heap.size_push]
  have f1 : H2.get (H.size + 1) = .cells [.nils] .own := by rw [← hH2]; simp [Heap.get_push, Heap.size_push]
  have x2 : Ext H.size H H2 := by rw [← hH2]; exact (Ext.push (Nat.le_refl _)).trans (Ext.push (by rw [Heap.size_push]; omega))
  -- the work's call
  have work : wpf ⟨bt.get, o⟩ F_word_Class_1 [.ptr H.size 0, .ptr (H.size + 1) 0] (H2.push (.cells [.int .i64 0, .int .i64 0] .own)) fun e H' => Ext H.size H2 H' ∧ H'.get (H.size + 2) = .cells [.int .i64 0, .int .i64 0] .own ∧
      ((∃ l v, classF s = .ok l ∧ e = .ret (.tup []) ∧ H'.get (H.size + 1) = .cells [v] .own ∧ Sl (H.size + 3) H' 2 (rcells l) l.length v ∧ l.length ≤ 13) ∨ ∃ k : Nat, classF s = .error k ∧ e = .pan [(faultA 3 k, false)] ∧ H'.get (H.size + 1) = .cells [.nils] .own) := by
    rw [fn_word_Class_1 (ho _ _ _ (by decide))]
    have g0 : (H2.push (.cells [.int .i64 0, .int .i64 0] .own)).get H.size = .cells [.str s] .own := by rw [Heap.get_push_lt (by omega), f0]
    have g1 : (H2.push (.cells [.int .i64 0, .int .i64 0] .own)).get (H.size + 1) = .cells [.nils] .own := by rw [Heap.get_push_lt (by omega), f1]
    have g2 : (H2.push (.cells [.int .i64 0, .int .i64 0] .own)).get (H.size + 2) = .cells [.int .i64 0, .int .i64 0] .own := by rw [Heap.get_push_eq sz2.symm]
    have sz3 : (H2.push (.cells [.int .i64 0, .int .i64 0] .own)).size = H.size + 3 := by rw [Heap.size_push, sz2]
    have y3 : Ext H.size H2 (H2.push (.cells [.int .i64 0, .int .i64 0] .own)) := Ext.push (by omega)
    have hG3 : GlH (H2.push (.cells [.int .i64 0, .int .i64 0] .own)) := (hG.ext hG.1 x2).ext hG.1 y3
    generalize H2.push (.cells [.int .i64 0, .int .i64 0] .own) = H3 at g0 g1 g2 sz3 y3 hG3 ⊢
    have hsl : s.length ≤ 1099511627776 := by omega
    simp only [bd_word_Class_1, go_sem, seqK_normal, blockK_normal, blockK_exit, reduceIte, Nat.reduceEqDiff, Nat.reduceAdd, Nat.reduceSub, Nat.reduceMul, Nat.reduceLeDiff, Nat.reduceLT, reduceCtorEq, Int.reduceToNat, Int.reduceLT, Int.reduceLE, Int.reduceEq, Int.reduceAdd, Int.reduceSub, Int.reduceMul, g0]
    rw [fn_word_Read (ho _ _ _ (by decide))]
    simp only [bd_word_Read, go_sem, seqK_normal, blockK_normal, blockK_exit, reduceIte, Nat.reduceEqDiff, Nat.reduceAdd, Nat.reduceSub, Nat.reduceMul, Nat.reduceLeDiff, Nat.reduceLT, reduceCtorEq, Int.reduceToNat, Int.reduceLT, Int.reduceLE, Int.reduceEq, Int.reduceAdd, Int.reduceSub, Int.reduceMul, hsl]
    refine d_All ho (by omega) (hG3.ext hG3.1 (Ext.push (Nat.le_refl _))) Heap.get_push_self fun H4 iv x4 hiv hil => ?_
    obtain ⟨ib, hRd, hib⟩ := hiv.rd
    obtain ⟨c1, c2⟩ := hiv.one
    have z4 : Ext H3.size H3 H4 := (Ext.push (Nat.le_refl _)).trans (x4.le (by rw [Heap.size_push]; omega))
    simp only [go_sem, seqK_normal, blockK_normal, blockK_exit, reduceIte, Nat.reduceEqDiff, Nat.reduceAdd, Nat.reduceSub, Nat.reduceMul, Nat.reduceLeDiff, Nat.reduceLT, reduceCtorEq, Int.reduceToNat, Int.reduceLT, Int.reduceLE, Int.reduceEq, Int.reduceAdd, Int.reduceSub, Int.reduceMul, c1, c2]
    have x5 : Ext H4.size H4 (H4.push (.cells [iv, .int .i64 0, .int .i64 s.length] .own)) := Ext.push (Nat.le_refl _)
    have RR : RdrS H4.size (H4.push (.cells [iv, .int .i64 0, .int .i64 s.length] .own)) (decAll s) s.length 0 iv ib :=
      ⟨Heap.get_push_self, hRd.ext x5, fun hp => by have := hRd.lt hp; omega, Nat.zero_le _, by omega⟩
    have z5 : Ext H3.size H3 (H4.push (.cells [iv, .int .i64 0, .int .i64 s.length] .own)) := z4.trans (x5.le z4.1)
    have szz := z4.1
    refine k_Class ho (decAll_sm s) hl RR (fun a ha H6 f6 => ?_) (fun l k2 ha H6 v f6 R6 s6 l13 => ?_)
    · have keep : ∀ c, c < H3.size → H6.get c = H3.get c := fun c hc => by
        rw [f6.2 c (by rw [Heap.size_push]; omega) (by omega) (by omega), z5.2 c hc]
      simp only [go_sem, seqK_normal, blockK_normal, blockK_exit, reduceIte, Nat.reduceEqDiff, Nat.reduceAdd, Nat.reduceSub, Nat.reduceMul, Nat.reduceLeDiff, Nat.reduceLT, reduceCtorEq, Int.reduceToNat, Int.reduceLT, Int.reduceLE, Int.reduceEq, Int.reduceAdd, Int.reduceSub, Int.reduceMul]
      refine ⟨y3.trans ⟨Nat.le_trans z5.1 f6.1, fun c hc => keep c (by omega)⟩, by rw [keep _ (by omega), g2], .inr ⟨a, by simp only [classF, ha], rfl, by rw [keep _ (by omega), g1]⟩⟩
    · have keep : ∀ c, c < H3.size → H6.get c = H3.get c := fun c hc => by
        rw [f6.2 c (by rw [Heap.size_push]; omega) (by omega) (by omega), z5.2 c hc]
      have q1 : H6.get (H.size + 1) = .cells [.nils] .own := by rw [keep _ (by omega), g1]
      have lt : H.size + 1 < H6.size := Heap.lt_of_get (by rw [q1]; simp)
      obtain ⟨v1, v2⟩ := s6.one
      simp only [go_sem, seqK_normal, blockK_normal, blockK_exit, reduceIte, Nat.reduceEqDiff, Nat.reduceAdd, Nat.reduceSub, Nat.reduceMul, Nat.reduceLeDiff, Nat.reduceLT, reduceCtorEq, Int.reduceToNat, Int.reduceLT, Int.reduceLE, Int.reduceEq, Int.reduceAdd, Int.reduceSub, Int.reduceMul, q1, v1, v2]
      refine ⟨(y3.trans ⟨Nat.le_trans z5.1 f6.1, fun c hc => keep c (by omega)⟩).trans (Ext.set (by omega)), by rw [Heap.get_set_ne (by omega), keep _ (by omega), g2], .inl ⟨l, v, by simp only [classF, ha], Heap.get_set_self lt, ?_, l13⟩⟩
      exact (s6.frame' (by rw [Heap.size_push]; omega)).set (by omega)
  refine w_Caught ho work fun e H' hR => ?_
  obtain ⟨r1, r3, r4⟩ := hR
  rw [sz2]
  refine ⟨r3, ?_⟩
  have szl : H.size + 3 ≤ H'.size := by have := Heap.lt_of_get (H := H') (b := H.size + 2) (by rw [r3]; simp); omega
  rcases r4 with ⟨l, v, hl, rfl, r5, r6, l13⟩ | ⟨k, hk, rfl, r5⟩
  · refine .inl ⟨_, rfl, fun H'' hk => ?_⟩
    have u1 : Ext H.size H H'' := (x2.trans r1).trans ⟨hk.1, fun c hc => hk.2 c (by omega) (by omega) (fun _ _ _ e => by cases e)⟩
    have u2 : H''.get (H.size + 1) = .cells [v] .own := by rw [hk.2 _ (by omega) (by omega) (fun _ _ _ e => by cases e), r5]
    have sz'' := hk.1
    have u3 : ∀ x, (H''.push x).get (H.size + 1) = .cells [v] .own := fun x => by rw [Heap.get_push_lt (by omega), u2]
    simp only [go_sem, seqK_normal, blockK_normal, blockK_exit, reduceIte, Nat.reduceEqDiff, Nat.reduceAdd, Nat.reduceSub, Nat.reduceMul, Nat.reduceLeDiff, Nat.reduceLT, reduceCtorEq, Int.reduceToNat, Int.reduceLT, Int.reduceLE, Int.reduceEq, Int.reduceAdd, Int.reduceSub, Int.reduceMul, u3]
    refine hE l hl _ _ (u1.trans (Ext.push (by omega))) ?_ l13
    exact Sl.push ((r6.frame fun ob h1 h2 h3 => hk.2 ob (Heap.lt_of_get (by rw [h2]; simp)) (by omega) (fun _ _ _ e => by cases e)).frame' (by omega))
  · refine .inr ⟨3, k, rfl, fun H'' hk' => ?_⟩
    have u1 : Ext H.size H H'' := (x2.trans r1).trans ⟨hk'.1, fun c hc => hk'.2 c (by omega) (by omega) (fun _ _ _ e => by cases e)⟩
    have sz'' := hk'.1
    simp only [go_sem, seqK_normal, blockK_normal, blockK_exit, reduceIte, Nat.reduceEqDiff, Nat.reduceAdd, Nat.reduceSub, Nat.reduceMul, Nat.reduceLeDiff, Nat.reduceLT, reduceCtorEq, Int.reduceToNat, Int.reduceLT, Int.reduceLE, Int.reduceEq, Int.reduceAdd, Int.reduceSub, Int.reduceMul]
    exact hP k hk _ (u1.trans (Ext.push (by omega)))
end
end Go.Ev
