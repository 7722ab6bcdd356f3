/- Several texts of this claim, joined. -/
import Derived.Test.YtifhmogcdgfojaaGreatDoorT27
import Derived.Test.YtifhmogcdgfojaaGreatDoorT26
import Derived.Test.YtifhmogcdgfojaaGreatDoorT24
set_option linter.unusedSimpArgs false
set_option linter.unusedVariables false

/- Package decode: Close, All. -/
namespace Go.Ev
open Go
open Go.Ev renaming seqK_normal → zA, blockK_normal → zB, blockK_exit → zC
open Nat renaming reduceEqDiff → zD, reduceAdd → zE, reduceSub → zF, reduceMul → zG, reduceLeDiff → zH, reduceLT → zI
open Int renaming reduceToNat → zJ, reduceLT → zK, reduceLE → zL, reduceEq → zM, reduceAdd → zN, reduceSub → zO, reduceMul → zP
set_option maxRecDepth 8000
theorem ic_one : ∀ l : List It, (icells l).all AV.one = true
  | [] => rfl
  | x :: l => by
    rw [icells, List.flatMap_cons, List.all_append, ← icells, ic_one l]; rfl
theorem closeD_len (held : List UInt8) (at_ : Nat) : (closeD held at_).length ≤ 1 := by
  unfold closeD; split <;> simp
section
variable {o : CallF} (ho : OvOnly o)
include ho
theorem d_Close {b : Nat} {H : Heap} {Q : End → Heap → Prop} {held : List UInt8} {at_ : Nat} (hG : GlH H) (hb3 : 8 ≤ b) (hD : DecS b H held at_ false []) (hat : at_ + held.length ≤ 900000)
    (h : ∀ H' v, Fr b .nils H H' → Sl (b + 1) H' 5 (icells (closeD held at_)) (closeD held at_).length v → Q (.ret v) H') :
    wpf ⟨bt.get, o⟩ F_decode_Dec_Close [.ptr b 0] H Q := by
  rw [fn_decode_Dec_Close (ho _ _ _ (by decide))]
  obtain ⟨hv, ov, hg, hS, hO⟩ := hD
  have hov : ov = .nils := by
    rcases hO with ⟨h1, _⟩ | ⟨_, _, _, _, _, h5⟩
    · exact h1
    · simp at h5
  subst hov
  have hlt : b < H.size := Heap.lt_of_get (by rw [hg]; simp)
  cases held with
  | nil =>
    simp only [bd_decode_Dec_Close, go_sem, zA, zB, zC, reduceIte, zD, zE, zF, zG, zH, zI, reduceCtorEq, zJ, zK, zL, zM, zN, zO, zP, hg, Heap.get_set_self hlt, hS.lenI, List.length_nil]
    refine d_taken ho (Heap.get_set_self hlt) ?_
    simp only [go_sem, zA, zB, zC, reduceIte, zD, zE, zF, zG, zH, zI, reduceCtorEq, zJ, zK, zL, zM, zN, zO, zP]
    refine h _ _ ⟨Nat.le_refl _, fun c h1 h2 h3 => Heap.get_set_ne h2⟩ Sl.nil
  | cons a held =>
    have hlp : (0 : Int) < ((held.length + 1 : Nat) : Int) := by omega
    simp only [bd_decode_Dec_Close, go_sem, zA, zB, zC, reduceIte, zD, zE, zF, zG, zH, zI, reduceCtorEq, zJ, zK, zL, zM, zN, zO, zP, hg, Heap.get_set_self hlt, hS.lenI, hlp]
    refine d_tell ho (hb := 0) (held := a :: held) (out := []) (at_ := at_) (cl := true) (ov := .nils) (hv := hv) (hG.ext hb3 (Ext.set (Nat.le_refl _))) hb3 (Heap.get_set_self hlt) hS.lenI (by omega) Sl.nil (by simp) (fun h => by cases h) fun H' ov' k1 k2 k3 => ?_
    simp only [go_sem, zA, zB, zC, reduceIte, zD, zE, zF, zG, zH, zI, reduceCtorEq, zJ, zK, zL, zM, zN, zO, zP]
    refine d_taken ho k2 ?_
    simp only [go_sem, zA, zB, zC, reduceIte, zD, zE, zF, zG, zH, zI, reduceCtorEq, zJ, zK, zL, zM, zN, zO, zP]
    refine h _ _ ⟨by rw [Heap.size_set]; have := k1.1; rw [Heap.size_set] at this; exact this, fun c h1 h2 h3 => ?_⟩ (k3.set (by omega))
    rw [Heap.get_set_ne h2, k1.2 c (by rw [Heap.size_set]; exact h1) h2 h3, Heap.get_set_ne h2]
theorem d_All {s : List UInt8} (hs : s.length ≤ 300000) {sb : Nat} {H : Heap} {Q : End → Heap → Prop} (hG : GlH H) (hg : H.get sb = .cells (byteCells s) .own)
    (h : ∀ H' v, Ext H.size H H' → Sl H.size H' 5 (icells (decAll s)) (decAll s).length v → (decAll s).length ≤ 2 * s.length + 1 → Q (.ret v) H') :
    wpf ⟨bt.get, o⟩ F_decode_All [.osl 1 sb 0 s.length] H Q := by
  rw [fn_decode_All (ho _ _ _ (by decide))]
  simp only [bd_decode_All, go_sem, zA, zB, zC, reduceIte, zD, zE, zF, zG, zH, zI, reduceCtorEq, zJ, zK, zL, zM, zN, zO, zP]
  rw [fn_decode_New (ho _ _ _ (by decide))]
  simp only [bd_decode_New, go_sem, zA, zB, zC, reduceIte, zD, zE, zF, zG, zH, zI, reduceCtorEq, zJ, zK, zL, zM, zN, zO, zP]
  have hlt : sb < H.size := Heap.lt_of_get (by rw [hg]; simp)
  refine d_Feed ho hs hG.1 hlt (hG.ext hG.1 (Ext.push (Nat.le_refl _))) (by rw [Heap.get_push_lt hlt, hg]) ⟨.nils, .nils, Heap.get_push_self, Sl.nil, Sl.nil⟩ fun H1 v hx hD hS hp1 hp2 hp3 => ?_
  simp only [go_sem, zA, zB, zC, reduceIte, zD, zE, zF, zG, zH, zI, reduceCtorEq, zJ, zK, zL, zM, zN, zO, zP]
  have x1 : Ext H.size H H1 := (Ext.push (Nat.le_refl _)).trans hx
  refine d_Close ho (hG.ext hG.1 x1) hG.1 hD (by omega) fun H2 v2 hf hS2 => ?_
  have l1 := closeD_len (feedD s [] 0).1 (feedD s [] 0).2.1
  have x2 : Ext H.size H1 H2 := ⟨hf.1, fun c hc => hf.2 c (Nat.lt_of_lt_of_le hc x1.1) (by omega) (fun _ _ _ e => by cases e)⟩
  have hS' : Sl (H.size + 1) H2 5 (icells (feedD s [] 0).2.2) (feedD s [] 0).2.2.length v := hS.frame fun ob h1 h2 h3 => hf.2 ob (Heap.lt_of_get (by rw [h2]; simp)) (by omega) (fun _ _ _ e => by cases e)
  have hlen : (decAll s).length = (feedD s [] 0).2.2.length + (closeD (feedD s [] 0).1 (feedD s [] 0).2.1).length := by rw [decAll, List.length_append]
  rcases hS2 with ⟨rfl, h0, _⟩ | ⟨cb, rfl, hcb, hgc, hlc, hpc⟩
  · have e0 : closeD (feedD s [] 0).1 (feedD s [] 0).2.1 = [] := List.eq_nil_of_length_eq_zero h0
    have ea : appendA H2 5 32 v 0 [] = some (v, H2) := by
      rcases hS'.form with rfl | ⟨_, _, _, _, rfl⟩ <;> rfl
    simp only [go_sem, zA, zB, zC, reduceIte, zD, zE, zF, zG, zH, zI, reduceCtorEq, zJ, zK, zL, zM, zN, zO, zP, ea]
    refine h _ _ (x1.trans x2) ?_ (by omega)
    rw [decAll, e0, List.append_nil]
    exact hS'.frame' (Nat.le_succ _)
  · have e1 : List.take ((closeD (feedD s [] 0).1 (feedD s [] 0).2.1).length * 5) (icells (closeD (feedD s [] 0).1 (feedD s [] 0).2.1)) = icells (closeD (feedD s [] 0).1 (feedD s [] 0).2.1) := List.take_of_length_le (by rw [icells_len]; exact Nat.le_refl _)
    have e2 : ¬ (closeD (feedD s [] 0).1 (feedD s [] 0).2.1).length = 0 := by omega
    obtain ⟨b3, H3, ea, hx3, hsl⟩ := append_spec (bytes := 32) (ys := icells (closeD (feedD s [] 0).1 (feedD s [] 0).2.1)) (k := (closeD (feedD s [] 0).1 (feedD s [] 0).2.1).length) hS' (by have := Heap.lt_of_get (H := H2) (b := cb) (by rw [hgc]; simp); omega) hpc hlc (by omega) (by omega)
    simp only [go_sem, zA, zB, zC, reduceIte, zD, zE, zF, zG, zH, zI, reduceCtorEq, zJ, zK, zL, zM, zN, zO, zP, hgc, e2, icells_len, Nat.le_refl, e1, ic_one, ea]
    refine h _ _ ((x1.trans x2).trans (hx3.le (by omega))) ?_ (by omega)
    rw [hlen, decAll, icells_app]
    exact hsl.frame' (Nat.le_succ _)
end
/- What word.All comes to. -/
set_option maxRecDepth 8000
theorem icells_at : ∀ {l : List It} {i : Nat} {x : It}, l[i]? = some x → List.take 5 (List.drop (i * 5) (icells l)) = x.cells ∧ i * 5 + 5 ≤ (icells l).length
  | y :: l, 0, x, h => by
    simp only [List.getElem?_cons_zero, Option.some.injEq] at h; subst h
    constructor
    · rfl
    · rw [icells_len, List.length_cons]; omega
  | y :: l, i + 1, x, h => by
    have := icells_at (l := l) (i := i) (x := x) (by simpa using h)
    constructor
    · rw [icells, List.flatMap_cons, ← icells, show (i + 1) * 5 = 5 + i * 5 by omega, ← List.drop_drop]
      exact this.1
    · rw [icells_len, List.length_cons]; have h2 := this.2; rw [icells_len] at h2; omega
section
variable {o : CallF} (ho : OvOnly o)
include ho
theorem w_Caught {f : FuncId} {cap : List AV} {H : Heap} {Q R : End → Heap → Prop} (h : wpf ⟨bt.get, o⟩ f cap (H.push (.cells [.int .i64 0, .int .i64 0] .own)) R)
    (hr : ∀ e H', R e H' → H'.get H.size = .cells [.int .i64 0, .int .i64 0] .own ∧ ((∃ v, e = .ret v ∧ ∀ H'', Fr H.size .nils H' H'' → Q (.ret (.agg [.int .i64 0, .int .i64 0])) H'') ∨ ∃ c k, e = .pan [(faultA c k, false)] ∧ ∀ H'', Fr H.size .nils H' H'' → Q (.ret (.agg [.int .i64 c, .int .i64 k])) H'')) : wpf ⟨bt.get, o⟩ F_word_Caught [.fn f cap] H Q := by
  rw [fn_word_Caught (ho _ _ _ (by decide))]
  simp only [bd_word_Caught, go_sem, zA, zB, zC, reduceIte, zD, zE, zF, zG, zH, zI, reduceCtorEq, zJ, zK, zL, zM, zN, zO, zP]
  refine wpf_mono h fun e H' hR => ?_
  obtain ⟨g, hc⟩ := hr e H' hR
  have lt : H.size < H'.size := Heap.lt_of_get (by rw [g]; simp)
  rcases hc with ⟨v, rfl, hq⟩ | ⟨c, k, rfl, hq⟩
  · simp only [go_sem, zA, zB, zC, reduceIte, zD, zE, zF, zG, zH, zI, reduceCtorEq, zJ, zK, zL, zM, zN, zO, zP, g]
    rw [dfn_word_Caught_1]
    simp only [bd_word_Caught_1, go_sem, zA, zB, zC, reduceIte, zD, zE, zF, zG, zH, zI, reduceCtorEq, zJ, zK, zL, zM, zN, zO, zP, Heap.get_set_self lt]
    exact hq _ ⟨Nat.le_refl _, fun c _ h2 _ => Heap.get_set_ne h2⟩
  · simp only [go_sem, zA, zB, zC, reduceIte, zD, zE, zF, zG, zH, zI, reduceCtorEq, zJ, zK, zL, zM, zN, zO, zP]
    rw [dfn_word_Caught_1]
    have lt2 : ∀ x, H.size < (H'.push x).size := fun x => by rw [Heap.size_push]; omega
    simp only [bd_word_Caught_1, go_sem, zA, zB, zC, reduceIte, zD, zE, zF, zG, zH, zI, reduceCtorEq, zJ, zK, zL, zM, zN, zO, zP, Heap.get_push_lt lt, g, Heap.push_set_lt lt, Heap.get_set_self lt]
    have e1 : ((H'.set H.size (.cells [.int .i64 c, .int .i64 k] .own)).push (.cells [.int .i64 c, .int .i64 k] .own)).get H.size = .cells [.int .i64 c, .int .i64 k] .own := by
      rw [Heap.get_push_lt (by rw [Heap.size_set]; exact lt), Heap.get_set_self lt]
    simp only [go_sem, zA, zB, zC, reduceIte, zD, zE, zF, zG, zH, zI, reduceCtorEq, zJ, zK, zL, zM, zN, zO, zP, e1]
    exact hq _ ⟨by simp only [Heap.size_push, Heap.size_set]; omega, fun c h1 h2 _ => by rw [Heap.get_push_lt (by rw [Heap.size_set]; exact h1), Heap.get_set_ne h2]⟩
end
/- The reader of package word: plainly, and what its functions come to. -/
set_option maxRecDepth 8000
theorem dec_ascii {s : List UInt8} {pos : Nat} {c : UInt8} (h : s[pos]? = some c) (hc : c.toNat < 128) : Utf8.decode ⟨s.toArray⟩ pos = (c.toNat, 1) := by
  obtain ⟨h1, h2⟩ := List.getElem?_eq_some_iff.1 h
  have e : (ByteArray.get! ⟨s.toArray⟩ (pos + 0)) = c := by
    show (s.toArray)[pos + 0]! = c
    simp [h]
  simp only [Utf8.decode, e]
  rw [if_pos (by omega)]
theorem icells_fld {l : List It} {i : Nat} {x : It} (h : l[i]? = some x) : (icells l)[i * 5]? = some (.int .i32 x.rune) ∧ (icells l)[i * 5 + 1]? = some (.int .i64 x.frm) ∧ (icells l)[i * 5 + 3]? = some (.bool x.bad) := by
  have h1 := (icells_at h).1
  have g : ∀ j, j < 5 → (icells l)[i * 5 + j]? = x.cells[j]? := by
    intro j hj
    rw [← h1, List.getElem?_take, if_pos hj, List.getElem?_drop]
  exact ⟨g 0 (by omega), g 1 (by omega), g 3 (by omega)⟩
/-- The next rune; -1: none, -2: a bad one. -/
def peekR (its : List It) (k : Nat) : Int := match its[k]? with
  | none => -1
  | some x => if x.bad then -2 else (x.rune : Int)
def atR (its : List It) (e k : Nat) : Nat := match its[k]? with
  | none => e
  | some x => x.frm
def hasR (s : List UInt8) (r : Int) : Bool := s.any fun c => decide ((c.toNat : Int) = r)
section
variable {o : CallF} (ho : OvOnly o)
include ho
omit ho in
theorem k_hasRune_loop {s : List UInt8} (hs : ∀ c ∈ s, c.toNat < 128) {r : Int} {b : Nat} {H0 : Heap} (hb : H0.size ≤ b) {Q : Ctl → St → Prop} : ∀ (q : List UInt8) (pos : Nat) (H : Heap), s.drop pos = q → pos ≤ s.length → H.get b = .siter s pos → Ext H0.size H0 H →
    (hasR q r = true → ∀ (σ : St), Ext H0.size H0 σ.H → σ.d = [] → lk 4 σ.p = some (.bool true) → Q .ret σ) → (hasR q r = false → ∀ (σ : St), Ext H0.size H0 σ.H → σ.d = [] → Q (.exit 0) σ) →
    wpl ⟨bt.get, o⟩ [1, 8] lb_word_hasRune_0 { p := [(1, .int .i32 r), (8, .ptr b 0)], t := [], H := H, d := [], u := .norm } Q
  | [], pos, H, hd, hp, hg, hx, hT, hF => by
    have := at_nil hd
    rw [wpl_step]
    have h1 : ¬ pos < s.length := by omega
    simp only [lb_word_hasRune_0, go_sem, zA, zB, zC, reduceIte, zD, zE, zF, zG, zH, zI, reduceCtorEq, zJ, zK, zL, zM, zN, zO, zP, hg, h1]
    exact hF rfl _ hx rfl
  | c :: q, pos, H, hd, hp, hg, hx, hT, hF => by
    obtain ⟨h0, h1, h2⟩ := at_drop hd
    have hlt : b < H.size := Heap.lt_of_get (by rw [hg]; simp)
    rw [wpl_step]
    have ed := dec_ascii h0 (hs c (List.mem_of_getElem? h0))
    simp only [lb_word_hasRune_0, go_sem, zA, zB, zC, reduceIte, zD, zE, zF, zG, zH, zI, reduceCtorEq, zJ, zK, zL, zM, zN, zO, zP, hg, h1, ed]
    by_cases hc : (c.toNat : Int) = r
    · simp only [go_sem, zA, zB, zC, reduceIte, zD, zE, zF, zG, zH, zI, reduceCtorEq, zJ, zK, zL, zM, zN, zO, zP, hc]
      exact hT (by simp [hasR, hc]) _ (hx.trans (Ext.set hb)) rfl rfl
    · simp only [go_sem, zA, zB, zC, reduceIte, zD, zE, zF, zG, zH, zI, reduceCtorEq, zJ, zK, zL, zM, zN, zO, zP, hc]
      have e : hasR (c :: q) r = hasR q r := by simp [hasR, hc]
      rw [e] at hT hF
      exact k_hasRune_loop hs hb q (pos + 1) _ h2 (by omega) (Heap.get_set_self hlt) (hx.trans (Ext.set hb)) hT hF
theorem k_hasRune {s : List UInt8} (hs : ∀ c ∈ s, c.toNat < 128) {r : Int} {H : Heap} {Q : End → Heap → Prop} (h : ∀ H', Ext H.size H H' → Q (.ret (.bool (hasR s r))) H') : wpf ⟨bt.get, o⟩ F_word_hasRune [.str s, .int .i32 r] H Q := by
  rw [fn_word_hasRune (ho _ _ _ (by decide))]
  simp only [bd_word_hasRune, go_sem, zA, zB, zC, reduceIte, zD, zE, zF, zG, zH, zI, reduceCtorEq, zJ, zK, zL, zM, zN, zO, zP]
  refine k_hasRune_loop (H0 := H) hs (Nat.le_refl _) s 0 _ rfl (Nat.zero_le _) Heap.get_push_self (Ext.push (Nat.le_refl _)) (fun hh σ k1 k2 k3 => ?_) (fun hh σ k1 k2 => ?_)
  · simp only [go_sem, zA, zB, zC, reduceIte, zD, zE, zF, zG, zH, zI, reduceCtorEq, zJ, zK, zL, zM, zN, zO, zP, k2, k3]
    rw [hh] at h
    exact h _ k1
  · simp only [go_sem, zA, zB, zC, reduceIte, zD, zE, zF, zG, zH, zI, reduceCtorEq, zJ, zK, zL, zM, zN, zO, zP, k2]
    rw [hh] at h
    exact h _ k1
/-- A reader: its block, where it stands. -/
structure RdrS (b : Nat) (H : Heap) (its : List It) (e k : Nat) (iv : AV) (ib : Nat) : Prop where
  get : H.get b = .cells [iv, .int .i64 k, .int .i64 e] .own
  rd : Rd H 5 (icells its) its.length iv ib
  ne : 0 < its.length → ib ≠ b
  le : k ≤ its.length
  sm : its.length ≤ 1000000
omit ho in
theorem RdrS.fr {b H H' its e k iv ib} (h : RdrS b H its e k iv ib) (x : Ext H.size H H') : RdrS b H' its e k iv ib :=
  ⟨by rw [x.2 b (Heap.lt_of_get (by rw [h.get]; simp)), h.get], h.rd.ext x, h.ne, h.le, h.sm⟩
omit ho in
theorem RdrS.step {b H its e k iv ib} (h : RdrS b H its e k iv ib) (hk : k < its.length) : RdrS b (H.set b (.cells [iv, .int .i64 ((k + 1 : Nat) : Int), .int .i64 e] .own)) its e (k + 1) iv ib :=
  ⟨Heap.get_set_self (Heap.lt_of_get (by rw [h.get]; simp)), h.rd.keep fun hp => Heap.get_set_ne (h.ne hp), h.ne, hk, h.sm⟩
omit ho in
theorem RdrS.lt {b H its e k iv ib} (h : RdrS b H its e k iv ib) : b < H.size := Heap.lt_of_get (by rw [h.get]; simp)
theorem k_Peek {b H its e k iv ib} (hR : RdrS b H its e k iv ib) {Q : End → Heap → Prop} (h : Q (.ret (.int .i32 (peekR its k))) H) : wpf ⟨bt.get, o⟩ F_word_Reader_Peek [.ptr b 0] H Q := by
  rw [fn_word_Reader_Peek (ho _ _ _ (by decide))]
  have hg := hR.get
  have hl := hR.rd.len
  by_cases hk : k = its.length
  · have hk' : (k : Int) = (its.length : Int) := by omega
    have ep : peekR its k = -1 := by simp [peekR, hk]
    rw [ep] at h
    simp only [bd_word_Reader_Peek, go_sem, zA, zB, zC, reduceIte, zD, zE, zF, zG, zH, zI, reduceCtorEq, zJ, zK, zL, zM, zN, zO, zP, hg, hl, hk']
    exact h
  · have hk' : ¬ (k : Int) = (its.length : Int) := by omega
    have hle := hR.le
    obtain ⟨⟨u, hi⟩, hel, _⟩ := hR.rd.pos (by omega)
    have el := hel k (by omega)
    have h0 := List.getElem?_eq_getElem (l := its) (i := k) (by omega)
    obtain ⟨f0, f1, f3⟩ := icells_fld h0
    have ep : peekR its k = if its[k].bad then -2 else (its[k].rune : Int) := by simp only [peekR, h0]
    rw [ep] at h
    simp only [bd_word_Reader_Peek, go_sem, zA, zB, zC, reduceIte, zD, zE, zF, zG, zH, zI, reduceCtorEq, zJ, zK, zL, zM, zN, zO, zP, hg, hl, hk', el, hi, f0, f1, f3]
    cases hb : its[k].bad
    · rw [hb] at h
      simp only [go_sem, zA, zB, zC, reduceIte, zD, zE, zF, zG, zH, zI, reduceCtorEq, zJ, zK, zL, zM, zN, zO, zP, hg, hl, hk', el, hi, f0, f1, f3]
      exact h
    · rw [hb] at h
      simp only [go_sem, zA, zB, zC, reduceIte, zD, zE, zF, zG, zH, zI, reduceCtorEq, zJ, zK, zL, zM, zN, zO, zP]
      exact h
theorem k_At {b H its e k iv ib} (hR : RdrS b H its e k iv ib) {Q : End → Heap → Prop} (h : Q (.ret (.int .i64 (atR its e k : Int))) H) : wpf ⟨bt.get, o⟩ F_word_Reader_At [.ptr b 0] H Q := by
  rw [fn_word_Reader_At (ho _ _ _ (by decide))]
  have hg := hR.get
  have hl := hR.rd.len
  by_cases hk : k = its.length
  · have hk' : (k : Int) = (its.length : Int) := by omega
    have ep : atR its e k = e := by simp [atR, hk]
    rw [ep] at h
    simp only [bd_word_Reader_At, go_sem, zA, zB, zC, reduceIte, zD, zE, zF, zG, zH, zI, reduceCtorEq, zJ, zK, zL, zM, zN, zO, zP, hg, hl, hk']
    exact h
  · have hk' : ¬ (k : Int) = (its.length : Int) := by omega
    have hle := hR.le
    obtain ⟨⟨u, hi⟩, hel, _⟩ := hR.rd.pos (by omega)
    have el := hel k (by omega)
    have h0 := List.getElem?_eq_getElem (l := its) (i := k) (by omega)
    obtain ⟨f0, f1, f3⟩ := icells_fld h0
    have ep : atR its e k = its[k].frm := by simp only [atR, h0]
    rw [ep] at h
    simp only [bd_word_Reader_At, go_sem, zA, zB, zC, reduceIte, zD, zE, zF, zG, zH, zI, reduceCtorEq, zJ, zK, zL, zM, zN, zO, zP, hg, hl, hk', el, hi, f0, f1, f3]
    exact h
omit ho in
theorem peek_lt {its : List It} {k : Nat} (h : 0 ≤ peekR its k) : k < its.length := by
  unfold peekR at h
  cases hk : its[k]? with
  | none => rw [hk] at h; simp at h
  | some x => exact (List.getElem?_eq_some_iff.1 hk).1
theorem k_Skip {b H its e k iv ib} {c : Int} (hc : 0 ≤ c) (hR : RdrS b H its e k iv ib) {Q : End → Heap → Prop}
    (hF : peekR its k ≠ c → Q (.ret (.bool false)) H) (hT : peekR its k = c → ∀ H', Fr b .nils H H' → RdrS b H' its e (k + 1) iv ib → Q (.ret (.bool true)) H') : wpf ⟨bt.get, o⟩ F_word_Reader_Skip [.ptr b 0, .int .i32 c] H Q := by
  rw [fn_word_Reader_Skip (ho _ _ _ (by decide))]
  simp only [bd_word_Reader_Skip, go_sem, zA, zB, zC, reduceIte, zD, zE, zF, zG, zH, zI, reduceCtorEq, zJ, zK, zL, zM, zN, zO, zP]
  refine k_Peek ho hR ?_
  have hg := hR.get
  by_cases hp : peekR its k = c
  · have hk := peek_lt (its := its) (k := k) (by omega)
    have hsm := hR.sm
    simp only [go_sem, zA, zB, zC, reduceIte, zD, zE, zF, zG, zH, zI, reduceCtorEq, zJ, zK, zL, zM, zN, zO, zP, hp, hg, wsucc (show k ≤ 1000000000 by omega)]
    exact hT hp _ Fr.set (hR.step hk)
  · simp only [go_sem, zA, zB, zC, reduceIte, zD, zE, zF, zG, zH, zI, reduceCtorEq, zJ, zK, zL, zM, zN, zO, zP, hp]
    exact hF hp
theorem k_Must {b H its e k iv ib} {c : Int} (hc : 0 ≤ c) (hR : RdrS b H its e k iv ib) {Q : End → Heap → Prop}
    (hF : peekR its k ≠ c → Q (.pan [(faultA 3 (atR its e k), false)]) H) (hT : peekR its k = c → ∀ H', Fr b .nils H H' → RdrS b H' its e (k + 1) iv ib → Q (.ret (.tup [])) H') : wpf ⟨bt.get, o⟩ F_word_Reader_Must [.ptr b 0, .int .i32 c] H Q := by
  rw [fn_word_Reader_Must (ho _ _ _ (by decide))]
  simp only [bd_word_Reader_Must, go_sem, zA, zB, zC, reduceIte, zD, zE, zF, zG, zH, zI, reduceCtorEq, zJ, zK, zL, zM, zN, zO, zP]
  refine k_Skip ho hc hR (fun hp => ?_) (fun hp H' h1 h2 => ?_)
  · simp only [go_sem, zA, zB, zC, reduceIte, zD, zE, zF, zG, zH, zI, reduceCtorEq, zJ, zK, zL, zM, zN, zO, zP]
    refine k_At ho hR ?_
    simp only [go_sem, zA, zB, zC, reduceIte, zD, zE, zF, zG, zH, zI, reduceCtorEq, zJ, zK, zL, zM, zN, zO, zP]
    refine w_Fail ho ?_
    simp only [go_sem, zA, zB, zC, reduceIte, zD, zE, zF, zG, zH, zI, reduceCtorEq, zJ, zK, zL, zM, zN, zO, zP]
    exact hF hp
  · simp only [go_sem, zA, zB, zC, reduceIte, zD, zE, zF, zG, zH, zI, reduceCtorEq, zJ, zK, zL, zM, zN, zO, zP]
    exact hT hp H' h1 h2
/-- A digit of a number of sixteen. -/
def hexR (c : Int) : Int := if 48 ≤ c ∧ c ≤ 57 then c - 48 else if 65 ≤ c ∧ c ≤ 70 then c - 55 else -1
theorem k_hex {c : Int} {H : Heap} {Q : End → Heap → Prop} (h : Q (.ret (.int .i32 (hexR c))) H) : wpf ⟨bt.get, o⟩ F_word_hex [.int .i32 c] H Q := by
  rw [fn_word_hex (ho _ _ _ (by decide))]
  have fin : ∀ k : Int, hexR c = k → Q (.ret (.int .i32 k)) H := fun k e => by rw [← e]; exact h
  by_cases h1 : 48 ≤ c
  · by_cases h2 : c ≤ 57
    · have w : IntKind.i32.wrap (c - 48) = c - 48 := wi32 (by omega) (by omega)
      simp only [bd_word_hex, go_sem, zA, zB, zC, reduceIte, zD, zE, zF, zG, zH, zI, reduceCtorEq, zJ, zK, zL, zM, zN, zO, zP, h1, h2, w]
      exact fin _ (by simp only [hexR, h1, h2, and_self, if_true])
    · by_cases h3 : 65 ≤ c
      · by_cases h4 : c ≤ 70
        · have w : IntKind.i32.wrap (c - 65) = c - 65 := wi32 (by omega) (by omega)
          have w2 : IntKind.i32.wrap (c - 65 + 10) = c - 55 := by rw [wi32 (by omega) (by omega)]; omega
          simp only [bd_word_hex, go_sem, zA, zB, zC, reduceIte, zD, zE, zF, zG, zH, zI, reduceCtorEq, zJ, zK, zL, zM, zN, zO, zP, h1, h2, h3, h4, w, w2]
          exact fin _ (by simp only [hexR, h1, h2, h3, h4, and_self, and_false, if_true, if_false])
        · simp only [bd_word_hex, go_sem, zA, zB, zC, reduceIte, zD, zE, zF, zG, zH, zI, reduceCtorEq, zJ, zK, zL, zM, zN, zO, zP, h1, h2, h3, h4]
          exact fin _ (by simp only [hexR, h1, h2, h3, h4, and_false, if_false])
      · simp only [bd_word_hex, go_sem, zA, zB, zC, reduceIte, zD, zE, zF, zG, zH, zI, reduceCtorEq, zJ, zK, zL, zM, zN, zO, zP, h1, h2, h3]
        exact fin _ (by simp only [hexR, h1, h2, h3, and_false, false_and, if_false])
  · have h3 : ¬ 65 ≤ c := by omega
    simp only [bd_word_hex, go_sem, zA, zB, zC, reduceIte, zD, zE, zF, zG, zH, zI, reduceCtorEq, zJ, zK, zL, zM, zN, zO, zP, h1, h3]
    exact fin _ (by simp only [hexR, h1, h3, false_and, if_false])
/-- The digits of a number: how many, its value, where they end. -/
def numGo (its : List It) : Nat → Nat → Nat → Nat → Nat × Nat × Nat
  | 0, d, n, q => (d, n, q)
  | m + 1, d, n, q => if hexR (peekR its q) < 0 ∨ 1114111 < (n : Int) * 16 + hexR (peekR its q) then (d, n, q) else numGo its m (d + 1) (n * 16 + (hexR (peekR its q)).toNat) (q + 1)
/-- A rune by its number. -/
def numR (its : List It) (e k : Nat) : Except Nat (Int × Nat) :=
  if peekR its k ≠ 123 then .error (atR its e k) else
    let r := numGo its 6 0 0 (k + 1)
    if r.1 = 0 ∨ peekR its r.2.2 ≠ 125 ∨ (55296 ≤ r.2.1 ∧ r.2.1 ≤ 57343) then .error (atR its e r.2.2) else .ok ((r.2.1 : Int), r.2.2 + 1)
omit ho in
theorem hex_lt (c : Int) : hexR c ≤ 15 ∧ -1 ≤ hexR c := by
  unfold hexR
  repeat' split
  all_goals omega
omit ho in
theorem hex_pos {c : Int} (h : ¬ hexR c < 0) : 0 ≤ c := by
  unfold hexR at h
  repeat' split at h
  all_goals omega
omit ho in
theorem numGo_bd (its : List It) : ∀ (m d n q : Nat), n ≤ 1114111 → q ≤ its.length → (numGo its m d n q).2.1 ≤ 1114111 ∧ (numGo its m d n q).2.2 ≤ its.length ∧ (numGo its m d n q).1 ≤ d + m
  | 0, d, n, q, hn, hq => ⟨hn, hq, Nat.le_refl _⟩
  | m + 1, d, n, q, hn, hq => by
    simp only [numGo]
    split
    · exact ⟨hn, hq, by omega⟩
    · rename_i hc
      have hx := hex_lt (peekR its q)
      have hp := peek_lt (its := its) (k := q) (hex_pos (by omega))
      have := numGo_bd its m (d + 1) (n * 16 + (hexR (peekR its q)).toNat) (q + 1) (by omega) (by omega)
      exact ⟨this.1, this.2.1, by omega⟩
theorem k_num_loop {b : Nat} {its : List It} {e : Nat} {iv : AV} {ib : Nat} {H0 : Heap} {Q : Ctl → St → Prop} : ∀ (m d n q : Nat) (H : Heap), d + m = 6 → n ≤ 1114111 → RdrS b H its e q iv ib → Fr b .nils H0 H →
    (∀ (H' : Heap) x t, Fr b .nils H0 H' → RdrS b H' its e (numGo its m d n q).2.2 iv ib → Q (.exit 0) { p := (0, .ptr b 0) :: (3, .int .i32 ((numGo its m d n q).2.1 : Int)) :: (4, .int .i64 ((numGo its m d n q).1 : Int)) :: x, t := t, H := H', d := [], u := .norm }) →
    wpl ⟨bt.get, o⟩ [0, 3, 4] lb_word_Reader_number_0 { p := [(0, .ptr b 0), (3, .int .i32 (n : Int)), (4, .int .i64 (d : Int))], t := [], H := H, d := [], u := .norm } Q
  | 0, d, n, q, H, hd, hn, hR, hf, hQ => by
    rw [wpl_step]
    have h1 : ¬ ((d : Int) < 6) := by omega
    simp only [lb_word_Reader_number_0, go_sem, zA, zB, zC, reduceIte, zD, zE, zF, zG, zH, zI, reduceCtorEq, zJ, zK, zL, zM, zN, zO, zP, h1]
    exact hQ H _ _ hf hR
  | m + 1, d, n, q, H, hd, hn, hR, hf, hQ => by
    rw [wpl_step]
    have h1 : ((d : Int) < 6) := by omega
    have hx := hex_lt (peekR its q)
    simp only [lb_word_Reader_number_0, go_sem, zA, zB, zC, reduceIte, zD, zE, zF, zG, zH, zI, reduceCtorEq, zJ, zK, zL, zM, zN, zO, zP, h1]
    refine k_Peek ho hR ?_
    simp only [go_sem, zA, zB, zC, reduceIte, zD, zE, zF, zG, zH, zI, reduceCtorEq, zJ, zK, zL, zM, zN, zO, zP]
    refine k_hex ho ?_
    have w1 : IntKind.i32.wrap ((n : Int) * 16) = (n : Int) * 16 := wi32 (by omega) (by omega)
    have w2 : IntKind.i32.wrap ((n : Int) * 16 + hexR (peekR its q)) = (n : Int) * 16 + hexR (peekR its q) := wi32 (by omega) (by omega)
    by_cases c1 : hexR (peekR its q) < 0
    · have e0 : numGo its (m + 1) d n q = (d, n, q) := by simp only [numGo, c1, true_or, if_true]
      rw [e0] at hQ
      simp only [go_sem, zA, zB, zC, reduceIte, zD, zE, zF, zG, zH, zI, reduceCtorEq, zJ, zK, zL, zM, zN, zO, zP, c1]
      exact hQ H _ _ hf hR
    · by_cases c2 : 1114111 < (n : Int) * 16 + hexR (peekR its q)
      · have e0 : numGo its (m + 1) d n q = (d, n, q) := by simp only [numGo, c2, or_true, if_true]
        rw [e0] at hQ
        simp only [go_sem, zA, zB, zC, reduceIte, zD, zE, zF, zG, zH, zI, reduceCtorEq, zJ, zK, zL, zM, zN, zO, zP, c1, w1, w2, c2]
        exact hQ H _ _ hf hR
      · have e0 : numGo its (m + 1) d n q = numGo its m (d + 1) (n * 16 + (hexR (peekR its q)).toNat) (q + 1) := by simp only [numGo, c1, c2, or_self, if_false]
        rw [e0] at hQ
        have hp := peek_lt (its := its) (k := q) (hex_pos c1)
        have hsm := hR.sm
        have w3 : (n : Int) * 16 + hexR (peekR its q) = ((n * 16 + (hexR (peekR its q)).toNat : Nat) : Int) := by omega
        simp only [go_sem, zA, zB, zC, reduceIte, zD, zE, zF, zG, zH, zI, reduceCtorEq, zJ, zK, zL, zM, zN, zO, zP, c1, w1, w2, c2, hR.get, wsucc (show q ≤ 1000000000 by omega), wsucc (show d ≤ 1000000000 by omega)]
        rw [w3]
        exact k_num_loop m (d + 1) _ (q + 1) _ (by omega) (by omega) (hR.step hp) (hf.trans Fr.set) hQ
theorem k_number {b H its e k iv ib} (hR : RdrS b H its e k iv ib) {Q : End → Heap → Prop}
    (hF : ∀ a, numR its e k = .error a → ∀ H', Fr b .nils H H' → Q (.pan [(faultA 3 a, false)]) H') (hT : ∀ r k', numR its e k = .ok (r, k') → ∀ H', Fr b .nils H H' → RdrS b H' its e k' iv ib → Q (.ret (.int .i32 r)) H') : wpf ⟨bt.get, o⟩ F_word_Reader_number [.ptr b 0] H Q := by
  rw [fn_word_Reader_number (ho _ _ _ (by decide))]
  simp only [bd_word_Reader_number, go_sem, zA, zB, zC, reduceIte, zD, zE, zF, zG, zH, zI, reduceCtorEq, zJ, zK, zL, zM, zN, zO, zP]
  refine k_Must ho (by omega) hR (fun hp => ?_) (fun hp H1 f1 R1 => ?_)
  · simp only [go_sem, zA, zB, zC, reduceIte, zD, zE, zF, zG, zH, zI, reduceCtorEq, zJ, zK, zL, zM, zN, zO, zP]
    exact hF _ (by simp only [numR, ne_eq, hp, not_false_eq_true, if_true]) H Fr.refl
  · simp only [go_sem, zA, zB, zC, reduceIte, zD, zE, zF, zG, zH, zI, reduceCtorEq, zJ, zK, zL, zM, zN, zO, zP]
    have e0 : numR its e k = (if (numGo its 6 0 0 (k + 1)).1 = 0 ∨ peekR its (numGo its 6 0 0 (k + 1)).2.2 ≠ 125 ∨ (55296 ≤ (numGo its 6 0 0 (k + 1)).2.1 ∧ (numGo its 6 0 0 (k + 1)).2.1 ≤ 57343) then .error (atR its e (numGo its 6 0 0 (k + 1)).2.2) else .ok (((numGo its 6 0 0 (k + 1)).2.1 : Int), (numGo its 6 0 0 (k + 1)).2.2 + 1)) := by
      simp only [numR, ne_eq, hp, not_true_eq_false, if_false]
    have hbd := numGo_bd its 6 0 0 (k + 1) (by omega) R1.le
    refine k_num_loop ho 6 0 0 (k + 1) H1 rfl (by omega) R1 f1 fun H2 x t f2 R2 => ?_
    generalize hg : numGo its 6 0 0 (k + 1) = g at e0 hbd R2 ⊢
    obtain ⟨d, n, q⟩ := g
    simp only at e0 hbd R2 ⊢
    by_cases c1 : d = 0
    · have c1' : (d : Int) = 0 := by omega
      simp only [go_sem, zA, zB, zC, reduceIte, zD, zE, zF, zG, zH, zI, reduceCtorEq, zJ, zK, zL, zM, zN, zO, zP, c1']
      refine k_At ho R2 ?_
      simp only [go_sem, zA, zB, zC, reduceIte, zD, zE, zF, zG, zH, zI, reduceCtorEq, zJ, zK, zL, zM, zN, zO, zP]
      refine w_Fail ho ?_
      simp only [go_sem, zA, zB, zC, reduceIte, zD, zE, zF, zG, zH, zI, reduceCtorEq, zJ, zK, zL, zM, zN, zO, zP]
      exact hF _ (by rw [e0, if_pos (.inl c1)]) H2 f2
    · have c1' : ¬ (d : Int) = 0 := by omega
      simp only [go_sem, zA, zB, zC, reduceIte, zD, zE, zF, zG, zH, zI, reduceCtorEq, zJ, zK, zL, zM, zN, zO, zP, c1']
      refine k_Peek ho R2 ?_
      by_cases c2 : peekR its q = 125
      · by_cases c3 : 55296 ≤ n
        · have c3' : (55296 : Int) ≤ (n : Int) := by omega
          by_cases c4 : n ≤ 57343
          · have c4' : (n : Int) ≤ 57343 := by omega
            simp only [go_sem, zA, zB, zC, reduceIte, zD, zE, zF, zG, zH, zI, reduceCtorEq, zJ, zK, zL, zM, zN, zO, zP, c2, c3', c4']
            refine k_At ho R2 ?_
            simp only [go_sem, zA, zB, zC, reduceIte, zD, zE, zF, zG, zH, zI, reduceCtorEq, zJ, zK, zL, zM, zN, zO, zP]
            refine w_Fail ho ?_
            simp only [go_sem, zA, zB, zC, reduceIte, zD, zE, zF, zG, zH, zI, reduceCtorEq, zJ, zK, zL, zM, zN, zO, zP]
            exact hF _ (by rw [e0, if_pos (.inr (.inr ⟨c3, c4⟩))]) H2 f2
          · have c4' : ¬ (n : Int) ≤ 57343 := by omega
            have hq := peek_lt (its := its) (k := q) (by omega)
            have hsm := R2.sm
            simp only [go_sem, zA, zB, zC, reduceIte, zD, zE, zF, zG, zH, zI, reduceCtorEq, zJ, zK, zL, zM, zN, zO, zP, c2, c3', c4', R2.get, wsucc (show q ≤ 1000000000 by omega)]
            exact hT _ _ (by rw [e0, if_neg (by omega)]) _ (f2.trans Fr.set) (R2.step hq)
        · have c3' : ¬ (55296 : Int) ≤ (n : Int) := by omega
          have hq := peek_lt (its := its) (k := q) (by omega)
          have hsm := R2.sm
          simp only [go_sem, zA, zB, zC, reduceIte, zD, zE, zF, zG, zH, zI, reduceCtorEq, zJ, zK, zL, zM, zN, zO, zP, c2, c3', R2.get, wsucc (show q ≤ 1000000000 by omega)]
          exact hT _ _ (by rw [e0, if_neg (by omega)]) _ (f2.trans Fr.set) (R2.step hq)
      · simp only [go_sem, zA, zB, zC, reduceIte, zD, zE, zF, zG, zH, zI, reduceCtorEq, zJ, zK, zL, zM, zN, zO, zP, c2]
        refine k_At ho R2 ?_
        simp only [go_sem, zA, zB, zC, reduceIte, zD, zE, zF, zG, zH, zI, reduceCtorEq, zJ, zK, zL, zM, zN, zO, zP]
        refine w_Fail ho ?_
        simp only [go_sem, zA, zB, zC, reduceIte, zD, zE, zF, zG, zH, zI, reduceCtorEq, zJ, zK, zL, zM, zN, zO, zP]
        exact hF _ (by rw [e0, if_pos (.inr (.inl c2))]) H2 f2
def badS (cls : Bool) : List UInt8 := if cls then [47, 124, 42, 40, 41, 91, 93, 45] else [47, 124, 42, 40, 41, 91, 93, 46]
def escS : List UInt8 := [47, 124, 42, 40, 41, 91, 93, 92, 46, 45, 94, 123, 125]
/-- A rune of an expression, or of a class. -/
def runeR (its : List It) (e : Nat) (cls : Bool) (k : Nat) : Except Nat (Int × Nat) :=
  if peekR its k < 32 ∨ hasR (badS cls) (peekR its k) = true then .error (atR its e k)
  else if peekR its k ≠ 92 then .ok (peekR its k, k + 1)
  else if peekR its (k + 1) = 110 then .ok (10, k + 2)
  else if peekR its (k + 1) = 114 then .ok (13, k + 2)
  else if peekR its (k + 1) = 116 then .ok (9, k + 2)
  else if peekR its (k + 1) = 117 then numR its e (k + 2)
  else if peekR its (k + 1) < 0 ∨ hasR escS (peekR its (k + 1)) = false then .error (atR its e (k + 1))
  else .ok (peekR its (k + 1), k + 2)
theorem k_Rune {b H its e k iv ib} {cls : Bool} (hR : RdrS b H its e k iv ib) {Q : End → Heap → Prop}
    (hF : ∀ a, runeR its e cls k = .error a → ∀ H', Fr b .nils H H' → Q (.pan [(faultA 3 a, false)]) H') (hT : ∀ r k', runeR its e cls k = .ok (r, k') → ∀ H', Fr b .nils H H' → RdrS b H' its e k' iv ib → Q (.ret (.int .i32 r)) H') : wpf ⟨bt.get, o⟩ F_word_Reader_Rune [.ptr b 0, .bool cls] H Q := by
  rw [fn_word_Reader_Rune (ho _ _ _ (by decide))]
  simp only [bd_word_Reader_Rune, go_sem, zA, zB, zC, reduceIte, zD, zE, zF, zG, zH, zI, reduceCtorEq, zJ, zK, zL, zM, zN, zO, zP]
  refine k_Peek ho hR ?_
  have esc0 : ∀ c ∈ escS, c.toNat < 128 := by decide
  -- behind the choice of signs
  have key : ∀ (H' : Heap) (bs : List UInt8), bs = badS cls → Fr b .nils H H' → RdrS b H' its e k iv ib → ∀ (t), wpc ⟨bt.get, o⟩ (seqR (seqR (seqR (seqR bd_word_Reader_Rune)))) { p := [(0, .ptr b 0), (1, .bool cls), (4, .int .i32 0), (5, .int .i32 (peekR its k)), (6, .str bs), (9, .bool cls)], t := t, H := H', d := [], u := .norm } (finK ⟨bt.get, o⟩ [.slot 4] Q) := by
    intro H' bs hbs hf hR t
    have bad0 : ∀ c ∈ bs, c.toNat < 128 := by rw [hbs]; cases cls <;> decide
    by_cases c1 : peekR its k < 32
    · simp only [bd_word_Reader_Rune, seqR, go_sem, zA, zB, zC, reduceIte, zD, zE, zF, zG, zH, zI, reduceCtorEq, zJ, zK, zL, zM, zN, zO, zP, c1]
      refine k_At ho hR ?_
      simp only [go_sem, zA, zB, zC, reduceIte, zD, zE, zF, zG, zH, zI, reduceCtorEq, zJ, zK, zL, zM, zN, zO, zP]
      refine w_Fail ho ?_
      simp only [go_sem, zA, zB, zC, reduceIte, zD, zE, zF, zG, zH, zI, reduceCtorEq, zJ, zK, zL, zM, zN, zO, zP]
      exact hF _ (by simp only [runeR, c1, true_or, if_true]) H' hf
    · simp only [bd_word_Reader_Rune, seqR, go_sem, zA, zB, zC, reduceIte, zD, zE, zF, zG, zH, zI, reduceCtorEq, zJ, zK, zL, zM, zN, zO, zP, c1]
      refine k_hasRune ho bad0 fun H1 x1 => ?_
      have R1 := hR.fr x1
      have f1 : Fr b .nils H H1 := hf.trans (Fr.ofExt x1)
      rw [hbs]
      cases c2 : hasR (badS cls) (peekR its k)
      · have hk := peek_lt (its := its) (k := k) (by omega)
        have hsm := R1.sm
        by_cases c3 : peekR its k = 92
        · simp only [go_sem, zA, zB, zC, reduceIte, zD, zE, zF, zG, zH, zI, reduceCtorEq, zJ, zK, zL, zM, zN, zO, zP, R1.get, c3, wsucc (show k ≤ 1000000000 by omega)]
          have R2 := R1.step hk
          have f2 : Fr b .nils H (H1.set b (.cells [iv, .int .i64 ((k + 1 : Nat) : Int), .int .i64 e] .own)) := f1.trans Fr.set
          generalize H1.set b (.cells [iv, .int .i64 ((k + 1 : Nat) : Int), .int .i64 e] .own) = H2 at R2 f2 ⊢
          have e0 : runeR its e cls k = if peekR its (k + 1) = 110 then .ok (10, k + 2)
              else if peekR its (k + 1) = 114 then .ok (13, k + 2)
              else if peekR its (k + 1) = 116 then .ok (9, k + 2)
              else if peekR its (k + 1) = 117 then numR its e (k + 2)
              else if peekR its (k + 1) < 0 ∨ hasR escS (peekR its (k + 1)) = false then .error (atR its e (k + 1))
              else .ok (peekR its (k + 1), k + 2) := by
            have c1' : ¬ (92 : Int) < 32 := by omega
            rw [c3] at c2
            simp only [runeR, c3, c1', c2, Bool.false_eq_true, or_self, if_false, ne_eq, not_true_eq_false]
          refine k_Peek ho R2 ?_
          simp only [go_sem, zA, zB, zC, reduceIte, zD, zE, zF, zG, zH, zI, reduceCtorEq, zJ, zK, zL, zM, zN, zO, zP]
          refine k_Skip ho (by omega) R2 (fun d1 => ?_) (fun d1 H3 f3 R3 => ?_)
          · simp only [go_sem, zA, zB, zC, reduceIte, zD, zE, zF, zG, zH, zI, reduceCtorEq, zJ, zK, zL, zM, zN, zO, zP]
            refine k_Skip ho (by omega) R2 (fun d2 => ?_) (fun d2 H3 f3 R3 => ?_)
            · simp only [go_sem, zA, zB, zC, reduceIte, zD, zE, zF, zG, zH, zI, reduceCtorEq, zJ, zK, zL, zM, zN, zO, zP]
              refine k_Skip ho (by omega) R2 (fun d3 => ?_) (fun d3 H3 f3 R3 => ?_)
              · simp only [go_sem, zA, zB, zC, reduceIte, zD, zE, zF, zG, zH, zI, reduceCtorEq, zJ, zK, zL, zM, zN, zO, zP]
                refine k_Skip ho (by omega) R2 (fun d4 => ?_) (fun d4 H3 f3 R3 => ?_)
                · rw [if_neg d1, if_neg d2, if_neg d3, if_neg d4] at e0
                  by_cases d5 : peekR its (k + 1) < 0
                  · simp only [go_sem, zA, zB, zC, reduceIte, zD, zE, zF, zG, zH, zI, reduceCtorEq, zJ, zK, zL, zM, zN, zO, zP, d5]
                    refine k_At ho R2 ?_
                    simp only [go_sem, zA, zB, zC, reduceIte, zD, zE, zF, zG, zH, zI, reduceCtorEq, zJ, zK, zL, zM, zN, zO, zP]
                    refine w_Fail ho ?_
                    simp only [go_sem, zA, zB, zC, reduceIte, zD, zE, zF, zG, zH, zI, reduceCtorEq, zJ, zK, zL, zM, zN, zO, zP]
                    exact hF _ (by rw [e0, if_pos (.inl d5)]) H2 f2
                  · simp only [go_sem, zA, zB, zC, reduceIte, zD, zE, zF, zG, zH, zI, reduceCtorEq, zJ, zK, zL, zM, zN, zO, zP, d5]
                    refine k_hasRune ho esc0 fun H3 x3 => ?_
                    have R3 := R2.fr x3
                    have f3 : Fr b .nils H H3 := f2.trans (Fr.ofExt x3)
                    have fold : ([47, 124, 42, 40, 41, 91, 93, 92, 46, 45, 94, 123, 125] : List UInt8) = escS := rfl
                    cases d6 : hasR escS (peekR its (k + 1))
                    · simp only [go_sem, zA, zB, zC, reduceIte, zD, zE, zF, zG, zH, zI, reduceCtorEq, zJ, zK, zL, zM, zN, zO, zP]
                      refine k_At ho R3 ?_
                      simp only [go_sem, zA, zB, zC, reduceIte, zD, zE, zF, zG, zH, zI, reduceCtorEq, zJ, zK, zL, zM, zN, zO, zP]
                      refine w_Fail ho ?_
                      simp only [go_sem, zA, zB, zC, reduceIte, zD, zE, zF, zG, zH, zI, reduceCtorEq, zJ, zK, zL, zM, zN, zO, zP]
                      exact hF _ (by rw [e0, if_pos (.inr d6)]) H3 f3
                    · have hk2 := peek_lt (its := its) (k := k + 1) (by omega)
                      simp only [go_sem, zA, zB, zC, reduceIte, zD, zE, zF, zG, zH, zI, reduceCtorEq, zJ, zK, zL, zM, zN, zO, zP, R3.get, wsucc (show k + 1 ≤ 1000000000 by omega)]
                      exact hT _ _ (by rw [e0, if_neg (by rw [d6]; simp; omega)]) _ (f3.trans Fr.set) (R3.step hk2)
                · rw [if_neg d1, if_neg d2, if_neg d3, if_pos d4] at e0
                  simp only [go_sem, zA, zB, zC, reduceIte, zD, zE, zF, zG, zH, zI, reduceCtorEq, zJ, zK, zL, zM, zN, zO, zP]
                  refine k_number ho R3 (fun a ha H4 f4 => ?_) (fun r k' ha H4 f4 R4 => ?_)
                  · simp only [go_sem, zA, zB, zC, reduceIte, zD, zE, zF, zG, zH, zI, reduceCtorEq, zJ, zK, zL, zM, zN, zO, zP]
                    exact hF a (e0.trans ha) H4 (f2.trans (f3.trans f4))
                  · simp only [go_sem, zA, zB, zC, reduceIte, zD, zE, zF, zG, zH, zI, reduceCtorEq, zJ, zK, zL, zM, zN, zO, zP]
                    exact hT r k' (e0.trans ha) H4 (f2.trans (f3.trans f4)) R4
              · rw [if_neg d1, if_neg d2, if_pos d3] at e0
                simp only [go_sem, zA, zB, zC, reduceIte, zD, zE, zF, zG, zH, zI, reduceCtorEq, zJ, zK, zL, zM, zN, zO, zP]
                exact hT _ _ e0 H3 (f2.trans f3) R3
            · rw [if_neg d1, if_pos d2] at e0
              simp only [go_sem, zA, zB, zC, reduceIte, zD, zE, zF, zG, zH, zI, reduceCtorEq, zJ, zK, zL, zM, zN, zO, zP]
              exact hT _ _ e0 H3 (f2.trans f3) R3
          · rw [if_pos d1] at e0
            simp only [go_sem, zA, zB, zC, reduceIte, zD, zE, zF, zG, zH, zI, reduceCtorEq, zJ, zK, zL, zM, zN, zO, zP]
            exact hT _ _ e0 H3 (f2.trans f3) R3
        · simp only [go_sem, zA, zB, zC, reduceIte, zD, zE, zF, zG, zH, zI, reduceCtorEq, zJ, zK, zL, zM, zN, zO, zP, R1.get, c3, wsucc (show k ≤ 1000000000 by omega)]
          exact hT _ _ (by simp only [runeR, c1, c2, Bool.false_eq_true, or_self, if_false, ne_eq, c3, not_false_eq_true, if_true]) _ (f1.trans Fr.set) (R1.step hk)
      · simp only [go_sem, zA, zB, zC, reduceIte, zD, zE, zF, zG, zH, zI, reduceCtorEq, zJ, zK, zL, zM, zN, zO, zP]
        refine k_At ho R1 ?_
        simp only [go_sem, zA, zB, zC, reduceIte, zD, zE, zF, zG, zH, zI, reduceCtorEq, zJ, zK, zL, zM, zN, zO, zP]
        refine w_Fail ho ?_
        simp only [go_sem, zA, zB, zC, reduceIte, zD, zE, zF, zG, zH, zI, reduceCtorEq, zJ, zK, zL, zM, zN, zO, zP]
        exact hF _ (by simp only [runeR, c2, or_true, if_true]) H1 f1
  cases cls
  · simp only [go_sem, zB, zC, reduceIte, zD, zE, zF, zG, zH, zI, reduceCtorEq, zJ, zK, zL, zM, zN, zO, zP]
    rw [seqK_normal]
    simp only [go_sem, zB, zC, reduceIte, zD, zE, zF, zG, zH, zI, reduceCtorEq, zJ, zK, zL, zM, zN, zO, zP]
    rw [seqK_normal]
    simp only [go_sem, zB, zC, reduceIte, zD, zE, zF, zG, zH, zI, reduceCtorEq, zJ, zK, zL, zM, zN, zO, zP]
    rw [seqK_normal]
    simp only [go_sem, zB, zC, reduceIte, zD, zE, zF, zG, zH, zI, reduceCtorEq, zJ, zK, zL, zM, zN, zO, zP]
    exact key H _ rfl Fr.refl hR _
  · simp only [go_sem, zB, zC, reduceIte, zD, zE, zF, zG, zH, zI, reduceCtorEq, zJ, zK, zL, zM, zN, zO, zP]
    rw [seqK_normal]
    simp only [go_sem, zB, zC, reduceIte, zD, zE, zF, zG, zH, zI, reduceCtorEq, zJ, zK, zL, zM, zN, zO, zP]
    rw [seqK_normal]
    simp only [go_sem, zB, zC, reduceIte, zD, zE, zF, zG, zH, zI, reduceCtorEq, zJ, zK, zL, zM, zN, zO, zP]
    rw [seqK_normal]
    simp only [go_sem, zB, zC, reduceIte, zD, zE, zF, zG, zH, zI, reduceCtorEq, zJ, zK, zL, zM, zN, zO, zP]
    exact key H _ rfl Fr.refl hR _
end
end Go.Ev
