/- Several texts of this claim, joined. -/
import Derived.Test.YtifhmogcdgfojaaGreatDoorT24
import Derived.Test.YtifhmogcdgfojaaGreatDoorT28
set_option linter.unusedSimpArgs false
set_option linter.unusedVariables false

/- Package runes: Not, Or, Same. -/
namespace Go.Ev
open Go
open Go.Ev renaming seqK_normal → zA, blockK_normal → zB, blockK_exit → zC
open Nat renaming reduceEqDiff → zD, reduceAdd → zE, reduceSub → zF, reduceMul → zG, reduceLeDiff → zH, reduceLT → zI
open Int renaming reduceToNat → zJ, reduceLT → zK, reduceLE → zL, reduceEq → zM, reduceAdd → zN, reduceSub → zO, reduceMul → zP
set_option maxRecDepth 8000
/-- What runes.Not holds while it works. -/
structure NotS (p3 p4 n0 : Nat) (H : Heap) (k : Nat) (acc : List S) (ov : AV) : Prop where
  at_ : H.get p4 = .cells [.int .i64 k] .own
  g3 : H.get p3 = .cells [ov] .own
  sl : Sl n0 H 2 (scells acc) acc.length ov
  ne : p3 ≠ p4
  l3 : p3 < n0
  l4 : p4 < n0
  sz : n0 ≤ H.size
section
variable {o : CallF} (ho : OvOnly o)
include ho
theorem n_upTo {p3 p4 n0 k n : Nat} {acc : List S} {ov : AV} {H : Heap} (hN : NotS p3 p4 n0 H k acc ov) (ha : acc.length ≤ 1000000) {Q : End → Heap → Prop}
    (h : ∀ H' ov', Fr2 p3 p4 n0 H H' → NotS p3 p4 n0 H' k (if k < n then acc ++ [(k, n)] else acc) ov' → (∀ c, c < H.size → c ≠ p3 → (∀ s o n, ov ≠ .osl s c o n) → H'.get c = H.get c) → Q (.ret (.tup [])) H') : wpf ⟨bt.get, o⟩ F_runes_Not_1 [.int .i64 (n : Int), .ptr p4 0, .ptr p3 0] H Q := by
  rw [fn_runes_Not_1 (ho _ _ _ (by decide))]
  have g3 := hN.g3
  have hS := hN.sl
  have g4 := hN.at_
  have hsz := hN.sz
  have l3 := hN.l3
  have l4 := hN.l4
  by_cases c : k < n
  · have c' : (k : Int) < (n : Int) := by omega
    rw [if_pos c] at h
    obtain ⟨nb, H', ea, hx1, hsl⟩ := append_spec (bytes := 16) (ys := [.int .i64 (k : Int), .int .i64 (n : Int)]) (k := 1) (Sl.push (x := .cells [.int .i64 (k : Int), .int .i64 (n : Int)] .own) hS) (by rw [Heap.size_push]; omega) (by omega) rfl (by omega) (by omega)
    have q3 : H'.get p3 = .cells [ov] .own := by rw [hx1.2 p3 l3, Heap.get_push_lt (by omega), g3]
    have q4 : H'.get p4 = .cells [.int .i64 k] .own := by rw [hx1.2 p4 l4, Heap.get_push_lt (by omega), g4]
    have lt3 : p3 < H'.size := Heap.lt_of_get (by rw [q3]; simp)
    simp only [bd_runes_Not_1, go_sem, zA, zB, zC, reduceIte, zD, zE, zF, zG, zH, zI, reduceCtorEq, zJ, zK, zL, zM, zN, zO, zP, g4, g3, c', ea, q3]
    have hsz' := hx1.1
    rw [Heap.size_push] at hsz'
    refine h _ _ ⟨by rw [Heap.size_set]; omega, fun d h1 h2 h3 => ?_⟩ ⟨by rw [Heap.get_set_ne (Ne.symm hN.ne), q4], Heap.get_set_self lt3, ?_, hN.ne, l3, l4, by rw [Heap.size_set]; omega⟩ (fun d h1 h2 h3 => ?_)
    · rw [Heap.get_set_ne h2, hx1.2 d h1, Heap.get_push_lt (by omega)]
    · rw [scells_app, List.length_append]
      exact Sl.set hsl l3
    · rw [Heap.get_set_ne h2, append_frame (by omega) ea hS.form (c := d) (by rw [Heap.size_push]; omega) h3, Heap.get_push_lt h1]
  · have c' : ¬ (k : Int) < (n : Int) := by omega
    rw [if_neg c] at h
    simp only [bd_runes_Not_1, go_sem, zA, zB, zC, reduceIte, zD, zE, zF, zG, zH, zI, reduceCtorEq, zJ, zK, zL, zM, zN, zO, zP, g4, c']
    exact h _ _ Fr2.refl hN (fun _ _ _ _ => rfl)
theorem n_loop {p3 p4 n0 rb : Nat} {l : List S} {v : AV} (hl : l.length ≤ 100000) (hrb : 0 < l.length → rb < n0 ∧ rb ≠ p3 ∧ rb ≠ p4) {H0 : Heap} {Q : Ctl → St → Prop} : ∀ (r : List S) (i k : Nat) (acc : List S) (ov : AV) (H : Heap), l.drop i = r → i ≤ l.length → acc.length ≤ i → Rd H 2 (scells l) l.length v rb → Fr2 p3 p4 n0 H0 H → NotS p3 p4 n0 H k acc ov →
    (∀ (H' : Heap) (k' : Nat) (acc' : List S) ov' x1 x2 x3 x4 t, Fr2 p3 p4 n0 H0 H' → NotS p3 p4 n0 H' k' acc' ov' → acc' ++ gapsF k' [] = acc ++ gapsF k r → acc'.length ≤ l.length → Q (.exit 0) { p := [(3, .ptr p3 0), (4, .ptr p4 0), (5, .fn F_runes_Not_1 [.ptr p4 0, .ptr p3 0]), (10, x1), (11, x2), (12, x3), (13, x4)], t := t, H := H', d := [], u := .norm }) →
    wpl ⟨bt.get, o⟩ [3, 4, 5, 10, 11, 12] lb_runes_Not_0 { p := [(3, .ptr p3 0), (4, .ptr p4 0), (5, .fn F_runes_Not_1 [.ptr p4 0, .ptr p3 0]), (10, v), (11, .int .i64 l.length), (12, .int .i64 i)], t := [], H := H, d := [], u := .norm } Q
  | [], i, k, acc, ov, H, hd, hi, ha, hR, hf, hN, hQ => by
    have : l.length ≤ i := List.drop_eq_nil_iff.1 hd
    rw [wpl_step]
    have h1 : ¬((i : Int) < (l.length : Int)) := by omega
    simp only [lb_runes_Not_0, go_sem, zA, zB, zC, reduceIte, zD, zE, zF, zG, zH, zI, reduceCtorEq, zJ, zK, zL, zM, zN, zO, zP, h1]
    exact hQ H k acc ov _ _ _ _ _ hf hN rfl (by omega)
  | x :: r, i, k, acc, ov, H, hd, hi, ha, hR, hf, hN, hQ => by
    obtain ⟨h0, h1, h2⟩ := list_at hd
    obtain ⟨⟨u, hg⟩, hel, _⟩ := hR.pos (by omega)
    have el := hel i h1
    obtain ⟨c1, c2⟩ := scells_at h0
    have iw := wsucc (show i ≤ 1000000000 by omega)
    rw [wpl_step]
    have h1' : ((i : Int) < (l.length : Int)) := by omega
    simp only [lb_runes_Not_0, go_sem, zA, zB, zC, reduceIte, zD, zE, zF, zG, zH, zI, reduceCtorEq, zJ, zK, zL, zM, zN, zO, zP, h1', el, hg, c1, c2, S.cells]
    have hsz := hN.sz
    have l3 := hN.l3
    have l4 := hN.l4
    have xx : Fr2 p3 p4 n0 H (H.push (.cells [.int .i64 (x.1 : Int), .int .i64 (x.2 : Int)] .own)) := ⟨by rw [Heap.size_push]; omega, fun c h1 _ _ => Heap.get_push_lt (by omega)⟩
    have N1 : NotS p3 p4 n0 (H.push (.cells [.int .i64 (x.1 : Int), .int .i64 (x.2 : Int)] .own)) k acc ov :=
      ⟨by rw [Heap.get_push_lt (by omega), hN.at_], by rw [Heap.get_push_lt (by omega), hN.g3], hN.sl.push, hN.ne, l3, l4, by rw [Heap.size_push]; omega⟩
    have hov : ∀ s o n, ov ≠ .osl s H.size o n := by
      intro s o n e
      rcases hN.sl with ⟨h1, _⟩ | ⟨ob, h1, h2, h3, _⟩
      · rw [h1] at e; cases e
      · rw [h1] at e; injection e with _ e
        have := Heap.lt_of_get (H := H) (b := ob) (by rw [h3]; simp)
        omega
    refine n_upTo ho (n := x.1) N1 (by omega) fun H1 ov1 f1 M1 keep1 => ?_
    have e7 : H1.get H.size = .cells [.int .i64 (x.1 : Int), .int .i64 (x.2 : Int)] .own := by rw [keep1 H.size (by rw [Heap.size_push]; omega) (by omega) hov, Heap.get_push_self]
    have g4 := M1.at_
    have lt4 : p4 < H1.size := Heap.lt_of_get (by rw [g4]; simp)
    simp only [go_sem, zA, zB, zC, reduceIte, zD, zE, zF, zG, zH, zI, reduceCtorEq, zJ, zK, zL, zM, zN, zO, zP, e7, g4, iw]
    have ff : Fr2 p3 p4 n0 H (H1.set p4 (.cells [.int .i64 (x.2 : Int)] .own)) := (xx.trans f1).trans ⟨Nat.le_refl _, fun c _ _ h3 => Heap.get_set_ne h3⟩
    have N2 : NotS p3 p4 n0 (H1.set p4 (.cells [.int .i64 (x.2 : Int)] .own)) x.2 (if k < x.1 then acc ++ [(k, x.1)] else acc) ov1 :=
      ⟨Heap.get_set_self lt4, by rw [Heap.get_set_ne hN.ne, M1.g3], M1.sl.set l4, hN.ne, l3, l4, by rw [Heap.size_set]; exact M1.sz⟩
    have hal : (if k < x.1 then acc ++ [(k, x.1)] else acc).length ≤ i + 1 := by
      split
      · rw [List.length_append]; simp only [List.length_cons, List.length_nil]; omega
      · omega
    refine n_loop hl hrb r (i + 1) x.2 _ ov1 _ h2 (by omega) hal (hR.keep fun hp => by obtain ⟨a1, a2, a3⟩ := hrb hp; exact ff.2 rb a1 a2 a3) (hf.trans ff) N2 fun H' k' acc' ov' x1 x2 x3 x4 t q1 q2 q3 q4 => hQ H' k' acc' ov' x1 x2 x3 x4 t q1 q2 ?_ q4
    rw [q3]
    simp only [gapsF]
    split <;> simp
omit ho in
theorem gapsF_bd : ∀ {l : List S} {k : Nat}, k ≤ 1112065 → apart k l → (∀ x ∈ l, x.1 ≤ 1112065 ∧ x.2 ≤ 1112065) → (gapsF k l).length ≤ l.length + 1 ∧ ∀ x ∈ gapsF k l, x.1 ≤ 1112065 ∧ x.2 ≤ 1112065 ∧ x.1 < x.2
  | [], k, hk, _, _ => by
    simp only [gapsF]
    split
    · refine ⟨by simp, fun x hx => ?_⟩
      simp at hx; rw [hx]; simp only; omega
    · exact ⟨by simp, fun x hx => by cases hx⟩
  | y :: l, k, hk, ⟨h1, h2, h3⟩, h => by
    have hy := h y (by simp)
    have h3' : apart y.2 l := by
      cases l with
      | nil => trivial
      | cons z l => exact ⟨by have := h3.1; omega, h3.2⟩
    obtain ⟨g1, g2⟩ := gapsF_bd (l := l) (k := y.2) hy.2 h3' (fun x hx => h x (by simp [hx]))
    simp only [gapsF]
    split
    · refine ⟨by simp only [List.length_cons]; omega, fun x hx => ?_⟩
      rcases List.mem_cons.1 hx with rfl | hx
      · simp only; omega
      · exact g2 x hx
    · exact ⟨by simp only [List.length_cons]; omega, g2⟩
theorem r_Not {l : List R} {v : AV} {rb : Nat} (hl : l.length ≤ capN) (hr : ∀ r ∈ l, I32 r.lo ∧ I32 r.hi) {H : Heap} (hR : Rd H 2 (rcells l) l.length v rb) {Q : End → Heap → Prop}
    (hQ : ∀ H' v', Ext H.size H H' → Sl H.size H' 2 (rcells (notF l)) (notF l).length v' → Q (.ret v') H') : wpf ⟨bt.get, o⟩ F_runes_Not [v] H Q := by
  have hcap := capN_le
  rw [fn_runes_Not (ho _ _ _ (by decide))]
  have e1 : ((H.push (.cells [.nils] .own)).push (.cells [.int .i64 0] .own)).get H.size = .cells [.nils] .own := by
    rw [Heap.get_push_lt (by rw [Heap.size_push]; omega), Heap.get_push_self]
  have e2 : ((H.push (.cells [.nils] .own)).push (.cells [.int .i64 0] .own)).get (H.size + 1) = .cells [.int .i64 0] .own := by
    rw [Heap.get_push_eq (by rw [Heap.size_push])]
  have x0 : Ext H.size H ((H.push (.cells [.nils] .own)).push (.cells [.int .i64 0] .own)) := (Ext.push (Nat.le_refl _)).trans (Ext.push (by rw [Heap.size_push]; omega))
  have sz0 : ((H.push (.cells [.nils] .own)).push (.cells [.int .i64 0] .own)).size = H.size + 2 := rfl
  simp only [bd_runes_Not, go_sem, zA, zB, zC, reduceIte, zD, zE, zF, zG, zH, zI, reduceCtorEq, zJ, zK, zL, zM, zN, zO, zP]
  generalize (H.push (.cells [.nils] .own)).push (.cells [.int .i64 0] .own) = G at e1 e2 x0 sz0 ⊢
  refine r_spans ho hl hr (hR.ext x0) fun H1 v1 k1 k2 => ?_
  obtain ⟨s1, s2⟩ := spansF_bd l
  have hsa : apart 0 (spansF l) := (mF_spec (l := srtS (preL l)) (fun x hx => preL_ok x (srtS_mem.1 hx)) (srtS_sorted _)).1
  obtain ⟨b, hR1, hb⟩ := k2.rd
  simp only [go_sem, zA, zB, zC, reduceIte, zD, zE, zF, zG, zH, zI, reduceCtorEq, zJ, zK, zL, zM, zN, zO, zP, hR1.len]
  have hlt : 0 < (spansF l).length → b < H1.size := fun hp => by
    obtain ⟨_, _, h3⟩ := hb hp
    exact Heap.lt_of_get (by rw [h3]; simp)
  have N0 : NotS H.size (H.size + 1) H1.size H1 0 [] .nils := ⟨by rw [k1.2 _ (by omega), e2]; rfl, by rw [k1.2 _ (by omega), e1], Sl.nil, by omega, by have := k1.1; omega, by have := k1.1; omega, Nat.le_refl _⟩
  refine n_loop ho (n0 := H1.size) (by omega) (fun hp => ⟨hlt hp, by have := (hb hp).1; omega, by have := (hb hp).1; omega⟩) (spansF l) 0 0 [] .nils H1 rfl (Nat.zero_le _) (Nat.le_refl _) hR1 Fr2.refl N0 fun H2 k' acc ov x1 x2 x3 x4 t f2 N2 hacc hal => ?_
  simp only [go_sem, zA, zB, zC, reduceIte, zD, zE, zF, zG, zH, zI, reduceCtorEq, zJ, zK, zL, zM, zN, zO, zP]
  refine n_upTo ho (n := 1112064) N2 (by omega) fun H3 ov3 f3 N3 _ => ?_
  have hg : (if k' < 1112064 then acc ++ [(k', 1112064)] else acc) = gapsF 0 (spansF l) := by
    rw [List.nil_append] at hacc
    rw [← hacc]
    simp only [gapsF]
    split <;> simp
  rw [hg] at N3
  have g3 := N3.g3
  simp only [go_sem, zA, zB, zC, reduceIte, zD, zE, zF, zG, zH, zI, reduceCtorEq, zJ, zK, zL, zM, zN, zO, zP, g3]
  obtain ⟨b1, b2⟩ := gapsF_bd (k := 0) (by omega) hsa s2
  obtain ⟨gb, hR3, _⟩ := N3.sl.rd
  refine r_ranges ho (by omega) b2 hR3 fun H4 v4 k4 s4 => ?_
  simp only [go_sem, zA, zB, zC, reduceIte, zD, zE, zF, zG, zH, zI, reduceCtorEq, zJ, zK, zL, zM, zN, zO, zP]
  have sz1 := k1.1
  have ex : Ext H.size H H3 := (x0.trans (k1.le (by omega))).trans ⟨Nat.le_trans f2.1 f3.1, fun c hc => by rw [f3.2 c (by omega) (by omega) (by omega), f2.2 c (by omega) (by omega) (by omega)]⟩
  exact hQ _ _ (ex.trans (k4.le ex.1)) (s4.frame' ex.1)
end
/- Classes: plainly, and what the reader's Class and word.Class come to. -/
set_option maxRecDepth 8000
def clGo (its : List It) (e : Nat) (endc : Int) : Nat → List R → Nat → Except Nat (List R × Nat)
  | 0, acc, k => .ok (acc, k)
  | m + 1, acc, k =>
    if acc ≠ [] ∧ peekR its k = endc then .ok (acc, k) else
    match runeR its e true k with
    | .error a => .error a
    | .ok (lo, k1) =>
      if peekR its k1 = 45 then (match runeR its e true (k1 + 1) with
        | .error a => .error a
        | .ok (hi, k2) => if hi < lo then .error (atR its e (k1 + 1)) else clGo its e endc m (acc ++ [⟨lo, hi⟩]) k2)
      else clGo its e endc m (acc ++ [⟨lo, lo⟩]) k1
/-- A class, up to a rune that stays. -/
def classR (its : List It) (e : Nat) (endc : Int) (k : Nat) : Except Nat (List R × Nat) :=
  match clGo its e endc (its.length + 1) [] (if peekR its k = 94 then k + 1 else k) with
  | .error a => .error a
  | .ok (l, k2) =>
    let s := if peekR its k = 94 then notF (normF l) else normF l
    if s = [] then .error (atR its e k2) else .ok (s, k2)
/-- Has a class more ranges than are sorted? -/
def bigC (its : List It) (e : Nat) (endc : Int) (k : Nat) : Bool :=
  match clGo its e endc (its.length + 1) [] (if peekR its k = 94 then k + 1 else k) with
  | .error _ => false
  | .ok (l, _) => decide (capN < l.length)
/-- Runes of 21 bits. -/
def Sm (its : List It) : Prop := ∀ x ∈ its, x.rune ≤ 2097151
theorem peek_bd {its : List It} (h : Sm its) (k : Nat) : -2 ≤ peekR its k ∧ peekR its k ≤ 2097151 := by
  unfold peekR
  cases hk : its[k]? with
  | none => simp
  | some x =>
    have := h x (List.mem_of_getElem? hk)
    simp only
    split <;> omega
theorem numR_bd {its : List It} {e k k' : Nat} {r : Int} (hk : k ≤ its.length) (h : numR its e k = .ok (r, k')) : 0 ≤ r ∧ r ≤ 1114111 ∧ k < k' ∧ k' ≤ its.length := by
  unfold numR at h
  split at h
  · cases h
  · rename_i hp
    have hk1 := peek_lt (its := its) (k := k) (by simp at hp; omega)
    have hb := numGo_bd its 6 0 0 (k + 1) (by omega) (by omega)
    have hq : ∀ (m d n q : Nat), q ≤ (numGo its m d n q).2.2 := by
      intro m
      induction m with
      | zero => intro d n q; exact Nat.le_refl _
      | succ m ih =>
        intro d n q
        simp only [numGo]
        split
        · exact Nat.le_refl _
        · exact Nat.le_trans (Nat.le_succ _) (ih _ _ _)
    have hq1 := hq 6 0 0 (k + 1)
    simp only at h
    split at h
    · cases h
    · rename_i hc
      injection h with h
      obtain ⟨rfl, rfl⟩ := Prod.mk.inj h
      have hpk : peekR its (numGo its 6 0 0 (k + 1)).2.2 = 125 := by
        rcases Classical.em (peekR its (numGo its 6 0 0 (k + 1)).2.2 = 125) with h | h
        · exact h
        · exact absurd (.inr (.inl h)) hc
      have := peek_lt (its := its) (k := (numGo its 6 0 0 (k + 1)).2.2) (by omega)
      omega
theorem runeR_bd {its : List It} {e k k' : Nat} {cls : Bool} {r : Int} (hs : Sm its) (hk : k ≤ its.length) (h : runeR its e cls k = .ok (r, k')) : 0 ≤ r ∧ r ≤ 2097151 ∧ k < k' ∧ k' ≤ its.length := by
  have b1 := peek_bd hs k
  have b2 := peek_bd hs (k + 1)
  unfold runeR at h
  split at h
  · cases h
  · rename_i hc
    have hk1 := peek_lt (its := its) (k := k) (by omega)
    split at h
    · injection h with h; obtain ⟨rfl, rfl⟩ := Prod.mk.inj h; omega
    split at h
    · rename_i hp
      have := peek_lt (its := its) (k := k + 1) (by omega)
      injection h with h; obtain ⟨rfl, rfl⟩ := Prod.mk.inj h; omega
    split at h
    · rename_i hp
      have := peek_lt (its := its) (k := k + 1) (by omega)
      injection h with h; obtain ⟨rfl, rfl⟩ := Prod.mk.inj h; omega
    split at h
    · rename_i hp
      have := peek_lt (its := its) (k := k + 1) (by omega)
      injection h with h; obtain ⟨rfl, rfl⟩ := Prod.mk.inj h; omega
    split at h
    · rename_i hp
      have := peek_lt (its := its) (k := k + 1) (by omega)
      have := numR_bd (its := its) (k := k + 2) (by omega) h
      omega
    split at h
    · cases h
    · rename_i hc
      have := peek_lt (its := its) (k := k + 1) (by omega)
      injection h with h; obtain ⟨rfl, rfl⟩ := Prod.mk.inj h; omega
theorem RdrS.ex {b H H' its e k iv ib n0} (h : RdrS b H its e k iv ib) (x : Ext n0 H H') (hb : b < n0) (hi : 0 < its.length → ib < n0) : RdrS b H' its e k iv ib :=
  ⟨by rw [x.2 b hb, h.get], h.rd.keep fun hp => x.2 ib (hi hp), h.ne, h.le, h.sm⟩
section
variable {o : CallF} (ho : OvOnly o)
include ho
theorem cl_loop {b n0 : Nat} {its : List It} {e : Nat} {endc : Int} {iv : AV} {ib : Nat} {neg : Bool} (hs : Sm its) (hb : b < n0) (hi' : 0 < its.length → ib < n0) {H0 : Heap} {Q : Ctl → St → Prop} : ∀ (m : Nat) (acc : List R) (k : Nat) (lv : AV) (H : Heap), its.length < k + m → acc.length ≤ k → (∀ r ∈ acc, I32 r.lo ∧ I32 r.hi) → RdrS b H its e k iv ib → n0 ≤ H.size → Sl n0 H 2 (rcells acc) acc.length lv → Fr2 b b n0 H0 H →
    (∀ a, clGo its e endc m acc k = .error a → ∀ σ : St, Fr2 b b n0 H0 σ.H → σ.d = [] → Q (.panic [(faultA 3 a, false)]) σ) →
    (∀ l k2, clGo its e endc m acc k = .ok (l, k2) → l.length ≤ k2 → (∀ r ∈ l, I32 r.lo ∧ I32 r.hi) → ∀ (H' : Heap) (lv' : AV) x t, Fr2 b b n0 H0 H' → n0 ≤ H'.size → RdrS b H' its e k2 iv ib → Sl n0 H' 2 (rcells l) l.length lv' → Q (.exit 0) { p := (0, .ptr b 0) :: (1, .int .i32 endc) :: (5, lv') :: (6, .bool neg) :: x, t := t, H := H', d := [], u := .norm }) →
    wpl ⟨bt.get, o⟩ [0, 1, 5, 6] lb_word_Reader_Class_0 { p := [(0, .ptr b 0), (1, .int .i32 endc), (5, lv), (6, .bool neg)], t := [], H := H, d := [], u := .norm } Q := by
  intro m
  induction m with
  | zero =>
    intro acc k lv H hm ha hr hR hn hS hf hF hT
    have := hR.le
    omega
  | succ m ih =>
    intro acc k lv H hm ha hr hR hn hS hf hF hT
    have fr2 : ∀ {H1 H2 : Heap}, Fr b .nils H1 H2 → n0 ≤ H1.size → Fr2 b b n0 H1 H2 := fun h hs => ⟨h.1, fun c h1 h2 _ => h.2 c (by omega) h2 (fun _ _ _ e => by cases e)⟩
    -- the body
    have body : ∀ t x, ¬ (acc ≠ [] ∧ peekR its k = endc) → wpc ⟨bt.get, o⟩ (seqR lb_word_Reader_Class_0) { p := [(0, .ptr b 0), (1, .int .i32 endc), (5, lv), (6, .bool neg), (19, x)], t := t, H := H, d := [], u := .norm } (loopK ⟨bt.get, o⟩ [0, 1, 5, 6] lb_word_Reader_Class_0 Q) := by
      intro t x hc
      have hkm := hR.le
      have hS1 : ∀ {H1 : Heap}, Fr b .nils H H1 → Sl n0 H1 2 (rcells acc) acc.length lv := fun f1 => hS.frame fun ob h1 h2 _ => f1.2 ob (Heap.lt_of_get (by rw [h2]; simp)) (by omega) (fun _ _ _ e => by cases e)
      simp only [lb_word_Reader_Class_0, seqR, go_sem, zA, zB, zC, reduceIte, zD, zE, zF, zG, zH, zI, reduceCtorEq, zJ, zK, zL, zM, zN, zO, zP]
      refine k_Rune ho hR (fun a ha H1 f1 => ?_) (fun lo k1 ha H1 f1 R1 => ?_)
      · simp only [go_sem, zA, zB, zC, reduceIte, zD, zE, zF, zG, zH, zI, reduceCtorEq, zJ, zK, zL, zM, zN, zO, zP]
        exact hF a (by simp only [clGo, if_neg hc, ha]) _ (hf.trans (fr2 f1 hn)) rfl
      · obtain ⟨lo0, lo1, lk1, lk2⟩ := runeR_bd hs hkm ha
        have hn1 : n0 ≤ H1.size := Nat.le_trans hn f1.1
        have x1 : Ext H1.size H1 (H1.push (.cells [.int .i32 lo, .int .i32 lo] .own)) := Ext.push (Nat.le_refl _)
        have RG := R1.fr x1
        have fG : Fr2 b b n0 H (H1.push (.cells [.int .i32 lo, .int .i32 lo] .own)) := (fr2 f1 hn).trans ⟨x1.1, fun c h1 _ _ => x1.2 c (by omega)⟩
        have SG : Sl n0 (H1.push (.cells [.int .i32 lo, .int .i32 lo] .own)) 2 (rcells acc) acc.length lv := (hS1 f1).push
        have gG : (H1.push (.cells [.int .i32 lo, .int .i32 lo] .own)).get H1.size = .cells [.int .i32 lo, .int .i32 lo] .own := Heap.get_push_self
        have szG : (H1.push (.cells [.int .i32 lo, .int .i32 lo] .own)).size = H1.size + 1 := Heap.size_push _ _
        have hbl : b ≠ H1.size := by omega
        -- one range more
        have add : ∀ (H2 : Heap) (hi : Int) (k2 : Nat) (t x), I32 hi → k < k2 → RdrS b H2 its e k2 iv ib → Fr2 b b n0 H0 H2 → n0 ≤ H2.size → Sl n0 H2 2 (rcells acc) acc.length lv → H2.get H1.size = .cells [.int .i32 lo, .int .i32 hi] .own → clGo its e endc (m + 1) acc k = clGo its e endc m (acc ++ [⟨lo, hi⟩]) k2 → lk 7 x = some (.ptr H1.size 0) →
            wpc ⟨bt.get, o⟩ (.reg [⟨.t 40, .mov (.p 5), none⟩, ⟨.t 41, .loadN 2 (.p 7), none⟩, ⟨.t 42, .lit [.int .i32 0, .int .i32 0] 1 [(0, 2, .t 41)], none⟩, ⟨.t 43, .append 2 8 (.t 40) (.t 42), none⟩, ⟨.p 5, .mov (.t 43), none⟩])
              { p := (0, .ptr b 0) :: (1, .int .i32 endc) :: (5, lv) :: (6, .bool neg) :: x, t := t, H := H2, d := [], u := .norm } (blockK 1 [0, 1, 5, 6] (loopK ⟨bt.get, o⟩ [0, 1, 5, 6] lb_word_Reader_Class_0 Q)) := by
          intro H2 hi k2 t x h32 hkk R2 f2 hn2 S2 g7 ec h7
          · skip
            obtain ⟨nb, H3, ea, x3, s3⟩ := append_spec (bytes := 8) (ys := [.int .i32 lo, .int .i32 hi]) (k := 1) (Sl.push (x := .cells [.int .i32 lo, .int .i32 hi] .own) S2) (by rw [Heap.size_push]; omega) (by omega) rfl (by have := R2.le; have := R2.sm; omega) (by have := R2.le; have := R2.sm; omega)
            simp only [go_sem, zA, zB, zC, reduceIte, zD, zE, zF, zG, zH, zI, reduceCtorEq, zJ, zK, zL, zM, zN, zO, zP, h7, g7, ea]
            have x23 : Ext n0 H2 H3 := (Ext.push hn2).trans x3
            rw [ec] at hF hT
            refine ih (acc ++ [⟨lo, hi⟩]) k2 _ H3 (by omega) (by rw [List.length_append]; simp only [List.length_cons, List.length_nil]; omega) (fun r hr' => ?_) (R2.ex x23 hb hi') (Nat.le_trans hn2 x23.1) (by rw [rcells_app, List.length_append]; exact s3) (f2.trans ⟨x23.1, fun c h1 _ _ => x23.2 c h1⟩) hF hT
            rcases List.mem_append.1 hr' with hr' | hr'
            · exact hr r hr'
            · simp at hr'; rw [hr']; exact ⟨(⟨by omega, by omega⟩ : I32 lo), h32⟩
        simp only [go_sem, zA, zB, zC, reduceIte, zD, zE, zF, zG, zH, zI, reduceCtorEq, zJ, zK, zL, zM, zN, zO, zP]
        refine k_Skip ho (by omega) RG (fun hp => ?_) (fun hp H2 f2 R2 => ?_)
        · simp only [go_sem, zB, zC, reduceIte, zD, zE, zF, zG, zH, zI, reduceCtorEq, zJ, zK, zL, zM, zN, zO, zP]
          rw [seqK_normal]
          simp only [go_sem, zB, zC, reduceIte, zD, zE, zF, zG, zH, zI, reduceCtorEq, zJ, zK, zL, zM, zN, zO, zP]
          rw [seqK_normal]
          refine add _ lo k1 _ _ ⟨by omega, by omega⟩ lk1 RG (hf.trans fG) (by rw [szG]; omega) SG gG ?_ ?_
          · simp only [clGo, if_neg hc, ha, if_neg hp]
          · rfl
        · have g7 : H2.get H1.size = .cells [.int .i32 lo, .int .i32 lo] .own := f2.get gG (by simp) (by omega)
          simp only [go_sem, zA, zB, zC, reduceIte, zD, zE, zF, zG, zH, zI, reduceCtorEq, zJ, zK, zL, zM, zN, zO, zP]
          refine k_At ho R2 ?_
          simp only [go_sem, zA, zB, zC, reduceIte, zD, zE, zF, zG, zH, zI, reduceCtorEq, zJ, zK, zL, zM, zN, zO, zP]
          have hn2 : n0 ≤ H2.size := Nat.le_trans (by rw [szG]; omega) f2.1
          have fr02 : Fr2 b b n0 H0 H2 := (hf.trans fG).trans (fr2 f2 (by rw [szG]; omega))
          refine k_Rune ho R2 (fun a ha2 H3 f3 => ?_) (fun hi k2 ha2 H3 f3 R3 => ?_)
          · simp only [go_sem, zA, zB, zC, reduceIte, zD, zE, zF, zG, zH, zI, reduceCtorEq, zJ, zK, zL, zM, zN, zO, zP]
            exact hF a (by simp only [clGo, if_neg hc, ha, if_pos hp, ha2]) _ (fr02.trans (fr2 f3 hn2)) rfl
          · obtain ⟨h0', h1', h2', h3'⟩ := runeR_bd hs R2.le ha2
            have g73 : H3.get H1.size = .cells [.int .i32 lo, .int .i32 lo] .own := f3.get g7 (by simp) (by omega)
            have l3 : H1.size < H3.size := Heap.lt_of_get (by rw [g73]; simp)
            have fr03 : Fr2 b b n0 H0 H3 := fr02.trans (fr2 f3 hn2)
            have hn3 : n0 ≤ H3.size := Nat.le_trans hn2 f3.1
            have x34 : Ext n0 H3 (H3.set H1.size (.cells [.int .i32 lo, .int .i32 hi] .own)) := Ext.set hn1
            by_cases hlt : hi < lo
            · simp only [go_sem, zA, zB, zC, reduceIte, zD, zE, zF, zG, zH, zI, reduceCtorEq, zJ, zK, zL, zM, zN, zO, zP, g73, Heap.get_set_self l3, hlt]
              refine w_Fail ho ?_
              simp only [go_sem, zA, zB, zC, reduceIte, zD, zE, zF, zG, zH, zI, reduceCtorEq, zJ, zK, zL, zM, zN, zO, zP]
              exact hF _ (by simp only [clGo, if_neg hc, ha, if_pos hp, ha2, if_pos hlt]) _ (fr03.trans ⟨x34.1, fun c h1 _ _ => x34.2 c h1⟩) rfl
            · simp only [go_sem, zB, zC, reduceIte, zD, zE, zF, zG, zH, zI, reduceCtorEq, zJ, zK, zL, zM, zN, zO, zP, g73, Heap.get_set_self l3, hlt]
              rw [seqK_normal]
              simp only [go_sem, zB, zC, reduceIte, zD, zE, zF, zG, zH, zI, reduceCtorEq, zJ, zK, zL, zM, zN, zO, zP, Heap.get_set_self l3, hlt]
              rw [seqK_normal]
              simp only [go_sem, zB, zC, reduceIte, zD, zE, zF, zG, zH, zI, reduceCtorEq, zJ, zK, zL, zM, zN, zO, zP, Heap.get_set_self l3, hlt]
              rw [seqK_normal]
              have S3 : Sl n0 (H3.set H1.size (.cells [.int .i32 lo, .int .i32 hi] .own)) 2 (rcells acc) acc.length lv := by
                have a1 := SG.frame (H' := H2) fun ob h1 h2 _ => f2.2 ob (Heap.lt_of_get (by rw [h2]; simp)) (by omega) (fun _ _ _ e => by cases e)
                have a2 := a1.frame (H' := H3) fun ob h1 h2 _ => f3.2 ob (Heap.lt_of_get (by rw [h2]; simp)) (by omega) (fun _ _ _ e => by cases e)
                have hne : ∀ ob, lv = .osl 2 ob 0 acc.length → 0 < acc.length → ob < H1.size := by
                  intro ob hob hp
                  rcases hS1 f1 with ⟨_, h, _⟩ | ⟨ob', h1, h2, h3, _⟩
                  · omega
                  · rw [h1] at hob; injection hob with _ hob; rw [← hob]
                    exact Heap.lt_of_get (by rw [h3]; simp)
                rcases a2 with h | ⟨ob, h1, h2, h3, h4, h5⟩
                · exact .inl h
                · have := hne ob h1 h5
                  exact .inr ⟨ob, h1, h2, by rw [Heap.get_set_ne (by omega), h3], h4, h5⟩
              refine add _ hi k2 _ _ ⟨by omega, by omega⟩ (by omega) (R3.ex x34 hb hi') (fr03.trans ⟨x34.1, fun c h1 _ _ => x34.2 c h1⟩) (by rw [Heap.size_set]; exact hn3) S3 (Heap.get_set_self l3) ?_ ?_
              · simp only [clGo, if_neg hc, ha, if_pos hp, ha2, if_neg hlt]
              · rfl
    rw [wpl_step]
    by_cases h0 : acc = []
    · subst h0
      have e0 : lenI lv = some 0 := hS.lenI
      simp only [lb_word_Reader_Class_0, go_sem, zB, zC, reduceIte, zD, zE, zF, zG, zH, zI, reduceCtorEq, zJ, zK, zL, zM, zN, zO, zP, e0]
      rw [seqK_normal]
      simp only [go_sem, zB, zC, reduceIte, zD, zE, zF, zG, zH, zI, reduceCtorEq, zJ, zK, zL, zM, zN, zO, zP]
      exact body _ _ (by simp)
    · have hal : acc.length ≠ 0 := fun h => h0 (List.eq_nil_of_length_eq_zero h)
      have z : ¬ (acc.length : Int) = 0 := by omega
      simp only [lb_word_Reader_Class_0, go_sem, zB, zC, reduceIte, zD, zE, zF, zG, zH, zI, reduceCtorEq, zJ, zK, zL, zM, zN, zO, zP, hS.lenI, z]
      refine k_Peek ho hR ?_
      by_cases hp : peekR its k = endc
      · have e1 : clGo its e endc (m + 1) acc k = .ok (acc, k) := by simp only [clGo, ne_eq, h0, not_false_eq_true, hp, and_self, if_true]
        simp only [go_sem, zA, zB, zC, reduceIte, zD, zE, zF, zG, zH, zI, reduceCtorEq, zJ, zK, zL, zM, zN, zO, zP, hp]
        exact hT acc k e1 ha hr H lv _ _ hf hn hR hS
      · simp only [go_sem, zB, zC, reduceIte, zD, zE, zF, zG, zH, zI, reduceCtorEq, zJ, zK, zL, zM, zN, zO, zP, hp]
        rw [seqK_normal]
        simp only [go_sem, zB, zC, reduceIte, zD, zE, zF, zG, zH, zI, reduceCtorEq, zJ, zK, zL, zM, zN, zO, zP]
        exact body _ _ (fun h => hp h.2)
end
/- What the reader's Class and word.Class come to. -/
set_option maxRecDepth 8000
theorem valN_bd {n : Nat} (h : n ≤ 1112065) : I32 (valN n : Int) := by
  unfold valN I32
  split <;> omega
theorem rngF_bd {l : List S} (h : ∀ x ∈ l, x.1 ≤ 1112065 ∧ x.2 ≤ 1112065) : ∀ r ∈ rngF l, I32 r.lo ∧ I32 r.hi := by
  intro r hr
  obtain ⟨x, hx, rfl⟩ := List.mem_map.1 hr
  have := h x hx
  exact ⟨valN_bd this.1, valN_bd (by omega)⟩
theorem normF_bd (l : List R) : (normF l).length ≤ l.length ∧ ∀ r ∈ normF l, I32 r.lo ∧ I32 r.hi := by
  obtain ⟨h1, h2⟩ := spansF_bd l
  exact ⟨by simpa [normF, rngF] using h1, rngF_bd h2⟩
theorem notF_len (l : List R) : (notF l).length ≤ l.length + 1 := by
  obtain ⟨s1, s2⟩ := spansF_bd l
  have hsa : apart 0 (spansF l) := (mF_spec (l := srtS (preL l)) (fun x hx => preL_ok x (srtS_mem.1 hx)) (srtS_sorted _)).1
  obtain ⟨b1, b2⟩ := gapsF_bd (k := 0) (by omega) hsa s2
  simp only [notF, rngF, List.length_map]
  omega
section
variable {o : CallF} (ho : OvOnly o)
include ho
theorem k_Class {b : Nat} {H : Heap} {its : List It} {e k : Nat} {endc : Int} {iv : AV} {ib : Nat} (hs : Sm its) (hl : its.length ≤ 49990) (hc : bigC its e endc k = false) (hR : RdrS b H its e k iv ib) {Q : End → Heap → Prop}
    (hF : ∀ a, classR its e endc k = .error a → ∀ H', Fr2 b b H.size H H' → Q (.pan [(faultA 3 a, false)]) H')
    (hT : ∀ l k2, classR its e endc k = .ok (l, k2) → ∀ H' v, Fr2 b b H.size H H' → RdrS b H' its e k2 iv ib → Sl H.size H' 2 (rcells l) l.length v → l.length ≤ 50010 → Q (.ret v) H') : wpf ⟨bt.get, o⟩ F_word_Reader_Class [.ptr b 0, .int .i32 endc] H Q := by
  rw [fn_word_Reader_Class (ho _ _ _ (by decide))]
  have hb : b < H.size := hR.lt
  have hi : 0 < its.length → ib < H.size := fun h => hR.rd.lt h
  -- behind the sign
  have rest : ∀ (neg : Bool) (k1 : Nat) (H1 : Heap) t, neg = decide (peekR its k = 94) → k1 = (if peekR its k = 94 then k + 1 else k) → Fr b .nils H H1 → RdrS b H1 its e k1 iv ib →
      wpc ⟨bt.get, o⟩ (seqR (seqR (seqR bd_word_Reader_Class))) { p := [(0, .ptr b 0), (1, .int .i32 endc), (4, .nils), (5, .nils), (6, .bool neg)], t := t, H := H1, d := [], u := .norm } (finK ⟨bt.get, o⟩ [.slot 4] Q) := by
    intro neg k1 H1 t hneg hk1 f1 R1
    have g1 : Fr2 b b H.size H H1 := ⟨f1.1, fun c h1 h2 _ => f1.2 c h1 h2 (fun _ _ _ e => by cases e)⟩
    simp only [bd_word_Reader_Class, seqR, go_sem, zA, zB, zC, reduceIte, zD, zE, zF, zG, zH, zI, reduceCtorEq, zJ, zK, zL, zM, zN, zO, zP]
    refine cl_loop ho hs hb hi (H0 := H) (its.length + 1) [] k1 .nils H1 (by omega) (Nat.zero_le _) (fun r hr => by cases hr) R1 f1.1 Sl.nil g1 (fun a ha σ f2 d2 => ?_) (fun l k2 ha hll hlr H2 lv x t f2 n2 R2 S2 => ?_)
    · simp only [go_sem, zA, zB, zC, reduceIte, zD, zE, zF, zG, zH, zI, reduceCtorEq, zJ, zK, zL, zM, zN, zO, zP, d2]
      exact hF a (by simp only [classR, ← hk1, ha]) _ f2
    · have hk2 := R2.le
      have hcl : l.length ≤ capN := by
        simp only [bigC, ← hk1, ha, decide_eq_false_iff_not] at hc
        omega
      have hcap := capN_le
      obtain ⟨rb, RL, _⟩ := S2.rd
      obtain ⟨nb1, nb2⟩ := normF_bd l
      simp only [go_sem, zA, zB, zC, reduceIte, zD, zE, zF, zG, zH, zI, reduceCtorEq, zJ, zK, zL, zM, zN, zO, zP]
      refine r_Norm ho (by omega) hlr RL fun H3 v3 x3 s3 => ?_
      have R3 := R2.fr x3
      have g3 : Fr2 b b H.size H H3 := f2.trans ⟨x3.1, fun c h1 _ _ => x3.2 c (by omega)⟩
      have fin : ∀ (s : List R) (H4 : Heap) (v4 : AV) t, s = (if peekR its k = 94 then notF (normF l) else normF l) → s.length ≤ 50010 → Fr2 b b H.size H H4 → RdrS b H4 its e k2 iv ib → Sl H.size H4 2 (rcells s) s.length v4 →
          wpc ⟨bt.get, o⟩ (seqR (seqR (seqR (seqR (seqR bd_word_Reader_Class))))) { p := [(0, .ptr b 0), (5, v4), (6, .bool neg), (46, .bool neg)], t := t, H := H4, d := [], u := .norm } (finK ⟨bt.get, o⟩ [.slot 4] Q) := by
        intro s H4 v4 t hsd hsl f4 R4 S4
        by_cases he : s = []
        · subst he
          have e0 : lenI v4 = some 0 := S4.lenI
          simp only [bd_word_Reader_Class, seqR, go_sem, zA, zB, zC, reduceIte, zD, zE, zF, zG, zH, zI, reduceCtorEq, zJ, zK, zL, zM, zN, zO, zP, e0]
          refine k_At ho R4 ?_
          simp only [go_sem, zA, zB, zC, reduceIte, zD, zE, zF, zG, zH, zI, reduceCtorEq, zJ, zK, zL, zM, zN, zO, zP]
          refine w_Fail ho ?_
          simp only [go_sem, zA, zB, zC, reduceIte, zD, zE, zF, zG, zH, zI, reduceCtorEq, zJ, zK, zL, zM, zN, zO, zP]
          exact hF _ (by simp only [classR, ← hk1, ha, ← hsd, if_true]) _ f4
        · have hz : ¬ (s.length : Int) = 0 := by
            intro h; apply he; exact List.eq_nil_of_length_eq_zero (by omega)
          simp only [bd_word_Reader_Class, seqR, go_sem, zA, zB, zC, reduceIte, zD, zE, zF, zG, zH, zI, reduceCtorEq, zJ, zK, zL, zM, zN, zO, zP, S4.lenI, hz]
          exact hT s k2 (by simp only [classR, ← hk1, ha, ← hsd, if_neg he]) _ _ f4 R4 S4 hsl
      cases neg
      · have hp : ¬ peekR its k = 94 := by simpa using hneg.symm
        simp only [go_sem, zB, zC, reduceIte, zD, zE, zF, zG, zH, zI, reduceCtorEq, zJ, zK, zL, zM, zN, zO, zP]
        rw [seqK_normal]
        simp only [go_sem, zB, zC, reduceIte, zD, zE, zF, zG, zH, zI, reduceCtorEq, zJ, zK, zL, zM, zN, zO, zP]
        rw [seqK_normal]
        simp only [go_sem, zB, zC, reduceIte, zD, zE, zF, zG, zH, zI, reduceCtorEq, zJ, zK, zL, zM, zN, zO, zP]
        exact fin (normF l) H3 v3 _ (by rw [if_neg hp]) (by omega) g3 R3 (s3.frame' n2)
      · have hp : peekR its k = 94 := by simpa using hneg.symm
        simp only [go_sem, zB, zC, reduceIte, zD, zE, zF, zG, zH, zI, reduceCtorEq, zJ, zK, zL, zM, zN, zO, zP]
        rw [seqK_normal]
        simp only [go_sem, zB, zC, reduceIte, zD, zE, zF, zG, zH, zI, reduceCtorEq, zJ, zK, zL, zM, zN, zO, zP]
        rw [seqK_normal]
        simp only [go_sem, zB, zC, reduceIte, zD, zE, zF, zG, zH, zI, reduceCtorEq, zJ, zK, zL, zM, zN, zO, zP]
        obtain ⟨rb2, RN, _⟩ := s3.rd
        refine r_Not ho (by omega) nb2 RN fun H4 v4 x4 s4 => ?_
        simp only [go_sem, zB, zC, reduceIte, zD, zE, zF, zG, zH, zI, reduceCtorEq, zJ, zK, zL, zM, zN, zO, zP]
        have hn3 := notF_len (normF l)
        have hsz3 : H.size ≤ H3.size := Nat.le_trans n2 x3.1
        exact fin (notF (normF l)) H4 v4 _ (by rw [if_pos hp]) (by omega) (g3.trans ⟨x4.1, fun c h1 _ _ => x4.2 c (by omega)⟩) (R3.fr x4) (s4.frame' hsz3)
  simp only [bd_word_Reader_Class, go_sem, zA, zB, zC, reduceIte, zD, zE, zF, zG, zH, zI, reduceCtorEq, zJ, zK, zL, zM, zN, zO, zP]
  refine k_Skip ho (by omega) hR (fun hp => ?_) (fun hp H1 f1 R1 => ?_)
  · simp only [go_sem, zB, zC, reduceIte, zD, zE, zF, zG, zH, zI, reduceCtorEq, zJ, zK, zL, zM, zN, zO, zP]
    exact rest false k H _ (by simp [hp]) (by rw [if_neg hp]) Fr.refl hR
  · simp only [go_sem, zB, zC, reduceIte, zD, zE, zF, zG, zH, zI, reduceCtorEq, zJ, zK, zL, zM, zN, zO, zP]
    exact rest true (k + 1) H1 _ (by simp [hp]) (by rw [if_pos hp]) f1 R1
omit ho in
theorem decR_le (l : List UInt8) : decR l ≤ 2097151 := by
  unfold decR
  split
  · rename_i a; have := a.toNat_lt; omega
  all_goals omega
omit ho in
theorem afterM_sm (held : List UInt8) (c : UInt8) (at_ : Nat) : ∀ x ∈ (afterM held c at_).2.2, x.rune ≤ 2097151 := by
  intro x hx
  unfold afterM at hx
  split at hx
  · simp at hx; rw [hx]; exact decR_le _
  · simp at hx
omit ho in
theorem feedD_sm : ∀ (r held : List UInt8) (at_ : Nat), ∀ x ∈ (feedD r held at_).2.2, x.rune ≤ 2097151
  | [], _, _, x, hx => by simp [feedD] at hx
  | c :: r, held, at_, x, hx => by
    simp only [feedD, List.mem_append] at hx
    rcases hx with hx | hx
    · have t0 : ∀ x ∈ (take0 c (at_ + held.length)).2.2, x.rune ≤ 2097151 := by
        intro x hx
        unfold take0 at hx
        split at hx
        · exact afterM_sm _ _ _ x hx
        · simp at hx; rw [hx]; simp
      unfold takeB at hx
      split at hx
      · exact afterM_sm _ _ _ x hx
      · split at hx
        · simp at hx; rw [hx]; simp
        · rcases List.mem_cons.1 hx with hx | hx
          · rw [hx]; simp
          · exact t0 x hx
    · exact feedD_sm r _ _ x hx
omit ho in
theorem decAll_sm (s : List UInt8) : Sm (decAll s) := by
  intro x hx
  rcases List.mem_append.1 hx with hx | hx
  · exact feedD_sm _ _ _ x hx
  · unfold closeD at hx
    split at hx
    · cases hx
    · simp at hx; rw [hx]; simp
end
end Go.Ev
