/- Several texts of this claim, joined. -/
import Derived.Test.YtfkdecamhepibaaGreatDoorT35
import Derived.Test.YtfkdecamhepibaaGreatDoorT30
import Derived.Test.YtfkdecamhepibaaGreatDoorT20
set_option linter.unusedSimpArgs false
set_option linter.unusedVariables false

/- What word.Class comes to. -/
namespace Go.Ev
open Go
open Go.Ev renaming seqK_normal → zA, blockK_normal → zB, blockK_exit → zC
open Nat renaming reduceEqDiff → zD, reduceAdd → zE, reduceSub → zF, reduceMul → zG, reduceLeDiff → zH, reduceLT → zI
open Int renaming reduceToNat → zJ, reduceLT → zK, reduceLE → zL, reduceEq → zM, reduceAdd → zN, reduceSub → zO, reduceMul → zP
set_option maxRecDepth 8000
theorem clGo_len {its : List It} {e : Nat} {endc : Int} : ∀ (m : Nat) (acc : List R) (k : Nat) (l : List R) (k2 : Nat), clGo its e endc m acc k = .ok (l, k2) → l.length ≤ acc.length + m
  | 0, acc, k, l, k2, h => by rw [clGo] at h; cases h; omega
  | m + 1, acc, k, l, k2, h => by
    rw [clGo] at h
    split at h
    · cases h; omega
    · split at h
      · cases h
      · split at h
        · split at h
          · cases h
          · split at h
            · cases h
            · have := clGo_len m _ _ l k2 h
              simp only [List.length_append, List.length_cons, List.length_nil] at this; omega
        · have := clGo_len m _ _ l k2 h
          simp only [List.length_append, List.length_cons, List.length_nil] at this; omega
theorem bigC_not {its : List It} {e : Nat} {endc : Int} {k : Nat} (hl : its.length ≤ 49990) : bigC its e endc k = false := by
  unfold bigC
  split
  · rfl
  · rename_i l k2 h
    have := clGo_len _ _ _ _ _ h
    simp only [List.length_nil] at this
    rw [decide_eq_false_iff_not]
    unfold capN
    omega
section
variable {o : CallF} (ho : OvOnly o)
include ho
theorem w_Class {s : List UInt8} (hs : s.length ≤ 300000) (hl : (decAll s).length ≤ 49990) {H : Heap} {Q : End → Heap → Prop} (hG : GlH H)
    (hE : ∀ l, classF s = .ok l → ∀ H' v, Ext H.size H H' → Sl H.size H' 2 (rcells l) l.length v → l.length ≤ 50010 → Q (.ret (.tup [v, .int .i64 0, .int .i64 0])) H')
    (hP : ∀ a, classF s = .error a → ∀ H', Ext H.size H H' → Q (.ret (.tup [.nils, .int .i64 3, .int .i64 a])) H') : wpf ⟨bt.get, o⟩ F_word_Class [.str s] H Q := by
  rw [fn_word_Class (ho _ _ _ (by decide))]
  simp only [bd_word_Class, go_sem, zA, zB, zC, reduceIte, zD, zE, zF, zG, zH, zI, reduceCtorEq, zJ, zK, zL, zM, zN, zO, zP]
  generalize hH2 : (H.push (Blk.cells [AV.str s] Use.own)).push (Blk.cells [AV.nils] Use.own) = H2
  have sz2 : H2.size = H.size + 2 := by rw [← hH2]; rfl
  have f0 : H2.get H.size = .cells [.str s] .own := by rw [← hH2]; simp [Heap.get_push, Heap.size_push]
  have f1 : H2.get (H.size + 1) = .cells [.nils] .own := by rw [← hH2]; simp [Heap.get_push, Heap.size_push]
  have x2 : Ext H.size H H2 := by rw [← hH2]; exact (Ext.push (Nat.le_refl _)).trans (Ext.push (by rw [Heap.size_push]; omega))
  -- the work's call
  have work : wpf ⟨bt.get, o⟩ F_word_Class_1 [.ptr H.size 0, .ptr (H.size + 1) 0] (H2.push (.cells [.int .i64 0, .int .i64 0] .own)) fun e H' => Ext H.size H2 H' ∧ H'.get (H.size + 2) = .cells [.int .i64 0, .int .i64 0] .own ∧
      ((∃ l v, classF s = .ok l ∧ e = .ret (.tup []) ∧ H'.get (H.size + 1) = .cells [v] .own ∧ Sl (H.size + 3) H' 2 (rcells l) l.length v ∧ l.length ≤ 50010) ∨ ∃ k : Nat, classF s = .error k ∧ e = .pan [(faultA 3 k, false)] ∧ H'.get (H.size + 1) = .cells [.nils] .own) := by
    rw [fn_word_Class_1 (ho _ _ _ (by decide))]
    have g0 : (H2.push (.cells [.int .i64 0, .int .i64 0] .own)).get H.size = .cells [.str s] .own := by rw [Heap.get_push_lt (by omega), f0]
    have g1 : (H2.push (.cells [.int .i64 0, .int .i64 0] .own)).get (H.size + 1) = .cells [.nils] .own := by rw [Heap.get_push_lt (by omega), f1]
    have g2 : (H2.push (.cells [.int .i64 0, .int .i64 0] .own)).get (H.size + 2) = .cells [.int .i64 0, .int .i64 0] .own := by rw [Heap.get_push_eq sz2.symm]
    have sz3 : (H2.push (.cells [.int .i64 0, .int .i64 0] .own)).size = H.size + 3 := by rw [Heap.size_push, sz2]
    have y3 : Ext H.size H2 (H2.push (.cells [.int .i64 0, .int .i64 0] .own)) := Ext.push (by omega)
    have hG3 : GlH (H2.push (.cells [.int .i64 0, .int .i64 0] .own)) := (hG.ext hG.1 x2).ext hG.1 y3
    generalize H2.push (.cells [.int .i64 0, .int .i64 0] .own) = H3 at g0 g1 g2 sz3 y3 hG3 ⊢
    have hsl : s.length ≤ 1099511627776 := by omega
    simp only [bd_word_Class_1, go_sem, zA, zB, zC, reduceIte, zD, zE, zF, zG, zH, zI, reduceCtorEq, zJ, zK, zL, zM, zN, zO, zP, g0]
    rw [fn_word_Read (ho _ _ _ (by decide))]
    simp only [bd_word_Read, go_sem, zA, zB, zC, reduceIte, zD, zE, zF, zG, zH, zI, reduceCtorEq, zJ, zK, zL, zM, zN, zO, zP, hsl]
    refine d_All ho (by omega) (hG3.ext hG3.1 (Ext.push (Nat.le_refl _))) Heap.get_push_self fun H4 iv x4 hiv hil => ?_
    obtain ⟨ib, hRd, hib⟩ := hiv.rd
    obtain ⟨c1, c2⟩ := hiv.one
    have z4 : Ext H3.size H3 H4 := (Ext.push (Nat.le_refl _)).trans (x4.le (by rw [Heap.size_push]; omega))
    simp only [go_sem, zA, zB, zC, reduceIte, zD, zE, zF, zG, zH, zI, reduceCtorEq, zJ, zK, zL, zM, zN, zO, zP, c1, c2]
    have x5 : Ext H4.size H4 (H4.push (.cells [iv, .int .i64 0, .int .i64 s.length] .own)) := Ext.push (Nat.le_refl _)
    have RR : RdrS H4.size (H4.push (.cells [iv, .int .i64 0, .int .i64 s.length] .own)) (decAll s) s.length 0 iv ib :=
      ⟨Heap.get_push_self, hRd.ext x5, fun hp => by have := hRd.lt hp; omega, Nat.zero_le _, by omega⟩
    have z5 : Ext H3.size H3 (H4.push (.cells [iv, .int .i64 0, .int .i64 s.length] .own)) := z4.trans (x5.le z4.1)
    have szz := z4.1
    refine k_Class ho (decAll_sm s) hl (bigC_not hl) RR (fun a ha H6 f6 => ?_) (fun l k2 ha H6 v f6 R6 s6 l13 => ?_)
    · have keep : ∀ c, c < H3.size → H6.get c = H3.get c := fun c hc => by
        rw [f6.2 c (by rw [Heap.size_push]; omega) (by omega) (by omega), z5.2 c hc]
      simp only [go_sem, zA, zB, zC, reduceIte, zD, zE, zF, zG, zH, zI, reduceCtorEq, zJ, zK, zL, zM, zN, zO, zP]
      refine ⟨y3.trans ⟨Nat.le_trans z5.1 f6.1, fun c hc => keep c (by omega)⟩, by rw [keep _ (by omega), g2], .inr ⟨a, by simp only [classF, ha], rfl, by rw [keep _ (by omega), g1]⟩⟩
    · have keep : ∀ c, c < H3.size → H6.get c = H3.get c := fun c hc => by
        rw [f6.2 c (by rw [Heap.size_push]; omega) (by omega) (by omega), z5.2 c hc]
      have q1 : H6.get (H.size + 1) = .cells [.nils] .own := by rw [keep _ (by omega), g1]
      have lt : H.size + 1 < H6.size := Heap.lt_of_get (by rw [q1]; simp)
      obtain ⟨v1, v2⟩ := s6.one
      simp only [go_sem, zA, zB, zC, reduceIte, zD, zE, zF, zG, zH, zI, reduceCtorEq, zJ, zK, zL, zM, zN, zO, zP, q1, v1, v2]
      refine ⟨(y3.trans ⟨Nat.le_trans z5.1 f6.1, fun c hc => keep c (by omega)⟩).trans (Ext.set (by omega)), by rw [Heap.get_set_ne (by omega), keep _ (by omega), g2], .inl ⟨l, v, by simp only [classF, ha], Heap.get_set_self lt, ?_, l13⟩⟩
      exact (s6.frame' (by rw [Heap.size_push]; omega)).set (by omega)
  refine w_Caught ho work fun e H' hR => ?_
  obtain ⟨r1, r3, r4⟩ := hR
  rw [sz2]
  refine ⟨r3, ?_⟩
  have szl : H.size + 3 ≤ H'.size := by have := Heap.lt_of_get (H := H') (b := H.size + 2) (by rw [r3]; simp); omega
  rcases r4 with ⟨l, v, hl, rfl, r5, r6, l13⟩ | ⟨k, hk, rfl, r5⟩
  · refine .inl ⟨_, rfl, fun H'' hk => ?_⟩
    have u1 : Ext H.size H H'' := (x2.trans r1).trans ⟨hk.1, fun c hc => hk.2 c (by omega) (by omega) (fun _ _ _ e => by cases e)⟩
    have u2 : H''.get (H.size + 1) = .cells [v] .own := by rw [hk.2 _ (by omega) (by omega) (fun _ _ _ e => by cases e), r5]
    have sz'' := hk.1
    have u3 : ∀ x, (H''.push x).get (H.size + 1) = .cells [v] .own := fun x => by rw [Heap.get_push_lt (by omega), u2]
    simp only [go_sem, zA, zB, zC, reduceIte, zD, zE, zF, zG, zH, zI, reduceCtorEq, zJ, zK, zL, zM, zN, zO, zP, u3]
    refine hE l hl _ _ (u1.trans (Ext.push (by omega))) ?_ l13
    exact Sl.push ((r6.frame fun ob h1 h2 h3 => hk.2 ob (Heap.lt_of_get (by rw [h2]; simp)) (by omega) (fun _ _ _ e => by cases e)).frame' (by omega))
  · refine .inr ⟨3, k, rfl, fun H'' hk' => ?_⟩
    have u1 : Ext H.size H H'' := (x2.trans r1).trans ⟨hk'.1, fun c hc => hk'.2 c (by omega) (by omega) (fun _ _ _ e => by cases e)⟩
    have sz'' := hk'.1
    simp only [go_sem, zA, zB, zC, reduceIte, zD, zE, zF, zG, zH, zI, reduceCtorEq, zJ, zK, zL, zM, zN, zO, zP]
    exact hP k hk _ (u1.trans (Ext.push (by omega)))
end
/- goboref11: classes. -/
set_option maxRecDepth 8000
theorem peekR_end {its : List It} {k : Nat} : peekR its k = -1 ↔ its.length ≤ k := by
  unfold peekR
  cases h : its[k]? with
  | none => simp only [true_iff]; exact List.getElem?_eq_none_iff.1 h
  | some x =>
    have := (List.getElem?_eq_some_iff.1 h).1
    simp only
    constructor
    · intro h; split at h <;> omega
    · intro h; omega
section
variable {o : CallF} (ho : OvOnly o)
include ho
omit ho in
theorem ec_exit {b : Nat} {its : List It} {e k : Nat} {a : Int} {iv : AV} {ib : Nat} {neg : Bool} {lv : AV} {H : Heap} {Q : Ctl → St → Prop} (hR : ErS b H its e k 3 a iv ib)
    (h : ∀ t x, Q (.exit 0) { p := [(0, .ptr b 0), (1, .int .i32 (-1)), (5, .bool neg), (6, lv), (47, x)], t := t, H := H, d := [], u := .norm }) :
    wpl ⟨bt.get, o⟩ [0, 1, 5, 6] lb_goboref11_E_class_0 { p := [(0, .ptr b 0), (1, .int .i32 (-1)), (5, .bool neg), (6, lv)], t := [], H := H, d := [], u := .norm } Q := by
  rw [wpl_step]
  have n3 : ¬ (3 : Int) = 0 := by omega
  simp only [lb_goboref11_E_class_0, go_sem, zA, zB, zC, reduceIte, zD, zE, zF, zG, zH, zI, reduceCtorEq, zJ, zK, zL, zM, zN, zO, zP, hR.get, n3]
  exact h _ _
theorem ec_loop {b n0 : Nat} {its : List It} {e : Nat} {iv : AV} {ib : Nat} {neg : Bool} (hs : Sm its) (hb : b < n0) (hi' : 0 < its.length → ib < n0) {H0 : Heap} {Q : Ctl → St → Prop} : ∀ (m : Nat) (acc : List R) (k : Nat) (lv : AV) (H : Heap), its.length < k + m → acc.length ≤ k → (∀ r ∈ acc, I32 r.lo ∧ I32 r.hi) → ErS b H its e k 0 0 iv ib → n0 ≤ H.size → Sl n0 H 2 (rcells acc) acc.length lv → Fr2 b b n0 H0 H →
    (∀ a, clGo its e (-1) m acc k = .error a → ∀ (l : List R) (lv' : AV) (H' : Heap) (k' : Nat) t x, l.length ≤ its.length + 1 → (∀ r ∈ l, I32 r.lo ∧ I32 r.hi) → Fr2 b b n0 H0 H' → n0 ≤ H'.size → ErS b H' its e k' 3 (a : Nat) iv ib → Sl n0 H' 2 (rcells l) l.length lv' → Q (.exit 0) { p := [(0, .ptr b 0), (1, .int .i32 (-1)), (5, .bool neg), (6, lv'), (47, x)], t := t, H := H', d := [], u := .norm }) →
    (∀ l k2, clGo its e (-1) m acc k = .ok (l, k2) → l.length ≤ k2 → (∀ r ∈ l, I32 r.lo ∧ I32 r.hi) → ∀ (lv' : AV) (H' : Heap) t x, Fr2 b b n0 H0 H' → n0 ≤ H'.size → ErS b H' its e k2 0 0 iv ib → Sl n0 H' 2 (rcells l) l.length lv' → Q (.exit 0) { p := [(0, .ptr b 0), (1, .int .i32 (-1)), (5, .bool neg), (6, lv'), (47, x)], t := t, H := H', d := [], u := .norm }) →
    wpl ⟨bt.get, o⟩ [0, 1, 5, 6] lb_goboref11_E_class_0 { p := [(0, .ptr b 0), (1, .int .i32 (-1)), (5, .bool neg), (6, lv)], t := [], H := H, d := [], u := .norm } Q := by
  intro m
  induction m with
  | zero =>
    intro acc k lv H hm ha hr hR hn hS hf hF hT
    have := hR.le
    omega
  | succ m ih =>
    intro acc k lv H hm ha hr hR hn hS hf hF hT
    have fr2 : ∀ {H1 H2 : Heap}, Fr b .nils H1 H2 → n0 ≤ H1.size → Fr2 b b n0 H1 H2 := fun h hs => ⟨h.1, fun c h1 h2 _ => h.2 c (by omega) h2 (fun _ _ _ e => by cases e)⟩
    have xf : ∀ {H1 H2 : Heap}, Ext n0 H1 H2 → Fr2 b b n0 H1 H2 := fun x => ⟨x.1, fun c h1 _ _ => x.2 c h1⟩
    have hle := hR.le
    have hsm := hR.sm
    have n1 : ¬ (0 : Int) ≤ -1 := by omega
    have n2 : (-1 : Int) < 0 := by omega
    have n3 : ¬ (3 : Int) = 0 := by omega
    have hlen : lenI lv = some (acc.length : Int) := by
      rcases hS with ⟨rfl, h, _⟩ | ⟨_, rfl, _⟩
      · rw [h] <;> rfl
      · rfl
    have hS1 : ∀ {H1 : Heap}, Fr2 b b n0 H H1 → (∀ c, n0 ≤ c → c < H.size → H1.get c = H.get c) → Sl n0 H1 2 (rcells acc) acc.length lv := fun f1 f2 => hS.frame fun ob h1 h2 _ => f2 ob h1 (Heap.lt_of_get (by rw [h2]; simp))
    have up1 : ∀ {H1 H2 : Heap}, Fr b .nils H1 H2 → ∀ c, n0 ≤ c → c < H1.size → H2.get c = H1.get c := fun f1 c h1 h2 => f1.2 c h2 (by omega) (fun _ _ _ e => by cases e)
    by_cases hc : acc ≠ [] ∧ peekR its k = -1
    · have e0 : clGo its e (-1) (m + 1) acc k = .ok (acc, k) := by rw [clGo, if_pos hc]
      have hk : its.length ≤ k := peekR_end.1 hc.2
      have h1 : ¬ (acc.length : Int) = 0 := by
        have := List.length_pos_iff.2 hc.1; omega
      have h2 : ¬ (k : Int) < (its.length : Int) := by omega
      rw [wpl_step]
      simp only [lb_goboref11_E_class_0, go_sem, zA, zB, zC, reduceIte, zD, zE, zF, zG, zH, zI, reduceCtorEq, zJ, zK, zL, zM, zN, zO, zP, hR.get, hlen, h1, n1, n2, hR.rd.len, h2]
      exact hT acc k e0 ha hr _ _ _ _ hf hn hR hS
    · -- one more range
      have ap : ∀ (H2 : Heap) (lo hi : Int), n0 ≤ H2.size → Sl n0 H2 2 (rcells acc) acc.length lv → ∃ nb H3, appendA (H2.push (.cells [.int .i32 lo, .int .i32 hi] .own)) 2 8 lv 1 [.int .i32 lo, .int .i32 hi] = some (.osl 2 nb 0 (acc.length + 1), H3) ∧ Ext n0 H2 H3 ∧ Sl n0 H3 2 (rcells (acc ++ [⟨lo, hi⟩])) (acc ++ [(⟨lo, hi⟩ : R)]).length (.osl 2 nb 0 (acc.length + 1)) := fun H2 lo hi hn2 S2 => by
        obtain ⟨nb, H3, ea, x3, s3⟩ := append_spec (bytes := 8) (ys := [.int .i32 lo, .int .i32 hi]) (k := 1) (Sl.push (x := .cells [.int .i32 lo, .int .i32 hi] .own) S2) (by rw [Heap.size_push]; omega) (by omega) rfl (by omega) (by omega)
        exact ⟨nb, H3, ea, (Ext.push hn2).trans x3, by rw [rcells_app, List.length_append]; exact s3⟩
      have al : ∀ lo hi : Int, (acc ++ [(⟨lo, hi⟩ : R)]).length = acc.length + 1 := fun lo hi => by rw [List.length_append] <;> rfl
      have ar : ∀ lo hi : Int, I32 lo → I32 hi → ∀ r ∈ acc ++ [(⟨lo, hi⟩ : R)], I32 r.lo ∧ I32 r.hi := fun lo hi h1 h2 r hr' => by
        rcases List.mem_append.1 hr' with hr' | hr'
        · exact hr r hr'
        · simp at hr'; rw [hr']; exact ⟨h1, h2⟩
      have z32 : I32 0 := ⟨by omega, by omega⟩
      -- wrong
      have ex : ∀ (a : Nat), clGo its e (-1) (m + 1) acc k = .error a → ∀ (H2 H3 : Heap) (lo hi : Int) (k' nb : Nat), I32 lo → I32 hi → ErS b H2 its e k' 3 (a : Nat) iv ib → Fr2 b b n0 H0 H2 → n0 ≤ H2.size → Ext n0 H2 H3 → Sl n0 H3 2 (rcells (acc ++ [⟨lo, hi⟩])) (acc ++ [(⟨lo, hi⟩ : R)]).length (.osl 2 nb 0 (acc.length + 1)) →
          wpl ⟨bt.get, o⟩ [0, 1, 5, 6] lb_goboref11_E_class_0 { p := [(0, .ptr b 0), (1, .int .i32 (-1)), (5, .bool neg), (6, .osl 2 nb 0 (acc.length + 1))], t := [], H := H3, d := [], u := .norm } Q := fun a ha H2 H3 lo hi k' nb h1 h2 R2 f2 hn2 x3 s3 => by
        refine ec_exit (R2.ex x3 hb hi') fun t x => ?_
        exact hF a ha _ _ _ k' t x (by rw [al]; omega) (ar lo hi h1 h2) (f2.trans (xf x3)) (Nat.le_trans hn2 x3.1) (R2.ex x3 hb hi') s3
      -- right
      have go : ∀ (H2 H3 : Heap) (lo hi : Int) (k2 nb : Nat), clGo its e (-1) (m + 1) acc k = clGo its e (-1) m (acc ++ [⟨lo, hi⟩]) k2 → I32 lo → I32 hi → k < k2 → ErS b H2 its e k2 0 0 iv ib → Fr2 b b n0 H0 H2 → n0 ≤ H2.size → Ext n0 H2 H3 → Sl n0 H3 2 (rcells (acc ++ [⟨lo, hi⟩])) (acc ++ [(⟨lo, hi⟩ : R)]).length (.osl 2 nb 0 (acc.length + 1)) →
          wpl ⟨bt.get, o⟩ [0, 1, 5, 6] lb_goboref11_E_class_0 { p := [(0, .ptr b 0), (1, .int .i32 (-1)), (5, .bool neg), (6, .osl 2 nb 0 (acc.length + 1))], t := [], H := H3, d := [], u := .norm } Q := fun H2 H3 lo hi k2 nb e0 h1 h2 hkk R2 f2 hn2 x3 s3 => by
        rw [e0] at hF hT
        exact ih _ k2 _ H3 (by omega) (by rw [al]; omega) (ar lo hi h1 h2) (R2.ex x3 hb hi') (Nat.le_trans hn2 x3.1) s3 (f2.trans (xf x3)) hF hT
      -- the body
      have body : ∀ t, wpc ⟨bt.get, o⟩ (match lb_goboref11_E_class_0 with | .seq _ (.block _ _ c) => c | _ => .skip) { p := [(0, .ptr b 0), (1, .int .i32 (-1)), (5, .bool neg), (6, lv), (47, .bool true)], t := t, H := H, d := [], u := .norm } (blockK 1 [0, 1, 5, 6] (loopK ⟨bt.get, o⟩ [0, 1, 5, 6] lb_goboref11_E_class_0 Q)) := by
        intro t
        simp only [lb_goboref11_E_class_0, go_sem, zA, zB, zC, reduceIte, zD, zE, zF, zG, zH, zI, reduceCtorEq, zJ, zK, zL, zM, zN, zO, zP]
        refine e_member ho hR (fun a ha' H1 k1 f1 R1 => ?_) (fun lo k1 ha' H1 f1 R1 => ?_)
        · have g1 : Fr2 b b n0 H H1 := fr2 f1 hn
          have hn1 : n0 ≤ H1.size := Nat.le_trans hn f1.1
          obtain ⟨nb, H3, ea, x3, s3⟩ := ap H1 0 0 hn1 (hS1 g1 (up1 f1))
          simp only [go_sem, zA, zB, zC, reduceIte, zD, zE, zF, zG, zH, zI, reduceCtorEq, zJ, zK, zL, zM, zN, zO, zP]
          refine e_take ho (by omega) R1 (fun hp => ?_) (fun h0 _ => by omega)
          simp only [go_sem, zA, zB, zC, reduceIte, zD, zE, zF, zG, zH, zI, reduceCtorEq, zJ, zK, zL, zM, zN, zO, zP, ea]
          exact ex a (by rw [clGo, if_neg hc, ha']) H1 H3 0 0 k1 nb z32 z32 R1 (hf.trans g1) hn1 x3 s3
        · obtain ⟨lo0, lo1, lk1, lk2⟩ := runeR_bd hs hle ha'
          have l32 : I32 lo := ⟨by omega, by omega⟩
          have g1 : Fr2 b b n0 H H1 := fr2 f1 hn
          have hn1 : n0 ≤ H1.size := Nat.le_trans hn f1.1
          simp only [go_sem, zA, zB, zC, reduceIte, zD, zE, zF, zG, zH, zI, reduceCtorEq, zJ, zK, zL, zM, zN, zO, zP]
          refine e_take ho (by omega) R1 (fun hp => ?_) (fun _ hp H2 f2 R2 => ?_)
          · have hp' : peekR its k1 ≠ 45 := fun h => hp ((peekB_eq (by omega)).2 ⟨rfl, h⟩)
            obtain ⟨nb, H3, ea, x3, s3⟩ := ap H1 lo lo hn1 (hS1 g1 (up1 f1))
            simp only [go_sem, zA, zB, zC, reduceIte, zD, zE, zF, zG, zH, zI, reduceCtorEq, zJ, zK, zL, zM, zN, zO, zP, ea]
            exact go H1 H3 lo lo k1 nb (by rw [clGo, if_neg hc, ha']; simp only [if_neg hp']) l32 l32 lk1 R1 (hf.trans g1) hn1 x3 s3
          · have g2 : Fr2 b b n0 H H2 := g1.trans (fr2 f2 hn1)
            have hn2 : n0 ≤ H2.size := Nat.le_trans hn1 f2.1
            have u2 : ∀ c, n0 ≤ c → c < H.size → H2.get c = H.get c := fun c h1 h2 => by rw [up1 f2 c h1 (by have := f1.1; omega), up1 f1 c h1 h2]
            simp only [go_sem, zA, zB, zC, reduceIte, zD, zE, zF, zG, zH, zI, reduceCtorEq, zJ, zK, zL, zM, zN, zO, zP, R2.get]
            refine e_member ho R2 (fun a ha2 H3 k3 f3 R3 => ?_) (fun hi k3 ha2 H3 f3 R3 => ?_)
            · have g3 : Fr2 b b n0 H H3 := g2.trans (fr2 f3 hn2)
              have hn3 : n0 ≤ H3.size := Nat.le_trans hn2 f3.1
              obtain ⟨nb, H4, ea, x4, s4⟩ := ap H3 lo 0 hn3 (hS1 g3 fun c h1 h2 => by rw [up1 f3 c h1 (by have := f1.1; have := f2.1; omega), u2 c h1 h2])
              simp only [go_sem, zA, zB, zC, reduceIte, zD, zE, zF, zG, zH, zI, reduceCtorEq, zJ, zK, zL, zM, zN, zO, zP, R3.get, n3, ea]
              exact ex a (by rw [clGo, if_neg hc, ha']; simp only [if_pos hp, ha2]) H3 H4 lo 0 k3 nb l32 z32 R3 (hf.trans g3) hn3 x4 s4
            · obtain ⟨h0', h1', h2', h3'⟩ := runeR_bd hs R2.le ha2
              have h32 : I32 hi := ⟨by omega, by omega⟩
              have g3 : Fr2 b b n0 H H3 := g2.trans (fr2 f3 hn2)
              have hn3 : n0 ≤ H3.size := Nat.le_trans hn2 f3.1
              have u3 : ∀ c, n0 ≤ c → c < H.size → H3.get c = H.get c := fun c h1 h2 => by rw [up1 f3 c h1 (by have := f1.1; have := f2.1; omega), u2 c h1 h2]
              by_cases hlt : hi < lo
              · have R4 := R3.set (k' := k1 + 1) (bad' := 0) (wh' := 0) R2.le
                have f4 : Fr b .nils H3 (H3.set b (.cells [iv, .int .i64 e, .int .i64 ((k1 + 1 : Nat) : Int), .int .i64 0, .int .i64 0] .own)) := Fr.set
                simp only [go_sem, zA, zB, zC, reduceIte, zD, zE, zF, zG, zH, zI, reduceCtorEq, zJ, zK, zL, zM, zN, zO, zP, R3.get, hlt]
                refine e_fail ho R4 fun H5 f5 R5 => ?_
                have f35 := f4.trans f5
                have g5 : Fr2 b b n0 H H5 := g3.trans (fr2 f35 hn3)
                have hn5 : n0 ≤ H5.size := Nat.le_trans hn3 f35.1
                obtain ⟨nb, H6, ea, x6, s6⟩ := ap H5 lo hi hn5 (hS1 g5 fun c h1 h2 => by rw [up1 f35 c h1 (by have := f1.1; have := f2.1; have := f3.1; omega), u3 c h1 h2])
                simp only [go_sem, zA, zB, zC, reduceIte, zD, zE, zF, zG, zH, zI, reduceCtorEq, zJ, zK, zL, zM, zN, zO, zP, ea]
                exact ex _ (by rw [clGo, if_neg hc, ha']; simp only [if_pos hp, ha2, if_pos hlt]) H5 H6 lo hi _ nb l32 h32 R5 (hf.trans g5) hn5 x6 s6
              · obtain ⟨nb, H4, ea, x4, s4⟩ := ap H3 lo hi hn3 (hS1 g3 u3)
                simp only [go_sem, zA, zB, zC, reduceIte, zD, zE, zF, zG, zH, zI, reduceCtorEq, zJ, zK, zL, zM, zN, zO, zP, R3.get, hlt, ea]
                exact go H3 H4 lo hi k3 nb (by rw [clGo, if_neg hc, ha']; simp only [if_pos hp, ha2, if_neg hlt]) l32 h32 (by omega) R3 (hf.trans g3) hn3 x4 s4
      rw [wpl_step]
      by_cases h1 : acc = []
      · have h1' : (acc.length : Int) = 0 := by rw [h1] <;> rfl
        simp only [lb_goboref11_E_class_0, go_sem, zB, zC, reduceIte, zD, zE, zF, zG, zH, zI, reduceCtorEq, zJ, zK, zL, zM, zN, zO, zP, hR.get, hlen, h1', n1, n2]
        rw [seqK_normal]
        simp only [go_sem, zB, zC, reduceIte, zD, zE, zF, zG, zH, zI, reduceCtorEq, zJ, zK, zL, zM, zN, zO, zP, hR.get, hlen, h1', n1, n2]
        rw [seqK_normal]
        rw [wpc_block]
        exact body _
      · have h1' : ¬ (acc.length : Int) = 0 := by
          have := List.length_pos_iff.2 h1; omega
        have h2' : (k : Int) < (its.length : Int) := by
          have : ¬ its.length ≤ k := fun h => hc ⟨h1, peekR_end.2 h⟩
          omega
        simp only [lb_goboref11_E_class_0, go_sem, zB, zC, reduceIte, zD, zE, zF, zG, zH, zI, reduceCtorEq, zJ, zK, zL, zM, zN, zO, zP, hR.get, hlen, h1', n1, n2, hR.rd.len, h2']
        rw [seqK_normal]
        simp only [go_sem, zB, zC, reduceIte, zD, zE, zF, zG, zH, zI, reduceCtorEq, zJ, zK, zL, zM, zN, zO, zP, hR.get, hlen, h1', n1, n2, hR.rd.len, h2']
        rw [seqK_normal]
        rw [wpc_block]
        exact body _
end
/- goboref11: Class. -/
set_option maxRecDepth 8000
theorem preS_val {x : S} (h : x.1 < x.2) (hm : x.2 ≤ mostN) : preS ⟨valN x.1, valN (x.2 - 1)⟩ = some x := by
  obtain ⟨a, b⟩ := x
  simp only at h hm
  have hn : ∀ n, n < mostN → numN (valN n) = n ∧ behN (valN n) = n + 1 := by
    intro n hn
    unfold mostN at hn
    have h1 : numN (valN n) = n := by
      unfold numN valN
      split
      · rw [if_neg (by omega), if_pos (by omega)]; omega
      · rw [if_neg (by omega), if_neg (by omega), if_neg (by omega), if_neg (by omega)]; omega
    refine ⟨h1, ?_⟩
    unfold behN
    rw [h1, if_pos]
    unfold isR valN
    split <;> (simp only [Bool.and_eq_true, Bool.or_eq_true, decide_eq_true_eq]; omega)
  have h1 := hn a (by omega)
  have h2 := hn (b - 1) (by omega)
  have hv : (valN a : Int) ≤ (valN (b - 1) : Int) := by
    unfold valN; split <;> split <;> omega
  unfold preS
  simp only
  rw [h1.1, h2.2, if_pos ⟨hv, by omega⟩, show b - 1 + 1 = b by omega]
theorem spans_good (l : List R) : ∀ x ∈ spansF l, x.1 < x.2 ∧ x.2 ≤ mostN := by
  intro x hx
  obtain ⟨c, d⟩ := spansF_spec l
  have hlt := spansF_lt _ x hx
  refine ⟨hlt, ?_⟩
  obtain ⟨y, hy, h1, h2⟩ := (d (x.2 - 1)).1 ⟨x, hx, by omega, by omega⟩
  have := (preL_most y hy).2
  omega
theorem spans_again (l : List R) : spansF (normF l) = spansF l := by
  have hp : preL (normF l) = spansF l := by
    unfold normF preL rngF
    rw [List.filterMap_map]
    have : ∀ m : List S, (∀ x ∈ m, x.1 < x.2 ∧ x.2 ≤ mostN) → m.filterMap (preS ∘ fun x => (⟨valN x.1, valN (x.2 - 1)⟩ : R)) = m := by
      intro m
      induction m with
      | nil => intro _; rfl
      | cons y m ih =>
        intro h
        have hy := h y (by simp)
        rw [List.filterMap_cons, Function.comp, preS_val hy.1 hy.2, ih fun x hx => h x (by simp [hx])]
    exact this _ (spans_good l)
  obtain ⟨a, b⟩ := spansF_spec (normF l)
  obtain ⟨c, d⟩ := spansF_spec l
  refine apart_eq a c fun n => ?_
  rw [b, hp]
theorem notF_norm (l : List R) : notF (normF l) = notF l := by rw [notF, spans_again, notF]
section
variable {o : CallF} (ho : OvOnly o)
include ho
theorem e_class {b : Nat} {its : List It} {e : Nat} {iv : AV} {ib : Nat} (hs : Sm its) (hl : its.length ≤ 49990) {H : Heap} (hR : ErS b H its e 0 0 0 iv ib) {Q : End → Heap → Prop}
    (hF : ∀ a, clGo its e (-1) (its.length + 1) [] (if peekR its 0 = 94 then 1 else 0) = .error a → ∀ H' v k' n, Fr2 b b H.size H H' → ErS b H' its e k' 3 (a : Nat) iv ib → lenI v = some n → Q (.ret v) H')
    (hT : ∀ l k2, clGo its e (-1) (its.length + 1) [] (if peekR its 0 = 94 then 1 else 0) = .ok (l, k2) → ∀ H' v s, s = (if peekR its 0 = 94 then notF l else normF l) → Fr2 b b H.size H H' → ErS b H' its e k2 0 0 iv ib → Sl H.size H' 2 (rcells s) s.length v → Q (.ret v) H') : wpf ⟨bt.get, o⟩ F_goboref11_E_class [.ptr b 0, .int .i32 (-1)] H Q := by
  rw [fn_goboref11_E_class (ho _ _ _ (by decide))]
  have hb : b < H.size := hR.lt
  have hi : 0 < its.length → ib < H.size := fun h => hR.rd.lt h
  simp only [bd_goboref11_E_class, go_sem, zA, zB, zC, reduceIte, zD, zE, zF, zG, zH, zI, reduceCtorEq, zJ, zK, zL, zM, zN, zO, zP]
  -- behind the loop, wrong or not
  have tail : ∀ (neg : Bool) (l : List R) (lv : AV) (H1 : Heap) (x : AV) (t : List (Nat × AV)) (bad a : Int) (k : Nat), l.length ≤ 50000 → (∀ r ∈ l, I32 r.lo ∧ I32 r.hi) → H.size ≤ H1.size → Fr2 b b H.size H H1 → ErS b H1 its e k bad a iv ib → Sl H.size H1 2 (rcells l) l.length lv →
      (∀ H' v s, s = (if neg = true then notF l else normF l) → Fr2 b b H.size H H' → ErS b H' its e k bad a iv ib → Sl H.size H' 2 (rcells s) s.length v → Q (.ret v) H') →
      wpc ⟨bt.get, o⟩ (seqR (seqR (seqR (seqR bd_goboref11_E_class)))) { p := [(5, .bool neg), (6, lv)], t := t, H := H1, d := [], u := .norm } (finK ⟨bt.get, o⟩ [.slot 4] Q) := by
    intro neg l lv H1 x t bad a k hll hr hsz f1 R1 S1 hQ
    obtain ⟨rb, hRd, _⟩ := S1.rd
    cases neg
    · simp only [bd_goboref11_E_class, seqR, go_sem, zA, zB, zC, reduceIte, zD, zE, zF, zG, zH, zI, reduceCtorEq, zJ, zK, zL, zM, zN, zO, zP]
      refine g_Norm ho hll hr hRd fun H2 v2 x2 s2 => ?_
      simp only [go_sem, zA, zB, zC, reduceIte, zD, zE, zF, zG, zH, zI, reduceCtorEq, zJ, zK, zL, zM, zN, zO, zP]
      exact hQ H2 v2 _ rfl (f1.trans ⟨x2.1, fun c h1 _ _ => x2.2 c (by omega)⟩) (R1.ex x2 (by omega) (fun h => by have := hi h; omega)) (s2.frame' hsz)
    · simp only [bd_goboref11_E_class, seqR, go_sem, zA, zB, zC, reduceIte, zD, zE, zF, zG, zH, zI, reduceCtorEq, zJ, zK, zL, zM, zN, zO, zP]
      refine g_Not ho hll hr hRd fun H2 v2 x2 s2 => ?_
      simp only [go_sem, zA, zB, zC, reduceIte, zD, zE, zF, zG, zH, zI, reduceCtorEq, zJ, zK, zL, zM, zN, zO, zP]
      exact hQ H2 v2 _ rfl (f1.trans ⟨x2.1, fun c h1 _ _ => x2.2 c (by omega)⟩) (R1.ex x2 (by omega) (fun h => by have := hi h; omega)) (s2.frame' hsz)
  have fin : ∀ (neg : Bool) (k0 : Nat) (H0 : Heap), neg = decide (peekR its 0 = 94) → k0 = (if peekR its 0 = 94 then 1 else 0) → Fr b .nils H H0 → ErS b H0 its e k0 0 0 iv ib → wpl ⟨bt.get, o⟩ [0, 1, 5, 6] lb_goboref11_E_class_0 { p := [(0, .ptr b 0), (1, .int .i32 (-1)), (5, .bool neg), (6, .nils)], t := [], H := H0, d := [], u := .norm } (blockK 0 [5, 6] (seqK ⟨bt.get, o⟩ (seqR (seqR (seqR (seqR bd_goboref11_E_class)))) (finK ⟨bt.get, o⟩ [.slot 4] Q))) := by
    intro neg k0 H0 hneg hk0 f0 R0
    have g0 : Fr2 b b H.size H H0 := ⟨f0.1, fun c h1 h2 _ => f0.2 c h1 h2 (fun _ _ _ e => by cases e)⟩
    have en : ∀ l : List R, (if neg = true then notF l else normF l) = (if peekR its 0 = 94 then notF l else normF l) := fun l => by rw [hneg]; simp
    refine ec_loop ho hs hb hi (its.length + 1) [] k0 .nils H0 (by omega) (Nat.zero_le _) (fun r hr => by cases hr) R0 f0.1 Sl.nil g0 (fun a ha l lv H1 k' t x h1 h2 h3 h4 h5 h6 => ?_) (fun l k2 ha h1 h2 lv H1 t x h3 h4 h5 h6 => ?_)
    · rw [hk0] at ha
      have := tail neg l lv H1 x t 3 a k' (by omega) h2 h4 h3 h5 h6 fun H' v s hs' f' R' S' => by
        obtain ⟨rb, hRd, _⟩ := S'.rd
        exact hF a ha H' v k' _ f' R' hRd.len
      simp only [go_sem, zB, zC, reduceIte, zD, zE, zF, zG, zH, zI, reduceCtorEq, zJ, zK, zL, zM, zN, zO, zP]
      rw [seqK_normal]
      exact this
    · have hk2 := h5.le
      rw [hk0] at ha
      have := tail neg l lv H1 x t 0 0 k2 (by omega) h2 h4 h3 h5 h6 fun H' v s hs' f' R' S' => by
        rw [en] at hs'
        exact hT l k2 ha H' v s hs' f' R' S'
      simp only [go_sem, zB, zC, reduceIte, zD, zE, zF, zG, zH, zI, reduceCtorEq, zJ, zK, zL, zM, zN, zO, zP]
      rw [seqK_normal]
      exact this
  refine e_take ho (by omega) hR (fun hp => ?_) (fun _ hp H1 f1 R1 => ?_)
  · have hp' : peekR its 0 ≠ 94 := fun h => hp ((peekB_eq (by omega)).2 ⟨rfl, h⟩)
    simp only [go_sem, zA, zB, zC, reduceIte, zD, zE, zF, zG, zH, zI, reduceCtorEq, zJ, zK, zL, zM, zN, zO, zP]
    exact fin false 0 H (by simp [hp']) (by rw [if_neg hp']) Fr.refl hR
  · simp only [go_sem, zA, zB, zC, reduceIte, zD, zE, zF, zG, zH, zI, reduceCtorEq, zJ, zK, zL, zM, zN, zO, zP]
    exact fin true 1 H1 (by simp [hp]) (by rw [if_pos hp]) f1 R1
/-- The set of a class, as the document reads it. -/
theorem g_Class {s : List UInt8} (hs : s.length ≤ 49990) {H : Heap} {Q : End → Heap → Prop}
    (hE : ∀ l, classF s = .ok l → ∀ H' v, Ext H.size H H' → Sl H.size H' 2 (rcells l) l.length v → Q (.ret (.tup [v, .int .i64 0, .int .i64 0])) H')
    (hP : ∀ a, classF s = .error a → ∀ H', Ext H.size H H' → Q (.ret (.tup [.nils, .int .i64 3, .int .i64 a])) H') : wpf ⟨bt.get, o⟩ F_goboref11_Class [.str s] H Q := by
  rw [fn_goboref11_Class (ho _ _ _ (by decide))]
  simp only [bd_goboref11_Class, go_sem, zA, zB, zC, reduceIte, zD, zE, zF, zG, zH, zI, reduceCtorEq, zJ, zK, zL, zM, zN, zO, zP]
  refine g_All ho (by omega) fun H1 iv x1 s1 l1 => ?_
  obtain ⟨ib, hRd, _⟩ := s1.rd
  obtain ⟨c1, c2⟩ := s1.one
  have hib : 0 < (decAll s).length → ib < H1.size := fun h => hRd.lt h
  have x2 : Ext H1.size H1 (H1.push (.cells [iv, .int .i64 (s.length : Int), .int .i64 0, .int .i64 0, .int .i64 0] .own)) := Ext.push (Nat.le_refl _)
  have R0 : ErS H1.size (H1.push (.cells [iv, .int .i64 (s.length : Int), .int .i64 0, .int .i64 0, .int .i64 0] .own)) (decAll s) s.length 0 0 0 iv ib :=
    ⟨Heap.get_push_self, hRd.ext x2, fun h => by have := hib h; omega, Nat.zero_le _, by omega⟩
  have sz2 : (H1.push (.cells [iv, .int .i64 (s.length : Int), .int .i64 0, .int .i64 0, .int .i64 0] .own)).size = H1.size + 1 := Heap.size_push _ _
  have n3 : ¬ (3 : Int) = 0 := by omega
  simp only [go_sem, zA, zB, zC, reduceIte, zD, zE, zF, zG, zH, zI, reduceCtorEq, zJ, zK, zL, zM, zN, zO, zP, c1, c2]
  generalize H1.push (.cells [iv, .int .i64 (s.length : Int), .int .i64 0, .int .i64 0, .int .i64 0] .own) = H2 at x2 R0 sz2 ⊢
  have fx : ∀ {H3 : Heap}, Fr2 H1.size H1.size H2.size H2 H3 → Ext H.size H H3 := fun f => ⟨by have := x1.1; have := f.1; omega, fun c hc => by rw [f.2 c (by have := x1.1; omega) (by have := x1.1; omega) (by have := x1.1; omega), x2.2 c (by have := x1.1; omega), x1.2 c hc]⟩
  refine e_class ho (decAll_sm s) (by omega) R0 (fun a ha H3 v k' n f3 R3 hn => ?_) (fun l k2 ha H3 v s' hs' f3 R3 S3 => ?_)
  · have hcf : classF s = .error a := by
      have : classR (decAll s) s.length (-1) 0 = .error a := by rw [classR, ha]
      rw [classF, this]
    simp only [go_sem, zA, zB, zC, reduceIte, zD, zE, zF, zG, zH, zI, reduceCtorEq, zJ, zK, zL, zM, zN, zO, zP, R3.get, n3]
    exact hP a hcf H3 (fx f3)
  · have hse : s' = (if peekR (decAll s) 0 = 94 then notF (normF l) else normF l) := by rw [hs', notF_norm]
    obtain ⟨rb, hRd3, _⟩ := S3.rd
    by_cases h0 : s' = []
    · have hcf : classF s = .error (atR (decAll s) s.length k2) := by
        have : classR (decAll s) s.length (-1) 0 = .error (atR (decAll s) s.length k2) := by
          rw [classR, ha]; simp only; rw [← hse, if_pos h0]
        rw [classF, this]
      have hn0 : (s'.length : Int) = 0 := by rw [h0] <;> rfl
      simp only [go_sem, zA, zB, zC, reduceIte, zD, zE, zF, zG, zH, zI, reduceCtorEq, zJ, zK, zL, zM, zN, zO, zP, R3.get, hRd3.len, hn0]
      refine e_fail ho R3 fun H4 f4 R4 => ?_
      simp only [go_sem, zA, zB, zC, reduceIte, zD, zE, zF, zG, zH, zI, reduceCtorEq, zJ, zK, zL, zM, zN, zO, zP, R4.get, n3]
      exact hP _ hcf H4 (fx (f3.trans ⟨f4.1, fun c h1 h2 _ => f4.2 c (by have := f3.1; omega) h2 (fun _ _ _ e => by cases e)⟩))
    · have hcf : classF s = .ok s' := by
        have : classR (decAll s) s.length (-1) 0 = .ok (s', k2) := by
          rw [classR, ha]; simp only; rw [← hse, if_neg h0]
        rw [classF, this]
      have hn0 : ¬ (s'.length : Int) = 0 := by
        have := List.length_pos_iff.2 h0; omega
      simp only [go_sem, zA, zB, zC, reduceIte, zD, zE, zF, zG, zH, zI, reduceCtorEq, zJ, zK, zL, zM, zN, zO, zP, R3.get, hRd3.len, hn0]
      exact hE s' hcf H3 _ (fx f3) (S3.frame' (by have := x1.1; omega))
end
end Go.Ev
/- 'told', run by the kernel. -/
namespace Go.Ev
open Go Go.Proofs
theorem told_run : retB (evFn bt.get 1000 F_gobolaw12_told [] (glHeap gl)) = true := by kernel_rfl
/-- 'told' comes to true. -/
def callT : FuncId → List AV → Heap → Option (Ev.End × Heap) := orCall (pureCall gl F_gobolaw12_told [] (.bool true)) (evFn bt.get 1000)
theorem callT_ok (B : Nat) : CallOK Tryz.prog B callT := by
  obtain ⟨H, h⟩ := retB_some told_run
  exact (pureCall_ok (callOK 1000 B) gl_ok gl_len rfl rfl h).or (callOK 1000 B)
end Go.Ev
/- 'told' comes to true. -/
namespace Go.Ev
open Go Go.Proofs
/-- 'told' comes to true. -/
def ovT : CallF := pureCall gl F_told [] (.bool true)
theorem ovT_only : OvOnly ovT := fun f l H h => by simp only [ovT, pureCall, if_neg h]
theorem okGl_GlH {H : Heap} (h : GlH H) : okGl gl 0 H = true := by
  simp only [gl, okGl, h.2.1, h.2.2.1, AV.beqs_self, Bool.and_true]
theorem t_told {H : Heap} {Q : End → Heap → Prop} (hG : GlH H) (h : Q (.ret (.bool true)) H) : wpf ⟨bt.get, ovT⟩ F_told [] H Q :=
  wpf_ov (M := ⟨bt.get, ovT⟩) (by simp only [ovT, pureCall, okGl_GlH hG, AV.beqs, Bool.and_true, if_true]) h
theorem glH0 : GlH (glHeap gl) := ⟨by rw [glHeap_size]; decide, by rw [glHeap_get]; rfl, by rw [glHeap_get]; rfl, fun p hp => by cases hp⟩
end Go.Ev
