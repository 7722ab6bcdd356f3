/- Several texts of this claim, joined. -/
import Derived.Test.YtifhmogcdgfojaaGreatDoorT29
import Derived.Test.YtifhmogcdgfojaaGreatDoorT27
set_option linter.unusedSimpArgs false
set_option linter.unusedVariables false

/- Expressions from texts: plainly; how they lie in memory. -/
namespace Go.Ev
open Go
set_option maxRecDepth 8000
/-- An expression. -/
inductive Rx where
  | emp
  | set (l : List R)
  | seq (a b : Rx)
  | alt (a b : Rx)
  | star (a : Rx)
/-- Why there is none: a code, and where; `stuck`: nothing is said. -/
inductive PErr where
  | stuck
  | fail (c a : Nat)
def starsP (its : List It) : Nat → Rx → Nat → Rx × Nat
  | 0, p, k => (p, k)
  | m + 1, p, k => if peekR its k = 42 then starsP its m (.star p) (k + 1) else (p, k)
mutual
def altP (its : List It) (e : Nat) : Nat → Nat → Rx → Nat → Except PErr (Rx × Nat)
  | 0, _, _, _ => .error .stuck
  | n + 1, d, x, k => if peekR its k = 124 then (match rowP its e n d .emp false (k + 1) with
      | .error _ => .error .stuck
      | .ok (y, k1) => altP its e n d (.alt x y) k1) else .ok (x, k)
def rowP (its : List It) (e : Nat) : Nat → Nat → Rx → Bool → Nat → Except PErr (Rx × Nat)
  | 0, _, _, _, _ => .error .stuck
  | n + 1, d, x, sm, k => if peekR its k = -1 ∨ peekR its k = 124 ∨ peekR its k = 41 then .ok (x, k) else
      match atomP its e n d k with
      | .error q => .error q
      | .ok (p, k1) => rowP its e n d (if sm then .seq x (starsP its its.length p k1).1 else (starsP its its.length p k1).1) true (starsP its its.length p k1).2
def atomP (its : List It) (e : Nat) : Nat → Nat → Nat → Except PErr (Rx × Nat)
  | 0, _, _ => .error .stuck
  | n + 1, d, k =>
    if peekR its k = 40 then
      (if 40 < d + 1 then .error (.fail 7 (atR its e k)) else
      match rowP its e n (d + 1) .emp false (k + 1) with
      | .error q => .error q
      | .ok (x, k1) => match altP its e n (d + 1) x k1 with
        | .error q => .error q
        | .ok (y, k2) => if peekR its k2 = 41 then .ok (y, k2 + 1) else .error (.fail 3 (atR its e k2)))
    else if peekR its k = 91 then
      (if bigC its e 93 (k + 1) then .error .stuck else match classR its e 93 (k + 1) with
      | .error a => .error (.fail 3 a)
      | .ok (l, k2) => if peekR its k2 = 93 then .ok (.set l, k2 + 1) else .error (.fail 3 (atR its e k2)))
    else if peekR its k = 46 then .ok (.set (notF [⟨10, 10⟩]), k + 1)
    else match runeR its e false k with
      | .error a => .error (.fail 3 a)
      | .ok (c, k1) => .ok (.set [⟨c, c⟩], k1)
end
def allP (its : List It) (e n d k : Nat) : Except PErr (Rx × Nat) := match rowP its e n d .emp false k with
  | .error q => .error q
  | .ok (x, k1) => altP its e n d x k1
theorem atomP_br {its : List It} {e n d k : Nat} (h40 : peekR its k = 40) (hd : ¬ 40 < d + 1) : atomP its e (n + 1) d k = match allP its e n (d + 1) (k + 1) with
    | .error q => .error q
    | .ok (y, k2) => if peekR its k2 = 41 then .ok (y, k2 + 1) else .error (.fail 3 (atR its e k2)) := by
  rw [atomP, if_pos h40, if_neg hd, allP]
  cases rowP its e n (d + 1) .emp false (k + 1) <;> rfl
/-- How an expression lies in memory: its cells; each of its blocks is one of `P`. -/
def ReV (P : Nat → Prop) (H : Heap) : Rx → List AV → Prop
  | .emp, cs => cs = [.int .i64 1, .nils, .nils]
  | .set l, cs => ∃ v b, cs = [.int .i64 2, v, .nils] ∧ Rd H 2 (rcells l) l.length v b ∧ (0 < l.length → P b) ∧ l.length ≤ 1000000
  | .seq x y, cs => ∃ v b cx cy, cs = [.int .i64 3, .nils, v] ∧ Rd H 3 (cx ++ cy) 2 v b ∧ P b ∧ ReV P H x cx ∧ ReV P H y cy
  | .alt x y, cs => ∃ v b cx cy, cs = [.int .i64 4, .nils, v] ∧ Rd H 3 (cx ++ cy) 2 v b ∧ P b ∧ ReV P H x cx ∧ ReV P H y cy
  | .star x, cs => ∃ v b cx, cs = [.int .i64 5, .nils, v] ∧ Rd H 3 cx 1 v b ∧ P b ∧ ReV P H x cx
theorem ReV.keep {P Q : Nat → Prop} {H H' : Heap} (hk : ∀ b, P b → b < H.size → H'.get b = H.get b ∧ Q b) : ∀ {x : Rx} {cs}, ReV P H x cs → ReV Q H' x cs
  | .emp, cs, h => h
  | .set l, cs, ⟨v, b, h1, h2, h3, h4⟩ => ⟨v, b, h1, h2.keep fun hp => (hk b (h3 hp) (h2.lt hp)).1, fun hp => (hk b (h3 hp) (h2.lt hp)).2, h4⟩
  | .seq x y, cs, ⟨v, b, cx, cy, h1, h2, h3, h4, h5⟩ => ⟨v, b, cx, cy, h1, h2.keep fun hp => (hk b h3 (h2.lt hp)).1, (hk b h3 (h2.lt (by omega))).2, h4.keep hk, h5.keep hk⟩
  | .alt x y, cs, ⟨v, b, cx, cy, h1, h2, h3, h4, h5⟩ => ⟨v, b, cx, cy, h1, h2.keep fun hp => (hk b h3 (h2.lt hp)).1, (hk b h3 (h2.lt (by omega))).2, h4.keep hk, h5.keep hk⟩
  | .star x, cs, ⟨v, b, cx, h1, h2, h3, h4⟩ => ⟨v, b, cx, h1, h2.keep fun hp => (hk b h3 (h2.lt hp)).1, (hk b h3 (h2.lt (by omega))).2, h4.keep hk⟩
theorem ReV.imp {P Q : Nat → Prop} {H : Heap} {x : Rx} {cs} (h : ReV P H x cs) (hk : ∀ b, P b → b < H.size → Q b) : ReV Q H x cs := h.keep fun b h1 h2 => ⟨rfl, hk b h1 h2⟩
theorem Rd.one {H sz cs n v b} (h : Rd H sz cs n v b) : AV.cells v = [v] ∧ AV.one v = true := by
  by_cases hn : n = 0
  · rcases h.zero hn with rfl | ⟨b, c, rfl⟩ | ⟨b, rfl⟩ <;> exact ⟨rfl, rfl⟩
  · obtain ⟨_, _, h3⟩ := h.pos (by omega)
    rcases h3 with ⟨c, rfl⟩ | rfl <;> exact ⟨rfl, rfl⟩
/-- An expression's three cells. -/
theorem ReV.form {P H x cs} (h : ReV P H x cs) : ∃ k v w, cs = [.int .i64 k, v, w] ∧ (AV.cells v = [v] ∧ AV.one v = true) ∧ (AV.cells w = [w] ∧ AV.one w = true) := by
  cases x with
  | emp => exact ⟨1, .nils, .nils, h, ⟨rfl, rfl⟩, ⟨rfl, rfl⟩⟩
  | set l => obtain ⟨v, b, h1, h2, h3, h4⟩ := h; exact ⟨2, v, .nils, h1, h2.one, ⟨rfl, rfl⟩⟩
  | seq x y => obtain ⟨v, b, cx, cy, h1, h2, _⟩ := h; exact ⟨3, .nils, v, h1, ⟨rfl, rfl⟩, h2.one⟩
  | alt x y => obtain ⟨v, b, cx, cy, h1, h2, _⟩ := h; exact ⟨4, .nils, v, h1, ⟨rfl, rfl⟩, h2.one⟩
  | star x => obtain ⟨v, b, cx, h1, h2, _⟩ := h; exact ⟨5, .nils, v, h1, ⟨rfl, rfl⟩, h2.one⟩
def kindX : Rx → Int
  | .emp => 1
  | .set _ => 2
  | .seq _ _ => 3
  | .alt _ _ => 4
  | .star _ => 5
def setsX : Rx → List R
  | .set l => l
  | _ => []
def kidsX : Rx → List Rx
  | .seq a b => [a, b]
  | .alt a b => [a, b]
  | .star a => [a]
  | _ => []
/-- The same, part by part? -/
def sameX : Rx → Rx → Bool
  | .emp, .emp => true
  | .set l, .set m => decide (l = m)
  | .seq a b, .seq c d => sameX a c && sameX b d
  | .alt a b, .alt c d => sameX a c && sameX b d
  | .star a, .star c => sameX a c
  | _, _ => false
theorem sameX_iff : ∀ x y : Rx, sameX x y = true ↔ x = y
  | .emp, y => by cases y <;> simp [sameX]
  | .set l, y => by cases y <;> simp [sameX]
  | .seq a b, y => by cases y <;> simp [sameX, sameX_iff a, sameX_iff b]
  | .alt a b, y => by cases y <;> simp [sameX, sameX_iff a, sameX_iff b]
  | .star a, y => by cases y <;> simp [sameX, sameX_iff a]
theorem sameX_kids (x y : Rx) : sameX x y = (decide (kindX x = kindX y) && decide (setsX x = setsX y) && ((kidsX x).zip (kidsX y)).all fun p => sameX p.1 p.2) := by
  cases x <;> cases y <;> simp [sameX, kindX, setsX, kidsX] <;> exact decide_eq_decide.2 Iff.rfl
theorem kids_len {x y : Rx} (h : kindX x = kindX y) : (kidsX x).length = (kidsX y).length := by
  cases x <;> cases y <;> simp [kindX] at h <;> rfl
/-- An expression's cells: its kind, its set, its parts. -/
theorem ReV.split {P H x cs} (h : ReV P H x cs) : ∃ vs bs vl bl ck, cs = [.int .i64 (kindX x), vs, vl] ∧ Rd H 2 (rcells (setsX x)) (setsX x).length vs bs ∧ (setsX x).length ≤ 1000000 ∧ Rd H 3 ck (kidsX x).length vl bl ∧ (∀ (i : Nat) k, (kidsX x)[i]? = some k → ReV P H k (List.take 3 (List.drop (i * 3) ck)) ∧ i * 3 + 3 ≤ ck.length) := by
  have n3 : ∀ {k c}, ReV P H k c → c.length = 3 := fun h => by obtain ⟨k, v, w, e, _⟩ := h.form; rw [e]; rfl
  cases x with
  | emp => exact ⟨.nils, 0, .nils, 0, [], h, Rd.nil, by simp [setsX], Rd.nil, fun i k hk => by simp [kidsX] at hk⟩
  | set l => obtain ⟨v, b, h1, h2, h3, h4⟩ := h; exact ⟨v, b, .nils, 0, [], h1, h2, h4, Rd.nil, fun i k hk => by simp [kidsX] at hk⟩
  | seq x y =>
    obtain ⟨v, b, cx, cy, h1, h2, h3, h4, h5⟩ := h
    refine ⟨.nils, 0, v, b, cx ++ cy, h1, Rd.nil, by simp [setsX], h2, fun i k hk => ?_⟩
    have a1 := n3 h4
    have a2 := n3 h5
    match i, hk with
    | 0, hk => simp only [kidsX, List.getElem?_cons_zero, Option.some.injEq] at hk; subst hk; refine ⟨?_, by rw [List.length_append]; omega⟩; rw [Nat.zero_mul, List.drop_zero, List.take_append_of_le_length (by omega), List.take_of_length_le (by omega)]; exact h4
    | 1, hk => simp only [kidsX, List.getElem?_cons_succ, List.getElem?_cons_zero, Option.some.injEq] at hk; subst hk; refine ⟨?_, by rw [List.length_append]; omega⟩; rw [List.drop_left' (by omega), List.take_of_length_le (by omega)]; exact h5
    | i + 2, hk => simp [kidsX] at hk
  | alt x y =>
    obtain ⟨v, b, cx, cy, h1, h2, h3, h4, h5⟩ := h
    refine ⟨.nils, 0, v, b, cx ++ cy, h1, Rd.nil, by simp [setsX], h2, fun i k hk => ?_⟩
    have a1 := n3 h4
    have a2 := n3 h5
    match i, hk with
    | 0, hk => simp only [kidsX, List.getElem?_cons_zero, Option.some.injEq] at hk; subst hk; refine ⟨?_, by rw [List.length_append]; omega⟩; rw [Nat.zero_mul, List.drop_zero, List.take_append_of_le_length (by omega), List.take_of_length_le (by omega)]; exact h4
    | 1, hk => simp only [kidsX, List.getElem?_cons_succ, List.getElem?_cons_zero, Option.some.injEq] at hk; subst hk; refine ⟨?_, by rw [List.length_append]; omega⟩; rw [List.drop_left' (by omega), List.take_of_length_le (by omega)]; exact h5
    | i + 2, hk => simp [kidsX] at hk
  | star x =>
    obtain ⟨v, b, cx, h1, h2, h3, h4⟩ := h
    refine ⟨.nils, 0, v, b, cx, h1, Rd.nil, by simp [setsX], h2, fun i k hk => ?_⟩
    have a1 := n3 h4
    match i, hk with
    | 0, hk => simp only [kidsX, List.getElem?_cons_zero, Option.some.injEq] at hk; subst hk; refine ⟨?_, by omega⟩; rw [Nat.zero_mul, List.drop_zero, List.take_of_length_le (by omega)]; exact h4
    | i + 1, hk => simp [kidsX] at hk
/-- All below a bound stays but some blocks. -/
def FrX (xs : List Nat) (n : Nat) (H H' : Heap) : Prop := H.size ≤ H'.size ∧ ∀ c, c < n → c ∉ xs → H'.get c = H.get c
theorem FrX.refl {xs n H} : FrX xs n H H := ⟨Nat.le_refl _, fun _ _ _ => rfl⟩
theorem FrX.trans {xs n H H1 H2} (h : FrX xs n H H1) (k : FrX xs n H1 H2) : FrX xs n H H2 := ⟨Nat.le_trans h.1 k.1, fun c h1 h2 => by rw [k.2 c h1 h2, h.2 c h1 h2]⟩
theorem FrX.mono {xs ys n m H H'} (h : FrX xs n H H') (hm : m ≤ n) (hx : ∀ c, c ∉ ys → c < m → c ∉ xs) : FrX ys m H H' := ⟨h.1, fun c h1 h2 => h.2 c (by omega) (hx c h2 h1)⟩
theorem FrX.ofExt {xs n H H'} (h : Ext n H H') : FrX xs n H H' := ⟨h.1, fun c h1 _ => h.2 c h1⟩
theorem FrX.set {xs n H b x} (h : b ∈ xs ∨ n ≤ b) : FrX xs n H (H.set b x) := ⟨by rw [Heap.size_set]; exact Nat.le_refl _, fun c h1 h2 => Heap.get_set_ne (by
  rcases h with h | h
  · intro e; subst e; exact h2 h
  · omega)⟩
/-- A parser of expressions: its block, its reader's, where it stands, how deep. -/
structure PS (xb rb : Nat) (H : Heap) (its : List It) (e k d : Nat) (iv : AV) (ib : Nat) : Prop where
  get : H.get xb = .cells [.ptr rb 0, .int .i64 (d : Int)] .own
  rdr : RdrS rb H its e k iv ib
  ne : xb ≠ rb
  ni : 0 < its.length → ib ≠ xb
theorem PS.lt {xb rb H its e k d iv ib} (h : PS xb rb H its e k d iv ib) : xb < H.size := Heap.lt_of_get (by rw [h.get]; simp)
theorem PS.ilt {xb rb H its e k d iv ib} (h : PS xb rb H its e k d iv ib) (hp : 0 < its.length) : ib < H.size := h.rdr.rd.lt hp
/-- Behind what has changed none of its blocks. -/
theorem PS.keep {xb rb H H' its e k d iv ib} (h : PS xb rb H its e k d iv ib) {xs : List Nat} {n : Nat} (f : FrX xs n H H') (h1 : xb < n ∧ xb ∉ xs) (h2 : rb < n ∧ rb ∉ xs) (h3 : 0 < its.length → ib < n ∧ ib ∉ xs) : PS xb rb H' its e k d iv ib :=
  ⟨by rw [f.2 xb h1.1 h1.2, h.get], ⟨by rw [f.2 rb h2.1 h2.2, h.rdr.get], h.rdr.rd.keep fun hp => f.2 ib (h3 hp).1 (h3 hp).2, h.rdr.ne, h.rdr.le, h.rdr.sm⟩, h.ne, h.ni⟩
theorem PS.ext {xb rb H H' its e k d iv ib} (h : PS xb rb H its e k d iv ib) (x : Ext H.size H H') : PS xb rb H' its e k d iv ib :=
  h.keep (xs := []) (FrX.ofExt x) ⟨h.lt, by simp⟩ ⟨h.rdr.lt, by simp⟩ fun hp => ⟨h.ilt hp, by simp⟩
/-- The reader has gone on. -/
theorem PS.go {xb rb H H' its e k k' d iv ib} (h : PS xb rb H its e k d iv ib) (f : Fr rb .nils H H') (r : RdrS rb H' its e k' iv ib) : PS xb rb H' its e k' d iv ib :=
  ⟨f.get h.get (by simp) h.ne, r, h.ne, h.ni⟩
theorem Fr.frX {b H H' n} (f : Fr b .nils H H') (hn : n ≤ H.size) : FrX [b] n H H' := ⟨f.1, fun c h1 h2 => f.2 c (by omega) (by simpa using h2) (fun _ _ _ e => by cases e)⟩
theorem Fr2.frX {a b n H H'} (f : Fr2 a b n H H') : FrX [a, b] n H H' := ⟨f.1, fun c h1 h2 => f.2 c h1 (fun e => h2 (by simp [e])) (fun e => h2 (by simp [e]))⟩
/- Expressions from texts: what the small functions come to. -/
open Go.Ev renaming seqK_normal → zA, blockK_normal → zB, blockK_exit → zC
open Nat renaming reduceEqDiff → zD, reduceAdd → zE, reduceSub → zF, reduceMul → zG, reduceLeDiff → zH, reduceLT → zI
open Int renaming reduceToNat → zJ, reduceLT → zK, reduceLE → zL, reduceEq → zM, reduceAdd → zN, reduceSub → zO, reduceMul → zP
set_option maxRecDepth 8000
theorem Heap.get3_0 {H : Heap} {a b c : Blk} : (((H.push a).push b).push c).get H.size = a := by
  rw [Heap.get_push_lt (by rw [Heap.size_push, Heap.size_push]; omega), Heap.get_push_lt (by rw [Heap.size_push]; omega), Heap.get_push_self]
theorem Heap.get3_1 {H : Heap} {a b c : Blk} : (((H.push a).push b).push c).get (H.size + 1) = b := by
  rw [Heap.get_push_lt (by rw [Heap.size_push, Heap.size_push]; omega), Heap.get_push_eq (by rw [Heap.size_push])]
theorem Heap.get4_2 {H : Heap} {a b c d : Blk} : ((((H.push a).push b).push c).push d).get (H.size + 1 + 1) = c := by
  rw [Heap.get_push_lt (by simp only [Heap.size_push]; omega), Heap.get_push_eq (by simp only [Heap.size_push])]
theorem Heap.lt4_2 (H : Heap) (a b c d : Blk) : H.size + 1 + 1 < ((((H.push a).push b).push c).push d).size := by
  simp only [Heap.size_push]; omega
section
variable {o : CallF} (ho : OvOnly o)
include ho
theorem p_set {v : AV} (hv : AV.cells v = [v] ∧ AV.one v = true) {H : Heap} {Q : End → Heap → Prop} (h : ∀ H', Ext H.size H H' → Q (.ret (.agg [.int .i64 2, v, .nils])) H') : wpf ⟨bt.get, o⟩ F_parse_set [v] H Q := by
  rw [fn_parse_set (ho _ _ _ (by decide))]
  simp only [bd_parse_set, go_sem, zA, zB, zC, reduceIte, zD, zE, zF, zG, zH, zI, reduceCtorEq, zJ, zK, zL, zM, zN, zO, zP, hv.1, hv.2]
  exact h _ (Ext.push (Nat.le_refl _))
theorem p_two {k : Int} {cx cy : List AV} {P P' : Nat → Prop} {x y : Rx} {H0 H0' : Heap} (hx : ReV P H0 x cx) (hy : ReV P' H0' y cy) {H : Heap} {Q : End → Heap → Prop}
    (h : ∀ H' b, Ext H.size H H' → H.size ≤ b → Rd H' 3 (cx ++ cy) 2 (.slice b 0 2 2) b → Q (.ret (.agg [.int .i64 k, .nils, .slice b 0 2 2])) H') : wpf ⟨bt.get, o⟩ F_parse_two [.int .i64 k, .agg cx, .agg cy] H Q := by
  rw [fn_parse_two (ho _ _ _ (by decide))]
  obtain ⟨kx, vx, wx, ex, ⟨x1, x2⟩, x3, x4⟩ := hx.form
  obtain ⟨ky, vy, wy, ey, ⟨y1, y2⟩, y3, y4⟩ := hy.form
  subst ex ey
  simp only [bd_parse_two, go_sem, zA, zB, zC, reduceIte, zD, zE, zF, zG, zH, zI, reduceCtorEq, zJ, zK, zL, zM, zN, zO, zP, x1, x2, x3, x4, y1, y2, y3, y4, Heap.get3_0, Heap.get3_1, Heap.get4_2, Heap.get_set_self (Heap.lt4_2 _ _ _ _ _)]
  refine h _ _ ((((Ext.push (Nat.le_refl _)).trans (Ext.push (by rw [Heap.size_push]; omega))).trans (Ext.push (by rw [Heap.size_push, Heap.size_push]; omega))).trans ((Ext.push (by rw [Heap.size_push, Heap.size_push, Heap.size_push]; omega)).trans (Ext.set (by omega)))) (by omega) (Rd.slice (u := .own) ?_ rfl)
  rw [Heap.get_set_ne (by omega), Heap.get_push_eq (by simp only [Heap.size_push])]
  rfl
/-- One star behind the other. -/
theorem p_stars {xb rb e d ib b3 b6 n1 : Nat} {its : List It} {iv v2 sm : AV} (h1 : xb < n1) (h2 : rb < n1) (h3 : 0 < its.length → ib < n1) (h6 : n1 ≤ b6) {Q : Ctl → St → Prop} : ∀ (m k : Nat) (x : Rx) (cs : List AV) (H : Heap), its.length - k ≤ m → PS xb rb H its e k d iv ib → H.get b6 = .cells cs .own → ReV (fun b => n1 ≤ b ∧ b ≠ b6) H x cs →
    (∀ H' cs' t v, FrX [rb, b6] H.size H H' → PS xb rb H' its e (starsP its m x k).2 d iv ib → H'.get b6 = .cells cs' .own → ReV (fun b => n1 ≤ b ∧ b ≠ b6) H' (starsP its m x k).1 cs' → Q (.exit 2) { p := [(0, .ptr xb 0), (2, v2), (3, .ptr b3 0), (4, sm), (6, .ptr b6 0), (34, v)], t := t, H := H', d := [], u := .norm }) →
    wpl ⟨bt.get, o⟩ [0, 2, 3, 4, 6] lb_parse_regex_row_0 { p := [(0, .ptr xb 0), (2, v2), (3, .ptr b3 0), (4, sm), (6, .ptr b6 0)], t := [], H := H, d := [], u := .norm } Q := by
  intro m
  induction m with
  | zero =>
    intro k x cs H hm hP h6' hR hQ
    rw [wpl_step]
    have hpk : peekR its k ≠ 42 := fun h => by have := peek_lt (its := its) (k := k) (by omega); omega
    simp only [lb_parse_regex_row_0, go_sem, zA, zB, zC, reduceIte, zD, zE, zF, zG, zH, zI, reduceCtorEq, zJ, zK, zL, zM, zN, zO, zP, hP.get]
    refine k_Skip ho (by omega) hP.rdr (fun _ => ?_) (fun h => absurd h hpk)
    simp only [go_sem, zA, zB, zC, reduceIte, zD, zE, zF, zG, zH, zI, reduceCtorEq, zJ, zK, zL, zM, zN, zO, zP]
    exact hQ H cs _ _ FrX.refl hP h6' hR
  | succ m ih =>
    intro k x cs H hm hP h6' hR hQ
    rw [wpl_step]
    simp only [lb_parse_regex_row_0, go_sem, zA, zB, zC, reduceIte, zD, zE, zF, zG, zH, zI, reduceCtorEq, zJ, zK, zL, zM, zN, zO, zP, hP.get]
    refine k_Skip ho (by omega) hP.rdr (fun hp => ?_) (fun hp H1 f1 R1 => ?_)
    · simp only [starsP, if_neg hp] at hQ
      simp only [go_sem, zA, zB, zC, reduceIte, zD, zE, zF, zG, zH, zI, reduceCtorEq, zJ, zK, zL, zM, zN, zO, zP]
      exact hQ H cs _ _ FrX.refl hP h6' hR
    · simp only [starsP, if_pos hp] at hQ
      have P1 := hP.go f1 R1
      have l6 : b6 < H.size := Heap.lt_of_get (by rw [h6']; simp)
      have g6 : H1.get b6 = .cells cs .own := f1.get h6' (by simp) (by omega)
      obtain ⟨kx, vx, wx, ex, ⟨x1, x2⟩, x3, x4⟩ := hR.form
      subst ex
      have l1 : b6 < H1.size := Nat.lt_of_lt_of_le l6 f1.1
      have g7 : (H1.push (.cells [.int .i64 kx, vx, wx] .own)).get b6 = .cells [.int .i64 kx, vx, wx] .own := by rw [Heap.get_push_lt l1, g6]
      have l7 : b6 < (H1.push (.cells [.int .i64 kx, vx, wx] .own)).size := by rw [Heap.size_push]; omega
      simp only [go_sem, zA, zB, zC, reduceIte, zD, zE, zF, zG, zH, zI, reduceCtorEq, zJ, zK, zL, zM, zN, zO, zP, g6, g7, x1, x2, x3, x4]
      have F1 : FrX [rb, b6] H.size H ((H1.push (.cells [.int .i64 kx, vx, wx] .own)).set b6 (.cells [.int .i64 5, .nils, .slice H1.size 0 1 1] .own)) :=
        ((f1.frX (Nat.le_refl _)).mono (Nat.le_refl _) (fun c hc _ => by simp at hc ⊢; exact hc.1)).trans ((FrX.ofExt (Ext.push f1.1)).trans (FrX.set (.inl (by simp))))
      have F2 : FrX [b6] H1.size H1 ((H1.push (.cells [.int .i64 kx, vx, wx] .own)).set b6 (.cells [.int .i64 5, .nils, .slice H1.size 0 1 1] .own)) := (FrX.ofExt (Ext.push (Nat.le_refl _))).trans (FrX.set (.inl (by simp)))
      refine ih (k + 1) (.star x) _ _ (by omega) (P1.keep F2 ⟨P1.lt, by simp; omega⟩ ⟨P1.rdr.lt, by simp; omega⟩ fun hp => ⟨P1.ilt hp, by have := h3 hp; simp; omega⟩) (Heap.get_set_self l7) ⟨_, H1.size, [.int .i64 kx, vx, wx], rfl, Rd.slice (u := .own) (by rw [Heap.get_set_ne (by omega), Heap.get_push_self]) rfl, ⟨by omega, by omega⟩, hR.keep fun b ⟨q1, q2⟩ q3 => ⟨F1.2 b q3 (by simp; omega), q1, q2⟩⟩ fun H' cs' t v k1 k2 k3 k4 => hQ H' cs' t v (F1.trans ⟨k1.1, fun c q1 q2 => k1.2 c (Nat.lt_of_lt_of_le q1 F1.1) q2⟩) k2 k3 k4
end
/- Parts of code. -/
def seqL : CCode → CCode
  | .seq a _ => a
  | c => c
def blkB : CCode → CCode
  | .block _ _ b => b
  | c => c
/- Expressions from texts: what the parser comes to. -/
set_option maxRecDepth 8000
/-- What a function of the parser does: it panics as told, or goes on and gives an expression. -/
def Out (xb rb : Nat) (its : List It) (e d : Nat) (iv : AV) (ib : Nat) (H : Heap) (res : Except PErr (Rx × Nat)) (Q : End → Heap → Prop) : Prop :=
  res ≠ .error .stuck ∧ (∀ (c a : Nat), res = .error (.fail c a) → ∀ H', FrX [rb, xb] H.size H H' → Q (.pan [(faultA c a, false)]) H') ∧
  (∀ y k1, res = .ok (y, k1) → ∀ H' cs, FrX [rb, xb] H.size H H' → PS xb rb H' its e k1 d iv ib → ReV (fun b => H.size ≤ b) H' y cs → Q (.ret (.agg cs)) H')
def AtomS (o : CallF) (xb rb : Nat) (its : List It) (e : Nat) (iv : AV) (ib n : Nat) : Prop := ∀ (d k : Nat) (H : Heap) (Q : End → Heap → Prop), d ≤ 1000 → PS xb rb H its e k d iv ib → Out xb rb its e d iv ib H (atomP its e n d k) Q → wpf ⟨bt.get, o⟩ F_parse_regex_atom [.ptr xb 0] H Q
def RowS (o : CallF) (xb rb : Nat) (its : List It) (e : Nat) (iv : AV) (ib n : Nat) : Prop := ∀ (d k : Nat) (H : Heap) (Q : End → Heap → Prop), d ≤ 1000 → PS xb rb H its e k d iv ib → Out xb rb its e d iv ib H (rowP its e n d .emp false k) Q → wpf ⟨bt.get, o⟩ F_parse_regex_row [.ptr xb 0] H Q
def AllS (o : CallF) (xb rb : Nat) (its : List It) (e : Nat) (iv : AV) (ib n : Nat) : Prop := ∀ (d k : Nat) (H : Heap) (Q : End → Heap → Prop), d ≤ 1000 → PS xb rb H its e k d iv ib → Out xb rb its e d iv ib H (allP its e n d k) Q → wpf ⟨bt.get, o⟩ F_parse_regex_all [.ptr xb 0] H Q
def RowL (o : CallF) (xb rb : Nat) (its : List It) (e : Nat) (iv : AV) (ib n : Nat) : Prop := ∀ (d k : Nat) (x : Rx) (sm : Bool) (cs : List AV) (b2 b3 n0 : Nat) (H : Heap) (Q : Ctl → St → Prop), d ≤ 1000 → PS xb rb H its e k d iv ib → n0 ≤ H.size → b2 < H.size → n0 ≤ b3 → xb < n0 → rb < n0 → (0 < its.length → ib < n0) → H.get b3 = .cells cs .own → ReV (fun b => n0 ≤ b ∧ b ≠ b2 ∧ b ≠ b3) H x cs →
  rowP its e n d x sm k ≠ .error .stuck →
  (∀ (c a : Nat), rowP its e n d x sm k = .error (.fail c a) → ∀ σ : St, FrX [rb, xb, b3] H.size H σ.H → σ.d = [] → Q (.panic [(faultA c a, false)]) σ) →
  (∀ y k1, rowP its e n d x sm k = .ok (y, k1) → ∀ H' cs' xx t, FrX [rb, xb, b3] H.size H H' → PS xb rb H' its e k1 d iv ib → H'.get b3 = .cells cs' .own → ReV (fun b => n0 ≤ b ∧ b ≠ b2 ∧ b ≠ b3) H' y cs' → Q (.exit 0) { p := (0, .ptr xb 0) :: (2, .ptr b2 0) :: (3, .ptr b3 0) :: xx, t := t, H := H', d := [], u := .norm }) →
  wpl ⟨bt.get, o⟩ [0, 2, 3, 4, 5] lb_parse_regex_row_1 { p := [(0, .ptr xb 0), (2, .ptr b2 0), (3, .ptr b3 0), (4, .bool sm), (5, .int .i32 (peekR its k))], t := [], H := H, d := [], u := .norm } Q
def AltL (o : CallF) (xb rb : Nat) (its : List It) (e : Nat) (iv : AV) (ib n : Nat) : Prop := ∀ (d k : Nat) (x : Rx) (cs : List AV) (b2 b3 n0 : Nat) (H : Heap) (Q : Ctl → St → Prop), d ≤ 1000 → PS xb rb H its e k d iv ib → n0 ≤ H.size → b2 < H.size → n0 ≤ b3 → xb < n0 → rb < n0 → (0 < its.length → ib < n0) → H.get b3 = .cells cs .own → ReV (fun b => n0 ≤ b ∧ b ≠ b2 ∧ b ≠ b3) H x cs →
  altP its e n d x k ≠ .error .stuck →
  (∀ (c a : Nat), altP its e n d x k = .error (.fail c a) → ∀ σ : St, FrX [rb, xb, b3] H.size H σ.H → σ.d = [] → Q (.panic [(faultA c a, false)]) σ) →
  (∀ y k1, altP its e n d x k = .ok (y, k1) → ∀ H' cs' xx t, FrX [rb, xb, b3] H.size H H' → PS xb rb H' its e k1 d iv ib → H'.get b3 = .cells cs' .own → ReV (fun b => n0 ≤ b ∧ b ≠ b2 ∧ b ≠ b3) H' y cs' → Q (.exit 0) { p := (0, .ptr xb 0) :: (2, .ptr b2 0) :: (3, .ptr b3 0) :: xx, t := t, H := H', d := [], u := .norm }) →
  wpl ⟨bt.get, o⟩ [0, 2, 3] lb_parse_regex_all_0 { p := [(0, .ptr xb 0), (2, .ptr b2 0), (3, .ptr b3 0)], t := [], H := H, d := [], u := .norm } Q
section
variable {o : CallF} (ho : OvOnly o)
include ho
theorem row_step {xb rb e ib n : Nat} {its : List It} {iv : AV} (hA : AtomS o xb rb its e iv ib n) (hW : RowL o xb rb its e iv ib n) : RowL o xb rb its e iv ib (n + 1) := by
  intro d k x sm cs b2 b3 n0 H Q hd hP hn hb2 hb3 hx hr hi g3 hR hns hF hT
  have l3 : b3 < H.size := Heap.lt_of_get (by rw [g3]; simp)
  rw [wpl_step]
  by_cases he : peekR its k = -1 ∨ peekR its k = 124 ∨ peekR its k = 41
  · have er : rowP its e (n + 1) d x sm k = .ok (x, k) := by rw [rowP, if_pos he]
    rcases he with h | h | h
    · simp only [lb_parse_regex_row_1, go_sem, zA, zB, zC, reduceIte, zD, zE, zF, zG, zH, zI, reduceCtorEq, zJ, zK, zL, zM, zN, zO, zP, h]
      exact hT x k er H cs _ _ FrX.refl hP g3 hR
    · simp only [lb_parse_regex_row_1, go_sem, zA, zB, zC, reduceIte, zD, zE, zF, zG, zH, zI, reduceCtorEq, zJ, zK, zL, zM, zN, zO, zP, h]
      exact hT x k er H cs _ _ FrX.refl hP g3 hR
    · simp only [lb_parse_regex_row_1, go_sem, zA, zB, zC, reduceIte, zD, zE, zF, zG, zH, zI, reduceCtorEq, zJ, zK, zL, zM, zN, zO, zP, h]
      exact hT x k er H cs _ _ FrX.refl hP g3 hR
  · have c1 : ¬ peekR its k = -1 := fun h => he (.inl h)
    have c2 : ¬ peekR its k = 124 := fun h => he (.inr (.inl h))
    have c3 : ¬ peekR its k = 41 := fun h => he (.inr (.inr h))
    rw [rowP, if_neg he] at hns hF hT
    simp only [lb_parse_regex_row_1, go_sem, zA, zB, zC, reduceIte, zD, zE, zF, zG, zH, zI, reduceCtorEq, zJ, zK, zL, zM, zN, zO, zP, c1, c2, c3]
    refine hA d k H _ hd hP ⟨fun h => hns (by rw [h]), fun c a h H1 f1 => ?_, fun p k1 h H1 cp f1 P1 R1 => ?_⟩
    · simp only [go_sem, zA, zB, zC, reduceIte, zD, zE, zF, zG, zH, zI, reduceCtorEq, zJ, zK, zL, zM, zN, zO, zP]
      rw [h] at hF
      exact hF c a rfl _ (f1.mono (Nat.le_refl _) fun c hc _ => by simp at hc ⊢; exact ⟨hc.1, hc.2.1⟩) rfl
    · rw [h] at hns hF hT
      simp only at hns hF hT
      have hs1 := f1.1
      obtain ⟨kp, vp, wp, ep, ⟨x1, x2⟩, x3, x4⟩ := R1.form
      subst ep
      have xx : Ext H1.size H1 (H1.push (.cells [.int .i64 kp, vp, wp] .own)) := Ext.push (Nat.le_refl _)
      simp only [go_sem, zA, zB, zC, reduceIte, zD, zE, zF, zG, zH, zI, reduceCtorEq, zJ, zK, zL, zM, zN, zO, zP, x1, x2, x3, x4]
      refine p_stars ho (n1 := H.size) hP.lt hP.rdr.lt (fun hp => hP.ilt hp) hs1 its.length k1 p _ _ (by omega) (P1.ext xx) Heap.get_push_self (R1.keep fun b q1 q2 => ⟨xx.2 b q2, q1, by omega⟩) fun H2 cs2 t v F2 P2 g2 R2 => ?_
      generalize (starsP its its.length p k1).1 = p2 at R2 hns hF hT
      generalize (starsP its its.length p k1).2 = k2 at P2 hns hF hT
      have l6 : H1.size < H2.size := Heap.lt_of_get (by rw [g2]; simp)
      have f2 : FrX [rb, xb] H.size H H2 := f1.trans ((FrX.ofExt (Ext.push hs1)).trans (F2.mono (by rw [Heap.size_push]; omega) fun c hc hc2 => by simp at hc ⊢; exact ⟨hc.1, by omega⟩))
      have g32 : H2.get b3 = .cells cs .own := by rw [f2.2 b3 l3 (by simp; omega), g3]
      obtain ⟨kq, vq, wq, eq, ⟨y1, y2⟩, y3, y4⟩ := R2.form
      obtain ⟨kx, vx, wx, ex, ⟨z1, z2⟩, z3, z4⟩ := hR.form
      subst eq ex
      -- on behind the part
      have on : ∀ (y : Rx) (cy : List AV) (H3 : Heap) (b6 : Nat) (xx t), (∃ ky vy wy, cy = [.int .i64 ky, vy, wy] ∧ (AV.cells vy = [vy] ∧ AV.one vy = true) ∧ (AV.cells wy = [wy] ∧ AV.one wy = true)) → rowP its e n d y true k2 = rowP its e n d (if sm then .seq x p2 else p2) true k2 → FrX [rb, xb] H.size H H3 → PS xb rb H3 its e k2 d iv ib → H3.get b3 = .cells [.int .i64 kx, vx, wx] .own → H3.get b6 = .cells cy .own → ReV (fun b => n0 ≤ b ∧ b ≠ b2 ∧ b ≠ b3) H3 y cy → b3 < H3.size →
          wpc ⟨bt.get, o⟩ (seqR (seqR (seqR (blkB (seqL (seqR lb_parse_regex_row_1)))))) { p := (0, .ptr xb 0) :: (2, .ptr b2 0) :: (3, .ptr b3 0) :: (4, .bool sm) :: (6, .ptr b6 0) :: xx, t := t, H := H3, d := [], u := .norm }
            (blockK 1 [0, 2, 3, 4] (seqK ⟨bt.get, o⟩ (seqR (seqR lb_parse_regex_row_1)) (loopK ⟨bt.get, o⟩ [0, 2, 3, 4, 5] lb_parse_regex_row_1 Q))) := by
        intro y cy H3 b6 xx t ⟨ky, vy, wy, ey, ⟨u1, u2⟩, u3, u4⟩ er f3 P3 g33 g36 R3 l33
        subst ey
        rw [← er] at hns hF hT
        have F3 : FrX [b3] H3.size H3 (H3.set b3 (.cells [.int .i64 ky, vy, wy] .own)) := FrX.set (.inl (by simp))
        have P4 : PS xb rb (H3.set b3 (.cells [.int .i64 ky, vy, wy] .own)) its e k2 d iv ib := P3.keep F3 ⟨P3.lt, by simp; omega⟩ ⟨P3.rdr.lt, by simp; omega⟩ fun hp => ⟨P3.ilt hp, by have := hi hp; simp; omega⟩
        have f4 : FrX [rb, xb, b3] H.size H (H3.set b3 (.cells [.int .i64 ky, vy, wy] .own)) := (f3.mono (Nat.le_refl _) fun c hc _ => by simp at hc ⊢; exact ⟨hc.1, hc.2.1⟩).trans (FrX.set (.inl (by simp)))
        simp only [lb_parse_regex_row_1, seqL, seqR, blkB, go_sem, zA, zB, zC, reduceIte, zD, zE, zF, zG, zH, zI, reduceCtorEq, zJ, zK, zL, zM, zN, zO, zP, g36, g33, u1, u2, u3, u4, P4.get]
        refine k_Peek ho P4.rdr ?_
        simp only [go_sem, zA, zB, zC, reduceIte, zD, zE, zF, zG, zH, zI, reduceCtorEq, zJ, zK, zL, zM, zN, zO, zP]
        refine hW d k2 y true _ b2 b3 n0 _ Q hd P4 (Nat.le_trans hn f4.1) (Nat.lt_of_lt_of_le hb2 f4.1) hb3 hx hr hi (Heap.get_set_self l33) (R3.keep fun b ⟨q1, q2, q3⟩ q4 => ⟨F3.2 b q4 (by simp; omega), q1, q2, q3⟩) hns (fun c a h σ f d0 => hF c a h σ (f4.trans (f.mono f4.1 fun c hc _ => hc)) d0) fun y k1 h H' cs' xx t f => hT y k1 h H' cs' xx t (f4.trans (f.mono f4.1 fun c hc _ => hc))
      cases sm
      · simp only [go_sem, zB, zC, reduceIte, zD, zE, zF, zG, zH, zI, reduceCtorEq, zJ, zK, zL, zM, zN, zO, zP]
        rw [seqK_normal]
        simp only [go_sem, zB, zC, reduceIte, zD, zE, zF, zG, zH, zI, reduceCtorEq, zJ, zK, zL, zM, zN, zO, zP]
        rw [seqK_normal]
        simp only [go_sem, zB, zC, reduceIte, zD, zE, zF, zG, zH, zI, reduceCtorEq, zJ, zK, zL, zM, zN, zO, zP]
        rw [seqK_normal]
        exact on p2 _ H2 H1.size _ _ ⟨kq, vq, wq, rfl, ⟨y1, y2⟩, y3, y4⟩ rfl f2 P2 g32 g2 (R2.imp fun b ⟨q1, q2⟩ _ => ⟨by omega, by omega, by omega⟩) (by omega)
      · have x2' : ReV (fun b => (n0 ≤ b ∧ b ≠ b2 ∧ b ≠ b3) ∧ b < H.size) H2 x [.int .i64 kx, vx, wx] := hR.keep fun b q q4 => ⟨f2.2 b q4 (by simp; omega), q, q4⟩
        have p2' : ReV (fun b => (n0 ≤ b ∧ b ≠ b2 ∧ b ≠ b3) ∧ b ≠ H1.size) H2 p2 [.int .i64 kq, vq, wq] := R2.imp fun b ⟨q1, q2⟩ _ => ⟨⟨by omega, by omega, by omega⟩, q2⟩
        have hs2 := f2.1
        simp only [go_sem, zB, zC, reduceIte, zD, zE, zF, zG, zH, zI, reduceCtorEq, zJ, zK, zL, zM, zN, zO, zP]
        rw [seqK_normal]
        simp only [go_sem, zB, zC, reduceIte, zD, zE, zF, zG, zH, zI, reduceCtorEq, zJ, zK, zL, zM, zN, zO, zP]
        rw [seqK_normal]
        simp only [go_sem, zB, zC, reduceIte, zD, zE, zF, zG, zH, zI, reduceCtorEq, zJ, zK, zL, zM, zN, zO, zP, g32, g2, z1, z2, z3, z4, y1, y2, y3, y4]
        refine p_two ho hR R2 fun H3 nb e3 hnb Rd3 => ?_
        have g63 : H3.get H1.size = .cells [.int .i64 kq, vq, wq] .own := by rw [e3.2 _ l6, g2]
        have l63 : H1.size < H3.size := Nat.lt_of_lt_of_le l6 e3.1
        have S3 : FrX [H1.size] H3.size H3 (H3.set H1.size (.cells [.int .i64 3, .nils, .slice nb 0 2 2] .own)) := FrX.set (.inl (by simp))
        have T3 : FrX [H1.size] H2.size H2 (H3.set H1.size (.cells [.int .i64 3, .nils, .slice nb 0 2 2] .own)) := (FrX.ofExt e3).trans (S3.mono e3.1 fun c hc _ => hc)
        simp only [go_sem, zB, zC, reduceIte, zD, zE, zF, zG, zH, zI, reduceCtorEq, zJ, zK, zL, zM, zN, zO, zP, g63]
        rw [seqK_normal]
        refine on (.seq x p2) _ _ H1.size _ _ ⟨3, .nils, .slice nb 0 2 2, rfl, ⟨rfl, rfl⟩, rfl, rfl⟩ rfl (f2.trans (T3.mono hs2 fun c hc hc2 => by simp; omega)) (P2.keep T3 ⟨P2.lt, by simp; have := hP.lt; omega⟩ ⟨P2.rdr.lt, by simp; have := hP.rdr.lt; omega⟩ fun hp => ⟨P2.ilt hp, by have := hi hp; simp; omega⟩) (by rw [T3.2 b3 (by omega) (by simp; omega), g32]) (Heap.get_set_self l63) ⟨_, nb, _, _, rfl, Rd3.keep fun _ => Heap.get_set_ne (by omega), ⟨by omega, by omega, by omega⟩, x2'.keep fun b q q4 => ⟨T3.2 b q4 (by simp; omega), q.1⟩, p2'.keep fun b q q4 => ⟨T3.2 b q4 (by simp; exact q.2), q.1⟩⟩ (by rw [Heap.size_set]; omega)
theorem alt_step {xb rb e ib n : Nat} {its : List It} {iv : AV} (hW : RowS o xb rb its e iv ib n) (hA : AltL o xb rb its e iv ib n) : AltL o xb rb its e iv ib (n + 1) := by
  intro d k x cs b2 b3 n0 H Q hd hP hn hb2 hb3 hx hr hi g3 hR hns hF hT
  have l3 : b3 < H.size := Heap.lt_of_get (by rw [g3]; simp)
  rw [wpl_step]
  simp only [lb_parse_regex_all_0, go_sem, zA, zB, zC, reduceIte, zD, zE, zF, zG, zH, zI, reduceCtorEq, zJ, zK, zL, zM, zN, zO, zP, hP.get]
  refine k_Skip ho (by omega) hP.rdr (fun hp => ?_) (fun hp H1 f1 R1 => ?_)
  · simp only [go_sem, zA, zB, zC, reduceIte, zD, zE, zF, zG, zH, zI, reduceCtorEq, zJ, zK, zL, zM, zN, zO, zP]
    exact hT x k (by rw [altP, if_neg hp]) H cs _ _ FrX.refl hP g3 hR
  · rw [altP, if_pos hp] at hns hF hT
    have P1 := hP.go f1 R1
    have hs1 := f1.1
    have g31 : H1.get b3 = .cells cs .own := f1.get g3 (by simp) (by omega)
    obtain ⟨kx, vx, wx, ex, ⟨z1, z2⟩, z3, z4⟩ := hR.form
    subst ex
    simp only [go_sem, zA, zB, zC, reduceIte, zD, zE, zF, zG, zH, zI, reduceCtorEq, zJ, zK, zL, zM, zN, zO, zP, g31, z1, z2, z3, z4]
    refine hW d (k + 1) H1 _ hd P1 ⟨fun h => hns (by rw [h]), fun c a h => absurd (by rw [h]) hns, fun y k1 h H2 cy f2 P2 R2 => ?_⟩
    · rw [h] at hns hF hT
      simp only at hns hF hT
      have g32 : H2.get b3 = .cells [.int .i64 kx, vx, wx] .own := by rw [f2.2 b3 (by omega) (by simp; omega), g31]
      obtain ⟨ky, vy, wy, ey, ⟨y1, y2⟩, y3, y4⟩ := R2.form
      subst ey
      simp only [go_sem, zA, zB, zC, reduceIte, zD, zE, zF, zG, zH, zI, reduceCtorEq, zJ, zK, zL, zM, zN, zO, zP, g32, z1, z2, z3, z4, y1, y2, y3, y4]
      refine p_two ho hR R2 fun H3 nb e3 hnb Rd3 => ?_
      have g33 : H3.get b3 = .cells [.int .i64 kx, vx, wx] .own := by rw [e3.2 _ (by have := f2.1; omega), g32]
      have hs2 := f2.1
      have hs3 := e3.1
      have l33 : b3 < H3.size := by omega
      simp only [go_sem, zA, zB, zC, reduceIte, zD, zE, zF, zG, zH, zI, reduceCtorEq, zJ, zK, zL, zM, zN, zO, zP, g33, g32, z1, z2, z3, z4, Heap.get_set_self l33]
      have F12 : FrX [rb, xb, b3] H.size H H2 := ((f1.frX (Nat.le_refl _)).mono (Nat.le_refl _) fun c hc _ => by simp at hc ⊢; exact hc.1).trans (f2.mono hs1 fun c hc _ => by simp at hc ⊢; exact ⟨hc.1, hc.2.1⟩)
      have T3 : FrX [b3] H2.size H2 (H3.set b3 (.cells [.int .i64 4, .nils, .slice nb 0 2 2] .own)) := (FrX.ofExt e3).trans (FrX.set (.inl (by simp)))
      have F3 : FrX [rb, xb, b3] H.size H (H3.set b3 (.cells [.int .i64 4, .nils, .slice nb 0 2 2] .own)) := F12.trans (T3.mono (by omega) fun c hc _ => by simp at hc ⊢; exact hc.2.2)
      refine hA d k1 (.alt x y) _ b2 b3 n0 _ Q hd (P2.keep T3 ⟨P2.lt, by simp; omega⟩ ⟨P2.rdr.lt, by simp; omega⟩ fun hp => ⟨P2.ilt hp, by have := hi hp; simp; omega⟩) (Nat.le_trans hn F3.1) (Nat.lt_of_lt_of_le hb2 F3.1) hb3 hx hr hi (Heap.get_set_self l33)
        ⟨_, nb, _, _, rfl, Rd3.keep fun _ => Heap.get_set_ne (by omega), ⟨by omega, by omega, by omega⟩, hR.keep fun b q q4 => ⟨F3.2 b q4 (by simp; omega), q⟩, R2.keep fun b q q4 => ⟨T3.2 b q4 (by simp; omega), by omega, by omega, by omega⟩⟩ hns
        (fun c a h σ f d0 => hF c a h σ (F3.trans (f.mono F3.1 fun c hc _ => hc)) d0) fun y k1 h H' cs' xx t f => hT y k1 h H' cs' xx t (F3.trans (f.mono F3.1 fun c hc _ => hc))
theorem row_of {xb rb e ib n : Nat} {its : List It} {iv : AV} (hL : RowL o xb rb its e iv ib n) : RowS o xb rb its e iv ib n := by
  intro d k H Q hd hP ⟨hns, hF, hT⟩
  rw [fn_parse_regex_row (ho _ _ _ (by decide))]
  generalize hH2 : (H.push (Blk.cells [.int .i64 0, .nils, .nils] .own)).push (Blk.cells [.int .i64 1, .nils, .nils] .own) = H2
  have x2 : Ext H.size H H2 := by rw [← hH2]; exact (Ext.push (Nat.le_refl _)).trans (Ext.push (by rw [Heap.size_push]; omega))
  have z2 : H2.size = H.size + 2 := by rw [← hH2]; rfl
  have g2 : H2.get H.size = .cells [.int .i64 0, .nils, .nils] .own := by rw [← hH2, Heap.get_push_lt (by rw [Heap.size_push]; omega), Heap.get_push_self]
  have g3 : H2.get (H.size + 1) = .cells [.int .i64 1, .nils, .nils] .own := by rw [← hH2, Heap.get_push_eq (by rw [Heap.size_push])]
  have P2 := hP.ext x2
  simp only [bd_parse_regex_row, go_sem, zA, zB, zC, reduceIte, zD, zE, zF, zG, zH, zI, reduceCtorEq, zJ, zK, zL, zM, zN, zO, zP, hH2, P2.get]
  refine k_Peek ho P2.rdr ?_
  simp only [go_sem, zA, zB, zC, reduceIte, zD, zE, zF, zG, zH, zI, reduceCtorEq, zJ, zK, zL, zM, zN, zO, zP]
  refine hL d k .emp false _ H.size (H.size + 1) H.size H2 _ hd P2 (by omega) (by omega) (by omega) hP.lt hP.rdr.lt (fun hp => hP.ilt hp) g3 rfl hns (fun c a h σ f d0 => ?_) fun y k1 h H' cs' xx t f P' g' R' => ?_
  · simp only [go_sem, zA, zB, zC, reduceIte, zD, zE, zF, zG, zH, zI, reduceCtorEq, zJ, zK, zL, zM, zN, zO, zP, d0]
    exact hF c a h _ ((FrX.ofExt x2).trans (f.mono (by omega) fun c hc hc2 => by simp at hc ⊢; exact ⟨hc.1, hc.2, by omega⟩))
  · have g2' : H'.get H.size = .cells [.int .i64 0, .nils, .nils] .own := by
      rw [f.2 H.size (by omega) (by have := hP.lt; have := hP.rdr.lt; simp; omega), g2]
    have l2' : H.size < H'.size := Heap.lt_of_get (by rw [g2']; simp)
    obtain ⟨ky, vy, wy, ey, ⟨y1, y2⟩, y3, y4⟩ := R'.form
    subst ey
    have T : FrX [H.size] H'.size H' (H'.set H.size (.cells [.int .i64 ky, vy, wy] .own)) := FrX.set (.inl (by simp))
    simp only [go_sem, zA, zB, zC, reduceIte, zD, zE, zF, zG, zH, zI, reduceCtorEq, zJ, zK, zL, zM, zN, zO, zP, g', g2', y1, y2, y3, y4, Heap.get_set_self l2']
    refine hT y k1 h _ _ ((FrX.ofExt x2).trans ((f.mono (by omega) fun c hc hc2 => by simp at hc ⊢; exact ⟨hc.1, hc.2, by omega⟩).trans (FrX.set (.inr (Nat.le_refl _))))) (P'.keep T ⟨P'.lt, by have := hP.lt; simp; omega⟩ ⟨P'.rdr.lt, by have := hP.rdr.lt; simp; omega⟩ fun hp => ⟨P'.ilt hp, by have := hP.ilt hp; simp; omega⟩) (R'.keep fun b ⟨q1, q2, q3⟩ q4 => ⟨T.2 b q4 (by simp; exact q2), q1⟩)
theorem all_of {xb rb e ib n : Nat} {its : List It} {iv : AV} (hW : RowS o xb rb its e iv ib n) (hL : AltL o xb rb its e iv ib n) : AllS o xb rb its e iv ib n := by
  intro d k H Q hd hP ⟨hns, hF, hT⟩
  rw [fn_parse_regex_all (ho _ _ _ (by decide))]
  have x0 : Ext H.size H (H.push (Blk.cells [.int .i64 0, .nils, .nils] .own)) := Ext.push (Nat.le_refl _)
  have g0 : (H.push (Blk.cells [.int .i64 0, .nils, .nils] .own)).get H.size = .cells [.int .i64 0, .nils, .nils] .own := Heap.get_push_self
  have z0 : (H.push (Blk.cells [.int .i64 0, .nils, .nils] .own)).size = H.size + 1 := Heap.size_push _ _
  simp only [bd_parse_regex_all, go_sem, zA, zB, zC, reduceIte, zD, zE, zF, zG, zH, zI, reduceCtorEq, zJ, zK, zL, zM, zN, zO, zP]
  generalize H.push (Blk.cells [.int .i64 0, .nils, .nils] .own) = H0 at x0 g0 z0 ⊢
  unfold allP at hns hF hT
  refine hW d k H0 _ hd (hP.ext x0) ⟨fun h => hns (by rw [h]), fun c a h H1 f1 => ?_, fun x k1 h H1 cx f1 P1 R1 => ?_⟩
  · rw [h] at hF
    simp only [go_sem, zA, zB, zC, reduceIte, zD, zE, zF, zG, zH, zI, reduceCtorEq, zJ, zK, zL, zM, zN, zO, zP]
    exact hF c a rfl _ ((FrX.ofExt x0).trans (f1.mono (by omega) fun c hc _ => hc))
  · rw [h] at hns hF hT
    simp only at hns hF hT
    obtain ⟨kx, vx, wx, ex, ⟨x1, x2⟩, x3, x4⟩ := R1.form
    subst ex
    have hs1 := f1.1
    have e1 : Ext H1.size H1 (H1.push (Blk.cells [.int .i64 kx, vx, wx] .own)) := Ext.push (Nat.le_refl _)
    have g01 : (H1.push (Blk.cells [.int .i64 kx, vx, wx] .own)).get H.size = .cells [.int .i64 0, .nils, .nils] .own := by
      rw [Heap.get_push_lt (by omega), f1.2 _ (by omega) (by have := hP.lt; have := hP.rdr.lt; simp; omega), g0]
    simp only [go_sem, zA, zB, zC, reduceIte, zD, zE, zF, zG, zH, zI, reduceCtorEq, zJ, zK, zL, zM, zN, zO, zP, x1, x2, x3, x4]
    refine hL d k1 x _ H.size H1.size H.size _ _ hd (P1.ext e1) (by rw [Heap.size_push]; omega) (by rw [Heap.size_push]; omega) (by omega) hP.lt hP.rdr.lt (fun hp => hP.ilt hp) Heap.get_push_self (R1.keep fun b q1 q2 => ⟨e1.2 b q2, by omega, by omega, by omega⟩) hns (fun c a h σ f d0 => ?_) fun y k2 h H' cs' xx t f P' g' R' => ?_
    · simp only [go_sem, zA, zB, zC, reduceIte, zD, zE, zF, zG, zH, zI, reduceCtorEq, zJ, zK, zL, zM, zN, zO, zP, d0]
      exact hF c a h _ ((FrX.ofExt x0).trans ((f1.mono (by omega) fun c hc _ => hc).trans ((FrX.ofExt (e1.le (by omega))).trans (f.mono (by rw [Heap.size_push]; omega) fun c hc hc2 => by simp at hc ⊢; exact ⟨hc.1, hc.2, by omega⟩))))
    · have g2' : H'.get H.size = .cells [.int .i64 0, .nils, .nils] .own := by
        rw [f.2 H.size (by rw [Heap.size_push]; omega) (by have := hP.lt; have := hP.rdr.lt; simp; omega), g01]
      have l2' : H.size < H'.size := Heap.lt_of_get (by rw [g2']; simp)
      obtain ⟨ky, vy, wy, ey, ⟨y1, y2⟩, y3, y4⟩ := R'.form
      subst ey
      have T : FrX [H.size] H'.size H' (H'.set H.size (.cells [.int .i64 ky, vy, wy] .own)) := FrX.set (.inl (by simp))
      simp only [go_sem, zA, zB, zC, reduceIte, zD, zE, zF, zG, zH, zI, reduceCtorEq, zJ, zK, zL, zM, zN, zO, zP, g', g2', y1, y2, y3, y4, Heap.get_set_self l2']
      refine hT y k2 h _ _ ((FrX.ofExt x0).trans ((f1.mono (by omega) fun c hc _ => hc).trans ((FrX.ofExt (e1.le (by omega))).trans ((f.mono (by rw [Heap.size_push]; omega) fun c hc hc2 => by simp at hc ⊢; exact ⟨hc.1, hc.2, by omega⟩).trans (FrX.set (.inr (Nat.le_refl _))))))) (P'.keep T ⟨P'.lt, by have := hP.lt; simp; omega⟩ ⟨P'.rdr.lt, by have := hP.rdr.lt; simp; omega⟩ fun hp => ⟨P'.ilt hp, by have := hP.ilt hp; simp; omega⟩) (R'.keep fun b ⟨q1, q2, q3⟩ q4 => ⟨T.2 b q4 (by simp; exact q2), q1⟩)
end
end Go.Ev
