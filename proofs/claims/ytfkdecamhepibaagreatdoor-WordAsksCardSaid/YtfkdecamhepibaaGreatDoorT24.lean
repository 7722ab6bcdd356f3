/- Several texts of this claim, joined. -/
import Derived.Test.YtfkdecamhepibaaGreatDoorT22
import Derived.Test.YtfkdecamhepibaaGreatDoorT21
import Derived.Test.YtfkdecamhepibaaGreatDoorT20
import Derived.Test.YtfkdecamhepibaaGreatDoorT18
set_option linter.unusedSimpArgs false
set_option linter.unusedVariables false

/- Package goboref3: the rune at a place. -/
namespace Go.Ev
open Go
open Go.Ev renaming seqK_normal → zA, blockK_normal → zB, blockK_exit → zC
open Nat renaming reduceEqDiff → zD, reduceAdd → zE, reduceSub → zF, reduceMul → zG, reduceLeDiff → zH, reduceLT → zI
open Int renaming reduceToNat → zJ, reduceLT → zK, reduceLE → zL, reduceEq → zM, reduceAdd → zN, reduceSub → zO, reduceMul → zP
set_option maxRecDepth 8000
def sLo (c : UInt8) : Nat := if longB c ≤ 1 then 0 else secLo c.toNat
def sHi (c : UInt8) : Nat := if longB c ≤ 1 then 0 else secHi c.toNat
theorem sec_all : ((List.range 256).all fun n => let c := UInt8.ofNat n
    (longB c, sLo c, sHi c) == (if n < 128 then (1, 0, 0) else if 194 ≤ n ∧ n ≤ 223 then (2, 128, 191) else if n = 224 then (3, 160, 191) else if n = 237 then (3, 128, 159) else if 225 ≤ n ∧ n ≤ 239 then (3, 128, 191) else if n = 240 then (4, 144, 191) else if 241 ≤ n ∧ n ≤ 243 then (4, 128, 191) else if n = 244 then (4, 128, 143) else (0, 0, 0))) = true := by decide +kernel
theorem sec_at (c : UInt8) : (longB c, sLo c, sHi c) = (if c.toNat < 128 then (1, 0, 0) else if 194 ≤ c.toNat ∧ c.toNat ≤ 223 then (2, 128, 191) else if c.toNat = 224 then (3, 160, 191) else if c.toNat = 237 then (3, 128, 159) else if 225 ≤ c.toNat ∧ c.toNat ≤ 239 then (3, 128, 191) else if c.toNat = 240 then (4, 144, 191) else if 241 ≤ c.toNat ∧ c.toNat ≤ 243 then (4, 128, 191) else if c.toNat = 244 then (4, 128, 143) else (0, 0, 0)) := by
  have h := List.all_eq_true.1 sec_all c.toNat (List.mem_range.2 c.toNat_lt)
  simpa [UInt8.ofNat_toNat] using h
section
variable {o : CallF} (ho : OvOnly o)
include ho
theorem g_second {c : UInt8} {H : Heap} {Q : End → Heap → Prop} (h : Q (.ret (.tup [.int .i64 (longB c : Int), .int .i64 (sLo c : Int), .int .i64 (sHi c : Int)])) H) : wpf ⟨bt.get, o⟩ F_goboref3_second [.int .u8 c.toNat] H Q := by
  rw [fn_goboref3_second (ho _ _ _ (by decide))]
  have e := sec_at c
  generalize c.toNat = n at e ⊢
  have fin : ∀ a b d : Nat, (longB c, sLo c, sHi c) = (a, b, d) → Q (.ret (.tup [.int .i64 (a : Int), .int .i64 (b : Int), .int .i64 (d : Int)])) H := fun a b d he => by
    injection he with h1 h2; injection h2 with h2 h3; rw [← h1, ← h2, ← h3]; exact h
  by_cases c1 : n < 128
  · rw [if_pos c1] at e
    have c1' : (n : Int) < 128 := by omega
    simp only [bd_goboref3_second, go_sem, zA, zB, zC, reduceIte, zD, zE, zF, zG, zH, zI, reduceCtorEq, zJ, zK, zL, zM, zN, zO, zP, c1']
    exact fin _ _ _ e
  rw [if_neg c1] at e
  have c1' : ¬ (n : Int) < 128 := by omega
  by_cases c2 : 194 ≤ n
  · have c2' : (194 : Int) ≤ (n : Int) := by omega
    by_cases c3 : n ≤ 223
    · rw [if_pos ⟨c2, c3⟩] at e
      have c3' : (n : Int) ≤ 223 := by omega
      simp only [bd_goboref3_second, go_sem, zA, zB, zC, reduceIte, zD, zE, zF, zG, zH, zI, reduceCtorEq, zJ, zK, zL, zM, zN, zO, zP, c1', c2', c3', GE.ge]
      exact fin _ _ _ e
    rw [if_neg (fun h => c3 h.2)] at e
    have c3' : ¬ (n : Int) ≤ 223 := by omega
    by_cases c4 : n = 224
    · rw [if_pos c4] at e
      have c4' : (n : Int) = 224 := by omega
      simp only [bd_goboref3_second, go_sem, zA, zB, zC, reduceIte, zD, zE, zF, zG, zH, zI, reduceCtorEq, zJ, zK, zL, zM, zN, zO, zP, c1', c2', c3', c4', GE.ge]
      exact fin _ _ _ e
    rw [if_neg c4] at e
    have c4' : ¬ (n : Int) = 224 := by omega
    by_cases c5 : n = 237
    · rw [if_pos c5] at e
      have c5' : (n : Int) = 237 := by omega
      simp only [bd_goboref3_second, go_sem, zA, zB, zC, reduceIte, zD, zE, zF, zG, zH, zI, reduceCtorEq, zJ, zK, zL, zM, zN, zO, zP, c1', c2', c3', c4', c5', GE.ge]
      exact fin _ _ _ e
    rw [if_neg c5] at e
    have c5' : ¬ (n : Int) = 237 := by omega
    have c6' : (225 : Int) ≤ (n : Int) := by omega
    by_cases c7 : n ≤ 239
    · rw [if_pos ⟨by omega, c7⟩] at e
      have c7' : (n : Int) ≤ 239 := by omega
      simp only [bd_goboref3_second, go_sem, zA, zB, zC, reduceIte, zD, zE, zF, zG, zH, zI, reduceCtorEq, zJ, zK, zL, zM, zN, zO, zP, c1', c2', c3', c4', c5', c6', c7', GE.ge]
      exact fin _ _ _ e
    rw [if_neg (fun h => c7 h.2)] at e
    have c7' : ¬ (n : Int) ≤ 239 := by omega
    by_cases c8 : n = 240
    · rw [if_pos c8] at e
      have c8' : (n : Int) = 240 := by omega
      simp only [bd_goboref3_second, go_sem, zA, zB, zC, reduceIte, zD, zE, zF, zG, zH, zI, reduceCtorEq, zJ, zK, zL, zM, zN, zO, zP, c1', c2', c3', c4', c5', c6', c7', c8', GE.ge]
      exact fin _ _ _ e
    rw [if_neg c8] at e
    have c8' : ¬ (n : Int) = 240 := by omega
    have c9' : (241 : Int) ≤ (n : Int) := by omega
    by_cases ca : n ≤ 243
    · rw [if_pos ⟨by omega, ca⟩] at e
      have ca' : (n : Int) ≤ 243 := by omega
      simp only [bd_goboref3_second, go_sem, zA, zB, zC, reduceIte, zD, zE, zF, zG, zH, zI, reduceCtorEq, zJ, zK, zL, zM, zN, zO, zP, c1', c2', c3', c4', c5', c6', c7', c8', c9', ca', GE.ge]
      exact fin _ _ _ e
    rw [if_neg (fun h => ca h.2)] at e
    have ca' : ¬ (n : Int) ≤ 243 := by omega
    by_cases cb : n = 244
    · rw [if_pos cb] at e
      have cb' : (n : Int) = 244 := by omega
      simp only [bd_goboref3_second, go_sem, zA, zB, zC, reduceIte, zD, zE, zF, zG, zH, zI, reduceCtorEq, zJ, zK, zL, zM, zN, zO, zP, c1', c2', c3', c4', c5', c6', c7', c8', c9', ca', cb', GE.ge]
      exact fin _ _ _ e
    rw [if_neg cb] at e
    have cb' : ¬ (n : Int) = 244 := by omega
    simp only [bd_goboref3_second, go_sem, zA, zB, zC, reduceIte, zD, zE, zF, zG, zH, zI, reduceCtorEq, zJ, zK, zL, zM, zN, zO, zP, c1', c2', c3', c4', c5', c6', c7', c8', c9', ca', cb', GE.ge]
    exact fin _ _ _ e
  · have c2' : ¬ (194 : Int) ≤ (n : Int) := by omega
    rw [if_neg (by omega), if_neg (by omega), if_neg (by omega), if_neg (by omega), if_neg (by omega), if_neg (by omega), if_neg (by omega)] at e
    have c4' : ¬ (n : Int) = 224 := by omega
    have c5' : ¬ (n : Int) = 237 := by omega
    have c6' : ¬ (225 : Int) ≤ (n : Int) := by omega
    have c8' : ¬ (n : Int) = 240 := by omega
    have c9' : ¬ (241 : Int) ≤ (n : Int) := by omega
    have cb' : ¬ (n : Int) = 244 := by omega
    simp only [bd_goboref3_second, go_sem, zA, zB, zC, reduceIte, zD, zE, zF, zG, zH, zI, reduceCtorEq, zJ, zK, zL, zM, zN, zO, zP, c1', c2', c4', c5', c6', c8', c9', cb', GE.ge]
    exact fin _ _ _ e
/-- The number by now. -/
def pvG (n : Nat) : List UInt8 → Nat
  | [] => 0
  | a :: r => r.foldl (fun v c => v * 64 + c.toNat % 64) (if n = 1 then a.toNat else a.toNat % 2 ^ (7 - n))
omit ho in
theorem pvG_snoc {n : Nat} {held : List UInt8} (h : held ≠ []) (c : UInt8) : pvG n (held ++ [c]) = pvG n held * 64 + c.toNat % 64 := by
  cases held with
  | nil => exact absurd rfl h
  | cons a r => simp [pvG, List.foldl_append]
omit ho in
theorem pvG_dec {held : List UInt8} (h : held.length = longB (headB held)) (hn : held ≠ []) : pvG held.length held = decR held := by
  match held, h, hn with
  | [a], _, _ => simp [pvG, decR]
  | [a, b], _, _ => simp [pvG, decR]
  | [a, b, c], _, _ => simp [pvG, decR]; omega
  | [a, b, c, d], _, _ => simp [pvG, decR]; omega
  | a :: b :: c :: d :: e :: r, h, _ =>
    have := longB_le (headB (a :: b :: c :: d :: e :: r))
    simp only [List.length_cons] at h; omega
end
/- Bits of numbers. -/
def i64and (n m : Int) : Int := IntKind.i64.wrap (BitVec.ofInt 64 n &&& BitVec.ofInt 64 m).toNat
theorem intBin_i64and {n m : Int} : intBin .and .i64 n m = some (.int .i64 (i64and n m)) := rfl
def i32and (n m : Int) : Int := IntKind.i32.wrap (BitVec.ofInt 32 n &&& BitVec.ofInt 32 m).toNat
theorem intBin_i32and {n m : Int} : intBin .and .i32 n m = some (.int .i32 (i32and n m)) := rfl
theorem and_all : ((List.range 256).all fun n => decide (i64and n 63 = (n % 64 : Nat)) && decide (i32and n 31 = (n % 32 : Nat)) && decide (i32and n 15 = (n % 16 : Nat)) && decide (i32and n 7 = (n % 8 : Nat))) = true := by decide +kernel
theorem and_at (c : UInt8) : i64and c.toNat 63 = (c.toNat % 64 : Nat) ∧ i32and c.toNat 31 = (c.toNat % 32 : Nat) ∧ i32and c.toNat 15 = (c.toNat % 16 : Nat) ∧ i32and c.toNat 7 = (c.toNat % 8 : Nat) := by
  have h := List.all_eq_true.1 and_all c.toNat (List.mem_range.2 c.toNat_lt)
  simp only [Bool.and_eq_true, decide_eq_true_eq] at h
  exact ⟨h.1.1.1, h.1.1.2, h.1.2, h.2⟩
/- Lists whose elements change places. -/
abbrev S := Nat × Nat
def S.cells (x : S) : List AV := [.int .i64 x.1, .int .i64 x.2]
def scells (l : List S) : List AV := l.flatMap S.cells
theorem scells_app (l m : List S) : scells (l ++ m) = scells l ++ scells m := List.flatMap_append
theorem scells_len : ∀ l : List S, (scells l).length = l.length * 2
  | [] => rfl
  | w :: l => by rw [scells, List.flatMap_cons, List.length_append, ← scells, scells_len l, S.cells]; simp only [List.length_cons, List.length_nil]; omega
theorem scells_at : ∀ {l : List S} {i : Nat} {x : S}, l[i]? = some x → List.take 2 (List.drop (i * 2) (scells l)) = x.cells ∧ i * 2 + 2 ≤ (scells l).length
  | y :: l, 0, x, h => by
    simp only [List.getElem?_cons_zero, Option.some.injEq] at h; subst h
    constructor
    · rfl
    · rw [scells_len, List.length_cons]; omega
  | y :: l, i + 1, x, h => by
    have := scells_at (l := l) (i := i) (x := x) (by simpa using h)
    constructor
    · rw [scells, List.flatMap_cons, ← scells, show (i + 1) * 2 = 2 + i * 2 by omega, ← List.drop_drop]
      exact this.1
    · rw [scells_len, List.length_cons]; have h2 := this.2; rw [scells_len] at h2; omega
theorem scells_fld {l : List S} {i : Nat} {x : S} (h : l[i]? = some x) : (scells l)[i * 2]? = some (.int .i64 x.1) ∧ (scells l)[i * 2 + 1]? = some (.int .i64 x.2) := by
  have h1 := (scells_at h).1
  have g : ∀ j, j < 2 → (scells l)[i * 2 + j]? = x.cells[j]? := by
    intro j hj
    rw [← h1, List.getElem?_take, if_pos hj, List.getElem?_drop]
  exact ⟨g 0 (by omega), g 1 (by omega)⟩
theorem scells_set : ∀ {l : List S} {i : Nat} (a b : Nat), i < l.length → ((scells l).set (i * 2) (.int .i64 a)).set (i * 2 + 1) (.int .i64 b) = scells (l.set i (a, b))
  | y :: l, 0, a, b, h => rfl
  | y :: l, i + 1, a, b, h => by
    have := scells_set (l := l) (i := i) a b (by simpa using h)
    show ((S.cells y ++ scells l).set ((i + 1) * 2) _).set ((i + 1) * 2 + 1) _ = S.cells y ++ scells (l.set i (a, b))
    rw [← this, show (i + 1) * 2 = i * 2 + 1 + 1 by omega]
    rfl
theorem scells_setS {l : List S} {i : Nat} (x : S) (h : i < l.length) : ((scells l).set (i * 2) (.int .i64 x.1)).set (i * 2 + 1) (.int .i64 x.2) = scells (l.set i x) := scells_set x.1 x.2 h
theorem scells_set2 {l : List S} {i : Nat} {x : S} (b : Nat) (hx : l[i]? = some x) : (scells l).set (i * 2 + 1) (.int .i64 b) = scells (l.set i (x.1, b)) := by
  have hi := (List.getElem?_eq_some_iff.1 hx).1
  rw [← scells_set x.1 b hi]
  congr 1
  have := (scells_fld hx).1
  obtain ⟨h1, h2⟩ := List.getElem?_eq_some_iff.1 this
  rw [← h2, List.set_getElem_self]
/-- Two elements change places. -/
def swp (l : List S) (i j : Nat) : List S := (l.set i (l.getD j (0, 0))).set j (l.getD i (0, 0))
def key (l : List S) (p : Nat) : Nat := (l.getD p (0, 0)).1
theorem swp_len (l : List S) (i j : Nat) : (swp l i j).length = l.length := by simp [swp]
theorem getD_of {l : List S} {i : Nat} {x : S} (h : l[i]? = some x) : l.getD i (0, 0) = x := by rw [List.getD_eq_getElem?_getD, h]; rfl
theorem get_of {l : List S} {i : Nat} (h : i < l.length) : l[i]? = some (l.getD i (0, 0)) := by
  rw [List.getD_eq_getElem?_getD, List.getElem?_eq_getElem h]; rfl
theorem swp_get {l : List S} {i j : Nat} (hi : i < l.length) (hj : j < l.length) (p : Nat) : (swp l i j)[p]? = if p = j then l[i]? else if p = i then l[j]? else l[p]? := by
  rw [swp, List.getElem?_set, List.length_set]
  by_cases h1 : p = j
  · subst h1; rw [if_pos rfl, if_pos hj, if_pos rfl, get_of hi]
  · rw [if_neg (fun e => h1 e.symm), if_neg h1, List.getElem?_set]
    by_cases h2 : p = i
    · subst h2; rw [if_pos rfl, if_pos hi, if_pos rfl, get_of hj]
    · rw [if_neg (fun e => h2 e.symm), if_neg h2]
theorem key_swp {l : List S} {i j : Nat} (hi : i < l.length) (hj : j < l.length) (p : Nat) : key (swp l i j) p = if p = j then key l i else if p = i then key l j else key l p := by
  unfold key
  rw [List.getD_eq_getElem?_getD, swp_get hi hj]
  split
  · rw [← List.getD_eq_getElem?_getD]
  · split <;> rw [← List.getD_eq_getElem?_getD]
/-- The elements from `a` up to, not with, `b` have changed places; all others stay. -/
structure PermOn (a b : Nat) (l l' : List S) : Prop where
  len : l'.length = l.length
  out : ∀ p, p < a ∨ b ≤ p → l'[p]? = l[p]?
  mem : ∀ x, (∃ p, a ≤ p ∧ p < b ∧ l'[p]? = some x) ↔ (∃ p, a ≤ p ∧ p < b ∧ l[p]? = some x)
theorem PermOn.refl {a b l} : PermOn a b l l := ⟨rfl, fun _ _ => rfl, fun _ => Iff.rfl⟩
theorem PermOn.trans {a b l l' l''} (h : PermOn a b l l') (k : PermOn a b l' l'') : PermOn a b l l'' := ⟨k.len.trans h.len, fun p hp => (k.out p hp).trans (h.out p hp), fun x => (k.mem x).trans (h.mem x)⟩
theorem PermOn.widen {a b a' b' l l'} (h : PermOn a b l l') (ha : a' ≤ a) (hb : b ≤ b') : PermOn a' b' l l' := by
  refine ⟨h.len, fun p hp => h.out p (by omega), fun x => ?_⟩
  constructor
  · rintro ⟨p, h1, h2, h3⟩
    by_cases hp : a ≤ p ∧ p < b
    · obtain ⟨q, g1, g2, g3⟩ := (h.mem x).1 ⟨p, hp.1, hp.2, h3⟩
      exact ⟨q, by omega, by omega, g3⟩
    · exact ⟨p, h1, h2, by rw [← h.out p (by omega)]; exact h3⟩
  · rintro ⟨p, h1, h2, h3⟩
    by_cases hp : a ≤ p ∧ p < b
    · obtain ⟨q, g1, g2, g3⟩ := (h.mem x).2 ⟨p, hp.1, hp.2, h3⟩
      exact ⟨q, by omega, by omega, g3⟩
    · exact ⟨p, h1, h2, by rw [h.out p (by omega)]; exact h3⟩
theorem PermOn.swp {a b i j l} (h1 : a ≤ i) (h2 : i < b) (h3 : a ≤ j) (h4 : j < b) (hb : b ≤ l.length) : PermOn a b l (swp l i j) := by
  have g := swp_get (l := l) (i := i) (j := j) (by omega) (by omega)
  refine ⟨swp_len _ _ _, fun p hp => ?_, fun x => ?_⟩
  · rw [g, if_neg (by omega), if_neg (by omega)]
  · constructor
    · rintro ⟨p, k1, k2, k3⟩
      rw [g] at k3
      split at k3
      · exact ⟨i, h1, h2, k3⟩
      · split at k3
        · exact ⟨j, h3, h4, k3⟩
        · exact ⟨p, k1, k2, k3⟩
    · rintro ⟨p, k1, k2, k3⟩
      by_cases e1 : p = i
      · exact ⟨j, h3, h4, by rw [g, if_pos rfl, ← e1]; exact k3⟩
      · by_cases e2 : p = j
        · by_cases e3 : i = j
          · exact absurd (e2.trans e3.symm) e1
          · exact ⟨i, h1, h2, by rw [g, if_neg e3, if_pos rfl, ← e2]; exact k3⟩
        · exact ⟨p, k1, k2, by rw [g, if_neg e2, if_neg e1]; exact k3⟩
/-- Sorted from `a` up to, not with, `b`. -/
def SortedOn (a b : Nat) (l : List S) : Prop := ∀ p q, a ≤ p → p < q → q < b → key l p ≤ key l q
theorem key_of {l : List S} {p : Nat} {x : S} (h : l[p]? = some x) : key l p = x.1 := by rw [key, getD_of h]
theorem key_out {a b l l'} (h : PermOn a b l l') {p : Nat} (hp : p < a ∨ b ≤ p) : key l' p = key l p := by
  unfold key; rw [List.getD_eq_getElem?_getD, List.getD_eq_getElem?_getD, h.out p hp]
/-- What holds of each key there holds still. -/
theorem PermOn.all {a b l l'} (h : PermOn a b l l') (hb : b ≤ l.length) {P : Nat → Prop} (hP : ∀ p, a ≤ p → p < b → P (key l p)) : ∀ p, a ≤ p → p < b → P (key l' p) := by
  intro p h1 h2
  have hp := get_of (l := l') (i := p) (by rw [h.len]; omega)
  obtain ⟨q, g1, g2, g3⟩ := (h.mem _).1 ⟨p, h1, h2, hp⟩
  have := hP q g1 g2
  rw [key_of g3] at this
  rw [key_of hp]; exact this
theorem PermOn.symm {a b l l'} (h : PermOn a b l l') : PermOn a b l' l := ⟨h.len.symm, fun p hp => (h.out p hp).symm, fun x => (h.mem x).symm⟩
/- Package runes: numbers of scalar values. -/
set_option maxRecDepth 8000
def isR (r : Int) : Bool := (decide (0 ≤ r) && decide (r < 55296)) || (decide (57343 < r) && decide (r ≤ 1114111))
def numN (r : Int) : Nat := if r < 0 then 0 else if r < 55296 then r.toNat else if r ≤ 57343 then 55296 else if 1114112 < r then 1112064 else r.toNat - 2048
def behN (r : Int) : Nat := if isR r then numN r + 1 else numN r
def valN (n : Nat) : Nat := if n < 55296 then n else n + 2048
/-- A number of 32 bits. -/
def I32 (r : Int) : Prop := -2147483648 ≤ r ∧ r ≤ 2147483647
theorem numN_le (r : Int) : numN r ≤ 1112064 := by
  unfold numN
  repeat' split
  all_goals omega
theorem behN_le (r : Int) : behN r ≤ 1112065 := by
  have := numN_le r
  unfold behN
  split <;> omega
section
variable {o : CallF} (ho : OvOnly o)
include ho
theorem r_number {r : Int} (hr : I32 r) {H : Heap} {Q : End → Heap → Prop} (h : Q (.ret (.int .i64 (numN r : Int))) H) : wpf ⟨bt.get, o⟩ F_runes_number [.int .i32 r] H Q := by
  rw [fn_runes_number (ho _ _ _ (by decide))]
  obtain ⟨r1, r2⟩ := hr
  have fin : ∀ k : Int, (numN r : Int) = k → Q (.ret (.int .i64 k)) H := fun k e => by rw [← e]; exact h
  have w1 : IntKind.i64.wrap r = r := wi64 (by omega) (by omega)
  by_cases h1 : r < 0
  · simp only [bd_runes_number, go_sem, zA, zB, zC, reduceIte, zD, zE, zF, zG, zH, zI, reduceCtorEq, zJ, zK, zL, zM, zN, zO, zP, h1]
    exact fin 0 (by simp only [numN, if_pos h1]; rfl)
  · by_cases h2 : r < 55296
    · simp only [bd_runes_number, go_sem, zA, zB, zC, reduceIte, zD, zE, zF, zG, zH, zI, reduceCtorEq, zJ, zK, zL, zM, zN, zO, zP, h1, h2, w1]
      exact fin r (by simp only [numN, if_neg h1, if_pos h2]; omega)
    · by_cases h3 : r ≤ 57343
      · simp only [bd_runes_number, go_sem, zA, zB, zC, reduceIte, zD, zE, zF, zG, zH, zI, reduceCtorEq, zJ, zK, zL, zM, zN, zO, zP, h1, h2, h3]
        exact fin 55296 (by simp only [numN, if_neg h1, if_neg h2, if_pos h3]; rfl)
      · by_cases h4 : 1114112 < r
        · have w2 : IntKind.i64.wrap 1112064 = 1112064 := by rfl
          simp only [bd_runes_number, go_sem, zA, zB, zC, reduceIte, zD, zE, zF, zG, zH, zI, reduceCtorEq, zJ, zK, zL, zM, zN, zO, zP, h1, h2, h3, w1, minmaxA, h4, w2]
          exact fin 1112064 (by simp only [numN, if_neg h1, if_neg h2, if_neg h3, if_pos h4]; rfl)
        · have w2 : IntKind.i64.wrap (r - 2048) = r - 2048 := wi64 (by omega) (by omega)
          simp only [bd_runes_number, go_sem, zA, zB, zC, reduceIte, zD, zE, zF, zG, zH, zI, reduceCtorEq, zJ, zK, zL, zM, zN, zO, zP, h1, h2, h3, w1, minmaxA, h4, w2]
          exact fin (r - 2048) (by simp only [numN, if_neg h1, if_neg h2, if_neg h3, if_neg h4]; omega)
theorem r_is {r : Int} {H : Heap} {Q : End → Heap → Prop} (h : Q (.ret (.bool (isR r))) H) : wpf ⟨bt.get, o⟩ F_runes_is [.int .i32 r] H Q := by
  rw [fn_runes_is (ho _ _ _ (by decide))]
  have fin : ∀ k : Bool, isR r = k → Q (.ret (.bool k)) H := fun k e => by rw [← e]; exact h
  by_cases h1 : 0 ≤ r
  · by_cases h2 : r < 55296
    · simp only [bd_runes_is, go_sem, zA, zB, zC, reduceIte, zD, zE, zF, zG, zH, zI, reduceCtorEq, zJ, zK, zL, zM, zN, zO, zP, h1, h2]
      exact fin true (by simp [isR, h1, h2])
    · by_cases h3 : 57343 < r
      · by_cases h4 : r ≤ 1114111
        · simp only [bd_runes_is, go_sem, zA, zB, zC, reduceIte, zD, zE, zF, zG, zH, zI, reduceCtorEq, zJ, zK, zL, zM, zN, zO, zP, h1, h2, h3, h4]
          exact fin true (by simp [isR, h3, h4])
        · simp only [bd_runes_is, go_sem, zA, zB, zC, reduceIte, zD, zE, zF, zG, zH, zI, reduceCtorEq, zJ, zK, zL, zM, zN, zO, zP, h1, h2, h3, h4]
          exact fin false (by simp [isR, h2, h4])
      · simp only [bd_runes_is, go_sem, zA, zB, zC, reduceIte, zD, zE, zF, zG, zH, zI, reduceCtorEq, zJ, zK, zL, zM, zN, zO, zP, h1, h2, h3]
        exact fin false (by simp [isR, h2, h3])
  · have h3 : ¬ 57343 < r := by omega
    simp only [bd_runes_is, go_sem, zA, zB, zC, reduceIte, zD, zE, zF, zG, zH, zI, reduceCtorEq, zJ, zK, zL, zM, zN, zO, zP, h1, h3]
    exact fin false (by simp [isR, h1, h3])
theorem r_behind {r : Int} (hr : I32 r) {H : Heap} {Q : End → Heap → Prop} (h : Q (.ret (.int .i64 (behN r : Int))) H) : wpf ⟨bt.get, o⟩ F_runes_behind [.int .i32 r] H Q := by
  rw [fn_runes_behind (ho _ _ _ (by decide))]
  have hle := numN_le r
  simp only [bd_runes_behind, go_sem, zA, zB, zC, reduceIte, zD, zE, zF, zG, zH, zI, reduceCtorEq, zJ, zK, zL, zM, zN, zO, zP]
  refine r_number ho hr ?_
  simp only [go_sem, zA, zB, zC, reduceIte, zD, zE, zF, zG, zH, zI, reduceCtorEq, zJ, zK, zL, zM, zN, zO, zP]
  refine r_is ho ?_
  cases hi : isR r
  · simp only [go_sem, zA, zB, zC, reduceIte, zD, zE, zF, zG, zH, zI, reduceCtorEq, zJ, zK, zL, zM, zN, zO, zP]
    simpa [behN, hi] using h
  · simp only [go_sem, zA, zB, zC, reduceIte, zD, zE, zF, zG, zH, zI, reduceCtorEq, zJ, zK, zL, zM, zN, zO, zP, wsucc (show numN r ≤ 1000000000 by omega)]
    simpa [behN, hi] using h
theorem r_value {n : Nat} (hn : n ≤ 2000000) {H : Heap} {Q : End → Heap → Prop} (h : Q (.ret (.int .i32 (valN n : Int))) H) : wpf ⟨bt.get, o⟩ F_runes_value [.int .i64 (n : Int)] H Q := by
  rw [fn_runes_value (ho _ _ _ (by decide))]
  by_cases h1 : n < 55296
  · have h1' : (n : Int) < 55296 := by omega
    have w1 : IntKind.i32.wrap (n : Int) = (n : Int) := wi32 (by omega) (by omega)
    simp only [bd_runes_value, go_sem, zA, zB, zC, reduceIte, zD, zE, zF, zG, zH, zI, reduceCtorEq, zJ, zK, zL, zM, zN, zO, zP, h1', w1]
    simpa [valN, h1] using h
  · have h1' : ¬ (n : Int) < 55296 := by omega
    have w0 : IntKind.i64.wrap ((n : Int) + 2048) = (n : Int) + 2048 := wi64 (by omega) (by omega)
    have w1 : IntKind.i32.wrap ((n : Int) + 2048) = ((n + 2048 : Nat) : Int) := by rw [wi32 (by omega) (by omega)]; rfl
    simp only [bd_runes_value, go_sem, zA, zB, zC, reduceIte, zD, zE, zF, zG, zH, zI, reduceCtorEq, zJ, zK, zL, zM, zN, zO, zP, h1', w0, w1]
    simpa [valN, h1] using h
end
/- Sorting of spans: what insertionSortCmpFunc comes to. -/
set_option maxRecDepth 8000
def cmpZ (a b : Int) : Int := if a < b then -1 else if b < a then 1 else 0
theorem cmpZ_lt (a b : Int) : (cmpZ a b < 0) = (a < b) := by
  unfold cmpZ
  repeat' split
  all_goals simp <;> omega
theorem cmpZ_lt' (a b : Nat) : (cmpZ (a : Int) (b : Int) < 0) = (a < b) := by rw [cmpZ_lt]; simp
theorem wpred {n : Nat} (h0 : 0 < n) (h : n ≤ 1000000000) : IntKind.i64.wrap ((n : Int) - 1) = ((n - 1 : Nat) : Int) := by
  rw [wi64 (by omega) (by omega)]; omega
section
variable {o : CallF} (ho : OvOnly o)
include ho
theorem c_Compare {a b : Int} {H : Heap} {Q : End → Heap → Prop} (h : Q (.ret (.int .i64 (cmpZ a b))) H) : wpf ⟨bt.get, o⟩ F_cmp_Compare_int [.int .i64 a, .int .i64 b] H Q := by
  rw [fn_cmp_Compare_int (ho _ _ _ (by decide))]
  simp only [bd_cmp_Compare_int, go_sem, zA, zB, zC, reduceIte, zD, zE, zF, zG, zH, zI, reduceCtorEq, zJ, zK, zL, zM, zN, zO, zP]
  rw [fn_cmp_isNaN_int (ho _ _ _ (by decide))]
  simp only [bd_cmp_isNaN_int, go_sem, zA, zB, zC, reduceIte, zD, zE, zF, zG, zH, zI, reduceCtorEq, zJ, zK, zL, zM, zN, zO, zP]
  rw [fn_cmp_isNaN_int (ho _ _ _ (by decide))]
  simp only [bd_cmp_isNaN_int, go_sem, zA, zB, zC, reduceIte, zD, zE, zF, zG, zH, zI, reduceCtorEq, zJ, zK, zL, zM, zN, zO, zP]
  by_cases h1 : a < b
  · simp only [go_sem, zA, zB, zC, reduceIte, zD, zE, zF, zG, zH, zI, reduceCtorEq, zJ, zK, zL, zM, zN, zO, zP, h1]
    simpa only [cmpZ, if_pos h1] using h
  · by_cases h2 : b < a
    · simp only [go_sem, zA, zB, zC, reduceIte, zD, zE, zF, zG, zH, zI, reduceCtorEq, zJ, zK, zL, zM, zN, zO, zP, h1, h2]
      simpa only [cmpZ, if_neg h1, if_pos h2] using h
    · simp only [go_sem, zA, zB, zC, reduceIte, zD, zE, zF, zG, zH, zI, reduceCtorEq, zJ, zK, zL, zM, zN, zO, zP, h1, h2]
      simpa only [cmpZ, if_neg h1, if_neg h2] using h
theorem c_cmp {a b : S} {H : Heap} {Q : End → Heap → Prop} (h : ∀ H', Ext H.size H H' → Q (.ret (.int .i64 (cmpZ a.1 b.1))) H') : wpf ⟨bt.get, o⟩ F_runes_spans_1 [.agg a.cells, .agg b.cells] H Q := by
  rw [fn_runes_spans_1 (ho _ _ _ (by decide))]
  have e1 : ((H.push (.cells [.int .i64 a.1, .int .i64 a.2] .own)).push (.cells [.int .i64 b.1, .int .i64 b.2] .own)).get H.size = .cells [.int .i64 a.1, .int .i64 a.2] .own := by
    rw [Heap.get_push_lt (by rw [Heap.size_push]; omega), Heap.get_push_self]
  have e2 : ((H.push (.cells [.int .i64 a.1, .int .i64 a.2] .own)).push (.cells [.int .i64 b.1, .int .i64 b.2] .own)).get (H.size + 1) = .cells [.int .i64 b.1, .int .i64 b.2] .own := by
    rw [Heap.get_push_eq (by rw [Heap.size_push])]
  simp only [bd_runes_spans_1, go_sem, zA, zB, zC, reduceIte, zD, zE, zF, zG, zH, zI, reduceCtorEq, zJ, zK, zL, zM, zN, zO, zP, S.cells, e1, e2]
  refine c_Compare ho ?_
  simp only [go_sem, zA, zB, zC, reduceIte, zD, zE, zF, zG, zH, zI, reduceCtorEq, zJ, zK, zL, zM, zN, zO, zP]
  exact h _ ((Ext.push (Nat.le_refl _)).trans (Ext.push (by rw [Heap.size_push]; omega)))
abbrev cmpV : AV := .fn F_runes_spans_1 []
/-- The arguments of the sorting functions: a slice of spans. -/
abbrev slV (sb n : Nat) : AV := .osl 2 sb 0 n
theorem ins_loop0 {n a b i sb : Nat} (hn : n ≤ 1000000) {Q : Ctl → St → Prop} : ∀ (j : Nat) (l : List S) (H : Heap), a ≤ j → j ≤ i → i < n → l.length = n → H.get sb = .cells (scells l) .own →
    (∀ p q, a ≤ p → p < q → q ≤ i → p ≠ j → q ≠ j → key l p ≤ key l q) → (∀ q, j < q → q ≤ i → key l j ≤ key l q) →
    (∀ l' H' j' x t, PermOn a (i + 1) l l' → SortedOn a (i + 1) l' → Fr sb .nils H H' → H'.get sb = .cells (scells l') .own → Q (.exit 2) { p := [(0, slV sb n), (1, .int .i64 a), (2, .int .i64 b), (3, cmpV), (8, .int .i64 i), (9, j'), (34, x)], t := t, H := H', d := [], u := .norm }) →
    wpl ⟨bt.get, o⟩ [0, 1, 2, 3, 8, 9] lb_slices_insertionSortCmpFunc_runes_span_0 { p := [(0, slV sb n), (1, .int .i64 a), (2, .int .i64 b), (3, cmpV), (8, .int .i64 i), (9, .int .i64 j)], t := [], H := H, d := [], u := .norm } Q := by
  intro j
  induction j with
  | zero =>
    intro l H h1 h2 h3 hl hg hA hB hQ
    rw [wpl_step]
    have c1 : ¬ ((a : Int) < ((0 : Nat) : Int)) := by omega
    have a0 : a = 0 := by omega
    subst a0
    simp only [lb_slices_insertionSortCmpFunc_runes_span_0, go_sem, zA, zB, zC, reduceIte, zD, zE, zF, zG, zH, zI, reduceCtorEq, zJ, zK, zL, zM, zN, zO, zP]
    refine hQ l H _ _ _ PermOn.refl (fun p q g1 g2 g3 => ?_) ⟨Nat.le_refl _, fun _ _ _ _ => rfl⟩ hg
    by_cases e : p = 0
    · subst e; exact hB q (by omega) (by omega)
    · exact hA p q g1 g2 (by omega) e (by omega)
  | succ j ih =>
    intro l H h1 h2 h3 hl hg hA hB hQ
    rw [wpl_step]
    by_cases ha : a = j + 1
    · have c1 : ¬ ((a : Int) < ((j + 1 : Nat) : Int)) := by omega
      simp only [lb_slices_insertionSortCmpFunc_runes_span_0, go_sem, zA, zB, zC, reduceIte, zD, zE, zF, zG, zH, zI, reduceCtorEq, zJ, zK, zL, zM, zN, zO, zP, c1]
      refine hQ l H _ _ _ PermOn.refl (fun p q g1 g2 g3 => ?_) ⟨Nat.le_refl _, fun _ _ _ _ => rfl⟩ hg
      by_cases e : p = j + 1
      · subst e; exact hB q (by omega) (by omega)
      · exact hA p q g1 g2 (by omega) e (by omega)
    · have c1 : ((a : Int) < ((j + 1 : Nat) : Int)) := by omega
      have c2 : ((j + 1 : Nat) : Int) < (n : Int) := by omega
      have c3 : (j : Int) < (n : Int) := by omega
      have wp := wpred (n := j + 1) (by omega) (by omega)
      rw [Nat.add_sub_cancel] at wp
      have g1 := get_of (l := l) (i := j + 1) (by omega)
      have g0 := get_of (l := l) (i := j) (by omega)
      obtain ⟨s1, s1'⟩ := scells_at g1
      obtain ⟨s0, s0'⟩ := scells_at g0
      simp only [lb_slices_insertionSortCmpFunc_runes_span_0, go_sem, zA, zB, zC, reduceIte, zD, zE, zF, zG, zH, zI, reduceCtorEq, zJ, zK, zL, zM, zN, zO, zP, c1, c2, c3, wp, hg, s0, s1, s0', s1']
      refine c_cmp ho fun H1 hx1 => ?_
      have hlt : sb < H.size := Heap.lt_of_get (by rw [hg]; simp)
      have hg1 : H1.get sb = .cells (scells l) .own := by rw [hx1.2 sb hlt, hg]
      have hlt1 : sb < H1.size := Heap.lt_of_get (by rw [hg1]; simp)
      have fr1 : Fr sb .nils H H1 := ⟨hx1.1, fun c hc _ _ => hx1.2 c hc⟩
      simp only [go_sem, zA, zB, zC, reduceIte, zD, zE, zF, zG, zH, zI, reduceCtorEq, zJ, zK, zL, zM, zN, zO, zP, cmpZ_lt']
      by_cases hc : (l.getD (j + 1) (0, 0)).1 < (l.getD j (0, 0)).1
      · have x0 := scells_setS (l := l) (i := j + 1) (l.getD j (0, 0)) (by omega)
        have x1 := scells_setS (l := l.set (j + 1) (l.getD j (0, 0))) (i := j) (l.getD (j + 1) (0, 0)) (by simp; omega)
        have y0 : j * 2 + 2 ≤ (scells (l.set (j + 1) (l.getD j (0, 0)))).length := by rw [scells_len, List.length_set]; omega
        simp only [go_sem, zA, zB, zC, reduceIte, zD, zE, zF, zG, zH, zI, reduceCtorEq, zJ, zK, zL, zM, zN, zO, zP, hc, c2, c3, wp, hg1, s0, s1, s0', s1', S.cells, Heap.get_set_self hlt1, List.length_set, x0, x1, y0]
        have ks := key_swp (l := l) (i := j + 1) (j := j) (by omega) (by omega)
        have kc : key l (j + 1) < key l j := hc
        refine ih (swp l (j + 1) j) _ (by omega) (by omega) h3 (by rw [swp_len]; exact hl) (Heap.get_set_self hlt1) (fun p q g1 g2 g3 g4 g5 => ?_) (fun q g1 g2 => ?_) fun l' H' j' x t k1 k2 k3 k4 => hQ l' H' j' x t ((PermOn.swp (by omega) (by omega) (by omega) (by omega) (by omega)).trans k1) k2 (fr1.trans (Fr.set.trans k3)) k4
        · rw [ks, ks, if_neg g4, if_neg g5]
          by_cases e1 : p = j + 1
          · rw [if_pos e1, if_neg (by omega)]
            exact hA j q (by omega) (by omega) g3 (by omega) (by omega)
          · rw [if_neg e1]
            by_cases e2 : q = j + 1
            · rw [if_pos e2]
              exact hA p j g1 (by omega) (by omega) e1 (by omega)
            · rw [if_neg e2]
              exact hA p q g1 g2 g3 e1 e2
        · rw [ks, ks, if_pos rfl, if_neg (by omega)]
          by_cases e2 : q = j + 1
          · rw [if_pos e2]; omega
          · rw [if_neg e2]
            exact hB q (by omega) g2
      · simp only [go_sem, zA, zB, zC, reduceIte, zD, zE, zF, zG, zH, zI, reduceCtorEq, zJ, zK, zL, zM, zN, zO, zP, hc]
        refine hQ l H1 _ _ _ PermOn.refl (fun p q g1 g2 g3 => ?_) fr1 hg1
        have hk : key l j ≤ key l (j + 1) := by unfold key; omega
        by_cases e : p = j + 1
        · subst e; exact hB q (by omega) (by omega)
        · by_cases e2 : q = j + 1
          · subst e2
            by_cases e3 : p = j
            · subst e3; exact hk
            · exact Nat.le_trans (hA p j g1 (by omega) (by omega) e (by omega)) hk
          · exact hA p q g1 g2 (by omega) e e2
theorem ins_loop1 {n a b sb : Nat} (hn : n ≤ 1000000) (hb : b ≤ n) {Q : Ctl → St → Prop} : ∀ (m i : Nat) (l : List S) (H : Heap), b - i ≤ m → a < i → l.length = n → H.get sb = .cells (scells l) .own → SortedOn a i l →
    (∀ l' H' i' x t, PermOn a b l l' → SortedOn a b l' → Fr sb .nils H H' → H'.get sb = .cells (scells l') .own → Q (.exit 0) { p := [(0, slV sb n), (1, .int .i64 a), (2, .int .i64 b), (3, cmpV), (8, i'), (14, x)], t := t, H := H', d := [], u := .norm }) →
    wpl ⟨bt.get, o⟩ [0, 1, 2, 3, 8] lb_slices_insertionSortCmpFunc_runes_span_1 { p := [(0, slV sb n), (1, .int .i64 a), (2, .int .i64 b), (3, cmpV), (8, .int .i64 i)], t := [], H := H, d := [], u := .norm } Q := by
  intro m
  induction m with
  | zero =>
    intro i l H h1 h2 hl hg hS hQ
    rw [wpl_step]
    have c1 : ¬ ((i : Int) < (b : Int)) := by omega
    simp only [lb_slices_insertionSortCmpFunc_runes_span_1, go_sem, zA, zB, zC, reduceIte, zD, zE, zF, zG, zH, zI, reduceCtorEq, zJ, zK, zL, zM, zN, zO, zP, c1]
    exact hQ l H _ _ _ PermOn.refl (fun p q g1 g2 g3 => hS p q g1 g2 (by omega)) Fr.refl hg
  | succ m ih =>
    intro i l H h1 h2 hl hg hS hQ
    rw [wpl_step]
    by_cases c : i < b
    · have c1 : ((i : Int) < (b : Int)) := by omega
      simp only [lb_slices_insertionSortCmpFunc_runes_span_1, go_sem, zA, zB, zC, reduceIte, zD, zE, zF, zG, zH, zI, reduceCtorEq, zJ, zK, zL, zM, zN, zO, zP, c1]
      refine ins_loop0 ho hn i l H (by omega) (Nat.le_refl _) (by omega) hl hg (fun p q g1 g2 g3 g4 g5 => hS p q g1 g2 (by omega)) (fun q g1 g2 => by omega) fun l' H' j' x t k1 k2 k3 k4 => ?_
      simp only [go_sem, zA, zB, zC, reduceIte, zD, zE, zF, zG, zH, zI, reduceCtorEq, zJ, zK, zL, zM, zN, zO, zP, wsucc (show i ≤ 1000000000 by omega)]
      refine ih (i + 1) l' H' (by omega) (by omega) (by rw [k1.len]; exact hl) k4 k2 fun l2 H2 i2 x2 t2 g1 g2 g3 g4 => hQ l2 H2 i2 x2 t2 ((k1.widen (Nat.le_refl _) (by omega)).trans g1) g2 (k3.trans g3) g4
    · have c1 : ¬ ((i : Int) < (b : Int)) := by omega
      simp only [lb_slices_insertionSortCmpFunc_runes_span_1, go_sem, zA, zB, zC, reduceIte, zD, zE, zF, zG, zH, zI, reduceCtorEq, zJ, zK, zL, zM, zN, zO, zP, c1]
      exact hQ l H _ _ _ PermOn.refl (fun p q g1 g2 g3 => hS p q g1 g2 (by omega)) Fr.refl hg
theorem ins_sort {n a b sb : Nat} (hn : n ≤ 1000000) (hb : b ≤ n) {l : List S} {H : Heap} (hl : l.length = n) (hg : H.get sb = .cells (scells l) .own) (ha : a ≤ 1000000) {Q : End → Heap → Prop}
    (hQ : ∀ l' H', PermOn a b l l' → SortedOn a b l' → Fr sb .nils H H' → H'.get sb = .cells (scells l') .own → Q (.ret (.tup [])) H') :
    wpf ⟨bt.get, o⟩ F_slices_insertionSortCmpFunc_runes_span [slV sb n, .int .i64 a, .int .i64 b, cmpV] H Q := by
  rw [fn_slices_insertionSortCmpFunc_runes_span (ho _ _ _ (by decide))]
  simp only [bd_slices_insertionSortCmpFunc_runes_span, go_sem, zA, zB, zC, reduceIte, zD, zE, zF, zG, zH, zI, reduceCtorEq, zJ, zK, zL, zM, zN, zO, zP, wsucc (show a ≤ 1000000000 by omega)]
  refine ins_loop1 ho hn hb _ (a + 1) l H (Nat.le_refl _) (by omega) hl hg (fun p q g1 g2 g3 => by omega) fun l' H' i' x t k1 k2 k3 k4 => ?_
  simp only [go_sem, zA, zB, zC, reduceIte, zD, zE, zF, zG, zH, zI, reduceCtorEq, zJ, zK, zL, zM, zN, zO, zP]
  exact hQ l' H' k1 k2 k3 k4
end
/- Sorting of few spans: what slices.SortFunc comes to. -/
set_option maxRecDepth 8000
theorem wu8 {x : Int} (h0 : 0 ≤ x) (h1 : x ≤ 255) : IntKind.u8.wrap x = x := by
  simp only [IntKind.wrap]
  simp [IntKind.signed, IntKind.bits]
  omega
theorem wu64' {x : Int} (h0 : 0 ≤ x) (h1 : x ≤ 1000000000) : IntKind.u64.wrap x = x := by
  simp only [IntKind.wrap]
  simp [IntKind.signed, IntKind.bits]
  omega
section
variable {o : CallF} (ho : OvOnly o)
include ho
theorem b_Len {n : Nat} (hn : n < 65536) {H : Heap} {Q : End → Heap → Prop} (h : ∀ k : Nat, k ≤ 300 → Q (.ret (.int .i64 (k : Int))) H) : wpf ⟨bt.get, o⟩ F_bits_Len [.int .u64 (n : Int)] H Q := by
  rw [fn_bits_Len (ho _ _ _ (by decide))]
  simp only [bd_bits_Len, go_sem, zA, zB, zC, reduceIte, zD, zE, zF, zG, zH, zI, reduceCtorEq, zJ, zK, zL, zM, zN, zO, zP]
  rw [fn_bits_Len64 (ho _ _ _ (by decide))]
  have c1 : ¬ ((4294967296 : Int) ≤ (n : Int)) := by omega
  have c2 : ¬ ((65536 : Int) ≤ (n : Int)) := by omega
  by_cases c : 256 ≤ n
  · have c3 : ((256 : Int) ≤ (n : Int)) := by omega
    have e1 : shiftA .shr .u64 (n : Int) 8 = some (.int .u64 ((n / 256 : Nat) : Int)) := by
      show some (AV.int .u64 ((n : Int).fdiv (2 ^ (min (8 : Int).toNat 64)))) = _
      have : (2 : Int) ^ (min (8 : Int).toNat 64) = 256 := by decide
      rw [this, Int.fdiv_eq_ediv_of_nonneg _ (by omega)]; rfl
    have e2 : IntKind.u8.wrap ((n / 256 : Nat) : Int) = ((n / 256 : Nat) : Int) := wu8 (by omega) (by omega)
    simp only [bd_bits_Len64, go_sem, zA, zB, zC, reduceIte, zD, zE, zF, zG, zH, zI, reduceCtorEq, zJ, zK, zL, zM, zN, zO, zP, c1, c2, c3, e1, e2]
    split
    · rename_i b hb
      have hb2 : b.toNat < 256 := b.toNat_lt
      have e3 : IntKind.i64.wrap (b.toNat : Int) = (b.toNat : Int) := wi64 (by omega) (by omega)
      have e5 : IntKind.i64.wrap (8 + (b.toNat : Int)) = ((8 + b.toNat : Nat) : Int) := by rw [wi64 (by omega) (by omega)]; rfl
      have e4 : IntKind.i64.wrap 8 = 8 := by rfl
      simp only [go_sem, zA, zB, zC, reduceIte, zD, zE, zF, zG, zH, zI, reduceCtorEq, zJ, zK, zL, zM, zN, zO, zP, e3, e4, e5]
      exact h _ (by omega)
    · rename_i hb
      have h2 : 256 ≤ n / 256 := List.getElem?_eq_none_iff.1 hb
      omega
  · have c3 : ¬ ((256 : Int) ≤ (n : Int)) := by omega
    have e2 : IntKind.u8.wrap (n : Int) = (n : Int) := wu8 (by omega) (by omega)
    simp only [bd_bits_Len64, go_sem, zA, zB, zC, reduceIte, zD, zE, zF, zG, zH, zI, reduceCtorEq, zJ, zK, zL, zM, zN, zO, zP, c1, c2, c3, e2]
    split
    · rename_i b hb
      have hb2 : b.toNat < 256 := b.toNat_lt
      have e3 : IntKind.i64.wrap (b.toNat : Int) = (b.toNat : Int) := wi64 (by omega) (by omega)
      simp only [go_sem, zA, zB, zC, reduceIte, zD, zE, zF, zG, zH, zI, reduceCtorEq, zJ, zK, zL, zM, zN, zO, zP, e3]
      exact h _ (by omega)
    · rename_i hb
      have h2 : 256 ≤ n := List.getElem?_eq_none_iff.1 hb
      omega
theorem p_small {n sb k : Nat} (hn : n ≤ 12) {l : List S} {H : Heap} (hl : l.length = n) (hg : H.get sb = .cells (scells l) .own) {Q : End → Heap → Prop}
    (hQ : ∀ l' H', PermOn 0 n l l' → SortedOn 0 n l' → Fr sb .nils H H' → H'.get sb = .cells (scells l') .own → Q (.ret (.tup [])) H') :
    wpf ⟨bt.get, o⟩ F_slices_pdqsortCmpFunc_runes_span [slV sb n, .int .i64 0, .int .i64 n, .int .i64 (k : Int), cmpV] H Q := by
  rw [fn_slices_pdqsortCmpFunc_runes_span (ho _ _ _ (by decide))]
  simp only [bd_slices_pdqsortCmpFunc_runes_span, go_sem, zA, zB, zC, reduceIte, zD, zE, zF, zG, zH, zI, reduceCtorEq, zJ, zK, zL, zM, zN, zO, zP]
  rw [wpl_step]
  have e1 : IntKind.i64.wrap ((n : Int) - 0) = (n : Int) := by rw [Int.sub_zero]; exact wi64 (by omega) (by omega)
  have e2 : (n : Int) ≤ 12 := by omega
  simp only [lb_slices_pdqsortCmpFunc_runes_span_0, go_sem, zA, zB, zC, reduceIte, zD, zE, zF, zG, zH, zI, reduceCtorEq, zJ, zK, zL, zM, zN, zO, zP, e1, e2]
  refine ins_sort ho (a := 0) (by omega) (Nat.le_refl _) hl hg (by omega) fun l' H' k1 k2 k3 k4 => ?_
  simp only [go_sem, zA, zB, zC, reduceIte, zD, zE, zF, zG, zH, zI, reduceCtorEq, zJ, zK, zL, zM, zN, zO, zP]
  exact hQ l' H' k1 k2 k3 k4
theorem s_Sort12 {n sb : Nat} (hn : n ≤ 12) {l : List S} {H : Heap} (hl : l.length = n) (hg : H.get sb = .cells (scells l) .own) {Q : End → Heap → Prop}
    (hQ : ∀ l' H', PermOn 0 n l l' → SortedOn 0 n l' → Fr sb .nils H H' → H'.get sb = .cells (scells l') .own → Q (.ret (.tup [])) H') :
    wpf ⟨bt.get, o⟩ F_slices_SortFunc_runes_span_runes_span [slV sb n, cmpV] H Q := by
  rw [fn_slices_SortFunc_runes_span_runes_span (ho _ _ _ (by decide))]
  have e1 : IntKind.u64.wrap (n : Int) = (n : Int) := wu64' (by omega) (by omega)
  simp only [bd_slices_SortFunc_runes_span_runes_span, go_sem, zA, zB, zC, reduceIte, zD, zE, zF, zG, zH, zI, reduceCtorEq, zJ, zK, zL, zM, zN, zO, zP, e1]
  refine b_Len ho (by omega) fun k hk => ?_
  simp only [go_sem, zA, zB, zC, reduceIte, zD, zE, zF, zG, zH, zI, reduceCtorEq, zJ, zK, zL, zM, zN, zO, zP]
  refine p_small ho hn hl hg fun l' H' k1 k2 k3 k4 => ?_
  simp only [go_sem, zA, zB, zC, reduceIte, zD, zE, zF, zG, zH, zI, reduceCtorEq, zJ, zK, zL, zM, zN, zO, zP]
  exact hQ l' H' k1 k2 k3 k4
theorem s_Sort0 {H : Heap} {Q : End → Heap → Prop} (hQ : Q (.ret (.tup [])) H) :
    wpf ⟨bt.get, o⟩ F_slices_SortFunc_runes_span_runes_span [.nils, cmpV] H Q := by
  rw [fn_slices_SortFunc_runes_span_runes_span (ho _ _ _ (by decide))]
  have e1 : IntKind.u64.wrap 0 = ((0 : Nat) : Int) := wu64' (by omega) (by omega)
  simp only [bd_slices_SortFunc_runes_span_runes_span, go_sem, zA, zB, zC, reduceIte, zD, zE, zF, zG, zH, zI, reduceCtorEq, zJ, zK, zL, zM, zN, zO, zP, e1]
  refine b_Len ho (n := 0) (by omega) fun k hk => ?_
  simp only [go_sem, zA, zB, zC, reduceIte, zD, zE, zF, zG, zH, zI, reduceCtorEq, zJ, zK, zL, zM, zN, zO, zP]
  rw [fn_slices_pdqsortCmpFunc_runes_span (ho _ _ _ (by decide))]
  simp only [bd_slices_pdqsortCmpFunc_runes_span, go_sem, zA, zB, zC, reduceIte, zD, zE, zF, zG, zH, zI, reduceCtorEq, zJ, zK, zL, zM, zN, zO, zP]
  rw [wpl_step]
  have e2 : IntKind.i64.wrap 0 = 0 := by rfl
  simp only [lb_slices_pdqsortCmpFunc_runes_span_0, go_sem, zA, zB, zC, reduceIte, zD, zE, zF, zG, zH, zI, reduceCtorEq, zJ, zK, zL, zM, zN, zO, zP, e2]
  rw [fn_slices_insertionSortCmpFunc_runes_span (ho _ _ _ (by decide))]
  have e4 : IntKind.i64.wrap (0 + 1) = 1 := by rfl
  have e5 : IntKind.i64.wrap 1 = 1 := by rfl
  simp only [bd_slices_insertionSortCmpFunc_runes_span, go_sem, zA, zB, zC, reduceIte, zD, zE, zF, zG, zH, zI, reduceCtorEq, zJ, zK, zL, zM, zN, zO, zP, e4, e5]
  rw [wpl_step]
  simp only [lb_slices_insertionSortCmpFunc_runes_span_1, go_sem, zA, zB, zC, reduceIte, zD, zE, zF, zG, zH, zI, reduceCtorEq, zJ, zK, zL, zM, zN, zO, zP]
  exact hQ
end
/- Parts of code. -/
def seqL : CCode → CCode
  | .seq a _ => a
  | c => c
def blkB : CCode → CCode
  | .block _ _ b => b
  | c => c
end Go.Ev
