/- Several texts of this claim, joined. -/
import Derived.Test.YtfkdecamhepibaaGreatDoorT24
import Derived.Test.YtfkdecamhepibaaGreatDoorT28
set_option linter.unusedSimpArgs false
set_option linter.unusedVariables false

/- How long a list of spans may be that is sorted: any (up to fifty thousand). -/
namespace Go.Ev
open Go
def capN : Nat := 50000
theorem capN_le : capN ≤ 50000 := Nat.le_refl _
theorem capN_12 : 12 ≤ capN := by decide
section
variable {o : CallF} (ho : OvOnly o)
include ho
theorem s_SortC {n sb : Nat} (hn : n ≤ capN) (h0 : 0 < n) {l : List S} {H : Heap} (hl : l.length = n) (hg : H.get sb = .cells (scells l) .own) {Q : End → Heap → Prop}
    (hQ : ∀ l' H', PermOn 0 n l l' → SortedOn 0 n l' → Fr sb .nils H H' → H'.get sb = .cells (scells l') .own → Q (.ret (.tup [])) H') :
    wpf ⟨bt.get, o⟩ F_slices_SortFunc_runes_span_runes_span [slV sb n, cmpV] H Q := s_Sort ho (by have := capN_le; omega) h0 hl hg hQ
end
/- Spans that are joined: the plain law. -/
structure R where
  lo : Int
  hi : Int
  deriving DecidableEq
def R.cells (x : R) : List AV := [.int .i32 x.lo, .int .i32 x.hi]
def rcells (l : List R) : List AV := l.flatMap R.cells
theorem rcells_app (l m : List R) : rcells (l ++ m) = rcells l ++ rcells m := List.flatMap_append
theorem rcells_len : ∀ l : List R, (rcells l).length = l.length * 2
  | [] => rfl
  | w :: l => by rw [rcells, List.flatMap_cons, List.length_append, ← rcells, rcells_len l, R.cells]; simp only [List.length_cons, List.length_nil]; omega
theorem rcells_at : ∀ {l : List R} {i : Nat} {x : R}, l[i]? = some x → List.take 2 (List.drop (i * 2) (rcells l)) = x.cells ∧ i * 2 + 2 ≤ (rcells l).length
  | y :: l, 0, x, h => by
    simp only [List.getElem?_cons_zero, Option.some.injEq] at h; subst h
    constructor
    · rfl
    · rw [rcells_len, List.length_cons]; omega
  | y :: l, i + 1, x, h => by
    have := rcells_at (l := l) (i := i) (x := x) (by simpa using h)
    constructor
    · rw [rcells, List.flatMap_cons, ← rcells, show (i + 1) * 2 = 2 + i * 2 by omega, ← List.drop_drop]
      exact this.1
    · rw [rcells_len, List.length_cons]; have h2 := this.2; rw [rcells_len] at h2; omega
theorem rc_one : ∀ l : List R, (rcells l).all AV.one = true
  | [] => rfl
  | x :: l => by rw [rcells, List.flatMap_cons, List.all_append, ← rcells, rc_one l]; rfl
/-- A range as a span, if it has runes. -/
def preS (r : R) : Option S := if r.lo ≤ r.hi ∧ numN r.lo < behN r.hi then some (numN r.lo, behN r.hi) else none
def preL (l : List R) : List S := l.filterMap preS
/-- Spans that rise are joined. -/
def mGo (c : S) : List S → List S
  | [] => [c]
  | x :: l => if x.1 ≤ c.2 then mGo (c.1, max c.2 x.2) l else c :: mGo x l
def mF : List S → List S
  | [] => []
  | x :: l => mGo x l
/-- A number lies in one of them. -/
def inS (l : List S) (n : Nat) : Prop := ∃ x ∈ l, x.1 ≤ n ∧ n < x.2
/-- Apart from one another, rising, none empty; the first begins at `k` or behind it. -/
def apart : Nat → List S → Prop
  | _, [] => True
  | k, x :: l => k ≤ x.1 ∧ x.1 < x.2 ∧ apart (x.2 + 1) l
theorem apart_ge : ∀ {l : List S} {k n : Nat}, apart k l → inS l n → k ≤ n
  | [], _, _, _, ⟨x, hx, _⟩ => by cases hx
  | y :: l, k, n, ⟨h1, h2, h3⟩, ⟨x, hx, g1, g2⟩ => by
    rcases List.mem_cons.1 hx with rfl | hx
    · omega
    · have := apart_ge h3 ⟨x, hx, g1, g2⟩; omega
theorem inS_cons {x : S} {l : List S} {n : Nat} : inS (x :: l) n ↔ (x.1 ≤ n ∧ n < x.2) ∨ inS l n := by
  unfold inS
  constructor
  · rintro ⟨y, hy, h⟩
    rcases List.mem_cons.1 hy with rfl | hy
    · exact .inl h
    · exact .inr ⟨y, hy, h⟩
  · rintro (h | ⟨y, hy, h⟩)
    · exact ⟨x, by simp, h⟩
    · exact ⟨y, by simp [hy], h⟩
theorem mGo_inS : ∀ (l : List S) (c : S) (n : Nat), c.1 < c.2 → (∀ x ∈ l, c.1 ≤ x.1 ∧ x.1 < x.2) → l.Pairwise (fun x y => x.1 ≤ y.1) → (inS (mGo c l) n ↔ inS (c :: l) n)
  | [], c, n, _, _, _ => Iff.rfl
  | x :: l, c, n, hc, hl, hp => by
    have hx := hl x (by simp)
    obtain ⟨p1, p2⟩ := List.pairwise_cons.1 hp
    simp only [mGo]
    split
    · rename_i hle
      rw [mGo_inS l _ n (by simp only; omega) (fun y hy => by have := hl y (by simp [hy]); exact this) p2]
      simp only [inS_cons]
      have key : (c.1 ≤ n ∧ n < max c.2 x.2) ↔ (c.1 ≤ n ∧ n < c.2) ∨ (x.1 ≤ n ∧ n < x.2) := by omega
      rw [key, or_assoc]
    · rename_i hle
      rw [inS_cons, inS_cons, mGo_inS l x n hx.2 (fun y hy => ⟨p1 y hy, (hl y (by simp [hy])).2⟩) p2]
theorem mGo_apart : ∀ (l : List S) (c : S) (k : Nat), k ≤ c.1 → c.1 < c.2 → (∀ x ∈ l, c.1 ≤ x.1 ∧ x.1 < x.2) → l.Pairwise (fun x y => x.1 ≤ y.1) → apart k (mGo c l)
  | [], c, k, hk, hc, _, _ => ⟨hk, hc, trivial⟩
  | x :: l, c, k, hk, hc, hl, hp => by
    have hx := hl x (by simp)
    obtain ⟨p1, p2⟩ := List.pairwise_cons.1 hp
    simp only [mGo]
    split
    · exact mGo_apart l _ k hk (by simp only; omega) (fun y hy => hl y (by simp [hy])) p2
    · exact ⟨hk, hc, mGo_apart l x _ (by omega) hx.2 (fun y hy => ⟨p1 y hy, (hl y (by simp [hy])).2⟩) p2⟩
theorem apart_eq : ∀ {l m : List S} {k j : Nat}, apart k l → apart j m → (∀ n, inS l n ↔ inS m n) → l = m
  | [], [], _, _, _, _, _ => rfl
  | [], y :: m, k, j, _, ⟨h1, h2, h3⟩, h => by
    obtain ⟨x, hx, _⟩ := (h y.1).2 ⟨y, by simp, Nat.le_refl _, h2⟩
    cases hx
  | x :: l, [], k, j, ⟨h1, h2, h3⟩, _, h => by
    obtain ⟨y, hy, _⟩ := (h x.1).1 ⟨x, by simp, Nat.le_refl _, h2⟩
    cases hy
  | x :: l, y :: m, k, j, ⟨h1, h2, h3⟩, ⟨g1, g2, g3⟩, h => by
    have hl : ∀ n, inS l n → x.2 + 1 ≤ n := fun n hn => apart_ge h3 hn
    have hm : ∀ n, inS m n → y.2 + 1 ≤ n := fun n hn => apart_ge g3 hn
    have h' : ∀ n, ((x.1 ≤ n ∧ n < x.2) ∨ inS l n) ↔ ((y.1 ≤ n ∧ n < y.2) ∨ inS m n) := fun n => by
      rw [← inS_cons, ← inS_cons]; exact h n
    have e1 : x.1 = y.1 := by
      have a := (h' x.1).1 (.inl ⟨Nat.le_refl _, h2⟩)
      have b := (h' y.1).2 (.inl ⟨Nat.le_refl _, g2⟩)
      rcases a with a | a
      · rcases b with b | b
        · omega
        · have := hl _ b; omega
      · have := hm _ a
        rcases b with b | b
        · omega
        · have := hl _ b; omega
    have e2 : x.2 = y.2 := by
      rcases Nat.lt_trichotomy x.2 y.2 with hlt | heq | hgt
      · have := (h' x.2).2 (.inl ⟨by omega, hlt⟩)
        rcases this with a | a
        · omega
        · have := hl _ a; omega
      · exact heq
      · have := (h' y.2).1 (.inl ⟨by omega, hgt⟩)
        rcases this with a | a
        · omega
        · have := hm _ a; omega
    have e3 : l = m := by
      refine apart_eq h3 g3 fun n => ⟨fun hn => ?_, fun hn => ?_⟩
      · have := hl n hn
        rcases (h' n).1 (.inr hn) with a | a
        · omega
        · exact a
      · have := hm n hn
        rcases (h' n).2 (.inr hn) with a | a
        · omega
        · exact a
    rw [e3, Prod.ext e1 e2]
/-- Rising spans, none empty: what becomes of them, joined. -/
theorem mF_spec {l : List S} (hl : ∀ x ∈ l, x.1 < x.2) (hp : l.Pairwise (fun x y => x.1 ≤ y.1)) : apart 0 (mF l) ∧ ∀ n, inS (mF l) n ↔ inS l n := by
  cases l with
  | nil => exact ⟨trivial, fun _ => Iff.rfl⟩
  | cons x l =>
    obtain ⟨p1, p2⟩ := List.pairwise_cons.1 hp
    have h : ∀ y ∈ l, x.1 ≤ y.1 ∧ y.1 < y.2 := fun y hy => ⟨p1 y hy, hl y (by simp [hy])⟩
    exact ⟨mGo_apart l x 0 (Nat.zero_le _) (hl x (by simp)) h p2, fun n => mGo_inS l x n (hl x (by simp)) h p2⟩
/-- Sorted by insertion. -/
def insS (x : S) : List S → List S
  | [] => [x]
  | y :: l => if x.1 ≤ y.1 then x :: y :: l else y :: insS x l
def srtS : List S → List S
  | [] => []
  | x :: l => insS x (srtS l)
theorem insS_mem {x y : S} : ∀ {l : List S}, y ∈ insS x l ↔ y = x ∨ y ∈ l
  | [] => by simp [insS]
  | z :: l => by
    simp only [insS]
    split
    · simp
    · simp only [List.mem_cons, insS_mem (l := l)]
      constructor
      · rintro (h | h | h)
        · exact .inr (.inl h)
        · exact .inl h
        · exact .inr (.inr h)
      · rintro (h | h | h)
        · exact .inr (.inl h)
        · exact .inl h
        · exact .inr (.inr h)
theorem insS_sorted {x : S} : ∀ {l : List S}, l.Pairwise (fun x y => x.1 ≤ y.1) → (insS x l).Pairwise (fun x y => x.1 ≤ y.1)
  | [], _ => by simp [insS]
  | z :: l, h => by
    obtain ⟨p1, p2⟩ := List.pairwise_cons.1 h
    simp only [insS]
    split
    · rename_i hle
      refine List.pairwise_cons.2 ⟨fun y hy => ?_, h⟩
      rcases List.mem_cons.1 hy with rfl | hy
      · exact hle
      · exact Nat.le_trans hle (p1 y hy)
    · rename_i hle
      refine List.pairwise_cons.2 ⟨fun y hy => ?_, insS_sorted p2⟩
      rcases insS_mem.1 hy with rfl | hy
      · omega
      · exact p1 y hy
theorem srtS_mem {y : S} : ∀ {l : List S}, y ∈ srtS l ↔ y ∈ l
  | [] => Iff.rfl
  | x :: l => by simp only [srtS, insS_mem, srtS_mem (l := l), List.mem_cons]
theorem srtS_sorted : ∀ l : List S, (srtS l).Pairwise (fun x y => x.1 ≤ y.1)
  | [] => List.Pairwise.nil
  | x :: l => insS_sorted (srtS_sorted l)
/-- The spans of ranges, apart. -/
def spansF (l : List R) : List S := mF (srtS (preL l))
theorem preL_ok {l : List R} : ∀ x ∈ preL l, x.1 < x.2 := by
  intro x hx
  obtain ⟨r, _, h⟩ := List.mem_filterMap.1 hx
  unfold preS at h
  split at h
  · rename_i hc; injection h with h; subst h; exact hc.2
  · cases h
theorem preL_bd {l : List R} : ∀ x ∈ preL l, x.1 ≤ 1112065 ∧ x.2 ≤ 1112065 := by
  intro x hx
  obtain ⟨r, _, h⟩ := List.mem_filterMap.1 hx
  unfold preS at h
  split at h
  · injection h with h; subst h
    exact ⟨by have := numN_le r.lo; simp only; omega, behN_le _⟩
  · cases h
theorem spansF_of {l : List R} {m : List S} (hm : ∀ x, x ∈ m ↔ x ∈ preL l) (hp : m.Pairwise (fun x y => x.1 ≤ y.1)) : mF m = spansF l := by
  obtain ⟨a1, a2⟩ := mF_spec (l := m) (fun x hx => preL_ok x ((hm x).1 hx)) hp
  obtain ⟨b1, b2⟩ := mF_spec (l := srtS (preL l)) (fun x hx => preL_ok x (srtS_mem.1 hx)) (srtS_sorted _)
  refine apart_eq a1 b1 fun n => ?_
  show _ ↔ inS (mF (srtS (preL l))) n
  rw [a2, b2]
  unfold inS
  constructor
  · rintro ⟨x, hx, h⟩; exact ⟨x, srtS_mem.2 ((hm x).1 hx), h⟩
  · rintro ⟨x, hx, h⟩; exact ⟨x, (hm x).2 (srtS_mem.1 hx), h⟩
/-- What sorting leaves: the same elements, rising. -/
theorem sorted_pair {l : List S} (h : SortedOn 0 l.length l) : l.Pairwise (fun x y => x.1 ≤ y.1) := by
  rw [List.pairwise_iff_getElem]
  intro i j hi hj hij
  have := h i j (Nat.zero_le _) hij hj
  rw [key_of (List.getElem?_eq_getElem hi), key_of (List.getElem?_eq_getElem hj)] at this
  exact this
theorem perm_mem {l l' : List S} (h : PermOn 0 l.length l l') (x : S) : x ∈ l' ↔ x ∈ l := by
  have e : ∀ m : List S, m.length = l.length → (x ∈ m ↔ ∃ p, 0 ≤ p ∧ p < l.length ∧ m[p]? = some x) := by
    intro m hm
    rw [List.mem_iff_getElem?]
    constructor
    · rintro ⟨p, hp⟩; exact ⟨p, Nat.zero_le _, by rw [← hm]; exact (List.getElem?_eq_some_iff.1 hp).1, hp⟩
    · rintro ⟨p, _, _, hp⟩; exact ⟨p, hp⟩
  rw [e l' h.len, e l rfl]
  exact h.mem x
def rngF (l : List S) : List R := l.map fun x => ⟨valN x.1, valN (x.2 - 1)⟩
/-- The one list of a set. -/
def normF (l : List R) : List R := rngF (spansF l)
/-- What lies between spans. -/
def gapsF : Nat → List S → List S
  | k, [] => if k < 1112064 then [(k, 1112064)] else []
  | k, x :: l => if k < x.1 then (k, x.1) :: gapsF x.2 l else gapsF x.2 l
def notF (l : List R) : List R := rngF (gapsF 0 (spansF l))
theorem mGo_bd {B : Nat} : ∀ {l : List S} {c : S}, c.1 ≤ B → c.2 ≤ B → (∀ x ∈ l, x.1 ≤ B ∧ x.2 ≤ B) → (mGo c l).length ≤ l.length + 1 ∧ ∀ x ∈ mGo c l, x.1 ≤ B ∧ x.2 ≤ B
  | [], c, h1, h2, _ => ⟨Nat.le_refl _, fun x hx => by simp [mGo] at hx; rw [hx]; exact ⟨h1, h2⟩⟩
  | y :: l, c, h1, h2, h => by
    have hy := h y (by simp)
    simp only [mGo]
    split
    · obtain ⟨g1, g2⟩ := mGo_bd (l := l) (c := (c.1, max c.2 y.2)) h1 (by simp only; omega) (fun x hx => h x (by simp [hx]))
      exact ⟨by simp only [List.length_cons]; omega, g2⟩
    · obtain ⟨g1, g2⟩ := mGo_bd (l := l) (c := y) hy.1 hy.2 (fun x hx => h x (by simp [hx]))
      refine ⟨by simp only [List.length_cons]; omega, fun x hx => ?_⟩
      rcases List.mem_cons.1 hx with rfl | hx
      · exact ⟨h1, h2⟩
      · exact g2 x hx
theorem insS_len {x : S} : ∀ {l : List S}, (insS x l).length = l.length + 1
  | [] => rfl
  | y :: l => by
    simp only [insS]
    split
    · rfl
    · simp only [List.length_cons, insS_len (l := l)]
theorem srtS_len : ∀ l : List S, (srtS l).length = l.length
  | [] => rfl
  | x :: l => by simp only [srtS, insS_len, srtS_len l, List.length_cons]
theorem spansF_bd (l : List R) : (spansF l).length ≤ l.length ∧ ∀ x ∈ spansF l, x.1 ≤ 1112065 ∧ x.2 ≤ 1112065 := by
  have h0 : (preL l).length ≤ l.length := List.length_filterMap_le _ _
  unfold spansF
  have h1 := srtS_len (preL l)
  have h2 : ∀ x ∈ srtS (preL l), x.1 ≤ 1112065 ∧ x.2 ≤ 1112065 := fun x hx => preL_bd x (srtS_mem.1 hx)
  cases h : srtS (preL l) with
  | nil => exact ⟨Nat.zero_le _, fun x hx => by cases hx⟩
  | cons y m =>
    rw [h] at h1 h2
    obtain ⟨g1, g2⟩ := mGo_bd (l := m) (c := y) (h2 y (by simp)).1 (h2 y (by simp)).2 (fun x hx => h2 x (by simp [hx]))
    simp only [List.length_cons] at h1
    exact ⟨by simp only [mF]; omega, g2⟩
/- Package runes: what spans and ranges come to. -/
open Go.Ev renaming seqK_normal → zA, blockK_normal → zB, blockK_exit → zC
open Nat renaming reduceEqDiff → zD, reduceAdd → zE, reduceSub → zF, reduceMul → zG, reduceLeDiff → zH, reduceLT → zI
open Int renaming reduceToNat → zJ, reduceLT → zK, reduceLE → zL, reduceEq → zM, reduceAdd → zN, reduceSub → zO, reduceMul → zP
set_option maxRecDepth 8000
/-- A slice that can be read: its elements' cells, in a block. -/
structure Rd (H : Heap) (sz : Nat) (cs : List AV) (n : Nat) (v : AV) (b : Nat) : Prop where
  len : lenI v = some (n : Int)
  pos : 0 < n → (∃ u, H.get b = .cells cs u) ∧ (∀ i : Nat, i < n → elA sz v (.int .i64 i) = some (.ptr b (i * sz))) ∧ ((∃ c, v = .slice b 0 n c) ∨ v = .osl sz b 0 n)
  zero : n = 0 → v = .nils ∨ (∃ b c, v = .slice b 0 0 c) ∨ ∃ b, v = .osl sz b 0 0
  sz : cs.length = n * sz
theorem Rd.nil {H sz b} : Rd H sz [] 0 .nils b := ⟨rfl, fun h => absurd h (by omega), fun _ => .inl rfl, by simp⟩
theorem Rd.osl {H sz b n cs} {u : Use} (h : H.get b = .cells cs u) (hl : cs.length = n * sz) : Rd H sz cs n (.osl sz b 0 n) b :=
  ⟨rfl, fun _ => ⟨⟨u, h⟩, fun i hi => by
    have h1 : (i : Int) < (n : Int) := by omega
    simp only [elA, h1, Int.natCast_nonneg, and_self, if_true, Int.toNat_natCast, Nat.zero_add], .inr rfl⟩, fun h => .inr (.inr ⟨b, by rw [h]⟩), hl⟩
theorem Rd.slice {H sz b n cs c} {u : Use} (h : H.get b = .cells cs u) (hl : cs.length = n * sz) : Rd H sz cs n (.slice b 0 n c) b :=
  ⟨rfl, fun _ => ⟨⟨u, h⟩, fun i hi => by
    have h1 : (i : Int) < (n : Int) := by omega
    simp only [elA, h1, Int.natCast_nonneg, and_self, if_true, Int.toNat_natCast, Nat.zero_add], .inl ⟨c, rfl⟩⟩, fun h => .inr (.inl ⟨b, c, by rw [h]⟩), hl⟩
theorem Rd.keep {H H' sz cs n v b} (h : Rd H sz cs n v b) (k : 0 < n → H'.get b = H.get b) : Rd H' sz cs n v b := ⟨h.len, fun hn => by rw [k hn]; exact h.pos hn, h.zero, h.sz⟩
theorem Rd.lt {H sz cs n v b} (h : Rd H sz cs n v b) (hn : 0 < n) : b < H.size := by
  obtain ⟨⟨u, hu⟩, _⟩ := h.pos hn
  exact Heap.lt_of_get (by rw [hu]; simp)
theorem Rd.ext {H H' sz cs n v b} (h : Rd H sz cs n v b) (e : Ext H.size H H') : Rd H' sz cs n v b := h.keep fun hn => e.2 b (h.lt hn)
theorem Rd.read {H sz cs n v b} (h : Rd H sz cs n v b) : readSl H sz v = some (n, cs) := by
  have hs := h.sz
  by_cases hn : n = 0
  · subst hn
    have : cs = [] := List.eq_nil_of_length_eq_zero (by omega)
    subst this
    rcases h.zero rfl with rfl | ⟨b, c, rfl⟩ | ⟨b, rfl⟩
    · rfl
    · rfl
    · simp [readSl]
  · obtain ⟨⟨u, hu⟩, _, hv⟩ := h.pos (by omega)
    have e : rd cs 0 (n * sz) = cs := by rw [rd, List.drop_zero, ← hs, List.take_length]
    rcases hv with ⟨c, rfl⟩ | rfl
    · simp only [readSl, if_neg hn, hu, Nat.zero_add, ← hs, Nat.le_refl, if_true]
      rw [hs, e]
    · simp only [readSl, if_neg hn, hu, Nat.zero_add, ← hs, Nat.le_refl, if_true]
      rw [hs, e]
theorem Sl.rd {n0 H sz cs n v} (h : Sl n0 H sz cs n v) : ∃ b, Rd H sz cs n v b ∧ (0 < n → n0 ≤ b ∧ v = .osl sz b 0 n ∧ H.get b = .cells cs .own) := by
  rcases h with ⟨rfl, rfl, rfl⟩ | ⟨b, rfl, hb, hg, hl, hp⟩
  · exact ⟨0, Rd.nil, fun h => absurd h (by omega)⟩
  · exact ⟨b, Rd.osl hg hl, fun _ => ⟨hb, rfl, hg⟩⟩
theorem list_at {α : Type} {l : List α} {i : Nat} {c : α} {r : List α} (h : l.drop i = c :: r) : l[i]? = some c ∧ i < l.length ∧ l.drop (i + 1) = r := by
  have h0 : l[i]? = some c := by
    have := congrArg (fun l => l[0]?) h
    simpa using this
  refine ⟨h0, (List.getElem?_eq_some_iff.1 h0).1, ?_⟩
  rw [← List.drop_drop, h]; rfl
section
variable {o : CallF} (ho : OvOnly o)
include ho
theorem sp_loop0 {l : List R} {v : AV} {rb : Nat} (hl : l.length ≤ 1000000) (hr : ∀ r ∈ l, I32 r.lo ∧ I32 r.hi) {n0 : Nat} (hrb : 0 < l.length → rb < n0) {H0 : Heap} {Q : Ctl → St → Prop} : ∀ (r : List R) (i : Nat) (acc : List S) (sv : AV) (H : Heap), l.drop i = r → i ≤ l.length → acc.length ≤ i → Rd H 2 (rcells l) l.length v rb → Ext n0 H0 H → n0 ≤ H.size → Sl n0 H 2 (scells acc) acc.length sv →
    (∀ (H' : Heap) (sv' : AV) x1 x2 x3 x4 t, Ext n0 H0 H' → Sl n0 H' 2 (scells (acc ++ preL r)) (acc ++ preL r).length sv' → Q (.exit 0) { p := [(3, sv'), (11, x1), (12, x2), (13, x3), (14, x4)], t := t, H := H', d := [], u := .norm }) →
    wpl ⟨bt.get, o⟩ [3, 11, 12, 13] lb_runes_spans_0 { p := [(3, sv), (11, v), (12, .int .i64 l.length), (13, .int .i64 i)], t := [], H := H, d := [], u := .norm } Q
  | [], i, acc, sv, H, hd, hi, ha, hR, hx, hn, hS, hQ => by
    have : l.length ≤ i := List.drop_eq_nil_iff.1 hd
    rw [wpl_step]
    have h1 : ¬((i : Int) < (l.length : Int)) := by omega
    simp only [lb_runes_spans_0, go_sem, zA, zB, zC, reduceIte, zD, zE, zF, zG, zH, zI, reduceCtorEq, zJ, zK, zL, zM, zN, zO, zP, h1]
    exact hQ H sv _ _ _ _ _ hx (by simpa [preL] using hS)
  | c :: r, i, acc, sv, H, hd, hi, ha, hR, hx, hn, hS, hQ => by
    obtain ⟨h0, h1, h2⟩ := list_at hd
    obtain ⟨⟨u, hg⟩, hel, _⟩ := hR.pos (by omega)
    have el := hel i h1
    have hlt : rb < H.size := Heap.lt_of_get (by rw [hg]; simp)
    obtain ⟨c1, c2⟩ := rcells_at h0
    obtain ⟨r1, r2⟩ := hr c (List.mem_of_getElem? h0)
    rw [wpl_step]
    have h1' : ((i : Int) < (l.length : Int)) := by omega
    have e1 : ∀ x, ((H.push (.cells [.int .i32 c.lo, .int .i32 c.hi] .own)).push x).get H.size = .cells [.int .i32 c.lo, .int .i32 c.hi] .own := fun x => by
      rw [Heap.get_push_lt (by rw [Heap.size_push]; omega), Heap.get_push_self]
    simp only [lb_runes_spans_0, go_sem, zA, zB, zC, reduceIte, zD, zE, zF, zG, zH, zI, reduceCtorEq, zJ, zK, zL, zM, zN, zO, zP, h1', el, hg, c1, c2, R.cells]
    refine r_number ho r1 ?_
    simp only [go_sem, zA, zB, zC, reduceIte, zD, zE, zF, zG, zH, zI, reduceCtorEq, zJ, zK, zL, zM, zN, zO, zP]
    refine r_behind ho r2 ?_
    simp only [go_sem, zA, zB, zC, reduceIte, zD, zE, zF, zG, zH, zI, reduceCtorEq, zJ, zK, zL, zM, zN, zO, zP, e1]
    have e3 : ∀ y, ((H.push (.cells [.int .i32 c.lo, .int .i32 c.hi] .own)).push y).get (H.size + 1) = y := fun y => Heap.get_push_eq (by rw [Heap.size_push])
    have iw := wsucc (show i ≤ 1000000000 by omega)
    generalize hG : (H.push (.cells [.int .i32 c.lo, .int .i32 c.hi] .own)).push (.cells [.int .i64 (numN c.lo : Int), .int .i64 (behN c.hi : Int)] .own) = G
    have g1 : G.get (H.size + 1) = .cells [.int .i64 (numN c.lo : Int), .int .i64 (behN c.hi : Int)] .own := by rw [← hG, e3]
    have hGx : Ext H.size H G := by rw [← hG]; exact (Ext.push (Nat.le_refl _)).trans (Ext.push (by rw [Heap.size_push]; omega))
    have gsz : G.size = H.size + 2 := by rw [← hG]; rfl
    have skip : preS c = none → wpl ⟨bt.get, o⟩ [3, 11, 12, 13] lb_runes_spans_0 { p := [(3, sv), (11, v), (12, .int .i64 l.length), (13, .int .i64 ((i + 1 : Nat) : Int))], t := [], H := G, d := [], u := .norm } Q := by
      intro hp
      refine sp_loop0 hl hr hrb r (i + 1) acc sv G h2 (by omega) (by omega) (hR.ext hGx) (hx.trans (hGx.le hn)) (by omega) (hS.ext hGx) fun H' sv' x1 x2 x3 x4 t k1 k2 => hQ H' sv' x1 x2 x3 x4 t k1 ?_
      have : preL (c :: r) = preL r := by simp [preL, hp]
      rw [this]; exact k2
    by_cases q1 : c.lo ≤ c.hi
    · by_cases q2 : numN c.lo < behN c.hi
      · have q2' : (numN c.lo : Int) < (behN c.hi : Int) := by omega
        have hp : preS c = some (numN c.lo, behN c.hi) := by simp only [preS, q1, q2, and_self, if_true]
        obtain ⟨ob, H', ea, hx1, hsl⟩ := append_spec (bytes := 16) (ys := [.int .i64 (numN c.lo : Int), .int .i64 (behN c.hi : Int)]) (k := 1) (Sl.push (x := .cells [.int .i64 (numN c.lo : Int), .int .i64 (behN c.hi : Int)] .own) (hS.ext hGx)) (by rw [Heap.size_push]; omega) (by omega) rfl (by omega) (by omega)
        simp only [go_sem, zA, zB, zC, reduceIte, zD, zE, zF, zG, zH, zI, reduceCtorEq, zJ, zK, zL, zM, zN, zO, zP, q1, q2', g1, ea, iw]
        have hx2 : Ext n0 H H' := ((hGx.le hn).trans (Ext.push (by omega))).trans hx1
        refine sp_loop0 hl hr hrb r (i + 1) (acc ++ [(numN c.lo, behN c.hi)]) _ H' h2 (by omega) (by simp; omega) (hR.keep fun h => hx2.2 rb (hrb h)) (hx.trans hx2) (Nat.le_trans hn hx2.1) (by rw [scells_app, List.length_append]; exact hsl) fun H' sv' x1 x2 x3 x4 t k1 k2 => hQ H' sv' x1 x2 x3 x4 t k1 ?_
        have : acc ++ preL (c :: r) = acc ++ [(numN c.lo, behN c.hi)] ++ preL r := by simp [preL, hp]
        rw [this]; exact k2
      · have q2' : ¬ (numN c.lo : Int) < (behN c.hi : Int) := by omega
        simp only [go_sem, zA, zB, zC, reduceIte, zD, zE, zF, zG, zH, zI, reduceCtorEq, zJ, zK, zL, zM, zN, zO, zP, q1, q2', g1, iw]
        exact skip (by simp only [preS, q1, q2, and_false, if_false])
    · simp only [go_sem, zA, zB, zC, reduceIte, zD, zE, zF, zG, zH, zI, reduceCtorEq, zJ, zK, zL, zM, zN, zO, zP, q1, iw]
      exact skip (by simp only [preS, q1, false_and, if_false])
omit ho in
theorem getLast_at (acc : List S) (c : S) : (acc ++ [c])[acc.length]? = some c := by simp
omit ho in
theorem set_last (acc : List S) (c d : S) : (acc ++ [c]).set acc.length d = acc ++ [d] := by simp
omit ho in
theorem sp_loop1 {l : List S} {v : AV} {rb : Nat} (hl : l.length ≤ 1000000) {n0 : Nat} (hrb : 0 < l.length → rb < n0) {H0 : Heap} {Q : Ctl → St → Prop} : ∀ (r : List S) (i : Nat) (acc : List S) (c : S) (sv : AV) (H : Heap), l.drop i = r → i ≤ l.length → acc.length + 1 ≤ i → Rd H 2 (scells l) l.length v rb → Ext n0 H0 H → n0 ≤ H.size → Sl n0 H 2 (scells (acc ++ [c])) (acc.length + 1) sv →
    (∀ (H' : Heap) (sv' : AV) x1 x2 x3 x4 t, Ext n0 H0 H' → Sl n0 H' 2 (scells (acc ++ mGo c r)) (acc ++ mGo c r).length sv' → Q (.exit 2) { p := [(7, sv'), (43, x1), (44, x2), (45, x3), (46, x4)], t := t, H := H', d := [], u := .norm }) →
    wpl ⟨bt.get, o⟩ [7, 43, 44, 45] lb_runes_spans_1 { p := [(7, sv), (43, v), (44, .int .i64 l.length), (45, .int .i64 i)], t := [], H := H, d := [], u := .norm } Q
  | [], i, acc, c, sv, H, hd, hi, ha, hR, hx, hn, hS, hQ => by
    have : l.length ≤ i := List.drop_eq_nil_iff.1 hd
    rw [wpl_step]
    have h1 : ¬((i : Int) < (l.length : Int)) := by omega
    simp only [lb_runes_spans_1, go_sem, zA, zB, zC, reduceIte, zD, zE, zF, zG, zH, zI, reduceCtorEq, zJ, zK, zL, zM, zN, zO, zP, h1]
    exact hQ H sv _ _ _ _ _ hx (by simpa [mGo] using hS)
  | x :: r, i, acc, c, sv, H, hd, hi, ha, hR, hx, hn, hS, hQ => by
    obtain ⟨h0, h1, h2⟩ := list_at hd
    obtain ⟨⟨u, hg⟩, hel, _⟩ := hR.pos (by omega)
    have el := hel i h1
    have hlt : rb < H.size := Heap.lt_of_get (by rw [hg]; simp)
    obtain ⟨c1, c2⟩ := scells_at h0
    have iw := wsucc (show i ≤ 1000000000 by omega)
    rcases hS with ⟨_, h0', _⟩ | ⟨ob, rfl, hob, hgo, hlo, _⟩
    · omega
    have hlto : ob < H.size := Heap.lt_of_get (by rw [hgo]; simp)
    obtain ⟨f1, f2⟩ := scells_fld (getLast_at acc c)
    have wp := wpred (n := acc.length + 1) (by omega) (by omega)
    rw [Nat.add_sub_cancel] at wp
    have p1 : (0 : Int) < ((acc.length + 1 : Nat) : Int) := by omega
    have p2 : (acc.length : Int) < ((acc.length + 1 : Nat) : Int) := by omega
    have hgo1 : ∀ y, (H.push y).get ob = .cells (scells (acc ++ [c])) .own := fun y => by rw [Heap.get_push_lt hlto, hgo]
    have hlto1 : ∀ y, ob < (H.push y).size := fun y => by rw [Heap.size_push]; omega
    rw [wpl_step]
    have h1' : ((i : Int) < (l.length : Int)) := by omega
    have hEx : ∀ y, Ext n0 H (H.push y) := fun y => Ext.push hn
    by_cases q : x.1 ≤ c.2
    · have q' : (x.1 : Int) ≤ (c.2 : Int) := by omega
      have mx : (if (c.2 : Int) < (x.2 : Int) then (x.2 : Int) else (c.2 : Int)) = ((max c.2 x.2 : Nat) : Int) := by
        split <;> omega
      have st := scells_set2 (max c.2 x.2) (getLast_at acc c)
      have sl : acc.length * 2 + 1 + 1 ≤ (scells (acc ++ [c])).length := by rw [scells_len]; simp; omega
      simp only [lb_runes_spans_1, go_sem, zA, zB, zC, reduceIte, zD, zE, zF, zG, zH, zI, reduceCtorEq, zJ, zK, zL, zM, zN, zO, zP, h1', el, hg, c1, c2, S.cells, p1, p2, wp, hgo1, f1, f2, q', minmaxA, GT.gt, mx, st, sl, iw]
      have e := set_last acc c (c.1, max c.2 x.2)
      have hx2 : Ext n0 H ((H.push (.cells [.int .i64 (x.1 : Int), .int .i64 (x.2 : Int)] .own)).set ob (.cells (scells ((acc ++ [c]).set acc.length (c.1, max c.2 x.2))) .own)) := (hEx _).trans (Ext.set hob)
      refine sp_loop1 hl hrb r (i + 1) acc (c.1, max c.2 x.2) _ _ h2 (by omega) (by omega) (hR.keep fun h => hx2.2 rb (hrb h)) (hx.trans hx2) (Nat.le_trans hn hx2.1) (.inr ⟨ob, rfl, hob, ?_, by rw [scells_len]; simp, by omega⟩) fun H' sv' x1 x2 x3 x4 t k1 k2 => hQ H' sv' x1 x2 x3 x4 t k1 ?_
      · rw [Heap.get_set_self (hlto1 _), e]
      · simp only [mGo, if_pos q]; exact k2
    · have q' : ¬ (x.1 : Int) ≤ (c.2 : Int) := by omega
      obtain ⟨nb, H', ea, hx1, hsl⟩ := append_spec (bytes := 16) (ys := [.int .i64 (x.1 : Int), .int .i64 (x.2 : Int)]) (k := 1) (Sl.push (x := .cells [.int .i64 (x.1 : Int), .int .i64 (x.2 : Int)] .own) (Sl.push (x := .cells [.int .i64 (x.1 : Int), .int .i64 (x.2 : Int)] .own) (.inr ⟨ob, rfl, hob, hgo, hlo, by omega⟩))) (by simp only [Heap.size_push]; omega) (by omega) rfl (by omega) (by omega)
      simp only [lb_runes_spans_1, go_sem, zA, zB, zC, reduceIte, zD, zE, zF, zG, zH, zI, reduceCtorEq, zJ, zK, zL, zM, zN, zO, zP, h1', el, hg, c1, c2, S.cells, p1, p2, wp, hgo1, f1, f2, q', ea, iw]
      have hx2 : Ext n0 H H' := ((hEx _).trans (Ext.push (by rw [Heap.size_push]; omega))).trans hx1
      refine sp_loop1 hl hrb r (i + 1) (acc ++ [c]) x _ _ h2 (by omega) (by simp; omega) (hR.keep fun h => hx2.2 rb (hrb h)) (hx.trans hx2) (Nat.le_trans hn hx2.1) ?_ fun H' sv' x1 x2 x3 x4 t k1 k2 => hQ H' sv' x1 x2 x3 x4 t k1 ?_
      · rw [scells_app (acc ++ [c])]
        have : (acc ++ [c]).length + 1 = acc.length + 1 + 1 := by simp
        rw [this]; exact hsl
      · simp only [mGo, if_neg q]
        have : acc ++ c :: mGo x r = acc ++ [c] ++ mGo x r := by simp
        rw [this]; exact k2
theorem r_spans {l : List R} {v : AV} {rb : Nat} (hl : l.length ≤ capN) (hr : ∀ r ∈ l, I32 r.lo ∧ I32 r.hi) {H : Heap} (hR : Rd H 2 (rcells l) l.length v rb) {Q : End → Heap → Prop}
    (hQ : ∀ H' v', Ext H.size H H' → Sl H.size H' 2 (scells (spansF l)) (spansF l).length v' → Q (.ret v') H') : wpf ⟨bt.get, o⟩ F_runes_spans [v] H Q := by
  have hcap := capN_le
  rw [fn_runes_spans (ho _ _ _ (by decide))]
  have hrb : 0 < l.length → rb < H.size := fun h => by
    obtain ⟨⟨u, hu⟩, _⟩ := hR.pos h
    exact Heap.lt_of_get (by rw [hu]; simp)
  simp only [bd_runes_spans, go_sem, zA, zB, zC, reduceIte, zD, zE, zF, zG, zH, zI, reduceCtorEq, zJ, zK, zL, zM, zN, zO, zP, hR.len]
  refine sp_loop0 ho (by omega) hr hrb l 0 [] .nils H rfl (Nat.zero_le _) (Nat.le_refl _) hR Ext.refl (Nat.le_refl _) Sl.nil fun H1 sv x1 x2 x3 x4 t k1 k2 => ?_
  simp only [List.nil_append] at k2
  have hpl : (preL l).length ≤ l.length := List.length_filterMap_le _ _
  simp only [go_sem, zA, zB, zC, reduceIte, zD, zE, zF, zG, zH, zI, reduceCtorEq, zJ, zK, zL, zM, zN, zO, zP]
  rcases k2 with ⟨rfl, h0, _⟩ | ⟨ob, rfl, hob, hgo, hlo, hp⟩
  · refine s_Sort0 ho ?_
    have hpe : preL l = [] := List.eq_nil_of_length_eq_zero h0
    simp only [go_sem, zA, zB, zC, reduceIte, zD, zE, zF, zG, zH, zI, reduceCtorEq, zJ, zK, zL, zM, zN, zO, zP]
    rw [wpl_step]
    simp only [lb_runes_spans_1, go_sem, zA, zB, zC, reduceIte, zD, zE, zF, zG, zH, zI, reduceCtorEq, zJ, zK, zL, zM, zN, zO, zP]
    refine hQ _ _ k1 ?_
    have : spansF l = [] := by simp [spansF, hpe, srtS, mF]
    rw [this]; exact Sl.nil
  · refine s_SortC ho (n := (preL l).length) (by omega) (by omega) rfl hgo fun l' H2 g1 g2 g3 g4 => ?_
    have hl' : l'.length = (preL l).length := g1.len
    have hsp : mF l' = spansF l := spansF_of (perm_mem g1) (sorted_pair (by rw [hl']; exact g2))
    simp only [go_sem, zA, zB, zC, reduceIte, zD, zE, zF, zG, zH, zI, reduceCtorEq, zJ, zK, zL, zM, zN, zO, zP]
    have x2 : Ext H.size H1 H2 := g3.toExt hob k1.1
    have hlt2 : ob < H2.size := Heap.lt_of_get (by rw [g4]; simp)
    rw [← hl']
    obtain ⟨c, r, hL⟩ : ∃ c r, l' = c :: r := by
      cases l' with
      | nil => simp at hl'; omega
      | cons c r => exact ⟨c, r, rfl⟩
    have hR2 : Rd H2 2 (scells l') l'.length (.osl 2 ob 0 l'.length) ob := Rd.osl g4 (scells_len _)
    obtain ⟨⟨u, hg⟩, hel, _⟩ := hR2.pos (by omega)
    have el := hel 0 (by omega)
    have h0 : l'[0]? = some c := by rw [hL]; rfl
    obtain ⟨c1, c2⟩ := scells_at h0
    simp only [Nat.zero_mul, Int.natCast_zero, List.drop_zero, Nat.zero_add] at el c1 c2
    rw [wpl_step]
    have h1' : (0 : Int) < ((l'.length : Nat) : Int) := by omega
    have e6 : IntKind.i64.wrap (0 + 1) = ((1 : Nat) : Int) := by rfl
    have e7 : IntKind.i64.wrap 1 = ((1 : Nat) : Int) := by rfl
    obtain ⟨nb, H', ea, hx1, hsl⟩ := append_spec (bytes := 16) (sz := 2) (ys := [.int .i64 (c.1 : Int), .int .i64 (c.2 : Int)]) (k := 1) (Sl.nil (n0 := H2.size) (H := (H2.push (.cells [.int .i64 (c.1 : Int), .int .i64 (c.2 : Int)] .own)).push (.cells [.int .i64 (c.1 : Int), .int .i64 (c.2 : Int)] .own))) (by simp only [Heap.size_push]; omega) (by omega) rfl (by omega) (by omega)
    have sc := S.cells
    simp only [lb_runes_spans_1, go_sem, zA, zB, zC, reduceIte, zD, zE, zF, zG, zH, zI, reduceCtorEq, zJ, zK, zL, zM, zN, zO, zP, h1', elA, hg, c1, c2, S.cells, ea, e6, e7]
    have hxx : Ext H2.size H2 H' := ((Ext.push (Nat.le_refl _)).trans (Ext.push (by rw [Heap.size_push]; omega))).trans hx1
    refine sp_loop1 (l := l') (rb := ob) (n0 := H2.size) (H0 := H2) (by omega) (fun _ => hlt2) r 1 [] c _ H' (by rw [hL]; rfl) (by omega) (by simp) (hR2.ext hxx) hxx hxx.1 hsl fun H3 sv' y1 y2 y3 y4 t k2 k3 => ?_
    simp only [go_sem, zA, zB, zC, reduceIte, zD, zE, zF, zG, zH, zI, reduceCtorEq, zJ, zK, zL, zM, zN, zO, zP]
    have hm : [] ++ mGo c r = spansF l := by rw [← hsp, hL]; rfl
    rw [hm] at k3
    exact hQ _ _ ((k1.trans x2).trans (k2.le (Nat.le_trans k1.1 g3.1))) (k3.frame' (Nat.le_trans k1.1 g3.1))
theorem rg_loop {l : List S} {v : AV} {rb : Nat} (hl : l.length ≤ 1000000) (hb : ∀ x ∈ l, x.1 ≤ 1112065 ∧ x.2 ≤ 1112065 ∧ x.1 < x.2) {n0 : Nat} (hrb : 0 < l.length → rb < n0) {H0 : Heap} {Q : Ctl → St → Prop} : ∀ (r : List S) (i : Nat) (acc : List R) (sv : AV) (H : Heap), l.drop i = r → i ≤ l.length → acc.length = i → Rd H 2 (scells l) l.length v rb → Ext n0 H0 H → n0 ≤ H.size → Sl n0 H 2 (rcells acc) acc.length sv →
    (∀ (H' : Heap) (sv' : AV) x1 x2 x3 x4 t, Ext n0 H0 H' → Sl n0 H' 2 (rcells (acc ++ rngF r)) (acc ++ rngF r).length sv' → Q (.exit 0) { p := [(3, sv'), (6, x1), (7, x2), (8, x3), (9, x4)], t := t, H := H', d := [], u := .norm }) →
    wpl ⟨bt.get, o⟩ [3, 6, 7, 8] lb_runes_ranges_0 { p := [(3, sv), (6, v), (7, .int .i64 l.length), (8, .int .i64 i)], t := [], H := H, d := [], u := .norm } Q
  | [], i, acc, sv, H, hd, hi, ha, hR, hx, hn, hS, hQ => by
    have : l.length ≤ i := List.drop_eq_nil_iff.1 hd
    rw [wpl_step]
    have h1 : ¬((i : Int) < (l.length : Int)) := by omega
    simp only [lb_runes_ranges_0, go_sem, zA, zB, zC, reduceIte, zD, zE, zF, zG, zH, zI, reduceCtorEq, zJ, zK, zL, zM, zN, zO, zP, h1]
    exact hQ H sv _ _ _ _ _ hx (by simpa [rngF] using hS)
  | x :: r, i, acc, sv, H, hd, hi, ha, hR, hx, hn, hS, hQ => by
    obtain ⟨h0, h1, h2⟩ := list_at hd
    obtain ⟨⟨u, hg⟩, hel, _⟩ := hR.pos (by omega)
    have el := hel i h1
    obtain ⟨c1, c2⟩ := scells_at h0
    obtain ⟨b1, b2, b3⟩ := hb x (List.mem_of_getElem? h0)
    have iw := wsucc (show i ≤ 1000000000 by omega)
    have wp := wpred (n := x.2) (by omega) (by omega)
    rw [wpl_step]
    have h1' : ((i : Int) < (l.length : Int)) := by omega
    simp only [lb_runes_ranges_0, go_sem, zA, zB, zC, reduceIte, zD, zE, zF, zG, zH, zI, reduceCtorEq, zJ, zK, zL, zM, zN, zO, zP, h1', el, hg, c1, c2, S.cells]
    refine r_value ho (by omega) ?_
    simp only [go_sem, zA, zB, zC, reduceIte, zD, zE, zF, zG, zH, zI, reduceCtorEq, zJ, zK, zL, zM, zN, zO, zP, wp]
    refine r_value ho (by omega) ?_
    obtain ⟨nb, H', ea, hx1, hsl⟩ := append_spec (bytes := 8) (ys := [.int .i32 (valN x.1 : Int), .int .i32 (valN (x.2 - 1) : Int)]) (k := 1) (Sl.push (x := .cells [.int .i32 (valN x.1 : Int), .int .i32 (valN (x.2 - 1) : Int)] .own) (Sl.push (x := .cells [.int .i64 (x.1 : Int), .int .i64 (x.2 : Int)] .own) hS)) (by simp only [Heap.size_push]; omega) (by omega) rfl (by omega) (by omega)
    simp only [go_sem, zA, zB, zC, reduceIte, zD, zE, zF, zG, zH, zI, reduceCtorEq, zJ, zK, zL, zM, zN, zO, zP, ea, iw]
    have hx2 : Ext n0 H H' := ((Ext.push hn).trans (Ext.push (by rw [Heap.size_push]; omega))).trans hx1
    refine rg_loop hl hb hrb r (i + 1) (acc ++ [⟨valN x.1, valN (x.2 - 1)⟩]) _ H' h2 (by omega) (by simp; omega) (hR.keep fun h => hx2.2 rb (hrb h)) (hx.trans hx2) (Nat.le_trans hn hx2.1) (by rw [rcells_app, List.length_append]; exact hsl) fun H3 sv' x1 x2 x3 x4 t k1 k2 => hQ H3 sv' x1 x2 x3 x4 t k1 ?_
    have : acc ++ rngF (x :: r) = acc ++ [⟨valN x.1, valN (x.2 - 1)⟩] ++ rngF r := by simp [rngF]
    rw [this]; exact k2
theorem r_ranges {l : List S} {v : AV} {rb : Nat} (hl : l.length ≤ 1000000) (hb : ∀ x ∈ l, x.1 ≤ 1112065 ∧ x.2 ≤ 1112065 ∧ x.1 < x.2) {H : Heap} (hR : Rd H 2 (scells l) l.length v rb) {Q : End → Heap → Prop}
    (hQ : ∀ H' v', Ext H.size H H' → Sl H.size H' 2 (rcells (rngF l)) (rngF l).length v' → Q (.ret v') H') : wpf ⟨bt.get, o⟩ F_runes_ranges [v] H Q := by
  rw [fn_runes_ranges (ho _ _ _ (by decide))]
  have hrb : 0 < l.length → rb < H.size := fun h => by
    obtain ⟨⟨u, hu⟩, _⟩ := hR.pos h
    exact Heap.lt_of_get (by rw [hu]; simp)
  simp only [bd_runes_ranges, go_sem, zA, zB, zC, reduceIte, zD, zE, zF, zG, zH, zI, reduceCtorEq, zJ, zK, zL, zM, zN, zO, zP, hR.len]
  refine rg_loop ho hl hb hrb l 0 [] .nils H rfl (Nat.zero_le _) rfl hR Ext.refl (Nat.le_refl _) Sl.nil fun H1 sv x1 x2 x3 x4 t k1 k2 => ?_
  simp only [go_sem, zA, zB, zC, reduceIte, zD, zE, zF, zG, zH, zI, reduceCtorEq, zJ, zK, zL, zM, zN, zO, zP]
  exact hQ _ _ k1 (by simpa using k2)
omit ho in
theorem spansF_lt (l : List R) : ∀ x ∈ spansF l, x.1 < x.2 := by
  have h := (mF_spec (l := srtS (preL l)) (fun x hx => preL_ok x (srtS_mem.1 hx)) (srtS_sorted _)).1
  have : ∀ {m : List S} {k : Nat}, apart k m → ∀ x ∈ m, x.1 < x.2 := by
    intro m
    induction m with
    | nil => intro k _ x hx; cases hx
    | cons y m ih =>
      intro k ⟨h1, h2, h3⟩ x hx
      rcases List.mem_cons.1 hx with rfl | hx
      · exact h2
      · exact ih h3 x hx
  exact this h
theorem r_Norm {l : List R} {v : AV} {rb : Nat} (hl : l.length ≤ capN) (hr : ∀ r ∈ l, I32 r.lo ∧ I32 r.hi) {H : Heap} (hR : Rd H 2 (rcells l) l.length v rb) {Q : End → Heap → Prop}
    (hQ : ∀ H' v', Ext H.size H H' → Sl H.size H' 2 (rcells (normF l)) (normF l).length v' → Q (.ret v') H') : wpf ⟨bt.get, o⟩ F_runes_Norm [v] H Q := by
  have hcap := capN_le
  rw [fn_runes_Norm (ho _ _ _ (by decide))]
  simp only [bd_runes_Norm, go_sem, zA, zB, zC, reduceIte, zD, zE, zF, zG, zH, zI, reduceCtorEq, zJ, zK, zL, zM, zN, zO, zP]
  refine r_spans ho hl hr hR fun H1 v1 k1 k2 => ?_
  obtain ⟨b, hR1, _⟩ := k2.rd
  obtain ⟨s1, s2⟩ := spansF_bd l
  simp only [go_sem, zA, zB, zC, reduceIte, zD, zE, zF, zG, zH, zI, reduceCtorEq, zJ, zK, zL, zM, zN, zO, zP]
  refine r_ranges ho (by omega) (fun x hx => ⟨(s2 x hx).1, (s2 x hx).2, spansF_lt l x hx⟩) hR1 fun H2 v2 k3 k4 => ?_
  simp only [go_sem, zA, zB, zC, reduceIte, zD, zE, zF, zG, zH, zI, reduceCtorEq, zJ, zK, zL, zM, zN, zO, zP]
  exact hQ _ _ (k1.trans (k3.le k1.1)) (k4.frame' k1.1)
end
end Go.Ev
