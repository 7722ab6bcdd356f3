/- Several texts of this claim, joined. -/
import Derived.Test.YtifhmogcdgfojaaGreatDoorT17
import Derived.IntWalk
import Derived.Test.YtifhmogcdgfojaaGreatDoorT02
set_option linter.unusedSimpArgs false
set_option linter.unusedVariables false

/- Slices of the abstract memory that are grown by append. -/
namespace Go.Ev
open Go
/-- What is below a bound stays. -/
def Ext (n0 : Nat) (H H' : Heap) : Prop := H.size ≤ H'.size ∧ ∀ b, b < n0 → H'.get b = H.get b
theorem Ext.refl {n0 : Nat} {H : Heap} : Ext n0 H H := ⟨Nat.le_refl _, fun _ _ => rfl⟩
theorem Ext.trans {n0 : Nat} {H H' H'' : Heap} (h : Ext n0 H H') (k : Ext n0 H' H'') : Ext n0 H H'' := ⟨Nat.le_trans h.1 k.1, fun b hb => by rw [k.2 b hb, h.2 b hb]⟩
theorem Ext.le {n0 n1 : Nat} {H H' : Heap} (h : Ext n1 H H') (hn : n0 ≤ n1) : Ext n0 H H' := ⟨h.1, fun b hb => h.2 b (by omega)⟩
theorem Ext.push {n0 : Nat} {H : Heap} {x : Blk} (h : n0 ≤ H.size) : Ext n0 H (H.push x) := ⟨by rw [Heap.size_push]; omega, fun b hb => Heap.get_push_lt (by omega)⟩
theorem Ext.set {n0 : Nat} {H : Heap} {c : Nat} {x : Blk} (h : n0 ≤ c) : Ext n0 H (H.set c x) := ⟨Nat.le_refl _, fun b hb => Heap.get_set_ne (by omega)⟩
/-- A slice of `n` elements of `sz` cells each, with a block of its own that is not below `n0`. -/
def Sl (n0 : Nat) (H : Heap) (sz : Nat) (cs : List AV) (n : Nat) (v : AV) : Prop :=
  (v = .nils ∧ n = 0 ∧ cs = []) ∨ ∃ b, v = .osl sz b 0 n ∧ n0 ≤ b ∧ H.get b = .cells cs .own ∧ cs.length = n * sz ∧ 0 < n
theorem Sl.nil {n0 H sz} : Sl n0 H sz [] 0 .nils := .inl ⟨rfl, rfl, rfl⟩
theorem Sl.push {n0 H sz cs n v x} (h : Sl n0 H sz cs n v) : Sl n0 (H.push x) sz cs n v := by
  rcases h with h | ⟨b, h1, h2, h3, h4, h5⟩
  · exact .inl h
  · exact .inr ⟨b, h1, h2, by rw [Heap.get_push_lt (Heap.lt_of_get (by rw [h3]; simp)), h3], h4, h5⟩
theorem Sl.len {n0 H sz cs n v} (h : Sl n0 H sz cs n v) : cs.length = n * sz := by
  rcases h with ⟨_, rfl, rfl⟩ | ⟨b, _, _, _, h, _⟩
  · simp
  · exact h
theorem append_spec {n0 : Nat} {H : Heap} {sz bytes : Nat} {cs ys : List AV} {n k : Nat} {v : AV} (h : Sl n0 H sz cs n v) (hn : n0 ≤ H.size) (hk : 0 < k) (hy : ys.length = k * sz) (h1 : (n + k) * bytes ≤ 1099511627776) (h2 : n + k ≤ 1099511627776) :
    ∃ b H', appendA H sz bytes v k ys = some (.osl sz b 0 (n + k), H') ∧ Ext n0 H H' ∧ Sl n0 H' sz (cs ++ ys) (n + k) (.osl sz b 0 (n + k)) := by
  have hk0 : ¬ k = 0 := by omega
  rcases h with ⟨rfl, rfl, rfl⟩ | ⟨b, rfl, hb, hg, hl, hp⟩
  · rw [Nat.zero_add] at *
    refine ⟨H.size, H.push (.cells ys .own), ?_, Ext.push hn, .inr ⟨H.size, rfl, hn, ?_, ?_, by omega⟩⟩
    · simp only [appendA, if_neg hk0, if_pos (And.intro h1 h2)]
    · rw [List.nil_append, Heap.get_push_self]
    · simpa using hy
  · have hb' : b < H.size := Heap.lt_of_get (by rw [hg]; simp)
    refine ⟨H.size, (H.set b .dead).push (.cells (cs ++ ys) .own), ?_, ?_, .inr ⟨H.size, rfl, hn, ?_, ?_, by omega⟩⟩
    · have e : rd cs 0 (n * sz) = cs := by rw [rd, List.drop_zero, ← hl, List.take_length]
      simp only [appendA, if_neg hk0, hg, h1, h2, true_and, and_self, Nat.zero_add, hl, Nat.le_refl, if_true, e]
    · exact (Ext.set hb).trans (Ext.push hn)
    · rw [Heap.get_push_eq (by rw [Heap.size_set])]
    · rw [List.length_append, hl, hy, Nat.add_mul]
theorem append_frame {H : Heap} {sz bytes : Nat} {ys : List AV} {k : Nat} {v r : AV} {H' : Heap} (hk : 0 < k) (h : appendA H sz bytes v k ys = some (r, H')) (hv : v = .nils ∨ ∃ s b o n, v = .osl s b o n) {c : Nat} (hc : c < H.size) (hne : ∀ s o n, v ≠ .osl s c o n) : H'.get c = H.get c := by
  have hk0 : ¬ k = 0 := by omega
  rcases hv with rfl | ⟨s, b, o, n, rfl⟩
  · simp only [appendA, if_neg hk0] at h
    split at h
    · simp only [Option.some.injEq, Prod.mk.injEq] at h; obtain ⟨_, rfl⟩ := h; exact Heap.get_push_lt hc
    · cases h
  · have hcb : c ≠ b := fun e => hne s o n (by rw [e])
    simp only [appendA, if_neg hk0] at h
    split at h
    · split at h
      · split at h
        · simp only [Option.some.injEq, Prod.mk.injEq] at h
          obtain ⟨_, rfl⟩ := h
          rw [Heap.get_push_lt (by rw [Heap.size_set]; exact hc), Heap.get_set_ne hcb]
        · cases h
      · cases h
    · cases h
theorem Sl.form {n0 H sz cs n v} (h : Sl n0 H sz cs n v) : v = .nils ∨ ∃ s b o n, v = .osl s b o n := by
  rcases h with ⟨h, _, _⟩ | ⟨b, h, _⟩
  · exact .inl h
  · exact .inr ⟨_, _, _, _, h⟩
/-- A slice stays where its block does. -/
theorem Sl.frame {n0 H H' sz cs n v} (h : Sl n0 H sz cs n v) (hf : ∀ b, n0 ≤ b → H.get b = .cells cs .own → v = .osl sz b 0 n → H'.get b = H.get b) : Sl n0 H' sz cs n v := by
  rcases h with h | ⟨b, h1, h2, h3, h4, h5⟩
  · exact .inl h
  · exact .inr ⟨b, h1, h2, by rw [hf b h2 h3 h1, h3], h4, h5⟩
theorem Sl.set {n0 H sz cs n v c x} (h : Sl n0 H sz cs n v) (hc : c < n0) : Sl n0 (H.set c x) sz cs n v := h.frame fun b hb _ _ => Heap.get_set_ne (by omega)
theorem Sl.ext {n0 H H' sz cs n v} (h : Sl n0 H sz cs n v) (e : Ext H.size H H') : Sl n0 H' sz cs n v := h.frame fun b hb hg _ => e.2 b (Heap.lt_of_get (by rw [hg]; simp))
theorem Sl.frame' {n0 n1 H sz cs n v} (h : Sl n1 H sz cs n v) (hn : n0 ≤ n1) : Sl n0 H sz cs n v := by
  rcases h with h | ⟨b, h1, h2, h3⟩
  · exact .inl h
  · exact .inr ⟨b, h1, by omega, h3⟩
theorem Sl.one {n0 H sz cs n v} (h : Sl n0 H sz cs n v) : AV.cells v = [v] ∧ AV.one v = true := by
  rcases h with ⟨rfl, _⟩ | ⟨b, rfl, _⟩ <;> exact ⟨rfl, rfl⟩
theorem Sl.lenI {n0 H sz cs n v} (h : Sl n0 H sz cs n v) : lenI v = some (n : Int) := by
  rcases h with ⟨rfl, rfl, _⟩ | ⟨b, rfl, _⟩ <;> rfl
/-- All stays but one block, and the block of one slice. -/
def Fr (b : Nat) (ov : AV) (H H' : Heap) : Prop := H.size ≤ H'.size ∧ ∀ c, c < H.size → c ≠ b → (∀ s o n, ov ≠ .osl s c o n) → H'.get c = H.get c
theorem Fr.ext {b : Nat} {ov : AV} {H H' : Heap} {n0 sz : Nat} {cs n} (h : Fr b ov H H') (hb : b < H.size) (hS : Sl n0 H sz cs n ov) (hn : b < n0) : Ext b H H' := ⟨h.1, fun c hc => h.2 c (by omega) (by omega) fun s o k e => by
  rcases hS with ⟨h1, _⟩ | ⟨ob, h1, h2, _⟩
  · rw [h1] at e; cases e
  · rw [h1] at e; injection e with _ e; omega⟩
theorem Fr.pre {b : Nat} {ov : AV} {H H1 H' : Heap} (e : Ext H.size H H1) (h : Fr b ov H1 H') : Fr b ov H H' := ⟨Nat.le_trans e.1 h.1, fun c h1 h2 h3 => by rw [h.2 c (Nat.lt_of_lt_of_le h1 e.1) h2 h3, e.2 c h1]⟩
theorem Fr.refl {b : Nat} {ov : AV} {H : Heap} : Fr b ov H H := ⟨Nat.le_refl _, fun _ _ _ _ => rfl⟩
theorem Fr.trans {b : Nat} {H H1 H2 : Heap} (h : Fr b .nils H H1) (k : Fr b .nils H1 H2) : Fr b .nils H H2 := ⟨Nat.le_trans h.1 k.1, fun c h1 h2 h3 => by rw [k.2 c (Nat.lt_of_lt_of_le h1 h.1) h2 h3, h.2 c h1 h2 h3]⟩
theorem Fr.ofExt {b : Nat} {H H1 : Heap} (e : Ext H.size H H1) : Fr b .nils H H1 := ⟨e.1, fun c hc _ _ => e.2 c hc⟩
theorem Fr.set {b : Nat} {H : Heap} {x : Blk} : Fr b .nils H (H.set b x) := ⟨Nat.le_refl _, fun c _ h2 _ => Heap.get_set_ne h2⟩
theorem Fr.get {b c : Nat} {H H' : Heap} {x : Blk} (h : Fr b .nils H H') (hc : H.get c = x) (hx : x ≠ .dead) (hn : c ≠ b) : H'.get c = x := by
  rw [h.2 c (Heap.lt_of_get (by rw [hc]; exact hx)) hn (fun _ _ _ e => by cases e), hc]
theorem Fr.toExt {b : Nat} {H H' : Heap} {n0 : Nat} (h : Fr b .nils H H') (hb : n0 ≤ b) (hn : n0 ≤ H.size) : Ext n0 H H' := ⟨h.1, fun c hc => h.2 c (by omega) (by omega) (fun _ _ _ e => by cases e)⟩
/-- All below a bound stays but two blocks. -/
def Fr2 (p3 p4 n0 : Nat) (H H' : Heap) : Prop := H.size ≤ H'.size ∧ ∀ c, c < n0 → c ≠ p3 → c ≠ p4 → H'.get c = H.get c
theorem Fr2.refl {p3 p4 n0 H} : Fr2 p3 p4 n0 H H := ⟨Nat.le_refl _, fun _ _ _ _ => rfl⟩
theorem Fr2.trans {p3 p4 n0 H H1 H2} (h : Fr2 p3 p4 n0 H H1) (k : Fr2 p3 p4 n0 H1 H2) : Fr2 p3 p4 n0 H H2 := ⟨Nat.le_trans h.1 k.1, fun c h1 h2 h3 => by rw [k.2 c h1 h2 h3, h.2 c h1 h2 h3]⟩
/- Lists whose elements change places. -/
abbrev S := Nat × Nat
def S.cells (x : S) : List AV := [.int .i64 x.1, .int .i64 x.2]
def scells (l : List S) : List AV := l.flatMap S.cells
theorem scells_app (l m : List S) : scells (l ++ m) = scells l ++ scells m := List.flatMap_append
theorem scells_len : ∀ l : List S, (scells l).length = l.length * 2
  | [] => rfl
  | w :: l => by rw [scells, List.flatMap_cons, List.length_append, ← scells, scells_len l, S.cells]; simp only [List.length_cons, List.length_nil]; omega
theorem scells_at : ∀ {l : List S} {i : Nat} {x : S}, l[i]? = some x → List.take 2 (List.drop (i * 2) (scells l)) = x.cells ∧ i * 2 + 2 ≤ (scells l).length
  | y :: l, 0, x, h => by
    simp only [List.getElem?_cons_zero, Option.some.injEq] at h; subst h
    constructor
    · rfl
    · rw [scells_len, List.length_cons]; omega
  | y :: l, i + 1, x, h => by
    have := scells_at (l := l) (i := i) (x := x) (by simpa using h)
    constructor
    · rw [scells, List.flatMap_cons, ← scells, show (i + 1) * 2 = 2 + i * 2 by omega, ← List.drop_drop]
      exact this.1
    · rw [scells_len, List.length_cons]; have h2 := this.2; rw [scells_len] at h2; omega
theorem scells_fld {l : List S} {i : Nat} {x : S} (h : l[i]? = some x) : (scells l)[i * 2]? = some (.int .i64 x.1) ∧ (scells l)[i * 2 + 1]? = some (.int .i64 x.2) := by
  have h1 := (scells_at h).1
  have g : ∀ j, j < 2 → (scells l)[i * 2 + j]? = x.cells[j]? := by
    intro j hj
    rw [← h1, List.getElem?_take, if_pos hj, List.getElem?_drop]
  exact ⟨g 0 (by omega), g 1 (by omega)⟩
theorem scells_set : ∀ {l : List S} {i : Nat} (a b : Nat), i < l.length → ((scells l).set (i * 2) (.int .i64 a)).set (i * 2 + 1) (.int .i64 b) = scells (l.set i (a, b))
  | y :: l, 0, a, b, h => rfl
  | y :: l, i + 1, a, b, h => by
    have := scells_set (l := l) (i := i) a b (by simpa using h)
    show ((S.cells y ++ scells l).set ((i + 1) * 2) _).set ((i + 1) * 2 + 1) _ = S.cells y ++ scells (l.set i (a, b))
    rw [← this, show (i + 1) * 2 = i * 2 + 1 + 1 by omega]
    rfl
theorem scells_setS {l : List S} {i : Nat} (x : S) (h : i < l.length) : ((scells l).set (i * 2) (.int .i64 x.1)).set (i * 2 + 1) (.int .i64 x.2) = scells (l.set i x) := scells_set x.1 x.2 h
theorem scells_set2 {l : List S} {i : Nat} {x : S} (b : Nat) (hx : l[i]? = some x) : (scells l).set (i * 2 + 1) (.int .i64 b) = scells (l.set i (x.1, b)) := by
  have hi := (List.getElem?_eq_some_iff.1 hx).1
  rw [← scells_set x.1 b hi]
  congr 1
  have := (scells_fld hx).1
  obtain ⟨h1, h2⟩ := List.getElem?_eq_some_iff.1 this
  rw [← h2, List.set_getElem_self]
/-- Two elements change places. -/
def swp (l : List S) (i j : Nat) : List S := (l.set i (l.getD j (0, 0))).set j (l.getD i (0, 0))
def key (l : List S) (p : Nat) : Nat := (l.getD p (0, 0)).1
theorem swp_len (l : List S) (i j : Nat) : (swp l i j).length = l.length := by simp [swp]
theorem getD_of {l : List S} {i : Nat} {x : S} (h : l[i]? = some x) : l.getD i (0, 0) = x := by rw [List.getD_eq_getElem?_getD, h]; rfl
theorem get_of {l : List S} {i : Nat} (h : i < l.length) : l[i]? = some (l.getD i (0, 0)) := by
  rw [List.getD_eq_getElem?_getD, List.getElem?_eq_getElem h]; rfl
theorem swp_get {l : List S} {i j : Nat} (hi : i < l.length) (hj : j < l.length) (p : Nat) : (swp l i j)[p]? = if p = j then l[i]? else if p = i then l[j]? else l[p]? := by
  rw [swp, List.getElem?_set, List.length_set]
  by_cases h1 : p = j
  · subst h1; rw [if_pos rfl, if_pos hj, if_pos rfl, get_of hi]
  · rw [if_neg (fun e => h1 e.symm), if_neg h1, List.getElem?_set]
    by_cases h2 : p = i
    · subst h2; rw [if_pos rfl, if_pos hi, if_pos rfl, get_of hj]
    · rw [if_neg (fun e => h2 e.symm), if_neg h2]
theorem key_swp {l : List S} {i j : Nat} (hi : i < l.length) (hj : j < l.length) (p : Nat) : key (swp l i j) p = if p = j then key l i else if p = i then key l j else key l p := by
  unfold key
  rw [List.getD_eq_getElem?_getD, swp_get hi hj]
  split
  · rw [← List.getD_eq_getElem?_getD]
  · split <;> rw [← List.getD_eq_getElem?_getD]
/-- The elements from `a` up to, not with, `b` have changed places; all others stay. -/
structure PermOn (a b : Nat) (l l' : List S) : Prop where
  len : l'.length = l.length
  out : ∀ p, p < a ∨ b ≤ p → l'[p]? = l[p]?
  mem : ∀ x, (∃ p, a ≤ p ∧ p < b ∧ l'[p]? = some x) ↔ (∃ p, a ≤ p ∧ p < b ∧ l[p]? = some x)
theorem PermOn.refl {a b l} : PermOn a b l l := ⟨rfl, fun _ _ => rfl, fun _ => Iff.rfl⟩
theorem PermOn.trans {a b l l' l''} (h : PermOn a b l l') (k : PermOn a b l' l'') : PermOn a b l l'' := ⟨k.len.trans h.len, fun p hp => (k.out p hp).trans (h.out p hp), fun x => (k.mem x).trans (h.mem x)⟩
theorem PermOn.widen {a b a' b' l l'} (h : PermOn a b l l') (ha : a' ≤ a) (hb : b ≤ b') : PermOn a' b' l l' := by
  refine ⟨h.len, fun p hp => h.out p (by omega), fun x => ?_⟩
  constructor
  · rintro ⟨p, h1, h2, h3⟩
    by_cases hp : a ≤ p ∧ p < b
    · obtain ⟨q, g1, g2, g3⟩ := (h.mem x).1 ⟨p, hp.1, hp.2, h3⟩
      exact ⟨q, by omega, by omega, g3⟩
    · exact ⟨p, h1, h2, by rw [← h.out p (by omega)]; exact h3⟩
  · rintro ⟨p, h1, h2, h3⟩
    by_cases hp : a ≤ p ∧ p < b
    · obtain ⟨q, g1, g2, g3⟩ := (h.mem x).2 ⟨p, hp.1, hp.2, h3⟩
      exact ⟨q, by omega, by omega, g3⟩
    · exact ⟨p, h1, h2, by rw [h.out p (by omega)]; exact h3⟩
theorem PermOn.swp {a b i j l} (h1 : a ≤ i) (h2 : i < b) (h3 : a ≤ j) (h4 : j < b) (hb : b ≤ l.length) : PermOn a b l (swp l i j) := by
  have g := swp_get (l := l) (i := i) (j := j) (by omega) (by omega)
  refine ⟨swp_len _ _ _, fun p hp => ?_, fun x => ?_⟩
  · rw [g, if_neg (by omega), if_neg (by omega)]
  · constructor
    · rintro ⟨p, k1, k2, k3⟩
      rw [g] at k3
      split at k3
      · exact ⟨i, h1, h2, k3⟩
      · split at k3
        · exact ⟨j, h3, h4, k3⟩
        · exact ⟨p, k1, k2, k3⟩
    · rintro ⟨p, k1, k2, k3⟩
      by_cases e1 : p = i
      · exact ⟨j, h3, h4, by rw [g, if_pos rfl, ← e1]; exact k3⟩
      · by_cases e2 : p = j
        · by_cases e3 : i = j
          · exact absurd (e2.trans e3.symm) e1
          · exact ⟨i, h1, h2, by rw [g, if_neg e3, if_pos rfl, ← e2]; exact k3⟩
        · exact ⟨p, k1, k2, by rw [g, if_neg e2, if_neg e1]; exact k3⟩
/-- Sorted from `a` up to, not with, `b`. -/
def SortedOn (a b : Nat) (l : List S) : Prop := ∀ p q, a ≤ p → p < q → q < b → key l p ≤ key l q
theorem key_of {l : List S} {p : Nat} {x : S} (h : l[p]? = some x) : key l p = x.1 := by rw [key, getD_of h]
/-- What holds of each key there holds still. -/
theorem PermOn.all {a b l l'} (h : PermOn a b l l') (hb : b ≤ l.length) {P : Nat → Prop} (hP : ∀ p, a ≤ p → p < b → P (key l p)) : ∀ p, a ≤ p → p < b → P (key l' p) := by
  intro p h1 h2
  have hp := get_of (l := l') (i := p) (by rw [h.len]; omega)
  obtain ⟨q, g1, g2, g3⟩ := (h.mem _).1 ⟨p, h1, h2, hp⟩
  have := hP q g1 g2
  rw [key_of g3] at this
  rw [key_of hp]; exact this
theorem PermOn.symm {a b l l'} (h : PermOn a b l l') : PermOn a b l' l := ⟨h.len.symm, fun p hp => (h.out p hp).symm, fun x => (h.mem x).symm⟩
/- Numbers of this seat's functions, types and globals: printed by gen.py. -/
abbrev F_gobolaw14_PrintOnce : Nat := 3
abbrev F_gobolaw6_Make : Nat := 4
abbrev F_print_Re : Nat := 5
abbrev F_parse_Re : Nat := 6
abbrev F_gobolaw14_told : Nat := 7
abbrev F_regex_Same : Nat := 8
abbrev F_gobolaw6_One : Nat := 9
abbrev F_goboref6_May : Nat := 10
abbrev F_regex_May : Nat := 11
abbrev F_print_re : Nat := 12
abbrev F_word_Caught : Nat := 13
abbrev F_parse_Re_1 : Nat := 14
abbrev F_word_Read : Nat := 15
abbrev F_parse_regex_all : Nat := 16
abbrev F_word_Reader_Peek : Nat := 17
abbrev F_word_Fail : Nat := 18
abbrev F_word_Reader_At : Nat := 19
abbrev F_gobolaw11_Make : Nat := 20
abbrev F_print_Source : Nat := 21
abbrev F_print_Set : Nat := 22
abbrev F_print_Pat : Nat := 23
abbrev F_slices_Equal_api_Range_api_Range : Nat := 24
abbrev F_slices_EqualFunc_api_Re_api_Re_api_Re_api_Re : Nat := 25
abbrev F_goboref6_Count : Nat := 26
abbrev F_goboref6_parts : Nat := 27
abbrev F_regex_within : Nat := 28
abbrev F_regex_may : Nat := 29
abbrev F_print_re_1 : Nat := 30
abbrev F_print_within : Nat := 31
abbrev F_slices_Contains_int_int : Nat := 32
abbrev F_word_Caught_1 : Nat := 33
abbrev F_decode_All : Nat := 34
abbrev F_parse_regex_row : Nat := 35
abbrev F_word_Reader_Skip : Nat := 36
abbrev F_parse_two : Nat := 37
abbrev F_gram_Check : Nat := 40
abbrev F_print_none : Nat := 41
abbrev F_strings_Builder_WriteString : Nat := 42
abbrev F_strconv_Itoa : Nat := 43
abbrev F_print_names : Nat := 44
abbrev F_print_pat : Nat := 45
abbrev F_strings_Builder_Len : Nat := 46
abbrev F_strings_Builder_String : Nat := 47
abbrev F_print_one : Nat := 48
abbrev F_runes_Count : Nat := 49
abbrev F_gram_Shaped : Nat := 50
abbrev F_goboref6_count : Nat := 51
abbrev F_goboref3_May : Nat := 52
abbrev F_regex_within_1 : Nat := 53
abbrev F_slices_ContainsFunc_api_Re_api_Re : Nat := 54
abbrev F_regex_within_1_1 : Nat := 55
abbrev F_regex_parts : Nat := 56
abbrev F_regex_may_1 : Nat := 57
abbrev F_runes_May : Nat := 58
abbrev F_slices_Index_int_int : Nat := 59
abbrev F_decode_New : Nat := 60
abbrev F_decode_Dec_Feed : Nat := 61
abbrev F_decode_Dec_Close : Nat := 62
abbrev F_parse_regex_atom : Nat := 63
abbrev F_gram_caught : Nat := 64
abbrev F_gram_Check_1 : Nat := 65
abbrev F_gram_court_must : Nat := 66
abbrev F_gram_court_token : Nat := 67
abbrev F_strings_Builder_copyCheck : Nat := 69
abbrev F_strconv_Itoa_70 : Nat := 70
abbrev F_strings_Join : Nat := 71
abbrev F_print_pat_1 : Nat := 72
abbrev F_strings_ToUpper : Nat := 73
abbrev F_strconv_FormatInt : Nat := 74
abbrev F_runes_spans : Nat := 75
abbrev F_gram_Shaped_1 : Nat := 76
abbrev F_gram_shaped : Nat := 77
abbrev F_slices_ContainsFunc_api_Pat_api_Pat : Nat := 78
abbrev F_gram_Shaped_1_1 : Nat := 79
abbrev F_gram_few : Nat := 80
abbrev F_goboref3_Same : Nat := 81
abbrev F_goboref3_Norm : Nat := 82
abbrev F_slices_IndexFunc_api_Re_api_Re : Nat := 83
abbrev F_runes_Norm : Nat := 84
abbrev F_decode_Dec_take : Nat := 85
abbrev F_decode_Dec_taken : Nat := 86
abbrev F_decode_Dec_tell : Nat := 87
abbrev F_word_Reader_Must : Nat := 88
abbrev F_word_Reader_Class : Nat := 89
abbrev F_parse_set : Nat := 90
abbrev F_runes_Not : Nat := 91
abbrev F_word_Reader_Rune : Nat := 92
abbrev F_gram_caught_1 : Nat := 93
abbrev F_gram_Name : Nat := 94
abbrev F_gram_Find : Nat := 95
abbrev F_gram_court_class : Nat := 96
abbrev F_regex_Empty : Nat := 97
abbrev F_strconv_FormatInt_101 : Nat := 101
abbrev F_strings_Builder_Grow : Nat := 102
abbrev F_strings_Builder_WriteByte : Nat := 103
abbrev F_runes_number : Nat := 106
abbrev F_runes_behind : Nat := 107
abbrev F_slices_SortFunc_runes_span_runes_span : Nat := 108
abbrev F_runes_spans_1 : Nat := 109
abbrev F_cmp_Compare_int : Nat := 110
abbrev F_gram_parts : Nat := 111
abbrev F_slices_IndexFunc_api_Pat_api_Pat : Nat := 112
abbrev F_gram_few_1 : Nat := 113
abbrev F_gram_few_1_1 : Nat := 114
abbrev F_goboref3_pick : Nat := 115
abbrev F_goboref3_cells : Nat := 116
abbrev F_runes_ranges : Nat := 117
abbrev F_decode_Dec_more : Nat := 118
abbrev F_utf8_DecodeRune : Nat := 119
abbrev F_runes_Not_1 : Nat := 120
abbrev F_word_hasRune : Nat := 121
abbrev F_word_Reader_number : Nat := 122
abbrev F_slices_Contains_string_string : Nat := 123
abbrev F_slices_IndexFunc_api_Token_api_Token : Nat := 124
abbrev F_gram_Find_1 : Nat := 125
abbrev F_regex_empty : Nat := 126
abbrev F_strconv_small : Nat := 128
abbrev F_strconv_formatBits : Nat := 131
abbrev F_strings_Builder_grow : Nat := 132
abbrev F_runes_is : Nat := 138
abbrev F_slices_pdqsortCmpFunc_runes_span : Nat := 139
abbrev F_bits_Len : Nat := 140
abbrev F_cmp_isNaN_int : Nat := 141
abbrev F_goboref3_cuts : Nat := 142
abbrev F_goboref3_in : Nat := 143
abbrev F_goboref3_at : Nat := 144
abbrev F_goboref3_place : Nat := 145
abbrev F_runes_value : Nat := 146
abbrev F_decode_Dec_more_1 : Nat := 147
abbrev F_decode_grow : Nat := 148
abbrev F_decode_long : Nat := 149
abbrev F_utf8_decodeRuneSlow : Nat := 150
abbrev F_word_hex : Nat := 151
abbrev F_slices_Index_string_string : Nat := 152
abbrev F_bits_Len64 : Nat := 154
abbrev F_strconv_isPowerOfTwo : Nat := 156
abbrev F_bits_TrailingZeros : Nat := 157
abbrev F_slices_insertionSortCmpFunc_runes_span : Nat := 162
abbrev F_slices_heapSortCmpFunc_runes_span : Nat := 163
abbrev F_slices_breakPatternsCmpFunc_runes_span : Nat := 164
abbrev F_slices_choosePivotCmpFunc_runes_span : Nat := 165
abbrev F_slices_reverseRangeCmpFunc_runes_span : Nat := 166
abbrev F_slices_partialInsertionSortCmpFunc_runes_span : Nat := 167
abbrev F_slices_partitionEqualCmpFunc_runes_span : Nat := 168
abbrev F_slices_partitionCmpFunc_runes_span : Nat := 169
abbrev F_bits_Len32 : Nat := 170
abbrev F_decode_second : Nat := 171
abbrev F_slices_Clone_byte_byte : Nat := 172
abbrev F_bits_TrailingZeros64 : Nat := 174
abbrev T_uint8 : Nat := 5
abbrev T_word_Fault : Nat := 40
abbrev T_strings_Builder : Nat := 94
abbrev T_gram_fault : Nat := 115
abbrev T_decode_wrong : Nat := 189
abbrev F_told : Nat := 7
abbrev G_gram_own : Nat := 0
abbrev G_utf8_first : Nat := 3
abbrev G_utf8_acceptRanges : Nat := 4
abbrev G_bits_deBruijn64tab : Nat := 7
end Go.Ev
