/- Several texts of this claim, joined. -/
import Derived.Test.YtfkdecamhepibaaGreatDoorT29
set_option linter.unusedSimpArgs false
set_option linter.unusedVariables false

/- Ranges' normal form by cells and cuts: plainly. -/
namespace Go.Ev
open Go
set_option maxRecDepth 8000
def endsG (l : List S) : List Nat := l.flatMap fun x => [x.1, x.2]
def insN (c : Nat) : List Nat → List Nat
  | [] => [c]
  | x :: r => if x < c then x :: insN c r else if x = c then x :: r else c :: x :: r
def cutsG (l : List S) : List Nat := (endsG l).foldl (fun out c => insN c out) []
def inG (l : List S) (p : Nat) : Bool := l.any fun x => decide (x.1 ≤ p) && decide (p < x.2)
def runsF (is : Nat → Bool) : List Nat → Option Nat → List S
  | x :: y :: r, none => if is x then runsF is (y :: r) (some x) else runsF is (y :: r) none
  | x :: y :: r, some a => if is x then runsF is (y :: r) (some a) else (a, x) :: runsF is (y :: r) none
  | [x], some a => [(a, x)]
  | _, _ => []
theorem insN_mem {c d : Nat} : ∀ {l : List Nat}, d ∈ insN c l ↔ d = c ∨ d ∈ l
  | [] => by simp [insN]
  | x :: r => by
    rw [insN]
    split
    · rw [List.mem_cons, insN_mem (l := r), List.mem_cons]
      constructor
      · rintro (h | h | h)
        · exact .inr (.inl h)
        · exact .inl h
        · exact .inr (.inr h)
      · rintro (h | h | h)
        · exact .inr (.inl h)
        · exact .inl h
        · exact .inr (.inr h)
    · split
      · rename_i h1 h2; subst h2
        constructor
        · intro h; exact .inr h
        · rintro (rfl | h)
          · simp
          · exact h
      · rw [List.mem_cons]
theorem insN_sorted {c : Nat} : ∀ {l : List Nat}, l.Pairwise (· < ·) → (insN c l).Pairwise (· < ·)
  | [], _ => by simp [insN]
  | x :: r, h => by
    have h1 := List.pairwise_cons.1 h
    rw [insN]
    split
    · rename_i hx
      refine List.pairwise_cons.2 ⟨fun y hy => ?_, insN_sorted h1.2⟩
      rcases insN_mem.1 hy with rfl | hy
      · exact hx
      · exact h1.1 y hy
    · split
      · exact h
      · rename_i a b
        refine List.pairwise_cons.2 ⟨fun y hy => ?_, h⟩
        rcases List.mem_cons.1 hy with rfl | hy
        · omega
        · have := h1.1 y hy; omega
theorem insN_len {c : Nat} : ∀ {l : List Nat}, (insN c l).length ≤ l.length + 1
  | [] => by simp [insN]
  | x :: r => by
    rw [insN]
    split
    · have := insN_len (c := c) (l := r); simp only [List.length_cons]; omega
    · split <;> simp
theorem cuts_fold : ∀ (es acc : List Nat), acc.Pairwise (· < ·) → (es.foldl (fun out c => insN c out) acc).Pairwise (· < ·) ∧ (∀ d, d ∈ es.foldl (fun out c => insN c out) acc ↔ d ∈ acc ∨ d ∈ es) ∧ (es.foldl (fun out c => insN c out) acc).length ≤ acc.length + es.length
  | [], acc, h => ⟨h, fun d => by simp, by simp⟩
  | c :: es, acc, h => by
    obtain ⟨a, b, l⟩ := cuts_fold es (insN c acc) (insN_sorted h)
    have := insN_len (c := c) (l := acc)
    refine ⟨a, fun d => ?_, by simp only [List.foldl_cons, List.length_cons]; omega⟩
    rw [List.foldl_cons, b, insN_mem, List.mem_cons]
    constructor
    · rintro ((h | h) | h)
      · exact .inr (.inl h)
      · exact .inl h
      · exact .inr (.inr h)
    · rintro (h | h | h)
      · exact .inl (.inr h)
      · exact .inl (.inl h)
      · exact .inr h
theorem cuts_spec (l : List S) : (cutsG l).Pairwise (· < ·) ∧ (∀ d, d ∈ cutsG l ↔ d ∈ endsG l) ∧ (cutsG l).length ≤ 2 * l.length := by
  obtain ⟨a, b, c⟩ := cuts_fold (endsG l) [] List.Pairwise.nil
  refine ⟨a, fun d => by rw [cutsG, b]; simp, ?_⟩
  have : (endsG l).length = 2 * l.length := by
    unfold endsG
    induction l with
    | nil => rfl
    | cons x l ih => rw [List.flatMap_cons, List.length_append, ih (cuts_fold _ [] List.Pairwise.nil).1 (cuts_fold _ [] List.Pairwise.nil).2.1 (cuts_fold _ [] List.Pairwise.nil).2.2]; simp only [List.length_cons, List.length_nil]; omega
  have c' : (cutsG l).length ≤ ([] : List Nat).length + (endsG l).length := c
  simp only [List.length_nil] at c'
  omega
theorem ends_mem {l : List S} {d : Nat} : d ∈ endsG l ↔ ∃ x ∈ l, d = x.1 ∨ d = x.2 := by
  simp [endsG, List.mem_flatMap]
def inP (is : Nat → Bool) : List Nat → Nat → Prop
  | x :: y :: r, n => (x ≤ n ∧ n < y ∧ is x = true) ∨ inP is (y :: r) n
  | _, _ => False
theorem runs_inS {is : Nat → Bool} : ∀ (cs : List Nat) (st : Option Nat), cs.Pairwise (· < ·) → (∀ a, st = some a → ∃ x r, cs = x :: r ∧ a < x) → ∀ n, inS (runsF is cs st) n ↔ (∃ a x r, st = some a ∧ cs = x :: r ∧ a ≤ n ∧ n < x) ∨ inP is cs n
  | [], none, _, _, n => by
    simp only [runsF, inP, or_false]
    exact ⟨fun ⟨x, hx, _⟩ => (by cases hx), fun ⟨a, x, r, h, _⟩ => (by cases h)⟩
  | [], some a, _, h, n => by obtain ⟨x, r, e, _⟩ := h a rfl; cases e
  | [x], none, _, _, n => by
    simp only [runsF, inP, or_false]
    exact ⟨fun ⟨x, hx, _⟩ => (by cases hx), fun ⟨a, x, r, h, _⟩ => (by cases h)⟩
  | [x], some a, _, _, n => by
    simp only [runsF, inP, or_false]
    constructor
    · rintro ⟨y, hy, h1, h2⟩
      simp only [List.mem_singleton] at hy; subst hy
      exact ⟨a, x, [], rfl, rfl, h1, h2⟩
    · rintro ⟨a', x', r, h1, h2, h3, h4⟩
      injection h1 with h1; injection h2 with h2; subst h1; subst h2
      exact ⟨_, List.mem_singleton.2 rfl, h3, h4⟩
  | x :: y :: r, none, hp, _, n => by
    have hp1 := List.pairwise_cons.1 hp
    have hxy : x < y := hp1.1 y (by simp)
    rw [runsF]
    split
    · rename_i hx
      rw [runs_inS (y :: r) (some x) hp1.2 (fun a ha => by injection ha with ha; subst ha; exact ⟨y, r, rfl, hxy⟩) n, inP]
      constructor
      · rintro (⟨a, x', r', h1, h2, h3, h4⟩ | h)
        · injection h1 with h1; injection h2 with h2; subst h1; subst h2
          exact .inr (.inl ⟨h3, h4, hx⟩)
        · exact .inr (.inr h)
      · rintro (⟨a, x', r', h1, _⟩ | ⟨h1, h2, _⟩ | h)
        · cases h1
        · exact .inl ⟨x, y, r, rfl, rfl, h1, h2⟩
        · exact .inr h
    · rename_i hx
      rw [runs_inS (y :: r) none hp1.2 (fun a ha => by cases ha) n, inP]
      constructor
      · rintro (⟨a, x', r', h1, _⟩ | h)
        · cases h1
        · exact .inr (.inr h)
      · rintro (⟨a, x', r', h1, _⟩ | ⟨_, _, h⟩ | h)
        · cases h1
        · exact absurd h hx
        · exact .inr h
  | x :: y :: r, some a, hp, ha, n => by
    have hp1 := List.pairwise_cons.1 hp
    have hxy : x < y := hp1.1 y (by simp)
    have hax : a < x := by obtain ⟨x', r', e, h⟩ := ha a rfl; injection e with e; subst e; exact h
    rw [runsF]
    split
    · rename_i hx
      rw [runs_inS (y :: r) (some a) hp1.2 (fun b hb => by injection hb with hb; subst hb; exact ⟨y, r, rfl, by omega⟩) n, inP]
      constructor
      · rintro (⟨a', x', r', h1, h2, h3, h4⟩ | h)
        · injection h1 with h1; injection h2 with h2; subst h1; subst h2
          rcases Nat.lt_or_ge n x with hn | hn
          · exact .inl ⟨_, x, _, rfl, rfl, h3, hn⟩
          · exact .inr (.inl ⟨hn, h4, hx⟩)
        · exact .inr (.inr h)
      · rintro (⟨a', x', r', h1, h2, h3, h4⟩ | ⟨h1, h2, _⟩ | h)
        · injection h1 with h1; injection h2 with h2; subst h1; subst h2
          exact .inl ⟨_, y, r, rfl, rfl, h3, by omega⟩
        · exact .inl ⟨a, y, r, rfl, rfl, by omega, h2⟩
        · exact .inr h
    · rename_i hx
      rw [inS_cons, runs_inS (y :: r) none hp1.2 (fun a ha => by cases ha) n, inP]
      constructor
      · rintro (⟨h1, h2⟩ | ⟨a', x', r', h1, _⟩ | h)
        · exact .inl ⟨a, x, y :: r, rfl, rfl, h1, h2⟩
        · cases h1
        · exact .inr (.inr h)
      · rintro (⟨a', x', r', h1, h2, h3, h4⟩ | ⟨_, _, h⟩ | h)
        · injection h1 with h1; injection h2 with h2; subst h1; subst h2
          exact .inl ⟨h3, h4⟩
        · exact absurd h hx
        · exact .inr (.inr h)
theorem runs_apart {is : Nat → Bool} : ∀ (cs : List Nat) (st : Option Nat) (k : Nat), cs.Pairwise (· < ·) → (∀ a, st = some a → k ≤ a ∧ ∃ x r, cs = x :: r ∧ a < x) → (st = none → ∀ x r, cs = x :: r → k ≤ x) → apart k (runsF is cs st)
  | [], none, k, _, _, _ => trivial
  | [], some a, k, _, h, _ => by obtain ⟨_, x, r, e, _⟩ := h a rfl; cases e
  | [x], none, k, _, _, _ => trivial
  | [x], some a, k, _, h, _ => by
    obtain ⟨h1, x', r, e, h2⟩ := h a rfl
    injection e with e; subst e
    exact ⟨h1, h2, trivial⟩
  | x :: y :: r, none, k, hp, _, hn => by
    have hp1 := List.pairwise_cons.1 hp
    have hxy : x < y := hp1.1 y (by simp)
    have hk := hn rfl x _ rfl
    rw [runsF]
    split
    · exact runs_apart (y :: r) (some x) k hp1.2 (fun a ha => by injection ha with ha; subst ha; exact ⟨hk, y, r, rfl, hxy⟩) (fun h => by cases h)
    · exact runs_apart (y :: r) none k hp1.2 (fun a ha => by cases ha) (fun _ x' r' e => by injection e with e; omega)
  | x :: y :: r, some a, k, hp, ha, _ => by
    have hp1 := List.pairwise_cons.1 hp
    have hxy : x < y := hp1.1 y (by simp)
    obtain ⟨h1, x', r', e, h2⟩ := ha a rfl
    injection e with e; subst e
    rw [runsF]
    split
    · exact runs_apart (y :: r) (some a) k hp1.2 (fun b hb => by injection hb with hb; subst hb; exact ⟨h1, y, r, rfl, by omega⟩) (fun h => by cases h)
    · exact ⟨h1, h2, runs_apart (y :: r) none (x + 1) hp1.2 (fun a ha => by cases ha) (fun _ x' r' e => by injection e with e; omega)⟩
theorem inP_iff {is : Nat → Bool} {es : List Nat} (hc : ∀ p q : Nat, p ≤ q → (∀ e ∈ es, e ≤ p ∨ q < e) → is q = is p) : ∀ (cs : List Nat), cs.Pairwise (· < ·) → (∀ e ∈ es, e ∈ cs ∨ ∀ c ∈ cs, e ≤ c) → ∀ n, inP is cs n ↔ (∃ c ∈ cs, c ≤ n) ∧ (∃ c ∈ cs, n < c) ∧ is n = true
  | [], _, _, n => by simp [inP]
  | [x], _, _, n => by
    simp only [inP, false_iff]
    rintro ⟨⟨c, h1, h2⟩, ⟨d, h3, h4⟩, _⟩
    simp only [List.mem_singleton] at h1 h3
    omega
  | x :: y :: r, hp, he, n => by
    have hp1 := List.pairwise_cons.1 hp
    have hp2 := List.pairwise_cons.1 hp1.2
    have hxy : x < y := hp1.1 y (by simp)
    have he' : ∀ e ∈ es, e ∈ y :: r ∨ ∀ c ∈ y :: r, e ≤ c := fun e h => by
      rcases he e h with h1 | h1
      · rcases List.mem_cons.1 h1 with rfl | h1
        · exact .inr fun c hc => Nat.le_of_lt (hp1.1 c hc)
        · exact .inl h1
      · exact .inr fun c hc => h1 c (by simp [hc])
    rw [inP, inP_iff hc (y :: r) hp1.2 he' n]
    have key : x ≤ n → n < y → is n = is x := fun h1 h2 => hc x n h1 fun e h => by
      rcases he e h with h3 | h3
      · rcases List.mem_cons.1 h3 with rfl | h3
        · exact .inl (Nat.le_refl _)
        · rcases List.mem_cons.1 h3 with rfl | h3
          · exact .inr h2
          · have := hp2.1 e h3; exact .inr (by omega)
      · exact .inl (h3 x (by simp))
    constructor
    · rintro (⟨h1, h2, h3⟩ | ⟨⟨c, h1, h2⟩, ⟨d, h3, h4⟩, h5⟩)
      · exact ⟨⟨x, by simp, h1⟩, ⟨y, by simp, h2⟩, by rw [key h1 h2]; exact h3⟩
      · exact ⟨⟨c, by simp [h1], h2⟩, ⟨d, by simp [h3], h4⟩, h5⟩
    · rintro ⟨⟨c, h1, h2⟩, ⟨d, h3, h4⟩, h5⟩
      have hxn : x ≤ n := by
        rcases List.mem_cons.1 h1 with rfl | h1
        · exact h2
        · have := hp1.1 c h1; omega
      rcases Nat.lt_or_ge n y with hn | hn
      · exact .inl ⟨hxn, hn, by rw [← key hxn hn]; exact h5⟩
      · refine .inr ⟨⟨y, by simp, hn⟩, ⟨d, ?_, h4⟩, h5⟩
        rcases List.mem_cons.1 h3 with rfl | h3
        · omega
        · exact h3
theorem inG_iff {l : List S} {n : Nat} : inG l n = true ↔ inS l n := by
  simp [inG, inS]
theorem inG_flat {l : List S} {p q : Nat} (h : p ≤ q) (he : ∀ e ∈ endsG l, e ≤ p ∨ q < e) : inG l q = inG l p := by
  rw [Bool.eq_iff_iff, inG_iff, inG_iff]
  have key : ∀ x ∈ l, (x.1 ≤ q ∧ q < x.2) ↔ (x.1 ≤ p ∧ p < x.2) := fun x hx => by
    have h1 := he x.1 (ends_mem.2 ⟨x, hx, .inl rfl⟩)
    have h2 := he x.2 (ends_mem.2 ⟨x, hx, .inr rfl⟩)
    omega
  constructor
  · rintro ⟨x, hx, h1⟩; exact ⟨x, hx, (key x hx).1 h1⟩
  · rintro ⟨x, hx, h1⟩; exact ⟨x, hx, (key x hx).2 h1⟩
def mostN : Nat := 1112064
/-- What is picked of all runes, by cells. -/
def pickG (a : List S) (is : Nat → Bool) : List S := runsF is (cutsG ((0, mostN) :: a)) none
theorem behN_most (r : Int) : behN r ≤ mostN := by
  unfold behN isR numN mostN
  repeat' split
  all_goals (simp_all; try omega)
theorem preL_most {l : List R} : ∀ x ∈ preL l, x.1 < x.2 ∧ x.2 ≤ mostN := by
  intro x hx
  obtain ⟨r, _, h⟩ := List.mem_filterMap.1 hx
  unfold preS at h
  split at h
  · injection h with h; subst h
    rename_i h1
    exact ⟨h1.2, behN_most _⟩
  · cases h
theorem pick_spec {a : List S} {is : Nat → Bool} (ha : ∀ x ∈ a, x.1 < x.2 ∧ x.2 ≤ mostN) (hc : ∀ p q : Nat, p ≤ q → (∀ e ∈ endsG a, e ≤ p ∨ q < e) → is q = is p) :
    apart 0 (pickG a is) ∧ ∀ n, inS (pickG a is) n ↔ n < mostN ∧ is n = true := by
  obtain ⟨h1, h2, _⟩ := cuts_spec ((0, mostN) :: a)
  refine ⟨runs_apart _ none 0 h1 (fun a h => by cases h) (fun _ _ _ _ => Nat.zero_le _), fun n => ?_⟩
  unfold pickG
  rw [runs_inS _ none h1 (fun a h => by cases h) n, inP_iff (es := endsG a) hc _ h1 (fun e he => .inl ((h2 e).2 (by rw [endsG, List.flatMap_cons, List.mem_append]; exact .inr he))) n]
  have m0 : 0 ∈ cutsG ((0, mostN) :: a) := (h2 0).2 (ends_mem.2 ⟨(0, mostN), by simp, .inl rfl⟩)
  have m1 : mostN ∈ cutsG ((0, mostN) :: a) := (h2 mostN).2 (ends_mem.2 ⟨(0, mostN), by simp, .inr rfl⟩)
  constructor
  · rintro (⟨a, x, r, h, _⟩ | ⟨_, ⟨c, h3, h4⟩, h5⟩)
    · cases h
    · refine ⟨?_, h5⟩
      obtain ⟨x, hx, hh⟩ := ends_mem.1 ((h2 c).1 h3)
      rcases List.mem_cons.1 hx with rfl | hx
      · simp only at hh; unfold mostN at *; omega
      · have := ha x hx; omega
  · rintro ⟨h3, h4⟩
    exact .inr ⟨⟨0, m0, Nat.zero_le _⟩, ⟨_, m1, h3⟩, h4⟩
theorem spansF_spec (l : List R) : apart 0 (spansF l) ∧ ∀ n, inS (spansF l) n ↔ inS (preL l) n := by
  obtain ⟨a, b⟩ := mF_spec (l := srtS (preL l)) (fun x hx => preL_ok x (srtS_mem.1 hx)) (srtS_sorted _)
  refine ⟨a, fun n => ?_⟩
  rw [spansF, b]
  exact ⟨fun ⟨x, hx, h⟩ => ⟨x, srtS_mem.1 hx, h⟩, fun ⟨x, hx, h⟩ => ⟨x, srtS_mem.2 hx, h⟩⟩
theorem pick_norm (l : List R) : pickG (preL l) (inG (preL l)) = spansF l := by
  obtain ⟨a, b⟩ := pick_spec (a := preL l) (is := inG (preL l)) preL_most (fun p q h he => inG_flat h he)
  obtain ⟨c, d⟩ := spansF_spec l
  refine apart_eq a c fun n => ?_
  rw [b, d, inG_iff]
  constructor
  · exact fun h => h.2
  · rintro ⟨x, hx, h1, h2⟩
    have := preL_most x hx
    exact ⟨by omega, x, hx, h1, h2⟩
theorem apart_le : ∀ {l : List S} {j k : Nat}, apart k l → j ≤ k → apart j l
  | [], _, _, _, _ => trivial
  | _ :: _, _, _, ⟨h1, h2, h3⟩, h => ⟨by omega, h2, h3⟩
theorem gaps_spec : ∀ (l : List S) (k : Nat), apart k l → (∀ x ∈ l, x.2 ≤ mostN) → (∀ j, j ≤ k → apart j (gapsF k l)) ∧ ∀ n, inS (gapsF k l) n ↔ k ≤ n ∧ n < mostN ∧ ¬ inS l n
  | [], k, _, _ => by
    rw [gapsF]
    have h0 : ∀ n, ¬ inS [] n := fun n ⟨x, hx, _⟩ => (by cases hx)
    split
    · rename_i hk
      refine ⟨fun j hj => ⟨hj, hk, trivial⟩, fun n => ?_⟩
      constructor
      · rintro ⟨x, hx, h1, h2⟩
        simp only [List.mem_singleton] at hx; subst hx
        exact ⟨h1, h2, h0 n⟩
      · rintro ⟨h1, h2, _⟩
        exact ⟨_, List.mem_singleton.2 rfl, h1, h2⟩
    · rename_i hk
      refine ⟨fun j hj => trivial, fun n => ?_⟩
      constructor
      · intro h; exact absurd h (h0 n)
      · rintro ⟨h1, h2, _⟩; unfold mostN at h2; omega
  | x :: l, k, ⟨h1, h2, h3⟩, hm => by
    obtain ⟨a, b⟩ := gaps_spec l x.2 (apart_le h3 (by omega)) (fun y hy => hm y (by simp [hy]))
    have hx2 := hm x (by simp)
    have hl : ∀ n, inS l n → x.2 < n := fun n h => by have := apart_ge h3 h; omega
    rw [gapsF]
    split
    · rename_i hk
      refine ⟨fun j hj => ⟨hj, hk, a _ (by omega)⟩, fun n => ?_⟩
      rw [inS_cons, inS_cons, b]
      simp only
      constructor
      · rintro (⟨g1, g2⟩ | ⟨g1, g2, g3⟩)
        · exact ⟨g1, by omega, fun h => h.elim (fun h => by omega) (fun h => by have := hl n h; omega)⟩
        · exact ⟨by omega, g2, fun h => h.elim (fun h => by omega) g3⟩
      · rintro ⟨g1, g2, g3⟩
        rcases Nat.lt_or_ge n x.1 with h | h
        · exact .inl ⟨g1, h⟩
        · exact .inr ⟨by rcases Nat.lt_or_ge n x.2 with h' | h'; exact absurd (.inl ⟨h, h'⟩) g3; exact h', g2, fun h' => g3 (.inr h')⟩
    · rename_i hk
      refine ⟨fun j hj => a j (by omega), fun n => ?_⟩
      rw [inS_cons, b]
      constructor
      · rintro ⟨g1, g2, g3⟩
        exact ⟨by omega, g2, fun h => h.elim (fun h => by omega) g3⟩
      · rintro ⟨g1, g2, g3⟩
        exact ⟨by rcases Nat.lt_or_ge n x.2 with h' | h'; exact absurd (.inl ⟨by omega, h'⟩) g3; exact h', g2, fun h' => g3 (.inr h')⟩
theorem pick_not (l : List R) : pickG (preL l) (fun n => !inG (preL l) n) = gapsF 0 (spansF l) := by
  obtain ⟨a, b⟩ := pick_spec (a := preL l) (is := fun n => !inG (preL l) n) preL_most (fun p q h he => by rw [inG_flat h he])
  obtain ⟨c, d⟩ := spansF_spec l
  have hm : ∀ x ∈ spansF l, x.2 ≤ mostN := fun x hx => by
    have hlt : x.1 < x.2 := by
      have : ∀ (m : List S) (k : Nat), apart k m → ∀ y ∈ m, y.1 < y.2 := fun m => by
        induction m with
        | nil => intro k _ y hy; cases hy
        | cons z m ih =>
          intro k h y hy
          rcases List.mem_cons.1 hy with rfl | hy
          · exact h.2.1
          · exact ih _ h.2.2 y hy
      exact this _ 0 c x hx
    obtain ⟨y, hy, _, h2⟩ := (d (x.2 - 1)).1 ⟨x, hx, by omega, by omega⟩
    have := preL_most y hy
    omega
  obtain ⟨e, f⟩ := gaps_spec (spansF l) 0 c hm
  refine apart_eq a (e 0 (Nat.le_refl _)) fun n => ?_
  rw [b, f, d, Bool.not_eq_true', ← inG_iff, Bool.not_eq_true]
  simp
/- Package goboref3: places, cells, which are in. -/
open Go.Ev renaming seqK_normal → zA, blockK_normal → zB, blockK_exit → zC
open Nat renaming reduceEqDiff → zD, reduceAdd → zE, reduceSub → zF, reduceMul → zG, reduceLeDiff → zH, reduceLT → zI
open Int renaming reduceToNat → zJ, reduceLT → zK, reduceLE → zL, reduceEq → zM, reduceAdd → zN, reduceSub → zO, reduceMul → zP
set_option maxRecDepth 8000
theorem rcells_fld {l : List R} {i : Nat} {x : R} (h : l[i]? = some x) : (rcells l)[i * 2]? = some (.int .i32 x.lo) ∧ (rcells l)[i * 2 + 1]? = some (.int .i32 x.hi) := by
  obtain ⟨h1, h2⟩ := rcells_at h
  have g : ∀ j, j < 2 → (rcells l)[i * 2 + j]? = (List.take 2 (List.drop (i * 2) (rcells l)))[j]? := fun j hj => by
    rw [List.getElem?_take_of_lt hj, List.getElem?_drop]
  exact ⟨by have := g 0 (by omega); rw [h1] at this; exact this, by have := g 1 (by omega); rw [h1] at this; exact this⟩
section
variable {o : CallF} (ho : OvOnly o)
include ho
theorem g_placeU {r : Int} (hr : I32 r) {H : Heap} {Q : End → Heap → Prop} (h : Q (.ret (.int .i64 (numN r : Int))) H) : wpf ⟨bt.get, o⟩ F_goboref3_place [.int .i64 r, .bool true] H Q := by
  rw [fn_goboref3_place (ho _ _ _ (by decide))]
  unfold I32 at hr
  by_cases c1 : r < 0
  · have e : numN r = 0 := by simp only [numN, if_pos c1]
    rw [e] at h
    simp only [bd_goboref3_place, go_sem, zA, zB, zC, reduceIte, zD, zE, zF, zG, zH, zI, reduceCtorEq, zJ, zK, zL, zM, zN, zO, zP, c1]
    exact h
  · by_cases c2 : r < 55296
    · have e : (numN r : Int) = r := by simp only [numN, if_neg c1, if_pos c2]; omega
      rw [e] at h
      simp only [bd_goboref3_place, go_sem, zA, zB, zC, reduceIte, zD, zE, zF, zG, zH, zI, reduceCtorEq, zJ, zK, zL, zM, zN, zO, zP, c1, c2]
      exact h
    · by_cases c3 : r ≤ 57343
      · have e : (numN r : Int) = 55296 := by simp only [numN, if_neg c1, if_neg c2, if_pos c3]; rfl
        rw [e] at h
        simp only [bd_goboref3_place, go_sem, zA, zB, zC, reduceIte, zD, zE, zF, zG, zH, zI, reduceCtorEq, zJ, zK, zL, zM, zN, zO, zP, c1, c2, c3]
        exact h
      · by_cases c4 : 1114111 < r
        · have e : (numN r : Int) = 1112064 := by
            simp only [numN, if_neg c1, if_neg c2, if_neg c3]
            split <;> omega
          rw [e] at h
          simp only [bd_goboref3_place, go_sem, zA, zB, zC, reduceIte, zD, zE, zF, zG, zH, zI, reduceCtorEq, zJ, zK, zL, zM, zN, zO, zP, c1, c2, c3, c4, GT.gt]
          exact h
        · have e : (numN r : Int) = r - 2048 := by
            simp only [numN, if_neg c1, if_neg c2, if_neg c3, if_neg (show ¬ 1114112 < r by omega)]; omega
          have w : IntKind.i64.wrap (r - 2048) = r - 2048 := by rw [IntKind.wrap_i64]; omega
          rw [e] at h
          simp only [bd_goboref3_place, go_sem, zA, zB, zC, reduceIte, zD, zE, zF, zG, zH, zI, reduceCtorEq, zJ, zK, zL, zM, zN, zO, zP, c1, c2, c3, c4, w, GT.gt]
          exact h
theorem g_placeD {r : Int} (hr : I32 r) (h0 : 0 ≤ r) {H : Heap} {Q : End → Heap → Prop} (h : Q (.ret (.int .i64 ((behN r : Int) - 1))) H) : wpf ⟨bt.get, o⟩ F_goboref3_place [.int .i64 r, .bool false] H Q := by
  rw [fn_goboref3_place (ho _ _ _ (by decide))]
  unfold I32 at hr
  have c1 : ¬ r < 0 := by omega
  by_cases c2 : r < 55296
  · have e : (behN r : Int) - 1 = r := by
      simp only [behN, isR, numN, if_neg c1, if_pos c2, h0, c2, decide_true, Bool.true_and, Bool.true_or, if_true]; omega
    rw [e] at h
    simp only [bd_goboref3_place, go_sem, zA, zB, zC, reduceIte, zD, zE, zF, zG, zH, zI, reduceCtorEq, zJ, zK, zL, zM, zN, zO, zP, c1, c2]
    exact h
  · by_cases c3 : r ≤ 57343
    · have e : (behN r : Int) - 1 = 55295 := by
        have c5 : ¬ 57343 < r := by omega
        simp only [behN, isR, numN, if_neg c1, if_neg c2, if_pos c3, c2, c5, decide_false, Bool.and_false, Bool.false_and, Bool.or_false, Bool.false_eq_true, if_false]; rfl
      rw [e] at h
      simp only [bd_goboref3_place, go_sem, zA, zB, zC, reduceIte, zD, zE, zF, zG, zH, zI, reduceCtorEq, zJ, zK, zL, zM, zN, zO, zP, c1, c2, c3]
      exact h
    · by_cases c4 : 1114111 < r
      · have e : (behN r : Int) - 1 = 1112063 := by
          have c5 : ¬ r ≤ 1114111 := by omega
          simp only [behN, isR, numN, if_neg c1, if_neg c2, if_neg c3, c2, c5, decide_false, Bool.and_false, Bool.false_and, Bool.or_false, Bool.false_eq_true, if_false]
          split <;> omega
        rw [e] at h
        simp only [bd_goboref3_place, go_sem, zA, zB, zC, reduceIte, zD, zE, zF, zG, zH, zI, reduceCtorEq, zJ, zK, zL, zM, zN, zO, zP, c1, c2, c3, c4, GT.gt]
        exact h
      · have e : (behN r : Int) - 1 = r - 2048 := by
          have c5 : r ≤ 1114111 := by omega
          have c6 : 57343 < r := by omega
          simp only [behN, isR, numN, if_neg c1, if_neg c2, if_neg c3, if_neg (show ¬ 1114112 < r by omega), c5, c6, decide_true, Bool.and_true, Bool.or_true, if_true]; omega
        have w : IntKind.i64.wrap (r - 2048) = r - 2048 := by rw [IntKind.wrap_i64]; omega
        rw [e] at h
        simp only [bd_goboref3_place, go_sem, zA, zB, zC, reduceIte, zD, zE, zF, zG, zH, zI, reduceCtorEq, zJ, zK, zL, zM, zN, zO, zP, c1, c2, c3, c4, w, GT.gt]
        exact h
theorem g_at {p : Nat} (hp : p ≤ 1112064) {H : Heap} {Q : End → Heap → Prop} (h : Q (.ret (.int .i32 (valN p : Int))) H) : wpf ⟨bt.get, o⟩ F_goboref3_at [.int .i64 (p : Int)] H Q := by
  rw [fn_goboref3_at (ho _ _ _ (by decide))]
  by_cases c : p < 55296
  · have c' : ¬ (55296 : Int) ≤ (p : Int) := by omega
    have e : valN p = p := by simp only [valN, if_pos c]
    have w : IntKind.i32.wrap (p : Int) = (p : Int) := wi32 (by omega) (by omega)
    rw [e] at h
    simp only [bd_goboref3_at, go_sem, zA, zB, zC, reduceIte, zD, zE, zF, zG, zH, zI, reduceCtorEq, zJ, zK, zL, zM, zN, zO, zP, c', w, GE.ge]
    exact h
  · have c' : (55296 : Int) ≤ (p : Int) := by omega
    have e : (valN p : Int) = (p : Int) + 2048 := by simp only [valN, if_neg c]; omega
    have w1 : IntKind.i64.wrap ((p : Int) + 2048) = (p : Int) + 2048 := by rw [IntKind.wrap_i64]; omega
    have w : IntKind.i32.wrap ((p : Int) + 2048) = (p : Int) + 2048 := wi32 (by omega) (by omega)
    rw [e] at h
    simp only [bd_goboref3_at, go_sem, zA, zB, zC, reduceIte, zD, zE, zF, zG, zH, zI, reduceCtorEq, zJ, zK, zL, zM, zN, zO, zP, c', w1, w, GE.ge]
    exact h
omit ho in
theorem preS_none {c : R} (h : c.hi < c.lo ∨ c.hi < 0 ∨ 1114111 < c.lo) : preS c = none := by
  unfold preS
  rw [if_neg]
  rintro ⟨h1, h2⟩
  rcases h with h | h | h
  · omega
  · have : behN c.hi = 0 := by
      have c2 : ¬ 0 ≤ c.hi := by omega
      have c3 : ¬ 57343 < c.hi := by omega
      simp only [behN, isR, numN, if_pos h, c2, c3, decide_false, Bool.false_and, Bool.or_false, Bool.false_eq_true, if_false]
    omega
  · have := behN_most c.hi
    have e : numN c.lo = 1112064 := by
      simp only [numN, if_neg (show ¬ c.lo < 0 by omega), if_neg (show ¬ c.lo < 55296 by omega), if_neg (show ¬ c.lo ≤ 57343 by omega)]
      split <;> omega
    unfold mostN at this
    omega
theorem g_cells_loop {l : List R} {v : AV} {rb : Nat} (hl : l.length ≤ 1000000) (hr : ∀ r ∈ l, I32 r.lo ∧ I32 r.hi) {n0 : Nat} (hrb : 0 < l.length → rb < n0) {H0 : Heap} {Q : Ctl → St → Prop} : ∀ (r : List R) (i : Nat) (acc : List S) (sv : AV) (H : Heap), l.drop i = r → i ≤ l.length → acc.length ≤ i → Rd H 2 (rcells l) l.length v rb → Ext n0 H0 H → n0 ≤ H.size → Sl n0 H 2 (scells acc) acc.length sv →
    (∀ (H' : Heap) (sv' : AV) x1 x2 x3 t, Ext n0 H0 H' → Sl n0 H' 2 (scells (acc ++ preL r)) (acc ++ preL r).length sv' → Q (.exit 0) { p := [(0, x1), (3, sv'), (4, x2), (10, x3)], t := t, H := H', d := [], u := .norm }) →
    wpl ⟨bt.get, o⟩ [0, 3, 4] lb_goboref3_cells_0 { p := [(0, v), (3, sv), (4, .int .i64 i)], t := [], H := H, d := [], u := .norm } Q
  | [], i, acc, sv, H, hd, hi, ha, hR, hx, hn, hS, hQ => by
    have : l.length ≤ i := List.drop_eq_nil_iff.1 hd
    rw [wpl_step]
    have h1 : ¬((i : Int) < (l.length : Int)) := by omega
    simp only [lb_goboref3_cells_0, go_sem, zA, zB, zC, reduceIte, zD, zE, zF, zG, zH, zI, reduceCtorEq, zJ, zK, zL, zM, zN, zO, zP, hR.len, h1]
    exact hQ H sv _ _ _ _ hx (by simpa [preL] using hS)
  | c :: r, i, acc, sv, H, hd, hi, ha, hR, hx, hn, hS, hQ => by
    obtain ⟨h0, h1, h2⟩ := list_at hd
    obtain ⟨⟨u, hg⟩, hel, _⟩ := hR.pos (by omega)
    have el := hel i h1
    have hlt : rb < H.size := Heap.lt_of_get (by rw [hg]; simp)
    obtain ⟨c1, c2⟩ := rcells_fld h0
    obtain ⟨r1, r2⟩ := hr c (List.mem_of_getElem? h0)
    rw [wpl_step]
    have h1' : ((i : Int) < (l.length : Int)) := by omega
    have iw := wsucc (show i ≤ 1000000000 by omega)
    have skip : preS c = none → wpl ⟨bt.get, o⟩ [0, 3, 4] lb_goboref3_cells_0 { p := [(0, v), (3, sv), (4, .int .i64 ((i + 1 : Nat) : Int))], t := [], H := H, d := [], u := .norm } Q := by
      intro hp
      refine g_cells_loop hl hr hrb r (i + 1) acc sv H h2 (by omega) (by omega) hR hx hn hS fun H' sv' x1 x2 x3 t k1 k2 => hQ H' sv' x1 x2 x3 t k1 ?_
      have : preL (c :: r) = preL r := by simp [preL, hp]
      rw [this]; exact k2
    by_cases q1 : c.hi < c.lo
    · simp only [lb_goboref3_cells_0, go_sem, zA, zB, zC, reduceIte, zD, zE, zF, zG, zH, zI, reduceCtorEq, zJ, zK, zL, zM, zN, zO, zP, hR.len, h1', el, hg, c1, c2, q1, iw, GT.gt]
      exact skip (preS_none (.inl q1))
    · by_cases q2 : c.hi < 0
      · simp only [lb_goboref3_cells_0, go_sem, zA, zB, zC, reduceIte, zD, zE, zF, zG, zH, zI, reduceCtorEq, zJ, zK, zL, zM, zN, zO, zP, hR.len, h1', el, hg, c1, c2, q1, q2, iw, GT.gt]
        exact skip (preS_none (.inr (.inl q2)))
      · by_cases q3 : 1114111 < c.lo
        · simp only [lb_goboref3_cells_0, go_sem, zA, zB, zC, reduceIte, zD, zE, zF, zG, zH, zI, reduceCtorEq, zJ, zK, zL, zM, zN, zO, zP, hR.len, h1', el, hg, c1, c2, q1, q2, q3, iw, GT.gt]
          exact skip (preS_none (.inr (.inr q3)))
        · have w1 : IntKind.i64.wrap c.lo = c.lo := by unfold I32 at r1; rw [IntKind.wrap_i64]; omega
          have w2 : IntKind.i64.wrap c.hi = c.hi := by unfold I32 at r2; rw [IntKind.wrap_i64]; omega
          have w3 : IntKind.i64.wrap ((behN c.hi : Int) - 1 + 1) = (behN c.hi : Int) := by
            have := behN_le c.hi
            rw [IntKind.wrap_i64]; omega
          simp only [lb_goboref3_cells_0, go_sem, zA, zB, zC, reduceIte, zD, zE, zF, zG, zH, zI, reduceCtorEq, zJ, zK, zL, zM, zN, zO, zP, hR.len, h1', el, hg, c1, c2, q1, q2, q3, w1, GT.gt]
          refine g_placeU ho r1 ?_
          simp only [go_sem, zA, zB, zC, reduceIte, zD, zE, zF, zG, zH, zI, reduceCtorEq, zJ, zK, zL, zM, zN, zO, zP, el, hg, c2, w2, AV.beq_self]
          refine g_placeD ho r2 (by omega) ?_
          simp only [go_sem, zA, zB, zC, reduceIte, zD, zE, zF, zG, zH, zI, reduceCtorEq, zJ, zK, zL, zM, zN, zO, zP, w3]
          by_cases q4 : numN c.lo < behN c.hi
          · have q4' : (numN c.lo : Int) < (behN c.hi : Int) := by omega
            have hp : preS c = some (numN c.lo, behN c.hi) := by simp only [preS, q4, and_true]; rw [if_pos (by omega)]
            obtain ⟨ob, H', ea, hx1, hsl⟩ := append_spec (bytes := 16) (ys := [.int .i64 (numN c.lo : Int), .int .i64 (behN c.hi : Int)]) (k := 1) (Sl.push (x := .cells [.int .i64 (numN c.lo : Int), .int .i64 (behN c.hi : Int)] .own) hS) (by rw [Heap.size_push]; omega) (by omega) rfl (by omega) (by omega)
            simp only [go_sem, zA, zB, zC, reduceIte, zD, zE, zF, zG, zH, zI, reduceCtorEq, zJ, zK, zL, zM, zN, zO, zP, q4', ea, iw]
            have hx2 : Ext n0 H H' := (Ext.push hn).trans hx1
            refine g_cells_loop hl hr hrb r (i + 1) (acc ++ [(numN c.lo, behN c.hi)]) _ H' h2 (by omega) (by simp; omega) (hR.keep fun h => hx2.2 rb (hrb h)) (hx.trans hx2) (Nat.le_trans hn hx2.1) (by rw [scells_app, List.length_append]; exact hsl) fun H' sv' x1 x2 x3 t k1 k2 => hQ H' sv' x1 x2 x3 t k1 ?_
            have : acc ++ preL (c :: r) = acc ++ [(numN c.lo, behN c.hi)] ++ preL r := by simp [preL, hp]
            rw [this]; exact k2
          · have q4' : ¬ (numN c.lo : Int) < (behN c.hi : Int) := by omega
            simp only [go_sem, zA, zB, zC, reduceIte, zD, zE, zF, zG, zH, zI, reduceCtorEq, zJ, zK, zL, zM, zN, zO, zP, q4', iw]
            exact skip (by simp only [preS, q4, and_false, if_false])
theorem g_cells {l : List R} {v : AV} {rb : Nat} (hl : l.length ≤ 1000000) (hr : ∀ r ∈ l, I32 r.lo ∧ I32 r.hi) {H : Heap} (hR : Rd H 2 (rcells l) l.length v rb) {Q : End → Heap → Prop}
    (hQ : ∀ H' v', Ext H.size H H' → Sl H.size H' 2 (scells (preL l)) (preL l).length v' → Q (.ret v') H') : wpf ⟨bt.get, o⟩ F_goboref3_cells [v] H Q := by
  rw [fn_goboref3_cells (ho _ _ _ (by decide))]
  simp only [bd_goboref3_cells, go_sem, zA, zB, zC, reduceIte, zD, zE, zF, zG, zH, zI, reduceCtorEq, zJ, zK, zL, zM, zN, zO, zP]
  refine g_cells_loop ho hl hr (fun h => hR.lt h) l 0 [] .nils H rfl (Nat.zero_le _) (Nat.le_refl _) hR Ext.refl (Nat.le_refl _) Sl.nil fun H1 sv x1 x2 x3 t k1 k2 => ?_
  simp only [go_sem, zA, zB, zC, reduceIte, zD, zE, zF, zG, zH, zI, reduceCtorEq, zJ, zK, zL, zM, zN, zO, zP]
  exact hQ _ _ k1 (by simpa using k2)
omit ho in
theorem g_in_loop {l : List S} {v : AV} {rb p : Nat} (hl : l.length ≤ 1000000) {H : Heap} (hR : Rd H 2 (scells l) l.length v rb) {Q : Ctl → St → Prop} : ∀ (r : List S) (i : Nat), l.drop i = r → i ≤ l.length →
    (inG r p = false → ∀ σ : St, σ.H = H → σ.d = [] → Q (.exit 0) σ) → (inG r p = true → ∀ σ : St, σ.H = H → σ.d = [] → lk 4 σ.p = some (.bool true) → Q .ret σ) →
    wpl ⟨bt.get, o⟩ [0, 1, 5] lb_goboref3_in_0 { p := [(0, v), (1, .int .i64 (p : Int)), (5, .int .i64 i)], t := [], H := H, d := [], u := .norm } Q
  | [], i, hd, hi, hF, hT => by
    have : l.length ≤ i := List.drop_eq_nil_iff.1 hd
    rw [wpl_step]
    have h1 : ¬((i : Int) < (l.length : Int)) := by omega
    simp only [lb_goboref3_in_0, go_sem, zA, zB, zC, reduceIte, zD, zE, zF, zG, zH, zI, reduceCtorEq, zJ, zK, zL, zM, zN, zO, zP, hR.len, h1]
    exact hF rfl _ rfl rfl
  | c :: r, i, hd, hi, hF, hT => by
    obtain ⟨h0, h1, h2⟩ := list_at hd
    obtain ⟨⟨u, hg⟩, hel, _⟩ := hR.pos (by omega)
    have el := hel i h1
    obtain ⟨c1, c2⟩ := scells_fld h0
    rw [wpl_step]
    have h1' : ((i : Int) < (l.length : Int)) := by omega
    have iw := wsucc (show i ≤ 1000000000 by omega)
    by_cases q1 : c.1 ≤ p
    · have q1' : (c.1 : Int) ≤ (p : Int) := by omega
      by_cases q2 : p < c.2
      · have q2' : (p : Int) < (c.2 : Int) := by omega
        simp only [lb_goboref3_in_0, go_sem, zA, zB, zC, reduceIte, zD, zE, zF, zG, zH, zI, reduceCtorEq, zJ, zK, zL, zM, zN, zO, zP, hR.len, h1', el, hg, c1, c2, q1', q2']
        exact hT (by simp [inG, q1, q2]) _ rfl rfl rfl
      · have q2' : ¬ (p : Int) < (c.2 : Int) := by omega
        have e : inG (c :: r) p = inG r p := by simp [inG, q1, q2]
        rw [e] at hF hT
        simp only [lb_goboref3_in_0, go_sem, zA, zB, zC, reduceIte, zD, zE, zF, zG, zH, zI, reduceCtorEq, zJ, zK, zL, zM, zN, zO, zP, hR.len, h1', el, hg, c1, c2, q1', q2', iw]
        exact g_in_loop hl hR r (i + 1) h2 (by omega) hF hT
    · have q1' : ¬ (c.1 : Int) ≤ (p : Int) := by omega
      have e : inG (c :: r) p = inG r p := by simp [inG, q1]
      rw [e] at hF hT
      simp only [lb_goboref3_in_0, go_sem, zA, zB, zC, reduceIte, zD, zE, zF, zG, zH, zI, reduceCtorEq, zJ, zK, zL, zM, zN, zO, zP, hR.len, h1', el, hg, c1, c2, q1', iw]
      exact g_in_loop hl hR r (i + 1) h2 (by omega) hF hT
theorem g_in {l : List S} {v : AV} {rb p : Nat} (hl : l.length ≤ 1000000) {H : Heap} (hR : Rd H 2 (scells l) l.length v rb) {Q : End → Heap → Prop} (h : Q (.ret (.bool (inG l p))) H) : wpf ⟨bt.get, o⟩ F_goboref3_in [v, .int .i64 (p : Int)] H Q := by
  rw [fn_goboref3_in (ho _ _ _ (by decide))]
  simp only [bd_goboref3_in, go_sem, zA, zB, zC, reduceIte, zD, zE, zF, zG, zH, zI, reduceCtorEq, zJ, zK, zL, zM, zN, zO, zP]
  refine g_in_loop hl hR l 0 rfl (Nat.zero_le _) (fun e σ k1 k2 => ?_) (fun e σ k1 k2 k3 => ?_)
  · simp only [go_sem, zA, zB, zC, reduceIte, zD, zE, zF, zG, zH, zI, reduceCtorEq, zJ, zK, zL, zM, zN, zO, zP, k1, k2, lk_up]
    rw [e] at h; exact h
  · simp only [go_sem, zA, zB, zC, reduceIte, zD, zE, zF, zG, zH, zI, reduceCtorEq, zJ, zK, zL, zM, zN, zO, zP, k1, k2, k3]
    rw [e] at h; exact h
end
end Go.Ev
