/- Several texts of this claim, joined. -/
import Derived.Test.YtimbiogcllmalaaDoorXE

/- Blanks between words: the plain law of words. -/
namespace Go.Ev
open Go
set_option linter.unusedSimpArgs false
set_option linter.unusedVariables false

/-- The words of a text that begins at a place. -/
def wd (r : List UInt8) (i : Nat) : Except Nat (List W) := wordsL r.length r i

theorem wordsL_fuel : ∀ (n : Nat) (r : List UInt8) (i : Nat), r.length ≤ n → wordsL n r i = wd r i := by
  have key : ∀ (m : Nat) (r : List UInt8), r.length ≤ m → ∀ (n n' : Nat) (i : Nat), r.length ≤ n → r.length ≤ n' → wordsL n r i = wordsL n' r i := by
    intro m
    induction m with
    | zero =>
      intro r hr n n' i h h'
      have : r = [] := by cases r; rfl; simp at hr
      subst this
      cases n <;> cases n' <;> rfl
    | succ m ih =>
      intro r hr n n' i h h'
      cases r with
      | nil => cases n <;> cases n' <;> rfl
      | cons c r =>
        simp only [List.length_cons] at hr h h'
        cases n with
        | zero => omega
        | succ n =>
          cases n' with
          | zero => omega
          | succ n' =>
            have d : ∀ k, (r.drop k).length ≤ m := fun k => by rw [List.length_drop]; omega
            have e0 := fun i => ih r (by omega) n n' i (by omega) (by omega)
            have e1 := fun k i => ih (r.drop k) (d k) n n' i (by rw [List.length_drop]; omega) (by rw [List.length_drop]; omega)
            simp only [wordsL, e0, e1]
  intro n r i h
  exact key r.length r (Nat.le_refl _) n r.length i h (Nat.le_refl _)

theorem wd_nil (i : Nat) : wd [] i = .ok [] := rfl
theorem wd_cons (c : UInt8) (r : List UInt8) (i : Nat) : wd (c :: r) i =
    if c.toNat = 32 ∨ c.toNat = 9 ∨ c.toNat = 13 then wd r (i + 1)
    else if c.toNat = 35 then wd (r.drop (runL notNL r)) (i + 1 + runL notNL r)
    else if c.toNat = 10 then consW ⟨5, [], i⟩ (wd r (i + 1))
    else if letterB c then consW ⟨1, c :: r.take (runL ldB r), i⟩ (wd (r.drop (runL ldB r)) (i + 1 + runL ldB r))
    else if digitB c then consW ⟨2, c :: r.take (runL digitB r), i⟩ (wd (r.drop (runL digitB r)) (i + 1 + runL digitB r))
    else if signB c then consW ⟨3, [c], i⟩ (wd r (i + 1))
    else if c.toNat = 47 then (match closedL r with
      | none => .error i
      | some k => consW ⟨4, r.take k, i⟩ (wd (r.drop (k + 1)) (i + 1 + k + 1)))
    else .error i := by
  have e1 : ∀ k i, wordsL r.length (r.drop k) i = wd (r.drop k) i := fun k i => wordsL_fuel _ _ _ (by rw [List.length_drop]; omega)
  have e0 : ∀ i, wordsL r.length r i = wd r i := fun i => rfl
  rw [wd, List.length_cons, wordsL]
  simp only [e0, e1]
  cases closedL r <;> rfl

theorem wd_ge : ∀ (m : Nat) (r : List UInt8) (i : Nat) (l : List W), r.length ≤ m → wd r i = .ok l → ∀ w ∈ l, i ≤ w.at_ := by
  intro m
  induction m with
  | zero =>
    intro r i l hr h w hw
    have : r = [] := by cases r; rfl; simp at hr
    subst this
    cases h; cases hw
  | succ m ih =>
    intro r i l hr h w hw
    cases r with
    | nil => cases h; cases hw
    | cons c r =>
      simp only [List.length_cons] at hr
      have d : ∀ k, (r.drop k).length ≤ m := fun k => by rw [List.length_drop]; omega
      have tl : ∀ (v : W) (r' : List UInt8) (i' : Nat), v.at_ = i → i ≤ i' → r'.length ≤ m → consW v (wd r' i') = .ok l → i ≤ w.at_ := by
        intro v r' i' hv hi' hr' hc
        obtain ⟨l', hl, rfl⟩ := consW_ok hc
        rcases List.mem_cons.1 hw with rfl | hw
        · omega
        · have := ih r' i' l' hr' hl w hw; omega
      rw [wd_cons] at h
      split at h
      · have := ih _ _ _ (by omega) h w hw; omega
      split at h
      · have := ih _ _ _ (d _) h w hw; omega
      split at h
      · exact tl _ _ _ rfl (by omega) (by omega) h
      split at h
      · exact tl _ _ _ rfl (by omega) (d _) h
      split at h
      · exact tl _ _ _ rfl (by omega) (d _) h
      split at h
      · exact tl _ _ _ rfl (by omega) (by omega) h
      split at h
      · split at h
        · cases h
        · exact tl _ _ _ rfl (by omega) (d _) h
      · cases h

def W.sh (d : Nat) (w : W) : W := { w with at_ := w.at_ + d }
def shE (d : Nat) : Except Nat (List W) → Except Nat (List W)
  | .ok l => .ok (l.map (W.sh d))
  | .error k => .error (k + d)
theorem shE_cons (d : Nat) (w : W) (x : Except Nat (List W)) : shE d (consW w x) = consW (w.sh d) (shE d x) := by cases x <;> rfl

theorem wd_shift : ∀ (m : Nat) (r : List UInt8) (i d : Nat), r.length ≤ m → wd r (i + d) = shE d (wd r i) := by
  intro m
  induction m with
  | zero =>
    intro r i d hr
    have : r = [] := by cases r; rfl; simp at hr
    subst this
    rfl
  | succ m ih =>
    intro r i d hr
    cases r with
    | nil => rfl
    | cons c r =>
      simp only [List.length_cons] at hr
      have dl : ∀ k, (r.drop k).length ≤ m := fun k => by rw [List.length_drop]; omega
      have a1 : i + d + 1 = (i + 1) + d := by omega
      have a2 : ∀ k, i + d + 1 + k = (i + 1 + k) + d := fun k => by omega
      have a3 : ∀ k, i + d + 1 + k + 1 = (i + 1 + k + 1) + d := fun k => by omega
      rw [wd_cons, wd_cons]
      split
      · rw [a1]; exact ih _ _ _ (by omega)
      split
      · rw [a2]; exact ih _ _ _ (dl _)
      split
      · rw [shE_cons, a1, ih _ _ _ (by omega)]; rfl
      split
      · rw [shE_cons, a2, ih _ _ _ (dl _)]; rfl
      split
      · rw [shE_cons, a2, ih _ _ _ (dl _)]; rfl
      split
      · rw [shE_cons, a1, ih _ _ _ (by omega)]; rfl
      split
      · split
        · rfl
        · rw [shE_cons, a3, ih _ _ _ (dl _)]; rfl
      · rfl

theorem runL_stop {p : UInt8 → Bool} : ∀ {a b b' : List UInt8}, runL p (a ++ b) < a.length → runL p (a ++ b') = runL p (a ++ b)
  | [], _, _, h => by simp at h
  | c :: a, b, b', h => by
    simp only [List.cons_append, runL] at h ⊢
    cases hc : p c
    · simp
    · simp only [hc, if_true, List.length_cons] at h ⊢
      rw [runL_stop (a := a) (b := b) (b' := b') (by omega)]
theorem runL_all {p : UInt8 → Bool} : ∀ {a b b' : List UInt8}, a.length ≤ runL p (a ++ b) → runL p (a ++ b') = a.length + runL p b'
  | [], _, _, _ => by simp
  | c :: a, b, b', h => by
    simp only [List.cons_append, runL, List.length_cons] at h ⊢
    cases hc : p c
    · simp [hc] at h
    · simp only [hc, if_true] at h ⊢
      rw [runL_all (a := a) (b := b) (b' := b') (by omega)]
      omega

theorem runL_blanks : ∀ (j : Nat) (q : List UInt8), runL notNL (List.replicate j 32 ++ q) = j + runL notNL q
  | 0, q => by simp
  | j + 1, q => by
    rw [List.replicate_succ, List.cons_append]
    simp only [runL]
    rw [if_pos (by rfl), runL_blanks j q]; omega
theorem closedL_app : ∀ (r t : List UInt8) (k : Nat), closedL r = some k → closedL (r ++ t) = some k
  | [], t, k, h => by simp [closedL] at h
  | [c], t, k, h => by
    cases t with
    | nil => simpa using h
    | cons d t =>
      simp only [closedL] at h
      simp only [List.cons_append, List.nil_append, closedL]
      split at h
      · cases h
      · rename_i h10
        split at h
        · rename_i h47; simp only [if_neg h10, if_pos h47]; exact h
        · cases h
  | c :: d :: r, t, k, h => by
    simp only [closedL] at h
    simp only [List.cons_append, closedL]
    split at h
    · cases h
    · rename_i h10
      rw [if_neg h10]
      split at h
      · rename_i h47; rw [if_pos h47]; exact h
      · rename_i h47
        rw [if_neg h47]
        split at h
        · rename_i h92
          rw [if_pos h92]
          split at h
          · cases h
          · rename_i hd
            rw [if_neg hd]
            obtain ⟨j, hj, rfl⟩ := Option.map_eq_some_iff.1 h
            rw [closedL_app r t j hj]; rfl
        · rename_i h92
          rw [if_neg h92]
          obtain ⟨j, hj, rfl⟩ := Option.map_eq_some_iff.1 h
          have := closedL_app (d :: r) t j hj
          rw [List.cons_append] at this
          rw [this]; rfl
theorem closedL_take : ∀ (r : List UInt8) (k : Nat), closedL r = some k → closedL (r.take (k + 1)) = some k
  | [], k, h => by simp [closedL] at h
  | [c], k, h => by
    have := closedL_lt _ _ h
    simp only [List.length_cons, List.length_nil] at this
    have : k = 0 := by omega
    subst this
    exact h
  | c :: d :: r, k, h => by
    simp only [closedL] at h
    split at h
    · cases h
    · rename_i h10
      split at h
      · rename_i h47
        injection h with h; subst h
        simp [closedL, h10, h47]
      · rename_i h47
        split at h
        · rename_i h92
          split at h
          · cases h
          · rename_i hd
            obtain ⟨j, hj, rfl⟩ := Option.map_eq_some_iff.1 h
            have := closedL_take r j hj
            rw [show j + 2 + 1 = (j + 1) + 1 + 1 by omega, List.take_succ_cons, List.take_succ_cons]
            simp only [closedL, if_neg h10, if_neg h47, if_pos h92, if_neg hd, this, Option.map_some]
        · rename_i h92
          obtain ⟨j, hj, rfl⟩ := Option.map_eq_some_iff.1 h
          have := closedL_take (d :: r) j hj
          rw [List.take_succ_cons] at this
          rw [List.take_succ_cons, List.take_succ_cons]
          simp only [closedL, if_neg h10, if_neg h47, if_neg h92, this, Option.map_some]
theorem closedL_local {a b b' : List UInt8} {k : Nat} (h : closedL (a ++ b) = some k) (hk : k < a.length) : closedL (a ++ b') = some k := by
  have h1 := closedL_take _ _ h
  rw [List.take_append_of_le_length (by omega)] at h1
  have h2 := closedL_app _ (a.drop (k + 1)) k h1
  rw [List.take_append_drop] at h2
  exact closedL_app _ _ _ h2

theorem wd_blanks : ∀ (j : Nat) (q : List UInt8) (i : Nat), wd (List.replicate j 32 ++ q) i = wd q (i + j)
  | 0, q, i => rfl
  | j + 1, q, i => by
    rw [List.replicate_succ, List.cons_append, wd_cons, if_pos (.inl rfl), wd_blanks j q (i + 1)]
    congr 1; omega

/-- A word, moved if it stands at a place or behind it. -/
def W.mv (k j : Nat) (w : W) : W := if k ≤ w.at_ then { w with at_ := w.at_ + j } else w

theorem mv_all {k j : Nat} {l : List W} (h : ∀ w ∈ l, k ≤ w.at_) : l.map (W.mv k j) = l.map (W.sh j) := by
  refine List.map_congr_left fun w hw => ?_
  simp only [W.mv, if_pos (h w hw), W.sh]

theorem wd_insert (j : Nat) (q : List UInt8) : ∀ (m : Nat) (p : List UInt8) (i : Nat) (l : List W), p.length ≤ m → wd (p ++ q) i = .ok l → (∃ w ∈ l, w.at_ = i + p.length) →
    wd (p ++ (List.replicate j 32 ++ q)) i = .ok (l.map (W.mv (i + p.length) j)) := by
  have base : ∀ (i : Nat) (l : List W), wd q i = .ok l → wd q (i + j) = .ok (l.map (W.mv i j)) := by
    intro i l h
    rw [wd_shift _ _ _ _ (Nat.le_refl _), h, mv_all (wd_ge _ _ _ _ (Nat.le_refl _) h)]; rfl
  intro m
  induction m with
  | zero =>
    intro p i l hp h hw
    have : p = [] := by cases p; rfl; simp at hp
    subst this
    rw [List.nil_append, wd_blanks]
    exact base i l h
  | succ m ih =>
    intro p i l hp h hw
    cases p with
    | nil =>
      rw [List.nil_append, wd_blanks]
      exact base i l h
    | cons c p =>
      obtain ⟨w, hw, hat⟩ := hw
      simp only [List.length_cons] at hp hat ⊢
      rw [List.cons_append, wd_cons] at h
      rw [List.cons_append, wd_cons]
      have k1 : i + 1 + p.length = i + (p.length + 1) := by omega
      -- a word at the head, then the rest
      have tl : ∀ (v : W) (p' : List UInt8) (i' : Nat), v.at_ = i → i < i' → i' ≤ i + (p.length + 1) → p'.length + i' = i + (p.length + 1) → p'.length ≤ m → consW v (wd (p' ++ q) i') = .ok l →
          consW v (wd (p' ++ (List.replicate j 32 ++ q)) i') = .ok (l.map (W.mv (i + (p.length + 1)) j)) := by
        intro v p' i' hv hi hi2 hl hm hc
        obtain ⟨l', hl', rfl⟩ := consW_ok hc
        have hmv : v.mv (i + (p.length + 1)) j = v := by simp only [W.mv, if_neg (show ¬ i + (p.length + 1) ≤ v.at_ by omega)]
        have hw' : w ∈ l' := by
          rcases List.mem_cons.1 hw with rfl | hw
          · omega
          · exact hw
        have := ih p' i' l' hm hl' ⟨w, hw', by omega⟩
        rw [this, List.map_cons, hmv, show i' + p'.length = i + (p.length + 1) by omega]; rfl
      have run : ∀ (v : W) (B : UInt8 → Bool), B 32 = false → v.at_ = i → consW v (wd ((p ++ q).drop (runL B (p ++ q))) (i + 1 + runL B (p ++ q))) = .ok l →
          runL B (p ++ (List.replicate j 32 ++ q)) = runL B (p ++ q) ∧ runL B (p ++ q) ≤ p.length := by
        intro v B hB hv hc
        obtain ⟨l', hl', rfl⟩ := consW_ok hc
        have hw' : w ∈ l' := by
          rcases List.mem_cons.1 hw with rfl | hw
          · omega
          · exact hw
        have hge := wd_ge _ _ _ _ (Nat.le_refl _) hl' w hw'
        have hle : runL B (p ++ q) ≤ p.length := by omega
        refine ⟨?_, hle⟩
        by_cases hlt : runL B (p ++ q) < p.length
        · exact runL_stop hlt
        · have e1 := runL_all (p := B) (a := p) (b := q) (b' := q) (by omega)
          have e2 := runL_all (p := B) (a := p) (b := q) (b' := List.replicate j 32 ++ q) (by omega)
          rw [e2]
          have e3 : runL B q = 0 := by omega
          cases j with
          | zero => simp only [List.replicate_zero, List.nil_append]; omega
          | succ j => simp only [List.replicate_succ, List.cons_append, runL, hB]; simp; omega
      split at h
      · rename_i hc
        rw [if_pos hc, ← k1]
        exact ih p (i + 1) l (by omega) h ⟨w, hw, by omega⟩
      rename_i hc
      rw [if_neg hc]
      split at h
      · rename_i hc
        rw [if_pos hc]
        have hge := wd_ge _ _ _ _ (Nat.le_refl _) h w hw
        have hle : runL notNL (p ++ q) ≤ p.length := by omega
        by_cases hlt : runL notNL (p ++ q) < p.length
        · rw [runL_stop (b' := List.replicate j 32 ++ q) hlt]
          rw [List.drop_append_of_le_length hle] at h ⊢
          have := ih (p.drop (runL notNL (p ++ q))) _ l (by rw [List.length_drop]; omega) h ⟨w, hw, by rw [List.length_drop]; omega⟩
          rw [this, List.length_drop]
          congr 3; omega
        · have e1 := runL_all (p := notNL) (a := p) (b := q) (b' := q) (by omega)
          have e2 := runL_all (p := notNL) (a := p) (b := q) (b' := List.replicate j 32 ++ q) (by omega)
          have e3 : runL notNL q = 0 := by omega
          have e4 : runL notNL (List.replicate j 32 ++ q) = j := by
            have := runL_blanks j q
            omega
          rw [e2, e4]
          rw [e1, e3, Nat.add_zero, List.drop_left] at h
          have e5 : (p ++ (List.replicate j 32 ++ q)).drop (p.length + j) = q := by
            rw [← List.append_assoc]
            have : (p ++ List.replicate j (32 : UInt8)).length = p.length + j := by simp
            rw [← this, List.drop_left]
          rw [e5, show i + 1 + (p.length + j) = (i + 1 + p.length) + j by omega, base _ _ h, k1]
      rename_i hc
      rw [if_neg hc]
      split at h
      · rename_i hc
        rw [if_pos hc]
        exact tl _ p _ rfl (by omega) (by omega) (by omega) (by omega) h
      rename_i hc
      rw [if_neg hc]
      split at h
      · rename_i hc
        rw [if_pos hc]
        obtain ⟨r1, r2⟩ := run _ ldB rfl rfl h
        rw [r1, List.take_append_of_le_length r2, List.drop_append_of_le_length r2]
        rw [List.take_append_of_le_length r2, List.drop_append_of_le_length r2] at h
        exact tl _ _ _ rfl (by omega) (by omega) (by rw [List.length_drop]; omega) (by rw [List.length_drop]; omega) h
      rename_i hc
      rw [if_neg hc]
      split at h
      · rename_i hc
        rw [if_pos hc]
        obtain ⟨r1, r2⟩ := run _ digitB rfl rfl h
        rw [r1, List.take_append_of_le_length r2, List.drop_append_of_le_length r2]
        rw [List.take_append_of_le_length r2, List.drop_append_of_le_length r2] at h
        exact tl _ _ _ rfl (by omega) (by omega) (by rw [List.length_drop]; omega) (by rw [List.length_drop]; omega) h
      rename_i hc
      rw [if_neg hc]
      split at h
      · rename_i hc
        rw [if_pos hc]
        exact tl _ p _ rfl (by omega) (by omega) (by omega) (by omega) h
      rename_i hc
      rw [if_neg hc]
      split at h
      · rename_i hc
        rw [if_pos hc]
        split at h
        · cases h
        · rename_i k hk
          have hlk : k + 1 ≤ p.length := by
            obtain ⟨l', hl', rfl⟩ := consW_ok h
            have hw' : w ∈ l' := by
              rcases List.mem_cons.1 hw with rfl | hw
              · simp only at hat; omega
              · exact hw
            have hge := wd_ge _ _ _ _ (Nat.le_refl _) hl' w hw'
            omega
          rw [closedL_local (b' := List.replicate j 32 ++ q) hk (by omega)]
          rw [List.take_append_of_le_length (by omega), List.drop_append_of_le_length hlk] at h
          simp only
          rw [List.take_append_of_le_length (by omega), List.drop_append_of_le_length hlk]
          exact tl _ _ _ rfl (by omega) (by omega) (by rw [List.length_drop]; omega) (by rw [List.length_drop]; omega) h
      · cases h
end Go.Ev

/- Blanks between words: the plain law. -/
namespace Go.Ev
open Go
set_option linter.unusedSimpArgs false
set_option linter.unusedVariables false

/-- A line's end, and a remark. -/
def tailT : List UInt8 := [10, 35, 32, 116, 111, 107, 32, 63, 32, 110, 111, 116, 104, 105, 110, 103]
theorem wd_tail (i : Nat) : wd tailT i = .ok [⟨5, [], i⟩] := by
  rw [tailT, wd_cons, if_neg (by decide), if_neg (by decide), if_pos (by decide)]
  rw [wd_cons, if_neg (by decide), if_pos (by decide)]
  rfl

theorem runL_app {p : UInt8 → Bool} (hp : p 10 = false) : ∀ r : List UInt8, runL p (r ++ tailT) = runL p r
  | [] => by simp only [List.nil_append, tailT, runL, hp]; rfl
  | c :: r => by simp only [List.cons_append, runL, runL_app hp r]

theorem wd_app : ∀ (m : Nat) (r : List UInt8) (i : Nat) (l : List W), r.length ≤ m → wd r i = .ok l → wd (r ++ tailT) i = .ok (l ++ [⟨5, [], i + r.length⟩]) := by
  intro m
  induction m with
  | zero =>
    intro r i l hr h
    have : r = [] := by cases r; rfl; simp at hr
    subst this
    cases h
    exact wd_tail i
  | succ m ih =>
    intro r i l hr h
    cases r with
    | nil => cases h; exact wd_tail i
    | cons c r =>
      simp only [List.length_cons] at hr ⊢
      rw [wd_cons] at h
      rw [List.cons_append, wd_cons]
      have dl : ∀ k, k ≤ r.length → ∀ l', wd (r.drop k) (i + 1 + k) = .ok l' → wd ((r ++ tailT).drop k) (i + 1 + k) = .ok (l' ++ [⟨5, [], i + (r.length + 1)⟩]) := by
        intro k hk l' h'
        rw [List.drop_append_of_le_length hk, ih _ _ _ (by rw [List.length_drop]; omega) h', List.length_drop, show i + 1 + k + (r.length - k) = i + (r.length + 1) by omega]
      have d0 : ∀ l', wd r (i + 1) = .ok l' → wd (r ++ tailT) (i + 1) = .ok (l' ++ [⟨5, [], i + (r.length + 1)⟩]) := by
        intro l' h'
        rw [ih _ _ _ (by omega) h', show i + 1 + r.length = i + (r.length + 1) by omega]
      split at h
      · rename_i hc; rw [if_pos hc]; exact d0 l h
      rename_i hc; rw [if_neg hc]
      split at h
      · rename_i hc; rw [if_pos hc, runL_app rfl]
        exact dl _ (runL_le _ _) l h
      rename_i hc; rw [if_neg hc]
      split at h
      · rename_i hc; rw [if_pos hc]
        obtain ⟨l', hl, rfl⟩ := consW_ok h
        rw [d0 l' hl]; rfl
      rename_i hc; rw [if_neg hc]
      split at h
      · rename_i hc; rw [if_pos hc, runL_app rfl]
        obtain ⟨l', hl, rfl⟩ := consW_ok h
        rw [dl _ (runL_le _ _) l' hl, List.take_append_of_le_length (runL_le _ _)]; rfl
      rename_i hc; rw [if_neg hc]
      split at h
      · rename_i hc; rw [if_pos hc, runL_app rfl]
        obtain ⟨l', hl, rfl⟩ := consW_ok h
        rw [dl _ (runL_le _ _) l' hl, List.take_append_of_le_length (runL_le _ _)]; rfl
      rename_i hc; rw [if_neg hc]
      split at h
      · rename_i hc; rw [if_pos hc]
        obtain ⟨l', hl, rfl⟩ := consW_ok h
        rw [d0 l' hl]; rfl
      rename_i hc; rw [if_neg hc]
      split at h
      · rename_i hc; rw [if_pos hc]
        split at h
        · cases h
        · rename_i k hk
          have hlt := closedL_lt _ _ hk
          rw [closedL_app _ _ _ hk]
          obtain ⟨l', hl, rfl⟩ := consW_ok h
          simp only
          rw [show i + 1 + k + 1 = i + 1 + (k + 1) by omega, dl (k + 1) (by omega) l' (by rw [← hl]; congr 1), List.take_append_of_le_length (by omega)]; rfl
      · cases h

theorem signB_lt {c : UInt8} (h : signB c = true) : c.toNat < 128 := by
  have key : ∀ (l : List UInt8) (k : Nat), (∀ x ∈ l, x.toNat < 128) → 0 ≤ idxByteA c l k → c.toNat < 128 := by
    intro l
    induction l with
    | nil => intro k _ h; simp [idxByteA] at h
    | cons x l ih =>
      intro k hl h
      simp only [idxByteA] at h
      split at h
      · rename_i e; rw [← e]; exact hl x (by simp)
      · exact ih (k + 1) (fun y hy => hl y (by simp [hy])) h
  exact key signL 0 (by decide) (by simpa [signB] using h)

theorem wd_head : ∀ (m : Nat) (r : List UInt8) (i : Nat) (l : List W), r.length ≤ m → wd r i = .ok l → ∀ w ∈ l, ∃ c q, r.drop (w.at_ - i) = c :: q ∧ c.toNat < 128 := by
  intro m
  induction m with
  | zero =>
    intro r i l hr h w hw
    have : r = [] := by cases r; rfl; simp at hr
    subst this
    cases h; cases hw
  | succ m ih =>
    intro r i l hr h w hw
    cases r with
    | nil => cases h; cases hw
    | cons c r =>
      simp only [List.length_cons] at hr
      have dl : ∀ k l', wd (r.drop k) (i + 1 + k) = .ok l' → w ∈ l' → ∃ c' q, (c :: r).drop (w.at_ - i) = c' :: q ∧ c'.toNat < 128 := by
        intro k l' hl hw
        have hge := wd_ge _ _ _ _ (Nat.le_refl _) hl w hw
        obtain ⟨c', q, h1, h2⟩ := ih _ _ _ (by rw [List.length_drop]; omega) hl w hw
        refine ⟨c', q, ?_, h2⟩
        rw [List.drop_drop] at h1
        rw [show w.at_ - i = (k + (w.at_ - (i + 1 + k))) + 1 by omega, List.drop_succ_cons]
        exact h1
      have tl : ∀ (v : W) (k : Nat), v.at_ = i → c.toNat < 128 → consW v (wd (r.drop k) (i + 1 + k)) = .ok l → ∃ c' q, (c :: r).drop (w.at_ - i) = c' :: q ∧ c'.toNat < 128 := by
        intro v k hv hc hcw
        obtain ⟨l', hl, rfl⟩ := consW_ok hcw
        rcases List.mem_cons.1 hw with rfl | hw
        · exact ⟨c, r, by rw [hv, Nat.sub_self]; rfl, hc⟩
        · exact dl k l' hl hw
      rw [wd_cons] at h
      split at h
      · exact dl 0 l (by simpa using h) hw
      split at h
      · exact dl _ l h hw
      split at h
      · exact tl _ 0 rfl (by omega) (by simpa using h)
      split at h
      · rename_i hc
        exact tl _ _ rfl (by simp [letterB] at hc; omega) h
      split at h
      · rename_i hc
        exact tl _ _ rfl (by simp [digitB] at hc; omega) h
      split at h
      · rename_i hc
        exact tl _ 0 rfl (signB_lt hc) (by simpa using h)
      split at h
      · split at h
        · cases h
        · rename_i k hk
          exact tl _ (k + 1) rfl (by omega) (by rw [← h]; rfl)
      · cases h

def nextH (held : List UInt8) (c : UInt8) : List UInt8 := if (held ++ [c]).length = longB (headB (held ++ [c])) then [] else held ++ [c]
/-- Are bytes whole runes, behind those that are held? -/
def okF : List UInt8 → List UInt8 → Bool
  | [], held => held.isEmpty
  | c :: r, held => okB held c && okF r (nextH held c)

theorem afterM_next (held : List UInt8) (c : UInt8) (at_ : Nat) : (afterM held c at_).1 = nextH held c ∧ ∀ x ∈ (afterM held c at_).2.2, x.bad = false := by
  unfold afterM nextH
  split <;> simp

theorem feed_ok : ∀ (r held : List UInt8) (at_ : Nat), okF r held = true ↔ ((∀ x ∈ (feedD r held at_).2.2, x.bad = false) ∧ (feedD r held at_).1 = [])
  | [], held, at_ => by simp [okF, feedD]
  | c :: r, held, at_ => by
    have ih := fun held at_ => feed_ok r held at_
    obtain ⟨a1, a2⟩ := afterM_next held c at_
    simp only [okF, feedD, Bool.and_eq_true, List.mem_append]
    cases hk : okB held c with
    | true =>
      have e : takeB held c at_ = afterM held c at_ := by simp [takeB, hk]
      rw [e, a1, eq_self, true_and, ih (nextH held c) (afterM held c at_).2.1]
      constructor
      · rintro ⟨h1, h2⟩
        exact ⟨fun x hx => hx.elim (a2 x) (h1 x), h2⟩
      · rintro ⟨h1, h2⟩
        exact ⟨fun x hx => h1 x (.inr hx), h2⟩
    | false =>
      constructor
      · rintro ⟨h, _⟩; cases h
      · rintro ⟨h1, _⟩
        exfalso
        cases held with
        | nil =>
          have := h1 (It.mk 65533 at_ (at_ + 1) true false) (.inl (by simp [takeB, hk]))
          cases this
        | cons a held =>
          have := h1 (It.mk 65533 at_ (at_ + (a :: held).length) true true) (.inl (by simp [takeB, hk]))
          cases this

theorem dec_ok (s : List UInt8) : (∀ x ∈ decAll s, x.bad = false) ↔ okF s [] = true := by
  rw [feed_ok s [] 0]
  unfold decAll
  constructor
  · intro h
    refine ⟨fun x hx => h x (List.mem_append.2 (.inl hx)), ?_⟩
    cases hh : (feedD s [] 0).1 with
    | nil => rfl
    | cons a l =>
      have := h (It.mk 65533 (feedD s [] 0).2.1 ((feedD s [] 0).2.1 + (feedD s [] 0).1.length) true true) (List.mem_append.2 (.inr (by rw [hh]; simp [closeD])))
      cases this
  · rintro ⟨h1, h2⟩ x hx
    rcases List.mem_append.1 hx with hx | hx
    · exact h1 x hx
    · rw [h2] at hx; simp [closeD] at hx

theorem okF_app : ∀ (a b held : List UInt8), okF a held = true → okF (a ++ b) held = okF b []
  | [], b, held, h => by
    have : held = [] := by simpa [okF] using h
    subst this; rfl
  | c :: a, b, held, h => by
    simp only [okF, Bool.and_eq_true] at h
    simp only [List.cons_append, okF, h.1, Bool.true_and]
    exact okF_app a b _ h.2
theorem secLo_ge (n : Nat) : 128 ≤ secLo n := by
  unfold secLo
  repeat' split
  all_goals omega
theorem okB_low {held : List UInt8} {c : UInt8} (h : okB held c = true) (hc : c.toNat < 128) : held = [] := by
  match held, h with
  | [], _ => rfl
  | [a], h =>
    have := okB_1 h
    have := secLo_ge a.toNat
    omega
  | a :: b :: l, h =>
    simp only [okB, decide_eq_true_eq] at h
    omega
theorem okF_cut : ∀ (a b held : List UInt8) (c : UInt8), c.toNat < 128 → okF (a ++ c :: b) held = true → okF a held = true ∧ okF (c :: b) [] = true
  | [], b, held, c, hc, h => by
    have h' := h
    simp only [List.nil_append, okF, Bool.and_eq_true] at h
    have := okB_low h.1 hc
    subst this
    exact ⟨rfl, h'⟩
  | x :: a, b, held, c, hc, h => by
    simp only [List.cons_append, okF, Bool.and_eq_true] at h
    obtain ⟨h1, h2⟩ := okF_cut a b _ c hc h.2
    exact ⟨by simp only [okF, h.1, h1, Bool.and_self], h2⟩
theorem okF_low : ∀ a : List UInt8, (∀ x ∈ a, x.toNat < 128) → okF a [] = true
  | [], _ => rfl
  | c :: a, h => by
    have hc := h c (by simp)
    have h1 : longB c = 1 := by simp only [longB, longN, if_pos hc]
    simp only [okF, okB, h1, nextH, List.nil_append, List.length_cons, List.length_nil, headB, List.headD_cons]
    simp only [if_true]
    exact okF_low a fun x hx => h x (by simp [hx])

theorem allW_iff {s : List UInt8} {l : List W} : allW s = .ok l ↔ wd s 0 = .ok l ∧ okF s [] = true := by
  rw [← dec_ok]
  constructor
  · intro h
    have hw := allW_ok h
    refine ⟨hw, fun x hx => ?_⟩
    unfold allW at h
    split at h
    · cases h
    · rename_i hn
      have := List.find?_eq_none.1 hn x hx
      rw [hw] at this
      simpa [badAt] using this
  · rintro ⟨h1, h2⟩
    have hn : (decAll s).find? (badAt (wordsL s.length s 0)) = none := by
      refine List.find?_eq_none.2 fun x hx => ?_
      simp [badAt, h2 x hx]
    unfold allW
    rw [hn]
    exact h1

/-- The law of blanks. -/
theorem blanks_law {s : List UInt8} {l : List W} (h : allW s = .ok l) {w : W} (hw : w ∈ l) (j : Nat) :
    allW (s.take w.at_ ++ List.replicate j 32 ++ s.drop w.at_ ++ tailT) = .ok (l.map (W.mv w.at_ j) ++ [⟨5, [], s.length + j⟩]) := by
  obtain ⟨h1, h2⟩ := allW_iff.1 h
  obtain ⟨c, q, hq, hc⟩ := wd_head _ _ _ _ (Nat.le_refl _) h1 w hw
  rw [Nat.sub_zero] at hq
  have hlen : w.at_ ≤ s.length := by
    rcases Nat.lt_or_ge s.length w.at_ with h | h
    · rw [List.drop_eq_nil_of_le (by omega)] at hq; cases hq
    · exact h
  have htl : (s.take w.at_).length = w.at_ := by rw [List.length_take]; omega
  have e0 : s = s.take w.at_ ++ s.drop w.at_ := (List.take_append_drop _ _).symm
  refine allW_iff.2 ⟨?_, ?_⟩
  · have k1 := wd_insert j (s.drop w.at_) _ (s.take w.at_) 0 l (Nat.le_refl _) (by rw [← e0]; exact h1) ⟨w, hw, by rw [htl]; omega⟩
    rw [htl, Nat.zero_add, ← List.append_assoc] at k1
    have k2 := wd_app _ _ _ _ (Nat.le_refl _) k1
    rw [k2]
    congr 3
    simp; omega
  · rw [e0, hq] at h2
    obtain ⟨o1, o2⟩ := okF_cut _ _ _ c hc h2
    rw [List.append_assoc, List.append_assoc, okF_app _ _ _ o1, okF_app _ _ _ (okF_low _ (fun x hx => by rw [List.eq_of_mem_replicate hx]; decide)), hq, okF_app _ _ _ o2]
    exact okF_low _ (by decide)
end Go.Ev
