/- Blanks between words: the plain law of words. -/
import Derived.Test.YtimbiogcllmalaaDoorXE
namespace Go.Ev
open Go
set_option linter.unusedSimpArgs false
set_option linter.unusedVariables false

/-- The words of a text that begins at a place. -/
def wd (r : List UInt8) (i : Nat) : Except Nat (List W) := wordsL r.length r i

theorem wordsL_fuel : ∀ (n : Nat) (r : List UInt8) (i : Nat), r.length ≤ n → wordsL n r i = wd r i := by
  have key : ∀ (m : Nat) (r : List UInt8), r.length ≤ m → ∀ (n n' : Nat) (i : Nat), r.length ≤ n → r.length ≤ n' → wordsL n r i = wordsL n' r i := by
    intro m
    induction m with
    | zero =>
      intro r hr n n' i h h'
      have : r = [] := by cases r; rfl; simp at hr
      subst this
      cases n <;> cases n' <;> rfl
    | succ m ih =>
      intro r hr n n' i h h'
      cases r with
      | nil => cases n <;> cases n' <;> rfl
      | cons c r =>
        simp only [List.length_cons] at hr h h'
        cases n with
        | zero => omega
        | succ n =>
          cases n' with
          | zero => omega
          | succ n' =>
            have d : ∀ k, (r.drop k).length ≤ m := fun k => by rw [List.length_drop]; omega
            have e0 := fun i => ih r (by omega) n n' i (by omega) (by omega)
            have e1 := fun k i => ih (r.drop k) (d k) n n' i (by rw [List.length_drop]; omega) (by rw [List.length_drop]; omega)
            simp only [wordsL, e0, e1]
  intro n r i h
  exact key r.length r (Nat.le_refl _) n r.length i h (Nat.le_refl _)

theorem wd_nil (i : Nat) : wd [] i = .ok [] := rfl
theorem wd_cons (c : UInt8) (r : List UInt8) (i : Nat) : wd (c :: r) i =
    if c.toNat = 32 ∨ c.toNat = 9 ∨ c.toNat = 13 then wd r (i + 1)
    else if c.toNat = 35 then wd (r.drop (runL notNL r)) (i + 1 + runL notNL r)
    else if c.toNat = 10 then consW ⟨5, [], i⟩ (wd r (i + 1))
    else if letterB c then consW ⟨1, c :: r.take (runL ldB r), i⟩ (wd (r.drop (runL ldB r)) (i + 1 + runL ldB r))
    else if digitB c then consW ⟨2, c :: r.take (runL digitB r), i⟩ (wd (r.drop (runL digitB r)) (i + 1 + runL digitB r))
    else if signB c then consW ⟨3, [c], i⟩ (wd r (i + 1))
    else if c.toNat = 47 then (match closedL r with
      | none => .error i
      | some k => consW ⟨4, r.take k, i⟩ (wd (r.drop (k + 1)) (i + 1 + k + 1)))
    else .error i := by
  have e1 : ∀ k i, wordsL r.length (r.drop k) i = wd (r.drop k) i := fun k i => wordsL_fuel _ _ _ (by rw [List.length_drop]; omega)
  have e0 : ∀ i, wordsL r.length r i = wd r i := fun i => rfl
  rw [wd, List.length_cons, wordsL]
  simp only [e0, e1]
  cases closedL r <;> rfl

theorem wd_ge : ∀ (m : Nat) (r : List UInt8) (i : Nat) (l : List W), r.length ≤ m → wd r i = .ok l → ∀ w ∈ l, i ≤ w.at_ := by
  intro m
  induction m with
  | zero =>
    intro r i l hr h w hw
    have : r = [] := by cases r; rfl; simp at hr
    subst this
    cases h; cases hw
  | succ m ih =>
    intro r i l hr h w hw
    cases r with
    | nil => cases h; cases hw
    | cons c r =>
      simp only [List.length_cons] at hr
      have d : ∀ k, (r.drop k).length ≤ m := fun k => by rw [List.length_drop]; omega
      have tl : ∀ (v : W) (r' : List UInt8) (i' : Nat), v.at_ = i → i ≤ i' → r'.length ≤ m → consW v (wd r' i') = .ok l → i ≤ w.at_ := by
        intro v r' i' hv hi' hr' hc
        obtain ⟨l', hl, rfl⟩ := consW_ok hc
        rcases List.mem_cons.1 hw with rfl | hw
        · omega
        · have := ih r' i' l' hr' hl w hw; omega
      rw [wd_cons] at h
      split at h
      · have := ih _ _ _ (by omega) h w hw; omega
      split at h
      · have := ih _ _ _ (d _) h w hw; omega
      split at h
      · exact tl _ _ _ rfl (by omega) (by omega) h
      split at h
      · exact tl _ _ _ rfl (by omega) (d _) h
      split at h
      · exact tl _ _ _ rfl (by omega) (d _) h
      split at h
      · exact tl _ _ _ rfl (by omega) (by omega) h
      split at h
      · split at h
        · cases h
        · exact tl _ _ _ rfl (by omega) (d _) h
      · cases h

def W.sh (d : Nat) (w : W) : W := { w with at_ := w.at_ + d }
def shE (d : Nat) : Except Nat (List W) → Except Nat (List W)
  | .ok l => .ok (l.map (W.sh d))
  | .error k => .error (k + d)
theorem shE_cons (d : Nat) (w : W) (x : Except Nat (List W)) : shE d (consW w x) = consW (w.sh d) (shE d x) := by cases x <;> rfl

theorem wd_shift : ∀ (m : Nat) (r : List UInt8) (i d : Nat), r.length ≤ m → wd r (i + d) = shE d (wd r i) := by
  intro m
  induction m with
  | zero =>
    intro r i d hr
    have : r = [] := by cases r; rfl; simp at hr
    subst this
    rfl
  | succ m ih =>
    intro r i d hr
    cases r with
    | nil => rfl
    | cons c r =>
      simp only [List.length_cons] at hr
      have dl : ∀ k, (r.drop k).length ≤ m := fun k => by rw [List.length_drop]; omega
      have a1 : i + d + 1 = (i + 1) + d := by omega
      have a2 : ∀ k, i + d + 1 + k = (i + 1 + k) + d := fun k => by omega
      have a3 : ∀ k, i + d + 1 + k + 1 = (i + 1 + k + 1) + d := fun k => by omega
      rw [wd_cons, wd_cons]
      split
      · rw [a1]; exact ih _ _ _ (by omega)
      split
      · rw [a2]; exact ih _ _ _ (dl _)
      split
      · rw [shE_cons, a1, ih _ _ _ (by omega)]; rfl
      split
      · rw [shE_cons, a2, ih _ _ _ (dl _)]; rfl
      split
      · rw [shE_cons, a2, ih _ _ _ (dl _)]; rfl
      split
      · rw [shE_cons, a1, ih _ _ _ (by omega)]; rfl
      split
      · split
        · rfl
        · rw [shE_cons, a3, ih _ _ _ (dl _)]; rfl
      · rfl

theorem runL_stop {p : UInt8 → Bool} : ∀ {a b b' : List UInt8}, runL p (a ++ b) < a.length → runL p (a ++ b') = runL p (a ++ b)
  | [], _, _, h => by simp at h
  | c :: a, b, b', h => by
    simp only [List.cons_append, runL] at h ⊢
    cases hc : p c
    · simp
    · simp only [hc, if_true, List.length_cons] at h ⊢
      rw [runL_stop (a := a) (b := b) (b' := b') (by omega)]
theorem runL_all {p : UInt8 → Bool} : ∀ {a b b' : List UInt8}, a.length ≤ runL p (a ++ b) → runL p (a ++ b') = a.length + runL p b'
  | [], _, _, _ => by simp
  | c :: a, b, b', h => by
    simp only [List.cons_append, runL, List.length_cons] at h ⊢
    cases hc : p c
    · simp [hc] at h
    · simp only [hc, if_true] at h ⊢
      rw [runL_all (a := a) (b := b) (b' := b') (by omega)]
      omega

theorem runL_blanks : ∀ (j : Nat) (q : List UInt8), runL notNL (List.replicate j 32 ++ q) = j + runL notNL q
  | 0, q => by simp
  | j + 1, q => by
    rw [List.replicate_succ, List.cons_append]
    simp only [runL]
    rw [if_pos (by rfl), runL_blanks j q]; omega
theorem closedL_app : ∀ (r t : List UInt8) (k : Nat), closedL r = some k → closedL (r ++ t) = some k
  | [], t, k, h => by simp [closedL] at h
  | [c], t, k, h => by
    cases t with
    | nil => simpa using h
    | cons d t =>
      simp only [closedL] at h
      simp only [List.cons_append, List.nil_append, closedL]
      split at h
      · cases h
      · rename_i h10
        split at h
        · rename_i h47; simp only [if_neg h10, if_pos h47]; exact h
        · cases h
  | c :: d :: r, t, k, h => by
    simp only [closedL] at h
    simp only [List.cons_append, closedL]
    split at h
    · cases h
    · rename_i h10
      rw [if_neg h10]
      split at h
      · rename_i h47; rw [if_pos h47]; exact h
      · rename_i h47
        rw [if_neg h47]
        split at h
        · rename_i h92
          rw [if_pos h92]
          split at h
          · cases h
          · rename_i hd
            rw [if_neg hd]
            obtain ⟨j, hj, rfl⟩ := Option.map_eq_some_iff.1 h
            rw [closedL_app r t j hj]; rfl
        · rename_i h92
          rw [if_neg h92]
          obtain ⟨j, hj, rfl⟩ := Option.map_eq_some_iff.1 h
          have := closedL_app (d :: r) t j hj
          rw [List.cons_append] at this
          rw [this]; rfl
theorem closedL_take : ∀ (r : List UInt8) (k : Nat), closedL r = some k → closedL (r.take (k + 1)) = some k
  | [], k, h => by simp [closedL] at h
  | [c], k, h => by
    have := closedL_lt _ _ h
    simp only [List.length_cons, List.length_nil] at this
    have : k = 0 := by omega
    subst this
    exact h
  | c :: d :: r, k, h => by
    simp only [closedL] at h
    split at h
    · cases h
    · rename_i h10
      split at h
      · rename_i h47
        injection h with h; subst h
        simp [closedL, h10, h47]
      · rename_i h47
        split at h
        · rename_i h92
          split at h
          · cases h
          · rename_i hd
            obtain ⟨j, hj, rfl⟩ := Option.map_eq_some_iff.1 h
            have := closedL_take r j hj
            rw [show j + 2 + 1 = (j + 1) + 1 + 1 by omega, List.take_succ_cons, List.take_succ_cons]
            simp only [closedL, if_neg h10, if_neg h47, if_pos h92, if_neg hd, this, Option.map_some]
        · rename_i h92
          obtain ⟨j, hj, rfl⟩ := Option.map_eq_some_iff.1 h
          have := closedL_take (d :: r) j hj
          rw [List.take_succ_cons] at this
          rw [List.take_succ_cons, List.take_succ_cons]
          simp only [closedL, if_neg h10, if_neg h47, if_neg h92, this, Option.map_some]
theorem closedL_local {a b b' : List UInt8} {k : Nat} (h : closedL (a ++ b) = some k) (hk : k < a.length) : closedL (a ++ b') = some k := by
  have h1 := closedL_take _ _ h
  rw [List.take_append_of_le_length (by omega)] at h1
  have h2 := closedL_app _ (a.drop (k + 1)) k h1
  rw [List.take_append_drop] at h2
  exact closedL_app _ _ _ h2

theorem wd_blanks : ∀ (j : Nat) (q : List UInt8) (i : Nat), wd (List.replicate j 32 ++ q) i = wd q (i + j)
  | 0, q, i => rfl
  | j + 1, q, i => by
    rw [List.replicate_succ, List.cons_append, wd_cons, if_pos (.inl rfl), wd_blanks j q (i + 1)]
    congr 1; omega

/-- A word, moved if it stands at a place or behind it. -/
def W.mv (k j : Nat) (w : W) : W := if k ≤ w.at_ then { w with at_ := w.at_ + j } else w

theorem mv_all {k j : Nat} {l : List W} (h : ∀ w ∈ l, k ≤ w.at_) : l.map (W.mv k j) = l.map (W.sh j) := by
  refine List.map_congr_left fun w hw => ?_
  simp only [W.mv, if_pos (h w hw), W.sh]

theorem wd_insert (j : Nat) (q : List UInt8) : ∀ (m : Nat) (p : List UInt8) (i : Nat) (l : List W), p.length ≤ m → wd (p ++ q) i = .ok l → (∃ w ∈ l, w.at_ = i + p.length) →
    wd (p ++ (List.replicate j 32 ++ q)) i = .ok (l.map (W.mv (i + p.length) j)) := by
  have base : ∀ (i : Nat) (l : List W), wd q i = .ok l → wd q (i + j) = .ok (l.map (W.mv i j)) := by
    intro i l h
    rw [wd_shift _ _ _ _ (Nat.le_refl _), h, mv_all (wd_ge _ _ _ _ (Nat.le_refl _) h)]; rfl
  intro m
  induction m with
  | zero =>
    intro p i l hp h hw
    have : p = [] := by cases p; rfl; simp at hp
    subst this
    rw [List.nil_append, wd_blanks]
    exact base i l h
  | succ m ih =>
    intro p i l hp h hw
    cases p with
    | nil =>
      rw [List.nil_append, wd_blanks]
      exact base i l h
    | cons c p =>
      obtain ⟨w, hw, hat⟩ := hw
      simp only [List.length_cons] at hp hat ⊢
      rw [List.cons_append, wd_cons] at h
      rw [List.cons_append, wd_cons]
      have k1 : i + 1 + p.length = i + (p.length + 1) := by omega
      -- a word at the head, then the rest
      have tl : ∀ (v : W) (p' : List UInt8) (i' : Nat), v.at_ = i → i < i' → i' ≤ i + (p.length + 1) → p'.length + i' = i + (p.length + 1) → p'.length ≤ m → consW v (wd (p' ++ q) i') = .ok l →
          consW v (wd (p' ++ (List.replicate j 32 ++ q)) i') = .ok (l.map (W.mv (i + (p.length + 1)) j)) := by
        intro v p' i' hv hi hi2 hl hm hc
        obtain ⟨l', hl', rfl⟩ := consW_ok hc
        have hmv : v.mv (i + (p.length + 1)) j = v := by simp only [W.mv, if_neg (show ¬ i + (p.length + 1) ≤ v.at_ by omega)]
        have hw' : w ∈ l' := by
          rcases List.mem_cons.1 hw with rfl | hw
          · omega
          · exact hw
        have := ih p' i' l' hm hl' ⟨w, hw', by omega⟩
        rw [this, List.map_cons, hmv, show i' + p'.length = i + (p.length + 1) by omega]; rfl
      have run : ∀ (v : W) (B : UInt8 → Bool), B 32 = false → v.at_ = i → consW v (wd ((p ++ q).drop (runL B (p ++ q))) (i + 1 + runL B (p ++ q))) = .ok l →
          runL B (p ++ (List.replicate j 32 ++ q)) = runL B (p ++ q) ∧ runL B (p ++ q) ≤ p.length := by
        intro v B hB hv hc
        obtain ⟨l', hl', rfl⟩ := consW_ok hc
        have hw' : w ∈ l' := by
          rcases List.mem_cons.1 hw with rfl | hw
          · omega
          · exact hw
        have hge := wd_ge _ _ _ _ (Nat.le_refl _) hl' w hw'
        have hle : runL B (p ++ q) ≤ p.length := by omega
        refine ⟨?_, hle⟩
        by_cases hlt : runL B (p ++ q) < p.length
        · exact runL_stop hlt
        · have e1 := runL_all (p := B) (a := p) (b := q) (b' := q) (by omega)
          have e2 := runL_all (p := B) (a := p) (b := q) (b' := List.replicate j 32 ++ q) (by omega)
          rw [e2]
          have e3 : runL B q = 0 := by omega
          cases j with
          | zero => simp only [List.replicate_zero, List.nil_append]; omega
          | succ j => simp only [List.replicate_succ, List.cons_append, runL, hB]; simp; omega
      split at h
      · rename_i hc
        rw [if_pos hc, ← k1]
        exact ih p (i + 1) l (by omega) h ⟨w, hw, by omega⟩
      rename_i hc
      rw [if_neg hc]
      split at h
      · rename_i hc
        rw [if_pos hc]
        have hge := wd_ge _ _ _ _ (Nat.le_refl _) h w hw
        have hle : runL notNL (p ++ q) ≤ p.length := by omega
        by_cases hlt : runL notNL (p ++ q) < p.length
        · rw [runL_stop (b' := List.replicate j 32 ++ q) hlt]
          rw [List.drop_append_of_le_length hle] at h ⊢
          have := ih (p.drop (runL notNL (p ++ q))) _ l (by rw [List.length_drop]; omega) h ⟨w, hw, by rw [List.length_drop]; omega⟩
          rw [this, List.length_drop]
          congr 3; omega
        · have e1 := runL_all (p := notNL) (a := p) (b := q) (b' := q) (by omega)
          have e2 := runL_all (p := notNL) (a := p) (b := q) (b' := List.replicate j 32 ++ q) (by omega)
          have e3 : runL notNL q = 0 := by omega
          have e4 : runL notNL (List.replicate j 32 ++ q) = j := by
            have := runL_blanks j q
            omega
          rw [e2, e4]
          rw [e1, e3, Nat.add_zero, List.drop_left] at h
          have e5 : (p ++ (List.replicate j 32 ++ q)).drop (p.length + j) = q := by
            rw [← List.append_assoc]
            have : (p ++ List.replicate j (32 : UInt8)).length = p.length + j := by simp
            rw [← this, List.drop_left]
          rw [e5, show i + 1 + (p.length + j) = (i + 1 + p.length) + j by omega, base _ _ h, k1]
      rename_i hc
      rw [if_neg hc]
      split at h
      · rename_i hc
        rw [if_pos hc]
        exact tl _ p _ rfl (by omega) (by omega) (by omega) (by omega) h
      rename_i hc
      rw [if_neg hc]
      split at h
      · rename_i hc
        rw [if_pos hc]
        obtain ⟨r1, r2⟩ := run _ ldB rfl rfl h
        rw [r1, List.take_append_of_le_length r2, List.drop_append_of_le_length r2]
        rw [List.take_append_of_le_length r2, List.drop_append_of_le_length r2] at h
        exact tl _ _ _ rfl (by omega) (by omega) (by rw [List.length_drop]; omega) (by rw [List.length_drop]; omega) h
      rename_i hc
      rw [if_neg hc]
      split at h
      · rename_i hc
        rw [if_pos hc]
        obtain ⟨r1, r2⟩ := run _ digitB rfl rfl h
        rw [r1, List.take_append_of_le_length r2, List.drop_append_of_le_length r2]
        rw [List.take_append_of_le_length r2, List.drop_append_of_le_length r2] at h
        exact tl _ _ _ rfl (by omega) (by omega) (by rw [List.length_drop]; omega) (by rw [List.length_drop]; omega) h
      rename_i hc
      rw [if_neg hc]
      split at h
      · rename_i hc
        rw [if_pos hc]
        exact tl _ p _ rfl (by omega) (by omega) (by omega) (by omega) h
      rename_i hc
      rw [if_neg hc]
      split at h
      · rename_i hc
        rw [if_pos hc]
        split at h
        · cases h
        · rename_i k hk
          have hlk : k + 1 ≤ p.length := by
            obtain ⟨l', hl', rfl⟩ := consW_ok h
            have hw' : w ∈ l' := by
              rcases List.mem_cons.1 hw with rfl | hw
              · simp only at hat; omega
              · exact hw
            have hge := wd_ge _ _ _ _ (Nat.le_refl _) hl' w hw'
            omega
          rw [closedL_local (b' := List.replicate j 32 ++ q) hk (by omega)]
          rw [List.take_append_of_le_length (by omega), List.drop_append_of_le_length hlk] at h
          simp only
          rw [List.take_append_of_le_length (by omega), List.drop_append_of_le_length hlk]
          exact tl _ _ _ rfl (by omega) (by omega) (by rw [List.length_drop]; omega) (by rw [List.length_drop]; omega) h
      · cases h
end Go.Ev
