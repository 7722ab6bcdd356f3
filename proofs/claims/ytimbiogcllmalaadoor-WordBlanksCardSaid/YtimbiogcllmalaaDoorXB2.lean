/- Blanks between words: the plain law. -/
import Derived.Test.YtimbiogcllmalaaDoorXB1
namespace Go.Ev
open Go
set_option linter.unusedSimpArgs false
set_option linter.unusedVariables false

/-- A line's end, and a remark. -/
def tailT : List UInt8 := [10, 35, 32, 116, 111, 107, 32, 63, 32, 110, 111, 116, 104, 105, 110, 103]
theorem wd_tail (i : Nat) : wd tailT i = .ok [⟨5, [], i⟩] := by
  rw [tailT, wd_cons, if_neg (by decide), if_neg (by decide), if_pos (by decide)]
  rw [wd_cons, if_neg (by decide), if_pos (by decide)]
  rfl

theorem runL_app {p : UInt8 → Bool} (hp : p 10 = false) : ∀ r : List UInt8, runL p (r ++ tailT) = runL p r
  | [] => by simp only [List.nil_append, tailT, runL, hp]; rfl
  | c :: r => by simp only [List.cons_append, runL, runL_app hp r]

theorem wd_app : ∀ (m : Nat) (r : List UInt8) (i : Nat) (l : List W), r.length ≤ m → wd r i = .ok l → wd (r ++ tailT) i = .ok (l ++ [⟨5, [], i + r.length⟩]) := by
  intro m
  induction m with
  | zero =>
    intro r i l hr h
    have : r = [] := by cases r; rfl; simp at hr
    subst this
    cases h
    exact wd_tail i
  | succ m ih =>
    intro r i l hr h
    cases r with
    | nil => cases h; exact wd_tail i
    | cons c r =>
      simp only [List.length_cons] at hr ⊢
      rw [wd_cons] at h
      rw [List.cons_append, wd_cons]
      have dl : ∀ k, k ≤ r.length → ∀ l', wd (r.drop k) (i + 1 + k) = .ok l' → wd ((r ++ tailT).drop k) (i + 1 + k) = .ok (l' ++ [⟨5, [], i + (r.length + 1)⟩]) := by
        intro k hk l' h'
        rw [List.drop_append_of_le_length hk, ih _ _ _ (by rw [List.length_drop]; omega) h', List.length_drop, show i + 1 + k + (r.length - k) = i + (r.length + 1) by omega]
      have d0 : ∀ l', wd r (i + 1) = .ok l' → wd (r ++ tailT) (i + 1) = .ok (l' ++ [⟨5, [], i + (r.length + 1)⟩]) := by
        intro l' h'
        rw [ih _ _ _ (by omega) h', show i + 1 + r.length = i + (r.length + 1) by omega]
      split at h
      · rename_i hc; rw [if_pos hc]; exact d0 l h
      rename_i hc; rw [if_neg hc]
      split at h
      · rename_i hc; rw [if_pos hc, runL_app rfl]
        exact dl _ (runL_le _ _) l h
      rename_i hc; rw [if_neg hc]
      split at h
      · rename_i hc; rw [if_pos hc]
        obtain ⟨l', hl, rfl⟩ := consW_ok h
        rw [d0 l' hl]; rfl
      rename_i hc; rw [if_neg hc]
      split at h
      · rename_i hc; rw [if_pos hc, runL_app rfl]
        obtain ⟨l', hl, rfl⟩ := consW_ok h
        rw [dl _ (runL_le _ _) l' hl, List.take_append_of_le_length (runL_le _ _)]; rfl
      rename_i hc; rw [if_neg hc]
      split at h
      · rename_i hc; rw [if_pos hc, runL_app rfl]
        obtain ⟨l', hl, rfl⟩ := consW_ok h
        rw [dl _ (runL_le _ _) l' hl, List.take_append_of_le_length (runL_le _ _)]; rfl
      rename_i hc; rw [if_neg hc]
      split at h
      · rename_i hc; rw [if_pos hc]
        obtain ⟨l', hl, rfl⟩ := consW_ok h
        rw [d0 l' hl]; rfl
      rename_i hc; rw [if_neg hc]
      split at h
      · rename_i hc; rw [if_pos hc]
        split at h
        · cases h
        · rename_i k hk
          have hlt := closedL_lt _ _ hk
          rw [closedL_app _ _ _ hk]
          obtain ⟨l', hl, rfl⟩ := consW_ok h
          simp only
          rw [show i + 1 + k + 1 = i + 1 + (k + 1) by omega, dl (k + 1) (by omega) l' (by rw [← hl]; congr 1), List.take_append_of_le_length (by omega)]; rfl
      · cases h

theorem signB_lt {c : UInt8} (h : signB c = true) : c.toNat < 128 := by
  have key : ∀ (l : List UInt8) (k : Nat), (∀ x ∈ l, x.toNat < 128) → 0 ≤ idxByteA c l k → c.toNat < 128 := by
    intro l
    induction l with
    | nil => intro k _ h; simp [idxByteA] at h
    | cons x l ih =>
      intro k hl h
      simp only [idxByteA] at h
      split at h
      · rename_i e; rw [← e]; exact hl x (by simp)
      · exact ih (k + 1) (fun y hy => hl y (by simp [hy])) h
  exact key signL 0 (by decide) (by simpa [signB] using h)

theorem wd_head : ∀ (m : Nat) (r : List UInt8) (i : Nat) (l : List W), r.length ≤ m → wd r i = .ok l → ∀ w ∈ l, ∃ c q, r.drop (w.at_ - i) = c :: q ∧ c.toNat < 128 := by
  intro m
  induction m with
  | zero =>
    intro r i l hr h w hw
    have : r = [] := by cases r; rfl; simp at hr
    subst this
    cases h; cases hw
  | succ m ih =>
    intro r i l hr h w hw
    cases r with
    | nil => cases h; cases hw
    | cons c r =>
      simp only [List.length_cons] at hr
      have dl : ∀ k l', wd (r.drop k) (i + 1 + k) = .ok l' → w ∈ l' → ∃ c' q, (c :: r).drop (w.at_ - i) = c' :: q ∧ c'.toNat < 128 := by
        intro k l' hl hw
        have hge := wd_ge _ _ _ _ (Nat.le_refl _) hl w hw
        obtain ⟨c', q, h1, h2⟩ := ih _ _ _ (by rw [List.length_drop]; omega) hl w hw
        refine ⟨c', q, ?_, h2⟩
        rw [List.drop_drop] at h1
        rw [show w.at_ - i = (k + (w.at_ - (i + 1 + k))) + 1 by omega, List.drop_succ_cons]
        exact h1
      have tl : ∀ (v : W) (k : Nat), v.at_ = i → c.toNat < 128 → consW v (wd (r.drop k) (i + 1 + k)) = .ok l → ∃ c' q, (c :: r).drop (w.at_ - i) = c' :: q ∧ c'.toNat < 128 := by
        intro v k hv hc hcw
        obtain ⟨l', hl, rfl⟩ := consW_ok hcw
        rcases List.mem_cons.1 hw with rfl | hw
        · exact ⟨c, r, by rw [hv, Nat.sub_self]; rfl, hc⟩
        · exact dl k l' hl hw
      rw [wd_cons] at h
      split at h
      · exact dl 0 l (by simpa using h) hw
      split at h
      · exact dl _ l h hw
      split at h
      · exact tl _ 0 rfl (by omega) (by simpa using h)
      split at h
      · rename_i hc
        exact tl _ _ rfl (by simp [letterB] at hc; omega) h
      split at h
      · rename_i hc
        exact tl _ _ rfl (by simp [digitB] at hc; omega) h
      split at h
      · rename_i hc
        exact tl _ 0 rfl (signB_lt hc) (by simpa using h)
      split at h
      · split at h
        · cases h
        · rename_i k hk
          exact tl _ (k + 1) rfl (by omega) (by rw [← h]; rfl)
      · cases h

def nextH (held : List UInt8) (c : UInt8) : List UInt8 := if (held ++ [c]).length = longB (headB (held ++ [c])) then [] else held ++ [c]
/-- Are bytes whole runes, behind those that are held? -/
def okF : List UInt8 → List UInt8 → Bool
  | [], held => held.isEmpty
  | c :: r, held => okB held c && okF r (nextH held c)

theorem afterM_next (held : List UInt8) (c : UInt8) (at_ : Nat) : (afterM held c at_).1 = nextH held c ∧ ∀ x ∈ (afterM held c at_).2.2, x.bad = false := by
  unfold afterM nextH
  split <;> simp

theorem feed_ok : ∀ (r held : List UInt8) (at_ : Nat), okF r held = true ↔ ((∀ x ∈ (feedD r held at_).2.2, x.bad = false) ∧ (feedD r held at_).1 = [])
  | [], held, at_ => by simp [okF, feedD]
  | c :: r, held, at_ => by
    have ih := fun held at_ => feed_ok r held at_
    obtain ⟨a1, a2⟩ := afterM_next held c at_
    simp only [okF, feedD, Bool.and_eq_true, List.mem_append]
    cases hk : okB held c with
    | true =>
      have e : takeB held c at_ = afterM held c at_ := by simp [takeB, hk]
      rw [e, a1, eq_self, true_and, ih (nextH held c) (afterM held c at_).2.1]
      constructor
      · rintro ⟨h1, h2⟩
        exact ⟨fun x hx => hx.elim (a2 x) (h1 x), h2⟩
      · rintro ⟨h1, h2⟩
        exact ⟨fun x hx => h1 x (.inr hx), h2⟩
    | false =>
      constructor
      · rintro ⟨h, _⟩; cases h
      · rintro ⟨h1, _⟩
        exfalso
        cases held with
        | nil =>
          have := h1 (It.mk 65533 at_ (at_ + 1) true false) (.inl (by simp [takeB, hk]))
          cases this
        | cons a held =>
          have := h1 (It.mk 65533 at_ (at_ + (a :: held).length) true true) (.inl (by simp [takeB, hk]))
          cases this

theorem dec_ok (s : List UInt8) : (∀ x ∈ decAll s, x.bad = false) ↔ okF s [] = true := by
  rw [feed_ok s [] 0]
  unfold decAll
  constructor
  · intro h
    refine ⟨fun x hx => h x (List.mem_append.2 (.inl hx)), ?_⟩
    cases hh : (feedD s [] 0).1 with
    | nil => rfl
    | cons a l =>
      have := h (It.mk 65533 (feedD s [] 0).2.1 ((feedD s [] 0).2.1 + (feedD s [] 0).1.length) true true) (List.mem_append.2 (.inr (by rw [hh]; simp [closeD])))
      cases this
  · rintro ⟨h1, h2⟩ x hx
    rcases List.mem_append.1 hx with hx | hx
    · exact h1 x hx
    · rw [h2] at hx; simp [closeD] at hx

theorem okF_app : ∀ (a b held : List UInt8), okF a held = true → okF (a ++ b) held = okF b []
  | [], b, held, h => by
    have : held = [] := by simpa [okF] using h
    subst this; rfl
  | c :: a, b, held, h => by
    simp only [okF, Bool.and_eq_true] at h
    simp only [List.cons_append, okF, h.1, Bool.true_and]
    exact okF_app a b _ h.2
theorem secLo_ge (n : Nat) : 128 ≤ secLo n := by
  unfold secLo
  repeat' split
  all_goals omega
theorem okB_low {held : List UInt8} {c : UInt8} (h : okB held c = true) (hc : c.toNat < 128) : held = [] := by
  match held, h with
  | [], _ => rfl
  | [a], h =>
    have := okB_1 h
    have := secLo_ge a.toNat
    omega
  | a :: b :: l, h =>
    simp only [okB, decide_eq_true_eq] at h
    omega
theorem okF_cut : ∀ (a b held : List UInt8) (c : UInt8), c.toNat < 128 → okF (a ++ c :: b) held = true → okF a held = true ∧ okF (c :: b) [] = true
  | [], b, held, c, hc, h => by
    have h' := h
    simp only [List.nil_append, okF, Bool.and_eq_true] at h
    have := okB_low h.1 hc
    subst this
    exact ⟨rfl, h'⟩
  | x :: a, b, held, c, hc, h => by
    simp only [List.cons_append, okF, Bool.and_eq_true] at h
    obtain ⟨h1, h2⟩ := okF_cut a b _ c hc h.2
    exact ⟨by simp only [okF, h.1, h1, Bool.and_self], h2⟩
theorem okF_low : ∀ a : List UInt8, (∀ x ∈ a, x.toNat < 128) → okF a [] = true
  | [], _ => rfl
  | c :: a, h => by
    have hc := h c (by simp)
    have h1 : longB c = 1 := by simp only [longB, longN, if_pos hc]
    simp only [okF, okB, h1, nextH, List.nil_append, List.length_cons, List.length_nil, headB, List.headD_cons]
    simp only [if_true]
    exact okF_low a fun x hx => h x (by simp [hx])

theorem allW_iff {s : List UInt8} {l : List W} : allW s = .ok l ↔ wd s 0 = .ok l ∧ okF s [] = true := by
  rw [← dec_ok]
  constructor
  · intro h
    have hw := allW_ok h
    refine ⟨hw, fun x hx => ?_⟩
    unfold allW at h
    split at h
    · cases h
    · rename_i hn
      have := List.find?_eq_none.1 hn x hx
      rw [hw] at this
      simpa [badAt] using this
  · rintro ⟨h1, h2⟩
    have hn : (decAll s).find? (badAt (wordsL s.length s 0)) = none := by
      refine List.find?_eq_none.2 fun x hx => ?_
      simp [badAt, h2 x hx]
    unfold allW
    rw [hn]
    exact h1

/-- The law of blanks. -/
theorem blanks_law {s : List UInt8} {l : List W} (h : allW s = .ok l) {w : W} (hw : w ∈ l) (j : Nat) :
    allW (s.take w.at_ ++ List.replicate j 32 ++ s.drop w.at_ ++ tailT) = .ok (l.map (W.mv w.at_ j) ++ [⟨5, [], s.length + j⟩]) := by
  obtain ⟨h1, h2⟩ := allW_iff.1 h
  obtain ⟨c, q, hq, hc⟩ := wd_head _ _ _ _ (Nat.le_refl _) h1 w hw
  rw [Nat.sub_zero] at hq
  have hlen : w.at_ ≤ s.length := by
    rcases Nat.lt_or_ge s.length w.at_ with h | h
    · rw [List.drop_eq_nil_of_le (by omega)] at hq; cases hq
    · exact h
  have htl : (s.take w.at_).length = w.at_ := by rw [List.length_take]; omega
  have e0 : s = s.take w.at_ ++ s.drop w.at_ := (List.take_append_drop _ _).symm
  refine allW_iff.2 ⟨?_, ?_⟩
  · have k1 := wd_insert j (s.drop w.at_) _ (s.take w.at_) 0 l (Nat.le_refl _) (by rw [← e0]; exact h1) ⟨w, hw, by rw [htl]; omega⟩
    rw [htl, Nat.zero_add, ← List.append_assoc] at k1
    have k2 := wd_app _ _ _ _ (Nat.le_refl _) k1
    rw [k2]
    congr 3
    simp; omega
  · rw [e0, hq] at h2
    obtain ⟨o1, o2⟩ := okF_cut _ _ _ c hc h2
    rw [List.append_assoc, List.append_assoc, okF_app _ _ _ o1, okF_app _ _ _ (okF_low _ (fun x hx => by rw [List.eq_of_mem_replicate hx]; decide)), hq, okF_app _ _ _ o2]
    exact okF_low _ (by decide)
end Go.Ev
