/- Several texts of this claim, joined. -/
import Derived.Test.YtifhmogcdgfojaaGreatDoorT31
import Derived.Test.YtifhmogcdgfojaaGreatDoorT26
set_option linter.unusedSimpArgs false
set_option linter.unusedVariables false

/- Expressions as texts, and read again: plainly. -/
namespace Go.Ev
open Go
set_option maxRecDepth 8000
def isAlt : Rx → Bool
  | .alt _ _ => true
  | _ => false
def isSeq : Rx → Bool
  | .seq _ _ => true
  | _ => false
/-- In brackets, if it must be. -/
def inB (b : Bool) (s : List UInt8) : List UInt8 := if b then 40 :: (s ++ [41]) else s
/-- A small letter, by its number. -/
def ltr (n : Int) : UInt8 := UInt8.ofNat n.toNat
def setP : List R → List UInt8
  | [r] => if r.lo = r.hi then [ltr r.lo] else [91, ltr r.lo, 45, ltr r.hi, 93]
  | _ => []
def printX : Rx → List UInt8
  | .emp => [40, 41]
  | .set l => setP l
  | .seq a b => inB (isAlt a) (printX a) ++ inB (isAlt b || isSeq b) (printX b)
  | .alt a b => printX a ++ 124 :: inB (isAlt b) (printX b)
  | .star a => inB (isSeq a || isAlt a) (printX a) ++ [42]
/-- A set of one letter, or of two neighbours. -/
def okS (l : List R) : Prop := ∃ c : Int, (97 ≤ c ∧ c ≤ 98) ∧ (l = [⟨c, c⟩] ∨ l = [⟨c, c + 1⟩])
/-- Of such sets. -/
def okX : Rx → Prop
  | .emp => True
  | .set l => okS l
  | .seq a b => okX a ∧ okX b
  | .alt a b => okX a ∧ okX b
  | .star a => okX a
def szX : Rx → Nat
  | .emp => 1
  | .set _ => 1
  | .seq a b => szX a + szX b + 1
  | .alt a b => szX a + szX b + 1
  | .star a => szX a + 1
theorem szX_pos : ∀ x, 0 < szX x
  | .emp => by simp [szX]
  | .set _ => by simp [szX]
  | .seq _ _ => by simp [szX]
  | .alt _ _ => by simp [szX]
  | .star _ => by simp [szX]
def isPost : Rx → Bool
  | .seq _ _ => false
  | .alt _ _ => false
  | _ => true
/-- What stands at a place. -/
theorem chr_at {s : List UInt8} {k : Nat} {c : UInt8} {r : List UInt8} (h : s.drop k = c :: r) : chrR s k = (c.toNat : Int) := by
  unfold chrR
  have : s[k]? = some c := by
    have := congrArg (·[0]?) h
    simpa [List.getElem?_drop] using this
  rw [this]
theorem chr_end {s : List UInt8} {k : Nat} (h : s.drop k = []) : chrR s k = -1 := by
  unfold chrR
  have : s[k]? = none := List.getElem?_eq_none_iff.2 (List.drop_eq_nil_iff.1 h)
  rw [this]
theorem drop_one {s : List UInt8} {k : Nat} {c : UInt8} {r : List UInt8} (h : s.drop k = c :: r) : s.drop (k + 1) = r := by
  rw [← List.drop_drop, h]; rfl
theorem drop_app {s t : List UInt8} {k : Nat} {r : List UInt8} (h : s.drop k = t ++ r) : s.drop (k + t.length) = r := by
  rw [← List.drop_drop, h, List.drop_left]
/-- No star is next. -/
def NoStar (s : List UInt8) (k : Nat) : Prop := chrR s k ≠ 42
/-- An end is next: of all, of an alternative, of brackets. -/
abbrev Stop (s : List UInt8) (k : Nat) : Prop := chrR s k = -1 ∨ chrR s k = 124 ∨ chrR s k = 41
theorem Stop.noStar {s k} (h : Stop s k) : NoStar s k := by
  rcases h with h | h | h <;> (unfold NoStar; rw [h]; decide)
section
variable {s : List UInt8} {e : Nat}
theorem stars_stop {k m : Nat} {x : Rx} (h : NoStar s k) : starsP (asc 0 s) m x k = (x, k) := by
  cases m with
  | zero => rfl
  | succ m => rw [starsP, peek_ascR, if_neg h]
theorem row_item {n d k j kb k' : Nat} {acc b x : Rx} {sm : Bool} (hc : ¬ Stop s k) (ha : atomP (asc 0 s) e n d k = .ok (b, kb)) (hj : j ≤ s.length)
    (hs : ∀ m, starsP (asc 0 s) (m + j) b kb = starsP (asc 0 s) m x k') (hn : NoStar s k') :
    rowP (asc 0 s) e (n + 1) d acc sm k = rowP (asc 0 s) e n d (if sm then .seq acc x else x) true k' := by
  have h1 : starsP (asc 0 s) (asc 0 s).length b kb = (x, k') := by
    rw [asc_len, show s.length = (s.length - j) + j by omega, hs, stars_stop hn]
  rw [rowP, peek_ascR, if_neg hc, ha]
  simp only [h1]
theorem rune_ltr {k : Nat} {c : Int} {cls : Bool} (hc : 97 ≤ c ∧ c ≤ 99) (h : chrR s k = c) : runeR (asc 0 s) e cls k = .ok (c, k + 1) := by
  have : c = 97 ∨ c = 98 ∨ c = 99 := by omega
  rw [runeR, peek_ascR, h]
  rcases this with rfl | rfl | rfl <;> cases cls <;> rfl
theorem ltr_nat {c : Int} (hc : 97 ≤ c ∧ c ≤ 99) : ((ltr c).toNat : Int) = c := by
  have : c = 97 ∨ c = 98 ∨ c = 99 := by omega
  rcases this with rfl | rfl | rfl <;> rfl
theorem norm_two {c : Int} (hc : 97 ≤ c ∧ c ≤ 98) : normF [⟨c, c + 1⟩] = [⟨c, c + 1⟩] := by
  have : c = 97 ∨ c = 98 := by omega
  rcases this with rfl | rfl <;> decide +kernel
theorem atom_set {l : List R} (hl : okS l) {k n d : Nat} {r : List UInt8} (h : s.drop k = setP l ++ r) : atomP (asc 0 s) e (n + 1) d k = .ok (.set l, k + (setP l).length) := by
  obtain ⟨c, hc, rfl | rfl⟩ := hl
  · have hs : setP [⟨c, c⟩] = [ltr c] := by simp [setP]
    rw [hs] at h ⊢
    have h0 : chrR s k = c := by rw [chr_at h, ltr_nat ⟨hc.1, by omega⟩]
    rw [atomP, peek_ascR, h0, if_neg (by omega), if_neg (by omega), if_neg (by omega), rune_ltr ⟨hc.1, by omega⟩ h0]
    rfl
  · have hs : setP [⟨c, c + 1⟩] = [91, ltr c, 45, ltr (c + 1), 93] := by
      have : ¬ (c = c + 1) := by omega
      simp [setP, this]
    rw [hs] at h ⊢
    have d0 := drop_one h
    have d1 := drop_one d0
    have d2 := drop_one d1
    have d3 := drop_one d2
    have h0 : chrR s k = 91 := chr_at h
    have h1 : chrR s (k + 1) = c := by rw [chr_at d0, ltr_nat ⟨hc.1, by omega⟩]
    have h2 : chrR s (k + 1 + 1) = 45 := chr_at d1
    have h3 : chrR s (k + 1 + 1 + 1) = c + 1 := by rw [chr_at d2, ltr_nat ⟨by omega, by omega⟩]
    have h4 : chrR s (k + 1 + 1 + 1 + 1) = 93 := chr_at d3
    have hlen : 1 ≤ (asc 0 s).length := by
      rw [asc_len]
      rcases Nat.lt_or_ge k s.length with hk | hk
      · omega
      · rw [List.drop_eq_nil_iff.2 hk] at h; simp at h
    have hg : clGo (asc 0 s) e 93 ((asc 0 s).length + 1) [] (k + 1) = .ok ([⟨c, c + 1⟩], k + 1 + 1 + 1 + 1) := by
      obtain ⟨m, hm⟩ : ∃ m, (asc 0 s).length = m + 1 := ⟨(asc 0 s).length - 1, by omega⟩
      rw [hm, clGo, if_neg (by simp), rune_ltr ⟨hc.1, by omega⟩ h1]
      simp only [peek_ascR, h2, if_true]
      rw [rune_ltr ⟨by omega, by omega⟩ h3]
      simp only
      rw [if_neg (by omega), clGo, if_pos ⟨by simp, by rw [peek_ascR]; exact h4⟩]
      rfl
    have hcl : classR (asc 0 s) e 93 (k + 1) = .ok ([⟨c, c + 1⟩], k + 1 + 1 + 1 + 1) := by
      rw [classR, peek_ascR, h1, if_neg (by omega), hg]
      simp only [norm_two hc, if_neg (show ¬ c = 94 by omega)]
      rfl
    have hbg : bigC (asc 0 s) e 93 (k + 1) = false := by
      rw [bigC, peek_ascR, h1, if_neg (by omega), hg]
      have := capN_12
      simp only [List.length_cons, List.length_nil, decide_eq_false_iff_not]
      omega
    rw [atomP, peek_ascR, h0, if_neg (by decide), if_pos rfl, hbg, if_neg (by decide), hcl]
    simp only [peek_ascR, h4, if_true]
    rfl
/-- An item's first sign. -/
def Fst (t : List UInt8) : Prop := ∃ c r, t = c :: r ∧ ((c.toNat = 97 ∨ c.toNat = 98) ∨ c.toNat = 91 ∨ c.toNat = 40)
theorem Fst.app {t u : List UInt8} (h : Fst t) : Fst (t ++ u) := by
  obtain ⟨c, r, rfl, h2⟩ := h; exact ⟨c, r ++ u, rfl, h2⟩
theorem Fst.inB {b : Bool} {t : List UInt8} (h : Fst t) : Fst (inB b t) := by
  cases b
  · exact h
  · exact ⟨40, _, rfl, .inr (.inr rfl)⟩
theorem fst_print : ∀ x, okX x → Fst (printX x)
  | .emp, _ => ⟨40, [41], rfl, .inr (.inr rfl)⟩
  | .set l, h => by
    obtain ⟨c, hc, rfl | rfl⟩ := h
    · refine ⟨ltr c, [], by simp [printX, setP], .inl ?_⟩
      have : c = 97 ∨ c = 98 := by omega
      rcases this with rfl | rfl
      · exact .inl rfl
      · exact .inr rfl
    · have : ¬ (c = c + 1) := by omega
      exact ⟨91, [ltr c, 45, ltr (c + 1), 93], by simp only [printX, setP, if_neg this], .inr (.inl rfl)⟩
  | .seq a b, h => (fst_print a h.1).inB.app
  | .alt a b, h => (fst_print a h.1).app
  | .star a, h => (fst_print a h).inB.app
theorem Fst.noStop {t r : List UInt8} {k : Nat} (h : Fst t) (hd : s.drop k = t ++ r) : ¬ Stop s k := by
  obtain ⟨c, r', rfl, h2⟩ := h
  rw [List.cons_append] at hd
  have := chr_at hd
  unfold Stop
  rw [this]
  omega
def PSx (s : List UInt8) (e : Nat) (x : Rx) : Prop := ∀ d k n r, s.drop k = printX x ++ r → d + szX x ≤ 40 → 4 * szX x ≤ n + 2 →
  ∃ b kb j, atomP (asc 0 s) e n d k = .ok (b, kb) ∧ j ≤ (printX x).length ∧ ∀ m, starsP (asc 0 s) (m + j) b kb = starsP (asc 0 s) m x (k + (printX x).length)
def Rowx (s : List UInt8) (e : Nat) (x : Rx) : Prop := ∀ d k n r, s.drop k = printX x ++ r → NoStar s (k + (printX x).length) → d + szX x ≤ 40 → 4 * szX x ≤ n + 1 →
  ∃ n', n ≤ n' + szX x ∧ rowP (asc 0 s) e n d .emp false k = rowP (asc 0 s) e n' d x true (k + (printX x).length)
def Allx (s : List UInt8) (e : Nat) (x : Rx) : Prop := ∀ d k n r, s.drop k = printX x ++ r → Stop s (k + (printX x).length) → d + szX x ≤ 40 → 4 * szX x ≤ n →
  ∃ n', n ≤ n' + szX x ∧ allP (asc 0 s) e n d k = altP (asc 0 s) e n' d x (k + (printX x).length)
theorem len_le {t r : List UInt8} {k : Nat} (h : s.drop k = t ++ r) : t.length ≤ s.length := by
  have := congrArg List.length h
  rw [List.length_drop, List.length_append] at this
  omega
theorem br_atom {x : Rx} (hA : Allx s e x) {d k n : Nat} {r : List UInt8} (h : s.drop k = 40 :: (printX x ++ 41 :: r)) (hd : d + 1 + szX x ≤ 40) (hn : 4 * szX x + 1 ≤ n) :
    atomP (asc 0 s) e n d k = .ok (x, k + (inB true (printX x)).length) := by
  obtain ⟨n0, rfl⟩ : ∃ n0, n = n0 + 1 := ⟨n - 1, by omega⟩
  have h0 : chrR s k = 40 := chr_at h
  have d1 := drop_one h
  have d2 := drop_app d1
  have h2 : chrR s (k + 1 + (printX x).length) = 41 := chr_at d2
  obtain ⟨n', q1, q2⟩ := hA (d + 1) (k + 1) n0 _ d1 (.inr (.inr h2)) (by omega) (by omega)
  have := szX_pos x
  obtain ⟨n1, rfl⟩ : ∃ n1, n' = n1 + 1 := ⟨n' - 1, by omega⟩
  rw [atomP_br (by rw [peek_ascR]; exact h0) (by omega), q2, altP, peek_ascR, h2, if_neg (by decide)]
  simp only [peek_ascR, h2, if_true]
  congr 2
  simp [inB]; omega
/-- An item, in brackets or not. -/
theorem item {x : Rx} {br : Bool} (hx : okX x) (hA : br = true → Allx s e x) (hP : br = false → PSx s e x) {d k n : Nat} {r : List UInt8} {acc : Rx} {sm : Bool} (h : s.drop k = inB br (printX x) ++ r)
    (hns : NoStar s (k + (inB br (printX x)).length)) (hd : d + szX x + (if br then 1 else 0) ≤ 40) (hn : 4 * szX x + (if br then 3 else 0) ≤ n + 2) :
    rowP (asc 0 s) e (n + 1) d acc sm k = rowP (asc 0 s) e n d (if sm then .seq acc x else x) true (k + (inB br (printX x)).length) := by
  cases br with
  | true =>
    have h' : s.drop k = 40 :: (printX x ++ 41 :: r) := by rw [h]; simp [inB]
    simp only [if_true] at hd hn
    exact row_item (j := 0) (Fst.noStop (t := inB true (printX x)) (fst_print x hx).inB h) (br_atom (hA rfl) h' (by omega) (by omega)) (Nat.zero_le _) (fun m => rfl) hns
  | false =>
    simp only [Bool.false_eq_true, if_false, Nat.add_zero] at hd hn
    obtain ⟨b, kb, j, q1, q2, q3⟩ := hP rfl d k n r h hd hn
    exact row_item (Fst.noStop (fst_print x hx) h) q1 (Nat.le_trans q2 (len_le h)) q3 hns
theorem main : ∀ x, okX x → (isPost x = true → PSx s e x) ∧ (isAlt x = false → Rowx s e x) ∧ Allx s e x := by
  -- a row of what is no alternative, then its end
  have all_of_row : ∀ x, Rowx s e x → Allx s e x := fun x hR d k n r h hst hd hn => by
    obtain ⟨n', q1, q2⟩ := hR d k n r h hst.noStar hd (by omega)
    have := szX_pos x
    obtain ⟨n1, rfl⟩ : ∃ n1, n' = n1 + 1 := ⟨n' - 1, by omega⟩
    refine ⟨n, by omega, ?_⟩
    rw [allP, q2, rowP, peek_ascR, if_pos hst]
  have row_of_post : ∀ x, okX x → PSx s e x → Rowx s e x := fun x hx hP d k n r h hns hd hn => by
    have := szX_pos x
    obtain ⟨n1, rfl⟩ : ∃ n1, n = n1 + 1 := ⟨n - 1, by omega⟩
    refine ⟨n1, by omega, ?_⟩
    have := item (br := false) (acc := .emp) (sm := false) hx (fun h => by cases h) (fun _ => hP) h hns (by simpa using hd) (by simpa using (by omega : 4 * szX x ≤ n1 + 2))
    simpa [inB] using this
  have fin : ∀ x, okX x → isAlt x = false → PSx s e x → (isPost x = true → PSx s e x) ∧ (isAlt x = false → Rowx s e x) ∧ Allx s e x := fun x hx _ hP => ⟨fun _ => hP, fun _ => row_of_post x hx hP, all_of_row x (row_of_post x hx hP)⟩
  intro x
  induction x with
  | emp =>
    intro hx
    refine fin _ hx rfl fun d k n r h hd hn => ?_
    simp only [szX] at hd hn
    obtain ⟨n0, rfl⟩ : ∃ n0, n = n0 + 1 + 1 := ⟨n - 2, by omega⟩
    have h' : s.drop k = 40 :: 41 :: r := h
    have h0 : chrR s k = 40 := chr_at h'
    have h1 : chrR s (k + 1) = 41 := chr_at (drop_one h')
    refine ⟨.emp, k + 2, 0, ?_, Nat.zero_le _, fun m => rfl⟩
    rw [atomP_br (by rw [peek_ascR]; exact h0) (by omega), allP, rowP, peek_ascR, if_pos (.inr (.inr h1))]
    simp only
    rw [altP, peek_ascR, h1, if_neg (by decide)]
    simp only [peek_ascR, h1, if_true]
  | set l =>
    intro hx
    refine fin _ hx rfl fun d k n r h hd hn => ?_
    simp only [szX] at hd hn
    obtain ⟨n0, rfl⟩ : ∃ n0, n = n0 + 1 := ⟨n - 1, by omega⟩
    exact ⟨.set l, _, 0, atom_set hx h, Nat.zero_le _, fun m => rfl⟩
  | star a ih =>
    intro hx
    obtain ⟨i1, i2, i3⟩ := ih hx
    refine fin _ hx rfl fun d k n r h hd hn => ?_
    simp only [szX] at hd hn
    rw [printX, List.append_assoc] at h
    have hl : (printX (.star a)).length = (inB (isSeq a || isAlt a) (printX a)).length + 1 := by rw [printX, List.length_append]; rfl
    have hst : chrR s (k + (inB (isSeq a || isAlt a) (printX a)).length) = 42 := chr_at (drop_app h)
    cases hb : (isSeq a || isAlt a) with
    | true =>
      rw [hb] at h hl hst
      have h' : s.drop k = 40 :: (printX a ++ 41 :: (42 :: r)) := by rw [h]; simp [inB]
      refine ⟨a, _, 1, br_atom i3 h' (by omega) (by omega), by omega, fun m => ?_⟩
      rw [starsP, peek_ascR, if_pos hst, hl]
      rfl
    | false =>
      rw [hb] at h hl hst
      have hp : isPost a = true := by cases a <;> simp [isSeq, isAlt] at hb <;> rfl
      obtain ⟨b, kb, j, q1, q2, q3⟩ := i1 hp d k n _ h (by omega) (by omega)
      refine ⟨b, kb, j + 1, q1, by rw [hl]; simp only [inB]; exact Nat.succ_le_succ q2, fun m => ?_⟩
      rw [show m + (j + 1) = (m + 1) + j by omega, q3, starsP, peek_ascR, if_pos (show chrR s (k + (printX a).length) = 42 from hst), hl]
      rfl
  | seq a b iha ihb =>
    intro hx
    obtain ⟨a1, a2, a3⟩ := iha hx.1
    obtain ⟨b1, b2, b3⟩ := ihb hx.2
    have hR : Rowx s e (.seq a b) := fun d k n r h hns hd hn => by
      simp only [szX] at hd hn ⊢
      rw [printX, List.append_assoc] at h
      have hl : (printX (.seq a b)).length = (inB (isAlt a) (printX a)).length + (inB (isAlt b || isSeq b) (printX b)).length := by rw [printX, List.length_append]
      rw [hl] at hns ⊢
      have hdb := drop_app h
      have pa := szX_pos a
      have pb := szX_pos b
      have nsa : NoStar s (k + (inB (isAlt a) (printX a)).length) := by
        obtain ⟨c, r', e1, e2⟩ := (fst_print b hx.2).inB (b := (isAlt b || isSeq b))
        rw [e1] at hdb
        unfold NoStar
        rw [chr_at hdb]; omega
      obtain ⟨n', q1, q2⟩ : ∃ n', n ≤ n' + szX a ∧ rowP (asc 0 s) e n d .emp false k = rowP (asc 0 s) e n' d a true (k + (inB (isAlt a) (printX a)).length) := by
        cases hb : isAlt a with
        | true =>
          rw [hb] at h nsa
          obtain ⟨n1, rfl⟩ : ∃ n1, n = n1 + 1 := ⟨n - 1, by omega⟩
          exact ⟨n1, by omega, item (br := true) hx.1 (fun _ => a3) (fun h => by cases h) h nsa (by simp only [if_true]; omega) (by simp only [if_true]; omega)⟩
        | false =>
          rw [hb] at h nsa
          exact a2 hb d k n _ h nsa (by omega) (by omega)
      obtain ⟨n1, rfl⟩ : ∃ n1, n' = n1 + 1 := ⟨n' - 1, by omega⟩
      refine ⟨n1, by omega, ?_⟩
      rw [q2]
      rw [← Nat.add_assoc] at hns ⊢
      have hP : (isAlt b || isSeq b) = false → PSx s e b := fun hb => b1 (by cases b <;> simp [isSeq, isAlt] at hb <;> rfl)
      exact item hx.2 (fun _ => b3) hP hdb hns (by split <;> omega) (by split <;> omega)
    exact ⟨fun h => (by cases h), fun _ => hR, all_of_row _ hR⟩
  | alt a b iha ihb =>
    intro hx
    obtain ⟨a1, a2, a3⟩ := iha hx.1
    obtain ⟨b1, b2, b3⟩ := ihb hx.2
    refine ⟨fun h => (by cases h), fun h => (by cases h), fun d k n r h hst hd hn => ?_⟩
    simp only [szX] at hd hn ⊢
    rw [printX, List.append_assoc, List.cons_append] at h
    have hl : (printX (.alt a b)).length = (printX a).length + 1 + (inB (isAlt b) (printX b)).length := by rw [printX, List.length_append, List.length_cons]; omega
    rw [hl] at hst ⊢
    have hdb := drop_app h
    have h124 : chrR s (k + (printX a).length) = 124 := chr_at hdb
    have hdc := drop_one hdb
    have pa := szX_pos a
    have pb := szX_pos b
    obtain ⟨n', q1, q2⟩ := a3 d k n _ h (.inr (.inl h124)) (by omega) (by omega)
    obtain ⟨n1, rfl⟩ : ∃ n1, n' = n1 + 1 := ⟨n' - 1, by omega⟩
    refine ⟨n1, by omega, ?_⟩
    rw [← Nat.add_assoc] at hst ⊢
    rw [← Nat.add_assoc] at hst ⊢
    obtain ⟨n2, q3, q4⟩ : ∃ n2, n1 ≤ n2 + szX b ∧ rowP (asc 0 s) e n1 d .emp false (k + (printX a).length + 1) = rowP (asc 0 s) e n2 d b true (k + (printX a).length + 1 + (inB (isAlt b) (printX b)).length) := by
      cases hb : isAlt b with
      | true =>
        rw [hb] at hdc hst
        obtain ⟨n3, rfl⟩ : ∃ n3, n1 = n3 + 1 := ⟨n1 - 1, by omega⟩
        exact ⟨n3, by omega, item (br := true) hx.2 (fun _ => b3) (fun h => by cases h) hdc hst.noStar (by simp only [if_true]; omega) (by simp only [if_true]; omega)⟩
      | false =>
        rw [hb] at hdc hst
        exact b2 hb d _ n1 _ hdc hst.noStar (by omega) (by omega)
    obtain ⟨n4, rfl⟩ : ∃ n4, n2 = n4 + 1 := ⟨n2 - 1, by omega⟩
    rw [q2, altP, peek_ascR, if_pos h124, q4, rowP, peek_ascR, if_pos hst]
end
theorem asc_inB {b : Bool} {t : List UInt8} (h : ∀ c ∈ t, c.toNat < 128) : ∀ c ∈ inB b t, c.toNat < 128 := by
  intro c hc
  cases b
  · exact h c hc
  · simp only [inB, if_true, List.mem_cons, List.mem_append, List.mem_nil_iff, or_false] at hc
    rcases hc with rfl | hc | rfl
    · decide
    · exact h c hc
    · decide
theorem asc_ltr {c : Int} (hc : 97 ≤ c ∧ c ≤ 99) : (ltr c).toNat < 128 := by
  have := ltr_nat hc; omega
theorem asc_print : ∀ x, okX x → ∀ c ∈ printX x, c.toNat < 128
  | .emp, _ => by intro c hc; simp only [printX, List.mem_cons, List.mem_nil_iff, or_false] at hc; rcases hc with rfl | rfl <;> decide
  | .set l, h => by
    obtain ⟨v, hv, rfl | rfl⟩ := h
    · intro c hc
      simp only [printX, setP, if_true, List.mem_cons, List.mem_nil_iff, or_false] at hc
      subst hc
      exact asc_ltr ⟨hv.1, by omega⟩
    · intro c hc
      simp only [printX, setP, if_neg (show ¬ v = v + 1 by omega), List.mem_cons, List.mem_nil_iff, or_false] at hc
      rcases hc with rfl | rfl | rfl | rfl | rfl
      · decide
      · exact asc_ltr ⟨hv.1, by omega⟩
      · decide
      · exact asc_ltr ⟨by omega, by omega⟩
      · decide
  | .seq a b, h => fun c hc => by
    rw [printX, List.mem_append] at hc
    exact hc.elim (asc_inB (asc_print a h.1) c) (asc_inB (asc_print b h.2) c)
  | .alt a b, h => fun c hc => by
    rw [printX, List.mem_append, List.mem_cons] at hc
    rcases hc with hc | rfl | hc
    · exact asc_print a h.1 c hc
    · decide
    · exact asc_inB (asc_print b h.2) c hc
  | .star a, h => fun c hc => by
    rw [printX, List.mem_append, List.mem_singleton] at hc
    rcases hc with hc | rfl
    · exact asc_inB (asc_print a h) c hc
    · decide
/-- What is printed is read as the same. -/
theorem re_print {x : Rx} (hx : okX x) (hz : szX x ≤ 40) : reF 160 (printX x) = .ok x := by
  have h0 : (printX x).drop 0 = printX x ++ [] := by simp
  have he : chrR (printX x) (0 + (printX x).length) = -1 := chr_end (by simp)
  obtain ⟨n', q1, q2⟩ := (main (s := printX x) (e := (printX x).length) x hx).2.2 0 0 160 [] h0 (.inl he) (by omega) (by omega)
  obtain ⟨n1, rfl⟩ : ∃ n1, n' = n1 + 1 := ⟨n' - 1, by omega⟩
  rw [reF, dec_asc (asc_print x hx), q2, altP, peek_ascR, he, if_neg (by decide)]
  simp only [peek_ascR, he, if_true]
/- Package goboref6: how many nodes, how deep; may it be. -/
open Go.Ev renaming seqK_normal → zA, blockK_normal → zB, blockK_exit → zC
open Nat renaming reduceEqDiff → zD, reduceAdd → zE, reduceSub → zF, reduceMul → zG, reduceLeDiff → zH, reduceLT → zI
open Int renaming reduceToNat → zJ, reduceLT → zK, reduceLE → zL, reduceEq → zM, reduceAdd → zN, reduceSub → zO, reduceMul → zP
set_option maxRecDepth 8000
def dpX : Rx → Nat
  | .emp => 1
  | .set _ => 1
  | .seq a b => max (dpX a) (dpX b) + 1
  | .alt a b => max (dpX a) (dpX b) + 1
  | .star a => dpX a + 1
def nK (l : List Rx) : Nat := (l.map szX).sum
def dK : Nat → List Rx → Nat
  | d, [] => d
  | d, x :: r => dK (max d (dpX x)) r
theorem sz_kids (x : Rx) : szX x = 1 + nK (kidsX x) := by cases x <;> simp [szX, nK, kidsX] <;> omega
theorem dp_kids (x : Rx) : dpX x = dK 0 (kidsX x) + 1 := by cases x <;> simp [dpX, dK, kidsX]
theorem dp_sz : ∀ x : Rx, dpX x ≤ szX x
  | .emp => Nat.le_refl _
  | .set _ => Nat.le_refl _
  | .seq a b => by have := dp_sz a; have := dp_sz b; simp only [dpX, szX]; omega
  | .alt a b => by have := dp_sz a; have := dp_sz b; simp only [dpX, szX]; omega
  | .star a => by have := dp_sz a; simp only [dpX, szX]; omega
/-- May it be: of such sets. -/
def mayX (x : Rx) : Bool := decide (szX x ≤ 60) && decide (dpX x ≤ 12)
theorem okS_norm {l : List R} (h : okS l) : l = normF l := by
  obtain ⟨c, hc, rfl | rfl⟩ := h
  · have : c = 97 ∨ c = 98 := by omega
    rcases this with rfl | rfl <;> decide +kernel
  · have : c = 97 ∨ c = 98 := by omega
    rcases this with rfl | rfl <;> decide +kernel
section
variable {o : CallF} (ho : OvOnly o)
include ho
theorem g_May {l : List R} {v : AV} {rb : Nat} (hl : l.length ≤ 50000) (hr : ∀ r ∈ l, I32 r.lo ∧ I32 r.hi) {H : Heap} (hR : Rd H 2 (rcells l) l.length v rb) {Q : End → Heap → Prop}
    (hQ : ∀ H', Ext H.size H H' → Q (.ret (.bool (decide (l = normF l)))) H') : wpf ⟨bt.get, o⟩ F_goboref3_May [v] H Q := by
  rw [fn_goboref3_May (ho _ _ _ (by decide))]
  simp only [bd_goboref3_May, go_sem, zA, zB, zC, reduceIte, zD, zE, zF, zG, zH, zI, reduceCtorEq, zJ, zK, zL, zM, zN, zO, zP]
  refine g_Norm ho hl hr hR fun H1 v1 k1 k2 => ?_
  obtain ⟨b, hR1, _⟩ := k2.rd
  have hnl : (normF l).length ≤ l.length := by rw [normF, rngF_len]; exact (spansF_bd l).1
  simp only [go_sem, zA, zB, zC, reduceIte, zD, zE, zF, zG, zH, zI, reduceCtorEq, zJ, zK, zL, zM, zN, zO, zP]
  refine g3_Same ho (by omega) (by omega) (hR.ext k1) hR1 ?_
  simp only [go_sem, zA, zB, zC, reduceIte, zD, zE, zF, zG, zH, zI, reduceCtorEq, zJ, zK, zL, zM, zN, zO, zP]
  exact hQ _ k1
omit ho in
theorem count_loop {P : Nat → Prop} {ks : List Rx} {vl w : AV} {bl b2 : Nat} {xk : Int} {ck : List AV} (hl3 : ks.length ≤ 1000)
    (IH : ∀ k ∈ ks, ∀ (P : Nat → Prop) (cx : List AV) (H : Heap) (Q : End → Heap → Prop), szX k ≤ 1000 → ReV P H k cx → (∀ H', Ext H.size H H' → Q (.ret (.tup [.int .i64 (szX k : Int), .int .i64 (dpX k : Int)])) H') → wpf ⟨bt.get, o⟩ F_goboref6_count [.agg cx, .int .i64 0] H Q)
    {Q : Ctl → St → Prop} : ∀ (m i n d : Nat) (H : Heap), i + m = ks.length → n + nK (ks.drop i) ≤ 1000 → d ≤ 1000 → Rd H 3 ck ks.length vl bl → (∀ (i : Nat) k, ks[i]? = some k → ReV P H k (List.take 3 (List.drop (i * 3) ck)) ∧ i * 3 + 3 ≤ ck.length) →
    H.get b2 = .cells [.int .i64 xk, w, vl] .own →
    (∀ H' y1 y2 y3 t, Ext H.size H H' → Q (.exit 0) { p := [(1, .int .i64 ((n + nK (ks.drop i) : Nat) : Int)), (2, y1), (6, .int .i64 (dK d (ks.drop i) : Int)), (7, y2), (20, y3)], t := t, H := H', d := [], u := .norm }) →
    wpl ⟨bt.get, o⟩ [1, 2, 6, 7] lb_goboref6_count_0 { p := [(1, .int .i64 (n : Int)), (2, .ptr b2 0), (6, .int .i64 (d : Int)), (7, .int .i64 (i : Int))], t := [], H := H, d := [], u := .norm } Q := by
  intro m
  induction m with
  | zero =>
    intro i n d H hi hn hd hA hp g2 hQ
    rw [wpl_step]
    have c1 : ¬((i : Int) < (ks.length : Int)) := by omega
    simp only [lb_goboref6_count_0, go_sem, zA, zB, zC, reduceIte, zD, zE, zF, zG, zH, zI, reduceCtorEq, zJ, zK, zL, zM, zN, zO, zP, g2, hA.len, c1]
    have e : ks.drop i = [] := List.drop_eq_nil_of_le (by omega)
    rw [e] at hQ
    exact hQ _ _ _ _ _ Ext.refl
  | succ m ih =>
    intro i n d H hi hn hd hA hp g2 hQ
    rw [wpl_step]
    have c1 : ((i : Int) < (ks.length : Int)) := by omega
    have iw := wsucc (show i ≤ 1000000000 by omega)
    obtain ⟨⟨u, ga⟩, ela, _⟩ := hA.pos (by omega)
    have ea := ela i (by omega)
    obtain ⟨k, hk⟩ : ∃ k, ks[i]? = some k := ⟨_, List.getElem?_eq_getElem (by omega)⟩
    obtain ⟨r1, r2⟩ := hp i k hk
    have d1 : ks.drop i = k :: ks.drop (i + 1) := by rw [List.drop_eq_getElem_cons (by omega)]; congr 1; exact (List.getElem?_eq_some_iff.1 hk).2
    rw [d1] at hn hQ
    have hnk : nK (k :: ks.drop (i + 1)) = szX k + nK (ks.drop (i + 1)) := by simp [nK]
    rw [hnk] at hn hQ
    have c2 : (n : Int) < 2000 := by omega
    simp only [lb_goboref6_count_0, go_sem, zA, zB, zC, reduceIte, zD, zE, zF, zG, zH, zI, reduceCtorEq, zJ, zK, zL, zM, zN, zO, zP, g2, hA.len, c1, c2, ea, ga, r2]
    refine IH k (List.mem_of_getElem? hk) P _ H _ (by omega) r1 fun H1 x1 => ?_
    have wn : IntKind.i64.wrap ((n : Int) + (szX k : Int)) = ((n + szX k : Nat) : Int) := by rw [IntKind.wrap_i64]; omega
    have mx : (if (d : Int) < (dpX k : Int) then (dpX k : Int) else (d : Int)) = ((max d (dpX k) : Nat) : Int) := by
      split <;> omega
    have := dp_sz k
    simp only [go_sem, zA, zB, zC, reduceIte, zD, zE, zF, zG, zH, zI, reduceCtorEq, zJ, zK, zL, zM, zN, zO, zP, wn, minmaxA, GT.gt, mx, iw]
    refine ih (i + 1) (n + szX k) (max d (dpX k)) H1 (by omega) (by omega) (by omega) (hA.ext x1) (fun i k hk => ⟨(hp i k hk).1.keep fun b p1 p2 => ⟨x1.2 b p2, p1⟩, (hp i k hk).2⟩) (by rw [x1.2 b2 (Heap.lt_of_get (by rw [g2]; simp)), g2]) fun H' y1 y2 y3 t xx => ?_
    have := hQ H' y1 y2 y3 t (x1.trans (xx.le x1.1))
    rw [dK, ← Nat.add_assoc] at this
    exact this
theorem g_count : ∀ (x : Rx) (P : Nat → Prop) (cx : List AV) (H : Heap) (Q : End → Heap → Prop), szX x ≤ 1000 → ReV P H x cx → (∀ H', Ext H.size H H' → Q (.ret (.tup [.int .i64 (szX x : Int), .int .i64 (dpX x : Int)])) H') → wpf ⟨bt.get, o⟩ F_goboref6_count [.agg cx, .int .i64 0] H Q := by
  have main : ∀ (x : Rx), (∀ k ∈ kidsX x, ∀ (P : Nat → Prop) (cx : List AV) (H : Heap) (Q : End → Heap → Prop), szX k ≤ 1000 → ReV P H k cx → (∀ H', Ext H.size H H' → Q (.ret (.tup [.int .i64 (szX k : Int), .int .i64 (dpX k : Int)])) H') → wpf ⟨bt.get, o⟩ F_goboref6_count [.agg cx, .int .i64 0] H Q) →
      ∀ (P : Nat → Prop) (cx : List AV) (H : Heap) (Q : End → Heap → Prop), szX x ≤ 1000 → ReV P H x cx → (∀ H', Ext H.size H H' → Q (.ret (.tup [.int .i64 (szX x : Int), .int .i64 (dpX x : Int)])) H') → wpf ⟨bt.get, o⟩ F_goboref6_count [.agg cx, .int .i64 0] H Q := by
    intro x IH P cx H Q hz hx h
    rw [fn_goboref6_count (ho _ _ _ (by decide))]
    obtain ⟨vs, bs, vl, bl, ck, e1, s1, s2, l1, l2⟩ := hx.split
    subst e1
    have hks : (kidsX x).length ≤ 1000 := by cases x <;> simp [kidsX]
    have hsz := sz_kids x
    have hdp := dp_kids x
    have x2 : Ext H.size H (H.push (.cells [.int .i64 (kindX x), vs, vl] .own)) := Ext.push (Nat.le_refl _)
    have g2 : (H.push (.cells [.int .i64 (kindX x), vs, vl] .own)).get H.size = .cells [.int .i64 (kindX x), vs, vl] .own := Heap.get_push_self
    have w01 : IntKind.i64.wrap (0 + 1) = ((1 : Nat) : Int) := rfl
    have w02 : IntKind.i64.wrap 1 = ((1 : Nat) : Int) := rfl
    simp only [bd_goboref6_count, go_sem, zA, zB, zC, reduceIte, zD, zE, zF, zG, zH, zI, reduceCtorEq, zJ, zK, zL, zM, zN, zO, zP, s1.one.1, s1.one.2, l1.one.1, l1.one.2, w01, w02]
    generalize H.push (.cells [.int .i64 (kindX x), vs, vl] .own) = H2 at x2 g2 ⊢
    refine count_loop (ks := kidsX x) hks IH (kidsX x).length 0 1 0 H2 (by omega) (by rw [List.drop_zero]; omega) (by omega) (l1.ext x2) (fun i k hk => ⟨(l2 i k hk).1.keep fun b p1 p2 => ⟨x2.2 b p2, p1⟩, (l2 i k hk).2⟩) g2 fun H' y1 y2 y3 t xx => ?_
    rw [List.drop_zero, ← hsz]
    have hd1 : dK 0 (kidsX x) ≤ 1000 := by have := dp_sz x; omega
    have w3 := wsucc (show dK 0 (kidsX x) ≤ 1000000000 by omega)
    rw [← hdp] at w3
    simp only [go_sem, zA, zB, zC, reduceIte, zD, zE, zF, zG, zH, zI, reduceCtorEq, zJ, zK, zL, zM, zN, zO, zP, w3]
    exact h H' (x2.trans (xx.le x2.1))
  intro x
  induction x with
  | emp => exact main .emp (fun k hk => by simp [kidsX] at hk)
  | set l => exact main (.set l) (fun k hk => by simp [kidsX] at hk)
  | seq a b iha ihb => exact main (.seq a b) (fun k hk => by simp [kidsX] at hk; rcases hk with rfl | rfl; exact iha; exact ihb)
  | alt a b iha ihb => exact main (.alt a b) (fun k hk => by simp [kidsX] at hk; rcases hk with rfl | rfl; exact iha; exact ihb)
  | star a iha => exact main (.star a) (fun k hk => by simp [kidsX] at hk; subst hk; exact iha)
theorem g_Count {x : Rx} {P : Nat → Prop} {cx : List AV} {H : Heap} {Q : End → Heap → Prop} (hz : szX x ≤ 1000) (hx : ReV P H x cx) (h : ∀ H', Ext H.size H H' → Q (.ret (.tup [.int .i64 (szX x : Int), .int .i64 (dpX x : Int)])) H') : wpf ⟨bt.get, o⟩ F_goboref6_Count [.agg cx] H Q := by
  rw [fn_goboref6_Count (ho _ _ _ (by decide))]
  obtain ⟨k, v, w, rfl, ⟨v1, v2⟩, w1, w2⟩ := hx.form
  have x1 : Ext H.size H (H.push (.cells [.int .i64 k, v, w] .own)) := Ext.push (Nat.le_refl _)
  have g1 : (H.push (.cells [.int .i64 k, v, w] .own)).get H.size = .cells [.int .i64 k, v, w] .own := Heap.get_push_self
  simp only [bd_goboref6_Count, go_sem, zA, zB, zC, reduceIte, zD, zE, zF, zG, zH, zI, reduceCtorEq, zJ, zK, zL, zM, zN, zO, zP, v1, v2, w1, w2]
  refine g_count ho x P _ _ _ hz (hx.keep fun b p1 p2 => ⟨x1.2 b p2, p1⟩) fun H1 x2 => ?_
  simp only [go_sem, zA, zB, zC, reduceIte, zD, zE, zF, zG, zH, zI, reduceCtorEq, zJ, zK, zL, zM, zN, zO, zP]
  exact h H1 (x1.trans (x2.le x1.1))
omit ho in
theorem parts_loop {P : Nat → Prop} {ks : List Rx} {vl w : AV} {bl b1 : Nat} {xk : Int} {ck : List AV} (hl3 : ks.length ≤ 1000)
    (IH : ∀ k ∈ ks, ∀ (P : Nat → Prop) (cx : List AV) (H : Heap) (Q : End → Heap → Prop), ReV P H k cx → (∀ H', Ext H.size H H' → Q (.ret (.bool true)) H') → wpf ⟨bt.get, o⟩ F_goboref6_parts [.agg cx] H Q)
    {Q : Ctl → St → Prop} : ∀ (m i : Nat) (H : Heap), i + m = ks.length → Rd H 3 ck ks.length vl bl → (∀ (i : Nat) k, ks[i]? = some k → ReV P H k (List.take 3 (List.drop (i * 3) ck)) ∧ i * 3 + 3 ≤ ck.length) →
    H.get b1 = .cells [.int .i64 xk, w, vl] .own →
    (∀ H' y1 y2 y3 y4 t, Ext H.size H H' → Q (.exit 1) { p := [(1, y1), (3, y2), (4, y3), (51, y4)], t := t, H := H', d := [], u := .norm }) →
    wpl ⟨bt.get, o⟩ [1, 3, 4] lb_goboref6_parts_0 { p := [(1, .ptr b1 0), (3, .int .i64 (ks.length : Int)), (4, .int .i64 (i : Int))], t := [], H := H, d := [], u := .norm } Q := by
  intro m
  induction m with
  | zero =>
    intro i H hi hA hp g2 hQ
    rw [wpl_step]
    have c1 : ¬((i : Int) < (ks.length : Int)) := by omega
    simp only [lb_goboref6_parts_0, go_sem, zA, zB, zC, reduceIte, zD, zE, zF, zG, zH, zI, reduceCtorEq, zJ, zK, zL, zM, zN, zO, zP, c1]
    exact hQ _ _ _ _ _ _ Ext.refl
  | succ m ih =>
    intro i H hi hA hp g2 hQ
    rw [wpl_step]
    have c1 : ((i : Int) < (ks.length : Int)) := by omega
    have iw := wsucc (show i ≤ 1000000000 by omega)
    obtain ⟨⟨u, ga⟩, ela, _⟩ := hA.pos (by omega)
    have ea := ela i (by omega)
    obtain ⟨k, hk⟩ : ∃ k, ks[i]? = some k := ⟨_, List.getElem?_eq_getElem (by omega)⟩
    obtain ⟨r1, r2⟩ := hp i k hk
    simp only [lb_goboref6_parts_0, go_sem, zA, zB, zC, reduceIte, zD, zE, zF, zG, zH, zI, reduceCtorEq, zJ, zK, zL, zM, zN, zO, zP, g2, c1, ea, ga, r2]
    refine IH k (List.mem_of_getElem? hk) P _ H _ r1 fun H1 x1 => ?_
    simp only [go_sem, zA, zB, zC, reduceIte, zD, zE, zF, zG, zH, zI, reduceCtorEq, zJ, zK, zL, zM, zN, zO, zP, iw]
    exact ih (i + 1) H1 (by omega) (hA.ext x1) (fun i k hk => ⟨(hp i k hk).1.keep fun b p1 p2 => ⟨x1.2 b p2, p1⟩, (hp i k hk).2⟩) (by rw [x1.2 b1 (Heap.lt_of_get (by rw [g2]; simp)), g2]) fun H' y1 y2 y3 y4 t xx => hQ H' y1 y2 y3 y4 t (x1.trans (xx.le x1.1))
theorem g_parts : ∀ (x : Rx), okX x → ∀ (P : Nat → Prop) (cx : List AV) (H : Heap) (Q : End → Heap → Prop), ReV P H x cx → (∀ H', Ext H.size H H' → Q (.ret (.bool true)) H') → wpf ⟨bt.get, o⟩ F_goboref6_parts [.agg cx] H Q := by
  have main : ∀ (x : Rx), okX x → (∀ k ∈ kidsX x, ∀ (P : Nat → Prop) (cx : List AV) (H : Heap) (Q : End → Heap → Prop), ReV P H k cx → (∀ H', Ext H.size H H' → Q (.ret (.bool true)) H') → wpf ⟨bt.get, o⟩ F_goboref6_parts [.agg cx] H Q) →
      ∀ (P : Nat → Prop) (cx : List AV) (H : Heap) (Q : End → Heap → Prop), ReV P H x cx → (∀ H', Ext H.size H H' → Q (.ret (.bool true)) H') → wpf ⟨bt.get, o⟩ F_goboref6_parts [.agg cx] H Q := by
    intro x ok IH P cx H Q hx h
    rw [fn_goboref6_parts (ho _ _ _ (by decide))]
    obtain ⟨vs, bs, vl, bl, ck, e1, s1, s2, l1, l2⟩ := hx.split
    subst e1
    have x2 : Ext H.size H (H.push (.cells [.int .i64 (kindX x), vs, vl] .own)) := Ext.push (Nat.le_refl _)
    have g2 : (H.push (.cells [.int .i64 (kindX x), vs, vl] .own)).get H.size = .cells [.int .i64 (kindX x), vs, vl] .own := Heap.get_push_self
    simp only [bd_goboref6_parts, go_sem, zA, zB, zC, reduceIte, zD, zE, zF, zG, zH, zI, reduceCtorEq, zJ, zK, zL, zM, zN, zO, zP, s1.one.1, s1.one.2, l1.one.1, l1.one.2]
    generalize H.push (.cells [.int .i64 (kindX x), vs, vl] .own) = H2 at x2 g2 ⊢
    have hks : (kidsX x).length ≤ 1000 := by cases x <;> simp [kidsX]
    have fin : ∀ H3, Ext H2.size H2 H3 → ∀ n : Int, n = ((kidsX x).length : Int) → wpl ⟨bt.get, o⟩ [1, 3, 4] lb_goboref6_parts_0 { p := [(1, .ptr H.size 0), (3, .int .i64 n), (4, .int .i64 0)], t := [], H := H3, d := [], u := .norm } (blockK 1 [] (seqK ⟨bt.get, o⟩ (.seq (.reg [⟨.p 2, .mov (.c (.bool true)), none⟩]) .ret) (finK ⟨bt.get, o⟩ [.slot 2] Q))) := fun H3 x3 n hn => by
      subst hn
      have x23 := x2.trans (x3.le x2.1)
      refine parts_loop (P := P) (ks := kidsX x) hks IH (kidsX x).length 0 H3 (by omega) (l1.ext x23) (fun i k hk => ⟨(l2 i k hk).1.keep fun b p1 p2 => ⟨x23.2 b p2, p1⟩, (l2 i k hk).2⟩) (by rw [x3.2 _ (Heap.lt_of_get (by rw [g2]; simp)), g2]) fun H' y1 y2 y3 y4 t xx => ?_
      simp only [go_sem, zA, zB, zC, reduceIte, zD, zE, zF, zG, zH, zI, reduceCtorEq, zJ, zK, zL, zM, zN, zO, zP]
      exact h H' (x23.trans (xx.le x23.1))
    cases x with
    | emp =>
      simp only [go_sem, zA, zB, zC, reduceIte, zD, zE, zF, zG, zH, zI, reduceCtorEq, zJ, zK, zL, zM, zN, zO, zP, kindX, g2, l1.len, s1.len, setsX, kidsX, List.length_nil, Int.natCast_zero]
      exact fin H2 Ext.refl 0 rfl
    | set l =>
      have hl : l.length = 1 := by obtain ⟨c, hc, rfl | rfl⟩ := ok <;> rfl
      have hr : ∀ r ∈ l, I32 r.lo ∧ I32 r.hi := by
        obtain ⟨c, hc, rfl | rfl⟩ := ok <;> intro r hr <;> simp only [List.mem_singleton] at hr <;> subst hr <;> unfold I32 <;> simp only <;> omega
      have c1 : ¬ (l.length : Int) < 1 := by omega
      have c2 : ¬ (20 : Int) < (l.length : Int) := by omega
      have hd : decide (l = normF l) = true := by rw [decide_eq_true_eq]; exact okS_norm ok
      simp only [setsX] at s1 s2
      simp only [go_sem, zA, zB, zC, reduceIte, zD, zE, zF, zG, zH, zI, reduceCtorEq, zJ, zK, zL, zM, zN, zO, zP, kindX, g2, l1.len, s1.len, setsX, kidsX, List.length_nil, Int.natCast_zero, c1, c2, GT.gt]
      refine g_May ho (by omega) hr (s1.ext x2) fun H3 x3 => ?_
      have g3 : H3.get H.size = .cells [.int .i64 2, vs, vl] .own := by rw [x3.2 _ (Heap.lt_of_get (by rw [g2]; simp)), g2]; rfl
      simp only [go_sem, zA, zB, zC, reduceIte, zD, zE, zF, zG, zH, zI, reduceCtorEq, zJ, zK, zL, zM, zN, zO, zP, hd, g3, l1.len, kidsX, List.length_nil, Int.natCast_zero]
      exact fin H3 x3 0 rfl
    | seq a b =>
      simp only [go_sem, zA, zB, zC, reduceIte, zD, zE, zF, zG, zH, zI, reduceCtorEq, zJ, zK, zL, zM, zN, zO, zP, kindX, g2, l1.len, s1.len, setsX, kidsX, List.length_nil, List.length_cons, Int.natCast_zero, GT.gt]
      exact fin H2 Ext.refl 2 rfl
    | alt a b =>
      simp only [go_sem, zA, zB, zC, reduceIte, zD, zE, zF, zG, zH, zI, reduceCtorEq, zJ, zK, zL, zM, zN, zO, zP, kindX, g2, l1.len, s1.len, setsX, kidsX, List.length_nil, List.length_cons, Int.natCast_zero, GT.gt]
      exact fin H2 Ext.refl 2 rfl
    | star a =>
      simp only [go_sem, zA, zB, zC, reduceIte, zD, zE, zF, zG, zH, zI, reduceCtorEq, zJ, zK, zL, zM, zN, zO, zP, kindX, g2, l1.len, s1.len, setsX, kidsX, List.length_nil, List.length_cons, Int.natCast_zero, GT.gt]
      exact fin H2 Ext.refl 1 rfl
  intro x
  induction x with
  | emp => exact fun h => main .emp h (fun k hk => by simp [kidsX] at hk)
  | set l => exact fun h => main (.set l) h (fun k hk => by simp [kidsX] at hk)
  | seq a b iha ihb => exact fun h => main (.seq a b) h (fun k hk => by simp [kidsX] at hk; rcases hk with rfl | rfl; exact iha h.1; exact ihb h.2)
  | alt a b iha ihb => exact fun h => main (.alt a b) h (fun k hk => by simp [kidsX] at hk; rcases hk with rfl | rfl; exact iha h.1; exact ihb h.2)
  | star a iha => exact fun h => main (.star a) h (fun k hk => by simp [kidsX] at hk; subst hk; exact iha h)
/-- Whether it may be, of one of such sets. -/
theorem g6_May {x : Rx} (ok : okX x) (hz : szX x ≤ 1000) {P : Nat → Prop} {cx : List AV} {H : Heap} {Q : End → Heap → Prop} (hx : ReV P H x cx) (h : ∀ H', Ext H.size H H' → Q (.ret (.bool (mayX x))) H') : wpf ⟨bt.get, o⟩ F_goboref6_May [.agg cx] H Q := by
  rw [fn_goboref6_May (ho _ _ _ (by decide))]
  have hf := hx.form
  obtain ⟨k, v, w, rfl, ⟨v1, v2⟩, w1, w2⟩ := hf
  have x1 : Ext H.size H (H.push (.cells [.int .i64 k, v, w] .own)) := Ext.push (Nat.le_refl _)
  have g1 : (H.push (.cells [.int .i64 k, v, w] .own)).get H.size = .cells [.int .i64 k, v, w] .own := Heap.get_push_self
  simp only [bd_goboref6_May, go_sem, zA, zB, zC, reduceIte, zD, zE, zF, zG, zH, zI, reduceCtorEq, zJ, zK, zL, zM, zN, zO, zP, v1, v2, w1, w2]
  refine g_Count ho (P := P) hz (hx.keep fun b p1 p2 => ⟨x1.2 b p2, p1⟩) fun H1 x2 => ?_
  have x12 := x1.trans (x2.le x1.1)
  have g2 : H1.get H.size = .cells [.int .i64 k, v, w] .own := by rw [x2.2 _ (by rw [Heap.size_push]; omega), g1]
  by_cases q1 : szX x ≤ 60
  · have q1' : (szX x : Int) ≤ 60 := by omega
    by_cases q2 : dpX x ≤ 12
    · have q2' : (dpX x : Int) ≤ 12 := by omega
      have e : mayX x = true := by simp [mayX, q1, q2]
      rw [e] at h
      simp only [go_sem, zA, zB, zC, reduceIte, zD, zE, zF, zG, zH, zI, reduceCtorEq, zJ, zK, zL, zM, zN, zO, zP, q1', q2', g2, v1, v2, w1, w2]
      refine g_parts ho x ok P _ _ _ (hx.keep fun b p1 p2 => ⟨x12.2 b p2, p1⟩) fun H2 x3 => ?_
      simp only [go_sem, zA, zB, zC, reduceIte, zD, zE, zF, zG, zH, zI, reduceCtorEq, zJ, zK, zL, zM, zN, zO, zP]
      exact h H2 (x12.trans (x3.le x12.1))
    · have q2' : ¬ (dpX x : Int) ≤ 12 := by omega
      have e : mayX x = false := by simp [mayX, q2]
      rw [e] at h
      simp only [go_sem, zA, zB, zC, reduceIte, zD, zE, zF, zG, zH, zI, reduceCtorEq, zJ, zK, zL, zM, zN, zO, zP, q1', q2']
      exact h H1 x12
  · have q1' : ¬ (szX x : Int) ≤ 60 := by omega
    have e : mayX x = false := by simp [mayX, q1]
    rw [e] at h
    simp only [go_sem, zA, zB, zC, reduceIte, zD, zE, zF, zG, zH, zI, reduceCtorEq, zJ, zK, zL, zM, zN, zO, zP, q1']
    exact h H1 x12
end
end Go.Ev
