/- WordClasses: what the law's function comes to. -/
import Derived.Test.YtimbiogcllmalaaDoorXJ
import Derived.Test.YtimbiogcllmalaaDoorXBP
namespace Go.Ev
open Go Go.Proofs
set_option linter.unusedSimpArgs false
set_option linter.unusedVariables false
set_option maxRecDepth 8000

def asc : Nat → List UInt8 → List It
  | _, [] => []
  | i, c :: r => ⟨c.toNat, i, i + 1, false, false⟩ :: asc (i + 1) r
theorem feed_asc : ∀ (r : List UInt8) (i : Nat), (∀ c ∈ r, c.toNat < 128) → feedD r [] i = ([], i + r.length, asc i r)
  | [], i, _ => rfl
  | c :: r, i, h => by
    have hc := h c (by simp)
    have h1 : longB c = 1 := by simp only [longB, longN, if_pos hc]
    have hk : okB [] c = true := by simp [okB, h1]
    have ht : takeB [] c i = ([], i + 1, [⟨c.toNat, i, i + 1, false, false⟩]) := by
      simp only [takeB, hk, if_true, afterM, List.nil_append, headB, List.headD_cons, h1, List.length_cons, List.length_nil, decR]
    simp only [feedD, ht, feed_asc r (i + 1) (fun x hx => h x (by simp [hx])), asc, List.length_cons, List.cons_append, List.nil_append]
    congr 2; omega
theorem dec_asc {s : List UInt8} (h : ∀ c ∈ s, c.toNat < 128) : decAll s = asc 0 s := by
  unfold decAll
  rw [feed_asc s 0 h]
  simp [closeD]

theorem rune_letter {its : List It} {e k : Nat} {c : Nat} (hp : peekR its k = (c : Int)) (h1 : 97 ≤ c) (h2 : c ≤ 122) : runeR its e true k = .ok ((c : Int), k + 1) := by
  have hb : hasR (badS true) (c : Int) = false := by
    have h0 : ∀ x ∈ badS true, x.toNat < 97 ∨ 122 < x.toNat := by decide
    rw [hasR, List.any_eq_false]
    intro x hx
    have := h0 x hx
    simp only [decide_eq_true_eq]
    omega
  have c1 : ¬ (c : Int) < 32 := by omega
  have c2 : (c : Int) ≠ 92 := by omega
  simp only [runeR, hp, c1, hb, Bool.false_eq_true, or_self, if_false, if_pos c2]

/-- The class of two letters with a line between, and one more. -/
theorem class_of {its : List It} {e k n : Nat} {a b c : Nat} (hn : its.length = n) (p0 : peekR its k = (a : Int)) (p1 : peekR its (k + 1) = 45) (p2 : peekR its (k + 2) = (b : Int)) (p3 : peekR its (k + 3) = (c : Int)) (p4 : peekR its (k + 4) = -1) (ha : 97 ≤ a ∧ a ≤ 122) (hb : 97 ≤ b ∧ b ≤ 122) (hc : 97 ≤ c ∧ c ≤ 122) (m : Nat) :
    clGo its e (-1) (m + 3) [] k = if b < a then .error (atR its e (k + 2)) else .ok ([⟨a, b⟩, ⟨c, c⟩], k + 4) := by
  have r0 := rune_letter (e := e) p0 ha.1 ha.2
  have r2 := rune_letter (e := e) p2 hb.1 hb.2
  have r3 := rune_letter (e := e) p3 hc.1 hc.2
  have z3 : ¬ (c : Int) = -1 := by omega
  have z4 : ¬ ((-1 : Int) = 45) := by omega
  have e1 : ((b : Int) < (a : Int)) = (b < a) := by simp
  simp only [clGo, ne_eq, not_true_eq_false, false_and, if_false, r0, p1, if_true, Nat.add_assoc, Nat.reduceAdd, r2, e1]
  split
  · rfl
  · simp only [List.nil_append, p3, z3, and_false, if_false, r3, Nat.add_assoc, Nat.reduceAdd, p4, z4, List.cons_append, List.cons_ne_nil, not_false_eq_true, and_self, if_true, reduceCtorEq]

theorem spans_ne {l : List R} {x : R} {s : S} (hx : x ∈ l) (h : preS x = some s) : ∃ y m, spansF l = y :: m := by
  have hs : s ∈ preL l := List.mem_filterMap.2 ⟨x, hx, h⟩
  have hlt := preL_ok s hs
  have := (mF_spec (l := srtS (preL l)) (fun x hx => preL_ok x (srtS_mem.1 hx)) (srtS_sorted _)).2 s.1
  obtain ⟨y, hy, _⟩ := this.2 ⟨s, srtS_mem.2 hs, Nat.le_refl _, hlt⟩
  cases hsp : spansF l with
  | nil => rw [show mF (srtS (preL l)) = spansF l from rfl, hsp] at hy; cases hy
  | cons y m => exact ⟨y, m, rfl⟩
theorem pre_letter {a b : Nat} (h1 : 97 ≤ a) (h2 : a ≤ b) (h3 : b ≤ 122) : preS ⟨(a : Int), (b : Int)⟩ = some (a, b + 1) := by
  have n1 : numN (a : Int) = a := by
    unfold numN
    rw [if_neg (by omega), if_pos (by omega)]; omega
  have n2 : behN (b : Int) = b + 1 := by
    have hi : isR (b : Int) = true := by
      have h1 : (0 : Int) ≤ (b : Int) := by omega
      have h2 : (b : Int) < 55296 := by omega
      simp [isR, h1, h2]
    have nb : numN (b : Int) = b := by
      unfold numN
      rw [if_neg (by omega), if_pos (by omega)]; omega
    simp only [behN, hi, if_true, nb]
  have h4 : (a : Int) ≤ (b : Int) := by omega
  simp only [preS, n1, n2]
  rw [if_pos ⟨h4, by omega⟩]

theorem sets_ne {a b c : Nat} (ha : 97 ≤ a) (hab : a ≤ b) (hb : b ≤ 122) (hc : 97 ≤ c ∧ c ≤ 122) : normF [⟨(a : Int), (b : Int)⟩, ⟨(c : Int), (c : Int)⟩] ≠ [] ∧ notF (normF [⟨(a : Int), (b : Int)⟩, ⟨(c : Int), (c : Int)⟩]) ≠ [] := by
  have hp1 := pre_letter ha hab hb
  have hp2 := pre_letter hc.1 (Nat.le_refl _) hc.2
  obtain ⟨y, m, hsp⟩ := spans_ne (l := [⟨(a : Int), (b : Int)⟩, ⟨(c : Int), (c : Int)⟩]) (by simp) hp1
  refine ⟨by simp [normF, rngF, hsp], ?_⟩
  have hmf := (mF_spec (l := srtS (preL [⟨(a : Int), (b : Int)⟩, ⟨(c : Int), (c : Int)⟩])) (fun x hx => preL_ok x (srtS_mem.1 hx)) (srtS_sorted _)).2
  -- each span begins at 97 or behind it
  have h97 : ∀ x ∈ spansF [⟨(a : Int), (b : Int)⟩, ⟨(c : Int), (c : Int)⟩], 97 ≤ x.1 := by
    intro x hx
    have hlt := spansF_lt _ x hx
    obtain ⟨s, hs, h1, h2⟩ := (hmf x.1).1 ⟨x, hx, Nat.le_refl _, hlt⟩
    obtain ⟨r, hr, hrs⟩ := List.mem_filterMap.1 (srtS_mem.1 hs)
    simp only [List.mem_cons, List.not_mem_nil, or_false] at hr
    rcases hr with rfl | rfl
    · rw [hp1] at hrs; injection hrs with hrs; rw [← hrs] at h1; simp only at h1; omega
    · rw [hp2] at hrs; injection hrs with hrs; rw [← hrs] at h1; simp only at h1; omega
  have hn0 : ¬ inS (spansF (normF [⟨(a : Int), (b : Int)⟩, ⟨(c : Int), (c : Int)⟩])) 0 := by
    intro h
    have hmf2 := (mF_spec (l := srtS (preL (normF [⟨(a : Int), (b : Int)⟩, ⟨(c : Int), (c : Int)⟩]))) (fun x hx => preL_ok x (srtS_mem.1 hx)) (srtS_sorted _)).2
    obtain ⟨s, hs, h1, h2⟩ := (hmf2 0).1 h
    obtain ⟨r, hr, hrs⟩ := List.mem_filterMap.1 (srtS_mem.1 hs)
    obtain ⟨x, hx, rfl⟩ := List.mem_map.1 hr
    have := h97 x hx
    unfold preS at hrs
    split at hrs
    · injection hrs with hrs
      rw [← hrs] at h1
      simp only at h1
      have hv : 97 ≤ (valN x.1 : Int) := by unfold valN; split <;> omega
      have : 97 ≤ numN (valN x.1 : Int) := by
        unfold numN
        repeat' split
        all_goals omega
      omega
    · cases hrs
  have hg : gapsF 0 (spansF (normF [⟨(a : Int), (b : Int)⟩, ⟨(c : Int), (c : Int)⟩])) ≠ [] := by
    cases hsp2 : spansF (normF [⟨(a : Int), (b : Int)⟩, ⟨(c : Int), (c : Int)⟩]) with
    | nil => simp [gapsF]
    | cons z q =>
      have hz : 0 < z.1 := by
        rcases Nat.eq_zero_or_pos z.1 with h | h
        · exfalso
          have hlt := spansF_lt _ z (by rw [hsp2]; simp)
          exact hn0 ⟨z, by rw [hsp2]; simp, by omega, by omega⟩
        · exact h
      simp [gapsF, hz]
  intro h
  apply hg
  simpa [notF, rngF] using h

theorem peek_asc {a b c d : UInt8} : ∀ (k : Nat), peekR (asc 0 [a, b, c, d]) k = (if k = 0 then (a.toNat : Int) else if k = 1 then (b.toNat : Int) else if k = 2 then (c.toNat : Int) else if k = 3 then (d.toNat : Int) else -1)
  | 0 => rfl
  | 1 => rfl
  | 2 => rfl
  | 3 => rfl
  | k + 4 => by simp [asc, peekR]
theorem class4 {a b c : UInt8} (ha : 97 ≤ a.toNat ∧ a.toNat ≤ 122) (hb : 97 ≤ b.toNat ∧ b.toNat ≤ 122) (hc : 97 ≤ c.toNat ∧ c.toNat ≤ 122) :
    classF [a, 45, b, c] = if b.toNat < a.toNat then .error 2 else .ok (normF [⟨(a.toNat : Int), (b.toNat : Int)⟩, ⟨(c.toNat : Int), (c.toNat : Int)⟩]) := by
  have hd : decAll [a, 45, b, c] = asc 0 [a, 45, b, c] := dec_asc (by
    intro x hx
    simp only [List.mem_cons, List.not_mem_nil, or_false] at hx
    rcases hx with rfl | rfl | rfl | rfl
    · omega
    · decide
    · omega
    · omega)
  have p := peek_asc (a := a) (b := 45) (c := b) (d := c)
  have h0 : ¬ (a.toNat : Int) = 94 := by omega
  have hcl := class_of (its := asc 0 [a, 45, b, c]) (e := 4) (k := 0) (n := 4) rfl (p 0) (p 1) (p 2) (p 3) (p 4) ha hb hc 2
  simp only [classF, hd, classR, p 0, if_true, h0, if_false]
  show (match (match clGo (asc 0 [a, 45, b, c]) 4 (-1) (2 + 3) [] 0 with | .error a => (Except.error a : Except Nat (List R × Nat)) | .ok (l, k2) => if normF l = [] then Except.error (atR (asc 0 [a, 45, b, c]) 4 k2) else Except.ok (normF l, k2)) with | .error a => Except.error a | .ok (l, _) => Except.ok l) = _
  rw [hcl]
  by_cases hlt : b.toNat < a.toNat
  · rw [if_pos hlt, if_pos hlt]; rfl
  · rw [if_neg hlt, if_neg hlt]
    simp only [if_neg (sets_ne ha.1 (by omega) hb.2 hc).1]

theorem peek_asc5 {z a b c d : UInt8} : ∀ (k : Nat), peekR (asc 0 [z, a, b, c, d]) k = (if k = 0 then (z.toNat : Int) else if k = 1 then (a.toNat : Int) else if k = 2 then (b.toNat : Int) else if k = 3 then (c.toNat : Int) else if k = 4 then (d.toNat : Int) else -1)
  | 0 => rfl
  | 1 => rfl
  | 2 => rfl
  | 3 => rfl
  | 4 => rfl
  | k + 5 => by simp [asc, peekR]
theorem class5 {a b c : UInt8} (ha : 97 ≤ a.toNat ∧ a.toNat ≤ 122) (hb : 97 ≤ b.toNat ∧ b.toNat ≤ 122) (hc : 97 ≤ c.toNat ∧ c.toNat ≤ 122) :
    classF [94, a, 45, b, c] = if b.toNat < a.toNat then .error 3 else .ok (notF (normF [⟨(a.toNat : Int), (b.toNat : Int)⟩, ⟨(c.toNat : Int), (c.toNat : Int)⟩])) := by
  have hd : decAll [94, a, 45, b, c] = asc 0 [94, a, 45, b, c] := dec_asc (by
    intro x hx
    simp only [List.mem_cons, List.not_mem_nil, or_false] at hx
    rcases hx with rfl | rfl | rfl | rfl | rfl
    · decide
    · omega
    · decide
    · omega
    · omega)
  have p := peek_asc5 (z := 94) (a := a) (b := 45) (c := b) (d := c)
  have hcl := class_of (its := asc 0 [94, a, 45, b, c]) (e := 5) (k := 1) (n := 5) rfl (p 1) (p 2) (p 3) (p 4) (p 5) ha hb hc 3
  have p0 : peekR (asc 0 [94, a, 45, b, c]) 0 = 94 := p 0
  simp only [classF, hd, classR, p0, if_true]
  show (match (match clGo (asc 0 [94, a, 45, b, c]) 5 (-1) (3 + 3) [] 1 with | .error a => (Except.error a : Except Nat (List R × Nat)) | .ok (l, k2) => if notF (normF l) = [] then Except.error (atR (asc 0 [94, a, 45, b, c]) 5 k2) else Except.ok (notF (normF l), k2)) with | .error a => Except.error a | .ok (l, _) => Except.ok l) = _
  rw [hcl]
  by_cases hlt : b.toNat < a.toNat
  · rw [if_pos hlt, if_pos hlt]; rfl
  · rw [if_neg hlt, if_neg hlt]
    simp only [if_neg (sets_ne ha.1 (by omega) hb.2 hc).2]
end Go.Ev
