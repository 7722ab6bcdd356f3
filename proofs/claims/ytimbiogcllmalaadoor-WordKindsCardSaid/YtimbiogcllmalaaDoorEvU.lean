/- Regions that draw their order: each operation finds what it found in the text's order. -/
import Derived.Test.YtimbiogcllmalaaDoorEvT
namespace Go.Ev
open Go Go.RowKit

/-- The same blocks. -/
def EqG (h k : Heap) : Prop := (∀ b, h.get b = k.get b) ∧ h.size = k.size
theorem EqG.refl (h : Heap) : EqG h h := ⟨fun _ => rfl, rfl⟩
theorem EqG.trans {a b c : Heap} (h : EqG a b) (k : EqG b c) : EqG a c := ⟨fun x => (h.1 x).trans (k.1 x), h.2.trans k.2⟩

/-- A store of cells at a place. -/
def stE (b off : Nat) (xs : List AV) (H : Heap) : Heap :=
  match H.get b with
  | .cells c .own => H.set b (.cells (wr c off xs) .own)
  | _ => H

theorem stE_get (b off : Nat) (xs : List AV) (H : Heap) (b' : Nat) : (stE b off xs H).get b' = if b' = b then (match H.get b with | .cells c .own => .cells (wr c off xs) .own | k => k) else H.get b' := by
  unfold stE
  split
  · rename_i c hg
    rw [Heap.get_set _ _ _ _ (Heap.lt_of_get (by rw [hg]; simp))]
  · rename_i hn
    by_cases e : b' = b
    · subst e; rw [if_pos rfl]
    · rw [if_neg e]

theorem stE_size (b off : Nat) (xs : List AV) (H : Heap) : (stE b off xs H).size = H.size := by
  unfold stE; split <;> rfl

theorem stE_congr {b off : Nat} {xs : List AV} {h k : Heap} (he : EqG h k) : EqG (stE b off xs h) (stE b off xs k) :=
  ⟨fun b' => by rw [stE_get, stE_get, he.1, he.1], by rw [stE_size, stE_size, he.2]⟩

theorem wr_get : ∀ (xs c : List AV) (off k : Nat), (wr c off xs)[k]? = if off ≤ k ∧ k < off + xs.length ∧ k < c.length then xs[k - off]? else c[k]?
  | [], c, off, k => by
    simp only [wr, List.length_nil, Nat.add_zero]
    rw [if_neg (by omega)]
  | x :: xs, c, off, k => by
    simp only [wr, List.length_cons]
    rw [wr_get xs (c.set off x) (off + 1) k, List.length_set, List.getElem?_set]
    by_cases h1 : off = k
    · subst h1
      rw [if_neg (by omega)]
      simp only [if_true]
      by_cases h2 : off < c.length
      · rw [if_pos h2, if_pos (by omega)]; simp
      · rw [if_neg h2, if_neg (by omega), List.getElem?_eq_none (by omega)]
    · rw [if_neg h1]
      by_cases h2 : off + 1 ≤ k ∧ k < off + 1 + xs.length ∧ k < c.length
      · rw [if_pos h2, if_pos (by omega), show k - off = (k - (off + 1)) + 1 by omega, List.getElem?_cons_succ]
      · rw [if_neg h2, if_neg (by omega)]

theorem wr_comm (c xs ys : List AV) (off off' : Nat) (h : off + xs.length ≤ off' ∨ off' + ys.length ≤ off) : wr (wr c off xs) off' ys = wr (wr c off' ys) off xs := by
  apply List.ext_getElem?
  intro k
  simp only [wr_get, wr_length]
  by_cases h1 : off ≤ k ∧ k < off + xs.length ∧ k < c.length
  · have h2 : ¬ (off' ≤ k ∧ k < off' + ys.length ∧ k < c.length) := by omega
    simp only [if_pos h1, if_neg h2]
  · simp only [if_neg h1]

theorem stE_comm (b b' off off' : Nat) (xs ys : List AV) (H : Heap) (h : b ≠ b' ∨ off + xs.length ≤ off' ∨ off' + ys.length ≤ off) :
    EqG (stE b off xs (stE b' off' ys H)) (stE b' off' ys (stE b off xs H)) := by
  refine ⟨fun k => ?_, by simp only [stE_size]⟩
  simp only [stE_get]
  by_cases hb : b = b'
  · subst hb
    have h' : off + xs.length ≤ off' ∨ off' + ys.length ≤ off := by
      rcases h with h | h
      · exact absurd rfl h
      · exact h
    by_cases hk : k = b
    · simp only [hk, if_true]
      cases hg : H.get b with
      | cells c u =>
        cases u with
        | own => simp only; rw [wr_comm c xs ys off off' h']
        | ro => rfl
      | _ => rfl
    · simp only [if_neg hk]
  · by_cases hk : k = b
    · subst hk; simp only [if_true, if_neg hb]
    · by_cases hk' : k = b'
      · subst hk'; simp only [if_true, if_neg hk, if_neg (Ne.symm hb)]
      · simp only [if_neg hk, if_neg hk']

/-- Each block of `H` that may be written is in `h`, as long. -/
def Sh (h H : Heap) : Prop := ∀ b c, H.get b = .cells c .own → ∃ c', h.get b = .cells c' .own ∧ c'.length = c.length
theorem Sh.refl (h : Heap) : Sh h h := fun b c hc => ⟨c, hc, rfl⟩

theorem Sh.fwd {h H : Heap} (hs : Sh h H) (b off : Nat) (xs : List AV) : Sh (stE b off xs h) H := by
  intro k c hc
  obtain ⟨c', h1, h2⟩ := hs k c hc
  rw [stE_get]
  by_cases e : k = b
  · subst e; rw [if_pos rfl, h1]; exact ⟨_, rfl, by rw [wr_length]; exact h2⟩
  · rw [if_neg e]; exact ⟨c', h1, h2⟩

theorem Sh.back {h H : Heap} (hs : Sh h H) (b off : Nat) (xs : List AV) : Sh h (stE b off xs H) := by
  intro k c hc
  rw [stE_get] at hc
  by_cases e : k = b
  · subst e; rw [if_pos rfl] at hc
    split at hc
    · rename_i c0 hg
      injection hc with hc; subst hc
      obtain ⟨c', h1, h2⟩ := hs k c0 hg
      exact ⟨c', h1, by rw [wr_length]; exact h2⟩
    · rename_i hk
      exact absurd hc (hk c)
  · rw [if_neg e] at hc; exact hs k c hc

section
variable {call : FuncId → List AV → Heap → Option (End × Heap)} {ops : Array Oper} {rs : List Rec} {S : Nat → Bool} {H0 : Heap}

/-- A partial state's memory, up to a step. -/
def hP (S : Nat → Bool) (rs : List Rec) (H0 : Heap) (j : Nat) : Heap := hS S (rs.take j) 0 H0

theorem hP_succ {j : Nat} {r : Rec} (hr : rs[j]? = some r) : hP S rs H0 (j + 1) = cond (S j) (eff r (hP S rs H0 j)) (hP S rs H0 j) := by
  unfold hP
  have hj : j < rs.length := by
    rcases Nat.lt_or_ge j rs.length with h | h
    · exact h
    · rw [List.getElem?_eq_none h] at hr; cases hr
  rw [List.take_add_one, hr, hS_append]
  simp only [Option.toList_some, hS, List.length_take, Nat.zero_add, Nat.min_eq_left (Nat.le_of_lt hj)]

theorem hP_all : hP S rs H0 rs.length = hS S rs 0 H0 := by unfold hP; rw [List.take_length]

/-- What is known of a region's canonical run. -/
structure Run (call : FuncId → List AV → Heap → Option (End × Heap)) (ops : Array Oper) (ds : List DCop) (rs : List Rec) (σ0 σ' : St) : Prop where
  hds : rs.map (·.d) = ds
  stat : Stat ops ds
  chain : Chain call rs σ0 σ'
  dyn : ∀ (j : Nat) (r : Rec), rs[j]? = some r → r.w = true → ∀ i ∈ r.d.u, ∃ q, rs[i]? = some q ∧ i < j ∧ dynOK r.d r.σ r.v r.H' (some q.log) = true

variable {ds : List DCop} {σ0 σ' : St}

theorem Run.d (R : Run call ops ds rs σ0 σ') {j : Nat} {r : Rec} (hr : rs[j]? = some r) : ds[j]? = some r.d := by
  rw [← R.hds, List.getElem?_map, hr]; rfl

theorem Run.ok (R : Run call ops ds rs σ0 σ') {j : Nat} {r : Rec} (hr : rs[j]? = some r) : r.ok call := chain_ok rs σ0 σ' R.chain r (List.mem_of_getElem? hr)

theorem Run.one (R : Run call ops ds rs σ0 σ') {j : Nat} {r : Rec} (hr : rs[j]? = some r) : kindC r.d.c.op < 3 ∧ (r.d.tl = true → isStore r.d.c.op = true) := R.stat.one j r.d (R.d hr)

theorem Run.canon (R : Run call ops ds rs σ0 σ') {j : Nat} {r : Rec} (hr : rs[j]? = some r) : hP (fun _ => true) rs σ0.H j = r.σ.H ∧ hP (fun _ => true) rs σ0.H (j + 1) = r.H' := by
  have h1 : hP (fun _ => true) rs σ0.H j = r.σ.H := ((chain_H rs 0 σ0 σ' R.chain fun q hq => by
    obtain ⟨k, hk⟩ := List.getElem?_of_mem hq
    exact R.one hk).1 j r hr).symm
  refine ⟨h1, ?_⟩
  rw [hP_succ hr, h1]
  exact eff_canon (R.ok hr) (R.one hr).1 (R.one hr).2

theorem Rec.loud_kind {r : Rec} (h : r.loud = true) : kindC r.d.c.op = 2 ∧ r.w = true := by
  simp only [Rec.loud, Bool.and_eq_true, beq_iff_eq] at h; exact ⟨h.2, h.1⟩

theorem eff_quiet {r : Rec} (h : r.loud = false) (H : Heap) : eff r H = H := by simp [eff, h]
theorem eff_loud {r : Rec} (h : r.loud = true) (ht : r.d.tl = false) (H : Heap) : eff r H = r.H' := by simp [eff, h, ht]

theorem Run.quiet (R : Run call ops ds rs σ0 σ') {j : Nat} {r : Rec} (hr : rs[j]? = some r) (hl : r.loud = false) : r.H' = r.σ.H := Rec.quiet (R.ok hr) (R.one hr).1 hl

/-- No store of the end is done while something that is no such store is not. -/
theorem Run.no_tail (R : Run call ops ds rs σ0 σ') (hc : Closed ops S) {i : Nat} {q : Rec} (hq : rs[i]? = some q) (hS : S i = false) (hk : kindC q.d.c.op ≠ 0) (ht : q.d.tl = false) {j : Nat} {r : Rec} (hr : rs[j]? = some r) (hrt : r.d.tl = true) : S j = false := by
  rcases Nat.lt_trichotomy i j with h | h | h
  · cases hSj : S j with
    | false => rfl
    | true =>
      have := (R.stat.tail1 i j _ _ h (R.d hq) (R.d hr) hrt hk ht).closed hc (.inr hSj)
      rw [hS] at this; cases this
  · subst h; exact hS
  · rcases R.stat.tail2 j i _ _ h (R.d hr) (R.d hq) hrt with h' | h'
    · exact absurd h' hk
    · rw [ht] at h'; cases h'

/-- A reading finds what it found. -/
theorem Run.read (R : Run call ops ds rs σ0 σ') (hc : Closed ops S) {i : Nat} {q : Rec} (hq : rs[i]? = some q) (hSi : S i = false) (hrd : Ready ops S i) (hw : q.w = true) (hk : kindC q.d.c.op = 1) (ht : q.d.tl = false) :
    ∃ H', evOp (rho q.σ.p q.σ.t) (hS S rs 0 σ0.H) q.d.c.op = some (q.v, H') := by
  have hev : evOp (rho q.σ.p q.σ.t) q.σ.H q.d.c.op = some (q.v, q.H') := by
    rcases R.ok hq with ⟨h, _⟩ | ⟨_, _, h⟩
    · rw [hw] at h; cases h
    · exact evOp1_simple (.inr hk) (isP_kind (by omega)) h
  have key : ∀ j, j ≤ rs.length → (j ≤ i → hP S rs σ0.H j = hP (fun _ => true) rs σ0.H j ∨ ∃ H', evOp (rho q.σ.p q.σ.t) (hP S rs σ0.H j) q.d.c.op = some (q.v, H')) ∧ (i < j → ∃ H', evOp (rho q.σ.p q.σ.t) (hP S rs σ0.H j) q.d.c.op = some (q.v, H')) := by
    intro j
    induction j with
    | zero => intro _; exact ⟨fun _ => .inl rfl, fun h => by omega⟩
    | succ j ih =>
      intro hj
      obtain ⟨ih1, ih2⟩ := ih (by omega)
      have hjl : j < rs.length := by omega
      obtain ⟨r, hr⟩ : ∃ r, rs[j]? = some r := ⟨rs[j], List.getElem?_eq_getElem hjl⟩
      have hsucc := hP_succ (S := S) (H0 := σ0.H) hr
      obtain ⟨c1, c2⟩ := R.canon hr
      have sv : ∀ H, sameVal (rho q.σ.p q.σ.t) q.d.c.op q.v H = true → ∃ H', evOp (rho q.σ.p q.σ.t) H q.d.c.op = some (q.v, H') := by
        intro H h
        unfold sameVal at h
        split at h
        · rename_i v' H1 he; exact ⟨H1, by rw [he, AV.beq_eq _ _ h]⟩
        · cases h
      have nt : r.d.tl = true → S j = false := fun h => R.no_tail hc hq hSi (by omega) ht hr h
      constructor
      · intro hji
        have hlt : j < i := by omega
        rw [hsucc]
        cases hl : r.loud with
        | false =>
          have e1 := R.quiet hr hl
          rw [eff_quiet hl, c2, e1]
          have : hP S rs σ0.H j = r.σ.H ∨ ∃ H', evOp (rho q.σ.p q.σ.t) (hP S rs σ0.H j) q.d.c.op = some (q.v, H') := by rw [← c1]; exact ih1 (by omega)
          cases S j <;> exact this
        | true =>
          obtain ⟨k2, kw⟩ := Rec.loud_kind hl
          cases hSj : S j with
          | true =>
            have htj : r.d.tl = false := by cases h : r.d.tl with | false => rfl | true => rw [nt h] at hSj; cases hSj
            simp only [cond_true]
            rw [eff_loud hl htj, c2]; exact .inl rfl
          | false =>
            simp only [cond_false]
            rcases ih1 (by omega) with h | h
            · -- not done: not ordered ahead
              rcases R.stat.two j i _ _ hlt (R.d hr) (R.d hq) with h2 | ⟨_, h2⟩
              · have := h2.closed hc (.inl hrd); rw [hSj] at this; cases this
              · rcases h2 with h2 | h2 | h2 | ⟨hu, h2⟩
                · omega
                · omega
                · omega
                · obtain ⟨q2, hq2, _, hdy⟩ := R.dyn i q hq hw j hu
                  rw [hr] at hq2; injection hq2 with hq2; subst hq2
                  have htj : r.d.tl = false := by
                    rcases h2 with ⟨a1, _⟩ | ⟨_, a2, _⟩ | ⟨a1, a2⟩
                    · omega
                    · exact a2
                    · rw [ht] at a2; cases a2
                  have hlog : r.log = .ld r.σ.H := by simp [Rec.log, kw, mkLog, htj, k2]
                  rw [hlog] at hdy
                  simp only [dynOK] at hdy
                  rw [h, c1]
                  exact .inr (sv _ hdy)
            · exact .inr h
      · intro hij
        rcases Nat.lt_or_ge i j with h | h
        · have ih2' := ih2 h
          rw [hsucc]
          cases hSj : S j with
          | false => exact ih2'
          | true =>
            simp only [cond_true]
            cases hl : r.loud with
            | false => rw [eff_quiet hl]; exact ih2'
            | true =>
              obtain ⟨k2, kw⟩ := Rec.loud_kind hl
              have htj : r.d.tl = false := by cases h : r.d.tl with | false => rfl | true => rw [nt h] at hSj; cases hSj
              rw [eff_loud hl htj]
              rcases R.stat.two i j _ _ h (R.d hq) (R.d hr) with h2 | ⟨_, h2⟩
              · have := h2.closed hc (.inr hSj); rw [hSi] at this; cases this
              · rcases h2 with h2 | h2 | h2 | ⟨hu, h2⟩
                · omega
                · omega
                · omega
                · obtain ⟨q2, hq2, _, hdy⟩ := R.dyn j r hr kw i hu
                  rw [hq] at hq2; injection hq2 with hq2; subst hq2
                  have hlog : q.log = .rd (sameVal (rho q.σ.p q.σ.t) q.d.c.op q.v) := by simp [Rec.log, hw, mkLog, ht, hk]
                  rw [hlog] at hdy
                  exact sv _ hdy
        · have hje : j = i := by omega
          subst hje
          rw [hq] at hr; injection hr with hr; subst hr
          rw [hsucc, hSi]
          simp only [cond_false]
          rcases ih1 (Nat.le_refl _) with h' | h'
          · rw [h', c1]; exact ⟨_, hev⟩
          · exact h'
  have hil : i < rs.length := by
    rcases Nat.lt_or_ge i rs.length with h | h
    · exact h
    · rw [List.getElem?_eq_none h] at hq; cases hq
  rw [← hP_all]
  exact (key rs.length (Nat.le_refl _)).2 hil

/-- What turns memory, but the stores of the end, finds the memory that it found; and leaves what it left. -/
theorem Run.loud (R : Run call ops ds rs σ0 σ') (hc : Closed ops S) {i : Nat} {q : Rec} (hq : rs[i]? = some q) (hSi : S i = false) (hrd : Ready ops S i) (hl : q.loud = true) (ht : q.d.tl = false) :
    hS S rs 0 σ0.H = q.σ.H ∧ hS (fun j => S j || decide (j = i)) rs 0 σ0.H = q.H' := by
  obtain ⟨k2, kw⟩ := Rec.loud_kind hl
  have hil : i < rs.length := by
    rcases Nat.lt_or_ge i rs.length with h | h
    · exact h
    · rw [List.getElem?_eq_none h] at hq; cases hq
  have before : ∀ j r, rs[j]? = some r → r.loud = true → j < i → S j = true ∧ r.d.tl = false := by
    intro j r hr hlr hlt
    have htj : r.d.tl = false := by
      cases h : r.d.tl with
      | false => rfl
      | true =>
        rcases R.stat.tail2 j i _ _ hlt (R.d hr) (R.d hq) h with h' | h'
        · omega
        · rw [ht] at h'; cases h'
    refine ⟨?_, htj⟩
    have k2r := (Rec.loud_kind hlr).1
    rcases R.stat.two j i _ _ hlt (R.d hr) (R.d hq) with h2 | ⟨_, h2⟩
    · exact h2.closed hc (.inl hrd)
    · rcases h2 with h2 | h2 | h2 | ⟨_, ⟨a1, _⟩ | ⟨_, _, a1, _⟩ | ⟨a1, _⟩⟩
      · omega
      · omega
      · omega
      · omega
      · omega
      · rw [htj] at a1; cases a1
  have after : ∀ j r, rs[j]? = some r → r.loud = true → i < j → S j = false := by
    intro j r hr hlr hlt
    cases hSj : S j with
    | false => rfl
    | true =>
      have k2r := (Rec.loud_kind hlr).1
      have hreach : Reach ops i j := by
        cases htr : r.d.tl with
        | true => exact R.stat.tail1 i j _ _ hlt (R.d hq) (R.d hr) htr (by omega) ht
        | false =>
          rcases R.stat.two i j _ _ hlt (R.d hq) (R.d hr) with h2 | ⟨_, h2⟩
          · exact h2
          · rcases h2 with h2 | h2 | h2 | ⟨_, ⟨a1, _⟩ | ⟨_, _, a1, _⟩ | ⟨a1, _⟩⟩
            · omega
            · omega
            · omega
            · omega
            · omega
            · rw [ht] at a1; cases a1
      have := hreach.closed hc (.inr hSj)
      rw [hSi] at this; cases this
  have key : ∀ (T : Nat → Bool), (∀ j, j ≠ i → T j = S j) → ∀ j, j ≤ i → hP T rs σ0.H j = hP (fun _ => true) rs σ0.H j := by
    intro T hT j
    induction j with
    | zero => intro _; rfl
    | succ j ih =>
      intro hj
      have hjl : j < rs.length := by omega
      obtain ⟨r, hr⟩ : ∃ r, rs[j]? = some r := ⟨rs[j], List.getElem?_eq_getElem hjl⟩
      obtain ⟨c1, c2⟩ := R.canon hr
      rw [hP_succ hr, ih (by omega), c2, c1, hT j (by omega)]
      cases hlr : r.loud with
      | false =>
        rw [eff_quiet hlr, R.quiet hr hlr]
        cases S j <;> rfl
      | true =>
        obtain ⟨b1, b2⟩ := before j r hr hlr (by omega)
        rw [b1, cond_true, eff_loud hlr b2]
  have key2 : ∀ (T : Nat → Bool), (∀ j, j ≠ i → T j = S j) → ∀ d, i + 1 + d ≤ rs.length → hP T rs σ0.H (i + 1 + d) = hP T rs σ0.H (i + 1) := by
    intro T hT d
    induction d with
    | zero => intro _; rfl
    | succ d ih =>
      intro hd
      have hjl : i + 1 + d < rs.length := by omega
      obtain ⟨r, hr⟩ : ∃ r, rs[i + 1 + d]? = some r := ⟨rs[i + 1 + d], List.getElem?_eq_getElem hjl⟩
      rw [← Nat.add_assoc, hP_succ hr, ih (by omega), hT _ (by omega)]
      cases hlr : r.loud with
      | false => rw [eff_quiet hlr]; cases S (i + 1 + d) <;> rfl
      | true => rw [after _ r hr hlr (by omega)]; rfl
  obtain ⟨c1, c2⟩ := R.canon hq
  have e : rs.length = i + 1 + (rs.length - (i + 1)) := by omega
  constructor
  · rw [← hP_all]
    have := key2 S (fun _ _ => rfl) (rs.length - (i + 1)) (by omega)
    rw [← e] at this
    rw [this, hP_succ hq, hSi, cond_false, key S (fun _ _ => rfl) i (Nat.le_refl _), c1]
  · have hT : ∀ j, j ≠ i → (S j || decide (j = i)) = S j := fun j hj => by simp [hj]
    rw [← hP_all]
    have := key2 _ hT (rs.length - (i + 1)) (by omega)
    rw [← e] at this
    rw [this, hP_succ hq]
    have : (S i || decide (i = i)) = true := by simp
    rw [this, cond_true, eff_loud hl ht]
end
end Go.Ev
