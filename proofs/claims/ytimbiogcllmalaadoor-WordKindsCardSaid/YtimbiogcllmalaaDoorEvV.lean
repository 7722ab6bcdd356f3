/- Regions that draw their order: the stores of the end. -/
import Derived.Test.YtimbiogcllmalaaDoorEvU
namespace Go.Ev
open Go Go.RowKit

section
variable {call : FuncId → List AV → Heap → Option (End × Heap)} {ops : Array Oper} {rs : List Rec} {S : Nat → Bool} {ds : List DCop} {σ0 σ' : St}

theorem Run.tl_eff (R : Run call ops ds rs σ0 σ') {j : Nat} {r : Rec} (hr : rs[j]? = some r) (hl : r.loud = true) (ht : r.d.tl = true) :
    ∃ n a x b off u c, r.d.c.op = .store n a x ∧ rho r.σ.p r.σ.t a = some (.ptr b off) ∧ rho r.σ.p r.σ.t x = some u ∧ r.σ.H.get b = .cells c .own ∧ u.cells.length = n ∧ off + n ≤ c.length ∧ u.cells.all AV.one = true ∧ r.v = undefA ∧ ∀ H, eff r H = stE b off u.cells H := by
  have hw := (Rec.loud_kind hl).2
  rcases R.ok hr with ⟨h, _⟩ | ⟨_, _, h⟩
  · rw [hw] at h; cases h
  · obtain ⟨h1, _, n, a, x, b, off, u, c, h3, h4, h5, h6, h7, h8, h9⟩ := store_eff ((R.one hr).2 ht) (evOp1_store ((R.one hr).2 ht) h)
    refine ⟨n, a, x, b, off, u, c, h3, h4, h5, h6, h7, h8, h9, h1, fun H => ?_⟩
    simp only [eff, hl, ht, cond_true, h3, stEff, h4, h5]
    rfl

theorem rec_at {j : Nat} (h : j < rs.length) : ∃ r, rs[j]? = some r := ⟨rs[j], List.getElem?_eq_getElem h⟩
theorem at_lt {j : Nat} {r : Rec} (h : rs[j]? = some r) : j < rs.length := by
  rcases Nat.lt_or_ge j rs.length with h' | h'
  · exact h'
  · rw [List.getElem?_eq_none h'] at h; cases h

/-- While a store of the end is not done: what is not one is done, if it is loud. -/
theorem Run.tail_before (R : Run call ops ds rs σ0 σ') (hc : Closed ops S) {i : Nat} {q : Rec} (hq : rs[i]? = some q) (hrd : Ready ops S i) (ht : q.d.tl = true) {j : Nat} {r : Rec} (hr : rs[j]? = some r) (hlt : j < i) (hl : r.loud = true) (hnt : r.d.tl = false) : S j = true :=
  (R.stat.tail1 j i _ _ hlt (R.d hr) (R.d hq) ht (by rw [(Rec.loud_kind hl).1]; decide) hnt).closed hc (.inl hrd)

theorem Run.tail_after (R : Run call ops ds rs σ0 σ') {i : Nat} {q : Rec} (hq : rs[i]? = some q) (ht : q.d.tl = true) {j : Nat} {r : Rec} (hr : rs[j]? = some r) (hlt : i < j) (hl : r.loud = true) : r.d.tl = true := by
  rcases R.stat.tail2 i j _ _ hlt (R.d hq) (R.d hr) ht with h | h
  · rw [(Rec.loud_kind hl).1] at h; cases h
  · exact h

theorem Run.tail_sh (R : Run call ops ds rs σ0 σ') (hc : Closed ops S) {i : Nat} {q : Rec} (hq : rs[i]? = some q) (hrd : Ready ops S i) (ht : q.d.tl = true) : Sh (hS S rs 0 σ0.H) q.σ.H := by
  have k1 : ∀ j, j ≤ i → Sh (hP S rs σ0.H j) (hP (fun _ => true) rs σ0.H j) := by
    intro j
    induction j with
    | zero => intro _; exact Sh.refl _
    | succ j ih =>
      intro hj
      obtain ⟨r, hr⟩ := rec_at (rs := rs) (j := j) (by have := at_lt hq; omega)
      have hs := ih (by omega)
      rw [hP_succ hr, hP_succ hr, cond_true]
      cases hl : r.loud with
      | false => rw [eff_quiet hl, eff_quiet hl]; cases S j <;> exact hs
      | true =>
        cases hnt : r.d.tl with
        | false =>
          rw [R.tail_before hc hq hrd ht hr (by omega) hl hnt, cond_true, eff_loud hl hnt, eff_loud hl hnt]
          exact Sh.refl _
        | true =>
          obtain ⟨n, a, x, b, off, u, c, -, -, -, -, -, -, -, -, he⟩ := R.tl_eff hr hl hnt
          rw [he, he]
          cases S j
          · exact hs.back _ _ _
          · exact (hs.back _ _ _).fwd _ _ _
  have k2 : ∀ d, i + d ≤ rs.length → Sh (hP S rs σ0.H (i + d)) q.σ.H := by
    intro d
    induction d with
    | zero => intro _; have := k1 i (Nat.le_refl _); rw [(R.canon hq).1] at this; exact this
    | succ d ih =>
      intro hd
      obtain ⟨r, hr⟩ := rec_at (rs := rs) (j := i + d) (by omega)
      have hs := ih (by omega)
      rw [← Nat.add_assoc, hP_succ hr]
      cases hl : r.loud with
      | false => rw [eff_quiet hl]; cases S (i + d) <;> exact hs
      | true =>
        cases hSj : S (i + d) with
        | false => exact hs
        | true =>
          have hnt : r.d.tl = true := by
            cases d with
            | zero => rw [Nat.add_zero, hq] at hr; injection hr with hr; subst hr; exact ht
            | succ d => exact R.tail_after hq ht hr (by omega) hl
          obtain ⟨n, a, x, b, off, u, c, -, -, -, -, -, -, -, -, he⟩ := R.tl_eff hr hl hnt
          rw [cond_true, he]
          exact hs.fwd _ _ _
  have := k2 (rs.length - i) (by have := at_lt hq; omega)
  rw [show i + (rs.length - i) = rs.length from by have := at_lt hq; omega, hP_all] at this
  exact this

theorem Run.tail (R : Run call ops ds rs σ0 σ') (hc : Closed ops S) {i : Nat} {q : Rec} (hq : rs[i]? = some q) (hSi : S i = false) (hrd : Ready ops S i) (hl : q.loud = true) (ht : q.d.tl = true) :
    ∃ n a x b off u c, q.d.c.op = .store n a x ∧ rho q.σ.p q.σ.t a = some (.ptr b off) ∧ rho q.σ.p q.σ.t x = some u ∧ (hS S rs 0 σ0.H).get b = .cells c .own ∧ u.cells.length = n ∧ off + n ≤ c.length ∧ u.cells.all AV.one = true ∧ q.v = undefA ∧
      EqG (stE b off u.cells (hS S rs 0 σ0.H)) (hS (fun j => S j || decide (j = i)) rs 0 σ0.H) := by
  obtain ⟨n, a, x, b, off, u, c, h1, h2, h3, h4, h5, h6, h7, h8, h9⟩ := R.tl_eff hq hl ht
  obtain ⟨c', g1, g2⟩ := R.tail_sh hc hq hrd ht b c h4
  refine ⟨n, a, x, b, off, u, c', h1, h2, h3, g1, h5, by omega, h7, h8, ?_⟩
  have hT : ∀ j, j ≠ i → (S j || decide (j = i)) = S j := fun j hj => by simp [hj]
  have hwq := (Rec.loud_kind hl).2
  have k1 : ∀ j, j ≤ i → hP (fun j => S j || decide (j = i)) rs σ0.H j = hP S rs σ0.H j := by
    intro j
    induction j with
    | zero => intro _; rfl
    | succ j ih =>
      intro hj
      obtain ⟨r, hr⟩ := rec_at (rs := rs) (j := j) (by have := at_lt hq; omega)
      rw [hP_succ hr, hP_succ hr, ih (by omega)]
      simp only [hT j (by omega)]
  have k2 : ∀ d, i + 1 + d ≤ rs.length → EqG (stE b off u.cells (hP S rs σ0.H (i + 1 + d))) (hP (fun j => S j || decide (j = i)) rs σ0.H (i + 1 + d)) := by
    intro d
    induction d with
    | zero =>
      intro _
      rw [Nat.add_zero, hP_succ hq, hP_succ hq, k1 i (Nat.le_refl _), hSi, h9]
      simp only [Bool.false_or, decide_true, cond_true, cond_false]
      exact EqG.refl _
    | succ d ih =>
      intro hd
      obtain ⟨r, hr⟩ := rec_at (rs := rs) (j := i + 1 + d) (by omega)
      have hs := ih (by omega)
      rw [← Nat.add_assoc, hP_succ hr, hP_succ hr]
      simp only [hT (i + 1 + d) (by omega)]
      cases hlr : r.loud with
      | false => rw [eff_quiet hlr, eff_quiet hlr]; cases S (i + 1 + d) <;> exact hs
      | true =>
        cases hSj : S (i + 1 + d) with
        | false => exact hs
        | true =>
          have hnt : r.d.tl = true := R.tail_after hq ht hr (by omega) hlr
          obtain ⟨n2, a2, x2, b2, off2, u2, c2, e1, e2, e3, e4, e5, e6, e7, e8, he⟩ := R.tl_eff hr hlr hnt
          simp only [cond_true]
          rw [he, he]
          have hdis : b ≠ b2 ∨ off + u.cells.length ≤ off2 ∨ off2 + u2.cells.length ≤ off := by
            rcases R.stat.two i (i + 1 + d) _ _ (by omega) (R.d hq) (R.d hr) with h | ⟨_, h⟩
            · have := h.closed hc (.inr hSj); rw [hSi] at this; cases this
            · have k2q := (Rec.loud_kind hl).1
              obtain ⟨k2r, hwr⟩ := Rec.loud_kind hlr
              have hu : i ∈ r.d.u := by
                rcases h with h | h | h | ⟨h, _⟩
                · omega
                · omega
                · omega
                · exact h
              obtain ⟨q2, hq2, _, hdy⟩ := R.dyn _ r hr hwr i hu
              rw [hq] at hq2; injection hq2 with hq2; subst hq2
              have hlog : q.log = .st b off n := by simp [Rec.log, hwq, mkLog, ht, storeAt, h1, h2]
              rw [hlog] at hdy
              simp only [dynOK, e1, storeAt, e2] at hdy
              simp only [Bool.or_eq_true, bne_iff_ne, ne_eq, decide_eq_true_eq] at hdy
              rcases hdy with (hdy | hdy) | hdy
              · exact .inl hdy
              · exact .inr (.inl (by omega))
              · exact .inr (.inr (by omega))
          refine EqG.trans (stE_comm b b2 off off2 u.cells u2.cells _ hdis) ?_
          exact stE_congr hs
  have := k2 (rs.length - (i + 1)) (by have := at_lt hq; omega)
  rw [show i + 1 + (rs.length - (i + 1)) = rs.length from by have := at_lt hq; omega, hP_all, hP_all] at this
  exact this

/-- The order of writing does not matter where nothing is loud. -/
theorem hS_quiet_add {i : Nat} {q : Rec} (hq : rs[i]? = some q) (hl : q.loud = false) (H : Heap) : hS (fun j => S j || decide (j = i)) rs 0 H = hS S rs 0 H :=
  hS_congr rs 0 H fun j r hr hlr => by
    have : j ≠ i := by intro e; subst e; rw [hq] at hr; injection hr with hr; subst hr; rw [hl] at hlr; cases hlr
    simp [this]

/-- The operands at a partial state. -/
theorem Run.opd (R : Run call ops ds rs σ0 σ') (hc : Closed ops S) {i : Nat} {q : Rec} (hq : rs[i]? = some q) (hSi : S i = false) (hrd : Ready ops S i) {x : Opd} (hx : x ∈ q.d.c.all) : rhoS S x rs 0 (rho σ0.p σ0.t x) = rho q.σ.p q.σ.t x := by
  rw [(chain_rho (x := x) rs 0 σ0 σ' R.chain).1 i q hq]
  refine rhoS_congr rs 0 _ fun j r hr hh => ?_
  simp only [Nat.zero_add]
  rcases Nat.lt_trichotomy j i with h | h | h
  · have : S j = true := by
      rcases R.stat.two j i _ _ h (R.d hr) (R.d hq) with h2 | ⟨h2, _⟩
      · exact h2.closed hc (.inl hrd)
      · have : conf r.d.c q.d.c = true := by
          simp only [conf, Bool.or_eq_true, List.any_eq_true]
          exact .inl (.inl ⟨x, hx, hh⟩)
        rw [this] at h2; cases h2
    rw [this]; simp [h]
  · subst h; rw [hSi]; simp
  · have : S j = false := by
      cases hSj : S j with
      | false => rfl
      | true =>
        rcases R.stat.two i j _ _ h (R.d hq) (R.d hr) with h2 | ⟨h2, _⟩
        · have := h2.closed hc (.inr hSj); rw [hSi] at this; cases this
        · have : conf q.d.c r.d.c = true := by
            simp only [conf, Bool.or_eq_true, List.any_eq_true]
            exact .inr ⟨x, hx, hh⟩
          rw [this] at h2; cases h2
    rw [this]; simp; omega

theorem Run.put (R : Run call ops ds rs σ0 σ') (hc : Closed ops S) {i : Nat} {q : Rec} (hq : rs[i]? = some q) (hSi : S i = false) (x : Opd) :
    rhoS (fun j => S j || decide (j = i)) x rs 0 (rho σ0.p σ0.t x) = cond (hits q.d.c.dst x) (some q.v) (rhoS S x rs 0 (rho σ0.p σ0.t x)) := by
  refine rhoS_add rs 0 _ (Nat.zero_le _) (by simpa using hq) hSi fun hh j r hr h2 hlt => ?_
  simp only [Nat.zero_add] at *
  cases hSj : S j with
  | false => rfl
  | true =>
    rcases R.stat.two i j _ _ hlt (R.d hq) (R.d hr) with h | ⟨h, _⟩
    · have := h.closed hc (.inr hSj); rw [hSi] at this; cases this
    · have : conf q.d.c r.d.c = true := by
        simp only [conf, Bool.or_eq_true]
        exact .inl (.inr (hits_same hh h2))
      rw [this] at h; cases h
end
end Go.Ev
