/- Several texts of this claim, joined. -/
import Derived.Test.YtifhmogcdgfojaaGreatDoorT12
set_option linter.unusedSimpArgs false
set_option linter.unusedVariables false

/- Regions that draw their order: the stores of the end. -/
namespace Go.Ev
open Go Go.RowKit
section
variable {call : FuncId → List AV → Heap → Option (End × Heap)} {ops : Array Oper} {rs : List Rec} {S : Nat → Bool} {ds : List DCop} {σ0 σ' : St}
theorem Run.tl_eff (R : Run call ops ds rs σ0 σ') {j : Nat} {r : Rec} (hr : rs[j]? = some r) (hl : r.loud = true) (ht : r.d.tl = true) :
    ∃ n a x b off u c, r.d.c.op = .store n a x ∧ rho r.σ.p r.σ.t a = some (.ptr b off) ∧ rho r.σ.p r.σ.t x = some u ∧ r.σ.H.get b = .cells c .own ∧ u.cells.length = n ∧ off + n ≤ c.length ∧ u.cells.all AV.one = true ∧ r.v = undefA ∧ ∀ H, eff r H = stE b off u.cells H := by
  have hw := (Rec.loud_kind hl).2
  rcases R.ok hr with ⟨h, _⟩ | ⟨_, _, h⟩
  · rw [hw] at h; cases h
  · obtain ⟨h1, _, n, a, x, b, off, u, c, h3, h4, h5, h6, h7, h8, h9⟩ := store_eff ((R.one hr).2 ht) (evOp1_store ((R.one hr).2 ht) h)
    refine ⟨n, a, x, b, off, u, c, h3, h4, h5, h6, h7, h8, h9, h1, fun H => ?_⟩
    simp only [eff, hl, ht, cond_true, h3, stEff, h4, h5]
    rfl
theorem rec_at {j : Nat} (h : j < rs.length) : ∃ r, rs[j]? = some r := ⟨rs[j], List.getElem?_eq_getElem h⟩
theorem at_lt {j : Nat} {r : Rec} (h : rs[j]? = some r) : j < rs.length := by
  rcases Nat.lt_or_ge j rs.length with h' | h'
  · exact h'
  · rw [List.getElem?_eq_none h'] at h; cases h
/-- While a store of the end is not done: what is not one is done, if it is loud. -/
theorem Run.tail_before (R : Run call ops ds rs σ0 σ') (hc : Closed ops S) {i : Nat} {q : Rec} (hq : rs[i]? = some q) (hrd : Ready ops S i) (ht : q.d.tl = true) {j : Nat} {r : Rec} (hr : rs[j]? = some r) (hlt : j < i) (hl : r.loud = true) (hnt : r.d.tl = false) : S j = true :=
  (R.stat.tail1 j i _ _ hlt (R.d hr) (R.d hq) ht (by rw [(Rec.loud_kind hl).1]; decide) hnt).closed hc (.inl hrd)
theorem Run.tail_after (R : Run call ops ds rs σ0 σ') {i : Nat} {q : Rec} (hq : rs[i]? = some q) (ht : q.d.tl = true) {j : Nat} {r : Rec} (hr : rs[j]? = some r) (hlt : i < j) (hl : r.loud = true) : r.d.tl = true := by
  rcases R.stat.tail2 i j _ _ hlt (R.d hq) (R.d hr) ht with h | h
  · rw [(Rec.loud_kind hl).1] at h; cases h
  · exact h
theorem Run.tail_sh (R : Run call ops ds rs σ0 σ') (hc : Closed ops S) {i : Nat} {q : Rec} (hq : rs[i]? = some q) (hrd : Ready ops S i) (ht : q.d.tl = true) : Sh (hS S rs 0 σ0.H) q.σ.H := by
  have k1 : ∀ j, j ≤ i → Sh (hP S rs σ0.H j) (hP (fun _ => true) rs σ0.H j) := by
    intro j
    induction j with
    | zero => intro _; exact Sh.refl _
    | succ j ih =>
      intro hj
      obtain ⟨r, hr⟩ := rec_at (rs := rs) (j := j) (by have := at_lt hq; omega)
      have hs := ih (by omega)
      rw [hP_succ hr, hP_succ hr, cond_true]
      cases hl : r.loud with
      | false => rw [eff_quiet hl, eff_quiet hl]; cases S j <;> exact hs
      | true =>
        cases hnt : r.d.tl with
        | false =>
          rw [R.tail_before hc hq hrd ht hr (by omega) hl hnt, cond_true, eff_loud hl hnt, eff_loud hl hnt]
          exact Sh.refl _
        | true =>
          obtain ⟨n, a, x, b, off, u, c, -, -, -, -, -, -, -, -, he⟩ := R.tl_eff hr hl hnt
          rw [he, he]
          cases S j
          · exact hs.back _ _ _
          · exact (hs.back _ _ _).fwd _ _ _
  have k2 : ∀ d, i + d ≤ rs.length → Sh (hP S rs σ0.H (i + d)) q.σ.H := by
    intro d
    induction d with
    | zero => intro _; have := k1 i (Nat.le_refl _); rw [(R.canon hq).1] at this; exact this
    | succ d ih =>
      intro hd
      obtain ⟨r, hr⟩ := rec_at (rs := rs) (j := i + d) (by omega)
      have hs := ih (by omega)
      rw [← Nat.add_assoc, hP_succ hr]
      cases hl : r.loud with
      | false => rw [eff_quiet hl]; cases S (i + d) <;> exact hs
      | true =>
        cases hSj : S (i + d) with
        | false => exact hs
        | true =>
          have hnt : r.d.tl = true := by
            cases d with
            | zero => rw [Nat.add_zero, hq] at hr; injection hr with hr; subst hr; exact ht
            | succ d => exact R.tail_after hq ht hr (by omega) hl
          obtain ⟨n, a, x, b, off, u, c, -, -, -, -, -, -, -, -, he⟩ := R.tl_eff hr hl hnt
          rw [cond_true, he]
          exact hs.fwd _ _ _
  have := k2 (rs.length - i) (by have := at_lt hq; omega)
  rw [show i + (rs.length - i) = rs.length from by have := at_lt hq; omega, hP_all] at this
  exact this
theorem Run.tail (R : Run call ops ds rs σ0 σ') (hc : Closed ops S) {i : Nat} {q : Rec} (hq : rs[i]? = some q) (hSi : S i = false) (hrd : Ready ops S i) (hl : q.loud = true) (ht : q.d.tl = true) :
    ∃ n a x b off u c, q.d.c.op = .store n a x ∧ rho q.σ.p q.σ.t a = some (.ptr b off) ∧ rho q.σ.p q.σ.t x = some u ∧ (hS S rs 0 σ0.H).get b = .cells c .own ∧ u.cells.length = n ∧ off + n ≤ c.length ∧ u.cells.all AV.one = true ∧ q.v = undefA ∧
      EqG (stE b off u.cells (hS S rs 0 σ0.H)) (hS (fun j => S j || decide (j = i)) rs 0 σ0.H) := by
  obtain ⟨n, a, x, b, off, u, c, h1, h2, h3, h4, h5, h6, h7, h8, h9⟩ := R.tl_eff hq hl ht
  obtain ⟨c', g1, g2⟩ := R.tail_sh hc hq hrd ht b c h4
  refine ⟨n, a, x, b, off, u, c', h1, h2, h3, g1, h5, by omega, h7, h8, ?_⟩
  have hT : ∀ j, j ≠ i → (S j || decide (j = i)) = S j := fun j hj => by simp [hj]
  have hwq := (Rec.loud_kind hl).2
  have k1 : ∀ j, j ≤ i → hP (fun j => S j || decide (j = i)) rs σ0.H j = hP S rs σ0.H j := by
    intro j
    induction j with
    | zero => intro _; rfl
    | succ j ih =>
      intro hj
      obtain ⟨r, hr⟩ := rec_at (rs := rs) (j := j) (by have := at_lt hq; omega)
      rw [hP_succ hr, hP_succ hr, ih (by omega)]
      simp only [hT j (by omega)]
  have k2 : ∀ d, i + 1 + d ≤ rs.length → EqG (stE b off u.cells (hP S rs σ0.H (i + 1 + d))) (hP (fun j => S j || decide (j = i)) rs σ0.H (i + 1 + d)) := by
    intro d
    induction d with
    | zero =>
      intro _
      rw [Nat.add_zero, hP_succ hq, hP_succ hq, k1 i (Nat.le_refl _), hSi, h9]
      simp only [Bool.false_or, decide_true, cond_true, cond_false]
      exact EqG.refl _
    | succ d ih =>
      intro hd
      obtain ⟨r, hr⟩ := rec_at (rs := rs) (j := i + 1 + d) (by omega)
      have hs := ih (by omega)
      rw [← Nat.add_assoc, hP_succ hr, hP_succ hr]
      simp only [hT (i + 1 + d) (by omega)]
      cases hlr : r.loud with
      | false => rw [eff_quiet hlr, eff_quiet hlr]; cases S (i + 1 + d) <;> exact hs
      | true =>
        cases hSj : S (i + 1 + d) with
        | false => exact hs
        | true =>
          have hnt : r.d.tl = true := R.tail_after hq ht hr (by omega) hlr
          obtain ⟨n2, a2, x2, b2, off2, u2, c2, e1, e2, e3, e4, e5, e6, e7, e8, he⟩ := R.tl_eff hr hlr hnt
          simp only [cond_true]
          rw [he, he]
          have hdis : b ≠ b2 ∨ off + u.cells.length ≤ off2 ∨ off2 + u2.cells.length ≤ off := by
            rcases R.stat.two i (i + 1 + d) _ _ (by omega) (R.d hq) (R.d hr) with h | ⟨_, h⟩
            · have := h.closed hc (.inr hSj); rw [hSi] at this; cases this
            · have k2q := (Rec.loud_kind hl).1
              obtain ⟨k2r, hwr⟩ := Rec.loud_kind hlr
              have hu : i ∈ r.d.u := by
                rcases h with h | h | h | ⟨h, _⟩
                · omega
                · omega
                · omega
                · exact h
              obtain ⟨q2, hq2, _, hdy⟩ := R.dyn _ r hr hwr i hu
              rw [hq] at hq2; injection hq2 with hq2; subst hq2
              have hlog : q.log = .st b off n := by simp [Rec.log, hwq, mkLog, ht, storeAt, h1, h2]
              rw [hlog] at hdy
              simp only [dynOK, e1, storeAt, e2] at hdy
              simp only [Bool.or_eq_true, bne_iff_ne, ne_eq, decide_eq_true_eq] at hdy
              rcases hdy with (hdy | hdy) | hdy
              · exact .inl hdy
              · exact .inr (.inl (by omega))
              · exact .inr (.inr (by omega))
          refine EqG.trans (stE_comm b b2 off off2 u.cells u2.cells _ hdis) ?_
          exact stE_congr hs
  have := k2 (rs.length - (i + 1)) (by have := at_lt hq; omega)
  rw [show i + 1 + (rs.length - (i + 1)) = rs.length from by have := at_lt hq; omega, hP_all, hP_all] at this
  exact this
/-- The order of writing does not matter where nothing is loud. -/
theorem hS_quiet_add {i : Nat} {q : Rec} (hq : rs[i]? = some q) (hl : q.loud = false) (H : Heap) : hS (fun j => S j || decide (j = i)) rs 0 H = hS S rs 0 H :=
  hS_congr rs 0 H fun j r hr hlr => by
    have : j ≠ i := by intro e; subst e; rw [hq] at hr; injection hr with hr; subst hr; rw [hl] at hlr; cases hlr
    simp [this]
/-- The operands at a partial state. -/
theorem Run.opd (R : Run call ops ds rs σ0 σ') (hc : Closed ops S) {i : Nat} {q : Rec} (hq : rs[i]? = some q) (hSi : S i = false) (hrd : Ready ops S i) {x : Opd} (hx : x ∈ q.d.c.all) : rhoS S x rs 0 (rho σ0.p σ0.t x) = rho q.σ.p q.σ.t x := by
  rw [(chain_rho (x := x) rs 0 σ0 σ' R.chain).1 i q hq]
  refine rhoS_congr rs 0 _ fun j r hr hh => ?_
  simp only [Nat.zero_add]
  rcases Nat.lt_trichotomy j i with h | h | h
  · have : S j = true := by
      rcases R.stat.two j i _ _ h (R.d hr) (R.d hq) with h2 | ⟨h2, _⟩
      · exact h2.closed hc (.inl hrd)
      · have : conf r.d.c q.d.c = true := by
          simp only [conf, Bool.or_eq_true, List.any_eq_true]
          exact .inl (.inl ⟨x, hx, hh⟩)
        rw [this] at h2; cases h2
    rw [this]; simp [h]
  · subst h; rw [hSi]; simp
  · have : S j = false := by
      cases hSj : S j with
      | false => rfl
      | true =>
        rcases R.stat.two i j _ _ h (R.d hq) (R.d hr) with h2 | ⟨h2, _⟩
        · have := h2.closed hc (.inr hSj); rw [hSi] at this; cases this
        · have : conf q.d.c r.d.c = true := by
            simp only [conf, Bool.or_eq_true, List.any_eq_true]
            exact .inr ⟨x, hx, hh⟩
          rw [this] at h2; cases h2
    rw [this]; simp; omega
theorem Run.put (R : Run call ops ds rs σ0 σ') (hc : Closed ops S) {i : Nat} {q : Rec} (hq : rs[i]? = some q) (hSi : S i = false) (x : Opd) :
    rhoS (fun j => S j || decide (j = i)) x rs 0 (rho σ0.p σ0.t x) = cond (hits q.d.c.dst x) (some q.v) (rhoS S x rs 0 (rho σ0.p σ0.t x)) := by
  refine rhoS_add rs 0 _ (Nat.zero_le _) (by simpa using hq) hSi fun hh j r hr h2 hlt => ?_
  simp only [Nat.zero_add] at *
  cases hSj : S j with
  | false => rfl
  | true =>
    rcases R.stat.two i j _ _ hlt (R.d hq) (R.d hr) with h | ⟨h, _⟩
    · have := h.closed hc (.inr hSj); rw [hSi] at this; cases this
    · have : conf q.d.c r.d.c = true := by
        simp only [conf, Bool.or_eq_true]
        exact .inl (.inr (hits_same hh h2))
      rw [this] at h; cases h
end
end Go.Ev
/- Regions that draw their order: a step from a partial state. -/
namespace Go.Ev
open Go Go.RowKit
theorem rhos_congr {p t p' t' : List (Nat × AV)} : ∀ (l : List Opd), (∀ x ∈ l, rho p t x = rho p' t' x) → rhos p t l = rhos p' t' l
  | [], _ => rfl
  | x :: l, h => by
    simp only [rhos, h x (List.mem_cons_self ..), rhos_congr l fun y hy => h y (List.mem_cons_of_mem _ hy)]
theorem evOp1_congr {call : FuncId → List AV → Heap → Option (End × Heap)} {σ σ' : St} {c : COp} (hk : kindC c < 3) (hH : σ.H = σ'.H) (h : ∀ x ∈ c.opds, rho σ.p σ.t x = rho σ'.p σ'.t x) : evOp1 call σ c = evOp1 call σ' c := by
  have he : evOp (rho σ.p σ.t) σ.H c = evOp (rho σ'.p σ'.t) σ'.H c := by rw [hH]; exact evOp_congr h
  cases c
  case call f l =>
    simp only [evOp1, hH, rhos_congr l h]
  case callP g f l =>
    simp only [evOp1, hH, rhos_congr l h]
  case callQ g f l =>
    simp only [evOp1, hH, rhos_congr l h]
  case callV f l =>
    simp only [evOp1, hH, rhos_congr l fun x hx => h x (List.mem_cons_of_mem _ hx), h f (List.mem_cons_self ..)]
  case dfr => simp [kindC] at hk
  case panic => simp [kindC] at hk
  case recover => simp [kindC] at hk
  all_goals simp only [evOp1, he]
theorem evOp1_pp {call : FuncId → List AV → Heap → Option (End × Heap)} {σ σ' : St} {c : COp} {v : AV} {H' : Heap} (hp : isP c = true) (hr : ∀ x ∈ c.opds, rho σ'.p σ'.t x = rho σ.p σ.t x) (h : evOp1 call σ c = some (.val v H')) : evOp1 call σ' c = some (.val v σ'.H) := by
  cases c <;> first | (simp [isP] at hp; done) | skip
  rename_i g f l
  simp only [evOp1] at h ⊢
  rw [rhos_congr l hr]
  split at h
  · split at h
    · rename_i hfl
      split at h
      · rename_i v0 H1 hcc
        split at h
        · rename_i hvf
          simp only [Option.some.injEq, OOut.val.injEq] at h; obtain ⟨rfl, _⟩ := h
          simp only [hfl, hcc, hvf, if_true]
        · cases h
      · cases h
    · cases h
  · cases h
theorem evOp1_of {call : FuncId → List AV → Heap → Option (End × Heap)} {σ : St} {c : COp} {v : AV} {H' : Heap} (hk : kindC c = 0 ∨ kindC c = 1 ∨ isStore c = true) (h : evOp (rho σ.p σ.t) σ.H c = some (v, H')) : evOp1 call σ c = some (.val v H') := by
  cases c <;> first | (rcases hk with hk | hk | hk <;> simp [kindC, isStore] at hk; done) | (simp [evOp] at h; done) | skip
  all_goals simp only [evOp1, h]
theorem evOp_read {ρ : Opd → Option AV} {h k h' : Heap} {c : COp} {v : AV} (hk : kindC c = 1) (he : EqG h k) (h1 : evOp ρ h c = some (v, h')) : evOp ρ k c = some (v, k) := by
  cases c <;> first | (simp [kindC] at hk; done) | (rename_i k _; cases k <;> simp [kindC, kindE] at hk; done) | skip
  · simp only [evOp] at h1 ⊢
    split at h1
    · rw [← he.1]
      split at h1
      · split at h1
        · rename_i hc; simp only [Option.some.injEq, Prod.mk.injEq] at h1; simp_all
        · cases h1
      · cases h1
    · cases h1
  · simp only [evOp] at h1 ⊢
    split at h1
    · rw [← he.1]
      split at h1
      · split at h1
        · rename_i hc; simp only [Option.some.injEq, Prod.mk.injEq] at h1; simp_all
        · cases h1
      · cases h1
    · cases h1
  · rename_i x
    simp only [evOp] at h1 ⊢
    cases hx : ρ x with
    | none => rw [hx] at h1; cases h1
    | some y =>
      rw [hx] at h1
      simp only at h1 ⊢
      have : readSl k 1 y = readSl h 1 y := by
        unfold readSl
        split <;> first | (rw [he.1]; done) | rfl
      rw [this]
      split at h1
      · simp only [Option.map_eq_some_iff, Prod.mk.injEq] at h1 ⊢
        obtain ⟨x, h2, h3, _⟩ := h1
        exact ⟨x, h2, h3, trivial⟩
      · cases h1
section
variable {call : FuncId → List AV → Heap → Option (End × Heap)} {ops : Array Oper} {rs : List Rec} {S : Nat → Bool} {ds : List DCop} {σ0 σ' σS : St}
/-- A partial state: the steps of `S` are done. -/
structure Part (rs : List Rec) (σ0 : St) (S : Nat → Bool) (σS : St) : Prop where
  look : ∀ x, rho σS.p σS.t x = rhoS S x rs 0 (rho σ0.p σ0.t x)
  mem : EqG σS.H (hS S rs 0 σ0.H)
  exact : (∀ j r, rs[j]? = some r → r.d.tl = true → S j = false) → σS.H = hS S rs 0 σ0.H
  d : σS.d = σ0.d
  u : σS.u = σ0.u
theorem put_H (σ : St) (d : Dst) (v : AV) : (σ.put d v).H = σ.H ∧ (σ.put d v).d = σ.d ∧ (σ.put d v).u = σ.u := by
  cases d <;> exact ⟨rfl, rfl, rfl⟩
theorem Run.quiet_part (R : Run call ops ds rs σ0 σ') (hp : Part rs σ0 S σS) (hc : Closed ops S) {i : Nat} {q : Rec} (hq : rs[i]? = some q) (hSi : S i = false) (hl : q.loud = false) : Part rs σ0 (fun j => S j || decide (j = i)) (σS.put q.d.c.dst q.v) where
  look := fun x => by rw [rho_put, hp.look, R.put hc hq hSi x]
  mem := by rw [(put_H _ _ _).1, hS_quiet_add hq hl]; exact hp.mem
  exact := fun h => by
    rw [(put_H _ _ _).1, hS_quiet_add hq hl]
    exact hp.exact fun j r hr ht => by have := h j r hr ht; simp only [Bool.or_eq_false_iff] at this; exact this.1
  d := by rw [(put_H _ _ _).2.1]; exact hp.d
  u := by rw [(put_H _ _ _).2.2]; exact hp.u
theorem Run.step (R : Run call ops ds rs σ0 σ') (hp : Part rs σ0 S σS) (hc : Closed ops S) {i : Nat} {q : Rec} (hq : rs[i]? = some q) (hSi : S i = false) (hrd : Ready ops S i) :
    (wantedA σS q.d.c.guard = some false ∧ Part rs σ0 (fun j => S j || decide (j = i)) (σS.put q.d.c.dst undefA)) ∨
    (wantedA σS q.d.c.guard = some true ∧ ∃ H', evOp1 call σS q.d.c.op = some (.val q.v H') ∧ Part rs σ0 (fun j => S j || decide (j = i)) (({ σS with H := H' } : St).put q.d.c.dst q.v)) := by
  have hop : ∀ x ∈ q.d.c.all, rho σS.p σS.t x = rho q.σ.p q.σ.t x := fun x hx => by rw [hp.look, R.opd hc hq hSi hrd hx]
  have hops : ∀ x ∈ q.d.c.op.opds, rho σS.p σS.t x = rho q.σ.p q.σ.t x := fun x hx => hop x (by simp only [Cop.all, List.mem_append]; exact .inl hx)
  have hwant : wantedA σS q.d.c.guard = wantedA q.σ q.d.c.guard := by
    cases hg : q.d.c.guard with
    | none => rfl
    | some y =>
      obtain ⟨x, b⟩ := y
      simp only [wantedA]
      rw [hop x (by simp [Cop.all, hg])]
  rcases R.ok hq with ⟨hw, h1, h2, _⟩ | ⟨hw, h1, h2⟩
  · refine .inl ⟨by rw [hwant, h1], ?_⟩
    have := R.quiet_part hp hc hq hSi (by simp [Rec.loud, hw])
    rw [h2] at this; exact this
  · refine .inr ⟨by rw [hwant, h1], ?_⟩
    obtain ⟨k3, ktl⟩ := R.one hq
    by_cases hk0 : kindC q.d.c.op = 0
    · -- no memory asked
      have hev2 : evOp1 call σS q.d.c.op = some (.val q.v σS.H) := by
        cases hp : isP q.d.c.op with
        | true => exact evOp1_pp hp hops h2
        | false =>
          have hev := evOp1_simple (.inl hk0) hp h2
          refine evOp1_of (.inl hk0) ?_
          rw [evOp_congr hops]; exact evOp_pure hk0 hev
      refine ⟨_, hev2, ?_⟩
      refine R.quiet_part (σS := { σS with H := σS.H }) hp hc hq hSi (by simp [Rec.loud, hk0])
    · by_cases hk1 : kindC q.d.c.op = 1
      · have hnt : q.d.tl = false := by
          cases ht : q.d.tl with
          | false => rfl
          | true =>
            have := ktl ht
            cases hx : q.d.c.op <;> rw [hx] at this hk1 <;> simp [isStore, kindC] at this hk1
        obtain ⟨H', hev⟩ := R.read hc hq hSi hrd hw hk1 hnt
        have hev2 : evOp (rho σS.p σS.t) σS.H q.d.c.op = some (q.v, σS.H) := by
          rw [evOp_congr hops]; exact evOp_read hk1 ⟨fun b => (hp.mem.1 b).symm, hp.mem.2.symm⟩ hev
        refine ⟨_, evOp1_of (.inr (.inl hk1)) hev2, ?_⟩
        exact R.quiet_part (σS := { σS with H := σS.H }) hp hc hq hSi (by simp [Rec.loud, hk1])
      · have hk2 : kindC q.d.c.op = 2 := by omega
        have hl : q.loud = true := by simp [Rec.loud, hw, hk2]
        cases hnt : q.d.tl with
        | false =>
          obtain ⟨e1, e2⟩ := R.loud hc hq hSi hrd hl hnt
          have hex : σS.H = hS S rs 0 σ0.H := hp.exact fun j r hr ht => R.no_tail hc hq hSi (by omega) hnt hr ht
          refine ⟨q.H', by rw [evOp1_congr k3 (hex.trans e1) hops]; exact h2, ?_⟩
          exact {
            look := fun x => by rw [rho_put, R.put hc hq hSi x]; exact congrArg _ (hp.look x)
            mem := by rw [(put_H _ _ _).1, e2]; exact EqG.refl _
            exact := fun _ => by rw [(put_H _ _ _).1, e2]
            d := by rw [(put_H _ _ _).2.1]; exact hp.d
            u := by rw [(put_H _ _ _).2.2]; exact hp.u }
        | true =>
          obtain ⟨n, a, x, b, off, u, c, h3, h4, h5, h6, h7, h8, h9, hv, h10⟩ := R.tail hc hq hSi hrd hl hnt
          have hga : σS.H.get b = .cells c .own := by rw [hp.mem.1]; exact h6
          have hev : evOp (rho σS.p σS.t) σS.H q.d.c.op = some (q.v, stE b off u.cells σS.H) := by
            rw [evOp_congr hops, h3]
            simp only [evOp, h4, h5, hga, h7, h8, h9, hv, and_self, if_true, stE]
          refine ⟨_, evOp1_of (.inr (.inr (ktl hnt))) hev, ?_⟩
          exact {
            look := fun x => by rw [rho_put, R.put hc hq hSi x]; exact congrArg _ (hp.look x)
            mem := by rw [(put_H _ _ _).1]; exact (stE_congr hp.mem).trans h10
            exact := fun h => by have := h i q hq hnt; simp at this
            d := by rw [(put_H _ _ _).2.1]; exact hp.d
            u := by rw [(put_H _ _ _).2.2]; exact hp.u }
theorem Run.start : Part rs σ0 (fun _ => false) σ0 where
  look := fun x => by
    have : ∀ (rs : List Rec) (k : Nat) (a : Option AV), rhoS (fun _ => false) x rs k a = a := by
      intro rs
      induction rs with
      | nil => intro k a; rfl
      | cons r rs ih => intro k a; simp only [rhoS, Bool.false_and, cond_false]; exact ih _ _
    exact (this rs 0 _).symm
  mem := by rw [hS_none rs 0 σ0.H fun _ _ _ _ => rfl]; exact EqG.refl _
  exact := fun _ => (hS_none rs 0 σ0.H fun _ _ _ _ => rfl).symm
  d := rfl
  u := rfl
/-- All is done: the canonical run's end. -/
theorem Run.final (R : Run call ops ds rs σ0 σ') (hp : Part rs σ0 S σS) (hall : ∀ j, j < rs.length → S j = true) : (∀ x, rho σ'.p σ'.t x = rho σS.p σS.t x) ∧ EqG σS.H σ'.H ∧ σ'.d = σS.d ∧ σ'.u = σS.u := by
  have hS' : ∀ j r, rs[j]? = some r → S (0 + j) = true := fun j r hr => by rw [Nat.zero_add]; exact hall j (at_lt hr)
  refine ⟨fun x => ?_, ?_, ?_, ?_⟩
  · rw [hp.look, (chain_rho (x := x) rs 0 σ0 σ' R.chain).2]
    exact (rhoS_congr rs 0 _ fun j r hr _ => by rw [hS' j r hr]).symm
  · have e : hS S rs 0 σ0.H = σ'.H := by
      rw [(chain_H rs 0 σ0 σ' R.chain fun r hr => by obtain ⟨k, hk⟩ := List.getElem?_of_mem hr; exact R.one hk).2]
      exact hS_congr rs 0 _ fun j r hr _ => by rw [hS' j r hr]
    rw [← e]; exact hp.mem
  · rw [hp.d]; exact (chain_du rs σ0 σ' R.chain).1
  · rw [hp.u]; exact (chain_du rs σ0 σ' R.chain).2
end
end Go.Ev
/- Regions that draw their order: every order comes to what the text's order comes to. -/
namespace Go.Ev
open Go Go.RowKit
def cnt (S : Nat → Bool) : Nat → Nat
  | 0 => 0
  | n + 1 => cnt S n + (if S n then 0 else 1)
theorem cnt_congr {S S' : Nat → Bool} : ∀ (n : Nat), (∀ j, j < n → S j = S' j) → cnt S n = cnt S' n
  | 0, _ => rfl
  | n + 1, h => by simp only [cnt, cnt_congr n fun j hj => h j (by omega), h n (by omega)]
theorem cnt_add {S : Nat → Bool} {i : Nat} (hi : S i = false) : ∀ (n : Nat), i < n → cnt (fun j => S j || decide (j = i)) n + 1 = cnt S n
  | 0, h => by omega
  | n + 1, h => by
    simp only [cnt]
    by_cases e : i = n
    · subst e
      rw [cnt_congr (S := fun j => S j || decide (j = i)) (S' := S) i fun j hj => by simp [show j ≠ i by omega]]
      simp [hi]
    · have := cnt_add hi n (by omega)
      have h2 : (S n || decide (n = i)) = S n := by simp [show n ≠ i by omega]
      simp only [h2]; omega
theorem cnt_zero {S : Nat → Bool} : ∀ (n : Nat), cnt S n = 0 → ∀ j, j < n → S j = true
  | 0, _, j, h => by omega
  | n + 1, h, j, hj => by
    simp only [cnt] at h
    by_cases e : j = n
    · subst e
      cases hS : S j with
      | true => rfl
      | false => rw [hS] at h; simp at h
    · exact cnt_zero n (by omega) j (by omega)
theorem cnt_le {S : Nat → Bool} : ∀ (n : Nat), cnt S n ≤ n
  | 0 => Nat.le_refl _
  | n + 1 => by simp only [cnt]; have := cnt_le (S := S) n; split <;> omega
/-- The first that is not done is ready. -/
theorem first_ready {ops : Array Oper} {S : Nat → Bool} (hlt : ∀ (j : Nat) (o : Oper) (e : Edge), ops[j]? = some o → e ∈ o.after → Region.binds .any e = true → e.on < j) : ∀ (n : Nat), (∃ j, j < n ∧ S j = false) → ∃ j, j < n ∧ S j = false ∧ Ready ops S j
  | 0, h => by obtain ⟨j, h, _⟩ := h; omega
  | n + 1, h => by
    by_cases hn : ∃ j, j < n ∧ S j = false
    · obtain ⟨j, h1, h2, h3⟩ := first_ready hlt n hn
      exact ⟨j, by omega, h2, h3⟩
    · obtain ⟨j, h1, h2⟩ := h
      have hj : j = n := by
        by_cases e : j = n
        · exact e
        · exact absurd ⟨j, by omega, h2⟩ hn
      subst hj
      refine ⟨j, h1, h2, fun o e ho he hb => ?_⟩
      cases hS : S e.on with
      | true => rfl
      | false => exact absurd ⟨e.on, hlt j o e ho he hb, hS⟩ hn
theorem Env.congr {X : Cx} {ι : Plan} {p t p' t' : List (Nat × AV)} {tmps : Array Value} (h : Env X ι p t tmps) (he : ∀ x, rho p' t' x = rho p t x) : Env X ι p' t' tmps where
  fp := fun i v hv => h.fp i v (by have := he (.p i); simp only [rho] at this; rw [← this]; exact hv)
  ft := fun i v hv => h.ft i v (by have := he (.t i); simp only [rho] at this; rw [← this]; exact hv)
  fg := h.fg
  pk := fun i v hv => h.pk i v (by have := he (.p i); simp only [rho] at this; rw [← this]; exact hv)
  tk := fun i v hv => h.tk i v (by have := he (.t i); simp only [rho] at this; rw [← this]; exact hv)
theorem Rel.congrG {B : Nat} {ι : Plan} {H K : Heap} {w : World} (h : Rel B ι H w) (he : EqG H K) : Rel B ι K w where
  dom := fun b L hb => by rw [← he.2]; exact h.dom b L hb
  live := fun b c u hg => h.live b c u (by rw [he.1]; exact hg)
  ownu := fun b c L _ hg => h.ownu b c L (by rw [he.1]; exact hg)
  iter := fun b s p hg => h.iter b s p (by rw [he.1]; exact hg)
  ty := fun b c e L hg => h.ty b c e L (by rw [he.1]; exact hg)
  mapb := fun b es hg => h.mapb b es (by rw [he.1]; exact hg)
  inj := fun b b' L L' hne ho hd => h.inj b b' L L' hne (by unfold Owned at *; simpa only [he.1] using ho) (by rw [he.1]; exact hd)
  size := h.size
theorem SR.congr {X : Cx} {B : Nat} {κ : CallKind} {cs0 cs : List Frame} {ι : Plan} {σ σ' : St} {a : Act} {w : World} (h : SR X B κ cs0 ι σ a cs w) (h1 : ∀ x, rho σ'.p σ'.t x = rho σ.p σ.t x) (h2 : EqG σ.H σ'.H) (h3 : σ'.d = σ.d) (h4 : σ'.u = σ.u) : SR X B κ cs0 ι σ' a cs w :=
  ⟨h.env.congr h1, h.size, h.rel.congrG h2, by rw [h3]; exact h.dfr, by rw [h4]; exact h.up⟩
theorem chkOps_at {X : Cx} {ops : Array Oper} : ∀ (l : List Oper) (cl : List Cop), chkOps X ops l cl = true → ∀ (i : Nat) (o : Oper) (c : Cop), l[i]? = some o → cl[i]? = some c → chkCop X ops o c = true
  | [], [], _, i, o, c, h, _ => by simp at h
  | [], _ :: _, h, _, _, _, _, _ => by simp [chkOps] at h
  | _ :: _, [], h, _, _, _, _, _ => by simp [chkOps] at h
  | o0 :: l, c0 :: cl, h, i, o, c, ho, hc => by
    simp only [chkOps, Bool.and_eq_true] at h
    cases i with
    | zero => simp only [List.getElem?_cons_zero, Option.some.injEq] at ho hc; subst ho; subst hc; exact h.1
    | succ i => simp only [List.getElem?_cons_succ] at ho hc; exact chkOps_at l cl h.2 i o c ho hc
section
variable {X : Cx} {B : Nat} {κ : CallKind} {cs0 : List Frame} {call : FuncId → List AV → Heap → Option (End × Heap)} {ops : Array Oper} {rs : List Rec} {ds : List DCop} {σ0 σ' : St}
theorem Run.go (R : Run call ops ds rs σ0 σ') (hcall : CallOK X.P B call) (hchk : ∀ (i : Nat) (o : Oper) (d : DCop), ops[i]? = some o → ds[i]? = some d → chkCop X ops o d.c = true) (b : Frame) (k : List Item) (hb : b.kind = κ) :
    ∀ (fuel t : Nat) (listed : Array Bool) (σS : St) (a : Act) (cs : List Frame) (w : World) (ι : Plan), listed.size = ops.size → Closed ops (fun j => listed.getD j false) → cnt (fun j => listed.getD j false) ops.size ≤ fuel → Part rs σ0 (fun j => listed.getD j false) σS → SR X B κ cs0 ι σS a cs w →
    Comes2 X B κ cs0 ι w (lone (b.at a (.inRegion ops (Region.linearise.go .any ops fuel t listed []) :: k)) cs w) b k .normal σ' := by
  have hlen : rs.length = ops.size := by rw [← R.stat.size, ← R.hds, List.length_map]
  have stop : ∀ (listed : Array Bool) (σS : St) (a : Act) (cs : List Frame) (w : World) (ι : Plan), (∀ j, j < ops.size → listed.getD j false = true) → Part rs σ0 (fun j => listed.getD j false) σS → SR X B κ cs0 ι σS a cs w →
      Comes2 X B κ cs0 ι w (lone (b.at a (.inRegion ops [] :: k)) cs w) b k .normal σ' := by
    intro listed σS a cs w ι hall hp h
    obtain ⟨h1, h2, h3, h4⟩ := R.final hp fun j hj => hall j (by omega)
    exact ⟨ι, .normal, a, cs, w, ι.le_refl, Below.refl _ _, h.congr h1 h2 h3 h4, rfl, .one step_region_end⟩
  intro fuel
  induction fuel with
  | zero =>
    intro t listed σS a cs w ι hsz hc hcnt hp h
    exact stop listed σS a cs w ι (cnt_zero ops.size (by omega)) hp h
  | succ fuel ih =>
    intro t listed σS a cs w ι hsz hc hcnt hp h
    simp only [Region.linearise.go]
    change Comes2 X B κ cs0 ι w (lone (b.at a (.inRegion ops (match (Region.ready .any ops listed)[t % (Region.ready .any ops listed).length]? with
      | some i => Region.linearise.go .any ops fuel (t / (Region.ready .any ops listed).length) (listed.setIfInBounds i true) [i]
      | none => [].reverse) :: k)) cs w) b k .normal σ'
    have hmem : ∀ i, i ∈ Region.ready .any ops listed ↔ i < ops.size ∧ listed.getD i true = false ∧ ∀ o, ops[i]? = some o → ∀ e ∈ o.after, Region.binds .any e = true → listed.getD e.on false = true := by
      intro i
      simp only [Region.ready, List.mem_filter, List.mem_range, Bool.and_eq_true, Bool.not_eq_true']
      constructor
      · rintro ⟨h1, h2, h3⟩
        refine ⟨h1, h2, fun o ho e he hb => ?_⟩
        rw [ho] at h3
        simp only [Option.map_some, Option.getD_some, Array.all_eq_true_iff_forall_mem] at h3
        have := h3 e he
        rw [hb] at this; simpa using this
      · rintro ⟨h1, h2, h3⟩
        refine ⟨h1, h2, ?_⟩
        obtain ⟨o, ho⟩ : ∃ o, ops[i]? = some o := ⟨ops[i], by rw [Array.getElem?_eq_getElem h1]⟩
        rw [ho]
        simp only [Option.map_some, Option.getD_some, Array.all_eq_true_iff_forall_mem]
        intro e he
        cases hb : Region.binds .any e with
        | false => rfl
        | true => simp [h3 o ho e he hb]
    have hgt : ∀ i, i < ops.size → listed.getD i true = listed.getD i false := by
      intro i hi
      simp only [Array.getD_eq_getD_getElem?]
      rw [Array.getElem?_eq_getElem (by omega)]
      rfl
    cases hi : (Region.ready .any ops listed)[t % (Region.ready .any ops listed).length]? with
    | none =>
      have hnil : Region.ready .any ops listed = [] := by
        cases hr : Region.ready .any ops listed with
        | nil => rfl
        | cons x xs =>
          rw [hr] at hi
          have hlt : t % (x :: xs).length < (x :: xs).length := Nat.mod_lt _ (by simp)
          simp at hi
          simp at hlt
          omega
      refine stop listed σS a cs w ι (fun j hj => ?_) hp h
      cases hS : listed.getD j false with
      | true => rfl
      | false =>
        obtain ⟨j', h1, h2, h3⟩ := first_ready (S := fun j => listed.getD j false) R.stat.lt ops.size ⟨j, hj, hS⟩
        have : j' ∈ Region.ready .any ops listed := (hmem j').2 ⟨h1, by rw [hgt j' h1]; exact h2, fun o ho e he hb => h3 o e ho he hb⟩
        rw [hnil] at this; cases this
    | some i =>
      simp only []
      rw [linearise_go_acc, List.reverse_singleton, List.singleton_append]
      obtain ⟨h1, h2, h3⟩ := (hmem i).1 (List.mem_of_getElem? hi)
      have hSi : listed.getD i false = false := by rw [← hgt i h1]; exact h2
      have hrd : Ready ops (fun j => listed.getD j false) i := fun o e ho he hb => h3 o ho e he hb
      obtain ⟨q, hq⟩ := rec_at (rs := rs) (j := i) (by omega)
      obtain ⟨o, ho⟩ : ∃ o, ops[i]? = some o := ⟨ops[i], by rw [Array.getElem?_eq_getElem h1]⟩
      have hcop := hchk i o q.d ho (R.d hq)
      have hcp := hcop
      simp only [chkCop, Bool.and_eq_true] at hcp
      have hS' : (fun j => (listed.setIfInBounds i true).getD j false) = fun j => listed.getD j false || decide (j = i) := by
        funext j
        simp only [Array.getD_eq_getD_getElem?, Array.getElem?_setIfInBounds]
        by_cases e : i = j
        · subst e; simp [hsz, h1]
        · rw [if_neg e]; simp [Ne.symm e]
      have hc' : Closed ops (fun j => (listed.setIfInBounds i true).getD j false) := by
        rw [hS']
        intro j o' e hj ho' he hb
        simp only [Bool.or_eq_true, decide_eq_true_eq] at hj ⊢
        rcases hj with hj | hj
        · exact .inl (hc j o' e hj ho' he hb)
        · subst hj; exact .inl (hrd o' e ho' he hb)
      have hcnt' : cnt (fun j => (listed.setIfInBounds i true).getD j false) ops.size ≤ fuel := by
        rw [hS']
        have := cnt_add (S := fun j => listed.getD j false) hSi ops.size h1
        omega
      have hsz' : (listed.setIfInBounds i true).size = ops.size := by rw [Array.size_setIfInBounds]; exact hsz
      rcases R.step hp hc hq hSi hrd with ⟨hw, hp'⟩ | ⟨hw, H', hev, hp'⟩
      · have hwant := guard_sound h.env h.size hcp.2 hw
        have hs := step_op_skip (P := X.P) (b := b) (a := a) (k := k) (cs := cs) (w := w) (ops := ops) (i := i) (rest := Region.linearise.go .any ops fuel (t / (Region.ready .any ops listed).length) (listed.setIfInBounds i true) []) (by simp [ho, hwant])
        simp only [ho, Option.bind_some] at hs
        rw [← hS'] at hp'
        exact .of_steps (.one hs) ι.le_refl (Below.refl _ _) (ih _ _ _ _ cs w ι hsz' hc' hcnt' hp' (h.put hcp.1.1 (VR.undef ι)))
      · have hwant := guard_sound h.env h.size hcp.2 hw
        obtain ⟨ι1, a1, w1, g1, g2, g3, g4⟩ := op_step (rest := Region.linearise.go .any ops fuel (t / (Region.ready .any ops listed).length) (listed.setIfInBounds i true) []) hcall h ho hwant hcop hev b k hb
        rw [← hS'] at hp'
        exact .of_steps g3 g1 g2 (ih _ _ _ a1 cs w1 ι1 hsz' hc' hcnt' hp' g4)
end
/-! ## The checker -/
def bef1 (acc : List Nat) (l : List Edge) : Nat := l.foldl (fun s e => cond (Region.binds .any e) (s ||| 2 ^ e.on ||| acc.getD e.on 0) s) 0
def befs : List Oper → List Nat → List Nat
  | [], acc => acc
  | o :: l, acc => befs l (acc ++ [bef1 acc o.after.toList])
def chkAfter : List Oper → Nat → Bool
  | [], _ => true
  | o :: l, j => o.after.toList.all (fun e => !Region.binds .any e || Nat.blt e.on j) && chkAfter l (j + 1)
def pairOK (bits i : Nat) (d d' : DCop) : Bool :=
  let r := bits.testBit i
  let k := kindC d.c.op
  let k' := kindC d'.c.op
  (r || (!conf d.c d'.c && (k == 0 || k' == 0 || (k == 1 && k' == 1) || (d'.u.contains i && ((k == 1 && k' == 2 && !d.tl && !d'.tl) || (k == 2 && !d.tl && k' == 1 && !d'.tl) || (d.tl && d'.tl)))))) &&
  (!d'.tl || k == 0 || d.tl || r) && (!d.tl || k' == 0 || d'.tl)
def chkP (i : Nat) (d : DCop) : List DCop → List Nat → Bool
  | [], _ => true
  | d' :: l, b :: bs => pairOK b i d d' && chkP i d l bs
  | _ :: _, [] => false
def chkPs : List DCop → List Nat → Nat → Bool
  | [], _, _ => true
  | d :: l, _ :: bs, i => chkP i d l bs && chkPs l bs (i + 1)
  | _ :: _, [], _ => false
def chkDrawn0 (X : Cx) (ops : Array Oper) (dl : List DCop) : Bool :=
  X.P.follows .mixedOrders && chkOps X ops ops.toList (dl.map (·.c)) && chkAfter ops.toList 0 && dl.length == ops.size && dl.all (fun d => Nat.blt (kindC d.c.op) 3 && (!d.tl || isStore d.c.op)) && chkPs dl (befs ops.toList []) 0
theorem bef1_spec {acc : List Nat} {i : Nat} : ∀ (l : List Edge) (s : Nat), (l.foldl (fun s e => cond (Region.binds .any e) (s ||| 2 ^ e.on ||| acc.getD e.on 0) s) s).testBit i = true → s.testBit i = true ∨ ∃ e ∈ l, Region.binds .any e = true ∧ (i = e.on ∨ (acc.getD e.on 0).testBit i = true)
  | [], s, h => .inl h
  | e :: l, s, h => by
    simp only [List.foldl_cons] at h
    rcases bef1_spec l _ h with h1 | ⟨e', h1, h2⟩
    · cases hb : Region.binds .any e with
      | false => rw [hb] at h1; exact .inl h1
      | true =>
        rw [hb] at h1
        simp only [cond_true, Nat.testBit_or, Bool.or_eq_true, Nat.testBit_two_pow, decide_eq_true_eq] at h1
        rcases h1 with (h1 | h1) | h1
        · exact .inl h1
        · exact .inr ⟨e, List.mem_cons_self .., hb, .inl h1.symm⟩
        · exact .inr ⟨e, List.mem_cons_self .., hb, .inr h1⟩
    · exact .inr ⟨e', List.mem_cons_of_mem _ h1, h2⟩
theorem befs_spec {ops : Array Oper} : ∀ (l : List Oper) (acc : List Nat), (∀ j, l[j]? = ops[acc.length + j]?) → (∀ j b i, acc[j]? = some b → b.testBit i = true → Reach ops i j) → ∀ j b i, (befs l acc)[j]? = some b → b.testBit i = true → Reach ops i j
  | [], acc, _, h => h
  | o :: l, acc, hl, h => by
    have ho : ops[acc.length]? = some o := by have := hl 0; simpa using this.symm
    refine befs_spec l _ (fun j => ?_) ?_
    · have := hl (j + 1); rw [List.length_append, List.length_singleton, Nat.add_assoc, Nat.add_comm 1 j]; simpa using this
    · intro j b i hj hb
      rw [List.getElem?_append] at hj
      split at hj
      · exact h j b i hj hb
      · have hj2 : j - acc.length = 0 := by
          cases hx : j - acc.length with
          | zero => rfl
          | succ n => rw [hx] at hj; simp at hj
        rw [hj2] at hj
        simp only [List.getElem?_cons_zero, Option.some.injEq] at hj
        subst hj
        have hje : j = acc.length := by omega
        subst hje
        rcases bef1_spec o.after.toList 0 hb with h0 | ⟨e, he, hbe, h1⟩
        · simp at h0
        · rcases h1 with h1 | h1
          · subst h1; exact .edge ho (by simpa using he) hbe
          · have : ∃ b, acc[e.on]? = some b ∧ b.testBit i = true := by
              rw [List.getD_eq_getElem?_getD] at h1
              cases hx : acc[e.on]? with
              | none => rw [hx] at h1; simp at h1
              | some b => rw [hx] at h1; exact ⟨b, rfl, h1⟩
            obtain ⟨b, hb1, hb2⟩ := this
            exact .trans (h _ _ _ hb1 hb2) ho (by simpa using he) hbe
theorem chkAfter_spec : ∀ (l : List Oper) (k : Nat), chkAfter l k = true → ∀ (j : Nat) (o : Oper) (e : Edge), l[j]? = some o → e ∈ o.after → Region.binds .any e = true → e.on < k + j
  | [], _, _, j, o, e, h, _, _ => by simp at h
  | o0 :: l, k, h, j, o, e, hj, he, hb => by
    simp only [chkAfter, Bool.and_eq_true, List.all_eq_true] at h
    cases j with
    | zero =>
      simp only [List.getElem?_cons_zero, Option.some.injEq] at hj; subst hj
      have := h.1 e (by simpa using he)
      rw [hb] at this
      simpa [Nat.blt_eq] using this
    | succ j =>
      simp only [List.getElem?_cons_succ] at hj
      have := chkAfter_spec l (k + 1) h.2 j o e hj he hb
      omega
theorem chkP_spec {i : Nat} {d : DCop} : ∀ (l : List DCop) (bs : List Nat), chkP i d l bs = true → ∀ (m : Nat) (d' : DCop), l[m]? = some d' → ∃ b, bs[m]? = some b ∧ pairOK b i d d' = true
  | [], _, _, m, d', h => by simp at h
  | _ :: _, [], h, _, _, _ => by simp [chkP] at h
  | d0 :: l, b :: bs, h, m, d', hm => by
    simp only [chkP, Bool.and_eq_true] at h
    cases m with
    | zero => simp only [List.getElem?_cons_zero, Option.some.injEq] at hm; subst hm; exact ⟨b, rfl, h.1⟩
    | succ m => simp only [List.getElem?_cons_succ] at hm ⊢; exact chkP_spec l bs h.2 m d' hm
theorem chkPs_spec : ∀ (l : List DCop) (bs : List Nat) (k : Nat), chkPs l bs k = true → ∀ (i j : Nat) (d d' : DCop), i < j → l[i]? = some d → l[j]? = some d' → ∃ b, bs[j]? = some b ∧ pairOK b (k + i) d d' = true
  | [], _, _, _, i, _, _, _, _, h, _ => by simp at h
  | _ :: _, [], _, h, _, _, _, _, _, _, _ => by simp [chkPs] at h
  | d0 :: l, b0 :: bs, k, h, i, j, d, d', hlt, hi, hj => by
    simp only [chkPs, Bool.and_eq_true] at h
    cases j with
    | zero => omega
    | succ j =>
      simp only [List.getElem?_cons_succ] at hj ⊢
      cases i with
      | zero =>
        simp only [List.getElem?_cons_zero, Option.some.injEq] at hi; subst hi
        exact chkP_spec l bs h.1 j d' hj
      | succ i =>
        simp only [List.getElem?_cons_succ] at hi
        have := chkPs_spec l bs (k + 1) h.2 i j d d' (by omega) hi hj
        rw [show k + (i + 1) = k + 1 + i by omega]; exact this
theorem chkDrawn_stat {X : Cx} {ops : Array Oper} {dl : List DCop} (h : chkDrawn0 X ops dl = true) : Stat ops dl := by
  simp only [chkDrawn0, Bool.and_eq_true, beq_iff_eq] at h
  obtain ⟨⟨⟨⟨⟨_, _⟩, h3⟩, h4⟩, h5⟩, h6⟩ := h
  have hb := befs_spec (ops := ops) ops.toList [] (fun j => by simp) (fun j b i hj => by simp at hj)
  have hp : ∀ (i j : Nat) (d d' : DCop), i < j → dl[i]? = some d → dl[j]? = some d' → ∃ b, pairOK b i d d' = true ∧ (b.testBit i = true → Reach ops i j) := by
    intro i j d d' hlt hi hj
    obtain ⟨b, h1, h2⟩ := chkPs_spec dl _ 0 h6 i j d d' hlt hi hj
    rw [Nat.zero_add] at h2
    exact ⟨b, h2, hb j b i h1⟩
  refine ⟨?_, h4, ?_, ?_, ?_, ?_⟩
  · intro j o e hj he hbd
    have := chkAfter_spec ops.toList 0 h3 j o e (by simpa using hj) he hbd
    omega
  · intro j d hj
    have := (List.all_eq_true.1 h5) d (List.mem_of_getElem? hj)
    simp only [Bool.and_eq_true, Nat.blt_eq, Bool.or_eq_true, Bool.not_eq_true'] at this
    refine ⟨this.1, fun ht => ?_⟩
    rcases this.2 with h | h
    · rw [ht] at h; cases h
    · exact h
  · intro i j d d' hlt hi hj
    obtain ⟨b, h1, h2⟩ := hp i j d d' hlt hi hj
    simp only [pairOK, Bool.and_eq_true, Bool.or_eq_true, Bool.not_eq_true', beq_iff_eq, List.contains_iff_mem] at h1
    rcases h1.1.1 with h | ⟨h, h'⟩
    · exact .inl (h2 h)
    · refine .inr ⟨h, ?_⟩
      rcases h' with ((h' | h') | h') | ⟨hu, h'⟩
      · exact .inl h'
      · exact .inr (.inl h')
      · exact .inr (.inr (.inl h'))
      · refine .inr (.inr (.inr ⟨hu, ?_⟩))
        rcases h' with (⟨⟨⟨a1, a2⟩, a3⟩, a4⟩ | ⟨⟨⟨a1, a2⟩, a3⟩, a4⟩) | h'
        · exact .inl ⟨a1, a2, a3, a4⟩
        · exact .inr (.inl ⟨a1, a2, a3, a4⟩)
        · exact .inr (.inr h')
  · intro i j d d' hlt hi hj ht hk hnt
    obtain ⟨b, h1, h2⟩ := hp i j d d' hlt hi hj
    simp only [pairOK, Bool.and_eq_true, Bool.or_eq_true, Bool.not_eq_true', beq_iff_eq] at h1
    rcases h1.1.2 with ((h | h) | h) | h
    · rw [ht] at h; cases h
    · exact absurd h hk
    · rw [hnt] at h; cases h
    · exact h2 h
  · intro i j d d' hlt hi hj ht
    obtain ⟨b, h1, h2⟩ := hp i j d d' hlt hi hj
    simp only [pairOK, Bool.and_eq_true, Bool.or_eq_true, Bool.not_eq_true', beq_iff_eq] at h1
    rcases h1.2 with (h | h) | h
    · rw [ht] at h; cases h
    · exact .inl h
    · exact .inr h
theorem drawn_all0 (P : Program) (B : Nat) : DrawnAll P B chkDrawn0 := by
  intro X call hX hcall ops cl id hchk κ cs0 ι σ σ' a cs w ctl h hev b k hb
  subst hX
  obtain ⟨rfl, rs, h1, h2, h3⟩ := evOpsD_recs cl 0 [] _ σ' ctl hev
  have R : Run call ops cl rs { σ with t := [] } σ' := by
    refine ⟨h1, chkDrawn_stat hchk, h2, fun j r hr hw i hi => ?_⟩
    obtain ⟨e, he, hcase⟩ := h3 j r hr hw i hi
    rcases hcase with ⟨_, q, hq, hlt, rfl⟩ | hlk
    · exact ⟨q, by simpa using hq, by omega, he⟩
    · simp [lkL] at hlk
  have hc2 := hchk
  simp only [chkDrawn0, Bool.and_eq_true] at hc2
  have hm : X.P.follows .mixedOrders = true := hc2.1.1.1.1.1
  have hops : ∀ (i : Nat) (o : Oper) (d : DCop), ops[i]? = some o → cl[i]? = some d → chkCop X ops o d.c = true := fun i o d ho hd =>
    chkOps_at ops.toList _ hc2.1.1.1.1.2 i o d.c (by simpa using ho) (by rw [List.getElem?_map, hd]; rfl)
  have hsch : Region.schedule (X.P.follows .mixedOrders) ops (w.tape w.drawn (.order b.fn id)) = Region.linearise.go .any ops ops.size (w.tape w.drawn (.order b.fn id)) (Array.replicate ops.size false) [] := by
    simp only [Region.schedule, hm, Bool.true_or, if_true]; rfl
  have hS0 : (fun j => (Array.replicate ops.size false).getD j false) = fun _ => false := by
    funext j
    simp only [Array.getD_eq_getD_getElem?, Array.getElem?_replicate]
    split <;> rfl
  have h0 := h.fresh
  have hw : SR X B κ cs0 ι { σ with t := [] } a cs { w with drawn := w.drawn + 1 } := ⟨h0.env, h0.size, ⟨h0.rel.dom, h0.rel.live, h0.rel.ownu, h0.rel.iter, h0.rel.ty, h0.rel.mapb, h0.rel.inj, h0.rel.size⟩, h0.dfr, h0.up⟩
  have hB : Below B w { w with drawn := w.drawn + 1 } := ⟨rfl, rfl, rfl, Nat.le_refl _, fun _ _ => rfl⟩
  refine .of_steps (.one step_region_draw) ι.le_refl hB ?_
  rw [hsch]
  refine R.go hcall hops b k hb ops.size _ _ _ a cs _ ι (by simp) (by rw [hS0]; intro j o e hj; cases hj) (cnt_le _) (by rw [hS0]; exact Run.start) hw
end Go.Ev
