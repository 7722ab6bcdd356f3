/- Regions that draw their order: a step from a partial state. -/
import Derived.Test.YtimbiogcllmalaaDoorEvV
namespace Go.Ev
open Go Go.RowKit

theorem rhos_congr {p t p' t' : List (Nat × AV)} : ∀ (l : List Opd), (∀ x ∈ l, rho p t x = rho p' t' x) → rhos p t l = rhos p' t' l
  | [], _ => rfl
  | x :: l, h => by
    simp only [rhos, h x (List.mem_cons_self ..), rhos_congr l fun y hy => h y (List.mem_cons_of_mem _ hy)]

theorem evOp1_congr {call : FuncId → List AV → Heap → Option (End × Heap)} {σ σ' : St} {c : COp} (hk : kindC c < 3) (hH : σ.H = σ'.H) (h : ∀ x ∈ c.opds, rho σ.p σ.t x = rho σ'.p σ'.t x) : evOp1 call σ c = evOp1 call σ' c := by
  have he : evOp (rho σ.p σ.t) σ.H c = evOp (rho σ'.p σ'.t) σ'.H c := by rw [hH]; exact evOp_congr h
  cases c
  case call f l =>
    simp only [evOp1, hH, rhos_congr l h]
  case callP g f l =>
    simp only [evOp1, hH, rhos_congr l h]
  case callV f l =>
    simp only [evOp1, hH, rhos_congr l fun x hx => h x (List.mem_cons_of_mem _ hx), h f (List.mem_cons_self ..)]
  case dfr => simp [kindC] at hk
  case panic => simp [kindC] at hk
  case recover => simp [kindC] at hk
  all_goals simp only [evOp1, he]

theorem evOp1_pp {call : FuncId → List AV → Heap → Option (End × Heap)} {σ σ' : St} {c : COp} {v : AV} {H' : Heap} (hp : isP c = true) (hr : ∀ x ∈ c.opds, rho σ'.p σ'.t x = rho σ.p σ.t x) (h : evOp1 call σ c = some (.val v H')) : evOp1 call σ' c = some (.val v σ'.H) := by
  cases c <;> first | (simp [isP] at hp; done) | skip
  rename_i g f l
  simp only [evOp1] at h ⊢
  rw [rhos_congr l hr]
  split at h
  · split at h
    · rename_i hfl
      split at h
      · rename_i v0 H1 hcc
        split at h
        · rename_i hvf
          simp only [Option.some.injEq, OOut.val.injEq] at h; obtain ⟨rfl, _⟩ := h
          simp only [hfl, hcc, hvf, if_true]
        · cases h
      · cases h
    · cases h
  · cases h

theorem evOp1_of {call : FuncId → List AV → Heap → Option (End × Heap)} {σ : St} {c : COp} {v : AV} {H' : Heap} (hk : kindC c = 0 ∨ kindC c = 1 ∨ isStore c = true) (h : evOp (rho σ.p σ.t) σ.H c = some (v, H')) : evOp1 call σ c = some (.val v H') := by
  cases c <;> first | (rcases hk with hk | hk | hk <;> simp [kindC, isStore] at hk; done) | (simp [evOp] at h; done) | skip
  all_goals simp only [evOp1, h]

theorem evOp_read {ρ : Opd → Option AV} {h k h' : Heap} {c : COp} {v : AV} (hk : kindC c = 1) (he : EqG h k) (h1 : evOp ρ h c = some (v, h')) : evOp ρ k c = some (v, k) := by
  cases c <;> first | (simp [kindC] at hk; done) | skip
  · simp only [evOp] at h1 ⊢
    split at h1
    · rw [← he.1]
      split at h1
      · split at h1
        · rename_i hc; simp only [Option.some.injEq, Prod.mk.injEq] at h1; simp_all
        · cases h1
      · cases h1
    · cases h1
  · simp only [evOp] at h1 ⊢
    split at h1
    · rw [← he.1]
      split at h1
      · split at h1
        · rename_i hc; simp only [Option.some.injEq, Prod.mk.injEq] at h1; simp_all
        · cases h1
      · cases h1
    · cases h1
  · rename_i x
    simp only [evOp] at h1 ⊢
    cases hx : ρ x with
    | none => rw [hx] at h1; cases h1
    | some y =>
      rw [hx] at h1
      simp only at h1 ⊢
      have : readSl k 1 y = readSl h 1 y := by
        unfold readSl
        split <;> first | (rw [he.1]; done) | rfl
      rw [this]
      split at h1
      · simp only [Option.map_eq_some_iff, Prod.mk.injEq] at h1 ⊢
        obtain ⟨x, h2, h3, _⟩ := h1
        exact ⟨x, h2, h3, trivial⟩
      · cases h1

section
variable {call : FuncId → List AV → Heap → Option (End × Heap)} {ops : Array Oper} {rs : List Rec} {S : Nat → Bool} {ds : List DCop} {σ0 σ' σS : St}

/-- A partial state: the steps of `S` are done. -/
structure Part (rs : List Rec) (σ0 : St) (S : Nat → Bool) (σS : St) : Prop where
  look : ∀ x, rho σS.p σS.t x = rhoS S x rs 0 (rho σ0.p σ0.t x)
  mem : EqG σS.H (hS S rs 0 σ0.H)
  exact : (∀ j r, rs[j]? = some r → r.d.tl = true → S j = false) → σS.H = hS S rs 0 σ0.H
  d : σS.d = σ0.d
  u : σS.u = σ0.u

theorem put_H (σ : St) (d : Dst) (v : AV) : (σ.put d v).H = σ.H ∧ (σ.put d v).d = σ.d ∧ (σ.put d v).u = σ.u := by
  cases d <;> exact ⟨rfl, rfl, rfl⟩

theorem Run.quiet_part (R : Run call ops ds rs σ0 σ') (hp : Part rs σ0 S σS) (hc : Closed ops S) {i : Nat} {q : Rec} (hq : rs[i]? = some q) (hSi : S i = false) (hl : q.loud = false) : Part rs σ0 (fun j => S j || decide (j = i)) (σS.put q.d.c.dst q.v) where
  look := fun x => by rw [rho_put, hp.look, R.put hc hq hSi x]
  mem := by rw [(put_H _ _ _).1, hS_quiet_add hq hl]; exact hp.mem
  exact := fun h => by
    rw [(put_H _ _ _).1, hS_quiet_add hq hl]
    exact hp.exact fun j r hr ht => by have := h j r hr ht; simp only [Bool.or_eq_false_iff] at this; exact this.1
  d := by rw [(put_H _ _ _).2.1]; exact hp.d
  u := by rw [(put_H _ _ _).2.2]; exact hp.u

theorem Run.step (R : Run call ops ds rs σ0 σ') (hp : Part rs σ0 S σS) (hc : Closed ops S) {i : Nat} {q : Rec} (hq : rs[i]? = some q) (hSi : S i = false) (hrd : Ready ops S i) :
    (wantedA σS q.d.c.guard = some false ∧ Part rs σ0 (fun j => S j || decide (j = i)) (σS.put q.d.c.dst undefA)) ∨
    (wantedA σS q.d.c.guard = some true ∧ ∃ H', evOp1 call σS q.d.c.op = some (.val q.v H') ∧ Part rs σ0 (fun j => S j || decide (j = i)) (({ σS with H := H' } : St).put q.d.c.dst q.v)) := by
  have hop : ∀ x ∈ q.d.c.all, rho σS.p σS.t x = rho q.σ.p q.σ.t x := fun x hx => by rw [hp.look, R.opd hc hq hSi hrd hx]
  have hops : ∀ x ∈ q.d.c.op.opds, rho σS.p σS.t x = rho q.σ.p q.σ.t x := fun x hx => hop x (by simp only [Cop.all, List.mem_append]; exact .inl hx)
  have hwant : wantedA σS q.d.c.guard = wantedA q.σ q.d.c.guard := by
    cases hg : q.d.c.guard with
    | none => rfl
    | some y =>
      obtain ⟨x, b⟩ := y
      simp only [wantedA]
      rw [hop x (by simp [Cop.all, hg])]
  rcases R.ok hq with ⟨hw, h1, h2, _⟩ | ⟨hw, h1, h2⟩
  · refine .inl ⟨by rw [hwant, h1], ?_⟩
    have := R.quiet_part hp hc hq hSi (by simp [Rec.loud, hw])
    rw [h2] at this; exact this
  · refine .inr ⟨by rw [hwant, h1], ?_⟩
    obtain ⟨k3, ktl⟩ := R.one hq
    by_cases hk0 : kindC q.d.c.op = 0
    · -- no memory asked
      have hev2 : evOp1 call σS q.d.c.op = some (.val q.v σS.H) := by
        cases hp : isP q.d.c.op with
        | true => exact evOp1_pp hp hops h2
        | false =>
          have hev := evOp1_simple (.inl hk0) hp h2
          refine evOp1_of (.inl hk0) ?_
          rw [evOp_congr hops]; exact evOp_pure hk0 hev
      refine ⟨_, hev2, ?_⟩
      refine R.quiet_part (σS := { σS with H := σS.H }) hp hc hq hSi (by simp [Rec.loud, hk0])
    · by_cases hk1 : kindC q.d.c.op = 1
      · have hnt : q.d.tl = false := by
          cases ht : q.d.tl with
          | false => rfl
          | true =>
            have := ktl ht
            cases hx : q.d.c.op <;> rw [hx] at this hk1 <;> simp [isStore, kindC] at this hk1
        obtain ⟨H', hev⟩ := R.read hc hq hSi hrd hw hk1 hnt
        have hev2 : evOp (rho σS.p σS.t) σS.H q.d.c.op = some (q.v, σS.H) := by
          rw [evOp_congr hops]; exact evOp_read hk1 ⟨fun b => (hp.mem.1 b).symm, hp.mem.2.symm⟩ hev
        refine ⟨_, evOp1_of (.inr (.inl hk1)) hev2, ?_⟩
        exact R.quiet_part (σS := { σS with H := σS.H }) hp hc hq hSi (by simp [Rec.loud, hk1])
      · have hk2 : kindC q.d.c.op = 2 := by omega
        have hl : q.loud = true := by simp [Rec.loud, hw, hk2]
        cases hnt : q.d.tl with
        | false =>
          obtain ⟨e1, e2⟩ := R.loud hc hq hSi hrd hl hnt
          have hex : σS.H = hS S rs 0 σ0.H := hp.exact fun j r hr ht => R.no_tail hc hq hSi (by omega) hnt hr ht
          refine ⟨q.H', by rw [evOp1_congr k3 (hex.trans e1) hops]; exact h2, ?_⟩
          exact {
            look := fun x => by rw [rho_put, R.put hc hq hSi x]; exact congrArg _ (hp.look x)
            mem := by rw [(put_H _ _ _).1, e2]; exact EqG.refl _
            exact := fun _ => by rw [(put_H _ _ _).1, e2]
            d := by rw [(put_H _ _ _).2.1]; exact hp.d
            u := by rw [(put_H _ _ _).2.2]; exact hp.u }
        | true =>
          obtain ⟨n, a, x, b, off, u, c, h3, h4, h5, h6, h7, h8, h9, hv, h10⟩ := R.tail hc hq hSi hrd hl hnt
          have hga : σS.H.get b = .cells c .own := by rw [hp.mem.1]; exact h6
          have hev : evOp (rho σS.p σS.t) σS.H q.d.c.op = some (q.v, stE b off u.cells σS.H) := by
            rw [evOp_congr hops, h3]
            simp only [evOp, h4, h5, hga, h7, h8, h9, hv, and_self, if_true, stE]
          refine ⟨_, evOp1_of (.inr (.inr (ktl hnt))) hev, ?_⟩
          exact {
            look := fun x => by rw [rho_put, R.put hc hq hSi x]; exact congrArg _ (hp.look x)
            mem := by rw [(put_H _ _ _).1]; exact (stE_congr hp.mem).trans h10
            exact := fun h => by have := h i q hq hnt; simp at this
            d := by rw [(put_H _ _ _).2.1]; exact hp.d
            u := by rw [(put_H _ _ _).2.2]; exact hp.u }

theorem Run.start : Part rs σ0 (fun _ => false) σ0 where
  look := fun x => by
    have : ∀ (rs : List Rec) (k : Nat) (a : Option AV), rhoS (fun _ => false) x rs k a = a := by
      intro rs
      induction rs with
      | nil => intro k a; rfl
      | cons r rs ih => intro k a; simp only [rhoS, Bool.false_and, cond_false]; exact ih _ _
    exact (this rs 0 _).symm
  mem := by rw [hS_none rs 0 σ0.H fun _ _ _ _ => rfl]; exact EqG.refl _
  exact := fun _ => (hS_none rs 0 σ0.H fun _ _ _ _ => rfl).symm
  d := rfl
  u := rfl

/-- All is done: the canonical run's end. -/
theorem Run.final (R : Run call ops ds rs σ0 σ') (hp : Part rs σ0 S σS) (hall : ∀ j, j < rs.length → S j = true) : (∀ x, rho σ'.p σ'.t x = rho σS.p σS.t x) ∧ EqG σS.H σ'.H ∧ σ'.d = σS.d ∧ σ'.u = σS.u := by
  have hS' : ∀ j r, rs[j]? = some r → S (0 + j) = true := fun j r hr => by rw [Nat.zero_add]; exact hall j (at_lt hr)
  refine ⟨fun x => ?_, ?_, ?_, ?_⟩
  · rw [hp.look, (chain_rho (x := x) rs 0 σ0 σ' R.chain).2]
    exact (rhoS_congr rs 0 _ fun j r hr _ => by rw [hS' j r hr]).symm
  · have e : hS S rs 0 σ0.H = σ'.H := by
      rw [(chain_H rs 0 σ0 σ' R.chain fun r hr => by obtain ⟨k, hk⟩ := List.getElem?_of_mem hr; exact R.one hk).2]
      exact hS_congr rs 0 _ fun j r hr _ => by rw [hS' j r hr]
    rw [← e]; exact hp.mem
  · rw [hp.d]; exact (chain_du rs σ0 σ' R.chain).1
  · rw [hp.u]; exact (chain_du rs σ0 σ' R.chain).2
end
end Go.Ev
