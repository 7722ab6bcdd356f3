/- Several texts of this claim, joined. -/
import Derived.Test.YtibdapopccemeaaGreatDoorT10
import Derived.ProofKit
import Derived.LaidMore
import Derived.Lib.LaidU8
set_option linter.unusedSimpArgs false
set_option linter.unusedVariables false

/- Regions that draw their order: a step from a partial state. -/
namespace Go.Ev
open Go Go.RowKit
theorem rhos_congr {p t p' t' : List (Nat × AV)} : ∀ (l : List Opd), (∀ x ∈ l, rho p t x = rho p' t' x) → rhos p t l = rhos p' t' l
  | [], _ => rfl
  | x :: l, h => by
    simp only [rhos, h x (List.mem_cons_self ..), rhos_congr l fun y hy => h y (List.mem_cons_of_mem _ hy)]
theorem evOp1_congr {call : FuncId → List AV → Heap → Option (End × Heap)} {σ σ' : St} {c : COp} (hk : kindC c < 3) (hH : σ.H = σ'.H) (h : ∀ x ∈ c.opds, rho σ.p σ.t x = rho σ'.p σ'.t x) : evOp1 call σ c = evOp1 call σ' c := by
  have he : evOp (rho σ.p σ.t) σ.H c = evOp (rho σ'.p σ'.t) σ'.H c := by rw [hH]; exact evOp_congr h
  cases c
  case call f l =>
    simp only [evOp1, hH, rhos_congr l h]
  case callP g f l =>
    simp only [evOp1, hH, rhos_congr l h]
  case callV f l =>
    simp only [evOp1, hH, rhos_congr l fun x hx => h x (List.mem_cons_of_mem _ hx), h f (List.mem_cons_self ..)]
  case dfr => simp [kindC] at hk
  case panic => simp [kindC] at hk
  case recover => simp [kindC] at hk
  all_goals simp only [evOp1, he]
theorem evOp1_pp {call : FuncId → List AV → Heap → Option (End × Heap)} {σ σ' : St} {c : COp} {v : AV} {H' : Heap} (hp : isP c = true) (hr : ∀ x ∈ c.opds, rho σ'.p σ'.t x = rho σ.p σ.t x) (h : evOp1 call σ c = some (.val v H')) : evOp1 call σ' c = some (.val v σ'.H) := by
  cases c <;> first | (simp [isP] at hp; done) | skip
  rename_i g f l
  simp only [evOp1] at h ⊢
  rw [rhos_congr l hr]
  split at h
  · split at h
    · rename_i hfl
      split at h
      · rename_i v0 H1 hcc
        split at h
        · rename_i hvf
          simp only [Option.some.injEq, OOut.val.injEq] at h; obtain ⟨rfl, _⟩ := h
          simp only [hfl, hcc, hvf, if_true]
        · cases h
      · cases h
    · cases h
  · cases h
theorem evOp1_of {call : FuncId → List AV → Heap → Option (End × Heap)} {σ : St} {c : COp} {v : AV} {H' : Heap} (hk : kindC c = 0 ∨ kindC c = 1 ∨ isStore c = true) (h : evOp (rho σ.p σ.t) σ.H c = some (v, H')) : evOp1 call σ c = some (.val v H') := by
  cases c <;> first | (rcases hk with hk | hk | hk <;> simp [kindC, isStore] at hk; done) | (simp [evOp] at h; done) | skip
  all_goals simp only [evOp1, h]
theorem evOp_read {ρ : Opd → Option AV} {h k h' : Heap} {c : COp} {v : AV} (hk : kindC c = 1) (he : EqG h k) (h1 : evOp ρ h c = some (v, h')) : evOp ρ k c = some (v, k) := by
  cases c <;> first | (simp [kindC] at hk; done) | skip
  · simp only [evOp] at h1 ⊢
    split at h1
    · rw [← he.1]
      split at h1
      · split at h1
        · rename_i hc; simp only [Option.some.injEq, Prod.mk.injEq] at h1; simp_all
        · cases h1
      · cases h1
    · cases h1
  · simp only [evOp] at h1 ⊢
    split at h1
    · rw [← he.1]
      split at h1
      · split at h1
        · rename_i hc; simp only [Option.some.injEq, Prod.mk.injEq] at h1; simp_all
        · cases h1
      · cases h1
    · cases h1
  · rename_i x
    simp only [evOp] at h1 ⊢
    cases hx : ρ x with
    | none => rw [hx] at h1; cases h1
    | some y =>
      rw [hx] at h1
      simp only at h1 ⊢
      have : readSl k 1 y = readSl h 1 y := by
        unfold readSl
        split <;> first | (rw [he.1]; done) | rfl
      rw [this]
      split at h1
      · simp only [Option.map_eq_some_iff, Prod.mk.injEq] at h1 ⊢
        obtain ⟨x, h2, h3, _⟩ := h1
        exact ⟨x, h2, h3, trivial⟩
      · cases h1
section
variable {call : FuncId → List AV → Heap → Option (End × Heap)} {ops : Array Oper} {rs : List Rec} {S : Nat → Bool} {ds : List DCop} {σ0 σ' σS : St}
/-- A partial state: the steps of `S` are done. -/
structure Part (rs : List Rec) (σ0 : St) (S : Nat → Bool) (σS : St) : Prop where
  look : ∀ x, rho σS.p σS.t x = rhoS S x rs 0 (rho σ0.p σ0.t x)
  mem : EqG σS.H (hS S rs 0 σ0.H)
  exact : (∀ j r, rs[j]? = some r → r.d.tl = true → S j = false) → σS.H = hS S rs 0 σ0.H
  d : σS.d = σ0.d
  u : σS.u = σ0.u
theorem put_H (σ : St) (d : Dst) (v : AV) : (σ.put d v).H = σ.H ∧ (σ.put d v).d = σ.d ∧ (σ.put d v).u = σ.u := by
  cases d <;> exact ⟨rfl, rfl, rfl⟩
theorem Run.quiet_part (R : Run call ops ds rs σ0 σ') (hp : Part rs σ0 S σS) (hc : Closed ops S) {i : Nat} {q : Rec} (hq : rs[i]? = some q) (hSi : S i = false) (hl : q.loud = false) : Part rs σ0 (fun j => S j || decide (j = i)) (σS.put q.d.c.dst q.v) where
  look := fun x => by rw [rho_put, hp.look, R.put hc hq hSi x]
  mem := by rw [(put_H _ _ _).1, hS_quiet_add hq hl]; exact hp.mem
  exact := fun h => by
    rw [(put_H _ _ _).1, hS_quiet_add hq hl]
    exact hp.exact fun j r hr ht => by have := h j r hr ht; simp only [Bool.or_eq_false_iff] at this; exact this.1
  d := by rw [(put_H _ _ _).2.1]; exact hp.d
  u := by rw [(put_H _ _ _).2.2]; exact hp.u
theorem Run.step (R : Run call ops ds rs σ0 σ') (hp : Part rs σ0 S σS) (hc : Closed ops S) {i : Nat} {q : Rec} (hq : rs[i]? = some q) (hSi : S i = false) (hrd : Ready ops S i) :
    (wantedA σS q.d.c.guard = some false ∧ Part rs σ0 (fun j => S j || decide (j = i)) (σS.put q.d.c.dst undefA)) ∨
    (wantedA σS q.d.c.guard = some true ∧ ∃ H', evOp1 call σS q.d.c.op = some (.val q.v H') ∧ Part rs σ0 (fun j => S j || decide (j = i)) (({ σS with H := H' } : St).put q.d.c.dst q.v)) := by
  have hop : ∀ x ∈ q.d.c.all, rho σS.p σS.t x = rho q.σ.p q.σ.t x := fun x hx => by rw [hp.look, R.opd hc hq hSi hrd hx]
  have hops : ∀ x ∈ q.d.c.op.opds, rho σS.p σS.t x = rho q.σ.p q.σ.t x := fun x hx => hop x (by simp only [Cop.all, List.mem_append]; exact .inl hx)
  have hwant : wantedA σS q.d.c.guard = wantedA q.σ q.d.c.guard := by
    cases hg : q.d.c.guard with
    | none => rfl
    | some y =>
      obtain ⟨x, b⟩ := y
      simp only [wantedA]
      rw [hop x (by simp [Cop.all, hg])]
  rcases R.ok hq with ⟨hw, h1, h2, _⟩ | ⟨hw, h1, h2⟩
  · refine .inl ⟨by rw [hwant, h1], ?_⟩
    have := R.quiet_part hp hc hq hSi (by simp [Rec.loud, hw])
    rw [h2] at this; exact this
  · refine .inr ⟨by rw [hwant, h1], ?_⟩
    obtain ⟨k3, ktl⟩ := R.one hq
    by_cases hk0 : kindC q.d.c.op = 0
    · -- no memory asked
      have hev2 : evOp1 call σS q.d.c.op = some (.val q.v σS.H) := by
        cases hp : isP q.d.c.op with
        | true => exact evOp1_pp hp hops h2
        | false =>
          have hev := evOp1_simple (.inl hk0) hp h2
          refine evOp1_of (.inl hk0) ?_
          rw [evOp_congr hops]; exact evOp_pure hk0 hev
      refine ⟨_, hev2, ?_⟩
      refine R.quiet_part (σS := { σS with H := σS.H }) hp hc hq hSi (by simp [Rec.loud, hk0])
    · by_cases hk1 : kindC q.d.c.op = 1
      · have hnt : q.d.tl = false := by
          cases ht : q.d.tl with
          | false => rfl
          | true =>
            have := ktl ht
            cases hx : q.d.c.op <;> rw [hx] at this hk1 <;> simp [isStore, kindC] at this hk1
        obtain ⟨H', hev⟩ := R.read hc hq hSi hrd hw hk1 hnt
        have hev2 : evOp (rho σS.p σS.t) σS.H q.d.c.op = some (q.v, σS.H) := by
          rw [evOp_congr hops]; exact evOp_read hk1 ⟨fun b => (hp.mem.1 b).symm, hp.mem.2.symm⟩ hev
        refine ⟨_, evOp1_of (.inr (.inl hk1)) hev2, ?_⟩
        exact R.quiet_part (σS := { σS with H := σS.H }) hp hc hq hSi (by simp [Rec.loud, hk1])
      · have hk2 : kindC q.d.c.op = 2 := by omega
        have hl : q.loud = true := by simp [Rec.loud, hw, hk2]
        cases hnt : q.d.tl with
        | false =>
          obtain ⟨e1, e2⟩ := R.loud hc hq hSi hrd hl hnt
          have hex : σS.H = hS S rs 0 σ0.H := hp.exact fun j r hr ht => R.no_tail hc hq hSi (by omega) hnt hr ht
          refine ⟨q.H', by rw [evOp1_congr k3 (hex.trans e1) hops]; exact h2, ?_⟩
          exact {
            look := fun x => by rw [rho_put, R.put hc hq hSi x]; exact congrArg _ (hp.look x)
            mem := by rw [(put_H _ _ _).1, e2]; exact EqG.refl _
            exact := fun _ => by rw [(put_H _ _ _).1, e2]
            d := by rw [(put_H _ _ _).2.1]; exact hp.d
            u := by rw [(put_H _ _ _).2.2]; exact hp.u }
        | true =>
          obtain ⟨n, a, x, b, off, u, c, h3, h4, h5, h6, h7, h8, h9, hv, h10⟩ := R.tail hc hq hSi hrd hl hnt
          have hga : σS.H.get b = .cells c .own := by rw [hp.mem.1]; exact h6
          have hev : evOp (rho σS.p σS.t) σS.H q.d.c.op = some (q.v, stE b off u.cells σS.H) := by
            rw [evOp_congr hops, h3]
            simp only [evOp, h4, h5, hga, h7, h8, h9, hv, and_self, if_true, stE]
          refine ⟨_, evOp1_of (.inr (.inr (ktl hnt))) hev, ?_⟩
          exact {
            look := fun x => by rw [rho_put, R.put hc hq hSi x]; exact congrArg _ (hp.look x)
            mem := by rw [(put_H _ _ _).1]; exact (stE_congr hp.mem).trans h10
            exact := fun h => by have := h i q hq hnt; simp at this
            d := by rw [(put_H _ _ _).2.1]; exact hp.d
            u := by rw [(put_H _ _ _).2.2]; exact hp.u }
theorem Run.start : Part rs σ0 (fun _ => false) σ0 where
  look := fun x => by
    have : ∀ (rs : List Rec) (k : Nat) (a : Option AV), rhoS (fun _ => false) x rs k a = a := by
      intro rs
      induction rs with
      | nil => intro k a; rfl
      | cons r rs ih => intro k a; simp only [rhoS, Bool.false_and, cond_false]; exact ih _ _
    exact (this rs 0 _).symm
  mem := by rw [hS_none rs 0 σ0.H fun _ _ _ _ => rfl]; exact EqG.refl _
  exact := fun _ => (hS_none rs 0 σ0.H fun _ _ _ _ => rfl).symm
  d := rfl
  u := rfl
/-- All is done: the canonical run's end. -/
theorem Run.final (R : Run call ops ds rs σ0 σ') (hp : Part rs σ0 S σS) (hall : ∀ j, j < rs.length → S j = true) : (∀ x, rho σ'.p σ'.t x = rho σS.p σS.t x) ∧ EqG σS.H σ'.H ∧ σ'.d = σS.d ∧ σ'.u = σS.u := by
  have hS' : ∀ j r, rs[j]? = some r → S (0 + j) = true := fun j r hr => by rw [Nat.zero_add]; exact hall j (at_lt hr)
  refine ⟨fun x => ?_, ?_, ?_, ?_⟩
  · rw [hp.look, (chain_rho (x := x) rs 0 σ0 σ' R.chain).2]
    exact (rhoS_congr rs 0 _ fun j r hr _ => by rw [hS' j r hr]).symm
  · have e : hS S rs 0 σ0.H = σ'.H := by
      rw [(chain_H rs 0 σ0 σ' R.chain fun r hr => by obtain ⟨k, hk⟩ := List.getElem?_of_mem hr; exact R.one hk).2]
      exact hS_congr rs 0 _ fun j r hr _ => by rw [hS' j r hr]
    rw [← e]; exact hp.mem
  · rw [hp.d]; exact (chain_du rs σ0 σ' R.chain).1
  · rw [hp.u]; exact (chain_du rs σ0 σ' R.chain).2
end
end Go.Ev
/- Regions that draw their order: every order comes to what the text's order comes to. -/
namespace Go.Ev
open Go Go.RowKit
def cnt (S : Nat → Bool) : Nat → Nat
  | 0 => 0
  | n + 1 => cnt S n + (if S n then 0 else 1)
theorem cnt_congr {S S' : Nat → Bool} : ∀ (n : Nat), (∀ j, j < n → S j = S' j) → cnt S n = cnt S' n
  | 0, _ => rfl
  | n + 1, h => by simp only [cnt, cnt_congr n fun j hj => h j (by omega), h n (by omega)]
theorem cnt_add {S : Nat → Bool} {i : Nat} (hi : S i = false) : ∀ (n : Nat), i < n → cnt (fun j => S j || decide (j = i)) n + 1 = cnt S n
  | 0, h => by omega
  | n + 1, h => by
    simp only [cnt]
    by_cases e : i = n
    · subst e
      rw [cnt_congr (S := fun j => S j || decide (j = i)) (S' := S) i fun j hj => by simp [show j ≠ i by omega]]
      simp [hi]
    · have := cnt_add hi n (by omega)
      have h2 : (S n || decide (n = i)) = S n := by simp [show n ≠ i by omega]
      simp only [h2]; omega
theorem cnt_zero {S : Nat → Bool} : ∀ (n : Nat), cnt S n = 0 → ∀ j, j < n → S j = true
  | 0, _, j, h => by omega
  | n + 1, h, j, hj => by
    simp only [cnt] at h
    by_cases e : j = n
    · subst e
      cases hS : S j with
      | true => rfl
      | false => rw [hS] at h; simp at h
    · exact cnt_zero n (by omega) j (by omega)
theorem cnt_le {S : Nat → Bool} : ∀ (n : Nat), cnt S n ≤ n
  | 0 => Nat.le_refl _
  | n + 1 => by simp only [cnt]; have := cnt_le (S := S) n; split <;> omega
/-- The first that is not done is ready. -/
theorem first_ready {ops : Array Oper} {S : Nat → Bool} (hlt : ∀ (j : Nat) (o : Oper) (e : Edge), ops[j]? = some o → e ∈ o.after → Region.binds .any e = true → e.on < j) : ∀ (n : Nat), (∃ j, j < n ∧ S j = false) → ∃ j, j < n ∧ S j = false ∧ Ready ops S j
  | 0, h => by obtain ⟨j, h, _⟩ := h; omega
  | n + 1, h => by
    by_cases hn : ∃ j, j < n ∧ S j = false
    · obtain ⟨j, h1, h2, h3⟩ := first_ready hlt n hn
      exact ⟨j, by omega, h2, h3⟩
    · obtain ⟨j, h1, h2⟩ := h
      have hj : j = n := by
        by_cases e : j = n
        · exact e
        · exact absurd ⟨j, by omega, h2⟩ hn
      subst hj
      refine ⟨j, h1, h2, fun o e ho he hb => ?_⟩
      cases hS : S e.on with
      | true => rfl
      | false => exact absurd ⟨e.on, hlt j o e ho he hb, hS⟩ hn
theorem Env.congr {X : Cx} {ι : Plan} {p t p' t' : List (Nat × AV)} {tmps : Array Value} (h : Env X ι p t tmps) (he : ∀ x, rho p' t' x = rho p t x) : Env X ι p' t' tmps where
  fp := fun i v hv => h.fp i v (by have := he (.p i); simp only [rho] at this; rw [← this]; exact hv)
  ft := fun i v hv => h.ft i v (by have := he (.t i); simp only [rho] at this; rw [← this]; exact hv)
  fg := h.fg
  pk := fun i v hv => h.pk i v (by have := he (.p i); simp only [rho] at this; rw [← this]; exact hv)
  tk := fun i v hv => h.tk i v (by have := he (.t i); simp only [rho] at this; rw [← this]; exact hv)
theorem Rel.congrG {B : Nat} {ι : Plan} {H K : Heap} {w : World} (h : Rel B ι H w) (he : EqG H K) : Rel B ι K w where
  dom := fun b L hb => by rw [← he.2]; exact h.dom b L hb
  live := fun b c u hg => h.live b c u (by rw [he.1]; exact hg)
  own := fun b c L hg => h.own b c L (by rw [he.1]; exact hg)
  iter := fun b s p hg => h.iter b s p (by rw [he.1]; exact hg)
  nomap := fun b es hg => h.nomap b es (by rw [he.1]; exact hg)
  inj := fun b b' L L' hne ho hd => h.inj b b' L L' hne (by unfold Owned at *; simpa only [he.1] using ho) (by rw [he.1]; exact hd)
  size := h.size
theorem SR.congr {X : Cx} {B : Nat} {κ : CallKind} {cs0 cs : List Frame} {ι : Plan} {σ σ' : St} {a : Act} {w : World} (h : SR X B κ cs0 ι σ a cs w) (h1 : ∀ x, rho σ'.p σ'.t x = rho σ.p σ.t x) (h2 : EqG σ.H σ'.H) (h3 : σ'.d = σ.d) (h4 : σ'.u = σ.u) : SR X B κ cs0 ι σ' a cs w :=
  ⟨h.env.congr h1, h.size, h.rel.congrG h2, by rw [h3]; exact h.dfr, by rw [h4]; exact h.up⟩
theorem chkOps_at {X : Cx} {ops : Array Oper} : ∀ (l : List Oper) (cl : List Cop), chkOps X ops l cl = true → ∀ (i : Nat) (o : Oper) (c : Cop), l[i]? = some o → cl[i]? = some c → chkCop X ops o c = true
  | [], [], _, i, o, c, h, _ => by simp at h
  | [], _ :: _, h, _, _, _, _, _ => by simp [chkOps] at h
  | _ :: _, [], h, _, _, _, _, _ => by simp [chkOps] at h
  | o0 :: l, c0 :: cl, h, i, o, c, ho, hc => by
    simp only [chkOps, Bool.and_eq_true] at h
    cases i with
    | zero => simp only [List.getElem?_cons_zero, Option.some.injEq] at ho hc; subst ho; subst hc; exact h.1
    | succ i => simp only [List.getElem?_cons_succ] at ho hc; exact chkOps_at l cl h.2 i o c ho hc
section
variable {X : Cx} {B : Nat} {κ : CallKind} {cs0 : List Frame} {call : FuncId → List AV → Heap → Option (End × Heap)} {ops : Array Oper} {rs : List Rec} {ds : List DCop} {σ0 σ' : St}
theorem Run.go (R : Run call ops ds rs σ0 σ') (hcall : CallOK X.P B call) (hchk : ∀ (i : Nat) (o : Oper) (d : DCop), ops[i]? = some o → ds[i]? = some d → chkCop X ops o d.c = true) (b : Frame) (k : List Item) (hb : b.kind = κ) :
    ∀ (fuel t : Nat) (listed : Array Bool) (σS : St) (a : Act) (cs : List Frame) (w : World) (ι : Plan), listed.size = ops.size → Closed ops (fun j => listed.getD j false) → cnt (fun j => listed.getD j false) ops.size ≤ fuel → Part rs σ0 (fun j => listed.getD j false) σS → SR X B κ cs0 ι σS a cs w →
    Comes2 X B κ cs0 ι w (lone (b.at a (.inRegion ops (Region.linearise.go .any ops fuel t listed []) :: k)) cs w) b k .normal σ' := by
  have hlen : rs.length = ops.size := by rw [← R.stat.size, ← R.hds, List.length_map]
  have stop : ∀ (listed : Array Bool) (σS : St) (a : Act) (cs : List Frame) (w : World) (ι : Plan), (∀ j, j < ops.size → listed.getD j false = true) → Part rs σ0 (fun j => listed.getD j false) σS → SR X B κ cs0 ι σS a cs w →
      Comes2 X B κ cs0 ι w (lone (b.at a (.inRegion ops [] :: k)) cs w) b k .normal σ' := by
    intro listed σS a cs w ι hall hp h
    obtain ⟨h1, h2, h3, h4⟩ := R.final hp fun j hj => hall j (by omega)
    exact ⟨ι, .normal, a, cs, w, ι.le_refl, Below.refl _ _, h.congr h1 h2 h3 h4, rfl, .one step_region_end⟩
  intro fuel
  induction fuel with
  | zero =>
    intro t listed σS a cs w ι hsz hc hcnt hp h
    exact stop listed σS a cs w ι (cnt_zero ops.size (by omega)) hp h
  | succ fuel ih =>
    intro t listed σS a cs w ι hsz hc hcnt hp h
    simp only [Region.linearise.go]
    change Comes2 X B κ cs0 ι w (lone (b.at a (.inRegion ops (match (Region.ready .any ops listed)[t % (Region.ready .any ops listed).length]? with
      | some i => Region.linearise.go .any ops fuel (t / (Region.ready .any ops listed).length) (listed.setIfInBounds i true) [i]
      | none => [].reverse) :: k)) cs w) b k .normal σ'
    have hmem : ∀ i, i ∈ Region.ready .any ops listed ↔ i < ops.size ∧ listed.getD i true = false ∧ ∀ o, ops[i]? = some o → ∀ e ∈ o.after, Region.binds .any e = true → listed.getD e.on false = true := by
      intro i
      simp only [Region.ready, List.mem_filter, List.mem_range, Bool.and_eq_true, Bool.not_eq_true']
      constructor
      · rintro ⟨h1, h2, h3⟩
        refine ⟨h1, h2, fun o ho e he hb => ?_⟩
        rw [ho] at h3
        simp only [Option.map_some, Option.getD_some, Array.all_eq_true_iff_forall_mem] at h3
        have := h3 e he
        rw [hb] at this; simpa using this
      · rintro ⟨h1, h2, h3⟩
        refine ⟨h1, h2, ?_⟩
        obtain ⟨o, ho⟩ : ∃ o, ops[i]? = some o := ⟨ops[i], by rw [Array.getElem?_eq_getElem h1]⟩
        rw [ho]
        simp only [Option.map_some, Option.getD_some, Array.all_eq_true_iff_forall_mem]
        intro e he
        cases hb : Region.binds .any e with
        | false => rfl
        | true => simp [h3 o ho e he hb]
    have hgt : ∀ i, i < ops.size → listed.getD i true = listed.getD i false := by
      intro i hi
      simp only [Array.getD_eq_getD_getElem?]
      rw [Array.getElem?_eq_getElem (by omega)]
      rfl
    cases hi : (Region.ready .any ops listed)[t % (Region.ready .any ops listed).length]? with
    | none =>
      have hnil : Region.ready .any ops listed = [] := by
        cases hr : Region.ready .any ops listed with
        | nil => rfl
        | cons x xs =>
          rw [hr] at hi
          have hlt : t % (x :: xs).length < (x :: xs).length := Nat.mod_lt _ (by simp)
          simp at hi
          simp at hlt
          omega
      refine stop listed σS a cs w ι (fun j hj => ?_) hp h
      cases hS : listed.getD j false with
      | true => rfl
      | false =>
        obtain ⟨j', h1, h2, h3⟩ := first_ready (S := fun j => listed.getD j false) R.stat.lt ops.size ⟨j, hj, hS⟩
        have : j' ∈ Region.ready .any ops listed := (hmem j').2 ⟨h1, by rw [hgt j' h1]; exact h2, fun o ho e he hb => h3 o e ho he hb⟩
        rw [hnil] at this; cases this
    | some i =>
      simp only []
      rw [linearise_go_acc, List.reverse_singleton, List.singleton_append]
      obtain ⟨h1, h2, h3⟩ := (hmem i).1 (List.mem_of_getElem? hi)
      have hSi : listed.getD i false = false := by rw [← hgt i h1]; exact h2
      have hrd : Ready ops (fun j => listed.getD j false) i := fun o e ho he hb => h3 o ho e he hb
      obtain ⟨q, hq⟩ := rec_at (rs := rs) (j := i) (by omega)
      obtain ⟨o, ho⟩ : ∃ o, ops[i]? = some o := ⟨ops[i], by rw [Array.getElem?_eq_getElem h1]⟩
      have hcop := hchk i o q.d ho (R.d hq)
      have hcp := hcop
      simp only [chkCop, Bool.and_eq_true] at hcp
      have hS' : (fun j => (listed.setIfInBounds i true).getD j false) = fun j => listed.getD j false || decide (j = i) := by
        funext j
        simp only [Array.getD_eq_getD_getElem?, Array.getElem?_setIfInBounds]
        by_cases e : i = j
        · subst e; simp [hsz, h1]
        · rw [if_neg e]; simp [Ne.symm e]
      have hc' : Closed ops (fun j => (listed.setIfInBounds i true).getD j false) := by
        rw [hS']
        intro j o' e hj ho' he hb
        simp only [Bool.or_eq_true, decide_eq_true_eq] at hj ⊢
        rcases hj with hj | hj
        · exact .inl (hc j o' e hj ho' he hb)
        · subst hj; exact .inl (hrd o' e ho' he hb)
      have hcnt' : cnt (fun j => (listed.setIfInBounds i true).getD j false) ops.size ≤ fuel := by
        rw [hS']
        have := cnt_add (S := fun j => listed.getD j false) hSi ops.size h1
        omega
      have hsz' : (listed.setIfInBounds i true).size = ops.size := by rw [Array.size_setIfInBounds]; exact hsz
      rcases R.step hp hc hq hSi hrd with ⟨hw, hp'⟩ | ⟨hw, H', hev, hp'⟩
      · have hwant := guard_sound h.env h.size hcp.2 hw
        have hs := step_op_skip (P := X.P) (b := b) (a := a) (k := k) (cs := cs) (w := w) (ops := ops) (i := i) (rest := Region.linearise.go .any ops fuel (t / (Region.ready .any ops listed).length) (listed.setIfInBounds i true) []) (by simp [ho, hwant])
        simp only [ho, Option.bind_some] at hs
        rw [← hS'] at hp'
        exact .of_steps (.one hs) ι.le_refl (Below.refl _ _) (ih _ _ _ _ cs w ι hsz' hc' hcnt' hp' (h.put hcp.1.1 (VR.undef ι)))
      · have hwant := guard_sound h.env h.size hcp.2 hw
        obtain ⟨ι1, a1, w1, g1, g2, g3, g4⟩ := op_step (rest := Region.linearise.go .any ops fuel (t / (Region.ready .any ops listed).length) (listed.setIfInBounds i true) []) hcall h ho hwant hcop hev b k hb
        rw [← hS'] at hp'
        exact .of_steps g3 g1 g2 (ih _ _ _ a1 cs w1 ι1 hsz' hc' hcnt' hp' g4)
end
/-! ## The checker -/
def bef1 (acc : List Nat) (l : List Edge) : Nat := l.foldl (fun s e => cond (Region.binds .any e) (s ||| 2 ^ e.on ||| acc.getD e.on 0) s) 0
def befs : List Oper → List Nat → List Nat
  | [], acc => acc
  | o :: l, acc => befs l (acc ++ [bef1 acc o.after.toList])
def chkAfter : List Oper → Nat → Bool
  | [], _ => true
  | o :: l, j => o.after.toList.all (fun e => !Region.binds .any e || Nat.blt e.on j) && chkAfter l (j + 1)
def pairOK (bits i : Nat) (d d' : DCop) : Bool :=
  let r := bits.testBit i
  let k := kindC d.c.op
  let k' := kindC d'.c.op
  (r || (!conf d.c d'.c && (k == 0 || k' == 0 || (k == 1 && k' == 1) || (d'.u.contains i && ((k == 1 && k' == 2 && !d.tl && !d'.tl) || (k == 2 && !d.tl && k' == 1 && !d'.tl) || (d.tl && d'.tl)))))) &&
  (!d'.tl || k == 0 || d.tl || r) && (!d.tl || k' == 0 || d'.tl)
def chkP (i : Nat) (d : DCop) : List DCop → List Nat → Bool
  | [], _ => true
  | d' :: l, b :: bs => pairOK b i d d' && chkP i d l bs
  | _ :: _, [] => false
def chkPs : List DCop → List Nat → Nat → Bool
  | [], _, _ => true
  | d :: l, _ :: bs, i => chkP i d l bs && chkPs l bs (i + 1)
  | _ :: _, [], _ => false
def chkDrawn (X : Cx) (ops : Array Oper) (dl : List DCop) : Bool :=
  X.P.follows .mixedOrders && chkOps X ops ops.toList (dl.map (·.c)) && chkAfter ops.toList 0 && dl.length == ops.size && dl.all (fun d => Nat.blt (kindC d.c.op) 3 && (!d.tl || isStore d.c.op)) && chkPs dl (befs ops.toList []) 0
theorem bef1_spec {acc : List Nat} {i : Nat} : ∀ (l : List Edge) (s : Nat), (l.foldl (fun s e => cond (Region.binds .any e) (s ||| 2 ^ e.on ||| acc.getD e.on 0) s) s).testBit i = true → s.testBit i = true ∨ ∃ e ∈ l, Region.binds .any e = true ∧ (i = e.on ∨ (acc.getD e.on 0).testBit i = true)
  | [], s, h => .inl h
  | e :: l, s, h => by
    simp only [List.foldl_cons] at h
    rcases bef1_spec l _ h with h1 | ⟨e', h1, h2⟩
    · cases hb : Region.binds .any e with
      | false => rw [hb] at h1; exact .inl h1
      | true =>
        rw [hb] at h1
        simp only [cond_true, Nat.testBit_or, Bool.or_eq_true, Nat.testBit_two_pow, decide_eq_true_eq] at h1
        rcases h1 with (h1 | h1) | h1
        · exact .inl h1
        · exact .inr ⟨e, List.mem_cons_self .., hb, .inl h1.symm⟩
        · exact .inr ⟨e, List.mem_cons_self .., hb, .inr h1⟩
    · exact .inr ⟨e', List.mem_cons_of_mem _ h1, h2⟩
theorem befs_spec {ops : Array Oper} : ∀ (l : List Oper) (acc : List Nat), (∀ j, l[j]? = ops[acc.length + j]?) → (∀ j b i, acc[j]? = some b → b.testBit i = true → Reach ops i j) → ∀ j b i, (befs l acc)[j]? = some b → b.testBit i = true → Reach ops i j
  | [], acc, _, h => h
  | o :: l, acc, hl, h => by
    have ho : ops[acc.length]? = some o := by have := hl 0; simpa using this.symm
    refine befs_spec l _ (fun j => ?_) ?_
    · have := hl (j + 1); rw [List.length_append, List.length_singleton, Nat.add_assoc, Nat.add_comm 1 j]; simpa using this
    · intro j b i hj hb
      rw [List.getElem?_append] at hj
      split at hj
      · exact h j b i hj hb
      · have hj2 : j - acc.length = 0 := by
          cases hx : j - acc.length with
          | zero => rfl
          | succ n => rw [hx] at hj; simp at hj
        rw [hj2] at hj
        simp only [List.getElem?_cons_zero, Option.some.injEq] at hj
        subst hj
        have hje : j = acc.length := by omega
        subst hje
        rcases bef1_spec o.after.toList 0 hb with h0 | ⟨e, he, hbe, h1⟩
        · simp at h0
        · rcases h1 with h1 | h1
          · subst h1; exact .edge ho (by simpa using he) hbe
          · have : ∃ b, acc[e.on]? = some b ∧ b.testBit i = true := by
              rw [List.getD_eq_getElem?_getD] at h1
              cases hx : acc[e.on]? with
              | none => rw [hx] at h1; simp at h1
              | some b => rw [hx] at h1; exact ⟨b, rfl, h1⟩
            obtain ⟨b, hb1, hb2⟩ := this
            exact .trans (h _ _ _ hb1 hb2) ho (by simpa using he) hbe
theorem chkAfter_spec : ∀ (l : List Oper) (k : Nat), chkAfter l k = true → ∀ (j : Nat) (o : Oper) (e : Edge), l[j]? = some o → e ∈ o.after → Region.binds .any e = true → e.on < k + j
  | [], _, _, j, o, e, h, _, _ => by simp at h
  | o0 :: l, k, h, j, o, e, hj, he, hb => by
    simp only [chkAfter, Bool.and_eq_true, List.all_eq_true] at h
    cases j with
    | zero =>
      simp only [List.getElem?_cons_zero, Option.some.injEq] at hj; subst hj
      have := h.1 e (by simpa using he)
      rw [hb] at this
      simpa [Nat.blt_eq] using this
    | succ j =>
      simp only [List.getElem?_cons_succ] at hj
      have := chkAfter_spec l (k + 1) h.2 j o e hj he hb
      omega
theorem chkP_spec {i : Nat} {d : DCop} : ∀ (l : List DCop) (bs : List Nat), chkP i d l bs = true → ∀ (m : Nat) (d' : DCop), l[m]? = some d' → ∃ b, bs[m]? = some b ∧ pairOK b i d d' = true
  | [], _, _, m, d', h => by simp at h
  | _ :: _, [], h, _, _, _ => by simp [chkP] at h
  | d0 :: l, b :: bs, h, m, d', hm => by
    simp only [chkP, Bool.and_eq_true] at h
    cases m with
    | zero => simp only [List.getElem?_cons_zero, Option.some.injEq] at hm; subst hm; exact ⟨b, rfl, h.1⟩
    | succ m => simp only [List.getElem?_cons_succ] at hm ⊢; exact chkP_spec l bs h.2 m d' hm
theorem chkPs_spec : ∀ (l : List DCop) (bs : List Nat) (k : Nat), chkPs l bs k = true → ∀ (i j : Nat) (d d' : DCop), i < j → l[i]? = some d → l[j]? = some d' → ∃ b, bs[j]? = some b ∧ pairOK b (k + i) d d' = true
  | [], _, _, _, i, _, _, _, _, h, _ => by simp at h
  | _ :: _, [], _, h, _, _, _, _, _, _, _ => by simp [chkPs] at h
  | d0 :: l, b0 :: bs, k, h, i, j, d, d', hlt, hi, hj => by
    simp only [chkPs, Bool.and_eq_true] at h
    cases j with
    | zero => omega
    | succ j =>
      simp only [List.getElem?_cons_succ] at hj ⊢
      cases i with
      | zero =>
        simp only [List.getElem?_cons_zero, Option.some.injEq] at hi; subst hi
        exact chkP_spec l bs h.1 j d' hj
      | succ i =>
        simp only [List.getElem?_cons_succ] at hi
        have := chkPs_spec l bs (k + 1) h.2 i j d d' (by omega) hi hj
        rw [show k + (i + 1) = k + 1 + i by omega]; exact this
theorem chkDrawn_stat {X : Cx} {ops : Array Oper} {dl : List DCop} (h : chkDrawn X ops dl = true) : Stat ops dl := by
  simp only [chkDrawn, Bool.and_eq_true, beq_iff_eq] at h
  obtain ⟨⟨⟨⟨⟨_, _⟩, h3⟩, h4⟩, h5⟩, h6⟩ := h
  have hb := befs_spec (ops := ops) ops.toList [] (fun j => by simp) (fun j b i hj => by simp at hj)
  have hp : ∀ (i j : Nat) (d d' : DCop), i < j → dl[i]? = some d → dl[j]? = some d' → ∃ b, pairOK b i d d' = true ∧ (b.testBit i = true → Reach ops i j) := by
    intro i j d d' hlt hi hj
    obtain ⟨b, h1, h2⟩ := chkPs_spec dl _ 0 h6 i j d d' hlt hi hj
    rw [Nat.zero_add] at h2
    exact ⟨b, h2, hb j b i h1⟩
  refine ⟨?_, h4, ?_, ?_, ?_, ?_⟩
  · intro j o e hj he hbd
    have := chkAfter_spec ops.toList 0 h3 j o e (by simpa using hj) he hbd
    omega
  · intro j d hj
    have := (List.all_eq_true.1 h5) d (List.mem_of_getElem? hj)
    simp only [Bool.and_eq_true, Nat.blt_eq, Bool.or_eq_true, Bool.not_eq_true'] at this
    refine ⟨this.1, fun ht => ?_⟩
    rcases this.2 with h | h
    · rw [ht] at h; cases h
    · exact h
  · intro i j d d' hlt hi hj
    obtain ⟨b, h1, h2⟩ := hp i j d d' hlt hi hj
    simp only [pairOK, Bool.and_eq_true, Bool.or_eq_true, Bool.not_eq_true', beq_iff_eq, List.contains_iff_mem] at h1
    rcases h1.1.1 with h | ⟨h, h'⟩
    · exact .inl (h2 h)
    · refine .inr ⟨h, ?_⟩
      rcases h' with ((h' | h') | h') | ⟨hu, h'⟩
      · exact .inl h'
      · exact .inr (.inl h')
      · exact .inr (.inr (.inl h'))
      · refine .inr (.inr (.inr ⟨hu, ?_⟩))
        rcases h' with (⟨⟨⟨a1, a2⟩, a3⟩, a4⟩ | ⟨⟨⟨a1, a2⟩, a3⟩, a4⟩) | h'
        · exact .inl ⟨a1, a2, a3, a4⟩
        · exact .inr (.inl ⟨a1, a2, a3, a4⟩)
        · exact .inr (.inr h')
  · intro i j d d' hlt hi hj ht hk hnt
    obtain ⟨b, h1, h2⟩ := hp i j d d' hlt hi hj
    simp only [pairOK, Bool.and_eq_true, Bool.or_eq_true, Bool.not_eq_true', beq_iff_eq] at h1
    rcases h1.1.2 with ((h | h) | h) | h
    · rw [ht] at h; cases h
    · exact absurd h hk
    · rw [hnt] at h; cases h
    · exact h2 h
  · intro i j d d' hlt hi hj ht
    obtain ⟨b, h1, h2⟩ := hp i j d d' hlt hi hj
    simp only [pairOK, Bool.and_eq_true, Bool.or_eq_true, Bool.not_eq_true', beq_iff_eq] at h1
    rcases h1.2 with (h | h) | h
    · rw [ht] at h; cases h
    · exact .inl h
    · exact .inr h
theorem drawn_all (P : Program) (B : Nat) : DrawnAll P B chkDrawn := by
  intro X call hX hcall ops cl id hchk κ cs0 ι σ σ' a cs w ctl h hev b k hb
  subst hX
  obtain ⟨rfl, rs, h1, h2, h3⟩ := evOpsD_recs cl 0 [] _ σ' ctl hev
  have R : Run call ops cl rs { σ with t := [] } σ' := by
    refine ⟨h1, chkDrawn_stat hchk, h2, fun j r hr hw i hi => ?_⟩
    obtain ⟨e, he, hcase⟩ := h3 j r hr hw i hi
    rcases hcase with ⟨_, q, hq, hlt, rfl⟩ | hlk
    · exact ⟨q, by simpa using hq, by omega, he⟩
    · simp [lkL] at hlk
  have hc2 := hchk
  simp only [chkDrawn, Bool.and_eq_true] at hc2
  have hm : X.P.follows .mixedOrders = true := hc2.1.1.1.1.1
  have hops : ∀ (i : Nat) (o : Oper) (d : DCop), ops[i]? = some o → cl[i]? = some d → chkCop X ops o d.c = true := fun i o d ho hd =>
    chkOps_at ops.toList _ hc2.1.1.1.1.2 i o d.c (by simpa using ho) (by rw [List.getElem?_map, hd]; rfl)
  have hsch : Region.schedule (X.P.follows .mixedOrders) ops (w.tape w.drawn (.order b.fn id)) = Region.linearise.go .any ops ops.size (w.tape w.drawn (.order b.fn id)) (Array.replicate ops.size false) [] := by
    simp only [Region.schedule, hm, Bool.true_or, if_true]; rfl
  have hS0 : (fun j => (Array.replicate ops.size false).getD j false) = fun _ => false := by
    funext j
    simp only [Array.getD_eq_getD_getElem?, Array.getElem?_replicate]
    split <;> rfl
  have h0 := h.fresh
  have hw : SR X B κ cs0 ι { σ with t := [] } a cs { w with drawn := w.drawn + 1 } := ⟨h0.env, h0.size, ⟨h0.rel.dom, h0.rel.live, h0.rel.own, h0.rel.iter, h0.rel.nomap, h0.rel.inj, h0.rel.size⟩, h0.dfr, h0.up⟩
  have hB : Below B w { w with drawn := w.drawn + 1 } := ⟨rfl, rfl, rfl, Nat.le_refl _, fun _ _ => rfl⟩
  refine .of_steps (.one step_region_draw) ι.le_refl hB ?_
  rw [hsch]
  refine R.go hcall hops b k hb ops.size _ _ _ a cs _ ι (by simp) (by rw [hS0]; intro j o e hj; cases hj) (cnt_le _) (by rw [hS0]; exact Run.start) hw
end Go.Ev
/- Package-level variables that a row lists: what they read as, in the abstract memory. -/
namespace Go.Ev
open Go Go.RowKit
def flatFs (P : Program) (rd : TypeId → DataW Unit → Option (List AV)) : List Field → List (DataW Unit) → Nat → Option (List AV)
  | [], [], _ => some []
  | f :: fs, d :: l, off => if f.offset = off then (rd f.type d).bind fun r => if r.length = P.cellsOf f.type then (flatFs P rd fs l (off + r.length)).map (r ++ ·) else none else none
  | _, _, _ => none
def flatEs (rd : TypeId → DataW Unit → Option (List AV)) (e : TypeId) (k : Nat) : List (DataW Unit) → Option (List AV)
  | [] => some []
  | d :: l => (rd e d).bind fun r => if r.length = k then (flatEs rd e k l).map (r ++ ·) else none
def flatD (P : Program) : Nat → TypeId → DataW Unit → Option (List AV)
  | 0, _, _ => none
  | n + 1, t, d => match P.underlying t, d with
    | some .bool, .lit (.bool b) => some [.bool b]
    | some (.int k), .lit (.int k' z) => if k' = k then some [.int k z] else none
    | some .string, .lit (.string bs) => some [.str bs]
    | some (.struct fs), .agg l => (flatFs P (flatD P n) fs.toList l 0).bind fun r => if r.length = P.cellsOf t then some r else none
    | some (.array _ e), .agg l => (flatEs (flatD P n) e (P.cellsOf e) l).bind fun r => if r.length = P.cellsOf t then some r else none
    | _, _ => none
theorem mapM_cons_some {α β : Type} {f : α → Option β} {x : α} {l : List α} {ys : List β} (h : (x :: l).mapM f = some ys) : ∃ y ys', f x = some y ∧ l.mapM f = some ys' ∧ ys = y :: ys' := by
  rw [List.mapM_cons] at h
  cases hx : f x with
  | none => rw [hx] at h; cases h
  | some y =>
    rw [hx] at h
    cases hl : l.mapM f with
    | none => rw [hl] at h; cases h
    | some ys' => rw [hl] at h; injection h with h; exact ⟨y, ys', rfl, rfl, h.symm⟩
theorem mapM_nil_some {α β : Type} {f : α → Option β} {ys : List β} (h : ([] : List α).mapM f = some ys) : ys = [] := by
  rw [List.mapM_nil] at h; injection h with h; exact h.symm
section
variable {P : Program} {w : World} {base : Nat} {sp : Nat → Bool} {held : Bool} {ι : Plan} {rd : TypeId → DataW Unit → Option (List AV)} {fuel : Nat}
theorem flatFs_sound (hrd : ∀ t d avs cs ps, DataW.trod (fun _ => ()) P w base sp held fuel t cs = some (d, ps) → rd t d = some avs → VRs ι avs cs) {cs : List Value} : ∀ (fs : List Field) (xs : List (DataW Unit × List MemPlace)) (off : Nat) (r : List AV),
    fs.mapM (fun f => DataW.trod (fun _ => ()) P w base sp held fuel f.type ((cs.drop f.offset).take (P.cellsOf f.type))) = some xs → flatFs P rd fs (xs.map (·.1)) off = some r → VRs ι r ((cs.drop off).take r.length)
  | [], xs, off, r, h1, h2 => by
    have := mapM_nil_some h1; subst this
    simp only [List.map_nil, flatFs, Option.some.injEq] at h2
    subst h2; simp [VRs]
  | f :: fs, xs, off, r, h1, h2 => by
    obtain ⟨y, ys, e1, e2, rfl⟩ := mapM_cons_some h1
    simp only [List.map_cons, flatFs] at h2
    split at h2
    · rename_i ho
      subst ho
      cases hr : rd f.type y.1 with
      | none => rw [hr] at h2; cases h2
      | some r1 =>
        rw [hr] at h2
        simp only [Option.bind_some] at h2
        split at h2
        · rename_i hl
          obtain ⟨r2, hr2, rfl⟩ := Option.map_eq_some_iff.1 h2
          have ih := flatFs_sound hrd fs ys _ r2 e2 hr2
          have h0 := hrd f.type y.1 r1 _ y.2 e1 hr
          have := h0.append ih
          rw [List.length_append, List.take_add, ← hl, List.drop_drop] at *
          exact this
        · cases h2
    · cases h2
theorem flatEs_sound (hrd : ∀ t d avs cs ps, DataW.trod (fun _ => ()) P w base sp held fuel t cs = some (d, ps) → rd t d = some avs → VRs ι avs cs) {cs : List Value} {e : TypeId} {k : Nat} : ∀ (m s : Nat) (xs : List (DataW Unit × List MemPlace)) (r : List AV),
    (List.range' s m).mapM (fun i => DataW.trod (fun _ => ()) P w base sp held fuel e ((cs.drop (i * k)).take k)) = some xs → flatEs rd e k (xs.map (·.1)) = some r → VRs ι r ((cs.drop (s * k)).take r.length)
  | 0, s, xs, r, h1, h2 => by
    have := mapM_nil_some h1; subst this
    simp only [List.map_nil, flatEs, Option.some.injEq] at h2
    subst h2; simp [VRs]
  | m + 1, s, xs, r, h1, h2 => by
    rw [List.range'_succ] at h1
    obtain ⟨y, ys, e1, e2, rfl⟩ := mapM_cons_some h1
    simp only [List.map_cons, flatEs] at h2
    cases hr : rd e y.1 with
    | none => rw [hr] at h2; cases h2
    | some r1 =>
      rw [hr] at h2
      simp only [Option.bind_some] at h2
      split at h2
      · rename_i hl
        obtain ⟨r2, hr2, rfl⟩ := Option.map_eq_some_iff.1 h2
        have ih := flatEs_sound hrd m (s + 1) ys r2 e2 hr2
        have h0 := hrd e y.1 r1 _ y.2 e1 hr
        have h3 := h0.append ih
        rw [List.length_append, List.take_add, List.drop_drop, hl]
        rw [show s * k + k = (s + 1) * k by rw [Nat.add_mul, Nat.one_mul]]
        exact h3
      · cases h2
theorem take_all {α : Type} {l : List α} {n : Nat} (h : (l.take n).length = l.length) : l.take n = l := by
  rw [List.length_take] at h
  exact List.take_of_length_le (by omega)
theorem flatD_sound : ∀ (n fuel : Nat) (t : TypeId) (d : DataW Unit) (avs : List AV) (cs : List Value) (ps : List MemPlace), DataW.trod (fun _ => ()) P w base sp held fuel t cs = some (d, ps) → flatD P n t d = some avs → VRs ι avs cs
  | 0, _, _, _, _, _, _, _, h => by cases h
  | n + 1, 0, _, _, _, _, _, h, _ => by simp [DataW.trod] at h
  | n + 1, fuel + 1, t, d, avs, cs, ps, h, h2 => by
    simp only [flatD] at h2
    unfold DataW.trod at h
    have ih := fun t d avs cs ps => flatD_sound n fuel t d avs cs ps
    cases hu : P.underlying t with
    | none => rw [hu] at h2; cases h2
    | some D =>
      rw [hu] at h h2
      cases D with
      | bool =>
        rcases cs with _ | ⟨v, _ | ⟨v2, vs⟩⟩
        · simp at h
        · cases v <;> simp at h
          obtain ⟨rfl, rfl⟩ := h
          simp only [Option.some.injEq] at h2
          subst h2
          exact ⟨_, _, rfl, rfl, rfl⟩
        · simp at h
      | int k =>
        rcases cs with _ | ⟨v, _ | ⟨v2, vs⟩⟩
        · simp at h
        · cases v <;> simp at h
          obtain ⟨⟨rfl, _⟩, rfl, rfl⟩ := h
          simp only [if_true, Option.some.injEq] at h2
          subst h2
          exact ⟨_, _, rfl, rfl, rfl⟩
        · simp at h
      | string =>
        rcases cs with _ | ⟨v, _ | ⟨v2, vs⟩⟩
        · simp at h
        · cases v <;> simp at h
          obtain ⟨_, rfl, rfl⟩ := h
          simp only [Option.some.injEq] at h2
          subst h2
          exact ⟨_, _, rfl, by simp [VR], rfl⟩
        · simp at h
      | struct fs =>
        simp only at h
        split at h
        · rename_i hl
          simp only [Option.map_eq_some_iff, Prod.mk.injEq] at h
          obtain ⟨xs, hx, rfl, _⟩ := h
          simp only [Option.bind_eq_some_iff] at h2
          obtain ⟨r, hr, h2⟩ := h2
          split at h2
          · rename_i hrl
            injection h2 with h2; subst h2
            have h3 := flatFs_sound (ι := ι) ih fs.toList xs 0 r hx hr
            have h4 := h3.length
            rw [List.drop_zero] at h3 h4
            have h5 : (cs.take r.length).length = cs.length := by omega
            rw [take_all h5] at h3
            exact h3
          · cases h2
        · cases h
      | array m e =>
        simp only at h
        split at h
        · rename_i hl
          simp only [Option.map_eq_some_iff, Prod.mk.injEq] at h
          obtain ⟨xs, hx, rfl, _⟩ := h
          simp only [Option.bind_eq_some_iff] at h2
          obtain ⟨r, hr, h2⟩ := h2
          split at h2
          · rename_i hrl
            injection h2 with h2; subst h2
            rw [List.range_eq_range'] at hx
            have h3 := flatEs_sound (ι := ι) ih m 0 xs r hx hr
            have h4 := h3.length
            rw [Nat.zero_mul, List.drop_zero] at h3 h4
            have h5 : (cs.take r.length).length = cs.length := by omega
            rw [take_all h5] at h3
            exact h3
          · cases h2
        · cases h
      | _ => cases d <;> simp at h2
/-- A variable's cells. -/
theorem laid_cells {laid : List (String × DataW Unit)} (h : laidMet P laid w) {name : String} {d : DataW Unit} (hm : (name, d) ∈ laid) {g t : Nat} {n : Nat} {avs : List AV} (hg : P.globalNamed name = some g) (ht : (P.globals[g]?).map (·.type) = some t) (hd : flatD P n t d = some avs) :
    ∀ i x, avs[i]? = some x → ∃ v, w.cell? ⟨g, i, none⟩ = some v ∧ VR ι x v := by
  obtain ⟨ps, hv, _⟩ := h
  have main : ∀ (l : List (String × DataW Unit)) (ps : List MemPlace), DataW.LaidVars P w l ps → (name, d) ∈ l → ∃ cs : Array Value, w.var? P name = some cs ∧ VRs ι avs cs.toList := by
    intro l
    induction l with
    | nil => intro ps _ hm; cases hm
    | cons y l ihl =>
      intro ps hl hm
      obtain ⟨n0, d0⟩ := y
      obtain ⟨g', t', cs, fuel, p, q, e1, e2, e3, e4, e5, _⟩ := hl
      rcases List.mem_cons.1 hm with hm | hm
      · injection hm with h1 h2; subst h1; subst h2
        obtain rfl := Option.some.inj (hg.symm.trans e1)
        obtain rfl := Option.some.inj (ht.symm.trans e2)
        exact ⟨cs, e3, flatD_sound n fuel t d avs _ p e4 hd⟩
      · exact ihl q e5 hm
  obtain ⟨cs, h1, h2⟩ := main laid ps hv hm
  intro i x hx
  obtain ⟨v, hv1, hv2⟩ := h2.get hx
  refine ⟨v, ?_, hv2⟩
  rw [World.var?_cell hg h1 i]
  simpa using hv1
end
end Go.Ev
