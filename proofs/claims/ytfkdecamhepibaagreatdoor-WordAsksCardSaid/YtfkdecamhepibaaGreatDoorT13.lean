/- Several texts of this claim, joined. -/
import Derived.Test.YtfkdecamhepibaaGreatDoorT12
import Derived.Test.YtfkdecamhepibaaGreatDoorT03
import Derived.Test.YtfkdecamhepibaaGreatDoorT04
set_option linter.unusedSimpArgs false
set_option linter.unusedVariables false

/- Regions that draw their order: a step from a partial state. -/
namespace Go.Ev
open Go Go.RowKit
theorem rhos_congr {p t p' t' : List (Nat × AV)} : ∀ (l : List Opd), (∀ x ∈ l, rho p t x = rho p' t' x) → rhos p t l = rhos p' t' l
  | [], _ => rfl
  | x :: l, h => by
    simp only [rhos, h x (List.mem_cons_self ..), rhos_congr l fun y hy => h y (List.mem_cons_of_mem _ hy)]
theorem evOp1_congr {call : FuncId → List AV → Heap → Option (End × Heap)} {σ σ' : St} {c : COp} (hk : kindC c < 3) (hH : σ.H = σ'.H) (h : ∀ x ∈ c.opds, rho σ.p σ.t x = rho σ'.p σ'.t x) : evOp1 call σ c = evOp1 call σ' c := by
  have he : evOp (rho σ.p σ.t) σ.H c = evOp (rho σ'.p σ'.t) σ'.H c := by rw [hH]; exact evOp_congr h
  cases c
  case call f l =>
    simp only [evOp1, hH, rhos_congr l h]
  case callP g f l =>
    simp only [evOp1, hH, rhos_congr l h]
  case callV f l =>
    simp only [evOp1, hH, rhos_congr l fun x hx => h x (List.mem_cons_of_mem _ hx), h f (List.mem_cons_self ..)]
  case dfr => simp [kindC] at hk
  case panic => simp [kindC] at hk
  case recover => simp [kindC] at hk
  all_goals simp only [evOp1, he]
theorem evOp1_pp {call : FuncId → List AV → Heap → Option (End × Heap)} {σ σ' : St} {c : COp} {v : AV} {H' : Heap} (hp : isP c = true) (hr : ∀ x ∈ c.opds, rho σ'.p σ'.t x = rho σ.p σ.t x) (h : evOp1 call σ c = some (.val v H')) : evOp1 call σ' c = some (.val v σ'.H) := by
  cases c <;> first | (simp [isP] at hp; done) | skip
  rename_i g f l
  simp only [evOp1] at h ⊢
  rw [rhos_congr l hr]
  split at h
  · split at h
    · rename_i hfl
      split at h
      · rename_i v0 H1 hcc
        split at h
        · rename_i hvf
          simp only [Option.some.injEq, OOut.val.injEq] at h; obtain ⟨rfl, _⟩ := h
          simp only [hfl, hcc, hvf, if_true]
        · cases h
      · cases h
    · cases h
  · cases h
theorem evOp1_of {call : FuncId → List AV → Heap → Option (End × Heap)} {σ : St} {c : COp} {v : AV} {H' : Heap} (hk : kindC c = 0 ∨ kindC c = 1 ∨ isStore c = true) (h : evOp (rho σ.p σ.t) σ.H c = some (v, H')) : evOp1 call σ c = some (.val v H') := by
  cases c <;> first | (rcases hk with hk | hk | hk <;> simp [kindC, isStore] at hk; done) | (simp [evOp] at h; done) | skip
  all_goals simp only [evOp1, h]
theorem evOp_read {ρ : Opd → Option AV} {h k h' : Heap} {c : COp} {v : AV} (hk : kindC c = 1) (he : EqG h k) (h1 : evOp ρ h c = some (v, h')) : evOp ρ k c = some (v, k) := by
  cases c <;> first | (simp [kindC] at hk; done) | skip
  · simp only [evOp] at h1 ⊢
    split at h1
    · rw [← he.1]
      split at h1
      · split at h1
        · rename_i hc; simp only [Option.some.injEq, Prod.mk.injEq] at h1; simp_all
        · cases h1
      · cases h1
    · cases h1
  · simp only [evOp] at h1 ⊢
    split at h1
    · rw [← he.1]
      split at h1
      · split at h1
        · rename_i hc; simp only [Option.some.injEq, Prod.mk.injEq] at h1; simp_all
        · cases h1
      · cases h1
    · cases h1
  · rename_i x
    simp only [evOp] at h1 ⊢
    cases hx : ρ x with
    | none => rw [hx] at h1; cases h1
    | some y =>
      rw [hx] at h1
      simp only at h1 ⊢
      have : readSl k 1 y = readSl h 1 y := by
        unfold readSl
        split <;> first | (rw [he.1]; done) | rfl
      rw [this]
      split at h1
      · simp only [Option.map_eq_some_iff, Prod.mk.injEq] at h1 ⊢
        obtain ⟨x, h2, h3, _⟩ := h1
        exact ⟨x, h2, h3, trivial⟩
      · cases h1
section
variable {call : FuncId → List AV → Heap → Option (End × Heap)} {ops : Array Oper} {rs : List Rec} {S : Nat → Bool} {ds : List DCop} {σ0 σ' σS : St}
/-- A partial state: the steps of `S` are done. -/
structure Part (rs : List Rec) (σ0 : St) (S : Nat → Bool) (σS : St) : Prop where
  look : ∀ x, rho σS.p σS.t x = rhoS S x rs 0 (rho σ0.p σ0.t x)
  mem : EqG σS.H (hS S rs 0 σ0.H)
  exact : (∀ j r, rs[j]? = some r → r.d.tl = true → S j = false) → σS.H = hS S rs 0 σ0.H
  d : σS.d = σ0.d
  u : σS.u = σ0.u
theorem put_H (σ : St) (d : Dst) (v : AV) : (σ.put d v).H = σ.H ∧ (σ.put d v).d = σ.d ∧ (σ.put d v).u = σ.u := by
  cases d <;> exact ⟨rfl, rfl, rfl⟩
theorem Run.quiet_part (R : Run call ops ds rs σ0 σ') (hp : Part rs σ0 S σS) (hc : Closed ops S) {i : Nat} {q : Rec} (hq : rs[i]? = some q) (hSi : S i = false) (hl : q.loud = false) : Part rs σ0 (fun j => S j || decide (j = i)) (σS.put q.d.c.dst q.v) where
  look := fun x => by rw [rho_put, hp.look, R.put hc hq hSi x]
  mem := by rw [(put_H _ _ _).1, hS_quiet_add hq hl]; exact hp.mem
  exact := fun h => by
    rw [(put_H _ _ _).1, hS_quiet_add hq hl]
    exact hp.exact fun j r hr ht => by have := h j r hr ht; simp only [Bool.or_eq_false_iff] at this; exact this.1
  d := by rw [(put_H _ _ _).2.1]; exact hp.d
  u := by rw [(put_H _ _ _).2.2]; exact hp.u
theorem Run.step (R : Run call ops ds rs σ0 σ') (hp : Part rs σ0 S σS) (hc : Closed ops S) {i : Nat} {q : Rec} (hq : rs[i]? = some q) (hSi : S i = false) (hrd : Ready ops S i) :
    (wantedA σS q.d.c.guard = some false ∧ Part rs σ0 (fun j => S j || decide (j = i)) (σS.put q.d.c.dst undefA)) ∨
    (wantedA σS q.d.c.guard = some true ∧ ∃ H', evOp1 call σS q.d.c.op = some (.val q.v H') ∧ Part rs σ0 (fun j => S j || decide (j = i)) (({ σS with H := H' } : St).put q.d.c.dst q.v)) := by
  have hop : ∀ x ∈ q.d.c.all, rho σS.p σS.t x = rho q.σ.p q.σ.t x := fun x hx => by rw [hp.look, R.opd hc hq hSi hrd hx]
  have hops : ∀ x ∈ q.d.c.op.opds, rho σS.p σS.t x = rho q.σ.p q.σ.t x := fun x hx => hop x (by simp only [Cop.all, List.mem_append]; exact .inl hx)
  have hwant : wantedA σS q.d.c.guard = wantedA q.σ q.d.c.guard := by
    cases hg : q.d.c.guard with
    | none => rfl
    | some y =>
      obtain ⟨x, b⟩ := y
      simp only [wantedA]
      rw [hop x (by simp [Cop.all, hg])]
  rcases R.ok hq with ⟨hw, h1, h2, _⟩ | ⟨hw, h1, h2⟩
  · refine .inl ⟨by rw [hwant, h1], ?_⟩
    have := R.quiet_part hp hc hq hSi (by simp [Rec.loud, hw])
    rw [h2] at this; exact this
  · refine .inr ⟨by rw [hwant, h1], ?_⟩
    obtain ⟨k3, ktl⟩ := R.one hq
    by_cases hk0 : kindC q.d.c.op = 0
    · -- no memory asked
      have hev2 : evOp1 call σS q.d.c.op = some (.val q.v σS.H) := by
        cases hp : isP q.d.c.op with
        | true => exact evOp1_pp hp hops h2
        | false =>
          have hev := evOp1_simple (.inl hk0) hp h2
          refine evOp1_of (.inl hk0) ?_
          rw [evOp_congr hops]; exact evOp_pure hk0 hev
      refine ⟨_, hev2, ?_⟩
      refine R.quiet_part (σS := { σS with H := σS.H }) hp hc hq hSi (by simp [Rec.loud, hk0])
    · by_cases hk1 : kindC q.d.c.op = 1
      · have hnt : q.d.tl = false := by
          cases ht : q.d.tl with
          | false => rfl
          | true =>
            have := ktl ht
            cases hx : q.d.c.op <;> rw [hx] at this hk1 <;> simp [isStore, kindC] at this hk1
        obtain ⟨H', hev⟩ := R.read hc hq hSi hrd hw hk1 hnt
        have hev2 : evOp (rho σS.p σS.t) σS.H q.d.c.op = some (q.v, σS.H) := by
          rw [evOp_congr hops]; exact evOp_read hk1 ⟨fun b => (hp.mem.1 b).symm, hp.mem.2.symm⟩ hev
        refine ⟨_, evOp1_of (.inr (.inl hk1)) hev2, ?_⟩
        exact R.quiet_part (σS := { σS with H := σS.H }) hp hc hq hSi (by simp [Rec.loud, hk1])
      · have hk2 : kindC q.d.c.op = 2 := by omega
        have hl : q.loud = true := by simp [Rec.loud, hw, hk2]
        cases hnt : q.d.tl with
        | false =>
          obtain ⟨e1, e2⟩ := R.loud hc hq hSi hrd hl hnt
          have hex : σS.H = hS S rs 0 σ0.H := hp.exact fun j r hr ht => R.no_tail hc hq hSi (by omega) hnt hr ht
          refine ⟨q.H', by rw [evOp1_congr k3 (hex.trans e1) hops]; exact h2, ?_⟩
          exact {
            look := fun x => by rw [rho_put, R.put hc hq hSi x]; exact congrArg _ (hp.look x)
            mem := by rw [(put_H _ _ _).1, e2]; exact EqG.refl _
            exact := fun _ => by rw [(put_H _ _ _).1, e2]
            d := by rw [(put_H _ _ _).2.1]; exact hp.d
            u := by rw [(put_H _ _ _).2.2]; exact hp.u }
        | true =>
          obtain ⟨n, a, x, b, off, u, c, h3, h4, h5, h6, h7, h8, h9, hv, h10⟩ := R.tail hc hq hSi hrd hl hnt
          have hga : σS.H.get b = .cells c .own := by rw [hp.mem.1]; exact h6
          have hev : evOp (rho σS.p σS.t) σS.H q.d.c.op = some (q.v, stE b off u.cells σS.H) := by
            rw [evOp_congr hops, h3]
            simp only [evOp, h4, h5, hga, h7, h8, h9, hv, and_self, if_true, stE]
          refine ⟨_, evOp1_of (.inr (.inr (ktl hnt))) hev, ?_⟩
          exact {
            look := fun x => by rw [rho_put, R.put hc hq hSi x]; exact congrArg _ (hp.look x)
            mem := by rw [(put_H _ _ _).1]; exact (stE_congr hp.mem).trans h10
            exact := fun h => by have := h i q hq hnt; simp at this
            d := by rw [(put_H _ _ _).2.1]; exact hp.d
            u := by rw [(put_H _ _ _).2.2]; exact hp.u }
theorem Run.start : Part rs σ0 (fun _ => false) σ0 where
  look := fun x => by
    have : ∀ (rs : List Rec) (k : Nat) (a : Option AV), rhoS (fun _ => false) x rs k a = a := by
      intro rs
      induction rs with
      | nil => intro k a; rfl
      | cons r rs ih => intro k a; simp only [rhoS, Bool.false_and, cond_false]; exact ih _ _
    exact (this rs 0 _).symm
  mem := by rw [hS_none rs 0 σ0.H fun _ _ _ _ => rfl]; exact EqG.refl _
  exact := fun _ => (hS_none rs 0 σ0.H fun _ _ _ _ => rfl).symm
  d := rfl
  u := rfl
/-- All is done: the canonical run's end. -/
theorem Run.final (R : Run call ops ds rs σ0 σ') (hp : Part rs σ0 S σS) (hall : ∀ j, j < rs.length → S j = true) : (∀ x, rho σ'.p σ'.t x = rho σS.p σS.t x) ∧ EqG σS.H σ'.H ∧ σ'.d = σS.d ∧ σ'.u = σS.u := by
  have hS' : ∀ j r, rs[j]? = some r → S (0 + j) = true := fun j r hr => by rw [Nat.zero_add]; exact hall j (at_lt hr)
  refine ⟨fun x => ?_, ?_, ?_, ?_⟩
  · rw [hp.look, (chain_rho (x := x) rs 0 σ0 σ' R.chain).2]
    exact (rhoS_congr rs 0 _ fun j r hr _ => by rw [hS' j r hr]).symm
  · have e : hS S rs 0 σ0.H = σ'.H := by
      rw [(chain_H rs 0 σ0 σ' R.chain fun r hr => by obtain ⟨k, hk⟩ := List.getElem?_of_mem hr; exact R.one hk).2]
      exact hS_congr rs 0 _ fun j r hr _ => by rw [hS' j r hr]
    rw [← e]; exact hp.mem
  · rw [hp.d]; exact (chain_du rs σ0 σ' R.chain).1
  · rw [hp.u]; exact (chain_du rs σ0 σ' R.chain).2
end
end Go.Ev
/- Regions that draw their order: every order comes to what the text's order comes to. -/
namespace Go.Ev
open Go Go.RowKit
def cnt (S : Nat → Bool) : Nat → Nat
  | 0 => 0
  | n + 1 => cnt S n + (if S n then 0 else 1)
theorem cnt_congr {S S' : Nat → Bool} : ∀ (n : Nat), (∀ j, j < n → S j = S' j) → cnt S n = cnt S' n
  | 0, _ => rfl
  | n + 1, h => by simp only [cnt, cnt_congr n fun j hj => h j (by omega), h n (by omega)]
theorem cnt_add {S : Nat → Bool} {i : Nat} (hi : S i = false) : ∀ (n : Nat), i < n → cnt (fun j => S j || decide (j = i)) n + 1 = cnt S n
  | 0, h => by omega
  | n + 1, h => by
    simp only [cnt]
    by_cases e : i = n
    · subst e
      rw [cnt_congr (S := fun j => S j || decide (j = i)) (S' := S) i fun j hj => by simp [show j ≠ i by omega]]
      simp [hi]
    · have := cnt_add hi n (by omega)
      have h2 : (S n || decide (n = i)) = S n := by simp [show n ≠ i by omega]
      simp only [h2]; omega
theorem cnt_zero {S : Nat → Bool} : ∀ (n : Nat), cnt S n = 0 → ∀ j, j < n → S j = true
  | 0, _, j, h => by omega
  | n + 1, h, j, hj => by
    simp only [cnt] at h
    by_cases e : j = n
    · subst e
      cases hS : S j with
      | true => rfl
      | false => rw [hS] at h; simp at h
    · exact cnt_zero n (by omega) j (by omega)
theorem cnt_le {S : Nat → Bool} : ∀ (n : Nat), cnt S n ≤ n
  | 0 => Nat.le_refl _
  | n + 1 => by simp only [cnt]; have := cnt_le (S := S) n; split <;> omega
/-- The first that is not done is ready. -/
theorem first_ready {ops : Array Oper} {S : Nat → Bool} (hlt : ∀ (j : Nat) (o : Oper) (e : Edge), ops[j]? = some o → e ∈ o.after → Region.binds .any e = true → e.on < j) : ∀ (n : Nat), (∃ j, j < n ∧ S j = false) → ∃ j, j < n ∧ S j = false ∧ Ready ops S j
  | 0, h => by obtain ⟨j, h, _⟩ := h; omega
  | n + 1, h => by
    by_cases hn : ∃ j, j < n ∧ S j = false
    · obtain ⟨j, h1, h2, h3⟩ := first_ready hlt n hn
      exact ⟨j, by omega, h2, h3⟩
    · obtain ⟨j, h1, h2⟩ := h
      have hj : j = n := by
        by_cases e : j = n
        · exact e
        · exact absurd ⟨j, by omega, h2⟩ hn
      subst hj
      refine ⟨j, h1, h2, fun o e ho he hb => ?_⟩
      cases hS : S e.on with
      | true => rfl
      | false => exact absurd ⟨e.on, hlt j o e ho he hb, hS⟩ hn
theorem Env.congr {X : Cx} {ι : Plan} {p t p' t' : List (Nat × AV)} {tmps : Array Value} (h : Env X ι p t tmps) (he : ∀ x, rho p' t' x = rho p t x) : Env X ι p' t' tmps where
  fp := fun i v hv => h.fp i v (by have := he (.p i); simp only [rho] at this; rw [← this]; exact hv)
  ft := fun i v hv => h.ft i v (by have := he (.t i); simp only [rho] at this; rw [← this]; exact hv)
  fg := h.fg
  pk := fun i v hv => h.pk i v (by have := he (.p i); simp only [rho] at this; rw [← this]; exact hv)
  tk := fun i v hv => h.tk i v (by have := he (.t i); simp only [rho] at this; rw [← this]; exact hv)
theorem Rel.congrG {B : Nat} {ι : Plan} {H K : Heap} {w : World} (h : Rel B ι H w) (he : EqG H K) : Rel B ι K w where
  dom := fun b L hb => by rw [← he.2]; exact h.dom b L hb
  live := fun b c u hg => h.live b c u (by rw [he.1]; exact hg)
  own := fun b c L hg => h.own b c L (by rw [he.1]; exact hg)
  iter := fun b s p hg => h.iter b s p (by rw [he.1]; exact hg)
  nomap := fun b es hg => h.nomap b es (by rw [he.1]; exact hg)
  inj := fun b b' L L' hne ho hd => h.inj b b' L L' hne (by unfold Owned at *; simpa only [he.1] using ho) (by rw [he.1]; exact hd)
  size := h.size
theorem SR.congr {X : Cx} {B : Nat} {κ : CallKind} {cs0 cs : List Frame} {ι : Plan} {σ σ' : St} {a : Act} {w : World} (h : SR X B κ cs0 ι σ a cs w) (h1 : ∀ x, rho σ'.p σ'.t x = rho σ.p σ.t x) (h2 : EqG σ.H σ'.H) (h3 : σ'.d = σ.d) (h4 : σ'.u = σ.u) : SR X B κ cs0 ι σ' a cs w :=
  ⟨h.env.congr h1, h.size, h.rel.congrG h2, by rw [h3]; exact h.dfr, by rw [h4]; exact h.up⟩
theorem chkOps_at {X : Cx} {ops : Array Oper} : ∀ (l : List Oper) (cl : List Cop), chkOps X ops l cl = true → ∀ (i : Nat) (o : Oper) (c : Cop), l[i]? = some o → cl[i]? = some c → chkCop X ops o c = true
  | [], [], _, i, o, c, h, _ => by simp at h
  | [], _ :: _, h, _, _, _, _, _ => by simp [chkOps] at h
  | _ :: _, [], h, _, _, _, _, _ => by simp [chkOps] at h
  | o0 :: l, c0 :: cl, h, i, o, c, ho, hc => by
    simp only [chkOps, Bool.and_eq_true] at h
    cases i with
    | zero => simp only [List.getElem?_cons_zero, Option.some.injEq] at ho hc; subst ho; subst hc; exact h.1
    | succ i => simp only [List.getElem?_cons_succ] at ho hc; exact chkOps_at l cl h.2 i o c ho hc
section
variable {X : Cx} {B : Nat} {κ : CallKind} {cs0 : List Frame} {call : FuncId → List AV → Heap → Option (End × Heap)} {ops : Array Oper} {rs : List Rec} {ds : List DCop} {σ0 σ' : St}
theorem Run.go (R : Run call ops ds rs σ0 σ') (hcall : CallOK X.P B call) (hchk : ∀ (i : Nat) (o : Oper) (d : DCop), ops[i]? = some o → ds[i]? = some d → chkCop X ops o d.c = true) (b : Frame) (k : List Item) (hb : b.kind = κ) :
    ∀ (fuel t : Nat) (listed : Array Bool) (σS : St) (a : Act) (cs : List Frame) (w : World) (ι : Plan), listed.size = ops.size → Closed ops (fun j => listed.getD j false) → cnt (fun j => listed.getD j false) ops.size ≤ fuel → Part rs σ0 (fun j => listed.getD j false) σS → SR X B κ cs0 ι σS a cs w →
    Comes2 X B κ cs0 ι w (lone (b.at a (.inRegion ops (Region.linearise.go .any ops fuel t listed []) :: k)) cs w) b k .normal σ' := by
  have hlen : rs.length = ops.size := by rw [← R.stat.size, ← R.hds, List.length_map]
  have stop : ∀ (listed : Array Bool) (σS : St) (a : Act) (cs : List Frame) (w : World) (ι : Plan), (∀ j, j < ops.size → listed.getD j false = true) → Part rs σ0 (fun j => listed.getD j false) σS → SR X B κ cs0 ι σS a cs w →
      Comes2 X B κ cs0 ι w (lone (b.at a (.inRegion ops [] :: k)) cs w) b k .normal σ' := by
    intro listed σS a cs w ι hall hp h
    obtain ⟨h1, h2, h3, h4⟩ := R.final hp fun j hj => hall j (by omega)
    exact ⟨ι, .normal, a, cs, w, ι.le_refl, Below.refl _ _, h.congr h1 h2 h3 h4, rfl, .one step_region_end⟩
  intro fuel
  induction fuel with
  | zero =>
    intro t listed σS a cs w ι hsz hc hcnt hp h
    exact stop listed σS a cs w ι (cnt_zero ops.size (by omega)) hp h
  | succ fuel ih =>
    intro t listed σS a cs w ι hsz hc hcnt hp h
    simp only [Region.linearise.go]
    change Comes2 X B κ cs0 ι w (lone (b.at a (.inRegion ops (match (Region.ready .any ops listed)[t % (Region.ready .any ops listed).length]? with
      | some i => Region.linearise.go .any ops fuel (t / (Region.ready .any ops listed).length) (listed.setIfInBounds i true) [i]
      | none => [].reverse) :: k)) cs w) b k .normal σ'
    have hmem : ∀ i, i ∈ Region.ready .any ops listed ↔ i < ops.size ∧ listed.getD i true = false ∧ ∀ o, ops[i]? = some o → ∀ e ∈ o.after, Region.binds .any e = true → listed.getD e.on false = true := by
      intro i
      simp only [Region.ready, List.mem_filter, List.mem_range, Bool.and_eq_true, Bool.not_eq_true']
      constructor
      · rintro ⟨h1, h2, h3⟩
        refine ⟨h1, h2, fun o ho e he hb => ?_⟩
        rw [ho] at h3
        simp only [Option.map_some, Option.getD_some, Array.all_eq_true_iff_forall_mem] at h3
        have := h3 e he
        rw [hb] at this; simpa using this
      · rintro ⟨h1, h2, h3⟩
        refine ⟨h1, h2, ?_⟩
        obtain ⟨o, ho⟩ : ∃ o, ops[i]? = some o := ⟨ops[i], by rw [Array.getElem?_eq_getElem h1]⟩
        rw [ho]
        simp only [Option.map_some, Option.getD_some, Array.all_eq_true_iff_forall_mem]
        intro e he
        cases hb : Region.binds .any e with
        | false => rfl
        | true => simp [h3 o ho e he hb]
    have hgt : ∀ i, i < ops.size → listed.getD i true = listed.getD i false := by
      intro i hi
      simp only [Array.getD_eq_getD_getElem?]
      rw [Array.getElem?_eq_getElem (by omega)]
      rfl
    cases hi : (Region.ready .any ops listed)[t % (Region.ready .any ops listed).length]? with
    | none =>
      have hnil : Region.ready .any ops listed = [] := by
        cases hr : Region.ready .any ops listed with
        | nil => rfl
        | cons x xs =>
          rw [hr] at hi
          have hlt : t % (x :: xs).length < (x :: xs).length := Nat.mod_lt _ (by simp)
          simp at hi
          simp at hlt
          omega
      refine stop listed σS a cs w ι (fun j hj => ?_) hp h
      cases hS : listed.getD j false with
      | true => rfl
      | false =>
        obtain ⟨j', h1, h2, h3⟩ := first_ready (S := fun j => listed.getD j false) R.stat.lt ops.size ⟨j, hj, hS⟩
        have : j' ∈ Region.ready .any ops listed := (hmem j').2 ⟨h1, by rw [hgt j' h1]; exact h2, fun o ho e he hb => h3 o e ho he hb⟩
        rw [hnil] at this; cases this
    | some i =>
      simp only []
      rw [linearise_go_acc, List.reverse_singleton, List.singleton_append]
      obtain ⟨h1, h2, h3⟩ := (hmem i).1 (List.mem_of_getElem? hi)
      have hSi : listed.getD i false = false := by rw [← hgt i h1]; exact h2
      have hrd : Ready ops (fun j => listed.getD j false) i := fun o e ho he hb => h3 o ho e he hb
      obtain ⟨q, hq⟩ := rec_at (rs := rs) (j := i) (by omega)
      obtain ⟨o, ho⟩ : ∃ o, ops[i]? = some o := ⟨ops[i], by rw [Array.getElem?_eq_getElem h1]⟩
      have hcop := hchk i o q.d ho (R.d hq)
      have hcp := hcop
      simp only [chkCop, Bool.and_eq_true] at hcp
      have hS' : (fun j => (listed.setIfInBounds i true).getD j false) = fun j => listed.getD j false || decide (j = i) := by
        funext j
        simp only [Array.getD_eq_getD_getElem?, Array.getElem?_setIfInBounds]
        by_cases e : i = j
        · subst e; simp [hsz, h1]
        · rw [if_neg e]; simp [Ne.symm e]
      have hc' : Closed ops (fun j => (listed.setIfInBounds i true).getD j false) := by
        rw [hS']
        intro j o' e hj ho' he hb
        simp only [Bool.or_eq_true, decide_eq_true_eq] at hj ⊢
        rcases hj with hj | hj
        · exact .inl (hc j o' e hj ho' he hb)
        · subst hj; exact .inl (hrd o' e ho' he hb)
      have hcnt' : cnt (fun j => (listed.setIfInBounds i true).getD j false) ops.size ≤ fuel := by
        rw [hS']
        have := cnt_add (S := fun j => listed.getD j false) hSi ops.size h1
        omega
      have hsz' : (listed.setIfInBounds i true).size = ops.size := by rw [Array.size_setIfInBounds]; exact hsz
      rcases R.step hp hc hq hSi hrd with ⟨hw, hp'⟩ | ⟨hw, H', hev, hp'⟩
      · have hwant := guard_sound h.env h.size hcp.2 hw
        have hs := step_op_skip (P := X.P) (b := b) (a := a) (k := k) (cs := cs) (w := w) (ops := ops) (i := i) (rest := Region.linearise.go .any ops fuel (t / (Region.ready .any ops listed).length) (listed.setIfInBounds i true) []) (by simp [ho, hwant])
        simp only [ho, Option.bind_some] at hs
        rw [← hS'] at hp'
        exact .of_steps (.one hs) ι.le_refl (Below.refl _ _) (ih _ _ _ _ cs w ι hsz' hc' hcnt' hp' (h.put hcp.1.1 (VR.undef ι)))
      · have hwant := guard_sound h.env h.size hcp.2 hw
        obtain ⟨ι1, a1, w1, g1, g2, g3, g4⟩ := op_step (rest := Region.linearise.go .any ops fuel (t / (Region.ready .any ops listed).length) (listed.setIfInBounds i true) []) hcall h ho hwant hcop hev b k hb
        rw [← hS'] at hp'
        exact .of_steps g3 g1 g2 (ih _ _ _ a1 cs w1 ι1 hsz' hc' hcnt' hp' g4)
end
/-! ## The checker -/
def bef1 (acc : List Nat) (l : List Edge) : Nat := l.foldl (fun s e => cond (Region.binds .any e) (s ||| 2 ^ e.on ||| acc.getD e.on 0) s) 0
def befs : List Oper → List Nat → List Nat
  | [], acc => acc
  | o :: l, acc => befs l (acc ++ [bef1 acc o.after.toList])
def chkAfter : List Oper → Nat → Bool
  | [], _ => true
  | o :: l, j => o.after.toList.all (fun e => !Region.binds .any e || Nat.blt e.on j) && chkAfter l (j + 1)
def pairOK (bits i : Nat) (d d' : DCop) : Bool :=
  let r := bits.testBit i
  let k := kindC d.c.op
  let k' := kindC d'.c.op
  (r || (!conf d.c d'.c && (k == 0 || k' == 0 || (k == 1 && k' == 1) || (d'.u.contains i && ((k == 1 && k' == 2 && !d.tl && !d'.tl) || (k == 2 && !d.tl && k' == 1 && !d'.tl) || (d.tl && d'.tl)))))) &&
  (!d'.tl || k == 0 || d.tl || r) && (!d.tl || k' == 0 || d'.tl)
def chkP (i : Nat) (d : DCop) : List DCop → List Nat → Bool
  | [], _ => true
  | d' :: l, b :: bs => pairOK b i d d' && chkP i d l bs
  | _ :: _, [] => false
def chkPs : List DCop → List Nat → Nat → Bool
  | [], _, _ => true
  | d :: l, _ :: bs, i => chkP i d l bs && chkPs l bs (i + 1)
  | _ :: _, [], _ => false
def chkDrawn (X : Cx) (ops : Array Oper) (dl : List DCop) : Bool :=
  X.P.follows .mixedOrders && chkOps X ops ops.toList (dl.map (·.c)) && chkAfter ops.toList 0 && dl.length == ops.size && dl.all (fun d => Nat.blt (kindC d.c.op) 3 && (!d.tl || isStore d.c.op)) && chkPs dl (befs ops.toList []) 0
theorem bef1_spec {acc : List Nat} {i : Nat} : ∀ (l : List Edge) (s : Nat), (l.foldl (fun s e => cond (Region.binds .any e) (s ||| 2 ^ e.on ||| acc.getD e.on 0) s) s).testBit i = true → s.testBit i = true ∨ ∃ e ∈ l, Region.binds .any e = true ∧ (i = e.on ∨ (acc.getD e.on 0).testBit i = true)
  | [], s, h => .inl h
  | e :: l, s, h => by
    simp only [List.foldl_cons] at h
    rcases bef1_spec l _ h with h1 | ⟨e', h1, h2⟩
    · cases hb : Region.binds .any e with
      | false => rw [hb] at h1; exact .inl h1
      | true =>
        rw [hb] at h1
        simp only [cond_true, Nat.testBit_or, Bool.or_eq_true, Nat.testBit_two_pow, decide_eq_true_eq] at h1
        rcases h1 with (h1 | h1) | h1
        · exact .inl h1
        · exact .inr ⟨e, List.mem_cons_self .., hb, .inl h1.symm⟩
        · exact .inr ⟨e, List.mem_cons_self .., hb, .inr h1⟩
    · exact .inr ⟨e', List.mem_cons_of_mem _ h1, h2⟩
theorem befs_spec {ops : Array Oper} : ∀ (l : List Oper) (acc : List Nat), (∀ j, l[j]? = ops[acc.length + j]?) → (∀ j b i, acc[j]? = some b → b.testBit i = true → Reach ops i j) → ∀ j b i, (befs l acc)[j]? = some b → b.testBit i = true → Reach ops i j
  | [], acc, _, h => h
  | o :: l, acc, hl, h => by
    have ho : ops[acc.length]? = some o := by have := hl 0; simpa using this.symm
    refine befs_spec l _ (fun j => ?_) ?_
    · have := hl (j + 1); rw [List.length_append, List.length_singleton, Nat.add_assoc, Nat.add_comm 1 j]; simpa using this
    · intro j b i hj hb
      rw [List.getElem?_append] at hj
      split at hj
      · exact h j b i hj hb
      · have hj2 : j - acc.length = 0 := by
          cases hx : j - acc.length with
          | zero => rfl
          | succ n => rw [hx] at hj; simp at hj
        rw [hj2] at hj
        simp only [List.getElem?_cons_zero, Option.some.injEq] at hj
        subst hj
        have hje : j = acc.length := by omega
        subst hje
        rcases bef1_spec o.after.toList 0 hb with h0 | ⟨e, he, hbe, h1⟩
        · simp at h0
        · rcases h1 with h1 | h1
          · subst h1; exact .edge ho (by simpa using he) hbe
          · have : ∃ b, acc[e.on]? = some b ∧ b.testBit i = true := by
              rw [List.getD_eq_getElem?_getD] at h1
              cases hx : acc[e.on]? with
              | none => rw [hx] at h1; simp at h1
              | some b => rw [hx] at h1; exact ⟨b, rfl, h1⟩
            obtain ⟨b, hb1, hb2⟩ := this
            exact .trans (h _ _ _ hb1 hb2) ho (by simpa using he) hbe
theorem chkAfter_spec : ∀ (l : List Oper) (k : Nat), chkAfter l k = true → ∀ (j : Nat) (o : Oper) (e : Edge), l[j]? = some o → e ∈ o.after → Region.binds .any e = true → e.on < k + j
  | [], _, _, j, o, e, h, _, _ => by simp at h
  | o0 :: l, k, h, j, o, e, hj, he, hb => by
    simp only [chkAfter, Bool.and_eq_true, List.all_eq_true] at h
    cases j with
    | zero =>
      simp only [List.getElem?_cons_zero, Option.some.injEq] at hj; subst hj
      have := h.1 e (by simpa using he)
      rw [hb] at this
      simpa [Nat.blt_eq] using this
    | succ j =>
      simp only [List.getElem?_cons_succ] at hj
      have := chkAfter_spec l (k + 1) h.2 j o e hj he hb
      omega
theorem chkP_spec {i : Nat} {d : DCop} : ∀ (l : List DCop) (bs : List Nat), chkP i d l bs = true → ∀ (m : Nat) (d' : DCop), l[m]? = some d' → ∃ b, bs[m]? = some b ∧ pairOK b i d d' = true
  | [], _, _, m, d', h => by simp at h
  | _ :: _, [], h, _, _, _ => by simp [chkP] at h
  | d0 :: l, b :: bs, h, m, d', hm => by
    simp only [chkP, Bool.and_eq_true] at h
    cases m with
    | zero => simp only [List.getElem?_cons_zero, Option.some.injEq] at hm; subst hm; exact ⟨b, rfl, h.1⟩
    | succ m => simp only [List.getElem?_cons_succ] at hm ⊢; exact chkP_spec l bs h.2 m d' hm
theorem chkPs_spec : ∀ (l : List DCop) (bs : List Nat) (k : Nat), chkPs l bs k = true → ∀ (i j : Nat) (d d' : DCop), i < j → l[i]? = some d → l[j]? = some d' → ∃ b, bs[j]? = some b ∧ pairOK b (k + i) d d' = true
  | [], _, _, _, i, _, _, _, _, h, _ => by simp at h
  | _ :: _, [], _, h, _, _, _, _, _, _, _ => by simp [chkPs] at h
  | d0 :: l, b0 :: bs, k, h, i, j, d, d', hlt, hi, hj => by
    simp only [chkPs, Bool.and_eq_true] at h
    cases j with
    | zero => omega
    | succ j =>
      simp only [List.getElem?_cons_succ] at hj ⊢
      cases i with
      | zero =>
        simp only [List.getElem?_cons_zero, Option.some.injEq] at hi; subst hi
        exact chkP_spec l bs h.1 j d' hj
      | succ i =>
        simp only [List.getElem?_cons_succ] at hi
        have := chkPs_spec l bs (k + 1) h.2 i j d d' (by omega) hi hj
        rw [show k + (i + 1) = k + 1 + i by omega]; exact this
theorem chkDrawn_stat {X : Cx} {ops : Array Oper} {dl : List DCop} (h : chkDrawn X ops dl = true) : Stat ops dl := by
  simp only [chkDrawn, Bool.and_eq_true, beq_iff_eq] at h
  obtain ⟨⟨⟨⟨⟨_, _⟩, h3⟩, h4⟩, h5⟩, h6⟩ := h
  have hb := befs_spec (ops := ops) ops.toList [] (fun j => by simp) (fun j b i hj => by simp at hj)
  have hp : ∀ (i j : Nat) (d d' : DCop), i < j → dl[i]? = some d → dl[j]? = some d' → ∃ b, pairOK b i d d' = true ∧ (b.testBit i = true → Reach ops i j) := by
    intro i j d d' hlt hi hj
    obtain ⟨b, h1, h2⟩ := chkPs_spec dl _ 0 h6 i j d d' hlt hi hj
    rw [Nat.zero_add] at h2
    exact ⟨b, h2, hb j b i h1⟩
  refine ⟨?_, h4, ?_, ?_, ?_, ?_⟩
  · intro j o e hj he hbd
    have := chkAfter_spec ops.toList 0 h3 j o e (by simpa using hj) he hbd
    omega
  · intro j d hj
    have := (List.all_eq_true.1 h5) d (List.mem_of_getElem? hj)
    simp only [Bool.and_eq_true, Nat.blt_eq, Bool.or_eq_true, Bool.not_eq_true'] at this
    refine ⟨this.1, fun ht => ?_⟩
    rcases this.2 with h | h
    · rw [ht] at h; cases h
    · exact h
  · intro i j d d' hlt hi hj
    obtain ⟨b, h1, h2⟩ := hp i j d d' hlt hi hj
    simp only [pairOK, Bool.and_eq_true, Bool.or_eq_true, Bool.not_eq_true', beq_iff_eq, List.contains_iff_mem] at h1
    rcases h1.1.1 with h | ⟨h, h'⟩
    · exact .inl (h2 h)
    · refine .inr ⟨h, ?_⟩
      rcases h' with ((h' | h') | h') | ⟨hu, h'⟩
      · exact .inl h'
      · exact .inr (.inl h')
      · exact .inr (.inr (.inl h'))
      · refine .inr (.inr (.inr ⟨hu, ?_⟩))
        rcases h' with (⟨⟨⟨a1, a2⟩, a3⟩, a4⟩ | ⟨⟨⟨a1, a2⟩, a3⟩, a4⟩) | h'
        · exact .inl ⟨a1, a2, a3, a4⟩
        · exact .inr (.inl ⟨a1, a2, a3, a4⟩)
        · exact .inr (.inr h')
  · intro i j d d' hlt hi hj ht hk hnt
    obtain ⟨b, h1, h2⟩ := hp i j d d' hlt hi hj
    simp only [pairOK, Bool.and_eq_true, Bool.or_eq_true, Bool.not_eq_true', beq_iff_eq] at h1
    rcases h1.1.2 with ((h | h) | h) | h
    · rw [ht] at h; cases h
    · exact absurd h hk
    · rw [hnt] at h; cases h
    · exact h2 h
  · intro i j d d' hlt hi hj ht
    obtain ⟨b, h1, h2⟩ := hp i j d d' hlt hi hj
    simp only [pairOK, Bool.and_eq_true, Bool.or_eq_true, Bool.not_eq_true', beq_iff_eq] at h1
    rcases h1.2 with (h | h) | h
    · rw [ht] at h; cases h
    · exact .inl h
    · exact .inr h
theorem drawn_all (P : Program) (B : Nat) : DrawnAll P B chkDrawn := by
  intro X call hX hcall ops cl id hchk κ cs0 ι σ σ' a cs w ctl h hev b k hb
  subst hX
  obtain ⟨rfl, rs, h1, h2, h3⟩ := evOpsD_recs cl 0 [] _ σ' ctl hev
  have R : Run call ops cl rs { σ with t := [] } σ' := by
    refine ⟨h1, chkDrawn_stat hchk, h2, fun j r hr hw i hi => ?_⟩
    obtain ⟨e, he, hcase⟩ := h3 j r hr hw i hi
    rcases hcase with ⟨_, q, hq, hlt, rfl⟩ | hlk
    · exact ⟨q, by simpa using hq, by omega, he⟩
    · simp [lkL] at hlk
  have hc2 := hchk
  simp only [chkDrawn, Bool.and_eq_true] at hc2
  have hm : X.P.follows .mixedOrders = true := hc2.1.1.1.1.1
  have hops : ∀ (i : Nat) (o : Oper) (d : DCop), ops[i]? = some o → cl[i]? = some d → chkCop X ops o d.c = true := fun i o d ho hd =>
    chkOps_at ops.toList _ hc2.1.1.1.1.2 i o d.c (by simpa using ho) (by rw [List.getElem?_map, hd]; rfl)
  have hsch : Region.schedule (X.P.follows .mixedOrders) ops (w.tape w.drawn (.order b.fn id)) = Region.linearise.go .any ops ops.size (w.tape w.drawn (.order b.fn id)) (Array.replicate ops.size false) [] := by
    simp only [Region.schedule, hm, Bool.true_or, if_true]; rfl
  have hS0 : (fun j => (Array.replicate ops.size false).getD j false) = fun _ => false := by
    funext j
    simp only [Array.getD_eq_getD_getElem?, Array.getElem?_replicate]
    split <;> rfl
  have h0 := h.fresh
  have hw : SR X B κ cs0 ι { σ with t := [] } a cs { w with drawn := w.drawn + 1 } := ⟨h0.env, h0.size, ⟨h0.rel.dom, h0.rel.live, h0.rel.own, h0.rel.iter, h0.rel.nomap, h0.rel.inj, h0.rel.size⟩, h0.dfr, h0.up⟩
  have hB : Below B w { w with drawn := w.drawn + 1 } := ⟨rfl, rfl, rfl, Nat.le_refl _, fun _ _ => rfl⟩
  refine .of_steps (.one step_region_draw) ι.le_refl hB ?_
  rw [hsch]
  refine R.go hcall hops b k hb ops.size _ _ _ a cs _ ι (by simp) (by rw [hS0]; intro j o e hj; cases hj) (cnt_le _) (by rw [hS0]; exact Run.start) hw
end Go.Ev
/- Tables of functions. -/
namespace Go.Ev
open Go
inductive BT where
  | nil
  | one (k : Nat) (c : CFunc)
  | two (k : Nat) (l r : BT)
def BT.get : BT → Nat → Option CFunc
  | .nil, _ => none
  | .one k c, f => cond (f == k) (some c) none
  | .two k l r, f => cond (Nat.blt f k) (l.get f) (r.get f)
def BT.All (Q : Nat → CFunc → Prop) : BT → Prop
  | .nil => True
  | .one k c => Q k c
  | .two _ l r => l.All Q ∧ r.All Q
theorem BT.get_all {Q : Nat → CFunc → Prop} : ∀ (t : BT), t.All Q → ∀ f c, t.get f = some c → Q f c
  | .nil, _, f, c, h => by simp [BT.get] at h
  | .one k c0, hQ, f, c, h => by
    simp only [BT.get] at h
    cases hk : f == k with
    | true => rw [hk] at h; simp only [cond_true, Option.some.injEq] at h; subst h; rw [beq_iff_eq.1 hk]; exact hQ
    | false => rw [hk] at h; cases h
  | .two k l r, hQ, f, c, h => by
    simp only [BT.get] at h
    cases hk : Nat.blt f k with
    | true => rw [hk] at h; exact l.get_all hQ.1 f c h
    | false => rw [hk] at h; exact r.get_all hQ.2 f c h
theorem BT.table {P : Program} (t : BT) (h : t.All fun f cf => ∃ fn, P.funcs[f]? = some fn ∧ chkFn P chkDrawn fn cf = true) : Table P chkDrawn t.get :=
  fun f cf hf => t.get_all h f cf hf
/- The table of functions, printed by gen.py. -/
def bt : BT := .two 53 (.two 28 (.two 15 (.two 9 (.two 6 (.two 4 (.one F_gobolaw12_WordAsks cf_gobolaw12_WordAsks) (.two 5 (.one F_gobolaw12_told cf_gobolaw12_told) (.one F_word_All cf_word_All))) (.two 7 (.one F_goboref11_Words cf_goboref11_Words) (.two 8 (.one F_word_Class cf_word_Class) (.one F_goboref11_Class cf_goboref11_Class)))) (.two 12 (.two 10 (.one F_gobolaw12_words cf_gobolaw12_words) (.two 11 (.one F_goboref3_Same cf_goboref3_Same) (.one F_word_Caught cf_word_Caught))) (.two 13 (.one F_word_All_1 cf_word_All_1) (.two 14 (.one F_word_words cf_word_words) (.one F_decode_All cf_decode_All))))) (.two 21 (.two 18 (.two 16 (.one F_goboref3_All cf_goboref3_All) (.two 17 (.one F_goboref11_word cf_goboref11_word) (.one F_word_Class_1 cf_word_Class_1))) (.two 19 (.one F_word_Read cf_word_Read) (.two 20 (.one F_word_Reader_Class cf_word_Reader_Class) (.one F_goboref11_E_class cf_goboref11_E_class)))) (.two 24 (.two 22 (.one F_goboref11_E_fail cf_goboref11_E_fail) (.two 23 (.one F_word_Caught_1 cf_word_Caught_1) (.one F_word_run cf_word_run))) (.two 26 (.two 25 (.one F_word_words_1 cf_word_words_1) (.one F_word_letter cf_word_letter)) (.two 27 (.one F_word_words_2 cf_word_words_2) (.one F_word_digit cf_word_digit)))))) (.two 40 (.two 34 (.two 31 (.two 29 (.one F_strings_IndexByte cf_strings_IndexByte) (.two 30 (.one F_word_closed cf_word_closed) (.one F_word_Fail cf_word_Fail))) (.two 32 (.one F_decode_New cf_decode_New) (.two 33 (.one F_decode_Dec_Feed cf_decode_Dec_Feed) (.one F_decode_Dec_Close cf_decode_Dec_Close)))) (.two 37 (.two 35 (.one F_goboref3_items cf_goboref3_items) (.two 36 (.one F_goboref11_small cf_goboref11_small) (.one F_goboref11_digit cf_goboref11_digit))) (.two 38 (.one F_word_Reader_Skip cf_word_Reader_Skip) (.two 39 (.one F_word_Reader_Peek cf_word_Reader_Peek) (.one F_word_Reader_Rune cf_word_Reader_Rune))))) (.two 46 (.two 43 (.two 41 (.one F_word_Reader_At cf_word_Reader_At) (.two 42 (.one F_runes_Norm cf_runes_Norm) (.one F_runes_Not cf_runes_Not))) (.two 44 (.one F_goboref11_E_take cf_goboref11_E_take) (.two 45 (.one F_goboref11_E_peek cf_goboref11_E_peek) (.one F_goboref11_E_member cf_goboref11_E_member)))) (.two 49 (.two 47 (.one F_goboref3_Not cf_goboref3_Not) (.two 48 (.one F_goboref3_Norm cf_goboref3_Norm) (.one F_stringslite_IndexByte cf_stringslite_IndexByte))) (.two 51 (.two 50 (.one F_decode_Dec_take cf_decode_Dec_take) (.one F_decode_Dec_taken cf_decode_Dec_taken)) (.two 52 (.one F_decode_Dec_tell cf_decode_Dec_tell) (.one F_goboref3_One cf_goboref3_One))))))) (.two 79 (.two 66 (.two 59 (.two 56 (.two 54 (.one F_word_hasRune cf_word_hasRune) (.two 55 (.one F_word_Reader_number cf_word_Reader_number) (.one F_runes_ranges cf_runes_ranges))) (.two 57 (.one F_runes_spans cf_runes_spans) (.two 58 (.one F_runes_Not_1 cf_runes_Not_1) (.one F_goboref11_E_escape cf_goboref11_E_escape)))) (.two 63 (.two 60 (.one F_goboref11_among cf_goboref11_among) (.two 61 (.one F_goboref3_pick cf_goboref3_pick) (.one F_goboref3_cells cf_goboref3_cells))) (.two 64 (.one F_decode_Dec_more cf_decode_Dec_more) (.two 65 (.one F_utf8_DecodeRune cf_utf8_DecodeRune) (.one F_goboref3_second cf_goboref3_second))))) (.two 72 (.two 69 (.two 67 (.one F_word_Reader_Must cf_word_Reader_Must) (.two 68 (.one F_word_hex cf_word_hex) (.one F_runes_value cf_runes_value))) (.two 70 (.one F_runes_number cf_runes_number) (.two 71 (.one F_runes_behind cf_runes_behind) (.one F_slices_SortFunc_runes_span_runes_span cf_slices_SortFunc_runes_span_runes_span)))) (.two 75 (.two 73 (.one F_runes_spans_1 cf_runes_spans_1) (.two 74 (.one F_cmp_Compare_int cf_cmp_Compare_int) (.one F_goboref3_Scalar cf_goboref3_Scalar))) (.two 77 (.two 76 (.one F_goboref3_cuts cf_goboref3_cuts) (.one F_goboref3_in cf_goboref3_in)) (.two 78 (.one F_goboref3_at cf_goboref3_at) (.one F_goboref3_place cf_goboref3_place)))))) (.two 92 (.two 85 (.two 82 (.two 80 (.one F_decode_Dec_more_1 cf_decode_Dec_more_1) (.two 81 (.one F_decode_grow cf_decode_grow) (.one F_decode_long cf_decode_long))) (.two 83 (.one F_utf8_decodeRuneSlow cf_utf8_decodeRuneSlow) (.two 84 (.one F_runes_is cf_runes_is) (.one F_slices_pdqsortCmpFunc_runes_span cf_slices_pdqsortCmpFunc_runes_span)))) (.two 88 (.two 86 (.one F_bits_Len cf_bits_Len) (.two 87 (.one F_cmp_isNaN_int cf_cmp_isNaN_int) (.one F_decode_second cf_decode_second))) (.two 90 (.two 89 (.one F_slices_Clone_byte_byte cf_slices_Clone_byte_byte) (.one F_slices_insertionSortCmpFunc_runes_span cf_slices_insertionSortCmpFunc_runes_span)) (.two 91 (.one F_slices_heapSortCmpFunc_runes_span cf_slices_heapSortCmpFunc_runes_span) (.one F_slices_breakPatternsCmpFunc_runes_span cf_slices_breakPatternsCmpFunc_runes_span))))) (.two 98 (.two 95 (.two 93 (.one F_slices_choosePivotCmpFunc_runes_span cf_slices_choosePivotCmpFunc_runes_span) (.two 94 (.one F_slices_reverseRangeCmpFunc_runes_span cf_slices_reverseRangeCmpFunc_runes_span) (.one F_slices_partialInsertionSortCmpFunc_runes_span cf_slices_partialInsertionSortCmpFunc_runes_span))) (.two 96 (.one F_slices_partitionEqualCmpFunc_runes_span cf_slices_partitionEqualCmpFunc_runes_span) (.two 97 (.one F_slices_partitionCmpFunc_runes_span cf_slices_partitionCmpFunc_runes_span) (.one F_bits_Len32 cf_bits_Len32)))) (.two 101 (.two 99 (.one F_bits_Len64 cf_bits_Len64) (.two 100 (.one F_slices_siftDownCmpFunc_runes_span cf_slices_siftDownCmpFunc_runes_span) (.one F_slices_nextPowerOfTwo cf_slices_nextPowerOfTwo))) (.two 103 (.two 102 (.one F_slices_xorshift_Next cf_slices_xorshift_Next) (.one F_slices_medianAdjacentCmpFunc_runes_span cf_slices_medianAdjacentCmpFunc_runes_span)) (.two 104 (.one F_slices_medianCmpFunc_runes_span cf_slices_medianCmpFunc_runes_span) (.one F_slices_order2CmpFunc_runes_span cf_slices_order2CmpFunc_runes_span)))))))
end Go.Ev
