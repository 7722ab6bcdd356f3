/- Calls, deferred calls: the whole machine. -/
import Derived.Test.YtimbiogcllmalaaDoorEvO
namespace Go.Ev
open Go Go.RowKit

/-- The functions that the abstract machine has are the model's. -/
def Table (P : Program) (chkD : Cx → Array Oper → List DCop → Bool) (C : FuncId → Option CFunc) : Prop :=
  ∀ f cf, C f = some cf → ∃ fn, P.funcs[f]? = some fn ∧ chkFn P chkD fn cf = true

/-- Regions that draw their order: to be shown for each way to check them. -/
def DrawnAll (P : Program) (B : Nat) (chkD : Cx → Array Oper → List DCop → Bool) : Prop :=
  ∀ (X : Cx) (call : FuncId → List AV → Heap → Option (End × Heap)), X.P = P → CallOK P B call → DrawnOK X B (chkD X) call

section
variable {P : Program} {B : Nat} {chkD : Cx → Array Oper → List DCop → Bool} {C : FuncId → Option CFunc}

theorem chkFn_parts {fn : Func} {cf : CFunc} (h : chkFn P chkD fn cf = true) :
    (fn.name == "runtime.NumGoroutine") = false ∧ cf.nargs ≤ fn.ntmps ∧ (∀ i, i < cf.nargs → cf.ps.contains i = true) ∧ chkRes (cxOf P fn cf) fn.results.toList cf.results = true ∧
    ∃ c, fn.body = some c ∧ chkCode (cxOf P fn cf) (chkD (cxOf P fn cf)) c cf.body = true := by
  simp only [chkFn, Bool.and_eq_true, Bool.not_eq_true', decide_eq_true_eq, List.all_eq_true, List.mem_range] at h
  obtain ⟨⟨⟨⟨h1, h2⟩, h3⟩, h4⟩, h5⟩ := h
  refine ⟨h1, h2, h3, h4, ?_⟩
  split at h5
  · rename_i c hc; exact ⟨c, hc, h5⟩
  · cases h5

/-- A deferred function's call. -/
theorem fnD_sound (hC : Table P chkD C) (hD : DrawnAll P B chkD) {call : FuncId → List AV → Heap → Option (End × Heap)} (hcall : CallOK P B call) {n : Nat} {f : FuncId} {args : List AV} {u u' : Up} {H H' : Heap} {e : End}
    (hev : evFnD C call n f args u H = some (e, u', H')) {ι : Plan} {w : World} {vs : Array Value} {m : FrameMode} (hR : Rel B ι H w) (hG : Glob P ι) (hv : VRs ι args vs.toList) (hm : ModeR ι u m) :
    (∃ fn, P.funcs[f]? = some fn ∧ fn.body.isSome = true ∧ (fn.name == "runtime.NumGoroutine") = false) ∧
    CallsD P f vs m w fun e' m' w' => ∃ ι', ι.le ι' ∧ Rel B ι' H' w' ∧ Below B w w' ∧ ModeR ι' u' m' ∧ EndR ι' e e' := by
  simp only [evFnD] at hev
  split at hev
  · cases hev
  · rename_i cf hcf
    obtain ⟨fn, hf, hchk⟩ := hC f cf hcf
    obtain ⟨h1, h2, h3, h4, c, hc, h5⟩ := chkFn_parts hchk
    split at hev
    · rename_i hn
      refine ⟨⟨fn, hf, by rw [hc]; rfl, h1⟩, ?_⟩
      intro c0 cs hmode
      have hU : UpR ι .deferred (c0 :: cs) u (c0 :: cs) := .inr ⟨rfl, c0, cs, m, rfl, by rw [← hmode], hm⟩
      have hSR := enter_SR (fn := fn) (cf := cf) (κ := .deferred) (cs0 := c0 :: cs) hR hG hv hn h2 h3 hU
      let b : Frame := { (default : Frame) with fn := f, kind := .deferred }
      have henter : Frame.enter P f vs .deferred = b.at { tmps := vs ++ Array.replicate (fn.ntmps - vs.size) undef, defers := [] } [.code c] := by
        simp [Frame.enter, Frame.at, hf, hc, b]
      have run := fun ctl σ' (hx : evCode call n cf.body { p := enterA args 0, t := [], H := H, d := [], u := u } = some (ctl, σ')) =>
        code_sound (X := cxOf P fn cf) hcall (hD (cxOf P fn cf) call rfl hcall) n cf.body c .deferred (c0 :: cs) ι _ σ' _ (c0 :: cs) w ctl h5 hSR hx b [] rfl
      have fin : ∀ σ1, (evCode call n cf.body { p := enterA args 0, t := [], H := H, d := [], u := u } = some (.normal, σ1) ∨ evCode call n cf.body { p := enterA args 0, t := [], H := H, d := [], u := u } = some (.ret, σ1)) →
          (match σ1.d with | [] => (resAs σ1.p σ1.H cf.results).map fun l => (End.ret (resV l), σ1.u, σ1.H) | _ => none) = some (e, u', H') →
          ∃ e' m' w' fr, (∃ ι', ι.le ι' ∧ Rel B ι' H' w' ∧ Below B w w' ∧ ModeR ι' u' m' ∧ EndR ι' e e') ∧ Comes P (lone (Frame.enter P f vs .deferred) (c0 :: cs) w) (lone fr ({ c0 with mode := m' } :: cs) w') e' ∧ fr.kind = .deferred ∧ fr.going P w' e' := by
        intro σ1 hx hres
        split at hres
        · rename_i hd
          obtain ⟨l, hl, he⟩ := Option.map_eq_some_iff.1 hres
          simp only [Prod.mk.injEq] at he
          obtain ⟨rfl, rfl, rfl⟩ := he
          have out : ∃ ι' a' cs' w', ι.le ι' ∧ Below B w w' ∧ SR (cxOf P fn cf) B .deferred (c0 :: cs) ι' σ1 a' cs' w' ∧ ∃ todo, Steps P (lone (Frame.enter P f vs .deferred) (c0 :: cs) w) (lone { b.at a' todo with mode := .returning } cs' w') := by
            rcases hx with hx | hx
            · obtain ⟨ι', e0, a', cs', w', g1, g2, g3, rfl, g5⟩ := run .normal σ1 hx
              rw [← henter] at g5
              exact ⟨ι', a', cs', w', g1, g2, g3, [], Steps.trans g5 (.one step_end)⟩
            · obtain ⟨ι', e0, a', cs', w', g1, g2, g3, rfl, g5⟩ := run .ret σ1 hx
              rw [← henter] at g5
              obtain ⟨todo, g5⟩ := g5
              exact ⟨ι', a', cs', w', g1, g2, g3, todo, g5⟩
          obtain ⟨ι', a', cs', w', g1, g2, g3, todo, g5⟩ := out
          obtain ⟨v, hv1, hv2⟩ := results_sound (X := cxOf P fn cf) g3.env g3.rel h4 hl
          rcases g3.up with ⟨hk, _⟩ | ⟨_, c1, rest, m', hcs0, hcs', hm'⟩
          · cases hk
          · injection hcs0 with q1 q2; subst q1; subst q2
            have hde : a'.defers = [] := by have := g3.dfr; rw [hd] at this; exact this
            refine ⟨.returned v, m', w', { b.at a' todo with mode := .returning }, ⟨ι', g1, g3.rel, g2, hm', ⟨v, rfl, hv2⟩⟩, ?_, rfl, rfl, hde, fn, hf, hv1⟩
            rw [← hcs']; exact g5
        · cases hres
      split at hev
      · rename_i σ1 hx; exact fin σ1 (.inl hx) hev
      · rename_i σ1 hx; exact fin σ1 (.inr hx) hev
      · rename_i ch σ1 hx
        split at hev
        · rename_i hd
          simp only [Option.some.injEq, Prod.mk.injEq] at hev
          obtain ⟨rfl, rfl, rfl⟩ := hev
          obtain ⟨ι', e0, a', cs', w', g1, g2, g3, ⟨l, rfl, hch⟩, g5⟩ := run (.panic ch) σ1 hx
          rw [← henter] at g5
          obtain ⟨todo, g5⟩ := g5
          rcases g3.up with ⟨hk, _⟩ | ⟨_, c1, rest, m', hcs0, hcs', hm'⟩
          · cases hk
          · injection hcs0 with q1 q2; subst q1; subst q2
            have hde : a'.defers = [] := by have := g3.dfr; rw [hd] at this; exact this
            refine ⟨.panicked l, m', w', { b.at a' todo with mode := .panicking l }, ⟨ι', g1, g3.rel, g2, hm', ⟨l, rfl, hch⟩⟩, ?_, rfl, rfl, hde, fn, hf⟩
            rw [← hcs']; exact g5
        · cases hev
      · cases hev
    · cases hev

theorem settle_sound {ι : Plan} {u : Up} {m : FrameMode} (h : ModeR ι u m) : ModeR ι (settleA u) (settle m) := by
  cases u with
  | norm => exact h.elim
  | ret => have : m = .returning := h; subst this; rfl
  | pan ch =>
    obtain ⟨l, rfl, hl⟩ := h
    cases ch with
    | nil => have : l = [] := hl; subst this; exact ⟨[], rfl, rfl⟩
    | cons x ch =>
      obtain ⟨v, r⟩ := x
      obtain ⟨v', l', rfl, hv, hch⟩ := hl
      cases r with
      | false => exact ⟨_, rfl, ⟨v', l', rfl, hv, hch⟩⟩
      | true =>
        have hall : ∀ {ch : List (AV × Bool)} {l : List PanicEntry}, ChR ι ch l → l.dropWhile (!·.goexit) = [] := by
          intro ch
          induction ch with
          | nil => intro l h; have : l = [] := h; subst this; rfl
          | cons x ch ih => intro l h; obtain ⟨v, r⟩ := x; obtain ⟨v', l', rfl, _, h⟩ := h; simp only [List.dropWhile_cons]; simpa using ih h
        show settle (.panicking _) = .returning
        simp only [settle, hall hch]

theorem raised_sound {ι : Plan} {u : Up} {m : FrameMode} {ch : List (AV × Bool)} {l : List PanicEntry} (h : ModeR ι u m) (hc : ChR ι ch l) : ModeR ι (raisedA u ch) (raised m l) := by
  cases u with
  | norm => exact h.elim
  | ret => have : m = .returning := h; subst this; exact ⟨l, rfl, hc⟩
  | pan old =>
    obtain ⟨l0, rfl, hl⟩ := h
    exact ⟨l ++ l0, rfl, hc.append hl⟩

theorem runDfr_sound (hC : Table P chkD C) (hD : DrawnAll P B chkD) {call : FuncId → List AV → Heap → Option (End × Heap)} (hcall : CallOK P B call) {n : Nat} {fn : Func} {cf : CFunc} (hchk : chkRes (cxOf P fn cf) fn.results.toList cf.results = true)
    {p t : List (Nat × AV)} {tmps : Array Value} {e : End} {H' : Heap} {ι0 : Plan} {w0 : World} : ∀ (ds : List (FuncId × List AV)) (ds' : List Deferred) (u : Up) (m : FrameMode) (H : Heap) (ι : Plan) (w : World),
    runDfr (evFnD C call n) cf.results p ds u H = some (e, H') → ι0.le ι → Below B w0 w → Env (cxOf P fn cf) ι p t tmps → Rel B ι H w → DefR ι ds ds' → ModeR ι u m →
    Leaves P fn tmps (fun e' w' => ∃ ι', ι0.le ι' ∧ Rel B ι' H' w' ∧ Below B w0 w' ∧ EndR ι' e e') ds' m w
  | [], ds', u, m, H, ι, w, hev, hle, hB, hE, hR, hd, hm => by
    have : ds' = [] := hd
    subst this
    cases u with
    | norm => exact hm.elim
    | ret =>
      have : m = .returning := hm
      subst this
      simp only [runDfr] at hev
      obtain ⟨l, hl, he⟩ := Option.map_eq_some_iff.1 hev
      simp only [Prod.mk.injEq] at he
      obtain ⟨rfl, rfl⟩ := he
      obtain ⟨v, h1, h2⟩ := results_sound (X := cxOf P fn cf) hE hR hchk hl
      exact ⟨v, h1, ι, hle, hR, hB, ⟨v, rfl, h2⟩⟩
    | pan ch =>
      obtain ⟨l, rfl, hl⟩ := hm
      simp only [runDfr, Option.some.injEq, Prod.mk.injEq] at hev
      obtain ⟨rfl, rfl⟩ := hev
      exact ⟨ι, hle, hR, hB, ⟨l, rfl, hl⟩⟩
  | (f, args) :: ds, ds', u, m, H, ι, w, hev, hle, hB, hE, hR, hd, hm => by
    obtain ⟨cap, vs, l', rfl, hv, hd'⟩ := hd
    simp only [runDfr] at hev
    have hrun : m ≠ .run := by intro e; subst e; cases u <;> simp [ModeR] at hm
    have hinv : ∀ {fn' : Func}, P.funcs[f]? = some fn' → fn'.body.isSome = true → (fn'.name == "runtime.NumGoroutine") = false → (invoke (.fn (.func f) cap) vs).run P w = .ok (.enter f (vs ++ cap)) w := by
      intro fn' h1 h2 h3
      simp only [invoke]
      exact run_callFunc_enter h1 h2 h3 _ w
    split at hev
    · rename_i v u1 H1 h1
      obtain ⟨⟨fn', g1, g2, g3⟩, g4⟩ := fnD_sound (vs := vs ++ cap) hC hD hcall h1 hR hE.fg hv hm
      refine leaves_cons hrun (hinv g1 g2 g3) (g4.mono fun e' m' w' ⟨ι1, k1, k2, k3, k4, k5⟩ => ?_)
      obtain ⟨v', rfl, _⟩ := k5
      exact runDfr_sound hC hD hcall hchk ds l' _ _ H1 ι1 w' hev (Plan.le_trans hle k1) (hB.trans k3) (hE.mono k1) k2 (hd'.mono k1) (settle_sound k4)
    · rename_i ch u1 H1 h1
      obtain ⟨⟨fn', g1, g2, g3⟩, g4⟩ := fnD_sound (vs := vs ++ cap) hC hD hcall h1 hR hE.fg hv hm
      refine leaves_cons hrun (hinv g1 g2 g3) (g4.mono fun e' m' w' ⟨ι1, k1, k2, k3, k4, k5⟩ => ?_)
      obtain ⟨l, rfl, hl⟩ := k5
      exact runDfr_sound hC hD hcall hchk ds l' _ _ H1 ι1 w' hev (Plan.le_trans hle k1) (hB.trans k3) (hE.mono k1) k2 (hd'.mono k1) (raised_sound k4 hl)
    · cases hev

/-- A step of THE MACHINE. -/
theorem step_sound (hC : Table P chkD C) (hD : ∀ B, DrawnAll P B chkD) {call : FuncId → List AV → Heap → Option (End × Heap)} (hcall : CallOK P B call) (n : Nat) : CallOK P B (evStep C call n) := by
  intro f args H e H' hev
  simp only [evStep] at hev
  split at hev
  · cases hev
  · rename_i cf hcf
    obtain ⟨fn, hf, hchk⟩ := hC f cf hcf
    obtain ⟨h1, h2, h3, h4, c, hc, h5⟩ := chkFn_parts hchk
    refine ⟨⟨fn, hf, by rw [hc]; rfl, h1⟩, ?_⟩
    intro B ι w vs hR hG hv cs
    have hcall : CallOK P B call := hcall
    split at hev
    · rename_i hn
      have hSR := enter_SR (fn := fn) (cf := cf) (κ := .normal) (cs0 := cs) (u := .norm) hR hG hv hn h2 h3 (.inl ⟨rfl, rfl, rfl⟩)
      let b : Frame := { (default : Frame) with fn := f, kind := .normal }
      have henter : Frame.enter P f vs .normal = b.at { tmps := vs ++ Array.replicate (fn.ntmps - vs.size) undef, defers := [] } [.code c] := by
        simp [Frame.enter, Frame.at, hf, hc, b]
      have run := fun ctl σ' (hx : evCode (call) n cf.body { p := enterA args 0, t := [], H := H, d := [], u := .norm } = some (ctl, σ')) =>
        code_sound (X := cxOf P fn cf) hcall (hD B (cxOf P fn cf) (call) rfl hcall) n cf.body c .normal cs ι _ σ' _ cs w ctl h5 hSR hx b [] rfl
      have fin : ∀ (m : FrameMode) (u : Up) (σ1 : St) (ι1 : Plan) (a1 : Act) (cs1 : List Frame) (w1 : World) (todo : List Item), ι.le ι1 → Below B w w1 → SR (cxOf P fn cf) B .normal cs ι1 σ1 a1 cs1 w1 → ModeR ι1 u m →
          Steps P (lone (Frame.enter P f vs .normal) cs w) (lone { b.at a1 todo with mode := m } cs1 w1) → runDfr (evFnD C (call) n) cf.results σ1.p σ1.d u σ1.H = some (e, H') →
          ∃ e' w' fr, (∃ ι', ι.le ι' ∧ Rel B ι' H' w' ∧ Below B w w' ∧ EndR ι' e e') ∧ Comes P (lone (Frame.enter P f vs .normal) cs w) (lone fr cs w') e' ∧ fr.fn = f ∧ fr.leaving P w' e' := by
        intro m u σ1 ι1 a1 cs1 w1 todo g1 g2 g3 hm g5 hdf
        have hcs : cs1 = cs := by
          rcases g3.up with ⟨_, _, h⟩ | ⟨hk, _⟩
          · exact h
          · cases hk
        subst hcs
        have hl := runDfr_sound hC (hD B) hcall h4 σ1.d a1.defers u m σ1.H ι1 w1 hdf g1 g2 g3.env g3.rel g3.dfr hm
        obtain ⟨e', w'', fr', hR', hs', hfn', hl'⟩ := leaves_steps a1.defers m w1 { b.at a1 todo with mode := m } cs1 rfl rfl rfl hf rfl hl
        exact ⟨e', w'', fr', hR', Comes.of_steps g5 hs', hfn', hl'⟩
      split at hev
      · rename_i σ1 hx
        obtain ⟨ι', e0, a', cs', w', g1, g2, g3, rfl, g5⟩ := run .normal σ1 hx
        rw [← henter] at g5
        exact fin .returning .ret σ1 ι' a' cs' w' [] g1 g2 g3 rfl (Steps.trans g5 (.one step_end)) hev
      · rename_i σ1 hx
        obtain ⟨ι', e0, a', cs', w', g1, g2, g3, rfl, g5⟩ := run .ret σ1 hx
        rw [← henter] at g5
        obtain ⟨todo, g5⟩ := g5
        exact fin .returning .ret σ1 ι' a' cs' w' todo g1 g2 g3 rfl g5 hev
      · rename_i ch σ1 hx
        obtain ⟨ι', e0, a', cs', w', g1, g2, g3, ⟨l, rfl, hch⟩, g5⟩ := run (.panic ch) σ1 hx
        rw [← henter] at g5
        obtain ⟨todo, g5⟩ := g5
        exact fin (.panicking l) (.pan ch) σ1 ι' a' cs' w' todo g1 g2 g3 ⟨l, rfl, hch⟩ g5 hev
      · cases hev
    · cases hev

/-- THE MACHINE: what it says of a call, the model's call comes to. -/
theorem fn_sound (hC : Table P chkD C) (hD : ∀ B, DrawnAll P B chkD) : ∀ n, CallOK P B (evFn C n)
  | 0 => fun f args H e H' h => by cases h
  | n + 1 => step_sound hC hD (fn_sound hC hD n) n

/-- One, and else the other. -/
def orCall (a b : FuncId → List AV → Heap → Option (End × Heap)) (f : FuncId) (args : List AV) (H : Heap) : Option (End × Heap) :=
  match a f args H with
  | some r => some r
  | none => b f args H

theorem CallOK.or {a b : FuncId → List AV → Heap → Option (End × Heap)} (ha : CallOK P B a) (hb : CallOK P B b) : CallOK P B (orCall a b) := by
  intro f args H e H' h
  simp only [orCall] at h
  split at h
  · rename_i r hr; injection h with h; subst h; exact ha f args H e H' hr
  · exact hb f args H e H' h

end
end Go.Ev
