/- Several texts of this claim, joined. -/
import Derived.Test.YtfkdecamhepibaaGreatDoorT10
set_option linter.unusedSimpArgs false
set_option linter.unusedVariables false

/- Calls, deferred calls: the whole machine. -/
namespace Go.Ev
open Go Go.RowKit
/-- The functions that the abstract machine has are the model's. -/
def Table (P : Program) (chkD : Cx → Array Oper → List DCop → Bool) (C : FuncId → Option CFunc) : Prop :=
  ∀ f cf, C f = some cf → ∃ fn, P.funcs[f]? = some fn ∧ chkFn P chkD fn cf = true
/-- Regions that draw their order: to be shown for each way to check them. -/
def DrawnAll (P : Program) (B : Nat) (chkD : Cx → Array Oper → List DCop → Bool) : Prop :=
  ∀ (X : Cx) (call : FuncId → List AV → Heap → Option (End × Heap)), X.P = P → CallOK P B call → DrawnOK X B (chkD X) call
section
variable {P : Program} {B : Nat} {chkD : Cx → Array Oper → List DCop → Bool} {C : FuncId → Option CFunc}
theorem chkFn_parts {fn : Func} {cf : CFunc} (h : chkFn P chkD fn cf = true) :
    (fn.name == "runtime.NumGoroutine") = false ∧ cf.nargs ≤ fn.ntmps ∧ (∀ i, i < cf.nargs → cf.ps.contains i = true) ∧ chkRes (cxOf P fn cf) fn.results.toList cf.results = true ∧
    ∃ c, fn.body = some c ∧ chkCode (cxOf P fn cf) (chkD (cxOf P fn cf)) c cf.body = true := by
  simp only [chkFn, Bool.and_eq_true, Bool.not_eq_true', decide_eq_true_eq, List.all_eq_true, List.mem_range] at h
  obtain ⟨⟨⟨⟨h1, h2⟩, h3⟩, h4⟩, h5⟩ := h
  refine ⟨h1, h2, h3, h4, ?_⟩
  split at h5
  · rename_i c hc; exact ⟨c, hc, h5⟩
  · cases h5
/-- A deferred function's call. -/
theorem fnD_sound (hC : Table P chkD C) (hD : DrawnAll P B chkD) {call : FuncId → List AV → Heap → Option (End × Heap)} (hcall : CallOK P B call) {n : Nat} {f : FuncId} {args : List AV} {u u' : Up} {H H' : Heap} {e : End}
    (hev : evFnD C call n f args u H = some (e, u', H')) {ι : Plan} {w : World} {vs : Array Value} {m : FrameMode} (hR : Rel B ι H w) (hG : Glob P ι) (hv : VRs ι args vs.toList) (hm : ModeR ι u m) :
    (∃ fn, P.funcs[f]? = some fn ∧ fn.body.isSome = true ∧ (fn.name == "runtime.NumGoroutine") = false) ∧
    CallsD P f vs m w fun e' m' w' => ∃ ι', ι.le ι' ∧ Rel B ι' H' w' ∧ Below B w w' ∧ ModeR ι' u' m' ∧ EndR ι' e e' := by
  simp only [evFnD] at hev
  split at hev
  · cases hev
  · rename_i cf hcf
    obtain ⟨fn, hf, hchk⟩ := hC f cf hcf
    obtain ⟨h1, h2, h3, h4, c, hc, h5⟩ := chkFn_parts hchk
    split at hev
    · rename_i hn
      refine ⟨⟨fn, hf, by rw [hc]; rfl, h1⟩, ?_⟩
      intro c0 cs hmode
      have hU : UpR ι .deferred (c0 :: cs) u (c0 :: cs) := .inr ⟨rfl, c0, cs, m, rfl, by rw [← hmode], hm⟩
      have hSR := enter_SR (fn := fn) (cf := cf) (κ := .deferred) (cs0 := c0 :: cs) hR hG hv hn h2 h3 hU
      let b : Frame := { (default : Frame) with fn := f, kind := .deferred }
      have henter : Frame.enter P f vs .deferred = b.at { tmps := vs ++ Array.replicate (fn.ntmps - vs.size) undef, defers := [] } [.code c] := by
        simp [Frame.enter, Frame.at, hf, hc, b]
      have run := fun ctl σ' (hx : evCode call n cf.body { p := enterA args 0, t := [], H := H, d := [], u := u } = some (ctl, σ')) =>
        code_sound (X := cxOf P fn cf) hcall (hD (cxOf P fn cf) call rfl hcall) n cf.body c .deferred (c0 :: cs) ι _ σ' _ (c0 :: cs) w ctl h5 hSR hx b [] rfl
      have fin : ∀ σ1, (evCode call n cf.body { p := enterA args 0, t := [], H := H, d := [], u := u } = some (.normal, σ1) ∨ evCode call n cf.body { p := enterA args 0, t := [], H := H, d := [], u := u } = some (.ret, σ1)) →
          (match σ1.d with | [] => (resAs σ1.p σ1.H cf.results).map fun l => (End.ret (resV l), σ1.u, σ1.H) | _ => none) = some (e, u', H') →
          ∃ e' m' w' fr, (∃ ι', ι.le ι' ∧ Rel B ι' H' w' ∧ Below B w w' ∧ ModeR ι' u' m' ∧ EndR ι' e e') ∧ Comes P (lone (Frame.enter P f vs .deferred) (c0 :: cs) w) (lone fr ({ c0 with mode := m' } :: cs) w') e' ∧ fr.kind = .deferred ∧ fr.going P w' e' := by
        intro σ1 hx hres
        split at hres
        · rename_i hd
          obtain ⟨l, hl, he⟩ := Option.map_eq_some_iff.1 hres
          simp only [Prod.mk.injEq] at he
          obtain ⟨rfl, rfl, rfl⟩ := he
          have out : ∃ ι' a' cs' w', ι.le ι' ∧ Below B w w' ∧ SR (cxOf P fn cf) B .deferred (c0 :: cs) ι' σ1 a' cs' w' ∧ ∃ todo, Steps P (lone (Frame.enter P f vs .deferred) (c0 :: cs) w) (lone { b.at a' todo with mode := .returning } cs' w') := by
            rcases hx with hx | hx
            · obtain ⟨ι', e0, a', cs', w', g1, g2, g3, rfl, g5⟩ := run .normal σ1 hx
              rw [← henter] at g5
              exact ⟨ι', a', cs', w', g1, g2, g3, [], Steps.trans g5 (.one step_end)⟩
            · obtain ⟨ι', e0, a', cs', w', g1, g2, g3, rfl, g5⟩ := run .ret σ1 hx
              rw [← henter] at g5
              obtain ⟨todo, g5⟩ := g5
              exact ⟨ι', a', cs', w', g1, g2, g3, todo, g5⟩
          obtain ⟨ι', a', cs', w', g1, g2, g3, todo, g5⟩ := out
          obtain ⟨v, hv1, hv2⟩ := results_sound (X := cxOf P fn cf) g3.env g3.rel h4 hl
          rcases g3.up with ⟨hk, _⟩ | ⟨_, c1, rest, m', hcs0, hcs', hm'⟩
          · cases hk
          · injection hcs0 with q1 q2; subst q1; subst q2
            have hde : a'.defers = [] := by have := g3.dfr; rw [hd] at this; exact this
            refine ⟨.returned v, m', w', { b.at a' todo with mode := .returning }, ⟨ι', g1, g3.rel, g2, hm', ⟨v, rfl, hv2⟩⟩, ?_, rfl, rfl, hde, fn, hf, hv1⟩
            rw [← hcs']; exact g5
        · cases hres
      split at hev
      · rename_i σ1 hx; exact fin σ1 (.inl hx) hev
      · rename_i σ1 hx; exact fin σ1 (.inr hx) hev
      · rename_i ch σ1 hx
        split at hev
        · rename_i hd
          simp only [Option.some.injEq, Prod.mk.injEq] at hev
          obtain ⟨rfl, rfl, rfl⟩ := hev
          obtain ⟨ι', e0, a', cs', w', g1, g2, g3, ⟨l, rfl, hch⟩, g5⟩ := run (.panic ch) σ1 hx
          rw [← henter] at g5
          obtain ⟨todo, g5⟩ := g5
          rcases g3.up with ⟨hk, _⟩ | ⟨_, c1, rest, m', hcs0, hcs', hm'⟩
          · cases hk
          · injection hcs0 with q1 q2; subst q1; subst q2
            have hde : a'.defers = [] := by have := g3.dfr; rw [hd] at this; exact this
            refine ⟨.panicked l, m', w', { b.at a' todo with mode := .panicking l }, ⟨ι', g1, g3.rel, g2, hm', ⟨l, rfl, hch⟩⟩, ?_, rfl, rfl, hde, fn, hf⟩
            rw [← hcs']; exact g5
        · cases hev
      · cases hev
    · cases hev
theorem settle_sound {ι : Plan} {u : Up} {m : FrameMode} (h : ModeR ι u m) : ModeR ι (settleA u) (settle m) := by
  cases u with
  | norm => exact h.elim
  | ret => have : m = .returning := h; subst this; rfl
  | pan ch =>
    obtain ⟨l, rfl, hl⟩ := h
    cases ch with
    | nil => have : l = [] := hl; subst this; exact ⟨[], rfl, rfl⟩
    | cons x ch =>
      obtain ⟨v, r⟩ := x
      obtain ⟨v', l', rfl, hv, hch⟩ := hl
      cases r with
      | false => exact ⟨_, rfl, ⟨v', l', rfl, hv, hch⟩⟩
      | true =>
        have hall : ∀ {ch : List (AV × Bool)} {l : List PanicEntry}, ChR ι ch l → l.dropWhile (!·.goexit) = [] := by
          intro ch
          induction ch with
          | nil => intro l h; have : l = [] := h; subst this; rfl
          | cons x ch ih => intro l h; obtain ⟨v, r⟩ := x; obtain ⟨v', l', rfl, _, h⟩ := h; simp only [List.dropWhile_cons]; simpa using ih h
        show settle (.panicking _) = .returning
        simp only [settle, hall hch]
theorem raised_sound {ι : Plan} {u : Up} {m : FrameMode} {ch : List (AV × Bool)} {l : List PanicEntry} (h : ModeR ι u m) (hc : ChR ι ch l) : ModeR ι (raisedA u ch) (raised m l) := by
  cases u with
  | norm => exact h.elim
  | ret => have : m = .returning := h; subst this; exact ⟨l, rfl, hc⟩
  | pan old =>
    obtain ⟨l0, rfl, hl⟩ := h
    exact ⟨l ++ l0, rfl, hc.append hl⟩
theorem runDfr_sound (hC : Table P chkD C) (hD : DrawnAll P B chkD) {call : FuncId → List AV → Heap → Option (End × Heap)} (hcall : CallOK P B call) {n : Nat} {fn : Func} {cf : CFunc} (hchk : chkRes (cxOf P fn cf) fn.results.toList cf.results = true)
    {p t : List (Nat × AV)} {tmps : Array Value} {e : End} {H' : Heap} {ι0 : Plan} {w0 : World} : ∀ (ds : List (FuncId × List AV)) (ds' : List Deferred) (u : Up) (m : FrameMode) (H : Heap) (ι : Plan) (w : World),
    runDfr (evFnD C call n) cf.results p ds u H = some (e, H') → ι0.le ι → Below B w0 w → Env (cxOf P fn cf) ι p t tmps → Rel B ι H w → DefR ι ds ds' → ModeR ι u m →
    Leaves P fn tmps (fun e' w' => ∃ ι', ι0.le ι' ∧ Rel B ι' H' w' ∧ Below B w0 w' ∧ EndR ι' e e') ds' m w
  | [], ds', u, m, H, ι, w, hev, hle, hB, hE, hR, hd, hm => by
    have : ds' = [] := hd
    subst this
    cases u with
    | norm => exact hm.elim
    | ret =>
      have : m = .returning := hm
      subst this
      simp only [runDfr] at hev
      obtain ⟨l, hl, he⟩ := Option.map_eq_some_iff.1 hev
      simp only [Prod.mk.injEq] at he
      obtain ⟨rfl, rfl⟩ := he
      obtain ⟨v, h1, h2⟩ := results_sound (X := cxOf P fn cf) hE hR hchk hl
      exact ⟨v, h1, ι, hle, hR, hB, ⟨v, rfl, h2⟩⟩
    | pan ch =>
      obtain ⟨l, rfl, hl⟩ := hm
      simp only [runDfr, Option.some.injEq, Prod.mk.injEq] at hev
      obtain ⟨rfl, rfl⟩ := hev
      exact ⟨ι, hle, hR, hB, ⟨l, rfl, hl⟩⟩
  | (f, args) :: ds, ds', u, m, H, ι, w, hev, hle, hB, hE, hR, hd, hm => by
    obtain ⟨cap, vs, l', rfl, hv, hd'⟩ := hd
    simp only [runDfr] at hev
    have hrun : m ≠ .run := by intro e; subst e; cases u <;> simp [ModeR] at hm
    have hinv : ∀ {fn' : Func}, P.funcs[f]? = some fn' → fn'.body.isSome = true → (fn'.name == "runtime.NumGoroutine") = false → (invoke (.fn (.func f) cap) vs).run P w = .ok (.enter f (vs ++ cap)) w := by
      intro fn' h1 h2 h3
      simp only [invoke]
      exact run_callFunc_enter h1 h2 h3 _ w
    split at hev
    · rename_i v u1 H1 h1
      obtain ⟨⟨fn', g1, g2, g3⟩, g4⟩ := fnD_sound (vs := vs ++ cap) hC hD hcall h1 hR hE.fg hv hm
      refine leaves_cons hrun (hinv g1 g2 g3) (g4.mono fun e' m' w' ⟨ι1, k1, k2, k3, k4, k5⟩ => ?_)
      obtain ⟨v', rfl, _⟩ := k5
      exact runDfr_sound hC hD hcall hchk ds l' _ _ H1 ι1 w' hev (Plan.le_trans hle k1) (hB.trans k3) (hE.mono k1) k2 (hd'.mono k1) (settle_sound k4)
    · rename_i ch u1 H1 h1
      obtain ⟨⟨fn', g1, g2, g3⟩, g4⟩ := fnD_sound (vs := vs ++ cap) hC hD hcall h1 hR hE.fg hv hm
      refine leaves_cons hrun (hinv g1 g2 g3) (g4.mono fun e' m' w' ⟨ι1, k1, k2, k3, k4, k5⟩ => ?_)
      obtain ⟨l, rfl, hl⟩ := k5
      exact runDfr_sound hC hD hcall hchk ds l' _ _ H1 ι1 w' hev (Plan.le_trans hle k1) (hB.trans k3) (hE.mono k1) k2 (hd'.mono k1) (raised_sound k4 hl)
    · cases hev
/-- A step of THE MACHINE. -/
theorem step_sound (hC : Table P chkD C) (hD : ∀ B, DrawnAll P B chkD) {call : FuncId → List AV → Heap → Option (End × Heap)} (hcall : CallOK P B call) (n : Nat) : CallOK P B (evStep C call n) := by
  intro f args H e H' hev
  simp only [evStep] at hev
  split at hev
  · cases hev
  · rename_i cf hcf
    obtain ⟨fn, hf, hchk⟩ := hC f cf hcf
    obtain ⟨h1, h2, h3, h4, c, hc, h5⟩ := chkFn_parts hchk
    refine ⟨⟨fn, hf, by rw [hc]; rfl, h1⟩, ?_⟩
    intro B ι w vs hR hG hv cs
    have hcall : CallOK P B call := hcall
    split at hev
    · rename_i hn
      have hSR := enter_SR (fn := fn) (cf := cf) (κ := .normal) (cs0 := cs) (u := .norm) hR hG hv hn h2 h3 (.inl ⟨rfl, rfl, rfl⟩)
      let b : Frame := { (default : Frame) with fn := f, kind := .normal }
      have henter : Frame.enter P f vs .normal = b.at { tmps := vs ++ Array.replicate (fn.ntmps - vs.size) undef, defers := [] } [.code c] := by
        simp [Frame.enter, Frame.at, hf, hc, b]
      have run := fun ctl σ' (hx : evCode (call) n cf.body { p := enterA args 0, t := [], H := H, d := [], u := .norm } = some (ctl, σ')) =>
        code_sound (X := cxOf P fn cf) hcall (hD B (cxOf P fn cf) (call) rfl hcall) n cf.body c .normal cs ι _ σ' _ cs w ctl h5 hSR hx b [] rfl
      have fin : ∀ (m : FrameMode) (u : Up) (σ1 : St) (ι1 : Plan) (a1 : Act) (cs1 : List Frame) (w1 : World) (todo : List Item), ι.le ι1 → Below B w w1 → SR (cxOf P fn cf) B .normal cs ι1 σ1 a1 cs1 w1 → ModeR ι1 u m →
          Steps P (lone (Frame.enter P f vs .normal) cs w) (lone { b.at a1 todo with mode := m } cs1 w1) → runDfr (evFnD C (call) n) cf.results σ1.p σ1.d u σ1.H = some (e, H') →
          ∃ e' w' fr, (∃ ι', ι.le ι' ∧ Rel B ι' H' w' ∧ Below B w w' ∧ EndR ι' e e') ∧ Comes P (lone (Frame.enter P f vs .normal) cs w) (lone fr cs w') e' ∧ fr.fn = f ∧ fr.leaving P w' e' := by
        intro m u σ1 ι1 a1 cs1 w1 todo g1 g2 g3 hm g5 hdf
        have hcs : cs1 = cs := by
          rcases g3.up with ⟨_, _, h⟩ | ⟨hk, _⟩
          · exact h
          · cases hk
        subst hcs
        have hl := runDfr_sound hC (hD B) hcall h4 σ1.d a1.defers u m σ1.H ι1 w1 hdf g1 g2 g3.env g3.rel g3.dfr hm
        obtain ⟨e', w'', fr', hR', hs', hfn', hl'⟩ := leaves_steps a1.defers m w1 { b.at a1 todo with mode := m } cs1 rfl rfl rfl hf rfl hl
        exact ⟨e', w'', fr', hR', Comes.of_steps g5 hs', hfn', hl'⟩
      split at hev
      · rename_i σ1 hx
        obtain ⟨ι', e0, a', cs', w', g1, g2, g3, rfl, g5⟩ := run .normal σ1 hx
        rw [← henter] at g5
        exact fin .returning .ret σ1 ι' a' cs' w' [] g1 g2 g3 rfl (Steps.trans g5 (.one step_end)) hev
      · rename_i σ1 hx
        obtain ⟨ι', e0, a', cs', w', g1, g2, g3, rfl, g5⟩ := run .ret σ1 hx
        rw [← henter] at g5
        obtain ⟨todo, g5⟩ := g5
        exact fin .returning .ret σ1 ι' a' cs' w' todo g1 g2 g3 rfl g5 hev
      · rename_i ch σ1 hx
        obtain ⟨ι', e0, a', cs', w', g1, g2, g3, ⟨l, rfl, hch⟩, g5⟩ := run (.panic ch) σ1 hx
        rw [← henter] at g5
        obtain ⟨todo, g5⟩ := g5
        exact fin (.panicking l) (.pan ch) σ1 ι' a' cs' w' todo g1 g2 g3 ⟨l, rfl, hch⟩ g5 hev
      · cases hev
    · cases hev
/-- THE MACHINE: what it says of a call, the model's call comes to. -/
theorem fn_sound (hC : Table P chkD C) (hD : ∀ B, DrawnAll P B chkD) : ∀ n, CallOK P B (evFn C n)
  | 0 => fun f args H e H' h => by cases h
  | n + 1 => step_sound hC hD (fn_sound hC hD n) n
/-- One, and else the other. -/
def orCall (a b : FuncId → List AV → Heap → Option (End × Heap)) (f : FuncId) (args : List AV) (H : Heap) : Option (End × Heap) :=
  match a f args H with
  | some r => some r
  | none => b f args H
theorem CallOK.or {a b : FuncId → List AV → Heap → Option (End × Heap)} (ha : CallOK P B a) (hb : CallOK P B b) : CallOK P B (orCall a b) := by
  intro f args H e H' h
  simp only [orCall] at h
  split at h
  · rename_i r hr; injection h with h; subst h; exact ha f args H e H' hr
  · exact hb f args H e H' h
end
end Go.Ev
/- What an operation asks for: its operands; and whether it reads or turns memory. -/
namespace Go.Ev
open Go Go.RowKit
def COp.opds : COp → List Opd
  | .mov x => [x]
  | .pick c a b => [c, a, b]
  | .alloc _ => []
  | .box x => [x]
  | .build _ ps => ps.map (·.2.2)
  | .lit _ _ ps => ps.map (·.2.2)
  | .load1 x => [x]
  | .loadN _ x => [x]
  | .store _ a x => [a, x]
  | .nilCheck x => [x]
  | .bin _ x y => [x, y]
  | .eqv _ _ x y => [x, y]
  | .un _ x => [x]
  | .convI _ x => [x]
  | .strStr x => [x]
  | .intStr x => [x]
  | .strBytes x => [x]
  | .bytesStr x => [x]
  | .mkIface _ x => [x]
  | .mkFn _ l => l
  | .mkSlice _ _ l c => [l, c]
  | .sliceStr x lo hi => x :: (lo.toList ++ hi.toList)
  | .sliceSl _ x lo hi mx => x :: (lo.toList ++ hi.toList ++ mx.toList)
  | .sliceArr _ _ x lo hi mx => x :: (lo.toList ++ hi.toList ++ mx.toList)
  | .fieldAddr _ x => [x]
  | .field1 _ x => [x]
  | .fieldN _ _ x => [x]
  | .idxAddr _ x i => [x, i]
  | .idxArr _ _ x i => [x, i]
  | .idxStr x i => [x, i]
  | .idxAgg _ x i => [x, i]
  | .extract x _ => [x]
  | .lenStr x => [x]
  | .lenSl x => [x]
  | .capSl x => [x]
  | .append _ _ x y => [x, y]
  | .appendStr x y => [x, y]
  | .appendZ _ _ x n => [x, n]
  | .minmax _ xs => xs
  | .assert _ _ x => [x]
  | .rangeStr x => [x]
  | .nextStr x => [x]
  | .idxByte x y => [x, y]
  | .call _ l => l
  | .callP _ _ l => l
  | .callV f l => f :: l
  | .dfr f l => f :: l
  | .panic x => [x]
  | .recover => []
section
variable {ρ ρ' : Opd → Option AV} {H : Heap}
theorem fillA_congr : ∀ (ps : List (Nat × Nat × Opd)) (c : List AV), (∀ x ∈ ps.map (·.2.2), ρ x = ρ' x) → fillA ρ c ps = fillA ρ' c ps
  | [], _, _ => rfl
  | (off, sz, x) :: ps, c, h => by
    simp only [fillA, h x (by simp)]
    cases ρ' x with
    | none => rfl
    | some v =>
      simp only
      split
      · exact fillA_congr ps _ fun y hy => h y (by simp only [List.map_cons, List.mem_cons]; exact .inr hy)
      · rfl
theorem minmaxA_congr (mx : Bool) : ∀ (xs : List Opd) (v : AV), (∀ x ∈ xs, ρ x = ρ' x) → minmaxA mx ρ v xs = minmaxA mx ρ' v xs
  | [], v, _ => by cases v <;> rfl
  | x :: xs, v, h => by
    cases v <;> simp only [minmaxA]
    rw [h x (by simp)]
    cases ρ' x with
    | none => rfl
    | some u =>
      cases u <;> simp only
      exact minmaxA_congr mx xs _ fun y hy => h y (List.mem_cons_of_mem _ hy)
theorem mapM_congr : ∀ (xs : List Opd), (∀ x ∈ xs, ρ x = ρ' x) → xs.mapM ρ = xs.mapM ρ'
  | [], _ => rfl
  | x :: xs, h => by
    simp only [List.mapM_cons]
    rw [h x (by simp), mapM_congr xs fun y hy => h y (List.mem_cons_of_mem _ hy)]
theorem bnd_congr {y d : Nat} {x : Option Opd} (h : ∀ z ∈ x.toList, ρ z = ρ' z) : bnd ρ y x d = bnd ρ' y x d := by
  cases x with
  | none => rfl
  | some x => simp only [bnd, h x (by simp)]
theorem evOp_congr {c : COp} (h : ∀ x ∈ c.opds, ρ x = ρ' x) : evOp ρ H c = evOp ρ' H c := by
  cases c
  case build z ps => simp only [evOp, fillA_congr ps z h]
  case lit z n ps => simp only [evOp, fillA_congr ps z h]
  case mkFn f l => simp only [evOp, mapM_congr l h]
  case minmax mx xs =>
    cases xs with
    | nil => rfl
    | cons x xs =>
      simp only [evOp]
      rw [h x (by simp [COp.opds])]
      cases ρ' x with
      | none => rfl
      | some v => simp only; rw [minmaxA_congr mx xs v fun y hy => h y (by simp [COp.opds, hy])]
  case sliceStr x lo hi =>
    have h1 : ∀ y d, bnd ρ y lo d = bnd ρ' y lo d := fun y d => bnd_congr fun z hz => h z (by simp only [COp.opds, List.mem_cons, List.mem_append]; exact .inr (.inl hz))
    have h2 : ∀ y d, bnd ρ y hi d = bnd ρ' y hi d := fun y d => bnd_congr fun z hz => h z (by simp only [COp.opds, List.mem_cons, List.mem_append]; exact .inr (.inr hz))
    simp only [evOp, h x (by simp [COp.opds]), h1, h2]
  case sliceSl sz x lo hi mx =>
    have h1 : ∀ y d, bnd ρ y lo d = bnd ρ' y lo d := fun y d => bnd_congr fun z hz => h z (by simp only [COp.opds, List.mem_cons, List.mem_append]; exact .inr (.inl (.inl hz)))
    have h2 : ∀ y d, bnd ρ y hi d = bnd ρ' y hi d := fun y d => bnd_congr fun z hz => h z (by simp only [COp.opds, List.mem_cons, List.mem_append]; exact .inr (.inl (.inr hz)))
    have h3 : ∀ y d, bnd ρ y mx d = bnd ρ' y mx d := fun y d => bnd_congr fun z hz => h z (by simp only [COp.opds, List.mem_cons, List.mem_append]; exact .inr (.inr hz))
    simp only [evOp, h x (by simp [COp.opds]), h1, h2, h3]
  case sliceArr n sz x lo hi mx =>
    have h1 : ∀ y d, bnd ρ y lo d = bnd ρ' y lo d := fun y d => bnd_congr fun z hz => h z (by simp only [COp.opds, List.mem_cons, List.mem_append]; exact .inr (.inl (.inl hz)))
    have h2 : ∀ y d, bnd ρ y hi d = bnd ρ' y hi d := fun y d => bnd_congr fun z hz => h z (by simp only [COp.opds, List.mem_cons, List.mem_append]; exact .inr (.inl (.inr hz)))
    have h3 : ∀ y d, bnd ρ y mx d = bnd ρ' y mx d := fun y d => bnd_congr fun z hz => h z (by simp only [COp.opds, List.mem_cons, List.mem_append]; exact .inr (.inr hz))
    simp only [evOp, h x (by simp [COp.opds]), h1, h2, h3]
  case pick c a b => simp only [evOp, h c (by simp [COp.opds]), h a (by simp [COp.opds]), h b (by simp [COp.opds])]
  case call => rfl
  case callP => rfl
  case callV => rfl
  case dfr => rfl
  case panic => rfl
  case recover => rfl
  case alloc => rfl
  all_goals (simp only [COp.opds, List.forall_mem_cons, List.not_mem_nil, false_implies, implies_true, and_true] at h; first | (simp only [evOp, h]; done) | (simp only [evOp, h.1, h.2]; done))
end
end Go.Ev
/- Regions that draw their order: the laws of partial states. -/
namespace Go.Ev
open Go Go.RowKit
mutual
theorem AV.beq_eq : ∀ (x y : AV), AV.beq x y = true → x = y
  | .int _ _, y, h => by cases y <;> simp [AV.beq] at h; simp [h]
  | .bool _, y, h => by cases y <;> simp [AV.beq] at h; simp [h]
  | .str _, y, h => by cases y <;> simp [AV.beq] at h; simp [h]
  | .ptr _ _, y, h => by cases y <;> simp [AV.beq] at h; simp [h]
  | .nilp, y, h => by cases y <;> simp [AV.beq] at h; rfl
  | .slice _ _ _ _, y, h => by cases y <;> simp [AV.beq] at h; simp [h]
  | .osl _ _ _ _, y, h => by cases y <;> simp [AV.beq] at h; simp [h]
  | .nils, y, h => by cases y <;> simp [AV.beq] at h; rfl
  | .map _, y, h => by cases y <;> simp [AV.beq] at h; simp [h]
  | .nilm, y, h => by cases y <;> simp [AV.beq] at h; rfl
  | .fn f c, y, h => by
    cases y <;> simp only [AV.beq, Bool.false_eq_true, Bool.and_eq_true, beq_iff_eq] at h
    rw [h.1, AV.beqs_eq _ _ h.2]
  | .nilf, y, h => by cases y <;> simp [AV.beq] at h; rfl
  | .iface t v, y, h => by
    cases y <;> simp only [AV.beq, Bool.false_eq_true, Bool.and_eq_true, beq_iff_eq] at h
    rw [h.1, AV.beq_eq _ _ h.2]
  | .nili, y, h => by cases y <;> simp [AV.beq] at h; rfl
  | .agg l, y, h => by
    cases y <;> simp only [AV.beq, Bool.false_eq_true] at h
    rw [AV.beqs_eq _ _ h]
  | .tup l, y, h => by
    cases y <;> simp only [AV.beq, Bool.false_eq_true] at h
    rw [AV.beqs_eq _ _ h]
theorem AV.beqs_eq : ∀ (x y : List AV), AV.beqs x y = true → x = y
  | [], y, h => by cases y <;> simp [AV.beqs] at h; rfl
  | a :: x, y, h => by
    cases y <;> simp only [AV.beqs, Bool.false_eq_true, Bool.and_eq_true] at h
    rw [AV.beq_eq _ _ h.1, AV.beqs_eq _ _ h.2]
end
/-- A step of the canonical run: the state before it, whether it was wanted, its value, the memory behind it. -/
structure Rec where
  d : DCop
  σ : St
  w : Bool
  v : AV
  H' : Heap
def Rec.next (r : Rec) : St := ({ r.σ with H := r.H' } : St).put r.d.c.dst r.v
/-- A record is what the abstract machine does there. -/
def Rec.ok (call : FuncId → List AV → Heap → Option (End × Heap)) (r : Rec) : Prop :=
  (r.w = false ∧ wantedA r.σ r.d.c.guard = some false ∧ r.v = undefA ∧ r.H' = r.σ.H) ∨ (r.w = true ∧ wantedA r.σ r.d.c.guard = some true ∧ evOp1 call r.σ r.d.c.op = some (.val r.v r.H'))
def Rec.log (r : Rec) : LogE := if r.w then mkLog r.d r.σ r.v else .no
inductive Chain (call : FuncId → List AV → Heap → Option (End × Heap)) : List Rec → St → St → Prop
  | nil (σ : St) : Chain call [] σ σ
  | cons (r : Rec) (rs : List Rec) (σ' : St) : r.ok call → Chain call rs r.next σ' → Chain call (r :: rs) r.σ σ'
/-- What the run of a drawn region shows. -/
theorem evOpsD_recs {call : FuncId → List AV → Heap → Option (End × Heap)} : ∀ (ds : List DCop) (k : Nat) (lg : List (Nat × LogE)) (σ σ' : St) (ctl : Ctl), evOpsD call ds k lg σ = some (ctl, σ') →
    ctl = .normal ∧ ∃ rs : List Rec, rs.map (·.d) = ds ∧ Chain call rs σ σ' ∧
      ∀ (j : Nat) (r : Rec), rs[j]? = some r → r.w = true → ∀ i ∈ r.d.u, ∃ e, dynOK r.d r.σ r.v r.H' (some e) = true ∧
        ((k ≤ i ∧ ∃ q, rs[i - k]? = some q ∧ i - k < j ∧ e = q.log) ∨ (lkL i lg = some e))
  | [], k, lg, σ, σ', ctl, h => by
    simp only [evOpsD, Option.some.injEq, Prod.mk.injEq] at h
    obtain ⟨rfl, rfl⟩ := h
    exact ⟨rfl, [], rfl, .nil _, fun j r h => by simp at h⟩
  | d :: ds, k, lg, σ, σ', ctl, h => by
    simp only [evOpsD] at h
    split at h
    · cases h
    · rename_i hw
      obtain ⟨rfl, rs, h1, h2, h3⟩ := evOpsD_recs ds (k + 1) _ _ σ' ctl h
      let r0 : Rec := { d := d, σ := σ, w := false, v := undefA, H' := σ.H }
      refine ⟨rfl, r0 :: rs, by simp [h1, r0], .cons r0 rs σ' (.inl ⟨rfl, hw, rfl, rfl⟩) h2, ?_⟩
      intro j r hr hrw i hi
      cases j with
      | zero => simp only [List.getElem?_cons_zero, Option.some.injEq] at hr; subst hr; cases hrw
      | succ j =>
        simp only [List.getElem?_cons_succ] at hr
        obtain ⟨e, he, hcase⟩ := h3 j r hr hrw i hi
        refine ⟨e, he, ?_⟩
        rcases hcase with ⟨g1, q, g2, g3, g4⟩ | hlk
        · refine .inl ⟨by omega, q, ?_, by omega, g4⟩
          have : i - k = (i - (k + 1)) + 1 := by omega
          rw [this, List.getElem?_cons_succ]; exact g2
        · split at hlk
          · simp only [lkL] at hlk
            split at hlk
            · rename_i e2; subst e2; injection hlk with hlk
              exact .inl ⟨Nat.le_refl _, r0, by simp, by omega, by rw [← hlk]; rfl⟩
            · exact .inr hlk
          · exact .inr hlk
    · rename_i hw
      split at h
      · rename_i v H' hop
        split at h
        · rename_i hall
          obtain ⟨rfl, rs, h1, h2, h3⟩ := evOpsD_recs ds (k + 1) _ _ σ' ctl h
          let r0 : Rec := { d := d, σ := σ, w := true, v := v, H' := H' }
          refine ⟨rfl, r0 :: rs, by simp [h1, r0], .cons r0 rs σ' (.inr ⟨rfl, hw, hop⟩) h2, ?_⟩
          intro j r hr hrw i hi
          cases j with
          | zero =>
            simp only [List.getElem?_cons_zero, Option.some.injEq] at hr; subst hr
            have hd := (List.all_eq_true.1 hall) i hi
            cases hl : lkL i lg with
            | none => rw [hl] at hd; cases hd
            | some e => rw [hl] at hd; exact ⟨e, hd, .inr rfl⟩
          | succ j =>
            simp only [List.getElem?_cons_succ] at hr
            obtain ⟨e, he, hcase⟩ := h3 j r hr hrw i hi
            refine ⟨e, he, ?_⟩
            rcases hcase with ⟨g1, q, g2, g3, g4⟩ | hlk
            · refine .inl ⟨by omega, q, ?_, by omega, g4⟩
              have : i - k = (i - (k + 1)) + 1 := by omega
              rw [this, List.getElem?_cons_succ]; exact g2
            · split at hlk
              · simp only [lkL] at hlk
                split at hlk
                · rename_i e2; subst e2; injection hlk with hlk
                  exact .inl ⟨Nat.le_refl _, r0, by simp, by omega, by rw [← hlk]; rfl⟩
                · exact .inr hlk
              · exact .inr hlk
        · cases h
      · cases h
/-- Which operand a slot is. -/
def hits : Dst → Opd → Bool
  | .p i, .p j => i == j
  | .t i, .t j => i == j
  | _, _ => false
theorem rho_put (σ : St) (d : Dst) (v : AV) (x : Opd) : rho (σ.put d v).p (σ.put d v).t x = cond (hits d x) (some v) (rho σ.p σ.t x) := by
  cases d <;> cases x <;> simp only [St.put, rho, hits, cond_false, lk_up, lk]
  all_goals
    rename_i i j
    by_cases h : i = j
    · simp [h]
    · have h2 : (i == j) = false := by simpa using h
      rw [h2, if_neg (Ne.symm h)]; rfl
/-- The operand's value, where the steps of S are done. -/
def rhoS (S : Nat → Bool) (x : Opd) : List Rec → Nat → Option AV → Option AV
  | [], _, a => a
  | r :: rs, k, a => rhoS S x rs (k + 1) (cond (S k && hits r.d.c.dst x) (some r.v) a)
theorem rhoS_congr {S S' : Nat → Bool} {x : Opd} : ∀ (rs : List Rec) (k : Nat) (a : Option AV), (∀ j r, rs[j]? = some r → hits r.d.c.dst x = true → S (k + j) = S' (k + j)) → rhoS S x rs k a = rhoS S' x rs k a
  | [], _, _, _ => rfl
  | r :: rs, k, a, h => by
    simp only [rhoS]
    have h0 : (S k && hits r.d.c.dst x) = (S' k && hits r.d.c.dst x) := by
      by_cases hh : hits r.d.c.dst x = true
      · rw [hh, show S k = S' k from h 0 r rfl hh]
      · simp [hh]
    rw [h0]
    exact rhoS_congr rs (k + 1) _ fun j q hq hh => by have := h (j + 1) q (by simpa using hq) hh; rw [show k + 1 + j = k + (j + 1) by omega]; exact this
/-- The canonical run's operands. -/
theorem chain_rho {call : FuncId → List AV → Heap → Option (End × Heap)} {x : Opd} : ∀ (rs : List Rec) (k : Nat) (σ σ' : St), Chain call rs σ σ' →
    (∀ j r, rs[j]? = some r → rho r.σ.p r.σ.t x = rhoS (fun i => decide (i < k + j)) x rs k (rho σ.p σ.t x)) ∧ rho σ'.p σ'.t x = rhoS (fun _ => true) x rs k (rho σ.p σ.t x)
  | [], k, σ, σ', h => by cases h; exact ⟨fun j r h => by simp at h, rfl⟩
  | r :: rs, k, σ, σ', h => by
    cases h with
    | cons _ _ _ hok hch =>
      obtain ⟨h1, h2⟩ := chain_rho rs (k + 1) _ σ' hch
      have hnext : rho r.next.p r.next.t x = cond (hits r.d.c.dst x) (some r.v) (rho r.σ.p r.σ.t x) := by
        unfold Rec.next
        exact rho_put _ _ _ _
      constructor
      · intro j q hq
        cases j with
        | zero =>
          simp only [List.getElem?_cons_zero, Option.some.injEq] at hq; subst hq
          simp only [rhoS]
          have : (decide (k < k + 0) && hits r.d.c.dst x) = false := by simp
          rw [this]
          have hz : ∀ (rs : List Rec) (k' : Nat) (a : Option AV), k + 0 ≤ k' → rhoS (fun i => decide (i < k + 0)) x rs k' a = a := by
            intro rs
            induction rs with
            | nil => intro k' a _; rfl
            | cons r rs ih =>
              intro k' a hk
              simp only [rhoS]
              have : decide (k' < k + 0) = false := by simp; omega
              rw [this, Bool.false_and, cond_false]
              exact ih (k' + 1) a (by omega)
          rw [hz rs (k + 1) _ (by omega)]
          rfl
        | succ j =>
          simp only [List.getElem?_cons_succ] at hq
          rw [h1 j q hq, hnext]
          simp only [rhoS]
          have : decide (k < k + (j + 1)) = true := by simp
          rw [this, Bool.true_and, show k + 1 + j = k + (j + 1) by omega]
      · rw [h2, hnext]
        simp only [rhoS, Bool.true_and]
/-- A step more. -/
theorem rhoS_add {S : Nat → Bool} {x : Opd} {i : Nat} {q : Rec} : ∀ (rs : List Rec) (k : Nat) (a : Option AV), k ≤ i → rs[i - k]? = some q → S i = false → (hits q.d.c.dst x = true → ∀ j r, rs[j]? = some r → hits r.d.c.dst x = true → i < k + j → S (k + j) = false) →
    rhoS (fun j => S j || decide (j = i)) x rs k a = cond (hits q.d.c.dst x) (some q.v) (rhoS S x rs k a)
  | [], k, a, _, h, _, _ => by simp at h
  | r :: rs, k, a, hk, hq, hS, hlast => by
    by_cases hki : i = k
    · subst hki
      simp only [Nat.sub_self, List.getElem?_cons_zero, Option.some.injEq] at hq
      subst hq
      simp only [rhoS, decide_true, Bool.or_true, Bool.true_and, hS, Bool.false_and, cond_false]
      have hc : ∀ a, rhoS (fun j => S j || decide (j = i)) x rs (i + 1) a = rhoS S x rs (i + 1) a := fun a => rhoS_congr rs (i + 1) a fun j r _ _ => by
        have : decide (i + 1 + j = i) = false := by simp; omega
        simp [this]
      rw [hc]
      by_cases hh : hits r.d.c.dst x = true
      · rw [hh, cond_true, cond_true]
        have hn : ∀ (rs' : List Rec) (k' : Nat) (a : Option AV), (∀ j r', rs'[j]? = some r' → hits r'.d.c.dst x = true → S (k' + j) = false) → rhoS S x rs' k' a = a := by
          intro rs'
          induction rs' with
          | nil => intro k' a _; rfl
          | cons r' rs' ih =>
            intro k' a h
            simp only [rhoS]
            have : (S k' && hits r'.d.c.dst x) = false := by
              by_cases h2 : hits r'.d.c.dst x = true
              · rw [show S k' = false from h 0 r' rfl h2]; rfl
              · simp [h2]
            rw [this, cond_false]
            exact ih (k' + 1) a fun j q hq h2 => by have := h (j + 1) q (by simpa using hq) h2; rw [show k' + 1 + j = k' + (j + 1) by omega]; exact this
        exact hn rs (i + 1) _ fun j q hq h2 => by have := hlast hh (j + 1) q (by simpa using hq) h2 (by omega); rw [show i + 1 + j = i + (j + 1) by omega]; exact this
      · simp only [Bool.not_eq_true] at hh; rw [hh, cond_false, cond_false]
    · have hq' : rs[i - (k + 1)]? = some q := by
        have : i - k = (i - (k + 1)) + 1 := by omega
        rw [this, List.getElem?_cons_succ] at hq; exact hq
      simp only [rhoS]
      have : (S k || decide (k = i)) = S k := by
        have : decide (k = i) = false := by simp; omega
        rw [this, Bool.or_false]
      rw [this]
      exact rhoS_add rs (k + 1) _ (by omega) hq' hS fun hh j r hr h2 hlt => by have := hlast hh (j + 1) r (by simpa using hr) h2 (by omega); rw [show k + 1 + j = k + (j + 1) by omega]; exact this
end Go.Ev
/- Regions that draw their order: memory at partial states. -/
namespace Go.Ev
open Go Go.RowKit
set_option maxHeartbeats 1000000 in
theorem evOp_map {ρ : Opd → Option AV} (H H0 : Heap) {c : COp} (hk : kindC c = 0) : evOp ρ H c = (evOp ρ H0 c).map fun r => (r.1, H) := by
  cases c <;> first | (simp [kindC] at hk; done) | skip
  all_goals simp only [evOp, Option.map_map, Function.comp_def]
  all_goals (repeat' split) <;> first | rfl | (simp only [Option.map_map, Function.comp_def, Option.map_some, Option.map_none]; done) | (simp [Option.map_map, Function.comp_def]; done)
theorem evOp_pure {ρ : Opd → Option AV} {H H2 H' : Heap} {c : COp} {v : AV} (hk : kindC c = 0) (h : evOp ρ H c = some (v, H')) : evOp ρ H2 c = some (v, H2) := by
  rw [evOp_map H2 H hk, h]; rfl
theorem evOp_quiet {ρ : Opd → Option AV} {H H' : Heap} {c : COp} {v : AV} (hk : kindC c = 0 ∨ kindC c = 1) (h : evOp ρ H c = some (v, H')) : H' = H := by
  rcases hk with hk | hk
  · have := evOp_pure (H2 := H) hk h
    rw [h] at this
    injection this with this
    injection this
  · cases c <;> first | (simp [kindC] at hk; done) | skip
    · simp only [evOp] at h
      split at h
      · split at h
        · split at h
          · simp only [Option.some.injEq, Prod.mk.injEq] at h; exact h.2.symm
          · cases h
        · cases h
      · cases h
    · simp only [evOp] at h
      split at h
      · split at h
        · split at h
          · simp only [Option.some.injEq, Prod.mk.injEq] at h; exact h.2.symm
          · cases h
        · cases h
      · cases h
    · simp only [evOp] at h
      split at h
      · split at h
        · simp only [Option.map_eq_some_iff, Prod.mk.injEq] at h
          obtain ⟨_, _, _, h⟩ := h; exact h.symm
        · cases h
      · cases h
end Go.Ev
