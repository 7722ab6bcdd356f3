/- Several texts of this claim, joined. -/
import Derived.Test.YtifhmogcdgfojaaGreatDoorT09
set_option linter.unusedSimpArgs false
set_option linter.unusedVariables false

/- How a frame's state lies in the model; one operation of a region. -/
namespace Go.Ev
open Go Go.RowKit
/-- Panics on their way. -/
def ChR (ι : Plan) : List (AV × Bool) → List PanicEntry → Prop
  | [], l => l = []
  | (v, r) :: ch, l => ∃ v' l', l = { v := v', recovered := r, goexit := false } :: l' ∧ VR ι v v' ∧ ChR ι ch l'
theorem ChR.mono {ι ι' : Plan} (h : ι.le ι') : ∀ {ch : List (AV × Bool)} {l : List PanicEntry}, ChR ι ch l → ChR ι' ch l
  | [], _, e => e
  | _ :: _, _, ⟨v', l', e, r, rs⟩ => ⟨v', l', e, VR.mono h _ _ r, ChR.mono h rs⟩
theorem ChR.append {ι : Plan} : ∀ {a b : List (AV × Bool)} {l m : List PanicEntry}, ChR ι a l → ChR ι b m → ChR ι (a ++ b) (l ++ m)
  | [], _, _, _, e, h => by rw [e]; exact h
  | _ :: _, _, _, _, ⟨v', l', e, r, rs⟩, h => by rw [e]; exact ⟨v', _, rfl, r, ChR.append rs h⟩
/-- Deferred calls. -/
def DefR (ι : Plan) : List (FuncId × List AV) → List Deferred → Prop
  | [], l => l = []
  | (f, args) :: ds, l => ∃ cap vs l', l = { target := .fn (.func f) cap, args := vs } :: l' ∧ VRs ι args (vs ++ cap).toList ∧ DefR ι ds l'
theorem DefR.mono {ι ι' : Plan} (h : ι.le ι') : ∀ {ds : List (FuncId × List AV)} {l : List Deferred}, DefR ι ds l → DefR ι' ds l
  | [], _, e => e
  | _ :: _, _, ⟨c, v', l', e, r, rs⟩ => ⟨c, v', l', e, VRs.mono h _ _ r, DefR.mono h rs⟩
def ModeR (ι : Plan) : Up → FrameMode → Prop
  | .norm, _ => False
  | .ret, m => m = .returning
  | .pan ch, m => ∃ l, m = .panicking l ∧ ChR ι ch l
theorem ModeR.mono {ι ι' : Plan} (h : ι.le ι') : ∀ {u : Up} {m : FrameMode}, ModeR ι u m → ModeR ι' u m
  | .norm, _, e => e
  | .ret, _, e => e
  | .pan _, _, ⟨l, e, r⟩ => ⟨l, e, ChR.mono h r⟩
/-- What stands behind a frame: `cs0` when it was entered, `cs` now. -/
def UpR (ι : Plan) (κ : CallKind) (cs0 : List Frame) (u : Up) (cs : List Frame) : Prop :=
  (κ = .normal ∧ u = .norm ∧ cs = cs0) ∨ (κ = .deferred ∧ ∃ c0 rest m, cs0 = c0 :: rest ∧ cs = { c0 with mode := m } :: rest ∧ ModeR ι u m)
theorem UpR.mono {ι ι' : Plan} {κ : CallKind} {cs0 cs : List Frame} {u : Up} (h : ι.le ι') (hu : UpR ι κ cs0 u cs) : UpR ι' κ cs0 u cs := by
  rcases hu with h | ⟨h1, c0, rest, m, h2, h3, h4⟩
  · exact .inl h
  · exact .inr ⟨h1, c0, rest, m, h2, h3, ModeR.mono h h4⟩
def EndR (ι : Plan) : End → Ending → Prop
  | .ret v, e => ∃ v', e = .returned v' ∧ VR ι v v'
  | .pan ch, e => ∃ l, e = .panicked l ∧ ChR ι ch l
def Glob (P : Program) (ι : Plan) : Prop := ∀ g, g < P.globals.size → ∃ e, ι g = some ⟨g, 0, e⟩
/-- What is asked of the calls that a piece of code makes. -/
def CallOK (P : Program) (_B : Nat) (call : FuncId → List AV → Heap → Option (End × Heap)) : Prop :=
  ∀ f args H e H', call f args H = some (e, H') → (∃ fn, P.funcs[f]? = some fn ∧ fn.body.isSome = true ∧ (fn.name == "runtime.NumGoroutine") = false) ∧
    ∀ {B : Nat} ι w (vs : Array Value), Rel B ι H w → Glob P ι → VRs ι args vs.toList →
      Calls P f vs w fun e' w' => ∃ ι', ι.le ι' ∧ Rel B ι' H' w' ∧ Below B w w' ∧ EndR ι' e e'
/-- A frame's state. -/
structure SR (X : Cx) (B : Nat) (κ : CallKind) (cs0 : List Frame) (ι : Plan) (σ : St) (a : Act) (cs : List Frame) (w : World) : Prop where
  env : Env X ι σ.p σ.t a.tmps
  size : a.tmps.size = X.n
  rel : Rel B ι σ.H w
  dfr : DefR ι σ.d a.defers
  up : UpR ι κ cs0 σ.u cs
theorem lk_up (i j : Nat) (v : AV) : ∀ l : List (Nat × AV), lk i (up j v l) = if i = j then some v else lk i l
  | [] => by simp only [up, lk]
  | (k, x) :: l => by
    simp only [up]
    by_cases h : j = k
    · subst h
      simp only [if_true, lk]
      by_cases h2 : i = j <;> simp [h2]
    · rw [if_neg h]
      simp only [lk]
      by_cases h2 : i = k
      · subst h2; simp [Ne.symm h]
      · rw [if_neg h2, if_neg h2]; exact lk_up i j v l
section
variable {X : Cx} {ι : Plan} {B : Nat} {κ : CallKind} {cs0 cs : List Frame} {w : World} {a : Act} {σ : St}
theorem getD_set_same {tmps : Array Value} {j : Nat} {v : Value} (h : j < tmps.size) : (tmps.setIfInBounds j v).getD j undef = v := by
  simp [h]
theorem getD_set_ne {tmps : Array Value} {i j : Nat} {v : Value} (h : i ≠ j) : (tmps.setIfInBounds j v).getD i undef = tmps.getD i undef := by
  simp [Array.getElem?_setIfInBounds_ne (Ne.symm h)]
theorem SR.put {d : Dst} {dst : Option Tmp} {v : AV} {v' : Value} (h : SR X B κ cs0 ι σ a cs w) (hd : chkDst X dst d = true) (hv : VR ι v v') : SR X B κ cs0 ι (σ.put d v) (a.put dst v') cs w := by
  obtain ⟨hE, hs, hR, hD, hU⟩ := h
  cases dst with
  | none =>
    cases d <;> simp only [chkDst, Bool.false_eq_true] at hd
    exact ⟨hE, hs, hR, hD, hU⟩
  | some j =>
    cases d with
    | no => simp [chkDst] at hd
    | p i =>
      simp only [chkDst, Bool.and_eq_true, beq_iff_eq, decide_eq_true_eq] at hd
      obtain ⟨⟨rfl, hp⟩, hn⟩ := hd
      refine ⟨⟨fun i u hu => ?_, fun i u hu => ?_, hE.fg, fun i u hu => ?_, hE.tk⟩, by simp [Act.put, hs], hR, hD, hU⟩
      · simp only [St.put, lk_up] at hu
        simp only [Act.put]
        split at hu
        · rename_i e; subst e; injection hu with hu; subst hu
          rw [getD_set_same (by rw [hs]; exact hn)]; exact hv
        · rename_i e; rw [getD_set_ne e]; exact hE.fp _ _ hu
      · simp only [St.put] at hu
        have hne : i ≠ j := by intro e; subst e; have := hE.tk _ _ hu; rw [hp] at this; cases this
        simp only [Act.put]
        rw [getD_set_ne hne]; exact hE.ft _ _ hu
      · simp only [St.put, lk_up] at hu
        split at hu
        · rename_i e; subst e; exact hp
        · exact hE.pk _ _ hu
    | t i =>
      simp only [chkDst, Bool.and_eq_true, beq_iff_eq, decide_eq_true_eq, Bool.not_eq_true'] at hd
      obtain ⟨⟨rfl, hp⟩, hn⟩ := hd
      refine ⟨⟨fun i u hu => ?_, fun i u hu => ?_, hE.fg, hE.pk, fun i u hu => ?_⟩, by simp [Act.put, hs], hR, hD, hU⟩
      · simp only [St.put] at hu
        have hne : i ≠ j := by intro e; subst e; have := hE.pk _ _ hu; rw [hp] at this; cases this
        simp only [Act.put]
        rw [getD_set_ne hne]; exact hE.fp _ _ hu
      · simp only [St.put, lk] at hu
        simp only [Act.put]
        split at hu
        · rename_i e; subst e; injection hu with hu; subst hu
          rw [getD_set_same (by rw [hs]; exact hn)]; exact hv
        · rename_i e; rw [getD_set_ne e]; exact hE.ft _ _ hu
      · simp only [St.put, lk] at hu
        split at hu
        · rename_i e; subst e; exact hp
        · exact hE.tk _ _ hu
theorem SR.world {ι' : Plan} {H' : Heap} {w' : World} (h : SR X B κ cs0 ι σ a cs w) (hle : ι.le ι') (hR : Rel B ι' H' w') : SR X B κ cs0 ι' { σ with H := H' } a cs w' :=
  ⟨h.env.mono hle, h.size, hR, h.dfr.mono hle, h.up.mono hle⟩
theorem VR.undef (ι : Plan) : VR ι undefA undef := ⟨#[], rfl, rfl⟩
theorem lk_keep (i : Nat) (l : List (Nat × AV)) : ∀ (live : List Nat) (v : AV), lk i (keep live l) = some v → lk i l = some v
  | [], v, h => by simp [keep, lk] at h
  | j :: live, v, h => by
    simp only [keep] at h
    split at h
    · rename_i u hu
      simp only [lk] at h
      split at h
      · rename_i e; subst e; injection h with h; subst h; exact hu
      · exact lk_keep i l live v h
    · exact lk_keep i l live v h
theorem SR.keep (h : SR X B κ cs0 ι σ a cs w) (live : List Nat) : SR X B κ cs0 ι (σ.keep live) a cs w :=
  ⟨⟨fun i v hv => h.env.fp i v (lk_keep i _ live v hv), fun i v hv => by simp [St.keep, lk] at hv, h.env.fg, fun i v hv => h.env.pk i v (lk_keep i _ live v hv), fun i v hv => by simp [St.keep, lk] at hv⟩, h.size, h.rel, h.dfr, h.up⟩
theorem SR.fresh (h : SR X B κ cs0 ι σ a cs w) : SR X B κ cs0 ι { σ with t := [] } a cs w :=
  ⟨⟨h.env.fp, fun i v hv => by simp [lk] at hv, h.env.fg, h.env.pk, fun i v hv => by simp [lk] at hv⟩, h.size, h.rel, h.dfr, h.up⟩
/-- An operation's guard, as the checker has it. -/
def chkGuard (X : Cx) (ops : Array Oper) : Option (Nat × Bool) → Option (Opd × Bool) → Bool
  | none, none => true
  | some (j, w), some (x, w') => w == w' && (match (ops[j]?).bind (·.dst) with | some d => chkOpd X (.tmp d) x && decide (d < X.n) | none => false)
  | _, _ => false
def chkCop (X : Cx) (ops : Array Oper) (o : Oper) (c : Cop) : Bool :=
  chkDst X o.dst c.dst && chkOp X o.op c.op && chkGuard X ops o.guard c.guard
theorem guard_sound {ops : Array Oper} {o : Oper} {c : Cop} {b : Bool} (hE : Env X ι σ.p σ.t a.tmps) (hs : a.tmps.size = X.n) (hc : chkGuard X ops o.guard c.guard = true) (h : wantedA σ c.guard = some b) :
    Region.wanted o (yielded ops a.tmps) = b := by
  unfold Region.wanted
  cases hg : o.guard with
  | none =>
    rw [hg] at hc
    cases hcg : c.guard with
    | none => rw [hcg] at h; simp only [wantedA, Option.some.injEq] at h; exact h
    | some y => rw [hcg] at hc; simp [chkGuard] at hc
  | some y =>
    obtain ⟨j, wt⟩ := y
    rw [hg] at hc
    cases hcg : c.guard with
    | none => rw [hcg] at hc; simp [chkGuard] at hc
    | some z =>
      obtain ⟨x, wt'⟩ := z
      rw [hcg] at hc h
      simp only [chkGuard, Bool.and_eq_true, beq_iff_eq] at hc
      obtain ⟨rfl, hc⟩ := hc
      split at hc
      · rename_i d hd
        simp only [Bool.and_eq_true, decide_eq_true_eq] at hc
        simp only [wantedA] at h
        split at h
        · rename_i r hr
          injection h with h; subst h
          have hv : a.eval (.tmp d) = .bool r := rho_sound hE hc.1 hr
          have hv2 : a.tmps[d]? = some (.bool r) := by
            simp only [Act.eval] at hv
            rw [Array.getD_eq_getD_getElem?] at hv
            cases hx : a.tmps[d]? with
            | none => rw [hx] at hv; cases hv
            | some q => rw [hx] at hv; simp at hv; rw [hv]
          simp only [yielded, hd, Option.bind_some, hv2]
          cases r <;> cases wt <;> rfl
        · rename_i hr
          injection h with h; subst h
          obtain ⟨vs, hv, hvs⟩ := rho_sound hE hc.1 hr
          have hv' : a.eval (.tmp d) = .tuple vs := hv
          have hy : yielded ops a.tmps j = none := by
            simp only [Act.eval, Array.getD_eq_getD_getElem?] at hv'
            simp only [yielded, hd, Option.bind_some]
            cases hx : a.tmps[d]? with
            | none => rfl
            | some q => rw [hx] at hv'; simp at hv'; subst hv'; rfl
          simp only [hy]; rfl
        · cases h
      · cases hc
end
end Go.Ev
/- One operation of a region runs in the model as on the abstract machine. -/
namespace Go.Ev
open Go Go.RowKit
section
variable {X : Cx} {ι : Plan} {B : Nat} {κ : CallKind} {cs0 cs : List Frame} {w : World} {a : Act} {σ : St} {ops : Array Oper} {o : Oper} {c : Cop} {i : Nat} {rest : List Nat}
  {call : FuncId → List AV → Heap → Option (End × Heap)}
/-- What an operation of a region comes to, in the model. -/
def OpStep (X : Cx) (B : Nat) (κ : CallKind) (cs0 : List Frame) (ι : Plan) (σ : St) (a : Act) (cs : List Frame) (w : World) (ops : Array Oper) (i : Nat) (rest : List Nat) (c : Cop) (b : Frame) (k : List Item) : OOut → Prop
  | .val v H' => ∃ ι' a' w', ι.le ι' ∧ Below B w w' ∧ Steps X.P (lone (b.at a (.inRegion ops (i :: rest) :: k)) cs w) (lone (b.at a' (.inRegion ops rest :: k)) cs w') ∧ SR X B κ cs0 ι' (({ σ with H := H' } : St).put c.dst v) a' cs w'
  | .pan ch H' => ∃ ι' l w' todo, ι.le ι' ∧ Below B w w' ∧ Steps X.P (lone (b.at a (.inRegion ops (i :: rest) :: k)) cs w) (lone { b.at a todo with mode := .panicking l } cs w') ∧ ChR ι' ch l ∧ SR X B κ cs0 ι' { σ with H := H' } a cs w'
  | .dfr f args => ∃ a', Steps X.P (lone (b.at a (.inRegion ops (i :: rest) :: k)) cs w) (lone (b.at a' (.inRegion ops rest :: k)) cs w) ∧ SR X B κ cs0 ι (({ σ with d := (f, args) :: σ.d } : St).put c.dst undefA) a' cs w
  | .rcv v u => ∃ a' cs', Steps X.P (lone (b.at a (.inRegion ops (i :: rest) :: k)) cs w) (lone (b.at a' (.inRegion ops rest :: k)) cs' w) ∧ SR X B κ cs0 ι (({ σ with u := u } : St).put c.dst v) a' cs' w
theorem finish_at' (b : Frame) (a : Act) (k : List Item) (v : Value) (ho : ops[i]? = some o) : (b.at a (.inRegion ops (i :: rest) :: k)).finish v = b.at (a.put o.dst v) (.inRegion ops rest :: k) := by
  rw [Frame.finish_at, ho]; rfl
theorem step_value {P : Program} {b : Frame} {k : List Item} {v : Value} {w' : World} (ho : ops[i]? = some o) (hw : Region.wanted o (yielded ops a.tmps) = true) (hr : (execOp a.eval o).run P w = .ok (.value v) w') :
    step P (lone (b.at a (.inRegion ops (i :: rest) :: k)) cs w) = .next (lone (b.at (a.put o.dst v) (.inRegion ops rest :: k)) cs w') :=
  step_lone_go (by rw [stepG_op ho hw, ← finish_at' b a k v ho]; simp [stepG.apply, hr])
theorem step_skipped {P : Program} {b : Frame} {k : List Item} {w' : World} (ho : ops[i]? = some o) (hw : Region.wanted o (yielded ops a.tmps) = true) (hr : (execOp a.eval o).run P w = .ok .skip w') :
    step P (lone (b.at a (.inRegion ops (i :: rest) :: k)) cs w) = .next (lone (b.at (a.put o.dst undef) (.inRegion ops rest :: k)) cs w') :=
  step_lone_go (by rw [stepG_op ho hw, ← finish_at' b a k undef ho]; simp [stepG.apply, hr])
theorem step_panics {P : Program} {b : Frame} {k : List Item} {v : Value} {w' : World} (ho : ops[i]? = some o) (hw : Region.wanted o (yielded ops a.tmps) = true) (hr : (execOp a.eval o).run P w = .halt (.panic v) w') :
    step P (lone (b.at a (.inRegion ops (i :: rest) :: k)) cs w) = .next (lone { b.at a (.inRegion ops (i :: rest) :: k) with mode := .panicking [{ v, recovered := false }] } cs w') :=
  step_lone_go (by rw [stepG_op ho hw, ← Frame.raise_at]; simp [stepG.apply, hr])
theorem step_enters {P : Program} {b : Frame} {k : List Item} {f : FuncId} {args : Array Value} {w' : World} (ho : ops[i]? = some o) (hw : Region.wanted o (yielded ops a.tmps) = true) (hr : (execOp a.eval o).run P w = .ok (.enter f args) w') :
    step P (lone (b.at a (.inRegion ops (i :: rest) :: k)) cs w) = .next (lone (Frame.enter P f args .normal) (b.at a (.inRegion ops (i :: rest) :: k) :: cs) w') :=
  step_lone_go (by rw [stepG_op ho hw]; simp [stepG.apply, hr, Frame.at])
theorem step_defers {P : Program} {b : Frame} {k : List Item} {d : Deferred} {w' : World} (ho : ops[i]? = some o) (hw : Region.wanted o (yielded ops a.tmps) = true) (hr : (execOp a.eval o).run P w = .ok (.defer d) w') :
    step P (lone (b.at a (.inRegion ops (i :: rest) :: k)) cs w) = .next (lone (b.at ({ a with defers := d :: a.defers }.put o.dst undef) (.inRegion ops rest :: k)) cs w') := by
  refine step_lone_go ?_
  have : ({ b.at a (.inRegion ops (i :: rest) :: k) with defers := d :: a.defers } : Frame).finish undef =
      b.at ({ a with defers := d :: a.defers }.put o.dst undef) (.inRegion ops rest :: k) := by
    have := Frame.finish_at b { a with defers := d :: a.defers } ops i rest k undef
    rw [ho] at this; exact this
  rw [stepG_op ho hw]; simp only [stepG.apply, Sem.runT_eq, hr, GStep.bare_after]
  exact congrArg (fun fr => GStep.go { frame := fr, callers := cs, status := .running, dying := none } w') this
theorem step_recovers {P : Program} {b : Frame} {k : List Item} {v : Value} {cs' : List Frame} {w' : World} (hb : b.kind = .deferred) (ho : ops[i]? = some o) (hw : Region.wanted o (yielded ops a.tmps) = true) (hr : (execOp a.eval o).run P w = .ok .recover w')
    (hrec : recoverD cs = some (v, cs')) :
    step P (lone (b.at a (.inRegion ops (i :: rest) :: k)) cs w) = .next (lone (b.at (a.put o.dst v) (.inRegion ops rest :: k)) cs' w') := by
  have hk : (b.at a (.inRegion ops (i :: rest) :: k)).kind = .deferred := hb
  have htr := tryRecover_deferred hk cs
  refine step_lone_go ?_
  rw [stepG_op ho hw, ← finish_at' b a k v ho]
  simp only [Frame.at] at htr ⊢
  simp [stepG.apply, hr, htr, hrec]
theorem step_recovers_none {P : Program} {b : Frame} {k : List Item} {w' : World} (hb : b.kind = .deferred) (ho : ops[i]? = some o) (hw : Region.wanted o (yielded ops a.tmps) = true) (hr : (execOp a.eval o).run P w = .ok .recover w')
    (hrec : recoverD cs = none) :
    step P (lone (b.at a (.inRegion ops (i :: rest) :: k)) cs w) = .next (lone (b.at (a.put o.dst .nilIface) (.inRegion ops rest :: k)) cs w') := by
  have hk : (b.at a (.inRegion ops (i :: rest) :: k)).kind = .deferred := hb
  have htr := tryRecover_deferred hk cs
  refine step_lone_go ?_
  rw [stepG_op ho hw, ← finish_at' b a k .nilIface ho]
  simp only [Frame.at] at htr ⊢
  simp [stepG.apply, hr, htr, hrec]
theorem run_callFunc_enter {P : Program} {f : FuncId} {fn : Func} (hf : P.funcs[f]? = some fn) (hb : fn.body.isSome = true) (hn : (fn.name == "runtime.NumGoroutine") = false) (args : Array Value) (w : World) :
    (callFunc f args).run P w = .ok (.enter f args) w := by
  have h1 : fn.name ≠ "runtime.NumGoroutine" := by simpa using hn
  have h2 : fn.body ≠ none := by intro h; rw [h] at hb; cases hb
  simp [callFunc, hf, h1, h2]
/-- A call, on its way. -/
theorem call_step (hcall : CallOK X.P B call) (h : SR X B κ cs0 ι σ a cs w) (hd : chkDst X o.dst c.dst = true) (ho : ops[i]? = some o) (hw : Region.wanted o (yielded ops a.tmps) = true)
    {f : FuncId} {l : List AV} {vs : Array Value} {r : End × Heap} (hr : (execOp a.eval o).run X.P w = (callFunc f vs).run X.P w) (hv : VRs ι l vs.toList) (hev : call f l σ.H = some r) (b : Frame) (k : List Item) :
    OpStep X B κ cs0 ι σ a cs w ops i rest c b k (endOut r) := by
  obtain ⟨e, H'⟩ := r
  obtain ⟨⟨fn, hf, hb, hn⟩, hc⟩ := hcall f l σ.H e H' hev
  rw [run_callFunc_enter hf hb hn] at hr
  have hs := step_enters (cs := cs) (rest := rest) (b := b) (k := k) ho hw hr
  obtain ⟨e', w', fr, ⟨ι', hle, hR', hB', hE'⟩, hcomes, _, hleave⟩ := hc ι w vs h.rel h.env.fg hv (b.at a (.inRegion ops (i :: rest) :: k) :: cs)
  cases e with
  | ret v =>
    obtain ⟨v', rfl, hvr⟩ := hE'
    refine ⟨ι', a.put o.dst v', w', hle, hB', .head hs (Steps.trans hcomes (.one ?_)), (h.world hle hR').put hd hvr⟩
    rw [← finish_at' b a k v' ho]; exact step_leave_returned hleave
  | pan ch =>
    obtain ⟨l', rfl, hch⟩ := hE'
    refine ⟨ι', l', w', .inRegion ops (i :: rest) :: k, hle, hB', .head hs (Steps.trans hcomes (.one ?_)), hch, h.world hle hR'⟩
    rw [← Frame.raise_at]; exact step_leave_panicked hleave
theorem inv_call {op : Op} {f' : FuncId} {args' : List Opd} (h : chkOp X op (.call f' args') = true) : ∃ f args at_, op = .call { callee := .value (.func f), args := args, argTypes := at_ } ∧ f = f' ∧ chkOpds X args.toList args' = true := by
  cases op
  case call cl =>
    obtain ⟨callee, args, at_⟩ := cl
    cases callee with
    | invoke r m => exact absurd h Bool.false_ne_true
    | builtin bt => cases bt <;> exact absurd h Bool.false_ne_true
    | value x =>
      cases x <;> first | (exact absurd h Bool.false_ne_true) | skip
      simp only [chkOp, Bool.and_eq_true, beq_iff_eq] at h
      exact ⟨_, _, _, rfl, h⟩
  case makeFunc fn _ _ => cases fn <;> exact absurd h Bool.false_ne_true
  case defer cl => obtain ⟨callee, args, at_⟩ := cl; cases callee <;> exact absurd h Bool.false_ne_true
  all_goals exact absurd h Bool.false_ne_true
theorem inv_callP {op : Op} {g : Nat} {f' : FuncId} {args' : List Opd} (h : chkOp X op (.callP g f' args') = true) : ∃ f args at_, op = .call { callee := .value (.func f), args := args, argTypes := at_ } ∧ f = f' ∧ chkOpds X args.toList args' = true ∧ g = X.P.globals.size := by
  cases op
  case call cl =>
    obtain ⟨callee, args, at_⟩ := cl
    cases callee with
    | invoke r m => exact absurd h Bool.false_ne_true
    | builtin b => cases b <;> exact absurd h Bool.false_ne_true
    | value x =>
      cases x with
      | func f =>
        simp only [chkOp, Bool.and_eq_true, beq_iff_eq] at h
        exact ⟨f, args, at_, rfl, h.1.1, h.1.2, h.2⟩
      | _ => exact absurd h Bool.false_ne_true
  case makeFunc fn _ _ => cases fn <;> exact absurd h Bool.false_ne_true
  case defer cl => obtain ⟨callee, args, at_⟩ := cl; cases callee <;> exact absurd h Bool.false_ne_true
  all_goals exact absurd h Bool.false_ne_true
/-- A call that asks for no memory, on its way. -/
theorem callP_step (hcall : CallOK X.P B call) (h : SR X B κ cs0 ι σ a cs w) (hd : chkDst X o.dst c.dst = true) (ho : ops[i]? = some o) (hw : Region.wanted o (yielded ops a.tmps) = true)
    {f : FuncId} {l : List AV} {vs : Array Value} {v : AV} {H1 : Heap} (hr : (execOp a.eval o).run X.P w = (callFunc f vs).run X.P w) (hv : VRs ι l vs.toList) (hl : AV.flats l = true) (hvf : v.flat = true) (hev : call f l (Heap.dead X.P.globals.size) = some (.ret v, H1)) (b : Frame) (k : List Item) :
    OpStep X B κ cs0 ι σ a cs w ops i rest c b k (.val v σ.H) := by
  obtain ⟨⟨fn, hf, hb, hn⟩, hc⟩ := hcall f l _ _ _ hev
  rw [run_callFunc_enter hf hb hn] at hr
  have hs := step_enters (cs := cs) (rest := rest) (b := b) (k := k) ho hw hr
  let ι0 : Plan := fun b => if b < X.P.globals.size then ι b else none
  have hι0 : ∀ b L, ι0 b = some L → b < X.P.globals.size ∧ ι b = some L := by
    intro b L hbl
    simp only [ι0] at hbl
    split at hbl
    · rename_i hlt; exact ⟨hlt, hbl⟩
    · cases hbl
  have hR0 : Rel w.heap.size ι0 (Heap.dead X.P.globals.size) w := {
    dom := fun b L hb => ⟨(hι0 b L hb).1, (h.rel.dom b L (hι0 b L hb).2).2⟩
    live := fun b c u hg => by rw [Heap.get_dead] at hg; cases hg
    ownu := fun b c L _ hg => by rw [Heap.get_dead] at hg; cases hg
    iter := fun b s p hg => by rw [Heap.get_dead] at hg; cases hg
    ty := fun b c e L hg => by rw [Heap.get_dead] at hg; cases hg
    mapb := fun b es hg => by rw [Heap.get_dead] at hg; cases hg
    inj := fun b b' L L' _ _ hdd => absurd (Heap.get_dead _ b') hdd
    size := Nat.le_refl _ }
  have hG0 : Glob X.P ι0 := fun g hg => by
    obtain ⟨e, he⟩ := h.env.fg g hg
    exact ⟨e, by simp only [ι0, if_pos hg]; exact he⟩
  obtain ⟨e', w', fr, ⟨ι', hle, hR', hB', hE'⟩, hcomes, _, hleave⟩ := hc ι0 w vs hR0 hG0 (VRs.flat l _ hl hv) (b.at a (.inRegion ops (i :: rest) :: k) :: cs)
  obtain ⟨v', rfl, hvr⟩ := hE'
  refine ⟨ι, a.put o.dst v', w', ι.le_refl, hB'.mono h.rel.size, .head hs (Steps.trans hcomes (.one ?_)), (h.world ι.le_refl (h.rel.world hB'.size hB'.block)).put hd (VR.flat v v' hvf hvr)⟩
  rw [← finish_at' b a k v' ho]; exact step_leave_returned hleave
theorem inv_callV {op : Op} {y : Opd} {args' : List Opd} (h : chkOp X op (.callV y args') = true) : ∃ x args at_, op = .call { callee := .value x, args := args, argTypes := at_ } ∧ chkOpd X x y = true ∧ chkOpds X args.toList args' = true := by
  cases op
  case call cl =>
    obtain ⟨callee, args, at_⟩ := cl
    cases callee with
    | invoke r m => exact absurd h Bool.false_ne_true
    | builtin bt => cases bt <;> exact absurd h Bool.false_ne_true
    | value x =>
      have h' : (chkOpd X x y && chkOpds X args.toList args') = true := by cases x <;> exact h
      simp only [Bool.and_eq_true] at h'
      exact ⟨_, _, _, rfl, h'⟩
  case makeFunc fn _ _ => cases fn <;> exact absurd h Bool.false_ne_true
  case defer cl => obtain ⟨callee, args, at_⟩ := cl; cases callee <;> exact absurd h Bool.false_ne_true
  all_goals exact absurd h Bool.false_ne_true
theorem inv_dfr {op : Op} {y : Opd} {args' : List Opd} (h : chkOp X op (.dfr y args') = true) : ∃ x args at_, op = .defer { callee := .value x, args := args, argTypes := at_ } ∧ chkOpd X x y = true ∧ chkOpds X args.toList args' = true := by
  cases op
  case call cl =>
    obtain ⟨callee, args, at_⟩ := cl
    cases callee with
    | invoke r m => exact absurd h Bool.false_ne_true
    | builtin bt => cases bt <;> exact absurd h Bool.false_ne_true
    | value x => cases x <;> exact absurd h Bool.false_ne_true
  case makeFunc fn _ _ => cases fn <;> exact absurd h Bool.false_ne_true
  case defer cl =>
    obtain ⟨callee, args, at_⟩ := cl
    cases callee <;> first | (exact absurd h Bool.false_ne_true) | skip
    simp only [chkOp, Bool.and_eq_true] at h
    exact ⟨_, _, _, rfl, h⟩
  all_goals exact absurd h Bool.false_ne_true
theorem inv_panic {op : Op} {y : Opd} (h : chkOp X op (.panic y) = true) : (∃ x, op = .panic x ∧ chkOpd X x y = true) ∨ (∃ args at_, op = .call { callee := .builtin .panic, args := args, argTypes := at_ } ∧ chkOpds X args.toList [y] = true) := by
  cases op
  case call cl =>
    obtain ⟨callee, args, at_⟩ := cl
    cases callee with
    | invoke r m => exact absurd h Bool.false_ne_true
    | builtin bt =>
      cases bt <;> first | (exact absurd h Bool.false_ne_true) | skip
      exact .inr ⟨_, _, rfl, h⟩
    | value x => cases x <;> exact absurd h Bool.false_ne_true
  case makeFunc fn _ _ => cases fn <;> exact absurd h Bool.false_ne_true
  case defer cl => obtain ⟨callee, args, at_⟩ := cl; cases callee <;> exact absurd h Bool.false_ne_true
  case panic x => exact .inl ⟨_, rfl, h⟩
  all_goals exact absurd h Bool.false_ne_true
theorem inv_recover {op : Op} (h : chkOp X op .recover = true) : ∃ args at_, op = .call { callee := .builtin .recover, args := args, argTypes := at_ } := by
  cases op
  case call cl =>
    obtain ⟨callee, args, at_⟩ := cl
    cases callee with
    | invoke r m => exact absurd h Bool.false_ne_true
    | builtin bt =>
      cases bt <;> first | (exact absurd h Bool.false_ne_true) | skip
      exact ⟨_, _, rfl⟩
    | value x => cases x <;> exact absurd h Bool.false_ne_true
  case makeFunc fn _ _ => cases fn <;> exact absurd h Bool.false_ne_true
  case defer cl => obtain ⟨callee, args, at_⟩ := cl; cases callee <;> exact absurd h Bool.false_ne_true
  all_goals exact absurd h Bool.false_ne_true
theorem op_step (hcall : CallOK X.P B call) (h : SR X B κ cs0 ι σ a cs w) (ho : ops[i]? = some o) (hw : Region.wanted o (yielded ops a.tmps) = true) (hc : chkCop X ops o c = true) {out : OOut} (hev : evOp1 call σ c.op = some out)
    (b : Frame) (k : List Item) (hb : b.kind = κ) : OpStep X B κ cs0 ι σ a cs w ops i rest c b k out := by
  simp only [chkCop, Bool.and_eq_true] at hc
  obtain ⟨⟨hd, hop⟩, _⟩ := hc
  by_cases hsim : simpleC c.op = true
  · -- a simple one
    have hev' : (match evOp (rho σ.p σ.t) σ.H c.op with | some (v, H) => some (OOut.val v H) | none => none) = some out := by
      rw [← hev]
      cases hco : c.op <;> first | rfl | (rw [hco] at hsim; simp [simpleC] at hsim)
    split at hev'
    · rename_i v H' hsome
      injection hev' with hev'; subst hev'
      obtain ⟨nx, w', v', hrun, hnx, ι', hle, hR', hB', hvr⟩ := op_sound hop hsim h.env h.rel hsome
      refine ⟨ι', a.put o.dst v', w', hle, hB', .one ?_, (h.world hle hR').put hd hvr⟩
      rcases hnx with rfl | ⟨rfl, rfl⟩
      · exact step_value ho hw hrun
      · exact step_skipped ho hw hrun
    · cases hev'
  · cases hco : c.op <;> rw [hco] at hsim hev hop <;> first | (simp [simpleC] at hsim; done) | skip
    case call f' args' =>
      simp only [evOp1] at hev
      split at hev
      · rename_i l hl
        obtain ⟨r, hr, hre⟩ := Option.map_eq_some_iff.1 hev
        subst hre
        obtain ⟨f, args, at_, hoo, rfl, hargs⟩ := inv_call hop
        have hvs := rhos_sound h.env hargs hl
        refine call_step hcall h hd ho hw (vs := args.map a.eval) (l := l) ?_ (by simpa using hvs) hr b k
        have ef : a.eval (.func f) = .func (.func f) #[] #[] := rfl
        simp only [execOp, hoo, resolve, Deferred.ofValue, ef, Sem.run_bind, Sem.run_pure, Result.andThen_ok, invoke, Array.append_empty, Array.empty_append]
      · cases hev
    case ext k' xs' =>
      simp only [evOp1] at hev
      split at hev
      · rename_i v H' hsome
        injection hev with hev; subst hev
        obtain ⟨nx, w', v', hrun, hnx, ι', hle, hR', hB', hvr⟩ := ext_sound hop h.env h.rel hsome
        refine ⟨ι', a.put o.dst v', w', hle, hB', .one ?_, (h.world hle hR').put hd hvr⟩
        rcases hnx with rfl | ⟨rfl, rfl⟩
        · exact step_value ho hw hrun
        · exact step_skipped ho hw hrun
      · cases hev
    case callQ g' f' args' =>
      exact absurd hop (by
        cases o.op <;> first | exact Bool.false_ne_true | skip
        all_goals (rename_i cl; obtain ⟨callee, args, at_⟩ := cl; cases callee <;> first | exact Bool.false_ne_true | (rename_i x; cases x <;> exact Bool.false_ne_true)))
    case callP g' f' args' =>
      simp only [evOp1] at hev
      split at hev
      · rename_i l hl
        split at hev
        · rename_i hfl
          split at hev
          · rename_i v H1 hr
            split at hev
            · rename_i hvf
              injection hev with hev; subst hev
              obtain ⟨f, args, at_, hoo, rfl, hargs, rfl⟩ := inv_callP hop
              have hvs := rhos_sound h.env hargs hl
              refine callP_step hcall h hd ho hw (vs := args.map a.eval) (l := l) ?_ (by simpa using hvs) hfl hvf hr b k
              have ef : a.eval (.func f) = .func (.func f) #[] #[] := rfl
              simp only [execOp, hoo, resolve, Deferred.ofValue, ef, Sem.run_bind, Sem.run_pure, Result.andThen_ok, invoke, Array.append_empty, Array.empty_append]
            · cases hev
          · cases hev
        · cases hev
      · cases hev
    case callV x' args' =>
      simp only [evOp1] at hev
      split at hev
      · rename_i f cap hx
        split at hev
        · rename_i l hl
          obtain ⟨r, hr, hre⟩ := Option.map_eq_some_iff.1 hev
          subst hre
          obtain ⟨x, args, at_, hoo, hcx, hargs⟩ := inv_callV hop
          obtain ⟨vs0, e0, hv0⟩ := rho_sound h.env hcx hx
          have hvs := rhos_sound h.env hargs hl
          refine call_step hcall h hd ho hw (vs := args.map a.eval ++ vs0) (l := l ++ cap) ?_ (by simpa using hvs.append hv0) hr b k
          simp only [execOp, hoo, resolve, Deferred.ofValue, e0, Sem.run_bind, Sem.run_pure, Result.andThen_ok, invoke, Array.empty_append]
        · cases hev
      · cases hev
    case dfr x' args' =>
      simp only [evOp1] at hev
      split at hev
      · rename_i f cap hx
        split at hev
        · rename_i l hl
          injection hev with hev; subst hev
          obtain ⟨x, args, at_, hoo, hcx, hargs⟩ := inv_dfr hop
          obtain ⟨vs0, e0, hv0⟩ := rho_sound h.env hcx hx
          have hvs := rhos_sound h.env hargs hl
          have hrun : (execOp a.eval o).run X.P w = .ok (.defer { target := .fn (.func f) vs0, args := args.map a.eval }) w := by
            simp only [execOp, hoo, resolve, Deferred.ofValue, e0, Sem.run_bind, Sem.run_pure, Result.andThen_ok, Array.empty_append]
          refine ⟨_, .one (step_defers ho hw hrun), ?_⟩
          have h2 : SR X B κ cs0 ι { σ with d := (f, l ++ cap) :: σ.d } { a with defers := { target := .fn (.func f) vs0, args := args.map a.eval } :: a.defers } cs w :=
            ⟨h.env, h.size, h.rel, ⟨vs0, args.map a.eval, a.defers, rfl, by simpa using hvs.append hv0, h.dfr⟩, h.up⟩
          exact h2.put hd (VR.undef ι)
        · cases hev
      · cases hev
    case panic x' =>
      simp only [evOp1] at hev
      split at hev
      · rename_i t u hx
        injection hev with hev; subst hev
        rcases inv_panic hop with ⟨x, hoo, hcx⟩ | ⟨args, at_, hoo, hargs⟩
        · obtain ⟨u', e0, hv0⟩ := rho_sound h.env hcx hx
          have hrun : (execOp a.eval o).run X.P w = .halt (.panic (.iface t u')) w := by
            simp [execOp, hoo, Instr.panic, e0]
          exact ⟨ι, _, w, _, ι.le_refl, Below.refl _ _, .one (step_panics ho hw hrun), ⟨_, _, rfl, ⟨u', rfl, hv0⟩, rfl⟩, h⟩
        · obtain ⟨x, hxx, hcx⟩ := opds1 hargs
          have hargs' : args = #[x] := toArray_of hxx
          obtain ⟨u', e0, hv0⟩ := rho_sound h.env hcx hx
          have hrun : (execOp a.eval o).run X.P w = .halt (.panic (.iface t u')) w := by
            simp [execOp, hoo, hargs', resolve, invoke, builtin, Instr.panic, e0]
          exact ⟨ι, _, w, _, ι.le_refl, Below.refl _ _, .one (step_panics ho hw hrun), ⟨_, _, rfl, ⟨u', rfl, hv0⟩, rfl⟩, h⟩
      · cases hev
    case recover =>
      obtain ⟨args, at_, hoo⟩ := inv_recover hop
      have hrun : (execOp a.eval o).run X.P w = .ok .recover w := by
        simp [execOp, hoo, resolve, invoke, builtin]
      simp only [evOp1] at hev
      rcases h.up with ⟨hk, hu, hcs⟩ | ⟨hk, c0, rest', m, hcs0, hcs, hm⟩
      · rw [hu] at hev; cases hev
      · rw [hk] at hb
        split at hev
        · cases hev
        · rename_i hu
          injection hev with hev; subst hev
          rw [hu] at hm
          have hm' : m = .returning := hm
          have hrec : recoverD cs = none := by rw [hcs, hm']; rfl
          refine ⟨_, cs, .one (step_recovers_none hb ho hw hrun hrec), ?_⟩
          have h2 : SR X B κ cs0 ι { σ with u := .ret } a cs w := ⟨h.env, h.size, h.rel, h.dfr, .inr ⟨hk, c0, rest', m, hcs0, hcs, hm⟩⟩
          exact h2.put hd rfl
        · rename_i v older hu
          injection hev with hev; subst hev
          rw [hu] at hm
          obtain ⟨l, hml, hch⟩ := hm
          obtain ⟨v', l', rfl, hv, hch'⟩ := hch
          have hrec : recoverD cs = some (v', { c0 with mode := .panicking ({ v := v', recovered := true, goexit := false } :: l') } :: rest') := by rw [hcs, hml]; rfl
          refine ⟨_, _, .one (step_recovers hb ho hw hrun hrec), ?_⟩
          have h2 : SR X B κ cs0 ι { σ with u := .pan ((v, true) :: older) } a ({ c0 with mode := .panicking ({ v := v', recovered := true, goexit := false } :: l') } :: rest') w :=
            ⟨h.env, h.size, h.rel, h.dfr, .inr ⟨hk, c0, rest', _, hcs0, rfl, ⟨_, rfl, ⟨v', l', rfl, hv, hch'⟩⟩⟩⟩
          exact h2.put hd hv
        · rename_i ch hne hu
          injection hev with hev; subst hev
          rw [hu] at hm
          obtain ⟨l, hml, hch⟩ := hm
          have hrec : recoverD cs = none := by
            rw [hcs, hml]
            cases ch with
            | nil => have : l = [] := hch; subst this; rfl
            | cons x ch =>
              obtain ⟨v, r⟩ := x
              cases r with
              | false => exact absurd rfl (hne v ch)
              | true => obtain ⟨v', l', rfl, _, _⟩ := hch; rfl
          refine ⟨_, cs, .one (step_recovers_none hb ho hw hrun hrec), ?_⟩
          have h2 : SR X B κ cs0 ι { σ with u := .pan ch } a cs w := ⟨h.env, h.size, h.rel, h.dfr, .inr ⟨hk, c0, rest', m, hcs0, hcs, ⟨l, hml, hch⟩⟩⟩
          exact h2.put hd rfl
end
end Go.Ev
