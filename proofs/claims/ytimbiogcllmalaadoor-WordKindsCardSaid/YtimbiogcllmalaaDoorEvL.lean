/- How a frame's state lies in the model; one operation of a region. -/
import Derived.Test.YtimbiogcllmalaaDoorEvK
namespace Go.Ev
open Go Go.RowKit

/-- Panics on their way. -/
def ChR (ι : Plan) : List (AV × Bool) → List PanicEntry → Prop
  | [], l => l = []
  | (v, r) :: ch, l => ∃ v' l', l = { v := v', recovered := r, goexit := false } :: l' ∧ VR ι v v' ∧ ChR ι ch l'

theorem ChR.mono {ι ι' : Plan} (h : ι.le ι') : ∀ {ch : List (AV × Bool)} {l : List PanicEntry}, ChR ι ch l → ChR ι' ch l
  | [], _, e => e
  | _ :: _, _, ⟨v', l', e, r, rs⟩ => ⟨v', l', e, VR.mono h _ _ r, ChR.mono h rs⟩

theorem ChR.append {ι : Plan} : ∀ {a b : List (AV × Bool)} {l m : List PanicEntry}, ChR ι a l → ChR ι b m → ChR ι (a ++ b) (l ++ m)
  | [], _, _, _, e, h => by rw [e]; exact h
  | _ :: _, _, _, _, ⟨v', l', e, r, rs⟩, h => by rw [e]; exact ⟨v', _, rfl, r, ChR.append rs h⟩

/-- Deferred calls. -/
def DefR (ι : Plan) : List (FuncId × List AV) → List Deferred → Prop
  | [], l => l = []
  | (f, args) :: ds, l => ∃ cap vs l', l = { target := .fn (.func f) cap, args := vs } :: l' ∧ VRs ι args (vs ++ cap).toList ∧ DefR ι ds l'

theorem DefR.mono {ι ι' : Plan} (h : ι.le ι') : ∀ {ds : List (FuncId × List AV)} {l : List Deferred}, DefR ι ds l → DefR ι' ds l
  | [], _, e => e
  | _ :: _, _, ⟨c, v', l', e, r, rs⟩ => ⟨c, v', l', e, VRs.mono h _ _ r, DefR.mono h rs⟩

def ModeR (ι : Plan) : Up → FrameMode → Prop
  | .norm, _ => False
  | .ret, m => m = .returning
  | .pan ch, m => ∃ l, m = .panicking l ∧ ChR ι ch l

theorem ModeR.mono {ι ι' : Plan} (h : ι.le ι') : ∀ {u : Up} {m : FrameMode}, ModeR ι u m → ModeR ι' u m
  | .norm, _, e => e
  | .ret, _, e => e
  | .pan _, _, ⟨l, e, r⟩ => ⟨l, e, ChR.mono h r⟩

/-- What stands behind a frame: `cs0` when it was entered, `cs` now. -/
def UpR (ι : Plan) (κ : CallKind) (cs0 : List Frame) (u : Up) (cs : List Frame) : Prop :=
  (κ = .normal ∧ u = .norm ∧ cs = cs0) ∨ (κ = .deferred ∧ ∃ c0 rest m, cs0 = c0 :: rest ∧ cs = { c0 with mode := m } :: rest ∧ ModeR ι u m)

theorem UpR.mono {ι ι' : Plan} {κ : CallKind} {cs0 cs : List Frame} {u : Up} (h : ι.le ι') (hu : UpR ι κ cs0 u cs) : UpR ι' κ cs0 u cs := by
  rcases hu with h | ⟨h1, c0, rest, m, h2, h3, h4⟩
  · exact .inl h
  · exact .inr ⟨h1, c0, rest, m, h2, h3, ModeR.mono h h4⟩

def EndR (ι : Plan) : End → Ending → Prop
  | .ret v, e => ∃ v', e = .returned v' ∧ VR ι v v'
  | .pan ch, e => ∃ l, e = .panicked l ∧ ChR ι ch l

def Glob (P : Program) (ι : Plan) : Prop := ∀ g, g < P.globals.size → ∃ e, ι g = some ⟨g, 0, e⟩

/-- What is asked of the calls that a piece of code makes. -/
def CallOK (P : Program) (_B : Nat) (call : FuncId → List AV → Heap → Option (End × Heap)) : Prop :=
  ∀ f args H e H', call f args H = some (e, H') → (∃ fn, P.funcs[f]? = some fn ∧ fn.body.isSome = true ∧ (fn.name == "runtime.NumGoroutine") = false) ∧
    ∀ {B : Nat} ι w (vs : Array Value), Rel B ι H w → Glob P ι → VRs ι args vs.toList →
      Calls P f vs w fun e' w' => ∃ ι', ι.le ι' ∧ Rel B ι' H' w' ∧ Below B w w' ∧ EndR ι' e e'

/-- A frame's state. -/
structure SR (X : Cx) (B : Nat) (κ : CallKind) (cs0 : List Frame) (ι : Plan) (σ : St) (a : Act) (cs : List Frame) (w : World) : Prop where
  env : Env X ι σ.p σ.t a.tmps
  size : a.tmps.size = X.n
  rel : Rel B ι σ.H w
  dfr : DefR ι σ.d a.defers
  up : UpR ι κ cs0 σ.u cs

theorem lk_up (i j : Nat) (v : AV) : ∀ l : List (Nat × AV), lk i (up j v l) = if i = j then some v else lk i l
  | [] => by simp only [up, lk]
  | (k, x) :: l => by
    simp only [up]
    by_cases h : j = k
    · subst h
      simp only [if_true, lk]
      by_cases h2 : i = j <;> simp [h2]
    · rw [if_neg h]
      simp only [lk]
      by_cases h2 : i = k
      · subst h2; simp [Ne.symm h]
      · rw [if_neg h2, if_neg h2]; exact lk_up i j v l

section
variable {X : Cx} {ι : Plan} {B : Nat} {κ : CallKind} {cs0 cs : List Frame} {w : World} {a : Act} {σ : St}

theorem getD_set_same {tmps : Array Value} {j : Nat} {v : Value} (h : j < tmps.size) : (tmps.setIfInBounds j v).getD j undef = v := by
  simp [h]
theorem getD_set_ne {tmps : Array Value} {i j : Nat} {v : Value} (h : i ≠ j) : (tmps.setIfInBounds j v).getD i undef = tmps.getD i undef := by
  simp [Array.getElem?_setIfInBounds_ne (Ne.symm h)]

theorem SR.put {d : Dst} {dst : Option Tmp} {v : AV} {v' : Value} (h : SR X B κ cs0 ι σ a cs w) (hd : chkDst X dst d = true) (hv : VR ι v v') : SR X B κ cs0 ι (σ.put d v) (a.put dst v') cs w := by
  obtain ⟨hE, hs, hR, hD, hU⟩ := h
  cases dst with
  | none =>
    cases d <;> simp only [chkDst, Bool.false_eq_true] at hd
    exact ⟨hE, hs, hR, hD, hU⟩
  | some j =>
    cases d with
    | no => simp [chkDst] at hd
    | p i =>
      simp only [chkDst, Bool.and_eq_true, beq_iff_eq, decide_eq_true_eq] at hd
      obtain ⟨⟨rfl, hp⟩, hn⟩ := hd
      refine ⟨⟨fun i u hu => ?_, fun i u hu => ?_, hE.fg, fun i u hu => ?_, hE.tk⟩, by simp [Act.put, hs], hR, hD, hU⟩
      · simp only [St.put, lk_up] at hu
        simp only [Act.put]
        split at hu
        · rename_i e; subst e; injection hu with hu; subst hu
          rw [getD_set_same (by rw [hs]; exact hn)]; exact hv
        · rename_i e; rw [getD_set_ne e]; exact hE.fp _ _ hu
      · simp only [St.put] at hu
        have hne : i ≠ j := by intro e; subst e; have := hE.tk _ _ hu; rw [hp] at this; cases this
        simp only [Act.put]
        rw [getD_set_ne hne]; exact hE.ft _ _ hu
      · simp only [St.put, lk_up] at hu
        split at hu
        · rename_i e; subst e; exact hp
        · exact hE.pk _ _ hu
    | t i =>
      simp only [chkDst, Bool.and_eq_true, beq_iff_eq, decide_eq_true_eq, Bool.not_eq_true'] at hd
      obtain ⟨⟨rfl, hp⟩, hn⟩ := hd
      refine ⟨⟨fun i u hu => ?_, fun i u hu => ?_, hE.fg, hE.pk, fun i u hu => ?_⟩, by simp [Act.put, hs], hR, hD, hU⟩
      · simp only [St.put] at hu
        have hne : i ≠ j := by intro e; subst e; have := hE.pk _ _ hu; rw [hp] at this; cases this
        simp only [Act.put]
        rw [getD_set_ne hne]; exact hE.fp _ _ hu
      · simp only [St.put, lk] at hu
        simp only [Act.put]
        split at hu
        · rename_i e; subst e; injection hu with hu; subst hu
          rw [getD_set_same (by rw [hs]; exact hn)]; exact hv
        · rename_i e; rw [getD_set_ne e]; exact hE.ft _ _ hu
      · simp only [St.put, lk] at hu
        split at hu
        · rename_i e; subst e; exact hp
        · exact hE.tk _ _ hu

theorem SR.world {ι' : Plan} {H' : Heap} {w' : World} (h : SR X B κ cs0 ι σ a cs w) (hle : ι.le ι') (hR : Rel B ι' H' w') : SR X B κ cs0 ι' { σ with H := H' } a cs w' :=
  ⟨h.env.mono hle, h.size, hR, h.dfr.mono hle, h.up.mono hle⟩

theorem VR.undef (ι : Plan) : VR ι undefA undef := ⟨#[], rfl, rfl⟩

theorem lk_keep (i : Nat) (l : List (Nat × AV)) : ∀ (live : List Nat) (v : AV), lk i (keep live l) = some v → lk i l = some v
  | [], v, h => by simp [keep, lk] at h
  | j :: live, v, h => by
    simp only [keep] at h
    split at h
    · rename_i u hu
      simp only [lk] at h
      split at h
      · rename_i e; subst e; injection h with h; subst h; exact hu
      · exact lk_keep i l live v h
    · exact lk_keep i l live v h

theorem SR.keep (h : SR X B κ cs0 ι σ a cs w) (live : List Nat) : SR X B κ cs0 ι (σ.keep live) a cs w :=
  ⟨⟨fun i v hv => h.env.fp i v (lk_keep i _ live v hv), fun i v hv => by simp [St.keep, lk] at hv, h.env.fg, fun i v hv => h.env.pk i v (lk_keep i _ live v hv), fun i v hv => by simp [St.keep, lk] at hv⟩, h.size, h.rel, h.dfr, h.up⟩

theorem SR.fresh (h : SR X B κ cs0 ι σ a cs w) : SR X B κ cs0 ι { σ with t := [] } a cs w :=
  ⟨⟨h.env.fp, fun i v hv => by simp [lk] at hv, h.env.fg, h.env.pk, fun i v hv => by simp [lk] at hv⟩, h.size, h.rel, h.dfr, h.up⟩

/-- An operation's guard, as the checker has it. -/
def chkGuard (X : Cx) (ops : Array Oper) : Option (Nat × Bool) → Option (Opd × Bool) → Bool
  | none, none => true
  | some (j, w), some (x, w') => w == w' && (match (ops[j]?).bind (·.dst) with | some d => chkOpd X (.tmp d) x && decide (d < X.n) | none => false)
  | _, _ => false

def chkCop (X : Cx) (ops : Array Oper) (o : Oper) (c : Cop) : Bool :=
  chkDst X o.dst c.dst && chkOp X o.op c.op && chkGuard X ops o.guard c.guard

theorem guard_sound {ops : Array Oper} {o : Oper} {c : Cop} {b : Bool} (hE : Env X ι σ.p σ.t a.tmps) (hs : a.tmps.size = X.n) (hc : chkGuard X ops o.guard c.guard = true) (h : wantedA σ c.guard = some b) :
    Region.wanted o (yielded ops a.tmps) = b := by
  unfold Region.wanted
  cases hg : o.guard with
  | none =>
    rw [hg] at hc
    cases hcg : c.guard with
    | none => rw [hcg] at h; simp only [wantedA, Option.some.injEq] at h; exact h
    | some y => rw [hcg] at hc; simp [chkGuard] at hc
  | some y =>
    obtain ⟨j, wt⟩ := y
    rw [hg] at hc
    cases hcg : c.guard with
    | none => rw [hcg] at hc; simp [chkGuard] at hc
    | some z =>
      obtain ⟨x, wt'⟩ := z
      rw [hcg] at hc h
      simp only [chkGuard, Bool.and_eq_true, beq_iff_eq] at hc
      obtain ⟨rfl, hc⟩ := hc
      split at hc
      · rename_i d hd
        simp only [Bool.and_eq_true, decide_eq_true_eq] at hc
        simp only [wantedA] at h
        split at h
        · rename_i r hr
          injection h with h; subst h
          have hv : a.eval (.tmp d) = .bool r := rho_sound hE hc.1 hr
          have hv2 : a.tmps[d]? = some (.bool r) := by
            simp only [Act.eval] at hv
            rw [Array.getD_eq_getD_getElem?] at hv
            cases hx : a.tmps[d]? with
            | none => rw [hx] at hv; cases hv
            | some q => rw [hx] at hv; simp at hv; rw [hv]
          simp only [yielded, hd, Option.bind_some, hv2]
          cases r <;> cases wt <;> rfl
        · rename_i hr
          injection h with h; subst h
          obtain ⟨vs, hv, hvs⟩ := rho_sound hE hc.1 hr
          have hv' : a.eval (.tmp d) = .tuple vs := hv
          have hy : yielded ops a.tmps j = none := by
            simp only [Act.eval, Array.getD_eq_getD_getElem?] at hv'
            simp only [yielded, hd, Option.bind_some]
            cases hx : a.tmps[d]? with
            | none => rfl
            | some q => rw [hx] at hv'; simp at hv'; subst hv'; rfl
          simp only [hy]; rfl
        · cases h
      · cases hc
end
end Go.Ev
