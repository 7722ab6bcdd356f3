/- Several texts of this claim, joined. -/
import Derived.Test.YtfkdecamhepibaaGreatDoorT09
set_option linter.unusedSimpArgs false
set_option linter.unusedVariables false

/- One operation of a region runs in the model as on the abstract machine. -/
namespace Go.Ev
open Go Go.RowKit
section
variable {X : Cx} {ι : Plan} {B : Nat} {κ : CallKind} {cs0 cs : List Frame} {w : World} {a : Act} {σ : St} {ops : Array Oper} {o : Oper} {c : Cop} {i : Nat} {rest : List Nat}
  {call : FuncId → List AV → Heap → Option (End × Heap)}
/-- What an operation of a region comes to, in the model. -/
def OpStep (X : Cx) (B : Nat) (κ : CallKind) (cs0 : List Frame) (ι : Plan) (σ : St) (a : Act) (cs : List Frame) (w : World) (ops : Array Oper) (i : Nat) (rest : List Nat) (c : Cop) (b : Frame) (k : List Item) : OOut → Prop
  | .val v H' => ∃ ι' a' w', ι.le ι' ∧ Below B w w' ∧ Steps X.P (lone (b.at a (.inRegion ops (i :: rest) :: k)) cs w) (lone (b.at a' (.inRegion ops rest :: k)) cs w') ∧ SR X B κ cs0 ι' (({ σ with H := H' } : St).put c.dst v) a' cs w'
  | .pan ch H' => ∃ ι' l w' todo, ι.le ι' ∧ Below B w w' ∧ Steps X.P (lone (b.at a (.inRegion ops (i :: rest) :: k)) cs w) (lone { b.at a todo with mode := .panicking l } cs w') ∧ ChR ι' ch l ∧ SR X B κ cs0 ι' { σ with H := H' } a cs w'
  | .dfr f args => ∃ a', Steps X.P (lone (b.at a (.inRegion ops (i :: rest) :: k)) cs w) (lone (b.at a' (.inRegion ops rest :: k)) cs w) ∧ SR X B κ cs0 ι (({ σ with d := (f, args) :: σ.d } : St).put c.dst undefA) a' cs w
  | .rcv v u => ∃ a' cs', Steps X.P (lone (b.at a (.inRegion ops (i :: rest) :: k)) cs w) (lone (b.at a' (.inRegion ops rest :: k)) cs' w) ∧ SR X B κ cs0 ι (({ σ with u := u } : St).put c.dst v) a' cs' w
theorem finish_at' (b : Frame) (a : Act) (k : List Item) (v : Value) (ho : ops[i]? = some o) : (b.at a (.inRegion ops (i :: rest) :: k)).finish v = b.at (a.put o.dst v) (.inRegion ops rest :: k) := by
  rw [Frame.finish_at, ho]; rfl
theorem step_value {P : Program} {b : Frame} {k : List Item} {v : Value} {w' : World} (ho : ops[i]? = some o) (hw : Region.wanted o (yielded ops a.tmps) = true) (hr : (execOp a.eval o).run P w = .ok (.value v) w') :
    step P (lone (b.at a (.inRegion ops (i :: rest) :: k)) cs w) = .next (lone (b.at (a.put o.dst v) (.inRegion ops rest :: k)) cs w') :=
  step_lone_go (by rw [stepG_op ho hw, ← finish_at' b a k v ho]; simp [stepG.apply, hr])
theorem step_skipped {P : Program} {b : Frame} {k : List Item} {w' : World} (ho : ops[i]? = some o) (hw : Region.wanted o (yielded ops a.tmps) = true) (hr : (execOp a.eval o).run P w = .ok .skip w') :
    step P (lone (b.at a (.inRegion ops (i :: rest) :: k)) cs w) = .next (lone (b.at (a.put o.dst undef) (.inRegion ops rest :: k)) cs w') :=
  step_lone_go (by rw [stepG_op ho hw, ← finish_at' b a k undef ho]; simp [stepG.apply, hr])
theorem step_panics {P : Program} {b : Frame} {k : List Item} {v : Value} {w' : World} (ho : ops[i]? = some o) (hw : Region.wanted o (yielded ops a.tmps) = true) (hr : (execOp a.eval o).run P w = .halt (.panic v) w') :
    step P (lone (b.at a (.inRegion ops (i :: rest) :: k)) cs w) = .next (lone { b.at a (.inRegion ops (i :: rest) :: k) with mode := .panicking [{ v, recovered := false }] } cs w') :=
  step_lone_go (by rw [stepG_op ho hw, ← Frame.raise_at]; simp [stepG.apply, hr])
theorem step_enters {P : Program} {b : Frame} {k : List Item} {f : FuncId} {args : Array Value} {w' : World} (ho : ops[i]? = some o) (hw : Region.wanted o (yielded ops a.tmps) = true) (hr : (execOp a.eval o).run P w = .ok (.enter f args) w') :
    step P (lone (b.at a (.inRegion ops (i :: rest) :: k)) cs w) = .next (lone (Frame.enter P f args .normal) (b.at a (.inRegion ops (i :: rest) :: k) :: cs) w') :=
  step_lone_go (by rw [stepG_op ho hw]; simp [stepG.apply, hr, Frame.at])
theorem step_defers {P : Program} {b : Frame} {k : List Item} {d : Deferred} {w' : World} (ho : ops[i]? = some o) (hw : Region.wanted o (yielded ops a.tmps) = true) (hr : (execOp a.eval o).run P w = .ok (.defer d) w') :
    step P (lone (b.at a (.inRegion ops (i :: rest) :: k)) cs w) = .next (lone (b.at ({ a with defers := d :: a.defers }.put o.dst undef) (.inRegion ops rest :: k)) cs w') := by
  refine step_lone_go ?_
  have : ({ b.at a (.inRegion ops (i :: rest) :: k) with defers := d :: a.defers } : Frame).finish undef =
      b.at ({ a with defers := d :: a.defers }.put o.dst undef) (.inRegion ops rest :: k) := by
    have := Frame.finish_at b { a with defers := d :: a.defers } ops i rest k undef
    rw [ho] at this; exact this
  rw [stepG_op ho hw]; simp only [stepG.apply, Sem.runT_eq, hr, GStep.bare_after]
  exact congrArg (fun fr => GStep.go { frame := fr, callers := cs, status := .running, dying := none } w') this
theorem step_recovers {P : Program} {b : Frame} {k : List Item} {v : Value} {cs' : List Frame} {w' : World} (hb : b.kind = .deferred) (ho : ops[i]? = some o) (hw : Region.wanted o (yielded ops a.tmps) = true) (hr : (execOp a.eval o).run P w = .ok .recover w')
    (hrec : recoverD cs = some (v, cs')) :
    step P (lone (b.at a (.inRegion ops (i :: rest) :: k)) cs w) = .next (lone (b.at (a.put o.dst v) (.inRegion ops rest :: k)) cs' w') := by
  have hk : (b.at a (.inRegion ops (i :: rest) :: k)).kind = .deferred := hb
  have htr := tryRecover_deferred hk cs
  refine step_lone_go ?_
  rw [stepG_op ho hw, ← finish_at' b a k v ho]
  simp only [Frame.at] at htr ⊢
  simp [stepG.apply, hr, htr, hrec]
theorem step_recovers_none {P : Program} {b : Frame} {k : List Item} {w' : World} (hb : b.kind = .deferred) (ho : ops[i]? = some o) (hw : Region.wanted o (yielded ops a.tmps) = true) (hr : (execOp a.eval o).run P w = .ok .recover w')
    (hrec : recoverD cs = none) :
    step P (lone (b.at a (.inRegion ops (i :: rest) :: k)) cs w) = .next (lone (b.at (a.put o.dst .nilIface) (.inRegion ops rest :: k)) cs w') := by
  have hk : (b.at a (.inRegion ops (i :: rest) :: k)).kind = .deferred := hb
  have htr := tryRecover_deferred hk cs
  refine step_lone_go ?_
  rw [stepG_op ho hw, ← finish_at' b a k .nilIface ho]
  simp only [Frame.at] at htr ⊢
  simp [stepG.apply, hr, htr, hrec]
theorem run_callFunc_enter {P : Program} {f : FuncId} {fn : Func} (hf : P.funcs[f]? = some fn) (hb : fn.body.isSome = true) (hn : (fn.name == "runtime.NumGoroutine") = false) (args : Array Value) (w : World) :
    (callFunc f args).run P w = .ok (.enter f args) w := by
  have h1 : fn.name ≠ "runtime.NumGoroutine" := by simpa using hn
  have h2 : fn.body ≠ none := by intro h; rw [h] at hb; cases hb
  simp [callFunc, hf, h1, h2]
/-- A call, on its way. -/
theorem call_step (hcall : CallOK X.P B call) (h : SR X B κ cs0 ι σ a cs w) (hd : chkDst X o.dst c.dst = true) (ho : ops[i]? = some o) (hw : Region.wanted o (yielded ops a.tmps) = true)
    {f : FuncId} {l : List AV} {vs : Array Value} {r : End × Heap} (hr : (execOp a.eval o).run X.P w = (callFunc f vs).run X.P w) (hv : VRs ι l vs.toList) (hev : call f l σ.H = some r) (b : Frame) (k : List Item) :
    OpStep X B κ cs0 ι σ a cs w ops i rest c b k (endOut r) := by
  obtain ⟨e, H'⟩ := r
  obtain ⟨⟨fn, hf, hb, hn⟩, hc⟩ := hcall f l σ.H e H' hev
  rw [run_callFunc_enter hf hb hn] at hr
  have hs := step_enters (cs := cs) (rest := rest) (b := b) (k := k) ho hw hr
  obtain ⟨e', w', fr, ⟨ι', hle, hR', hB', hE'⟩, hcomes, _, hleave⟩ := hc ι w vs h.rel h.env.fg hv (b.at a (.inRegion ops (i :: rest) :: k) :: cs)
  cases e with
  | ret v =>
    obtain ⟨v', rfl, hvr⟩ := hE'
    refine ⟨ι', a.put o.dst v', w', hle, hB', .head hs (Steps.trans hcomes (.one ?_)), (h.world hle hR').put hd hvr⟩
    rw [← finish_at' b a k v' ho]; exact step_leave_returned hleave
  | pan ch =>
    obtain ⟨l', rfl, hch⟩ := hE'
    refine ⟨ι', l', w', .inRegion ops (i :: rest) :: k, hle, hB', .head hs (Steps.trans hcomes (.one ?_)), hch, h.world hle hR'⟩
    rw [← Frame.raise_at]; exact step_leave_panicked hleave
theorem inv_call {op : Op} {f' : FuncId} {args' : List Opd} (h : chkOp X op (.call f' args') = true) : ∃ f args at_, op = .call { callee := .value (.func f), args := args, argTypes := at_ } ∧ f = f' ∧ chkOpds X args.toList args' = true := by
  cases op
  case call cl =>
    obtain ⟨callee, args, at_⟩ := cl
    cases callee with
    | invoke r m => exact absurd h Bool.false_ne_true
    | builtin bt => cases bt <;> exact absurd h Bool.false_ne_true
    | value x =>
      cases x <;> first | (exact absurd h Bool.false_ne_true) | skip
      simp only [chkOp, Bool.and_eq_true, beq_iff_eq] at h
      exact ⟨_, _, _, rfl, h⟩
  case makeFunc fn _ _ => cases fn <;> exact absurd h Bool.false_ne_true
  case defer cl => obtain ⟨callee, args, at_⟩ := cl; cases callee <;> exact absurd h Bool.false_ne_true
  all_goals exact absurd h Bool.false_ne_true
theorem inv_callP {op : Op} {g : Nat} {f' : FuncId} {args' : List Opd} (h : chkOp X op (.callP g f' args') = true) : ∃ f args at_, op = .call { callee := .value (.func f), args := args, argTypes := at_ } ∧ f = f' ∧ chkOpds X args.toList args' = true ∧ g = X.P.globals.size := by
  cases op
  case call cl =>
    obtain ⟨callee, args, at_⟩ := cl
    cases callee with
    | invoke r m => exact absurd h Bool.false_ne_true
    | builtin b => cases b <;> exact absurd h Bool.false_ne_true
    | value x =>
      cases x with
      | func f =>
        simp only [chkOp, Bool.and_eq_true, beq_iff_eq] at h
        exact ⟨f, args, at_, rfl, h.1.1, h.1.2, h.2⟩
      | _ => exact absurd h Bool.false_ne_true
  case makeFunc fn _ _ => cases fn <;> exact absurd h Bool.false_ne_true
  case defer cl => obtain ⟨callee, args, at_⟩ := cl; cases callee <;> exact absurd h Bool.false_ne_true
  all_goals exact absurd h Bool.false_ne_true
/-- A call that asks for no memory, on its way. -/
theorem callP_step (hcall : CallOK X.P B call) (h : SR X B κ cs0 ι σ a cs w) (hd : chkDst X o.dst c.dst = true) (ho : ops[i]? = some o) (hw : Region.wanted o (yielded ops a.tmps) = true)
    {f : FuncId} {l : List AV} {vs : Array Value} {v : AV} {H1 : Heap} (hr : (execOp a.eval o).run X.P w = (callFunc f vs).run X.P w) (hv : VRs ι l vs.toList) (hl : AV.flats l = true) (hvf : v.flat = true) (hev : call f l (Heap.dead X.P.globals.size) = some (.ret v, H1)) (b : Frame) (k : List Item) :
    OpStep X B κ cs0 ι σ a cs w ops i rest c b k (.val v σ.H) := by
  obtain ⟨⟨fn, hf, hb, hn⟩, hc⟩ := hcall f l _ _ _ hev
  rw [run_callFunc_enter hf hb hn] at hr
  have hs := step_enters (cs := cs) (rest := rest) (b := b) (k := k) ho hw hr
  let ι0 : Plan := fun b => if b < X.P.globals.size then ι b else none
  have hι0 : ∀ b L, ι0 b = some L → b < X.P.globals.size ∧ ι b = some L := by
    intro b L hbl
    simp only [ι0] at hbl
    split at hbl
    · rename_i hlt; exact ⟨hlt, hbl⟩
    · cases hbl
  have hR0 : Rel w.heap.size ι0 (Heap.dead X.P.globals.size) w := {
    dom := fun b L hb => ⟨(hι0 b L hb).1, (h.rel.dom b L (hι0 b L hb).2).2⟩
    live := fun b c u hg => by rw [Heap.get_dead] at hg; cases hg
    own := fun b c L hg => by rw [Heap.get_dead] at hg; cases hg
    iter := fun b s p hg => by rw [Heap.get_dead] at hg; cases hg
    nomap := fun b es hg => by rw [Heap.get_dead] at hg; cases hg
    inj := fun b b' L L' _ _ hdd => absurd (Heap.get_dead _ b') hdd
    size := Nat.le_refl _ }
  have hG0 : Glob X.P ι0 := fun g hg => by
    obtain ⟨e, he⟩ := h.env.fg g hg
    exact ⟨e, by simp only [ι0, if_pos hg]; exact he⟩
  obtain ⟨e', w', fr, ⟨ι', hle, hR', hB', hE'⟩, hcomes, _, hleave⟩ := hc ι0 w vs hR0 hG0 (VRs.flat l _ hl hv) (b.at a (.inRegion ops (i :: rest) :: k) :: cs)
  obtain ⟨v', rfl, hvr⟩ := hE'
  refine ⟨ι, a.put o.dst v', w', ι.le_refl, hB'.mono h.rel.size, .head hs (Steps.trans hcomes (.one ?_)), (h.world ι.le_refl (h.rel.world hB'.size hB'.block)).put hd (VR.flat v v' hvf hvr)⟩
  rw [← finish_at' b a k v' ho]; exact step_leave_returned hleave
theorem inv_callV {op : Op} {y : Opd} {args' : List Opd} (h : chkOp X op (.callV y args') = true) : ∃ x args at_, op = .call { callee := .value x, args := args, argTypes := at_ } ∧ chkOpd X x y = true ∧ chkOpds X args.toList args' = true := by
  cases op
  case call cl =>
    obtain ⟨callee, args, at_⟩ := cl
    cases callee with
    | invoke r m => exact absurd h Bool.false_ne_true
    | builtin bt => cases bt <;> exact absurd h Bool.false_ne_true
    | value x =>
      have h' : (chkOpd X x y && chkOpds X args.toList args') = true := by cases x <;> exact h
      simp only [Bool.and_eq_true] at h'
      exact ⟨_, _, _, rfl, h'⟩
  case makeFunc fn _ _ => cases fn <;> exact absurd h Bool.false_ne_true
  case defer cl => obtain ⟨callee, args, at_⟩ := cl; cases callee <;> exact absurd h Bool.false_ne_true
  all_goals exact absurd h Bool.false_ne_true
theorem inv_dfr {op : Op} {y : Opd} {args' : List Opd} (h : chkOp X op (.dfr y args') = true) : ∃ x args at_, op = .defer { callee := .value x, args := args, argTypes := at_ } ∧ chkOpd X x y = true ∧ chkOpds X args.toList args' = true := by
  cases op
  case call cl =>
    obtain ⟨callee, args, at_⟩ := cl
    cases callee with
    | invoke r m => exact absurd h Bool.false_ne_true
    | builtin bt => cases bt <;> exact absurd h Bool.false_ne_true
    | value x => cases x <;> exact absurd h Bool.false_ne_true
  case makeFunc fn _ _ => cases fn <;> exact absurd h Bool.false_ne_true
  case defer cl =>
    obtain ⟨callee, args, at_⟩ := cl
    cases callee <;> first | (exact absurd h Bool.false_ne_true) | skip
    simp only [chkOp, Bool.and_eq_true] at h
    exact ⟨_, _, _, rfl, h⟩
  all_goals exact absurd h Bool.false_ne_true
theorem inv_panic {op : Op} {y : Opd} (h : chkOp X op (.panic y) = true) : (∃ x, op = .panic x ∧ chkOpd X x y = true) ∨ (∃ args at_, op = .call { callee := .builtin .panic, args := args, argTypes := at_ } ∧ chkOpds X args.toList [y] = true) := by
  cases op
  case call cl =>
    obtain ⟨callee, args, at_⟩ := cl
    cases callee with
    | invoke r m => exact absurd h Bool.false_ne_true
    | builtin bt =>
      cases bt <;> first | (exact absurd h Bool.false_ne_true) | skip
      exact .inr ⟨_, _, rfl, h⟩
    | value x => cases x <;> exact absurd h Bool.false_ne_true
  case makeFunc fn _ _ => cases fn <;> exact absurd h Bool.false_ne_true
  case defer cl => obtain ⟨callee, args, at_⟩ := cl; cases callee <;> exact absurd h Bool.false_ne_true
  case panic x => exact .inl ⟨_, rfl, h⟩
  all_goals exact absurd h Bool.false_ne_true
theorem inv_recover {op : Op} (h : chkOp X op .recover = true) : ∃ args at_, op = .call { callee := .builtin .recover, args := args, argTypes := at_ } := by
  cases op
  case call cl =>
    obtain ⟨callee, args, at_⟩ := cl
    cases callee with
    | invoke r m => exact absurd h Bool.false_ne_true
    | builtin bt =>
      cases bt <;> first | (exact absurd h Bool.false_ne_true) | skip
      exact ⟨_, _, rfl⟩
    | value x => cases x <;> exact absurd h Bool.false_ne_true
  case makeFunc fn _ _ => cases fn <;> exact absurd h Bool.false_ne_true
  case defer cl => obtain ⟨callee, args, at_⟩ := cl; cases callee <;> exact absurd h Bool.false_ne_true
  all_goals exact absurd h Bool.false_ne_true
theorem op_step (hcall : CallOK X.P B call) (h : SR X B κ cs0 ι σ a cs w) (ho : ops[i]? = some o) (hw : Region.wanted o (yielded ops a.tmps) = true) (hc : chkCop X ops o c = true) {out : OOut} (hev : evOp1 call σ c.op = some out)
    (b : Frame) (k : List Item) (hb : b.kind = κ) : OpStep X B κ cs0 ι σ a cs w ops i rest c b k out := by
  simp only [chkCop, Bool.and_eq_true] at hc
  obtain ⟨⟨hd, hop⟩, _⟩ := hc
  by_cases hsim : simpleC c.op = true
  · -- a simple one
    have hev' : (match evOp (rho σ.p σ.t) σ.H c.op with | some (v, H) => some (OOut.val v H) | none => none) = some out := by
      rw [← hev]
      cases hco : c.op <;> first | rfl | (rw [hco] at hsim; simp [simpleC] at hsim)
    split at hev'
    · rename_i v H' hsome
      injection hev' with hev'; subst hev'
      obtain ⟨nx, w', v', hrun, hnx, ι', hle, hR', hB', hvr⟩ := op_sound hop hsim h.env h.rel hsome
      refine ⟨ι', a.put o.dst v', w', hle, hB', .one ?_, (h.world hle hR').put hd hvr⟩
      rcases hnx with rfl | ⟨rfl, rfl⟩
      · exact step_value ho hw hrun
      · exact step_skipped ho hw hrun
    · cases hev'
  · cases hco : c.op <;> rw [hco] at hsim hev hop <;> first | (simp [simpleC] at hsim; done) | skip
    case call f' args' =>
      simp only [evOp1] at hev
      split at hev
      · rename_i l hl
        obtain ⟨r, hr, hre⟩ := Option.map_eq_some_iff.1 hev
        subst hre
        obtain ⟨f, args, at_, hoo, rfl, hargs⟩ := inv_call hop
        have hvs := rhos_sound h.env hargs hl
        refine call_step hcall h hd ho hw (vs := args.map a.eval) (l := l) ?_ (by simpa using hvs) hr b k
        have ef : a.eval (.func f) = .func (.func f) #[] #[] := rfl
        simp only [execOp, hoo, resolve, Deferred.ofValue, ef, Sem.run_bind, Sem.run_pure, Result.andThen_ok, invoke, Array.append_empty, Array.empty_append]
      · cases hev
    case callP g' f' args' =>
      simp only [evOp1] at hev
      split at hev
      · rename_i l hl
        split at hev
        · rename_i hfl
          split at hev
          · rename_i v H1 hr
            split at hev
            · rename_i hvf
              injection hev with hev; subst hev
              obtain ⟨f, args, at_, hoo, rfl, hargs, rfl⟩ := inv_callP hop
              have hvs := rhos_sound h.env hargs hl
              refine callP_step hcall h hd ho hw (vs := args.map a.eval) (l := l) ?_ (by simpa using hvs) hfl hvf hr b k
              have ef : a.eval (.func f) = .func (.func f) #[] #[] := rfl
              simp only [execOp, hoo, resolve, Deferred.ofValue, ef, Sem.run_bind, Sem.run_pure, Result.andThen_ok, invoke, Array.append_empty, Array.empty_append]
            · cases hev
          · cases hev
        · cases hev
      · cases hev
    case callV x' args' =>
      simp only [evOp1] at hev
      split at hev
      · rename_i f cap hx
        split at hev
        · rename_i l hl
          obtain ⟨r, hr, hre⟩ := Option.map_eq_some_iff.1 hev
          subst hre
          obtain ⟨x, args, at_, hoo, hcx, hargs⟩ := inv_callV hop
          obtain ⟨vs0, e0, hv0⟩ := rho_sound h.env hcx hx
          have hvs := rhos_sound h.env hargs hl
          refine call_step hcall h hd ho hw (vs := args.map a.eval ++ vs0) (l := l ++ cap) ?_ (by simpa using hvs.append hv0) hr b k
          simp only [execOp, hoo, resolve, Deferred.ofValue, e0, Sem.run_bind, Sem.run_pure, Result.andThen_ok, invoke, Array.empty_append]
        · cases hev
      · cases hev
    case dfr x' args' =>
      simp only [evOp1] at hev
      split at hev
      · rename_i f cap hx
        split at hev
        · rename_i l hl
          injection hev with hev; subst hev
          obtain ⟨x, args, at_, hoo, hcx, hargs⟩ := inv_dfr hop
          obtain ⟨vs0, e0, hv0⟩ := rho_sound h.env hcx hx
          have hvs := rhos_sound h.env hargs hl
          have hrun : (execOp a.eval o).run X.P w = .ok (.defer { target := .fn (.func f) vs0, args := args.map a.eval }) w := by
            simp only [execOp, hoo, resolve, Deferred.ofValue, e0, Sem.run_bind, Sem.run_pure, Result.andThen_ok, Array.empty_append]
          refine ⟨_, .one (step_defers ho hw hrun), ?_⟩
          have h2 : SR X B κ cs0 ι { σ with d := (f, l ++ cap) :: σ.d } { a with defers := { target := .fn (.func f) vs0, args := args.map a.eval } :: a.defers } cs w :=
            ⟨h.env, h.size, h.rel, ⟨vs0, args.map a.eval, a.defers, rfl, by simpa using hvs.append hv0, h.dfr⟩, h.up⟩
          exact h2.put hd (VR.undef ι)
        · cases hev
      · cases hev
    case panic x' =>
      simp only [evOp1] at hev
      split at hev
      · rename_i t u hx
        injection hev with hev; subst hev
        rcases inv_panic hop with ⟨x, hoo, hcx⟩ | ⟨args, at_, hoo, hargs⟩
        · obtain ⟨u', e0, hv0⟩ := rho_sound h.env hcx hx
          have hrun : (execOp a.eval o).run X.P w = .halt (.panic (.iface t u')) w := by
            simp [execOp, hoo, Instr.panic, e0]
          exact ⟨ι, _, w, _, ι.le_refl, Below.refl _ _, .one (step_panics ho hw hrun), ⟨_, _, rfl, ⟨u', rfl, hv0⟩, rfl⟩, h⟩
        · obtain ⟨x, hxx, hcx⟩ := opds1 hargs
          have hargs' : args = #[x] := toArray_of hxx
          obtain ⟨u', e0, hv0⟩ := rho_sound h.env hcx hx
          have hrun : (execOp a.eval o).run X.P w = .halt (.panic (.iface t u')) w := by
            simp [execOp, hoo, hargs', resolve, invoke, builtin, Instr.panic, e0]
          exact ⟨ι, _, w, _, ι.le_refl, Below.refl _ _, .one (step_panics ho hw hrun), ⟨_, _, rfl, ⟨u', rfl, hv0⟩, rfl⟩, h⟩
      · cases hev
    case recover =>
      obtain ⟨args, at_, hoo⟩ := inv_recover hop
      have hrun : (execOp a.eval o).run X.P w = .ok .recover w := by
        simp [execOp, hoo, resolve, invoke, builtin]
      simp only [evOp1] at hev
      rcases h.up with ⟨hk, hu, hcs⟩ | ⟨hk, c0, rest', m, hcs0, hcs, hm⟩
      · rw [hu] at hev; cases hev
      · rw [hk] at hb
        split at hev
        · cases hev
        · rename_i hu
          injection hev with hev; subst hev
          rw [hu] at hm
          have hm' : m = .returning := hm
          have hrec : recoverD cs = none := by rw [hcs, hm']; rfl
          refine ⟨_, cs, .one (step_recovers_none hb ho hw hrun hrec), ?_⟩
          have h2 : SR X B κ cs0 ι { σ with u := .ret } a cs w := ⟨h.env, h.size, h.rel, h.dfr, .inr ⟨hk, c0, rest', m, hcs0, hcs, hm⟩⟩
          exact h2.put hd rfl
        · rename_i v older hu
          injection hev with hev; subst hev
          rw [hu] at hm
          obtain ⟨l, hml, hch⟩ := hm
          obtain ⟨v', l', rfl, hv, hch'⟩ := hch
          have hrec : recoverD cs = some (v', { c0 with mode := .panicking ({ v := v', recovered := true, goexit := false } :: l') } :: rest') := by rw [hcs, hml]; rfl
          refine ⟨_, _, .one (step_recovers hb ho hw hrun hrec), ?_⟩
          have h2 : SR X B κ cs0 ι { σ with u := .pan ((v, true) :: older) } a ({ c0 with mode := .panicking ({ v := v', recovered := true, goexit := false } :: l') } :: rest') w :=
            ⟨h.env, h.size, h.rel, h.dfr, .inr ⟨hk, c0, rest', _, hcs0, rfl, ⟨_, rfl, ⟨v', l', rfl, hv, hch'⟩⟩⟩⟩
          exact h2.put hd hv
        · rename_i ch hne hu
          injection hev with hev; subst hev
          rw [hu] at hm
          obtain ⟨l, hml, hch⟩ := hm
          have hrec : recoverD cs = none := by
            rw [hcs, hml]
            cases ch with
            | nil => have : l = [] := hch; subst this; rfl
            | cons x ch =>
              obtain ⟨v, r⟩ := x
              cases r with
              | false => exact absurd rfl (hne v ch)
              | true => obtain ⟨v', l', rfl, _, _⟩ := hch; rfl
          refine ⟨_, cs, .one (step_recovers_none hb ho hw hrun hrec), ?_⟩
          have h2 : SR X B κ cs0 ι { σ with u := .pan ch } a cs w := ⟨h.env, h.size, h.rel, h.dfr, .inr ⟨hk, c0, rest', m, hcs0, hcs, ⟨l, hml, hch⟩⟩⟩
          exact h2.put hd rfl
end
end Go.Ev
/- Code runs in the model as on the abstract machine. -/
namespace Go.Ev
open Go Go.RowKit
def CtlR (ι : Plan) : Ctl → Exit → Prop
  | .normal, e => e = .normal
  | .exit i, e => e = .exit i
  | .ret, e => e = .ret
  | .panic ch, e => ∃ l, e = .panic l ∧ ChR ι ch l
def chkOps (X : Cx) (ops : Array Oper) : List Oper → List Cop → Bool
  | [], [] => true
  | o :: l, c :: m => chkCop X ops o c && chkOps X ops l m
  | _, _ => false
section
variable {X : Cx} {ι : Plan} {B : Nat} {κ : CallKind} {cs0 cs : List Frame} {w : World} {a : Act} {σ : St} {ops : Array Oper}
  {call : FuncId → List AV → Heap → Option (End × Heap)}
/-- What a piece of code comes to, from the items that are left to do. -/
def Comes2 (X : Cx) (B : Nat) (κ : CallKind) (cs0 : List Frame) (ι : Plan) (w : World) (m : Machine) (b : Frame) (k : List Item) (ctl : Ctl) (σ' : St) : Prop :=
  ∃ ι' e a' cs' w', ι.le ι' ∧ Below B w w' ∧ SR X B κ cs0 ι' σ' a' cs' w' ∧ CtlR ι' ctl e ∧ Arrives X.P m b k cs' e a' w'
theorem Comes2.of_steps {m m1 : Machine} {b : Frame} {k : List Item} {ctl : Ctl} {σ' : St} {ι1 : Plan} {w1 : World} (h : Steps X.P m m1) (hle : ι.le ι1) (hB : Below B w w1) (h' : Comes2 X B κ cs0 ι1 w1 m1 b k ctl σ') : Comes2 X B κ cs0 ι w m b k ctl σ' := by
  obtain ⟨ι', e, a', cs', w', h1, h2, h3, h4, h5⟩ := h'
  exact ⟨ι', e, a', cs', w', Plan.le_trans hle h1, hB.trans h2, h3, h4, .of_steps h h5⟩
/-- A region in the order of its text. -/
theorem ops_sound (hcall : CallOK X.P B call) (b : Frame) (k : List Item) (hb : b.kind = κ) : ∀ (cl : List Cop) (l : List Oper) (i : Nat) (ι : Plan) (σ σ' : St) (a : Act) (cs : List Frame) (w : World) (ctl : Ctl),
    (∀ j, l[j]? = ops[i + j]?) → chkOps X ops l cl = true → SR X B κ cs0 ι σ a cs w → evOps call cl σ = some (ctl, σ') →
    Comes2 X B κ cs0 ι w (lone (b.at a (.inRegion ops (List.range' i l.length) :: k)) cs w) b k ctl σ'
  | [], l, i, ι, σ, σ', a, cs, w, ctl, hl, hc, h, hev => by
    cases l with
    | cons _ _ => simp [chkOps] at hc
    | nil =>
      simp only [evOps, Option.some.injEq, Prod.mk.injEq] at hev
      obtain ⟨rfl, rfl⟩ := hev
      exact ⟨ι, .normal, a, cs, w, ι.le_refl, Below.refl _ _, h, rfl, .one step_region_end⟩
  | c :: cl, l, i, ι, σ, σ', a, cs, w, ctl, hl, hc, h, hev => by
    cases l with
    | nil => simp [chkOps] at hc
    | cons o l =>
      simp only [chkOps, Bool.and_eq_true] at hc
      have ho : ops[i]? = some o := by have := hl 0; simpa using this.symm
      have hl' : ∀ j, l[j]? = ops[i + 1 + j]? := fun j => by have := hl (j + 1); simpa [Nat.add_assoc, Nat.add_comm 1 j] using this
      simp only [List.length_cons, List.range'_succ]
      simp only [evOps] at hev
      have hcop := hc.1
      split at hev
      · cases hev
      · rename_i hwant
        have hw := guard_sound h.env h.size (by simp only [chkCop, Bool.and_eq_true] at hcop; exact hcop.2) hwant
        have hs := step_op_skip (P := X.P) (b := b) (a := a) (k := k) (cs := cs) (w := w) (ops := ops) (i := i) (rest := List.range' (i + 1) l.length) (by simp [ho, hw])
        simp only [ho, Option.bind_some] at hs
        exact .of_steps (.one hs) ι.le_refl (Below.refl _ _) (ops_sound hcall b k hb cl l (i + 1) ι _ σ' _ cs w ctl hl' hc.2 (h.put (by simp only [chkCop, Bool.and_eq_true] at hcop; exact hcop.1.1) (VR.undef ι)) hev)
      · rename_i hwant
        have hw := guard_sound h.env h.size (by simp only [chkCop, Bool.and_eq_true] at hcop; exact hcop.2) hwant
        split at hev
        · cases hev
        · rename_i v H' hop
          obtain ⟨ι1, a1, w1, h1, h2, h3, h4⟩ := op_step (rest := List.range' (i + 1) l.length) hcall h ho hw hcop hop b k hb
          exact .of_steps h3 h1 h2 (ops_sound hcall b k hb cl l (i + 1) ι1 _ σ' a1 cs w1 ctl hl' hc.2 h4 hev)
        · rename_i ch H' hop
          simp only [Option.some.injEq, Prod.mk.injEq] at hev
          obtain ⟨rfl, rfl⟩ := hev
          obtain ⟨ι1, l1, w1, todo, h1, h2, h3, h4, h5⟩ := op_step (rest := List.range' (i + 1) l.length) hcall h ho hw hcop hop b k hb
          exact ⟨ι1, .panic l1, a, cs, w1, h1, h2, h5, ⟨l1, rfl, h4⟩, todo, h3⟩
        · rename_i f args hop
          obtain ⟨a1, h3, h4⟩ := op_step (rest := List.range' (i + 1) l.length) hcall h ho hw hcop hop b k hb
          exact .of_steps h3 ι.le_refl (Below.refl _ _) (ops_sound hcall b k hb cl l (i + 1) ι _ σ' a1 cs w ctl hl' hc.2 h4 hev)
        · rename_i v u hop
          obtain ⟨a1, cs1, h3, h4⟩ := op_step (rest := List.range' (i + 1) l.length) hcall h ho hw hcop hop b k hb
          exact .of_steps h3 ι.le_refl (Below.refl _ _) (ops_sound hcall b k hb cl l (i + 1) ι _ σ' a1 cs1 w ctl hl' hc.2 h4 hev)
/-- A region that draws its order: what must be shown of it (elsewhere). -/
def DrawnOK (X : Cx) (B : Nat) (chkD : Array Oper → List DCop → Bool) (call : FuncId → List AV → Heap → Option (End × Heap)) : Prop :=
  ∀ (ops : Array Oper) (cl : List DCop) (id : Nat), chkD ops cl = true → ∀ (κ : CallKind) (cs0 : List Frame) (ι : Plan) (σ σ' : St) (a : Act) (cs : List Frame) (w : World) (ctl : Ctl), SR X B κ cs0 ι σ a cs w → evOpsD call cl 0 [] { σ with t := [] } = some (ctl, σ') →
    ∀ (b : Frame) (k : List Item), b.kind = κ → Comes2 X B κ cs0 ι w (lone (b.at a (.code (.region id ops true) :: k)) cs w) b k ctl σ'
def chkCode (X : Cx) (chkD : Array Oper → List DCop → Bool) : Code → CCode → Bool
  | .skip, .skip => true
  | .region _ ops d, .reg cl => !d && chkOps X ops ops.toList cl
  | .region _ ops d, .dreg cl => d && chkD ops cl
  | .seq x y, .seq x' y' => chkCode X chkD x x' && chkCode X chkD y y'
  | .cond c x y, .cond c' x' y' => chkOpd X c c' && chkCode X chkD x x' && chkCode X chkD y y'
  | .block id x, .block id' _ x' => id == id' && chkCode X chkD x x'
  | .loop x, .loop _ x' => chkCode X chkD x x'
  | .exit id, .exit id' => id == id'
  | .ret, .ret => true
  | _, _ => false
theorem code_sound {chkD : Array Oper → List DCop → Bool} (hcall : CallOK X.P B call) (hdr : DrawnOK X B chkD call) (n : Nat) : ∀ (cc : CCode) (c : Code) (κ : CallKind) (cs0 : List Frame) (ι : Plan) (σ σ' : St) (a : Act) (cs : List Frame) (w : World) (ctl : Ctl),
    chkCode X chkD c cc = true → SR X B κ cs0 ι σ a cs w → evCode call n cc σ = some (ctl, σ') → ∀ (b : Frame) (k : List Item), b.kind = κ →
    Comes2 X B κ cs0 ι w (lone (b.at a (.code c :: k)) cs w) b k ctl σ'
  | .skip, c, κ, cs0, ι, σ, σ', a, cs, w, ctl, hc, h, hev, b, k, hb => by
    cases c <;> simp only [chkCode, Bool.false_eq_true] at hc
    simp only [evCode, Option.some.injEq, Prod.mk.injEq] at hev
    obtain ⟨rfl, rfl⟩ := hev
    exact ⟨ι, .normal, a, cs, w, ι.le_refl, Below.refl _ _, h, rfl, .one step_skip⟩
  | .exit id, c, κ, cs0, ι, σ, σ', a, cs, w, ctl, hc, h, hev, b, k, hb => by
    cases c <;> simp only [chkCode, Bool.false_eq_true, beq_iff_eq] at hc
    subst hc
    simp only [evCode, Option.some.injEq, Prod.mk.injEq] at hev
    obtain ⟨rfl, rfl⟩ := hev
    exact ⟨ι, .exit _, a, cs, w, ι.le_refl, Below.refl _ _, h, rfl, fun _ hk => .one (step_exit hk)⟩
  | .ret, c, κ, cs0, ι, σ, σ', a, cs, w, ctl, hc, h, hev, b, k, hb => by
    cases c <;> simp only [chkCode, Bool.false_eq_true] at hc
    simp only [evCode, Option.some.injEq, Prod.mk.injEq] at hev
    obtain ⟨rfl, rfl⟩ := hev
    exact ⟨ι, .ret, a, cs, w, ι.le_refl, Below.refl _ _, h, rfl, _, .one step_ret⟩
  | .reg cl, c, κ, cs0, ι, σ, σ', a, cs, w, ctl, hc, h, hev, b, k, hb => by
    cases c <;> simp only [chkCode, Bool.false_eq_true, Bool.and_eq_true, Bool.not_eq_true'] at hc
    obtain ⟨rfl, hc⟩ := hc
    rename_i id ops
    simp only [evCode] at hev
    have := ops_sound (ops := ops) hcall b k hb cl ops.toList 0 ι _ σ' a cs w ctl (fun j => by simp) hc h.fresh hev
    refine .of_steps (.one step_region) ι.le_refl (Below.refl _ _) ?_
    rw [show List.range ops.size = List.range' 0 ops.toList.length from by rw [List.range_eq_range']; simp]
    exact this
  | .dreg cl, c, κ, cs0, ι, σ, σ', a, cs, w, ctl, hc, h, hev, b, k, hb => by
    cases c <;> simp only [chkCode, Bool.false_eq_true, Bool.and_eq_true] at hc
    obtain ⟨rfl, hc⟩ := hc
    simp only [evCode] at hev
    exact hdr _ cl _ hc κ cs0 ι σ σ' a cs w ctl h hev b k hb
  | .seq x y, c, κ, cs0, ι, σ, σ', a, cs, w, ctl, hc, h, hev, b, k, hb => by
    cases c <;> simp only [chkCode, Bool.false_eq_true, Bool.and_eq_true] at hc
    rename_i x0 y0
    simp only [evCode] at hev
    split at hev
    · rename_i σ1 hx
      obtain ⟨ι1, e, a1, cs1, w1, h1, h2, h3, rfl, h5⟩ := code_sound hcall hdr n x x0 κ cs0 ι σ σ1 a cs w .normal hc.1 h hx b (.code y0 :: k) hb
      exact .of_steps (.head step_seq h5) h1 h2 (code_sound hcall hdr n y y0 κ cs0 ι1 σ1 σ' a1 cs1 w1 ctl hc.2 h3 hev b k hb)
    · rename_i hne
      obtain ⟨ι1, e, a1, cs1, w1, h1, h2, h3, h4, h5⟩ := code_sound hcall hdr n x x0 κ cs0 ι σ σ' a cs w ctl hc.1 h hev b (.code y0 :: k) hb
      refine ⟨ι1, e, a1, cs1, w1, h1, h2, h3, h4, .of_steps (.one step_seq) (.pass (x := .code y0) rfl (fun _ _ => .inl ?_) h5)⟩
      intro he; subst he
      cases ctl with
      | normal => exact hne σ' hev
      | exit i => cases h4
      | ret => cases h4
      | panic ch => obtain ⟨l, hl, _⟩ := h4; cases hl
  | .cond c' x y, c, κ, cs0, ι, σ, σ', a, cs, w, ctl, hc, h, hev, b, k, hb => by
    cases c <;> simp only [chkCode, Bool.false_eq_true, Bool.and_eq_true] at hc
    obtain ⟨⟨hcc, hx⟩, hy⟩ := hc
    simp only [evCode] at hev
    split at hev
    · rename_i hr
      have hv : a.eval _ = .bool true := rho_sound h.env hcc hr
      refine .of_steps (.one (step_cond hv)) ι.le_refl (Below.refl _ _) ?_
      exact code_sound hcall hdr n x _ κ cs0 ι σ σ' a cs w ctl hx h hev b k hb
    · rename_i hr
      have hv : a.eval _ = .bool false := rho_sound h.env hcc hr
      refine .of_steps (.one (step_cond hv)) ι.le_refl (Below.refl _ _) ?_
      exact code_sound hcall hdr n y _ κ cs0 ι σ σ' a cs w ctl hy h hev b k hb
    · cases hev
  | .block id live x, c, κ, cs0, ι, σ, σ', a, cs, w, ctl, hc, h, hev, b, k, hb => by
    cases c <;> simp only [chkCode, Bool.false_eq_true, Bool.and_eq_true, beq_iff_eq] at hc
    rename_i id' x0
    obtain ⟨rfl, hc⟩ := hc
    simp only [evCode] at hev
    split at hev
    · rename_i σ1 hx
      simp only [Option.some.injEq, Prod.mk.injEq] at hev
      obtain ⟨rfl, rfl⟩ := hev
      obtain ⟨ι1, e, a1, cs1, w1, h1, h2, h3, rfl, h5⟩ := code_sound hcall hdr n x x0 κ cs0 ι σ σ1 a cs w .normal hc h hx b (.inBlock id' :: k) hb
      exact ⟨ι1, .normal, a1, cs1, w1, h1, h2, h3.keep live, rfl, .head step_block (Steps.trans h5 (.one step_inBlock))⟩
    · rename_i i σ1 hx
      obtain ⟨ι1, e, a1, cs1, w1, h1, h2, h3, rfl, h5⟩ := code_sound hcall hdr n x x0 κ cs0 ι σ σ1 a cs w (.exit i) hc h hx b (.inBlock id' :: k) hb
      split at hev
      · rename_i hi
        simp only [Option.some.injEq, Prod.mk.injEq] at hev
        obtain ⟨rfl, rfl⟩ := hev
        exact ⟨ι1, .normal, a1, cs1, w1, h1, h2, h3.keep live, rfl, .head step_block (h5 k (by simp [exitTo, hi]))⟩
      · rename_i hi
        simp only [Option.some.injEq, Prod.mk.injEq] at hev
        obtain ⟨rfl, rfl⟩ := hev
        refine ⟨ι1, .exit i, a1, cs1, w1, h1, h2, h3, rfl, fun k' hk => .head step_block (h5 k' ?_)⟩
        have : (id' == i) = false := by simp; exact fun h => hi h.symm
        simp [exitTo, this, hk]
    · rename_i hne1 hne2
      obtain ⟨ι1, e, a1, cs1, w1, h1, h2, h3, h4, h5⟩ := code_sound hcall hdr n x x0 κ cs0 ι σ σ' a cs w ctl hc h hev b (.inBlock id' :: k) hb
      cases ctl with
      | normal => exact absurd hev (hne1 σ')
      | exit i => exact absurd hev (hne2 i σ')
      | ret =>
        have he : e = .ret := h4
        subst he
        exact ⟨ι1, .ret, a1, cs1, w1, h1, h2, h3, rfl, .of_steps (.one step_block) h5⟩
      | panic ch =>
        obtain ⟨l, rfl, hl⟩ := h4
        exact ⟨ι1, .panic l, a1, cs1, w1, h1, h2, h3, ⟨l, rfl, hl⟩, .of_steps (.one step_block) h5⟩
  | .loop live x, c, κ, cs0, ι, σ, σ', a, cs, w, ctl, hc, h, hev, b, k, hb => by
    cases c <;> simp only [chkCode, Bool.false_eq_true] at hc
    rename_i x0
    simp only [evCode] at hev
    have key : ∀ (m : Nat) (ι : Plan) (σ : St) (a : Act) (cs : List Frame) (w : World), SR X B κ cs0 ι σ a cs w → loopA (evCode call n x) live m σ = some (ctl, σ') →
        Comes2 X B κ cs0 ι w (lone (b.at a (.code x0 :: .inLoop x0 :: k)) cs w) b k ctl σ' := by
      intro m
      induction m with
      | zero => intro ι σ a cs w h hev; cases hev
      | succ m ih =>
        intro ι σ a cs w h hev
        simp only [loopA] at hev
        split at hev
        · rename_i σ1 hx
          obtain ⟨ι1, e, a1, cs1, w1, h1, h2, h3, rfl, h5⟩ := code_sound hcall hdr n x x0 κ cs0 ι _ σ1 a cs w .normal hc (h.keep live) hx b (.inLoop x0 :: k) hb
          exact .of_steps (Steps.trans h5 (.one step_inLoop)) h1 h2 (ih ι1 σ1 a1 cs1 w1 h3 hev)
        · rename_i hne
          obtain ⟨ι1, e, a1, cs1, w1, h1, h2, h3, h4, h5⟩ := code_sound hcall hdr n x x0 κ cs0 ι _ σ' a cs w ctl hc (h.keep live) hev b (.inLoop x0 :: k) hb
          refine ⟨ι1, e, a1, cs1, w1, h1, h2, h3, h4, .pass (x := .inLoop x0) rfl (fun _ _ => .inl ?_) h5⟩
          intro he; subst he
          cases ctl with
          | normal => exact hne σ' hev
          | exit i => cases h4
          | ret => cases h4
          | panic ch => obtain ⟨l, hl, _⟩ := h4; cases hl
    exact .of_steps (.one step_loop) ι.le_refl (Below.refl _ _) (key n ι σ a cs w h hev)
end
end Go.Ev
/- Functions run in the model as on the abstract machine. -/
namespace Go.Ev
open Go Go.RowKit
def chkRes (X : Cx) : List ResultVar → List CRes → Bool
  | [], [] => true
  | .tmp t :: l, .slot i :: m => t == i && X.ps.contains i && chkRes X l m
  | .cell t ty :: l, .cell1 i :: m => t == i && X.ps.contains i && (tyAgg X.P ty == some false) && chkRes X l m
  | .cell t ty :: l, .cellN i n :: m => t == i && X.ps.contains i && (tyAgg X.P ty == some true) && (tySize X.P ty == some n) && chkRes X l m
  | _, _ => false
def cxOf (P : Program) (fn : Func) (cf : CFunc) : Cx := ⟨P, cf.ps, fn.ntmps⟩
def chkFn (P : Program) (chkD : Cx → Array Oper → List DCop → Bool) (fn : Func) (cf : CFunc) : Bool :=
  (!(fn.name == "runtime.NumGoroutine")) && decide (cf.nargs ≤ fn.ntmps) && (List.range cf.nargs).all (fun i => cf.ps.contains i) && chkRes (cxOf P fn cf) fn.results.toList cf.results &&
  (match fn.body with
   | some c => chkCode (cxOf P fn cf) (chkD (cxOf P fn cf)) c cf.body
   | none => false)
section
variable {P : Program} {B : Nat} {ι : Plan} {H H' : Heap} {w : World}
theorem lk_enter (args : List AV) : ∀ (k i : Nat) (v : AV), lk i (enterA args k) = some v → k ≤ i ∧ args[i - k]? = some v := by
  induction args with
  | nil => intro k i v h; simp [enterA, lk] at h
  | cons x args ih =>
    intro k i v h
    simp only [enterA, lk] at h
    split at h
    · rename_i e; subst e; injection h with h; subst h; exact ⟨Nat.le_refl _, by simp⟩
    · obtain ⟨h1, h2⟩ := ih _ _ _ h
      refine ⟨by omega, ?_⟩
      have : i - k = (i - (k + 1)) + 1 := by omega
      rw [this, List.getElem?_cons_succ]; exact h2
theorem enter_SR {cf : CFunc} {fn : Func} {κ : CallKind} {cs0 : List Frame} {args : List AV} {vs : Array Value} {u : Up} (hR : Rel B ι H w) (hG : Glob P ι) (hv : VRs ι args vs.toList) (hn : args.length = cf.nargs) (h1 : cf.nargs ≤ fn.ntmps) (h2 : ∀ i, i < cf.nargs → cf.ps.contains i = true)
    (hU : UpR ι κ cs0 u cs0) : SR (cxOf P fn cf) B κ cs0 ι { p := enterA args 0, t := [], H := H, d := [], u := u } { tmps := vs ++ Array.replicate (fn.ntmps - vs.size) undef, defers := [] } cs0 w := by
  have hvl : vs.size = args.length := by have := hv.length; simpa using this
  refine ⟨⟨fun i v h => ?_, fun i v h => by simp [lk] at h, hG, fun i v h => ?_, fun i v h => by simp [lk] at h⟩, by simp [cxOf]; omega, hR, rfl, hU⟩
  · obtain ⟨_, h⟩ := lk_enter args 0 i v h
    obtain ⟨u', hu, hr⟩ := hv.get (by simpa using h)
    rw [Array.getElem?_toList] at hu
    have hi : i < vs.size := by
      rcases Nat.lt_or_ge i vs.size with h | h
      · exact h
      · rw [Array.getElem?_eq_none h] at hu; cases hu
    rw [Array.getD_eq_getD_getElem?, Array.getElem?_append_left hi, hu]; exact hr
  · obtain ⟨_, h⟩ := lk_enter args 0 i v h
    refine h2 i ?_
    rcases Nat.lt_or_ge i args.length with h' | h'
    · omega
    · rw [List.getElem?_eq_none (by simpa using h')] at h; cases h
def resOne (tmps : Array Value) : ResultVar → Sem Value
  | .tmp t => pure (tmps.getD t undef)
  | .cell a t => do loadVar t (← asAddr (tmps.getD a undef))
theorem results_eq (fn : Func) (tmps : Array Value) : results fn tmps = (do let vs ← fn.results.mapM (resOne tmps); pure (if h : vs.size = 1 then vs[0] else .tuple vs)) := by
  unfold results
  congr 1
theorem res_sound {X : Cx} {p t : List (Nat × AV)} {tmps : Array Value} (hE : Env X ι p t tmps) (hR : Rel B ι H w) : ∀ (rs : List ResultVar) (cs : List CRes) (l : List AV), chkRes X rs cs = true → resAs p H cs = some l →
    ∃ vs : List Value, (rs.mapM (m := Sem) (resOne tmps)).run X.P w = .ok vs w ∧ VRs ι l vs
  | [], [], l, _, h => by simp only [resAs, Option.some.injEq] at h; subst h; exact ⟨[], rfl, rfl⟩
  | [], _ :: _, _, hc, _ => by simp [chkRes] at hc
  | _ :: _, [], _, hc, _ => by cases ‹ResultVar› <;> simp [chkRes] at hc
  | r :: rs, c :: cs, l, hc, h => by
    simp only [resAs] at h
    split at h
    · cases h
    · rename_i v hv
      split at h
      · cases h
      · rename_i l' hl'
        injection h with h; subst h
        have main : ∀ (r' : Value), (resOne tmps r).run X.P w = .ok r' w → VR ι v r' → chkRes X rs cs = true →
            ∃ vs : List Value, ((r :: rs).mapM (m := Sem) (resOne tmps)).run X.P w = .ok vs w ∧ VRs ι (v :: l') vs := by
          intro r' h1 h2 h3
          obtain ⟨vs, g1, g2⟩ := res_sound hE hR rs cs l' h3 hl'
          refine ⟨r' :: vs, ?_, ⟨r', vs, rfl, h2, g2⟩⟩
          simp only [List.mapM_cons, Sem.run_bind, h1, Result.andThen_ok, g1, Sem.run_pure]
        cases r with
        | tmp t =>
          cases c <;> simp only [chkRes, Bool.false_eq_true, Bool.and_eq_true, beq_iff_eq] at hc
          obtain ⟨⟨rfl, _⟩, hc⟩ := hc
          exact main _ rfl (hE.fp _ _ hv) hc
        | cell t ty =>
          cases c <;> simp only [chkRes, Bool.false_eq_true, Bool.and_eq_true, beq_iff_eq] at hc
          · obtain ⟨⟨⟨rfl, _⟩, hag⟩, hc⟩ := hc
            simp only [resA] at hv
            split at hv
            · rename_i b off hb
              split at hv
              · rename_i c' u hg
                obtain ⟨L, hL, he⟩ := hE.fp _ _ hb
                obtain ⟨L', hL', hx⟩ := hR.live b c' u hg
                rw [hL] at hL'; injection hL' with hL'; subst hL'
                obtain ⟨r', hr1, hr2⟩ := hx off _ hv
                refine main r' ?_ hr2 hc
                simp only [resOne, he, asAddr, Sem.run_bind, Sem.run_pure, Result.andThen_ok, loadVar, run_isAgg' hag, Bool.false_eq_true, if_false, run_load, hr1]
              · cases hv
            · cases hv
          · obtain ⟨⟨⟨⟨rfl, _⟩, hag⟩, hsz⟩, hc⟩ := hc
            simp only [resA] at hv
            split at hv
            · rename_i b off hb
              split at hv
              · rename_i c' u hg
                split at hv
                · rename_i hle
                  injection hv with hv; subst hv
                  obtain ⟨L, hL, he⟩ := hE.fp _ _ hb
                  obtain ⟨vs, hr1, hr2⟩ := loadCells_sound (P := X.P) hL hR hg off _ hle
                  refine main (.agg vs) ?_ ⟨vs, rfl, hr2⟩ hc
                  simp only [resOne, he, asAddr, Sem.run_bind, Sem.run_pure, Result.andThen_ok, loadVar, run_isAgg' hag, if_true, run_sizeOf' hsz, hr1]
                · cases hv
              · cases hv
            · cases hv
theorem results_sound {X : Cx} {fn : Func} {p t : List (Nat × AV)} {tmps : Array Value} {cs : List CRes} {l : List AV} (hE : Env X ι p t tmps) (hR : Rel B ι H w) (hc : chkRes X fn.results.toList cs = true) (h : resAs p H cs = some l) :
    ∃ v, (results fn tmps).run X.P w = .ok v w ∧ VR ι (resV l) v := by
  obtain ⟨vs, h1, h2⟩ := res_sound hE hR fn.results.toList cs l hc h
  have hrun : (results fn tmps).run X.P w = .ok (if hs : vs.toArray.size = 1 then vs.toArray[0] else .tuple vs.toArray) w := by
    rw [results_eq]
    simp only [Sem.run_bind]
    rw [Array.mapM_eq_mapM_toList]
    simp only [Sem.run_map, h1, Result.andThen_ok, Sem.run_pure]
  refine ⟨_, hrun, ?_⟩
  cases l with
  | nil =>
    have : vs = [] := h2
    subst this
    exact ⟨#[], rfl, rfl⟩
  | cons x l =>
    obtain ⟨v, vs', rfl, hr, hrs⟩ := h2
    cases l with
    | nil =>
      have : vs' = [] := hrs
      subst this
      exact hr
    | cons y l =>
      obtain ⟨v2, vs2, rfl, hr2, hrs2⟩ := hrs
      rw [dif_neg (by simp)]
      exact ⟨_, rfl, ⟨v, _, rfl, hr, ⟨v2, vs2, rfl, hr2, hrs2⟩⟩⟩
end
end Go.Ev
