/- Soundness of the simple operations: values, fields, indexes. -/
import Derived.Test.YtimbiogcllmalaaDoorEvD
import Derived.Tactics
namespace Go.Ev
open Go Go.RowKit

/-- The slots of a frame hold what the abstract slots hold. -/
structure Env (X : Cx) (ι : Plan) (p t : List (Nat × AV)) (tmps : Array Value) : Prop where
  fp : ∀ i v, lk i p = some v → VR ι v (tmps.getD i undef)
  ft : ∀ i v, lk i t = some v → VR ι v (tmps.getD i undef)
  fg : ∀ g, g < X.P.globals.size → ∃ e, ι g = some ⟨g, 0, e⟩
  pk : ∀ i v, lk i p = some v → X.ps.contains i = true
  tk : ∀ i v, lk i t = some v → X.ps.contains i = false

theorem Env.mono {X : Cx} {ι ι' : Plan} {p t : List (Nat × AV)} {tmps : Array Value} (h : Env X ι p t tmps) (hle : ι.le ι') : Env X ι' p t tmps where
  fp := fun i v e => VR.mono hle _ _ (h.fp i v e)
  ft := fun i v e => VR.mono hle _ _ (h.ft i v e)
  fg := fun g hg => let ⟨e, he⟩ := h.fg g hg; ⟨e, hle _ _ he⟩
  pk := h.pk
  tk := h.tk

def OpOK (X : Cx) (a : Act) (o : Oper) (B : Nat) (ι : Plan) (w : World) (v : AV) (H' : Heap) : Prop :=
  ∃ nx w' v', (execOp a.eval o).run X.P w = .ok nx w' ∧ (nx = .value v' ∨ (nx = .skip ∧ v' = undef)) ∧ Good B ι w H' w' (fun ι' => VR ι' v v')

section
variable {X : Cx} {ι : Plan} {B : Nat} {H H' : Heap} {w : World} {a : Act} {p t : List (Nat × AV)} {o : Oper} {v : AV}

theorem rho_sound (hE : Env X ι p t a.tmps) : ∀ {x : Operand} {y : Opd} {v : AV}, chkOpd X x y = true → rho p t y = some v → VR ι v (a.eval x) := by
  intro x y v hc hv
  cases x <;> cases y <;> simp only [chkOpd, Bool.and_eq_true, beq_iff_eq, Bool.false_eq_true] at hc
  case tmp.p i j => obtain ⟨rfl, _⟩ := hc; exact hE.fp _ _ hv
  case tmp.t i j => obtain ⟨rfl, _⟩ := hc; exact hE.ft _ _ hv
  case const.c u x => simp only [rho, Option.some.injEq] at hv; subst hv; exact constV_sound ι _ _ hc
  case global.g g h =>
    obtain ⟨rfl, h2⟩ := hc
    simp only [rho, Option.some.injEq] at hv; subst hv
    obtain ⟨e, he⟩ := hE.fg g (of_decide_eq_true h2)
    exact ⟨_, he, rfl⟩
  case func.f f h => subst hc; simp only [rho, Option.some.injEq] at hv; subst hv; exact ⟨#[], rfl, rfl⟩

theorem rhos_sound (hE : Env X ι p t a.tmps) : ∀ {xs : List Operand} {ys : List Opd} {vs : List AV}, chkOpds X xs ys = true → rhos p t ys = some vs → VRs ι vs (xs.map a.eval)
  | [], [], vs, _, hv => by simp only [rhos, Option.some.injEq] at hv; subst hv; rfl
  | [], _ :: _, _, hc, _ => by simp [chkOpds] at hc
  | _ :: _, [], _, hc, _ => by simp [chkOpds] at hc
  | x :: xs, y :: ys, vs, hc, hv => by
    simp only [chkOpds, Bool.and_eq_true] at hc
    simp only [rhos] at hv
    split at hv
    · cases hv
    · rename_i u hu
      split at hv
      · cases hv
      · rename_i l hl
        injection hv with hv; subst hv
        exact ⟨_, _, rfl, rho_sound hE hc.1 hu, rhos_sound hE hc.2 hl⟩

theorem OpOK.val {u : Value} (hR : Rel B ι H w) (hrun : (execOp a.eval o).run X.P w = .ok (.value u) w) (hr : VR ι v u) : OpOK X a o B ι w v H :=
  ⟨_, w, u, hrun, .inl rfl, ι, ι.le_refl, hR, Below.refl _ _, hr⟩

theorem s_mov {x : Operand} {y : Opd} (ho : o.op = .move x ∨ o.op = .assign x) (hE : Env X ι p t a.tmps) (hR : Rel B ι H w) (hc : chkOpd X x y = true)
    (hev : evOp (rho p t) H (.mov y) = some (v, H')) : OpOK X a o B ι w v H' := by
  simp only [evOp, Option.map_eq_some_iff] at hev
  obtain ⟨u, hu, e⟩ := hev
  injection e with e1 e2; subst e1; subst e2
  refine OpOK.val hR ?_ (rho_sound hE hc hu)
  rcases ho with ho | ho <;> simp [execOp, ho]

theorem VR.bool_inv {b : Bool} {u : Value} (h : VR ι (.bool b) u) : u = .bool b := h

theorem s_pick {c x y : Operand} {c' x' y' : Opd} (ho : o.op = .pick c x y) (hE : Env X ι p t a.tmps) (hR : Rel B ι H w)
    (hc : (chkOpd X c c' && chkOpd X x x' && chkOpd X y y') = true)
    (hev : evOp (rho p t) H (.pick c' x' y') = some (v, H')) : OpOK X a o B ι w v H' := by
  simp only [Bool.and_eq_true] at hc
  simp only [evOp] at hev
  split at hev
  · rename_i hb
    obtain ⟨u, hu, e⟩ := Option.map_eq_some_iff.1 hev
    injection e with e1 e2; subst e1; subst e2
    have h1 := rho_sound hE hc.1.1 hb
    refine OpOK.val hR ?_ (rho_sound hE hc.1.2 hu)
    simp [execOp, ho, h1.bool_inv, asBool]
  · rename_i hb
    obtain ⟨u, hu, e⟩ := Option.map_eq_some_iff.1 hev
    injection e with e1 e2; subst e1; subst e2
    have h1 := rho_sound hE hc.1.1 hb
    refine OpOK.val hR ?_ (rho_sound hE hc.2 hu)
    simp [execOp, ho, h1.bool_inv, asBool]
  · cases hev

theorem run_ti {P : Program} {t : TypeId} {i : TypeInfo} (w : World) (h : P.info? t = some i) : (typeInfo t).run P w = .ok i w := by
  simp [typeInfo, h]

theorem run_zeroValue' {P : Program} {t : TypeId} {z : Value} (h : tyZero P t = some z) (w : World) : (zeroValue t).run P w = .ok z w := by
  unfold tyZero at h
  cases hi : P.info? t with
  | none => simp [hi] at h
  | some i => simp [hi] at h; simp [zeroValue, run_ti w hi, h]

theorem run_sizeOf' {P : Program} {t : TypeId} {n : Nat} (h : tySize P t = some n) (w : World) : (sizeOf t).run P w = .ok n w := by
  unfold tySize at h
  cases hi : P.info? t with
  | none => simp [hi] at h
  | some i => simp [hi] at h; simp [sizeOf, run_ti w hi, h]

theorem run_bytes' {P : Program} {t : TypeId} {n : Nat} (h : tyBytes P t = some n) (w : World) : ∃ i, (typeInfo t).run P w = .ok i w ∧ i.bytes = n := by
  unfold tyBytes at h
  cases hi : P.info? t with
  | none => simp [hi] at h
  | some i => simp [hi] at h; exact ⟨i, run_ti w hi, h⟩

theorem run_isAgg' {P : Program} {t : TypeId} {b : Bool} (h : tyAgg P t = some b) (w : World) : (isAgg t).run P w = .ok b w := by
  unfold tyAgg at h
  cases hu : P.underlying t with
  | none => simp [hu] at h
  | some d => cases d <;> simp [hu] at h <;> subst h <;> simp [isAgg, run_underlying hu]

/-- A new variable, whatever it holds. -/
theorem new_sound {c : List AV} {vs : Array Value} (e : TypeId) (hR : Rel B ι H w) (hr : VRs ι c vs.toList) :
    ι.le (ι.add H.size ⟨w.heap.size, 0, c.length⟩) ∧ Rel B (ι.add H.size ⟨w.heap.size, 0, c.length⟩) (H.push (.cells c .own)) (w.alloc (.cells vs e)) ∧ Below B w (w.alloc (.cells vs e)) := by
  have hlen : vs.size = c.length := by have := hr.length; simpa using this
  obtain ⟨h1, h2⟩ := hR.push_cells (w' := w.alloc (.cells vs e)) c c.length (by simp) (fun k hk => Below.heap_alloc _ _ _ hk)
    (fun i x hx => by
      obtain ⟨u, hu, hru⟩ := hr.get hx
      exact ⟨u, by rw [World.cell?_alloc_new]; simpa using hu, hru⟩)
    ⟨Nat.le_refl _, fun i hi => by
      rw [World.cell?_alloc_new, World.frozen?_alloc_new]
      exact ⟨⟨vs[i], by simp [hlen, hi]⟩, rfl⟩⟩
  exact ⟨h1, h2, (Below.refl B w).alloc hR.size _⟩

theorem s_alloc {e : TypeId} {z : List AV} (ho : o.op = .alloc e) (hR : Rel B ι H w)
    (hc : (match tyZero X.P e with | some v => constVs z v.cells.toList | none => false) = true)
    (hev : evOp (rho p t) H (.alloc z) = some (v, H')) : OpOK X a o B ι w v H' := by
  simp only [evOp, Option.some.injEq, Prod.mk.injEq] at hev
  obtain ⟨e1, e2⟩ := hev; subst e1; subst e2
  cases hz : tyZero X.P e with
  | none => simp [hz] at hc
  | some zv =>
    simp only [hz] at hc
    obtain ⟨h1, h2, h3⟩ := new_sound (c := z) (vs := zv.cells) e hR (constVs_sound ι _ _ hc)
    refine ⟨_, _, .pointer (some ⟨w.heap.size, 0, none⟩), ?_, .inl rfl, _, h1, h2, h3, ⟨_, Plan.add_self _ _ _, by simp⟩⟩
    simp [execOp, ho, Instr.alloc, run_zeroValue' hz, newVar, newRow]

theorem s_box {e : TypeId} {x : Operand} {y : Opd} (ho : o.op = .box e x) (hE : Env X ι p t a.tmps) (hR : Rel B ι H w) (hc : chkOpd X x y = true)
    (hev : evOp (rho p t) H (.box y) = some (v, H')) : OpOK X a o B ι w v H' := by
  simp only [evOp] at hev
  split at hev
  · rename_i u hu
    simp only [Option.some.injEq, Prod.mk.injEq] at hev
    obtain ⟨e1, e2⟩ := hev; subst e1; subst e2
    have hr := rho_sound hE hc hu
    obtain ⟨h1, h2, h3⟩ := new_sound (c := u.cells) (vs := (a.eval x).cells) e hR hr.cells
    refine ⟨_, _, .pointer (some ⟨w.heap.size, 0, none⟩), ?_, .inl rfl, _, h1, h2, h3, ⟨_, Plan.add_self _ _ _, by simp⟩⟩
    simp [execOp, ho, Instr.box, newVar, newRow]
  · cases hev

theorem wr_foldl : ∀ (xs : List AV) (us : List Value) (c : List AV) (vs : Array Value) (off j : Nat), VRs ι xs us → VRs ι c vs.toList →
    VRs ι (wr c (off + j) xs) ((us.zipIdx j).foldl (fun (cs : Array Value) (cj : Value × Nat) => cs.setIfInBounds (off + cj.2) cj.1) vs).toList
  | [], us, c, vs, off, j, h, hc => by
    have : us = [] := h
    subst this; exact hc
  | x :: xs, _, c, vs, off, j, ⟨u, us', e, hr, hrs⟩, hc => by
    subst e
    simp only [List.zipIdx_cons, List.foldl_cons, wr]
    refine wr_foldl xs us' (c.set (off + j) x) (vs.setIfInBounds (off + j) u) off (j + 1) hrs ?_
    refine VRs.intro (by simp [hc.length]) fun i y hy => ?_
    rw [List.getElem?_set] at hy
    by_cases e : off + j = i
    · subst e
      rw [if_pos rfl] at hy
      split at hy
      · rename_i hlt
        injection hy with hy; subst hy
        exact ⟨u, by rw [Array.toList_setIfInBounds, List.getElem?_set, if_pos rfl, if_pos (by rw [hc.length]; exact hlt)], hr⟩
      · cases hy
    · rw [if_neg e] at hy
      obtain ⟨z, hz, hrz⟩ := hc.get hy
      exact ⟨z, by rw [Array.toList_setIfInBounds, List.getElem?_set, if_neg e]; exact hz, hrz⟩

theorem fill_sound (hE : Env X ι p t a.tmps) (place : Nat → Option (Nat × Nat)) : ∀ (ps : List (Nat × Operand)) (qs : List (Nat × Nat × Opd)) (c r : List AV) (vs : Array Value),
    chkParts X place ps qs = true → fillA (rho p t) c qs = some r → VRs ι c vs.toList →
    ∃ us, Instr.fill place vs (ps.map fun (i, x) => (i, a.eval x)) = some us ∧ VRs ι r us.toList
  | [], [], c, r, vs, _, hf, hv => by simp only [fillA, Option.some.injEq] at hf; subst hf; exact ⟨vs, rfl, hv⟩
  | [], _ :: _, _, _, _, hc, _, _ => by simp [chkParts] at hc
  | _ :: _, [], _, _, _, hc, _, _ => by simp [chkParts] at hc
  | (i, x) :: ps, (off, sz, y) :: qs, c, r, vs, hc, hf, hv => by
    simp only [chkParts, Bool.and_eq_true, decide_eq_true_eq] at hc
    obtain ⟨⟨hp, hx⟩, hrest⟩ := hc
    simp only [fillA] at hf
    split at hf
    · cases hf
    · rename_i u hu
      split at hf
      · rename_i hlen
        have hr := rho_sound hE hx hu
        have hrc := hr.cells
        have hsz : (a.eval x).cells.size = u.cells.length := by have := hrc.length; simpa using this
        have hvs : vs.size = c.length := by have := hv.length; simpa using this
        simp only [List.map_cons, Instr.fill, hp]
        rw [if_neg (by simp [hsz, hlen.1, hvs]; have := hlen.2; omega)]
        have hw := wr_foldl u.cells (a.eval x).cells.toList c vs off 0 hrc hv
        rw [Nat.add_zero] at hw
        obtain ⟨us, h1, h2⟩ := fill_sound hE place ps qs (wr c off u.cells) r _ hrest hf hw
        refine ⟨us, ?_, h2⟩
        rw [← h1]
        congr 1
        rw [← Array.foldl_toList]
        congr 1
        simp
      · cases hf
end
end Go.Ev
