/- Several texts of this claim, joined. -/
import Derived.Test.YtfkdecamhepibaaGreatDoorT05
import Derived.Tactics
set_option linter.unusedSimpArgs false
set_option linter.unusedVariables false

/- Soundness of the simple operations: values, fields, indexes. -/
namespace Go.Ev
open Go Go.RowKit
/-- The slots of a frame hold what the abstract slots hold. -/
structure Env (X : Cx) (ι : Plan) (p t : List (Nat × AV)) (tmps : Array Value) : Prop where
  fp : ∀ i v, lk i p = some v → VR ι v (tmps.getD i undef)
  ft : ∀ i v, lk i t = some v → VR ι v (tmps.getD i undef)
  fg : ∀ g, g < X.P.globals.size → ∃ e, ι g = some ⟨g, 0, e⟩
  pk : ∀ i v, lk i p = some v → X.ps.contains i = true
  tk : ∀ i v, lk i t = some v → X.ps.contains i = false
theorem Env.mono {X : Cx} {ι ι' : Plan} {p t : List (Nat × AV)} {tmps : Array Value} (h : Env X ι p t tmps) (hle : ι.le ι') : Env X ι' p t tmps where
  fp := fun i v e => VR.mono hle _ _ (h.fp i v e)
  ft := fun i v e => VR.mono hle _ _ (h.ft i v e)
  fg := fun g hg => let ⟨e, he⟩ := h.fg g hg; ⟨e, hle _ _ he⟩
  pk := h.pk
  tk := h.tk
def OpOK (X : Cx) (a : Act) (o : Oper) (B : Nat) (ι : Plan) (w : World) (v : AV) (H' : Heap) : Prop :=
  ∃ nx w' v', (execOp a.eval o).run X.P w = .ok nx w' ∧ (nx = .value v' ∨ (nx = .skip ∧ v' = undef)) ∧ Good B ι w H' w' (fun ι' => VR ι' v v')
section
variable {X : Cx} {ι : Plan} {B : Nat} {H H' : Heap} {w : World} {a : Act} {p t : List (Nat × AV)} {o : Oper} {v : AV}
theorem rho_sound (hE : Env X ι p t a.tmps) : ∀ {x : Operand} {y : Opd} {v : AV}, chkOpd X x y = true → rho p t y = some v → VR ι v (a.eval x) := by
  intro x y v hc hv
  cases x <;> cases y <;> simp only [chkOpd, Bool.and_eq_true, beq_iff_eq, Bool.false_eq_true] at hc
  case tmp.p i j => obtain ⟨rfl, _⟩ := hc; exact hE.fp _ _ hv
  case tmp.t i j => obtain ⟨rfl, _⟩ := hc; exact hE.ft _ _ hv
  case const.c u x => simp only [rho, Option.some.injEq] at hv; subst hv; exact constV_sound ι _ _ hc
  case global.g g h =>
    obtain ⟨rfl, h2⟩ := hc
    simp only [rho, Option.some.injEq] at hv; subst hv
    obtain ⟨e, he⟩ := hE.fg g (of_decide_eq_true h2)
    exact ⟨_, he, rfl⟩
  case func.f f h => subst hc; simp only [rho, Option.some.injEq] at hv; subst hv; exact ⟨#[], rfl, rfl⟩
theorem rhos_sound (hE : Env X ι p t a.tmps) : ∀ {xs : List Operand} {ys : List Opd} {vs : List AV}, chkOpds X xs ys = true → rhos p t ys = some vs → VRs ι vs (xs.map a.eval)
  | [], [], vs, _, hv => by simp only [rhos, Option.some.injEq] at hv; subst hv; rfl
  | [], _ :: _, _, hc, _ => by simp [chkOpds] at hc
  | _ :: _, [], _, hc, _ => by simp [chkOpds] at hc
  | x :: xs, y :: ys, vs, hc, hv => by
    simp only [chkOpds, Bool.and_eq_true] at hc
    simp only [rhos] at hv
    split at hv
    · cases hv
    · rename_i u hu
      split at hv
      · cases hv
      · rename_i l hl
        injection hv with hv; subst hv
        exact ⟨_, _, rfl, rho_sound hE hc.1 hu, rhos_sound hE hc.2 hl⟩
theorem OpOK.val {u : Value} (hR : Rel B ι H w) (hrun : (execOp a.eval o).run X.P w = .ok (.value u) w) (hr : VR ι v u) : OpOK X a o B ι w v H :=
  ⟨_, w, u, hrun, .inl rfl, ι, ι.le_refl, hR, Below.refl _ _, hr⟩
theorem s_mov {x : Operand} {y : Opd} (ho : o.op = .move x ∨ o.op = .assign x) (hE : Env X ι p t a.tmps) (hR : Rel B ι H w) (hc : chkOpd X x y = true)
    (hev : evOp (rho p t) H (.mov y) = some (v, H')) : OpOK X a o B ι w v H' := by
  simp only [evOp, Option.map_eq_some_iff] at hev
  obtain ⟨u, hu, e⟩ := hev
  injection e with e1 e2; subst e1; subst e2
  refine OpOK.val hR ?_ (rho_sound hE hc hu)
  rcases ho with ho | ho <;> simp [execOp, ho]
theorem VR.bool_inv {b : Bool} {u : Value} (h : VR ι (.bool b) u) : u = .bool b := h
theorem s_pick {c x y : Operand} {c' x' y' : Opd} (ho : o.op = .pick c x y) (hE : Env X ι p t a.tmps) (hR : Rel B ι H w)
    (hc : (chkOpd X c c' && chkOpd X x x' && chkOpd X y y') = true)
    (hev : evOp (rho p t) H (.pick c' x' y') = some (v, H')) : OpOK X a o B ι w v H' := by
  simp only [Bool.and_eq_true] at hc
  simp only [evOp] at hev
  split at hev
  · rename_i hb
    obtain ⟨u, hu, e⟩ := Option.map_eq_some_iff.1 hev
    injection e with e1 e2; subst e1; subst e2
    have h1 := rho_sound hE hc.1.1 hb
    refine OpOK.val hR ?_ (rho_sound hE hc.1.2 hu)
    simp [execOp, ho, h1.bool_inv, asBool]
  · rename_i hb
    obtain ⟨u, hu, e⟩ := Option.map_eq_some_iff.1 hev
    injection e with e1 e2; subst e1; subst e2
    have h1 := rho_sound hE hc.1.1 hb
    refine OpOK.val hR ?_ (rho_sound hE hc.2 hu)
    simp [execOp, ho, h1.bool_inv, asBool]
  · cases hev
theorem run_ti {P : Program} {t : TypeId} {i : TypeInfo} (w : World) (h : P.info? t = some i) : (typeInfo t).run P w = .ok i w := by
  simp [typeInfo, h]
theorem run_zeroValue' {P : Program} {t : TypeId} {z : Value} (h : tyZero P t = some z) (w : World) : (zeroValue t).run P w = .ok z w := by
  unfold tyZero at h
  cases hi : P.info? t with
  | none => simp [hi] at h
  | some i => simp [hi] at h; simp [zeroValue, run_ti w hi, h]
theorem run_sizeOf' {P : Program} {t : TypeId} {n : Nat} (h : tySize P t = some n) (w : World) : (sizeOf t).run P w = .ok n w := by
  unfold tySize at h
  cases hi : P.info? t with
  | none => simp [hi] at h
  | some i => simp [hi] at h; simp [sizeOf, run_ti w hi, h]
theorem run_bytes' {P : Program} {t : TypeId} {n : Nat} (h : tyBytes P t = some n) (w : World) : ∃ i, (typeInfo t).run P w = .ok i w ∧ i.bytes = n := by
  unfold tyBytes at h
  cases hi : P.info? t with
  | none => simp [hi] at h
  | some i => simp [hi] at h; exact ⟨i, run_ti w hi, h⟩
theorem run_isAgg' {P : Program} {t : TypeId} {b : Bool} (h : tyAgg P t = some b) (w : World) : (isAgg t).run P w = .ok b w := by
  unfold tyAgg at h
  cases hu : P.underlying t with
  | none => simp [hu] at h
  | some d => cases d <;> simp [hu] at h <;> subst h <;> simp [isAgg, run_underlying hu]
/-- A new variable, whatever it holds. -/
theorem new_sound {c : List AV} {vs : Array Value} (e : TypeId) (hR : Rel B ι H w) (hr : VRs ι c vs.toList) :
    ι.le (ι.add H.size ⟨w.heap.size, 0, c.length⟩) ∧ Rel B (ι.add H.size ⟨w.heap.size, 0, c.length⟩) (H.push (.cells c .own)) (w.alloc (.cells vs e)) ∧ Below B w (w.alloc (.cells vs e)) := by
  have hlen : vs.size = c.length := by have := hr.length; simpa using this
  obtain ⟨h1, h2⟩ := hR.push_cells (w' := w.alloc (.cells vs e)) c c.length (by simp) (fun k hk => Below.heap_alloc _ _ _ hk)
    (fun i x hx => by
      obtain ⟨u, hu, hru⟩ := hr.get hx
      exact ⟨u, by rw [World.cell?_alloc_new]; simpa using hu, hru⟩)
    ⟨Nat.le_refl _, fun i hi => by
      rw [World.cell?_alloc_new, World.frozen?_alloc_new]
      exact ⟨⟨vs[i], by simp [hlen, hi]⟩, rfl⟩⟩
  exact ⟨h1, h2, (Below.refl B w).alloc hR.size _⟩
theorem s_alloc {e : TypeId} {z : List AV} (ho : o.op = .alloc e) (hR : Rel B ι H w)
    (hc : (match tyZero X.P e with | some v => constVs z v.cells.toList | none => false) = true)
    (hev : evOp (rho p t) H (.alloc z) = some (v, H')) : OpOK X a o B ι w v H' := by
  simp only [evOp, Option.some.injEq, Prod.mk.injEq] at hev
  obtain ⟨e1, e2⟩ := hev; subst e1; subst e2
  cases hz : tyZero X.P e with
  | none => simp [hz] at hc
  | some zv =>
    simp only [hz] at hc
    obtain ⟨h1, h2, h3⟩ := new_sound (c := z) (vs := zv.cells) e hR (constVs_sound ι _ _ hc)
    refine ⟨_, _, .pointer (some ⟨w.heap.size, 0, none⟩), ?_, .inl rfl, _, h1, h2, h3, ⟨_, Plan.add_self _ _ _, by simp⟩⟩
    simp [execOp, ho, Instr.alloc, run_zeroValue' hz, newVar, newRow]
theorem s_box {e : TypeId} {x : Operand} {y : Opd} (ho : o.op = .box e x) (hE : Env X ι p t a.tmps) (hR : Rel B ι H w) (hc : chkOpd X x y = true)
    (hev : evOp (rho p t) H (.box y) = some (v, H')) : OpOK X a o B ι w v H' := by
  simp only [evOp] at hev
  split at hev
  · rename_i u hu
    simp only [Option.some.injEq, Prod.mk.injEq] at hev
    obtain ⟨e1, e2⟩ := hev; subst e1; subst e2
    have hr := rho_sound hE hc hu
    obtain ⟨h1, h2, h3⟩ := new_sound (c := u.cells) (vs := (a.eval x).cells) e hR hr.cells
    refine ⟨_, _, .pointer (some ⟨w.heap.size, 0, none⟩), ?_, .inl rfl, _, h1, h2, h3, ⟨_, Plan.add_self _ _ _, by simp⟩⟩
    simp [execOp, ho, Instr.box, newVar, newRow]
  · cases hev
theorem wr_foldl : ∀ (xs : List AV) (us : List Value) (c : List AV) (vs : Array Value) (off j : Nat), VRs ι xs us → VRs ι c vs.toList →
    VRs ι (wr c (off + j) xs) ((us.zipIdx j).foldl (fun (cs : Array Value) (cj : Value × Nat) => cs.setIfInBounds (off + cj.2) cj.1) vs).toList
  | [], us, c, vs, off, j, h, hc => by
    have : us = [] := h
    subst this; exact hc
  | x :: xs, _, c, vs, off, j, ⟨u, us', e, hr, hrs⟩, hc => by
    subst e
    simp only [List.zipIdx_cons, List.foldl_cons, wr]
    refine wr_foldl xs us' (c.set (off + j) x) (vs.setIfInBounds (off + j) u) off (j + 1) hrs ?_
    refine VRs.intro (by simp [hc.length]) fun i y hy => ?_
    rw [List.getElem?_set] at hy
    by_cases e : off + j = i
    · subst e
      rw [if_pos rfl] at hy
      split at hy
      · rename_i hlt
        injection hy with hy; subst hy
        exact ⟨u, by rw [Array.toList_setIfInBounds, List.getElem?_set, if_pos rfl, if_pos (by rw [hc.length]; exact hlt)], hr⟩
      · cases hy
    · rw [if_neg e] at hy
      obtain ⟨z, hz, hrz⟩ := hc.get hy
      exact ⟨z, by rw [Array.toList_setIfInBounds, List.getElem?_set, if_neg e]; exact hz, hrz⟩
theorem fill_sound (hE : Env X ι p t a.tmps) (place : Nat → Option (Nat × Nat)) : ∀ (ps : List (Nat × Operand)) (qs : List (Nat × Nat × Opd)) (c r : List AV) (vs : Array Value),
    chkParts X place ps qs = true → fillA (rho p t) c qs = some r → VRs ι c vs.toList →
    ∃ us, Instr.fill place vs (ps.map fun (i, x) => (i, a.eval x)) = some us ∧ VRs ι r us.toList
  | [], [], c, r, vs, _, hf, hv => by simp only [fillA, Option.some.injEq] at hf; subst hf; exact ⟨vs, rfl, hv⟩
  | [], _ :: _, _, _, _, hc, _, _ => by simp [chkParts] at hc
  | _ :: _, [], _, _, _, hc, _, _ => by simp [chkParts] at hc
  | (i, x) :: ps, (off, sz, y) :: qs, c, r, vs, hc, hf, hv => by
    simp only [chkParts, Bool.and_eq_true, decide_eq_true_eq] at hc
    obtain ⟨⟨hp, hx⟩, hrest⟩ := hc
    simp only [fillA] at hf
    split at hf
    · cases hf
    · rename_i u hu
      split at hf
      · rename_i hlen
        have hr := rho_sound hE hx hu
        have hrc := hr.cells
        have hsz : (a.eval x).cells.size = u.cells.length := by have := hrc.length; simpa using this
        have hvs : vs.size = c.length := by have := hv.length; simpa using this
        simp only [List.map_cons, Instr.fill, hp]
        rw [if_neg (by simp [hsz, hlen.1, hvs]; have := hlen.2; omega)]
        have hw := wr_foldl u.cells (a.eval x).cells.toList c vs off 0 hrc hv
        rw [Nat.add_zero] at hw
        obtain ⟨us, h1, h2⟩ := fill_sound hE place ps qs (wr c off u.cells) r _ hrest hf hw
        refine ⟨us, ?_, h2⟩
        rw [← h1]
        congr 1
        rw [← Array.foldl_toList]
        congr 1
        simp
      · cases hf
end
end Go.Ev
/- Soundness of the simple operations: literals, loads, stores, numbers, texts. -/
namespace Go.Ev
open Go Go.RowKit
section
variable {X : Cx} {ι : Plan} {B : Nat} {H H' : Heap} {w : World} {a : Act} {p t : List (Nat × AV)} {o : Oper} {v : AV}
theorem mapM_size {P : Program} : ∀ (fs : List Field) (pl : List (Nat × Nat)) (w : World), (fs.mapM fun f => (tySize P f.type).map fun n => (f.offset, n)) = some pl →
    (fs.mapM fun f => do pure (f.offset, ← sizeOf f.type) : Sem (List (Nat × Nat))).run P w = .ok pl w
  | [], pl, w, h => by simp at h; subst h; rfl
  | f :: fs, pl, w, h => by
    simp only [List.mapM_cons] at h
    cases h1 : tySize P f.type with
    | none => simp [h1] at h
    | some n =>
      cases h2 : (fs.mapM fun f => (tySize P f.type).map fun n => (f.offset, n)) with
      | none => simp [h1, h2] at h
      | some r =>
        simp [h1, h2] at h; subst h
        have ih := mapM_size fs r w h2
        simp only [List.mapM_cons, Sem.run_bind, run_sizeOf' h1, Result.andThen_ok, Sem.run_pure, ih]
theorem s_build {ty : TypeId} {ps : Array (Nat × Operand)} {z : List AV} {qs : List (Nat × Nat × Opd)} (ho : o.op = .build ty ps) (hE : Env X ι p t a.tmps) (hR : Rel B ι H w)
    (hc : chkOp X o.op (.build z qs) = true)
    (hev : evOp (rho p t) H (.build z qs) = some (v, H')) : OpOK X a o B ι w v H' := by
  rw [ho] at hc
  simp only [chkOp, Bool.and_eq_true] at hc
  obtain ⟨hz, hpl⟩ := hc
  simp only [evOp, Option.map_eq_some_iff, Prod.mk.injEq] at hev
  obtain ⟨c, hf, e1, e2⟩ := hev; subst e1; subst e2
  cases hzv : tyZero X.P ty with
  | none => simp [hzv] at hz
  | some zv =>
    simp only [hzv] at hz
    have hv0 := constVs_sound ι _ _ hz
    have hmap : (ps.map fun (x : Nat × Operand) => match x with | (i, x) => (i, a.eval x)).toList = ps.toList.map fun (i, x) => (i, a.eval x) := by simp
    cases hu : X.P.underlying ty with
    | none => simp [hu] at hpl
    | some d =>
      cases d <;> simp only [hu, Bool.false_eq_true] at hpl
      case struct fs =>
        cases hp : fieldPlaces X.P fs with
        | none => simp [hp] at hpl
        | some pl =>
          simp only [hp] at hpl
          obtain ⟨us, h1, h2⟩ := fill_sound hE (pl[·]?) ps.toList qs z c zv.cells hpl hf hv0
          refine OpOK.val hR ?_ ⟨us, rfl, h2⟩
          have hm := mapM_size fs.toList pl w hp
          have hm2 : (fs.mapM fun f => do pure (f.offset, ← sizeOf f.type) : Sem (Array (Nat × Nat))).run X.P w = .ok pl.toArray w := by
            rw [Array.mapM_eq_mapM_toList, Sem.run_map, hm]; rfl
          simp only [execOp, ho, Instr.build, Sem.run_bind, run_zeroValue' hzv, Result.andThen_ok, run_underlying hu, hm2, hmap, List.getElem?_toArray, h1, Sem.run_pure]
      case array n e =>
        cases hs : tySize X.P e with
        | none => simp [hs] at hpl
        | some s =>
          simp only [hs] at hpl
          obtain ⟨us, h1, h2⟩ := fill_sound hE (fun i => some (i * s, s)) ps.toList qs z c zv.cells hpl hf hv0
          refine OpOK.val hR ?_ ⟨us, rfl, h2⟩
          simp only [execOp, ho, Instr.build, Sem.run_bind, run_zeroValue' hzv, Result.andThen_ok, run_underlying hu, run_sizeOf' hs, hmap, h1, Sem.run_pure]
theorem s_lit {ty : TypeId} {len n : Nat} {ps : Array (Nat × Operand)} {z : List AV} {qs : List (Nat × Nat × Opd)} (ho : o.op = .buildSlice ty len ps) (hE : Env X ι p t a.tmps) (hR : Rel B ι H w)
    (hc : chkOp X o.op (.lit z n qs) = true)
    (hev : evOp (rho p t) H (.lit z n qs) = some (v, H')) : OpOK X a o B ι w v H' := by
  rw [ho] at hc
  simp only [chkOp, Bool.and_eq_true, beq_iff_eq] at hc
  obtain ⟨hn, hpl⟩ := hc
  subst hn
  simp only [evOp, Option.map_eq_some_iff, Prod.mk.injEq] at hev
  obtain ⟨c, hf, e1, e2⟩ := hev; subst e1; subst e2
  have hmap : (ps.map fun (x : Nat × Operand) => match x with | (i, x) => (i, a.eval x)).toList = ps.toList.map fun (i, x) => (i, a.eval x) := by simp
  cases hu : X.P.underlying ty with
  | none => simp [hu] at hpl
  | some d =>
    cases d <;> simp only [hu, Bool.false_eq_true] at hpl
    case slice e =>
      cases hs : tySize X.P e with
      | none => simp [hs] at hpl
      | some s =>
        cases hzv : tyZero X.P e with
        | none => simp [hs, hzv] at hpl
        | some zv =>
          simp only [hs, hzv, Bool.and_eq_true, decide_eq_true_eq] at hpl
          obtain ⟨⟨⟨hsz, hz⟩, hpos⟩, hparts⟩ := hpl
          have hv0 := constVs_sound ι _ _ hz
          have hzero : ∀ zs : Array Value, (len * s = 0 ∨ zs = zv.cells) → ((Array.range (len * s)).map fun i => zs[i % zs.size]!) = ((List.range (len * s)).map fun i => zv.cells.getD (i % zv.cells.size) undef).toArray := by
            intro zs h
            rcases h with h | h
            · rw [h]; simp
            · subst h
              apply Array.ext'
              simp only [Array.toList_map, Array.toList_range]
              apply List.map_congr_left
              intro i _
              have : i % zv.cells.size < zv.cells.size := Nat.mod_lt _ hpos
              simp [this]
          obtain ⟨us, h1, h2⟩ := fill_sound hE (fun i => some (i * s, s)) ps.toList qs z c (((List.range (len * s)).map fun i => zv.cells.getD (i % zv.cells.size) undef).toArray) hparts hf (by simpa using hv0)
          obtain ⟨n1, n2, n3⟩ := new_sound (c := c) (vs := us) e hR h2
          refine ⟨_, _, .slice (some ⟨w.heap.size, 0, none⟩) len len, ?_, .inl rfl, _, n1, n2, n3, ⟨_, Plan.add_self _ _ _, by simp⟩⟩
          have hlim : ¬ (len * s > 2 ^ 24) := by omega
          by_cases h0 : len * s = 0
          · simp only [execOp, ho, Instr.buildSlice, Sem.run_bind, run_underlying hu, Result.andThen_ok, run_sizeOf' hs, if_neg hlim, if_pos h0, Sem.run_pure, hzero #[] (.inl h0), hmap, h1, newRow, run_newObj]
            rfl
          · simp only [execOp, ho, Instr.buildSlice, Sem.run_bind, run_underlying hu, Result.andThen_ok, run_sizeOf' hs, if_neg hlim, if_neg h0, Sem.run_pure, run_zeroValue' hzv, hzero zv.cells (.inr rfl), hmap, h1, newRow, run_newObj]
            rfl
theorem s_load1 {ty : TypeId} {x : Operand} {y : Opd} (ho : o.op = .load ty x) (hE : Env X ι p t a.tmps) (hR : Rel B ι H w) (hag : tyAgg X.P ty = some false) (hc : chkOpd X x y = true)
    (hev : evOp (rho p t) H (.load1 y) = some (v, H')) : OpOK X a o B ι w v H' := by
  simp only [evOp] at hev
  split at hev
  · rename_i b off hb
    split at hev
    · rename_i c u hg
      split at hev
      · rename_i u' hu'
        simp only [Option.some.injEq, Prod.mk.injEq] at hev
        obtain ⟨e1, e2⟩ := hev; subst e1; subst e2
        obtain ⟨L, hL, he⟩ := rho_sound hE hc hb
        obtain ⟨L', hL', hx⟩ := hR.live b c u hg
        rw [hL] at hL'; injection hL' with hL'; subst hL'
        obtain ⟨r, hr1, hr2⟩ := hx off _ hu'
        refine OpOK.val hR ?_ hr2
        simp only [execOp, ho, Instr.loadAt, Instr.sureAddr, he, Sem.run_bind, Sem.run_pure, Result.andThen_ok, loadVar, run_isAgg' hag, Bool.false_eq_true, if_false, run_load, hr1]
      · cases hev
    · cases hev
  · cases hev
theorem s_loadN {ty : TypeId} {n : Nat} {x : Operand} {y : Opd} (ho : o.op = .load ty x) (hE : Env X ι p t a.tmps) (hR : Rel B ι H w) (hag : tyAgg X.P ty = some true) (hsz : tySize X.P ty = some n) (hc : chkOpd X x y = true)
    (hev : evOp (rho p t) H (.loadN n y) = some (v, H')) : OpOK X a o B ι w v H' := by
  simp only [evOp] at hev
  split at hev
  · rename_i b off hb
    split at hev
    · rename_i c u hg
      split at hev
      · rename_i hle
        simp only [Option.some.injEq, Prod.mk.injEq] at hev
        obtain ⟨e1, e2⟩ := hev; subst e1; subst e2
        obtain ⟨L, hL, he⟩ := rho_sound hE hc hb
        obtain ⟨vs, hr1, hr2⟩ := loadCells_sound (P := X.P) hL hR hg off n hle
        refine OpOK.val hR ?_ ⟨vs, rfl, hr2⟩
        simp only [execOp, ho, Instr.loadAt, Instr.sureAddr, he, Sem.run_bind, Sem.run_pure, Result.andThen_ok, loadVar, run_isAgg' hag, if_true, run_sizeOf' hsz, hr1]
      · cases hev
    · cases hev
  · cases hev
theorem s_store {ty : TypeId} {n : Nat} {x y : Operand} {x' y' : Opd} (ho : o.op = .store ty x y) (hE : Env X ι p t a.tmps) (hR : Rel B ι H w) (hsz : tySize X.P ty = some n) (hc : chkOpd X x x' = true) (hc2 : chkOpd X y y' = true)
    (hev : evOp (rho p t) H (.store n x' y') = some (v, H')) : OpOK X a o B ι w v H' := by
  simp only [evOp] at hev
  split at hev
  · rename_i b off hb
    split at hev
    · rename_i u hu
      split at hev
      · rename_i c hg
        split at hev
        · rename_i hle
          simp only [Option.some.injEq, Prod.mk.injEq] at hev
          obtain ⟨e1, e2⟩ := hev; subst e1; subst e2
          obtain ⟨L, hL, he⟩ := rho_sound hE hc hb
          have hr := rho_sound hE hc2 hu
          have hrc := hr.cells
          have hcs : (a.eval y).cells.size = n := by have := hrc.length; simp at this; omega
          obtain ⟨w', h1, h2, h3⟩ := storeCells_sound (P := X.P) hL u.cells (a.eval y).cells.toList H w c off off 0 hR hg hrc hle.2.2 (by have := hle.1; have := hle.2.1; omega) (by omega)
          refine ⟨.skip, w', undef, ?_, .inr ⟨rfl, rfl⟩, ι, ι.le_refl, h2, h3, ⟨#[], rfl, rfl⟩⟩
          simp only [execOp, ho, Instr.storeAt, Instr.sureAddr, he, Sem.run_bind, Sem.run_pure, Result.andThen_ok, storeVar, run_sizeOf' hsz, hcs, ne_eq, not_true_eq_false, if_false, h1]
        · cases hev
      · cases hev
    · cases hev
  · cases hev
theorem s_nilCheck {x : Operand} {y : Opd} (ho : o.op = .nilCheck x) (hE : Env X ι p t a.tmps) (hR : Rel B ι H w) (hc : chkOpd X x y = true)
    (hev : evOp (rho p t) H (.nilCheck y) = some (v, H')) : OpOK X a o B ι w v H' := by
  simp only [evOp] at hev
  split at hev
  · cases hev
  · cases hev
  · cases hev
  · rename_i u h1 h2 h3 hu
    simp only [Option.some.injEq, Prod.mk.injEq] at hev
    obtain ⟨e1, e2⟩ := hev; subst e1; subst e2
    have hr := rho_sound hE hc hu
    refine OpOK.val hR ?_ hr
    cases u <;> simp only [VR] at hr
    case nilp => exact absurd rfl h1
    case nili => exact absurd rfl h2
    case nilf => exact absurd rfl h3
    case ptr b off => obtain ⟨L, hL, he⟩ := hr; simp [execOp, ho, he]
    case slice => obtain ⟨L, hL, he⟩ := hr; simp [execOp, ho, he]
    case osl => obtain ⟨L, hL, ⟨c, _, _, he⟩ | ⟨_, c, he⟩⟩ := hr <;> simp [execOp, ho, he]
    case map => obtain ⟨L, hL, he⟩ := hr; simp [execOp, ho, he]
    case fn => obtain ⟨L, he, _⟩ := hr; simp [execOp, ho, he]
    case iface => obtain ⟨L, he, _⟩ := hr; simp [execOp, ho, he]
    case agg => obtain ⟨L, he, _⟩ := hr; simp [execOp, ho, he]
    case tup => obtain ⟨L, he, _⟩ := hr; simp [execOp, ho, he]
    all_goals simp [execOp, ho, hr]
  · cases hev
theorem intBin_sound {op : BinOp} {k : IntKind} {x y : Int} {P : Program} (hs : isShift op = false) (h : intBin op k x y = some v) (ty : TypeId) :
    ∃ u, (binOp op ty (.int k x) (.int k y)).run P w = .ok u w ∧ VR ι v u := by
  cases op <;> simp [isShift] at hs <;> simp only [intBin] at h
  case quo =>
    split at h
    · cases h
    · injection h with h; subst h; rename_i hy; exact ⟨_, by simp [binOp, Op.intDiv, hy], rfl⟩
  case rem =>
    split at h
    · cases h
    · injection h with h; subst h; rename_i hy; exact ⟨_, by simp [binOp, Op.intDiv, hy], rfl⟩
  case add => injection h with h; subst h; exact ⟨_, by simp [binOp, Op.intArith], rfl⟩
  case sub => injection h with h; subst h; exact ⟨_, by simp [binOp, Op.intArith], rfl⟩
  case mul => injection h with h; subst h; exact ⟨_, by simp [binOp, Op.intArith], rfl⟩
  case and => injection h with h; subst h; exact ⟨_, by simp only [binOp, Op.intBits, if_neg (fun h : k ≠ k => h rfl)]; rfl, rfl⟩
  case or => injection h with h; subst h; exact ⟨_, by simp only [binOp, Op.intBits, if_neg (fun h : k ≠ k => h rfl)]; rfl, rfl⟩
  case xor => injection h with h; subst h; exact ⟨_, by simp only [binOp, Op.intBits, if_neg (fun h : k ≠ k => h rfl)]; rfl, rfl⟩
  case andNot => injection h with h; subst h; exact ⟨_, by simp only [binOp, Op.intBits, if_neg (fun h : k ≠ k => h rfl)]; rfl, rfl⟩
  case eql => injection h with h; subst h; exact ⟨_, by simp only [binOp, Op.intCmp, if_neg (fun h : k ≠ k => h rfl)]; rfl, rfl⟩
  case neq => injection h with h; subst h; exact ⟨_, by simp only [binOp, Op.intCmp, if_neg (fun h : k ≠ k => h rfl)]; rfl, rfl⟩
  case lss => injection h with h; subst h; exact ⟨_, by simp only [binOp, Op.intCmp, if_neg (fun h : k ≠ k => h rfl)]; rfl, rfl⟩
  case leq => injection h with h; subst h; exact ⟨_, by simp only [binOp, Op.intCmp, if_neg (fun h : k ≠ k => h rfl)]; rfl, rfl⟩
  case gtr => injection h with h; subst h; exact ⟨_, by simp only [binOp, Op.intCmp, if_neg (fun h : k ≠ k => h rfl)]; rfl, rfl⟩
  case geq => injection h with h; subst h; exact ⟨_, by simp only [binOp, Op.intCmp, if_neg (fun h : k ≠ k => h rfl)]; rfl, rfl⟩
theorem toList_mk (s : List UInt8) : (⟨s.toArray⟩ : ByteArray).toList = s := by rw [ByteArray.toList_eq]
theorem strBin_sound {op : BinOp} {x y : List UInt8} {P : Program} (h : strBin op x y = some v) (ty : TypeId) :
    ∃ u, (binOp op ty (.string ⟨x.toArray⟩) (.string ⟨y.toArray⟩)).run P w = .ok u w ∧ VR ι v u := by
  cases op <;> simp only [strBin] at h
  case add =>
    split at h
    · rename_i hl
      injection h with h; subst h
      refine ⟨_, ?_, rfl⟩
      have : ¬ (((ByteArray.size ⟨x.toArray⟩ + ByteArray.size ⟨y.toArray⟩ : Nat) : Int) > IntKind.i64.max) := by
        simp only [ByteArray.size, List.size_toArray, IntKind.max, IntKind.signed, IntKind.bits, if_true]; omega
      simp only [binOp, Op.stringOp, if_neg this, Sem.run_pure]
      congr 2
    · cases h
  case eql => injection h with h; subst h; exact ⟨_, by simp only [binOp, Op.stringOp, toList_mk]; first | rfl | simp only [Sem.run_pure], by first | rfl | (simp only [VR]; congr 1; exact Bool.eq_iff_iff.2 (by simp)) | (simp only [VR]; congr 1)⟩
  case neq => injection h with h; subst h; exact ⟨_, by simp only [binOp, Op.stringOp, toList_mk]; first | rfl | simp only [Sem.run_pure], by first | rfl | (simp only [VR]; congr 1; exact Bool.eq_iff_iff.2 (by simp)) | (simp only [VR]; congr 1)⟩
  case lss => injection h with h; subst h; exact ⟨_, by simp only [binOp, Op.stringOp, toList_mk]; first | rfl | simp only [Sem.run_pure], rfl⟩
  case leq => injection h with h; subst h; exact ⟨_, by simp only [binOp, Op.stringOp, toList_mk]; first | rfl | simp only [Sem.run_pure], by first | rfl | (simp only [VR]; congr 1; exact Bool.eq_iff_iff.2 (by simp)) | (simp only [VR]; congr 1)⟩
  case gtr => injection h with h; subst h; exact ⟨_, by simp only [binOp, Op.stringOp, toList_mk]; first | rfl | simp only [Sem.run_pure], by first | rfl | (simp only [VR]; congr 1; exact Bool.eq_iff_iff.2 (by simp)) | (simp only [VR]; congr 1)⟩
  case geq => injection h with h; subst h; exact ⟨_, by simp only [binOp, Op.stringOp, toList_mk]; first | rfl | simp only [Sem.run_pure], rfl⟩
  all_goals cases h
theorem binA_sound {op : BinOp} {x y : AV} {x' y' : Value} {P : Program} (h : binA op x y = some v) (hx : VR ι x x') (hy : VR ι y y') (ty : TypeId) :
    (∃ u, (binOp op ty x' y').run P w = .ok u w ∧ VR ι v u) ∧ (∀ (X Y : Operand), (eqGuard op ty X Y x' y').run P w = .ok () w) := by
  unfold binA at h
  split at h
  · rename_i k m k' n
    have e1 : x' = .int k m := hx
    have e2 : y' = .int k' n := hy
    subst e1; subst e2
    refine ⟨?_, fun X Y => by unfold eqGuard; split <;> simp⟩
    split at h
    · rename_i hs
      unfold shiftA at h
      split at h
      · cases h
      · rename_i hn
        cases op <;> simp [isShift] at hs <;> simp only [Option.some.injEq] at h
        · subst h; exact ⟨_, by simp [binOp, Op.shift, hn], rfl⟩
        · subst h; exact ⟨_, by simp [binOp, Op.shift, hn], rfl⟩
    · rename_i hs
      split at h
      · rename_i hk; subst hk; exact intBin_sound (by simpa using hs) h ty
      · cases h
  · rename_i s s'
    have e1 : x' = .string ⟨s.toArray⟩ := hx
    have e2 : y' = .string ⟨s'.toArray⟩ := hy
    subst e1; subst e2
    exact ⟨strBin_sound h ty, fun X Y => by unfold eqGuard; split <;> simp⟩
  · cases h
theorem s_bin {op : BinOp} {ty ty' : TypeId} {x y : Operand} {x' y' : Opd} (ho : o.op = .binOp op ty x y ty') (hE : Env X ι p t a.tmps) (hR : Rel B ι H w) (hc : chkOpd X x x' = true) (hc2 : chkOpd X y y' = true)
    (hev : evOp (rho p t) H (.bin op x' y') = some (v, H')) : OpOK X a o B ι w v H' := by
  simp only [evOp] at hev
  split at hev
  · rename_i u hu
    split at hev
    · rename_i u2 hu2
      simp only [Option.map_eq_some_iff, Prod.mk.injEq] at hev
      obtain ⟨r, hr, e1, e2⟩ := hev; subst e1; subst e2
      obtain ⟨⟨z, hz1, hz2⟩, hg⟩ := binA_sound (P := X.P) (w := w) hr (rho_sound hE hc hu) (rho_sound hE hc2 hu2) ty
      refine OpOK.val hR ?_ hz2
      simp only [execOp, ho, Sem.run_bind, hg, Result.andThen_ok, hz1, Sem.run_pure]
    · cases hev
  · cases hev
end
end Go.Ev
/- Soundness of the simple operations: comparisons, conversions, slices, fields, indexes. -/
namespace Go.Ev
open Go Go.RowKit
section
variable {X : Cx} {ι : Plan} {B : Nat} {H H' : Heap} {w : World} {a : Act} {p t : List (Nat × AV)} {o : Oper} {v : AV}
theorem eqCell_sound {x y : AV} {x' y' : Value} {r : Bool} {P : Program} {ty : TypeId} {k : SK} (h : eqCell k x y = some r) (hx : VR ι x x') (hy : VR ι y y') (ht : scalarTy P ty = some k) (d : Nat) :
    (Op.equalIn (d + 1) ty x' y').run P w = .ok r w := by
  unfold scalarTy at ht
  unfold eqCell at h
  split at h
  · rename_i j m j' n
    have e1 : x' = .int j m := hx
    have e2 : y' = .int j' n := hy
    subst e1; subst e2
    split at h
    · rename_i hk; subst hk
      injection h with h; subst h
      cases hu : P.underlying ty with
      | none => simp [hu] at ht
      | some D =>
        cases D <;> simp [hu] at ht
        rw [run_equalIn_int w d ty j _ m n hu]; rfl
    · cases h
  · rename_i s s'
    have e1 : x' = .string ⟨s.toArray⟩ := hx
    have e2 : y' = .string ⟨s'.toArray⟩ := hy
    subst e1; subst e2
    injection h with h; subst h
    cases hu : P.underlying ty with
    | none => simp [hu] at ht
    | some D =>
      cases D <;> simp [hu] at ht
      rw [run_equalIn_string w d ty _ _ hu, toList_mk, toList_mk]
      congr 1; exact Bool.eq_iff_iff.2 (by simp)
  · rename_i b b'
    have e1 : x' = .bool b := hx
    have e2 : y' = .bool b' := hy
    subst e1; subst e2
    injection h with h; subst h
    cases hu : P.underlying ty with
    | none => simp [hu] at ht
    | some D =>
      cases D <;> simp [hu] at ht
      rw [run_equalIn_bool' w d ty _ _ hu]; rfl
  · cases h
theorem part_scalar {P : Program} {ty : TypeId} {k : SK} {cs : Array Value} {off : Nat} {u : Value} (ht : scalarTy P ty = some k) (hu : cs[off]? = some u) : (part ty cs off).run P w = .ok u w := by
  have hag : tyAgg P ty = some false := by
    unfold scalarTy at ht; unfold tyAgg
    cases hd : P.underlying ty with
    | none => simp [hd] at ht
    | some D => cases D <;> simp [hd] at ht ⊢
  simp [part, run_isAgg' hag, hu]
theorem eqFields_sound {P : Program} {xs ys : List AV} {xs' ys' : Array Value} (hx : VRs ι xs xs'.toList) (hy : VRs ι ys ys'.toList) (d : Nat) : ∀ (fs : List Field) (l : List (Nat × SK)) (r : Bool),
    eqOffs P fs = some l → eqCells xs ys l = some r → (Op.eqFields (d + 1) xs' ys' fs).run P w = .ok r w
  | [], l, r, h1, h2 => by simp only [eqOffs, Option.some.injEq] at h1; subst h1; simp only [eqCells, Option.some.injEq] at h2; subst h2; rfl
  | f :: fs, l, r, h1, h2 => by
    simp only [eqOffs] at h1
    split at h1
    · cases h1
    · rename_i m hm
      by_cases hn : f.name ≠ "_"
      · rw [if_pos hn] at h1
        split at h1
        · rename_i k hk
          injection h1 with h1; subst h1
          simp only [eqCells] at h2
          split at h2
          · rename_i x y hxi hyi
            obtain ⟨x', hx1, hx2⟩ := hx.get hxi
            obtain ⟨y', hy1, hy2⟩ := hy.get hyi
            rw [Array.getElem?_toList] at hx1 hy1
            split at h2
            · cases h2
            · rename_i he
              injection h2 with h2; subst h2
              simp only [Op.eqFields, if_pos hn, Sem.run_bind, part_scalar hk hx1, part_scalar hk hy1, Result.andThen_ok, eqCell_sound he hx2 hy2 hk d, Bool.not_false, if_true, Sem.run_pure]
            · rename_i he
              have ih := eqFields_sound hx hy d fs m r hm h2
              simp only [Op.eqFields, if_pos hn, Sem.run_bind, part_scalar hk hx1, part_scalar hk hy1, Result.andThen_ok, eqCell_sound he hx2 hy2 hk d, Bool.not_true, Bool.false_eq_true, if_false, ih]
          · cases h2
        · cases h1
      · rw [if_neg hn] at h1
        injection h1 with h1; subst h1
        simp only [Op.eqFields, if_neg hn]
        exact eqFields_sound hx hy d fs m r hm h2
theorem equalIn_agg {P : Program} {ty : TypeId} {fs : List (Nat × SK)} {xs ys : List AV} {xs' ys' : Array Value} {r : Bool} (hxs : VRs ι xs xs'.toList) (hys : VRs ι ys ys'.toList)
    (ht : eqKOk P ty (.agg fs) = true) (h : eqCells xs ys fs = some r) : (Op.equal ty (.agg xs') (.agg ys')).run P w = .ok r w ∧ P.eqGuardType P.depth ty = false := by
  unfold eqKOk at ht
  cases hu : P.underlying ty with
  | none => simp [hu] at ht
  | some D =>
    cases D <;> simp [hu] at ht
    rename_i fs'
    obtain ⟨⟨hg, hs⟩, hoff⟩ := ht
    have hf : P.underlying ty = some (.struct (P.fieldsOf ty)) := by rw [hu]; simp [Program.fieldsOf, hu]
    have hfs : P.fieldsOf ty = fs' := by simp [Program.fieldsOf, hu]
    refine ⟨?_, hg⟩
    rw [Op.equal, Op.maxDepth, run_equalIn_struct w 9999 ty xs' ys' hf hs, hfs]
    exact eqFields_sound hxs hys 9998 _ _ _ hoff h
theorem bool_beq (b c : Bool) : (b == c) = decide (b = c) := by cases b <;> cases c <;> rfl
/-- What a comparison of two values comes to, at any depth, gives what '==' and '!=' come to. -/
theorem eqv_of {P : Program} {op : BinOp} {neg r : Bool} {ty : TypeId} {x y : Value} {X Y : Operand} (hop : (op = .eql ∧ neg = false) ∨ (op = .neq ∧ neg = true))
    (hg : (eqGuard op ty X Y x y).run P w = .ok () w) (hb : binOp op ty x y = (match op with | .eql => do pure (.bool (← Op.equal ty x y)) | _ => do pure (.bool (!(← Op.equal ty x y)))))
    (h : ∀ d, (Op.equalIn (d + 1) ty x y).run P w = .ok r w) : (do eqGuard op ty X Y x y; binOp op ty x y : Sem Value).run P w = .ok (.bool (if neg then !r else r)) w := by
  have he : (Op.equal ty x y).run P w = .ok r w := h 9999
  rw [hb]
  rcases hop with ⟨rfl, rfl⟩ | ⟨rfl, rfl⟩ <;> simp [hg, he]
set_option maxHeartbeats 1600000 in
theorem eqv_sound {op : BinOp} {k : EqK} {x y : AV} {x' y' : Value} {r neg : Bool} {P : Program} {ty : TypeId} (hop : (op = .eql ∧ neg = false) ∨ (op = .neq ∧ neg = true)) (h : eqA k x y = some r) (hx : VR ι x x') (hy : VR ι y y') (ht : eqKOk P ty k = true) (X Y : Operand) (hci : ifcK k X Y = true) :
    (do eqGuard op ty X Y x' y'; binOp op ty x' y' : Sem Value).run P w = .ok (.bool (if neg then !r else r)) w := by
  by_cases hagg : ∃ fs, k = .agg fs
  · obtain ⟨fs, rfl⟩ := hagg
    unfold eqA at h
    split at h
    all_goals first | (rename_i hk; cases hk; done) | skip
    · rename_i hk; injection hk with hk; subst hk
      obtain ⟨xs', rfl, hxs⟩ := hx
      obtain ⟨ys', rfl, hys⟩ := hy
      obtain ⟨h1, h2⟩ := equalIn_agg (w := w) hxs hys ht h
      rcases hop with ⟨rfl, rfl⟩ | ⟨rfl, rfl⟩ <;> simp [eqGuard, binOp, h1, h2]
    · cases h
  · unfold eqKOk at ht
    cases hu : P.underlying ty with
    | none => simp [hu] at ht
    | some D =>
      simp only [hu] at ht
      unfold eqA at h
      split at h
      all_goals first | (cases h; done) | (exfalso; exact hagg ⟨_, rfl⟩) | skip
      all_goals (cases D <;> simp at ht)
      all_goals (injection h with h; subst h)
      all_goals simp only [VR] at hx hy
      all_goals (first | subst hx | (obtain ⟨L1, hL1, hx⟩ := hx; first | subst hx | (rcases hx with ⟨c1, _, _, rfl⟩ | ⟨_, c1, rfl⟩) | subst hL1))
      all_goals (first | subst hy | (obtain ⟨L2, hL2, hy⟩ := hy; first | subst hy | (rcases hy with ⟨c2, _, _, rfl⟩ | ⟨_, c2, rfl⟩) | subst hL2))
      all_goals
        refine eqv_of hop ?_ ?_ ?_
        · first
          | (rcases hop with ⟨rfl, rfl⟩ | ⟨rfl, rfl⟩ <;> simp [eqGuard]; done)
          | (cases X <;> cases Y <;> first | (simp [ifcK, isC] at hci; done) | (rcases hop with ⟨rfl, rfl⟩ | ⟨rfl, rfl⟩ <;> simp [eqGuard]; done))
        · rcases hop with ⟨rfl, rfl⟩ | ⟨rfl, rfl⟩ <;> rfl
        · intro d; simp [Op.equalIn, run_underlying hu, bool_beq]
theorem s_eqv {op : BinOp} {ty ty' : TypeId} {x y : Operand} {x' y' : Opd} {neg : Bool} {k : EqK} (ho : o.op = .binOp op ty x y ty') (hE : Env X ι p t a.tmps) (hR : Rel B ι H w) (hop : eqOp op neg = true) (hc : chkOpd X x x' = true) (hc2 : chkOpd X y y' = true) (hk : eqKOk X.P ty k = true) (hci : ifcK k x y = true)
    (hev : evOp (rho p t) H (.eqv neg k x' y') = some (v, H')) : OpOK X a o B ι w v H' := by
  simp only [evOp] at hev
  split at hev
  · rename_i u hu
    split at hev
    · rename_i u2 hu2
      simp only [Option.map_eq_some_iff, Prod.mk.injEq] at hev
      obtain ⟨r, hr, e1, e2⟩ := hev; subst e1; subst e2
      have hop' : (op = .eql ∧ neg = false) ∨ (op = .neq ∧ neg = true) := by
        cases op <;> simp [eqOp] at hop
        · exact .inl ⟨rfl, hop⟩
        · exact .inr ⟨rfl, hop⟩
      have h1 := eqv_sound (P := X.P) (w := w) hop' hr (rho_sound hE hc hu) (rho_sound hE hc2 hu2) hk x y hci
      refine OpOK.val hR ?_ (rfl : VR ι (.bool (if neg then !r else r)) (.bool (if neg then !r else r)))
      simp only [Sem.run_bind] at h1
      simp only [execOp, ho, Sem.run_bind, h1, Result.andThen_ok, Sem.run_pure]
    · cases hev
  · cases hev
end
end Go.Ev
