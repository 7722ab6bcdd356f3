/- Soundness of the simple operations: lengths, the greatest of some, assertions, texts gone through; all of them. -/
import Derived.Test.YtifhmogcdgfojaaGreatDoorT07
import Derived.Lib.Bytealg
import Derived.KernelRfl
set_option linter.unusedSimpArgs false
set_option linter.unusedVariables false
namespace Go.Ev
open Go Go.RowKit
section
variable {X : Cx} {ι : Plan} {B : Nat} {H H' : Heap} {w : World} {a : Act} {p t : List (Nat × AV)} {o : Oper} {v : AV}

theorem size_mk (s : List UInt8) : ByteArray.size ⟨s.toArray⟩ = s.length := by show s.toArray.size = _; simp

theorem s_lenStr {args : Array Operand} {at_ : Array TypeId} {x' : Opd} (ho : o.op = .call { callee := .builtin .len, args := args, argTypes := at_ }) (hE : Env X ι p t a.tmps) (hR : Rel B ι H w)
    (hu : (at_[0]?).bind X.P.underlying = some .string) (hargs : chkOpds X args.toList [x'] = true)
    (hev : evOp (rho p t) H (.lenStr x') = some (v, H')) : OpOK X a o B ι w v H' := by
  obtain ⟨x, hx, hc⟩ := opds1 hargs
  have hargs' : args = #[x] := toArray_of hx
  obtain ⟨t0, ht0, hu0⟩ := Option.bind_eq_some_iff.1 hu
  simp only [evOp] at hev
  split at hev
  · rename_i s hs
    simp only [Option.some.injEq, Prod.mk.injEq] at hev
    obtain ⟨e1, e2⟩ := hev; subst e1; subst e2
    have es : a.eval x = .string ⟨s.toArray⟩ := rho_sound hE hc hs
    refine OpOK.val (u := .int .i64 s.length) hR ?_ rfl
    simp [execOp, ho, hargs', resolve, invoke, builtin, Builtin.len_, ht0, run_underlying hu0, es, goInt, size_mk]
  · cases hev

theorem s_lenSl {args : Array Operand} {at_ : Array TypeId} {x' : Opd} {e : TypeId} (ho : o.op = .call { callee := .builtin .len, args := args, argTypes := at_ }) (hE : Env X ι p t a.tmps) (hR : Rel B ι H w)
    (hu : (at_[0]?).bind X.P.underlying = some (.slice e)) (hargs : chkOpds X args.toList [x'] = true)
    (hev : evOp (rho p t) H (.lenSl x') = some (v, H')) : OpOK X a o B ι w v H' := by
  obtain ⟨x, hx, hc⟩ := opds1 hargs
  have hargs' : args = #[x] := toArray_of hx
  obtain ⟨t0, ht0, hu0⟩ := Option.bind_eq_some_iff.1 hu
  have run : ∀ (q : Option Addr) (n c : Nat), a.eval x = .slice q n c → (execOp a.eval o).run X.P w = .ok (.value (.int .i64 n)) w := by
    intro q n c es
    simp [execOp, ho, hargs', resolve, invoke, builtin, Builtin.len_, ht0, run_underlying hu0, es, goInt]
  simp only [evOp] at hev
  split at hev
  · rename_i b off n c hs
    simp only [Option.some.injEq, Prod.mk.injEq] at hev
    obtain ⟨e1, e2⟩ := hev; subst e1; subst e2
    obtain ⟨L, hL, es⟩ := rho_sound hE hc hs
    exact OpOK.val hR (run _ _ _ es) rfl
  · rename_i s b off n hs
    simp only [Option.some.injEq, Prod.mk.injEq] at hev
    obtain ⟨e1, e2⟩ := hev; subst e1; subst e2
    obtain ⟨L, hL, ⟨cc, _, _, es⟩ | ⟨h0, q, es⟩⟩ := rho_sound hE hc hs
    · exact OpOK.val hR (run _ _ _ es) rfl
    · subst h0; exact OpOK.val hR (run _ _ _ es) rfl
  · rename_i hs
    simp only [Option.some.injEq, Prod.mk.injEq] at hev
    obtain ⟨e1, e2⟩ := hev; subst e1; subst e2
    have es : a.eval x = .slice none 0 0 := rho_sound hE hc hs
    exact OpOK.val hR (run _ _ _ es) rfl
  · cases hev

theorem s_capSl {args : Array Operand} {at_ : Array TypeId} {x' : Opd} {e : TypeId} (ho : o.op = .call { callee := .builtin .cap, args := args, argTypes := at_ }) (hE : Env X ι p t a.tmps) (hR : Rel B ι H w)
    (hu : (at_[0]?).bind X.P.underlying = some (.slice e)) (hargs : chkOpds X args.toList [x'] = true)
    (hev : evOp (rho p t) H (.capSl x') = some (v, H')) : OpOK X a o B ι w v H' := by
  obtain ⟨x, hx, hc⟩ := opds1 hargs
  have hargs' : args = #[x] := toArray_of hx
  obtain ⟨t0, ht0, hu0⟩ := Option.bind_eq_some_iff.1 hu
  have run : ∀ (q : Option Addr) (n c : Nat), a.eval x = .slice q n c → (execOp a.eval o).run X.P w = .ok (.value (.int .i64 c)) w := by
    intro q n c es
    simp [execOp, ho, hargs', resolve, invoke, builtin, Builtin.cap_, ht0, run_underlying hu0, es, goInt]
  simp only [evOp] at hev
  split at hev
  · rename_i b off n c hs
    simp only [Option.some.injEq, Prod.mk.injEq] at hev
    obtain ⟨e1, e2⟩ := hev; subst e1; subst e2
    obtain ⟨L, hL, es⟩ := rho_sound hE hc hs
    exact OpOK.val hR (run _ _ _ es) rfl
  · rename_i hs
    simp only [Option.some.injEq, Prod.mk.injEq] at hev
    obtain ⟨e1, e2⟩ := hev; subst e1; subst e2
    have es : a.eval x = .slice none 0 0 := rho_sound hE hc hs
    exact OpOK.val hR (run _ _ _ es) rfl
  · cases hev

theorem minmax_fold (hE : Env X ι p t a.tmps) (mx : Bool) : ∀ (xs : List Operand) (ys : List Opd) (u : AV) (u' : Value), chkOpds X xs ys = true → VR ι u u' → minmaxA mx (rho p t) u ys = some v →
    ∃ r, ((xs.map a.eval).foldlM (if mx then Builtin.max2 else Builtin.min2) u').run X.P w = .ok r w ∧ VR ι v r
  | [], [], u, u', _, hu, h => by
    cases u <;> simp only [minmaxA, Option.some.injEq] at h <;> subst h <;> exact ⟨u', rfl, hu⟩
  | [], _ :: _, _, _, hc, _, _ => by simp [chkOpds] at hc
  | _ :: _, [], _, _, hc, _, _ => by simp [chkOpds] at hc
  | x :: xs, y :: ys, u, u', hc, hu, h => by
    simp only [chkOpds, Bool.and_eq_true] at hc
    cases u <;> simp only [minmaxA, reduceCtorEq] at h
    rename_i k m
    split at h
    · rename_i k' n hy
      have e1 : u' = .int k m := hu
      have e2 : a.eval x = .int k' n := rho_sound hE hc.1 hy
      obtain ⟨r, h1, h2⟩ := minmax_fold hE mx xs ys (.int k (if mx then (if n > m then n else m) else (if n < m then n else m))) (.int k (if mx then (if n > m then n else m) else (if n < m then n else m))) hc.2 rfl h
      refine ⟨r, ?_, h2⟩
      rw [← h1, e1, List.map_cons, List.foldlM_cons, e2]
      cases mx <;> simp [Builtin.max2, Builtin.min2]
    · cases h

theorem s_minmax {b : Builtin} {args : Array Operand} {at_ : Array TypeId} {mx : Bool} {ys : List Opd} (ho : o.op = .call { callee := .builtin b, args := args, argTypes := at_ }) (hb : b = if mx then .max else .min) (hE : Env X ι p t a.tmps) (hR : Rel B ι H w)
    (hargs : chkOpds X args.toList ys = true)
    (hev : evOp (rho p t) H (.minmax mx ys) = some (v, H')) : OpOK X a o B ι w v H' := by
  simp only [evOp] at hev
  split at hev
  · cases hev
  · rename_i y ys
    split at hev
    · rename_i u hu
      simp only [Option.map_eq_some_iff, Prod.mk.injEq] at hev
      obtain ⟨r, hr, e1, e2⟩ := hev; subst e1; subst e2
      cases hl : args.toList with
      | nil => rw [hl] at hargs; simp [chkOpds] at hargs
      | cons x xs =>
        rw [hl] at hargs
        simp only [chkOpds, Bool.and_eq_true] at hargs
        obtain ⟨z, h1, h2⟩ := minmax_fold (v := r) (w := w) hE mx xs ys _ _ hargs.2 (rho_sound hE hargs.1 hu) hr
        have hargs' : args = (x :: xs).toArray := toArray_of hl
        refine OpOK.val hR ?_ h2
        cases mx
        · simp only [Bool.false_eq_true, if_false] at hb h1; subst hb
          simp only [execOp, ho, hargs', resolve, invoke, builtin, Sem.run_bind, Sem.run_pure, Result.andThen_ok, List.map_toArray, List.map_cons, Builtin.min_, h1]
        · simp only [if_true] at hb h1; subst hb
          simp only [execOp, ho, hargs', resolve, invoke, builtin, Sem.run_bind, Sem.run_pure, Result.andThen_ok, List.map_toArray, List.map_cons, Builtin.max_, h1]
    · cases hev

theorem s_assert {x : Operand} {x' : Opd} {ts ty : TypeId} {ok : Bool} {zero : Option AV} (ho : o.op = .typeAssert x ts ty ok) (hE : Env X ι p t a.tmps) (hR : Rel B ι H w) (hc : chkOpd X x x' = true)
    (hd : notIface X.P ty = true) (hz : okZero X.P ty ok zero = true)
    (hev : evOp (rho p t) H (.assert ty zero x') = some (v, H')) : OpOK X a o B ι w v H' := by
  cases hU : X.P.underlying ty with
  | none => simp [notIface, hU] at hd
  | some D =>
    have hD : ∀ ms, D ≠ .interface ms := by intro ms e; subst e; simp [notIface, hU] at hd
    simp only [evOp] at hev
    split at hev
    · rename_i u y hy
      obtain ⟨y', ex, hr⟩ := rho_sound hE hc hy
      split at hev
      · rename_i hut
        subst hut
        simp only [Option.some.injEq, Prod.mk.injEq] at hev
        obtain ⟨e1, e2⟩ := hev; subst e1; subst e2
        cases ok <;> cases zero <;> simp [okZero] at hz
        · refine OpOK.val (u := y') hR ?_ hr
          cases D <;> first | (exact absurd rfl (hD _)) | simp [execOp, ho, ex, Instr.typeAssert, run_underlying hU]
        · refine OpOK.val (u := .tuple #[y', .bool true]) hR ?_ ⟨_, rfl, ⟨_, _, rfl, hr, ⟨_, _, rfl, rfl, rfl⟩⟩⟩
          cases D <;> first | (exact absurd rfl (hD _)) | simp [execOp, ho, ex, Instr.typeAssert, run_underlying hU]
      · rename_i hut
        cases zero with
        | none => simp at hev
        | some z =>
          simp only [Option.some.injEq, Prod.mk.injEq] at hev
          obtain ⟨e1, e2⟩ := hev; subst e1; subst e2
          cases ok <;> simp [okZero] at hz
          cases hzv : tyZero X.P ty with
          | none => simp [hzv] at hz
          | some zv =>
            simp only [hzv] at hz
            refine OpOK.val (u := .tuple #[zv, .bool false]) hR ?_ ⟨_, rfl, ⟨_, _, rfl, constV_sound ι _ _ hz, ⟨_, _, rfl, rfl, rfl⟩⟩⟩
            cases D <;> first | (exact absurd rfl (hD _)) | simp [execOp, ho, ex, Instr.typeAssert, run_underlying hU, hut, run_zeroValue' hzv]
    · rename_i hy
      have ex : a.eval x = .nilIface := rho_sound hE hc hy
      cases zero with
      | none => simp at hev
      | some z =>
        simp only [Option.some.injEq, Prod.mk.injEq] at hev
        obtain ⟨e1, e2⟩ := hev; subst e1; subst e2
        cases ok <;> simp [okZero] at hz
        cases hzv : tyZero X.P ty with
        | none => simp [hzv] at hz
        | some zv =>
          simp only [hzv] at hz
          refine OpOK.val (u := .tuple #[zv, .bool false]) hR ?_ ⟨_, rfl, ⟨_, _, rfl, constV_sound ι _ _ hz, ⟨_, _, rfl, rfl, rfl⟩⟩⟩
          cases D <;> first | (exact absurd rfl (hD _)) | simp [execOp, ho, ex, Instr.typeAssert, run_underlying hU, run_zeroValue' hzv]
    · cases hev

/-- What is no row of cells: a text gone through, a map. -/
def ObjR (ι : Plan) : Blk → Obj → Prop
  | .siter s p, o => o = .stringIter ⟨s.toArray⟩ p
  | .map es, o => ∃ es' k, o = .map es' k ∧ EsR ι es es'
  | _, _ => False
theorem ObjR.cells {ι : Plan} {x : Blk} {o : Obj} (h : ObjR ι x o) (c : List AV) (u : Use) : x ≠ .cells c u := by
  intro e; subst e; exact h
theorem ObjR.live {ι : Plan} {x : Blk} {o : Obj} (h : ObjR ι x o) : x ≠ .dead := by
  intro e; subst e; exact h
theorem ObjR.owned {ι : Plan} {x : Blk} {o : Obj} (h : ObjR ι x o) {H : Heap} {b : Nat} (hg : H.get b = x) : Owned H b := by
  cases x with
  | siter s p => exact .inr (.inl ⟨s, p, hg⟩)
  | map es => exact .inr (.inr ⟨es, hg⟩)
  | dead => cases h
  | cells c u => cases h

/-- A new one. -/
theorem Rel.push_obj (hR : Rel B ι H w) {x0 : Blk} {o0 : Obj} (hx0 : ObjR ι x0 o0) :
    ι.le (ι.add H.size ⟨w.heap.size, 0, 0⟩) ∧ Rel B (ι.add H.size ⟨w.heap.size, 0, 0⟩) (H.push x0) (w.alloc o0) := by
  have hle : ι.le (ι.add H.size ⟨w.heap.size, 0, 0⟩) := Plan.add_le _ (hR.none_new (Nat.le_refl _))
  have h0 := hR.world (w' := w.alloc o0) (by simp) (fun k hk => Below.heap_alloc _ _ _ hk)
  refine ⟨hle, ?_⟩
  have hadd : ∀ b L, (ι.add H.size ⟨w.heap.size, 0, 0⟩) b = some L → (b = H.size ∧ L = ⟨w.heap.size, 0, 0⟩) ∨ (b ≠ H.size ∧ ι b = some L) := by
    intro b L e
    by_cases hbs : b = H.size
    · subst hbs; rw [Plan.add_self] at e; exact .inl ⟨rfl, by injection e with e; exact e.symm⟩
    · refine .inr ⟨hbs, ?_⟩; simpa [Plan.add, hbs] using e
  have hself : (w.alloc o0).heap[w.heap.size]? = some o0 := by simp only [World.alloc]; rw [Array.getElem?_push_size]
  constructor
  · intro b L e
    rcases hadd b L e with ⟨rfl, rfl⟩ | ⟨hne, e'⟩
    · exact ⟨by rw [Heap.size_push]; omega, by simp⟩
    · have := h0.dom b L e'; exact ⟨by rw [Heap.size_push]; omega, this.2⟩
  · intro b c u e
    rw [Heap.get_push] at e
    split at e
    · exact absurd e (hx0.cells c u)
    · obtain ⟨L, hL, hx⟩ := h0.live b c u e
      exact ⟨L, hle _ _ hL, fun i x hi => let ⟨v, hv, hr⟩ := hx i x hi; ⟨v, hv, VR.mono hle _ _ hr⟩⟩
  · intro b c L u e hu hL
    rw [Heap.get_push] at e
    split at e
    · exact absurd e (hx0.cells c u)
    · rename_i hne
      rcases hadd b L hL with ⟨h, _⟩ | ⟨_, e'⟩
      · exact absurd h hne
      · exact h0.ownu b c L e hu e'
  · intro b s' p' e
    rw [Heap.get_push] at e
    split at e
    · rename_i hb
      subst hb
      subst e
      exact ⟨_, Plan.add_self _ _ _, hR.size, rfl, by rw [hself]; rw [show o0 = _ from hx0]⟩
    · obtain ⟨L, hL, r⟩ := h0.iter b s' p' e
      exact ⟨L, hle _ _ hL, r⟩
  · intro b c t L e hL
    rw [Heap.get_push] at e
    split at e
    · exact absurd e (hx0.cells c _)
    · rename_i hne
      rcases hadd b L hL with ⟨h, _⟩ | ⟨_, e'⟩
      · exact absurd h hne
      · exact h0.ty b c t L e e'
  · intro b es e
    rw [Heap.get_push] at e
    split at e
    · rename_i hb
      subst hb
      subst e
      obtain ⟨es', k, h1, h2⟩ := hx0
      exact ⟨_, Plan.add_self _ _ _, hR.size, es', k, by rw [hself, h1], h2.mono hle⟩
    · obtain ⟨L, hL, q1, es', k, q2, q3⟩ := h0.mapb b es e
      exact ⟨L, hle _ _ hL, q1, es', k, q2, q3.mono hle⟩
  · intro b b' L L' hne ho hd e e'
    rcases hadd b L e with ⟨rfl, rfl⟩ | ⟨hb1, e1⟩
    · rcases hadd b' L' e' with ⟨rfl, rfl⟩ | ⟨hb2, e2⟩
      · exact absurd rfl hne
      · have := (hR.dom b' L' e2).2; simp only; omega
    · rcases hadd b' L' e' with ⟨rfl, rfl⟩ | ⟨hb2, e2⟩
      · have := (hR.dom b L e1).2; simp only; omega
      · refine hR.inj b b' L L' hne ?_ ?_ e1 e2
        · unfold Owned at *; simpa only [Heap.get_push, if_neg hb1] using ho
        · simpa only [Heap.get_push, if_neg hb2] using hd
  · exact h0.size

/-- One turns. -/
theorem Rel.set_obj (hR : Rel B ι H w) {b : Nat} {y0 x0 : Blk} {o0 oy : Obj} {L : Loc} (hg : H.get b = y0) (hy0 : ObjR ι y0 oy) (hx0 : ObjR ι x0 o0) (hL : ι b = some L) (hlow : B ≤ L.blk) (hbase : L.base = 0) :
    Rel B ι (H.set b x0) { w with heap := w.heap.setIfInBounds L.blk o0 } ∧ Below B w { w with heap := w.heap.setIfInBounds L.blk o0 } := by
  have hbs := (hR.dom b L hL).1
  have hls := (hR.dom b L hL).2
  have hget : ∀ b', (H.set b x0).get b' = if b' = b then x0 else H.get b' := fun b' => Heap.get_set _ _ _ _ hbs
  have hoth : ∀ k, k ≠ L.blk → (w.heap.setIfInBounds L.blk o0)[k]? = w.heap[k]? := fun k hk => Array.getElem?_setIfInBounds_ne (Ne.symm hk)
  have hown : Owned H b := hy0.owned hg
  have hblk : ∀ b' L', b' ≠ b → H.get b' ≠ .dead → ι b' = some L' → L'.blk ≠ L.blk := fun b' L' hne hd e => (hR.inj b b' L L' (Ne.symm hne) hown hd hL e).symm
  refine ⟨?_, ⟨rfl, rfl, rfl, by simp, fun k hk => hoth k (by omega)⟩⟩
  constructor
  · intro b' L' e
    have := hR.dom b' L' e
    exact ⟨this.1, by simpa using this.2⟩
  · intro b' c u e
    rw [hget] at e
    by_cases hb : b' = b
    · rw [if_pos hb] at e; exact absurd e (hx0.cells c u)
    · rw [if_neg hb] at e
      obtain ⟨L', hL', hx⟩ := hR.live b' c u e
      refine ⟨L', hL', fun i y hy => ?_⟩
      rw [cell_blk (w := w) (hoth _ (hblk b' L' hb (by rw [e]; simp) hL'))]
      exact hx i y hy
  · intro b' c L' u e hu hL'
    rw [hget] at e
    by_cases hb : b' = b
    · rw [if_pos hb] at e; exact absurd e (hx0.cells c u)
    · rw [if_neg hb] at e
      have hne := hblk b' L' hb (by rw [e]; simp) hL'
      obtain ⟨p1, p2, p3⟩ := hR.ownu b' c L' e hu hL'
      refine ⟨p1, p2, fun i hi => ?_⟩
      rw [cell_blk (w := w) (hoth _ hne), frozen_blk (w := w) (hoth _ hne)]
      exact p3 i hi
  · intro b' s2 p2 e
    rw [hget] at e
    by_cases hb : b' = b
    · subst hb
      rw [if_pos rfl] at e; subst e
      exact ⟨L, hL, hlow, hbase, by rw [show o0 = _ from hx0]; simp [hls]⟩
    · rw [if_neg hb] at e
      obtain ⟨L', hL', r1, r2, r3⟩ := hR.iter b' s2 p2 e
      exact ⟨L', hL', r1, r2, by show (w.heap.setIfInBounds _ _)[_]? = _; rw [hoth _ (hblk b' L' hb (by rw [e]; simp) hL')]; exact r3⟩
  · intro b' c t L' e hL'
    rw [hget] at e
    by_cases hb : b' = b
    · rw [if_pos hb] at e; exact absurd e (hx0.cells c _)
    · rw [if_neg hb] at e
      have := hR.ty b' c t L' e hL'
      rw [shape_blk (w := w) (hoth _ (hblk b' L' hb (by rw [e]; simp) hL'))]
      exact this
  · intro b' es e
    rw [hget] at e
    by_cases hb : b' = b
    · subst hb
      rw [if_pos rfl] at e; subst e
      obtain ⟨es', k, h1, h2⟩ := hx0
      exact ⟨L, hL, hlow, es', k, by rw [h1]; simp [hls], h2⟩
    · rw [if_neg hb] at e
      obtain ⟨L', hL', r1, es', k, r2, r3⟩ := hR.mapb b' es e
      exact ⟨L', hL', r1, es', k, by show (w.heap.setIfInBounds _ _)[_]? = _; rw [hoth _ (hblk b' L' hb (by rw [e]; simp) hL')]; exact r2, r3⟩
  · intro b1 b2 L1 L2 hne ho hd e1 e2
    refine hR.inj b1 b2 L1 L2 hne ?_ ?_ e1 e2
    · unfold Owned at ho
      simp only [hget] at ho
      by_cases hb : b1 = b
      · subst hb; exact hown
      · unfold Owned; simpa only [if_neg hb] using ho
    · rw [hget] at hd
      by_cases hb : b2 = b
      · subst hb; rw [hg]; exact hy0.live
      · simpa only [if_neg hb] using hd
  · simpa using hR.size

/-- A text gone through: a new iterator. -/
theorem Rel.push_iter (hR : Rel B ι H w) (s : List UInt8) (pos : Nat) :
    ι.le (ι.add H.size ⟨w.heap.size, 0, 0⟩) ∧ Rel B (ι.add H.size ⟨w.heap.size, 0, 0⟩) (H.push (.siter s pos)) (w.alloc (.stringIter ⟨s.toArray⟩ pos)) := hR.push_obj rfl

/-- An iterator goes on. -/
theorem Rel.set_iter (hR : Rel B ι H w) {b : Nat} {s s' : List UInt8} {pos pos' : Nat} {L : Loc} (hg : H.get b = .siter s pos) (hL : ι b = some L) :
    Rel B ι (H.set b (.siter s' pos')) { w with heap := w.heap.setIfInBounds L.blk (.stringIter ⟨s'.toArray⟩ pos') } ∧ Below B w { w with heap := w.heap.setIfInBounds L.blk (.stringIter ⟨s'.toArray⟩ pos') } := by
  obtain ⟨L', hL', q1, q2, q3⟩ := hR.iter b s pos hg
  rw [hL] at hL'; injection hL' with hL'; subst hL'
  exact hR.set_obj (oy := .stringIter ⟨s.toArray⟩ pos) hg rfl rfl hL q1 q2

theorem s_rangeStr {ty : TypeId} {x : Operand} {x' : Opd} (ho : o.op = .range ty x) (hE : Env X ι p t a.tmps) (hR : Rel B ι H w) (hu : X.P.underlying ty = some .string) (hc : chkOpd X x x' = true)
    (hev : evOp (rho p t) H (.rangeStr x') = some (v, H')) : OpOK X a o B ι w v H' := by
  simp only [evOp] at hev
  split at hev
  · rename_i s hs
    simp only [Option.some.injEq, Prod.mk.injEq] at hev
    obtain ⟨e1, e2⟩ := hev; subst e1; subst e2
    have es : a.eval x = .string ⟨s.toArray⟩ := rho_sound hE hc hs
    obtain ⟨h1, h2⟩ := hR.push_iter s 0
    refine ⟨_, _, .pointer (some ⟨w.heap.size, 0, none⟩), ?_, .inl rfl, _, h1, h2, (Below.refl B w).alloc hR.size _, ⟨_, Plan.add_self _ _ _, by simp⟩⟩
    simp [execOp, ho, es, Instr.range, run_underlying hu]
  · cases hev

theorem s_nextStr {x : Operand} {x' : Opd} (ho : o.op = .next x true) (hE : Env X ι p t a.tmps) (hR : Rel B ι H w) (hc : chkOpd X x x' = true)
    (hev : evOp (rho p t) H (.nextStr x') = some (v, H')) : OpOK X a o B ι w v H' := by
  simp only [evOp] at hev
  split at hev
  · rename_i b hb
    obtain ⟨L, hL, es⟩ := rho_sound hE hc hb
    split at hev
    · rename_i s pos hg
      obtain ⟨L', hL', q1, q2, q3⟩ := hR.iter b s pos hg
      rw [hL] at hL'; injection hL' with hL'; subst hL'
      rw [q2] at es
      have hget : (getObj L.blk).run X.P w = .ok (.stringIter ⟨s.toArray⟩ pos) w := by simp only [getObj, Sem.run, q3]
      split at hev
      · rename_i hpos
        simp only [Option.some.injEq, Prod.mk.injEq] at hev
        obtain ⟨e1, e2⟩ := hev; subst e1; subst e2
        obtain ⟨h1, h2⟩ := hR.set_iter (s' := s) (pos' := pos + (Utf8.decode ⟨s.toArray⟩ pos).2) hg hL
        refine ⟨_, _, .tuple #[.bool true, .int .i64 pos, .int .i32 (Utf8.decode ⟨s.toArray⟩ pos).1], ?_, .inl rfl, ι, ι.le_refl, h1, h2, ⟨_, rfl, ⟨_, _, rfl, rfl, ⟨_, _, rfl, rfl, ⟨_, _, rfl, rfl, rfl⟩⟩⟩⟩⟩
        have hsz : pos < (⟨s.toArray⟩ : ByteArray).size := by simpa [ByteArray.size] using hpos
        have hset : ∀ ob, (setObj L.blk ob).run X.P w = .ok () { w with heap := w.heap.setIfInBounds L.blk ob } := fun ob => by simp only [setObj, Sem.run, q3]
        simp only [execOp, ho, es, Instr.next, Sem.run_bind, hget, Result.andThen_ok, if_pos hsz, hset, Sem.run_pure, goInt]
      · rename_i hpos
        simp only [Option.some.injEq, Prod.mk.injEq] at hev
        obtain ⟨e1, e2⟩ := hev; subst e1; subst e2
        refine OpOK.val (u := .tuple #[.bool false]) hR ?_ ⟨_, rfl, ⟨_, _, rfl, rfl, rfl⟩⟩
        have hsz : ¬ pos < (⟨s.toArray⟩ : ByteArray).size := by simpa [ByteArray.size] using hpos
        simp only [execOp, ho, es, Instr.next, Sem.run_bind, hget, Result.andThen_ok, if_neg hsz, Sem.run_pure]
    · cases hev
  · cases hev

theorem idxByteA_eq (c : UInt8) : ∀ (l : List UInt8) (i : Nat), idxByteA c l i = if Lib.indexByte l c = -1 then -1 else Lib.indexByte l c + i
  | [], i => by simp [idxByteA, Lib.indexByte]
  | b :: l, i => by
    have hge := Lib.indexByte_ge l c
    simp only [idxByteA, Lib.indexByte, beq_iff_eq]
    by_cases hb : b = c
    · simp [hb]
    · rw [if_neg hb, if_neg hb, idxByteA_eq c l (i + 1)]
      by_cases h1 : Lib.indexByte l c = -1
      · simp [h1]
      · rw [if_neg h1, if_neg h1, if_neg (by omega)]
        omega

theorem find_idxByte {fn : Func} (hn : fn.name = "internal/bytealg.IndexByteString") (ho : fn.origin = "") : Extern.findNext fn = none ∧ Extern.find fn = some Extern.BytealgIndexByte.indexByte := by
  obtain ⟨name, origin, targs, params, resultTypes, nfree, ntmps, results, body, norace, ours, file, endLine, litNo, met, tmpNames⟩ := fn
  simp only at hn ho
  subst hn; subst ho
  exact ⟨by kernel_rfl, by kernel_rfl⟩

theorem s_idxByte {f : FuncId} {args : Array Operand} {at_ : Array TypeId} {x' y' : Opd} (ho : o.op = .call { callee := .value (.func f), args := args, argTypes := at_ }) (hE : Env X ι p t a.tmps) (hR : Rel B ι H w)
    (hargs : chkOpds X args.toList [x', y'] = true)
    (hf : isIdxByte X.P f = true)
    (hev : evOp (rho p t) H (.idxByte x' y') = some (v, H')) : OpOK X a o B ι w v H' := by
  obtain ⟨x, y, hx, hc, hc2⟩ := opds2 hargs
  have hargs' : args = #[x, y] := toArray_of hx
  cases hfn : X.P.funcs[f]? with
  | none => simp [isIdxByte, hfn] at hf
  | some fn =>
    simp only [isIdxByte, hfn, Bool.and_eq_true, beq_iff_eq] at hf
    obtain ⟨⟨hb, hn⟩, horig⟩ := hf
    obtain ⟨g1, g2⟩ := find_idxByte hn horig
    simp only [evOp] at hev
    split at hev
    · rename_i s hs
      split at hev
      · rename_i c hcv
        simp only [Option.some.injEq, Prod.mk.injEq] at hev
        obtain ⟨e1, e2⟩ := hev; subst e1; subst e2
        have es : a.eval x = .string ⟨s.toArray⟩ := rho_sound hE hc hs
        have ec : a.eval y = .int .u8 c := rho_sound hE hc2 hcv
        refine OpOK.val (u := .int .i64 (idxByteA (UInt8.ofNat c.toNat) s 0)) hR ?_ rfl
        have hval : idxByteA (UInt8.ofNat c.toNat) s 0 = Lib.indexByte s (UInt8.ofNat c.toNat) := by
          rw [idxByteA_eq]
          split
          · rename_i h; exact h.symm
          · simp
        have hne : (fn.name == "runtime.NumGoroutine") = false := by rw [hn]; kernel_rfl
        have hlook := run_callFunc_extern hfn hne hb g1 g2 #[.string ⟨s.toArray⟩, .int .u8 c] w
        rw [Lib.run_indexByteString] at hlook
        have ef : a.eval (.func f) = .func (.func f) #[] #[] := rfl
        rw [hval]
        simp only [execOp, ho, hargs', resolve, Deferred.ofValue, ef, invoke, Sem.run_bind, Sem.run_pure, Result.andThen_ok, List.map_toArray, List.map_cons, List.map_nil, Array.append_empty, Array.empty_append, es, ec, hlook]
      · cases hev
    · cases hev
def simpleC : COp → Bool
  | .call _ _ => false
  | .callP _ _ _ => false
  | .callV _ _ => false
  | .dfr _ _ => false
  | .panic _ => false
  | .recover => false
  | .ext _ _ => false
  | .callQ _ _ _ => false
  | _ => true

theorem elemInt_of {P : Program} {e : TypeId} {k : IntKind} (h : isElemInt P e k = true) : P.underlying e = some (.int k) := by
  unfold isElemInt at h
  split at h
  · rename_i j hj; rw [hj, of_decide_eq_true h]
  · cases h

set_option maxHeartbeats 4000000 in
/-- Every simple operation. -/
theorem op_sound {c : COp} (hc : chkOp X o.op c = true) (hs : simpleC c = true) (hE : Env X ι p t a.tmps) (hR : Rel B ι H w) (hev : evOp (rho p t) H c = some (v, H')) : OpOK X a o B ι w v H' := by
  cases hop : o.op
  case move x => rw [hop] at hc; cases c <;> first | (simp [chkOp] at hc; done) | (simp [simpleC] at hs; done) | exact s_mov (.inl hop) hE hR hc hev
  case assign x => rw [hop] at hc; cases c <;> first | (simp [chkOp] at hc; done) | (simp [simpleC] at hs; done) | exact s_mov (.inr hop) hE hR hc hev
  case pick x y z => rw [hop] at hc; cases c <;> first | (simp [chkOp] at hc; done) | (simp [simpleC] at hs; done) | exact s_pick hop hE hR hc hev
  case alloc e => rw [hop] at hc; cases c <;> first | (simp [chkOp] at hc; done) | (simp [simpleC] at hs; done) | exact s_alloc hop hR hc hev
  case box e x => rw [hop] at hc; cases c <;> first | (simp [chkOp] at hc; done) | (simp [simpleC] at hs; done) | exact s_box hop hE hR hc hev
  case build ty ps => cases c <;> first | (rw [hop] at hc; simp [chkOp] at hc; done) | (simp [simpleC] at hs; done) | exact s_build hop hE hR hc hev
  case buildSlice ty len ps => cases c <;> first | (rw [hop] at hc; simp [chkOp] at hc; done) | (simp [simpleC] at hs; done) | exact s_lit hop hE hR hc hev
  case load ty x =>
    rw [hop] at hc; cases c <;> first | (simp [chkOp] at hc; done) | (simp [simpleC] at hs; done) | skip
    · simp only [chkOp, Bool.and_eq_true, beq_iff_eq] at hc; exact s_load1 hop hE hR hc.1 hc.2 hev
    · simp only [chkOp, Bool.and_eq_true, beq_iff_eq] at hc; exact s_loadN hop hE hR hc.1.1 hc.1.2 hc.2 hev
  case store ty x y =>
    rw [hop] at hc; cases c <;> first | (simp [chkOp] at hc; done) | (simp [simpleC] at hs; done) | skip
    simp only [chkOp, Bool.and_eq_true, beq_iff_eq] at hc; exact s_store hop hE hR hc.1.1 hc.1.2 hc.2 hev
  case nilCheck x => rw [hop] at hc; cases c <;> first | (simp [chkOp] at hc; done) | (simp [simpleC] at hs; done) | exact s_nilCheck hop hE hR hc hev
  case binOp op ty x y ty' =>
    rw [hop] at hc; cases c <;> first | (simp [chkOp] at hc; done) | (simp [simpleC] at hs; done) | skip
    · simp only [chkOp, Bool.and_eq_true, decide_eq_true_eq] at hc
      obtain ⟨⟨rfl, h2⟩, h3⟩ := hc
      exact s_bin hop hE hR h2 h3 hev
    · simp only [chkOp, Bool.and_eq_true] at hc
      exact s_eqv hop hE hR hc.1.1.1.1 hc.1.1.1.2 hc.1.1.2 hc.1.2 hc.2 hev
  case unOp op ty x =>
    rw [hop] at hc; cases c <;> first | (simp [chkOp] at hc; done) | (simp [simpleC] at hs; done) | skip
    simp only [chkOp, Bool.and_eq_true, decide_eq_true_eq] at hc
    obtain ⟨rfl, h2⟩ := hc
    exact s_un hop hE hR h2 hev
  case convert s d x =>
    rw [hop] at hc; cases c <;> first | (simp [chkOp] at hc; done) | (simp [simpleC] at hs; done) | skip
    · -- convI
      simp only [chkOp, Bool.and_eq_true] at hc
      obtain ⟨h1, h2⟩ := hc
      simp only [isIntTo] at h1
      split at h1
      · rename_i es k' hs' hd'
        simp only [decide_eq_true_eq] at h1
        subst h1
        exact s_convI hop hE hR hd' ⟨_, hs'⟩ h2 hev
      · cases h1
    · simp only [chkOp, Bool.and_eq_true] at hc
      obtain ⟨h1, h2⟩ := hc
      split at h1
      · rename_i es hs' hd'; exact s_strStr hop hE hR hd' ⟨_, hs'⟩ h2 hev
      · cases h1
    · simp only [chkOp, Bool.and_eq_true] at hc
      obtain ⟨h1, h2⟩ := hc
      split at h1
      · rename_i es hs' hd'; exact s_intStr hop hE hR hd' ⟨_, hs'⟩ h2 hev
      · cases h1
    · simp only [chkOp, Bool.and_eq_true] at hc
      obtain ⟨h1, h2⟩ := hc
      split at h1
      · rename_i es e hs' hd'
        exact s_strBytes hop hE hR hd' (elemInt_of h1) ⟨_, hs'⟩ h2 hev
      · cases h1
    · simp only [chkOp, Bool.and_eq_true] at hc
      obtain ⟨h1, h2⟩ := hc
      split at h1
      · rename_i es hs' hd'
        exact s_bytesStr hop hE hR hd' (elemInt_of h1) hs' h2 hev
      · cases h1
  case makeInterface ty x =>
    rw [hop] at hc; cases c <;> first | (simp [chkOp] at hc; done) | (simp [simpleC] at hs; done) | skip
    simp only [chkOp, Bool.and_eq_true, beq_iff_eq] at hc
    obtain ⟨⟨rfl, h2⟩, h3⟩ := hc
    exact s_mkIface hop hE hR h2 h3 hev
  case makeFunc fn first caps =>
    rw [hop] at hc; cases c <;> first | (cases fn <;> simp [chkOp] at hc; done) | (simp [simpleC] at hs; done) | skip
    cases fn <;> first | (simp [chkOp] at hc; done) | skip
    simp only [chkOp, Bool.and_eq_true, beq_iff_eq] at hc
    obtain ⟨⟨rfl, h2⟩, h3⟩ := hc
    exact s_mkFn hop hE hR h2 h3 hev
  case makeSlice ty l c' =>
    rw [hop] at hc; cases c <;> first | (simp [chkOp] at hc; done) | (simp [simpleC] at hs; done) | skip
    simp only [chkOp, Bool.and_eq_true] at hc
    obtain ⟨⟨h1, h2⟩, h3⟩ := hc
    split at h3
    · rename_i e hu
      split at h3
      · rename_i s zv hsz hz
        simp only [Bool.and_eq_true, beq_iff_eq, decide_eq_true_eq] at h3
        obtain ⟨⟨⟨g1, g2⟩, g3⟩, g4⟩ := h3
        subst g3
        exact s_mkSlice hop hE hR hu hsz hz g1 g2 g4 h1 h2 hev
      · cases h3
    · cases h3
  case slice ty x lo hi mx =>
    rw [hop] at hc; cases c <;> first | (simp [chkOp] at hc; done) | (simp [simpleC] at hs; done) | skip
    · simp only [chkOp, Bool.and_eq_true] at hc
      obtain ⟨⟨⟨⟨h1, h2⟩, h3⟩, h4⟩, h5⟩ := hc
      split at h1
      · rename_i hu; exact s_sliceStr hop hE hR hu h2 h3 h4 (by simpa using h5) hev
      · cases h1
    · simp only [chkOp, Bool.and_eq_true] at hc
      obtain ⟨⟨⟨⟨⟨h1, h2⟩, h3⟩, h4⟩, h5⟩, h6⟩ := hc
      split at h1
      · rename_i e hu; exact s_sliceSl hop hE hR hu (by simpa using h1) h2 h3 h4 h5 h6 hev
      · cases h1
    · simp only [chkOp, Bool.and_eq_true] at hc
      obtain ⟨⟨⟨⟨⟨h1, h2⟩, h3⟩, h4⟩, h5⟩, h6⟩ := hc
      split at h1
      · rename_i n e hu
        simp only [Bool.and_eq_true, beq_iff_eq] at h1
        obtain ⟨rfl, h1⟩ := h1
        exact s_sliceArr hop hE hR hu h1 h2 h3 h4 h5 h6 hev
      · cases h1
  case fieldAddr s x f =>
    rw [hop] at hc; cases c <;> first | (simp [chkOp] at hc; done) | (simp [simpleC] at hs; done) | skip
    simp only [chkOp, Bool.and_eq_true] at hc
    obtain ⟨h1, h2⟩ := hc
    split at h1
    · rename_i fs hu
      split at h1
      · rename_i fd hf
        simp only [Bool.and_eq_true, beq_iff_eq] at h1
        obtain ⟨g1, g2⟩ := h1
        split at g2
        · rename_i n hn; exact s_fieldAddr hop hE hR hu hf g1 hn (by simpa using g2) h2 hev
        · cases g2
      · cases h1
    · cases h1
  case field s x f =>
    rw [hop] at hc; cases c <;> first | (simp [chkOp] at hc; done) | (simp [simpleC] at hs; done) | skip
    · simp only [chkOp, Bool.and_eq_true] at hc
      obtain ⟨h1, h2⟩ := hc
      split at h1
      · rename_i fs hu
        split at h1
        · rename_i fd hf
          simp only [Bool.and_eq_true, beq_iff_eq] at h1
          exact s_field1 hop hE hR hu hf h1.1 h1.2 h2 hev
        · cases h1
      · cases h1
    · simp only [chkOp, Bool.and_eq_true] at hc
      obtain ⟨h1, h2⟩ := hc
      split at h1
      · rename_i fs hu
        split at h1
        · rename_i fd hf
          simp only [Bool.and_eq_true, beq_iff_eq] at h1
          exact s_fieldN hop hE hR hu hf h1.1.1 h1.1.2 h1.2 h2 hev
        · cases h1
      · cases h1
  case indexAddr ty x i =>
    rw [hop] at hc; cases c <;> first | (simp [chkOp] at hc; done) | (simp [simpleC] at hs; done) | skip
    · simp only [chkOp, Bool.and_eq_true] at hc
      obtain ⟨⟨h1, h2⟩, h3⟩ := hc
      split at h1
      · rename_i e hu; exact s_idxAddr hop hE hR hu (by simpa using h1) h2 h3 hev
      · cases h1
    · simp only [chkOp, Bool.and_eq_true] at hc
      obtain ⟨⟨h1, h2⟩, h3⟩ := hc
      split at h1
      · rename_i n e hu
        simp only [Bool.and_eq_true, beq_iff_eq] at h1
        obtain ⟨rfl, h1⟩ := h1
        exact s_idxArr hop hE hR hu h1 h2 h3 hev
      · cases h1
  case index ty x i =>
    rw [hop] at hc; cases c <;> first | (simp [chkOp] at hc; done) | (simp [simpleC] at hs; done) | skip
    · simp only [chkOp, Bool.and_eq_true] at hc
      obtain ⟨⟨h1, h2⟩, h3⟩ := hc
      split at h1
      · rename_i hu; exact s_idxStr hop hE hR hu h2 h3 hev
      · cases h1
    · simp only [chkOp, Bool.and_eq_true] at hc
      obtain ⟨⟨h1, h2⟩, h3⟩ := hc
      split at h1
      · rename_i n e hu
        simp only [Bool.and_eq_true, beq_iff_eq] at h1
        obtain ⟨⟨rfl, h1⟩, h4⟩ := h1
        exact s_idxAgg hop hE hR hu h1 h4 h2 h3 hev
      · cases h1
  case extract x i =>
    rw [hop] at hc; cases c <;> first | (simp [chkOp] at hc; done) | (simp [simpleC] at hs; done) | skip
    simp only [chkOp, Bool.and_eq_true, beq_iff_eq] at hc
    obtain ⟨rfl, h2⟩ := hc
    exact s_extract hop hE hR h2 hev
  case typeAssert x ts ty ok =>
    rw [hop] at hc; cases c <;> first | (simp [chkOp] at hc; done) | (simp [simpleC] at hs; done) | skip
    simp only [chkOp, Bool.and_eq_true, beq_iff_eq] at hc
    obtain ⟨⟨⟨rfl, h2⟩, h3⟩, h4⟩ := hc
    exact s_assert hop hE hR h2 h3 h4 hev
  case range ty x =>
    rw [hop] at hc; cases c <;> first | (simp [chkOp] at hc; done) | (simp [simpleC] at hs; done) | skip
    simp only [chkOp, Bool.and_eq_true] at hc
    obtain ⟨h1, h2⟩ := hc
    split at h1
    · rename_i hu; exact s_rangeStr hop hE hR hu h2 hev
    · cases h1
  case next x s =>
    rw [hop] at hc; cases c <;> first | (simp [chkOp] at hc; done) | (simp [simpleC] at hs; done) | skip
    simp only [chkOp, Bool.and_eq_true] at hc
    obtain ⟨rfl, h2⟩ := hc
    exact s_nextStr hop hE hR h2 hev
  case call cl =>
    obtain ⟨callee, args, at_⟩ := cl
    cases callee with
    | invoke r m => rw [hop] at hc; cases c <;> first | (simp [simpleC] at hs; done) | (simp [chkOp] at hc; done)
    | value f =>
      cases c <;> first | (simp [simpleC] at hs; done) | skip
      all_goals first | (rw [hop] at hc; cases f <;> simp [chkOp] at hc; done) | skip
      rw [hop] at hc
      cases f <;> first | (simp [chkOp] at hc; done) | skip
      simp only [chkOp, Bool.and_eq_true] at hc
      exact s_idxByte hop hE hR hc.1 hc.2 hev
    | builtin b =>
      cases c <;> first | (simp [simpleC] at hs; done) | skip
      all_goals first | (rw [hop] at hc; cases b <;> simp [chkOp] at hc; done) | skip
      · rw [hop] at hc
        cases b <;> first | (simp [chkOp] at hc; done) | skip
        simp only [chkOp, Bool.and_eq_true] at hc
        obtain ⟨h1, h2⟩ := hc
        split at h1
        · rename_i hu; exact s_lenStr hop hE hR hu h2 hev
        · cases h1
      · rw [hop] at hc
        cases b <;> first | (simp [chkOp] at hc; done) | skip
        simp only [chkOp, Bool.and_eq_true] at hc
        obtain ⟨h1, h2⟩ := hc
        split at h1
        · rename_i e hu; exact s_lenSl hop hE hR hu h2 hev
        · cases h1
      · rw [hop] at hc
        cases b <;> first | (simp [chkOp] at hc; done) | skip
        simp only [chkOp, Bool.and_eq_true] at hc
        obtain ⟨h1, h2⟩ := hc
        split at h1
        · rename_i e hu; exact s_capSl hop hE hR hu h2 hev
        · cases h1
      · cases b <;> first | (rw [hop] at hc; simp [chkOp] at hc; done) | skip
        exact s_append hop hE hR hc hev
      · cases b <;> first | (rw [hop] at hc; simp [chkOp] at hc; done) | skip
        exact s_appendStr hop hE hR hc hev
      · cases b <;> first | (rw [hop] at hc; simp [chkOp] at hc; done) | skip
        exact s_appendZ hop hE hR hc hev
      · rw [hop] at hc
        cases b <;> first | (simp [chkOp] at hc; done) | skip
        all_goals simp only [chkOp, Bool.and_eq_true] at hc
        · exact s_minmax hop (by rw [hc.1]; rfl) hE hR hc.2 hev
        · obtain ⟨h1, h2⟩ := hc
          simp only [Bool.not_eq_true'] at h1
          subst h1
          exact s_minmax hop rfl hE hR h2 hev
  case defer cl =>
    cases c <;> first | (simp [simpleC] at hs; done) | skip
    all_goals (rw [hop] at hc; obtain ⟨callee, args, at_⟩ := cl; cases callee <;> exact absurd hc Bool.false_ne_true)
  case panic x =>
    cases c <;> first | (simp [simpleC] at hs; done) | skip
    all_goals (rw [hop] at hc; exact absurd hc Bool.false_ne_true)
  all_goals (rw [hop] at hc; cases c <;> first | (simp [simpleC] at hs; done) | exact absurd hc Bool.false_ne_true)
end
end Go.Ev
