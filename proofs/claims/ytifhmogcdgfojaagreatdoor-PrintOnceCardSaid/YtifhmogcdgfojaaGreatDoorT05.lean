/- Several texts of this claim, joined. -/
import Derived.Test.YtifhmogcdgfojaaGreatDoorT04
import Derived.Laws.BytesString
set_option linter.unusedSimpArgs false
set_option linter.unusedVariables false

/- Soundness of the simple operations: literals, loads, stores, numbers, texts. -/
namespace Go.Ev
open Go Go.RowKit
section
variable {X : Cx} {ι : Plan} {B : Nat} {H H' : Heap} {w : World} {a : Act} {p t : List (Nat × AV)} {o : Oper} {v : AV}
theorem mapM_size {P : Program} : ∀ (fs : List Field) (pl : List (Nat × Nat)) (w : World), (fs.mapM fun f => (tySize P f.type).map fun n => (f.offset, n)) = some pl →
    (fs.mapM fun f => do pure (f.offset, ← sizeOf f.type) : Sem (List (Nat × Nat))).run P w = .ok pl w
  | [], pl, w, h => by simp at h; subst h; rfl
  | f :: fs, pl, w, h => by
    simp only [List.mapM_cons] at h
    cases h1 : tySize P f.type with
    | none => simp [h1] at h
    | some n =>
      cases h2 : (fs.mapM fun f => (tySize P f.type).map fun n => (f.offset, n)) with
      | none => simp [h1, h2] at h
      | some r =>
        simp [h1, h2] at h; subst h
        have ih := mapM_size fs r w h2
        simp only [List.mapM_cons, Sem.run_bind, run_sizeOf' h1, Result.andThen_ok, Sem.run_pure, ih]
theorem r_build {ty : TypeId} {ps : Array (Nat × Operand)} {z : List AV} {qs : List (Nat × Nat × Opd)} (ho : o.op = .build ty ps) (hE : Env X ι p t a.tmps)
    (hc : chkOp X o.op (.build z qs) = true)
    (hev : evOp (rho p t) H (.build z qs) = some (v, H')) : H' = H ∧ ∃ u, (execOp a.eval o).run X.P w = .ok (.value u) w ∧ VR ι v u := by
  rw [ho] at hc
  simp only [chkOp, Bool.and_eq_true] at hc
  obtain ⟨hz, hpl⟩ := hc
  simp only [evOp, Option.map_eq_some_iff, Prod.mk.injEq] at hev
  obtain ⟨c, hf, e1, e2⟩ := hev; subst e1; subst e2
  cases hzv : tyZero X.P ty with
  | none => simp [hzv] at hz
  | some zv =>
    simp only [hzv] at hz
    have hv0 := constVs_sound ι _ _ hz
    have hmap : (ps.map fun (x : Nat × Operand) => match x with | (i, x) => (i, a.eval x)).toList = ps.toList.map fun (i, x) => (i, a.eval x) := by simp
    cases hu : X.P.underlying ty with
    | none => simp [hu] at hpl
    | some d =>
      cases d <;> simp only [hu, Bool.false_eq_true] at hpl
      case struct fs =>
        cases hp : fieldPlaces X.P fs with
        | none => simp [hp] at hpl
        | some pl =>
          simp only [hp] at hpl
          obtain ⟨us, h1, h2⟩ := fill_sound hE (pl[·]?) ps.toList qs z c zv.cells hpl hf hv0
          refine ⟨rfl, _, ?_, ⟨us, rfl, h2⟩⟩
          have hm := mapM_size fs.toList pl w hp
          have hm2 : (fs.mapM fun f => do pure (f.offset, ← sizeOf f.type) : Sem (Array (Nat × Nat))).run X.P w = .ok pl.toArray w := by
            rw [Array.mapM_eq_mapM_toList, Sem.run_map, hm]; rfl
          simp only [execOp, ho, Instr.build, Sem.run_bind, run_zeroValue' hzv, Result.andThen_ok, run_underlying hu, hm2, hmap, List.getElem?_toArray, h1, Sem.run_pure]
      case array n e =>
        cases hs : tySize X.P e with
        | none => simp [hs] at hpl
        | some s =>
          simp only [hs] at hpl
          obtain ⟨us, h1, h2⟩ := fill_sound hE (fun i => some (i * s, s)) ps.toList qs z c zv.cells hpl hf hv0
          refine ⟨rfl, _, ?_, ⟨us, rfl, h2⟩⟩
          simp only [execOp, ho, Instr.build, Sem.run_bind, run_zeroValue' hzv, Result.andThen_ok, run_underlying hu, run_sizeOf' hs, hmap, h1, Sem.run_pure]
theorem s_build {ty : TypeId} {ps : Array (Nat × Operand)} {z : List AV} {qs : List (Nat × Nat × Opd)} (ho : o.op = .build ty ps) (hE : Env X ι p t a.tmps) (hR : Rel B ι H w)
    (hc : chkOp X o.op (.build z qs) = true)
    (hev : evOp (rho p t) H (.build z qs) = some (v, H')) : OpOK X a o B ι w v H' := by
  obtain ⟨rfl, u, h1, h2⟩ := r_build (w := w) ho hE hc hev
  exact OpOK.val hR h1 h2
theorem r_lit {ty : TypeId} {len n : Nat} {ps : Array (Nat × Operand)} {z : List AV} {qs : List (Nat × Nat × Opd)} (ho : o.op = .buildSlice ty len ps) (hE : Env X ι p t a.tmps)
    (hc : chkOp X o.op (.lit z n qs) = true)
    (hev : evOp (rho p t) H (.lit z n qs) = some (v, H')) : ∃ c, v = .slice H.size 0 n n ∧ H' = H.push (.cells c .own) ∧ ∃ us e, (execOp a.eval o).run X.P w = .ok (.value (.slice (some ⟨w.heap.size, 0, none⟩) n n)) (w.alloc (.cells us e)) ∧ VRs ι c us.toList := by
  rw [ho] at hc
  simp only [chkOp, Bool.and_eq_true, beq_iff_eq] at hc
  obtain ⟨hn, hpl⟩ := hc
  subst hn
  simp only [evOp, Option.map_eq_some_iff, Prod.mk.injEq] at hev
  obtain ⟨c, hf, e1, e2⟩ := hev; subst e1; subst e2
  have hmap : (ps.map fun (x : Nat × Operand) => match x with | (i, x) => (i, a.eval x)).toList = ps.toList.map fun (i, x) => (i, a.eval x) := by simp
  cases hu : X.P.underlying ty with
  | none => simp [hu] at hpl
  | some d =>
    cases d <;> simp only [hu, Bool.false_eq_true] at hpl
    case slice e =>
      cases hs : tySize X.P e with
      | none => simp [hs] at hpl
      | some s =>
        cases hzv : tyZero X.P e with
        | none => simp [hs, hzv] at hpl
        | some zv =>
          simp only [hs, hzv, Bool.and_eq_true, decide_eq_true_eq] at hpl
          obtain ⟨⟨⟨hsz, hz⟩, hpos⟩, hparts⟩ := hpl
          have hv0 := constVs_sound ι _ _ hz
          have hzero : ∀ zs : Array Value, (len * s = 0 ∨ zs = zv.cells) → ((Array.range (len * s)).map fun i => zs[i % zs.size]!) = ((List.range (len * s)).map fun i => zv.cells.getD (i % zv.cells.size) undef).toArray := by
            intro zs h
            rcases h with h | h
            · rw [h]; simp
            · subst h
              apply Array.ext'
              simp only [Array.toList_map, Array.toList_range]
              apply List.map_congr_left
              intro i _
              have : i % zv.cells.size < zv.cells.size := Nat.mod_lt _ hpos
              simp [this]
          obtain ⟨us, h1, h2⟩ := fill_sound hE (fun i => some (i * s, s)) ps.toList qs z c (((List.range (len * s)).map fun i => zv.cells.getD (i % zv.cells.size) undef).toArray) hparts hf (by simpa using hv0)
          refine ⟨c, rfl, rfl, us, e, ?_, h2⟩
          have hlim : ¬ (len * s > 2 ^ 24) := by omega
          by_cases h0 : len * s = 0
          · simp only [execOp, ho, Instr.buildSlice, Sem.run_bind, run_underlying hu, Result.andThen_ok, run_sizeOf' hs, if_neg hlim, if_pos h0, Sem.run_pure, hzero #[] (.inl h0), hmap, h1, newRow, run_newObj]
            rfl
          · simp only [execOp, ho, Instr.buildSlice, Sem.run_bind, run_underlying hu, Result.andThen_ok, run_sizeOf' hs, if_neg hlim, if_neg h0, Sem.run_pure, run_zeroValue' hzv, hzero zv.cells (.inr rfl), hmap, h1, newRow, run_newObj]
            rfl
theorem s_lit {ty : TypeId} {len n : Nat} {ps : Array (Nat × Operand)} {z : List AV} {qs : List (Nat × Nat × Opd)} (ho : o.op = .buildSlice ty len ps) (hE : Env X ι p t a.tmps) (hR : Rel B ι H w)
    (hc : chkOp X o.op (.lit z n qs) = true)
    (hev : evOp (rho p t) H (.lit z n qs) = some (v, H')) : OpOK X a o B ι w v H' := by
  obtain ⟨c, rfl, rfl, us, e, h1, h2⟩ := r_lit (w := w) ho hE hc hev
  obtain ⟨n1, n2, n3⟩ := new_sound (c := c) (vs := us) e hR h2
  exact ⟨_, _, _, h1, .inl rfl, _, n1, n2, n3, ⟨_, Plan.add_self _ _ _, by simp⟩⟩
theorem s_load1 {ty : TypeId} {x : Operand} {y : Opd} (ho : o.op = .load ty x) (hE : Env X ι p t a.tmps) (hR : Rel B ι H w) (hag : tyAgg X.P ty = some false) (hc : chkOpd X x y = true)
    (hev : evOp (rho p t) H (.load1 y) = some (v, H')) : OpOK X a o B ι w v H' := by
  simp only [evOp] at hev
  split at hev
  · rename_i b off hb
    split at hev
    · rename_i c u hg
      split at hev
      · rename_i u' hu'
        simp only [Option.some.injEq, Prod.mk.injEq] at hev
        obtain ⟨e1, e2⟩ := hev; subst e1; subst e2
        obtain ⟨L, hL, he⟩ := rho_sound hE hc hb
        obtain ⟨L', hL', hx⟩ := hR.live b c u hg
        rw [hL] at hL'; injection hL' with hL'; subst hL'
        obtain ⟨r, hr1, hr2⟩ := hx off _ hu'
        refine OpOK.val hR ?_ hr2
        simp only [execOp, ho, Instr.loadAt, Instr.sureAddr, he, Sem.run_bind, Sem.run_pure, Result.andThen_ok, loadVar, run_isAgg' hag, Bool.false_eq_true, if_false, run_load, hr1]
      · cases hev
    · cases hev
  · cases hev
theorem r_loadN {ty : TypeId} {n : Nat} {x : Operand} {y : Opd} (ho : o.op = .load ty x) (hE : Env X ι p t a.tmps) (hR : Rel B ι H w) (hag : tyAgg X.P ty = some true) (hsz : tySize X.P ty = some n) (hc : chkOpd X x y = true)
    (hev : evOp (rho p t) H (.loadN n y) = some (v, H')) : H' = H ∧ ∃ u, (execOp a.eval o).run X.P w = .ok (.value u) w ∧ VR ι v u := by
  simp only [evOp] at hev
  split at hev
  · rename_i b off hb
    split at hev
    · rename_i c u hg
      split at hev
      · rename_i hle
        simp only [Option.some.injEq, Prod.mk.injEq] at hev
        obtain ⟨e1, e2⟩ := hev; subst e1; subst e2
        obtain ⟨L, hL, he⟩ := rho_sound hE hc hb
        obtain ⟨vs, hr1, hr2⟩ := loadCells_sound (P := X.P) hL hR hg off n hle
        refine ⟨rfl, _, ?_, ⟨vs, rfl, hr2⟩⟩
        simp only [execOp, ho, Instr.loadAt, Instr.sureAddr, he, Sem.run_bind, Sem.run_pure, Result.andThen_ok, loadVar, run_isAgg' hag, if_true, run_sizeOf' hsz, hr1]
      · cases hev
    · cases hev
  · cases hev
theorem s_loadN {ty : TypeId} {n : Nat} {x : Operand} {y : Opd} (ho : o.op = .load ty x) (hE : Env X ι p t a.tmps) (hR : Rel B ι H w) (hag : tyAgg X.P ty = some true) (hsz : tySize X.P ty = some n) (hc : chkOpd X x y = true)
    (hev : evOp (rho p t) H (.loadN n y) = some (v, H')) : OpOK X a o B ι w v H' := by
  obtain ⟨rfl, u, h1, h2⟩ := r_loadN ho hE hR hag hsz hc hev
  exact OpOK.val hR h1 h2
theorem s_store {ty : TypeId} {n : Nat} {x y : Operand} {x' y' : Opd} (ho : o.op = .store ty x y) (hE : Env X ι p t a.tmps) (hR : Rel B ι H w) (hsz : tySize X.P ty = some n) (hc : chkOpd X x x' = true) (hc2 : chkOpd X y y' = true)
    (hev : evOp (rho p t) H (.store n x' y') = some (v, H')) : OpOK X a o B ι w v H' := by
  simp only [evOp] at hev
  split at hev
  · rename_i b off hb
    split at hev
    · rename_i u hu
      split at hev
      · rename_i c hg
        split at hev
        · rename_i hle
          simp only [Option.some.injEq, Prod.mk.injEq] at hev
          obtain ⟨e1, e2⟩ := hev; subst e1; subst e2
          obtain ⟨L, hL, he⟩ := rho_sound hE hc hb
          have hr := rho_sound hE hc2 hu
          have hrc := hr.cells
          have hcs : (a.eval y).cells.size = n := by have := hrc.length; simp at this; omega
          obtain ⟨w', h1, h2, h3⟩ := storeCells_sound (P := X.P) hL u.cells (a.eval y).cells.toList H w c off off 0 hR hg hrc hle.2.2 (by have := hle.1; have := hle.2.1; omega) (by omega)
          refine ⟨.skip, w', undef, ?_, .inr ⟨rfl, rfl⟩, ι, ι.le_refl, h2, h3, ⟨#[], rfl, rfl⟩⟩
          simp only [execOp, ho, Instr.storeAt, Instr.sureAddr, he, Sem.run_bind, Sem.run_pure, Result.andThen_ok, storeVar, run_sizeOf' hsz, hcs, ne_eq, not_true_eq_false, if_false, h1]
        · cases hev
      · cases hev
    · cases hev
  · cases hev
theorem s_nilCheck {x : Operand} {y : Opd} (ho : o.op = .nilCheck x) (hE : Env X ι p t a.tmps) (hR : Rel B ι H w) (hc : chkOpd X x y = true)
    (hev : evOp (rho p t) H (.nilCheck y) = some (v, H')) : OpOK X a o B ι w v H' := by
  simp only [evOp] at hev
  split at hev
  · cases hev
  · cases hev
  · cases hev
  · rename_i u h1 h2 h3 hu
    simp only [Option.some.injEq, Prod.mk.injEq] at hev
    obtain ⟨e1, e2⟩ := hev; subst e1; subst e2
    have hr := rho_sound hE hc hu
    refine OpOK.val hR ?_ hr
    cases u <;> simp only [VR] at hr
    case nilp => exact absurd rfl h1
    case nili => exact absurd rfl h2
    case nilf => exact absurd rfl h3
    case ptr b off => obtain ⟨L, hL, he⟩ := hr; simp [execOp, ho, he]
    case slice => obtain ⟨L, hL, he⟩ := hr; simp [execOp, ho, he]
    case osl => obtain ⟨L, hL, ⟨c, _, _, he⟩ | ⟨_, c, he⟩⟩ := hr <;> simp [execOp, ho, he]
    case map => obtain ⟨L, hL, he⟩ := hr; simp [execOp, ho, he]
    case fn => obtain ⟨L, he, _⟩ := hr; simp [execOp, ho, he]
    case iface => obtain ⟨L, he, _⟩ := hr; simp [execOp, ho, he]
    case agg => obtain ⟨L, he, _⟩ := hr; simp [execOp, ho, he]
    case tup => obtain ⟨L, he, _⟩ := hr; simp [execOp, ho, he]
    all_goals simp [execOp, ho, hr]
  · cases hev
theorem intBin_sound {op : BinOp} {k : IntKind} {x y : Int} {P : Program} (hs : isShift op = false) (h : intBin op k x y = some v) (ty : TypeId) :
    ∃ u, (binOp op ty (.int k x) (.int k y)).run P w = .ok u w ∧ VR ι v u := by
  cases op <;> simp [isShift] at hs <;> simp only [intBin] at h
  case quo =>
    split at h
    · cases h
    · injection h with h; subst h; rename_i hy; exact ⟨_, by simp [binOp, Op.intDiv, hy], rfl⟩
  case rem =>
    split at h
    · cases h
    · injection h with h; subst h; rename_i hy; exact ⟨_, by simp [binOp, Op.intDiv, hy], rfl⟩
  case add => injection h with h; subst h; exact ⟨_, by simp [binOp, Op.intArith], rfl⟩
  case sub => injection h with h; subst h; exact ⟨_, by simp [binOp, Op.intArith], rfl⟩
  case mul => injection h with h; subst h; exact ⟨_, by simp [binOp, Op.intArith], rfl⟩
  case and => injection h with h; subst h; exact ⟨_, by simp only [binOp, Op.intBits, if_neg (fun h : k ≠ k => h rfl)]; rfl, rfl⟩
  case or => injection h with h; subst h; exact ⟨_, by simp only [binOp, Op.intBits, if_neg (fun h : k ≠ k => h rfl)]; rfl, rfl⟩
  case xor => injection h with h; subst h; exact ⟨_, by simp only [binOp, Op.intBits, if_neg (fun h : k ≠ k => h rfl)]; rfl, rfl⟩
  case andNot => injection h with h; subst h; exact ⟨_, by simp only [binOp, Op.intBits, if_neg (fun h : k ≠ k => h rfl)]; rfl, rfl⟩
  case eql => injection h with h; subst h; exact ⟨_, by simp only [binOp, Op.intCmp, if_neg (fun h : k ≠ k => h rfl)]; rfl, rfl⟩
  case neq => injection h with h; subst h; exact ⟨_, by simp only [binOp, Op.intCmp, if_neg (fun h : k ≠ k => h rfl)]; rfl, rfl⟩
  case lss => injection h with h; subst h; exact ⟨_, by simp only [binOp, Op.intCmp, if_neg (fun h : k ≠ k => h rfl)]; rfl, rfl⟩
  case leq => injection h with h; subst h; exact ⟨_, by simp only [binOp, Op.intCmp, if_neg (fun h : k ≠ k => h rfl)]; rfl, rfl⟩
  case gtr => injection h with h; subst h; exact ⟨_, by simp only [binOp, Op.intCmp, if_neg (fun h : k ≠ k => h rfl)]; rfl, rfl⟩
  case geq => injection h with h; subst h; exact ⟨_, by simp only [binOp, Op.intCmp, if_neg (fun h : k ≠ k => h rfl)]; rfl, rfl⟩
theorem toList_mk (s : List UInt8) : (⟨s.toArray⟩ : ByteArray).toList = s := by rw [ByteArray.toList_eq]
theorem strBin_sound {op : BinOp} {x y : List UInt8} {P : Program} (h : strBin op x y = some v) (ty : TypeId) :
    ∃ u, (binOp op ty (.string ⟨x.toArray⟩) (.string ⟨y.toArray⟩)).run P w = .ok u w ∧ VR ι v u := by
  cases op <;> simp only [strBin] at h
  case add =>
    split at h
    · rename_i hl
      injection h with h; subst h
      refine ⟨_, ?_, rfl⟩
      have : ¬ (((ByteArray.size ⟨x.toArray⟩ + ByteArray.size ⟨y.toArray⟩ : Nat) : Int) > IntKind.i64.max) := by
        simp only [ByteArray.size, List.size_toArray, IntKind.max, IntKind.signed, IntKind.bits, if_true]; omega
      simp only [binOp, Op.stringOp, if_neg this, Sem.run_pure]
      congr 2
    · cases h
  case eql => injection h with h; subst h; exact ⟨_, by simp only [binOp, Op.stringOp, toList_mk]; first | rfl | simp only [Sem.run_pure], by first | rfl | (simp only [VR]; congr 1; exact Bool.eq_iff_iff.2 (by simp)) | (simp only [VR]; congr 1)⟩
  case neq => injection h with h; subst h; exact ⟨_, by simp only [binOp, Op.stringOp, toList_mk]; first | rfl | simp only [Sem.run_pure], by first | rfl | (simp only [VR]; congr 1; exact Bool.eq_iff_iff.2 (by simp)) | (simp only [VR]; congr 1)⟩
  case lss => injection h with h; subst h; exact ⟨_, by simp only [binOp, Op.stringOp, toList_mk]; first | rfl | simp only [Sem.run_pure], rfl⟩
  case leq => injection h with h; subst h; exact ⟨_, by simp only [binOp, Op.stringOp, toList_mk]; first | rfl | simp only [Sem.run_pure], by first | rfl | (simp only [VR]; congr 1; exact Bool.eq_iff_iff.2 (by simp)) | (simp only [VR]; congr 1)⟩
  case gtr => injection h with h; subst h; exact ⟨_, by simp only [binOp, Op.stringOp, toList_mk]; first | rfl | simp only [Sem.run_pure], by first | rfl | (simp only [VR]; congr 1; exact Bool.eq_iff_iff.2 (by simp)) | (simp only [VR]; congr 1)⟩
  case geq => injection h with h; subst h; exact ⟨_, by simp only [binOp, Op.stringOp, toList_mk]; first | rfl | simp only [Sem.run_pure], rfl⟩
  all_goals cases h
theorem binA_sound {op : BinOp} {x y : AV} {x' y' : Value} {P : Program} (h : binA op x y = some v) (hx : VR ι x x') (hy : VR ι y y') (ty : TypeId) :
    (∃ u, (binOp op ty x' y').run P w = .ok u w ∧ VR ι v u) ∧ (∀ (X Y : Operand), (eqGuard op ty X Y x' y').run P w = .ok () w) := by
  unfold binA at h
  split at h
  · rename_i k m k' n
    have e1 : x' = .int k m := hx
    have e2 : y' = .int k' n := hy
    subst e1; subst e2
    refine ⟨?_, fun X Y => by unfold eqGuard; split <;> simp⟩
    split at h
    · rename_i hs
      unfold shiftA at h
      split at h
      · cases h
      · rename_i hn
        cases op <;> simp [isShift] at hs <;> simp only [Option.some.injEq] at h
        · subst h; exact ⟨_, by simp [binOp, Op.shift, hn], rfl⟩
        · subst h; exact ⟨_, by simp [binOp, Op.shift, hn], rfl⟩
    · rename_i hs
      split at h
      · rename_i hk; subst hk; exact intBin_sound (by simpa using hs) h ty
      · cases h
  · rename_i s s'
    have e1 : x' = .string ⟨s.toArray⟩ := hx
    have e2 : y' = .string ⟨s'.toArray⟩ := hy
    subst e1; subst e2
    exact ⟨strBin_sound h ty, fun X Y => by unfold eqGuard; split <;> simp⟩
  · cases h
theorem s_bin {op : BinOp} {ty ty' : TypeId} {x y : Operand} {x' y' : Opd} (ho : o.op = .binOp op ty x y ty') (hE : Env X ι p t a.tmps) (hR : Rel B ι H w) (hc : chkOpd X x x' = true) (hc2 : chkOpd X y y' = true)
    (hev : evOp (rho p t) H (.bin op x' y') = some (v, H')) : OpOK X a o B ι w v H' := by
  simp only [evOp] at hev
  split at hev
  · rename_i u hu
    split at hev
    · rename_i u2 hu2
      simp only [Option.map_eq_some_iff, Prod.mk.injEq] at hev
      obtain ⟨r, hr, e1, e2⟩ := hev; subst e1; subst e2
      obtain ⟨⟨z, hz1, hz2⟩, hg⟩ := binA_sound (P := X.P) (w := w) hr (rho_sound hE hc hu) (rho_sound hE hc2 hu2) ty
      refine OpOK.val hR ?_ hz2
      simp only [execOp, ho, Sem.run_bind, hg, Result.andThen_ok, hz1, Sem.run_pure]
    · cases hev
  · cases hev
end
end Go.Ev
/- Soundness of the simple operations: comparisons, conversions, slices, fields, indexes. -/
namespace Go.Ev
open Go Go.RowKit
section
variable {X : Cx} {ι : Plan} {B : Nat} {H H' : Heap} {w : World} {a : Act} {p t : List (Nat × AV)} {o : Oper} {v : AV}
theorem eqCell_sound {x y : AV} {x' y' : Value} {r : Bool} {P : Program} {ty : TypeId} {k : SK} (h : eqCell k x y = some r) (hx : VR ι x x') (hy : VR ι y y') (ht : scalarTy P ty = some k) (d : Nat) :
    (Op.equalIn (d + 1) ty x' y').run P w = .ok r w := by
  unfold scalarTy at ht
  unfold eqCell at h
  split at h
  · rename_i j m j' n
    have e1 : x' = .int j m := hx
    have e2 : y' = .int j' n := hy
    subst e1; subst e2
    split at h
    · rename_i hk; subst hk
      injection h with h; subst h
      cases hu : P.underlying ty with
      | none => simp [hu] at ht
      | some D =>
        cases D <;> simp [hu] at ht
        rw [run_equalIn_int w d ty j _ m n hu]; rfl
    · cases h
  · rename_i s s'
    have e1 : x' = .string ⟨s.toArray⟩ := hx
    have e2 : y' = .string ⟨s'.toArray⟩ := hy
    subst e1; subst e2
    injection h with h; subst h
    cases hu : P.underlying ty with
    | none => simp [hu] at ht
    | some D =>
      cases D <;> simp [hu] at ht
      rw [run_equalIn_string w d ty _ _ hu, toList_mk, toList_mk]
      congr 1; exact Bool.eq_iff_iff.2 (by simp)
  · rename_i b b'
    have e1 : x' = .bool b := hx
    have e2 : y' = .bool b' := hy
    subst e1; subst e2
    injection h with h; subst h
    cases hu : P.underlying ty with
    | none => simp [hu] at ht
    | some D =>
      cases D <;> simp [hu] at ht
      rw [run_equalIn_bool' w d ty _ _ hu]; rfl
  · cases h
theorem part_scalar {P : Program} {ty : TypeId} {k : SK} {cs : Array Value} {off : Nat} {u : Value} (ht : scalarTy P ty = some k) (hu : cs[off]? = some u) : (part ty cs off).run P w = .ok u w := by
  have hag : tyAgg P ty = some false := by
    unfold scalarTy at ht; unfold tyAgg
    cases hd : P.underlying ty with
    | none => simp [hd] at ht
    | some D => cases D <;> simp [hd] at ht ⊢
  simp [part, run_isAgg' hag, hu]
theorem eqFields_sound {P : Program} {xs ys : List AV} {xs' ys' : Array Value} (hx : VRs ι xs xs'.toList) (hy : VRs ι ys ys'.toList) (d : Nat) : ∀ (fs : List Field) (l : List (Nat × SK)) (r : Bool),
    eqOffs P fs = some l → eqCells xs ys l = some r → (Op.eqFields (d + 1) xs' ys' fs).run P w = .ok r w
  | [], l, r, h1, h2 => by simp only [eqOffs, Option.some.injEq] at h1; subst h1; simp only [eqCells, Option.some.injEq] at h2; subst h2; rfl
  | f :: fs, l, r, h1, h2 => by
    simp only [eqOffs] at h1
    split at h1
    · cases h1
    · rename_i m hm
      by_cases hn : f.name ≠ "_"
      · rw [if_pos hn] at h1
        split at h1
        · rename_i k hk
          injection h1 with h1; subst h1
          simp only [eqCells] at h2
          split at h2
          · rename_i x y hxi hyi
            obtain ⟨x', hx1, hx2⟩ := hx.get hxi
            obtain ⟨y', hy1, hy2⟩ := hy.get hyi
            rw [Array.getElem?_toList] at hx1 hy1
            split at h2
            · cases h2
            · rename_i he
              injection h2 with h2; subst h2
              simp only [Op.eqFields, if_pos hn, Sem.run_bind, part_scalar hk hx1, part_scalar hk hy1, Result.andThen_ok, eqCell_sound he hx2 hy2 hk d, Bool.not_false, if_true, Sem.run_pure]
            · rename_i he
              have ih := eqFields_sound hx hy d fs m r hm h2
              simp only [Op.eqFields, if_pos hn, Sem.run_bind, part_scalar hk hx1, part_scalar hk hy1, Result.andThen_ok, eqCell_sound he hx2 hy2 hk d, Bool.not_true, Bool.false_eq_true, if_false, ih]
          · cases h2
        · cases h1
      · rw [if_neg hn] at h1
        injection h1 with h1; subst h1
        simp only [Op.eqFields, if_neg hn]
        exact eqFields_sound hx hy d fs m r hm h2
theorem equalIn_agg {P : Program} {ty : TypeId} {fs : List (Nat × SK)} {xs ys : List AV} {xs' ys' : Array Value} {r : Bool} (hxs : VRs ι xs xs'.toList) (hys : VRs ι ys ys'.toList)
    (ht : eqKOk P ty (.agg fs) = true) (h : eqCells xs ys fs = some r) : (Op.equal ty (.agg xs') (.agg ys')).run P w = .ok r w ∧ P.eqGuardType P.depth ty = false := by
  unfold eqKOk at ht
  cases hu : P.underlying ty with
  | none => simp [hu] at ht
  | some D =>
    cases D <;> simp [hu] at ht
    rename_i fs'
    obtain ⟨⟨hg, hs⟩, hoff⟩ := ht
    have hf : P.underlying ty = some (.struct (P.fieldsOf ty)) := by rw [hu]; simp [Program.fieldsOf, hu]
    have hfs : P.fieldsOf ty = fs' := by simp [Program.fieldsOf, hu]
    refine ⟨?_, hg⟩
    rw [Op.equal, Op.maxDepth, run_equalIn_struct w 9999 ty xs' ys' hf hs, hfs]
    exact eqFields_sound hxs hys 9998 _ _ _ hoff h
theorem bool_beq (b c : Bool) : (b == c) = decide (b = c) := by cases b <;> cases c <;> rfl
/-- What a comparison of two values comes to, at any depth, gives what '==' and '!=' come to. -/
theorem eqv_of {P : Program} {op : BinOp} {neg r : Bool} {ty : TypeId} {x y : Value} {X Y : Operand} (hop : (op = .eql ∧ neg = false) ∨ (op = .neq ∧ neg = true))
    (hg : (eqGuard op ty X Y x y).run P w = .ok () w) (hb : binOp op ty x y = (match op with | .eql => do pure (.bool (← Op.equal ty x y)) | _ => do pure (.bool (!(← Op.equal ty x y)))))
    (h : ∀ d, (Op.equalIn (d + 1) ty x y).run P w = .ok r w) : (do eqGuard op ty X Y x y; binOp op ty x y : Sem Value).run P w = .ok (.bool (if neg then !r else r)) w := by
  have he : (Op.equal ty x y).run P w = .ok r w := h 9999
  rw [hb]
  rcases hop with ⟨rfl, rfl⟩ | ⟨rfl, rfl⟩ <;> simp [hg, he]
set_option maxHeartbeats 1600000 in
theorem eqv_sound {op : BinOp} {k : EqK} {x y : AV} {x' y' : Value} {r neg : Bool} {P : Program} {ty : TypeId} (hop : (op = .eql ∧ neg = false) ∨ (op = .neq ∧ neg = true)) (h : eqA k x y = some r) (hx : VR ι x x') (hy : VR ι y y') (ht : eqKOk P ty k = true) (X Y : Operand) (hci : ifcK k X Y = true) :
    (do eqGuard op ty X Y x' y'; binOp op ty x' y' : Sem Value).run P w = .ok (.bool (if neg then !r else r)) w := by
  by_cases hagg : ∃ fs, k = .agg fs
  · obtain ⟨fs, rfl⟩ := hagg
    unfold eqA at h
    split at h
    all_goals first | (rename_i hk; cases hk; done) | skip
    · rename_i hk; injection hk with hk; subst hk
      obtain ⟨xs', rfl, hxs⟩ := hx
      obtain ⟨ys', rfl, hys⟩ := hy
      obtain ⟨h1, h2⟩ := equalIn_agg (w := w) hxs hys ht h
      rcases hop with ⟨rfl, rfl⟩ | ⟨rfl, rfl⟩ <;> simp [eqGuard, binOp, h1, h2]
    · cases h
  · unfold eqKOk at ht
    cases hu : P.underlying ty with
    | none => simp [hu] at ht
    | some D =>
      simp only [hu] at ht
      unfold eqA at h
      split at h
      all_goals first | (cases h; done) | (exfalso; exact hagg ⟨_, rfl⟩) | skip
      all_goals (cases D <;> simp at ht)
      all_goals (injection h with h; subst h)
      all_goals simp only [VR] at hx hy
      all_goals (first | subst hx | (obtain ⟨L1, hL1, hx⟩ := hx; first | subst hx | (rcases hx with ⟨c1, _, _, rfl⟩ | ⟨_, c1, rfl⟩) | subst hL1))
      all_goals (first | subst hy | (obtain ⟨L2, hL2, hy⟩ := hy; first | subst hy | (rcases hy with ⟨c2, _, _, rfl⟩ | ⟨_, c2, rfl⟩) | subst hL2))
      all_goals
        refine eqv_of hop ?_ ?_ ?_
        · first
          | (rcases hop with ⟨rfl, rfl⟩ | ⟨rfl, rfl⟩ <;> simp [eqGuard]; done)
          | (cases X <;> cases Y <;> first | (simp [ifcK, isC] at hci; done) | (rcases hop with ⟨rfl, rfl⟩ | ⟨rfl, rfl⟩ <;> simp [eqGuard]; done))
        · rcases hop with ⟨rfl, rfl⟩ | ⟨rfl, rfl⟩ <;> rfl
        · intro d; simp [Op.equalIn, run_underlying hu, bool_beq]
theorem s_eqv {op : BinOp} {ty ty' : TypeId} {x y : Operand} {x' y' : Opd} {neg : Bool} {k : EqK} (ho : o.op = .binOp op ty x y ty') (hE : Env X ι p t a.tmps) (hR : Rel B ι H w) (hop : eqOp op neg = true) (hc : chkOpd X x x' = true) (hc2 : chkOpd X y y' = true) (hk : eqKOk X.P ty k = true) (hci : ifcK k x y = true)
    (hev : evOp (rho p t) H (.eqv neg k x' y') = some (v, H')) : OpOK X a o B ι w v H' := by
  simp only [evOp] at hev
  split at hev
  · rename_i u hu
    split at hev
    · rename_i u2 hu2
      simp only [Option.map_eq_some_iff, Prod.mk.injEq] at hev
      obtain ⟨r, hr, e1, e2⟩ := hev; subst e1; subst e2
      have hop' : (op = .eql ∧ neg = false) ∨ (op = .neq ∧ neg = true) := by
        cases op <;> simp [eqOp] at hop
        · exact .inl ⟨rfl, hop⟩
        · exact .inr ⟨rfl, hop⟩
      have h1 := eqv_sound (P := X.P) (w := w) hop' hr (rho_sound hE hc hu) (rho_sound hE hc2 hu2) hk x y hci
      refine OpOK.val hR ?_ (rfl : VR ι (.bool (if neg then !r else r)) (.bool (if neg then !r else r)))
      simp only [Sem.run_bind] at h1
      simp only [execOp, ho, Sem.run_bind, h1, Result.andThen_ok, Sem.run_pure]
    · cases hev
  · cases hev
end
end Go.Ev
/- Soundness of the simple operations: conversions, slices, fields, indexes, texts gone through. -/
namespace Go.Ev
open Go Go.RowKit
section
variable {X : Cx} {ι : Plan} {B : Nat} {H H' : Heap} {w : World} {a : Act} {p t : List (Nat × AV)} {o : Oper} {v : AV}
theorem s_un {op : UnOp} {ty : TypeId} {x : Operand} {x' : Opd} (ho : o.op = .unOp op ty x) (hE : Env X ι p t a.tmps) (hR : Rel B ι H w) (hc : chkOpd X x x' = true)
    (hev : evOp (rho p t) H (.un op x') = some (v, H')) : OpOK X a o B ι w v H' := by
  simp only [evOp] at hev
  split at hev
  · rename_i u hu
    simp only [Option.map_eq_some_iff, Prod.mk.injEq] at hev
    obtain ⟨r, hr, e1, e2⟩ := hev; subst e1; subst e2
    have h1 := rho_sound hE hc hu
    unfold unA at hr
    split at hr
    · rename_i k n
      have e : a.eval x = .int k n := h1
      injection hr with hr; subst hr
      exact OpOK.val (u := .int k (k.wrap (0 - n))) hR (by simp [execOp, ho, e, Op.unary, Op.intArith]) rfl
    · rename_i k n
      have e : a.eval x = .int k n := h1
      injection hr with hr; subst hr
      exact OpOK.val hR (by simp only [execOp, ho, e, Op.unary, Op.intBits]; rfl) rfl
    · rename_i b
      have e : a.eval x = .bool b := h1
      injection hr with hr; subst hr
      exact OpOK.val (u := .bool (!b)) hR (by simp [execOp, ho, e, Op.unary]) rfl
    · cases hr
  · cases hev
theorem s_convI {s d : TypeId} {k : IntKind} {x : Operand} {x' : Opd} (ho : o.op = .convert s d x) (hE : Env X ι p t a.tmps) (hR : Rel B ι H w) (hd : X.P.underlying d = some (.int k)) (hs : ∃ e, X.P.underlying s = some e) (hc : chkOpd X x x' = true)
    (hev : evOp (rho p t) H (.convI k x') = some (v, H')) : OpOK X a o B ι w v H' := by
  simp only [evOp] at hev
  split at hev
  · rename_i k' n hu
    simp only [Option.some.injEq, Prod.mk.injEq] at hev
    obtain ⟨e1, e2⟩ := hev; subst e1; subst e2
    have e : a.eval x = .int k' n := rho_sound hE hc hu
    obtain ⟨e', hs⟩ := hs
    refine OpOK.val hR ?_ (rfl : VR ι (.int k (k.wrap n)) (.int k (k.wrap n)))
    simp only [execOp, ho, convert, Sem.run_bind, run_underlying hs, run_underlying hd, Result.andThen_ok, e, Conv.intToInt, Sem.run_pure]
  · cases hev
theorem s_strStr {s d : TypeId} {x : Operand} {x' : Opd} (ho : o.op = .convert s d x) (hE : Env X ι p t a.tmps) (hR : Rel B ι H w) (hd : X.P.underlying d = some .string) (hs : ∃ e, X.P.underlying s = some e) (hc : chkOpd X x x' = true)
    (hev : evOp (rho p t) H (.strStr x') = some (v, H')) : OpOK X a o B ι w v H' := by
  simp only [evOp] at hev
  split at hev
  · rename_i n hu
    simp only [Option.some.injEq, Prod.mk.injEq] at hev
    obtain ⟨e1, e2⟩ := hev; subst e1; subst e2
    have e : a.eval x = .string ⟨n.toArray⟩ := rho_sound hE hc hu
    obtain ⟨e', hs⟩ := hs
    refine OpOK.val hR ?_ (rfl : VR ι (.str n) (.string ⟨n.toArray⟩))
    simp only [execOp, ho, convert, Sem.run_bind, run_underlying hs, run_underlying hd, Result.andThen_ok, e, Sem.run_pure]
  · cases hev
theorem s_intStr {s d : TypeId} {x : Operand} {x' : Opd} (ho : o.op = .convert s d x) (hE : Env X ι p t a.tmps) (hR : Rel B ι H w) (hd : X.P.underlying d = some .string) (hs : ∃ e, X.P.underlying s = some e) (hc : chkOpd X x x' = true)
    (hev : evOp (rho p t) H (.intStr x') = some (v, H')) : OpOK X a o B ι w v H' := by
  simp only [evOp] at hev
  split at hev
  · rename_i k n hu
    simp only [Option.some.injEq, Prod.mk.injEq] at hev
    obtain ⟨e1, e2⟩ := hev; subst e1; subst e2
    have e : a.eval x = .int k n := rho_sound hE hc hu
    obtain ⟨e', hs⟩ := hs
    refine OpOK.val (u := .string (Utf8.encode n)) hR ?_ rfl
    simp only [execOp, ho, convert, Sem.run_bind, run_underlying hs, run_underlying hd, Result.andThen_ok, e, Conv.intToString, Sem.run_pure]
  · cases hev
theorem shape_new (w : World) (c : Array Value) (e : TypeId) : (w.alloc (.cells c e)).shape? w.heap.size = some (e, c.size) := by
  simp [-World.alloc_eq, World.shape?, World.alloc]
theorem heap_freeze (w : World) (q : Addr) (n k : Nat) (h : k ≠ q.block) : (w.freeze q n).heap[k]? = w.heap[k]? := by
  unfold World.freeze
  split
  · rfl
  · simp only [Array.getElem?_modify]
    rw [if_neg (Ne.symm h)]
theorem size_freeze (w : World) (q : Addr) (n : Nat) : (w.freeze q n).heap.size = w.heap.size := by
  unfold World.freeze
  split
  · rfl
  · simp
theorem freeze_new (w : World) (c : Array Value) (e : TypeId) : ((w.alloc (.cells c e)).freeze ⟨w.heap.size, c.size, none⟩ 1).heap[w.heap.size]? = some (.cells c e (c.size, c.size + 1)) := by
  simp only [World.freeze, World.alloc]
  rw [if_neg (by omega)]
  simp only [Array.getElem?_modify, if_true, Array.getElem?_push_size, Option.map_some]
  simp
def stbCap (w : World) (e n : Nat) : Nat := (Question.appendCap n 0 e).cut (w.tape w.drawn (Question.appendCap n 0 e))
def stbCells (n : List UInt8) (cap : Nat) : Array Value := (n.toArray.map fun b => Value.int .u8 (b.toNat : Int)) ++ Array.replicate (cap - n.length) (.int .u8 0)
theorem run_stb {P : Program} (w : World) (e : TypeId) (n : List UInt8) :
    (Conv.stringToBytes e ⟨n.toArray⟩).run P w = .ok (.slice (some ⟨w.heap.size, 0, none⟩) n.length (stbCap w e n.length))
      (((w.drew).alloc (.cells (stbCells n (stbCap w e n.length)) e)).freeze ⟨w.heap.size, (stbCells n (stbCap w e n.length)).size, none⟩ 1) := by
  have hs : (w.drew.alloc (.cells (stbCells n (stbCap w e n.length)) e)).shape? w.heap.size = some (e, (stbCells n (stbCap w e n.length)).size) := shape_new w.drew _ e
  unfold stbCap stbCells at *
  simp only [Conv.stringToBytes, Sem.run_bind, run_choose, Question.forced, Bool.false_eq_true, if_false, Result.andThen_ok, newRow, run_newObj, Sem.run_pure, markStringish, ByteArray.size, List.size_toArray, World.drew_eq, World.alloc_eq, run_shape, World.size_drew, hs, run_freeze]
theorem s_strBytes {s d e : TypeId} {x : Operand} {x' : Opd} (ho : o.op = .convert s d x) (hE : Env X ι p t a.tmps) (hR : Rel B ι H w) (hd : X.P.underlying d = some (.slice e)) (he : X.P.underlying e = some (.int .u8)) (hs : ∃ e, X.P.underlying s = some e) (hc : chkOpd X x x' = true)
    (hev : evOp (rho p t) H (.strBytes x') = some (v, H')) : OpOK X a o B ι w v H' := by
  simp only [evOp] at hev
  split at hev
  · rename_i n hu
    split at hev
    · rename_i hlim
      simp only [Option.some.injEq, Prod.mk.injEq] at hev
      obtain ⟨e1, e2⟩ := hev; subst e1; subst e2
      have ex : a.eval x = .string ⟨n.toArray⟩ := rho_sound hE hc hu
      obtain ⟨e', hs⟩ := hs
      have hrun : (execOp a.eval o).run X.P w = .ok (.value (.slice (some ⟨w.heap.size, 0, none⟩) n.length (stbCap w e n.length))) (((w.drew).alloc (.cells (stbCells n (stbCap w e n.length)) e)).freeze ⟨w.heap.size, (stbCells n (stbCap w e n.length)).size, none⟩ 1) := by
        simp only [execOp, ho, convert, Sem.run_bind, run_underlying hs, run_underlying hd, run_underlying he, Result.andThen_ok, ex, run_stb, Sem.run_pure]
      have hcap : n.length ≤ stbCap w e n.length := Nat.le_add_right _ _
      generalize stbCap w e n.length = cap at hrun hcap
      have hsz : (stbCells n cap).size = cap := by simp [stbCells]; omega
      have hget : ∀ i, i < cap → ∃ u, (stbCells n cap)[i]? = some u := fun i hi => ⟨(stbCells n cap)[i], by simp [hsz, hi]⟩
      generalize hcells : stbCells n cap = cells at hrun hsz hget
      have hblk := freeze_new w.drew cells e
      simp only [World.size_drew] at hblk
      generalize hw2 : ((w.drew).alloc (.cells cells e)).freeze ⟨w.heap.size, cells.size, none⟩ 1 = w2 at hrun hblk
      have hold : ∀ k, k < w.heap.size → w2.heap[k]? = w.heap[k]? := fun k hk => by
        rw [← hw2, heap_freeze _ _ _ _ (by simp; omega), Below.heap_alloc _ _ _ (by simpa using hk)]; rfl
      have hwsz : w2.heap.size = w.heap.size + 1 := by rw [← hw2, size_freeze, World.size_alloc, World.size_drew]
      have hcell : ∀ i, w2.cell? ⟨w.heap.size, i, none⟩ = cells[i]? := fun i => by simp [World.cell?, hblk]
      obtain ⟨h1, h2⟩ := hR.push_cells (w' := w2) (byteCells n) cap hwsz hold
        (fun i x hx => by
          rw [hcell]
          simp only [byteCells, List.getElem?_map, Option.map_eq_some_iff] at hx
          obtain ⟨b, hb, rfl⟩ := hx
          have hi : i < n.length := by
            rcases Nat.lt_or_ge i n.length with h | h
            · exact h
            · rw [List.getElem?_eq_none h] at hb; cases hb
          refine ⟨.int .u8 (b.toNat : Int), ?_, rfl⟩
          rw [← hcells]
          rw [stbCells, Array.getElem?_append_left (by simpa using hi)]
          simp [hb])
        ⟨by simpa [byteCells] using hcap, fun i hi => by
          rw [hcell]
          refine ⟨hget i hi, ?_⟩
          simp only [World.frozen?, hblk]
          simp; omega⟩
      refine ⟨_, _, _, hrun, .inl rfl, _, h1, h2, ?_, ⟨_, Plan.add_self _ _ _, .inl ⟨cap, hcap, by simp, by simp⟩⟩⟩
      refine ⟨by rw [← hw2]; unfold World.freeze; split <;> rfl, by rw [← hw2]; unfold World.freeze; split <;> rfl, by rw [← hw2]; unfold World.freeze; split <;> rfl, by omega, fun k hk => hold k (by have := hR.size; omega)⟩
    · cases hev
  · cases hev
theorem bytesOf_sound : ∀ (c : List AV) (s : List UInt8) (vs : List Value), bytesOf c = some s → VRs ι c vs → ∃ ns : List Int, vs = ns.map (Value.int .u8) ∧ s = ns.map fun n => UInt8.ofNat n.toNat
  | [], s, vs, h, hv => by
    simp only [bytesOf, Option.some.injEq] at h; subst h
    have : vs = [] := hv
    exact ⟨[], by simpa using this, rfl⟩
  | x :: c, s, vs, h, ⟨u, us, e, hr, hrs⟩ => by
    cases x <;> first | (simp only [bytesOf, reduceCtorEq] at h; done) | skip
    rename_i k n
    cases k <;> first | (simp only [bytesOf, reduceCtorEq] at h; done) | skip
    simp only [bytesOf] at h
    rw [Option.map_eq_some_iff] at h
    obtain ⟨s', hs', rfl⟩ := h
    obtain ⟨ns, h1, h2⟩ := bytesOf_sound c s' us hs' hrs
    have hu : u = .int .u8 n := hr
    exact ⟨n :: ns, by rw [e, h1, hu]; rfl, by rw [h2]; rfl⟩
/-- The elements of a slice, as the model reads them. -/
theorem readSl_sound2 {P : Program} {sz n : Nat} {x : AV} {x' : Value} {c : List AV} (hR : Rel B ι H w) (h : readSl H sz x = some (n, c)) (hx : VR ι x x') :
    (∃ cap, x' = .slice none 0 cap ∧ n = 0 ∧ c = []) ∨ ∃ q cap vs, x' = .slice (some q) n cap ∧ ((loadCells q (n * sz)).run P w = .ok vs w ∧ (loadCells q (n * sz)).run P w.drew = .ok vs w.drew) ∧ VRs ι c vs.toList := by
  cases x <;> simp only [readSl, reduceCtorEq] at h
  case nils =>
    simp only [Option.some.injEq, Prod.mk.injEq] at h
    exact .inl ⟨0, hx, h.1.symm, h.2.symm⟩
  case slice b off len cap =>
    obtain ⟨L, hL, rfl⟩ := hx
    split at h
    · rename_i h0
      simp only [Option.some.injEq, Prod.mk.injEq] at h
      obtain ⟨rfl, rfl⟩ := h
      exact .inr ⟨_, cap, #[], by rw [h0], ⟨by rw [Nat.zero_mul]; rfl, by rw [Nat.zero_mul]; rfl⟩, rfl⟩
    · split at h
      · rename_i c' u hg
        split at h
        · rename_i hle
          simp only [Option.some.injEq, Prod.mk.injEq] at h
          obtain ⟨rfl, rfl⟩ := h
          obtain ⟨vs, h1, h2⟩ := loadCells_sound2 (P := P) hL hR hg off (len * sz) hle
          exact .inr ⟨_, cap, vs, rfl, h1, h2⟩
        · cases h
      · cases h
  case osl s b off len =>
    split at h
    · split at h
      · rename_i h0
        simp only [Option.some.injEq, Prod.mk.injEq] at h
        obtain ⟨rfl, rfl⟩ := h
        obtain ⟨L, hL, ⟨cc, _, _, rfl⟩ | ⟨_, q, rfl⟩⟩ := hx
        · exact .inr ⟨_, cc, #[], by rw [h0], ⟨by rw [Nat.zero_mul]; rfl, by rw [Nat.zero_mul]; rfl⟩, rfl⟩
        · exact .inr ⟨q, 0, #[], rfl, ⟨by rw [Nat.zero_mul]; rfl, by rw [Nat.zero_mul]; rfl⟩, rfl⟩
      · rename_i h0
        split at h
        · rename_i c' u hg
          split at h
          · rename_i hle
            simp only [Option.some.injEq, Prod.mk.injEq] at h
            obtain ⟨rfl, rfl⟩ := h
            obtain ⟨L, hL, ⟨cc, _, _, rfl⟩ | ⟨h1, q, rfl⟩⟩ := hx
            · obtain ⟨vs, h1, h2⟩ := loadCells_sound2 (P := P) hL hR hg off (len * sz) hle
              exact .inr ⟨_, cc, vs, rfl, h1, h2⟩
            · exact absurd h1 h0
          · cases h
        · cases h
    · cases h
theorem readSl_sound {P : Program} {sz n : Nat} {x : AV} {x' : Value} {c : List AV} (hR : Rel B ι H w) (h : readSl H sz x = some (n, c)) (hx : VR ι x x') :
    (∃ cap, x' = .slice none 0 cap ∧ n = 0 ∧ c = []) ∨ ∃ q cap vs, x' = .slice (some q) n cap ∧ (loadCells q (n * sz)).run P w = .ok vs w ∧ VRs ι c vs.toList := by
  rcases readSl_sound2 (P := P) hR h hx with h | ⟨q, cap, vs, h1, h2, h3⟩
  · exact .inl h
  · exact .inr ⟨q, cap, vs, h1, h2.1, h3⟩
theorem foldl_push : ∀ (ns : List Int) (s : ByteArray), ns.foldl (fun (r : ByteArray) n => r.push (UInt8.ofNat n.toNat)) s = ⟨s.data ++ (ns.map fun n => UInt8.ofNat n.toNat).toArray⟩
  | [], s => by simp
  | n :: ns, s => by
    rw [List.foldl_cons, foldl_push ns]
    congr 1
    simp [ByteArray.push]
theorem s_bytesStr {s d e : TypeId} {x : Operand} {x' : Opd} (ho : o.op = .convert s d x) (hE : Env X ι p t a.tmps) (hR : Rel B ι H w) (hd : X.P.underlying d = some .string) (he : X.P.underlying e = some (.int .u8)) (hs : X.P.underlying s = some (.slice e)) (hc : chkOpd X x x' = true)
    (hev : evOp (rho p t) H (.bytesStr x') = some (v, H')) : OpOK X a o B ι w v H' := by
  simp only [evOp] at hev
  split at hev
  · rename_i u hu
    split at hev
    · rename_i n c hrd
      simp only [Option.map_eq_some_iff, Prod.mk.injEq] at hev
      obtain ⟨s', hs', e1, e2⟩ := hev; subst e1; subst e2
      have hr := rho_sound hE hc hu
      rcases readSl_sound (P := X.P) hR hrd hr with ⟨cap, hx, rfl, rfl⟩ | ⟨q, cap, vs, hx, h1, h2⟩
      · simp only [bytesOf, Option.some.injEq] at hs'; subst hs'
        refine OpOK.val (u := .string .empty) hR ?_ rfl
        simp only [execOp, ho, hx, Sem.run_bind, run_convert_bytes_string w s d e _ _ _ hs he hd, Conv.bytesToString, Sem.run_pure, Result.andThen_ok]
      · obtain ⟨ns, e1, e2⟩ := bytesOf_sound c s' _ hs' h2
        rw [Nat.mul_one] at h1
        have hvs : vs = (ns.map (Value.int .u8)).toArray := by rw [← e1]
        subst hvs
        refine OpOK.val (u := .string ⟨s'.toArray⟩) hR ?_ rfl
        simp only [execOp, ho, hx, Sem.run_bind, run_convert_bytes_string w s d e _ _ _ hs he hd, run_bytesToString w q n cap ns h1, Result.andThen_ok, Sem.run_pure, foldl_push, e2]
        simp [ByteArray.empty, ByteArray.emptyWithCapacity]
        rfl
    · cases hev
  · cases hev
theorem s_mkIface {ty : TypeId} {x : Operand} {x' : Opd} (ho : o.op = .makeInterface ty x) (hE : Env X ι p t a.tmps) (hR : Rel B ι H w) (hd : notIface X.P ty = true) (hc : chkOpd X x x' = true)
    (hev : evOp (rho p t) H (.mkIface ty x') = some (v, H')) : OpOK X a o B ι w v H' := by
  simp only [evOp, Option.map_eq_some_iff, Prod.mk.injEq] at hev
  obtain ⟨u, hu, e1, e2⟩ := hev; subst e1; subst e2
  have hr := rho_sound hE hc hu
  refine OpOK.val hR ?_ ⟨_, rfl, hr⟩
  cases hU : X.P.underlying ty with
  | none => simp [notIface, hU] at hd
  | some D => cases D <;> simp [notIface, hU] at hd <;> simp [execOp, ho, Instr.makeInterface, run_underlying hU]
theorem mapM_rhos : ∀ (l : List Opd) (vs : List AV), l.mapM (rho p t) = some vs → rhos p t l = some vs
  | [], vs, h => by simpa [rhos] using h
  | x :: l, vs, h => by
    simp only [List.mapM_cons] at h
    cases h1 : rho p t x with
    | none => simp [h1] at h
    | some u =>
      cases h2 : l.mapM (rho p t) with
      | none => simp [h1, h2] at h
      | some us =>
        simp [h1, h2] at h; subst h
        simp [rhos, h1, mapM_rhos l us h2]
theorem s_mkFn {f : FuncId} {first caps : Array Operand} {caps' : List Opd} (ho : o.op = .makeFunc (.func f) first caps) (hE : Env X ι p t a.tmps) (hR : Rel B ι H w) (hf : first.isEmpty = true) (hc : chkOpds X caps.toList caps' = true)
    (hev : evOp (rho p t) H (.mkFn f caps') = some (v, H')) : OpOK X a o B ι w v H' := by
  simp only [evOp, Option.map_eq_some_iff, Prod.mk.injEq] at hev
  obtain ⟨u, hu, e1, e2⟩ := hev; subst e1; subst e2
  have hr := rhos_sound hE hc (mapM_rhos _ _ hu)
  have h0 := empty_of_isEmpty hf
  subst h0
  refine OpOK.val (u := .func (.func f) #[] (caps.map a.eval)) hR ?_ ⟨_, rfl, by simpa using hr⟩
  simp [execOp, ho, Instr.makeFunc]
end
end Go.Ev
