/- Soundness of the simple operations: literals, loads, stores, numbers, texts. -/
import Derived.Test.YtimbiogcllmalaaDoorEvE
namespace Go.Ev
open Go Go.RowKit
section
variable {X : Cx} {ι : Plan} {B : Nat} {H H' : Heap} {w : World} {a : Act} {p t : List (Nat × AV)} {o : Oper} {v : AV}

theorem mapM_size {P : Program} : ∀ (fs : List Field) (pl : List (Nat × Nat)) (w : World), (fs.mapM fun f => (tySize P f.type).map fun n => (f.offset, n)) = some pl →
    (fs.mapM fun f => do pure (f.offset, ← sizeOf f.type) : Sem (List (Nat × Nat))).run P w = .ok pl w
  | [], pl, w, h => by simp at h; subst h; rfl
  | f :: fs, pl, w, h => by
    simp only [List.mapM_cons] at h
    cases h1 : tySize P f.type with
    | none => simp [h1] at h
    | some n =>
      cases h2 : (fs.mapM fun f => (tySize P f.type).map fun n => (f.offset, n)) with
      | none => simp [h1, h2] at h
      | some r =>
        simp [h1, h2] at h; subst h
        have ih := mapM_size fs r w h2
        simp only [List.mapM_cons, Sem.run_bind, run_sizeOf' h1, Result.andThen_ok, Sem.run_pure, ih]

theorem s_build {ty : TypeId} {ps : Array (Nat × Operand)} {z : List AV} {qs : List (Nat × Nat × Opd)} (ho : o.op = .build ty ps) (hE : Env X ι p t a.tmps) (hR : Rel B ι H w)
    (hc : chkOp X o.op (.build z qs) = true)
    (hev : evOp (rho p t) H (.build z qs) = some (v, H')) : OpOK X a o B ι w v H' := by
  rw [ho] at hc
  simp only [chkOp, Bool.and_eq_true] at hc
  obtain ⟨hz, hpl⟩ := hc
  simp only [evOp, Option.map_eq_some_iff, Prod.mk.injEq] at hev
  obtain ⟨c, hf, e1, e2⟩ := hev; subst e1; subst e2
  cases hzv : tyZero X.P ty with
  | none => simp [hzv] at hz
  | some zv =>
    simp only [hzv] at hz
    have hv0 := constVs_sound ι _ _ hz
    have hmap : (ps.map fun (x : Nat × Operand) => match x with | (i, x) => (i, a.eval x)).toList = ps.toList.map fun (i, x) => (i, a.eval x) := by simp
    cases hu : X.P.underlying ty with
    | none => simp [hu] at hpl
    | some d =>
      cases d <;> simp only [hu, Bool.false_eq_true] at hpl
      case struct fs =>
        cases hp : fieldPlaces X.P fs with
        | none => simp [hp] at hpl
        | some pl =>
          simp only [hp] at hpl
          obtain ⟨us, h1, h2⟩ := fill_sound hE (pl[·]?) ps.toList qs z c zv.cells hpl hf hv0
          refine OpOK.val hR ?_ ⟨us, rfl, h2⟩
          have hm := mapM_size fs.toList pl w hp
          have hm2 : (fs.mapM fun f => do pure (f.offset, ← sizeOf f.type) : Sem (Array (Nat × Nat))).run X.P w = .ok pl.toArray w := by
            rw [Array.mapM_eq_mapM_toList, Sem.run_map, hm]; rfl
          simp only [execOp, ho, Instr.build, Sem.run_bind, run_zeroValue' hzv, Result.andThen_ok, run_underlying hu, hm2, hmap, List.getElem?_toArray, h1, Sem.run_pure]
      case array n e =>
        cases hs : tySize X.P e with
        | none => simp [hs] at hpl
        | some s =>
          simp only [hs] at hpl
          obtain ⟨us, h1, h2⟩ := fill_sound hE (fun i => some (i * s, s)) ps.toList qs z c zv.cells hpl hf hv0
          refine OpOK.val hR ?_ ⟨us, rfl, h2⟩
          simp only [execOp, ho, Instr.build, Sem.run_bind, run_zeroValue' hzv, Result.andThen_ok, run_underlying hu, run_sizeOf' hs, hmap, h1, Sem.run_pure]

theorem s_lit {ty : TypeId} {len n : Nat} {ps : Array (Nat × Operand)} {z : List AV} {qs : List (Nat × Nat × Opd)} (ho : o.op = .buildSlice ty len ps) (hE : Env X ι p t a.tmps) (hR : Rel B ι H w)
    (hc : chkOp X o.op (.lit z n qs) = true)
    (hev : evOp (rho p t) H (.lit z n qs) = some (v, H')) : OpOK X a o B ι w v H' := by
  rw [ho] at hc
  simp only [chkOp, Bool.and_eq_true, beq_iff_eq] at hc
  obtain ⟨hn, hpl⟩ := hc
  subst hn
  simp only [evOp, Option.map_eq_some_iff, Prod.mk.injEq] at hev
  obtain ⟨c, hf, e1, e2⟩ := hev; subst e1; subst e2
  have hmap : (ps.map fun (x : Nat × Operand) => match x with | (i, x) => (i, a.eval x)).toList = ps.toList.map fun (i, x) => (i, a.eval x) := by simp
  cases hu : X.P.underlying ty with
  | none => simp [hu] at hpl
  | some d =>
    cases d <;> simp only [hu, Bool.false_eq_true] at hpl
    case slice e =>
      cases hs : tySize X.P e with
      | none => simp [hs] at hpl
      | some s =>
        cases hzv : tyZero X.P e with
        | none => simp [hs, hzv] at hpl
        | some zv =>
          simp only [hs, hzv, Bool.and_eq_true, decide_eq_true_eq] at hpl
          obtain ⟨⟨⟨hsz, hz⟩, hpos⟩, hparts⟩ := hpl
          have hv0 := constVs_sound ι _ _ hz
          have hzero : ∀ zs : Array Value, (len * s = 0 ∨ zs = zv.cells) → ((Array.range (len * s)).map fun i => zs[i % zs.size]!) = ((List.range (len * s)).map fun i => zv.cells.getD (i % zv.cells.size) undef).toArray := by
            intro zs h
            rcases h with h | h
            · rw [h]; simp
            · subst h
              apply Array.ext'
              simp only [Array.toList_map, Array.toList_range]
              apply List.map_congr_left
              intro i _
              have : i % zv.cells.size < zv.cells.size := Nat.mod_lt _ hpos
              simp [this]
          obtain ⟨us, h1, h2⟩ := fill_sound hE (fun i => some (i * s, s)) ps.toList qs z c (((List.range (len * s)).map fun i => zv.cells.getD (i % zv.cells.size) undef).toArray) hparts hf (by simpa using hv0)
          obtain ⟨n1, n2, n3⟩ := new_sound (c := c) (vs := us) e hR h2
          refine ⟨_, _, .slice (some ⟨w.heap.size, 0, none⟩) len len, ?_, .inl rfl, _, n1, n2, n3, ⟨_, Plan.add_self _ _ _, by simp⟩⟩
          have hlim : ¬ (len * s > 2 ^ 24) := by omega
          by_cases h0 : len * s = 0
          · simp only [execOp, ho, Instr.buildSlice, Sem.run_bind, run_underlying hu, Result.andThen_ok, run_sizeOf' hs, if_neg hlim, if_pos h0, Sem.run_pure, hzero #[] (.inl h0), hmap, h1, newRow, run_newObj]
            rfl
          · simp only [execOp, ho, Instr.buildSlice, Sem.run_bind, run_underlying hu, Result.andThen_ok, run_sizeOf' hs, if_neg hlim, if_neg h0, Sem.run_pure, run_zeroValue' hzv, hzero zv.cells (.inr rfl), hmap, h1, newRow, run_newObj]
            rfl

theorem s_load1 {ty : TypeId} {x : Operand} {y : Opd} (ho : o.op = .load ty x) (hE : Env X ι p t a.tmps) (hR : Rel B ι H w) (hag : tyAgg X.P ty = some false) (hc : chkOpd X x y = true)
    (hev : evOp (rho p t) H (.load1 y) = some (v, H')) : OpOK X a o B ι w v H' := by
  simp only [evOp] at hev
  split at hev
  · rename_i b off hb
    split at hev
    · rename_i c u hg
      split at hev
      · rename_i u' hu'
        simp only [Option.some.injEq, Prod.mk.injEq] at hev
        obtain ⟨e1, e2⟩ := hev; subst e1; subst e2
        obtain ⟨L, hL, he⟩ := rho_sound hE hc hb
        obtain ⟨L', hL', hx⟩ := hR.live b c u hg
        rw [hL] at hL'; injection hL' with hL'; subst hL'
        obtain ⟨r, hr1, hr2⟩ := hx off _ hu'
        refine OpOK.val hR ?_ hr2
        simp only [execOp, ho, Instr.loadAt, Instr.sureAddr, he, Sem.run_bind, Sem.run_pure, Result.andThen_ok, loadVar, run_isAgg' hag, Bool.false_eq_true, if_false, run_load, hr1]
      · cases hev
    · cases hev
  · cases hev

theorem s_loadN {ty : TypeId} {n : Nat} {x : Operand} {y : Opd} (ho : o.op = .load ty x) (hE : Env X ι p t a.tmps) (hR : Rel B ι H w) (hag : tyAgg X.P ty = some true) (hsz : tySize X.P ty = some n) (hc : chkOpd X x y = true)
    (hev : evOp (rho p t) H (.loadN n y) = some (v, H')) : OpOK X a o B ι w v H' := by
  simp only [evOp] at hev
  split at hev
  · rename_i b off hb
    split at hev
    · rename_i c u hg
      split at hev
      · rename_i hle
        simp only [Option.some.injEq, Prod.mk.injEq] at hev
        obtain ⟨e1, e2⟩ := hev; subst e1; subst e2
        obtain ⟨L, hL, he⟩ := rho_sound hE hc hb
        obtain ⟨vs, hr1, hr2⟩ := loadCells_sound (P := X.P) hL hR hg off n hle
        refine OpOK.val hR ?_ ⟨vs, rfl, hr2⟩
        simp only [execOp, ho, Instr.loadAt, Instr.sureAddr, he, Sem.run_bind, Sem.run_pure, Result.andThen_ok, loadVar, run_isAgg' hag, if_true, run_sizeOf' hsz, hr1]
      · cases hev
    · cases hev
  · cases hev

theorem s_store {ty : TypeId} {n : Nat} {x y : Operand} {x' y' : Opd} (ho : o.op = .store ty x y) (hE : Env X ι p t a.tmps) (hR : Rel B ι H w) (hsz : tySize X.P ty = some n) (hc : chkOpd X x x' = true) (hc2 : chkOpd X y y' = true)
    (hev : evOp (rho p t) H (.store n x' y') = some (v, H')) : OpOK X a o B ι w v H' := by
  simp only [evOp] at hev
  split at hev
  · rename_i b off hb
    split at hev
    · rename_i u hu
      split at hev
      · rename_i c hg
        split at hev
        · rename_i hle
          simp only [Option.some.injEq, Prod.mk.injEq] at hev
          obtain ⟨e1, e2⟩ := hev; subst e1; subst e2
          obtain ⟨L, hL, he⟩ := rho_sound hE hc hb
          have hr := rho_sound hE hc2 hu
          have hrc := hr.cells
          have hcs : (a.eval y).cells.size = n := by have := hrc.length; simp at this; omega
          obtain ⟨w', h1, h2, h3⟩ := storeCells_sound (P := X.P) hL u.cells (a.eval y).cells.toList H w c off off 0 hR hg hrc hle.2.2 (by have := hle.1; have := hle.2.1; omega) (by omega)
          refine ⟨.skip, w', undef, ?_, .inr ⟨rfl, rfl⟩, ι, ι.le_refl, h2, h3, ⟨#[], rfl, rfl⟩⟩
          simp only [execOp, ho, Instr.storeAt, Instr.sureAddr, he, Sem.run_bind, Sem.run_pure, Result.andThen_ok, storeVar, run_sizeOf' hsz, hcs, ne_eq, not_true_eq_false, if_false, h1]
        · cases hev
      · cases hev
    · cases hev
  · cases hev

theorem s_nilCheck {x : Operand} {y : Opd} (ho : o.op = .nilCheck x) (hE : Env X ι p t a.tmps) (hR : Rel B ι H w) (hc : chkOpd X x y = true)
    (hev : evOp (rho p t) H (.nilCheck y) = some (v, H')) : OpOK X a o B ι w v H' := by
  simp only [evOp] at hev
  split at hev
  · cases hev
  · cases hev
  · cases hev
  · rename_i u h1 h2 h3 hu
    simp only [Option.some.injEq, Prod.mk.injEq] at hev
    obtain ⟨e1, e2⟩ := hev; subst e1; subst e2
    have hr := rho_sound hE hc hu
    refine OpOK.val hR ?_ hr
    cases u <;> simp only [VR] at hr
    case nilp => exact absurd rfl h1
    case nili => exact absurd rfl h2
    case nilf => exact absurd rfl h3
    case ptr b off => obtain ⟨L, hL, he⟩ := hr; simp [execOp, ho, he]
    case slice => obtain ⟨L, hL, he⟩ := hr; simp [execOp, ho, he]
    case osl => obtain ⟨L, hL, ⟨c, _, _, he⟩ | ⟨_, c, he⟩⟩ := hr <;> simp [execOp, ho, he]
    case map => obtain ⟨L, hL, he⟩ := hr; simp [execOp, ho, he]
    case fn => obtain ⟨L, he, _⟩ := hr; simp [execOp, ho, he]
    case iface => obtain ⟨L, he, _⟩ := hr; simp [execOp, ho, he]
    case agg => obtain ⟨L, he, _⟩ := hr; simp [execOp, ho, he]
    case tup => obtain ⟨L, he, _⟩ := hr; simp [execOp, ho, he]
    all_goals simp [execOp, ho, hr]
  · cases hev

theorem intBin_sound {op : BinOp} {k : IntKind} {x y : Int} {P : Program} (hs : isShift op = false) (h : intBin op k x y = some v) (ty : TypeId) :
    ∃ u, (binOp op ty (.int k x) (.int k y)).run P w = .ok u w ∧ VR ι v u := by
  cases op <;> simp [isShift] at hs <;> simp only [intBin] at h
  case quo =>
    split at h
    · cases h
    · injection h with h; subst h; rename_i hy; exact ⟨_, by simp [binOp, Op.intDiv, hy], rfl⟩
  case rem =>
    split at h
    · cases h
    · injection h with h; subst h; rename_i hy; exact ⟨_, by simp [binOp, Op.intDiv, hy], rfl⟩
  case add => injection h with h; subst h; exact ⟨_, by simp [binOp, Op.intArith], rfl⟩
  case sub => injection h with h; subst h; exact ⟨_, by simp [binOp, Op.intArith], rfl⟩
  case mul => injection h with h; subst h; exact ⟨_, by simp [binOp, Op.intArith], rfl⟩
  case and => injection h with h; subst h; exact ⟨_, by simp only [binOp, Op.intBits, if_neg (fun h : k ≠ k => h rfl)]; rfl, rfl⟩
  case or => injection h with h; subst h; exact ⟨_, by simp only [binOp, Op.intBits, if_neg (fun h : k ≠ k => h rfl)]; rfl, rfl⟩
  case xor => injection h with h; subst h; exact ⟨_, by simp only [binOp, Op.intBits, if_neg (fun h : k ≠ k => h rfl)]; rfl, rfl⟩
  case andNot => injection h with h; subst h; exact ⟨_, by simp only [binOp, Op.intBits, if_neg (fun h : k ≠ k => h rfl)]; rfl, rfl⟩
  case eql => injection h with h; subst h; exact ⟨_, by simp only [binOp, Op.intCmp, if_neg (fun h : k ≠ k => h rfl)]; rfl, rfl⟩
  case neq => injection h with h; subst h; exact ⟨_, by simp only [binOp, Op.intCmp, if_neg (fun h : k ≠ k => h rfl)]; rfl, rfl⟩
  case lss => injection h with h; subst h; exact ⟨_, by simp only [binOp, Op.intCmp, if_neg (fun h : k ≠ k => h rfl)]; rfl, rfl⟩
  case leq => injection h with h; subst h; exact ⟨_, by simp only [binOp, Op.intCmp, if_neg (fun h : k ≠ k => h rfl)]; rfl, rfl⟩
  case gtr => injection h with h; subst h; exact ⟨_, by simp only [binOp, Op.intCmp, if_neg (fun h : k ≠ k => h rfl)]; rfl, rfl⟩
  case geq => injection h with h; subst h; exact ⟨_, by simp only [binOp, Op.intCmp, if_neg (fun h : k ≠ k => h rfl)]; rfl, rfl⟩

theorem toList_mk (s : List UInt8) : (⟨s.toArray⟩ : ByteArray).toList = s := by rw [ByteArray.toList_eq]

theorem strBin_sound {op : BinOp} {x y : List UInt8} {P : Program} (h : strBin op x y = some v) (ty : TypeId) :
    ∃ u, (binOp op ty (.string ⟨x.toArray⟩) (.string ⟨y.toArray⟩)).run P w = .ok u w ∧ VR ι v u := by
  cases op <;> simp only [strBin] at h
  case add =>
    split at h
    · rename_i hl
      injection h with h; subst h
      refine ⟨_, ?_, rfl⟩
      have : ¬ (((ByteArray.size ⟨x.toArray⟩ + ByteArray.size ⟨y.toArray⟩ : Nat) : Int) > IntKind.i64.max) := by
        simp only [ByteArray.size, List.size_toArray, IntKind.max, IntKind.signed, IntKind.bits, if_true]; omega
      simp only [binOp, Op.stringOp, if_neg this, Sem.run_pure]
      congr 2
    · cases h
  case eql => injection h with h; subst h; exact ⟨_, by simp only [binOp, Op.stringOp, toList_mk]; first | rfl | simp only [Sem.run_pure], by first | rfl | (simp only [VR]; congr 1; exact Bool.eq_iff_iff.2 (by simp)) | (simp only [VR]; congr 1)⟩
  case neq => injection h with h; subst h; exact ⟨_, by simp only [binOp, Op.stringOp, toList_mk]; first | rfl | simp only [Sem.run_pure], by first | rfl | (simp only [VR]; congr 1; exact Bool.eq_iff_iff.2 (by simp)) | (simp only [VR]; congr 1)⟩
  case lss => injection h with h; subst h; exact ⟨_, by simp only [binOp, Op.stringOp, toList_mk]; first | rfl | simp only [Sem.run_pure], rfl⟩
  case leq => injection h with h; subst h; exact ⟨_, by simp only [binOp, Op.stringOp, toList_mk]; first | rfl | simp only [Sem.run_pure], by first | rfl | (simp only [VR]; congr 1; exact Bool.eq_iff_iff.2 (by simp)) | (simp only [VR]; congr 1)⟩
  case gtr => injection h with h; subst h; exact ⟨_, by simp only [binOp, Op.stringOp, toList_mk]; first | rfl | simp only [Sem.run_pure], by first | rfl | (simp only [VR]; congr 1; exact Bool.eq_iff_iff.2 (by simp)) | (simp only [VR]; congr 1)⟩
  case geq => injection h with h; subst h; exact ⟨_, by simp only [binOp, Op.stringOp, toList_mk]; first | rfl | simp only [Sem.run_pure], rfl⟩
  all_goals cases h

theorem binA_sound {op : BinOp} {x y : AV} {x' y' : Value} {P : Program} (h : binA op x y = some v) (hx : VR ι x x') (hy : VR ι y y') (ty : TypeId) :
    (∃ u, (binOp op ty x' y').run P w = .ok u w ∧ VR ι v u) ∧ (∀ (X Y : Operand), (eqGuard op ty X Y x' y').run P w = .ok () w) := by
  unfold binA at h
  split at h
  · rename_i k m k' n
    have e1 : x' = .int k m := hx
    have e2 : y' = .int k' n := hy
    subst e1; subst e2
    refine ⟨?_, fun X Y => by unfold eqGuard; split <;> simp⟩
    split at h
    · rename_i hs
      unfold shiftA at h
      split at h
      · cases h
      · rename_i hn
        cases op <;> simp [isShift] at hs <;> simp only [Option.some.injEq] at h
        · subst h; exact ⟨_, by simp [binOp, Op.shift, hn], rfl⟩
        · subst h; exact ⟨_, by simp [binOp, Op.shift, hn], rfl⟩
    · rename_i hs
      split at h
      · rename_i hk; subst hk; exact intBin_sound (by simpa using hs) h ty
      · cases h
  · rename_i s s'
    have e1 : x' = .string ⟨s.toArray⟩ := hx
    have e2 : y' = .string ⟨s'.toArray⟩ := hy
    subst e1; subst e2
    exact ⟨strBin_sound h ty, fun X Y => by unfold eqGuard; split <;> simp⟩
  · cases h

theorem s_bin {op : BinOp} {ty ty' : TypeId} {x y : Operand} {x' y' : Opd} (ho : o.op = .binOp op ty x y ty') (hE : Env X ι p t a.tmps) (hR : Rel B ι H w) (hc : chkOpd X x x' = true) (hc2 : chkOpd X y y' = true)
    (hev : evOp (rho p t) H (.bin op x' y') = some (v, H')) : OpOK X a o B ι w v H' := by
  simp only [evOp] at hev
  split at hev
  · rename_i u hu
    split at hev
    · rename_i u2 hu2
      simp only [Option.map_eq_some_iff, Prod.mk.injEq] at hev
      obtain ⟨r, hr, e1, e2⟩ := hev; subst e1; subst e2
      obtain ⟨⟨z, hz1, hz2⟩, hg⟩ := binA_sound (P := X.P) (w := w) hr (rho_sound hE hc hu) (rho_sound hE hc2 hu2) ty
      refine OpOK.val hR ?_ hz2
      simp only [execOp, ho, Sem.run_bind, hg, Result.andThen_ok, hz1, Sem.run_pure]
    · cases hev
  · cases hev

end
end Go.Ev
