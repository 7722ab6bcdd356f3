/- Several texts of this claim, joined. -/
import Derived.Test.YtifhmogcdgfojaaGreatDoorT10
set_option linter.unusedSimpArgs false
set_option linter.unusedVariables false

/- Code runs in the model as on the abstract machine. -/
namespace Go.Ev
open Go Go.RowKit
def CtlR (ι : Plan) : Ctl → Exit → Prop
  | .normal, e => e = .normal
  | .exit i, e => e = .exit i
  | .ret, e => e = .ret
  | .panic ch, e => ∃ l, e = .panic l ∧ ChR ι ch l
def chkOps (X : Cx) (ops : Array Oper) : List Oper → List Cop → Bool
  | [], [] => true
  | o :: l, c :: m => chkCop X ops o c && chkOps X ops l m
  | _, _ => false
section
variable {X : Cx} {ι : Plan} {B : Nat} {κ : CallKind} {cs0 cs : List Frame} {w : World} {a : Act} {σ : St} {ops : Array Oper}
  {call : FuncId → List AV → Heap → Option (End × Heap)}
/-- What a piece of code comes to, from the items that are left to do. -/
def Comes2 (X : Cx) (B : Nat) (κ : CallKind) (cs0 : List Frame) (ι : Plan) (w : World) (m : Machine) (b : Frame) (k : List Item) (ctl : Ctl) (σ' : St) : Prop :=
  ∃ ι' e a' cs' w', ι.le ι' ∧ Below B w w' ∧ SR X B κ cs0 ι' σ' a' cs' w' ∧ CtlR ι' ctl e ∧ Arrives X.P m b k cs' e a' w'
theorem Comes2.of_steps {m m1 : Machine} {b : Frame} {k : List Item} {ctl : Ctl} {σ' : St} {ι1 : Plan} {w1 : World} (h : Steps X.P m m1) (hle : ι.le ι1) (hB : Below B w w1) (h' : Comes2 X B κ cs0 ι1 w1 m1 b k ctl σ') : Comes2 X B κ cs0 ι w m b k ctl σ' := by
  obtain ⟨ι', e, a', cs', w', h1, h2, h3, h4, h5⟩ := h'
  exact ⟨ι', e, a', cs', w', Plan.le_trans hle h1, hB.trans h2, h3, h4, .of_steps h h5⟩
/-- A region in the order of its text. -/
theorem ops_sound (hcall : CallOK X.P B call) (b : Frame) (k : List Item) (hb : b.kind = κ) : ∀ (cl : List Cop) (l : List Oper) (i : Nat) (ι : Plan) (σ σ' : St) (a : Act) (cs : List Frame) (w : World) (ctl : Ctl),
    (∀ j, l[j]? = ops[i + j]?) → chkOps X ops l cl = true → SR X B κ cs0 ι σ a cs w → evOps call cl σ = some (ctl, σ') →
    Comes2 X B κ cs0 ι w (lone (b.at a (.inRegion ops (List.range' i l.length) :: k)) cs w) b k ctl σ'
  | [], l, i, ι, σ, σ', a, cs, w, ctl, hl, hc, h, hev => by
    cases l with
    | cons _ _ => simp [chkOps] at hc
    | nil =>
      simp only [evOps, Option.some.injEq, Prod.mk.injEq] at hev
      obtain ⟨rfl, rfl⟩ := hev
      exact ⟨ι, .normal, a, cs, w, ι.le_refl, Below.refl _ _, h, rfl, .one step_region_end⟩
  | c :: cl, l, i, ι, σ, σ', a, cs, w, ctl, hl, hc, h, hev => by
    cases l with
    | nil => simp [chkOps] at hc
    | cons o l =>
      simp only [chkOps, Bool.and_eq_true] at hc
      have ho : ops[i]? = some o := by have := hl 0; simpa using this.symm
      have hl' : ∀ j, l[j]? = ops[i + 1 + j]? := fun j => by have := hl (j + 1); simpa [Nat.add_assoc, Nat.add_comm 1 j] using this
      simp only [List.length_cons, List.range'_succ]
      simp only [evOps] at hev
      have hcop := hc.1
      split at hev
      · cases hev
      · rename_i hwant
        have hw := guard_sound h.env h.size (by simp only [chkCop, Bool.and_eq_true] at hcop; exact hcop.2) hwant
        have hs := step_op_skip (P := X.P) (b := b) (a := a) (k := k) (cs := cs) (w := w) (ops := ops) (i := i) (rest := List.range' (i + 1) l.length) (by simp [ho, hw])
        simp only [ho, Option.bind_some] at hs
        exact .of_steps (.one hs) ι.le_refl (Below.refl _ _) (ops_sound hcall b k hb cl l (i + 1) ι _ σ' _ cs w ctl hl' hc.2 (h.put (by simp only [chkCop, Bool.and_eq_true] at hcop; exact hcop.1.1) (VR.undef ι)) hev)
      · rename_i hwant
        have hw := guard_sound h.env h.size (by simp only [chkCop, Bool.and_eq_true] at hcop; exact hcop.2) hwant
        split at hev
        · cases hev
        · rename_i v H' hop
          obtain ⟨ι1, a1, w1, h1, h2, h3, h4⟩ := op_step (rest := List.range' (i + 1) l.length) hcall h ho hw hcop hop b k hb
          exact .of_steps h3 h1 h2 (ops_sound hcall b k hb cl l (i + 1) ι1 _ σ' a1 cs w1 ctl hl' hc.2 h4 hev)
        · rename_i ch H' hop
          simp only [Option.some.injEq, Prod.mk.injEq] at hev
          obtain ⟨rfl, rfl⟩ := hev
          obtain ⟨ι1, l1, w1, todo, h1, h2, h3, h4, h5⟩ := op_step (rest := List.range' (i + 1) l.length) hcall h ho hw hcop hop b k hb
          exact ⟨ι1, .panic l1, a, cs, w1, h1, h2, h5, ⟨l1, rfl, h4⟩, todo, h3⟩
        · rename_i f args hop
          obtain ⟨a1, h3, h4⟩ := op_step (rest := List.range' (i + 1) l.length) hcall h ho hw hcop hop b k hb
          exact .of_steps h3 ι.le_refl (Below.refl _ _) (ops_sound hcall b k hb cl l (i + 1) ι _ σ' a1 cs w ctl hl' hc.2 h4 hev)
        · rename_i v u hop
          obtain ⟨a1, cs1, h3, h4⟩ := op_step (rest := List.range' (i + 1) l.length) hcall h ho hw hcop hop b k hb
          exact .of_steps h3 ι.le_refl (Below.refl _ _) (ops_sound hcall b k hb cl l (i + 1) ι _ σ' a1 cs1 w ctl hl' hc.2 h4 hev)
/-- A region that draws its order: what must be shown of it (elsewhere). -/
def DrawnOK (X : Cx) (B : Nat) (chkD : Array Oper → List DCop → Bool) (call : FuncId → List AV → Heap → Option (End × Heap)) : Prop :=
  ∀ (ops : Array Oper) (cl : List DCop) (id : Nat), chkD ops cl = true → ∀ (κ : CallKind) (cs0 : List Frame) (ι : Plan) (σ σ' : St) (a : Act) (cs : List Frame) (w : World) (ctl : Ctl), SR X B κ cs0 ι σ a cs w → evOpsD call cl 0 [] { σ with t := [] } = some (ctl, σ') →
    ∀ (b : Frame) (k : List Item), b.kind = κ → Comes2 X B κ cs0 ι w (lone (b.at a (.code (.region id ops true) :: k)) cs w) b k ctl σ'
def chkCode (X : Cx) (chkD : Array Oper → List DCop → Bool) : Code → CCode → Bool
  | .skip, .skip => true
  | .region _ ops d, .reg cl => !d && chkOps X ops ops.toList cl
  | .region _ ops d, .dreg cl => d && chkD ops cl
  | .seq x y, .seq x' y' => chkCode X chkD x x' && chkCode X chkD y y'
  | .cond c x y, .cond c' x' y' => chkOpd X c c' && chkCode X chkD x x' && chkCode X chkD y y'
  | .block id x, .block id' _ x' => id == id' && chkCode X chkD x x'
  | .loop x, .loop _ x' => chkCode X chkD x x'
  | .exit id, .exit id' => id == id'
  | .ret, .ret => true
  | _, .stuck => true
  | _, _ => false
theorem code_sound {chkD : Array Oper → List DCop → Bool} (hcall : CallOK X.P B call) (hdr : DrawnOK X B chkD call) (n : Nat) : ∀ (cc : CCode) (c : Code) (κ : CallKind) (cs0 : List Frame) (ι : Plan) (σ σ' : St) (a : Act) (cs : List Frame) (w : World) (ctl : Ctl),
    chkCode X chkD c cc = true → SR X B κ cs0 ι σ a cs w → evCode call n cc σ = some (ctl, σ') → ∀ (b : Frame) (k : List Item), b.kind = κ →
    Comes2 X B κ cs0 ι w (lone (b.at a (.code c :: k)) cs w) b k ctl σ'
  | .skip, c, κ, cs0, ι, σ, σ', a, cs, w, ctl, hc, h, hev, b, k, hb => by
    cases c <;> simp only [chkCode, Bool.false_eq_true] at hc
    simp only [evCode, Option.some.injEq, Prod.mk.injEq] at hev
    obtain ⟨rfl, rfl⟩ := hev
    exact ⟨ι, .normal, a, cs, w, ι.le_refl, Below.refl _ _, h, rfl, .one step_skip⟩
  | .stuck, c, κ, cs0, ι, σ, σ', a, cs, w, ctl, hc, h, hev, b, k, hb => by
    simp only [evCode] at hev; cases hev
  | .exit id, c, κ, cs0, ι, σ, σ', a, cs, w, ctl, hc, h, hev, b, k, hb => by
    cases c <;> simp only [chkCode, Bool.false_eq_true, beq_iff_eq] at hc
    subst hc
    simp only [evCode, Option.some.injEq, Prod.mk.injEq] at hev
    obtain ⟨rfl, rfl⟩ := hev
    exact ⟨ι, .exit _, a, cs, w, ι.le_refl, Below.refl _ _, h, rfl, fun _ hk => .one (step_exit hk)⟩
  | .ret, c, κ, cs0, ι, σ, σ', a, cs, w, ctl, hc, h, hev, b, k, hb => by
    cases c <;> simp only [chkCode, Bool.false_eq_true] at hc
    simp only [evCode, Option.some.injEq, Prod.mk.injEq] at hev
    obtain ⟨rfl, rfl⟩ := hev
    exact ⟨ι, .ret, a, cs, w, ι.le_refl, Below.refl _ _, h, rfl, _, .one step_ret⟩
  | .reg cl, c, κ, cs0, ι, σ, σ', a, cs, w, ctl, hc, h, hev, b, k, hb => by
    cases c <;> simp only [chkCode, Bool.false_eq_true, Bool.and_eq_true, Bool.not_eq_true'] at hc
    obtain ⟨rfl, hc⟩ := hc
    rename_i id ops
    simp only [evCode] at hev
    have := ops_sound (ops := ops) hcall b k hb cl ops.toList 0 ι _ σ' a cs w ctl (fun j => by simp) hc h.fresh hev
    refine .of_steps (.one step_region) ι.le_refl (Below.refl _ _) ?_
    rw [show List.range ops.size = List.range' 0 ops.toList.length from by rw [List.range_eq_range']; simp]
    exact this
  | .dreg cl, c, κ, cs0, ι, σ, σ', a, cs, w, ctl, hc, h, hev, b, k, hb => by
    cases c <;> simp only [chkCode, Bool.false_eq_true, Bool.and_eq_true] at hc
    obtain ⟨rfl, hc⟩ := hc
    simp only [evCode] at hev
    exact hdr _ cl _ hc κ cs0 ι σ σ' a cs w ctl h hev b k hb
  | .seq x y, c, κ, cs0, ι, σ, σ', a, cs, w, ctl, hc, h, hev, b, k, hb => by
    cases c <;> simp only [chkCode, Bool.false_eq_true, Bool.and_eq_true] at hc
    rename_i x0 y0
    simp only [evCode] at hev
    split at hev
    · rename_i σ1 hx
      obtain ⟨ι1, e, a1, cs1, w1, h1, h2, h3, rfl, h5⟩ := code_sound hcall hdr n x x0 κ cs0 ι σ σ1 a cs w .normal hc.1 h hx b (.code y0 :: k) hb
      exact .of_steps (.head step_seq h5) h1 h2 (code_sound hcall hdr n y y0 κ cs0 ι1 σ1 σ' a1 cs1 w1 ctl hc.2 h3 hev b k hb)
    · rename_i hne
      obtain ⟨ι1, e, a1, cs1, w1, h1, h2, h3, h4, h5⟩ := code_sound hcall hdr n x x0 κ cs0 ι σ σ' a cs w ctl hc.1 h hev b (.code y0 :: k) hb
      refine ⟨ι1, e, a1, cs1, w1, h1, h2, h3, h4, .of_steps (.one step_seq) (.pass (x := .code y0) rfl (fun _ _ => .inl ?_) h5)⟩
      intro he; subst he
      cases ctl with
      | normal => exact hne σ' hev
      | exit i => cases h4
      | ret => cases h4
      | panic ch => obtain ⟨l, hl, _⟩ := h4; cases hl
  | .cond c' x y, c, κ, cs0, ι, σ, σ', a, cs, w, ctl, hc, h, hev, b, k, hb => by
    cases c <;> simp only [chkCode, Bool.false_eq_true, Bool.and_eq_true] at hc
    obtain ⟨⟨hcc, hx⟩, hy⟩ := hc
    simp only [evCode] at hev
    split at hev
    · rename_i hr
      have hv : a.eval _ = .bool true := rho_sound h.env hcc hr
      refine .of_steps (.one (step_cond hv)) ι.le_refl (Below.refl _ _) ?_
      exact code_sound hcall hdr n x _ κ cs0 ι σ σ' a cs w ctl hx h hev b k hb
    · rename_i hr
      have hv : a.eval _ = .bool false := rho_sound h.env hcc hr
      refine .of_steps (.one (step_cond hv)) ι.le_refl (Below.refl _ _) ?_
      exact code_sound hcall hdr n y _ κ cs0 ι σ σ' a cs w ctl hy h hev b k hb
    · cases hev
  | .block id live x, c, κ, cs0, ι, σ, σ', a, cs, w, ctl, hc, h, hev, b, k, hb => by
    cases c <;> simp only [chkCode, Bool.false_eq_true, Bool.and_eq_true, beq_iff_eq] at hc
    rename_i id' x0
    obtain ⟨rfl, hc⟩ := hc
    simp only [evCode] at hev
    split at hev
    · rename_i σ1 hx
      simp only [Option.some.injEq, Prod.mk.injEq] at hev
      obtain ⟨rfl, rfl⟩ := hev
      obtain ⟨ι1, e, a1, cs1, w1, h1, h2, h3, rfl, h5⟩ := code_sound hcall hdr n x x0 κ cs0 ι σ σ1 a cs w .normal hc h hx b (.inBlock id' :: k) hb
      exact ⟨ι1, .normal, a1, cs1, w1, h1, h2, h3.keep live, rfl, .head step_block (Steps.trans h5 (.one step_inBlock))⟩
    · rename_i i σ1 hx
      obtain ⟨ι1, e, a1, cs1, w1, h1, h2, h3, rfl, h5⟩ := code_sound hcall hdr n x x0 κ cs0 ι σ σ1 a cs w (.exit i) hc h hx b (.inBlock id' :: k) hb
      split at hev
      · rename_i hi
        simp only [Option.some.injEq, Prod.mk.injEq] at hev
        obtain ⟨rfl, rfl⟩ := hev
        exact ⟨ι1, .normal, a1, cs1, w1, h1, h2, h3.keep live, rfl, .head step_block (h5 k (by simp [exitTo, hi]))⟩
      · rename_i hi
        simp only [Option.some.injEq, Prod.mk.injEq] at hev
        obtain ⟨rfl, rfl⟩ := hev
        refine ⟨ι1, .exit i, a1, cs1, w1, h1, h2, h3, rfl, fun k' hk => .head step_block (h5 k' ?_)⟩
        have : (id' == i) = false := by simp; exact fun h => hi h.symm
        simp [exitTo, this, hk]
    · rename_i hne1 hne2
      obtain ⟨ι1, e, a1, cs1, w1, h1, h2, h3, h4, h5⟩ := code_sound hcall hdr n x x0 κ cs0 ι σ σ' a cs w ctl hc h hev b (.inBlock id' :: k) hb
      cases ctl with
      | normal => exact absurd hev (hne1 σ')
      | exit i => exact absurd hev (hne2 i σ')
      | ret =>
        have he : e = .ret := h4
        subst he
        exact ⟨ι1, .ret, a1, cs1, w1, h1, h2, h3, rfl, .of_steps (.one step_block) h5⟩
      | panic ch =>
        obtain ⟨l, rfl, hl⟩ := h4
        exact ⟨ι1, .panic l, a1, cs1, w1, h1, h2, h3, ⟨l, rfl, hl⟩, .of_steps (.one step_block) h5⟩
  | .loop live x, c, κ, cs0, ι, σ, σ', a, cs, w, ctl, hc, h, hev, b, k, hb => by
    cases c <;> simp only [chkCode, Bool.false_eq_true] at hc
    rename_i x0
    simp only [evCode] at hev
    have key : ∀ (m : Nat) (ι : Plan) (σ : St) (a : Act) (cs : List Frame) (w : World), SR X B κ cs0 ι σ a cs w → loopA (evCode call n x) live m σ = some (ctl, σ') →
        Comes2 X B κ cs0 ι w (lone (b.at a (.code x0 :: .inLoop x0 :: k)) cs w) b k ctl σ' := by
      intro m
      induction m with
      | zero => intro ι σ a cs w h hev; cases hev
      | succ m ih =>
        intro ι σ a cs w h hev
        simp only [loopA] at hev
        split at hev
        · rename_i σ1 hx
          obtain ⟨ι1, e, a1, cs1, w1, h1, h2, h3, rfl, h5⟩ := code_sound hcall hdr n x x0 κ cs0 ι _ σ1 a cs w .normal hc (h.keep live) hx b (.inLoop x0 :: k) hb
          exact .of_steps (Steps.trans h5 (.one step_inLoop)) h1 h2 (ih ι1 σ1 a1 cs1 w1 h3 hev)
        · rename_i hne
          obtain ⟨ι1, e, a1, cs1, w1, h1, h2, h3, h4, h5⟩ := code_sound hcall hdr n x x0 κ cs0 ι _ σ' a cs w ctl hc (h.keep live) hev b (.inLoop x0 :: k) hb
          refine ⟨ι1, e, a1, cs1, w1, h1, h2, h3, h4, .pass (x := .inLoop x0) rfl (fun _ _ => .inl ?_) h5⟩
          intro he; subst he
          cases ctl with
          | normal => exact hne σ' hev
          | exit i => cases h4
          | ret => cases h4
          | panic ch => obtain ⟨l, hl, _⟩ := h4; cases hl
    exact .of_steps (.one step_loop) ι.le_refl (Below.refl _ _) (key n ι σ a cs w h hev)
end
end Go.Ev
/- Functions run in the model as on the abstract machine. -/
namespace Go.Ev
open Go Go.RowKit
def chkRes (X : Cx) : List ResultVar → List CRes → Bool
  | [], [] => true
  | .tmp t :: l, .slot i :: m => t == i && X.ps.contains i && chkRes X l m
  | .cell t ty :: l, .cell1 i :: m => t == i && X.ps.contains i && (tyAgg X.P ty == some false) && chkRes X l m
  | .cell t ty :: l, .cellN i n :: m => t == i && X.ps.contains i && (tyAgg X.P ty == some true) && (tySize X.P ty == some n) && chkRes X l m
  | _, _ => false
def cxOf (P : Program) (fn : Func) (cf : CFunc) : Cx := ⟨P, cf.ps, fn.ntmps⟩
def chkFn (P : Program) (chkD : Cx → Array Oper → List DCop → Bool) (fn : Func) (cf : CFunc) : Bool :=
  (!(fn.name == "runtime.NumGoroutine")) && decide (cf.nargs ≤ fn.ntmps) && (List.range cf.nargs).all (fun i => cf.ps.contains i) && chkRes (cxOf P fn cf) fn.results.toList cf.results &&
  (match fn.body with
   | some c => chkCode (cxOf P fn cf) (chkD (cxOf P fn cf)) c cf.body
   | none => false)
section
variable {P : Program} {B : Nat} {ι : Plan} {H H' : Heap} {w : World}
theorem lk_enter (args : List AV) : ∀ (k i : Nat) (v : AV), lk i (enterA args k) = some v → k ≤ i ∧ args[i - k]? = some v := by
  induction args with
  | nil => intro k i v h; simp [enterA, lk] at h
  | cons x args ih =>
    intro k i v h
    simp only [enterA, lk] at h
    split at h
    · rename_i e; subst e; injection h with h; subst h; exact ⟨Nat.le_refl _, by simp⟩
    · obtain ⟨h1, h2⟩ := ih _ _ _ h
      refine ⟨by omega, ?_⟩
      have : i - k = (i - (k + 1)) + 1 := by omega
      rw [this, List.getElem?_cons_succ]; exact h2
theorem enter_SR {cf : CFunc} {fn : Func} {κ : CallKind} {cs0 : List Frame} {args : List AV} {vs : Array Value} {u : Up} (hR : Rel B ι H w) (hG : Glob P ι) (hv : VRs ι args vs.toList) (hn : args.length = cf.nargs) (h1 : cf.nargs ≤ fn.ntmps) (h2 : ∀ i, i < cf.nargs → cf.ps.contains i = true)
    (hU : UpR ι κ cs0 u cs0) : SR (cxOf P fn cf) B κ cs0 ι { p := enterA args 0, t := [], H := H, d := [], u := u } { tmps := vs ++ Array.replicate (fn.ntmps - vs.size) undef, defers := [] } cs0 w := by
  have hvl : vs.size = args.length := by have := hv.length; simpa using this
  refine ⟨⟨fun i v h => ?_, fun i v h => by simp [lk] at h, hG, fun i v h => ?_, fun i v h => by simp [lk] at h⟩, by simp [cxOf]; omega, hR, rfl, hU⟩
  · obtain ⟨_, h⟩ := lk_enter args 0 i v h
    obtain ⟨u', hu, hr⟩ := hv.get (by simpa using h)
    rw [Array.getElem?_toList] at hu
    have hi : i < vs.size := by
      rcases Nat.lt_or_ge i vs.size with h | h
      · exact h
      · rw [Array.getElem?_eq_none h] at hu; cases hu
    rw [Array.getD_eq_getD_getElem?, Array.getElem?_append_left hi, hu]; exact hr
  · obtain ⟨_, h⟩ := lk_enter args 0 i v h
    refine h2 i ?_
    rcases Nat.lt_or_ge i args.length with h' | h'
    · omega
    · rw [List.getElem?_eq_none (by simpa using h')] at h; cases h
def resOne (tmps : Array Value) : ResultVar → Sem Value
  | .tmp t => pure (tmps.getD t undef)
  | .cell a t => do loadVar t (← asAddr (tmps.getD a undef))
theorem results_eq (fn : Func) (tmps : Array Value) : results fn tmps = (do let vs ← fn.results.mapM (resOne tmps); pure (if h : vs.size = 1 then vs[0] else .tuple vs)) := by
  unfold results
  congr 1
theorem res_sound {X : Cx} {p t : List (Nat × AV)} {tmps : Array Value} (hE : Env X ι p t tmps) (hR : Rel B ι H w) : ∀ (rs : List ResultVar) (cs : List CRes) (l : List AV), chkRes X rs cs = true → resAs p H cs = some l →
    ∃ vs : List Value, (rs.mapM (m := Sem) (resOne tmps)).run X.P w = .ok vs w ∧ VRs ι l vs
  | [], [], l, _, h => by simp only [resAs, Option.some.injEq] at h; subst h; exact ⟨[], rfl, rfl⟩
  | [], _ :: _, _, hc, _ => by simp [chkRes] at hc
  | _ :: _, [], _, hc, _ => by cases ‹ResultVar› <;> simp [chkRes] at hc
  | r :: rs, c :: cs, l, hc, h => by
    simp only [resAs] at h
    split at h
    · cases h
    · rename_i v hv
      split at h
      · cases h
      · rename_i l' hl'
        injection h with h; subst h
        have main : ∀ (r' : Value), (resOne tmps r).run X.P w = .ok r' w → VR ι v r' → chkRes X rs cs = true →
            ∃ vs : List Value, ((r :: rs).mapM (m := Sem) (resOne tmps)).run X.P w = .ok vs w ∧ VRs ι (v :: l') vs := by
          intro r' h1 h2 h3
          obtain ⟨vs, g1, g2⟩ := res_sound hE hR rs cs l' h3 hl'
          refine ⟨r' :: vs, ?_, ⟨r', vs, rfl, h2, g2⟩⟩
          simp only [List.mapM_cons, Sem.run_bind, h1, Result.andThen_ok, g1, Sem.run_pure]
        cases r with
        | tmp t =>
          cases c <;> simp only [chkRes, Bool.false_eq_true, Bool.and_eq_true, beq_iff_eq] at hc
          obtain ⟨⟨rfl, _⟩, hc⟩ := hc
          exact main _ rfl (hE.fp _ _ hv) hc
        | cell t ty =>
          cases c <;> simp only [chkRes, Bool.false_eq_true, Bool.and_eq_true, beq_iff_eq] at hc
          · obtain ⟨⟨⟨rfl, _⟩, hag⟩, hc⟩ := hc
            simp only [resA] at hv
            split at hv
            · rename_i b off hb
              split at hv
              · rename_i c' u hg
                obtain ⟨L, hL, he⟩ := hE.fp _ _ hb
                obtain ⟨L', hL', hx⟩ := hR.live b c' u hg
                rw [hL] at hL'; injection hL' with hL'; subst hL'
                obtain ⟨r', hr1, hr2⟩ := hx off _ hv
                refine main r' ?_ hr2 hc
                simp only [resOne, he, asAddr, Sem.run_bind, Sem.run_pure, Result.andThen_ok, loadVar, run_isAgg' hag, Bool.false_eq_true, if_false, run_load, hr1]
              · cases hv
            · cases hv
          · obtain ⟨⟨⟨⟨rfl, _⟩, hag⟩, hsz⟩, hc⟩ := hc
            simp only [resA] at hv
            split at hv
            · rename_i b off hb
              split at hv
              · rename_i c' u hg
                split at hv
                · rename_i hle
                  injection hv with hv; subst hv
                  obtain ⟨L, hL, he⟩ := hE.fp _ _ hb
                  obtain ⟨vs, hr1, hr2⟩ := loadCells_sound (P := X.P) hL hR hg off _ hle
                  refine main (.agg vs) ?_ ⟨vs, rfl, hr2⟩ hc
                  simp only [resOne, he, asAddr, Sem.run_bind, Sem.run_pure, Result.andThen_ok, loadVar, run_isAgg' hag, if_true, run_sizeOf' hsz, hr1]
                · cases hv
              · cases hv
            · cases hv
theorem results_sound {X : Cx} {fn : Func} {p t : List (Nat × AV)} {tmps : Array Value} {cs : List CRes} {l : List AV} (hE : Env X ι p t tmps) (hR : Rel B ι H w) (hc : chkRes X fn.results.toList cs = true) (h : resAs p H cs = some l) :
    ∃ v, (results fn tmps).run X.P w = .ok v w ∧ VR ι (resV l) v := by
  obtain ⟨vs, h1, h2⟩ := res_sound hE hR fn.results.toList cs l hc h
  have hrun : (results fn tmps).run X.P w = .ok (if hs : vs.toArray.size = 1 then vs.toArray[0] else .tuple vs.toArray) w := by
    rw [results_eq]
    simp only [Sem.run_bind]
    rw [Array.mapM_eq_mapM_toList]
    simp only [Sem.run_map, h1, Result.andThen_ok, Sem.run_pure]
  refine ⟨_, hrun, ?_⟩
  cases l with
  | nil =>
    have : vs = [] := h2
    subst this
    exact ⟨#[], rfl, rfl⟩
  | cons x l =>
    obtain ⟨v, vs', rfl, hr, hrs⟩ := h2
    cases l with
    | nil =>
      have : vs' = [] := hrs
      subst this
      exact hr
    | cons y l =>
      obtain ⟨v2, vs2, rfl, hr2, hrs2⟩ := hrs
      rw [dif_neg (by simp)]
      exact ⟨_, rfl, ⟨v, _, rfl, hr, ⟨v2, vs2, rfl, hr2, hrs2⟩⟩⟩
end
end Go.Ev
/- Calls, deferred calls: the whole machine. -/
namespace Go.Ev
open Go Go.RowKit
/-- The functions that the abstract machine has are the model's. -/
def Table (P : Program) (chkD : Cx → Array Oper → List DCop → Bool) (C : FuncId → Option CFunc) : Prop :=
  ∀ f cf, C f = some cf → ∃ fn, P.funcs[f]? = some fn ∧ chkFn P chkD fn cf = true
/-- Regions that draw their order: to be shown for each way to check them. -/
def DrawnAll (P : Program) (B : Nat) (chkD : Cx → Array Oper → List DCop → Bool) : Prop :=
  ∀ (X : Cx) (call : FuncId → List AV → Heap → Option (End × Heap)), X.P = P → CallOK P B call → DrawnOK X B (chkD X) call
section
variable {P : Program} {B : Nat} {chkD : Cx → Array Oper → List DCop → Bool} {C : FuncId → Option CFunc}
theorem chkFn_parts {fn : Func} {cf : CFunc} (h : chkFn P chkD fn cf = true) :
    (fn.name == "runtime.NumGoroutine") = false ∧ cf.nargs ≤ fn.ntmps ∧ (∀ i, i < cf.nargs → cf.ps.contains i = true) ∧ chkRes (cxOf P fn cf) fn.results.toList cf.results = true ∧
    ∃ c, fn.body = some c ∧ chkCode (cxOf P fn cf) (chkD (cxOf P fn cf)) c cf.body = true := by
  simp only [chkFn, Bool.and_eq_true, Bool.not_eq_true', decide_eq_true_eq, List.all_eq_true, List.mem_range] at h
  obtain ⟨⟨⟨⟨h1, h2⟩, h3⟩, h4⟩, h5⟩ := h
  refine ⟨h1, h2, h3, h4, ?_⟩
  split at h5
  · rename_i c hc; exact ⟨c, hc, h5⟩
  · cases h5
/-- A deferred function's call. -/
theorem fnD_sound (hC : Table P chkD C) (hD : DrawnAll P B chkD) {call : FuncId → List AV → Heap → Option (End × Heap)} (hcall : CallOK P B call) {n : Nat} {f : FuncId} {args : List AV} {u u' : Up} {H H' : Heap} {e : End}
    (hev : evFnD C call n f args u H = some (e, u', H')) {ι : Plan} {w : World} {vs : Array Value} {m : FrameMode} (hR : Rel B ι H w) (hG : Glob P ι) (hv : VRs ι args vs.toList) (hm : ModeR ι u m) :
    (∃ fn, P.funcs[f]? = some fn ∧ fn.body.isSome = true ∧ (fn.name == "runtime.NumGoroutine") = false) ∧
    CallsD P f vs m w fun e' m' w' => ∃ ι', ι.le ι' ∧ Rel B ι' H' w' ∧ Below B w w' ∧ ModeR ι' u' m' ∧ EndR ι' e e' := by
  simp only [evFnD] at hev
  split at hev
  · cases hev
  · rename_i cf hcf
    obtain ⟨fn, hf, hchk⟩ := hC f cf hcf
    obtain ⟨h1, h2, h3, h4, c, hc, h5⟩ := chkFn_parts hchk
    split at hev
    · rename_i hn
      refine ⟨⟨fn, hf, by rw [hc]; rfl, h1⟩, ?_⟩
      intro c0 cs hmode
      have hU : UpR ι .deferred (c0 :: cs) u (c0 :: cs) := .inr ⟨rfl, c0, cs, m, rfl, by rw [← hmode], hm⟩
      have hSR := enter_SR (fn := fn) (cf := cf) (κ := .deferred) (cs0 := c0 :: cs) hR hG hv hn h2 h3 hU
      let b : Frame := { (default : Frame) with fn := f, kind := .deferred }
      have henter : Frame.enter P f vs .deferred = b.at { tmps := vs ++ Array.replicate (fn.ntmps - vs.size) undef, defers := [] } [.code c] := by
        simp [Frame.enter, Frame.at, hf, hc, b]
      have run := fun ctl σ' (hx : evCode call n cf.body { p := enterA args 0, t := [], H := H, d := [], u := u } = some (ctl, σ')) =>
        code_sound (X := cxOf P fn cf) hcall (hD (cxOf P fn cf) call rfl hcall) n cf.body c .deferred (c0 :: cs) ι _ σ' _ (c0 :: cs) w ctl h5 hSR hx b [] rfl
      have fin : ∀ σ1, (evCode call n cf.body { p := enterA args 0, t := [], H := H, d := [], u := u } = some (.normal, σ1) ∨ evCode call n cf.body { p := enterA args 0, t := [], H := H, d := [], u := u } = some (.ret, σ1)) →
          (match σ1.d with | [] => (resAs σ1.p σ1.H cf.results).map fun l => (End.ret (resV l), σ1.u, σ1.H) | _ => none) = some (e, u', H') →
          ∃ e' m' w' fr, (∃ ι', ι.le ι' ∧ Rel B ι' H' w' ∧ Below B w w' ∧ ModeR ι' u' m' ∧ EndR ι' e e') ∧ Comes P (lone (Frame.enter P f vs .deferred) (c0 :: cs) w) (lone fr ({ c0 with mode := m' } :: cs) w') e' ∧ fr.kind = .deferred ∧ fr.going P w' e' := by
        intro σ1 hx hres
        split at hres
        · rename_i hd
          obtain ⟨l, hl, he⟩ := Option.map_eq_some_iff.1 hres
          simp only [Prod.mk.injEq] at he
          obtain ⟨rfl, rfl, rfl⟩ := he
          have out : ∃ ι' a' cs' w', ι.le ι' ∧ Below B w w' ∧ SR (cxOf P fn cf) B .deferred (c0 :: cs) ι' σ1 a' cs' w' ∧ ∃ todo, Steps P (lone (Frame.enter P f vs .deferred) (c0 :: cs) w) (lone { b.at a' todo with mode := .returning } cs' w') := by
            rcases hx with hx | hx
            · obtain ⟨ι', e0, a', cs', w', g1, g2, g3, rfl, g5⟩ := run .normal σ1 hx
              rw [← henter] at g5
              exact ⟨ι', a', cs', w', g1, g2, g3, [], Steps.trans g5 (.one step_end)⟩
            · obtain ⟨ι', e0, a', cs', w', g1, g2, g3, rfl, g5⟩ := run .ret σ1 hx
              rw [← henter] at g5
              obtain ⟨todo, g5⟩ := g5
              exact ⟨ι', a', cs', w', g1, g2, g3, todo, g5⟩
          obtain ⟨ι', a', cs', w', g1, g2, g3, todo, g5⟩ := out
          obtain ⟨v, hv1, hv2⟩ := results_sound (X := cxOf P fn cf) g3.env g3.rel h4 hl
          rcases g3.up with ⟨hk, _⟩ | ⟨_, c1, rest, m', hcs0, hcs', hm'⟩
          · cases hk
          · injection hcs0 with q1 q2; subst q1; subst q2
            have hde : a'.defers = [] := by have := g3.dfr; rw [hd] at this; exact this
            refine ⟨.returned v, m', w', { b.at a' todo with mode := .returning }, ⟨ι', g1, g3.rel, g2, hm', ⟨v, rfl, hv2⟩⟩, ?_, rfl, rfl, hde, fn, hf, hv1⟩
            rw [← hcs']; exact g5
        · cases hres
      split at hev
      · rename_i σ1 hx; exact fin σ1 (.inl hx) hev
      · rename_i σ1 hx; exact fin σ1 (.inr hx) hev
      · rename_i ch σ1 hx
        split at hev
        · rename_i hd
          simp only [Option.some.injEq, Prod.mk.injEq] at hev
          obtain ⟨rfl, rfl, rfl⟩ := hev
          obtain ⟨ι', e0, a', cs', w', g1, g2, g3, ⟨l, rfl, hch⟩, g5⟩ := run (.panic ch) σ1 hx
          rw [← henter] at g5
          obtain ⟨todo, g5⟩ := g5
          rcases g3.up with ⟨hk, _⟩ | ⟨_, c1, rest, m', hcs0, hcs', hm'⟩
          · cases hk
          · injection hcs0 with q1 q2; subst q1; subst q2
            have hde : a'.defers = [] := by have := g3.dfr; rw [hd] at this; exact this
            refine ⟨.panicked l, m', w', { b.at a' todo with mode := .panicking l }, ⟨ι', g1, g3.rel, g2, hm', ⟨l, rfl, hch⟩⟩, ?_, rfl, rfl, hde, fn, hf⟩
            rw [← hcs']; exact g5
        · cases hev
      · cases hev
    · cases hev
theorem settle_sound {ι : Plan} {u : Up} {m : FrameMode} (h : ModeR ι u m) : ModeR ι (settleA u) (settle m) := by
  cases u with
  | norm => exact h.elim
  | ret => have : m = .returning := h; subst this; rfl
  | pan ch =>
    obtain ⟨l, rfl, hl⟩ := h
    cases ch with
    | nil => have : l = [] := hl; subst this; exact ⟨[], rfl, rfl⟩
    | cons x ch =>
      obtain ⟨v, r⟩ := x
      obtain ⟨v', l', rfl, hv, hch⟩ := hl
      cases r with
      | false => exact ⟨_, rfl, ⟨v', l', rfl, hv, hch⟩⟩
      | true =>
        have hall : ∀ {ch : List (AV × Bool)} {l : List PanicEntry}, ChR ι ch l → l.dropWhile (!·.goexit) = [] := by
          intro ch
          induction ch with
          | nil => intro l h; have : l = [] := h; subst this; rfl
          | cons x ch ih => intro l h; obtain ⟨v, r⟩ := x; obtain ⟨v', l', rfl, _, h⟩ := h; simp only [List.dropWhile_cons]; simpa using ih h
        show settle (.panicking _) = .returning
        simp only [settle, hall hch]
theorem raised_sound {ι : Plan} {u : Up} {m : FrameMode} {ch : List (AV × Bool)} {l : List PanicEntry} (h : ModeR ι u m) (hc : ChR ι ch l) : ModeR ι (raisedA u ch) (raised m l) := by
  cases u with
  | norm => exact h.elim
  | ret => have : m = .returning := h; subst this; exact ⟨l, rfl, hc⟩
  | pan old =>
    obtain ⟨l0, rfl, hl⟩ := h
    exact ⟨l ++ l0, rfl, hc.append hl⟩
theorem runDfr_sound (hC : Table P chkD C) (hD : DrawnAll P B chkD) {call : FuncId → List AV → Heap → Option (End × Heap)} (hcall : CallOK P B call) {n : Nat} {fn : Func} {cf : CFunc} (hchk : chkRes (cxOf P fn cf) fn.results.toList cf.results = true)
    {p t : List (Nat × AV)} {tmps : Array Value} {e : End} {H' : Heap} {ι0 : Plan} {w0 : World} : ∀ (ds : List (FuncId × List AV)) (ds' : List Deferred) (u : Up) (m : FrameMode) (H : Heap) (ι : Plan) (w : World),
    runDfr (evFnD C call n) cf.results p ds u H = some (e, H') → ι0.le ι → Below B w0 w → Env (cxOf P fn cf) ι p t tmps → Rel B ι H w → DefR ι ds ds' → ModeR ι u m →
    Leaves P fn tmps (fun e' w' => ∃ ι', ι0.le ι' ∧ Rel B ι' H' w' ∧ Below B w0 w' ∧ EndR ι' e e') ds' m w
  | [], ds', u, m, H, ι, w, hev, hle, hB, hE, hR, hd, hm => by
    have : ds' = [] := hd
    subst this
    cases u with
    | norm => exact hm.elim
    | ret =>
      have : m = .returning := hm
      subst this
      simp only [runDfr] at hev
      obtain ⟨l, hl, he⟩ := Option.map_eq_some_iff.1 hev
      simp only [Prod.mk.injEq] at he
      obtain ⟨rfl, rfl⟩ := he
      obtain ⟨v, h1, h2⟩ := results_sound (X := cxOf P fn cf) hE hR hchk hl
      exact ⟨v, h1, ι, hle, hR, hB, ⟨v, rfl, h2⟩⟩
    | pan ch =>
      obtain ⟨l, rfl, hl⟩ := hm
      simp only [runDfr, Option.some.injEq, Prod.mk.injEq] at hev
      obtain ⟨rfl, rfl⟩ := hev
      exact ⟨ι, hle, hR, hB, ⟨l, rfl, hl⟩⟩
  | (f, args) :: ds, ds', u, m, H, ι, w, hev, hle, hB, hE, hR, hd, hm => by
    obtain ⟨cap, vs, l', rfl, hv, hd'⟩ := hd
    simp only [runDfr] at hev
    have hrun : m ≠ .run := by intro e; subst e; cases u <;> simp [ModeR] at hm
    have hinv : ∀ {fn' : Func}, P.funcs[f]? = some fn' → fn'.body.isSome = true → (fn'.name == "runtime.NumGoroutine") = false → (invoke (.fn (.func f) cap) vs).run P w = .ok (.enter f (vs ++ cap)) w := by
      intro fn' h1 h2 h3
      simp only [invoke]
      exact run_callFunc_enter h1 h2 h3 _ w
    split at hev
    · rename_i v u1 H1 h1
      obtain ⟨⟨fn', g1, g2, g3⟩, g4⟩ := fnD_sound (vs := vs ++ cap) hC hD hcall h1 hR hE.fg hv hm
      refine leaves_cons hrun (hinv g1 g2 g3) (g4.mono fun e' m' w' ⟨ι1, k1, k2, k3, k4, k5⟩ => ?_)
      obtain ⟨v', rfl, _⟩ := k5
      exact runDfr_sound hC hD hcall hchk ds l' _ _ H1 ι1 w' hev (Plan.le_trans hle k1) (hB.trans k3) (hE.mono k1) k2 (hd'.mono k1) (settle_sound k4)
    · rename_i ch u1 H1 h1
      obtain ⟨⟨fn', g1, g2, g3⟩, g4⟩ := fnD_sound (vs := vs ++ cap) hC hD hcall h1 hR hE.fg hv hm
      refine leaves_cons hrun (hinv g1 g2 g3) (g4.mono fun e' m' w' ⟨ι1, k1, k2, k3, k4, k5⟩ => ?_)
      obtain ⟨l, rfl, hl⟩ := k5
      exact runDfr_sound hC hD hcall hchk ds l' _ _ H1 ι1 w' hev (Plan.le_trans hle k1) (hB.trans k3) (hE.mono k1) k2 (hd'.mono k1) (raised_sound k4 hl)
    · cases hev
/-- A step of THE MACHINE. -/
theorem step_sound (hC : Table P chkD C) (hD : ∀ B, DrawnAll P B chkD) {call : FuncId → List AV → Heap → Option (End × Heap)} (hcall : CallOK P B call) (n : Nat) : CallOK P B (evStep C call n) := by
  intro f args H e H' hev
  simp only [evStep] at hev
  split at hev
  · cases hev
  · rename_i cf hcf
    obtain ⟨fn, hf, hchk⟩ := hC f cf hcf
    obtain ⟨h1, h2, h3, h4, c, hc, h5⟩ := chkFn_parts hchk
    refine ⟨⟨fn, hf, by rw [hc]; rfl, h1⟩, ?_⟩
    intro B ι w vs hR hG hv cs
    have hcall : CallOK P B call := hcall
    split at hev
    · rename_i hn
      have hSR := enter_SR (fn := fn) (cf := cf) (κ := .normal) (cs0 := cs) (u := .norm) hR hG hv hn h2 h3 (.inl ⟨rfl, rfl, rfl⟩)
      let b : Frame := { (default : Frame) with fn := f, kind := .normal }
      have henter : Frame.enter P f vs .normal = b.at { tmps := vs ++ Array.replicate (fn.ntmps - vs.size) undef, defers := [] } [.code c] := by
        simp [Frame.enter, Frame.at, hf, hc, b]
      have run := fun ctl σ' (hx : evCode (call) n cf.body { p := enterA args 0, t := [], H := H, d := [], u := .norm } = some (ctl, σ')) =>
        code_sound (X := cxOf P fn cf) hcall (hD B (cxOf P fn cf) (call) rfl hcall) n cf.body c .normal cs ι _ σ' _ cs w ctl h5 hSR hx b [] rfl
      have fin : ∀ (m : FrameMode) (u : Up) (σ1 : St) (ι1 : Plan) (a1 : Act) (cs1 : List Frame) (w1 : World) (todo : List Item), ι.le ι1 → Below B w w1 → SR (cxOf P fn cf) B .normal cs ι1 σ1 a1 cs1 w1 → ModeR ι1 u m →
          Steps P (lone (Frame.enter P f vs .normal) cs w) (lone { b.at a1 todo with mode := m } cs1 w1) → runDfr (evFnD C (call) n) cf.results σ1.p σ1.d u σ1.H = some (e, H') →
          ∃ e' w' fr, (∃ ι', ι.le ι' ∧ Rel B ι' H' w' ∧ Below B w w' ∧ EndR ι' e e') ∧ Comes P (lone (Frame.enter P f vs .normal) cs w) (lone fr cs w') e' ∧ fr.fn = f ∧ fr.leaving P w' e' := by
        intro m u σ1 ι1 a1 cs1 w1 todo g1 g2 g3 hm g5 hdf
        have hcs : cs1 = cs := by
          rcases g3.up with ⟨_, _, h⟩ | ⟨hk, _⟩
          · exact h
          · cases hk
        subst hcs
        have hl := runDfr_sound hC (hD B) hcall h4 σ1.d a1.defers u m σ1.H ι1 w1 hdf g1 g2 g3.env g3.rel g3.dfr hm
        obtain ⟨e', w'', fr', hR', hs', hfn', hl'⟩ := leaves_steps a1.defers m w1 { b.at a1 todo with mode := m } cs1 rfl rfl rfl hf rfl hl
        exact ⟨e', w'', fr', hR', Comes.of_steps g5 hs', hfn', hl'⟩
      split at hev
      · rename_i σ1 hx
        obtain ⟨ι', e0, a', cs', w', g1, g2, g3, rfl, g5⟩ := run .normal σ1 hx
        rw [← henter] at g5
        exact fin .returning .ret σ1 ι' a' cs' w' [] g1 g2 g3 rfl (Steps.trans g5 (.one step_end)) hev
      · rename_i σ1 hx
        obtain ⟨ι', e0, a', cs', w', g1, g2, g3, rfl, g5⟩ := run .ret σ1 hx
        rw [← henter] at g5
        obtain ⟨todo, g5⟩ := g5
        exact fin .returning .ret σ1 ι' a' cs' w' todo g1 g2 g3 rfl g5 hev
      · rename_i ch σ1 hx
        obtain ⟨ι', e0, a', cs', w', g1, g2, g3, ⟨l, rfl, hch⟩, g5⟩ := run (.panic ch) σ1 hx
        rw [← henter] at g5
        obtain ⟨todo, g5⟩ := g5
        exact fin (.panicking l) (.pan ch) σ1 ι' a' cs' w' todo g1 g2 g3 ⟨l, rfl, hch⟩ g5 hev
      · cases hev
    · cases hev
/-- THE MACHINE: what it says of a call, the model's call comes to. -/
theorem fn_sound (hC : Table P chkD C) (hD : ∀ B, DrawnAll P B chkD) : ∀ n, CallOK P B (evFn C n)
  | 0 => fun f args H e H' h => by cases h
  | n + 1 => step_sound hC hD (fn_sound hC hD n) n
/-- One, and else the other. -/
def orCall (a b : FuncId → List AV → Heap → Option (End × Heap)) (f : FuncId) (args : List AV) (H : Heap) : Option (End × Heap) :=
  match a f args H with
  | some r => some r
  | none => b f args H
theorem CallOK.or {a b : FuncId → List AV → Heap → Option (End × Heap)} (ha : CallOK P B a) (hb : CallOK P B b) : CallOK P B (orCall a b) := by
  intro f args H e H' h
  simp only [orCall] at h
  split at h
  · rename_i r hr; injection h with h; subst h; exact ha f args H e H' hr
  · exact hb f args H e H' h
end
end Go.Ev
/- What an operation asks for: its operands; and whether it reads or turns memory. -/
namespace Go.Ev
open Go Go.RowKit
def COp.opds : COp → List Opd
  | .mov x => [x]
  | .pick c a b => [c, a, b]
  | .alloc _ => []
  | .box x => [x]
  | .build _ ps => ps.map (·.2.2)
  | .lit _ _ ps => ps.map (·.2.2)
  | .load1 x => [x]
  | .loadN _ x => [x]
  | .store _ a x => [a, x]
  | .nilCheck x => [x]
  | .bin _ x y => [x, y]
  | .eqv _ _ x y => [x, y]
  | .un _ x => [x]
  | .convI _ x => [x]
  | .strStr x => [x]
  | .intStr x => [x]
  | .strBytes x => [x]
  | .bytesStr x => [x]
  | .mkIface _ x => [x]
  | .mkFn _ l => l
  | .mkSlice _ _ l c => [l, c]
  | .sliceStr x lo hi => x :: (lo.toList ++ hi.toList)
  | .sliceSl _ x lo hi mx => x :: (lo.toList ++ hi.toList ++ mx.toList)
  | .sliceArr _ _ x lo hi mx => x :: (lo.toList ++ hi.toList ++ mx.toList)
  | .fieldAddr _ x => [x]
  | .field1 _ x => [x]
  | .fieldN _ _ x => [x]
  | .idxAddr _ x i => [x, i]
  | .idxArr _ _ x i => [x, i]
  | .idxStr x i => [x, i]
  | .idxAgg _ x i => [x, i]
  | .extract x _ => [x]
  | .lenStr x => [x]
  | .lenSl x => [x]
  | .capSl x => [x]
  | .append _ _ x y => [x, y]
  | .appendStr x y => [x, y]
  | .appendZ _ _ x n => [x, n]
  | .minmax _ xs => xs
  | .assert _ _ x => [x]
  | .rangeStr x => [x]
  | .nextStr x => [x]
  | .idxByte x y => [x, y]
  | .ext _ l => l
  | .call _ l => l
  | .callP _ _ l => l
  | .callQ _ _ l => l
  | .callV f l => f :: l
  | .dfr f l => f :: l
  | .panic x => [x]
  | .recover => []
section
variable {ρ ρ' : Opd → Option AV} {H : Heap}
theorem fillA_congr : ∀ (ps : List (Nat × Nat × Opd)) (c : List AV), (∀ x ∈ ps.map (·.2.2), ρ x = ρ' x) → fillA ρ c ps = fillA ρ' c ps
  | [], _, _ => rfl
  | (off, sz, x) :: ps, c, h => by
    simp only [fillA, h x (by simp)]
    cases ρ' x with
    | none => rfl
    | some v =>
      simp only
      split
      · exact fillA_congr ps _ fun y hy => h y (by simp only [List.map_cons, List.mem_cons]; exact .inr hy)
      · rfl
theorem minmaxA_congr (mx : Bool) : ∀ (xs : List Opd) (v : AV), (∀ x ∈ xs, ρ x = ρ' x) → minmaxA mx ρ v xs = minmaxA mx ρ' v xs
  | [], v, _ => by cases v <;> rfl
  | x :: xs, v, h => by
    cases v <;> simp only [minmaxA]
    rw [h x (by simp)]
    cases ρ' x with
    | none => rfl
    | some u =>
      cases u <;> simp only
      exact minmaxA_congr mx xs _ fun y hy => h y (List.mem_cons_of_mem _ hy)
theorem mapM_congr : ∀ (xs : List Opd), (∀ x ∈ xs, ρ x = ρ' x) → xs.mapM ρ = xs.mapM ρ'
  | [], _ => rfl
  | x :: xs, h => by
    simp only [List.mapM_cons]
    rw [h x (by simp), mapM_congr xs fun y hy => h y (List.mem_cons_of_mem _ hy)]
theorem bnd_congr {y d : Nat} {x : Option Opd} (h : ∀ z ∈ x.toList, ρ z = ρ' z) : bnd ρ y x d = bnd ρ' y x d := by
  cases x with
  | none => rfl
  | some x => simp only [bnd, h x (by simp)]
theorem evOp_congr {c : COp} (h : ∀ x ∈ c.opds, ρ x = ρ' x) : evOp ρ H c = evOp ρ' H c := by
  cases c
  case build z ps => simp only [evOp, fillA_congr ps z h]
  case lit z n ps => simp only [evOp, fillA_congr ps z h]
  case mkFn f l => simp only [evOp, mapM_congr l h]
  case ext k l => simp only [evOp, mapM_congr l h]
  case minmax mx xs =>
    cases xs with
    | nil => rfl
    | cons x xs =>
      simp only [evOp]
      rw [h x (by simp [COp.opds])]
      cases ρ' x with
      | none => rfl
      | some v => simp only; rw [minmaxA_congr mx xs v fun y hy => h y (by simp [COp.opds, hy])]
  case sliceStr x lo hi =>
    have h1 : ∀ y d, bnd ρ y lo d = bnd ρ' y lo d := fun y d => bnd_congr fun z hz => h z (by simp only [COp.opds, List.mem_cons, List.mem_append]; exact .inr (.inl hz))
    have h2 : ∀ y d, bnd ρ y hi d = bnd ρ' y hi d := fun y d => bnd_congr fun z hz => h z (by simp only [COp.opds, List.mem_cons, List.mem_append]; exact .inr (.inr hz))
    simp only [evOp, h x (by simp [COp.opds]), h1, h2]
  case sliceSl sz x lo hi mx =>
    have h1 : ∀ y d, bnd ρ y lo d = bnd ρ' y lo d := fun y d => bnd_congr fun z hz => h z (by simp only [COp.opds, List.mem_cons, List.mem_append]; exact .inr (.inl (.inl hz)))
    have h2 : ∀ y d, bnd ρ y hi d = bnd ρ' y hi d := fun y d => bnd_congr fun z hz => h z (by simp only [COp.opds, List.mem_cons, List.mem_append]; exact .inr (.inl (.inr hz)))
    have h3 : ∀ y d, bnd ρ y mx d = bnd ρ' y mx d := fun y d => bnd_congr fun z hz => h z (by simp only [COp.opds, List.mem_cons, List.mem_append]; exact .inr (.inr hz))
    simp only [evOp, h x (by simp [COp.opds]), h1, h2, h3]
  case sliceArr n sz x lo hi mx =>
    have h1 : ∀ y d, bnd ρ y lo d = bnd ρ' y lo d := fun y d => bnd_congr fun z hz => h z (by simp only [COp.opds, List.mem_cons, List.mem_append]; exact .inr (.inl (.inl hz)))
    have h2 : ∀ y d, bnd ρ y hi d = bnd ρ' y hi d := fun y d => bnd_congr fun z hz => h z (by simp only [COp.opds, List.mem_cons, List.mem_append]; exact .inr (.inl (.inr hz)))
    have h3 : ∀ y d, bnd ρ y mx d = bnd ρ' y mx d := fun y d => bnd_congr fun z hz => h z (by simp only [COp.opds, List.mem_cons, List.mem_append]; exact .inr (.inr hz))
    simp only [evOp, h x (by simp [COp.opds]), h1, h2, h3]
  case pick c a b => simp only [evOp, h c (by simp [COp.opds]), h a (by simp [COp.opds]), h b (by simp [COp.opds])]
  case call => rfl
  case callP => rfl
  case callQ => rfl
  case callV => rfl
  case dfr => rfl
  case panic => rfl
  case recover => rfl
  case alloc => rfl
  all_goals (simp only [COp.opds, List.forall_mem_cons, List.not_mem_nil, false_implies, implies_true, and_true] at h; first | (simp only [evOp, h]; done) | (simp only [evOp, h.1, h.2]; done))
end
end Go.Ev
