/- Code runs in the model as on the abstract machine. -/
import Derived.Test.YtimbiogcllmalaaDoorEvM
namespace Go.Ev
open Go Go.RowKit

def CtlR (ι : Plan) : Ctl → Exit → Prop
  | .normal, e => e = .normal
  | .exit i, e => e = .exit i
  | .ret, e => e = .ret
  | .panic ch, e => ∃ l, e = .panic l ∧ ChR ι ch l

def chkOps (X : Cx) (ops : Array Oper) : List Oper → List Cop → Bool
  | [], [] => true
  | o :: l, c :: m => chkCop X ops o c && chkOps X ops l m
  | _, _ => false

section
variable {X : Cx} {ι : Plan} {B : Nat} {κ : CallKind} {cs0 cs : List Frame} {w : World} {a : Act} {σ : St} {ops : Array Oper}
  {call : FuncId → List AV → Heap → Option (End × Heap)}

/-- What a piece of code comes to, from the items that are left to do. -/
def Comes2 (X : Cx) (B : Nat) (κ : CallKind) (cs0 : List Frame) (ι : Plan) (w : World) (m : Machine) (b : Frame) (k : List Item) (ctl : Ctl) (σ' : St) : Prop :=
  ∃ ι' e a' cs' w', ι.le ι' ∧ Below B w w' ∧ SR X B κ cs0 ι' σ' a' cs' w' ∧ CtlR ι' ctl e ∧ Arrives X.P m b k cs' e a' w'

theorem Comes2.of_steps {m m1 : Machine} {b : Frame} {k : List Item} {ctl : Ctl} {σ' : St} {ι1 : Plan} {w1 : World} (h : Steps X.P m m1) (hle : ι.le ι1) (hB : Below B w w1) (h' : Comes2 X B κ cs0 ι1 w1 m1 b k ctl σ') : Comes2 X B κ cs0 ι w m b k ctl σ' := by
  obtain ⟨ι', e, a', cs', w', h1, h2, h3, h4, h5⟩ := h'
  exact ⟨ι', e, a', cs', w', Plan.le_trans hle h1, hB.trans h2, h3, h4, .of_steps h h5⟩

/-- A region in the order of its text. -/
theorem ops_sound (hcall : CallOK X.P B call) (b : Frame) (k : List Item) (hb : b.kind = κ) : ∀ (cl : List Cop) (l : List Oper) (i : Nat) (ι : Plan) (σ σ' : St) (a : Act) (cs : List Frame) (w : World) (ctl : Ctl),
    (∀ j, l[j]? = ops[i + j]?) → chkOps X ops l cl = true → SR X B κ cs0 ι σ a cs w → evOps call cl σ = some (ctl, σ') →
    Comes2 X B κ cs0 ι w (lone (b.at a (.inRegion ops (List.range' i l.length) :: k)) cs w) b k ctl σ'
  | [], l, i, ι, σ, σ', a, cs, w, ctl, hl, hc, h, hev => by
    cases l with
    | cons _ _ => simp [chkOps] at hc
    | nil =>
      simp only [evOps, Option.some.injEq, Prod.mk.injEq] at hev
      obtain ⟨rfl, rfl⟩ := hev
      exact ⟨ι, .normal, a, cs, w, ι.le_refl, Below.refl _ _, h, rfl, .one step_region_end⟩
  | c :: cl, l, i, ι, σ, σ', a, cs, w, ctl, hl, hc, h, hev => by
    cases l with
    | nil => simp [chkOps] at hc
    | cons o l =>
      simp only [chkOps, Bool.and_eq_true] at hc
      have ho : ops[i]? = some o := by have := hl 0; simpa using this.symm
      have hl' : ∀ j, l[j]? = ops[i + 1 + j]? := fun j => by have := hl (j + 1); simpa [Nat.add_assoc, Nat.add_comm 1 j] using this
      simp only [List.length_cons, List.range'_succ]
      simp only [evOps] at hev
      have hcop := hc.1
      split at hev
      · cases hev
      · rename_i hwant
        have hw := guard_sound h.env h.size (by simp only [chkCop, Bool.and_eq_true] at hcop; exact hcop.2) hwant
        have hs := step_op_skip (P := X.P) (b := b) (a := a) (k := k) (cs := cs) (w := w) (ops := ops) (i := i) (rest := List.range' (i + 1) l.length) (by simp [ho, hw])
        simp only [ho, Option.bind_some] at hs
        exact .of_steps (.one hs) ι.le_refl (Below.refl _ _) (ops_sound hcall b k hb cl l (i + 1) ι _ σ' _ cs w ctl hl' hc.2 (h.put (by simp only [chkCop, Bool.and_eq_true] at hcop; exact hcop.1.1) (VR.undef ι)) hev)
      · rename_i hwant
        have hw := guard_sound h.env h.size (by simp only [chkCop, Bool.and_eq_true] at hcop; exact hcop.2) hwant
        split at hev
        · cases hev
        · rename_i v H' hop
          obtain ⟨ι1, a1, w1, h1, h2, h3, h4⟩ := op_step (rest := List.range' (i + 1) l.length) hcall h ho hw hcop hop b k hb
          exact .of_steps h3 h1 h2 (ops_sound hcall b k hb cl l (i + 1) ι1 _ σ' a1 cs w1 ctl hl' hc.2 h4 hev)
        · rename_i ch H' hop
          simp only [Option.some.injEq, Prod.mk.injEq] at hev
          obtain ⟨rfl, rfl⟩ := hev
          obtain ⟨ι1, l1, w1, todo, h1, h2, h3, h4, h5⟩ := op_step (rest := List.range' (i + 1) l.length) hcall h ho hw hcop hop b k hb
          exact ⟨ι1, .panic l1, a, cs, w1, h1, h2, h5, ⟨l1, rfl, h4⟩, todo, h3⟩
        · rename_i f args hop
          obtain ⟨a1, h3, h4⟩ := op_step (rest := List.range' (i + 1) l.length) hcall h ho hw hcop hop b k hb
          exact .of_steps h3 ι.le_refl (Below.refl _ _) (ops_sound hcall b k hb cl l (i + 1) ι _ σ' a1 cs w ctl hl' hc.2 h4 hev)
        · rename_i v u hop
          obtain ⟨a1, cs1, h3, h4⟩ := op_step (rest := List.range' (i + 1) l.length) hcall h ho hw hcop hop b k hb
          exact .of_steps h3 ι.le_refl (Below.refl _ _) (ops_sound hcall b k hb cl l (i + 1) ι _ σ' a1 cs1 w ctl hl' hc.2 h4 hev)

/-- A region that draws its order: what must be shown of it (elsewhere). -/
def DrawnOK (X : Cx) (B : Nat) (chkD : Array Oper → List DCop → Bool) (call : FuncId → List AV → Heap → Option (End × Heap)) : Prop :=
  ∀ (ops : Array Oper) (cl : List DCop) (id : Nat), chkD ops cl = true → ∀ (κ : CallKind) (cs0 : List Frame) (ι : Plan) (σ σ' : St) (a : Act) (cs : List Frame) (w : World) (ctl : Ctl), SR X B κ cs0 ι σ a cs w → evOpsD call cl 0 [] { σ with t := [] } = some (ctl, σ') →
    ∀ (b : Frame) (k : List Item), b.kind = κ → Comes2 X B κ cs0 ι w (lone (b.at a (.code (.region id ops true) :: k)) cs w) b k ctl σ'

def chkCode (X : Cx) (chkD : Array Oper → List DCop → Bool) : Code → CCode → Bool
  | .skip, .skip => true
  | .region _ ops d, .reg cl => !d && chkOps X ops ops.toList cl
  | .region _ ops d, .dreg cl => d && chkD ops cl
  | .seq x y, .seq x' y' => chkCode X chkD x x' && chkCode X chkD y y'
  | .cond c x y, .cond c' x' y' => chkOpd X c c' && chkCode X chkD x x' && chkCode X chkD y y'
  | .block id x, .block id' _ x' => id == id' && chkCode X chkD x x'
  | .loop x, .loop _ x' => chkCode X chkD x x'
  | .exit id, .exit id' => id == id'
  | .ret, .ret => true
  | _, _ => false

theorem code_sound {chkD : Array Oper → List DCop → Bool} (hcall : CallOK X.P B call) (hdr : DrawnOK X B chkD call) (n : Nat) : ∀ (cc : CCode) (c : Code) (κ : CallKind) (cs0 : List Frame) (ι : Plan) (σ σ' : St) (a : Act) (cs : List Frame) (w : World) (ctl : Ctl),
    chkCode X chkD c cc = true → SR X B κ cs0 ι σ a cs w → evCode call n cc σ = some (ctl, σ') → ∀ (b : Frame) (k : List Item), b.kind = κ →
    Comes2 X B κ cs0 ι w (lone (b.at a (.code c :: k)) cs w) b k ctl σ'
  | .skip, c, κ, cs0, ι, σ, σ', a, cs, w, ctl, hc, h, hev, b, k, hb => by
    cases c <;> simp only [chkCode, Bool.false_eq_true] at hc
    simp only [evCode, Option.some.injEq, Prod.mk.injEq] at hev
    obtain ⟨rfl, rfl⟩ := hev
    exact ⟨ι, .normal, a, cs, w, ι.le_refl, Below.refl _ _, h, rfl, .one step_skip⟩
  | .exit id, c, κ, cs0, ι, σ, σ', a, cs, w, ctl, hc, h, hev, b, k, hb => by
    cases c <;> simp only [chkCode, Bool.false_eq_true, beq_iff_eq] at hc
    subst hc
    simp only [evCode, Option.some.injEq, Prod.mk.injEq] at hev
    obtain ⟨rfl, rfl⟩ := hev
    exact ⟨ι, .exit _, a, cs, w, ι.le_refl, Below.refl _ _, h, rfl, fun _ hk => .one (step_exit hk)⟩
  | .ret, c, κ, cs0, ι, σ, σ', a, cs, w, ctl, hc, h, hev, b, k, hb => by
    cases c <;> simp only [chkCode, Bool.false_eq_true] at hc
    simp only [evCode, Option.some.injEq, Prod.mk.injEq] at hev
    obtain ⟨rfl, rfl⟩ := hev
    exact ⟨ι, .ret, a, cs, w, ι.le_refl, Below.refl _ _, h, rfl, _, .one step_ret⟩
  | .reg cl, c, κ, cs0, ι, σ, σ', a, cs, w, ctl, hc, h, hev, b, k, hb => by
    cases c <;> simp only [chkCode, Bool.false_eq_true, Bool.and_eq_true, Bool.not_eq_true'] at hc
    obtain ⟨rfl, hc⟩ := hc
    rename_i id ops
    simp only [evCode] at hev
    have := ops_sound (ops := ops) hcall b k hb cl ops.toList 0 ι _ σ' a cs w ctl (fun j => by simp) hc h.fresh hev
    refine .of_steps (.one step_region) ι.le_refl (Below.refl _ _) ?_
    rw [show List.range ops.size = List.range' 0 ops.toList.length from by rw [List.range_eq_range']; simp]
    exact this
  | .dreg cl, c, κ, cs0, ι, σ, σ', a, cs, w, ctl, hc, h, hev, b, k, hb => by
    cases c <;> simp only [chkCode, Bool.false_eq_true, Bool.and_eq_true] at hc
    obtain ⟨rfl, hc⟩ := hc
    simp only [evCode] at hev
    exact hdr _ cl _ hc κ cs0 ι σ σ' a cs w ctl h hev b k hb
  | .seq x y, c, κ, cs0, ι, σ, σ', a, cs, w, ctl, hc, h, hev, b, k, hb => by
    cases c <;> simp only [chkCode, Bool.false_eq_true, Bool.and_eq_true] at hc
    rename_i x0 y0
    simp only [evCode] at hev
    split at hev
    · rename_i σ1 hx
      obtain ⟨ι1, e, a1, cs1, w1, h1, h2, h3, rfl, h5⟩ := code_sound hcall hdr n x x0 κ cs0 ι σ σ1 a cs w .normal hc.1 h hx b (.code y0 :: k) hb
      exact .of_steps (.head step_seq h5) h1 h2 (code_sound hcall hdr n y y0 κ cs0 ι1 σ1 σ' a1 cs1 w1 ctl hc.2 h3 hev b k hb)
    · rename_i hne
      obtain ⟨ι1, e, a1, cs1, w1, h1, h2, h3, h4, h5⟩ := code_sound hcall hdr n x x0 κ cs0 ι σ σ' a cs w ctl hc.1 h hev b (.code y0 :: k) hb
      refine ⟨ι1, e, a1, cs1, w1, h1, h2, h3, h4, .of_steps (.one step_seq) (.pass (x := .code y0) rfl (fun _ _ => .inl ?_) h5)⟩
      intro he; subst he
      cases ctl with
      | normal => exact hne σ' hev
      | exit i => cases h4
      | ret => cases h4
      | panic ch => obtain ⟨l, hl, _⟩ := h4; cases hl
  | .cond c' x y, c, κ, cs0, ι, σ, σ', a, cs, w, ctl, hc, h, hev, b, k, hb => by
    cases c <;> simp only [chkCode, Bool.false_eq_true, Bool.and_eq_true] at hc
    obtain ⟨⟨hcc, hx⟩, hy⟩ := hc
    simp only [evCode] at hev
    split at hev
    · rename_i hr
      have hv : a.eval _ = .bool true := rho_sound h.env hcc hr
      refine .of_steps (.one (step_cond hv)) ι.le_refl (Below.refl _ _) ?_
      exact code_sound hcall hdr n x _ κ cs0 ι σ σ' a cs w ctl hx h hev b k hb
    · rename_i hr
      have hv : a.eval _ = .bool false := rho_sound h.env hcc hr
      refine .of_steps (.one (step_cond hv)) ι.le_refl (Below.refl _ _) ?_
      exact code_sound hcall hdr n y _ κ cs0 ι σ σ' a cs w ctl hy h hev b k hb
    · cases hev
  | .block id live x, c, κ, cs0, ι, σ, σ', a, cs, w, ctl, hc, h, hev, b, k, hb => by
    cases c <;> simp only [chkCode, Bool.false_eq_true, Bool.and_eq_true, beq_iff_eq] at hc
    rename_i id' x0
    obtain ⟨rfl, hc⟩ := hc
    simp only [evCode] at hev
    split at hev
    · rename_i σ1 hx
      simp only [Option.some.injEq, Prod.mk.injEq] at hev
      obtain ⟨rfl, rfl⟩ := hev
      obtain ⟨ι1, e, a1, cs1, w1, h1, h2, h3, rfl, h5⟩ := code_sound hcall hdr n x x0 κ cs0 ι σ σ1 a cs w .normal hc h hx b (.inBlock id' :: k) hb
      exact ⟨ι1, .normal, a1, cs1, w1, h1, h2, h3.keep live, rfl, .head step_block (Steps.trans h5 (.one step_inBlock))⟩
    · rename_i i σ1 hx
      obtain ⟨ι1, e, a1, cs1, w1, h1, h2, h3, rfl, h5⟩ := code_sound hcall hdr n x x0 κ cs0 ι σ σ1 a cs w (.exit i) hc h hx b (.inBlock id' :: k) hb
      split at hev
      · rename_i hi
        simp only [Option.some.injEq, Prod.mk.injEq] at hev
        obtain ⟨rfl, rfl⟩ := hev
        exact ⟨ι1, .normal, a1, cs1, w1, h1, h2, h3.keep live, rfl, .head step_block (h5 k (by simp [exitTo, hi]))⟩
      · rename_i hi
        simp only [Option.some.injEq, Prod.mk.injEq] at hev
        obtain ⟨rfl, rfl⟩ := hev
        refine ⟨ι1, .exit i, a1, cs1, w1, h1, h2, h3, rfl, fun k' hk => .head step_block (h5 k' ?_)⟩
        have : (id' == i) = false := by simp; exact fun h => hi h.symm
        simp [exitTo, this, hk]
    · rename_i hne1 hne2
      obtain ⟨ι1, e, a1, cs1, w1, h1, h2, h3, h4, h5⟩ := code_sound hcall hdr n x x0 κ cs0 ι σ σ' a cs w ctl hc h hev b (.inBlock id' :: k) hb
      cases ctl with
      | normal => exact absurd hev (hne1 σ')
      | exit i => exact absurd hev (hne2 i σ')
      | ret =>
        have he : e = .ret := h4
        subst he
        exact ⟨ι1, .ret, a1, cs1, w1, h1, h2, h3, rfl, .of_steps (.one step_block) h5⟩
      | panic ch =>
        obtain ⟨l, rfl, hl⟩ := h4
        exact ⟨ι1, .panic l, a1, cs1, w1, h1, h2, h3, ⟨l, rfl, hl⟩, .of_steps (.one step_block) h5⟩
  | .loop live x, c, κ, cs0, ι, σ, σ', a, cs, w, ctl, hc, h, hev, b, k, hb => by
    cases c <;> simp only [chkCode, Bool.false_eq_true] at hc
    rename_i x0
    simp only [evCode] at hev
    have key : ∀ (m : Nat) (ι : Plan) (σ : St) (a : Act) (cs : List Frame) (w : World), SR X B κ cs0 ι σ a cs w → loopA (evCode call n x) live m σ = some (ctl, σ') →
        Comes2 X B κ cs0 ι w (lone (b.at a (.code x0 :: .inLoop x0 :: k)) cs w) b k ctl σ' := by
      intro m
      induction m with
      | zero => intro ι σ a cs w h hev; cases hev
      | succ m ih =>
        intro ι σ a cs w h hev
        simp only [loopA] at hev
        split at hev
        · rename_i σ1 hx
          obtain ⟨ι1, e, a1, cs1, w1, h1, h2, h3, rfl, h5⟩ := code_sound hcall hdr n x x0 κ cs0 ι _ σ1 a cs w .normal hc (h.keep live) hx b (.inLoop x0 :: k) hb
          exact .of_steps (Steps.trans h5 (.one step_inLoop)) h1 h2 (ih ι1 σ1 a1 cs1 w1 h3 hev)
        · rename_i hne
          obtain ⟨ι1, e, a1, cs1, w1, h1, h2, h3, h4, h5⟩ := code_sound hcall hdr n x x0 κ cs0 ι _ σ' a cs w ctl hc (h.keep live) hev b (.inLoop x0 :: k) hb
          refine ⟨ι1, e, a1, cs1, w1, h1, h2, h3, h4, .pass (x := .inLoop x0) rfl (fun _ _ => .inl ?_) h5⟩
          intro he; subst he
          cases ctl with
          | normal => exact hne σ' hev
          | exit i => cases h4
          | ret => cases h4
          | panic ch => obtain ⟨l, hl, _⟩ := h4; cases hl
    exact .of_steps (.one step_loop) ι.le_refl (Below.refl _ _) (key n ι σ a cs w h hev)
end
end Go.Ev
