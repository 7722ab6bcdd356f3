/- What the abstract machine comes to, with the fuel hidden: one rule for each form of code. -/
import Derived.Test.YtifhmogcdgfojaaGreatDoorT15
set_option linter.unusedSimpArgs false
set_option linter.unusedVariables false
namespace Go.Ev
open Go

abbrev CallF := FuncId → List AV → Heap → Option (End × Heap)
def CallF.le (a b : CallF) : Prop := ∀ f l H r, a f l H = some r → b f l H = some r

theorem map_mono {α β : Type} {a b : Option α} {f : α → β} (h : ∀ r, a = some r → b = some r) : ∀ r, a.map f = some r → b.map f = some r := by
  intro r hr
  cases a with
  | none => cases hr
  | some x => rw [h x rfl]; exact hr

theorem evOp1_mono {a b : CallF} (h : a.le b) (σ : St) (op : COp) : ∀ r, evOp1 a σ op = some r → evOp1 b σ op = some r := by
  intro r hr
  cases op
  case call f args =>
    simp only [evOp1] at hr ⊢
    split at hr
    · exact map_mono (h _ _ _) _ hr
    · cases hr
  case callP g f args =>
    simp only [evOp1] at hr ⊢
    split at hr
    · split at hr
      · rename_i hfl
        rw [if_pos hfl]
        split at hr
        · rename_i heq
          rw [h _ _ _ _ heq]; exact hr
        · cases hr
      · cases hr
    · cases hr
  case callQ g f args =>
    simp only [evOp1] at hr ⊢
    split at hr
    · split at hr
      · rename_i hfl
        rw [if_pos hfl]
        split at hr
        · rename_i heq
          rw [h _ _ _ _ heq]; exact hr
        · cases hr
      · cases hr
    · cases hr
  case callV x args =>
    simp only [evOp1] at hr ⊢
    split at hr
    · split at hr
      · exact map_mono (h _ _ _) _ hr
      · cases hr
    · cases hr
  all_goals exact hr

theorem evOps_mono {a b : CallF} (h : a.le b) : ∀ (ops : List Cop) (σ : St) (r), evOps a ops σ = some r → evOps b ops σ = some r
  | [], σ, r, hr => hr
  | o :: l, σ, r, hr => by
    simp only [evOps] at hr ⊢
    split at hr
    · cases hr
    · exact evOps_mono h l _ r hr
    · split at hr
      · cases hr
      · rename_i heq; rw [evOp1_mono h _ _ _ heq]; exact evOps_mono h l _ r hr
      · rename_i heq; rw [evOp1_mono h _ _ _ heq]; exact hr
      · rename_i heq; rw [evOp1_mono h _ _ _ heq]; exact evOps_mono h l _ r hr
      · rename_i heq; rw [evOp1_mono h _ _ _ heq]; exact evOps_mono h l _ r hr

theorem evOpsD_mono {a b : CallF} (h : a.le b) : ∀ (ops : List DCop) (k : Nat) (lg : List (Nat × LogE)) (σ : St) (r), evOpsD a ops k lg σ = some r → evOpsD b ops k lg σ = some r
  | [], k, lg, σ, r, hr => hr
  | o :: l, k, lg, σ, r, hr => by
    simp only [evOpsD] at hr ⊢
    split at hr
    · cases hr
    · exact evOpsD_mono h l _ _ _ r hr
    · split at hr
      · rename_i heq; rw [evOp1_mono h _ _ _ heq]; dsimp only
        split at hr
        · rename_i hc; rw [if_pos hc]; exact evOpsD_mono h l _ _ _ r hr
        · cases hr
      · cases hr

theorem loopA_mono {s t : St → Option (Ctl × St)} (h : ∀ σ r, s σ = some r → t σ = some r) {live : List Nat} : ∀ {n m : Nat} (_ : n ≤ m) (σ : St) (r), loopA s live n σ = some r → loopA t live m σ = some r
  | 0, _, _, _, _, hr => by cases hr
  | n + 1, 0, hm, _, _, _ => by omega
  | n + 1, m + 1, hm, σ, r, hr => by
    simp only [loopA] at hr ⊢
    split at hr
    · rename_i heq; rw [h _ _ heq]; exact loopA_mono h (by omega) _ r hr
    · rename_i hne
      rw [h _ _ hr]
      split
      · rename_i x σ' heq
        injection heq with heq; subst heq
        exact absurd hr (hne _)
      · rfl

theorem evCode_mono {a b : CallF} (h : a.le b) {n m : Nat} (hn : n ≤ m) : ∀ (c : CCode) (σ : St) (r), evCode a n c σ = some r → evCode b m c σ = some r
  | .skip, _, _, hr => hr
  | .reg ops, σ, r, hr => evOps_mono h ops _ r hr
  | .dreg ops, σ, r, hr => evOpsD_mono h ops _ _ _ r hr
  | .seq x y, σ, r, hr => by
    simp only [evCode] at hr ⊢
    split at hr
    · rename_i heq; rw [evCode_mono h hn x _ _ heq]; exact evCode_mono h hn y _ r hr
    · rename_i hne
      rw [evCode_mono h hn x _ _ hr]
      split
      · rename_i x σ' heq
        injection heq with heq; subst heq
        exact absurd hr (hne _)
      · rfl
  | .cond c x y, σ, r, hr => by
    simp only [evCode] at hr ⊢
    split at hr
    · exact evCode_mono h hn x _ r hr
    · exact evCode_mono h hn y _ r hr
    · cases hr
  | .block id live x, σ, r, hr => by
    simp only [evCode] at hr ⊢
    split at hr
    · rename_i heq; rw [evCode_mono h hn x _ _ heq]; exact hr
    · rename_i heq; rw [evCode_mono h hn x _ _ heq]; exact hr
    · rename_i h1 h2
      rw [evCode_mono h hn x _ _ hr]
      split
      · rename_i x σ' heq
        injection heq with heq; subst heq
        exact absurd hr (h1 _)
      · rename_i i σ' heq
        injection heq with heq; subst heq
        exact absurd hr (h2 _ _)
      · rfl
  | .loop live x, σ, r, hr => loopA_mono (evCode_mono h hn x) hn σ r hr
  | .exit _, _, _, hr => hr
  | .ret, _, _, hr => hr

theorem evFnD_mono {C : FuncId → Option CFunc} {a b : CallF} (h : a.le b) {n m : Nat} (hn : n ≤ m) (f : FuncId) (args : List AV) (u : Up) (H : Heap) : ∀ r, evFnD C a n f args u H = some r → evFnD C b m f args u H = some r := by
  intro r hr
  simp only [evFnD] at hr ⊢
  split at hr
  · cases hr
  · split at hr
    · rename_i hc; rw [if_pos hc]
      split at hr
      · rename_i heq; rw [evCode_mono h hn _ _ _ heq]; exact hr
      · rename_i heq; rw [evCode_mono h hn _ _ _ heq]; exact hr
      · rename_i heq; rw [evCode_mono h hn _ _ _ heq]; exact hr
      · cases hr
    · cases hr

theorem runDfr_mono {c d : FuncId → List AV → Up → Heap → Option (End × Up × Heap)} (h : ∀ f a u H r, c f a u H = some r → d f a u H = some r) {rs : List CRes} {p : List (Nat × AV)} : ∀ (ds : List (FuncId × List AV)) (u : Up) (H : Heap) (r), runDfr c rs p ds u H = some r → runDfr d rs p ds u H = some r
  | [], .ret, _, _, hr => hr
  | [], .pan _, _, _, hr => hr
  | [], .norm, _, _, hr => hr
  | (f, a) :: ds, u, H, r, hr => by
    simp only [runDfr] at hr ⊢
    split at hr
    · rename_i heq; rw [h _ _ _ _ _ heq]; exact runDfr_mono h ds _ _ r hr
    · rename_i heq; rw [h _ _ _ _ _ heq]; exact runDfr_mono h ds _ _ r hr
    · cases hr

theorem evStep_mono {C : FuncId → Option CFunc} {a b : CallF} (h : a.le b) {n m : Nat} (hn : n ≤ m) : CallF.le (evStep C a n) (evStep C b m) := by
  intro f args H r hr
  simp only [evStep] at hr ⊢
  split at hr
  · cases hr
  · split at hr
    · rename_i hc; rw [if_pos hc]
      split at hr
      · rename_i heq; rw [evCode_mono h hn _ _ _ heq]; exact runDfr_mono (evFnD_mono h hn) _ _ _ r hr
      · rename_i heq; rw [evCode_mono h hn _ _ _ heq]; exact runDfr_mono (evFnD_mono h hn) _ _ _ r hr
      · rename_i heq; rw [evCode_mono h hn _ _ _ heq]; exact runDfr_mono (evFnD_mono h hn) _ _ _ r hr
      · cases hr
    · cases hr

/-- A table of functions, and calls whose answer is known. -/
structure Mach where
  C : FuncId → Option CFunc
  ov : CallF

def evT (M : Mach) : Nat → CallF
  | 0 => M.ov
  | n + 1 => orCall M.ov (evStep M.C (evT M n) n)

theorem evT_le1 (M : Mach) : ∀ n, (evT M n).le (evT M (n + 1))
  | 0 => fun f l H r h => by simp only [evT] at h ⊢; simp only [orCall, h]
  | n + 1 => fun f l H r h => by
    rw [evT] at h ⊢
    simp only [orCall] at h ⊢
    split at h
    · exact h
    · exact evStep_mono (evT_le1 M n) (by omega) _ _ _ _ h
theorem evT_le (M : Mach) {n m : Nat} (h : n ≤ m) : (evT M n).le (evT M m) := by
  induction h with
  | refl => exact fun _ _ _ _ h => h
  | step _ ih => exact fun f l H r h => evT_le1 M _ _ _ _ _ (ih _ _ _ _ h)

theorem evT_ok {P : Program} {B : Nat} {chkD} {M : Mach} (hC : Table P chkD M.C) (hD : ∀ B, DrawnAll P B chkD) (hov : CallOK P B M.ov) : ∀ n, CallOK P B (evT M n)
  | 0 => hov
  | n + 1 => hov.or (step_sound hC hD (evT_ok hC hD hov n) n)

section
variable (M : Mach)
def wpc (c : CCode) (σ : St) (Q : Ctl → St → Prop) : Prop := ∃ N k σ', evCode (evT M N) N c σ = some (k, σ') ∧ Q k σ'
def wpo (ops : List Cop) (σ : St) (Q : Ctl → St → Prop) : Prop := ∃ N k σ', evOps (evT M N) ops σ = some (k, σ') ∧ Q k σ'
def wpd (ops : List DCop) (i : Nat) (lg : List (Nat × LogE)) (σ : St) (Q : Ctl → St → Prop) : Prop := ∃ N k σ', evOpsD (evT M N) ops i lg σ = some (k, σ') ∧ Q k σ'
def wpl (live : List Nat) (c : CCode) (σ : St) (Q : Ctl → St → Prop) : Prop := ∃ N n k σ', loopA (evCode (evT M N) N c) live n σ = some (k, σ') ∧ Q k σ'
def wpf (f : FuncId) (args : List AV) (H : Heap) (Q : End → Heap → Prop) : Prop := ∃ N e H', evT M N f args H = some (e, H') ∧ Q e H'
def wpe (rs : List CRes) (p : List (Nat × AV)) (ds : List (FuncId × List AV)) (u : Up) (H : Heap) (Q : End → Heap → Prop) : Prop := ∃ N e H', runDfr (evFnD M.C (evT M N) N) rs p ds u H = some (e, H') ∧ Q e H'
def wpfd (f : FuncId) (args : List AV) (u : Up) (H : Heap) (Q : End → Up → Heap → Prop) : Prop := ∃ N e u' H', evFnD M.C (evT M N) N f args u H = some (e, u', H') ∧ Q e u' H'

def optA {α : Type} (x : Option α) (k : α → Prop) : Prop := match x with
  | none => False
  | some a => k a
def optB (x : Option AV) (A B : Prop) : Prop := match x with
  | some (.bool true) => A
  | some (.bool false) => B
  | _ => False
def grd (x : Option AV) (w : Bool) (A B : Prop) : Prop := match x with
  | some (.bool b) => match b == w with
    | true => A
    | false => B
  | some (.tup []) => B
  | _ => False
def optF (x : Option AV) (k : FuncId → List AV → Prop) : Prop := match x with
  | some (.fn f cap) => k f cap
  | _ => False
def optI (x : Option AV) (k : AV → Prop) : Prop := match x with
  | some (.iface t v) => k (.iface t v)
  | _ => False
def brB (b : Bool) (A B : Prop) : Prop := match b with
  | true => A
  | false => B

def seqK (b : CCode) (Q : Ctl → St → Prop) : Ctl → St → Prop
  | .normal, σ => wpc M b σ Q
  | k, σ => Q k σ
def blockK (id : Nat) (live : List Nat) (Q : Ctl → St → Prop) : Ctl → St → Prop
  | .normal, σ => Q .normal (σ.keep live)
  | .exit i, σ => if i = id then Q .normal (σ.keep live) else Q (.exit i) σ
  | k, σ => Q k σ
def loopK (live : List Nat) (c : CCode) (Q : Ctl → St → Prop) : Ctl → St → Prop
  | .normal, σ => wpl M live c σ Q
  | k, σ => Q k σ
def callK (d : Dst) (r : List Cop) (σ : St) (Q : Ctl → St → Prop) : End → Heap → Prop
  | .ret v, H => wpo M r (({ σ with H := H } : St).put d v) Q
  | .pan ch, H => Q (.panic ch) { σ with H := H }
def callPK (d : Dst) (r : List Cop) (σ : St) (Q : Ctl → St → Prop) : End → Heap → Prop
  | .ret v, _ => v.flat = true ∧ wpo M r (σ.put d v) Q
  | .pan _, _ => False
def drawK (d : DCop) (r : List DCop) (i : Nat) (lg : List (Nat × LogE)) (σ : St) (Q : Ctl → St → Prop) (v : AV) (H : Heap) : Prop :=
  d.u.all (fun i => dynOK d σ v H (lkL i lg)) = true ∧ wpd M r (i + 1) (if d.lg then (i, mkLog d σ v) :: lg else lg) (({ σ with H := H } : St).put d.c.dst v) Q
def dcallK (d : DCop) (r : List DCop) (i : Nat) (lg : List (Nat × LogE)) (σ : St) (Q : Ctl → St → Prop) : End → Heap → Prop
  | .ret v, H => drawK M d r i lg σ Q v H
  | .pan _, _ => False
def dcallPK (d : DCop) (r : List DCop) (i : Nat) (lg : List (Nat × LogE)) (σ : St) (Q : Ctl → St → Prop) : End → Heap → Prop
  | .ret v, _ => v.flat = true ∧ drawK M d r i lg σ Q v σ.H
  | .pan _, _ => False
def dcallQK (g : Nat) (d : DCop) (r : List DCop) (i : Nat) (lg : List (Nat × LogE)) (σ : St) (Q : Ctl → St → Prop) : End → Heap → Prop
  | .ret v, H1 => optA (newBs H1 g (H1.size - g)) fun bs => drawK M d r i lg σ Q (shA g σ.H.size v) (σ.H.pushAll (bs.map (shAs g σ.H.size)))
  | .pan _, _ => False
def finK (rs : List CRes) (Q : End → Heap → Prop) : Ctl → St → Prop
  | .normal, σ => wpe M rs σ.p σ.d .ret σ.H Q
  | .ret, σ => wpe M rs σ.p σ.d .ret σ.H Q
  | .panic ch, σ => wpe M rs σ.p σ.d (.pan ch) σ.H Q
  | .exit _, _ => False
def dfrK (rs : List CRes) (p : List (Nat × AV)) (ds : List (FuncId × List AV)) (Q : End → Heap → Prop) : End → Up → Heap → Prop
  | .ret _, u, H => wpe M rs p ds (settleA u) H Q
  | .pan ch, u, H => wpe M rs p ds (raisedA u ch) H Q
def dfinK (rs : List CRes) (Q : End → Up → Heap → Prop) : Ctl → St → Prop
  | .normal, σ => σ.d = [] ∧ optA (resAs σ.p σ.H rs) fun l => Q (.ret (resV l)) σ.u σ.H
  | .ret, σ => σ.d = [] ∧ optA (resAs σ.p σ.H rs) fun l => Q (.ret (resV l)) σ.u σ.H
  | .panic ch, σ => σ.d = [] ∧ Q (.pan ch) σ.u σ.H
  | .exit _, _ => False
end

section
variable {M : Mach}

-- consequence
theorem wpf_mono {f : FuncId} {a : List AV} {H : Heap} {Q R : End → Heap → Prop} (h : wpf M f a H Q) (hq : ∀ k σ', Q k σ' → R k σ') : wpf M f a H R :=
  let ⟨N, k, s, e, q⟩ := h; ⟨N, k, s, e, hq _ _ q⟩

theorem code_up {N K : Nat} (h : N ≤ K) {c : CCode} {σ : St} {r} (e : evCode (evT M N) N c σ = some r) : evCode (evT M K) K c σ = some r := evCode_mono (evT_le M h) h _ _ _ e
theorem ops_up {N K : Nat} (h : N ≤ K) {c : List Cop} {σ : St} {r} (e : evOps (evT M N) c σ = some r) : evOps (evT M K) c σ = some r := evOps_mono (evT_le M h) _ _ _ e
theorem dops_up {N K : Nat} (h : N ≤ K) {c : List DCop} {i lg} {σ : St} {r} (e : evOpsD (evT M N) c i lg σ = some r) : evOpsD (evT M K) c i lg σ = some r := evOpsD_mono (evT_le M h) _ _ _ _ _ e
theorem loop_up {N K n k : Nat} (h : N ≤ K) (hk : n ≤ k) {live : List Nat} {c : CCode} {σ : St} {r} (e : loopA (evCode (evT M N) N c) live n σ = some r) : loopA (evCode (evT M K) K c) live k σ = some r := loopA_mono (fun _ _ h' => code_up h h') hk _ _ e
theorem fn_up {N K : Nat} (h : N ≤ K) {f : FuncId} {a : List AV} {H : Heap} {r} (e : evT M N f a H = some r) : evT M K f a H = some r := evT_le M h _ _ _ _ e

-- code
theorem wpc_skip {σ : St} {Q} : wpc M .skip σ Q = Q .normal σ := propext ⟨fun ⟨_, _, _, e, q⟩ => by cases e; exact q, fun q => ⟨0, _, _, rfl, q⟩⟩
theorem wpc_ret {σ : St} {Q} : wpc M .ret σ Q = Q .ret σ := propext ⟨fun ⟨_, _, _, e, q⟩ => by cases e; exact q, fun q => ⟨0, _, _, rfl, q⟩⟩
theorem wpc_exit {i : Nat} {σ : St} {Q} : wpc M (.exit i) σ Q = Q (.exit i) σ := propext ⟨fun ⟨_, _, _, e, q⟩ => by cases e; exact q, fun q => ⟨0, _, _, rfl, q⟩⟩
theorem wpc_reg {ops : List Cop} {σ : St} {Q} : wpc M (.reg ops) σ Q = wpo M ops { σ with t := [] } Q := rfl
theorem wpc_dreg {ops : List DCop} {σ : St} {Q} : wpc M (.dreg ops) σ Q = wpd M ops 0 [] { σ with t := [] } Q := rfl
theorem wpc_seq {a b : CCode} {σ : St} {Q} : wpc M (.seq a b) σ Q = wpc M a σ (seqK M b Q) := by
  refine propext ⟨fun ⟨N, k, s, e, q⟩ => ?_, fun ⟨N, k, s, e, q⟩ => ?_⟩
  · simp only [evCode] at e
    split at e
    · rename_i s' he; exact ⟨N, _, _, he, N, k, s, e, q⟩
    · rename_i hne
      refine ⟨N, k, s, e, ?_⟩
      cases k <;> first | exact q | exact absurd e (hne _)
  · cases k with
    | normal =>
      obtain ⟨K, k', s', e', q'⟩ := q
      refine ⟨max N K, k', s', ?_, q'⟩
      simp only [evCode]
      rw [code_up (Nat.le_max_left N K) e]; exact code_up (Nat.le_max_right N K) e'
    | _ => exact ⟨N, _, s, by simp only [evCode]; rw [e], q⟩
theorem wpc_cond {c : Opd} {a b : CCode} {σ : St} {Q} : wpc M (.cond c a b) σ Q = optB (rho σ.p σ.t c) (wpc M a σ Q) (wpc M b σ Q) := by
  unfold wpc optB
  simp only [evCode]
  generalize rho σ.p σ.t c = y
  cases y with
  | none => exact propext ⟨fun ⟨_, _, _, e, _⟩ => by simp at e, False.elim⟩
  | some v => cases v with
    | bool b => cases b <;> rfl
    | _ => exact propext ⟨fun ⟨_, _, _, e, _⟩ => by simp at e, False.elim⟩
theorem wpc_block {id : Nat} {live : List Nat} {c : CCode} {σ : St} {Q} : wpc M (.block id live c) σ Q = wpc M c σ (blockK id live Q) := by
  refine propext ⟨fun ⟨N, k, s, e, q⟩ => ?_, fun ⟨N, k, s, e, q⟩ => ?_⟩
  · simp only [evCode] at e
    split at e
    · rename_i s' he; cases e; exact ⟨N, _, _, he, q⟩
    · rename_i i s' he
      refine ⟨N, _, _, he, ?_⟩
      simp only [blockK]
      split at e
      · rename_i hi; rw [if_pos hi]; cases e; exact q
      · rename_i hi; rw [if_neg hi]; cases e; exact q
    · rename_i h1 h2
      refine ⟨N, k, s, e, ?_⟩
      cases k
      · exact absurd e (h1 _)
      · exact absurd e (h2 _ _)
      · exact q
      · exact q
  · cases k with
    | normal => exact ⟨N, _, _, by simp only [evCode]; rw [e], q⟩
    | exit i =>
      simp only [blockK] at q
      split at q
      · rename_i hi; exact ⟨N, _, _, by simp only [evCode]; rw [e]; simp only [if_pos hi], q⟩
      · rename_i hi; exact ⟨N, _, _, by simp only [evCode]; rw [e]; simp only [if_neg hi], q⟩
    | ret => exact ⟨N, _, _, by simp only [evCode]; rw [e], q⟩
    | panic ch => exact ⟨N, _, _, by simp only [evCode]; rw [e], q⟩
theorem wpc_loop {live : List Nat} {c : CCode} {σ : St} {Q} : wpc M (.loop live c) σ Q = wpl M live c σ Q := by
  refine propext ⟨fun ⟨N, k, s, e, q⟩ => ⟨N, N, k, s, e, q⟩, fun ⟨N, n, k, s, e, q⟩ => ⟨max N n, k, s, ?_, q⟩⟩
  simp only [evCode]
  exact loop_up (Nat.le_max_left N n) (Nat.le_max_right N n) e
theorem wpl_step {live : List Nat} {c : CCode} {σ : St} {Q} : wpl M live c σ Q = wpc M c (σ.keep live) (loopK M live c Q) := by
  refine propext ⟨fun ⟨N, n, k, s, e, q⟩ => ?_, fun ⟨N, k, s, e, q⟩ => ?_⟩
  · cases n with
    | zero => cases e
    | succ n =>
      simp only [loopA] at e
      split at e
      · rename_i s' he; exact ⟨N, _, _, he, N, n, k, s, e, q⟩
      · rename_i hne
        refine ⟨N, k, s, e, ?_⟩
        cases k <;> first | exact q | exact absurd e (hne _)
  · cases k with
    | normal =>
      obtain ⟨K, n, k', s', e', q'⟩ := q
      refine ⟨max N K, n + 1, k', s', ?_, q'⟩
      simp only [loopA]
      rw [code_up (Nat.le_max_left N K) e]; exact loop_up (Nat.le_max_right N K) (Nat.le_refl _) e'
    | _ => exact ⟨N, 1, _, s, by simp only [loopA]; rw [e], q⟩

-- operations
def simpleX : COp → Bool
  | .ext _ _ => true
  | c => simpleC c
theorem evOp1_val {call : CallF} {σ : St} {op : COp} (h : simpleX op = true) : evOp1 call σ op = match evOp (rho σ.p σ.t) σ.H op with
    | some (v, H) => some (.val v H)
    | none => none := by
  cases op <;> first | rfl | (simp [simpleX, simpleC] at h)

theorem wpo_nil {σ : St} {Q} : wpo M [] σ Q = Q .normal σ := propext ⟨fun ⟨_, _, _, e, q⟩ => by cases e; exact q, fun q => ⟨0, _, _, rfl, q⟩⟩
theorem wpo_grd {d : Dst} {op : COp} {x : Opd} {w : Bool} {r : List Cop} {σ : St} {Q} : wpo M (⟨d, op, some (x, w)⟩ :: r) σ Q = grd (rho σ.p σ.t x) w (wpo M (⟨d, op, none⟩ :: r) σ Q) (wpo M r (σ.put d undefA) Q) := by
  unfold wpo grd
  simp only [evOps, wantedA]
  generalize rho σ.p σ.t x = y
  cases y with
  | none => exact propext ⟨fun ⟨_, _, _, e, _⟩ => by simp at e, False.elim⟩
  | some v => cases v with
    | bool b => cases hb : (b == w) <;> simp only [hb]
    | tup l => cases l with
      | nil => rfl
      | cons y l => exact propext ⟨fun ⟨_, _, _, e, _⟩ => by simp at e, False.elim⟩
    | _ => exact propext ⟨fun ⟨_, _, _, e, _⟩ => by simp at e, False.elim⟩

theorem wpo_val {d : Dst} {op : COp} {r : List Cop} {σ : St} {Q} (h : simpleX op = true) : wpo M (⟨d, op, none⟩ :: r) σ Q = optA (evOp (rho σ.p σ.t) σ.H op) fun y => wpo M r (({ σ with H := y.2 } : St).put d y.1) Q := by
  unfold wpo optA
  simp only [evOps, wantedA, evOp1_val h]
  cases evOp (rho σ.p σ.t) σ.H op with
  | none =>
    refine propext ⟨fun ⟨_, _, _, e, _⟩ => ?_, False.elim⟩
    cases e
  | some y => rfl
theorem wpo_call {d : Dst} {f : FuncId} {args : List Opd} {r : List Cop} {σ : St} {Q} : wpo M (⟨d, .call f args, none⟩ :: r) σ Q = optA (rhos σ.p σ.t args) fun l => wpf M f l σ.H (callK M d r σ Q) := by
  unfold wpo optA
  simp only [evOps, wantedA, evOp1]
  cases rhos σ.p σ.t args with
  | none =>
    refine propext ⟨fun ⟨_, _, _, e, _⟩ => ?_, False.elim⟩
    cases e
  | some l =>
    refine propext ⟨fun ⟨N, k, s, e, q⟩ => ?_, fun ⟨N, en, H, e, q⟩ => ?_⟩
    · dsimp only at e ⊢
      cases hc : evT M N f l σ.H with
      | none => rw [hc] at e; cases e
      | some y =>
        obtain ⟨en, H⟩ := y
        rw [hc] at e
        refine ⟨N, en, H, hc, ?_⟩
        cases en with
        | ret v => exact ⟨N, k, s, e, q⟩
        | pan ch => cases e; exact q
    · cases en with
      | ret v =>
        obtain ⟨K, k, s, e', q'⟩ := q
        refine ⟨max N K, k, s, ?_, q'⟩
        dsimp only
        rw [fn_up (Nat.le_max_left N K) e]; exact ops_up (Nat.le_max_right N K) e'
      | pan ch => exact ⟨N, _, _, by dsimp only; rw [e]; rfl, q⟩
theorem wpo_callV {d : Dst} {x : Opd} {args : List Opd} {r : List Cop} {σ : St} {Q} : wpo M (⟨d, .callV x args, none⟩ :: r) σ Q = optF (rho σ.p σ.t x) fun f cap => optA (rhos σ.p σ.t args) fun l => wpf M f (l ++ cap) σ.H (callK M d r σ Q) := by
  unfold optF
  split
  · rename_i f cap hx
    unfold wpo optA
    simp only [evOps, wantedA, evOp1, hx]
    cases rhos σ.p σ.t args with
    | none =>
      refine propext ⟨fun ⟨_, _, _, e, _⟩ => ?_, False.elim⟩
      cases e
    | some l =>
      refine propext ⟨fun ⟨N, k, s, e, q⟩ => ?_, fun ⟨N, en, H, e, q⟩ => ?_⟩
      · dsimp only at e ⊢
        cases hc : evT M N f (l ++ cap) σ.H with
        | none => rw [hc] at e; cases e
        | some y =>
          obtain ⟨en, H⟩ := y
          rw [hc] at e
          refine ⟨N, en, H, hc, ?_⟩
          cases en with
          | ret v => exact ⟨N, k, s, e, q⟩
          | pan ch => cases e; exact q
      · cases en with
        | ret v =>
          obtain ⟨K, k, s, e', q'⟩ := q
          refine ⟨max N K, k, s, ?_, q'⟩
          dsimp only
          rw [fn_up (Nat.le_max_left N K) e]; exact ops_up (Nat.le_max_right N K) e'
        | pan ch => exact ⟨N, _, _, by dsimp only; rw [e]; rfl, q⟩
  · rename_i hne
    refine propext ⟨fun ⟨N, k, s, e, q⟩ => ?_, False.elim⟩
    simp only [evOps, wantedA, evOp1] at e
    cases e
theorem wpo_callP {d : Dst} {g : Nat} {f : FuncId} {args : List Opd} {r : List Cop} {σ : St} {Q} : wpo M (⟨d, .callP g f args, none⟩ :: r) σ Q = optA (rhos σ.p σ.t args) fun l => AV.flats l = true ∧ wpf M f l (Heap.dead g) (callPK M d r σ Q) := by
  unfold wpo optA
  simp only [evOps, wantedA, evOp1]
  cases rhos σ.p σ.t args with
  | none =>
    refine propext ⟨fun ⟨_, _, _, e, _⟩ => ?_, False.elim⟩
    cases e
  | some l =>
    refine propext ⟨fun ⟨N, k, s, e, q⟩ => ?_, fun ⟨hf, N, en, H, e, q⟩ => ?_⟩
    · dsimp only at e ⊢
      by_cases hf : AV.flats l = true
      · rw [if_pos hf] at e
        refine ⟨hf, ?_⟩
        cases hc : evT M N f l (Heap.dead g) with
        | none => rw [hc] at e; cases e
        | some y =>
          obtain ⟨en, H⟩ := y
          rw [hc] at e
          refine ⟨N, en, H, hc, ?_⟩
          cases en with
          | ret v =>
            dsimp only at e
            by_cases hv : v.flat = true
            · rw [if_pos hv] at e; exact ⟨hv, N, k, s, e, q⟩
            · rw [if_neg hv] at e; cases e
          | pan ch => cases e
      · rw [if_neg hf] at e; cases e
    · cases en with
      | ret v =>
        obtain ⟨hv, K, k, s, e', q'⟩ := q
        refine ⟨max N K, k, s, ?_, q'⟩
        dsimp only
        rw [if_pos hf, fn_up (Nat.le_max_left N K) e]
        simp only [if_pos hv]
        exact ops_up (Nat.le_max_right N K) e'
      | pan ch => exact q.elim
theorem wpo_dfr {d : Dst} {x : Opd} {args : List Opd} {r : List Cop} {σ : St} {Q} : wpo M (⟨d, .dfr x args, none⟩ :: r) σ Q = optF (rho σ.p σ.t x) fun f cap => optA (rhos σ.p σ.t args) fun l => wpo M r (({ σ with d := (f, l ++ cap) :: σ.d } : St).put d undefA) Q := by
  unfold optF
  split
  · rename_i f cap hx
    unfold wpo optA
    simp only [evOps, wantedA, evOp1, hx]
    cases rhos σ.p σ.t args with
    | none =>
      refine propext ⟨fun ⟨_, _, _, e, _⟩ => ?_, False.elim⟩
      cases e
    | some l => rfl
  · rename_i hne
    refine propext ⟨fun ⟨N, k, s, e, q⟩ => ?_, False.elim⟩
    simp only [evOps, wantedA, evOp1] at e
    cases e
theorem wpo_panic {d : Dst} {x : Opd} {r : List Cop} {σ : St} {Q} : wpo M (⟨d, .panic x, none⟩ :: r) σ Q = optI (rho σ.p σ.t x) fun v => Q (.panic [(v, false)]) σ := by
  unfold optI
  split
  · rename_i t v hx
    unfold wpo
    simp only [evOps, wantedA, evOp1, hx]
    refine propext ⟨fun ⟨_, _, _, e, q⟩ => ?_, fun q => ⟨0, _, _, rfl, q⟩⟩
    cases e; exact q
  · rename_i hne
    refine propext ⟨fun ⟨N, k, s, e, q⟩ => ?_, False.elim⟩
    simp only [evOps, wantedA, evOp1] at e
    cases e
theorem wpo_recover_ret {d : Dst} {r : List Cop} {p t H ds Q} : wpo M (⟨d, .recover, none⟩ :: r) ⟨p, t, H, ds, .ret⟩ Q = wpo M r ((⟨p, t, H, ds, .ret⟩ : St).put d .nili) Q := rfl
theorem wpo_recover_pan {d : Dst} {r : List Cop} {p t H ds v o Q} : wpo M (⟨d, .recover, none⟩ :: r) ⟨p, t, H, ds, .pan ((v, false) :: o)⟩ Q = wpo M r ((⟨p, t, H, ds, .pan ((v, true) :: o)⟩ : St).put d v) Q := rfl

-- regions that draw their order
theorem wpd_nil {i lg} {σ : St} {Q} : wpd M [] i lg σ Q = Q .normal σ := propext ⟨fun ⟨_, _, _, e, q⟩ => by cases e; exact q, fun q => ⟨0, _, _, rfl, q⟩⟩
theorem wpd_grd {d : Dst} {op : COp} {x : Opd} {w : Bool} {l tl : Bool} {u : List Nat} {r : List DCop} {i lg} {σ : St} {Q} : wpd M (⟨⟨d, op, some (x, w)⟩, l, tl, u⟩ :: r) i lg σ Q = grd (rho σ.p σ.t x) w (wpd M (⟨⟨d, op, none⟩, l, tl, u⟩ :: r) i lg σ Q) (wpd M r (i + 1) (if l then (i, .no) :: lg else lg) (σ.put d undefA) Q) := by
  have hm : ∀ v, mkLog ⟨⟨d, op, some (x, w)⟩, l, tl, u⟩ σ v = mkLog ⟨⟨d, op, none⟩, l, tl, u⟩ σ v := fun _ => rfl
  have hd : ∀ v H e, dynOK ⟨⟨d, op, some (x, w)⟩, l, tl, u⟩ σ v H e = dynOK ⟨⟨d, op, none⟩, l, tl, u⟩ σ v H e := fun _ _ e => by cases e with
    | none => rfl
    | some e => cases e <;> rfl
  unfold wpd grd
  simp only [evOpsD, wantedA, hm, hd]
  generalize rho σ.p σ.t x = y
  cases y with
  | none => exact propext ⟨fun ⟨_, _, _, e, _⟩ => by simp at e, False.elim⟩
  | some v => cases v with
    | bool b => cases hb : (b == w) <;> simp only [hb]
    | tup l => cases l with
      | nil => rfl
      | cons y l => exact propext ⟨fun ⟨_, _, _, e, _⟩ => by simp at e, False.elim⟩
    | _ => exact propext ⟨fun ⟨_, _, _, e, _⟩ => by simp at e, False.elim⟩

theorem wpd_val {d : Dst} {op : COp} {l tl : Bool} {u : List Nat} {r : List DCop} {i lg} {σ : St} {Q} (h : simpleX op = true) : wpd M (⟨⟨d, op, none⟩, l, tl, u⟩ :: r) i lg σ Q = optA (evOp (rho σ.p σ.t) σ.H op) fun y => drawK M ⟨⟨d, op, none⟩, l, tl, u⟩ r i lg σ Q y.1 y.2 := by
  unfold wpd optA
  simp only [evOpsD, wantedA, evOp1_val h]
  cases evOp (rho σ.p σ.t) σ.H op with
  | none =>
    refine propext ⟨fun ⟨_, _, _, e, _⟩ => ?_, False.elim⟩
    cases e
  | some y =>
    dsimp only [drawK]
    refine propext ⟨fun ⟨N, k, s, e, q⟩ => ?_, fun ⟨hc, N, k, s, e, q⟩ => ?_⟩
    · split at e
      · rename_i hc; exact ⟨hc, N, k, s, e, q⟩
      · cases e
    · exact ⟨N, k, s, by rw [if_pos hc]; exact e, q⟩
theorem wpd_call {d : Dst} {f : FuncId} {args : List Opd} {l tl : Bool} {u : List Nat} {r : List DCop} {i lg} {σ : St} {Q} : wpd M (⟨⟨d, .call f args, none⟩, l, tl, u⟩ :: r) i lg σ Q = optA (rhos σ.p σ.t args) fun a => wpf M f a σ.H (dcallK M ⟨⟨d, .call f args, none⟩, l, tl, u⟩ r i lg σ Q) := by
  unfold wpd optA
  simp only [evOpsD, wantedA, evOp1]
  cases rhos σ.p σ.t args with
  | none =>
    refine propext ⟨fun ⟨_, _, _, e, _⟩ => ?_, False.elim⟩
    cases e
  | some a =>
    refine propext ⟨fun ⟨N, k, s, e, q⟩ => ?_, fun ⟨N, en, H, e, q⟩ => ?_⟩
    · dsimp only at e ⊢
      cases hc : evT M N f a σ.H with
      | none => rw [hc] at e; cases e
      | some y =>
        obtain ⟨en, H⟩ := y
        rw [hc] at e
        refine ⟨N, en, H, hc, ?_⟩
        cases en with
        | ret v =>
          simp only [Option.map_some, endOut] at e
          split at e
          · rename_i hc; exact ⟨hc, N, k, s, e, q⟩
          · cases e
        | pan ch => cases e
    · cases en with
      | ret v =>
        obtain ⟨hc, K, k, s, e', q'⟩ := q
        refine ⟨max N K, k, s, ?_, q'⟩
        dsimp only
        rw [fn_up (Nat.le_max_left N K) e]
        simp only [Option.map_some, endOut]
        rw [if_pos hc]; exact dops_up (Nat.le_max_right N K) e'
      | pan ch => exact q.elim

theorem wpd_callV {d : Dst} {x : Opd} {args : List Opd} {l tl : Bool} {u : List Nat} {r : List DCop} {i lg} {σ : St} {Q} : wpd M (⟨⟨d, .callV x args, none⟩, l, tl, u⟩ :: r) i lg σ Q = optF (rho σ.p σ.t x) fun f cap => optA (rhos σ.p σ.t args) fun a => wpf M f (a ++ cap) σ.H (dcallK M ⟨⟨d, .callV x args, none⟩, l, tl, u⟩ r i lg σ Q) := by
  unfold optF
  split
  · rename_i f cap hx
    unfold wpd optA
    simp only [evOpsD, wantedA, evOp1, hx]
    cases rhos σ.p σ.t args with
    | none =>
      refine propext ⟨fun ⟨_, _, _, e, _⟩ => ?_, False.elim⟩
      cases e
    | some a =>
      refine propext ⟨fun ⟨N, k, s, e, q⟩ => ?_, fun ⟨N, en, H, e, q⟩ => ?_⟩
      · dsimp only at e ⊢
        cases hc : evT M N f (a ++ cap) σ.H with
        | none => rw [hc] at e; cases e
        | some y =>
          obtain ⟨en, H⟩ := y
          rw [hc] at e
          refine ⟨N, en, H, hc, ?_⟩
          cases en with
          | ret v =>
            simp only [Option.map_some, endOut] at e
            split at e
            · rename_i hc; exact ⟨hc, N, k, s, e, q⟩
            · cases e
          | pan ch => cases e
      · cases en with
        | ret v =>
          obtain ⟨hc, K, k, s, e', q'⟩ := q
          refine ⟨max N K, k, s, ?_, q'⟩
          dsimp only
          rw [fn_up (Nat.le_max_left N K) e]
          simp only [Option.map_some, endOut]
          rw [if_pos hc]; exact dops_up (Nat.le_max_right N K) e'
        | pan ch => exact q.elim
  · rename_i hne
    refine propext ⟨fun ⟨N, k, s, e, q⟩ => ?_, False.elim⟩
    simp only [evOpsD, wantedA, evOp1] at e
    cases e
theorem wpd_callP {d : Dst} {g : Nat} {f : FuncId} {args : List Opd} {l tl : Bool} {u : List Nat} {r : List DCop} {i lg} {σ : St} {Q} : wpd M (⟨⟨d, .callP g f args, none⟩, l, tl, u⟩ :: r) i lg σ Q = optA (rhos σ.p σ.t args) fun a => AV.flats a = true ∧ wpf M f a (Heap.dead g) (dcallPK M ⟨⟨d, .callP g f args, none⟩, l, tl, u⟩ r i lg σ Q) := by
  unfold wpd optA
  simp only [evOpsD, wantedA, evOp1]
  cases rhos σ.p σ.t args with
  | none =>
    refine propext ⟨fun ⟨_, _, _, e, _⟩ => ?_, False.elim⟩
    cases e
  | some a =>
    refine propext ⟨fun ⟨N, k, s, e, q⟩ => ?_, fun ⟨hf, N, en, H, e, q⟩ => ?_⟩
    · dsimp only at e ⊢
      by_cases hf : AV.flats a = true
      · rw [if_pos hf] at e
        refine ⟨hf, ?_⟩
        cases hc : evT M N f a (Heap.dead g) with
        | none => rw [hc] at e; cases e
        | some y =>
          obtain ⟨en, H⟩ := y
          rw [hc] at e
          refine ⟨N, en, H, hc, ?_⟩
          cases en with
          | ret v =>
            dsimp only at e
            by_cases hv : v.flat = true
            · rw [if_pos hv] at e
              refine ⟨hv, ?_⟩
              dsimp only at e
              split at e
              · rename_i hc; exact ⟨hc, N, k, s, e, q⟩
              · cases e
            · rw [if_neg hv] at e; cases e
          | pan ch => cases e
      · rw [if_neg hf] at e; cases e
    · cases en with
      | ret v =>
        obtain ⟨hv, hc, K, k, s, e', q'⟩ := q
        refine ⟨max N K, k, s, ?_, q'⟩
        dsimp only
        rw [if_pos hf, fn_up (Nat.le_max_left N K) e]
        simp only [if_pos hv]
        rw [if_pos hc]
        exact dops_up (Nat.le_max_right N K) e'
      | pan ch => exact q.elim

theorem wpd_callQ {d : Dst} {g : Nat} {f : FuncId} {args : List Opd} {l tl : Bool} {u : List Nat} {r : List DCop} {i lg} {σ : St} {Q} : wpd M (⟨⟨d, .callQ g f args, none⟩, l, tl, u⟩ :: r) i lg σ Q = optA (rhos σ.p σ.t args) fun a => AV.flats a = true ∧ wpf M f a (Heap.dead g) (dcallQK M g ⟨⟨d, .callQ g f args, none⟩, l, tl, u⟩ r i lg σ Q) := by
  unfold wpd optA
  simp only [evOpsD, wantedA, evOp1]
  cases rhos σ.p σ.t args with
  | none =>
    refine propext ⟨fun ⟨_, _, _, e, _⟩ => ?_, False.elim⟩
    cases e
  | some a =>
    refine propext ⟨fun ⟨N, k, s, e, q⟩ => ?_, fun ⟨hf, N, en, H, e, q⟩ => ?_⟩
    · dsimp only at e ⊢
      by_cases hf : AV.flats a = true
      · rw [if_pos hf] at e
        refine ⟨hf, ?_⟩
        cases hc : evT M N f a (Heap.dead g) with
        | none => rw [hc] at e; cases e
        | some y =>
          obtain ⟨en, H⟩ := y
          rw [hc] at e
          refine ⟨N, en, H, hc, ?_⟩
          cases en with
          | ret v =>
            dsimp only at e
            change optA (newBs H g (H.size - g)) _
            cases hb : newBs H g (H.size - g) with
            | none => rw [hb] at e; cases e
            | some bs =>
              rw [hb] at e
              dsimp only at e
              change drawK M _ r i lg σ Q _ _
              split at e
              · rename_i hc; exact ⟨hc, N, k, s, e, q⟩
              · cases e
          | pan ch => cases e
      · rw [if_neg hf] at e; cases e
    · cases en with
      | ret v =>
        change optA (newBs H g (H.size - g)) _ at q
        cases hb : newBs H g (H.size - g) with
        | none => rw [hb] at q; exact q.elim
        | some bs =>
          rw [hb] at q
          change drawK M _ r i lg σ Q _ _ at q
          obtain ⟨hc, K, k, s, e', q'⟩ := q
          refine ⟨max N K, k, s, ?_, q'⟩
          dsimp only
          rw [if_pos hf, fn_up (Nat.le_max_left N K) e]
          simp only [hb]
          rw [if_pos hc]
          exact dops_up (Nat.le_max_right N K) e'
      | pan ch => exact q.elim

-- functions
theorem wpf_fn {f : FuncId} {cf : CFunc} {args : List AV} {H : Heap} {Q} (hov : M.ov f args H = none) (hC : M.C f = some cf) (hn : args.length = cf.nargs) : wpf M f args H Q = wpc M cf.body { p := enterA args 0, t := [], H := H, d := [], u := .norm } (finK M cf.results Q) := by
  refine propext ⟨fun ⟨N, en, H', e, q⟩ => ?_, fun ⟨N, k, s, e, q⟩ => ?_⟩
  · cases N with
    | zero => rw [evT, hov] at e; cases e
    | succ N =>
      simp only [evT, orCall, hov, evStep, hC, if_pos hn] at e
      split at e
      · rename_i s he; exact ⟨N, _, _, he, N, en, H', e, q⟩
      · rename_i s he; exact ⟨N, _, _, he, N, en, H', e, q⟩
      · rename_i ch s he; exact ⟨N, _, _, he, N, en, H', e, q⟩
      · cases e
  · have step : ∀ K, N ≤ K → ∀ y, runDfr (evFnD M.C (evT M K) K) cf.results s.p s.d (match k with | .panic ch => .pan ch | _ => .ret) s.H = some y → (∀ i, k ≠ .exit i) → evT M (K + 1) f args H = some y := by
      intro K hK y hy hk
      simp only [evT, orCall, hov, evStep, hC, if_pos hn]
      rw [code_up hK e]
      cases k with
      | exit i => exact absurd rfl (hk i)
      | _ => exact hy
    have dup : ∀ {K L : Nat} (h : K ≤ L) {rs p ds u H y}, runDfr (evFnD M.C (evT M K) K) rs p ds u H = some y → runDfr (evFnD M.C (evT M L) L) rs p ds u H = some y := fun h => fun e => runDfr_mono (evFnD_mono (evT_le M h) h) _ _ _ _ e
    cases k with
    | exit i => exact q.elim
    | normal =>
      obtain ⟨K, en, H', e', q'⟩ := q
      exact ⟨max N K + 1, en, H', step _ (Nat.le_max_left N K) _ (dup (Nat.le_max_right N K) e') (by intro i h; cases h), q'⟩
    | ret =>
      obtain ⟨K, en, H', e', q'⟩ := q
      exact ⟨max N K + 1, en, H', step _ (Nat.le_max_left N K) _ (dup (Nat.le_max_right N K) e') (by intro i h; cases h), q'⟩
    | panic ch =>
      obtain ⟨K, en, H', e', q'⟩ := q
      exact ⟨max N K + 1, en, H', step _ (Nat.le_max_left N K) _ (dup (Nat.le_max_right N K) e') (by intro i h; cases h), q'⟩
theorem wpf_ov {f : FuncId} {args : List AV} {H H' : Heap} {en : End} {Q : End → Heap → Prop} (hov : M.ov f args H = some (en, H')) (q : Q en H') : wpf M f args H Q := ⟨0, en, H', hov, q⟩

theorem wpe_ret {rs p H Q} : wpe M rs p [] .ret H Q = optA (resAs p H rs) fun l => Q (.ret (resV l)) H := by
  unfold wpe optA
  simp only [runDfr]
  cases resAs p H rs with
  | none =>
    refine propext ⟨fun ⟨_, _, _, e, _⟩ => ?_, False.elim⟩
    cases e
  | some l => exact propext ⟨fun ⟨_, _, _, e, q⟩ => by cases e; exact q, fun q => ⟨0, _, _, rfl, q⟩⟩
theorem wpe_pan {rs p ch H Q} : wpe M rs p [] (.pan ch) H Q = Q (.pan ch) H := propext ⟨fun ⟨_, _, _, e, q⟩ => by cases e; exact q, fun q => ⟨0, _, _, rfl, q⟩⟩
theorem wpe_cons {rs p f a ds u H Q} : wpe M rs p ((f, a) :: ds) u H Q = wpfd M f a u H (dfrK M rs p ds Q) := by
  have dup : ∀ {K L : Nat} (h : K ≤ L) {rs p ds u H y}, runDfr (evFnD M.C (evT M K) K) rs p ds u H = some y → runDfr (evFnD M.C (evT M L) L) rs p ds u H = some y := fun h => fun e => runDfr_mono (evFnD_mono (evT_le M h) h) _ _ _ _ e
  refine propext ⟨fun ⟨N, en, H', e, q⟩ => ?_, fun ⟨N, en, u', H', e, q⟩ => ?_⟩
  · simp only [runDfr] at e
    split at e
    · rename_i he; exact ⟨N, _, _, _, he, N, en, H', e, q⟩
    · rename_i he; exact ⟨N, _, _, _, he, N, en, H', e, q⟩
    · cases e
  · cases en with
    | ret v =>
      obtain ⟨K, en, H2, e', q'⟩ := q
      refine ⟨max N K, en, H2, ?_, q'⟩
      simp only [runDfr]
      rw [evFnD_mono (evT_le M (Nat.le_max_left N K)) (Nat.le_max_left N K) _ _ _ _ _ e]
      exact dup (Nat.le_max_right N K) e'
    | pan ch =>
      obtain ⟨K, en, H2, e', q'⟩ := q
      refine ⟨max N K, en, H2, ?_, q'⟩
      simp only [runDfr]
      rw [evFnD_mono (evT_le M (Nat.le_max_left N K)) (Nat.le_max_left N K) _ _ _ _ _ e]
      exact dup (Nat.le_max_right N K) e'
theorem wpfd_fn {f : FuncId} {cf : CFunc} {args : List AV} {u : Up} {H : Heap} {Q} (hC : M.C f = some cf) (hn : args.length = cf.nargs) : wpfd M f args u H Q = wpc M cf.body { p := enterA args 0, t := [], H := H, d := [], u := u } (dfinK cf.results Q) := by
  refine propext ⟨fun ⟨N, en, u', H', e, q⟩ => ?_, fun ⟨N, k, s, e, q⟩ => ?_⟩
  · simp only [evFnD, hC, if_pos hn] at e
    split at e
    · rename_i s he
      refine ⟨N, _, _, he, ?_⟩
      split at e
      · rename_i hd
        refine ⟨hd, ?_⟩
        cases hr : resAs s.p s.H cf.results with
        | none => rw [hr] at e; cases e
        | some l => rw [hr] at e; cases e; exact q
      · cases e
    · rename_i s he
      refine ⟨N, _, _, he, ?_⟩
      split at e
      · rename_i hd
        refine ⟨hd, ?_⟩
        cases hr : resAs s.p s.H cf.results with
        | none => rw [hr] at e; cases e
        | some l => rw [hr] at e; cases e; exact q
      · cases e
    · rename_i ch s he
      refine ⟨N, _, _, he, ?_⟩
      split at e
      · rename_i hd; cases e; exact ⟨hd, q⟩
      · cases e
    · cases e
  · cases k with
    | exit i => exact q.elim
    | normal =>
      obtain ⟨hd, q⟩ := q
      cases hr : resAs s.p s.H cf.results with
      | none => rw [hr] at q; exact q.elim
      | some l =>
        rw [hr] at q
        exact ⟨N, _, _, _, by simp only [evFnD, hC, if_pos hn, e, hd, hr, Option.map_some], q⟩
    | ret =>
      obtain ⟨hd, q⟩ := q
      cases hr : resAs s.p s.H cf.results with
      | none => rw [hr] at q; exact q.elim
      | some l =>
        rw [hr] at q
        exact ⟨N, _, _, _, by simp only [evFnD, hC, if_pos hn, e, hd, hr, Option.map_some], q⟩
    | panic ch =>
      obtain ⟨hd, q⟩ := q
      exact ⟨N, _, _, _, by simp only [evFnD, hC, if_pos hn, e, hd], q⟩

/-- From what a law's call comes to, to a run of it. -/
theorem wpf_run {f : FuncId} {args : List AV} {H : Heap} {v : AV} (h : wpf M f args H fun e _ => e = .ret v) : ∃ N H', evT M N f args H = some (.ret v, H') := by
  obtain ⟨N, e, H', h1, rfl⟩ := h
  exact ⟨N, H', h1⟩
end
end Go.Ev
