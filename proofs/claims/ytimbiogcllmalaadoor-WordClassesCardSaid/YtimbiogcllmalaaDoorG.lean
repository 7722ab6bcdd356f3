/- Several texts of this claim, joined. -/
import Derived.Test.YtimbiogcllmalaaDoorF
import Derived.Tactics

/- What the abstract machine comes to, with the fuel hidden: one rule for each form of code. -/
namespace Go.Ev
open Go

abbrev CallF := FuncId → List AV → Heap → Option (End × Heap)
def CallF.le (a b : CallF) : Prop := ∀ f l H r, a f l H = some r → b f l H = some r

theorem map_mono {α β : Type} {a b : Option α} {f : α → β} (h : ∀ r, a = some r → b = some r) : ∀ r, a.map f = some r → b.map f = some r := by
  intro r hr
  cases a with
  | none => cases hr
  | some x => rw [h x rfl]; exact hr

theorem evOp1_mono {a b : CallF} (h : a.le b) (σ : St) (op : COp) : ∀ r, evOp1 a σ op = some r → evOp1 b σ op = some r := by
  intro r hr
  cases op
  case call f args =>
    simp only [evOp1] at hr ⊢
    split at hr
    · exact map_mono (h _ _ _) _ hr
    · cases hr
  case callP g f args =>
    simp only [evOp1] at hr ⊢
    split at hr
    · split at hr
      · rename_i hfl
        rw [if_pos hfl]
        split at hr
        · rename_i heq
          rw [h _ _ _ _ heq]; exact hr
        · cases hr
      · cases hr
    · cases hr
  case callV x args =>
    simp only [evOp1] at hr ⊢
    split at hr
    · split at hr
      · exact map_mono (h _ _ _) _ hr
      · cases hr
    · cases hr
  all_goals exact hr

theorem evOps_mono {a b : CallF} (h : a.le b) : ∀ (ops : List Cop) (σ : St) (r), evOps a ops σ = some r → evOps b ops σ = some r
  | [], σ, r, hr => hr
  | o :: l, σ, r, hr => by
    simp only [evOps] at hr ⊢
    split at hr
    · cases hr
    · exact evOps_mono h l _ r hr
    · split at hr
      · cases hr
      · rename_i heq; rw [evOp1_mono h _ _ _ heq]; exact evOps_mono h l _ r hr
      · rename_i heq; rw [evOp1_mono h _ _ _ heq]; exact hr
      · rename_i heq; rw [evOp1_mono h _ _ _ heq]; exact evOps_mono h l _ r hr
      · rename_i heq; rw [evOp1_mono h _ _ _ heq]; exact evOps_mono h l _ r hr

theorem evOpsD_mono {a b : CallF} (h : a.le b) : ∀ (ops : List DCop) (k : Nat) (lg : List (Nat × LogE)) (σ : St) (r), evOpsD a ops k lg σ = some r → evOpsD b ops k lg σ = some r
  | [], k, lg, σ, r, hr => hr
  | o :: l, k, lg, σ, r, hr => by
    simp only [evOpsD] at hr ⊢
    split at hr
    · cases hr
    · exact evOpsD_mono h l _ _ _ r hr
    · split at hr
      · rename_i heq; rw [evOp1_mono h _ _ _ heq]; dsimp only
        split at hr
        · rename_i hc; rw [if_pos hc]; exact evOpsD_mono h l _ _ _ r hr
        · cases hr
      · cases hr

theorem loopA_mono {s t : St → Option (Ctl × St)} (h : ∀ σ r, s σ = some r → t σ = some r) {live : List Nat} : ∀ {n m : Nat} (_ : n ≤ m) (σ : St) (r), loopA s live n σ = some r → loopA t live m σ = some r
  | 0, _, _, _, _, hr => by cases hr
  | n + 1, 0, hm, _, _, _ => by omega
  | n + 1, m + 1, hm, σ, r, hr => by
    simp only [loopA] at hr ⊢
    split at hr
    · rename_i heq; rw [h _ _ heq]; exact loopA_mono h (by omega) _ r hr
    · rename_i hne
      rw [h _ _ hr]
      split
      · rename_i x σ' heq
        injection heq with heq; subst heq
        exact absurd hr (hne _)
      · rfl

theorem evCode_mono {a b : CallF} (h : a.le b) {n m : Nat} (hn : n ≤ m) : ∀ (c : CCode) (σ : St) (r), evCode a n c σ = some r → evCode b m c σ = some r
  | .skip, _, _, hr => hr
  | .reg ops, σ, r, hr => evOps_mono h ops _ r hr
  | .dreg ops, σ, r, hr => evOpsD_mono h ops _ _ _ r hr
  | .seq x y, σ, r, hr => by
    simp only [evCode] at hr ⊢
    split at hr
    · rename_i heq; rw [evCode_mono h hn x _ _ heq]; exact evCode_mono h hn y _ r hr
    · rename_i hne
      rw [evCode_mono h hn x _ _ hr]
      split
      · rename_i x σ' heq
        injection heq with heq; subst heq
        exact absurd hr (hne _)
      · rfl
  | .cond c x y, σ, r, hr => by
    simp only [evCode] at hr ⊢
    split at hr
    · exact evCode_mono h hn x _ r hr
    · exact evCode_mono h hn y _ r hr
    · cases hr
  | .block id live x, σ, r, hr => by
    simp only [evCode] at hr ⊢
    split at hr
    · rename_i heq; rw [evCode_mono h hn x _ _ heq]; exact hr
    · rename_i heq; rw [evCode_mono h hn x _ _ heq]; exact hr
    · rename_i h1 h2
      rw [evCode_mono h hn x _ _ hr]
      split
      · rename_i x σ' heq
        injection heq with heq; subst heq
        exact absurd hr (h1 _)
      · rename_i i σ' heq
        injection heq with heq; subst heq
        exact absurd hr (h2 _ _)
      · rfl
  | .loop live x, σ, r, hr => loopA_mono (evCode_mono h hn x) hn σ r hr
  | .exit _, _, _, hr => hr
  | .ret, _, _, hr => hr

theorem evFnD_mono {C : FuncId → Option CFunc} {a b : CallF} (h : a.le b) {n m : Nat} (hn : n ≤ m) (f : FuncId) (args : List AV) (u : Up) (H : Heap) : ∀ r, evFnD C a n f args u H = some r → evFnD C b m f args u H = some r := by
  intro r hr
  simp only [evFnD] at hr ⊢
  split at hr
  · cases hr
  · split at hr
    · rename_i hc; rw [if_pos hc]
      split at hr
      · rename_i heq; rw [evCode_mono h hn _ _ _ heq]; exact hr
      · rename_i heq; rw [evCode_mono h hn _ _ _ heq]; exact hr
      · rename_i heq; rw [evCode_mono h hn _ _ _ heq]; exact hr
      · cases hr
    · cases hr

theorem runDfr_mono {c d : FuncId → List AV → Up → Heap → Option (End × Up × Heap)} (h : ∀ f a u H r, c f a u H = some r → d f a u H = some r) {rs : List CRes} {p : List (Nat × AV)} : ∀ (ds : List (FuncId × List AV)) (u : Up) (H : Heap) (r), runDfr c rs p ds u H = some r → runDfr d rs p ds u H = some r
  | [], .ret, _, _, hr => hr
  | [], .pan _, _, _, hr => hr
  | [], .norm, _, _, hr => hr
  | (f, a) :: ds, u, H, r, hr => by
    simp only [runDfr] at hr ⊢
    split at hr
    · rename_i heq; rw [h _ _ _ _ _ heq]; exact runDfr_mono h ds _ _ r hr
    · rename_i heq; rw [h _ _ _ _ _ heq]; exact runDfr_mono h ds _ _ r hr
    · cases hr

theorem evStep_mono {C : FuncId → Option CFunc} {a b : CallF} (h : a.le b) {n m : Nat} (hn : n ≤ m) : CallF.le (evStep C a n) (evStep C b m) := by
  intro f args H r hr
  simp only [evStep] at hr ⊢
  split at hr
  · cases hr
  · split at hr
    · rename_i hc; rw [if_pos hc]
      split at hr
      · rename_i heq; rw [evCode_mono h hn _ _ _ heq]; exact runDfr_mono (evFnD_mono h hn) _ _ _ r hr
      · rename_i heq; rw [evCode_mono h hn _ _ _ heq]; exact runDfr_mono (evFnD_mono h hn) _ _ _ r hr
      · rename_i heq; rw [evCode_mono h hn _ _ _ heq]; exact runDfr_mono (evFnD_mono h hn) _ _ _ r hr
      · cases hr
    · cases hr

/-- A table of functions, and calls whose answer is known. -/
structure Mach where
  C : FuncId → Option CFunc
  ov : CallF

def evT (M : Mach) : Nat → CallF
  | 0 => M.ov
  | n + 1 => orCall M.ov (evStep M.C (evT M n) n)

theorem evT_le1 (M : Mach) : ∀ n, (evT M n).le (evT M (n + 1))
  | 0 => fun f l H r h => by simp only [evT] at h ⊢; simp only [orCall, h]
  | n + 1 => fun f l H r h => by
    rw [evT] at h ⊢
    simp only [orCall] at h ⊢
    split at h
    · exact h
    · exact evStep_mono (evT_le1 M n) (by omega) _ _ _ _ h
theorem evT_le (M : Mach) {n m : Nat} (h : n ≤ m) : (evT M n).le (evT M m) := by
  induction h with
  | refl => exact fun _ _ _ _ h => h
  | step _ ih => exact fun f l H r h => evT_le1 M _ _ _ _ _ (ih _ _ _ _ h)

theorem evT_ok {P : Program} {B : Nat} {chkD} {M : Mach} (hC : Table P chkD M.C) (hD : ∀ B, DrawnAll P B chkD) (hov : CallOK P B M.ov) : ∀ n, CallOK P B (evT M n)
  | 0 => hov
  | n + 1 => hov.or (step_sound hC hD (evT_ok hC hD hov n) n)

section
variable (M : Mach)
def wpc (c : CCode) (σ : St) (Q : Ctl → St → Prop) : Prop := ∃ N k σ', evCode (evT M N) N c σ = some (k, σ') ∧ Q k σ'
def wpo (ops : List Cop) (σ : St) (Q : Ctl → St → Prop) : Prop := ∃ N k σ', evOps (evT M N) ops σ = some (k, σ') ∧ Q k σ'
def wpd (ops : List DCop) (i : Nat) (lg : List (Nat × LogE)) (σ : St) (Q : Ctl → St → Prop) : Prop := ∃ N k σ', evOpsD (evT M N) ops i lg σ = some (k, σ') ∧ Q k σ'
def wpl (live : List Nat) (c : CCode) (σ : St) (Q : Ctl → St → Prop) : Prop := ∃ N n k σ', loopA (evCode (evT M N) N c) live n σ = some (k, σ') ∧ Q k σ'
def wpf (f : FuncId) (args : List AV) (H : Heap) (Q : End → Heap → Prop) : Prop := ∃ N e H', evT M N f args H = some (e, H') ∧ Q e H'
def wpe (rs : List CRes) (p : List (Nat × AV)) (ds : List (FuncId × List AV)) (u : Up) (H : Heap) (Q : End → Heap → Prop) : Prop := ∃ N e H', runDfr (evFnD M.C (evT M N) N) rs p ds u H = some (e, H') ∧ Q e H'
def wpfd (f : FuncId) (args : List AV) (u : Up) (H : Heap) (Q : End → Up → Heap → Prop) : Prop := ∃ N e u' H', evFnD M.C (evT M N) N f args u H = some (e, u', H') ∧ Q e u' H'

def optA {α : Type} (x : Option α) (k : α → Prop) : Prop := match x with
  | none => False
  | some a => k a
def optB (x : Option AV) (A B : Prop) : Prop := match x with
  | some (.bool true) => A
  | some (.bool false) => B
  | _ => False
def grd (x : Option AV) (w : Bool) (A B : Prop) : Prop := match x with
  | some (.bool b) => match b == w with
    | true => A
    | false => B
  | some (.tup []) => B
  | _ => False
def optF (x : Option AV) (k : FuncId → List AV → Prop) : Prop := match x with
  | some (.fn f cap) => k f cap
  | _ => False
def optI (x : Option AV) (k : AV → Prop) : Prop := match x with
  | some (.iface t v) => k (.iface t v)
  | _ => False
def brB (b : Bool) (A B : Prop) : Prop := match b with
  | true => A
  | false => B

def seqK (b : CCode) (Q : Ctl → St → Prop) : Ctl → St → Prop
  | .normal, σ => wpc M b σ Q
  | k, σ => Q k σ
def blockK (id : Nat) (live : List Nat) (Q : Ctl → St → Prop) : Ctl → St → Prop
  | .normal, σ => Q .normal (σ.keep live)
  | .exit i, σ => if i = id then Q .normal (σ.keep live) else Q (.exit i) σ
  | k, σ => Q k σ
def loopK (live : List Nat) (c : CCode) (Q : Ctl → St → Prop) : Ctl → St → Prop
  | .normal, σ => wpl M live c σ Q
  | k, σ => Q k σ
def callK (d : Dst) (r : List Cop) (σ : St) (Q : Ctl → St → Prop) : End → Heap → Prop
  | .ret v, H => wpo M r (({ σ with H := H } : St).put d v) Q
  | .pan ch, H => Q (.panic ch) { σ with H := H }
def callPK (d : Dst) (r : List Cop) (σ : St) (Q : Ctl → St → Prop) : End → Heap → Prop
  | .ret v, _ => v.flat = true ∧ wpo M r (σ.put d v) Q
  | .pan _, _ => False
def drawK (d : DCop) (r : List DCop) (i : Nat) (lg : List (Nat × LogE)) (σ : St) (Q : Ctl → St → Prop) (v : AV) (H : Heap) : Prop :=
  d.u.all (fun i => dynOK d σ v H (lkL i lg)) = true ∧ wpd M r (i + 1) (if d.lg then (i, mkLog d σ v) :: lg else lg) (({ σ with H := H } : St).put d.c.dst v) Q
def dcallK (d : DCop) (r : List DCop) (i : Nat) (lg : List (Nat × LogE)) (σ : St) (Q : Ctl → St → Prop) : End → Heap → Prop
  | .ret v, H => drawK M d r i lg σ Q v H
  | .pan _, _ => False
def dcallPK (d : DCop) (r : List DCop) (i : Nat) (lg : List (Nat × LogE)) (σ : St) (Q : Ctl → St → Prop) : End → Heap → Prop
  | .ret v, _ => v.flat = true ∧ drawK M d r i lg σ Q v σ.H
  | .pan _, _ => False
def finK (rs : List CRes) (Q : End → Heap → Prop) : Ctl → St → Prop
  | .normal, σ => wpe M rs σ.p σ.d .ret σ.H Q
  | .ret, σ => wpe M rs σ.p σ.d .ret σ.H Q
  | .panic ch, σ => wpe M rs σ.p σ.d (.pan ch) σ.H Q
  | .exit _, _ => False
def dfrK (rs : List CRes) (p : List (Nat × AV)) (ds : List (FuncId × List AV)) (Q : End → Heap → Prop) : End → Up → Heap → Prop
  | .ret _, u, H => wpe M rs p ds (settleA u) H Q
  | .pan ch, u, H => wpe M rs p ds (raisedA u ch) H Q
def dfinK (rs : List CRes) (Q : End → Up → Heap → Prop) : Ctl → St → Prop
  | .normal, σ => σ.d = [] ∧ optA (resAs σ.p σ.H rs) fun l => Q (.ret (resV l)) σ.u σ.H
  | .ret, σ => σ.d = [] ∧ optA (resAs σ.p σ.H rs) fun l => Q (.ret (resV l)) σ.u σ.H
  | .panic ch, σ => σ.d = [] ∧ Q (.pan ch) σ.u σ.H
  | .exit _, _ => False
end

section
variable {M : Mach}

-- consequence
theorem wpc_mono {c : CCode} {σ : St} {Q R : Ctl → St → Prop} (h : wpc M c σ Q) (hq : ∀ k σ', Q k σ' → R k σ') : wpc M c σ R :=
  let ⟨N, k, s, e, q⟩ := h; ⟨N, k, s, e, hq _ _ q⟩
theorem wpl_mono {live : List Nat} {c : CCode} {σ : St} {Q R : Ctl → St → Prop} (h : wpl M live c σ Q) (hq : ∀ k σ', Q k σ' → R k σ') : wpl M live c σ R :=
  let ⟨N, n, k, s, e, q⟩ := h; ⟨N, n, k, s, e, hq _ _ q⟩
theorem wpf_mono {f : FuncId} {a : List AV} {H : Heap} {Q R : End → Heap → Prop} (h : wpf M f a H Q) (hq : ∀ k σ', Q k σ' → R k σ') : wpf M f a H R :=
  let ⟨N, k, s, e, q⟩ := h; ⟨N, k, s, e, hq _ _ q⟩

theorem code_up {N K : Nat} (h : N ≤ K) {c : CCode} {σ : St} {r} (e : evCode (evT M N) N c σ = some r) : evCode (evT M K) K c σ = some r := evCode_mono (evT_le M h) h _ _ _ e
theorem ops_up {N K : Nat} (h : N ≤ K) {c : List Cop} {σ : St} {r} (e : evOps (evT M N) c σ = some r) : evOps (evT M K) c σ = some r := evOps_mono (evT_le M h) _ _ _ e
theorem dops_up {N K : Nat} (h : N ≤ K) {c : List DCop} {i lg} {σ : St} {r} (e : evOpsD (evT M N) c i lg σ = some r) : evOpsD (evT M K) c i lg σ = some r := evOpsD_mono (evT_le M h) _ _ _ _ _ e
theorem loop_up {N K n k : Nat} (h : N ≤ K) (hk : n ≤ k) {live : List Nat} {c : CCode} {σ : St} {r} (e : loopA (evCode (evT M N) N c) live n σ = some r) : loopA (evCode (evT M K) K c) live k σ = some r := loopA_mono (fun _ _ h' => code_up h h') hk _ _ e
theorem fn_up {N K : Nat} (h : N ≤ K) {f : FuncId} {a : List AV} {H : Heap} {r} (e : evT M N f a H = some r) : evT M K f a H = some r := evT_le M h _ _ _ _ e

-- code
theorem wpc_skip {σ : St} {Q} : wpc M .skip σ Q = Q .normal σ := propext ⟨fun ⟨_, _, _, e, q⟩ => by cases e; exact q, fun q => ⟨0, _, _, rfl, q⟩⟩
theorem wpc_ret {σ : St} {Q} : wpc M .ret σ Q = Q .ret σ := propext ⟨fun ⟨_, _, _, e, q⟩ => by cases e; exact q, fun q => ⟨0, _, _, rfl, q⟩⟩
theorem wpc_exit {i : Nat} {σ : St} {Q} : wpc M (.exit i) σ Q = Q (.exit i) σ := propext ⟨fun ⟨_, _, _, e, q⟩ => by cases e; exact q, fun q => ⟨0, _, _, rfl, q⟩⟩
theorem wpc_reg {ops : List Cop} {σ : St} {Q} : wpc M (.reg ops) σ Q = wpo M ops { σ with t := [] } Q := rfl
theorem wpc_dreg {ops : List DCop} {σ : St} {Q} : wpc M (.dreg ops) σ Q = wpd M ops 0 [] { σ with t := [] } Q := rfl
theorem wpc_seq {a b : CCode} {σ : St} {Q} : wpc M (.seq a b) σ Q = wpc M a σ (seqK M b Q) := by
  refine propext ⟨fun ⟨N, k, s, e, q⟩ => ?_, fun ⟨N, k, s, e, q⟩ => ?_⟩
  · simp only [evCode] at e
    split at e
    · rename_i s' he; exact ⟨N, _, _, he, N, k, s, e, q⟩
    · rename_i hne
      refine ⟨N, k, s, e, ?_⟩
      cases k <;> first | exact q | exact absurd e (hne _)
  · cases k with
    | normal =>
      obtain ⟨K, k', s', e', q'⟩ := q
      refine ⟨max N K, k', s', ?_, q'⟩
      simp only [evCode]
      rw [code_up (Nat.le_max_left N K) e]; exact code_up (Nat.le_max_right N K) e'
    | _ => exact ⟨N, _, s, by simp only [evCode]; rw [e], q⟩
theorem wpc_cond {c : Opd} {a b : CCode} {σ : St} {Q} : wpc M (.cond c a b) σ Q = optB (rho σ.p σ.t c) (wpc M a σ Q) (wpc M b σ Q) := by
  unfold wpc optB
  simp only [evCode]
  generalize rho σ.p σ.t c = y
  cases y with
  | none => exact propext ⟨fun ⟨_, _, _, e, _⟩ => by simp at e, False.elim⟩
  | some v => cases v with
    | bool b => cases b <;> rfl
    | _ => exact propext ⟨fun ⟨_, _, _, e, _⟩ => by simp at e, False.elim⟩
theorem wpc_block {id : Nat} {live : List Nat} {c : CCode} {σ : St} {Q} : wpc M (.block id live c) σ Q = wpc M c σ (blockK id live Q) := by
  refine propext ⟨fun ⟨N, k, s, e, q⟩ => ?_, fun ⟨N, k, s, e, q⟩ => ?_⟩
  · simp only [evCode] at e
    split at e
    · rename_i s' he; cases e; exact ⟨N, _, _, he, q⟩
    · rename_i i s' he
      refine ⟨N, _, _, he, ?_⟩
      simp only [blockK]
      split at e
      · rename_i hi; rw [if_pos hi]; cases e; exact q
      · rename_i hi; rw [if_neg hi]; cases e; exact q
    · rename_i h1 h2
      refine ⟨N, k, s, e, ?_⟩
      cases k
      · exact absurd e (h1 _)
      · exact absurd e (h2 _ _)
      · exact q
      · exact q
  · cases k with
    | normal => exact ⟨N, _, _, by simp only [evCode]; rw [e], q⟩
    | exit i =>
      simp only [blockK] at q
      split at q
      · rename_i hi; exact ⟨N, _, _, by simp only [evCode]; rw [e]; simp only [if_pos hi], q⟩
      · rename_i hi; exact ⟨N, _, _, by simp only [evCode]; rw [e]; simp only [if_neg hi], q⟩
    | ret => exact ⟨N, _, _, by simp only [evCode]; rw [e], q⟩
    | panic ch => exact ⟨N, _, _, by simp only [evCode]; rw [e], q⟩
theorem wpc_loop {live : List Nat} {c : CCode} {σ : St} {Q} : wpc M (.loop live c) σ Q = wpl M live c σ Q := by
  refine propext ⟨fun ⟨N, k, s, e, q⟩ => ⟨N, N, k, s, e, q⟩, fun ⟨N, n, k, s, e, q⟩ => ⟨max N n, k, s, ?_, q⟩⟩
  simp only [evCode]
  exact loop_up (Nat.le_max_left N n) (Nat.le_max_right N n) e
theorem wpl_step {live : List Nat} {c : CCode} {σ : St} {Q} : wpl M live c σ Q = wpc M c (σ.keep live) (loopK M live c Q) := by
  refine propext ⟨fun ⟨N, n, k, s, e, q⟩ => ?_, fun ⟨N, k, s, e, q⟩ => ?_⟩
  · cases n with
    | zero => cases e
    | succ n =>
      simp only [loopA] at e
      split at e
      · rename_i s' he; exact ⟨N, _, _, he, N, n, k, s, e, q⟩
      · rename_i hne
        refine ⟨N, k, s, e, ?_⟩
        cases k <;> first | exact q | exact absurd e (hne _)
  · cases k with
    | normal =>
      obtain ⟨K, n, k', s', e', q'⟩ := q
      refine ⟨max N K, n + 1, k', s', ?_, q'⟩
      simp only [loopA]
      rw [code_up (Nat.le_max_left N K) e]; exact loop_up (Nat.le_max_right N K) (Nat.le_refl _) e'
    | _ => exact ⟨N, 1, _, s, by simp only [loopA]; rw [e], q⟩

-- operations
theorem evOp1_val {call : CallF} {σ : St} {op : COp} (h : simpleC op = true) : evOp1 call σ op = match evOp (rho σ.p σ.t) σ.H op with
    | some (v, H) => some (.val v H)
    | none => none := by
  cases op <;> first | rfl | (simp [simpleC] at h)

theorem wpo_nil {σ : St} {Q} : wpo M [] σ Q = Q .normal σ := propext ⟨fun ⟨_, _, _, e, q⟩ => by cases e; exact q, fun q => ⟨0, _, _, rfl, q⟩⟩
theorem wpo_grd {d : Dst} {op : COp} {x : Opd} {w : Bool} {r : List Cop} {σ : St} {Q} : wpo M (⟨d, op, some (x, w)⟩ :: r) σ Q = grd (rho σ.p σ.t x) w (wpo M (⟨d, op, none⟩ :: r) σ Q) (wpo M r (σ.put d undefA) Q) := by
  unfold wpo grd
  simp only [evOps, wantedA]
  generalize rho σ.p σ.t x = y
  cases y with
  | none => exact propext ⟨fun ⟨_, _, _, e, _⟩ => by simp at e, False.elim⟩
  | some v => cases v with
    | bool b => cases hb : (b == w) <;> simp only [hb]
    | tup l => cases l with
      | nil => rfl
      | cons y l => exact propext ⟨fun ⟨_, _, _, e, _⟩ => by simp at e, False.elim⟩
    | _ => exact propext ⟨fun ⟨_, _, _, e, _⟩ => by simp at e, False.elim⟩

theorem wpo_val {d : Dst} {op : COp} {r : List Cop} {σ : St} {Q} (h : simpleC op = true) : wpo M (⟨d, op, none⟩ :: r) σ Q = optA (evOp (rho σ.p σ.t) σ.H op) fun y => wpo M r (({ σ with H := y.2 } : St).put d y.1) Q := by
  unfold wpo optA
  simp only [evOps, wantedA, evOp1_val h]
  cases evOp (rho σ.p σ.t) σ.H op with
  | none =>
    refine propext ⟨fun ⟨_, _, _, e, _⟩ => ?_, False.elim⟩
    cases e
  | some y => rfl
theorem wpo_call {d : Dst} {f : FuncId} {args : List Opd} {r : List Cop} {σ : St} {Q} : wpo M (⟨d, .call f args, none⟩ :: r) σ Q = optA (rhos σ.p σ.t args) fun l => wpf M f l σ.H (callK M d r σ Q) := by
  unfold wpo optA
  simp only [evOps, wantedA, evOp1]
  cases rhos σ.p σ.t args with
  | none =>
    refine propext ⟨fun ⟨_, _, _, e, _⟩ => ?_, False.elim⟩
    cases e
  | some l =>
    refine propext ⟨fun ⟨N, k, s, e, q⟩ => ?_, fun ⟨N, en, H, e, q⟩ => ?_⟩
    · dsimp only at e ⊢
      cases hc : evT M N f l σ.H with
      | none => rw [hc] at e; cases e
      | some y =>
        obtain ⟨en, H⟩ := y
        rw [hc] at e
        refine ⟨N, en, H, hc, ?_⟩
        cases en with
        | ret v => exact ⟨N, k, s, e, q⟩
        | pan ch => cases e; exact q
    · cases en with
      | ret v =>
        obtain ⟨K, k, s, e', q'⟩ := q
        refine ⟨max N K, k, s, ?_, q'⟩
        dsimp only
        rw [fn_up (Nat.le_max_left N K) e]; exact ops_up (Nat.le_max_right N K) e'
      | pan ch => exact ⟨N, _, _, by dsimp only; rw [e]; rfl, q⟩
theorem wpo_callV {d : Dst} {x : Opd} {args : List Opd} {r : List Cop} {σ : St} {Q} : wpo M (⟨d, .callV x args, none⟩ :: r) σ Q = optF (rho σ.p σ.t x) fun f cap => optA (rhos σ.p σ.t args) fun l => wpf M f (l ++ cap) σ.H (callK M d r σ Q) := by
  unfold optF
  split
  · rename_i f cap hx
    unfold wpo optA
    simp only [evOps, wantedA, evOp1, hx]
    cases rhos σ.p σ.t args with
    | none =>
      refine propext ⟨fun ⟨_, _, _, e, _⟩ => ?_, False.elim⟩
      cases e
    | some l =>
      refine propext ⟨fun ⟨N, k, s, e, q⟩ => ?_, fun ⟨N, en, H, e, q⟩ => ?_⟩
      · dsimp only at e ⊢
        cases hc : evT M N f (l ++ cap) σ.H with
        | none => rw [hc] at e; cases e
        | some y =>
          obtain ⟨en, H⟩ := y
          rw [hc] at e
          refine ⟨N, en, H, hc, ?_⟩
          cases en with
          | ret v => exact ⟨N, k, s, e, q⟩
          | pan ch => cases e; exact q
      · cases en with
        | ret v =>
          obtain ⟨K, k, s, e', q'⟩ := q
          refine ⟨max N K, k, s, ?_, q'⟩
          dsimp only
          rw [fn_up (Nat.le_max_left N K) e]; exact ops_up (Nat.le_max_right N K) e'
        | pan ch => exact ⟨N, _, _, by dsimp only; rw [e]; rfl, q⟩
  · rename_i hne
    refine propext ⟨fun ⟨N, k, s, e, q⟩ => ?_, False.elim⟩
    simp only [evOps, wantedA, evOp1] at e
    cases e
theorem wpo_callP {d : Dst} {g : Nat} {f : FuncId} {args : List Opd} {r : List Cop} {σ : St} {Q} : wpo M (⟨d, .callP g f args, none⟩ :: r) σ Q = optA (rhos σ.p σ.t args) fun l => AV.flats l = true ∧ wpf M f l (Heap.dead g) (callPK M d r σ Q) := by
  unfold wpo optA
  simp only [evOps, wantedA, evOp1]
  cases rhos σ.p σ.t args with
  | none =>
    refine propext ⟨fun ⟨_, _, _, e, _⟩ => ?_, False.elim⟩
    cases e
  | some l =>
    refine propext ⟨fun ⟨N, k, s, e, q⟩ => ?_, fun ⟨hf, N, en, H, e, q⟩ => ?_⟩
    · dsimp only at e ⊢
      by_cases hf : AV.flats l = true
      · rw [if_pos hf] at e
        refine ⟨hf, ?_⟩
        cases hc : evT M N f l (Heap.dead g) with
        | none => rw [hc] at e; cases e
        | some y =>
          obtain ⟨en, H⟩ := y
          rw [hc] at e
          refine ⟨N, en, H, hc, ?_⟩
          cases en with
          | ret v =>
            dsimp only at e
            by_cases hv : v.flat = true
            · rw [if_pos hv] at e; exact ⟨hv, N, k, s, e, q⟩
            · rw [if_neg hv] at e; cases e
          | pan ch => cases e
      · rw [if_neg hf] at e; cases e
    · cases en with
      | ret v =>
        obtain ⟨hv, K, k, s, e', q'⟩ := q
        refine ⟨max N K, k, s, ?_, q'⟩
        dsimp only
        rw [if_pos hf, fn_up (Nat.le_max_left N K) e]
        simp only [if_pos hv]
        exact ops_up (Nat.le_max_right N K) e'
      | pan ch => exact q.elim
theorem wpo_dfr {d : Dst} {x : Opd} {args : List Opd} {r : List Cop} {σ : St} {Q} : wpo M (⟨d, .dfr x args, none⟩ :: r) σ Q = optF (rho σ.p σ.t x) fun f cap => optA (rhos σ.p σ.t args) fun l => wpo M r (({ σ with d := (f, l ++ cap) :: σ.d } : St).put d undefA) Q := by
  unfold optF
  split
  · rename_i f cap hx
    unfold wpo optA
    simp only [evOps, wantedA, evOp1, hx]
    cases rhos σ.p σ.t args with
    | none =>
      refine propext ⟨fun ⟨_, _, _, e, _⟩ => ?_, False.elim⟩
      cases e
    | some l => rfl
  · rename_i hne
    refine propext ⟨fun ⟨N, k, s, e, q⟩ => ?_, False.elim⟩
    simp only [evOps, wantedA, evOp1] at e
    cases e
theorem wpo_panic {d : Dst} {x : Opd} {r : List Cop} {σ : St} {Q} : wpo M (⟨d, .panic x, none⟩ :: r) σ Q = optI (rho σ.p σ.t x) fun v => Q (.panic [(v, false)]) σ := by
  unfold optI
  split
  · rename_i t v hx
    unfold wpo
    simp only [evOps, wantedA, evOp1, hx]
    refine propext ⟨fun ⟨_, _, _, e, q⟩ => ?_, fun q => ⟨0, _, _, rfl, q⟩⟩
    cases e; exact q
  · rename_i hne
    refine propext ⟨fun ⟨N, k, s, e, q⟩ => ?_, False.elim⟩
    simp only [evOps, wantedA, evOp1] at e
    cases e
theorem wpo_recover_ret {d : Dst} {r : List Cop} {p t H ds Q} : wpo M (⟨d, .recover, none⟩ :: r) ⟨p, t, H, ds, .ret⟩ Q = wpo M r ((⟨p, t, H, ds, .ret⟩ : St).put d .nili) Q := rfl
theorem wpo_recover_pan {d : Dst} {r : List Cop} {p t H ds v o Q} : wpo M (⟨d, .recover, none⟩ :: r) ⟨p, t, H, ds, .pan ((v, false) :: o)⟩ Q = wpo M r ((⟨p, t, H, ds, .pan ((v, true) :: o)⟩ : St).put d v) Q := rfl

-- regions that draw their order
theorem wpd_nil {i lg} {σ : St} {Q} : wpd M [] i lg σ Q = Q .normal σ := propext ⟨fun ⟨_, _, _, e, q⟩ => by cases e; exact q, fun q => ⟨0, _, _, rfl, q⟩⟩
theorem wpd_grd {d : Dst} {op : COp} {x : Opd} {w : Bool} {l tl : Bool} {u : List Nat} {r : List DCop} {i lg} {σ : St} {Q} : wpd M (⟨⟨d, op, some (x, w)⟩, l, tl, u⟩ :: r) i lg σ Q = grd (rho σ.p σ.t x) w (wpd M (⟨⟨d, op, none⟩, l, tl, u⟩ :: r) i lg σ Q) (wpd M r (i + 1) (if l then (i, .no) :: lg else lg) (σ.put d undefA) Q) := by
  have hm : ∀ v, mkLog ⟨⟨d, op, some (x, w)⟩, l, tl, u⟩ σ v = mkLog ⟨⟨d, op, none⟩, l, tl, u⟩ σ v := fun _ => rfl
  have hd : ∀ v H e, dynOK ⟨⟨d, op, some (x, w)⟩, l, tl, u⟩ σ v H e = dynOK ⟨⟨d, op, none⟩, l, tl, u⟩ σ v H e := fun _ _ e => by cases e with
    | none => rfl
    | some e => cases e <;> rfl
  unfold wpd grd
  simp only [evOpsD, wantedA, hm, hd]
  generalize rho σ.p σ.t x = y
  cases y with
  | none => exact propext ⟨fun ⟨_, _, _, e, _⟩ => by simp at e, False.elim⟩
  | some v => cases v with
    | bool b => cases hb : (b == w) <;> simp only [hb]
    | tup l => cases l with
      | nil => rfl
      | cons y l => exact propext ⟨fun ⟨_, _, _, e, _⟩ => by simp at e, False.elim⟩
    | _ => exact propext ⟨fun ⟨_, _, _, e, _⟩ => by simp at e, False.elim⟩

theorem wpd_val {d : Dst} {op : COp} {l tl : Bool} {u : List Nat} {r : List DCop} {i lg} {σ : St} {Q} (h : simpleC op = true) : wpd M (⟨⟨d, op, none⟩, l, tl, u⟩ :: r) i lg σ Q = optA (evOp (rho σ.p σ.t) σ.H op) fun y => drawK M ⟨⟨d, op, none⟩, l, tl, u⟩ r i lg σ Q y.1 y.2 := by
  unfold wpd optA
  simp only [evOpsD, wantedA, evOp1_val h]
  cases evOp (rho σ.p σ.t) σ.H op with
  | none =>
    refine propext ⟨fun ⟨_, _, _, e, _⟩ => ?_, False.elim⟩
    cases e
  | some y =>
    dsimp only [drawK]
    refine propext ⟨fun ⟨N, k, s, e, q⟩ => ?_, fun ⟨hc, N, k, s, e, q⟩ => ?_⟩
    · split at e
      · rename_i hc; exact ⟨hc, N, k, s, e, q⟩
      · cases e
    · exact ⟨N, k, s, by rw [if_pos hc]; exact e, q⟩
theorem wpd_call {d : Dst} {f : FuncId} {args : List Opd} {l tl : Bool} {u : List Nat} {r : List DCop} {i lg} {σ : St} {Q} : wpd M (⟨⟨d, .call f args, none⟩, l, tl, u⟩ :: r) i lg σ Q = optA (rhos σ.p σ.t args) fun a => wpf M f a σ.H (dcallK M ⟨⟨d, .call f args, none⟩, l, tl, u⟩ r i lg σ Q) := by
  unfold wpd optA
  simp only [evOpsD, wantedA, evOp1]
  cases rhos σ.p σ.t args with
  | none =>
    refine propext ⟨fun ⟨_, _, _, e, _⟩ => ?_, False.elim⟩
    cases e
  | some a =>
    refine propext ⟨fun ⟨N, k, s, e, q⟩ => ?_, fun ⟨N, en, H, e, q⟩ => ?_⟩
    · dsimp only at e ⊢
      cases hc : evT M N f a σ.H with
      | none => rw [hc] at e; cases e
      | some y =>
        obtain ⟨en, H⟩ := y
        rw [hc] at e
        refine ⟨N, en, H, hc, ?_⟩
        cases en with
        | ret v =>
          simp only [Option.map_some, endOut] at e
          split at e
          · rename_i hc; exact ⟨hc, N, k, s, e, q⟩
          · cases e
        | pan ch => cases e
    · cases en with
      | ret v =>
        obtain ⟨hc, K, k, s, e', q'⟩ := q
        refine ⟨max N K, k, s, ?_, q'⟩
        dsimp only
        rw [fn_up (Nat.le_max_left N K) e]
        simp only [Option.map_some, endOut]
        rw [if_pos hc]; exact dops_up (Nat.le_max_right N K) e'
      | pan ch => exact q.elim

theorem wpd_callV {d : Dst} {x : Opd} {args : List Opd} {l tl : Bool} {u : List Nat} {r : List DCop} {i lg} {σ : St} {Q} : wpd M (⟨⟨d, .callV x args, none⟩, l, tl, u⟩ :: r) i lg σ Q = optF (rho σ.p σ.t x) fun f cap => optA (rhos σ.p σ.t args) fun a => wpf M f (a ++ cap) σ.H (dcallK M ⟨⟨d, .callV x args, none⟩, l, tl, u⟩ r i lg σ Q) := by
  unfold optF
  split
  · rename_i f cap hx
    unfold wpd optA
    simp only [evOpsD, wantedA, evOp1, hx]
    cases rhos σ.p σ.t args with
    | none =>
      refine propext ⟨fun ⟨_, _, _, e, _⟩ => ?_, False.elim⟩
      cases e
    | some a =>
      refine propext ⟨fun ⟨N, k, s, e, q⟩ => ?_, fun ⟨N, en, H, e, q⟩ => ?_⟩
      · dsimp only at e ⊢
        cases hc : evT M N f (a ++ cap) σ.H with
        | none => rw [hc] at e; cases e
        | some y =>
          obtain ⟨en, H⟩ := y
          rw [hc] at e
          refine ⟨N, en, H, hc, ?_⟩
          cases en with
          | ret v =>
            simp only [Option.map_some, endOut] at e
            split at e
            · rename_i hc; exact ⟨hc, N, k, s, e, q⟩
            · cases e
          | pan ch => cases e
      · cases en with
        | ret v =>
          obtain ⟨hc, K, k, s, e', q'⟩ := q
          refine ⟨max N K, k, s, ?_, q'⟩
          dsimp only
          rw [fn_up (Nat.le_max_left N K) e]
          simp only [Option.map_some, endOut]
          rw [if_pos hc]; exact dops_up (Nat.le_max_right N K) e'
        | pan ch => exact q.elim
  · rename_i hne
    refine propext ⟨fun ⟨N, k, s, e, q⟩ => ?_, False.elim⟩
    simp only [evOpsD, wantedA, evOp1] at e
    cases e
theorem wpd_callP {d : Dst} {g : Nat} {f : FuncId} {args : List Opd} {l tl : Bool} {u : List Nat} {r : List DCop} {i lg} {σ : St} {Q} : wpd M (⟨⟨d, .callP g f args, none⟩, l, tl, u⟩ :: r) i lg σ Q = optA (rhos σ.p σ.t args) fun a => AV.flats a = true ∧ wpf M f a (Heap.dead g) (dcallPK M ⟨⟨d, .callP g f args, none⟩, l, tl, u⟩ r i lg σ Q) := by
  unfold wpd optA
  simp only [evOpsD, wantedA, evOp1]
  cases rhos σ.p σ.t args with
  | none =>
    refine propext ⟨fun ⟨_, _, _, e, _⟩ => ?_, False.elim⟩
    cases e
  | some a =>
    refine propext ⟨fun ⟨N, k, s, e, q⟩ => ?_, fun ⟨hf, N, en, H, e, q⟩ => ?_⟩
    · dsimp only at e ⊢
      by_cases hf : AV.flats a = true
      · rw [if_pos hf] at e
        refine ⟨hf, ?_⟩
        cases hc : evT M N f a (Heap.dead g) with
        | none => rw [hc] at e; cases e
        | some y =>
          obtain ⟨en, H⟩ := y
          rw [hc] at e
          refine ⟨N, en, H, hc, ?_⟩
          cases en with
          | ret v =>
            dsimp only at e
            by_cases hv : v.flat = true
            · rw [if_pos hv] at e
              refine ⟨hv, ?_⟩
              dsimp only at e
              split at e
              · rename_i hc; exact ⟨hc, N, k, s, e, q⟩
              · cases e
            · rw [if_neg hv] at e; cases e
          | pan ch => cases e
      · rw [if_neg hf] at e; cases e
    · cases en with
      | ret v =>
        obtain ⟨hv, hc, K, k, s, e', q'⟩ := q
        refine ⟨max N K, k, s, ?_, q'⟩
        dsimp only
        rw [if_pos hf, fn_up (Nat.le_max_left N K) e]
        simp only [if_pos hv]
        rw [if_pos hc]
        exact dops_up (Nat.le_max_right N K) e'
      | pan ch => exact q.elim

-- functions
theorem wpf_fn {f : FuncId} {cf : CFunc} {args : List AV} {H : Heap} {Q} (hov : M.ov f args H = none) (hC : M.C f = some cf) (hn : args.length = cf.nargs) : wpf M f args H Q = wpc M cf.body { p := enterA args 0, t := [], H := H, d := [], u := .norm } (finK M cf.results Q) := by
  refine propext ⟨fun ⟨N, en, H', e, q⟩ => ?_, fun ⟨N, k, s, e, q⟩ => ?_⟩
  · cases N with
    | zero => rw [evT, hov] at e; cases e
    | succ N =>
      simp only [evT, orCall, hov, evStep, hC, if_pos hn] at e
      split at e
      · rename_i s he; exact ⟨N, _, _, he, N, en, H', e, q⟩
      · rename_i s he; exact ⟨N, _, _, he, N, en, H', e, q⟩
      · rename_i ch s he; exact ⟨N, _, _, he, N, en, H', e, q⟩
      · cases e
  · have step : ∀ K, N ≤ K → ∀ y, runDfr (evFnD M.C (evT M K) K) cf.results s.p s.d (match k with | .panic ch => .pan ch | _ => .ret) s.H = some y → (∀ i, k ≠ .exit i) → evT M (K + 1) f args H = some y := by
      intro K hK y hy hk
      simp only [evT, orCall, hov, evStep, hC, if_pos hn]
      rw [code_up hK e]
      cases k with
      | exit i => exact absurd rfl (hk i)
      | _ => exact hy
    have dup : ∀ {K L : Nat} (h : K ≤ L) {rs p ds u H y}, runDfr (evFnD M.C (evT M K) K) rs p ds u H = some y → runDfr (evFnD M.C (evT M L) L) rs p ds u H = some y := fun h => fun e => runDfr_mono (evFnD_mono (evT_le M h) h) _ _ _ _ e
    cases k with
    | exit i => exact q.elim
    | normal =>
      obtain ⟨K, en, H', e', q'⟩ := q
      exact ⟨max N K + 1, en, H', step _ (Nat.le_max_left N K) _ (dup (Nat.le_max_right N K) e') (by intro i h; cases h), q'⟩
    | ret =>
      obtain ⟨K, en, H', e', q'⟩ := q
      exact ⟨max N K + 1, en, H', step _ (Nat.le_max_left N K) _ (dup (Nat.le_max_right N K) e') (by intro i h; cases h), q'⟩
    | panic ch =>
      obtain ⟨K, en, H', e', q'⟩ := q
      exact ⟨max N K + 1, en, H', step _ (Nat.le_max_left N K) _ (dup (Nat.le_max_right N K) e') (by intro i h; cases h), q'⟩
theorem wpf_ov {f : FuncId} {args : List AV} {H H' : Heap} {en : End} {Q : End → Heap → Prop} (hov : M.ov f args H = some (en, H')) (q : Q en H') : wpf M f args H Q := ⟨0, en, H', hov, q⟩

theorem wpe_ret {rs p H Q} : wpe M rs p [] .ret H Q = optA (resAs p H rs) fun l => Q (.ret (resV l)) H := by
  unfold wpe optA
  simp only [runDfr]
  cases resAs p H rs with
  | none =>
    refine propext ⟨fun ⟨_, _, _, e, _⟩ => ?_, False.elim⟩
    cases e
  | some l => exact propext ⟨fun ⟨_, _, _, e, q⟩ => by cases e; exact q, fun q => ⟨0, _, _, rfl, q⟩⟩
theorem wpe_pan {rs p ch H Q} : wpe M rs p [] (.pan ch) H Q = Q (.pan ch) H := propext ⟨fun ⟨_, _, _, e, q⟩ => by cases e; exact q, fun q => ⟨0, _, _, rfl, q⟩⟩
theorem wpe_cons {rs p f a ds u H Q} : wpe M rs p ((f, a) :: ds) u H Q = wpfd M f a u H (dfrK M rs p ds Q) := by
  have dup : ∀ {K L : Nat} (h : K ≤ L) {rs p ds u H y}, runDfr (evFnD M.C (evT M K) K) rs p ds u H = some y → runDfr (evFnD M.C (evT M L) L) rs p ds u H = some y := fun h => fun e => runDfr_mono (evFnD_mono (evT_le M h) h) _ _ _ _ e
  refine propext ⟨fun ⟨N, en, H', e, q⟩ => ?_, fun ⟨N, en, u', H', e, q⟩ => ?_⟩
  · simp only [runDfr] at e
    split at e
    · rename_i he; exact ⟨N, _, _, _, he, N, en, H', e, q⟩
    · rename_i he; exact ⟨N, _, _, _, he, N, en, H', e, q⟩
    · cases e
  · cases en with
    | ret v =>
      obtain ⟨K, en, H2, e', q'⟩ := q
      refine ⟨max N K, en, H2, ?_, q'⟩
      simp only [runDfr]
      rw [evFnD_mono (evT_le M (Nat.le_max_left N K)) (Nat.le_max_left N K) _ _ _ _ _ e]
      exact dup (Nat.le_max_right N K) e'
    | pan ch =>
      obtain ⟨K, en, H2, e', q'⟩ := q
      refine ⟨max N K, en, H2, ?_, q'⟩
      simp only [runDfr]
      rw [evFnD_mono (evT_le M (Nat.le_max_left N K)) (Nat.le_max_left N K) _ _ _ _ _ e]
      exact dup (Nat.le_max_right N K) e'
theorem wpfd_fn {f : FuncId} {cf : CFunc} {args : List AV} {u : Up} {H : Heap} {Q} (hC : M.C f = some cf) (hn : args.length = cf.nargs) : wpfd M f args u H Q = wpc M cf.body { p := enterA args 0, t := [], H := H, d := [], u := u } (dfinK cf.results Q) := by
  refine propext ⟨fun ⟨N, en, u', H', e, q⟩ => ?_, fun ⟨N, k, s, e, q⟩ => ?_⟩
  · simp only [evFnD, hC, if_pos hn] at e
    split at e
    · rename_i s he
      refine ⟨N, _, _, he, ?_⟩
      split at e
      · rename_i hd
        refine ⟨hd, ?_⟩
        cases hr : resAs s.p s.H cf.results with
        | none => rw [hr] at e; cases e
        | some l => rw [hr] at e; cases e; exact q
      · cases e
    · rename_i s he
      refine ⟨N, _, _, he, ?_⟩
      split at e
      · rename_i hd
        refine ⟨hd, ?_⟩
        cases hr : resAs s.p s.H cf.results with
        | none => rw [hr] at e; cases e
        | some l => rw [hr] at e; cases e; exact q
      · cases e
    · rename_i ch s he
      refine ⟨N, _, _, he, ?_⟩
      split at e
      · rename_i hd; cases e; exact ⟨hd, q⟩
      · cases e
    · cases e
  · cases k with
    | exit i => exact q.elim
    | normal =>
      obtain ⟨hd, q⟩ := q
      cases hr : resAs s.p s.H cf.results with
      | none => rw [hr] at q; exact q.elim
      | some l =>
        rw [hr] at q
        exact ⟨N, _, _, _, by simp only [evFnD, hC, if_pos hn, e, hd, hr, Option.map_some], q⟩
    | ret =>
      obtain ⟨hd, q⟩ := q
      cases hr : resAs s.p s.H cf.results with
      | none => rw [hr] at q; exact q.elim
      | some l =>
        rw [hr] at q
        exact ⟨N, _, _, _, by simp only [evFnD, hC, if_pos hn, e, hd, hr, Option.map_some], q⟩
    | panic ch =>
      obtain ⟨hd, q⟩ := q
      exact ⟨N, _, _, _, by simp only [evFnD, hC, if_pos hn, e, hd], q⟩

/-- From what a law's call comes to, to a run of it. -/
theorem wpf_run {f : FuncId} {args : List AV} {H : Heap} {v : AV} (h : wpf M f args H fun e _ => e = .ret v) : ∃ N H', evT M N f args H = some (.ret v, H') := by
  obtain ⟨N, e, H', h1, rfl⟩ := h
  exact ⟨N, H', h1⟩
end
end Go.Ev

/- The rules of Wp for each simple operation by name: printed by wpops.py. -/
namespace Go.Ev
open Go
section
variable {M : Mach}
theorem wpo_mov {x : Opd} {dst_ rest_ σ Q} : wpo M (⟨dst_, (.mov x), none⟩ :: rest_) σ Q = optA (evOp (rho σ.p σ.t) σ.H (.mov x)) fun y_ => wpo M rest_ (({ σ with H := y_.2 } : St).put dst_ y_.1) Q := wpo_val rfl
theorem wpd_mov {x : Opd} {dst_ a_ e_ w_ rest_ j_ lg_ σ Q} : wpd M (⟨⟨dst_, (.mov x), none⟩, a_, e_, w_⟩ :: rest_) j_ lg_ σ Q = optA (evOp (rho σ.p σ.t) σ.H (.mov x)) fun y_ => drawK M ⟨⟨dst_, (.mov x), none⟩, a_, e_, w_⟩ rest_ j_ lg_ σ Q y_.1 y_.2 := wpd_val rfl
theorem wpo_pick {c a b : Opd} {dst_ rest_ σ Q} : wpo M (⟨dst_, (.pick c a b), none⟩ :: rest_) σ Q = optA (evOp (rho σ.p σ.t) σ.H (.pick c a b)) fun y_ => wpo M rest_ (({ σ with H := y_.2 } : St).put dst_ y_.1) Q := wpo_val rfl
theorem wpd_pick {c a b : Opd} {dst_ a_ e_ w_ rest_ j_ lg_ σ Q} : wpd M (⟨⟨dst_, (.pick c a b), none⟩, a_, e_, w_⟩ :: rest_) j_ lg_ σ Q = optA (evOp (rho σ.p σ.t) σ.H (.pick c a b)) fun y_ => drawK M ⟨⟨dst_, (.pick c a b), none⟩, a_, e_, w_⟩ rest_ j_ lg_ σ Q y_.1 y_.2 := wpd_val rfl
theorem wpo_alloc {z : List AV} {dst_ rest_ σ Q} : wpo M (⟨dst_, (.alloc z), none⟩ :: rest_) σ Q = optA (evOp (rho σ.p σ.t) σ.H (.alloc z)) fun y_ => wpo M rest_ (({ σ with H := y_.2 } : St).put dst_ y_.1) Q := wpo_val rfl
theorem wpd_alloc {z : List AV} {dst_ a_ e_ w_ rest_ j_ lg_ σ Q} : wpd M (⟨⟨dst_, (.alloc z), none⟩, a_, e_, w_⟩ :: rest_) j_ lg_ σ Q = optA (evOp (rho σ.p σ.t) σ.H (.alloc z)) fun y_ => drawK M ⟨⟨dst_, (.alloc z), none⟩, a_, e_, w_⟩ rest_ j_ lg_ σ Q y_.1 y_.2 := wpd_val rfl
theorem wpo_box {x : Opd} {dst_ rest_ σ Q} : wpo M (⟨dst_, (.box x), none⟩ :: rest_) σ Q = optA (evOp (rho σ.p σ.t) σ.H (.box x)) fun y_ => wpo M rest_ (({ σ with H := y_.2 } : St).put dst_ y_.1) Q := wpo_val rfl
theorem wpd_box {x : Opd} {dst_ a_ e_ w_ rest_ j_ lg_ σ Q} : wpd M (⟨⟨dst_, (.box x), none⟩, a_, e_, w_⟩ :: rest_) j_ lg_ σ Q = optA (evOp (rho σ.p σ.t) σ.H (.box x)) fun y_ => drawK M ⟨⟨dst_, (.box x), none⟩, a_, e_, w_⟩ rest_ j_ lg_ σ Q y_.1 y_.2 := wpd_val rfl
theorem wpo_build {z : List AV} {parts : List (Nat × Nat × Opd)} {dst_ rest_ σ Q} : wpo M (⟨dst_, (.build z parts), none⟩ :: rest_) σ Q = optA (evOp (rho σ.p σ.t) σ.H (.build z parts)) fun y_ => wpo M rest_ (({ σ with H := y_.2 } : St).put dst_ y_.1) Q := wpo_val rfl
theorem wpd_build {z : List AV} {parts : List (Nat × Nat × Opd)} {dst_ a_ e_ w_ rest_ j_ lg_ σ Q} : wpd M (⟨⟨dst_, (.build z parts), none⟩, a_, e_, w_⟩ :: rest_) j_ lg_ σ Q = optA (evOp (rho σ.p σ.t) σ.H (.build z parts)) fun y_ => drawK M ⟨⟨dst_, (.build z parts), none⟩, a_, e_, w_⟩ rest_ j_ lg_ σ Q y_.1 y_.2 := wpd_val rfl
theorem wpo_lit {z : List AV} {n : Nat} {parts : List (Nat × Nat × Opd)} {dst_ rest_ σ Q} : wpo M (⟨dst_, (.lit z n parts), none⟩ :: rest_) σ Q = optA (evOp (rho σ.p σ.t) σ.H (.lit z n parts)) fun y_ => wpo M rest_ (({ σ with H := y_.2 } : St).put dst_ y_.1) Q := wpo_val rfl
theorem wpd_lit {z : List AV} {n : Nat} {parts : List (Nat × Nat × Opd)} {dst_ a_ e_ w_ rest_ j_ lg_ σ Q} : wpd M (⟨⟨dst_, (.lit z n parts), none⟩, a_, e_, w_⟩ :: rest_) j_ lg_ σ Q = optA (evOp (rho σ.p σ.t) σ.H (.lit z n parts)) fun y_ => drawK M ⟨⟨dst_, (.lit z n parts), none⟩, a_, e_, w_⟩ rest_ j_ lg_ σ Q y_.1 y_.2 := wpd_val rfl
theorem wpo_load1 {x : Opd} {dst_ rest_ σ Q} : wpo M (⟨dst_, (.load1 x), none⟩ :: rest_) σ Q = optA (evOp (rho σ.p σ.t) σ.H (.load1 x)) fun y_ => wpo M rest_ (({ σ with H := y_.2 } : St).put dst_ y_.1) Q := wpo_val rfl
theorem wpd_load1 {x : Opd} {dst_ a_ e_ w_ rest_ j_ lg_ σ Q} : wpd M (⟨⟨dst_, (.load1 x), none⟩, a_, e_, w_⟩ :: rest_) j_ lg_ σ Q = optA (evOp (rho σ.p σ.t) σ.H (.load1 x)) fun y_ => drawK M ⟨⟨dst_, (.load1 x), none⟩, a_, e_, w_⟩ rest_ j_ lg_ σ Q y_.1 y_.2 := wpd_val rfl
theorem wpo_loadN {n : Nat} {x : Opd} {dst_ rest_ σ Q} : wpo M (⟨dst_, (.loadN n x), none⟩ :: rest_) σ Q = optA (evOp (rho σ.p σ.t) σ.H (.loadN n x)) fun y_ => wpo M rest_ (({ σ with H := y_.2 } : St).put dst_ y_.1) Q := wpo_val rfl
theorem wpd_loadN {n : Nat} {x : Opd} {dst_ a_ e_ w_ rest_ j_ lg_ σ Q} : wpd M (⟨⟨dst_, (.loadN n x), none⟩, a_, e_, w_⟩ :: rest_) j_ lg_ σ Q = optA (evOp (rho σ.p σ.t) σ.H (.loadN n x)) fun y_ => drawK M ⟨⟨dst_, (.loadN n x), none⟩, a_, e_, w_⟩ rest_ j_ lg_ σ Q y_.1 y_.2 := wpd_val rfl
theorem wpo_store {n : Nat} {a x : Opd} {dst_ rest_ σ Q} : wpo M (⟨dst_, (.store n a x), none⟩ :: rest_) σ Q = optA (evOp (rho σ.p σ.t) σ.H (.store n a x)) fun y_ => wpo M rest_ (({ σ with H := y_.2 } : St).put dst_ y_.1) Q := wpo_val rfl
theorem wpd_store {n : Nat} {a x : Opd} {dst_ a_ e_ w_ rest_ j_ lg_ σ Q} : wpd M (⟨⟨dst_, (.store n a x), none⟩, a_, e_, w_⟩ :: rest_) j_ lg_ σ Q = optA (evOp (rho σ.p σ.t) σ.H (.store n a x)) fun y_ => drawK M ⟨⟨dst_, (.store n a x), none⟩, a_, e_, w_⟩ rest_ j_ lg_ σ Q y_.1 y_.2 := wpd_val rfl
theorem wpo_nilCheck {x : Opd} {dst_ rest_ σ Q} : wpo M (⟨dst_, (.nilCheck x), none⟩ :: rest_) σ Q = optA (evOp (rho σ.p σ.t) σ.H (.nilCheck x)) fun y_ => wpo M rest_ (({ σ with H := y_.2 } : St).put dst_ y_.1) Q := wpo_val rfl
theorem wpd_nilCheck {x : Opd} {dst_ a_ e_ w_ rest_ j_ lg_ σ Q} : wpd M (⟨⟨dst_, (.nilCheck x), none⟩, a_, e_, w_⟩ :: rest_) j_ lg_ σ Q = optA (evOp (rho σ.p σ.t) σ.H (.nilCheck x)) fun y_ => drawK M ⟨⟨dst_, (.nilCheck x), none⟩, a_, e_, w_⟩ rest_ j_ lg_ σ Q y_.1 y_.2 := wpd_val rfl
theorem wpo_bin {op : BinOp} {x y : Opd} {dst_ rest_ σ Q} : wpo M (⟨dst_, (.bin op x y), none⟩ :: rest_) σ Q = optA (evOp (rho σ.p σ.t) σ.H (.bin op x y)) fun y_ => wpo M rest_ (({ σ with H := y_.2 } : St).put dst_ y_.1) Q := wpo_val rfl
theorem wpd_bin {op : BinOp} {x y : Opd} {dst_ a_ e_ w_ rest_ j_ lg_ σ Q} : wpd M (⟨⟨dst_, (.bin op x y), none⟩, a_, e_, w_⟩ :: rest_) j_ lg_ σ Q = optA (evOp (rho σ.p σ.t) σ.H (.bin op x y)) fun y_ => drawK M ⟨⟨dst_, (.bin op x y), none⟩, a_, e_, w_⟩ rest_ j_ lg_ σ Q y_.1 y_.2 := wpd_val rfl
theorem wpo_eqv {neg : Bool} {k : EqK} {x y : Opd} {dst_ rest_ σ Q} : wpo M (⟨dst_, (.eqv neg k x y), none⟩ :: rest_) σ Q = optA (evOp (rho σ.p σ.t) σ.H (.eqv neg k x y)) fun y_ => wpo M rest_ (({ σ with H := y_.2 } : St).put dst_ y_.1) Q := wpo_val rfl
theorem wpd_eqv {neg : Bool} {k : EqK} {x y : Opd} {dst_ a_ e_ w_ rest_ j_ lg_ σ Q} : wpd M (⟨⟨dst_, (.eqv neg k x y), none⟩, a_, e_, w_⟩ :: rest_) j_ lg_ σ Q = optA (evOp (rho σ.p σ.t) σ.H (.eqv neg k x y)) fun y_ => drawK M ⟨⟨dst_, (.eqv neg k x y), none⟩, a_, e_, w_⟩ rest_ j_ lg_ σ Q y_.1 y_.2 := wpd_val rfl
theorem wpo_un {op : UnOp} {x : Opd} {dst_ rest_ σ Q} : wpo M (⟨dst_, (.un op x), none⟩ :: rest_) σ Q = optA (evOp (rho σ.p σ.t) σ.H (.un op x)) fun y_ => wpo M rest_ (({ σ with H := y_.2 } : St).put dst_ y_.1) Q := wpo_val rfl
theorem wpd_un {op : UnOp} {x : Opd} {dst_ a_ e_ w_ rest_ j_ lg_ σ Q} : wpd M (⟨⟨dst_, (.un op x), none⟩, a_, e_, w_⟩ :: rest_) j_ lg_ σ Q = optA (evOp (rho σ.p σ.t) σ.H (.un op x)) fun y_ => drawK M ⟨⟨dst_, (.un op x), none⟩, a_, e_, w_⟩ rest_ j_ lg_ σ Q y_.1 y_.2 := wpd_val rfl
theorem wpo_convI {k : IntKind} {x : Opd} {dst_ rest_ σ Q} : wpo M (⟨dst_, (.convI k x), none⟩ :: rest_) σ Q = optA (evOp (rho σ.p σ.t) σ.H (.convI k x)) fun y_ => wpo M rest_ (({ σ with H := y_.2 } : St).put dst_ y_.1) Q := wpo_val rfl
theorem wpd_convI {k : IntKind} {x : Opd} {dst_ a_ e_ w_ rest_ j_ lg_ σ Q} : wpd M (⟨⟨dst_, (.convI k x), none⟩, a_, e_, w_⟩ :: rest_) j_ lg_ σ Q = optA (evOp (rho σ.p σ.t) σ.H (.convI k x)) fun y_ => drawK M ⟨⟨dst_, (.convI k x), none⟩, a_, e_, w_⟩ rest_ j_ lg_ σ Q y_.1 y_.2 := wpd_val rfl
theorem wpo_strStr {x : Opd} {dst_ rest_ σ Q} : wpo M (⟨dst_, (.strStr x), none⟩ :: rest_) σ Q = optA (evOp (rho σ.p σ.t) σ.H (.strStr x)) fun y_ => wpo M rest_ (({ σ with H := y_.2 } : St).put dst_ y_.1) Q := wpo_val rfl
theorem wpd_strStr {x : Opd} {dst_ a_ e_ w_ rest_ j_ lg_ σ Q} : wpd M (⟨⟨dst_, (.strStr x), none⟩, a_, e_, w_⟩ :: rest_) j_ lg_ σ Q = optA (evOp (rho σ.p σ.t) σ.H (.strStr x)) fun y_ => drawK M ⟨⟨dst_, (.strStr x), none⟩, a_, e_, w_⟩ rest_ j_ lg_ σ Q y_.1 y_.2 := wpd_val rfl
theorem wpo_intStr {x : Opd} {dst_ rest_ σ Q} : wpo M (⟨dst_, (.intStr x), none⟩ :: rest_) σ Q = optA (evOp (rho σ.p σ.t) σ.H (.intStr x)) fun y_ => wpo M rest_ (({ σ with H := y_.2 } : St).put dst_ y_.1) Q := wpo_val rfl
theorem wpd_intStr {x : Opd} {dst_ a_ e_ w_ rest_ j_ lg_ σ Q} : wpd M (⟨⟨dst_, (.intStr x), none⟩, a_, e_, w_⟩ :: rest_) j_ lg_ σ Q = optA (evOp (rho σ.p σ.t) σ.H (.intStr x)) fun y_ => drawK M ⟨⟨dst_, (.intStr x), none⟩, a_, e_, w_⟩ rest_ j_ lg_ σ Q y_.1 y_.2 := wpd_val rfl
theorem wpo_strBytes {x : Opd} {dst_ rest_ σ Q} : wpo M (⟨dst_, (.strBytes x), none⟩ :: rest_) σ Q = optA (evOp (rho σ.p σ.t) σ.H (.strBytes x)) fun y_ => wpo M rest_ (({ σ with H := y_.2 } : St).put dst_ y_.1) Q := wpo_val rfl
theorem wpd_strBytes {x : Opd} {dst_ a_ e_ w_ rest_ j_ lg_ σ Q} : wpd M (⟨⟨dst_, (.strBytes x), none⟩, a_, e_, w_⟩ :: rest_) j_ lg_ σ Q = optA (evOp (rho σ.p σ.t) σ.H (.strBytes x)) fun y_ => drawK M ⟨⟨dst_, (.strBytes x), none⟩, a_, e_, w_⟩ rest_ j_ lg_ σ Q y_.1 y_.2 := wpd_val rfl
theorem wpo_bytesStr {x : Opd} {dst_ rest_ σ Q} : wpo M (⟨dst_, (.bytesStr x), none⟩ :: rest_) σ Q = optA (evOp (rho σ.p σ.t) σ.H (.bytesStr x)) fun y_ => wpo M rest_ (({ σ with H := y_.2 } : St).put dst_ y_.1) Q := wpo_val rfl
theorem wpd_bytesStr {x : Opd} {dst_ a_ e_ w_ rest_ j_ lg_ σ Q} : wpd M (⟨⟨dst_, (.bytesStr x), none⟩, a_, e_, w_⟩ :: rest_) j_ lg_ σ Q = optA (evOp (rho σ.p σ.t) σ.H (.bytesStr x)) fun y_ => drawK M ⟨⟨dst_, (.bytesStr x), none⟩, a_, e_, w_⟩ rest_ j_ lg_ σ Q y_.1 y_.2 := wpd_val rfl
theorem wpo_mkIface {t : TypeId} {x : Opd} {dst_ rest_ σ Q} : wpo M (⟨dst_, (.mkIface t x), none⟩ :: rest_) σ Q = optA (evOp (rho σ.p σ.t) σ.H (.mkIface t x)) fun y_ => wpo M rest_ (({ σ with H := y_.2 } : St).put dst_ y_.1) Q := wpo_val rfl
theorem wpd_mkIface {t : TypeId} {x : Opd} {dst_ a_ e_ w_ rest_ j_ lg_ σ Q} : wpd M (⟨⟨dst_, (.mkIface t x), none⟩, a_, e_, w_⟩ :: rest_) j_ lg_ σ Q = optA (evOp (rho σ.p σ.t) σ.H (.mkIface t x)) fun y_ => drawK M ⟨⟨dst_, (.mkIface t x), none⟩, a_, e_, w_⟩ rest_ j_ lg_ σ Q y_.1 y_.2 := wpd_val rfl
theorem wpo_mkSlice {z : List AV} {bytes : Nat} {l c : Opd} {dst_ rest_ σ Q} : wpo M (⟨dst_, (.mkSlice z bytes l c), none⟩ :: rest_) σ Q = optA (evOp (rho σ.p σ.t) σ.H (.mkSlice z bytes l c)) fun y_ => wpo M rest_ (({ σ with H := y_.2 } : St).put dst_ y_.1) Q := wpo_val rfl
theorem wpd_mkSlice {z : List AV} {bytes : Nat} {l c : Opd} {dst_ a_ e_ w_ rest_ j_ lg_ σ Q} : wpd M (⟨⟨dst_, (.mkSlice z bytes l c), none⟩, a_, e_, w_⟩ :: rest_) j_ lg_ σ Q = optA (evOp (rho σ.p σ.t) σ.H (.mkSlice z bytes l c)) fun y_ => drawK M ⟨⟨dst_, (.mkSlice z bytes l c), none⟩, a_, e_, w_⟩ rest_ j_ lg_ σ Q y_.1 y_.2 := wpd_val rfl
theorem wpo_sliceStr {x : Opd} {lo hi : Option Opd} {dst_ rest_ σ Q} : wpo M (⟨dst_, (.sliceStr x lo hi), none⟩ :: rest_) σ Q = optA (evOp (rho σ.p σ.t) σ.H (.sliceStr x lo hi)) fun y_ => wpo M rest_ (({ σ with H := y_.2 } : St).put dst_ y_.1) Q := wpo_val rfl
theorem wpd_sliceStr {x : Opd} {lo hi : Option Opd} {dst_ a_ e_ w_ rest_ j_ lg_ σ Q} : wpd M (⟨⟨dst_, (.sliceStr x lo hi), none⟩, a_, e_, w_⟩ :: rest_) j_ lg_ σ Q = optA (evOp (rho σ.p σ.t) σ.H (.sliceStr x lo hi)) fun y_ => drawK M ⟨⟨dst_, (.sliceStr x lo hi), none⟩, a_, e_, w_⟩ rest_ j_ lg_ σ Q y_.1 y_.2 := wpd_val rfl
theorem wpo_sliceSl {sz : Nat} {x : Opd} {lo hi mx : Option Opd} {dst_ rest_ σ Q} : wpo M (⟨dst_, (.sliceSl sz x lo hi mx), none⟩ :: rest_) σ Q = optA (evOp (rho σ.p σ.t) σ.H (.sliceSl sz x lo hi mx)) fun y_ => wpo M rest_ (({ σ with H := y_.2 } : St).put dst_ y_.1) Q := wpo_val rfl
theorem wpd_sliceSl {sz : Nat} {x : Opd} {lo hi mx : Option Opd} {dst_ a_ e_ w_ rest_ j_ lg_ σ Q} : wpd M (⟨⟨dst_, (.sliceSl sz x lo hi mx), none⟩, a_, e_, w_⟩ :: rest_) j_ lg_ σ Q = optA (evOp (rho σ.p σ.t) σ.H (.sliceSl sz x lo hi mx)) fun y_ => drawK M ⟨⟨dst_, (.sliceSl sz x lo hi mx), none⟩, a_, e_, w_⟩ rest_ j_ lg_ σ Q y_.1 y_.2 := wpd_val rfl
theorem wpo_sliceArr {n sz : Nat} {x : Opd} {lo hi mx : Option Opd} {dst_ rest_ σ Q} : wpo M (⟨dst_, (.sliceArr n sz x lo hi mx), none⟩ :: rest_) σ Q = optA (evOp (rho σ.p σ.t) σ.H (.sliceArr n sz x lo hi mx)) fun y_ => wpo M rest_ (({ σ with H := y_.2 } : St).put dst_ y_.1) Q := wpo_val rfl
theorem wpd_sliceArr {n sz : Nat} {x : Opd} {lo hi mx : Option Opd} {dst_ a_ e_ w_ rest_ j_ lg_ σ Q} : wpd M (⟨⟨dst_, (.sliceArr n sz x lo hi mx), none⟩, a_, e_, w_⟩ :: rest_) j_ lg_ σ Q = optA (evOp (rho σ.p σ.t) σ.H (.sliceArr n sz x lo hi mx)) fun y_ => drawK M ⟨⟨dst_, (.sliceArr n sz x lo hi mx), none⟩, a_, e_, w_⟩ rest_ j_ lg_ σ Q y_.1 y_.2 := wpd_val rfl
theorem wpo_fieldAddr {off : Nat} {x : Opd} {dst_ rest_ σ Q} : wpo M (⟨dst_, (.fieldAddr off x), none⟩ :: rest_) σ Q = optA (evOp (rho σ.p σ.t) σ.H (.fieldAddr off x)) fun y_ => wpo M rest_ (({ σ with H := y_.2 } : St).put dst_ y_.1) Q := wpo_val rfl
theorem wpd_fieldAddr {off : Nat} {x : Opd} {dst_ a_ e_ w_ rest_ j_ lg_ σ Q} : wpd M (⟨⟨dst_, (.fieldAddr off x), none⟩, a_, e_, w_⟩ :: rest_) j_ lg_ σ Q = optA (evOp (rho σ.p σ.t) σ.H (.fieldAddr off x)) fun y_ => drawK M ⟨⟨dst_, (.fieldAddr off x), none⟩, a_, e_, w_⟩ rest_ j_ lg_ σ Q y_.1 y_.2 := wpd_val rfl
theorem wpo_field1 {off : Nat} {x : Opd} {dst_ rest_ σ Q} : wpo M (⟨dst_, (.field1 off x), none⟩ :: rest_) σ Q = optA (evOp (rho σ.p σ.t) σ.H (.field1 off x)) fun y_ => wpo M rest_ (({ σ with H := y_.2 } : St).put dst_ y_.1) Q := wpo_val rfl
theorem wpd_field1 {off : Nat} {x : Opd} {dst_ a_ e_ w_ rest_ j_ lg_ σ Q} : wpd M (⟨⟨dst_, (.field1 off x), none⟩, a_, e_, w_⟩ :: rest_) j_ lg_ σ Q = optA (evOp (rho σ.p σ.t) σ.H (.field1 off x)) fun y_ => drawK M ⟨⟨dst_, (.field1 off x), none⟩, a_, e_, w_⟩ rest_ j_ lg_ σ Q y_.1 y_.2 := wpd_val rfl
theorem wpo_fieldN {off n : Nat} {x : Opd} {dst_ rest_ σ Q} : wpo M (⟨dst_, (.fieldN off n x), none⟩ :: rest_) σ Q = optA (evOp (rho σ.p σ.t) σ.H (.fieldN off n x)) fun y_ => wpo M rest_ (({ σ with H := y_.2 } : St).put dst_ y_.1) Q := wpo_val rfl
theorem wpd_fieldN {off n : Nat} {x : Opd} {dst_ a_ e_ w_ rest_ j_ lg_ σ Q} : wpd M (⟨⟨dst_, (.fieldN off n x), none⟩, a_, e_, w_⟩ :: rest_) j_ lg_ σ Q = optA (evOp (rho σ.p σ.t) σ.H (.fieldN off n x)) fun y_ => drawK M ⟨⟨dst_, (.fieldN off n x), none⟩, a_, e_, w_⟩ rest_ j_ lg_ σ Q y_.1 y_.2 := wpd_val rfl
theorem wpo_idxArr {n sz : Nat} {x i : Opd} {dst_ rest_ σ Q} : wpo M (⟨dst_, (.idxArr n sz x i), none⟩ :: rest_) σ Q = optA (evOp (rho σ.p σ.t) σ.H (.idxArr n sz x i)) fun y_ => wpo M rest_ (({ σ with H := y_.2 } : St).put dst_ y_.1) Q := wpo_val rfl
theorem wpd_idxArr {n sz : Nat} {x i : Opd} {dst_ a_ e_ w_ rest_ j_ lg_ σ Q} : wpd M (⟨⟨dst_, (.idxArr n sz x i), none⟩, a_, e_, w_⟩ :: rest_) j_ lg_ σ Q = optA (evOp (rho σ.p σ.t) σ.H (.idxArr n sz x i)) fun y_ => drawK M ⟨⟨dst_, (.idxArr n sz x i), none⟩, a_, e_, w_⟩ rest_ j_ lg_ σ Q y_.1 y_.2 := wpd_val rfl
theorem wpo_idxStr {x i : Opd} {dst_ rest_ σ Q} : wpo M (⟨dst_, (.idxStr x i), none⟩ :: rest_) σ Q = optA (evOp (rho σ.p σ.t) σ.H (.idxStr x i)) fun y_ => wpo M rest_ (({ σ with H := y_.2 } : St).put dst_ y_.1) Q := wpo_val rfl
theorem wpd_idxStr {x i : Opd} {dst_ a_ e_ w_ rest_ j_ lg_ σ Q} : wpd M (⟨⟨dst_, (.idxStr x i), none⟩, a_, e_, w_⟩ :: rest_) j_ lg_ σ Q = optA (evOp (rho σ.p σ.t) σ.H (.idxStr x i)) fun y_ => drawK M ⟨⟨dst_, (.idxStr x i), none⟩, a_, e_, w_⟩ rest_ j_ lg_ σ Q y_.1 y_.2 := wpd_val rfl
theorem wpo_idxAgg {n : Nat} {x i : Opd} {dst_ rest_ σ Q} : wpo M (⟨dst_, (.idxAgg n x i), none⟩ :: rest_) σ Q = optA (evOp (rho σ.p σ.t) σ.H (.idxAgg n x i)) fun y_ => wpo M rest_ (({ σ with H := y_.2 } : St).put dst_ y_.1) Q := wpo_val rfl
theorem wpd_idxAgg {n : Nat} {x i : Opd} {dst_ a_ e_ w_ rest_ j_ lg_ σ Q} : wpd M (⟨⟨dst_, (.idxAgg n x i), none⟩, a_, e_, w_⟩ :: rest_) j_ lg_ σ Q = optA (evOp (rho σ.p σ.t) σ.H (.idxAgg n x i)) fun y_ => drawK M ⟨⟨dst_, (.idxAgg n x i), none⟩, a_, e_, w_⟩ rest_ j_ lg_ σ Q y_.1 y_.2 := wpd_val rfl
theorem wpo_extract {x : Opd} {i : Nat} {dst_ rest_ σ Q} : wpo M (⟨dst_, (.extract x i), none⟩ :: rest_) σ Q = optA (evOp (rho σ.p σ.t) σ.H (.extract x i)) fun y_ => wpo M rest_ (({ σ with H := y_.2 } : St).put dst_ y_.1) Q := wpo_val rfl
theorem wpd_extract {x : Opd} {i : Nat} {dst_ a_ e_ w_ rest_ j_ lg_ σ Q} : wpd M (⟨⟨dst_, (.extract x i), none⟩, a_, e_, w_⟩ :: rest_) j_ lg_ σ Q = optA (evOp (rho σ.p σ.t) σ.H (.extract x i)) fun y_ => drawK M ⟨⟨dst_, (.extract x i), none⟩, a_, e_, w_⟩ rest_ j_ lg_ σ Q y_.1 y_.2 := wpd_val rfl
theorem wpo_lenStr {x : Opd} {dst_ rest_ σ Q} : wpo M (⟨dst_, (.lenStr x), none⟩ :: rest_) σ Q = optA (evOp (rho σ.p σ.t) σ.H (.lenStr x)) fun y_ => wpo M rest_ (({ σ with H := y_.2 } : St).put dst_ y_.1) Q := wpo_val rfl
theorem wpd_lenStr {x : Opd} {dst_ a_ e_ w_ rest_ j_ lg_ σ Q} : wpd M (⟨⟨dst_, (.lenStr x), none⟩, a_, e_, w_⟩ :: rest_) j_ lg_ σ Q = optA (evOp (rho σ.p σ.t) σ.H (.lenStr x)) fun y_ => drawK M ⟨⟨dst_, (.lenStr x), none⟩, a_, e_, w_⟩ rest_ j_ lg_ σ Q y_.1 y_.2 := wpd_val rfl
theorem wpo_capSl {x : Opd} {dst_ rest_ σ Q} : wpo M (⟨dst_, (.capSl x), none⟩ :: rest_) σ Q = optA (evOp (rho σ.p σ.t) σ.H (.capSl x)) fun y_ => wpo M rest_ (({ σ with H := y_.2 } : St).put dst_ y_.1) Q := wpo_val rfl
theorem wpd_capSl {x : Opd} {dst_ a_ e_ w_ rest_ j_ lg_ σ Q} : wpd M (⟨⟨dst_, (.capSl x), none⟩, a_, e_, w_⟩ :: rest_) j_ lg_ σ Q = optA (evOp (rho σ.p σ.t) σ.H (.capSl x)) fun y_ => drawK M ⟨⟨dst_, (.capSl x), none⟩, a_, e_, w_⟩ rest_ j_ lg_ σ Q y_.1 y_.2 := wpd_val rfl
theorem wpo_append {sz bytes : Nat} {x y : Opd} {dst_ rest_ σ Q} : wpo M (⟨dst_, (.append sz bytes x y), none⟩ :: rest_) σ Q = optA (evOp (rho σ.p σ.t) σ.H (.append sz bytes x y)) fun y_ => wpo M rest_ (({ σ with H := y_.2 } : St).put dst_ y_.1) Q := wpo_val rfl
theorem wpd_append {sz bytes : Nat} {x y : Opd} {dst_ a_ e_ w_ rest_ j_ lg_ σ Q} : wpd M (⟨⟨dst_, (.append sz bytes x y), none⟩, a_, e_, w_⟩ :: rest_) j_ lg_ σ Q = optA (evOp (rho σ.p σ.t) σ.H (.append sz bytes x y)) fun y_ => drawK M ⟨⟨dst_, (.append sz bytes x y), none⟩, a_, e_, w_⟩ rest_ j_ lg_ σ Q y_.1 y_.2 := wpd_val rfl
theorem wpo_appendStr {x y : Opd} {dst_ rest_ σ Q} : wpo M (⟨dst_, (.appendStr x y), none⟩ :: rest_) σ Q = optA (evOp (rho σ.p σ.t) σ.H (.appendStr x y)) fun y_ => wpo M rest_ (({ σ with H := y_.2 } : St).put dst_ y_.1) Q := wpo_val rfl
theorem wpd_appendStr {x y : Opd} {dst_ a_ e_ w_ rest_ j_ lg_ σ Q} : wpd M (⟨⟨dst_, (.appendStr x y), none⟩, a_, e_, w_⟩ :: rest_) j_ lg_ σ Q = optA (evOp (rho σ.p σ.t) σ.H (.appendStr x y)) fun y_ => drawK M ⟨⟨dst_, (.appendStr x y), none⟩, a_, e_, w_⟩ rest_ j_ lg_ σ Q y_.1 y_.2 := wpd_val rfl
theorem wpo_appendZ {z : List AV} {bytes : Nat} {x n : Opd} {dst_ rest_ σ Q} : wpo M (⟨dst_, (.appendZ z bytes x n), none⟩ :: rest_) σ Q = optA (evOp (rho σ.p σ.t) σ.H (.appendZ z bytes x n)) fun y_ => wpo M rest_ (({ σ with H := y_.2 } : St).put dst_ y_.1) Q := wpo_val rfl
theorem wpd_appendZ {z : List AV} {bytes : Nat} {x n : Opd} {dst_ a_ e_ w_ rest_ j_ lg_ σ Q} : wpd M (⟨⟨dst_, (.appendZ z bytes x n), none⟩, a_, e_, w_⟩ :: rest_) j_ lg_ σ Q = optA (evOp (rho σ.p σ.t) σ.H (.appendZ z bytes x n)) fun y_ => drawK M ⟨⟨dst_, (.appendZ z bytes x n), none⟩, a_, e_, w_⟩ rest_ j_ lg_ σ Q y_.1 y_.2 := wpd_val rfl
theorem wpo_minmax {mx : Bool} {xs : List Opd} {dst_ rest_ σ Q} : wpo M (⟨dst_, (.minmax mx xs), none⟩ :: rest_) σ Q = optA (evOp (rho σ.p σ.t) σ.H (.minmax mx xs)) fun y_ => wpo M rest_ (({ σ with H := y_.2 } : St).put dst_ y_.1) Q := wpo_val rfl
theorem wpd_minmax {mx : Bool} {xs : List Opd} {dst_ a_ e_ w_ rest_ j_ lg_ σ Q} : wpd M (⟨⟨dst_, (.minmax mx xs), none⟩, a_, e_, w_⟩ :: rest_) j_ lg_ σ Q = optA (evOp (rho σ.p σ.t) σ.H (.minmax mx xs)) fun y_ => drawK M ⟨⟨dst_, (.minmax mx xs), none⟩, a_, e_, w_⟩ rest_ j_ lg_ σ Q y_.1 y_.2 := wpd_val rfl
theorem wpo_assert {t : TypeId} {zero : Option AV} {x : Opd} {dst_ rest_ σ Q} : wpo M (⟨dst_, (.assert t zero x), none⟩ :: rest_) σ Q = optA (evOp (rho σ.p σ.t) σ.H (.assert t zero x)) fun y_ => wpo M rest_ (({ σ with H := y_.2 } : St).put dst_ y_.1) Q := wpo_val rfl
theorem wpd_assert {t : TypeId} {zero : Option AV} {x : Opd} {dst_ a_ e_ w_ rest_ j_ lg_ σ Q} : wpd M (⟨⟨dst_, (.assert t zero x), none⟩, a_, e_, w_⟩ :: rest_) j_ lg_ σ Q = optA (evOp (rho σ.p σ.t) σ.H (.assert t zero x)) fun y_ => drawK M ⟨⟨dst_, (.assert t zero x), none⟩, a_, e_, w_⟩ rest_ j_ lg_ σ Q y_.1 y_.2 := wpd_val rfl
theorem wpo_rangeStr {x : Opd} {dst_ rest_ σ Q} : wpo M (⟨dst_, (.rangeStr x), none⟩ :: rest_) σ Q = optA (evOp (rho σ.p σ.t) σ.H (.rangeStr x)) fun y_ => wpo M rest_ (({ σ with H := y_.2 } : St).put dst_ y_.1) Q := wpo_val rfl
theorem wpd_rangeStr {x : Opd} {dst_ a_ e_ w_ rest_ j_ lg_ σ Q} : wpd M (⟨⟨dst_, (.rangeStr x), none⟩, a_, e_, w_⟩ :: rest_) j_ lg_ σ Q = optA (evOp (rho σ.p σ.t) σ.H (.rangeStr x)) fun y_ => drawK M ⟨⟨dst_, (.rangeStr x), none⟩, a_, e_, w_⟩ rest_ j_ lg_ σ Q y_.1 y_.2 := wpd_val rfl
theorem wpo_nextStr {x : Opd} {dst_ rest_ σ Q} : wpo M (⟨dst_, (.nextStr x), none⟩ :: rest_) σ Q = optA (evOp (rho σ.p σ.t) σ.H (.nextStr x)) fun y_ => wpo M rest_ (({ σ with H := y_.2 } : St).put dst_ y_.1) Q := wpo_val rfl
theorem wpd_nextStr {x : Opd} {dst_ a_ e_ w_ rest_ j_ lg_ σ Q} : wpd M (⟨⟨dst_, (.nextStr x), none⟩, a_, e_, w_⟩ :: rest_) j_ lg_ σ Q = optA (evOp (rho σ.p σ.t) σ.H (.nextStr x)) fun y_ => drawK M ⟨⟨dst_, (.nextStr x), none⟩, a_, e_, w_⟩ rest_ j_ lg_ σ Q y_.1 y_.2 := wpd_val rfl
theorem wpo_idxByte {x y : Opd} {dst_ rest_ σ Q} : wpo M (⟨dst_, (.idxByte x y), none⟩ :: rest_) σ Q = optA (evOp (rho σ.p σ.t) σ.H (.idxByte x y)) fun y_ => wpo M rest_ (({ σ with H := y_.2 } : St).put dst_ y_.1) Q := wpo_val rfl
theorem wpd_idxByte {x y : Opd} {dst_ a_ e_ w_ rest_ j_ lg_ σ Q} : wpd M (⟨⟨dst_, (.idxByte x y), none⟩, a_, e_, w_⟩ :: rest_) j_ lg_ σ Q = optA (evOp (rho σ.p σ.t) σ.H (.idxByte x y)) fun y_ => drawK M ⟨⟨dst_, (.idxByte x y), none⟩, a_, e_, w_⟩ rest_ j_ lg_ σ Q y_.1 y_.2 := wpd_val rfl
theorem optA_map0 {α β : Type} {x : Option α} {f : α → β} {k : β → Prop} : optA (x.map f) k = optA x fun a => k (f a) := by cases x <;> rfl
/-- How long a slice is. -/
def lenI : AV → Option Int
  | .slice _ _ n _ => some n
  | .osl _ _ _ n => some n
  | .nils => some 0
  | _ => none
theorem lenI_slice {b o n c : Nat} : lenI (.slice b o n c) = some (n : Int) := rfl
theorem lenI_osl {s b o n : Nat} : lenI (.osl s b o n) = some (n : Int) := rfl
theorem lenI_nils : lenI .nils = some 0 := rfl
theorem evOp_lenSl {ρ : Opd → Option AV} {H : Heap} {x : Opd} : evOp ρ H (.lenSl x) = ((ρ x).bind lenI).map fun n => (.int .i64 n, H) := by
  cases h : ρ x with
  | none => simp [evOp, h]
  | some v => cases v <;> simp [evOp, h, lenI]
theorem wpo_lenSl {x dst_ rest_ σ Q} : wpo M (⟨dst_, .lenSl x, none⟩ :: rest_) σ Q = optA ((rho σ.p σ.t x).bind lenI) fun n => wpo M rest_ (σ.put dst_ (.int .i64 n)) Q := by
  rw [wpo_val rfl, evOp_lenSl]; cases (rho σ.p σ.t x).bind lenI <;> rfl
theorem wpd_lenSl {x dst_ a_ e_ w_ rest_ j_ lg_ σ Q} : wpd M (⟨⟨dst_, .lenSl x, none⟩, a_, e_, w_⟩ :: rest_) j_ lg_ σ Q = optA ((rho σ.p σ.t x).bind lenI) fun n => drawK M ⟨⟨dst_, .lenSl x, none⟩, a_, e_, w_⟩ rest_ j_ lg_ σ Q (.int .i64 n) σ.H := by
  rw [wpd_val rfl, evOp_lenSl]; cases (rho σ.p σ.t x).bind lenI <;> rfl
/-- Where an element of a slice lies. -/
def elA (sz : Nat) : AV → AV → Option AV
  | .slice b off n _, .int _ i => if 0 ≤ i ∧ i < n then some (.ptr b (off + i.toNat * sz)) else none
  | .osl s b off n, .int _ i => if s = sz ∧ 0 ≤ i ∧ i < n then some (.ptr b (off + i.toNat * sz)) else none
  | _, _ => none
theorem elA_slice {sz b off n c : Nat} {k : IntKind} {i : Int} : elA sz (.slice b off n c) (.int k i) = if 0 ≤ i ∧ i < n then some (.ptr b (off + i.toNat * sz)) else none := rfl
theorem elA_osl {sz s b off n : Nat} {k : IntKind} {i : Int} : elA sz (.osl s b off n) (.int k i) = if s = sz ∧ 0 ≤ i ∧ i < n then some (.ptr b (off + i.toNat * sz)) else none := rfl
theorem evOp_idxAddr {ρ : Opd → Option AV} {H : Heap} {sz : Nat} {x i : Opd} : evOp ρ H (.idxAddr sz x i) = ((ρ x).bind fun v => (ρ i).bind fun j => elA sz v j).map fun y => (y, H) := by
  cases h : ρ x with
  | none => simp [evOp, h]
  | some v =>
    cases g : ρ i with
    | none => cases v <;> simp [evOp, h, g]
    | some j =>
      cases v <;> cases j <;> simp only [evOp, h, g, elA, Option.bind_some, Option.map_none]
      all_goals
        split <;> rfl
theorem wpo_idxAddr {sz : Nat} {x i : Opd} {dst_ rest_ σ Q} : wpo M (⟨dst_, .idxAddr sz x i, none⟩ :: rest_) σ Q = optA ((rho σ.p σ.t x).bind fun v => (rho σ.p σ.t i).bind fun j => elA sz v j) fun y => wpo M rest_ (σ.put dst_ y) Q := by
  rw [wpo_val rfl, evOp_idxAddr, optA_map0]
theorem wpd_idxAddr {sz : Nat} {x i : Opd} {dst_ a_ e_ w_ rest_ j_ lg_ σ Q} : wpd M (⟨⟨dst_, .idxAddr sz x i, none⟩, a_, e_, w_⟩ :: rest_) j_ lg_ σ Q = optA ((rho σ.p σ.t x).bind fun v => (rho σ.p σ.t i).bind fun j => elA sz v j) fun y => drawK M ⟨⟨dst_, .idxAddr sz x i, none⟩, a_, e_, w_⟩ rest_ j_ lg_ σ Q y σ.H := by
  rw [wpd_val rfl, evOp_idxAddr, optA_map0]
theorem readSl_nils {H : Heap} {sz : Nat} : readSl H sz .nils = some (0, []) := rfl
theorem readSl_slice {H : Heap} {sz b off n c : Nat} : readSl H sz (.slice b off n c) = if n = 0 then some (0, []) else match H.get b with
    | .cells c _ => if off + n * sz ≤ c.length then some (n, rd c off (n * sz)) else none
    | _ => none := rfl
theorem readSl_osl {H : Heap} {sz s b off n : Nat} : readSl H sz (.osl s b off n) = if s = sz then (if n = 0 then some (0, []) else match H.get b with
    | .cells c _ => if off + n * sz ≤ c.length then some (n, rd c off (n * sz)) else none
    | _ => none) else none := rfl
theorem mapM_rho {p t : List (Nat × AV)} : ∀ l : List Opd, l.mapM (rho p t) = rhos p t l
  | [] => rfl
  | x :: l => by
    rw [List.mapM_cons, mapM_rho l]
    simp only [rhos]
    cases rho p t x with
    | none => rfl
    | some v => cases rhos p t l <;> rfl
theorem evOp_mkFn {p t : List (Nat × AV)} {H : Heap} {f : FuncId} {caps : List Opd} : evOp (rho p t) H (.mkFn f caps) = (rhos p t caps).map fun l => (.fn f l, H) := by
  simp only [evOp, mapM_rho]
theorem wpo_mkFn {f : FuncId} {caps : List Opd} {dst_ rest_ σ Q} : wpo M (⟨dst_, .mkFn f caps, none⟩ :: rest_) σ Q = optA (rhos σ.p σ.t caps) fun l => wpo M rest_ (σ.put dst_ (.fn f l)) Q := by
  rw [wpo_val rfl, evOp_mkFn]; cases rhos σ.p σ.t caps <;> rfl
theorem wpd_mkFn {f : FuncId} {caps : List Opd} {dst_ a_ e_ w_ rest_ j_ lg_ σ Q} : wpd M (⟨⟨dst_, .mkFn f caps, none⟩, a_, e_, w_⟩ :: rest_) j_ lg_ σ Q = optA (rhos σ.p σ.t caps) fun l => drawK M ⟨⟨dst_, .mkFn f caps, none⟩, a_, e_, w_⟩ rest_ j_ lg_ σ Q (.fn f l) σ.H := by
  rw [wpd_val rfl, evOp_mkFn]; cases rhos σ.p σ.t caps <;> rfl
theorem intBin_add {k : IntKind} {a b : Int} : intBin .add k a b = some (.int k (k.wrap (a + b))) := rfl
theorem intBin_sub {k : IntKind} {a b : Int} : intBin .sub k a b = some (.int k (k.wrap (a - b))) := rfl
theorem intBin_mul {k : IntKind} {a b : Int} : intBin .mul k a b = some (.int k (k.wrap (a * b))) := rfl
theorem intBin_quo {k : IntKind} {a b : Int} : intBin .quo k a b = if b = 0 then none else some (.int k (k.wrap (a.tdiv b))) := rfl
theorem intBin_rem {k : IntKind} {a b : Int} : intBin .rem k a b = if b = 0 then none else some (.int k (a.tmod b)) := rfl
theorem intBin_eql {k : IntKind} {a b : Int} : intBin .eql k a b = some (.bool (decide (a = b))) := rfl
theorem intBin_neq {k : IntKind} {a b : Int} : intBin .neq k a b = some (.bool (!decide (a = b))) := rfl
theorem intBin_lss {k : IntKind} {a b : Int} : intBin .lss k a b = some (.bool (decide (a < b))) := rfl
theorem intBin_leq {k : IntKind} {a b : Int} : intBin .leq k a b = some (.bool (decide (a ≤ b))) := rfl
theorem intBin_gtr {k : IntKind} {a b : Int} : intBin .gtr k a b = some (.bool (decide (b < a))) := rfl
theorem intBin_geq {k : IntKind} {a b : Int} : intBin .geq k a b = some (.bool (decide (b ≤ a))) := rfl

end

-- the small words of the rules
@[congr] theorem wpo_congr {M : Mach} {o : List Cop} {s t : St} {Q} (h : s = t) : wpo M o s Q = wpo M o t Q := by rw [h]
@[congr] theorem wpc_congr {M : Mach} {o : CCode} {s t : St} {Q} (h : s = t) : wpc M o s Q = wpc M o t Q := by rw [h]
@[congr] theorem wpd_congr {M : Mach} {o : List DCop} {i lg lg'} {s t : St} {Q} (h : s = t) (hl : lg = lg') : wpd M o i lg s Q = wpd M o i lg' t Q := by rw [h, hl]
@[congr] theorem wpl_congr {M : Mach} {l o} {s t : St} {Q} (h : s = t) : wpl M l o s Q = wpl M l o t Q := by rw [h]
@[congr] theorem wpf_congr {M : Mach} {f} {a b : List AV} {H H' : Heap} {Q} (h : a = b) (h' : H = H') : wpf M f a H Q = wpf M f b H' Q := by rw [h, h']
@[congr] theorem wpe_congr {M : Mach} {rs} {p p' d d' u u' H H' Q} (h1 : p = p') (h2 : d = d') (h3 : u = u') (h4 : H = H') : wpe M rs p d u H Q = wpe M rs p' d' u' H' Q := by rw [h1, h2, h3, h4]
@[congr] theorem wpfd_congr {M : Mach} {f} {a b : List AV} {u u' : Up} {H H' : Heap} {Q} (h : a = b) (h1 : u = u') (h' : H = H') : wpfd M f a u H Q = wpfd M f b u' H' Q := by rw [h, h1, h']
@[congr] theorem optA_congr {α : Type} {x y : Option α} {k : α → Prop} (h : x = y) : optA x k = optA y k := by rw [h]
@[congr] theorem optB_congr {x y : Option AV} {A B : Prop} (h : x = y) : optB x A B = optB y A B := by rw [h]
@[congr] theorem grd_congr {x y : Option AV} {w : Bool} {A B : Prop} (h : x = y) : grd x w A B = grd y w A B := by rw [h]
@[congr] theorem optF_congr {x y : Option AV} {k : FuncId → List AV → Prop} (h : x = y) : optF x k = optF y k := by rw [h]
@[congr] theorem optI_congr {x y : Option AV} {k : AV → Prop} (h : x = y) : optI x k = optI y k := by rw [h]
@[congr] theorem brB_congr {x y : Bool} {A B : Prop} (h : x = y) : brB x A B = brB y A B := by rw [h]
@[congr] theorem seqK_congr {M : Mach} {b Q} {c c' : Ctl} {s s' : St} (h : c = c') (h' : s = s') : seqK M b Q c s = seqK M b Q c' s' := by rw [h, h']
@[congr] theorem blockK_congr {i l Q} {c c' : Ctl} {s s' : St} (h : c = c') (h' : s = s') : blockK i l Q c s = blockK i l Q c' s' := by rw [h, h']
@[congr] theorem loopK_congr {M : Mach} {l b Q} {c c' : Ctl} {s s' : St} (h : c = c') (h' : s = s') : loopK M l b Q c s = loopK M l b Q c' s' := by rw [h, h']
@[congr] theorem callK_congr {M : Mach} {d r s Q} {c c' : End} {H H' : Heap} (h : c = c') (h' : H = H') : callK M d r s Q c H = callK M d r s Q c' H' := by rw [h, h']
@[congr] theorem callPK_congr {M : Mach} {d r s Q} {c c' : End} {H H' : Heap} (h : c = c') (h' : H = H') : callPK M d r s Q c H = callPK M d r s Q c' H' := by rw [h, h']
@[congr] theorem dcallK_congr {M : Mach} {d r i l s Q} {c c' : End} {H H' : Heap} (h : c = c') (h' : H = H') : dcallK M d r i l s Q c H = dcallK M d r i l s Q c' H' := by rw [h, h']
@[congr] theorem finK_congr {M : Mach} {rs Q} {c c' : Ctl} {s s' : St} (h : c = c') (h' : s = s') : finK M rs Q c s = finK M rs Q c' s' := by rw [h, h']
@[congr] theorem dfinK_congr {rs Q} {c c' : Ctl} {s s' : St} (h : c = c') (h' : s = s') : dfinK rs Q c s = dfinK rs Q c' s' := by rw [h, h']
@[congr] theorem dfrK_congr {M : Mach} {rs p ds Q} {c c' : End} {u u' : Up} {H H' : Heap} (h : c = c') (h1 : u = u') (h' : H = H') : dfrK M rs p ds Q c u H = dfrK M rs p ds Q c' u' H' := by rw [h, h1, h']

theorem optA_some {α : Type} {a : α} {k : α → Prop} : optA (some a) k = k a := rfl
theorem optA_none {α : Type} {k : α → Prop} : optA none k = False := rfl
theorem optA_map {α β : Type} {x : Option α} {f : α → β} {k : β → Prop} : optA (x.map f) k = optA x fun a => k (f a) := by cases x <;> rfl
theorem optA_iten {α : Type} {c : Prop} [Decidable c] {x : Option α} {k : α → Prop} : optA (if c then x else none) k = (c ∧ optA x k) := by
  by_cases h : c <;> simp [h, optA]
theorem optA_nite {α : Type} {c : Prop} [Decidable c] {x : Option α} {k : α → Prop} : optA (if c then none else x) k = (¬c ∧ optA x k) := by
  by_cases h : c <;> simp [h, optA]
def hpc (M : Mach) (c : CCode) (σ : St) (Q : Ctl → St → Prop) : Prop := wpc M c σ Q
def hpo (M : Mach) (c : List Cop) (σ : St) (Q : Ctl → St → Prop) : Prop := wpo M c σ Q
def hpd (M : Mach) (c : List DCop) (i : Nat) (lg : List (Nat × LogE)) (σ : St) (Q : Ctl → St → Prop) : Prop := wpd M c i lg σ Q
theorem wpc_condH {M : Mach} {c : Opd} {a b : CCode} {σ : St} {Q} : wpc M (.cond c a b) σ Q = optB (rho σ.p σ.t c) (hpc M a σ Q) (hpc M b σ Q) := wpc_cond
theorem wpo_grdH {M : Mach} {d : Dst} {op : COp} {x : Opd} {w : Bool} {r : List Cop} {σ : St} {Q} : wpo M (⟨d, op, some (x, w)⟩ :: r) σ Q = grd (rho σ.p σ.t x) w (hpo M (⟨d, op, none⟩ :: r) σ Q) (hpo M r (σ.put d undefA) Q) := wpo_grd
theorem wpd_grdH {M : Mach} {d : Dst} {op : COp} {x : Opd} {w : Bool} {l tl : Bool} {u : List Nat} {r : List DCop} {i lg} {σ : St} {Q} : wpd M (⟨⟨d, op, some (x, w)⟩, l, tl, u⟩ :: r) i lg σ Q = grd (rho σ.p σ.t x) w (hpd M (⟨⟨d, op, none⟩, l, tl, u⟩ :: r) i lg σ Q) (hpd M r (i + 1) (if l then (i, .no) :: lg else lg) (σ.put d undefA) Q) := wpd_grd
theorem optB_bool {b : Bool} {A B : Prop} : optB (some (.bool b)) A B = brB b A B := by cases b <;> rfl
theorem brB_trueC {M a σ Q B} : brB true (hpc M a σ Q) B = wpc M a σ Q := rfl
theorem brB_falseC {M a σ Q A} : brB false A (hpc M a σ Q) = wpc M a σ Q := rfl
theorem brB_trueO {M a σ Q B} : brB true (hpo M a σ Q) B = wpo M a σ Q := rfl
theorem brB_falseO {M a σ Q A} : brB false A (hpo M a σ Q) = wpo M a σ Q := rfl
theorem brB_trueD {M a i lg σ Q B} : brB true (hpd M a i lg σ Q) B = wpd M a i lg σ Q := rfl
theorem brB_falseD {M a i lg σ Q A} : brB false A (hpd M a i lg σ Q) = wpd M a i lg σ Q := rfl
theorem grd_true {b : Bool} {A B : Prop} : grd (some (.bool b)) true A B = brB b A B := by cases b <;> rfl
theorem grd_false {b : Bool} {A B : Prop} : grd (some (.bool b)) false A B = brB b B A := by cases b <;> rfl
theorem grd_undefO {M a σ Q} {w : Bool} {A : Prop} : grd (some (.tup [])) w A (hpo M a σ Q) = wpo M a σ Q := rfl
theorem grd_undefD {M a i lg σ Q} {w : Bool} {A : Prop} : grd (some (.tup [])) w A (hpd M a i lg σ Q) = wpd M a i lg σ Q := rfl
theorem optF_fn {f : FuncId} {cap : List AV} {k} : optF (some (.fn f cap)) k = k f cap := rfl
theorem optI_iface {t : TypeId} {v : AV} {k} : optI (some (.iface t v)) k = k (.iface t v) := rfl
theorem brC {M a b σ τ Q R} {x : Bool} (h1 : x = true → wpc M a σ Q) (h2 : x = false → wpc M b τ R) : brB x (hpc M a σ Q) (hpc M b τ R) := by cases x; exact h2 rfl; exact h1 rfl
theorem brO {M a b σ τ Q R} {x : Bool} (h1 : x = true → wpo M a σ Q) (h2 : x = false → wpo M b τ R) : brB x (hpo M a σ Q) (hpo M b τ R) := by cases x; exact h2 rfl; exact h1 rfl
theorem brD {M a b i lg j lh σ τ Q R} {x : Bool} (h1 : x = true → wpd M a i lg σ Q) (h2 : x = false → wpd M b j lh τ R) : brB x (hpd M a i lg σ Q) (hpd M b j lh τ R) := by cases x; exact h2 rfl; exact h1 rfl
theorem brCd {M a b σ τ Q R} {c : Prop} [Decidable c] (h1 : c → wpc M a σ Q) (h2 : ¬c → wpc M b τ R) : brB (decide c) (hpc M a σ Q) (hpc M b τ R) := brC (fun h => h1 (of_decide_eq_true h)) (fun h => h2 (of_decide_eq_false h))
theorem brOd {M a b σ τ Q R} {c : Prop} [Decidable c] (h1 : c → wpo M a σ Q) (h2 : ¬c → wpo M b τ R) : brB (decide c) (hpo M a σ Q) (hpo M b τ R) := brO (fun h => h1 (of_decide_eq_true h)) (fun h => h2 (of_decide_eq_false h))
theorem brDd {M a b i lg j lh σ τ Q R} {c : Prop} [Decidable c] (h1 : c → wpd M a i lg σ Q) (h2 : ¬c → wpd M b j lh τ R) : brB (decide c) (hpd M a i lg σ Q) (hpd M b j lh τ R) := brD (fun h => h1 (of_decide_eq_true h)) (fun h => h2 (of_decide_eq_false h))
theorem seqK_normal {M : Mach} {b Q σ} : seqK M b Q .normal σ = wpc M b σ Q := rfl
theorem seqK_exit {M : Mach} {b Q σ i} : seqK M b Q (.exit i) σ = Q (.exit i) σ := rfl
theorem seqK_ret {M : Mach} {b Q σ} : seqK M b Q .ret σ = Q .ret σ := rfl
theorem seqK_panic {M : Mach} {b Q σ c} : seqK M b Q (.panic c) σ = Q (.panic c) σ := rfl
theorem blockK_normal {i l Q σ} : blockK i l Q .normal σ = Q .normal (σ.keep l) := rfl
theorem blockK_exit {i l Q σ j} : blockK i l Q (.exit j) σ = if j = i then Q .normal (σ.keep l) else Q (.exit j) σ := rfl
theorem blockK_ret {i l Q σ} : blockK i l Q .ret σ = Q .ret σ := rfl
theorem blockK_panic {i l Q σ c} : blockK i l Q (.panic c) σ = Q (.panic c) σ := rfl
theorem lk_keepM {i : Nat} {l : List (Nat × AV)} : ∀ {live : List Nat}, i ∈ live → lk i (keep live l) = lk i l
  | [], h => by simp at h
  | j :: r, h => by
    simp only [keep]
    by_cases e : i = j
    · subst e
      cases hj : lk i l with
      | none =>
        simp only
        by_cases hm : i ∈ r
        · rw [lk_keepM hm, hj]
        · have : ∀ r : List Nat, i ∉ r → lk i (keep r l) = none := by
            intro r
            induction r with
            | nil => intro _; rfl
            | cons k r ih =>
              intro hk
              simp only [List.mem_cons, not_or] at hk
              simp only [keep]
              split
              · simp only [lk, if_neg hk.1]; exact ih hk.2
              · exact ih hk.2
          exact this r hm
      | some v => simp only [lk, if_true]
    · have hm : i ∈ r := by simpa [e] using h
      cases hj : lk j l with
      | none => simp only; exact lk_keepM hm
      | some v => simp only [lk, if_neg e]; exact lk_keepM hm
theorem keep_sub {live : List Nat} {l : List (Nat × AV)} : ∀ {sub : List Nat}, (∀ i ∈ sub, i ∈ live) → keep sub (keep live l) = keep sub l
  | [], _ => rfl
  | j :: r, h => by
    simp only [keep]
    rw [lk_keepM (h j (by simp)), keep_sub fun i hi => h i (by simp [hi])]
theorem St.keep_keep {σ : St} {live : List Nat} : (σ.keep live).keep live = σ.keep live := by
  simp only [St.keep]; rw [keep_sub fun _ h => h]
theorem wpl_norm {M : Mach} {live c σ Q} : wpl M live c σ Q = wpl M live c (σ.keep live) Q := by rw [wpl_step, wpl_step, St.keep_keep]
theorem wpc_loopH {M : Mach} {live c σ Q} : wpc M (.loop live c) σ Q = wpl M live c (σ.keep live) Q := by rw [wpc_loop, wpl_norm]
theorem loopK_normal {M : Mach} {l b Q σ} : loopK M l b Q .normal σ = wpl M l b (σ.keep l) Q := wpl_norm
theorem loopK_exit {M : Mach} {l b Q σ i} : loopK M l b Q (.exit i) σ = Q (.exit i) σ := rfl
theorem loopK_ret {M : Mach} {l b Q σ} : loopK M l b Q .ret σ = Q .ret σ := rfl
theorem loopK_panic {M : Mach} {l b Q σ c} : loopK M l b Q (.panic c) σ = Q (.panic c) σ := rfl
theorem callK_ret {M : Mach} {d r σ Q v H} : callK M d r σ Q (.ret v) H = wpo M r (({ σ with H := H } : St).put d v) Q := rfl
theorem callK_pan {M : Mach} {d r σ Q c H} : callK M d r σ Q (.pan c) H = Q (.panic c) { σ with H := H } := rfl
theorem callPK_ret {M : Mach} {d r σ Q v H} : callPK M d r σ Q (.ret v) H = (v.flat = true ∧ wpo M r (σ.put d v) Q) := rfl
theorem dcallPK_ret {M : Mach} {d r i l σ Q v H} : dcallPK M d r i l σ Q (.ret v) H = (v.flat = true ∧ drawK M d r i l σ Q v σ.H) := rfl
@[congr] theorem dcallPK_congr {M : Mach} {d r i l s Q} {c c' : End} {H H' : Heap} (h : c = c') (h' : H = H') : dcallPK M d r i l s Q c H = dcallPK M d r i l s Q c' H' := by rw [h, h']
theorem dcallK_ret {M : Mach} {d r i l σ Q v H} : dcallK M d r i l σ Q (.ret v) H = drawK M d r i l σ Q v H := rfl
theorem finK_normal {M : Mach} {rs Q σ} : finK M rs Q .normal σ = wpe M rs σ.p σ.d .ret σ.H Q := rfl
theorem finK_ret {M : Mach} {rs Q σ} : finK M rs Q .ret σ = wpe M rs σ.p σ.d .ret σ.H Q := rfl
theorem finK_panic {M : Mach} {rs Q σ c} : finK M rs Q (.panic c) σ = wpe M rs σ.p σ.d (.pan c) σ.H Q := rfl
theorem dfinK_normal {rs Q σ} : dfinK rs Q .normal σ = (σ.d = [] ∧ optA (resAs σ.p σ.H rs) fun l => Q (.ret (resV l)) σ.u σ.H) := rfl
theorem dfinK_ret {rs Q σ} : dfinK rs Q .ret σ = (σ.d = [] ∧ optA (resAs σ.p σ.H rs) fun l => Q (.ret (resV l)) σ.u σ.H) := rfl
theorem dfinK_panic {rs Q σ c} : dfinK rs Q (.panic c) σ = (σ.d = [] ∧ Q (.pan c) σ.u σ.H) := rfl
theorem dfrK_ret {M : Mach} {rs p ds Q v u H} : dfrK M rs p ds Q (.ret v) u H = wpe M rs p ds (settleA u) H Q := rfl
theorem dfrK_pan {M : Mach} {rs p ds Q c u H} : dfrK M rs p ds Q (.pan c) u H = wpe M rs p ds (raisedA u c) H Q := rfl

-- memory
theorem Heap.get_push_self {H : Heap} {x : Blk} : (H.push x).get H.size = x := by rw [Heap.get_push, if_pos rfl]
theorem Heap.get_push_lt {H : Heap} {x : Blk} {b : Nat} (h : b < H.size) : (H.push x).get b = H.get b := by rw [Heap.get_push, if_neg (by omega)]
theorem Heap.get_push_eq {H : Heap} {x : Blk} {b : Nat} (h : b = H.size) : (H.push x).get b = x := by rw [Heap.get_push, if_pos h]
theorem Heap.get_set_self {H : Heap} {x : Blk} {b : Nat} (h : b < H.size) : (H.set b x).get b = x := by rw [Heap.get_set _ _ _ _ h, if_pos rfl]
theorem Heap.get_set_ne {H : Heap} {x : Blk} {b c : Nat} (h : c ≠ b) : (H.set b x).get c = H.get c := by
  simp only [Heap.get, Heap.set]
  rw [Tab.get_setF _ _ _ _ _ (Nat.lt_succ_self _), if_neg h]
  rfl
theorem Tab.setF_same : ∀ (f g : Nat) (t : Tab) (i : Nat) (x y : Blk), i < f → i < g → Tab.setF f (Tab.setF g t i x) i y = Tab.setF f t i y
  | 0, _, _, _, _, _, h, _ => absurd h (by omega)
  | _ + 1, 0, _, _, _, _, _, h => absurd h (by omega)
  | f + 1, g + 1, t, i, x, y, h, k => by
    cases i with
    | zero => cases t <;> rfl
    | succ i =>
      have ih := fun t => Tab.setF_same f g t (i / 2) x y (by omega) (by omega)
      cases t <;> by_cases hi : i % 2 = 0 <;> simp only [Tab.setF, hi, if_true, if_false, ih]
theorem Tab.setF_comm : ∀ (f g : Nat) (t : Tab) (i j : Nat) (x y : Blk), i ≠ j → i < g → j < f → Tab.setF f (Tab.setF g t i x) j y = Tab.setF g (Tab.setF f t j y) i x
  | 0, _, _, _, _, _, _, _, _, h => absurd h (by omega)
  | _ + 1, 0, _, _, _, _, _, _, h, _ => absurd h (by omega)
  | f + 1, g + 1, t, i, j, x, y, hne, hi, hj => by
    cases i with
    | zero =>
      cases j with
      | zero => exact absurd rfl hne
      | succ j => cases t <;> by_cases p : j % 2 = 0 <;> simp only [Tab.setF, p, if_true, if_false]
    | succ i =>
      cases j with
      | zero => cases t <;> by_cases p : i % 2 = 0 <;> simp only [Tab.setF, p, if_true, if_false]
      | succ j =>
        by_cases p : i % 2 = 0
        · by_cases q : j % 2 = 0
          · have ih := fun t => Tab.setF_comm f g t (i / 2) (j / 2) x y (by omega) (by omega) (by omega)
            cases t <;> simp only [Tab.setF, p, q, if_true, ih]
          · cases t <;> simp only [Tab.setF, p, q, if_true, if_false]
        · by_cases q : j % 2 = 0
          · cases t <;> simp only [Tab.setF, p, q, if_true, if_false]
          · have ih := fun t => Tab.setF_comm f g t (i / 2) (j / 2) x y (by omega) (by omega) (by omega)
            cases t <;> simp only [Tab.setF, p, q, if_false, ih]
theorem Heap.push_set_self {H : Heap} {x y : Blk} : (H.push x).set H.size y = H.push y := by
  simp only [Heap.push, Heap.set]; rw [Tab.setF_same _ _ _ _ _ _ (by omega) (by omega)]
theorem Heap.set_set {H : Heap} {b : Nat} {x y : Blk} : (H.set b x).set b y = H.set b y := by
  simp only [Heap.set]; rw [Tab.setF_same _ _ _ _ _ _ (by omega) (by omega)]
theorem Heap.push_set_lt {H : Heap} {b : Nat} {x y : Blk} (h : b < H.size) : (H.push x).set b y = (H.set b y).push x := by
  simp only [Heap.push, Heap.set]; rw [Tab.setF_comm _ _ _ _ _ _ _ (by omega) (by omega) (by omega)]
theorem AV.cells_int {k : IntKind} {n : Int} : AV.cells (.int k n) = [.int k n] := rfl
theorem AV.one_int {k : IntKind} {n : Int} : AV.one (.int k n) = true := rfl
theorem AV.cells_bool {b : Bool} : AV.cells (.bool b) = [.bool b] := rfl
theorem AV.one_bool {b : Bool} : AV.one (.bool b) = true := rfl
theorem AV.cells_str {s : List UInt8} : AV.cells (.str s) = [.str s] := rfl
theorem AV.one_str {s : List UInt8} : AV.one (.str s) = true := rfl
theorem AV.cells_ptr {b o : Nat} : AV.cells (.ptr b o) = [.ptr b o] := rfl
theorem AV.one_ptr {b o : Nat} : AV.one (.ptr b o) = true := rfl
theorem AV.cells_nilp  : AV.cells .nilp = [.nilp] := rfl
theorem AV.one_nilp  : AV.one .nilp = true := rfl
theorem AV.cells_slice {b o n c : Nat} : AV.cells (.slice b o n c) = [.slice b o n c] := rfl
theorem AV.one_slice {b o n c : Nat} : AV.one (.slice b o n c) = true := rfl
theorem AV.cells_osl {s b o n : Nat} : AV.cells (.osl s b o n) = [.osl s b o n] := rfl
theorem AV.one_osl {s b o n : Nat} : AV.one (.osl s b o n) = true := rfl
theorem AV.cells_nils  : AV.cells .nils = [.nils] := rfl
theorem AV.one_nils  : AV.one .nils = true := rfl
theorem AV.cells_map {b : Nat} : AV.cells (.map b) = [.map b] := rfl
theorem AV.one_map {b : Nat} : AV.one (.map b) = true := rfl
theorem AV.cells_nilm  : AV.cells .nilm = [.nilm] := rfl
theorem AV.one_nilm  : AV.one .nilm = true := rfl
theorem AV.cells_fn {f : FuncId} {c : List AV} : AV.cells (.fn f c) = [.fn f c] := rfl
theorem AV.one_fn {f : FuncId} {c : List AV} : AV.one (.fn f c) = true := rfl
theorem AV.cells_nilf  : AV.cells .nilf = [.nilf] := rfl
theorem AV.one_nilf  : AV.one .nilf = true := rfl
theorem AV.cells_iface {t : TypeId} {v : AV} : AV.cells (.iface t v) = [.iface t v] := rfl
theorem AV.one_iface {t : TypeId} {v : AV} : AV.one (.iface t v) = true := rfl
theorem AV.cells_nili  : AV.cells .nili = [.nili] := rfl
theorem AV.one_nili  : AV.one .nili = true := rfl
theorem AV.cells_agg {l : List AV} : AV.cells (.agg l) = l := rfl
theorem AV.cells_tup {l : List AV} : AV.cells (.tup l) = [.tup l] := rfl
theorem AV.one_agg {l : List AV} : AV.one (.agg l) = false := rfl
theorem AV.one_tup {l : List AV} : AV.one (.tup l) = false := rfl
mutual
theorem AV.beq_self : ∀ v : AV, AV.beq v v = true
  | .int _ _ => by simp [AV.beq]
  | .bool _ => by simp [AV.beq]
  | .str _ => by simp [AV.beq]
  | .ptr _ _ => by simp [AV.beq]
  | .nilp => rfl
  | .slice _ _ _ _ => by simp [AV.beq]
  | .osl _ _ _ _ => by simp [AV.beq]
  | .nils => rfl
  | .map _ => by simp [AV.beq]
  | .nilm => rfl
  | .fn _ c => by simp [AV.beq, AV.beqs_self c]
  | .nilf => rfl
  | .iface _ v => by simp [AV.beq, AV.beq_self v]
  | .nili => rfl
  | .agg l => by simp [AV.beq, AV.beqs_self l]
  | .tup l => by simp [AV.beq, AV.beqs_self l]
theorem AV.beqs_self : ∀ l : List AV, AV.beqs l l = true
  | [] => rfl
  | x :: l => by simp [AV.beqs, AV.beq_self x, AV.beqs_self l]
end
attribute [go_sem] wpc_skip wpc_ret wpc_exit wpc_reg wpc_dreg wpc_seq wpc_condH wpc_block wpc_loopH wpo_nil wpo_grdH wpo_call wpo_callV wpo_callP wpo_dfr wpo_panic wpo_recover_ret wpo_recover_pan wpd_nil wpd_grdH wpd_call wpd_callV wpd_callP wpe_ret wpe_pan wpe_cons wpo_mov wpd_mov wpo_pick wpd_pick wpo_alloc wpd_alloc wpo_box wpd_box wpo_build wpd_build wpo_lit wpd_lit wpo_load1 wpd_load1 wpo_loadN wpd_loadN wpo_store wpd_store wpo_nilCheck wpd_nilCheck wpo_bin wpd_bin wpo_eqv wpd_eqv wpo_un wpd_un wpo_convI wpd_convI wpo_strStr wpd_strStr wpo_intStr wpd_intStr wpo_strBytes wpd_strBytes wpo_bytesStr wpd_bytesStr wpo_mkIface wpd_mkIface wpo_mkFn wpd_mkFn wpo_mkSlice wpd_mkSlice wpo_sliceStr wpd_sliceStr wpo_sliceSl wpd_sliceSl wpo_sliceArr wpd_sliceArr wpo_fieldAddr wpd_fieldAddr wpo_field1 wpd_field1 wpo_fieldN wpd_fieldN wpo_idxAddr wpd_idxAddr wpo_idxArr wpd_idxArr wpo_idxStr wpd_idxStr wpo_idxAgg wpd_idxAgg wpo_extract wpd_extract wpo_lenStr wpd_lenStr wpo_lenSl wpd_lenSl wpo_capSl wpd_capSl wpo_append wpd_append wpo_appendStr wpd_appendStr wpo_appendZ wpd_appendZ wpo_minmax wpd_minmax wpo_assert wpd_assert wpo_rangeStr wpd_rangeStr wpo_nextStr wpd_nextStr wpo_idxByte wpd_idxByte optA_some optA_none optA_map optA_iten optA_nite optB_bool brB_trueC brB_falseC brB_trueO brB_falseO brB_trueD brB_falseD grd_true grd_false grd_undefO grd_undefD optF_fn optI_iface seqK_exit seqK_ret seqK_panic blockK_ret blockK_panic loopK_normal loopK_exit loopK_ret loopK_panic callK_ret callK_pan callPK_ret dcallPK_ret dcallK_ret finK_normal finK_ret finK_panic dfinK_normal dfinK_ret dfinK_panic dfrK_ret dfrK_pan evOp rho rhos lk up St.put St.keep keep binA intBin_add intBin_sub intBin_mul intBin_quo intBin_rem intBin_eql intBin_neq intBin_lss intBin_leq intBin_gtr intBin_geq strBin isShift eqA unA bnd elA_slice elA_osl lenI_slice lenI_osl lenI_nils Option.bind_some Option.bind_none fillA wr rd readSl_nils readSl_slice readSl_osl undefA resAs resA resV settleA raisedA drawK mkLog storeAt kindC lkL dynOK sameVal AV.cells_int AV.one_int AV.cells_bool AV.one_bool AV.cells_str AV.one_str AV.cells_ptr AV.one_ptr AV.cells_nilp AV.one_nilp AV.cells_slice AV.one_slice AV.cells_osl AV.one_osl AV.cells_nils AV.one_nils AV.cells_map AV.one_map AV.cells_nilm AV.one_nilm AV.cells_fn AV.one_fn AV.cells_nilf AV.one_nilf AV.cells_iface AV.one_iface AV.cells_nili AV.one_nili AV.cells_agg AV.one_agg AV.cells_tup AV.one_tup AV.flat AV.flats Option.map_some Option.map_none List.length_cons List.length_nil if_true if_false List.all_cons List.all_nil Bool.and_true Bool.true_and and_true true_and List.cons_append List.nil_append AV.beq_self AV.beqs_self Bool.not_true Bool.not_false Heap.size_push Heap.size_set Heap.get_push_self Heap.push_set_self Heap.set_set Option.isSome_some Option.isSome_none List.set_cons_zero List.set_cons_succ List.drop_zero List.drop_succ_cons List.take_succ_cons List.take_zero List.getElem?_cons_zero List.getElem?_cons_succ decide_true decide_false Bool.false_eq_true Int.toNat_natCast Int.cast_ofNat_Int Int.natCast_zero Int.natCast_one Int.natCast_nonneg Nat.add_zero Nat.zero_add Nat.mul_one Nat.zero_mul Int.add_zero Int.zero_add eq_self
end Go.Ev
