/- Several texts of this claim, joined. -/
import Derived.Test.YtifhmogcdgfojaaGreatDoorT11
set_option linter.unusedSimpArgs false
set_option linter.unusedVariables false

/- Regions that draw their order: the laws of partial states. -/
namespace Go.Ev
open Go Go.RowKit
/-- A step of the canonical run: the state before it, whether it was wanted, its value, the memory behind it. -/
structure Rec where
  d : DCop
  σ : St
  w : Bool
  v : AV
  H' : Heap
def Rec.next (r : Rec) : St := ({ r.σ with H := r.H' } : St).put r.d.c.dst r.v
/-- A record is what the abstract machine does there. -/
def Rec.ok (call : FuncId → List AV → Heap → Option (End × Heap)) (r : Rec) : Prop :=
  (r.w = false ∧ wantedA r.σ r.d.c.guard = some false ∧ r.v = undefA ∧ r.H' = r.σ.H) ∨ (r.w = true ∧ wantedA r.σ r.d.c.guard = some true ∧ evOp1 call r.σ r.d.c.op = some (.val r.v r.H'))
def Rec.log (r : Rec) : LogE := if r.w then mkLog r.d r.σ r.v else .no
inductive Chain (call : FuncId → List AV → Heap → Option (End × Heap)) : List Rec → St → St → Prop
  | nil (σ : St) : Chain call [] σ σ
  | cons (r : Rec) (rs : List Rec) (σ' : St) : r.ok call → Chain call rs r.next σ' → Chain call (r :: rs) r.σ σ'
/-- What the run of a drawn region shows. -/
theorem evOpsD_recs {call : FuncId → List AV → Heap → Option (End × Heap)} : ∀ (ds : List DCop) (k : Nat) (lg : List (Nat × LogE)) (σ σ' : St) (ctl : Ctl), evOpsD call ds k lg σ = some (ctl, σ') →
    ctl = .normal ∧ ∃ rs : List Rec, rs.map (·.d) = ds ∧ Chain call rs σ σ' ∧
      ∀ (j : Nat) (r : Rec), rs[j]? = some r → r.w = true → ∀ i ∈ r.d.u, ∃ e, dynOK r.d r.σ r.v r.H' (some e) = true ∧
        ((k ≤ i ∧ ∃ q, rs[i - k]? = some q ∧ i - k < j ∧ e = q.log) ∨ (lkL i lg = some e))
  | [], k, lg, σ, σ', ctl, h => by
    simp only [evOpsD, Option.some.injEq, Prod.mk.injEq] at h
    obtain ⟨rfl, rfl⟩ := h
    exact ⟨rfl, [], rfl, .nil _, fun j r h => by simp at h⟩
  | d :: ds, k, lg, σ, σ', ctl, h => by
    simp only [evOpsD] at h
    split at h
    · cases h
    · rename_i hw
      obtain ⟨rfl, rs, h1, h2, h3⟩ := evOpsD_recs ds (k + 1) _ _ σ' ctl h
      let r0 : Rec := { d := d, σ := σ, w := false, v := undefA, H' := σ.H }
      refine ⟨rfl, r0 :: rs, by simp [h1, r0], .cons r0 rs σ' (.inl ⟨rfl, hw, rfl, rfl⟩) h2, ?_⟩
      intro j r hr hrw i hi
      cases j with
      | zero => simp only [List.getElem?_cons_zero, Option.some.injEq] at hr; subst hr; cases hrw
      | succ j =>
        simp only [List.getElem?_cons_succ] at hr
        obtain ⟨e, he, hcase⟩ := h3 j r hr hrw i hi
        refine ⟨e, he, ?_⟩
        rcases hcase with ⟨g1, q, g2, g3, g4⟩ | hlk
        · refine .inl ⟨by omega, q, ?_, by omega, g4⟩
          have : i - k = (i - (k + 1)) + 1 := by omega
          rw [this, List.getElem?_cons_succ]; exact g2
        · split at hlk
          · simp only [lkL] at hlk
            split at hlk
            · rename_i e2; subst e2; injection hlk with hlk
              exact .inl ⟨Nat.le_refl _, r0, by simp, by omega, by rw [← hlk]; rfl⟩
            · exact .inr hlk
          · exact .inr hlk
    · rename_i hw
      split at h
      · rename_i v H' hop
        split at h
        · rename_i hall
          obtain ⟨rfl, rs, h1, h2, h3⟩ := evOpsD_recs ds (k + 1) _ _ σ' ctl h
          let r0 : Rec := { d := d, σ := σ, w := true, v := v, H' := H' }
          refine ⟨rfl, r0 :: rs, by simp [h1, r0], .cons r0 rs σ' (.inr ⟨rfl, hw, hop⟩) h2, ?_⟩
          intro j r hr hrw i hi
          cases j with
          | zero =>
            simp only [List.getElem?_cons_zero, Option.some.injEq] at hr; subst hr
            have hd := (List.all_eq_true.1 hall) i hi
            cases hl : lkL i lg with
            | none => rw [hl] at hd; cases hd
            | some e => rw [hl] at hd; exact ⟨e, hd, .inr rfl⟩
          | succ j =>
            simp only [List.getElem?_cons_succ] at hr
            obtain ⟨e, he, hcase⟩ := h3 j r hr hrw i hi
            refine ⟨e, he, ?_⟩
            rcases hcase with ⟨g1, q, g2, g3, g4⟩ | hlk
            · refine .inl ⟨by omega, q, ?_, by omega, g4⟩
              have : i - k = (i - (k + 1)) + 1 := by omega
              rw [this, List.getElem?_cons_succ]; exact g2
            · split at hlk
              · simp only [lkL] at hlk
                split at hlk
                · rename_i e2; subst e2; injection hlk with hlk
                  exact .inl ⟨Nat.le_refl _, r0, by simp, by omega, by rw [← hlk]; rfl⟩
                · exact .inr hlk
              · exact .inr hlk
        · cases h
      · cases h
/-- Which operand a slot is. -/
def hits : Dst → Opd → Bool
  | .p i, .p j => i == j
  | .t i, .t j => i == j
  | _, _ => false
theorem rho_put (σ : St) (d : Dst) (v : AV) (x : Opd) : rho (σ.put d v).p (σ.put d v).t x = cond (hits d x) (some v) (rho σ.p σ.t x) := by
  cases d <;> cases x <;> simp only [St.put, rho, hits, cond_false, lk_up, lk]
  all_goals
    rename_i i j
    by_cases h : i = j
    · simp [h]
    · have h2 : (i == j) = false := by simpa using h
      rw [h2, if_neg (Ne.symm h)]; rfl
/-- The operand's value, where the steps of S are done. -/
def rhoS (S : Nat → Bool) (x : Opd) : List Rec → Nat → Option AV → Option AV
  | [], _, a => a
  | r :: rs, k, a => rhoS S x rs (k + 1) (cond (S k && hits r.d.c.dst x) (some r.v) a)
theorem rhoS_congr {S S' : Nat → Bool} {x : Opd} : ∀ (rs : List Rec) (k : Nat) (a : Option AV), (∀ j r, rs[j]? = some r → hits r.d.c.dst x = true → S (k + j) = S' (k + j)) → rhoS S x rs k a = rhoS S' x rs k a
  | [], _, _, _ => rfl
  | r :: rs, k, a, h => by
    simp only [rhoS]
    have h0 : (S k && hits r.d.c.dst x) = (S' k && hits r.d.c.dst x) := by
      by_cases hh : hits r.d.c.dst x = true
      · rw [hh, show S k = S' k from h 0 r rfl hh]
      · simp [hh]
    rw [h0]
    exact rhoS_congr rs (k + 1) _ fun j q hq hh => by have := h (j + 1) q (by simpa using hq) hh; rw [show k + 1 + j = k + (j + 1) by omega]; exact this
/-- The canonical run's operands. -/
theorem chain_rho {call : FuncId → List AV → Heap → Option (End × Heap)} {x : Opd} : ∀ (rs : List Rec) (k : Nat) (σ σ' : St), Chain call rs σ σ' →
    (∀ j r, rs[j]? = some r → rho r.σ.p r.σ.t x = rhoS (fun i => decide (i < k + j)) x rs k (rho σ.p σ.t x)) ∧ rho σ'.p σ'.t x = rhoS (fun _ => true) x rs k (rho σ.p σ.t x)
  | [], k, σ, σ', h => by cases h; exact ⟨fun j r h => by simp at h, rfl⟩
  | r :: rs, k, σ, σ', h => by
    cases h with
    | cons _ _ _ hok hch =>
      obtain ⟨h1, h2⟩ := chain_rho rs (k + 1) _ σ' hch
      have hnext : rho r.next.p r.next.t x = cond (hits r.d.c.dst x) (some r.v) (rho r.σ.p r.σ.t x) := by
        unfold Rec.next
        exact rho_put _ _ _ _
      constructor
      · intro j q hq
        cases j with
        | zero =>
          simp only [List.getElem?_cons_zero, Option.some.injEq] at hq; subst hq
          simp only [rhoS]
          have : (decide (k < k + 0) && hits r.d.c.dst x) = false := by simp
          rw [this]
          have hz : ∀ (rs : List Rec) (k' : Nat) (a : Option AV), k + 0 ≤ k' → rhoS (fun i => decide (i < k + 0)) x rs k' a = a := by
            intro rs
            induction rs with
            | nil => intro k' a _; rfl
            | cons r rs ih =>
              intro k' a hk
              simp only [rhoS]
              have : decide (k' < k + 0) = false := by simp; omega
              rw [this, Bool.false_and, cond_false]
              exact ih (k' + 1) a (by omega)
          rw [hz rs (k + 1) _ (by omega)]
          rfl
        | succ j =>
          simp only [List.getElem?_cons_succ] at hq
          rw [h1 j q hq, hnext]
          simp only [rhoS]
          have : decide (k < k + (j + 1)) = true := by simp
          rw [this, Bool.true_and, show k + 1 + j = k + (j + 1) by omega]
      · rw [h2, hnext]
        simp only [rhoS, Bool.true_and]
/-- A step more. -/
theorem rhoS_add {S : Nat → Bool} {x : Opd} {i : Nat} {q : Rec} : ∀ (rs : List Rec) (k : Nat) (a : Option AV), k ≤ i → rs[i - k]? = some q → S i = false → (hits q.d.c.dst x = true → ∀ j r, rs[j]? = some r → hits r.d.c.dst x = true → i < k + j → S (k + j) = false) →
    rhoS (fun j => S j || decide (j = i)) x rs k a = cond (hits q.d.c.dst x) (some q.v) (rhoS S x rs k a)
  | [], k, a, _, h, _, _ => by simp at h
  | r :: rs, k, a, hk, hq, hS, hlast => by
    by_cases hki : i = k
    · subst hki
      simp only [Nat.sub_self, List.getElem?_cons_zero, Option.some.injEq] at hq
      subst hq
      simp only [rhoS, decide_true, Bool.or_true, Bool.true_and, hS, Bool.false_and, cond_false]
      have hc : ∀ a, rhoS (fun j => S j || decide (j = i)) x rs (i + 1) a = rhoS S x rs (i + 1) a := fun a => rhoS_congr rs (i + 1) a fun j r _ _ => by
        have : decide (i + 1 + j = i) = false := by simp; omega
        simp [this]
      rw [hc]
      by_cases hh : hits r.d.c.dst x = true
      · rw [hh, cond_true, cond_true]
        have hn : ∀ (rs' : List Rec) (k' : Nat) (a : Option AV), (∀ j r', rs'[j]? = some r' → hits r'.d.c.dst x = true → S (k' + j) = false) → rhoS S x rs' k' a = a := by
          intro rs'
          induction rs' with
          | nil => intro k' a _; rfl
          | cons r' rs' ih =>
            intro k' a h
            simp only [rhoS]
            have : (S k' && hits r'.d.c.dst x) = false := by
              by_cases h2 : hits r'.d.c.dst x = true
              · rw [show S k' = false from h 0 r' rfl h2]; rfl
              · simp [h2]
            rw [this, cond_false]
            exact ih (k' + 1) a fun j q hq h2 => by have := h (j + 1) q (by simpa using hq) h2; rw [show k' + 1 + j = k' + (j + 1) by omega]; exact this
        exact hn rs (i + 1) _ fun j q hq h2 => by have := hlast hh (j + 1) q (by simpa using hq) h2 (by omega); rw [show i + 1 + j = i + (j + 1) by omega]; exact this
      · simp only [Bool.not_eq_true] at hh; rw [hh, cond_false, cond_false]
    · have hq' : rs[i - (k + 1)]? = some q := by
        have : i - k = (i - (k + 1)) + 1 := by omega
        rw [this, List.getElem?_cons_succ] at hq; exact hq
      simp only [rhoS]
      have : (S k || decide (k = i)) = S k := by
        have : decide (k = i) = false := by simp; omega
        rw [this, Bool.or_false]
      rw [this]
      exact rhoS_add rs (k + 1) _ (by omega) hq' hS fun hh j r hr h2 hlt => by have := hlast hh (j + 1) r (by simpa using hr) h2 (by omega); rw [show k + 1 + j = k + (j + 1) by omega]; exact this
end Go.Ev
/- Regions that draw their order: memory at partial states. -/
namespace Go.Ev
open Go Go.RowKit
theorem extA_map {k : ExtK} {l : List AV} (H H0 : Heap) (hk : kindE k = 0) : extA H k l = (extA H0 k l).map fun r => (r.1, H) := by
  cases k <;> first | (simp [kindE] at hk; done) | skip
  · simp only [extA, xSame]; split <;> rfl
  · simp only [extA, xPeq]; split <;> first | rfl | (split <;> rfl)
  · simp only [extA, xSdata]; split <;> first | rfl | (split <;> rfl)
  · simp only [extA, xCopy0]; split <;> first | rfl | (split <;> rfl)
set_option maxHeartbeats 1000000 in
theorem evOp_map {ρ : Opd → Option AV} (H H0 : Heap) {c : COp} (hk : kindC c = 0) : evOp ρ H c = (evOp ρ H0 c).map fun r => (r.1, H) := by
  by_cases hx : ∃ k l, c = .ext k l
  · obtain ⟨k, l, rfl⟩ := hx
    simp only [evOp]
    cases l.mapM ρ with
    | none => rfl
    | some l => exact extA_map H H0 hk
  have hx' : ∀ k l, c ≠ .ext k l := fun k l e => hx ⟨k, l, e⟩
  clear hx
  cases c <;> first | (simp [kindC] at hk; done) | (exact absurd rfl (hx' _ _)) | skip
  all_goals clear hx'
  all_goals simp only [evOp, Option.map_map, Function.comp_def]
  all_goals (repeat' split) <;> first | rfl | (simp only [Option.map_map, Function.comp_def, Option.map_some, Option.map_none]; done) | (simp [Option.map_map, Function.comp_def]; done)
theorem evOp_pure {ρ : Opd → Option AV} {H H2 H' : Heap} {c : COp} {v : AV} (hk : kindC c = 0) (h : evOp ρ H c = some (v, H')) : evOp ρ H2 c = some (v, H2) := by
  rw [evOp_map H2 H hk, h]; rfl
theorem evOp_quiet {ρ : Opd → Option AV} {H H' : Heap} {c : COp} {v : AV} (hk : kindC c = 0 ∨ kindC c = 1) (h : evOp ρ H c = some (v, H')) : H' = H := by
  rcases hk with hk | hk
  · have := evOp_pure (H2 := H) hk h
    rw [h] at this
    injection this with this
    injection this
  · cases c <;> first | (simp [kindC] at hk; done) | (rename_i k _; cases k <;> simp [kindC, kindE] at hk; done) | skip
    · simp only [evOp] at h
      split at h
      · split at h
        · split at h
          · simp only [Option.some.injEq, Prod.mk.injEq] at h; exact h.2.symm
          · cases h
        · cases h
      · cases h
    · simp only [evOp] at h
      split at h
      · split at h
        · split at h
          · simp only [Option.some.injEq, Prod.mk.injEq] at h; exact h.2.symm
          · cases h
        · cases h
      · cases h
    · simp only [evOp] at h
      split at h
      · split at h
        · simp only [Option.map_eq_some_iff, Prod.mk.injEq] at h
          obtain ⟨_, _, _, h⟩ := h; exact h.symm
        · cases h
      · cases h
end Go.Ev
/- Regions that draw their order: the memory of a partial state; what the checker asks. -/
namespace Go.Ev
open Go Go.RowKit
/-- What a store comes to. -/
def stEff (ρ : Opd → Option AV) (op : COp) (H : Heap) : Heap :=
  match op with
  | .store _ a x => match ρ a, ρ x with
    | some (.ptr b off), some v => (match H.get b with
      | .cells c .own => H.set b (.cells (wr c off v.cells) .own)
      | _ => H)
    | _, _ => H
  | _ => H
def Rec.loud (r : Rec) : Bool := r.w && kindC r.d.c.op == 2
def eff (r : Rec) (H : Heap) : Heap := cond r.loud (cond r.d.tl (stEff (rho r.σ.p r.σ.t) r.d.c.op H) r.H') H
def hS (S : Nat → Bool) : List Rec → Nat → Heap → Heap
  | [], _, H => H
  | r :: rs, k, H => hS S rs (k + 1) (cond (S k) (eff r H) H)
/-- One step before another, by the edges that bind. -/
inductive Reach (ops : Array Oper) : Nat → Nat → Prop
  | edge {j : Nat} {o : Oper} {e : Edge} : ops[j]? = some o → e ∈ o.after → Region.binds .any e = true → Reach ops e.on j
  | trans {i j : Nat} {o : Oper} {e : Edge} : Reach ops i e.on → ops[j]? = some o → e ∈ o.after → Region.binds .any e = true → Reach ops i j
def Closed (ops : Array Oper) (S : Nat → Bool) : Prop := ∀ j o e, S j = true → ops[j]? = some o → e ∈ o.after → Region.binds .any e = true → S e.on = true
def Ready (ops : Array Oper) (S : Nat → Bool) (j : Nat) : Prop := ∀ o e, ops[j]? = some o → e ∈ o.after → Region.binds .any e = true → S e.on = true
theorem Reach.closed {ops : Array Oper} {S : Nat → Bool} (hc : Closed ops S) {i j : Nat} (h : Reach ops i j) (hj : Ready ops S j ∨ S j = true) : S i = true := by
  induction h with
  | edge ho he hb => rcases hj with hj | hj
                     · exact hj _ _ ho he hb
                     · exact hc _ _ _ hj ho he hb
  | trans _ ho he hb ih => 
    refine ih (.inr ?_)
    rcases hj with hj | hj
    · exact hj _ _ ho he hb
    · exact hc _ _ _ hj ho he hb
def Cop.all (c : Cop) : List Opd := c.op.opds ++ (match c.guard with | some (x, _) => [x] | none => [])
def dstSame : Dst → Dst → Bool
  | .p i, .p j => i == j
  | .t i, .t j => i == j
  | _, _ => false
def conf (c d : Cop) : Bool := d.all.any (hits c.dst) || dstSame c.dst d.dst || c.all.any (hits d.dst)
theorem hits_same {d d' : Dst} {x : Opd} (h : hits d x = true) (h' : hits d' x = true) : dstSame d d' = true := by
  cases d <;> cases d' <;> cases x <;> simp [hits, dstSame] at *
  all_goals omega
/-- A call that asks for no memory? -/
def isP : COp → Bool
  | .callP _ _ _ => true
  | _ => false
theorem isP_kind {op : COp} (h : kindC op ≠ 0) : isP op = false := by
  cases op <;> first | rfl | (simp [kindC] at h)
def isStore : COp → Bool
  | .store _ _ _ => true
  | _ => false
/-- What is asked of a region's operations, two by two. -/
structure Stat (ops : Array Oper) (ds : List DCop) : Prop where
  lt : ∀ (j : Nat) (o : Oper) (e : Edge), ops[j]? = some o → e ∈ o.after → Region.binds .any e = true → e.on < j
  size : ds.length = ops.size
  one : ∀ (j : Nat) (d : DCop), ds[j]? = some d → kindC d.c.op < 3 ∧ (d.tl = true → isStore d.c.op = true)
  two : ∀ (i j : Nat) (d d' : DCop), i < j → ds[i]? = some d → ds[j]? = some d' → Reach ops i j ∨ (conf d.c d'.c = false ∧ (kindC d.c.op = 0 ∨ kindC d'.c.op = 0 ∨ (kindC d.c.op = 1 ∧ kindC d'.c.op = 1) ∨
    (i ∈ d'.u ∧ ((kindC d.c.op = 1 ∧ kindC d'.c.op = 2 ∧ d.tl = false ∧ d'.tl = false) ∨ (kindC d.c.op = 2 ∧ d.tl = false ∧ kindC d'.c.op = 1 ∧ d'.tl = false) ∨ (d.tl = true ∧ d'.tl = true)))))
  tail1 : ∀ (i j : Nat) (d d' : DCop), i < j → ds[i]? = some d → ds[j]? = some d' → d'.tl = true → kindC d.c.op ≠ 0 → d.tl = false → Reach ops i j
  tail2 : ∀ (i j : Nat) (d d' : DCop), i < j → ds[i]? = some d → ds[j]? = some d' → d.tl = true → kindC d'.c.op = 0 ∨ d'.tl = true
section
variable {call : FuncId → List AV → Heap → Option (End × Heap)}
theorem evOp1_simple {σ : St} {op : COp} {v : AV} {H' : Heap} (hk : kindC op = 0 ∨ kindC op = 1) (hp : isP op = false) (h : evOp1 call σ op = some (.val v H')) : evOp (rho σ.p σ.t) σ.H op = some (v, H') := by
  cases op <;> first | (rcases hk with hk | hk <;> simp [kindC] at hk; done) | (simp [isP] at hp; done) | skip
  all_goals
    simp only [evOp1] at h
    split at h
    · rename_i he; simp only [Option.some.injEq, OOut.val.injEq] at h; obtain ⟨rfl, rfl⟩ := h; exact he
    · cases h
theorem evOp1_p {σ : St} {op : COp} {v : AV} {H' : Heap} (hp : isP op = true) (h : evOp1 call σ op = some (.val v H')) : H' = σ.H := by
  cases op <;> first | (simp [isP] at hp; done) | skip
  simp only [evOp1] at h
  split at h
  · split at h
    · split at h
      · split at h
        · simp only [Option.some.injEq, OOut.val.injEq] at h; exact h.2.symm
        · cases h
      · cases h
    · cases h
  · cases h
theorem evOp1_quiet {σ : St} {op : COp} {v : AV} {H' : Heap} (hk : kindC op = 0 ∨ kindC op = 1) (h : evOp1 call σ op = some (.val v H')) : H' = σ.H := by
  cases hp : isP op with
  | true => exact evOp1_p hp h
  | false => exact evOp_quiet hk (evOp1_simple hk hp h)
theorem evOp1_store {σ : St} {op : COp} {v : AV} {H' : Heap} (hk : isStore op = true) (h : evOp1 call σ op = some (.val v H')) : evOp (rho σ.p σ.t) σ.H op = some (v, H') := by
  cases op <;> first | (simp [isStore] at hk; done) | skip
  simp only [evOp1] at h
  split at h
  · rename_i he; simp only [Option.some.injEq, OOut.val.injEq] at h; obtain ⟨rfl, rfl⟩ := h; exact he
  · cases h
theorem Rec.quiet {r : Rec} (hok : r.ok call) (hk : kindC r.d.c.op < 3) (hl : r.loud = false) : r.H' = r.σ.H := by
  rcases hok with ⟨_, _, _, h⟩ | ⟨hw, _, h⟩
  · exact h
  · have hk2 : kindC r.d.c.op = 0 ∨ kindC r.d.c.op = 1 := by
      simp only [Rec.loud, hw, Bool.true_and, beq_eq_false_iff_ne] at hl; omega
    exact evOp1_quiet hk2 h
/-- What a store that was done came to. -/
theorem store_eff {ρ : Opd → Option AV} {H H' : Heap} {op : COp} {v : AV} (hs : isStore op = true) (h : evOp ρ H op = some (v, H')) : v = undefA ∧ H' = stEff ρ op H ∧
    ∃ n a x b off u c, op = .store n a x ∧ ρ a = some (.ptr b off) ∧ ρ x = some u ∧ H.get b = .cells c .own ∧ u.cells.length = n ∧ off + n ≤ c.length ∧ u.cells.all AV.one = true := by
  cases op <;> first | (simp [isStore] at hs; done) | skip
  rename_i n a x
  simp only [evOp] at h
  split at h
  · rename_i b off ha
    split at h
    · rename_i u hx
      split at h
      · rename_i c hg
        split at h
        · rename_i hc
          simp only [Option.some.injEq, Prod.mk.injEq] at h
          obtain ⟨rfl, rfl⟩ := h
          exact ⟨rfl, by simp only [stEff, ha, hx, hg], n, a, x, b, off, u, c, rfl, ha, hx, hg, hc.1, hc.2.1, hc.2.2⟩
        · cases h
      · cases h
    · cases h
  · cases h
theorem hS_append (S : Nat → Bool) : ∀ (rs qs : List Rec) (k : Nat) (H : Heap), hS S (rs ++ qs) k H = hS S qs (k + rs.length) (hS S rs k H)
  | [], _, _, _ => by simp [hS]
  | r :: rs, qs, k, H => by
    simp only [List.cons_append, hS, List.length_cons]
    rw [hS_append S rs qs (k + 1), show k + 1 + rs.length = k + (rs.length + 1) by omega]
theorem hS_congr {S S' : Nat → Bool} : ∀ (rs : List Rec) (k : Nat) (H : Heap), (∀ j r, rs[j]? = some r → r.loud = true → S (k + j) = S' (k + j)) → hS S rs k H = hS S' rs k H
  | [], _, _, _ => rfl
  | r :: rs, k, H, h => by
    simp only [hS]
    have h0 : cond (S k) (eff r H) H = cond (S' k) (eff r H) H := by
      by_cases hl : r.loud = true
      · rw [show S k = S' k from h 0 r rfl hl]
      · simp only [Bool.not_eq_true] at hl
        have : eff r H = H := by simp [eff, hl]
        rw [this]; cases S k <;> cases S' k <;> rfl
    rw [h0]
    exact hS_congr rs (k + 1) _ fun j q hq hl => by have := h (j + 1) q (by simpa using hq) hl; rw [show k + 1 + j = k + (j + 1) by omega]; exact this
/-- Nothing loud is done: the memory stays. -/
theorem hS_none {S : Nat → Bool} : ∀ (rs : List Rec) (k : Nat) (H : Heap), (∀ j r, rs[j]? = some r → r.loud = true → S (k + j) = false) → hS S rs k H = H
  | [], _, _, _ => rfl
  | r :: rs, k, H, h => by
    simp only [hS]
    have h0 : cond (S k) (eff r H) H = H := by
      by_cases hl : r.loud = true
      · rw [show S k = false from h 0 r rfl hl]; rfl
      · simp only [Bool.not_eq_true] at hl
        have : eff r H = H := by simp [eff, hl]
        rw [this]; cases S k <;> rfl
    rw [h0]
    exact hS_none rs (k + 1) H fun j q hq hl => by have := h (j + 1) q (by simpa using hq) hl; rw [show k + 1 + j = k + (j + 1) by omega]; exact this
/-- The canonical run's memory. -/
theorem eff_canon {r : Rec} (hok : r.ok call) (hk : kindC r.d.c.op < 3) (ht : r.d.tl = true → isStore r.d.c.op = true) : eff r r.σ.H = r.H' := by
  unfold eff
  cases hl : r.loud with
  | false => simp only [cond_false]; exact (Rec.quiet hok hk hl).symm
  | true =>
    simp only [cond_true]
    cases htl : r.d.tl with
    | false => rfl
    | true =>
      simp only [cond_true]
      have hw : r.w = true := by simp only [Rec.loud, Bool.and_eq_true] at hl; exact hl.1
      rcases hok with ⟨h, _⟩ | ⟨_, _, h⟩
      · rw [hw] at h; cases h
      · exact (store_eff (ht htl) (evOp1_store (ht htl) h)).2.1.symm
theorem next_H (r : Rec) : r.next.H = r.H' := by
  unfold Rec.next St.put
  split <;> rfl
theorem chain_H : ∀ (rs : List Rec) (k : Nat) (σ σ' : St), Chain call rs σ σ' → (∀ r ∈ rs, kindC r.d.c.op < 3 ∧ (r.d.tl = true → isStore r.d.c.op = true)) →
    (∀ j r, rs[j]? = some r → r.σ.H = hS (fun _ => true) (rs.take j) k σ.H) ∧ σ'.H = hS (fun _ => true) rs k σ.H
  | [], k, σ, σ', h, _ => by cases h; exact ⟨fun j r h => by simp at h, rfl⟩
  | r :: rs, k, σ, σ', h, hone => by
    cases h with
    | cons _ _ _ hok hch =>
      obtain ⟨h1, h2⟩ := chain_H rs (k + 1) _ σ' hch fun q hq => hone q (List.mem_cons_of_mem _ hq)
      obtain ⟨g1, g2⟩ := hone r (List.mem_cons_self ..)
      have he : eff r r.σ.H = r.next.H := by rw [next_H]; exact eff_canon hok g1 g2
      constructor
      · intro j q hq
        cases j with
        | zero => simp only [List.getElem?_cons_zero, Option.some.injEq] at hq; subst hq; rfl
        | succ j =>
          simp only [List.getElem?_cons_succ] at hq
          rw [h1 j q hq, List.take_succ_cons]
          simp only [hS, cond_true, he]
      · rw [h2]
        simp only [hS, cond_true, he]
theorem chain_ok : ∀ (rs : List Rec) (σ σ' : St), Chain call rs σ σ' → ∀ r ∈ rs, r.ok call
  | [], _, _, _, r, h => by cases h
  | r :: rs, _, σ', h, q, hq => by
    cases h with
    | cons _ _ _ hok hch =>
      rcases List.mem_cons.1 hq with rfl | hq
      · exact hok
      · exact chain_ok rs _ σ' hch q hq
theorem chain_d : ∀ (rs : List Rec) (σ σ' : St), Chain call rs σ σ' → ∀ (j : Nat) (r : Rec), rs[j]? = some r → r.σ.d = σ.d ∧ r.σ.u = σ.u
  | [], _, _, _, j, r, h => by simp at h
  | r :: rs, _, σ', h, j, q, hq => by
    cases h with
    | cons _ _ _ hok hch =>
      cases j with
      | zero => simp only [List.getElem?_cons_zero, Option.some.injEq] at hq; subst hq; exact ⟨rfl, rfl⟩
      | succ j =>
        simp only [List.getElem?_cons_succ] at hq
        obtain ⟨h1, h2⟩ := chain_d rs _ σ' hch j q hq
        rw [h1, h2]
        unfold Rec.next St.put
        split <;> exact ⟨rfl, rfl⟩
theorem chain_du : ∀ (rs : List Rec) (σ σ' : St), Chain call rs σ σ' → σ'.d = σ.d ∧ σ'.u = σ.u
  | [], _, _, h => by cases h; exact ⟨rfl, rfl⟩
  | r :: rs, _, σ', h => by
    cases h with
    | cons _ _ _ hok hch =>
      obtain ⟨h1, h2⟩ := chain_du rs _ σ' hch
      rw [h1, h2]
      unfold Rec.next St.put
      split <;> exact ⟨rfl, rfl⟩
end
end Go.Ev
/- Regions that draw their order: each operation finds what it found in the text's order. -/
namespace Go.Ev
open Go Go.RowKit
/-- The same blocks. -/
def EqG (h k : Heap) : Prop := (∀ b, h.get b = k.get b) ∧ h.size = k.size
theorem EqG.refl (h : Heap) : EqG h h := ⟨fun _ => rfl, rfl⟩
theorem EqG.trans {a b c : Heap} (h : EqG a b) (k : EqG b c) : EqG a c := ⟨fun x => (h.1 x).trans (k.1 x), h.2.trans k.2⟩
/-- A store of cells at a place. -/
def stE (b off : Nat) (xs : List AV) (H : Heap) : Heap :=
  match H.get b with
  | .cells c .own => H.set b (.cells (wr c off xs) .own)
  | _ => H
theorem stE_get (b off : Nat) (xs : List AV) (H : Heap) (b' : Nat) : (stE b off xs H).get b' = if b' = b then (match H.get b with | .cells c .own => .cells (wr c off xs) .own | k => k) else H.get b' := by
  unfold stE
  split
  · rename_i c hg
    rw [Heap.get_set _ _ _ _ (Heap.lt_of_get (by rw [hg]; simp))]
  · rename_i hn
    by_cases e : b' = b
    · subst e; rw [if_pos rfl]
    · rw [if_neg e]
theorem stE_size (b off : Nat) (xs : List AV) (H : Heap) : (stE b off xs H).size = H.size := by
  unfold stE; split <;> rfl
theorem stE_congr {b off : Nat} {xs : List AV} {h k : Heap} (he : EqG h k) : EqG (stE b off xs h) (stE b off xs k) :=
  ⟨fun b' => by rw [stE_get, stE_get, he.1, he.1], by rw [stE_size, stE_size, he.2]⟩
theorem wr_get : ∀ (xs c : List AV) (off k : Nat), (wr c off xs)[k]? = if off ≤ k ∧ k < off + xs.length ∧ k < c.length then xs[k - off]? else c[k]?
  | [], c, off, k => by
    simp only [wr, List.length_nil, Nat.add_zero]
    rw [if_neg (by omega)]
  | x :: xs, c, off, k => by
    simp only [wr, List.length_cons]
    rw [wr_get xs (c.set off x) (off + 1) k, List.length_set, List.getElem?_set]
    by_cases h1 : off = k
    · subst h1
      rw [if_neg (by omega)]
      simp only [if_true]
      by_cases h2 : off < c.length
      · rw [if_pos h2, if_pos (by omega)]; simp
      · rw [if_neg h2, if_neg (by omega), List.getElem?_eq_none (by omega)]
    · rw [if_neg h1]
      by_cases h2 : off + 1 ≤ k ∧ k < off + 1 + xs.length ∧ k < c.length
      · rw [if_pos h2, if_pos (by omega), show k - off = (k - (off + 1)) + 1 by omega, List.getElem?_cons_succ]
      · rw [if_neg h2, if_neg (by omega)]
theorem wr_comm (c xs ys : List AV) (off off' : Nat) (h : off + xs.length ≤ off' ∨ off' + ys.length ≤ off) : wr (wr c off xs) off' ys = wr (wr c off' ys) off xs := by
  apply List.ext_getElem?
  intro k
  simp only [wr_get, wr_length]
  by_cases h1 : off ≤ k ∧ k < off + xs.length ∧ k < c.length
  · have h2 : ¬ (off' ≤ k ∧ k < off' + ys.length ∧ k < c.length) := by omega
    simp only [if_pos h1, if_neg h2]
  · simp only [if_neg h1]
theorem stE_comm (b b' off off' : Nat) (xs ys : List AV) (H : Heap) (h : b ≠ b' ∨ off + xs.length ≤ off' ∨ off' + ys.length ≤ off) :
    EqG (stE b off xs (stE b' off' ys H)) (stE b' off' ys (stE b off xs H)) := by
  refine ⟨fun k => ?_, by simp only [stE_size]⟩
  simp only [stE_get]
  by_cases hb : b = b'
  · subst hb
    have h' : off + xs.length ≤ off' ∨ off' + ys.length ≤ off := by
      rcases h with h | h
      · exact absurd rfl h
      · exact h
    by_cases hk : k = b
    · simp only [hk, if_true]
      cases hg : H.get b with
      | cells c u =>
        cases u with
        | own => simp only; rw [wr_comm c xs ys off off' h']
        | ro => rfl
        | byt e => rfl
      | _ => rfl
    · simp only [if_neg hk]
  · by_cases hk : k = b
    · subst hk; simp only [if_true, if_neg hb]
    · by_cases hk' : k = b'
      · subst hk'; simp only [if_true, if_neg hk, if_neg (Ne.symm hb)]
      · simp only [if_neg hk, if_neg hk']
/-- Each block of `H` that may be written is in `h`, as long. -/
def Sh (h H : Heap) : Prop := ∀ b c, H.get b = .cells c .own → ∃ c', h.get b = .cells c' .own ∧ c'.length = c.length
theorem Sh.refl (h : Heap) : Sh h h := fun b c hc => ⟨c, hc, rfl⟩
theorem Sh.fwd {h H : Heap} (hs : Sh h H) (b off : Nat) (xs : List AV) : Sh (stE b off xs h) H := by
  intro k c hc
  obtain ⟨c', h1, h2⟩ := hs k c hc
  rw [stE_get]
  by_cases e : k = b
  · subst e; rw [if_pos rfl, h1]; exact ⟨_, rfl, by rw [wr_length]; exact h2⟩
  · rw [if_neg e]; exact ⟨c', h1, h2⟩
theorem Sh.back {h H : Heap} (hs : Sh h H) (b off : Nat) (xs : List AV) : Sh h (stE b off xs H) := by
  intro k c hc
  rw [stE_get] at hc
  by_cases e : k = b
  · subst e; rw [if_pos rfl] at hc
    split at hc
    · rename_i c0 hg
      injection hc with hc; subst hc
      obtain ⟨c', h1, h2⟩ := hs k c0 hg
      exact ⟨c', h1, by rw [wr_length]; exact h2⟩
    · rename_i hk
      exact absurd hc (hk c)
  · rw [if_neg e] at hc; exact hs k c hc
section
variable {call : FuncId → List AV → Heap → Option (End × Heap)} {ops : Array Oper} {rs : List Rec} {S : Nat → Bool} {H0 : Heap}
/-- A partial state's memory, up to a step. -/
def hP (S : Nat → Bool) (rs : List Rec) (H0 : Heap) (j : Nat) : Heap := hS S (rs.take j) 0 H0
theorem hP_succ {j : Nat} {r : Rec} (hr : rs[j]? = some r) : hP S rs H0 (j + 1) = cond (S j) (eff r (hP S rs H0 j)) (hP S rs H0 j) := by
  unfold hP
  have hj : j < rs.length := by
    rcases Nat.lt_or_ge j rs.length with h | h
    · exact h
    · rw [List.getElem?_eq_none h] at hr; cases hr
  rw [List.take_add_one, hr, hS_append]
  simp only [Option.toList_some, hS, List.length_take, Nat.zero_add, Nat.min_eq_left (Nat.le_of_lt hj)]
theorem hP_all : hP S rs H0 rs.length = hS S rs 0 H0 := by unfold hP; rw [List.take_length]
/-- What is known of a region's canonical run. -/
structure Run (call : FuncId → List AV → Heap → Option (End × Heap)) (ops : Array Oper) (ds : List DCop) (rs : List Rec) (σ0 σ' : St) : Prop where
  hds : rs.map (·.d) = ds
  stat : Stat ops ds
  chain : Chain call rs σ0 σ'
  dyn : ∀ (j : Nat) (r : Rec), rs[j]? = some r → r.w = true → ∀ i ∈ r.d.u, ∃ q, rs[i]? = some q ∧ i < j ∧ dynOK r.d r.σ r.v r.H' (some q.log) = true
variable {ds : List DCop} {σ0 σ' : St}
theorem Run.d (R : Run call ops ds rs σ0 σ') {j : Nat} {r : Rec} (hr : rs[j]? = some r) : ds[j]? = some r.d := by
  rw [← R.hds, List.getElem?_map, hr]; rfl
theorem Run.ok (R : Run call ops ds rs σ0 σ') {j : Nat} {r : Rec} (hr : rs[j]? = some r) : r.ok call := chain_ok rs σ0 σ' R.chain r (List.mem_of_getElem? hr)
theorem Run.one (R : Run call ops ds rs σ0 σ') {j : Nat} {r : Rec} (hr : rs[j]? = some r) : kindC r.d.c.op < 3 ∧ (r.d.tl = true → isStore r.d.c.op = true) := R.stat.one j r.d (R.d hr)
theorem Run.canon (R : Run call ops ds rs σ0 σ') {j : Nat} {r : Rec} (hr : rs[j]? = some r) : hP (fun _ => true) rs σ0.H j = r.σ.H ∧ hP (fun _ => true) rs σ0.H (j + 1) = r.H' := by
  have h1 : hP (fun _ => true) rs σ0.H j = r.σ.H := ((chain_H rs 0 σ0 σ' R.chain fun q hq => by
    obtain ⟨k, hk⟩ := List.getElem?_of_mem hq
    exact R.one hk).1 j r hr).symm
  refine ⟨h1, ?_⟩
  rw [hP_succ hr, h1]
  exact eff_canon (R.ok hr) (R.one hr).1 (R.one hr).2
theorem Rec.loud_kind {r : Rec} (h : r.loud = true) : kindC r.d.c.op = 2 ∧ r.w = true := by
  simp only [Rec.loud, Bool.and_eq_true, beq_iff_eq] at h; exact ⟨h.2, h.1⟩
theorem eff_quiet {r : Rec} (h : r.loud = false) (H : Heap) : eff r H = H := by simp [eff, h]
theorem eff_loud {r : Rec} (h : r.loud = true) (ht : r.d.tl = false) (H : Heap) : eff r H = r.H' := by simp [eff, h, ht]
theorem Run.quiet (R : Run call ops ds rs σ0 σ') {j : Nat} {r : Rec} (hr : rs[j]? = some r) (hl : r.loud = false) : r.H' = r.σ.H := Rec.quiet (R.ok hr) (R.one hr).1 hl
/-- No store of the end is done while something that is no such store is not. -/
theorem Run.no_tail (R : Run call ops ds rs σ0 σ') (hc : Closed ops S) {i : Nat} {q : Rec} (hq : rs[i]? = some q) (hS : S i = false) (hk : kindC q.d.c.op ≠ 0) (ht : q.d.tl = false) {j : Nat} {r : Rec} (hr : rs[j]? = some r) (hrt : r.d.tl = true) : S j = false := by
  rcases Nat.lt_trichotomy i j with h | h | h
  · cases hSj : S j with
    | false => rfl
    | true =>
      have := (R.stat.tail1 i j _ _ h (R.d hq) (R.d hr) hrt hk ht).closed hc (.inr hSj)
      rw [hS] at this; cases this
  · subst h; exact hS
  · rcases R.stat.tail2 j i _ _ h (R.d hr) (R.d hq) hrt with h' | h'
    · exact absurd h' hk
    · rw [ht] at h'; cases h'
/-- A reading finds what it found. -/
theorem Run.read (R : Run call ops ds rs σ0 σ') (hc : Closed ops S) {i : Nat} {q : Rec} (hq : rs[i]? = some q) (hSi : S i = false) (hrd : Ready ops S i) (hw : q.w = true) (hk : kindC q.d.c.op = 1) (ht : q.d.tl = false) :
    ∃ H', evOp (rho q.σ.p q.σ.t) (hS S rs 0 σ0.H) q.d.c.op = some (q.v, H') := by
  have hev : evOp (rho q.σ.p q.σ.t) q.σ.H q.d.c.op = some (q.v, q.H') := by
    rcases R.ok hq with ⟨h, _⟩ | ⟨_, _, h⟩
    · rw [hw] at h; cases h
    · exact evOp1_simple (.inr hk) (isP_kind (by omega)) h
  have key : ∀ j, j ≤ rs.length → (j ≤ i → hP S rs σ0.H j = hP (fun _ => true) rs σ0.H j ∨ ∃ H', evOp (rho q.σ.p q.σ.t) (hP S rs σ0.H j) q.d.c.op = some (q.v, H')) ∧ (i < j → ∃ H', evOp (rho q.σ.p q.σ.t) (hP S rs σ0.H j) q.d.c.op = some (q.v, H')) := by
    intro j
    induction j with
    | zero => intro _; exact ⟨fun _ => .inl rfl, fun h => by omega⟩
    | succ j ih =>
      intro hj
      obtain ⟨ih1, ih2⟩ := ih (by omega)
      have hjl : j < rs.length := by omega
      obtain ⟨r, hr⟩ : ∃ r, rs[j]? = some r := ⟨rs[j], List.getElem?_eq_getElem hjl⟩
      have hsucc := hP_succ (S := S) (H0 := σ0.H) hr
      obtain ⟨c1, c2⟩ := R.canon hr
      have sv : ∀ H, sameVal (rho q.σ.p q.σ.t) q.d.c.op q.v H = true → ∃ H', evOp (rho q.σ.p q.σ.t) H q.d.c.op = some (q.v, H') := by
        intro H h
        unfold sameVal at h
        split at h
        · rename_i v' H1 he; exact ⟨H1, by rw [he, AV.beq_eq _ _ h]⟩
        · cases h
      have nt : r.d.tl = true → S j = false := fun h => R.no_tail hc hq hSi (by omega) ht hr h
      constructor
      · intro hji
        have hlt : j < i := by omega
        rw [hsucc]
        cases hl : r.loud with
        | false =>
          have e1 := R.quiet hr hl
          rw [eff_quiet hl, c2, e1]
          have : hP S rs σ0.H j = r.σ.H ∨ ∃ H', evOp (rho q.σ.p q.σ.t) (hP S rs σ0.H j) q.d.c.op = some (q.v, H') := by rw [← c1]; exact ih1 (by omega)
          cases S j <;> exact this
        | true =>
          obtain ⟨k2, kw⟩ := Rec.loud_kind hl
          cases hSj : S j with
          | true =>
            have htj : r.d.tl = false := by cases h : r.d.tl with | false => rfl | true => rw [nt h] at hSj; cases hSj
            simp only [cond_true]
            rw [eff_loud hl htj, c2]; exact .inl rfl
          | false =>
            simp only [cond_false]
            rcases ih1 (by omega) with h | h
            · -- not done: not ordered ahead
              rcases R.stat.two j i _ _ hlt (R.d hr) (R.d hq) with h2 | ⟨_, h2⟩
              · have := h2.closed hc (.inl hrd); rw [hSj] at this; cases this
              · rcases h2 with h2 | h2 | h2 | ⟨hu, h2⟩
                · omega
                · omega
                · omega
                · obtain ⟨q2, hq2, _, hdy⟩ := R.dyn i q hq hw j hu
                  rw [hr] at hq2; injection hq2 with hq2; subst hq2
                  have htj : r.d.tl = false := by
                    rcases h2 with ⟨a1, _⟩ | ⟨_, a2, _⟩ | ⟨a1, a2⟩
                    · omega
                    · exact a2
                    · rw [ht] at a2; cases a2
                  have hlog : r.log = .ld r.σ.H := by simp [Rec.log, kw, mkLog, htj, k2]
                  rw [hlog] at hdy
                  simp only [dynOK] at hdy
                  rw [h, c1]
                  exact .inr (sv _ hdy)
            · exact .inr h
      · intro hij
        rcases Nat.lt_or_ge i j with h | h
        · have ih2' := ih2 h
          rw [hsucc]
          cases hSj : S j with
          | false => exact ih2'
          | true =>
            simp only [cond_true]
            cases hl : r.loud with
            | false => rw [eff_quiet hl]; exact ih2'
            | true =>
              obtain ⟨k2, kw⟩ := Rec.loud_kind hl
              have htj : r.d.tl = false := by cases h : r.d.tl with | false => rfl | true => rw [nt h] at hSj; cases hSj
              rw [eff_loud hl htj]
              rcases R.stat.two i j _ _ h (R.d hq) (R.d hr) with h2 | ⟨_, h2⟩
              · have := h2.closed hc (.inr hSj); rw [hSi] at this; cases this
              · rcases h2 with h2 | h2 | h2 | ⟨hu, h2⟩
                · omega
                · omega
                · omega
                · obtain ⟨q2, hq2, _, hdy⟩ := R.dyn j r hr kw i hu
                  rw [hq] at hq2; injection hq2 with hq2; subst hq2
                  have hlog : q.log = .rd (sameVal (rho q.σ.p q.σ.t) q.d.c.op q.v) := by simp [Rec.log, hw, mkLog, ht, hk]
                  rw [hlog] at hdy
                  exact sv _ hdy
        · have hje : j = i := by omega
          subst hje
          rw [hq] at hr; injection hr with hr; subst hr
          rw [hsucc, hSi]
          simp only [cond_false]
          rcases ih1 (Nat.le_refl _) with h' | h'
          · rw [h', c1]; exact ⟨_, hev⟩
          · exact h'
  have hil : i < rs.length := by
    rcases Nat.lt_or_ge i rs.length with h | h
    · exact h
    · rw [List.getElem?_eq_none h] at hq; cases hq
  rw [← hP_all]
  exact (key rs.length (Nat.le_refl _)).2 hil
/-- What turns memory, but the stores of the end, finds the memory that it found; and leaves what it left. -/
theorem Run.loud (R : Run call ops ds rs σ0 σ') (hc : Closed ops S) {i : Nat} {q : Rec} (hq : rs[i]? = some q) (hSi : S i = false) (hrd : Ready ops S i) (hl : q.loud = true) (ht : q.d.tl = false) :
    hS S rs 0 σ0.H = q.σ.H ∧ hS (fun j => S j || decide (j = i)) rs 0 σ0.H = q.H' := by
  obtain ⟨k2, kw⟩ := Rec.loud_kind hl
  have hil : i < rs.length := by
    rcases Nat.lt_or_ge i rs.length with h | h
    · exact h
    · rw [List.getElem?_eq_none h] at hq; cases hq
  have before : ∀ j r, rs[j]? = some r → r.loud = true → j < i → S j = true ∧ r.d.tl = false := by
    intro j r hr hlr hlt
    have htj : r.d.tl = false := by
      cases h : r.d.tl with
      | false => rfl
      | true =>
        rcases R.stat.tail2 j i _ _ hlt (R.d hr) (R.d hq) h with h' | h'
        · omega
        · rw [ht] at h'; cases h'
    refine ⟨?_, htj⟩
    have k2r := (Rec.loud_kind hlr).1
    rcases R.stat.two j i _ _ hlt (R.d hr) (R.d hq) with h2 | ⟨_, h2⟩
    · exact h2.closed hc (.inl hrd)
    · rcases h2 with h2 | h2 | h2 | ⟨_, ⟨a1, _⟩ | ⟨_, _, a1, _⟩ | ⟨a1, _⟩⟩
      · omega
      · omega
      · omega
      · omega
      · omega
      · rw [htj] at a1; cases a1
  have after : ∀ j r, rs[j]? = some r → r.loud = true → i < j → S j = false := by
    intro j r hr hlr hlt
    cases hSj : S j with
    | false => rfl
    | true =>
      have k2r := (Rec.loud_kind hlr).1
      have hreach : Reach ops i j := by
        cases htr : r.d.tl with
        | true => exact R.stat.tail1 i j _ _ hlt (R.d hq) (R.d hr) htr (by omega) ht
        | false =>
          rcases R.stat.two i j _ _ hlt (R.d hq) (R.d hr) with h2 | ⟨_, h2⟩
          · exact h2
          · rcases h2 with h2 | h2 | h2 | ⟨_, ⟨a1, _⟩ | ⟨_, _, a1, _⟩ | ⟨a1, _⟩⟩
            · omega
            · omega
            · omega
            · omega
            · omega
            · rw [ht] at a1; cases a1
      have := hreach.closed hc (.inr hSj)
      rw [hSi] at this; cases this
  have key : ∀ (T : Nat → Bool), (∀ j, j ≠ i → T j = S j) → ∀ j, j ≤ i → hP T rs σ0.H j = hP (fun _ => true) rs σ0.H j := by
    intro T hT j
    induction j with
    | zero => intro _; rfl
    | succ j ih =>
      intro hj
      have hjl : j < rs.length := by omega
      obtain ⟨r, hr⟩ : ∃ r, rs[j]? = some r := ⟨rs[j], List.getElem?_eq_getElem hjl⟩
      obtain ⟨c1, c2⟩ := R.canon hr
      rw [hP_succ hr, ih (by omega), c2, c1, hT j (by omega)]
      cases hlr : r.loud with
      | false =>
        rw [eff_quiet hlr, R.quiet hr hlr]
        cases S j <;> rfl
      | true =>
        obtain ⟨b1, b2⟩ := before j r hr hlr (by omega)
        rw [b1, cond_true, eff_loud hlr b2]
  have key2 : ∀ (T : Nat → Bool), (∀ j, j ≠ i → T j = S j) → ∀ d, i + 1 + d ≤ rs.length → hP T rs σ0.H (i + 1 + d) = hP T rs σ0.H (i + 1) := by
    intro T hT d
    induction d with
    | zero => intro _; rfl
    | succ d ih =>
      intro hd
      have hjl : i + 1 + d < rs.length := by omega
      obtain ⟨r, hr⟩ : ∃ r, rs[i + 1 + d]? = some r := ⟨rs[i + 1 + d], List.getElem?_eq_getElem hjl⟩
      rw [← Nat.add_assoc, hP_succ hr, ih (by omega), hT _ (by omega)]
      cases hlr : r.loud with
      | false => rw [eff_quiet hlr]; cases S (i + 1 + d) <;> rfl
      | true => rw [after _ r hr hlr (by omega)]; rfl
  obtain ⟨c1, c2⟩ := R.canon hq
  have e : rs.length = i + 1 + (rs.length - (i + 1)) := by omega
  constructor
  · rw [← hP_all]
    have := key2 S (fun _ _ => rfl) (rs.length - (i + 1)) (by omega)
    rw [← e] at this
    rw [this, hP_succ hq, hSi, cond_false, key S (fun _ _ => rfl) i (Nat.le_refl _), c1]
  · have hT : ∀ j, j ≠ i → (S j || decide (j = i)) = S j := fun j hj => by simp [hj]
    rw [← hP_all]
    have := key2 _ hT (rs.length - (i + 1)) (by omega)
    rw [← e] at this
    rw [this, hP_succ hq]
    have : (S i || decide (i = i)) = true := by simp
    rw [this, cond_true, eff_loud hl ht]
end
end Go.Ev
