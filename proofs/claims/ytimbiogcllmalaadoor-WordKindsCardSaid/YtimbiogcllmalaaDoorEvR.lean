/- Regions that draw their order: the laws of partial states. -/
import Derived.Test.YtimbiogcllmalaaDoorEvQ
namespace Go.Ev
open Go Go.RowKit

mutual
theorem AV.beq_eq : ∀ (x y : AV), AV.beq x y = true → x = y
  | .int _ _, y, h => by cases y <;> simp [AV.beq] at h; simp [h]
  | .bool _, y, h => by cases y <;> simp [AV.beq] at h; simp [h]
  | .str _, y, h => by cases y <;> simp [AV.beq] at h; simp [h]
  | .ptr _ _, y, h => by cases y <;> simp [AV.beq] at h; simp [h]
  | .nilp, y, h => by cases y <;> simp [AV.beq] at h; rfl
  | .slice _ _ _ _, y, h => by cases y <;> simp [AV.beq] at h; simp [h]
  | .osl _ _ _ _, y, h => by cases y <;> simp [AV.beq] at h; simp [h]
  | .nils, y, h => by cases y <;> simp [AV.beq] at h; rfl
  | .map _, y, h => by cases y <;> simp [AV.beq] at h; simp [h]
  | .nilm, y, h => by cases y <;> simp [AV.beq] at h; rfl
  | .fn f c, y, h => by
    cases y <;> simp only [AV.beq, Bool.false_eq_true, Bool.and_eq_true, beq_iff_eq] at h
    rw [h.1, AV.beqs_eq _ _ h.2]
  | .nilf, y, h => by cases y <;> simp [AV.beq] at h; rfl
  | .iface t v, y, h => by
    cases y <;> simp only [AV.beq, Bool.false_eq_true, Bool.and_eq_true, beq_iff_eq] at h
    rw [h.1, AV.beq_eq _ _ h.2]
  | .nili, y, h => by cases y <;> simp [AV.beq] at h; rfl
  | .agg l, y, h => by
    cases y <;> simp only [AV.beq, Bool.false_eq_true] at h
    rw [AV.beqs_eq _ _ h]
  | .tup l, y, h => by
    cases y <;> simp only [AV.beq, Bool.false_eq_true] at h
    rw [AV.beqs_eq _ _ h]
theorem AV.beqs_eq : ∀ (x y : List AV), AV.beqs x y = true → x = y
  | [], y, h => by cases y <;> simp [AV.beqs] at h; rfl
  | a :: x, y, h => by
    cases y <;> simp only [AV.beqs, Bool.false_eq_true, Bool.and_eq_true] at h
    rw [AV.beq_eq _ _ h.1, AV.beqs_eq _ _ h.2]
end

/-- A step of the canonical run: the state before it, whether it was wanted, its value, the memory behind it. -/
structure Rec where
  d : DCop
  σ : St
  w : Bool
  v : AV
  H' : Heap

def Rec.next (r : Rec) : St := ({ r.σ with H := r.H' } : St).put r.d.c.dst r.v

/-- A record is what the abstract machine does there. -/
def Rec.ok (call : FuncId → List AV → Heap → Option (End × Heap)) (r : Rec) : Prop :=
  (r.w = false ∧ wantedA r.σ r.d.c.guard = some false ∧ r.v = undefA ∧ r.H' = r.σ.H) ∨ (r.w = true ∧ wantedA r.σ r.d.c.guard = some true ∧ evOp1 call r.σ r.d.c.op = some (.val r.v r.H'))

def Rec.log (r : Rec) : LogE := if r.w then mkLog r.d r.σ r.v else .no

inductive Chain (call : FuncId → List AV → Heap → Option (End × Heap)) : List Rec → St → St → Prop
  | nil (σ : St) : Chain call [] σ σ
  | cons (r : Rec) (rs : List Rec) (σ' : St) : r.ok call → Chain call rs r.next σ' → Chain call (r :: rs) r.σ σ'

/-- What the run of a drawn region shows. -/
theorem evOpsD_recs {call : FuncId → List AV → Heap → Option (End × Heap)} : ∀ (ds : List DCop) (k : Nat) (lg : List (Nat × LogE)) (σ σ' : St) (ctl : Ctl), evOpsD call ds k lg σ = some (ctl, σ') →
    ctl = .normal ∧ ∃ rs : List Rec, rs.map (·.d) = ds ∧ Chain call rs σ σ' ∧
      ∀ (j : Nat) (r : Rec), rs[j]? = some r → r.w = true → ∀ i ∈ r.d.u, ∃ e, dynOK r.d r.σ r.v r.H' (some e) = true ∧
        ((k ≤ i ∧ ∃ q, rs[i - k]? = some q ∧ i - k < j ∧ e = q.log) ∨ (lkL i lg = some e))
  | [], k, lg, σ, σ', ctl, h => by
    simp only [evOpsD, Option.some.injEq, Prod.mk.injEq] at h
    obtain ⟨rfl, rfl⟩ := h
    exact ⟨rfl, [], rfl, .nil _, fun j r h => by simp at h⟩
  | d :: ds, k, lg, σ, σ', ctl, h => by
    simp only [evOpsD] at h
    split at h
    · cases h
    · rename_i hw
      obtain ⟨rfl, rs, h1, h2, h3⟩ := evOpsD_recs ds (k + 1) _ _ σ' ctl h
      let r0 : Rec := { d := d, σ := σ, w := false, v := undefA, H' := σ.H }
      refine ⟨rfl, r0 :: rs, by simp [h1, r0], .cons r0 rs σ' (.inl ⟨rfl, hw, rfl, rfl⟩) h2, ?_⟩
      intro j r hr hrw i hi
      cases j with
      | zero => simp only [List.getElem?_cons_zero, Option.some.injEq] at hr; subst hr; cases hrw
      | succ j =>
        simp only [List.getElem?_cons_succ] at hr
        obtain ⟨e, he, hcase⟩ := h3 j r hr hrw i hi
        refine ⟨e, he, ?_⟩
        rcases hcase with ⟨g1, q, g2, g3, g4⟩ | hlk
        · refine .inl ⟨by omega, q, ?_, by omega, g4⟩
          have : i - k = (i - (k + 1)) + 1 := by omega
          rw [this, List.getElem?_cons_succ]; exact g2
        · split at hlk
          · simp only [lkL] at hlk
            split at hlk
            · rename_i e2; subst e2; injection hlk with hlk
              exact .inl ⟨Nat.le_refl _, r0, by simp, by omega, by rw [← hlk]; rfl⟩
            · exact .inr hlk
          · exact .inr hlk
    · rename_i hw
      split at h
      · rename_i v H' hop
        split at h
        · rename_i hall
          obtain ⟨rfl, rs, h1, h2, h3⟩ := evOpsD_recs ds (k + 1) _ _ σ' ctl h
          let r0 : Rec := { d := d, σ := σ, w := true, v := v, H' := H' }
          refine ⟨rfl, r0 :: rs, by simp [h1, r0], .cons r0 rs σ' (.inr ⟨rfl, hw, hop⟩) h2, ?_⟩
          intro j r hr hrw i hi
          cases j with
          | zero =>
            simp only [List.getElem?_cons_zero, Option.some.injEq] at hr; subst hr
            have hd := (List.all_eq_true.1 hall) i hi
            cases hl : lkL i lg with
            | none => rw [hl] at hd; cases hd
            | some e => rw [hl] at hd; exact ⟨e, hd, .inr rfl⟩
          | succ j =>
            simp only [List.getElem?_cons_succ] at hr
            obtain ⟨e, he, hcase⟩ := h3 j r hr hrw i hi
            refine ⟨e, he, ?_⟩
            rcases hcase with ⟨g1, q, g2, g3, g4⟩ | hlk
            · refine .inl ⟨by omega, q, ?_, by omega, g4⟩
              have : i - k = (i - (k + 1)) + 1 := by omega
              rw [this, List.getElem?_cons_succ]; exact g2
            · split at hlk
              · simp only [lkL] at hlk
                split at hlk
                · rename_i e2; subst e2; injection hlk with hlk
                  exact .inl ⟨Nat.le_refl _, r0, by simp, by omega, by rw [← hlk]; rfl⟩
                · exact .inr hlk
              · exact .inr hlk
        · cases h
      · cases h

/-- Which operand a slot is. -/
def hits : Dst → Opd → Bool
  | .p i, .p j => i == j
  | .t i, .t j => i == j
  | _, _ => false

theorem rho_put (σ : St) (d : Dst) (v : AV) (x : Opd) : rho (σ.put d v).p (σ.put d v).t x = cond (hits d x) (some v) (rho σ.p σ.t x) := by
  cases d <;> cases x <;> simp only [St.put, rho, hits, cond_false, lk_up, lk]
  all_goals
    rename_i i j
    by_cases h : i = j
    · simp [h]
    · have h2 : (i == j) = false := by simpa using h
      rw [h2, if_neg (Ne.symm h)]; rfl

/-- The operand's value, where the steps of S are done. -/
def rhoS (S : Nat → Bool) (x : Opd) : List Rec → Nat → Option AV → Option AV
  | [], _, a => a
  | r :: rs, k, a => rhoS S x rs (k + 1) (cond (S k && hits r.d.c.dst x) (some r.v) a)

theorem rhoS_congr {S S' : Nat → Bool} {x : Opd} : ∀ (rs : List Rec) (k : Nat) (a : Option AV), (∀ j r, rs[j]? = some r → hits r.d.c.dst x = true → S (k + j) = S' (k + j)) → rhoS S x rs k a = rhoS S' x rs k a
  | [], _, _, _ => rfl
  | r :: rs, k, a, h => by
    simp only [rhoS]
    have h0 : (S k && hits r.d.c.dst x) = (S' k && hits r.d.c.dst x) := by
      by_cases hh : hits r.d.c.dst x = true
      · rw [hh, show S k = S' k from h 0 r rfl hh]
      · simp [hh]
    rw [h0]
    exact rhoS_congr rs (k + 1) _ fun j q hq hh => by have := h (j + 1) q (by simpa using hq) hh; rw [show k + 1 + j = k + (j + 1) by omega]; exact this

/-- The canonical run's operands. -/
theorem chain_rho {call : FuncId → List AV → Heap → Option (End × Heap)} {x : Opd} : ∀ (rs : List Rec) (k : Nat) (σ σ' : St), Chain call rs σ σ' →
    (∀ j r, rs[j]? = some r → rho r.σ.p r.σ.t x = rhoS (fun i => decide (i < k + j)) x rs k (rho σ.p σ.t x)) ∧ rho σ'.p σ'.t x = rhoS (fun _ => true) x rs k (rho σ.p σ.t x)
  | [], k, σ, σ', h => by cases h; exact ⟨fun j r h => by simp at h, rfl⟩
  | r :: rs, k, σ, σ', h => by
    cases h with
    | cons _ _ _ hok hch =>
      obtain ⟨h1, h2⟩ := chain_rho rs (k + 1) _ σ' hch
      have hnext : rho r.next.p r.next.t x = cond (hits r.d.c.dst x) (some r.v) (rho r.σ.p r.σ.t x) := by
        unfold Rec.next
        exact rho_put _ _ _ _
      constructor
      · intro j q hq
        cases j with
        | zero =>
          simp only [List.getElem?_cons_zero, Option.some.injEq] at hq; subst hq
          simp only [rhoS]
          have : (decide (k < k + 0) && hits r.d.c.dst x) = false := by simp
          rw [this]
          have hz : ∀ (rs : List Rec) (k' : Nat) (a : Option AV), k + 0 ≤ k' → rhoS (fun i => decide (i < k + 0)) x rs k' a = a := by
            intro rs
            induction rs with
            | nil => intro k' a _; rfl
            | cons r rs ih =>
              intro k' a hk
              simp only [rhoS]
              have : decide (k' < k + 0) = false := by simp; omega
              rw [this, Bool.false_and, cond_false]
              exact ih (k' + 1) a (by omega)
          rw [hz rs (k + 1) _ (by omega)]
          rfl
        | succ j =>
          simp only [List.getElem?_cons_succ] at hq
          rw [h1 j q hq, hnext]
          simp only [rhoS]
          have : decide (k < k + (j + 1)) = true := by simp
          rw [this, Bool.true_and, show k + 1 + j = k + (j + 1) by omega]
      · rw [h2, hnext]
        simp only [rhoS, Bool.true_and]

/-- A step more. -/
theorem rhoS_add {S : Nat → Bool} {x : Opd} {i : Nat} {q : Rec} : ∀ (rs : List Rec) (k : Nat) (a : Option AV), k ≤ i → rs[i - k]? = some q → S i = false → (hits q.d.c.dst x = true → ∀ j r, rs[j]? = some r → hits r.d.c.dst x = true → i < k + j → S (k + j) = false) →
    rhoS (fun j => S j || decide (j = i)) x rs k a = cond (hits q.d.c.dst x) (some q.v) (rhoS S x rs k a)
  | [], k, a, _, h, _, _ => by simp at h
  | r :: rs, k, a, hk, hq, hS, hlast => by
    by_cases hki : i = k
    · subst hki
      simp only [Nat.sub_self, List.getElem?_cons_zero, Option.some.injEq] at hq
      subst hq
      simp only [rhoS, decide_true, Bool.or_true, Bool.true_and, hS, Bool.false_and, cond_false]
      have hc : ∀ a, rhoS (fun j => S j || decide (j = i)) x rs (i + 1) a = rhoS S x rs (i + 1) a := fun a => rhoS_congr rs (i + 1) a fun j r _ _ => by
        have : decide (i + 1 + j = i) = false := by simp; omega
        simp [this]
      rw [hc]
      by_cases hh : hits r.d.c.dst x = true
      · rw [hh, cond_true, cond_true]
        have hn : ∀ (rs' : List Rec) (k' : Nat) (a : Option AV), (∀ j r', rs'[j]? = some r' → hits r'.d.c.dst x = true → S (k' + j) = false) → rhoS S x rs' k' a = a := by
          intro rs'
          induction rs' with
          | nil => intro k' a _; rfl
          | cons r' rs' ih =>
            intro k' a h
            simp only [rhoS]
            have : (S k' && hits r'.d.c.dst x) = false := by
              by_cases h2 : hits r'.d.c.dst x = true
              · rw [show S k' = false from h 0 r' rfl h2]; rfl
              · simp [h2]
            rw [this, cond_false]
            exact ih (k' + 1) a fun j q hq h2 => by have := h (j + 1) q (by simpa using hq) h2; rw [show k' + 1 + j = k' + (j + 1) by omega]; exact this
        exact hn rs (i + 1) _ fun j q hq h2 => by have := hlast hh (j + 1) q (by simpa using hq) h2 (by omega); rw [show i + 1 + j = i + (j + 1) by omega]; exact this
      · simp only [Bool.not_eq_true] at hh; rw [hh, cond_false, cond_false]
    · have hq' : rs[i - (k + 1)]? = some q := by
        have : i - k = (i - (k + 1)) + 1 := by omega
        rw [this, List.getElem?_cons_succ] at hq; exact hq
      simp only [rhoS]
      have : (S k || decide (k = i)) = S k := by
        have : decide (k = i) = false := by simp; omega
        rw [this, Bool.or_false]
      rw [this]
      exact rhoS_add rs (k + 1) _ (by omega) hq' hS fun hh j r hr h2 hlt => by have := hlast hh (j + 1) r (by simpa using hr) h2 (by omega); rw [show k + 1 + j = k + (j + 1) by omega]; exact this
end Go.Ev
