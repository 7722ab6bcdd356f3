/- Regions that draw their order: the memory of a partial state; what the checker asks. -/
import Derived.Test.YtimbiogcllmalaaDoorEvS
namespace Go.Ev
open Go Go.RowKit

/-- What a store comes to. -/
def stEff (ρ : Opd → Option AV) (op : COp) (H : Heap) : Heap :=
  match op with
  | .store _ a x => match ρ a, ρ x with
    | some (.ptr b off), some v => (match H.get b with
      | .cells c .own => H.set b (.cells (wr c off v.cells) .own)
      | _ => H)
    | _, _ => H
  | _ => H

def Rec.loud (r : Rec) : Bool := r.w && kindC r.d.c.op == 2

def eff (r : Rec) (H : Heap) : Heap := cond r.loud (cond r.d.tl (stEff (rho r.σ.p r.σ.t) r.d.c.op H) r.H') H

def hS (S : Nat → Bool) : List Rec → Nat → Heap → Heap
  | [], _, H => H
  | r :: rs, k, H => hS S rs (k + 1) (cond (S k) (eff r H) H)

/-- One step before another, by the edges that bind. -/
inductive Reach (ops : Array Oper) : Nat → Nat → Prop
  | edge {j : Nat} {o : Oper} {e : Edge} : ops[j]? = some o → e ∈ o.after → Region.binds .any e = true → Reach ops e.on j
  | trans {i j : Nat} {o : Oper} {e : Edge} : Reach ops i e.on → ops[j]? = some o → e ∈ o.after → Region.binds .any e = true → Reach ops i j

def Closed (ops : Array Oper) (S : Nat → Bool) : Prop := ∀ j o e, S j = true → ops[j]? = some o → e ∈ o.after → Region.binds .any e = true → S e.on = true
def Ready (ops : Array Oper) (S : Nat → Bool) (j : Nat) : Prop := ∀ o e, ops[j]? = some o → e ∈ o.after → Region.binds .any e = true → S e.on = true

theorem Reach.closed {ops : Array Oper} {S : Nat → Bool} (hc : Closed ops S) {i j : Nat} (h : Reach ops i j) (hj : Ready ops S j ∨ S j = true) : S i = true := by
  induction h with
  | edge ho he hb => rcases hj with hj | hj
                     · exact hj _ _ ho he hb
                     · exact hc _ _ _ hj ho he hb
  | trans _ ho he hb ih => 
    refine ih (.inr ?_)
    rcases hj with hj | hj
    · exact hj _ _ ho he hb
    · exact hc _ _ _ hj ho he hb

def Cop.all (c : Cop) : List Opd := c.op.opds ++ (match c.guard with | some (x, _) => [x] | none => [])

def dstSame : Dst → Dst → Bool
  | .p i, .p j => i == j
  | .t i, .t j => i == j
  | _, _ => false

def conf (c d : Cop) : Bool := d.all.any (hits c.dst) || dstSame c.dst d.dst || c.all.any (hits d.dst)

theorem hits_same {d d' : Dst} {x : Opd} (h : hits d x = true) (h' : hits d' x = true) : dstSame d d' = true := by
  cases d <;> cases d' <;> cases x <;> simp [hits, dstSame] at *
  all_goals omega

/-- A call that asks for no memory? -/
def isP : COp → Bool
  | .callP _ _ _ => true
  | _ => false

theorem isP_kind {op : COp} (h : kindC op ≠ 0) : isP op = false := by
  cases op <;> first | rfl | (simp [kindC] at h)

def isStore : COp → Bool
  | .store _ _ _ => true
  | _ => false

/-- What is asked of a region's operations, two by two. -/
structure Stat (ops : Array Oper) (ds : List DCop) : Prop where
  lt : ∀ (j : Nat) (o : Oper) (e : Edge), ops[j]? = some o → e ∈ o.after → Region.binds .any e = true → e.on < j
  size : ds.length = ops.size
  one : ∀ (j : Nat) (d : DCop), ds[j]? = some d → kindC d.c.op < 3 ∧ (d.tl = true → isStore d.c.op = true)
  two : ∀ (i j : Nat) (d d' : DCop), i < j → ds[i]? = some d → ds[j]? = some d' → Reach ops i j ∨ (conf d.c d'.c = false ∧ (kindC d.c.op = 0 ∨ kindC d'.c.op = 0 ∨ (kindC d.c.op = 1 ∧ kindC d'.c.op = 1) ∨
    (i ∈ d'.u ∧ ((kindC d.c.op = 1 ∧ kindC d'.c.op = 2 ∧ d.tl = false ∧ d'.tl = false) ∨ (kindC d.c.op = 2 ∧ d.tl = false ∧ kindC d'.c.op = 1 ∧ d'.tl = false) ∨ (d.tl = true ∧ d'.tl = true)))))
  tail1 : ∀ (i j : Nat) (d d' : DCop), i < j → ds[i]? = some d → ds[j]? = some d' → d'.tl = true → kindC d.c.op ≠ 0 → d.tl = false → Reach ops i j
  tail2 : ∀ (i j : Nat) (d d' : DCop), i < j → ds[i]? = some d → ds[j]? = some d' → d.tl = true → kindC d'.c.op = 0 ∨ d'.tl = true

section
variable {call : FuncId → List AV → Heap → Option (End × Heap)}

theorem evOp1_simple {σ : St} {op : COp} {v : AV} {H' : Heap} (hk : kindC op = 0 ∨ kindC op = 1) (hp : isP op = false) (h : evOp1 call σ op = some (.val v H')) : evOp (rho σ.p σ.t) σ.H op = some (v, H') := by
  cases op <;> first | (rcases hk with hk | hk <;> simp [kindC] at hk; done) | (simp [isP] at hp; done) | skip
  all_goals
    simp only [evOp1] at h
    split at h
    · rename_i he; simp only [Option.some.injEq, OOut.val.injEq] at h; obtain ⟨rfl, rfl⟩ := h; exact he
    · cases h

theorem evOp1_p {σ : St} {op : COp} {v : AV} {H' : Heap} (hp : isP op = true) (h : evOp1 call σ op = some (.val v H')) : H' = σ.H := by
  cases op <;> first | (simp [isP] at hp; done) | skip
  simp only [evOp1] at h
  split at h
  · split at h
    · split at h
      · split at h
        · simp only [Option.some.injEq, OOut.val.injEq] at h; exact h.2.symm
        · cases h
      · cases h
    · cases h
  · cases h

theorem evOp1_quiet {σ : St} {op : COp} {v : AV} {H' : Heap} (hk : kindC op = 0 ∨ kindC op = 1) (h : evOp1 call σ op = some (.val v H')) : H' = σ.H := by
  cases hp : isP op with
  | true => exact evOp1_p hp h
  | false => exact evOp_quiet hk (evOp1_simple hk hp h)

theorem evOp1_store {σ : St} {op : COp} {v : AV} {H' : Heap} (hk : isStore op = true) (h : evOp1 call σ op = some (.val v H')) : evOp (rho σ.p σ.t) σ.H op = some (v, H') := by
  cases op <;> first | (simp [isStore] at hk; done) | skip
  simp only [evOp1] at h
  split at h
  · rename_i he; simp only [Option.some.injEq, OOut.val.injEq] at h; obtain ⟨rfl, rfl⟩ := h; exact he
  · cases h

theorem Rec.quiet {r : Rec} (hok : r.ok call) (hk : kindC r.d.c.op < 3) (hl : r.loud = false) : r.H' = r.σ.H := by
  rcases hok with ⟨_, _, _, h⟩ | ⟨hw, _, h⟩
  · exact h
  · have hk2 : kindC r.d.c.op = 0 ∨ kindC r.d.c.op = 1 := by
      simp only [Rec.loud, hw, Bool.true_and, beq_eq_false_iff_ne] at hl; omega
    exact evOp1_quiet hk2 h

/-- What a store that was done came to. -/
theorem store_eff {ρ : Opd → Option AV} {H H' : Heap} {op : COp} {v : AV} (hs : isStore op = true) (h : evOp ρ H op = some (v, H')) : v = undefA ∧ H' = stEff ρ op H ∧
    ∃ n a x b off u c, op = .store n a x ∧ ρ a = some (.ptr b off) ∧ ρ x = some u ∧ H.get b = .cells c .own ∧ u.cells.length = n ∧ off + n ≤ c.length ∧ u.cells.all AV.one = true := by
  cases op <;> first | (simp [isStore] at hs; done) | skip
  rename_i n a x
  simp only [evOp] at h
  split at h
  · rename_i b off ha
    split at h
    · rename_i u hx
      split at h
      · rename_i c hg
        split at h
        · rename_i hc
          simp only [Option.some.injEq, Prod.mk.injEq] at h
          obtain ⟨rfl, rfl⟩ := h
          exact ⟨rfl, by simp only [stEff, ha, hx, hg], n, a, x, b, off, u, c, rfl, ha, hx, hg, hc.1, hc.2.1, hc.2.2⟩
        · cases h
      · cases h
    · cases h
  · cases h

theorem hS_append (S : Nat → Bool) : ∀ (rs qs : List Rec) (k : Nat) (H : Heap), hS S (rs ++ qs) k H = hS S qs (k + rs.length) (hS S rs k H)
  | [], _, _, _ => by simp [hS]
  | r :: rs, qs, k, H => by
    simp only [List.cons_append, hS, List.length_cons]
    rw [hS_append S rs qs (k + 1), show k + 1 + rs.length = k + (rs.length + 1) by omega]

theorem hS_congr {S S' : Nat → Bool} : ∀ (rs : List Rec) (k : Nat) (H : Heap), (∀ j r, rs[j]? = some r → r.loud = true → S (k + j) = S' (k + j)) → hS S rs k H = hS S' rs k H
  | [], _, _, _ => rfl
  | r :: rs, k, H, h => by
    simp only [hS]
    have h0 : cond (S k) (eff r H) H = cond (S' k) (eff r H) H := by
      by_cases hl : r.loud = true
      · rw [show S k = S' k from h 0 r rfl hl]
      · simp only [Bool.not_eq_true] at hl
        have : eff r H = H := by simp [eff, hl]
        rw [this]; cases S k <;> cases S' k <;> rfl
    rw [h0]
    exact hS_congr rs (k + 1) _ fun j q hq hl => by have := h (j + 1) q (by simpa using hq) hl; rw [show k + 1 + j = k + (j + 1) by omega]; exact this

/-- Nothing loud is done: the memory stays. -/
theorem hS_none {S : Nat → Bool} : ∀ (rs : List Rec) (k : Nat) (H : Heap), (∀ j r, rs[j]? = some r → r.loud = true → S (k + j) = false) → hS S rs k H = H
  | [], _, _, _ => rfl
  | r :: rs, k, H, h => by
    simp only [hS]
    have h0 : cond (S k) (eff r H) H = H := by
      by_cases hl : r.loud = true
      · rw [show S k = false from h 0 r rfl hl]; rfl
      · simp only [Bool.not_eq_true] at hl
        have : eff r H = H := by simp [eff, hl]
        rw [this]; cases S k <;> rfl
    rw [h0]
    exact hS_none rs (k + 1) H fun j q hq hl => by have := h (j + 1) q (by simpa using hq) hl; rw [show k + 1 + j = k + (j + 1) by omega]; exact this

/-- The canonical run's memory. -/
theorem eff_canon {r : Rec} (hok : r.ok call) (hk : kindC r.d.c.op < 3) (ht : r.d.tl = true → isStore r.d.c.op = true) : eff r r.σ.H = r.H' := by
  unfold eff
  cases hl : r.loud with
  | false => simp only [cond_false]; exact (Rec.quiet hok hk hl).symm
  | true =>
    simp only [cond_true]
    cases htl : r.d.tl with
    | false => rfl
    | true =>
      simp only [cond_true]
      have hw : r.w = true := by simp only [Rec.loud, Bool.and_eq_true] at hl; exact hl.1
      rcases hok with ⟨h, _⟩ | ⟨_, _, h⟩
      · rw [hw] at h; cases h
      · exact (store_eff (ht htl) (evOp1_store (ht htl) h)).2.1.symm

theorem next_H (r : Rec) : r.next.H = r.H' := by
  unfold Rec.next St.put
  split <;> rfl

theorem chain_H : ∀ (rs : List Rec) (k : Nat) (σ σ' : St), Chain call rs σ σ' → (∀ r ∈ rs, kindC r.d.c.op < 3 ∧ (r.d.tl = true → isStore r.d.c.op = true)) →
    (∀ j r, rs[j]? = some r → r.σ.H = hS (fun _ => true) (rs.take j) k σ.H) ∧ σ'.H = hS (fun _ => true) rs k σ.H
  | [], k, σ, σ', h, _ => by cases h; exact ⟨fun j r h => by simp at h, rfl⟩
  | r :: rs, k, σ, σ', h, hone => by
    cases h with
    | cons _ _ _ hok hch =>
      obtain ⟨h1, h2⟩ := chain_H rs (k + 1) _ σ' hch fun q hq => hone q (List.mem_cons_of_mem _ hq)
      obtain ⟨g1, g2⟩ := hone r (List.mem_cons_self ..)
      have he : eff r r.σ.H = r.next.H := by rw [next_H]; exact eff_canon hok g1 g2
      constructor
      · intro j q hq
        cases j with
        | zero => simp only [List.getElem?_cons_zero, Option.some.injEq] at hq; subst hq; rfl
        | succ j =>
          simp only [List.getElem?_cons_succ] at hq
          rw [h1 j q hq, List.take_succ_cons]
          simp only [hS, cond_true, he]
      · rw [h2]
        simp only [hS, cond_true, he]

theorem chain_ok : ∀ (rs : List Rec) (σ σ' : St), Chain call rs σ σ' → ∀ r ∈ rs, r.ok call
  | [], _, _, _, r, h => by cases h
  | r :: rs, _, σ', h, q, hq => by
    cases h with
    | cons _ _ _ hok hch =>
      rcases List.mem_cons.1 hq with rfl | hq
      · exact hok
      · exact chain_ok rs _ σ' hch q hq

theorem chain_d : ∀ (rs : List Rec) (σ σ' : St), Chain call rs σ σ' → ∀ (j : Nat) (r : Rec), rs[j]? = some r → r.σ.d = σ.d ∧ r.σ.u = σ.u
  | [], _, _, _, j, r, h => by simp at h
  | r :: rs, _, σ', h, j, q, hq => by
    cases h with
    | cons _ _ _ hok hch =>
      cases j with
      | zero => simp only [List.getElem?_cons_zero, Option.some.injEq] at hq; subst hq; exact ⟨rfl, rfl⟩
      | succ j =>
        simp only [List.getElem?_cons_succ] at hq
        obtain ⟨h1, h2⟩ := chain_d rs _ σ' hch j q hq
        rw [h1, h2]
        unfold Rec.next St.put
        split <;> exact ⟨rfl, rfl⟩

theorem chain_du : ∀ (rs : List Rec) (σ σ' : St), Chain call rs σ σ' → σ'.d = σ.d ∧ σ'.u = σ.u
  | [], _, _, h => by cases h; exact ⟨rfl, rfl⟩
  | r :: rs, _, σ', h => by
    cases h with
    | cons _ _ _ hok hch =>
      obtain ⟨h1, h2⟩ := chain_du rs _ σ' hch
      rw [h1, h2]
      unfold Rec.next St.put
      split <;> exact ⟨rfl, rfl⟩
end
end Go.Ev
