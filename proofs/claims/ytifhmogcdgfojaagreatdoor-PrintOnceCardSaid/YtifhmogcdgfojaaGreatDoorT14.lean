/- Regions that draw their order: new blocks that no order stands between. -/
import Derived.Test.YtifhmogcdgfojaaGreatDoorT13
set_option linter.unusedSimpArgs false
set_option linter.unusedVariables false
namespace Go.Ev
open Go Go.RowKit

mutual
theorem VR.sh {ι ι2 : Plan} {g n : Nat} (h : ∀ b L, ι b = some L → ι2 (if b < g then b else b - g + n) = some L) : ∀ (x : AV) (v : Value), VR ι x v → VR ι2 (shA g n x) v
  | .int _ _, _, e => e
  | .bool _, _, e => e
  | .str _, _, e => e
  | .ptr _ _, _, ⟨L, hL, e⟩ => ⟨L, h _ _ hL, e⟩
  | .nilp, _, e => e
  | .slice _ _ _ _, _, ⟨L, hL, e⟩ => ⟨L, h _ _ hL, e⟩
  | .osl _ _ _ _, _, ⟨L, hL, e⟩ => ⟨L, h _ _ hL, e⟩
  | .nils, _, e => e
  | .map _, _, ⟨L, hL, e⟩ => ⟨L, h _ _ hL, e⟩
  | .nilm, _, e => e
  | .fn _ cap, _, ⟨vs, e, r⟩ => ⟨vs, e, VRs.sh h cap _ r⟩
  | .nilf, _, e => e
  | .iface _ x, _, ⟨y, e, r⟩ => ⟨y, e, VR.sh h x _ r⟩
  | .nili, _, e => e
  | .agg l, _, ⟨vs, e, r⟩ => ⟨vs, e, VRs.sh h l _ r⟩
  | .tup l, _, ⟨vs, e, r⟩ => ⟨vs, e, VRs.sh h l _ r⟩
theorem VRs.sh {ι ι2 : Plan} {g n : Nat} (h : ∀ b L, ι b = some L → ι2 (if b < g then b else b - g + n) = some L) : ∀ (l : List AV) (vs : List Value), VRs ι l vs → VRs ι2 (shAs g n l) vs
  | [], _, e => e
  | x :: l, _, ⟨v, vs', e, r, rs⟩ => ⟨v, vs', e, VR.sh h x v r, VRs.sh h l vs' rs⟩
end

theorem shAs_get {g n : Nat} : ∀ (l : List AV) (i : Nat), (shAs g n l)[i]? = (l[i]?).map (shA g n)
  | [], i => by simp [shAs]
  | x :: l, 0 => by simp [shAs]
  | x :: l, i + 1 => by simp only [shAs, List.getElem?_cons_succ]; exact shAs_get l i
theorem shAs_length {g n : Nat} : ∀ (l : List AV), (shAs g n l).length = l.length
  | [] => rfl
  | _ :: l => by simp only [shAs, List.length_cons, shAs_length l]

theorem newBs_spec {H : Heap} : ∀ (k g : Nat) (bs : List (List AV)), newBs H g k = some bs → bs.length = k ∧ ∀ i c, bs[i]? = some c → H.get (g + i) = .cells c .own
  | 0, g, bs, h => by simp only [newBs, Option.some.injEq] at h; subst h; exact ⟨rfl, fun i c h => by simp at h⟩
  | k + 1, g, bs, h => by
    simp only [newBs] at h
    split at h
    · rename_i c hg
      obtain ⟨r, hr, e⟩ := Option.map_eq_some_iff.1 h
      subst e
      obtain ⟨h1, h2⟩ := newBs_spec k (g + 1) r hr
      refine ⟨by simp [h1], fun i c' hi => ?_⟩
      cases i with
      | zero => simp only [List.getElem?_cons_zero, Option.some.injEq] at hi; subst hi; exact hg
      | succ i =>
        rw [List.getElem?_cons_succ] at hi
        rw [show g + (i + 1) = g + 1 + i by omega]; exact h2 i c' hi
    · cases h

/-- Blocks laid at places that are kept for them. -/
def Heap.setL (H : Heap) (s : Nat) : List (List AV) → Heap
  | [] => H
  | c :: r => Heap.setL (H.set s (.cells c .own)) (s + 1) r

theorem Heap.setL_get : ∀ (bs : List (List AV)) (H : Heap) (s : Nat), s + bs.length ≤ H.size → (H.setL s bs).size = H.size ∧ ∀ b, (H.setL s bs).get b = if s ≤ b ∧ b < s + bs.length then .cells (bs.getD (b - s) []) .own else H.get b
  | [], H, s, _ => ⟨rfl, fun b => by rw [if_neg (by simp only [List.length_nil]; omega)]; rfl⟩
  | c :: r, H, s, h => by
    simp only [List.length_cons] at h
    obtain ⟨h1, h2⟩ := Heap.setL_get r (H.set s (.cells c .own)) (s + 1) (by rw [Heap.size_set]; omega)
    refine ⟨by simp only [Heap.setL]; rw [h1, Heap.size_set], fun b => ?_⟩
    simp only [Heap.setL, List.length_cons]
    rw [h2, Heap.get_set _ _ _ _ (by omega)]
    by_cases e : b = s
    · subst e
      rw [if_neg (by omega), if_pos rfl, if_pos (by omega)]; simp
    · by_cases e2 : s + 1 ≤ b ∧ b < s + 1 + r.length
      · rw [if_pos e2, if_pos (by omega)]
        rw [show b - s = (b - (s + 1)) + 1 by omega]; simp
      · rw [if_neg e2, if_neg e, if_neg (by omega)]

theorem Heap.pushAll_get : ∀ (bs : List (List AV)) (H : Heap), (H.pushAll bs).size = H.size + bs.length ∧ ∀ b, (H.pushAll bs).get b = if H.size ≤ b ∧ b < H.size + bs.length then .cells (bs.getD (b - H.size) []) .own else H.get b
  | [], H => ⟨rfl, fun b => by rw [if_neg (by simp only [List.length_nil]; omega)]; rfl⟩
  | c :: r, H => by
    obtain ⟨h1, h2⟩ := Heap.pushAll_get r (H.push (.cells c .own))
    refine ⟨by simp only [Heap.pushAll]; rw [h1, Heap.size_push]; simp; omega, fun b => ?_⟩
    simp only [Heap.pushAll, List.length_cons]
    rw [h2, Heap.size_push, Heap.get_push]
    by_cases e : b = H.size
    · subst e
      rw [if_neg (by omega), if_pos rfl, if_pos (by omega)]; simp
    · by_cases e2 : H.size + 1 ≤ b ∧ b < H.size + 1 + r.length
      · rw [if_pos e2, if_pos (by omega)]
        rw [show b - H.size = (b - (H.size + 1)) + 1 by omega]; simp
      · rw [if_neg e2, if_neg e, if_neg (by omega)]

/-- New blocks of the world, laid at places that were kept for them. -/
theorem Rel.fill {B : Nat} {ι ι2 κ : Plan} {H H2 : Heap} {w w' : World} (h : Rel B ι H w) {s : Nat} {bs : List (List AV)}
    (hnone : ∀ b, s ≤ b → b < s + bs.length → ι b = none ∧ H.get b = .dead) (hs : s + bs.length ≤ H.size)
    (hw : w.heap.size ≤ w'.heap.size) (hb : ∀ k, k < w.heap.size → w'.heap[k]? = w.heap[k]?)
    (hι2 : ∀ b, ι2 b = if s ≤ b ∧ b < s + bs.length then κ (b - s) else ι b)
    (hκ : ∀ i c, bs[i]? = some c → ∃ L, κ i = some L ∧ w.heap.size ≤ L.blk ∧ L.blk < w'.heap.size ∧ c.length ≤ L.ext ∧ (∀ j, j < L.ext → (∃ v, w'.cell? ⟨L.blk, L.base + j, none⟩ = some v) ∧ w'.frozen? ⟨L.blk, L.base + j, none⟩ = false) ∧
      ∀ (j : Nat) (x : AV), c[j]? = some x → ∃ v, w'.cell? ⟨L.blk, L.base + j, none⟩ = some v ∧ VR ι2 x v)
    (hinj : ∀ i i' L L', i < bs.length → i' < bs.length → i ≠ i' → κ i = some L → κ i' = some L' → L.blk ≠ L'.blk)
    (h2s : H2.size = H.size) (h2g : ∀ b, H2.get b = if s ≤ b ∧ b < s + bs.length then .cells (bs.getD (b - s) []) .own else H.get b) :
    ι.le ι2 ∧ Rel B ι2 H2 w' := by
  have h0 := h.world hw hb
  have hle : ι.le ι2 := by
    intro b L e
    rw [hι2]
    by_cases hin : s ≤ b ∧ b < s + bs.length
    · rw [(hnone b hin.1 hin.2).1] at e; cases e
    · rw [if_neg hin]; exact e
  have hat : ∀ b, s ≤ b ∧ b < s + bs.length → ∃ c, bs[b - s]? = some c ∧ H2.get b = .cells c .own := by
    intro b hin
    have hlt : b - s < bs.length := by omega
    refine ⟨bs[b - s], List.getElem?_eq_getElem hlt, ?_⟩
    rw [h2g, if_pos hin, List.getD_eq_getElem?_getD, List.getElem?_eq_getElem hlt]; rfl
  have hpl : ∀ b L, s ≤ b ∧ b < s + bs.length → ι2 b = some L → ∃ c, bs[b - s]? = some c ∧ H2.get b = .cells c .own ∧ κ (b - s) = some L ∧ w.heap.size ≤ L.blk ∧ L.blk < w'.heap.size := by
    intro b L hin e
    obtain ⟨c, hc, hg⟩ := hat b hin
    rw [hι2, if_pos hin] at e
    obtain ⟨L', hL', q1, q2, _⟩ := hκ _ c hc
    rw [e] at hL'; injection hL' with hL'; subst hL'
    exact ⟨c, hc, hg, e, q1, q2⟩
  have hold : ∀ b L, ¬ (s ≤ b ∧ b < s + bs.length) → ι2 b = some L → ι b = some L ∧ H2.get b = H.get b := by
    intro b L hin e
    rw [hι2, if_neg hin] at e
    exact ⟨e, by rw [h2g, if_neg hin]⟩
  refine ⟨hle, ?_⟩
  constructor
  · intro b L e
    by_cases hin : s ≤ b ∧ b < s + bs.length
    · obtain ⟨c, hc, hg, _, _, q2⟩ := hpl b L hin e
      exact ⟨by omega, q2⟩
    · have := h0.dom b L (hold b L hin e).1
      exact ⟨by omega, this.2⟩
  · intro b c u e
    by_cases hin : s ≤ b ∧ b < s + bs.length
    · obtain ⟨c', hc', hg⟩ := hat b hin
      rw [hg] at e; injection e with e1 e2; subst e1
      obtain ⟨L, hL, _, _, _, _, hx⟩ := hκ _ c' hc'
      exact ⟨L, by rw [hι2, if_pos hin]; exact hL, hx⟩
    · rw [h2g, if_neg hin] at e
      obtain ⟨L, hL, hx⟩ := h0.live b c u e
      exact ⟨L, hle _ _ hL, fun i x hi => let ⟨v, hv, hr⟩ := hx i x hi; ⟨v, hv, VR.mono hle _ _ hr⟩⟩
  · intro b c L u e hu hL
    by_cases hin : s ≤ b ∧ b < s + bs.length
    · obtain ⟨c', hc', hg⟩ := hat b hin
      rw [hg] at e; injection e with e1 e2; subst e1
      obtain ⟨L', hL', q1, _, q3, q4, _⟩ := hκ _ c' hc'
      rw [hι2, if_pos hin, hL'] at hL; injection hL with hL; subst hL
      exact ⟨Nat.le_trans h.size q1, q3, q4⟩
    · obtain ⟨hL1, hg⟩ := hold b L hin hL
      rw [hg] at e
      exact h0.ownu b c L e hu hL1
  · intro b s' p e
    by_cases hin : s ≤ b ∧ b < s + bs.length
    · obtain ⟨c', hc', hg⟩ := hat b hin
      rw [hg] at e; cases e
    · rw [h2g, if_neg hin] at e
      obtain ⟨L, hL, r⟩ := h0.iter b s' p e
      exact ⟨L, hle _ _ hL, r⟩
  · intro b c t L e hL
    by_cases hin : s ≤ b ∧ b < s + bs.length
    · obtain ⟨c', hc', hg⟩ := hat b hin
      rw [hg] at e; injection e with e1 e2; cases e2
    · obtain ⟨hL1, hg⟩ := hold b L hin hL
      rw [hg] at e
      exact h0.ty b c t L e hL1
  · intro b es e
    by_cases hin : s ≤ b ∧ b < s + bs.length
    · obtain ⟨c', hc', hg⟩ := hat b hin
      rw [hg] at e; cases e
    · rw [h2g, if_neg hin] at e
      obtain ⟨L, hL, q1, es', k, q2, q3⟩ := h0.mapb b es e
      exact ⟨L, hle _ _ hL, q1, es', k, q2, q3.mono hle⟩
  · intro b b' L L' hne ho hd e e'
    by_cases hin : s ≤ b ∧ b < s + bs.length
    · obtain ⟨c, hc, hg, k1, q1, q2⟩ := hpl b L hin e
      by_cases hin' : s ≤ b' ∧ b' < s + bs.length
      · obtain ⟨c', hc', hg', k1', q1', q2'⟩ := hpl b' L' hin' e'
        exact hinj _ _ L L' (by omega) (by omega) (by omega) k1 k1'
      · have := (h.dom b' L' (hold b' L' hin' e').1).2; omega
    · obtain ⟨f1, f2⟩ := hold b L hin e
      by_cases hin' : s ≤ b' ∧ b' < s + bs.length
      · obtain ⟨c', hc', hg', k1', q1', q2'⟩ := hpl b' L' hin' e'
        have := (h.dom b L f1).2; omega
      · obtain ⟨f1', f2'⟩ := hold b' L' hin' e'
        refine h.inj b b' L L' hne ?_ (by rw [← f2']; exact hd) f1 f1'
        unfold Owned at *; simpa only [f2] using ho
  · have := h.size; omega

/-- One that makes blocks and asks for none. -/
def isMk : COp → Bool
  | .alloc _ => true
  | .lit _ _ _ => true
  | .callQ _ _ _ => true
  | _ => false
def isQt : COp → Bool
  | .mov _ => true
  | .build _ _ => true
  | _ => false
def isLd : COp → Bool
  | .loadN _ _ => true
  | _ => false

def chkQ (X : Cx) (op : Op) (c : COp) : Bool :=
  match c with
  | .callQ g f' args' => (match op with
    | .call { callee := .value (.func f), args, .. } => f == f' && chkOpds X args.toList args' && g == X.P.globals.size
    | _ => false)
  | c => chkOp X op c

section
variable {X : Cx} {ι : Plan} {B : Nat} {κ : CallKind} {cs0 cs : List Frame} {w : World} {a : Act} {σ : St} {ops : Array Oper} {o : Oper} {c : Cop} {i : Nat} {rest : List Nat}
  {call : FuncId → List AV → Heap → Option (End × Heap)}

/-- A quiet operation: the world is as it was. -/
theorem quiet_step (h : SR X B κ cs0 ι σ a cs w) (ho : ops[i]? = some o) (hw : Region.wanted o (yielded ops a.tmps) = true) (hd : chkDst X o.dst c.dst = true) (hc : chkOp X o.op c.op = true) (hk : isQt c.op = true ∨ isLd c.op = true)
    {v : AV} {H' : Heap} (hev : evOp (rho σ.p σ.t) σ.H c.op = some (v, H')) (b : Frame) (k : List Item) :
    ∃ a', Steps X.P (lone (b.at a (.inRegion ops (i :: rest) :: k)) cs w) (lone (b.at a' (.inRegion ops rest :: k)) cs w) ∧ SR X B κ cs0 ι (σ.put c.dst v) a' cs w := by
  have fin : ∀ u, (execOp a.eval o).run X.P w = .ok (.value u) w → VR ι v u → ∃ a', Steps X.P (lone (b.at a (.inRegion ops (i :: rest) :: k)) cs w) (lone (b.at a' (.inRegion ops rest :: k)) cs w) ∧ SR X B κ cs0 ι (σ.put c.dst v) a' cs w :=
    fun u h1 h2 => ⟨_, .one (step_value ho hw h1), h.put hd h2⟩
  cases hco : c.op <;> rw [hco] at hk hc hev <;> first | (simp [isQt, isLd] at hk; done) | skip
  case mov y =>
    simp only [evOp, Option.map_eq_some_iff] at hev
    obtain ⟨u, hu, e⟩ := hev
    injection e with e1 e2; subst e1; subst e2
    cases hop : o.op <;> rw [hop] at hc <;> first | (exact absurd hc Bool.false_ne_true) | skip
    · exact fin _ (by simp [execOp, hop]) (rho_sound h.env hc hu)
    · exact fin _ (by simp [execOp, hop]) (rho_sound h.env hc hu)
    all_goals (rename_i cl; obtain ⟨callee, args, at_⟩ := cl; cases callee <;> first | (exact absurd hc Bool.false_ne_true) | (rename_i x; cases x <;> exact absurd hc Bool.false_ne_true))
  case build z qs =>
    cases hop : o.op
    case build ty ps =>
      obtain ⟨rfl, u, h1, h2⟩ := r_build (w := w) hop h.env hc hev
      exact fin u h1 h2
    all_goals rw [hop] at hc
    all_goals first | (exact absurd hc Bool.false_ne_true) | (rename_i cl; obtain ⟨callee, args, at_⟩ := cl; cases callee <;> first | (exact absurd hc Bool.false_ne_true) | (rename_i x; cases x <;> exact absurd hc Bool.false_ne_true))
  case loadN n y =>
    cases hop : o.op
    case load ty x =>
      rw [hop] at hc
      simp only [chkOp, Bool.and_eq_true, beq_iff_eq] at hc
      obtain ⟨rfl, u, h1, h2⟩ := r_loadN hop h.env h.rel hc.1.1 hc.1.2 hc.2 hev
      exact fin u h1 h2
    all_goals rw [hop] at hc
    all_goals first | (exact absurd hc Bool.false_ne_true) | (rename_i cl; obtain ⟨callee, args, at_⟩ := cl; cases callee <;> first | (exact absurd hc Bool.false_ne_true) | (rename_i x; cases x <;> exact absurd hc Bool.false_ne_true))

theorem mk_news {σ : St} {c : COp} {v : AV} {H' : Heap} (hk : isMk c = true) (hev : evOp1 call σ c = some (.val v H')) : ∃ bs, H' = σ.H.pushAll bs := by
  cases c <;> first | (simp [isMk] at hk; done) | skip
  case alloc z =>
    simp only [evOp1, evOp, Option.some.injEq, OOut.val.injEq] at hev
    exact ⟨[z], hev.2.symm⟩
  case lit z n ps =>
    simp only [evOp1] at hev
    split at hev
    · rename_i v' H1 he
      simp only [evOp, Option.map_eq_some_iff, Prod.mk.injEq] at he
      obtain ⟨c, _, _, e2⟩ := he
      simp only [Option.some.injEq, OOut.val.injEq] at hev
      exact ⟨[c], by rw [← hev.2, ← e2]; rfl⟩
    · cases hev
  case callQ g f args =>
    simp only [evOp1] at hev
    split at hev
    · split at hev
      · split at hev
        · split at hev
          · simp only [Option.some.injEq, OOut.val.injEq] at hev
            exact ⟨_, hev.2.symm⟩
          · cases hev
        · cases hev
      · cases hev
    · cases hev

/-- One block more at a place that was kept. -/
theorem one_fill {s : Nat} {c : List AV} {us : Array Value} {e : TypeId} (h : Rel B ι σ.H w) (hs : s < σ.H.size) (hn : ι s = none) (hg : σ.H.get s = .dead) (hr : VRs ι c us.toList) :
    ι.le (ι.add s ⟨w.heap.size, 0, c.length⟩) ∧ Rel B (ι.add s ⟨w.heap.size, 0, c.length⟩) (σ.H.setL s [c]) (w.alloc (.cells us e)) := by
  have hlen : us.size = c.length := by have := hr.length; simpa using this
  have hle : ι.le (ι.add s ⟨w.heap.size, 0, c.length⟩) := Plan.add_le _ hn
  obtain ⟨l1, l2⟩ := Heap.setL_get [c] σ.H s (by simp; omega)
  refine h.fill (κ := fun _ => some ⟨w.heap.size, 0, c.length⟩) (s := s) (bs := [c]) (fun b h1 h2 => ?_) (by simp; omega) (by simp) (fun k hk => Below.heap_alloc _ _ _ hk) (fun b => ?_) (fun i c' hi => ?_) (fun i i' L L' h1 h2 h3 => ?_) l1 l2
  · simp only [List.length_cons, List.length_nil] at h2
    have : b = s := by omega
    subst this; exact ⟨hn, hg⟩
  · simp only [Plan.add, List.length_cons, List.length_nil]
    by_cases e : b = s
    · subst e; rw [if_pos rfl, if_pos (by omega)]
    · rw [if_neg e, if_neg (by omega)]
  · cases i with
    | succ i => simp at hi
    | zero =>
      simp only [List.getElem?_cons_zero, Option.some.injEq] at hi; subst hi
      refine ⟨_, rfl, Nat.le_refl _, by simp, Nat.le_refl _, fun j hj => ?_, fun j x hx => ?_⟩
      · simp only [Nat.zero_add]
        rw [World.cell?_alloc_new, World.frozen?_alloc_new]
        simp only at hj
        exact ⟨⟨us[j], by simp [hlen, hj]⟩, rfl⟩
      · simp only [Nat.zero_add]
        obtain ⟨u, hu, hru⟩ := hr.get hx
        exact ⟨u, by rw [World.cell?_alloc_new]; simpa using hu, VR.mono hle _ _ hru⟩
  · simp only [List.length_cons, List.length_nil] at h1 h2; omega

theorem mk_step (hcall : CallOK X.P B call) (h : SR X B κ cs0 ι σ a cs w) (ho : ops[i]? = some o) (hw : Region.wanted o (yielded ops a.tmps) = true) (hd : chkDst X o.dst c.dst = true) (hc : chkQ X o.op c.op = true) (hk : isMk c.op = true)
    {τ : St} {v : AV} {H' : Heap} (hev : evOp1 call τ c.op = some (.val v H')) (hops : ∀ x ∈ c.op.opds, rho σ.p σ.t x = rho τ.p τ.t x)
    (hg : X.P.globals.size ≤ τ.H.size) (hsz : H'.size ≤ σ.H.size) (hnone : ∀ b, τ.H.size ≤ b → b < H'.size → ι b = none ∧ σ.H.get b = .dead) (b : Frame) (k : List Item) :
    ∃ ι1 a1 w1 H1, ι.le ι1 ∧ Below B w w1 ∧ Steps X.P (lone (b.at a (.inRegion ops (i :: rest) :: k)) cs w) (lone (b.at a1 (.inRegion ops rest :: k)) cs w1) ∧
      SR X B κ cs0 ι1 (({ σ with H := H1 } : St).put c.dst v) a1 cs w1 ∧ H1.size = σ.H.size ∧
      (∀ b, H1.get b = if τ.H.size ≤ b ∧ b < H'.size then H'.get b else σ.H.get b) ∧ (∀ b, ¬ (τ.H.size ≤ b ∧ b < H'.size) → ι1 b = ι b) := by
  -- one block
  have one : ∀ (cc : List AV) (us : Array Value) (e : TypeId) (u : Value), H' = τ.H.push (.cells cc .own) → (execOp a.eval o).run X.P w = .ok (.value u) (w.alloc (.cells us e)) → VRs ι cc us.toList → (∀ ι1 : Plan, ι1 τ.H.size = some ⟨w.heap.size, 0, cc.length⟩ → VR ι1 v u) →
      ∃ ι1 a1 w1 H1, ι.le ι1 ∧ Below B w w1 ∧ Steps X.P (lone (b.at a (.inRegion ops (i :: rest) :: k)) cs w) (lone (b.at a1 (.inRegion ops rest :: k)) cs w1) ∧
        SR X B κ cs0 ι1 (({ σ with H := H1 } : St).put c.dst v) a1 cs w1 ∧ H1.size = σ.H.size ∧
        (∀ b, H1.get b = if τ.H.size ≤ b ∧ b < H'.size then H'.get b else σ.H.get b) ∧ (∀ b, ¬ (τ.H.size ≤ b ∧ b < H'.size) → ι1 b = ι b) := by
    intro cc us e u hH hrun hr hv
    subst hH
    rw [Heap.size_push] at hsz hnone ⊢
    obtain ⟨n1, n2⟩ := hnone τ.H.size (Nat.le_refl _) (by omega)
    obtain ⟨f1, f2⟩ := one_fill (e := e) h.rel (by omega) n1 n2 hr
    obtain ⟨l1, l2⟩ := Heap.setL_get [cc] σ.H τ.H.size (by simp; omega)
    refine ⟨_, a.put o.dst u, _, _, f1, (Below.refl B w).alloc h.rel.size _, .one (step_value ho hw hrun), (h.world f1 f2).put hd (hv _ (Plan.add_self _ _ _)), l1, fun b' => ?_, fun b' hb => ?_⟩
    · rw [l2]
      simp only [List.length_cons, List.length_nil]
      by_cases e : b' = τ.H.size
      · subst e; rw [if_pos (by omega), if_pos (by omega), Heap.get_push, if_pos rfl]; simp
      · rw [if_neg (by omega), if_neg (by omega)]
    · simp only [Plan.add]; rw [if_neg (by omega)]
  cases hco : c.op <;> rw [hco] at hk hc hev hops <;> first | (simp [isMk] at hk; done) | skip
  case alloc z =>
    simp only [evOp1, evOp, Option.some.injEq, OOut.val.injEq] at hev
    obtain ⟨e1, e2⟩ := hev
    simp only [chkQ] at hc
    cases hop : o.op
    case alloc e =>
      rw [hop] at hc
      simp only [chkOp] at hc
      cases hz : tyZero X.P e with
      | none => simp [hz] at hc
      | some zv =>
        simp only [hz] at hc
        subst e1
        exact one z zv.cells e (.pointer (some ⟨w.heap.size, 0, none⟩)) e2.symm (by simp [execOp, hop, Instr.alloc, run_zeroValue' hz, newVar, newRow]) (constVs_sound ι _ _ hc) (fun ι1 h1 => ⟨_, h1, by simp⟩)
    all_goals rw [hop] at hc
    all_goals first | (exact absurd hc Bool.false_ne_true) | (rename_i cl; obtain ⟨callee, args, at_⟩ := cl; cases callee <;> first | (exact absurd hc Bool.false_ne_true) | (rename_i x; cases x <;> exact absurd hc Bool.false_ne_true))
  case lit z n ps =>
    simp only [chkQ] at hc
    simp only [evOp1] at hev
    rw [← evOp_congr hops] at hev
    split at hev
    · rename_i v' H1 he
      simp only [Option.some.injEq, OOut.val.injEq] at hev
      obtain ⟨rfl, rfl⟩ := hev
      cases hop : o.op
      case buildSlice ty len ps' =>
        obtain ⟨cc, e1, e2, us, e, h1, h2⟩ := r_lit (w := w) hop h.env hc he
        subst e1; subst e2
        exact one cc us e _ rfl h1 h2 (fun ι1 hι => ⟨_, hι, by simp⟩)
      all_goals rw [hop] at hc
      all_goals first | (exact absurd hc Bool.false_ne_true) | (rename_i cl; obtain ⟨callee, args, at_⟩ := cl; cases callee <;> first | (exact absurd hc Bool.false_ne_true) | (rename_i x; cases x <;> exact absurd hc Bool.false_ne_true))
    · cases hev
  case callQ g' f' args' =>
    simp only [chkQ] at hc
    simp only [evOp1] at hev
    rw [← rhos_congr args' hops] at hev
    split at hev
    · rename_i l hl
      split at hev
      · rename_i hfl
        split at hev
        · rename_i v0 H1 hcc
          split at hev
          · rename_i bs hbs
            simp only [Option.some.injEq, OOut.val.injEq] at hev
            obtain ⟨rfl, rfl⟩ := hev
            split at hc
            · rename_i f args at_ hop
              simp only [Bool.and_eq_true, beq_iff_eq] at hc
              obtain ⟨⟨rfl, hargs⟩, rfl⟩ := hc
              have hvs := rhos_sound h.env hargs hl
              have hr : (execOp a.eval o).run X.P w = (callFunc f (args.map a.eval)).run X.P w := by
                have ef : a.eval (.func f) = .func (.func f) #[] #[] := rfl
                simp only [execOp, hop, resolve, Deferred.ofValue, ef, Sem.run_bind, Sem.run_pure, Result.andThen_ok, invoke, Array.append_empty, Array.empty_append]
              obtain ⟨⟨fn, hf, hb, hn⟩, hcc'⟩ := hcall f l _ _ _ hcc
              rw [run_callFunc_enter hf hb hn] at hr
              have hst := step_enters (cs := cs) (rest := rest) (b := b) (k := k) ho hw hr
              let ι0 : Plan := fun b => if b < X.P.globals.size then ι b else none
              have hι0 : ∀ b L, ι0 b = some L → b < X.P.globals.size ∧ ι b = some L := by
                intro b L hbl
                simp only [ι0] at hbl
                split at hbl
                · rename_i hlt; exact ⟨hlt, hbl⟩
                · cases hbl
              have hR0 : Rel w.heap.size ι0 (Heap.dead X.P.globals.size) w := {
                dom := fun b L hb => ⟨(hι0 b L hb).1, (h.rel.dom b L (hι0 b L hb).2).2⟩
                live := fun b c u hg => by rw [Heap.get_dead] at hg; cases hg
                ownu := fun b c L _ hg => by rw [Heap.get_dead] at hg; cases hg
                iter := fun b s p hg => by rw [Heap.get_dead] at hg; cases hg
                ty := fun b c e L hg => by rw [Heap.get_dead] at hg; cases hg
                mapb := fun b es hg => by rw [Heap.get_dead] at hg; cases hg
                inj := fun b b' L L' _ _ hdd => absurd (Heap.get_dead _ b') hdd
                size := Nat.le_refl _ }
              have hG0 : Glob X.P ι0 := fun g hg => by
                obtain ⟨e, he⟩ := h.env.fg g hg
                exact ⟨e, by simp only [ι0, if_pos hg]; exact he⟩
              obtain ⟨e', w', fr, ⟨ι', hle, hR', hB', hE'⟩, hcomes, _, hleave⟩ := hcc' ι0 w (args.map a.eval) hR0 hG0 (VRs.flat l _ hfl (by simpa using hvs)) (b.at a (.inRegion ops (i :: rest) :: k) :: cs)
              obtain ⟨v', rfl, hvr⟩ := hE'
              obtain ⟨b1, b2⟩ := newBs_spec _ _ _ hbs
              obtain ⟨p1, p2⟩ := Heap.pushAll_get (bs.map (shAs X.P.globals.size τ.H.size)) τ.H
              rw [List.length_map] at p1 p2
              rw [p1] at hsz hnone ⊢
              -- where the blocks lie
              have hgl : ∀ b L, b < X.P.globals.size → ι' b = some L → ι b = some L := by
                intro b L hb' hL
                obtain ⟨e, he⟩ := h.env.fg b hb'
                have := hle b _ (show ι0 b = some ⟨b, 0, e⟩ by simp only [ι0, if_pos hb']; exact he)
                rw [hL] at this; injection this with this; rw [this]; exact he
              let ι2 : Plan := fun b => if τ.H.size ≤ b ∧ b < τ.H.size + bs.length then ι' (X.P.globals.size + (b - τ.H.size)) else ι b
              have hsh : ∀ b L, ι' b = some L → ι2 (if b < X.P.globals.size then b else b - X.P.globals.size + τ.H.size) = some L := by
                intro b L hL
                have hlt := (hR'.dom b L hL).1
                by_cases hb' : b < X.P.globals.size
                · rw [if_pos hb']
                  simp only [ι2]
                  rw [if_neg (by omega)]
                  exact hgl b L hb' hL
                · rw [if_neg hb']
                  simp only [ι2]
                  rw [if_pos (by omega)]
                  rw [show X.P.globals.size + (b - X.P.globals.size + τ.H.size - τ.H.size) = b by omega]; exact hL
              obtain ⟨l1, l2⟩ := Heap.setL_get (bs.map (shAs X.P.globals.size τ.H.size)) σ.H τ.H.size (by rw [List.length_map]; omega)
              rw [List.length_map] at l2
              have hfill := h.rel.fill (w' := w') (κ := fun i => ι' (X.P.globals.size + i)) (ι2 := ι2) (s := τ.H.size) (bs := bs.map (shAs X.P.globals.size τ.H.size)) (H2 := σ.H.setL τ.H.size (bs.map (shAs X.P.globals.size τ.H.size)))
                (by rw [List.length_map]; exact hnone) (by rw [List.length_map]; omega) hB'.size (fun k hk => hB'.block k hk) (fun b => by rw [List.length_map])
                (fun i c hi => by
                  rw [List.getElem?_map, Option.map_eq_some_iff] at hi
                  obtain ⟨c0, hc0, rfl⟩ := hi
                  have hgt := b2 i c0 hc0
                  obtain ⟨L, hL, hx⟩ := hR'.live _ _ _ hgt
                  obtain ⟨o1, o2, o3⟩ := hR'.own _ _ _ hgt hL
                  refine ⟨L, hL, o1, (hR'.dom _ _ hL).2, by rw [shAs_length]; exact o2, o3, fun j x hxj => ?_⟩
                  rw [shAs_get, Option.map_eq_some_iff] at hxj
                  obtain ⟨x0, hx0, rfl⟩ := hxj
                  obtain ⟨u, hu1, hu2⟩ := hx j x0 hx0
                  exact ⟨u, hu1, VR.sh hsh _ _ hu2⟩)
                (fun i i' L L' h1 h2 h3 e1 e2 => by
                  rw [List.length_map] at h1 h2
                  have g1 := b2 i bs[i] (List.getElem?_eq_getElem h1)
                  have g2 := b2 i' bs[i'] (List.getElem?_eq_getElem h2)
                  exact hR'.inj _ _ L L' (by omega) (.inl ⟨_, _, g1, by simp⟩) (by rw [g2]; simp) e1 e2)
                l1 (by rw [List.length_map]; exact l2)
              obtain ⟨f1, f2⟩ := hfill
              refine ⟨ι2, a.put o.dst v', w', _, f1, hB'.mono h.rel.size, .head hst (Steps.trans hcomes (.one ?_)), (h.world f1 f2).put hd (VR.sh hsh _ _ hvr), l1, fun b' => ?_, fun b' hb' => ?_⟩
              · rw [← finish_at' b a k v' ho]; exact step_leave_returned hleave
              · rw [l2]
                by_cases hin : τ.H.size ≤ b' ∧ b' < τ.H.size + bs.length
                · rw [if_pos hin, if_pos hin, p2, if_pos hin]
                · rw [if_neg hin, if_neg hin]
              · simp only [ι2]; rw [if_neg hb']
            · cases hc
          · cases hev
        · cases hev
      · cases hev
    · cases hev
end

/-! ## The region's run -/
theorem chain_link {call : FuncId → List AV → Heap → Option (End × Heap)} : ∀ (rs : List Rec) (σ σ' : St), Chain call rs σ σ' →
    (∀ r, rs[0]? = some r → r.σ = σ) ∧ (∀ j r q, rs[j]? = some r → rs[j + 1]? = some q → q.σ = r.next) ∧ (∀ r, rs[rs.length - 1]? = some r → σ' = r.next)
  | [], σ, σ', h => ⟨fun r h => by simp at h, fun j r q h => by simp at h, fun r h => by simp at h⟩
  | r0 :: rs, σ, σ', h => by
    cases h with
    | cons _ _ _ hok hch =>
      obtain ⟨h1, h2, h3⟩ := chain_link rs _ σ' hch
      refine ⟨fun r h => by simp only [List.getElem?_cons_zero, Option.some.injEq] at h; rw [← h], fun j r q hj hq => ?_, fun r hr => ?_⟩
      · cases j with
        | zero =>
          simp only [List.getElem?_cons_zero, Option.some.injEq] at hj; subst hj
          exact h1 q (by simpa using hq)
        | succ j => exact h2 j r q (by simpa using hj) (by simpa using hq)
      · cases rs with
        | nil =>
          simp only [List.length_cons, List.length_nil, Nat.zero_add, Nat.sub_self, List.getElem?_cons_zero, Option.some.injEq] at hr
          subst hr
          cases hch; rfl
        | cons q rs => exact h3 r (by simpa using hr)

structure Made (call : FuncId → List AV → Heap → Option (End × Heap)) (ops : Array Oper) (ds : List DCop) (rs : List Rec) (σ0 σ' : St) : Prop where
  hds : rs.map (·.d) = ds
  lt : ∀ (j : Nat) (o : Oper) (e : Edge), ops[j]? = some o → e ∈ o.after → Region.binds .any e = true → e.on < j
  size : ds.length = ops.size
  pos : 0 < ops.size
  two : ∀ (i j : Nat) (d d' : DCop), i < j → ds[i]? = some d → ds[j]? = some d' → Reach ops i j ∨ conf d.c d'.c = false
  grd : ∀ (j : Nat) (d : DCop), ds[j]? = some d → d.c.guard = none
  knd : ∀ (j : Nat) (d : DCop), ds[j]? = some d → j + 1 < ops.size → isMk d.c.op = true ∨ isQt d.c.op = true ∨ isLd d.c.op = true
  last : ∀ j, j + 1 < ops.size → Reach ops j (ops.size - 1)
  lst : ∀ d, ds[ops.size - 1]? = some d → isStore d.c.op = true
  chain : Chain call rs σ0 σ'
  lds : ∀ j r, rs[j]? = some r → isLd r.d.c.op = true → j + 1 < ops.size → ∃ H', evOp (rho r.σ.p r.σ.t) σ0.H r.d.c.op = some (r.v, H')

section
variable {call : FuncId → List AV → Heap → Option (End × Heap)} {ops : Array Oper} {rs : List Rec} {S : Nat → Bool} {ds : List DCop} {σ0 σ' σS : St}

theorem Made.d (R : Made call ops ds rs σ0 σ') {j : Nat} {r : Rec} (hr : rs[j]? = some r) : ds[j]? = some r.d := by
  rw [← R.hds, List.getElem?_map, hr]; rfl
theorem Made.len (R : Made call ops ds rs σ0 σ') : rs.length = ops.size := by rw [← R.size, ← R.hds, List.length_map]
theorem Made.ok (R : Made call ops ds rs σ0 σ') {j : Nat} {r : Rec} (hr : rs[j]? = some r) : evOp1 call r.σ r.d.c.op = some (.val r.v r.H') := by
  rcases chain_ok rs σ0 σ' R.chain r (List.mem_of_getElem? hr) with ⟨_, h, _⟩ | ⟨_, _, h⟩
  · rw [R.grd j _ (R.d hr)] at h; simp [wantedA] at h
  · exact h

theorem quiet_H {σ : St} {c : COp} {v : AV} {H' : Heap} (hk : isQt c = true ∨ isLd c = true) (h : evOp1 call σ c = some (.val v H')) : H' = σ.H ∧ evOp (rho σ.p σ.t) σ.H c = some (v, H') := by
  have hk2 : kindC c = 0 ∨ kindC c = 1 := by cases c <;> simp [isQt, isLd] at hk <;> simp [kindC]
  have hp : isP c = false := by cases c <;> simp [isQt, isLd] at hk <;> rfl
  exact ⟨evOp1_quiet hk2 h, evOp1_simple hk2 hp h⟩

/-- All but the last one only make blocks. -/
theorem Made.push (R : Made call ops ds rs σ0 σ') {j : Nat} {r : Rec} (hr : rs[j]? = some r) (hj : j + 1 < ops.size) : ∃ bs, r.H' = r.σ.H.pushAll bs := by
  rcases R.knd j _ (R.d hr) hj with h | h
  · exact mk_news h (R.ok hr)
  · exact ⟨[], (quiet_H h (R.ok hr)).1⟩

theorem Made.grow (R : Made call ops ds rs σ0 σ') {j : Nat} {r : Rec} (hr : rs[j]? = some r) (hj : j + 1 < ops.size) : r.σ.H.size ≤ r.H'.size ∧ ∀ b, b < r.σ.H.size → r.H'.get b = r.σ.H.get b := by
  obtain ⟨bs, hbs⟩ := R.push hr hj
  obtain ⟨h1, h2⟩ := Heap.pushAll_get bs r.σ.H
  rw [hbs]
  exact ⟨by omega, fun b hb => by rw [h2, if_neg (by omega)]⟩

theorem Made.next (R : Made call ops ds rs σ0 σ') {j : Nat} {r q : Rec} (hr : rs[j]? = some r) (hq : rs[j + 1]? = some q) : q.σ.H = r.H' := by
  rw [(chain_link rs σ0 σ' R.chain).2.1 j r q hr hq]; exact next_H r

theorem Made.mono (R : Made call ops ds rs σ0 σ') {i : Nat} {r : Rec} (hr : rs[i]? = some r) : ∀ (n : Nat) {q : Rec}, rs[i + n + 1]? = some q → r.H'.size ≤ q.σ.H.size ∧ ∀ b, b < r.H'.size → q.σ.H.get b = r.H'.get b
  | 0, q, hq => by rw [R.next hr hq]; exact ⟨Nat.le_refl _, fun _ _ => rfl⟩
  | n + 1, q, hq => by
    have hlt := at_lt hq
    rw [R.len] at hlt
    obtain ⟨m, hm⟩ := rec_at (rs := rs) (j := i + n + 1) (by rw [R.len]; omega)
    obtain ⟨h1, h2⟩ := R.mono hr n hm
    obtain ⟨g1, g2⟩ := R.grow hm (by omega)
    rw [R.next hm hq]
    exact ⟨Nat.le_trans h1 g1, fun b hb => by rw [g2 b (by omega), h2 b hb]⟩

theorem Made.base (R : Made call ops ds rs σ0 σ') : ∀ (j : Nat) {q : Rec}, rs[j]? = some q → σ0.H.size ≤ q.σ.H.size ∧ ∀ b, b < σ0.H.size → q.σ.H.get b = σ0.H.get b
  | 0, q, hq => by rw [(chain_link rs σ0 σ' R.chain).1 q hq]; exact ⟨Nat.le_refl _, fun _ _ => rfl⟩
  | j + 1, q, hq => by
    have hlt := at_lt hq
    rw [R.len] at hlt
    obtain ⟨m, hm⟩ := rec_at (rs := rs) (j := j) (by rw [R.len]; omega)
    obtain ⟨h1, h2⟩ := R.base j hm
    obtain ⟨g1, g2⟩ := R.grow hm (by omega)
    rw [R.next hm hq]
    exact ⟨Nat.le_trans h1 g1, fun b hb => by rw [g2 b (by omega), h2 b hb]⟩

/-- Whose block it is. -/
theorem Made.owner (R : Made call ops ds rs σ0 σ') : ∀ (j : Nat) {q : Rec}, rs[j]? = some q → ∀ b, σ0.H.size ≤ b → b < q.σ.H.size → ∃ i r, i < j ∧ rs[i]? = some r ∧ r.σ.H.size ≤ b ∧ b < r.H'.size
  | 0, q, hq, b, h1, h2 => by rw [(chain_link rs σ0 σ' R.chain).1 q hq] at h2; omega
  | j + 1, q, hq, b, h1, h2 => by
    have hlt := at_lt hq
    rw [R.len] at hlt
    obtain ⟨m, hm⟩ := rec_at (rs := rs) (j := j) (by rw [R.len]; omega)
    rw [R.next hm hq] at h2
    by_cases hb : b < m.σ.H.size
    · obtain ⟨i, r, g1, g2⟩ := R.owner j hm b h1 hb
      exact ⟨i, r, by omega, g2⟩
    · exact ⟨j, m, by omega, hm, by omega, h2⟩

theorem Made.opd (R : Made call ops ds rs σ0 σ') (hc : Closed ops S) {i : Nat} {q : Rec} (hq : rs[i]? = some q) (hSi : S i = false) (hrd : Ready ops S i) {x : Opd} (hx : x ∈ q.d.c.all) : rhoS S x rs 0 (rho σ0.p σ0.t x) = rho q.σ.p q.σ.t x := by
  rw [(chain_rho (x := x) rs 0 σ0 σ' R.chain).1 i q hq]
  refine rhoS_congr rs 0 _ fun j r hr hh => ?_
  simp only [Nat.zero_add]
  rcases Nat.lt_trichotomy j i with h | h | h
  · have : S j = true := by
      rcases R.two j i _ _ h (R.d hr) (R.d hq) with h2 | h2
      · exact h2.closed hc (.inl hrd)
      · have : conf r.d.c q.d.c = true := by
          simp only [conf, Bool.or_eq_true, List.any_eq_true]
          exact .inl (.inl ⟨x, hx, hh⟩)
        rw [this] at h2; cases h2
    rw [this]; simp [h]
  · subst h; rw [hSi]; simp
  · have : S j = false := by
      cases hSj : S j with
      | false => rfl
      | true =>
        rcases R.two i j _ _ h (R.d hq) (R.d hr) with h2 | h2
        · have := h2.closed hc (.inr hSj); rw [hSi] at this; cases this
        · have : conf q.d.c r.d.c = true := by
            simp only [conf, Bool.or_eq_true, List.any_eq_true]
            exact .inr ⟨x, hx, hh⟩
          rw [this] at h2; cases h2
    rw [this]; simp; omega

theorem Made.put (R : Made call ops ds rs σ0 σ') (hc : Closed ops S) {i : Nat} {q : Rec} (hq : rs[i]? = some q) (hSi : S i = false) (x : Opd) :
    rhoS (fun j => S j || decide (j = i)) x rs 0 (rho σ0.p σ0.t x) = cond (hits q.d.c.dst x) (some q.v) (rhoS S x rs 0 (rho σ0.p σ0.t x)) := by
  refine rhoS_add rs 0 _ (Nat.zero_le _) (by simpa using hq) hSi fun hh j r hr h2 hlt => ?_
  simp only [Nat.zero_add] at *
  cases hSj : S j with
  | false => rfl
  | true =>
    rcases R.two i j _ _ hlt (R.d hq) (R.d hr) with h | h
    · have := h.closed hc (.inr hSj); rw [hSi] at this; cases this
    · have : conf q.d.c r.d.c = true := by
        simp only [conf, Bool.or_eq_true]
        exact .inl (.inr (hits_same hh h2))
      rw [this] at h; cases h

/-- A partial state: the steps of `S` are done, the last one is not. -/
structure MPart (ops : Array Oper) (rs : List Rec) (σ0 : St) (S : Nat → Bool) (σS : St) (ι : Plan) : Prop where
  look : ∀ x, rho σS.p σS.t x = rhoS S x rs 0 (rho σ0.p σ0.t x)
  size : ∀ q, rs[ops.size - 1]? = some q → σS.H.size = q.σ.H.size
  low : ∀ b, b < σ0.H.size → σS.H.get b = σ0.H.get b
  mem : ∀ j r, rs[j]? = some r → j + 1 < ops.size → ∀ b, r.σ.H.size ≤ b → b < r.H'.size → (S j = true → σS.H.get b = r.H'.get b) ∧ (S j = false → σS.H.get b = .dead ∧ ι b = none)
  d : σS.d = σ0.d
  u : σS.u = σ0.u

/-- Places are kept for all blocks that will be made. -/
def Heap.room (H : Heap) : Nat → Heap
  | 0 => H
  | n + 1 => Heap.room (H.push .dead) n
theorem Heap.room_get : ∀ (n : Nat) (H : Heap), (H.room n).size = H.size + n ∧ ∀ b, (H.room n).get b = H.get b
  | 0, H => ⟨rfl, fun _ => rfl⟩
  | n + 1, H => by
    obtain ⟨h1, h2⟩ := Heap.room_get n (H.push .dead)
    refine ⟨by simp only [Heap.room]; rw [h1, Heap.size_push]; omega, fun b => ?_⟩
    simp only [Heap.room]
    rw [h2, Heap.get_push]
    by_cases e : b = H.size
    · subst e; rw [if_pos rfl]; simp [Heap.get]
    · rw [if_neg e]
theorem Rel.room {B : Nat} {ι : Plan} {H : Heap} {w : World} (h : Rel B ι H w) (n : Nat) : Rel B ι (H.room n) w := by
  obtain ⟨h1, h2⟩ := Heap.room_get n H
  exact {
    dom := fun b L e => ⟨by have := (h.dom b L e).1; omega, (h.dom b L e).2⟩
    live := fun b c u e => h.live b c u (by rw [← h2]; exact e)
    ownu := fun b c L _ e => h.ownu b c L (by rw [← h2]; exact e)
    iter := fun b s p e => h.iter b s p (by rw [← h2]; exact e)
    ty := fun b c t L e => h.ty b c t L (by rw [← h2]; exact e)
    mapb := fun b es e => h.mapb b es (by rw [← h2]; exact e)
    inj := fun b b' L L' hne ho hd => h.inj b b' L L' hne (by unfold Owned at *; simpa only [h2] using ho) (by rw [← h2]; exact hd)
    size := h.size }
end

section
variable {X : Cx} {B : Nat} {κ : CallKind} {cs0 : List Frame} {call : FuncId → List AV → Heap → Option (End × Heap)} {ops : Array Oper} {rs : List Rec} {S : Nat → Bool} {ds : List DCop} {σ0 σ' : St}

/-- One step from a partial state; not the last one. -/
theorem Made.step (R : Made call ops ds rs σ0 σ') (hcall : CallOK X.P B call) {σS : St} {a : Act} {cs : List Frame} {w : World} {ι : Plan} (h : SR X B κ cs0 ι σS a cs w) (hp : MPart ops rs σ0 S σS ι) (hc : Closed ops S)
    {i : Nat} {q : Rec} {o : Oper} (hq : rs[i]? = some q) (ho : ops[i]? = some o) (hSi : S i = false) (hrd : Ready ops S i) (hi : i + 1 < ops.size) (hd : chkDst X o.dst q.d.c.dst = true) (hck : chkQ X o.op q.d.c.op = true) (hw : Region.wanted o (yielded ops a.tmps) = true)
    (hgl : X.P.globals.size ≤ σ0.H.size) (rest : List Nat) (b : Frame) (k : List Item) :
    ∃ ι1 a1 w1 σ1, ι.le ι1 ∧ Below B w w1 ∧ Steps X.P (lone (b.at a (.inRegion ops (i :: rest) :: k)) cs w) (lone (b.at a1 (.inRegion ops rest :: k)) cs w1) ∧ SR X B κ cs0 ι1 σ1 a1 cs w1 ∧ MPart ops rs σ0 (fun j => S j || decide (j = i)) σ1 ι1 := by
  have hop : ∀ x ∈ q.d.c.op.opds, rho σS.p σS.t x = rho q.σ.p q.σ.t x := fun x hx => by
    rw [hp.look, R.opd hc hq hSi hrd (by simp only [Cop.all, List.mem_append]; exact .inl hx)]
  obtain ⟨base1, base2⟩ := R.base i hq
  rcases R.knd i _ (R.d hq) hi with hk | hk
  · -- it makes blocks
    obtain ⟨lq, hlq⟩ := rec_at (rs := rs) (j := ops.size - 1) (by rw [R.len]; omega)
    have hsz : q.H'.size ≤ σS.H.size := by
      rw [hp.size lq hlq]
      exact (R.mono hq (ops.size - 1 - i - 1) (by rw [show i + (ops.size - 1 - i - 1) + 1 = ops.size - 1 by omega]; exact hlq)).1
    obtain ⟨ι1, a1, w1, H1, f1, f2, f3, f4, f5, f6, f7⟩ := mk_step (rest := rest) hcall h ho hw hd hck hk (R.ok hq) hop (by omega) hsz (fun b' h1 h2 => by
      have := (hp.mem i q hq hi b' h1 h2).2 hSi; exact ⟨this.2, this.1⟩) b k
    refine ⟨ι1, a1, w1, _, f1, f2, f3, f4, ?_⟩
    exact {
      look := fun x => by rw [rho_put, R.put hc hq hSi x]; exact congrArg _ (hp.look x)
      size := fun q' hq' => by rw [(put_H _ _ _).1]; simp only; rw [f5]; exact hp.size q' hq'
      low := fun b' hb' => by rw [(put_H _ _ _).1]; simp only; rw [f6, if_neg (by omega)]; exact hp.low b' hb'
      mem := fun j r hr hj b' h1 h2 => by
        rw [(put_H _ _ _).1]
        simp only
        by_cases e : j = i
        · subst e
          rw [hq] at hr; injection hr with hr; subst hr
          refine ⟨fun _ => by rw [f6, if_pos ⟨h1, h2⟩], fun hS => by simp at hS⟩
        · have hdis : ¬ (q.σ.H.size ≤ b' ∧ b' < q.H'.size) := by
            rcases Nat.lt_or_ge j i with hlt | hge
            · have := (R.mono hr (i - j - 1) (by rw [show j + (i - j - 1) + 1 = i by omega]; exact hq)).1; omega
            · have := (R.mono hq (j - i - 1) (by rw [show i + (j - i - 1) + 1 = j by omega]; exact hr)).1; omega
          rw [f6, if_neg hdis, f7 b' hdis]
          have := hp.mem j r hr hj b' h1 h2
          simp only [e, decide_false, Bool.or_false]
          exact this
      d := by rw [(put_H _ _ _).2.1]; exact hp.d
      u := by rw [(put_H _ _ _).2.2]; exact hp.u }
  · -- a quiet one
    obtain ⟨hH, hev⟩ := quiet_H hk (R.ok hq)
    have hck' : chkOp X o.op q.d.c.op = true := by
      cases hco : q.d.c.op <;> rw [hco] at hk hck <;> first | (simp [isQt, isLd] at hk; done) | exact hck
    have hev2 : ∃ H2, evOp (rho σS.p σS.t) σS.H q.d.c.op = some (q.v, H2) := by
      rw [evOp_congr hop]
      rcases hk with hk | hk
      · exact ⟨_, evOp_pure (by cases hco : q.d.c.op <;> rw [hco] at hk <;> first | (simp [isQt] at hk; done) | rfl) hev⟩
      · obtain ⟨H2, hl⟩ := R.lds i q hq hk hi
        cases hco : q.d.c.op <;> rw [hco] at hk hl <;> first | (simp [isLd] at hk; done) | skip
        rename_i n x
        simp only [evOp] at hl ⊢
        split at hl
        · rename_i b' off hb'
          split at hl
          · rename_i c u hg
            have hlt : b' < σ0.H.size := Heap.lt_of_get (by rw [hg]; simp)
            rw [hp.low b' hlt, hg]
            split at hl
            · rename_i hle
              simp only [Option.some.injEq, Prod.mk.injEq] at hl
              exact ⟨σS.H, by simp only [if_pos hle, hl.1]⟩
            · cases hl
          · cases hl
        · cases hl
    obtain ⟨H2, hev2⟩ := hev2
    obtain ⟨a1, f3, f4⟩ := quiet_step (rest := rest) h ho hw hd hck' hk hev2 b k
    refine ⟨ι, a1, w, _, ι.le_refl, Below.refl _ _, f3, f4, ?_⟩
    exact {
      look := fun x => by rw [rho_put, R.put hc hq hSi x]; exact congrArg _ (hp.look x)
      size := fun q' hq' => by rw [(put_H _ _ _).1]; exact hp.size q' hq'
      low := fun b' hb' => by rw [(put_H _ _ _).1]; exact hp.low b' hb'
      mem := fun j r hr hj b' h1 h2 => by
        rw [(put_H _ _ _).1]
        by_cases e : j = i
        · subst e
          rw [hq] at hr; injection hr with hr; subst hr
          rw [hH] at h2; omega
        · have := hp.mem j r hr hj b' h1 h2
          simp only [e, decide_false, Bool.or_false]
          exact this
      d := by rw [(put_H _ _ _).2.1]; exact hp.d
      u := by rw [(put_H _ _ _).2.2]; exact hp.u }

/-- All but the last one are done: memory is as in the text's order. -/
theorem Made.full (R : Made call ops ds rs σ0 σ') {σS : St} {ι : Plan} (hp : MPart ops rs σ0 S σS ι) (hall : ∀ j, j + 1 < ops.size → S j = true) {q : Rec} (hq : rs[ops.size - 1]? = some q) : EqG σS.H q.σ.H := by
  have hpos := R.pos
  refine ⟨fun b => ?_, hp.size q hq⟩
  obtain ⟨b1, b2⟩ := R.base _ hq
  by_cases h0 : b < σ0.H.size
  · rw [hp.low b h0, b2 b h0]
  · by_cases h1 : b < q.σ.H.size
    · obtain ⟨i, r, g1, g2, g3, g4⟩ := R.owner _ hq b (by omega) h1
      rw [(hp.mem i r g2 (by omega) b g3 g4).1 (hall i (by omega))]
      exact ((R.mono g2 (ops.size - 1 - i - 1) (by rw [show i + (ops.size - 1 - i - 1) + 1 = ops.size - 1 by omega]; exact hq)).2 b g4).symm
    · rw [show σS.H.get b = .dead by simp only [Heap.get]; rw [if_neg (by rw [hp.size q hq]; exact h1)], show q.σ.H.get b = .dead by simp only [Heap.get]; rw [if_neg h1]]

theorem Made.go (R : Made call ops ds rs σ0 σ') (hcall : CallOK X.P B call) (hchk : ∀ (i : Nat) (o : Oper) (d : DCop), ops[i]? = some o → ds[i]? = some d → chkDst X o.dst d.c.dst = true ∧ chkQ X o.op d.c.op = true ∧ chkGuard X ops o.guard d.c.guard = true)
    (hgl : X.P.globals.size ≤ σ0.H.size) (b : Frame) (k : List Item) (hb : b.kind = κ) :
    ∀ (fuel t : Nat) (listed : Array Bool) (σS : St) (a : Act) (cs : List Frame) (w : World) (ι : Plan), listed.size = ops.size → Closed ops (fun j => listed.getD j false) → cnt (fun j => listed.getD j false) ops.size ≤ fuel →
    ((listed.getD (ops.size - 1) false = false ∧ SR X B κ cs0 ι σS a cs w ∧ MPart ops rs σ0 (fun j => listed.getD j false) σS ι) ∨ ((∀ j, j < ops.size → listed.getD j false = true) ∧ SR X B κ cs0 ι σ' a cs w)) →
    Comes2 X B κ cs0 ι w (lone (b.at a (.inRegion ops (Region.linearise.go .any ops fuel t listed []) :: k)) cs w) b k .normal σ' := by
  have hlen := R.len
  have hpos := R.pos
  have stop : ∀ (listed : Array Bool) (σS : St) (a : Act) (cs : List Frame) (w : World) (ι : Plan), (∀ j, j < ops.size → listed.getD j false = true) →
      ((listed.getD (ops.size - 1) false = false ∧ SR X B κ cs0 ι σS a cs w ∧ MPart ops rs σ0 (fun j => listed.getD j false) σS ι) ∨ ((∀ j, j < ops.size → listed.getD j false = true) ∧ SR X B κ cs0 ι σ' a cs w)) →
      Comes2 X B κ cs0 ι w (lone (b.at a (.inRegion ops [] :: k)) cs w) b k .normal σ' := by
    intro listed σS a cs w ι hall hp
    rcases hp with ⟨h1, _⟩ | ⟨_, h⟩
    · rw [hall _ (by omega)] at h1; cases h1
    · exact ⟨ι, .normal, a, cs, w, ι.le_refl, Below.refl _ _, h, rfl, .one step_region_end⟩
  intro fuel
  induction fuel with
  | zero =>
    intro t listed σS a cs w ι hsz hc hcnt hp
    exact stop listed σS a cs w ι (cnt_zero ops.size (by omega)) hp
  | succ fuel ih =>
    intro t listed σS a cs w ι hsz hc hcnt hp
    simp only [Region.linearise.go]
    change Comes2 X B κ cs0 ι w (lone (b.at a (.inRegion ops (match (Region.ready .any ops listed)[t % (Region.ready .any ops listed).length]? with
      | some i => Region.linearise.go .any ops fuel (t / (Region.ready .any ops listed).length) (listed.setIfInBounds i true) [i]
      | none => [].reverse) :: k)) cs w) b k .normal σ'
    have hmem : ∀ i, i ∈ Region.ready .any ops listed ↔ i < ops.size ∧ listed.getD i true = false ∧ ∀ o, ops[i]? = some o → ∀ e ∈ o.after, Region.binds .any e = true → listed.getD e.on false = true := by
      intro i
      simp only [Region.ready, List.mem_filter, List.mem_range, Bool.and_eq_true, Bool.not_eq_true']
      constructor
      · rintro ⟨h1, h2, h3⟩
        refine ⟨h1, h2, fun o ho e he hb => ?_⟩
        rw [ho] at h3
        simp only [Option.map_some, Option.getD_some, Array.all_eq_true_iff_forall_mem] at h3
        have := h3 e he
        rw [hb] at this; simpa using this
      · rintro ⟨h1, h2, h3⟩
        refine ⟨h1, h2, ?_⟩
        obtain ⟨o, ho⟩ : ∃ o, ops[i]? = some o := ⟨ops[i], by rw [Array.getElem?_eq_getElem h1]⟩
        rw [ho]
        simp only [Option.map_some, Option.getD_some, Array.all_eq_true_iff_forall_mem]
        intro e he
        cases hb : Region.binds .any e with
        | false => rfl
        | true => simp [h3 o ho e he hb]
    have hgt : ∀ i, i < ops.size → listed.getD i true = listed.getD i false := by
      intro i hi
      simp only [Array.getD_eq_getD_getElem?]
      rw [Array.getElem?_eq_getElem (by omega)]
      rfl
    cases hi : (Region.ready .any ops listed)[t % (Region.ready .any ops listed).length]? with
    | none =>
      have hnil : Region.ready .any ops listed = [] := by
        cases hr : Region.ready .any ops listed with
        | nil => rfl
        | cons x xs =>
          rw [hr] at hi
          have hlt : t % (x :: xs).length < (x :: xs).length := Nat.mod_lt _ (by simp)
          simp at hi
          simp at hlt
          omega
      refine stop listed σS a cs w ι (fun j hj => ?_) hp
      cases hS : listed.getD j false with
      | true => rfl
      | false =>
        obtain ⟨j', h1, h2, h3⟩ := first_ready (S := fun j => listed.getD j false) R.lt ops.size ⟨j, hj, hS⟩
        have : j' ∈ Region.ready .any ops listed := (hmem j').2 ⟨h1, by rw [hgt j' h1]; exact h2, fun o ho e he hb => h3 o e ho he hb⟩
        rw [hnil] at this; cases this
    | some i =>
      simp only []
      rw [linearise_go_acc, List.reverse_singleton, List.singleton_append]
      obtain ⟨h1, h2, h3⟩ := (hmem i).1 (List.mem_of_getElem? hi)
      have hSi : listed.getD i false = false := by rw [← hgt i h1]; exact h2
      have hrd : Ready ops (fun j => listed.getD j false) i := fun o e ho he hb => h3 o ho e he hb
      obtain ⟨q, hq⟩ := rec_at (rs := rs) (j := i) (by omega)
      obtain ⟨o, ho⟩ : ∃ o, ops[i]? = some o := ⟨ops[i], by rw [Array.getElem?_eq_getElem h1]⟩
      obtain ⟨hcd, hcq, hcg⟩ := hchk i o q.d ho (R.d hq)
      have hS' : (fun j => (listed.setIfInBounds i true).getD j false) = fun j => listed.getD j false || decide (j = i) := by
        funext j
        simp only [Array.getD_eq_getD_getElem?, Array.getElem?_setIfInBounds]
        by_cases e : i = j
        · subst e; simp [hsz, h1]
        · rw [if_neg e]; simp [Ne.symm e]
      have hS1 : ∀ j, (listed.setIfInBounds i true).getD j false = (listed.getD j false || decide (j = i)) := fun j => congrFun hS' j
      have hc' : Closed ops (fun j => (listed.setIfInBounds i true).getD j false) := by
        rw [hS']
        intro j o' e hj ho' he hb
        simp only [Bool.or_eq_true, decide_eq_true_eq] at hj ⊢
        rcases hj with hj | hj
        · exact .inl (hc j o' e hj ho' he hb)
        · subst hj; exact .inl (hrd o' e ho' he hb)
      have hcnt' : cnt (fun j => (listed.setIfInBounds i true).getD j false) ops.size ≤ fuel := by
        rw [hS']
        have := cnt_add (S := fun j => listed.getD j false) hSi ops.size h1
        omega
      have hsz' : (listed.setIfInBounds i true).size = ops.size := by rw [Array.size_setIfInBounds]; exact hsz
      rcases hp with ⟨hl0, h, hp⟩ | ⟨hall, _⟩
      · have hwant : Region.wanted o (yielded ops a.tmps) = true := guard_sound h.env h.size hcg (by rw [R.grd i _ (R.d hq)]; rfl)
        by_cases hlast : i + 1 < ops.size
        · obtain ⟨ι1, a1, w1, σ1, g1, g2, g3, g4, g5⟩ := R.step (S := fun j => listed.getD j false) hcall h hp hc hq ho hSi hrd hlast hcd hcq hwant hgl (Region.linearise.go .any ops fuel (t / (Region.ready .any ops listed).length) (listed.setIfInBounds i true) []) b k
          refine .of_steps g3 g1 g2 (ih _ _ σ1 a1 cs w1 ι1 hsz' hc' hcnt' (.inl ⟨?_, g4, ?_⟩))
          · rw [hS1, hl0]; simp; omega
          · rw [hS']; exact g5
        · have hie : i = ops.size - 1 := by omega
          subst hie
          have hall : ∀ j, j + 1 < ops.size → listed.getD j false = true := fun j hj => (R.last j hj).closed hc (.inl hrd)
          have hEq := R.full hp hall hq
          have hopd : ∀ x ∈ q.d.c.op.opds, rho σS.p σS.t x = rho q.σ.p q.σ.t x := fun x hx => by
            rw [hp.look, R.opd hc hq hSi hrd (by simp only [Cop.all, List.mem_append]; exact .inl hx)]
          have hst := R.lst _ (R.d hq)
          have h2 : SR X B κ cs0 ι { σS with H := q.σ.H } a cs w := h.congr (fun x => rfl) hEq rfl rfl
          have hev : evOp1 call { σS with H := q.σ.H } q.d.c.op = some (.val q.v q.H') :=
            (evOp1_congr (σ := { σS with H := q.σ.H }) (σ' := q.σ) (by cases hco : q.d.c.op <;> rw [hco] at hst <;> first | (simp [isStore] at hst; done) | (simp [kindC])) rfl hopd).trans (R.ok hq)
          have hcop : chkCop X ops o q.d.c = true := by
            simp only [chkCop, Bool.and_eq_true]
            refine ⟨⟨hcd, ?_⟩, hcg⟩
            cases hco : q.d.c.op <;> rw [hco] at hst hcq <;> first | (simp [isStore] at hst; done) | exact hcq
          obtain ⟨ι1, a1, w1, g1, g2, g3, g4⟩ := op_step (rest := Region.linearise.go .any ops fuel (t / (Region.ready .any ops listed).length) (listed.setIfInBounds (ops.size - 1) true) []) hcall h2 ho hwant hcop hev b k hb
          have hall' : ∀ j, j < ops.size → (listed.setIfInBounds (ops.size - 1) true).getD j false = true := fun j hj => by
            rw [hS1]
            by_cases e : j = ops.size - 1
            · simp [e]
            · rw [hall j (by omega)]; rfl
          have hlk := (chain_link rs σ0 σ' R.chain).2.2 q (by rw [hlen]; exact hq)
          have hfin : SR X B κ cs0 ι1 σ' a1 cs w1 := by
            rw [hlk]
            refine g4.congr (fun x => ?_) ?_ ?_ ?_
            · rw [Rec.next, rho_put, rho_put]
              have e1 : rho ({ q.σ with H := q.H' } : St).p ({ q.σ with H := q.H' } : St).t x = rho q.σ.p q.σ.t x := rfl
              rw [e1]
              have e2 := chain_rho (x := x) rs 0 σ0 σ' R.chain
              cases hh : hits q.d.c.dst x with
              | true => rfl
              | false =>
                simp only [cond_false]
                rw [e2.1 _ q hq, show rho ({ ({ σS with H := q.σ.H } : St) with H := q.H' } : St).p ({ ({ σS with H := q.σ.H } : St) with H := q.H' } : St).t x = rho σS.p σS.t x from rfl, hp.look]
                refine rhoS_congr rs 0 _ fun j r hr hjh => ?_
                simp only [Nat.zero_add]
                have hjl := at_lt hr
                by_cases e : j = ops.size - 1
                · subst e
                  rw [hq] at hr; injection hr with hr; subst hr
                  rw [hh] at hjh; cases hjh
                · rw [hall j (by omega)]; simp; omega
            · rw [next_H, (put_H _ _ _).1]; exact EqG.refl _
            · have := (chain_d rs σ0 σ' R.chain _ q hq).1
              rw [Rec.next, (put_H _ _ _).2.1, (put_H _ _ _).2.1]
              simp only [this, hp.d]
            · have := (chain_d rs σ0 σ' R.chain _ q hq).2
              rw [Rec.next, (put_H _ _ _).2.2, (put_H _ _ _).2.2]
              simp only [this, hp.u]
          exact .of_steps g3 g1 g2 (ih _ _ σS a1 cs w1 ι1 hsz' hc' hcnt' (.inr ⟨hall', hfin⟩))
      · rw [hall i h1] at hSi; cases hSi
end

/-! ## The checker -/
def chkPQ (i : Nat) (d : DCop) : List DCop → List Nat → Bool
  | [], _ => true
  | d' :: l, b :: bs => (b.testBit i || !conf d.c d'.c) && chkPQ i d l bs
  | _ :: _, [] => false
def chkPQs : List DCop → List Nat → Nat → Bool
  | [], _, _ => true
  | d :: l, _ :: bs, i => chkPQ i d l bs && chkPQs l bs (i + 1)
  | _ :: _, [], _ => false

def chkOpsQ (X : Cx) (ops : Array Oper) : List Oper → List DCop → Bool
  | [], [] => true
  | o :: l, d :: m => (chkDst X o.dst d.c.dst && chkQ X o.op d.c.op && chkGuard X ops o.guard d.c.guard) && chkOpsQ X ops l m
  | _, _ => false

def chkMade (X : Cx) (ops : Array Oper) (dl : List DCop) : Bool :=
  X.P.follows .mixedOrders && chkOpsQ X ops ops.toList dl && chkAfter ops.toList 0 && dl.length == ops.size && Nat.blt 0 ops.size &&
  dl.all (fun d => d.c.guard.isNone) && dl.dropLast.all (fun d => (isMk d.c.op || isQt d.c.op || isLd d.c.op) && (!isLd d.c.op || d.u.contains 0)) &&
  (match dl.getLast? with | some d => isStore d.c.op | none => false) && (match dl.head? with | some d => isMk d.c.op && !d.tl | none => false) &&
  chkPQs dl (befs ops.toList []) 0 && (List.range (ops.size - 1)).all (fun i => ((befs ops.toList []).getD (ops.size - 1) 0).testBit i)

theorem chkPQ_spec {i : Nat} {d : DCop} : ∀ (l : List DCop) (bs : List Nat), chkPQ i d l bs = true → ∀ (m : Nat) (d' : DCop), l[m]? = some d' → ∃ b, bs[m]? = some b ∧ (b.testBit i = true ∨ conf d.c d'.c = false)
  | [], _, _, m, d', h => by simp at h
  | x :: l, [], h, _, _, _ => by simp [chkPQ] at h
  | x :: l, b :: bs, h, m, d', hm => by
    simp only [chkPQ, Bool.and_eq_true, Bool.or_eq_true, Bool.not_eq_true'] at h
    cases m with
    | zero => simp only [List.getElem?_cons_zero, Option.some.injEq] at hm; subst hm; exact ⟨b, rfl, h.1⟩
    | succ m => simp only [List.getElem?_cons_succ] at hm ⊢; exact chkPQ_spec l bs h.2 m d' hm

theorem chkPQs_spec : ∀ (l : List DCop) (bs : List Nat) (k : Nat), chkPQs l bs k = true → ∀ (i j : Nat) (d d' : DCop), i < j → l[i]? = some d → l[j]? = some d' → ∃ b, bs[j]? = some b ∧ (b.testBit (k + i) = true ∨ conf d.c d'.c = false)
  | [], _, _, _, i, j, d, d', _, h, _ => by simp at h
  | x :: l, [], _, h, _, _, _, _, _, _, _ => by simp [chkPQs] at h
  | x :: l, b :: bs, k, h, i, j, d, d', hij, hi, hj => by
    simp only [chkPQs, Bool.and_eq_true] at h
    cases j with
    | zero => omega
    | succ j =>
      simp only [List.getElem?_cons_succ] at hj ⊢
      cases i with
      | zero =>
        simp only [List.getElem?_cons_zero, Option.some.injEq] at hi; subst hi
        exact chkPQ_spec l bs h.1 j d' hj
      | succ i =>
        simp only [List.getElem?_cons_succ] at hi
        obtain ⟨b', h1, h2⟩ := chkPQs_spec l bs (k + 1) h.2 i j d d' (by omega) hi hj
        exact ⟨b', h1, by rw [show k + (i + 1) = k + 1 + i by omega]; exact h2⟩

theorem chkOpsQ_at {X : Cx} {ops : Array Oper} : ∀ (l : List Oper) (cl : List DCop), chkOpsQ X ops l cl = true → ∀ (i : Nat) (o : Oper) (d : DCop), l[i]? = some o → cl[i]? = some d → chkDst X o.dst d.c.dst = true ∧ chkQ X o.op d.c.op = true ∧ chkGuard X ops o.guard d.c.guard = true
  | [], [], _, i, o, c, h, _ => by simp at h
  | [], _ :: _, h, _, _, _, _, _ => by simp [chkOpsQ] at h
  | _ :: _, [], h, _, _, _, _, _ => by simp [chkOpsQ] at h
  | o0 :: l, c0 :: cl, h, i, o, c, ho, hc => by
    simp only [chkOpsQ, Bool.and_eq_true] at h
    cases i with
    | zero => simp only [List.getElem?_cons_zero, Option.some.injEq] at ho hc; subst ho; subst hc; exact ⟨h.1.1.1, h.1.1.2, h.1.2⟩
    | succ i => simp only [List.getElem?_cons_succ] at ho hc; exact chkOpsQ_at l cl h.2 i o c ho hc

def chkDrawn (X : Cx) (ops : Array Oper) (dl : List DCop) : Bool := chkDrawn0 X ops dl || chkMade X ops dl

theorem drawn_all (P : Program) (B : Nat) : DrawnAll P B chkDrawn := by
  intro X call hX hcall ops cl id hchk κ cs0 ι σ σ' a cs w ctl h hev b k hb
  simp only [chkDrawn, Bool.or_eq_true] at hchk
  rcases hchk with hchk | hchk
  · exact drawn_all0 P B X call hX hcall ops cl id hchk κ cs0 ι σ σ' a cs w ctl h hev b k hb
  subst hX
  obtain ⟨rfl, rs, h1, h2, h3⟩ := evOpsD_recs cl 0 [] _ σ' ctl hev
  simp only [chkMade, Bool.and_eq_true, beq_iff_eq, Nat.blt_eq] at hchk
  obtain ⟨⟨⟨⟨⟨⟨⟨⟨⟨⟨hm, c1⟩, c2⟩, c3⟩, c4⟩, c5⟩, c6⟩, c7⟩, c8⟩, c9⟩, c10⟩ := hchk
  have hbf := befs_spec (ops := ops) ops.toList [] (fun j => by simp) (fun j b i hj => by simp at hj)
  have hd : ∀ {j : Nat} {r : Rec}, rs[j]? = some r → cl[j]? = some r.d := fun hr => by rw [← h1, List.getElem?_map, hr]; rfl
  have hgn : ∀ (j : Nat) (d : DCop), cl[j]? = some d → d.c.guard = none := fun j d hj => by
    have := (List.all_eq_true.1 c5) d (List.mem_of_getElem? hj)
    simpa using this
  have hdl : ∀ (j : Nat) (d : DCop), cl[j]? = some d → j + 1 < ops.size → d ∈ cl.dropLast := fun j d hj hlt => by
    refine List.mem_of_getElem? (i := j) ?_
    rw [List.getElem?_dropLast, if_pos (by omega)]; exact hj
  have hw1 : ∀ {j : Nat} {r : Rec}, rs[j]? = some r → r.w = true := fun {j r} hr => by
    rcases chain_ok rs _ σ' h2 r (List.mem_of_getElem? hr) with ⟨_, hx, _⟩ | ⟨hx, _, _⟩
    · rw [hgn j _ (hd hr)] at hx; simp [wantedA] at hx
    · exact hx
  have hrl : rs.length = ops.size := by rw [← c3, ← h1, List.length_map]
  have R : Made call ops cl rs { σ with t := [] } σ' := {
    hds := h1
    lt := fun j o e hj he hbd => by have := chkAfter_spec ops.toList 0 c2 j o e (by simpa using hj) he hbd; omega
    size := c3
    pos := c4
    two := fun i j d d' hlt hi hj => by
      obtain ⟨b', g1, g2⟩ := chkPQs_spec cl _ 0 c9 i j d d' hlt hi hj
      rw [Nat.zero_add] at g2
      rcases g2 with g2 | g2
      · exact .inl (hbf j b' i g1 g2)
      · exact .inr g2
    grd := hgn
    knd := fun j d hj hlt => by
      have := (List.all_eq_true.1 c6) d (hdl j d hj hlt)
      simp only [Bool.and_eq_true, Bool.or_eq_true] at this
      rcases this.1 with (h | h) | h
      · exact .inl h
      · exact .inr (.inl h)
      · exact .inr (.inr h)
    last := fun j hj => by
      have := (List.all_eq_true.1 c10) j (by simp; omega)
      rw [List.getD_eq_getElem?_getD] at this
      cases hg : (befs ops.toList [])[ops.size - 1]? with
      | none => rw [hg] at this; simp at this
      | some b' => rw [hg] at this; exact hbf _ b' j hg this
    lst := fun d hj => by
      rw [List.getLast?_eq_getElem?, c3, hj] at c7
      exact c7
    chain := h2
    lds := fun j r hr hld hlt => by
      have h6 := (List.all_eq_true.1 c6) r.d (hdl j _ (hd hr) hlt)
      simp only [Bool.and_eq_true, Bool.or_eq_true, Bool.not_eq_true', List.contains_iff_mem] at h6
      have hu : 0 ∈ r.d.u := by
        rcases h6.2 with h | h
        · rw [hld] at h; cases h
        · exact h
      obtain ⟨e, he, hcase⟩ := h3 j r hr (hw1 hr) 0 hu
      rcases hcase with ⟨_, q, hq, hlt', rfl⟩ | hlk
      · simp only [Nat.sub_self] at hq
        have hqd := hd hq
        have h8 : isMk q.d.c.op = true ∧ q.d.tl = false := by
          rw [List.head?_eq_getElem?, hqd] at c8
          simpa using c8
        have hlog : q.log = .ld q.σ.H := by
          have hk2 : kindC q.d.c.op = 2 := by cases hco : q.d.c.op <;> rw [hco] at h8 <;> simp [isMk] at h8 <;> rfl
          simp [Rec.log, hw1 hq, mkLog, h8.2, hk2]
        have hqs := (chain_link rs _ σ' h2).1 q hq
        rw [hlog] at he
        simp only [dynOK, sameVal] at he
        split at he
        · rename_i v' H' hev'
          rw [hqs] at hev'
          rw [AV.beq_eq _ _ he] at hev'
          exact ⟨_, hev'⟩
        · cases he
      · simp [lkL] at hlk }
  have hsch : Region.schedule (X.P.follows .mixedOrders) ops (w.tape w.drawn (.order b.fn id)) = Region.linearise.go .any ops ops.size (w.tape w.drawn (.order b.fn id)) (Array.replicate ops.size false) [] := by
    simp only [Region.schedule, hm, Bool.true_or, if_true]; rfl
  have hS0 : (fun j => (Array.replicate ops.size false).getD j false) = fun _ => false := by
    funext j
    simp only [Array.getD_eq_getD_getElem?, Array.getElem?_replicate]
    split <;> rfl
  have h0 := h.fresh
  obtain ⟨ql, hql⟩ := rec_at (rs := rs) (j := ops.size - 1) (by omega)
  obtain ⟨base1, base2⟩ := R.base _ hql
  simp only at base1 base2
  obtain ⟨r1, r2⟩ := Heap.room_get (ql.σ.H.size - σ.H.size) σ.H
  have hgl : X.P.globals.size ≤ σ.H.size := by
    rcases Nat.eq_zero_or_pos X.P.globals.size with e | e
    · omega
    · obtain ⟨ex, hex⟩ := h.env.fg (X.P.globals.size - 1) (by omega)
      have := (h.rel.dom _ _ hex).1; omega
  have hroom := h.rel.room (ql.σ.H.size - σ.H.size)
  have hw : SR X B κ cs0 ι { σ with t := [], H := σ.H.room (ql.σ.H.size - σ.H.size) } a cs { w with drawn := w.drawn + 1 } :=
    ⟨h0.env, h0.size, ⟨hroom.dom, hroom.live, hroom.ownu, hroom.iter, hroom.ty, hroom.mapb, hroom.inj, hroom.size⟩, h0.dfr, h0.up⟩
  have hp : MPart ops rs { σ with t := [] } (fun _ => false) { σ with t := [], H := σ.H.room (ql.σ.H.size - σ.H.size) } ι := {
    look := fun x => (Run.start (rs := rs) (σ0 := { σ with t := [] })).look x
    size := fun q hq => by rw [hql] at hq; injection hq with hq; subst hq; simp only; rw [r1]; omega
    low := fun b' _ => by simp only; rw [r2]
    mem := fun j r hr hj b' g1 g2 => by
      have hb1 := (R.base j hr).1
      simp only at hb1
      refine ⟨fun h => absurd h (by simp), fun _ => ⟨?_, h.rel.none_new (by omega)⟩⟩
      simp only
      rw [r2]
      simp only [Heap.get]
      rw [if_neg (by omega)]
    d := rfl
    u := rfl }
  have hB : Below B w { w with drawn := w.drawn + 1 } := ⟨rfl, rfl, rfl, Nat.le_refl _, fun _ _ => rfl⟩
  refine .of_steps (.one step_region_draw) ι.le_refl hB ?_
  rw [hsch]
  refine R.go hcall (fun i o d ho hdd => chkOpsQ_at ops.toList cl c1 i o d (by simpa using ho) hdd) hgl b k hb ops.size _ _ { σ with t := [], H := σ.H.room (ql.σ.H.size - σ.H.size) } a cs _ ι (by simp) (by rw [hS0]; intro j o e hj; cases hj) (cnt_le _) (.inl ⟨?_, hw, ?_⟩)
  · have := congrFun hS0 (ops.size - 1); exact this
  · rw [hS0]; exact hp
end Go.Ev
