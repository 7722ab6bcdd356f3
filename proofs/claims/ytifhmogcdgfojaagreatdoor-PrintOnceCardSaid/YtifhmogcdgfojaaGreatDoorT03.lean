/- How the abstract memory lies in a world of the model, and what each change of it comes to there. -/
import Derived.Test.YtifhmogcdgfojaaGreatDoorT02
import Derived.OneCell
set_option linter.unusedSimpArgs false
set_option linter.unusedVariables false
namespace Go.Ev
open Go Go.RowKit

def Owned (H : Heap) (b : Nat) : Prop := (∃ c u, H.get b = .cells c u ∧ u ≠ .ro) ∨ (∃ s p, H.get b = .siter s p) ∨ (∃ es, H.get b = .map es)

/-- The entries of a map. -/
def EsR (ι : Plan) (es : List (AV × AV)) (es' : Array MapEntry) : Prop := VRs ι (es.map (·.1)) (es'.toList.map (·.key)) ∧ VRs ι (es.map (·.2)) (es'.toList.map (·.val))
theorem EsR.mono {ι ι' : Plan} (h : ι.le ι') {es : List (AV × AV)} {es' : Array MapEntry} (e : EsR ι es es') : EsR ι' es es' := ⟨VRs.mono h _ _ e.1, VRs.mono h _ _ e.2⟩

structure Rel (B : Nat) (ι : Plan) (H : Heap) (w : World) : Prop where
  dom : ∀ b L, ι b = some L → b < H.size ∧ L.blk < w.heap.size
  live : ∀ b c u, H.get b = .cells c u → ∃ L, ι b = some L ∧ ∀ (i : Nat) (x : AV), c[i]? = some x → ∃ v, w.cell? ⟨L.blk, L.base + i, none⟩ = some v ∧ VR ι x v
  ownu : ∀ b c L {u}, H.get b = .cells c u → u ≠ .ro → ι b = some L → B ≤ L.blk ∧ c.length ≤ L.ext ∧ ∀ i, i < L.ext → (∃ v, w.cell? ⟨L.blk, L.base + i, none⟩ = some v) ∧ w.frozen? ⟨L.blk, L.base + i, none⟩ = false
  iter : ∀ b s p, H.get b = .siter s p → ∃ L, ι b = some L ∧ B ≤ L.blk ∧ L.base = 0 ∧ w.heap[L.blk]? = some (.stringIter ⟨s.toArray⟩ p)
  ty : ∀ b c e L, H.get b = .cells c (.byt e) → ι b = some L → L.base = 0 ∧ ∃ n, w.shape? L.blk = some (e, n) ∧ L.ext ≤ n
  mapb : ∀ b es, H.get b = .map es → ∃ L, ι b = some L ∧ B ≤ L.blk ∧ ∃ es' k, w.heap[L.blk]? = some (.map es' k) ∧ EsR ι es es'
  inj : ∀ b b' L L', b ≠ b' → Owned H b → H.get b' ≠ .dead → ι b = some L → ι b' = some L' → L.blk ≠ L'.blk
  size : B ≤ w.heap.size

/-- What a step gives: a greater plan, the relation, nothing below `B` has turned. -/
def Good (B : Nat) (ι : Plan) (w : World) (H' : Heap) (w' : World) (F : Plan → Prop) : Prop :=
  ∃ ι' : Plan, ι.le ι' ∧ Rel B ι' H' w' ∧ Below B w w' ∧ F ι'

theorem cell_blk {w w' : World} {k : Nat} (h : w'.heap[k]? = w.heap[k]?) (i : Nat) : w'.cell? ⟨k, i, none⟩ = w.cell? ⟨k, i, none⟩ := by
  simp only [World.cell?, h]
theorem frozen_blk {w w' : World} {k : Nat} (h : w'.heap[k]? = w.heap[k]?) (i : Nat) : w'.frozen? ⟨k, i, none⟩ = w.frozen? ⟨k, i, none⟩ := by
  simp only [World.frozen?, h]

theorem Rel.own {B : Nat} {ι : Plan} {H : Heap} {w : World} (h : Rel B ι H w) (b : Nat) (c : List AV) (L : Loc) (hg : H.get b = .cells c .own) (hL : ι b = some L) : B ≤ L.blk ∧ c.length ≤ L.ext ∧ ∀ i, i < L.ext → (∃ v, w.cell? ⟨L.blk, L.base + i, none⟩ = some v) ∧ w.frozen? ⟨L.blk, L.base + i, none⟩ = false := h.ownu b c L hg (by simp) hL
theorem shape_blk {w w' : World} {k : Nat} (h : w'.heap[k]? = w.heap[k]?) : w'.shape? k = w.shape? k := by simp only [World.shape?, h]
theorem shape_setCell (w : World) (a : Addr) (v : Value) (k : Nat) : (w.setCell a v).shape? k = w.shape? k := by
  simp only [World.shape?, World.setCell, Array.getElem?_modify]
  by_cases e : a.block = k
  · subst e
    cases hw : w.heap[a.block]? with
    | none => simp
    | some o => cases o <;> simp <;> split <;> simp
  · simp [e]

theorem Rel.none_new {B : Nat} {ι : Plan} {H : Heap} {w : World} (h : Rel B ι H w) {b : Nat} (hb : H.size ≤ b) : ι b = none := by
  cases hι : ι b with
  | none => rfl
  | some L => have := (h.dom b L hι).1; omega

theorem Rel.congr {B : Nat} {ι : Plan} {H H' : Heap} {w : World} (h : Rel B ι H w) (hg : ∀ b, H'.get b = H.get b) (hs : H'.size = H.size) : Rel B ι H' w where
  dom := fun b L e => by rw [hs]; exact h.dom b L e
  live := fun b c u e => h.live b c u (by rw [← hg]; exact e)
  ownu := fun b c L _ e => h.ownu b c L (by rw [← hg]; exact e)
  iter := fun b s p e => h.iter b s p (by rw [← hg]; exact e)
  ty := fun b c t L e => h.ty b c t L (by rw [← hg]; exact e)
  mapb := fun b es e => h.mapb b es (by rw [← hg]; exact e)
  inj := fun b b' L L' hne ho hd => h.inj b b' L L' hne (by unfold Owned at *; simpa only [hg] using ho) (by rw [← hg]; exact hd)
  size := h.size

/-- The same blocks, another world: where all blocks of the plan are as they were. -/
theorem Rel.world {B : Nat} {ι : Plan} {H : Heap} {w w' : World} (h : Rel B ι H w) (hs : w.heap.size ≤ w'.heap.size) (hb : ∀ k, k < w.heap.size → w'.heap[k]? = w.heap[k]?) : Rel B ι H w' where
  dom := fun b L e => ⟨(h.dom b L e).1, Nat.lt_of_lt_of_le (h.dom b L e).2 hs⟩
  live := fun b c u e => by
    obtain ⟨L, hL, hc⟩ := h.live b c u e
    refine ⟨L, hL, fun i x hx => ?_⟩
    obtain ⟨v, hv, hr⟩ := hc i x hx
    exact ⟨v, by rw [cell_blk (hb _ (h.dom b L hL).2)]; exact hv, hr⟩
  ownu := fun b c L _ e hu hL => by
    obtain ⟨h1, h2, h3⟩ := h.ownu b c L e hu hL
    refine ⟨h1, h2, fun i hi => ?_⟩
    rw [cell_blk (hb _ (h.dom b L hL).2), frozen_blk (hb _ (h.dom b L hL).2)]
    exact h3 i hi
  iter := fun b s p e => by
    obtain ⟨L, hL, h1, h2, h3⟩ := h.iter b s p e
    exact ⟨L, hL, h1, h2, by rw [hb _ (h.dom b L hL).2]; exact h3⟩
  ty := fun b c t L e hL => by rw [shape_blk (hb _ (h.dom b L hL).2)]; exact h.ty b c t L e hL
  mapb := fun b es e => by
    obtain ⟨L, hL, h1, es', k, h2, h3⟩ := h.mapb b es e
    exact ⟨L, hL, h1, es', k, by rw [hb _ (h.dom b L hL).2]; exact h2, h3⟩
  inj := h.inj
  size := Nat.le_trans h.size hs

def Plan.add (ι : Plan) (b : Nat) (L : Loc) : Plan := fun c => if c = b then some L else ι c
theorem Plan.add_self (ι : Plan) (b : Nat) (L : Loc) : (ι.add b L) b = some L := by simp [Plan.add]
theorem Plan.add_le {ι : Plan} {b : Nat} (L : Loc) (h : ι b = none) : ι.le (ι.add b L) := by
  intro c M hc
  by_cases e : c = b
  · subst e; rw [h] at hc; cases hc
  · simp [Plan.add, e, hc]

/-- A new block of cells. -/
theorem Rel.push_u {B : Nat} {ι : Plan} {H : Heap} {w w' : World} (h : Rel B ι H w) (c : List AV) (ext : Nat) (u0 : Use) (hu0 : ∀ e, u0 = .byt e → ∃ n, w'.shape? w.heap.size = some (e, n) ∧ ext ≤ n)
    (hs : w'.heap.size = w.heap.size + 1) (hb : ∀ k, k < w.heap.size → w'.heap[k]? = w.heap[k]?)
    (hc : ∀ (i : Nat) (x : AV), c[i]? = some x → ∃ v, w'.cell? ⟨w.heap.size, i, none⟩ = some v ∧ VR ι x v)
    (he : c.length ≤ ext ∧ ∀ i, i < ext → (∃ v, w'.cell? ⟨w.heap.size, i, none⟩ = some v) ∧ w'.frozen? ⟨w.heap.size, i, none⟩ = false) :
    ι.le (ι.add H.size ⟨w.heap.size, 0, ext⟩) ∧ Rel B (ι.add H.size ⟨w.heap.size, 0, ext⟩) (H.push (.cells c u0)) w' := by
  have hle : ι.le (ι.add H.size ⟨w.heap.size, 0, ext⟩) := Plan.add_le _ (h.none_new (Nat.le_refl _))
  have h0 := h.world (w' := w') (by omega) hb
  refine ⟨hle, ?_⟩
  have hadd : ∀ b L, (ι.add H.size ⟨w.heap.size, 0, ext⟩) b = some L → (b = H.size ∧ L = ⟨w.heap.size, 0, ext⟩) ∨ (b ≠ H.size ∧ ι b = some L) := by
    intro b L e
    by_cases hbs : b = H.size
    · subst hbs; rw [Plan.add_self] at e; exact .inl ⟨rfl, by injection e with e; exact e.symm⟩
    · refine .inr ⟨hbs, ?_⟩; simpa [Plan.add, hbs] using e
  constructor
  · intro b L e
    rcases hadd b L e with ⟨rfl, rfl⟩ | ⟨hne, e'⟩
    · exact ⟨by rw [Heap.size_push]; omega, by simp only [hs]; omega⟩
    · have := h.dom b L e'; exact ⟨by rw [Heap.size_push]; omega, by omega⟩
  · intro b c' u e
    rw [Heap.get_push] at e
    by_cases hbs : b = H.size
    · subst hbs
      rw [if_pos rfl] at e; injection e with e1 e2; subst e1
      refine ⟨_, Plan.add_self _ _ _, fun i x hx => ?_⟩
      obtain ⟨v, hv, hr⟩ := hc i x hx
      exact ⟨v, by simpa using hv, VR.mono hle _ _ hr⟩
    · rw [if_neg hbs] at e
      obtain ⟨L, hL, hx⟩ := h0.live b c' u e
      exact ⟨L, hle _ _ hL, fun i x hi => let ⟨v, hv, hr⟩ := hx i x hi; ⟨v, hv, VR.mono hle _ _ hr⟩⟩
  · intro b c' L u e hu hL
    rw [Heap.get_push] at e
    rcases hadd b L hL with ⟨rfl, rfl⟩ | ⟨hne, e'⟩
    · rw [if_pos rfl] at e; injection e with e1 e2; subst e1
      refine ⟨h.size, he.1, fun i hi => ?_⟩
      simpa using he.2 i hi
    · rw [if_neg hne] at e
      exact h0.ownu b c' L e hu e'
  · intro b s p e
    rw [Heap.get_push] at e
    by_cases hbs : b = H.size
    · subst hbs; rw [if_pos rfl] at e; cases e
    · rw [if_neg hbs] at e
      obtain ⟨L, hL, r⟩ := h0.iter b s p e
      exact ⟨L, hle _ _ hL, r⟩
  · intro b c' t L e hL
    rw [Heap.get_push] at e
    rcases hadd b L hL with ⟨rfl, rfl⟩ | ⟨hne, e'⟩
    · rw [if_pos rfl] at e; injection e with e1 e2; subst e1
      exact ⟨rfl, hu0 t e2⟩
    · rw [if_neg hne] at e
      exact h0.ty b c' t L e e'
  · intro b es e
    rw [Heap.get_push] at e
    by_cases hbs : b = H.size
    · rw [if_pos hbs] at e; cases e
    · rw [if_neg hbs] at e
      obtain ⟨L, hL, h1, es', k, h2, h3⟩ := h0.mapb b es e
      exact ⟨L, hle _ _ hL, h1, es', k, h2, h3.mono hle⟩
  · intro b b' L L' hne ho hd e e'
    rcases hadd b L e with ⟨rfl, rfl⟩ | ⟨hb1, e1⟩
    · rcases hadd b' L' e' with ⟨rfl, rfl⟩ | ⟨hb2, e2⟩
      · exact absurd rfl hne
      · have := (h.dom b' L' e2).2; simp only; omega
    · rcases hadd b' L' e' with ⟨rfl, rfl⟩ | ⟨hb2, e2⟩
      · have := (h.dom b L e1).2; simp only; omega
      · refine h.inj b b' L L' hne ?_ ?_ e1 e2
        · unfold Owned at *; simpa only [Heap.get_push, if_neg hb1] using ho
        · simpa only [Heap.get_push, if_neg hb2] using hd
  · have := h.size; omega

theorem Rel.push_cells {B : Nat} {ι : Plan} {H : Heap} {w w' : World} (h : Rel B ι H w) (c : List AV) (ext : Nat)
    (hs : w'.heap.size = w.heap.size + 1) (hb : ∀ k, k < w.heap.size → w'.heap[k]? = w.heap[k]?)
    (hc : ∀ (i : Nat) (x : AV), c[i]? = some x → ∃ v, w'.cell? ⟨w.heap.size, i, none⟩ = some v ∧ VR ι x v)
    (he : c.length ≤ ext ∧ ∀ i, i < ext → (∃ v, w'.cell? ⟨w.heap.size, i, none⟩ = some v) ∧ w'.frozen? ⟨w.heap.size, i, none⟩ = false) :
    ι.le (ι.add H.size ⟨w.heap.size, 0, ext⟩) ∧ Rel B (ι.add H.size ⟨w.heap.size, 0, ext⟩) (H.push (.cells c .own)) w' := h.push_u c ext .own (fun e he => by cases he) hs hb hc he

/-- One cell of a block of its own is written: a cell that it has, or one behind them that it may use. -/
theorem Rel.put_cell {B : Nat} {ι : Plan} {H : Heap} {w : World} (h : Rel B ι H w) {b off : Nat} {c c2 : List AV} {L : Loc} {x : AV} {v : Value} {u0 : Use} (hu0 : u0 ≠ .ro)
    (hg : H.get b = .cells c u0) (hL : ι b = some L) (hoff : off < L.ext) (hr : VR ι x v) (hlen : c2.length ≤ L.ext)
    (hsame : ∀ (i : Nat) (y : AV), c2[i]? = some y → i ≠ off → c[i]? = some y) (hnew : ∀ y, c2[off]? = some y → y = x) :
    Rel B ι (H.set b (.cells c2 u0)) (w.setCell ⟨L.blk, L.base + off, none⟩ v) ∧ Below B w (w.setCell ⟨L.blk, L.base + off, none⟩ v) := by
  obtain ⟨o1, o2, o3⟩ := h.ownu b c L hg hu0 hL
  obtain ⟨⟨u, hu⟩, hfz⟩ := o3 off hoff
  have hbs : b < H.size := (h.dom b L hL).1
  have hget : ∀ b', (H.set b (.cells c2 u0)).get b' = if b' = b then .cells c2 u0 else H.get b' := fun b' => Heap.get_set _ _ _ _ hbs
  have hoth : ∀ k, k ≠ L.blk → (w.setCell ⟨L.blk, L.base + off, none⟩ v).heap[k]? = w.heap[k]? := fun k hk => Below.heap_setCell _ _ _ _ hk
  have hself : ∀ i, (w.setCell ⟨L.blk, L.base + off, none⟩ v).cell? ⟨L.blk, L.base + i, none⟩ = if i = off then some v else w.cell? ⟨L.blk, L.base + i, none⟩ := by
    intro i
    by_cases e : i = off
    · subst e; rw [if_pos rfl]; exact World.cell?_setCell_same w _ v hu
    · rw [if_neg e]; exact World.cell?_setCell_other w _ _ v (by simp; omega)
  have hown : Owned H b := .inl ⟨c, _, hg, hu0⟩
  refine ⟨?_, (Below.refl B w).setCell o1 v⟩
  have hblk : ∀ b' L', b' ≠ b → H.get b' ≠ .dead → ι b' = some L' → L'.blk ≠ L.blk := fun b' L' hne hd e => (h.inj b b' L L' (Ne.symm hne) hown hd hL e).symm
  constructor
  · intro b' L' e
    have := h.dom b' L' e
    exact ⟨this.1, by rw [World.size_setCell]; exact this.2⟩
  · intro b' c' u' e
    rw [hget] at e
    by_cases hb : b' = b
    · subst hb
      rw [if_pos rfl] at e; injection e with e1 e2; subst e1; subst e2
      obtain ⟨L', hL', hx⟩ := h.live b' c u0 hg
      rw [hL] at hL'; injection hL' with hL'; subst hL'
      refine ⟨L, hL, fun i y hy => ?_⟩
      rw [hself]
      by_cases e : i = off
      · subst e; have := hnew y hy; subst this; exact ⟨v, by simp, hr⟩
      · rw [if_neg e]; exact hx i y (hsame i y hy e)
    · rw [if_neg hb] at e
      obtain ⟨L', hL', hx⟩ := h.live b' c' u' e
      refine ⟨L', hL', fun i y hy => ?_⟩
      rw [cell_blk (hoth _ (hblk b' L' hb (by rw [e]; simp) hL'))]
      exact hx i y hy
  · intro b' c' L' u1 e hu1 hL'
    rw [hget] at e
    by_cases hb : b' = b
    · subst hb
      rw [if_pos rfl] at e; injection e with e1 e2; subst e1
      rw [hL] at hL'; injection hL' with hL'; subst hL'
      refine ⟨o1, hlen, fun i hi => ?_⟩
      rw [hself, World.frozen?_setCell]
      by_cases e : i = off
      · exact ⟨⟨v, by rw [if_pos e]⟩, (o3 i hi).2⟩
      · exact ⟨by rw [if_neg e]; exact (o3 i hi).1, (o3 i hi).2⟩
    · rw [if_neg hb] at e
      have hne := hblk b' L' hb (by rw [e]; simp) hL'
      obtain ⟨p1, p2, p3⟩ := h.ownu b' c' L' e hu1 hL'
      refine ⟨p1, p2, fun i hi => ?_⟩
      rw [cell_blk (hoth _ hne), frozen_blk (hoth _ hne)]
      exact p3 i hi
  · intro b' s p e
    rw [hget] at e
    by_cases hb : b' = b
    · rw [if_pos hb] at e; cases e
    · rw [if_neg hb] at e
      obtain ⟨L', hL', q1, q2, q3⟩ := h.iter b' s p e
      exact ⟨L', hL', q1, q2, by rw [hoth _ (hblk b' L' hb (by rw [e]; simp) hL')]; exact q3⟩
  · intro b' c' t L' e hL'
    rw [shape_setCell]
    rw [hget] at e
    by_cases hb : b' = b
    · subst hb
      rw [if_pos rfl] at e; injection e with e1 e2; subst e2
      exact h.ty b' c t L' hg hL'
    · rw [if_neg hb] at e
      exact h.ty b' c' t L' e hL'
  · intro b' es e
    rw [hget] at e
    by_cases hb : b' = b
    · rw [if_pos hb] at e; cases e
    · rw [if_neg hb] at e
      obtain ⟨L', hL', q1, es', k, q2, q3⟩ := h.mapb b' es e
      exact ⟨L', hL', q1, es', k, by rw [hoth _ (hblk b' L' hb (by rw [e]; simp) hL')]; exact q2, q3⟩
  · intro b1 b2 L1 L2 hne ho hd e1 e2
    refine h.inj b1 b2 L1 L2 hne ?_ ?_ e1 e2
    · unfold Owned at ho
      simp only [hget] at ho
      by_cases hb : b1 = b
      · subst hb; exact hown
      · unfold Owned; simpa only [if_neg hb] using ho
    · rw [hget] at hd
      by_cases hb : b2 = b
      · subst hb; rw [hg]; simp
      · simpa only [if_neg hb] using hd
  · rw [World.size_setCell]; exact h.size

theorem Rel.set_cell {B : Nat} {ι : Plan} {H : Heap} {w : World} (h : Rel B ι H w) {b off : Nat} {c : List AV} {L : Loc} {x : AV} {v : Value}
    (hg : H.get b = .cells c .own) (hL : ι b = some L) (hoff : off < c.length) (hr : VR ι x v) :
    Rel B ι (H.set b (.cells (c.set off x) .own)) (w.setCell ⟨L.blk, L.base + off, none⟩ v) ∧ Below B w (w.setCell ⟨L.blk, L.base + off, none⟩ v) := by
  obtain ⟨o1, o2, o3⟩ := h.own b c L hg hL
  refine h.put_cell (by simp) hg hL (by omega) hr (by simpa using o2) (fun i y hy hne => ?_) (fun y hy => ?_)
  · rw [List.getElem?_set, if_neg (Ne.symm hne)] at hy; exact hy
  · rw [List.getElem?_set, if_pos rfl, if_pos hoff] at hy; injection hy with hy; exact hy.symm

/-- A cell more. -/
theorem Rel.snoc_cell {B : Nat} {ι : Plan} {H : Heap} {w : World} (h : Rel B ι H w) {b : Nat} {c : List AV} {L : Loc} {x : AV} {v : Value} {u0 : Use} (hu0 : u0 ≠ .ro)
    (hg : H.get b = .cells c u0) (hL : ι b = some L) (hoff : c.length < L.ext) (hr : VR ι x v) :
    Rel B ι (H.set b (.cells (c ++ [x]) u0)) (w.setCell ⟨L.blk, L.base + c.length, none⟩ v) ∧ Below B w (w.setCell ⟨L.blk, L.base + c.length, none⟩ v) := by
  refine h.put_cell hu0 hg hL hoff hr (by simp; omega) (fun i y hy hne => ?_) (fun y hy => ?_)
  · rw [List.getElem?_append] at hy
    split at hy
    · exact hy
    · rename_i hi
      rw [List.getElem?_singleton] at hy
      split at hy
      · omega
      · cases hy
  · rw [List.getElem?_append, if_neg (by omega)] at hy
    simp at hy; exact hy.symm

/-- A block is given up. -/
theorem Rel.kill {B : Nat} {ι : Plan} {H : Heap} {w : World} (h : Rel B ι H w) {b : Nat} (hb : b < H.size) : Rel B ι (H.set b .dead) w := by
  have hget : ∀ b', (H.set b .dead).get b' = if b' = b then .dead else H.get b' := fun b' => Heap.get_set _ _ _ _ hb
  constructor
  · exact h.dom
  · intro b' c u e; rw [hget] at e; split at e
    · cases e
    · exact h.live b' c u e
  · intro b' c L u e; rw [hget] at e; split at e
    · cases e
    · exact h.ownu b' c L e
  · intro b' s p e; rw [hget] at e; split at e
    · cases e
    · exact h.iter b' s p e
  · intro b' c t L e; rw [hget] at e; split at e
    · cases e
    · exact h.ty b' c t L e
  · intro b' es e; rw [hget] at e; split at e
    · cases e
    · exact h.mapb b' es e
  · intro b1 b2 L1 L2 hne ho hd e1 e2
    refine h.inj b1 b2 L1 L2 hne ?_ ?_ e1 e2
    · unfold Owned at *
      simp only [hget] at ho
      by_cases hb1 : b1 = b
      · simp [hb1] at ho
      · simpa only [if_neg hb1] using ho
    · rw [hget] at hd
      by_cases hb2 : b2 = b
      · simp [hb2] at hd
      · simpa only [if_neg hb2] using hd
  · exact h.size

/-- A piece of a block of its own goes on as a block: the rest is given up. -/
theorem Rel.move {B : Nat} {ι : Plan} {H : Heap} {w : World} (h : Rel B ι H w) {b off n : Nat} {c : List AV} {L : Loc} {u0 : Use} (hu0 : u0 ≠ .ro) (hz : ∀ e, u0 = .byt e → off = 0)
    (hg : H.get b = .cells c u0) (hL : ι b = some L) (hn : off + n ≤ c.length) :
    ι.le (ι.add H.size ⟨L.blk, L.base + off, L.ext - off⟩) ∧ Rel B (ι.add H.size ⟨L.blk, L.base + off, L.ext - off⟩) ((H.set b .dead).push (.cells (rd c off n) u0)) w := by
  obtain ⟨o1, o2, o3⟩ := h.ownu b c L hg hu0 hL
  have hbs : b < H.size := (h.dom b L hL).1
  have hle : ι.le (ι.add H.size ⟨L.blk, L.base + off, L.ext - off⟩) := Plan.add_le _ (h.none_new (Nat.le_refl _))
  refine ⟨hle, ?_⟩
  have hget : ∀ b', ((H.set b .dead).push (.cells (rd c off n) u0)).get b' = if b' = H.size then .cells (rd c off n) u0 else if b' = b then .dead else H.get b' := fun b' => by
    rw [Heap.get_push, Heap.size_set, Heap.get_set _ _ _ _ hbs]
  have hadd : ∀ b' L', (ι.add H.size ⟨L.blk, L.base + off, L.ext - off⟩) b' = some L' → (b' = H.size ∧ L' = ⟨L.blk, L.base + off, L.ext - off⟩) ∨ (b' ≠ H.size ∧ ι b' = some L') := by
    intro b' L' e
    by_cases hb' : b' = H.size
    · subst hb'; rw [Plan.add_self] at e; exact .inl ⟨rfl, by injection e with e; exact e.symm⟩
    · refine .inr ⟨hb', ?_⟩; simpa [Plan.add, hb'] using e
  have hown : Owned H b := .inl ⟨c, _, hg, hu0⟩
  constructor
  · intro b' L' e
    rcases hadd b' L' e with ⟨rfl, rfl⟩ | ⟨hne, e'⟩
    · exact ⟨by rw [Heap.size_push, Heap.size_set]; omega, (h.dom b L hL).2⟩
    · have := h.dom b' L' e'; exact ⟨by rw [Heap.size_push, Heap.size_set]; omega, this.2⟩
  · intro b' c' u e
    rw [hget] at e
    by_cases hb' : b' = H.size
    · subst hb'
      rw [if_pos rfl] at e; injection e with e1 e2; subst e1
      refine ⟨_, Plan.add_self _ _ _, fun i x hx => ?_⟩
      obtain ⟨L', hL', hx'⟩ := h.live b c u0 hg
      rw [hL] at hL'; injection hL' with hL'; subst hL'
      simp only [rd, List.getElem?_take] at hx
      split at hx
      · rw [List.getElem?_drop] at hx
        obtain ⟨v, hv, hr⟩ := hx' (off + i) x hx
        exact ⟨v, by simp only [Nat.add_assoc]; exact hv, VR.mono hle _ _ hr⟩
      · cases hx
    · rw [if_neg hb'] at e
      split at e
      · cases e
      · obtain ⟨L', hL', hx⟩ := h.live b' c' u e
        exact ⟨L', hle _ _ hL', fun i x hi => let ⟨v, hv, hr⟩ := hx i x hi; ⟨v, hv, VR.mono hle _ _ hr⟩⟩
  · intro b' c' L' u1 e hu1 hL'
    rw [hget] at e
    rcases hadd b' L' hL' with ⟨rfl, rfl⟩ | ⟨hne, e'⟩
    · rw [if_pos rfl] at e; injection e with e1 e2; subst e1
      refine ⟨o1, by simp [rd]; omega, fun i hi => ?_⟩
      simp only at hi
      have := o3 (off + i) (by omega)
      simp only [Nat.add_assoc]; exact this
    · rw [if_neg hne] at e
      split at e
      · cases e
      · exact h.ownu b' c' L' e hu1 e'
  · intro b' s p e
    rw [hget] at e
    split at e
    · cases e
    · split at e
      · cases e
      · obtain ⟨L', hL', r⟩ := h.iter b' s p e
        exact ⟨L', hle _ _ hL', r⟩
  · intro b' c' t L' e hL'
    rw [hget] at e
    rcases hadd b' L' hL' with ⟨rfl, rfl⟩ | ⟨hne, e'⟩
    · rw [if_pos rfl] at e; injection e with e1 e2; subst e2
      obtain ⟨q1, n', q2, q3⟩ := h.ty b c t L hg hL
      exact ⟨by simp [q1, hz t rfl], n', q2, by simp only; omega⟩
    · rw [if_neg hne] at e
      split at e
      · cases e
      · exact h.ty b' c' t L' e e'
  · intro b' es e
    rw [hget] at e
    split at e
    · cases e
    · split at e
      · cases e
      · obtain ⟨L', hL', q1, es', k, q2, q3⟩ := h.mapb b' es e
        exact ⟨L', hle _ _ hL', q1, es', k, q2, q3.mono hle⟩
  · intro b1 b2 L1 L2 hne ho hd e1 e2
    have live2 : ∀ b', b' ≠ H.size → ((H.set b .dead).push (.cells (rd c off n) u0)).get b' ≠ .dead → b' ≠ b ∧ H.get b' ≠ .dead := by
      intro b' hb' hd'
      rw [hget, if_neg hb'] at hd'
      by_cases e : b' = b
      · rw [if_pos e] at hd'; exact absurd rfl hd'
      · rw [if_neg e] at hd'; exact ⟨e, hd'⟩
    have own2 : ∀ b', b' ≠ H.size → Owned ((H.set b .dead).push (.cells (rd c off n) u0)) b' → b' ≠ b ∧ Owned H b' := by
      intro b' hb' ho'
      unfold Owned at ho'
      simp only [hget, if_neg hb'] at ho'
      by_cases e : b' = b
      · simp [e] at ho'
      · simp only [if_neg e] at ho'; exact ⟨e, ho'⟩
    rcases hadd b1 L1 e1 with ⟨rfl, rfl⟩ | ⟨hb1, e1'⟩
    · rcases hadd b2 L2 e2 with ⟨rfl, rfl⟩ | ⟨hb2, e2'⟩
      · exact absurd rfl hne
      · obtain ⟨q1, q2⟩ := live2 b2 hb2 hd
        exact h.inj b b2 L L2 (Ne.symm q1) hown q2 hL e2'
    · obtain ⟨q1, q2⟩ := own2 b1 hb1 ho
      rcases hadd b2 L2 e2 with ⟨rfl, rfl⟩ | ⟨hb2, e2'⟩
      · exact h.inj b1 b L1 L q1 q2 (by rw [hg]; simp) e1' hL
      · obtain ⟨r1, r2⟩ := live2 b2 hb2 hd
        exact h.inj b1 b2 L1 L2 hne q2 r2 e1' e2'
  · exact h.size

theorem wr_length : ∀ (xs c : List AV) (off : Nat), (wr c off xs).length = c.length
  | [], _, _ => rfl
  | _ :: r, c, off => by simp [wr, wr_length r]

/-- Several cells, one behind the other. -/
theorem storeCells_sound {P : Program} {B : Nat} {ι : Plan} {b : Nat} {L : Loc} (hL : ι b = some L) :
    ∀ (xs : List AV) (vs : List Value) (H : Heap) (w : World) (c : List AV) (base off i : Nat), Rel B ι H w → H.get b = .cells c .own → VRs ι xs vs → xs.all AV.one = true →
      base + i + xs.length ≤ c.length → off = base + i →
      ∃ w', (storeCells ⟨L.blk, L.base + base, none⟩ vs i).run P w = .ok () w' ∧ Rel B ι (H.set b (.cells (wr c off xs) .own)) w' ∧ Below B w w'
  | [], vs, H, w, c, base, off, i, hR, hg, hv, _, _, _ => by
    have : vs = [] := hv
    subst this
    refine ⟨w, rfl, hR.congr (fun b' => ?_) rfl, Below.refl _ _⟩
    rw [Heap.get_set _ _ _ _ (hR.dom b L hL).1]
    by_cases e : b' = b
    · subst e; rw [if_pos rfl, hg]; rfl
    · rw [if_neg e]
  | x :: xs, vs, H, w, c, base, off, i, hR, hg, ⟨v, vs', e, hr, hrs⟩, hone, hlen, hoff => by
    subst e
    simp only [List.all_cons, Bool.and_eq_true] at hone
    simp only [List.length_cons] at hlen
    have hofl : off < c.length := by omega
    obtain ⟨h1, h2, h3⟩ := hR.own b c L hg hL
    obtain ⟨⟨u, hu⟩, hfz⟩ := h3 off (by omega)
    obtain ⟨hR', hB'⟩ := hR.set_cell hg hL hofl hr
    have hadd : (⟨L.blk, L.base + base, none⟩ : Addr).add i = ⟨L.blk, L.base + off, none⟩ := by
      unfold Addr.add
      split
      · simp; omega
      · simp; omega
    have hbs : b < H.size := (hR.dom b L hL).1
    have hg' : (H.set b (.cells (c.set off x) .own)).get b = .cells (c.set off x) .own := by rw [Heap.get_set _ _ _ _ hbs, if_pos rfl]
    obtain ⟨w', hrun, hR'', hB''⟩ := storeCells_sound hL xs vs' _ _ (c.set off x) base (off + 1) (i + 1) hR' hg' hrs hone.2 (by simp; omega) (by omega)
    refine ⟨w', ?_, hR''.congr (fun b' => ?_) rfl, hB'.trans hB''⟩
    · simp only [storeCells, hadd, Sem.run_bind, run_store P w _ v _ (hr.one hone.1), hu, hfz, Bool.false_eq_true, if_false, Result.andThen_ok]
      exact hrun
    · rw [Heap.get_set _ _ _ _ hbs, Heap.get_set _ _ _ _ (by rw [Heap.size_set]; exact hbs), Heap.get_set _ _ _ _ hbs]
      by_cases e : b' = b
      · rw [if_pos e, if_pos e]; rfl
      · rw [if_neg e, if_neg e, if_neg e]

/-- Several cells more. -/
theorem storeMore_sound {P : Program} {B : Nat} {ι : Plan} {b : Nat} {L : Loc} (hL : ι b = some L) {u0 : Use} (hu0 : u0 ≠ .ro) :
    ∀ (xs : List AV) (vs : List Value) (H : Heap) (w : World) (c : List AV) (base i : Nat), Rel B ι H w → H.get b = .cells c u0 → VRs ι xs vs → xs.all AV.one = true →
      base + i = c.length → c.length + xs.length ≤ L.ext →
      ∃ w', (storeCells ⟨L.blk, L.base + base, none⟩ vs i).run P w = .ok () w' ∧ Rel B ι (H.set b (.cells (c ++ xs) u0)) w' ∧ Below B w w'
  | [], vs, H, w, c, base, i, hR, hg, hv, _, _, _ => by
    have : vs = [] := hv
    subst this
    refine ⟨w, rfl, hR.congr (fun b' => ?_) rfl, Below.refl _ _⟩
    rw [Heap.get_set _ _ _ _ (hR.dom b L hL).1]
    by_cases e : b' = b
    · subst e; rw [if_pos rfl, hg, List.append_nil]
    · rw [if_neg e]
  | x :: xs, vs, H, w, c, base, i, hR, hg, ⟨v, vs', e, hr, hrs⟩, hone, hoff, hlen => by
    subst e
    simp only [List.all_cons, Bool.and_eq_true] at hone
    simp only [List.length_cons] at hlen
    obtain ⟨h1, h2, h3⟩ := hR.ownu b c L hg hu0 hL
    obtain ⟨⟨u, hu⟩, hfz⟩ := h3 c.length (by omega)
    obtain ⟨hR', hB'⟩ := hR.snoc_cell hu0 hg hL (by omega) hr
    have hadd : (⟨L.blk, L.base + base, none⟩ : Addr).add i = ⟨L.blk, L.base + c.length, none⟩ := by
      unfold Addr.add
      split
      · simp; omega
      · simp; omega
    have hbs : b < H.size := (hR.dom b L hL).1
    have hg' : (H.set b (.cells (c ++ [x]) u0)).get b = .cells (c ++ [x]) u0 := by rw [Heap.get_set _ _ _ _ hbs, if_pos rfl]
    obtain ⟨w', hrun, hR'', hB''⟩ := storeMore_sound hL hu0 xs vs' _ _ (c ++ [x]) base (i + 1) hR' hg' hrs hone.2 (by simp; omega) (by simp; omega)
    refine ⟨w', ?_, hR''.congr (fun b' => ?_) rfl, hB'.trans hB''⟩
    · simp only [storeCells, hadd, Sem.run_bind, run_store P w _ v _ (hr.one hone.1), hu, hfz, Bool.false_eq_true, if_false, Result.andThen_ok]
      exact hrun
    · rw [Heap.get_set _ _ _ _ hbs, Heap.get_set _ _ _ _ (by rw [Heap.size_set]; exact hbs), Heap.get_set _ _ _ _ hbs]
      by_cases e : b' = b
      · rw [if_pos e, if_pos e, List.append_assoc]; rfl
      · rw [if_neg e, if_neg e, if_neg e]

/-- Several cells are read. -/
theorem loadCells_sound2 {P : Program} {B : Nat} {ι : Plan} {b : Nat} {L : Loc} {H : Heap} {w : World} {c : List AV} {u : Use} (hL : ι b = some L) (hR : Rel B ι H w) (hg : H.get b = .cells c u)
    (off n : Nat) (hn : off + n ≤ c.length) : ∃ vs, ((loadCells ⟨L.blk, L.base + off, none⟩ n).run P w = .ok vs w ∧ (loadCells ⟨L.blk, L.base + off, none⟩ n).run P w.drew = .ok vs w.drew) ∧ VRs ι (rd c off n) vs.toList := by
  obtain ⟨L', hL', hx⟩ := hR.live b c u hg
  rw [hL] at hL'; injection hL' with hL'; subst hL'
  have hf : ∀ j, j < n → ∃ v, w.cell? ⟨L.blk, L.base + (off + j), none⟩ = some v ∧ ∀ x, c[off + j]? = some x → VR ι x v := by
    intro j hj
    have hlt : off + j < c.length := by omega
    obtain ⟨v, hv, hr⟩ := hx (off + j) c[off + j] (List.getElem?_eq_getElem hlt)
    exact ⟨v, hv, fun x hx' => by rw [List.getElem?_eq_getElem hlt] at hx'; injection hx' with hx'; subst hx'; exact hr⟩
  let g : Nat → Value := fun j => (w.cell? ⟨L.blk, L.base + (off + j), none⟩).getD undef
  have hadd : ∀ j, (⟨L.blk, L.base + off, none⟩ : Addr).add j = ⟨L.blk, L.base + (off + j), none⟩ := by
    intro j; unfold Addr.add; split
    · simp; omega
    · simp; omega
  have hrun := run_loadCells (P := P) w ⟨L.blk, L.base + off, none⟩ n g (fun j hj => by
    rw [hadd]; obtain ⟨v, hv, _⟩ := hf j hj; simp [g, hv])
  have hrun2 := run_loadCells (P := P) w.drew ⟨L.blk, L.base + off, none⟩ n g (fun j hj => by
    rw [hadd, World.cell?_drew]; obtain ⟨v, hv, _⟩ := hf j hj; simp [g, hv])
  refine ⟨_, ⟨hrun, hrun2⟩, VRs.intro (by simp [rd]; omega) fun i x hi => ?_⟩
  simp only [rd] at hi
  rw [List.getElem?_take] at hi
  split at hi
  · rename_i hin
    rw [List.getElem?_drop] at hi
    obtain ⟨v, hv, hr⟩ := hf i hin
    exact ⟨g i, by simp [hin], by simp [g, hv]; exact hr x hi⟩
  · cases hi
theorem loadCells_sound {P : Program} {B : Nat} {ι : Plan} {b : Nat} {L : Loc} {H : Heap} {w : World} {c : List AV} {u : Use} (hL : ι b = some L) (hR : Rel B ι H w) (hg : H.get b = .cells c u)
    (off n : Nat) (hn : off + n ≤ c.length) : ∃ vs, (loadCells ⟨L.blk, L.base + off, none⟩ n).run P w = .ok vs w ∧ VRs ι (rd c off n) vs.toList :=
  let ⟨vs, h, r⟩ := loadCells_sound2 (P := P) hL hR hg off n hn
  ⟨vs, h.1, r⟩
end Go.Ev
