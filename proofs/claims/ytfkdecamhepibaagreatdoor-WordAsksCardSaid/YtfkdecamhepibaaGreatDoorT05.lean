/- Several texts of this claim, joined. -/
import Derived.Test.YtfkdecamhepibaaGreatDoorT02
import Derived.OneCell
import Derived.Laws.StructEq
set_option linter.unusedSimpArgs false
set_option linter.unusedVariables false

/- How the abstract memory lies in a world of the model, and what each change of it comes to there. -/
namespace Go.Ev
open Go Go.RowKit
def Owned (H : Heap) (b : Nat) : Prop := (∃ c, H.get b = .cells c .own) ∨ (∃ s p, H.get b = .siter s p) ∨ (∃ es, H.get b = .map es)
structure Rel (B : Nat) (ι : Plan) (H : Heap) (w : World) : Prop where
  dom : ∀ b L, ι b = some L → b < H.size ∧ L.blk < w.heap.size
  live : ∀ b c u, H.get b = .cells c u → ∃ L, ι b = some L ∧ ∀ (i : Nat) (x : AV), c[i]? = some x → ∃ v, w.cell? ⟨L.blk, L.base + i, none⟩ = some v ∧ VR ι x v
  own : ∀ b c L, H.get b = .cells c .own → ι b = some L → B ≤ L.blk ∧ c.length ≤ L.ext ∧ ∀ i, i < L.ext → (∃ v, w.cell? ⟨L.blk, L.base + i, none⟩ = some v) ∧ w.frozen? ⟨L.blk, L.base + i, none⟩ = false
  iter : ∀ b s p, H.get b = .siter s p → ∃ L, ι b = some L ∧ B ≤ L.blk ∧ L.base = 0 ∧ w.heap[L.blk]? = some (.stringIter ⟨s.toArray⟩ p)
  nomap : ∀ b es, H.get b ≠ .map es
  inj : ∀ b b' L L', b ≠ b' → Owned H b → H.get b' ≠ .dead → ι b = some L → ι b' = some L' → L.blk ≠ L'.blk
  size : B ≤ w.heap.size
/-- What a step gives: a greater plan, the relation, nothing below `B` has turned. -/
def Good (B : Nat) (ι : Plan) (w : World) (H' : Heap) (w' : World) (F : Plan → Prop) : Prop :=
  ∃ ι' : Plan, ι.le ι' ∧ Rel B ι' H' w' ∧ Below B w w' ∧ F ι'
theorem cell_blk {w w' : World} {k : Nat} (h : w'.heap[k]? = w.heap[k]?) (i : Nat) : w'.cell? ⟨k, i, none⟩ = w.cell? ⟨k, i, none⟩ := by
  simp only [World.cell?, h]
theorem frozen_blk {w w' : World} {k : Nat} (h : w'.heap[k]? = w.heap[k]?) (i : Nat) : w'.frozen? ⟨k, i, none⟩ = w.frozen? ⟨k, i, none⟩ := by
  simp only [World.frozen?, h]
theorem Rel.none_new {B : Nat} {ι : Plan} {H : Heap} {w : World} (h : Rel B ι H w) {b : Nat} (hb : H.size ≤ b) : ι b = none := by
  cases hι : ι b with
  | none => rfl
  | some L => have := (h.dom b L hι).1; omega
theorem Rel.plan_of_live {B : Nat} {ι : Plan} {H : Heap} {w : World} (h : Rel B ι H w) {b : Nat} (hb : H.get b ≠ .dead) : ∃ L, ι b = some L := by
  cases hg : H.get b with
  | dead => exact absurd hg hb
  | cells c u => obtain ⟨L, hL, _⟩ := h.live b c u hg; exact ⟨L, hL⟩
  | map es => exact absurd hg (h.nomap b es)
  | siter s p => obtain ⟨L, hL, _⟩ := h.iter b s p hg; exact ⟨L, hL⟩
theorem Rel.congr {B : Nat} {ι : Plan} {H H' : Heap} {w : World} (h : Rel B ι H w) (hg : ∀ b, H'.get b = H.get b) (hs : H'.size = H.size) : Rel B ι H' w where
  dom := fun b L e => by rw [hs]; exact h.dom b L e
  live := fun b c u e => h.live b c u (by rw [← hg]; exact e)
  own := fun b c L e => h.own b c L (by rw [← hg]; exact e)
  iter := fun b s p e => h.iter b s p (by rw [← hg]; exact e)
  nomap := fun b es => by rw [hg]; exact h.nomap b es
  inj := fun b b' L L' hne ho hd => h.inj b b' L L' hne (by unfold Owned at *; simpa only [hg] using ho) (by rw [← hg]; exact hd)
  size := h.size
/-- The same blocks, another world: where all blocks of the plan are as they were. -/
theorem Rel.world {B : Nat} {ι : Plan} {H : Heap} {w w' : World} (h : Rel B ι H w) (hs : w.heap.size ≤ w'.heap.size) (hb : ∀ k, k < w.heap.size → w'.heap[k]? = w.heap[k]?) : Rel B ι H w' where
  dom := fun b L e => ⟨(h.dom b L e).1, Nat.lt_of_lt_of_le (h.dom b L e).2 hs⟩
  live := fun b c u e => by
    obtain ⟨L, hL, hc⟩ := h.live b c u e
    refine ⟨L, hL, fun i x hx => ?_⟩
    obtain ⟨v, hv, hr⟩ := hc i x hx
    exact ⟨v, by rw [cell_blk (hb _ (h.dom b L hL).2)]; exact hv, hr⟩
  own := fun b c L e hL => by
    obtain ⟨h1, h2, h3⟩ := h.own b c L e hL
    refine ⟨h1, h2, fun i hi => ?_⟩
    rw [cell_blk (hb _ (h.dom b L hL).2), frozen_blk (hb _ (h.dom b L hL).2)]
    exact h3 i hi
  iter := fun b s p e => by
    obtain ⟨L, hL, h1, h2, h3⟩ := h.iter b s p e
    exact ⟨L, hL, h1, h2, by rw [hb _ (h.dom b L hL).2]; exact h3⟩
  nomap := h.nomap
  inj := h.inj
  size := Nat.le_trans h.size hs
def Plan.add (ι : Plan) (b : Nat) (L : Loc) : Plan := fun c => if c = b then some L else ι c
theorem Plan.add_self (ι : Plan) (b : Nat) (L : Loc) : (ι.add b L) b = some L := by simp [Plan.add]
theorem Plan.add_le {ι : Plan} {b : Nat} (L : Loc) (h : ι b = none) : ι.le (ι.add b L) := by
  intro c M hc
  by_cases e : c = b
  · subst e; rw [h] at hc; cases hc
  · simp [Plan.add, e, hc]
/-- A new block of cells. -/
theorem Rel.push_cells {B : Nat} {ι : Plan} {H : Heap} {w w' : World} (h : Rel B ι H w) (c : List AV) (ext : Nat)
    (hs : w'.heap.size = w.heap.size + 1) (hb : ∀ k, k < w.heap.size → w'.heap[k]? = w.heap[k]?)
    (hc : ∀ (i : Nat) (x : AV), c[i]? = some x → ∃ v, w'.cell? ⟨w.heap.size, i, none⟩ = some v ∧ VR ι x v)
    (he : c.length ≤ ext ∧ ∀ i, i < ext → (∃ v, w'.cell? ⟨w.heap.size, i, none⟩ = some v) ∧ w'.frozen? ⟨w.heap.size, i, none⟩ = false) :
    ι.le (ι.add H.size ⟨w.heap.size, 0, ext⟩) ∧ Rel B (ι.add H.size ⟨w.heap.size, 0, ext⟩) (H.push (.cells c .own)) w' := by
  have hle : ι.le (ι.add H.size ⟨w.heap.size, 0, ext⟩) := Plan.add_le _ (h.none_new (Nat.le_refl _))
  have h0 := h.world (w' := w') (by omega) hb
  refine ⟨hle, ?_⟩
  have hadd : ∀ b L, (ι.add H.size ⟨w.heap.size, 0, ext⟩) b = some L → (b = H.size ∧ L = ⟨w.heap.size, 0, ext⟩) ∨ (b ≠ H.size ∧ ι b = some L) := by
    intro b L e
    by_cases hbs : b = H.size
    · subst hbs; rw [Plan.add_self] at e; exact .inl ⟨rfl, by injection e with e; exact e.symm⟩
    · refine .inr ⟨hbs, ?_⟩; simpa [Plan.add, hbs] using e
  constructor
  · intro b L e
    rcases hadd b L e with ⟨rfl, rfl⟩ | ⟨hne, e'⟩
    · exact ⟨by rw [Heap.size_push]; omega, by simp only [hs]; omega⟩
    · have := h.dom b L e'; exact ⟨by rw [Heap.size_push]; omega, by omega⟩
  · intro b c' u e
    rw [Heap.get_push] at e
    by_cases hbs : b = H.size
    · subst hbs
      rw [if_pos rfl] at e; injection e with e1 e2; subst e1
      refine ⟨_, Plan.add_self _ _ _, fun i x hx => ?_⟩
      obtain ⟨v, hv, hr⟩ := hc i x hx
      exact ⟨v, by simpa using hv, VR.mono hle _ _ hr⟩
    · rw [if_neg hbs] at e
      obtain ⟨L, hL, hx⟩ := h0.live b c' u e
      exact ⟨L, hle _ _ hL, fun i x hi => let ⟨v, hv, hr⟩ := hx i x hi; ⟨v, hv, VR.mono hle _ _ hr⟩⟩
  · intro b c' L e hL
    rw [Heap.get_push] at e
    rcases hadd b L hL with ⟨rfl, rfl⟩ | ⟨hne, e'⟩
    · rw [if_pos rfl] at e; injection e with e1 e2; subst e1
      refine ⟨h.size, he.1, fun i hi => ?_⟩
      simpa using he.2 i hi
    · rw [if_neg hne] at e
      exact h0.own b c' L e e'
  · intro b s p e
    rw [Heap.get_push] at e
    by_cases hbs : b = H.size
    · subst hbs; rw [if_pos rfl] at e; cases e
    · rw [if_neg hbs] at e
      obtain ⟨L, hL, r⟩ := h0.iter b s p e
      exact ⟨L, hle _ _ hL, r⟩
  · intro b es
    rw [Heap.get_push]
    by_cases hbs : b = H.size
    · rw [if_pos hbs]; intro e; cases e
    · rw [if_neg hbs]; exact h.nomap b es
  · intro b b' L L' hne ho hd e e'
    rcases hadd b L e with ⟨rfl, rfl⟩ | ⟨hb1, e1⟩
    · rcases hadd b' L' e' with ⟨rfl, rfl⟩ | ⟨hb2, e2⟩
      · exact absurd rfl hne
      · have := (h.dom b' L' e2).2; simp only; omega
    · rcases hadd b' L' e' with ⟨rfl, rfl⟩ | ⟨hb2, e2⟩
      · have := (h.dom b L e1).2; simp only; omega
      · refine h.inj b b' L L' hne ?_ ?_ e1 e2
        · unfold Owned at *; simpa only [Heap.get_push, if_neg hb1] using ho
        · simpa only [Heap.get_push, if_neg hb2] using hd
  · have := h.size; omega
/-- One cell of a block of its own is written: a cell that it has, or one behind them that it may use. -/
theorem Rel.put_cell {B : Nat} {ι : Plan} {H : Heap} {w : World} (h : Rel B ι H w) {b off : Nat} {c c2 : List AV} {L : Loc} {x : AV} {v : Value}
    (hg : H.get b = .cells c .own) (hL : ι b = some L) (hoff : off < L.ext) (hr : VR ι x v) (hlen : c2.length ≤ L.ext)
    (hsame : ∀ (i : Nat) (y : AV), c2[i]? = some y → i ≠ off → c[i]? = some y) (hnew : ∀ y, c2[off]? = some y → y = x) :
    Rel B ι (H.set b (.cells c2 .own)) (w.setCell ⟨L.blk, L.base + off, none⟩ v) ∧ Below B w (w.setCell ⟨L.blk, L.base + off, none⟩ v) := by
  obtain ⟨o1, o2, o3⟩ := h.own b c L hg hL
  obtain ⟨⟨u, hu⟩, hfz⟩ := o3 off hoff
  have hbs : b < H.size := (h.dom b L hL).1
  have hget : ∀ b', (H.set b (.cells c2 .own)).get b' = if b' = b then .cells c2 .own else H.get b' := fun b' => Heap.get_set _ _ _ _ hbs
  have hoth : ∀ k, k ≠ L.blk → (w.setCell ⟨L.blk, L.base + off, none⟩ v).heap[k]? = w.heap[k]? := fun k hk => Below.heap_setCell _ _ _ _ hk
  have hself : ∀ i, (w.setCell ⟨L.blk, L.base + off, none⟩ v).cell? ⟨L.blk, L.base + i, none⟩ = if i = off then some v else w.cell? ⟨L.blk, L.base + i, none⟩ := by
    intro i
    by_cases e : i = off
    · subst e; rw [if_pos rfl]; exact World.cell?_setCell_same w _ v hu
    · rw [if_neg e]; exact World.cell?_setCell_other w _ _ v (by simp; omega)
  have hown : Owned H b := .inl ⟨c, hg⟩
  refine ⟨?_, (Below.refl B w).setCell o1 v⟩
  have hblk : ∀ b' L', b' ≠ b → H.get b' ≠ .dead → ι b' = some L' → L'.blk ≠ L.blk := fun b' L' hne hd e => (h.inj b b' L L' (Ne.symm hne) hown hd hL e).symm
  constructor
  · intro b' L' e
    have := h.dom b' L' e
    exact ⟨this.1, by rw [World.size_setCell]; exact this.2⟩
  · intro b' c' u' e
    rw [hget] at e
    by_cases hb : b' = b
    · subst hb
      rw [if_pos rfl] at e; injection e with e1 e2; subst e1; subst e2
      obtain ⟨L', hL', hx⟩ := h.live b' c .own hg
      rw [hL] at hL'; injection hL' with hL'; subst hL'
      refine ⟨L, hL, fun i y hy => ?_⟩
      rw [hself]
      by_cases e : i = off
      · subst e; have := hnew y hy; subst this; exact ⟨v, by simp, hr⟩
      · rw [if_neg e]; exact hx i y (hsame i y hy e)
    · rw [if_neg hb] at e
      obtain ⟨L', hL', hx⟩ := h.live b' c' u' e
      refine ⟨L', hL', fun i y hy => ?_⟩
      rw [cell_blk (hoth _ (hblk b' L' hb (by rw [e]; simp) hL'))]
      exact hx i y hy
  · intro b' c' L' e hL'
    rw [hget] at e
    by_cases hb : b' = b
    · subst hb
      rw [if_pos rfl] at e; injection e with e1 e2; subst e1
      rw [hL] at hL'; injection hL' with hL'; subst hL'
      refine ⟨o1, hlen, fun i hi => ?_⟩
      rw [hself, World.frozen?_setCell]
      by_cases e : i = off
      · exact ⟨⟨v, by rw [if_pos e]⟩, (o3 i hi).2⟩
      · exact ⟨by rw [if_neg e]; exact (o3 i hi).1, (o3 i hi).2⟩
    · rw [if_neg hb] at e
      have hne := hblk b' L' hb (by rw [e]; simp) hL'
      obtain ⟨p1, p2, p3⟩ := h.own b' c' L' e hL'
      refine ⟨p1, p2, fun i hi => ?_⟩
      rw [cell_blk (hoth _ hne), frozen_blk (hoth _ hne)]
      exact p3 i hi
  · intro b' s p e
    rw [hget] at e
    by_cases hb : b' = b
    · rw [if_pos hb] at e; cases e
    · rw [if_neg hb] at e
      obtain ⟨L', hL', q1, q2, q3⟩ := h.iter b' s p e
      exact ⟨L', hL', q1, q2, by rw [hoth _ (hblk b' L' hb (by rw [e]; simp) hL')]; exact q3⟩
  · intro b' es
    rw [hget]
    by_cases hb : b' = b
    · rw [if_pos hb]; intro e; cases e
    · rw [if_neg hb]; exact h.nomap b' es
  · intro b1 b2 L1 L2 hne ho hd e1 e2
    refine h.inj b1 b2 L1 L2 hne ?_ ?_ e1 e2
    · unfold Owned at ho
      simp only [hget] at ho
      by_cases hb : b1 = b
      · subst hb; exact hown
      · unfold Owned; simpa only [if_neg hb] using ho
    · rw [hget] at hd
      by_cases hb : b2 = b
      · subst hb; rw [hg]; simp
      · simpa only [if_neg hb] using hd
  · rw [World.size_setCell]; exact h.size
theorem Rel.set_cell {B : Nat} {ι : Plan} {H : Heap} {w : World} (h : Rel B ι H w) {b off : Nat} {c : List AV} {L : Loc} {x : AV} {v : Value}
    (hg : H.get b = .cells c .own) (hL : ι b = some L) (hoff : off < c.length) (hr : VR ι x v) :
    Rel B ι (H.set b (.cells (c.set off x) .own)) (w.setCell ⟨L.blk, L.base + off, none⟩ v) ∧ Below B w (w.setCell ⟨L.blk, L.base + off, none⟩ v) := by
  obtain ⟨o1, o2, o3⟩ := h.own b c L hg hL
  refine h.put_cell hg hL (by omega) hr (by simpa using o2) (fun i y hy hne => ?_) (fun y hy => ?_)
  · rw [List.getElem?_set, if_neg (Ne.symm hne)] at hy; exact hy
  · rw [List.getElem?_set, if_pos rfl, if_pos hoff] at hy; injection hy with hy; exact hy.symm
/-- A cell more. -/
theorem Rel.snoc_cell {B : Nat} {ι : Plan} {H : Heap} {w : World} (h : Rel B ι H w) {b : Nat} {c : List AV} {L : Loc} {x : AV} {v : Value}
    (hg : H.get b = .cells c .own) (hL : ι b = some L) (hoff : c.length < L.ext) (hr : VR ι x v) :
    Rel B ι (H.set b (.cells (c ++ [x]) .own)) (w.setCell ⟨L.blk, L.base + c.length, none⟩ v) ∧ Below B w (w.setCell ⟨L.blk, L.base + c.length, none⟩ v) := by
  refine h.put_cell hg hL hoff hr (by simp; omega) (fun i y hy hne => ?_) (fun y hy => ?_)
  · rw [List.getElem?_append] at hy
    split at hy
    · exact hy
    · rename_i hi
      rw [List.getElem?_singleton] at hy
      split at hy
      · omega
      · cases hy
  · rw [List.getElem?_append, if_neg (by omega)] at hy
    simp at hy; exact hy.symm
/-- A block is given up. -/
theorem Rel.kill {B : Nat} {ι : Plan} {H : Heap} {w : World} (h : Rel B ι H w) {b : Nat} (hb : b < H.size) : Rel B ι (H.set b .dead) w := by
  have hget : ∀ b', (H.set b .dead).get b' = if b' = b then .dead else H.get b' := fun b' => Heap.get_set _ _ _ _ hb
  constructor
  · exact h.dom
  · intro b' c u e; rw [hget] at e; split at e
    · cases e
    · exact h.live b' c u e
  · intro b' c L e; rw [hget] at e; split at e
    · cases e
    · exact h.own b' c L e
  · intro b' s p e; rw [hget] at e; split at e
    · cases e
    · exact h.iter b' s p e
  · intro b' es; rw [hget]; split
    · intro e; cases e
    · exact h.nomap b' es
  · intro b1 b2 L1 L2 hne ho hd e1 e2
    refine h.inj b1 b2 L1 L2 hne ?_ ?_ e1 e2
    · unfold Owned at *
      simp only [hget] at ho
      by_cases hb1 : b1 = b
      · simp [hb1] at ho
      · simpa only [if_neg hb1] using ho
    · rw [hget] at hd
      by_cases hb2 : b2 = b
      · simp [hb2] at hd
      · simpa only [if_neg hb2] using hd
  · exact h.size
/-- A piece of a block of its own goes on as a block: the rest is given up. -/
theorem Rel.move {B : Nat} {ι : Plan} {H : Heap} {w : World} (h : Rel B ι H w) {b off n : Nat} {c : List AV} {L : Loc}
    (hg : H.get b = .cells c .own) (hL : ι b = some L) (hn : off + n ≤ c.length) :
    ι.le (ι.add H.size ⟨L.blk, L.base + off, L.ext - off⟩) ∧ Rel B (ι.add H.size ⟨L.blk, L.base + off, L.ext - off⟩) ((H.set b .dead).push (.cells (rd c off n) .own)) w := by
  obtain ⟨o1, o2, o3⟩ := h.own b c L hg hL
  have hbs : b < H.size := (h.dom b L hL).1
  have hle : ι.le (ι.add H.size ⟨L.blk, L.base + off, L.ext - off⟩) := Plan.add_le _ (h.none_new (Nat.le_refl _))
  refine ⟨hle, ?_⟩
  have hget : ∀ b', ((H.set b .dead).push (.cells (rd c off n) .own)).get b' = if b' = H.size then .cells (rd c off n) .own else if b' = b then .dead else H.get b' := fun b' => by
    rw [Heap.get_push, Heap.size_set, Heap.get_set _ _ _ _ hbs]
  have hadd : ∀ b' L', (ι.add H.size ⟨L.blk, L.base + off, L.ext - off⟩) b' = some L' → (b' = H.size ∧ L' = ⟨L.blk, L.base + off, L.ext - off⟩) ∨ (b' ≠ H.size ∧ ι b' = some L') := by
    intro b' L' e
    by_cases hb' : b' = H.size
    · subst hb'; rw [Plan.add_self] at e; exact .inl ⟨rfl, by injection e with e; exact e.symm⟩
    · refine .inr ⟨hb', ?_⟩; simpa [Plan.add, hb'] using e
  have hown : Owned H b := .inl ⟨c, hg⟩
  constructor
  · intro b' L' e
    rcases hadd b' L' e with ⟨rfl, rfl⟩ | ⟨hne, e'⟩
    · exact ⟨by rw [Heap.size_push, Heap.size_set]; omega, (h.dom b L hL).2⟩
    · have := h.dom b' L' e'; exact ⟨by rw [Heap.size_push, Heap.size_set]; omega, this.2⟩
  · intro b' c' u e
    rw [hget] at e
    by_cases hb' : b' = H.size
    · subst hb'
      rw [if_pos rfl] at e; injection e with e1 e2; subst e1
      refine ⟨_, Plan.add_self _ _ _, fun i x hx => ?_⟩
      obtain ⟨L', hL', hx'⟩ := h.live b c .own hg
      rw [hL] at hL'; injection hL' with hL'; subst hL'
      simp only [rd, List.getElem?_take] at hx
      split at hx
      · rw [List.getElem?_drop] at hx
        obtain ⟨v, hv, hr⟩ := hx' (off + i) x hx
        exact ⟨v, by simp only [Nat.add_assoc]; exact hv, VR.mono hle _ _ hr⟩
      · cases hx
    · rw [if_neg hb'] at e
      split at e
      · cases e
      · obtain ⟨L', hL', hx⟩ := h.live b' c' u e
        exact ⟨L', hle _ _ hL', fun i x hi => let ⟨v, hv, hr⟩ := hx i x hi; ⟨v, hv, VR.mono hle _ _ hr⟩⟩
  · intro b' c' L' e hL'
    rw [hget] at e
    rcases hadd b' L' hL' with ⟨rfl, rfl⟩ | ⟨hne, e'⟩
    · rw [if_pos rfl] at e; injection e with e1 e2; subst e1
      refine ⟨o1, by simp [rd]; omega, fun i hi => ?_⟩
      simp only at hi
      have := o3 (off + i) (by omega)
      simp only [Nat.add_assoc]; exact this
    · rw [if_neg hne] at e
      split at e
      · cases e
      · exact h.own b' c' L' e e'
  · intro b' s p e
    rw [hget] at e
    split at e
    · cases e
    · split at e
      · cases e
      · obtain ⟨L', hL', r⟩ := h.iter b' s p e
        exact ⟨L', hle _ _ hL', r⟩
  · intro b' es
    rw [hget]
    split
    · intro e; cases e
    · split
      · intro e; cases e
      · exact h.nomap b' es
  · intro b1 b2 L1 L2 hne ho hd e1 e2
    have live2 : ∀ b', b' ≠ H.size → ((H.set b .dead).push (.cells (rd c off n) .own)).get b' ≠ .dead → b' ≠ b ∧ H.get b' ≠ .dead := by
      intro b' hb' hd'
      rw [hget, if_neg hb'] at hd'
      by_cases e : b' = b
      · rw [if_pos e] at hd'; exact absurd rfl hd'
      · rw [if_neg e] at hd'; exact ⟨e, hd'⟩
    have own2 : ∀ b', b' ≠ H.size → Owned ((H.set b .dead).push (.cells (rd c off n) .own)) b' → b' ≠ b ∧ Owned H b' := by
      intro b' hb' ho'
      unfold Owned at ho'
      simp only [hget, if_neg hb'] at ho'
      by_cases e : b' = b
      · simp [e] at ho'
      · simp only [if_neg e] at ho'; exact ⟨e, ho'⟩
    rcases hadd b1 L1 e1 with ⟨rfl, rfl⟩ | ⟨hb1, e1'⟩
    · rcases hadd b2 L2 e2 with ⟨rfl, rfl⟩ | ⟨hb2, e2'⟩
      · exact absurd rfl hne
      · obtain ⟨q1, q2⟩ := live2 b2 hb2 hd
        exact h.inj b b2 L L2 (Ne.symm q1) hown q2 hL e2'
    · obtain ⟨q1, q2⟩ := own2 b1 hb1 ho
      rcases hadd b2 L2 e2 with ⟨rfl, rfl⟩ | ⟨hb2, e2'⟩
      · exact h.inj b1 b L1 L q1 q2 (by rw [hg]; simp) e1' hL
      · obtain ⟨r1, r2⟩ := live2 b2 hb2 hd
        exact h.inj b1 b2 L1 L2 hne q2 r2 e1' e2'
  · exact h.size
theorem wr_length : ∀ (xs c : List AV) (off : Nat), (wr c off xs).length = c.length
  | [], _, _ => rfl
  | _ :: r, c, off => by simp [wr, wr_length r]
/-- Several cells, one behind the other. -/
theorem storeCells_sound {P : Program} {B : Nat} {ι : Plan} {b : Nat} {L : Loc} (hL : ι b = some L) :
    ∀ (xs : List AV) (vs : List Value) (H : Heap) (w : World) (c : List AV) (base off i : Nat), Rel B ι H w → H.get b = .cells c .own → VRs ι xs vs → xs.all AV.one = true →
      base + i + xs.length ≤ c.length → off = base + i →
      ∃ w', (storeCells ⟨L.blk, L.base + base, none⟩ vs i).run P w = .ok () w' ∧ Rel B ι (H.set b (.cells (wr c off xs) .own)) w' ∧ Below B w w'
  | [], vs, H, w, c, base, off, i, hR, hg, hv, _, _, _ => by
    have : vs = [] := hv
    subst this
    refine ⟨w, rfl, hR.congr (fun b' => ?_) rfl, Below.refl _ _⟩
    rw [Heap.get_set _ _ _ _ (hR.dom b L hL).1]
    by_cases e : b' = b
    · subst e; rw [if_pos rfl, hg]; rfl
    · rw [if_neg e]
  | x :: xs, vs, H, w, c, base, off, i, hR, hg, ⟨v, vs', e, hr, hrs⟩, hone, hlen, hoff => by
    subst e
    simp only [List.all_cons, Bool.and_eq_true] at hone
    simp only [List.length_cons] at hlen
    have hofl : off < c.length := by omega
    obtain ⟨h1, h2, h3⟩ := hR.own b c L hg hL
    obtain ⟨⟨u, hu⟩, hfz⟩ := h3 off (by omega)
    obtain ⟨hR', hB'⟩ := hR.set_cell hg hL hofl hr
    have hadd : (⟨L.blk, L.base + base, none⟩ : Addr).add i = ⟨L.blk, L.base + off, none⟩ := by
      unfold Addr.add
      split
      · simp; omega
      · simp; omega
    have hbs : b < H.size := (hR.dom b L hL).1
    have hg' : (H.set b (.cells (c.set off x) .own)).get b = .cells (c.set off x) .own := by rw [Heap.get_set _ _ _ _ hbs, if_pos rfl]
    obtain ⟨w', hrun, hR'', hB''⟩ := storeCells_sound hL xs vs' _ _ (c.set off x) base (off + 1) (i + 1) hR' hg' hrs hone.2 (by simp; omega) (by omega)
    refine ⟨w', ?_, hR''.congr (fun b' => ?_) rfl, hB'.trans hB''⟩
    · simp only [storeCells, hadd, Sem.run_bind, run_store P w _ v _ (hr.one hone.1), hu, hfz, Bool.false_eq_true, if_false, Result.andThen_ok]
      exact hrun
    · rw [Heap.get_set _ _ _ _ hbs, Heap.get_set _ _ _ _ (by rw [Heap.size_set]; exact hbs), Heap.get_set _ _ _ _ hbs]
      by_cases e : b' = b
      · rw [if_pos e, if_pos e]; rfl
      · rw [if_neg e, if_neg e, if_neg e]
/-- Several cells more. -/
theorem storeMore_sound {P : Program} {B : Nat} {ι : Plan} {b : Nat} {L : Loc} (hL : ι b = some L) :
    ∀ (xs : List AV) (vs : List Value) (H : Heap) (w : World) (c : List AV) (base i : Nat), Rel B ι H w → H.get b = .cells c .own → VRs ι xs vs → xs.all AV.one = true →
      base + i = c.length → c.length + xs.length ≤ L.ext →
      ∃ w', (storeCells ⟨L.blk, L.base + base, none⟩ vs i).run P w = .ok () w' ∧ Rel B ι (H.set b (.cells (c ++ xs) .own)) w' ∧ Below B w w'
  | [], vs, H, w, c, base, i, hR, hg, hv, _, _, _ => by
    have : vs = [] := hv
    subst this
    refine ⟨w, rfl, hR.congr (fun b' => ?_) rfl, Below.refl _ _⟩
    rw [Heap.get_set _ _ _ _ (hR.dom b L hL).1]
    by_cases e : b' = b
    · subst e; rw [if_pos rfl, hg, List.append_nil]
    · rw [if_neg e]
  | x :: xs, vs, H, w, c, base, i, hR, hg, ⟨v, vs', e, hr, hrs⟩, hone, hoff, hlen => by
    subst e
    simp only [List.all_cons, Bool.and_eq_true] at hone
    simp only [List.length_cons] at hlen
    obtain ⟨h1, h2, h3⟩ := hR.own b c L hg hL
    obtain ⟨⟨u, hu⟩, hfz⟩ := h3 c.length (by omega)
    obtain ⟨hR', hB'⟩ := hR.snoc_cell hg hL (by omega) hr
    have hadd : (⟨L.blk, L.base + base, none⟩ : Addr).add i = ⟨L.blk, L.base + c.length, none⟩ := by
      unfold Addr.add
      split
      · simp; omega
      · simp; omega
    have hbs : b < H.size := (hR.dom b L hL).1
    have hg' : (H.set b (.cells (c ++ [x]) .own)).get b = .cells (c ++ [x]) .own := by rw [Heap.get_set _ _ _ _ hbs, if_pos rfl]
    obtain ⟨w', hrun, hR'', hB''⟩ := storeMore_sound hL xs vs' _ _ (c ++ [x]) base (i + 1) hR' hg' hrs hone.2 (by simp; omega) (by simp; omega)
    refine ⟨w', ?_, hR''.congr (fun b' => ?_) rfl, hB'.trans hB''⟩
    · simp only [storeCells, hadd, Sem.run_bind, run_store P w _ v _ (hr.one hone.1), hu, hfz, Bool.false_eq_true, if_false, Result.andThen_ok]
      exact hrun
    · rw [Heap.get_set _ _ _ _ hbs, Heap.get_set _ _ _ _ (by rw [Heap.size_set]; exact hbs), Heap.get_set _ _ _ _ hbs]
      by_cases e : b' = b
      · rw [if_pos e, if_pos e, List.append_assoc]; rfl
      · rw [if_neg e, if_neg e, if_neg e]
/-- Several cells are read. -/
theorem loadCells_sound2 {P : Program} {B : Nat} {ι : Plan} {b : Nat} {L : Loc} {H : Heap} {w : World} {c : List AV} {u : Use} (hL : ι b = some L) (hR : Rel B ι H w) (hg : H.get b = .cells c u)
    (off n : Nat) (hn : off + n ≤ c.length) : ∃ vs, ((loadCells ⟨L.blk, L.base + off, none⟩ n).run P w = .ok vs w ∧ (loadCells ⟨L.blk, L.base + off, none⟩ n).run P w.drew = .ok vs w.drew) ∧ VRs ι (rd c off n) vs.toList := by
  obtain ⟨L', hL', hx⟩ := hR.live b c u hg
  rw [hL] at hL'; injection hL' with hL'; subst hL'
  have hf : ∀ j, j < n → ∃ v, w.cell? ⟨L.blk, L.base + (off + j), none⟩ = some v ∧ ∀ x, c[off + j]? = some x → VR ι x v := by
    intro j hj
    have hlt : off + j < c.length := by omega
    obtain ⟨v, hv, hr⟩ := hx (off + j) c[off + j] (List.getElem?_eq_getElem hlt)
    exact ⟨v, hv, fun x hx' => by rw [List.getElem?_eq_getElem hlt] at hx'; injection hx' with hx'; subst hx'; exact hr⟩
  let g : Nat → Value := fun j => (w.cell? ⟨L.blk, L.base + (off + j), none⟩).getD undef
  have hadd : ∀ j, (⟨L.blk, L.base + off, none⟩ : Addr).add j = ⟨L.blk, L.base + (off + j), none⟩ := by
    intro j; unfold Addr.add; split
    · simp; omega
    · simp; omega
  have hrun := run_loadCells (P := P) w ⟨L.blk, L.base + off, none⟩ n g (fun j hj => by
    rw [hadd]; obtain ⟨v, hv, _⟩ := hf j hj; simp [g, hv])
  have hrun2 := run_loadCells (P := P) w.drew ⟨L.blk, L.base + off, none⟩ n g (fun j hj => by
    rw [hadd, World.cell?_drew]; obtain ⟨v, hv, _⟩ := hf j hj; simp [g, hv])
  refine ⟨_, ⟨hrun, hrun2⟩, VRs.intro (by simp [rd]; omega) fun i x hi => ?_⟩
  simp only [rd] at hi
  rw [List.getElem?_take] at hi
  split at hi
  · rename_i hin
    rw [List.getElem?_drop] at hi
    obtain ⟨v, hv, hr⟩ := hf i hin
    exact ⟨g i, by simp [hin], by simp [g, hv]; exact hr x hi⟩
  · cases hi
theorem loadCells_sound {P : Program} {B : Nat} {ι : Plan} {b : Nat} {L : Loc} {H : Heap} {w : World} {c : List AV} {u : Use} (hL : ι b = some L) (hR : Rel B ι H w) (hg : H.get b = .cells c u)
    (off n : Nat) (hn : off + n ≤ c.length) : ∃ vs, (loadCells ⟨L.blk, L.base + off, none⟩ n).run P w = .ok vs w ∧ VRs ι (rd c off n) vs.toList :=
  let ⟨vs, h, r⟩ := loadCells_sound2 (P := P) hL hR hg off n hn
  ⟨vs, h.1, r⟩
end Go.Ev
/- The checker: an operation of the abstract machine is the model's; and the soundness of each simple operation. -/
namespace Go.Ev
open Go Go.RowKit
mutual
/-- A constant without addresses. -/
def constV : AV → Value → Bool
  | .int k n, .int k' n' => decide (k = k') && decide (n = n')
  | .bool b, .bool b' => b == b'
  | .str s, .string t => s == t.data.toList
  | .nilp, .pointer none => true
  | .nils, .slice none 0 0 => true
  | .nilm, .map none => true
  | .nilf, .nilFunc => true
  | .nili, .nilIface => true
  | .fn f [], .func (.func f') first cap => f == f' && first.isEmpty && cap.isEmpty
  | .iface t x, .iface t' y => t == t' && constV x y
  | .agg l, .agg vs => constVs l vs.toList
  | .tup l, .tuple vs => constVs l vs.toList
  | _, _ => false
def constVs : List AV → List Value → Bool
  | [], [] => true
  | x :: l, v :: vs => constV x v && constVs l vs
  | _, _ => false
end
theorem empty_of_isEmpty {α : Type} {a : Array α} (h : a.isEmpty = true) : a = #[] := by simpa using h
mutual
theorem constV_sound (ι : Plan) : ∀ (x : AV) (v : Value), constV x v = true → VR ι x v
  | .int k n, v, h => by
    cases v <;> simp [constV] at h
    obtain ⟨rfl, rfl⟩ := h; rfl
  | .bool b, v, h => by
    cases v <;> simp [constV] at h
    subst h; rfl
  | .str s, v, h => by
    cases v with
    | string t => simp [constV] at h; subst h; rfl
    | _ => simp [constV] at h
  | .ptr _ _, v, h => by cases v <;> simp [constV] at h
  | .nilp, v, h => by
    cases v with
    | pointer a => cases a with
      | none => rfl
      | some _ => simp [constV] at h
    | _ => simp [constV] at h
  | .slice _ _ _ _, v, h => by cases v <;> simp [constV] at h
  | .osl _ _ _ _, v, h => by cases v <;> simp [constV] at h
  | .nils, v, h => by
    cases v with
    | slice a n c =>
      cases a with
      | none =>
        cases n with
        | zero => cases c with
          | zero => rfl
          | succ _ => simp [constV] at h
        | succ _ => simp [constV] at h
      | some _ => simp [constV] at h
    | _ => simp [constV] at h
  | .map _, v, h => by cases v <;> simp [constV] at h
  | .nilm, v, h => by
    cases v with
    | map a => cases a with
      | none => rfl
      | some _ => simp [constV] at h
    | _ => simp [constV] at h
  | .fn f cap, v, h => by
    cases cap with
    | nil =>
      cases v with
      | func fn first c =>
        cases fn with
        | func f' =>
          simp only [constV, Bool.and_eq_true, beq_iff_eq] at h
          obtain ⟨⟨rfl, h1⟩, h2⟩ := h
          rw [empty_of_isEmpty h1, empty_of_isEmpty h2]
          exact ⟨#[], rfl, rfl⟩
        | _ => simp [constV] at h
      | _ => simp [constV] at h
    | cons _ _ => cases v <;> simp [constV] at h
  | .nilf, v, h => by
    cases v with
    | nilFunc => rfl
    | _ => simp [constV] at h
  | .iface t x, v, h => by
    cases v with
    | iface t' y =>
      simp only [constV, Bool.and_eq_true, beq_iff_eq] at h
      obtain ⟨rfl, h2⟩ := h
      exact ⟨y, rfl, constV_sound ι x y h2⟩
    | _ => simp [constV] at h
  | .nili, v, h => by
    cases v with
    | nilIface => rfl
    | _ => simp [constV] at h
  | .agg l, v, h => by
    cases v with
    | agg vs => exact ⟨vs, rfl, constVs_sound ι l _ (by simpa [constV] using h)⟩
    | _ => simp [constV] at h
  | .tup l, v, h => by
    cases v with
    | tuple vs => exact ⟨vs, rfl, constVs_sound ι l _ (by simpa [constV] using h)⟩
    | _ => simp [constV] at h
theorem constVs_sound (ι : Plan) : ∀ (l : List AV) (vs : List Value), constVs l vs = true → VRs ι l vs
  | [], vs, h => by
    cases vs with
    | nil => rfl
    | cons _ _ => simp [constVs] at h
  | x :: l, vs, h => by
    cases vs with
    | nil => simp [constVs] at h
    | cons v vs =>
      simp only [constVs, Bool.and_eq_true] at h
      exact ⟨v, vs, rfl, constV_sound ι x v h.1, constVs_sound ι l vs h.2⟩
end
/-- What a check goes by: the program, which slots persist, how many slots there are. -/
structure Cx where
  P : Program
  ps : List Nat
  n : Nat
def chkOpd (X : Cx) : Operand → Opd → Bool
  | .tmp i, .p j => i == j && X.ps.contains i
  | .tmp i, .t j => i == j && !X.ps.contains i
  | .const v, .c x => constV x v
  | .global g, .g h => g == h && decide (g < X.P.globals.size)
  | .func f, .f h => f == h
  | _, _ => false
def chkOpds (X : Cx) : List Operand → List Opd → Bool
  | [], [] => true
  | x :: l, y :: m => chkOpd X x y && chkOpds X l m
  | _, _ => false
def chkOpt (X : Cx) : Option Operand → Option Opd → Bool
  | none, none => true
  | some x, some y => chkOpd X x y
  | _, _ => false
def chkDst (X : Cx) : Option Tmp → Dst → Bool
  | none, .no => true
  | some i, .p j => i == j && X.ps.contains i && decide (i < X.n)
  | some i, .t j => i == j && !X.ps.contains i && decide (i < X.n)
  | _, _ => false
def tySize (P : Program) (t : TypeId) : Option Nat := (P.info? t).map (·.size)
def tyBytes (P : Program) (t : TypeId) : Option Nat := (P.info? t).map (·.bytes)
def tyZero (P : Program) (t : TypeId) : Option Value := (P.info? t).bind (·.zero)
def tyAgg (P : Program) (t : TypeId) : Option Bool :=
  match P.underlying t with
  | some (.struct _) => some true
  | some (.array _ _) => some true
  | some _ => some false
  | none => none
/-- The parts of a literal: where each goes, how many cells it has. -/
def chkParts (X : Cx) (place : Nat → Option (Nat × Nat)) : List (Nat × Operand) → List (Nat × Nat × Opd) → Bool
  | [], [] => true
  | (i, x) :: l, (off, sz, y) :: m => decide (place i = some (off, sz)) && chkOpd X x y && chkParts X place l m
  | _, _ => false
def fieldPlaces (P : Program) (fs : Array Field) : Option (List (Nat × Nat)) := fs.toList.mapM fun f => (tySize P f.type).map fun n => (f.offset, n)
def scalarTy (P : Program) (t : TypeId) : Option SK :=
  match P.underlying t with
  | some .bool => some .b
  | some (.int _) => some .i
  | some .string => some .s
  | _ => none
def eqOffs (P : Program) : List Field → Option (List (Nat × SK))
  | [] => some []
  | f :: r => match eqOffs P r with
    | none => none
    | some l => if f.name ≠ "_" then (match scalarTy P f.type with | some k => some ((f.offset, k) :: l) | none => none) else some l
def isElemInt (P : Program) (e : TypeId) (k : IntKind) : Bool :=
  match P.underlying e with
  | some (.int j) => decide (j = k)
  | _ => false
def eqOp : BinOp → Bool → Bool
  | .eql, neg => !neg
  | .neq, neg => neg
  | _, _ => false
def eqKOk (P : Program) (ty : TypeId) (k : EqK) : Bool :=
  match k, P.underlying ty with
  | .bool, some .bool => true
  | .ptr, some (.pointer _) => true
  | .slice, some (.slice _) => true
  | .map, some (.map _ _) => true
  | .func, some (.func _ _ _) => true
  | .iface, some (.interface _) => true
  | .agg l, some (.struct fs) => (!P.eqGuardType P.depth ty) && (!P.stoodInHeld ty) && decide (eqOffs P fs.toList = some l)
  | _, _ => false
def notIface (P : Program) (t : TypeId) : Bool :=
  match P.underlying t with
  | some (.interface _) => false
  | some _ => true
  | none => false
def okZero (P : Program) (t : TypeId) : Bool → Option AV → Bool
  | true, some z => (match tyZero P t with | some v => constV z v | none => false)
  | false, none => true
  | _, _ => false
def isIntTo (P : Program) (s d : TypeId) (k : IntKind) : Bool :=
  match P.underlying s, P.underlying d with
  | some _, some (.int k') => decide (k = k')
  | _, _ => false
def isIdxByte (P : Program) (f : FuncId) : Bool :=
  match P.funcs[f]? with
  | some fn => fn.body.isNone && (fn.name == "internal/bytealg.IndexByteString") && (fn.origin == "")
  | none => false
def isC : Operand → Bool
  | .const _ => true
  | _ => false
/-- Interfaces: one of the two is a constant. -/
def ifcK : EqK → Operand → Operand → Bool
  | .iface, x, y => isC x || isC y
  | _, _, _ => true
def chkOp (X : Cx) (op : Op) (c : COp) : Bool :=
  match op, c with
  | .move x, .mov y => chkOpd X x y
  | .assign x, .mov y => chkOpd X x y
  | .pick c a b, .pick c' a' b' => chkOpd X c c' && chkOpd X a a' && chkOpd X b b'
  | .alloc e, .alloc z => (match tyZero X.P e with | some v => constVs z v.cells.toList | none => false)
  | .box _ x, .box y => chkOpd X x y
  | .build t ps, .build z qs => (match tyZero X.P t with | some v => constVs z v.cells.toList | none => false) &&
    (match X.P.underlying t with
     | some (.struct fs) => (match fieldPlaces X.P fs with | some pl => chkParts X (pl[·]?) ps.toList qs | none => false)
     | some (.array _ e) => (match tySize X.P e with | some s => chkParts X (fun i => some (i * s, s)) ps.toList qs | none => false)
     | _ => false)
  | .buildSlice t len ps, .lit z n qs => len == n &&
    (match X.P.underlying t with
     | some (.slice e) => (match tySize X.P e, tyZero X.P e with
       | some s, some zv => decide (len * s ≤ 16777216) && constVs z ((List.range (len * s)).map fun i => zv.cells.getD (i % zv.cells.size) undef) && decide (0 < zv.cells.size) && chkParts X (fun i => some (i * s, s)) ps.toList qs
       | _, _ => false)
     | _ => false)
  | .load t x, .load1 y => (tyAgg X.P t == some false) && chkOpd X x y
  | .load t x, .loadN n y => (tyAgg X.P t == some true) && (tySize X.P t == some n) && chkOpd X x y
  | .store t a x, .store n b y => (tySize X.P t == some n) && chkOpd X a b && chkOpd X x y
  | .nilCheck x, .nilCheck y => chkOpd X x y
  | .binOp op _ x y _, .bin op' x' y' => decide (op = op') && chkOpd X x x' && chkOpd X y y'
  | .binOp op t x y _, .eqv neg k x' y' => eqOp op neg && chkOpd X x x' && chkOpd X y y' && eqKOk X.P t k && ifcK k x y
  | .unOp op _ x, .un op' y => decide (op = op') && chkOpd X x y
  | .convert s d x, .convI k y => isIntTo X.P s d k && chkOpd X x y
  | .convert s d x, .strStr y => (match X.P.underlying s, X.P.underlying d with | some _, some .string => true | _, _ => false) && chkOpd X x y
  | .convert s d x, .intStr y => (match X.P.underlying s, X.P.underlying d with | some _, some .string => true | _, _ => false) && chkOpd X x y
  | .convert s d x, .strBytes y => (match X.P.underlying s, X.P.underlying d with | some _, some (.slice e) => isElemInt X.P e .u8 | _, _ => false) && chkOpd X x y
  | .convert s d x, .bytesStr y => (match X.P.underlying s, X.P.underlying d with | some (.slice e), some .string => isElemInt X.P e .u8 | _, _ => false) && chkOpd X x y
  | .makeInterface t x, .mkIface t' y => t == t' && notIface X.P t && chkOpd X x y
  | .makeFunc (.func f) first caps, .mkFn f' caps' => f == f' && first.isEmpty && chkOpds X caps.toList caps'
  | .makeSlice t l c, .mkSlice z bytes l' c' => chkOpd X l l' && chkOpd X c c' &&
    (match X.P.underlying t with
     | some (.slice e) => (match tySize X.P e, tyZero X.P e with
       | some s, some zv => (tyBytes X.P e == some bytes) && constVs z zv.cells.toList && s == zv.cells.size && decide (0 < s)
       | _, _ => false)
     | _ => false)
  | .slice t x lo hi mx, .sliceStr y lo' hi' => (match X.P.underlying t with | some .string => true | _ => false) && chkOpd X x y && chkOpt X lo lo' && chkOpt X hi hi' && mx.isNone
  | .slice t x lo hi mx, .sliceSl sz y lo' hi' mx' => (match X.P.underlying t with | some (.slice e) => tySize X.P e == some sz | _ => false) && chkOpd X x y && chkOpt X lo lo' && chkOpt X hi hi' && chkOpt X mx mx' && (mx.isNone || hi.isSome)
  | .slice t x lo hi mx, .sliceArr n sz y lo' hi' mx' => (match X.P.underlying t with | some (.array n' e) => n' == n && tySize X.P e == some sz | _ => false) && chkOpd X x y && chkOpt X lo lo' && chkOpt X hi hi' && chkOpt X mx mx' && (mx.isNone || hi.isSome)
  | .fieldAddr s x f, .fieldAddr off y => (match X.P.underlying s with
     | some (.struct fs) => (match fs[f]? with
       | some fd => fd.offset == off && (match tySize X.P fd.type with | some n => decide (0 < n) | none => false)
       | none => false)
     | _ => false) && chkOpd X x y
  | .field s x f, .field1 off y => (match X.P.underlying s with
     | some (.struct fs) => (match fs[f]? with
       | some fd => fd.offset == off && (tyAgg X.P fd.type == some false)
       | none => false)
     | _ => false) && chkOpd X x y
  | .field s x f, .fieldN off n y => (match X.P.underlying s with
     | some (.struct fs) => (match fs[f]? with
       | some fd => fd.offset == off && (tyAgg X.P fd.type == some true) && (tySize X.P fd.type == some n)
       | none => false)
     | _ => false) && chkOpd X x y
  | .indexAddr t x i, .idxAddr sz x' i' => (match X.P.underlying t with | some (.slice e) => tySize X.P e == some sz | _ => false) && chkOpd X x x' && chkOpd X i i'
  | .indexAddr t x i, .idxArr n sz x' i' => (match X.P.underlying t with | some (.array n' e) => n' == n && tySize X.P e == some sz | _ => false) && chkOpd X x x' && chkOpd X i i'
  | .index t x i, .idxStr x' i' => (match X.P.underlying t with | some .string => true | _ => false) && chkOpd X x x' && chkOpd X i i'
  | .index t x i, .idxAgg n x' i' => (match X.P.underlying t with | some (.array n' e) => n' == n && tySize X.P e == some 1 && (tyAgg X.P e == some false) | _ => false) && chkOpd X x x' && chkOpd X i i'
  | .extract x i, .extract y j => i == j && chkOpd X x y
  | .call { callee := .builtin b, args, argTypes }, c => (match b, c with
     | .len, .lenStr y => (match (argTypes[0]?).bind X.P.underlying with | some .string => true | _ => false) && chkOpds X args.toList [y]
     | .len, .lenSl y => (match (argTypes[0]?).bind X.P.underlying with | some (.slice _) => true | _ => false) && chkOpds X args.toList [y]
     | .cap, .capSl y => (match (argTypes[0]?).bind X.P.underlying with | some (.slice _) => true | _ => false) && chkOpds X args.toList [y]
     | .append, .append sz bytes x y => chkOpds X args.toList [x, y] && decide (0 < sz) &&
       (match argTypes.toList with
        | [t0, t1] => (match X.P.underlying t0, X.P.underlying t1 with
          | some (.slice e), some (.slice _) => (tySize X.P e == some sz) && (tyBytes X.P e == some bytes) && decide (0 < bytes) && (match tyZero X.P e with | some zv => zv.cells.size == sz | none => false)
          | _, _ => false)
        | _ => false)
     | .append, .appendStr x y => chkOpds X args.toList [x, y] &&
       (match argTypes.toList with
        | [t0, t1] => (match X.P.underlying t0, X.P.underlying t1 with
          | some (.slice e), some .string => (tySize X.P e == some 1) && (tyBytes X.P e == some 1) && (match tyZero X.P e with | some zv => zv.cells.size == 1 | none => false)
          | _, _ => false)
        | _ => false)
     | .append, .appendZ z bytes x y => chkOpds X args.toList [x, y] && decide (0 < z.length) &&
       (match argTypes.toList with
        | [t0, t1] => (match X.P.underlying t0, X.P.underlying t1 with
          | some (.slice e), some (.int _) => (tySize X.P e == some z.length) && (tyBytes X.P e == some bytes) && decide (0 < bytes) && z.all AV.one && (match tyZero X.P e with | some zv => constVs z zv.cells.toList | none => false)
          | _, _ => false)
        | _ => false)
     | .min, .minmax mx ys => !mx && chkOpds X args.toList ys
     | .max, .minmax mx ys => mx && chkOpds X args.toList ys
     | .recover, .recover => true
     | .panic, .panic y => chkOpds X args.toList [y]
     | _, _ => false)
  | .typeAssert x _ t ok, .assert t' zero y => t == t' && chkOpd X x y && notIface X.P t && okZero X.P t ok zero
  | .range t x, .rangeStr y => (match X.P.underlying t with | some .string => true | _ => false) && chkOpd X x y
  | .next x s, .nextStr y => s && chkOpd X x y
  | .call { callee := .value (.func f), args, .. }, .idxByte x y => chkOpds X args.toList [x, y] && isIdxByte X.P f
  | .call { callee := .value (.func f), args, .. }, .call f' args' => f == f' && chkOpds X args.toList args'
  | .call { callee := .value (.func f), args, .. }, .callP g f' args' => f == f' && chkOpds X args.toList args' && g == X.P.globals.size
  | .call { callee := .value x, args, .. }, .callV y args' => chkOpd X x y && chkOpds X args.toList args'
  | .defer { callee := .value x, args, .. }, .dfr y args' => chkOpd X x y && chkOpds X args.toList args'
  | .panic x, .panic y => chkOpd X x y
  | _, _ => false
end Go.Ev
