/- Soundness of append. -/
import Derived.Test.YtifhmogcdgfojaaGreatDoorT06
import Derived.Deep.AppendSrc
import Derived.Lib.AppendZeros
set_option linter.unusedSimpArgs false
set_option linter.unusedVariables false
namespace Go.Ev
open Go Go.RowKit
section
variable {X : Cx} {ι : Plan} {B : Nat} {H H' : Heap} {w : World} {a : Act} {p t : List (Nat × AV)} {o : Oper} {v : AV}

/-- What is appended: `n` elements. -/
structure Src2 (P : Program) (sz : Nat) (tx : TypeId) (x : Value) (n : Nat) (new : Array Value) (w : World) : Prop where
  kind : (∃ e', P.underlying tx = some (.slice e')) ∨ P.underlying tx = some .string
  len : ∀ w' : World, (Builtin.lenOf x).run P w' = .ok n w'
  cells : (Builtin.firstCells sz n x).run P w = .ok new w
  cellsD : (Builtin.firstCells sz n x).run P w.drew = .ok new w.drew

theorem append_fits {P : Program} {t0 tx ty e : TypeId} {i : TypeInfo} {n sLen sCap : Nat} {base : Option Addr} {x : Value} {new : Array Value} {w' : World}
    (ht : P.underlying t0 = some (.slice e)) (hi : P.info? e = some i) (hs : Src2 P i.size tx x n new w) (hroom : sLen + n ≤ sCap)
    (hst : (base = none ∧ w' = w) ∨ ∃ q, base = some q ∧ (storeCells (q.add (sLen * i.size)) new.toList).run P w = .ok () w') :
    (Builtin.append_ #[t0, tx] ty #[.slice base sLen sCap, x]).run P w = .ok (.slice base (sLen + n) sCap) w' := by
  rcases hst with ⟨rfl, rfl⟩ | ⟨q, rfl, hst⟩ <;> rcases hs.kind with ⟨e', hk⟩ | hk
  all_goals simp [Builtin.append_, run_underlying ht, run_underlying hk, sizeOf, typeInfo, hi, hs.len, hroom, hs.cells]
  all_goals simp [hst]

theorem append_grows {P : Program} {t0 tx ty e : TypeId} {i : TypeInfo} {zv : Value} {n sLen sCap : Nat} {base : Option Addr} {x : Value} {old new : Array Value}
    (ht : P.underlying t0 = some (.slice e)) (hi : P.info? e = some i) (hz : i.zero = some zv) (hs : Src2 P i.size tx x n new w)
    (hroom : sCap < sLen + n) (hlim : (sLen + n) * i.bytes ≤ 1099511627776) (hl2 : sLen + n ≤ 1099511627776)
    (hold : (Builtin.firstCells i.size sLen (.slice base sLen sCap)).run P w.drew = .ok old w.drew) :
    (Builtin.append_ #[t0, tx] ty #[.slice base sLen sCap, x]).run P w = .ok (.slice (some ⟨w.heap.size, 0, none⟩) (sLen + n) (grownCap w (sLen + n) sCap e))
      ((w.drew).alloc (.cells (old ++ new ++ Builtin.zeroCells zv.cells (grownCap w (sLen + n) sCap e - (sLen + n))) e)) := by
  have hn : ¬ (sLen + n ≤ sCap) := by omega
  have h63' : ¬ (9223372036854775807 < ((sLen : Int) + (n : Int))) := by omega
  have h48 : Builtin.nextslicecap (sLen + n) sCap * i.bytes ≤ 281474976710656 := by
    have h1 := nextslicecap_le hroom
    have h2 : Builtin.nextslicecap (sLen + n) sCap * i.bytes ≤ 2 * (sLen + n) * i.bytes := Nat.mul_le_mul_right _ h1
    rw [Nat.mul_assoc] at h2
    omega
  have h48' : ¬ (281474976710656 < Builtin.nextslicecap (sLen + n) sCap * i.bytes) := by omega
  rcases hs.kind with ⟨e', hk⟩ | hk <;>
    simp [Builtin.append_, run_underlying ht, run_underlying hk, sizeOf, typeInfo, zeroValue, hi, hz, hs.len, hn, h63', h48', Question.forced, hs.cellsD, hold, newRow, grownCap]

def Fits (P : Program) (t0 tx ty : TypeId) (size : Nat) (y : Value) (n : Nat) (new : Array Value) (w : World) : Prop :=
  ∀ (base : Option Addr) (sLen sCap : Nat) (w' : World), sLen + n ≤ sCap → ((base = none ∧ w' = w) ∨ ∃ q, base = some q ∧ (storeCells (q.add (sLen * size)) new.toList).run P w = .ok () w') →
    (Builtin.append_ #[t0, tx] ty #[.slice base sLen sCap, y]).run P w = .ok (.slice base (sLen + n) sCap) w'

def Grows (P : Program) (t0 tx ty e : TypeId) (i : TypeInfo) (zv : Value) (y : Value) (n : Nat) (new : Array Value) (w : World) : Prop :=
  ∀ (base : Option Addr) (sLen sCap : Nat) (old : Array Value), sCap < sLen + n → (sLen + n) * i.bytes ≤ 1099511627776 → sLen + n ≤ 1099511627776 →
    (Builtin.firstCells i.size sLen (.slice base sLen sCap)).run P w.drew = .ok old w.drew →
    (Builtin.append_ #[t0, tx] ty #[.slice base sLen sCap, y]).run P w = .ok (.slice (some ⟨w.heap.size, 0, none⟩) (sLen + n) (grownCap w (sLen + n) sCap e))
      ((w.drew).alloc (.cells (old ++ new ++ Builtin.zeroCells zv.cells (grownCap w (sLen + n) sCap e - (sLen + n))) e))

theorem fitsZ {P : Program} {t0 tx ty e : TypeId} {i : TypeInfo} {zv : Value} {k kn : IntKind} {n : Nat}
    (ht : P.underlying t0 = some (.slice e)) (htn : P.underlying tx = some (.int kn)) (hi : P.info? e = some i) (hz : i.zero = some zv) (hn : n ≤ 1099511627776) (hl : n * i.bytes ≤ 1099511627776) :
    Fits P t0 tx ty i.size (.int k n) n (if n * i.size = 0 then #[] else Builtin.zeroCells zv.cells n) w := by
  intro base sLen sCap w' hroom hst
  have hw : IntKind.i64.wrap (n : Int) = n := wrap_id (by omega) (by omega)
  have h48i : ¬ (281474976710656 < (n : Int) * (i.bytes : Int)) := by rw [← Int.natCast_mul]; omega
  have hneg : ¬ ((n : Int) < 0) := by omega
  by_cases h0 : n * i.size = 0
  · simp only [h0, if_true] at hst
    rcases hst with ⟨rfl, rfl⟩ | ⟨q, rfl, hst⟩
    · simp [Builtin.append_, run_underlying ht, run_underlying htn, sizeOf, typeInfo, hi, asInt, asIntOf, hw, hneg, h48i, hroom, h0]
    · simp [Builtin.append_, run_underlying ht, run_underlying htn, sizeOf, typeInfo, hi, asInt, asIntOf, hw, hneg, h48i, hroom, h0] at hst ⊢
      simp [hst]
  · simp only [h0, if_false] at hst
    rcases hst with ⟨rfl, rfl⟩ | ⟨q, rfl, hst⟩
    · simp [Builtin.append_, run_underlying ht, run_underlying htn, sizeOf, typeInfo, zeroValue, hi, hz, asInt, asIntOf, hw, hneg, h48i, hroom, h0]
    · simp [Builtin.append_, run_underlying ht, run_underlying htn, sizeOf, typeInfo, zeroValue, hi, hz, asInt, asIntOf, hw, hneg, h48i, hroom, h0, hst]

theorem growsZ {P : Program} {t0 tx ty e : TypeId} {i : TypeInfo} {zv : Value} {k kn : IntKind} {n : Nat}
    (ht : P.underlying t0 = some (.slice e)) (htn : P.underlying tx = some (.int kn)) (hi : P.info? e = some i) (hz : i.zero = some zv) (hn : n ≤ 1099511627776) (hl : n * i.bytes ≤ 1099511627776) :
    Grows P t0 tx ty e i zv (.int k n) n (if n * i.size = 0 then #[] else Builtin.zeroCells zv.cells n) w := by
  intro base sLen sCap old hroom hlim hl2 hold
  have hw : IntKind.i64.wrap (n : Int) = n := wrap_id (by omega) (by omega)
  have h48i : ¬ (281474976710656 < (n : Int) * (i.bytes : Int)) := by rw [← Int.natCast_mul]; omega
  have hneg : ¬ ((n : Int) < 0) := by omega
  have hnr : ¬ (sLen + n ≤ sCap) := by omega
  have h63' : ¬ (9223372036854775807 < ((sLen : Int) + (n : Int))) := by omega
  have h48 : Builtin.nextslicecap (sLen + n) sCap * i.bytes ≤ 281474976710656 := by
    have h1 := nextslicecap_le hroom
    have h2 : Builtin.nextslicecap (sLen + n) sCap * i.bytes ≤ 2 * (sLen + n) * i.bytes := Nat.mul_le_mul_right _ h1
    rw [Nat.mul_assoc] at h2
    omega
  have h48' : ¬ (281474976710656 < Builtin.nextslicecap (sLen + n) sCap * i.bytes) := by omega
  by_cases h0 : n * i.size = 0
  · simp only [h0, if_true]
    simp [Builtin.append_, run_underlying ht, run_underlying htn, sizeOf, typeInfo, zeroValue, hi, hz, asInt, asIntOf, hw, hneg, h48i, hnr, h63', h48', h0, Question.forced, hold, newRow, grownCap]
  · simp only [h0, if_false]
    simp [Builtin.append_, run_underlying ht, run_underlying htn, sizeOf, typeInfo, zeroValue, hi, hz, asInt, asIntOf, hw, hneg, h48i, hnr, h63', h48', h0, Question.forced, hold, newRow, grownCap]

/-- A new row that append made: what it holds first is known. -/
theorem new_open {c : List AV} {vs tail : Array Value} (e : TypeId) (hR : Rel B ι H w) (hr : VRs ι c vs.toList) :
    ι.le (ι.add H.size ⟨w.heap.size, 0, c.length + tail.size⟩) ∧ Rel B (ι.add H.size ⟨w.heap.size, 0, c.length + tail.size⟩) (H.push (.cells c .own)) (w.drew.alloc (.cells (vs ++ tail) e)) ∧ Below B w (w.drew.alloc (.cells (vs ++ tail) e)) := by
  have hlen : vs.size = c.length := by have := hr.length; simpa using this
  obtain ⟨h1, h2⟩ := hR.push_cells (w' := w.drew.alloc (.cells (vs ++ tail) e)) c (c.length + tail.size) (by simp) (fun k hk => by rw [Below.heap_alloc _ _ _ (by simpa using hk)]; rfl)
    (fun i x hx => by
      obtain ⟨u, hu, hru⟩ := hr.get hx
      have hi : i < vs.size := by
        rcases Nat.lt_or_ge i vs.size with h | h
        · exact h
        · rw [List.getElem?_eq_none (by simpa using h)] at hu; cases hu
      refine ⟨u, ?_, hru⟩
      have := World.cell?_alloc_new w.drew (vs ++ tail) e i
      rw [World.size_drew] at this
      rw [this, Array.getElem?_append_left hi, ← Array.getElem?_toList]; exact hu)
    ⟨Nat.le_add_right _ _, fun i hi => by
      have e1 := World.cell?_alloc_new w.drew (vs ++ tail) e i
      have e2 := World.frozen?_alloc_new w.drew (vs ++ tail) e i
      rw [World.size_drew] at e1 e2
      rw [e1, e2]
      have : i < (vs ++ tail).size := by simp; omega
      exact ⟨⟨(vs ++ tail)[i], by simp⟩, rfl⟩⟩
  exact ⟨h1, h2, ((Below.refl B w).drew).alloc (by simpa using hR.size) _⟩

theorem size_zc (z : Array Value) (n : Nat) : (Builtin.zeroCells z n).size = n * z.size := by simp [Builtin.zeroCells]

/-- append: whatever is appended. -/
theorem append_sound {P : Program} {t0 tx ty e_ : TypeId} {i : TypeInfo} {zv : Value} {n sz : Nat} {x : AV} {x' y' : Value} {ys : List AV} {new : Array Value} {r : AV}
    (hR : Rel B ι H w) (hzs : zv.cells.size = i.size) (hsz : i.size = sz)
    (hx : VR ι x x') (hF : Fits P t0 tx ty i.size y' n new w) (hG : Grows P t0 tx ty e_ i zv y' n new w) (hy : VRs ι ys new.toList) (hone : ys.all AV.one = true) (hyl : ys.length = n * sz)
    (hev : appendA H sz i.bytes x n ys = some (r, H')) :
    ∃ u w', (Builtin.append_ #[t0, tx] ty #[x', y']).run P w = .ok u w' ∧ Good B ι w H' w' (fun ι' => VR ι' r u) := by
  subst hsz
  unfold appendA at hev
  split at hev
  · rename_i hn0
    subst hn0
    have hnew : new = #[] := by
      have : new.toList.length = 0 := by rw [hy.length, hyl, Nat.zero_mul]
      simpa using this
    subst hnew
    -- nothing is appended
    have key : ∀ base sLen sCap, x' = .slice base sLen sCap → sLen ≤ sCap → (Builtin.append_ #[t0, tx] ty #[x', y']).run P w = .ok x' w := by
      intro base sLen sCap e hle
      rw [e]
      have := hF base sLen sCap w (show sLen + 0 ≤ sCap by omega) (by
        cases base with
        | none => exact .inl ⟨rfl, rfl⟩
        | some q => exact .inr ⟨q, rfl, rfl⟩)
      simpa using this
    have fin : ∀ base sLen sCap, x' = .slice base sLen sCap → sLen ≤ sCap → some (x, H) = some (r, H') → ∃ u w', (Builtin.append_ #[t0, tx] ty #[x', y']).run P w = .ok u w' ∧ Good B ι w H' w' (fun ι' => VR ι' r u) := by
      intro base sLen sCap e hle h
      simp only [Option.some.injEq, Prod.mk.injEq] at h
      obtain ⟨e1, e2⟩ := h; subst e1; subst e2
      exact ⟨_, w, key base sLen sCap e hle, ι, ι.le_refl, hR, Below.refl _ _, hx⟩
    split at hev
    · exact fin none 0 0 hx (Nat.le_refl _) hev
    · split at hev
      · rename_i hle
        have hx' := hx
        obtain ⟨L, hL, e⟩ := hx'
        exact fin _ _ _ e hle hev
      · cases hev
    · have hx' := hx
      obtain ⟨L, hL, ⟨cc, hcc, _, e⟩ | ⟨h0, q, e⟩⟩ := hx'
      · exact fin _ _ _ e hcc hev
      · exact fin _ _ _ e (Nat.le_refl _) hev
    · cases hev
  · rename_i hn0
    -- a new row
    have grow : ∀ (c : List AV) (old : Array Value) (base : Option Addr) (sLen sCap : Nat) (Hk : Heap), Rel B ι Hk w → x' = .slice base sLen sCap → sCap < sLen + n → (sLen + n) * i.bytes ≤ 1099511627776 → sLen + n ≤ 1099511627776 →
        (Builtin.firstCells i.size sLen (.slice base sLen sCap)).run P w.drew = .ok old w.drew → VRs ι c old.toList → c.length = sLen * i.size → Hk.size = H.size →
        (.osl i.size H.size 0 (sLen + n), Hk.push (.cells (c ++ ys) .own)) = (r, H') → ∃ u w', (Builtin.append_ #[t0, tx] ty #[x', y']).run P w = .ok u w' ∧ Good B ι w H' w' (fun ι' => VR ι' r u) := by
      intro c old base sLen sCap Hk hRk e hcap hlim hl2 hold hc hcl hsize h
      simp only [Prod.mk.injEq] at h
      obtain ⟨e1, e2⟩ := h; subst e1; subst e2
      have hrun := hG base sLen sCap old hcap hlim hl2 hold
      rw [← e] at hrun
      have hge : sLen + n ≤ grownCap w (sLen + n) sCap e_ := grownCap_ge _ _ _ _
      generalize grownCap w (sLen + n) sCap e_ = cc at hrun hge
      have hv : VRs ι (c ++ ys) (old ++ new).toList := by rw [Array.toList_append]; exact hc.append hy
      obtain ⟨n1, n2, n3⟩ := new_open (tail := Builtin.zeroCells zv.cells (cc - (sLen + n))) e_ hRk hv
      rw [hsize] at n1 n2
      refine ⟨_, _, hrun, _, n1, n2, n3, ⟨_, Plan.add_self _ _ _, .inl ⟨cc, hge, ?_, by simp⟩⟩⟩
      simp only [List.length_append, hcl, hyl, size_zc, hzs, Nat.zero_add]
      rw [← Nat.add_mul, ← Nat.add_mul]
      exact Nat.mul_le_mul_right _ (by omega)
    have hRd : Rel B ι H w.drew := hR.world (Nat.le_refl _) (fun k _ => rfl)
    split at hev
    · -- nil
      split at hev
      · rename_i hl
        injection hev with hev
        exact grow [] #[] none 0 0 H hR hx (by omega) (by simpa using hl.1) (by simpa using hl.2) rfl rfl (by simp) rfl (by simpa using hev)
      · cases hev
    · -- a slice whose capacity is known
      rename_i b off len cap
      obtain ⟨L, hL, e⟩ := hx
      split at hev
      · rename_i hroom
        split at hev
        · rename_i c hg
          split at hev
          · rename_i hle
            injection hev with hev
            simp only [Prod.mk.injEq] at hev
            obtain ⟨e1, e2⟩ := hev; subst e1; subst e2
            have hmul : (len + n) * i.size = len * i.size + n * i.size := Nat.add_mul _ _ _
            obtain ⟨w', h1, h2, h3⟩ := storeCells_sound (P := P) hL ys new.toList H w c (off + len * i.size) (off + len * i.size) 0 hR hg hy hone (by omega) (by omega)
            have hrun := hF _ _ _ w' hroom (.inr ⟨⟨L.blk, L.base + off, none⟩, rfl, by rw [addr_add]; exact h1⟩)
            rw [e]
            exact ⟨_, w', hrun, ι, ι.le_refl, h2, h3, ⟨L, hL, rfl⟩⟩
          · cases hev
        · cases hev
      · rename_i hroom
        split at hev
        · rename_i hl
          split at hev
          · rename_i n' old hrd
            injection hev with hev
            have hn' : n' = len ∧ old.length = len * i.size := by
              simp only [readSl] at hrd
              split at hrd
              · rename_i h0; simp only [Option.some.injEq, Prod.mk.injEq] at hrd; exact ⟨by omega, by rw [← hrd.2, h0]; simp⟩
              · split at hrd
                · split at hrd
                  · rename_i hle; simp only [Option.some.injEq, Prod.mk.injEq] at hrd
                    exact ⟨hrd.1.symm, by rw [← hrd.2]; simp [rd]; omega⟩
                  · cases hrd
                · cases hrd
            rcases readSl_sound (P := P) hRd hrd (⟨L, hL, rfl⟩ : VR ι (.slice b off len cap) (.slice (some ⟨L.blk, L.base + off, none⟩) len cap)) with ⟨_, h, _⟩ | ⟨q, cap', vs, h, h1, h2⟩
            · cases h
            · injection h with q1 q2 q3
              injection q1 with q1
              subst q1
              rw [hn'.1] at h1
              exact grow old vs _ len cap H hR e (by omega) hl.1 hl.2 h1 h2 hn'.2 rfl hev
          · cases hev
        · cases hev
    · -- a slice whose capacity is not known
      rename_i s b off len
      obtain ⟨L, hL, e⟩ := hx
      split at hev
      · rename_i hl
        obtain ⟨rfl, hl1, hl2⟩ := hl
        split at hev
        · rename_i c hg
          split at hev
          · rename_i hle
            injection hev with hev
            have hbs : b < H.size := (hR.dom b L hL).1
            have hRk : Rel B ι (H.set b .dead) w := hR.kill hbs
            rcases e with ⟨cc, hcc, hext, e⟩ | ⟨h0, q, e⟩
            · by_cases hroom : len + n ≤ cc
              · -- in place
                simp only [Prod.mk.injEq] at hev
                obtain ⟨e1, e2⟩ := hev; subst e1; subst e2
                obtain ⟨m1, m2⟩ := hR.move (by simp) (fun e he => by cases he) hg hL hle
                have hmul : (len + n) * i.size = len * i.size + n * i.size := Nat.add_mul _ _ _
                have hcm : (len + n) * i.size ≤ cc * i.size := Nat.mul_le_mul_right _ hroom
                have hgn : ((H.set b .dead).push (.cells (rd c off (len * i.size)) .own)).get H.size = .cells (rd c off (len * i.size)) .own := by
                  rw [Heap.get_push, Heap.size_set, if_pos rfl]
                have hrl : (rd c off (len * i.size)).length = len * i.size := by simp [rd]; omega
                obtain ⟨w', h1, h2, h3⟩ := storeMore_sound (P := P) (Plan.add_self ι H.size ⟨L.blk, L.base + off, L.ext - off⟩) (by simp) ys new.toList _ w (rd c off (len * i.size)) (len * i.size) 0 m2 hgn (VRs.mono m1 _ _ hy) hone (by omega) (by simp only; omega)
                have hrun := hF _ _ _ w' hroom (.inr ⟨⟨L.blk, L.base + off, none⟩, rfl, by
                  rw [addr_add]
                  simp only [Nat.add_assoc] at h1
                  exact h1⟩)
                rw [e]
                refine ⟨_, w', hrun, _, m1, h2.congr (fun b' => ?_) ?_, h3, ⟨_, Plan.add_self _ _ _, .inl ⟨cc, hroom, by simp only; omega, by simp⟩⟩⟩
                · rw [Heap.get_set _ _ _ _ (by rw [Heap.size_push, Heap.size_set]; omega), Heap.get_push, Heap.get_push, Heap.size_set]
                  by_cases hb' : b' = H.size
                  · simp [hb']
                  · simp [hb']
                · rfl
              · obtain ⟨vs, h1, h2⟩ := loadCells_sound (P := P) hL hRd hg off (len * i.size) hle
                exact grow (rd c off (len * i.size)) vs _ len cc (H.set b .dead) hRk e (by omega) hl1 hl2 h1 h2 (by simp [rd]; omega) rfl hev
            · subst h0
              exact grow (rd c off (0 * i.size)) #[] _ 0 0 (H.set b .dead) hRk e (by omega) hl1 hl2 (by simp [Builtin.firstCells, loadCells, loadCellsFrom]) (by rw [Nat.zero_mul]; simp [rd, VRs]) (by simp [rd]) rfl hev
          · cases hev
        · cases hev
      · cases hev
    · cases hev

/-- A new row of which the type is kept. -/
theorem new_openT {c : List AV} {vs tail : Array Value} (e : TypeId) (hR : Rel B ι H w) (hr : VRs ι c vs.toList) :
    ι.le (ι.add H.size ⟨w.heap.size, 0, c.length + tail.size⟩) ∧ Rel B (ι.add H.size ⟨w.heap.size, 0, c.length + tail.size⟩) (H.push (.cells c (.byt e))) (w.drew.alloc (.cells (vs ++ tail) e)) ∧ Below B w (w.drew.alloc (.cells (vs ++ tail) e)) := by
  have hlen : vs.size = c.length := by have := hr.length; simpa using this
  obtain ⟨h1, h2⟩ := hR.push_u (w' := w.drew.alloc (.cells (vs ++ tail) e)) c (c.length + tail.size) (.byt e) (fun e' he => by
      injection he with he; subst he
      refine ⟨(vs ++ tail).size, ?_, by simp; omega⟩
      show (match (w.heap.push (Obj.cells (vs ++ tail) e))[w.heap.size]? with | some (.cells c elem _) => some (elem, c.size) | _ => none) = _
      rw [Array.getElem?_push, if_pos rfl]) (by simp) (fun k hk => by rw [Below.heap_alloc _ _ _ (by simpa using hk)]; rfl)
    (fun i x hx => by
      obtain ⟨u, hu, hru⟩ := hr.get hx
      have hi : i < vs.size := by
        rcases Nat.lt_or_ge i vs.size with h | h
        · exact h
        · rw [List.getElem?_eq_none (by simpa using h)] at hu; cases hu
      refine ⟨u, ?_, hru⟩
      have := World.cell?_alloc_new w.drew (vs ++ tail) e i
      rw [World.size_drew] at this
      rw [this, Array.getElem?_append_left hi, ← Array.getElem?_toList]; exact hu)
    ⟨Nat.le_add_right _ _, fun i hi => by
      have e1 := World.cell?_alloc_new w.drew (vs ++ tail) e i
      have e2 := World.frozen?_alloc_new w.drew (vs ++ tail) e i
      rw [World.size_drew] at e1 e2
      rw [e1, e2]
      have : i < (vs ++ tail).size := by simp; omega
      exact ⟨⟨(vs ++ tail)[i], by simp⟩, rfl⟩⟩
  exact ⟨h1, h2, ((Below.refl B w).drew).alloc (by simpa using hR.size) _⟩

/-- append to a row of bytes. -/
theorem appendT_sound {P : Program} {t0 tx ty e_ : TypeId} {i : TypeInfo} {zv : Value} {n : Nat} {x : AV} {x' y' : Value} {ys : List AV} {new : Array Value} {r : AV}
    (hR : Rel B ι H w) (hzs : zv.cells.size = i.size) (hsz : i.size = 1) (hbt : i.bytes = 1)
    (hx : VR ι x x') (hF : Fits P t0 tx ty i.size y' n new w) (hG : Grows P t0 tx ty e_ i zv y' n new w) (hy : VRs ι ys new.toList) (hone : ys.all AV.one = true) (hyl : ys.length = n)
    (hev : appendT H e_ x n ys = some (r, H')) :
    ∃ u w', (Builtin.append_ #[t0, tx] ty #[x', y']).run P w = .ok u w' ∧ Good B ι w H' w' (fun ι' => VR ι' r u) := by
  have hnew0 : n = 0 → new = #[] := fun h0 => by
    have : new.toList.length = 0 := by rw [hy.length, hyl, h0]
    simpa using this
  have key : n = 0 → ∀ base sLen sCap, x' = .slice base sLen sCap → sLen ≤ sCap → (Builtin.append_ #[t0, tx] ty #[x', y']).run P w = .ok x' w := by
    intro h0 base sLen sCap e hle
    have hn := hnew0 h0
    subst h0; subst hn
    rw [e]
    have := hF base sLen sCap w (show sLen + 0 ≤ sCap by omega) (by
      cases base with
      | none => exact .inl ⟨rfl, rfl⟩
      | some q => exact .inr ⟨q, rfl, rfl⟩)
    simpa using this
  have hRd : Rel B ι H w.drew := hR.world (Nat.le_refl _) (fun k _ => rfl)
  have grow : ∀ (c : List AV) (old : Array Value) (base : Option Addr) (sLen sCap : Nat) (Hk : Heap), Rel B ι Hk w → x' = .slice base sLen sCap → sCap < sLen + n → sLen + n ≤ 1099511627776 →
      (Builtin.firstCells i.size sLen (.slice base sLen sCap)).run P w.drew = .ok old w.drew → VRs ι c old.toList → c.length = sLen → Hk.size = H.size →
      (.osl 1 H.size 0 (sLen + n), Hk.push (.cells (c ++ ys) (.byt e_))) = (r, H') → ∃ u w', (Builtin.append_ #[t0, tx] ty #[x', y']).run P w = .ok u w' ∧ Good B ι w H' w' (fun ι' => VR ι' r u) := by
    intro c old base sLen sCap Hk hRk e hcap hlim hold hc hcl hsize h
    simp only [Prod.mk.injEq] at h
    obtain ⟨e1, e2⟩ := h; subst e1; subst e2
    have hrun := hG base sLen sCap old hcap (by rw [hbt]; omega) hlim hold
    rw [← e] at hrun
    have hge : sLen + n ≤ grownCap w (sLen + n) sCap e_ := grownCap_ge _ _ _ _
    generalize grownCap w (sLen + n) sCap e_ = cc at hrun hge
    have hv : VRs ι (c ++ ys) (old ++ new).toList := by rw [Array.toList_append]; exact hc.append hy
    obtain ⟨n1, n2, n3⟩ := new_openT (tail := Builtin.zeroCells zv.cells (cc - (sLen + n))) e_ hRk hv
    rw [hsize] at n1 n2
    refine ⟨_, _, hrun, _, n1, n2, n3, ⟨_, Plan.add_self _ _ _, .inl ⟨cc, hge, ?_, by simp⟩⟩⟩
    simp only [List.length_append, hcl, hyl, size_zc, hzs, hsz]
    omega
  unfold appendT at hev
  split at hev
  · -- nil
    split at hev
    · rename_i h0
      simp only [Option.some.injEq, Prod.mk.injEq] at hev
      obtain ⟨e1, e2⟩ := hev; subst e1; subst e2
      exact ⟨_, w, key h0 none 0 0 hx (Nat.le_refl _), ι, ι.le_refl, hR, Below.refl _ _, hx⟩
    · rename_i h0
      split at hev
      · rename_i hl
        injection hev with hev
        exact grow [] #[] none 0 0 H hR hx (by omega) (by omega) rfl rfl rfl rfl (by simpa using hev)
      · cases hev
  · rename_i s b off len
    split at hev
    · rename_i h0
      simp only [Option.some.injEq, Prod.mk.injEq] at hev
      obtain ⟨e1, e2⟩ := hev; subst e1; subst e2
      have hx' := hx
      obtain ⟨L, hL, ⟨cc, hcc, _, e⟩ | ⟨h0', q, e⟩⟩ := hx'
      · exact ⟨_, w, key h0 _ _ _ e hcc, ι, ι.le_refl, hR, Below.refl _ _, hx⟩
      · exact ⟨_, w, key h0 _ _ _ e (Nat.le_refl _), ι, ι.le_refl, hR, Below.refl _ _, hx⟩
    · rename_i h0
      obtain ⟨L, hL, e⟩ := hx
      split at hev
      · rename_i hl
        obtain ⟨rfl, rfl, hl2⟩ := hl
        split at hev
        · rename_i c e' hg
          split at hev
          · rename_i hle
            obtain ⟨rfl, hle⟩ := hle
            injection hev with hev
            have hbs : b < H.size := (hR.dom b L hL).1
            have hRk : Rel B ι (H.set b .dead) w := hR.kill hbs
            rcases e with ⟨cc, hcc, hext, e⟩ | ⟨h0', q, e⟩
            · by_cases hroom : len + n ≤ cc
              · simp only [Prod.mk.injEq] at hev
                obtain ⟨e1, e2⟩ := hev; subst e1; subst e2
                obtain ⟨m1, m2⟩ := hR.move (off := 0) (n := len) (by simp) (fun _ _ => rfl) hg hL (by omega)
                have hgn : ((H.set b .dead).push (.cells (rd c 0 len) (.byt e'))).get H.size = .cells (rd c 0 len) (.byt e') := by
                  rw [Heap.get_push, Heap.size_set, if_pos rfl]
                have hrl : (rd c 0 len).length = len := by simp [rd]; omega
                obtain ⟨w', h1, h2, h3⟩ := storeMore_sound (P := P) (Plan.add_self ι H.size ⟨L.blk, L.base + 0, L.ext - 0⟩) (by simp) ys new.toList _ w (rd c 0 len) len 0 m2 hgn (VRs.mono m1 _ _ hy) hone (by omega) (by simp only; omega)
                have hrun := hF _ _ _ w' hroom (.inr ⟨⟨L.blk, L.base + 0, none⟩, rfl, by
                  rw [addr_add, hsz, Nat.mul_one]
                  simp only [Nat.add_assoc] at h1
                  simpa [Nat.add_assoc] using h1⟩)
                rw [e]
                refine ⟨_, w', hrun, _, m1, h2.congr (fun b' => ?_) ?_, h3, ⟨_, Plan.add_self _ _ _, .inl ⟨cc, hroom, by simp only; omega, by simp⟩⟩⟩
                · rw [Heap.get_set _ _ _ _ (by rw [Heap.size_push, Heap.size_set]; omega), Heap.get_push, Heap.get_push, Heap.size_set]
                  by_cases hb' : b' = H.size
                  · simp [hb']
                  · simp [hb']
                · rfl
              · obtain ⟨vs, h1, h2⟩ := loadCells_sound (P := P) hL hRd hg 0 len (by omega)
                exact grow (rd c 0 len) vs _ len cc (H.set b .dead) hRk e (by omega) hl2 (by rw [hsz]; simpa [Builtin.firstCells] using h1) h2 (by simp [rd]; omega) rfl hev
            · subst h0'
              exact grow (rd c 0 0) #[] _ 0 0 (H.set b .dead) hRk e (by omega) hl2 (by simp [Builtin.firstCells, loadCells, loadCellsFrom]) (by simp [rd, VRs]) (by simp [rd]) rfl hev
          · cases hev
        · cases hev
      · cases hev
  · cases hev

theorem opds1 {x : Opd} : ∀ {args : List Operand}, chkOpds X args [x] = true → ∃ y, args = [y] ∧ chkOpd X y x = true
  | [], h => by simp [chkOpds] at h
  | [y], h => by simp [chkOpds] at h; exact ⟨y, rfl, h⟩
  | _ :: _ :: _, h => by simp [chkOpds] at h

theorem opds2 {x x2 : Opd} : ∀ {args : List Operand}, chkOpds X args [x, x2] = true → ∃ y y2, args = [y, y2] ∧ chkOpd X y x = true ∧ chkOpd X y2 x2 = true
  | [], h => by simp [chkOpds] at h
  | [y], h => by simp [chkOpds] at h
  | [y, y2], h => by simp [chkOpds] at h; exact ⟨y, y2, rfl, h⟩
  | _ :: _ :: _ :: _, h => by simp [chkOpds] at h

theorem toArray_of {α : Type} {a : Array α} {l : List α} (h : a.toList = l) : a = l.toArray := by rw [← h]

theorem info_of {P : Program} {t n : Nat} (h : tySize P t = some n) : ∃ i, P.info? t = some i ∧ i.size = n := by
  unfold tySize at h
  cases hi : P.info? t with
  | none => simp [hi] at h
  | some i => simp [hi] at h; exact ⟨i, rfl, h⟩

theorem readSl_len {sz n : Nat} {x : AV} {c : List AV} (h : readSl H sz x = some (n, c)) : c.length = n * sz := by
  cases x <;> simp only [readSl, reduceCtorEq] at h
  case nils => simp only [Option.some.injEq, Prod.mk.injEq] at h; rw [← h.1, ← h.2]; simp
  case slice =>
    split at h
    · rename_i h0; simp only [Option.some.injEq, Prod.mk.injEq] at h; rw [← h.1, ← h.2]; simp
    · split at h
      · split at h
        · simp only [Option.some.injEq, Prod.mk.injEq] at h; rw [← h.1, ← h.2]; simp [rd]; omega
        · cases h
      · cases h
  case osl =>
    split at h
    · split at h
      · rename_i h0; simp only [Option.some.injEq, Prod.mk.injEq] at h; rw [← h.1, ← h.2]; simp
      · split at h
        · split at h
          · simp only [Option.some.injEq, Prod.mk.injEq] at h; rw [← h.1, ← h.2]; simp [rd]; omega
          · cases h
        · cases h
    · cases h

theorem s_append {args : Array Operand} {at_ : Array TypeId} {sz bytes : Nat} {x' y' : Opd} (ho : o.op = .call { callee := .builtin .append, args := args, argTypes := at_ }) (hE : Env X ι p t a.tmps) (hR : Rel B ι H w)
    (hc : chkOp X o.op (.append sz bytes x' y') = true)
    (hev : evOp (rho p t) H (.append sz bytes x' y') = some (v, H')) : OpOK X a o B ι w v H' := by
  rw [ho] at hc
  simp only [chkOp, Bool.and_eq_true, decide_eq_true_eq] at hc
  obtain ⟨⟨hargs, hpos⟩, hty⟩ := hc
  obtain ⟨x, y, hxy, hcx, hcy⟩ := opds2 hargs
  have hargs' : args = #[x, y] := toArray_of hxy
  split at hty
  · rename_i t0 t1 hat
    have hat' : at_ = #[t0, t1] := toArray_of hat
    split at hty
    · rename_i e e' hu0 hu1
      simp only [Bool.and_eq_true, beq_iff_eq, decide_eq_true_eq] at hty
      obtain ⟨⟨⟨h1, h2⟩, h3⟩, h4⟩ := hty
      obtain ⟨i, hi, his⟩ := info_of h1
      have hib : i.bytes = bytes := by simpa [tyBytes, hi] using h2
      subst his; subst hib
      cases hz : tyZero X.P e with
      | none => simp [hz] at h4
      | some zv =>
        simp only [hz, beq_iff_eq] at h4
        have hz' : i.zero = some zv := by simpa [tyZero, hi] using hz
        simp only [evOp] at hev
        split at hev
        · rename_i av hav
          split at hev
          · rename_i bv hbv
            split at hev
            · rename_i n ys hrd
              split at hev
              · rename_i hone
                have hRd : Rel B ι H w.drew := hR.world (Nat.le_refl _) (fun k _ => rfl)
                have hrb := rho_sound hE hcy hbv
                have hsrc : ∃ new, Src2 X.P i.size t1 (a.eval y) n new w ∧ VRs ι ys new.toList := by
                  rcases readSl_sound2 (P := X.P) hR hrd hrb with ⟨cap, hx, rfl, rfl⟩ | ⟨q, cap, vs, hx, g1, g2⟩
                  · exact ⟨#[], ⟨.inl ⟨e', hu1⟩, fun _ => by rw [hx]; rfl, by rw [hx]; rfl, by rw [hx]; rfl⟩, rfl⟩
                  · exact ⟨vs, ⟨.inl ⟨e', hu1⟩, fun _ => by rw [hx]; rfl, by rw [hx]; exact g1.1, by rw [hx]; exact g1.2⟩, g2⟩
                obtain ⟨new, hs1, hs2⟩ := hsrc
                obtain ⟨u, w', hrun, hgood⟩ := append_sound (P := X.P) (ty := o.type) hR h4 rfl (rho_sound hE hcx hav) (fun _ _ _ _ h1 h2 => append_fits hu0 hi hs1 h1 h2) (fun _ _ _ _ h1 h2 h3 h4 => append_grows hu0 hi hz' hs1 h1 h2 h3 h4) hs2 hone (readSl_len hrd) hev
                refine ⟨.value u, w', u, ?_, .inl rfl, hgood⟩
                simp only [execOp, ho, hargs', hat', resolve, invoke, builtin, Sem.run_bind, Sem.run_pure, Result.andThen_ok, List.map_toArray, List.map_cons, List.map_nil, hrun]
              · cases hev
            · cases hev
          · cases hev
        · cases hev
    · cases hty
  · cases hty
theorem byteCells_one : ∀ s : List UInt8, (byteCells s).all AV.one = true
  | [] => rfl
  | _ :: s => by simp only [byteCells, List.map_cons, List.all_cons, AV.one, Bool.true_and]; exact byteCells_one s

theorem byteCells_VRs (ι : Plan) : ∀ s : List UInt8, VRs ι (byteCells s) (s.map fun b => Value.int .u8 (b.toNat : Int))
  | [] => rfl
  | _ :: s => ⟨_, _, rfl, rfl, byteCells_VRs ι s⟩

theorem s_appendStr {args : Array Operand} {at_ : Array TypeId} {x' y' : Opd} (ho : o.op = .call { callee := .builtin .append, args := args, argTypes := at_ }) (hE : Env X ι p t a.tmps) (hR : Rel B ι H w)
    (hc : chkOp X o.op (.appendStr x' y') = true)
    (hev : evOp (rho p t) H (.appendStr x' y') = some (v, H')) : OpOK X a o B ι w v H' := by
  rw [ho] at hc
  simp only [chkOp, Bool.and_eq_true] at hc
  obtain ⟨hargs, hty⟩ := hc
  obtain ⟨x, y, hxy, hcx, hcy⟩ := opds2 hargs
  have hargs' : args = #[x, y] := toArray_of hxy
  split at hty
  · rename_i t0 t1 hat
    have hat' : at_ = #[t0, t1] := toArray_of hat
    split at hty
    · rename_i e hu0 hu1
      simp only [Bool.and_eq_true, beq_iff_eq] at hty
      obtain ⟨⟨h1, h2⟩, h4⟩ := hty
      obtain ⟨i, hi, his⟩ := info_of h1
      have hib : i.bytes = 1 := by simpa [tyBytes, hi] using h2
      cases hz : tyZero X.P e with
      | none => simp [hz] at h4
      | some zv =>
        simp only [hz, beq_iff_eq] at h4
        have hz' : i.zero = some zv := by simpa [tyZero, hi] using hz
        simp only [evOp] at hev
        split at hev
        · rename_i av hav
          split at hev
          · rename_i s hs
            have es : a.eval y = .string ⟨s.toArray⟩ := rho_sound hE hcy hs
            have hfc : ∀ w' : World, (Builtin.firstCells 1 s.length (a.eval y)).run X.P w' = .ok (s.map fun b => Value.int .u8 (b.toNat : Int)).toArray w' := by
              intro w'
              rw [es]
              have := firstCells_string (P := X.P) ⟨s.toArray⟩ w'
              simpa [ByteArray.size, Go.byteCells] using this
            have hsrc : Src2 X.P 1 t1 (a.eval y) s.length (s.map fun b => Value.int .u8 (b.toNat : Int)).toArray w := ⟨.inr hu1, fun _ => by rw [es]; rfl, hfc w, hfc w.drew⟩
            rw [← hib] at hev
            obtain ⟨u, w', hrun, hgood⟩ := append_sound (P := X.P) (ty := o.type) hR (by rw [h4, his]) his (rho_sound hE hcx hav) (fun _ _ _ _ h1 h2 => append_fits hu0 hi (his ▸ hsrc) h1 h2) (fun _ _ _ _ h1 h2 h3 h4 => append_grows hu0 hi hz' (his ▸ hsrc) h1 h2 h3 h4) (by simpa using byteCells_VRs ι s) (byteCells_one s) (by simp [byteCells]) (by rw [hib] at hev ⊢; exact hev)
            refine ⟨.value u, w', u, ?_, .inl rfl, hgood⟩
            simp only [execOp, ho, hargs', hat', resolve, invoke, builtin, Sem.run_bind, Sem.run_pure, Result.andThen_ok, List.map_toArray, List.map_cons, List.map_nil, hrun]
          · cases hev
        · cases hev
    · cases hty
  · cases hty
theorem zc_sound {z : List AV} {zs : Array Value} (h : VRs ι z zs.toList) (hp : 0 < zs.size) (n : Nat) : VRs ι (zeros z (n * z.length)) (Builtin.zeroCells zs n).toList := by
  have hl : zs.size = z.length := by have := h.length; simpa using this
  have := zeros_sound h hp (n * z.length)
  unfold Builtin.zeroCells
  rw [hl] at *
  exact this

theorem zeros_one {z : List AV} (hz : z.all AV.one = true) (hp : 0 < z.length) (n : Nat) : (zeros z n).all AV.one = true := by
  simp only [zeros, List.all_eq_true, List.mem_map]
  rintro x ⟨i, _, rfl⟩
  have hm : i % z.length < z.length := Nat.mod_lt _ hp
  rw [List.getD_eq_getElem?_getD, List.getElem?_eq_getElem hm]
  exact (List.all_eq_true.1 hz) _ (List.getElem_mem hm)

theorem s_appendZ {args : Array Operand} {at_ : Array TypeId} {z : List AV} {bytes : Nat} {x' y' : Opd} (ho : o.op = .call { callee := .builtin .append, args := args, argTypes := at_ }) (hE : Env X ι p t a.tmps) (hR : Rel B ι H w)
    (hc : chkOp X o.op (.appendZ z bytes x' y') = true)
    (hev : evOp (rho p t) H (.appendZ z bytes x' y') = some (v, H')) : OpOK X a o B ι w v H' := by
  rw [ho] at hc
  simp only [chkOp, Bool.and_eq_true, decide_eq_true_eq] at hc
  obtain ⟨⟨hargs, hpos⟩, hty⟩ := hc
  obtain ⟨x, y, hxy, hcx, hcy⟩ := opds2 hargs
  have hargs' : args = #[x, y] := toArray_of hxy
  split at hty
  · rename_i t0 t1 hat
    have hat' : at_ = #[t0, t1] := toArray_of hat
    split at hty
    · rename_i e k' hu0 hu1
      simp only [Bool.and_eq_true, beq_iff_eq, decide_eq_true_eq] at hty
      obtain ⟨⟨⟨⟨h1, h2⟩, h3⟩, h5⟩, h4⟩ := hty
      obtain ⟨i, hi, his⟩ := info_of h1
      have hib : i.bytes = bytes := by simpa [tyBytes, hi] using h2
      subst hib
      cases hz : tyZero X.P e with
      | none => simp [hz] at h4
      | some zv =>
        simp only [hz] at h4
        have hz' : i.zero = some zv := by simpa [tyZero, hi] using hz
        have hv0 := constVs_sound ι _ _ h4
        have hzl : zv.cells.size = z.length := by have := hv0.length; simpa using this
        simp only [evOp] at hev
        split at hev
        · rename_i av hav
          split at hev
          · rename_i k n hn
            split at hev
            · rename_i hlim
              obtain ⟨g1, g2, g3⟩ := hlim
              have es : a.eval y = .int k n := rho_sound hE hcy hn
              obtain ⟨m, rfl⟩ := Int.eq_ofNat_of_zero_le g1
              simp only [Int.ofNat_eq_natCast, Int.toNat_natCast] at *
              have hm : m ≤ 1099511627776 := by omega
              have hml : m * i.bytes ≤ 1099511627776 := by rw [← Int.natCast_mul] at g3; omega
              have hf := fitsZ (w := w) (ty := o.type) (k := k) (t0 := t0) (tx := t1) hu0 hu1 hi hz' hm hml
              have hg := growsZ (w := w) (ty := o.type) (k := k) (t0 := t0) (tx := t1) hu0 hu1 hi hz' hm hml
              obtain ⟨u, w', hrun, hgood⟩ := append_sound (P := X.P) (ty := o.type) (t0 := t0) (tx := t1) (ys := zeros z (m * z.length)) hR (by rw [hzl, his]) his (rho_sound hE hcx hav) hf hg (by
                split
                · rename_i h0
                  rw [his] at h0; rw [h0]; rfl
                · exact zc_sound hv0 (by omega) m) (zeros_one h5 hpos _) (by simp [zeros]) hev
              refine ⟨.value u, w', u, ?_, .inl rfl, hgood⟩
              simp only [execOp, ho, hargs', hat', resolve, invoke, builtin, Sem.run_bind, Sem.run_pure, Result.andThen_ok, List.map_toArray, List.map_cons, List.map_nil, es, hrun]
            · cases hev
          · cases hev
        · cases hev
    · cases hty
  · cases hty
end
end Go.Ev
