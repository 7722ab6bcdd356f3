/- Several texts of this claim, joined. -/
import Derived.Test.YtimbiogcllmalaaDoorB
import Derived.Deep.AppendSrc
import Derived.Lib.AppendZeros
import Derived.Lib.Bytealg
import Derived.KernelRfl

/- Soundness of append. -/
namespace Go.Ev
open Go Go.RowKit
section
variable {X : Cx} {ι : Plan} {B : Nat} {H H' : Heap} {w : World} {a : Act} {p t : List (Nat × AV)} {o : Oper} {v : AV}

/-- What is appended: `n` elements. -/
structure Src2 (P : Program) (sz : Nat) (tx : TypeId) (x : Value) (n : Nat) (new : Array Value) (w : World) : Prop where
  kind : (∃ e', P.underlying tx = some (.slice e')) ∨ P.underlying tx = some .string
  len : ∀ w' : World, (Builtin.lenOf x).run P w' = .ok n w'
  cells : (Builtin.firstCells sz n x).run P w = .ok new w
  cellsD : (Builtin.firstCells sz n x).run P w.drew = .ok new w.drew

theorem append_fits {P : Program} {t0 tx ty e : TypeId} {i : TypeInfo} {n sLen sCap : Nat} {base : Option Addr} {x : Value} {new : Array Value} {w' : World}
    (ht : P.underlying t0 = some (.slice e)) (hi : P.info? e = some i) (hs : Src2 P i.size tx x n new w) (hroom : sLen + n ≤ sCap)
    (hst : (base = none ∧ w' = w) ∨ ∃ q, base = some q ∧ (storeCells (q.add (sLen * i.size)) new.toList).run P w = .ok () w') :
    (Builtin.append_ #[t0, tx] ty #[.slice base sLen sCap, x]).run P w = .ok (.slice base (sLen + n) sCap) w' := by
  rcases hst with ⟨rfl, rfl⟩ | ⟨q, rfl, hst⟩ <;> rcases hs.kind with ⟨e', hk⟩ | hk
  all_goals simp [Builtin.append_, run_underlying ht, run_underlying hk, sizeOf, typeInfo, hi, hs.len, hroom, hs.cells]
  all_goals simp [hst]

theorem append_grows {P : Program} {t0 tx ty e : TypeId} {i : TypeInfo} {zv : Value} {n sLen sCap : Nat} {base : Option Addr} {x : Value} {old new : Array Value}
    (ht : P.underlying t0 = some (.slice e)) (hi : P.info? e = some i) (hz : i.zero = some zv) (hs : Src2 P i.size tx x n new w)
    (hroom : sCap < sLen + n) (hlim : (sLen + n) * i.bytes ≤ 1099511627776) (hl2 : sLen + n ≤ 1099511627776)
    (hold : (Builtin.firstCells i.size sLen (.slice base sLen sCap)).run P w.drew = .ok old w.drew) :
    (Builtin.append_ #[t0, tx] ty #[.slice base sLen sCap, x]).run P w = .ok (.slice (some ⟨w.heap.size, 0, none⟩) (sLen + n) (grownCap w (sLen + n) sCap e))
      ((w.drew).alloc (.cells (old ++ new ++ Builtin.zeroCells zv.cells (grownCap w (sLen + n) sCap e - (sLen + n))) e)) := by
  have hn : ¬ (sLen + n ≤ sCap) := by omega
  have h63' : ¬ (9223372036854775807 < ((sLen : Int) + (n : Int))) := by omega
  have h48 : Builtin.nextslicecap (sLen + n) sCap * i.bytes ≤ 281474976710656 := by
    have h1 := nextslicecap_le hroom
    have h2 : Builtin.nextslicecap (sLen + n) sCap * i.bytes ≤ 2 * (sLen + n) * i.bytes := Nat.mul_le_mul_right _ h1
    rw [Nat.mul_assoc] at h2
    omega
  have h48' : ¬ (281474976710656 < Builtin.nextslicecap (sLen + n) sCap * i.bytes) := by omega
  rcases hs.kind with ⟨e', hk⟩ | hk <;>
    simp [Builtin.append_, run_underlying ht, run_underlying hk, sizeOf, typeInfo, zeroValue, hi, hz, hs.len, hn, h63', h48', Question.forced, hs.cellsD, hold, newRow, grownCap]

def Fits (P : Program) (t0 tx ty : TypeId) (size : Nat) (y : Value) (n : Nat) (new : Array Value) (w : World) : Prop :=
  ∀ (base : Option Addr) (sLen sCap : Nat) (w' : World), sLen + n ≤ sCap → ((base = none ∧ w' = w) ∨ ∃ q, base = some q ∧ (storeCells (q.add (sLen * size)) new.toList).run P w = .ok () w') →
    (Builtin.append_ #[t0, tx] ty #[.slice base sLen sCap, y]).run P w = .ok (.slice base (sLen + n) sCap) w'

def Grows (P : Program) (t0 tx ty e : TypeId) (i : TypeInfo) (zv : Value) (y : Value) (n : Nat) (new : Array Value) (w : World) : Prop :=
  ∀ (base : Option Addr) (sLen sCap : Nat) (old : Array Value), sCap < sLen + n → (sLen + n) * i.bytes ≤ 1099511627776 → sLen + n ≤ 1099511627776 →
    (Builtin.firstCells i.size sLen (.slice base sLen sCap)).run P w.drew = .ok old w.drew →
    (Builtin.append_ #[t0, tx] ty #[.slice base sLen sCap, y]).run P w = .ok (.slice (some ⟨w.heap.size, 0, none⟩) (sLen + n) (grownCap w (sLen + n) sCap e))
      ((w.drew).alloc (.cells (old ++ new ++ Builtin.zeroCells zv.cells (grownCap w (sLen + n) sCap e - (sLen + n))) e))

theorem fitsZ {P : Program} {t0 tx ty e : TypeId} {i : TypeInfo} {zv : Value} {k kn : IntKind} {n : Nat}
    (ht : P.underlying t0 = some (.slice e)) (htn : P.underlying tx = some (.int kn)) (hi : P.info? e = some i) (hz : i.zero = some zv) (hn : n ≤ 1099511627776) (hl : n * i.bytes ≤ 1099511627776) :
    Fits P t0 tx ty i.size (.int k n) n (if n * i.size = 0 then #[] else Builtin.zeroCells zv.cells n) w := by
  intro base sLen sCap w' hroom hst
  have hw : IntKind.i64.wrap (n : Int) = n := wrap_id (by omega) (by omega)
  have h48i : ¬ (281474976710656 < (n : Int) * (i.bytes : Int)) := by rw [← Int.natCast_mul]; omega
  have hneg : ¬ ((n : Int) < 0) := by omega
  by_cases h0 : n * i.size = 0
  · simp only [h0, if_true] at hst
    rcases hst with ⟨rfl, rfl⟩ | ⟨q, rfl, hst⟩
    · simp [Builtin.append_, run_underlying ht, run_underlying htn, sizeOf, typeInfo, hi, asInt, asIntOf, hw, hneg, h48i, hroom, h0]
    · simp [Builtin.append_, run_underlying ht, run_underlying htn, sizeOf, typeInfo, hi, asInt, asIntOf, hw, hneg, h48i, hroom, h0] at hst ⊢
      simp [hst]
  · simp only [h0, if_false] at hst
    rcases hst with ⟨rfl, rfl⟩ | ⟨q, rfl, hst⟩
    · simp [Builtin.append_, run_underlying ht, run_underlying htn, sizeOf, typeInfo, zeroValue, hi, hz, asInt, asIntOf, hw, hneg, h48i, hroom, h0]
    · simp [Builtin.append_, run_underlying ht, run_underlying htn, sizeOf, typeInfo, zeroValue, hi, hz, asInt, asIntOf, hw, hneg, h48i, hroom, h0, hst]

theorem growsZ {P : Program} {t0 tx ty e : TypeId} {i : TypeInfo} {zv : Value} {k kn : IntKind} {n : Nat}
    (ht : P.underlying t0 = some (.slice e)) (htn : P.underlying tx = some (.int kn)) (hi : P.info? e = some i) (hz : i.zero = some zv) (hn : n ≤ 1099511627776) (hl : n * i.bytes ≤ 1099511627776) :
    Grows P t0 tx ty e i zv (.int k n) n (if n * i.size = 0 then #[] else Builtin.zeroCells zv.cells n) w := by
  intro base sLen sCap old hroom hlim hl2 hold
  have hw : IntKind.i64.wrap (n : Int) = n := wrap_id (by omega) (by omega)
  have h48i : ¬ (281474976710656 < (n : Int) * (i.bytes : Int)) := by rw [← Int.natCast_mul]; omega
  have hneg : ¬ ((n : Int) < 0) := by omega
  have hnr : ¬ (sLen + n ≤ sCap) := by omega
  have h63' : ¬ (9223372036854775807 < ((sLen : Int) + (n : Int))) := by omega
  have h48 : Builtin.nextslicecap (sLen + n) sCap * i.bytes ≤ 281474976710656 := by
    have h1 := nextslicecap_le hroom
    have h2 : Builtin.nextslicecap (sLen + n) sCap * i.bytes ≤ 2 * (sLen + n) * i.bytes := Nat.mul_le_mul_right _ h1
    rw [Nat.mul_assoc] at h2
    omega
  have h48' : ¬ (281474976710656 < Builtin.nextslicecap (sLen + n) sCap * i.bytes) := by omega
  by_cases h0 : n * i.size = 0
  · simp only [h0, if_true]
    simp [Builtin.append_, run_underlying ht, run_underlying htn, sizeOf, typeInfo, zeroValue, hi, hz, asInt, asIntOf, hw, hneg, h48i, hnr, h63', h48', h0, Question.forced, hold, newRow, grownCap]
  · simp only [h0, if_false]
    simp [Builtin.append_, run_underlying ht, run_underlying htn, sizeOf, typeInfo, zeroValue, hi, hz, asInt, asIntOf, hw, hneg, h48i, hnr, h63', h48', h0, Question.forced, hold, newRow, grownCap]

/-- A new row that append made: what it holds first is known. -/
theorem new_open {c : List AV} {vs tail : Array Value} (e : TypeId) (hR : Rel B ι H w) (hr : VRs ι c vs.toList) :
    ι.le (ι.add H.size ⟨w.heap.size, 0, c.length + tail.size⟩) ∧ Rel B (ι.add H.size ⟨w.heap.size, 0, c.length + tail.size⟩) (H.push (.cells c .own)) (w.drew.alloc (.cells (vs ++ tail) e)) ∧ Below B w (w.drew.alloc (.cells (vs ++ tail) e)) := by
  have hlen : vs.size = c.length := by have := hr.length; simpa using this
  obtain ⟨h1, h2⟩ := hR.push_cells (w' := w.drew.alloc (.cells (vs ++ tail) e)) c (c.length + tail.size) (by simp) (fun k hk => by rw [Below.heap_alloc _ _ _ (by simpa using hk)]; rfl)
    (fun i x hx => by
      obtain ⟨u, hu, hru⟩ := hr.get hx
      have hi : i < vs.size := by
        rcases Nat.lt_or_ge i vs.size with h | h
        · exact h
        · rw [List.getElem?_eq_none (by simpa using h)] at hu; cases hu
      refine ⟨u, ?_, hru⟩
      have := World.cell?_alloc_new w.drew (vs ++ tail) e i
      rw [World.size_drew] at this
      rw [this, Array.getElem?_append_left hi, ← Array.getElem?_toList]; exact hu)
    ⟨Nat.le_add_right _ _, fun i hi => by
      have e1 := World.cell?_alloc_new w.drew (vs ++ tail) e i
      have e2 := World.frozen?_alloc_new w.drew (vs ++ tail) e i
      rw [World.size_drew] at e1 e2
      rw [e1, e2]
      have : i < (vs ++ tail).size := by simp; omega
      exact ⟨⟨(vs ++ tail)[i], by simp⟩, rfl⟩⟩
  exact ⟨h1, h2, ((Below.refl B w).drew).alloc (by simpa using hR.size) _⟩

theorem size_zc (z : Array Value) (n : Nat) : (Builtin.zeroCells z n).size = n * z.size := by simp [Builtin.zeroCells]

theorem VR.same_none {x : AV} {x' : Value} (h : VR ι x x') : VR ι x x' := h

/-- append: whatever is appended. -/
theorem append_sound {P : Program} {t0 tx ty e_ : TypeId} {i : TypeInfo} {zv : Value} {n sz : Nat} {x : AV} {x' y' : Value} {ys : List AV} {new : Array Value} {r : AV}
    (hR : Rel B ι H w) (hzs : zv.cells.size = i.size) (hsz : i.size = sz)
    (hx : VR ι x x') (hF : Fits P t0 tx ty i.size y' n new w) (hG : Grows P t0 tx ty e_ i zv y' n new w) (hy : VRs ι ys new.toList) (hone : ys.all AV.one = true) (hyl : ys.length = n * sz)
    (hev : appendA H sz i.bytes x n ys = some (r, H')) :
    ∃ u w', (Builtin.append_ #[t0, tx] ty #[x', y']).run P w = .ok u w' ∧ Good B ι w H' w' (fun ι' => VR ι' r u) := by
  subst hsz
  unfold appendA at hev
  split at hev
  · rename_i hn0
    subst hn0
    have hnew : new = #[] := by
      have : new.toList.length = 0 := by rw [hy.length, hyl, Nat.zero_mul]
      simpa using this
    subst hnew
    -- nothing is appended
    have key : ∀ base sLen sCap, x' = .slice base sLen sCap → sLen ≤ sCap → (Builtin.append_ #[t0, tx] ty #[x', y']).run P w = .ok x' w := by
      intro base sLen sCap e hle
      rw [e]
      have := hF base sLen sCap w (show sLen + 0 ≤ sCap by omega) (by
        cases base with
        | none => exact .inl ⟨rfl, rfl⟩
        | some q => exact .inr ⟨q, rfl, rfl⟩)
      simpa using this
    have fin : ∀ base sLen sCap, x' = .slice base sLen sCap → sLen ≤ sCap → some (x, H) = some (r, H') → ∃ u w', (Builtin.append_ #[t0, tx] ty #[x', y']).run P w = .ok u w' ∧ Good B ι w H' w' (fun ι' => VR ι' r u) := by
      intro base sLen sCap e hle h
      simp only [Option.some.injEq, Prod.mk.injEq] at h
      obtain ⟨e1, e2⟩ := h; subst e1; subst e2
      exact ⟨_, w, key base sLen sCap e hle, ι, ι.le_refl, hR, Below.refl _ _, hx⟩
    split at hev
    · exact fin none 0 0 hx (Nat.le_refl _) hev
    · split at hev
      · rename_i hle
        have hx' := hx
        obtain ⟨L, hL, e⟩ := hx'
        exact fin _ _ _ e hle hev
      · cases hev
    · have hx' := hx
      obtain ⟨L, hL, ⟨cc, hcc, _, e⟩ | ⟨h0, q, e⟩⟩ := hx'
      · exact fin _ _ _ e hcc hev
      · exact fin _ _ _ e (Nat.le_refl _) hev
    · cases hev
  · rename_i hn0
    -- a new row
    have grow : ∀ (c : List AV) (old : Array Value) (base : Option Addr) (sLen sCap : Nat) (Hk : Heap), Rel B ι Hk w → x' = .slice base sLen sCap → sCap < sLen + n → (sLen + n) * i.bytes ≤ 1099511627776 → sLen + n ≤ 1099511627776 →
        (Builtin.firstCells i.size sLen (.slice base sLen sCap)).run P w.drew = .ok old w.drew → VRs ι c old.toList → c.length = sLen * i.size → Hk.size = H.size →
        (.osl i.size H.size 0 (sLen + n), Hk.push (.cells (c ++ ys) .own)) = (r, H') → ∃ u w', (Builtin.append_ #[t0, tx] ty #[x', y']).run P w = .ok u w' ∧ Good B ι w H' w' (fun ι' => VR ι' r u) := by
      intro c old base sLen sCap Hk hRk e hcap hlim hl2 hold hc hcl hsize h
      simp only [Prod.mk.injEq] at h
      obtain ⟨e1, e2⟩ := h; subst e1; subst e2
      have hrun := hG base sLen sCap old hcap hlim hl2 hold
      rw [← e] at hrun
      have hge : sLen + n ≤ grownCap w (sLen + n) sCap e_ := grownCap_ge _ _ _ _
      generalize grownCap w (sLen + n) sCap e_ = cc at hrun hge
      have hv : VRs ι (c ++ ys) (old ++ new).toList := by rw [Array.toList_append]; exact hc.append hy
      obtain ⟨n1, n2, n3⟩ := new_open (tail := Builtin.zeroCells zv.cells (cc - (sLen + n))) e_ hRk hv
      rw [hsize] at n1 n2
      refine ⟨_, _, hrun, _, n1, n2, n3, ⟨_, Plan.add_self _ _ _, .inl ⟨cc, hge, ?_, by simp⟩⟩⟩
      simp only [List.length_append, hcl, hyl, size_zc, hzs, Nat.zero_add]
      rw [← Nat.add_mul, ← Nat.add_mul]
      exact Nat.mul_le_mul_right _ (by omega)
    have hRd : Rel B ι H w.drew := hR.world (Nat.le_refl _) (fun k _ => rfl)
    split at hev
    · -- nil
      split at hev
      · rename_i hl
        injection hev with hev
        exact grow [] #[] none 0 0 H hR hx (by omega) (by simpa using hl.1) (by simpa using hl.2) rfl rfl (by simp) rfl (by simpa using hev)
      · cases hev
    · -- a slice whose capacity is known
      rename_i b off len cap
      obtain ⟨L, hL, e⟩ := hx
      split at hev
      · rename_i hroom
        split at hev
        · rename_i c hg
          split at hev
          · rename_i hle
            injection hev with hev
            simp only [Prod.mk.injEq] at hev
            obtain ⟨e1, e2⟩ := hev; subst e1; subst e2
            have hmul : (len + n) * i.size = len * i.size + n * i.size := Nat.add_mul _ _ _
            obtain ⟨w', h1, h2, h3⟩ := storeCells_sound (P := P) hL ys new.toList H w c (off + len * i.size) (off + len * i.size) 0 hR hg hy hone (by omega) (by omega)
            have hrun := hF _ _ _ w' hroom (.inr ⟨⟨L.blk, L.base + off, none⟩, rfl, by rw [addr_add]; exact h1⟩)
            rw [e]
            exact ⟨_, w', hrun, ι, ι.le_refl, h2, h3, ⟨L, hL, rfl⟩⟩
          · cases hev
        · cases hev
      · rename_i hroom
        split at hev
        · rename_i hl
          split at hev
          · rename_i n' old hrd
            injection hev with hev
            have hn' : n' = len ∧ old.length = len * i.size := by
              simp only [readSl] at hrd
              split at hrd
              · rename_i h0; simp only [Option.some.injEq, Prod.mk.injEq] at hrd; exact ⟨by omega, by rw [← hrd.2, h0]; simp⟩
              · split at hrd
                · split at hrd
                  · rename_i hle; simp only [Option.some.injEq, Prod.mk.injEq] at hrd
                    exact ⟨hrd.1.symm, by rw [← hrd.2]; simp [rd]; omega⟩
                  · cases hrd
                · cases hrd
            rcases readSl_sound (P := P) hRd hrd (⟨L, hL, rfl⟩ : VR ι (.slice b off len cap) (.slice (some ⟨L.blk, L.base + off, none⟩) len cap)) with ⟨_, h, _⟩ | ⟨q, cap', vs, h, h1, h2⟩
            · cases h
            · injection h with q1 q2 q3
              injection q1 with q1
              subst q1
              rw [hn'.1] at h1
              exact grow old vs _ len cap H hR e (by omega) hl.1 hl.2 h1 h2 hn'.2 rfl hev
          · cases hev
        · cases hev
    · -- a slice whose capacity is not known
      rename_i s b off len
      obtain ⟨L, hL, e⟩ := hx
      split at hev
      · rename_i hl
        obtain ⟨rfl, hl1, hl2⟩ := hl
        split at hev
        · rename_i c hg
          split at hev
          · rename_i hle
            injection hev with hev
            have hbs : b < H.size := (hR.dom b L hL).1
            have hRk : Rel B ι (H.set b .dead) w := hR.kill hbs
            rcases e with ⟨cc, hcc, hext, e⟩ | ⟨h0, q, e⟩
            · by_cases hroom : len + n ≤ cc
              · -- in place
                simp only [Prod.mk.injEq] at hev
                obtain ⟨e1, e2⟩ := hev; subst e1; subst e2
                obtain ⟨m1, m2⟩ := hR.move hg hL hle
                have hmul : (len + n) * i.size = len * i.size + n * i.size := Nat.add_mul _ _ _
                have hcm : (len + n) * i.size ≤ cc * i.size := Nat.mul_le_mul_right _ hroom
                have hgn : ((H.set b .dead).push (.cells (rd c off (len * i.size)) .own)).get H.size = .cells (rd c off (len * i.size)) .own := by
                  rw [Heap.get_push, Heap.size_set, if_pos rfl]
                have hrl : (rd c off (len * i.size)).length = len * i.size := by simp [rd]; omega
                obtain ⟨w', h1, h2, h3⟩ := storeMore_sound (P := P) (Plan.add_self ι H.size ⟨L.blk, L.base + off, L.ext - off⟩) ys new.toList _ w (rd c off (len * i.size)) (len * i.size) 0 m2 hgn (VRs.mono m1 _ _ hy) hone (by omega) (by simp only; omega)
                have hrun := hF _ _ _ w' hroom (.inr ⟨⟨L.blk, L.base + off, none⟩, rfl, by
                  rw [addr_add]
                  simp only [Nat.add_assoc] at h1
                  exact h1⟩)
                rw [e]
                refine ⟨_, w', hrun, _, m1, h2.congr (fun b' => ?_) ?_, h3, ⟨_, Plan.add_self _ _ _, .inl ⟨cc, hroom, by simp only; omega, by simp⟩⟩⟩
                · rw [Heap.get_set _ _ _ _ (by rw [Heap.size_push, Heap.size_set]; omega), Heap.get_push, Heap.get_push, Heap.size_set]
                  by_cases hb' : b' = H.size
                  · simp [hb']
                  · simp [hb']
                · rfl
              · obtain ⟨vs, h1, h2⟩ := loadCells_sound (P := P) hL hRd hg off (len * i.size) hle
                exact grow (rd c off (len * i.size)) vs _ len cc (H.set b .dead) hRk e (by omega) hl1 hl2 h1 h2 (by simp [rd]; omega) rfl hev
            · subst h0
              exact grow (rd c off (0 * i.size)) #[] _ 0 0 (H.set b .dead) hRk e (by omega) hl1 hl2 (by simp [Builtin.firstCells, loadCells, loadCellsFrom]) (by rw [Nat.zero_mul]; simp [rd, VRs]) (by simp [rd]) rfl hev
          · cases hev
        · cases hev
      · cases hev
    · cases hev

theorem opds1 {x : Opd} : ∀ {args : List Operand}, chkOpds X args [x] = true → ∃ y, args = [y] ∧ chkOpd X y x = true
  | [], h => by simp [chkOpds] at h
  | [y], h => by simp [chkOpds] at h; exact ⟨y, rfl, h⟩
  | _ :: _ :: _, h => by simp [chkOpds] at h

theorem opds2 {x x2 : Opd} : ∀ {args : List Operand}, chkOpds X args [x, x2] = true → ∃ y y2, args = [y, y2] ∧ chkOpd X y x = true ∧ chkOpd X y2 x2 = true
  | [], h => by simp [chkOpds] at h
  | [y], h => by simp [chkOpds] at h
  | [y, y2], h => by simp [chkOpds] at h; exact ⟨y, y2, rfl, h⟩
  | _ :: _ :: _ :: _, h => by simp [chkOpds] at h

theorem toArray_of {α : Type} {a : Array α} {l : List α} (h : a.toList = l) : a = l.toArray := by rw [← h]

theorem info_of {P : Program} {t n : Nat} (h : tySize P t = some n) : ∃ i, P.info? t = some i ∧ i.size = n := by
  unfold tySize at h
  cases hi : P.info? t with
  | none => simp [hi] at h
  | some i => simp [hi] at h; exact ⟨i, rfl, h⟩

theorem readSl_len {sz n : Nat} {x : AV} {c : List AV} (h : readSl H sz x = some (n, c)) : c.length = n * sz := by
  cases x <;> simp only [readSl, reduceCtorEq] at h
  case nils => simp only [Option.some.injEq, Prod.mk.injEq] at h; rw [← h.1, ← h.2]; simp
  case slice =>
    split at h
    · rename_i h0; simp only [Option.some.injEq, Prod.mk.injEq] at h; rw [← h.1, ← h.2]; simp
    · split at h
      · split at h
        · simp only [Option.some.injEq, Prod.mk.injEq] at h; rw [← h.1, ← h.2]; simp [rd]; omega
        · cases h
      · cases h
  case osl =>
    split at h
    · split at h
      · rename_i h0; simp only [Option.some.injEq, Prod.mk.injEq] at h; rw [← h.1, ← h.2]; simp
      · split at h
        · split at h
          · simp only [Option.some.injEq, Prod.mk.injEq] at h; rw [← h.1, ← h.2]; simp [rd]; omega
          · cases h
        · cases h
    · cases h

theorem s_append {args : Array Operand} {at_ : Array TypeId} {sz bytes : Nat} {x' y' : Opd} (ho : o.op = .call { callee := .builtin .append, args := args, argTypes := at_ }) (hE : Env X ι p t a.tmps) (hR : Rel B ι H w)
    (hc : chkOp X o.op (.append sz bytes x' y') = true)
    (hev : evOp (rho p t) H (.append sz bytes x' y') = some (v, H')) : OpOK X a o B ι w v H' := by
  rw [ho] at hc
  simp only [chkOp, Bool.and_eq_true, decide_eq_true_eq] at hc
  obtain ⟨⟨hargs, hpos⟩, hty⟩ := hc
  obtain ⟨x, y, hxy, hcx, hcy⟩ := opds2 hargs
  have hargs' : args = #[x, y] := toArray_of hxy
  split at hty
  · rename_i t0 t1 hat
    have hat' : at_ = #[t0, t1] := toArray_of hat
    split at hty
    · rename_i e e' hu0 hu1
      simp only [Bool.and_eq_true, beq_iff_eq, decide_eq_true_eq] at hty
      obtain ⟨⟨⟨h1, h2⟩, h3⟩, h4⟩ := hty
      obtain ⟨i, hi, his⟩ := info_of h1
      have hib : i.bytes = bytes := by simpa [tyBytes, hi] using h2
      subst his; subst hib
      cases hz : tyZero X.P e with
      | none => simp [hz] at h4
      | some zv =>
        simp only [hz, beq_iff_eq] at h4
        have hz' : i.zero = some zv := by simpa [tyZero, hi] using hz
        simp only [evOp] at hev
        split at hev
        · rename_i av hav
          split at hev
          · rename_i bv hbv
            split at hev
            · rename_i n ys hrd
              split at hev
              · rename_i hone
                have hRd : Rel B ι H w.drew := hR.world (Nat.le_refl _) (fun k _ => rfl)
                have hrb := rho_sound hE hcy hbv
                have hsrc : ∃ new, Src2 X.P i.size t1 (a.eval y) n new w ∧ VRs ι ys new.toList := by
                  rcases readSl_sound2 (P := X.P) hR hrd hrb with ⟨cap, hx, rfl, rfl⟩ | ⟨q, cap, vs, hx, g1, g2⟩
                  · exact ⟨#[], ⟨.inl ⟨e', hu1⟩, fun _ => by rw [hx]; rfl, by rw [hx]; rfl, by rw [hx]; rfl⟩, rfl⟩
                  · exact ⟨vs, ⟨.inl ⟨e', hu1⟩, fun _ => by rw [hx]; rfl, by rw [hx]; exact g1.1, by rw [hx]; exact g1.2⟩, g2⟩
                obtain ⟨new, hs1, hs2⟩ := hsrc
                obtain ⟨u, w', hrun, hgood⟩ := append_sound (P := X.P) (ty := o.type) hR h4 rfl (rho_sound hE hcx hav) (fun _ _ _ _ h1 h2 => append_fits hu0 hi hs1 h1 h2) (fun _ _ _ _ h1 h2 h3 h4 => append_grows hu0 hi hz' hs1 h1 h2 h3 h4) hs2 hone (readSl_len hrd) hev
                refine ⟨.value u, w', u, ?_, .inl rfl, hgood⟩
                simp only [execOp, ho, hargs', hat', resolve, invoke, builtin, Sem.run_bind, Sem.run_pure, Result.andThen_ok, List.map_toArray, List.map_cons, List.map_nil, hrun]
              · cases hev
            · cases hev
          · cases hev
        · cases hev
    · cases hty
  · cases hty
theorem byteCells_one : ∀ s : List UInt8, (byteCells s).all AV.one = true
  | [] => rfl
  | _ :: s => by simp only [byteCells, List.map_cons, List.all_cons, AV.one, Bool.true_and]; exact byteCells_one s

theorem byteCells_VRs (ι : Plan) : ∀ s : List UInt8, VRs ι (byteCells s) (s.map fun b => Value.int .u8 (b.toNat : Int))
  | [] => rfl
  | _ :: s => ⟨_, _, rfl, rfl, byteCells_VRs ι s⟩

theorem s_appendStr {args : Array Operand} {at_ : Array TypeId} {x' y' : Opd} (ho : o.op = .call { callee := .builtin .append, args := args, argTypes := at_ }) (hE : Env X ι p t a.tmps) (hR : Rel B ι H w)
    (hc : chkOp X o.op (.appendStr x' y') = true)
    (hev : evOp (rho p t) H (.appendStr x' y') = some (v, H')) : OpOK X a o B ι w v H' := by
  rw [ho] at hc
  simp only [chkOp, Bool.and_eq_true] at hc
  obtain ⟨hargs, hty⟩ := hc
  obtain ⟨x, y, hxy, hcx, hcy⟩ := opds2 hargs
  have hargs' : args = #[x, y] := toArray_of hxy
  split at hty
  · rename_i t0 t1 hat
    have hat' : at_ = #[t0, t1] := toArray_of hat
    split at hty
    · rename_i e hu0 hu1
      simp only [Bool.and_eq_true, beq_iff_eq] at hty
      obtain ⟨⟨h1, h2⟩, h4⟩ := hty
      obtain ⟨i, hi, his⟩ := info_of h1
      have hib : i.bytes = 1 := by simpa [tyBytes, hi] using h2
      cases hz : tyZero X.P e with
      | none => simp [hz] at h4
      | some zv =>
        simp only [hz, beq_iff_eq] at h4
        have hz' : i.zero = some zv := by simpa [tyZero, hi] using hz
        simp only [evOp] at hev
        split at hev
        · rename_i av hav
          split at hev
          · rename_i s hs
            have es : a.eval y = .string ⟨s.toArray⟩ := rho_sound hE hcy hs
            have hfc : ∀ w' : World, (Builtin.firstCells 1 s.length (a.eval y)).run X.P w' = .ok (s.map fun b => Value.int .u8 (b.toNat : Int)).toArray w' := by
              intro w'
              rw [es]
              have := firstCells_string (P := X.P) ⟨s.toArray⟩ w'
              simpa [ByteArray.size, Go.byteCells] using this
            have hsrc : Src2 X.P 1 t1 (a.eval y) s.length (s.map fun b => Value.int .u8 (b.toNat : Int)).toArray w := ⟨.inr hu1, fun _ => by rw [es]; rfl, hfc w, hfc w.drew⟩
            rw [← hib] at hev
            obtain ⟨u, w', hrun, hgood⟩ := append_sound (P := X.P) (ty := o.type) hR (by rw [h4, his]) his (rho_sound hE hcx hav) (fun _ _ _ _ h1 h2 => append_fits hu0 hi (his ▸ hsrc) h1 h2) (fun _ _ _ _ h1 h2 h3 h4 => append_grows hu0 hi hz' (his ▸ hsrc) h1 h2 h3 h4) (by simpa using byteCells_VRs ι s) (byteCells_one s) (by simp [byteCells]) (by rw [hib] at hev ⊢; exact hev)
            refine ⟨.value u, w', u, ?_, .inl rfl, hgood⟩
            simp only [execOp, ho, hargs', hat', resolve, invoke, builtin, Sem.run_bind, Sem.run_pure, Result.andThen_ok, List.map_toArray, List.map_cons, List.map_nil, hrun]
          · cases hev
        · cases hev
    · cases hty
  · cases hty
theorem zc_sound {z : List AV} {zs : Array Value} (h : VRs ι z zs.toList) (hp : 0 < zs.size) (n : Nat) : VRs ι (zeros z (n * z.length)) (Builtin.zeroCells zs n).toList := by
  have hl : zs.size = z.length := by have := h.length; simpa using this
  have := zeros_sound h hp (n * z.length)
  unfold Builtin.zeroCells
  rw [hl] at *
  exact this

theorem zeros_one {z : List AV} (hz : z.all AV.one = true) (hp : 0 < z.length) (n : Nat) : (zeros z n).all AV.one = true := by
  simp only [zeros, List.all_eq_true, List.mem_map]
  rintro x ⟨i, _, rfl⟩
  have hm : i % z.length < z.length := Nat.mod_lt _ hp
  rw [List.getD_eq_getElem?_getD, List.getElem?_eq_getElem hm]
  exact (List.all_eq_true.1 hz) _ (List.getElem_mem hm)

theorem s_appendZ {args : Array Operand} {at_ : Array TypeId} {z : List AV} {bytes : Nat} {x' y' : Opd} (ho : o.op = .call { callee := .builtin .append, args := args, argTypes := at_ }) (hE : Env X ι p t a.tmps) (hR : Rel B ι H w)
    (hc : chkOp X o.op (.appendZ z bytes x' y') = true)
    (hev : evOp (rho p t) H (.appendZ z bytes x' y') = some (v, H')) : OpOK X a o B ι w v H' := by
  rw [ho] at hc
  simp only [chkOp, Bool.and_eq_true, decide_eq_true_eq] at hc
  obtain ⟨⟨hargs, hpos⟩, hty⟩ := hc
  obtain ⟨x, y, hxy, hcx, hcy⟩ := opds2 hargs
  have hargs' : args = #[x, y] := toArray_of hxy
  split at hty
  · rename_i t0 t1 hat
    have hat' : at_ = #[t0, t1] := toArray_of hat
    split at hty
    · rename_i e k' hu0 hu1
      simp only [Bool.and_eq_true, beq_iff_eq, decide_eq_true_eq] at hty
      obtain ⟨⟨⟨⟨h1, h2⟩, h3⟩, h5⟩, h4⟩ := hty
      obtain ⟨i, hi, his⟩ := info_of h1
      have hib : i.bytes = bytes := by simpa [tyBytes, hi] using h2
      subst hib
      cases hz : tyZero X.P e with
      | none => simp [hz] at h4
      | some zv =>
        simp only [hz] at h4
        have hz' : i.zero = some zv := by simpa [tyZero, hi] using hz
        have hv0 := constVs_sound ι _ _ h4
        have hzl : zv.cells.size = z.length := by have := hv0.length; simpa using this
        simp only [evOp] at hev
        split at hev
        · rename_i av hav
          split at hev
          · rename_i k n hn
            split at hev
            · rename_i hlim
              obtain ⟨g1, g2, g3⟩ := hlim
              have es : a.eval y = .int k n := rho_sound hE hcy hn
              obtain ⟨m, rfl⟩ := Int.eq_ofNat_of_zero_le g1
              simp only [Int.ofNat_eq_natCast, Int.toNat_natCast] at *
              have hm : m ≤ 1099511627776 := by omega
              have hml : m * i.bytes ≤ 1099511627776 := by rw [← Int.natCast_mul] at g3; omega
              have hf := fitsZ (w := w) (ty := o.type) (k := k) (t0 := t0) (tx := t1) hu0 hu1 hi hz' hm hml
              have hg := growsZ (w := w) (ty := o.type) (k := k) (t0 := t0) (tx := t1) hu0 hu1 hi hz' hm hml
              obtain ⟨u, w', hrun, hgood⟩ := append_sound (P := X.P) (ty := o.type) (t0 := t0) (tx := t1) (ys := zeros z (m * z.length)) hR (by rw [hzl, his]) his (rho_sound hE hcx hav) hf hg (by
                split
                · rename_i h0
                  rw [his] at h0; rw [h0]; rfl
                · exact zc_sound hv0 (by omega) m) (zeros_one h5 hpos _) (by simp [zeros]) hev
              refine ⟨.value u, w', u, ?_, .inl rfl, hgood⟩
              simp only [execOp, ho, hargs', hat', resolve, invoke, builtin, Sem.run_bind, Sem.run_pure, Result.andThen_ok, List.map_toArray, List.map_cons, List.map_nil, es, hrun]
            · cases hev
          · cases hev
        · cases hev
    · cases hty
  · cases hty
end
end Go.Ev

/- Soundness of the simple operations: lengths, the greatest of some, assertions, texts gone through; all of them. -/
namespace Go.Ev
open Go Go.RowKit
section
variable {X : Cx} {ι : Plan} {B : Nat} {H H' : Heap} {w : World} {a : Act} {p t : List (Nat × AV)} {o : Oper} {v : AV}

theorem size_mk (s : List UInt8) : ByteArray.size ⟨s.toArray⟩ = s.length := by show s.toArray.size = _; simp

theorem s_lenStr {args : Array Operand} {at_ : Array TypeId} {x' : Opd} (ho : o.op = .call { callee := .builtin .len, args := args, argTypes := at_ }) (hE : Env X ι p t a.tmps) (hR : Rel B ι H w)
    (hu : (at_[0]?).bind X.P.underlying = some .string) (hargs : chkOpds X args.toList [x'] = true)
    (hev : evOp (rho p t) H (.lenStr x') = some (v, H')) : OpOK X a o B ι w v H' := by
  obtain ⟨x, hx, hc⟩ := opds1 hargs
  have hargs' : args = #[x] := toArray_of hx
  obtain ⟨t0, ht0, hu0⟩ := Option.bind_eq_some_iff.1 hu
  simp only [evOp] at hev
  split at hev
  · rename_i s hs
    simp only [Option.some.injEq, Prod.mk.injEq] at hev
    obtain ⟨e1, e2⟩ := hev; subst e1; subst e2
    have es : a.eval x = .string ⟨s.toArray⟩ := rho_sound hE hc hs
    refine OpOK.val (u := .int .i64 s.length) hR ?_ rfl
    simp [execOp, ho, hargs', resolve, invoke, builtin, Builtin.len_, ht0, run_underlying hu0, es, goInt, size_mk]
  · cases hev

theorem s_lenSl {args : Array Operand} {at_ : Array TypeId} {x' : Opd} {e : TypeId} (ho : o.op = .call { callee := .builtin .len, args := args, argTypes := at_ }) (hE : Env X ι p t a.tmps) (hR : Rel B ι H w)
    (hu : (at_[0]?).bind X.P.underlying = some (.slice e)) (hargs : chkOpds X args.toList [x'] = true)
    (hev : evOp (rho p t) H (.lenSl x') = some (v, H')) : OpOK X a o B ι w v H' := by
  obtain ⟨x, hx, hc⟩ := opds1 hargs
  have hargs' : args = #[x] := toArray_of hx
  obtain ⟨t0, ht0, hu0⟩ := Option.bind_eq_some_iff.1 hu
  have run : ∀ (q : Option Addr) (n c : Nat), a.eval x = .slice q n c → (execOp a.eval o).run X.P w = .ok (.value (.int .i64 n)) w := by
    intro q n c es
    simp [execOp, ho, hargs', resolve, invoke, builtin, Builtin.len_, ht0, run_underlying hu0, es, goInt]
  simp only [evOp] at hev
  split at hev
  · rename_i b off n c hs
    simp only [Option.some.injEq, Prod.mk.injEq] at hev
    obtain ⟨e1, e2⟩ := hev; subst e1; subst e2
    obtain ⟨L, hL, es⟩ := rho_sound hE hc hs
    exact OpOK.val hR (run _ _ _ es) rfl
  · rename_i s b off n hs
    simp only [Option.some.injEq, Prod.mk.injEq] at hev
    obtain ⟨e1, e2⟩ := hev; subst e1; subst e2
    obtain ⟨L, hL, ⟨cc, _, _, es⟩ | ⟨h0, q, es⟩⟩ := rho_sound hE hc hs
    · exact OpOK.val hR (run _ _ _ es) rfl
    · subst h0; exact OpOK.val hR (run _ _ _ es) rfl
  · rename_i hs
    simp only [Option.some.injEq, Prod.mk.injEq] at hev
    obtain ⟨e1, e2⟩ := hev; subst e1; subst e2
    have es : a.eval x = .slice none 0 0 := rho_sound hE hc hs
    exact OpOK.val hR (run _ _ _ es) rfl
  · cases hev

theorem s_capSl {args : Array Operand} {at_ : Array TypeId} {x' : Opd} {e : TypeId} (ho : o.op = .call { callee := .builtin .cap, args := args, argTypes := at_ }) (hE : Env X ι p t a.tmps) (hR : Rel B ι H w)
    (hu : (at_[0]?).bind X.P.underlying = some (.slice e)) (hargs : chkOpds X args.toList [x'] = true)
    (hev : evOp (rho p t) H (.capSl x') = some (v, H')) : OpOK X a o B ι w v H' := by
  obtain ⟨x, hx, hc⟩ := opds1 hargs
  have hargs' : args = #[x] := toArray_of hx
  obtain ⟨t0, ht0, hu0⟩ := Option.bind_eq_some_iff.1 hu
  have run : ∀ (q : Option Addr) (n c : Nat), a.eval x = .slice q n c → (execOp a.eval o).run X.P w = .ok (.value (.int .i64 c)) w := by
    intro q n c es
    simp [execOp, ho, hargs', resolve, invoke, builtin, Builtin.cap_, ht0, run_underlying hu0, es, goInt]
  simp only [evOp] at hev
  split at hev
  · rename_i b off n c hs
    simp only [Option.some.injEq, Prod.mk.injEq] at hev
    obtain ⟨e1, e2⟩ := hev; subst e1; subst e2
    obtain ⟨L, hL, es⟩ := rho_sound hE hc hs
    exact OpOK.val hR (run _ _ _ es) rfl
  · rename_i hs
    simp only [Option.some.injEq, Prod.mk.injEq] at hev
    obtain ⟨e1, e2⟩ := hev; subst e1; subst e2
    have es : a.eval x = .slice none 0 0 := rho_sound hE hc hs
    exact OpOK.val hR (run _ _ _ es) rfl
  · cases hev

theorem minmax_fold (hE : Env X ι p t a.tmps) (mx : Bool) : ∀ (xs : List Operand) (ys : List Opd) (u : AV) (u' : Value), chkOpds X xs ys = true → VR ι u u' → minmaxA mx (rho p t) u ys = some v →
    ∃ r, ((xs.map a.eval).foldlM (if mx then Builtin.max2 else Builtin.min2) u').run X.P w = .ok r w ∧ VR ι v r
  | [], [], u, u', _, hu, h => by
    cases u <;> simp only [minmaxA, Option.some.injEq] at h <;> subst h <;> exact ⟨u', rfl, hu⟩
  | [], _ :: _, _, _, hc, _, _ => by simp [chkOpds] at hc
  | _ :: _, [], _, _, hc, _, _ => by simp [chkOpds] at hc
  | x :: xs, y :: ys, u, u', hc, hu, h => by
    simp only [chkOpds, Bool.and_eq_true] at hc
    cases u <;> simp only [minmaxA, reduceCtorEq] at h
    rename_i k m
    split at h
    · rename_i k' n hy
      have e1 : u' = .int k m := hu
      have e2 : a.eval x = .int k' n := rho_sound hE hc.1 hy
      obtain ⟨r, h1, h2⟩ := minmax_fold hE mx xs ys (.int k (if mx then (if n > m then n else m) else (if n < m then n else m))) (.int k (if mx then (if n > m then n else m) else (if n < m then n else m))) hc.2 rfl h
      refine ⟨r, ?_, h2⟩
      rw [← h1, e1, List.map_cons, List.foldlM_cons, e2]
      cases mx <;> simp [Builtin.max2, Builtin.min2]
    · cases h

theorem s_minmax {b : Builtin} {args : Array Operand} {at_ : Array TypeId} {mx : Bool} {ys : List Opd} (ho : o.op = .call { callee := .builtin b, args := args, argTypes := at_ }) (hb : b = if mx then .max else .min) (hE : Env X ι p t a.tmps) (hR : Rel B ι H w)
    (hargs : chkOpds X args.toList ys = true)
    (hev : evOp (rho p t) H (.minmax mx ys) = some (v, H')) : OpOK X a o B ι w v H' := by
  simp only [evOp] at hev
  split at hev
  · cases hev
  · rename_i y ys
    split at hev
    · rename_i u hu
      simp only [Option.map_eq_some_iff, Prod.mk.injEq] at hev
      obtain ⟨r, hr, e1, e2⟩ := hev; subst e1; subst e2
      cases hl : args.toList with
      | nil => rw [hl] at hargs; simp [chkOpds] at hargs
      | cons x xs =>
        rw [hl] at hargs
        simp only [chkOpds, Bool.and_eq_true] at hargs
        obtain ⟨z, h1, h2⟩ := minmax_fold (v := r) (w := w) hE mx xs ys _ _ hargs.2 (rho_sound hE hargs.1 hu) hr
        have hargs' : args = (x :: xs).toArray := toArray_of hl
        refine OpOK.val hR ?_ h2
        cases mx
        · simp only [Bool.false_eq_true, if_false] at hb h1; subst hb
          simp only [execOp, ho, hargs', resolve, invoke, builtin, Sem.run_bind, Sem.run_pure, Result.andThen_ok, List.map_toArray, List.map_cons, Builtin.min_, h1]
        · simp only [if_true] at hb h1; subst hb
          simp only [execOp, ho, hargs', resolve, invoke, builtin, Sem.run_bind, Sem.run_pure, Result.andThen_ok, List.map_toArray, List.map_cons, Builtin.max_, h1]
    · cases hev

theorem s_assert {x : Operand} {x' : Opd} {ts ty : TypeId} {ok : Bool} {zero : Option AV} (ho : o.op = .typeAssert x ts ty ok) (hE : Env X ι p t a.tmps) (hR : Rel B ι H w) (hc : chkOpd X x x' = true)
    (hd : notIface X.P ty = true) (hz : okZero X.P ty ok zero = true)
    (hev : evOp (rho p t) H (.assert ty zero x') = some (v, H')) : OpOK X a o B ι w v H' := by
  cases hU : X.P.underlying ty with
  | none => simp [notIface, hU] at hd
  | some D =>
    have hD : ∀ ms, D ≠ .interface ms := by intro ms e; subst e; simp [notIface, hU] at hd
    simp only [evOp] at hev
    split at hev
    · rename_i u y hy
      obtain ⟨y', ex, hr⟩ := rho_sound hE hc hy
      split at hev
      · rename_i hut
        subst hut
        simp only [Option.some.injEq, Prod.mk.injEq] at hev
        obtain ⟨e1, e2⟩ := hev; subst e1; subst e2
        cases ok <;> cases zero <;> simp [okZero] at hz
        · refine OpOK.val (u := y') hR ?_ hr
          cases D <;> first | (exact absurd rfl (hD _)) | simp [execOp, ho, ex, Instr.typeAssert, run_underlying hU]
        · refine OpOK.val (u := .tuple #[y', .bool true]) hR ?_ ⟨_, rfl, ⟨_, _, rfl, hr, ⟨_, _, rfl, rfl, rfl⟩⟩⟩
          cases D <;> first | (exact absurd rfl (hD _)) | simp [execOp, ho, ex, Instr.typeAssert, run_underlying hU]
      · rename_i hut
        cases zero with
        | none => simp at hev
        | some z =>
          simp only [Option.some.injEq, Prod.mk.injEq] at hev
          obtain ⟨e1, e2⟩ := hev; subst e1; subst e2
          cases ok <;> simp [okZero] at hz
          cases hzv : tyZero X.P ty with
          | none => simp [hzv] at hz
          | some zv =>
            simp only [hzv] at hz
            refine OpOK.val (u := .tuple #[zv, .bool false]) hR ?_ ⟨_, rfl, ⟨_, _, rfl, constV_sound ι _ _ hz, ⟨_, _, rfl, rfl, rfl⟩⟩⟩
            cases D <;> first | (exact absurd rfl (hD _)) | simp [execOp, ho, ex, Instr.typeAssert, run_underlying hU, hut, run_zeroValue' hzv]
    · rename_i hy
      have ex : a.eval x = .nilIface := rho_sound hE hc hy
      cases zero with
      | none => simp at hev
      | some z =>
        simp only [Option.some.injEq, Prod.mk.injEq] at hev
        obtain ⟨e1, e2⟩ := hev; subst e1; subst e2
        cases ok <;> simp [okZero] at hz
        cases hzv : tyZero X.P ty with
        | none => simp [hzv] at hz
        | some zv =>
          simp only [hzv] at hz
          refine OpOK.val (u := .tuple #[zv, .bool false]) hR ?_ ⟨_, rfl, ⟨_, _, rfl, constV_sound ι _ _ hz, ⟨_, _, rfl, rfl, rfl⟩⟩⟩
          cases D <;> first | (exact absurd rfl (hD _)) | simp [execOp, ho, ex, Instr.typeAssert, run_underlying hU, run_zeroValue' hzv]
    · cases hev

/-- A text gone through: a new iterator. -/
theorem Rel.push_iter (hR : Rel B ι H w) (s : List UInt8) (pos : Nat) :
    ι.le (ι.add H.size ⟨w.heap.size, 0, 0⟩) ∧ Rel B (ι.add H.size ⟨w.heap.size, 0, 0⟩) (H.push (.siter s pos)) (w.alloc (.stringIter ⟨s.toArray⟩ pos)) := by
  have hle : ι.le (ι.add H.size ⟨w.heap.size, 0, 0⟩) := Plan.add_le _ (hR.none_new (Nat.le_refl _))
  have h0 := hR.world (w' := w.alloc (.stringIter ⟨s.toArray⟩ pos)) (by simp) (fun k hk => Below.heap_alloc _ _ _ hk)
  refine ⟨hle, ?_⟩
  have hadd : ∀ b L, (ι.add H.size ⟨w.heap.size, 0, 0⟩) b = some L → (b = H.size ∧ L = ⟨w.heap.size, 0, 0⟩) ∨ (b ≠ H.size ∧ ι b = some L) := by
    intro b L e
    by_cases hbs : b = H.size
    · subst hbs; rw [Plan.add_self] at e; exact .inl ⟨rfl, by injection e with e; exact e.symm⟩
    · refine .inr ⟨hbs, ?_⟩; simpa [Plan.add, hbs] using e
  constructor
  · intro b L e
    rcases hadd b L e with ⟨rfl, rfl⟩ | ⟨hne, e'⟩
    · exact ⟨by rw [Heap.size_push]; omega, by simp⟩
    · have := h0.dom b L e'; exact ⟨by rw [Heap.size_push]; omega, this.2⟩
  · intro b c u e
    rw [Heap.get_push] at e
    split at e
    · cases e
    · obtain ⟨L, hL, hx⟩ := h0.live b c u e
      exact ⟨L, hle _ _ hL, fun i x hi => let ⟨v, hv, hr⟩ := hx i x hi; ⟨v, hv, VR.mono hle _ _ hr⟩⟩
  · intro b c L e hL
    rw [Heap.get_push] at e
    split at e
    · cases e
    · rename_i hne
      rcases hadd b L hL with ⟨h, _⟩ | ⟨_, e'⟩
      · exact absurd h hne
      · exact h0.own b c L e e'
  · intro b s' p' e
    rw [Heap.get_push] at e
    split at e
    · rename_i hb
      subst hb
      injection e with e1 e2; subst e1; subst e2
      exact ⟨_, Plan.add_self _ _ _, hR.size, rfl, by simp only [World.alloc]; rw [Array.getElem?_push_size]⟩
    · obtain ⟨L, hL, r⟩ := h0.iter b s' p' e
      exact ⟨L, hle _ _ hL, r⟩
  · intro b es
    rw [Heap.get_push]
    split
    · intro e; cases e
    · exact hR.nomap b es
  · intro b b' L L' hne ho hd e e'
    rcases hadd b L e with ⟨rfl, rfl⟩ | ⟨hb1, e1⟩
    · rcases hadd b' L' e' with ⟨rfl, rfl⟩ | ⟨hb2, e2⟩
      · exact absurd rfl hne
      · have := (hR.dom b' L' e2).2; simp only; omega
    · rcases hadd b' L' e' with ⟨rfl, rfl⟩ | ⟨hb2, e2⟩
      · have := (hR.dom b L e1).2; simp only; omega
      · refine hR.inj b b' L L' hne ?_ ?_ e1 e2
        · unfold Owned at *; simpa only [Heap.get_push, if_neg hb1] using ho
        · simpa only [Heap.get_push, if_neg hb2] using hd
  · exact h0.size

/-- An iterator goes on. -/
theorem Rel.set_iter (hR : Rel B ι H w) {b : Nat} {s s' : List UInt8} {pos pos' : Nat} {L : Loc} (hg : H.get b = .siter s pos) (hL : ι b = some L) :
    Rel B ι (H.set b (.siter s' pos')) { w with heap := w.heap.setIfInBounds L.blk (.stringIter ⟨s'.toArray⟩ pos') } ∧ Below B w { w with heap := w.heap.setIfInBounds L.blk (.stringIter ⟨s'.toArray⟩ pos') } := by
  obtain ⟨L', hL', q1, q2, q3⟩ := hR.iter b s pos hg
  rw [hL] at hL'; injection hL' with hL'; subst hL'
  have hbs := (hR.dom b L hL).1
  have hls := (hR.dom b L hL).2
  have hget : ∀ b', (H.set b (.siter s' pos')).get b' = if b' = b then .siter s' pos' else H.get b' := fun b' => Heap.get_set _ _ _ _ hbs
  have hoth : ∀ k, k ≠ L.blk → (w.heap.setIfInBounds L.blk (.stringIter ⟨s'.toArray⟩ pos'))[k]? = w.heap[k]? := fun k hk => Array.getElem?_setIfInBounds_ne (Ne.symm hk)
  have hown : Owned H b := .inr (.inl ⟨s, pos, hg⟩)
  have hblk : ∀ b' L', b' ≠ b → H.get b' ≠ .dead → ι b' = some L' → L'.blk ≠ L.blk := fun b' L' hne hd e => (hR.inj b b' L L' (Ne.symm hne) hown hd hL e).symm
  refine ⟨?_, ⟨rfl, rfl, rfl, by simp, fun k hk => hoth k (by omega)⟩⟩
  constructor
  · intro b' L' e
    have := hR.dom b' L' e
    exact ⟨this.1, by simpa using this.2⟩
  · intro b' c u e
    rw [hget] at e
    by_cases hb : b' = b
    · rw [if_pos hb] at e; cases e
    · rw [if_neg hb] at e
      obtain ⟨L', hL', hx⟩ := hR.live b' c u e
      refine ⟨L', hL', fun i y hy => ?_⟩
      rw [cell_blk (w := w) (hoth _ (hblk b' L' hb (by rw [e]; simp) hL'))]
      exact hx i y hy
  · intro b' c L' e hL'
    rw [hget] at e
    by_cases hb : b' = b
    · rw [if_pos hb] at e; cases e
    · rw [if_neg hb] at e
      have hne := hblk b' L' hb (by rw [e]; simp) hL'
      obtain ⟨p1, p2, p3⟩ := hR.own b' c L' e hL'
      refine ⟨p1, p2, fun i hi => ?_⟩
      rw [cell_blk (w := w) (hoth _ hne), frozen_blk (w := w) (hoth _ hne)]
      exact p3 i hi
  · intro b' s2 p2 e
    rw [hget] at e
    by_cases hb : b' = b
    · subst hb
      rw [if_pos rfl] at e; injection e with e1 e2; subst e1; subst e2
      exact ⟨L, hL, q1, q2, by simp [hls]⟩
    · rw [if_neg hb] at e
      obtain ⟨L', hL', r1, r2, r3⟩ := hR.iter b' s2 p2 e
      exact ⟨L', hL', r1, r2, by show (w.heap.setIfInBounds _ _)[_]? = _; rw [hoth _ (hblk b' L' hb (by rw [e]; simp) hL')]; exact r3⟩
  · intro b' es
    rw [hget]
    split
    · intro e; cases e
    · exact hR.nomap b' es
  · intro b1 b2 L1 L2 hne ho hd e1 e2
    refine hR.inj b1 b2 L1 L2 hne ?_ ?_ e1 e2
    · unfold Owned at ho
      simp only [hget] at ho
      by_cases hb : b1 = b
      · subst hb; exact hown
      · unfold Owned; simpa only [if_neg hb] using ho
    · rw [hget] at hd
      by_cases hb : b2 = b
      · subst hb; rw [hg]; simp
      · simpa only [if_neg hb] using hd
  · simpa using hR.size

theorem s_rangeStr {ty : TypeId} {x : Operand} {x' : Opd} (ho : o.op = .range ty x) (hE : Env X ι p t a.tmps) (hR : Rel B ι H w) (hu : X.P.underlying ty = some .string) (hc : chkOpd X x x' = true)
    (hev : evOp (rho p t) H (.rangeStr x') = some (v, H')) : OpOK X a o B ι w v H' := by
  simp only [evOp] at hev
  split at hev
  · rename_i s hs
    simp only [Option.some.injEq, Prod.mk.injEq] at hev
    obtain ⟨e1, e2⟩ := hev; subst e1; subst e2
    have es : a.eval x = .string ⟨s.toArray⟩ := rho_sound hE hc hs
    obtain ⟨h1, h2⟩ := hR.push_iter s 0
    refine ⟨_, _, .pointer (some ⟨w.heap.size, 0, none⟩), ?_, .inl rfl, _, h1, h2, (Below.refl B w).alloc hR.size _, ⟨_, Plan.add_self _ _ _, by simp⟩⟩
    simp [execOp, ho, es, Instr.range, run_underlying hu]
  · cases hev

theorem s_nextStr {x : Operand} {x' : Opd} (ho : o.op = .next x true) (hE : Env X ι p t a.tmps) (hR : Rel B ι H w) (hc : chkOpd X x x' = true)
    (hev : evOp (rho p t) H (.nextStr x') = some (v, H')) : OpOK X a o B ι w v H' := by
  simp only [evOp] at hev
  split at hev
  · rename_i b hb
    obtain ⟨L, hL, es⟩ := rho_sound hE hc hb
    split at hev
    · rename_i s pos hg
      obtain ⟨L', hL', q1, q2, q3⟩ := hR.iter b s pos hg
      rw [hL] at hL'; injection hL' with hL'; subst hL'
      rw [q2] at es
      have hget : (getObj L.blk).run X.P w = .ok (.stringIter ⟨s.toArray⟩ pos) w := by simp only [getObj, Sem.run, q3]
      split at hev
      · rename_i hpos
        simp only [Option.some.injEq, Prod.mk.injEq] at hev
        obtain ⟨e1, e2⟩ := hev; subst e1; subst e2
        obtain ⟨h1, h2⟩ := hR.set_iter (s' := s) (pos' := pos + (Utf8.decode ⟨s.toArray⟩ pos).2) hg hL
        refine ⟨_, _, .tuple #[.bool true, .int .i64 pos, .int .i32 (Utf8.decode ⟨s.toArray⟩ pos).1], ?_, .inl rfl, ι, ι.le_refl, h1, h2, ⟨_, rfl, ⟨_, _, rfl, rfl, ⟨_, _, rfl, rfl, ⟨_, _, rfl, rfl, rfl⟩⟩⟩⟩⟩
        have hsz : pos < (⟨s.toArray⟩ : ByteArray).size := by simpa [ByteArray.size] using hpos
        have hset : ∀ ob, (setObj L.blk ob).run X.P w = .ok () { w with heap := w.heap.setIfInBounds L.blk ob } := fun ob => by simp only [setObj, Sem.run, q3]
        simp only [execOp, ho, es, Instr.next, Sem.run_bind, hget, Result.andThen_ok, if_pos hsz, hset, Sem.run_pure, goInt]
      · rename_i hpos
        simp only [Option.some.injEq, Prod.mk.injEq] at hev
        obtain ⟨e1, e2⟩ := hev; subst e1; subst e2
        refine OpOK.val (u := .tuple #[.bool false]) hR ?_ ⟨_, rfl, ⟨_, _, rfl, rfl, rfl⟩⟩
        have hsz : ¬ pos < (⟨s.toArray⟩ : ByteArray).size := by simpa [ByteArray.size] using hpos
        simp only [execOp, ho, es, Instr.next, Sem.run_bind, hget, Result.andThen_ok, if_neg hsz, Sem.run_pure]
    · cases hev
  · cases hev

theorem idxByteA_eq (c : UInt8) : ∀ (l : List UInt8) (i : Nat), idxByteA c l i = if Lib.indexByte l c = -1 then -1 else Lib.indexByte l c + i
  | [], i => by simp [idxByteA, Lib.indexByte]
  | b :: l, i => by
    have hge := Lib.indexByte_ge l c
    simp only [idxByteA, Lib.indexByte, beq_iff_eq]
    by_cases hb : b = c
    · simp [hb]
    · rw [if_neg hb, if_neg hb, idxByteA_eq c l (i + 1)]
      by_cases h1 : Lib.indexByte l c = -1
      · simp [h1]
      · rw [if_neg h1, if_neg h1, if_neg (by omega)]
        omega

theorem find_idxByte {fn : Func} (hn : fn.name = "internal/bytealg.IndexByteString") (ho : fn.origin = "") : Extern.findNext fn = none ∧ Extern.find fn = some Extern.BytealgIndexByte.indexByte := by
  obtain ⟨name, origin, targs, params, resultTypes, nfree, ntmps, results, body, norace, ours, file, endLine, litNo, met, tmpNames⟩ := fn
  simp only at hn ho
  subst hn; subst ho
  exact ⟨by kernel_rfl, by kernel_rfl⟩

theorem s_idxByte {f : FuncId} {args : Array Operand} {at_ : Array TypeId} {x' y' : Opd} (ho : o.op = .call { callee := .value (.func f), args := args, argTypes := at_ }) (hE : Env X ι p t a.tmps) (hR : Rel B ι H w)
    (hargs : chkOpds X args.toList [x', y'] = true)
    (hf : isIdxByte X.P f = true)
    (hev : evOp (rho p t) H (.idxByte x' y') = some (v, H')) : OpOK X a o B ι w v H' := by
  obtain ⟨x, y, hx, hc, hc2⟩ := opds2 hargs
  have hargs' : args = #[x, y] := toArray_of hx
  cases hfn : X.P.funcs[f]? with
  | none => simp [isIdxByte, hfn] at hf
  | some fn =>
    simp only [isIdxByte, hfn, Bool.and_eq_true, beq_iff_eq] at hf
    obtain ⟨⟨hb, hn⟩, horig⟩ := hf
    obtain ⟨g1, g2⟩ := find_idxByte hn horig
    simp only [evOp] at hev
    split at hev
    · rename_i s hs
      split at hev
      · rename_i c hcv
        simp only [Option.some.injEq, Prod.mk.injEq] at hev
        obtain ⟨e1, e2⟩ := hev; subst e1; subst e2
        have es : a.eval x = .string ⟨s.toArray⟩ := rho_sound hE hc hs
        have ec : a.eval y = .int .u8 c := rho_sound hE hc2 hcv
        refine OpOK.val (u := .int .i64 (idxByteA (UInt8.ofNat c.toNat) s 0)) hR ?_ rfl
        have hval : idxByteA (UInt8.ofNat c.toNat) s 0 = Lib.indexByte s (UInt8.ofNat c.toNat) := by
          rw [idxByteA_eq]
          split
          · rename_i h; exact h.symm
          · simp
        have hne : (fn.name == "runtime.NumGoroutine") = false := by rw [hn]; kernel_rfl
        have hlook := run_callFunc_extern hfn hne hb g1 g2 #[.string ⟨s.toArray⟩, .int .u8 c] w
        rw [Lib.run_indexByteString] at hlook
        have ef : a.eval (.func f) = .func (.func f) #[] #[] := rfl
        rw [hval]
        simp only [execOp, ho, hargs', resolve, Deferred.ofValue, ef, invoke, Sem.run_bind, Sem.run_pure, Result.andThen_ok, List.map_toArray, List.map_cons, List.map_nil, Array.append_empty, Array.empty_append, es, ec, hlook]
      · cases hev
    · cases hev
def simpleC : COp → Bool
  | .call _ _ => false
  | .callP _ _ _ => false
  | .callV _ _ => false
  | .dfr _ _ => false
  | .panic _ => false
  | .recover => false
  | _ => true

theorem elemInt_of {P : Program} {e : TypeId} {k : IntKind} (h : isElemInt P e k = true) : P.underlying e = some (.int k) := by
  unfold isElemInt at h
  split at h
  · rename_i j hj; rw [hj, of_decide_eq_true h]
  · cases h

theorem some_of_underlying {P : Program} {s : TypeId} {e : TypeDesc} (h : P.underlying s = some e) : ∃ e, P.underlying s = some e := ⟨e, h⟩

set_option maxHeartbeats 4000000 in
/-- Every simple operation. -/
theorem op_sound {c : COp} (hc : chkOp X o.op c = true) (hs : simpleC c = true) (hE : Env X ι p t a.tmps) (hR : Rel B ι H w) (hev : evOp (rho p t) H c = some (v, H')) : OpOK X a o B ι w v H' := by
  cases hop : o.op
  case move x => rw [hop] at hc; cases c <;> first | (simp [chkOp] at hc; done) | (simp [simpleC] at hs; done) | exact s_mov (.inl hop) hE hR hc hev
  case assign x => rw [hop] at hc; cases c <;> first | (simp [chkOp] at hc; done) | (simp [simpleC] at hs; done) | exact s_mov (.inr hop) hE hR hc hev
  case pick x y z => rw [hop] at hc; cases c <;> first | (simp [chkOp] at hc; done) | (simp [simpleC] at hs; done) | exact s_pick hop hE hR hc hev
  case alloc e => rw [hop] at hc; cases c <;> first | (simp [chkOp] at hc; done) | (simp [simpleC] at hs; done) | exact s_alloc hop hR hc hev
  case box e x => rw [hop] at hc; cases c <;> first | (simp [chkOp] at hc; done) | (simp [simpleC] at hs; done) | exact s_box hop hE hR hc hev
  case build ty ps => cases c <;> first | (rw [hop] at hc; simp [chkOp] at hc; done) | (simp [simpleC] at hs; done) | exact s_build hop hE hR hc hev
  case buildSlice ty len ps => cases c <;> first | (rw [hop] at hc; simp [chkOp] at hc; done) | (simp [simpleC] at hs; done) | exact s_lit hop hE hR hc hev
  case load ty x =>
    rw [hop] at hc; cases c <;> first | (simp [chkOp] at hc; done) | (simp [simpleC] at hs; done) | skip
    · simp only [chkOp, Bool.and_eq_true, beq_iff_eq] at hc; exact s_load1 hop hE hR hc.1 hc.2 hev
    · simp only [chkOp, Bool.and_eq_true, beq_iff_eq] at hc; exact s_loadN hop hE hR hc.1.1 hc.1.2 hc.2 hev
  case store ty x y =>
    rw [hop] at hc; cases c <;> first | (simp [chkOp] at hc; done) | (simp [simpleC] at hs; done) | skip
    simp only [chkOp, Bool.and_eq_true, beq_iff_eq] at hc; exact s_store hop hE hR hc.1.1 hc.1.2 hc.2 hev
  case nilCheck x => rw [hop] at hc; cases c <;> first | (simp [chkOp] at hc; done) | (simp [simpleC] at hs; done) | exact s_nilCheck hop hE hR hc hev
  case binOp op ty x y ty' =>
    rw [hop] at hc; cases c <;> first | (simp [chkOp] at hc; done) | (simp [simpleC] at hs; done) | skip
    · simp only [chkOp, Bool.and_eq_true, decide_eq_true_eq] at hc
      obtain ⟨⟨rfl, h2⟩, h3⟩ := hc
      exact s_bin hop hE hR h2 h3 hev
    · simp only [chkOp, Bool.and_eq_true] at hc
      exact s_eqv hop hE hR hc.1.1.1.1 hc.1.1.1.2 hc.1.1.2 hc.1.2 hc.2 hev
  case unOp op ty x =>
    rw [hop] at hc; cases c <;> first | (simp [chkOp] at hc; done) | (simp [simpleC] at hs; done) | skip
    simp only [chkOp, Bool.and_eq_true, decide_eq_true_eq] at hc
    obtain ⟨rfl, h2⟩ := hc
    exact s_un hop hE hR h2 hev
  case convert s d x =>
    rw [hop] at hc; cases c <;> first | (simp [chkOp] at hc; done) | (simp [simpleC] at hs; done) | skip
    · -- convI
      simp only [chkOp, Bool.and_eq_true] at hc
      obtain ⟨h1, h2⟩ := hc
      simp only [isIntTo] at h1
      split at h1
      · rename_i es k' hs' hd'
        simp only [decide_eq_true_eq] at h1
        subst h1
        exact s_convI hop hE hR hd' ⟨_, hs'⟩ h2 hev
      · cases h1
    · simp only [chkOp, Bool.and_eq_true] at hc
      obtain ⟨h1, h2⟩ := hc
      split at h1
      · rename_i es hs' hd'; exact s_strStr hop hE hR hd' ⟨_, hs'⟩ h2 hev
      · cases h1
    · simp only [chkOp, Bool.and_eq_true] at hc
      obtain ⟨h1, h2⟩ := hc
      split at h1
      · rename_i es hs' hd'; exact s_intStr hop hE hR hd' ⟨_, hs'⟩ h2 hev
      · cases h1
    · simp only [chkOp, Bool.and_eq_true] at hc
      obtain ⟨h1, h2⟩ := hc
      split at h1
      · rename_i es e hs' hd'
        exact s_strBytes hop hE hR hd' (elemInt_of h1) ⟨_, hs'⟩ h2 hev
      · cases h1
    · simp only [chkOp, Bool.and_eq_true] at hc
      obtain ⟨h1, h2⟩ := hc
      split at h1
      · rename_i es hs' hd'
        exact s_bytesStr hop hE hR hd' (elemInt_of h1) hs' h2 hev
      · cases h1
  case makeInterface ty x =>
    rw [hop] at hc; cases c <;> first | (simp [chkOp] at hc; done) | (simp [simpleC] at hs; done) | skip
    simp only [chkOp, Bool.and_eq_true, beq_iff_eq] at hc
    obtain ⟨⟨rfl, h2⟩, h3⟩ := hc
    exact s_mkIface hop hE hR h2 h3 hev
  case makeFunc fn first caps =>
    rw [hop] at hc; cases c <;> first | (cases fn <;> simp [chkOp] at hc; done) | (simp [simpleC] at hs; done) | skip
    cases fn <;> first | (simp [chkOp] at hc; done) | skip
    simp only [chkOp, Bool.and_eq_true, beq_iff_eq] at hc
    obtain ⟨⟨rfl, h2⟩, h3⟩ := hc
    exact s_mkFn hop hE hR h2 h3 hev
  case makeSlice ty l c' =>
    rw [hop] at hc; cases c <;> first | (simp [chkOp] at hc; done) | (simp [simpleC] at hs; done) | skip
    simp only [chkOp, Bool.and_eq_true] at hc
    obtain ⟨⟨h1, h2⟩, h3⟩ := hc
    split at h3
    · rename_i e hu
      split at h3
      · rename_i s zv hsz hz
        simp only [Bool.and_eq_true, beq_iff_eq, decide_eq_true_eq] at h3
        obtain ⟨⟨⟨g1, g2⟩, g3⟩, g4⟩ := h3
        subst g3
        exact s_mkSlice hop hE hR hu hsz hz g1 g2 g4 h1 h2 hev
      · cases h3
    · cases h3
  case slice ty x lo hi mx =>
    rw [hop] at hc; cases c <;> first | (simp [chkOp] at hc; done) | (simp [simpleC] at hs; done) | skip
    · simp only [chkOp, Bool.and_eq_true] at hc
      obtain ⟨⟨⟨⟨h1, h2⟩, h3⟩, h4⟩, h5⟩ := hc
      split at h1
      · rename_i hu; exact s_sliceStr hop hE hR hu h2 h3 h4 (by simpa using h5) hev
      · cases h1
    · simp only [chkOp, Bool.and_eq_true] at hc
      obtain ⟨⟨⟨⟨⟨h1, h2⟩, h3⟩, h4⟩, h5⟩, h6⟩ := hc
      split at h1
      · rename_i e hu; exact s_sliceSl hop hE hR hu (by simpa using h1) h2 h3 h4 h5 h6 hev
      · cases h1
    · simp only [chkOp, Bool.and_eq_true] at hc
      obtain ⟨⟨⟨⟨⟨h1, h2⟩, h3⟩, h4⟩, h5⟩, h6⟩ := hc
      split at h1
      · rename_i n e hu
        simp only [Bool.and_eq_true, beq_iff_eq] at h1
        obtain ⟨rfl, h1⟩ := h1
        exact s_sliceArr hop hE hR hu h1 h2 h3 h4 h5 h6 hev
      · cases h1
  case fieldAddr s x f =>
    rw [hop] at hc; cases c <;> first | (simp [chkOp] at hc; done) | (simp [simpleC] at hs; done) | skip
    simp only [chkOp, Bool.and_eq_true] at hc
    obtain ⟨h1, h2⟩ := hc
    split at h1
    · rename_i fs hu
      split at h1
      · rename_i fd hf
        simp only [Bool.and_eq_true, beq_iff_eq] at h1
        obtain ⟨g1, g2⟩ := h1
        split at g2
        · rename_i n hn; exact s_fieldAddr hop hE hR hu hf g1 hn (by simpa using g2) h2 hev
        · cases g2
      · cases h1
    · cases h1
  case field s x f =>
    rw [hop] at hc; cases c <;> first | (simp [chkOp] at hc; done) | (simp [simpleC] at hs; done) | skip
    · simp only [chkOp, Bool.and_eq_true] at hc
      obtain ⟨h1, h2⟩ := hc
      split at h1
      · rename_i fs hu
        split at h1
        · rename_i fd hf
          simp only [Bool.and_eq_true, beq_iff_eq] at h1
          exact s_field1 hop hE hR hu hf h1.1 h1.2 h2 hev
        · cases h1
      · cases h1
    · simp only [chkOp, Bool.and_eq_true] at hc
      obtain ⟨h1, h2⟩ := hc
      split at h1
      · rename_i fs hu
        split at h1
        · rename_i fd hf
          simp only [Bool.and_eq_true, beq_iff_eq] at h1
          exact s_fieldN hop hE hR hu hf h1.1.1 h1.1.2 h1.2 h2 hev
        · cases h1
      · cases h1
  case indexAddr ty x i =>
    rw [hop] at hc; cases c <;> first | (simp [chkOp] at hc; done) | (simp [simpleC] at hs; done) | skip
    · simp only [chkOp, Bool.and_eq_true] at hc
      obtain ⟨⟨h1, h2⟩, h3⟩ := hc
      split at h1
      · rename_i e hu; exact s_idxAddr hop hE hR hu (by simpa using h1) h2 h3 hev
      · cases h1
    · simp only [chkOp, Bool.and_eq_true] at hc
      obtain ⟨⟨h1, h2⟩, h3⟩ := hc
      split at h1
      · rename_i n e hu
        simp only [Bool.and_eq_true, beq_iff_eq] at h1
        obtain ⟨rfl, h1⟩ := h1
        exact s_idxArr hop hE hR hu h1 h2 h3 hev
      · cases h1
  case index ty x i =>
    rw [hop] at hc; cases c <;> first | (simp [chkOp] at hc; done) | (simp [simpleC] at hs; done) | skip
    · simp only [chkOp, Bool.and_eq_true] at hc
      obtain ⟨⟨h1, h2⟩, h3⟩ := hc
      split at h1
      · rename_i hu; exact s_idxStr hop hE hR hu h2 h3 hev
      · cases h1
    · simp only [chkOp, Bool.and_eq_true] at hc
      obtain ⟨⟨h1, h2⟩, h3⟩ := hc
      split at h1
      · rename_i n e hu
        simp only [Bool.and_eq_true, beq_iff_eq] at h1
        obtain ⟨⟨rfl, h1⟩, h4⟩ := h1
        exact s_idxAgg hop hE hR hu h1 h4 h2 h3 hev
      · cases h1
  case extract x i =>
    rw [hop] at hc; cases c <;> first | (simp [chkOp] at hc; done) | (simp [simpleC] at hs; done) | skip
    simp only [chkOp, Bool.and_eq_true, beq_iff_eq] at hc
    obtain ⟨rfl, h2⟩ := hc
    exact s_extract hop hE hR h2 hev
  case typeAssert x ts ty ok =>
    rw [hop] at hc; cases c <;> first | (simp [chkOp] at hc; done) | (simp [simpleC] at hs; done) | skip
    simp only [chkOp, Bool.and_eq_true, beq_iff_eq] at hc
    obtain ⟨⟨⟨rfl, h2⟩, h3⟩, h4⟩ := hc
    exact s_assert hop hE hR h2 h3 h4 hev
  case range ty x =>
    rw [hop] at hc; cases c <;> first | (simp [chkOp] at hc; done) | (simp [simpleC] at hs; done) | skip
    simp only [chkOp, Bool.and_eq_true] at hc
    obtain ⟨h1, h2⟩ := hc
    split at h1
    · rename_i hu; exact s_rangeStr hop hE hR hu h2 hev
    · cases h1
  case next x s =>
    rw [hop] at hc; cases c <;> first | (simp [chkOp] at hc; done) | (simp [simpleC] at hs; done) | skip
    simp only [chkOp, Bool.and_eq_true] at hc
    obtain ⟨rfl, h2⟩ := hc
    exact s_nextStr hop hE hR h2 hev
  case call cl =>
    obtain ⟨callee, args, at_⟩ := cl
    cases callee with
    | invoke r m => rw [hop] at hc; cases c <;> simp [chkOp] at hc
    | value f =>
      cases c <;> first | (simp [simpleC] at hs; done) | skip
      all_goals first | (rw [hop] at hc; cases f <;> simp [chkOp] at hc; done) | skip
      rw [hop] at hc
      cases f <;> first | (simp [chkOp] at hc; done) | skip
      simp only [chkOp, Bool.and_eq_true] at hc
      exact s_idxByte hop hE hR hc.1 hc.2 hev
    | builtin b =>
      cases c <;> first | (simp [simpleC] at hs; done) | skip
      all_goals first | (rw [hop] at hc; cases b <;> simp [chkOp] at hc; done) | skip
      · rw [hop] at hc
        cases b <;> first | (simp [chkOp] at hc; done) | skip
        simp only [chkOp, Bool.and_eq_true] at hc
        obtain ⟨h1, h2⟩ := hc
        split at h1
        · rename_i hu; exact s_lenStr hop hE hR hu h2 hev
        · cases h1
      · rw [hop] at hc
        cases b <;> first | (simp [chkOp] at hc; done) | skip
        simp only [chkOp, Bool.and_eq_true] at hc
        obtain ⟨h1, h2⟩ := hc
        split at h1
        · rename_i e hu; exact s_lenSl hop hE hR hu h2 hev
        · cases h1
      · rw [hop] at hc
        cases b <;> first | (simp [chkOp] at hc; done) | skip
        simp only [chkOp, Bool.and_eq_true] at hc
        obtain ⟨h1, h2⟩ := hc
        split at h1
        · rename_i e hu; exact s_capSl hop hE hR hu h2 hev
        · cases h1
      · cases b <;> first | (rw [hop] at hc; simp [chkOp] at hc; done) | skip
        exact s_append hop hE hR hc hev
      · cases b <;> first | (rw [hop] at hc; simp [chkOp] at hc; done) | skip
        exact s_appendStr hop hE hR hc hev
      · cases b <;> first | (rw [hop] at hc; simp [chkOp] at hc; done) | skip
        exact s_appendZ hop hE hR hc hev
      · rw [hop] at hc
        cases b <;> first | (simp [chkOp] at hc; done) | skip
        all_goals simp only [chkOp, Bool.and_eq_true] at hc
        · exact s_minmax hop (by rw [hc.1]; rfl) hE hR hc.2 hev
        · obtain ⟨h1, h2⟩ := hc
          simp only [Bool.not_eq_true'] at h1
          subst h1
          exact s_minmax hop rfl hE hR h2 hev
  case defer cl =>
    cases c <;> first | (simp [simpleC] at hs; done) | skip
    all_goals (rw [hop] at hc; obtain ⟨callee, args, at_⟩ := cl; cases callee <;> exact absurd hc Bool.false_ne_true)
  case panic x =>
    cases c <;> first | (simp [simpleC] at hs; done) | skip
    all_goals (rw [hop] at hc; exact absurd hc Bool.false_ne_true)
  all_goals (rw [hop] at hc; cases c <;> exact absurd hc Bool.false_ne_true)
end
end Go.Ev

/- How a frame's state lies in the model; one operation of a region. -/
namespace Go.Ev
open Go Go.RowKit

/-- Panics on their way. -/
def ChR (ι : Plan) : List (AV × Bool) → List PanicEntry → Prop
  | [], l => l = []
  | (v, r) :: ch, l => ∃ v' l', l = { v := v', recovered := r, goexit := false } :: l' ∧ VR ι v v' ∧ ChR ι ch l'

theorem ChR.mono {ι ι' : Plan} (h : ι.le ι') : ∀ {ch : List (AV × Bool)} {l : List PanicEntry}, ChR ι ch l → ChR ι' ch l
  | [], _, e => e
  | _ :: _, _, ⟨v', l', e, r, rs⟩ => ⟨v', l', e, VR.mono h _ _ r, ChR.mono h rs⟩

theorem ChR.append {ι : Plan} : ∀ {a b : List (AV × Bool)} {l m : List PanicEntry}, ChR ι a l → ChR ι b m → ChR ι (a ++ b) (l ++ m)
  | [], _, _, _, e, h => by rw [e]; exact h
  | _ :: _, _, _, _, ⟨v', l', e, r, rs⟩, h => by rw [e]; exact ⟨v', _, rfl, r, ChR.append rs h⟩

/-- Deferred calls. -/
def DefR (ι : Plan) : List (FuncId × List AV) → List Deferred → Prop
  | [], l => l = []
  | (f, args) :: ds, l => ∃ cap vs l', l = { target := .fn (.func f) cap, args := vs } :: l' ∧ VRs ι args (vs ++ cap).toList ∧ DefR ι ds l'

theorem DefR.mono {ι ι' : Plan} (h : ι.le ι') : ∀ {ds : List (FuncId × List AV)} {l : List Deferred}, DefR ι ds l → DefR ι' ds l
  | [], _, e => e
  | _ :: _, _, ⟨c, v', l', e, r, rs⟩ => ⟨c, v', l', e, VRs.mono h _ _ r, DefR.mono h rs⟩

def ModeR (ι : Plan) : Up → FrameMode → Prop
  | .norm, _ => False
  | .ret, m => m = .returning
  | .pan ch, m => ∃ l, m = .panicking l ∧ ChR ι ch l

theorem ModeR.mono {ι ι' : Plan} (h : ι.le ι') : ∀ {u : Up} {m : FrameMode}, ModeR ι u m → ModeR ι' u m
  | .norm, _, e => e
  | .ret, _, e => e
  | .pan _, _, ⟨l, e, r⟩ => ⟨l, e, ChR.mono h r⟩

/-- What stands behind a frame: `cs0` when it was entered, `cs` now. -/
def UpR (ι : Plan) (κ : CallKind) (cs0 : List Frame) (u : Up) (cs : List Frame) : Prop :=
  (κ = .normal ∧ u = .norm ∧ cs = cs0) ∨ (κ = .deferred ∧ ∃ c0 rest m, cs0 = c0 :: rest ∧ cs = { c0 with mode := m } :: rest ∧ ModeR ι u m)

theorem UpR.mono {ι ι' : Plan} {κ : CallKind} {cs0 cs : List Frame} {u : Up} (h : ι.le ι') (hu : UpR ι κ cs0 u cs) : UpR ι' κ cs0 u cs := by
  rcases hu with h | ⟨h1, c0, rest, m, h2, h3, h4⟩
  · exact .inl h
  · exact .inr ⟨h1, c0, rest, m, h2, h3, ModeR.mono h h4⟩

def EndR (ι : Plan) : End → Ending → Prop
  | .ret v, e => ∃ v', e = .returned v' ∧ VR ι v v'
  | .pan ch, e => ∃ l, e = .panicked l ∧ ChR ι ch l

def Glob (P : Program) (ι : Plan) : Prop := ∀ g, g < P.globals.size → ∃ e, ι g = some ⟨g, 0, e⟩

/-- What is asked of the calls that a piece of code makes. -/
def CallOK (P : Program) (_B : Nat) (call : FuncId → List AV → Heap → Option (End × Heap)) : Prop :=
  ∀ f args H e H', call f args H = some (e, H') → (∃ fn, P.funcs[f]? = some fn ∧ fn.body.isSome = true ∧ (fn.name == "runtime.NumGoroutine") = false) ∧
    ∀ {B : Nat} ι w (vs : Array Value), Rel B ι H w → Glob P ι → VRs ι args vs.toList →
      Calls P f vs w fun e' w' => ∃ ι', ι.le ι' ∧ Rel B ι' H' w' ∧ Below B w w' ∧ EndR ι' e e'

/-- A frame's state. -/
structure SR (X : Cx) (B : Nat) (κ : CallKind) (cs0 : List Frame) (ι : Plan) (σ : St) (a : Act) (cs : List Frame) (w : World) : Prop where
  env : Env X ι σ.p σ.t a.tmps
  size : a.tmps.size = X.n
  rel : Rel B ι σ.H w
  dfr : DefR ι σ.d a.defers
  up : UpR ι κ cs0 σ.u cs

theorem lk_up (i j : Nat) (v : AV) : ∀ l : List (Nat × AV), lk i (up j v l) = if i = j then some v else lk i l
  | [] => by simp only [up, lk]
  | (k, x) :: l => by
    simp only [up]
    by_cases h : j = k
    · subst h
      simp only [if_true, lk]
      by_cases h2 : i = j <;> simp [h2]
    · rw [if_neg h]
      simp only [lk]
      by_cases h2 : i = k
      · subst h2; simp [Ne.symm h]
      · rw [if_neg h2, if_neg h2]; exact lk_up i j v l

section
variable {X : Cx} {ι : Plan} {B : Nat} {κ : CallKind} {cs0 cs : List Frame} {w : World} {a : Act} {σ : St}

theorem getD_set_same {tmps : Array Value} {j : Nat} {v : Value} (h : j < tmps.size) : (tmps.setIfInBounds j v).getD j undef = v := by
  simp [h]
theorem getD_set_ne {tmps : Array Value} {i j : Nat} {v : Value} (h : i ≠ j) : (tmps.setIfInBounds j v).getD i undef = tmps.getD i undef := by
  simp [Array.getElem?_setIfInBounds_ne (Ne.symm h)]

theorem SR.put {d : Dst} {dst : Option Tmp} {v : AV} {v' : Value} (h : SR X B κ cs0 ι σ a cs w) (hd : chkDst X dst d = true) (hv : VR ι v v') : SR X B κ cs0 ι (σ.put d v) (a.put dst v') cs w := by
  obtain ⟨hE, hs, hR, hD, hU⟩ := h
  cases dst with
  | none =>
    cases d <;> simp only [chkDst, Bool.false_eq_true] at hd
    exact ⟨hE, hs, hR, hD, hU⟩
  | some j =>
    cases d with
    | no => simp [chkDst] at hd
    | p i =>
      simp only [chkDst, Bool.and_eq_true, beq_iff_eq, decide_eq_true_eq] at hd
      obtain ⟨⟨rfl, hp⟩, hn⟩ := hd
      refine ⟨⟨fun i u hu => ?_, fun i u hu => ?_, hE.fg, fun i u hu => ?_, hE.tk⟩, by simp [Act.put, hs], hR, hD, hU⟩
      · simp only [St.put, lk_up] at hu
        simp only [Act.put]
        split at hu
        · rename_i e; subst e; injection hu with hu; subst hu
          rw [getD_set_same (by rw [hs]; exact hn)]; exact hv
        · rename_i e; rw [getD_set_ne e]; exact hE.fp _ _ hu
      · simp only [St.put] at hu
        have hne : i ≠ j := by intro e; subst e; have := hE.tk _ _ hu; rw [hp] at this; cases this
        simp only [Act.put]
        rw [getD_set_ne hne]; exact hE.ft _ _ hu
      · simp only [St.put, lk_up] at hu
        split at hu
        · rename_i e; subst e; exact hp
        · exact hE.pk _ _ hu
    | t i =>
      simp only [chkDst, Bool.and_eq_true, beq_iff_eq, decide_eq_true_eq, Bool.not_eq_true'] at hd
      obtain ⟨⟨rfl, hp⟩, hn⟩ := hd
      refine ⟨⟨fun i u hu => ?_, fun i u hu => ?_, hE.fg, hE.pk, fun i u hu => ?_⟩, by simp [Act.put, hs], hR, hD, hU⟩
      · simp only [St.put] at hu
        have hne : i ≠ j := by intro e; subst e; have := hE.pk _ _ hu; rw [hp] at this; cases this
        simp only [Act.put]
        rw [getD_set_ne hne]; exact hE.fp _ _ hu
      · simp only [St.put, lk] at hu
        simp only [Act.put]
        split at hu
        · rename_i e; subst e; injection hu with hu; subst hu
          rw [getD_set_same (by rw [hs]; exact hn)]; exact hv
        · rename_i e; rw [getD_set_ne e]; exact hE.ft _ _ hu
      · simp only [St.put, lk] at hu
        split at hu
        · rename_i e; subst e; exact hp
        · exact hE.tk _ _ hu

theorem SR.world {ι' : Plan} {H' : Heap} {w' : World} (h : SR X B κ cs0 ι σ a cs w) (hle : ι.le ι') (hR : Rel B ι' H' w') : SR X B κ cs0 ι' { σ with H := H' } a cs w' :=
  ⟨h.env.mono hle, h.size, hR, h.dfr.mono hle, h.up.mono hle⟩

theorem VR.undef (ι : Plan) : VR ι undefA undef := ⟨#[], rfl, rfl⟩

theorem lk_keep (i : Nat) (l : List (Nat × AV)) : ∀ (live : List Nat) (v : AV), lk i (keep live l) = some v → lk i l = some v
  | [], v, h => by simp [keep, lk] at h
  | j :: live, v, h => by
    simp only [keep] at h
    split at h
    · rename_i u hu
      simp only [lk] at h
      split at h
      · rename_i e; subst e; injection h with h; subst h; exact hu
      · exact lk_keep i l live v h
    · exact lk_keep i l live v h

theorem SR.keep (h : SR X B κ cs0 ι σ a cs w) (live : List Nat) : SR X B κ cs0 ι (σ.keep live) a cs w :=
  ⟨⟨fun i v hv => h.env.fp i v (lk_keep i _ live v hv), fun i v hv => by simp [St.keep, lk] at hv, h.env.fg, fun i v hv => h.env.pk i v (lk_keep i _ live v hv), fun i v hv => by simp [St.keep, lk] at hv⟩, h.size, h.rel, h.dfr, h.up⟩

theorem SR.fresh (h : SR X B κ cs0 ι σ a cs w) : SR X B κ cs0 ι { σ with t := [] } a cs w :=
  ⟨⟨h.env.fp, fun i v hv => by simp [lk] at hv, h.env.fg, h.env.pk, fun i v hv => by simp [lk] at hv⟩, h.size, h.rel, h.dfr, h.up⟩

/-- An operation's guard, as the checker has it. -/
def chkGuard (X : Cx) (ops : Array Oper) : Option (Nat × Bool) → Option (Opd × Bool) → Bool
  | none, none => true
  | some (j, w), some (x, w') => w == w' && (match (ops[j]?).bind (·.dst) with | some d => chkOpd X (.tmp d) x && decide (d < X.n) | none => false)
  | _, _ => false

def chkCop (X : Cx) (ops : Array Oper) (o : Oper) (c : Cop) : Bool :=
  chkDst X o.dst c.dst && chkOp X o.op c.op && chkGuard X ops o.guard c.guard

theorem guard_sound {ops : Array Oper} {o : Oper} {c : Cop} {b : Bool} (hE : Env X ι σ.p σ.t a.tmps) (hs : a.tmps.size = X.n) (hc : chkGuard X ops o.guard c.guard = true) (h : wantedA σ c.guard = some b) :
    Region.wanted o (yielded ops a.tmps) = b := by
  unfold Region.wanted
  cases hg : o.guard with
  | none =>
    rw [hg] at hc
    cases hcg : c.guard with
    | none => rw [hcg] at h; simp only [wantedA, Option.some.injEq] at h; exact h
    | some y => rw [hcg] at hc; simp [chkGuard] at hc
  | some y =>
    obtain ⟨j, wt⟩ := y
    rw [hg] at hc
    cases hcg : c.guard with
    | none => rw [hcg] at hc; simp [chkGuard] at hc
    | some z =>
      obtain ⟨x, wt'⟩ := z
      rw [hcg] at hc h
      simp only [chkGuard, Bool.and_eq_true, beq_iff_eq] at hc
      obtain ⟨rfl, hc⟩ := hc
      split at hc
      · rename_i d hd
        simp only [Bool.and_eq_true, decide_eq_true_eq] at hc
        simp only [wantedA] at h
        split at h
        · rename_i r hr
          injection h with h; subst h
          have hv : a.eval (.tmp d) = .bool r := rho_sound hE hc.1 hr
          have hv2 : a.tmps[d]? = some (.bool r) := by
            simp only [Act.eval] at hv
            rw [Array.getD_eq_getD_getElem?] at hv
            cases hx : a.tmps[d]? with
            | none => rw [hx] at hv; cases hv
            | some q => rw [hx] at hv; simp at hv; rw [hv]
          simp only [yielded, hd, Option.bind_some, hv2]
          cases r <;> cases wt <;> rfl
        · rename_i hr
          injection h with h; subst h
          obtain ⟨vs, hv, hvs⟩ := rho_sound hE hc.1 hr
          have hv' : a.eval (.tmp d) = .tuple vs := hv
          have hy : yielded ops a.tmps j = none := by
            simp only [Act.eval, Array.getD_eq_getD_getElem?] at hv'
            simp only [yielded, hd, Option.bind_some]
            cases hx : a.tmps[d]? with
            | none => rfl
            | some q => rw [hx] at hv'; simp at hv'; subst hv'; rfl
          simp only [hy]; rfl
        · cases h
      · cases hc
end
end Go.Ev

/- One operation of a region runs in the model as on the abstract machine. -/
namespace Go.Ev
open Go Go.RowKit
section
variable {X : Cx} {ι : Plan} {B : Nat} {κ : CallKind} {cs0 cs : List Frame} {w : World} {a : Act} {σ : St} {ops : Array Oper} {o : Oper} {c : Cop} {i : Nat} {rest : List Nat}
  {call : FuncId → List AV → Heap → Option (End × Heap)}

/-- What an operation of a region comes to, in the model. -/
def OpStep (X : Cx) (B : Nat) (κ : CallKind) (cs0 : List Frame) (ι : Plan) (σ : St) (a : Act) (cs : List Frame) (w : World) (ops : Array Oper) (i : Nat) (rest : List Nat) (c : Cop) (b : Frame) (k : List Item) : OOut → Prop
  | .val v H' => ∃ ι' a' w', ι.le ι' ∧ Below B w w' ∧ Steps X.P (lone (b.at a (.inRegion ops (i :: rest) :: k)) cs w) (lone (b.at a' (.inRegion ops rest :: k)) cs w') ∧ SR X B κ cs0 ι' (({ σ with H := H' } : St).put c.dst v) a' cs w'
  | .pan ch H' => ∃ ι' l w' todo, ι.le ι' ∧ Below B w w' ∧ Steps X.P (lone (b.at a (.inRegion ops (i :: rest) :: k)) cs w) (lone { b.at a todo with mode := .panicking l } cs w') ∧ ChR ι' ch l ∧ SR X B κ cs0 ι' { σ with H := H' } a cs w'
  | .dfr f args => ∃ a', Steps X.P (lone (b.at a (.inRegion ops (i :: rest) :: k)) cs w) (lone (b.at a' (.inRegion ops rest :: k)) cs w) ∧ SR X B κ cs0 ι (({ σ with d := (f, args) :: σ.d } : St).put c.dst undefA) a' cs w
  | .rcv v u => ∃ a' cs', Steps X.P (lone (b.at a (.inRegion ops (i :: rest) :: k)) cs w) (lone (b.at a' (.inRegion ops rest :: k)) cs' w) ∧ SR X B κ cs0 ι (({ σ with u := u } : St).put c.dst v) a' cs' w

theorem finish_at' (b : Frame) (a : Act) (k : List Item) (v : Value) (ho : ops[i]? = some o) : (b.at a (.inRegion ops (i :: rest) :: k)).finish v = b.at (a.put o.dst v) (.inRegion ops rest :: k) := by
  rw [Frame.finish_at, ho]; rfl

theorem step_value {P : Program} {b : Frame} {k : List Item} {v : Value} {w' : World} (ho : ops[i]? = some o) (hw : Region.wanted o (yielded ops a.tmps) = true) (hr : (execOp a.eval o).run P w = .ok (.value v) w') :
    step P (lone (b.at a (.inRegion ops (i :: rest) :: k)) cs w) = .next (lone (b.at (a.put o.dst v) (.inRegion ops rest :: k)) cs w') :=
  step_lone_go (by rw [stepG_op ho hw, ← finish_at' b a k v ho]; simp [stepG.apply, hr])

theorem step_skipped {P : Program} {b : Frame} {k : List Item} {w' : World} (ho : ops[i]? = some o) (hw : Region.wanted o (yielded ops a.tmps) = true) (hr : (execOp a.eval o).run P w = .ok .skip w') :
    step P (lone (b.at a (.inRegion ops (i :: rest) :: k)) cs w) = .next (lone (b.at (a.put o.dst undef) (.inRegion ops rest :: k)) cs w') :=
  step_lone_go (by rw [stepG_op ho hw, ← finish_at' b a k undef ho]; simp [stepG.apply, hr])

theorem step_panics {P : Program} {b : Frame} {k : List Item} {v : Value} {w' : World} (ho : ops[i]? = some o) (hw : Region.wanted o (yielded ops a.tmps) = true) (hr : (execOp a.eval o).run P w = .halt (.panic v) w') :
    step P (lone (b.at a (.inRegion ops (i :: rest) :: k)) cs w) = .next (lone { b.at a (.inRegion ops (i :: rest) :: k) with mode := .panicking [{ v, recovered := false }] } cs w') :=
  step_lone_go (by rw [stepG_op ho hw, ← Frame.raise_at]; simp [stepG.apply, hr])

theorem step_enters {P : Program} {b : Frame} {k : List Item} {f : FuncId} {args : Array Value} {w' : World} (ho : ops[i]? = some o) (hw : Region.wanted o (yielded ops a.tmps) = true) (hr : (execOp a.eval o).run P w = .ok (.enter f args) w') :
    step P (lone (b.at a (.inRegion ops (i :: rest) :: k)) cs w) = .next (lone (Frame.enter P f args .normal) (b.at a (.inRegion ops (i :: rest) :: k) :: cs) w') :=
  step_lone_go (by rw [stepG_op ho hw]; simp [stepG.apply, hr, Frame.at])

theorem step_defers {P : Program} {b : Frame} {k : List Item} {d : Deferred} {w' : World} (ho : ops[i]? = some o) (hw : Region.wanted o (yielded ops a.tmps) = true) (hr : (execOp a.eval o).run P w = .ok (.defer d) w') :
    step P (lone (b.at a (.inRegion ops (i :: rest) :: k)) cs w) = .next (lone (b.at ({ a with defers := d :: a.defers }.put o.dst undef) (.inRegion ops rest :: k)) cs w') := by
  refine step_lone_go ?_
  have : ({ b.at a (.inRegion ops (i :: rest) :: k) with defers := d :: a.defers } : Frame).finish undef =
      b.at ({ a with defers := d :: a.defers }.put o.dst undef) (.inRegion ops rest :: k) := by
    have := Frame.finish_at b { a with defers := d :: a.defers } ops i rest k undef
    rw [ho] at this; exact this
  rw [stepG_op ho hw]; simp only [stepG.apply, Sem.runT_eq, hr, GStep.bare_after]
  exact congrArg (fun fr => GStep.go { frame := fr, callers := cs, status := .running, dying := none } w') this

theorem step_recovers {P : Program} {b : Frame} {k : List Item} {v : Value} {cs' : List Frame} {w' : World} (hb : b.kind = .deferred) (ho : ops[i]? = some o) (hw : Region.wanted o (yielded ops a.tmps) = true) (hr : (execOp a.eval o).run P w = .ok .recover w')
    (hrec : recoverD cs = some (v, cs')) :
    step P (lone (b.at a (.inRegion ops (i :: rest) :: k)) cs w) = .next (lone (b.at (a.put o.dst v) (.inRegion ops rest :: k)) cs' w') := by
  have hk : (b.at a (.inRegion ops (i :: rest) :: k)).kind = .deferred := hb
  have htr := tryRecover_deferred hk cs
  refine step_lone_go ?_
  rw [stepG_op ho hw, ← finish_at' b a k v ho]
  simp only [Frame.at] at htr ⊢
  simp [stepG.apply, hr, htr, hrec]

theorem step_recovers_none {P : Program} {b : Frame} {k : List Item} {w' : World} (hb : b.kind = .deferred) (ho : ops[i]? = some o) (hw : Region.wanted o (yielded ops a.tmps) = true) (hr : (execOp a.eval o).run P w = .ok .recover w')
    (hrec : recoverD cs = none) :
    step P (lone (b.at a (.inRegion ops (i :: rest) :: k)) cs w) = .next (lone (b.at (a.put o.dst .nilIface) (.inRegion ops rest :: k)) cs w') := by
  have hk : (b.at a (.inRegion ops (i :: rest) :: k)).kind = .deferred := hb
  have htr := tryRecover_deferred hk cs
  refine step_lone_go ?_
  rw [stepG_op ho hw, ← finish_at' b a k .nilIface ho]
  simp only [Frame.at] at htr ⊢
  simp [stepG.apply, hr, htr, hrec]

theorem run_callFunc_enter {P : Program} {f : FuncId} {fn : Func} (hf : P.funcs[f]? = some fn) (hb : fn.body.isSome = true) (hn : (fn.name == "runtime.NumGoroutine") = false) (args : Array Value) (w : World) :
    (callFunc f args).run P w = .ok (.enter f args) w := by
  have h1 : fn.name ≠ "runtime.NumGoroutine" := by simpa using hn
  have h2 : fn.body ≠ none := by intro h; rw [h] at hb; cases hb
  simp [callFunc, hf, h1, h2]

/-- A call, on its way. -/
theorem call_step (hcall : CallOK X.P B call) (h : SR X B κ cs0 ι σ a cs w) (hd : chkDst X o.dst c.dst = true) (ho : ops[i]? = some o) (hw : Region.wanted o (yielded ops a.tmps) = true)
    {f : FuncId} {l : List AV} {vs : Array Value} {r : End × Heap} (hr : (execOp a.eval o).run X.P w = (callFunc f vs).run X.P w) (hv : VRs ι l vs.toList) (hev : call f l σ.H = some r) (b : Frame) (k : List Item) :
    OpStep X B κ cs0 ι σ a cs w ops i rest c b k (endOut r) := by
  obtain ⟨e, H'⟩ := r
  obtain ⟨⟨fn, hf, hb, hn⟩, hc⟩ := hcall f l σ.H e H' hev
  rw [run_callFunc_enter hf hb hn] at hr
  have hs := step_enters (cs := cs) (rest := rest) (b := b) (k := k) ho hw hr
  obtain ⟨e', w', fr, ⟨ι', hle, hR', hB', hE'⟩, hcomes, _, hleave⟩ := hc ι w vs h.rel h.env.fg hv (b.at a (.inRegion ops (i :: rest) :: k) :: cs)
  cases e with
  | ret v =>
    obtain ⟨v', rfl, hvr⟩ := hE'
    refine ⟨ι', a.put o.dst v', w', hle, hB', .head hs (Steps.trans hcomes (.one ?_)), (h.world hle hR').put hd hvr⟩
    rw [← finish_at' b a k v' ho]; exact step_leave_returned hleave
  | pan ch =>
    obtain ⟨l', rfl, hch⟩ := hE'
    refine ⟨ι', l', w', .inRegion ops (i :: rest) :: k, hle, hB', .head hs (Steps.trans hcomes (.one ?_)), hch, h.world hle hR'⟩
    rw [← Frame.raise_at]; exact step_leave_panicked hleave

theorem inv_call {op : Op} {f' : FuncId} {args' : List Opd} (h : chkOp X op (.call f' args') = true) : ∃ f args at_, op = .call { callee := .value (.func f), args := args, argTypes := at_ } ∧ f = f' ∧ chkOpds X args.toList args' = true := by
  cases op
  case call cl =>
    obtain ⟨callee, args, at_⟩ := cl
    cases callee with
    | invoke r m => exact absurd h Bool.false_ne_true
    | builtin bt => cases bt <;> exact absurd h Bool.false_ne_true
    | value x =>
      cases x <;> first | (exact absurd h Bool.false_ne_true) | skip
      simp only [chkOp, Bool.and_eq_true, beq_iff_eq] at h
      exact ⟨_, _, _, rfl, h⟩
  case makeFunc fn _ _ => cases fn <;> exact absurd h Bool.false_ne_true
  case defer cl => obtain ⟨callee, args, at_⟩ := cl; cases callee <;> exact absurd h Bool.false_ne_true
  all_goals exact absurd h Bool.false_ne_true

theorem inv_callP {op : Op} {g : Nat} {f' : FuncId} {args' : List Opd} (h : chkOp X op (.callP g f' args') = true) : ∃ f args at_, op = .call { callee := .value (.func f), args := args, argTypes := at_ } ∧ f = f' ∧ chkOpds X args.toList args' = true ∧ g = X.P.globals.size := by
  cases op
  case call cl =>
    obtain ⟨callee, args, at_⟩ := cl
    cases callee with
    | invoke r m => exact absurd h Bool.false_ne_true
    | builtin b => cases b <;> exact absurd h Bool.false_ne_true
    | value x =>
      cases x with
      | func f =>
        simp only [chkOp, Bool.and_eq_true, beq_iff_eq] at h
        exact ⟨f, args, at_, rfl, h.1.1, h.1.2, h.2⟩
      | _ => exact absurd h Bool.false_ne_true
  case makeFunc fn _ _ => cases fn <;> exact absurd h Bool.false_ne_true
  case defer cl => obtain ⟨callee, args, at_⟩ := cl; cases callee <;> exact absurd h Bool.false_ne_true
  all_goals exact absurd h Bool.false_ne_true

/-- A call that asks for no memory, on its way. -/
theorem callP_step (hcall : CallOK X.P B call) (h : SR X B κ cs0 ι σ a cs w) (hd : chkDst X o.dst c.dst = true) (ho : ops[i]? = some o) (hw : Region.wanted o (yielded ops a.tmps) = true)
    {f : FuncId} {l : List AV} {vs : Array Value} {v : AV} {H1 : Heap} (hr : (execOp a.eval o).run X.P w = (callFunc f vs).run X.P w) (hv : VRs ι l vs.toList) (hl : AV.flats l = true) (hvf : v.flat = true) (hev : call f l (Heap.dead X.P.globals.size) = some (.ret v, H1)) (b : Frame) (k : List Item) :
    OpStep X B κ cs0 ι σ a cs w ops i rest c b k (.val v σ.H) := by
  obtain ⟨⟨fn, hf, hb, hn⟩, hc⟩ := hcall f l _ _ _ hev
  rw [run_callFunc_enter hf hb hn] at hr
  have hs := step_enters (cs := cs) (rest := rest) (b := b) (k := k) ho hw hr
  let ι0 : Plan := fun b => if b < X.P.globals.size then ι b else none
  have hι0 : ∀ b L, ι0 b = some L → b < X.P.globals.size ∧ ι b = some L := by
    intro b L hbl
    simp only [ι0] at hbl
    split at hbl
    · rename_i hlt; exact ⟨hlt, hbl⟩
    · cases hbl
  have hR0 : Rel w.heap.size ι0 (Heap.dead X.P.globals.size) w := {
    dom := fun b L hb => ⟨(hι0 b L hb).1, (h.rel.dom b L (hι0 b L hb).2).2⟩
    live := fun b c u hg => by rw [Heap.get_dead] at hg; cases hg
    own := fun b c L hg => by rw [Heap.get_dead] at hg; cases hg
    iter := fun b s p hg => by rw [Heap.get_dead] at hg; cases hg
    nomap := fun b es hg => by rw [Heap.get_dead] at hg; cases hg
    inj := fun b b' L L' _ _ hdd => absurd (Heap.get_dead _ b') hdd
    size := Nat.le_refl _ }
  have hG0 : Glob X.P ι0 := fun g hg => by
    obtain ⟨e, he⟩ := h.env.fg g hg
    exact ⟨e, by simp only [ι0, if_pos hg]; exact he⟩
  obtain ⟨e', w', fr, ⟨ι', hle, hR', hB', hE'⟩, hcomes, _, hleave⟩ := hc ι0 w vs hR0 hG0 (VRs.flat l _ hl hv) (b.at a (.inRegion ops (i :: rest) :: k) :: cs)
  obtain ⟨v', rfl, hvr⟩ := hE'
  refine ⟨ι, a.put o.dst v', w', ι.le_refl, hB'.mono h.rel.size, .head hs (Steps.trans hcomes (.one ?_)), (h.world ι.le_refl (h.rel.world hB'.size hB'.block)).put hd (VR.flat v v' hvf hvr)⟩
  rw [← finish_at' b a k v' ho]; exact step_leave_returned hleave

theorem inv_callV {op : Op} {y : Opd} {args' : List Opd} (h : chkOp X op (.callV y args') = true) : ∃ x args at_, op = .call { callee := .value x, args := args, argTypes := at_ } ∧ chkOpd X x y = true ∧ chkOpds X args.toList args' = true := by
  cases op
  case call cl =>
    obtain ⟨callee, args, at_⟩ := cl
    cases callee with
    | invoke r m => exact absurd h Bool.false_ne_true
    | builtin bt => cases bt <;> exact absurd h Bool.false_ne_true
    | value x =>
      have h' : (chkOpd X x y && chkOpds X args.toList args') = true := by cases x <;> exact h
      simp only [Bool.and_eq_true] at h'
      exact ⟨_, _, _, rfl, h'⟩
  case makeFunc fn _ _ => cases fn <;> exact absurd h Bool.false_ne_true
  case defer cl => obtain ⟨callee, args, at_⟩ := cl; cases callee <;> exact absurd h Bool.false_ne_true
  all_goals exact absurd h Bool.false_ne_true

theorem inv_dfr {op : Op} {y : Opd} {args' : List Opd} (h : chkOp X op (.dfr y args') = true) : ∃ x args at_, op = .defer { callee := .value x, args := args, argTypes := at_ } ∧ chkOpd X x y = true ∧ chkOpds X args.toList args' = true := by
  cases op
  case call cl =>
    obtain ⟨callee, args, at_⟩ := cl
    cases callee with
    | invoke r m => exact absurd h Bool.false_ne_true
    | builtin bt => cases bt <;> exact absurd h Bool.false_ne_true
    | value x => cases x <;> exact absurd h Bool.false_ne_true
  case makeFunc fn _ _ => cases fn <;> exact absurd h Bool.false_ne_true
  case defer cl =>
    obtain ⟨callee, args, at_⟩ := cl
    cases callee <;> first | (exact absurd h Bool.false_ne_true) | skip
    simp only [chkOp, Bool.and_eq_true] at h
    exact ⟨_, _, _, rfl, h⟩
  all_goals exact absurd h Bool.false_ne_true

theorem inv_panic {op : Op} {y : Opd} (h : chkOp X op (.panic y) = true) : (∃ x, op = .panic x ∧ chkOpd X x y = true) ∨ (∃ args at_, op = .call { callee := .builtin .panic, args := args, argTypes := at_ } ∧ chkOpds X args.toList [y] = true) := by
  cases op
  case call cl =>
    obtain ⟨callee, args, at_⟩ := cl
    cases callee with
    | invoke r m => exact absurd h Bool.false_ne_true
    | builtin bt =>
      cases bt <;> first | (exact absurd h Bool.false_ne_true) | skip
      exact .inr ⟨_, _, rfl, h⟩
    | value x => cases x <;> exact absurd h Bool.false_ne_true
  case makeFunc fn _ _ => cases fn <;> exact absurd h Bool.false_ne_true
  case defer cl => obtain ⟨callee, args, at_⟩ := cl; cases callee <;> exact absurd h Bool.false_ne_true
  case panic x => exact .inl ⟨_, rfl, h⟩
  all_goals exact absurd h Bool.false_ne_true

theorem inv_recover {op : Op} (h : chkOp X op .recover = true) : ∃ args at_, op = .call { callee := .builtin .recover, args := args, argTypes := at_ } := by
  cases op
  case call cl =>
    obtain ⟨callee, args, at_⟩ := cl
    cases callee with
    | invoke r m => exact absurd h Bool.false_ne_true
    | builtin bt =>
      cases bt <;> first | (exact absurd h Bool.false_ne_true) | skip
      exact ⟨_, _, rfl⟩
    | value x => cases x <;> exact absurd h Bool.false_ne_true
  case makeFunc fn _ _ => cases fn <;> exact absurd h Bool.false_ne_true
  case defer cl => obtain ⟨callee, args, at_⟩ := cl; cases callee <;> exact absurd h Bool.false_ne_true
  all_goals exact absurd h Bool.false_ne_true

theorem op_step (hcall : CallOK X.P B call) (h : SR X B κ cs0 ι σ a cs w) (ho : ops[i]? = some o) (hw : Region.wanted o (yielded ops a.tmps) = true) (hc : chkCop X ops o c = true) {out : OOut} (hev : evOp1 call σ c.op = some out)
    (b : Frame) (k : List Item) (hb : b.kind = κ) : OpStep X B κ cs0 ι σ a cs w ops i rest c b k out := by
  simp only [chkCop, Bool.and_eq_true] at hc
  obtain ⟨⟨hd, hop⟩, _⟩ := hc
  by_cases hsim : simpleC c.op = true
  · -- a simple one
    have hev' : (match evOp (rho σ.p σ.t) σ.H c.op with | some (v, H) => some (OOut.val v H) | none => none) = some out := by
      rw [← hev]
      cases hco : c.op <;> first | rfl | (rw [hco] at hsim; simp [simpleC] at hsim)
    split at hev'
    · rename_i v H' hsome
      injection hev' with hev'; subst hev'
      obtain ⟨nx, w', v', hrun, hnx, ι', hle, hR', hB', hvr⟩ := op_sound hop hsim h.env h.rel hsome
      refine ⟨ι', a.put o.dst v', w', hle, hB', .one ?_, (h.world hle hR').put hd hvr⟩
      rcases hnx with rfl | ⟨rfl, rfl⟩
      · exact step_value ho hw hrun
      · exact step_skipped ho hw hrun
    · cases hev'
  · cases hco : c.op <;> rw [hco] at hsim hev hop <;> first | (simp [simpleC] at hsim; done) | skip
    case call f' args' =>
      simp only [evOp1] at hev
      split at hev
      · rename_i l hl
        obtain ⟨r, hr, hre⟩ := Option.map_eq_some_iff.1 hev
        subst hre
        obtain ⟨f, args, at_, hoo, rfl, hargs⟩ := inv_call hop
        have hvs := rhos_sound h.env hargs hl
        refine call_step hcall h hd ho hw (vs := args.map a.eval) (l := l) ?_ (by simpa using hvs) hr b k
        have ef : a.eval (.func f) = .func (.func f) #[] #[] := rfl
        simp only [execOp, hoo, resolve, Deferred.ofValue, ef, Sem.run_bind, Sem.run_pure, Result.andThen_ok, invoke, Array.append_empty, Array.empty_append]
      · cases hev
    case callP g' f' args' =>
      simp only [evOp1] at hev
      split at hev
      · rename_i l hl
        split at hev
        · rename_i hfl
          split at hev
          · rename_i v H1 hr
            split at hev
            · rename_i hvf
              injection hev with hev; subst hev
              obtain ⟨f, args, at_, hoo, rfl, hargs, rfl⟩ := inv_callP hop
              have hvs := rhos_sound h.env hargs hl
              refine callP_step hcall h hd ho hw (vs := args.map a.eval) (l := l) ?_ (by simpa using hvs) hfl hvf hr b k
              have ef : a.eval (.func f) = .func (.func f) #[] #[] := rfl
              simp only [execOp, hoo, resolve, Deferred.ofValue, ef, Sem.run_bind, Sem.run_pure, Result.andThen_ok, invoke, Array.append_empty, Array.empty_append]
            · cases hev
          · cases hev
        · cases hev
      · cases hev
    case callV x' args' =>
      simp only [evOp1] at hev
      split at hev
      · rename_i f cap hx
        split at hev
        · rename_i l hl
          obtain ⟨r, hr, hre⟩ := Option.map_eq_some_iff.1 hev
          subst hre
          obtain ⟨x, args, at_, hoo, hcx, hargs⟩ := inv_callV hop
          obtain ⟨vs0, e0, hv0⟩ := rho_sound h.env hcx hx
          have hvs := rhos_sound h.env hargs hl
          refine call_step hcall h hd ho hw (vs := args.map a.eval ++ vs0) (l := l ++ cap) ?_ (by simpa using hvs.append hv0) hr b k
          simp only [execOp, hoo, resolve, Deferred.ofValue, e0, Sem.run_bind, Sem.run_pure, Result.andThen_ok, invoke, Array.empty_append]
        · cases hev
      · cases hev
    case dfr x' args' =>
      simp only [evOp1] at hev
      split at hev
      · rename_i f cap hx
        split at hev
        · rename_i l hl
          injection hev with hev; subst hev
          obtain ⟨x, args, at_, hoo, hcx, hargs⟩ := inv_dfr hop
          obtain ⟨vs0, e0, hv0⟩ := rho_sound h.env hcx hx
          have hvs := rhos_sound h.env hargs hl
          have hrun : (execOp a.eval o).run X.P w = .ok (.defer { target := .fn (.func f) vs0, args := args.map a.eval }) w := by
            simp only [execOp, hoo, resolve, Deferred.ofValue, e0, Sem.run_bind, Sem.run_pure, Result.andThen_ok, Array.empty_append]
          refine ⟨_, .one (step_defers ho hw hrun), ?_⟩
          have h2 : SR X B κ cs0 ι { σ with d := (f, l ++ cap) :: σ.d } { a with defers := { target := .fn (.func f) vs0, args := args.map a.eval } :: a.defers } cs w :=
            ⟨h.env, h.size, h.rel, ⟨vs0, args.map a.eval, a.defers, rfl, by simpa using hvs.append hv0, h.dfr⟩, h.up⟩
          exact h2.put hd (VR.undef ι)
        · cases hev
      · cases hev
    case panic x' =>
      simp only [evOp1] at hev
      split at hev
      · rename_i t u hx
        injection hev with hev; subst hev
        rcases inv_panic hop with ⟨x, hoo, hcx⟩ | ⟨args, at_, hoo, hargs⟩
        · obtain ⟨u', e0, hv0⟩ := rho_sound h.env hcx hx
          have hrun : (execOp a.eval o).run X.P w = .halt (.panic (.iface t u')) w := by
            simp [execOp, hoo, Instr.panic, e0]
          exact ⟨ι, _, w, _, ι.le_refl, Below.refl _ _, .one (step_panics ho hw hrun), ⟨_, _, rfl, ⟨u', rfl, hv0⟩, rfl⟩, h⟩
        · obtain ⟨x, hxx, hcx⟩ := opds1 hargs
          have hargs' : args = #[x] := toArray_of hxx
          obtain ⟨u', e0, hv0⟩ := rho_sound h.env hcx hx
          have hrun : (execOp a.eval o).run X.P w = .halt (.panic (.iface t u')) w := by
            simp [execOp, hoo, hargs', resolve, invoke, builtin, Instr.panic, e0]
          exact ⟨ι, _, w, _, ι.le_refl, Below.refl _ _, .one (step_panics ho hw hrun), ⟨_, _, rfl, ⟨u', rfl, hv0⟩, rfl⟩, h⟩
      · cases hev
    case recover =>
      obtain ⟨args, at_, hoo⟩ := inv_recover hop
      have hrun : (execOp a.eval o).run X.P w = .ok .recover w := by
        simp [execOp, hoo, resolve, invoke, builtin]
      simp only [evOp1] at hev
      rcases h.up with ⟨hk, hu, hcs⟩ | ⟨hk, c0, rest', m, hcs0, hcs, hm⟩
      · rw [hu] at hev; cases hev
      · rw [hk] at hb
        split at hev
        · cases hev
        · rename_i hu
          injection hev with hev; subst hev
          rw [hu] at hm
          have hm' : m = .returning := hm
          have hrec : recoverD cs = none := by rw [hcs, hm']; rfl
          refine ⟨_, cs, .one (step_recovers_none hb ho hw hrun hrec), ?_⟩
          have h2 : SR X B κ cs0 ι { σ with u := .ret } a cs w := ⟨h.env, h.size, h.rel, h.dfr, .inr ⟨hk, c0, rest', m, hcs0, hcs, hm⟩⟩
          exact h2.put hd rfl
        · rename_i v older hu
          injection hev with hev; subst hev
          rw [hu] at hm
          obtain ⟨l, hml, hch⟩ := hm
          obtain ⟨v', l', rfl, hv, hch'⟩ := hch
          have hrec : recoverD cs = some (v', { c0 with mode := .panicking ({ v := v', recovered := true, goexit := false } :: l') } :: rest') := by rw [hcs, hml]; rfl
          refine ⟨_, _, .one (step_recovers hb ho hw hrun hrec), ?_⟩
          have h2 : SR X B κ cs0 ι { σ with u := .pan ((v, true) :: older) } a ({ c0 with mode := .panicking ({ v := v', recovered := true, goexit := false } :: l') } :: rest') w :=
            ⟨h.env, h.size, h.rel, h.dfr, .inr ⟨hk, c0, rest', _, hcs0, rfl, ⟨_, rfl, ⟨v', l', rfl, hv, hch'⟩⟩⟩⟩
          exact h2.put hd hv
        · rename_i ch hne hu
          injection hev with hev; subst hev
          rw [hu] at hm
          obtain ⟨l, hml, hch⟩ := hm
          have hrec : recoverD cs = none := by
            rw [hcs, hml]
            cases ch with
            | nil => have : l = [] := hch; subst this; rfl
            | cons x ch =>
              obtain ⟨v, r⟩ := x
              cases r with
              | false => exact absurd rfl (hne v ch)
              | true => obtain ⟨v', l', rfl, _, _⟩ := hch; rfl
          refine ⟨_, cs, .one (step_recovers_none hb ho hw hrun hrec), ?_⟩
          have h2 : SR X B κ cs0 ι { σ with u := .pan ch } a cs w := ⟨h.env, h.size, h.rel, h.dfr, .inr ⟨hk, c0, rest', m, hcs0, hcs, ⟨l, hml, hch⟩⟩⟩
          exact h2.put hd rfl
end
end Go.Ev
