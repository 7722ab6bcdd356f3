/- Soundness of the simple operations: slices, fields, indexes. -/
import Derived.Test.YtifhmogcdgfojaaGreatDoorT05
set_option linter.unusedSimpArgs false
set_option linter.unusedVariables false
namespace Go.Ev
open Go Go.RowKit
section
variable {X : Cx} {ι : Plan} {B : Nat} {H H' : Heap} {w : World} {a : Act} {p t : List (Nat × AV)} {o : Oper} {v : AV}

theorem zeros_sound {z : List AV} {zs : Array Value} (h : VRs ι z zs.toList) (hp : 0 < zs.size) (n : Nat) : VRs ι (zeros z n) ((Array.range n).map fun i => zs[i % zs.size]!).toList := by
  have hl : zs.size = z.length := by have := h.length; simpa using this
  refine VRs.intro (by simp [zeros]) fun i x hx => ?_
  simp only [zeros, List.getElem?_map, Option.map_eq_some_iff] at hx
  obtain ⟨j, hj, rfl⟩ := hx
  obtain ⟨hin, hji⟩ := List.getElem?_eq_some_iff.1 hj
  simp at hin hji
  subst hji
  have hm : i % z.length < z.length := Nat.mod_lt _ (by omega)
  have hm2 : i % zs.size < zs.size := Nat.mod_lt _ hp
  obtain ⟨u, hu, hr⟩ := h.get (i := i % z.length) (x := z[i % z.length]) (by simp)
  rw [← hl, Array.getElem?_toList, Array.getElem?_eq_getElem hm2] at hu
  injection hu with hu
  refine ⟨u, ?_, by rw [List.getD_eq_getElem?_getD, List.getElem?_eq_getElem hm]; exact hr⟩
  simp [hin, hm2, hu]

theorem asIntOf_int (P : Program) (k : IntKind) (n : Int) (w : World) : (asIntOf (.int k n)).run P w = .ok (k, n) w := rfl
theorem asInt_int (P : Program) (k : IntKind) (n : Int) (w : World) : (asInt (.int k n)).run P w = .ok n w := rfl

theorem wrap_id {n : Int} (h0 : 0 ≤ n) (h1 : n ≤ 1099511627776) : IntKind.i64.wrap n = n := by
  have h : n % (2 : Int) ^ 64 = n := Int.emod_eq_of_lt h0 (by omega)
  simp only [IntKind.wrap, IntKind.bits, IntKind.signed, h]
  rw [if_neg]
  simp; omega

theorem s_mkSlice {ty e : TypeId} {l c : Operand} {l' c' : Opd} {z : List AV} {bytes : Nat} {zv : Value} (ho : o.op = .makeSlice ty l c) (hE : Env X ι p t a.tmps) (hR : Rel B ι H w)
    (hu : X.P.underlying ty = some (.slice e)) (hs : tySize X.P e = some zv.cells.size) (hz : tyZero X.P e = some zv) (hb : tyBytes X.P e = some bytes) (hzc : constVs z zv.cells.toList = true) (hpos : 0 < zv.cells.size) (hc : chkOpd X l l' = true) (hc2 : chkOpd X c c' = true)
    (hev : evOp (rho p t) H (.mkSlice z bytes l' c') = some (v, H')) : OpOK X a o B ι w v H' := by
  simp only [evOp] at hev
  split at hev
  · rename_i k ln hl
    split at hev
    · rename_i k' cn hcn
      split at hev
      · rename_i hlim
        obtain ⟨g1, g2, g3, g4⟩ := hlim
        simp only [Option.some.injEq, Prod.mk.injEq] at hev
        obtain ⟨e1, e2⟩ := hev; subst e1; subst e2
        have el : a.eval l = .int k ln := rho_sound hE hc hl
        have ec : a.eval c = .int k' cn := rho_sound hE hc2 hcn
        have hv0 := constVs_sound ι _ _ hzc
        have hzl : zv.cells.size = z.length := by have := hv0.length; simpa using this
        obtain ⟨i, hi1, hi2⟩ := run_bytes' hb w
        have hzs := zeros_sound hv0 hpos (cn.toNat * z.length)
        obtain ⟨n1, n2, n3⟩ := new_sound e hR hzs
        refine ⟨_, _, .slice (some ⟨w.heap.size, 0, none⟩) ln.toNat cn.toNat, ?_, .inl rfl, _, n1, n2, n3, ⟨_, Plan.add_self _ _ _, by simp⟩⟩
        have wl : IntKind.i64.wrap ln = ln := wrap_id g1 (by omega)
        have wc : IntKind.i64.wrap cn = cn := wrap_id (by omega) (by omega)
        have hbc : (bytes : Int) * cn = cn * bytes := Int.mul_comm _ _
        have t1 : (decide (cn < 0) || decide ((bytes : Int) * cn > 2 ^ 48)) = false := by
          rw [hbc]; simp; omega
        have hcond : ((decide (cn < 0) || decide ((bytes : Int) * cn > 2 ^ 48)) || decide (ln < 0) || decide (ln > cn)) = false := by
          rw [t1]; simp; omega
        simp only [execOp, ho, el, ec, Instr.makeSlice, Sem.run_bind, run_underlying hu, Result.andThen_ok, asInt_int, hi1, hi2, wl, wc, hcond, Bool.false_eq_true, if_false, run_askRoom, run_sizeOf' hs]
        by_cases h0 : cn.toNat * zv.cells.size = 0
        · have : cn.toNat = 0 := by
            rcases Nat.mul_eq_zero.1 h0 with h | h
            · exact h
            · omega
          have z0 : ∀ (f : Nat → Value), Array.map f (Array.range 0) = #[] := fun f => by simp
          simp [this, newRow, z0]
        · have h0' : ¬ (cn.toNat * z.length = 0) := by rw [← hzl]; exact h0
          rw [if_neg h0]
          simp only [run_zeroValue' hz, newRow, Sem.run_bind, Sem.run_pure, Result.andThen_ok, run_newObj, hzl]
          rfl
      · cases hev
    · cases hev
  · cases hev

theorem bnd_none {y d m : Nat} (h : bnd (rho p t) y none d = some m) : m = d := by
  simp only [bnd, Option.some.injEq] at h; exact h.symm

theorem bnd_some {y d m : Nat} {x : Operand} {x' : Opd} (hE : Env X ι p t a.tmps) (hc : chkOpd X x x' = true) (h : bnd (rho p t) y (some x') d = some m) (code : BoundsCode) (w : World) :
    (Instr.sliceBound (a.eval x) y code).run X.P w = .ok m w ∧ m ≤ y := by
  simp only [bnd] at h
  split at h
  · rename_i k i hx
    split at h
    · rename_i hi
      injection h with h; subst h
      have e : a.eval x = .int k i := rho_sound hE hc hx
      refine ⟨?_, by omega⟩
      simp only [Instr.sliceBound, e, Sem.run_bind, asIntOf_int, Result.andThen_ok, if_pos hi, Sem.run_pure]
    · cases h
  · cases h

theorem chkOpt_cases {x : Option Operand} {y : Option Opd} (h : chkOpt X x y = true) : (x = none ∧ y = none) ∨ ∃ x' y', x = some x' ∧ y = some y' ∧ chkOpd X x' y' = true := by
  cases x <;> cases y <;> simp [chkOpt] at h
  · exact .inl ⟨rfl, rfl⟩
  · exact .inr ⟨_, _, rfl, rfl, h⟩

/-- The three bounds of a slice expression. -/
theorem bounds_sound {lo hi mx : Option Operand} {lo' hi' mx' : Option Opd} {len cap m h l : Nat} (hE : Env X ι p t a.tmps) (h1 : chkOpt X lo lo' = true) (h2 : chkOpt X hi hi' = true) (h3 : chkOpt X mx mx' = true) (hm : (mx.isNone || hi.isSome) = true)
    (b1 : bnd (rho p t) cap mx' cap = some m) (b2 : bnd (rho p t) m hi' len = some h) (b3 : bnd (rho p t) h lo' 0 = some l) (isSlice : Bool) (w : World) :
    (Instr.sliceBounds isSlice len cap (lo.map a.eval) (hi.map a.eval) (mx.map a.eval)).run X.P w = .ok (l, h, m) w := by
  rcases chkOpt_cases h1 with ⟨rfl, rfl⟩ | ⟨lx, ly, rfl, rfl, hlc⟩ <;> rcases chkOpt_cases h2 with ⟨rfl, rfl⟩ | ⟨hx, hy, rfl, rfl, hhc⟩ <;> rcases chkOpt_cases h3 with ⟨rfl, rfl⟩ | ⟨mx, my, rfl, rfl, hmc⟩
  all_goals first | (simp at hm; done) | skip
  all_goals first | (have em := bnd_none b1; subst em) | (have em := fun c => (bnd_some hE hmc b1 c w).1)
  all_goals first | (have eh := bnd_none b2; subst eh) | (have eh := fun c => (bnd_some hE hhc b2 c w).1)
  all_goals first | (have el := bnd_none b3; subst el) | (have el := fun c => (bnd_some hE hlc b3 c w).1)
  all_goals simp [Instr.sliceBounds, *]

theorem s_sliceStr {ty : TypeId} {x : Operand} {lo hi mx : Option Operand} {x' : Opd} {lo' hi' : Option Opd} (ho : o.op = .slice ty x lo hi mx) (hE : Env X ι p t a.tmps) (hR : Rel B ι H w) (hu : X.P.underlying ty = some .string)
    (hc : chkOpd X x x' = true) (h1 : chkOpt X lo lo' = true) (h2 : chkOpt X hi hi' = true) (hm : mx = none)
    (hev : evOp (rho p t) H (.sliceStr x' lo' hi') = some (v, H')) : OpOK X a o B ι w v H' := by
  subst hm
  simp only [evOp] at hev
  split at hev
  · rename_i s hs
    split at hev
    · rename_i h hh
      split at hev
      · rename_i l hl
        simp only [Option.some.injEq, Prod.mk.injEq] at hev
        obtain ⟨e1, e2⟩ := hev; subst e1; subst e2
        have e : a.eval x = .string ⟨s.toArray⟩ := rho_sound hE hc hs
        have hb := bounds_sound (mx := none) (mx' := none) hE h1 h2 rfl rfl (rfl : bnd (rho p t) s.length none s.length = some s.length) hh hl false w
        simp only [Option.map_none] at hb
        refine OpOK.val (u := .string ((⟨s.toArray⟩ : ByteArray).extract l h)) hR ?_ ?_
        · have hsz : (⟨s.toArray⟩ : ByteArray).size = s.length := by simp [ByteArray.size]
          simp only [execOp, ho, e, Instr.sliceAt, Instr.slice, Sem.run_bind, run_underlying hu, Result.andThen_ok, Option.map_none, Option.isSome_none, Bool.false_eq_true, if_false, hsz, hb, Sem.run_pure]
        · simp only [VR]
          congr 1
          apply ByteArray.ext
          simp [ByteArray.data_extract]
          rw [List.drop_take]
      · cases hev
    · cases hev
  · cases hev

theorem addr_add (β base off n : Nat) : (⟨β, base + off, none⟩ : Addr).add n = ⟨β, base + (off + n), none⟩ := by
  unfold Addr.add
  split
  · simp; omega
  · simp; omega

theorem s_sliceSl {ty e : TypeId} {sz : Nat} {x : Operand} {lo hi mx : Option Operand} {x' : Opd} {lo' hi' mx' : Option Opd} (ho : o.op = .slice ty x lo hi mx) (hE : Env X ι p t a.tmps) (hR : Rel B ι H w) (hu : X.P.underlying ty = some (.slice e)) (hs : tySize X.P e = some sz)
    (hc : chkOpd X x x' = true) (h1 : chkOpt X lo lo' = true) (h2 : chkOpt X hi hi' = true) (h3 : chkOpt X mx mx' = true) (hm : (mx.isNone || hi.isSome) = true)
    (hev : evOp (rho p t) H (.sliceSl sz x' lo' hi' mx') = some (v, H')) : OpOK X a o B ι w v H' := by
  simp only [evOp] at hev
  split at hev
  · rename_i hx
    have e : a.eval x = .slice none 0 0 := rho_sound hE hc hx
    split at hev
    · rename_i m b1
      split at hev
      · rename_i h b2
        split at hev
        · rename_i l b3
          simp only [Option.some.injEq, Prod.mk.injEq] at hev
          obtain ⟨e1, e2⟩ := hev; subst e1; subst e2
          have hb := bounds_sound hE h1 h2 h3 hm b1 b2 b3 true w
          have z1 : m = 0 := by
            rcases chkOpt_cases h3 with ⟨rfl, rfl⟩ | ⟨_, _, rfl, rfl, hmc⟩
            · exact bnd_none b1
            · have := (bnd_some hE hmc b1 .index w).2; omega
          subst z1
          have z2 : h = 0 := by
            rcases chkOpt_cases h2 with ⟨rfl, rfl⟩ | ⟨_, _, rfl, rfl, hmc⟩
            · exact bnd_none b2
            · have := (bnd_some hE hmc b2 .index w).2; omega
          subst z2
          refine OpOK.val (u := .slice none 0 0) hR ?_ rfl
          simp only [execOp, ho, e, Instr.sliceAt, Instr.slice, Sem.run_bind, run_underlying hu, Result.andThen_ok, hb, run_sizeOf' hs, Sem.run_pure]
          simp
        · cases hev
      · cases hev
    · cases hev
  · rename_i b off n c hx
    obtain ⟨L, hL, e⟩ := rho_sound hE hc hx
    split at hev
    · rename_i m b1
      split at hev
      · rename_i h b2
        split at hev
        · rename_i l b3
          simp only [Option.some.injEq, Prod.mk.injEq] at hev
          obtain ⟨e1, e2⟩ := hev; subst e1; subst e2
          have hb := bounds_sound hE h1 h2 h3 hm b1 b2 b3 true w
          refine OpOK.val (u := .slice (if m = l then some ⟨L.blk, L.base + off, none⟩ else some ⟨L.blk, L.base + (off + l * sz), none⟩) (h - l) (m - l)) hR ?_ ⟨L, hL, ?_⟩
          · simp only [execOp, ho, e, Instr.sliceAt, Instr.slice, Sem.run_bind, run_underlying hu, Result.andThen_ok, hb, run_sizeOf' hs, Sem.run_pure, Option.map_some, addr_add]
          · by_cases hml : m = l <;> simp [hml]
        · cases hev
      · cases hev
    · cases hev
  · rename_i s b off n hx
    obtain ⟨L, hL, e⟩ := rho_sound hE hc hx
    split at hev
    · rename_i hss; subst hss
      split at hev
      · -- three indexes
        rename_i my
        rcases chkOpt_cases h3 with ⟨_, hz⟩ | ⟨mxo, my', rfl, hmy, hmc⟩
        · cases hz
        · injection hmy with hmy; subst hmy
          split at hev
          · rename_i m b1
            split at hev
            · rename_i h b2
              split at hev
              · rename_i l b3
                split at hev
                · cases hev
                · rename_i hn0
                  simp only [Option.some.injEq, Prod.mk.injEq] at hev
                  obtain ⟨e1, e2⟩ := hev; subst e1; subst e2
                  rcases e with ⟨cc, hcc, hext, e⟩ | ⟨h0, q, e⟩
                  · have b1' : bnd (rho p t) cc (some my) cc = some m := by
                      simp only [bnd] at b1 ⊢
                      cases hk : rho p t my with
                      | none => rw [hk] at b1; cases b1
                      | some q =>
                        rw [hk] at b1
                        cases q <;> simp only [reduceCtorEq] at b1 ⊢
                        split at b1
                        · rw [if_pos (by omega)]; exact b1
                        · cases b1
                    have hb := bounds_sound hE h1 h2 h3 hm b1' b2 b3 true w
                    simp only [Option.map_some] at hb
                    refine OpOK.val (u := .slice (if m = l then some ⟨L.blk, L.base + off, none⟩ else some ⟨L.blk, L.base + (off + l * s), none⟩) (h - l) (m - l)) hR ?_ ⟨L, hL, ?_⟩
                    · simp only [execOp, ho, e, Instr.sliceAt, Instr.slice, Sem.run_bind, run_underlying hu, Result.andThen_ok, hb, run_sizeOf' hs, Sem.run_pure, Option.map_some, addr_add]
                    · by_cases hml : m = l <;> simp [hml]
                  · exact absurd h0 hn0
              · cases hev
            · cases hev
          · cases hev
      · -- two
        rcases chkOpt_cases h3 with ⟨rfl, _⟩ | ⟨_, _, _, hz, _⟩
        · split at hev
          · rename_i h b2
            split at hev
            · rename_i l b3
              simp only [Option.some.injEq, Prod.mk.injEq] at hev
              obtain ⟨e1, e2⟩ := hev; subst e1; subst e2
              have hhn : h ≤ n := by
                rcases chkOpt_cases h2 with ⟨rfl, rfl⟩ | ⟨_, _, rfl, rfl, hmc⟩
                · have := bnd_none b2; omega
                · exact (bnd_some hE hmc b2 .index w).2
              have hlh : l ≤ h := by
                rcases chkOpt_cases h1 with ⟨rfl, rfl⟩ | ⟨_, _, rfl, rfl, hmc⟩
                · have := bnd_none b3; omega
                · exact (bnd_some hE hmc b3 .index w).2
              have hbump : ∀ cc, n ≤ cc → bnd (rho p t) cc hi' n = some h := by
                intro cc hcc
                rcases chkOpt_cases h2 with ⟨rfl, rfl⟩ | ⟨_, _, rfl, rfl, hmc⟩
                · exact b2
                · simp only [bnd] at b2 ⊢
                  rename_i hy
                  cases hk : rho p t hy with
                  | none => rw [hk] at b2; cases b2
                  | some q =>
                    rw [hk] at b2
                    cases q <;> simp only [reduceCtorEq] at b2 ⊢
                    split at b2
                    · rw [if_pos (by omega)]; exact b2
                    · cases b2
              rcases e with ⟨cc, hcc, hext, e⟩ | ⟨h0, q, e⟩
              · have hb := bounds_sound (mx := none) (mx' := none) (cap := cc) hE h1 h2 rfl rfl (rfl : bnd (rho p t) cc none cc = some cc) (hbump cc hcc) b3 true w
                refine OpOK.val (u := .slice (if cc = l then some ⟨L.blk, L.base + off, none⟩ else some ⟨L.blk, L.base + (off + l * s), none⟩) (h - l) (cc - l)) hR ?_ ⟨L, hL, ?_⟩
                · simp only [execOp, ho, e, Instr.sliceAt, Instr.slice, Sem.run_bind, run_underlying hu, Result.andThen_ok, hb, run_sizeOf' hs, Sem.run_pure, Option.map_some, addr_add]
                · by_cases hml : cc = l
                  · refine .inr ⟨by omega, _, by rw [if_pos hml]; congr 1 <;> omega⟩
                  · refine .inl ⟨cc - l, by omega, ?_, by rw [if_neg hml]⟩
                    have : l * s + (cc - l) * s = cc * s := by rw [← Nat.add_mul]; congr 1; omega
                    omega
              · subst h0
                have hb := bounds_sound (mx := none) (mx' := none) (cap := 0) hE h1 h2 rfl rfl (rfl : bnd (rho p t) 0 none 0 = some 0) b2 b3 true w
                have : h = 0 := by omega
                subst this
                have : l = 0 := by omega
                subst this
                refine OpOK.val (u := .slice (some q) 0 0) hR ?_ ⟨L, hL, .inr ⟨rfl, q, rfl⟩⟩
                simp only [execOp, ho, e, Instr.sliceAt, Instr.slice, Sem.run_bind, run_underlying hu, Result.andThen_ok, hb, run_sizeOf' hs, Sem.run_pure, if_true]
            · cases hev
          · cases hev
        · cases hz
    · cases hev
  · cases hev

theorem s_sliceArr {ty e : TypeId} {n sz : Nat} {x : Operand} {lo hi mx : Option Operand} {x' : Opd} {lo' hi' mx' : Option Opd} (ho : o.op = .slice ty x lo hi mx) (hE : Env X ι p t a.tmps) (hR : Rel B ι H w) (hu : X.P.underlying ty = some (.array n e)) (hs : tySize X.P e = some sz)
    (hc : chkOpd X x x' = true) (h1 : chkOpt X lo lo' = true) (h2 : chkOpt X hi hi' = true) (h3 : chkOpt X mx mx' = true) (hm : (mx.isNone || hi.isSome) = true)
    (hev : evOp (rho p t) H (.sliceArr n sz x' lo' hi' mx') = some (v, H')) : OpOK X a o B ι w v H' := by
  simp only [evOp] at hev
  split at hev
  · rename_i b off hx
    obtain ⟨L, hL, e⟩ := rho_sound hE hc hx
    split at hev
    · rename_i m b1
      split at hev
      · rename_i h b2
        split at hev
        · rename_i l b3
          simp only [Option.some.injEq, Prod.mk.injEq] at hev
          obtain ⟨e1, e2⟩ := hev; subst e1; subst e2
          have hb := bounds_sound hE h1 h2 h3 hm b1 b2 b3 false w
          refine OpOK.val (u := .slice (some (if m = l then ⟨L.blk, L.base + off, none⟩ else ⟨L.blk, L.base + (off + l * sz), none⟩)) (h - l) (m - l)) hR ?_ ⟨L, hL, ?_⟩
          · simp only [execOp, ho, e, Instr.sliceAt, Instr.sureAddr, Sem.run_bind, run_underlying hu, Result.andThen_ok, hb, run_sizeOf' hs, Sem.run_pure, addr_add]
          · by_cases hml : m = l <;> simp [hml]
        · cases hev
      · cases hev
    · cases hev
  · cases hev

theorem s_fieldAddr {s : TypeId} {f off n : Nat} {fs : Array Field} {fd : Field} {x : Operand} {x' : Opd} (ho : o.op = .fieldAddr s x f) (hE : Env X ι p t a.tmps) (hR : Rel B ι H w) (hu : X.P.underlying s = some (.struct fs)) (hf : fs[f]? = some fd) (hoff : fd.offset = off) (hn : tySize X.P fd.type = some n) (hpos : 0 < n) (hc : chkOpd X x x' = true)
    (hev : evOp (rho p t) H (.fieldAddr off x') = some (v, H')) : OpOK X a o B ι w v H' := by
  simp only [evOp] at hev
  split at hev
  · rename_i b o' hx
    simp only [Option.some.injEq, Prod.mk.injEq] at hev
    obtain ⟨e1, e2⟩ := hev; subst e1; subst e2
    obtain ⟨L, hL, e⟩ := rho_sound hE hc hx
    refine OpOK.val (u := .pointer (some ⟨L.blk, L.base + (o' + off), none⟩)) hR ?_ ⟨L, hL, rfl⟩
    simp only [execOp, ho, e, Instr.fieldAt, Instr.sureAddr, Sem.run_bind, run_underlying hu, Result.andThen_ok, hf, Sem.run_pure, fieldPlace, run_sizeOf' hn, if_neg (show ¬ n = 0 by omega), hoff, addr_add]
  · cases hev

theorem s_field1 {s : TypeId} {f off : Nat} {fs : Array Field} {fd : Field} {x : Operand} {x' : Opd} (ho : o.op = .field s x f) (hE : Env X ι p t a.tmps) (hR : Rel B ι H w) (hu : X.P.underlying s = some (.struct fs)) (hf : fs[f]? = some fd) (hoff : fd.offset = off) (hn : tyAgg X.P fd.type = some false) (hc : chkOpd X x x' = true)
    (hev : evOp (rho p t) H (.field1 off x') = some (v, H')) : OpOK X a o B ι w v H' := by
  simp only [evOp] at hev
  split at hev
  · rename_i l hx
    split at hev
    · rename_i u hu'
      simp only [Option.some.injEq, Prod.mk.injEq] at hev
      obtain ⟨e1, e2⟩ := hev; subst e1; subst e2
      obtain ⟨vs, e, hr⟩ := rho_sound hE hc hx
      obtain ⟨z, hz, hzr⟩ := hr.get hu'
      rw [Array.getElem?_toList] at hz
      refine OpOK.val hR ?_ hzr
      simp only [execOp, ho, e, Instr.field, Sem.run_bind, run_underlying hu, Result.andThen_ok, hf, asAgg, Sem.run_pure, part, run_isAgg' hn, Bool.false_eq_true, if_false, hoff, hz]
    · cases hev
  · cases hev

theorem s_fieldN {s : TypeId} {f off n : Nat} {fs : Array Field} {fd : Field} {x : Operand} {x' : Opd} (ho : o.op = .field s x f) (hE : Env X ι p t a.tmps) (hR : Rel B ι H w) (hu : X.P.underlying s = some (.struct fs)) (hf : fs[f]? = some fd) (hoff : fd.offset = off) (hn : tyAgg X.P fd.type = some true) (hsz : tySize X.P fd.type = some n) (hc : chkOpd X x x' = true)
    (hev : evOp (rho p t) H (.fieldN off n x') = some (v, H')) : OpOK X a o B ι w v H' := by
  simp only [evOp] at hev
  split at hev
  · rename_i l hx
    simp only [Option.some.injEq, Prod.mk.injEq] at hev
    obtain ⟨e1, e2⟩ := hev; subst e1; subst e2
    obtain ⟨vs, e, hr⟩ := rho_sound hE hc hx
    refine OpOK.val (u := .agg (vs.extract off (off + n))) hR ?_ ⟨_, rfl, ?_⟩
    · simp only [execOp, ho, e, Instr.field, Sem.run_bind, run_underlying hu, Result.andThen_ok, hf, asAgg, Sem.run_pure, part, run_isAgg' hn, if_true, hoff, run_sizeOf' hsz]
    · have := (hr.drop off).take n
      rw [Array.toList_extract, List.extract_eq_take_drop, Nat.add_sub_cancel_left]
      exact this
  · cases hev

theorem s_idxAddr {ty e : TypeId} {sz : Nat} {x i : Operand} {x' i' : Opd} (ho : o.op = .indexAddr ty x i) (hE : Env X ι p t a.tmps) (hR : Rel B ι H w) (hu : X.P.underlying ty = some (.slice e)) (hs : tySize X.P e = some sz) (hc : chkOpd X x x' = true) (hc2 : chkOpd X i i' = true)
    (hev : evOp (rho p t) H (.idxAddr sz x' i') = some (v, H')) : OpOK X a o B ι w v H' := by
  simp only [evOp] at hev
  split at hev
  · rename_i b off n c hx
    obtain ⟨L, hL, e⟩ := rho_sound hE hc hx
    split at hev
    · rename_i k j hj
      split at hev
      · rename_i hin
        simp only [Option.some.injEq, Prod.mk.injEq] at hev
        obtain ⟨e1, e2⟩ := hev; subst e1; subst e2
        have ej : a.eval i = .int k j := rho_sound hE hc2 hj
        refine OpOK.val (u := .pointer (some ⟨L.blk, L.base + (off + j.toNat * sz), none⟩)) hR ?_ ⟨L, hL, rfl⟩
        simp only [execOp, ho, e, ej, Instr.indexAt, Sem.run_bind, asIntOf_int, run_underlying hu, Result.andThen_ok, Sem.run_pure, if_pos hin, run_sizeOf' hs, addr_add]
      · cases hev
    · cases hev
  · rename_i s b off n hx
    obtain ⟨L, hL, e⟩ := rho_sound hE hc hx
    split at hev
    · rename_i k j hj
      split at hev
      · rename_i hin
        obtain ⟨rfl, hin⟩ := hin
        simp only [Option.some.injEq, Prod.mk.injEq] at hev
        obtain ⟨e1, e2⟩ := hev; subst e1; subst e2
        have ej : a.eval i = .int k j := rho_sound hE hc2 hj
        rcases e with ⟨cc, _, _, e⟩ | ⟨h0, q, e⟩
        · refine OpOK.val (u := .pointer (some ⟨L.blk, L.base + (off + j.toNat * s), none⟩)) hR ?_ ⟨L, hL, rfl⟩
          simp only [execOp, ho, e, ej, Instr.indexAt, Sem.run_bind, asIntOf_int, run_underlying hu, Result.andThen_ok, Sem.run_pure, if_pos hin, run_sizeOf' hs, addr_add]
        · omega
      · cases hev
    · cases hev
  · cases hev

theorem s_idxArr {ty e : TypeId} {n sz : Nat} {x i : Operand} {x' i' : Opd} (ho : o.op = .indexAddr ty x i) (hE : Env X ι p t a.tmps) (hR : Rel B ι H w) (hu : X.P.underlying ty = some (.array n e)) (hs : tySize X.P e = some sz) (hc : chkOpd X x x' = true) (hc2 : chkOpd X i i' = true)
    (hev : evOp (rho p t) H (.idxArr n sz x' i') = some (v, H')) : OpOK X a o B ι w v H' := by
  simp only [evOp] at hev
  split at hev
  · rename_i b off hx
    obtain ⟨L, hL, e⟩ := rho_sound hE hc hx
    split at hev
    · rename_i k j hj
      split at hev
      · rename_i hin
        simp only [Option.some.injEq, Prod.mk.injEq] at hev
        obtain ⟨e1, e2⟩ := hev; subst e1; subst e2
        have ej : a.eval i = .int k j := rho_sound hE hc2 hj
        refine OpOK.val (u := .pointer (some ⟨L.blk, L.base + (off + j.toNat * sz), none⟩)) hR ?_ ⟨L, hL, rfl⟩
        simp only [execOp, ho, e, ej, Instr.indexAt, Instr.sureAddr, Sem.run_bind, asIntOf_int, run_underlying hu, Result.andThen_ok, Sem.run_pure, if_pos hin, run_sizeOf' hs, addr_add]
      · cases hev
    · cases hev
  · cases hev

theorem s_idxStr {ty : TypeId} {x i : Operand} {x' i' : Opd} (ho : o.op = .index ty x i) (hE : Env X ι p t a.tmps) (hR : Rel B ι H w) (hu : X.P.underlying ty = some .string) (hc : chkOpd X x x' = true) (hc2 : chkOpd X i i' = true)
    (hev : evOp (rho p t) H (.idxStr x' i') = some (v, H')) : OpOK X a o B ι w v H' := by
  simp only [evOp] at hev
  split at hev
  · rename_i s hx
    have e : a.eval x = .string ⟨s.toArray⟩ := rho_sound hE hc hx
    split at hev
    · rename_i k j hj
      split at hev
      · rename_i hin
        split at hev
        · rename_i b hb
          simp only [Option.some.injEq, Prod.mk.injEq] at hev
          obtain ⟨e1, e2⟩ := hev; subst e1; subst e2
          have ej : a.eval i = .int k j := rho_sound hE hc2 hj
          refine OpOK.val (u := .int .u8 b.toNat) hR ?_ rfl
          obtain ⟨hlt, hbe⟩ := List.getElem?_eq_some_iff.1 hb
          have hlt' : j.toNat < (⟨s.toArray⟩ : ByteArray).size := by simpa [ByteArray.size] using hlt
          have hgb : (⟨s.toArray⟩ : ByteArray)[j.toNat]? = some b := by
            rw [getElem?_pos (⟨s.toArray⟩ : ByteArray) j.toNat hlt']
            exact congrArg some hbe
          simp only [execOp, ho, e, ej, Instr.index, Sem.run_bind, asIntOf_int, run_underlying hu, Result.andThen_ok, if_pos hin, hgb, Sem.run_pure]
        · cases hev
      · cases hev
    · cases hev
  · cases hev

theorem s_idxAgg {ty e : TypeId} {n : Nat} {x i : Operand} {x' i' : Opd} (ho : o.op = .index ty x i) (hE : Env X ι p t a.tmps) (hR : Rel B ι H w) (hu : X.P.underlying ty = some (.array n e)) (hs : tySize X.P e = some 1) (hag : tyAgg X.P e = some false) (hc : chkOpd X x x' = true) (hc2 : chkOpd X i i' = true)
    (hev : evOp (rho p t) H (.idxAgg n x' i') = some (v, H')) : OpOK X a o B ι w v H' := by
  simp only [evOp] at hev
  split at hev
  · rename_i l hx
    obtain ⟨vs, e', hr⟩ := rho_sound hE hc hx
    split at hev
    · rename_i k j hj
      split at hev
      · rename_i hin
        split at hev
        · rename_i u hu'
          simp only [Option.some.injEq, Prod.mk.injEq] at hev
          obtain ⟨e1, e2⟩ := hev; subst e1; subst e2
          have ej : a.eval i = .int k j := rho_sound hE hc2 hj
          obtain ⟨z, hz, hzr⟩ := hr.get hu'
          rw [Array.getElem?_toList] at hz
          refine OpOK.val hR ?_ hzr
          simp only [execOp, ho, e', ej, Instr.index, Sem.run_bind, asIntOf_int, run_underlying hu, Result.andThen_ok, if_pos hin, run_sizeOf' hs, Nat.mul_one, part, run_isAgg' hag, Bool.false_eq_true, if_false, hz, Sem.run_pure]
        · cases hev
      · cases hev
    · cases hev
  · cases hev

theorem s_extract {x : Operand} {x' : Opd} {i : Nat} (ho : o.op = .extract x i) (hE : Env X ι p t a.tmps) (hR : Rel B ι H w) (hc : chkOpd X x x' = true)
    (hev : evOp (rho p t) H (.extract x' i) = some (v, H')) : OpOK X a o B ι w v H' := by
  simp only [evOp] at hev
  split at hev
  · rename_i l hx
    split at hev
    · rename_i u hu'
      simp only [Option.some.injEq, Prod.mk.injEq] at hev
      obtain ⟨e1, e2⟩ := hev; subst e1; subst e2
      obtain ⟨vs, e, hr⟩ := rho_sound hE hc hx
      obtain ⟨z, hz, hzr⟩ := hr.get hu'
      rw [Array.getElem?_toList] at hz
      refine OpOK.val hR ?_ hzr
      simp only [execOp, ho, e, Instr.extract, hz, Sem.run_bind, Sem.run_pure, Result.andThen_ok]
    · cases hev
  · cases hev
end
end Go.Ev
