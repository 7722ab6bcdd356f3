/- Soundness of the operations of the library's inner parts; maps. -/
import Derived.Test.YtifhmogcdgfojaaGreatDoorT08
import Derived.Lib.UnsafeStr
import Derived.Lib.MakeNoZero
import Derived.Lib.Builder
set_option linter.unusedSimpArgs false
set_option linter.unusedVariables false
namespace Go.Ev
open Go Go.RowKit
section
variable {X : Cx} {ι : Plan} {B : Nat} {H H' : Heap} {w : World} {a : Act} {p t : List (Nat × AV)} {o : Oper} {v : AV} {xs : List Opd} {l : List AV}

theorem VRs.one_inv {x : AV} {vs : List Value} (h : VRs ι [x] vs) : ∃ v, vs = [v] ∧ VR ι x v := by
  obtain ⟨v, vs', e, r, rs⟩ := h
  have : vs' = [] := rs
  subst this; exact ⟨v, e, r⟩
theorem VRs.two_inv {x y : AV} {vs : List Value} (h : VRs ι [x, y] vs) : ∃ v u, vs = [v, u] ∧ VR ι x v ∧ VR ι y u := by
  obtain ⟨v, vs', e, r, rs⟩ := h
  obtain ⟨u, rfl, r2⟩ := rs.one_inv
  exact ⟨v, u, e, r, r2⟩
theorem args_of {args : Array Operand} {vs : List Value} (h : args.toList.map a.eval = vs) : args.map a.eval = vs.toArray := by
  rw [← h]; apply Array.ext'; simp

theorem find_same {fn : Func} (hn : fn.name = "internal/abi.NoEscape") (ho : fn.origin = "") : Extern.findNext fn = none ∧ Extern.find fn = some Extern.AbiNoEscape.same := by
  obtain ⟨name, origin, targs, params, resultTypes, nfree, ntmps, results, body, norace, ours, file, endLine, litNo, met, tmpNames⟩ := fn
  simp only at hn ho
  subst hn; subst ho
  exact ⟨by kernel_rfl, by kernel_rfl⟩
theorem find_mknz {fn : Func} (hn : fn.name = "internal/bytealg.MakeNoZero") (ho : fn.origin = "") : Extern.findNext fn = none ∧ Extern.find fn = some (Extern.BytealgMakeNoZero.makeNoZero fn.params fn.resultTypes) := by
  obtain ⟨name, origin, targs, params, resultTypes, nfree, ntmps, results, body, norace, ours, file, endLine, litNo, met, tmpNames⟩ := fn
  simp only at hn ho
  subst hn; subst ho
  exact ⟨by kernel_rfl, by kernel_rfl⟩

theorem x_same {f : FuncId} {args : Array Operand} {at_ : Array TypeId} (ho : o.op = .call { callee := .value (.func f), args := args, argTypes := at_ }) (hE : Env X ι p t a.tmps) (hR : Rel B ι H w)
    (hargs : chkOpds X args.toList xs = true) (hf : isExt X.P "internal/abi.NoEscape" f = true) (hl : rhos p t xs = some l) (hx : xSame H l = some (v, H')) : OpOK X a o B ι w v H' := by
  have hvs := rhos_sound hE hargs hl
  have fin : ∀ u, l = [u] → v = u → H' = H → OpOK X a o B ι w v H' := by
    intro u e1 e2 e3
    subst e1; subst e2; subst e3
    obtain ⟨v', e, r⟩ := hvs.one_inv
    have harr := args_of (a := a) e
    cases hfn : X.P.funcs[f]? with
    | none => simp [isExt, hfn] at hf
    | some fn =>
      simp only [isExt, hfn, Bool.and_eq_true, beq_iff_eq] at hf
      obtain ⟨⟨hb, hn⟩, horig⟩ := hf
      obtain ⟨g1, g2⟩ := find_same hn horig
      have hne : (fn.name == "runtime.NumGoroutine") = false := by rw [hn]; kernel_rfl
      have hlook := run_callFunc_extern hfn hne hb g1 g2 #[v'] w
      have ef : a.eval (.func f) = .func (.func f) #[] #[] := rfl
      refine OpOK.val hR ?_ r
      simp only [execOp, ho, resolve, Deferred.ofValue, ef, invoke, Sem.run_bind, Sem.run_pure, Result.andThen_ok, Array.append_empty, Array.empty_append, harr, hlook, Lib.run_noEscape]
  unfold xSame at hx
  split at hx
  · simp only [Option.some.injEq, Prod.mk.injEq] at hx; exact fin _ rfl hx.1.symm hx.2.symm
  · simp only [Option.some.injEq, Prod.mk.injEq] at hx; exact fin _ rfl hx.1.symm hx.2.symm
  · cases hx

theorem x_mknz {f : FuncId} {e : TypeId} {args : Array Operand} {at_ : Array TypeId} (ho : o.op = .call { callee := .value (.func f), args := args, argTypes := at_ }) (hE : Env X ι p t a.tmps) (hR : Rel B ι H w)
    (hargs : chkOpds X args.toList xs = true) (hf : isExt X.P "internal/bytealg.MakeNoZero" f = true)
    (hres : (match X.P.funcs[f]? with
      | some fn => (match fn.resultTypes.toList with | [t] => (match X.P.underlying t with | some (.slice e') => e' == e | _ => false) | _ => false)
      | none => false) = true)
    (hl : rhos p t xs = some l) (hx : xMknz H e l = some (v, H')) : OpOK X a o B ι w v H' := by
  have hvs := rhos_sound hE hargs hl
  unfold xMknz at hx
  split at hx
  · rename_i n
    split at hx
    · rename_i hn
      simp only [Option.some.injEq, Prod.mk.injEq] at hx
      obtain ⟨e1, e2⟩ := hx; subst e1; subst e2
      obtain ⟨v', e', r⟩ := hvs.one_inv
      have r : v' = .int .i64 n := r
      subst r
      have harr := args_of (a := a) e'
      cases hfn : X.P.funcs[f]? with
      | none => simp [isExt, hfn] at hf
      | some fn =>
        simp only [hfn] at hres
        simp only [isExt, hfn, Bool.and_eq_true, beq_iff_eq] at hf
        obtain ⟨⟨hb, hn'⟩, horig⟩ := hf
        obtain ⟨g1, g2⟩ := find_mknz hn' horig
        have hne : (fn.name == "runtime.NumGoroutine") = false := by rw [hn']; kernel_rfl
        have hlook := run_callFunc_extern hfn hne hb g1 g2 #[.int .i64 n] w
        have ef : a.eval (.func f) = .func (.func f) #[] #[] := rfl
        split at hres
        · rename_i tt htt
          have hrt : fn.resultTypes = #[tt] := toArray_of htt
          split at hres
          · rename_i ee hee
            simp only [beq_iff_eq] at hres
            subst hres
            obtain ⟨cs, hrun, hge, _⟩ := Lib.run_makeNoZero (P := X.P) w fn.params tt ee hee n.toNat (by omega)
            have hcast : ((n.toNat : Nat) : Int) = n := by omega
            rw [hcast] at hrun
            have hRd : Rel B ι H w.drew := hR.world (Nat.le_refl _) (fun k _ => rfl)
            obtain ⟨q1, q2, q3⟩ := new_openT (c := []) (vs := #[]) (tail := cs) ee hRd rfl
            rw [World.size_drew] at q1 q2
            rw [Array.empty_append] at q2 q3
            refine ⟨_, _, .slice (some ⟨w.heap.size, 0, none⟩) n.toNat cs.size, ?_, .inl rfl, _, q1, q2, (Below.refl B w).drew.trans q3, ⟨_, Plan.add_self _ _ _, .inl ⟨cs.size, hge, by simp, by simp⟩⟩⟩
            simp only [execOp, ho, resolve, Deferred.ofValue, ef, invoke, Sem.run_bind, Sem.run_pure, Result.andThen_ok, Array.append_empty, Array.empty_append, harr, hlook, hrt, hrun]
          · cases hres
        · cases hres
    · cases hx
  · cases hx

theorem x_peq {op : BinOp} {ty ty' te : TypeId} {neg : Bool} {x y : Operand} (ho : o.op = .binOp op ty x y ty') (hE : Env X ι p t a.tmps) (hR : Rel B ι H w)
    (hop : eqOp op neg = true) (hu : X.P.underlying ty = some (.pointer te)) (hi : (X.P.info? te).isSome = true) (hargs : chkOpds X [x, y] xs = true) (hl : rhos p t xs = some l) (hx : xPeq H neg l = some (v, H')) : OpOK X a o B ι w v H' := by
  have hvs := rhos_sound hE hargs hl
  unfold xPeq at hx
  split at hx
  · rename_i b off b' off'
    split at hx
    · rename_i hb
      obtain ⟨rfl, rfl⟩ := hb
      simp only [Option.some.injEq, Prod.mk.injEq] at hx
      obtain ⟨e1, e2⟩ := hx; subst e1; subst e2
      obtain ⟨v1, v2, e, ⟨L, hL, r1⟩, ⟨L', hL', r2⟩⟩ := hvs.two_inv
      rw [hL] at hL'; injection hL' with hL'; subst hL'
      subst r1; subst r2
      simp only [List.map_cons, List.map_nil, List.cons.injEq, and_true] at e
      obtain ⟨ex, ey⟩ := e
      obtain ⟨j, hj⟩ := Option.isSome_iff_exists.1 hi
      have h : ∀ d : Nat, (Op.equalIn (d + 1) ty (.pointer (some ⟨L.blk, L.base + off, none⟩)) (.pointer (some ⟨L.blk, L.base + off, none⟩))).run X.P w = .ok true w := fun d => by
        simp [Op.equalIn, run_underlying hu, sizeOf, typeInfo, hj, run_sameAddr_same]
      refine OpOK.val (u := .bool (!neg)) hR ?_ rfl
      cases op <;> simp [eqOp] at hop
      · subst hop
        have hd : (Op.equalIn 10000 ty (.pointer (some ⟨L.blk, L.base + off, none⟩)) (.pointer (some ⟨L.blk, L.base + off, none⟩))).run X.P w = .ok true w := h 9999
        simp [execOp, ho, ex, ey, eqGuard, binOp, Op.equal, Op.maxDepth, hd]
      · subst hop
        have hd : (Op.equalIn 10000 ty (.pointer (some ⟨L.blk, L.base + off, none⟩)) (.pointer (some ⟨L.blk, L.base + off, none⟩))).run X.P w = .ok true w := h 9999
        simp [execOp, ho, ex, ey, eqGuard, binOp, Op.equal, Op.maxDepth, hd]
    · cases hx
  · cases hx

theorem bi_sdata {ats : Array TypeId} {ty : TypeId} {cs : Array Bool} {args : Array Value} : builtin .unsafeSliceData ats ty cs args = (do pure (.value (← Builtin.unsafeSliceData_ ats ty args))) := rfl
theorem bi_ustr {ats : Array TypeId} {ty : TypeId} {cs : Array Bool} {args : Array Value} : builtin .unsafeString ats ty cs args = (do pure (.value (← Builtin.unsafeString_ ats ty args))) := rfl
theorem x_sdata {args : Array Operand} {at_ : Array TypeId} (ho : o.op = .call { callee := .builtin .unsafeSliceData, args := args, argTypes := at_ }) (hE : Env X ι p t a.tmps) (hR : Rel B ι H w)
    (hargs : chkOpds X args.toList xs = true) (hl : rhos p t xs = some l) (hx : xSdata H l = some (v, H')) : OpOK X a o B ι w v H' := by
  have hvs := rhos_sound hE hargs hl
  unfold xSdata at hx
  split at hx
  · rename_i b off n c
    split at hx
    · rename_i hc
      simp only [Option.some.injEq, Prod.mk.injEq] at hx
      obtain ⟨e1, e2⟩ := hx; subst e1; subst e2
      obtain ⟨v', e, ⟨L, hL, r⟩⟩ := hvs.one_inv
      subst r
      have harr := args_of (a := a) e
      refine OpOK.val (u := .pointer (some ⟨L.blk, L.base + off, none⟩)) hR ?_ ⟨L, hL, rfl⟩
      simp only [execOp, ho, harr, resolve, invoke, bi_sdata, Sem.run_bind, Sem.run_pure, Result.andThen_ok, Lib.run_unsafeSliceData_row (P := X.P) w _ _ _ _ _ (show c ≠ 0 by omega)]
    · cases hx
  · rename_i sz b off n
    split at hx
    · rename_i hc
      simp only [Option.some.injEq, Prod.mk.injEq] at hx
      obtain ⟨e1, e2⟩ := hx; subst e1; subst e2
      obtain ⟨v', e, ⟨L, hL, hr⟩⟩ := hvs.one_inv
      rcases hr with ⟨cc, h1, h2, r⟩ | ⟨h0, _⟩
      · subst r
        have harr := args_of (a := a) e
        refine OpOK.val (u := .pointer (some ⟨L.blk, L.base + off, none⟩)) hR ?_ ⟨L, hL, rfl⟩
        simp only [execOp, ho, harr, resolve, invoke, bi_sdata, Sem.run_bind, Sem.run_pure, Result.andThen_ok, Lib.run_unsafeSliceData_row (P := X.P) w _ _ _ _ _ (show cc ≠ 0 by omega)]
      · omega
    · cases hx
  · simp only [Option.some.injEq, Prod.mk.injEq] at hx
    obtain ⟨e1, e2⟩ := hx; subst e1; subst e2
    obtain ⟨v', e, r⟩ := hvs.one_inv
    have r : v' = .slice none 0 0 := r
    subst r
    have harr := args_of (a := a) e
    refine OpOK.val (u := .pointer none) hR ?_ rfl
    simp only [execOp, ho, harr, resolve, invoke, bi_sdata, Sem.run_bind, Sem.run_pure, Result.andThen_ok, Lib.run_unsafeSliceData_nil]
  · cases hx

theorem cell_freeze (w : World) (q c : Addr) (n : Nat) : (w.freeze q n).cell? c = w.cell? c := by
  unfold World.freeze
  split
  · rfl
  · simp only [World.cell?, Array.getElem?_modify]
    by_cases e : q.block = c.block
    · rw [if_pos e]
      cases hw : w.heap[c.block]? with
      | none => rfl
      | some o => cases o <;> rfl
    · rw [if_neg e]

/-- Bytes are handed out as a text: from then on they are read alone. -/
theorem Rel.freeze (hR : Rel B ι H w) {b : Nat} {c : List AV} {u0 : Use} {L : Loc} (hu0 : u0 ≠ .ro) (hg : H.get b = .cells c u0) (hL : ι b = some L) (n : Nat) (off : Nat) :
    Rel B ι (H.set b (.cells c .ro)) (w.freeze ⟨L.blk, off, none⟩ n) ∧ Below B w (w.freeze ⟨L.blk, off, none⟩ n) := by
  obtain ⟨o1, _, _⟩ := hR.ownu b c L hg hu0 hL
  have hbs : b < H.size := (hR.dom b L hL).1
  have hget : ∀ b', (H.set b (.cells c .ro)).get b' = if b' = b then .cells c .ro else H.get b' := fun b' => Heap.get_set _ _ _ _ hbs
  have hoth : ∀ k, k ≠ L.blk → (w.freeze ⟨L.blk, off, none⟩ n).heap[k]? = w.heap[k]? := fun k hk => heap_freeze _ _ _ _ hk
  have hown : Owned H b := .inl ⟨c, _, hg, hu0⟩
  have hblk : ∀ b' L', b' ≠ b → H.get b' ≠ .dead → ι b' = some L' → L'.blk ≠ L.blk := fun b' L' hne hd e => (hR.inj b b' L L' (Ne.symm hne) hown hd hL e).symm
  have hbel : Below B w (w.freeze ⟨L.blk, off, none⟩ n) := by
    refine ⟨?_, ?_, ?_, by rw [size_freeze]; exact Nat.le_refl _, fun k hk => hoth k (by omega)⟩ <;> (unfold World.freeze; split <;> rfl)
  refine ⟨?_, hbel⟩
  constructor
  · intro b' L' e
    have := hR.dom b' L' e
    exact ⟨this.1, by rw [size_freeze]; exact this.2⟩
  · intro b' c' u e
    have key : ∃ u', H.get b' = .cells c' u' := by
      rw [hget] at e
      by_cases hb : b' = b
      · subst hb; rw [if_pos rfl] at e; injection e with e1 e2; subst e1; exact ⟨_, hg⟩
      · rw [if_neg hb] at e; exact ⟨_, e⟩
    obtain ⟨u', hu'⟩ := key
    obtain ⟨L', hL', hx⟩ := hR.live b' c' u' hu'
    exact ⟨L', hL', fun i y hy => by rw [cell_freeze]; exact hx i y hy⟩
  · intro b' c' L' u e hu hL'
    rw [hget] at e
    by_cases hb : b' = b
    · rw [if_pos hb] at e; injection e with e1 e2; exact absurd e2.symm hu
    · rw [if_neg hb] at e
      have hne := hblk b' L' hb (by rw [e]; simp) hL'
      obtain ⟨p1, p2, p3⟩ := hR.ownu b' c' L' e hu hL'
      refine ⟨p1, p2, fun i hi => ?_⟩
      rw [cell_blk (hoth _ hne), frozen_blk (hoth _ hne)]
      exact p3 i hi
  · intro b' s p' e
    rw [hget] at e
    by_cases hb : b' = b
    · rw [if_pos hb] at e; cases e
    · rw [if_neg hb] at e
      obtain ⟨L', hL', r1, r2, r3⟩ := hR.iter b' s p' e
      exact ⟨L', hL', r1, r2, by rw [hoth _ (hblk b' L' hb (by rw [e]; simp) hL')]; exact r3⟩
  · intro b' c' t' L' e hL'
    rw [hget] at e
    by_cases hb : b' = b
    · rw [if_pos hb] at e; injection e with e1 e2; cases e2
    · rw [if_neg hb] at e
      rw [shape_blk (hoth _ (hblk b' L' hb (by rw [e]; simp) hL'))]
      exact hR.ty b' c' t' L' e hL'
  · intro b' es e
    rw [hget] at e
    by_cases hb : b' = b
    · rw [if_pos hb] at e; cases e
    · rw [if_neg hb] at e
      obtain ⟨L', hL', r1, es', k, r2, r3⟩ := hR.mapb b' es e
      exact ⟨L', hL', r1, es', k, by rw [hoth _ (hblk b' L' hb (by rw [e]; simp) hL')]; exact r2, r3⟩
  · intro b1 b2 L1 L2 hne ho hd e1 e2
    refine hR.inj b1 b2 L1 L2 hne ?_ ?_ e1 e2
    · unfold Owned at ho
      simp only [hget] at ho
      by_cases hb : b1 = b
      · subst hb; exact hown
      · unfold Owned; simpa only [if_neg hb] using ho
    · rw [hget] at hd
      by_cases hb : b2 = b
      · subst hb; rw [hg]; simp
      · simpa only [if_neg hb] using hd
  · rw [size_freeze]; exact hR.size

theorem x_ustr {e : TypeId} {args : Array Operand} {at_ : Array TypeId} (ho : o.op = .call { callee := .builtin .unsafeString, args := args, argTypes := at_ }) (hE : Env X ι p t a.tmps) (hR : Rel B ι H w)
    (hargs : chkOpds X args.toList xs = true) (hce : X.P.cellsOf e = 1)
    (hat : (match at_.toList with
      | [t0, _] => (match X.P.underlying t0 with | some (.pointer e') => e' == e | _ => false)
      | _ => false) = true)
    (hl : rhos p t xs = some l) (hx : xUstr H e l = some (v, H')) : OpOK X a o B ι w v H' := by
  have hvs := rhos_sound hE hargs hl
  split at hat
  · rename_i t0 t1 hat'
    have hat2 : at_ = #[t0, t1] := toArray_of hat'
    split at hat
    · rename_i e' hu
      simp only [beq_iff_eq] at hat
      subst hat
      unfold xUstr at hx
      split at hx
      · rename_i n
        split at hx
        · rename_i hn
          simp only [Option.some.injEq, Prod.mk.injEq] at hx
          obtain ⟨e1, e2⟩ := hx; subst e1; subst e2
          obtain ⟨v1, v2, ee, r1, r2⟩ := hvs.two_inv
          have r1 : v1 = .pointer none := r1
          have r2 : v2 = .int .i64 n := r2
          subst r1; subst r2; subst hn
          have harr := args_of (a := a) ee
          refine OpOK.val (u := .string .empty) hR ?_ rfl
          simp only [execOp, ho, harr, hat2, resolve, invoke, bi_ustr, Sem.run_bind, Sem.run_pure, Result.andThen_ok, Lib.run_unsafeString_none]
        · cases hx
      · rename_i b off n
        split at hx
        · rename_i hn
          obtain ⟨hn0, hn1, rfl⟩ := hn
          split at hx
          · rename_i c e0 hg
            split at hx
            · rename_i hc
              obtain ⟨rfl, hle⟩ := hc
              split at hx
              · rename_i s hs
                split at hx
                · rename_i hbq
                  simp only [Option.some.injEq, Prod.mk.injEq] at hx
                  obtain ⟨e1, e2⟩ := hx; subst e1; subst e2
                  have hrd : rd c 0 n.toNat = byteCells s := AV.beqs_eq _ _ hbq
                  obtain ⟨v1, v2, ee, ⟨L, hL, r1⟩, r2⟩ := hvs.two_inv
                  have r2 : v2 = .int .i64 n := r2
                  obtain ⟨q0, m, q1, q2⟩ := hR.ty b c _ L hg hL
                  rw [q0] at r1
                  simp only [Nat.add_zero] at r1
                  subst r1; subst r2
                  have harr := args_of (a := a) ee
                  have hlen : s.length = n.toNat := by
                    have : (rd c 0 n.toNat).length = (byteCells s).length := by rw [hrd]
                    simp only [rd, List.drop_zero, List.length_take, byteCells, List.length_map] at this
                    omega
                  have hcast : ((s.length : Nat) : Int) = n := by omega
                  obtain ⟨_, o2, _⟩ := hR.ownu b c L hg (by simp) hL
                  obtain ⟨L', hL', hlive⟩ := hR.live b c _ hg
                  rw [hL] at hL'; injection hL' with hL'; subst hL'
                  have hrun := Lib.run_unsafeString_row (P := X.P) w t0 t1 o.type e0 hu hce L.blk m q1 s (by intro h; subst h; simp at hlen; omega) (by omega) (by omega)
                    (fun j x hj => by
                      have hc : c[j]? = some (.int .u8 x.toNat) := by
                        have h1 : (rd c 0 n.toNat)[j]? = some (.int .u8 x.toNat) := by rw [hrd]; simp [byteCells, hj]
                        simp only [rd, List.drop_zero, List.getElem?_take] at h1
                        split at h1
                        · exact h1
                        · cases h1
                      obtain ⟨u, hu1, hu2⟩ := hlive j _ hc
                      have hu2 : u = .int .u8 x.toNat := hu2
                      subst hu2
                      rw [q0] at hu1
                      have : (⟨L.blk, 0, none⟩ : Addr).add j = ⟨L.blk, 0 + j, none⟩ := by
                        unfold Addr.add; split
                        · simp; omega
                        · simp
                      rw [this]; exact hu1)
                  rw [hcast] at hrun
                  obtain ⟨f1, f2⟩ := hR.freeze (by simp) hg hL s.length 0
                  refine ⟨_, _, .string ⟨s.toArray⟩, ?_, .inl rfl, ι, ι.le_refl, f1, f2, rfl⟩
                  simp only [execOp, ho, harr, hat2, resolve, invoke, bi_ustr, Sem.run_bind, Sem.run_pure, Result.andThen_ok, hrun]
                · cases hx
              · cases hx
            · cases hx
          · cases hx
        · cases hx
      · cases hx
    · cases hat
  · cases hat

theorem empty_form {x : AV} {x' : Value} (h : emptyA x = true) (hr : VR ι x x') : ∃ base c, x' = .slice base 0 c := by
  cases x <;> simp [emptyA] at h
  · subst h; obtain ⟨L, _, r⟩ := hr; exact ⟨_, _, r⟩
  · subst h
    obtain ⟨L, _, r⟩ := hr
    rcases r with ⟨c, _, _, r⟩ | ⟨_, q, r⟩
    · exact ⟨_, _, r⟩
    · exact ⟨_, _, r⟩
  · exact ⟨none, 0, hr⟩

theorem x_copy0 {args : Array Operand} {at_ : Array TypeId} (ho : o.op = .call { callee := .builtin .copy, args := args, argTypes := at_ }) (hE : Env X ι p t a.tmps) (hR : Rel B ι H w)
    (hargs : chkOpds X args.toList xs = true)
    (hat : (match at_.toList with
      | [t0, _] => (match X.P.underlying t0 with | some (.slice e) => (tySize X.P e).isSome | _ => false)
      | _ => false) = true)
    (hl : rhos p t xs = some l) (hx : xCopy0 H l = some (v, H')) : OpOK X a o B ι w v H' := by
  have hvs := rhos_sound hE hargs hl
  split at hat
  · rename_i t0 t1 hat'
    have hat2 : at_ = #[t0, t1] := toArray_of hat'
    split at hat
    · rename_i e hu
      obtain ⟨sz, hsz⟩ := Option.isSome_iff_exists.1 hat
      unfold xCopy0 at hx
      split at hx
      · rename_i x y
        split at hx
        · rename_i hem
          simp only [Bool.and_eq_true] at hem
          simp only [Option.some.injEq, Prod.mk.injEq] at hx
          obtain ⟨e1, e2⟩ := hx; subst e1; subst e2
          obtain ⟨v1, v2, ee, r1, r2⟩ := hvs.two_inv
          obtain ⟨b1, c1, rfl⟩ := empty_form hem.1 r1
          obtain ⟨b2, c2, rfl⟩ := empty_form hem.2 r2
          have harr := args_of (a := a) ee
          refine OpOK.val (u := .int .i64 0) hR ?_ rfl
          have hb : ∀ cs, builtin .copy #[t0, t1] o.type cs #[.slice b1 0 c1, .slice b2 0 c2] = (do pure (.value (← Builtin.copy_ #[t0, t1] o.type #[.slice b1 0 c1, .slice b2 0 c2]))) := fun _ => rfl
          have hrun : (Builtin.copy_ #[t0, t1] o.type #[.slice b1 0 c1, .slice b2 0 c2]).run X.P w = .ok (.int .i64 0) w := by
            cases b1 <;> cases b2 <;> simp [Builtin.copy_, run_underlying hu, Builtin.lenOf, run_sizeOf' hsz, Builtin.firstCells, loadCells, loadCellsFrom, storeCells, goInt]
          simp only [execOp, ho, harr, hat2, resolve, invoke, hb, Sem.run_bind, Sem.run_pure, Result.andThen_ok, hrun]
        · cases hx
      · cases hx
    · cases hat
  · cases hat

theorem x_apps {e : TypeId} {args : Array Operand} {at_ : Array TypeId} (ho : o.op = .call { callee := .builtin .append, args := args, argTypes := at_ }) (hE : Env X ι p t a.tmps) (hR : Rel B ι H w)
    (hargs : chkOpds X args.toList xs = true)
    (hty : (match at_.toList with
       | [t0, t1] => (match X.P.underlying t0, X.P.underlying t1 with
         | some (.slice e'), some .string => e' == e && (tySize X.P e == some 1) && (tyBytes X.P e == some 1) && (match tyZero X.P e with | some zv => zv.cells.size == 1 | none => false)
         | _, _ => false)
       | _ => false) = true)
    (hl : rhos p t xs = some l) (hx : xApps H e l = some (v, H')) : OpOK X a o B ι w v H' := by
  have hvs := rhos_sound hE hargs hl
  split at hty
  · rename_i t0 t1 hat
    have hat' : at_ = #[t0, t1] := toArray_of hat
    split at hty
    · rename_i e' hu0 hu1
      simp only [Bool.and_eq_true, beq_iff_eq] at hty
      obtain ⟨⟨⟨rfl, h1⟩, h2⟩, h4⟩ := hty
      obtain ⟨i, hi, his⟩ := info_of h1
      have hib : i.bytes = 1 := by simpa [tyBytes, hi] using h2
      cases hz : tyZero X.P e' with
      | none => simp [hz] at h4
      | some zv =>
        simp only [hz, beq_iff_eq] at h4
        have hz' : i.zero = some zv := by simpa [tyZero, hi] using hz
        unfold xApps at hx
        split at hx
        · rename_i x s
          obtain ⟨v1, v2, ee, r1, r2⟩ := hvs.two_inv
          have r2 : v2 = .string ⟨s.toArray⟩ := r2
          subst r2
          have harr := args_of (a := a) ee
          have hfc : ∀ w' : World, (Builtin.firstCells 1 s.length (.string ⟨s.toArray⟩)).run X.P w' = .ok (s.map fun b => Value.int .u8 (b.toNat : Int)).toArray w' := by
            intro w'
            have := firstCells_string (P := X.P) ⟨s.toArray⟩ w'
            simpa [ByteArray.size, Go.byteCells] using this
          have hsrc : Src2 X.P 1 t1 (.string ⟨s.toArray⟩) s.length (s.map fun b => Value.int .u8 (b.toNat : Int)).toArray w := ⟨.inr hu1, fun _ => rfl, hfc w, hfc w.drew⟩
          obtain ⟨u, w', hrun, hgood⟩ := appendT_sound (P := X.P) (ty := o.type) hR (by rw [h4, his]) his hib r1 (fun _ _ _ _ h1 h2 => append_fits hu0 hi (his ▸ hsrc) h1 h2) (fun _ _ _ _ h1 h2 h3 h4 => append_grows hu0 hi hz' (his ▸ hsrc) h1 h2 h3 h4) (by simpa using byteCells_VRs ι s) (byteCells_one s) (by simp [byteCells]) hx
          refine ⟨.value u, w', u, ?_, .inl rfl, hgood⟩
          simp only [execOp, ho, harr, hat', resolve, invoke, builtin, Sem.run_bind, Sem.run_pure, Result.andThen_ok, hrun]
        · cases hx
    · cases hty
  · cases hty

theorem x_appb {e : TypeId} {args : Array Operand} {at_ : Array TypeId} (ho : o.op = .call { callee := .builtin .append, args := args, argTypes := at_ }) (hE : Env X ι p t a.tmps) (hR : Rel B ι H w)
    (hargs : chkOpds X args.toList xs = true)
    (hty : (match at_.toList with
       | [t0, t1] => (match X.P.underlying t0, X.P.underlying t1 with
         | some (.slice e'), some (.slice _) => e' == e && (tySize X.P e == some 1) && (tyBytes X.P e == some 1) && (match tyZero X.P e with | some zv => zv.cells.size == 1 | none => false)
         | _, _ => false)
       | _ => false) = true)
    (hl : rhos p t xs = some l) (hx : xAppb H e l = some (v, H')) : OpOK X a o B ι w v H' := by
  have hvs := rhos_sound hE hargs hl
  split at hty
  · rename_i t0 t1 hat
    have hat' : at_ = #[t0, t1] := toArray_of hat
    split at hty
    · rename_i e' e1 hu0 hu1
      simp only [Bool.and_eq_true, beq_iff_eq] at hty
      obtain ⟨⟨⟨rfl, h1⟩, h2⟩, h4⟩ := hty
      obtain ⟨i, hi, his⟩ := info_of h1
      have hib : i.bytes = 1 := by simpa [tyBytes, hi] using h2
      cases hz : tyZero X.P e' with
      | none => simp [hz] at h4
      | some zv =>
        simp only [hz, beq_iff_eq] at h4
        have hz' : i.zero = some zv := by simpa [tyZero, hi] using hz
        unfold xAppb at hx
        split at hx
        · rename_i x y
          split at hx
          · rename_i n ys hrd
            split at hx
            · rename_i hone
              obtain ⟨v1, v2, ee, r1, r2⟩ := hvs.two_inv
              have harr := args_of (a := a) ee
              have hsrc : ∃ new, Src2 X.P 1 t1 v2 n new w ∧ VRs ι ys new.toList := by
                rcases readSl_sound2 (P := X.P) hR hrd r2 with ⟨cap, hv, rfl, rfl⟩ | ⟨q, cap, vs, hv, g1, g2⟩
                · exact ⟨#[], ⟨.inl ⟨e1, hu1⟩, fun _ => by rw [hv]; rfl, by rw [hv]; rfl, by rw [hv]; rfl⟩, rfl⟩
                · exact ⟨vs, ⟨.inl ⟨e1, hu1⟩, fun _ => by rw [hv]; rfl, by rw [hv]; exact g1.1, by rw [hv]; exact g1.2⟩, g2⟩
              obtain ⟨new, hs1, hs2⟩ := hsrc
              obtain ⟨u, w', hrun, hgood⟩ := appendT_sound (P := X.P) (ty := o.type) hR (by rw [h4, his]) his hib r1 (fun _ _ _ _ h1 h2 => append_fits hu0 hi (his ▸ hs1) h1 h2) (fun _ _ _ _ h1 h2 h3 h4 => append_grows hu0 hi hz' (his ▸ hs1) h1 h2 h3 h4) hs2 hone (by have := readSl_len hrd; omega) hx
              refine ⟨.value u, w', u, ?_, .inl rfl, hgood⟩
              simp only [execOp, ho, harr, hat', resolve, invoke, builtin, Sem.run_bind, Sem.run_pure, Result.andThen_ok, hrun]
            · cases hx
          · cases hx
        · cases hx
    · cases hty
  · cases hty

theorem shape_of_cell {q : Addr} {u : Value} (h : w.cell? q = some u) (hs : q.spot = none) : ∃ e n, w.shape? q.block = some (e, n) ∧ q.off < n := by
  simp only [World.cell?] at h
  cases hw : w.heap[q.block]? with
  | none => simp [hw] at h
  | some o =>
    cases o with
    | cells c e fr =>
      simp only [hw] at h
      refine ⟨e, c.size, by simp [World.shape?, hw], ?_⟩
      rcases Nat.lt_or_ge q.off c.size with h1 | h1
      · exact h1
      · simp [hs, Array.getElem?_eq_none h1] at h
    | _ => simp [hw] at h

theorem x_toU {s d t0 : TypeId} {x : Operand} {sz : Nat} (ho : o.op = .convert s d x) (hE : Env X ι p t a.tmps) (hR : Rel B ι H w)
    (hs : X.P.underlying s = some (.pointer t0)) (hd : X.P.underlying d = some .unsafePointer) (hsz : tySize X.P t0 = some sz) (hpos : 0 < sz)
    (hargs : chkOpds X [x] xs = true) (hl : rhos p t xs = some l) (hx : xToU H l = some (v, H')) : OpOK X a o B ι w v H' := by
  have hvs := rhos_sound hE hargs hl
  unfold xToU at hx
  split at hx
  · rename_i b off
    split at hx
    · rename_i c u hg
      split at hx
      · rename_i hoff
        simp only [Option.some.injEq, Prod.mk.injEq] at hx
        obtain ⟨e1, e2⟩ := hx; subst e1; subst e2
        obtain ⟨v1, ee, ⟨L, hL, r1⟩⟩ := hvs.one_inv
        subst r1
        obtain ⟨L', hL', hlive⟩ := hR.live b c _ hg
        rw [hL] at hL'; injection hL' with hL'; subst hL'
        obtain ⟨u0, hu0, _⟩ := hlive off c[off] (List.getElem?_eq_getElem hoff)
        obtain ⟨e, n, h1, h2⟩ := shape_of_cell hu0 rfl
        obtain ⟨i, hi, his⟩ := info_of hsz
        simp only [List.map_cons, List.map_nil, List.cons.injEq, and_true] at ee
        refine OpOK.val hR ?_ ⟨L, hL, rfl⟩
        simp only [execOp, ho, ee, Sem.run_bind, Sem.run_pure, Result.andThen_ok, Lib.run_to_unsafe (P := X.P) w _ hs hd hi (by omega) h1 h2]
      · cases hx
    · cases hx
  · cases hx

theorem lies_self {P : Program} {e : TypeId} (hc : 0 < P.cellsOf e) (count : Nat) (hn : 1 ≤ count) : liesAt P P.depth e count 0 e 1 = true := by
  have hd : P.depth = (2 * (P.types.size + Made.depth) + 1) + 1 := rfl
  rw [hd]
  simp only [liesAt, Bool.or_eq_true]
  left
  rw [hd]
  have h0 : ¬ P.cellsOf e = 0 := by omega
  simp [rowAt, h0, hn, sameLayout]

theorem x_fromU {s d u : TypeId} {x : Operand} {sz : Nat} (ho : o.op = .convert s d x) (hE : Env X ι p t a.tmps) (hR : Rel B ι H w)
    (hs : X.P.underlying s = some .unsafePointer) (hd : X.P.underlying d = some (.pointer u)) (hu : (X.P.info? u).isSome = true) (hsz : sz = X.P.cellsOf u) (hpos : 0 < sz)
    (hargs : chkOpds X [x] xs = true) (hl : rhos p t xs = some l) (hx : xFromU H u sz l = some (v, H')) : OpOK X a o B ι w v H' := by
  have hvs := rhos_sound hE hargs hl
  unfold xFromU at hx
  split at hx
  · rename_i b off
    split at hx
    · rename_i c e' hg
      split at hx
      · rename_i hoff
        obtain ⟨rfl, rfl, hle⟩ := hoff
        simp only [Option.some.injEq, Prod.mk.injEq] at hx
        obtain ⟨e1, e2⟩ := hx; subst e1; subst e2
        obtain ⟨v1, ee, ⟨L, hL, r1⟩⟩ := hvs.one_inv
        subst r1
        obtain ⟨q0, m, q1, q2⟩ := hR.ty b c _ L hg hL
        obtain ⟨_, o2, _⟩ := hR.ownu b c L hg (by simp) hL
        obtain ⟨j, hj⟩ := Option.isSome_iff_exists.1 hu
        simp only [List.map_cons, List.map_nil, List.cons.injEq, and_true] at ee
        refine OpOK.val hR ?_ ⟨L, hL, rfl⟩
        have hlies : liesAt X.P X.P.depth e' (m / X.P.cellsOf e') (L.base + 0) e' 1 = true := by
          rw [q0]
          exact lies_self (by omega) _ (by rw [Nat.le_div_iff_mul_le (by omega)]; omega)
        simp only [execOp, ho, ee, Sem.run_bind, Sem.run_pure, Result.andThen_ok, Lib.run_from_unsafe (P := X.P) (e := e') (cells := m) w ⟨L.blk, L.base + 0, none⟩ hs hd hj q1 hlies]
      · cases hx
    · cases hx
  · cases hx

theorem x_stT {ty : TypeId} {x y : Operand} (ho : o.op = .store ty x y) (hE : Env X ι p t a.tmps) (hR : Rel B ι H w) (hsz : tySize X.P ty = some 1)
    (hargs : chkOpds X [x, y] xs = true) (hl : rhos p t xs = some l) (hx : xStT H l = some (v, H')) : OpOK X a o B ι w v H' := by
  have hvs := rhos_sound hE hargs hl
  unfold xStT at hx
  split at hx
  · rename_i b off u
    split at hx
    · rename_i c e hg
      split at hx
      · rename_i hoff
        simp only [Option.some.injEq, Prod.mk.injEq] at hx
        obtain ⟨e1, e2⟩ := hx; subst e1; subst e2
        obtain ⟨v1, v2, ee, ⟨L, hL, r1⟩, r2⟩ := hvs.two_inv
        subst r1
        simp only [List.map_cons, List.map_nil, List.cons.injEq, and_true] at ee
        obtain ⟨ex, ey⟩ := ee
        obtain ⟨h1, h2, h3⟩ := hR.ownu b c L hg (by simp) hL
        obtain ⟨⟨u0, hu0⟩, hfz⟩ := h3 off (by omega)
        have hone : v2.oneCell' = true := r2.one hoff.2
        obtain ⟨f1, f2⟩ := hR.put_cell (c2 := c.set off u) (off := off) (by simp) hg hL (by omega) r2 (by simpa using h2) (fun i y hy hne => by
            rw [List.getElem?_set, if_neg (Ne.symm hne)] at hy; exact hy) (fun y hy => by
            rw [List.getElem?_set, if_pos rfl, if_pos hoff.1] at hy; injection hy with hy; exact hy.symm)
        have hcs : v2.cells = #[v2] := by
          cases v2 <;> first | rfl | (simp [Value.oneCell'] at hone)
        refine ⟨.skip, _, undef, ?_, .inr ⟨rfl, rfl⟩, ι, ι.le_refl, f1, f2, ⟨#[], rfl, rfl⟩⟩
        have hst : (storeCells ⟨L.blk, L.base + off, none⟩ [v2]).run X.P w = .ok () (w.setCell ⟨L.blk, L.base + off, none⟩ v2) := by
          have hadd : (⟨L.blk, L.base + off, none⟩ : Addr).add 0 = ⟨L.blk, L.base + off, none⟩ := by unfold Addr.add; simp
          simp only [storeCells, hadd, Sem.run_bind, run_store X.P w _ v2 _ hone, hu0, hfz, Bool.false_eq_true, if_false, Result.andThen_ok, Sem.run_pure]
        simp only [execOp, ho, Instr.storeAt, Instr.sureAddr, ex, ey, Sem.run_bind, Sem.run_pure, Result.andThen_ok, storeVar, run_sizeOf' hsz, hcs, List.size_toArray, List.length_cons, List.length_nil, ne_eq, not_true_eq_false, if_false, hst]
      · cases hx
    · cases hx
  · cases hx

theorem x_allocT {e : TypeId} {z : List AV} (ho : o.op = .alloc e) (hR : Rel B ι H w)
    (hc : (match tyZero X.P e with | some v => constVs z v.cells.toList | none => false) = true)
    (hx : xAllocT H e z l = some (v, H')) : OpOK X a o B ι w v H' := by
  unfold xAllocT at hx
  split at hx
  · simp only [Option.some.injEq, Prod.mk.injEq] at hx
    obtain ⟨e1, e2⟩ := hx; subst e1; subst e2
    cases hz : tyZero X.P e with
    | none => simp [hz] at hc
    | some zv =>
      simp only [hz] at hc
      have hr := constVs_sound ι _ _ hc
      have hlen : zv.cells.size = z.length := by have := hr.length; simpa using this
      obtain ⟨h1, h2⟩ := hR.push_u (w' := w.alloc (.cells zv.cells e)) z z.length (.byt e) (fun e' he => by
          injection he with he; subst he
          exact ⟨zv.cells.size, shape_new w _ _, by omega⟩) (by simp) (fun k hk => Below.heap_alloc _ _ _ hk)
        (fun i x hx => by
          obtain ⟨u, hu, hru⟩ := hr.get hx
          exact ⟨u, by rw [World.cell?_alloc_new]; simpa using hu, hru⟩)
        ⟨Nat.le_refl _, fun i hi => by
          rw [World.cell?_alloc_new, World.frozen?_alloc_new]
          exact ⟨⟨zv.cells[i], by simp [hlen, hi]⟩, rfl⟩⟩
      refine ⟨_, _, .pointer (some ⟨w.heap.size, 0, none⟩), ?_, .inl rfl, _, h1, h2, (Below.refl B w).alloc hR.size _, ⟨_, Plan.add_self _ _ _, by simp⟩⟩
      simp [execOp, ho, Instr.alloc, run_zeroValue' hz, newVar, newRow]
  · cases hx

theorem ext_sound {k : ExtK} (hc : chkExt X o.op k xs = true) (hE : Env X ι p t a.tmps) (hR : Rel B ι H w) (hev : evOp (rho p t) H (.ext k xs) = some (v, H')) : OpOK X a o B ι w v H' := by
  simp only [evOp] at hev
  split at hev
  · rename_i l hl
    have hl := mapM_rhos _ _ hl
    cases hop : o.op
    case convert s d x =>
      rw [hop] at hc
      cases k <;> first | (exact absurd hc Bool.false_ne_true) | skip
      · simp only [chkExt, Bool.and_eq_true] at hc
        obtain ⟨h1, h2⟩ := hc
        split at h1
        · rename_i t0 hs hd
          split at h1
          · rename_i n hn; exact x_toU hop hE hR hs hd hn (by simpa using h1) h2 hl hev
          · cases h1
        · cases h1
      · simp only [chkExt, Bool.and_eq_true] at hc
        obtain ⟨h1, h2⟩ := hc
        split at h1
        · rename_i u hs hd
          simp only [Bool.and_eq_true, beq_iff_eq, decide_eq_true_eq] at h1
          obtain ⟨⟨⟨rfl, h3⟩, h4⟩, h5⟩ := h1
          exact x_fromU hop hE hR hs hd h3 h4 h5 h2 hl hev
        · cases h1
    case binOp op ty x y ty' =>
      rw [hop] at hc
      cases k <;> first | (exact absurd hc Bool.false_ne_true) | skip
      simp only [chkExt, Bool.and_eq_true] at hc
      obtain ⟨⟨h1, h2⟩, h3⟩ := hc
      split at h2
      · rename_i te hu; exact x_peq hop hE hR h1 hu h2 h3 hl hev
      · cases h2
    case store ty x y =>
      rw [hop] at hc
      cases k <;> first | (exact absurd hc Bool.false_ne_true) | skip
      simp only [chkExt, Bool.and_eq_true, beq_iff_eq] at hc
      exact x_stT hop hE hR hc.1 hc.2 hl hev
    case alloc e =>
      rw [hop] at hc
      cases k <;> first | (exact absurd hc Bool.false_ne_true) | skip
      simp only [chkExt, Bool.and_eq_true, beq_iff_eq] at hc
      obtain ⟨⟨rfl, h2⟩, h3⟩ := hc
      exact x_allocT hop hR h3 hev
    case call cl =>
      obtain ⟨callee, args, at_⟩ := cl
      rw [hop] at hc
      cases callee with
      | invoke r m => exact absurd hc Bool.false_ne_true
      | value f =>
        cases f <;> first | (exact absurd hc Bool.false_ne_true) | skip
        cases k <;> first | (exact absurd hc Bool.false_ne_true) | skip
        · simp only [chkExt, Bool.and_eq_true] at hc
          exact x_same hop hE hR hc.1 hc.2 hl hev
        · simp only [chkExt, Bool.and_eq_true] at hc
          exact x_mknz hop hE hR hc.1.1 hc.1.2 hc.2 hl hev
      | builtin b =>
        cases b <;> first | (exact absurd hc Bool.false_ne_true) | skip
        all_goals cases k <;> first | (exact absurd hc Bool.false_ne_true) | skip
        · simp only [chkExt, Bool.and_eq_true] at hc
          exact x_apps hop hE hR hc.1 hc.2 hl hev
        · simp only [chkExt, Bool.and_eq_true] at hc
          exact x_appb hop hE hR hc.1 hc.2 hl hev
        · simp only [chkExt, Bool.and_eq_true] at hc
          exact x_copy0 hop hE hR hc.1 hc.2 hl hev
        · simp only [chkExt] at hc
          exact x_sdata hop hE hR hc hl hev
        · simp only [chkExt, Bool.and_eq_true, beq_iff_eq] at hc
          exact x_ustr hop hE hR hc.1.1 hc.1.2 hc.2 hl hev
    all_goals (rw [hop] at hc; exact absurd hc Bool.false_ne_true)
  · cases hev
end
end Go.Ev
