/- Soundness of the simple operations: comparisons, conversions, slices, fields, indexes. -/
import Derived.Test.YtimbiogcllmalaaDoorEvF
namespace Go.Ev
open Go Go.RowKit
section
variable {X : Cx} {ι : Plan} {B : Nat} {H H' : Heap} {w : World} {a : Act} {p t : List (Nat × AV)} {o : Oper} {v : AV}

theorem eqCell_sound {x y : AV} {x' y' : Value} {r : Bool} {P : Program} {ty : TypeId} {k : SK} (h : eqCell k x y = some r) (hx : VR ι x x') (hy : VR ι y y') (ht : scalarTy P ty = some k) (d : Nat) :
    (Op.equalIn (d + 1) ty x' y').run P w = .ok r w := by
  unfold scalarTy at ht
  unfold eqCell at h
  split at h
  · rename_i j m j' n
    have e1 : x' = .int j m := hx
    have e2 : y' = .int j' n := hy
    subst e1; subst e2
    split at h
    · rename_i hk; subst hk
      injection h with h; subst h
      cases hu : P.underlying ty with
      | none => simp [hu] at ht
      | some D =>
        cases D <;> simp [hu] at ht
        rw [run_equalIn_int w d ty j _ m n hu]; rfl
    · cases h
  · rename_i s s'
    have e1 : x' = .string ⟨s.toArray⟩ := hx
    have e2 : y' = .string ⟨s'.toArray⟩ := hy
    subst e1; subst e2
    injection h with h; subst h
    cases hu : P.underlying ty with
    | none => simp [hu] at ht
    | some D =>
      cases D <;> simp [hu] at ht
      rw [run_equalIn_string w d ty _ _ hu, toList_mk, toList_mk]
      congr 1; exact Bool.eq_iff_iff.2 (by simp)
  · rename_i b b'
    have e1 : x' = .bool b := hx
    have e2 : y' = .bool b' := hy
    subst e1; subst e2
    injection h with h; subst h
    cases hu : P.underlying ty with
    | none => simp [hu] at ht
    | some D =>
      cases D <;> simp [hu] at ht
      rw [run_equalIn_bool' w d ty _ _ hu]; rfl
  · cases h

theorem part_scalar {P : Program} {ty : TypeId} {k : SK} {cs : Array Value} {off : Nat} {u : Value} (ht : scalarTy P ty = some k) (hu : cs[off]? = some u) : (part ty cs off).run P w = .ok u w := by
  have hag : tyAgg P ty = some false := by
    unfold scalarTy at ht; unfold tyAgg
    cases hd : P.underlying ty with
    | none => simp [hd] at ht
    | some D => cases D <;> simp [hd] at ht ⊢
  simp [part, run_isAgg' hag, hu]

theorem eqFields_sound {P : Program} {xs ys : List AV} {xs' ys' : Array Value} (hx : VRs ι xs xs'.toList) (hy : VRs ι ys ys'.toList) (d : Nat) : ∀ (fs : List Field) (l : List (Nat × SK)) (r : Bool),
    eqOffs P fs = some l → eqCells xs ys l = some r → (Op.eqFields (d + 1) xs' ys' fs).run P w = .ok r w
  | [], l, r, h1, h2 => by simp only [eqOffs, Option.some.injEq] at h1; subst h1; simp only [eqCells, Option.some.injEq] at h2; subst h2; rfl
  | f :: fs, l, r, h1, h2 => by
    simp only [eqOffs] at h1
    split at h1
    · cases h1
    · rename_i m hm
      by_cases hn : f.name ≠ "_"
      · rw [if_pos hn] at h1
        split at h1
        · rename_i k hk
          injection h1 with h1; subst h1
          simp only [eqCells] at h2
          split at h2
          · rename_i x y hxi hyi
            obtain ⟨x', hx1, hx2⟩ := hx.get hxi
            obtain ⟨y', hy1, hy2⟩ := hy.get hyi
            rw [Array.getElem?_toList] at hx1 hy1
            split at h2
            · cases h2
            · rename_i he
              injection h2 with h2; subst h2
              simp only [Op.eqFields, if_pos hn, Sem.run_bind, part_scalar hk hx1, part_scalar hk hy1, Result.andThen_ok, eqCell_sound he hx2 hy2 hk d, Bool.not_false, if_true, Sem.run_pure]
            · rename_i he
              have ih := eqFields_sound hx hy d fs m r hm h2
              simp only [Op.eqFields, if_pos hn, Sem.run_bind, part_scalar hk hx1, part_scalar hk hy1, Result.andThen_ok, eqCell_sound he hx2 hy2 hk d, Bool.not_true, Bool.false_eq_true, if_false, ih]
          · cases h2
        · cases h1
      · rw [if_neg hn] at h1
        injection h1 with h1; subst h1
        simp only [Op.eqFields, if_neg hn]
        exact eqFields_sound hx hy d fs m r hm h2

theorem equalIn_agg {P : Program} {ty : TypeId} {fs : List (Nat × SK)} {xs ys : List AV} {xs' ys' : Array Value} {r : Bool} (hxs : VRs ι xs xs'.toList) (hys : VRs ι ys ys'.toList)
    (ht : eqKOk P ty (.agg fs) = true) (h : eqCells xs ys fs = some r) : (Op.equal ty (.agg xs') (.agg ys')).run P w = .ok r w ∧ P.eqGuardType P.depth ty = false := by
  unfold eqKOk at ht
  cases hu : P.underlying ty with
  | none => simp [hu] at ht
  | some D =>
    cases D <;> simp [hu] at ht
    rename_i fs'
    obtain ⟨⟨hg, hs⟩, hoff⟩ := ht
    have hf : P.underlying ty = some (.struct (P.fieldsOf ty)) := by rw [hu]; simp [Program.fieldsOf, hu]
    have hfs : P.fieldsOf ty = fs' := by simp [Program.fieldsOf, hu]
    refine ⟨?_, hg⟩
    rw [Op.equal, Op.maxDepth, run_equalIn_struct w 9999 ty xs' ys' hf hs, hfs]
    exact eqFields_sound hxs hys 9998 _ _ _ hoff h

theorem bool_beq (b c : Bool) : (b == c) = decide (b = c) := by cases b <;> cases c <;> rfl

/-- What a comparison of two values comes to, at any depth, gives what '==' and '!=' come to. -/
theorem eqv_of {P : Program} {op : BinOp} {neg r : Bool} {ty : TypeId} {x y : Value} {X Y : Operand} (hop : (op = .eql ∧ neg = false) ∨ (op = .neq ∧ neg = true))
    (hg : (eqGuard op ty X Y x y).run P w = .ok () w) (hb : binOp op ty x y = (match op with | .eql => do pure (.bool (← Op.equal ty x y)) | _ => do pure (.bool (!(← Op.equal ty x y)))))
    (h : ∀ d, (Op.equalIn (d + 1) ty x y).run P w = .ok r w) : (do eqGuard op ty X Y x y; binOp op ty x y : Sem Value).run P w = .ok (.bool (if neg then !r else r)) w := by
  have he : (Op.equal ty x y).run P w = .ok r w := h 9999
  rw [hb]
  rcases hop with ⟨rfl, rfl⟩ | ⟨rfl, rfl⟩ <;> simp [hg, he]

set_option maxHeartbeats 1600000 in
theorem eqv_sound {op : BinOp} {k : EqK} {x y : AV} {x' y' : Value} {r neg : Bool} {P : Program} {ty : TypeId} (hop : (op = .eql ∧ neg = false) ∨ (op = .neq ∧ neg = true)) (h : eqA k x y = some r) (hx : VR ι x x') (hy : VR ι y y') (ht : eqKOk P ty k = true) (X Y : Operand) (hci : ifcK k X Y = true) :
    (do eqGuard op ty X Y x' y'; binOp op ty x' y' : Sem Value).run P w = .ok (.bool (if neg then !r else r)) w := by
  by_cases hagg : ∃ fs, k = .agg fs
  · obtain ⟨fs, rfl⟩ := hagg
    unfold eqA at h
    split at h
    all_goals first | (rename_i hk; cases hk; done) | skip
    · rename_i hk; injection hk with hk; subst hk
      obtain ⟨xs', rfl, hxs⟩ := hx
      obtain ⟨ys', rfl, hys⟩ := hy
      obtain ⟨h1, h2⟩ := equalIn_agg (w := w) hxs hys ht h
      rcases hop with ⟨rfl, rfl⟩ | ⟨rfl, rfl⟩ <;> simp [eqGuard, binOp, h1, h2]
    · cases h
  · unfold eqKOk at ht
    cases hu : P.underlying ty with
    | none => simp [hu] at ht
    | some D =>
      simp only [hu] at ht
      unfold eqA at h
      split at h
      all_goals first | (cases h; done) | (exfalso; exact hagg ⟨_, rfl⟩) | skip
      all_goals (cases D <;> simp at ht)
      all_goals (injection h with h; subst h)
      all_goals simp only [VR] at hx hy
      all_goals (first | subst hx | (obtain ⟨L1, hL1, hx⟩ := hx; first | subst hx | (rcases hx with ⟨c1, _, _, rfl⟩ | ⟨_, c1, rfl⟩) | subst hL1))
      all_goals (first | subst hy | (obtain ⟨L2, hL2, hy⟩ := hy; first | subst hy | (rcases hy with ⟨c2, _, _, rfl⟩ | ⟨_, c2, rfl⟩) | subst hL2))
      all_goals
        refine eqv_of hop ?_ ?_ ?_
        · first
          | (rcases hop with ⟨rfl, rfl⟩ | ⟨rfl, rfl⟩ <;> simp [eqGuard]; done)
          | (cases X <;> cases Y <;> first | (simp [ifcK, isC] at hci; done) | (rcases hop with ⟨rfl, rfl⟩ | ⟨rfl, rfl⟩ <;> simp [eqGuard]; done))
        · rcases hop with ⟨rfl, rfl⟩ | ⟨rfl, rfl⟩ <;> rfl
        · intro d; simp [Op.equalIn, run_underlying hu, bool_beq]

theorem s_eqv {op : BinOp} {ty ty' : TypeId} {x y : Operand} {x' y' : Opd} {neg : Bool} {k : EqK} (ho : o.op = .binOp op ty x y ty') (hE : Env X ι p t a.tmps) (hR : Rel B ι H w) (hop : eqOp op neg = true) (hc : chkOpd X x x' = true) (hc2 : chkOpd X y y' = true) (hk : eqKOk X.P ty k = true) (hci : ifcK k x y = true)
    (hev : evOp (rho p t) H (.eqv neg k x' y') = some (v, H')) : OpOK X a o B ι w v H' := by
  simp only [evOp] at hev
  split at hev
  · rename_i u hu
    split at hev
    · rename_i u2 hu2
      simp only [Option.map_eq_some_iff, Prod.mk.injEq] at hev
      obtain ⟨r, hr, e1, e2⟩ := hev; subst e1; subst e2
      have hop' : (op = .eql ∧ neg = false) ∨ (op = .neq ∧ neg = true) := by
        cases op <;> simp [eqOp] at hop
        · exact .inl ⟨rfl, hop⟩
        · exact .inr ⟨rfl, hop⟩
      have h1 := eqv_sound (P := X.P) (w := w) hop' hr (rho_sound hE hc hu) (rho_sound hE hc2 hu2) hk x y hci
      refine OpOK.val hR ?_ (rfl : VR ι (.bool (if neg then !r else r)) (.bool (if neg then !r else r)))
      simp only [Sem.run_bind] at h1
      simp only [execOp, ho, Sem.run_bind, h1, Result.andThen_ok, Sem.run_pure]
    · cases hev
  · cases hev
end
end Go.Ev
