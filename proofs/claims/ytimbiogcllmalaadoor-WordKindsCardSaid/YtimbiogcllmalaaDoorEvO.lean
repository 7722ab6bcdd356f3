/- Functions run in the model as on the abstract machine. -/
import Derived.Test.YtimbiogcllmalaaDoorEvN
namespace Go.Ev
open Go Go.RowKit

def chkRes (X : Cx) : List ResultVar → List CRes → Bool
  | [], [] => true
  | .tmp t :: l, .slot i :: m => t == i && X.ps.contains i && chkRes X l m
  | .cell t ty :: l, .cell1 i :: m => t == i && X.ps.contains i && (tyAgg X.P ty == some false) && chkRes X l m
  | .cell t ty :: l, .cellN i n :: m => t == i && X.ps.contains i && (tyAgg X.P ty == some true) && (tySize X.P ty == some n) && chkRes X l m
  | _, _ => false

def cxOf (P : Program) (fn : Func) (cf : CFunc) : Cx := ⟨P, cf.ps, fn.ntmps⟩

def chkFn (P : Program) (chkD : Cx → Array Oper → List DCop → Bool) (fn : Func) (cf : CFunc) : Bool :=
  (!(fn.name == "runtime.NumGoroutine")) && decide (cf.nargs ≤ fn.ntmps) && (List.range cf.nargs).all (fun i => cf.ps.contains i) && chkRes (cxOf P fn cf) fn.results.toList cf.results &&
  (match fn.body with
   | some c => chkCode (cxOf P fn cf) (chkD (cxOf P fn cf)) c cf.body
   | none => false)

section
variable {P : Program} {B : Nat} {ι : Plan} {H H' : Heap} {w : World}

theorem lk_enter (args : List AV) : ∀ (k i : Nat) (v : AV), lk i (enterA args k) = some v → k ≤ i ∧ args[i - k]? = some v := by
  induction args with
  | nil => intro k i v h; simp [enterA, lk] at h
  | cons x args ih =>
    intro k i v h
    simp only [enterA, lk] at h
    split at h
    · rename_i e; subst e; injection h with h; subst h; exact ⟨Nat.le_refl _, by simp⟩
    · obtain ⟨h1, h2⟩ := ih _ _ _ h
      refine ⟨by omega, ?_⟩
      have : i - k = (i - (k + 1)) + 1 := by omega
      rw [this, List.getElem?_cons_succ]; exact h2

theorem enter_SR {cf : CFunc} {fn : Func} {κ : CallKind} {cs0 : List Frame} {args : List AV} {vs : Array Value} {u : Up} (hR : Rel B ι H w) (hG : Glob P ι) (hv : VRs ι args vs.toList) (hn : args.length = cf.nargs) (h1 : cf.nargs ≤ fn.ntmps) (h2 : ∀ i, i < cf.nargs → cf.ps.contains i = true)
    (hU : UpR ι κ cs0 u cs0) : SR (cxOf P fn cf) B κ cs0 ι { p := enterA args 0, t := [], H := H, d := [], u := u } { tmps := vs ++ Array.replicate (fn.ntmps - vs.size) undef, defers := [] } cs0 w := by
  have hvl : vs.size = args.length := by have := hv.length; simpa using this
  refine ⟨⟨fun i v h => ?_, fun i v h => by simp [lk] at h, hG, fun i v h => ?_, fun i v h => by simp [lk] at h⟩, by simp [cxOf]; omega, hR, rfl, hU⟩
  · obtain ⟨_, h⟩ := lk_enter args 0 i v h
    obtain ⟨u', hu, hr⟩ := hv.get (by simpa using h)
    rw [Array.getElem?_toList] at hu
    have hi : i < vs.size := by
      rcases Nat.lt_or_ge i vs.size with h | h
      · exact h
      · rw [Array.getElem?_eq_none h] at hu; cases hu
    rw [Array.getD_eq_getD_getElem?, Array.getElem?_append_left hi, hu]; exact hr
  · obtain ⟨_, h⟩ := lk_enter args 0 i v h
    refine h2 i ?_
    rcases Nat.lt_or_ge i args.length with h' | h'
    · omega
    · rw [List.getElem?_eq_none (by simpa using h')] at h; cases h

def resOne (tmps : Array Value) : ResultVar → Sem Value
  | .tmp t => pure (tmps.getD t undef)
  | .cell a t => do loadVar t (← asAddr (tmps.getD a undef))

theorem results_eq (fn : Func) (tmps : Array Value) : results fn tmps = (do let vs ← fn.results.mapM (resOne tmps); pure (if h : vs.size = 1 then vs[0] else .tuple vs)) := by
  unfold results
  congr 1

theorem res_sound {X : Cx} {p t : List (Nat × AV)} {tmps : Array Value} (hE : Env X ι p t tmps) (hR : Rel B ι H w) : ∀ (rs : List ResultVar) (cs : List CRes) (l : List AV), chkRes X rs cs = true → resAs p H cs = some l →
    ∃ vs : List Value, (rs.mapM (m := Sem) (resOne tmps)).run X.P w = .ok vs w ∧ VRs ι l vs
  | [], [], l, _, h => by simp only [resAs, Option.some.injEq] at h; subst h; exact ⟨[], rfl, rfl⟩
  | [], _ :: _, _, hc, _ => by simp [chkRes] at hc
  | _ :: _, [], _, hc, _ => by cases ‹ResultVar› <;> simp [chkRes] at hc
  | r :: rs, c :: cs, l, hc, h => by
    simp only [resAs] at h
    split at h
    · cases h
    · rename_i v hv
      split at h
      · cases h
      · rename_i l' hl'
        injection h with h; subst h
        have main : ∀ (r' : Value), (resOne tmps r).run X.P w = .ok r' w → VR ι v r' → chkRes X rs cs = true →
            ∃ vs : List Value, ((r :: rs).mapM (m := Sem) (resOne tmps)).run X.P w = .ok vs w ∧ VRs ι (v :: l') vs := by
          intro r' h1 h2 h3
          obtain ⟨vs, g1, g2⟩ := res_sound hE hR rs cs l' h3 hl'
          refine ⟨r' :: vs, ?_, ⟨r', vs, rfl, h2, g2⟩⟩
          simp only [List.mapM_cons, Sem.run_bind, h1, Result.andThen_ok, g1, Sem.run_pure]
        cases r with
        | tmp t =>
          cases c <;> simp only [chkRes, Bool.false_eq_true, Bool.and_eq_true, beq_iff_eq] at hc
          obtain ⟨⟨rfl, _⟩, hc⟩ := hc
          exact main _ rfl (hE.fp _ _ hv) hc
        | cell t ty =>
          cases c <;> simp only [chkRes, Bool.false_eq_true, Bool.and_eq_true, beq_iff_eq] at hc
          · obtain ⟨⟨⟨rfl, _⟩, hag⟩, hc⟩ := hc
            simp only [resA] at hv
            split at hv
            · rename_i b off hb
              split at hv
              · rename_i c' u hg
                obtain ⟨L, hL, he⟩ := hE.fp _ _ hb
                obtain ⟨L', hL', hx⟩ := hR.live b c' u hg
                rw [hL] at hL'; injection hL' with hL'; subst hL'
                obtain ⟨r', hr1, hr2⟩ := hx off _ hv
                refine main r' ?_ hr2 hc
                simp only [resOne, he, asAddr, Sem.run_bind, Sem.run_pure, Result.andThen_ok, loadVar, run_isAgg' hag, Bool.false_eq_true, if_false, run_load, hr1]
              · cases hv
            · cases hv
          · obtain ⟨⟨⟨⟨rfl, _⟩, hag⟩, hsz⟩, hc⟩ := hc
            simp only [resA] at hv
            split at hv
            · rename_i b off hb
              split at hv
              · rename_i c' u hg
                split at hv
                · rename_i hle
                  injection hv with hv; subst hv
                  obtain ⟨L, hL, he⟩ := hE.fp _ _ hb
                  obtain ⟨vs, hr1, hr2⟩ := loadCells_sound (P := X.P) hL hR hg off _ hle
                  refine main (.agg vs) ?_ ⟨vs, rfl, hr2⟩ hc
                  simp only [resOne, he, asAddr, Sem.run_bind, Sem.run_pure, Result.andThen_ok, loadVar, run_isAgg' hag, if_true, run_sizeOf' hsz, hr1]
                · cases hv
              · cases hv
            · cases hv

theorem results_sound {X : Cx} {fn : Func} {p t : List (Nat × AV)} {tmps : Array Value} {cs : List CRes} {l : List AV} (hE : Env X ι p t tmps) (hR : Rel B ι H w) (hc : chkRes X fn.results.toList cs = true) (h : resAs p H cs = some l) :
    ∃ v, (results fn tmps).run X.P w = .ok v w ∧ VR ι (resV l) v := by
  obtain ⟨vs, h1, h2⟩ := res_sound hE hR fn.results.toList cs l hc h
  have hrun : (results fn tmps).run X.P w = .ok (if hs : vs.toArray.size = 1 then vs.toArray[0] else .tuple vs.toArray) w := by
    rw [results_eq]
    simp only [Sem.run_bind]
    rw [Array.mapM_eq_mapM_toList]
    simp only [Sem.run_map, h1, Result.andThen_ok, Sem.run_pure]
  refine ⟨_, hrun, ?_⟩
  cases l with
  | nil =>
    have : vs = [] := h2
    subst this
    exact ⟨#[], rfl, rfl⟩
  | cons x l =>
    obtain ⟨v, vs', rfl, hr, hrs⟩ := h2
    cases l with
    | nil =>
      have : vs' = [] := hrs
      subst this
      exact hr
    | cons y l =>
      obtain ⟨v2, vs2, rfl, hr2, hrs2⟩ := hrs
      rw [dif_neg (by simp)]
      exact ⟨_, rfl, ⟨v, _, rfl, hr, ⟨v2, vs2, rfl, hr2, hrs2⟩⟩⟩
end
end Go.Ev
