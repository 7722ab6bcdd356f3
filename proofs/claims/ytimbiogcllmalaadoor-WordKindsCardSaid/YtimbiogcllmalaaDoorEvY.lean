/- Package-level variables that a row lists: what they read as, in the abstract memory. -/
import Derived.Test.YtimbiogcllmalaaDoorEvX
import Derived.ProofKit
import Derived.LaidMore
import Derived.Lib.LaidU8
namespace Go.Ev
open Go Go.RowKit

def flatFs (P : Program) (rd : TypeId → DataW Unit → Option (List AV)) : List Field → List (DataW Unit) → Nat → Option (List AV)
  | [], [], _ => some []
  | f :: fs, d :: l, off => if f.offset = off then (rd f.type d).bind fun r => if r.length = P.cellsOf f.type then (flatFs P rd fs l (off + r.length)).map (r ++ ·) else none else none
  | _, _, _ => none

def flatEs (rd : TypeId → DataW Unit → Option (List AV)) (e : TypeId) (k : Nat) : List (DataW Unit) → Option (List AV)
  | [] => some []
  | d :: l => (rd e d).bind fun r => if r.length = k then (flatEs rd e k l).map (r ++ ·) else none

def flatD (P : Program) : Nat → TypeId → DataW Unit → Option (List AV)
  | 0, _, _ => none
  | n + 1, t, d => match P.underlying t, d with
    | some .bool, .lit (.bool b) => some [.bool b]
    | some (.int k), .lit (.int k' z) => if k' = k then some [.int k z] else none
    | some .string, .lit (.string bs) => some [.str bs]
    | some (.struct fs), .agg l => (flatFs P (flatD P n) fs.toList l 0).bind fun r => if r.length = P.cellsOf t then some r else none
    | some (.array _ e), .agg l => (flatEs (flatD P n) e (P.cellsOf e) l).bind fun r => if r.length = P.cellsOf t then some r else none
    | _, _ => none

theorem mapM_cons_some {α β : Type} {f : α → Option β} {x : α} {l : List α} {ys : List β} (h : (x :: l).mapM f = some ys) : ∃ y ys', f x = some y ∧ l.mapM f = some ys' ∧ ys = y :: ys' := by
  rw [List.mapM_cons] at h
  cases hx : f x with
  | none => rw [hx] at h; cases h
  | some y =>
    rw [hx] at h
    cases hl : l.mapM f with
    | none => rw [hl] at h; cases h
    | some ys' => rw [hl] at h; injection h with h; exact ⟨y, ys', rfl, rfl, h.symm⟩

theorem mapM_nil_some {α β : Type} {f : α → Option β} {ys : List β} (h : ([] : List α).mapM f = some ys) : ys = [] := by
  rw [List.mapM_nil] at h; injection h with h; exact h.symm

section
variable {P : Program} {w : World} {base : Nat} {sp : Nat → Bool} {held : Bool} {ι : Plan} {rd : TypeId → DataW Unit → Option (List AV)} {fuel : Nat}

theorem flatFs_sound (hrd : ∀ t d avs cs ps, DataW.trod (fun _ => ()) P w base sp held fuel t cs = some (d, ps) → rd t d = some avs → VRs ι avs cs) {cs : List Value} : ∀ (fs : List Field) (xs : List (DataW Unit × List MemPlace)) (off : Nat) (r : List AV),
    fs.mapM (fun f => DataW.trod (fun _ => ()) P w base sp held fuel f.type ((cs.drop f.offset).take (P.cellsOf f.type))) = some xs → flatFs P rd fs (xs.map (·.1)) off = some r → VRs ι r ((cs.drop off).take r.length)
  | [], xs, off, r, h1, h2 => by
    have := mapM_nil_some h1; subst this
    simp only [List.map_nil, flatFs, Option.some.injEq] at h2
    subst h2; simp [VRs]
  | f :: fs, xs, off, r, h1, h2 => by
    obtain ⟨y, ys, e1, e2, rfl⟩ := mapM_cons_some h1
    simp only [List.map_cons, flatFs] at h2
    split at h2
    · rename_i ho
      subst ho
      cases hr : rd f.type y.1 with
      | none => rw [hr] at h2; cases h2
      | some r1 =>
        rw [hr] at h2
        simp only [Option.bind_some] at h2
        split at h2
        · rename_i hl
          obtain ⟨r2, hr2, rfl⟩ := Option.map_eq_some_iff.1 h2
          have ih := flatFs_sound hrd fs ys _ r2 e2 hr2
          have h0 := hrd f.type y.1 r1 _ y.2 e1 hr
          have := h0.append ih
          rw [List.length_append, List.take_add, ← hl, List.drop_drop] at *
          exact this
        · cases h2
    · cases h2

theorem flatEs_sound (hrd : ∀ t d avs cs ps, DataW.trod (fun _ => ()) P w base sp held fuel t cs = some (d, ps) → rd t d = some avs → VRs ι avs cs) {cs : List Value} {e : TypeId} {k : Nat} : ∀ (m s : Nat) (xs : List (DataW Unit × List MemPlace)) (r : List AV),
    (List.range' s m).mapM (fun i => DataW.trod (fun _ => ()) P w base sp held fuel e ((cs.drop (i * k)).take k)) = some xs → flatEs rd e k (xs.map (·.1)) = some r → VRs ι r ((cs.drop (s * k)).take r.length)
  | 0, s, xs, r, h1, h2 => by
    have := mapM_nil_some h1; subst this
    simp only [List.map_nil, flatEs, Option.some.injEq] at h2
    subst h2; simp [VRs]
  | m + 1, s, xs, r, h1, h2 => by
    rw [List.range'_succ] at h1
    obtain ⟨y, ys, e1, e2, rfl⟩ := mapM_cons_some h1
    simp only [List.map_cons, flatEs] at h2
    cases hr : rd e y.1 with
    | none => rw [hr] at h2; cases h2
    | some r1 =>
      rw [hr] at h2
      simp only [Option.bind_some] at h2
      split at h2
      · rename_i hl
        obtain ⟨r2, hr2, rfl⟩ := Option.map_eq_some_iff.1 h2
        have ih := flatEs_sound hrd m (s + 1) ys r2 e2 hr2
        have h0 := hrd e y.1 r1 _ y.2 e1 hr
        have h3 := h0.append ih
        rw [List.length_append, List.take_add, List.drop_drop, hl]
        rw [show s * k + k = (s + 1) * k by rw [Nat.add_mul, Nat.one_mul]]
        exact h3
      · cases h2

theorem take_all {α : Type} {l : List α} {n : Nat} (h : (l.take n).length = l.length) : l.take n = l := by
  rw [List.length_take] at h
  exact List.take_of_length_le (by omega)

theorem flatD_sound : ∀ (n fuel : Nat) (t : TypeId) (d : DataW Unit) (avs : List AV) (cs : List Value) (ps : List MemPlace), DataW.trod (fun _ => ()) P w base sp held fuel t cs = some (d, ps) → flatD P n t d = some avs → VRs ι avs cs
  | 0, _, _, _, _, _, _, _, h => by cases h
  | n + 1, 0, _, _, _, _, _, h, _ => by simp [DataW.trod] at h
  | n + 1, fuel + 1, t, d, avs, cs, ps, h, h2 => by
    simp only [flatD] at h2
    unfold DataW.trod at h
    have ih := fun t d avs cs ps => flatD_sound n fuel t d avs cs ps
    cases hu : P.underlying t with
    | none => rw [hu] at h2; cases h2
    | some D =>
      rw [hu] at h h2
      cases D with
      | bool =>
        rcases cs with _ | ⟨v, _ | ⟨v2, vs⟩⟩
        · simp at h
        · cases v <;> simp at h
          obtain ⟨rfl, rfl⟩ := h
          simp only [Option.some.injEq] at h2
          subst h2
          exact ⟨_, _, rfl, rfl, rfl⟩
        · simp at h
      | int k =>
        rcases cs with _ | ⟨v, _ | ⟨v2, vs⟩⟩
        · simp at h
        · cases v <;> simp at h
          obtain ⟨⟨rfl, _⟩, rfl, rfl⟩ := h
          simp only [if_true, Option.some.injEq] at h2
          subst h2
          exact ⟨_, _, rfl, rfl, rfl⟩
        · simp at h
      | string =>
        rcases cs with _ | ⟨v, _ | ⟨v2, vs⟩⟩
        · simp at h
        · cases v <;> simp at h
          obtain ⟨_, rfl, rfl⟩ := h
          simp only [Option.some.injEq] at h2
          subst h2
          exact ⟨_, _, rfl, by simp [VR], rfl⟩
        · simp at h
      | struct fs =>
        simp only at h
        split at h
        · rename_i hl
          simp only [Option.map_eq_some_iff, Prod.mk.injEq] at h
          obtain ⟨xs, hx, rfl, _⟩ := h
          simp only [Option.bind_eq_some_iff] at h2
          obtain ⟨r, hr, h2⟩ := h2
          split at h2
          · rename_i hrl
            injection h2 with h2; subst h2
            have h3 := flatFs_sound (ι := ι) ih fs.toList xs 0 r hx hr
            have h4 := h3.length
            rw [List.drop_zero] at h3 h4
            have h5 : (cs.take r.length).length = cs.length := by omega
            rw [take_all h5] at h3
            exact h3
          · cases h2
        · cases h
      | array m e =>
        simp only at h
        split at h
        · rename_i hl
          simp only [Option.map_eq_some_iff, Prod.mk.injEq] at h
          obtain ⟨xs, hx, rfl, _⟩ := h
          simp only [Option.bind_eq_some_iff] at h2
          obtain ⟨r, hr, h2⟩ := h2
          split at h2
          · rename_i hrl
            injection h2 with h2; subst h2
            rw [List.range_eq_range'] at hx
            have h3 := flatEs_sound (ι := ι) ih m 0 xs r hx hr
            have h4 := h3.length
            rw [Nat.zero_mul, List.drop_zero] at h3 h4
            have h5 : (cs.take r.length).length = cs.length := by omega
            rw [take_all h5] at h3
            exact h3
          · cases h2
        · cases h
      | _ => cases d <;> simp at h2

/-- A variable's cells. -/
theorem laid_cells {laid : List (String × DataW Unit)} (h : laidMet P laid w) {name : String} {d : DataW Unit} (hm : (name, d) ∈ laid) {g t : Nat} {n : Nat} {avs : List AV} (hg : P.globalNamed name = some g) (ht : (P.globals[g]?).map (·.type) = some t) (hd : flatD P n t d = some avs) :
    ∀ i x, avs[i]? = some x → ∃ v, w.cell? ⟨g, i, none⟩ = some v ∧ VR ι x v := by
  obtain ⟨ps, hv, _⟩ := h
  have main : ∀ (l : List (String × DataW Unit)) (ps : List MemPlace), DataW.LaidVars P w l ps → (name, d) ∈ l → ∃ cs : Array Value, w.var? P name = some cs ∧ VRs ι avs cs.toList := by
    intro l
    induction l with
    | nil => intro ps _ hm; cases hm
    | cons y l ihl =>
      intro ps hl hm
      obtain ⟨n0, d0⟩ := y
      obtain ⟨g', t', cs, fuel, p, q, e1, e2, e3, e4, e5, _⟩ := hl
      rcases List.mem_cons.1 hm with hm | hm
      · injection hm with h1 h2; subst h1; subst h2
        obtain rfl := Option.some.inj (hg.symm.trans e1)
        obtain rfl := Option.some.inj (ht.symm.trans e2)
        exact ⟨cs, e3, flatD_sound n fuel t d avs _ p e4 hd⟩
      · exact ihl q e5 hm
  obtain ⟨cs, h1, h2⟩ := main laid ps hv hm
  intro i x hx
  obtain ⟨v, hv1, hv2⟩ := h2.get hx
  refine ⟨v, ?_, hv2⟩
  rw [World.var?_cell hg h1 i]
  simpa using hv1
end
end Go.Ev
