/- Several texts of this claim, joined. -/
import Derived.Test.YtifhmogcdgfojaaGreatDoorT14
import Derived.ProofKit
import Derived.LaidMore
import Derived.Lib.LaidU8
set_option linter.unusedSimpArgs false
set_option linter.unusedVariables false

/- Package-level variables that a row lists: what they read as, in the abstract memory. -/
namespace Go.Ev
open Go Go.RowKit
def flatFs (P : Program) (rd : TypeId → DataW Unit → Option (List AV)) : List Field → List (DataW Unit) → Nat → Option (List AV)
  | [], [], _ => some []
  | f :: fs, d :: l, off => if f.offset = off then (rd f.type d).bind fun r => if r.length = P.cellsOf f.type then (flatFs P rd fs l (off + r.length)).map (r ++ ·) else none else none
  | _, _, _ => none
def flatEs (rd : TypeId → DataW Unit → Option (List AV)) (e : TypeId) (k : Nat) : List (DataW Unit) → Option (List AV)
  | [] => some []
  | d :: l => (rd e d).bind fun r => if r.length = k then (flatEs rd e k l).map (r ++ ·) else none
def flatD (P : Program) : Nat → TypeId → DataW Unit → Option (List AV)
  | 0, _, _ => none
  | n + 1, t, d => match P.underlying t, d with
    | some .bool, .lit (.bool b) => some [.bool b]
    | some (.int k), .lit (.int k' z) => if k' = k then some [.int k z] else none
    | some .string, .lit (.string bs) => some [.str bs]
    | some (.struct fs), .agg l => (flatFs P (flatD P n) fs.toList l 0).bind fun r => if r.length = P.cellsOf t then some r else none
    | some (.array _ e), .agg l => (flatEs (flatD P n) e (P.cellsOf e) l).bind fun r => if r.length = P.cellsOf t then some r else none
    | _, _ => none
theorem mapM_cons_some {α β : Type} {f : α → Option β} {x : α} {l : List α} {ys : List β} (h : (x :: l).mapM f = some ys) : ∃ y ys', f x = some y ∧ l.mapM f = some ys' ∧ ys = y :: ys' := by
  rw [List.mapM_cons] at h
  cases hx : f x with
  | none => rw [hx] at h; cases h
  | some y =>
    rw [hx] at h
    cases hl : l.mapM f with
    | none => rw [hl] at h; cases h
    | some ys' => rw [hl] at h; injection h with h; exact ⟨y, ys', rfl, rfl, h.symm⟩
theorem mapM_nil_some {α β : Type} {f : α → Option β} {ys : List β} (h : ([] : List α).mapM f = some ys) : ys = [] := by
  rw [List.mapM_nil] at h; injection h with h; exact h.symm
section
variable {P : Program} {w : World} {base : Nat} {sp : Nat → Bool} {held : Bool} {ι : Plan} {rd : TypeId → DataW Unit → Option (List AV)} {fuel : Nat}
theorem flatFs_sound (hrd : ∀ t d avs cs ps, DataW.trod (fun _ => ()) P w base sp held fuel t cs = some (d, ps) → rd t d = some avs → VRs ι avs cs) {cs : List Value} : ∀ (fs : List Field) (xs : List (DataW Unit × List MemPlace)) (off : Nat) (r : List AV),
    fs.mapM (fun f => DataW.trod (fun _ => ()) P w base sp held fuel f.type ((cs.drop f.offset).take (P.cellsOf f.type))) = some xs → flatFs P rd fs (xs.map (·.1)) off = some r → VRs ι r ((cs.drop off).take r.length)
  | [], xs, off, r, h1, h2 => by
    have := mapM_nil_some h1; subst this
    simp only [List.map_nil, flatFs, Option.some.injEq] at h2
    subst h2; simp [VRs]
  | f :: fs, xs, off, r, h1, h2 => by
    obtain ⟨y, ys, e1, e2, rfl⟩ := mapM_cons_some h1
    simp only [List.map_cons, flatFs] at h2
    split at h2
    · rename_i ho
      subst ho
      cases hr : rd f.type y.1 with
      | none => rw [hr] at h2; cases h2
      | some r1 =>
        rw [hr] at h2
        simp only [Option.bind_some] at h2
        split at h2
        · rename_i hl
          obtain ⟨r2, hr2, rfl⟩ := Option.map_eq_some_iff.1 h2
          have ih := flatFs_sound hrd fs ys _ r2 e2 hr2
          have h0 := hrd f.type y.1 r1 _ y.2 e1 hr
          have := h0.append ih
          rw [List.length_append, List.take_add, ← hl, List.drop_drop] at *
          exact this
        · cases h2
    · cases h2
theorem flatEs_sound (hrd : ∀ t d avs cs ps, DataW.trod (fun _ => ()) P w base sp held fuel t cs = some (d, ps) → rd t d = some avs → VRs ι avs cs) {cs : List Value} {e : TypeId} {k : Nat} : ∀ (m s : Nat) (xs : List (DataW Unit × List MemPlace)) (r : List AV),
    (List.range' s m).mapM (fun i => DataW.trod (fun _ => ()) P w base sp held fuel e ((cs.drop (i * k)).take k)) = some xs → flatEs rd e k (xs.map (·.1)) = some r → VRs ι r ((cs.drop (s * k)).take r.length)
  | 0, s, xs, r, h1, h2 => by
    have := mapM_nil_some h1; subst this
    simp only [List.map_nil, flatEs, Option.some.injEq] at h2
    subst h2; simp [VRs]
  | m + 1, s, xs, r, h1, h2 => by
    rw [List.range'_succ] at h1
    obtain ⟨y, ys, e1, e2, rfl⟩ := mapM_cons_some h1
    simp only [List.map_cons, flatEs] at h2
    cases hr : rd e y.1 with
    | none => rw [hr] at h2; cases h2
    | some r1 =>
      rw [hr] at h2
      simp only [Option.bind_some] at h2
      split at h2
      · rename_i hl
        obtain ⟨r2, hr2, rfl⟩ := Option.map_eq_some_iff.1 h2
        have ih := flatEs_sound hrd m (s + 1) ys r2 e2 hr2
        have h0 := hrd e y.1 r1 _ y.2 e1 hr
        have h3 := h0.append ih
        rw [List.length_append, List.take_add, List.drop_drop, hl]
        rw [show s * k + k = (s + 1) * k by rw [Nat.add_mul, Nat.one_mul]]
        exact h3
      · cases h2
theorem take_all {α : Type} {l : List α} {n : Nat} (h : (l.take n).length = l.length) : l.take n = l := by
  rw [List.length_take] at h
  exact List.take_of_length_le (by omega)
theorem flatD_sound : ∀ (n fuel : Nat) (t : TypeId) (d : DataW Unit) (avs : List AV) (cs : List Value) (ps : List MemPlace), DataW.trod (fun _ => ()) P w base sp held fuel t cs = some (d, ps) → flatD P n t d = some avs → VRs ι avs cs
  | 0, _, _, _, _, _, _, _, h => by cases h
  | n + 1, 0, _, _, _, _, _, h, _ => by simp [DataW.trod] at h
  | n + 1, fuel + 1, t, d, avs, cs, ps, h, h2 => by
    simp only [flatD] at h2
    unfold DataW.trod at h
    have ih := fun t d avs cs ps => flatD_sound n fuel t d avs cs ps
    cases hu : P.underlying t with
    | none => rw [hu] at h2; cases h2
    | some D =>
      rw [hu] at h h2
      cases D with
      | bool =>
        rcases cs with _ | ⟨v, _ | ⟨v2, vs⟩⟩
        · simp at h
        · cases v <;> simp at h
          obtain ⟨rfl, rfl⟩ := h
          simp only [Option.some.injEq] at h2
          subst h2
          exact ⟨_, _, rfl, rfl, rfl⟩
        · simp at h
      | int k =>
        rcases cs with _ | ⟨v, _ | ⟨v2, vs⟩⟩
        · simp at h
        · cases v <;> simp at h
          obtain ⟨⟨rfl, _⟩, rfl, rfl⟩ := h
          simp only [if_true, Option.some.injEq] at h2
          subst h2
          exact ⟨_, _, rfl, rfl, rfl⟩
        · simp at h
      | string =>
        rcases cs with _ | ⟨v, _ | ⟨v2, vs⟩⟩
        · simp at h
        · cases v <;> simp at h
          obtain ⟨_, rfl, rfl⟩ := h
          simp only [Option.some.injEq] at h2
          subst h2
          exact ⟨_, _, rfl, by simp [VR], rfl⟩
        · simp at h
      | struct fs =>
        simp only at h
        split at h
        · rename_i hl
          simp only [Option.map_eq_some_iff, Prod.mk.injEq] at h
          obtain ⟨xs, hx, rfl, _⟩ := h
          simp only [Option.bind_eq_some_iff] at h2
          obtain ⟨r, hr, h2⟩ := h2
          split at h2
          · rename_i hrl
            injection h2 with h2; subst h2
            have h3 := flatFs_sound (ι := ι) ih fs.toList xs 0 r hx hr
            have h4 := h3.length
            rw [List.drop_zero] at h3 h4
            have h5 : (cs.take r.length).length = cs.length := by omega
            rw [take_all h5] at h3
            exact h3
          · cases h2
        · cases h
      | array m e =>
        simp only at h
        split at h
        · rename_i hl
          simp only [Option.map_eq_some_iff, Prod.mk.injEq] at h
          obtain ⟨xs, hx, rfl, _⟩ := h
          simp only [Option.bind_eq_some_iff] at h2
          obtain ⟨r, hr, h2⟩ := h2
          split at h2
          · rename_i hrl
            injection h2 with h2; subst h2
            rw [List.range_eq_range'] at hx
            have h3 := flatEs_sound (ι := ι) ih m 0 xs r hx hr
            have h4 := h3.length
            rw [Nat.zero_mul, List.drop_zero] at h3 h4
            have h5 : (cs.take r.length).length = cs.length := by omega
            rw [take_all h5] at h3
            exact h3
          · cases h2
        · cases h
      | _ => cases d <;> simp at h2
/-- A variable's cells. -/
theorem laid_cells {laid : List (String × DataW Unit)} (h : laidMet P laid w) {name : String} {d : DataW Unit} (hm : (name, d) ∈ laid) {g t : Nat} {n : Nat} {avs : List AV} (hg : P.globalNamed name = some g) (ht : (P.globals[g]?).map (·.type) = some t) (hd : flatD P n t d = some avs) :
    ∀ i x, avs[i]? = some x → ∃ v, w.cell? ⟨g, i, none⟩ = some v ∧ VR ι x v := by
  obtain ⟨ps, hv, _⟩ := h
  have main : ∀ (l : List (String × DataW Unit)) (ps : List MemPlace), DataW.LaidVars P w l ps → (name, d) ∈ l → ∃ cs : Array Value, w.var? P name = some cs ∧ VRs ι avs cs.toList := by
    intro l
    induction l with
    | nil => intro ps _ hm; cases hm
    | cons y l ihl =>
      intro ps hl hm
      obtain ⟨n0, d0⟩ := y
      obtain ⟨g', t', cs, fuel, p, q, e1, e2, e3, e4, e5, _⟩ := hl
      rcases List.mem_cons.1 hm with hm | hm
      · injection hm with h1 h2; subst h1; subst h2
        obtain rfl := Option.some.inj (hg.symm.trans e1)
        obtain rfl := Option.some.inj (ht.symm.trans e2)
        exact ⟨cs, e3, flatD_sound n fuel t d avs _ p e4 hd⟩
      · exact ihl q e5 hm
  obtain ⟨cs, h1, h2⟩ := main laid ps hv hm
  intro i x hx
  obtain ⟨v, hv1, hv2⟩ := h2.get hx
  refine ⟨v, ?_, hv2⟩
  rw [World.var?_cell hg h1 i]
  simpa using hv1
end
end Go.Ev
/- From a world in which the listed variables read as they are laid to the abstract machine; calls whose answer is known. -/
namespace Go.Ev
open Go Go.RowKit
def glPush (H : Heap) : List Blk → Heap
  | [] => H
  | b :: l => glPush (H.push b) l
def glHeap (l : List Blk) : Heap := glPush { tab := .nil, size := 0 } l
theorem glPush_get : ∀ (l : List Blk) (H : Heap) (b : Nat), (glPush H l).size = H.size + l.length ∧ (glPush H l).get b = if b < H.size then H.get b else l.getD (b - H.size) .dead
  | [], H, b => by
    refine ⟨rfl, ?_⟩
    simp only [glPush, List.getD_nil]
    split
    · rfl
    · rename_i h; simp only [Heap.get, if_neg h]
  | x :: l, H, b => by
    obtain ⟨h1, h2⟩ := glPush_get l (H.push x) b
    rw [Heap.size_push] at h1 h2
    refine ⟨by rw [glPush, h1, List.length_cons]; omega, ?_⟩
    rw [glPush, h2, Heap.get_push]
    by_cases hb : b < H.size
    · rw [if_pos (by omega), if_neg (by omega), if_pos hb]
    · rw [if_neg hb]
      by_cases he : b = H.size
      · subst he; rw [if_pos (by omega), if_pos rfl, Nat.sub_self]; rfl
      · rw [if_neg (by omega), show b - H.size = (b - (H.size + 1)) + 1 by omega]; rfl
theorem glHeap_get (l : List Blk) (b : Nat) : (glHeap l).get b = l.getD b .dead := by
  have := (glPush_get l { tab := .nil, size := 0 } b).2
  rw [if_neg (by simp)] at this
  exact this
theorem glHeap_size (l : List Blk) : (glHeap l).size = l.length := by
  have := (glPush_get l { tab := .nil, size := 0 } 0).1
  simp only [Nat.zero_add] at this
  exact this
/-- A block of a package-level variable: unknown, or cells without addresses that nobody writes. -/
def glBlk : Blk → Bool
  | .dead => true
  | .cells c .ro => AV.flats c
  | _ => false
def Plan.upto (ι : Plan) (n : Nat) : Plan := fun b => if b < n then ι b else none
theorem Plan.upto_some {ι : Plan} {n b : Nat} {L : Loc} (h : ι.upto n b = some L) : b < n ∧ ι b = some L := by
  simp only [Plan.upto] at h
  split at h
  · rename_i hlt; exact ⟨hlt, h⟩
  · cases h
theorem flats_get : ∀ {l : List AV} {i : Nat} {x : AV}, AV.flats l = true → l[i]? = some x → x.flat = true
  | [], i, x, _, h => by simp at h
  | y :: l, i, x, hf, h => by
    simp only [AV.flats, Bool.and_eq_true] at hf
    cases i with
    | zero => simp only [List.getElem?_cons_zero, Option.some.injEq] at h; subst h; exact hf.1
    | succ i => simp only [List.getElem?_cons_succ] at h; exact flats_get hf.2 h
theorem glRel {ι ι1 : Plan} {l : List Blk} {w : World} (hgl : l.all glBlk = true) (hdom : ∀ b L, b < l.length → ι b = some L → L.blk < w.heap.size)
    (hlive : ∀ b c u, l[b]? = some (.cells c u) → ∃ L, ι b = some L ∧ ∀ (i : Nat) (x : AV), c[i]? = some x → ∃ v, w.cell? ⟨L.blk, L.base + i, none⟩ = some v ∧ VR ι1 x v) : Rel w.heap.size (ι.upto l.length) (glHeap l) w := by
  have hg : ∀ b k, (glHeap l).get b = k → k ≠ .dead → l[b]? = some k ∧ glBlk k = true := by
    intro b k h hk
    rw [glHeap_get, List.getD_eq_getElem?_getD] at h
    cases hx : l[b]? with
    | none => rw [hx] at h; exact absurd h.symm hk
    | some y =>
      rw [hx] at h; simp only [Option.getD_some] at h; subst h
      exact ⟨rfl, (List.all_eq_true.1 hgl) _ (List.mem_of_getElem? hx)⟩
  have hro : ∀ b c u, (glHeap l).get b = .cells c u → u = .ro := by
    intro b c u h
    obtain ⟨_, h2⟩ := hg b _ h (by simp)
    cases u <;> simp [glBlk] at h2 ⊢
  have hit : ∀ b s p, (glHeap l).get b ≠ .siter s p := by
    intro b s p h
    obtain ⟨_, h2⟩ := hg b _ h (by simp)
    simp [glBlk] at h2
  have hmp : ∀ b es, (glHeap l).get b ≠ .map es := by
    intro b es h
    obtain ⟨_, h2⟩ := hg b _ h (by simp)
    simp [glBlk] at h2
  exact {
    dom := fun b L hb => by
      obtain ⟨h1, h2⟩ := Plan.upto_some hb
      exact ⟨by rw [glHeap_size]; exact h1, hdom b L h1 h2⟩
    live := fun b c u h => by
      obtain ⟨h1, h2⟩ := hg b _ h (by simp)
      obtain ⟨L, hL, hc⟩ := hlive b c u h1
      have hb : b < l.length := by
        rcases Nat.lt_or_ge b l.length with h | h
        · exact h
        · rw [List.getElem?_eq_none h] at h1; cases h1
      refine ⟨L, by simp only [Plan.upto, if_pos hb]; exact hL, fun i x hx => ?_⟩
      obtain ⟨v, hv1, hv2⟩ := hc i x hx
      cases u with
      | own => simp [glBlk] at h2
      | byt e => simp [glBlk] at h2
      | ro => exact ⟨v, hv1, VR.flat x v (flats_get (by simpa [glBlk] using h2) hx) hv2⟩
    ownu := fun b c L u h hu => absurd (hro b c u h) hu
    iter := fun b s p h => absurd h (hit b s p)
    ty := fun b c e L h => by have := hro b c _ h; cases this
    mapb := fun b es h => absurd h (hmp b es)
    inj := fun b b' L L' _ ho => by
      rcases ho with ⟨c, u, h, hu⟩ | ⟨s, p, h⟩ | ⟨es, h⟩
      · exact absurd (hro b c u h) hu
      · exact absurd h (hit b s p)
      · exact absurd h (hmp b es)
    size := Nat.le_refl _ }
/-- Do the package-level variables lie as they are laid? -/
def okGl : List Blk → Nat → Heap → Bool
  | [], _, _ => true
  | .cells c _ :: l, b, H => (match H.get b with | .cells c' .ro => AV.beqs c' c | _ => false) && okGl l (b + 1) H
  | _ :: l, b, H => okGl l (b + 1) H
theorem okGl_get : ∀ {l : List Blk} {k : Nat} {H : Heap}, okGl l k H = true → ∀ (b : Nat) (c : List AV) (u : Use), l[b]? = some (.cells c u) → H.get (k + b) = .cells c .ro
  | [], _, _, _, b, c, u, h => by simp at h
  | x :: l, k, H, h0, b, c, u, h => by
    cases b with
    | zero =>
      simp only [List.getElem?_cons_zero, Option.some.injEq] at h; subst h
      simp only [okGl, Bool.and_eq_true] at h0
      obtain ⟨h1, _⟩ := h0
      split at h1
      · rename_i c' hc; rw [Nat.add_zero, hc, AV.beqs_eq _ _ h1]
      · cases h1
    | succ b =>
      simp only [List.getElem?_cons_succ] at h
      have h1 : okGl l (k + 1) H = true := by
        cases x <;> simp only [okGl, Bool.and_eq_true] at h0
        · exact h0
        · exact h0.2
        · exact h0
        · exact h0
      have := okGl_get h1 b c u h
      rw [show k + (b + 1) = k + 1 + b by omega]; exact this
/-- A call whose answer is known: it hands back no address, and leaves nothing. -/
def pureCall (l : List Blk) (f0 : FuncId) (args0 : List AV) (v : AV) : FuncId → List AV → Heap → Option (End × Heap) := fun f args H =>
  if f = f0 then (if AV.beqs args args0 && okGl l 0 H then some (.ret v, H) else none) else none
theorem pureCall_ok {P : Program} {B : Nat} {call : FuncId → List AV → Heap → Option (End × Heap)} {l : List Blk} {f0 : FuncId} {args0 : List AV} {v : AV} {H0 : Heap} (hcall : CallOK P B call) (hgl : l.all glBlk = true) (hn : l.length = P.globals.size) (hf : AV.flats args0 = true) (hv : v.flat = true)
    (hrun : call f0 args0 (glHeap l) = some (.ret v, H0)) : CallOK P B (pureCall l f0 args0 v) := by
  intro f args H e H1 h
  simp only [pureCall] at h
  split at h
  · rename_i hf0
    subst hf0
    split at h
    · rename_i hc
      simp only [Option.some.injEq, Prod.mk.injEq] at h
      obtain ⟨rfl, rfl⟩ := h
      simp only [Bool.and_eq_true] at hc
      obtain ⟨hargs, hok⟩ := hc
      have := AV.beqs_eq _ _ hargs
      subst this
      obtain ⟨h1, h2⟩ := hcall _ _ _ _ _ hrun
      refine ⟨h1, fun {B'} ι w vs hR hG hvs => ?_⟩
      have hR0 : Rel w.heap.size (ι.upto l.length) (glHeap l) w := glRel (ι1 := ι) hgl (fun b L _ hb => (hR.dom b L hb).2) (fun b c u hb => hR.live b c .ro (by have := okGl_get hok b c u hb; rw [Nat.zero_add] at this; exact this))
      have hG0 : Glob P (ι.upto l.length) := fun g hg => by
        obtain ⟨e, he⟩ := hG g hg
        exact ⟨e, by simp only [Plan.upto]; rw [if_pos (by rw [hn]; exact hg)]; exact he⟩
      refine (h2 (ι.upto l.length) w vs hR0 hG0 (VRs.flat _ _ hf hvs)).mono fun e' w' ⟨ι', g1, g2, g3, g4⟩ => ?_
      obtain ⟨v', rfl, hv'⟩ := g4
      exact ⟨ι, ι.le_refl, hR.world g3.size g3.block, g3.mono hR.size, v', rfl, VR.flat v v' hv hv'⟩
    · cases h
  · cases h
end Go.Ev
