/- From a world in which the listed variables read as they are laid to the abstract machine; calls whose answer is known. -/
import Derived.Test.YtibdapopccemeaaGreatDoorT11
set_option linter.unusedSimpArgs false
set_option linter.unusedVariables false
namespace Go.Ev
open Go Go.RowKit

def glPush (H : Heap) : List Blk → Heap
  | [] => H
  | b :: l => glPush (H.push b) l

def glHeap (l : List Blk) : Heap := glPush { tab := .nil, size := 0 } l

theorem glPush_get : ∀ (l : List Blk) (H : Heap) (b : Nat), (glPush H l).size = H.size + l.length ∧ (glPush H l).get b = if b < H.size then H.get b else l.getD (b - H.size) .dead
  | [], H, b => by
    refine ⟨rfl, ?_⟩
    simp only [glPush, List.getD_nil]
    split
    · rfl
    · rename_i h; simp only [Heap.get, if_neg h]
  | x :: l, H, b => by
    obtain ⟨h1, h2⟩ := glPush_get l (H.push x) b
    rw [Heap.size_push] at h1 h2
    refine ⟨by rw [glPush, h1, List.length_cons]; omega, ?_⟩
    rw [glPush, h2, Heap.get_push]
    by_cases hb : b < H.size
    · rw [if_pos (by omega), if_neg (by omega), if_pos hb]
    · rw [if_neg hb]
      by_cases he : b = H.size
      · subst he; rw [if_pos (by omega), if_pos rfl, Nat.sub_self]; rfl
      · rw [if_neg (by omega), show b - H.size = (b - (H.size + 1)) + 1 by omega]; rfl

theorem glHeap_get (l : List Blk) (b : Nat) : (glHeap l).get b = l.getD b .dead := by
  have := (glPush_get l { tab := .nil, size := 0 } b).2
  rw [if_neg (by simp)] at this
  exact this
theorem glHeap_size (l : List Blk) : (glHeap l).size = l.length := by
  have := (glPush_get l { tab := .nil, size := 0 } 0).1
  simp only [Nat.zero_add] at this
  exact this

/-- A block of a package-level variable: unknown, or cells without addresses that nobody writes. -/
def glBlk : Blk → Bool
  | .dead => true
  | .cells c .ro => AV.flats c
  | _ => false

def Plan.upto (ι : Plan) (n : Nat) : Plan := fun b => if b < n then ι b else none
theorem Plan.upto_some {ι : Plan} {n b : Nat} {L : Loc} (h : ι.upto n b = some L) : b < n ∧ ι b = some L := by
  simp only [Plan.upto] at h
  split at h
  · rename_i hlt; exact ⟨hlt, h⟩
  · cases h

theorem flats_get : ∀ {l : List AV} {i : Nat} {x : AV}, AV.flats l = true → l[i]? = some x → x.flat = true
  | [], i, x, _, h => by simp at h
  | y :: l, i, x, hf, h => by
    simp only [AV.flats, Bool.and_eq_true] at hf
    cases i with
    | zero => simp only [List.getElem?_cons_zero, Option.some.injEq] at h; subst h; exact hf.1
    | succ i => simp only [List.getElem?_cons_succ] at h; exact flats_get hf.2 h

theorem glRel {ι ι1 : Plan} {l : List Blk} {w : World} (hgl : l.all glBlk = true) (hdom : ∀ b L, b < l.length → ι b = some L → L.blk < w.heap.size)
    (hlive : ∀ b c u, l[b]? = some (.cells c u) → ∃ L, ι b = some L ∧ ∀ (i : Nat) (x : AV), c[i]? = some x → ∃ v, w.cell? ⟨L.blk, L.base + i, none⟩ = some v ∧ VR ι1 x v) : Rel w.heap.size (ι.upto l.length) (glHeap l) w := by
  have hg : ∀ b k, (glHeap l).get b = k → k ≠ .dead → l[b]? = some k ∧ glBlk k = true := by
    intro b k h hk
    rw [glHeap_get, List.getD_eq_getElem?_getD] at h
    cases hx : l[b]? with
    | none => rw [hx] at h; exact absurd h.symm hk
    | some y =>
      rw [hx] at h; simp only [Option.getD_some] at h; subst h
      exact ⟨rfl, (List.all_eq_true.1 hgl) _ (List.mem_of_getElem? hx)⟩
  have hro : ∀ b c, (glHeap l).get b ≠ .cells c .own := by
    intro b c h
    obtain ⟨_, h2⟩ := hg b _ h (by simp)
    simp [glBlk] at h2
  have hit : ∀ b s p, (glHeap l).get b ≠ .siter s p := by
    intro b s p h
    obtain ⟨_, h2⟩ := hg b _ h (by simp)
    simp [glBlk] at h2
  have hmp : ∀ b es, (glHeap l).get b ≠ .map es := by
    intro b es h
    obtain ⟨_, h2⟩ := hg b _ h (by simp)
    simp [glBlk] at h2
  exact {
    dom := fun b L hb => by
      obtain ⟨h1, h2⟩ := Plan.upto_some hb
      exact ⟨by rw [glHeap_size]; exact h1, hdom b L h1 h2⟩
    live := fun b c u h => by
      obtain ⟨h1, h2⟩ := hg b _ h (by simp)
      obtain ⟨L, hL, hc⟩ := hlive b c u h1
      have hb : b < l.length := by
        rcases Nat.lt_or_ge b l.length with h | h
        · exact h
        · rw [List.getElem?_eq_none h] at h1; cases h1
      refine ⟨L, by simp only [Plan.upto, if_pos hb]; exact hL, fun i x hx => ?_⟩
      obtain ⟨v, hv1, hv2⟩ := hc i x hx
      cases u with
      | own => simp [glBlk] at h2
      | ro => exact ⟨v, hv1, VR.flat x v (flats_get (by simpa [glBlk] using h2) hx) hv2⟩
    own := fun b c L h => absurd h (hro b c)
    iter := fun b s p h => absurd h (hit b s p)
    nomap := hmp
    inj := fun b b' L L' _ ho => by
      rcases ho with ⟨c, h⟩ | ⟨s, p, h⟩ | ⟨es, h⟩
      · exact absurd h (hro b c)
      · exact absurd h (hit b s p)
      · exact absurd h (hmp b es)
    size := Nat.le_refl _ }

/-- Do the package-level variables lie as they are laid? -/
def okGl : List Blk → Nat → Heap → Bool
  | [], _, _ => true
  | .cells c _ :: l, b, H => (match H.get b with | .cells c' .ro => AV.beqs c' c | _ => false) && okGl l (b + 1) H
  | _ :: l, b, H => okGl l (b + 1) H

theorem okGl_get : ∀ {l : List Blk} {k : Nat} {H : Heap}, okGl l k H = true → ∀ (b : Nat) (c : List AV) (u : Use), l[b]? = some (.cells c u) → H.get (k + b) = .cells c .ro
  | [], _, _, _, b, c, u, h => by simp at h
  | x :: l, k, H, h0, b, c, u, h => by
    cases b with
    | zero =>
      simp only [List.getElem?_cons_zero, Option.some.injEq] at h; subst h
      simp only [okGl, Bool.and_eq_true] at h0
      obtain ⟨h1, _⟩ := h0
      split at h1
      · rename_i c' hc; rw [Nat.add_zero, hc, AV.beqs_eq _ _ h1]
      · cases h1
    | succ b =>
      simp only [List.getElem?_cons_succ] at h
      have h1 : okGl l (k + 1) H = true := by
        cases x <;> simp only [okGl, Bool.and_eq_true] at h0
        · exact h0
        · exact h0.2
        · exact h0
        · exact h0
      have := okGl_get h1 b c u h
      rw [show k + (b + 1) = k + 1 + b by omega]; exact this

/-- A call whose answer is known: it hands back no address, and leaves nothing. -/
def pureCall (l : List Blk) (f0 : FuncId) (args0 : List AV) (v : AV) : FuncId → List AV → Heap → Option (End × Heap) := fun f args H =>
  if f = f0 then (if AV.beqs args args0 && okGl l 0 H then some (.ret v, H) else none) else none

theorem pureCall_ok {P : Program} {B : Nat} {call : FuncId → List AV → Heap → Option (End × Heap)} {l : List Blk} {f0 : FuncId} {args0 : List AV} {v : AV} {H0 : Heap} (hcall : CallOK P B call) (hgl : l.all glBlk = true) (hn : l.length = P.globals.size) (hf : AV.flats args0 = true) (hv : v.flat = true)
    (hrun : call f0 args0 (glHeap l) = some (.ret v, H0)) : CallOK P B (pureCall l f0 args0 v) := by
  intro f args H e H1 h
  simp only [pureCall] at h
  split at h
  · rename_i hf0
    subst hf0
    split at h
    · rename_i hc
      simp only [Option.some.injEq, Prod.mk.injEq] at h
      obtain ⟨rfl, rfl⟩ := h
      simp only [Bool.and_eq_true] at hc
      obtain ⟨hargs, hok⟩ := hc
      have := AV.beqs_eq _ _ hargs
      subst this
      obtain ⟨h1, h2⟩ := hcall _ _ _ _ _ hrun
      refine ⟨h1, fun {B'} ι w vs hR hG hvs => ?_⟩
      have hR0 : Rel w.heap.size (ι.upto l.length) (glHeap l) w := glRel (ι1 := ι) hgl (fun b L _ hb => (hR.dom b L hb).2) (fun b c u hb => hR.live b c .ro (by have := okGl_get hok b c u hb; rw [Nat.zero_add] at this; exact this))
      have hG0 : Glob P (ι.upto l.length) := fun g hg => by
        obtain ⟨e, he⟩ := hG g hg
        exact ⟨e, by simp only [Plan.upto]; rw [if_pos (by rw [hn]; exact hg)]; exact he⟩
      refine (h2 (ι.upto l.length) w vs hR0 hG0 (VRs.flat _ _ hf hvs)).mono fun e' w' ⟨ι', g1, g2, g3, g4⟩ => ?_
      obtain ⟨v', rfl, hv'⟩ := g4
      exact ⟨ι, ι.le_refl, hR.world g3.size g3.block, g3.mono hR.size, v', rfl, VR.flat v v' hv hv'⟩
    · cases h
  · cases h

/-- A law's call, from a world in which the listed variables read as they are laid. -/
theorem law_calls {P : Program} {B : Nat} {call : FuncId → List AV → Heap → Option (End × Heap)} {l : List Blk} {f : FuncId} {args : List AV} {H0 : Heap} (hcall : CallOK P B call) (hgl : l.all glBlk = true) (hn : l.length = P.globals.size) {w : World} (hw : l.length ≤ w.heap.size)
    (hlive : ∀ b c u, l[b]? = some (.cells c u) → ∀ (i : Nat) (x : AV), c[i]? = some x → ∃ v, w.cell? ⟨b, i, none⟩ = some v ∧ VR (fun _ => none) x v)
    {vs : Array Value} (hf : AV.flats args = true) (hvs : VRs (fun _ => none) args vs.toList) (hrun : call f args (glHeap l) = some (.ret (.bool true), H0)) :
    Calls P f vs w fun e w' => e = .returned (.bool true) ∧ Below w.heap.size w w' := by
  obtain ⟨h1, h2⟩ := hcall _ _ _ _ _ hrun
  have hR0 : Rel w.heap.size (Plan.upto (fun b => some ⟨b, 0, 0⟩) l.length) (glHeap l) w := glRel (ι1 := fun _ => none) hgl (fun b L h1 h2 => by injection h2 with h2; subst h2; simp only; omega) (fun b c u hb => ⟨_, rfl, fun i x hx => by
    obtain ⟨v, h1, h2⟩ := hlive b c u hb i x hx
    exact ⟨v, by simpa using h1, h2⟩⟩)
  have hG0 : Glob P (Plan.upto (fun b => some ⟨b, 0, 0⟩) l.length) := fun g hg => ⟨0, by simp only [Plan.upto]; rw [if_pos (by rw [hn]; exact hg)]⟩
  refine (h2 _ w vs hR0 hG0 (VRs.flat _ _ hf hvs)).mono fun e' w' ⟨ι', g1, g2, g3, g4⟩ => ?_
  obtain ⟨v', rfl, hv'⟩ := g4
  have : v' = .bool true := hv'
  subst this
  exact ⟨rfl, g3⟩
end Go.Ev
