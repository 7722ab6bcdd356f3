/- A deterministic machine over an abstract memory: its values, its memory, and what they mean in the model's worlds. -/
import Derived.Below
import Derived.Defers
import Derived.Recover
import Derived.Orders
set_option linter.unusedSimpArgs false
set_option linter.unusedVariables false
namespace Go.Ev
open Go

/-- Values of the abstract machine. Blocks of its memory have numbers of their own. `osl sz b off n`: a slice of `n` elements of `sz` cells that begins at cell `off` of block `b`, whose capacity is not told. -/
inductive AV where
  | int (k : IntKind) (n : Int)
  | bool (b : Bool)
  | str (s : List UInt8)
  | ptr (b off : Nat)
  | nilp
  | slice (b off len cap : Nat)
  | osl (sz b off len : Nat)
  | nils
  | map (b : Nat)
  | nilm
  | fn (f : FuncId) (cap : List AV)
  | nilf
  | iface (t : TypeId) (v : AV)
  | nili
  | agg (l : List AV)
  | tup (l : List AV)
  deriving Inhabited

mutual
def AV.beq : AV → AV → Bool
  | .int k n, .int k' n' => decide (k = k') && decide (n = n')
  | .bool a, .bool b => a == b
  | .str s, .str t => s == t
  | .ptr b o, .ptr b' o' => b == b' && o == o'
  | .nilp, .nilp => true
  | .slice b o l c, .slice b' o' l' c' => b == b' && o == o' && l == l' && c == c'
  | .osl s b o l, .osl s' b' o' l' => s == s' && b == b' && o == o' && l == l'
  | .nils, .nils => true
  | .map b, .map b' => b == b'
  | .nilm, .nilm => true
  | .fn f c, .fn f' c' => f == f' && AV.beqs c c'
  | .nilf, .nilf => true
  | .iface t v, .iface t' v' => t == t' && AV.beq v v'
  | .nili, .nili => true
  | .agg l, .agg l' => AV.beqs l l'
  | .tup l, .tup l' => AV.beqs l l'
  | _, _ => false
def AV.beqs : List AV → List AV → Bool
  | [], [] => true
  | a :: l, b :: m => AV.beq a b && AV.beqs l m
  | _, _ => false
end

/-- How a block may be used: only read; written; written, and grown by append (what lies behind its cells is not told). -/
inductive Use where
  | ro | own
  /-- A row of its own whose elements' type is `e`. -/
  | byt (e : TypeId)
  deriving DecidableEq

inductive Blk where
  | dead
  | cells (c : List AV) (u : Use)
  | map (es : List (AV × AV)) 
  | siter (s : List UInt8) (pos : Nat)
  deriving Inhabited

/-- A table of blocks by number: a tree, so that a closed run finds a block in few steps. -/
inductive Tab where
  | nil
  | node (x : Blk) (l r : Tab)
  deriving Inhabited

def Tab.get : Tab → Nat → Blk
  | .nil, _ => .dead
  | .node x _ _, 0 => x
  | .node _ l r, i + 1 => if i % 2 = 0 then l.get (i / 2) else r.get (i / 2)

def Tab.setF : Nat → Tab → Nat → Blk → Tab
  | 0, t, _, _ => t
  | _ + 1, .nil, 0, y => .node y .nil .nil
  | _ + 1, .node _ l r, 0, y => .node y l r
  | f + 1, .nil, i + 1, y => if i % 2 = 0 then .node .dead (Tab.setF f .nil (i / 2) y) .nil else .node .dead .nil (Tab.setF f .nil (i / 2) y)
  | f + 1, .node x l r, i + 1, y => if i % 2 = 0 then .node x (Tab.setF f l (i / 2) y) r else .node x l (Tab.setF f r (i / 2) y)

theorem Tab.get_nil (i : Nat) : Tab.nil.get i = .dead := by cases i <;> rfl

theorem Tab.get_setF : ∀ (f : Nat) (t : Tab) (i j : Nat) (y : Blk), i < f → (Tab.setF f t i y).get j = if j = i then y else t.get j
  | 0, _, _, _, _, h => absurd h (by omega)
  | f + 1, t, i, j, y, h => by
    cases i with
    | zero => cases t <;> cases j <;> simp [Tab.setF, Tab.get, Tab.get_nil]
    | succ i =>
      have hf : i / 2 < f := by omega
      have ih := fun t j => Tab.get_setF f t (i / 2) j y hf
      cases t with
      | nil =>
        by_cases hi : i % 2 = 0
        · cases j with
          | zero => simp [Tab.setF, hi, Tab.get]
          | succ j =>
            by_cases hj : j % 2 = 0
            · simp only [Tab.setF, hi, if_true, Tab.get, hj, ih, Tab.get_nil]
              by_cases e : j / 2 = i / 2
              · have : j = i := by omega
                simp [this]
              · have : ¬ j = i := by omega
                simp [this, e]
            · have : ¬ j = i := by intro e; subst e; exact hj hi
              simp [Tab.setF, hi, Tab.get, hj, this, Tab.get_nil]
        · cases j with
          | zero => simp [Tab.setF, hi, Tab.get]
          | succ j =>
            by_cases hj : j % 2 = 0
            · have : ¬ j = i := by intro e; subst e; exact hi hj
              simp [Tab.setF, hi, Tab.get, hj, this, Tab.get_nil]
            · simp only [Tab.setF, hi, if_false, Tab.get, hj, ih, Tab.get_nil]
              by_cases e : j / 2 = i / 2
              · have : j = i := by omega
                simp [this]
              · have : ¬ j = i := by omega
                simp [this, e]
      | node x l r =>
        by_cases hi : i % 2 = 0
        · cases j with
          | zero => simp [Tab.setF, hi, Tab.get]
          | succ j =>
            by_cases hj : j % 2 = 0
            · simp only [Tab.setF, hi, if_true, Tab.get, hj, ih]
              by_cases e : j / 2 = i / 2
              · have : j = i := by omega
                simp [this]
              · have : ¬ j = i := by omega
                simp [this, e]
            · have : ¬ j = i := by intro e; subst e; exact hj hi
              simp [Tab.setF, hi, Tab.get, hj, this]
        · cases j with
          | zero => simp [Tab.setF, hi, Tab.get]
          | succ j =>
            by_cases hj : j % 2 = 0
            · have : ¬ j = i := by intro e; subst e; exact hi hj
              simp [Tab.setF, hi, Tab.get, hj, this]
            · simp only [Tab.setF, hi, if_false, Tab.get, hj, ih]
              by_cases e : j / 2 = i / 2
              · have : j = i := by omega
                simp [this]
              · have : ¬ j = i := by omega
                simp [this, e]

structure Heap where
  tab : Tab
  size : Nat
  deriving Inhabited

def Heap.get (H : Heap) (b : Nat) : Blk := if b < H.size then H.tab.get b else .dead
def Heap.push (H : Heap) (x : Blk) : Heap := { tab := Tab.setF (H.size + 1) H.tab H.size x, size := H.size + 1 }
def Heap.set (H : Heap) (b : Nat) (x : Blk) : Heap := { tab := Tab.setF (b + 1) H.tab b x, size := H.size }

/-- Nothing is known of any block. -/
def Heap.dead (n : Nat) : Heap := { tab := .nil, size := n }
theorem Heap.get_dead (n b : Nat) : (Heap.dead n).get b = .dead := by
  simp only [Heap.get, Heap.dead, Tab.get_nil, ite_self]

theorem Heap.size_push (H : Heap) (x : Blk) : (H.push x).size = H.size + 1 := rfl
theorem Heap.size_set (H : Heap) (b : Nat) (x : Blk) : (H.set b x).size = H.size := rfl
theorem Heap.get_push (H : Heap) (x : Blk) (b : Nat) : (H.push x).get b = if b = H.size then x else H.get b := by
  simp only [Heap.get, Heap.push]
  rw [Tab.get_setF _ _ _ _ _ (Nat.lt_succ_self _)]
  by_cases h : b = H.size
  · simp [h]
  · by_cases h' : b < H.size
    · have : b < H.size + 1 := by omega
      simp [h, h', this]
    · have : ¬ b < H.size + 1 := by omega
      simp [h, h', this]
theorem Heap.get_set (H : Heap) (b c : Nat) (x : Blk) (hb : b < H.size) : (H.set b x).get c = if c = b then x else H.get c := by
  simp only [Heap.get, Heap.set]
  rw [Tab.get_setF _ _ _ _ _ (Nat.lt_succ_self _)]
  by_cases h : c = b
  · subst h; simp [hb]
  · simp [h]
theorem Heap.lt_of_get {H : Heap} {b : Nat} (h : H.get b ≠ .dead) : b < H.size := by
  unfold Heap.get at h
  split at h
  · assumption
  · exact absurd rfl h

/-- Where an abstract block lies: the model's block, the cell where it begins, how many cells from there may be used. -/
structure Loc where
  blk : Nat
  base : Nat
  ext : Nat

abbrev Plan := Nat → Option Loc

mutual
/-- An abstract value, as a value of the model, where blocks lie as planned. -/
def VR (ι : Plan) : AV → Value → Prop
  | .int k n, v => v = .int k n
  | .bool b, v => v = .bool b
  | .str s, v => v = .string ⟨s.toArray⟩
  | .ptr b off, v => ∃ L, ι b = some L ∧ v = .pointer (some ⟨L.blk, L.base + off, none⟩)
  | .nilp, v => v = .pointer none
  | .slice b off n c, v => ∃ L, ι b = some L ∧ v = .slice (some ⟨L.blk, L.base + off, none⟩) n c
  | .osl sz b off n, v => ∃ L, ι b = some L ∧ ((∃ c, n ≤ c ∧ off + c * sz ≤ L.ext ∧ v = .slice (some ⟨L.blk, L.base + off, none⟩) n c) ∨ (n = 0 ∧ ∃ a, v = .slice (some a) 0 0))
  | .nils, v => v = .slice none 0 0
  | .map b, v => ∃ L, ι b = some L ∧ v = .map (some L.blk)
  | .nilm, v => v = .map none
  | .fn f cap, v => ∃ vs, v = .func (.func f) #[] vs ∧ VRs ι cap vs.toList
  | .nilf, v => v = .nilFunc
  | .iface t x, v => ∃ y, v = .iface t y ∧ VR ι x y
  | .nili, v => v = .nilIface
  | .agg l, v => ∃ vs, v = .agg vs ∧ VRs ι l vs.toList
  | .tup l, v => ∃ vs, v = .tuple vs ∧ VRs ι l vs.toList
def VRs (ι : Plan) : List AV → List Value → Prop
  | [], vs => vs = []
  | x :: l, vs => ∃ v vs', vs = v :: vs' ∧ VR ι x v ∧ VRs ι l vs'
end

mutual
/-- Without addresses. -/
def AV.flat : AV → Bool
  | .int _ _ => true
  | .bool _ => true
  | .str _ => true
  | .nilp => true
  | .nils => true
  | .nilm => true
  | .nilf => true
  | .nili => true
  | .fn _ cap => AV.flats cap
  | .iface _ x => x.flat
  | .agg l => AV.flats l
  | .tup l => AV.flats l
  | _ => false
def AV.flats : List AV → Bool
  | [] => true
  | x :: l => x.flat && AV.flats l
end

mutual
theorem VR.flat {ι ι' : Plan} : ∀ (x : AV) (v : Value), x.flat = true → VR ι x v → VR ι' x v
  | .int _ _, _, _, e => e
  | .bool _, _, _, e => e
  | .str _, _, _, e => e
  | .ptr _ _, _, h, _ => by simp [AV.flat] at h
  | .nilp, _, _, e => e
  | .slice _ _ _ _, _, h, _ => by simp [AV.flat] at h
  | .osl _ _ _ _, _, h, _ => by simp [AV.flat] at h
  | .nils, _, _, e => e
  | .map _, _, h, _ => by simp [AV.flat] at h
  | .nilm, _, _, e => e
  | .fn _ cap, _, h, ⟨vs, e, r⟩ => ⟨vs, e, VRs.flat cap _ (by simpa [AV.flat] using h) r⟩
  | .nilf, _, _, e => e
  | .iface _ x, _, h, ⟨y, e, r⟩ => ⟨y, e, VR.flat x _ (by simpa [AV.flat] using h) r⟩
  | .nili, _, _, e => e
  | .agg l, _, h, ⟨vs, e, r⟩ => ⟨vs, e, VRs.flat l _ (by simpa [AV.flat] using h) r⟩
  | .tup l, _, h, ⟨vs, e, r⟩ => ⟨vs, e, VRs.flat l _ (by simpa [AV.flat] using h) r⟩
theorem VRs.flat {ι ι' : Plan} : ∀ (x : List AV) (v : List Value), AV.flats x = true → VRs ι x v → VRs ι' x v
  | [], _, _, e => e
  | x :: l, _, h, ⟨v, vs, e, r, rs⟩ => by
    simp only [AV.flats, Bool.and_eq_true] at h
    exact ⟨v, vs, e, VR.flat x v h.1 r, VRs.flat l vs h.2 rs⟩
end

def Plan.le (ι ι' : Plan) : Prop := ∀ b L, ι b = some L → ι' b = some L
theorem Plan.le_refl (ι : Plan) : ι.le ι := fun _ _ h => h
theorem Plan.le_trans {a b c : Plan} (h : a.le b) (k : b.le c) : a.le c := fun _ _ x => k _ _ (h _ _ x)

mutual
theorem VR.mono {ι ι' : Plan} (h : ι.le ι') : ∀ (x : AV) (v : Value), VR ι x v → VR ι' x v
  | .int _ _, _, e => e
  | .bool _, _, e => e
  | .str _, _, e => e
  | .ptr _ _, _, ⟨L, hL, e⟩ => ⟨L, h _ _ hL, e⟩
  | .nilp, _, e => e
  | .slice _ _ _ _, _, ⟨L, hL, e⟩ => ⟨L, h _ _ hL, e⟩
  | .osl _ _ _ _, _, ⟨L, hL, e⟩ => ⟨L, h _ _ hL, e⟩
  | .nils, _, e => e
  | .map _, _, ⟨L, hL, e⟩ => ⟨L, h _ _ hL, e⟩
  | .nilm, _, e => e
  | .fn _ cap, _, ⟨vs, e, r⟩ => ⟨vs, e, VRs.mono h cap _ r⟩
  | .nilf, _, e => e
  | .iface _ x, _, ⟨y, e, r⟩ => ⟨y, e, VR.mono h x _ r⟩
  | .nili, _, e => e
  | .agg l, _, ⟨vs, e, r⟩ => ⟨vs, e, VRs.mono h l _ r⟩
  | .tup l, _, ⟨vs, e, r⟩ => ⟨vs, e, VRs.mono h l _ r⟩
theorem VRs.mono {ι ι' : Plan} (h : ι.le ι') : ∀ (l : List AV) (vs : List Value), VRs ι l vs → VRs ι' l vs
  | [], _, e => e
  | x :: l, _, ⟨v, vs', e, r, rs⟩ => ⟨v, vs', e, VR.mono h x v r, VRs.mono h l vs' rs⟩
end

theorem VRs.length {ι : Plan} : ∀ {l : List AV} {vs : List Value}, VRs ι l vs → vs.length = l.length
  | [], _, e => by rw [e]; rfl
  | _ :: _, _, ⟨_, _, e, _, rs⟩ => by rw [e, List.length_cons, List.length_cons, VRs.length rs]

theorem VRs.get {ι : Plan} : ∀ {l : List AV} {vs : List Value} {i : Nat} {x : AV}, VRs ι l vs → l[i]? = some x → ∃ v, vs[i]? = some v ∧ VR ι x v
  | [], _, _, _, _, h => by simp at h
  | y :: l, _, 0, x, ⟨v, vs', e, r, rs⟩, h => by simp at h; subst h; exact ⟨v, by simp [e], r⟩
  | y :: l, _, i + 1, x, ⟨v, vs', e, r, rs⟩, h => by
    simp only [List.getElem?_cons_succ] at h
    obtain ⟨u, hu, hr⟩ := VRs.get rs h
    exact ⟨u, by simp [e, hu], hr⟩

theorem VRs.append {ι : Plan} : ∀ {l m : List AV} {vs us : List Value}, VRs ι l vs → VRs ι m us → VRs ι (l ++ m) (vs ++ us)
  | [], _, _, _, e, h => by rw [e]; exact h
  | _ :: _, _, _, _, ⟨v, vs', e, r, rs⟩, h => by rw [e]; exact ⟨v, _, rfl, r, VRs.append rs h⟩

theorem VRs.intro {ι : Plan} : ∀ {l : List AV} {vs : List Value}, vs.length = l.length → (∀ (i : Nat) (x : AV), l[i]? = some x → ∃ v, vs[i]? = some v ∧ VR ι x v) → VRs ι l vs
  | [], vs, hl, _ => by show vs = []; simpa using hl
  | x :: l, [], hl, _ => by simp at hl
  | x :: l, v :: vs, hl, h => by
    obtain ⟨u, hu, hr⟩ := h 0 x rfl
    simp at hu; subst hu
    exact ⟨v, vs, rfl, hr, VRs.intro (by simpa using hl) fun i y hy => by simpa using h (i + 1) y (by simpa using hy)⟩

theorem VRs.take {ι : Plan} {l : List AV} {vs : List Value} (h : VRs ι l vs) (n : Nat) : VRs ι (l.take n) (vs.take n) := by
  refine VRs.intro (by simp [h.length]) fun i x hx => ?_
  rw [List.getElem?_take] at hx
  split at hx
  · rename_i hi
    obtain ⟨v, hv, hr⟩ := h.get hx
    exact ⟨v, by rw [List.getElem?_take, if_pos hi, hv], hr⟩
  · cases hx

theorem VRs.drop {ι : Plan} {l : List AV} {vs : List Value} (h : VRs ι l vs) (n : Nat) : VRs ι (l.drop n) (vs.drop n) := by
  refine VRs.intro (by simp [h.length]) fun i x hx => ?_
  rw [List.getElem?_drop] at hx
  obtain ⟨v, hv, hr⟩ := h.get hx
  exact ⟨v, by rw [List.getElem?_drop, hv], hr⟩

/-- The cells that a value takes. -/
def AV.cells : AV → List AV
  | .agg l => l
  | v => [v]

theorem VR.cells {ι : Plan} : ∀ {x : AV} {v : Value}, VR ι x v → VRs ι x.cells v.cells.toList := by
  intro x v h
  cases x with
  | agg l => obtain ⟨vs, rfl, hr⟩ := h; exact hr
  | int k n => cases h; exact ⟨_, _, rfl, rfl, rfl⟩
  | bool b => cases h; exact ⟨_, _, rfl, rfl, rfl⟩
  | str s => cases h; exact ⟨_, _, rfl, rfl, rfl⟩
  | ptr b o => obtain ⟨L, hL, rfl⟩ := h; exact ⟨_, _, rfl, ⟨L, hL, rfl⟩, rfl⟩
  | nilp => cases h; exact ⟨_, _, rfl, rfl, rfl⟩
  | slice b o n c => obtain ⟨L, hL, rfl⟩ := h; exact ⟨_, _, rfl, ⟨L, hL, rfl⟩, rfl⟩
  | osl s b o n =>
    obtain ⟨L, hL, h⟩ := h
    rcases h with ⟨c, h1, h2, rfl⟩ | ⟨h1, a, rfl⟩
    · exact ⟨_, _, rfl, ⟨L, hL, .inl ⟨c, h1, h2, rfl⟩⟩, rfl⟩
    · exact ⟨_, _, rfl, ⟨L, hL, .inr ⟨h1, a, rfl⟩⟩, rfl⟩
  | nils => cases h; exact ⟨_, _, rfl, rfl, rfl⟩
  | map b => obtain ⟨L, hL, rfl⟩ := h; exact ⟨_, _, rfl, ⟨L, hL, rfl⟩, rfl⟩
  | nilm => cases h; exact ⟨_, _, rfl, rfl, rfl⟩
  | fn f c => obtain ⟨vs, rfl, hr⟩ := h; exact ⟨_, _, rfl, ⟨vs, rfl, hr⟩, rfl⟩
  | nilf => cases h; exact ⟨_, _, rfl, rfl, rfl⟩
  | iface t y => obtain ⟨z, rfl, hr⟩ := h; exact ⟨_, _, rfl, ⟨z, rfl, hr⟩, rfl⟩
  | nili => cases h; exact ⟨_, _, rfl, rfl, rfl⟩
  | tup l => obtain ⟨vs, rfl, hr⟩ := h; exact ⟨_, _, rfl, ⟨vs, rfl, hr⟩, rfl⟩

/-- The values that fit into one cell. -/
def AV.one : AV → Bool
  | .agg _ => false
  | .tup _ => false
  | _ => true

theorem VR.one {ι : Plan} {x : AV} {v : Value} (h : VR ι x v) (hx : x.one = true) : v.oneCell' = true := by
  cases x <;> simp [AV.one] at hx <;> simp only [VR] at h
  case int => subst h; rfl
  case bool => subst h; rfl
  case str => subst h; rfl
  case ptr => obtain ⟨L, _, rfl⟩ := h; rfl
  case nilp => subst h; rfl
  case slice => obtain ⟨L, _, rfl⟩ := h; rfl
  case osl => obtain ⟨L, _, ⟨c, _, _, rfl⟩ | ⟨_, a, rfl⟩⟩ := h <;> rfl
  case nils => subst h; rfl
  case map => obtain ⟨L, _, rfl⟩ := h; rfl
  case nilm => subst h; rfl
  case fn => obtain ⟨vs, rfl, _⟩ := h; rfl
  case nilf => subst h; rfl
  case iface => obtain ⟨y, rfl, _⟩ := h; rfl
  case nili => subst h; rfl
end Go.Ev
