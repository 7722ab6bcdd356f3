/- Several texts of this claim, joined. -/
import Derived.Below
import Derived.Defers
import Derived.Recover
import Derived.Orders
import Derived.OneCell
import Derived.Laws.StructEq

/- A deterministic machine over an abstract memory: its values, its memory, and what they mean in the model's worlds. -/
namespace Go.Ev
open Go

/-- Values of the abstract machine. Blocks of its memory have numbers of their own. `osl sz b off n`: a slice of `n` elements of `sz` cells that begins at cell `off` of block `b`, whose capacity is not told. -/
inductive AV where
  | int (k : IntKind) (n : Int)
  | bool (b : Bool)
  | str (s : List UInt8)
  | ptr (b off : Nat)
  | nilp
  | slice (b off len cap : Nat)
  | osl (sz b off len : Nat)
  | nils
  | map (b : Nat)
  | nilm
  | fn (f : FuncId) (cap : List AV)
  | nilf
  | iface (t : TypeId) (v : AV)
  | nili
  | agg (l : List AV)
  | tup (l : List AV)
  deriving Inhabited

mutual
def AV.beq : AV → AV → Bool
  | .int k n, .int k' n' => decide (k = k') && decide (n = n')
  | .bool a, .bool b => a == b
  | .str s, .str t => s == t
  | .ptr b o, .ptr b' o' => b == b' && o == o'
  | .nilp, .nilp => true
  | .slice b o l c, .slice b' o' l' c' => b == b' && o == o' && l == l' && c == c'
  | .osl s b o l, .osl s' b' o' l' => s == s' && b == b' && o == o' && l == l'
  | .nils, .nils => true
  | .map b, .map b' => b == b'
  | .nilm, .nilm => true
  | .fn f c, .fn f' c' => f == f' && AV.beqs c c'
  | .nilf, .nilf => true
  | .iface t v, .iface t' v' => t == t' && AV.beq v v'
  | .nili, .nili => true
  | .agg l, .agg l' => AV.beqs l l'
  | .tup l, .tup l' => AV.beqs l l'
  | _, _ => false
def AV.beqs : List AV → List AV → Bool
  | [], [] => true
  | a :: l, b :: m => AV.beq a b && AV.beqs l m
  | _, _ => false
end

/-- How a block may be used: only read; written; written, and grown by append (what lies behind its cells is not told). -/
inductive Use where
  | ro | own
  deriving DecidableEq

inductive Blk where
  | dead
  | cells (c : List AV) (u : Use)
  | map (es : List (AV × AV)) 
  | siter (s : List UInt8) (pos : Nat)
  deriving Inhabited

/-- A table of blocks by number: a tree, so that a closed run finds a block in few steps. -/
inductive Tab where
  | nil
  | node (x : Blk) (l r : Tab)
  deriving Inhabited

def Tab.get : Tab → Nat → Blk
  | .nil, _ => .dead
  | .node x _ _, 0 => x
  | .node _ l r, i + 1 => if i % 2 = 0 then l.get (i / 2) else r.get (i / 2)

def Tab.setF : Nat → Tab → Nat → Blk → Tab
  | 0, t, _, _ => t
  | _ + 1, .nil, 0, y => .node y .nil .nil
  | _ + 1, .node _ l r, 0, y => .node y l r
  | f + 1, .nil, i + 1, y => if i % 2 = 0 then .node .dead (Tab.setF f .nil (i / 2) y) .nil else .node .dead .nil (Tab.setF f .nil (i / 2) y)
  | f + 1, .node x l r, i + 1, y => if i % 2 = 0 then .node x (Tab.setF f l (i / 2) y) r else .node x l (Tab.setF f r (i / 2) y)

theorem Tab.get_nil (i : Nat) : Tab.nil.get i = .dead := by cases i <;> rfl

theorem Tab.get_setF : ∀ (f : Nat) (t : Tab) (i j : Nat) (y : Blk), i < f → (Tab.setF f t i y).get j = if j = i then y else t.get j
  | 0, _, _, _, _, h => absurd h (by omega)
  | f + 1, t, i, j, y, h => by
    cases i with
    | zero => cases t <;> cases j <;> simp [Tab.setF, Tab.get, Tab.get_nil]
    | succ i =>
      have hf : i / 2 < f := by omega
      have ih := fun t j => Tab.get_setF f t (i / 2) j y hf
      cases t with
      | nil =>
        by_cases hi : i % 2 = 0
        · cases j with
          | zero => simp [Tab.setF, hi, Tab.get]
          | succ j =>
            by_cases hj : j % 2 = 0
            · simp only [Tab.setF, hi, if_true, Tab.get, hj, ih, Tab.get_nil]
              by_cases e : j / 2 = i / 2
              · have : j = i := by omega
                simp [this]
              · have : ¬ j = i := by omega
                simp [this, e]
            · have : ¬ j = i := by intro e; subst e; exact hj hi
              simp [Tab.setF, hi, Tab.get, hj, this, Tab.get_nil]
        · cases j with
          | zero => simp [Tab.setF, hi, Tab.get]
          | succ j =>
            by_cases hj : j % 2 = 0
            · have : ¬ j = i := by intro e; subst e; exact hi hj
              simp [Tab.setF, hi, Tab.get, hj, this, Tab.get_nil]
            · simp only [Tab.setF, hi, if_false, Tab.get, hj, ih, Tab.get_nil]
              by_cases e : j / 2 = i / 2
              · have : j = i := by omega
                simp [this]
              · have : ¬ j = i := by omega
                simp [this, e]
      | node x l r =>
        by_cases hi : i % 2 = 0
        · cases j with
          | zero => simp [Tab.setF, hi, Tab.get]
          | succ j =>
            by_cases hj : j % 2 = 0
            · simp only [Tab.setF, hi, if_true, Tab.get, hj, ih]
              by_cases e : j / 2 = i / 2
              · have : j = i := by omega
                simp [this]
              · have : ¬ j = i := by omega
                simp [this, e]
            · have : ¬ j = i := by intro e; subst e; exact hj hi
              simp [Tab.setF, hi, Tab.get, hj, this]
        · cases j with
          | zero => simp [Tab.setF, hi, Tab.get]
          | succ j =>
            by_cases hj : j % 2 = 0
            · have : ¬ j = i := by intro e; subst e; exact hi hj
              simp [Tab.setF, hi, Tab.get, hj, this]
            · simp only [Tab.setF, hi, if_false, Tab.get, hj, ih]
              by_cases e : j / 2 = i / 2
              · have : j = i := by omega
                simp [this]
              · have : ¬ j = i := by omega
                simp [this, e]

structure Heap where
  tab : Tab
  size : Nat
  deriving Inhabited

def Heap.get (H : Heap) (b : Nat) : Blk := if b < H.size then H.tab.get b else .dead
def Heap.push (H : Heap) (x : Blk) : Heap := { tab := Tab.setF (H.size + 1) H.tab H.size x, size := H.size + 1 }
def Heap.set (H : Heap) (b : Nat) (x : Blk) : Heap := { tab := Tab.setF (b + 1) H.tab b x, size := H.size }

/-- Nothing is known of any block. -/
def Heap.dead (n : Nat) : Heap := { tab := .nil, size := n }
theorem Heap.get_dead (n b : Nat) : (Heap.dead n).get b = .dead := by
  simp only [Heap.get, Heap.dead, Tab.get_nil, ite_self]

theorem Heap.size_push (H : Heap) (x : Blk) : (H.push x).size = H.size + 1 := rfl
theorem Heap.size_set (H : Heap) (b : Nat) (x : Blk) : (H.set b x).size = H.size := rfl
theorem Heap.get_push (H : Heap) (x : Blk) (b : Nat) : (H.push x).get b = if b = H.size then x else H.get b := by
  simp only [Heap.get, Heap.push]
  rw [Tab.get_setF _ _ _ _ _ (Nat.lt_succ_self _)]
  by_cases h : b = H.size
  · simp [h]
  · by_cases h' : b < H.size
    · have : b < H.size + 1 := by omega
      simp [h, h', this]
    · have : ¬ b < H.size + 1 := by omega
      simp [h, h', this]
theorem Heap.get_set (H : Heap) (b c : Nat) (x : Blk) (hb : b < H.size) : (H.set b x).get c = if c = b then x else H.get c := by
  simp only [Heap.get, Heap.set]
  rw [Tab.get_setF _ _ _ _ _ (Nat.lt_succ_self _)]
  by_cases h : c = b
  · subst h; simp [hb]
  · simp [h]
theorem Heap.lt_of_get {H : Heap} {b : Nat} (h : H.get b ≠ .dead) : b < H.size := by
  unfold Heap.get at h
  split at h
  · assumption
  · exact absurd rfl h

/-- Where an abstract block lies: the model's block, the cell where it begins, how many cells from there may be used. -/
structure Loc where
  blk : Nat
  base : Nat
  ext : Nat

abbrev Plan := Nat → Option Loc

mutual
/-- An abstract value, as a value of the model, where blocks lie as planned. -/
def VR (ι : Plan) : AV → Value → Prop
  | .int k n, v => v = .int k n
  | .bool b, v => v = .bool b
  | .str s, v => v = .string ⟨s.toArray⟩
  | .ptr b off, v => ∃ L, ι b = some L ∧ v = .pointer (some ⟨L.blk, L.base + off, none⟩)
  | .nilp, v => v = .pointer none
  | .slice b off n c, v => ∃ L, ι b = some L ∧ v = .slice (some ⟨L.blk, L.base + off, none⟩) n c
  | .osl sz b off n, v => ∃ L, ι b = some L ∧ ((∃ c, n ≤ c ∧ off + c * sz ≤ L.ext ∧ v = .slice (some ⟨L.blk, L.base + off, none⟩) n c) ∨ (n = 0 ∧ ∃ a, v = .slice (some a) 0 0))
  | .nils, v => v = .slice none 0 0
  | .map b, v => ∃ L, ι b = some L ∧ v = .map (some L.blk)
  | .nilm, v => v = .map none
  | .fn f cap, v => ∃ vs, v = .func (.func f) #[] vs ∧ VRs ι cap vs.toList
  | .nilf, v => v = .nilFunc
  | .iface t x, v => ∃ y, v = .iface t y ∧ VR ι x y
  | .nili, v => v = .nilIface
  | .agg l, v => ∃ vs, v = .agg vs ∧ VRs ι l vs.toList
  | .tup l, v => ∃ vs, v = .tuple vs ∧ VRs ι l vs.toList
def VRs (ι : Plan) : List AV → List Value → Prop
  | [], vs => vs = []
  | x :: l, vs => ∃ v vs', vs = v :: vs' ∧ VR ι x v ∧ VRs ι l vs'
end

mutual
/-- Without addresses. -/
def AV.flat : AV → Bool
  | .int _ _ => true
  | .bool _ => true
  | .str _ => true
  | .nilp => true
  | .nils => true
  | .nilm => true
  | .nilf => true
  | .nili => true
  | .fn _ cap => AV.flats cap
  | .iface _ x => x.flat
  | .agg l => AV.flats l
  | .tup l => AV.flats l
  | _ => false
def AV.flats : List AV → Bool
  | [] => true
  | x :: l => x.flat && AV.flats l
end

mutual
theorem VR.flat {ι ι' : Plan} : ∀ (x : AV) (v : Value), x.flat = true → VR ι x v → VR ι' x v
  | .int _ _, _, _, e => e
  | .bool _, _, _, e => e
  | .str _, _, _, e => e
  | .ptr _ _, _, h, _ => by simp [AV.flat] at h
  | .nilp, _, _, e => e
  | .slice _ _ _ _, _, h, _ => by simp [AV.flat] at h
  | .osl _ _ _ _, _, h, _ => by simp [AV.flat] at h
  | .nils, _, _, e => e
  | .map _, _, h, _ => by simp [AV.flat] at h
  | .nilm, _, _, e => e
  | .fn _ cap, _, h, ⟨vs, e, r⟩ => ⟨vs, e, VRs.flat cap _ (by simpa [AV.flat] using h) r⟩
  | .nilf, _, _, e => e
  | .iface _ x, _, h, ⟨y, e, r⟩ => ⟨y, e, VR.flat x _ (by simpa [AV.flat] using h) r⟩
  | .nili, _, _, e => e
  | .agg l, _, h, ⟨vs, e, r⟩ => ⟨vs, e, VRs.flat l _ (by simpa [AV.flat] using h) r⟩
  | .tup l, _, h, ⟨vs, e, r⟩ => ⟨vs, e, VRs.flat l _ (by simpa [AV.flat] using h) r⟩
theorem VRs.flat {ι ι' : Plan} : ∀ (x : List AV) (v : List Value), AV.flats x = true → VRs ι x v → VRs ι' x v
  | [], _, _, e => e
  | x :: l, _, h, ⟨v, vs, e, r, rs⟩ => by
    simp only [AV.flats, Bool.and_eq_true] at h
    exact ⟨v, vs, e, VR.flat x v h.1 r, VRs.flat l vs h.2 rs⟩
end

def Plan.le (ι ι' : Plan) : Prop := ∀ b L, ι b = some L → ι' b = some L
theorem Plan.le_refl (ι : Plan) : ι.le ι := fun _ _ h => h
theorem Plan.le_trans {a b c : Plan} (h : a.le b) (k : b.le c) : a.le c := fun _ _ x => k _ _ (h _ _ x)

mutual
theorem VR.mono {ι ι' : Plan} (h : ι.le ι') : ∀ (x : AV) (v : Value), VR ι x v → VR ι' x v
  | .int _ _, _, e => e
  | .bool _, _, e => e
  | .str _, _, e => e
  | .ptr _ _, _, ⟨L, hL, e⟩ => ⟨L, h _ _ hL, e⟩
  | .nilp, _, e => e
  | .slice _ _ _ _, _, ⟨L, hL, e⟩ => ⟨L, h _ _ hL, e⟩
  | .osl _ _ _ _, _, ⟨L, hL, e⟩ => ⟨L, h _ _ hL, e⟩
  | .nils, _, e => e
  | .map _, _, ⟨L, hL, e⟩ => ⟨L, h _ _ hL, e⟩
  | .nilm, _, e => e
  | .fn _ cap, _, ⟨vs, e, r⟩ => ⟨vs, e, VRs.mono h cap _ r⟩
  | .nilf, _, e => e
  | .iface _ x, _, ⟨y, e, r⟩ => ⟨y, e, VR.mono h x _ r⟩
  | .nili, _, e => e
  | .agg l, _, ⟨vs, e, r⟩ => ⟨vs, e, VRs.mono h l _ r⟩
  | .tup l, _, ⟨vs, e, r⟩ => ⟨vs, e, VRs.mono h l _ r⟩
theorem VRs.mono {ι ι' : Plan} (h : ι.le ι') : ∀ (l : List AV) (vs : List Value), VRs ι l vs → VRs ι' l vs
  | [], _, e => e
  | x :: l, _, ⟨v, vs', e, r, rs⟩ => ⟨v, vs', e, VR.mono h x v r, VRs.mono h l vs' rs⟩
end

theorem VRs.length {ι : Plan} : ∀ {l : List AV} {vs : List Value}, VRs ι l vs → vs.length = l.length
  | [], _, e => by rw [e]; rfl
  | _ :: _, _, ⟨_, _, e, _, rs⟩ => by rw [e, List.length_cons, List.length_cons, VRs.length rs]

theorem VRs.get {ι : Plan} : ∀ {l : List AV} {vs : List Value} {i : Nat} {x : AV}, VRs ι l vs → l[i]? = some x → ∃ v, vs[i]? = some v ∧ VR ι x v
  | [], _, _, _, _, h => by simp at h
  | y :: l, _, 0, x, ⟨v, vs', e, r, rs⟩, h => by simp at h; subst h; exact ⟨v, by simp [e], r⟩
  | y :: l, _, i + 1, x, ⟨v, vs', e, r, rs⟩, h => by
    simp only [List.getElem?_cons_succ] at h
    obtain ⟨u, hu, hr⟩ := VRs.get rs h
    exact ⟨u, by simp [e, hu], hr⟩

theorem VRs.append {ι : Plan} : ∀ {l m : List AV} {vs us : List Value}, VRs ι l vs → VRs ι m us → VRs ι (l ++ m) (vs ++ us)
  | [], _, _, _, e, h => by rw [e]; exact h
  | _ :: _, _, _, _, ⟨v, vs', e, r, rs⟩, h => by rw [e]; exact ⟨v, _, rfl, r, VRs.append rs h⟩

theorem VRs.intro {ι : Plan} : ∀ {l : List AV} {vs : List Value}, vs.length = l.length → (∀ (i : Nat) (x : AV), l[i]? = some x → ∃ v, vs[i]? = some v ∧ VR ι x v) → VRs ι l vs
  | [], vs, hl, _ => by show vs = []; simpa using hl
  | x :: l, [], hl, _ => by simp at hl
  | x :: l, v :: vs, hl, h => by
    obtain ⟨u, hu, hr⟩ := h 0 x rfl
    simp at hu; subst hu
    exact ⟨v, vs, rfl, hr, VRs.intro (by simpa using hl) fun i y hy => by simpa using h (i + 1) y (by simpa using hy)⟩

theorem VRs.take {ι : Plan} {l : List AV} {vs : List Value} (h : VRs ι l vs) (n : Nat) : VRs ι (l.take n) (vs.take n) := by
  refine VRs.intro (by simp [h.length]) fun i x hx => ?_
  rw [List.getElem?_take] at hx
  split at hx
  · rename_i hi
    obtain ⟨v, hv, hr⟩ := h.get hx
    exact ⟨v, by rw [List.getElem?_take, if_pos hi, hv], hr⟩
  · cases hx

theorem VRs.drop {ι : Plan} {l : List AV} {vs : List Value} (h : VRs ι l vs) (n : Nat) : VRs ι (l.drop n) (vs.drop n) := by
  refine VRs.intro (by simp [h.length]) fun i x hx => ?_
  rw [List.getElem?_drop] at hx
  obtain ⟨v, hv, hr⟩ := h.get hx
  exact ⟨v, by rw [List.getElem?_drop, hv], hr⟩

/-- The cells that a value takes. -/
def AV.cells : AV → List AV
  | .agg l => l
  | v => [v]

theorem VR.cells {ι : Plan} : ∀ {x : AV} {v : Value}, VR ι x v → VRs ι x.cells v.cells.toList := by
  intro x v h
  cases x with
  | agg l => obtain ⟨vs, rfl, hr⟩ := h; exact hr
  | int k n => cases h; exact ⟨_, _, rfl, rfl, rfl⟩
  | bool b => cases h; exact ⟨_, _, rfl, rfl, rfl⟩
  | str s => cases h; exact ⟨_, _, rfl, rfl, rfl⟩
  | ptr b o => obtain ⟨L, hL, rfl⟩ := h; exact ⟨_, _, rfl, ⟨L, hL, rfl⟩, rfl⟩
  | nilp => cases h; exact ⟨_, _, rfl, rfl, rfl⟩
  | slice b o n c => obtain ⟨L, hL, rfl⟩ := h; exact ⟨_, _, rfl, ⟨L, hL, rfl⟩, rfl⟩
  | osl s b o n =>
    obtain ⟨L, hL, h⟩ := h
    rcases h with ⟨c, h1, h2, rfl⟩ | ⟨h1, a, rfl⟩
    · exact ⟨_, _, rfl, ⟨L, hL, .inl ⟨c, h1, h2, rfl⟩⟩, rfl⟩
    · exact ⟨_, _, rfl, ⟨L, hL, .inr ⟨h1, a, rfl⟩⟩, rfl⟩
  | nils => cases h; exact ⟨_, _, rfl, rfl, rfl⟩
  | map b => obtain ⟨L, hL, rfl⟩ := h; exact ⟨_, _, rfl, ⟨L, hL, rfl⟩, rfl⟩
  | nilm => cases h; exact ⟨_, _, rfl, rfl, rfl⟩
  | fn f c => obtain ⟨vs, rfl, hr⟩ := h; exact ⟨_, _, rfl, ⟨vs, rfl, hr⟩, rfl⟩
  | nilf => cases h; exact ⟨_, _, rfl, rfl, rfl⟩
  | iface t y => obtain ⟨z, rfl, hr⟩ := h; exact ⟨_, _, rfl, ⟨z, rfl, hr⟩, rfl⟩
  | nili => cases h; exact ⟨_, _, rfl, rfl, rfl⟩
  | tup l => obtain ⟨vs, rfl, hr⟩ := h; exact ⟨_, _, rfl, ⟨vs, rfl, hr⟩, rfl⟩

/-- The values that fit into one cell. -/
def AV.one : AV → Bool
  | .agg _ => false
  | .tup _ => false
  | _ => true

theorem VR.one {ι : Plan} {x : AV} {v : Value} (h : VR ι x v) (hx : x.one = true) : v.oneCell' = true := by
  cases x <;> simp [AV.one] at hx <;> simp only [VR] at h
  case int => subst h; rfl
  case bool => subst h; rfl
  case str => subst h; rfl
  case ptr => obtain ⟨L, _, rfl⟩ := h; rfl
  case nilp => subst h; rfl
  case slice => obtain ⟨L, _, rfl⟩ := h; rfl
  case osl => obtain ⟨L, _, ⟨c, _, _, rfl⟩ | ⟨_, a, rfl⟩⟩ := h <;> rfl
  case nils => subst h; rfl
  case map => obtain ⟨L, _, rfl⟩ := h; rfl
  case nilm => subst h; rfl
  case fn => obtain ⟨vs, rfl, _⟩ := h; rfl
  case nilf => subst h; rfl
  case iface => obtain ⟨y, rfl, _⟩ := h; rfl
  case nili => subst h; rfl
end Go.Ev

/- The abstract machine: its code, and how it runs. -/
namespace Go.Ev
open Go

inductive Opd where
  | p (i : Nat)
  | t (i : Nat)
  | c (v : AV)
  | g (n : Nat)
  | f (n : FuncId)
  deriving Inhabited

inductive Dst where
  | no
  | p (i : Nat)
  | t (i : Nat)

/-- Plain cells: bools, whole numbers, texts. -/
inductive SK where
  | b | i | s
  deriving DecidableEq

/-- What two values that are compared are, where they are neither two numbers nor two texts. -/
inductive EqK where
  | bool | ptr | slice | map | func | iface
  | agg (fs : List (Nat × SK))

inductive COp where
  | mov (x : Opd)
  | pick (c a b : Opd)
  | alloc (z : List AV)
  | box (x : Opd)
  | build (z : List AV) (parts : List (Nat × Nat × Opd))
  | lit (z : List AV) (n : Nat) (parts : List (Nat × Nat × Opd))
  | load1 (x : Opd)
  | loadN (n : Nat) (x : Opd)
  | store (n : Nat) (a x : Opd)
  | nilCheck (x : Opd)
  | bin (op : BinOp) (x y : Opd)
  | eqv (neg : Bool) (k : EqK) (x y : Opd)
  | un (op : UnOp) (x : Opd)
  | convI (k : IntKind) (x : Opd)
  | strStr (x : Opd)
  | intStr (x : Opd)
  | strBytes (x : Opd)
  | bytesStr (x : Opd)
  | mkIface (t : TypeId) (x : Opd)
  | mkFn (f : FuncId) (caps : List Opd)
  | mkSlice (z : List AV) (bytes : Nat) (l c : Opd)
  | sliceStr (x : Opd) (lo hi : Option Opd)
  | sliceSl (sz : Nat) (x : Opd) (lo hi mx : Option Opd)
  | sliceArr (n sz : Nat) (x : Opd) (lo hi mx : Option Opd)
  | fieldAddr (off : Nat) (x : Opd)
  | field1 (off : Nat) (x : Opd)
  | fieldN (off n : Nat) (x : Opd)
  | idxAddr (sz : Nat) (x i : Opd)
  | idxArr (n sz : Nat) (x i : Opd)
  | idxStr (x i : Opd)
  | idxAgg (n : Nat) (x i : Opd)
  | extract (x : Opd) (i : Nat)
  | lenStr (x : Opd)
  | lenSl (x : Opd)
  | capSl (x : Opd)
  | append (sz bytes : Nat) (x y : Opd)
  | appendStr (x y : Opd)
  | appendZ (z : List AV) (bytes : Nat) (x n : Opd)
  | minmax (mx : Bool) (xs : List Opd)
  | assert (t : TypeId) (zero : Option AV) (x : Opd)
  | rangeStr (x : Opd)
  | nextStr (x : Opd)
  | idxByte (x y : Opd)
  -- what follows is no simple operation
  | call (f : FuncId) (args : List Opd)
  /-- A call that asks for no memory. `g`: how many globals there are. -/
  | callP (g : Nat) (f : FuncId) (args : List Opd)
  | callV (f : Opd) (args : List Opd)
  | dfr (f : Opd) (args : List Opd)
  | panic (x : Opd)
  | recover

structure Cop where
  dst : Dst
  op : COp
  guard : Option (Opd × Bool)

/-- An operation of a region that draws its order. `lg`: a later one, not ordered behind it, asks for it; `tl`: a store at the end of the region; `u`: the earlier ones that it asks for. -/
structure DCop where
  c : Cop
  lg : Bool
  tl : Bool
  u : List Nat

inductive CCode where
  | skip
  | reg (ops : List Cop)
  | dreg (ops : List DCop)
  | seq (a b : CCode)
  | cond (c : Opd) (a b : CCode)
  | block (id : Nat) (live : List Nat) (body : CCode)
  | loop (live : List Nat) (body : CCode)
  | exit (id : Nat)
  | ret

inductive CRes where
  | slot (i : Nat)
  | cell1 (i : Nat)
  | cellN (i n : Nat)

structure CFunc where
  nargs : Nat
  ps : List Nat
  results : List CRes
  body : CCode

/-- What is behind a deferred function's frame: nothing that it may ask; a caller that returns; one that panics, with what. -/
inductive Up where
  | norm
  | ret
  | pan (chain : List (AV × Bool))
  deriving Inhabited

structure St where
  p : List (Nat × AV)
  t : List (Nat × AV)
  H : Heap
  d : List (FuncId × List AV)
  u : Up
  deriving Inhabited

inductive Ctl where
  | normal
  | exit (id : Nat)
  | ret
  | panic (chain : List (AV × Bool))

inductive End where
  | ret (v : AV)
  | pan (chain : List (AV × Bool))

def lk (i : Nat) : List (Nat × AV) → Option AV
  | [] => none
  | (j, v) :: r => if i = j then some v else lk i r

def up (i : Nat) (v : AV) : List (Nat × AV) → List (Nat × AV)
  | [] => [(i, v)]
  | (j, x) :: r => if i = j then (j, v) :: r else (j, x) :: up i v r

/-- The slots that live on, in the order of `live`. -/
def keep (live : List Nat) (l : List (Nat × AV)) : List (Nat × AV) :=
  match live with
  | [] => []
  | i :: r => match lk i l with
    | some v => (i, v) :: keep r l
    | none => keep r l

def undefA : AV := .tup []

def rho (p t : List (Nat × AV)) : Opd → Option AV
  | .p i => lk i p
  | .t i => lk i t
  | .c v => some v
  | .g n => some (.ptr n 0)
  | .f n => some (.fn n [])

def rhos (p t : List (Nat × AV)) : List Opd → Option (List AV)
  | [] => some []
  | x :: r => match rho p t x with
    | none => none
    | some v => match rhos p t r with
      | none => none
      | some l => some (v :: l)

def St.put (σ : St) (d : Dst) (v : AV) : St :=
  match d with
  | .no => σ
  | .p i => { σ with p := up i v σ.p }
  | .t i => { σ with t := (i, v) :: σ.t }

def St.keep (σ : St) (live : List Nat) : St := { σ with p := Ev.keep live σ.p, t := [] }

/-- Cells written one behind the other. -/
def wr (c : List AV) (off : Nat) : List AV → List AV
  | [] => c
  | v :: r => wr (c.set off v) (off + 1) r

def rd (c : List AV) (off n : Nat) : List AV := (c.drop off).take n

def fillA (ρ : Opd → Option AV) (cells : List AV) : List (Nat × Nat × Opd) → Option (List AV)
  | [] => some cells
  | (off, sz, x) :: r =>
    match ρ x with
    | none => none
    | some v => if v.cells.length = sz ∧ off + sz ≤ cells.length then fillA ρ (wr cells off v.cells) r else none

def intBin (op : BinOp) (k : IntKind) (a b : Int) : Option AV :=
  match op with
  | .add => some (.int k (k.wrap (a + b)))
  | .sub => some (.int k (k.wrap (a - b)))
  | .mul => some (.int k (k.wrap (a * b)))
  | .quo => if b = 0 then none else some (.int k (k.wrap (a.tdiv b)))
  | .rem => if b = 0 then none else some (.int k (a.tmod b))
  | .and => some (.int k (k.wrap (BitVec.ofInt k.bits a &&& BitVec.ofInt k.bits b).toNat))
  | .or => some (.int k (k.wrap (BitVec.ofInt k.bits a ||| BitVec.ofInt k.bits b).toNat))
  | .xor => some (.int k (k.wrap (BitVec.ofInt k.bits a ^^^ BitVec.ofInt k.bits b).toNat))
  | .andNot => some (.int k (k.wrap (BitVec.ofInt k.bits a &&& ~~~BitVec.ofInt k.bits b).toNat))
  | .eql => some (.bool (decide (a = b)))
  | .neq => some (.bool (!decide (a = b)))
  | .lss => some (.bool (decide (a < b)))
  | .leq => some (.bool (decide (a ≤ b)))
  | .gtr => some (.bool (decide (b < a)))
  | .geq => some (.bool (decide (b ≤ a)))
  | _ => none

def shiftA (op : BinOp) (k : IntKind) (a b : Int) : Option AV :=
  if b < 0 then none else
  match op with
  | .shl => some (.int k (k.wrap (a * 2 ^ (min b.toNat k.bits))))
  | .shr => some (.int k (a.fdiv (2 ^ (min b.toNat k.bits))))
  | _ => none

def strBin (op : BinOp) (a b : List UInt8) : Option AV :=
  match op with
  | .add => if a.length + b.length ≤ 1099511627776 then some (.str (a ++ b)) else none
  | .eql => some (.bool (decide (a = b)))
  | .neq => some (.bool (!decide (a = b)))
  | .lss => some (.bool (Op.bytesLess a b))
  | .leq => some (.bool (Op.bytesLess a b || decide (a = b)))
  | .gtr => some (.bool (!(Op.bytesLess a b || decide (a = b))))
  | .geq => some (.bool (!Op.bytesLess a b))
  | _ => none

def isShift : BinOp → Bool
  | .shl => true
  | .shr => true
  | _ => false

def binA (op : BinOp) : AV → AV → Option AV
  | .int k a, .int k' b => if isShift op then shiftA op k a b else if k = k' then intBin op k a b else none
  | .str a, .str b => strBin op a b
  | _, _ => none

/-- Two cells of plain data: are they the same? -/
def eqCell : SK → AV → AV → Option Bool
  | .i, .int k a, .int k' b => if k = k' then some (decide (a = b)) else none
  | .s, .str a, .str b => some (decide (a = b))
  | .b, .bool a, .bool b => some (decide (a = b))
  | _, _, _ => none

def eqCells (xs ys : List AV) : List (Nat × SK) → Option Bool
  | [] => some true
  | (i, k) :: r => match xs[i]?, ys[i]? with
    | some x, some y => match eqCell k x y with
      | none => none
      | some false => some false
      | some true => eqCells xs ys r
    | _, _ => none

def eqA : EqK → AV → AV → Option Bool
  | .bool, .bool a, .bool b => some (decide (a = b))
  | .ptr, .nilp, .nilp => some true
  | .ptr, .nilp, .ptr _ _ => some false
  | .ptr, .ptr _ _, .nilp => some false
  | .slice, .nils, .nils => some true
  | .slice, .nils, .slice _ _ _ _ => some false
  | .slice, .slice _ _ _ _, .nils => some false
  | .slice, .nils, .osl _ _ _ _ => some false
  | .slice, .osl _ _ _ _, .nils => some false
  | .map, .nilm, .nilm => some true
  | .map, .nilm, .map _ => some false
  | .map, .map _, .nilm => some false
  | .func, .nilf, .nilf => some true
  | .func, .nilf, .fn _ _ => some false
  | .func, .fn _ _, .nilf => some false
  | .iface, .nili, .nili => some true
  | .iface, .iface _ _, .nili => some false
  | .iface, .nili, .iface _ _ => some false
  | .agg fs, .agg xs, .agg ys => eqCells xs ys fs
  | _, _, _ => none

def unA : UnOp → AV → Option AV
  | .neg, .int k n => some (.int k (k.wrap (0 - n)))
  | .xor, .int k n => some (.int k (k.wrap (BitVec.ofInt k.bits (if k.signed then -1 else k.max) ^^^ BitVec.ofInt k.bits n).toNat))
  | .not, .bool b => some (.bool (!b))
  | _, _ => none

/-- A bound: an index from 0 to `y`. -/
def bnd (ρ : Opd → Option AV) (y : Nat) : Option Opd → Nat → Option Nat
  | none, d => some d
  | some x, _ => match ρ x with
    | some (.int _ i) => if 0 ≤ i ∧ i ≤ y then some i.toNat else none
    | _ => none

def bytesOf : List AV → Option (List UInt8)
  | [] => some []
  | .int .u8 n :: r => (bytesOf r).map (UInt8.ofNat n.toNat :: ·)
  | _ => none

def byteCells (s : List UInt8) : List AV := s.map fun b => .int .u8 b.toNat

/-- The elements of a slice: their cells. -/
def readSl (H : Heap) (sz : Nat) : AV → Option (Nat × List AV)
  | .nils => some (0, [])
  | .slice b off n _ => if n = 0 then some (0, []) else match H.get b with
    | .cells c _ => if off + n * sz ≤ c.length then some (n, rd c off (n * sz)) else none
    | _ => none
  | .osl s b off n => if s = sz then (if n = 0 then some (0, []) else match H.get b with
    | .cells c _ => if off + n * sz ≤ c.length then some (n, rd c off (n * sz)) else none
    | _ => none) else none
  | _ => none

def zeros (z : List AV) (n : Nat) : List AV := (List.range n).map fun i => z.getD (i % z.length) undefA

/-- append: the new cells `ys` are `n` elements. -/
def appendA (H : Heap) (sz bytes : Nat) (x : AV) (n : Nat) (ys : List AV) : Option (AV × Heap) :=
  if n = 0 then (match x with
    | .nils => some (.nils, H)
    | .slice b off len cap => if len ≤ cap then some (.slice b off len cap, H) else none
    | .osl s b off len => some (.osl s b off len, H)
    | _ => none) else
  match x with
  | .nils => if n * bytes ≤ 1099511627776 ∧ n ≤ 1099511627776 then some (.osl sz H.size 0 n, H.push (.cells ys .own)) else none
  | .slice b off len cap =>
    if len + n ≤ cap then
      match H.get b with
      | .cells c .own => if off + (len + n) * sz ≤ c.length then some (.slice b off (len + n) cap, H.set b (.cells (wr c (off + len * sz) ys) .own)) else none
      | _ => none
    else if (len + n) * bytes ≤ 1099511627776 ∧ len + n ≤ 1099511627776 then
      match readSl H sz x with
      | some (_, old) => some (.osl sz H.size 0 (len + n), H.push (.cells (old ++ ys) .own))
      | none => none
    else none
  | .osl s b off len =>
    if s = sz ∧ (len + n) * bytes ≤ 1099511627776 ∧ len + n ≤ 1099511627776 then
      match H.get b with
      | .cells c .own => if off + len * sz ≤ c.length then some (.osl sz H.size 0 (len + n), (H.set b .dead).push (.cells (rd c off (len * sz) ++ ys) .own)) else none
      | _ => none
    else none
  | _ => none

def minmaxA (mx : Bool) (ρ : Opd → Option AV) : AV → List Opd → Option AV
  | v, [] => some v
  | .int k a, x :: r => match ρ x with
    | some (.int _ b) => minmaxA mx ρ (.int k (if mx then (if b > a then b else a) else (if b < a then b else a))) r
    | _ => none
  | _, _ => none

def idxByteA (c : UInt8) : List UInt8 → Nat → Int
  | [], _ => -1
  | x :: r, i => if x = c then (i : Int) else idxByteA c r (i + 1)

/-- A simple operation: its value, the memory behind it. -/
def evOp (ρ : Opd → Option AV) (H : Heap) : COp → Option (AV × Heap)
  | .mov x => (ρ x).map (·, H)
  | .pick c a b => match ρ c with
    | some (.bool true) => (ρ a).map (·, H)
    | some (.bool false) => (ρ b).map (·, H)
    | _ => none
  | .alloc z => some (.ptr H.size 0, H.push (.cells z .own))
  | .box x => match ρ x with
    | some v => some (.ptr H.size 0, H.push (.cells v.cells .own))
    | none => none
  | .build z parts => (fillA ρ z parts).map (fun c => (.agg c, H))
  | .lit z n parts => (fillA ρ z parts).map (fun c => (.slice H.size 0 n n, H.push (.cells c .own)))
  | .load1 x => match ρ x with
    | some (.ptr b off) => match H.get b with
      | .cells c _ => match c[off]? with
        | some v => some (v, H)
        | none => none
      | _ => none
    | _ => none
  | .loadN n x => match ρ x with
    | some (.ptr b off) => match H.get b with
      | .cells c _ => if off + n ≤ c.length then some (.agg (rd c off n), H) else none
      | _ => none
    | _ => none
  | .store n a x => match ρ a with
    | some (.ptr b off) => match ρ x with
      | some v => match H.get b with
        | .cells c .own => if v.cells.length = n ∧ off + n ≤ c.length ∧ v.cells.all AV.one then some (undefA, H.set b (.cells (wr c off v.cells) .own)) else none
        | _ => none
      | none => none
    | _ => none
  | .nilCheck x => match ρ x with
    | some .nilp => none
    | some .nili => none
    | some .nilf => none
    | some v => some (v, H)
    | none => none
  | .bin op x y => match ρ x with
    | some a => match ρ y with
      | some b => (binA op a b).map (·, H)
      | none => none
    | none => none
  | .eqv neg k x y => match ρ x with
    | some a => match ρ y with
      | some b => (eqA k a b).map fun r => (.bool (if neg then !r else r), H)
      | none => none
    | none => none
  | .un op x => match ρ x with
    | some a => (unA op a).map (·, H)
    | none => none
  | .convI k x => match ρ x with
    | some (.int _ n) => some (.int k (k.wrap n), H)
    | _ => none
  | .strStr x => match ρ x with
    | some (.str s) => some (.str s, H)
    | _ => none
  | .intStr x => match ρ x with
    | some (.int _ n) => some (.str (Utf8.encode n).data.toList, H)
    | _ => none
  | .strBytes x => match ρ x with
    | some (.str s) => if s.length ≤ 1099511627776 then some (.osl 1 H.size 0 s.length, H.push (.cells (byteCells s) .own)) else none
    | _ => none
  | .bytesStr x => match ρ x with
    | some v => match readSl H 1 v with
      | some (_, c) => (bytesOf c).map fun s => (.str s, H)
      | none => none
    | none => none
  | .mkIface t x => (ρ x).map fun v => (.iface t v, H)
  | .mkFn f caps => (caps.mapM ρ).map fun l => (.fn f l, H)
  | .mkSlice z bytes l c => match ρ l with
    | some (.int _ l) => match ρ c with
      | some (.int _ c) => if 0 ≤ l ∧ l ≤ c ∧ c * bytes ≤ 1099511627776 ∧ c ≤ 1099511627776 then some (.slice H.size 0 l.toNat c.toNat, H.push (.cells (zeros z (c.toNat * z.length)) .own)) else none
      | _ => none
    | _ => none
  | .sliceStr x lo hi => match ρ x with
    | some (.str s) => match bnd ρ s.length hi s.length with
      | some h => match bnd ρ h lo 0 with
        | some l => some (.str ((s.take h).drop l), H)
        | none => none
      | none => none
    | _ => none
  | .sliceSl sz x lo hi mx => match ρ x with
    | some .nils => match bnd ρ 0 mx 0 with
      | some m => match bnd ρ m hi 0 with
        | some h => match bnd ρ h lo 0 with
          | some _ => some (.nils, H)
          | none => none
        | none => none
      | none => none
    | some (.slice b off n c) => match bnd ρ c mx c with
      | some m => match bnd ρ m hi n with
        | some h => match bnd ρ h lo 0 with
          | some l => some (.slice b (if m = l then off else off + l * sz) (h - l) (m - l), H)
          | none => none
        | none => none
      | none => none
    | some (.osl s b off n) => if s = sz then (match mx with
      | some _ => match bnd ρ n mx n with
        | some m => match bnd ρ m hi n with
          | some h => match bnd ρ h lo 0 with
            | some l => if n = 0 then none else some (.slice b (if m = l then off else off + l * sz) (h - l) (m - l), H)
            | none => none
          | none => none
        | none => none
      | none => match bnd ρ n hi n with
        | some h => match bnd ρ h lo 0 with
          | some l => some (.osl sz b (off + l * sz) (h - l), H)
          | none => none
        | none => none) else none
    | _ => none
  | .sliceArr n sz x lo hi mx => match ρ x with
    | some (.ptr b off) => match bnd ρ n mx n with
      | some m => match bnd ρ m hi n with
        | some h => match bnd ρ h lo 0 with
          | some l => some (.slice b (if m = l then off else off + l * sz) (h - l) (m - l), H)
          | none => none
        | none => none
      | none => none
    | _ => none
  | .fieldAddr off x => match ρ x with
    | some (.ptr b o) => some (.ptr b (o + off), H)
    | _ => none
  | .field1 off x => match ρ x with
    | some (.agg l) => match l[off]? with
      | some v => some (v, H)
      | none => none
    | _ => none
  | .fieldN off n x => match ρ x with
    | some (.agg l) => some (.agg (rd l off n), H)
    | _ => none
  | .idxAddr sz x i => match ρ x with
    | some (.slice b off n _) => match ρ i with
      | some (.int _ i) => if 0 ≤ i ∧ i < n then some (.ptr b (off + i.toNat * sz), H) else none
      | _ => none
    | some (.osl s b off n) => match ρ i with
      | some (.int _ i) => if s = sz ∧ 0 ≤ i ∧ i < n then some (.ptr b (off + i.toNat * sz), H) else none
      | _ => none
    | _ => none
  | .idxArr n sz x i => match ρ x with
    | some (.ptr b off) => match ρ i with
      | some (.int _ i) => if 0 ≤ i ∧ i < n then some (.ptr b (off + i.toNat * sz), H) else none
      | _ => none
    | _ => none
  | .idxStr x i => match ρ x with
    | some (.str s) => match ρ i with
      | some (.int _ i) => if 0 ≤ i then (match s[i.toNat]? with
        | some b => some (.int .u8 b.toNat, H)
        | none => none) else none
      | _ => none
    | _ => none
  | .idxAgg n x i => match ρ x with
    | some (.agg l) => match ρ i with
      | some (.int _ i) => if 0 ≤ i ∧ i < n then (match l[i.toNat]? with
        | some v => some (v, H)
        | none => none) else none
      | _ => none
    | _ => none
  | .extract x i => match ρ x with
    | some (.tup l) => match l[i]? with
      | some v => some (v, H)
      | none => none
    | _ => none
  | .lenStr x => match ρ x with
    | some (.str s) => some (.int .i64 s.length, H)
    | _ => none
  | .lenSl x => match ρ x with
    | some (.slice _ _ n _) => some (.int .i64 n, H)
    | some (.osl _ _ _ n) => some (.int .i64 n, H)
    | some .nils => some (.int .i64 0, H)
    | _ => none
  | .capSl x => match ρ x with
    | some (.slice _ _ _ c) => some (.int .i64 c, H)
    | some .nils => some (.int .i64 0, H)
    | _ => none
  | .append sz bytes x y => match ρ x with
    | some a => match ρ y with
      | some b => match readSl H sz b with
        | some (n, ys) => if ys.all AV.one then appendA H sz bytes a n ys else none
        | none => none
      | none => none
    | none => none
  | .appendStr x y => match ρ x with
    | some a => match ρ y with
      | some (.str s) => appendA H 1 1 a s.length (byteCells s)
      | _ => none
    | none => none
  | .appendZ z bytes x n => match ρ x with
    | some a => match ρ n with
      | some (.int _ n) => if 0 ≤ n ∧ n ≤ 1099511627776 ∧ n * bytes ≤ 1099511627776 then appendA H z.length bytes a n.toNat (zeros z (n.toNat * z.length)) else none
      | _ => none
    | none => none
  | .minmax mx xs => match xs with
    | [] => none
    | x :: r => match ρ x with
      | some v => (minmaxA mx ρ v r).map (·, H)
      | none => none
  | .assert t zero x => match ρ x with
    | some (.iface u v) => if u = t then some ((if zero.isSome then .tup [v, .bool true] else v), H) else (match zero with
      | some z => some (.tup [z, .bool false], H)
      | none => none)
    | some .nili => (match zero with
      | some z => some (.tup [z, .bool false], H)
      | none => none)
    | _ => none
  | .rangeStr x => match ρ x with
    | some (.str s) => some (.ptr H.size 0, H.push (.siter s 0))
    | _ => none
  | .nextStr x => match ρ x with
    | some (.ptr b 0) => match H.get b with
      | .siter s pos => if pos < s.length then
          let r := Utf8.decode ⟨s.toArray⟩ pos
          some (.tup [.bool true, .int .i64 pos, .int .i32 r.1], H.set b (.siter s (pos + r.2)))
        else some (.tup [.bool false], H)
      | _ => none
    | _ => none
  | .idxByte x y => match ρ x with
    | some (.str s) => match ρ y with
      | some (.int .u8 c) => some (.int .i64 (idxByteA (UInt8.ofNat c.toNat) s 0), H)
      | _ => none
    | _ => none
  | _ => none

/-- What an operation comes to. -/
inductive OOut where
  | val (v : AV) (H : Heap)
  | pan (chain : List (AV × Bool)) (H : Heap)
  | dfr (f : FuncId) (args : List AV)
  | rcv (v : AV) (u : Up)

def endOut : End × Heap → OOut
  | (.ret v, H) => .val v H
  | (.pan ch, H) => .pan ch H

def evOp1 (call : FuncId → List AV → Heap → Option (End × Heap)) (σ : St) : COp → Option OOut
  | .call f args => match rhos σ.p σ.t args with
    | some l => (call f l σ.H).map endOut
    | none => none
  | .callP g f args => match rhos σ.p σ.t args with
    | some l => if AV.flats l then (match call f l (Heap.dead g) with
      | some (.ret v, _) => if v.flat then some (.val v σ.H) else none
      | _ => none) else none
    | none => none
  | .callV x args => match rho σ.p σ.t x with
    | some (.fn f cap) => match rhos σ.p σ.t args with
      | some l => (call f (l ++ cap) σ.H).map endOut
      | none => none
    | _ => none
  | .dfr x args => match rho σ.p σ.t x with
    | some (.fn f cap) => match rhos σ.p σ.t args with
      | some l => some (.dfr f (l ++ cap))
      | none => none
    | _ => none
  | .panic x => match rho σ.p σ.t x with
    | some (.iface t v) => some (.pan [(.iface t v, false)] σ.H)
    | _ => none
  | .recover => match σ.u with
    | .norm => none
    | .ret => some (.rcv .nili .ret)
    | .pan ((v, false) :: older) => some (.rcv v (.pan ((v, true) :: older)))
    | .pan ch => some (.rcv .nili (.pan ch))
  | op => match evOp (rho σ.p σ.t) σ.H op with
    | some (v, H) => some (.val v H)
    | none => none

def wantedA (σ : St) : Option (Opd × Bool) → Option Bool
  | none => some true
  | some (x, w) => match rho σ.p σ.t x with
    | some (.bool b) => some (b == w)
    | some (.tup []) => some false
    | _ => none

def evOps (call : FuncId → List AV → Heap → Option (End × Heap)) : List Cop → St → Option (Ctl × St)
  | [], σ => some (.normal, σ)
  | o :: r, σ => match wantedA σ o.guard with
    | none => none
    | some false => evOps call r (σ.put o.dst undefA)
    | some true => match evOp1 call σ o.op with
      | none => none
      | some (.val v H) => evOps call r (({ σ with H := H } : St).put o.dst v)
      | some (.pan ch H) => some (.panic ch, { σ with H := H })
      | some (.dfr f args) => evOps call r (({ σ with d := (f, args) :: σ.d } : St).put o.dst undefA)
      | some (.rcv v u) => evOps call r (({ σ with u := u } : St).put o.dst v)

/-- 0: memory is not asked; 1: it is read; 2: it is turned. -/
def kindC : COp → Nat
  | .load1 _ => 1
  | .loadN _ _ => 1
  | .bytesStr _ => 1
  | .alloc _ => 2
  | .box _ => 2
  | .lit _ _ _ => 2
  | .store _ _ _ => 2
  | .strBytes _ => 2
  | .mkSlice _ _ _ _ => 2
  | .append _ _ _ _ => 2
  | .appendStr _ _ => 2
  | .appendZ _ _ _ _ => 2
  | .rangeStr _ => 2
  | .nextStr _ => 2
  | .call _ _ => 2
  | .callV _ _ => 2
  | .dfr _ _ => 3
  | .panic _ => 3
  | .recover => 3
  | _ => 0

/-- What is kept of an operation that a later one asks for. -/
inductive LogE where
  | no
  | rd (chk : Heap → Bool)
  | ld (H : Heap)
  | st (b off n : Nat)

def sameVal (ρ : Opd → Option AV) (op : COp) (v : AV) (H : Heap) : Bool :=
  match evOp ρ H op with
  | some (v', _) => AV.beq v' v
  | none => false

def storeAt (ρ : Opd → Option AV) : COp → Option (Nat × Nat × Nat)
  | .store n a _ => match ρ a with
    | some (.ptr b off) => some (b, off, n)
    | _ => none
  | _ => none

def mkLog (d : DCop) (σ : St) (v : AV) : LogE :=
  if d.tl then (match storeAt (rho σ.p σ.t) d.c.op with | some (b, off, n) => .st b off n | none => .ld σ.H)
  else if kindC d.c.op = 1 then .rd (sameVal (rho σ.p σ.t) d.c.op v)
  else if kindC d.c.op = 2 then .ld σ.H
  else .no

def lkL (i : Nat) : List (Nat × LogE) → Option LogE
  | [] => none
  | (j, e) :: r => if i = j then some e else lkL i r

def dynOK (d : DCop) (σ : St) (v : AV) (H' : Heap) : Option LogE → Bool
  | some .no => true
  | some (.rd chk) => chk H'
  | some (.ld H) => sameVal (rho σ.p σ.t) d.c.op v H
  | some (.st b off n) => match storeAt (rho σ.p σ.t) d.c.op with
    | some (b', off', n') => b != b' || decide (off + n ≤ off') || decide (off' + n' ≤ off)
    | none => false
  | none => false

def evOpsD (call : FuncId → List AV → Heap → Option (End × Heap)) : List DCop → Nat → List (Nat × LogE) → St → Option (Ctl × St)
  | [], _, _, σ => some (.normal, σ)
  | d :: r, k, lg, σ => match wantedA σ d.c.guard with
    | none => none
    | some false => evOpsD call r (k + 1) (if d.lg then (k, .no) :: lg else lg) (σ.put d.c.dst undefA)
    | some true => match evOp1 call σ d.c.op with
      | some (.val v H) => if d.u.all (fun i => dynOK d σ v H (lkL i lg)) then evOpsD call r (k + 1) (if d.lg then (k, mkLog d σ v) :: lg else lg) (({ σ with H := H } : St).put d.c.dst v) else none
      | _ => none

def loopA (step : St → Option (Ctl × St)) (live : List Nat) : Nat → St → Option (Ctl × St)
  | 0, _ => none
  | n + 1, σ => match step (σ.keep live) with
    | some (.normal, σ') => loopA step live n σ'
    | r => r

def evCode (call : FuncId → List AV → Heap → Option (End × Heap)) (n : Nat) : CCode → St → Option (Ctl × St)
  | .skip, σ => some (.normal, σ)
  | .reg ops, σ => evOps call ops { σ with t := [] }
  | .dreg ops, σ => evOpsD call ops 0 [] { σ with t := [] }
  | .seq a b, σ => match evCode call n a σ with
    | some (.normal, σ') => evCode call n b σ'
    | r => r
  | .cond c a b, σ => match rho σ.p σ.t c with
    | some (.bool true) => evCode call n a σ
    | some (.bool false) => evCode call n b σ
    | _ => none
  | .block id live body, σ => match evCode call n body σ with
    | some (.normal, σ') => some (.normal, σ'.keep live)
    | some (.exit i, σ') => if i = id then some (.normal, σ'.keep live) else some (.exit i, σ')
    | r => r
  | .loop live body, σ => loopA (evCode call n body) live n σ
  | .exit id, σ => some (.exit id, σ)
  | .ret, σ => some (.ret, σ)

def resA (p : List (Nat × AV)) (H : Heap) : CRes → Option AV
  | .slot i => lk i p
  | .cell1 i => match lk i p with
    | some (.ptr b off) => match H.get b with
      | .cells c _ => c[off]?
      | _ => none
    | _ => none
  | .cellN i n => match lk i p with
    | some (.ptr b off) => match H.get b with
      | .cells c _ => if off + n ≤ c.length then some (.agg (rd c off n)) else none
      | _ => none
    | _ => none

def resAs (p : List (Nat × AV)) (H : Heap) : List CRes → Option (List AV)
  | [] => some []
  | r :: l => match resA p H r with
    | none => none
    | some v => match resAs p H l with
      | none => none
      | some vs => some (v :: vs)

def resV : List AV → AV
  | [v] => v
  | l => .tup l

def settleA : Up → Up
  | .pan ((_, true) :: _) => .ret
  | u => u

def raisedA (u : Up) (ch : List (AV × Bool)) : Up :=
  match u with
  | .pan old => .pan (ch ++ old)
  | _ => .pan ch

/-- The deferred calls of a frame, the last one first; then its end. -/
def runDfr (callD : FuncId → List AV → Up → Heap → Option (End × Up × Heap)) (rs : List CRes) (p : List (Nat × AV)) : List (FuncId × List AV) → Up → Heap → Option (End × Heap)
  | [], .ret, H => (resAs p H rs).map fun l => (.ret (resV l), H)
  | [], .pan ch, H => some (.pan ch, H)
  | [], .norm, _ => none
  | (f, args) :: ds, u, H => match callD f args u H with
    | some (.ret _, u', H') => runDfr callD rs p ds (settleA u') H'
    | some (.pan ch, u', H') => runDfr callD rs p ds (raisedA u' ch) H'
    | none => none

def enterA : List AV → Nat → List (Nat × AV)
  | [], _ => []
  | v :: r, i => (i, v) :: enterA r (i + 1)

/-- A deferred function's call: its end; what became of its caller's panic. -/
def evFnD (C : FuncId → Option CFunc) (call : FuncId → List AV → Heap → Option (End × Heap)) (n : Nat) (f : FuncId) (args : List AV) (u : Up) (H : Heap) : Option (End × Up × Heap) :=
  match C f with
  | none => none
  | some cf => if args.length = cf.nargs then match evCode call n cf.body { p := enterA args 0, t := [], H := H, d := [], u := u } with
    | some (.normal, σ) | some (.ret, σ) => (match σ.d with
      | [] => (resAs σ.p σ.H cf.results).map fun l => (.ret (resV l), σ.u, σ.H)
      | _ => none)
    | some (.panic ch, σ) => (match σ.d with
      | [] => some (.pan ch, σ.u, σ.H)
      | _ => none)
    | _ => none
    else none

/-- A function's call, where `call` does the calls that it makes. -/
def evStep (C : FuncId → Option CFunc) (call : FuncId → List AV → Heap → Option (End × Heap)) (n : Nat) (f : FuncId) (args : List AV) (H : Heap) : Option (End × Heap) :=
  match C f with
  | none => none
  | some cf => if args.length = cf.nargs then match evCode call n cf.body { p := enterA args 0, t := [], H := H, d := [], u := .norm } with
    | some (.normal, σ) | some (.ret, σ) => runDfr (evFnD C call n) cf.results σ.p σ.d .ret σ.H
    | some (.panic ch, σ) => runDfr (evFnD C call n) cf.results σ.p σ.d (.pan ch) σ.H
    | _ => none
    else none

def evFn (C : FuncId → Option CFunc) : Nat → FuncId → List AV → Heap → Option (End × Heap)
  | 0, _, _, _ => none
  | n + 1, f, args, H => evStep C (evFn C n) n f args H
end Go.Ev

/- How the abstract memory lies in a world of the model, and what each change of it comes to there. -/
namespace Go.Ev
open Go Go.RowKit

def Owned (H : Heap) (b : Nat) : Prop := (∃ c, H.get b = .cells c .own) ∨ (∃ s p, H.get b = .siter s p) ∨ (∃ es, H.get b = .map es)

structure Rel (B : Nat) (ι : Plan) (H : Heap) (w : World) : Prop where
  dom : ∀ b L, ι b = some L → b < H.size ∧ L.blk < w.heap.size
  live : ∀ b c u, H.get b = .cells c u → ∃ L, ι b = some L ∧ ∀ (i : Nat) (x : AV), c[i]? = some x → ∃ v, w.cell? ⟨L.blk, L.base + i, none⟩ = some v ∧ VR ι x v
  own : ∀ b c L, H.get b = .cells c .own → ι b = some L → B ≤ L.blk ∧ c.length ≤ L.ext ∧ ∀ i, i < L.ext → (∃ v, w.cell? ⟨L.blk, L.base + i, none⟩ = some v) ∧ w.frozen? ⟨L.blk, L.base + i, none⟩ = false
  iter : ∀ b s p, H.get b = .siter s p → ∃ L, ι b = some L ∧ B ≤ L.blk ∧ L.base = 0 ∧ w.heap[L.blk]? = some (.stringIter ⟨s.toArray⟩ p)
  nomap : ∀ b es, H.get b ≠ .map es
  inj : ∀ b b' L L', b ≠ b' → Owned H b → H.get b' ≠ .dead → ι b = some L → ι b' = some L' → L.blk ≠ L'.blk
  size : B ≤ w.heap.size

/-- What a step gives: a greater plan, the relation, nothing below `B` has turned. -/
def Good (B : Nat) (ι : Plan) (w : World) (H' : Heap) (w' : World) (F : Plan → Prop) : Prop :=
  ∃ ι' : Plan, ι.le ι' ∧ Rel B ι' H' w' ∧ Below B w w' ∧ F ι'

theorem cell_blk {w w' : World} {k : Nat} (h : w'.heap[k]? = w.heap[k]?) (i : Nat) : w'.cell? ⟨k, i, none⟩ = w.cell? ⟨k, i, none⟩ := by
  simp only [World.cell?, h]
theorem frozen_blk {w w' : World} {k : Nat} (h : w'.heap[k]? = w.heap[k]?) (i : Nat) : w'.frozen? ⟨k, i, none⟩ = w.frozen? ⟨k, i, none⟩ := by
  simp only [World.frozen?, h]

theorem Rel.none_new {B : Nat} {ι : Plan} {H : Heap} {w : World} (h : Rel B ι H w) {b : Nat} (hb : H.size ≤ b) : ι b = none := by
  cases hι : ι b with
  | none => rfl
  | some L => have := (h.dom b L hι).1; omega

theorem Rel.plan_of_live {B : Nat} {ι : Plan} {H : Heap} {w : World} (h : Rel B ι H w) {b : Nat} (hb : H.get b ≠ .dead) : ∃ L, ι b = some L := by
  cases hg : H.get b with
  | dead => exact absurd hg hb
  | cells c u => obtain ⟨L, hL, _⟩ := h.live b c u hg; exact ⟨L, hL⟩
  | map es => exact absurd hg (h.nomap b es)
  | siter s p => obtain ⟨L, hL, _⟩ := h.iter b s p hg; exact ⟨L, hL⟩

theorem Rel.congr {B : Nat} {ι : Plan} {H H' : Heap} {w : World} (h : Rel B ι H w) (hg : ∀ b, H'.get b = H.get b) (hs : H'.size = H.size) : Rel B ι H' w where
  dom := fun b L e => by rw [hs]; exact h.dom b L e
  live := fun b c u e => h.live b c u (by rw [← hg]; exact e)
  own := fun b c L e => h.own b c L (by rw [← hg]; exact e)
  iter := fun b s p e => h.iter b s p (by rw [← hg]; exact e)
  nomap := fun b es => by rw [hg]; exact h.nomap b es
  inj := fun b b' L L' hne ho hd => h.inj b b' L L' hne (by unfold Owned at *; simpa only [hg] using ho) (by rw [← hg]; exact hd)
  size := h.size

/-- The same blocks, another world: where all blocks of the plan are as they were. -/
theorem Rel.world {B : Nat} {ι : Plan} {H : Heap} {w w' : World} (h : Rel B ι H w) (hs : w.heap.size ≤ w'.heap.size) (hb : ∀ k, k < w.heap.size → w'.heap[k]? = w.heap[k]?) : Rel B ι H w' where
  dom := fun b L e => ⟨(h.dom b L e).1, Nat.lt_of_lt_of_le (h.dom b L e).2 hs⟩
  live := fun b c u e => by
    obtain ⟨L, hL, hc⟩ := h.live b c u e
    refine ⟨L, hL, fun i x hx => ?_⟩
    obtain ⟨v, hv, hr⟩ := hc i x hx
    exact ⟨v, by rw [cell_blk (hb _ (h.dom b L hL).2)]; exact hv, hr⟩
  own := fun b c L e hL => by
    obtain ⟨h1, h2, h3⟩ := h.own b c L e hL
    refine ⟨h1, h2, fun i hi => ?_⟩
    rw [cell_blk (hb _ (h.dom b L hL).2), frozen_blk (hb _ (h.dom b L hL).2)]
    exact h3 i hi
  iter := fun b s p e => by
    obtain ⟨L, hL, h1, h2, h3⟩ := h.iter b s p e
    exact ⟨L, hL, h1, h2, by rw [hb _ (h.dom b L hL).2]; exact h3⟩
  nomap := h.nomap
  inj := h.inj
  size := Nat.le_trans h.size hs

def Plan.add (ι : Plan) (b : Nat) (L : Loc) : Plan := fun c => if c = b then some L else ι c
theorem Plan.add_self (ι : Plan) (b : Nat) (L : Loc) : (ι.add b L) b = some L := by simp [Plan.add]
theorem Plan.add_le {ι : Plan} {b : Nat} (L : Loc) (h : ι b = none) : ι.le (ι.add b L) := by
  intro c M hc
  by_cases e : c = b
  · subst e; rw [h] at hc; cases hc
  · simp [Plan.add, e, hc]

/-- A new block of cells. -/
theorem Rel.push_cells {B : Nat} {ι : Plan} {H : Heap} {w w' : World} (h : Rel B ι H w) (c : List AV) (ext : Nat)
    (hs : w'.heap.size = w.heap.size + 1) (hb : ∀ k, k < w.heap.size → w'.heap[k]? = w.heap[k]?)
    (hc : ∀ (i : Nat) (x : AV), c[i]? = some x → ∃ v, w'.cell? ⟨w.heap.size, i, none⟩ = some v ∧ VR ι x v)
    (he : c.length ≤ ext ∧ ∀ i, i < ext → (∃ v, w'.cell? ⟨w.heap.size, i, none⟩ = some v) ∧ w'.frozen? ⟨w.heap.size, i, none⟩ = false) :
    ι.le (ι.add H.size ⟨w.heap.size, 0, ext⟩) ∧ Rel B (ι.add H.size ⟨w.heap.size, 0, ext⟩) (H.push (.cells c .own)) w' := by
  have hle : ι.le (ι.add H.size ⟨w.heap.size, 0, ext⟩) := Plan.add_le _ (h.none_new (Nat.le_refl _))
  have h0 := h.world (w' := w') (by omega) hb
  refine ⟨hle, ?_⟩
  have hadd : ∀ b L, (ι.add H.size ⟨w.heap.size, 0, ext⟩) b = some L → (b = H.size ∧ L = ⟨w.heap.size, 0, ext⟩) ∨ (b ≠ H.size ∧ ι b = some L) := by
    intro b L e
    by_cases hbs : b = H.size
    · subst hbs; rw [Plan.add_self] at e; exact .inl ⟨rfl, by injection e with e; exact e.symm⟩
    · refine .inr ⟨hbs, ?_⟩; simpa [Plan.add, hbs] using e
  constructor
  · intro b L e
    rcases hadd b L e with ⟨rfl, rfl⟩ | ⟨hne, e'⟩
    · exact ⟨by rw [Heap.size_push]; omega, by simp only [hs]; omega⟩
    · have := h.dom b L e'; exact ⟨by rw [Heap.size_push]; omega, by omega⟩
  · intro b c' u e
    rw [Heap.get_push] at e
    by_cases hbs : b = H.size
    · subst hbs
      rw [if_pos rfl] at e; injection e with e1 e2; subst e1
      refine ⟨_, Plan.add_self _ _ _, fun i x hx => ?_⟩
      obtain ⟨v, hv, hr⟩ := hc i x hx
      exact ⟨v, by simpa using hv, VR.mono hle _ _ hr⟩
    · rw [if_neg hbs] at e
      obtain ⟨L, hL, hx⟩ := h0.live b c' u e
      exact ⟨L, hle _ _ hL, fun i x hi => let ⟨v, hv, hr⟩ := hx i x hi; ⟨v, hv, VR.mono hle _ _ hr⟩⟩
  · intro b c' L e hL
    rw [Heap.get_push] at e
    rcases hadd b L hL with ⟨rfl, rfl⟩ | ⟨hne, e'⟩
    · rw [if_pos rfl] at e; injection e with e1 e2; subst e1
      refine ⟨h.size, he.1, fun i hi => ?_⟩
      simpa using he.2 i hi
    · rw [if_neg hne] at e
      exact h0.own b c' L e e'
  · intro b s p e
    rw [Heap.get_push] at e
    by_cases hbs : b = H.size
    · subst hbs; rw [if_pos rfl] at e; cases e
    · rw [if_neg hbs] at e
      obtain ⟨L, hL, r⟩ := h0.iter b s p e
      exact ⟨L, hle _ _ hL, r⟩
  · intro b es
    rw [Heap.get_push]
    by_cases hbs : b = H.size
    · rw [if_pos hbs]; intro e; cases e
    · rw [if_neg hbs]; exact h.nomap b es
  · intro b b' L L' hne ho hd e e'
    rcases hadd b L e with ⟨rfl, rfl⟩ | ⟨hb1, e1⟩
    · rcases hadd b' L' e' with ⟨rfl, rfl⟩ | ⟨hb2, e2⟩
      · exact absurd rfl hne
      · have := (h.dom b' L' e2).2; simp only; omega
    · rcases hadd b' L' e' with ⟨rfl, rfl⟩ | ⟨hb2, e2⟩
      · have := (h.dom b L e1).2; simp only; omega
      · refine h.inj b b' L L' hne ?_ ?_ e1 e2
        · unfold Owned at *; simpa only [Heap.get_push, if_neg hb1] using ho
        · simpa only [Heap.get_push, if_neg hb2] using hd
  · have := h.size; omega

/-- One cell of a block of its own is written: a cell that it has, or one behind them that it may use. -/
theorem Rel.put_cell {B : Nat} {ι : Plan} {H : Heap} {w : World} (h : Rel B ι H w) {b off : Nat} {c c2 : List AV} {L : Loc} {x : AV} {v : Value}
    (hg : H.get b = .cells c .own) (hL : ι b = some L) (hoff : off < L.ext) (hr : VR ι x v) (hlen : c2.length ≤ L.ext)
    (hsame : ∀ (i : Nat) (y : AV), c2[i]? = some y → i ≠ off → c[i]? = some y) (hnew : ∀ y, c2[off]? = some y → y = x) :
    Rel B ι (H.set b (.cells c2 .own)) (w.setCell ⟨L.blk, L.base + off, none⟩ v) ∧ Below B w (w.setCell ⟨L.blk, L.base + off, none⟩ v) := by
  obtain ⟨o1, o2, o3⟩ := h.own b c L hg hL
  obtain ⟨⟨u, hu⟩, hfz⟩ := o3 off hoff
  have hbs : b < H.size := (h.dom b L hL).1
  have hget : ∀ b', (H.set b (.cells c2 .own)).get b' = if b' = b then .cells c2 .own else H.get b' := fun b' => Heap.get_set _ _ _ _ hbs
  have hoth : ∀ k, k ≠ L.blk → (w.setCell ⟨L.blk, L.base + off, none⟩ v).heap[k]? = w.heap[k]? := fun k hk => Below.heap_setCell _ _ _ _ hk
  have hself : ∀ i, (w.setCell ⟨L.blk, L.base + off, none⟩ v).cell? ⟨L.blk, L.base + i, none⟩ = if i = off then some v else w.cell? ⟨L.blk, L.base + i, none⟩ := by
    intro i
    by_cases e : i = off
    · subst e; rw [if_pos rfl]; exact World.cell?_setCell_same w _ v hu
    · rw [if_neg e]; exact World.cell?_setCell_other w _ _ v (by simp; omega)
  have hown : Owned H b := .inl ⟨c, hg⟩
  refine ⟨?_, (Below.refl B w).setCell o1 v⟩
  have hblk : ∀ b' L', b' ≠ b → H.get b' ≠ .dead → ι b' = some L' → L'.blk ≠ L.blk := fun b' L' hne hd e => (h.inj b b' L L' (Ne.symm hne) hown hd hL e).symm
  constructor
  · intro b' L' e
    have := h.dom b' L' e
    exact ⟨this.1, by rw [World.size_setCell]; exact this.2⟩
  · intro b' c' u' e
    rw [hget] at e
    by_cases hb : b' = b
    · subst hb
      rw [if_pos rfl] at e; injection e with e1 e2; subst e1; subst e2
      obtain ⟨L', hL', hx⟩ := h.live b' c .own hg
      rw [hL] at hL'; injection hL' with hL'; subst hL'
      refine ⟨L, hL, fun i y hy => ?_⟩
      rw [hself]
      by_cases e : i = off
      · subst e; have := hnew y hy; subst this; exact ⟨v, by simp, hr⟩
      · rw [if_neg e]; exact hx i y (hsame i y hy e)
    · rw [if_neg hb] at e
      obtain ⟨L', hL', hx⟩ := h.live b' c' u' e
      refine ⟨L', hL', fun i y hy => ?_⟩
      rw [cell_blk (hoth _ (hblk b' L' hb (by rw [e]; simp) hL'))]
      exact hx i y hy
  · intro b' c' L' e hL'
    rw [hget] at e
    by_cases hb : b' = b
    · subst hb
      rw [if_pos rfl] at e; injection e with e1 e2; subst e1
      rw [hL] at hL'; injection hL' with hL'; subst hL'
      refine ⟨o1, hlen, fun i hi => ?_⟩
      rw [hself, World.frozen?_setCell]
      by_cases e : i = off
      · exact ⟨⟨v, by rw [if_pos e]⟩, (o3 i hi).2⟩
      · exact ⟨by rw [if_neg e]; exact (o3 i hi).1, (o3 i hi).2⟩
    · rw [if_neg hb] at e
      have hne := hblk b' L' hb (by rw [e]; simp) hL'
      obtain ⟨p1, p2, p3⟩ := h.own b' c' L' e hL'
      refine ⟨p1, p2, fun i hi => ?_⟩
      rw [cell_blk (hoth _ hne), frozen_blk (hoth _ hne)]
      exact p3 i hi
  · intro b' s p e
    rw [hget] at e
    by_cases hb : b' = b
    · rw [if_pos hb] at e; cases e
    · rw [if_neg hb] at e
      obtain ⟨L', hL', q1, q2, q3⟩ := h.iter b' s p e
      exact ⟨L', hL', q1, q2, by rw [hoth _ (hblk b' L' hb (by rw [e]; simp) hL')]; exact q3⟩
  · intro b' es
    rw [hget]
    by_cases hb : b' = b
    · rw [if_pos hb]; intro e; cases e
    · rw [if_neg hb]; exact h.nomap b' es
  · intro b1 b2 L1 L2 hne ho hd e1 e2
    refine h.inj b1 b2 L1 L2 hne ?_ ?_ e1 e2
    · unfold Owned at ho
      simp only [hget] at ho
      by_cases hb : b1 = b
      · subst hb; exact hown
      · unfold Owned; simpa only [if_neg hb] using ho
    · rw [hget] at hd
      by_cases hb : b2 = b
      · subst hb; rw [hg]; simp
      · simpa only [if_neg hb] using hd
  · rw [World.size_setCell]; exact h.size

theorem Rel.set_cell {B : Nat} {ι : Plan} {H : Heap} {w : World} (h : Rel B ι H w) {b off : Nat} {c : List AV} {L : Loc} {x : AV} {v : Value}
    (hg : H.get b = .cells c .own) (hL : ι b = some L) (hoff : off < c.length) (hr : VR ι x v) :
    Rel B ι (H.set b (.cells (c.set off x) .own)) (w.setCell ⟨L.blk, L.base + off, none⟩ v) ∧ Below B w (w.setCell ⟨L.blk, L.base + off, none⟩ v) := by
  obtain ⟨o1, o2, o3⟩ := h.own b c L hg hL
  refine h.put_cell hg hL (by omega) hr (by simpa using o2) (fun i y hy hne => ?_) (fun y hy => ?_)
  · rw [List.getElem?_set, if_neg (Ne.symm hne)] at hy; exact hy
  · rw [List.getElem?_set, if_pos rfl, if_pos hoff] at hy; injection hy with hy; exact hy.symm

/-- A cell more. -/
theorem Rel.snoc_cell {B : Nat} {ι : Plan} {H : Heap} {w : World} (h : Rel B ι H w) {b : Nat} {c : List AV} {L : Loc} {x : AV} {v : Value}
    (hg : H.get b = .cells c .own) (hL : ι b = some L) (hoff : c.length < L.ext) (hr : VR ι x v) :
    Rel B ι (H.set b (.cells (c ++ [x]) .own)) (w.setCell ⟨L.blk, L.base + c.length, none⟩ v) ∧ Below B w (w.setCell ⟨L.blk, L.base + c.length, none⟩ v) := by
  refine h.put_cell hg hL hoff hr (by simp; omega) (fun i y hy hne => ?_) (fun y hy => ?_)
  · rw [List.getElem?_append] at hy
    split at hy
    · exact hy
    · rename_i hi
      rw [List.getElem?_singleton] at hy
      split at hy
      · omega
      · cases hy
  · rw [List.getElem?_append, if_neg (by omega)] at hy
    simp at hy; exact hy.symm

/-- A block is given up. -/
theorem Rel.kill {B : Nat} {ι : Plan} {H : Heap} {w : World} (h : Rel B ι H w) {b : Nat} (hb : b < H.size) : Rel B ι (H.set b .dead) w := by
  have hget : ∀ b', (H.set b .dead).get b' = if b' = b then .dead else H.get b' := fun b' => Heap.get_set _ _ _ _ hb
  constructor
  · exact h.dom
  · intro b' c u e; rw [hget] at e; split at e
    · cases e
    · exact h.live b' c u e
  · intro b' c L e; rw [hget] at e; split at e
    · cases e
    · exact h.own b' c L e
  · intro b' s p e; rw [hget] at e; split at e
    · cases e
    · exact h.iter b' s p e
  · intro b' es; rw [hget]; split
    · intro e; cases e
    · exact h.nomap b' es
  · intro b1 b2 L1 L2 hne ho hd e1 e2
    refine h.inj b1 b2 L1 L2 hne ?_ ?_ e1 e2
    · unfold Owned at *
      simp only [hget] at ho
      by_cases hb1 : b1 = b
      · simp [hb1] at ho
      · simpa only [if_neg hb1] using ho
    · rw [hget] at hd
      by_cases hb2 : b2 = b
      · simp [hb2] at hd
      · simpa only [if_neg hb2] using hd
  · exact h.size

/-- A piece of a block of its own goes on as a block: the rest is given up. -/
theorem Rel.move {B : Nat} {ι : Plan} {H : Heap} {w : World} (h : Rel B ι H w) {b off n : Nat} {c : List AV} {L : Loc}
    (hg : H.get b = .cells c .own) (hL : ι b = some L) (hn : off + n ≤ c.length) :
    ι.le (ι.add H.size ⟨L.blk, L.base + off, L.ext - off⟩) ∧ Rel B (ι.add H.size ⟨L.blk, L.base + off, L.ext - off⟩) ((H.set b .dead).push (.cells (rd c off n) .own)) w := by
  obtain ⟨o1, o2, o3⟩ := h.own b c L hg hL
  have hbs : b < H.size := (h.dom b L hL).1
  have hle : ι.le (ι.add H.size ⟨L.blk, L.base + off, L.ext - off⟩) := Plan.add_le _ (h.none_new (Nat.le_refl _))
  refine ⟨hle, ?_⟩
  have hget : ∀ b', ((H.set b .dead).push (.cells (rd c off n) .own)).get b' = if b' = H.size then .cells (rd c off n) .own else if b' = b then .dead else H.get b' := fun b' => by
    rw [Heap.get_push, Heap.size_set, Heap.get_set _ _ _ _ hbs]
  have hadd : ∀ b' L', (ι.add H.size ⟨L.blk, L.base + off, L.ext - off⟩) b' = some L' → (b' = H.size ∧ L' = ⟨L.blk, L.base + off, L.ext - off⟩) ∨ (b' ≠ H.size ∧ ι b' = some L') := by
    intro b' L' e
    by_cases hb' : b' = H.size
    · subst hb'; rw [Plan.add_self] at e; exact .inl ⟨rfl, by injection e with e; exact e.symm⟩
    · refine .inr ⟨hb', ?_⟩; simpa [Plan.add, hb'] using e
  have hown : Owned H b := .inl ⟨c, hg⟩
  constructor
  · intro b' L' e
    rcases hadd b' L' e with ⟨rfl, rfl⟩ | ⟨hne, e'⟩
    · exact ⟨by rw [Heap.size_push, Heap.size_set]; omega, (h.dom b L hL).2⟩
    · have := h.dom b' L' e'; exact ⟨by rw [Heap.size_push, Heap.size_set]; omega, this.2⟩
  · intro b' c' u e
    rw [hget] at e
    by_cases hb' : b' = H.size
    · subst hb'
      rw [if_pos rfl] at e; injection e with e1 e2; subst e1
      refine ⟨_, Plan.add_self _ _ _, fun i x hx => ?_⟩
      obtain ⟨L', hL', hx'⟩ := h.live b c .own hg
      rw [hL] at hL'; injection hL' with hL'; subst hL'
      simp only [rd, List.getElem?_take] at hx
      split at hx
      · rw [List.getElem?_drop] at hx
        obtain ⟨v, hv, hr⟩ := hx' (off + i) x hx
        exact ⟨v, by simp only [Nat.add_assoc]; exact hv, VR.mono hle _ _ hr⟩
      · cases hx
    · rw [if_neg hb'] at e
      split at e
      · cases e
      · obtain ⟨L', hL', hx⟩ := h.live b' c' u e
        exact ⟨L', hle _ _ hL', fun i x hi => let ⟨v, hv, hr⟩ := hx i x hi; ⟨v, hv, VR.mono hle _ _ hr⟩⟩
  · intro b' c' L' e hL'
    rw [hget] at e
    rcases hadd b' L' hL' with ⟨rfl, rfl⟩ | ⟨hne, e'⟩
    · rw [if_pos rfl] at e; injection e with e1 e2; subst e1
      refine ⟨o1, by simp [rd]; omega, fun i hi => ?_⟩
      simp only at hi
      have := o3 (off + i) (by omega)
      simp only [Nat.add_assoc]; exact this
    · rw [if_neg hne] at e
      split at e
      · cases e
      · exact h.own b' c' L' e e'
  · intro b' s p e
    rw [hget] at e
    split at e
    · cases e
    · split at e
      · cases e
      · obtain ⟨L', hL', r⟩ := h.iter b' s p e
        exact ⟨L', hle _ _ hL', r⟩
  · intro b' es
    rw [hget]
    split
    · intro e; cases e
    · split
      · intro e; cases e
      · exact h.nomap b' es
  · intro b1 b2 L1 L2 hne ho hd e1 e2
    have live2 : ∀ b', b' ≠ H.size → ((H.set b .dead).push (.cells (rd c off n) .own)).get b' ≠ .dead → b' ≠ b ∧ H.get b' ≠ .dead := by
      intro b' hb' hd'
      rw [hget, if_neg hb'] at hd'
      by_cases e : b' = b
      · rw [if_pos e] at hd'; exact absurd rfl hd'
      · rw [if_neg e] at hd'; exact ⟨e, hd'⟩
    have own2 : ∀ b', b' ≠ H.size → Owned ((H.set b .dead).push (.cells (rd c off n) .own)) b' → b' ≠ b ∧ Owned H b' := by
      intro b' hb' ho'
      unfold Owned at ho'
      simp only [hget, if_neg hb'] at ho'
      by_cases e : b' = b
      · simp [e] at ho'
      · simp only [if_neg e] at ho'; exact ⟨e, ho'⟩
    rcases hadd b1 L1 e1 with ⟨rfl, rfl⟩ | ⟨hb1, e1'⟩
    · rcases hadd b2 L2 e2 with ⟨rfl, rfl⟩ | ⟨hb2, e2'⟩
      · exact absurd rfl hne
      · obtain ⟨q1, q2⟩ := live2 b2 hb2 hd
        exact h.inj b b2 L L2 (Ne.symm q1) hown q2 hL e2'
    · obtain ⟨q1, q2⟩ := own2 b1 hb1 ho
      rcases hadd b2 L2 e2 with ⟨rfl, rfl⟩ | ⟨hb2, e2'⟩
      · exact h.inj b1 b L1 L q1 q2 (by rw [hg]; simp) e1' hL
      · obtain ⟨r1, r2⟩ := live2 b2 hb2 hd
        exact h.inj b1 b2 L1 L2 hne q2 r2 e1' e2'
  · exact h.size

theorem wr_length : ∀ (xs c : List AV) (off : Nat), (wr c off xs).length = c.length
  | [], _, _ => rfl
  | _ :: r, c, off => by simp [wr, wr_length r]

/-- Several cells, one behind the other. -/
theorem storeCells_sound {P : Program} {B : Nat} {ι : Plan} {b : Nat} {L : Loc} (hL : ι b = some L) :
    ∀ (xs : List AV) (vs : List Value) (H : Heap) (w : World) (c : List AV) (base off i : Nat), Rel B ι H w → H.get b = .cells c .own → VRs ι xs vs → xs.all AV.one = true →
      base + i + xs.length ≤ c.length → off = base + i →
      ∃ w', (storeCells ⟨L.blk, L.base + base, none⟩ vs i).run P w = .ok () w' ∧ Rel B ι (H.set b (.cells (wr c off xs) .own)) w' ∧ Below B w w'
  | [], vs, H, w, c, base, off, i, hR, hg, hv, _, _, _ => by
    have : vs = [] := hv
    subst this
    refine ⟨w, rfl, hR.congr (fun b' => ?_) rfl, Below.refl _ _⟩
    rw [Heap.get_set _ _ _ _ (hR.dom b L hL).1]
    by_cases e : b' = b
    · subst e; rw [if_pos rfl, hg]; rfl
    · rw [if_neg e]
  | x :: xs, vs, H, w, c, base, off, i, hR, hg, ⟨v, vs', e, hr, hrs⟩, hone, hlen, hoff => by
    subst e
    simp only [List.all_cons, Bool.and_eq_true] at hone
    simp only [List.length_cons] at hlen
    have hofl : off < c.length := by omega
    obtain ⟨h1, h2, h3⟩ := hR.own b c L hg hL
    obtain ⟨⟨u, hu⟩, hfz⟩ := h3 off (by omega)
    obtain ⟨hR', hB'⟩ := hR.set_cell hg hL hofl hr
    have hadd : (⟨L.blk, L.base + base, none⟩ : Addr).add i = ⟨L.blk, L.base + off, none⟩ := by
      unfold Addr.add
      split
      · simp; omega
      · simp; omega
    have hbs : b < H.size := (hR.dom b L hL).1
    have hg' : (H.set b (.cells (c.set off x) .own)).get b = .cells (c.set off x) .own := by rw [Heap.get_set _ _ _ _ hbs, if_pos rfl]
    obtain ⟨w', hrun, hR'', hB''⟩ := storeCells_sound hL xs vs' _ _ (c.set off x) base (off + 1) (i + 1) hR' hg' hrs hone.2 (by simp; omega) (by omega)
    refine ⟨w', ?_, hR''.congr (fun b' => ?_) rfl, hB'.trans hB''⟩
    · simp only [storeCells, hadd, Sem.run_bind, run_store P w _ v _ (hr.one hone.1), hu, hfz, Bool.false_eq_true, if_false, Result.andThen_ok]
      exact hrun
    · rw [Heap.get_set _ _ _ _ hbs, Heap.get_set _ _ _ _ (by rw [Heap.size_set]; exact hbs), Heap.get_set _ _ _ _ hbs]
      by_cases e : b' = b
      · rw [if_pos e, if_pos e]; rfl
      · rw [if_neg e, if_neg e, if_neg e]

/-- Several cells more. -/
theorem storeMore_sound {P : Program} {B : Nat} {ι : Plan} {b : Nat} {L : Loc} (hL : ι b = some L) :
    ∀ (xs : List AV) (vs : List Value) (H : Heap) (w : World) (c : List AV) (base i : Nat), Rel B ι H w → H.get b = .cells c .own → VRs ι xs vs → xs.all AV.one = true →
      base + i = c.length → c.length + xs.length ≤ L.ext →
      ∃ w', (storeCells ⟨L.blk, L.base + base, none⟩ vs i).run P w = .ok () w' ∧ Rel B ι (H.set b (.cells (c ++ xs) .own)) w' ∧ Below B w w'
  | [], vs, H, w, c, base, i, hR, hg, hv, _, _, _ => by
    have : vs = [] := hv
    subst this
    refine ⟨w, rfl, hR.congr (fun b' => ?_) rfl, Below.refl _ _⟩
    rw [Heap.get_set _ _ _ _ (hR.dom b L hL).1]
    by_cases e : b' = b
    · subst e; rw [if_pos rfl, hg, List.append_nil]
    · rw [if_neg e]
  | x :: xs, vs, H, w, c, base, i, hR, hg, ⟨v, vs', e, hr, hrs⟩, hone, hoff, hlen => by
    subst e
    simp only [List.all_cons, Bool.and_eq_true] at hone
    simp only [List.length_cons] at hlen
    obtain ⟨h1, h2, h3⟩ := hR.own b c L hg hL
    obtain ⟨⟨u, hu⟩, hfz⟩ := h3 c.length (by omega)
    obtain ⟨hR', hB'⟩ := hR.snoc_cell hg hL (by omega) hr
    have hadd : (⟨L.blk, L.base + base, none⟩ : Addr).add i = ⟨L.blk, L.base + c.length, none⟩ := by
      unfold Addr.add
      split
      · simp; omega
      · simp; omega
    have hbs : b < H.size := (hR.dom b L hL).1
    have hg' : (H.set b (.cells (c ++ [x]) .own)).get b = .cells (c ++ [x]) .own := by rw [Heap.get_set _ _ _ _ hbs, if_pos rfl]
    obtain ⟨w', hrun, hR'', hB''⟩ := storeMore_sound hL xs vs' _ _ (c ++ [x]) base (i + 1) hR' hg' hrs hone.2 (by simp; omega) (by simp; omega)
    refine ⟨w', ?_, hR''.congr (fun b' => ?_) rfl, hB'.trans hB''⟩
    · simp only [storeCells, hadd, Sem.run_bind, run_store P w _ v _ (hr.one hone.1), hu, hfz, Bool.false_eq_true, if_false, Result.andThen_ok]
      exact hrun
    · rw [Heap.get_set _ _ _ _ hbs, Heap.get_set _ _ _ _ (by rw [Heap.size_set]; exact hbs), Heap.get_set _ _ _ _ hbs]
      by_cases e : b' = b
      · rw [if_pos e, if_pos e, List.append_assoc]; rfl
      · rw [if_neg e, if_neg e, if_neg e]

/-- Several cells are read. -/
theorem loadCells_sound2 {P : Program} {B : Nat} {ι : Plan} {b : Nat} {L : Loc} {H : Heap} {w : World} {c : List AV} {u : Use} (hL : ι b = some L) (hR : Rel B ι H w) (hg : H.get b = .cells c u)
    (off n : Nat) (hn : off + n ≤ c.length) : ∃ vs, ((loadCells ⟨L.blk, L.base + off, none⟩ n).run P w = .ok vs w ∧ (loadCells ⟨L.blk, L.base + off, none⟩ n).run P w.drew = .ok vs w.drew) ∧ VRs ι (rd c off n) vs.toList := by
  obtain ⟨L', hL', hx⟩ := hR.live b c u hg
  rw [hL] at hL'; injection hL' with hL'; subst hL'
  have hf : ∀ j, j < n → ∃ v, w.cell? ⟨L.blk, L.base + (off + j), none⟩ = some v ∧ ∀ x, c[off + j]? = some x → VR ι x v := by
    intro j hj
    have hlt : off + j < c.length := by omega
    obtain ⟨v, hv, hr⟩ := hx (off + j) c[off + j] (List.getElem?_eq_getElem hlt)
    exact ⟨v, hv, fun x hx' => by rw [List.getElem?_eq_getElem hlt] at hx'; injection hx' with hx'; subst hx'; exact hr⟩
  let g : Nat → Value := fun j => (w.cell? ⟨L.blk, L.base + (off + j), none⟩).getD undef
  have hadd : ∀ j, (⟨L.blk, L.base + off, none⟩ : Addr).add j = ⟨L.blk, L.base + (off + j), none⟩ := by
    intro j; unfold Addr.add; split
    · simp; omega
    · simp; omega
  have hrun := run_loadCells (P := P) w ⟨L.blk, L.base + off, none⟩ n g (fun j hj => by
    rw [hadd]; obtain ⟨v, hv, _⟩ := hf j hj; simp [g, hv])
  have hrun2 := run_loadCells (P := P) w.drew ⟨L.blk, L.base + off, none⟩ n g (fun j hj => by
    rw [hadd, World.cell?_drew]; obtain ⟨v, hv, _⟩ := hf j hj; simp [g, hv])
  refine ⟨_, ⟨hrun, hrun2⟩, VRs.intro (by simp [rd]; omega) fun i x hi => ?_⟩
  simp only [rd] at hi
  rw [List.getElem?_take] at hi
  split at hi
  · rename_i hin
    rw [List.getElem?_drop] at hi
    obtain ⟨v, hv, hr⟩ := hf i hin
    exact ⟨g i, by simp [hin], by simp [g, hv]; exact hr x hi⟩
  · cases hi
theorem loadCells_sound {P : Program} {B : Nat} {ι : Plan} {b : Nat} {L : Loc} {H : Heap} {w : World} {c : List AV} {u : Use} (hL : ι b = some L) (hR : Rel B ι H w) (hg : H.get b = .cells c u)
    (off n : Nat) (hn : off + n ≤ c.length) : ∃ vs, (loadCells ⟨L.blk, L.base + off, none⟩ n).run P w = .ok vs w ∧ VRs ι (rd c off n) vs.toList :=
  let ⟨vs, h, r⟩ := loadCells_sound2 (P := P) hL hR hg off n hn
  ⟨vs, h.1, r⟩
end Go.Ev

/- The checker: an operation of the abstract machine is the model's; and the soundness of each simple operation. -/
namespace Go.Ev
open Go Go.RowKit

mutual
/-- A constant without addresses. -/
def constV : AV → Value → Bool
  | .int k n, .int k' n' => decide (k = k') && decide (n = n')
  | .bool b, .bool b' => b == b'
  | .str s, .string t => s == t.data.toList
  | .nilp, .pointer none => true
  | .nils, .slice none 0 0 => true
  | .nilm, .map none => true
  | .nilf, .nilFunc => true
  | .nili, .nilIface => true
  | .fn f [], .func (.func f') first cap => f == f' && first.isEmpty && cap.isEmpty
  | .iface t x, .iface t' y => t == t' && constV x y
  | .agg l, .agg vs => constVs l vs.toList
  | .tup l, .tuple vs => constVs l vs.toList
  | _, _ => false
def constVs : List AV → List Value → Bool
  | [], [] => true
  | x :: l, v :: vs => constV x v && constVs l vs
  | _, _ => false
end

theorem empty_of_isEmpty {α : Type} {a : Array α} (h : a.isEmpty = true) : a = #[] := by simpa using h

mutual
theorem constV_sound (ι : Plan) : ∀ (x : AV) (v : Value), constV x v = true → VR ι x v
  | .int k n, v, h => by
    cases v <;> simp [constV] at h
    obtain ⟨rfl, rfl⟩ := h; rfl
  | .bool b, v, h => by
    cases v <;> simp [constV] at h
    subst h; rfl
  | .str s, v, h => by
    cases v with
    | string t => simp [constV] at h; subst h; rfl
    | _ => simp [constV] at h
  | .ptr _ _, v, h => by cases v <;> simp [constV] at h
  | .nilp, v, h => by
    cases v with
    | pointer a => cases a with
      | none => rfl
      | some _ => simp [constV] at h
    | _ => simp [constV] at h
  | .slice _ _ _ _, v, h => by cases v <;> simp [constV] at h
  | .osl _ _ _ _, v, h => by cases v <;> simp [constV] at h
  | .nils, v, h => by
    cases v with
    | slice a n c =>
      cases a with
      | none =>
        cases n with
        | zero => cases c with
          | zero => rfl
          | succ _ => simp [constV] at h
        | succ _ => simp [constV] at h
      | some _ => simp [constV] at h
    | _ => simp [constV] at h
  | .map _, v, h => by cases v <;> simp [constV] at h
  | .nilm, v, h => by
    cases v with
    | map a => cases a with
      | none => rfl
      | some _ => simp [constV] at h
    | _ => simp [constV] at h
  | .fn f cap, v, h => by
    cases cap with
    | nil =>
      cases v with
      | func fn first c =>
        cases fn with
        | func f' =>
          simp only [constV, Bool.and_eq_true, beq_iff_eq] at h
          obtain ⟨⟨rfl, h1⟩, h2⟩ := h
          rw [empty_of_isEmpty h1, empty_of_isEmpty h2]
          exact ⟨#[], rfl, rfl⟩
        | _ => simp [constV] at h
      | _ => simp [constV] at h
    | cons _ _ => cases v <;> simp [constV] at h
  | .nilf, v, h => by
    cases v with
    | nilFunc => rfl
    | _ => simp [constV] at h
  | .iface t x, v, h => by
    cases v with
    | iface t' y =>
      simp only [constV, Bool.and_eq_true, beq_iff_eq] at h
      obtain ⟨rfl, h2⟩ := h
      exact ⟨y, rfl, constV_sound ι x y h2⟩
    | _ => simp [constV] at h
  | .nili, v, h => by
    cases v with
    | nilIface => rfl
    | _ => simp [constV] at h
  | .agg l, v, h => by
    cases v with
    | agg vs => exact ⟨vs, rfl, constVs_sound ι l _ (by simpa [constV] using h)⟩
    | _ => simp [constV] at h
  | .tup l, v, h => by
    cases v with
    | tuple vs => exact ⟨vs, rfl, constVs_sound ι l _ (by simpa [constV] using h)⟩
    | _ => simp [constV] at h
theorem constVs_sound (ι : Plan) : ∀ (l : List AV) (vs : List Value), constVs l vs = true → VRs ι l vs
  | [], vs, h => by
    cases vs with
    | nil => rfl
    | cons _ _ => simp [constVs] at h
  | x :: l, vs, h => by
    cases vs with
    | nil => simp [constVs] at h
    | cons v vs =>
      simp only [constVs, Bool.and_eq_true] at h
      exact ⟨v, vs, rfl, constV_sound ι x v h.1, constVs_sound ι l vs h.2⟩
end

/-- What a check goes by: the program, which slots persist, how many slots there are. -/
structure Cx where
  P : Program
  ps : List Nat
  n : Nat

def chkOpd (X : Cx) : Operand → Opd → Bool
  | .tmp i, .p j => i == j && X.ps.contains i
  | .tmp i, .t j => i == j && !X.ps.contains i
  | .const v, .c x => constV x v
  | .global g, .g h => g == h && decide (g < X.P.globals.size)
  | .func f, .f h => f == h
  | _, _ => false

def chkOpds (X : Cx) : List Operand → List Opd → Bool
  | [], [] => true
  | x :: l, y :: m => chkOpd X x y && chkOpds X l m
  | _, _ => false

def chkOpt (X : Cx) : Option Operand → Option Opd → Bool
  | none, none => true
  | some x, some y => chkOpd X x y
  | _, _ => false

def chkDst (X : Cx) : Option Tmp → Dst → Bool
  | none, .no => true
  | some i, .p j => i == j && X.ps.contains i && decide (i < X.n)
  | some i, .t j => i == j && !X.ps.contains i && decide (i < X.n)
  | _, _ => false

def tySize (P : Program) (t : TypeId) : Option Nat := (P.info? t).map (·.size)
def tyBytes (P : Program) (t : TypeId) : Option Nat := (P.info? t).map (·.bytes)
def tyZero (P : Program) (t : TypeId) : Option Value := (P.info? t).bind (·.zero)
def tyAgg (P : Program) (t : TypeId) : Option Bool :=
  match P.underlying t with
  | some (.struct _) => some true
  | some (.array _ _) => some true
  | some _ => some false
  | none => none

/-- The parts of a literal: where each goes, how many cells it has. -/
def chkParts (X : Cx) (place : Nat → Option (Nat × Nat)) : List (Nat × Operand) → List (Nat × Nat × Opd) → Bool
  | [], [] => true
  | (i, x) :: l, (off, sz, y) :: m => decide (place i = some (off, sz)) && chkOpd X x y && chkParts X place l m
  | _, _ => false

def fieldPlaces (P : Program) (fs : Array Field) : Option (List (Nat × Nat)) := fs.toList.mapM fun f => (tySize P f.type).map fun n => (f.offset, n)

def scalarTy (P : Program) (t : TypeId) : Option SK :=
  match P.underlying t with
  | some .bool => some .b
  | some (.int _) => some .i
  | some .string => some .s
  | _ => none

def eqOffs (P : Program) : List Field → Option (List (Nat × SK))
  | [] => some []
  | f :: r => match eqOffs P r with
    | none => none
    | some l => if f.name ≠ "_" then (match scalarTy P f.type with | some k => some ((f.offset, k) :: l) | none => none) else some l

def isElemInt (P : Program) (e : TypeId) (k : IntKind) : Bool :=
  match P.underlying e with
  | some (.int j) => decide (j = k)
  | _ => false

def eqOp : BinOp → Bool → Bool
  | .eql, neg => !neg
  | .neq, neg => neg
  | _, _ => false

def eqKOk (P : Program) (ty : TypeId) (k : EqK) : Bool :=
  match k, P.underlying ty with
  | .bool, some .bool => true
  | .ptr, some (.pointer _) => true
  | .slice, some (.slice _) => true
  | .map, some (.map _ _) => true
  | .func, some (.func _ _ _) => true
  | .iface, some (.interface _) => true
  | .agg l, some (.struct fs) => (!P.eqGuardType P.depth ty) && (!P.stoodInHeld ty) && decide (eqOffs P fs.toList = some l)
  | _, _ => false

def notIface (P : Program) (t : TypeId) : Bool :=
  match P.underlying t with
  | some (.interface _) => false
  | some _ => true
  | none => false

def okZero (P : Program) (t : TypeId) : Bool → Option AV → Bool
  | true, some z => (match tyZero P t with | some v => constV z v | none => false)
  | false, none => true
  | _, _ => false

def isIntTo (P : Program) (s d : TypeId) (k : IntKind) : Bool :=
  match P.underlying s, P.underlying d with
  | some _, some (.int k') => decide (k = k')
  | _, _ => false

def isIdxByte (P : Program) (f : FuncId) : Bool :=
  match P.funcs[f]? with
  | some fn => fn.body.isNone && (fn.name == "internal/bytealg.IndexByteString") && (fn.origin == "")
  | none => false

def isC : Operand → Bool
  | .const _ => true
  | _ => false
/-- Interfaces: one of the two is a constant. -/
def ifcK : EqK → Operand → Operand → Bool
  | .iface, x, y => isC x || isC y
  | _, _, _ => true

def chkOp (X : Cx) (op : Op) (c : COp) : Bool :=
  match op, c with
  | .move x, .mov y => chkOpd X x y
  | .assign x, .mov y => chkOpd X x y
  | .pick c a b, .pick c' a' b' => chkOpd X c c' && chkOpd X a a' && chkOpd X b b'
  | .alloc e, .alloc z => (match tyZero X.P e with | some v => constVs z v.cells.toList | none => false)
  | .box _ x, .box y => chkOpd X x y
  | .build t ps, .build z qs => (match tyZero X.P t with | some v => constVs z v.cells.toList | none => false) &&
    (match X.P.underlying t with
     | some (.struct fs) => (match fieldPlaces X.P fs with | some pl => chkParts X (pl[·]?) ps.toList qs | none => false)
     | some (.array _ e) => (match tySize X.P e with | some s => chkParts X (fun i => some (i * s, s)) ps.toList qs | none => false)
     | _ => false)
  | .buildSlice t len ps, .lit z n qs => len == n &&
    (match X.P.underlying t with
     | some (.slice e) => (match tySize X.P e, tyZero X.P e with
       | some s, some zv => decide (len * s ≤ 16777216) && constVs z ((List.range (len * s)).map fun i => zv.cells.getD (i % zv.cells.size) undef) && decide (0 < zv.cells.size) && chkParts X (fun i => some (i * s, s)) ps.toList qs
       | _, _ => false)
     | _ => false)
  | .load t x, .load1 y => (tyAgg X.P t == some false) && chkOpd X x y
  | .load t x, .loadN n y => (tyAgg X.P t == some true) && (tySize X.P t == some n) && chkOpd X x y
  | .store t a x, .store n b y => (tySize X.P t == some n) && chkOpd X a b && chkOpd X x y
  | .nilCheck x, .nilCheck y => chkOpd X x y
  | .binOp op _ x y _, .bin op' x' y' => decide (op = op') && chkOpd X x x' && chkOpd X y y'
  | .binOp op t x y _, .eqv neg k x' y' => eqOp op neg && chkOpd X x x' && chkOpd X y y' && eqKOk X.P t k && ifcK k x y
  | .unOp op _ x, .un op' y => decide (op = op') && chkOpd X x y
  | .convert s d x, .convI k y => isIntTo X.P s d k && chkOpd X x y
  | .convert s d x, .strStr y => (match X.P.underlying s, X.P.underlying d with | some _, some .string => true | _, _ => false) && chkOpd X x y
  | .convert s d x, .intStr y => (match X.P.underlying s, X.P.underlying d with | some _, some .string => true | _, _ => false) && chkOpd X x y
  | .convert s d x, .strBytes y => (match X.P.underlying s, X.P.underlying d with | some _, some (.slice e) => isElemInt X.P e .u8 | _, _ => false) && chkOpd X x y
  | .convert s d x, .bytesStr y => (match X.P.underlying s, X.P.underlying d with | some (.slice e), some .string => isElemInt X.P e .u8 | _, _ => false) && chkOpd X x y
  | .makeInterface t x, .mkIface t' y => t == t' && notIface X.P t && chkOpd X x y
  | .makeFunc (.func f) first caps, .mkFn f' caps' => f == f' && first.isEmpty && chkOpds X caps.toList caps'
  | .makeSlice t l c, .mkSlice z bytes l' c' => chkOpd X l l' && chkOpd X c c' &&
    (match X.P.underlying t with
     | some (.slice e) => (match tySize X.P e, tyZero X.P e with
       | some s, some zv => (tyBytes X.P e == some bytes) && constVs z zv.cells.toList && s == zv.cells.size && decide (0 < s)
       | _, _ => false)
     | _ => false)
  | .slice t x lo hi mx, .sliceStr y lo' hi' => (match X.P.underlying t with | some .string => true | _ => false) && chkOpd X x y && chkOpt X lo lo' && chkOpt X hi hi' && mx.isNone
  | .slice t x lo hi mx, .sliceSl sz y lo' hi' mx' => (match X.P.underlying t with | some (.slice e) => tySize X.P e == some sz | _ => false) && chkOpd X x y && chkOpt X lo lo' && chkOpt X hi hi' && chkOpt X mx mx' && (mx.isNone || hi.isSome)
  | .slice t x lo hi mx, .sliceArr n sz y lo' hi' mx' => (match X.P.underlying t with | some (.array n' e) => n' == n && tySize X.P e == some sz | _ => false) && chkOpd X x y && chkOpt X lo lo' && chkOpt X hi hi' && chkOpt X mx mx' && (mx.isNone || hi.isSome)
  | .fieldAddr s x f, .fieldAddr off y => (match X.P.underlying s with
     | some (.struct fs) => (match fs[f]? with
       | some fd => fd.offset == off && (match tySize X.P fd.type with | some n => decide (0 < n) | none => false)
       | none => false)
     | _ => false) && chkOpd X x y
  | .field s x f, .field1 off y => (match X.P.underlying s with
     | some (.struct fs) => (match fs[f]? with
       | some fd => fd.offset == off && (tyAgg X.P fd.type == some false)
       | none => false)
     | _ => false) && chkOpd X x y
  | .field s x f, .fieldN off n y => (match X.P.underlying s with
     | some (.struct fs) => (match fs[f]? with
       | some fd => fd.offset == off && (tyAgg X.P fd.type == some true) && (tySize X.P fd.type == some n)
       | none => false)
     | _ => false) && chkOpd X x y
  | .indexAddr t x i, .idxAddr sz x' i' => (match X.P.underlying t with | some (.slice e) => tySize X.P e == some sz | _ => false) && chkOpd X x x' && chkOpd X i i'
  | .indexAddr t x i, .idxArr n sz x' i' => (match X.P.underlying t with | some (.array n' e) => n' == n && tySize X.P e == some sz | _ => false) && chkOpd X x x' && chkOpd X i i'
  | .index t x i, .idxStr x' i' => (match X.P.underlying t with | some .string => true | _ => false) && chkOpd X x x' && chkOpd X i i'
  | .index t x i, .idxAgg n x' i' => (match X.P.underlying t with | some (.array n' e) => n' == n && tySize X.P e == some 1 && (tyAgg X.P e == some false) | _ => false) && chkOpd X x x' && chkOpd X i i'
  | .extract x i, .extract y j => i == j && chkOpd X x y
  | .call { callee := .builtin b, args, argTypes }, c => (match b, c with
     | .len, .lenStr y => (match (argTypes[0]?).bind X.P.underlying with | some .string => true | _ => false) && chkOpds X args.toList [y]
     | .len, .lenSl y => (match (argTypes[0]?).bind X.P.underlying with | some (.slice _) => true | _ => false) && chkOpds X args.toList [y]
     | .cap, .capSl y => (match (argTypes[0]?).bind X.P.underlying with | some (.slice _) => true | _ => false) && chkOpds X args.toList [y]
     | .append, .append sz bytes x y => chkOpds X args.toList [x, y] && decide (0 < sz) &&
       (match argTypes.toList with
        | [t0, t1] => (match X.P.underlying t0, X.P.underlying t1 with
          | some (.slice e), some (.slice _) => (tySize X.P e == some sz) && (tyBytes X.P e == some bytes) && decide (0 < bytes) && (match tyZero X.P e with | some zv => zv.cells.size == sz | none => false)
          | _, _ => false)
        | _ => false)
     | .append, .appendStr x y => chkOpds X args.toList [x, y] &&
       (match argTypes.toList with
        | [t0, t1] => (match X.P.underlying t0, X.P.underlying t1 with
          | some (.slice e), some .string => (tySize X.P e == some 1) && (tyBytes X.P e == some 1) && (match tyZero X.P e with | some zv => zv.cells.size == 1 | none => false)
          | _, _ => false)
        | _ => false)
     | .append, .appendZ z bytes x y => chkOpds X args.toList [x, y] && decide (0 < z.length) &&
       (match argTypes.toList with
        | [t0, t1] => (match X.P.underlying t0, X.P.underlying t1 with
          | some (.slice e), some (.int _) => (tySize X.P e == some z.length) && (tyBytes X.P e == some bytes) && decide (0 < bytes) && z.all AV.one && (match tyZero X.P e with | some zv => constVs z zv.cells.toList | none => false)
          | _, _ => false)
        | _ => false)
     | .min, .minmax mx ys => !mx && chkOpds X args.toList ys
     | .max, .minmax mx ys => mx && chkOpds X args.toList ys
     | .recover, .recover => true
     | .panic, .panic y => chkOpds X args.toList [y]
     | _, _ => false)
  | .typeAssert x _ t ok, .assert t' zero y => t == t' && chkOpd X x y && notIface X.P t && okZero X.P t ok zero
  | .range t x, .rangeStr y => (match X.P.underlying t with | some .string => true | _ => false) && chkOpd X x y
  | .next x s, .nextStr y => s && chkOpd X x y
  | .call { callee := .value (.func f), args, .. }, .idxByte x y => chkOpds X args.toList [x, y] && isIdxByte X.P f
  | .call { callee := .value (.func f), args, .. }, .call f' args' => f == f' && chkOpds X args.toList args'
  | .call { callee := .value (.func f), args, .. }, .callP g f' args' => f == f' && chkOpds X args.toList args' && g == X.P.globals.size
  | .call { callee := .value x, args, .. }, .callV y args' => chkOpd X x y && chkOpds X args.toList args'
  | .defer { callee := .value x, args, .. }, .dfr y args' => chkOpd X x y && chkOpds X args.toList args'
  | .panic x, .panic y => chkOpd X x y
  | _, _ => false
end Go.Ev
