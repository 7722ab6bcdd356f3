/- The abstract machine: its code, and how it runs. -/
import Derived.Test.YtifhmogcdgfojaaGreatDoorT01
set_option linter.unusedSimpArgs false
set_option linter.unusedVariables false
namespace Go.Ev
open Go

inductive Opd where
  | p (i : Nat)
  | t (i : Nat)
  | c (v : AV)
  | g (n : Nat)
  | f (n : FuncId)
  deriving Inhabited

inductive Dst where
  | no
  | p (i : Nat)
  | t (i : Nat)

/-- Plain cells: bools, whole numbers, texts. -/
inductive SK where
  | b | i | s
  deriving DecidableEq

/-- What two values that are compared are, where they are neither two numbers nor two texts. -/
inductive EqK where
  | bool | ptr | slice | map | func | iface
  | agg (fs : List (Nat × SK))

/-- Operations of the library's inner parts. -/
inductive ExtK where
  | same | peq (neg : Bool) | sdata | ustr (e : TypeId) | mknz (e : TypeId) | apps (e : TypeId) | appb (e : TypeId) | copy0
  | toU | fromU (e s : Nat) | stT | allocT (e : TypeId) (z : List AV)
  | mkmap | lookup (ok : Bool) (z : AV) | mapset

inductive COp where
  | mov (x : Opd)
  | pick (c a b : Opd)
  | alloc (z : List AV)
  | box (x : Opd)
  | build (z : List AV) (parts : List (Nat × Nat × Opd))
  | lit (z : List AV) (n : Nat) (parts : List (Nat × Nat × Opd))
  | load1 (x : Opd)
  | loadN (n : Nat) (x : Opd)
  | store (n : Nat) (a x : Opd)
  | nilCheck (x : Opd)
  | bin (op : BinOp) (x y : Opd)
  | eqv (neg : Bool) (k : EqK) (x y : Opd)
  | un (op : UnOp) (x : Opd)
  | convI (k : IntKind) (x : Opd)
  | strStr (x : Opd)
  | intStr (x : Opd)
  | strBytes (x : Opd)
  | bytesStr (x : Opd)
  | mkIface (t : TypeId) (x : Opd)
  | mkFn (f : FuncId) (caps : List Opd)
  | mkSlice (z : List AV) (bytes : Nat) (l c : Opd)
  | sliceStr (x : Opd) (lo hi : Option Opd)
  | sliceSl (sz : Nat) (x : Opd) (lo hi mx : Option Opd)
  | sliceArr (n sz : Nat) (x : Opd) (lo hi mx : Option Opd)
  | fieldAddr (off : Nat) (x : Opd)
  | field1 (off : Nat) (x : Opd)
  | fieldN (off n : Nat) (x : Opd)
  | idxAddr (sz : Nat) (x i : Opd)
  | idxArr (n sz : Nat) (x i : Opd)
  | idxStr (x i : Opd)
  | idxAgg (n : Nat) (x i : Opd)
  | extract (x : Opd) (i : Nat)
  | lenStr (x : Opd)
  | lenSl (x : Opd)
  | capSl (x : Opd)
  | append (sz bytes : Nat) (x y : Opd)
  | appendStr (x y : Opd)
  | appendZ (z : List AV) (bytes : Nat) (x n : Opd)
  | minmax (mx : Bool) (xs : List Opd)
  | assert (t : TypeId) (zero : Option AV) (x : Opd)
  | rangeStr (x : Opd)
  | nextStr (x : Opd)
  | idxByte (x y : Opd)
  | ext (k : ExtK) (xs : List Opd)
  -- what follows is no simple operation
  | call (f : FuncId) (args : List Opd)
  /-- A call that asks for no memory. `g`: how many globals there are. -/
  | callP (g : Nat) (f : FuncId) (args : List Opd)
  /-- A call that asks for no memory but makes some. -/
  | callQ (g : Nat) (f : FuncId) (args : List Opd)
  | callV (f : Opd) (args : List Opd)
  | dfr (f : Opd) (args : List Opd)
  | panic (x : Opd)
  | recover

structure Cop where
  dst : Dst
  op : COp
  guard : Option (Opd × Bool)

/-- An operation of a region that draws its order. `lg`: a later one, not ordered behind it, asks for it; `tl`: a store at the end of the region; `u`: the earlier ones that it asks for. -/
structure DCop where
  c : Cop
  lg : Bool
  tl : Bool
  u : List Nat

inductive CCode where
  | skip
  | stuck
  | reg (ops : List Cop)
  | dreg (ops : List DCop)
  | seq (a b : CCode)
  | cond (c : Opd) (a b : CCode)
  | block (id : Nat) (live : List Nat) (body : CCode)
  | loop (live : List Nat) (body : CCode)
  | exit (id : Nat)
  | ret

inductive CRes where
  | slot (i : Nat)
  | cell1 (i : Nat)
  | cellN (i n : Nat)

structure CFunc where
  nargs : Nat
  ps : List Nat
  results : List CRes
  body : CCode

/-- What is behind a deferred function's frame: nothing that it may ask; a caller that returns; one that panics, with what. -/
inductive Up where
  | norm
  | ret
  | pan (chain : List (AV × Bool))
  deriving Inhabited

structure St where
  p : List (Nat × AV)
  t : List (Nat × AV)
  H : Heap
  d : List (FuncId × List AV)
  u : Up
  deriving Inhabited

inductive Ctl where
  | normal
  | exit (id : Nat)
  | ret
  | panic (chain : List (AV × Bool))

inductive End where
  | ret (v : AV)
  | pan (chain : List (AV × Bool))

def lk (i : Nat) : List (Nat × AV) → Option AV
  | [] => none
  | (j, v) :: r => if i = j then some v else lk i r

def up (i : Nat) (v : AV) : List (Nat × AV) → List (Nat × AV)
  | [] => [(i, v)]
  | (j, x) :: r => if i = j then (j, v) :: r else (j, x) :: up i v r

/-- The slots that live on, in the order of `live`. -/
def keep (live : List Nat) (l : List (Nat × AV)) : List (Nat × AV) :=
  match live with
  | [] => []
  | i :: r => match lk i l with
    | some v => (i, v) :: keep r l
    | none => keep r l

def undefA : AV := .tup []

def rho (p t : List (Nat × AV)) : Opd → Option AV
  | .p i => lk i p
  | .t i => lk i t
  | .c v => some v
  | .g n => some (.ptr n 0)
  | .f n => some (.fn n [])

def rhos (p t : List (Nat × AV)) : List Opd → Option (List AV)
  | [] => some []
  | x :: r => match rho p t x with
    | none => none
    | some v => match rhos p t r with
      | none => none
      | some l => some (v :: l)

def St.put (σ : St) (d : Dst) (v : AV) : St :=
  match d with
  | .no => σ
  | .p i => { σ with p := up i v σ.p }
  | .t i => { σ with t := (i, v) :: σ.t }

def St.keep (σ : St) (live : List Nat) : St := { σ with p := Ev.keep live σ.p, t := [] }

/-- Cells written one behind the other. -/
def wr (c : List AV) (off : Nat) : List AV → List AV
  | [] => c
  | v :: r => wr (c.set off v) (off + 1) r

def rd (c : List AV) (off n : Nat) : List AV := (c.drop off).take n

def fillA (ρ : Opd → Option AV) (cells : List AV) : List (Nat × Nat × Opd) → Option (List AV)
  | [] => some cells
  | (off, sz, x) :: r =>
    match ρ x with
    | none => none
    | some v => if v.cells.length = sz ∧ off + sz ≤ cells.length then fillA ρ (wr cells off v.cells) r else none

def intBin (op : BinOp) (k : IntKind) (a b : Int) : Option AV :=
  match op with
  | .add => some (.int k (k.wrap (a + b)))
  | .sub => some (.int k (k.wrap (a - b)))
  | .mul => some (.int k (k.wrap (a * b)))
  | .quo => if b = 0 then none else some (.int k (k.wrap (a.tdiv b)))
  | .rem => if b = 0 then none else some (.int k (a.tmod b))
  | .and => some (.int k (k.wrap (BitVec.ofInt k.bits a &&& BitVec.ofInt k.bits b).toNat))
  | .or => some (.int k (k.wrap (BitVec.ofInt k.bits a ||| BitVec.ofInt k.bits b).toNat))
  | .xor => some (.int k (k.wrap (BitVec.ofInt k.bits a ^^^ BitVec.ofInt k.bits b).toNat))
  | .andNot => some (.int k (k.wrap (BitVec.ofInt k.bits a &&& ~~~BitVec.ofInt k.bits b).toNat))
  | .eql => some (.bool (decide (a = b)))
  | .neq => some (.bool (!decide (a = b)))
  | .lss => some (.bool (decide (a < b)))
  | .leq => some (.bool (decide (a ≤ b)))
  | .gtr => some (.bool (decide (b < a)))
  | .geq => some (.bool (decide (b ≤ a)))
  | _ => none

def shiftA (op : BinOp) (k : IntKind) (a b : Int) : Option AV :=
  if b < 0 then none else
  match op with
  | .shl => some (.int k (k.wrap (a * 2 ^ (min b.toNat k.bits))))
  | .shr => some (.int k (a.fdiv (2 ^ (min b.toNat k.bits))))
  | _ => none

def strBin (op : BinOp) (a b : List UInt8) : Option AV :=
  match op with
  | .add => if a.length + b.length ≤ 1099511627776 then some (.str (a ++ b)) else none
  | .eql => some (.bool (decide (a = b)))
  | .neq => some (.bool (!decide (a = b)))
  | .lss => some (.bool (Op.bytesLess a b))
  | .leq => some (.bool (Op.bytesLess a b || decide (a = b)))
  | .gtr => some (.bool (!(Op.bytesLess a b || decide (a = b))))
  | .geq => some (.bool (!Op.bytesLess a b))
  | _ => none

def isShift : BinOp → Bool
  | .shl => true
  | .shr => true
  | _ => false

def binA (op : BinOp) : AV → AV → Option AV
  | .int k a, .int k' b => if isShift op then shiftA op k a b else if k = k' then intBin op k a b else none
  | .str a, .str b => strBin op a b
  | _, _ => none

/-- Two cells of plain data: are they the same? -/
def eqCell : SK → AV → AV → Option Bool
  | .i, .int k a, .int k' b => if k = k' then some (decide (a = b)) else none
  | .s, .str a, .str b => some (decide (a = b))
  | .b, .bool a, .bool b => some (decide (a = b))
  | _, _, _ => none

def eqCells (xs ys : List AV) : List (Nat × SK) → Option Bool
  | [] => some true
  | (i, k) :: r => match xs[i]?, ys[i]? with
    | some x, some y => match eqCell k x y with
      | none => none
      | some false => some false
      | some true => eqCells xs ys r
    | _, _ => none

def eqA : EqK → AV → AV → Option Bool
  | .bool, .bool a, .bool b => some (decide (a = b))
  | .ptr, .nilp, .nilp => some true
  | .ptr, .nilp, .ptr _ _ => some false
  | .ptr, .ptr _ _, .nilp => some false
  | .slice, .nils, .nils => some true
  | .slice, .nils, .slice _ _ _ _ => some false
  | .slice, .slice _ _ _ _, .nils => some false
  | .slice, .nils, .osl _ _ _ _ => some false
  | .slice, .osl _ _ _ _, .nils => some false
  | .map, .nilm, .nilm => some true
  | .map, .nilm, .map _ => some false
  | .map, .map _, .nilm => some false
  | .func, .nilf, .nilf => some true
  | .func, .nilf, .fn _ _ => some false
  | .func, .fn _ _, .nilf => some false
  | .iface, .nili, .nili => some true
  | .iface, .iface _ _, .nili => some false
  | .iface, .nili, .iface _ _ => some false
  | .agg fs, .agg xs, .agg ys => eqCells xs ys fs
  | _, _, _ => none

def unA : UnOp → AV → Option AV
  | .neg, .int k n => some (.int k (k.wrap (0 - n)))
  | .xor, .int k n => some (.int k (k.wrap (BitVec.ofInt k.bits (if k.signed then -1 else k.max) ^^^ BitVec.ofInt k.bits n).toNat))
  | .not, .bool b => some (.bool (!b))
  | _, _ => none

/-- A bound: an index from 0 to `y`. -/
def bnd (ρ : Opd → Option AV) (y : Nat) : Option Opd → Nat → Option Nat
  | none, d => some d
  | some x, _ => match ρ x with
    | some (.int _ i) => if 0 ≤ i ∧ i ≤ y then some i.toNat else none
    | _ => none

def bytesOf : List AV → Option (List UInt8)
  | [] => some []
  | .int .u8 n :: r => (bytesOf r).map (UInt8.ofNat n.toNat :: ·)
  | _ => none

def byteCells (s : List UInt8) : List AV := s.map fun b => .int .u8 b.toNat

/-- The elements of a slice: their cells. -/
def readSl (H : Heap) (sz : Nat) : AV → Option (Nat × List AV)
  | .nils => some (0, [])
  | .slice b off n _ => if n = 0 then some (0, []) else match H.get b with
    | .cells c _ => if off + n * sz ≤ c.length then some (n, rd c off (n * sz)) else none
    | _ => none
  | .osl s b off n => if s = sz then (if n = 0 then some (0, []) else match H.get b with
    | .cells c _ => if off + n * sz ≤ c.length then some (n, rd c off (n * sz)) else none
    | _ => none) else none
  | _ => none

def zeros (z : List AV) (n : Nat) : List AV := (List.range n).map fun i => z.getD (i % z.length) undefA

/-- append: the new cells `ys` are `n` elements. -/
def appendA (H : Heap) (sz bytes : Nat) (x : AV) (n : Nat) (ys : List AV) : Option (AV × Heap) :=
  if n = 0 then (match x with
    | .nils => some (.nils, H)
    | .slice b off len cap => if len ≤ cap then some (.slice b off len cap, H) else none
    | .osl s b off len => some (.osl s b off len, H)
    | _ => none) else
  match x with
  | .nils => if n * bytes ≤ 1099511627776 ∧ n ≤ 1099511627776 then some (.osl sz H.size 0 n, H.push (.cells ys .own)) else none
  | .slice b off len cap =>
    if len + n ≤ cap then
      match H.get b with
      | .cells c .own => if off + (len + n) * sz ≤ c.length then some (.slice b off (len + n) cap, H.set b (.cells (wr c (off + len * sz) ys) .own)) else none
      | _ => none
    else if (len + n) * bytes ≤ 1099511627776 ∧ len + n ≤ 1099511627776 then
      match readSl H sz x with
      | some (_, old) => some (.osl sz H.size 0 (len + n), H.push (.cells (old ++ ys) .own))
      | none => none
    else none
  | .osl s b off len =>
    if s = sz ∧ (len + n) * bytes ≤ 1099511627776 ∧ len + n ≤ 1099511627776 then
      match H.get b with
      | .cells c .own => if off + len * sz ≤ c.length then some (.osl sz H.size 0 (len + n), (H.set b .dead).push (.cells (rd c off (len * sz) ++ ys) .own)) else none
      | _ => none
    else none
  | _ => none

def minmaxA (mx : Bool) (ρ : Opd → Option AV) : AV → List Opd → Option AV
  | v, [] => some v
  | .int k a, x :: r => match ρ x with
    | some (.int _ b) => minmaxA mx ρ (.int k (if mx then (if b > a then b else a) else (if b < a then b else a))) r
    | _ => none
  | _, _ => none

def idxByteA (c : UInt8) : List UInt8 → Nat → Int
  | [], _ => -1
  | x :: r, i => if x = c then (i : Int) else idxByteA c r (i + 1)

def emptyA : AV → Bool
  | .nils => true
  | .slice _ _ n _ => n == 0
  | .osl _ _ _ n => n == 0
  | _ => false

/-- append to a row of bytes: the new cells `ys` are `n` elements of type `e`. -/
def appendT (H : Heap) (e : TypeId) (x : AV) (n : Nat) (ys : List AV) : Option (AV × Heap) :=
  match x with
  | .nils => if n = 0 then some (.nils, H) else if n ≤ 1099511627776 then some (.osl 1 H.size 0 n, H.push (.cells ys (.byt e))) else none
  | .osl s b off len => if n = 0 then some (.osl s b off len, H) else if s = 1 ∧ off = 0 ∧ len + n ≤ 1099511627776 then
      match H.get b with
      | .cells c (.byt e') => if e' = e ∧ len ≤ c.length then some (.osl 1 H.size 0 (len + n), (H.set b .dead).push (.cells (rd c 0 len ++ ys) (.byt e))) else none
      | _ => none
    else none
  | _ => none

mutual
/-- Are two keys the same? -/
def keyEq : AV → AV → Option Bool
  | .int k a, .int k' b => if k = k' then some (a == b) else none
  | .str a, .str b => some (a == b)
  | .agg l, .agg m => keyEqs l m
  | _, _ => none
def keyEqs : List AV → List AV → Option Bool
  | [], [] => some true
  | .int k a :: l, .int k' b :: m => if k = k' then (match keyEqs l m with | some r => some (a == b && r) | none => none) else none
  | _, _ => none
end
def keyOK : AV → Bool
  | .int _ _ => true
  | .str _ => true
  | .agg l => l.all fun x => match x with | .int _ _ => true | _ => false
  | _ => false
def findE (k : AV) : List (AV × AV) → Option (Option AV)
  | [] => if keyOK k then some none else none
  | (k', v) :: r => match keyEq k k' with
    | some true => some (some v)
    | some false => findE k r
    | none => none
def setE (k v : AV) : List (AV × AV) → Option (List (AV × AV))
  | [] => if keyOK k then some [(k, v)] else none
  | (k', v') :: r => match keyEq k k' with
    | some true => some ((k', v) :: r)
    | some false => (setE k v r).map ((k', v') :: ·)
    | none => none
def mapOf (H : Heap) : AV → Option (List (AV × AV))
  | .nilm => some []
  | .map b => match H.get b with
    | .map es => some es
    | _ => none
  | _ => none

def xSame (H : Heap) : List AV → Option (AV × Heap)
  | [.ptr b o] => some (.ptr b o, H)
  | [.nilp] => some (.nilp, H)
  | _ => none
def xPeq (H : Heap) (neg : Bool) : List AV → Option (AV × Heap)
  | [.ptr b o, .ptr b' o'] => if b = b' ∧ o = o' then some (.bool (!neg), H) else none
  | _ => none
def xSdata (H : Heap) : List AV → Option (AV × Heap)
  | [.slice b off _ c] => if 0 < c then some (.ptr b off, H) else none
  | [.osl _ b off n] => if 0 < n then some (.ptr b off, H) else none
  | [.nils] => some (.nilp, H)
  | _ => none
def xUstr (H : Heap) (e : TypeId) : List AV → Option (AV × Heap)
  | [.nilp, .int .i64 n] => if n = 0 then some (.str [], H) else none
  | [.ptr b off, .int .i64 n] => if 0 < n ∧ n ≤ 1099511627776 ∧ off = 0 then (match H.get b with
    | .cells c (.byt e') => if e' = e ∧ n.toNat ≤ c.length then (match bytesOf (rd c 0 n.toNat) with
      | some s => if AV.beqs (rd c 0 n.toNat) (byteCells s) then some (.str s, H.set b (.cells c .ro)) else none
      | none => none) else none
    | _ => none) else none
  | _ => none
def xMknz (H : Heap) (e : TypeId) : List AV → Option (AV × Heap)
  | [.int .i64 n] => if 0 ≤ n ∧ n ≤ 1099511627776 then some (.osl 1 H.size 0 n.toNat, H.push (.cells [] (.byt e))) else none
  | _ => none
def xApps (H : Heap) (e : TypeId) : List AV → Option (AV × Heap)
  | [x, .str s] => appendT H e x s.length (byteCells s)
  | _ => none
def xAppb (H : Heap) (e : TypeId) : List AV → Option (AV × Heap)
  | [x, y] => match readSl H 1 y with
    | some (n, ys) => if ys.all AV.one then appendT H e x n ys else none
    | none => none
  | _ => none
def xCopy0 (H : Heap) : List AV → Option (AV × Heap)
  | [x, y] => if emptyA x && emptyA y then some (.int .i64 0, H) else none
  | _ => none
def xToU (H : Heap) : List AV → Option (AV × Heap)
  | [.ptr b off] => match H.get b with
    | .cells c _ => if off < c.length then some (.ptr b off, H) else none
    | _ => none
  | _ => none
def xFromU (H : Heap) (e s : Nat) : List AV → Option (AV × Heap)
  | [.ptr b off] => match H.get b with
    | .cells c (.byt e') => if off = 0 ∧ e' = e ∧ s ≤ c.length then some (.ptr b off, H) else none
    | _ => none
  | _ => none
def xStT (H : Heap) : List AV → Option (AV × Heap)
  | [.ptr b off, v] => match H.get b with
    | .cells c (.byt e) => if off < c.length ∧ v.one then some (undefA, H.set b (.cells (c.set off v) (.byt e))) else none
    | _ => none
  | _ => none
def xAllocT (H : Heap) (e : TypeId) (z : List AV) : List AV → Option (AV × Heap)
  | [] => some (.ptr H.size 0, H.push (.cells z (.byt e)))
  | _ => none
def xMkmap (H : Heap) : List AV → Option (AV × Heap)
  | [] => some (.map H.size, H.push (.map []))
  | _ => none
def xLookup (H : Heap) (ok : Bool) (z : AV) : List AV → Option (AV × Heap)
  | [x, k] => match mapOf H x with
    | some es => match findE k es with
      | some (some v) => some (if ok then .tup [v, .bool true] else v, H)
      | some none => some (if ok then .tup [z, .bool false] else z, H)
      | none => none
    | none => none
  | _ => none
def xMapset (H : Heap) : List AV → Option (AV × Heap)
  | [.map b, k, v] => match H.get b with
    | .map es => (setE k v es).map fun es' => (undefA, H.set b (.map es'))
    | _ => none
  | _ => none
def extA (H : Heap) (k : ExtK) (l : List AV) : Option (AV × Heap) :=
  match k with
  | .same => xSame H l
  | .peq neg => xPeq H neg l
  | .sdata => xSdata H l
  | .ustr e => xUstr H e l
  | .mknz e => xMknz H e l
  | .apps e => xApps H e l
  | .appb e => xAppb H e l
  | .copy0 => xCopy0 H l
  | .toU => xToU H l
  | .fromU e s => xFromU H e s l
  | .stT => xStT H l
  | .allocT e z => xAllocT H e z l
  | .mkmap => xMkmap H l
  | .lookup ok z => xLookup H ok z l
  | .mapset => xMapset H l

/-- A simple operation: its value, the memory behind it. -/
def evOp (ρ : Opd → Option AV) (H : Heap) : COp → Option (AV × Heap)
  | .mov x => (ρ x).map (·, H)
  | .pick c a b => match ρ c with
    | some (.bool true) => (ρ a).map (·, H)
    | some (.bool false) => (ρ b).map (·, H)
    | _ => none
  | .alloc z => some (.ptr H.size 0, H.push (.cells z .own))
  | .box x => match ρ x with
    | some v => some (.ptr H.size 0, H.push (.cells v.cells .own))
    | none => none
  | .build z parts => (fillA ρ z parts).map (fun c => (.agg c, H))
  | .lit z n parts => (fillA ρ z parts).map (fun c => (.slice H.size 0 n n, H.push (.cells c .own)))
  | .load1 x => match ρ x with
    | some (.ptr b off) => match H.get b with
      | .cells c _ => match c[off]? with
        | some v => some (v, H)
        | none => none
      | _ => none
    | _ => none
  | .loadN n x => match ρ x with
    | some (.ptr b off) => match H.get b with
      | .cells c _ => if off + n ≤ c.length then some (.agg (rd c off n), H) else none
      | _ => none
    | _ => none
  | .store n a x => match ρ a with
    | some (.ptr b off) => match ρ x with
      | some v => match H.get b with
        | .cells c .own => if v.cells.length = n ∧ off + n ≤ c.length ∧ v.cells.all AV.one then some (undefA, H.set b (.cells (wr c off v.cells) .own)) else none
        | _ => none
      | none => none
    | _ => none
  | .nilCheck x => match ρ x with
    | some .nilp => none
    | some .nili => none
    | some .nilf => none
    | some v => some (v, H)
    | none => none
  | .bin op x y => match ρ x with
    | some a => match ρ y with
      | some b => (binA op a b).map (·, H)
      | none => none
    | none => none
  | .eqv neg k x y => match ρ x with
    | some a => match ρ y with
      | some b => (eqA k a b).map fun r => (.bool (if neg then !r else r), H)
      | none => none
    | none => none
  | .un op x => match ρ x with
    | some a => (unA op a).map (·, H)
    | none => none
  | .convI k x => match ρ x with
    | some (.int _ n) => some (.int k (k.wrap n), H)
    | _ => none
  | .strStr x => match ρ x with
    | some (.str s) => some (.str s, H)
    | _ => none
  | .intStr x => match ρ x with
    | some (.int _ n) => some (.str (Utf8.encode n).data.toList, H)
    | _ => none
  | .strBytes x => match ρ x with
    | some (.str s) => if s.length ≤ 1099511627776 then some (.osl 1 H.size 0 s.length, H.push (.cells (byteCells s) .own)) else none
    | _ => none
  | .bytesStr x => match ρ x with
    | some v => match readSl H 1 v with
      | some (_, c) => (bytesOf c).map fun s => (.str s, H)
      | none => none
    | none => none
  | .mkIface t x => (ρ x).map fun v => (.iface t v, H)
  | .mkFn f caps => (caps.mapM ρ).map fun l => (.fn f l, H)
  | .mkSlice z bytes l c => match ρ l with
    | some (.int _ l) => match ρ c with
      | some (.int _ c) => if 0 ≤ l ∧ l ≤ c ∧ c * bytes ≤ 1099511627776 ∧ c ≤ 1099511627776 then some (.slice H.size 0 l.toNat c.toNat, H.push (.cells (zeros z (c.toNat * z.length)) .own)) else none
      | _ => none
    | _ => none
  | .sliceStr x lo hi => match ρ x with
    | some (.str s) => match bnd ρ s.length hi s.length with
      | some h => match bnd ρ h lo 0 with
        | some l => some (.str ((s.take h).drop l), H)
        | none => none
      | none => none
    | _ => none
  | .sliceSl sz x lo hi mx => match ρ x with
    | some .nils => match bnd ρ 0 mx 0 with
      | some m => match bnd ρ m hi 0 with
        | some h => match bnd ρ h lo 0 with
          | some _ => some (.nils, H)
          | none => none
        | none => none
      | none => none
    | some (.slice b off n c) => match bnd ρ c mx c with
      | some m => match bnd ρ m hi n with
        | some h => match bnd ρ h lo 0 with
          | some l => some (.slice b (if m = l then off else off + l * sz) (h - l) (m - l), H)
          | none => none
        | none => none
      | none => none
    | some (.osl s b off n) => if s = sz then (match mx with
      | some _ => match bnd ρ n mx n with
        | some m => match bnd ρ m hi n with
          | some h => match bnd ρ h lo 0 with
            | some l => if n = 0 then none else some (.slice b (if m = l then off else off + l * sz) (h - l) (m - l), H)
            | none => none
          | none => none
        | none => none
      | none => match bnd ρ n hi n with
        | some h => match bnd ρ h lo 0 with
          | some l => some (.osl sz b (off + l * sz) (h - l), H)
          | none => none
        | none => none) else none
    | _ => none
  | .sliceArr n sz x lo hi mx => match ρ x with
    | some (.ptr b off) => match bnd ρ n mx n with
      | some m => match bnd ρ m hi n with
        | some h => match bnd ρ h lo 0 with
          | some l => some (.slice b (if m = l then off else off + l * sz) (h - l) (m - l), H)
          | none => none
        | none => none
      | none => none
    | _ => none
  | .fieldAddr off x => match ρ x with
    | some (.ptr b o) => some (.ptr b (o + off), H)
    | _ => none
  | .field1 off x => match ρ x with
    | some (.agg l) => match l[off]? with
      | some v => some (v, H)
      | none => none
    | _ => none
  | .fieldN off n x => match ρ x with
    | some (.agg l) => some (.agg (rd l off n), H)
    | _ => none
  | .idxAddr sz x i => match ρ x with
    | some (.slice b off n _) => match ρ i with
      | some (.int _ i) => if 0 ≤ i ∧ i < n then some (.ptr b (off + i.toNat * sz), H) else none
      | _ => none
    | some (.osl s b off n) => match ρ i with
      | some (.int _ i) => if s = sz ∧ 0 ≤ i ∧ i < n then some (.ptr b (off + i.toNat * sz), H) else none
      | _ => none
    | _ => none
  | .idxArr n sz x i => match ρ x with
    | some (.ptr b off) => match ρ i with
      | some (.int _ i) => if 0 ≤ i ∧ i < n then some (.ptr b (off + i.toNat * sz), H) else none
      | _ => none
    | _ => none
  | .idxStr x i => match ρ x with
    | some (.str s) => match ρ i with
      | some (.int _ i) => if 0 ≤ i then (match s[i.toNat]? with
        | some b => some (.int .u8 b.toNat, H)
        | none => none) else none
      | _ => none
    | _ => none
  | .idxAgg n x i => match ρ x with
    | some (.agg l) => match ρ i with
      | some (.int _ i) => if 0 ≤ i ∧ i < n then (match l[i.toNat]? with
        | some v => some (v, H)
        | none => none) else none
      | _ => none
    | _ => none
  | .extract x i => match ρ x with
    | some (.tup l) => match l[i]? with
      | some v => some (v, H)
      | none => none
    | _ => none
  | .lenStr x => match ρ x with
    | some (.str s) => some (.int .i64 s.length, H)
    | _ => none
  | .lenSl x => match ρ x with
    | some (.slice _ _ n _) => some (.int .i64 n, H)
    | some (.osl _ _ _ n) => some (.int .i64 n, H)
    | some .nils => some (.int .i64 0, H)
    | _ => none
  | .capSl x => match ρ x with
    | some (.slice _ _ _ c) => some (.int .i64 c, H)
    | some .nils => some (.int .i64 0, H)
    | _ => none
  | .append sz bytes x y => match ρ x with
    | some a => match ρ y with
      | some b => match readSl H sz b with
        | some (n, ys) => if ys.all AV.one then appendA H sz bytes a n ys else none
        | none => none
      | none => none
    | none => none
  | .appendStr x y => match ρ x with
    | some a => match ρ y with
      | some (.str s) => appendA H 1 1 a s.length (byteCells s)
      | _ => none
    | none => none
  | .appendZ z bytes x n => match ρ x with
    | some a => match ρ n with
      | some (.int _ n) => if 0 ≤ n ∧ n ≤ 1099511627776 ∧ n * bytes ≤ 1099511627776 then appendA H z.length bytes a n.toNat (zeros z (n.toNat * z.length)) else none
      | _ => none
    | none => none
  | .minmax mx xs => match xs with
    | [] => none
    | x :: r => match ρ x with
      | some v => (minmaxA mx ρ v r).map (·, H)
      | none => none
  | .assert t zero x => match ρ x with
    | some (.iface u v) => if u = t then some ((if zero.isSome then .tup [v, .bool true] else v), H) else (match zero with
      | some z => some (.tup [z, .bool false], H)
      | none => none)
    | some .nili => (match zero with
      | some z => some (.tup [z, .bool false], H)
      | none => none)
    | _ => none
  | .rangeStr x => match ρ x with
    | some (.str s) => some (.ptr H.size 0, H.push (.siter s 0))
    | _ => none
  | .nextStr x => match ρ x with
    | some (.ptr b 0) => match H.get b with
      | .siter s pos => if pos < s.length then
          let r := Utf8.decode ⟨s.toArray⟩ pos
          some (.tup [.bool true, .int .i64 pos, .int .i32 r.1], H.set b (.siter s (pos + r.2)))
        else some (.tup [.bool false], H)
      | _ => none
    | _ => none
  | .idxByte x y => match ρ x with
    | some (.str s) => match ρ y with
      | some (.int .u8 c) => some (.int .i64 (idxByteA (UInt8.ofNat c.toNat) s 0), H)
      | _ => none
    | _ => none
  | .ext k xs => match xs.mapM ρ with
    | some l => extA H k l
    | none => none
  | _ => none

/-- What an operation comes to. -/
inductive OOut where
  | val (v : AV) (H : Heap)
  | pan (chain : List (AV × Bool)) (H : Heap)
  | dfr (f : FuncId) (args : List AV)
  | rcv (v : AV) (u : Up)

def endOut : End × Heap → OOut
  | (.ret v, H) => .val v H
  | (.pan ch, H) => .pan ch H

mutual
/-- The same value where the blocks from `g` on lie from `n` on. -/
def shA (g n : Nat) : AV → AV
  | .int k m => .int k m
  | .bool b => .bool b
  | .str s => .str s
  | .ptr b off => .ptr (if b < g then b else b - g + n) off
  | .nilp => .nilp
  | .slice b off m c => .slice (if b < g then b else b - g + n) off m c
  | .osl sz b off m => .osl sz (if b < g then b else b - g + n) off m
  | .nils => .nils
  | .map b => .map (if b < g then b else b - g + n)
  | .nilm => .nilm
  | .fn f cap => .fn f (shAs g n cap)
  | .nilf => .nilf
  | .iface t x => .iface t (shA g n x)
  | .nili => .nili
  | .agg l => .agg (shAs g n l)
  | .tup l => .tup (shAs g n l)
def shAs (g n : Nat) : List AV → List AV
  | [] => []
  | x :: l => shA g n x :: shAs g n l
end

/-- The blocks from `g` on, `k` of them: all are cells of their own. -/
def newBs (H : Heap) : Nat → Nat → Option (List (List AV))
  | _, 0 => some []
  | g, k + 1 => match H.get g with
    | .cells c .own => (newBs H (g + 1) k).map (c :: ·)
    | _ => none

def Heap.pushAll (H : Heap) : List (List AV) → Heap
  | [] => H
  | c :: r => Heap.pushAll (H.push (.cells c .own)) r

def evOp1 (call : FuncId → List AV → Heap → Option (End × Heap)) (σ : St) : COp → Option OOut
  | .call f args => match rhos σ.p σ.t args with
    | some l => (call f l σ.H).map endOut
    | none => none
  | .callP g f args => match rhos σ.p σ.t args with
    | some l => if AV.flats l then (match call f l (Heap.dead g) with
      | some (.ret v, _) => if v.flat then some (.val v σ.H) else none
      | _ => none) else none
    | none => none
  | .callQ g f args => match rhos σ.p σ.t args with
    | some l => if AV.flats l then (match call f l (Heap.dead g) with
      | some (.ret v, H1) => (match newBs H1 g (H1.size - g) with
        | some bs => some (.val (shA g σ.H.size v) (σ.H.pushAll (bs.map (shAs g σ.H.size))))
        | none => none)
      | _ => none) else none
    | none => none
  | .callV x args => match rho σ.p σ.t x with
    | some (.fn f cap) => match rhos σ.p σ.t args with
      | some l => (call f (l ++ cap) σ.H).map endOut
      | none => none
    | _ => none
  | .dfr x args => match rho σ.p σ.t x with
    | some (.fn f cap) => match rhos σ.p σ.t args with
      | some l => some (.dfr f (l ++ cap))
      | none => none
    | _ => none
  | .panic x => match rho σ.p σ.t x with
    | some (.iface t v) => some (.pan [(.iface t v, false)] σ.H)
    | _ => none
  | .recover => match σ.u with
    | .norm => none
    | .ret => some (.rcv .nili .ret)
    | .pan ((v, false) :: older) => some (.rcv v (.pan ((v, true) :: older)))
    | .pan ch => some (.rcv .nili (.pan ch))
  | op => match evOp (rho σ.p σ.t) σ.H op with
    | some (v, H) => some (.val v H)
    | none => none

def wantedA (σ : St) : Option (Opd × Bool) → Option Bool
  | none => some true
  | some (x, w) => match rho σ.p σ.t x with
    | some (.bool b) => some (b == w)
    | some (.tup []) => some false
    | _ => none

def evOps (call : FuncId → List AV → Heap → Option (End × Heap)) : List Cop → St → Option (Ctl × St)
  | [], σ => some (.normal, σ)
  | o :: r, σ => match wantedA σ o.guard with
    | none => none
    | some false => evOps call r (σ.put o.dst undefA)
    | some true => match evOp1 call σ o.op with
      | none => none
      | some (.val v H) => evOps call r (({ σ with H := H } : St).put o.dst v)
      | some (.pan ch H) => some (.panic ch, { σ with H := H })
      | some (.dfr f args) => evOps call r (({ σ with d := (f, args) :: σ.d } : St).put o.dst undefA)
      | some (.rcv v u) => evOps call r (({ σ with u := u } : St).put o.dst v)

def kindE : ExtK → Nat
  | .same => 0
  | .peq _ => 0
  | .sdata => 0
  | .copy0 => 0
  | _ => 2

/-- 0: memory is not asked; 1: it is read; 2: it is turned. -/
def kindC : COp → Nat
  | .load1 _ => 1
  | .loadN _ _ => 1
  | .bytesStr _ => 1
  | .alloc _ => 2
  | .box _ => 2
  | .lit _ _ _ => 2
  | .store _ _ _ => 2
  | .strBytes _ => 2
  | .mkSlice _ _ _ _ => 2
  | .append _ _ _ _ => 2
  | .appendStr _ _ => 2
  | .appendZ _ _ _ _ => 2
  | .rangeStr _ => 2
  | .nextStr _ => 2
  | .ext k _ => kindE k
  | .call _ _ => 2
  | .callQ _ _ _ => 2
  | .callV _ _ => 2
  | .dfr _ _ => 3
  | .panic _ => 3
  | .recover => 3
  | _ => 0

/-- What is kept of an operation that a later one asks for. -/
inductive LogE where
  | no
  | rd (chk : Heap → Bool)
  | ld (H : Heap)
  | st (b off n : Nat)

def sameVal (ρ : Opd → Option AV) (op : COp) (v : AV) (H : Heap) : Bool :=
  match evOp ρ H op with
  | some (v', _) => AV.beq v' v
  | none => false

def storeAt (ρ : Opd → Option AV) : COp → Option (Nat × Nat × Nat)
  | .store n a _ => match ρ a with
    | some (.ptr b off) => some (b, off, n)
    | _ => none
  | _ => none

def mkLog (d : DCop) (σ : St) (v : AV) : LogE :=
  if d.tl then (match storeAt (rho σ.p σ.t) d.c.op with | some (b, off, n) => .st b off n | none => .ld σ.H)
  else if kindC d.c.op = 1 then .rd (sameVal (rho σ.p σ.t) d.c.op v)
  else if kindC d.c.op = 2 then .ld σ.H
  else .no

def lkL (i : Nat) : List (Nat × LogE) → Option LogE
  | [] => none
  | (j, e) :: r => if i = j then some e else lkL i r

def dynOK (d : DCop) (σ : St) (v : AV) (H' : Heap) : Option LogE → Bool
  | some .no => true
  | some (.rd chk) => chk H'
  | some (.ld H) => sameVal (rho σ.p σ.t) d.c.op v H
  | some (.st b off n) => match storeAt (rho σ.p σ.t) d.c.op with
    | some (b', off', n') => b != b' || decide (off + n ≤ off') || decide (off' + n' ≤ off)
    | none => false
  | none => false

def evOpsD (call : FuncId → List AV → Heap → Option (End × Heap)) : List DCop → Nat → List (Nat × LogE) → St → Option (Ctl × St)
  | [], _, _, σ => some (.normal, σ)
  | d :: r, k, lg, σ => match wantedA σ d.c.guard with
    | none => none
    | some false => evOpsD call r (k + 1) (if d.lg then (k, .no) :: lg else lg) (σ.put d.c.dst undefA)
    | some true => match evOp1 call σ d.c.op with
      | some (.val v H) => if d.u.all (fun i => dynOK d σ v H (lkL i lg)) then evOpsD call r (k + 1) (if d.lg then (k, mkLog d σ v) :: lg else lg) (({ σ with H := H } : St).put d.c.dst v) else none
      | _ => none

def loopA (step : St → Option (Ctl × St)) (live : List Nat) : Nat → St → Option (Ctl × St)
  | 0, _ => none
  | n + 1, σ => match step (σ.keep live) with
    | some (.normal, σ') => loopA step live n σ'
    | r => r

def evCode (call : FuncId → List AV → Heap → Option (End × Heap)) (n : Nat) : CCode → St → Option (Ctl × St)
  | .skip, σ => some (.normal, σ)
  | .stuck, _ => none
  | .reg ops, σ => evOps call ops { σ with t := [] }
  | .dreg ops, σ => evOpsD call ops 0 [] { σ with t := [] }
  | .seq a b, σ => match evCode call n a σ with
    | some (.normal, σ') => evCode call n b σ'
    | r => r
  | .cond c a b, σ => match rho σ.p σ.t c with
    | some (.bool true) => evCode call n a σ
    | some (.bool false) => evCode call n b σ
    | _ => none
  | .block id live body, σ => match evCode call n body σ with
    | some (.normal, σ') => some (.normal, σ'.keep live)
    | some (.exit i, σ') => if i = id then some (.normal, σ'.keep live) else some (.exit i, σ')
    | r => r
  | .loop live body, σ => loopA (evCode call n body) live n σ
  | .exit id, σ => some (.exit id, σ)
  | .ret, σ => some (.ret, σ)

def resA (p : List (Nat × AV)) (H : Heap) : CRes → Option AV
  | .slot i => lk i p
  | .cell1 i => match lk i p with
    | some (.ptr b off) => match H.get b with
      | .cells c _ => c[off]?
      | _ => none
    | _ => none
  | .cellN i n => match lk i p with
    | some (.ptr b off) => match H.get b with
      | .cells c _ => if off + n ≤ c.length then some (.agg (rd c off n)) else none
      | _ => none
    | _ => none

def resAs (p : List (Nat × AV)) (H : Heap) : List CRes → Option (List AV)
  | [] => some []
  | r :: l => match resA p H r with
    | none => none
    | some v => match resAs p H l with
      | none => none
      | some vs => some (v :: vs)

def resV : List AV → AV
  | [v] => v
  | l => .tup l

def settleA : Up → Up
  | .pan ((_, true) :: _) => .ret
  | u => u

def raisedA (u : Up) (ch : List (AV × Bool)) : Up :=
  match u with
  | .pan old => .pan (ch ++ old)
  | _ => .pan ch

/-- The deferred calls of a frame, the last one first; then its end. -/
def runDfr (callD : FuncId → List AV → Up → Heap → Option (End × Up × Heap)) (rs : List CRes) (p : List (Nat × AV)) : List (FuncId × List AV) → Up → Heap → Option (End × Heap)
  | [], .ret, H => (resAs p H rs).map fun l => (.ret (resV l), H)
  | [], .pan ch, H => some (.pan ch, H)
  | [], .norm, _ => none
  | (f, args) :: ds, u, H => match callD f args u H with
    | some (.ret _, u', H') => runDfr callD rs p ds (settleA u') H'
    | some (.pan ch, u', H') => runDfr callD rs p ds (raisedA u' ch) H'
    | none => none

def enterA : List AV → Nat → List (Nat × AV)
  | [], _ => []
  | v :: r, i => (i, v) :: enterA r (i + 1)

/-- A deferred function's call: its end; what became of its caller's panic. -/
def evFnD (C : FuncId → Option CFunc) (call : FuncId → List AV → Heap → Option (End × Heap)) (n : Nat) (f : FuncId) (args : List AV) (u : Up) (H : Heap) : Option (End × Up × Heap) :=
  match C f with
  | none => none
  | some cf => if args.length = cf.nargs then match evCode call n cf.body { p := enterA args 0, t := [], H := H, d := [], u := u } with
    | some (.normal, σ) | some (.ret, σ) => (match σ.d with
      | [] => (resAs σ.p σ.H cf.results).map fun l => (.ret (resV l), σ.u, σ.H)
      | _ => none)
    | some (.panic ch, σ) => (match σ.d with
      | [] => some (.pan ch, σ.u, σ.H)
      | _ => none)
    | _ => none
    else none

/-- A function's call, where `call` does the calls that it makes. -/
def evStep (C : FuncId → Option CFunc) (call : FuncId → List AV → Heap → Option (End × Heap)) (n : Nat) (f : FuncId) (args : List AV) (H : Heap) : Option (End × Heap) :=
  match C f with
  | none => none
  | some cf => if args.length = cf.nargs then match evCode call n cf.body { p := enterA args 0, t := [], H := H, d := [], u := .norm } with
    | some (.normal, σ) | some (.ret, σ) => runDfr (evFnD C call n) cf.results σ.p σ.d .ret σ.H
    | some (.panic ch, σ) => runDfr (evFnD C call n) cf.results σ.p σ.d (.pan ch) σ.H
    | _ => none
    else none

def evFn (C : FuncId → Option CFunc) : Nat → FuncId → List AV → Heap → Option (End × Heap)
  | 0, _, _, _ => none
  | n + 1, f, args, H => evStep C (evFn C n) n f args H
mutual
theorem AV.beq_eq : ∀ (x y : AV), AV.beq x y = true → x = y
  | .int _ _, y, h => by cases y <;> simp [AV.beq] at h; simp [h]
  | .bool _, y, h => by cases y <;> simp [AV.beq] at h; simp [h]
  | .str _, y, h => by cases y <;> simp [AV.beq] at h; simp [h]
  | .ptr _ _, y, h => by cases y <;> simp [AV.beq] at h; simp [h]
  | .nilp, y, h => by cases y <;> simp [AV.beq] at h; rfl
  | .slice _ _ _ _, y, h => by cases y <;> simp [AV.beq] at h; simp [h]
  | .osl _ _ _ _, y, h => by cases y <;> simp [AV.beq] at h; simp [h]
  | .nils, y, h => by cases y <;> simp [AV.beq] at h; rfl
  | .map _, y, h => by cases y <;> simp [AV.beq] at h; simp [h]
  | .nilm, y, h => by cases y <;> simp [AV.beq] at h; rfl
  | .fn f c, y, h => by
    cases y <;> simp only [AV.beq, Bool.false_eq_true, Bool.and_eq_true, beq_iff_eq] at h
    rw [h.1, AV.beqs_eq _ _ h.2]
  | .nilf, y, h => by cases y <;> simp [AV.beq] at h; rfl
  | .iface t v, y, h => by
    cases y <;> simp only [AV.beq, Bool.false_eq_true, Bool.and_eq_true, beq_iff_eq] at h
    rw [h.1, AV.beq_eq _ _ h.2]
  | .nili, y, h => by cases y <;> simp [AV.beq] at h; rfl
  | .agg l, y, h => by
    cases y <;> simp only [AV.beq, Bool.false_eq_true] at h
    rw [AV.beqs_eq _ _ h]
  | .tup l, y, h => by
    cases y <;> simp only [AV.beq, Bool.false_eq_true] at h
    rw [AV.beqs_eq _ _ h]
theorem AV.beqs_eq : ∀ (x y : List AV), AV.beqs x y = true → x = y
  | [], y, h => by cases y <;> simp [AV.beqs] at h; rfl
  | a :: x, y, h => by
    cases y <;> simp only [AV.beqs, Bool.false_eq_true, Bool.and_eq_true] at h
    rw [AV.beq_eq _ _ h.1, AV.beqs_eq _ _ h.2]
end

end Go.Ev
