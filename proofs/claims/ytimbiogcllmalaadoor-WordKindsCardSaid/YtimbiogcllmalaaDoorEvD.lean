/- The checker: an operation of the abstract machine is the model's; and the soundness of each simple operation. -/
import Derived.Test.YtimbiogcllmalaaDoorEvC
import Derived.Laws.StructEq
namespace Go.Ev
open Go Go.RowKit

mutual
/-- A constant without addresses. -/
def constV : AV → Value → Bool
  | .int k n, .int k' n' => decide (k = k') && decide (n = n')
  | .bool b, .bool b' => b == b'
  | .str s, .string t => s == t.data.toList
  | .nilp, .pointer none => true
  | .nils, .slice none 0 0 => true
  | .nilm, .map none => true
  | .nilf, .nilFunc => true
  | .nili, .nilIface => true
  | .fn f [], .func (.func f') first cap => f == f' && first.isEmpty && cap.isEmpty
  | .iface t x, .iface t' y => t == t' && constV x y
  | .agg l, .agg vs => constVs l vs.toList
  | .tup l, .tuple vs => constVs l vs.toList
  | _, _ => false
def constVs : List AV → List Value → Bool
  | [], [] => true
  | x :: l, v :: vs => constV x v && constVs l vs
  | _, _ => false
end

theorem empty_of_isEmpty {α : Type} {a : Array α} (h : a.isEmpty = true) : a = #[] := by simpa using h

mutual
theorem constV_sound (ι : Plan) : ∀ (x : AV) (v : Value), constV x v = true → VR ι x v
  | .int k n, v, h => by
    cases v <;> simp [constV] at h
    obtain ⟨rfl, rfl⟩ := h; rfl
  | .bool b, v, h => by
    cases v <;> simp [constV] at h
    subst h; rfl
  | .str s, v, h => by
    cases v with
    | string t => simp [constV] at h; subst h; rfl
    | _ => simp [constV] at h
  | .ptr _ _, v, h => by cases v <;> simp [constV] at h
  | .nilp, v, h => by
    cases v with
    | pointer a => cases a with
      | none => rfl
      | some _ => simp [constV] at h
    | _ => simp [constV] at h
  | .slice _ _ _ _, v, h => by cases v <;> simp [constV] at h
  | .osl _ _ _ _, v, h => by cases v <;> simp [constV] at h
  | .nils, v, h => by
    cases v with
    | slice a n c =>
      cases a with
      | none =>
        cases n with
        | zero => cases c with
          | zero => rfl
          | succ _ => simp [constV] at h
        | succ _ => simp [constV] at h
      | some _ => simp [constV] at h
    | _ => simp [constV] at h
  | .map _, v, h => by cases v <;> simp [constV] at h
  | .nilm, v, h => by
    cases v with
    | map a => cases a with
      | none => rfl
      | some _ => simp [constV] at h
    | _ => simp [constV] at h
  | .fn f cap, v, h => by
    cases cap with
    | nil =>
      cases v with
      | func fn first c =>
        cases fn with
        | func f' =>
          simp only [constV, Bool.and_eq_true, beq_iff_eq] at h
          obtain ⟨⟨rfl, h1⟩, h2⟩ := h
          rw [empty_of_isEmpty h1, empty_of_isEmpty h2]
          exact ⟨#[], rfl, rfl⟩
        | _ => simp [constV] at h
      | _ => simp [constV] at h
    | cons _ _ => cases v <;> simp [constV] at h
  | .nilf, v, h => by
    cases v with
    | nilFunc => rfl
    | _ => simp [constV] at h
  | .iface t x, v, h => by
    cases v with
    | iface t' y =>
      simp only [constV, Bool.and_eq_true, beq_iff_eq] at h
      obtain ⟨rfl, h2⟩ := h
      exact ⟨y, rfl, constV_sound ι x y h2⟩
    | _ => simp [constV] at h
  | .nili, v, h => by
    cases v with
    | nilIface => rfl
    | _ => simp [constV] at h
  | .agg l, v, h => by
    cases v with
    | agg vs => exact ⟨vs, rfl, constVs_sound ι l _ (by simpa [constV] using h)⟩
    | _ => simp [constV] at h
  | .tup l, v, h => by
    cases v with
    | tuple vs => exact ⟨vs, rfl, constVs_sound ι l _ (by simpa [constV] using h)⟩
    | _ => simp [constV] at h
theorem constVs_sound (ι : Plan) : ∀ (l : List AV) (vs : List Value), constVs l vs = true → VRs ι l vs
  | [], vs, h => by
    cases vs with
    | nil => rfl
    | cons _ _ => simp [constVs] at h
  | x :: l, vs, h => by
    cases vs with
    | nil => simp [constVs] at h
    | cons v vs =>
      simp only [constVs, Bool.and_eq_true] at h
      exact ⟨v, vs, rfl, constV_sound ι x v h.1, constVs_sound ι l vs h.2⟩
end

/-- What a check goes by: the program, which slots persist, how many slots there are. -/
structure Cx where
  P : Program
  ps : List Nat
  n : Nat

def chkOpd (X : Cx) : Operand → Opd → Bool
  | .tmp i, .p j => i == j && X.ps.contains i
  | .tmp i, .t j => i == j && !X.ps.contains i
  | .const v, .c x => constV x v
  | .global g, .g h => g == h && decide (g < X.P.globals.size)
  | .func f, .f h => f == h
  | _, _ => false

def chkOpds (X : Cx) : List Operand → List Opd → Bool
  | [], [] => true
  | x :: l, y :: m => chkOpd X x y && chkOpds X l m
  | _, _ => false

def chkOpt (X : Cx) : Option Operand → Option Opd → Bool
  | none, none => true
  | some x, some y => chkOpd X x y
  | _, _ => false

def chkDst (X : Cx) : Option Tmp → Dst → Bool
  | none, .no => true
  | some i, .p j => i == j && X.ps.contains i && decide (i < X.n)
  | some i, .t j => i == j && !X.ps.contains i && decide (i < X.n)
  | _, _ => false

def tySize (P : Program) (t : TypeId) : Option Nat := (P.info? t).map (·.size)
def tyBytes (P : Program) (t : TypeId) : Option Nat := (P.info? t).map (·.bytes)
def tyZero (P : Program) (t : TypeId) : Option Value := (P.info? t).bind (·.zero)
def tyAgg (P : Program) (t : TypeId) : Option Bool :=
  match P.underlying t with
  | some (.struct _) => some true
  | some (.array _ _) => some true
  | some _ => some false
  | none => none

/-- The parts of a literal: where each goes, how many cells it has. -/
def chkParts (X : Cx) (place : Nat → Option (Nat × Nat)) : List (Nat × Operand) → List (Nat × Nat × Opd) → Bool
  | [], [] => true
  | (i, x) :: l, (off, sz, y) :: m => decide (place i = some (off, sz)) && chkOpd X x y && chkParts X place l m
  | _, _ => false

def fieldPlaces (P : Program) (fs : Array Field) : Option (List (Nat × Nat)) := fs.toList.mapM fun f => (tySize P f.type).map fun n => (f.offset, n)

def scalarTy (P : Program) (t : TypeId) : Option SK :=
  match P.underlying t with
  | some .bool => some .b
  | some (.int _) => some .i
  | some .string => some .s
  | _ => none

def eqOffs (P : Program) : List Field → Option (List (Nat × SK))
  | [] => some []
  | f :: r => match eqOffs P r with
    | none => none
    | some l => if f.name ≠ "_" then (match scalarTy P f.type with | some k => some ((f.offset, k) :: l) | none => none) else some l

def isElemInt (P : Program) (e : TypeId) (k : IntKind) : Bool :=
  match P.underlying e with
  | some (.int j) => decide (j = k)
  | _ => false

def eqOp : BinOp → Bool → Bool
  | .eql, neg => !neg
  | .neq, neg => neg
  | _, _ => false

def eqKOk (P : Program) (ty : TypeId) (k : EqK) : Bool :=
  match k, P.underlying ty with
  | .bool, some .bool => true
  | .ptr, some (.pointer _) => true
  | .slice, some (.slice _) => true
  | .map, some (.map _ _) => true
  | .func, some (.func _ _ _) => true
  | .iface, some (.interface _) => true
  | .agg l, some (.struct fs) => (!P.eqGuardType P.depth ty) && (!P.stoodInHeld ty) && decide (eqOffs P fs.toList = some l)
  | _, _ => false

def notIface (P : Program) (t : TypeId) : Bool :=
  match P.underlying t with
  | some (.interface _) => false
  | some _ => true
  | none => false

def okZero (P : Program) (t : TypeId) : Bool → Option AV → Bool
  | true, some z => (match tyZero P t with | some v => constV z v | none => false)
  | false, none => true
  | _, _ => false

def isIntTo (P : Program) (s d : TypeId) (k : IntKind) : Bool :=
  match P.underlying s, P.underlying d with
  | some _, some (.int k') => decide (k = k')
  | _, _ => false

def isIdxByte (P : Program) (f : FuncId) : Bool :=
  match P.funcs[f]? with
  | some fn => fn.body.isNone && (fn.name == "internal/bytealg.IndexByteString") && (fn.origin == "")
  | none => false

def isC : Operand → Bool
  | .const _ => true
  | _ => false
/-- Interfaces: one of the two is a constant. -/
def ifcK : EqK → Operand → Operand → Bool
  | .iface, x, y => isC x || isC y
  | _, _, _ => true

def chkOp (X : Cx) (op : Op) (c : COp) : Bool :=
  match op, c with
  | .move x, .mov y => chkOpd X x y
  | .assign x, .mov y => chkOpd X x y
  | .pick c a b, .pick c' a' b' => chkOpd X c c' && chkOpd X a a' && chkOpd X b b'
  | .alloc e, .alloc z => (match tyZero X.P e with | some v => constVs z v.cells.toList | none => false)
  | .box _ x, .box y => chkOpd X x y
  | .build t ps, .build z qs => (match tyZero X.P t with | some v => constVs z v.cells.toList | none => false) &&
    (match X.P.underlying t with
     | some (.struct fs) => (match fieldPlaces X.P fs with | some pl => chkParts X (pl[·]?) ps.toList qs | none => false)
     | some (.array _ e) => (match tySize X.P e with | some s => chkParts X (fun i => some (i * s, s)) ps.toList qs | none => false)
     | _ => false)
  | .buildSlice t len ps, .lit z n qs => len == n &&
    (match X.P.underlying t with
     | some (.slice e) => (match tySize X.P e, tyZero X.P e with
       | some s, some zv => decide (len * s ≤ 16777216) && constVs z ((List.range (len * s)).map fun i => zv.cells.getD (i % zv.cells.size) undef) && decide (0 < zv.cells.size) && chkParts X (fun i => some (i * s, s)) ps.toList qs
       | _, _ => false)
     | _ => false)
  | .load t x, .load1 y => (tyAgg X.P t == some false) && chkOpd X x y
  | .load t x, .loadN n y => (tyAgg X.P t == some true) && (tySize X.P t == some n) && chkOpd X x y
  | .store t a x, .store n b y => (tySize X.P t == some n) && chkOpd X a b && chkOpd X x y
  | .nilCheck x, .nilCheck y => chkOpd X x y
  | .binOp op _ x y _, .bin op' x' y' => decide (op = op') && chkOpd X x x' && chkOpd X y y'
  | .binOp op t x y _, .eqv neg k x' y' => eqOp op neg && chkOpd X x x' && chkOpd X y y' && eqKOk X.P t k && ifcK k x y
  | .unOp op _ x, .un op' y => decide (op = op') && chkOpd X x y
  | .convert s d x, .convI k y => isIntTo X.P s d k && chkOpd X x y
  | .convert s d x, .strStr y => (match X.P.underlying s, X.P.underlying d with | some _, some .string => true | _, _ => false) && chkOpd X x y
  | .convert s d x, .intStr y => (match X.P.underlying s, X.P.underlying d with | some _, some .string => true | _, _ => false) && chkOpd X x y
  | .convert s d x, .strBytes y => (match X.P.underlying s, X.P.underlying d with | some _, some (.slice e) => isElemInt X.P e .u8 | _, _ => false) && chkOpd X x y
  | .convert s d x, .bytesStr y => (match X.P.underlying s, X.P.underlying d with | some (.slice e), some .string => isElemInt X.P e .u8 | _, _ => false) && chkOpd X x y
  | .makeInterface t x, .mkIface t' y => t == t' && notIface X.P t && chkOpd X x y
  | .makeFunc (.func f) first caps, .mkFn f' caps' => f == f' && first.isEmpty && chkOpds X caps.toList caps'
  | .makeSlice t l c, .mkSlice z bytes l' c' => chkOpd X l l' && chkOpd X c c' &&
    (match X.P.underlying t with
     | some (.slice e) => (match tySize X.P e, tyZero X.P e with
       | some s, some zv => (tyBytes X.P e == some bytes) && constVs z zv.cells.toList && s == zv.cells.size && decide (0 < s)
       | _, _ => false)
     | _ => false)
  | .slice t x lo hi mx, .sliceStr y lo' hi' => (match X.P.underlying t with | some .string => true | _ => false) && chkOpd X x y && chkOpt X lo lo' && chkOpt X hi hi' && mx.isNone
  | .slice t x lo hi mx, .sliceSl sz y lo' hi' mx' => (match X.P.underlying t with | some (.slice e) => tySize X.P e == some sz | _ => false) && chkOpd X x y && chkOpt X lo lo' && chkOpt X hi hi' && chkOpt X mx mx' && (mx.isNone || hi.isSome)
  | .slice t x lo hi mx, .sliceArr n sz y lo' hi' mx' => (match X.P.underlying t with | some (.array n' e) => n' == n && tySize X.P e == some sz | _ => false) && chkOpd X x y && chkOpt X lo lo' && chkOpt X hi hi' && chkOpt X mx mx' && (mx.isNone || hi.isSome)
  | .fieldAddr s x f, .fieldAddr off y => (match X.P.underlying s with
     | some (.struct fs) => (match fs[f]? with
       | some fd => fd.offset == off && (match tySize X.P fd.type with | some n => decide (0 < n) | none => false)
       | none => false)
     | _ => false) && chkOpd X x y
  | .field s x f, .field1 off y => (match X.P.underlying s with
     | some (.struct fs) => (match fs[f]? with
       | some fd => fd.offset == off && (tyAgg X.P fd.type == some false)
       | none => false)
     | _ => false) && chkOpd X x y
  | .field s x f, .fieldN off n y => (match X.P.underlying s with
     | some (.struct fs) => (match fs[f]? with
       | some fd => fd.offset == off && (tyAgg X.P fd.type == some true) && (tySize X.P fd.type == some n)
       | none => false)
     | _ => false) && chkOpd X x y
  | .indexAddr t x i, .idxAddr sz x' i' => (match X.P.underlying t with | some (.slice e) => tySize X.P e == some sz | _ => false) && chkOpd X x x' && chkOpd X i i'
  | .indexAddr t x i, .idxArr n sz x' i' => (match X.P.underlying t with | some (.array n' e) => n' == n && tySize X.P e == some sz | _ => false) && chkOpd X x x' && chkOpd X i i'
  | .index t x i, .idxStr x' i' => (match X.P.underlying t with | some .string => true | _ => false) && chkOpd X x x' && chkOpd X i i'
  | .index t x i, .idxAgg n x' i' => (match X.P.underlying t with | some (.array n' e) => n' == n && tySize X.P e == some 1 && (tyAgg X.P e == some false) | _ => false) && chkOpd X x x' && chkOpd X i i'
  | .extract x i, .extract y j => i == j && chkOpd X x y
  | .call { callee := .builtin b, args, argTypes }, c => (match b, c with
     | .len, .lenStr y => (match (argTypes[0]?).bind X.P.underlying with | some .string => true | _ => false) && chkOpds X args.toList [y]
     | .len, .lenSl y => (match (argTypes[0]?).bind X.P.underlying with | some (.slice _) => true | _ => false) && chkOpds X args.toList [y]
     | .cap, .capSl y => (match (argTypes[0]?).bind X.P.underlying with | some (.slice _) => true | _ => false) && chkOpds X args.toList [y]
     | .append, .append sz bytes x y => chkOpds X args.toList [x, y] && decide (0 < sz) &&
       (match argTypes.toList with
        | [t0, t1] => (match X.P.underlying t0, X.P.underlying t1 with
          | some (.slice e), some (.slice _) => (tySize X.P e == some sz) && (tyBytes X.P e == some bytes) && decide (0 < bytes) && (match tyZero X.P e with | some zv => zv.cells.size == sz | none => false)
          | _, _ => false)
        | _ => false)
     | .append, .appendStr x y => chkOpds X args.toList [x, y] &&
       (match argTypes.toList with
        | [t0, t1] => (match X.P.underlying t0, X.P.underlying t1 with
          | some (.slice e), some .string => (tySize X.P e == some 1) && (tyBytes X.P e == some 1) && (match tyZero X.P e with | some zv => zv.cells.size == 1 | none => false)
          | _, _ => false)
        | _ => false)
     | .append, .appendZ z bytes x y => chkOpds X args.toList [x, y] && decide (0 < z.length) &&
       (match argTypes.toList with
        | [t0, t1] => (match X.P.underlying t0, X.P.underlying t1 with
          | some (.slice e), some (.int _) => (tySize X.P e == some z.length) && (tyBytes X.P e == some bytes) && decide (0 < bytes) && z.all AV.one && (match tyZero X.P e with | some zv => constVs z zv.cells.toList | none => false)
          | _, _ => false)
        | _ => false)
     | .min, .minmax mx ys => !mx && chkOpds X args.toList ys
     | .max, .minmax mx ys => mx && chkOpds X args.toList ys
     | .recover, .recover => true
     | .panic, .panic y => chkOpds X args.toList [y]
     | _, _ => false)
  | .typeAssert x _ t ok, .assert t' zero y => t == t' && chkOpd X x y && notIface X.P t && okZero X.P t ok zero
  | .range t x, .rangeStr y => (match X.P.underlying t with | some .string => true | _ => false) && chkOpd X x y
  | .next x s, .nextStr y => s && chkOpd X x y
  | .call { callee := .value (.func f), args, .. }, .idxByte x y => chkOpds X args.toList [x, y] && isIdxByte X.P f
  | .call { callee := .value (.func f), args, .. }, .call f' args' => f == f' && chkOpds X args.toList args'
  | .call { callee := .value (.func f), args, .. }, .callP g f' args' => f == f' && chkOpds X args.toList args' && g == X.P.globals.size
  | .call { callee := .value x, args, .. }, .callV y args' => chkOpd X x y && chkOpds X args.toList args'
  | .defer { callee := .value x, args, .. }, .dfr y args' => chkOpd X x y && chkOpds X args.toList args'
  | .panic x, .panic y => chkOpd X x y
  | _, _ => false
end Go.Ev
