/- Several texts of this claim, joined. -/
import Derived.Test.YtifhmogcdgfojaaGreatDoorT03
import Derived.Laws.StructEq
import Derived.Tactics
set_option linter.unusedSimpArgs false
set_option linter.unusedVariables false

/- The checker: an operation of the abstract machine is the model's; and the soundness of each simple operation. -/
namespace Go.Ev
open Go Go.RowKit
mutual
/-- A constant without addresses. -/
def constV : AV → Value → Bool
  | .int k n, .int k' n' => decide (k = k') && decide (n = n')
  | .bool b, .bool b' => b == b'
  | .str s, .string t => s == t.data.toList
  | .nilp, .pointer none => true
  | .nils, .slice none 0 0 => true
  | .nilm, .map none => true
  | .nilf, .nilFunc => true
  | .nili, .nilIface => true
  | .fn f [], .func (.func f') first cap => f == f' && first.isEmpty && cap.isEmpty
  | .iface t x, .iface t' y => t == t' && constV x y
  | .agg l, .agg vs => constVs l vs.toList
  | .tup l, .tuple vs => constVs l vs.toList
  | _, _ => false
def constVs : List AV → List Value → Bool
  | [], [] => true
  | x :: l, v :: vs => constV x v && constVs l vs
  | _, _ => false
end
theorem empty_of_isEmpty {α : Type} {a : Array α} (h : a.isEmpty = true) : a = #[] := by simpa using h
mutual
theorem constV_sound (ι : Plan) : ∀ (x : AV) (v : Value), constV x v = true → VR ι x v
  | .int k n, v, h => by
    cases v <;> simp [constV] at h
    obtain ⟨rfl, rfl⟩ := h; rfl
  | .bool b, v, h => by
    cases v <;> simp [constV] at h
    subst h; rfl
  | .str s, v, h => by
    cases v with
    | string t => simp [constV] at h; subst h; rfl
    | _ => simp [constV] at h
  | .ptr _ _, v, h => by cases v <;> simp [constV] at h
  | .nilp, v, h => by
    cases v with
    | pointer a => cases a with
      | none => rfl
      | some _ => simp [constV] at h
    | _ => simp [constV] at h
  | .slice _ _ _ _, v, h => by cases v <;> simp [constV] at h
  | .osl _ _ _ _, v, h => by cases v <;> simp [constV] at h
  | .nils, v, h => by
    cases v with
    | slice a n c =>
      cases a with
      | none =>
        cases n with
        | zero => cases c with
          | zero => rfl
          | succ _ => simp [constV] at h
        | succ _ => simp [constV] at h
      | some _ => simp [constV] at h
    | _ => simp [constV] at h
  | .map _, v, h => by cases v <;> simp [constV] at h
  | .nilm, v, h => by
    cases v with
    | map a => cases a with
      | none => rfl
      | some _ => simp [constV] at h
    | _ => simp [constV] at h
  | .fn f cap, v, h => by
    cases cap with
    | nil =>
      cases v with
      | func fn first c =>
        cases fn with
        | func f' =>
          simp only [constV, Bool.and_eq_true, beq_iff_eq] at h
          obtain ⟨⟨rfl, h1⟩, h2⟩ := h
          rw [empty_of_isEmpty h1, empty_of_isEmpty h2]
          exact ⟨#[], rfl, rfl⟩
        | _ => simp [constV] at h
      | _ => simp [constV] at h
    | cons _ _ => cases v <;> simp [constV] at h
  | .nilf, v, h => by
    cases v with
    | nilFunc => rfl
    | _ => simp [constV] at h
  | .iface t x, v, h => by
    cases v with
    | iface t' y =>
      simp only [constV, Bool.and_eq_true, beq_iff_eq] at h
      obtain ⟨rfl, h2⟩ := h
      exact ⟨y, rfl, constV_sound ι x y h2⟩
    | _ => simp [constV] at h
  | .nili, v, h => by
    cases v with
    | nilIface => rfl
    | _ => simp [constV] at h
  | .agg l, v, h => by
    cases v with
    | agg vs => exact ⟨vs, rfl, constVs_sound ι l _ (by simpa [constV] using h)⟩
    | _ => simp [constV] at h
  | .tup l, v, h => by
    cases v with
    | tuple vs => exact ⟨vs, rfl, constVs_sound ι l _ (by simpa [constV] using h)⟩
    | _ => simp [constV] at h
theorem constVs_sound (ι : Plan) : ∀ (l : List AV) (vs : List Value), constVs l vs = true → VRs ι l vs
  | [], vs, h => by
    cases vs with
    | nil => rfl
    | cons _ _ => simp [constVs] at h
  | x :: l, vs, h => by
    cases vs with
    | nil => simp [constVs] at h
    | cons v vs =>
      simp only [constVs, Bool.and_eq_true] at h
      exact ⟨v, vs, rfl, constV_sound ι x v h.1, constVs_sound ι l vs h.2⟩
end
/-- What a check goes by: the program, which slots persist, how many slots there are. -/
structure Cx where
  P : Program
  ps : List Nat
  n : Nat
def chkOpd (X : Cx) : Operand → Opd → Bool
  | .tmp i, .p j => i == j && X.ps.contains i
  | .tmp i, .t j => i == j && !X.ps.contains i
  | .const v, .c x => constV x v
  | .global g, .g h => g == h && decide (g < X.P.globals.size)
  | .func f, .f h => f == h
  | _, _ => false
def chkOpds (X : Cx) : List Operand → List Opd → Bool
  | [], [] => true
  | x :: l, y :: m => chkOpd X x y && chkOpds X l m
  | _, _ => false
def chkOpt (X : Cx) : Option Operand → Option Opd → Bool
  | none, none => true
  | some x, some y => chkOpd X x y
  | _, _ => false
def chkDst (X : Cx) : Option Tmp → Dst → Bool
  | none, .no => true
  | some i, .p j => i == j && X.ps.contains i && decide (i < X.n)
  | some i, .t j => i == j && !X.ps.contains i && decide (i < X.n)
  | _, _ => false
def tySize (P : Program) (t : TypeId) : Option Nat := (P.info? t).map (·.size)
def tyBytes (P : Program) (t : TypeId) : Option Nat := (P.info? t).map (·.bytes)
def tyZero (P : Program) (t : TypeId) : Option Value := (P.info? t).bind (·.zero)
def tyAgg (P : Program) (t : TypeId) : Option Bool :=
  match P.underlying t with
  | some (.struct _) => some true
  | some (.array _ _) => some true
  | some _ => some false
  | none => none
/-- The parts of a literal: where each goes, how many cells it has. -/
def chkParts (X : Cx) (place : Nat → Option (Nat × Nat)) : List (Nat × Operand) → List (Nat × Nat × Opd) → Bool
  | [], [] => true
  | (i, x) :: l, (off, sz, y) :: m => decide (place i = some (off, sz)) && chkOpd X x y && chkParts X place l m
  | _, _ => false
def fieldPlaces (P : Program) (fs : Array Field) : Option (List (Nat × Nat)) := fs.toList.mapM fun f => (tySize P f.type).map fun n => (f.offset, n)
def scalarTy (P : Program) (t : TypeId) : Option SK :=
  match P.underlying t with
  | some .bool => some .b
  | some (.int _) => some .i
  | some .string => some .s
  | _ => none
def eqOffs (P : Program) : List Field → Option (List (Nat × SK))
  | [] => some []
  | f :: r => match eqOffs P r with
    | none => none
    | some l => if f.name ≠ "_" then (match scalarTy P f.type with | some k => some ((f.offset, k) :: l) | none => none) else some l
def isElemInt (P : Program) (e : TypeId) (k : IntKind) : Bool :=
  match P.underlying e with
  | some (.int j) => decide (j = k)
  | _ => false
def eqOp : BinOp → Bool → Bool
  | .eql, neg => !neg
  | .neq, neg => neg
  | _, _ => false
def eqKOk (P : Program) (ty : TypeId) (k : EqK) : Bool :=
  match k, P.underlying ty with
  | .bool, some .bool => true
  | .ptr, some (.pointer _) => true
  | .slice, some (.slice _) => true
  | .map, some (.map _ _) => true
  | .func, some (.func _ _ _) => true
  | .iface, some (.interface _) => true
  | .agg l, some (.struct fs) => (!P.eqGuardType P.depth ty) && (!P.stoodInHeld ty) && decide (eqOffs P fs.toList = some l)
  | _, _ => false
def notIface (P : Program) (t : TypeId) : Bool :=
  match P.underlying t with
  | some (.interface _) => false
  | some _ => true
  | none => false
def okZero (P : Program) (t : TypeId) : Bool → Option AV → Bool
  | true, some z => (match tyZero P t with | some v => constV z v | none => false)
  | false, none => true
  | _, _ => false
def isIntTo (P : Program) (s d : TypeId) (k : IntKind) : Bool :=
  match P.underlying s, P.underlying d with
  | some _, some (.int k') => decide (k = k')
  | _, _ => false
def isIdxByte (P : Program) (f : FuncId) : Bool :=
  match P.funcs[f]? with
  | some fn => fn.body.isNone && (fn.name == "internal/bytealg.IndexByteString") && (fn.origin == "")
  | none => false
def isExt (P : Program) (name : String) (f : FuncId) : Bool :=
  match P.funcs[f]? with
  | some fn => fn.body.isNone && (fn.name == name) && (fn.origin == "")
  | none => false
def isC : Operand → Bool
  | .const _ => true
  | _ => false
/-- Interfaces: one of the two is a constant. -/
def ifcK : EqK → Operand → Operand → Bool
  | .iface, x, y => isC x || isC y
  | _, _, _ => true
def chkExt (X : Cx) (op : Op) (k : ExtK) (xs : List Opd) : Bool :=
  match op, k with
  | .convert s d x, .toU => (match X.P.underlying s, X.P.underlying d with
    | some (.pointer t), some .unsafePointer => (match tySize X.P t with | some n => decide (0 < n) | none => false)
    | _, _ => false) && chkOpds X [x] xs
  | .convert s d x, .fromU e sz => (match X.P.underlying s, X.P.underlying d with
    | some .unsafePointer, some (.pointer u) => u == e && (X.P.info? u).isSome && sz == X.P.cellsOf e && decide (0 < sz)
    | _, _ => false) && chkOpds X [x] xs
  | .binOp op t x y _, .peq neg => eqOp op neg && (match X.P.underlying t with | some (.pointer te) => (X.P.info? te).isSome | _ => false) && chkOpds X [x, y] xs
  | .store t a x, .stT => (tySize X.P t == some 1) && chkOpds X [a, x] xs
  | .alloc e', .allocT e z => e == e' && chkOpds X [] xs && (match tyZero X.P e with | some v => constVs z v.cells.toList | none => false)
  | .call { callee := .builtin b, args, argTypes }, k => (match b, k with
    | .unsafeSliceData, .sdata => chkOpds X args.toList xs
    | .unsafeString, .ustr e => chkOpds X args.toList xs && X.P.cellsOf e == 1 && (match argTypes.toList with
      | [t0, _] => (match X.P.underlying t0 with | some (.pointer e') => e' == e | _ => false)
      | _ => false)
    | .copy, .copy0 => chkOpds X args.toList xs && (match argTypes.toList with
      | [t0, _] => (match X.P.underlying t0 with | some (.slice e) => (tySize X.P e).isSome | _ => false)
      | _ => false)
    | .append, .apps e => chkOpds X args.toList xs &&
      (match argTypes.toList with
       | [t0, t1] => (match X.P.underlying t0, X.P.underlying t1 with
         | some (.slice e'), some .string => e' == e && (tySize X.P e == some 1) && (tyBytes X.P e == some 1) && (match tyZero X.P e with | some zv => zv.cells.size == 1 | none => false)
         | _, _ => false)
       | _ => false)
    | .append, .appb e => chkOpds X args.toList xs &&
      (match argTypes.toList with
       | [t0, t1] => (match X.P.underlying t0, X.P.underlying t1 with
         | some (.slice e'), some (.slice _) => e' == e && (tySize X.P e == some 1) && (tyBytes X.P e == some 1) && (match tyZero X.P e with | some zv => zv.cells.size == 1 | none => false)
         | _, _ => false)
       | _ => false)
    | _, _ => false)
  | .call { callee := .value (.func f), args, .. }, .same => chkOpds X args.toList xs && isExt X.P "internal/abi.NoEscape" f
  | .call { callee := .value (.func f), args, .. }, .mknz e => chkOpds X args.toList xs && isExt X.P "internal/bytealg.MakeNoZero" f && (match X.P.funcs[f]? with
    | some fn => (match fn.resultTypes.toList with | [t] => (match X.P.underlying t with | some (.slice e') => e' == e | _ => false) | _ => false)
    | none => false)
  | _, _ => false
def chkOp (X : Cx) (op : Op) (c : COp) : Bool :=
  match op, c with
  | op, .ext k xs => chkExt X op k xs
  | .move x, .mov y => chkOpd X x y
  | .assign x, .mov y => chkOpd X x y
  | .pick c a b, .pick c' a' b' => chkOpd X c c' && chkOpd X a a' && chkOpd X b b'
  | .alloc e, .alloc z => (match tyZero X.P e with | some v => constVs z v.cells.toList | none => false)
  | .box _ x, .box y => chkOpd X x y
  | .build t ps, .build z qs => (match tyZero X.P t with | some v => constVs z v.cells.toList | none => false) &&
    (match X.P.underlying t with
     | some (.struct fs) => (match fieldPlaces X.P fs with | some pl => chkParts X (pl[·]?) ps.toList qs | none => false)
     | some (.array _ e) => (match tySize X.P e with | some s => chkParts X (fun i => some (i * s, s)) ps.toList qs | none => false)
     | _ => false)
  | .buildSlice t len ps, .lit z n qs => len == n &&
    (match X.P.underlying t with
     | some (.slice e) => (match tySize X.P e, tyZero X.P e with
       | some s, some zv => decide (len * s ≤ 16777216) && constVs z ((List.range (len * s)).map fun i => zv.cells.getD (i % zv.cells.size) undef) && decide (0 < zv.cells.size) && chkParts X (fun i => some (i * s, s)) ps.toList qs
       | _, _ => false)
     | _ => false)
  | .load t x, .load1 y => (tyAgg X.P t == some false) && chkOpd X x y
  | .load t x, .loadN n y => (tyAgg X.P t == some true) && (tySize X.P t == some n) && chkOpd X x y
  | .store t a x, .store n b y => (tySize X.P t == some n) && chkOpd X a b && chkOpd X x y
  | .nilCheck x, .nilCheck y => chkOpd X x y
  | .binOp op _ x y _, .bin op' x' y' => decide (op = op') && chkOpd X x x' && chkOpd X y y'
  | .binOp op t x y _, .eqv neg k x' y' => eqOp op neg && chkOpd X x x' && chkOpd X y y' && eqKOk X.P t k && ifcK k x y
  | .unOp op _ x, .un op' y => decide (op = op') && chkOpd X x y
  | .convert s d x, .convI k y => isIntTo X.P s d k && chkOpd X x y
  | .convert s d x, .strStr y => (match X.P.underlying s, X.P.underlying d with | some _, some .string => true | _, _ => false) && chkOpd X x y
  | .convert s d x, .intStr y => (match X.P.underlying s, X.P.underlying d with | some _, some .string => true | _, _ => false) && chkOpd X x y
  | .convert s d x, .strBytes y => (match X.P.underlying s, X.P.underlying d with | some _, some (.slice e) => isElemInt X.P e .u8 | _, _ => false) && chkOpd X x y
  | .convert s d x, .bytesStr y => (match X.P.underlying s, X.P.underlying d with | some (.slice e), some .string => isElemInt X.P e .u8 | _, _ => false) && chkOpd X x y
  | .makeInterface t x, .mkIface t' y => t == t' && notIface X.P t && chkOpd X x y
  | .makeFunc (.func f) first caps, .mkFn f' caps' => f == f' && first.isEmpty && chkOpds X caps.toList caps'
  | .makeSlice t l c, .mkSlice z bytes l' c' => chkOpd X l l' && chkOpd X c c' &&
    (match X.P.underlying t with
     | some (.slice e) => (match tySize X.P e, tyZero X.P e with
       | some s, some zv => (tyBytes X.P e == some bytes) && constVs z zv.cells.toList && s == zv.cells.size && decide (0 < s)
       | _, _ => false)
     | _ => false)
  | .slice t x lo hi mx, .sliceStr y lo' hi' => (match X.P.underlying t with | some .string => true | _ => false) && chkOpd X x y && chkOpt X lo lo' && chkOpt X hi hi' && mx.isNone
  | .slice t x lo hi mx, .sliceSl sz y lo' hi' mx' => (match X.P.underlying t with | some (.slice e) => tySize X.P e == some sz | _ => false) && chkOpd X x y && chkOpt X lo lo' && chkOpt X hi hi' && chkOpt X mx mx' && (mx.isNone || hi.isSome)
  | .slice t x lo hi mx, .sliceArr n sz y lo' hi' mx' => (match X.P.underlying t with | some (.array n' e) => n' == n && tySize X.P e == some sz | _ => false) && chkOpd X x y && chkOpt X lo lo' && chkOpt X hi hi' && chkOpt X mx mx' && (mx.isNone || hi.isSome)
  | .fieldAddr s x f, .fieldAddr off y => (match X.P.underlying s with
     | some (.struct fs) => (match fs[f]? with
       | some fd => fd.offset == off && (match tySize X.P fd.type with | some n => decide (0 < n) | none => false)
       | none => false)
     | _ => false) && chkOpd X x y
  | .field s x f, .field1 off y => (match X.P.underlying s with
     | some (.struct fs) => (match fs[f]? with
       | some fd => fd.offset == off && (tyAgg X.P fd.type == some false)
       | none => false)
     | _ => false) && chkOpd X x y
  | .field s x f, .fieldN off n y => (match X.P.underlying s with
     | some (.struct fs) => (match fs[f]? with
       | some fd => fd.offset == off && (tyAgg X.P fd.type == some true) && (tySize X.P fd.type == some n)
       | none => false)
     | _ => false) && chkOpd X x y
  | .indexAddr t x i, .idxAddr sz x' i' => (match X.P.underlying t with | some (.slice e) => tySize X.P e == some sz | _ => false) && chkOpd X x x' && chkOpd X i i'
  | .indexAddr t x i, .idxArr n sz x' i' => (match X.P.underlying t with | some (.array n' e) => n' == n && tySize X.P e == some sz | _ => false) && chkOpd X x x' && chkOpd X i i'
  | .index t x i, .idxStr x' i' => (match X.P.underlying t with | some .string => true | _ => false) && chkOpd X x x' && chkOpd X i i'
  | .index t x i, .idxAgg n x' i' => (match X.P.underlying t with | some (.array n' e) => n' == n && tySize X.P e == some 1 && (tyAgg X.P e == some false) | _ => false) && chkOpd X x x' && chkOpd X i i'
  | .extract x i, .extract y j => i == j && chkOpd X x y
  | .call { callee := .builtin b, args, argTypes }, c => (match b, c with
     | .len, .lenStr y => (match (argTypes[0]?).bind X.P.underlying with | some .string => true | _ => false) && chkOpds X args.toList [y]
     | .len, .lenSl y => (match (argTypes[0]?).bind X.P.underlying with | some (.slice _) => true | _ => false) && chkOpds X args.toList [y]
     | .cap, .capSl y => (match (argTypes[0]?).bind X.P.underlying with | some (.slice _) => true | _ => false) && chkOpds X args.toList [y]
     | .append, .append sz bytes x y => chkOpds X args.toList [x, y] && decide (0 < sz) &&
       (match argTypes.toList with
        | [t0, t1] => (match X.P.underlying t0, X.P.underlying t1 with
          | some (.slice e), some (.slice _) => (tySize X.P e == some sz) && (tyBytes X.P e == some bytes) && decide (0 < bytes) && (match tyZero X.P e with | some zv => zv.cells.size == sz | none => false)
          | _, _ => false)
        | _ => false)
     | .append, .appendStr x y => chkOpds X args.toList [x, y] &&
       (match argTypes.toList with
        | [t0, t1] => (match X.P.underlying t0, X.P.underlying t1 with
          | some (.slice e), some .string => (tySize X.P e == some 1) && (tyBytes X.P e == some 1) && (match tyZero X.P e with | some zv => zv.cells.size == 1 | none => false)
          | _, _ => false)
        | _ => false)
     | .append, .appendZ z bytes x y => chkOpds X args.toList [x, y] && decide (0 < z.length) &&
       (match argTypes.toList with
        | [t0, t1] => (match X.P.underlying t0, X.P.underlying t1 with
          | some (.slice e), some (.int _) => (tySize X.P e == some z.length) && (tyBytes X.P e == some bytes) && decide (0 < bytes) && z.all AV.one && (match tyZero X.P e with | some zv => constVs z zv.cells.toList | none => false)
          | _, _ => false)
        | _ => false)
     | .min, .minmax mx ys => !mx && chkOpds X args.toList ys
     | .max, .minmax mx ys => mx && chkOpds X args.toList ys
     | .recover, .recover => true
     | .panic, .panic y => chkOpds X args.toList [y]
     | _, _ => false)
  | .typeAssert x _ t ok, .assert t' zero y => t == t' && chkOpd X x y && notIface X.P t && okZero X.P t ok zero
  | .range t x, .rangeStr y => (match X.P.underlying t with | some .string => true | _ => false) && chkOpd X x y
  | .next x s, .nextStr y => s && chkOpd X x y
  | .call { callee := .value (.func f), args, .. }, .idxByte x y => chkOpds X args.toList [x, y] && isIdxByte X.P f
  | .call { callee := .value (.func f), args, .. }, .call f' args' => f == f' && chkOpds X args.toList args'
  | .call { callee := .value (.func f), args, .. }, .callP g f' args' => f == f' && chkOpds X args.toList args' && g == X.P.globals.size
  | .call { callee := .value x, args, .. }, .callV y args' => chkOpd X x y && chkOpds X args.toList args'
  | .defer { callee := .value x, args, .. }, .dfr y args' => chkOpd X x y && chkOpds X args.toList args'
  | .panic x, .panic y => chkOpd X x y
  | _, _ => false
end Go.Ev
/- Soundness of the simple operations: values, fields, indexes. -/
namespace Go.Ev
open Go Go.RowKit
/-- The slots of a frame hold what the abstract slots hold. -/
structure Env (X : Cx) (ι : Plan) (p t : List (Nat × AV)) (tmps : Array Value) : Prop where
  fp : ∀ i v, lk i p = some v → VR ι v (tmps.getD i undef)
  ft : ∀ i v, lk i t = some v → VR ι v (tmps.getD i undef)
  fg : ∀ g, g < X.P.globals.size → ∃ e, ι g = some ⟨g, 0, e⟩
  pk : ∀ i v, lk i p = some v → X.ps.contains i = true
  tk : ∀ i v, lk i t = some v → X.ps.contains i = false
theorem Env.mono {X : Cx} {ι ι' : Plan} {p t : List (Nat × AV)} {tmps : Array Value} (h : Env X ι p t tmps) (hle : ι.le ι') : Env X ι' p t tmps where
  fp := fun i v e => VR.mono hle _ _ (h.fp i v e)
  ft := fun i v e => VR.mono hle _ _ (h.ft i v e)
  fg := fun g hg => let ⟨e, he⟩ := h.fg g hg; ⟨e, hle _ _ he⟩
  pk := h.pk
  tk := h.tk
def OpOK (X : Cx) (a : Act) (o : Oper) (B : Nat) (ι : Plan) (w : World) (v : AV) (H' : Heap) : Prop :=
  ∃ nx w' v', (execOp a.eval o).run X.P w = .ok nx w' ∧ (nx = .value v' ∨ (nx = .skip ∧ v' = undef)) ∧ Good B ι w H' w' (fun ι' => VR ι' v v')
section
variable {X : Cx} {ι : Plan} {B : Nat} {H H' : Heap} {w : World} {a : Act} {p t : List (Nat × AV)} {o : Oper} {v : AV}
theorem rho_sound (hE : Env X ι p t a.tmps) : ∀ {x : Operand} {y : Opd} {v : AV}, chkOpd X x y = true → rho p t y = some v → VR ι v (a.eval x) := by
  intro x y v hc hv
  cases x <;> cases y <;> simp only [chkOpd, Bool.and_eq_true, beq_iff_eq, Bool.false_eq_true] at hc
  case tmp.p i j => obtain ⟨rfl, _⟩ := hc; exact hE.fp _ _ hv
  case tmp.t i j => obtain ⟨rfl, _⟩ := hc; exact hE.ft _ _ hv
  case const.c u x => simp only [rho, Option.some.injEq] at hv; subst hv; exact constV_sound ι _ _ hc
  case global.g g h =>
    obtain ⟨rfl, h2⟩ := hc
    simp only [rho, Option.some.injEq] at hv; subst hv
    obtain ⟨e, he⟩ := hE.fg g (of_decide_eq_true h2)
    exact ⟨_, he, rfl⟩
  case func.f f h => subst hc; simp only [rho, Option.some.injEq] at hv; subst hv; exact ⟨#[], rfl, rfl⟩
theorem rhos_sound (hE : Env X ι p t a.tmps) : ∀ {xs : List Operand} {ys : List Opd} {vs : List AV}, chkOpds X xs ys = true → rhos p t ys = some vs → VRs ι vs (xs.map a.eval)
  | [], [], vs, _, hv => by simp only [rhos, Option.some.injEq] at hv; subst hv; rfl
  | [], _ :: _, _, hc, _ => by simp [chkOpds] at hc
  | _ :: _, [], _, hc, _ => by simp [chkOpds] at hc
  | x :: xs, y :: ys, vs, hc, hv => by
    simp only [chkOpds, Bool.and_eq_true] at hc
    simp only [rhos] at hv
    split at hv
    · cases hv
    · rename_i u hu
      split at hv
      · cases hv
      · rename_i l hl
        injection hv with hv; subst hv
        exact ⟨_, _, rfl, rho_sound hE hc.1 hu, rhos_sound hE hc.2 hl⟩
theorem OpOK.val {u : Value} (hR : Rel B ι H w) (hrun : (execOp a.eval o).run X.P w = .ok (.value u) w) (hr : VR ι v u) : OpOK X a o B ι w v H :=
  ⟨_, w, u, hrun, .inl rfl, ι, ι.le_refl, hR, Below.refl _ _, hr⟩
theorem s_mov {x : Operand} {y : Opd} (ho : o.op = .move x ∨ o.op = .assign x) (hE : Env X ι p t a.tmps) (hR : Rel B ι H w) (hc : chkOpd X x y = true)
    (hev : evOp (rho p t) H (.mov y) = some (v, H')) : OpOK X a o B ι w v H' := by
  simp only [evOp, Option.map_eq_some_iff] at hev
  obtain ⟨u, hu, e⟩ := hev
  injection e with e1 e2; subst e1; subst e2
  refine OpOK.val hR ?_ (rho_sound hE hc hu)
  rcases ho with ho | ho <;> simp [execOp, ho]
theorem VR.bool_inv {b : Bool} {u : Value} (h : VR ι (.bool b) u) : u = .bool b := h
theorem s_pick {c x y : Operand} {c' x' y' : Opd} (ho : o.op = .pick c x y) (hE : Env X ι p t a.tmps) (hR : Rel B ι H w)
    (hc : (chkOpd X c c' && chkOpd X x x' && chkOpd X y y') = true)
    (hev : evOp (rho p t) H (.pick c' x' y') = some (v, H')) : OpOK X a o B ι w v H' := by
  simp only [Bool.and_eq_true] at hc
  simp only [evOp] at hev
  split at hev
  · rename_i hb
    obtain ⟨u, hu, e⟩ := Option.map_eq_some_iff.1 hev
    injection e with e1 e2; subst e1; subst e2
    have h1 := rho_sound hE hc.1.1 hb
    refine OpOK.val hR ?_ (rho_sound hE hc.1.2 hu)
    simp [execOp, ho, h1.bool_inv, asBool]
  · rename_i hb
    obtain ⟨u, hu, e⟩ := Option.map_eq_some_iff.1 hev
    injection e with e1 e2; subst e1; subst e2
    have h1 := rho_sound hE hc.1.1 hb
    refine OpOK.val hR ?_ (rho_sound hE hc.2 hu)
    simp [execOp, ho, h1.bool_inv, asBool]
  · cases hev
theorem run_ti {P : Program} {t : TypeId} {i : TypeInfo} (w : World) (h : P.info? t = some i) : (typeInfo t).run P w = .ok i w := by
  simp [typeInfo, h]
theorem run_zeroValue' {P : Program} {t : TypeId} {z : Value} (h : tyZero P t = some z) (w : World) : (zeroValue t).run P w = .ok z w := by
  unfold tyZero at h
  cases hi : P.info? t with
  | none => simp [hi] at h
  | some i => simp [hi] at h; simp [zeroValue, run_ti w hi, h]
theorem run_sizeOf' {P : Program} {t : TypeId} {n : Nat} (h : tySize P t = some n) (w : World) : (sizeOf t).run P w = .ok n w := by
  unfold tySize at h
  cases hi : P.info? t with
  | none => simp [hi] at h
  | some i => simp [hi] at h; simp [sizeOf, run_ti w hi, h]
theorem run_bytes' {P : Program} {t : TypeId} {n : Nat} (h : tyBytes P t = some n) (w : World) : ∃ i, (typeInfo t).run P w = .ok i w ∧ i.bytes = n := by
  unfold tyBytes at h
  cases hi : P.info? t with
  | none => simp [hi] at h
  | some i => simp [hi] at h; exact ⟨i, run_ti w hi, h⟩
theorem run_isAgg' {P : Program} {t : TypeId} {b : Bool} (h : tyAgg P t = some b) (w : World) : (isAgg t).run P w = .ok b w := by
  unfold tyAgg at h
  cases hu : P.underlying t with
  | none => simp [hu] at h
  | some d => cases d <;> simp [hu] at h <;> subst h <;> simp [isAgg, run_underlying hu]
/-- A new variable, whatever it holds. -/
theorem new_sound {c : List AV} {vs : Array Value} (e : TypeId) (hR : Rel B ι H w) (hr : VRs ι c vs.toList) :
    ι.le (ι.add H.size ⟨w.heap.size, 0, c.length⟩) ∧ Rel B (ι.add H.size ⟨w.heap.size, 0, c.length⟩) (H.push (.cells c .own)) (w.alloc (.cells vs e)) ∧ Below B w (w.alloc (.cells vs e)) := by
  have hlen : vs.size = c.length := by have := hr.length; simpa using this
  obtain ⟨h1, h2⟩ := hR.push_cells (w' := w.alloc (.cells vs e)) c c.length (by simp) (fun k hk => Below.heap_alloc _ _ _ hk)
    (fun i x hx => by
      obtain ⟨u, hu, hru⟩ := hr.get hx
      exact ⟨u, by rw [World.cell?_alloc_new]; simpa using hu, hru⟩)
    ⟨Nat.le_refl _, fun i hi => by
      rw [World.cell?_alloc_new, World.frozen?_alloc_new]
      exact ⟨⟨vs[i], by simp [hlen, hi]⟩, rfl⟩⟩
  exact ⟨h1, h2, (Below.refl B w).alloc hR.size _⟩
theorem s_alloc {e : TypeId} {z : List AV} (ho : o.op = .alloc e) (hR : Rel B ι H w)
    (hc : (match tyZero X.P e with | some v => constVs z v.cells.toList | none => false) = true)
    (hev : evOp (rho p t) H (.alloc z) = some (v, H')) : OpOK X a o B ι w v H' := by
  simp only [evOp, Option.some.injEq, Prod.mk.injEq] at hev
  obtain ⟨e1, e2⟩ := hev; subst e1; subst e2
  cases hz : tyZero X.P e with
  | none => simp [hz] at hc
  | some zv =>
    simp only [hz] at hc
    obtain ⟨h1, h2, h3⟩ := new_sound (c := z) (vs := zv.cells) e hR (constVs_sound ι _ _ hc)
    refine ⟨_, _, .pointer (some ⟨w.heap.size, 0, none⟩), ?_, .inl rfl, _, h1, h2, h3, ⟨_, Plan.add_self _ _ _, by simp⟩⟩
    simp [execOp, ho, Instr.alloc, run_zeroValue' hz, newVar, newRow]
theorem s_box {e : TypeId} {x : Operand} {y : Opd} (ho : o.op = .box e x) (hE : Env X ι p t a.tmps) (hR : Rel B ι H w) (hc : chkOpd X x y = true)
    (hev : evOp (rho p t) H (.box y) = some (v, H')) : OpOK X a o B ι w v H' := by
  simp only [evOp] at hev
  split at hev
  · rename_i u hu
    simp only [Option.some.injEq, Prod.mk.injEq] at hev
    obtain ⟨e1, e2⟩ := hev; subst e1; subst e2
    have hr := rho_sound hE hc hu
    obtain ⟨h1, h2, h3⟩ := new_sound (c := u.cells) (vs := (a.eval x).cells) e hR hr.cells
    refine ⟨_, _, .pointer (some ⟨w.heap.size, 0, none⟩), ?_, .inl rfl, _, h1, h2, h3, ⟨_, Plan.add_self _ _ _, by simp⟩⟩
    simp [execOp, ho, Instr.box, newVar, newRow]
  · cases hev
theorem wr_foldl : ∀ (xs : List AV) (us : List Value) (c : List AV) (vs : Array Value) (off j : Nat), VRs ι xs us → VRs ι c vs.toList →
    VRs ι (wr c (off + j) xs) ((us.zipIdx j).foldl (fun (cs : Array Value) (cj : Value × Nat) => cs.setIfInBounds (off + cj.2) cj.1) vs).toList
  | [], us, c, vs, off, j, h, hc => by
    have : us = [] := h
    subst this; exact hc
  | x :: xs, _, c, vs, off, j, ⟨u, us', e, hr, hrs⟩, hc => by
    subst e
    simp only [List.zipIdx_cons, List.foldl_cons, wr]
    refine wr_foldl xs us' (c.set (off + j) x) (vs.setIfInBounds (off + j) u) off (j + 1) hrs ?_
    refine VRs.intro (by simp [hc.length]) fun i y hy => ?_
    rw [List.getElem?_set] at hy
    by_cases e : off + j = i
    · subst e
      rw [if_pos rfl] at hy
      split at hy
      · rename_i hlt
        injection hy with hy; subst hy
        exact ⟨u, by rw [Array.toList_setIfInBounds, List.getElem?_set, if_pos rfl, if_pos (by rw [hc.length]; exact hlt)], hr⟩
      · cases hy
    · rw [if_neg e] at hy
      obtain ⟨z, hz, hrz⟩ := hc.get hy
      exact ⟨z, by rw [Array.toList_setIfInBounds, List.getElem?_set, if_neg e]; exact hz, hrz⟩
theorem fill_sound (hE : Env X ι p t a.tmps) (place : Nat → Option (Nat × Nat)) : ∀ (ps : List (Nat × Operand)) (qs : List (Nat × Nat × Opd)) (c r : List AV) (vs : Array Value),
    chkParts X place ps qs = true → fillA (rho p t) c qs = some r → VRs ι c vs.toList →
    ∃ us, Instr.fill place vs (ps.map fun (i, x) => (i, a.eval x)) = some us ∧ VRs ι r us.toList
  | [], [], c, r, vs, _, hf, hv => by simp only [fillA, Option.some.injEq] at hf; subst hf; exact ⟨vs, rfl, hv⟩
  | [], _ :: _, _, _, _, hc, _, _ => by simp [chkParts] at hc
  | _ :: _, [], _, _, _, hc, _, _ => by simp [chkParts] at hc
  | (i, x) :: ps, (off, sz, y) :: qs, c, r, vs, hc, hf, hv => by
    simp only [chkParts, Bool.and_eq_true, decide_eq_true_eq] at hc
    obtain ⟨⟨hp, hx⟩, hrest⟩ := hc
    simp only [fillA] at hf
    split at hf
    · cases hf
    · rename_i u hu
      split at hf
      · rename_i hlen
        have hr := rho_sound hE hx hu
        have hrc := hr.cells
        have hsz : (a.eval x).cells.size = u.cells.length := by have := hrc.length; simpa using this
        have hvs : vs.size = c.length := by have := hv.length; simpa using this
        simp only [List.map_cons, Instr.fill, hp]
        rw [if_neg (by simp [hsz, hlen.1, hvs]; have := hlen.2; omega)]
        have hw := wr_foldl u.cells (a.eval x).cells.toList c vs off 0 hrc hv
        rw [Nat.add_zero] at hw
        obtain ⟨us, h1, h2⟩ := fill_sound hE place ps qs (wr c off u.cells) r _ hrest hf hw
        refine ⟨us, ?_, h2⟩
        rw [← h1]
        congr 1
        rw [← Array.foldl_toList]
        congr 1
        simp
      · cases hf
end
end Go.Ev
