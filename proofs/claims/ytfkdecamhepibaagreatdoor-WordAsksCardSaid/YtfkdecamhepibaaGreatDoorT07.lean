/- Several texts of this claim, joined. -/
import Derived.Test.YtfkdecamhepibaaGreatDoorT06
import Derived.Laws.BytesString
set_option linter.unusedSimpArgs false
set_option linter.unusedVariables false

/- Soundness of the simple operations: conversions, slices, fields, indexes, texts gone through. -/
namespace Go.Ev
open Go Go.RowKit
section
variable {X : Cx} {ι : Plan} {B : Nat} {H H' : Heap} {w : World} {a : Act} {p t : List (Nat × AV)} {o : Oper} {v : AV}
theorem s_un {op : UnOp} {ty : TypeId} {x : Operand} {x' : Opd} (ho : o.op = .unOp op ty x) (hE : Env X ι p t a.tmps) (hR : Rel B ι H w) (hc : chkOpd X x x' = true)
    (hev : evOp (rho p t) H (.un op x') = some (v, H')) : OpOK X a o B ι w v H' := by
  simp only [evOp] at hev
  split at hev
  · rename_i u hu
    simp only [Option.map_eq_some_iff, Prod.mk.injEq] at hev
    obtain ⟨r, hr, e1, e2⟩ := hev; subst e1; subst e2
    have h1 := rho_sound hE hc hu
    unfold unA at hr
    split at hr
    · rename_i k n
      have e : a.eval x = .int k n := h1
      injection hr with hr; subst hr
      exact OpOK.val (u := .int k (k.wrap (0 - n))) hR (by simp [execOp, ho, e, Op.unary, Op.intArith]) rfl
    · rename_i k n
      have e : a.eval x = .int k n := h1
      injection hr with hr; subst hr
      exact OpOK.val hR (by simp only [execOp, ho, e, Op.unary, Op.intBits]; rfl) rfl
    · rename_i b
      have e : a.eval x = .bool b := h1
      injection hr with hr; subst hr
      exact OpOK.val (u := .bool (!b)) hR (by simp [execOp, ho, e, Op.unary]) rfl
    · cases hr
  · cases hev
theorem run_underlying_any {P : Program} {t : TypeId} {d : TypeDesc} (h : P.underlying t = some d) (w : World) : (underlying t).run P w = .ok d w := run_underlying h w
theorem s_convI {s d : TypeId} {k : IntKind} {x : Operand} {x' : Opd} (ho : o.op = .convert s d x) (hE : Env X ι p t a.tmps) (hR : Rel B ι H w) (hd : X.P.underlying d = some (.int k)) (hs : ∃ e, X.P.underlying s = some e) (hc : chkOpd X x x' = true)
    (hev : evOp (rho p t) H (.convI k x') = some (v, H')) : OpOK X a o B ι w v H' := by
  simp only [evOp] at hev
  split at hev
  · rename_i k' n hu
    simp only [Option.some.injEq, Prod.mk.injEq] at hev
    obtain ⟨e1, e2⟩ := hev; subst e1; subst e2
    have e : a.eval x = .int k' n := rho_sound hE hc hu
    obtain ⟨e', hs⟩ := hs
    refine OpOK.val hR ?_ (rfl : VR ι (.int k (k.wrap n)) (.int k (k.wrap n)))
    simp only [execOp, ho, convert, Sem.run_bind, run_underlying hs, run_underlying hd, Result.andThen_ok, e, Conv.intToInt, Sem.run_pure]
  · cases hev
theorem s_strStr {s d : TypeId} {x : Operand} {x' : Opd} (ho : o.op = .convert s d x) (hE : Env X ι p t a.tmps) (hR : Rel B ι H w) (hd : X.P.underlying d = some .string) (hs : ∃ e, X.P.underlying s = some e) (hc : chkOpd X x x' = true)
    (hev : evOp (rho p t) H (.strStr x') = some (v, H')) : OpOK X a o B ι w v H' := by
  simp only [evOp] at hev
  split at hev
  · rename_i n hu
    simp only [Option.some.injEq, Prod.mk.injEq] at hev
    obtain ⟨e1, e2⟩ := hev; subst e1; subst e2
    have e : a.eval x = .string ⟨n.toArray⟩ := rho_sound hE hc hu
    obtain ⟨e', hs⟩ := hs
    refine OpOK.val hR ?_ (rfl : VR ι (.str n) (.string ⟨n.toArray⟩))
    simp only [execOp, ho, convert, Sem.run_bind, run_underlying hs, run_underlying hd, Result.andThen_ok, e, Sem.run_pure]
  · cases hev
theorem s_intStr {s d : TypeId} {x : Operand} {x' : Opd} (ho : o.op = .convert s d x) (hE : Env X ι p t a.tmps) (hR : Rel B ι H w) (hd : X.P.underlying d = some .string) (hs : ∃ e, X.P.underlying s = some e) (hc : chkOpd X x x' = true)
    (hev : evOp (rho p t) H (.intStr x') = some (v, H')) : OpOK X a o B ι w v H' := by
  simp only [evOp] at hev
  split at hev
  · rename_i k n hu
    simp only [Option.some.injEq, Prod.mk.injEq] at hev
    obtain ⟨e1, e2⟩ := hev; subst e1; subst e2
    have e : a.eval x = .int k n := rho_sound hE hc hu
    obtain ⟨e', hs⟩ := hs
    refine OpOK.val (u := .string (Utf8.encode n)) hR ?_ rfl
    simp only [execOp, ho, convert, Sem.run_bind, run_underlying hs, run_underlying hd, Result.andThen_ok, e, Conv.intToString, Sem.run_pure]
  · cases hev
theorem shape_new (w : World) (c : Array Value) (e : TypeId) : (w.alloc (.cells c e)).shape? w.heap.size = some (e, c.size) := by
  simp [-World.alloc_eq, World.shape?, World.alloc]
theorem heap_freeze (w : World) (q : Addr) (n k : Nat) (h : k ≠ q.block) : (w.freeze q n).heap[k]? = w.heap[k]? := by
  unfold World.freeze
  split
  · rfl
  · simp only [Array.getElem?_modify]
    rw [if_neg (Ne.symm h)]
theorem size_freeze (w : World) (q : Addr) (n : Nat) : (w.freeze q n).heap.size = w.heap.size := by
  unfold World.freeze
  split
  · rfl
  · simp
theorem freeze_new (w : World) (c : Array Value) (e : TypeId) : ((w.alloc (.cells c e)).freeze ⟨w.heap.size, c.size, none⟩ 1).heap[w.heap.size]? = some (.cells c e (c.size, c.size + 1)) := by
  simp only [World.freeze, World.alloc]
  rw [if_neg (by omega)]
  simp only [Array.getElem?_modify, if_true, Array.getElem?_push_size, Option.map_some]
  simp
def stbCap (w : World) (e n : Nat) : Nat := (Question.appendCap n 0 e).cut (w.tape w.drawn (Question.appendCap n 0 e))
def stbCells (n : List UInt8) (cap : Nat) : Array Value := (n.toArray.map fun b => Value.int .u8 (b.toNat : Int)) ++ Array.replicate (cap - n.length) (.int .u8 0)
theorem run_stb {P : Program} (w : World) (e : TypeId) (n : List UInt8) :
    (Conv.stringToBytes e ⟨n.toArray⟩).run P w = .ok (.slice (some ⟨w.heap.size, 0, none⟩) n.length (stbCap w e n.length))
      (((w.drew).alloc (.cells (stbCells n (stbCap w e n.length)) e)).freeze ⟨w.heap.size, (stbCells n (stbCap w e n.length)).size, none⟩ 1) := by
  have hs : (w.drew.alloc (.cells (stbCells n (stbCap w e n.length)) e)).shape? w.heap.size = some (e, (stbCells n (stbCap w e n.length)).size) := shape_new w.drew _ e
  unfold stbCap stbCells at *
  simp only [Conv.stringToBytes, Sem.run_bind, run_choose, Question.forced, Bool.false_eq_true, if_false, Result.andThen_ok, newRow, run_newObj, Sem.run_pure, markStringish, ByteArray.size, List.size_toArray, World.drew_eq, World.alloc_eq, run_shape, World.size_drew, hs, run_freeze]
theorem s_strBytes {s d e : TypeId} {x : Operand} {x' : Opd} (ho : o.op = .convert s d x) (hE : Env X ι p t a.tmps) (hR : Rel B ι H w) (hd : X.P.underlying d = some (.slice e)) (he : X.P.underlying e = some (.int .u8)) (hs : ∃ e, X.P.underlying s = some e) (hc : chkOpd X x x' = true)
    (hev : evOp (rho p t) H (.strBytes x') = some (v, H')) : OpOK X a o B ι w v H' := by
  simp only [evOp] at hev
  split at hev
  · rename_i n hu
    split at hev
    · rename_i hlim
      simp only [Option.some.injEq, Prod.mk.injEq] at hev
      obtain ⟨e1, e2⟩ := hev; subst e1; subst e2
      have ex : a.eval x = .string ⟨n.toArray⟩ := rho_sound hE hc hu
      obtain ⟨e', hs⟩ := hs
      have hrun : (execOp a.eval o).run X.P w = .ok (.value (.slice (some ⟨w.heap.size, 0, none⟩) n.length (stbCap w e n.length))) (((w.drew).alloc (.cells (stbCells n (stbCap w e n.length)) e)).freeze ⟨w.heap.size, (stbCells n (stbCap w e n.length)).size, none⟩ 1) := by
        simp only [execOp, ho, convert, Sem.run_bind, run_underlying hs, run_underlying hd, run_underlying he, Result.andThen_ok, ex, run_stb, Sem.run_pure]
      have hcap : n.length ≤ stbCap w e n.length := Nat.le_add_right _ _
      generalize stbCap w e n.length = cap at hrun hcap
      have hsz : (stbCells n cap).size = cap := by simp [stbCells]; omega
      have hget : ∀ i, i < cap → ∃ u, (stbCells n cap)[i]? = some u := fun i hi => ⟨(stbCells n cap)[i], by simp [hsz, hi]⟩
      generalize hcells : stbCells n cap = cells at hrun hsz hget
      have hblk := freeze_new w.drew cells e
      simp only [World.size_drew] at hblk
      generalize hw2 : ((w.drew).alloc (.cells cells e)).freeze ⟨w.heap.size, cells.size, none⟩ 1 = w2 at hrun hblk
      have hold : ∀ k, k < w.heap.size → w2.heap[k]? = w.heap[k]? := fun k hk => by
        rw [← hw2, heap_freeze _ _ _ _ (by simp; omega), Below.heap_alloc _ _ _ (by simpa using hk)]; rfl
      have hwsz : w2.heap.size = w.heap.size + 1 := by rw [← hw2, size_freeze, World.size_alloc, World.size_drew]
      have hcell : ∀ i, w2.cell? ⟨w.heap.size, i, none⟩ = cells[i]? := fun i => by simp [World.cell?, hblk]
      obtain ⟨h1, h2⟩ := hR.push_cells (w' := w2) (byteCells n) cap hwsz hold
        (fun i x hx => by
          rw [hcell]
          simp only [byteCells, List.getElem?_map, Option.map_eq_some_iff] at hx
          obtain ⟨b, hb, rfl⟩ := hx
          have hi : i < n.length := by
            rcases Nat.lt_or_ge i n.length with h | h
            · exact h
            · rw [List.getElem?_eq_none h] at hb; cases hb
          refine ⟨.int .u8 (b.toNat : Int), ?_, rfl⟩
          rw [← hcells]
          rw [stbCells, Array.getElem?_append_left (by simpa using hi)]
          simp [hb])
        ⟨by simpa [byteCells] using hcap, fun i hi => by
          rw [hcell]
          refine ⟨hget i hi, ?_⟩
          simp only [World.frozen?, hblk]
          simp; omega⟩
      refine ⟨_, _, _, hrun, .inl rfl, _, h1, h2, ?_, ⟨_, Plan.add_self _ _ _, .inl ⟨cap, hcap, by simp, by simp⟩⟩⟩
      refine ⟨by rw [← hw2]; unfold World.freeze; split <;> rfl, by rw [← hw2]; unfold World.freeze; split <;> rfl, by rw [← hw2]; unfold World.freeze; split <;> rfl, by omega, fun k hk => hold k (by have := hR.size; omega)⟩
    · cases hev
  · cases hev
theorem bytesOf_sound : ∀ (c : List AV) (s : List UInt8) (vs : List Value), bytesOf c = some s → VRs ι c vs → ∃ ns : List Int, vs = ns.map (Value.int .u8) ∧ s = ns.map fun n => UInt8.ofNat n.toNat
  | [], s, vs, h, hv => by
    simp only [bytesOf, Option.some.injEq] at h; subst h
    have : vs = [] := hv
    exact ⟨[], by simpa using this, rfl⟩
  | x :: c, s, vs, h, ⟨u, us, e, hr, hrs⟩ => by
    cases x <;> first | (simp only [bytesOf, reduceCtorEq] at h; done) | skip
    rename_i k n
    cases k <;> first | (simp only [bytesOf, reduceCtorEq] at h; done) | skip
    simp only [bytesOf] at h
    rw [Option.map_eq_some_iff] at h
    obtain ⟨s', hs', rfl⟩ := h
    obtain ⟨ns, h1, h2⟩ := bytesOf_sound c s' us hs' hrs
    have hu : u = .int .u8 n := hr
    exact ⟨n :: ns, by rw [e, h1, hu]; rfl, by rw [h2]; rfl⟩
/-- The elements of a slice, as the model reads them. -/
theorem readSl_sound2 {P : Program} {sz n : Nat} {x : AV} {x' : Value} {c : List AV} (hR : Rel B ι H w) (h : readSl H sz x = some (n, c)) (hx : VR ι x x') :
    (∃ cap, x' = .slice none 0 cap ∧ n = 0 ∧ c = []) ∨ ∃ q cap vs, x' = .slice (some q) n cap ∧ ((loadCells q (n * sz)).run P w = .ok vs w ∧ (loadCells q (n * sz)).run P w.drew = .ok vs w.drew) ∧ VRs ι c vs.toList := by
  cases x <;> simp only [readSl, reduceCtorEq] at h
  case nils =>
    simp only [Option.some.injEq, Prod.mk.injEq] at h
    exact .inl ⟨0, hx, h.1.symm, h.2.symm⟩
  case slice b off len cap =>
    obtain ⟨L, hL, rfl⟩ := hx
    split at h
    · rename_i h0
      simp only [Option.some.injEq, Prod.mk.injEq] at h
      obtain ⟨rfl, rfl⟩ := h
      exact .inr ⟨_, cap, #[], by rw [h0], ⟨by rw [Nat.zero_mul]; rfl, by rw [Nat.zero_mul]; rfl⟩, rfl⟩
    · split at h
      · rename_i c' u hg
        split at h
        · rename_i hle
          simp only [Option.some.injEq, Prod.mk.injEq] at h
          obtain ⟨rfl, rfl⟩ := h
          obtain ⟨vs, h1, h2⟩ := loadCells_sound2 (P := P) hL hR hg off (len * sz) hle
          exact .inr ⟨_, cap, vs, rfl, h1, h2⟩
        · cases h
      · cases h
  case osl s b off len =>
    split at h
    · split at h
      · rename_i h0
        simp only [Option.some.injEq, Prod.mk.injEq] at h
        obtain ⟨rfl, rfl⟩ := h
        obtain ⟨L, hL, ⟨cc, _, _, rfl⟩ | ⟨_, q, rfl⟩⟩ := hx
        · exact .inr ⟨_, cc, #[], by rw [h0], ⟨by rw [Nat.zero_mul]; rfl, by rw [Nat.zero_mul]; rfl⟩, rfl⟩
        · exact .inr ⟨q, 0, #[], rfl, ⟨by rw [Nat.zero_mul]; rfl, by rw [Nat.zero_mul]; rfl⟩, rfl⟩
      · rename_i h0
        split at h
        · rename_i c' u hg
          split at h
          · rename_i hle
            simp only [Option.some.injEq, Prod.mk.injEq] at h
            obtain ⟨rfl, rfl⟩ := h
            obtain ⟨L, hL, ⟨cc, _, _, rfl⟩ | ⟨h1, q, rfl⟩⟩ := hx
            · obtain ⟨vs, h1, h2⟩ := loadCells_sound2 (P := P) hL hR hg off (len * sz) hle
              exact .inr ⟨_, cc, vs, rfl, h1, h2⟩
            · exact absurd h1 h0
          · cases h
        · cases h
    · cases h
theorem readSl_sound {P : Program} {sz n : Nat} {x : AV} {x' : Value} {c : List AV} (hR : Rel B ι H w) (h : readSl H sz x = some (n, c)) (hx : VR ι x x') :
    (∃ cap, x' = .slice none 0 cap ∧ n = 0 ∧ c = []) ∨ ∃ q cap vs, x' = .slice (some q) n cap ∧ (loadCells q (n * sz)).run P w = .ok vs w ∧ VRs ι c vs.toList := by
  rcases readSl_sound2 (P := P) hR h hx with h | ⟨q, cap, vs, h1, h2, h3⟩
  · exact .inl h
  · exact .inr ⟨q, cap, vs, h1, h2.1, h3⟩
theorem foldl_push : ∀ (ns : List Int) (s : ByteArray), ns.foldl (fun (r : ByteArray) n => r.push (UInt8.ofNat n.toNat)) s = ⟨s.data ++ (ns.map fun n => UInt8.ofNat n.toNat).toArray⟩
  | [], s => by simp
  | n :: ns, s => by
    rw [List.foldl_cons, foldl_push ns]
    congr 1
    simp [ByteArray.push]
theorem s_bytesStr {s d e : TypeId} {x : Operand} {x' : Opd} (ho : o.op = .convert s d x) (hE : Env X ι p t a.tmps) (hR : Rel B ι H w) (hd : X.P.underlying d = some .string) (he : X.P.underlying e = some (.int .u8)) (hs : X.P.underlying s = some (.slice e)) (hc : chkOpd X x x' = true)
    (hev : evOp (rho p t) H (.bytesStr x') = some (v, H')) : OpOK X a o B ι w v H' := by
  simp only [evOp] at hev
  split at hev
  · rename_i u hu
    split at hev
    · rename_i n c hrd
      simp only [Option.map_eq_some_iff, Prod.mk.injEq] at hev
      obtain ⟨s', hs', e1, e2⟩ := hev; subst e1; subst e2
      have hr := rho_sound hE hc hu
      rcases readSl_sound (P := X.P) hR hrd hr with ⟨cap, hx, rfl, rfl⟩ | ⟨q, cap, vs, hx, h1, h2⟩
      · simp only [bytesOf, Option.some.injEq] at hs'; subst hs'
        refine OpOK.val (u := .string .empty) hR ?_ rfl
        simp only [execOp, ho, hx, Sem.run_bind, run_convert_bytes_string w s d e _ _ _ hs he hd, Conv.bytesToString, Sem.run_pure, Result.andThen_ok]
      · obtain ⟨ns, e1, e2⟩ := bytesOf_sound c s' _ hs' h2
        rw [Nat.mul_one] at h1
        have hvs : vs = (ns.map (Value.int .u8)).toArray := by rw [← e1]
        subst hvs
        refine OpOK.val (u := .string ⟨s'.toArray⟩) hR ?_ rfl
        simp only [execOp, ho, hx, Sem.run_bind, run_convert_bytes_string w s d e _ _ _ hs he hd, run_bytesToString w q n cap ns h1, Result.andThen_ok, Sem.run_pure, foldl_push, e2]
        simp [ByteArray.empty, ByteArray.emptyWithCapacity]
        rfl
    · cases hev
  · cases hev
theorem s_mkIface {ty : TypeId} {x : Operand} {x' : Opd} (ho : o.op = .makeInterface ty x) (hE : Env X ι p t a.tmps) (hR : Rel B ι H w) (hd : notIface X.P ty = true) (hc : chkOpd X x x' = true)
    (hev : evOp (rho p t) H (.mkIface ty x') = some (v, H')) : OpOK X a o B ι w v H' := by
  simp only [evOp, Option.map_eq_some_iff, Prod.mk.injEq] at hev
  obtain ⟨u, hu, e1, e2⟩ := hev; subst e1; subst e2
  have hr := rho_sound hE hc hu
  refine OpOK.val hR ?_ ⟨_, rfl, hr⟩
  cases hU : X.P.underlying ty with
  | none => simp [notIface, hU] at hd
  | some D => cases D <;> simp [notIface, hU] at hd <;> simp [execOp, ho, Instr.makeInterface, run_underlying hU]
theorem mapM_rhos : ∀ (l : List Opd) (vs : List AV), l.mapM (rho p t) = some vs → rhos p t l = some vs
  | [], vs, h => by simpa [rhos] using h
  | x :: l, vs, h => by
    simp only [List.mapM_cons] at h
    cases h1 : rho p t x with
    | none => simp [h1] at h
    | some u =>
      cases h2 : l.mapM (rho p t) with
      | none => simp [h1, h2] at h
      | some us =>
        simp [h1, h2] at h; subst h
        simp [rhos, h1, mapM_rhos l us h2]
theorem s_mkFn {f : FuncId} {first caps : Array Operand} {caps' : List Opd} (ho : o.op = .makeFunc (.func f) first caps) (hE : Env X ι p t a.tmps) (hR : Rel B ι H w) (hf : first.isEmpty = true) (hc : chkOpds X caps.toList caps' = true)
    (hev : evOp (rho p t) H (.mkFn f caps') = some (v, H')) : OpOK X a o B ι w v H' := by
  simp only [evOp, Option.map_eq_some_iff, Prod.mk.injEq] at hev
  obtain ⟨u, hu, e1, e2⟩ := hev; subst e1; subst e2
  have hr := rhos_sound hE hc (mapM_rhos _ _ hu)
  have h0 := empty_of_isEmpty hf
  subst h0
  refine OpOK.val (u := .func (.func f) #[] (caps.map a.eval)) hR ?_ ⟨_, rfl, by simpa using hr⟩
  simp [execOp, ho, Instr.makeFunc]
end
end Go.Ev
/- Soundness of the simple operations: slices, fields, indexes. -/
namespace Go.Ev
open Go Go.RowKit
section
variable {X : Cx} {ι : Plan} {B : Nat} {H H' : Heap} {w : World} {a : Act} {p t : List (Nat × AV)} {o : Oper} {v : AV}
theorem zeros_sound {z : List AV} {zs : Array Value} (h : VRs ι z zs.toList) (hp : 0 < zs.size) (n : Nat) : VRs ι (zeros z n) ((Array.range n).map fun i => zs[i % zs.size]!).toList := by
  have hl : zs.size = z.length := by have := h.length; simpa using this
  refine VRs.intro (by simp [zeros]) fun i x hx => ?_
  simp only [zeros, List.getElem?_map, Option.map_eq_some_iff] at hx
  obtain ⟨j, hj, rfl⟩ := hx
  obtain ⟨hin, hji⟩ := List.getElem?_eq_some_iff.1 hj
  simp at hin hji
  subst hji
  have hm : i % z.length < z.length := Nat.mod_lt _ (by omega)
  have hm2 : i % zs.size < zs.size := Nat.mod_lt _ hp
  obtain ⟨u, hu, hr⟩ := h.get (i := i % z.length) (x := z[i % z.length]) (by simp)
  rw [← hl, Array.getElem?_toList, Array.getElem?_eq_getElem hm2] at hu
  injection hu with hu
  refine ⟨u, ?_, by rw [List.getD_eq_getElem?_getD, List.getElem?_eq_getElem hm]; exact hr⟩
  simp [hin, hm2, hu]
theorem asIntOf_int (P : Program) (k : IntKind) (n : Int) (w : World) : (asIntOf (.int k n)).run P w = .ok (k, n) w := rfl
theorem asInt_int (P : Program) (k : IntKind) (n : Int) (w : World) : (asInt (.int k n)).run P w = .ok n w := rfl
theorem wrap_id {n : Int} (h0 : 0 ≤ n) (h1 : n ≤ 1099511627776) : IntKind.i64.wrap n = n := by
  have h : n % (2 : Int) ^ 64 = n := Int.emod_eq_of_lt h0 (by omega)
  simp only [IntKind.wrap, IntKind.bits, IntKind.signed, h]
  rw [if_neg]
  simp; omega
theorem s_mkSlice {ty e : TypeId} {l c : Operand} {l' c' : Opd} {z : List AV} {bytes : Nat} {zv : Value} (ho : o.op = .makeSlice ty l c) (hE : Env X ι p t a.tmps) (hR : Rel B ι H w)
    (hu : X.P.underlying ty = some (.slice e)) (hs : tySize X.P e = some zv.cells.size) (hz : tyZero X.P e = some zv) (hb : tyBytes X.P e = some bytes) (hzc : constVs z zv.cells.toList = true) (hpos : 0 < zv.cells.size) (hc : chkOpd X l l' = true) (hc2 : chkOpd X c c' = true)
    (hev : evOp (rho p t) H (.mkSlice z bytes l' c') = some (v, H')) : OpOK X a o B ι w v H' := by
  simp only [evOp] at hev
  split at hev
  · rename_i k ln hl
    split at hev
    · rename_i k' cn hcn
      split at hev
      · rename_i hlim
        obtain ⟨g1, g2, g3, g4⟩ := hlim
        simp only [Option.some.injEq, Prod.mk.injEq] at hev
        obtain ⟨e1, e2⟩ := hev; subst e1; subst e2
        have el : a.eval l = .int k ln := rho_sound hE hc hl
        have ec : a.eval c = .int k' cn := rho_sound hE hc2 hcn
        have hv0 := constVs_sound ι _ _ hzc
        have hzl : zv.cells.size = z.length := by have := hv0.length; simpa using this
        obtain ⟨i, hi1, hi2⟩ := run_bytes' hb w
        have hzs := zeros_sound hv0 hpos (cn.toNat * z.length)
        obtain ⟨n1, n2, n3⟩ := new_sound e hR hzs
        refine ⟨_, _, .slice (some ⟨w.heap.size, 0, none⟩) ln.toNat cn.toNat, ?_, .inl rfl, _, n1, n2, n3, ⟨_, Plan.add_self _ _ _, by simp⟩⟩
        have wl : IntKind.i64.wrap ln = ln := wrap_id g1 (by omega)
        have wc : IntKind.i64.wrap cn = cn := wrap_id (by omega) (by omega)
        have hbc : (bytes : Int) * cn = cn * bytes := Int.mul_comm _ _
        have t1 : (decide (cn < 0) || decide ((bytes : Int) * cn > 2 ^ 48)) = false := by
          rw [hbc]; simp; omega
        have hcond : ((decide (cn < 0) || decide ((bytes : Int) * cn > 2 ^ 48)) || decide (ln < 0) || decide (ln > cn)) = false := by
          rw [t1]; simp; omega
        simp only [execOp, ho, el, ec, Instr.makeSlice, Sem.run_bind, run_underlying hu, Result.andThen_ok, asInt_int, hi1, hi2, wl, wc, hcond, Bool.false_eq_true, if_false, run_askRoom, run_sizeOf' hs]
        by_cases h0 : cn.toNat * zv.cells.size = 0
        · have : cn.toNat = 0 := by
            rcases Nat.mul_eq_zero.1 h0 with h | h
            · exact h
            · omega
          have z0 : ∀ (f : Nat → Value), Array.map f (Array.range 0) = #[] := fun f => by simp
          simp [this, newRow, z0]
        · have h0' : ¬ (cn.toNat * z.length = 0) := by rw [← hzl]; exact h0
          rw [if_neg h0]
          simp only [run_zeroValue' hz, newRow, Sem.run_bind, Sem.run_pure, Result.andThen_ok, run_newObj, hzl]
          rfl
      · cases hev
    · cases hev
  · cases hev
theorem bnd_none {y d m : Nat} (h : bnd (rho p t) y none d = some m) : m = d := by
  simp only [bnd, Option.some.injEq] at h; exact h.symm
theorem bnd_some {y d m : Nat} {x : Operand} {x' : Opd} (hE : Env X ι p t a.tmps) (hc : chkOpd X x x' = true) (h : bnd (rho p t) y (some x') d = some m) (code : BoundsCode) (w : World) :
    (Instr.sliceBound (a.eval x) y code).run X.P w = .ok m w ∧ m ≤ y := by
  simp only [bnd] at h
  split at h
  · rename_i k i hx
    split at h
    · rename_i hi
      injection h with h; subst h
      have e : a.eval x = .int k i := rho_sound hE hc hx
      refine ⟨?_, by omega⟩
      simp only [Instr.sliceBound, e, Sem.run_bind, asIntOf_int, Result.andThen_ok, if_pos hi, Sem.run_pure]
    · cases h
  · cases h
theorem chkOpt_cases {x : Option Operand} {y : Option Opd} (h : chkOpt X x y = true) : (x = none ∧ y = none) ∨ ∃ x' y', x = some x' ∧ y = some y' ∧ chkOpd X x' y' = true := by
  cases x <;> cases y <;> simp [chkOpt] at h
  · exact .inl ⟨rfl, rfl⟩
  · exact .inr ⟨_, _, rfl, rfl, h⟩
/-- The three bounds of a slice expression. -/
theorem bounds_sound {lo hi mx : Option Operand} {lo' hi' mx' : Option Opd} {len cap m h l : Nat} (hE : Env X ι p t a.tmps) (h1 : chkOpt X lo lo' = true) (h2 : chkOpt X hi hi' = true) (h3 : chkOpt X mx mx' = true) (hm : (mx.isNone || hi.isSome) = true)
    (b1 : bnd (rho p t) cap mx' cap = some m) (b2 : bnd (rho p t) m hi' len = some h) (b3 : bnd (rho p t) h lo' 0 = some l) (isSlice : Bool) (w : World) :
    (Instr.sliceBounds isSlice len cap (lo.map a.eval) (hi.map a.eval) (mx.map a.eval)).run X.P w = .ok (l, h, m) w := by
  rcases chkOpt_cases h1 with ⟨rfl, rfl⟩ | ⟨lx, ly, rfl, rfl, hlc⟩ <;> rcases chkOpt_cases h2 with ⟨rfl, rfl⟩ | ⟨hx, hy, rfl, rfl, hhc⟩ <;> rcases chkOpt_cases h3 with ⟨rfl, rfl⟩ | ⟨mx, my, rfl, rfl, hmc⟩
  all_goals first | (simp at hm; done) | skip
  all_goals first | (have em := bnd_none b1; subst em) | (have em := fun c => (bnd_some hE hmc b1 c w).1)
  all_goals first | (have eh := bnd_none b2; subst eh) | (have eh := fun c => (bnd_some hE hhc b2 c w).1)
  all_goals first | (have el := bnd_none b3; subst el) | (have el := fun c => (bnd_some hE hlc b3 c w).1)
  all_goals simp [Instr.sliceBounds, *]
theorem s_sliceStr {ty : TypeId} {x : Operand} {lo hi mx : Option Operand} {x' : Opd} {lo' hi' : Option Opd} (ho : o.op = .slice ty x lo hi mx) (hE : Env X ι p t a.tmps) (hR : Rel B ι H w) (hu : X.P.underlying ty = some .string)
    (hc : chkOpd X x x' = true) (h1 : chkOpt X lo lo' = true) (h2 : chkOpt X hi hi' = true) (hm : mx = none)
    (hev : evOp (rho p t) H (.sliceStr x' lo' hi') = some (v, H')) : OpOK X a o B ι w v H' := by
  subst hm
  simp only [evOp] at hev
  split at hev
  · rename_i s hs
    split at hev
    · rename_i h hh
      split at hev
      · rename_i l hl
        simp only [Option.some.injEq, Prod.mk.injEq] at hev
        obtain ⟨e1, e2⟩ := hev; subst e1; subst e2
        have e : a.eval x = .string ⟨s.toArray⟩ := rho_sound hE hc hs
        have hb := bounds_sound (mx := none) (mx' := none) hE h1 h2 rfl rfl (rfl : bnd (rho p t) s.length none s.length = some s.length) hh hl false w
        simp only [Option.map_none] at hb
        refine OpOK.val (u := .string ((⟨s.toArray⟩ : ByteArray).extract l h)) hR ?_ ?_
        · have hsz : (⟨s.toArray⟩ : ByteArray).size = s.length := by simp [ByteArray.size]
          simp only [execOp, ho, e, Instr.sliceAt, Instr.slice, Sem.run_bind, run_underlying hu, Result.andThen_ok, Option.map_none, Option.isSome_none, Bool.false_eq_true, if_false, hsz, hb, Sem.run_pure]
        · simp only [VR]
          congr 1
          apply ByteArray.ext
          simp [ByteArray.data_extract]
          rw [List.drop_take]
      · cases hev
    · cases hev
  · cases hev
theorem addr_add (β base off n : Nat) : (⟨β, base + off, none⟩ : Addr).add n = ⟨β, base + (off + n), none⟩ := by
  unfold Addr.add
  split
  · simp; omega
  · simp; omega
theorem s_sliceSl {ty e : TypeId} {sz : Nat} {x : Operand} {lo hi mx : Option Operand} {x' : Opd} {lo' hi' mx' : Option Opd} (ho : o.op = .slice ty x lo hi mx) (hE : Env X ι p t a.tmps) (hR : Rel B ι H w) (hu : X.P.underlying ty = some (.slice e)) (hs : tySize X.P e = some sz)
    (hc : chkOpd X x x' = true) (h1 : chkOpt X lo lo' = true) (h2 : chkOpt X hi hi' = true) (h3 : chkOpt X mx mx' = true) (hm : (mx.isNone || hi.isSome) = true)
    (hev : evOp (rho p t) H (.sliceSl sz x' lo' hi' mx') = some (v, H')) : OpOK X a o B ι w v H' := by
  simp only [evOp] at hev
  split at hev
  · rename_i hx
    have e : a.eval x = .slice none 0 0 := rho_sound hE hc hx
    split at hev
    · rename_i m b1
      split at hev
      · rename_i h b2
        split at hev
        · rename_i l b3
          simp only [Option.some.injEq, Prod.mk.injEq] at hev
          obtain ⟨e1, e2⟩ := hev; subst e1; subst e2
          have hb := bounds_sound hE h1 h2 h3 hm b1 b2 b3 true w
          have z1 : m = 0 := by
            rcases chkOpt_cases h3 with ⟨rfl, rfl⟩ | ⟨_, _, rfl, rfl, hmc⟩
            · exact bnd_none b1
            · have := (bnd_some hE hmc b1 .index w).2; omega
          subst z1
          have z2 : h = 0 := by
            rcases chkOpt_cases h2 with ⟨rfl, rfl⟩ | ⟨_, _, rfl, rfl, hmc⟩
            · exact bnd_none b2
            · have := (bnd_some hE hmc b2 .index w).2; omega
          subst z2
          refine OpOK.val (u := .slice none 0 0) hR ?_ rfl
          simp only [execOp, ho, e, Instr.sliceAt, Instr.slice, Sem.run_bind, run_underlying hu, Result.andThen_ok, hb, run_sizeOf' hs, Sem.run_pure]
          simp
        · cases hev
      · cases hev
    · cases hev
  · rename_i b off n c hx
    obtain ⟨L, hL, e⟩ := rho_sound hE hc hx
    split at hev
    · rename_i m b1
      split at hev
      · rename_i h b2
        split at hev
        · rename_i l b3
          simp only [Option.some.injEq, Prod.mk.injEq] at hev
          obtain ⟨e1, e2⟩ := hev; subst e1; subst e2
          have hb := bounds_sound hE h1 h2 h3 hm b1 b2 b3 true w
          refine OpOK.val (u := .slice (if m = l then some ⟨L.blk, L.base + off, none⟩ else some ⟨L.blk, L.base + (off + l * sz), none⟩) (h - l) (m - l)) hR ?_ ⟨L, hL, ?_⟩
          · simp only [execOp, ho, e, Instr.sliceAt, Instr.slice, Sem.run_bind, run_underlying hu, Result.andThen_ok, hb, run_sizeOf' hs, Sem.run_pure, Option.map_some, addr_add]
          · by_cases hml : m = l <;> simp [hml]
        · cases hev
      · cases hev
    · cases hev
  · rename_i s b off n hx
    obtain ⟨L, hL, e⟩ := rho_sound hE hc hx
    split at hev
    · rename_i hss; subst hss
      split at hev
      · -- three indexes
        rename_i my
        rcases chkOpt_cases h3 with ⟨_, hz⟩ | ⟨mxo, my', rfl, hmy, hmc⟩
        · cases hz
        · injection hmy with hmy; subst hmy
          split at hev
          · rename_i m b1
            split at hev
            · rename_i h b2
              split at hev
              · rename_i l b3
                split at hev
                · cases hev
                · rename_i hn0
                  simp only [Option.some.injEq, Prod.mk.injEq] at hev
                  obtain ⟨e1, e2⟩ := hev; subst e1; subst e2
                  rcases e with ⟨cc, hcc, hext, e⟩ | ⟨h0, q, e⟩
                  · have b1' : bnd (rho p t) cc (some my) cc = some m := by
                      simp only [bnd] at b1 ⊢
                      cases hk : rho p t my with
                      | none => rw [hk] at b1; cases b1
                      | some q =>
                        rw [hk] at b1
                        cases q <;> simp only [reduceCtorEq] at b1 ⊢
                        split at b1
                        · rw [if_pos (by omega)]; exact b1
                        · cases b1
                    have hb := bounds_sound hE h1 h2 h3 hm b1' b2 b3 true w
                    simp only [Option.map_some] at hb
                    refine OpOK.val (u := .slice (if m = l then some ⟨L.blk, L.base + off, none⟩ else some ⟨L.blk, L.base + (off + l * s), none⟩) (h - l) (m - l)) hR ?_ ⟨L, hL, ?_⟩
                    · simp only [execOp, ho, e, Instr.sliceAt, Instr.slice, Sem.run_bind, run_underlying hu, Result.andThen_ok, hb, run_sizeOf' hs, Sem.run_pure, Option.map_some, addr_add]
                    · by_cases hml : m = l <;> simp [hml]
                  · exact absurd h0 hn0
              · cases hev
            · cases hev
          · cases hev
      · -- two
        rcases chkOpt_cases h3 with ⟨rfl, _⟩ | ⟨_, _, _, hz, _⟩
        · split at hev
          · rename_i h b2
            split at hev
            · rename_i l b3
              simp only [Option.some.injEq, Prod.mk.injEq] at hev
              obtain ⟨e1, e2⟩ := hev; subst e1; subst e2
              have hhn : h ≤ n := by
                rcases chkOpt_cases h2 with ⟨rfl, rfl⟩ | ⟨_, _, rfl, rfl, hmc⟩
                · have := bnd_none b2; omega
                · exact (bnd_some hE hmc b2 .index w).2
              have hlh : l ≤ h := by
                rcases chkOpt_cases h1 with ⟨rfl, rfl⟩ | ⟨_, _, rfl, rfl, hmc⟩
                · have := bnd_none b3; omega
                · exact (bnd_some hE hmc b3 .index w).2
              have hbump : ∀ cc, n ≤ cc → bnd (rho p t) cc hi' n = some h := by
                intro cc hcc
                rcases chkOpt_cases h2 with ⟨rfl, rfl⟩ | ⟨_, _, rfl, rfl, hmc⟩
                · exact b2
                · simp only [bnd] at b2 ⊢
                  rename_i hy
                  cases hk : rho p t hy with
                  | none => rw [hk] at b2; cases b2
                  | some q =>
                    rw [hk] at b2
                    cases q <;> simp only [reduceCtorEq] at b2 ⊢
                    split at b2
                    · rw [if_pos (by omega)]; exact b2
                    · cases b2
              rcases e with ⟨cc, hcc, hext, e⟩ | ⟨h0, q, e⟩
              · have hb := bounds_sound (mx := none) (mx' := none) (cap := cc) hE h1 h2 rfl rfl (rfl : bnd (rho p t) cc none cc = some cc) (hbump cc hcc) b3 true w
                refine OpOK.val (u := .slice (if cc = l then some ⟨L.blk, L.base + off, none⟩ else some ⟨L.blk, L.base + (off + l * s), none⟩) (h - l) (cc - l)) hR ?_ ⟨L, hL, ?_⟩
                · simp only [execOp, ho, e, Instr.sliceAt, Instr.slice, Sem.run_bind, run_underlying hu, Result.andThen_ok, hb, run_sizeOf' hs, Sem.run_pure, Option.map_some, addr_add]
                · by_cases hml : cc = l
                  · refine .inr ⟨by omega, _, by rw [if_pos hml]; congr 1 <;> omega⟩
                  · refine .inl ⟨cc - l, by omega, ?_, by rw [if_neg hml]⟩
                    have : l * s + (cc - l) * s = cc * s := by rw [← Nat.add_mul]; congr 1; omega
                    omega
              · subst h0
                have hb := bounds_sound (mx := none) (mx' := none) (cap := 0) hE h1 h2 rfl rfl (rfl : bnd (rho p t) 0 none 0 = some 0) b2 b3 true w
                have : h = 0 := by omega
                subst this
                have : l = 0 := by omega
                subst this
                refine OpOK.val (u := .slice (some q) 0 0) hR ?_ ⟨L, hL, .inr ⟨rfl, q, rfl⟩⟩
                simp only [execOp, ho, e, Instr.sliceAt, Instr.slice, Sem.run_bind, run_underlying hu, Result.andThen_ok, hb, run_sizeOf' hs, Sem.run_pure, if_true]
            · cases hev
          · cases hev
        · cases hz
    · cases hev
  · cases hev
theorem s_sliceArr {ty e : TypeId} {n sz : Nat} {x : Operand} {lo hi mx : Option Operand} {x' : Opd} {lo' hi' mx' : Option Opd} (ho : o.op = .slice ty x lo hi mx) (hE : Env X ι p t a.tmps) (hR : Rel B ι H w) (hu : X.P.underlying ty = some (.array n e)) (hs : tySize X.P e = some sz)
    (hc : chkOpd X x x' = true) (h1 : chkOpt X lo lo' = true) (h2 : chkOpt X hi hi' = true) (h3 : chkOpt X mx mx' = true) (hm : (mx.isNone || hi.isSome) = true)
    (hev : evOp (rho p t) H (.sliceArr n sz x' lo' hi' mx') = some (v, H')) : OpOK X a o B ι w v H' := by
  simp only [evOp] at hev
  split at hev
  · rename_i b off hx
    obtain ⟨L, hL, e⟩ := rho_sound hE hc hx
    split at hev
    · rename_i m b1
      split at hev
      · rename_i h b2
        split at hev
        · rename_i l b3
          simp only [Option.some.injEq, Prod.mk.injEq] at hev
          obtain ⟨e1, e2⟩ := hev; subst e1; subst e2
          have hb := bounds_sound hE h1 h2 h3 hm b1 b2 b3 false w
          refine OpOK.val (u := .slice (some (if m = l then ⟨L.blk, L.base + off, none⟩ else ⟨L.blk, L.base + (off + l * sz), none⟩)) (h - l) (m - l)) hR ?_ ⟨L, hL, ?_⟩
          · simp only [execOp, ho, e, Instr.sliceAt, Instr.sureAddr, Sem.run_bind, run_underlying hu, Result.andThen_ok, hb, run_sizeOf' hs, Sem.run_pure, addr_add]
          · by_cases hml : m = l <;> simp [hml]
        · cases hev
      · cases hev
    · cases hev
  · cases hev
theorem s_fieldAddr {s : TypeId} {f off n : Nat} {fs : Array Field} {fd : Field} {x : Operand} {x' : Opd} (ho : o.op = .fieldAddr s x f) (hE : Env X ι p t a.tmps) (hR : Rel B ι H w) (hu : X.P.underlying s = some (.struct fs)) (hf : fs[f]? = some fd) (hoff : fd.offset = off) (hn : tySize X.P fd.type = some n) (hpos : 0 < n) (hc : chkOpd X x x' = true)
    (hev : evOp (rho p t) H (.fieldAddr off x') = some (v, H')) : OpOK X a o B ι w v H' := by
  simp only [evOp] at hev
  split at hev
  · rename_i b o' hx
    simp only [Option.some.injEq, Prod.mk.injEq] at hev
    obtain ⟨e1, e2⟩ := hev; subst e1; subst e2
    obtain ⟨L, hL, e⟩ := rho_sound hE hc hx
    refine OpOK.val (u := .pointer (some ⟨L.blk, L.base + (o' + off), none⟩)) hR ?_ ⟨L, hL, rfl⟩
    simp only [execOp, ho, e, Instr.fieldAt, Instr.sureAddr, Sem.run_bind, run_underlying hu, Result.andThen_ok, hf, Sem.run_pure, fieldPlace, run_sizeOf' hn, if_neg (show ¬ n = 0 by omega), hoff, addr_add]
  · cases hev
theorem s_field1 {s : TypeId} {f off : Nat} {fs : Array Field} {fd : Field} {x : Operand} {x' : Opd} (ho : o.op = .field s x f) (hE : Env X ι p t a.tmps) (hR : Rel B ι H w) (hu : X.P.underlying s = some (.struct fs)) (hf : fs[f]? = some fd) (hoff : fd.offset = off) (hn : tyAgg X.P fd.type = some false) (hc : chkOpd X x x' = true)
    (hev : evOp (rho p t) H (.field1 off x') = some (v, H')) : OpOK X a o B ι w v H' := by
  simp only [evOp] at hev
  split at hev
  · rename_i l hx
    split at hev
    · rename_i u hu'
      simp only [Option.some.injEq, Prod.mk.injEq] at hev
      obtain ⟨e1, e2⟩ := hev; subst e1; subst e2
      obtain ⟨vs, e, hr⟩ := rho_sound hE hc hx
      obtain ⟨z, hz, hzr⟩ := hr.get hu'
      rw [Array.getElem?_toList] at hz
      refine OpOK.val hR ?_ hzr
      simp only [execOp, ho, e, Instr.field, Sem.run_bind, run_underlying hu, Result.andThen_ok, hf, asAgg, Sem.run_pure, part, run_isAgg' hn, Bool.false_eq_true, if_false, hoff, hz]
    · cases hev
  · cases hev
theorem s_fieldN {s : TypeId} {f off n : Nat} {fs : Array Field} {fd : Field} {x : Operand} {x' : Opd} (ho : o.op = .field s x f) (hE : Env X ι p t a.tmps) (hR : Rel B ι H w) (hu : X.P.underlying s = some (.struct fs)) (hf : fs[f]? = some fd) (hoff : fd.offset = off) (hn : tyAgg X.P fd.type = some true) (hsz : tySize X.P fd.type = some n) (hc : chkOpd X x x' = true)
    (hev : evOp (rho p t) H (.fieldN off n x') = some (v, H')) : OpOK X a o B ι w v H' := by
  simp only [evOp] at hev
  split at hev
  · rename_i l hx
    simp only [Option.some.injEq, Prod.mk.injEq] at hev
    obtain ⟨e1, e2⟩ := hev; subst e1; subst e2
    obtain ⟨vs, e, hr⟩ := rho_sound hE hc hx
    refine OpOK.val (u := .agg (vs.extract off (off + n))) hR ?_ ⟨_, rfl, ?_⟩
    · simp only [execOp, ho, e, Instr.field, Sem.run_bind, run_underlying hu, Result.andThen_ok, hf, asAgg, Sem.run_pure, part, run_isAgg' hn, if_true, hoff, run_sizeOf' hsz]
    · have := (hr.drop off).take n
      rw [Array.toList_extract, List.extract_eq_take_drop, Nat.add_sub_cancel_left]
      exact this
  · cases hev
theorem s_idxAddr {ty e : TypeId} {sz : Nat} {x i : Operand} {x' i' : Opd} (ho : o.op = .indexAddr ty x i) (hE : Env X ι p t a.tmps) (hR : Rel B ι H w) (hu : X.P.underlying ty = some (.slice e)) (hs : tySize X.P e = some sz) (hc : chkOpd X x x' = true) (hc2 : chkOpd X i i' = true)
    (hev : evOp (rho p t) H (.idxAddr sz x' i') = some (v, H')) : OpOK X a o B ι w v H' := by
  simp only [evOp] at hev
  split at hev
  · rename_i b off n c hx
    obtain ⟨L, hL, e⟩ := rho_sound hE hc hx
    split at hev
    · rename_i k j hj
      split at hev
      · rename_i hin
        simp only [Option.some.injEq, Prod.mk.injEq] at hev
        obtain ⟨e1, e2⟩ := hev; subst e1; subst e2
        have ej : a.eval i = .int k j := rho_sound hE hc2 hj
        refine OpOK.val (u := .pointer (some ⟨L.blk, L.base + (off + j.toNat * sz), none⟩)) hR ?_ ⟨L, hL, rfl⟩
        simp only [execOp, ho, e, ej, Instr.indexAt, Sem.run_bind, asIntOf_int, run_underlying hu, Result.andThen_ok, Sem.run_pure, if_pos hin, run_sizeOf' hs, addr_add]
      · cases hev
    · cases hev
  · rename_i s b off n hx
    obtain ⟨L, hL, e⟩ := rho_sound hE hc hx
    split at hev
    · rename_i k j hj
      split at hev
      · rename_i hin
        obtain ⟨rfl, hin⟩ := hin
        simp only [Option.some.injEq, Prod.mk.injEq] at hev
        obtain ⟨e1, e2⟩ := hev; subst e1; subst e2
        have ej : a.eval i = .int k j := rho_sound hE hc2 hj
        rcases e with ⟨cc, _, _, e⟩ | ⟨h0, q, e⟩
        · refine OpOK.val (u := .pointer (some ⟨L.blk, L.base + (off + j.toNat * s), none⟩)) hR ?_ ⟨L, hL, rfl⟩
          simp only [execOp, ho, e, ej, Instr.indexAt, Sem.run_bind, asIntOf_int, run_underlying hu, Result.andThen_ok, Sem.run_pure, if_pos hin, run_sizeOf' hs, addr_add]
        · omega
      · cases hev
    · cases hev
  · cases hev
theorem s_idxArr {ty e : TypeId} {n sz : Nat} {x i : Operand} {x' i' : Opd} (ho : o.op = .indexAddr ty x i) (hE : Env X ι p t a.tmps) (hR : Rel B ι H w) (hu : X.P.underlying ty = some (.array n e)) (hs : tySize X.P e = some sz) (hc : chkOpd X x x' = true) (hc2 : chkOpd X i i' = true)
    (hev : evOp (rho p t) H (.idxArr n sz x' i') = some (v, H')) : OpOK X a o B ι w v H' := by
  simp only [evOp] at hev
  split at hev
  · rename_i b off hx
    obtain ⟨L, hL, e⟩ := rho_sound hE hc hx
    split at hev
    · rename_i k j hj
      split at hev
      · rename_i hin
        simp only [Option.some.injEq, Prod.mk.injEq] at hev
        obtain ⟨e1, e2⟩ := hev; subst e1; subst e2
        have ej : a.eval i = .int k j := rho_sound hE hc2 hj
        refine OpOK.val (u := .pointer (some ⟨L.blk, L.base + (off + j.toNat * sz), none⟩)) hR ?_ ⟨L, hL, rfl⟩
        simp only [execOp, ho, e, ej, Instr.indexAt, Instr.sureAddr, Sem.run_bind, asIntOf_int, run_underlying hu, Result.andThen_ok, Sem.run_pure, if_pos hin, run_sizeOf' hs, addr_add]
      · cases hev
    · cases hev
  · cases hev
theorem s_idxStr {ty : TypeId} {x i : Operand} {x' i' : Opd} (ho : o.op = .index ty x i) (hE : Env X ι p t a.tmps) (hR : Rel B ι H w) (hu : X.P.underlying ty = some .string) (hc : chkOpd X x x' = true) (hc2 : chkOpd X i i' = true)
    (hev : evOp (rho p t) H (.idxStr x' i') = some (v, H')) : OpOK X a o B ι w v H' := by
  simp only [evOp] at hev
  split at hev
  · rename_i s hx
    have e : a.eval x = .string ⟨s.toArray⟩ := rho_sound hE hc hx
    split at hev
    · rename_i k j hj
      split at hev
      · rename_i hin
        split at hev
        · rename_i b hb
          simp only [Option.some.injEq, Prod.mk.injEq] at hev
          obtain ⟨e1, e2⟩ := hev; subst e1; subst e2
          have ej : a.eval i = .int k j := rho_sound hE hc2 hj
          refine OpOK.val (u := .int .u8 b.toNat) hR ?_ rfl
          obtain ⟨hlt, hbe⟩ := List.getElem?_eq_some_iff.1 hb
          have hlt' : j.toNat < (⟨s.toArray⟩ : ByteArray).size := by simpa [ByteArray.size] using hlt
          have hgb : (⟨s.toArray⟩ : ByteArray)[j.toNat]? = some b := by
            rw [getElem?_pos (⟨s.toArray⟩ : ByteArray) j.toNat hlt']
            exact congrArg some hbe
          simp only [execOp, ho, e, ej, Instr.index, Sem.run_bind, asIntOf_int, run_underlying hu, Result.andThen_ok, if_pos hin, hgb, Sem.run_pure]
        · cases hev
      · cases hev
    · cases hev
  · cases hev
theorem s_idxAgg {ty e : TypeId} {n : Nat} {x i : Operand} {x' i' : Opd} (ho : o.op = .index ty x i) (hE : Env X ι p t a.tmps) (hR : Rel B ι H w) (hu : X.P.underlying ty = some (.array n e)) (hs : tySize X.P e = some 1) (hag : tyAgg X.P e = some false) (hc : chkOpd X x x' = true) (hc2 : chkOpd X i i' = true)
    (hev : evOp (rho p t) H (.idxAgg n x' i') = some (v, H')) : OpOK X a o B ι w v H' := by
  simp only [evOp] at hev
  split at hev
  · rename_i l hx
    obtain ⟨vs, e', hr⟩ := rho_sound hE hc hx
    split at hev
    · rename_i k j hj
      split at hev
      · rename_i hin
        split at hev
        · rename_i u hu'
          simp only [Option.some.injEq, Prod.mk.injEq] at hev
          obtain ⟨e1, e2⟩ := hev; subst e1; subst e2
          have ej : a.eval i = .int k j := rho_sound hE hc2 hj
          obtain ⟨z, hz, hzr⟩ := hr.get hu'
          rw [Array.getElem?_toList] at hz
          refine OpOK.val hR ?_ hzr
          simp only [execOp, ho, e', ej, Instr.index, Sem.run_bind, asIntOf_int, run_underlying hu, Result.andThen_ok, if_pos hin, run_sizeOf' hs, Nat.mul_one, part, run_isAgg' hag, Bool.false_eq_true, if_false, hz, Sem.run_pure]
        · cases hev
      · cases hev
    · cases hev
  · cases hev
theorem s_extract {x : Operand} {x' : Opd} {i : Nat} (ho : o.op = .extract x i) (hE : Env X ι p t a.tmps) (hR : Rel B ι H w) (hc : chkOpd X x x' = true)
    (hev : evOp (rho p t) H (.extract x' i) = some (v, H')) : OpOK X a o B ι w v H' := by
  simp only [evOp] at hev
  split at hev
  · rename_i l hx
    split at hev
    · rename_i u hu'
      simp only [Option.some.injEq, Prod.mk.injEq] at hev
      obtain ⟨e1, e2⟩ := hev; subst e1; subst e2
      obtain ⟨vs, e, hr⟩ := rho_sound hE hc hx
      obtain ⟨z, hz, hzr⟩ := hr.get hu'
      rw [Array.getElem?_toList] at hz
      refine OpOK.val hR ?_ hzr
      simp only [execOp, ho, e, Instr.extract, hz, Sem.run_bind, Sem.run_pure, Result.andThen_ok]
    · cases hev
  · cases hev
end
end Go.Ev
