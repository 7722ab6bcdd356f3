/- Soundness of the simple operations: conversions, slices, fields, indexes, texts gone through. -/
import Derived.Test.YtimbiogcllmalaaDoorEvG
import Derived.Laws.BytesString
namespace Go.Ev
open Go Go.RowKit
section
variable {X : Cx} {ι : Plan} {B : Nat} {H H' : Heap} {w : World} {a : Act} {p t : List (Nat × AV)} {o : Oper} {v : AV}

theorem s_un {op : UnOp} {ty : TypeId} {x : Operand} {x' : Opd} (ho : o.op = .unOp op ty x) (hE : Env X ι p t a.tmps) (hR : Rel B ι H w) (hc : chkOpd X x x' = true)
    (hev : evOp (rho p t) H (.un op x') = some (v, H')) : OpOK X a o B ι w v H' := by
  simp only [evOp] at hev
  split at hev
  · rename_i u hu
    simp only [Option.map_eq_some_iff, Prod.mk.injEq] at hev
    obtain ⟨r, hr, e1, e2⟩ := hev; subst e1; subst e2
    have h1 := rho_sound hE hc hu
    unfold unA at hr
    split at hr
    · rename_i k n
      have e : a.eval x = .int k n := h1
      injection hr with hr; subst hr
      exact OpOK.val (u := .int k (k.wrap (0 - n))) hR (by simp [execOp, ho, e, Op.unary, Op.intArith]) rfl
    · rename_i k n
      have e : a.eval x = .int k n := h1
      injection hr with hr; subst hr
      exact OpOK.val hR (by simp only [execOp, ho, e, Op.unary, Op.intBits]; rfl) rfl
    · rename_i b
      have e : a.eval x = .bool b := h1
      injection hr with hr; subst hr
      exact OpOK.val (u := .bool (!b)) hR (by simp [execOp, ho, e, Op.unary]) rfl
    · cases hr
  · cases hev

theorem run_underlying_any {P : Program} {t : TypeId} {d : TypeDesc} (h : P.underlying t = some d) (w : World) : (underlying t).run P w = .ok d w := run_underlying h w

theorem s_convI {s d : TypeId} {k : IntKind} {x : Operand} {x' : Opd} (ho : o.op = .convert s d x) (hE : Env X ι p t a.tmps) (hR : Rel B ι H w) (hd : X.P.underlying d = some (.int k)) (hs : ∃ e, X.P.underlying s = some e) (hc : chkOpd X x x' = true)
    (hev : evOp (rho p t) H (.convI k x') = some (v, H')) : OpOK X a o B ι w v H' := by
  simp only [evOp] at hev
  split at hev
  · rename_i k' n hu
    simp only [Option.some.injEq, Prod.mk.injEq] at hev
    obtain ⟨e1, e2⟩ := hev; subst e1; subst e2
    have e : a.eval x = .int k' n := rho_sound hE hc hu
    obtain ⟨e', hs⟩ := hs
    refine OpOK.val hR ?_ (rfl : VR ι (.int k (k.wrap n)) (.int k (k.wrap n)))
    simp only [execOp, ho, convert, Sem.run_bind, run_underlying hs, run_underlying hd, Result.andThen_ok, e, Conv.intToInt, Sem.run_pure]
  · cases hev

theorem s_strStr {s d : TypeId} {x : Operand} {x' : Opd} (ho : o.op = .convert s d x) (hE : Env X ι p t a.tmps) (hR : Rel B ι H w) (hd : X.P.underlying d = some .string) (hs : ∃ e, X.P.underlying s = some e) (hc : chkOpd X x x' = true)
    (hev : evOp (rho p t) H (.strStr x') = some (v, H')) : OpOK X a o B ι w v H' := by
  simp only [evOp] at hev
  split at hev
  · rename_i n hu
    simp only [Option.some.injEq, Prod.mk.injEq] at hev
    obtain ⟨e1, e2⟩ := hev; subst e1; subst e2
    have e : a.eval x = .string ⟨n.toArray⟩ := rho_sound hE hc hu
    obtain ⟨e', hs⟩ := hs
    refine OpOK.val hR ?_ (rfl : VR ι (.str n) (.string ⟨n.toArray⟩))
    simp only [execOp, ho, convert, Sem.run_bind, run_underlying hs, run_underlying hd, Result.andThen_ok, e, Sem.run_pure]
  · cases hev

theorem s_intStr {s d : TypeId} {x : Operand} {x' : Opd} (ho : o.op = .convert s d x) (hE : Env X ι p t a.tmps) (hR : Rel B ι H w) (hd : X.P.underlying d = some .string) (hs : ∃ e, X.P.underlying s = some e) (hc : chkOpd X x x' = true)
    (hev : evOp (rho p t) H (.intStr x') = some (v, H')) : OpOK X a o B ι w v H' := by
  simp only [evOp] at hev
  split at hev
  · rename_i k n hu
    simp only [Option.some.injEq, Prod.mk.injEq] at hev
    obtain ⟨e1, e2⟩ := hev; subst e1; subst e2
    have e : a.eval x = .int k n := rho_sound hE hc hu
    obtain ⟨e', hs⟩ := hs
    refine OpOK.val (u := .string (Utf8.encode n)) hR ?_ rfl
    simp only [execOp, ho, convert, Sem.run_bind, run_underlying hs, run_underlying hd, Result.andThen_ok, e, Conv.intToString, Sem.run_pure]
  · cases hev

theorem shape_new (w : World) (c : Array Value) (e : TypeId) : (w.alloc (.cells c e)).shape? w.heap.size = some (e, c.size) := by
  simp [-World.alloc_eq, World.shape?, World.alloc]

theorem heap_freeze (w : World) (q : Addr) (n k : Nat) (h : k ≠ q.block) : (w.freeze q n).heap[k]? = w.heap[k]? := by
  unfold World.freeze
  split
  · rfl
  · simp only [Array.getElem?_modify]
    rw [if_neg (Ne.symm h)]

theorem size_freeze (w : World) (q : Addr) (n : Nat) : (w.freeze q n).heap.size = w.heap.size := by
  unfold World.freeze
  split
  · rfl
  · simp

theorem freeze_new (w : World) (c : Array Value) (e : TypeId) : ((w.alloc (.cells c e)).freeze ⟨w.heap.size, c.size, none⟩ 1).heap[w.heap.size]? = some (.cells c e (c.size, c.size + 1)) := by
  simp only [World.freeze, World.alloc]
  rw [if_neg (by omega)]
  simp only [Array.getElem?_modify, if_true, Array.getElem?_push_size, Option.map_some]
  simp

def stbCap (w : World) (e n : Nat) : Nat := (Question.appendCap n 0 e).cut (w.tape w.drawn (Question.appendCap n 0 e))
def stbCells (n : List UInt8) (cap : Nat) : Array Value := (n.toArray.map fun b => Value.int .u8 (b.toNat : Int)) ++ Array.replicate (cap - n.length) (.int .u8 0)

theorem run_stb {P : Program} (w : World) (e : TypeId) (n : List UInt8) :
    (Conv.stringToBytes e ⟨n.toArray⟩).run P w = .ok (.slice (some ⟨w.heap.size, 0, none⟩) n.length (stbCap w e n.length))
      (((w.drew).alloc (.cells (stbCells n (stbCap w e n.length)) e)).freeze ⟨w.heap.size, (stbCells n (stbCap w e n.length)).size, none⟩ 1) := by
  have hs : (w.drew.alloc (.cells (stbCells n (stbCap w e n.length)) e)).shape? w.heap.size = some (e, (stbCells n (stbCap w e n.length)).size) := shape_new w.drew _ e
  unfold stbCap stbCells at *
  simp only [Conv.stringToBytes, Sem.run_bind, run_choose, Question.forced, Bool.false_eq_true, if_false, Result.andThen_ok, newRow, run_newObj, Sem.run_pure, markStringish, ByteArray.size, List.size_toArray, World.drew_eq, World.alloc_eq, run_shape, World.size_drew, hs, run_freeze]

theorem s_strBytes {s d e : TypeId} {x : Operand} {x' : Opd} (ho : o.op = .convert s d x) (hE : Env X ι p t a.tmps) (hR : Rel B ι H w) (hd : X.P.underlying d = some (.slice e)) (he : X.P.underlying e = some (.int .u8)) (hs : ∃ e, X.P.underlying s = some e) (hc : chkOpd X x x' = true)
    (hev : evOp (rho p t) H (.strBytes x') = some (v, H')) : OpOK X a o B ι w v H' := by
  simp only [evOp] at hev
  split at hev
  · rename_i n hu
    split at hev
    · rename_i hlim
      simp only [Option.some.injEq, Prod.mk.injEq] at hev
      obtain ⟨e1, e2⟩ := hev; subst e1; subst e2
      have ex : a.eval x = .string ⟨n.toArray⟩ := rho_sound hE hc hu
      obtain ⟨e', hs⟩ := hs
      have hrun : (execOp a.eval o).run X.P w = .ok (.value (.slice (some ⟨w.heap.size, 0, none⟩) n.length (stbCap w e n.length))) (((w.drew).alloc (.cells (stbCells n (stbCap w e n.length)) e)).freeze ⟨w.heap.size, (stbCells n (stbCap w e n.length)).size, none⟩ 1) := by
        simp only [execOp, ho, convert, Sem.run_bind, run_underlying hs, run_underlying hd, run_underlying he, Result.andThen_ok, ex, run_stb, Sem.run_pure]
      have hcap : n.length ≤ stbCap w e n.length := Nat.le_add_right _ _
      generalize stbCap w e n.length = cap at hrun hcap
      have hsz : (stbCells n cap).size = cap := by simp [stbCells]; omega
      have hget : ∀ i, i < cap → ∃ u, (stbCells n cap)[i]? = some u := fun i hi => ⟨(stbCells n cap)[i], by simp [hsz, hi]⟩
      generalize hcells : stbCells n cap = cells at hrun hsz hget
      have hblk := freeze_new w.drew cells e
      simp only [World.size_drew] at hblk
      generalize hw2 : ((w.drew).alloc (.cells cells e)).freeze ⟨w.heap.size, cells.size, none⟩ 1 = w2 at hrun hblk
      have hold : ∀ k, k < w.heap.size → w2.heap[k]? = w.heap[k]? := fun k hk => by
        rw [← hw2, heap_freeze _ _ _ _ (by simp; omega), Below.heap_alloc _ _ _ (by simpa using hk)]; rfl
      have hwsz : w2.heap.size = w.heap.size + 1 := by rw [← hw2, size_freeze, World.size_alloc, World.size_drew]
      have hcell : ∀ i, w2.cell? ⟨w.heap.size, i, none⟩ = cells[i]? := fun i => by simp [World.cell?, hblk]
      obtain ⟨h1, h2⟩ := hR.push_cells (w' := w2) (byteCells n) cap hwsz hold
        (fun i x hx => by
          rw [hcell]
          simp only [byteCells, List.getElem?_map, Option.map_eq_some_iff] at hx
          obtain ⟨b, hb, rfl⟩ := hx
          have hi : i < n.length := by
            rcases Nat.lt_or_ge i n.length with h | h
            · exact h
            · rw [List.getElem?_eq_none h] at hb; cases hb
          refine ⟨.int .u8 (b.toNat : Int), ?_, rfl⟩
          rw [← hcells]
          rw [stbCells, Array.getElem?_append_left (by simpa using hi)]
          simp [hb])
        ⟨by simpa [byteCells] using hcap, fun i hi => by
          rw [hcell]
          refine ⟨hget i hi, ?_⟩
          simp only [World.frozen?, hblk]
          simp; omega⟩
      refine ⟨_, _, _, hrun, .inl rfl, _, h1, h2, ?_, ⟨_, Plan.add_self _ _ _, .inl ⟨cap, hcap, by simp, by simp⟩⟩⟩
      refine ⟨by rw [← hw2]; unfold World.freeze; split <;> rfl, by rw [← hw2]; unfold World.freeze; split <;> rfl, by rw [← hw2]; unfold World.freeze; split <;> rfl, by omega, fun k hk => hold k (by have := hR.size; omega)⟩
    · cases hev
  · cases hev

theorem bytesOf_sound : ∀ (c : List AV) (s : List UInt8) (vs : List Value), bytesOf c = some s → VRs ι c vs → ∃ ns : List Int, vs = ns.map (Value.int .u8) ∧ s = ns.map fun n => UInt8.ofNat n.toNat
  | [], s, vs, h, hv => by
    simp only [bytesOf, Option.some.injEq] at h; subst h
    have : vs = [] := hv
    exact ⟨[], by simpa using this, rfl⟩
  | x :: c, s, vs, h, ⟨u, us, e, hr, hrs⟩ => by
    cases x <;> first | (simp only [bytesOf, reduceCtorEq] at h; done) | skip
    rename_i k n
    cases k <;> first | (simp only [bytesOf, reduceCtorEq] at h; done) | skip
    simp only [bytesOf] at h
    rw [Option.map_eq_some_iff] at h
    obtain ⟨s', hs', rfl⟩ := h
    obtain ⟨ns, h1, h2⟩ := bytesOf_sound c s' us hs' hrs
    have hu : u = .int .u8 n := hr
    exact ⟨n :: ns, by rw [e, h1, hu]; rfl, by rw [h2]; rfl⟩

/-- The elements of a slice, as the model reads them. -/
theorem readSl_sound2 {P : Program} {sz n : Nat} {x : AV} {x' : Value} {c : List AV} (hR : Rel B ι H w) (h : readSl H sz x = some (n, c)) (hx : VR ι x x') :
    (∃ cap, x' = .slice none 0 cap ∧ n = 0 ∧ c = []) ∨ ∃ q cap vs, x' = .slice (some q) n cap ∧ ((loadCells q (n * sz)).run P w = .ok vs w ∧ (loadCells q (n * sz)).run P w.drew = .ok vs w.drew) ∧ VRs ι c vs.toList := by
  cases x <;> simp only [readSl, reduceCtorEq] at h
  case nils =>
    simp only [Option.some.injEq, Prod.mk.injEq] at h
    exact .inl ⟨0, hx, h.1.symm, h.2.symm⟩
  case slice b off len cap =>
    obtain ⟨L, hL, rfl⟩ := hx
    split at h
    · rename_i h0
      simp only [Option.some.injEq, Prod.mk.injEq] at h
      obtain ⟨rfl, rfl⟩ := h
      exact .inr ⟨_, cap, #[], by rw [h0], ⟨by rw [Nat.zero_mul]; rfl, by rw [Nat.zero_mul]; rfl⟩, rfl⟩
    · split at h
      · rename_i c' u hg
        split at h
        · rename_i hle
          simp only [Option.some.injEq, Prod.mk.injEq] at h
          obtain ⟨rfl, rfl⟩ := h
          obtain ⟨vs, h1, h2⟩ := loadCells_sound2 (P := P) hL hR hg off (len * sz) hle
          exact .inr ⟨_, cap, vs, rfl, h1, h2⟩
        · cases h
      · cases h
  case osl s b off len =>
    split at h
    · split at h
      · rename_i h0
        simp only [Option.some.injEq, Prod.mk.injEq] at h
        obtain ⟨rfl, rfl⟩ := h
        obtain ⟨L, hL, ⟨cc, _, _, rfl⟩ | ⟨_, q, rfl⟩⟩ := hx
        · exact .inr ⟨_, cc, #[], by rw [h0], ⟨by rw [Nat.zero_mul]; rfl, by rw [Nat.zero_mul]; rfl⟩, rfl⟩
        · exact .inr ⟨q, 0, #[], rfl, ⟨by rw [Nat.zero_mul]; rfl, by rw [Nat.zero_mul]; rfl⟩, rfl⟩
      · rename_i h0
        split at h
        · rename_i c' u hg
          split at h
          · rename_i hle
            simp only [Option.some.injEq, Prod.mk.injEq] at h
            obtain ⟨rfl, rfl⟩ := h
            obtain ⟨L, hL, ⟨cc, _, _, rfl⟩ | ⟨h1, q, rfl⟩⟩ := hx
            · obtain ⟨vs, h1, h2⟩ := loadCells_sound2 (P := P) hL hR hg off (len * sz) hle
              exact .inr ⟨_, cc, vs, rfl, h1, h2⟩
            · exact absurd h1 h0
          · cases h
        · cases h
    · cases h

theorem readSl_sound {P : Program} {sz n : Nat} {x : AV} {x' : Value} {c : List AV} (hR : Rel B ι H w) (h : readSl H sz x = some (n, c)) (hx : VR ι x x') :
    (∃ cap, x' = .slice none 0 cap ∧ n = 0 ∧ c = []) ∨ ∃ q cap vs, x' = .slice (some q) n cap ∧ (loadCells q (n * sz)).run P w = .ok vs w ∧ VRs ι c vs.toList := by
  rcases readSl_sound2 (P := P) hR h hx with h | ⟨q, cap, vs, h1, h2, h3⟩
  · exact .inl h
  · exact .inr ⟨q, cap, vs, h1, h2.1, h3⟩

theorem foldl_push : ∀ (ns : List Int) (s : ByteArray), ns.foldl (fun (r : ByteArray) n => r.push (UInt8.ofNat n.toNat)) s = ⟨s.data ++ (ns.map fun n => UInt8.ofNat n.toNat).toArray⟩
  | [], s => by simp
  | n :: ns, s => by
    rw [List.foldl_cons, foldl_push ns]
    congr 1
    simp [ByteArray.push]

theorem s_bytesStr {s d e : TypeId} {x : Operand} {x' : Opd} (ho : o.op = .convert s d x) (hE : Env X ι p t a.tmps) (hR : Rel B ι H w) (hd : X.P.underlying d = some .string) (he : X.P.underlying e = some (.int .u8)) (hs : X.P.underlying s = some (.slice e)) (hc : chkOpd X x x' = true)
    (hev : evOp (rho p t) H (.bytesStr x') = some (v, H')) : OpOK X a o B ι w v H' := by
  simp only [evOp] at hev
  split at hev
  · rename_i u hu
    split at hev
    · rename_i n c hrd
      simp only [Option.map_eq_some_iff, Prod.mk.injEq] at hev
      obtain ⟨s', hs', e1, e2⟩ := hev; subst e1; subst e2
      have hr := rho_sound hE hc hu
      rcases readSl_sound (P := X.P) hR hrd hr with ⟨cap, hx, rfl, rfl⟩ | ⟨q, cap, vs, hx, h1, h2⟩
      · simp only [bytesOf, Option.some.injEq] at hs'; subst hs'
        refine OpOK.val (u := .string .empty) hR ?_ rfl
        simp only [execOp, ho, hx, Sem.run_bind, run_convert_bytes_string w s d e _ _ _ hs he hd, Conv.bytesToString, Sem.run_pure, Result.andThen_ok]
      · obtain ⟨ns, e1, e2⟩ := bytesOf_sound c s' _ hs' h2
        rw [Nat.mul_one] at h1
        have hvs : vs = (ns.map (Value.int .u8)).toArray := by rw [← e1]
        subst hvs
        refine OpOK.val (u := .string ⟨s'.toArray⟩) hR ?_ rfl
        simp only [execOp, ho, hx, Sem.run_bind, run_convert_bytes_string w s d e _ _ _ hs he hd, run_bytesToString w q n cap ns h1, Result.andThen_ok, Sem.run_pure, foldl_push, e2]
        simp [ByteArray.empty, ByteArray.emptyWithCapacity]
        rfl
    · cases hev
  · cases hev

theorem s_mkIface {ty : TypeId} {x : Operand} {x' : Opd} (ho : o.op = .makeInterface ty x) (hE : Env X ι p t a.tmps) (hR : Rel B ι H w) (hd : notIface X.P ty = true) (hc : chkOpd X x x' = true)
    (hev : evOp (rho p t) H (.mkIface ty x') = some (v, H')) : OpOK X a o B ι w v H' := by
  simp only [evOp, Option.map_eq_some_iff, Prod.mk.injEq] at hev
  obtain ⟨u, hu, e1, e2⟩ := hev; subst e1; subst e2
  have hr := rho_sound hE hc hu
  refine OpOK.val hR ?_ ⟨_, rfl, hr⟩
  cases hU : X.P.underlying ty with
  | none => simp [notIface, hU] at hd
  | some D => cases D <;> simp [notIface, hU] at hd <;> simp [execOp, ho, Instr.makeInterface, run_underlying hU]

theorem mapM_rhos : ∀ (l : List Opd) (vs : List AV), l.mapM (rho p t) = some vs → rhos p t l = some vs
  | [], vs, h => by simpa [rhos] using h
  | x :: l, vs, h => by
    simp only [List.mapM_cons] at h
    cases h1 : rho p t x with
    | none => simp [h1] at h
    | some u =>
      cases h2 : l.mapM (rho p t) with
      | none => simp [h1, h2] at h
      | some us =>
        simp [h1, h2] at h; subst h
        simp [rhos, h1, mapM_rhos l us h2]

theorem s_mkFn {f : FuncId} {first caps : Array Operand} {caps' : List Opd} (ho : o.op = .makeFunc (.func f) first caps) (hE : Env X ι p t a.tmps) (hR : Rel B ι H w) (hf : first.isEmpty = true) (hc : chkOpds X caps.toList caps' = true)
    (hev : evOp (rho p t) H (.mkFn f caps') = some (v, H')) : OpOK X a o B ι w v H' := by
  simp only [evOp, Option.map_eq_some_iff, Prod.mk.injEq] at hev
  obtain ⟨u, hu, e1, e2⟩ := hev; subst e1; subst e2
  have hr := rhos_sound hE hc (mapM_rhos _ _ hu)
  have h0 := empty_of_isEmpty hf
  subst h0
  refine OpOK.val (u := .func (.func f) #[] (caps.map a.eval)) hR ?_ ⟨_, rfl, by simpa using hr⟩
  simp [execOp, ho, Instr.makeFunc]
end
end Go.Ev
