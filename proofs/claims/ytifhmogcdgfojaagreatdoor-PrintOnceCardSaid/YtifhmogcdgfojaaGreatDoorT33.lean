/- Several texts of this claim, joined. -/
import Derived.Test.YtifhmogcdgfojaaGreatDoorT32
import Derived.Test.YtifhmogcdgfojaaGreatDoorT15
import Derived.ProofKit
import Derived.OpenShut
import Derived.ChangeSlices
import Derived.Test.YtifhmogcdgfojaaGreatDoorT22
import Derived.Test.YtifhmogcdgfojaaGreatDoorTie
import Derived.Test.YtifhmogcdgfojaaGreatDoorCards
import Derived.ChangeMaps5
import Derived.LaidMore
import Derived.Lay
import Derived.SevenTiedAt
import Derived.Stop.Joined
set_option linter.unusedSimpArgs false
set_option linter.unusedVariables false

/- Expressions that are made up of numbers: plainly. -/
namespace Go.Ev
open Go
set_option maxRecDepth 8000
/-- A number's kind. -/
def kMk (v : Int) : Nat := ((v % 18446744073709551616) % 9).toNat
/-- The set that a number names. -/
def setMk (v : Int) : List R := [⟨97 + v % 2, 97 + v % 2 + ((kMk v % 2 : Nat) : Int)⟩]
/-- One number more: what is made up by now, the last one first. -/
def stepX (st : List Rx) (v : Int) : List Rx :=
  if kMk v < 4 ∨ st = [] then .set (setMk v) :: st
  else match st with
    | [] => []
    | [x] => if kMk v = 4 then [.star x] else if kMk v = 8 then [.emp, x] else [x]
    | y :: x :: r => if kMk v = 4 then .star y :: x :: r else if kMk v < 7 then .seq x y :: r else .alt x y :: r
def mkX (l : List Int) : List Rx := (l.take 14).foldl stepX []
/-- All of them, one behind the other. -/
def rowX : List Rx → Rx
  | [] => .set [⟨97, 97⟩]
  | e :: r => r.foldl .seq e
theorem okS_mk (v : Int) : okS (setMk v) := by
  have h : v % 2 = 0 ∨ v % 2 = 1 := by omega
  have hk : kMk v % 2 = 0 ∨ kMk v % 2 = 1 := by omega
  refine ⟨97 + v % 2, by omega, ?_⟩
  rcases hk with hk | hk
  · left; rw [setMk, hk]; simp
  · right; rw [setMk, hk]; rfl
def szs (l : List Rx) : Nat := (l.map szX).sum
theorem step_ok {st : List Rx} {v : Int} (h : ∀ x ∈ st, okX x) : ∀ x ∈ stepX st v, okX x := by
  unfold stepX
  split
  · intro x hx
    rcases List.mem_cons.1 hx with rfl | hx
    · exact okS_mk v
    · exact h x hx
  · split
    · intro x hx; cases hx
    · rename_i x hc
      have h0 := h x (by simp)
      split
      · intro y hy; simp at hy; subst hy; exact h0
      · split
        · intro y hy; simp at hy; rcases hy with rfl | rfl
          · trivial
          · exact h0
        · exact h
    · rename_i y x r hc
      have h0 := h y (by simp)
      have h1 := h x (by simp)
      have h2 : ∀ z ∈ r, okX z := fun z hz => h z (by simp [hz])
      split
      · intro z hz; simp at hz; rcases hz with rfl | rfl | hz
        · exact h0
        · exact h1
        · exact h2 z hz
      · split <;> (intro z hz; rcases List.mem_cons.1 hz with rfl | hz)
        · exact ⟨h1, h0⟩
        · exact h2 z hz
        · exact ⟨h1, h0⟩
        · exact h2 z hz
theorem step_sz {st : List Rx} {v : Int} : szs (stepX st v) ≤ szs st + 1 ∧ (stepX st v).length ≤ st.length + 1 := by
  unfold stepX szs
  split
  · simp [szX]; omega
  · split
    · simp
    · split
      · simp [szX]
      · split
        · simp [szX]; omega
        · simp
    · split
      · simp [szX]; omega
      · split <;> (simp [szX]; omega)
theorem mk_fold : ∀ (l : List Int) (st : List Rx), (∀ x ∈ st, okX x) → (∀ x ∈ l.foldl stepX st, okX x) ∧ szs (l.foldl stepX st) ≤ szs st + l.length ∧ (l.foldl stepX st).length ≤ st.length + l.length
  | [], st, h => ⟨h, by simp, by simp⟩
  | v :: l, st, h => by
    obtain ⟨a, b, c⟩ := mk_fold l (stepX st v) (step_ok h)
    obtain ⟨d, e⟩ := step_sz (st := st) (v := v)
    rw [List.foldl_cons, List.length_cons]
    exact ⟨a, by omega, by omega⟩
theorem mkX_ok (l : List Int) : (∀ x ∈ mkX l, okX x) ∧ szs (mkX l) ≤ 14 ∧ (mkX l).length ≤ 14 := by
  obtain ⟨a, b, c⟩ := mk_fold (l.take 14) [] (fun x h => by cases h)
  have : (l.take 14).length ≤ 14 := by rw [List.length_take]; omega
  have h0 : szs ([] : List Rx) = 0 := rfl
  have h1 : ([] : List Rx).length = 0 := rfl
  exact ⟨a, by show szs ((l.take 14).foldl stepX []) ≤ 14; omega, by show ((l.take 14).foldl stepX []).length ≤ 14; omega⟩
theorem row_fold : ∀ (r : List Rx) (e : Rx), okX e → (∀ x ∈ r, okX x) → okX (r.foldl .seq e) ∧ szX (r.foldl .seq e) = szX e + szs r + r.length
  | [], e, h, _ => ⟨h, by simp [szs]⟩
  | x :: r, e, h, hr => by
    obtain ⟨a, b⟩ := row_fold r (.seq e x) ⟨h, hr x (by simp)⟩ (fun y hy => hr y (by simp [hy]))
    refine ⟨a, ?_⟩
    rw [List.foldl_cons, b]
    simp [szX, szs]; omega
theorem szs_rev (l : List Rx) : szs l.reverse = szs l := by
  unfold szs; rw [List.map_reverse, List.sum_reverse]
theorem rowX_ok {l : List Rx} (h : ∀ x ∈ l, okX x) (hz : szs l ≤ 14) (hl : l.length ≤ 14) : okX (rowX l) ∧ szX (rowX l) ≤ 28 := by
  cases l with
  | nil => exact ⟨⟨97, by decide, .inl rfl⟩, by simp [rowX, szX]⟩
  | cons e r =>
    obtain ⟨a, b⟩ := row_fold r e (h e (by simp)) (fun x hx => h x (by simp [hx]))
    refine ⟨a, ?_⟩
    rw [rowX, b]
    simp [szs] at hz hl ⊢
    omega
/-- Made up of numbers, ahead of the bounds. -/
def madeX (l : List Int) : Rx := rowX (mkX l).reverse
theorem madeX_ok (l : List Int) : okX (madeX l) ∧ szX (madeX l) ≤ 28 := by
  obtain ⟨a, b, c⟩ := mkX_ok l
  exact rowX_ok (fun x hx => a x (List.mem_reverse.1 hx)) (by rw [szs_rev]; exact b) (by simpa using c)
/- gobolaw6.Make: expressions that are made up, in memory. -/
open Go.Ev renaming seqK_normal → zA, blockK_normal → zB, blockK_exit → zC
open Nat renaming reduceEqDiff → zD, reduceAdd → zE, reduceSub → zF, reduceMul → zG, reduceLeDiff → zH, reduceLT → zI
open Int renaming reduceToNat → zJ, reduceLT → zK, reduceLE → zL, reduceEq → zM, reduceAdd → zN, reduceSub → zO, reduceMul → zP
set_option maxRecDepth 8000
def ic (l : List Int) : List AV := l.map fun v => .int .i64 v
def makeX (l : List Int) : Rx := if mayX (madeX l) then madeX l else .set [⟨98, 98⟩]
theorem makeX_ok (l : List Int) : okX (makeX l) ∧ szX (makeX l) ≤ 28 ∧ mayX (makeX l) = true := by
  unfold makeX
  split
  · rename_i h
    exact ⟨(madeX_ok l).1, (madeX_ok l).2, h⟩
  · exact ⟨⟨98, by decide, .inl rfl⟩, by simp [szX], rfl⟩
def i64and (n m : Int) : Int := IntKind.i64.wrap (BitVec.ofInt 64 n &&& BitVec.ofInt 64 m).toNat
theorem intBin_i64and {n m : Int} : intBin .and .i64 n m = some (.int .i64 (i64and n m)) := rfl
theorem i64and_one (n : Int) : i64and n 1 = n % 2 := by
  have h : (BitVec.ofInt 64 n &&& BitVec.ofInt 64 1).toNat = (n % 2).toNat := by
    rw [BitVec.toNat_and, show (BitVec.ofInt 64 1).toNat = 1 from rfl, Nat.and_one_is_mod, BitVec.toNat_ofInt]
    omega
  unfold i64and
  rw [h, IntKind.wrap_i64]
  omega
theorem kMk_w (v : Int) : IntKind.i64.wrap ((IntKind.u64.wrap v).tmod 9) = (kMk v : Int) := by
  have e : IntKind.u64.wrap v = v % 18446744073709551616 := rfl
  rw [e, Int.tmod_eq_emod_of_nonneg (by omega), IntKind.wrap_i64]
  unfold kMk
  omega
/-- Expressions one behind the other in cells, the last one named first. -/
def StV (P : Nat → Prop) (H : Heap) : List Rx → List AV → Prop
  | [], cs => cs = []
  | x :: r, cs => ∃ c0 cx, cs = c0 ++ cx ∧ StV P H r c0 ∧ ReV P H x cx
theorem ReV.len {P H x cs} (h : ReV P H x cs) : cs.length = 3 := by obtain ⟨k, v, w, e, _⟩ := h.form; rw [e]; rfl
theorem StV.len {P H} : ∀ {st cs}, StV P H st cs → cs.length = st.length * 3
  | [], cs, h => by rw [show cs = [] from h]; rfl
  | x :: r, cs, ⟨c0, cx, e, h1, h2⟩ => by rw [e, List.length_append, h1.len, h2.len, List.length_cons]; omega
theorem StV.keep {P Q : Nat → Prop} {H H' : Heap} (hk : ∀ b, P b → b < H.size → H'.get b = H.get b ∧ Q b) : ∀ {st cs}, StV P H st cs → StV Q H' st cs
  | [], _, h => h
  | x :: r, _, ⟨c0, cx, e, h1, h2⟩ => ⟨c0, cx, e, h1.keep hk, h2.keep hk⟩
/-- A place that is no slice's block. -/
def NotIn (n0 : Nat) (v : AV) (b : Nat) : Prop := n0 ≤ b ∧ ∀ s o n, v ≠ .osl s b o n
/-- What is made up by now: its slice, and what lies in it. -/
def Stk (n0 : Nat) (H : Heap) (st : List Rx) (sv : AV) : Prop := ∃ cs, Sl n0 H 3 cs st.length sv ∧ StV (NotIn n0 sv) H st cs
/-- append, with the new block named. -/
theorem append_new {n0 : Nat} {H : Heap} {sz bytes : Nat} {cs ys : List AV} {n k : Nat} {v : AV} (h : Sl n0 H sz cs n v) (hk : 0 < k) (hy : ys.length = k * sz) (h1 : (n + k) * bytes ≤ 1099511627776) (h2 : n + k ≤ 1099511627776) :
    ∃ H', appendA H sz bytes v k ys = some (.osl sz H.size 0 (n + k), H') ∧ H'.size = H.size + 1 ∧ H'.get H.size = .cells (cs ++ ys) .own ∧ ∀ c, c < H.size → (∀ s o n, v ≠ .osl s c o n) → H'.get c = H.get c := by
  have hk0 : ¬ k = 0 := by omega
  rcases h with ⟨rfl, rfl, rfl⟩ | ⟨b, rfl, hb, hg, hl, hp⟩
  · rw [Nat.zero_add] at *
    refine ⟨H.push (.cells ys .own), ?_, Heap.size_push _ _, by rw [List.nil_append, Heap.get_push_self], fun c hc _ => Heap.get_push_lt hc⟩
    simp only [appendA, if_neg hk0, if_pos (And.intro h1 h2)]
  · have hb' : b < H.size := Heap.lt_of_get (by rw [hg]; simp)
    refine ⟨(H.set b .dead).push (.cells (cs ++ ys) .own), ?_, by rw [Heap.size_push, Heap.size_set], Heap.get_push_eq (by rw [Heap.size_set]), fun c hc hne => ?_⟩
    · have e : rd cs 0 (n * sz) = cs := by rw [rd, List.drop_zero, ← hl, List.take_length]
      simp only [appendA, if_neg hk0, hg, h1, h2, true_and, and_self, Nat.zero_add, hl, Nat.le_refl, if_true, e]
    · have hcb : c ≠ b := fun e => hne sz 0 n (by rw [e])
      rw [Heap.get_push_lt (by rw [Heap.size_set]; exact hc), Heap.get_set_ne hcb]
theorem append_cut {H : Heap} {sz bytes b m : Nat} {cs ys : List AV} (hg : H.get b = .cells cs .own) (hm : m * sz ≤ cs.length) (h1 : (m + 1) * bytes ≤ 1099511627776) (h2 : m + 1 ≤ 1099511627776) :
    appendA H sz bytes (.slice b 0 m m) 1 ys = some (.osl sz H.size 0 (m + 1), H.push (.cells (cs.take (m * sz) ++ ys) .own)) := by
  have hr : readSl H sz (.slice b 0 m m) = some (m, cs.take (m * sz)) := by
    by_cases h0 : m = 0
    · subst h0; simp [readSl]
    · simp only [readSl, if_neg h0, hg, Nat.zero_add, hm, if_true, rd, List.drop_zero]
  simp only [appendA, if_neg (show ¬ (1 : Nat) = 0 by omega), if_neg (show ¬ m + 1 ≤ m by omega), h1, h2, and_self, if_true, hr]
/-- One more, behind the others. -/
theorem Stk.add {n0 : Nat} {H H1 : Heap} {st : List Rx} {sv : AV} {x : Rx} {cx : List AV} (h : Stk n0 H st sv) (hn : n0 ≤ H.size) (x1 : Ext H.size H H1) (hx : ReV (fun b => H.size ≤ b) H1 x cx) (hl : st.length ≤ 100) :
    ∃ H', appendA H1 3 56 sv 1 cx = some (.osl 3 H1.size 0 (st.length + 1), H') ∧ Ext n0 H H' ∧ Stk n0 H' (x :: st) (.osl 3 H1.size 0 (st.length + 1)) := by
  obtain ⟨cs, hS, hT⟩ := h
  have hsz := x1.1
  have hS1 : Sl n0 H1 3 cs st.length sv := hS.ext x1
  obtain ⟨H', ea, sz', g', fr⟩ := append_new (bytes := 56) (ys := cx) (k := 1) hS1 (by omega) (by rw [hx.len]) (by omega) (by omega)
  have hsv : ∀ s c o n, sv = .osl s c o n → n0 ≤ c ∧ c < H.size := fun s c o n e => by
    rcases hS with ⟨h, _⟩ | ⟨b, h, hb, hg, _⟩
    · rw [h] at e; cases e
    · rw [h] at e; injection e with _ e; subst e; exact ⟨hb, Heap.lt_of_get (by rw [hg]; simp)⟩
  refine ⟨H', ea, ⟨by omega, fun b hb => ?_⟩, cs ++ cx, .inr ⟨H1.size, rfl, by omega, g', by rw [List.length_append, hS.len, hx.len, List.length_cons]; omega, by simp⟩, cs, cx, rfl, hT.keep fun b p1 p2 => ⟨by rw [fr b (by omega) p1.2, x1.2 b p2], p1.1, fun s o n e => by injection e with _ e; omega⟩,
    hx.keep fun b p1 p2 => ⟨by rw [fr b p2 (fun s o n e => by have := (hsv _ _ _ _ e).2; omega)], by omega, fun s o n e => by injection e with _ e; omega⟩⟩
  rw [fr b (by omega) (fun s o n e => by have := (hsv _ _ _ _ e).1; omega), x1.2 b (by omega)]
theorem set3 {C : List AV} {m : Nat} {a b c x y z : AV} (h : C.length = m) : (((C ++ [a, b, c]).set m x).set (m + 1) y).set (m + 1 + 1) z = C ++ [x, y, z] := by
  subst h
  rw [List.set_append_right _ _ (Nat.le_refl _), List.set_append_right _ _ (by omega), List.set_append_right _ _ (by omega), Nat.sub_self, show C.length + 1 - C.length = 1 by omega, show C.length + 1 + 1 - C.length = 2 by omega]
  rfl
section
variable {o : CallF} (ho : OvOnly o)
include ho
omit ho in
theorem mk_loop {l : List Int} {lv : AV} {lb eb n0 : Nat} (hlb : 0 < l.length → lb < n0) {H0 : Heap} {Q : Ctl → St → Prop} : ∀ (r : List Int) (i : Nat) (st : List Rx) (sv : AV) (H : Heap), (l.take 14).drop i = r → i ≤ 14 → st.length ≤ i → Rd H 1 (ic l) l.length lv lb → Ext n0 H0 H → n0 ≤ H.size → Stk n0 H st sv →
    (∀ H' sv' y1 y3 y4 t, Ext n0 H0 H' → Stk n0 H' (r.foldl stepX st) sv' → Q (.exit 0) { p := [(0, y1), (2, .ptr eb 0), (3, sv'), (4, y3), (17, y4)], t := t, H := H', d := [], u := .norm }) →
    wpl ⟨bt.get, o⟩ [0, 2, 3, 4] lb_gobolaw6_Make_0 { p := [(0, lv), (2, .ptr eb 0), (3, sv), (4, .int .i64 (i : Int))], t := [], H := H, d := [], u := .norm } Q
  | [], i, st, sv, H, hd, hi, hst, hR, hx, hn, hS, hQ => by
    have hlen : (l.take 14).length ≤ i := List.drop_eq_nil_iff.1 hd
    rw [List.length_take] at hlen
    rw [wpl_step]
    by_cases c1 : i < l.length
    · have c1' : (i : Int) < (l.length : Int) := by omega
      have c2 : ¬ (i : Int) < 14 := by omega
      simp only [lb_gobolaw6_Make_0, go_sem, zA, zB, zC, reduceIte, zD, zE, zF, zG, zH, zI, reduceCtorEq, zJ, zK, zL, zM, zN, zO, zP, hR.len, c1', c2]
      exact hQ _ _ _ _ _ _ hx hS
    · have c1' : ¬ (i : Int) < (l.length : Int) := by omega
      simp only [lb_gobolaw6_Make_0, go_sem, zA, zB, zC, reduceIte, zD, zE, zF, zG, zH, zI, reduceCtorEq, zJ, zK, zL, zM, zN, zO, zP, hR.len, c1']
      exact hQ _ _ _ _ _ _ hx hS
  | v :: r, i, st, sv, H, hd, hi, hst, hR, hx, hn, hS, hQ => by
    obtain ⟨h0, h1, h2⟩ := list_at hd
    rw [List.length_take] at h1
    rw [List.getElem?_take] at h0
    have hil : i < l.length := by omega
    have hi14 : i < 14 := by omega
    rw [if_pos hi14] at h0
    obtain ⟨⟨u, hg⟩, hel, _⟩ := hR.pos (by omega)
    have el := hel i hil
    rw [Nat.mul_one] at el
    have cv : (ic l)[i]? = some (.int .i64 v) := by simp [ic, h0]
    have c1 : (i : Int) < (l.length : Int) := by omega
    have c2 : (i : Int) < 14 := by omega
    have iw := wsucc (show i ≤ 1000000000 by omega)
    have hln : lenI sv = some (st.length : Int) := by obtain ⟨cs, hS, _⟩ := hS; exact hS.lenI
    have kw := kMk_w v
    rw [wpl_step]
    -- one more
    have more : ∀ (x : Rx) (H1 : Heap) (cx : List AV), stepX st v = x :: st → Ext H.size H H1 → ReV (fun b => H.size ≤ b) H1 x cx → ∃ H' sv', appendA H1 3 56 sv 1 cx = some (sv', H') ∧
        wpl ⟨bt.get, o⟩ [0, 2, 3, 4] lb_gobolaw6_Make_0 { p := [(0, lv), (2, .ptr eb 0), (3, sv'), (4, .int .i64 ((i + 1 : Nat) : Int))], t := [], H := H', d := [], u := .norm } Q := fun x H1 cx e x1 hx' => by
      obtain ⟨H', ea, x2, S2⟩ := hS.add hn x1 hx' (by omega)
      refine ⟨H', _, ea, mk_loop hlb r (i + 1) (x :: st) _ H' h2 (by omega) (by rw [List.length_cons]; omega) (hR.keep fun h => x2.2 lb (hlb h)) (hx.trans x2) (Nat.le_trans hn x2.1) S2 ?_⟩
      rw [List.foldl_cons, e] at hQ
      exact hQ
    by_cases q1 : kMk v < 4 ∨ st = []
    · have hz : ReV (fun b => H.size ≤ b) (((H.push (.cells [.int .i32 (97 + v % 2), .int .i32 (97 + v % 2 + ((kMk v % 2 : Nat) : Int))] .own))).push (.cells [.int .i64 2, .slice H.size 0 1 1, .nils] .own)) (.set (setMk v)) [.int .i64 2, .slice H.size 0 1 1, .nils] := by
        refine ⟨_, H.size, rfl, Rd.slice (u := .own) ?_ rfl, fun _ => Nat.le_refl _, by simp [setMk]⟩
        rw [Heap.get_push_lt (by rw [Heap.size_push]; omega), Heap.get_push_self]; rfl
      obtain ⟨H', sv', ea, W⟩ := more (.set (setMk v)) _ _ (by unfold stepX; rw [if_pos q1]) ((Ext.push (Nat.le_refl _)).trans (Ext.push (by rw [Heap.size_push]; omega))) hz
      have wk : i64and (kMk v : Int) 1 = ((kMk v % 2 : Nat) : Int) := by rw [i64and_one]; omega
      have wa : IntKind.i64.wrap (97 + v % 2) = 97 + v % 2 := by rw [IntKind.wrap_i64]; omega
      have wb : IntKind.i32.wrap (97 + v % 2) = 97 + v % 2 := by rw [IntKind.wrap_i32]; omega
      have wc : IntKind.i32.wrap ((kMk v % 2 : Nat) : Int) = ((kMk v % 2 : Nat) : Int) := by rw [IntKind.wrap_i32]; omega
      have wd : IntKind.i32.wrap (97 + v % 2 + ((kMk v % 2 : Nat) : Int)) = 97 + v % 2 + ((kMk v % 2 : Nat) : Int) := by rw [IntKind.wrap_i32]; omega
      by_cases q2 : kMk v < 4
      · have q2' : (kMk v : Int) < 4 := by omega
        simp only [lb_gobolaw6_Make_0, go_sem, zA, zB, zC, reduceIte, zD, zE, zF, zG, zH, zI, reduceCtorEq, zJ, zK, zL, zM, zN, zO, zP, hR.len, c1, c2, hln, el, hg, cv, kw, q2', intBin_i64and, i64and_one, wk, wa, wb, wc, wd, ea, iw]
        exact W
      · have q2' : ¬ (kMk v : Int) < 4 := by omega
        have q3 : st = [] := q1.resolve_left q2
        have q3' : (st.length : Int) = 0 := by rw [q3]; rfl
        simp only [lb_gobolaw6_Make_0, go_sem, zA, zB, zC, reduceIte, zD, zE, zF, zG, zH, zI, reduceCtorEq, zJ, zK, zL, zM, zN, zO, zP, hR.len, c1, c2, hln, el, hg, cv, kw, q2', q3', intBin_i64and, i64and_one, wk, wa, wb, wc, wd, ea, iw]
        exact W
    · have q2 : ¬ (kMk v : Int) < 4 := by have := fun h => q1 (.inl h); omega
      cases st with
      | nil => exact absurd (.inr rfl) q1
      | cons y rest =>
        obtain ⟨cs, hSl, c0, cy, rfl, hT, hy⟩ := hS
        rcases hSl with ⟨_, h, _⟩ | ⟨sb, rfl, hsb, hgs, hls, _⟩
        · simp at h
        rw [List.length_cons] at hst hls
        have l0 := hT.len
        have ly := hy.len
        have hsbl : sb < H.size := Heap.lt_of_get (by rw [hgs]; simp)
        have ty : List.take 3 (List.drop (rest.length * 3) (c0 ++ cy)) = cy := by rw [List.drop_left' l0, List.take_of_length_le (by omega)]
        have tb : rest.length * 3 + 3 ≤ (c0 ++ cy).length := by rw [List.length_append]; omega
        have n0' : ¬ ((rest.length + 1 : Nat) : Int) = 0 := by omega
        have n1 : (rest.length : Int) < ((rest.length + 1 : Nat) : Int) := by omega
        have n2 : (0 : Int) ≤ (rest.length : Int) := by omega
        have wn : IntKind.i64.wrap (((rest.length + 1 : Nat) : Int) - 1) = (rest.length : Int) := by rw [IntKind.wrap_i64]; omega
        have es := ((Rd.osl (n := rest.length + 1) hgs hls).pos (by omega)).2.1 rest.length (by omega)
        obtain ⟨yk, yv, yw, rfl, ⟨y1, y2⟩, y3, y4⟩ := hy.form
        have hgp : ∀ z, (H.push z).get sb = .cells (c0 ++ [.int .i64 yk, yv, yw]) .own := fun z => by rw [Heap.get_push_lt hsbl, hgs]
        by_cases q3 : kMk v = 4
        · have q3' : (kMk v : Int) = 4 := by omega
          simp only [lb_gobolaw6_Make_0, go_sem, zA, zB, zC, reduceIte, zD, zE, zF, zG, zH, zI, reduceCtorEq, zJ, zK, zL, zM, zN, zO, zP, hR.len, c1, c2, el, hg, cv, kw, q2, q3', List.length_cons, n0', wn, n1, n2, es, hgs, hgp, Nat.zero_add, ty, tb, iw, y1, y2, y3, y4]
          have hstep : stepX (y :: rest) v = .star y :: rest := by
            unfold stepX
            rw [if_neg q1]
            cases rest <;> simp only [if_pos q3]
          refine mk_loop hlb r (i + 1) (.star y :: rest) _ _ h2 (by omega) (by rw [List.length_cons]; omega) (hR.keep fun h => ?_) (hx.trans ((Ext.push hn).trans (Ext.set hsb))) (by rw [Heap.size_set, Heap.size_push]; omega) ⟨_, .inr ⟨sb, rfl, hsb, Heap.get_set_self (by rw [Heap.size_push]; omega), ?_, by simp⟩, c0, [.int .i64 5, .nils, .slice H.size 0 1 1], set3 l0, hT.keep fun b p1 p2 => ⟨?_, p1⟩, .slice H.size 0 1 1, H.size, _, rfl, Rd.slice (u := .own) ?_ rfl, ⟨hn, fun s' o' n' e => ?_⟩, hy.keep fun b p1 p2 => ⟨?_, p1⟩⟩ ?_
          · have := hlb h
            rw [Heap.get_set_ne (by omega), Heap.get_push_lt (by omega)]
          · rw [set3 l0, List.length_append, l0]; simp only [List.length_cons, List.length_nil]; omega
          · rw [Heap.get_set_ne (fun e => p1.2 3 0 _ (by rw [e])), Heap.get_push_lt p2]
          · rw [Heap.get_set_ne (by omega), Heap.get_push_self]
          · injection e with _ e; omega
          · rw [Heap.get_set_ne (fun e => p1.2 3 0 _ (by rw [e])), Heap.get_push_lt p2]
          · rw [List.foldl_cons, hstep] at hQ
            exact hQ
        · have q3' : ¬ (kMk v : Int) = 4 := by omega
          cases rest with
          | nil =>
            have m0 : ¬ (1 : Int) < ((0 + 1 : Nat) : Int) := by decide
            by_cases q4 : kMk v = 8
            · have q4' : (kMk v : Int) = 8 := by omega
              have hz : ReV (fun b => H.size ≤ b) (H.push (.cells [.int .i64 1, .nils, .nils] .own)) .emp [.int .i64 1, .nils, .nils] := rfl
              obtain ⟨H', sv', ea, W⟩ := more .emp _ _ (by unfold stepX; rw [if_neg q1]; simp only [if_neg q3, if_pos q4]) (Ext.push (Nat.le_refl _)) hz
              simp only [List.length_cons, List.length_nil] at ea
              simp only [lb_gobolaw6_Make_0, go_sem, zA, zB, zC, reduceIte, zD, zE, zF, zG, zH, zI, reduceCtorEq, zJ, zK, zL, zM, zN, zO, zP, hR.len, c1, c2, el, hg, cv, kw, q2, q3', q4', List.length_cons, List.length_nil, n0', m0, GT.gt, ea, iw]
              exact W
            · have q4' : ¬ (kMk v : Int) = 8 := by omega
              simp only [lb_gobolaw6_Make_0, go_sem, zA, zB, zC, reduceIte, zD, zE, zF, zG, zH, zI, reduceCtorEq, zJ, zK, zL, zM, zN, zO, zP, hR.len, c1, c2, el, hg, cv, kw, q2, q3', q4', List.length_cons, List.length_nil, n0', m0, GT.gt, iw]
              refine mk_loop hlb r (i + 1) [y] _ H h2 (by omega) (by simp) hR hx hn ⟨_, .inr ⟨sb, rfl, hsb, hgs, hls, by simp⟩, c0, _, rfl, hT, hy⟩ ?_
              have hstep : stepX [y] v = [y] := by unfold stepX; rw [if_neg q1]; simp only [if_neg q3, if_neg q4]
              rw [List.foldl_cons, hstep] at hQ
              exact hQ
          | cons x r2 =>
            obtain ⟨c0', cx, rfl, hT', hx'⟩ := hT
            simp only [List.length_cons] at hst
            have k3 : (r2.length : Int) ≤ (r2.length : Int) := Int.le_refl _
            have l0' := hT'.len
            have lx := hx'.len
            obtain ⟨xk, xv, xw, rfl, ⟨z1, z2⟩, z3, z4⟩ := hx'.form
            have m0 : (1 : Int) < ((r2.length + 1 + 1 : Nat) : Int) := by omega
            have wm : IntKind.i64.wrap (((r2.length + 1 + 1 : Nat) : Int) - 2) = (r2.length : Int) := by rw [IntKind.wrap_i64]; omega
            have tx : List.take 3 (List.drop (r2.length * 3) (c0' ++ [.int .i64 xk, xv, xw] ++ [.int .i64 yk, yv, yw])) = [.int .i64 xk, xv, xw] := by
              rw [List.append_assoc, List.drop_left' l0']; rfl
            have tbx : r2.length * 3 + 3 ≤ (c0' ++ [.int .i64 xk, xv, xw] ++ [.int .i64 yk, yv, yw]).length := by simp only [List.length_append, l0', List.length_cons, List.length_nil]; omega
            have esx := ((Rd.osl (n := r2.length + 1 + 1) hgs hls).pos (by omega)).2.1 r2.length (by omega)
            have k0 : (0 : Int) ≤ (r2.length : Int) := by omega
            have k1 : (r2.length : Int) ≤ ((r2.length + 1 + 1 : Nat) : Int) := by omega
            have k2 : ¬ r2.length + 1 + 1 = 0 := by omega
            have tk : (c0' ++ [.int .i64 xk, xv, xw] ++ [.int .i64 yk, yv, yw]).take (r2.length * 3) = c0' := by rw [List.append_assoc, ← l0', List.take_left]
            simp only [List.length_cons] at wn es ty tb n1 n0'
            -- the two of them put together
            have two : ∀ (kd : Int) (z : Rx), stepX (y :: x :: r2) v = z :: r2 → (∀ P H', ReV P H' z [.int .i64 kd, .nils, .slice H.size 0 2 2] ↔ ∃ v b cx cy, [.int .i64 kd, .nils, .slice H.size 0 2 2] = [.int .i64 kd, .nils, v] ∧ Rd H' 3 (cx ++ cy) 2 v b ∧ P b ∧ ReV P H' x cx ∧ ReV P H' y cy) →
                ∃ H', appendA ((H.push (.cells [.int .i64 xk, xv, xw, .int .i64 yk, yv, yw] .own)).push (.cells [.int .i64 kd, .nils, .slice H.size 0 2 2] .own)) 3 56 (.slice sb 0 r2.length r2.length) 1 [.int .i64 kd, .nils, .slice H.size 0 2 2] = some (.osl 3 (H.size + 1 + 1) 0 (r2.length + 1), H') ∧
                wpl ⟨bt.get, o⟩ [0, 2, 3, 4] lb_gobolaw6_Make_0 { p := [(0, lv), (2, .ptr eb 0), (3, .osl 3 (H.size + 1 + 1) 0 (r2.length + 1)), (4, .int .i64 ((i + 1 : Nat) : Int))], t := [], H := H', d := [], u := .norm } Q := fun kd z hstep hz => by
              have szp : ((H.push (.cells [.int .i64 xk, xv, xw, .int .i64 yk, yv, yw] .own)).push (.cells [.int .i64 kd, .nils, .slice H.size 0 2 2] .own)).size = H.size + 1 + 1 := by rw [Heap.size_push, Heap.size_push]
              have gg : ((H.push (.cells [.int .i64 xk, xv, xw, .int .i64 yk, yv, yw] .own)).push (.cells [.int .i64 kd, .nils, .slice H.size 0 2 2] .own)).get sb = .cells (c0' ++ [.int .i64 xk, xv, xw] ++ [.int .i64 yk, yv, yw]) .own := by rw [Heap.get_push_lt (by rw [Heap.size_push]; omega), Heap.get_push_lt hsbl, hgs]
              have ea := append_cut (sz := 3) (bytes := 56) (m := r2.length) (ys := [.int .i64 kd, .nils, .slice H.size 0 2 2]) gg (by omega) (by omega) (by omega)
              rw [szp, tk] at ea
              have low : ∀ c, c < H.size → ((((H.push (.cells [.int .i64 xk, xv, xw, .int .i64 yk, yv, yw] .own)).push (.cells [.int .i64 kd, .nils, .slice H.size 0 2 2] .own))).push (.cells (c0' ++ [.int .i64 kd, .nils, .slice H.size 0 2 2]) .own)).get c = H.get c := fun c hc => by
                rw [Heap.get_push_lt (by rw [szp]; omega), Heap.get_push_lt (by rw [Heap.size_push]; omega), Heap.get_push_lt hc]
              have ni : ∀ b, NotIn n0 (.osl 3 sb 0 (y :: x :: r2).length) b → b < H.size → NotIn n0 (.osl 3 (H.size + 1 + 1) 0 (r2.length + 1)) b := fun b p1 p2 => ⟨p1.1, fun s' o' n' e => by injection e with _ e; omega⟩
              have gh : ((((H.push (.cells [.int .i64 xk, xv, xw, .int .i64 yk, yv, yw] .own)).push (.cells [.int .i64 kd, .nils, .slice H.size 0 2 2] .own))).push (.cells (c0' ++ [.int .i64 kd, .nils, .slice H.size 0 2 2]) .own)).get H.size = .cells ([.int .i64 xk, xv, xw] ++ [.int .i64 yk, yv, yw]) .own := by
                rw [Heap.get_push_lt (by rw [szp]; omega), Heap.get_push_lt (by rw [Heap.size_push]; omega), Heap.get_push_self]; rfl
              refine ⟨_, ea, mk_loop hlb r (i + 1) (z :: r2) _ _ h2 (by omega) (by simp only [List.length_cons]; omega) (hR.keep fun h => low lb (by have := hlb h; omega)) (hx.trans ⟨by rw [Heap.size_push, szp]; omega, fun b hb => low b (by omega)⟩) (by rw [Heap.size_push, szp]; omega) ⟨_, .inr ⟨H.size + 1 + 1, rfl, by omega, Heap.get_push_eq szp.symm, by simp only [List.length_append, l0', List.length_cons, List.length_nil]; omega, by simp⟩, c0', _, rfl, hT'.keep fun b p1 p2 => ⟨low b p2, ni b p1 p2⟩, (hz _ _).2 ⟨_, H.size, _, _, rfl, Rd.slice gh rfl, ⟨hn, fun s' o' n' e => by injection e with _ e; omega⟩, hx'.keep fun b p1 p2 => ⟨low b p2, ni b p1 p2⟩, hy.keep fun b p1 p2 => ⟨low b p2, ni b p1 p2⟩⟩⟩ ?_⟩
              rw [List.foldl_cons, hstep] at hQ
              exact hQ
            by_cases q4 : kMk v < 7
            · have q4' : (kMk v : Int) < 7 := by omega
              obtain ⟨H', ea, W⟩ := two 3 (.seq x y) (by unfold stepX; rw [if_neg q1]; simp only [if_neg q3, if_pos q4]) (fun P H' => Iff.rfl)
              simp only [lb_gobolaw6_Make_0, go_sem, zA, zB, zC, reduceIte, zD, zE, zF, zG, zH, zI, reduceCtorEq, zJ, zK, zL, zM, zN, zO, zP, hR.len, c1, c2, el, hg, cv, kw, q2, q3', q4', List.length_cons, n0', m0, GT.gt, wm, wn, es, esx, hgs, tx, tbx, ty, tb, k0, k1, k2, k3, ite_self, Nat.sub_zero, y1, y2, y3, y4, z1, z2, z3, z4, ea, iw]
              exact W
            · have q4' : ¬ (kMk v : Int) < 7 := by omega
              obtain ⟨H', ea, W⟩ := two 4 (.alt x y) (by unfold stepX; rw [if_neg q1]; simp only [if_neg q3, if_neg q4]) (fun P H' => Iff.rfl)
              simp only [lb_gobolaw6_Make_0, go_sem, zA, zB, zC, reduceIte, zD, zE, zF, zG, zH, zI, reduceCtorEq, zJ, zK, zL, zM, zN, zO, zP, hR.len, c1, c2, el, hg, cv, kw, q2, q3', q4', List.length_cons, n0', m0, GT.gt, wm, wn, es, esx, hgs, tx, tbx, ty, tb, k0, k1, k2, k3, ite_self, Nat.sub_zero, y1, y2, y3, y4, z1, z2, z3, z4, ea, iw]
              exact W
end
end Go.Ev
/- A law's call with slices among its arguments: each is a block of its own that is only read. -/
namespace Go.Ev
open Go Go.RowKit
theorem law_callsX {P : Program} {B : Nat} {call : FuncId → List AV → Heap → Option (End × Heap)} {l : List Blk} {f : FuncId} {args : List AV} {H0 : Heap} {ι0 : Plan} (hcall : CallOK P B call) (hgl : l.all glBlk = true) (hn : P.globals.size ≤ l.length) {w : World}
    (hglob : ∀ b, b < P.globals.size → ι0 b = some ⟨b, 0, 0⟩) (hdom : ∀ b L, b < l.length → ι0 b = some L → L.blk < w.heap.size)
    (hlive : ∀ b c u, l[b]? = some (.cells c u) → ∃ L, ι0 b = some L ∧ ∀ (i : Nat) (x : AV), c[i]? = some x → ∃ v, w.cell? ⟨L.blk, L.base + i, none⟩ = some v ∧ VR (fun _ => none) x v)
    {vs : Array Value} (hvs : VRs (ι0.upto l.length) args vs.toList) (hrun : call f args (glHeap l) = some (.ret (.bool true), H0)) :
    Calls P f vs w fun e w' => e = .returned (.bool true) ∧ Below w.heap.size w w' := by
  obtain ⟨h1, h2⟩ := hcall _ _ _ _ _ hrun
  have hR0 : Rel w.heap.size (ι0.upto l.length) (glHeap l) w := glRel (ι1 := fun _ => none) hgl hdom hlive
  have hG0 : Glob P (ι0.upto l.length) := fun g hg => ⟨0, by simp only [Plan.upto]; rw [if_pos (by omega), hglob g hg]⟩
  refine (h2 _ w vs hR0 hG0 hvs).mono fun e' w' ⟨ι', g1, g2, g3, g4⟩ => ?_
  obtain ⟨v', rfl, hv'⟩ := g4
  have : v' = .bool true := hv'
  subst this
  exact ⟨rfl, g3⟩
/-- The plan of globals `l` and of slices that came in. -/
def planX (n : Nat) (ext : List (List AV × Loc)) : Plan := fun b => if b < n then some ⟨b, 0, 0⟩ else (ext[b - n]?).map (·.2)
def extB (ext : List (List AV × Loc)) : List Blk := ext.map fun e => .cells e.1 .ro
theorem law_ext {P : Program} {B : Nat} {call : FuncId → List AV → Heap → Option (End × Heap)} {l : List Blk} {f : FuncId} {args : List AV} {H0 : Heap} (hcall : CallOK P B call) (hgl : l.all glBlk = true) (hn : l.length = P.globals.size) {w : World} (hw : l.length ≤ w.heap.size)
    (hlive : ∀ b c u, l[b]? = some (.cells c u) → ∀ (i : Nat) (x : AV), c[i]? = some x → ∃ v, w.cell? ⟨b, i, none⟩ = some v ∧ VR (fun _ => none) x v)
    (ext : List (List AV × Loc)) (hflat : (extB ext).all glBlk = true) (hext : ∀ e ∈ ext, e.2.blk < w.heap.size ∧ ∀ (i : Nat) (x : AV), e.1[i]? = some x → ∃ v, w.cell? ⟨e.2.blk, e.2.base + i, none⟩ = some v ∧ VR (fun _ => none) x v)
    {vs : Array Value} (hvs : VRs (planX l.length ext) args vs.toList) (hrun : call f args (glHeap (l ++ extB ext)) = some (.ret (.bool true), H0)) :
    Calls P f vs w fun e w' => e = .returned (.bool true) ∧ Below w.heap.size w w' := by
  have hlen : (l ++ extB ext).length = l.length + ext.length := by rw [List.length_append, extB, List.length_map]
  have hup : ∀ b, ((planX l.length ext).upto (l ++ extB ext).length) b = planX l.length ext b := fun b => by
    simp only [Plan.upto]
    split
    · rfl
    · rename_i h
      rw [hlen] at h
      rw [planX, if_neg (by omega), List.getElem?_eq_none (by omega)]; rfl
  refine law_callsX (ι0 := planX l.length ext) hcall (by rw [List.all_append, hgl, hflat]; rfl) (by rw [hlen, hn]; omega) (fun b hb => by rw [planX, if_pos (by omega)]) (fun b L hb hL => ?_) (fun b c u hb => ?_) ?_ hrun
  · unfold planX at hL
    split at hL
    · injection hL with hL; subst hL; simp only; omega
    · cases he : ext[b - l.length]? with
      | none => rw [he] at hL; cases hL
      | some e => rw [he] at hL; injection hL with hL; subst hL; exact (hext e (List.mem_of_getElem? he)).1
  · rcases Nat.lt_or_ge b l.length with h | h
    · rw [List.getElem?_append_left h] at hb
      refine ⟨_, by rw [planX, if_pos h], fun i x hx => ?_⟩
      obtain ⟨v, h1, h2⟩ := hlive b c u hb i x hx
      exact ⟨v, by simpa using h1, h2⟩
    · rw [List.getElem?_append_right h, extB, List.getElem?_map] at hb
      cases he : ext[b - l.length]? with
      | none => rw [he] at hb; cases hb
      | some e =>
        rw [he] at hb
        simp only [Option.map_some, Option.some.injEq, Blk.cells.injEq] at hb
        obtain ⟨rfl, rfl⟩ := hb
        exact ⟨e.2, by rw [planX, if_neg (by omega), he]; rfl, (hext e (List.mem_of_getElem? he)).2⟩
  · rw [show (planX l.length ext).upto (l ++ extB ext).length = planX l.length ext from funext hup]; exact hvs
end Go.Ev
/- A slice of numbers that came in, as the machine sees it. -/
namespace Go.Ev
open Go Go.ChangeShapes Go.WideShapes Go.ChangeAt Go.RowKit
theorem arg_ints {Hh : Type} {enc : TypeId × Value → Hh} {P : Program} {W : World} {base : Nat} {t e : TypeId} {v : Value} {d : DataW Hh} {ps : List MemPlace} (ht : P.underlying t = some (.slice e)) (he : P.underlying e = some (.int .i64)) (hc : P.cellsOf e = 1)
    (hval : Value.okWide P W .any base t v) (hd : DataW.Trod enc P W 0 (fun _ => true) true t v d ps) (h0 : 0 < W.heap.size) :
    ∃ (zs : List Int) (x : List AV × Loc) (av : Nat → AV), x.2.blk < W.heap.size ∧ (∀ (i : Nat) (y : AV), x.1[i]? = some y → ∃ u, W.cell? ⟨x.2.blk, x.2.base + i, none⟩ = some u ∧ VR (fun _ => none) y u) ∧ glBlk (.cells x.1 .ro) = true ∧
      (∀ (ι : Plan) (k : Nat), ι k = some x.2 → VR ι (av k) v) ∧ (∀ (H : Heap) (k : Nat), H.get k = .cells x.1 .ro → Rd H 1 (ic zs) zs.length (av k) k) := by
  have hflat : ∀ zs : List Int, glBlk (.cells (ic zs) .ro) = true := fun zs => by
    have : AV.flats (ic zs) = true := by
      unfold ic
      induction zs with
      | nil => rfl
      | cons z zs ih => simp only [List.map_cons, AV.flats, AV.flat, ih, Bool.and_self]
    simp only [glBlk, this]
  obtain ⟨a0, len, cap, rfl⟩ := okWide_slice ht hval
  obtain ⟨fuel, hf⟩ := hd
  rcases open_ints ht he hc hf with ⟨hcs, _⟩ | ⟨a, len', cap', zs, hcs, hb, hl, hm, hz, hx, hcell, hw⟩
  · simp only [Value.cells, List.cons.injEq, and_true] at hcs
    rw [hcs]
    refine ⟨[], ([], ⟨0, 0, 0⟩), fun _ => .nils, h0, fun i y h => by simp at h, rfl, fun ι k _ => rfl, fun H k _ => Rd.nil⟩
  · simp only [Value.cells, List.cons.injEq, and_true] at hcs
    injection hcs with q1 q2 q3
    subst q1; subst q2; subst q3
    have hok : Cell.okWide P W .any base t (.slice (some a) len cap) := by
      have := hval
      simp only [Value.okWide, ht] at this
      exact this
    simp only [Cell.okWide, ht, Cell.ok] at hok
    obtain ⟨_, _, _, hsp, row, cells, hsh, _⟩ := hok
    have hblk : a.block < W.heap.size := by
      rcases Nat.lt_or_ge a.block W.heap.size with h | h
      · exact h
      · simp only [World.shape?, Array.getElem?_eq_none h] at hsh; cases hsh
    have ha : ∀ i, a.add i = ⟨a.block, a.off + i, none⟩ := fun i => by
      unfold Addr.add
      split
      · rename_i h; subst h
        cases a with
        | mk b o s => simp only at hsp; subst hsp; rfl
      · rfl
    have hlz : len ≤ zs.length := by rw [hz]; split <;> omega
    refine ⟨zs.take len, (ic (zs.take len), ⟨a.block, a.off, 0⟩), fun k => .slice k 0 len cap, hblk, fun i y h => ?_, hflat _, fun ι k hk => ⟨_, hk, ?_⟩, fun H k hg => ?_⟩
    · simp only [ic, List.getElem?_map] at h
      rcases Nat.lt_or_ge i len with hi | hi
      · rw [List.getElem?_take, if_pos hi] at h
        have hzi : zs[i]? = some (zs.getD i 0) := by
          rw [List.getD_eq_getElem?_getD, List.getElem?_eq_getElem (by omega)]; rfl
        rw [hzi] at h
        injection h with h; subst h
        exact ⟨_, by rw [← ha i]; exact hcell i (by omega), rfl⟩
      · rw [List.getElem?_eq_none (by rw [List.length_take]; omega)] at h; cases h
    · have := ha 0
      rw [show a.add 0 = a by simp [Addr.add]] at this
      simp only [Nat.add_zero]
      rw [this]
    · have hlen : (zs.take len).length = len := by rw [List.length_take]; omega
      rw [hlen]
      exact Rd.slice hg (by simp [ic, hlz])
end Go.Ev
/- 'told', run by the kernel. -/
namespace Go.Ev
open Go Go.Proofs
theorem told_run : retB (evFn bt.get 1000 F_gobolaw14_told [] (glHeap gl)) = true := by kernel_rfl
end Go.Ev
/- 'told' comes to true. -/
namespace Go.Ev
open Go Go.Proofs
/-- 'told' comes to true. -/
def ovT : CallF := pureCall gl F_told [] (.bool true)
theorem ovT_only : OvOnly ovT := fun f l H h => by simp only [ovT, pureCall, if_neg h]
theorem okGl_GlH {H : Heap} (h : GlH H) : okGl gl 0 H = true := by
  have h0 := h.2.2.2 (0, .cells glOwn .ro) (by simp [glExtra])
  have h1 := h.2.2.2 (1, .cells glPow10 .ro) (by simp [glExtra])
  have h6 := h.2.2.2 (6, .cells glDB32 .ro) (by simp [glExtra])
  have h7 := h.2.2.2 (7, .cells glDB64 .ro) (by simp [glExtra])
  simp only at h0 h1 h6 h7
  simp only [gl, okGl, h0, h1, h6, h7, h.2.1, h.2.2.1, AV.beqs_self, Bool.and_true]
theorem t_told {H : Heap} {Q : End → Heap → Prop} (hG : GlH H) (h : Q (.ret (.bool true)) H) : wpf ⟨bt.get, ovT⟩ F_told [] H Q :=
  wpf_ov (M := ⟨bt.get, ovT⟩) (by simp only [ovT, pureCall, okGl_GlH hG, AV.beqs, Bool.and_true, if_true]) h
theorem glHX (e : List Blk) : GlH (glHeap (gl ++ e)) := ⟨by rw [glHeap_size, List.length_append]; exact Nat.le_trans (by decide : 8 ≤ gl.length) (Nat.le_add_right _ _), by rw [glHeap_get]; rfl, by rw [glHeap_get]; rfl, fun p hp => by
  simp [glExtra] at hp; rcases hp with rfl | rfl | rfl | rfl <;> (rw [glHeap_get]; rfl)⟩
end Go.Ev
/- The seat's listed variables in a world; calls of the machine there. -/
namespace Go.Proofs.YtifhmogcdgfojaaGreatDoor
open Go Go.ChangeShapes Go.WideShapes Go.ChangeAt Go.RowKit Go.Ev
theorem own : ownKnob Tryz.prog.godebug = none := by kernel_rfl
def laidW : List (String × DataW Unit) := [("math/bits.deBruijn32tab", Rows.laid_math_bits_deBruijn32tab), ("math/bits.deBruijn64tab", Rows.laid_math_bits_deBruijn64tab), ("internal/strconv.uint64pow10", Rows.laid_internal_strconv_uint64pow10), ("unicode/utf8.acceptRanges", Rows.laid_unicode_utf8_acceptRanges), ("gobo/gram.own", Rows.laid_gobo_gram_own), ("unicode.CaseRanges", Rows.laid_unicode_CaseRanges), ("unicode/utf8.first", Rows.laid_unicode_utf8_first)]
theorem gl_0 : flatD Tryz.prog 9 167 Rows.laid_gobo_gram_own = some glOwn := by kernel_rfl
theorem gl_1 : flatD Tryz.prog 9 195 Rows.laid_internal_strconv_uint64pow10 = some glPow10 := by kernel_rfl
theorem gl_3 : flatD Tryz.prog 9 215 Rows.laid_unicode_utf8_first = some glFirst := by kernel_rfl
theorem gl_4 : flatD Tryz.prog 9 218 Rows.laid_unicode_utf8_acceptRanges = some glAccept := by kernel_rfl
theorem gl_6 : flatD Tryz.prog 9 228 Rows.laid_math_bits_deBruijn32tab = some glDB32 := by kernel_rfl
theorem gl_7 : flatD Tryz.prog 9 229 Rows.laid_math_bits_deBruijn64tab = some glDB64 := by kernel_rfl
/-- The listed variables, in a world. -/
theorem gl_live {w : World} (h : laidMet Tryz.prog laidW w) : gl.length ≤ w.heap.size ∧ ∀ b c u, gl[b]? = some (.cells c u) → ∀ (i : Nat) (x : AV), c[i]? = some x → ∃ v, w.cell? ⟨b, i, none⟩ = some v ∧ VR (fun _ => none) x v := by
  have h0 := laid_cells (ι := fun _ => none) h (name := "gobo/gram.own") (g := 0) (t := 167) (.tail _ (.tail _ (.tail _ (.tail _ (.head _))))) (by kernel_rfl) (by kernel_rfl) gl_0
  have h1 := laid_cells (ι := fun _ => none) h (name := "internal/strconv.uint64pow10") (g := 1) (t := 195) (.tail _ (.tail _ (.head _))) (by kernel_rfl) (by kernel_rfl) gl_1
  have h3 := laid_cells (ι := fun _ => none) h (name := "unicode/utf8.first") (g := 3) (t := 215) (.tail _ (.tail _ (.tail _ (.tail _ (.tail _ (.tail _ (.head _))))))) (by kernel_rfl) (by kernel_rfl) gl_3
  have h4 := laid_cells (ι := fun _ => none) h (name := "unicode/utf8.acceptRanges") (g := 4) (t := 218) (.tail _ (.tail _ (.tail _ (.head _)))) (by kernel_rfl) (by kernel_rfl) gl_4
  have h6 := laid_cells (ι := fun _ => none) h (name := "math/bits.deBruijn32tab") (g := 6) (t := 228) (.head _) (by kernel_rfl) (by kernel_rfl) gl_6
  have h7 := laid_cells (ι := fun _ => none) h (name := "math/bits.deBruijn64tab") (g := 7) (t := 229) (.tail _ (.head _)) (by kernel_rfl) (by kernel_rfl) gl_7
  constructor
  · obtain ⟨v, hv, _⟩ := h7 0 (.int .u8 0) (by kernel_rfl)
    rcases Nat.lt_or_ge 7 w.heap.size with h | h
    · exact h
    · simp only [World.cell?, Array.getElem?_eq_none h] at hv; cases hv
  · intro b c u hb i x hx
    match b, hb with
    | 0, hb => simp only [gl, List.getElem?_cons_zero, Option.some.injEq, Blk.cells.injEq] at hb; obtain ⟨rfl, _⟩ := hb; exact h0 i x hx
    | 1, hb => simp only [gl, List.getElem?_cons_succ, List.getElem?_cons_zero, Option.some.injEq, Blk.cells.injEq] at hb; obtain ⟨rfl, _⟩ := hb; exact h1 i x hx
    | 2, hb => simp [gl] at hb
    | 3, hb => simp only [gl, List.getElem?_cons_succ, List.getElem?_cons_zero, Option.some.injEq, Blk.cells.injEq] at hb; obtain ⟨rfl, _⟩ := hb; exact h3 i x hx
    | 4, hb => simp only [gl, List.getElem?_cons_succ, List.getElem?_cons_zero, Option.some.injEq, Blk.cells.injEq] at hb; obtain ⟨rfl, _⟩ := hb; exact h4 i x hx
    | 5, hb => simp [gl] at hb
    | 6, hb => simp only [gl, List.getElem?_cons_succ, List.getElem?_cons_zero, Option.some.injEq, Blk.cells.injEq] at hb; obtain ⟨rfl, _⟩ := hb; exact h6 i x hx
    | 7, hb => simp only [gl, List.getElem?_cons_succ, List.getElem?_cons_zero, Option.some.injEq, Blk.cells.injEq] at hb; obtain ⟨rfl, _⟩ := hb; exact h7 i x hx
    | b + 8, hb => simp [gl] at hb
theorem ovT_ok (B : Nat) : CallOK Tryz.prog B ovT := by
  obtain ⟨H, h⟩ := retB_some told_run
  exact pureCall_ok (callOK 1000 B) gl_ok gl_len rfl rfl h
theorem laidOut : laidOutB Tryz.prog = true := by kernel_rfl
/-- A law with slices among its arguments. -/
theorem law_trueX {f : FuncId} {args : List AV} {w : World} (hL : laidMet Tryz.prog laidW w) (ext : List (List AV × Ev.Loc)) (hflat : (extB ext).all glBlk = true) (hext : ∀ e ∈ ext, e.2.blk < w.heap.size ∧ ∀ (i : Nat) (x : AV), e.1[i]? = some x → ∃ v, w.cell? ⟨e.2.blk, e.2.base + i, none⟩ = some v ∧ VR (fun _ => none) x v)
    {vs : Array Value} (hvs : VRs (planX gl.length ext) args vs.toList) (h : wpf ⟨bt.get, ovT⟩ f args (glHeap (gl ++ extB ext)) fun e _ => e = .ret (.bool true)) :
    Calls Tryz.prog f vs w fun e w' => e = .returned (.bool true) ∧ Below w.heap.size w w' := by
  obtain ⟨g1, g2⟩ := gl_live hL
  obtain ⟨N, H1, hrun⟩ := wpf_run h
  exact law_ext (evT_ok (M := ⟨bt.get, ovT⟩) table (drawn_all _) (ovT_ok w.heap.size) N) gl_ok gl_len g1 g2 ext hflat hext hvs hrun
end Go.Proofs.YtifhmogcdgfojaaGreatDoor
