/- Several texts of this claim, joined. -/
import Derived.Test.YtibdapopccemeaaGreatDoorT23
import Derived.Test.YtibdapopccemeaaGreatDoorT20
import Derived.Test.YtibdapopccemeaaGreatDoorT15
set_option linter.unusedSimpArgs false
set_option linter.unusedVariables false

/- Package goboref3: cuts. -/
namespace Go.Ev
open Go
open Go.Ev renaming seqK_normal → zA, blockK_normal → zB, blockK_exit → zC
open Nat renaming reduceEqDiff → zD, reduceAdd → zE, reduceSub → zF, reduceMul → zG, reduceLeDiff → zH, reduceLT → zI
open Int renaming reduceToNat → zJ, reduceLT → zK, reduceLE → zL, reduceEq → zM, reduceAdd → zN, reduceSub → zO, reduceMul → zP
set_option maxRecDepth 8000
def ncells (l : List Nat) : List AV := l.map fun (n : Nat) => .int .i64 (n : Int)
theorem ncells_len (l : List Nat) : (ncells l).length = l.length * 1 := by simp [ncells]
theorem ncells_app (l m : List Nat) : ncells (l ++ m) = ncells l ++ ncells m := by simp [ncells]
theorem ncells_at {l : List Nat} {i c : Nat} (h : l[i]? = some c) : (ncells l)[i]? = some (.int .i64 (c : Int)) := by simp [ncells, h]
theorem nc_one (l : List Nat) : (ncells l).all AV.one = true := by simp [ncells, AV.one]
/-- A slice that may be grown: nothing, one that append made, or a full one. -/
def Gs (n0 : Nat) (H : Heap) (sz : Nat) (cs : List AV) (n : Nat) (v : AV) : Prop :=
  (v = .nils ∧ n = 0 ∧ cs = []) ∨ ∃ b, n0 ≤ b ∧ H.get b = .cells cs .own ∧ cs.length = n * sz ∧ (v = .osl sz b 0 n ∨ v = .slice b 0 n n)
theorem Gs.len {n0 H sz cs n v} (h : Gs n0 H sz cs n v) : cs.length = n * sz := by
  rcases h with ⟨_, rfl, rfl⟩ | ⟨b, _, _, h4, _⟩
  · simp
  · exact h4
theorem Gs.push {n0 H sz cs n v x} (h : Gs n0 H sz cs n v) : Gs n0 (H.push x) sz cs n v := by
  rcases h with h | ⟨b, h1, h2, h3, h4⟩
  · exact .inl h
  · exact .inr ⟨b, h1, by rw [Heap.get_push_lt (Heap.lt_of_get (by rw [h2]; simp)), h2], h3, h4⟩
theorem Gs.rd {n0 H sz cs n v} (h : Gs n0 H sz cs n v) : ∃ b, Rd H sz cs n v b := by
  rcases h with ⟨rfl, rfl, rfl⟩ | ⟨b, h1, h2, h3, rfl | rfl⟩
  · exact ⟨0, Rd.nil⟩
  · exact ⟨b, Rd.osl h2 h3⟩
  · exact ⟨b, Rd.slice h2 h3⟩
theorem Gs.sl {n0 H sz cs n v} (h : Gs n0 H sz cs n v) (hn : 0 < n) (hv : ∃ b, v = .osl sz b 0 n) : Sl n0 H sz cs n v := by
  obtain ⟨b', rfl⟩ := hv
  rcases h with ⟨h, _⟩ | ⟨b, h1, h2, h3, h4 | h4⟩
  · cases h
  · injection h4 with _ h4; subst h4; exact .inr ⟨b', rfl, h1, h2, h3, hn⟩
  · cases h4
theorem gs_append {n0 : Nat} {H : Heap} {sz bytes : Nat} {cs ys : List AV} {n k : Nat} {v : AV} (h : Gs n0 H sz cs n v) (hn : n0 ≤ H.size) (hy : ys.length = k * sz) (h1 : (n + k) * bytes ≤ 1099511627776) (h2 : n + k ≤ 1099511627776) :
    ∃ v' H', appendA H sz bytes v k ys = some (v', H') ∧ Ext n0 H H' ∧ Gs n0 H' sz (cs ++ ys) (n + k) v' ∧ (0 < k → ∃ b, v' = .osl sz b 0 (n + k)) ∧ (k = 0 → v' = v) ∧ ∀ c, c < H.size → (∀ s o n, v ≠ .osl s c o n) → H'.get c = H.get c := by
  by_cases hk : k = 0
  · subst hk
    have : ys = [] := List.eq_nil_of_length_eq_zero (by omega)
    subst this
    refine ⟨v, H, ?_, Ext.refl, by simpa using h, fun h => absurd h (by omega), fun _ => rfl, fun _ _ _ => rfl⟩
    rcases h with ⟨rfl, _⟩ | ⟨b, _, _, _, rfl | rfl⟩
    · rfl
    · rfl
    · simp [appendA]
  · have hl := h.len
    rcases h with ⟨rfl, rfl, rfl⟩ | ⟨b, hb, hg, h3, rfl | rfl⟩
    · rw [Nat.zero_add] at *
      refine ⟨.osl sz H.size 0 k, H.push (.cells ys .own), ?_, Ext.push hn, .inr ⟨H.size, hn, Heap.get_push_self, by simpa using hy, .inl rfl⟩, fun _ => ⟨_, rfl⟩, fun h => absurd h hk, fun c hc _ => Heap.get_push_lt hc⟩
      simp only [appendA, if_neg hk, if_pos (And.intro h1 h2)]
    · have hb' : b < H.size := Heap.lt_of_get (by rw [hg]; simp)
      refine ⟨.osl sz H.size 0 (n + k), (H.set b .dead).push (.cells (cs ++ ys) .own), ?_, (Ext.set hb).trans (Ext.push hn), .inr ⟨H.size, hn, Heap.get_push_eq (by rw [Heap.size_set]), ?_, .inl rfl⟩, fun _ => ⟨_, rfl⟩, fun h => absurd h hk, fun c hc hne => ?_⟩
      · have e : rd cs 0 (n * sz) = cs := by rw [rd, List.drop_zero, ← hl, List.take_length]
        simp only [appendA, if_neg hk, hg, h1, h2, true_and, and_self, Nat.zero_add, hl, Nat.le_refl, if_true, e]
      · rw [List.length_append, hl, hy, Nat.add_mul]
      · have hcb : c ≠ b := fun e => hne sz 0 n (by rw [e])
        rw [Heap.get_push_lt (by rw [Heap.size_set]; exact hc), Heap.get_set_ne hcb]
    · refine ⟨.osl sz H.size 0 (n + k), H.push (.cells (cs ++ ys) .own), ?_, Ext.push hn, .inr ⟨H.size, hn, Heap.get_push_self, ?_, .inl rfl⟩, fun _ => ⟨_, rfl⟩, fun h => absurd h hk, fun c hc hne => Heap.get_push_lt hc⟩
      · have hr : readSl H sz (.slice b 0 n n) = some (n, cs) := (Rd.slice hg h3).read
        simp only [appendA, if_neg hk, if_neg (show ¬ n + k ≤ n by omega), h1, h2, and_self, if_true, hr]
      · rw [List.length_append, hl, hy, Nat.add_mul]
def posN (c : Nat) : List Nat → Nat
  | [] => 0
  | x :: r => if x < c then posN c r + 1 else 0
theorem posN_le (c : Nat) : ∀ l : List Nat, posN c l ≤ l.length
  | [] => Nat.le_refl _
  | x :: r => by
    have := posN_le c r
    rw [posN]; split <;> (simp only [List.length_cons]; omega)
theorem insN_pos (c : Nat) : ∀ l : List Nat, insN c l = if l[posN c l]? = some c then l else l.take (posN c l) ++ c :: l.drop (posN c l)
  | [] => by simp [insN, posN]
  | x :: r => by
    rw [insN, posN]
    split
    · rw [insN_pos c r, List.getElem?_cons_succ]
      split <;> simp
    · simp only [List.getElem?_cons_zero, Option.some.injEq, List.take_zero, List.drop_zero, List.nil_append]
theorem ends_get : ∀ (l : List S) (i c : Nat), (endsG l)[i]? = some c → ∃ x, l[i / 2]? = some x ∧ c = if i % 2 = 1 then x.2 else x.1
  | [], i, c, h => by simp [endsG] at h
  | x :: l, 0, c, h => by
    simp only [endsG, List.flatMap_cons, List.cons_append, List.getElem?_cons_zero, Option.some.injEq] at h
    exact ⟨x, rfl, by subst h; rfl⟩
  | x :: l, 1, c, h => by
    simp only [endsG, List.flatMap_cons, List.cons_append, List.getElem?_cons_succ, List.getElem?_cons_zero, Option.some.injEq] at h
    exact ⟨x, rfl, by subst h; rfl⟩
  | x :: l, i + 2, c, h => by
    have h' : (endsG l)[i]? = some c := by simpa [endsG] using h
    obtain ⟨y, h1, h2⟩ := ends_get l i c h'
    refine ⟨y, by rw [show (i + 2) / 2 = i / 2 + 1 by omega, List.getElem?_cons_succ]; exact h1, ?_⟩
    rw [show (i + 2) % 2 = i % 2 by omega]; exact h2
theorem ends_len : ∀ l : List S, (endsG l).length = 2 * l.length
  | [] => rfl
  | x :: l => by
    have := ends_len l
    unfold endsG at *
    rw [List.flatMap_cons, List.length_append, this]; simp only [List.length_cons, List.length_nil]; omega
section
variable {o : CallF} (ho : OvOnly o)
include ho
omit ho in
theorem c_pos_loop {v ov : AV} {acc : List Nat} {ob i c : Nat} (hl : acc.length ≤ 1000000) {H : Heap} (hR : Rd H 1 (ncells acc) acc.length ov ob) {Q : Ctl → St → Prop} : ∀ (r : List Nat) (k : Nat), acc.drop k = r → k ≤ acc.length →
    (∀ y t, Q (.exit 2) { p := [(0, v), (3, ov), (4, .int .i64 (i : Int)), (5, .int .i64 (c : Int)), (6, .int .i64 ((k + posN c r : Nat) : Int)), (41, y)], t := t, H := H, d := [], u := .norm }) →
    wpl ⟨bt.get, o⟩ [0, 3, 4, 5, 6] lb_goboref3_cuts_0 { p := [(0, v), (3, ov), (4, .int .i64 (i : Int)), (5, .int .i64 (c : Int)), (6, .int .i64 (k : Int))], t := [], H := H, d := [], u := .norm } Q
  | [], k, hd, hk, hQ => by
    have : acc.length ≤ k := List.drop_eq_nil_iff.1 hd
    rw [wpl_step]
    have h1 : ¬((k : Int) < (acc.length : Int)) := by omega
    simp only [lb_goboref3_cuts_0, go_sem, zA, zB, zC, reduceIte, zD, zE, zF, zG, zH, zI, reduceCtorEq, zJ, zK, zL, zM, zN, zO, zP, hR.len, h1]
    exact hQ _ _
  | x :: r, k, hd, hk, hQ => by
    obtain ⟨h0, h1, h2⟩ := list_at hd
    obtain ⟨⟨u, hg⟩, hel, _⟩ := hR.pos (by omega)
    have el := hel k h1
    rw [Nat.mul_one] at el
    have c1 := ncells_at h0
    rw [wpl_step]
    have h1' : ((k : Int) < (acc.length : Int)) := by omega
    have iw := wsucc (show k ≤ 1000000000 by omega)
    by_cases q : x < c
    · have q' : (x : Int) < (c : Int) := by omega
      simp only [lb_goboref3_cuts_0, go_sem, zA, zB, zC, reduceIte, zD, zE, zF, zG, zH, zI, reduceCtorEq, zJ, zK, zL, zM, zN, zO, zP, hR.len, h1', el, hg, c1, q', iw]
      refine c_pos_loop hl hR r (k + 1) h2 (by omega) fun y t => ?_
      have := hQ y t
      rw [posN, if_pos q, show k + (posN c r + 1) = k + 1 + posN c r by omega] at this
      exact this
    · have q' : ¬ (x : Int) < (c : Int) := by omega
      simp only [lb_goboref3_cuts_0, go_sem, zA, zB, zC, reduceIte, zD, zE, zF, zG, zH, zI, reduceCtorEq, zJ, zK, zL, zM, zN, zO, zP, hR.len, h1', el, hg, c1, q']
      simp only [posN, if_neg q, Nat.add_zero] at hQ
      exact hQ _ _
omit ho in
theorem ins_mem {H : Heap} {c k1 k3 : Nat} {ys1 ys3 : List AV} (h1 : ys1.length = k1) (h3 : ys3.length = k3) (hk : k1 + k3 ≤ 1000000) :
    ∃ v1 H2 v2 H3 v3 H4, appendA (H.push (.cells [] .own)) 1 8 (.slice H.size 0 0 0) k1 ys1 = some (v1, H2) ∧ appendA (H2.push (.cells [.int .i64 (c : Int)] .own)) 1 8 v1 1 [.int .i64 (c : Int)] = some (v2, H3) ∧ appendA H3 1 8 v2 k3 ys3 = some (v3, H4) ∧
      Ext H.size H H3 ∧ Ext H.size H H4 ∧ Sl H.size H4 1 (ys1 ++ .int .i64 (c : Int) :: ys3) (k1 + 1 + k3) v3 := by
  have s1 : H.size + 1 = (H.push (.cells [] .own)).size := (Heap.size_push _ _).symm
  have x1 : Ext H.size H (H.push (.cells [] .own)) := Ext.push (Nat.le_refl _)
  have G1 : Gs H.size (H.push (.cells [] .own)) 1 [] 0 (.slice H.size 0 0 0) := .inr ⟨H.size, Nat.le_refl _, Heap.get_push_self, rfl, .inr rfl⟩
  obtain ⟨v1, H2, e1, x2, G2, _, _, _⟩ := gs_append (bytes := 8) (ys := ys1) (k := k1) G1 (by omega) (by omega) (by omega) (by omega)
  have s2 := x2.1
  obtain ⟨v2, H3, e2, x3, G3, f3, _, _⟩ := gs_append (bytes := 8) (ys := [.int .i64 (c : Int)]) (k := 1) (G2.push (x := .cells [.int .i64 (c : Int)] .own)) (by rw [Heap.size_push]; omega) rfl (by omega) (by omega)
  have s3 := x3.1
  rw [Heap.size_push] at s3
  have y3 : Ext H.size H H3 := (x1.trans x2).trans ((Ext.push (by omega)).trans x3)
  obtain ⟨v3, H4, e3, x4, G4, f4, g4, _⟩ := gs_append (bytes := 8) (ys := ys3) (k := k3) G3 (by omega) (by omega) (by omega) (by omega)
  refine ⟨v1, H2, v2, H3, v3, H4, e1, e2, e3, y3, y3.trans x4, ?_⟩
  have G5 : Gs H.size H4 1 (ys1 ++ .int .i64 (c : Int) :: ys3) (k1 + 1 + k3) v3 := by simpa using G4
  refine G5.sl (by omega) ?_
  rcases Nat.eq_zero_or_pos k3 with h | h
  · obtain ⟨b, hb⟩ := f3 (by omega)
    subst h
    exact ⟨b, by rw [g4 rfl, hb]; simp⟩
  · obtain ⟨b, hb⟩ := f4 h
    exact ⟨b, by rw [hb]; simp⟩
omit ho in
theorem c_loop {l : List S} {v : AV} {rb : Nat} (hl : l.length ≤ 100000) {n0 : Nat} (hrb : 0 < l.length → rb < n0) {H0 : Heap} {Q : Ctl → St → Prop} : ∀ (r : List Nat) (i : Nat) (acc : List Nat) (ov : AV) (H : Heap), (endsG l).drop i = r → i ≤ 2 * l.length → acc.length ≤ i → Rd H 2 (scells l) l.length v rb → Ext n0 H0 H → n0 ≤ H.size → Sl n0 H 1 (ncells acc) acc.length ov →
    (∀ (H' : Heap) (ov' : AV) x1 x2 x3 t, Ext n0 H0 H' → Sl n0 H' 1 (ncells (r.foldl (fun out c => insN c out) acc)) (r.foldl (fun out c => insN c out) acc).length ov' → Q (.exit 0) { p := [(0, x1), (3, ov'), (4, x2), (12, x3)], t := t, H := H', d := [], u := .norm }) →
    wpl ⟨bt.get, o⟩ [0, 3, 4] lb_goboref3_cuts_1 { p := [(0, v), (3, ov), (4, .int .i64 (i : Int))], t := [], H := H, d := [], u := .norm } Q
  | [], i, acc, ov, H, hd, hi, ha, hR, hx, hn, hS, hQ => by
    have : (endsG l).length ≤ i := List.drop_eq_nil_iff.1 hd
    rw [ends_len] at this
    rw [wpl_step]
    have w2 : IntKind.i64.wrap (2 * (l.length : Int)) = ((2 * l.length : Nat) : Int) := by rw [IntKind.wrap_i64]; omega
    have h1 : ¬((i : Int) < ((2 * l.length : Nat) : Int)) := by omega
    simp only [lb_goboref3_cuts_1, go_sem, zA, zB, zC, reduceIte, zD, zE, zF, zG, zH, zI, reduceCtorEq, zJ, zK, zL, zM, zN, zO, zP, hR.len, w2, h1]
    exact hQ H ov _ _ _ _ hx hS
  | c :: r, i, acc, ov, H, hd, hi, ha, hR, hx, hn, hS, hQ => by
    obtain ⟨h0, h1, h2⟩ := list_at hd
    obtain ⟨x, g0, gc⟩ := ends_get l i c h0
    have hi2 : i / 2 < l.length := (List.getElem?_eq_some_iff.1 g0).1
    rw [ends_len] at h1
    obtain ⟨⟨u, hg⟩, hel, _⟩ := hR.pos (by omega)
    have el := hel (i / 2) hi2
    obtain ⟨c1, c2⟩ := scells_fld g0
    rw [wpl_step]
    have w2 : IntKind.i64.wrap (2 * (l.length : Int)) = ((2 * l.length : Nat) : Int) := by rw [IntKind.wrap_i64]; omega
    have h1' : ((i : Int) < ((2 * l.length : Nat) : Int)) := by omega
    have w3 : IntKind.i64.wrap ((i : Int).tdiv 2) = ((i / 2 : Nat) : Int) := by rw [show (i : Int).tdiv 2 = ((i / 2 : Nat) : Int) from rfl, IntKind.wrap_i64]; omega
    have w4 : (i : Int).tmod 2 = ((i % 2 : Nat) : Int) := rfl
    have iw := wsucc (show i ≤ 1000000000 by omega)
    obtain ⟨ob, hRo, hob⟩ := hS.rd
    by_cases par : i % 2 = 1
    case' pos =>
      have par' : ((i % 2 : Nat) : Int) = 1 := by omega
      rw [if_pos par] at gc
      rw [← gc] at c2
      simp only [lb_goboref3_cuts_1, go_sem, zA, zB, zC, reduceIte, zD, zE, zF, zG, zH, zI, reduceCtorEq, zJ, zK, zL, zM, zN, zO, zP, hR.len, w2, h1', w3, w4, el, hg, c1, c2, par']
      refine c_pos_loop (by omega) hRo acc 0 rfl (Nat.zero_le _) fun y t => ?_
    case' neg =>
      have par' : ¬ ((i % 2 : Nat) : Int) = 1 := by omega
      rw [if_neg par] at gc
      rw [← gc] at c1
      simp only [lb_goboref3_cuts_1, go_sem, zA, zB, zC, reduceIte, zD, zE, zF, zG, zH, zI, reduceCtorEq, zJ, zK, zL, zM, zN, zO, zP, hR.len, w2, h1', w3, w4, el, hg, c1, c2, par']
      refine c_pos_loop (by omega) hRo acc 0 rfl (Nat.zero_le _) fun y t => ?_
    all_goals
      rcases hS with ⟨rfl, a0, _⟩ | ⟨ob', rfl, hob', hgo, hlo, hpo⟩
      · have : acc = [] := List.eq_nil_of_length_eq_zero a0
        subst this
        obtain ⟨v1, H2, v2, H3, v3, H4, ea1, ea2, ea3, _, x4, s4⟩ := ins_mem (H := H) (c := c) (ys1 := []) (ys3 := []) (k1 := 0) (k3 := 0) rfl rfl (by omega)
        simp only [go_sem, zA, zB, zC, reduceIte, zD, zE, zF, zG, zH, zI, reduceCtorEq, zJ, zK, zL, zM, zN, zO, zP, posN, List.length_nil, Nat.add_zero, Int.natCast_zero, ea1, ea2, ea3, iw]
        exact c_loop hl hrb r (i + 1) [c] v3 H4 h2 (by omega) (by simp) (hR.keep fun h => x4.2 rb (hR.lt h)) (hx.trans (x4.le hn)) (Nat.le_trans hn x4.1) (s4.frame' hn) hQ
      · have hpl := posN_le c acc
        have k0 : (0 : Int) ≤ ((posN c acc : Nat) : Int) := by omega
        have k1 : ((posN c acc : Nat) : Int) ≤ (acc.length : Int) := by omega
        have hlo' : ob' < H.size := Heap.lt_of_get (by rw [hgo]; simp)
        have tl : (ncells (acc.take (posN c acc))).length = posN c acc := by rw [ncells_len, List.length_take]; omega
        have dl : (ncells (acc.drop (posN c acc))).length = acc.length - posN c acc := by rw [ncells_len, List.length_drop]; omega
        obtain ⟨v1, H2, v2, H3, v3, H4, ea1, ea2, ea3, x3, x4, s4⟩ := ins_mem (H := H) (c := c) (ys1 := ncells (acc.take (posN c acc))) (ys3 := ncells (acc.drop (posN c acc))) (k1 := posN c acc) (k3 := acc.length - posN c acc) (by omega) (by omega) (by omega)
        have hr1 : readSl (H.push (.cells [] .own)) 1 (.osl 1 ob' 0 (posN c acc)) = some (posN c acc, ncells (acc.take (posN c acc))) := by
          have gg : (H.push (.cells [] .own)).get ob' = .cells (ncells acc) .own := by rw [Heap.get_push_lt hlo', hgo]
          simp only [readSl, if_true, gg]
          split
          · rename_i e; rw [e]; rfl
          · rw [if_pos (by rw [ncells_len]; omega)]; simp [rd, ncells, List.map_take]
        have hr3 : readSl H3 1 (.osl 1 ob' (posN c acc) (acc.length - posN c acc)) = some (acc.length - posN c acc, ncells (acc.drop (posN c acc))) := by
          have gg : H3.get ob' = .cells (ncells acc) .own := by rw [x3.2 ob' hlo', hgo]
          simp only [readSl, if_true, gg]
          split
          · rename_i e; rw [List.drop_eq_nil_of_le (by omega)]; simp [e, ncells]
          · rw [if_pos (by rw [ncells_len]; omega)]; simp [rd, ncells, List.map_drop, List.take_of_length_le]
        simp only [go_sem, zA, zB, zC, reduceIte, zD, zE, zF, zG, zH, zI, reduceCtorEq, zJ, zK, zL, zM, zN, zO, zP, Nat.sub_zero, Nat.zero_add] at hr1 hr3
        have go : insN c acc = acc.take (posN c acc) ++ c :: acc.drop (posN c acc) → wpl ⟨bt.get, o⟩ [0, 3, 4] lb_goboref3_cuts_1 { p := [(0, v), (3, v3), (4, .int .i64 ((i + 1 : Nat) : Int))], t := [], H := H4, d := [], u := .norm } Q := fun e => by
          refine c_loop hl hrb r (i + 1) (insN c acc) v3 H4 h2 (by omega) (by have := insN_len (c := c) (l := acc); omega) (hR.keep fun h => x4.2 rb (hR.lt h)) (hx.trans (x4.le hn)) (Nat.le_trans hn x4.1) ?_ hQ
          have e1 : ncells (insN c acc) = ncells (acc.take (posN c acc)) ++ .int .i64 (c : Int) :: ncells (acc.drop (posN c acc)) := by rw [e, ncells_app]; rfl
          have e2 : (insN c acc).length = posN c acc + 1 + (acc.length - posN c acc) := by rw [e, List.length_append, List.length_cons, List.length_take, List.length_drop]; omega
          rw [e1, e2]
          exact s4.frame' hn
        rcases Nat.lt_or_ge (posN c acc) acc.length with hk | hk
        · have k2 : ((posN c acc : Nat) : Int) < (acc.length : Int) := by omega
          obtain ⟨z, hz⟩ : ∃ z, acc[posN c acc]? = some z := ⟨_, List.getElem?_eq_getElem hk⟩
          have gz := ncells_at hz
          by_cases hzc : z = c
          · have hzc' : (z : Int) = (c : Int) := by omega
            simp only [go_sem, zA, zB, zC, reduceIte, zD, zE, zF, zG, zH, zI, reduceCtorEq, zJ, zK, zL, zM, zN, zO, zP, Nat.zero_add, k0, k1, k2, elA, hgo, gz, hzc', iw]
            refine c_loop hl hrb r (i + 1) acc _ H h2 (by omega) (by omega) hR hx hn (.inr ⟨ob', rfl, hob', hgo, hlo, hpo⟩) ?_
            have e : insN c acc = acc := by rw [insN_pos, if_pos (by rw [hz, hzc])]
            simp only [List.foldl_cons, e] at hQ
            exact hQ
          · have hzc' : ¬ (z : Int) = (c : Int) := by omega
            simp only [go_sem, zA, zB, zC, reduceIte, zD, zE, zF, zG, zH, zI, reduceCtorEq, zJ, zK, zL, zM, zN, zO, zP, Nat.zero_add, k0, k1, k2, elA, hgo, gz, hzc', Nat.sub_zero, hr1, nc_one, ea1, ea2, hr3, ea3, iw]
            exact go (by rw [insN_pos, if_neg (by rw [hz]; simpa using hzc)])
        · have k2 : ¬ ((posN c acc : Nat) : Int) < (acc.length : Int) := by omega
          simp only [go_sem, zA, zB, zC, reduceIte, zD, zE, zF, zG, zH, zI, reduceCtorEq, zJ, zK, zL, zM, zN, zO, zP, Nat.zero_add, k0, k1, k2, Nat.sub_zero, hr1, nc_one, ea1, ea2, hr3, ea3, iw]
          exact go (by rw [insN_pos, if_neg (by rw [List.getElem?_eq_none (by omega)]; simp)])
theorem g_cuts {l : List S} {v : AV} {rb : Nat} (hl : l.length ≤ 100000) {H : Heap} (hR : Rd H 2 (scells l) l.length v rb) {Q : End → Heap → Prop}
    (hQ : ∀ H' v', Ext H.size H H' → Sl H.size H' 1 (ncells (cutsG l)) (cutsG l).length v' → Q (.ret v') H') : wpf ⟨bt.get, o⟩ F_goboref3_cuts [v] H Q := by
  rw [fn_goboref3_cuts (ho _ _ _ (by decide))]
  simp only [bd_goboref3_cuts, go_sem, zA, zB, zC, reduceIte, zD, zE, zF, zG, zH, zI, reduceCtorEq, zJ, zK, zL, zM, zN, zO, zP]
  refine c_loop hl (fun h => hR.lt h) (endsG l) 0 [] .nils H rfl (Nat.zero_le _) (Nat.le_refl _) hR Ext.refl (Nat.le_refl _) Sl.nil fun H1 sv x1 x2 x3 t k1 k2 => ?_
  simp only [go_sem, zA, zB, zC, reduceIte, zD, zE, zF, zG, zH, zI, reduceCtorEq, zJ, zK, zL, zM, zN, zO, zP]
  exact hQ _ _ k1 k2
end
/- What word.words comes to. -/
structure W where
  kind : Nat
  text : List UInt8
  at_ : Nat
  deriving DecidableEq
def W.cells (w : W) : List AV := [.int .i64 w.kind, .str w.text, .int .i64 w.at_]
def wcells (l : List W) : List AV := l.flatMap W.cells
theorem wcells_app (l m : List W) : wcells (l ++ m) = wcells l ++ wcells m := List.flatMap_append
theorem wcells_len : ∀ l : List W, (wcells l).length = l.length * 3
  | [] => rfl
  | w :: l => by rw [wcells, List.flatMap_cons, List.length_append, ← wcells, wcells_len l, W.cells]; simp only [List.length_cons, List.length_nil]; omega
def signL : List UInt8 := [123, 125, 40, 41, 124, 42, 94, 60, 62, 58, 95, 61]
def signB (c : UInt8) : Bool := decide (0 ≤ idxByteA c signL 0)
def consW (w : W) : Except Nat (List W) → Except Nat (List W)
  | .ok l => .ok (w :: l)
  | .error k => .error k
/-- The words of a text. -/
def wordsL : Nat → List UInt8 → Nat → Except Nat (List W)
  | 0, _, _ => .ok []
  | _ + 1, [], _ => .ok []
  | n + 1, c :: r, i =>
    if c.toNat = 32 ∨ c.toNat = 9 ∨ c.toNat = 13 then wordsL n r (i + 1)
    else if c.toNat = 35 then wordsL n (r.drop (runL notNL r)) (i + 1 + runL notNL r)
    else if c.toNat = 10 then consW ⟨5, [], i⟩ (wordsL n r (i + 1))
    else if letterB c then consW ⟨1, c :: r.take (runL ldB r), i⟩ (wordsL n (r.drop (runL ldB r)) (i + 1 + runL ldB r))
    else if digitB c then consW ⟨2, c :: r.take (runL digitB r), i⟩ (wordsL n (r.drop (runL digitB r)) (i + 1 + runL digitB r))
    else if signB c then consW ⟨3, [c], i⟩ (wordsL n r (i + 1))
    else if c.toNat = 47 then (match closedL r with
      | none => .error i
      | some k => consW ⟨4, r.take k, i⟩ (wordsL n (r.drop (k + 1)) (i + 1 + k + 1)))
    else .error i
theorem runL_le (p : UInt8 → Bool) : ∀ r : List UInt8, runL p r ≤ r.length
  | [] => Nat.le_refl _
  | c :: r => by
    have := runL_le p r
    simp only [runL, List.length_cons]
    split <;> omega
theorem closedL_lt : ∀ (r : List UInt8) (k : Nat), closedL r = some k → k < r.length
  | [], k, h => by simp [closedL] at h
  | [c], k, h => by
    simp only [closedL] at h
    split at h
    · cases h
    · split at h
      · injection h with h; subst h; simp
      · cases h
  | c :: d :: r, k, h => by
    simp only [closedL] at h
    split at h
    · cases h
    · split at h
      · injection h with h; subst h; simp
      · split at h
        · split at h
          · cases h
          · obtain ⟨j, hj, rfl⟩ := Option.map_eq_some_iff.1 h
            have := closedL_lt r j hj
            simp only [List.length_cons]; omega
        · obtain ⟨j, hj, rfl⟩ := Option.map_eq_some_iff.1 h
          have := closedL_lt (d :: r) j hj
          simp only [List.length_cons] at *; omega
theorem cut {s : List UInt8} {i : Nat} {r : List UInt8} (h : s.drop i = r) (k : Nat) : (s.take (i + k)).drop i = r.take k := by
  rw [List.drop_take, h]; congr 1; omega
section
variable {o : CallF} (ho : OvOnly o)
include ho
theorem w_IndexByte {s : List UInt8} {c : UInt8} {H : Heap} {Q : End → Heap → Prop} (h : Q (.ret (.int .i64 (idxByteA c s 0))) H) : wpf ⟨bt.get, o⟩ F_strings_IndexByte [.str s, .int .u8 c.toNat] H Q := by
  rw [fn_strings_IndexByte (ho _ _ _ (by decide))]
  simp only [bd_strings_IndexByte, go_sem, zA, zB, zC, reduceIte, zD, zE, zF, zG, zH, zI, reduceCtorEq, zJ, zK, zL, zM, zN, zO, zP]
  rw [fn_stringslite_IndexByte (ho _ _ _ (by decide))]
  simp only [bd_stringslite_IndexByte, go_sem, zA, zB, zC, reduceIte, zD, zE, zF, zG, zH, zI, reduceCtorEq, zJ, zK, zL, zM, zN, zO, zP, UInt8.ofNat_toNat]
  exact h
theorem w_words_loop {s : List UInt8} (hs : s.length ≤ 1000000) {n0 : Nat} {H0 : Heap} {Q : Ctl → St → Prop} : ∀ (m : Nat) (r : List UInt8) (i : Nat) (acc : List W) (v : AV) (H : Heap), r.length ≤ m → s.drop i = r → i ≤ s.length → acc.length ≤ i → Ext n0 H0 H → n0 ≤ H.size → Sl n0 H 3 (wcells acc) acc.length v →
    (∀ l, wordsL m r i = .ok l → ∀ (σ : St) (v : AV), Ext n0 H0 σ.H → σ.d = [] → lk 3 σ.p = some v → Sl n0 σ.H 3 (wcells (acc ++ l)) (acc ++ l).length v → Q (.exit 0) σ) →
    (∀ k, wordsL m r i = .error k → ∀ (σ : St), Ext n0 H0 σ.H → σ.d = [] → Q (.panic [(faultA 2 k, false)]) σ) →
    wpl ⟨bt.get, o⟩ [0, 3, 4] lb_word_words_0 { p := [(0, .str s), (3, v), (4, .int .i64 (i : Int))], t := [], H := H, d := [], u := .norm } Q := by
  intro m
  induction m with
  | zero =>
    intro r i acc v H hm hr hi ha he hn hS hE hP
    have : r = [] := by cases r; rfl; simp at hm
    subst this
    have hl := at_nil hr
    rw [wpl_step]
    have h1 : ¬((i : Int) < (s.length : Int)) := by omega
    simp only [lb_word_words_0, go_sem, zA, zB, zC, reduceIte, zD, zE, zF, zG, zH, zI, reduceCtorEq, zJ, zK, zL, zM, zN, zO, zP, h1]
    exact hE [] rfl _ v he rfl rfl (by rw [List.append_nil]; exact hS)
  | succ m ih =>
    intro r i acc v H hm hr hi ha he hn hS hE hP
    cases r with
    | nil =>
      have hl := at_nil hr
      rw [wpl_step]
      have h1 : ¬((i : Int) < (s.length : Int)) := by omega
      simp only [lb_word_words_0, go_sem, zA, zB, zC, reduceIte, zD, zE, zF, zG, zH, zI, reduceCtorEq, zJ, zK, zL, zM, zN, zO, zP, h1]
      exact hE [] rfl _ v he rfl rfl (by rw [List.append_nil]; exact hS)
    | cons c r =>
      obtain ⟨h0, h1, h2⟩ := at_drop hr
      simp only [List.length_cons] at hm
      have hrl : r.length + i + 1 = s.length := by
        have := congrArg List.length hr
        simp only [List.length_drop, List.length_cons] at this
        omega
      rw [wpl_step]
      have h1' : ((i : Int) < (s.length : Int)) := by omega
      simp only [lb_word_words_0, go_sem, zA, zB, zC, reduceIte, zD, zE, zF, zG, zH, zI, reduceCtorEq, zJ, zK, zL, zM, zN, zO, zP, h1', Int.natCast_nonneg, h0]
      by_cases ws : c.toNat = 32 ∨ c.toNat = 9 ∨ c.toNat = 13
      · have e : wordsL (m + 1) (c :: r) i = wordsL m r (i + 1) := by rw [wordsL, if_pos ws]
        rw [e] at hE hP
        have fin := ih r (i + 1) acc v H (by omega) h2 (by omega) (by omega) he hn hS hE hP
        rcases ws with ws | ws | ws
        · have w1 : (c.toNat : Int) = 32 := by omega
          simp only [go_sem, zA, zB, zC, reduceIte, zD, zE, zF, zG, zH, zI, reduceCtorEq, zJ, zK, zL, zM, zN, zO, zP, w1, wsucc (show i ≤ 1000000000 by omega)]
          exact fin
        · have w1 : (c.toNat : Int) = 9 := by omega
          have w2 : ¬((9 : Int) = 32) := by omega
          simp only [go_sem, zA, zB, zC, reduceIte, zD, zE, zF, zG, zH, zI, reduceCtorEq, zJ, zK, zL, zM, zN, zO, zP, w1, w2, wsucc (show i ≤ 1000000000 by omega)]
          exact fin
        · have w1 : (c.toNat : Int) = 13 := by omega
          have w2 : ¬((13 : Int) = 32) := by omega
          have w3 : ¬((13 : Int) = 9) := by omega
          simp only [go_sem, zA, zB, zC, reduceIte, zD, zE, zF, zG, zH, zI, reduceCtorEq, zJ, zK, zL, zM, zN, zO, zP, w1, w2, w3, wsucc (show i ≤ 1000000000 by omega)]
          exact fin
      · have e32 : ¬((c.toNat : Int) = 32) := by omega
        have e9 : ¬((c.toNat : Int) = 9) := by omega
        have e13 : ¬((c.toNat : Int) = 13) := by omega
        have iw := wsucc (show i ≤ 1000000000 by omega)
        have fin2 : ∀ (w : W) (r' : List UInt8) (i' : Nat), r'.length ≤ m → s.drop i' = r' → i' ≤ s.length → i < i' → wordsL (m + 1) (c :: r) i = consW w (wordsL m r' i') → ∀ (H2 : Heap) (v2 : AV), Ext n0 H H2 → Sl n0 H2 3 (wcells acc ++ w.cells) (acc.length + 1) v2 →
            wpl ⟨bt.get, o⟩ [0, 3, 4] lb_word_words_0 { p := [(0, .str s), (3, v2), (4, .int .i64 (i' : Int))], t := [], H := H2, d := [], u := .norm } Q := by
          intro w r' i' g1 g2 g3 g4 g5 H2 v2 g6 g7
          rw [g5] at hE hP
          refine ih r' i' (acc ++ [w]) v2 H2 g1 g2 g3 (by simp; omega) (he.trans g6) (Nat.le_trans hn g6.1) ?_ (fun l hl σ v' k1 k2 k3 k4 => hE (w :: l) (by rw [hl]; rfl) σ v' k1 k2 k3 ?_) (fun k hk => hP k (by rw [hk]; rfl))
          · rw [wcells_app, List.length_append]
            simpa [wcells] using g7
          · simpa using k4
        have hn' : n0 ≤ (H.push .dead).size := by rw [Heap.size_push]; omega
        simp only [go_sem, zA, zB, zC, reduceIte, zD, zE, zF, zG, zH, zI, reduceCtorEq, zJ, zK, zL, zM, zN, zO, zP, e32, e9, e13]
        by_cases c35 : c.toNat = 35
        · have c35' : (c.toNat : Int) = 35 := by omega
          simp only [go_sem, zA, zB, zC, reduceIte, zD, zE, zF, zG, zH, zI, reduceCtorEq, zJ, zK, zL, zM, zN, zO, zP, c35']
          refine w_run ho hs (tells_words_1 ho) hi ?_
          have hc : notNL c = true := by simp [notNL, c35]
          have e : wordsL (m + 1) (c :: r) i = wordsL m (r.drop (runL notNL r)) (i + 1 + runL notNL r) := by
            rw [wordsL, if_neg ws, if_pos c35]
          have hk := runL_le notNL r
          simp only [go_sem, zA, zB, zC, reduceIte, zD, zE, zF, zG, zH, zI, reduceCtorEq, zJ, zK, zL, zM, zN, zO, zP, hr, runL, hc]
          rw [show i + (runL notNL r + 1) = i + 1 + runL notNL r by omega]
          rw [e] at hE hP
          exact ih _ _ acc v H (by rw [List.length_drop]; omega) (by rw [← h2, List.drop_drop]) (by omega) (by omega) he hn hS hE hP
        · have c35' : ¬((c.toNat : Int) = 35) := by omega
          simp only [go_sem, zA, zB, zC, reduceIte, zD, zE, zF, zG, zH, zI, reduceCtorEq, zJ, zK, zL, zM, zN, zO, zP, c35']
          by_cases c10 : c.toNat = 10
          · have c10' : (c.toNat : Int) = 10 := by omega
            simp only [go_sem, zA, zB, zC, reduceIte, zD, zE, zF, zG, zH, zI, reduceCtorEq, zJ, zK, zL, zM, zN, zO, zP, c10', iw]
            obtain ⟨b, H', ea, hx, hsl⟩ := append_spec (bytes := 32) (ys := [.int .i64 5, .str [], .int .i64 (i : Int)]) (k := 1) (Sl.push (x := .cells [.int .i64 5, .str [], .int .i64 (i : Int)] .own) hS) (by rw [Heap.size_push]; omega) (by omega) rfl (by omega) (by omega)
            simp only [ea, go_sem, zA, zB, zC, reduceIte, zD, zE, zF, zG, zH, zI, reduceCtorEq, zJ, zK, zL, zM, zN, zO, zP]
            exact fin2 ⟨5, [], i⟩ r (i + 1) (by omega) h2 (by omega) (by omega) (by rw [wordsL, if_neg ws, if_neg c35, if_pos c10]) _ _ ((Ext.push hn).trans hx) hsl
          · have c10' : ¬((c.toNat : Int) = 10) := by omega
            simp only [go_sem, zA, zB, zC, reduceIte, zD, zE, zF, zG, zH, zI, reduceCtorEq, zJ, zK, zL, zM, zN, zO, zP, c10']
            refine w_letter ho ?_
            cases hL : letterB c
            · simp only [go_sem, zA, zB, zC, reduceIte, zD, zE, zF, zG, zH, zI, reduceCtorEq, zJ, zK, zL, zM, zN, zO, zP]
              refine w_digit ho ?_
              cases hD : digitB c
              · simp only [go_sem, zA, zB, zC, reduceIte, zD, zE, zF, zG, zH, zI, reduceCtorEq, zJ, zK, zL, zM, zN, zO, zP]
                refine w_IndexByte ho ?_
                simp only [go_sem, zA, zB, zC, reduceIte, zD, zE, zF, zG, zH, zI, reduceCtorEq, zJ, zK, zL, zM, zN, zO, zP]
                have hS0 : decide ((0 : Int) ≤ idxByteA c [123, 125, 40, 41, 124, 42, 94, 60, 62, 58, 95, 61] 0) = signB c := rfl
                rw [hS0]
                cases hB : signB c
                · simp only [go_sem, zA, zB, zC, reduceIte, zD, zE, zF, zG, zH, zI, reduceCtorEq, zJ, zK, zL, zM, zN, zO, zP]
                  by_cases c47 : c.toNat = 47
                  · have c47' : (c.toNat : Int) = 47 := by omega
                    simp only [go_sem, zA, zB, zC, reduceIte, zD, zE, zF, zG, zH, zI, reduceCtorEq, zJ, zK, zL, zM, zN, zO, zP, c47']
                    refine w_closed ho hs (by omega) (fun hcl => ?_) (fun k hcl => ?_)
                    · simp only [go_sem, zA, zB, zC, reduceIte, zD, zE, zF, zG, zH, zI, reduceCtorEq, zJ, zK, zL, zM, zN, zO, zP]
                      rw [h2] at hcl
                      exact hP i (by rw [wordsL, if_neg ws, if_neg c35, if_neg c10, if_neg (by rw [hL]; simp), if_neg (by rw [hD]; simp), if_neg (by rw [hB]; simp), if_pos c47, hcl]) _ he rfl
                    · rw [h2] at hcl
                      have hk := closedL_lt r k hcl
                      have e2 : ((i + 1 : Nat) : Int) ≤ ((i + 1 + k : Nat) : Int) := by omega
                      have e3 : ((i + 1 + k : Nat) : Int) ≤ (s.length : Int) := by omega
                      have e4 : (s.take (i + 1 + k)).drop (i + 1) = r.take k := cut h2 k
                      simp only [go_sem, zA, zB, zC, reduceIte, zD, zE, zF, zG, zH, zI, reduceCtorEq, zJ, zK, zL, zM, zN, zO, zP, Int.natCast_nonneg, iw, e2, e3, e4]
                      obtain ⟨b, H', ea, hx, hsl⟩ := append_spec (bytes := 32) (ys := [.int .i64 4, .str (r.take k), .int .i64 (i : Int)]) (k := 1) (Sl.push (x := .cells [.int .i64 4, .str (r.take k), .int .i64 (i : Int)] .own) hS) (by rw [Heap.size_push]; omega) (by omega) rfl (by omega) (by omega)
                      simp only [ea, go_sem, zA, zB, zC, reduceIte, zD, zE, zF, zG, zH, zI, reduceCtorEq, zJ, zK, zL, zM, zN, zO, zP, wsucc (show i + 1 + k ≤ 1000000000 by omega)]
                      exact fin2 ⟨4, r.take k, i⟩ (r.drop (k + 1)) (i + 1 + k + 1) (by rw [List.length_drop]; omega) (by rw [← h2, List.drop_drop]; congr 1) (by omega) (by omega) (by rw [wordsL, if_neg ws, if_neg c35, if_neg c10, if_neg (by rw [hL]; simp), if_neg (by rw [hD]; simp), if_neg (by rw [hB]; simp), if_pos c47, hcl]) _ _ ((Ext.push hn).trans hx) hsl
                  · have c47' : ¬((c.toNat : Int) = 47) := by omega
                    simp only [go_sem, zA, zB, zC, reduceIte, zD, zE, zF, zG, zH, zI, reduceCtorEq, zJ, zK, zL, zM, zN, zO, zP, c47']
                    refine w_Fail ho ?_
                    simp only [go_sem, zA, zB, zC, reduceIte, zD, zE, zF, zG, zH, zI, reduceCtorEq, zJ, zK, zL, zM, zN, zO, zP]
                    exact hP i (by rw [wordsL, if_neg ws, if_neg c35, if_neg c10, if_neg (by rw [hL]; simp), if_neg (by rw [hD]; simp), if_neg (by rw [hB]; simp), if_neg c47]) _ he rfl
                · simp only [go_sem, zA, zB, zC, reduceIte, zD, zE, zF, zG, zH, zI, reduceCtorEq, zJ, zK, zL, zM, zN, zO, zP, iw]
                  have e2 : (i : Int) ≤ ((i + 1 : Nat) : Int) := by omega
                  have e3 : ((i + 1 : Nat) : Int) ≤ (s.length : Int) := by omega
                  have e4 : (s.take (i + 1)).drop i = [c] := by rw [cut hr, List.take_succ_cons, List.take_zero]
                  simp only [go_sem, zA, zB, zC, reduceIte, zD, zE, zF, zG, zH, zI, reduceCtorEq, zJ, zK, zL, zM, zN, zO, zP, Int.natCast_nonneg, e2, e3, e4]
                  obtain ⟨b, H', ea, hx, hsl⟩ := append_spec (bytes := 32) (ys := [.int .i64 3, .str [c], .int .i64 (i : Int)]) (k := 1) (Sl.push (x := .cells [.int .i64 3, .str [c], .int .i64 (i : Int)] .own) hS) (by rw [Heap.size_push]; omega) (by omega) rfl (by omega) (by omega)
                  simp only [ea, go_sem, zA, zB, zC, reduceIte, zD, zE, zF, zG, zH, zI, reduceCtorEq, zJ, zK, zL, zM, zN, zO, zP]
                  exact fin2 ⟨3, [c], i⟩ r (i + 1) (by omega) h2 (by omega) (by omega) (by rw [wordsL, if_neg ws, if_neg c35, if_neg c10, if_neg (by rw [hL]; simp), if_neg (by rw [hD]; simp), if_pos hB]) _ _ ((Ext.push hn).trans hx) hsl
              · simp only [go_sem, zA, zB, zC, reduceIte, zD, zE, zF, zG, zH, zI, reduceCtorEq, zJ, zK, zL, zM, zN, zO, zP]
                refine w_run ho hs (tells_digit ho) hi ?_
                have hk := runL_le digitB r
                have e1 : i + runL digitB (s.drop i) = i + 1 + runL digitB r := by rw [hr, runL, if_pos hD]; omega
                have e2 : (i : Int) ≤ ((i + 1 + runL digitB r : Nat) : Int) := by omega
                have e3 : ((i + 1 + runL digitB r : Nat) : Int) ≤ (s.length : Int) := by omega
                have e4 : (s.take (i + 1 + runL digitB r)).drop i = c :: r.take (runL digitB r) := by
                  rw [Nat.add_assoc, cut hr, Nat.add_comm 1, List.take_succ_cons]
                rw [e1]
                simp only [go_sem, zA, zB, zC, reduceIte, zD, zE, zF, zG, zH, zI, reduceCtorEq, zJ, zK, zL, zM, zN, zO, zP, Int.natCast_nonneg, e2, e3, e4]
                obtain ⟨b, H', ea, hx, hsl⟩ := append_spec (bytes := 32) (ys := [.int .i64 2, .str (c :: r.take (runL digitB r)), .int .i64 (i : Int)]) (k := 1) (Sl.push (x := .cells [.int .i64 2, .str (c :: r.take (runL digitB r)), .int .i64 (i : Int)] .own) hS) (by rw [Heap.size_push]; omega) (by omega) rfl (by omega) (by omega)
                simp only [ea, go_sem, zA, zB, zC, reduceIte, zD, zE, zF, zG, zH, zI, reduceCtorEq, zJ, zK, zL, zM, zN, zO, zP]
                exact fin2 ⟨2, c :: r.take (runL digitB r), i⟩ (r.drop (runL digitB r)) (i + 1 + runL digitB r) (by rw [List.length_drop]; omega) (by rw [← h2, List.drop_drop]) (by omega) (by omega) (by rw [wordsL, if_neg ws, if_neg c35, if_neg c10, if_neg (by rw [hL]; simp), if_pos hD]) _ _ ((Ext.push hn).trans hx) hsl
            · simp only [go_sem, zA, zB, zC, reduceIte, zD, zE, zF, zG, zH, zI, reduceCtorEq, zJ, zK, zL, zM, zN, zO, zP]
              have hLd : ldB c = true := by simp [ldB, hL]
              refine w_run ho hs (tells_words_2 ho) hi ?_
              have hk := runL_le ldB r
              have e1 : i + runL ldB (s.drop i) = i + 1 + runL ldB r := by rw [hr, runL, if_pos hLd]; omega
              have e2 : (i : Int) ≤ ((i + 1 + runL ldB r : Nat) : Int) := by omega
              have e3 : ((i + 1 + runL ldB r : Nat) : Int) ≤ (s.length : Int) := by omega
              have e4 : (s.take (i + 1 + runL ldB r)).drop i = c :: r.take (runL ldB r) := by
                rw [Nat.add_assoc, cut hr, Nat.add_comm 1, List.take_succ_cons]
              rw [e1]
              simp only [go_sem, zA, zB, zC, reduceIte, zD, zE, zF, zG, zH, zI, reduceCtorEq, zJ, zK, zL, zM, zN, zO, zP, Int.natCast_nonneg, e2, e3, e4]
              obtain ⟨b, H', ea, hx, hsl⟩ := append_spec (bytes := 32) (ys := [.int .i64 1, .str (c :: r.take (runL ldB r)), .int .i64 (i : Int)]) (k := 1) (Sl.push (x := .cells [.int .i64 1, .str (c :: r.take (runL ldB r)), .int .i64 (i : Int)] .own) hS) (by rw [Heap.size_push]; omega) (by omega) rfl (by omega) (by omega)
              simp only [ea, go_sem, zA, zB, zC, reduceIte, zD, zE, zF, zG, zH, zI, reduceCtorEq, zJ, zK, zL, zM, zN, zO, zP]
              exact fin2 ⟨1, c :: r.take (runL ldB r), i⟩ (r.drop (runL ldB r)) (i + 1 + runL ldB r) (by rw [List.length_drop]; omega) (by rw [← h2, List.drop_drop]) (by omega) (by omega) (by rw [wordsL, if_neg ws, if_neg c35, if_neg c10, if_pos hL]) _ _ ((Ext.push hn).trans hx) hsl
theorem w_words {s : List UInt8} (hs : s.length ≤ 1000000) {n0 : Nat} {H : Heap} (hn : n0 ≤ H.size) {Q : End → Heap → Prop}
    (hE : ∀ l, wordsL s.length s 0 = .ok l → ∀ H' v, Ext n0 H H' → Sl n0 H' 3 (wcells l) l.length v → Q (.ret v) H')
    (hP : ∀ k, wordsL s.length s 0 = .error k → ∀ H', Ext n0 H H' → Q (.pan [(faultA 2 k, false)]) H') : wpf ⟨bt.get, o⟩ F_word_words [.str s] H Q := by
  rw [fn_word_words (ho _ _ _ (by decide))]
  simp only [bd_word_words, go_sem, zA, zB, zC, reduceIte, zD, zE, zF, zG, zH, zI, reduceCtorEq, zJ, zK, zL, zM, zN, zO, zP]
  refine w_words_loop ho hs (n0 := n0) (H0 := H) s.length s 0 [] .nils H (Nat.le_refl _) rfl (Nat.zero_le _) (Nat.le_refl _) Ext.refl hn Sl.nil (fun l hl σ v h1 h2 h3 h4 => ?_) (fun k hk σ h1 h2 => ?_)
  · simp only [go_sem, zA, zB, zC, reduceIte, zD, zE, zF, zG, zH, zI, reduceCtorEq, zJ, zK, zL, zM, zN, zO, zP, h2, h3]
    exact hE l hl _ v h1 (by simpa using h4)
  · simp only [go_sem, zA, zB, zC, reduceIte, zD, zE, zF, zG, zH, zI, reduceCtorEq, zJ, zK, zL, zM, zN, zO, zP, h2]
    exact hP k hk _ h1
end
end Go.Ev
