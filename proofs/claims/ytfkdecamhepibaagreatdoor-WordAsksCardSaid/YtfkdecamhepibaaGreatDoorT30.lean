/- Several texts of this claim, joined. -/
import Derived.Test.YtfkdecamhepibaaGreatDoorT24
import Derived.Test.YtfkdecamhepibaaGreatDoorT29
import Derived.Test.YtfkdecamhepibaaGreatDoorT23
set_option linter.unusedSimpArgs false
set_option linter.unusedVariables false

/- goboref3.One. -/
namespace Go.Ev
open Go
open Go.Ev renaming seqK_normal → zA, blockK_normal → zB, blockK_exit → zC
open Nat renaming reduceEqDiff → zD, reduceAdd → zE, reduceSub → zF, reduceMul → zG, reduceLeDiff → zH, reduceLT → zI
open Int renaming reduceToNat → zJ, reduceLT → zK, reduceLE → zL, reduceEq → zM, reduceAdd → zN, reduceSub → zO, reduceMul → zP
set_option maxRecDepth 8000
theorem pvG_bd {n : Nat} (hn : 1 ≤ n) : ∀ (l : List UInt8), l.length ≤ 4 → l ≠ [] → pvG n l < 256 * 64 ^ (l.length - 1)
  | [a], _, _ => by
    have := a.toNat_lt
    simp only [pvG, List.foldl_nil, List.length_cons, List.length_nil]
    split
    · omega
    · have := Nat.mod_le a.toNat (2 ^ (7 - n)); omega
  | [a, b], _, _ => by
    have := a.toNat_lt
    simp only [pvG, List.foldl_cons, List.foldl_nil, List.length_cons, List.length_nil]
    have := Nat.mod_le a.toNat (2 ^ (7 - n))
    split <;> omega
  | [a, b, c], _, _ => by
    have := a.toNat_lt
    simp only [pvG, List.foldl_cons, List.foldl_nil, List.length_cons, List.length_nil]
    have := Nat.mod_le a.toNat (2 ^ (7 - n))
    split <;> omega
  | [a, b, c, d], _, _ => by
    have := a.toNat_lt
    simp only [pvG, List.foldl_cons, List.foldl_nil, List.length_cons, List.length_nil]
    have := Nat.mod_le a.toNat (2 ^ (7 - n))
    split <;> omega
theorem goG_good : ∀ (r held : List UInt8) (at_ : Nat), held ≠ [] → (goG held r at_).bad = false → goG held r at_ = ⟨(goG held r at_).rune, at_, at_ + longB (headB held), false, false⟩
  | [], held, at_, _, h => by
    rw [goG] at h ⊢
    split at h
    · rename_i e; rw [if_pos e, e]
    · cases h
  | c :: r, held, at_, hn, h => by
    rw [goG] at h ⊢
    split at h
    · rename_i e; rw [if_pos e, e]
    · rename_i e
      rw [if_neg e]
      split at h
      · rename_i k
        rw [if_pos k]
        have := goG_good r (held ++ [c]) at_ (by simp) h
        rw [headB_app hn] at this
        exact this
      · cases h
section
variable {o : CallF} (ho : OvOnly o)
include ho
omit ho in
theorem one_loop {s : List UInt8} {at_ n xb : Nat} {c0 : UInt8} (hs : s.length ≤ 1000000) (hn : n = longB c0) (h2 : 2 ≤ n) {H : Heap} {z1 z2 z3 z4 z5 : AV} (hx : H.get xb = .cells [z1, z2, z3, z4, z5] .own) {Q : Ctl → St → Prop} : ∀ (rest held : List UInt8), held ≠ [] → headB held = c0 → s.drop (at_ + held.length) = rest → at_ + held.length ≤ s.length → held.length ≤ n →
    ((goG held rest at_).bad = true → ∀ (σ : St) b, σ.H = H.set xb (.cells (goG held rest at_).cells .own) → σ.d = [] → lk 4 σ.p = some (.ptr xb 0) → lk 5 σ.p = some (.bool b) → Q .ret σ) →
    ((goG held rest at_).bad = false → ∀ y1 y2 y3 y4 t, Q (.exit 0) { p := [(0, .str s), (1, .int .i64 (at_ : Int)), (4, .ptr xb 0), (6, .int .i64 (n : Int)), (7, y1), (8, y2), (9, .int .i32 ((goG held rest at_).rune : Int)), (10, y3), (41, y4)], t := t, H := H, d := [], u := .norm }) →
    wpl ⟨bt.get, o⟩ [0, 1, 4, 6, 7, 8, 9, 10] lb_goboref3_One_0 { p := [(0, .str s), (1, .int .i64 (at_ : Int)), (4, .ptr xb 0), (6, .int .i64 (n : Int)), (7, .int .i64 (sLo c0 : Int)), (8, .int .i64 (sHi c0 : Int)), (9, .int .i32 (pvG n held : Int)), (10, .int .i64 (held.length : Int))], t := [], H := H, d := [], u := .norm } Q := by
  have hn4 : n ≤ 4 := by rw [hn]; exact longB_le _
  have hslo : sLo c0 = secLo c0.toNat := by unfold sLo; rw [if_neg (by omega)]
  have hshi : sHi c0 = secHi c0.toNat := by unfold sHi; rw [if_neg (by omega)]
  intro rest
  induction rest with
  | nil =>
    intro held hne hh hd hle hk hB hG
    have hlen : at_ + held.length = s.length := by have := List.drop_eq_nil_iff.1 hd; omega
    have hlt : xb < H.size := Heap.lt_of_get (by rw [hx]; simp)
    rw [wpl_step]
    have wk : IntKind.i64.wrap ((at_ : Int) + (held.length : Int)) = ((at_ + held.length : Nat) : Int) := by rw [IntKind.wrap_i64]; omega
    by_cases hfull : held.length = n
    · have c1 : ¬ (held.length : Int) < (n : Int) := by omega
      have e : goG held [] at_ = ⟨decR held, at_, at_ + held.length, false, false⟩ := by rw [goG, if_pos (by rw [hh, ← hn, hfull])]
      rw [e] at hG
      simp only [lb_goboref3_One_0, go_sem, zA, zB, zC, reduceIte, zD, zE, zF, zG, zH, zI, reduceCtorEq, zJ, zK, zL, zM, zN, zO, zP, c1]
      have := hG rfl
      rw [← pvG_dec (by rw [hh, ← hn, hfull]) hne, hfull] at this
      exact this _ _ _ _ _
    · have c1 : (held.length : Int) < (n : Int) := by omega
      have c2 : ((at_ + held.length : Nat) : Int) = (s.length : Int) := by omega
      have e : goG held [] at_ = ⟨65533, at_, at_ + held.length, true, true⟩ := by rw [goG, if_neg (by rw [hh, ← hn]; exact hfull)]
      rw [e] at hB
      simp only [lb_goboref3_One_0, go_sem, zA, zB, zC, reduceIte, zD, zE, zF, zG, zH, zI, reduceCtorEq, zJ, zK, zL, zM, zN, zO, zP, c1, wk, c2, hx]
      refine hB rfl _ false ?_ rfl rfl rfl
      simp only [It.cells]
      rw [← c2] <;> rfl
  | cons c r ih =>
    intro held hne hh hd hle hk hB hG
    obtain ⟨g0, g1, g2⟩ := list_at hd
    have hlt : xb < H.size := Heap.lt_of_get (by rw [hx]; simp)
    rw [wpl_step]
    have wk : IntKind.i64.wrap ((at_ : Int) + (held.length : Int)) = ((at_ + held.length : Nat) : Int) := by rw [IntKind.wrap_i64]; omega
    by_cases hfull : held.length = n
    · have c1 : ¬ (held.length : Int) < (n : Int) := by omega
      have e : goG held (c :: r) at_ = ⟨decR held, at_, at_ + held.length, false, false⟩ := by rw [goG, if_pos (by rw [hh, ← hn, hfull])]
      rw [e] at hG
      simp only [lb_goboref3_One_0, go_sem, zA, zB, zC, reduceIte, zD, zE, zF, zG, zH, zI, reduceCtorEq, zJ, zK, zL, zM, zN, zO, zP, c1]
      have := hG rfl
      rw [← pvG_dec (by rw [hh, ← hn, hfull]) hne, hfull] at this
      exact this _ _ _ _ _
    · have c1 : (held.length : Int) < (n : Int) := by omega
      have c2 : ¬ ((at_ + held.length : Nat) : Int) = (s.length : Int) := by omega
      have e : goG held (c :: r) at_ = if okB held c then goG (held ++ [c]) r at_ else ⟨65533, at_, at_ + held.length, true, true⟩ := by rw [goG, if_neg (by rw [hh, ← hn]; exact hfull)]
      rw [e] at hB hG
      have cl := c.toNat_lt
      have wc : IntKind.i64.wrap (c.toNat : Int) = (c.toNat : Int) := by rw [IntKind.wrap_i64]; omega
      have p0 : (0 : Int) ≤ ((at_ + held.length : Nat) : Int) := by omega
      have p1 : ((at_ + held.length : Nat) : Int) < (s.length : Int) := by omega
      have iw := wsucc (show held.length ≤ 1000000000 by omega)
      have hp : 0 < held.length := List.length_pos_iff.2 hne
      -- a byte that may not stand there
      have bad : okB held c = false → ∀ (σ : St), σ.H = H.set xb (.cells [.int .i32 65533, .int .i64 (at_ : Int), .int .i64 ((at_ + held.length : Nat) : Int), .bool true, .bool true] .own) → σ.d = [] → lk 4 σ.p = some (.ptr xb 0) → lk 5 σ.p = some (.bool true) → Q .ret σ := fun hb σ k1 k2 k3 k4 => by
        rw [hb] at hB
        exact hB rfl σ true (by rw [k1] <;> rfl) k2 k3 k4
      -- one that may
      have good : okB held c = true → wpl ⟨bt.get, o⟩ [0, 1, 4, 6, 7, 8, 9, 10] lb_goboref3_One_0 { p := [(0, .str s), (1, .int .i64 (at_ : Int)), (4, .ptr xb 0), (6, .int .i64 (n : Int)), (7, .int .i64 (sLo c0 : Int)), (8, .int .i64 (sHi c0 : Int)), (9, .int .i32 ((2 ^ 6 * pvG n held + c.toNat % 64 : Nat) : Int)), (10, .int .i64 ((held.length + 1 : Nat) : Int))], t := [], H := H, d := [], u := .norm } Q := fun hb => by
        rw [hb] at hB hG
        simp only [if_true] at hB hG
        have q := ih (held ++ [c]) (by simp) (by rw [headB_app hne, hh]) (by rw [List.length_append, ← Nat.add_assoc]; exact g2) (by simp only [List.length_append, List.length_cons, List.length_nil]; omega) (by simp only [List.length_append, List.length_cons, List.length_nil]; omega) hB hG
        rw [pvG_snoc hne, List.length_append] at q
        rw [show 2 ^ 6 * pvG n held + c.toNat % 64 = pvG n held * 64 + c.toNat % 64 by omega]
        exact q
      have hpv := pvG_bd (n := n) (by omega) held (by omega) hne
      have hpv2 : pvG n held ≤ 1048576 := by
        have : held.length = 1 ∨ held.length = 2 ∨ held.length = 3 := by omega
        rcases this with h | h | h <;> (rw [h] at hpv; simp at hpv; omega)
      have hsh : shiftA .shl .i32 (pvG n held : Int) (6 : Int) = some (.int .i32 ((2 ^ 6 * pvG n held : Nat) : Int)) := by
        have := shl_i32 (a := pvG n held) (k := 6) (by omega) (by omega)
        rw [Nat.mul_comm] at this
        exact this
      have a63 := (and_at c).1
      have w63 : IntKind.i32.wrap ((c.toNat % 64 : Nat) : Int) = ((c.toNat % 64 : Nat) : Int) := wi32 (by omega) (by omega)
      have hor : intBin .or .i32 ((2 ^ 6 * pvG n held : Nat) : Int) ((c.toNat % 64 : Nat) : Int) = some (.int .i32 ((2 ^ 6 * pvG n held + c.toNat % 64 : Nat) : Int)) := or_i32 (by omega) (by omega)
      by_cases k1 : held.length = 1
      · have kd : ((held.length : Int) = 1) = True := eq_true (by omega)
        have hok : okB held c = decide (secLo c0.toNat ≤ c.toNat ∧ c.toNat ≤ secHi c0.toNat) := by
          match held, k1, hh with
          | [a], _, hh => have ha : a = c0 := hh; subst ha; rfl
        by_cases q1 : secLo c0.toNat ≤ c.toNat
        · by_cases q2 : c.toNat ≤ secHi c0.toNat
          · have q1' : ¬ (c.toNat : Int) < (sLo c0 : Int) := by omega
            have q2' : ¬ (sHi c0 : Int) < (c.toNat : Int) := by omega
            have q3' : ¬ (1 : Int) < (held.length : Int) := by omega
            simp only [lb_goboref3_One_0, go_sem, zA, zB, zC, reduceIte, zD, zE, zF, zG, zH, zI, reduceCtorEq, zJ, zK, zL, zM, zN, zO, zP, c1, c2, wk, p0, p1, g0, wc, kd, q1', q2', q3', GT.gt, hsh, intBin_i64and, a63, w63, hor, iw]
            exact good (by rw [hok]; simp [q1, q2])
          · have q1' : ¬ (c.toNat : Int) < (sLo c0 : Int) := by omega
            have q2' : (sHi c0 : Int) < (c.toNat : Int) := by omega
            simp only [lb_goboref3_One_0, go_sem, zA, zB, zC, reduceIte, zD, zE, zF, zG, zH, zI, reduceCtorEq, zJ, zK, zL, zM, zN, zO, zP, c1, c2, wk, p0, p1, g0, wc, kd, q1', q2', GT.gt, hx]
            exact bad (by rw [hok]; simp [q2]) _ rfl rfl rfl rfl
        · have q1' : (c.toNat : Int) < (sLo c0 : Int) := by omega
          simp only [lb_goboref3_One_0, go_sem, zA, zB, zC, reduceIte, zD, zE, zF, zG, zH, zI, reduceCtorEq, zJ, zK, zL, zM, zN, zO, zP, c1, c2, wk, p0, p1, g0, wc, kd, q1', GT.gt, hx]
          exact bad (by rw [hok]; simp [q1]) _ rfl rfl rfl rfl
      · have k1' : ¬ (held.length : Int) = 1 := by omega
        have k2' : (1 : Int) < (held.length : Int) := by omega
        have hok : okB held c = decide (128 ≤ c.toNat ∧ c.toNat ≤ 191) := by
          match held, k1, hne with
          | a :: b :: r, _, _ => rfl
        by_cases q1 : 128 ≤ c.toNat
        · by_cases q2 : c.toNat ≤ 191
          · have q1' : ¬ (c.toNat : Int) < 128 := by omega
            have q2' : ¬ (191 : Int) < (c.toNat : Int) := by omega
            simp only [lb_goboref3_One_0, go_sem, zA, zB, zC, reduceIte, zD, zE, zF, zG, zH, zI, reduceCtorEq, zJ, zK, zL, zM, zN, zO, zP, c1, c2, wk, p0, p1, g0, wc, k1', k2', q1', q2', GT.gt, hsh, intBin_i64and, a63, w63, hor, iw]
            exact good (by rw [hok]; simp [q1, q2])
          · have q1' : ¬ (c.toNat : Int) < 128 := by omega
            have q2' : (191 : Int) < (c.toNat : Int) := by omega
            simp only [lb_goboref3_One_0, go_sem, zA, zB, zC, reduceIte, zD, zE, zF, zG, zH, zI, reduceCtorEq, zJ, zK, zL, zM, zN, zO, zP, c1, c2, wk, p0, p1, g0, wc, k1', k2', q1', q2', GT.gt, hx]
            exact bad (by rw [hok]; simp [q2]) _ rfl rfl rfl rfl
        · have q1' : (c.toNat : Int) < 128 := by omega
          simp only [lb_goboref3_One_0, go_sem, zA, zB, zC, reduceIte, zD, zE, zF, zG, zH, zI, reduceCtorEq, zJ, zK, zL, zM, zN, zO, zP, c1, c2, wk, p0, p1, g0, wc, k1', k2', q1', GT.gt, hx]
          exact bad (by rw [hok]; simp [q1]) _ rfl rfl rfl rfl
theorem g_OneI {s : List UInt8} {at_ : Nat} (hs : s.length ≤ 1000000) (hat : at_ < s.length) {H : Heap} {Q : End → Heap → Prop} (h : ∀ H' b, Ext H.size H H' → Q (.ret (.tup [.agg (oneG (s.drop at_) at_).cells, .bool b])) H') : wpf ⟨bt.get, o⟩ F_goboref3_One [.str s, .int .i64 (at_ : Int)] H Q := by
  obtain ⟨c, r, hd⟩ : ∃ c r, s.drop at_ = c :: r := by
    cases hx : s.drop at_ with
    | nil => have := List.drop_eq_nil_iff.1 hx; omega
    | cons c r => exact ⟨c, r, rfl⟩
  rw [hd] at h
  obtain ⟨g0, g1, g2⟩ := list_at hd
  have cl := c.toNat_lt
  rw [fn_goboref3_One (ho _ _ _ (by decide))]
  have p0 : (0 : Int) ≤ (at_ : Int) := by omega
  have p1 : (at_ : Int) < (s.length : Int) := by omega
  have x1 : Ext H.size H (H.push (.cells [.int .i32 0, .int .i64 0, .int .i64 0, .bool false, .bool false] .own)) := Ext.push (Nat.le_refl _)
  have gx : (H.push (.cells [.int .i32 0, .int .i64 0, .int .i64 0, .bool false, .bool false] .own)).get H.size = .cells [.int .i32 0, .int .i64 0, .int .i64 0, .bool false, .bool false] .own := Heap.get_push_self
  have sz1 : (H.push (.cells [.int .i32 0, .int .i64 0, .int .i64 0, .bool false, .bool false] .own)).size = H.size + 1 := Heap.size_push _ _
  simp only [bd_goboref3_One, go_sem, zA, zB, zC, reduceIte, zD, zE, zF, zG, zH, zI, reduceCtorEq, zJ, zK, zL, zM, zN, zO, zP, p0, p1, g0]
  generalize H.push (.cells [.int .i32 0, .int .i64 0, .int .i64 0, .bool false, .bool false] .own) = H1 at x1 gx sz1 ⊢
  have hl1 : H.size < H1.size := by omega
  refine g_second ho ?_
  have wa := wsucc (show at_ ≤ 1000000000 by omega)
  have fin : ∀ (it : It) b, oneG (c :: r) at_ = it → Q (.ret (.tup [.agg it.cells, .bool b])) (H1.set H.size (.cells it.cells .own)) := fun it b e => by
    have := h (H1.set H.size (.cells it.cells .own)) b (x1.trans (Ext.set (Nat.le_refl _)))
    rw [e] at this
    exact this
  have h4 := longB_le c
  by_cases n0 : longB c = 0
  · have n0' : (longB c : Int) = 0 := by omega
    simp only [go_sem, zA, zB, zC, reduceIte, zD, zE, zF, zG, zH, zI, reduceCtorEq, zJ, zK, zL, zM, zN, zO, zP, n0', wa, gx, Heap.get_set_self hl1]
    have := fin ⟨65533, at_, at_ + 1, true, false⟩ true (by rw [oneG, if_pos n0])
    exact this
  · have n0' : ¬ (longB c : Int) = 0 := by omega
    have e1 : oneG (c :: r) at_ = goG [c] r at_ := by rw [oneG, if_neg n0]
    rw [e1] at fin
    have wc : IntKind.i32.wrap (c.toNat : Int) = (c.toNat : Int) := wi32 (by omega) (by omega)
    by_cases n1 : longB c = 1
    · have n1' : (longB c : Int) = 1 := by omega
      simp only [go_sem, zA, zB, zC, reduceIte, zD, zE, zF, zG, zH, zI, reduceCtorEq, zJ, zK, zL, zM, zN, zO, zP, n0', n1', p0, p1, g0, wc, GT.gt]
      rw [wpl_step]
      have hr := fin ⟨c.toNat, at_, at_ + 1, false, false⟩ true (by cases r <;> (rw [goG, if_pos (by simp [headB, n1])]; rfl))
      simp only [lb_goboref3_One_0, go_sem, zA, zB, zC, reduceIte, zD, zE, zF, zG, zH, zI, reduceCtorEq, zJ, zK, zL, zM, zN, zO, zP, n1', wa, gx, Heap.get_set_self hl1]
      exact hr
    · have n2 : 2 ≤ longB c := by omega
      have n1' : (1 : Int) < (longB c : Int) := by omega
      have w7 : IntKind.i64.wrap (7 - (longB c : Int)) = ((7 - longB c : Nat) : Int) := by rw [IntKind.wrap_i64]; omega
      have w7u : IntKind.u64.wrap ((7 - longB c : Nat) : Int) = ((7 - longB c : Nat) : Int) := wu64' (by omega) (by omega)
      have l3 : longB c = 2 ∨ longB c = 3 ∨ longB c = 4 := by omega
      have hb2 : 1 * 2 ^ (7 - longB c) ≤ 2147483647 := by rcases l3 with e | e | e <;> rw [e] <;> decide
      have sh := shl_i32 (a := 1) (k := 7 - longB c) (by omega) hb2
      obtain ⟨_, a31, a15, a7⟩ := and_at c
      have hpv : pvG (longB c) [c] = c.toNat % 2 ^ (7 - longB c) := by simp [pvG, n1]
      have hand : intBin .and .i32 (c.toNat : Int) (IntKind.i32.wrap (((1 * 2 ^ (7 - longB c) : Nat) : Int) - 1)) = some (.int .i32 (pvG (longB c) [c] : Int)) := by
        rw [hpv]
        have : longB c = 2 ∨ longB c = 3 ∨ longB c = 4 := by omega
        rcases this with e | e | e <;> rw [e]
        · rw [show IntKind.i32.wrap (((1 * 2 ^ (7 - 2) : Nat) : Int) - 1) = 31 from rfl, intBin_i32and, a31]
        · rw [show IntKind.i32.wrap (((1 * 2 ^ (7 - 3) : Nat) : Int) - 1) = 15 from rfl, intBin_i32and, a15]
        · rw [show IntKind.i32.wrap (((1 * 2 ^ (7 - 4) : Nat) : Int) - 1) = 7 from rfl, intBin_i32and, a7]
      simp only [go_sem, zA, zB, zC, reduceIte, zD, zE, zF, zG, zH, zI, reduceCtorEq, zJ, zK, zL, zM, zN, zO, zP, n0', n1', p0, p1, g0, wc, GT.gt, w7, w7u]
      have sh' : shiftA .shl .i32 1 ((7 - longB c : Nat) : Int) = some (.int .i32 ((1 * 2 ^ (7 - longB c) : Nat) : Int)) := sh
      simp only [go_sem, zA, zB, zC, reduceIte, zD, zE, zF, zG, zH, zI, reduceCtorEq, zJ, zK, zL, zM, zN, zO, zP, sh', hand]
      refine one_loop (s := s) (c0 := c) hs rfl n2 gx r [c] (by simp) rfl g2 (by simp only [List.length_cons, List.length_nil]; omega) (by simp only [List.length_cons, List.length_nil]; omega) (fun hb σ b k1 k2 k3 k4 => ?_) (fun hb y1 y2 y3 y4 t => ?_)
      · have := fin _ b rfl
        simp only [go_sem, zA, zB, zC, reduceIte, zD, zE, zF, zG, zH, zI, reduceCtorEq, zJ, zK, zL, zM, zN, zO, zP, k1, k2, k3, k4, Heap.get_set_self hl1, It.cells] at this ⊢
        exact this
      · have hg := goG_good r [c] at_ (by simp) hb
        have hr := fin _ true hg
        have wn : IntKind.i64.wrap ((at_ : Int) + (longB c : Int)) = ((at_ + longB c : Nat) : Int) := by rw [IntKind.wrap_i64]; omega
        simp only [go_sem, zA, zB, zC, reduceIte, zD, zE, zF, zG, zH, zI, reduceCtorEq, zJ, zK, zL, zM, zN, zO, zP, wn, gx, Heap.get_set_self hl1]
        exact hr
end
/- goboref3.All. -/
set_option maxRecDepth 8000
section
variable {o : CallF} (ho : OvOnly o)
include ho
theorem items_loop {s : List UInt8} (hs : s.length ≤ 1000000) {n0 : Nat} {H0 : Heap} {Q : Ctl → St → Prop} : ∀ (m at_ : Nat) (acc : List It) (sv : AV) (H : Heap), s.length - at_ ≤ m → at_ ≤ s.length → acc.length ≤ at_ → Ext n0 H0 H → n0 ≤ H.size → Sl n0 H 5 (icells acc) acc.length sv →
    (∀ H' sv' y1 y2 y3 y4 t, Ext n0 H0 H' → Sl n0 H' 5 (icells (acc ++ daG [] (s.drop at_) at_)) (acc ++ daG [] (s.drop at_) at_).length sv' → (acc ++ daG [] (s.drop at_) at_).length ≤ s.length → Q (.exit 0) { p := [(0, y1), (1, y2), (5, sv'), (6, y3), (12, y4)], t := t, H := H', d := [], u := .norm }) →
    wpl ⟨bt.get, o⟩ [0, 1, 5, 6] lb_goboref3_items_0 { p := [(0, .str s), (1, .bool true), (5, sv), (6, .int .i64 (at_ : Int))], t := [], H := H, d := [], u := .norm } Q := by
  intro m
  induction m with
  | zero =>
    intro at_ acc sv H hm hle ha hx hn hS hQ
    rw [wpl_step]
    have c1 : ¬ (at_ : Int) < (s.length : Int) := by omega
    simp only [lb_goboref3_items_0, go_sem, zA, zB, zC, reduceIte, zD, zE, zF, zG, zH, zI, reduceCtorEq, zJ, zK, zL, zM, zN, zO, zP, c1]
    have e : s.drop at_ = [] := List.drop_eq_nil_of_le (by omega)
    rw [e] at hQ
    have e2 : daG [] [] at_ = [] := rfl
    rw [e2, List.append_nil] at hQ
    exact hQ _ _ _ _ _ _ _ hx hS (by omega)
  | succ m ih =>
    intro at_ acc sv H hm hle ha hx hn hS hQ
    rcases Nat.lt_or_ge at_ s.length with hlt | hge
    · obtain ⟨c, r, hd⟩ : ∃ c r, s.drop at_ = c :: r := by
        cases hx : s.drop at_ with
        | nil => have := List.drop_eq_nil_iff.1 hx; omega
        | cons c r => exact ⟨c, r, rfl⟩
      rw [wpl_step]
      have c1 : (at_ : Int) < (s.length : Int) := by omega
      simp only [lb_goboref3_items_0, go_sem, zA, zB, zC, reduceIte, zD, zE, zF, zG, zH, zI, reduceCtorEq, zJ, zK, zL, zM, zN, zO, zP, c1]
      refine g_OneI ho hs hlt fun H1 b x1 => ?_
      have hto := oneG_to (c := c) (r := r) (at_ := at_)
      have hlen : (c :: r).length = s.length - at_ := by rw [← hd, List.length_drop]
      have hda := da_one (c := c) (r := r) (at_ := at_)
      rw [← hd] at hto hlen hda
      generalize oneG (s.drop at_) at_ = it at hto hda ⊢
      have s1 := x1.1
      obtain ⟨ob, H', ea, hx1, hsl⟩ := append_spec (bytes := 32) (ys := it.cells) (k := 1) (Sl.push (x := .cells it.cells .own) (Sl.push (x := .cells it.cells .own) (hS.ext x1))) (by simp only [Heap.size_push]; omega) (by omega) rfl (by omega) (by omega)
      have hx2 : Ext n0 H H' := ((x1.le hn).trans ((Ext.push (by omega)).trans (Ext.push (by rw [Heap.size_push]; omega)))).trans hx1
      have lb : H1.size < H'.size := by have := hx1.1; simp only [Heap.size_push] at this; omega
      simp only [It.cells] at ea
      have gk : H'.get H1.size = .cells it.cells .own := by
        rw [append_frame (by omega) ea (by rcases hS with ⟨rfl, _⟩ | ⟨b', rfl, _⟩; exact .inl rfl; exact .inr ⟨_, _, _, _, rfl⟩) (by simp only [Heap.size_push]; omega) ?_, Heap.get_push_lt (by rw [Heap.size_push]; omega), Heap.get_push_self]
        · rfl
        · intro s' o' n' e
          rcases hS with ⟨rfl, _⟩ | ⟨b', rfl, hb', hg', _⟩
          · cases e
          · injection e with _ e
            have := Heap.lt_of_get (H := H) (b := b') (by rw [hg']; simp)
            omega
      simp only [It.cells] at gk
      have hdr : (s.drop at_).drop (it.to - at_) = s.drop it.to := by rw [List.drop_drop, show at_ + (it.to - at_) = it.to by omega]
      rw [hdr] at hda
      have W : wpl ⟨bt.get, o⟩ [0, 1, 5, 6] lb_goboref3_items_0 { p := [(0, .str s), (1, .bool true), (5, .osl 5 ob 0 (acc.length + 1)), (6, .int .i64 (it.to : Int))], t := [], H := H', d := [], u := .norm } Q := by
        refine ih it.to (acc ++ [it]) _ H' (by omega) (by omega) (by rw [List.length_append]; simp only [List.length_cons, List.length_nil]; omega) (hx.trans hx2) (Nat.le_trans hn hx2.1) (by rw [icells_app, List.length_append]; exact hsl) ?_
        rw [hda] at hQ
        simpa only [List.append_assoc, List.cons_append, List.nil_append] using hQ
      cases b with
      | true =>
        simp only [It.cells, go_sem, zA, zB, zC, reduceIte, zD, zE, zF, zG, zH, zI, reduceCtorEq, zJ, zK, zL, zM, zN, zO, zP, ea, gk]
        exact W
      | false =>
        simp only [It.cells, go_sem, zA, zB, zC, reduceIte, zD, zE, zF, zG, zH, zI, reduceCtorEq, zJ, zK, zL, zM, zN, zO, zP, ea, gk]
        exact W
    · rw [wpl_step]
      have c1 : ¬ (at_ : Int) < (s.length : Int) := by omega
      simp only [lb_goboref3_items_0, go_sem, zA, zB, zC, reduceIte, zD, zE, zF, zG, zH, zI, reduceCtorEq, zJ, zK, zL, zM, zN, zO, zP, c1]
      have e : s.drop at_ = [] := List.drop_eq_nil_of_le (by omega)
      rw [e] at hQ
      have e2 : daG [] [] at_ = [] := rfl
      rw [e2, List.append_nil] at hQ
      exact hQ _ _ _ _ _ _ _ hx hS (by omega)
theorem g_All {s : List UInt8} (hs : s.length ≤ 1000000) {H : Heap} {Q : End → Heap → Prop} (h : ∀ H' v, Ext H.size H H' → Sl H.size H' 5 (icells (decAll s)) (decAll s).length v → (decAll s).length ≤ s.length → Q (.ret v) H') : wpf ⟨bt.get, o⟩ F_goboref3_All [.str s] H Q := by
  rw [fn_goboref3_All (ho _ _ _ (by decide))]
  simp only [bd_goboref3_All, go_sem, zA, zB, zC, reduceIte, zD, zE, zF, zG, zH, zI, reduceCtorEq, zJ, zK, zL, zM, zN, zO, zP]
  rw [fn_goboref3_items (ho _ _ _ (by decide))]
  simp only [bd_goboref3_items, go_sem, zA, zB, zC, reduceIte, zD, zE, zF, zG, zH, zI, reduceCtorEq, zJ, zK, zL, zM, zN, zO, zP]
  refine items_loop ho hs s.length 0 [] .nils H (by omega) (Nat.zero_le _) (Nat.le_refl _) Ext.refl (Nat.le_refl _) Sl.nil fun H1 sv y1 y2 y3 y4 t x1 s1 l1 => ?_
  rw [List.nil_append, List.drop_zero, ← daG_all] at s1 l1
  simp only [go_sem, zA, zB, zC, reduceIte, zD, zE, zF, zG, zH, zI, reduceCtorEq, zJ, zK, zL, zM, zN, zO, zP]
  exact h H1 sv x1 s1 l1
end
end Go.Ev
