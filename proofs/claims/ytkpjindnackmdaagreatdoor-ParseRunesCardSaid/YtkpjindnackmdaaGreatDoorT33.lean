/- ParseRunes: a rune's number as an expression, plainly. -/
import Derived.Test.YtkpjindnackmdaaGreatDoorT32
import Derived.Test.YtkpjindnackmdaaGreatDoorT20
namespace Go.Ev
open Go
open Go.Ev renaming seqK_normal → zA, blockK_normal → zB, blockK_exit → zC
open Nat renaming reduceEqDiff → zD, reduceAdd → zE, reduceSub → zF, reduceMul → zG, reduceLeDiff → zH, reduceLT → zI
open Int renaming reduceToNat → zJ, reduceLT → zK, reduceLE → zL, reduceEq → zM, reduceAdd → zN, reduceSub → zO, reduceMul → zP
set_option linter.unusedSimpArgs false
set_option linter.unusedVariables false
set_option maxRecDepth 8000

/-- A digit of a number of sixteen. -/
def dig (x : Nat) : UInt8 := UInt8.ofNat (if x < 10 then 48 + x else 55 + x)
theorem dig_ok : ∀ x : Fin 16, hexR ((dig x.val).toNat : Int) = (x.val : Int) ∧ (dig x.val).toNat < 128 ∧ (dig x.val).toNat ≠ 125 := by decide
def hexs : Nat → Nat → List UInt8
  | 0, _ => []
  | m + 1, u => hexs m (u / 16) ++ [dig (u % 16)]
theorem hexs_len : ∀ m u, (hexs m u).length = m
  | 0, _ => rfl
  | m + 1, u => by rw [hexs, List.length_append, hexs_len m]; rfl

theorem num_step {its : List It} {m d n q x : Nat} (h : hexR (peekR its q) = (x : Int)) (hx : n * 16 + x ≤ 1114111) : numGo its (m + 1) d n q = numGo its m (d + 1) (n * 16 + x) (q + 1) := by
  rw [numGo, h, if_neg (by omega), Int.toNat_natCast]
theorem num_stop {its : List It} {m d n q x : Nat} (h : hexR (peekR its q) = (x : Int)) (hx : 1114111 < n * 16 + x) : numGo its (m + 1) d n q = (d, n, q) := by
  rw [numGo, h, if_pos (by omega)]

theorem re_hex {a b c d e f : Nat} (ha : a < 16) (hb : b < 16) (hc : c < 16) (hd : d < 16) (he : e < 16) (hf : f < 16) :
    reF 5 [92, 117, 123, dig a, dig b, dig c, dig d, dig e, dig f, 125] =
      if 1114111 < ((((a * 16 + b) * 16 + c) * 16 + d) * 16 + e) * 16 + f then .error (.fail 3 8)
      else if 55296 ≤ ((((a * 16 + b) * 16 + c) * 16 + d) * 16 + e) * 16 + f ∧ ((((a * 16 + b) * 16 + c) * 16 + d) * 16 + e) * 16 + f ≤ 57343 then .error (.fail 3 9)
      else .ok (.set [⟨((((((a * 16 + b) * 16 + c) * 16 + d) * 16 + e) * 16 + f : Nat) : Int), ((((((a * 16 + b) * 16 + c) * 16 + d) * 16 + e) * 16 + f : Nat) : Int)⟩]) := by
  obtain ⟨a1, a2, a3⟩ := dig_ok ⟨a, ha⟩
  obtain ⟨b1, b2, b3⟩ := dig_ok ⟨b, hb⟩
  obtain ⟨c1, c2, c3⟩ := dig_ok ⟨c, hc⟩
  obtain ⟨d1, d2, d3⟩ := dig_ok ⟨d, hd⟩
  obtain ⟨e1, e2, e3⟩ := dig_ok ⟨e, he⟩
  obtain ⟨f1, f2, f3⟩ := dig_ok ⟨f, hf⟩
  simp only at a1 a2 a3 b1 b2 b3 c1 c2 c3 d1 d2 d3 e1 e2 e3 f1 f2 f3
  have hasc : ∀ x ∈ [92, 117, 123, dig a, dig b, dig c, dig d, dig e, dig f, 125], x.toNat < 128 := by
    intro x hx
    simp only [List.mem_cons, List.mem_nil_iff, or_false] at hx
    rcases hx with rfl | rfl | rfl | rfl | rfl | rfl | rfl | rfl | rfl | rfl <;> first | decide | assumption
  generalize hs : [92, 117, 123, dig a, dig b, dig c, dig d, dig e, dig f, 125] = s at hasc ⊢
  have hl : s.length = 10 := by rw [← hs]; rfl
  have hpk : ∀ k, peekR (asc 0 s) k = chrR s k := fun k => peek_ascR
  have hat : ∀ k, k ≤ 10 → atR (asc 0 s) s.length k = k := fun k hk => at_ascR (by omega)
  have q0 : peekR (asc 0 s) 0 = 92 := by rw [hpk, ← hs]; rfl
  have q1 : peekR (asc 0 s) 1 = 117 := by rw [hpk, ← hs]; rfl
  have q2 : peekR (asc 0 s) 2 = 123 := by rw [hpk, ← hs]; rfl
  have q3 : hexR (peekR (asc 0 s) 3) = a := by rw [hpk, ← hs]; exact a1
  have q4 : hexR (peekR (asc 0 s) 4) = b := by rw [hpk, ← hs]; exact b1
  have q5 : hexR (peekR (asc 0 s) 5) = c := by rw [hpk, ← hs]; exact c1
  have q6 : hexR (peekR (asc 0 s) 6) = d := by rw [hpk, ← hs]; exact d1
  have q7 : hexR (peekR (asc 0 s) 7) = e := by rw [hpk, ← hs]; exact e1
  have q8 : hexR (peekR (asc 0 s) 8) = f := by rw [hpk, ← hs]; exact f1
  have q8' : peekR (asc 0 s) 8 ≠ 125 := by rw [hpk, ← hs]; intro h; exact f3 (Int.ofNat.inj h)
  have q9 : peekR (asc 0 s) 9 = 125 := by rw [hpk, ← hs]; rfl
  have q10 : peekR (asc 0 s) 10 = -1 := by rw [hpk, ← hs]; rfl
  have hn : numGo (asc 0 s) 6 0 0 3 = if 1114111 < ((((a * 16 + b) * 16 + c) * 16 + d) * 16 + e) * 16 + f then (5, (((a * 16 + b) * 16 + c) * 16 + d) * 16 + e, 8) else (6, ((((a * 16 + b) * 16 + c) * 16 + d) * 16 + e) * 16 + f, 9) := by
    rw [num_step q3 (by omega), num_step q4 (by omega), num_step q5 (by omega), num_step q6 (by omega), num_step q7 (by omega)]
    simp only [Nat.zero_mul, Nat.zero_add]
    split
    · rename_i h; rw [num_stop q8 h]
    · rename_i h; rw [num_step q8 (by omega), numGo]
  have hr : runeR (asc 0 s) s.length false 0 = if 1114111 < ((((a * 16 + b) * 16 + c) * 16 + d) * 16 + e) * 16 + f then .error 8
      else if 55296 ≤ ((((a * 16 + b) * 16 + c) * 16 + d) * 16 + e) * 16 + f ∧ ((((a * 16 + b) * 16 + c) * 16 + d) * 16 + e) * 16 + f ≤ 57343 then .error 9
      else .ok ((((((((a * 16 + b) * 16 + c) * 16 + d) * 16 + e) * 16 + f : Nat) : Int)), 10) := by
    have hb : hasR (badS false) 92 = false := by decide
    rw [runeR, q0, hb, if_neg (by decide), if_neg (by decide), q1, if_neg (by decide), if_neg (by decide), if_neg (by decide), if_pos rfl, numR, q2, if_neg (by decide)]
    simp only [hn]
    split
    · rw [if_pos (.inr (.inl q8')), hat 8 (by omega)]
    · simp only [q9]
      split
      · rename_i h1 h2
        have : 55296 ≤ ((((a * 16 + b) * 16 + c) * 16 + d) * 16 + e) * 16 + f ∧ ((((a * 16 + b) * 16 + c) * 16 + d) * 16 + e) * 16 + f ≤ 57343 := by
          rcases h2 with h2 | h2 | h2
          · omega
          · exact absurd rfl h2
          · exact h2
        rw [if_pos this, hat 9 (by omega)]
      · rename_i h1 h2
        rw [if_neg (fun h => h2 (.inr (.inr h)))]
  generalize ((((a * 16 + b) * 16 + c) * 16 + d) * 16 + e) * 16 + f = V at hr ⊢
  by_cases h1 : 1114111 < V
  · rw [if_pos h1] at hr ⊢
    rw [reF, dec_asc hasc, allP, rowP, q0, if_neg (by decide), atomP, q0, if_neg (by decide), if_neg (by decide), if_neg (by decide), hr]
  · rw [if_neg h1] at hr ⊢
    by_cases h2 : 55296 ≤ V ∧ V ≤ 57343
    · rw [if_pos h2] at hr ⊢
      rw [reF, dec_asc hasc, allP, rowP, q0, if_neg (by decide), atomP, q0, if_neg (by decide), if_neg (by decide), if_neg (by decide), hr]
    · rw [if_neg h2] at hr ⊢
      have st : ∀ p, starsP (asc 0 s) (asc 0 s).length p 10 = (p, 10) := by intro p; rw [asc_len, hl, starsP, q10, if_neg (by decide)]
      rw [reF, dec_asc hasc, allP, rowP, q0, if_neg (by decide), atomP, q0, if_neg (by decide), if_neg (by decide), if_neg (by decide), hr]
      simp only [st]
      rw [rowP, q10, if_pos (.inl rfl)]
      simp only [Bool.false_eq_true, if_false]
      rw [altP, q10, if_neg (by decide)]
      simp only [q10, if_true]

section
variable {o : CallF} (ho : OvOnly o)
include ho

omit ho in
theorem sl_dig : ∀ x : Fin 16, List.drop x.val (48 :: List.take x.val [49, 50, 51, 52, 53, 54, 55, 56, 57, 65, 66, 67, 68, 69, 70]) = [dig x.val] := by decide
omit ho in
theorem wu32 {x : Int} (h0 : 0 ≤ x) (h1 : x ≤ 4294967295) : IntKind.u32.wrap x = x := by
  show x % 4294967296 = x
  omega

omit ho in
theorem pr_loop {rv : AV} {H : Heap} {Q : Ctl → St → Prop} : ∀ (m i u : Nat) (s : List UInt8), i + m = 6 → u ≤ 4294967295 → s.length = i →
    (∀ x t, Q (.exit 0) { p := (0, rv) :: (3, .int .u32 ((u / 16 ^ m : Nat) : Int)) :: (4, .str (hexs m u ++ s)) :: x, t := t, H := H, d := [], u := .norm }) →
    wpl ⟨bt.get, o⟩ [0, 3, 4, 5] lb_gobolaw13_ParseRunes_0 { p := [(0, rv), (3, .int .u32 (u : Int)), (4, .str s), (5, .int .i64 (i : Int))], t := [], H := H, d := [], u := .norm } Q := by
  intro m
  induction m with
  | zero =>
    intro i u s hi hu hs hQ
    rw [wpl_step]
    have c1 : ¬ ((i : Int) < 6) := by omega
    simp only [lb_gobolaw13_ParseRunes_0, go_sem, zA, zB, zC, reduceIte, zD, zE, zF, zG, zH, zI, reduceCtorEq, zJ, zK, zL, zM, zN, zO, zP, c1]
    simpa [hexs] using hQ _ _
  | succ m ih =>
    intro i u s hi hu hs hQ
    rw [wpl_step]
    have c1 : ((i : Int) < 6) := by omega
    have hx : u % 16 < 16 := Nat.mod_lt _ (by omega)
    have e1 : (u : Int).tmod 16 = ((u % 16 : Nat) : Int) := rfl
    have e2 : IntKind.u32.wrap (((u % 16 : Nat) : Int) + 1) = ((u % 16 + 1 : Nat) : Int) := by rw [wu32 (by omega) (by omega)]; omega
    have e3 : IntKind.u32.wrap ((u : Int).tdiv 16) = ((u / 16 : Nat) : Int) := by rw [show (u : Int).tdiv 16 = ((u / 16 : Nat) : Int) from rfl, wu32 (by omega) (by omega)]
    have e4 : (((u % 16 : Nat) : Int) ≤ ((u % 16 + 1 : Nat) : Int)) := by omega
    have e5 : (((u % 16 + 1 : Nat) : Int) ≤ 16) := by omega
    have sd := sl_dig ⟨u % 16, hx⟩
    simp only at sd
    have ln : 1 + s.length ≤ 1099511627776 := by omega
    simp only [lb_gobolaw13_ParseRunes_0, go_sem, zA, zB, zC, reduceIte, zD, zE, zF, zG, zH, zI, reduceCtorEq, zJ, zK, zL, zM, zN, zO, zP, c1, e1, e2, e3, e4, e5, sd, ln, wsucc (show i ≤ 1000000000 by omega)]
    refine ih (i + 1) (u / 16) (dig (u % 16) :: s) (by omega) (by omega) (by rw [List.length_cons, hs]) fun x t => ?_
    have q := hQ x t
    rw [hexs, List.append_assoc, Nat.pow_succ', ← Nat.div_div_eq_div_mul] at q
    exact q

omit ho in
theorem pr_law {r : Int} (hr : -2147483648 ≤ r ∧ r ≤ 2147483647) : wpf ⟨bt.get, ovT⟩ F_gobolaw13_ParseRunes [.int .i32 r] (glHeap gl) fun e _ => e = .ret (.bool true) := by
  have hG := glH0
  generalize glHeap gl = H at hG ⊢
  rw [fn_gobolaw13_ParseRunes (ovT_only _ _ _ (by decide))]
  obtain ⟨u, hu, eu, eu1⟩ : ∃ u : Nat, u ≤ 4294967295 ∧ IntKind.u32.wrap r = (u : Int) ∧ (0 ≤ r → (u : Int) = r) := by
    refine ⟨(IntKind.u32.wrap r).toNat, ?_, ?_, fun h => ?_⟩
    · show (r % 4294967296).toNat ≤ _; omega
    · show r % 4294967296 = ((r % 4294967296).toNat : Int); omega
    · show ((r % 4294967296).toNat : Int) = r; omega
  simp only [bd_gobolaw13_ParseRunes, go_sem, zA, zB, zC, reduceIte, zD, zE, zF, zG, zH, zI, reduceCtorEq, zJ, zK, zL, zM, zN, zO, zP, eu]
  refine pr_loop 6 0 u [] rfl hu rfl fun x t => ?_
  rw [List.append_nil]
  have ln : (hexs 6 u).length = 6 := hexs_len 6 u
  have l1 : 3 + (hexs 6 u).length ≤ 1099511627776 := by omega
  have l2 : 3 + (hexs 6 u).length + 1 ≤ 1099511627776 := by omega
  simp only [go_sem, zA, zB, zC, reduceIte, zD, zE, zF, zG, zH, zI, reduceCtorEq, zJ, zK, zL, zM, zN, zO, zP, l1, l2, List.length_append, lk_up]
  refine ⟨by omega, ?_⟩
  have e16 : (16 : Nat) ^ 6 = 16777216 := rfl
  rw [e16]
  have hx : hexs 6 u = [dig (u / 16 / 16 / 16 / 16 / 16 % 16), dig (u / 16 / 16 / 16 / 16 % 16), dig (u / 16 / 16 / 16 % 16), dig (u / 16 / 16 % 16), dig (u / 16 % 16), dig (u % 16)] := by simp [hexs]
  have m16 : ∀ n : Nat, n % 16 < 16 := fun n => Nat.mod_lt _ (by omega)
  have E := re_hex (m16 (u / 16 / 16 / 16 / 16 / 16)) (m16 (u / 16 / 16 / 16 / 16)) (m16 (u / 16 / 16 / 16)) (m16 (u / 16 / 16)) (m16 (u / 16)) (m16 u)
  have hV : ((((u / 16 / 16 / 16 / 16 / 16 % 16 * 16 + u / 16 / 16 / 16 / 16 % 16) * 16 + u / 16 / 16 / 16 % 16) * 16 + u / 16 / 16 % 16) * 16 + u / 16 % 16) * 16 + u % 16 = u % 16777216 := by omega
  rw [hV] at E
  have hstr : (92 :: 117 :: 123 :: (hexs 6 u ++ [125])) = [92, 117, 123, dig (u / 16 / 16 / 16 / 16 / 16 % 16), dig (u / 16 / 16 / 16 / 16 % 16), dig (u / 16 / 16 / 16 % 16), dig (u / 16 / 16 % 16), dig (u / 16 % 16), dig (u % 16), 125] := by rw [hx]; rfl
  rw [← hstr] at E
  have hls : (92 :: 117 :: 123 :: (hexs 6 u ++ [125])).length = 10 := by rw [hstr]; rfl
  generalize (92 :: 117 :: 123 :: (hexs 6 u ++ [125])) = s at E hls ⊢
  have nV : u % 16777216 = u ∨ 0 < u / 16777216 := by omega
  generalize u % 16777216 = V at E nV
  generalize hw : u / 16777216 = w at nV
  refine p_Re ovT_only 5 (by omega) hG ?_ (fun y hy H1 cs x1 R1 => ?_) (fun c a hy hc0 H1 x1 => ?_)
  · rw [E]
    repeat' split
    all_goals intro h; cases h
  · rw [E] at hy
    have h1 : ¬ 1114111 < V := fun h => by rw [if_pos h] at hy; cases hy
    rw [if_neg h1] at hy
    have h2 : ¬ (55296 ≤ V ∧ V ≤ 57343) := fun h => by rw [if_pos h] at hy; cases hy
    rw [if_neg h2] at hy
    injection hy with hy
    subst hy
    have hG1 := hG.ext hG.1 x1
    obtain ⟨ky, vy, wy, ey, ⟨y1, y2⟩, y3, y4⟩ := R1.form
    subst ey
    have e2 : Ext H1.size H1 (H1.push (.cells [.int .i64 ky, vy, wy] .own)) := Ext.push (Nat.le_refl _)
    have g2 : (H1.push (.cells [.int .i64 ky, vy, wy] .own)).get H1.size = .cells [.int .i64 ky, vy, wy] .own := Heap.get_push_self
    have hG2 := hG1.ext hG1.1 e2
    by_cases c1 : r < 0
    · simp only [go_sem, zA, zB, zC, reduceIte, zD, zE, zF, zG, zH, zI, reduceCtorEq, zJ, zK, zL, zM, zN, zO, zP, y1, y2, y3, y4, c1]
      refine t_told hG2 ?_
      simp only [go_sem, zA, zB, zC, reduceIte, zD, zE, zF, zG, zH, zI, reduceCtorEq, zJ, zK, zL, zM, zN, zO, zP, c1]
    · have hur := eu1 (by omega)
      by_cases c2 : 1114111 < r
      · have c3 : (0 : Int) < (w : Int) := by omega
        simp only [go_sem, zA, zB, zC, reduceIte, zD, zE, zF, zG, zH, zI, reduceCtorEq, zJ, zK, zL, zM, zN, zO, zP, y1, y2, y3, y4, c1, c2]
        refine t_told hG2 ?_
        simp only [go_sem, zA, zB, zC, reduceIte, zD, zE, zF, zG, zH, zI, reduceCtorEq, zJ, zK, zL, zM, zN, zO, zP, c1, c3]
      · have hrV : r = (V : Int) := by omega
        have fin : wpf ⟨bt.get, ovT⟩ F_told [] (H1.push (.cells [.int .i64 ky, vy, wy] .own)) (fun e H' => e = .ret (.bool true) ∧ H' = H1.push (.cells [.int .i64 ky, vy, wy] .own)) := t_told hG2 ⟨rfl, rfl⟩
        by_cases c3 : 55296 ≤ r
        · have c4 : ¬ r ≤ 57343 := by omega
          simp only [go_sem, zA, zB, zC, reduceIte, zD, zE, zF, zG, zH, zI, reduceCtorEq, zJ, zK, zL, zM, zN, zO, zP, y1, y2, y3, y4, c1, c2, c3, c4]
          refine t_told hG2 ?_
          simp only [go_sem, zA, zB, zC, reduceIte, zD, zE, zF, zG, zH, zI, reduceCtorEq, zJ, zK, zL, zM, zN, zO, zP, g2, y1, y2, y3, y4]
          refine g_One ovT_only fun H3 c3' x3 R3 => ?_
          obtain ⟨kz, vz, wz, ez, ⟨z1, z2⟩, z3, z4⟩ := R3.form
          subst ez
          have g3 : H3.get H1.size = .cells [.int .i64 ky, vy, wy] .own := by rw [x3.2 _ (by rw [Heap.size_push]; omega), g2]
          simp only [go_sem, zA, zB, zC, reduceIte, zD, zE, zF, zG, zH, zI, reduceCtorEq, zJ, zK, zL, zM, zN, zO, zP, g3, y1, y2, y3, y4, z1, z2, z3, z4]
          refine g6_Same ovT_only _ _ _ _ _ _ _ _ (R1.keep (Q := fun _ => True) fun b q1 q2 => ⟨by rw [x3.2 _ (by rw [Heap.size_push]; omega), e2.2 b q2], trivial⟩) R3 fun H4 x4 => ?_
          have g4 : H4.get H1.size = .cells [.int .i64 ky, vy, wy] .own := by rw [x4.2 _ (by have := x3.1; rw [Heap.size_push] at this; omega), g3]
          have hsame : sameX (.set [⟨(V : Int), (V : Int)⟩]) (.set [⟨r, r⟩]) = true := by rw [sameX_iff, hrV]
          simp only [go_sem, zA, zB, zC, reduceIte, zD, zE, zF, zG, zH, zI, reduceCtorEq, zJ, zK, zL, zM, zN, zO, zP, hsame, g4]
        · simp only [go_sem, zA, zB, zC, reduceIte, zD, zE, zF, zG, zH, zI, reduceCtorEq, zJ, zK, zL, zM, zN, zO, zP, y1, y2, y3, y4, c1, c2, c3]
          refine t_told hG2 ?_
          simp only [go_sem, zA, zB, zC, reduceIte, zD, zE, zF, zG, zH, zI, reduceCtorEq, zJ, zK, zL, zM, zN, zO, zP, g2, y1, y2, y3, y4]
          refine g_One ovT_only fun H3 c3' x3 R3 => ?_
          obtain ⟨kz, vz, wz, ez, ⟨z1, z2⟩, z3, z4⟩ := R3.form
          subst ez
          have g3 : H3.get H1.size = .cells [.int .i64 ky, vy, wy] .own := by rw [x3.2 _ (by rw [Heap.size_push]; omega), g2]
          simp only [go_sem, zA, zB, zC, reduceIte, zD, zE, zF, zG, zH, zI, reduceCtorEq, zJ, zK, zL, zM, zN, zO, zP, g3, y1, y2, y3, y4, z1, z2, z3, z4]
          refine g6_Same ovT_only _ _ _ _ _ _ _ _ (R1.keep (Q := fun _ => True) fun b q1 q2 => ⟨by rw [x3.2 _ (by rw [Heap.size_push]; omega), e2.2 b q2], trivial⟩) R3 fun H4 x4 => ?_
          have g4 : H4.get H1.size = .cells [.int .i64 ky, vy, wy] .own := by rw [x4.2 _ (by have := x3.1; rw [Heap.size_push] at this; omega), g3]
          have hsame : sameX (.set [⟨(V : Int), (V : Int)⟩]) (.set [⟨r, r⟩]) = true := by rw [sameX_iff, hrV]
          simp only [go_sem, zA, zB, zC, reduceIte, zD, zE, zF, zG, zH, zI, reduceCtorEq, zJ, zK, zL, zM, zN, zO, zP, hsame, g4]
  · rw [E] at hy
    have hc3 : c = 3 := by
      split at hy
      · injection hy with hy; injection hy with h1 h2; exact h1.symm
      · split at hy
        · injection hy with hy; injection hy with h1 h2; exact h1.symm
        · cases hy
    subst hc3
    have hG1 := hG.ext hG.1 x1
    have e2 : Ext H1.size H1 (H1.push (.cells [.int .i64 0, .nils, .nils] .own)) := Ext.push (Nat.le_refl _)
    have hG2 := hG1.ext hG1.1 e2
    by_cases c1 : r < 0
    · simp only [go_sem, zA, zB, zC, reduceIte, zD, zE, zF, zG, zH, zI, reduceCtorEq, zJ, zK, zL, zM, zN, zO, zP, c1]
      refine t_told hG2 ?_
      simp only [go_sem, zA, zB, zC, reduceIte, zD, zE, zF, zG, zH, zI, reduceCtorEq, zJ, zK, zL, zM, zN, zO, zP, c1]
    · by_cases c2 : 1114111 < r
      · simp only [go_sem, zA, zB, zC, reduceIte, zD, zE, zF, zG, zH, zI, reduceCtorEq, zJ, zK, zL, zM, zN, zO, zP, c1, c2]
        refine t_told hG2 ?_
        simp only [go_sem, zA, zB, zC, reduceIte, zD, zE, zF, zG, zH, zI, reduceCtorEq, zJ, zK, zL, zM, zN, zO, zP, c1]
      · have hur := eu1 (by omega)
        have hrV : r = (V : Int) := by omega
        rw [if_neg (by omega)] at hy
        have hs : 55296 ≤ V ∧ V ≤ 57343 := by
          rcases Classical.em (55296 ≤ V ∧ V ≤ 57343) with h | h
          · exact h
          · rw [if_neg h] at hy; cases hy
        have c3 : 55296 ≤ r := by omega
        have c4 : r ≤ 57343 := by omega
        simp only [go_sem, zA, zB, zC, reduceIte, zD, zE, zF, zG, zH, zI, reduceCtorEq, zJ, zK, zL, zM, zN, zO, zP, c1, c2, c3, c4]
        refine t_told hG2 ?_
        simp only [go_sem, zA, zB, zC, reduceIte, zD, zE, zF, zG, zH, zI, reduceCtorEq, zJ, zK, zL, zM, zN, zO, zP, c1]
end
end Go.Ev
