/- Several texts of this claim, joined. -/
import Derived.Test.YtibdapopccemeaaGreatDoorT28
set_option linter.unusedSimpArgs false
set_option linter.unusedVariables false

/- Classes: plainly, and what the reader's Class and word.Class come to. -/
namespace Go.Ev
open Go
open Go.Ev renaming seqK_normal → zA, blockK_normal → zB, blockK_exit → zC
open Nat renaming reduceEqDiff → zD, reduceAdd → zE, reduceSub → zF, reduceMul → zG, reduceLeDiff → zH, reduceLT → zI
open Int renaming reduceToNat → zJ, reduceLT → zK, reduceLE → zL, reduceEq → zM, reduceAdd → zN, reduceSub → zO, reduceMul → zP
set_option maxRecDepth 8000
def clGo (its : List It) (e : Nat) (endc : Int) : Nat → List R → Nat → Except Nat (List R × Nat)
  | 0, acc, k => .ok (acc, k)
  | m + 1, acc, k =>
    if acc ≠ [] ∧ peekR its k = endc then .ok (acc, k) else
    match runeR its e true k with
    | .error a => .error a
    | .ok (lo, k1) =>
      if peekR its k1 = 45 then (match runeR its e true (k1 + 1) with
        | .error a => .error a
        | .ok (hi, k2) => if hi < lo then .error (atR its e (k1 + 1)) else clGo its e endc m (acc ++ [⟨lo, hi⟩]) k2)
      else clGo its e endc m (acc ++ [⟨lo, lo⟩]) k1
/-- A class, up to a rune that stays. -/
def classR (its : List It) (e : Nat) (endc : Int) (k : Nat) : Except Nat (List R × Nat) :=
  match clGo its e endc (its.length + 1) [] (if peekR its k = 94 then k + 1 else k) with
  | .error a => .error a
  | .ok (l, k2) =>
    let s := if peekR its k = 94 then notF (normF l) else normF l
    if s = [] then .error (atR its e k2) else .ok (s, k2)
/-- Has a class more ranges than are sorted? -/
def bigC (its : List It) (e : Nat) (endc : Int) (k : Nat) : Bool :=
  match clGo its e endc (its.length + 1) [] (if peekR its k = 94 then k + 1 else k) with
  | .error _ => false
  | .ok (l, _) => decide (capN < l.length)
/-- The set of a class, or where it is wrong. -/
def classF (s : List UInt8) : Except Nat (List R) := match classR (decAll s) s.length (-1) 0 with
  | .error a => .error a
  | .ok (l, _) => .ok l
/-- Runes of 21 bits. -/
def Sm (its : List It) : Prop := ∀ x ∈ its, x.rune ≤ 2097151
theorem peek_bd {its : List It} (h : Sm its) (k : Nat) : -2 ≤ peekR its k ∧ peekR its k ≤ 2097151 := by
  unfold peekR
  cases hk : its[k]? with
  | none => simp
  | some x =>
    have := h x (List.mem_of_getElem? hk)
    simp only
    split <;> omega
theorem numR_bd {its : List It} {e k k' : Nat} {r : Int} (hk : k ≤ its.length) (h : numR its e k = .ok (r, k')) : 0 ≤ r ∧ r ≤ 1114111 ∧ k < k' ∧ k' ≤ its.length := by
  unfold numR at h
  split at h
  · cases h
  · rename_i hp
    have hk1 := peek_lt (its := its) (k := k) (by simp at hp; omega)
    have hb := numGo_bd its 6 0 0 (k + 1) (by omega) (by omega)
    have hq : ∀ (m d n q : Nat), q ≤ (numGo its m d n q).2.2 := by
      intro m
      induction m with
      | zero => intro d n q; exact Nat.le_refl _
      | succ m ih =>
        intro d n q
        simp only [numGo]
        split
        · exact Nat.le_refl _
        · exact Nat.le_trans (Nat.le_succ _) (ih _ _ _)
    have hq1 := hq 6 0 0 (k + 1)
    simp only at h
    split at h
    · cases h
    · rename_i hc
      injection h with h
      obtain ⟨rfl, rfl⟩ := Prod.mk.inj h
      have hpk : peekR its (numGo its 6 0 0 (k + 1)).2.2 = 125 := by
        rcases Classical.em (peekR its (numGo its 6 0 0 (k + 1)).2.2 = 125) with h | h
        · exact h
        · exact absurd (.inr (.inl h)) hc
      have := peek_lt (its := its) (k := (numGo its 6 0 0 (k + 1)).2.2) (by omega)
      omega
theorem runeR_bd {its : List It} {e k k' : Nat} {cls : Bool} {r : Int} (hs : Sm its) (hk : k ≤ its.length) (h : runeR its e cls k = .ok (r, k')) : 0 ≤ r ∧ r ≤ 2097151 ∧ k < k' ∧ k' ≤ its.length := by
  have b1 := peek_bd hs k
  have b2 := peek_bd hs (k + 1)
  unfold runeR at h
  split at h
  · cases h
  · rename_i hc
    have hk1 := peek_lt (its := its) (k := k) (by omega)
    split at h
    · injection h with h; obtain ⟨rfl, rfl⟩ := Prod.mk.inj h; omega
    split at h
    · rename_i hp
      have := peek_lt (its := its) (k := k + 1) (by omega)
      injection h with h; obtain ⟨rfl, rfl⟩ := Prod.mk.inj h; omega
    split at h
    · rename_i hp
      have := peek_lt (its := its) (k := k + 1) (by omega)
      injection h with h; obtain ⟨rfl, rfl⟩ := Prod.mk.inj h; omega
    split at h
    · rename_i hp
      have := peek_lt (its := its) (k := k + 1) (by omega)
      injection h with h; obtain ⟨rfl, rfl⟩ := Prod.mk.inj h; omega
    split at h
    · rename_i hp
      have := peek_lt (its := its) (k := k + 1) (by omega)
      have := numR_bd (its := its) (k := k + 2) (by omega) h
      omega
    split at h
    · cases h
    · rename_i hc
      have := peek_lt (its := its) (k := k + 1) (by omega)
      injection h with h; obtain ⟨rfl, rfl⟩ := Prod.mk.inj h; omega
theorem RdrS.ex {b H H' its e k iv ib n0} (h : RdrS b H its e k iv ib) (x : Ext n0 H H') (hb : b < n0) (hi : 0 < its.length → ib < n0) : RdrS b H' its e k iv ib :=
  ⟨by rw [x.2 b hb, h.get], h.rd.keep fun hp => x.2 ib (hi hp), h.ne, h.le, h.sm⟩
section
variable {o : CallF} (ho : OvOnly o)
include ho
theorem cl_loop {b n0 : Nat} {its : List It} {e : Nat} {endc : Int} {iv : AV} {ib : Nat} {neg : Bool} (hs : Sm its) (hb : b < n0) (hi' : 0 < its.length → ib < n0) {H0 : Heap} {Q : Ctl → St → Prop} : ∀ (m : Nat) (acc : List R) (k : Nat) (lv : AV) (H : Heap), its.length < k + m → acc.length ≤ k → (∀ r ∈ acc, I32 r.lo ∧ I32 r.hi) → RdrS b H its e k iv ib → n0 ≤ H.size → Sl n0 H 2 (rcells acc) acc.length lv → Fr2 b b n0 H0 H →
    (∀ a, clGo its e endc m acc k = .error a → ∀ σ : St, Fr2 b b n0 H0 σ.H → σ.d = [] → Q (.panic [(faultA 3 a, false)]) σ) →
    (∀ l k2, clGo its e endc m acc k = .ok (l, k2) → l.length ≤ k2 → (∀ r ∈ l, I32 r.lo ∧ I32 r.hi) → ∀ (H' : Heap) (lv' : AV) x t, Fr2 b b n0 H0 H' → n0 ≤ H'.size → RdrS b H' its e k2 iv ib → Sl n0 H' 2 (rcells l) l.length lv' → Q (.exit 0) { p := (0, .ptr b 0) :: (1, .int .i32 endc) :: (5, lv') :: (6, .bool neg) :: x, t := t, H := H', d := [], u := .norm }) →
    wpl ⟨bt.get, o⟩ [0, 1, 5, 6] lb_word_Reader_Class_0 { p := [(0, .ptr b 0), (1, .int .i32 endc), (5, lv), (6, .bool neg)], t := [], H := H, d := [], u := .norm } Q := by
  intro m
  induction m with
  | zero =>
    intro acc k lv H hm ha hr hR hn hS hf hF hT
    have := hR.le
    omega
  | succ m ih =>
    intro acc k lv H hm ha hr hR hn hS hf hF hT
    have fr2 : ∀ {H1 H2 : Heap}, Fr b .nils H1 H2 → n0 ≤ H1.size → Fr2 b b n0 H1 H2 := fun h hs => ⟨h.1, fun c h1 h2 _ => h.2 c (by omega) h2 (fun _ _ _ e => by cases e)⟩
    -- the body
    have body : ∀ t x, ¬ (acc ≠ [] ∧ peekR its k = endc) → wpc ⟨bt.get, o⟩ (seqR lb_word_Reader_Class_0) { p := [(0, .ptr b 0), (1, .int .i32 endc), (5, lv), (6, .bool neg), (19, x)], t := t, H := H, d := [], u := .norm } (loopK ⟨bt.get, o⟩ [0, 1, 5, 6] lb_word_Reader_Class_0 Q) := by
      intro t x hc
      have hkm := hR.le
      have hS1 : ∀ {H1 : Heap}, Fr b .nils H H1 → Sl n0 H1 2 (rcells acc) acc.length lv := fun f1 => hS.frame fun ob h1 h2 _ => f1.2 ob (Heap.lt_of_get (by rw [h2]; simp)) (by omega) (fun _ _ _ e => by cases e)
      simp only [lb_word_Reader_Class_0, seqR, go_sem, zA, zB, zC, reduceIte, zD, zE, zF, zG, zH, zI, reduceCtorEq, zJ, zK, zL, zM, zN, zO, zP]
      refine k_Rune ho hR (fun a ha H1 f1 => ?_) (fun lo k1 ha H1 f1 R1 => ?_)
      · simp only [go_sem, zA, zB, zC, reduceIte, zD, zE, zF, zG, zH, zI, reduceCtorEq, zJ, zK, zL, zM, zN, zO, zP]
        exact hF a (by simp only [clGo, if_neg hc, ha]) _ (hf.trans (fr2 f1 hn)) rfl
      · obtain ⟨lo0, lo1, lk1, lk2⟩ := runeR_bd hs hkm ha
        have hn1 : n0 ≤ H1.size := Nat.le_trans hn f1.1
        have x1 : Ext H1.size H1 (H1.push (.cells [.int .i32 lo, .int .i32 lo] .own)) := Ext.push (Nat.le_refl _)
        have RG := R1.fr x1
        have fG : Fr2 b b n0 H (H1.push (.cells [.int .i32 lo, .int .i32 lo] .own)) := (fr2 f1 hn).trans ⟨x1.1, fun c h1 _ _ => x1.2 c (by omega)⟩
        have SG : Sl n0 (H1.push (.cells [.int .i32 lo, .int .i32 lo] .own)) 2 (rcells acc) acc.length lv := (hS1 f1).push
        have gG : (H1.push (.cells [.int .i32 lo, .int .i32 lo] .own)).get H1.size = .cells [.int .i32 lo, .int .i32 lo] .own := Heap.get_push_self
        have szG : (H1.push (.cells [.int .i32 lo, .int .i32 lo] .own)).size = H1.size + 1 := Heap.size_push _ _
        have hbl : b ≠ H1.size := by omega
        -- one range more
        have add : ∀ (H2 : Heap) (hi : Int) (k2 : Nat) (t x), I32 hi → k < k2 → RdrS b H2 its e k2 iv ib → Fr2 b b n0 H0 H2 → n0 ≤ H2.size → Sl n0 H2 2 (rcells acc) acc.length lv → H2.get H1.size = .cells [.int .i32 lo, .int .i32 hi] .own → clGo its e endc (m + 1) acc k = clGo its e endc m (acc ++ [⟨lo, hi⟩]) k2 → lk 7 x = some (.ptr H1.size 0) →
            wpc ⟨bt.get, o⟩ (.reg [⟨.t 40, .mov (.p 5), none⟩, ⟨.t 41, .loadN 2 (.p 7), none⟩, ⟨.t 42, .lit [.int .i32 0, .int .i32 0] 1 [(0, 2, .t 41)], none⟩, ⟨.t 43, .append 2 8 (.t 40) (.t 42), none⟩, ⟨.p 5, .mov (.t 43), none⟩])
              { p := (0, .ptr b 0) :: (1, .int .i32 endc) :: (5, lv) :: (6, .bool neg) :: x, t := t, H := H2, d := [], u := .norm } (blockK 1 [0, 1, 5, 6] (loopK ⟨bt.get, o⟩ [0, 1, 5, 6] lb_word_Reader_Class_0 Q)) := by
          intro H2 hi k2 t x h32 hkk R2 f2 hn2 S2 g7 ec h7
          · skip
            obtain ⟨nb, H3, ea, x3, s3⟩ := append_spec (bytes := 8) (ys := [.int .i32 lo, .int .i32 hi]) (k := 1) (Sl.push (x := .cells [.int .i32 lo, .int .i32 hi] .own) S2) (by rw [Heap.size_push]; omega) (by omega) rfl (by have := R2.le; have := R2.sm; omega) (by have := R2.le; have := R2.sm; omega)
            simp only [go_sem, zA, zB, zC, reduceIte, zD, zE, zF, zG, zH, zI, reduceCtorEq, zJ, zK, zL, zM, zN, zO, zP, h7, g7, ea]
            have x23 : Ext n0 H2 H3 := (Ext.push hn2).trans x3
            rw [ec] at hF hT
            refine ih (acc ++ [⟨lo, hi⟩]) k2 _ H3 (by omega) (by rw [List.length_append]; simp only [List.length_cons, List.length_nil]; omega) (fun r hr' => ?_) (R2.ex x23 hb hi') (Nat.le_trans hn2 x23.1) (by rw [rcells_app, List.length_append]; exact s3) (f2.trans ⟨x23.1, fun c h1 _ _ => x23.2 c h1⟩) hF hT
            rcases List.mem_append.1 hr' with hr' | hr'
            · exact hr r hr'
            · simp at hr'; rw [hr']; exact ⟨(⟨by omega, by omega⟩ : I32 lo), h32⟩
        simp only [go_sem, zA, zB, zC, reduceIte, zD, zE, zF, zG, zH, zI, reduceCtorEq, zJ, zK, zL, zM, zN, zO, zP]
        refine k_Skip ho (by omega) RG (fun hp => ?_) (fun hp H2 f2 R2 => ?_)
        · simp only [go_sem, zB, zC, reduceIte, zD, zE, zF, zG, zH, zI, reduceCtorEq, zJ, zK, zL, zM, zN, zO, zP]
          rw [seqK_normal]
          simp only [go_sem, zB, zC, reduceIte, zD, zE, zF, zG, zH, zI, reduceCtorEq, zJ, zK, zL, zM, zN, zO, zP]
          rw [seqK_normal]
          refine add _ lo k1 _ _ ⟨by omega, by omega⟩ lk1 RG (hf.trans fG) (by rw [szG]; omega) SG gG ?_ ?_
          · simp only [clGo, if_neg hc, ha, if_neg hp]
          · rfl
        · have g7 : H2.get H1.size = .cells [.int .i32 lo, .int .i32 lo] .own := f2.get gG (by simp) (by omega)
          simp only [go_sem, zA, zB, zC, reduceIte, zD, zE, zF, zG, zH, zI, reduceCtorEq, zJ, zK, zL, zM, zN, zO, zP]
          refine k_At ho R2 ?_
          simp only [go_sem, zA, zB, zC, reduceIte, zD, zE, zF, zG, zH, zI, reduceCtorEq, zJ, zK, zL, zM, zN, zO, zP]
          have hn2 : n0 ≤ H2.size := Nat.le_trans (by rw [szG]; omega) f2.1
          have fr02 : Fr2 b b n0 H0 H2 := (hf.trans fG).trans (fr2 f2 (by rw [szG]; omega))
          refine k_Rune ho R2 (fun a ha2 H3 f3 => ?_) (fun hi k2 ha2 H3 f3 R3 => ?_)
          · simp only [go_sem, zA, zB, zC, reduceIte, zD, zE, zF, zG, zH, zI, reduceCtorEq, zJ, zK, zL, zM, zN, zO, zP]
            exact hF a (by simp only [clGo, if_neg hc, ha, if_pos hp, ha2]) _ (fr02.trans (fr2 f3 hn2)) rfl
          · obtain ⟨h0', h1', h2', h3'⟩ := runeR_bd hs R2.le ha2
            have g73 : H3.get H1.size = .cells [.int .i32 lo, .int .i32 lo] .own := f3.get g7 (by simp) (by omega)
            have l3 : H1.size < H3.size := Heap.lt_of_get (by rw [g73]; simp)
            have fr03 : Fr2 b b n0 H0 H3 := fr02.trans (fr2 f3 hn2)
            have hn3 : n0 ≤ H3.size := Nat.le_trans hn2 f3.1
            have x34 : Ext n0 H3 (H3.set H1.size (.cells [.int .i32 lo, .int .i32 hi] .own)) := Ext.set hn1
            by_cases hlt : hi < lo
            · simp only [go_sem, zA, zB, zC, reduceIte, zD, zE, zF, zG, zH, zI, reduceCtorEq, zJ, zK, zL, zM, zN, zO, zP, g73, Heap.get_set_self l3, hlt]
              refine w_Fail ho ?_
              simp only [go_sem, zA, zB, zC, reduceIte, zD, zE, zF, zG, zH, zI, reduceCtorEq, zJ, zK, zL, zM, zN, zO, zP]
              exact hF _ (by simp only [clGo, if_neg hc, ha, if_pos hp, ha2, if_pos hlt]) _ (fr03.trans ⟨x34.1, fun c h1 _ _ => x34.2 c h1⟩) rfl
            · simp only [go_sem, zB, zC, reduceIte, zD, zE, zF, zG, zH, zI, reduceCtorEq, zJ, zK, zL, zM, zN, zO, zP, g73, Heap.get_set_self l3, hlt]
              rw [seqK_normal]
              simp only [go_sem, zB, zC, reduceIte, zD, zE, zF, zG, zH, zI, reduceCtorEq, zJ, zK, zL, zM, zN, zO, zP, Heap.get_set_self l3, hlt]
              rw [seqK_normal]
              simp only [go_sem, zB, zC, reduceIte, zD, zE, zF, zG, zH, zI, reduceCtorEq, zJ, zK, zL, zM, zN, zO, zP, Heap.get_set_self l3, hlt]
              rw [seqK_normal]
              have S3 : Sl n0 (H3.set H1.size (.cells [.int .i32 lo, .int .i32 hi] .own)) 2 (rcells acc) acc.length lv := by
                have a1 := SG.frame (H' := H2) fun ob h1 h2 _ => f2.2 ob (Heap.lt_of_get (by rw [h2]; simp)) (by omega) (fun _ _ _ e => by cases e)
                have a2 := a1.frame (H' := H3) fun ob h1 h2 _ => f3.2 ob (Heap.lt_of_get (by rw [h2]; simp)) (by omega) (fun _ _ _ e => by cases e)
                have hne : ∀ ob, lv = .osl 2 ob 0 acc.length → 0 < acc.length → ob < H1.size := by
                  intro ob hob hp
                  rcases hS1 f1 with ⟨_, h, _⟩ | ⟨ob', h1, h2, h3, _⟩
                  · omega
                  · rw [h1] at hob; injection hob with _ hob; rw [← hob]
                    exact Heap.lt_of_get (by rw [h3]; simp)
                rcases a2 with h | ⟨ob, h1, h2, h3, h4, h5⟩
                · exact .inl h
                · have := hne ob h1 h5
                  exact .inr ⟨ob, h1, h2, by rw [Heap.get_set_ne (by omega), h3], h4, h5⟩
              refine add _ hi k2 _ _ ⟨by omega, by omega⟩ (by omega) (R3.ex x34 hb hi') (fr03.trans ⟨x34.1, fun c h1 _ _ => x34.2 c h1⟩) (by rw [Heap.size_set]; exact hn3) S3 (Heap.get_set_self l3) ?_ ?_
              · simp only [clGo, if_neg hc, ha, if_pos hp, ha2, if_neg hlt]
              · rfl
    rw [wpl_step]
    by_cases h0 : acc = []
    · subst h0
      have e0 : lenI lv = some 0 := hS.lenI
      simp only [lb_word_Reader_Class_0, go_sem, zB, zC, reduceIte, zD, zE, zF, zG, zH, zI, reduceCtorEq, zJ, zK, zL, zM, zN, zO, zP, e0]
      rw [seqK_normal]
      simp only [go_sem, zB, zC, reduceIte, zD, zE, zF, zG, zH, zI, reduceCtorEq, zJ, zK, zL, zM, zN, zO, zP]
      exact body _ _ (by simp)
    · have hal : acc.length ≠ 0 := fun h => h0 (List.eq_nil_of_length_eq_zero h)
      have z : ¬ (acc.length : Int) = 0 := by omega
      simp only [lb_word_Reader_Class_0, go_sem, zB, zC, reduceIte, zD, zE, zF, zG, zH, zI, reduceCtorEq, zJ, zK, zL, zM, zN, zO, zP, hS.lenI, z]
      refine k_Peek ho hR ?_
      by_cases hp : peekR its k = endc
      · have e1 : clGo its e endc (m + 1) acc k = .ok (acc, k) := by simp only [clGo, ne_eq, h0, not_false_eq_true, hp, and_self, if_true]
        simp only [go_sem, zA, zB, zC, reduceIte, zD, zE, zF, zG, zH, zI, reduceCtorEq, zJ, zK, zL, zM, zN, zO, zP, hp]
        exact hT acc k e1 ha hr H lv _ _ hf hn hR hS
      · simp only [go_sem, zB, zC, reduceIte, zD, zE, zF, zG, zH, zI, reduceCtorEq, zJ, zK, zL, zM, zN, zO, zP, hp]
        rw [seqK_normal]
        simp only [go_sem, zB, zC, reduceIte, zD, zE, zF, zG, zH, zI, reduceCtorEq, zJ, zK, zL, zM, zN, zO, zP]
        exact body _ _ (fun h => hp h.2)
end
/- What the reader's Class and word.Class come to. -/
set_option maxRecDepth 8000
theorem valN_bd {n : Nat} (h : n ≤ 1112065) : I32 (valN n : Int) := by
  unfold valN I32
  split <;> omega
theorem rngF_bd {l : List S} (h : ∀ x ∈ l, x.1 ≤ 1112065 ∧ x.2 ≤ 1112065) : ∀ r ∈ rngF l, I32 r.lo ∧ I32 r.hi := by
  intro r hr
  obtain ⟨x, hx, rfl⟩ := List.mem_map.1 hr
  have := h x hx
  exact ⟨valN_bd this.1, valN_bd (by omega)⟩
theorem normF_bd (l : List R) : (normF l).length ≤ l.length ∧ ∀ r ∈ normF l, I32 r.lo ∧ I32 r.hi := by
  obtain ⟨h1, h2⟩ := spansF_bd l
  exact ⟨by simpa [normF, rngF] using h1, rngF_bd h2⟩
theorem notF_len (l : List R) : (notF l).length ≤ l.length + 1 := by
  obtain ⟨s1, s2⟩ := spansF_bd l
  have hsa : apart 0 (spansF l) := (mF_spec (l := srtS (preL l)) (fun x hx => preL_ok x (srtS_mem.1 hx)) (srtS_sorted _)).1
  obtain ⟨b1, b2⟩ := gapsF_bd (k := 0) (by omega) hsa s2
  simp only [notF, rngF, List.length_map]
  omega
section
variable {o : CallF} (ho : OvOnly o)
include ho
theorem k_Class {b : Nat} {H : Heap} {its : List It} {e k : Nat} {endc : Int} {iv : AV} {ib : Nat} (hs : Sm its) (hl : its.length ≤ 49990) (hc : bigC its e endc k = false) (hR : RdrS b H its e k iv ib) {Q : End → Heap → Prop}
    (hF : ∀ a, classR its e endc k = .error a → ∀ H', Fr2 b b H.size H H' → Q (.pan [(faultA 3 a, false)]) H')
    (hT : ∀ l k2, classR its e endc k = .ok (l, k2) → ∀ H' v, Fr2 b b H.size H H' → RdrS b H' its e k2 iv ib → Sl H.size H' 2 (rcells l) l.length v → l.length ≤ 50010 → Q (.ret v) H') : wpf ⟨bt.get, o⟩ F_word_Reader_Class [.ptr b 0, .int .i32 endc] H Q := by
  rw [fn_word_Reader_Class (ho _ _ _ (by decide))]
  have hb : b < H.size := hR.lt
  have hi : 0 < its.length → ib < H.size := fun h => hR.rd.lt h
  -- behind the sign
  have rest : ∀ (neg : Bool) (k1 : Nat) (H1 : Heap) t, neg = decide (peekR its k = 94) → k1 = (if peekR its k = 94 then k + 1 else k) → Fr b .nils H H1 → RdrS b H1 its e k1 iv ib →
      wpc ⟨bt.get, o⟩ (seqR (seqR (seqR bd_word_Reader_Class))) { p := [(0, .ptr b 0), (1, .int .i32 endc), (4, .nils), (5, .nils), (6, .bool neg)], t := t, H := H1, d := [], u := .norm } (finK ⟨bt.get, o⟩ [.slot 4] Q) := by
    intro neg k1 H1 t hneg hk1 f1 R1
    have g1 : Fr2 b b H.size H H1 := ⟨f1.1, fun c h1 h2 _ => f1.2 c h1 h2 (fun _ _ _ e => by cases e)⟩
    simp only [bd_word_Reader_Class, seqR, go_sem, zA, zB, zC, reduceIte, zD, zE, zF, zG, zH, zI, reduceCtorEq, zJ, zK, zL, zM, zN, zO, zP]
    refine cl_loop ho hs hb hi (H0 := H) (its.length + 1) [] k1 .nils H1 (by omega) (Nat.zero_le _) (fun r hr => by cases hr) R1 f1.1 Sl.nil g1 (fun a ha σ f2 d2 => ?_) (fun l k2 ha hll hlr H2 lv x t f2 n2 R2 S2 => ?_)
    · simp only [go_sem, zA, zB, zC, reduceIte, zD, zE, zF, zG, zH, zI, reduceCtorEq, zJ, zK, zL, zM, zN, zO, zP, d2]
      exact hF a (by simp only [classR, ← hk1, ha]) _ f2
    · have hk2 := R2.le
      have hcl : l.length ≤ capN := by
        simp only [bigC, ← hk1, ha, decide_eq_false_iff_not] at hc
        omega
      have hcap := capN_le
      obtain ⟨rb, RL, _⟩ := S2.rd
      obtain ⟨nb1, nb2⟩ := normF_bd l
      simp only [go_sem, zA, zB, zC, reduceIte, zD, zE, zF, zG, zH, zI, reduceCtorEq, zJ, zK, zL, zM, zN, zO, zP]
      refine r_Norm ho (by omega) hlr RL fun H3 v3 x3 s3 => ?_
      have R3 := R2.fr x3
      have g3 : Fr2 b b H.size H H3 := f2.trans ⟨x3.1, fun c h1 _ _ => x3.2 c (by omega)⟩
      have fin : ∀ (s : List R) (H4 : Heap) (v4 : AV) t, s = (if peekR its k = 94 then notF (normF l) else normF l) → s.length ≤ 50010 → Fr2 b b H.size H H4 → RdrS b H4 its e k2 iv ib → Sl H.size H4 2 (rcells s) s.length v4 →
          wpc ⟨bt.get, o⟩ (seqR (seqR (seqR (seqR (seqR bd_word_Reader_Class))))) { p := [(0, .ptr b 0), (5, v4), (6, .bool neg), (46, .bool neg)], t := t, H := H4, d := [], u := .norm } (finK ⟨bt.get, o⟩ [.slot 4] Q) := by
        intro s H4 v4 t hsd hsl f4 R4 S4
        by_cases he : s = []
        · subst he
          have e0 : lenI v4 = some 0 := S4.lenI
          simp only [bd_word_Reader_Class, seqR, go_sem, zA, zB, zC, reduceIte, zD, zE, zF, zG, zH, zI, reduceCtorEq, zJ, zK, zL, zM, zN, zO, zP, e0]
          refine k_At ho R4 ?_
          simp only [go_sem, zA, zB, zC, reduceIte, zD, zE, zF, zG, zH, zI, reduceCtorEq, zJ, zK, zL, zM, zN, zO, zP]
          refine w_Fail ho ?_
          simp only [go_sem, zA, zB, zC, reduceIte, zD, zE, zF, zG, zH, zI, reduceCtorEq, zJ, zK, zL, zM, zN, zO, zP]
          exact hF _ (by simp only [classR, ← hk1, ha, ← hsd, if_true]) _ f4
        · have hz : ¬ (s.length : Int) = 0 := by
            intro h; apply he; exact List.eq_nil_of_length_eq_zero (by omega)
          simp only [bd_word_Reader_Class, seqR, go_sem, zA, zB, zC, reduceIte, zD, zE, zF, zG, zH, zI, reduceCtorEq, zJ, zK, zL, zM, zN, zO, zP, S4.lenI, hz]
          exact hT s k2 (by simp only [classR, ← hk1, ha, ← hsd, if_neg he]) _ _ f4 R4 S4 hsl
      cases neg
      · have hp : ¬ peekR its k = 94 := by simpa using hneg.symm
        simp only [go_sem, zB, zC, reduceIte, zD, zE, zF, zG, zH, zI, reduceCtorEq, zJ, zK, zL, zM, zN, zO, zP]
        rw [seqK_normal]
        simp only [go_sem, zB, zC, reduceIte, zD, zE, zF, zG, zH, zI, reduceCtorEq, zJ, zK, zL, zM, zN, zO, zP]
        rw [seqK_normal]
        simp only [go_sem, zB, zC, reduceIte, zD, zE, zF, zG, zH, zI, reduceCtorEq, zJ, zK, zL, zM, zN, zO, zP]
        exact fin (normF l) H3 v3 _ (by rw [if_neg hp]) (by omega) g3 R3 (s3.frame' n2)
      · have hp : peekR its k = 94 := by simpa using hneg.symm
        simp only [go_sem, zB, zC, reduceIte, zD, zE, zF, zG, zH, zI, reduceCtorEq, zJ, zK, zL, zM, zN, zO, zP]
        rw [seqK_normal]
        simp only [go_sem, zB, zC, reduceIte, zD, zE, zF, zG, zH, zI, reduceCtorEq, zJ, zK, zL, zM, zN, zO, zP]
        rw [seqK_normal]
        simp only [go_sem, zB, zC, reduceIte, zD, zE, zF, zG, zH, zI, reduceCtorEq, zJ, zK, zL, zM, zN, zO, zP]
        obtain ⟨rb2, RN, _⟩ := s3.rd
        refine r_Not ho (by omega) nb2 RN fun H4 v4 x4 s4 => ?_
        simp only [go_sem, zB, zC, reduceIte, zD, zE, zF, zG, zH, zI, reduceCtorEq, zJ, zK, zL, zM, zN, zO, zP]
        have hn3 := notF_len (normF l)
        have hsz3 : H.size ≤ H3.size := Nat.le_trans n2 x3.1
        exact fin (notF (normF l)) H4 v4 _ (by rw [if_pos hp]) (by omega) (g3.trans ⟨x4.1, fun c h1 _ _ => x4.2 c (by omega)⟩) (R3.fr x4) (s4.frame' hsz3)
  simp only [bd_word_Reader_Class, go_sem, zA, zB, zC, reduceIte, zD, zE, zF, zG, zH, zI, reduceCtorEq, zJ, zK, zL, zM, zN, zO, zP]
  refine k_Skip ho (by omega) hR (fun hp => ?_) (fun hp H1 f1 R1 => ?_)
  · simp only [go_sem, zB, zC, reduceIte, zD, zE, zF, zG, zH, zI, reduceCtorEq, zJ, zK, zL, zM, zN, zO, zP]
    exact rest false k H _ (by simp [hp]) (by rw [if_neg hp]) Fr.refl hR
  · simp only [go_sem, zB, zC, reduceIte, zD, zE, zF, zG, zH, zI, reduceCtorEq, zJ, zK, zL, zM, zN, zO, zP]
    exact rest true (k + 1) H1 _ (by simp [hp]) (by rw [if_pos hp]) f1 R1
omit ho in
theorem decR_le (l : List UInt8) : decR l ≤ 2097151 := by
  unfold decR
  split
  · rename_i a; have := a.toNat_lt; omega
  all_goals omega
omit ho in
theorem afterM_sm (held : List UInt8) (c : UInt8) (at_ : Nat) : ∀ x ∈ (afterM held c at_).2.2, x.rune ≤ 2097151 := by
  intro x hx
  unfold afterM at hx
  split at hx
  · simp at hx; rw [hx]; exact decR_le _
  · simp at hx
omit ho in
theorem feedD_sm : ∀ (r held : List UInt8) (at_ : Nat), ∀ x ∈ (feedD r held at_).2.2, x.rune ≤ 2097151
  | [], _, _, x, hx => by simp [feedD] at hx
  | c :: r, held, at_, x, hx => by
    simp only [feedD, List.mem_append] at hx
    rcases hx with hx | hx
    · have t0 : ∀ x ∈ (take0 c (at_ + held.length)).2.2, x.rune ≤ 2097151 := by
        intro x hx
        unfold take0 at hx
        split at hx
        · exact afterM_sm _ _ _ x hx
        · simp at hx; rw [hx]; simp
      unfold takeB at hx
      split at hx
      · exact afterM_sm _ _ _ x hx
      · split at hx
        · simp at hx; rw [hx]; simp
        · rcases List.mem_cons.1 hx with hx | hx
          · rw [hx]; simp
          · exact t0 x hx
    · exact feedD_sm r _ _ x hx
omit ho in
theorem decAll_sm (s : List UInt8) : Sm (decAll s) := by
  intro x hx
  rcases List.mem_append.1 hx with hx | hx
  · exact feedD_sm _ _ _ x hx
  · unfold closeD at hx
    split at hx
    · cases hx
    · simp at hx; rw [hx]; simp
end
/- Expressions from texts: plainly; how they lie in memory. -/
set_option maxRecDepth 8000
/-- An expression. -/
inductive Rx where
  | emp
  | set (l : List R)
  | seq (a b : Rx)
  | alt (a b : Rx)
  | star (a : Rx)
/-- Why there is none: a code, and where; `stuck`: nothing is said. -/
inductive PErr where
  | stuck
  | fail (c a : Nat)
def starsP (its : List It) : Nat → Rx → Nat → Rx × Nat
  | 0, p, k => (p, k)
  | m + 1, p, k => if peekR its k = 42 then starsP its m (.star p) (k + 1) else (p, k)
mutual
def altP (its : List It) (e : Nat) : Nat → Nat → Rx → Nat → Except PErr (Rx × Nat)
  | 0, _, _, _ => .error .stuck
  | n + 1, d, x, k => if peekR its k = 124 then (match rowP its e n d .emp false (k + 1) with
      | .error _ => .error .stuck
      | .ok (y, k1) => altP its e n d (.alt x y) k1) else .ok (x, k)
def rowP (its : List It) (e : Nat) : Nat → Nat → Rx → Bool → Nat → Except PErr (Rx × Nat)
  | 0, _, _, _, _ => .error .stuck
  | n + 1, d, x, sm, k => if peekR its k = -1 ∨ peekR its k = 124 ∨ peekR its k = 41 then .ok (x, k) else
      match atomP its e n d k with
      | .error q => .error q
      | .ok (p, k1) => rowP its e n d (if sm then .seq x (starsP its its.length p k1).1 else (starsP its its.length p k1).1) true (starsP its its.length p k1).2
def atomP (its : List It) (e : Nat) : Nat → Nat → Nat → Except PErr (Rx × Nat)
  | 0, _, _ => .error .stuck
  | n + 1, d, k =>
    if peekR its k = 40 then
      (if 40 < d + 1 then .error (.fail 7 (atR its e k)) else
      match rowP its e n (d + 1) .emp false (k + 1) with
      | .error q => .error q
      | .ok (x, k1) => match altP its e n (d + 1) x k1 with
        | .error q => .error q
        | .ok (y, k2) => if peekR its k2 = 41 then .ok (y, k2 + 1) else .error (.fail 3 (atR its e k2)))
    else if peekR its k = 91 then
      (if bigC its e 93 (k + 1) then .error .stuck else match classR its e 93 (k + 1) with
      | .error a => .error (.fail 3 a)
      | .ok (l, k2) => if peekR its k2 = 93 then .ok (.set l, k2 + 1) else .error (.fail 3 (atR its e k2)))
    else if peekR its k = 46 then .ok (.set (notF [⟨10, 10⟩]), k + 1)
    else match runeR its e false k with
      | .error a => .error (.fail 3 a)
      | .ok (c, k1) => .ok (.set [⟨c, c⟩], k1)
end
def allP (its : List It) (e n d k : Nat) : Except PErr (Rx × Nat) := match rowP its e n d .emp false k with
  | .error q => .error q
  | .ok (x, k1) => altP its e n d x k1
theorem atomP_br {its : List It} {e n d k : Nat} (h40 : peekR its k = 40) (hd : ¬ 40 < d + 1) : atomP its e (n + 1) d k = match allP its e n (d + 1) (k + 1) with
    | .error q => .error q
    | .ok (y, k2) => if peekR its k2 = 41 then .ok (y, k2 + 1) else .error (.fail 3 (atR its e k2)) := by
  rw [atomP, if_pos h40, if_neg hd, allP]
  cases rowP its e n (d + 1) .emp false (k + 1) <;> rfl
/-- How an expression lies in memory: its cells; each of its blocks is one of `P`. -/
def ReV (P : Nat → Prop) (H : Heap) : Rx → List AV → Prop
  | .emp, cs => cs = [.int .i64 1, .nils, .nils]
  | .set l, cs => ∃ v b, cs = [.int .i64 2, v, .nils] ∧ Rd H 2 (rcells l) l.length v b ∧ (0 < l.length → P b) ∧ l.length ≤ 1000000
  | .seq x y, cs => ∃ v b cx cy, cs = [.int .i64 3, .nils, v] ∧ Rd H 3 (cx ++ cy) 2 v b ∧ P b ∧ ReV P H x cx ∧ ReV P H y cy
  | .alt x y, cs => ∃ v b cx cy, cs = [.int .i64 4, .nils, v] ∧ Rd H 3 (cx ++ cy) 2 v b ∧ P b ∧ ReV P H x cx ∧ ReV P H y cy
  | .star x, cs => ∃ v b cx, cs = [.int .i64 5, .nils, v] ∧ Rd H 3 cx 1 v b ∧ P b ∧ ReV P H x cx
theorem ReV.keep {P Q : Nat → Prop} {H H' : Heap} (hk : ∀ b, P b → b < H.size → H'.get b = H.get b ∧ Q b) : ∀ {x : Rx} {cs}, ReV P H x cs → ReV Q H' x cs
  | .emp, cs, h => h
  | .set l, cs, ⟨v, b, h1, h2, h3, h4⟩ => ⟨v, b, h1, h2.keep fun hp => (hk b (h3 hp) (h2.lt hp)).1, fun hp => (hk b (h3 hp) (h2.lt hp)).2, h4⟩
  | .seq x y, cs, ⟨v, b, cx, cy, h1, h2, h3, h4, h5⟩ => ⟨v, b, cx, cy, h1, h2.keep fun hp => (hk b h3 (h2.lt hp)).1, (hk b h3 (h2.lt (by omega))).2, h4.keep hk, h5.keep hk⟩
  | .alt x y, cs, ⟨v, b, cx, cy, h1, h2, h3, h4, h5⟩ => ⟨v, b, cx, cy, h1, h2.keep fun hp => (hk b h3 (h2.lt hp)).1, (hk b h3 (h2.lt (by omega))).2, h4.keep hk, h5.keep hk⟩
  | .star x, cs, ⟨v, b, cx, h1, h2, h3, h4⟩ => ⟨v, b, cx, h1, h2.keep fun hp => (hk b h3 (h2.lt hp)).1, (hk b h3 (h2.lt (by omega))).2, h4.keep hk⟩
theorem ReV.imp {P Q : Nat → Prop} {H : Heap} {x : Rx} {cs} (h : ReV P H x cs) (hk : ∀ b, P b → b < H.size → Q b) : ReV Q H x cs := h.keep fun b h1 h2 => ⟨rfl, hk b h1 h2⟩
theorem Rd.one {H sz cs n v b} (h : Rd H sz cs n v b) : AV.cells v = [v] ∧ AV.one v = true := by
  by_cases hn : n = 0
  · rcases h.zero hn with rfl | ⟨b, c, rfl⟩ | ⟨b, rfl⟩ <;> exact ⟨rfl, rfl⟩
  · obtain ⟨_, _, h3⟩ := h.pos (by omega)
    rcases h3 with ⟨c, rfl⟩ | rfl <;> exact ⟨rfl, rfl⟩
/-- An expression's three cells. -/
theorem ReV.form {P H x cs} (h : ReV P H x cs) : ∃ k v w, cs = [.int .i64 k, v, w] ∧ (AV.cells v = [v] ∧ AV.one v = true) ∧ (AV.cells w = [w] ∧ AV.one w = true) := by
  cases x with
  | emp => exact ⟨1, .nils, .nils, h, ⟨rfl, rfl⟩, ⟨rfl, rfl⟩⟩
  | set l => obtain ⟨v, b, h1, h2, h3, h4⟩ := h; exact ⟨2, v, .nils, h1, h2.one, ⟨rfl, rfl⟩⟩
  | seq x y => obtain ⟨v, b, cx, cy, h1, h2, _⟩ := h; exact ⟨3, .nils, v, h1, ⟨rfl, rfl⟩, h2.one⟩
  | alt x y => obtain ⟨v, b, cx, cy, h1, h2, _⟩ := h; exact ⟨4, .nils, v, h1, ⟨rfl, rfl⟩, h2.one⟩
  | star x => obtain ⟨v, b, cx, h1, h2, _⟩ := h; exact ⟨5, .nils, v, h1, ⟨rfl, rfl⟩, h2.one⟩
def kindX : Rx → Int
  | .emp => 1
  | .set _ => 2
  | .seq _ _ => 3
  | .alt _ _ => 4
  | .star _ => 5
def setsX : Rx → List R
  | .set l => l
  | _ => []
def kidsX : Rx → List Rx
  | .seq a b => [a, b]
  | .alt a b => [a, b]
  | .star a => [a]
  | _ => []
/-- The same, part by part? -/
def sameX : Rx → Rx → Bool
  | .emp, .emp => true
  | .set l, .set m => decide (l = m)
  | .seq a b, .seq c d => sameX a c && sameX b d
  | .alt a b, .alt c d => sameX a c && sameX b d
  | .star a, .star c => sameX a c
  | _, _ => false
theorem sameX_iff : ∀ x y : Rx, sameX x y = true ↔ x = y
  | .emp, y => by cases y <;> simp [sameX]
  | .set l, y => by cases y <;> simp [sameX]
  | .seq a b, y => by cases y <;> simp [sameX, sameX_iff a, sameX_iff b]
  | .alt a b, y => by cases y <;> simp [sameX, sameX_iff a, sameX_iff b]
  | .star a, y => by cases y <;> simp [sameX, sameX_iff a]
theorem sameX_kids (x y : Rx) : sameX x y = (decide (kindX x = kindX y) && decide (setsX x = setsX y) && ((kidsX x).zip (kidsX y)).all fun p => sameX p.1 p.2) := by
  cases x <;> cases y <;> simp [sameX, kindX, setsX, kidsX] <;> exact decide_eq_decide.2 Iff.rfl
theorem kids_len {x y : Rx} (h : kindX x = kindX y) : (kidsX x).length = (kidsX y).length := by
  cases x <;> cases y <;> simp [kindX] at h <;> rfl
/-- An expression's cells: its kind, its set, its parts. -/
theorem ReV.split {P H x cs} (h : ReV P H x cs) : ∃ vs bs vl bl ck, cs = [.int .i64 (kindX x), vs, vl] ∧ Rd H 2 (rcells (setsX x)) (setsX x).length vs bs ∧ (setsX x).length ≤ 1000000 ∧ Rd H 3 ck (kidsX x).length vl bl ∧ (∀ (i : Nat) k, (kidsX x)[i]? = some k → ReV P H k (List.take 3 (List.drop (i * 3) ck)) ∧ i * 3 + 3 ≤ ck.length) := by
  have n3 : ∀ {k c}, ReV P H k c → c.length = 3 := fun h => by obtain ⟨k, v, w, e, _⟩ := h.form; rw [e]; rfl
  cases x with
  | emp => exact ⟨.nils, 0, .nils, 0, [], h, Rd.nil, by simp [setsX], Rd.nil, fun i k hk => by simp [kidsX] at hk⟩
  | set l => obtain ⟨v, b, h1, h2, h3, h4⟩ := h; exact ⟨v, b, .nils, 0, [], h1, h2, h4, Rd.nil, fun i k hk => by simp [kidsX] at hk⟩
  | seq x y =>
    obtain ⟨v, b, cx, cy, h1, h2, h3, h4, h5⟩ := h
    refine ⟨.nils, 0, v, b, cx ++ cy, h1, Rd.nil, by simp [setsX], h2, fun i k hk => ?_⟩
    have a1 := n3 h4
    have a2 := n3 h5
    match i, hk with
    | 0, hk => simp only [kidsX, List.getElem?_cons_zero, Option.some.injEq] at hk; subst hk; refine ⟨?_, by rw [List.length_append]; omega⟩; rw [Nat.zero_mul, List.drop_zero, List.take_append_of_le_length (by omega), List.take_of_length_le (by omega)]; exact h4
    | 1, hk => simp only [kidsX, List.getElem?_cons_succ, List.getElem?_cons_zero, Option.some.injEq] at hk; subst hk; refine ⟨?_, by rw [List.length_append]; omega⟩; rw [List.drop_left' (by omega), List.take_of_length_le (by omega)]; exact h5
    | i + 2, hk => simp [kidsX] at hk
  | alt x y =>
    obtain ⟨v, b, cx, cy, h1, h2, h3, h4, h5⟩ := h
    refine ⟨.nils, 0, v, b, cx ++ cy, h1, Rd.nil, by simp [setsX], h2, fun i k hk => ?_⟩
    have a1 := n3 h4
    have a2 := n3 h5
    match i, hk with
    | 0, hk => simp only [kidsX, List.getElem?_cons_zero, Option.some.injEq] at hk; subst hk; refine ⟨?_, by rw [List.length_append]; omega⟩; rw [Nat.zero_mul, List.drop_zero, List.take_append_of_le_length (by omega), List.take_of_length_le (by omega)]; exact h4
    | 1, hk => simp only [kidsX, List.getElem?_cons_succ, List.getElem?_cons_zero, Option.some.injEq] at hk; subst hk; refine ⟨?_, by rw [List.length_append]; omega⟩; rw [List.drop_left' (by omega), List.take_of_length_le (by omega)]; exact h5
    | i + 2, hk => simp [kidsX] at hk
  | star x =>
    obtain ⟨v, b, cx, h1, h2, h3, h4⟩ := h
    refine ⟨.nils, 0, v, b, cx, h1, Rd.nil, by simp [setsX], h2, fun i k hk => ?_⟩
    have a1 := n3 h4
    match i, hk with
    | 0, hk => simp only [kidsX, List.getElem?_cons_zero, Option.some.injEq] at hk; subst hk; refine ⟨?_, by omega⟩; rw [Nat.zero_mul, List.drop_zero, List.take_of_length_le (by omega)]; exact h4
    | i + 1, hk => simp [kidsX] at hk
/-- All below a bound stays but some blocks. -/
def FrX (xs : List Nat) (n : Nat) (H H' : Heap) : Prop := H.size ≤ H'.size ∧ ∀ c, c < n → c ∉ xs → H'.get c = H.get c
theorem FrX.refl {xs n H} : FrX xs n H H := ⟨Nat.le_refl _, fun _ _ _ => rfl⟩
theorem FrX.trans {xs n H H1 H2} (h : FrX xs n H H1) (k : FrX xs n H1 H2) : FrX xs n H H2 := ⟨Nat.le_trans h.1 k.1, fun c h1 h2 => by rw [k.2 c h1 h2, h.2 c h1 h2]⟩
theorem FrX.mono {xs ys n m H H'} (h : FrX xs n H H') (hm : m ≤ n) (hx : ∀ c, c ∉ ys → c < m → c ∉ xs) : FrX ys m H H' := ⟨h.1, fun c h1 h2 => h.2 c (by omega) (hx c h2 h1)⟩
theorem FrX.ofExt {xs n H H'} (h : Ext n H H') : FrX xs n H H' := ⟨h.1, fun c h1 _ => h.2 c h1⟩
theorem FrX.set {xs n H b x} (h : b ∈ xs ∨ n ≤ b) : FrX xs n H (H.set b x) := ⟨by rw [Heap.size_set]; exact Nat.le_refl _, fun c h1 h2 => Heap.get_set_ne (by
  rcases h with h | h
  · intro e; subst e; exact h2 h
  · omega)⟩
/-- A parser of expressions: its block, its reader's, where it stands, how deep. -/
structure PS (xb rb : Nat) (H : Heap) (its : List It) (e k d : Nat) (iv : AV) (ib : Nat) : Prop where
  get : H.get xb = .cells [.ptr rb 0, .int .i64 (d : Int)] .own
  rdr : RdrS rb H its e k iv ib
  ne : xb ≠ rb
  ni : 0 < its.length → ib ≠ xb
theorem PS.lt {xb rb H its e k d iv ib} (h : PS xb rb H its e k d iv ib) : xb < H.size := Heap.lt_of_get (by rw [h.get]; simp)
theorem PS.ilt {xb rb H its e k d iv ib} (h : PS xb rb H its e k d iv ib) (hp : 0 < its.length) : ib < H.size := h.rdr.rd.lt hp
/-- Behind what has changed none of its blocks. -/
theorem PS.keep {xb rb H H' its e k d iv ib} (h : PS xb rb H its e k d iv ib) {xs : List Nat} {n : Nat} (f : FrX xs n H H') (h1 : xb < n ∧ xb ∉ xs) (h2 : rb < n ∧ rb ∉ xs) (h3 : 0 < its.length → ib < n ∧ ib ∉ xs) : PS xb rb H' its e k d iv ib :=
  ⟨by rw [f.2 xb h1.1 h1.2, h.get], ⟨by rw [f.2 rb h2.1 h2.2, h.rdr.get], h.rdr.rd.keep fun hp => f.2 ib (h3 hp).1 (h3 hp).2, h.rdr.ne, h.rdr.le, h.rdr.sm⟩, h.ne, h.ni⟩
theorem PS.ext {xb rb H H' its e k d iv ib} (h : PS xb rb H its e k d iv ib) (x : Ext H.size H H') : PS xb rb H' its e k d iv ib :=
  h.keep (xs := []) (FrX.ofExt x) ⟨h.lt, by simp⟩ ⟨h.rdr.lt, by simp⟩ fun hp => ⟨h.ilt hp, by simp⟩
/-- The reader has gone on. -/
theorem PS.go {xb rb H H' its e k k' d iv ib} (h : PS xb rb H its e k d iv ib) (f : Fr rb .nils H H') (r : RdrS rb H' its e k' iv ib) : PS xb rb H' its e k' d iv ib :=
  ⟨f.get h.get (by simp) h.ne, r, h.ne, h.ni⟩
theorem Fr.frX {b H H' n} (f : Fr b .nils H H') (hn : n ≤ H.size) : FrX [b] n H H' := ⟨f.1, fun c h1 h2 => f.2 c (by omega) (by simpa using h2) (fun _ _ _ e => by cases e)⟩
theorem Fr2.frX {a b n H H'} (f : Fr2 a b n H H') : FrX [a, b] n H H' := ⟨f.1, fun c h1 h2 => f.2 c h1 (fun e => h2 (by simp [e])) (fun e => h2 (by simp [e]))⟩
end Go.Ev
