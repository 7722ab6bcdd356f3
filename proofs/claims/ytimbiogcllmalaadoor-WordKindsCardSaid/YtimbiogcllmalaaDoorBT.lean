/- Tables of functions. -/
import Derived.Test.YtimbiogcllmalaaDoorEvX
namespace Go.Ev
open Go

inductive BT where
  | nil
  | one (k : Nat) (c : CFunc)
  | two (k : Nat) (l r : BT)

def BT.get : BT → Nat → Option CFunc
  | .nil, _ => none
  | .one k c, f => cond (f == k) (some c) none
  | .two k l r, f => cond (Nat.blt f k) (l.get f) (r.get f)

def BT.All (Q : Nat → CFunc → Prop) : BT → Prop
  | .nil => True
  | .one k c => Q k c
  | .two _ l r => l.All Q ∧ r.All Q

theorem BT.get_all {Q : Nat → CFunc → Prop} : ∀ (t : BT), t.All Q → ∀ f c, t.get f = some c → Q f c
  | .nil, _, f, c, h => by simp [BT.get] at h
  | .one k c0, hQ, f, c, h => by
    simp only [BT.get] at h
    cases hk : f == k with
    | true => rw [hk] at h; simp only [cond_true, Option.some.injEq] at h; subst h; rw [beq_iff_eq.1 hk]; exact hQ
    | false => rw [hk] at h; cases h
  | .two k l r, hQ, f, c, h => by
    simp only [BT.get] at h
    cases hk : Nat.blt f k with
    | true => rw [hk] at h; exact l.get_all hQ.1 f c h
    | false => rw [hk] at h; exact r.get_all hQ.2 f c h

theorem BT.table {P : Program} (t : BT) (h : t.All fun f cf => ∃ fn, P.funcs[f]? = some fn ∧ chkFn P chkDrawn fn cf = true) : Table P chkDrawn t.get :=
  fun f cf hf => t.get_all h f cf hf
end Go.Ev
