/- Worlds in parts: no part, and many parts. -/
import Derived.Test.YtffacjbnjcolgaaSep2
namespace Go.Proofs.Ytffacjbnjcolgaa
set_option linter.unusedSimpArgs false
set_option linter.unusedVariables false
set_option maxRecDepth 100000
open Go.RowKit

theorem star_emp (P : HP) : P * emp = P := HP.ext fun x => by
  constructor
  · rintro ⟨a, b, _, rfl, hp, hb, _⟩
    have hn : b = fun _ => none := by
      funext k
      cases e : b k with
      | none => rfl
      | some o => exact absurd ((hb k).2 (by rw [e]; simp)) id
    have : a.both b = a := by
      funext k
      unfold PH.both
      rw [hn]
      cases a k <;> rfl
    rw [this]; exact hp
  · intro hp
    refine ⟨x, fun _ => none, fun _ => Or.inr rfl, ?_, hp, fun k => by simp, fun _ _ => trivial⟩
    funext k
    unfold PH.both
    cases x k <;> rfl
theorem emp_star (P : HP) : emp * P = P := (star_comm _ _).trans (star_emp P)
def starL : List HP → HP
  | [] => emp
  | P :: l => P * starL l
theorem starL_pick : ∀ (l : List HP) (i : Nat) (h : i < l.length), starL l = l[i] * starL (l.eraseIdx i)
  | [], i, h => absurd h (by simp)
  | P :: l, 0, _ => rfl
  | P :: l, i + 1, h => by
    have hl : i < l.length := by simpa using h
    have := starL_pick l i hl
    show P * starL l = l[i] * (P * starL (l.eraseIdx i))
    rw [this]; ac_rfl
theorem starL_set : ∀ (l : List HP) (i : Nat) (Q : HP) (h : i < l.length), starL (l.set i Q) = Q * starL (l.eraseIdx i)
  | [], i, _, h => absurd h (by simp)
  | P :: l, 0, Q, _ => rfl
  | P :: l, i + 1, Q, h => by
    have := starL_set l i Q (by simpa using h)
    show P * starL (l.set i Q) = Q * (P * starL (l.eraseIdx i))
    rw [this]; ac_rfl
theorem starL_snoc : ∀ (l : List HP) (Q : HP), starL (l ++ [Q]) = Q * starL l
  | [], Q => rfl
  | P :: l, Q => by
    show P * starL (l ++ [Q]) = Q * (P * starL l)
    rw [starL_snoc l Q]; ac_rfl
theorem sat_emp {g w : World} {P : HP} (h : Sat g w P) : Sat g w (P * emp) := h.perm (star_emp P).symm

end Go.Proofs.Ytffacjbnjcolgaa
