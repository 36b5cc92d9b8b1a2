/- For every input the law BuddyMany returns true and leaves each argument as it was. There is no condition. -/
import Derived.Test.YtoiiblajgkdabaaOpen
import Derived.Test.YtoiiblajgkdabaaOpenB
import Derived.Test.YtoiiblajgkdabaaLawBuddyMany
namespace Go.Proofs.Ytoiiblajgkdabaa
set_option linter.unusedSimpArgs false
set_option linter.unusedVariables false
set_option maxRecDepth 100000
open Go.ChangeShapes Go.WideShapes Go.ChangeAt Go.RowKit

theorem buddyMany_row : LawWalk 3 Try.f3 := by
  intro H enc W base vs ds ps hval hA hlt hfz hsz
  rw [Try.params3] at hval hA hsz
  obtain ⟨v0, vs0, d0, ds0, p0, q0, rfl, rfl, rfl, h0, r0⟩ := trodAll_cons hA
  obtain ⟨v1, vs1, d1, ds1, p1, q1, rfl, rfl, rfl, h1, r1⟩ := trodAll_cons r0
  obtain ⟨rfl, rfl, rfl⟩ := trodAll_nil r1
  obtain ⟨n, rfl, n0, n1⟩ := arg_int Try.underlying3 (hval 0 _ _ rfl rfl)
  obtain ⟨o, rfl, o0, o1⟩ := arg_int Try.underlying3 (hval 1 _ _ rfl rfl)
  exact many n o W

set_option maxRecDepth 100000 in
theorem buddyMany_lifted (os : Os) (started : os.Started) (H : Type) (enc : TypeId × Value → H) :
    ReturnsInHanded {} Try.checked os 3 .any (Rows.buddyManySpec.pre6 enc Try.prog Try.f3 Rows.buddyManyRow.domain false) (Rows.buddyManySpec.post enc Try.prog Try.f3 false true false false) :=
  law_lifted (s := Rows.buddyManySpec) Try.func3 (by kernel_rfl) (by kernel_rfl) (of_decide_eq_true (by kernel_rfl)) rfl (fun H ds h => by
      match ds, h with
      | [_, _], _ => rfl) buddyMany_row os started H enc
    (ChangeSpec.witness6 (enc := enc) (C := Try.checked) false ⟨#[], #[.int .i64 0, .int .i64 0], []⟩ 8 (by kernel_rfl) (by kernel_rfl) (by kernel_rfl) (by kernel_rfl))

set_option maxRecDepth 100000 in
theorem buddyMany_over : Rows.buddyManyRow.holds Try.pinned (OpenSpec.ofChange Rows.buddyManySpec) :=
  OpenClaim.holds_of_wide 3 Try.f3 rfl rfl rfl rfl rfl rfl rfl ⟨rfl, rfl, rfl, rfl, rfl⟩ rfl rfl rfl rfl rfl (by kernel_rfl) Try.func3 (by kernel_rfl)
    (of_decide_eq_true (by kernel_rfl)) (by unfold Func.isWrapper; first | (rw [if_pos (by decide +kernel)]; kernel_rfl) | (rw [if_neg (by decide +kernel)]; exact ⟨rfl, rfl⟩))
    (fun os started H enc _ => buddyMany_lifted os started H enc)

theorem buddyMany_holds : Rows.BuddyManySaid := buddyMany_over
#print axioms buddyMany_holds

end Go.Proofs.Ytoiiblajgkdabaa
