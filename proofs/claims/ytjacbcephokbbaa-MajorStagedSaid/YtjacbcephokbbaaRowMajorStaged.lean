/- For every input the law MajorStaged returns true and leaves each argument as it was. There is no condition. -/
import Derived.Test.YtjacbcephokbbaaOpen16
import Derived.Test.YtjacbcephokbbaaLawMajorStaged
namespace Go.Proofs.Ytjacbcephokbbaa
set_option linter.unusedSimpArgs false
set_option linter.unusedVariables false
set_option maxRecDepth 100000
open Go.ChangeShapes Go.WideShapes Go.ChangeAt Go.RowKit

theorem majorStaged_row : LawWalk 4 Try.f4 := by
  intro H enc W base vs ds ps hval hA hlt hfz hsz
  rw [Try.params4] at hval hA hsz
  obtain ⟨v0, vs0, d0, ds0, p0, q0, rfl, rfl, rfl, h0, r0⟩ := trodAll_cons hA
  obtain ⟨v1, vs1, d1, ds1, p1, q1, rfl, rfl, rfl, h1, r1⟩ := trodAll_cons r0
  obtain ⟨v2, vs2, d2, ds2, p2, q2, rfl, rfl, rfl, h2, r2⟩ := trodAll_cons r1
  obtain ⟨rfl, rfl, rfl⟩ := trodAll_nil r2
  obtain ⟨a0, len0, cap0, rfl⟩ := okWide_slice Try.underlying22 (hval 0 _ _ rfl rfl)
  obtain ⟨LA, rfl, hL0, hm0⟩ := slotsT_open h0
  obtain ⟨a1, len1, cap1, rfl⟩ := okWide_slice Try.underlying22 (hval 1 _ _ rfl rfl)
  obtain ⟨LB, rfl, hL1, hm1⟩ := slotsT_open h1
  obtain ⟨x, rfl, x0, x1⟩ := arg_int Try.underlying3 (hval 2 _ _ rfl rfl)
  exact staged16_walk x a0 a1 cap0 cap1 LA LB W hL0 hL1 hm0 hm1

set_option maxRecDepth 100000 in
theorem majorStaged_lifted (os : Os) (started : os.Started) (H : Type) (enc : TypeId × Value → H) :
    ReturnsInHanded {} Try.checked os 4 .any (Rows.majorStagedSpec.pre6 enc Try.prog Try.f4 Rows.majorStagedRow.domain false) (Rows.majorStagedSpec.post enc Try.prog Try.f4 false true false false) :=
  law_lifted (s := Rows.majorStagedSpec) Try.func4 (by kernel_rfl) (by kernel_rfl) (of_decide_eq_true (by kernel_rfl)) rfl (fun H ds h => by
      match ds, h with
      | [_, _, _], _ => rfl) majorStaged_row os started H enc
    (ChangeSpec.witness6 (enc := enc) (C := Try.checked) false ⟨#[], #[.slice none 0 0, .slice none 0 0, .int .i64 0], []⟩ 8 (by kernel_rfl) (by kernel_rfl) (by kernel_rfl) (by kernel_rfl))

set_option maxRecDepth 100000 in
theorem majorStaged_over : Rows.majorStagedRow.holds Try.pinned (OpenSpec.ofChange Rows.majorStagedSpec) :=
  OpenClaim.holds_of_wide 4 Try.f4 rfl rfl rfl rfl rfl rfl rfl ⟨rfl, rfl, rfl, rfl, rfl⟩ rfl rfl rfl rfl rfl (by kernel_rfl) Try.func4 (by kernel_rfl)
    (of_decide_eq_true (by kernel_rfl)) (by unfold Func.isWrapper; first | (rw [if_pos (by decide +kernel)]; kernel_rfl) | (rw [if_neg (by decide +kernel)]; exact ⟨rfl, rfl⟩))
    (fun os started H enc _ => majorStaged_lifted os started H enc)

theorem majorStaged_holds : Rows.MajorStagedSaid := majorStaged_over
#print axioms majorStaged_holds

end Go.Proofs.Ytjacbcephokbbaa
