/- For every input the law CpuSums returns true and leaves each argument as it was. There is no condition. -/
import Derived.Test.YtfjfdhojhikgdaaOpen13
import Derived.Test.YtfjfdhojhikgdaaLawCpuSums
namespace Go.Proofs.Ytfjfdhojhikgdaa
set_option linter.unusedSimpArgs false
set_option linter.unusedVariables false
open Go.ChangeShapes Go.WideShapes Go.ChangeAt Go.RowKit

theorem cpuSums_row : LawWalk 7 Try.f7 := by
  intro H enc W base vs ds ps hval hA hlt hfz hsz
  rw [Try.params7] at hval hA hsz
  obtain ⟨v0, vs0, d0, ds0, p0, q0, rfl, rfl, rfl, h0, r0⟩ := trodAll_cons hA
  obtain ⟨rfl, rfl, rfl⟩ := trodAll_nil r0
  obtain ⟨n, rfl, n0, n1⟩ := arg_int Try.underlying3 (hval 0 _ _ rfl rfl)
  by_cases hl : 0 ≤ n ∧ n ≤ 300
  · exact cpuSums_walk n W hl.1 hl.2
  exact cpuSums_out n W (by omega)

set_option maxRecDepth 100000 in
theorem cpuSums_lifted (os : Os) (started : os.Started) (H : Type) (enc : TypeId × Value → H) :
    ReturnsInHanded {} Try.checked os 7 .any (Rows.cpuSumsSpec.pre6 enc Try.prog Try.f7 Rows.cpuSumsRow.domain false) (Rows.cpuSumsSpec.post enc Try.prog Try.f7 false true false false) :=
  law_lifted (s := Rows.cpuSumsSpec) Try.func7 (by kernel_rfl) (by kernel_rfl) (of_decide_eq_true (by kernel_rfl)) rfl (fun H ds h => by
      match ds, h with
      | [_], _ => rfl) cpuSums_row os started H enc
    (ChangeSpec.witness6 (enc := enc) (C := Try.checked) false ⟨#[], #[.int .i64 0], []⟩ 8 (by kernel_rfl) (by kernel_rfl) (by kernel_rfl) (by kernel_rfl))

set_option maxRecDepth 100000 in
theorem cpuSums_over : Rows.cpuSumsRow.holds Try.pinned (OpenSpec.ofChange Rows.cpuSumsSpec) :=
  OpenClaim.holds_of_wide 7 Try.f7 rfl rfl rfl rfl rfl rfl rfl ⟨rfl, rfl, rfl, rfl, rfl⟩ rfl rfl rfl rfl rfl (by kernel_rfl) Try.func7 (by kernel_rfl)
    (of_decide_eq_true (by kernel_rfl)) (by unfold Func.isWrapper; first | (rw [if_pos (by decide +kernel)]; kernel_rfl) | (rw [if_neg (by decide +kernel)]; exact ⟨rfl, rfl⟩))
    (fun os started H enc _ => cpuSums_lifted os started H enc)

theorem cpuSums_holds : Rows.CpuSumsSaid := cpuSums_over
#print axioms cpuSums_holds

end Go.Proofs.Ytfjfdhojhikgdaa
