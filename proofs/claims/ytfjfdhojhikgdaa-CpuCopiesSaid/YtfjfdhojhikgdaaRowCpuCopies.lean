/- For every input the law CpuCopies returns true and leaves each argument as it was. There is no condition. -/
import Derived.Test.YtfjfdhojhikgdaaOpen13
import Derived.Test.YtfjfdhojhikgdaaLawCpuCopies
namespace Go.Proofs.Ytfjfdhojhikgdaa
set_option linter.unusedSimpArgs false
set_option linter.unusedVariables false
open Go.ChangeShapes Go.WideShapes Go.ChangeAt Go.RowKit

theorem cpuCopies_row : LawWalk 9 Try.f9 := by
  intro H enc W base vs ds ps hval hA hlt hfz hsz
  rw [Try.params9] at hval hA hsz
  obtain ⟨v0, vs0, d0, ds0, p0, q0, rfl, rfl, rfl, h0, r0⟩ := trodAll_cons hA
  obtain ⟨rfl, rfl, rfl⟩ := trodAll_nil r0
  obtain ⟨a, n, cap, rfl⟩ := okWide_slice Try.underlying26 (hval 0 _ _ rfl rfl)
  obtain ⟨fu, hf⟩ := h0
  obtain ⟨hm, hnil, V, hV, ha⟩ := words_open hf
  by_cases hl : 1 ≤ n ∧ n ≤ 30
  · exact cpuCopies_walk a n cap V W ha hV hl.1 hl.2
  exact cpuCopies_out a n cap W hm (by omega)

set_option maxRecDepth 100000 in
theorem cpuCopies_lifted (os : Os) (started : os.Started) (H : Type) (enc : TypeId × Value → H) :
    ReturnsInHanded {} Try.checked os 9 .any (Rows.cpuCopiesSpec.pre6 enc Try.prog Try.f9 Rows.cpuCopiesRow.domain false) (Rows.cpuCopiesSpec.post enc Try.prog Try.f9 false true false false) :=
  law_lifted (s := Rows.cpuCopiesSpec) Try.func9 (by kernel_rfl) (by kernel_rfl) (of_decide_eq_true (by kernel_rfl)) rfl (fun H ds h => by
      match ds, h with
      | [_], _ => rfl) cpuCopies_row os started H enc
    (ChangeSpec.witness6 (enc := enc) (C := Try.checked) false ⟨#[], #[.slice none 0 0], []⟩ 8 (by kernel_rfl) (by kernel_rfl) (by kernel_rfl) (by kernel_rfl))

set_option maxRecDepth 100000 in
theorem cpuCopies_over : Rows.cpuCopiesRow.holds Try.pinned (OpenSpec.ofChange Rows.cpuCopiesSpec) :=
  OpenClaim.holds_of_wide 9 Try.f9 rfl rfl rfl rfl rfl rfl rfl ⟨rfl, rfl, rfl, rfl, rfl⟩ rfl rfl rfl rfl rfl (by kernel_rfl) Try.func9 (by kernel_rfl)
    (of_decide_eq_true (by kernel_rfl)) (by unfold Func.isWrapper; first | (rw [if_pos (by decide +kernel)]; kernel_rfl) | (rw [if_neg (by decide +kernel)]; exact ⟨rfl, rfl⟩))
    (fun os started H enc _ => cpuCopies_lifted os started H enc)

theorem cpuCopies_holds : Rows.CpuCopiesSaid := cpuCopies_over
#print axioms cpuCopies_holds

end Go.Proofs.Ytfjfdhojhikgdaa
