/- For every input the law EntrySplits returns true and leaves each argument as it was. There is no condition. -/
import Derived.Test.YtnodcmmifbcbiaaFrame
import Derived.Test.YtnodcmmifbcbiaaLaw06
namespace Go.Proofs.Ytnodcmmifbcbiaa
set_option linter.unusedSimpArgs false
set_option linter.unusedVariables false
open Go.ChangeShapes Go.WideShapes Go.ChangeAt Go.RowKit

theorem entrySplits_row : LawWalk 3 Try.f3 := by
  intro H enc W base vs ds ps hval hA hlt hfz hsz
  rw [Try.params3] at hval hA hsz
  obtain ⟨v0, vs0, d0, ds0, p0, q0, rfl, rfl, rfl, h0, r0⟩ := trodAll_cons hA
  obtain ⟨rfl, rfl, rfl⟩ := trodAll_nil r0
  obtain ⟨a, rfl, a0, a1⟩ := arg_int Try.underlying3 (hval 0 _ _ rfl rfl)
  exact entrySplits_walk a ⟨a0, a1⟩ W

set_option maxRecDepth 100000 in
theorem entrySplits_lifted (os : Os) (started : os.Started) (H : Type) (enc : TypeId × Value → H) :
    ReturnsInHanded {} Try.checked os 3 .any (Rows.entrySplitsSpec.pre6 enc Try.prog Try.f3 Rows.entrySplitsRow.domain false) (Rows.entrySplitsSpec.post enc Try.prog Try.f3 false true false false) :=
  law_lifted (s := Rows.entrySplitsSpec) Try.func3 (by kernel_rfl) (by kernel_rfl) (of_decide_eq_true (by kernel_rfl)) rfl (fun H ds h => by
      match ds, h with
      | [_], _ => rfl) entrySplits_row os started H enc
    (ChangeSpec.witness6 (enc := enc) (C := Try.checked) false ⟨#[], #[.int .i64 0], []⟩ 8 (by kernel_rfl) (by kernel_rfl) (by kernel_rfl) (by kernel_rfl))

set_option maxRecDepth 100000 in
theorem entrySplits_over : Rows.entrySplitsRow.holds Try.pinned (OpenSpec.ofChange Rows.entrySplitsSpec) :=
  OpenClaim.holds_of_wide 3 Try.f3 rfl rfl rfl rfl rfl rfl rfl ⟨rfl, rfl, rfl, rfl, rfl⟩ rfl rfl rfl rfl rfl (by kernel_rfl) Try.func3 (by kernel_rfl)
    (of_decide_eq_true (by kernel_rfl)) (by unfold Func.isWrapper; first | (rw [if_pos (by decide +kernel)]; kernel_rfl) | (rw [if_neg (by decide +kernel)]; exact ⟨rfl, rfl⟩))
    (fun os started H enc _ => entrySplits_lifted os started H enc)

theorem entrySplits_holds : Rows.EntrySplitsSaid := entrySplits_over
#print axioms entrySplits_holds

end Go.Proofs.Ytnodcmmifbcbiaa
