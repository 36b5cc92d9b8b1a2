/- For every input the law MmuSpaces returns true and leaves each argument as it was. There is no condition. -/
import Derived.Test.YteehghjdifbjbaaQ18
namespace Go.Proofs.Yteehghjdifbjbaa
set_option linter.unusedSimpArgs false
set_option linter.unusedVariables false
set_option maxRecDepth 100000
open Go.ChangeShapes Go.WideShapes Go.ChangeAt Go.RowKit

theorem mmuSpaces_row : LawWalk 6 Try.f6 := by
  intro H enc W base vs ds ps hval hA hlt hfz hsz
  rw [Try.params6] at hval hA hsz
  obtain ⟨v0, vs0, d0, ds0, p0, q0, rfl, rfl, rfl, h0, r0⟩ := trodAll_cons hA
  obtain ⟨rfl, rfl, rfl⟩ := trodAll_nil r0
  obtain ⟨a, len, cap, rfl⟩ := okWide_slice Try.underlying22 (hval 0 _ _ rfl rfl)
  obtain ⟨L, hL, hm, hok⟩ := ops11_open h0
  exact spaces11_walk a len cap L W hL hm hok

set_option maxRecDepth 100000 in
theorem mmuSpaces_lifted (os : Os) (started : os.Started) (H : Type) (enc : TypeId × Value → H) :
    ReturnsInHanded {} Try.checked os 6 .any (Rows.mmuSpacesSpec.pre6 enc Try.prog Try.f6 Rows.mmuSpacesRow.domain false) (Rows.mmuSpacesSpec.post enc Try.prog Try.f6 false true false false) :=
  law_lifted (s := Rows.mmuSpacesSpec) Try.func6 (by kernel_rfl) (by kernel_rfl) (of_decide_eq_true (by kernel_rfl)) rfl (fun H ds h => by
      match ds, h with
      | [_], _ => rfl) mmuSpaces_row os started H enc
    (ChangeSpec.witness6 (enc := enc) (C := Try.checked) false ⟨#[], #[.slice none 0 0], []⟩ 8 (by kernel_rfl) (by kernel_rfl) (by kernel_rfl) (by kernel_rfl))

set_option maxRecDepth 100000 in
theorem mmuSpaces_over : Rows.mmuSpacesRow.holds Try.pinned (OpenSpec.ofChange Rows.mmuSpacesSpec) :=
  OpenClaim.holds_of_wide 6 Try.f6 rfl rfl rfl rfl rfl rfl rfl ⟨rfl, rfl, rfl, rfl, rfl⟩ rfl rfl rfl rfl rfl (by kernel_rfl) Try.func6 (by kernel_rfl)
    (of_decide_eq_true (by kernel_rfl)) (by unfold Func.isWrapper; first | (rw [if_pos (by decide +kernel)]; kernel_rfl) | (rw [if_neg (by decide +kernel)]; exact ⟨rfl, rfl⟩))
    (fun os started H enc _ => mmuSpaces_lifted os started H enc)

theorem mmuSpaces_holds : Rows.MmuSpacesSaid := mmuSpaces_over
#print axioms mmuSpaces_holds

end Go.Proofs.Yteehghjdifbjbaa
