/- For every input the law MmuPlays returns true and leaves each argument as it was. There is no condition. -/
import Derived.Test.YteehghjdifbjbaaOpen11
namespace Go.Proofs.Yteehghjdifbjbaa
set_option linter.unusedSimpArgs false
set_option linter.unusedVariables false
set_option maxRecDepth 100000
open Go.ChangeShapes Go.WideShapes Go.ChangeAt Go.RowKit

theorem mmuPlays_row : LawWalk 3 Try.f3 := by
  intro H enc W base vs ds ps hval hA hlt hfz hsz
  rw [Try.params3] at hval hA hsz
  obtain ⟨v0, vs0, d0, ds0, p0, q0, rfl, rfl, rfl, h0, r0⟩ := trodAll_cons hA
  obtain ⟨rfl, rfl, rfl⟩ := trodAll_nil r0
  obtain ⟨a, len, cap, rfl⟩ := okWide_slice Try.underlying22 (hval 0 _ _ rfl rfl)
  obtain ⟨L, hL, hm, hok⟩ := ops11_open h0
  exact plays11_walk a len cap L W hL hm hok

set_option maxRecDepth 100000 in
theorem mmuPlays_lifted (os : Os) (started : os.Started) (H : Type) (enc : TypeId × Value → H) :
    ReturnsInHanded {} Try.checked os 3 .any (Rows.mmuPlaysSpec.pre6 enc Try.prog Try.f3 Rows.mmuPlaysRow.domain false) (Rows.mmuPlaysSpec.post enc Try.prog Try.f3 false true false false) :=
  law_lifted (s := Rows.mmuPlaysSpec) Try.func3 (by kernel_rfl) (by kernel_rfl) (of_decide_eq_true (by kernel_rfl)) rfl (fun H ds h => by
      match ds, h with
      | [_], _ => rfl) mmuPlays_row os started H enc
    (ChangeSpec.witness6 (enc := enc) (C := Try.checked) false ⟨#[], #[.slice none 0 0], []⟩ 8 (by kernel_rfl) (by kernel_rfl) (by kernel_rfl) (by kernel_rfl))

set_option maxRecDepth 100000 in
theorem mmuPlays_over : Rows.mmuPlaysRow.holds Try.pinned (OpenSpec.ofChange Rows.mmuPlaysSpec) :=
  OpenClaim.holds_of_wide 3 Try.f3 rfl rfl rfl rfl rfl rfl rfl ⟨rfl, rfl, rfl, rfl, rfl⟩ rfl rfl rfl rfl rfl (by kernel_rfl) Try.func3 (by kernel_rfl)
    (of_decide_eq_true (by kernel_rfl)) (by unfold Func.isWrapper; first | (rw [if_pos (by decide +kernel)]; kernel_rfl) | (rw [if_neg (by decide +kernel)]; exact ⟨rfl, rfl⟩))
    (fun os started H enc _ => mmuPlays_lifted os started H enc)

theorem mmuPlays_holds : Rows.MmuPlaysSaid := mmuPlays_over
#print axioms mmuPlays_holds

end Go.Proofs.Yteehghjdifbjbaa
