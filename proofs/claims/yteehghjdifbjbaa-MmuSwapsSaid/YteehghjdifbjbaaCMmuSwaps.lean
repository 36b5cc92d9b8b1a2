/- For every input the law MmuSwaps returns true and leaves each argument as it was. There is no condition. -/
import Derived.Test.YteehghjdifbjbaaQ18
import Derived.Test.YteehghjdifbjbaaQ19
namespace Go.Proofs.Yteehghjdifbjbaa
set_option linter.unusedSimpArgs false
set_option linter.unusedVariables false
set_option maxRecDepth 100000
open Go.ChangeShapes Go.WideShapes Go.ChangeAt Go.RowKit

theorem mmuSwaps_row : LawWalk 4 Try.f4 := by
  intro H enc W base vs ds ps hval hA hlt hfz hsz
  rw [Try.params4] at hval hA hsz
  obtain ⟨v0, vs0, d0, ds0, p0, q0, rfl, rfl, rfl, h0, r0⟩ := trodAll_cons hA
  obtain ⟨v1, vs1, d1, ds1, p1, q1, rfl, rfl, rfl, h1, r1⟩ := trodAll_cons r0
  obtain ⟨rfl, rfl, rfl⟩ := trodAll_nil r1
  obtain ⟨a, len, cap, rfl⟩ := okWide_slice Try.underlying22 (hval 0 _ _ rfl rfl)
  obtain ⟨sh, rfl⟩ := arg_bool Try.underlying4 (hval 1 _ _ rfl rfl)
  obtain ⟨L, hL, hm, hok⟩ := ops11_open h0
  exact swaps11_walk a len cap L sh W hL hm hok

set_option maxRecDepth 100000 in
theorem mmuSwaps_lifted (os : Os) (started : os.Started) (H : Type) (enc : TypeId × Value → H) :
    ReturnsInHanded {} Try.checked os 4 .any (Rows.mmuSwapsSpec.pre6 enc Try.prog Try.f4 Rows.mmuSwapsRow.domain false) (Rows.mmuSwapsSpec.post enc Try.prog Try.f4 false true false false) :=
  law_lifted (s := Rows.mmuSwapsSpec) Try.func4 (by kernel_rfl) (by kernel_rfl) (of_decide_eq_true (by kernel_rfl)) rfl (fun H ds h => by
      match ds, h with
      | [_, _], _ => rfl) mmuSwaps_row os started H enc
    (ChangeSpec.witness6 (enc := enc) (C := Try.checked) false ⟨#[], #[.slice none 0 0, .bool false], []⟩ 8 (by kernel_rfl) (by kernel_rfl) (by kernel_rfl) (by kernel_rfl))

set_option maxRecDepth 100000 in
theorem mmuSwaps_over : Rows.mmuSwapsRow.holds Try.pinned (OpenSpec.ofChange Rows.mmuSwapsSpec) :=
  OpenClaim.holds_of_wide 4 Try.f4 rfl rfl rfl rfl rfl rfl rfl ⟨rfl, rfl, rfl, rfl, rfl⟩ rfl rfl rfl rfl rfl (by kernel_rfl) Try.func4 (by kernel_rfl)
    (of_decide_eq_true (by kernel_rfl)) (by unfold Func.isWrapper; first | (rw [if_pos (by decide +kernel)]; kernel_rfl) | (rw [if_neg (by decide +kernel)]; exact ⟨rfl, rfl⟩))
    (fun os started H enc _ => mmuSwaps_lifted os started H enc)

theorem mmuSwaps_holds : Rows.MmuSwapsSaid := mmuSwaps_over
#print axioms mmuSwaps_holds

end Go.Proofs.Yteehghjdifbjbaa
