/- For every input the law WiresAnew returns true and leaves each argument as it was. There is no condition. -/
import Derived.Test.YtffacjbnjcolgaaOpen19
import Derived.Test.YtffacjbnjcolgaaLawWiresAnew
namespace Go.Proofs.Ytffacjbnjcolgaa
set_option linter.unusedSimpArgs false
set_option linter.unusedVariables false
set_option maxRecDepth 100000
open Go.ChangeShapes Go.WideShapes Go.ChangeAt Go.RowKit

theorem wiresAnew_row : LawWalk 4 Try.f4 := by
  intro H enc W base vs ds ps hval hA hlt hfz hsz
  rw [Try.params4] at hval hA hsz
  obtain ⟨v0, vs0, d0, ds0, p0, q0, rfl, rfl, rfl, h0, r0⟩ := trodAll_cons hA
  obtain ⟨v1, vs1, d1, ds1, p1, q1, rfl, rfl, rfl, h1, r1⟩ := trodAll_cons r0
  obtain ⟨rfl, rfl, rfl⟩ := trodAll_nil r1
  obtain ⟨a, len, cap, rfl⟩ := okWide_slice Try.underlying35 (hval 0 _ _ rfl rfl)
  obtain ⟨part, rfl, part0, part1⟩ := arg_int Try.underlying3 (hval 1 _ _ rfl rfl)
  obtain ⟨L, hL, hm⟩ := ops19_open h0
  exact anew_walk a len cap L part W hL hm

set_option maxRecDepth 100000 in
theorem wiresAnew_lifted (os : Os) (started : os.Started) (H : Type) (enc : TypeId × Value → H) :
    ReturnsInHanded {} Try.checked os 4 .any (Rows.wiresAnewSpec.pre6 enc Try.prog Try.f4 Rows.wiresAnewRow.domain false) (Rows.wiresAnewSpec.post enc Try.prog Try.f4 false true false false) :=
  law_lifted (s := Rows.wiresAnewSpec) Try.func4 (by kernel_rfl) (by kernel_rfl) (of_decide_eq_true (by kernel_rfl)) rfl (fun H ds h => by
      match ds, h with
      | [_, _], _ => rfl) wiresAnew_row os started H enc
    (ChangeSpec.witness6 (enc := enc) (C := Try.checked) false ⟨#[], #[.slice none 0 0, .int .i64 0], []⟩ 8 (by kernel_rfl) (by kernel_rfl) (by kernel_rfl) (by kernel_rfl))

set_option maxRecDepth 100000 in
theorem wiresAnew_over : Rows.wiresAnewRow.holds Try.pinned (OpenSpec.ofChange Rows.wiresAnewSpec) :=
  OpenClaim.holds_of_wide 4 Try.f4 rfl rfl rfl rfl rfl rfl rfl ⟨rfl, rfl, rfl, rfl, rfl⟩ rfl rfl rfl rfl rfl (by kernel_rfl) Try.func4 (by kernel_rfl)
    (of_decide_eq_true (by kernel_rfl)) (by unfold Func.isWrapper; first | (rw [if_pos (by decide +kernel)]; kernel_rfl) | (rw [if_neg (by decide +kernel)]; exact ⟨rfl, rfl⟩))
    (fun os started H enc _ => wiresAnew_lifted os started H enc)

theorem wiresAnew_holds : Rows.WiresAnewSaid := wiresAnew_over
#print axioms wiresAnew_holds

end Go.Proofs.Ytffacjbnjcolgaa
