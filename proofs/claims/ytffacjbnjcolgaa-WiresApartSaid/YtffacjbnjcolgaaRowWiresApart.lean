/- For every input the law WiresApart returns true and leaves each argument as it was. There is no condition. -/
import Derived.Test.YtffacjbnjcolgaaOpen19
import Derived.Test.YtffacjbnjcolgaaLawWiresApart
namespace Go.Proofs.Ytffacjbnjcolgaa
set_option linter.unusedSimpArgs false
set_option linter.unusedVariables false
set_option maxRecDepth 100000
open Go.ChangeShapes Go.WideShapes Go.ChangeAt Go.RowKit

theorem wiresApart_row : LawWalk 5 Try.f5 := by
  intro H enc W base vs ds ps hval hA hlt hfz hsz
  rw [Try.params5] at hval hA hsz
  obtain ⟨v0, vs0, d0, ds0, p0, q0, rfl, rfl, rfl, h0, r0⟩ := trodAll_cons hA
  obtain ⟨v1, vs1, d1, ds1, p1, q1, rfl, rfl, rfl, h1, r1⟩ := trodAll_cons r0
  obtain ⟨v2, vs2, d2, ds2, p2, q2, rfl, rfl, rfl, h2, r2⟩ := trodAll_cons r1
  obtain ⟨rfl, rfl, rfl⟩ := trodAll_nil r2
  obtain ⟨a, len, cap, rfl⟩ := okWide_slice Try.underlying35 (hval 0 _ _ rfl rfl)
  obtain ⟨id, rfl, id0, id1⟩ := arg_int Try.underlying3 (hval 1 _ _ rfl rfl)
  obtain ⟨a2, len2, cap2, rfl⟩ := okWide_slice Try.underlying31 (hval 2 _ _ rfl rfl)
  obtain ⟨L, hL, hm⟩ := ops19_open h0
  obtain ⟨L2, hL2⟩ := words19_open h2
  exact apart_walk a len cap L id _ L2 W hL hm hL2

set_option maxRecDepth 100000 in
theorem wiresApart_lifted (os : Os) (started : os.Started) (H : Type) (enc : TypeId × Value → H) :
    ReturnsInHanded {} Try.checked os 5 .any (Rows.wiresApartSpec.pre6 enc Try.prog Try.f5 Rows.wiresApartRow.domain false) (Rows.wiresApartSpec.post enc Try.prog Try.f5 false true false false) :=
  law_lifted (s := Rows.wiresApartSpec) Try.func5 (by kernel_rfl) (by kernel_rfl) (of_decide_eq_true (by kernel_rfl)) rfl (fun H ds h => by
      match ds, h with
      | [_, _, _], _ => rfl) wiresApart_row os started H enc
    (ChangeSpec.witness6 (enc := enc) (C := Try.checked) false ⟨#[], #[.slice none 0 0, .int .i64 0, .slice none 0 0], []⟩ 8 (by kernel_rfl) (by kernel_rfl) (by kernel_rfl) (by kernel_rfl))

set_option maxRecDepth 100000 in
theorem wiresApart_over : Rows.wiresApartRow.holds Try.pinned (OpenSpec.ofChange Rows.wiresApartSpec) :=
  OpenClaim.holds_of_wide 5 Try.f5 rfl rfl rfl rfl rfl rfl rfl ⟨rfl, rfl, rfl, rfl, rfl⟩ rfl rfl rfl rfl rfl (by kernel_rfl) Try.func5 (by kernel_rfl)
    (of_decide_eq_true (by kernel_rfl)) (by unfold Func.isWrapper; first | (rw [if_pos (by decide +kernel)]; kernel_rfl) | (rw [if_neg (by decide +kernel)]; exact ⟨rfl, rfl⟩))
    (fun os started H enc _ => wiresApart_lifted os started H enc)

theorem wiresApart_holds : Rows.WiresApartSaid := wiresApart_over
#print axioms wiresApart_holds

end Go.Proofs.Ytffacjbnjcolgaa
