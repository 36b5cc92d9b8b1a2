/- For every input the law WalkOwn returns true and leaves each argument as it was. There is no condition. -/
import Derived.Test.YtnodcmmifbcbiaaOpen07
import Derived.Test.YtnodcmmifbcbiaaLawWalkOwn
namespace Go.Proofs.Ytnodcmmifbcbiaa
set_option linter.unusedSimpArgs false
set_option linter.unusedVariables false
open Go.ChangeShapes Go.WideShapes Go.ChangeAt Go.RowKit

theorem walkOwn_row : LawWalk 9 Try.f9 := by
  intro H enc W base vs ds ps hval hA hlt hfz hsz
  rw [Try.params9] at hval hA hsz
  obtain ⟨v0, vs0, d0, ds0, p0, q0, rfl, rfl, rfl, h0, r0⟩ := trodAll_cons hA
  obtain ⟨v1, vs1, d1, ds1, p1, q1, rfl, rfl, rfl, h1, r1⟩ := trodAll_cons r0
  obtain ⟨rfl, rfl, rfl⟩ := trodAll_nil r1
  obtain ⟨a, len, cap, rfl⟩ := okWide_slice Try.underlying41 (hval 0 _ _ rfl rfl)
  obtain ⟨p, rfl, p0, p1⟩ := arg_int Try.underlying3 (hval 1 _ _ rfl rfl)
  obtain ⟨L, hL, hm, _⟩ := ops_open h0
  by_cases hl : len ≤ 60
  · exact walkOwn_walk a len cap L p W hL hl
  exact walkOwn_long a len cap p W (by omega) hm

set_option maxRecDepth 100000 in
theorem walkOwn_lifted (os : Os) (started : os.Started) (H : Type) (enc : TypeId × Value → H) :
    ReturnsInHanded {} Try.checked os 9 .any (Rows.walkOwnSpec.pre6 enc Try.prog Try.f9 Rows.walkOwnRow.domain false) (Rows.walkOwnSpec.post enc Try.prog Try.f9 false true false false) :=
  law_lifted (s := Rows.walkOwnSpec) Try.func9 (by kernel_rfl) (by kernel_rfl) (of_decide_eq_true (by kernel_rfl)) rfl (fun H ds h => by
      match ds, h with
      | [_, _], _ => rfl) walkOwn_row os started H enc
    (ChangeSpec.witness6 (enc := enc) (C := Try.checked) false ⟨#[], #[.slice none 0 0, .int .i64 0], []⟩ 8 (by kernel_rfl) (by kernel_rfl) (by kernel_rfl) (by kernel_rfl))

set_option maxRecDepth 100000 in
theorem walkOwn_over : Rows.walkOwnRow.holds Try.pinned (OpenSpec.ofChange Rows.walkOwnSpec) :=
  OpenClaim.holds_of_wide 9 Try.f9 rfl rfl rfl rfl rfl rfl rfl ⟨rfl, rfl, rfl, rfl, rfl⟩ rfl rfl rfl rfl rfl (by kernel_rfl) Try.func9 (by kernel_rfl)
    (of_decide_eq_true (by kernel_rfl)) (by unfold Func.isWrapper; first | (rw [if_pos (by decide +kernel)]; kernel_rfl) | (rw [if_neg (by decide +kernel)]; exact ⟨rfl, rfl⟩))
    (fun os started H enc _ => walkOwn_lifted os started H enc)

theorem walkOwn_holds : Rows.WalkOwnSaid := walkOwn_over
#print axioms walkOwn_holds

end Go.Proofs.Ytnodcmmifbcbiaa
