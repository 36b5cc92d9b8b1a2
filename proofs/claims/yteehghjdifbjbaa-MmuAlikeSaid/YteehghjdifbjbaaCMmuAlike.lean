/- For every input the law MmuAlike returns true and leaves each argument as it was. There is no condition. -/
import Derived.Test.YteehghjdifbjbaaQ1
import Derived.Test.YteehghjdifbjbaaQ17
namespace Go.Proofs.Yteehghjdifbjbaa
set_option linter.unusedSimpArgs false
set_option linter.unusedVariables false
set_option maxRecDepth 100000
open Go.ChangeShapes Go.WideShapes Go.ChangeAt Go.RowKit

theorem mmuAlike_row : LawWalk 5 Try.f5 := by
  intro H enc W base vs ds ps hval hA hlt hfz hsz
  rw [Try.params5] at hval hA hsz
  obtain ⟨v0, vs0, d0, ds0, p0, q0, rfl, rfl, rfl, h0, r0⟩ := trodAll_cons hA
  obtain ⟨v1, vs1, d1, ds1, p1, q1, rfl, rfl, rfl, h1, r1⟩ := trodAll_cons r0
  obtain ⟨v2, vs2, d2, ds2, p2, q2, rfl, rfl, rfl, h2, r2⟩ := trodAll_cons r1
  obtain ⟨rfl, rfl, rfl⟩ := trodAll_nil r2
  obtain ⟨l0_0, rfl, ok0_0⟩ := flat_open (ts := [3, 3, 3]) (by kernel_rfl) (by kernel_rfl) (by kernel_rfl) (hval 0 _ _ rfl rfl)
  obtain ⟨_, l0_1, rfl, o0_0, ok0_1⟩ := okAll_cons ok0_0
  obtain ⟨x, rfl, x0, x1⟩ := cell_int Try.underlying3 o0_0
  obtain ⟨_, l0_2, rfl, o0_1, ok0_2⟩ := okAll_cons ok0_1
  obtain ⟨y, rfl, y0, y1⟩ := cell_int Try.underlying3 o0_1
  obtain ⟨_, l0_3, rfl, o0_2, ok0_3⟩ := okAll_cons ok0_2
  obtain ⟨z, rfl, z0, z1⟩ := cell_int Try.underlying3 o0_2
  obtain rfl := okAll_nil ok0_3
  obtain ⟨l1_0, rfl, ok1_0⟩ := flat_open (ts := [3, 3]) (by kernel_rfl) (by kernel_rfl) (by kernel_rfl) (hval 1 _ _ rfl rfl)
  obtain ⟨_, l1_1, rfl, o1_0, ok1_1⟩ := okAll_cons ok1_0
  obtain ⟨f, rfl, f0, f1⟩ := cell_int Try.underlying3 o1_0
  obtain ⟨_, l1_2, rfl, o1_1, ok1_2⟩ := okAll_cons ok1_1
  obtain ⟨k, rfl, k0, k1⟩ := cell_int Try.underlying3 o1_1
  obtain rfl := okAll_nil ok1_2
  obtain ⟨n, rfl, n0, n1⟩ := arg_int Try.underlying49 (hval 2 _ _ rfl rfl)
  have n1' : n ≤ 18446744073709551615 := n1
  exact alike11_walk x y z f k n W n0 (by omega)

set_option maxRecDepth 100000 in
theorem mmuAlike_lifted (os : Os) (started : os.Started) (H : Type) (enc : TypeId × Value → H) :
    ReturnsInHanded {} Try.checked os 5 .any (Rows.mmuAlikeSpec.pre6 enc Try.prog Try.f5 Rows.mmuAlikeRow.domain false) (Rows.mmuAlikeSpec.post enc Try.prog Try.f5 false true false false) :=
  law_lifted (s := Rows.mmuAlikeSpec) Try.func5 (by kernel_rfl) (by kernel_rfl) (of_decide_eq_true (by kernel_rfl)) rfl (fun H ds h => by
      match ds, h with
      | [_, _, _], _ => rfl) mmuAlike_row os started H enc
    (ChangeSpec.witness6 (enc := enc) (C := Try.checked) false ⟨#[], #[.agg #[.int .i64 0, .int .i64 0, .int .i64 0], .agg #[.int .i64 0, .int .i64 0], .int .u64 0], []⟩ 8 (by kernel_rfl) (by kernel_rfl) (by kernel_rfl) (by kernel_rfl))

set_option maxRecDepth 100000 in
theorem mmuAlike_over : Rows.mmuAlikeRow.holds Try.pinned (OpenSpec.ofChange Rows.mmuAlikeSpec) :=
  OpenClaim.holds_of_wide 5 Try.f5 rfl rfl rfl rfl rfl rfl rfl ⟨rfl, rfl, rfl, rfl, rfl⟩ rfl rfl rfl rfl rfl (by kernel_rfl) Try.func5 (by kernel_rfl)
    (of_decide_eq_true (by kernel_rfl)) (by unfold Func.isWrapper; first | (rw [if_pos (by decide +kernel)]; kernel_rfl) | (rw [if_neg (by decide +kernel)]; exact ⟨rfl, rfl⟩))
    (fun os started H enc _ => mmuAlike_lifted os started H enc)

theorem mmuAlike_holds : Rows.MmuAlikeSaid := mmuAlike_over
#print axioms mmuAlike_holds

end Go.Proofs.Yteehghjdifbjbaa
