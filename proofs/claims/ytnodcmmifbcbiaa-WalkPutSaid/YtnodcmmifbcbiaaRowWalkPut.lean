/- For every input the law WalkPut returns true and leaves each argument as it was. There is no condition. -/
import Derived.Test.YtnodcmmifbcbiaaFrame
import Derived.Test.YtnodcmmifbcbiaaLawWalkPut
namespace Go.Proofs.Ytnodcmmifbcbiaa
set_option linter.unusedSimpArgs false
set_option linter.unusedVariables false
open Go.ChangeShapes Go.WideShapes Go.ChangeAt Go.RowKit

theorem walkPut_row : LawWalk 10 Try.f10 := by
  intro H enc W base vs ds ps hval hA hlt hfz hsz
  rw [Try.params10] at hval hA hsz
  obtain ⟨v0, vs0, d0, ds0, p0, q0, rfl, rfl, rfl, h0, r0⟩ := trodAll_cons hA
  obtain ⟨v1, vs1, d1, ds1, p1, q1, rfl, rfl, rfl, h1, r1⟩ := trodAll_cons r0
  obtain ⟨v2, vs2, d2, ds2, p2, q2, rfl, rfl, rfl, h2, r2⟩ := trodAll_cons r1
  obtain ⟨rfl, rfl, rfl⟩ := trodAll_nil r2
  obtain ⟨l0_0, rfl, ok0_0⟩ := flat_open (ts := [3, 3, 4, 4, 4, 3, 4, 35]) (by kernel_rfl) (by kernel_rfl) (by kernel_rfl) (hval 0 _ _ rfl rfl)
  obtain ⟨_, l0_1, rfl, o0_0, ok0_1⟩ := okAll_cons ok0_0
  obtain ⟨f, rfl, f0, f1⟩ := cell_int Try.underlying3 o0_0
  obtain ⟨_, l0_2, rfl, o0_1, ok0_2⟩ := okAll_cons ok0_1
  obtain ⟨pl, rfl, pl0, pl1⟩ := cell_int Try.underlying3 o0_1
  obtain ⟨_, l0_3, rfl, o0_2, ok0_3⟩ := okAll_cons ok0_2
  obtain ⟨v, rfl⟩ := cell_bool Try.underlying4 o0_2
  obtain ⟨_, l0_4, rfl, o0_3, ok0_4⟩ := okAll_cons ok0_3
  obtain ⟨wr, rfl⟩ := cell_bool Try.underlying4 o0_3
  obtain ⟨_, l0_5, rfl, o0_4, ok0_5⟩ := okAll_cons ok0_4
  obtain ⟨tb, rfl⟩ := cell_bool Try.underlying4 o0_4
  obtain ⟨_, l0_6, rfl, o0_5, ok0_6⟩ := okAll_cons ok0_5
  obtain ⟨fr, rfl, fr0, fr1⟩ := cell_int Try.underlying3 o0_5
  obtain ⟨_, l0_7, rfl, o0_6, ok0_7⟩ := okAll_cons ok0_6
  obtain ⟨raw, rfl⟩ := cell_bool Try.underlying4 o0_6
  obtain ⟨_, l0_8, rfl, o0_7, ok0_8⟩ := okAll_cons ok0_7
  obtain ⟨x, rfl, x0, x1⟩ := cell_int Try.underlying35 o0_7
  obtain rfl := okAll_nil ok0_8
  obtain ⟨g, rfl, g0, g1⟩ := arg_int Try.underlying3 (hval 1 _ _ rfl rfl)
  obtain ⟨q, rfl, q0, q1⟩ := arg_int Try.underlying3 (hval 2 _ _ rfl rfl)
  exact walkPut_walk f pl v wr tb fr raw x g q W

set_option maxRecDepth 100000 in
theorem walkPut_lifted (os : Os) (started : os.Started) (H : Type) (enc : TypeId × Value → H) :
    ReturnsInHanded {} Try.checked os 10 .any (Rows.walkPutSpec.pre6 enc Try.prog Try.f10 Rows.walkPutRow.domain false) (Rows.walkPutSpec.post enc Try.prog Try.f10 false true false false) :=
  law_lifted (s := Rows.walkPutSpec) Try.func10 (by kernel_rfl) (by kernel_rfl) (of_decide_eq_true (by kernel_rfl)) rfl (fun H ds h => by
      match ds, h with
      | [_, _, _], _ => rfl) walkPut_row os started H enc
    (ChangeSpec.witness6 (enc := enc) (C := Try.checked) false ⟨#[], #[.agg #[.int .i64 0, .int .i64 0, .bool false, .bool false, .bool false, .int .i64 0, .bool false, .int .u64 0], .int .i64 0, .int .i64 0], []⟩ 8 (by kernel_rfl) (by kernel_rfl) (by kernel_rfl) (by kernel_rfl))

set_option maxRecDepth 100000 in
theorem walkPut_over : Rows.walkPutRow.holds Try.pinned (OpenSpec.ofChange Rows.walkPutSpec) :=
  OpenClaim.holds_of_wide 10 Try.f10 rfl rfl rfl rfl rfl rfl rfl ⟨rfl, rfl, rfl, rfl, rfl⟩ rfl rfl rfl rfl rfl (by kernel_rfl) Try.func10 (by kernel_rfl)
    (of_decide_eq_true (by kernel_rfl)) (by unfold Func.isWrapper; first | (rw [if_pos (by decide +kernel)]; kernel_rfl) | (rw [if_neg (by decide +kernel)]; exact ⟨rfl, rfl⟩))
    (fun os started H enc _ => walkPut_lifted os started H enc)

theorem walkPut_holds : Rows.WalkPutSaid := walkPut_over
#print axioms walkPut_holds

end Go.Proofs.Ytnodcmmifbcbiaa
