/- For every input the law EntryPages returns true and leaves each argument as it was. There is no condition. -/
import Derived.Test.YtnodcmmifbcbiaaFrame
import Derived.Test.YtnodcmmifbcbiaaLaw06
namespace Go.Proofs.Ytnodcmmifbcbiaa
set_option linter.unusedSimpArgs false
set_option linter.unusedVariables false
open Go.ChangeShapes Go.WideShapes Go.ChangeAt Go.RowKit

theorem entryPages_row : LawWalk 4 Try.f4 := by
  intro H enc W base vs ds ps hval hA hlt hfz hsz
  rw [Try.params4] at hval hA hsz
  obtain ⟨v0, vs0, d0, ds0, p0, q0, rfl, rfl, rfl, h0, r0⟩ := trodAll_cons hA
  obtain ⟨v1, vs1, d1, ds1, p1, q1, rfl, rfl, rfl, h1, r1⟩ := trodAll_cons r0
  obtain ⟨v2, vs2, d2, ds2, p2, q2, rfl, rfl, rfl, h2, r2⟩ := trodAll_cons r1
  obtain ⟨rfl, rfl, rfl⟩ := trodAll_nil r2
  obtain ⟨p, rfl, p0, p1⟩ := arg_int Try.underlying3 (hval 0 _ _ rfl rfl)
  obtain ⟨l, rfl, l0, l1⟩ := arg_int Try.underlying3 (hval 1 _ _ rfl rfl)
  obtain ⟨l2_0, rfl, ok2_0⟩ := flat_open (ts := [3, 3, 3]) (by kernel_rfl) (by kernel_rfl) (by kernel_rfl) (hval 2 _ _ rfl rfl)
  obtain ⟨_, l2_1, rfl, o2_0, ok2_1⟩ := okAll_cons ok2_0
  obtain ⟨a, rfl, a0, a1⟩ := cell_int Try.underlying3 o2_0
  obtain ⟨_, l2_2, rfl, o2_1, ok2_2⟩ := okAll_cons ok2_1
  obtain ⟨b, rfl, b0, b1⟩ := cell_int Try.underlying3 o2_1
  obtain ⟨_, l2_3, rfl, o2_2, ok2_3⟩ := okAll_cons ok2_2
  obtain ⟨c, rfl, c0, c1⟩ := cell_int Try.underlying3 o2_2
  obtain rfl := okAll_nil ok2_3
  exact entryPages_walk p l a b c ⟨p0, p1⟩ ⟨l0, l1⟩ ⟨a0, a1⟩ ⟨b0, b1⟩ ⟨c0, c1⟩ W

set_option maxRecDepth 100000 in
theorem entryPages_lifted (os : Os) (started : os.Started) (H : Type) (enc : TypeId × Value → H) :
    ReturnsInHanded {} Try.checked os 4 .any (Rows.entryPagesSpec.pre6 enc Try.prog Try.f4 Rows.entryPagesRow.domain false) (Rows.entryPagesSpec.post enc Try.prog Try.f4 false true false false) :=
  law_lifted (s := Rows.entryPagesSpec) Try.func4 (by kernel_rfl) (by kernel_rfl) (of_decide_eq_true (by kernel_rfl)) rfl (fun H ds h => by
      match ds, h with
      | [_, _, _], _ => rfl) entryPages_row os started H enc
    (ChangeSpec.witness6 (enc := enc) (C := Try.checked) false ⟨#[], #[.int .i64 0, .int .i64 0, .agg #[.int .i64 0, .int .i64 0, .int .i64 0]], []⟩ 8 (by kernel_rfl) (by kernel_rfl) (by kernel_rfl) (by kernel_rfl))

set_option maxRecDepth 100000 in
theorem entryPages_over : Rows.entryPagesRow.holds Try.pinned (OpenSpec.ofChange Rows.entryPagesSpec) :=
  OpenClaim.holds_of_wide 4 Try.f4 rfl rfl rfl rfl rfl rfl rfl ⟨rfl, rfl, rfl, rfl, rfl⟩ rfl rfl rfl rfl rfl (by kernel_rfl) Try.func4 (by kernel_rfl)
    (of_decide_eq_true (by kernel_rfl)) (by unfold Func.isWrapper; first | (rw [if_pos (by decide +kernel)]; kernel_rfl) | (rw [if_neg (by decide +kernel)]; exact ⟨rfl, rfl⟩))
    (fun os started H enc _ => entryPages_lifted os started H enc)

theorem entryPages_holds : Rows.EntryPagesSaid := entryPages_over
#print axioms entryPages_holds

end Go.Proofs.Ytnodcmmifbcbiaa
