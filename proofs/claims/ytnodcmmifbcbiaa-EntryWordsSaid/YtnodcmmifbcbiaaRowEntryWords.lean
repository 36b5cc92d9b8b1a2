/- For every input the law EntryWords returns true and leaves each argument as it was. There is no condition. -/
import Derived.Test.YtnodcmmifbcbiaaFrame
import Derived.Test.YtnodcmmifbcbiaaLaw06
namespace Go.Proofs.Ytnodcmmifbcbiaa
set_option linter.unusedSimpArgs false
set_option linter.unusedVariables false
open Go.ChangeShapes Go.WideShapes Go.ChangeAt Go.RowKit

theorem entryWords_row : LawWalk 6 Try.f6 := by
  intro H enc W base vs ds ps hval hA hlt hfz hsz
  rw [Try.params6] at hval hA hsz
  obtain ⟨v0, vs0, d0, ds0, p0, q0, rfl, rfl, rfl, h0, r0⟩ := trodAll_cons hA
  obtain ⟨v1, vs1, d1, ds1, p1, q1, rfl, rfl, rfl, h1, r1⟩ := trodAll_cons r0
  obtain ⟨rfl, rfl, rfl⟩ := trodAll_nil r1
  obtain ⟨l0_0, rfl, ok0_0⟩ := flat_open (ts := [4, 4, 4, 3]) (by kernel_rfl) (by kernel_rfl) (by kernel_rfl) (hval 0 _ _ rfl rfl)
  obtain ⟨_, l0_1, rfl, o0_0, ok0_1⟩ := okAll_cons ok0_0
  obtain ⟨v, rfl⟩ := cell_bool Try.underlying4 o0_0
  obtain ⟨_, l0_2, rfl, o0_1, ok0_2⟩ := okAll_cons ok0_1
  obtain ⟨wr, rfl⟩ := cell_bool Try.underlying4 o0_1
  obtain ⟨_, l0_3, rfl, o0_2, ok0_3⟩ := okAll_cons ok0_2
  obtain ⟨tb, rfl⟩ := cell_bool Try.underlying4 o0_2
  obtain ⟨_, l0_4, rfl, o0_3, ok0_4⟩ := okAll_cons ok0_3
  obtain ⟨fr, rfl, fr0, fr1⟩ := cell_int Try.underlying3 o0_3
  obtain rfl := okAll_nil ok0_4
  obtain ⟨x, rfl, x0, x1⟩ := arg_int Try.underlying35 (hval 1 _ _ rfl rfl)
  have x1' : x ≤ 18446744073709551615 := x1
  exact entryWords_walk v wr tb fr x x0 (by omega) W

set_option maxRecDepth 100000 in
theorem entryWords_lifted (os : Os) (started : os.Started) (H : Type) (enc : TypeId × Value → H) :
    ReturnsInHanded {} Try.checked os 6 .any (Rows.entryWordsSpec.pre6 enc Try.prog Try.f6 Rows.entryWordsRow.domain false) (Rows.entryWordsSpec.post enc Try.prog Try.f6 false true false false) :=
  law_lifted (s := Rows.entryWordsSpec) Try.func6 (by kernel_rfl) (by kernel_rfl) (of_decide_eq_true (by kernel_rfl)) rfl (fun H ds h => by
      match ds, h with
      | [_, _], _ => rfl) entryWords_row os started H enc
    (ChangeSpec.witness6 (enc := enc) (C := Try.checked) false ⟨#[], #[.agg #[.bool false, .bool false, .bool false, .int .i64 0], .int .u64 0], []⟩ 8 (by kernel_rfl) (by kernel_rfl) (by kernel_rfl) (by kernel_rfl))

set_option maxRecDepth 100000 in
theorem entryWords_over : Rows.entryWordsRow.holds Try.pinned (OpenSpec.ofChange Rows.entryWordsSpec) :=
  OpenClaim.holds_of_wide 6 Try.f6 rfl rfl rfl rfl rfl rfl rfl ⟨rfl, rfl, rfl, rfl, rfl⟩ rfl rfl rfl rfl rfl (by kernel_rfl) Try.func6 (by kernel_rfl)
    (of_decide_eq_true (by kernel_rfl)) (by unfold Func.isWrapper; first | (rw [if_pos (by decide +kernel)]; kernel_rfl) | (rw [if_neg (by decide +kernel)]; exact ⟨rfl, rfl⟩))
    (fun os started H enc _ => entryWords_lifted os started H enc)

theorem entryWords_holds : Rows.EntryWordsSaid := entryWords_over
#print axioms entryWords_holds

end Go.Proofs.Ytnodcmmifbcbiaa
