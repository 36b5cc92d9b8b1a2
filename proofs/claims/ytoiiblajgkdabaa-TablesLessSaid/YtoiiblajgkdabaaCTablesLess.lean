/- For every input the law TablesLess returns true and leaves each argument as it was. There is no condition. -/
import Derived.Test.YtoiiblajgkdabaaP1
import Derived.Test.YtoiiblajgkdabaaP14
namespace Go.Proofs.Ytoiiblajgkdabaa
set_option linter.unusedSimpArgs false
set_option linter.unusedVariables false
set_option maxRecDepth 100000
open Go.ChangeShapes Go.WideShapes Go.ChangeAt Go.RowKit

theorem tablesLess_row : LawWalk 10 Try.f10 := by
  intro H enc W base vs ds ps hval hA hlt hfz hsz
  rw [Try.params10] at hval hA hsz
  obtain ⟨v0, vs0, d0, ds0, p0, q0, rfl, rfl, rfl, h0, r0⟩ := trodAll_cons hA
  obtain ⟨rfl, rfl, rfl⟩ := trodAll_nil r0
  obtain ⟨a0, len0, cap0, rfl⟩ := okWide_slice Try.underlying67 (hval 0 _ _ rfl rfl)
  obtain ⟨L, hL, hm, hb⟩ := opsT_open h0
  exact less08 a0 len0 cap0 L W hL hm

set_option maxRecDepth 100000 in
theorem tablesLess_lifted (os : Os) (started : os.Started) (H : Type) (enc : TypeId × Value → H) :
    ReturnsInHanded {} Try.checked os 10 .any (Rows.tablesLessSpec.pre6 enc Try.prog Try.f10 Rows.tablesLessRow.domain false) (Rows.tablesLessSpec.post enc Try.prog Try.f10 false true false false) :=
  law_lifted (s := Rows.tablesLessSpec) Try.func10 (by kernel_rfl) (by kernel_rfl) (of_decide_eq_true (by kernel_rfl)) rfl (fun H ds h => by
      match ds, h with
      | [_], _ => rfl) tablesLess_row os started H enc
    (ChangeSpec.witness6 (enc := enc) (C := Try.checked) false ⟨#[], #[.slice none 0 0], []⟩ 8 (by kernel_rfl) (by kernel_rfl) (by kernel_rfl) (by kernel_rfl))

set_option maxRecDepth 100000 in
theorem tablesLess_over : Rows.tablesLessRow.holds Try.pinned (OpenSpec.ofChange Rows.tablesLessSpec) :=
  OpenClaim.holds_of_wide 10 Try.f10 rfl rfl rfl rfl rfl rfl rfl ⟨rfl, rfl, rfl, rfl, rfl⟩ rfl rfl rfl rfl rfl (by kernel_rfl) Try.func10 (by kernel_rfl)
    (of_decide_eq_true (by kernel_rfl)) (by unfold Func.isWrapper; first | (rw [if_pos (by decide +kernel)]; kernel_rfl) | (rw [if_neg (by decide +kernel)]; exact ⟨rfl, rfl⟩))
    (fun os started H enc _ => tablesLess_lifted os started H enc)

theorem tablesLess_holds : Rows.TablesLessSaid := tablesLess_over
#print axioms tablesLess_holds

end Go.Proofs.Ytoiiblajgkdabaa
