/- For every input the law TablesWalks returns true and leaves each argument as it was. There is no condition. -/
import Derived.Test.YtoiiblajgkdabaaP1
import Derived.Test.YtoiiblajgkdabaaP14
import Derived.Test.YtoiiblajgkdabaaP15
namespace Go.Proofs.Ytoiiblajgkdabaa
set_option linter.unusedSimpArgs false
set_option linter.unusedVariables false
set_option maxRecDepth 100000
open Go.ChangeShapes Go.WideShapes Go.ChangeAt Go.RowKit

theorem tablesWalks_row : LawWalk 11 Try.f11 := by
  intro H enc W base vs ds ps hval hA hlt hfz hsz
  rw [Try.params11] at hval hA hsz
  obtain ⟨v0, vs0, d0, ds0, p0, q0, rfl, rfl, rfl, h0, r0⟩ := trodAll_cons hA
  obtain ⟨v1, vs1, d1, ds1, p1, q1, rfl, rfl, rfl, h1, r1⟩ := trodAll_cons r0
  obtain ⟨rfl, rfl, rfl⟩ := trodAll_nil r1
  obtain ⟨n, rfl, n0, n1⟩ := arg_int Try.underlying3 (hval 0 _ _ rfl rfl)
  obtain ⟨a1, len1, cap1, rfl⟩ := okWide_slice Try.underlying67 (hval 1 _ _ rfl rfl)
  obtain ⟨L, hL, hm, hb⟩ := opsT_open h1
  exact walks08 n a1 len1 cap1 L W hL hm

set_option maxRecDepth 100000 in
theorem tablesWalks_lifted (os : Os) (started : os.Started) (H : Type) (enc : TypeId × Value → H) :
    ReturnsInHanded {} Try.checked os 11 .any (Rows.tablesWalksSpec.pre6 enc Try.prog Try.f11 Rows.tablesWalksRow.domain false) (Rows.tablesWalksSpec.post enc Try.prog Try.f11 false true false false) :=
  law_lifted (s := Rows.tablesWalksSpec) Try.func11 (by kernel_rfl) (by kernel_rfl) (of_decide_eq_true (by kernel_rfl)) rfl (fun H ds h => by
      match ds, h with
      | [_, _], _ => rfl) tablesWalks_row os started H enc
    (ChangeSpec.witness6 (enc := enc) (C := Try.checked) false ⟨#[], #[.int .i64 0, .slice none 0 0], []⟩ 8 (by kernel_rfl) (by kernel_rfl) (by kernel_rfl) (by kernel_rfl))

set_option maxRecDepth 100000 in
theorem tablesWalks_over : Rows.tablesWalksRow.holds Try.pinned (OpenSpec.ofChange Rows.tablesWalksSpec) :=
  OpenClaim.holds_of_wide 11 Try.f11 rfl rfl rfl rfl rfl rfl rfl ⟨rfl, rfl, rfl, rfl, rfl⟩ rfl rfl rfl rfl rfl (by kernel_rfl) Try.func11 (by kernel_rfl)
    (of_decide_eq_true (by kernel_rfl)) (by unfold Func.isWrapper; first | (rw [if_pos (by decide +kernel)]; kernel_rfl) | (rw [if_neg (by decide +kernel)]; exact ⟨rfl, rfl⟩))
    (fun os started H enc _ => tablesWalks_lifted os started H enc)

theorem tablesWalks_holds : Rows.TablesWalksSaid := tablesWalks_over
#print axioms tablesWalks_holds

end Go.Proofs.Ytoiiblajgkdabaa
