/- For every input the law MajorWindows returns true and leaves each argument as it was. There is no condition. -/
import Derived.Test.YtjacbcephokbbaaOpen16
import Derived.Test.YtjacbcephokbbaaLawMajorWindows
namespace Go.Proofs.Ytjacbcephokbbaa
set_option linter.unusedSimpArgs false
set_option linter.unusedVariables false
set_option maxRecDepth 100000
open Go.ChangeShapes Go.WideShapes Go.ChangeAt Go.RowKit

theorem majorWindows_row : LawWalk 3 Try.f3 := by
  intro H enc W base vs ds ps hval hA hlt hfz hsz
  rw [Try.params3] at hval hA hsz
  obtain ⟨v0, vs0, d0, ds0, p0, q0, rfl, rfl, rfl, h0, r0⟩ := trodAll_cons hA
  obtain ⟨v1, vs1, d1, ds1, p1, q1, rfl, rfl, rfl, h1, r1⟩ := trodAll_cons r0
  obtain ⟨v2, vs2, d2, ds2, p2, q2, rfl, rfl, rfl, h2, r2⟩ := trodAll_cons r1
  obtain ⟨rfl, rfl, rfl⟩ := trodAll_nil r2
  obtain ⟨n, rfl, n0, n1⟩ := arg_int Try.underlying3 (hval 0 _ _ rfl rfl)
  obtain ⟨a1, len1, cap1, rfl⟩ := okWide_slice Try.underlying22 (hval 1 _ _ rfl rfl)
  obtain ⟨L, rfl, hL1, hm1⟩ := slotsT_open h1
  obtain ⟨fr, rfl, fr0, fr1⟩ := arg_int Try.underlying3 (hval 2 _ _ rfl rfl)
  exact windows16_walk n fr a1 cap1 L W hL1 hm1

set_option maxRecDepth 100000 in
theorem majorWindows_lifted (os : Os) (started : os.Started) (H : Type) (enc : TypeId × Value → H) :
    ReturnsInHanded {} Try.checked os 3 .any (Rows.majorWindowsSpec.pre6 enc Try.prog Try.f3 Rows.majorWindowsRow.domain false) (Rows.majorWindowsSpec.post enc Try.prog Try.f3 false true false false) :=
  law_lifted (s := Rows.majorWindowsSpec) Try.func3 (by kernel_rfl) (by kernel_rfl) (of_decide_eq_true (by kernel_rfl)) rfl (fun H ds h => by
      match ds, h with
      | [_, _, _], _ => rfl) majorWindows_row os started H enc
    (ChangeSpec.witness6 (enc := enc) (C := Try.checked) false ⟨#[], #[.int .i64 0, .slice none 0 0, .int .i64 0], []⟩ 8 (by kernel_rfl) (by kernel_rfl) (by kernel_rfl) (by kernel_rfl))

set_option maxRecDepth 100000 in
theorem majorWindows_over : Rows.majorWindowsRow.holds Try.pinned (OpenSpec.ofChange Rows.majorWindowsSpec) :=
  OpenClaim.holds_of_wide 3 Try.f3 rfl rfl rfl rfl rfl rfl rfl ⟨rfl, rfl, rfl, rfl, rfl⟩ rfl rfl rfl rfl rfl (by kernel_rfl) Try.func3 (by kernel_rfl)
    (of_decide_eq_true (by kernel_rfl)) (by unfold Func.isWrapper; first | (rw [if_pos (by decide +kernel)]; kernel_rfl) | (rw [if_neg (by decide +kernel)]; exact ⟨rfl, rfl⟩))
    (fun os started H enc _ => majorWindows_lifted os started H enc)

theorem majorWindows_holds : Rows.MajorWindowsSaid := majorWindows_over
#print axioms majorWindows_holds

end Go.Proofs.Ytjacbcephokbbaa
