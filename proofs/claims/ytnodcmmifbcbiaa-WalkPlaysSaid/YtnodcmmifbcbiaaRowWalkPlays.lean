/- For every input the law WalkPlays returns true and leaves each argument as it was. There is no condition. -/
import Derived.Test.YtnodcmmifbcbiaaOpen07
import Derived.Test.YtnodcmmifbcbiaaOpen
import Derived.Test.YtnodcmmifbcbiaaLawWalkPlays
namespace Go.Proofs.Ytnodcmmifbcbiaa
set_option linter.unusedSimpArgs false
set_option linter.unusedVariables false
open Go.ChangeShapes Go.WideShapes Go.ChangeAt Go.RowKit

theorem walkPlays_row : LawWalk 8 Try.f8 := by
  intro H enc W base vs ds ps hval hA hlt hfz hsz
  rw [Try.params8] at hval hA hsz
  obtain ⟨v0, vs0, d0, ds0, p0, q0, rfl, rfl, rfl, h0, r0⟩ := trodAll_cons hA
  obtain ⟨v1, vs1, d1, ds1, p1, q1, rfl, rfl, rfl, h1, r1⟩ := trodAll_cons r0
  obtain ⟨v2, vs2, d2, ds2, p2, q2, rfl, rfl, rfl, h2, r2⟩ := trodAll_cons r1
  obtain ⟨rfl, rfl, rfl⟩ := trodAll_nil r2
  obtain ⟨fr, rfl, fr0, fr1⟩ := arg_int Try.underlying3 (hval 0 _ _ rfl rfl)
  obtain ⟨a, len, cap, rfl⟩ := okWide_slice Try.underlying41 (hval 1 _ _ rfl rfl)
  obtain ⟨b, len2, cap2, rfl⟩ := okWide_slice Try.underlying42 (hval 2 _ _ rfl rfl)
  obtain ⟨L, hL, hm, hok⟩ := ops_open h1
  obtain ⟨fu, hf⟩ := h2
  obtain ⟨hc1, hc2, Pg, _, hP⟩ := ints_open Try.underlying42 Try.underlying3 (by kernel_rfl) hf
  unfold maxLen at hc2
  by_cases hfr : 1 ≤ fr ∧ fr ≤ 256
  · exact walkPlays_walk fr a b len cap len2 cap2 L Pg W hL hm hok hP (by omega) hfr.1 hfr.2
  exact walkPlays_no fr a b len cap len2 cap2 W hfr

set_option maxRecDepth 100000 in
theorem walkPlays_lifted (os : Os) (started : os.Started) (H : Type) (enc : TypeId × Value → H) :
    ReturnsInHanded {} Try.checked os 8 .any (Rows.walkPlaysSpec.pre6 enc Try.prog Try.f8 Rows.walkPlaysRow.domain false) (Rows.walkPlaysSpec.post enc Try.prog Try.f8 false true false false) :=
  law_lifted (s := Rows.walkPlaysSpec) Try.func8 (by kernel_rfl) (by kernel_rfl) (of_decide_eq_true (by kernel_rfl)) rfl (fun H ds h => by
      match ds, h with
      | [_, _, _], _ => rfl) walkPlays_row os started H enc
    (ChangeSpec.witness6 (enc := enc) (C := Try.checked) false ⟨#[], #[.int .i64 0, .slice none 0 0, .slice none 0 0], []⟩ 8 (by kernel_rfl) (by kernel_rfl) (by kernel_rfl) (by kernel_rfl))

set_option maxRecDepth 100000 in
theorem walkPlays_over : Rows.walkPlaysRow.holds Try.pinned (OpenSpec.ofChange Rows.walkPlaysSpec) :=
  OpenClaim.holds_of_wide 8 Try.f8 rfl rfl rfl rfl rfl rfl rfl ⟨rfl, rfl, rfl, rfl, rfl⟩ rfl rfl rfl rfl rfl (by kernel_rfl) Try.func8 (by kernel_rfl)
    (of_decide_eq_true (by kernel_rfl)) (by unfold Func.isWrapper; first | (rw [if_pos (by decide +kernel)]; kernel_rfl) | (rw [if_neg (by decide +kernel)]; exact ⟨rfl, rfl⟩))
    (fun os started H enc _ => walkPlays_lifted os started H enc)

theorem walkPlays_holds : Rows.WalkPlaysSaid := walkPlays_over
#print axioms walkPlays_holds

end Go.Proofs.Ytnodcmmifbcbiaa
