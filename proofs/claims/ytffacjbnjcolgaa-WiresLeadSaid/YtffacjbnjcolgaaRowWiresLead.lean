/- For every input the law WiresLead returns true and leaves each argument as it was. There is no condition. -/
import Derived.Test.YtffacjbnjcolgaaFrame
import Derived.Test.YtffacjbnjcolgaaLawWiresLead
namespace Go.Proofs.Ytffacjbnjcolgaa
set_option linter.unusedSimpArgs false
set_option linter.unusedVariables false
set_option maxRecDepth 100000
open Go.ChangeShapes Go.WideShapes Go.ChangeAt Go.RowKit

theorem wiresLead_row : LawWalk 3 Try.f3 := by
  intro H enc W base vs ds ps hval hA hlt hfz hsz
  rw [Try.params3] at hval hA hsz
  obtain ⟨v0, vs0, d0, ds0, p0, q0, rfl, rfl, rfl, h0, r0⟩ := trodAll_cons hA
  obtain ⟨v1, vs1, d1, ds1, p1, q1, rfl, rfl, rfl, h1, r1⟩ := trodAll_cons r0
  obtain ⟨v2, vs2, d2, ds2, p2, q2, rfl, rfl, rfl, h2, r2⟩ := trodAll_cons r1
  obtain ⟨rfl, rfl, rfl⟩ := trodAll_nil r2
  obtain ⟨fr, rfl, fr0, fr1⟩ := arg_int Try.underlying3 (hval 0 _ _ rfl rfl)
  obtain ⟨tt, rfl, tt0, tt1⟩ := arg_int Try.underlying3 (hval 1 _ _ rfl rfl)
  obtain ⟨l2_0, rfl, ok2_0⟩ := flat_open (ts := [3, 3]) (by kernel_rfl) (by kernel_rfl) (by kernel_rfl) (hval 2 _ _ rfl rfl)
  obtain ⟨_, l2_1, rfl, o2_0, ok2_1⟩ := okAll_cons ok2_0
  obtain ⟨o, rfl, o0, o1⟩ := cell_int Try.underlying3 o2_0
  obtain ⟨_, l2_2, rfl, o2_1, ok2_2⟩ := okAll_cons ok2_1
  obtain ⟨k, rfl, k0, k1⟩ := cell_int Try.underlying3 o2_1
  obtain rfl := okAll_nil ok2_2
  exact lead_walk fr tt o k W

set_option maxRecDepth 100000 in
theorem wiresLead_lifted (os : Os) (started : os.Started) (H : Type) (enc : TypeId × Value → H) :
    ReturnsInHanded {} Try.checked os 3 .any (Rows.wiresLeadSpec.pre6 enc Try.prog Try.f3 Rows.wiresLeadRow.domain false) (Rows.wiresLeadSpec.post enc Try.prog Try.f3 false true false false) :=
  law_lifted (s := Rows.wiresLeadSpec) Try.func3 (by kernel_rfl) (by kernel_rfl) (of_decide_eq_true (by kernel_rfl)) rfl (fun H ds h => by
      match ds, h with
      | [_, _, _], _ => rfl) wiresLead_row os started H enc
    (ChangeSpec.witness6 (enc := enc) (C := Try.checked) false ⟨#[], #[.int .i64 0, .int .i64 0, .agg #[.int .i64 0, .int .i64 0]], []⟩ 8 (by kernel_rfl) (by kernel_rfl) (by kernel_rfl) (by kernel_rfl))

set_option maxRecDepth 100000 in
theorem wiresLead_over : Rows.wiresLeadRow.holds Try.pinned (OpenSpec.ofChange Rows.wiresLeadSpec) :=
  OpenClaim.holds_of_wide 3 Try.f3 rfl rfl rfl rfl rfl rfl rfl ⟨rfl, rfl, rfl, rfl, rfl⟩ rfl rfl rfl rfl rfl (by kernel_rfl) Try.func3 (by kernel_rfl)
    (of_decide_eq_true (by kernel_rfl)) (by unfold Func.isWrapper; first | (rw [if_pos (by decide +kernel)]; kernel_rfl) | (rw [if_neg (by decide +kernel)]; exact ⟨rfl, rfl⟩))
    (fun os started H enc _ => wiresLead_lifted os started H enc)

theorem wiresLead_holds : Rows.WiresLeadSaid := wiresLead_over
#print axioms wiresLead_holds

end Go.Proofs.Ytffacjbnjcolgaa
