/- For every input the law EntryPlaces returns true and leaves each argument as it was. There is no condition. -/
import Derived.Test.YtnodcmmifbcbiaaFrame
import Derived.Test.YtnodcmmifbcbiaaLaw06
namespace Go.Proofs.Ytnodcmmifbcbiaa
set_option linter.unusedSimpArgs false
set_option linter.unusedVariables false
open Go.ChangeShapes Go.WideShapes Go.ChangeAt Go.RowKit

theorem entryPlaces_row : LawWalk 5 Try.f5 := by
  intro H enc W base vs ds ps hval hA hlt hfz hsz
  rw [Try.params5] at hval hA hsz
  obtain ⟨v0, vs0, d0, ds0, p0, q0, rfl, rfl, rfl, h0, r0⟩ := trodAll_cons hA
  obtain ⟨v1, vs1, d1, ds1, p1, q1, rfl, rfl, rfl, h1, r1⟩ := trodAll_cons r0
  obtain ⟨rfl, rfl, rfl⟩ := trodAll_nil r1
  obtain ⟨p, rfl, p0, p1⟩ := arg_int Try.underlying3 (hval 0 _ _ rfl rfl)
  obtain ⟨l1_0, rfl, ok1_0⟩ := flat_open (ts := [3, 3, 3]) (by kernel_rfl) (by kernel_rfl) (by kernel_rfl) (hval 1 _ _ rfl rfl)
  obtain ⟨_, l1_1, rfl, o1_0, ok1_1⟩ := okAll_cons ok1_0
  obtain ⟨a, rfl, a0, a1⟩ := cell_int Try.underlying3 o1_0
  obtain ⟨_, l1_2, rfl, o1_1, ok1_2⟩ := okAll_cons ok1_1
  obtain ⟨b, rfl, b0, b1⟩ := cell_int Try.underlying3 o1_1
  obtain ⟨_, l1_3, rfl, o1_2, ok1_3⟩ := okAll_cons ok1_2
  obtain ⟨c, rfl, c0, c1⟩ := cell_int Try.underlying3 o1_2
  obtain rfl := okAll_nil ok1_3
  exact entryPlaces_walk p a b c ⟨p0, p1⟩ ⟨a0, a1⟩ ⟨b0, b1⟩ ⟨c0, c1⟩ W

set_option maxRecDepth 100000 in
theorem entryPlaces_lifted (os : Os) (started : os.Started) (H : Type) (enc : TypeId × Value → H) :
    ReturnsInHanded {} Try.checked os 5 .any (Rows.entryPlacesSpec.pre6 enc Try.prog Try.f5 Rows.entryPlacesRow.domain false) (Rows.entryPlacesSpec.post enc Try.prog Try.f5 false true false false) :=
  law_lifted (s := Rows.entryPlacesSpec) Try.func5 (by kernel_rfl) (by kernel_rfl) (of_decide_eq_true (by kernel_rfl)) rfl (fun H ds h => by
      match ds, h with
      | [_, _], _ => rfl) entryPlaces_row os started H enc
    (ChangeSpec.witness6 (enc := enc) (C := Try.checked) false ⟨#[], #[.int .i64 0, .agg #[.int .i64 0, .int .i64 0, .int .i64 0]], []⟩ 8 (by kernel_rfl) (by kernel_rfl) (by kernel_rfl) (by kernel_rfl))

set_option maxRecDepth 100000 in
theorem entryPlaces_over : Rows.entryPlacesRow.holds Try.pinned (OpenSpec.ofChange Rows.entryPlacesSpec) :=
  OpenClaim.holds_of_wide 5 Try.f5 rfl rfl rfl rfl rfl rfl rfl ⟨rfl, rfl, rfl, rfl, rfl⟩ rfl rfl rfl rfl rfl (by kernel_rfl) Try.func5 (by kernel_rfl)
    (of_decide_eq_true (by kernel_rfl)) (by unfold Func.isWrapper; first | (rw [if_pos (by decide +kernel)]; kernel_rfl) | (rw [if_neg (by decide +kernel)]; exact ⟨rfl, rfl⟩))
    (fun os started H enc _ => entryPlaces_lifted os started H enc)

theorem entryPlaces_holds : Rows.EntryPlacesSaid := entryPlaces_over
#print axioms entryPlaces_holds

end Go.Proofs.Ytnodcmmifbcbiaa
