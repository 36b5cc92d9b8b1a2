/- For every input the law CpuHangs returns true and leaves each argument as it was. There is no condition. -/
import Derived.Test.YtfjfdhojhikgdaaOpen13
import Derived.Test.YtfjfdhojhikgdaaLawCpuHangs
namespace Go.Proofs.Ytfjfdhojhikgdaa
set_option linter.unusedSimpArgs false
set_option linter.unusedVariables false
open Go.ChangeShapes Go.WideShapes Go.ChangeAt Go.RowKit

theorem cpuHangs_row : LawWalk 6 Try.f6 := by
  intro H enc W base vs ds ps hval hA hlt hfz hsz
  rw [Try.params6] at hval hA hsz
  obtain ⟨v0, vs0, d0, ds0, p0, q0, rfl, rfl, rfl, h0, r0⟩ := trodAll_cons hA
  obtain ⟨v1, vs1, d1, ds1, p1, q1, rfl, rfl, rfl, h1, r1⟩ := trodAll_cons r0
  obtain ⟨v2, vs2, d2, ds2, p2, q2, rfl, rfl, rfl, h2, r2⟩ := trodAll_cons r1
  obtain ⟨rfl, rfl, rfl⟩ := trodAll_nil r2
  obtain ⟨l0_0, rfl, ok0_0⟩ := flat_open (ts := [22, 22, 22, 22, 22, 22, 22, 22, 22]) (by kernel_rfl) (by kernel_rfl) (by kernel_rfl) (hval 0 _ _ rfl rfl)
  obtain ⟨_, l0_1, rfl, o0_0, ok0_1⟩ := okAll_cons ok0_0
  obtain ⟨x0, rfl, x00, x01⟩ := cell_int Try.underlying22 o0_0
  obtain ⟨_, l0_2, rfl, o0_1, ok0_2⟩ := okAll_cons ok0_1
  obtain ⟨x1, rfl, x10, x11⟩ := cell_int Try.underlying22 o0_1
  obtain ⟨_, l0_3, rfl, o0_2, ok0_3⟩ := okAll_cons ok0_2
  obtain ⟨x2, rfl, x20, x21⟩ := cell_int Try.underlying22 o0_2
  obtain ⟨_, l0_4, rfl, o0_3, ok0_4⟩ := okAll_cons ok0_3
  obtain ⟨x3, rfl, x30, x31⟩ := cell_int Try.underlying22 o0_3
  obtain ⟨_, l0_5, rfl, o0_4, ok0_5⟩ := okAll_cons ok0_4
  obtain ⟨x4, rfl, x40, x41⟩ := cell_int Try.underlying22 o0_4
  obtain ⟨_, l0_6, rfl, o0_5, ok0_6⟩ := okAll_cons ok0_5
  obtain ⟨x5, rfl, x50, x51⟩ := cell_int Try.underlying22 o0_5
  obtain ⟨_, l0_7, rfl, o0_6, ok0_7⟩ := okAll_cons ok0_6
  obtain ⟨x6, rfl, x60, x61⟩ := cell_int Try.underlying22 o0_6
  obtain ⟨_, l0_8, rfl, o0_7, ok0_8⟩ := okAll_cons ok0_7
  obtain ⟨x7, rfl, x70, x71⟩ := cell_int Try.underlying22 o0_7
  obtain ⟨_, l0_9, rfl, o0_8, ok0_9⟩ := okAll_cons ok0_8
  obtain ⟨x8, rfl, x80, x81⟩ := cell_int Try.underlying22 o0_8
  obtain rfl := okAll_nil ok0_9
  obtain ⟨a, n, cap, rfl⟩ := okWide_slice Try.underlying26 (hval 1 _ _ rfl rfl)
  obtain ⟨fu, hf⟩ := h1
  obtain ⟨hm, hnil, V, hV, ha⟩ := words_open hf
  obtain ⟨most, rfl, most0, most1⟩ := arg_int Try.underlying3 (hval 2 _ _ rfl rfl)
  by_cases hl : n ≤ 100 ∧ 0 ≤ most ∧ most ≤ 200
  · exact cpuHangs_walk (fun j => [x0, x1, x2, x3, x4, x5, x6, x7, x8].getD j 0) V a n cap most W (list_bd (l := [x0, x1, x2, x3, x4, x5, x6, x7, x8]) (by intro x hx; simp at hx; rcases hx with rfl | rfl | rfl | rfl | rfl | rfl | rfl | rfl | rfl <;> (simp [IntKind.min, IntKind.max, IntKind.signed, IntKind.bits] at *; omega))) ha hnil hV hl.1 hl.2.1 hl.2.2
  exact cpuHangs_long (fun j => [x0, x1, x2, x3, x4, x5, x6, x7, x8].getD j 0) a n cap most W (by omega) hm

set_option maxRecDepth 100000 in
theorem cpuHangs_lifted (os : Os) (started : os.Started) (H : Type) (enc : TypeId × Value → H) :
    ReturnsInHanded {} Try.checked os 6 .any (Rows.cpuHangsSpec.pre6 enc Try.prog Try.f6 Rows.cpuHangsRow.domain false) (Rows.cpuHangsSpec.post enc Try.prog Try.f6 false true false false) :=
  law_lifted (s := Rows.cpuHangsSpec) Try.func6 (by kernel_rfl) (by kernel_rfl) (of_decide_eq_true (by kernel_rfl)) rfl (fun H ds h => by
      match ds, h with
      | [_, _, _], _ => rfl) cpuHangs_row os started H enc
    (ChangeSpec.witness6 (enc := enc) (C := Try.checked) false ⟨#[], #[.agg #[.int .u64 0, .int .u64 0, .int .u64 0, .int .u64 0, .int .u64 0, .int .u64 0, .int .u64 0, .int .u64 0, .int .u64 0], .slice none 0 0, .int .i64 0], []⟩ 8 (by kernel_rfl) (by kernel_rfl) (by kernel_rfl) (by kernel_rfl))

set_option maxRecDepth 100000 in
theorem cpuHangs_over : Rows.cpuHangsRow.holds Try.pinned (OpenSpec.ofChange Rows.cpuHangsSpec) :=
  OpenClaim.holds_of_wide 6 Try.f6 rfl rfl rfl rfl rfl rfl rfl ⟨rfl, rfl, rfl, rfl, rfl⟩ rfl rfl rfl rfl rfl (by kernel_rfl) Try.func6 (by kernel_rfl)
    (of_decide_eq_true (by kernel_rfl)) (by unfold Func.isWrapper; first | (rw [if_pos (by decide +kernel)]; kernel_rfl) | (rw [if_neg (by decide +kernel)]; exact ⟨rfl, rfl⟩))
    (fun os started H enc _ => cpuHangs_lifted os started H enc)

theorem cpuHangs_holds : Rows.CpuHangsSaid := cpuHangs_over
#print axioms cpuHangs_holds

end Go.Proofs.Ytfjfdhojhikgdaa
