/- slices.SortFunc of no block at all. -/
import Derived.Test.YtoiiblajgkdabaaSortB2
import Derived.WalkMore
namespace Go.Proofs.Ytoiiblajgkdabaa
set_option linter.unusedSimpArgs false
set_option linter.unusedVariables false
set_option maxRecDepth 100000
open Go.RowKit
set_option maxHeartbeats 4000000

theorem ins_nil (c : Value) (w : World) : Calls Try.prog 89 #[.slice none 0 0, .int .i64 0, .int .i64 0, c] w fun e w' => e = .returned (.tuple #[]) ∧ w = w' := by
  go_enter Try.func89, Try.ntmps89
  go_wp2_with (fail)
  go_loopw [8] (fun i wr => i = .int .i64 1 ∧ w = wr) (fun _ _ => 0)
  case atStart => exact ⟨rfl, rfl⟩
  case round =>
    obtain ⟨rfl, rfl⟩ := hrel
    go_wp2_with (fail)
    go_end0
    exact ⟨rfl, rfl⟩
theorem len64_nought (w : World) : Calls Try.prog 98 #[.int .u64 0] w fun e w' => e = .returned (.int .i64 0) ∧ w = w' := by
  go_enter Try.func98, Try.ntmps98
  go_wp2_with (fail)
  go_ret
  exact ⟨by show Ending.returned (Value.int .i64 (wrap64 (wrap64 (Lib.len8 0)))) = _; rw [show wrap64 (wrap64 (Lib.len8 0)) = 0 by decide +kernel], rfl⟩
theorem len_nought (w : World) : Calls Try.prog 79 #[.int .u64 0] w fun e w' => e = .returned (.int .i64 0) ∧ w = w' := by
  go_enter Try.func79, Try.ntmps79
  go_wp2_with (fail)
  refine (len64_nought _).mono ?_
  rintro e w' ⟨rfl, rfl⟩
  go_wp2_with (fail)
  go_ret
  exact ⟨rfl, rfl⟩
theorem pdq_nil (c : Value) (w : World) : Calls Try.prog 78 #[.slice none 0 0, .int .i64 0, .int .i64 0, .int .i64 0, c] w fun e w' => e = .returned (.tuple #[]) ∧ w = w' := by
  go_enter Try.func78, Try.ntmps78
  go_wp2_with (fail)
  go_loopw [1, 2] (fun a b wr => a = .int .i64 0 ∧ b = .int .i64 0 ∧ w = wr) (fun _ _ _ => 0)
  case atStart => exact ⟨rfl, rfl, rfl⟩
  case round =>
    obtain ⟨rfl, rfl, rfl⟩ := hrel
    go_wp2_with (fail)
    refine (ins_nil _ _).mono ?_
    rintro e w' ⟨rfl, rfl⟩
    go_wp2_with (fail)
    exact bodyPost_ret (results_none rfl _ _ _) rfl ⟨rfl, rfl⟩
theorem sort_nil (c : Value) (w : World) : Calls Try.prog 50 #[.slice none 0 0, c] w fun e w' => e = .returned (.tuple #[]) ∧ w = w' := by
  go_enter Try.func50, Try.ntmps50
  go_wp2_with (fail)
  refine (len_nought _).mono ?_
  rintro e w' ⟨rfl, rfl⟩
  go_wp2_with (fail)
  refine (pdq_nil _ _).mono ?_
  rintro e w' ⟨rfl, rfl⟩
  go_wp2_with (fail)
  go_end0
  exact ⟨rfl, rfl⟩

end Go.Proofs.Ytoiiblajgkdabaa
