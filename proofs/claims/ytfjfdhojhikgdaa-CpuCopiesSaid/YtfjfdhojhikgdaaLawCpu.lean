/- Plain facts on steps, and registers that are laid in a block. -/
import Derived.Test.YtfjfdhojhikgdaaAwake13
namespace Go.Proofs.Ytfjfdhojhikgdaa
set_option linter.unusedSimpArgs false
set_option linter.unusedVariables false
open Go.RowKit
set_option maxHeartbeats 8000000

theorem regs_lay (w : World) (r : Nat → Int) (hr : ∀ i, 0 ≤ r i ∧ r i < 18446744073709551616) : RegsIn (w.alloc (.cells #[.int .u64 (r 0), .int .u64 (r 1), .int .u64 (r 2), .int .u64 (r 3), .int .u64 (r 4), .int .u64 (r 5), .int .u64 (r 6), .int .u64 (r 7), .int .u64 (r 8)] 25)) w.heap.size r := by
  refine ⟨(RowF.new w [.int .u64 (r 0), .int .u64 (r 1), .int .u64 (r 2), .int .u64 (r 3), .int .u64 (r 4), .int .u64 (r 5), .int .u64 (r 6), .int .u64 (r 7), .int .u64 (r 8)] 25).congr (fun j hj => ?_), hr⟩
  have : j = 0 ∨ j = 1 ∨ j = 2 ∨ j = 3 ∨ j = 4 ∨ j = 5 ∨ j = 6 ∨ j = 7 ∨ j = 8 := by simp at hj; omega
  rcases this with rfl | rfl | rfl | rfl | rfl | rfl | rfl | rfl | rfl <;> rfl

theorem stE_cases (n : Nat) (first a : Int) : stE n first a = 0 ∨ stE n first a = 9 ∨ stE n first a = 10 := by unfold stE; split; simp; split <;> simp

/-- With an error nothing changes; with a call just where it goes on. -/
theorem stepM_fails (n : Nat) (first : Int) (r W : Nat → Int) (h : (stepM n first r W).e ≠ 0) : (stepM n first r W).W = W ∧ (stepM n first r W).r = (if (stepM n first r W).e = 14 then setF r 8 ((r 8 % 65536 + 1) % 65536) else r) := by
  unfold stepM at h ⊢
  split
  · simp
  · rename_i h1
    rw [if_neg h1] at h
    split
    · simp
    · rename_i h2
      rw [if_neg h2] at h
      have hok : okX (W (r 8 % 65536).toNat) = true := by simpa using h2
      obtain ⟨⟨o0, o1⟩, _, _, _, _⟩ := xP_bd _ hok
      generalize xP (W (r 8 % 65536).toNat) 0 = op at *
      generalize xP (W (r 8 % 65536).toNat) 1 = a at *
      generalize xP (W (r 8 % 65536).toNat) 2 = b at *
      generalize xP (W (r 8 % 65536).toNat) 3 = c at *
      generalize xP (W (r 8 % 65536).toNat) 4 = m at *
      rcases op_cases o0 o1 with ho | ho | ho | ho | ho | ho | ho | ho | ho | ho | ho | ho <;> subst ho
      all_goals simp [stepI, doE, doR, doW, nextI] at h ⊢
      · have hl := ldE_cases n (IntKind.u64.wrap (r b.toNat + m) % 65536)
        generalize ldE n (IntKind.u64.wrap (r b.toNat + m) % 65536) = E at *
        rcases hl with rfl | rfl
        · simp at h
        · simp
      · have hl := stE_cases n first (IntKind.u64.wrap (r b.toNat + m) % 65536)
        have hw : stE n first (IntKind.u64.wrap (r b.toNat + m) % 65536) ≠ 0 → stW n first W (IntKind.u64.wrap (r b.toNat + m) % 65536) (r a.toNat) = W := by intro h'; unfold stW; rw [if_neg h']
        generalize stE n first (IntKind.u64.wrap (r b.toNat + m) % 65536) = E at *
        rcases hl with rfl | rfl | rfl
        · simp at h
        · simp [hw]
        · simp [hw]

theorem eq8 (x0 x1 x2 x3 x4 x5 x6 x7 : Int) (w : World) : (Op.equalIn 9999 23 (.agg #[.int .u64 x0, .int .u64 x1, .int .u64 x2, .int .u64 x3, .int .u64 x4, .int .u64 x5, .int .u64 x6, .int .u64 x7]) (.agg #[.int .u64 x0, .int .u64 x1, .int .u64 x2, .int .u64 x3, .int .u64 x4, .int .u64 x5, .int .u64 x6, .int .u64 x7])).run Try.prog w = .ok true w := by
  have u3 := Try.underlying22
  have a3 := Try.isAgg22
  have z3 := Try.sizeOf22
  rw [show (9999 : Nat) = 9998 + 1 from rfl, Op.equalIn]
  simp only [Sem.run_bind, run_underlying Try.underlying23, Result.andThen_ok]
  simp only [Std.Legacy.Range.forIn_eq_forIn_range', Std.Legacy.Range.size, Nat.sub_zero, Nat.add_sub_cancel, Nat.div_one, List.range'_succ, List.range'_zero, List.forIn_cons, List.forIn_nil]
  go_simp

end Go.Proofs.Ytfjfdhojhikgdaa
