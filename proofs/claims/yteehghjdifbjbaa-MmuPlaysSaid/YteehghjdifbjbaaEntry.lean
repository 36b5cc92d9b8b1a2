/- What the functions of package entry return, by walks over their text. -/
import Derived.Test.YteehghjdifbjbaaBits
namespace Go.Proofs.Yteehghjdifbjbaa
set_option linter.unusedSimpArgs false
set_option linter.unusedVariables false
set_option maxRecDepth 100000
open Go.RowKit
set_option maxHeartbeats 400000

/-- A truth as a number. -/
def flagI (b : Bool) : Int := if b then 1 else 0

theorem flag_any (b : Bool) (w : World) :
    Calls Try.prog 79 #[.bool b] w fun e w' => e = .returned (.int .u64 (flagI b)) ∧ w = w' := by
  go_enter Try.func79, Try.ntmps79
  cases b <;> go_wp2 <;> go_ret <;> exact ⟨rfl, rfl⟩

theorem fields_any (w : World) :
    Calls Try.prog 75 #[] w fun e w' => e = .returned (.agg #[.int .i64 0, .int .i64 1, .int .i64 1, .int .i64 1, .int .i64 2, .int .i64 1, .int .i64 8, .int .i64 8]) ∧ ∃ o, w' = w.alloc o := by
  go_enter Try.func75, Try.ntmps75
  go_wp2
  go_returns
  exact ⟨rfl, _, rfl⟩

/-- May an entry be? -/
def rightB (v wr tb : Bool) (fr : Int) : Bool := if v then decide (0 ≤ fr) && decide (fr < 256) && !(wr && tb) else !wr && !tb && decide (fr = 0)

theorem right_any (v wr tb : Bool) (fr : Int) (w : World) :
    Calls Try.prog 78 #[.agg #[.bool v, .bool wr, .bool tb, .int .i64 fr]] w fun e w' => e = .returned (.bool (rightB v wr tb fr)) ∧ ∃ o, w' = w.alloc o := by
  go_enter Try.func78, Try.ntmps78
  cases v <;> go_wp2 <;> go_ret <;> exact ⟨by first | (simp [rightB, *]; done) | (simp [rightB]; omega), _, rfl⟩

theorem word_no (v wr tb : Bool) (fr : Int) (w : World) (h : rightB v wr tb fr = false) :
    Calls Try.prog 48 #[.agg #[.bool v, .bool wr, .bool tb, .int .i64 fr]] w fun e w' => e = .returned (.tuple #[.int .u64 0, .int .i64 1]) ∧ Below w.heap.size w w' := by
  go_enter Try.func48, Try.ntmps48
  go_wp2_with (go_at_call 78; refine (right_any _ _ _ _ _).mono ?_; rintro e w' ⟨rfl, o, rfl⟩; rw [h])
  go_ret2
  exact ⟨rfl, by go_grown⟩

theorem right_bd {v wr tb : Bool} {fr : Int} (h : rightB v wr tb fr = true) : 0 ≤ fr ∧ fr < 256 := by
  cases v
  · simp [rightB] at h; omega
  · simp [rightB] at h; omega
theorem flag_bd (b : Bool) : 0 ≤ flagI b ∧ flagI b < 2 := by cases b <;> simp [flagI]

/-- An entry's word. -/
def wordI (v wr tb : Bool) (fr : Int) : Int := flagI v + 2 * flagI wr + 4 * flagI tb + 256 * fr

theorem word_p0 (v : Bool) : Pl.put 0 (flagI v) (Int.toNat 0) (Int.toNat 1) = flagI v := by cases v <;> rfl
theorem word_p1 (v wr : Bool) : Pl.put (flagI v) (flagI wr) (Int.toNat 1) (Int.toNat 1) = flagI v + 2 * flagI wr := by cases v <;> cases wr <;> rfl
theorem word_p2 (v wr tb : Bool) : Pl.put (flagI v + 2 * flagI wr) (flagI tb) (Int.toNat 2) (Int.toNat 1) = flagI v + 2 * flagI wr + 4 * flagI tb := by cases v <;> cases wr <;> cases tb <;> rfl
theorem word_p3 (v wr tb : Bool) (fr : Int) : Pl.put (flagI v + 2 * flagI wr + 4 * flagI tb) fr (Int.toNat 8) (Int.toNat 8) = wordI v wr tb fr := by
  cases v <;> cases wr <;> cases tb <;> simp [Pl.put, wordI, flagI] <;> omega

end Go.Proofs.Yteehghjdifbjbaa
