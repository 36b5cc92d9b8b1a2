/- Left of package buddy. -/
import Derived.Test.YtoiiblajgkdabaaBud7
namespace Go.Proofs.Ytoiiblajgkdabaa
set_option linter.unusedSimpArgs false
set_option linter.unusedVariables false
set_option maxRecDepth 100000
open Go.RowKit
set_option maxHeartbeats 4000000

/-- How many numbers the first lists tell. -/
def sumF (F : Nat → List Int) : Nat → Nat
  | 0 => 0
  | k + 1 => sumF F k + (F k).length * 2 ^ k
theorem sumF_le (F : Nat → List Int) : ∀ k, k ≤ 9 → (∀ o, o < 9 → (F o).length ≤ 256) → sumF F k ≤ k * 65536
  | 0, _, _ => Nat.le_refl _
  | k + 1, h, hl => by
    have ih := sumF_le F k (by omega) hl
    have h1 : (F k).length * 2 ^ k ≤ 256 * 2 ^ 8 := Nat.mul_le_mul (hl k (by omega)) (Nat.pow_le_pow_right (by omega) (by omega))
    unfold sumF; omega
theorem nine_at (x : Nat → Value) (k : Nat) (hk : k < 9) (w : World) : (Instr.index 89 (.agg #[x 0, x 1, x 2, x 3, x 4, x 5, x 6, x 7, x 8]) (.int .i64 k)).run Try.prog w = .ok (x k) w := by
  have hh : k = 0 ∨ k = 1 ∨ k = 2 ∨ k = 3 ∨ k = 4 ∨ k = 5 ∨ k = 6 ∨ k = 7 ∨ k = 8 := by omega
  rcases hh with rfl | rfl | rfl | rfl | rfl | rfl | rfl | rfl | rfl <;> (show _ = _; kernel_rfl)

theorem s_left (pb pm : Nat) (T : Nat → Prop) (H : List Blk) (g w : World) (R : HP) (h : Sat g w (midP pb pm T H * R)) :
    Calls Try.prog 18 #[.pointer (some ⟨pb, 0, none⟩)] w fun e w' => (∃ F, CanF T F ∧ e = .returned (.int .i64 (sumF F 9))) ∧ w = w' := by
  obtain ⟨hb, A, C, F, hcan, hlen, g0, g10, hmap, hls⟩ := h.mid_read
  have c0 : w.cell? ⟨pb, 1, none⟩ = _ := (hls 0 (by omega)).1
  have c1 : w.cell? ⟨pb, 2, none⟩ = _ := (hls 1 (by omega)).1
  have c2 : w.cell? ⟨pb, 3, none⟩ = _ := (hls 2 (by omega)).1
  have c3 : w.cell? ⟨pb, 4, none⟩ = _ := (hls 3 (by omega)).1
  have c4 : w.cell? ⟨pb, 5, none⟩ = _ := (hls 4 (by omega)).1
  have c5 : w.cell? ⟨pb, 6, none⟩ = _ := (hls 5 (by omega)).1
  have c6 : w.cell? ⟨pb, 7, none⟩ = _ := (hls 6 (by omega)).1
  have c7 : w.cell? ⟨pb, 8, none⟩ = _ := (hls 7 (by omega)).1
  have c8 : w.cell? ⟨pb, 9, none⟩ = _ := (hls 8 (by omega)).1
  go_enter Try.func18, Try.ntmps18
  go_wp2_with (fail)
  have HN := fun k hk => nine_at (fun i => Value.slice (A i) (F i).length (C i)) k hk
  go_loopw [3, 10] (fun n i wr => ∃ k : Nat, k ≤ 9 ∧ n = .int .i64 (sumF F k) ∧ i = .int .i64 k ∧ w = wr) (fun _ i _ => 9 - (intOf i).toNat)
  case atStart => exact ⟨0, by omega, rfl, rfl, rfl⟩
  case round =>
    obtain ⟨k, hk, rfl, rfl, rfl⟩ := hrel
    by_cases hk9 : k < 9
    · have hd : decide ((k : Int) < 9) = true := by simp; omega
      have hn := HN k hk9
      have hs1 := sumF_le F (k + 1) (by omega) hlen
      have hS : sumF F (k + 1) = sumF F k + (F k).length * 2 ^ k := rfl
      obtain ⟨Q, hQ⟩ : ∃ Q : Nat, 2 ^ k = Q := ⟨_, rfl⟩
      have hQz : (2 : Int) ^ k = (Q : Int) := by rw [← hQ]; push_cast; rfl
      rw [hQ] at hS
      rw [hS] at hs1
      have hm1 : ((F k).length : Int) * (Q : Int) = (((F k).length * Q : Nat) : Int) := by push_cast; rfl
      have hw1 : IntKind.i64.wrap (((F k).length : Int) * (Q : Int)) = (((F k).length * Q : Nat) : Int) := by rw [hm1]; exact IntWalk.i64_in _ ⟨by omega, by omega⟩
      obtain ⟨M, hM⟩ : ∃ M : Nat, (F k).length * Q = M := ⟨_, rfl⟩
      rw [hM] at hw1 hs1 hS
      have hw2 : IntKind.i64.wrap ((sumF F k : Nat) + (M : Int)) = ((sumF F (k + 1) : Nat) : Int) := by rw [hS]; push_cast; exact IntWalk.i64_in _ ⟨by omega, by omega⟩
      have k0 : (0 : Int) ≤ (k : Int) := by omega
      have k64 : (k : Int) ≤ 64 := by omega
      have HS := Lib.hid hS
      clear hm1 hM hS hQ
      go_wp2_with (fail)
      go_roundw
      case rel => exact ⟨k + 1, by omega, rfl, by go_num, by first | trivial | rfl⟩
      case measure => simp [intOf]; omega
    · obtain rfl : k = 9 := by omega
      go_wp2_with (fail)
      go_ret
      exact ⟨⟨F, hcan, rfl⟩, rfl⟩

end Go.Proofs.Ytoiiblajgkdabaa
