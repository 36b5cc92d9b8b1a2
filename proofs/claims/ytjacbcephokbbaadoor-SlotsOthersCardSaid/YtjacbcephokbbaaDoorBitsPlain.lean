/- Plain facts on words and bits: what the bit functions compute, said by division and remainder. No Go in sight. -/
import Derived.Laws.BitsAllLaws
import Derived.RowKit
namespace Go.Proofs.YtjacbcephokbbaaDoor.Pl
set_option linter.unusedSimpArgs false
set_option linter.unusedVariables false
set_option maxRecDepth 100000
open Go

theorem and_mask (x : Int) (m : Nat) (hx : 0 ≤ x) (hx' : x < 18446744073709551616) (hm : m ≤ 64) :
    bits .and .u64 x (2 ^ m - 1) = x % 2 ^ m := by
  obtain ⟨n, rfl⟩ := Int.eq_ofNat_of_zero_le hx
  have hm2 : (2 : Nat) ^ m ≤ 2 ^ 64 := Nat.pow_le_pow_right (by omega) hm
  have hp := Nat.pow_pos (n := m) (show 0 < 2 by omega)
  have e : ((2 : Int) ^ m - 1) = ((2 ^ m - 1 : Nat) : Int) := by
    rw [Int.natCast_sub (by omega)]; simp
  rw [e, u64_and_nat _ _ (by omega) (by omega), Nat.and_two_pow_sub_one_eq_mod]
  simp

/-- The word x with the bits y at the places f to f + m - 1. -/
def put (x y : Int) (f m : Nat) : Int := x - x / 2 ^ f % 2 ^ m * 2 ^ f + y * 2 ^ f

theorem put_nat (x y f m : Nat) (hx : x < 2 ^ 64) (hfm : f + m ≤ 64) (hy : y < 2 ^ m) :
    (x &&& (2 ^ 64 - 1 - (2 ^ m - 1) * 2 ^ f)) ||| (y * 2 ^ f) = 2 ^ (f + m) * (x / 2 ^ (f + m)) + (2 ^ f * y + x % 2 ^ f) := by
  have pf := Nat.pow_pos (n := f) (show 0 < 2 by omega)
  have pm := Nat.pow_pos (n := m) (show 0 < 2 by omega)
  have hm : (2 ^ m - 1) * 2 ^ f < 2 ^ 64 := by
    have h1 : (2 ^ m - 1) * 2 ^ f < 2 ^ m * 2 ^ f := Nat.mul_lt_mul_of_pos_right (by omega) pf
    rw [← Nat.pow_add] at h1
    exact Nat.lt_of_lt_of_le h1 (Nat.pow_le_pow_right (by omega) (by omega))
  have hlo : 2 ^ f * y + x % 2 ^ f < 2 ^ (f + m) := by
    have h1 : x % 2 ^ f < 2 ^ f := Nat.mod_lt _ pf
    have h2 : 2 ^ f * (y + 1) ≤ 2 ^ f * 2 ^ m := Nat.mul_le_mul_left _ (by omega)
    rw [Nat.pow_add]; rw [Nat.mul_add] at h2; omega
  apply Nat.eq_of_testBit_eq
  intro j
  rw [Nat.testBit_two_pow_mul_add _ hlo, Nat.testBit_two_pow_mul_add _ (Nat.mod_lt _ pf)]
  have e : 2 ^ 64 - 1 - (2 ^ m - 1) * 2 ^ f = 2 ^ 64 - ((2 ^ m - 1) * 2 ^ f + 1) := by omega
  rw [Nat.testBit_or, Nat.testBit_and, e, Nat.testBit_two_pow_sub_succ hm, Nat.testBit_mul_two_pow, Nat.testBit_mul_two_pow, Nat.testBit_two_pow_sub_one, Nat.testBit_div_two_pow, Nat.testBit_mod_two_pow]
  by_cases h64 : j < 64
  · by_cases h1 : j < f
    · simp [h64, h1, show j < f + m by omega, show ¬ f ≤ j by omega]
    · by_cases h2 : j < f + m
      · simp [h64, h1, h2, show f ≤ j by omega, show j - f < m by omega]
      · have hy' : y.testBit (j - f) = false := Nat.testBit_lt_two_pow (Nat.lt_of_lt_of_le hy (Nat.pow_le_pow_right (by omega) (by omega)))
        simp [h64, h1, h2, show f ≤ j by omega, show ¬ j - f < m by omega, hy', show j - (f + m) + (f + m) = j by omega]
  · have hx' : x.testBit j = false := Nat.testBit_lt_two_pow (Nat.lt_of_lt_of_le hx (Nat.pow_le_pow_right (by omega) (by omega)))
    have hy' : y.testBit (j - f) = false := Nat.testBit_lt_two_pow (Nat.lt_of_lt_of_le hy (Nat.pow_le_pow_right (by omega) (by omega)))
    simp [h64, hx', hy', show ¬ j < f + m by omega, show j - (f + m) + (f + m) = j by omega]

theorem put_bits (x y : Int) (f m : Nat) (hx : 0 ≤ x) (hx' : x < 18446744073709551616) (hfm : f + m ≤ 64) (hy : 0 ≤ y) (hy' : y < 2 ^ m) :
    bits .or .u64 (bits .andNot .u64 x (IntKind.u64.wrap ((2 ^ m - 1) * 2 ^ f))) (IntKind.u64.wrap (y * 2 ^ f)) = put x y f m := by
  obtain ⟨x, rfl⟩ := Int.eq_ofNat_of_zero_le hx
  obtain ⟨y, rfl⟩ := Int.eq_ofNat_of_zero_le hy
  have hx2 : x < 2 ^ 64 := by omega
  have hy2 : y < 2 ^ m := by exact_mod_cast hy'
  have pf := Nat.pow_pos (n := f) (show 0 < 2 by omega)
  have pm := Nat.pow_pos (n := m) (show 0 < 2 by omega)
  have hle : (2 : Nat) ^ m * 2 ^ f ≤ 2 ^ 64 := by rw [← Nat.pow_add]; exact Nat.pow_le_pow_right (by omega) (by omega)
  have hm : (2 ^ m - 1) * 2 ^ f < 2 ^ 64 := Nat.lt_of_lt_of_le (Nat.mul_lt_mul_of_pos_right (by omega) pf) hle
  have hyf : y * 2 ^ f < 2 ^ 64 := Nat.lt_of_lt_of_le (Nat.mul_lt_mul_of_pos_right (by omega) pf) hle
  have e1 : ((2 : Int) ^ m - 1) * 2 ^ f = (((2 ^ m - 1) * 2 ^ f : Nat) : Int) := by
    rw [Int.natCast_mul, Int.natCast_sub (by omega)]; simp
  have e2 : ((y : Nat) : Int) * 2 ^ f = ((y * 2 ^ f : Nat) : Int) := by simp
  rw [e1, e2, IntKind.wrap_u64, IntKind.wrap_u64, Int.emod_eq_of_lt (by omega) (by omega), Int.emod_eq_of_lt (by omega) (by omega)]
  rw [u64_andNot_nat _ _ (by omega) (by omega), u64_or_nat _ _ (Nat.lt_of_le_of_lt Nat.and_le_left (by omega)) (by omega)]
  have h := put_nat x y f m hx2 hfm hy2
  rw [show (2 ^ 64 - 1 : Nat) = 18446744073709551615 from rfl] at h
  rw [h]
  have d1 := Nat.div_add_mod x (2 ^ f)
  have d2 := Nat.div_add_mod (x / 2 ^ f) (2 ^ m)
  rw [Nat.div_div_eq_div_mul, ← Nat.pow_add] at d2
  unfold put
  rw [show ((x : Int) / 2 ^ f % 2 ^ m * 2 ^ f) = ((x / 2 ^ f % 2 ^ m * 2 ^ f : Nat) : Int) by simp, e2]
  have d3 : 2 ^ f * (x / 2 ^ f) = 2 ^ (f + m) * (x / 2 ^ (f + m)) + x / 2 ^ f % 2 ^ m * 2 ^ f := by
    have := congrArg (2 ^ f * ·) d2
    simp only [Nat.mul_add] at this
    rw [← this, ← Nat.mul_assoc, ← Nat.pow_add, Nat.mul_comm (2 ^ f) (_ % _)]
  rw [Nat.mul_comm (2 ^ f) y]
  omega

theorem andNot_small (y : Int) (m : Nat) (hm : m ≤ 64) (hy : 0 ≤ y) (hy' : y < 2 ^ m) : bits .andNot .u64 y (2 ^ m - 1) = 0 := by
  obtain ⟨n, rfl⟩ := Int.eq_ofNat_of_zero_le hy
  have hm2 : (2 : Nat) ^ m ≤ 2 ^ 64 := Nat.pow_le_pow_right (by omega) hm
  have hp := Nat.pow_pos (n := m) (show 0 < 2 by omega)
  have hn : n < 2 ^ m := by exact_mod_cast hy'
  have e : ((2 : Int) ^ m - 1) = ((2 ^ m - 1 : Nat) : Int) := by
    rw [Int.natCast_sub (by omega)]; simp
  rw [e, u64_andNot_nat _ _ (by omega) (by omega)]
  have : n &&& (18446744073709551615 - (2 ^ m - 1)) = 0 := by
    apply Nat.eq_of_testBit_eq
    intro j
    rw [show (18446744073709551615 - (2 ^ m - 1) : Nat) = 2 ^ 64 - ((2 ^ m - 1) + 1) by omega, Nat.testBit_and, Nat.testBit_two_pow_sub_succ (by omega), Nat.testBit_two_pow_sub_one]
    by_cases h : j < m
    · simp [h]
    · have : n.testBit j = false := Nat.testBit_lt_two_pow (Nat.lt_of_lt_of_le hn (Nat.pow_le_pow_right (by omega) (by omega)))
      simp [this]
  rw [this]; rfl
end Go.Proofs.YtjacbcephokbbaaDoor.Pl
