/- What the functions of package bits return, by walks over their text. -/
import Derived.Test.YtjacbcephokbbaaDoorBase
import Derived.Test.YtjacbcephokbbaaDoorBitsPlain
namespace Go.Proofs.YtjacbcephokbbaaDoor
set_option linter.unusedSimpArgs false
set_option linter.unusedVariables false
set_option maxRecDepth 100000
open Go.RowKit
set_option maxHeartbeats 400000

theorem within_yes (n a b : Int) (w : World) (h0 : a ≤ n) (h1 : n ≤ b) :
    Calls Tryd.prog 59 #[.int .i64 n, .int .i64 a, .int .i64 b] w fun e w' => e = .returned (.bool true) ∧ w = w' := by
  go_enter Tryd.func59, Tryd.ntmps59
  go_wp2
  go_ret
  exact ⟨by simp, rfl⟩

theorem mask_eq (m : Int) (h1 : 1 ≤ m) (h2 : m ≤ 64) : (18446744073709551615 : Int) / 2 ^ (64 - m).toNat = 2 ^ m.toNat - 1 := by
  obtain ⟨k, rfl⟩ := Int.eq_ofNat_of_zero_le (show 0 ≤ m by omega)
  have : ∀ k : Nat, k < 65 → 1 ≤ k → (18446744073709551615 : Int) / 2 ^ ((64 : Int) - (k : Int)).toNat = 2 ^ ((k : Int)).toNat - 1 := by decide
  exact this k (by omega) (by omega)

theorem mask_yes (f m : Int) (w : World) (h0 : 0 ≤ f) (h1 : 1 ≤ m) (h2 : f + m ≤ 64) :
    Calls Tryd.prog 53 #[.int .i64 f, .int .i64 m] w fun e w' => e = .returned (.tuple #[.int .u64 (2 ^ m.toNat - 1), .bool true]) ∧ w = w' := by
  have H := Lib.hid (mask_eq m h1 (by omega))
  go_enter Tryd.func53, Tryd.ntmps53
  go_wp2_with (go_at_call 59; refine (within_yes _ _ _ _ (by omega) (by omega)).mono ?_; rintro e w' ⟨rfl, rfl⟩)
  go_ret2
  exact ⟨by simp [H.out], rfl⟩

theorem put_yes (x y f m : Int) (w : World) (hx : 0 ≤ x) (hx' : x < 18446744073709551616) (h0 : 0 ≤ f) (h1 : 1 ≤ m) (h2 : f + m ≤ 64) (hy : 0 ≤ y) (hy' : y < 2 ^ m.toNat) :
    Calls Tryd.prog 39 #[.int .u64 x, .int .u64 y, .int .i64 f, .int .i64 m] w fun e w' => e = .returned (.tuple #[.int .u64 (Pl.put x y f.toNat m.toNat), .bool true]) ∧ ∃ n, w' = w.drewN n := by
  have H := Lib.hid (Pl.put_bits x y f.toNat m.toNat hx hx' (by omega) hy hy')
  have hz : (bits BinOp.andNot IntKind.u64 y (2 ^ m.toNat - 1) != 0) = false := by
    rw [Pl.andNot_small y m.toNat (by omega) hy hy']; rfl
  go_enter Tryd.func39, Tryd.ntmps39
  go_wp2_with (go_at_call 53; refine (mask_yes _ _ _ (by omega) (by omega) (by omega)).mono ?_; rintro e w' ⟨rfl, rfl⟩)
  go_quiet (fail)
  go_wp2
  go_ret2
  exact ⟨by simp [H.out], _, rfl⟩

theorem put_bd (x y : Int) (f m : Nat) (hx : 0 ≤ x) (hx' : x < 18446744073709551616) (hfm : f + m ≤ 64) (hy : 0 ≤ y) (hy' : y < 2 ^ m) :
    0 ≤ Pl.put x y f m ∧ Pl.put x y f m < 18446744073709551616 := by
  rw [← Pl.put_bits x y f m hx hx' hfm hy hy']
  have := bits_within .or .u64 (bits .andNot .u64 x (IntKind.u64.wrap ((2 ^ m - 1) * 2 ^ f))) (IntKind.u64.wrap (y * 2 ^ f))
  simp [IntKind.min, IntKind.max, IntKind.signed, IntKind.bits] at this
  omega


theorem u64_in' (x : Int) (h : 0 ≤ x) (h' : x < 18446744073709551616) : IntKind.u64.wrap x = x := IntWalk.u64_in _ ⟨h, by omega⟩

end Go.Proofs.YtjacbcephokbbaaDoor
